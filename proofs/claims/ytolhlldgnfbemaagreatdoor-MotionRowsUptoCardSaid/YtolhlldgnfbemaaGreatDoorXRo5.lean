/- YtolhlldgnfbemaaGreatDoorXRo5: parts of the proof, put together by program. -/
import Derived.Test.YtolhlldgnfbemaaGreatDoorXRo4
set_option linter.unusedVariables false
set_option linter.unusedSimpArgs false
set_option linter.unusedSectionVars false
noncomputable section
namespace Go.Proofs.YtolhlldgnfbemaaGreatDoor
open Gly
namespace Clu
structure Sc where
 last : Nat
 flags : Nat
 pict : Nat
 conj : Nat
def Sc.zero : Sc := ⟨0, 0, 0, 0⟩
def Sc.note (s : Sc) (c p : Nat) : Sc :=
 ⟨c, if c = 6 then s.flags + 1 else 0, if c = 14 then 1 else if s.pict = 1 /\ c = 5 then 2 else if s.pict = 1 /\ c = 4 then s.pict else 0,
  if p = 1 then 1 else if 0 < s.conj /\ p = 3 then 2 else if 0 < s.conj /\ p = 2 then s.conj else 0⟩
def apart (c : Nat) : Bool := decide (c = 1 \/ c = 2 \/ c = 3)
def Je (l r : Nat) : Bool :=
 decide ((l = 9 /\ (r = 9 \/ r = 10 \/ r = 12 \/ r = 13)) \/ ((l = 12 \/ l = 10) /\ (r = 10 \/ r = 11)) \/ ((l = 13 \/ l = 11) /\ r = 11))
def joins (s : Sc) (c p : Nat) : Bool :=
 if s.last = 1 /\ c = 2 then true else if apart s.last = true \/ apart c = true then false else if c = 4 \/ c = 5 \/ c = 8 \/ s.last = 7 then true else if Je s.last c then true
 else if p = 1 /\ s.conj = 2 then true else if c = 14 then s.pict == 2 else if c = 6 then s.flags % 2 == 1 else false
def stp (s : Sc) (a : Int) : Sc := if joins s (cls a) (cnj a) then s.note (cls a) (cnj a) else Sc.zero.note (cls a) (cnj a)
def sc (l : List Int) : Sc := l.foldl stp Sc.zero
theorem L9 (a : Int) : stp Sc.zero a = Sc.zero.note (cls a) (cnj a) := by unfold stp; split <;> rfl
theorem Ay9 {s : Sc} {a : Int} (h : joins s (cls a) (cnj a) = false) : stp s a = stp Sc.zero a := by rw [L9]; unfold stp; rw [if_neg (by rw [h]; decide)]
theorem Aa5 {s : Sc} {a : Int} (h : joins s (cls a) (cnj a) = true) : stp s a = s.note (cls a) (cnj a) := by unfold stp; rw [if_pos h]
theorem Vz (l : List Int) (a : Int) : sc (l ++ [a]) = stp (sc l) a := by simp [sc]
theorem Bi0 (s : Sc) (a : Int) : (stp s a).flags <= s.flags + 1 := by
 unfold stp
 split <;> (simp only [Sc.note, Sc.zero]; split <;> omega)
theorem Bq3 (l : List Int) : (sc l).flags <= l.length := by
 have key : ∀ (l : List Int) (s : Sc), (l.foldl stp s).flags <= s.flags + l.length := by
  intro l
  induction l with
  | nil => intro s; simp
  | cons a r ih => intro s; have := ih (stp s a); have := Bi0 s a; simp only [List.foldl_cons, List.length_cons]; omega
 have := key l Sc.zero
 simpa [sc, Sc.zero] using this
theorem An4 (s : Sc) (a : Int) : (stp s a).last = cls a := by unfold stp; split <;> rfl
def bk (A : List Int) (k : Nat) : Bool := match A[k]? with
 | some a => k == 0 || !joins (sc (A.take k)) (cls a) (cnj a)
 | none => k == A.length
theorem Xy (A : List Int) : bk A 0 = true := by
 unfold bk
 cases A <;> simp
theorem Aj1 (A : List Int) : bk A A.length = true := by
 unfold bk
 rw [List.getElem?_eq_none (Nat.le_refl _)]
 simp
theorem Bc6 {A : List Int} {k : Nat} {a : Int} (h : A[k]? = some a) (h0 : 0 < k) : bk A k = !joins (sc (A.take k)) (cls a) (cnj a) := by
 unfold bk
 rw [h]
 have : (k == 0) = false := by rw [beq_eq_false_iff_ne]; omega
 simp [this]
theorem Aq0 {A : List Int} {k : Nat} (h : bk A k = true) : k <= A.length := by
 unfold bk at h
 split at h
 ·rename_i a ha
  have := (List.getElem?_eq_some_iff.1 ha).1
  omega
 ·simp only [beq_iff_eq] at h; omega
theorem Ch8 {A : List Int} {i : Nat} {a : Int} (hb : bk A i = true) (ha : A[i]? = some a) : sc (A.take (i + 1)) = sc [a] := by
 rw [List.take_add_one, ha]
 show sc (A.take i ++ [a]) = _
 rw [Vz]
 show _ = stp Sc.zero a
 cases i with
 | zero => rfl
 | succ i =>
  rw [Bc6 ha (by omega)] at hb
  exact Ay9 (by simpa using hb)
def Jp (A : List Int) (k : Nat) : List Nat := (List.range (k + 1)).filter (bk A)
def cuts (A : List Int) : List Nat := Jp A A.length
theorem Ao6 (A : List Int) : Jp A 0 = [0] := by
 unfold Jp
 have : List.range (0 + 1) = [0] := rfl
 rw [this, List.filter_cons_of_pos (Xy A)]; rfl
theorem Ao7 {A : List Int} {i j : Nat} (hij : i < j) (hb : bk A j = true) (hn : ∀ k, i < k -> k < j -> bk A k = false) : Jp A j = Jp A i ++ [j] := by
 unfold Jp
 have key : ∀ d, i + d < j -> (List.range (i + d + 1)).filter (bk A) = (List.range (i + 1)).filter (bk A) := by
  intro d
  induction d with
  | zero => intro _; rfl
  | succ d ih =>
   intro h
   rw [show i + (d + 1) + 1 = (i + d + 1) + 1 by omega, List.range_succ, List.filter_append, ih (by omega), List.filter_cons_of_neg (by rw [hn _ (by omega) (by omega)]; decide)]
   simp
 rw [List.range_succ, List.filter_append, List.filter_cons_of_pos hb]
 obtain ⟨d, rfl⟩ : ∃ d, j = i + d + 1 := ⟨j - i - 1, by omega⟩
 rw [key d (by omega)]; rfl
theorem Am6 {A : List Int} {k : Nat} : k ∈ cuts A ↔ bk A k = true := by
 unfold cuts Jp
 rw [List.mem_filter, List.mem_range]
 exact ⟨λ h => h.2, λ h => ⟨by have := Aq0 h; omega, h⟩⟩
theorem Bz1 {A : List Int} : (cuts A).Pairwise (· < ·) := (List.pairwise_lt_range).filter _
theorem X3 (A : List Int) (k : Nat) : (Jp A k).length <= k + 1 := by
 unfold Jp
 have := List.length_filter_le (bk A) (List.range (k + 1))
 rwa [List.length_range] at this
end Clu
end Go.Proofs.YtolhlldgnfbemaaGreatDoor
set_option maxRecDepth 100000
namespace Go.Proofs.YtolhlldgnfbemaaGreatDoor
open Go Go.Vx
def F131 (a0 : Sl) (K : Sl -> Wp) : Wp := Ae (.cells #[(vI 0)] 3) λ b1 => Ae (.cells #[(.slice none 0 0)] 43) λ b2 => stC (at0 b2) (.slice (some (at0 b1)) 1 1) <| Aa Tryz.prog 177 #[a0.v, (vI 0), (.func (Fn.func 178) #[] #[(.pointer (some (at0 b2)))])] (.tup []) λ (x3 : (Unit)) => ld (.sl) (at0 b2) λ (x4 : Sl) => K x4
def Cu4 : Hint := (hS (hR 1) (hS (hR 3) (hS (hR 3) (hS (hR 2) hL))))
theorem Dh7 {a0 : Sl} {K : Sl -> Wp} {w : World} (h : F131 a0 K w) : Aa Tryz.prog 131 #[a0.v] rS K w := tied Ah Tryz.func131 Cu4 _ h
def F177 (a0 : Sl) (a1 : Int) (a2 : Value) (K : Unit -> Wp) : Wp := sI (λ s1 again2 => sif (decide (s1.1 < ((a0.len : Nat) : Int))) ( ixI a0 s1.1 1 λ x4 => Aa Tryz.prog 201 #[(vI x4)] (.one (.agg X9)) λ (x5 : I4) => Ae (.cells #[(vI 0), (vI 0), (vI 0), (vI 0)] 205) λ b6 => Ad (at0 b6) (vA X9 x5) 4 <| jU (λ J7 => sI (λ s9 again10 => sif (decide (s9.1 < ((a0.len : Nat) : Int))) ( ixI a0 s9.1 1 λ x12 => cB 202 #[(.pointer (some (at0 b6))), (vI x12)] λ x13 => sif x13 ( again10 ((W64 (s9.1 + 1)), ())) ( Bv Tryz.prog (do let d ← Deferred.ofValue a2 #[(vI s9.1)]; invoke d.target d.args : Sem Next) rB λ (x14 : Bool) => sif (!x14) ( K ()) ( again2 (s9.1, ())))) ( J7 ())) ((W64 (s1.1 + 1)), ())) λ s8 => Bv Tryz.prog (do let d ← Deferred.ofValue a2 #[(vI ((a0.len : Nat) : Int))]; invoke d.target d.args : Sem Next) rB λ (x15 : Bool) => K ()) ( K ())) (a1, ())
def Cr4 : Hint := (.scope (hS (hR 2) (hS hL (.block (.loop 0x1fffffffdc0 [(6, tI)] (hS (hS (hR 4) (hC hL hL)) (.block (hS (hR 7) (hJ (0x1ffff80140, []) (hS (hR 3) (.block (.loop 0x1fffe00140 [(8, tI)] (hS (hS (hR 4) (hC hL hL)) (hS (.block (hS (hS (hR 5) (hC hL hL)) (hS (hS (hR 4) (hC hL hL)) (hS (hR 2) hL)))) (hR 3)))))) (hS (hR 4) hL))))))))))
theorem De9 {a0 : Sl} {a1 : Int} {a2 : Value} {K : Unit -> Wp} {w : World} (h : F177 a0 a1 a2 K w) : Aa Tryz.prog 177 #[a0.v, (vI a1), a2] (.tup []) K w := tied Ah Tryz.func177 Cr4 _ h
def F178 (a0 : Int) (v0 : Addr) (K : Bool -> Wp) : Wp := ld (.sl) v0 λ (x1 : Sl) => Ae (.cells #[(vI a0)] 3) λ b2 => Dw Tryz.prog rS (Builtin.append_ #[43, 43] 43 #[x1.v, (.slice (some (at0 b2)) 1 1)]) λ (x3 : Sl) => stC v0 x3.v <| K true
def Cr3 : Hint := (hS (hR 1) (hS (hR 5) (hS (hR 1) hL)))
theorem De8 {a0 : Int} {v0 : Addr} {K : Bool -> Wp} {w : World} (h : F178 a0 v0 K w) : Aa Tryz.prog 178 #[(vI a0), (.pointer (some v0))] rB K w := tied Ah Tryz.func178 Cr3 _ h
def F201 (a0 : Int) (K : I4 -> Wp) : Wp := Ae (.cells #[(vI 0), (vI 0), (vI 0), (vI 0)] 205) λ b1 => Ae (.cells #[(vI 0), (vI 0), (vI 0), (vI 0)] 205) λ b2 => cN 207 #[(vI a0)] λ x3 => cN 208 #[(vI a0)] λ x4 => Aa Tryz.prog 206 #[(.pointer (some (at0 b2))), (vI x3), (vI x4)] (.tup []) λ (x5 : (Unit)) => lds X9 (at0 b2) λ (x6 : I4) => Ad (at0 b1) (vA X9 x6) 4 <| lds X9 (at0 b1) λ (x7 : I4) => K x7
def Cq1 : Hint := (hS (hR 1) (hS (hR 1) (hS (hR 5) (hS (hR 2) hL))))
theorem Dd7 {a0 : Int} {K : I4 -> Wp} {w : World} (h : F201 a0 K w) : Aa Tryz.prog 201 #[(vI a0)] (.one (.agg X9)) K w := tied Ah Tryz.func201 Cq1 _ h
def F202 (a0 : Option Addr) (a1 : Int) (K : Bool -> Wp) : Wp := cN 207 #[(vI a1)] λ x1 => cN 208 #[(vI a1)] λ x2 => jB (λ J3 => jB (λ J5 => nn a0 λ p7 => lI p7 λ x8 => sif (x8 == 1) ( J5 ((x1 == 2), ())) ( J5 (false, ()))) λ s6 => sif s6.1 ( J3 (true, ())) ( jB (λ J9 => nn a0 λ p11 => lI p11 λ x12 => cB 209 #[(vI x12)] λ x13 => sif x13 ( J9 (x13, ())) ( cB 209 #[(vI x1)] λ x14 => J9 (x14, ()))) λ s10 => sif s10.1 ( J3 (false, ())) ( jB (λ J15 => sif (x1 == 4) ( J15 ((x1 == 4), ())) ( sif (x1 == 5) ( J15 ((x1 == 5), ())) ( sif (x1 == 8) ( J15 ((x1 == 8), ())) ( nn a0 λ p17 => lI p17 λ x18 => J15 ((x18 == 7), ()))))) λ s16 => sif s16.1 ( J3 (true, ())) ( nn a0 λ p19 => lI p19 λ x20 => cB 210 #[(vI x20), (vI x1)] λ x21 => sif x21 ( J3 (true, ())) ( jB (λ J22 => sif (x2 == 1) ( nn a0 λ p24 => ld cI (p24.add 3) λ (x25 : Int) => J22 ((x25 == 2), ())) ( J22 (false, ()))) λ s23 => sif s23.1 ( J3 (true, ())) ( sif (x1 == 14) ( nn a0 λ p26 => ld cI (p26.add 2) λ (x27 : Int) => J3 ((x27 == 2), ())) ( sif (x1 == 6) ( nn a0 λ p28 => ld cI (p28.add 1) λ (x29 : Int) => chk ((2 : Int) ≠ 0) <| J3 (((Int.tmod x29 2) == 1), ())) ( J3 (false, ()))))))))) λ s4 => jU (λ J30 => sif s4.1 ( Aa Tryz.prog 206 #[(.pointer a0), (vI x1), (vI x2)] (.tup []) λ (x32 : (Unit)) => J30 ()) ( J30 ())) λ s31 => K s4.1
def Cq0 : Hint := (hS (hR 1) (hS (hR 6) (hS (hR 1) (hJ (0xffffffffffffffff080, [(7, tB)]) (.block (hJ (4190208, [(12, tB)]) (.region [] (.ops 6 (.split 18 (hO 4) (.skips 2 (hO 2))))) (hC (hR 1) (hJ (0x3fc00000, [(22, tB)]) (hS (hR 6) (hC hL (hR 3))) (hC hL (hJ (0x3ffc0000000, [(30, tB)]) (hS (hR 3) (hC hL (hS (hR 3) (hC hL (hS (hR 3) (hC hL (hR 6))))))) (hC (hR 1) (hS (hR 7) (hC (hR 1) (hJ ((mR [(49, 59)]), [(49, tB)]) (.region [] (.ops 3 (.split 52 (hO 7) (.skips 5 (hO 2))))) (hC (hR 1) (hS (hR 3) (hC (hR 6) (hS (hR 3) (hC (hR 7) hL))))))))))))))) (hJ ((mR [(76, 81)]), []) (hS (hR 1) (hC (hR 4) hL)) (hS (hR 2) hL))))))
theorem Dd6 {a0 : Option Addr} {a1 : Int} {K : Bool -> Wp} {w : World} (h : F202 a0 a1 K w) : Aa Tryz.prog 202 #[(.pointer a0), (vI a1)] rB K w := tied Ah Tryz.func202 Cq0 _ h
def F205 (a0 : Int) (K : Int -> Wp) : Wp := cB 211 #[(vI a0)] λ x1 => sif (!x1) ( K 1) ( cN 212 #[(.string Ol), (vI a0)] λ x2 => sif (x2 == 2) ( K 2) ( sif (x2 == 1) ( K 0) ( K 1)))
def Cp7 : Hint := (hS (hR 1) (hS (hS (hR 3) (hC (hS (hR 1) hL) hL)) (hS (hS (hR 2) (.block (hS (hR 2) (hC (hS (hR 1) hL) (hS (hR 2) (hC (hS (hR 1) hL) hL)))))) (hS (hR 1) hL))))
theorem Dd4 {a0 : Int} {K : Int -> Wp} {w : World} (h : F205 a0 K w) : Aa Tryz.prog 205 #[(vI a0)] rI K w := tied Ah Tryz.func205 Cp7 _ h
def F206 (a0 : Option Addr) (a1 : Int) (a2 : Int) (K : Unit -> Wp) : Wp := nn a0 λ p1 => stC p1 (vI a1) <| jU (λ J2 => sif (a1 == 6) ( nn a0 λ p4 => ld cI (p4.add 1) λ (x5 : Int) => nn a0 λ p6 => stC (p6.add 1) (vI (W64 (x5 + 1))) <| J2 ()) ( nn a0 λ p7 => stC (p7.add 1) (vI 0) <| J2 ())) λ s3 => jU (λ J8 => sif (a1 == 14) ( nn a0 λ p10 => stC (p10.add 2) (vI 1) <| J8 ()) ( jB (λ J11 => nn a0 λ p13 => ld cI (p13.add 2) λ (x14 : Int) => sif (x14 == 1) ( J11 ((a1 == 5), ())) ( J11 (false, ()))) λ s12 => sif s12.1 ( nn a0 λ p15 => stC (p15.add 2) (vI 2) <| J8 ()) ( jB (λ J16 => nn a0 λ p18 => ld cI (p18.add 2) λ (x19 : Int) => sif (x19 == 1) ( J16 ((a1 == 4), ())) ( J16 (false, ()))) λ s17 => sif s17.1 ( J8 ()) ( nn a0 λ p20 => stC (p20.add 2) (vI 0) <| J8 ())))) λ s9 => sif (a2 == 1) ( nn a0 λ p21 => stC (p21.add 3) (vI 1) <| K ()) ( jB (λ J22 => nn a0 λ p24 => ld cI (p24.add 3) λ (x25 : Int) => sif (decide (x25 > 0)) ( J22 ((a2 == 3), ())) ( J22 (false, ()))) λ s23 => sif s23.1 ( nn a0 λ p26 => stC (p26.add 3) (vI 2) <| K ()) ( jB (λ J27 => nn a0 λ p29 => ld cI (p29.add 3) λ (x30 : Int) => sif (decide (x30 > 0)) ( J27 ((a2 == 2), ())) ( J27 (false, ()))) λ s28 => sif s28.1 ( K ()) ( nn a0 λ p31 => stC (p31.add 3) (vI 0) <| K ())))
def Cp6 : Hint := (hS (hR 5) (hJ (4193280, []) (hS (hR 2) (hC (hR 8) (hR 4))) (hJ ((mR [(22, 54)]), []) (.block (hS (hR 3) (hC (hR 4) (hJ (0x1ff80000000, [(31, tB)]) (.region [] (.ops 6 (.split 37 (hO 4) (.skips 2 (hO 2))))) (hC (hR 4) (hJ ((mR [(44, 54)]), [(44, tB)]) (.region [] (.ops 6 (.split 50 (hO 4) (.skips 2 (hO 2))))) (hC hL (hR 4)))))))) (.block (hS (hR 3) (hC (hR 4) (hJ ((mR [(63, 73)]), [(63, tB)]) (.region [] (.ops 6 (.split 69 (hO 4) (.skips 2 (hO 2))))) (hC (hR 4) (hJ ((mR [(76, 86)]), [(76, tB)]) (.region [] (.ops 6 (.split 82 (hO 4) (.skips 2 (hO 2))))) (hC hL (hR 4)))))))))))
theorem Dd3 {a0 : Option Addr} {a1 : Int} {a2 : Int} {K : Unit -> Wp} {w : World} (h : F206 a0 a1 a2 K w) : Aa Tryz.prog 206 #[(.pointer a0), (vI a1), (vI a2)] (.tup []) K w := tied Ah Tryz.func206 Cp6 _ h
def F207 (a0 : Int) (K : Int -> Wp) : Wp := cB 211 #[(vI a0)] λ x1 => sif (!x1) ( K 3) ( jB (λ J2 => sif (decide ((W64 (a0 - 44032)) >= 0)) ( J2 ((decide ((W64 (a0 - 44032)) < 11172)), ())) ( J2 (false, ()))) λ s3 => sif s3.1 ( chk ((28 : Int) ≠ 0) <| sif ((Int.tmod (W64 (a0 - 44032)) 28) == 0) ( K 12) ( K 13)) ( cN 212 #[(.string Om), (vI a0)] λ x4 => K x4))
def Cp5 : Hint := (hS (hR 1) (hS (hS (hR 3) (hC (hS (hR 1) hL) hL)) (hS (hS (hR 3) (hJ (32256, [(14, tB)]) (.region [] (.ops 3 (.split 11 (hO 3) (.skips 2 (hO 1))))) (hC (hS (hS (hR 3) (hC (hS (hR 1) hL) hL)) (hS (hR 1) hL)) hL))) (hS (hR 3) hL))))
theorem Dd2 {a0 : Int} {K : Int -> Wp} {w : World} (h : F207 a0 K w) : Aa Tryz.prog 207 #[(vI a0)] rI K w := tied Ah Tryz.func207 Cp5 _ h
def F208 (a0 : Int) (K : Int -> Wp) : Wp := jB (λ J1 => sif (a0 == 2381) ( J1 ((a0 == 2381), ())) ( sif (a0 == 2509) ( J1 ((a0 == 2509), ())) ( sif (a0 == 2765) ( J1 ((a0 == 2765), ())) ( sif (a0 == 2893) ( J1 ((a0 == 2893), ())) ( sif (a0 == 3149) ( J1 ((a0 == 3149), ())) ( J1 ((a0 == 3405), ()))))))) λ s2 => sif s2.1 ( K 3) ( sif (a0 == 8204) ( K 0) ( jU (λ J3 => cN 207 #[(vI a0)] λ x5 => jB (λ J6 => sif (x5 == 4) ( J6 ((x5 == 4), ())) ( J6 ((x5 == 5), ()))) λ s7 => sif s7.1 ( K 2) ( sif (x5 == 0) ( cB 211 #[(vI a0)] λ x8 => sif x8 ( cN 212 #[(.string Oo), (vI a0)] λ x9 => K x9) ( J3 ())) ( J3 ()))) λ s4 => K 0))
def Cp4 : Hint := (hS (hR 1) (hS (hS (hR 1) (.block (hJ (2032, [(4, tB)]) (hS (hR 2) (hC hL (hS (hR 2) (hC hL (hS (hR 2) (hC hL (hS (hR 2) (hC hL (hS (hR 2) (hC hL (hR 2))))))))))) (hC (hS (hR 1) hL) (hS (hR 2) (hC (hS (hR 1) hL) hL)))))) (hJ (0xffe004, []) (hS (hR 2) (.block (hJ (229376, [(15, tB)]) (hS (hR 2) (hC hL (hR 2))) (hC (hS (hR 1) hL) (hS (hR 2) (hC (hS (hR 2) (hC (hS (hR 3) hL) hL)) hL)))))) (hS (hR 1) hL))))
theorem Dd1 {a0 : Int} {K : Int -> Wp} {w : World} (h : F208 a0 K w) : Aa Tryz.prog 208 #[(vI a0)] rI K w := tied Ah Tryz.func208 Cp4 _ h
def F209 (a0 : Int) (K : Bool -> Wp) : Wp := sif (a0 == 1) ( K true) ( sif (a0 == 2) ( K true) ( K (a0 == 3)))
def Cp3 : Hint := (hS (hR 1) (hS (.region [] (.ops 3 (.split 5 (.skips 2 (.ops 2 (.skips 2 (hO 2)))) (.ops 4 (.split 9 (.skips 2 (hO 2)) (hO 4)))))) hL))
theorem Dd0 {a0 : Int} {K : Bool -> Wp} {w : World} (h : F209 a0 K w) : Aa Tryz.prog 209 #[(vI a0)] rB K w := tied Ah Tryz.func209 Cp3 _ h
def F210 (a0 : Int) (a1 : Int) (K : Bool -> Wp) : Wp := jU (λ J1 => jB (λ J3 => sif (a1 == 9) ( J3 ((a1 == 9), ())) ( sif (a1 == 12) ( J3 ((a1 == 12), ())) ( J3 ((a1 == 13), ())))) λ s4 => sif s4.1 ( K (a0 == 9)) ( sif (a1 == 10) ( sif (a0 == 9) ( K true) ( J1 ())) ( sif (a1 == 11) ( J1 ()) ( K false)))) λ s2 => jB (λ J5 => sif (a0 == 12) ( J5 (true, ())) ( J5 ((a0 == 10), ()))) λ s6 => sif s6.1 ( K true) ( sif (a1 == 11) ( sif (a0 == 13) ( K true) ( K (a0 == 11))) ( K false))
def Cp2 : Hint := (hS (hR 1) (hS (hS (hR 1) (.block (hJ (262096, []) (.block (hS (.block (hS (.block (hS (hS (hJ (960, [(6, tB)]) (hS (hR 2) (hC hL (hS (hR 2) (hC hL (hR 2))))) (hC hL hL)) (hS (hS (hR 2) (hC hL hL)) (hS (hR 2) (hC hL hL)))) hL)) (hS (hS (hR 3) hL) hL))) (hS (hR 2) (hC (hS (hR 1) hL) hL)))) (hS (hS (hJ (0xfc0000, [(23, tB)]) (.region [] (.ops 3 (.split 20 (.skips 2 (hO 1)) (hO 3)))) (hC (hS (hR 1) hL) hL)) (hS (.region [] (.ops 3 (.split 26 (.ops 3 (.split 29 (.skips 2 (hO 3)) (hO 5))) (.skips 6 (hO 2))))) hL)) hL)))) (hS (hR 1) hL)))
theorem Dc9 {a0 : Int} {a1 : Int} {K : Bool -> Wp} {w : World} (h : F210 a0 a1 K w) : Aa Tryz.prog 210 #[(vI a0), (vI a1)] rB K w := tied Ah Tryz.func210 Cp2 _ h
def F211 (a0 : Int) (K : Bool -> Wp) : Wp := sif (decide (a0 >= 0)) ( sif (decide (a0 < 55296)) ( K true) ( sif (decide (a0 > 57343)) ( K (decide (a0 <= 1114111))) ( K false))) ( sif (decide (a0 > 57343)) ( K (decide (a0 <= 1114111))) ( K false))
def Cp1 : Hint := (hS (hR 1) (hS (.region [] (.ops 3 (.split 5 (.ops 4 (.split 9 (.skips 6 (hO 2)) (.ops 3 (.split 12 (hO 5) (.skips 2 (hO 3)))))) (.skips 2 (.ops 5 (.split 12 (hO 5) (.skips 2 (hO 3)))))))) hL))
theorem Dc8 {a0 : Int} {K : Bool -> Wp} {w : World} (h : F211 a0 K w) : Aa Tryz.prog 211 #[(vI a0)] rB K w := tied Ah Tryz.func211 Cp1 _ h
def F212 (a0 : ByteArray) (a1 : Int) (K : Int -> Wp) : Wp := chk ((11 : Int) ≠ 0) <| jU (λ J1 => sN (λ s3 again4 => sif (decide (s3.1 < s3.2.1)) ( chk ((2 : Int) ≠ 0) <| chk (0 <= (W64 ((W64 (Int.tdiv (W64 (s3.1 + s3.2.1)) 2)) * 11)) /\ (W64 ((W64 (Int.tdiv (W64 (s3.1 + s3.2.1)) 2)) * 11)) <= (W64 ((W64 ((W64 (Int.tdiv (W64 (s3.1 + s3.2.1)) 2)) + 1)) * 11)) /\ (W64 ((W64 ((W64 (Int.tdiv (W64 (s3.1 + s3.2.1)) 2)) + 1)) * 11)) <= ((a0.size : Nat) : Int)) <| chk (0 <= (0 : Int) /\ (0 : Int) <= 5 /\ 5 <= (((a0.extract (Int.toNat (W64 ((W64 (Int.tdiv (W64 (s3.1 + s3.2.1)) 2)) * 11))) (Int.toNat (W64 ((W64 ((W64 (Int.tdiv (W64 (s3.1 + s3.2.1)) 2)) + 1)) * 11)))).size : Nat) : Int)) <| cN 213 #[(.string ((a0.extract (Int.toNat (W64 ((W64 (Int.tdiv (W64 (s3.1 + s3.2.1)) 2)) * 11))) (Int.toNat (W64 ((W64 ((W64 (Int.tdiv (W64 (s3.1 + s3.2.1)) 2)) + 1)) * 11)))).extract (Int.toNat 0) (Int.toNat 5)))] λ x5 => sif (decide (a1 < x5)) ( again4 (s3.1, (W64 (Int.tdiv (W64 (s3.1 + s3.2.1)) 2)), ())) ( chk (0 <= (5 : Int) /\ (5 : Int) <= 10 /\ 10 <= (((a0.extract (Int.toNat (W64 ((W64 (Int.tdiv (W64 (s3.1 + s3.2.1)) 2)) * 11))) (Int.toNat (W64 ((W64 ((W64 (Int.tdiv (W64 (s3.1 + s3.2.1)) 2)) + 1)) * 11)))).size : Nat) : Int)) <| cN 213 #[(.string ((a0.extract (Int.toNat (W64 ((W64 (Int.tdiv (W64 (s3.1 + s3.2.1)) 2)) * 11))) (Int.toNat (W64 ((W64 ((W64 (Int.tdiv (W64 (s3.1 + s3.2.1)) 2)) + 1)) * 11)))).extract (Int.toNat 5) (Int.toNat 10)))] λ x6 => sif (decide (a1 > x6)) ( again4 ((W64 ((W64 (Int.tdiv (W64 (s3.1 + s3.2.1)) 2)) + 1)), s3.2.1, ())) ( chk (0 <= (10 : Int) /\ 10 <= (((a0.extract (Int.toNat (W64 ((W64 (Int.tdiv (W64 (s3.1 + s3.2.1)) 2)) * 11))) (Int.toNat (W64 ((W64 ((W64 (Int.tdiv (W64 (s3.1 + s3.2.1)) 2)) + 1)) * 11)))).size : Nat) : Int) /\ (((a0.extract (Int.toNat (W64 ((W64 (Int.tdiv (W64 (s3.1 + s3.2.1)) 2)) * 11))) (Int.toNat (W64 ((W64 ((W64 (Int.tdiv (W64 (s3.1 + s3.2.1)) 2)) + 1)) * 11)))).size : Nat) : Int) <= (((a0.extract (Int.toNat (W64 ((W64 (Int.tdiv (W64 (s3.1 + s3.2.1)) 2)) * 11))) (Int.toNat (W64 ((W64 ((W64 (Int.tdiv (W64 (s3.1 + s3.2.1)) 2)) + 1)) * 11)))).size : Nat) : Int)) <| cN 213 #[(.string ((a0.extract (Int.toNat (W64 ((W64 (Int.tdiv (W64 (s3.1 + s3.2.1)) 2)) * 11))) (Int.toNat (W64 ((W64 ((W64 (Int.tdiv (W64 (s3.1 + s3.2.1)) 2)) + 1)) * 11)))).extract (Int.toNat 10) (Int.toNat (((a0.extract (Int.toNat (W64 ((W64 (Int.tdiv (W64 (s3.1 + s3.2.1)) 2)) * 11))) (Int.toNat (W64 ((W64 ((W64 (Int.tdiv (W64 (s3.1 + s3.2.1)) 2)) + 1)) * 11)))).size : Nat) : Int))))] λ x7 => K x7))) ( J1 ())) (0, (W64 (Int.tdiv ((ByteArray.size a0 : Nat) : Int) 11)), ())) λ s2 => K 0
def Cp0 : Hint := (hS (hR 1) (hS (hR 5) (hJ (0xffffffff1f0, []) (.block (.loop 0xffffffff1f0 [(5, tI), (6, tI)] (hS (hS (hR 3) (hC hL hL)) (.block (hS (hR 5) (hS (hR 8) (.block (hS (hR 6) (hC (hR 2) (hS (hR 6) (hC (hR 3) (hS (hR 4) hL)))))))))))) (hS (hR 1) hL))))
theorem Dc7 {a0 : ByteArray} {a1 : Int} {K : Int -> Wp} {w : World} (h : F212 a0 a1 K w) : Aa Tryz.prog 212 #[(.string a0), (vI a1)] rI K w := tied Ah Tryz.func212 Cp0 _ h
def F213 (a0 : ByteArray) (K : Int -> Wp) : Wp := jI (λ J1 => Dw Tryz.prog rP (Instr.range 9 (.string a0)) λ (x3 : Option Addr) => sI (λ s4 again5 => Cb0 Tryz.prog (Instr.next (.pointer x3) true 0) (λ p6 c7 => sif true ( jI (λ J8 => sif (decide (c7 > 57)) ( J8 ((W64 ((W64 (IntKind.wrap .i32 (c7 - 65))) + 10)), ())) ( J8 ((W64 (IntKind.wrap .i32 (c7 - 48))), ()))) λ s9 => again5 ((W64 ((W64 (s4.1 * 16)) + s9.1)), ())) ( J1 (s4.1, ()))) ( sif false ( λ _ => False) ( J1 (s4.1, ())))) (0, ())) λ s2 => K s2.1
def Co9 : Hint := (hS (hR 1) (hS (hR 1) (hJ (33554408, [(3, tI)]) (hS (hR 2) (.block (.loop 33554024 [(3, tI)] (hS (hR 2) (hS (hC hL hL) (.block (hS (hR 2) (hS (hR 4) (hJ (2064448, [(6, tI)]) (hS (hR 2) (hC (hR 5) hL)) (hR 5)))))))))) (hS (hR 2) hL))))
theorem Dc6 {a0 : ByteArray} {K : Int -> Wp} {w : World} (h : F213 a0 K w) : Aa Tryz.prog 213 #[(.string a0)] rI K w := tied Ah Tryz.func213 Co9 _ h
end Go.Proofs.YtolhlldgnfbemaaGreatDoor
namespace Go.Proofs.YtolhlldgnfbemaaGreatDoor
open Go Go.Vx Cdc Gly
section
variable {w w' : World}
theorem wrap32 {a : Int} (h0 : -(2 ^ 31) <= a) (h : a < 2 ^ 31) : IntKind.wrap .i32 a = a := by
 simp only [IntKind.wrap, IntKind.signed, IntKind.bits]
 simp [Int.bmod_def]; omega
theorem Qu {a : Int} {K : Bool -> Wp} (hK : K (decide (Scalar a)) w) : Aa Tryz.prog 211 #[.int .i64 a] rB K w := by
 refine Dc8 ?_
 unfold F211
 have h1 : Scalar a -> K true w := λ h => by rwa [decide_eq_true h] at hK
 have h2 : ¬ Scalar a -> K false w := λ h => by rwa [decide_eq_false h] at hK
 unfold Scalar at h1 h2
 refine Ac (λ h => Ac (λ h' => ?_) (λ h' => Ac (λ h'' => ?_) (λ h'' => ?_))) (λ h => Ac (λ h'' => ?_) (λ h'' => ?_))
 all_goals simp only [decide_eq_true_eq, decide_eq_false_iff_not, gt_iff_lt, ge_iff_le] at *
 ·exact h1 (by omega)
 ·by_cases hc : a <= 1114111
  ·rw [decide_eq_true hc]; exact h1 (by omega)
  ·rw [decide_eq_false hc]; exact h2 (by omega)
 ·exact h2 (by omega)
 ·by_cases hc : a <= 1114111
  ·rw [decide_eq_true hc]; exact h1 (by omega)
  ·rw [decide_eq_false hc]; exact h2 (by omega)
 ·exact h2 (by omega)
theorem Bp6 (w : World) (s : ByteArray) (pos : Nat) : Ext w (w.iter s pos) := Ext.alloc w _
theorem Bn8 (l : Bs) (c : UInt8) : num (l ++ [c]) = num l * 16 + digit c := by simp [num]
theorem Sj {d : ByteArray} (h : d.data.toList.all okC = true) (hs : d.size <= 5) {K : Int -> Wp} (hK : ∀ w', Ext w w' -> K ((num d.data.toList : Nat) : Int) w') :
  Aa Tryz.prog 213 #[.string d] rI K w := by
 refine Dc6 ?_
 unfold F213
 have hl : d.data.toList.length = d.size := Array.length_toList
 refine Af (λ x w' => x = (((num d.data.toList : Nat) : Int), ()) /\ Ext w w') ?_ (λ x w' h => by obtain ⟨rfl, h⟩ := h; exact hK w' h)
 refine ⟨some (at0 w.heap.size), w.iter d 0, run_range_string w 9 d C9.und, ?_⟩
 refine Ba (λ x W => ∃ j, j <= d.size /\ x = (((num (d.data.toList.take j) : Nat) : Int), ()) /\ W = w.iter d j) (λ _ W => match W.heap[w.heap.size]? with | some (.stringIter _ pos) => d.size - pos | _ => 0) ⟨0, Nat.zero_le _, rfl, rfl⟩ ?_
 rintro _ W ⟨j, hj, rfl, rfl⟩
 by_cases hlt : j < d.size
 ·have hc : d.data.toList[j]? = some (d[j]'hlt) := by rw [List.getElem?_eq_getElem (by omega), Array.getElem_toList]; rfl
  have hok : okC (d[j]'hlt) = true := List.all_eq_true.1 h _ (List.mem_of_getElem? hc)
  have hok' := (Ba2 _).1 hok
  refine .inl ⟨_, _, _, run_next_ascii w d j 0 hlt (by omega), ?_⟩
  have hb := Ce5 (d.data.toList.take j) (by rw [List.all_eq_true] at h ⊢; exact λ x hx => h x (List.mem_of_mem_take hx))
  have hb2 : num (d.data.toList.take j) < 16 ^ 4 := Nat.lt_of_lt_of_le hb (Nat.pow_le_pow_right (by decide) (by rw [List.length_take]; omega))
  have hn : num (d.data.toList.take (j + 1)) = num (d.data.toList.take j) * 16 + digit (d[j]'hlt) := by rw [List.take_add_one, hc]; exact Bn8 _ _
  refine Df (Af (λ x W => x = (((digit (d[j]'hlt) : Nat) : Int), ()) /\ W = w.iter d (j + 1)) ?_ ?_)
  ·refine Ac (λ hg => ?_) (λ hg => ?_)
   ·simp only [decide_eq_true_eq, gt_iff_lt] at hg
    refine ⟨?_, rfl⟩
    rw [wrap32 (by omega) (by omega), wrap64 (a := ((d[j]'hlt).toNat : Int) - 65) (by omega) (by omega), wrap64 (by omega) (by omega)]
    unfold digit
    rw [if_pos (by omega)]
    congr 1; omega
   ·simp only [decide_eq_false_iff_not, gt_iff_lt] at hg
    refine ⟨?_, rfl⟩
    rw [wrap32 (by omega) (by omega), wrap64 (by omega) (by omega)]
    unfold digit
    rw [if_neg (by omega)]
    congr 1; omega
  ·rintro _ _ ⟨rfl, rfl⟩
   have hd : digit (d[j]'hlt) < 16 := by unfold digit; split <;> omega
   have ew : W64 (W64 (((num (d.data.toList.take j) : Nat) : Int) * 16) + ((digit (d[j]'hlt) : Nat) : Int)) = ((num (d.data.toList.take (j + 1)) : Nat) : Int) := by
    rw [hn, wrap64 (a := ((num (d.data.toList.take j) : Nat) : Int) * 16) (by omega) (by omega), wrap64 (by omega) (by omega)]; omega
   refine ⟨⟨j + 1, hlt, by dsimp only; rw [ew], rfl⟩, ?_⟩
   rw [World.iter_heap, World.iter_heap]
   show d.size - (j + 1) < d.size - j
   omega
 ·refine .inr ⟨_, run_next_end w d j 0 hlt, Am ⟨?_, Bp6 w d j⟩⟩
  rw [List.take_of_length_le (by omega)]
theorem Uh (b : ByteArray) (s e : Nat) : (b.extract s e).data.toList = (b.data.toList.drop s).take (e - s) := by
 rw [ByteArray.data_extract, Array.toList_extract]
theorem G8 (b : ByteArray) (s e : Nat) (h : e <= b.size) : (b.extract s e).size = e - s := by
 have : (b.extract s e).data.toList.length = (b.extract s e).size := Array.length_toList
 have hb : b.data.toList.length = b.size := Array.length_toList
 rw [← this, Uh, List.length_take, List.length_drop]; omega
theorem Ze {b : ByteArray} (h : b.data.toList.all okC = true) (s e : Nat) : (b.extract s e).data.toList.all okC = true := by
 rw [Uh]
 rw [List.all_eq_true] at h ⊢
 exact λ x hx => h x (List.mem_of_mem_drop (List.mem_of_mem_take hx))
theorem Rq {rows : ByteArray} {n a : Nat} (hn : rows.size = 11 * n) (hs : n <= 1000) (hok : rows.data.toList.all okC = true) (hT : srt 0 (Nz n rows.data.toList) = true) {K : Int -> Wp}
  (hK : ∀ w', Ext w w' -> K ((Iy (Nz n rows.data.toList) a : Nat) : Int) w') : Aa Tryz.prog 212 #[.string rows, .int .i64 (a : Int)] rI K w := by
 refine Dc7 ?_
 unfold F212
 refine Bo (by decide) ?_
 have e0 : W64 (Int.tdiv ((ByteArray.size rows : Nat) : Int) 11) = (n : Int) := by
  rw [hn, Int.tdiv_eq_ediv_of_nonneg (by omega), wrap64 (by omega) (by omega)]; omega
 rw [e0]
 refine Af (λ _ w' => Ext w w' /\ Iy (Nz n rows.data.toList) a = 0) ?_ (λ _ w' h => by have := hK w' h.1; rwa [h.2] at this)
 refine Ba (λ x W => ∃ lo hi : Nat, x = ((lo : Int), (hi : Int), ()) /\ lo <= hi /\ hi <= n /\ Ext w W /\ (∀ (i : Nat) (r : Row), i < lo -> (Nz n rows.data.toList)[i]? = some r -> r.hi < a) /\ (∀ (i : Nat) (r : Row), hi <= i -> (Nz n rows.data.toList)[i]? = some r -> a < r.lo)) (λ x _ => (x.2.1 - x.1).toNat)
  ⟨0, n, rfl, Nat.zero_le _, Nat.le_refl _, Ext.refl w, λ i r h => absurd h (Nat.not_lt_zero _), λ i r h hr => by
   have := (List.getElem?_eq_some_iff.1 hr).1
   rw [Aa9] at this; omega⟩ ?_
 rintro _ W ⟨lo, hi, rfl, hlh, hhn, e1, h1, h2⟩
 dsimp only
 refine Ac (λ hc => ?_) (λ hc => ?_)
 ·simp only [decide_eq_true_eq] at hc
  obtain ⟨m, hm⟩ : ∃ m, m = (lo + hi) / 2 := ⟨_, rfl⟩
  have hmn : m < n := by omega
  have em : W64 (Int.tdiv (W64 ((lo : Int) + (hi : Int))) 2) = (m : Int) := by
   rw [wrap64 (a := (lo : Int) + (hi : Int)) (by omega) (by omega), Int.tdiv_eq_ediv_of_nonneg (by omega), wrap64 (by omega) (by omega)]; omega
  have em1 : W64 ((m : Int) + 1) = ((m + 1 : Nat) : Int) := by rw [wrap64 (by omega) (by omega)]; omega
  have e11 : W64 ((m : Int) * 11) = ((11 * m : Nat) : Int) := by rw [wrap64 (by omega) (by omega)]; omega
  have e12 : W64 (((m + 1 : Nat) : Int) * 11) = ((11 * m + 11 : Nat) : Int) := by rw [wrap64 (by omega) (by omega)]; omega
  rw [em, em1, e11, e12]
  simp only [Int.toNat_natCast]
  have sz : (rows.extract (11 * m) (11 * m + 11)).size = 11 := by rw [G8 _ _ _ (by omega)]; omega
  rw [sz]
  have ll : (rows.extract (11 * m) (11 * m + 11)).data.toList = (rows.data.toList.drop (11 * m)).take 11 := by rw [Uh]; congr 1; omega
  have hrow := Ab0 n rows.data.toList m hmn
  have p1 : ((rows.extract (11 * m) (11 * m + 11)).extract (Int.toNat 0) (Int.toNat (5 : Int))).data.toList = (rows.data.toList.drop (11 * m)).take 5 := by
   rw [Uh, ll]; show List.take 5 (List.drop 0 _) = _
   rw [List.drop_zero, List.take_take]; rfl
  have p2 : ((rows.extract (11 * m) (11 * m + 11)).extract (Int.toNat (5 : Int)) (Int.toNat (10 : Int))).data.toList = (rows.data.toList.drop (11 * m + 5)).take 5 := by
   rw [Uh, ll]; show List.take 5 (List.drop 5 _) = _
   rw [List.drop_take, List.take_take, List.drop_drop]; rfl
  have p3 : ((rows.extract (11 * m) (11 * m + 11)).extract (Int.toNat (10 : Int)) 11).data.toList = (rows.data.toList.drop (11 * m + 10)).take 1 := by
   rw [Uh, ll]; show List.take 1 (List.drop 10 _) = _
   rw [List.drop_take, List.take_take, List.drop_drop]; rfl
  have z1 : ((rows.extract (11 * m) (11 * m + 11)).extract (Int.toNat 0) (Int.toNat (5 : Int))).size <= 5 := by rw [G8 _ _ _ (by rw [sz]; decide)]; decide
  have z2 : ((rows.extract (11 * m) (11 * m + 11)).extract (Int.toNat (5 : Int)) (Int.toNat (10 : Int))).size <= 5 := by rw [G8 _ _ _ (by rw [sz]; decide)]; decide
  have z3 : ((rows.extract (11 * m) (11 * m + 11)).extract (Int.toNat (10 : Int)) 11).size <= 5 := by rw [G8 _ _ _ (by rw [sz]; decide)]; decide
  refine Bo (by decide) (Bo (by omega) (Bo (by omega) (Sj (Ze (Ze hok _ _) _ _) z1 λ w2 x2 => ?_)))
  rw [p1]
  refine Ac (λ hlt => ?_) (λ hlt => ?_)
  ·simp only [decide_eq_true_eq] at hlt
   refine ⟨⟨lo, m, rfl, by omega, by omega, e1.trans x2, h1, λ i r hi hr => ?_⟩, by omega⟩
   rcases Nat.lt_or_ge m i with hmi | hmi
   ·have := Ae8 hT hmi hrow hr
    have := (F6 hT hrow).2
    simp only at *; omega
   ·have : i = m := by omega
    subst this
    rw [hrow] at hr; cases hr
    simp only; omega
  ·simp only [decide_eq_false_iff_not] at hlt
   refine Bo (by omega) (Sj (Ze (Ze hok _ _) _ _) z2 λ w3 x3 => ?_)
   rw [p2]
   refine Ac (λ hgt => ?_) (λ hgt => ?_)
   ·simp only [decide_eq_true_eq, gt_iff_lt] at hgt
    refine ⟨⟨m + 1, hi, rfl, by omega, hhn, (e1.trans x2).trans x3, λ i r hi hr => ?_, h2⟩, by omega⟩
    rcases Nat.lt_or_ge i m with hmi | hmi
    ·have := Ae8 hT hmi hr hrow
     have := (F6 hT hrow).2
     simp only at *; omega
    ·have : i = m := by omega
     subst this
     rw [hrow] at hr; cases hr
     simp only; omega
   ·simp only [decide_eq_false_iff_not, gt_iff_lt] at hgt
    refine Bo (by omega) (Sj (Ze (Ze hok _ _) _ _) z3 λ w4 x4 => ?_)
    rw [p3]
    have := hK w4 (((e1.trans x2).trans x3).trans x4)
    rw [Ba9 hT hrow (by simp only; omega) (by simp only; omega)] at this
    exact this
 ·simp only [decide_eq_false_iff_not] at hc
  refine ⟨e1, Ac6 λ i r hr => ?_⟩
  rcases Nat.lt_or_ge i lo with h | h
  ·exact .inr (h1 i r h hr)
  ·exact .inl (h2 i r (by omega) hr)
theorem Ax2 : Om.size = 11 * 324 /\ Om.data.toList.all okC = true /\ srt 0 Cf6 = true := ⟨by kernel_rfl, by kernel_rfl, by kernel_rfl⟩
theorem Ax1 : Oo.size = 11 * 26 /\ Oo.data.toList.all okC = true /\ srt 0 Bz3 = true := ⟨by kernel_rfl, by kernel_rfl, by kernel_rfl⟩
theorem Ar2 : Ol.size = 11 * 81 /\ Ol.data.toList.all okC = true /\ srt 0 Bd1 = true := ⟨by kernel_rfl, by kernel_rfl, by kernel_rfl⟩
theorem Vs {a : Int} (h : Scalar a) : ∃ n : Nat, a = (n : Int) /\ n <= 1114111 := ⟨a.toNat, by rcases h with h | h <;> omega, by rcases h with h | h <;> omega⟩
theorem Vp {a : Int} {K : Int -> Wp} (hK : ∀ w', Ext w w' -> K ((cls a : Nat) : Int) w') : Aa Tryz.prog 207 #[.int .i64 a] rI K w := by
 refine Dd2 ?_
 unfold F207
 refine Qu (Ac (λ h => ?_) (λ h => ?_))
 ·simp only [Bool.not_eq_true', decide_eq_false_iff_not] at h
  have := hK w (Ext.refl w)
  unfold cls at this
  rw [if_neg h] at this
  exact this
 simp only [Bool.not_eq_false', decide_eq_true_eq] at h
 obtain ⟨n, rfl, hn⟩ := Vs h
 unfold cls at hK
 rw [if_pos h] at hK
 have ew : W64 ((n : Int) - 44032) = (n : Int) - 44032 := wrap64 (by omega) (by omega)
 rw [ew]
 refine Af (λ x w' => x = (decide (44032 <= n /\ n < 55204), ()) /\ w = w') ?_ ?_
 ·refine Ac (λ hg => ⟨Aw ?_, rfl⟩) (λ hg => ⟨Aw ?_, rfl⟩)
  ·simp only [decide_eq_true_eq, ge_iff_le] at hg ⊢; omega
  ·simp only [decide_eq_false_iff_not, decide_eq_true_eq, ge_iff_le] at hg ⊢
   exact ⟨(λ h => by cases h), λ h => by omega⟩
 rintro _ _ ⟨rfl, rfl⟩
 refine Ac (λ hg => ?_) (λ hg => ?_)
 ·simp only [decide_eq_true_eq] at hg
  refine Bo (by decide) ?_
  have e1 : Int.tmod ((n : Int) - 44032) 28 = (((n - 44032) % 28 : Nat) : Int) := by rw [Int.tmod_eq_emod_of_nonneg (by omega)]; omega
  rw [e1]
  have := hK w (Ext.refl w)
  rw [if_pos (by omega), Int.toNat_natCast] at this
  refine Ac (λ h0 => ?_) (λ h0 => ?_)
  ·simp only [beq_iff_eq] at h0
   rw [if_pos (by omega)] at this; exact this
  ·simp only [beq_eq_false_iff_ne] at h0
   rw [if_neg (by omega)] at this; exact this
 ·simp only [decide_eq_false_iff_not] at hg
  rw [if_neg (by omega), Int.toNat_natCast] at hK
  exact Rq Ax2.1 (by decide) Ax2.2.1 Ax2.2.2 λ w1 x1 => hK w1 x1
theorem Vb {a : Int} {K : Int -> Wp} (hK : ∀ w', Ext w w' -> K ((cnj a : Nat) : Int) w') : Aa Tryz.prog 208 #[.int .i64 a] rI K w := by
 refine Dd1 ?_
 unfold F208
 unfold cnj at hK
 refine Af (λ x w' => x = (decide (a = 2381 \/ a = 2509 \/ a = 2765 \/ a = 2893 \/ a = 3149 \/ a = 3405), ()) /\ w = w') ?_ ?_
 ·refine Ac (λ h => ⟨Aw ?_, rfl⟩) (λ h1 => Ac (λ h => ⟨Aw ?_, rfl⟩) (λ h2 => Ac (λ h => ⟨Aw ?_, rfl⟩) (λ h3 => Ac (λ h => ⟨Aw ?_, rfl⟩) (λ h4 => Ac (λ h => ⟨Aw ?_, rfl⟩) (λ h5 => ⟨Aw ?_, rfl⟩)))))
  all_goals simp only [beq_iff_eq, beq_eq_false_iff_ne, ne_eq, decide_eq_true_eq] at *
  all_goals omega
 rintro _ _ ⟨rfl, rfl⟩
 refine Ac (λ h => ?_) (λ h => ?_)
 ·simp only [decide_eq_true_eq] at h
  rw [if_pos h] at hK
  exact hK _ (Ext.refl _)
 simp only [decide_eq_false_iff_not] at h
 rw [if_neg h] at hK
 refine Ac (λ h2 => ?_) (λ h2 => ?_)
 ·simp only [beq_iff_eq] at h2
  rw [if_pos h2] at hK
  exact hK _ (Ext.refl _)
 simp only [beq_eq_false_iff_ne, ne_eq] at h2
 rw [if_neg h2] at hK
 refine Af (λ _ w1 => Ext w w1 /\ ¬ (cls a = 4 \/ cls a = 5) /\ ¬ (cls a = 0 /\ Scalar a)) ?_ (λ _ w1 h3 => by
  have := hK w1 h3.1
  rw [if_neg h3.2.1, if_neg h3.2.2] at this
  exact this)
 refine Vp λ w1 e1 => Af (λ x w2 => x = (decide (cls a = 4 \/ cls a = 5), ()) /\ w1 = w2) ?_ ?_
 ·refine Ac (λ h => ⟨Aw ?_, rfl⟩) (λ h => ⟨Aw ?_, rfl⟩)
  all_goals simp only [beq_iff_eq, beq_eq_false_iff_ne, ne_eq, decide_eq_true_eq] at *
  all_goals omega
 rintro _ _ ⟨rfl, rfl⟩
 refine Ac (λ h => ?_) (λ h3 => ?_)
 ·simp only [decide_eq_true_eq] at h
  rw [if_pos h] at hK
  exact hK _ e1
 simp only [decide_eq_false_iff_not] at h3
 rw [if_neg h3] at hK
 refine Ac (λ h4 => ?_) (λ h4 => ?_)
 ·simp only [beq_iff_eq] at h4
  refine Qu (Ac (λ h5 => ?_) (λ h5 => ?_))
  ·simp only [decide_eq_true_eq] at h5
   rw [if_pos ⟨by omega, h5⟩] at hK
   obtain ⟨n, rfl, hn⟩ := Vs h5
   rw [Int.toNat_natCast] at hK
   exact Rq Ax1.1 (by decide) Ax1.2.1 Ax1.2.2 λ w2 x2 => hK w2 (e1.trans x2)
  ·simp only [decide_eq_false_iff_not] at h5
   exact ⟨e1, h3, λ h => h5 h.2⟩
 ·simp only [beq_eq_false_iff_ne, ne_eq] at h4
  exact ⟨e1, h3, λ h => h4 (by rw [h.1]; rfl)⟩
theorem Bd4 {a : Int} {K : Int -> Wp} (hK : ∀ w', Ext w w' -> K ((wrd a : Nat) : Int) w') : Aa Tryz.prog 205 #[.int .i64 a] rI K w := by
 refine Dd4 ?_
 unfold F205
 unfold wrd at hK
 refine Qu (Ac (λ h => ?_) (λ h => ?_))
 ·simp only [Bool.not_eq_true', decide_eq_false_iff_not] at h
  have := hK w (Ext.refl w)
  rw [if_neg h] at this
  exact this
 simp only [Bool.not_eq_false', decide_eq_true_eq] at h
 rw [if_pos h] at hK
 obtain ⟨n, rfl, hn⟩ := Vs h
 rw [Int.toNat_natCast] at hK
 refine Rq Ar2.1 (by decide) Ar2.2.1 Ar2.2.2 λ w1 x1 => ?_
 have := hK w1 x1
 show sif (((Iy Bd1 n : Nat) : Int) == 2) _ _ w1
 refine Ac (λ h2 => ?_) (λ h2 => ?_)
 ·simp only [beq_iff_eq] at h2
  rw [if_pos (by omega)] at this
  exact this
 ·simp only [beq_eq_false_iff_ne, ne_eq] at h2
  rw [if_neg (by omega)] at this
  show sif (((Iy Bd1 n : Nat) : Int) == 1) _ _ w1
  refine Ac (λ h3 => ?_) (λ h3 => ?_)
  ·simp only [beq_iff_eq] at h3
   rw [if_pos (by omega)] at this
   exact this
  ·simp only [beq_eq_false_iff_ne, ne_eq] at h3
   rw [if_neg (by omega)] at this
   exact this
end
end Go.Proofs.YtolhlldgnfbemaaGreatDoor
namespace Go.Proofs.YtolhlldgnfbemaaGreatDoor
open Go Go.Vx Gly Clu
section
variable {w w' : World}
theorem Ti {a : Addr} {v : Value} (h : w.cell? a = some v) (x : Ext w w') : w'.cell? a = some v := by
 obtain ⟨hs, c, t, fr, hh, hc⟩ := cell_spot h
 obtain ⟨b, o, s⟩ := a
 simp only at hs hh hc
 subst hs
 exact cell_of (x.ext_get hh) hc
theorem Ah8 {c : Cell} {s : Sl} {t : TypeId} {xs : List c.T} {n : Int} {K : Addr -> c.T -> Wp} (h : Bf w s t 1 (xs.map c.val)) (h0 : 0 <= n) {x : c.T} (hx : xs[n.toNat]? = some x)
  (hK : ∀ p, (∀ w', Ext w w' -> w'.cell? (p.add (scaled (Int.toNat n) 1)) = some (c.val x)) -> K p x w) : ix s.a s.len n (λ p => ld c (p.add (scaled (Int.toNat n) 1)) (K p)) w := by
 have hlt := (List.getElem?_eq_some_iff.1 hx).1
 have hl := h.len
 rw [List.length_map, Nat.mul_one] at hl
 refine h.ix h0 (by omega) (by omega) λ b off ha hv => ?_
 have := hv 0 (c.val x) (by rw [Nat.mul_one, Nat.add_zero, List.getElem?_map, hx]; rfl)
 have hc : w.cell? ((⟨b, off, none⟩ : Addr).add (scaled (Int.toNat n) 1)) = some (c.val x) := by rw [addr_add]; simpa [scaled] using this
 exact Xh (x := x) hc (hK _ λ w' x' => Ti hc x')
def scO (s : Sc) : Obj := .cells #[.int .i64 (s.last : Int), .int .i64 (s.flags : Int), .int .i64 (s.pict : Int), .int .i64 (s.conj : Int)] 205 (0, 0)
abbrev scT (s : Sc) : Cells.T X9 := ((s.last : Int), (s.flags : Int), (s.pict : Int), (s.conj : Int), ())
theorem Ca9 {a : Addr} {K : Addr -> Wp} : nn (some a) K = K a := funext λ _ => propext Zp
theorem Y2 {c : Nat} {K : Bool -> Wp} (hK : K (apart c) w) : Aa Tryz.prog 209 #[.int .i64 (c : Int)] rB K w := by
 refine Dd0 ?_
 unfold F209
 unfold apart at hK
 refine Ac (λ h => ?_) (λ h => Ac (λ h2 => ?_) (λ h2 => ?_))
 all_goals simp only [beq_iff_eq, beq_eq_false_iff_ne, ne_eq] at *
 ·rw [decide_eq_true (by omega)] at hK; exact hK
 ·rw [decide_eq_true (by omega)] at hK; exact hK
 ·have : ((c : Int) == 3) = decide (c = 1 \/ c = 2 \/ c = 3) := by
   rw [Bool.eq_iff_iff, beq_iff_eq, decide_eq_true_eq]; omega
  rw [this]; exact hK
theorem An6 {l r : Nat} {K : Bool -> Wp} (hK : K (Je l r) w) : Aa Tryz.prog 210 #[.int .i64 (l : Int), .int .i64 (r : Int)] rB K w := by
 refine Dc9 ?_
 unfold F210
 unfold Je at hK
 have fin : ∀ {b : Bool}, (b = true ↔ ((l = 9 /\ (r = 9 \/ r = 10 \/ r = 12 \/ r = 13)) \/ ((l = 12 \/ l = 10) /\ (r = 10 \/ r = 11)) \/ ((l = 13 \/ l = 11) /\ r = 11))) -> K b w := by
  intro b hb
  have : b = decide ((l = 9 /\ (r = 9 \/ r = 10 \/ r = 12 \/ r = 13)) \/ ((l = 12 \/ l = 10) /\ (r = 10 \/ r = 11)) \/ ((l = 13 \/ l = 11) /\ r = 11)) := by rw [Bool.eq_iff_iff, hb, decide_eq_true_eq]
  rw [this]; exact hK
 refine Af (λ _ w' => w = w' /\ (r = 10 \/ r = 11) /\ ¬ (r = 10 /\ l = 9)) ?_ ?_
 ·refine Af (λ x w' => x = (decide (r = 9 \/ r = 12 \/ r = 13), ()) /\ w = w') ?_ ?_
  ·refine Ac (λ h => ⟨Aw ?_, rfl⟩) (λ h => Ac (λ h2 => ⟨Aw ?_, rfl⟩) (λ h2 => ⟨Aw ?_, rfl⟩))
   all_goals simp only [beq_iff_eq, beq_eq_false_iff_ne, ne_eq, decide_eq_true_eq] at *
   all_goals omega
  rintro _ _ ⟨rfl, rfl⟩
  refine Ac (λ h => fin ?_) (λ h => Ac (λ h2 => Ac (λ h3 => fin ?_) (λ h3 => ?_)) (λ h2 => Ac (λ h3 => ?_) (λ h3 => fin ?_)))
  all_goals simp only [beq_iff_eq, beq_eq_false_iff_ne, ne_eq, decide_eq_true_eq, decide_eq_false_iff_not] at *
  ·omega
  ·simp only [true_iff]; omega
  ·exact ⟨by trivial, by omega, by omega⟩
  ·exact ⟨by trivial, by omega, by omega⟩
  ·simp only [Bool.false_eq_true, false_iff]; omega
 ·rintro _ _ ⟨rfl, h1, h2⟩
  refine Af (λ x w' => x = (decide (l = 12 \/ l = 10), ()) /\ w = w') ?_ ?_
  ·refine Ac (λ h => ⟨Aw ?_, rfl⟩) (λ h => ⟨Aw ?_, rfl⟩)
   all_goals simp only [beq_iff_eq, beq_eq_false_iff_ne, ne_eq, decide_eq_true_eq, true_iff] at *
   all_goals omega
  rintro _ _ ⟨rfl, rfl⟩
  refine Ac (λ h => fin ?_) (λ h => Ac (λ h3 => Ac (λ h4 => fin ?_) (λ h4 => fin ?_)) (λ h3 => fin ?_))
  all_goals simp only [beq_iff_eq, beq_eq_false_iff_ne, ne_eq, decide_eq_true_eq, decide_eq_false_iff_not, Bool.false_eq_true, false_iff, true_iff] at *
  all_goals omega
theorem Ac0 {b c p : Nat} {s : Sc} (h : w.heap[b]? = some (scO s)) (hf : s.flags < 2 ^ 60) {K : Unit -> Wp} (hK : ∀ w', Upd (λ k => k = b) w w' -> w'.heap[b]? = some (scO (s.note c p)) -> K () w') :
  Aa Tryz.prog 206 #[.pointer (some (at0 b)), .int .i64 (c : Int), .int .i64 (p : Int)] (.tup []) K w := by
 refine Dd3 ?_
 unfold F206
 simp only [Ca9, addr_add]
 unfold scO at h
 refine Jl h (by show _ < 4; decide) λ w1 u1 n1 _ => ?_
 let O : Nat -> Nat -> Nat -> Nat -> Obj := λ a f q j => .cells #[.int .i64 (a : Int), .int .i64 (f : Int), .int .i64 (q : Int), .int .i64 (j : Int)] 205 (0, 0)
 have n1 : w1.heap[b]? = some (O c s.flags s.pict s.conj) := n1
 refine Af (λ _ W => Upd (λ k => k = b) w W /\ W.heap[b]? = some (O c (s.note c p).flags s.pict s.conj)) ?_ ?_
 ·refine Ac (λ hc => ?_) (λ hc => ?_)
  ·simp only [beq_iff_eq] at hc
   have hc : c = 6 := by omega
   refine Cm n1 (x := (s.flags : Int)) rfl (Jl n1 (by show _ < 4; decide) λ w2 u2 n2 _ => ⟨u1.trans u2, ?_⟩)
   have e : (s.note c p).flags = s.flags + 1 := by simp [Sc.note, hc]
   rw [e, n2, wrap64 (by omega) (by omega)]; rfl
  ·simp only [beq_eq_false_iff_ne, ne_eq] at hc
   have hc : c ≠ 6 := by omega
   refine Jl n1 (by show _ < 4; decide) λ w2 u2 n2 _ => ⟨u1.trans u2, ?_⟩
   have e : (s.note c p).flags = 0 := by simp [Sc.note, hc]
   rw [e, n2]; rfl
 rintro _ w2 ⟨u2, n2⟩
 refine Af (λ _ W => Upd (λ k => k = b) w W /\ W.heap[b]? = some (O c (s.note c p).flags (s.note c p).pict s.conj)) ?_ ?_
 ·have hp : (s.note c p).pict = if c = 14 then 1 else if s.pict = 1 /\ c = 5 then 2 else if s.pict = 1 /\ c = 4 then s.pict else 0 := rfl
  refine Ac (λ hc => ?_) (λ hc => ?_)
  ·simp only [beq_iff_eq] at hc
   rw [hp, if_pos (by omega)]
   exact Jl n2 (by show _ < 4; decide) λ w3 u3 n3 _ => ⟨u2.trans u3, n3⟩
  simp only [beq_eq_false_iff_ne, ne_eq] at hc
  rw [hp, if_neg (by omega)]
  refine Af (λ x W => x = (decide (s.pict = 1 /\ c = 5), ()) /\ w2 = W) ?_ ?_
  ·refine Cm n2 (x := (s.pict : Int)) rfl (Ac (λ h => ⟨Aw ?_, rfl⟩) (λ h => ⟨Aw ?_, rfl⟩))
   all_goals simp only [beq_iff_eq, beq_eq_false_iff_ne, ne_eq, decide_eq_true_eq, Bool.false_eq_true, false_iff] at *
   all_goals omega
  rintro _ _ ⟨rfl, rfl⟩
  refine Ac (λ h => ?_) (λ h => ?_)
  ·simp only [decide_eq_true_eq] at h
   rw [if_pos h]
   exact Jl n2 (by show _ < 4; decide) λ w3 u3 n3 _ => ⟨u2.trans u3, n3⟩
  simp only [decide_eq_false_iff_not] at h
  rw [if_neg h]
  refine Af (λ x W => x = (decide (s.pict = 1 /\ c = 4), ()) /\ w2 = W) ?_ ?_
  ·refine Cm n2 (x := (s.pict : Int)) rfl (Ac (λ h => ⟨Aw ?_, rfl⟩) (λ h => ⟨Aw ?_, rfl⟩))
   all_goals simp only [beq_iff_eq, beq_eq_false_iff_ne, ne_eq, decide_eq_true_eq, Bool.false_eq_true, false_iff] at *
   all_goals omega
  rintro _ _ ⟨rfl, rfl⟩
  refine Ac (λ h => ?_) (λ h => ?_)
  ·simp only [decide_eq_true_eq] at h
   rw [if_pos h]
   exact ⟨u2, n2⟩
  ·simp only [decide_eq_false_iff_not] at h
   rw [if_neg h]
   exact Jl n2 (by show _ < 4; decide) λ w3 u3 n3 _ => ⟨u2.trans u3, n3⟩
 rintro _ w3 ⟨u3, n3⟩
 have hj : (s.note c p).conj = if p = 1 then 1 else if 0 < s.conj /\ p = 3 then 2 else if 0 < s.conj /\ p = 2 then s.conj else 0 := rfl
 have fin : ∀ {q : Nat} {W : World}, (s.note c p).conj = q -> Upd (λ k => k = b) w W -> W.heap[b]? = some (O c (s.note c p).flags (s.note c p).pict q) -> K () W := λ e u n => hK _ u (by subst e; exact n)
 refine Ac (λ hc => ?_) (λ hc => ?_)
 ·simp only [beq_iff_eq] at hc
  exact Jl n3 (by show _ < 4; decide) λ w4 u4 n4 _ => fin (q := 1) (by rw [hj, if_pos (by omega)]) (u3.trans u4) n4
 simp only [beq_eq_false_iff_ne, ne_eq] at hc
 rw [if_neg (by omega)] at hj
 refine Af (λ x W => x = (decide (0 < s.conj /\ p = 3), ()) /\ w3 = W) ?_ ?_
 ·refine Cm n3 (x := (s.conj : Int)) rfl (Ac (λ h => ⟨Aw ?_, rfl⟩) (λ h => ⟨Aw ?_, rfl⟩))
  all_goals simp only [beq_iff_eq, decide_eq_true_eq, decide_eq_false_iff_not, Bool.false_eq_true, false_iff, gt_iff_lt] at *
  all_goals omega
 rintro _ _ ⟨rfl, rfl⟩
 refine Ac (λ h => ?_) (λ h => ?_)
 ·simp only [decide_eq_true_eq] at h
  exact Jl n3 (by show _ < 4; decide) λ w4 u4 n4 _ => fin (q := 2) (by rw [hj, if_pos h]) (u3.trans u4) n4
 simp only [decide_eq_false_iff_not] at h
 rw [if_neg h] at hj
 refine Af (λ x W => x = (decide (0 < s.conj /\ p = 2), ()) /\ w3 = W) ?_ ?_
 ·refine Cm n3 (x := (s.conj : Int)) rfl (Ac (λ h => ⟨Aw ?_, rfl⟩) (λ h => ⟨Aw ?_, rfl⟩))
  all_goals simp only [beq_iff_eq, decide_eq_true_eq, decide_eq_false_iff_not, Bool.false_eq_true, false_iff, gt_iff_lt] at *
  all_goals omega
 rintro _ _ ⟨rfl, rfl⟩
 refine Ac (λ h => ?_) (λ h => ?_)
 ·simp only [decide_eq_true_eq] at h
  exact fin (q := s.conj) (by rw [hj, if_pos h]) u3 n3
 ·simp only [decide_eq_false_iff_not] at h
  exact Jl n3 (by show _ < 4; decide) λ w4 u4 n4 _ => fin (q := 0) (by rw [hj, if_neg h]) (u3.trans u4) n4
theorem Ay0 {a : Int} {K : Cells.T X9 -> Wp} (hK : ∀ w', Ext w w' -> K (scT (sc [a])) w') : Aa Tryz.prog 201 #[.int .i64 a] (.one (.agg X9)) K w := by
 refine Dd7 ?_
 unfold F201
 refine (St.start w).Ae λ b1 w1 S1 e1 => S1.Q8 λ b2 w2 S2 e2 hb2 => Vp λ w3 e3 => Vb λ w4 e4 => ?_
 have S4 := (S2.ext e3).ext e4
 refine Ac0 (s := Sc.zero) (S4.at_ 0 rfl) (by decide) λ w5 u5 n5 => ?_
 have S5 := F9 S4 (i := 0) rfl u5 n5
 have e : Sc.zero.note (cls a) (cnj a) = sc [a] := (L9 a).symm
 rw [e] at S5
 refine S5.lds 0 (scT (sc [a])) rfl (S5.Ad 1 rfl rfl rfl rfl λ w6 S6 _ => S6.lds 1 (scT (sc [a])) rfl (hK w6 S6.upd))
theorem Ar7 {b : Nat} {s : Sc} {a : Int} (h : w.heap[b]? = some (scO s)) (hf : s.flags < 2 ^ 60) {K : Bool -> Wp}
  (hK : ∀ w', Upd (λ k => k = b) w w' -> w'.heap[b]? = some (scO (if joins s (cls a) (cnj a) then s.note (cls a) (cnj a) else s)) -> K (joins s (cls a) (cnj a)) w') :
  Aa Tryz.prog 202 #[.pointer (some (at0 b)), .int .i64 a] rB K w := by
 refine Dd6 ?_
 unfold F202
 simp only [Ca9, addr_add]
 refine Vp λ w1 e1 => Vb λ w2 e2 => ?_
 have e12 := e1.trans e2
 have h2 := e12.ext_get h
 generalize hc : cls a = c at *
 generalize hp : cnj a = p at *
 refine Af (λ x W => x = (joins s c p, ()) /\ w2 = W) ?_ ?_
 ·have hj : joins s c p = if s.last = 1 /\ c = 2 then true else if apart s.last = true \/ apart c = true then false else if c = 4 \/ c = 5 \/ c = 8 \/ s.last = 7 then true else if Je s.last c then true
   else if p = 1 /\ s.conj = 2 then true else if c = 14 then s.pict == 2 else if c = 6 then s.flags % 2 == 1 else false := rfl
  unfold scO at h2
  have l0 : ∀ {K : Int -> Wp}, K (s.last : Int) w2 -> ld (.int .i64) (at0 b) K w2 := λ hk => Cm h2 (x := (s.last : Int)) rfl hk
  refine Af (λ x W => x = (decide (s.last = 1 /\ c = 2), ()) /\ w2 = W) ?_ ?_
  ·refine l0 (Ac (λ h => ⟨Aw ?_, rfl⟩) (λ h => ⟨Aw ?_, rfl⟩))
   all_goals simp only [beq_iff_eq, beq_eq_false_iff_ne, ne_eq, decide_eq_true_eq, Bool.false_eq_true, false_iff] at *
   all_goals omega
  rintro _ _ ⟨rfl, rfl⟩
  refine Ac (λ h => ?_) (λ h => ?_)
  ·simp only [decide_eq_true_eq] at h
   exact ⟨by rw [hj, if_pos h], rfl⟩
  simp only [decide_eq_false_iff_not] at h
  rw [if_neg h] at hj
  refine Af (λ x W => x = (decide (apart s.last = true \/ apart c = true), ()) /\ w2 = W) ?_ ?_
  ·refine l0 (Y2 (Ac (λ h => ⟨Aw ?_, rfl⟩) (λ h => Y2 ⟨Aw ?_, rfl⟩)))
   all_goals simp only [decide_eq_true_eq] at *
   all_goals simp [h]
  rintro _ _ ⟨rfl, rfl⟩
  refine Ac (λ h => ?_) (λ h => ?_)
  ·simp only [decide_eq_true_eq] at h
   exact ⟨by rw [hj, if_pos h], rfl⟩
  simp only [decide_eq_false_iff_not] at h
  rw [if_neg h] at hj
  refine Af (λ x W => x = (decide (c = 4 \/ c = 5 \/ c = 8 \/ s.last = 7), ()) /\ w2 = W) ?_ ?_
  ·refine Ac (λ h => ⟨Aw ?_, rfl⟩) (λ h1 => Ac (λ h => ⟨Aw ?_, rfl⟩) (λ h3 => Ac (λ h => ⟨Aw ?_, rfl⟩) (λ h4 => l0 ⟨Aw ?_, rfl⟩)))
   all_goals simp only [beq_iff_eq, beq_eq_false_iff_ne, ne_eq, decide_eq_true_eq] at *
   all_goals omega
  rintro _ _ ⟨rfl, rfl⟩
  refine Ac (λ h => ?_) (λ h => ?_)
  ·simp only [decide_eq_true_eq] at h
   exact ⟨by rw [hj, if_pos h], rfl⟩
  simp only [decide_eq_false_iff_not] at h
  rw [if_neg h] at hj
  refine l0 (An6 (Ac (λ h => ?_) (λ h => ?_)))
  ·exact ⟨by rw [hj, if_pos h], rfl⟩
  rw [if_neg (by rw [h]; decide)] at hj
  refine Af (λ x W => x = (decide (p = 1 /\ s.conj = 2), ()) /\ w2 = W) ?_ ?_
  ·refine Ac (λ h => Cm h2 (x := (s.conj : Int)) rfl ⟨Aw ?_, rfl⟩) (λ h => ⟨Aw ?_, rfl⟩)
   all_goals simp only [beq_iff_eq, beq_eq_false_iff_ne, ne_eq, decide_eq_true_eq, Bool.false_eq_true, false_iff] at *
   all_goals omega
  rintro _ _ ⟨rfl, rfl⟩
  refine Ac (λ h => ?_) (λ h => ?_)
  ·simp only [decide_eq_true_eq] at h
   exact ⟨by rw [hj, if_pos h], rfl⟩
  simp only [decide_eq_false_iff_not] at h
  rw [if_neg h] at hj
  refine Ac (λ h => ?_) (λ h => ?_)
  ·simp only [beq_iff_eq] at h
   rw [if_pos (by omega)] at hj
   refine Cm h2 (x := (s.pict : Int)) rfl ⟨?_, rfl⟩
   rw [hj]
   exact Aw (by simp only [beq_iff_eq]; omega)
  simp only [beq_eq_false_iff_ne, ne_eq] at h
  rw [if_neg (by omega)] at hj
  refine Ac (λ h => ?_) (λ h => ?_)
  ·simp only [beq_iff_eq] at h
   rw [if_pos (by omega)] at hj
   refine Cm h2 (x := (s.flags : Int)) rfl (Bo (by decide) ⟨?_, rfl⟩)
   rw [hj, Int.tmod_eq_emod_of_nonneg (by omega)]
   exact Aw (by simp only [beq_iff_eq]; omega)
  ·simp only [beq_eq_false_iff_ne, ne_eq] at h
   rw [if_neg (by omega)] at hj
   exact ⟨by rw [hj], rfl⟩
 rintro _ _ ⟨rfl, rfl⟩
 refine Af (λ _ W => Upd (λ k => k = b) w W /\ W.heap[b]? = some (scO (if joins s c p then s.note c p else s))) ?_ (λ _ W h => hK W h.1 h.2)
 refine Ac (λ h => ?_) (λ h => ?_)
 ·have h : joins s c p = true := h
  rw [if_pos h]
  exact Ac0 h2 hf λ w3 u3 n3 => ⟨(Upd.Iq e12).trans u3, n3⟩
 ·have h : joins s c p = false := h
  rw [if_neg (by rw [h]; decide)]
  exact ⟨Upd.Iq e12, h2⟩
theorem Ax0 {A : List Int} {s : Sl} {t : TypeId} {at_ : Nat} {y : Value} (hb : bk A at_ = true) (hl : A.length < 2 ^ 59) (Inv : Nat -> Wp) (Brk : World -> Prop)
  (hs : ∀ k W, Inv k W -> Bf W s t 1 (iv A)) (hx : ∀ k W W', Inv k W -> Ext W W' -> Inv k W')
  (hy : ∀ (i j : Nat) (W : World) (K : Bool -> Wp), Inv i W -> i < j -> bk A j = true -> (∀ k, i < k -> k < j -> bk A k = false) -> (∀ c W', (c = true -> Inv j W') -> (c = false -> Brk W') -> K c W') ->
   Bv Tryz.prog (do let d ← Deferred.ofValue y #[.int .i64 (j : Int)]; invoke d.target d.args : Sem Next) (.one (.one .bool)) K W)
  (h0 : Inv at_ w) {K : Unit -> Wp} (hK : ∀ W, Inv A.length W \/ Brk W -> K () W) :
  Aa Tryz.prog 177 #[s.v, .int .i64 (at_ : Int), y] (.tup []) K w := by
 refine De9 ?_
 unfold F177
 have hlen : A.length = s.len := by have := (hs _ _ h0).len1; rwa [List.length_map] at this
 refine Ba (λ x W => ∃ i, i <= A.length /\ x = ((i : Int), ()) /\ bk A i = true /\ Inv i W) (λ x _ => ((A.length : Int) - x.1).toNat) ⟨at_, Aq0 hb, rfl, hb, h0⟩ ?_
 rintro _ W ⟨i, hi, rfl, hbi, hI⟩
 refine Ac (λ hc => ?_) (λ hc => ?_)
 ·simp only [decide_eq_true_eq] at hc
  have hil : i < A.length := by omega
  have ha : A[i]? = some A[i] := List.getElem?_eq_getElem hil
  refine Gm (c := .int .i64) (xs := A) (hs _ _ hI) (by omega) (x := A[i]) (by rw [Int.toNat_natCast]; exact ha) λ p => Ay0 λ w1 e1 => ?_
  refine Ce λ b w2 e2 n2 hb2 _ => Xz n2 rfl rfl (by decide) λ w3 u3 n3 _ => ?_
  have e3 : Ext W w3 := (e1.trans e2).step u3 λ k hk => by have := e1.size; omega
  have n3 : w3.heap[b]? = some (scO (sc (A.take (i + 1)))) := by rw [Ch8 hbi ha]; exact n3
  have bW : W.heap.size <= b := by have := e1.size; omega
  have ew : W64 ((i : Int) + 1) = ((i + 1 : Nat) : Int) := by rw [wrap64 (by omega) (by omega)]; omega
  rw [ew]
  refine Af (λ _ W' => Inv i W' /\ ∀ k, i < k -> k < A.length -> bk A k = false) ?_ ?_
  ·refine Ba (λ x W' => ∃ k, i < k /\ k <= A.length /\ x = ((k : Int), ()) /\ Ext W W' /\ W'.heap[b]? = some (scO (sc (A.take k))) /\ ∀ q, i < q -> q < k -> bk A q = false) (λ x _ => ((A.length : Int) - x.1).toNat) ⟨i + 1, by omega, by omega, rfl, e3, n3, λ q h1 h2 => by omega⟩ ?_
   rintro _ W4 ⟨k, hik, hkl, rfl, e4, n4, hno⟩
   refine Ac (λ hc => ?_) (λ hc => ?_)
   ·simp only [decide_eq_true_eq] at hc
    have hkl : k < A.length := by omega
    have hk : A[k]? = some A[k] := List.getElem?_eq_getElem hkl
    have hI4 := hx _ _ _ hI e4
    have hfl := Bq3 (A.take k)
    rw [List.length_take] at hfl
    refine Gm (c := .int .i64) (xs := A) (hs _ _ hI4) (by omega) (x := A[k]) (by rw [Int.toNat_natCast]; exact hk) λ p => Ar7 n4 (by omega) λ w5 u5 n5 => ?_
    have e5 : Ext W w5 := e4.step u5 λ q hq => by omega
    have hbk := Bc6 hk (by omega)
    refine Ac (λ hj => ?_) (λ hj => ?_)
    ·have ew : W64 ((k : Int) + 1) = ((k + 1 : Nat) : Int) := by rw [wrap64 (by omega) (by omega)]; omega
     rw [if_pos hj, ← Aa5 hj] at n5
     have e : sc (A.take (k + 1)) = stp (sc (A.take k)) A[k] := by rw [List.take_add_one, hk]; exact Vz _ _
     rw [← e] at n5
     refine ⟨⟨k + 1, by omega, by omega, by rw [ew], e5, n5, λ q h1 h2 => ?_⟩, by rw [ew]; omega⟩
     by_cases hq : q = k
     ·rw [hq, hbk, hj]; rfl
     ·exact hno q h1 (by omega)
    ·rw [hj] at hbk
     refine hy i k w5 _ (hx _ _ _ hI e5) hik hbk hno λ c W' h1 h2 => Ac (λ hn => ?_) (λ hn => ?_)
     ·have hc : c = false := by cases c <;> simp_all
      exact hK W' (.inr (h2 hc))
     ·have hc : c = true := by cases c <;> simp_all
      exact ⟨⟨k, by omega, rfl, hbk, h1 hc⟩, by omega⟩
   ·simp only [decide_eq_false_iff_not] at hc
    exact ⟨hx _ _ _ hI e4, λ q h1 h2 => hno q h1 (by omega)⟩
  ·rintro _ W5 ⟨hI5, hno⟩
   rw [← hlen]
   exact hy i A.length W5 _ hI5 hil (Aj1 A) hno λ c W' h1 h2 => hK W' (by cases c with
    | true => exact .inl (h1 rfl)
    | false => exact .inr (h2 rfl))
 ·simp only [decide_eq_false_iff_not] at hc
  have : i = A.length := by omega
  subst this
  exact hK W (.inl hI)
abbrev nv (l : List Nat) : List Value := l.map λ (n : Nat) => Value.int .i64 (n : Int)
theorem Ai7 {A : List Int} {s : Sl} {t : TypeId} (hs : Bf w s t 1 (iv A)) (hl : A.length < 2 ^ 40) {K : Sl -> Wp} (hK : ∀ s' w', Ak w' w.heap.size s' 3 1 (nv (cuts A)) -> Ext w w' -> K s' w') :
  Aa Tryz.prog 131 #[s.v] rS K w := by
 refine Dh7 ?_
 unfold F131
 refine Ce λ b1 w1 e1 n1 hb1 _ => Ce λ b2 w2 e2 n2 hb2 _ => Jl n2 Nat.one_pos λ w3 u3 n3 _ => ?_
 have e3 : Ext w w3 := (e1.trans e2).step u3 λ k hk => by have := e1.size; omega
 have hb12 : w.heap.size <= b2 := by have := e1.size; omega
 have hlt : b1 ≠ b2 := by have := lt_of_heap n1; omega
 have o3 : Ak w3 w.heap.size ⟨some (at0 b1), 1, 1⟩ 3 1 (nv [0]) := by
  refine ⟨rfl, Nat.le_refl _, .inr ⟨b1, 0, #[.int .i64 0], rfl, by omega, u3.get (e2.ext_get n1) hlt, by show 0 + 1 * 1 <= 1; decide, λ i v hv => ?_⟩⟩
  rw [Nat.zero_add]
  simpa using hv
 refine Ax0 (A := A) (s := s) (t := t) (at_ := 0) (Xy A) (by omega) (λ k W => ∃ o, W.heap[b2]? = some (.cells #[.slice o.a o.len o.cap] 43 (0, 0)) /\ Ak W w.heap.size o 3 1 (nv (Jp A k)) /\ Ext w W /\ k <= A.length) (λ _ => False) ?_ ?_ ?_ ?_ ?_
 ·rintro k W ⟨o, _, _, e, _⟩
  exact hs.ext e
 ·rintro k W W' ⟨o, h1, h2, h3, h4⟩ e
  exact ⟨o, e.ext_get h1, h2.ext e, h3.trans e, h4⟩
 ·rintro i j W K' ⟨o, h1, h2, h3, h4⟩ hij hbj hno hK'
  have hol := h2.len1
  rw [List.length_map] at hol
  have hcl := X3 A i
  refine func_x (caps := #[.pointer (some (at0 b2))]) (by kernel_rfl) ?_
  refine De8 ?_
  unfold F178
  refine Cm h1 (x := o) rfl (Ce λ b4 w4 e4 n4 hb4 _ => ?_)
  refine Ee Va Va.ts_ (x := ⟨some (at0 b4), 1, 1⟩) (h2.ext e4) (Ah9 n4) (λ v hv => by rw [List.mem_singleton.1 hv]; rfl) (by
   show (o.len + 1 + (o.len + 1) / 4 + 512) * 8 <= 2 ^ 48
   omega) (by have := h3.size; have := e4.size; omega) λ o' w5 o5 l5 u5 k5 => ?_
  have n5 : w5.heap[b2]? = some (.cells #[.slice o.a o.len o.cap] 43 (0, 0)) := u5.get (e4.ext_get h1) λ hb => by
   obtain ⟨c, fr, hc⟩ := (h2.ext e4).in.En hb
   rw [e4.ext_get h1] at hc; cases hc
  refine Jl n5 Nat.one_pos λ w6 u6 n6 _ => hK' true w6 (λ _ => ⟨o', n6, ?_, ?_, Aq0 hbj⟩) (λ h => by cases h)
  ·have := o5.box n5 (by decide) u6
   have e : nv (Jp A j) = nv (Jp A i) ++ [.int .i64 (j : Int)] := by rw [Ao7 hij hbj hno]; simp
   rw [e]; exact this
  ·exact ((h3.trans e4).step u5 λ k hk => h2.Fa hk).step u6 λ k hk => by omega
 ·refine ⟨⟨some (at0 b1), 1, 1⟩, n3, ?_, e3, Nat.zero_le _⟩
  rw [Ao6]
  exact o3
 ·rintro W (⟨o, h1, h2, h3, h4⟩ | h)
  ·exact Cm h1 (x := o) rfl (hK o W h2 h3)
  ·exact h.elim
end
end Go.Proofs.YtolhlldgnfbemaaGreatDoor
namespace Go.Proofs.YtolhlldgnfbemaaGreatDoor
open Trx Gly Clu
namespace Lns
structure Ln where
 from_ : Nat
 to_ : Nat
 next : Nat
 kind : Nat
 deriving DecidableEq
def isb (A : List Int) (n : Nat) : Bool := match A[n]? with
 | some a => isE a (A.drop (n + 1))
 | none => false
theorem Oc : ∀ (A : List Int) (n : Nat), nb A (n + 1) = nb A n + (if isb A n then 1 else 0)
 | [], n => by cases n <;> simp [nb, isb]
 | a :: r, 0 => by simp [nb, Kv, isb]
 | a :: r, n + 1 => by
  have ih := Oc r n
  rw [nb, ih, nb]
  have : isb (a :: r) (n + 1) = isb r n := by simp [isb]
  rw [this]; omega
theorem Il {A : List Int} {n : Nat} {a : Int} (h : A[n]? = some a) : isb A n = true ↔ a = 10 \/ (a = 13 /\ A[n + 1]? ≠ some 10) := by
 unfold isb
 rw [h]
 simp only [isE, Bool.or_eq_true, beq_iff_eq, Bool.and_eq_true, bne_iff_ne, ne_eq, List.head?_drop]
theorem Cf0 {A : List Int} {n : Nat} (h : isb A n = true) : n < A.length := by
 unfold isb at h
 split at h
 ·rename_i a ha; exact (List.getElem?_eq_some_iff.1 ha).1
 ·cases h
theorem Nh {A : List Int} {k m : Nat} (h : sk A k = some m) : k <= brs A /\ m <= A.length /\ nb A m = k /\ ∀ j, j < m -> nb A j < k := by
 by_cases hk : k <= brs A
 ·obtain ⟨m', h1, h2, h3, h4⟩ := Af2 A k hk
  rw [h] at h1; cases h1
  exact ⟨hk, h2, h3, h4⟩
 ·rw [Ub A k (by omega)] at h; cases h
theorem Ak9 {A : List Int} {k : Nat} (h : k <= brs A) : ∃ m, sk A k = some m := by
 obtain ⟨m, h1, _⟩ := Af2 A k h
 exact ⟨m, h1⟩
theorem Af1 (A : List Int) : sk A 0 = some 0 := by cases A <;> rfl
theorem Ca6 {A : List Int} {i j m x : Nat} (h1 : sk A i = some m) (h2 : sk A j = some x) (hij : i < j) : m < x := by
 obtain ⟨_, _, g1, _⟩ := Nh h1
 obtain ⟨_, _, g2, g3⟩ := Nh h2
 rcases Nat.lt_or_ge m x with h | h
 ·exact h
 ·have := Jo A x m h; omega
theorem Cc8 {A : List Int} {k m : Nat} (h : sk A (k + 1) = some m) : 0 < m /\ isb A (m - 1) = true := by
 obtain ⟨_, _, h3, h4⟩ := Nh h
 cases m with
 | zero => rw [Kv] at h3; omega
 | succ m =>
  refine ⟨by omega, ?_⟩
  have := h4 m (by omega)
  rw [Oc] at h3
  rw [Nat.add_sub_cancel]
  cases hb : isb A m with
  | true => rfl
  | false => rw [hb] at h3; simp at h3; omega
def lnC (A : List Int) (f x : Nat) : Ln := if A[x - 1]? = some 13 then ⟨f, x - 1, x, 3⟩ else if f + 1 < x /\ A[x - 2]? = some 13 then ⟨f, x - 2, x, 2⟩ else ⟨f, x - 1, x, 1⟩
def Kr (A : List Int) (i : Nat) : Option Ln := match sk A i with
 | none => none
 | some f => some (match sk A (i + 1) with | some x => lnC A f x | none => ⟨f, A.length, A.length, 0⟩)
def lnI (A : List Int) (i : Int) : Option Ln := if i < 0 then none else Kr A i.toNat
def ended (A : List Int) : Bool := decide (0 < A.length) && sk A (brs A) == some A.length
def lnN (A : List Int) : Nat := brs A + (if ended A then 0 else 1)
theorem Ug {A : List Int} {i : Nat} {l : Ln} (h : Kr A i = some l) : i <= brs A /\ sk A i = some l.from_ := by
 unfold Kr at h
 split at h
 ·cases h
 ·rename_i f hf
  cases h
  refine ⟨(Nh hf).1, ?_⟩
  split
  ·unfold lnC; split
   ·exact hf
   ·split <;> exact hf
  ·exact hf
theorem Ba8 {A : List Int} {i : Nat} (h : i <= brs A) : ∃ l, Kr A i = some l := by
 obtain ⟨m, hm⟩ := Ak9 h
 unfold Kr; rw [hm]; exact ⟨_, rfl⟩
structure Cg2 (A : List Int) (i : Nat) (l : Ln) : Prop where
 ft : l.from_ <= l.to_
 tn : l.to_ <= l.next
 nl : l.next <= A.length
 nbf : ∀ k, l.from_ <= k -> k < l.next -> nb A k = i
 nbF : nb A l.from_ = i
 tail : sk A (i + 1) = none -> l.kind = 0 /\ l.to_ = A.length /\ l.next = A.length
 brk : ∀ x, sk A (i + 1) = some x -> l.next = x /\ l.to_ < l.next /\ l.kind ≠ 0 /\ nb A x = i + 1
 plain : ∀ j a, l.from_ <= j -> j < l.to_ -> A[j]? = some a -> a ≠ 10 /\ a ≠ 13
 atTo : ∀ a, l.to_ < l.next -> A[l.to_]? = some a -> a = 10 \/ a = 13
 noLF : ∀ j, l.from_ <= j -> j < l.to_ -> A[j]? ≠ some 13
theorem Bo5 {A : List Int} {i : Nat} {l : Ln} (h : Kr A i = some l) : Cg2 A i l := by
 obtain ⟨hi, hf⟩ := Ug h
 obtain ⟨_, hfl, hnf, hfmin⟩ := Nh hf
 unfold Kr at h
 rw [hf] at h
 simp only [Option.some.injEq] at h
 cases hx : sk A (i + 1) with
 | none =>
  rw [hx] at h
  simp only at h
  have hbr : brs A <= i := by
   rcases Nat.lt_or_ge i (brs A) with h1 | h1
   ·obtain ⟨m, hm⟩ := Ak9 (A := A) (k := i + 1) (by omega)
    rw [hm] at hx; cases hx
   ·exact h1
  have hall : ∀ k, l.from_ <= k -> nb A k = i := λ k hk => by
   have h1 := Jo A _ _ hk
   have h2 := Jo A k (max k A.length) (by omega)
   rw [U1 A (max k A.length) (by omega)] at h2
   omega
  have pl : ∀ j a, l.from_ <= j -> j < A.length -> A[j]? = some a -> a ≠ 10 /\ a ≠ 13 := by
   have no : ∀ j, l.from_ <= j -> isb A j = false := λ j hj => by
    have h1 := hall j hj
    have h2 := hall (j + 1) (by omega)
    rw [Oc, h1] at h2
    cases hb : isb A j with
    | false => rfl
    | true => rw [hb] at h2; simp at h2
   intro j a hj hjl ha
   have h1 := no j hj
   constructor
   ·intro e
    have := (Il ha).2 (.inl e)
    rw [h1] at this; cases this
   ·intro e
    have h2 := no (j + 1) (by omega)
    by_cases h10 : A[j + 1]? = some 10
    ·have := (Il h10).2 (.inl rfl)
     rw [h2] at this; cases this
    ·have := (Il ha).2 (.inr ⟨e, h10⟩)
     rw [h1] at this; cases this
  have el : l = ⟨l.from_, A.length, A.length, 0⟩ := h.symm
  have e1 : l.to_ = A.length := by rw [el]
  have e2 : l.next = A.length := by rw [el]
  have e3 : l.kind = 0 := by rw [el]
  exact ⟨by omega, by omega, by omega, λ k h1 _ => hall k h1, hnf, λ _ => ⟨e3, e1, e2⟩, (λ x hx' => by rw [hx] at hx'; cases hx'), λ j a h1 h2 => pl j a h1 (by omega), λ a h1 => by omega, λ j h1 h2 h3 => (pl j 13 h1 (by omega) h3).2 rfl⟩
 | some x =>
  rw [hx] at h
  simp only at h
  obtain ⟨hib, hxl, hnx, hxmin⟩ := Nh hx
  obtain ⟨hx0, hxe⟩ := Cc8 hx
  have hfx := Ca6 hf hx (by omega)
  have hmid : ∀ k, l.from_ <= k -> k < x -> nb A k = i := λ k h1 h2 => by
   have := Jo A _ _ h1
   have := hxmin k h2
   omega
  have no : ∀ j, l.from_ <= j -> j + 1 < x -> isb A j = false := λ j hj hjx => by
   have h1 := hmid j hj (by omega)
   have h2 := hmid (j + 1) (by omega) hjx
   rw [Oc, h1] at h2
   cases hb : isb A j with
   | false => rfl
   | true => rw [hb] at h2; simp at h2
  obtain ⟨a, ha⟩ : ∃ a, A[x - 1]? = some a := ⟨_, List.getElem?_eq_getElem (by omega)⟩
  have hend := (Il ha).1 hxe
  have nx : x - 1 + 1 = x := by omega
  have fin : ∀ t, l.to_ = t -> l.next = x -> l.from_ <= t -> t < x -> l.kind ≠ 0 -> (∀ a, A[t]? = some a -> a = 10 \/ a = 13) -> (t + 1 = x \/ (t + 2 = x /\ A[t]? = some 13)) -> (t + 1 = x -> ∀ j, j + 1 = t -> l.from_ <= j -> A[t]? = some 10 -> A[j]? ≠ some 13) -> Cg2 A i l := by
   intro t e1 e2 h1 h2 h3 h4 h5 h6
   have pl : ∀ j a, l.from_ <= j -> j < t -> A[j]? = some a -> a ≠ 10 /\ a ≠ 13 := by
    intro j a hj hjt ha
    have g1 := no j hj (by omega)
    refine ⟨λ e => ?_, λ e => ?_⟩
    ·have := (Il ha).2 (.inl e)
     rw [g1] at this; cases this
    ·by_cases h10 : A[j + 1]? = some 10
     ·by_cases hj2 : j + 2 < x
      ·have g2 := no (j + 1) (by omega) (by omega)
       have := (Il h10).2 (.inl rfl)
       rw [g2] at this; cases this
      ·rcases h5 with h5 | h5
       ·have ht : t = j + 1 := by omega
        subst ht
        exact h6 h5 j rfl hj h10 (by rw [ha, e])
       ·omega
     ·have := (Il ha).2 (.inr ⟨e, h10⟩)
      rw [g1] at this; cases this
   exact ⟨by omega, by omega, by omega, λ k g1 g2 => hmid k g1 (by omega), hnf, (λ hn => by rw [hx] at hn; cases hn), (λ y hy => by rw [hx] at hy; cases hy; exact ⟨e2, by omega, h3, hnx⟩), λ j a g1 g2 => pl j a g1 (by omega), λ a _ g => h4 a (by rw [← e1]; exact g), λ j g1 g2 g3 => (pl j 13 g1 (by omega) g3).2 rfl⟩
  unfold lnC at h
  split at h
  ·rename_i h13
   have el : l = ⟨l.from_, x - 1, x, 3⟩ := h.symm
   refine fin (x - 1) (by rw [el]) (by rw [el]) (by omega) (by omega) (by rw [el]; exact (by decide : (3 : Nat) ≠ 0)) (λ a h => by rw [h13] at h; cases h; exact .inr rfl) (.inl (by omega)) (λ _ j _ _ h => by rw [h13] at h; cases h)
  ·rename_i h13
   have ha10 : a = 10 := by
    rcases hend with h | h
    ·exact h
    ·exact absurd (by rw [ha, h.1]) h13
   split at h
   ·rename_i h2
    have el : l = ⟨l.from_, x - 2, x, 2⟩ := h.symm
    exact fin (x - 2) (by rw [el]) (by rw [el]) (by omega) (by omega) (by rw [el]; exact (by decide : (2 : Nat) ≠ 0)) (λ a h => by rw [h2.2] at h; cases h; exact .inr rfl) (.inr ⟨by omega, h2.2⟩) (λ h => by omega)
   ·rename_i h2
    have el : l = ⟨l.from_, x - 1, x, 1⟩ := h.symm
    refine fin (x - 1) (by rw [el]) (by rw [el]) (by omega) (by omega) (by rw [el]; exact (by decide : (1 : Nat) ≠ 0)) (λ b h => by rw [ha] at h; cases h; exact .inl ha10) (.inl (by omega)) (λ _ j hj hfj _ h => h2 ⟨by omega, ?_⟩)
    rw [← h]; congr 1; omega
theorem Cj2 (A : List Int) {at_ : Nat} (h : at_ <= A.length) : ∃ l, Kr A (nb A at_) = some l /\ l.from_ <= at_ /\ (at_ < l.next \/ (sk A (nb A at_ + 1) = none /\ l.next = A.length)) := by
 have hle : nb A at_ <= brs A := by rw [Jq]; exact Jo A _ _ h
 obtain ⟨l, hl⟩ := Ba8 hle
 obtain ⟨_, hf⟩ := Ug hl
 obtain ⟨_, _, g1, g2⟩ := Nh hf
 have ok := Bo5 hl
 refine ⟨l, hl, ?_, ?_⟩
 ·rcases Nat.lt_or_ge at_ l.from_ with h1 | h1
  ·have := g2 at_ h1; omega
  ·exact h1
 ·cases hx : sk A (nb A at_ + 1) with
  | none => exact .inr ⟨rfl, (ok.tail hx).2.2⟩
  | some x =>
   obtain ⟨e1, _, _, e2⟩ := ok.brk x hx
   left
   rcases Nat.lt_or_ge at_ l.next with h1 | h1
   ·exact h1
   ·have := Jo A l.next at_ h1
    rw [e1, e2] at this; omega
end Lns
end Go.Proofs.YtolhlldgnfbemaaGreatDoor
namespace Go.Proofs.YtolhlldgnfbemaaGreatDoor
open Trx Gly Clu Lns
namespace Obx
structure Cel where
 from_ : Nat
 to_ : Nat
 kind : Nat
 alone : Bool
 atom : Int
def Ap4 (A : List Int) (off i j : Nat) : Cel := ⟨off + i, off + j, wrd (A[i]?.getD 0), decide (j = i + 1), A[i]?.getD 0⟩
def X8 (A : List Int) (off : Nat) : List Nat -> List Cel
 | i :: j :: r => Ap4 A off i j :: X8 A off (j :: r)
 | _ => []
def Qx (A : List Int) (off : Nat) : List Cel := X8 A off (cuts A)
theorem Zc (A : List Int) (off : Nat) : ∀ L : List Nat, (X8 A off L).length = L.length - 1
 | [] => rfl
 | [_] => rfl
 | i :: j :: r => by rw [X8, List.length_cons, Zc A off (j :: r)]; simp
theorem Ad5 (A : List Int) (off : Nat) : ∀ (L : List Nat) (m i j : Nat), L[m]? = some i -> L[m + 1]? = some j -> (X8 A off L)[m]? = some (Ap4 A off i j)
 | [], _, _, _, h, _ => by simp at h
 | [_], m, _, _, _, h => by simp at h
 | i :: j :: r, 0, _, _, h, h' => by
  simp at h h'
  subst h h'
  rfl
 | i :: j :: r, m + 1, x, y, h, h' => by
  rw [X8, List.getElem?_cons_succ]
  exact Ad5 A off (j :: r) m x y (by simpa using h) (by simpa using h')
theorem Bs1 (A : List Int) (off : Nat) : ∀ (L : List Nat) (m : Nat) (c : Cel), (X8 A off L)[m]? = some c -> ∃ i j, L[m]? = some i /\ L[m + 1]? = some j /\ c = Ap4 A off i j := by
 intro L m c h
 have hl := (List.getElem?_eq_some_iff.1 h).1
 rw [Zc] at hl
 have h1 : L[m]? = some L[m] := List.getElem?_eq_getElem (by omega)
 have h2 : L[m + 1]? = some L[m + 1] := List.getElem?_eq_getElem (by omega)
 have := Ad5 A off L m _ _ h1 h2
 rw [h] at this
 exact ⟨_, _, h1, h2, Option.some.inj this⟩
theorem Za (A : List Int) : (cuts A)[0]? = some 0 := by
 unfold cuts Jp
 rw [List.range_succ_eq_map, List.filter_cons_of_pos (Xy A)]
 rfl
theorem Ao5 {A : List Int} {m n i j : Nat} (hmn : m < n) (h : (cuts A)[m]? = some i) (h' : (cuts A)[n]? = some j) : i < j := by
 have hp := Bz1 (A := A)
 obtain ⟨h1, rfl⟩ := List.getElem?_eq_some_iff.1 h
 obtain ⟨h2, rfl⟩ := List.getElem?_eq_some_iff.1 h'
 exact List.pairwise_iff_getElem.1 hp m n h1 h2 hmn
theorem H6 {A : List Int} {m i : Nat} (h : (cuts A)[m]? = some i) : bk A i = true := Am6.1 (List.mem_of_getElem? h)
theorem Yz (A : List Int) : (cuts A)[(cuts A).length - 1]? = some A.length := by
 have h : A.length ∈ cuts A := Am6.2 (Aj1 A)
 obtain ⟨m, hm⟩ := List.getElem?_of_mem h
 have hl := (List.getElem?_eq_some_iff.1 hm).1
 by_cases he : m = (cuts A).length - 1
 ·rw [← he]; exact hm
 ·have h2 : (cuts A)[(cuts A).length - 1]? = some (cuts A)[(cuts A).length - 1] := List.getElem?_eq_getElem (by omega)
  have := Ao5 (by omega) hm h2
  have := Aq0 (H6 h2)
  omega
theorem X0 (A : List Int) : 0 < (cuts A).length := by
 have := (List.getElem?_eq_some_iff.1 (Za A)).1
 exact this
structure Cl5 (A : List Int) (off m : Nat) (c : Cel) : Prop where
 ex : ∃ i j, (cuts A)[m]? = some i /\ (cuts A)[m + 1]? = some j /\ i < j /\ j <= A.length /\ c.from_ = off + i /\ c.to_ = off + j /\ bk A i = true /\ bk A j = true /\ A[i]? = some c.atom /\ c.kind = wrd c.atom /\ (c.alone = true ↔ j = i + 1)
theorem Oj {A : List Int} {off m : Nat} {c : Cel} (h : (Qx A off)[m]? = some c) : Cl5 A off m c := by
 obtain ⟨i, j, h1, h2, rfl⟩ := Bs1 A off _ m c h
 have hij := Ao5 (by omega) h1 h2
 have hj := Aq0 (H6 h2)
 have ha : A[i]? = some A[i] := List.getElem?_eq_getElem (by omega)
 refine ⟨i, j, h1, h2, hij, hj, rfl, rfl, H6 h1, H6 h2, ?_, rfl, by simp [Ap4]⟩
 simp [Ap4, ha]
theorem Qh (A : List Int) (off : Nat) : (Qx A off).length = (cuts A).length - 1 := Zc A off _
theorem Bj2 {A : List Int} {off m : Nat} {c d : Cel} (h : (Qx A off)[m]? = some c) (h' : (Qx A off)[m + 1]? = some d) : c.to_ = d.from_ := by
 obtain ⟨i, j, h1, h2, h3, h4, h5, h6, _⟩ := (Oj h).ex
 obtain ⟨i', j', g1, g2, g3, g4, g5, g6, _⟩ := (Oj h').ex
 rw [h2] at g1
 have : j = i' := Option.some.inj g1
 omega
theorem Ax5 {A : List Int} {off : Nat} {c : Cel} (h : (Qx A off)[0]? = some c) : c.from_ = off := by
 obtain ⟨i, j, h1, h2, h3, h4, h5, h6, _⟩ := (Oj h).ex
 rw [Za] at h1
 have : 0 = i := Option.some.inj h1
 omega
theorem Bj3 {A : List Int} {off m : Nat} {c : Cel} (h : (Qx A off)[m]? = some c) (hm : m + 1 = (Qx A off).length) : c.to_ = off + A.length := by
 obtain ⟨i, j, h1, h2, h3, h4, h5, h6, _⟩ := (Oj h).ex
 have := X0 A
 rw [Qh] at hm
 have e : m + 1 = (cuts A).length - 1 := hm
 rw [e, Yz] at h2
 have : A.length = j := Option.some.inj h2
 omega
theorem Bz5 (A : List Int) (off : Nat) : (Qx A off).length <= A.length := by
 rw [Qh]
 have := X3 A A.length
 unfold cuts; omega
def Du (C : List Cel) (at_ : Int) : Nat := C.findIdx λ c => decide (at_ < (c.to_ : Int))
theorem Yv (C : List Cel) (at_ : Int) : Du C at_ <= C.length := List.findIdx_le_length
theorem Yw {C : List Cel} {at_ : Int} {i : Nat} (hi : i <= C.length) (h1 : ∀ (j : Nat) (c : Cel), j < i -> C[j]? = some c -> (c.to_ : Int) <= at_) (h2 : ∀ c, C[i]? = some c -> at_ < (c.to_ : Int)) : Du C at_ = i := by
 unfold Du
 by_cases he : i = C.length
 ·subst he
  rw [List.findIdx_eq_length]
  intro c hc
  obtain ⟨j, hj⟩ := List.getElem?_of_mem hc
  have := h1 j c (List.getElem?_eq_some_iff.1 hj).1 hj
  rw [decide_eq_false_iff_not]; omega
 ·have hlt : i < C.length := by omega
  rw [List.findIdx_eq hlt]
  refine ⟨decide_eq_true (h2 _ (List.getElem?_eq_getElem hlt)), λ j hj => ?_⟩
  have := h1 j _ hj (List.getElem?_eq_getElem (by omega))
  rw [decide_eq_false_iff_not]; omega
theorem Oi {C : List Cel} {at_ : Int} : (∀ (j : Nat) (c : Cel), j < Du C at_ -> C[j]? = some c -> (c.to_ : Int) <= at_) /\ (∀ c, C[Du C at_]? = some c -> at_ < (c.to_ : Int)) := by
 constructor
 ·intro j c hj hc
  have := List.not_of_lt_findIdx hj
  obtain ⟨h, rfl⟩ := List.getElem?_eq_some_iff.1 hc
  simpa using this
 ·intro c hc
  obtain ⟨h, rfl⟩ := List.getElem?_eq_some_iff.1 hc
  have := List.findIdx_getElem (w := h)
  exact of_decide_eq_true this
end Obx
end Go.Proofs.YtolhlldgnfbemaaGreatDoor
namespace Go.Proofs.YtolhlldgnfbemaaGreatDoor
open Trx Gly Clu Lns Obx
namespace Obx
def Bb0 (A : List Int) (l : Ln) : List Cel := Qx ((A.drop l.from_).take (l.to_ - l.from_)) l.from_
end Obx
namespace Obx
def frm (C : List Cel) (j : Nat) : Nat := (C[j]?.map (·.from_)).getD 0
theorem Ib {C : List Cel} {j : Nat} {c : Cel} (h : C[j]? = some c) : frm C j = c.from_ := by unfold frm; rw [h]; rfl
structure Cx4 (A : List Int) (l : Ln) (c : Cel) (ci cj : Nat) : Prop where
 from_ : c.from_ = l.from_ + ci
 to_ : c.to_ = l.from_ + cj
 lt : ci < cj
 le : c.to_ <= l.to_
 atom : A[c.from_]? = some c.atom
 kind : c.kind = wrd c.atom
 alone : c.alone = decide (c.to_ = c.from_ + 1)
theorem Xf {A : List Int} {l : Ln} (h1 : l.from_ <= l.to_) (h2 : l.to_ <= A.length) {i : Nat} {c : Cel} (hc : (Bb0 A l)[i]? = some c) : ∃ ci cj, (cuts ((A.drop l.from_).take (l.to_ - l.from_)))[i]? = some ci /\ (cuts ((A.drop l.from_).take (l.to_ - l.from_)))[i + 1]? = some cj /\ Cx4 A l c ci cj := by
 obtain ⟨ci, cj, g1, g2, g3, g4, g5, g6, _, _, g9, g10, g11⟩ := (Oj hc).ex
 rw [List.length_take, List.length_drop] at g4
 refine ⟨ci, cj, g1, g2, g5, g6, g3, by omega, ?_, g10, ?_⟩
 ·rw [List.getElem?_take, if_pos (by omega), List.getElem?_drop] at g9
  rw [g5]; exact g9
 ·rw [Bool.eq_iff_iff, g11]; simp; omega
end Obx
namespace Obx
structure Chain (C : List Cel) : Prop where
 pos : ∀ (i : Nat) c, C[i]? = some c -> c.from_ < c.to_
 next : ∀ (i : Nat) c d, C[i]? = some c -> C[i + 1]? = some d -> c.to_ = d.from_
theorem Chain.mono {C : List Cel} (h : Chain C) : ∀ (d i : Nat) c e, C[i]? = some c -> C[i + 1 + d]? = some e -> c.to_ <= e.from_
 | 0, i, c, e, h1, h2 => Nat.le_of_eq (h.next i c e h1 h2)
 | d + 1, i, c, e, h1, h2 => by
  obtain ⟨x, hx⟩ : ∃ x, C[i + 1]? = some x := ⟨_, List.getElem?_eq_getElem (by have := (List.getElem?_eq_some_iff.1 h2).1; omega)⟩
  have e1 := h.next i c x h1 hx
  have := h.mono d (i + 1) x e hx (by rw [show i + 1 + 1 + d = i + 1 + (d + 1) by omega]; exact h2)
  have := h.pos _ x hx
  omega
theorem Chain.lt {C : List Cel} (h : Chain C) {i j : Nat} {c e : Cel} (hij : i < j) (h1 : C[i]? = some c) (h2 : C[j]? = some e) : c.to_ <= e.from_ := h.mono (j - i - 1) i c e h1 (by rw [show i + 1 + (j - i - 1) = j by omega]; exact h2)
theorem Ax6 (A : List Int) (off : Nat) : Chain (Qx A off) := ⟨λ i c h => by obtain ⟨a, b, _, _, g, _, g1, g2, _⟩ := (Oj h).ex; omega, λ i c d h h' => Bj2 h h'⟩
end Obx
namespace Mot
def Bc (A : List Int) (i : Nat) : Ln := (Kr A i).getD ⟨0, 0, 0, 0⟩
def Ai (A : List Int) (i : Nat) : List Cel := Bb0 A (Bc A i)
def inT (A : List Int) (x : Int) : Nat := (min (max x 0) (A.length : Int)).toNat
def ofI (A : List Int) (x : Int) : Nat := nb A (inT A x)
def Cj (A : List Int) (x : Int) (tail : Bool) : Nat := if tail then ofI A x else min (ofI A x) (lnN A - 1)
def Au (A : List Int) (i : Nat) (c : Int) : Nat := if c.toNat < (Ai A i).length then frm (Ai A i) c.toNat else (Bc A i).to_
def Bj (A : List Int) (x : Int) (past : Bool) : Nat :=
 if (Bc A (Cj A x past)).to_ <= inT A x then (if past then (Bc A (Cj A x past)).to_ else Au A (Cj A x past) (((Ai A (Cj A x past)).length : Int) - 1))
 else Au A (Cj A x past) ((Du (Ai A (Cj A x past)) (inT A x : Int) : Nat) : Int)
def Dp (A : List Int) (x : Int) : Nat := (max (min x ((lnN A : Int) - 1)) 0).toNat
def Yj (A : List Int) (line col : Int) (past : Bool) : Nat := Au A (Dp A line) (if ((Ai A (Dp A line)).length : Int) <= col /\ past = false then ((Ai A (Dp A line)).length : Int) - 1 else col)
def H7 (A : List Int) (x : Int) : Nat := Du (Ai A (ofI A x)) x
def kOf (count : Int) : Nat := if 0 < count then (min count 9999).toNat else 1
abbrev Ld := (Int × Int × Int) × Int
def Gu (A : List Int) (x : Nat) (kind : Int) : Ld := (((x : Int), kind, (H7 A (x : Int) : Int)), 0)
def noP (e : Int) : Ld := ((0, 0, 0), e)
def Gs (C : List Cel) (a : Int) (L : List Nat) (k : Nat) : Option Nat := (L.filter λ j => decide (C[j]?.map (·.atom) = some a))[k - 1]?
def upL (n c : Nat) : List Nat := List.range' (c + 1) (n - (c + 1))
def Qg (c : Nat) : List Nat := (List.range c).reverse
def Vw (A : List Int) (i : Nat) : Nat := if (Ai A i).findIdx (λ c => c.kind != 0) < (Ai A i).length then (Ai A i).findIdx (λ c => c.kind != 0) else (Ai A i).length - 1
def Cb (A : List Int) (x kind count arg : Int) (past : Bool) : Ld :=
 let s := Bj A x past
 let i := Cj A (s : Int) past
 let n := (Ai A i).length
 let c := Du (Ai A i) (s : Int)
 let most := if past then n else n - 1
 let k := kOf count
 if kind = 1 then (if c = 0 then noP 80 else Gu A (Au A i ((c : Int) - k)) 0) else
 if kind = 2 then (if c = most then noP 80 else Gu A (Au A i (min ((c : Int) + k) most)) 0) else
 if kind = 3 then Gu A (Bc A i).from_ 0 else
 if kind = 4 then Gu A (Au A i (Vw A i)) 0 else
 if kind = 5 then
  let j := if i < lnN A - 1 /\ 1 < k then min (i + k - 1) (lnN A - 1) else i
  (((Au A j (((Ai A j).length : Int) - 1) : Nat), 1, 100000), 0) else
 if kind = 6 then Gu A (Au A i (min ((k : Int) - 1) most)) 0 else
 if kind = 7 \/ kind = 9 then (match Gs (Ai A i) arg (upL n c) k with
  | none => noP 80
  | some j => Gu A (Au A i (if kind = 9 then (j : Int) - 1 else j)) 1) else
 if kind = 8 \/ kind = 10 then (match Gs (Ai A i) arg (Qg c) k with
  | none => noP 80
  | some j => Gu A (Au A i (if kind = 10 then (j : Int) + 1 else j)) 0) else noP 1
def Nc (A : List Int) (line goal : Int) : Ld := (((Yj A line goal false : Nat), 2, goal), 0)
def Ey (A : List Int) (line : Int) : Ld := Gu A (Au A (Dp A line) (Vw A (Dp A line))) 2
def Et (A : List Int) (x goal kind count : Int) : Ld :=
 let s := Bj A x false
 let i := Cj A (s : Int) false
 let k := kOf count
 let g := max goal 0
 if kind = 11 then (if i = lnN A - 1 then noP 80 else Nc A ((i : Int) + k) g) else
 if kind = 12 then (if i = 0 then noP 80 else Nc A ((i : Int) - k) g) else
 if kind = 13 then (if i = lnN A - 1 then noP 80 else Ey A ((i : Int) + k)) else
 if kind = 14 then (if i = 0 then noP 80 else Ey A ((i : Int) - k)) else
 if kind = 15 then Ey A ((i : Int) + k - 1) else
 if kind = 16 then Ey A (if 0 < count then (k : Int) - 1 else lnN A) else
 if kind = 17 then Ey A ((k : Int) - 1) else
 if kind = 18 then (if count <= 0 \/ 100 < k then noP 80 else Ey A (((k * lnN A + 99) / 100 : Nat) - 1)) else noP 1
def Vk (A : List Int) (p : Nat × Nat) : Nat := Au A p.1 (p.2 : Int)
def Bb1 (C : List Cel) (j : Nat) (big : Bool) : Nat := if big then min ((C[j]?.map (·.kind)).getD 0) 1 else (C[j]?.map (·.kind)).getD 0
end Mot
namespace Mot
variable {A : List Int} {i : Nat}
theorem Wn (h : i <= brs A) : Kr A i = some (Bc A i) := by
 obtain ⟨l, hl⟩ := Ba8 h
 unfold Bc; rw [hl]; rfl
theorem Dv (h : i <= brs A) : Cg2 A i (Bc A i) := Bo5 (Wn h)
theorem Ku (A : List Int) : brs A <= A.length := by rw [Jq]; exact Am3 _ _
theorem Dh (A : List Int) : 1 <= lnN A /\ lnN A <= brs A + 1 := by
 unfold lnN
 by_cases h : ended A = true
 ·rw [if_pos h]
  unfold ended at h
  rw [Bool.and_eq_true, decide_eq_true_eq, beq_iff_eq] at h
  refine ⟨?_, by omega⟩
  rcases Nat.eq_zero_or_pos (brs A) with q | q
  ·rw [q, Af1] at h
   have := Option.some.inj h.2
   omega
  ·omega
 ·rw [if_neg h]; omega
theorem Uf (A : List Int) (n : Nat) : nb A n <= brs A := by
 rw [Jq]
 rcases Nat.lt_or_ge n A.length with h | h
 ·exact Jo A _ _ (by omega)
 ·rw [U1 A n h, ← Jq]; exact Nat.le_refl _
theorem Aw0 (A : List Int) (x : Int) : inT A x <= A.length := by unfold inT; omega
theorem U9 {A : List Int} {n : Nat} (h : n <= A.length) : inT A (n : Int) = n := by unfold inT; omega
theorem Yl (A : List Int) (x : Int) : ofI A x <= brs A := Uf A _
theorem Qp (A : List Int) (x : Int) (tail : Bool) : Cj A x tail <= brs A := by
 unfold Cj
 split
 ·exact Yl A x
 ·have := Yl A x; omega
theorem Sv (A : List Int) (x : Int) : Dp A x < lnN A /\ Dp A x <= brs A := by
 have := Dh A
 unfold Dp; omega
theorem Hw (A : List Int) (i : Nat) : Chain (Ai A i) := Ax6 _ _
theorem Wu (h : i <= brs A) : ((A.drop (Bc A i).from_).take ((Bc A i).to_ - (Bc A i).from_)).length = (Bc A i).to_ - (Bc A i).from_ := by
 have ok := Dv h
 have := ok.ft; have := ok.tn; have := ok.nl
 rw [List.length_take, List.length_drop]; omega
theorem O7 {c : Cel} (hc : (Ai A i)[0]? = some c) : c.from_ = (Bc A i).from_ := Ax5 hc
theorem Ab1 (h : i <= brs A) {c : Cel} {m : Nat} (hc : (Ai A i)[m]? = some c) (hm : m + 1 = (Ai A i).length) : c.to_ = (Bc A i).to_ := by
 have := Bj3 hc hm
 rw [Wu h] at this
 have := (Dv h).ft
 omega
theorem Ws (h : i <= brs A) {c : Cel} {m : Nat} (hc : (Ai A i)[m]? = some c) : (Bc A i).from_ <= c.from_ /\ c.from_ < c.to_ /\ c.to_ <= (Bc A i).to_ := by
 obtain ⟨ci, cj, _, _, q⟩ := Xf (Dv h).ft (by have := (Dv h).tn; have := (Dv h).nl; omega) hc
 have := q.from_; have := q.to_; have := q.le; have := q.lt
 omega
theorem Nk (h : i <= brs A) : (Ai A i).length <= (Bc A i).to_ - (Bc A i).from_ := by
 have := Bz5 ((A.drop (Bc A i).from_).take ((Bc A i).to_ - (Bc A i).from_)) (Bc A i).from_
 rw [Wu h] at this; exact this
theorem Al1 (h : i <= brs A) : (Ai A i).length = 0 ↔ (Bc A i).from_ = (Bc A i).to_ := by
 have ft := (Dv h).ft
 constructor
 ·intro h0
  have hl := Qh ((A.drop (Bc A i).from_).take ((Bc A i).to_ - (Bc A i).from_)) (Bc A i).from_
  have hcl := Yz ((A.drop (Bc A i).from_).take ((Bc A i).to_ - (Bc A i).from_))
  have hch := Za ((A.drop (Bc A i).from_).take ((Bc A i).to_ - (Bc A i).from_))
  have hl2 : (cuts ((A.drop (Bc A i).from_).take ((Bc A i).to_ - (Bc A i).from_))).length - 1 = 0 := by rw [← hl]; exact h0
  rw [hl2, hch, Wu h] at hcl
  have := Option.some.inj hcl
  omega
 ·intro he
  have := Nk h
  omega
theorem Dz {C : List Cel} {j : Nat} (h : j < C.length) : ∃ c, C[j]? = some c := ⟨_, List.getElem?_eq_getElem h⟩
theorem Ei {c : Nat} (hc : c < (Ai A i).length) : Au A i (c : Int) = frm (Ai A i) c := by
 unfold Au; rw [Int.toNat_natCast, if_pos hc]
theorem Fv {c : Int} (hc : (Ai A i).length <= c.toNat) : Au A i c = (Bc A i).to_ := by
 unfold Au; rw [if_neg (by omega)]
theorem Gi {c : Int} (hc : c <= 0) : Au A i c = Au A i 0 := by
 unfold Au
 rw [show c.toNat = 0 by omega]; rfl
theorem Px (h : i <= brs A) (c : Int) : (Bc A i).from_ <= Au A i c /\ Au A i c <= (Bc A i).to_ := by
 have ft := (Dv h).ft
 unfold Au
 by_cases hc : c.toNat < (Ai A i).length
 ·obtain ⟨x, hx⟩ := Dz hc
  rw [if_pos hc, Ib hx]
  have := Ws h hx
  omega
 ·rw [if_neg hc]; omega
theorem Al6 (h : i <= brs A) : Au A i 0 = (Bc A i).from_ := by
 by_cases h0 : (Ai A i).length = 0
 ·rw [Fv (by omega)]
  exact ((Al1 h).1 h0).symm
 ·obtain ⟨x, hx⟩ := Dz (C := Ai A i) (j := 0) (by omega)
  have := Ei (A := A) (i := i) (c := 0) (by omega)
  rw [show ((0 : Nat) : Int) = 0 from rfl] at this
  rw [this, Ib hx]
  exact O7 hx
theorem Zo (h : i <= brs A) {c d : Nat} (hcd : c < d) (hd : d <= (Ai A i).length) : Au A i (c : Int) < Au A i (d : Int) := by
 obtain ⟨x, hx⟩ := Dz (C := Ai A i) (j := c) (by omega)
 rw [Ei (by omega), Ib hx]
 by_cases hd2 : d < (Ai A i).length
 ·obtain ⟨y, hy⟩ := Dz hd2
  rw [Ei hd2, Ib hy]
  have := (Hw A i).lt hcd hx hy
  have := (Hw A i).pos _ x hx
  omega
 ·rw [Fv (by omega)]
  have := Ws h hx
  omega
theorem Uk (h : i <= brs A) {c : Nat} (hc : c <= (Ai A i).length) : Du (Ai A i) (Au A i (c : Int) : Int) = c := by
 refine Yw hc (λ j x hj hx => ?_) λ x hx => ?_
 ·have hle : x.to_ <= Au A i (c : Int) := by
   by_cases hc2 : c < (Ai A i).length
   ·obtain ⟨y, hy⟩ := Dz hc2
    rw [Ei hc2, Ib hy]
    exact (Hw A i).lt hj hx hy
   ·rw [Fv (by omega)]
    exact (Ws h hx).2.2
  omega
 ·have hlt := (List.getElem?_eq_some_iff.1 hx).1
  rw [Ei hlt, Ib hx]
  have := (Hw A i).pos _ x hx
  omega
theorem O5 {j : Nat} (hij : i < j) (hj : j <= brs A) : (Bc A i).next <= (Bc A j).from_ := by
 induction j with
 | zero => omega
 | succ j ih =>
  have h1 := Wn (A := A) (i := j) (by omega)
  have h2 := Wn (A := A) hj
  have hs := (Ug h2).2
  have hst := ((Bo5 h1).brk _ hs).1
  by_cases he : i = j
  ·subst he; omega
  ·have := ih (by omega) (by omega)
   have ok := Dv (A := A) (i := j) (by omega)
   have := ok.ft; have := ok.tn
   omega
theorem row_of {n : Nat} (hn : n <= A.length) : (Bc A (nb A n)).from_ <= n /\ (n < (Bc A (nb A n)).next \/ (nb A n = brs A /\ (Bc A (nb A n)).next = A.length)) := by
 obtain ⟨l, hl, h1, h2⟩ := Cj2 A hn
 have : Bc A (nb A n) = l := by unfold Bc; rw [hl]; rfl
 rw [this]
 refine ⟨h1, h2.imp id λ ⟨hs, h3⟩ => ⟨?_, h3⟩⟩
 have hb := Uf A n
 rcases Nat.lt_or_ge (nb A n) (brs A) with q | q
 ·obtain ⟨x, hx⟩ := Ak9 (A := A) (k := nb A n + 1) (by omega)
  rw [hx] at hs; cases hs
 ·omega
theorem Ci8 (h : i <= brs A) {n : Nat} (h1 : (Bc A i).from_ <= n) (h2 : n <= (Bc A i).to_) : nb A n = i := by
 have ok := Dv h
 have := ok.tn; have := ok.nl
 rcases Nat.lt_or_ge n (Bc A i).next with q | q
 ·exact ok.nbf n h1 q
 ·have hn : n = (Bc A i).next /\ n = (Bc A i).to_ := by omega
  cases hx : sk A (i + 1) with
  | none =>
   obtain ⟨_, h3, h4⟩ := ok.tail hx
   by_cases hf : (Bc A i).from_ < n
   ·have h5 := ok.nbf (n - 1) (by omega) (by omega)
    have h6 := Oc A (n - 1)
    have hno : isb A (n - 1) = false := by
     obtain ⟨a, ha⟩ : ∃ a, A[n - 1]? = some a := ⟨_, List.getElem?_eq_getElem (by omega)⟩
     have hp := ok.plain (n - 1) a (by omega) (by omega) ha
     cases hb : isb A (n - 1) with
     | false => rfl
     | true =>
      rcases (Il ha).1 hb with q | q
      ·exact absurd q hp.1
      ·exact absurd q.1 hp.2
    rw [hno, show n - 1 + 1 = n by omega] at h6
    simp at h6
    omega
   ·have : n = (Bc A i).from_ := by omega
    rw [this]; exact ok.nbF
  | some x =>
   have := (ok.brk x hx).2.1
   omega
theorem Am0 (h : i <= brs A) (c : Int) : nb A (Au A i c) = i := Ci8 h (Px h c).1 (Px h c).2
theorem Pv (h : i <= brs A) (c : Int) : Au A i c <= A.length := by
 have := (Px h c).2
 have ok := Dv h
 have := ok.tn; have := ok.nl
 omega
theorem Ue (h : i <= brs A) (c : Int) : ofI A (Au A i c : Int) = i := by
 unfold ofI
 rw [U9 (Pv h c)]; exact Am0 h c
end Mot
namespace Mot
variable {A : List Int} {p q : Nat × Nat}
structure On (A : List Int) (p : Nat × Nat) : Prop where
 row : p.1 <= brs A
 col : p.2 <= (Ai A p.1).length
structure Plc (A : List Int) (p : Nat × Nat) : Prop where
 row : p.1 < lnN A
 col : p.2 < (Ai A p.1).length \/ ((Ai A p.1).length = 0 /\ p.2 = 0)
theorem Plc.on (h : Plc A p) : On A p := ⟨by have := Dh A; have := h.row; omega, by have := h.col; omega⟩
end Mot
namespace Mot
variable {A : List Int} {p q : Nat × Nat}
theorem An8 {i n : Nat} (h : i <= brs A) (h1 : (Bc A i).from_ <= n) (h2 : n < (Bc A i).to_) : Du (Ai A i) (n : Int) < (Ai A i).length /\ Au A i ((Du (Ai A i) (n : Int) : Nat) : Int) <= n := by
 obtain ⟨s1, s2⟩ := Oi (C := Ai A i) (at_ := (n : Int))
 have hle := Yv (Ai A i) (n : Int)
 have hlt : Du (Ai A i) (n : Int) < (Ai A i).length := by
  rcases Nat.lt_or_ge (Du (Ai A i) (n : Int)) (Ai A i).length with q | q
  ·exact q
  ·exfalso
   have hn : (Ai A i).length ≠ 0 := λ h0 => by have := (Al1 h).1 h0; omega
   obtain ⟨z, hz⟩ := Dz (C := Ai A i) (j := (Ai A i).length - 1) (by omega)
   have := s1 _ z (by omega) hz
   have := Ab1 h hz (by omega)
   omega
 refine ⟨hlt, ?_⟩
 rw [Ei hlt]
 obtain ⟨c, hc⟩ := Dz hlt
 rw [Ib hc]
 cases hf : Du (Ai A i) (n : Int) with
 | zero =>
  rw [hf] at hc
  have := O7 hc
  omega
 | succ m =>
  rw [hf] at hc
  obtain ⟨d, hd⟩ := Dz (C := Ai A i) (j := m) (by omega)
  have := s1 m d (by omega) hd
  have := (Hw A i).next m d c hd hc
  omega
theorem Xu (A : List Int) (x : Int) (past : Bool) : ∃ c : Nat, c <= (Ai A (Cj A x past)).length /\ (past = false -> c < (Ai A (Cj A x past)).length \/ (Ai A (Cj A x past)).length = 0) /\ Bj A x past = Au A (Cj A x past) (c : Int) := by
 have hi := Qp A x past
 unfold Bj
 by_cases h : (Bc A (Cj A x past)).to_ <= inT A x
 ·rw [if_pos h]
  cases past with
  | true => exact ⟨_, Nat.le_refl _, (λ h => by cases h), by rw [if_pos rfl]; exact (Fv (by omega)).symm⟩
  | false =>
   rw [if_neg (by decide)]
   refine ⟨(Ai A (Cj A x false)).length - 1, by omega, λ _ => by omega, ?_⟩
   rcases Nat.eq_zero_or_pos (Ai A (Cj A x false)).length with u | u
   ·rw [u]
    exact Gi (by omega)
   ·rw [show ((Ai A (Cj A x false)).length : Int) - 1 = (((Ai A (Cj A x false)).length - 1 : Nat) : Int) by omega]
 ·rw [if_neg h]
  have hf : (Bc A (Cj A x past)).from_ <= inT A x := by
   have hro := (row_of (A := A) (Aw0 A x)).1
   unfold Cj at h ⊢
   cases past with
   | true => exact hro
   | false =>
    rw [if_neg (by decide)] at h ⊢
    rcases Nat.lt_or_ge (lnN A - 1) (ofI A x) with u | u
    ·exfalso
     rw [Nat.min_eq_right (by omega)] at h
     have hb := Dh A
     have hro2 := O5 (A := A) (i := lnN A - 1) (j := ofI A x) u (Yl A x)
     have ok := Dv (A := A) (i := lnN A - 1) (by omega)
     have := ok.tn
     unfold ofI at hro2
     omega
    ·rw [Nat.min_eq_left u]; exact hro
  obtain ⟨g1, g2⟩ := An8 hi hf (by omega)
  exact ⟨_, by omega, λ _ => .inl g1, rfl⟩
def Aq (A : List Int) (x : Int) (past : Bool) : Nat × Nat := (Cj A x past, Du (Ai A (Cj A x past)) (Bj A x past : Int))
theorem Em (A : List Int) (x : Int) (past : Bool) : Cj A (Bj A x past : Int) past = Cj A x past := by
 obtain ⟨c, _, _, hc⟩ := Xu A x past
 have hi := Qp A x past
 rw [hc]
 have ho := Ue hi (c : Int)
 show (if past then ofI A _ else min (ofI A _) (lnN A - 1)) = _
 rw [ho]
 cases past with
 | true => rfl
 | false =>
  rw [if_neg (by decide)]
  unfold Cj
  rw [if_neg (by decide)]; omega
theorem Cd8 (A : List Int) (x : Int) (past : Bool) : On A (Aq A x past) /\ Vk A (Aq A x past) = Bj A x past /\ (past = false -> Plc A (Aq A x past)) := by
 obtain ⟨c, h1, h2, hc⟩ := Xu A x past
 have hi := Qp A x past
 have hcol : Du (Ai A (Cj A x past)) (Bj A x past : Int) = c := by rw [hc]; exact Uk hi h1
 unfold Aq
 rw [hcol]
 refine ⟨⟨hi, h1⟩, hc.symm, λ hp => ⟨?_, ?_⟩⟩
 ·subst hp
  have hb := Dh A
  show Cj A x false < _
  unfold Cj
  rw [if_neg (by decide)]; omega
 ·rcases h2 hp with q | q
  ·exact .inl q
  ·exact .inr ⟨q, by dsimp only at h1 ⊢; omega⟩
theorem Br7 (A : List Int) (x : Int) (past : Bool) : Bj A x past <= A.length := by
 obtain ⟨c, _, _, hc⟩ := Xu A x past
 rw [hc]; exact Pv (Qp A x past) _
theorem Br6 {i c : Nat} (h : i <= brs A) (hc : c <= (Ai A i).length) : Bj A (Au A i (c : Int) : Int) true = Au A i (c : Int) := by
 have hr : Cj A (Au A i (c : Int) : Int) true = i := by unfold Cj; rw [if_pos rfl]; exact Ue h _
 unfold Bj
 rw [hr, U9 (Pv h _), if_pos rfl]
 by_cases hl : (Bc A i).to_ <= Au A i (c : Int)
 ·rw [if_pos hl]
  have := (Px h (c : Int)).2; omega
 ·rw [if_neg hl, Uk h hc]
theorem Br8 {i c : Nat} (h : i < lnN A) (hc : c < (Ai A i).length \/ ((Ai A i).length = 0 /\ c = 0)) : Bj A (Au A i (c : Int) : Int) false = Au A i (c : Int) := by
 have hb := Dh A
 have hi : i <= brs A := by omega
 have hr : Cj A (Au A i (c : Int) : Int) false = i := by unfold Cj; rw [if_neg (by decide), Ue hi]; omega
 unfold Bj
 rw [hr, U9 (Pv hi _), if_neg (show ¬ (false = true) by decide)]
 rcases hc with hc | ⟨h0, rfl⟩
 ·have h1 := Zo hi hc (Nat.le_refl _)
  rw [Fv (c := ((Ai A i).length : Int)) (by omega)] at h1
  rw [if_neg (by omega), Uk hi (by omega)]
 ·have e1 : Au A i ((0 : Nat) : Int) = (Bc A i).to_ := Fv (by omega)
  rw [e1, if_pos (Nat.le_refl _), h0, Gi (by omega)]
  exact e1
end Mot
namespace Mot
variable {A : List Int} {p q : Nat × Nat}
def Stand (A : List Int) (n : Nat) (past : Bool) : Prop := ∃ p, On A p /\ Vk A p = n /\ (past = false -> Plc A p)
theorem Stand.clamp {n : Nat} {past : Bool} (h : Stand A n past) : Bj A (n : Int) past = n := by
 obtain ⟨⟨i, c⟩, h1, rfl, h3⟩ := h
 cases past with
 | true => exact Br6 h1.row h1.col
 | false => exact Br8 (h3 rfl).row (h3 rfl).col
theorem Bw2 (A : List Int) (x : Int) : Cj A x false < lnN A := by
 have := Dh A
 unfold Cj
 rw [if_neg (by decide)]; omega
theorem Aa8 {C : List Cel} {a : Int} {L : List Nat} {k j : Nat} (h : Gs C a L k = some j) : j ∈ L /\ ∃ c, C[j]? = some c := by
 unfold Gs at h
 have := List.mem_of_getElem? h
 rw [List.mem_filter, decide_eq_true_eq] at this
 refine ⟨this.1, ?_⟩
 cases hc : C[j]? with
 | none => rw [hc] at this; simp at this
 | some c => exact ⟨c, rfl⟩
theorem Bx3 (c : Int) : 1 <= kOf c := by unfold kOf; split <;> omega
theorem Ce8 (c : Int) : kOf c <= 9999 := by unfold kOf; split <;> omega
end Mot
namespace Mot
variable {A : List Int}
theorem Bn4 (A : List Int) (x : Int) (past : Bool) : nb A (Bj A x past) = Cj A x past := by
 obtain ⟨c, _, _, hc⟩ := Xu A x past
 rw [hc]; exact Am0 (Qp A x past) _
end Mot
namespace Mot
variable {A : List Int}
theorem Cd7 {p : Nat × Nat} {past : Bool} (h1 : On A p) (h3 : past = false -> Plc A p) : Aq A (Vk A p : Int) past = p := by
 have hb := Dh A
 have hc : Bj A (Vk A p : Int) past = Vk A p := Stand.clamp ⟨p, h1, rfl, h3⟩
 have hr : Cj A (Vk A p : Int) past = p.1 := by
  unfold Cj Vk
  rw [Ue h1.row]
  cases past with
  | true => rfl
  | false => rw [if_neg (by decide)]; have := (h3 rfl).row; omega
 unfold Aq
 rw [hc, hr]
 unfold Vk
 rw [Uk h1.row h1.col]
def Iw (A : List Int) (i : Nat) (past : Bool) : Nat := if past then (Ai A i).length else (Ai A i).length - 1
theorem Bm6 (A : List Int) (x : Int) (past : Bool) : (Aq A x past).2 <= Iw A (Aq A x past).1 past /\ Iw A (Aq A x past).1 past <= (Ai A (Aq A x past).1).length := by
 obtain ⟨h1, _, h3⟩ := Cd8 A x past
 unfold Iw
 cases past with
 | true => exact ⟨h1.col, Nat.le_refl _⟩
 | false => have := (h3 rfl).col; rw [if_neg (by decide)]; omega
theorem Bj1 (A : List Int) (x count arg : Int) (past : Bool) : Cb A x 1 count arg past = if (Aq A x past).2 = 0 then noP 80 else Gu A (Vk A ((Aq A x past).1, (Aq A x past).2 - kOf count)) 0 := by
 have e : Cb A x 1 count arg past = if Du (Ai A (Cj A (Bj A x past : Int) past)) (Bj A x past : Int) = 0 then noP 80 else Gu A (Au A (Cj A (Bj A x past : Int) past) (((Du (Ai A (Cj A (Bj A x past : Int) past)) (Bj A x past : Int) : Nat) : Int) - kOf count)) 0 := by
  unfold Cb
  try dsimp only
  rw [if_pos rfl]
 rw [e, Em]
 unfold Aq
 try dsimp only
 split
 ·rfl
 ·congr 1
  unfold Vk
  try dsimp only
  generalize Du (Ai A (Cj A x past)) (Bj A x past : Int) = c
  rcases Nat.le_total c (kOf count) with u | u
  ·rw [Gi (by omega), Gi (c := ((c - kOf count : Nat) : Int)) (by omega)]
  ·congr 1; omega
theorem Ad4 (A : List Int) (x count arg : Int) (past : Bool) : Cb A x 2 count arg past = if (Aq A x past).2 = Iw A (Aq A x past).1 past then noP 80 else Gu A (Vk A ((Aq A x past).1, min ((Aq A x past).2 + kOf count) (Iw A (Aq A x past).1 past))) 0 := by
 have e : Cb A x 2 count arg past = if Du (Ai A (Cj A (Bj A x past : Int) past)) (Bj A x past : Int) = Iw A (Cj A (Bj A x past : Int) past) past then noP 80 else Gu A (Au A (Cj A (Bj A x past : Int) past) (min (((Du (Ai A (Cj A (Bj A x past : Int) past)) (Bj A x past : Int) : Nat) : Int) + kOf count) (Iw A (Cj A (Bj A x past : Int) past) past))) 0 := by
  unfold Cb
  try dsimp only
  rw [if_neg (by decide), if_pos rfl]; rfl
 rw [e, Em]
 unfold Aq
 try dsimp only
 split
 ·rfl
 ·congr 1
  unfold Vk
  try dsimp only
  congr 1; omega
end Mot
namespace Mot
variable {A : List Int} {i : Nat}
def rowB (A : List Int) (i : Nat) : List Int := (A.drop (Bc A i).from_).take ((Bc A i).to_ - (Bc A i).from_)
def Qk (A : List Int) (i j : Nat) : Nat := Au A i (j : Int) - (Bc A i).from_
theorem Rx (h : i <= brs A) : (rowB A i).length = (Bc A i).to_ - (Bc A i).from_ := Wu h
theorem Ab2 (A : List Int) (i : Nat) : (Ai A i).length + 1 = (cuts (rowB A i)).length := by
 have h1 : (Ai A i).length = (cuts (rowB A i)).length - 1 := Qh _ _
 have h2 := X0 (rowB A i)
 omega
theorem Bl9 (h : i <= brs A) : cuts (rowB A i) = (List.range ((Ai A i).length + 1)).map (Qk A i) := by
 have hn := Ab2 A i
 refine List.ext_getElem? λ j => ?_
 rw [List.getElem?_map]
 rcases Nat.lt_or_ge j (Ai A i).length with hj | hj
 ·obtain ⟨c, hc⟩ := Dz hj
  obtain ⟨ci, cj, g1, _, q⟩ := Xf (Dv h).ft (by have := (Dv h).tn; have := (Dv h).nl; omega) hc
  have g1 : (cuts (rowB A i))[j]? = some ci := g1
  rw [g1, List.getElem?_range (by omega)]
  show some ci = some (Qk A i j)
  unfold Qk
  rw [Ei hj, Ib hc, q.from_]
  congr 1; omega
 ·rcases Nat.lt_or_ge (Ai A i).length j with u | u
  ·rw [List.getElem?_eq_none (by omega), List.getElem?_eq_none (by rw [List.length_range]; omega)]; rfl
  ·have hjn : j = (Ai A i).length := by omega
   have hl := Yz (rowB A i)
   rw [← hn, Nat.add_sub_cancel] at hl
   rw [hjn, hl, List.getElem?_range (by omega)]
   show some _ = some (Qk A i _)
   unfold Qk
   rw [Fv (by omega), Rx h]
theorem Ad8 (h : i <= brs A) (c : Nat) : (Bc A i).from_ + Qk A i c = Au A i (c : Int) := by
 have := (Px h (c : Int)).1
 unfold Qk; omega
theorem Bs8 (h : i <= brs A) {j : Nat} (hj : j < (Ai A i).length) : (rowB A i)[Qk A i j]? = ((Ai A i)[j]?).map (·.atom) := by
 obtain ⟨c, hc⟩ := Dz hj
 obtain ⟨ci, cj, _, _, q⟩ := Xf (Dv h).ft (by have := (Dv h).tn; have := (Dv h).nl; omega) hc
 have h1 := q.from_; have h2 := q.to_; have h3 := q.lt; have h4 := q.le
 have hb : Qk A i j = ci := by
  unfold Qk
  rw [Ei hj, Ib hc]; omega
 rw [hb, hc]
 unfold rowB
 rw [List.getElem?_take, if_pos (by omega), List.getElem?_drop, ← h1]
 exact q.atom
end Mot
namespace Mot
variable {A : List Int}
theorem Qw (A : List Int) (x count arg : Int) (past : Bool) :
  Cb A x 7 count arg past = (match Gs (Ai A (Aq A x past).1) arg (upL (Ai A (Aq A x past).1).length (Aq A x past).2) (kOf count) with | none => noP 80 | some j => Gu A (Au A (Aq A x past).1 (j : Int)) 1) /\
  Cb A x 9 count arg past = (match Gs (Ai A (Aq A x past).1) arg (upL (Ai A (Aq A x past).1).length (Aq A x past).2) (kOf count) with | none => noP 80 | some j => Gu A (Au A (Aq A x past).1 ((j : Int) - 1)) 1) /\
  Cb A x 8 count arg past = (match Gs (Ai A (Aq A x past).1) arg (Qg (Aq A x past).2) (kOf count) with | none => noP 80 | some j => Gu A (Au A (Aq A x past).1 (j : Int)) 0) /\
  Cb A x 10 count arg past = (match Gs (Ai A (Aq A x past).1) arg (Qg (Aq A x past).2) (kOf count) with | none => noP 80 | some j => Gu A (Au A (Aq A x past).1 ((j : Int) + 1)) 0) := by
 have hr := Em A x past
 refine ⟨?_, ?_, ?_, ?_⟩
 ·unfold Cb Aq
  dsimp only
  rw [hr, if_neg (by decide), if_neg (by decide), if_neg (by decide), if_neg (by decide), if_neg (by decide), if_neg (by decide), if_pos (by decide)]
  all_goals (cases Gs (Ai A (Cj A x past)) arg (upL (Ai A (Cj A x past)).length (Du (Ai A (Cj A x past)) (Bj A x past : Int))) (kOf count) <;> rfl)
 ·unfold Cb Aq
  dsimp only
  rw [hr, if_neg (by decide), if_neg (by decide), if_neg (by decide), if_neg (by decide), if_neg (by decide), if_neg (by decide), if_pos (by decide)]
  all_goals (cases Gs (Ai A (Cj A x past)) arg (upL (Ai A (Cj A x past)).length (Du (Ai A (Cj A x past)) (Bj A x past : Int))) (kOf count) <;> rfl)
 ·unfold Cb Aq
  dsimp only
  rw [hr, if_neg (by decide), if_neg (by decide), if_neg (by decide), if_neg (by decide), if_neg (by decide), if_neg (by decide), if_neg (by decide), if_pos (by decide)]
  all_goals (cases Gs (Ai A (Cj A x past)) arg (Qg (Du (Ai A (Cj A x past)) (Bj A x past : Int))) (kOf count) <;> rfl)
 ·unfold Cb Aq
  dsimp only
  rw [hr, if_neg (by decide), if_neg (by decide), if_neg (by decide), if_neg (by decide), if_neg (by decide), if_neg (by decide), if_neg (by decide), if_pos (by decide)]
  all_goals (cases Gs (Ai A (Cj A x past)) arg (Qg (Du (Ai A (Cj A x past)) (Bj A x past : Int))) (kOf count) <;> rfl)
end Mot
namespace Mot
variable {A : List Int} {p q : Nat × Nat}
def upF (f : Nat -> Bool) (j n k : Nat) : Option Nat := ((List.range' j (n - j)).filter f)[k - 1]?
def dnF (f : Nat -> Bool) (j k : Nat) : Option Nat := ((List.range j).reverse.filter f)[k - 1]?
theorem Bk6 {f : Nat -> Bool} {j n k : Nat} (h : n <= j) : upF f j n k = none := by unfold upF; rw [show n - j = 0 by omega]; rfl
theorem Ae5 {j n : Nat} (h : j < n) : List.range' j (n - j) = j :: List.range' (j + 1) (n - (j + 1)) := by
 obtain ⟨m, hm⟩ : ∃ m, n - j = m + 1 := ⟨n - j - 1, by omega⟩
 rw [hm, List.range'_succ, show n - (j + 1) = m by omega]
theorem Cc0 {f : Nat -> Bool} {j n k : Nat} (h : j < n) (hf : f j = false) : upF f j n k = upF f (j + 1) n k := by
 unfold upF; rw [Ae5 h, List.filter_cons_of_neg (by rw [hf]; decide)]
theorem Bu8 {f : Nat -> Bool} {j n : Nat} (h : j < n) (hf : f j = true) : upF f j n 1 = some j := by
 unfold upF; rw [Ae5 h, List.filter_cons_of_pos hf]; rfl
theorem Bk7 {f : Nat -> Bool} {j n k : Nat} (h : j < n) (hf : f j = true) (hk : 1 <= k) : upF f j n (k + 1) = upF f (j + 1) n k := by
 unfold upF; rw [Ae5 h, List.filter_cons_of_pos hf]
 obtain ⟨i, rfl⟩ : ∃ i, k = i + 1 := ⟨k - 1, by omega⟩
 rfl
theorem Cf3 {f : Nat -> Bool} {j k : Nat} (hf : f j = false) : dnF f (j + 1) k = dnF f j k := by
 unfold dnF; rw [List.range_succ, List.reverse_append, List.reverse_singleton, List.singleton_append, List.filter_cons_of_neg (by rw [hf]; decide)]
theorem Bz0 {f : Nat -> Bool} {j : Nat} (hf : f j = true) : dnF f (j + 1) 1 = some j := by
 unfold dnF; rw [List.range_succ, List.reverse_append, List.reverse_singleton, List.singleton_append, List.filter_cons_of_pos hf]; rfl
theorem Br0 {f : Nat -> Bool} {j k : Nat} (hf : f j = true) (hk : 1 <= k) : dnF f (j + 1) (k + 1) = dnF f j k := by
 unfold dnF; rw [List.range_succ, List.reverse_append, List.reverse_singleton, List.singleton_append, List.filter_cons_of_pos hf]
 obtain ⟨i, rfl⟩ : ∃ i, k = i + 1 := ⟨k - 1, by omega⟩
 rfl
theorem Az2 {i c : Nat} {x : Cel} (hx : (Ai A i)[c]? = some x) (hk : x.kind ≠ 0) (h0 : ∀ (j : Nat) y, j < c -> (Ai A i)[j]? = some y -> y.kind = 0) : Vw A i = c := by
 have hl := (List.getElem?_eq_some_iff.1 hx).1
 have e : (Ai A i).findIdx (λ c => c.kind != 0) = c := by
  rw [List.findIdx_eq hl]
  refine ⟨?_, λ j hj => ?_⟩
  ·rw [List.getElem?_eq_getElem hl] at hx
   rw [Option.some.inj hx]; simpa using hk
  ·have := h0 j _ hj (List.getElem?_eq_getElem (by omega))
   simpa using this
 unfold Vw
 rw [e, if_pos hl]
theorem Aa7 {i : Nat} (h0 : ∀ (j : Nat) y, (Ai A i)[j]? = some y -> y.kind = 0) : Vw A i = (Ai A i).length - 1 := by
 have e : (Ai A i).findIdx (λ c => c.kind != 0) = (Ai A i).length := by
  rw [List.findIdx_eq_length]
  intro c hc
  obtain ⟨j, hj⟩ := List.getElem?_of_mem hc
  have := h0 j c hj
  simpa using this
 unfold Vw
 rw [e, if_neg (Nat.lt_irrefl _)]
end Mot
end Go.Proofs.YtolhlldgnfbemaaGreatDoor
namespace Go.Proofs.YtolhlldgnfbemaaGreatDoor
open Go Go.Vx
def F34 (a0 : Option Addr) (a1 : Int) (a2 : Bool) (K : Int -> Wp) : Wp := Aa Tryz.prog 78 #[(.pointer a0), (vI a1), (.bool a2)] (.one (.agg Bg)) λ (x1 : (Int × Int × Int × Int × Int × Sl × Sl × Unit)) => Ae (.cells #[(vI 0), (vI 0), (vI 0), (vI 0), (vI 0), (.slice none 0 0), (.slice none 0 0)] 135) λ b2 => Ad (at0 b2) (vA Bg x1) 7 <| cN 23 #[(.pointer a0)] λ x3 => lI (ad b2 1) λ x4 => sif (decide ((if x3 < (if 0 > a1 then 0 else a1) then x3 else (if 0 > a1 then 0 else a1)) >= x4)) ( sif a2 ( lI (ad b2 1) λ x5 => K x5) ( drew <| lds Bg (at0 b2) λ (x6 : (Int × Int × Int × Int × Int × Sl × Sl × Unit)) => lds Bg (at0 b2) λ (x7 : (Int × Int × Int × Int × Int × Sl × Sl × Unit)) => cN 80 #[(vA Bg x7)] λ x8 => keep (λ w => Aj w (at0 b2) 0 (Cells.vals Bg x6)) <| cN 79 #[(vA Bg x6), (vI (W64 (x8 - 1)))] λ x9 => K x9)) ( drew <| lds Bg (at0 b2) λ (x10 : (Int × Int × Int × Int × Int × Sl × Sl × Unit)) => lds Bg (at0 b2) λ (x11 : (Int × Int × Int × Int × Int × Sl × Sl × Unit)) => cN 81 #[(vA Bg x11), (vI (if x3 < (if 0 > a1 then 0 else a1) then x3 else (if 0 > a1 then 0 else a1)))] λ x12 => keep (λ w => Aj w (at0 b2) 0 (Cells.vals Bg x10)) <| cN 79 #[(vA Bg x10), (vI x12)] λ x13 => K x13)
def h34 : Hint := (hS (hR 1) (hS (hR 6) (hS (hR 6) (hS (hS (hR 5) (hC (hS (hS (hR 1) (hC (hS (hR 4) hL) hL)) (hS (.region (lR 6) (hO 6)) hL)) hL)) (hS (.region (lR 6) (hO 6)) hL)))))
theorem A34 {a0 : Option Addr} {a1 : Int} {a2 : Bool} {K : Int -> Wp} {w : World} (h : F34 a0 a1 a2 K w) : Aa Tryz.prog 34 #[(.pointer a0), (vI a1), (.bool a2)] rI K w := tied Ah Tryz.func34 h34 _ h
def F36 (a0 : Option Addr) (a1 : Int) (a2 : Int) (a3 : Bool) (K : Int -> Wp) : Wp := cN 87 #[(.pointer a0)] λ x1 => Aa Tryz.prog 86 #[(.pointer a0), (vI (if (W64 (x1 - 1)) < (if 0 > a1 then 0 else a1) then (W64 (x1 - 1)) else (if 0 > a1 then 0 else a1)))] (.one (.agg Bg)) λ (x2 : (Int × Int × Int × Int × Int × Sl × Sl × Unit)) => Ae (.cells #[(vI 0), (vI 0), (vI 0), (vI 0), (vI 0), (.slice none 0 0), (.slice none 0 0)] 135) λ b3 => Ad (at0 b3) (vA Bg x2) 7 <| jI (λ J4 => lds Bg (at0 b3) λ (x6 : (Int × Int × Int × Int × Int × Sl × Sl × Unit)) => cN 80 #[(vA Bg x6)] λ x7 => jB (λ J8 => sif (decide (a2 >= x7)) ( J8 ((!a3), ())) ( J8 (false, ()))) λ s9 => sif s9.1 ( J4 ((W64 (x7 - 1)), ())) ( J4 (a2, ()))) λ s5 => lds Bg (at0 b3) λ (x10 : (Int × Int × Int × Int × Int × Sl × Sl × Unit)) => cN 79 #[(vA Bg x10), (vI s5.1)] λ x11 => K x11
def h36 : Hint := (hS (hR 1) (hS (hR 10) (hJ (0x3ff80404, [(2, tI)]) (hS (hR 3) (hJ (0xfe00000, [(27, tB)]) (.region [] (.ops 4 (.split 24 (hO 3) (.skips 2 (hO 1))))) (hC (hR 3) hL))) (hS (hR 4) hL))))
theorem A36 {a0 : Option Addr} {a1 : Int} {a2 : Int} {a3 : Bool} {K : Int -> Wp} {w : World} (h : F36 a0 a1 a2 a3 K w) : Aa Tryz.prog 36 #[(.pointer a0), (vI a1), (vI a2), (.bool a3)] rI K w := tied Ah Tryz.func36 h36 _ h
def F38 (a0 : Option Addr) (a1 : Int) (K : Int -> Wp) : Wp := Aa Tryz.prog 78 #[(.pointer a0), (vI a1), (.bool true)] (.one (.agg Bg)) λ (x1 : (Int × Int × Int × Int × Int × Sl × Sl × Unit)) => Ae (.cells #[(vI 0), (vI 0), (vI 0), (vI 0), (vI 0), (.slice none 0 0), (.slice none 0 0)] 135) λ b2 => Ad (at0 b2) (vA Bg x1) 7 <| lds Bg (at0 b2) λ (x3 : (Int × Int × Int × Int × Int × Sl × Sl × Unit)) => cN 81 #[(vA Bg x3), (vI a1)] λ x4 => K x4
def h38 : Hint := (hS (hR 1) (hS (hR 5) (hS (hR 4) hL)))
theorem A38 {a0 : Option Addr} {a1 : Int} {K : Int -> Wp} {w : World} (h : F38 a0 a1 K w) : Aa Tryz.prog 38 #[(.pointer a0), (vI a1)] rI K w := tied Ah Tryz.func38 h38 _ h
def F40 (a0 : Option Addr) (a1 : Int) (a2 : I3) (a3 : Bool) (K : (I3 × Int × Unit) -> Wp) : Wp := Ae (.cells #[(vI a2.1), (vI a2.2.1), (vI a2.2.2.1)] 48) λ b1 => Ae (.cells #[(vI 0), (vI 0), (vI 0)] 83) λ b2 => lds c48 (at0 b1) λ (x3 : I3) => Aa Tryz.prog 89 #[(.func (.func 90) #[] #[]), (.pointer a0), (vI a1), (vI 0), (vA c48 x3), (.bool a3)] (.tup [(.agg c83), (.one cI)]) λ (x4 : (I3 × Int × Unit)) => Ad (at0 b2) (vA c83 x4.1) 3 <| lds c83 (at0 b2) λ (x5 : I3) => K (x5, x4.2.1, ())
def h40 : Hint := (hS (hR 3) (hS (hR 9) hL))
theorem A40 {a0 : Option Addr} {a1 : Int} {a2 : I3} {a3 : Bool} {K : (I3 × Int × Unit) -> Wp} {w : World} (h : F40 a0 a1 a2 a3 K w) : Aa Tryz.prog 40 #[(.pointer a0), (vI a1), (vA c48 a2), (.bool a3)] (.tup [(.agg c83), (.one cI)]) K w := tied Ah Tryz.func40 h40 _ h
def F43 (a0 : Option Addr) (a1 : Int) (a2 : Int) (a3 : I3) (K : (I3 × Int × Unit) -> Wp) : Wp := Ae (.cells #[(vI a3.1), (vI a3.2.1), (vI a3.2.2.1)] 48) λ b1 => Ae (.cells #[(vI 0), (vI 0), (vI 0)] 83) λ b2 => lds c48 (at0 b1) λ (x3 : I3) => Aa Tryz.prog 89 #[(.func (.func 96) #[] #[]), (.pointer a0), (vI a1), (vI a2), (vA c48 x3), (.bool false)] (.tup [(.agg c83), (.one cI)]) λ (x4 : (I3 × Int × Unit)) => Ad (at0 b2) (vA c83 x4.1) 3 <| lds c83 (at0 b2) λ (x5 : I3) => K (x5, x4.2.1, ())
def h43 : Hint := (hS (hR 3) (hS (hR 9) hL))
theorem A43 {a0 : Option Addr} {a1 : Int} {a2 : Int} {a3 : I3} {K : (I3 × Int × Unit) -> Wp} {w : World} (h : F43 a0 a1 a2 a3 K w) : Aa Tryz.prog 43 #[(.pointer a0), (vI a1), (vI a2), (vA c48 a3)] (.tup [(.agg c83), (.one cI)]) K w := tied Ah Tryz.func43 h43 _ h
def F78 (a0 : Option Addr) (a1 : Int) (a2 : Bool) (K : (Int × Int × Int × Int × Int × Sl × Sl × Unit) -> Wp) : Wp := Ae (.cells #[(vI 0), (vI 0), (vI 0), (vI 0), (vI 0), (.slice none 0 0), (.slice none 0 0)] 135) λ b1 => cN 130 #[(.pointer a0), (vI a1)] λ x2 => jI (λ J3 => sif (!a2) ( cN 87 #[(.pointer a0)] λ x5 => J3 ((if (W64 (x5 - 1)) < x2 then (W64 (x5 - 1)) else x2), ())) ( J3 (x2, ()))) λ s4 => Aa Tryz.prog 86 #[(.pointer a0), (vI s4.1)] (.one (.agg Bg)) λ (x6 : (Int × Int × Int × Int × Int × Sl × Sl × Unit)) => Ad (at0 b1) (vA Bg x6) 7 <| lds Bg (at0 b1) λ (x7 : (Int × Int × Int × Int × Int × Sl × Sl × Unit)) => K x7
def h78 : Hint := (hS (hR 1) (hS (hR 4) (hJ (260224, [(7, tI)]) (hS (hR 2) (hC (hR 6) hL)) (hS (hR 4) hL))))
theorem A78 {a0 : Option Addr} {a1 : Int} {a2 : Bool} {K : (Int × Int × Int × Int × Int × Sl × Sl × Unit) -> Wp} {w : World} (h : F78 a0 a1 a2 K w) : Aa Tryz.prog 78 #[(.pointer a0), (vI a1), (.bool a2)] (.one (.agg Bg)) K w := tied Ah Tryz.func78 h78 _ h
def F79 (a0 : (Int × Int × Int × Int × Int × Sl × Sl × Unit)) (a1 : Int) (K : Int -> Wp) : Wp := Ae (.cells #[(vI a0.1), (vI a0.2.1), (vI a0.2.2.1), (vI a0.2.2.2.1), (vI a0.2.2.2.2.1), a0.2.2.2.2.2.1.v, a0.2.2.2.2.2.2.1.v] 135) λ b1 => drew <| lI (at0 b1) λ x2 => ld (.sl) (ad b1 6) λ (x3 : Sl) => lds Bg (at0 b1) λ (x4 : (Int × Int × Int × Int × Int × Sl × Sl × Unit)) => cN 80 #[(vA Bg x4)] λ x5 => keep (λ w => w.cell? (ad b1 6) = some (Cell.val (.sl) x3)) <| keep (λ w => w.cell? (at0 b1) = some (Cell.val cI x2)) <| ixI x3 (if x5 < (if 0 > a1 then 0 else a1) then x5 else (if 0 > a1 then 0 else a1)) 1 λ x7 => K (W64 (x2 + x7))
def h79 : Hint := (hS (hR 2) (hS (.region (lR 14) (hO 14)) hL))
theorem A79 {a0 : (Int × Int × Int × Int × Int × Sl × Sl × Unit)} {a1 : Int} {K : Int -> Wp} {w : World} (h : F79 a0 a1 K w) : Aa Tryz.prog 79 #[(vA Bg a0), (vI a1)] rI K w := tied Ah Tryz.func79 h79 _ h
def F80 (a0 : (Int × Int × Int × Int × Int × Sl × Sl × Unit)) (K : Int -> Wp) : Wp := Ae (.cells #[(vI a0.1), (vI a0.2.1), (vI a0.2.2.1), (vI a0.2.2.2.1), (vI a0.2.2.2.2.1), a0.2.2.2.2.2.1.v, a0.2.2.2.2.2.2.1.v] 135) λ b1 => ld (.sl) (ad b1 6) λ (x2 : Sl) => K (W64 (((x2.len : Nat) : Int) - 1))
def h80 : Hint := (hS (hR 2) (hS (hR 5) hL))
theorem A80 {a0 : (Int × Int × Int × Int × Int × Sl × Sl × Unit)} {K : Int -> Wp} {w : World} (h : F80 a0 K w) : Aa Tryz.prog 80 #[(vA Bg a0)] rI K w := tied Ah Tryz.func80 h80 _ h
def F81 (a0 : (Int × Int × Int × Int × Int × Sl × Sl × Unit)) (a1 : Int) (K : Int -> Wp) : Wp := Ae (.cells #[(vI a0.1), (vI a0.2.1), (vI a0.2.2.1), (vI a0.2.2.2.1), (vI a0.2.2.2.2.1), a0.2.2.2.2.2.1.v, a0.2.2.2.2.2.2.1.v] 135) λ b1 => lds Bg (at0 b1) λ (x2 : (Int × Int × Int × Int × Int × Sl × Sl × Unit)) => cN 80 #[(vA Bg x2)] λ x3 => jI (λ J4 => sN (λ s6 again7 => sif (decide (s6.1 < s6.2.1)) ( chk ((2 : Int) ≠ 0) <| drew <| lI (at0 b1) λ x8 => ld (.sl) (ad b1 6) λ (x9 : Sl) => ix x9.a x9.len (W64 (Int.tdiv (W64 ((W64 (s6.1 + s6.2.1)) + 1)) 2)) λ p10 => ld cI (p10.add (scaled (Int.toNat (W64 (Int.tdiv (W64 ((W64 (s6.1 + s6.2.1)) + 1)) 2))) 1)) λ (x11 : Int) => sif (decide ((W64 (x8 + x11)) <= a1)) ( again7 ((W64 (Int.tdiv (W64 ((W64 (s6.1 + s6.2.1)) + 1)) 2)), s6.2.1, ())) ( again7 (s6.1, (W64 ((W64 (Int.tdiv (W64 ((W64 (s6.1 + s6.2.1)) + 1)) 2)) - 1)), ()))) ( J4 (s6.1, ()))) (0, x3, ())) λ s5 => K s5.1
def h81 : Hint := (hS (hR 2) (hS (hR 4) (hJ (0xfffffce0, [(5, tI)]) (.block (.loop 0xfffffce0 [(5, tI), (6, tI)] (hS (hS (hR 3) (hC hL hL)) (.block (hS (hR 6) (hS (.region (lR 11) (hO 11)) (hC (hR 2) (hR 3)))))))) (hS (hR 2) hL))))
theorem A81 {a0 : (Int × Int × Int × Int × Int × Sl × Sl × Unit)} {a1 : Int} {K : Int -> Wp} {w : World} (h : F81 a0 a1 K w) : Aa Tryz.prog 81 #[(vA Bg a0), (vI a1)] rI K w := tied Ah Tryz.func81 h81 _ h
def F86 (a0 : Option Addr) (a1 : Int) (K : (Int × Int × Int × Int × Int × Sl × Sl × Unit) -> Wp) : Wp := Ae (.cells #[(vI 0), (vI 0), (vI 0), (vI 0), (vI 0), (.slice none 0 0), (.slice none 0 0)] 135) λ b1 => Aa Tryz.prog 106 #[(.pointer a0), (vI a1)] (.tup [(.agg Jg), (.one cI)]) λ (x2 : (I4 × Int × Unit)) => Ae (.cells #[(vI 0), (vI 0), (vI 0), (vI 0)] 133) λ b3 => Ad (at0 b3) (vA Jg x2.1) 4 <| join (S := Addr × Unit) (λ J4 => drew <| lds Jg (at0 b3) λ (x6 : I4) => lI (at0 b3) λ x7 => lI (ad b3 1) λ x8 => both ( Ae (.cells #[(vI 0), (vI 0), (vI 0), (vI 0), (vI 0), (.slice none 0 0), (.slice none 0 0)] 135) λ b9 => keep (λ w => w.cell? (ad b3 1) = some (Cell.val cI x8)) <| keep (λ w => w.cell? (at0 b3) = some (Cell.val cI x7)) <| keep (λ w => Aj w (at0 b3) 0 (Cells.vals Jg x6)) <| cS 25 #[(.pointer a0), (vI x7), (vI x8)] λ x10 => keep (λ w => Aj w (at0 b3) 0 (Cells.vals Jg x6)) <| Ad (at0 b9) (.agg #[(vI x6.1), (vI x6.2.1), (vI x6.2.2.1), (vI x6.2.2.2.1), (vI a1), x10.v, (.slice none 0 0)]) 7 <| J4 ((at0 b9), ())) <| cS 25 #[(.pointer a0), (vI x7), (vI x8)] λ x11 => keep (λ w => Aj w (at0 b3) 0 (Cells.vals Jg x6)) <| both ( Ae (.cells #[(vI 0), (vI 0), (vI 0), (vI 0), (vI 0), (.slice none 0 0), (.slice none 0 0)] 135) λ b12 => keep (λ w => w.cell? (ad b3 1) = some (Cell.val cI x8)) <| keep (λ w => w.cell? (at0 b3) = some (Cell.val cI x7)) <| keep (λ w => Aj w (at0 b3) 0 (Cells.vals Jg x6)) <| Ad (at0 b12) (.agg #[(vI x6.1), (vI x6.2.1), (vI x6.2.2.1), (vI x6.2.2.2.1), (vI a1), x11.v, (.slice none 0 0)]) 7 <| J4 ((at0 b12), ())) <| nothing) λ s5 => ld (.sl) (s5.1.add 5) λ (x13 : Sl) => cS 131 #[x13.v] λ x14 => stC (s5.1.add 6) x14.v <| lds Bg s5.1 λ (x15 : (Int × Int × Int × Int × Int × Sl × Sl × Unit)) => Ad (at0 b1) (vA Bg x15) 7 <| lds Bg (at0 b1) λ (x16 : (Int × Int × Int × Int × Int × Sl × Sl × Unit)) => K x16
def h86 : Hint := (hS (hR 1) (hS (hR 9) (hJ (8372352, [(7, (.one .addr))]) (.region [0, 1, 2, 3, 4, 5, 6, 7, 8, 10] (.float [9] (.ops 7 (.alt none (.plain (hO 3)) (.ops 2 (.alt none (.plain (hO 1)) .stop)))))) (hS (hR 5) (hS (hR 2) hL)))))
theorem A86 {a0 : Option Addr} {a1 : Int} {K : (Int × Int × Int × Int × Int × Sl × Sl × Unit) -> Wp} {w : World} (h : F86 a0 a1 K w) : Aa Tryz.prog 86 #[(.pointer a0), (vI a1)] (.one (.agg Bg)) K w := tied Ah Tryz.func86 h86 _ h
def F87 (a0 : Option Addr) (K : Int -> Wp) : Wp := cN 23 #[(.pointer a0)] λ x1 => cN 132 #[(.pointer a0), (vI x1)] λ x2 => jI (λ J3 => cB 133 #[(.pointer a0)] λ x5 => sif (!x5) ( J3 ((W64 (x2 + 1)), ())) ( J3 (x2, ()))) λ s4 => K s4.1
def h87 : Hint := (hS (hR 1) (hS (hR 5) (hJ (7944, [(3, tI)]) (hS (hR 3) (hC (hR 3) hL)) (hS (hR 2) hL))))
theorem A87 {a0 : Option Addr} {K : Int -> Wp} {w : World} (h : F87 a0 K w) : Aa Tryz.prog 87 #[(.pointer a0)] rI K w := tied Ah Tryz.func87 h87 _ h
def F89 (a0 : Value) (a1 : Option Addr) (a2 : Int) (a3 : Int) (a4 : I3) (a5 : Bool) (K : (I3 × Int × Unit) -> Wp) : Wp := Ae (.cells #[(vI a4.1), (vI a4.2.1), (vI a4.2.2.1)] 48) λ b1 => Ae (.cells #[(vI 0), (vI 0), (vI 0)] 83) λ b2 => lI (at0 b1) λ x3 => Bv Tryz.prog (do let d ← Deferred.ofValue a0 #[(vI x3)]; invoke d.target d.args : Sem Next) (.one (.one .any)) λ (x4 : Value) => rdB Tryz.prog (do eqGuard .eql 173 (Operand.tmp 21) (Operand.const Value.nilFunc) x4 .nilFunc; binOp .eql 173 x4 .nilFunc : Sem Value) λ r5 => sif r5 ( Ad (at0 b2) (.agg #[(vI 0), (vI 0), (vI 0)]) 3 <| lds c83 (at0 b2) λ (x6 : I3) => K (x6, 1, ())) ( cN 34 #[(.pointer a1), (vI a2), (.bool a5)] λ x7 => drew <| lI (ad b1 2) λ x8 => Aa Tryz.prog 78 #[(.pointer a1), (vI x7), (.bool a5)] (.one (.agg Bg)) λ (x9 : (Int × Int × Int × Int × Int × Sl × Sl × Unit)) => keep (λ w => w.cell? (ad b1 2) = some (Cell.val cI x8)) <| Ae (.cells (Value.cells (.agg #[(.pointer a1), (vI x7), (vI 0), (vI 1), (.bool false), (vI x8), (vI (if 0 > a3 then 0 else a3)), (.bool a5), (.bool false), (vI x9.1), (vI x9.2.1), (vI x9.2.2.1), (vI x9.2.2.2.1), (vI x9.2.2.2.2.1), x9.2.2.2.2.2.1.v, x9.2.2.2.2.2.2.1.v])) 176) λ b10 => nn (some (at0 b10)) λ p11 => lds Bg (p11.add 9) λ (x12 : (Int × Int × Int × Int × Int × Sl × Sl × Unit)) => cN 81 #[(vA Bg x12), (vI x7)] λ x13 => nn (some (at0 b10)) λ p14 => stC (p14.add 2) (vI x13) <| jU (λ J15 => lI (at0 b1) λ x17 => sif (decide (x17 >= 25)) ( lI (at0 b1) λ x18 => sif (decide (x18 <= 28)) ( nn (some (at0 b10)) λ p19 => stC (p19.add 8) (.bool true) <| J15 ()) ( lI (at0 b1) λ x20 => nn (some (at0 b10)) λ p21 => stC (p21.add 8) (.bool (x20 == 30)) <| J15 ())) ( lI (at0 b1) λ x22 => nn (some (at0 b10)) λ p23 => stC (p23.add 8) (.bool (x22 == 30)) <| J15 ())) λ s16 => jU (λ J24 => lI (ad b1 1) λ x26 => sif (decide (x26 > 0)) ( lI (ad b1 1) λ x27 => nn (some (at0 b10)) λ p28 => stC (p28.add 3) (vI (if 9999 < x27 then 9999 else x27)) <| nn (some (at0 b10)) λ p29 => stC (p29.add 4) (.bool true) <| J24 ()) ( J24 ())) λ s25 => Bv Tryz.prog (do let d ← Deferred.ofValue x4 #[(.pointer (some (at0 b10)))]; invoke d.target d.args : Sem Next) (.tup [(.agg c83), (.one cI)]) λ (x30 : (I3 × Int × Unit)) => Ad (at0 b2) (vA c83 x30.1) 3 <| lds c83 (at0 b2) λ (x31 : I3) => K (x31, x30.2.1, ()))
def h89 : Hint := (hS (hR 3) (hS (hR 5) (hS (hS (hR 2) (hC (hS (hR 3) hL) hL)) (hS (hR 5) (hS (.region (lR 14) (hO 14)) (hS (hR 10) (hJ ((mR [(50, 66)]), []) (.region [] (.ops 5 (.split 54 (.ops 5 (.split 59 (.skips 3 (hO 4)) (hO 7))) (.skips 3 (hO 9))))) (hJ ((mR [(66, 78)]), []) (hS (hR 3) (hC (hR 11) hL)) (hS (hR 7) hL)))))))))
theorem A89 {a0 : Value} {a1 : Option Addr} {a2 : Int} {a3 : Int} {a4 : I3} {a5 : Bool} {K : (I3 × Int × Unit) -> Wp} {w : World} (h : F89 a0 a1 a2 a3 a4 a5 K w) : Aa Tryz.prog 89 #[a0, (.pointer a1), (vI a2), (vI a3), (vA c48 a4), (.bool a5)] (.tup [(.agg c83), (.one cI)]) K w := tied Ah Tryz.func89 h89 _ h
def F90 (a0 : Int) (K : Value -> Wp) : Wp := sif (a0 == 1) ( K (.func (.func 134) #[] #[])) ( sif (a0 == 2) ( K (.func (.func 135) #[] #[])) ( sif (a0 == 3) ( K (.func (.func 136) #[] #[])) ( sif (a0 == 4) ( K (.func (.func 137) #[] #[])) ( sif (a0 == 5) ( K (.func (.func 138) #[] #[])) ( sif (a0 == 6) ( K (.func (.func 139) #[] #[])) ( sif (a0 == 7) ( K (.func (.func 140) #[] #[])) ( sif (a0 == 8) ( K (.func (.func 141) #[] #[])) ( sif (a0 == 9) ( K (.func (.func 142) #[] #[])) ( sif (a0 == 10) ( K (.func (.func 143) #[] #[])) ( K .nilFunc))))))))))
def h90 : Hint := (hS (hR 1) (hS (hS (hR 1) (.block (hS (hR 2) (hC (hS (hR 1) hL) (hS (hR 2) (hC (hS (hR 1) hL) (hS (hR 2) (hC (hS (hR 1) hL) (hS (hR 2) (hC (hS (hR 1) hL) (hS (hR 2) (hC (hS (hR 1) hL) (hS (hR 2) (hC (hS (hR 1) hL) (hS (hR 2) (hC (hS (hR 1) hL) (hS (hR 2) (hC (hS (hR 1) hL) (hS (hR 2) (hC (hS (hR 1) hL) (hS (hR 2) (hC (hS (hR 1) hL) hL)))))))))))))))))))))) (hS (hR 1) hL)))
theorem A90 {a0 : Int} {K : Value -> Wp} {w : World} (h : F90 a0 K w) : Aa Tryz.prog 90 #[(vI a0)] (.one (.one .any)) K w := tied Ah Tryz.func90 h90 _ h
def F96 (a0 : Int) (K : Value -> Wp) : Wp := sif (a0 == 11) ( K (.func (.func 144) #[] #[])) ( sif (a0 == 12) ( K (.func (.func 145) #[] #[])) ( sif (a0 == 13) ( K (.func (.func 146) #[] #[])) ( sif (a0 == 14) ( K (.func (.func 147) #[] #[])) ( sif (a0 == 15) ( K (.func (.func 148) #[] #[])) ( sif (a0 == 16) ( K (.func (.func 149) #[] #[])) ( sif (a0 == 17) ( K (.func (.func 150) #[] #[])) ( sif (a0 == 18) ( K (.func (.func 151) #[] #[])) ( K .nilFunc))))))))
def h96 : Hint := (hS (hR 1) (hS (hS (hR 1) (.block (hS (hR 2) (hC (hS (hR 1) hL) (hS (hR 2) (hC (hS (hR 1) hL) (hS (hR 2) (hC (hS (hR 1) hL) (hS (hR 2) (hC (hS (hR 1) hL) (hS (hR 2) (hC (hS (hR 1) hL) (hS (hR 2) (hC (hS (hR 1) hL) (hS (hR 2) (hC (hS (hR 1) hL) (hS (hR 2) (hC (hS (hR 1) hL) hL)))))))))))))))))) (hS (hR 1) hL)))
theorem A96 {a0 : Int} {K : Value -> Wp} {w : World} (h : F96 a0 K w) : Aa Tryz.prog 96 #[(vI a0)] (.one (.one .any)) K w := tied Ah Tryz.func96 h96 _ h
def F106 (a0 : Option Addr) (a1 : Int) (K : (I4 × Int × Unit) -> Wp) : Wp := Ae (.cells #[(vI 0), (vI 0), (vI 0), (vI 0)] 133) λ b1 => sif (decide (a1 < 0)) ( Ad (at0 b1) (.agg #[(vI 0), (vI 0), (vI 0), (vI 0)]) 4 <| lds Jg (at0 b1) λ (x2 : I4) => K (x2, 2, ())) ( cN 165 #[(.pointer a0), (vI a1)] λ x3 => sif (decide (x3 < 0)) ( Ad (at0 b1) (.agg #[(vI 0), (vI 0), (vI 0), (vI 0)]) 4 <| lds Jg (at0 b1) λ (x4 : I4) => K (x4, 2, ())) ( cN 23 #[(.pointer a0)] λ x5 => cN 132 #[(.pointer a0), (vI x5)] λ x6 => sif (decide (a1 < x6)) ( cN 165 #[(.pointer a0), (vI (W64 (a1 + 1)))] λ x7 => Aa Tryz.prog 166 #[(.pointer a0), (vI x3), (vI x7)] (.one (.agg Jg)) λ (x8 : I4) => Ad (at0 b1) (vA Jg x8) 4 <| lds Jg (at0 b1) λ (x9 : I4) => K (x9, 0, ())) ( cN 23 #[(.pointer a0)] λ x10 => cN 23 #[(.pointer a0)] λ x11 => Ad (at0 b1) (.agg #[(vI x3), (vI x10), (vI x11), (vI 0)]) 4 <| lds Jg (at0 b1) λ (x12 : I4) => K (x12, 0, ()))))
def Cw3 : Hint := (hS (hR 2) (hS (hS (hR 2) (hC (hS (hR 3) hL) hL)) (hS (hR 4) (hS (hS (hR 2) (hC (hS (hR 3) hL) hL)) (hS (hS (hR 6) (hC (hS (hR 9) hL) hL)) (hS (hR 8) hL))))))
theorem Dj9 {a0 : Option Addr} {a1 : Int} {K : (I4 × Int × Unit) -> Wp} {w : World} (h : F106 a0 a1 K w) : Aa Tryz.prog 106 #[(.pointer a0), (vI a1)] (.tup [(.agg Jg), (.one cI)]) K w := tied Ah Tryz.func106 Cw3 _ h
def F130 (a0 : Option Addr) (a1 : Int) (K : Int -> Wp) : Wp := cN 23 #[(.pointer a0)] λ x1 => cN 132 #[(.pointer a0), (vI (if x1 < (if 0 > a1 then 0 else a1) then x1 else (if 0 > a1 then 0 else a1)))] λ x2 => K x2
def Cu5 : Hint := (hS (hR 1) (hS (hR 8) hL))
theorem Dh8 {a0 : Option Addr} {a1 : Int} {K : Int -> Wp} {w : World} (h : F130 a0 a1 K w) : Aa Tryz.prog 130 #[(.pointer a0), (vI a1)] rI K w := tied Ah Tryz.func130 Cu5 _ h
def F133 (a0 : Option Addr) (K : Bool -> Wp) : Wp := cN 23 #[(.pointer a0)] λ x1 => sif (decide (x1 > 0)) ( cN 132 #[(.pointer a0), (vI x1)] λ x2 => cN 165 #[(.pointer a0), (vI x2)] λ x3 => K (x3 == x1)) ( K false)
def Cu2 : Hint := (hS (hR 1) (hS (hR 3) (hS (.region [] (.ops 3 (.split 8 (hO 9) (.skips 7 (hO 2))))) hL)))
theorem Dh5 {a0 : Option Addr} {K : Bool -> Wp} {w : World} (h : F133 a0 K w) : Aa Tryz.prog 133 #[(.pointer a0)] rB K w := tied Ah Tryz.func133 Cu2 _ h
def F134 (a0 : Option Addr) (K : (I3 × Int × Unit) -> Wp) : Wp := Ae (.cells #[(vI 0), (vI 0), (vI 0)] 83) λ b1 => nn a0 λ p2 => ld cI (p2.add 2) λ (x3 : Int) => sif (x3 == 0) ( Aa Tryz.prog 179 #[] (.tup [(.agg c83), (.one cI)]) λ (x4 : (I3 × Int × Unit)) => Ad (at0 b1) (vA c83 x4.1) 3 <| lds c83 (at0 b1) λ (x5 : I3) => K (x5, x4.2.1, ())) ( drew <| nn a0 λ p6 => lds Bg (p6.add 9) λ (x7 : (Int × Int × Int × Int × Int × Sl × Sl × Unit)) => nn a0 λ p8 => ld cI (p8.add 2) λ (x9 : Int) => nn a0 λ p10 => ld cI (p10.add 3) λ (x11 : Int) => cN 79 #[(vA Bg x7), (vI (W64 (x9 - x11)))] λ x12 => Aa Tryz.prog 180 #[(.pointer a0), (vI x12), (vI 0)] (.tup [(.agg c83), (.one cI)]) λ (x13 : (I3 × Int × Unit)) => Ad (at0 b1) (vA c83 x13.1) 3 <| lds c83 (at0 b1) λ (x14 : I3) => K (x14, x13.2.1, ()))
def Cu1 : Hint := (hS (hR 2) (hS (hS (hR 5) (hC (hS (hR 5) hL) hL)) (hS (.region (lR 20) (hO 20)) hL)))
theorem Dh4 {a0 : Option Addr} {K : (I3 × Int × Unit) -> Wp} {w : World} (h : F134 a0 K w) : Aa Tryz.prog 134 #[(.pointer a0)] (.tup [(.agg c83), (.one cI)]) K w := tied Ah Tryz.func134 Cu1 _ h
def F135 (a0 : Option Addr) (K : (I3 × Int × Unit) -> Wp) : Wp := Ae (.cells #[(vI 0), (vI 0), (vI 0)] 83) λ b1 => drew <| nn a0 λ p2 => ld cI (p2.add 2) λ (x3 : Int) => cN 181 #[(.pointer a0)] λ x4 => keep (λ w => w.cell? (p2.add 2) = some (Cell.val cI x3)) <| sif (x3 == x4) ( Aa Tryz.prog 179 #[] (.tup [(.agg c83), (.one cI)]) λ (x5 : (I3 × Int × Unit)) => Ad (at0 b1) (vA c83 x5.1) 3 <| lds c83 (at0 b1) λ (x6 : I3) => K (x6, x5.2.1, ())) ( drew <| nn a0 λ p7 => lds Bg (p7.add 9) λ (x8 : (Int × Int × Int × Int × Int × Sl × Sl × Unit)) => nn a0 λ p9 => ld cI (p9.add 2) λ (x10 : Int) => nn a0 λ p11 => ld cI (p11.add 3) λ (x12 : Int) => cN 181 #[(.pointer a0)] λ x13 => keep (λ w => w.cell? (p11.add 3) = some (Cell.val cI x12)) <| keep (λ w => w.cell? (p9.add 2) = some (Cell.val cI x10)) <| keep (λ w => Aj w (p7.add 9) 0 (Cells.vals Bg x8)) <| cN 79 #[(vA Bg x8), (vI (if x13 < (W64 (x10 + x12)) then x13 else (W64 (x10 + x12))))] λ x14 => Aa Tryz.prog 180 #[(.pointer a0), (vI x14), (vI 0)] (.tup [(.agg c83), (.one cI)]) λ (x15 : (I3 × Int × Unit)) => Ad (at0 b1) (vA c83 x15.1) 3 <| lds c83 (at0 b1) λ (x16 : I3) => K (x16, x15.2.1, ()))
def Cu0 : Hint := (hS (hR 2) (hS (hS (.region (lR 7) (hO 7)) (hC (hS (hR 5) hL) hL)) (hS (.region (lR 23) (hO 23)) hL)))
theorem Dh3 {a0 : Option Addr} {K : (I3 × Int × Unit) -> Wp} {w : World} (h : F135 a0 K w) : Aa Tryz.prog 135 #[(.pointer a0)] (.tup [(.agg c83), (.one cI)]) K w := tied Ah Tryz.func135 Cu0 _ h
def F136 (a0 : Option Addr) (K : (I3 × Int × Unit) -> Wp) : Wp := Ae (.cells #[(vI 0), (vI 0), (vI 0)] 83) λ b1 => nn a0 λ p2 => ld cI (p2.add 9) λ (x3 : Int) => Aa Tryz.prog 180 #[(.pointer a0), (vI x3), (vI 0)] (.tup [(.agg c83), (.one cI)]) λ (x4 : (I3 × Int × Unit)) => Ad (at0 b1) (vA c83 x4.1) 3 <| lds c83 (at0 b1) λ (x5 : I3) => K (x5, x4.2.1, ())
def Ct9 : Hint := (hS (hR 2) (hS (hR 12) hL))
theorem Dh2 {a0 : Option Addr} {K : (I3 × Int × Unit) -> Wp} {w : World} (h : F136 a0 K w) : Aa Tryz.prog 136 #[(.pointer a0)] (.tup [(.agg c83), (.one cI)]) K w := tied Ah Tryz.func136 Ct9 _ h
def F137 (a0 : Option Addr) (K : (I3 × Int × Unit) -> Wp) : Wp := Ae (.cells #[(vI 0), (vI 0), (vI 0)] 83) λ b1 => drew <| nn a0 λ p2 => lds Bg (p2.add 9) λ (x3 : (Int × Int × Int × Int × Int × Sl × Sl × Unit)) => nn a0 λ p4 => lds Bg (p4.add 9) λ (x5 : (Int × Int × Int × Int × Int × Sl × Sl × Unit)) => cN 182 #[(vA Bg x5)] λ x6 => keep (λ w => Aj w (p2.add 9) 0 (Cells.vals Bg x3)) <| cN 79 #[(vA Bg x3), (vI x6)] λ x7 => Aa Tryz.prog 180 #[(.pointer a0), (vI x7), (vI 0)] (.tup [(.agg c83), (.one cI)]) λ (x8 : (I3 × Int × Unit)) => Ad (at0 b1) (vA c83 x8.1) 3 <| lds c83 (at0 b1) λ (x9 : I3) => K (x9, x8.2.1, ())
def Ct8 : Hint := (hS (hR 2) (hS (.region (lR 16) (hO 16)) hL))
theorem Dh1 {a0 : Option Addr} {K : (I3 × Int × Unit) -> Wp} {w : World} (h : F137 a0 K w) : Aa Tryz.prog 137 #[(.pointer a0)] (.tup [(.agg c83), (.one cI)]) K w := tied Ah Tryz.func137 Ct8 _ h
def F138 (a0 : Option Addr) (K : (I3 × Int × Unit) -> Wp) : Wp := Ae (.cells #[(vI 0), (vI 0), (vI 0)] 83) λ b1 => nn a0 λ p2 => lds Bg (p2.add 9) λ (x3 : (Int × Int × Int × Int × Int × Sl × Sl × Unit)) => Ae (.cells #[(vI 0), (vI 0), (vI 0), (vI 0), (vI 0), (.slice none 0 0), (.slice none 0 0)] 135) λ b4 => Ad (at0 b4) (vA Bg x3) 7 <| jU (λ J5 => nn a0 λ p7 => ld (.ptr) p7 λ (x8 : Option Addr) => cN 87 #[(.pointer x8)] λ x9 => jB (λ J10 => lI (ad b4 4) λ x12 => sif (decide (x12 < (W64 (x9 - 1)))) ( nn a0 λ p13 => ld cI (p13.add 3) λ (x14 : Int) => J10 ((decide (x14 > 1)), ())) ( J10 (false, ()))) λ s11 => sif s11.1 ( drew <| nn a0 λ p15 => ld (.ptr) p15 λ (x16 : Option Addr) => lI (ad b4 4) λ x17 => nn a0 λ p18 => ld cI (p18.add 3) λ (x19 : Int) => Aa Tryz.prog 86 #[(.pointer x16), (vI (if (W64 (x9 - 1)) < (W64 ((W64 (x17 + x19)) - 1)) then (W64 (x9 - 1)) else (W64 ((W64 (x17 + x19)) - 1))))] (.one (.agg Bg)) λ (x20 : (Int × Int × Int × Int × Int × Sl × Sl × Unit)) => Ad (at0 b4) (vA Bg x20) 7 <| J5 ()) ( J5 ())) λ s6 => drew <| lds Bg (at0 b4) λ (x21 : (Int × Int × Int × Int × Int × Sl × Sl × Unit)) => lds Bg (at0 b4) λ (x22 : (Int × Int × Int × Int × Int × Sl × Sl × Unit)) => cN 80 #[(vA Bg x22)] λ x23 => keep (λ w => Aj w (at0 b4) 0 (Cells.vals Bg x21)) <| cN 79 #[(vA Bg x21), (vI (W64 (x23 - 1)))] λ x24 => Ad (at0 b1) (.agg #[(vI x24), (vI 1), (vI 100000)]) 3 <| lds c83 (at0 b1) λ (x25 : I3) => K (x25, 0, ())
def Ct7 : Hint := (hS (hR 2) (hS (hR 6) (hJ (0x3fffffffc20, []) (hS (hR 7) (hJ (0x7ff0000, [(26, tB)]) (.region [] (.ops 5 (.split 20 (hO 6) (.skips 5 (hO 1))))) (hC (.region (lR 16) (hO 16)) hL))) (hS (.region (lR 8) (hO 8)) hL))))
theorem Dh0 {a0 : Option Addr} {K : (I3 × Int × Unit) -> Wp} {w : World} (h : F138 a0 K w) : Aa Tryz.prog 138 #[(.pointer a0)] (.tup [(.agg c83), (.one cI)]) K w := tied Ah Tryz.func138 Ct7 _ h
def F139 (a0 : Option Addr) (K : (I3 × Int × Unit) -> Wp) : Wp := Ae (.cells #[(vI 0), (vI 0), (vI 0)] 83) λ b1 => drew <| nn a0 λ p2 => lds Bg (p2.add 9) λ (x3 : (Int × Int × Int × Int × Int × Sl × Sl × Unit)) => nn a0 λ p4 => ld cI (p4.add 3) λ (x5 : Int) => cN 181 #[(.pointer a0)] λ x6 => keep (λ w => w.cell? (p4.add 3) = some (Cell.val cI x5)) <| keep (λ w => Aj w (p2.add 9) 0 (Cells.vals Bg x3)) <| cN 79 #[(vA Bg x3), (vI (if x6 < (W64 (x5 - 1)) then x6 else (W64 (x5 - 1))))] λ x7 => Aa Tryz.prog 180 #[(.pointer a0), (vI x7), (vI 0)] (.tup [(.agg c83), (.one cI)]) λ (x8 : (I3 × Int × Unit)) => Ad (at0 b1) (vA c83 x8.1) 3 <| lds c83 (at0 b1) λ (x9 : I3) => K (x9, x8.2.1, ())
def Ct6 : Hint := (hS (hR 2) (hS (.region (lR 19) (hO 19)) hL))
theorem Dg9 {a0 : Option Addr} {K : (I3 × Int × Unit) -> Wp} {w : World} (h : F139 a0 K w) : Aa Tryz.prog 139 #[(.pointer a0)] (.tup [(.agg c83), (.one cI)]) K w := tied Ah Tryz.func139 Ct6 _ h
def F140 (a0 : Option Addr) (K : (I3 × Int × Unit) -> Wp) : Wp := Ae (.cells #[(vI 0), (vI 0), (vI 0)] 83) λ b1 => Aa Tryz.prog 183 #[(.pointer a0), (vI 1), (vI 0), (vI 1)] (.tup [(.agg c83), (.one cI)]) λ (x2 : (I3 × Int × Unit)) => Ad (at0 b1) (vA c83 x2.1) 3 <| lds c83 (at0 b1) λ (x3 : I3) => K (x3, x2.2.1, ())
def Ct5 : Hint := (hS (hR 2) (hS (hR 6) hL))
theorem Dg8 {a0 : Option Addr} {K : (I3 × Int × Unit) -> Wp} {w : World} (h : F140 a0 K w) : Aa Tryz.prog 140 #[(.pointer a0)] (.tup [(.agg c83), (.one cI)]) K w := tied Ah Tryz.func140 Ct5 _ h
def F141 (a0 : Option Addr) (K : (I3 × Int × Unit) -> Wp) : Wp := Ae (.cells #[(vI 0), (vI 0), (vI 0)] 83) λ b1 => Aa Tryz.prog 183 #[(.pointer a0), (vI (-1)), (vI 0), (vI 0)] (.tup [(.agg c83), (.one cI)]) λ (x2 : (I3 × Int × Unit)) => Ad (at0 b1) (vA c83 x2.1) 3 <| lds c83 (at0 b1) λ (x3 : I3) => K (x3, x2.2.1, ())
def Ct4 : Hint := (hS (hR 2) (hS (hR 6) hL))
theorem Dg7 {a0 : Option Addr} {K : (I3 × Int × Unit) -> Wp} {w : World} (h : F141 a0 K w) : Aa Tryz.prog 141 #[(.pointer a0)] (.tup [(.agg c83), (.one cI)]) K w := tied Ah Tryz.func141 Ct4 _ h
def F142 (a0 : Option Addr) (K : (I3 × Int × Unit) -> Wp) : Wp := Ae (.cells #[(vI 0), (vI 0), (vI 0)] 83) λ b1 => Aa Tryz.prog 183 #[(.pointer a0), (vI 1), (vI (-1)), (vI 1)] (.tup [(.agg c83), (.one cI)]) λ (x2 : (I3 × Int × Unit)) => Ad (at0 b1) (vA c83 x2.1) 3 <| lds c83 (at0 b1) λ (x3 : I3) => K (x3, x2.2.1, ())
def Ct3 : Hint := (hS (hR 2) (hS (hR 6) hL))
theorem Dg6 {a0 : Option Addr} {K : (I3 × Int × Unit) -> Wp} {w : World} (h : F142 a0 K w) : Aa Tryz.prog 142 #[(.pointer a0)] (.tup [(.agg c83), (.one cI)]) K w := tied Ah Tryz.func142 Ct3 _ h
def F143 (a0 : Option Addr) (K : (I3 × Int × Unit) -> Wp) : Wp := Ae (.cells #[(vI 0), (vI 0), (vI 0)] 83) λ b1 => Aa Tryz.prog 183 #[(.pointer a0), (vI (-1)), (vI 1), (vI 0)] (.tup [(.agg c83), (.one cI)]) λ (x2 : (I3 × Int × Unit)) => Ad (at0 b1) (vA c83 x2.1) 3 <| lds c83 (at0 b1) λ (x3 : I3) => K (x3, x2.2.1, ())
def Ct2 : Hint := (hS (hR 2) (hS (hR 6) hL))
theorem Dg5 {a0 : Option Addr} {K : (I3 × Int × Unit) -> Wp} {w : World} (h : F143 a0 K w) : Aa Tryz.prog 143 #[(.pointer a0)] (.tup [(.agg c83), (.one cI)]) K w := tied Ah Tryz.func143 Ct2 _ h
def F144 (a0 : Option Addr) (K : (I3 × Int × Unit) -> Wp) : Wp := Ae (.cells #[(vI 0), (vI 0), (vI 0)] 83) λ b1 => cB 184 #[(.pointer a0)] λ x2 => sif x2 ( Aa Tryz.prog 179 #[] (.tup [(.agg c83), (.one cI)]) λ (x3 : (I3 × Int × Unit)) => Ad (at0 b1) (vA c83 x3.1) 3 <| lds c83 (at0 b1) λ (x4 : I3) => K (x4, x3.2.1, ())) ( drew <| nn a0 λ p5 => ld cI ((p5.add 9).add 4) λ (x6 : Int) => nn a0 λ p7 => ld cI (p7.add 3) λ (x8 : Int) => Aa Tryz.prog 185 #[(.pointer a0), (vI (W64 (x6 + x8)))] (.tup [(.agg c83), (.one cI)]) λ (x9 : (I3 × Int × Unit)) => Ad (at0 b1) (vA c83 x9.1) 3 <| lds c83 (at0 b1) λ (x10 : I3) => K (x10, x9.2.1, ()))
def Ct1 : Hint := (hS (hR 2) (hS (hS (hR 2) (hC (hS (hR 5) hL) hL)) (hS (.region (lR 16) (hO 16)) hL)))
theorem Dg4 {a0 : Option Addr} {K : (I3 × Int × Unit) -> Wp} {w : World} (h : F144 a0 K w) : Aa Tryz.prog 144 #[(.pointer a0)] (.tup [(.agg c83), (.one cI)]) K w := tied Ah Tryz.func144 Ct1 _ h
def F145 (a0 : Option Addr) (K : (I3 × Int × Unit) -> Wp) : Wp := Ae (.cells #[(vI 0), (vI 0), (vI 0)] 83) λ b1 => nn a0 λ p2 => ld cI ((p2.add 9).add 4) λ (x3 : Int) => sif (x3 == 0) ( Aa Tryz.prog 179 #[] (.tup [(.agg c83), (.one cI)]) λ (x4 : (I3 × Int × Unit)) => Ad (at0 b1) (vA c83 x4.1) 3 <| lds c83 (at0 b1) λ (x5 : I3) => K (x5, x4.2.1, ())) ( drew <| nn a0 λ p6 => ld cI ((p6.add 9).add 4) λ (x7 : Int) => nn a0 λ p8 => ld cI (p8.add 3) λ (x9 : Int) => Aa Tryz.prog 185 #[(.pointer a0), (vI (W64 (x7 - x9)))] (.tup [(.agg c83), (.one cI)]) λ (x10 : (I3 × Int × Unit)) => Ad (at0 b1) (vA c83 x10.1) 3 <| lds c83 (at0 b1) λ (x11 : I3) => K (x11, x10.2.1, ()))
def Ct0 : Hint := (hS (hR 2) (hS (hS (hR 6) (hC (hS (hR 5) hL) hL)) (hS (.region (lR 16) (hO 16)) hL)))
theorem Dg3 {a0 : Option Addr} {K : (I3 × Int × Unit) -> Wp} {w : World} (h : F145 a0 K w) : Aa Tryz.prog 145 #[(.pointer a0)] (.tup [(.agg c83), (.one cI)]) K w := tied Ah Tryz.func145 Ct0 _ h
def F146 (a0 : Option Addr) (K : (I3 × Int × Unit) -> Wp) : Wp := Ae (.cells #[(vI 0), (vI 0), (vI 0)] 83) λ b1 => cB 184 #[(.pointer a0)] λ x2 => sif x2 ( Aa Tryz.prog 179 #[] (.tup [(.agg c83), (.one cI)]) λ (x3 : (I3 × Int × Unit)) => Ad (at0 b1) (vA c83 x3.1) 3 <| lds c83 (at0 b1) λ (x4 : I3) => K (x4, x3.2.1, ())) ( drew <| nn a0 λ p5 => ld cI ((p5.add 9).add 4) λ (x6 : Int) => nn a0 λ p7 => ld cI (p7.add 3) λ (x8 : Int) => Aa Tryz.prog 186 #[(.pointer a0), (vI (W64 (x6 + x8)))] (.tup [(.agg c83), (.one cI)]) λ (x9 : (I3 × Int × Unit)) => Ad (at0 b1) (vA c83 x9.1) 3 <| lds c83 (at0 b1) λ (x10 : I3) => K (x10, x9.2.1, ()))
def Cs9 : Hint := (hS (hR 2) (hS (hS (hR 2) (hC (hS (hR 5) hL) hL)) (hS (.region (lR 16) (hO 16)) hL)))
theorem Dg2 {a0 : Option Addr} {K : (I3 × Int × Unit) -> Wp} {w : World} (h : F146 a0 K w) : Aa Tryz.prog 146 #[(.pointer a0)] (.tup [(.agg c83), (.one cI)]) K w := tied Ah Tryz.func146 Cs9 _ h
def F147 (a0 : Option Addr) (K : (I3 × Int × Unit) -> Wp) : Wp := Ae (.cells #[(vI 0), (vI 0), (vI 0)] 83) λ b1 => nn a0 λ p2 => ld cI ((p2.add 9).add 4) λ (x3 : Int) => sif (x3 == 0) ( Aa Tryz.prog 179 #[] (.tup [(.agg c83), (.one cI)]) λ (x4 : (I3 × Int × Unit)) => Ad (at0 b1) (vA c83 x4.1) 3 <| lds c83 (at0 b1) λ (x5 : I3) => K (x5, x4.2.1, ())) ( drew <| nn a0 λ p6 => ld cI ((p6.add 9).add 4) λ (x7 : Int) => nn a0 λ p8 => ld cI (p8.add 3) λ (x9 : Int) => Aa Tryz.prog 186 #[(.pointer a0), (vI (W64 (x7 - x9)))] (.tup [(.agg c83), (.one cI)]) λ (x10 : (I3 × Int × Unit)) => Ad (at0 b1) (vA c83 x10.1) 3 <| lds c83 (at0 b1) λ (x11 : I3) => K (x11, x10.2.1, ()))
def Cs8 : Hint := (hS (hR 2) (hS (hS (hR 6) (hC (hS (hR 5) hL) hL)) (hS (.region (lR 16) (hO 16)) hL)))
theorem Dg1 {a0 : Option Addr} {K : (I3 × Int × Unit) -> Wp} {w : World} (h : F147 a0 K w) : Aa Tryz.prog 147 #[(.pointer a0)] (.tup [(.agg c83), (.one cI)]) K w := tied Ah Tryz.func147 Cs8 _ h
def F148 (a0 : Option Addr) (K : (I3 × Int × Unit) -> Wp) : Wp := Ae (.cells #[(vI 0), (vI 0), (vI 0)] 83) λ b1 => drew <| nn a0 λ p2 => ld cI ((p2.add 9).add 4) λ (x3 : Int) => nn a0 λ p4 => ld cI (p4.add 3) λ (x5 : Int) => Aa Tryz.prog 186 #[(.pointer a0), (vI (W64 ((W64 (x3 + x5)) - 1)))] (.tup [(.agg c83), (.one cI)]) λ (x6 : (I3 × Int × Unit)) => Ad (at0 b1) (vA c83 x6.1) 3 <| lds c83 (at0 b1) λ (x7 : I3) => K (x7, x6.2.1, ())
def Cs7 : Hint := (hS (hR 2) (hS (.region (lR 17) (hO 17)) hL))
theorem Dg0 {a0 : Option Addr} {K : (I3 × Int × Unit) -> Wp} {w : World} (h : F148 a0 K w) : Aa Tryz.prog 148 #[(.pointer a0)] (.tup [(.agg c83), (.one cI)]) K w := tied Ah Tryz.func148 Cs7 _ h
def F149 (a0 : Option Addr) (K : (I3 × Int × Unit) -> Wp) : Wp := Ae (.cells #[(vI 0), (vI 0), (vI 0)] 83) λ b1 => nn a0 λ p2 => ld (.bool) (p2.add 4) λ (x3 : Bool) => sif (!x3) ( nn a0 λ p4 => ld (.ptr) p4 λ (x5 : Option Addr) => cN 87 #[(.pointer x5)] λ x6 => Aa Tryz.prog 186 #[(.pointer a0), (vI x6)] (.tup [(.agg c83), (.one cI)]) λ (x7 : (I3 × Int × Unit)) => Ad (at0 b1) (vA c83 x7.1) 3 <| lds c83 (at0 b1) λ (x8 : I3) => K (x8, x7.2.1, ())) ( nn a0 λ p9 => ld cI (p9.add 3) λ (x10 : Int) => Aa Tryz.prog 186 #[(.pointer a0), (vI (W64 (x10 - 1)))] (.tup [(.agg c83), (.one cI)]) λ (x11 : (I3 × Int × Unit)) => Ad (at0 b1) (vA c83 x11.1) 3 <| lds c83 (at0 b1) λ (x12 : I3) => K (x12, x11.2.1, ()))
def Cs6 : Hint := (hS (hR 2) (hS (hS (hR 5) (hC (hS (hR 11) hL) hL)) (hS (hR 11) hL)))
theorem Df9 {a0 : Option Addr} {K : (I3 × Int × Unit) -> Wp} {w : World} (h : F149 a0 K w) : Aa Tryz.prog 149 #[(.pointer a0)] (.tup [(.agg c83), (.one cI)]) K w := tied Ah Tryz.func149 Cs6 _ h
def F150 (a0 : Option Addr) (K : (I3 × Int × Unit) -> Wp) : Wp := Ae (.cells #[(vI 0), (vI 0), (vI 0)] 83) λ b1 => nn a0 λ p2 => ld cI (p2.add 3) λ (x3 : Int) => Aa Tryz.prog 186 #[(.pointer a0), (vI (W64 (x3 - 1)))] (.tup [(.agg c83), (.one cI)]) λ (x4 : (I3 × Int × Unit)) => Ad (at0 b1) (vA c83 x4.1) 3 <| lds c83 (at0 b1) λ (x5 : I3) => K (x5, x4.2.1, ())
def Cs5 : Hint := (hS (hR 2) (hS (hR 11) hL))
theorem Df8 {a0 : Option Addr} {K : (I3 × Int × Unit) -> Wp} {w : World} (h : F150 a0 K w) : Aa Tryz.prog 150 #[(.pointer a0)] (.tup [(.agg c83), (.one cI)]) K w := tied Ah Tryz.func150 Cs5 _ h
def F151 (a0 : Option Addr) (K : (I3 × Int × Unit) -> Wp) : Wp := Ae (.cells #[(vI 0), (vI 0), (vI 0)] 83) λ b1 => jB (λ J2 => nn a0 λ p4 => ld (.bool) (p4.add 4) λ (x5 : Bool) => sif (!x5) ( J2 (true, ())) ( nn a0 λ p6 => ld cI (p6.add 3) λ (x7 : Int) => J2 ((decide (x7 > 100)), ()))) λ s3 => sif s3.1 ( Aa Tryz.prog 179 #[] (.tup [(.agg c83), (.one cI)]) λ (x8 : (I3 × Int × Unit)) => Ad (at0 b1) (vA c83 x8.1) 3 <| lds c83 (at0 b1) λ (x9 : I3) => K (x9, x8.2.1, ())) ( drew <| nn a0 λ p10 => ld cI (p10.add 3) λ (x11 : Int) => nn a0 λ p12 => ld (.ptr) p12 λ (x13 : Option Addr) => cN 87 #[(.pointer x13)] λ x14 => keep (λ w => w.cell? (p10.add 3) = some (Cell.val cI x11)) <| chk ((100 : Int) ≠ 0) <| Aa Tryz.prog 186 #[(.pointer a0), (vI (W64 ((W64 (Int.tdiv (W64 ((W64 (x11 * x14)) + 99)) 100)) - 1)))] (.tup [(.agg c83), (.one cI)]) λ (x15 : (I3 × Int × Unit)) => Ad (at0 b1) (vA c83 x15.1) 3 <| lds c83 (at0 b1) λ (x16 : I3) => K (x16, x15.2.1, ()))
def Cs4 : Hint := (hS (hR 2) (hS (hJ (65520, [(15, tB)]) (.region [] (.ops 6 (.split 9 (.skips 5 (hO 1)) (hO 6)))) (hC (hS (hR 5) hL) hL)) (hS (.region (lR 19) (hO 19)) hL)))
theorem Df7 {a0 : Option Addr} {K : (I3 × Int × Unit) -> Wp} {w : World} (h : F151 a0 K w) : Aa Tryz.prog 151 #[(.pointer a0)] (.tup [(.agg c83), (.one cI)]) K w := tied Ah Tryz.func151 Cs4 _ h
def F166 (a0 : Option Addr) (a1 : Int) (a2 : Int) (K : I4 -> Wp) : Wp := Ae (.cells #[(vI 0), (vI 0), (vI 0), (vI 0)] 133) λ b1 => cS 25 #[(.pointer a0), (vI (if (W64 (a2 - 2)) > a1 then (W64 (a2 - 2)) else a1)), (vI a2)] λ x2 => ixI x2 (W64 (((x2.len : Nat) : Int) - 1)) 1 λ x4 => sif (x4 == 13) ( Ad (at0 b1) (.agg #[(vI a1), (vI (W64 (a2 - 1))), (vI a2), (vI 3)]) 4 <| lds Jg (at0 b1) λ (x5 : I4) => K x5) ( jB (λ J6 => sif (decide ((W64 (((x2.len : Nat) : Int) - 1)) > 0)) ( ix x2.a x2.len (W64 ((W64 (((x2.len : Nat) : Int) - 1)) - 1)) λ p8 => ld cI (p8.add (scaled (Int.toNat (W64 ((W64 (((x2.len : Nat) : Int) - 1)) - 1))) 1)) λ (x9 : Int) => J6 ((x9 == 13), ())) ( J6 (false, ()))) λ s7 => sif s7.1 ( Ad (at0 b1) (.agg #[(vI a1), (vI (W64 (a2 - 2))), (vI a2), (vI 2)]) 4 <| lds Jg (at0 b1) λ (x10 : I4) => K x10) ( Ad (at0 b1) (.agg #[(vI a1), (vI (W64 (a2 - 1))), (vI a2), (vI 1)]) 4 <| lds Jg (at0 b1) λ (x11 : I4) => K x11))
def Cs2 : Hint := (hS (hR 1) (hS (hR 8) (hS (hR 4) (hS (.block (hS (hR 6) (hC (hS (hR 6) hL) (hJ (0x1ffc0000000, [(30, tB)]) (.region [] (.ops 3 (.split 33 (hO 8) (.skips 6 (hO 2))))) (hC (hS (hR 6) hL) hL))))) (hS (hR 6) hL)))))
theorem Df5 {a0 : Option Addr} {a1 : Int} {a2 : Int} {K : I4 -> Wp} {w : World} (h : F166 a0 a1 a2 K w) : Aa Tryz.prog 166 #[(.pointer a0), (vI a1), (vI a2)] (.one (.agg Jg)) K w := tied Ah Tryz.func166 Cs2 _ h
def F179  (K : (I3 × Int × Unit) -> Wp) : Wp := Ae (.cells #[(vI 0), (vI 0), (vI 0)] 83) λ b1 => Ad (at0 b1) (.agg #[(vI 0), (vI 0), (vI 0)]) 3 <| lds c83 (at0 b1) λ (x2 : I3) => K (x2, 80, ())
def Cr2 : Hint := (hS (hR 2) (hS (hR 3) hL))
theorem De7 {K : (I3 × Int × Unit) -> Wp} {w : World} (h : F179  K w) : Aa Tryz.prog 179 #[] (.tup [(.agg c83), (.one cI)]) K w := tied Ah Tryz.func179 Cr2 _ h
def F180 (a0 : Option Addr) (a1 : Int) (a2 : Int) (K : (I3 × Int × Unit) -> Wp) : Wp := Ae (.cells #[(vI 0), (vI 0), (vI 0)] 83) λ b1 => nn a0 λ p2 => ld (.ptr) p2 λ (x3 : Option Addr) => cN 38 #[(.pointer x3), (vI a1)] λ x4 => Ad (at0 b1) (.agg #[(vI a1), (vI a2), (vI x4)]) 3 <| lds c83 (at0 b1) λ (x5 : I3) => K (x5, 0, ())
def Cr1 : Hint := (hS (hR 2) (hS (hR 11) hL))
theorem De6 {a0 : Option Addr} {a1 : Int} {a2 : Int} {K : (I3 × Int × Unit) -> Wp} {w : World} (h : F180 a0 a1 a2 K w) : Aa Tryz.prog 180 #[(.pointer a0), (vI a1), (vI a2)] (.tup [(.agg c83), (.one cI)]) K w := tied Ah Tryz.func180 Cr1 _ h
def F181 (a0 : Option Addr) (K : Int -> Wp) : Wp := nn a0 λ p1 => ld (.bool) (p1.add 7) λ (x2 : Bool) => sif x2 ( nn a0 λ p3 => lds Bg (p3.add 9) λ (x4 : (Int × Int × Int × Int × Int × Sl × Sl × Unit)) => cN 80 #[(vA Bg x4)] λ x5 => K x5) ( nn a0 λ p6 => lds Bg (p6.add 9) λ (x7 : (Int × Int × Int × Int × Int × Sl × Sl × Unit)) => cN 80 #[(vA Bg x7)] λ x8 => K (if 0 > (W64 (x8 - 1)) then 0 else (W64 (x8 - 1))))
def Cr0 : Hint := (hS (hR 1) (hS (hS (hR 4) (hC (hS (hR 6) hL) hL)) (hS (hR 8) hL)))
theorem De5 {a0 : Option Addr} {K : Int -> Wp} {w : World} (h : F181 a0 K w) : Aa Tryz.prog 181 #[(.pointer a0)] rI K w := tied Ah Tryz.func181 Cr0 _ h
def F182 (a0 : (Int × Int × Int × Int × Int × Sl × Sl × Unit)) (K : Int -> Wp) : Wp := Ae (.cells #[(vI a0.1), (vI a0.2.1), (vI a0.2.2.1), (vI a0.2.2.2.1), (vI a0.2.2.2.2.1), a0.2.2.2.2.2.1.v, a0.2.2.2.2.2.2.1.v] 135) λ b1 => jU (λ J2 => lds Bg (at0 b1) λ (x4 : (Int × Int × Int × Int × Int × Sl × Sl × Unit)) => cN 80 #[(vA Bg x4)] λ x5 => sI (λ s6 again7 => sif (decide (s6.1 < x5)) ( lds Bg (at0 b1) λ (x8 : (Int × Int × Int × Int × Int × Sl × Sl × Unit)) => cN 197 #[(vA Bg x8), (vI s6.1), (.bool true)] λ x9 => sif (x9 != 0) ( K s6.1) ( again7 ((W64 (s6.1 + 1)), ()))) ( J2 ())) (0, ())) λ s3 => lds Bg (at0 b1) λ (x10 : (Int × Int × Int × Int × Int × Sl × Sl × Unit)) => cN 80 #[(vA Bg x10)] λ x11 => K (if 0 > (W64 (x11 - 1)) then 0 else (W64 (x11 - 1)))
def Cq9 : Hint := (hS (hR 2) (hJ (32764, []) (hS (hR 3) (.block (.loop 32716 [(6, tI)] (hS (hR 1) (hS (hC hL hL) (hS (.block (hS (hR 2) (hS (hR 4) (hC (hS (hR 2) hL) hL)))) (hR 2))))))) (hS (hR 5) hL)))
theorem De4 {a0 : (Int × Int × Int × Int × Int × Sl × Sl × Unit)} {K : Int -> Wp} {w : World} (h : F182 a0 K w) : Aa Tryz.prog 182 #[(vA Bg a0)] rI K w := tied Ah Tryz.func182 Cq9 _ h
def F183 (a0 : Option Addr) (a1 : Int) (a2 : Int) (a3 : Int) (K : (I3 × Int × Unit) -> Wp) : Wp := Ae (.cells #[(vI 0), (vI 0), (vI 0)] 83) λ b1 => cN 203 #[(.pointer a0), (vI a1)] λ x2 => sif (decide (x2 < 0)) ( Aa Tryz.prog 179 #[] (.tup [(.agg c83), (.one cI)]) λ (x3 : (I3 × Int × Unit)) => Ad (at0 b1) (vA c83 x3.1) 3 <| lds c83 (at0 b1) λ (x4 : I3) => K (x4, x3.2.1, ())) ( nn a0 λ p5 => lds Bg (p5.add 9) λ (x6 : (Int × Int × Int × Int × Int × Sl × Sl × Unit)) => cN 79 #[(vA Bg x6), (vI (W64 (x2 + a2)))] λ x7 => Aa Tryz.prog 180 #[(.pointer a0), (vI x7), (vI a3)] (.tup [(.agg c83), (.one cI)]) λ (x8 : (I3 × Int × Unit)) => Ad (at0 b1) (vA c83 x8.1) 3 <| lds c83 (at0 b1) λ (x9 : I3) => K (x9, x8.2.1, ()))
def Cq8 : Hint := (hS (hR 2) (hS (hR 4) (hS (hS (hR 2) (hC (hS (hR 5) hL) hL)) (hS (hR 15) hL))))
theorem Cl9 {a0 : Option Addr} {a1 : Int} {a2 : Int} {a3 : Int} {K : (I3 × Int × Unit) -> Wp} {w : World} (h : F183 a0 a1 a2 a3 K w) : Aa Tryz.prog 183 #[(.pointer a0), (vI a1), (vI a2), (vI a3)] (.tup [(.agg c83), (.one cI)]) K w := tied Ah Tryz.func183 Cq8 _ h
def F184 (a0 : Option Addr) (K : Bool -> Wp) : Wp := drew <| nn a0 λ p1 => ld cI ((p1.add 9).add 4) λ (x2 : Int) => nn a0 λ p3 => ld (.ptr) p3 λ (x4 : Option Addr) => cN 87 #[(.pointer x4)] λ x5 => keep (λ w => w.cell? ((p1.add 9).add 4) = some (Cell.val cI x2)) <| K (x2 == (W64 (x5 - 1)))
def Cq7 : Hint := (hS (hR 1) (hS (.region (lR 13) (hO 13)) hL))
theorem De3 {a0 : Option Addr} {K : Bool -> Wp} {w : World} (h : F184 a0 K w) : Aa Tryz.prog 184 #[(.pointer a0)] rB K w := tied Ah Tryz.func184 Cq7 _ h
def F185 (a0 : Option Addr) (a1 : Int) (K : (I3 × Int × Unit) -> Wp) : Wp := Ae (.cells #[(vI 0), (vI 0), (vI 0)] 83) λ b1 => drew <| nn a0 λ p2 => ld (.ptr) p2 λ (x3 : Option Addr) => nn a0 λ p4 => ld cI (p4.add 6) λ (x5 : Int) => nn a0 λ p6 => ld cI (p6.add 6) λ (x7 : Int) => cN 36 #[(.pointer x3), (vI a1), (vI x5), (.bool false)] λ x8 => keep (λ w => w.cell? (p6.add 6) = some (Cell.val cI x7)) <| Ad (at0 b1) (.agg #[(vI x8), (vI 2), (vI x7)]) 3 <| lds c83 (at0 b1) λ (x9 : I3) => K (x9, 0, ())
def Cq6 : Hint := (hS (hR 2) (hS (.region [0, 1, 2, 3, 4, 5, 6, 7, 8, 10, 11, 12, 13, 9, 14, 15, 16] (hO 17)) hL))
theorem De2 {a0 : Option Addr} {a1 : Int} {K : (I3 × Int × Unit) -> Wp} {w : World} (h : F185 a0 a1 K w) : Aa Tryz.prog 185 #[(.pointer a0), (vI a1)] (.tup [(.agg c83), (.one cI)]) K w := tied Ah Tryz.func185 Cq6 _ h
def F186 (a0 : Option Addr) (a1 : Int) (K : (I3 × Int × Unit) -> Wp) : Wp := Ae (.cells #[(vI 0), (vI 0), (vI 0)] 83) λ b1 => join (S := Addr × Unit) (λ J2 => drew <| nn a0 λ p4 => ld (.ptr) p4 λ (x5 : Option Addr) => nn a0 λ p6 => ld (.ptr) p6 λ (x7 : Option Addr) => both ( Ae (.cells #[(vI 0), (vI 0), (vI 0), (vI 0), (vI 0), (.slice none 0 0), (.slice none 0 0)] 135) λ b8 => keep (λ w => w.cell? p6 = some (Cell.val (.ptr) x7)) <| keep (λ w => w.cell? p4 = some (Cell.val (.ptr) x5)) <| cN 87 #[(.pointer x7)] λ x9 => keep (λ w => w.cell? p4 = some (Cell.val (.ptr) x5)) <| Aa Tryz.prog 86 #[(.pointer x5), (vI (if 0 > (if (W64 (x9 - 1)) < a1 then (W64 (x9 - 1)) else a1) then 0 else (if (W64 (x9 - 1)) < a1 then (W64 (x9 - 1)) else a1)))] (.one (.agg Bg)) λ (x10 : (Int × Int × Int × Int × Int × Sl × Sl × Unit)) => Ad (at0 b8) (vA Bg x10) 7 <| J2 ((at0 b8), ())) <| cN 87 #[(.pointer x7)] λ x11 => keep (λ w => w.cell? p4 = some (Cell.val (.ptr) x5)) <| both ( Ae (.cells #[(vI 0), (vI 0), (vI 0), (vI 0), (vI 0), (.slice none 0 0), (.slice none 0 0)] 135) λ b12 => keep (λ w => w.cell? p6 = some (Cell.val (.ptr) x7)) <| keep (λ w => w.cell? p4 = some (Cell.val (.ptr) x5)) <| Aa Tryz.prog 86 #[(.pointer x5), (vI (if 0 > (if (W64 (x11 - 1)) < a1 then (W64 (x11 - 1)) else a1) then 0 else (if (W64 (x11 - 1)) < a1 then (W64 (x11 - 1)) else a1)))] (.one (.agg Bg)) λ (x13 : (Int × Int × Int × Int × Int × Sl × Sl × Unit)) => Ad (at0 b12) (vA Bg x13) 7 <| J2 ((at0 b12), ())) <| Aa Tryz.prog 86 #[(.pointer x5), (vI (if 0 > (if (W64 (x11 - 1)) < a1 then (W64 (x11 - 1)) else a1) then 0 else (if (W64 (x11 - 1)) < a1 then (W64 (x11 - 1)) else a1)))] (.one (.agg Bg)) λ (x14 : (Int × Int × Int × Int × Int × Sl × Sl × Unit)) => both ( Ae (.cells #[(vI 0), (vI 0), (vI 0), (vI 0), (vI 0), (.slice none 0 0), (.slice none 0 0)] 135) λ b15 => keep (λ w => w.cell? p6 = some (Cell.val (.ptr) x7)) <| keep (λ w => w.cell? p4 = some (Cell.val (.ptr) x5)) <| Ad (at0 b15) (vA Bg x14) 7 <| J2 ((at0 b15), ())) <| nothing) λ s3 => drew <| lds Bg s3.1 λ (x16 : (Int × Int × Int × Int × Int × Sl × Sl × Unit)) => lds Bg s3.1 λ (x17 : (Int × Int × Int × Int × Int × Sl × Sl × Unit)) => cN 182 #[(vA Bg x17)] λ x18 => keep (λ w => Aj w s3.1 0 (Cells.vals Bg x16)) <| cN 79 #[(vA Bg x16), (vI x18)] λ x19 => Aa Tryz.prog 180 #[(.pointer a0), (vI x19), (vI 2)] (.tup [(.agg c83), (.one cI)]) λ (x20 : (I3 × Int × Unit)) => Ad (at0 b1) (vA c83 x20.1) 3 <| lds c83 (at0 b1) λ (x21 : I3) => K (x21, x20.2.1, ())
def Cq5 : Hint := (hS (hR 2) (hJ (2097088, [(6, (.one .addr))]) (.region [0, 1, 2, 3, 4, 5, 6, 7, 8, 9, 10, 11, 12, 13, 15] (.float [14] (.ops 9 (.alt none (.plain (hO 6)) (.ops 4 (.alt none (.plain (hO 2)) (.ops 1 (.alt none (.plain (hO 1)) .stop)))))))) (hS (.region (lR 10) (hO 10)) hL)))
theorem De1 {a0 : Option Addr} {a1 : Int} {K : (I3 × Int × Unit) -> Wp} {w : World} (h : F186 a0 a1 K w) : Aa Tryz.prog 186 #[(.pointer a0), (vI a1)] (.tup [(.agg c83), (.one cI)]) K w := tied Ah Tryz.func186 Cq5 _ h
def F197 (a0 : (Int × Int × Int × Int × Int × Sl × Sl × Unit)) (a1 : Int) (a2 : Bool) (K : Int -> Wp) : Wp := Ae (.cells #[(vI a0.1), (vI a0.2.1), (vI a0.2.2.1), (vI a0.2.2.2.1), (vI a0.2.2.2.2.1), a0.2.2.2.2.2.1.v, a0.2.2.2.2.2.2.1.v] 135) λ b1 => lds Bg (at0 b1) λ (x2 : (Int × Int × Int × Int × Int × Sl × Sl × Unit)) => cN 204 #[(vA Bg x2), (vI a1)] λ x3 => cN 205 #[(vI x3)] λ x4 => sif a2 ( K (if 1 < x4 then 1 else x4)) ( K x4)
def Cq4 : Hint := (hS (hR 2) (hS (hR 5) (hS (hS (hR 1) (hC (hS (hR 3) hL) hL)) (hS (hR 2) hL))))
theorem De0 {a0 : (Int × Int × Int × Int × Int × Sl × Sl × Unit)} {a1 : Int} {a2 : Bool} {K : Int -> Wp} {w : World} (h : F197 a0 a1 a2 K w) : Aa Tryz.prog 197 #[(vA Bg a0), (vI a1), (.bool a2)] rI K w := tied Ah Tryz.func197 Cq4 _ h
def F203 (a0 : Option Addr) (a1 : Int) (K : Int -> Wp) : Wp := nn a0 λ p1 => ld cI (p1.add 3) λ (x2 : Int) => jU (λ J3 => nn a0 λ p5 => ld cI (p5.add 2) λ (x6 : Int) => sN (λ s7 again8 => jB (λ J9 => sif (decide (s7.2.1 >= 0)) ( nn a0 λ p11 => lds Bg (p11.add 9) λ (x12 : (Int × Int × Int × Int × Int × Sl × Sl × Unit)) => cN 80 #[(vA Bg x12)] λ x13 => J9 ((decide (s7.2.1 < x13)), ())) ( J9 (false, ()))) λ s10 => sif s10.1 ( jI (λ J14 => drew <| nn a0 λ p16 => lds Bg (p16.add 9) λ (x17 : (Int × Int × Int × Int × Int × Sl × Sl × Unit)) => nn a0 λ p18 => ld cI (p18.add 5) λ (x19 : Int) => cN 204 #[(vA Bg x17), (vI s7.2.1)] λ x20 => keep (λ w => w.cell? (p18.add 5) = some (Cell.val cI x19)) <| sif (x20 != x19) ( J14 (s7.1, ())) ( sif ((W64 (s7.1 - 1)) == 0) ( K s7.2.1) ( J14 ((W64 (s7.1 - 1)), ())))) λ s15 => again8 (s15.1, (W64 (s7.2.1 + a1)), ())) ( J3 ())) (x2, (W64 (x6 + a1)), ())) λ s4 => K (-1)
def Cp9 : Hint := (hS (hR 1) (hS (hR 5) (hJ (0x7ffffffff870, []) (hS (hR 7) (.block (.loop 0x7ffffffe0070 [(5, tI), (6, tI)] (hS (hJ (0xffe0000, [(27, tB)]) (.region [] (.ops 3 (.split 19 (hO 8) (.skips 7 (hO 1))))) (hC hL hL)) (hJ (0x7fff80000030, [(5, tI)]) (.block (hS (hS (.region [0, 1, 2, 3, 4, 6, 7, 8, 9, 5, 10] (hO 11)) (hC hL hL)) (hS (hR 3) (hS (hR 2) (hC (hS (hR 2) hL) hL))))) (hR 4)))))) (hS (hR 1) hL))))
theorem Cl8 {a0 : Option Addr} {a1 : Int} {K : Int -> Wp} {w : World} (h : F203 a0 a1 K w) : Aa Tryz.prog 203 #[(.pointer a0), (vI a1)] rI K w := tied Ah Tryz.func203 Cp9 _ h
def F204 (a0 : (Int × Int × Int × Int × Int × Sl × Sl × Unit)) (a1 : Int) (K : Int -> Wp) : Wp := Ae (.cells #[(vI a0.1), (vI a0.2.1), (vI a0.2.2.1), (vI a0.2.2.2.1), (vI a0.2.2.2.2.1), a0.2.2.2.2.2.1.v, a0.2.2.2.2.2.2.1.v] 135) λ b1 => drew <| ld (.sl) (ad b1 5) λ (x2 : Sl) => ld (.sl) (ad b1 6) λ (x3 : Sl) => ixI x3 a1 1 λ x5 => ixI x2 x5 1 λ x7 => K x7
def Cp8 : Hint := (hS (hR 2) (hS (.region (lR 10) (hO 10)) hL))
theorem Dd5 {a0 : (Int × Int × Int × Int × Int × Sl × Sl × Unit)} {a1 : Int} {K : Int -> Wp} {w : World} (h : F204 a0 a1 K w) : Aa Tryz.prog 204 #[(vA Bg a0), (vI a1)] rI K w := tied Ah Tryz.func204 Cp8 _ h
end Go.Proofs.YtolhlldgnfbemaaGreatDoor
namespace Go.Proofs.YtolhlldgnfbemaaGreatDoor
open Go Go.Vx Cdc Trx Lns
section
variable {w w' : World} {S : Nat -> Prop} {p : Nat} {e : Enc} {lim na : Nat} {O : Nat -> Prop} {M : Parts}
abbrev lnT (l : Ln) : Cells.T Jg := ((l.from_ : Int), (l.to_ : Int), (l.next : Int), (l.kind : Int), ())
theorem hal (e : Enc) (M : Parts) : (atoms (aOf e M)).length = (aOf e M).length := List.length_map _
theorem Af3 (A : List Int) (k : Nat) : skI A (k : Int) = match sk A k with | some m => (m : Int) | none => -1 := by
 unfold skI
 rw [if_neg (by omega), Int.toNat_natCast]
 all_goals (cases sk A k <;> rfl)
theorem Ap2 (h : Txt w p e lim na O M) {f x : Nat} (hfx : f < x) (hx : x <= (atoms (aOf e M)).length) {K : Cells.T Jg -> Wp} (hK : ∀ w', Ext w w' -> K (lnT (lnC (atoms (aOf e M)) f x)) w') :
  Aa Tryz.prog 166 #[.pointer (some (at0 p)), .int .i64 (f : Int), .int .i64 (x : Int)] (.one (.agg Jg)) K w := by
 refine Df5 ?_
 unfold F166
 have few := h.few; have lims := h.lims
 generalize hA : atoms (aOf e M) = A at *
 have hAl : A.length = (aOf e M).length := by rw [← hA]; exact hal e M
 refine (St.start w).Ae λ b1 w1 S1 e1 => ?_
 have ew : W64 ((x : Int) - 2) = (x : Int) - 2 := wrap64 (by omega) (by omega)
 rw [ew]
 obtain ⟨g, hg⟩ : ∃ g : Nat, g = max f (x - 2) := ⟨_, rfl⟩
 have eg : (if (x : Int) - 2 > (f : Int) then (x : Int) - 2 else (f : Int)) = (g : Int) := by split <;> omega
 rw [eg]
 refine Rh (h.ext e1) λ s w2 o2 e2 => ?_
 rw [hA] at o2
 have hsub : sub A (g : Int) (x : Int) = (A.drop g).take (x - g) := by unfold sub; simp
 rw [hsub] at o2
 have hl := o2.len1
 rw [List.length_map, List.length_take, List.length_drop] at hl
 have hsl : s.len = x - g := by omega
 have get : ∀ i, i < x - g -> ((A.drop g).take (x - g))[i]? = A[g + i]? := λ i hi => by rw [List.getElem?_take, if_pos hi, List.getElem?_drop]
 have ew1 : W64 (((s.len : Nat) : Int) - 1) = ((x - g - 1 : Nat) : Int) := by rw [wrap64 (by omega) (by omega)]; omega
 rw [ew1]
 have S2 := S1.ext e2
 obtain ⟨a, ha⟩ : ∃ a, A[x - 1]? = some a := ⟨_, List.getElem?_eq_getElem (by omega)⟩
 have ex1 : W64 ((x : Int) - 1) = ((x - 1 : Nat) : Int) := by rw [wrap64 (by omega) (by omega)]; omega
 have fin : ∀ {l : Ln} {W : World}, St (λ _ => False) w W [(b1, .cells #[.int .i64 0, .int .i64 0, .int .i64 0, .int .i64 0] 133 (0, 0))] -> lnC A f x = l ->
   Ad (at0 b1) (.agg (Cells.vals Jg (lnT l)).toArray) 4 (lds Jg (at0 b1) λ x => K x) W := by
  intro l W SW el
  exact SW.Ad 0 rfl rfl rfl rfl λ w3 S3 _ => S3.lds 0 (lnT l) rfl (by subst el; exact hK w3 S3.upd)
 refine Gm (c := .int .i64) (xs := (A.drop g).take (x - g)) o2.in (by omega) (x := a) (by rw [Int.toNat_natCast, get _ (by omega), ← ha]; congr 1; omega) λ q => Ac (λ hc => ?_) (λ hc => ?_)
 ·simp only [beq_iff_eq] at hc
  rw [ex1]
  exact fin (l := ⟨f, x - 1, x, 3⟩) S2 (by unfold lnC; rw [if_pos (by rw [ha, hc])])
 ·simp only [beq_eq_false_iff_ne] at hc
  have h13 : ¬ A[x - 1]? = some 13 := by rw [ha]; exact λ h => hc (Option.some.inj h)
  refine Af (λ y W => y = (decide (f + 1 < x /\ A[x - 2]? = some 13), ()) /\ w2 = W) ?_ ?_
  ·refine Ac (λ hd => ?_) (λ hd => ?_)
   ·simp only [decide_eq_true_eq, gt_iff_lt] at hd
    have ew2 : W64 (((x - g - 1 : Nat) : Int) - 1) = ((x - g - 2 : Nat) : Int) := by rw [wrap64 (by omega) (by omega)]; omega
    rw [ew2]
    obtain ⟨b, hb⟩ : ∃ b, A[x - 2]? = some b := ⟨_, List.getElem?_eq_getElem (by omega)⟩
    refine Gm (c := .int .i64) (xs := (A.drop g).take (x - g)) o2.in (by omega) (x := b) (by rw [Int.toNat_natCast, get _ (by omega), ← hb]; congr 1; omega) λ q2 => ⟨Aw ?_, rfl⟩
    simp only [beq_iff_eq, decide_eq_true_eq, hb, Option.some.injEq]
    omega
   ·simp only [decide_eq_false_iff_not, gt_iff_lt] at hd
    refine ⟨Aw ?_, rfl⟩
    simp only [Bool.false_eq_true, decide_eq_true_eq, false_iff]
    omega
  rintro _ _ ⟨rfl, rfl⟩
  refine Ac (λ hd => ?_) (λ hd => ?_)
  ·simp only [decide_eq_true_eq] at hd
   have ew3 : (x : Int) - 2 = ((x - 2 : Nat) : Int) := by omega
   rw [ew3]
   exact fin (l := ⟨f, x - 2, x, 2⟩) S2 (by unfold lnC; rw [if_neg h13, if_pos hd])
  ·simp only [decide_eq_false_iff_not] at hd
   rw [ex1]
   exact fin (l := ⟨f, x - 1, x, 1⟩) S2 (by unfold lnC; rw [if_neg h13, if_neg hd])
def Cl2 (r : Option Ln) : Cells.T Jg × Int × Unit := match r with
 | some l => (lnT l, 0, ())
 | none => (lnT ⟨0, 0, 0, 0⟩, 2, ())
theorem Bp1 {i : Int} (h : Txt w p e lim na O M) (hi : i < 2 ^ 62) {K : Cells.T Jg × Int × Unit -> Wp} (hK : ∀ w', Ext w w' -> K (Cl2 (lnI (atoms (aOf e M)) i)) w') :
  Aa Tryz.prog 106 #[.pointer (some (at0 p)), .int .i64 i] (.tup [(.agg Jg), (.one (.int .i64))]) K w := by
 refine Dj9 ?_
 unfold F106
 have few := h.few; have lims := h.lims
 have hal := hal e M
 refine (St.start w).Ae λ b1 w1 S1 e1 => ?_
 refine Ac (λ hc => ?_) (λ hc => ?_)
 ·simp only [decide_eq_true_eq] at hc
  refine S1.Ad 0 rfl rfl rfl rfl λ w2 S2 _ => S2.lds 0 (lnT ⟨0, 0, 0, 0⟩) rfl ?_
  have := hK w2 S2.upd
  unfold lnI at this
  rw [if_pos hc] at this
  exact this
 simp only [decide_eq_false_iff_not] at hc
 obtain ⟨n, rfl⟩ : ∃ n : Nat, i = (n : Int) := ⟨i.toNat, by omega⟩
 unfold lnI at hK
 rw [if_neg hc, Int.toNat_natCast] at hK
 refine Ye (h.ext e1) λ w2 e2 => ?_
 have S2 := S1.ext e2
 rw [Af3]
 cases hf : sk (atoms (aOf e M)) n with
 | none =>
  refine Ac (λ _ => ?_) (λ h => by simp at h)
  refine S2.Ad 0 rfl rfl rfl rfl λ w3 S3 _ => S3.lds 0 (lnT ⟨0, 0, 0, 0⟩) rfl ?_
  have := hK w3 S3.upd
  unfold Kr at this
  rw [hf] at this
  exact this
 | some f =>
  refine Ac (λ h => by simp at h; omega) (λ _ => ?_)
  obtain ⟨hnb, hfl, hnf, _⟩ := Nh hf
  refine Ja (h.ext S2.upd) λ w3 e3 => Oq (h.ext (S2.ext e3).upd) λ w4 e4 => ?_
  have S4 := (S2.ext e3).ext e4
  rw [Int.toNat_natCast, ← hal, ← Jq]
  refine Ac (λ hlt => ?_) (λ hlt => ?_)
  ·simp only [decide_eq_true_eq] at hlt
   have ew : W64 ((n : Int) + 1) = ((n + 1 : Nat) : Int) := by rw [wrap64 (by omega) (by omega)]; omega
   rw [ew]
   refine Ye (h.ext S4.upd) λ w5 e5 => ?_
   have S5 := S4.ext e5
   rw [Af3]
   obtain ⟨x, hx⟩ := Ak9 (A := atoms (aOf e M)) (k := n + 1) (by omega)
   obtain ⟨_, hxl, _, _⟩ := Nh hx
   rw [hx]
   refine Ap2 (h.ext S5.upd) (Ca6 hf hx (by omega)) hxl λ w6 e6 => (S5.ext e6).Ad 0 rfl rfl rfl rfl λ w7 S7 _ => S7.lds 0 (lnT _) rfl ?_
   have := hK w7 S7.upd
   unfold Kr at this
   rw [hf] at this
   simp only [hx] at this
   exact this
  ·simp only [decide_eq_false_iff_not] at hlt
   refine Ja (h.ext S4.upd) λ w5 e5 => Ja (h.ext (S4.ext e5).upd) λ w6 e6 => ((S4.ext e5).ext e6).Ad 0 rfl rfl rfl rfl λ w7 S7 _ => S7.lds 0 (lnT ⟨f, (aOf e M).length, (aOf e M).length, 0⟩) rfl ?_
   have := hK w7 S7.upd
   unfold Kr at this
   rw [hf] at this
   simp only [Ub (atoms (aOf e M)) (n + 1) (by omega)] at this
   rw [hal] at this
   exact this
theorem Bo4 {at_ : Int} (h : Txt w p e lim na O M) {K : Int -> Wp} (hK : ∀ w', Ext w w' -> K ((nb (atoms (aOf e M)) at_.toNat : Nat) : Int) w') :
  Aa Tryz.prog 130 #[.pointer (some (at0 p)), .int .i64 at_] rI K w := by
 refine Dh8 ?_
 unfold F130
 have hal := hal e M
 refine Ja h λ w1 e1 => Oq (h.ext e1) λ w2 e2 => ?_
 have := hK w2 (e1.trans e2)
 have e : nb (atoms (aOf e M)) (if (((aOf e M).length : Nat) : Int) < (if (0 : Int) > at_ then (0 : Int) else at_) then (((aOf e M).length : Nat) : Int) else (if (0 : Int) > at_ then (0 : Int) else at_)).toNat = nb (atoms (aOf e M)) at_.toNat := by
  by_cases h0 : (0 : Int) > at_
  ·rw [if_pos h0, if_neg (by omega)]
   have : at_.toNat = (0 : Int).toNat := by omega
   rw [this]
  ·rw [if_neg h0]
   split
   ·rw [Int.toNat_natCast, U1 _ _ (by omega), U1 _ _ (by omega)]
   ·rfl
 rw [e]; exact this
theorem An2 (h : Txt w p e lim na O M) {K : Bool -> Wp} (hK : ∀ w', Ext w w' -> K (ended (atoms (aOf e M))) w') :
  Aa Tryz.prog 133 #[.pointer (some (at0 p))] rB K w := by
 refine Dh5 ?_
 unfold F133
 have hal := hal e M
 unfold ended at hK
 refine Ja h λ w1 e1 => Ac (λ hc => ?_) (λ hc => ?_)
 ·simp only [decide_eq_true_eq, gt_iff_lt] at hc
  refine Oq (h.ext e1) λ w2 e2 => Ye (h.ext (e1.trans e2)) λ w3 e3 => ?_
  have := hK w3 ((e1.trans e2).trans e3)
  rw [Int.toNat_natCast, ← hal, ← Jq, Af3]
  rw [decide_eq_true (by omega), Bool.true_and] at this
  cases hs : sk (atoms (aOf e M)) (brs (atoms (aOf e M))) with
  | none =>
   rw [hs] at this
   have e1 : ((-1 : Int) == (((atoms (aOf e M)).length : Nat) : Int)) = false := by rw [beq_eq_false_iff_ne]; omega
   show K ((-1 : Int) == _) w3
   rw [e1]; exact this
  | some m =>
   rw [hs] at this
   have e1 : ((m : Int) == (((atoms (aOf e M)).length : Nat) : Int)) = (some m == some (atoms (aOf e M)).length) := by rw [Bool.eq_iff_iff, beq_iff_eq, beq_iff_eq, Option.some.injEq]; omega
   show K ((m : Int) == _) w3
   rw [e1]; exact this
 ·simp only [decide_eq_false_iff_not, gt_iff_lt] at hc
  have := hK w1 e1
  rw [decide_eq_false (by omega), Bool.false_and] at this
  exact this
theorem An3 (h : Txt w p e lim na O M) {K : Int -> Wp} (hK : ∀ w', Ext w w' -> K ((lnN (atoms (aOf e M)) : Nat) : Int) w') :
  Aa Tryz.prog 87 #[.pointer (some (at0 p))] rI K w := by
 refine A87 ?_
 unfold F87
 have few := h.few; have lims := h.lims
 have hal := hal e M
 have hb : brs (atoms (aOf e M)) <= (atoms (aOf e M)).length := by rw [Jq]; exact Am3 _ _
 refine Ja h λ w1 e1 => Oq (h.ext e1) λ w2 e2 => ?_
 rw [Int.toNat_natCast, ← hal, ← Jq]
 refine Af (λ x W => x = (((lnN (atoms (aOf e M)) : Nat) : Int), ()) /\ Ext w W) ?_ (λ x W hx => by obtain ⟨rfl, hx⟩ := hx; exact hK W hx)
 refine An2 (h.ext (e1.trans e2)) λ w3 e3 => ?_
 have e03 := (e1.trans e2).trans e3
 refine Ac (λ hc => ⟨?_, e03⟩) (λ hc => ⟨?_, e03⟩)
 ·simp only [Bool.not_eq_true'] at hc
  unfold lnN
  rw [hc, wrap64 (by omega) (by omega)]
  simp
 ·simp only [Bool.not_eq_false'] at hc
  unfold lnN
  rw [hc]
  simp
end
end Go.Proofs.YtolhlldgnfbemaaGreatDoor
namespace Go.Proofs.YtolhlldgnfbemaaGreatDoor
open Go Go.Vx Cdc Trx Gly Clu Lns Obx
namespace Mot
variable {A : List Int} {i : Nat}
def Aa0 (A : List Int) (i : Nat) : List Int := (List.range ((Ai A i).length + 1)).map λ j => (Qk A i j : Int)
theorem Ce4 (h : i <= brs A) : nv (cuts (rowB A i)) = iv (Aa0 A i) := by
 rw [Bl9 h]
 unfold Aa0
 simp only [List.map_map]
 rfl
theorem Bs9 (A : List Int) (i : Nat) : (Aa0 A i).length = (Ai A i).length + 1 := by unfold Aa0; simp
theorem Aj0 {j : Nat} (h : j <= (Ai A i).length) : (Aa0 A i)[j]? = some (Qk A i j : Int) := by
 unfold Aa0
 rw [List.getElem?_map, List.getElem?_range (by omega)]; rfl
theorem Bf5 (h : i <= brs A) (c : Int) : Au A i c = (Bc A i).from_ + Qk A i (min c.toNat (Ai A i).length) := by
 rw [Ad8 h]
 rcases Nat.lt_or_ge c.toNat (Ai A i).length with u | u
 ·rw [Nat.min_eq_left (by omega)]
  unfold Au
  rw [Int.toNat_natCast]
 ·rw [Nat.min_eq_right u, Fv u, Fv (by omega)]
theorem Bs2 (h : i <= brs A) {j : Nat} {c : Cel} (hc : (Ai A i)[j]? = some c) : c.to_ = Au A i ((j + 1 : Nat) : Int) := by
 have hl := (List.getElem?_eq_some_iff.1 hc).1
 rcases Nat.lt_or_ge (j + 1) (Ai A i).length with u | u
 ·obtain ⟨d, hd⟩ := Dz u
  rw [Ei u, Ib hd]
  exact (Hw A i).next j c d hc hd
 ·rw [Fv (by omega)]
  exact Ab1 h hc (by omega)
theorem P9 (h : i <= brs A) {c d : Nat} (hcd : c <= d) (hd : d <= (Ai A i).length) : Au A i (c : Int) <= Au A i (d : Int) := by
 rcases Nat.lt_or_ge c d with u | u
 ·exact Nat.le_of_lt (Zo h u hd)
 ·rw [show c = d by omega]; exact Nat.le_refl _
theorem Az4 (h : i <= brs A) {j : Nat} {c : Cel} (hc : (Ai A i)[j]? = some c) : (rowB A i)[Qk A i j]? = some c.atom /\ c.kind = wrd c.atom := by
 have hl := (List.getElem?_eq_some_iff.1 hc).1
 obtain ⟨_, _, _, _, q⟩ := Xf (Dv h).ft (by have := (Dv h).tn; have := (Dv h).nl; omega) hc
 exact ⟨by rw [Bs8 h hl, hc]; rfl, q.kind⟩
end Mot
open Mot
abbrev RwT := Cells.T Bg
structure Gv (w : World) (A : List Int) (i : Nat) (r : RwT) : Prop where
 row : i <= brs A
 len : A.length <= 1048576
 f : r.1 = ((Bc A i).from_ : Int)
 t : r.2.1 = ((Bc A i).to_ : Int)
 n : r.2.2.1 = ((Bc A i).next : Int)
 num : r.2.2.2.2.1 = (i : Int)
 atoms : Bf w r.2.2.2.2.2.1 3 1 (iv (rowB A i))
 starts : Bf w r.2.2.2.2.2.2.1 3 1 (iv (Aa0 A i))
abbrev rwO (r : RwT) : Obj := .cells #[.int .i64 r.1, .int .i64 r.2.1, .int .i64 r.2.2.1, .int .i64 r.2.2.2.1, .int .i64 r.2.2.2.2.1, .slice r.2.2.2.2.2.1.a r.2.2.2.2.2.1.len r.2.2.2.2.2.1.cap, .slice r.2.2.2.2.2.2.1.a r.2.2.2.2.2.2.1.len r.2.2.2.2.2.2.1.cap] 135 (0, 0)
abbrev rwZ : Obj := .cells #[.int .i64 0, .int .i64 0, .int .i64 0, .int .i64 0, .int .i64 0, .slice none 0 0, .slice none 0 0] 135 (0, 0)
section
variable {w w' : World} {A : List Int} {i : Nat} {r : RwT}
theorem Gv.ext (h : Gv w A i r) (e : Ext w w') : Gv w' A i r := ⟨h.row, h.len, h.f, h.t, h.n, h.num, h.atoms.ext e, h.starts.ext e⟩
theorem Gv.slen (h : Gv w A i r) : r.2.2.2.2.2.2.1.len = (Ai A i).length + 1 := by
 have := h.starts.len1
 rw [List.length_map, Bs9] at this
 exact this.symm
theorem Gv.few (h : Gv w A i r) : (Ai A i).length <= 1048576 /\ (Bc A i).to_ <= 1048576 /\ (Bc A i).from_ <= 1048576 /\ (Bc A i).next <= 1048576 := by
 have h1 := Nk h.row
 have ok := Dv h.row
 have := ok.tn; have := ok.nl; have := ok.ft; have := h.len
 omega
theorem Gp (h : Gv w A i r) {K : Int -> Wp} (hK : ∀ w', Ext w w' -> K ((Ai A i).length : Int) w') :
  Aa Tryz.prog 80 #[.agg (Cells.vals Bg r).toArray] rI K w := by
 refine A80 (a0 := r) ?_
 unfold F80
 have hl := h.slen; have fw := h.few
 refine (St.start w).Ae λ b1 w1 S1 e1 => S1.ld 0 rfl (x := r.2.2.2.2.2.2.1) rfl ?_
 rw [hl, wrap64 (by omega) (by omega)]
 have := hK w1 e1
 rw [show (((Ai A i).length + 1 : Nat) : Int) - 1 = ((Ai A i).length : Int) by omega]
 exact this
theorem Ef (h : Gv w A i r) {c : Int} {K : Int -> Wp} (hK : ∀ w', Ext w w' -> K (Au A i c : Int) w') :
  Aa Tryz.prog 79 #[.agg (Cells.vals Bg r).toArray, .int .i64 c] rI K w := by
 refine A79 (a0 := r) ?_
 unfold F79
 have hl := h.slen; have fw := h.few
 refine (St.start w).Ae λ b1 w1 S1 e1 => S1.drew λ w2 S2 e2 _ => S2.ld 0 rfl (x := r.1) rfl (S2.ld 0 rfl (x := r.2.2.2.2.2.2.1) rfl (S2.lds 0 r rfl ?_))
 refine Gp (h.ext S2.upd) λ w3 e3 => ?_
 have S3 := S2.ext e3
 refine S3.keep 0 rfl (v := .slice r.2.2.2.2.2.2.1.a r.2.2.2.2.2.2.1.len r.2.2.2.2.2.2.1.cap) rfl (S3.keep 0 rfl (v := .int .i64 r.1) rfl ?_)
 have em : (if (((Ai A i).length : Nat) : Int) < (if (0 : Int) > c then (0 : Int) else c) then (((Ai A i).length : Nat) : Int) else (if (0 : Int) > c then (0 : Int) else c)) = ((min c.toNat (Ai A i).length : Nat) : Int) := by
  split <;> split at * <;> omega
 rw [em]
 refine Gm (c := .int .i64) (xs := Aa0 A i) (h.ext S3.upd).starts (by omega) (x := (Qk A i (min c.toNat (Ai A i).length) : Int)) (by rw [Int.toNat_natCast]; exact Aj0 (by omega)) λ p => ?_
 have hp := Bf5 h.row c
 have hle := Pv h.row c
 have hA := h.len
 rw [h.f, wrap64 (by omega) (by omega)]
 have := hK w3 S3.upd
 rw [hp] at this
 rw [show (((Bc A i).from_ : Nat) : Int) + ((Qk A i (min c.toNat (Ai A i).length) : Nat) : Int) = (((Bc A i).from_ + Qk A i (min c.toNat (Ai A i).length) : Nat) : Int) by omega]
 exact this
theorem Yn (h : Gv w A i r) {n : Int} {K : Int -> Wp} (hK : ∀ w', Ext w w' -> K (Du (Ai A i) n : Int) w') :
  Aa Tryz.prog 81 #[.agg (Cells.vals Bg r).toArray, .int .i64 n] rI K w := by
 refine A81 (a0 := r) ?_
 unfold F81
 have hl := h.slen; have fw := h.few; have hA := h.len
 refine (St.start w).Ae λ b1 w1 S1 e1 => S1.lds 0 r rfl (Gp (h.ext e1) λ w2 e2 => ?_)
 have S2 := S1.ext e2
 have S2 : St (λ _ => False) w w2 [(b1, rwO r)] := S2
 refine Af (λ x W => x = ((Du (Ai A i) n : Int), ()) /\ Ext w W) ?_ (λ x W hx => by rw [hx.1]; exact hK W hx.2)
 refine Ba (λ x W => ∃ lo hi : Nat, x = ((lo : Int), (hi : Int), ()) /\ lo <= hi /\ hi <= (Ai A i).length /\ (lo = 0 \/ (Au A i (lo : Int) : Int) <= n) /\ (∀ j : Nat, hi < j -> j <= (Ai A i).length -> n < (Au A i (j : Int) : Int)) /\ St (λ _ => False) w W [(b1, rwO r)]) (λ x _ => (x.2.1 - x.1).toNat) ⟨0, (Ai A i).length, rfl, Nat.zero_le _, Nat.le_refl _, .inl rfl, λ j h1 h2 => by omega, S2⟩ ?_
 rintro _ W ⟨lo, hi, rfl, h1, h2, h3, h4, SW⟩
 dsimp only
 refine Ac (λ hc => ?_) (λ hc => ?_)
 ·simp only [decide_eq_true_eq] at hc
  obtain ⟨m, hm⟩ : ∃ m : Nat, m = (lo + hi + 1) / 2 := ⟨_, rfl⟩
  have ew1 : W64 ((lo : Int) + (hi : Int)) = (lo : Int) + hi := wrap64 (by omega) (by omega)
  have ew2 : W64 ((lo : Int) + (hi : Int) + 1) = (lo : Int) + hi + 1 := wrap64 (by omega) (by omega)
  have ed : Int.tdiv ((lo : Int) + (hi : Int) + 1) 2 = (m : Int) := by rw [Int.tdiv_eq_ediv_of_nonneg (by omega)]; omega
  have ew3 : W64 (m : Int) = (m : Int) := wrap64 (by omega) (by omega)
  have ew4 : W64 ((m : Int) - 1) = ((m - 1 : Nat) : Int) := by rw [wrap64 (by omega) (by omega)]; omega
  rw [ew1, ew2, ed, ew3, ew4]
  refine Bo (by decide) (SW.drew λ w3 S3 e3 _ => S3.ld 0 rfl (x := r.1) rfl (S3.ld 0 rfl (x := r.2.2.2.2.2.2.1) rfl ?_))
  refine Gm (c := .int .i64) (xs := Aa0 A i) (h.ext S3.upd).starts (by omega) (x := (Qk A i m : Int)) (by rw [Int.toNat_natCast]; exact Aj0 (by omega)) λ p => ?_
  have hp := Ad8 h.row m
  have hle := Pv h.row (m : Int)
  rw [h.f, wrap64 (by omega) (by omega), show (((Bc A i).from_ : Nat) : Int) + ((Qk A i m : Nat) : Int) = (Au A i (m : Int) : Int) by omega]
  refine Ac (λ hg => ?_) (λ hg => ?_)
  ·simp only [decide_eq_true_eq] at hg
   exact ⟨⟨m, hi, rfl, by omega, h2, .inr hg, h4, S3⟩, by omega⟩
  ·simp only [decide_eq_false_iff_not] at hg
   refine ⟨⟨lo, m - 1, rfl, by omega, by omega, h3, λ j j1 j2 => ?_, S3⟩, by omega⟩
   have := P9 h.row (c := m) (d := j) (by omega) j2
   omega
 ·simp only [decide_eq_false_iff_not] at hc
  obtain rfl : lo = hi := by omega
  refine ⟨?_, SW.upd⟩
  rw [Yw h2 (λ j c hj hc' => ?_) (λ c hc' => ?_)]
  ·rw [Bs2 h.row hc']
   have := P9 h.row (c := j + 1) (d := lo) (by omega) h2
   rcases h3 with rfl | h3
   ·omega
   ·omega
  ·have hl2 := (List.getElem?_eq_some_iff.1 hc').1
   rw [Bs2 h.row hc']
   exact h4 (lo + 1) (by omega) (by omega)
theorem Sr (h : Gv w A i r) {j : Nat} {c : Cel} (hc : (Ai A i)[j]? = some c) {K : Int -> Wp} (hK : ∀ w', Ext w w' -> K c.atom w') :
  Aa Tryz.prog 204 #[.agg (Cells.vals Bg r).toArray, .int .i64 (j : Int)] rI K w := by
 refine Dd5 (a0 := r) ?_
 unfold F204
 have hl := h.slen; have fw := h.few
 have hj := (List.getElem?_eq_some_iff.1 hc).1
 refine (St.start w).Ae λ b1 w1 S1 e1 => S1.drew λ w2 S2 e2 _ => S2.ld 0 rfl (x := r.2.2.2.2.2.1) rfl (S2.ld 0 rfl (x := r.2.2.2.2.2.2.1) rfl ?_)
 have h2 := h.ext S2.upd
 refine Gm (c := .int .i64) (xs := Aa0 A i) h2.starts (by omega) (x := (Qk A i j : Int)) (by rw [Int.toNat_natCast]; exact Aj0 (by omega)) λ p => ?_
 exact Gm (c := .int .i64) (xs := rowB A i) h2.atoms (by omega) (x := c.atom) (by rw [Int.toNat_natCast]; exact (Az4 h.row hc).1) λ q => hK w2 S2.upd
theorem Av0 (h : Gv w A i r) {j : Nat} (hj : j < (Ai A i).length) {big : Bool} {K : Int -> Wp} (hK : ∀ w', Ext w w' -> K (Bb1 (Ai A i) j big : Int) w') :
  Aa Tryz.prog 197 #[.agg (Cells.vals Bg r).toArray, .int .i64 (j : Int), .bool big] rI K w := by
 refine De0 (a0 := r) ?_
 unfold F197
 obtain ⟨c, hc⟩ := Dz hj
 refine (St.start w).Ae λ b1 w1 S1 e1 => S1.lds 0 r rfl (Sr (h.ext e1) hc λ w2 e2 => Bd4 λ w3 e3 => ?_)
 have e13 := (e1.trans e2).trans e3
 have hk := (Az4 h.row hc).2
 unfold Bb1 at hK
 rw [hc] at hK
 refine Ac (λ hb => ?_) (λ hb => ?_)
 ·have := hK w3 e13
  rw [if_pos hb] at this
  have e : (if (1 : Int) < ((wrd c.atom : Nat) : Int) then (1 : Int) else ((wrd c.atom : Nat) : Int)) = ((min c.kind 1 : Nat) : Int) := by rw [hk]; split <;> omega
  rw [e]; exact this
 ·have := hK w3 e13
  rw [if_neg (by rw [hb]; decide)] at this
  rw [← hk]; exact this
theorem U3 (h : Gv w A i r) {K : Int -> Wp} (hK : ∀ w', Ext w w' -> K (Vw A i : Int) w') :
  Aa Tryz.prog 182 #[.agg (Cells.vals Bg r).toArray] rI K w := by
 refine De4 (a0 := r) ?_
 unfold F182
 have fw := h.few
 refine (St.start w).Ae λ b1 w1 S1 e1 => ?_
 have S1 : St (λ _ => False) w w1 [(b1, rwO r)] := S1
 refine Af (λ _ W => (∀ (j : Nat) y, (Ai A i)[j]? = some y -> y.kind = 0) /\ St (λ _ => False) w W [(b1, rwO r)]) ?_ ?_
 ·refine S1.lds 0 r rfl (Gp (h.ext e1) λ w2 e2 => ?_)
  refine Ba (λ x W => ∃ c : Nat, x = ((c : Int), ()) /\ c <= (Ai A i).length /\ (∀ (j : Nat) y, j < c -> (Ai A i)[j]? = some y -> y.kind = 0) /\ St (λ _ => False) w W [(b1, rwO r)]) (λ x _ => (((Ai A i).length : Int) - x.1).toNat) ⟨0, rfl, Nat.zero_le _, λ j y hj => by omega, S1.ext e2⟩ ?_
  rintro _ W ⟨c, rfl, h1, h2, SW⟩
  dsimp only
  refine Ac (λ hc => ?_) (λ hc => ?_)
  ·simp only [decide_eq_true_eq] at hc
   have ew : W64 ((c : Int) + 1) = ((c + 1 : Nat) : Int) := by rw [wrap64 (by omega) (by omega)]; omega
   rw [ew]
   obtain ⟨x, hx⟩ := Dz (C := Ai A i) (j := c) (by omega)
   refine SW.lds 0 r rfl (Av0 (h.ext SW.upd) (j := c) (by omega) λ w3 e3 => ?_)
   have hkb : Bb1 (Ai A i) c true = min x.kind 1 := by unfold Bb1; rw [if_pos rfl, hx]; rfl
   rw [hkb]
   refine Ac (λ hg => ?_) (λ hg => ?_)
   ·simp only [bne_iff_ne, ne_eq] at hg
    have := hK w3 (SW.ext e3).upd
    rw [Az2 hx (by omega) h2] at this
    exact this
   ·simp only [bne_eq_false_iff_eq] at hg
    refine ⟨⟨c + 1, rfl, by omega, λ j y hj hy => ?_, SW.ext e3⟩, by omega⟩
    by_cases hjc : j = c
    ·subst hjc; rw [hx] at hy; cases hy; omega
    ·exact h2 j y (by omega) hy
  ·simp only [decide_eq_false_iff_not] at hc
   exact ⟨λ j y hy => h2 j y (by have := (List.getElem?_eq_some_iff.1 hy).1; omega) hy, SW⟩
 rintro _ W ⟨h0, SW⟩
 refine SW.lds 0 r rfl (Gp (h.ext SW.upd) λ w3 e3 => ?_)
 have := hK w3 (SW.ext e3).upd
 rw [Aa7 h0] at this
 rw [wrap64 (by omega) (by omega)]
 have e : (if (0 : Int) > (((Ai A i).length : Nat) : Int) - 1 then (0 : Int) else (((Ai A i).length : Nat) : Int) - 1) = (((Ai A i).length - 1 : Nat) : Int) := by split <;> omega
 rw [e]; exact this
end
end Go.Proofs.YtolhlldgnfbemaaGreatDoor
namespace Go.Proofs.YtolhlldgnfbemaaGreatDoor
open Go Go.Vx Cdc Trx Gly Clu Lns Obx Mot
section
variable {w w' : World} {p : Nat} {e : Enc} {lim na : Nat} {O : Nat -> Prop} {M : Parts} {A : List Int}
structure TxA (w : World) (p : Nat) (A : List Int) : Prop where
 ex : ∃ e lim na O M, Txt w p e lim na O M /\ atoms (aOf e M) = A
theorem TxA.ext (h : TxA w p A) (x : Ext w w') : TxA w' p A := by
 obtain ⟨e, lim, na, O, M, h1, h2⟩ := h.ex
 exact ⟨e, lim, na, O, M, h1.ext x, h2⟩
theorem TxA.len (h : TxA w p A) : A.length <= 1048576 := by
 obtain ⟨e, lim, na, O, M, h1, rfl⟩ := h.ex
 rw [hal]; exact h1.few
theorem TxA.at_ (h : TxA w p A) {i : Nat} (hi : i <= brs A) {K : Cells.T Jg × Int × Unit -> Wp} (hK : ∀ w', Ext w w' -> K (lnT (Bc A i), 0, ()) w') :
  Aa Tryz.prog 106 #[.pointer (some (at0 p)), .int .i64 (i : Int)] (.tup [(.agg Jg), (.one (.int .i64))]) K w := by
 have hA := h.len; have hb := Ku A
 obtain ⟨e, lim, na, O, M, h1, rfl⟩ := h.ex
 refine Bp1 h1 (by omega) λ w' x => ?_
 have := hK w' x
 unfold lnI
 rw [if_neg (by omega), Int.toNat_natCast, Wn hi]
 exact this
theorem TxA.atoms (h : TxA w p A) {f t : Int} {K : Sl -> Wp} (hK : ∀ s w', Ak w' w.heap.size s 3 1 (iv (sub A f t)) -> Ext w w' -> K s w') :
  Aa Tryz.prog 25 #[.pointer (some (at0 p)), .int .i64 f, .int .i64 t] rS K w := by
 obtain ⟨e, lim, na, O, M, h1, rfl⟩ := h.ex
 exact Rh h1 hK
theorem TxA.of (h : TxA w p A) {x : Int} {K : Int -> Wp} (hK : ∀ w', Ext w w' -> K (ofI A x : Int) w') :
  Aa Tryz.prog 130 #[.pointer (some (at0 p)), .int .i64 x] rI K w := by
 obtain ⟨e, lim, na, O, M, h1, rfl⟩ := h.ex
 refine Bo4 h1 λ w' x' => ?_
 have := hK w' x'
 unfold ofI inT at this
 have e1 : nb (Trx.atoms (aOf e M)) x.toNat = nb (Trx.atoms (aOf e M)) (min (max x 0) ((Trx.atoms (aOf e M)).length : Int)).toNat := by
  rcases Nat.lt_or_ge x.toNat (Trx.atoms (aOf e M)).length with u | u
  ·congr 1; omega
  ·rw [U1 _ _ u, show (min (max x 0) ((Trx.atoms (aOf e M)).length : Int)).toNat = (Trx.atoms (aOf e M)).length by omega, Jq]
 rw [e1]; exact this
theorem TxA.count (h : TxA w p A) {K : Int -> Wp} (hK : ∀ w', Ext w w' -> K (lnN A : Int) w') :
  Aa Tryz.prog 87 #[.pointer (some (at0 p))] rI K w := by
 obtain ⟨e, lim, na, O, M, h1, rfl⟩ := h.ex
 exact An3 h1 hK
theorem TxA.Cm7 (h : TxA w p A) {K : Int -> Wp} (hK : ∀ w', Ext w w' -> K (A.length : Int) w') :
  Aa Tryz.prog 23 #[.pointer (some (at0 p))] rI K w := by
 obtain ⟨e, lim, na, O, M, h1, rfl⟩ := h.ex
 refine Ja h1 λ w' x => ?_
 have := hK w' x
 rw [hal] at this; exact this
theorem Ay8 (A : List Int) (i : Nat) : sub A ((Bc A i).from_ : Int) ((Bc A i).to_ : Int) = rowB A i := by unfold sub rowB; simp
theorem Md (h : TxA w p A) {i : Nat} (hi : i <= brs A) {K : RwT -> Wp} (hK : ∀ r w', Gv w' A i r -> Ext w w' -> K r w') :
  Aa Tryz.prog 86 #[.pointer (some (at0 p)), .int .i64 (i : Int)] (.one (.agg Bg)) K w := by
 refine A86 ?_
 unfold F86
 have hA := h.len
 let rw1 (sa ss : Sl) : RwT := (((Bc A i).from_ : Int), ((Bc A i).to_ : Int), ((Bc A i).next : Int), ((Bc A i).kind : Int), (i : Int), sa, ss, ())
 let lnO : Obj := .cells #[.int .i64 ((Bc A i).from_ : Int), .int .i64 ((Bc A i).to_ : Int), .int .i64 ((Bc A i).next : Int), .int .i64 ((Bc A i).kind : Int)] 133 (0, 0)
 refine (St.start w).Ae λ b1 w1 S1 e1 => h.ext e1 |>.at_ hi λ w2 e2 => (S1.ext e2).Ae λ b3 w3 S3 e3 => S3.Ad 0 rfl rfl rfl rfl λ w4 S4 u4 => ?_
 have S4 : St (λ _ => False) w w4 [(b3, lnO), (b1, rwZ)] := S4
 refine Af (λ x W => ∃ b sa, x = (at0 b, ()) /\ St (λ _ => False) w W [(b, rwO (rw1 sa ⟨none, 0, 0⟩)), (b3, lnO), (b1, rwZ)] /\ Ak W w.heap.size sa 3 1 (iv (rowB A i))) ?_ ?_
 ·refine S4.drew λ w5 S5 e5 _ => S5.lds 0 (lnT (Bc A i)) rfl (S5.ld 0 rfl (x := ((Bc A i).from_ : Int)) rfl (S5.ld 0 rfl (x := ((Bc A i).to_ : Int)) rfl ?_))
  refine ⟨?_, ?_⟩
  ·refine S5.Ae λ b9 w6 S6 e6 => ?_
   refine S6.keep 1 rfl (v := .int .i64 ((Bc A i).to_ : Int)) rfl (S6.keep 1 rfl (v := .int .i64 ((Bc A i).from_ : Int)) rfl (S6.keeps 1 (x := lnT (Bc A i)) rfl ?_))
   refine (h.ext S6.upd).atoms λ sa w7 o7 e7 => ?_
   rw [Ay8] at o7
   have S7 := S6.ext e7
   have o7 := o7.mono S6.upd.size
   refine S7.keeps 1 (x := lnT (Bc A i)) rfl (S7.Ad 0 rfl rfl rfl rfl λ w8 S8 u8 => ?_)
   exact ⟨b9, sa, rfl, S8, o7.box (S7.at_ 0 rfl) (by decide) u8⟩
  ·refine (h.ext S5.upd).atoms λ sa w6 o6 e6 => ?_
   rw [Ay8] at o6
   have S6 := S5.ext e6
   have o6 := o6.mono S5.upd.size
   refine S6.keeps 0 (x := lnT (Bc A i)) rfl ⟨?_, trivial⟩
   refine S6.Ae λ b12 w7 S7 e7 => ?_
   refine S7.keep 1 rfl (v := .int .i64 ((Bc A i).to_ : Int)) rfl (S7.keep 1 rfl (v := .int .i64 ((Bc A i).from_ : Int)) rfl (S7.keeps 1 (x := lnT (Bc A i)) rfl (S7.Ad 0 rfl rfl rfl rfl λ w8 S8 u8 => ?_)))
   exact ⟨b12, sa, rfl, S8, (o6.ext e7).box (S7.at_ 0 rfl) (by decide) u8⟩
 rintro _ W ⟨b, sa, rfl, SW, oa⟩
 refine SW.ld (off := 5) 0 rfl (x := sa) rfl ?_
 refine Ai7 oa.in (by rw [Rx hi]; have := (Dv hi).tn; have := (Dv hi).nl; omega) λ ss w2 o2 e2 => ?_
 rw [Ce4 hi] at o2
 have S2 := SW.ext e2
 have o2 := o2.mono SW.upd.size
 refine S2.stC (off := 6) 0 rfl (by show 6 < 7; decide) λ w3 S3 u3 => ?_
 have S3 : St (λ _ => False) w w3 [(b, rwO (rw1 sa ss)), (b3, lnO), (b1, rwZ)] := S3
 have oa3 := (oa.ext e2).box (S2.at_ 0 rfl) (by decide) u3
 have os3 := o2.box (S2.at_ 0 rfl) (by decide) u3
 refine S3.lds 0 (rw1 sa ss) rfl (S3.Ad 2 rfl rfl rfl rfl λ w4 S4 u4 => ?_)
 have oa4 := oa3.box (S3.at_ 2 rfl) (by decide) u4
 have os4 := os3.box (S3.at_ 2 rfl) (by decide) u4
 refine S4.lds 2 (rw1 sa ss) rfl (hK _ w4 ?_ S4.upd)
 exact ⟨hi, hA, rfl, rfl, rfl, rfl, oa4.in, os4.in⟩
theorem Vh (h : TxA w p A) {x : Int} {tail : Bool} {K : RwT -> Wp} (hK : ∀ r w', Gv w' A (Cj A x tail) r -> Ext w w' -> K r w') :
  Aa Tryz.prog 78 #[.pointer (some (at0 p)), .int .i64 x, .bool tail] (.one (.agg Bg)) K w := by
 refine A78 ?_
 unfold F78
 have hA := h.len; have hb := Dh A; have hbl := Ku A; have hof := Yl A x
 refine (St.start w).Ae λ b1 w1 S1 e1 => (h.ext e1).of λ w2 e2 => ?_
 have S2 := S1.ext e2
 have S2 : St (λ _ => False) w w2 [(b1, rwZ)] := S2
 refine Af (λ y W => y = ((Cj A x tail : Int), ()) /\ St (λ _ => False) w W [(b1, rwZ)]) ?_ ?_
 ·refine Ac (λ hc => ?_) (λ hc => ?_)
  ·have ht : tail = false := by simpa using hc
   subst ht
   refine (h.ext S2.upd).count λ w3 e3 => ⟨?_, S2.ext e3⟩
   have ew : W64 ((lnN A : Int) - 1) = ((lnN A - 1 : Nat) : Int) := by rw [wrap64 (by omega) (by omega)]; omega
   rw [ew]
   show _ = (((min (ofI A x) (lnN A - 1) : Nat) : Int), ())
   congr 1
   split <;> omega
  ·have ht : tail = true := by simpa using hc
   subst ht
   exact ⟨by unfold Cj; rw [if_pos rfl], S2⟩
 rintro _ W ⟨rfl, SW⟩
 refine Md (h.ext SW.upd) (Qp A x tail) λ r w3 hr e3 => (SW.ext e3).Ad 0 rfl rfl rfl rfl λ w4 S4 u4 => ?_
 have S4 : St (λ _ => False) w w4 [(b1, rwO r)] := S4
 refine S4.lds 0 r rfl (hK r w4 ⟨hr.row, hr.len, hr.f, hr.t, hr.n, hr.num, ?_, ?_⟩ S4.upd)
 ·exact hr.atoms.box ((SW.ext e3).at_ 0 rfl) (by decide) u4
 ·exact hr.starts.box ((SW.ext e3).at_ 0 rfl) (by decide) u4
theorem Gv.box {i b : Nat} {c : Array Value} {fr : Nat × Nat} {t : TypeId} {r : RwT} (h : Gv w A i r) (hb : w.heap[b]? = some (.cells c t fr)) (ht : 3 ≠ t) (u : Upd (λ k => k = b) w w') : Gv w' A i r :=
 ⟨h.row, h.len, h.f, h.t, h.n, h.num, h.atoms.box hb ht u, h.starts.box hb ht u⟩
theorem Am7 (h : TxA w p A) {x : Int} {past : Bool} {K : Int -> Wp} (hK : ∀ w', Ext w w' -> K (Bj A x past : Int) w') :
  Aa Tryz.prog 34 #[.pointer (some (at0 p)), .int .i64 x, .bool past] rI K w := by
 refine A34 ?_
 unfold F34
 have hA := h.len
 refine Vh h λ r w1 hr e1 => ?_
 refine (St.start w).ext e1 |>.Ae λ b2 w2 S2 e2 => S2.Ad 0 rfl rfl rfl rfl λ w3 S3 u3 => ?_
 have S3 : St (λ _ => False) w w3 [(b2, rwO r)] := S3
 have hr := (hr.ext e2).box (S2.at_ 0 rfl) (by decide) u3
 have fw := hr.few
 refine (h.ext S3.upd).Cm7 λ w4 e4 => ?_
 have S4 := S3.ext e4
 have hr := hr.ext e4
 refine S4.ld (off := 1) 0 rfl (x := r.2.1) rfl ?_
 have ein : (if ((A.length : Nat) : Int) < (if (0 : Int) > x then (0 : Int) else x) then ((A.length : Nat) : Int) else (if (0 : Int) > x then (0 : Int) else x)) = (inT A x : Int) := by
  unfold inT
  split <;> split at * <;> omega
 rw [ein, hr.t]
 unfold Bj at hK
 refine Ac (λ hc => ?_) (λ hc => ?_)
 ·simp only [decide_eq_true_eq, ge_iff_le] at hc
  rw [if_pos (by omega)] at hK
  refine Ac (λ hp => ?_) (λ hp => ?_)
  ·subst hp
   rw [if_pos rfl] at hK
   refine S4.ld (off := 1) 0 rfl (x := r.2.1) rfl ?_
   rw [hr.t]; exact hK w4 S4.upd
  ·subst hp
   rw [if_neg (by decide)] at hK
   refine S4.drew λ w5 S5 e5 _ => S5.lds 0 r rfl (S5.lds 0 r rfl (Gp (hr.ext e5) λ w6 e6 => ?_))
   have S6 := S5.ext e6
   rw [wrap64 (by omega) (by omega)]
   exact S6.keeps 0 (x := r) rfl (Ef ((hr.ext e5).ext e6) λ w7 e7 => hK w7 (S6.ext e7).upd)
 ·simp only [decide_eq_false_iff_not, ge_iff_le] at hc
  rw [if_neg (by omega)] at hK
  refine S4.drew λ w5 S5 e5 _ => S5.lds 0 r rfl (S5.lds 0 r rfl (Yn (hr.ext e5) λ w6 e6 => ?_))
  have S6 := S5.ext e6
  exact S6.keeps 0 (x := r) rfl (Ef ((hr.ext e5).ext e6) λ w7 e7 => hK w7 (S6.ext e7).upd)
theorem Ah1 (h : TxA w p A) {line col : Int} {past : Bool} {K : Int -> Wp} (hK : ∀ w', Ext w w' -> K (Yj A line col past : Int) w') :
  Aa Tryz.prog 36 #[.pointer (some (at0 p)), .int .i64 line, .int .i64 col, .bool past] rI K w := by
 refine A36 ?_
 unfold F36
 have hA := h.len; have hb := Dh A; have hbl := Ku A
 refine h.count λ w0 e0 => ?_
 have ew : W64 ((lnN A : Int) - 1) = (lnN A : Int) - 1 := wrap64 (by omega) (by omega)
 rw [ew]
 have el : (if (lnN A : Int) - 1 < (if (0 : Int) > line then (0 : Int) else line) then (lnN A : Int) - 1 else (if (0 : Int) > line then (0 : Int) else line)) = (Dp A line : Int) := by
  unfold Dp
  split <;> split at * <;> omega
 rw [el]
 refine Md (h.ext e0) (Sv A line).2 λ r w1 hr e1 => ?_
 refine (St.start w).ext (e0.trans e1) |>.Ae λ b2 w2 S2 e2 => S2.Ad 0 rfl rfl rfl rfl λ w3 S3 u3 => ?_
 have S3 : St (λ _ => False) w w3 [(b2, rwO r)] := S3
 have hr := (hr.ext e2).box (S2.at_ 0 rfl) (by decide) u3
 have fw := hr.few
 unfold Yj at hK
 refine Af (λ y W => y = ((if ((Ai A (Dp A line)).length : Int) <= col /\ past = false then ((Ai A (Dp A line)).length : Int) - 1 else col), ()) /\ Ext w3 W) ?_ ?_
 ·refine S3.lds 0 r rfl (Gp hr λ w4 e4 => ?_)
  rw [wrap64 (by omega) (by omega)]
  refine Af (λ y W => y = (decide (((Ai A (Dp A line)).length : Int) <= col /\ past = false), ()) /\ w4 = W) ?_ ?_
  ·refine Ac (λ hc => ⟨Aw ?_, rfl⟩) (λ hc => ⟨Aw ?_, rfl⟩)
   ·simp only [decide_eq_true_eq, ge_iff_le] at hc
    cases past <;> simp [hc]
   ·simp only [decide_eq_false_iff_not, ge_iff_le] at hc
    simp [hc]
  rintro _ _ ⟨rfl, rfl⟩
  refine Ac (λ hc => ⟨?_, e4⟩) (λ hc => ⟨?_, e4⟩)
  ·rw [if_pos (of_decide_eq_true hc)]
  ·rw [if_neg (of_decide_eq_false hc)]
 rintro _ w4 ⟨rfl, e4⟩
 have S4 := S3.ext e4
 exact S4.lds 0 r rfl (Ef (hr.ext e4) λ w5 e5 => hK w5 (S4.ext e5).upd)
theorem Ah3 (h : TxA w p A) {x : Int} {K : Int -> Wp} (hK : ∀ w', Ext w w' -> K (H7 A x : Int) w') :
  Aa Tryz.prog 38 #[.pointer (some (at0 p)), .int .i64 x] rI K w := by
 refine A38 ?_
 unfold F38
 refine Vh h λ r w1 hr e1 => ?_
 refine (St.start w).ext e1 |>.Ae λ b2 w2 S2 e2 => S2.Ad 0 rfl rfl rfl rfl λ w3 S3 u3 => ?_
 have S3 : St (λ _ => False) w w3 [(b2, rwO r)] := S3
 have hr := (hr.ext e2).box (S2.at_ 0 rfl) (by decide) u3
 exact S3.lds 0 r rfl (Yn hr λ w4 e4 => hK w4 (S3.ext e4).upd)
end
end Go.Proofs.YtolhlldgnfbemaaGreatDoor
