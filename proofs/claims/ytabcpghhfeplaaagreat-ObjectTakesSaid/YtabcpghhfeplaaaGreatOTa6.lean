/- YtabcpghhfeplaaaGreatOTa6: parts of the proof, put together by program. -/
import Derived.Test.YtabcpghhfeplaaaGreatOTa5
set_option linter.unusedVariables false
set_option linter.unusedSimpArgs false
set_option linter.unusedSectionVars false
noncomputable section
set_option maxRecDepth 100000
namespace Go.Proofs.YtabcpghhfeplaaaGreat
open Trx Gly Clu Lns Obx
namespace Obx
def endP (L : List Nat) (i : Nat) : Nat := i + 1 + ((L.drop (i + 1)).takeWhile λ s => s == L.getD i 0).length
def Bc (L : List Nat) : Nat -> Nat
 | 0 => 0
 | i + 1 => if L.getD i 0 = L.getD (i + 1) 0 then Bc L i else i + 1
def Eu (L : List Nat) : Nat -> Nat -> Option Nat
 | _, 0 => none
 | j, 1 => if j < L.length then some (endP L j) else none
 | j, k + 2 => if j < L.length then Eu L (endP L j) (k + 1) else none
def Xd (L : List Nat) (i k : Nat) : Option (Nat × Nat) := (Eu L i k).map λ j => (Bc L i, j)
def Ik (L : List Nat) (j : Nat) : Nat := if j < L.length /\ L.getD j 0 = 0 then endP L j else j
def Dn (L : List Nat) : Nat -> Nat -> Option Nat
 | _, 0 => none
 | j, 1 => if Ik L j < L.length then some (endP L (Ik L j)) else none
 | j, k + 2 => if Ik L j < L.length then Dn L (endP L (Ik L j)) (k + 1) else none
def Rl (L : List Nat) (i k : Nat) : Option (Nat × Nat) := (Dn L i k).map λ j =>
 if L.getD i 0 = 0 then (Bc L i, j) else if j < L.length /\ L.getD j 0 = 0 then (Bc L i, endP L j)
 else if 0 < Bc L i /\ L.getD (Bc L i - 1) 0 = 0 then (Bc L (Bc L i - 1), j) else (Bc L i, j)
theorem Nk (L : List Nat) (i : Nat) : i < endP L i := by unfold endP; omega
theorem Qz {L : List Nat} {i : Nat} (h : i < L.length) : endP L i <= L.length := by
 unfold endP
 have := (List.takeWhile_sublist (λ s => s == L.getD i 0) (l := L.drop (i + 1))).length_le
 rw [List.length_drop] at this
 omega
theorem Ye {L : List Nat} {j s : Nat} (h : L[j]? = some s) : L.getD j 0 = s := by rw [List.getD_eq_getElem?_getD, h]; rfl
theorem Bl1 {α : Type} {p : α -> Bool} : ∀ {l : List α} {x : α}, x ∈ l.takeWhile p -> p x = true
 | [], _, h => by simp at h
 | y :: r, x, h => by
  rw [List.takeWhile_cons] at h
  split at h
  ·rename_i hy
   rcases List.mem_cons.1 h with rfl | h
   ·exact hy
   ·exact Bl1 h
  ·cases h
theorem Bi6 {L : List Nat} {i j : Nat} (h1 : i < j) (h2 : j < endP L i) (hj : j < L.length) : L.getD j 0 = L.getD i 0 := by
 unfold endP at h2
 have hlt : j - (i + 1) < ((L.drop (i + 1)).takeWhile λ s => s == L.getD i 0).length := by omega
 have hm := List.getElem_mem hlt
 have ht := Bl1 hm
 have hp : ((L.drop (i + 1)).takeWhile λ s => s == L.getD i 0) <+: L.drop (i + 1) := List.takeWhile_prefix _
 have he := hp.getElem hlt
 rw [he, List.getElem_drop] at ht
 have : i + 1 + (j - (i + 1)) = j := by omega
 simp only [this, beq_iff_eq] at ht
 rw [List.getD_eq_getElem?_getD, List.getElem?_eq_getElem hj]
 exact ht
theorem Bi5 {L : List Nat} {i : Nat} (h : endP L i < L.length) : L.getD (endP L i) 0 ≠ L.getD i 0 := by
 unfold endP at h ⊢
 generalize hn : ((L.drop (i + 1)).takeWhile λ s => s == L.getD i 0).length = n at *
 have hlt : n < (L.drop (i + 1)).length := by rw [List.length_drop]; omega
 have key : ∀ (p : Nat -> Bool) (l : List Nat) (h : (l.takeWhile p).length < l.length), p l[(l.takeWhile p).length] = false := by
  intro p l
  induction l with
  | nil => intro h; simp at h
  | cons x r ih =>
   intro h
   cases hx : p x with
   | false => simp [List.takeWhile_cons, hx]
   | true =>
    simp only [List.takeWhile_cons, hx, if_true, List.length_cons] at h ⊢
    simpa using ih (by omega)
 have := key (λ s => s == L.getD i 0) (L.drop (i + 1)) (by rw [hn]; exact hlt)
 simp only [hn, List.getElem_drop, beq_eq_false_iff_ne] at this
 rw [List.getD_eq_getElem?_getD, List.getElem?_eq_getElem (by omega)]
 exact this
theorem Bd2 {L : List Nat} {i e : Nat} (h1 : i < e) (h2 : e <= L.length) (hs : ∀ j, i < j -> j < e -> L.getD j 0 = L.getD i 0) (ht : e < L.length -> L.getD e 0 ≠ L.getD i 0) : endP L i = e := by
 have hle := Qz (L := L) (i := i) (by omega)
 have hgt := Nk L i
 rcases Nat.lt_trichotomy (endP L i) e with h | h | h
 ·exact absurd (hs _ hgt h) (Bi5 (by omega))
 ·exact h
 ·exact absurd (Bi6 h1 h (by omega)) (ht (by omega))
theorem Nq (L : List Nat) : ∀ i, Bc L i <= i
 | 0 => Nat.le_refl _
 | i + 1 => by rw [Bc]; have := Nq L i; split <;> omega
theorem L8 (L : List Nat) : ∀ i j, Bc L i <= j -> j <= i -> L.getD j 0 = L.getD i 0
 | 0, j, _, h => by rw [show j = 0 by omega]
 | i + 1, j, h1, h2 => by
  rw [Bc] at h1
  split at h1
  ·rename_i he
   by_cases hj : j = i + 1
   ·rw [hj]
   ·rw [L8 L i j h1 (by omega), he]
  ·have : j = i + 1 := by omega
   rw [this]
theorem L6 (L : List Nat) : ∀ i, 0 < Bc L i -> L.getD (Bc L i - 1) 0 ≠ L.getD (Bc L i) 0
 | 0, h => absurd h (Nat.lt_irrefl _)
 | i + 1, h => by
  rw [Bc] at h ⊢
  split
  ·rename_i he; rw [if_pos he] at h; exact L6 L i h
  ·rename_i he; rw [Nat.add_sub_cancel]; exact he
theorem Z8 {L : List Nat} : ∀ {k j t : Nat}, Eu L j k = some t -> j < t /\ t <= L.length
 | 0, _, _, h => by simp [Eu] at h
 | 1, j, t, h => by
  rw [Eu] at h
  split at h
  ·cases h; exact ⟨Nk L j, Qz ‹_›⟩
  ·cases h
 | k + 2, j, t, h => by
  rw [Eu] at h
  split at h
  ·have := Z8 h; have := Nk L j; omega
  ·cases h
theorem Y2 (L : List Nat) (j : Nat) : j <= Ik L j := by unfold Ik; split; exact Nat.le_of_lt (Nk L j); omega
theorem N7 {L : List Nat} : ∀ {k j t : Nat}, Dn L j k = some t -> j < t /\ t <= L.length
 | 0, _, _, h => by simp [Dn] at h
 | 1, j, t, h => by
  rw [Dn] at h
  split at h
  ·cases h; have := Y2 L j; have := Nk L (Ik L j); exact ⟨by omega, Qz ‹_›⟩
  ·cases h
 | k + 2, j, t, h => by
  rw [Dn] at h
  split at h
  ·have := N7 h; have := Y2 L j; have := Nk L (Ik L j); omega
  ·cases h
theorem Af4 {L : List Nat} {i k f t : Nat} (h : Xd L i k = some (f, t)) : f <= i /\ i < t /\ t <= L.length := by
 unfold Xd at h
 obtain ⟨j, hj, he⟩ := Option.map_eq_some_iff.1 h
 cases he
 have := Z8 hj; have := Nq L i; omega
theorem Ab1 {L : List Nat} {i k f t : Nat} (h : Rl L i k = some (f, t)) : f <= i /\ i < t /\ t <= L.length := by
 unfold Rl at h
 obtain ⟨j, hj, he⟩ := Option.map_eq_some_iff.1 h
 have := N7 hj; have := Nq L i
 split at he
 ·cases he; omega
 ·split at he
  ·cases he
   rename_i h2
   have := Nk L j; have := Qz h2.1; omega
  ·split at he
   ·cases he
    have := Nq L (Bc L i - 1); omega
   ·cases he; omega
def Ep (A : List Int) (at_ : Int) : Ln := (Eb A (nb A at_.toNat)).getD ⟨0, 0, 0, 0⟩
def Bv (A : List Int) (l : Ln) : List Cel := Bg ((A.drop l.from_).take (l.to_ - l.from_)) l.from_
def Jr (C : List Cel) (at_ : Int) : Nat := if Ef C at_ < C.length then Ef C at_ else C.length - 1
def Cc (C : List Cel) (big : Bool) : List Nat := C.map λ c => if big /\ c.kind ≠ 0 then 2 else c.kind
def Vm (out : Bool) (L : List Nat) (i k : Nat) : Option (Nat × Nat) := if out then Rl L i k else Xd L i k
def Lr (A : List Int) (at_ kind count : Int) : (Int × Int × Int) × Int :=
 if checked A.length at_ kind count 61 64 ≠ 0 then ((0, 0, 0), checked A.length at_ kind count 61 64) else
 let C := Bv A (Ep A at_)
 if C.length = 0 then ((0, 0, 0), 90) else
 match Vm (decide (kind = 62 \/ kind = 64)) (Cc C (decide (kind = 63 \/ kind = 64))) (Jr C at_) (times count) with
 | none => ((0, 0, 0), 90)
 | some (f, t) => ((((C[f]?.map (·.from_)).getD 0 : Nat), ((C[t - 1]?.map (·.to_)).getD 0 : Nat), 0), 0)
def Ij (q : Int) (i : Nat) : List Cel -> Nat -> Option Nat -> Nat -> Option (Nat × Nat)
 | [], _, _, _ => none
 | c :: r, j, o, s => let s' := if c.is 92 then s + 1 else 0
  if (c.is q && s % 2 == 0) = false then Ij q i r (j + 1) o s' else
  match o with
  | none => Ij q i r (j + 1) (some j) s'
  | some k => if i <= j then some (k, j) else Ij q i r (j + 1) none s'
def Bq (C : List Cel) (j : Nat) : Nat := j + ((C.drop j).takeWhile λ c => c.kind == 0).length
def Bh (C : List Cel) : Nat -> Nat
 | 0 => 0
 | j + 1 => if (C[j]?.map (·.kind)) = some 0 then Bh C j else j + 1
def Jo (A : List Int) (at_ kind count arg : Int) : (Int × Int × Int) × Int :=
 if checked A.length at_ kind count 65 66 = 1 \/ (arg ≠ 34 /\ arg ≠ 39 /\ arg ≠ 96) then ((0, 0, 0), 1) else
 if checked A.length at_ kind count 65 66 ≠ 0 then ((0, 0, 0), checked A.length at_ kind count 65 66) else
 let C := Bv A (Ep A at_)
 match Ij arg (Jr C at_) C 0 none 0 with
 | none => ((0, 0, 0), 90)
 | some (one, two) =>
  if kind = 65 /\ count < 2 then ((((C[one]?.map (·.to_)).getD 0 : Nat), ((C[two]?.map (·.from_)).getD 0 : Nat), 0), 0) else
  let t := if kind = 66 then Bq C (two + 1) else two + 1
  let f := if kind = 66 /\ t = two + 1 then Bh C one else one
  ((((C[f]?.map (·.from_)).getD 0 : Nat), ((C[t - 1]?.map (·.to_)).getD 0 : Nat), 0), 0)
def Ej (A : List Int) : List Ln := (List.range (lnN A)).map λ i => (Eb A i).getD ⟨0, 0, 0, 0⟩
def Nu (A : List Int) (l : Ln) : Nat := if (Bg ((A.drop l.from_).take (l.to_ - l.from_)) 0).any (λ c => c.kind != 0) then 1 else 0
def Bl (A : List Int) : List Nat := (Ej A).map (Nu A)
def Md (A : List Int) (at_ kind count : Int) : (Int × Int × Int) × Int :=
 if checked A.length at_ kind count 69 70 ≠ 0 then ((0, 0, 0), checked A.length at_ kind count 69 70) else
 if lnN A <= nb A at_.toNat then ((0, 0, 0), 90) else
 match Vm (decide (kind = 70)) (Bl A) (nb A at_.toNat) (times count) with
 | none => ((0, 0, 0), 90)
 | some (f, t) => (((((Ej A)[f]?.map (·.from_)).getD 0 : Nat), (((Ej A)[t - 1]?.map (·.next)).getD 0 : Nat), 1), 0)
def Px (A : List Int) (at_ kind count arg : Int) : (Int × Int × Int) × Int :=
 if kind <= 64 then Lr A at_ kind count else if kind <= 66 then Jo A at_ kind count arg else if kind <= 68 then La A at_ kind count arg else Md A at_ kind count
end Obx
namespace Obx
structure Good (A : List Int) (s : Int × Int × Int) : Prop where
 lo : 0 <= s.1
 le : s.1 <= s.2.1
 hi : s.2.1 <= A.length
 b1 : bk A s.1.toNat = true
 b2 : bk A s.2.1.toNat = true
structure LcOk (A : List Int) (l : Ln) (c : Cel) : Prop where
 lo : l.from_ <= c.from_
 lt : c.from_ < c.to_
 hi : c.to_ <= l.to_
 b1 : bk A c.from_ = true
 b2 : bk A c.to_ = true
theorem Bj3 {A : List Int} {off m n : Nat} {c d : Cel} (h : (Bg A off)[m]? = some c) (h' : (Bg A off)[n]? = some d) (hmn : m <= n) : c.from_ <= d.from_ /\ c.to_ <= d.to_ := by
 rcases Nat.lt_or_ge m n with hlt | hge
 ·have := Q8 hlt h h'; omega
 ·have : m = n := by omega
  subst this
  rw [h] at h'; cases h'
  exact ⟨Nat.le_refl _, Nat.le_refl _⟩
theorem Bo4 {A : List Int} {at_ : Int} (h0 : 0 <= at_) (h1 : at_ <= A.length) : Eb A (nb A at_.toNat) = some (Ep A at_) := by
 obtain ⟨l, hl, _⟩ := Y7 A (show at_.toNat <= A.length by omega)
 unfold Ep
 rw [hl]; rfl
theorem Ws (C : List Cel) (big : Bool) : (Cc C big).length = C.length := List.length_map _
end Obx
namespace Obx
theorem As0 {L : List Nat} {i b : Nat} (h1 : b <= i) (hs : ∀ j, b <= j -> j <= i -> L.getD j 0 = L.getD i 0) (ht : 0 < b -> L.getD (b - 1) 0 ≠ L.getD b 0) : Bc L i = b := by
 have hle := Nq L i
 rcases Nat.lt_trichotomy (Bc L i) b with h | h | h
 ·have := ht (by omega)
  rw [L8 L i (b - 1) (by omega) (by omega), hs b (Nat.le_refl _) h1] at this
  exact absurd rfl this
 ·exact h
 ·have := L6 L i (by omega)
  rw [hs _ (by omega) (by omega), hs _ (by omega) hle] at this
  exact absurd rfl this
end Obx
end Go.Proofs.YtabcpghhfeplaaaGreat
namespace Go.Proofs.YtabcpghhfeplaaaGreat
open Go Go.Vx Cdc Trx Gly Clu Lns Obx
section
variable {w w' : World} {S : Nat -> Prop} {p : Nat} {e : Enc} {lim na : Nat} {O : Nat -> Prop} {M : Parts}
theorem func_m {g : FuncId} {a : Value} {args : Array Value} {t : RTy} {K : t.T -> Wp} (hf : ((Tryz.prog.funcs[g]?).map λ fn => (fn.body.isNone, fn.name == "runtime.NumGoroutine")) = some (false, false)) (h : Ac Tryz.prog g (#[a] ++ args) t K w) :
  Bf Tryz.prog (do let d ← Deferred.ofValue (.func (.func g) #[a] #[]) args; invoke d.target d.args : Sem Next) t K w := by
 refine .inl ⟨g, #[a] ++ args, ?_, h⟩
 have := Fv (P := Tryz.prog) (f := g) (args := #[a] ++ args) hf w
 simp only [Deferred.ofValue, pure_bind, invoke]
 have e : (#[a] ++ args ++ #[] : Array Value) = #[a] ++ args := by simp
 first
  | exact this
  | (rw [e]; exact this)
def Uf (w : World) (f : Value) (L : List Nat) : Prop := ∀ (W : World) (i s : Nat) (K : Int -> Wp), Ext w W -> L[i]? = some s -> (∀ W', Ext W W' -> K (s : Int) W') ->
 Bf Tryz.prog (do let d ← Deferred.ofValue f #[.int .i64 (i : Int)]; invoke d.target d.args : Sem Next) (.one (.one (.int .i64))) K W
theorem Uf.ext {f : Value} {L : List Nat} (h : Uf w f L) (x : Ext w w') : Uf w' f L := λ W i s K e hs hK => h W i s K (x.trans e) hs hK
abbrev rowT (n : Nat) (f : Value) : Cells.T c89 := ((n : Int), f, ())
theorem Xe {L : List Nat} {j : Nat} (h : j < L.length) : L[j]? = some (L.getD j 0) := by rw [List.getD_eq_getElem?_getD, List.getElem?_eq_getElem h]; rfl
theorem Ur {L : List Nat} {f : Value} {i : Nat} (hf : Uf w f L) (h1 : Dx f = true) (hi : i < L.length) (hl : L.length < 2 ^ 60) {K : Int -> Wp} (hK : ∀ w', Ext w w' -> K ((endP L i : Nat) : Int) w') :
  Ac Tryz.prog 79 #[.agg (Cells.vals c89 (rowT L.length f)).toArray, .int .i64 (i : Int)] rI K w := by
 refine A79 (a0 := rowT L.length f) ?_
 unfold F79
 refine (St.start w).Af λ b w1 S1 e1 => ?_
 let Q : Obj := .cells #[.int .i64 ((L.length : Nat) : Int), f] 89 (0, 0)
 have S1 : St (λ _ => False) w w1 [(b, Q)] := S1
 have ew : W64 ((i : Int) + 1) = ((i + 1 : Nat) : Int) := by rw [wrap64 (by omega) (by omega)]; omega
 rw [ew]
 refine Ae (λ x W => x = (((endP L i : Nat) : Int), ()) /\ Ext w W) ?_ (λ x W h => by obtain ⟨rfl, h⟩ := h; exact hK W h)
 refine Am (λ x W => ∃ j : Nat, i < j /\ j <= L.length /\ x = ((j : Int), ()) /\ St (λ _ => False) w W [(b, Q)] /\ ∀ q, i < q -> q < j -> L.getD q 0 = L.getD i 0) (λ x _ => ((L.length : Int) - x.1).toNat) ⟨i + 1, by omega, by omega, rfl, S1, λ q h1 h2 => by omega⟩ ?_
 rintro _ W ⟨j, hij, hjl, rfl, SW, hs⟩
 refine Ae (λ x W' => x = (decide (j < L.length /\ L.getD j 0 = L.getD i 0), ()) /\ St (λ _ => False) w W' [(b, Q)]) ?_ ?_
 ·refine SW.drew λ w2 S2 e2 _ => S2.ld 0 rfl (x := ((L.length : Nat) : Int)) rfl (Aa (λ h => ?_) (λ h => ⟨Aj ?_, S2⟩))
  ·simp only [decide_eq_true_eq] at h
   refine S2.ld 0 rfl (c := .any) (x := f) rfl (S2.ld 0 rfl (c := .any) (x := f) rfl ?_)
   refine hf _ j _ _ S2.upd (Xe (by omega)) λ w3 e3 => (S2.ext e3).keep 0 rfl (v := f) rfl ?_
   refine hf _ i _ _ (S2.ext e3).upd (Xe hi) λ w4 e4 => ⟨Aj ?_, (S2.ext e3).ext e4⟩
   simp only [beq_iff_eq, decide_eq_true_eq]
   omega
  ·simp only [decide_eq_false_iff_not] at h
   simp only [Bool.false_eq_true, decide_eq_true_eq, false_iff]
   omega
 rintro _ w2 ⟨rfl, S2⟩
 refine Aa (λ h => ?_) (λ h => ?_)
 ·simp only [decide_eq_true_eq] at h
  have ew : W64 ((j : Int) + 1) = ((j + 1 : Nat) : Int) := by rw [wrap64 (by omega) (by omega)]; omega
  rw [ew]
  refine ⟨⟨j + 1, by omega, by omega, rfl, S2, λ q h1 h2 => ?_⟩, by omega⟩
  by_cases hq : q = j
  ·rw [hq]; exact h.2
  ·exact hs q h1 (by omega)
 ·simp only [decide_eq_false_iff_not] at h
  refine ⟨?_, S2.upd⟩
  rw [Bd2 hij hjl hs λ h2 h3 => h ⟨h2, h3⟩]
theorem Tc {L : List Nat} {f : Value} {i : Nat} (hf : Uf w f L) (h1 : Dx f = true) (hi : i < L.length) (hl : L.length < 2 ^ 60) {K : Int -> Wp} (hK : ∀ w', Ext w w' -> K ((Bc L i : Nat) : Int) w') {n : Nat} :
  Ac Tryz.prog 80 #[.agg (Cells.vals c89 (rowT n f)).toArray, .int .i64 (i : Int)] rI K w := by
 refine A80 (a0 := rowT n f) ?_
 unfold F80
 refine (St.start w).Af λ b w1 S1 e1 => ?_
 let Q : Obj := .cells #[.int .i64 (n : Int), f] 89 (0, 0)
 have S1 : St (λ _ => False) w w1 [(b, Q)] := S1
 refine Ae (λ x W => x = (((Bc L i : Nat) : Int), ()) /\ Ext w W) ?_ (λ x W h => by obtain ⟨rfl, h⟩ := h; exact hK W h)
 refine Am (λ x W => ∃ j : Nat, j <= i /\ x = ((j : Int), ()) /\ St (λ _ => False) w W [(b, Q)] /\ Bc L j = Bc L i) (λ x _ => x.1.toNat) ⟨i, Nat.le_refl _, rfl, S1, rfl⟩ ?_
 rintro _ W ⟨j, hji, rfl, SW, hb⟩
 refine Ae (λ x W' => x = (decide (0 < j /\ L.getD (j - 1) 0 = L.getD j 0), ()) /\ St (λ _ => False) w W' [(b, Q)]) ?_ ?_
 ·refine SW.drew λ w2 S2 e2 _ => Aa (λ h => ?_) (λ h => ⟨Aj ?_, S2⟩)
  ·simp only [decide_eq_true_eq, gt_iff_lt] at h
   have ew : W64 ((j : Int) - 1) = ((j - 1 : Nat) : Int) := by rw [wrap64 (by omega) (by omega)]; omega
   rw [ew]
   refine S2.ld 0 rfl (c := .any) (x := f) rfl (S2.ld 0 rfl (c := .any) (x := f) rfl ?_)
   refine hf _ (j - 1) _ _ S2.upd (Xe (by omega)) λ w3 e3 => (S2.ext e3).keep 0 rfl (v := f) rfl ?_
   refine hf _ j _ _ (S2.ext e3).upd (Xe (by omega)) λ w4 e4 => ⟨Aj ?_, (S2.ext e3).ext e4⟩
   simp only [beq_iff_eq, decide_eq_true_eq]
   omega
  ·simp only [decide_eq_false_iff_not, gt_iff_lt] at h
   simp only [Bool.false_eq_true, decide_eq_true_eq, false_iff]
   omega
 rintro _ w2 ⟨rfl, S2⟩
 refine Aa (λ h => ?_) (λ h => ?_)
 ·simp only [decide_eq_true_eq] at h
  have ew : W64 ((j : Int) - 1) = ((j - 1 : Nat) : Int) := by rw [wrap64 (by omega) (by omega)]; omega
  rw [ew]
  refine ⟨⟨j - 1, by omega, rfl, S2, ?_⟩, by dsimp only; omega⟩
  rw [← hb]
  obtain ⟨m, rfl⟩ : ∃ m, j = m + 1 := ⟨j - 1, by omega⟩
  rw [Nat.add_sub_cancel] at h ⊢
  rw [Bc, if_pos h.2]
 ·simp only [decide_eq_false_iff_not] at h
  refine ⟨?_, S2.upd⟩
  rw [← hb]
  cases j with
  | zero => rfl
  | succ m =>
   rw [Nat.add_sub_cancel] at h
   rw [Bc, if_neg λ hc => h ⟨by omega, hc⟩]
theorem Ak0 (L : List Nat) (j m : Nat) : Eu L j (m + 1) = if j < L.length then (if m = 0 then some (endP L j) else Eu L (endP L j) m) else none := by
 cases m with
 | zero => simp [Eu]
 | succ m => rw [Eu]; simp
theorem Ac5 (L : List Nat) (j m : Nat) : Dn L j (m + 1) = if Ik L j < L.length then (if m = 0 then some (endP L (Ik L j)) else Dn L (endP L (Ik L j)) m) else none := by
 cases m with
 | zero => simp [Dn]
 | succ m => rw [Dn]; simp
def Xt (r : Option (Nat × Nat)) : Int × Int × Bool × Unit := match r with
 | some (f, t) => ((f : Int), (t : Int), true, ())
 | none => (0, 0, false, ())
theorem Z7 {L : List Nat} {f : Value} {i k : Nat} (hf : Uf w f L) (h1 : Dx f = true) (hi : i < L.length) (hl : L.length < 2 ^ 60) (hk1 : 1 <= k) (hk : (k : Int) < 2 ^ 63) {K : Int × Int × Bool × Unit -> Wp} (hK : ∀ w', Ext w w' -> K (Xt (Xd L i k)) w') :
  Ac Tryz.prog 53 #[.agg (Cells.vals c89 (rowT L.length f)).toArray, .int .i64 (i : Int), .int .i64 (k : Int)] (.tup [(.one (.int .i64)), (.one (.int .i64)), (.one .bool)]) K w := by
 refine A53 (a0 := rowT L.length f) ?_
 unfold F53
 unfold Xd at hK
 refine (St.start w).Af λ b w1 S1 e1 => ?_
 let Q : Obj := .cells #[.int .i64 ((L.length : Nat) : Int), f] 89 (0, 0)
 have S1 : St (λ _ => False) w w1 [(b, Q)] := S1
 refine Ae (λ x W => ∃ j : Nat, Eu L i k = some j /\ x = ((j : Int), ()) /\ St (λ _ => False) w W [(b, Q)]) ?_ ?_
 ·refine Am (λ x W => ∃ j q : Nat, q <= k /\ x = ((j : Int), (q : Int), ()) /\ St (λ _ => False) w W [(b, Q)] /\ j <= L.length /\ (q < k -> Eu L i k = Eu L j (k - q)) /\ (q = k -> Eu L i k = some j)) (λ x _ => ((L.length : Int) - x.1).toNat) ⟨i, 0, Nat.zero_le _, rfl, S1, by omega, λ _ => rfl, λ h => by omega⟩ ?_
  rintro _ W ⟨j, q, hq, rfl, SW, hj, hlt, heq⟩
  refine Aa (λ hc => ?_) (λ hc => ?_)
  ·simp only [decide_eq_true_eq] at hc
   have hg := hlt (by omega)
   obtain ⟨m, hm⟩ : ∃ m, k - q = m + 1 := ⟨k - q - 1, by omega⟩
   rw [hm, Ak0] at hg
   refine SW.ld 0 rfl (x := ((L.length : Nat) : Int)) rfl (Aa (λ hn => ?_) (λ hn => ?_))
   ·simp only [decide_eq_true_eq, ge_iff_le] at hn
    rw [if_neg (by omega)] at hg
    have := hK W SW.upd
    rw [hg] at this
    exact this
   ·simp only [decide_eq_false_iff_not, ge_iff_le] at hn
    rw [if_pos (by omega)] at hg
    refine SW.lds 0 (rowT L.length f) rfl (Ur (hf.ext SW.upd) h1 (by omega) hl λ w2 e2 => ?_)
    have ew : W64 ((q : Int) + 1) = ((q + 1 : Nat) : Int) := by rw [wrap64 (by omega) (by omega)]; omega
    rw [ew]
    have hgt := Nk L j
    have hle := Qz (L := L) (i := j) (by omega)
    refine ⟨⟨endP L j, q + 1, by omega, rfl, SW.ext e2, hle, λ h => ?_, λ h => ?_⟩, by dsimp only; omega⟩
    ·rw [if_neg (by omega)] at hg
     rw [hg]; congr 1; omega
    ·rw [if_pos (by omega)] at hg
     exact hg
  ·simp only [decide_eq_false_iff_not] at hc
   exact ⟨j, heq (by omega), rfl, SW⟩
 ·rintro _ W ⟨j, hj, rfl, SW⟩
  refine SW.lds 0 (rowT L.length f) rfl (Tc (hf.ext SW.upd) h1 hi hl λ w2 e2 => ?_)
  have := hK w2 (SW.ext e2).upd
  rw [hj] at this
  exact this
theorem L9 {L : List Nat} {f : Value} {i k : Nat} (hf : Uf w f L) (h1 : Dx f = true) (hi : i < L.length) (hl : L.length < 2 ^ 60) (hk1 : 1 <= k) (hk : (k : Int) < 2 ^ 63) {K : Int × Int × Bool × Unit -> Wp} (hK : ∀ w', Ext w w' -> K (Xt (Rl L i k)) w') :
  Ac Tryz.prog 54 #[.agg (Cells.vals c89 (rowT L.length f)).toArray, .int .i64 (i : Int), .int .i64 (k : Int)] (.tup [(.one (.int .i64)), (.one (.int .i64)), (.one .bool)]) K w := by
 refine A54 (a0 := rowT L.length f) ?_
 unfold F54
 unfold Rl at hK
 refine (St.start w).Af λ b w1 S1 e1 => ?_
 let Q : Obj := .cells #[.int .i64 ((L.length : Nat) : Int), f] 89 (0, 0)
 have S1 : St (λ _ => False) w w1 [(b, Q)] := S1
 refine S1.ld 0 rfl (c := .any) (x := f) rfl (hf _ i _ _ S1.upd (Xe hi) λ w2 e2 => ?_)
 have S2 := S1.ext e2
 refine S2.lds 0 (rowT L.length f) rfl (Tc (hf.ext S2.upd) h1 hi hl λ w3 e3 => ?_)
 have S3 := S2.ext e3
 have hbl := Nq L i
 have plain : ∀ {W : World} {j : Nat} {J : Bool × Unit -> Wp}, St (λ _ => False) w W [(b, Q)] -> (∀ W', St (λ _ => False) w W' [(b, Q)] -> J (decide (j < L.length /\ L.getD j 0 = 0), ()) W') ->
   ld (.int .i64) (at0 b) (λ x14 => sif (decide ((j : Int) < x14)) (ld .any (⟨b, 1, none⟩ : Addr) λ x15 => Bf Tryz.prog (do let d ← Deferred.ofValue x15 #[.int .i64 (j : Int)]; invoke d.target d.args : Sem Next) (.one (.one (.int .i64))) λ x16 => J ((x16 == (0 : Int)), ())) (J (false, ()))) W := by
  intro W j J SW hJ
  refine SW.ld 0 rfl (x := ((L.length : Nat) : Int)) rfl (Aa (λ h => ?_) (λ h => ?_))
  ·simp only [decide_eq_true_eq] at h
   refine SW.ld 0 rfl (c := .any) (x := f) rfl (hf _ j _ _ SW.upd (Xe (by omega)) λ w4 e4 => ?_)
   have := hJ w4 (SW.ext e4)
   have e : (((L.getD j 0 : Nat) : Int) == 0) = decide (j < L.length /\ L.getD j 0 = 0) := by rw [Bool.eq_iff_iff, beq_iff_eq, decide_eq_true_eq]; omega
   show J ((((L.getD j 0 : Nat) : Int) == 0), ()) w4
   rw [e]; exact this
  ·simp only [decide_eq_false_iff_not] at h
   have := hJ W SW
   rw [decide_eq_false (by omega)] at this
   exact this
 refine Ae (λ x W => ∃ j : Nat, Dn L i k = some j /\ j <= L.length /\ x = ((j : Int), ()) /\ St (λ _ => False) w W [(b, Q)]) ?_ ?_
 ·refine Am (λ x W => ∃ j q : Nat, q <= k /\ x = ((j : Int), (q : Int), ()) /\ St (λ _ => False) w W [(b, Q)] /\ j <= L.length /\ (q < k -> Dn L i k = Dn L j (k - q)) /\ (q = k -> Dn L i k = some j)) (λ x _ => ((L.length : Int) - x.1).toNat) ⟨i, 0, Nat.zero_le _, rfl, S3, by omega, λ _ => rfl, λ h => by omega⟩ ?_
  rintro _ W ⟨j, q, hq, rfl, SW, hj, hlt, heq⟩
  refine Aa (λ hc => ?_) (λ hc => ?_)
  ·simp only [decide_eq_true_eq] at hc
   have hg := hlt (by omega)
   obtain ⟨m, hm⟩ : ∃ m, k - q = m + 1 := ⟨k - q - 1, by omega⟩
   rw [hm, Ac5] at hg
   have hov := Y2 L j
   have hol : Ik L j <= L.length := by
    unfold Ik
    split
    ·exact Qz (by omega)
    ·exact hj
   refine Ae (λ x W' => x = (((Ik L j : Nat) : Int), ()) /\ St (λ _ => False) w W' [(b, Q)]) ?_ ?_
   ·refine Ae (λ x W' => x = (decide (j < L.length /\ L.getD j 0 = 0), ()) /\ St (λ _ => False) w W' [(b, Q)]) ?_ ?_
    ·exact plain (j := j) (J := λ x W' => x = (decide (j < L.length /\ L.getD j 0 = 0), ()) /\ St (λ _ => False) w W' [(b, Q)]) SW λ W' SW' => ⟨rfl, SW'⟩
    rintro _ W1 ⟨rfl, SW1⟩
    refine Aa (λ h => ?_) (λ h => ?_)
    ·simp only [decide_eq_true_eq] at h
     refine SW1.lds 0 (rowT L.length f) rfl (Ur (hf.ext SW1.upd) h1 h.1 hl λ w5 e5 => ⟨?_, SW1.ext e5⟩)
     unfold Ik; rw [if_pos h]
    ·simp only [decide_eq_false_iff_not] at h
     refine ⟨?_, SW1⟩
     unfold Ik; rw [if_neg h]
   rintro _ W1 ⟨rfl, SW1⟩
   generalize Ik L j = jo at *
   refine SW1.ld 0 rfl (x := ((L.length : Nat) : Int)) rfl (Aa (λ hn => ?_) (λ hn => ?_))
   ·simp only [decide_eq_true_eq, ge_iff_le] at hn
    rw [if_neg (by omega)] at hg
    have := hK W1 SW1.upd
    rw [hg] at this
    exact this
   ·simp only [decide_eq_false_iff_not, ge_iff_le] at hn
    rw [if_pos (by omega)] at hg
    refine SW1.lds 0 (rowT L.length f) rfl (Ur (hf.ext SW1.upd) h1 (by omega) hl λ w2 e2 => ?_)
    have ew : W64 ((q : Int) + 1) = ((q + 1 : Nat) : Int) := by rw [wrap64 (by omega) (by omega)]; omega
    rw [ew]
    have hgt := Nk L jo
    have hle := Qz (L := L) (i := jo) (by omega)
    refine ⟨⟨endP L jo, q + 1, by omega, rfl, SW1.ext e2, hle, λ h => ?_, λ h => ?_⟩, by dsimp only; omega⟩
    ·rw [if_neg (by omega)] at hg
     rw [hg]; congr 1; omega
    ·rw [if_pos (by omega)] at hg
     exact hg
  ·simp only [decide_eq_false_iff_not] at hc
   exact ⟨j, heq (by omega), hj, rfl, SW⟩
 ·rintro _ W ⟨j, hj, hjl, rfl, SW⟩
  have hK' : ∀ w', Ext w w' -> K (Xt (some (if L.getD i 0 = 0 then (Bc L i, j) else if j < L.length /\ L.getD j 0 = 0 then (Bc L i, endP L j)
   else if 0 < Bc L i /\ L.getD (Bc L i - 1) 0 = 0 then (Bc L (Bc L i - 1), j) else (Bc L i, j)))) w' := λ w' x => by
   have := hK w' x
   rw [hj] at this
   exact this
  refine Ae (λ x W' => ∃ f' t', x = (((f' : Nat) : Int), ((t' : Nat) : Int), ()) /\ St (λ _ => False) w W' [(b, Q)] /\ (if L.getD i 0 = 0 then (Bc L i, j) else if j < L.length /\ L.getD j 0 = 0 then (Bc L i, endP L j)
   else if 0 < Bc L i /\ L.getD (Bc L i - 1) 0 = 0 then (Bc L (Bc L i - 1), j) else (Bc L i, j)) = (f', t')) ?_ ?_
  ·refine Aa (λ h => ?_) (λ h => ?_)
   ·have h : (((L.getD i 0 : Nat) : Int) == 0) = true := h
    simp only [beq_iff_eq] at h
    exact ⟨Bc L i, j, rfl, SW, by rw [if_pos (by omega)]⟩
   have h : (((L.getD i 0 : Nat) : Int) == 0) = false := h
   simp only [beq_eq_false_iff_ne, ne_eq] at h
   rw [if_neg (by omega)]
   refine Ae (λ x W' => x = (decide (j < L.length /\ L.getD j 0 = 0), ()) /\ St (λ _ => False) w W' [(b, Q)]) ?_ ?_
   ·exact plain (j := j) (J := λ x W' => x = (decide (j < L.length /\ L.getD j 0 = 0), ()) /\ St (λ _ => False) w W' [(b, Q)]) SW λ W' SW' => ⟨rfl, SW'⟩
   rintro _ W1 ⟨rfl, SW1⟩
   refine Aa (λ h2 => ?_) (λ h2 => ?_)
   ·simp only [decide_eq_true_eq] at h2
    refine SW1.lds 0 (rowT L.length f) rfl (Ur (hf.ext SW1.upd) h1 h2.1 hl λ w5 e5 => ⟨Bc L i, endP L j, rfl, SW1.ext e5, by rw [if_pos h2]⟩)
   simp only [decide_eq_false_iff_not] at h2
   rw [if_neg h2]
   refine Ae (λ x W' => x = (decide (0 < Bc L i /\ L.getD (Bc L i - 1) 0 = 0), ()) /\ St (λ _ => False) w W' [(b, Q)]) ?_ ?_
   ·refine Aa (λ h3 => ?_) (λ h3 => ⟨Aj ?_, SW1⟩)
    ·simp only [decide_eq_true_eq, gt_iff_lt] at h3
     have ew : W64 (((Bc L i : Nat) : Int) - 1) = ((Bc L i - 1 : Nat) : Int) := by rw [wrap64 (by omega) (by omega)]; omega
     rw [ew]
     refine SW1.ld 0 rfl (c := .any) (x := f) rfl (hf _ (Bc L i - 1) _ _ SW1.upd (Xe (by omega)) λ w5 e5 => ⟨Aj ?_, SW1.ext e5⟩)
     simp only [beq_iff_eq, decide_eq_true_eq]; omega
    ·simp only [decide_eq_false_iff_not, gt_iff_lt] at h3
     simp only [Bool.false_eq_true, decide_eq_true_eq, false_iff]; omega
   rintro _ W2 ⟨rfl, SW2⟩
   refine Aa (λ h3 => ?_) (λ h3 => ?_)
   ·simp only [decide_eq_true_eq] at h3
    have ew : W64 (((Bc L i : Nat) : Int) - 1) = ((Bc L i - 1 : Nat) : Int) := by rw [wrap64 (by omega) (by omega)]; omega
    rw [ew]
    refine SW2.lds 0 (rowT L.length f) rfl (Tc (hf.ext SW2.upd) h1 (by omega) hl λ w6 e6 => ⟨Bc L (Bc L i - 1), j, rfl, SW2.ext e6, by rw [if_pos h3]⟩)
   ·simp only [decide_eq_false_iff_not] at h3
    exact ⟨Bc L i, j, rfl, SW2, by rw [if_neg h3]⟩
  ·rintro _ W1 ⟨f', t', rfl, SW1, he⟩
   have := hK' W1 SW1.upd
   rw [he] at this
   exact this
end
section
variable {w w' : World} {S : Nat -> Prop} {p : Nat} {e : Enc} {lim na : Nat} {O : Nat -> Prop} {M : Parts}
theorem Xy (A : List Int) {at_ : Nat} (h : at_ <= A.length) : Eb A (nb A at_) = some (Ep A (at_ : Int)) /\ Bw7 A (nb A at_) (Ep A (at_ : Int)) := by
 obtain ⟨l, hl, _⟩ := Y7 A h
 have e : Ep A (at_ : Int) = l := by unfold Ep; rw [Int.toNat_natCast, hl]; rfl
 rw [e]
 exact ⟨hl, Oo hl⟩
theorem Ba7 (A : List Int) (i j : Nat) : sub A (i : Int) (j : Int) = (A.drop i).take (j - i) := by unfold sub; simp
def Bd0 (C : List Cel) (at_ : Int) : Int := if C.length = 0 then -1 else ((Jr C at_ : Nat) : Int)
theorem Af5 {at_ : Nat} (h : Txt w p e lim na O M) (hat : at_ <= (atoms (aOf e M)).length) {K : Sl × Int × Unit -> Wp}
  (hK : ∀ s w', Jj w' s (Bv (atoms (aOf e M)) (Ep (atoms (aOf e M)) at_)) -> Ext w w' -> K (s, Bd0 (Bv (atoms (aOf e M)) (Ep (atoms (aOf e M)) at_)) at_, ()) w') :
  Ac Tryz.prog 51 #[.pointer (some (at0 p)), .int .i64 (at_ : Int)] (.tup [(.one .sl), (.one (.int .i64))]) K w := by
 refine A51 ?_
 unfold F51
 have few := h.few; have lims := h.lims
 have hal := hal e M
 refine Zh h hat λ w1 e1 => ?_
 generalize hA : atoms (aOf e M) = A at *
 have hlp : (Eb A (nb A at_)).getD ⟨0, 0, 0, 0⟩ = Ep A (at_ : Int) := by unfold Ep; rw [Int.toNat_natCast]
 rw [hlp]
 obtain ⟨_, hok⟩ := Xy A hat
 have ft := hok.ft; have tn := hok.tn; have nl := hok.nl
 generalize Ep A (at_ : Int) = l at *
 refine (St.start w1).Af λ b3 w2 S2 e2 => S2.Ad 0 rfl rfl rfl rfl λ w3 S3 u3 => S3.drew λ w4 S4 e4 _ => ?_
 refine S4.ld 0 rfl (x := (l.from_ : Int)) rfl (S4.ld 0 rfl (x := (l.to_ : Int)) rfl (S4.ld 0 rfl (x := (l.from_ : Int)) rfl ?_))
 refine Jf (h.ext (e1.trans S4.upd)) λ s w5 o5 e5 => ?_
 rw [hA, Ba7] at o5
 have S5 := S4.ext e5
 refine S5.keep 0 rfl (v := .int .i64 (l.from_ : Int)) rfl ?_
 refine Rh o5.in (by rw [List.length_take, List.length_drop]; omega) (by omega) λ s2 w6 o6 e6 _ => ?_
 have x6 : Ext w w6 := e1.trans (S5.ext e6).upd
 have hcl := Gx ((A.drop l.from_).take (l.to_ - l.from_)) l.from_
 rw [List.length_take, List.length_drop] at hcl
 change Jj w6 s2 (Bv A l) at o6
 have hCl : (Bv A l).length <= A.length := by show (Bg _ _).length <= _; omega
 generalize Bv A l = C at *
 have hlen := o6.Aj7
 unfold Bd0 Jr at hK
 refine Ae (λ _ W => Ext w6 W /\ Ef C at_ = C.length) ?_ ?_
 ·refine Am (λ x W => ∃ i : Nat, i <= C.length /\ x = ((i : Int), ()) /\ Ext w6 W /\ ∀ (j : Nat) (c : Cel), j < i -> C[j]? = some c -> (c.to_ : Int) <= at_) (λ x _ => ((C.length : Int) - x.1).toNat) ⟨0, Nat.zero_le _, rfl, Ext.refl _, λ j c hj => absurd hj (Nat.not_lt_zero _)⟩ ?_
  rintro _ W ⟨i, hi, rfl, eW, hlo⟩
  refine Aa (λ hc => ?_) (λ hc => ?_)
  ·simp only [decide_eq_true_eq] at hc
   obtain ⟨c, hc'⟩ : ∃ c, C[i]? = some c := ⟨_, List.getElem?_eq_getElem (by omega)⟩
   refine Qw (o6.ext eW) hc' λ q => (St.start W).Af λ b w7 S7 e7 => S7.Ad 0 rfl rfl rfl rfl λ w8 S8 u8 => S8.ld 0 rfl (x := (c.to_ : Int)) rfl (Aa (λ hg => ?_) (λ hg => ?_))
   ·simp only [decide_eq_true_eq] at hg
    have hf : Ef C at_ = i := Uz hi hlo λ d hd => by rw [hc'] at hd; cases hd; exact hg
    have := hK s2 w8 (o6.ext (eW.trans S8.upd)) (x6.trans (eW.trans S8.upd))
    rw [if_neg (by omega), hf, if_pos (by omega)] at this
    exact this
   ·simp only [decide_eq_false_iff_not] at hg
    have ew : W64 ((i : Int) + 1) = ((i + 1 : Nat) : Int) := by rw [wrap64 (by omega) (by omega)]; omega
    rw [ew]
    refine ⟨⟨i + 1, by omega, rfl, eW.trans S8.upd, λ j d hj hd => ?_⟩, by omega⟩
    by_cases hji : j = i
    ·subst hji; rw [hc'] at hd; cases hd; omega
    ·exact hlo j d (by omega) hd
  ·simp only [decide_eq_false_iff_not] at hc
   have : i = C.length := by omega
   refine ⟨eW, ?_⟩
   rw [Uz hi hlo λ d hd => by rw [this, List.getElem?_eq_none (Nat.le_refl _)] at hd; cases hd]
   exact this
 ·rintro _ W ⟨eW, hf⟩
  have := hK s2 W (o6.ext eW) (x6.trans eW)
  rw [hf, if_neg (Nat.lt_irrefl _)] at this
  have ew : W64 (((s2.len : Nat) : Int) - 1) = (if C.length = 0 then -1 else ((C.length - 1 : Nat) : Int)) := by rw [wrap64 (by omega) (by omega)]; split <;> omega
  rw [ew]; exact this
theorem Bf2 (C : List Cel) (big : Bool) : (Cc C big).length = C.length := List.length_map _
theorem Am3 {C : List Cel} {big : Bool} {s : Sl} {b7 b : Nat} (hC : Jj w s C) (h7 : w.heap[b7]? = some (.cells #[.slice s.a s.len s.cap] 68 (0, 0))) (hb : w.heap[b]? = some (.cells #[.bool big] 4 (0, 0))) :
  Uf w (.func (.func 52) #[] #[.pointer (some (at0 b)), .pointer (some (at0 b7))]) (Cc C big) := by
 intro W i so K e hs hK
 unfold Cc at hs
 rw [List.getElem?_map] at hs
 obtain ⟨c, hc, hso⟩ := Option.map_eq_some_iff.1 hs
 refine func_x (caps := #[.pointer (some (at0 b)), .pointer (some (at0 b7))]) (by kernel_rfl) ?_
 refine A52 ?_
 unfold F52
 refine Ae (λ x W' => x = (decide (big = true /\ c.kind ≠ 0), ()) /\ W = W') ?_ ?_
 ·refine Dt (e.ext_get hb) (x := big) rfl (Aa (λ h => Dt (e.ext_get h7) (x := s) rfl (Ou (k := .int .i64) (hC.ext e) hc (y := (c.kind : Int)) rfl λ q => ⟨Aj ?_, rfl⟩)) (λ h => ⟨Aj ?_, rfl⟩))
  ·simp only [bne_iff_ne, ne_eq, decide_eq_true_eq, h, true_and]; omega
  ·simp [h]
 rintro _ _ ⟨rfl, rfl⟩
 refine Aa (λ h => ?_) (λ h => ?_)
 ·simp only [decide_eq_true_eq] at h
  rw [if_pos h] at hso
  subst hso
  exact hK W (Ext.refl W)
 ·simp only [decide_eq_false_iff_not] at h
  rw [if_neg h] at hso
  subst hso
  exact Dt (e.ext_get h7) (x := s) rfl (Ou (k := .int .i64) (hC.ext e) hc (y := (c.kind : Int)) rfl λ q => hK W (Ext.refl W))
theorem Pq (count : Int) : 1 <= times count := by unfold times; omega
theorem Sm {count : Int} (h : count < 2 ^ 63) : ((times count : Nat) : Int) < 2 ^ 63 := by unfold times; omega
theorem At6 {at_ kind count arg : Int} (h : Txt w p e lim na O M) (hcn : count < 2 ^ 63) {K : Cells.T c34 × Int × Unit -> Wp} (hK : ∀ w', Ext w w' -> K (spT (Lr (atoms (aOf e M)) at_ kind count).1, (Lr (atoms (aOf e M)) at_ kind count).2, ()) w') :
  Ac Tryz.prog 29 #[.pointer (some (at0 p)), .int .i64 at_, .agg (Cells.vals c39 (mvT kind count arg)).toArray] (.tup [(.agg c34), (.one (.int .i64))]) K w := by
 refine A29 (a2 := mvT kind count arg) ?_
 unfold F29
 have few := h.few; have lims := h.lims
 have hal := hal e M
 have here := λ (w0 : World) (h0 : Txt w0 p e lim na O M) (a : Nat) (ha : a <= (atoms (aOf e M)).length) => @Af5 w0 p e lim na O M a h0 ha
 generalize hA : atoms (aOf e M) = A at *
 unfold Lr at hK
 rw [hal] at hK
 let Mv : Obj := .cells (Cells.vals c39 (mvT kind count arg)).toArray 39 (0, 0)
 let Z : Obj := .cells #[.int .i64 0, .int .i64 0, .int .i64 0] 34 (0, 0)
 refine (St.start w).Af λ b1 w1 S1 e1 => S1.Af λ b2 w2 S2 e2 => ?_
 have S2 : St (λ _ => False) w w2 [(b2, Z), (b1, Mv)] := S2
 refine S2.lds 1 (mvT kind count arg) rfl (Nl (h.ext S2.upd) λ w3 e3 => ?_)
 have S3 := S2.ext e3
 generalize hck : checked (aOf e M).length at_ kind count 61 64 = ck at *
 refine Aa (λ h0 => ?_) (λ h0 => ?_)
 ·simp only [bne_iff_ne, ne_eq] at h0
  rw [if_pos h0] at hK
  exact S3.Ad 0 rfl rfl rfl rfl λ w4 S4 _ => S4.lds 0 (spT (0, 0, 0)) rfl (hK w4 S4.upd)
 simp only [bne_eq_false_iff_eq] at h0
 rw [if_neg (by rw [h0]; decide)] at hK
 have hat : 0 <= at_ /\ at_ <= ((aOf e M).length : Int) := by
  unfold checked at hck
  split at hck
  ·omega
  ·split at hck <;> omega
 obtain ⟨a, rfl⟩ : ∃ a : Nat, at_ = (a : Int) := ⟨at_.toNat, by omega⟩
 refine here w3 (h.ext S3.upd) a (by omega) λ s w4 hC e4 => ?_
 have S4 := S3.ext e4
 dsimp only at hK
 have hCle : (Bv A (Ep A (a : Int))).length <= A.length := by
  have := Gx ((A.drop (Ep A (a : Int)).from_).take ((Ep A (a : Int)).to_ - (Ep A (a : Int)).from_)) (Ep A (a : Int)).from_
  rw [List.length_take, List.length_drop] at this
  show (Bg _ _).length <= _
  omega
 generalize Bv A (Ep A (a : Int)) = C at *
 refine S4.Af λ b7 w5 S5 e5 => S5.stC 0 rfl Nat.one_pos λ w6 S6 u6 => ?_
 let B7 : Obj := .cells #[.slice s.a s.len s.cap] 68 (0, 0)
 have S6 : St (λ _ => False) w w6 [(b7, B7), (b2, Z), (b1, Mv)] := S6
 have hC6 : Jj w6 s C := Aq.box (hC.ext e5) (S5.at_ 0 rfl) (by decide) u6
 unfold Bd0
 dsimp only
 by_cases hz : C.length = 0
 ·rw [if_pos hz] at hK
  rw [if_pos hz]
  refine Aa (λ _ => S6.Ad 1 rfl rfl rfl rfl λ w7 S7 _ => S7.lds 1 (spT (0, 0, 0)) rfl (hK w7 S7.upd)) (λ h => by simp at h)
 rw [if_neg hz] at hK
 rw [if_neg hz]
 have hh : Jr C (a : Int) < C.length := by unfold Jr; split <;> omega
 generalize Jr C (a : Int) = i at *
 refine Aa (λ h => absurd (of_decide_eq_true h) (by omega)) (λ _ => ?_)
 refine Ae (λ x W => ∃ b, x = (at0 b, ()) /\ St (λ _ => False) w W [(b, .cells #[.bool (decide (kind = 63 \/ kind = 64))] 4 (0, 0)), (b7, B7), (b2, Z), (b1, Mv)] /\ Ext w6 W) ?_ ?_
 ·refine S6.ld 2 rfl (x := kind) rfl (Aa (λ h => ?_) (λ h => ?_))
  ·simp only [beq_iff_eq] at h
   refine S6.Rt λ b w7 S7 e7 hb => S7.stC 0 rfl Nat.one_pos λ w8 S8 u8 => ⟨b, rfl, ?_, e7.step u8 λ k hk => by omega⟩
   rw [decide_eq_true (.inl h)]; exact S8
  ·simp only [beq_eq_false_iff_ne, ne_eq] at h
   refine S6.ld 2 rfl (x := kind) rfl (S6.Rt λ b w7 S7 e7 hb => S7.stC 0 rfl Nat.one_pos λ w8 S8 u8 => ⟨b, rfl, ?_, e7.step u8 λ k hk => by omega⟩)
   have e : (kind == 64) = decide (kind = 63 \/ kind = 64) := by rw [Bool.eq_iff_iff, beq_iff_eq, decide_eq_true_eq]; omega
   rw [← e]; exact S8
 rintro _ w7 ⟨b, rfl, S7, e7⟩
 generalize decide (kind = 63 \/ kind = 64) = big at *
 have hC7 := hC6.ext e7
 have hlen := Jj.Aj7 hC7
 have hsl := Bf2 C big
 refine S7.ld 1 rfl (x := s) rfl (S7.Af λ b16 w8 S8 e8 => S8.Ad 0 rfl rfl rfl rfl λ w9 S9 u9 => ?_)
 have hC9 : Jj w9 s C := Aq.box (hC7.ext e8) (S8.at_ 0 rfl) (by decide) u9
 rw [← hlen, ← hsl] at S9
 have hf : Uf w9 (.func (.func 52) #[] #[.pointer (some (at0 b)), .pointer (some (at0 b7))]) (Cc C big) := Am3 hC9 (S9.at_ 2 rfl) (S9.at_ 1 rfl)
 let F : Value := .func (.func 52) #[] #[.pointer (some (at0 b)), .pointer (some (at0 b7))]
 refine S9.lds 0 (rowT (Cc C big).length F) rfl ?_
 let R : Value := .agg (Cells.vals c89 (rowT (Cc C big).length F)).toArray
 refine Ae (λ x W => x = ((if kind = 62 \/ kind = 64 then (.func (.func 54) #[R] #[] : Value) else .func (.func 53) #[R] #[]), ()) /\ w9 = W) ?_ ?_
 ·refine Ae (λ x W => x = (decide (kind = 62 \/ kind = 64), ()) /\ w9 = W) ?_ ?_
  ·refine S9.ld 4 rfl (x := kind) rfl (Aa (λ h => ⟨Aj ?_, rfl⟩) (λ h => S9.ld 4 rfl (x := kind) rfl ⟨Aj ?_, rfl⟩))
   all_goals simp only [beq_iff_eq, beq_eq_false_iff_ne, ne_eq, decide_eq_true_eq, true_iff] at *
   all_goals omega
  rintro _ _ ⟨rfl, rfl⟩
  refine Aa (λ h => ?_) (λ h => ?_)
  ·simp only [decide_eq_true_eq] at h
   rw [if_pos h]
   exact S9.lds 0 (rowT (Cc C big).length F) rfl ⟨rfl, rfl⟩
  ·simp only [decide_eq_false_iff_not] at h
   rw [if_neg h]
   exact ⟨rfl, rfl⟩
 rintro _ _ ⟨rfl, rfl⟩
 refine S9.lds 4 (mvT kind count arg) rfl (Ns hcn λ w10 e10 => ?_)
 have S10 := S9.ext e10
 have tp := Pq count
 have tl := Sm hcn
 have fin : ∀ W, Ext w10 W -> (λ (x27 : Int × Int × Bool × Unit) => sif (!x27.2.2.1) (Ad (at0 b2) (.agg #[.int .i64 0, .int .i64 0, .int .i64 0]) 3 (lds c34 (at0 b2) λ x28 => K (x28, 90, ())))
   (drew (ld .sl (at0 b7) λ x29 => ix x29.a x29.len x27.1 λ p30 => ld (.int .i64) (p30.add (scaled (Int.toNat x27.1) 5)) λ x31 => ld .sl (at0 b7) λ x32 => ix x32.a x32.len (W64 (x27.2.1 - 1)) λ p33 => ld (.int .i64) ((p33.add (scaled (Int.toNat (W64 (x27.2.1 - 1))) 5)).add 1) λ x34 =>
    Ad (at0 b2) (.agg #[.int .i64 x31, .int .i64 x34, .int .i64 0]) 3 (lds c34 (at0 b2) λ x35 => K (x35, 0, ()))))) (Xt (Vm (decide (kind = 62 \/ kind = 64)) (Cc C big) i (times count))) W := by
  intro W eW
  have SW := S10.ext eW
  cases hp : Vm (decide (kind = 62 \/ kind = 64)) (Cc C big) i (times count) with
  | none =>
   rw [hp] at hK
   exact Cm (SW.Ad 3 rfl rfl rfl rfl λ w12 S12 _ => S12.lds 3 (spT (0, 0, 0)) rfl (hK w12 S12.upd))
  | some ft =>
   obtain ⟨f, t⟩ := ft
   rw [hp] at hK
   have hb : f <= i /\ i < t /\ t <= (Cc C big).length := by
    unfold Vm at hp
    split at hp
    ·exact Ab1 hp
    ·exact Af4 hp
   obtain ⟨c, hc⟩ : ∃ c, C[f]? = some c := ⟨_, List.getElem?_eq_getElem (by omega)⟩
   obtain ⟨d, hd⟩ : ∃ d, C[t - 1]? = some d := ⟨_, List.getElem?_eq_getElem (by omega)⟩
   dsimp only at hK
   rw [hc, hd] at hK
   simp only [Option.map_some, Option.getD_some] at hK
   have ew : W64 ((t : Int) - 1) = ((t - 1 : Nat) : Int) := by rw [wrap64 (by omega) (by omega)]; omega
   refine Au (SW.drew λ w12 S12 e12 _ => ?_)
   have hC12 := hC9.ext (e10.trans (eW.trans e12))
   dsimp only [Xt]
   rw [ew]
   refine S12.ld 2 rfl (x := s) rfl (Yb (k := .int .i64) hC12 hc (y := (c.from_ : Int)) rfl λ q1 => S12.ld 2 rfl (x := s) rfl (Ou (k := .int .i64) hC12 hd (y := (d.to_ : Int)) rfl λ q2 => ?_))
   exact S12.Ad 3 rfl rfl rfl rfl λ w13 S13 _ => S13.lds 3 (spT (c.from_, d.to_, 0)) rfl (hK w13 S13.upd)
 have hil : i < (Cc C big).length := by omega
 have hll : (Cc C big).length < 2 ^ 60 := by omega
 by_cases hk : kind = 62 \/ kind = 64
 ·rw [if_pos hk]
  have fin' := fin
  rw [decide_eq_true hk] at fin'
  exact func_m (a := R) (by kernel_rfl) (L9 (hf.ext e10) rfl hil hll tp tl fin')
 ·rw [if_neg hk]
  have fin' := fin
  rw [decide_eq_false hk] at fin'
  exact func_m (a := R) (by kernel_rfl) (Z7 (hf.ext e10) rfl hil hll tp tl fin')
end
section
variable {w w' : World} {S : Nat -> Prop} {p : Nat} {e : Enc} {lim na : Nat} {O : Nat -> Prop} {M : Parts}
theorem Nz (q : Int) (i : Nat) (c : Cel) (r : List Cel) (j : Nat) (o : Option Nat) (s : Nat) : Ij q i (c :: r) j o s = if (c.is q && s % 2 == 0) = false then Ij q i r (j + 1) o (if c.is 92 then s + 1 else 0) else
  match o with
  | none => Ij q i r (j + 1) (some j) (if c.is 92 then s + 1 else 0)
  | some k => if i <= j then some (k, j) else Ij q i r (j + 1) none (if c.is 92 then s + 1 else 0) := by
 cases o <;> rfl
theorem Tj {q : Int} {i : Nat} : ∀ {C : List Cel} {j : Nat} {o : Option Nat} {s x y : Nat}, (∀ k, o = some k -> k < j) -> Ij q i C j o s = some (x, y) -> x < y /\ y < j + C.length /\ i <= y
 | [], _, _, _, _, _, _, h => by simp [Ij] at h
 | c :: r, j, o, s, x, y, ho, h => by
  rw [Nz] at h
  rw [List.length_cons]
  split at h
  ·have := Tj (C := r) (j := j + 1) (λ k hk => by have := ho k hk; omega) h; omega
  ·cases o with
   | none => have := Tj (C := r) (j := j + 1) (λ k hk => by cases hk; omega) h; omega
   | some k =>
    simp only at h
    split at h
    ·cases h; have := ho _ rfl; omega
    ·have := Tj (C := r) (j := j + 1) (λ k hk => by cases hk) h; omega
theorem Bg2 {C : List Cel} {s : Sl} {i : Nat} {iv q : Int} (hs : Jj w s C) (hl : C.length < 2 ^ 60) (hi : C.length ≠ 0 -> iv = (i : Int)) {K : Int × Int × Bool × Unit -> Wp} (hK : ∀ w', Ext w w' -> K (Xt (Ij q i C 0 none 0)) w') :
  Ac Tryz.prog 55 #[s.v, .int .i64 iv, .int .i64 q] (.tup [(.one (.int .i64)), (.one (.int .i64)), (.one .bool)]) K w := by
 refine A55 ?_
 unfold F55
 have hlen := Jj.Aj7 hs
 refine Ae (λ _ W => Ext w W /\ Ij q i C 0 none 0 = none) ?_ (λ _ W h => by have := hK W h.1; rwa [h.2] at this)
 refine Am (λ x W => ∃ (j : Nat) (o : Option Nat) (sl : Nat), j <= C.length /\ sl <= j /\ (∀ k, o = some k -> k < j) /\ x = (oI o, (sl : Int), (j : Int), ()) /\ Ext w W /\ Ij q i C 0 none 0 = Ij q i (C.drop j) j o sl) (λ x _ => ((C.length : Int) - x.2.2.1).toNat)
  ⟨0, none, 0, Nat.zero_le _, Nat.le_refl _, (λ _ h => by cases h), rfl, Ext.refl w, rfl⟩ ?_
 rintro _ W ⟨j, o, sl, hj, hsl, ho, rfl, eW, heq⟩
 dsimp only
 refine Aa (λ hc => ?_) (λ hc => ?_)
 ·simp only [decide_eq_true_eq] at hc
  have hjl : j < C.length := by omega
  obtain ⟨c, hc'⟩ : ∃ c, C[j]? = some c := ⟨_, List.getElem?_eq_getElem hjl⟩
  have hd : C.drop j = c :: C.drop (j + 1) := by
   rw [List.drop_eq_getElem_cons hjl]
   rw [List.getElem?_eq_getElem hjl] at hc'
   rw [Option.some.inj hc']
  rw [hd, Nz] at heq
  refine Ae (λ x W' => ∃ (o' : Option Nat) (sl' : Nat), sl' <= j + 1 /\ (∀ k, o' = some k -> k < j + 1) /\ x = (oI o', (sl' : Int), ()) /\ Ext w W' /\ Ij q i C 0 none 0 = Ij q i (C.drop (j + 1)) (j + 1) o' sl') ?_ ?_
  ·refine Qw (hs.ext eW) hc' λ qq => (St.start W).Af λ b w2 S2 e2 => S2.Ad 0 rfl rfl rfl rfl λ w3 S3 u3 => ?_
   refine Ae (λ x W' => x = (c.is q && sl % 2 == 0, ()) /\ St (λ _ => False) W W' [(b, .cells (Cells.vals c72 (Oi c)).toArray 72 (0, 0))]) ?_ ?_
   ·refine S3.lds 0 (Oi c) rfl (Yc λ w4 e4 => Aa (λ h => Ci (by decide) ⟨Aj ?_, S3.ext e4⟩) (λ h => ⟨Aj ?_, S3.ext e4⟩))
    ·have h : c.is q = true := h
     rw [Int.tmod_eq_emod_of_nonneg (by omega), h, Bool.true_and, beq_iff_eq, beq_iff_eq]; omega
    ·have h : c.is q = false := h
     rw [h, Bool.false_and]
   rintro _ w4 ⟨rfl, S4⟩
   refine Ae (λ x W' => x = (((if c.is 92 then sl + 1 else 0 : Nat) : Int), ()) /\ Ext w W') ?_ ?_
   ·refine S4.lds 0 (Oi c) rfl (Yc λ w5 e5 => Aa (λ h => ⟨?_, eW.trans (S4.ext e5).upd⟩) (λ h => ⟨?_, eW.trans (S4.ext e5).upd⟩))
    ·simp only [Bool.not_eq_true'] at h
     rw [if_neg (by rw [h]; decide)]; rfl
    ·simp only [Bool.not_eq_false'] at h
     rw [if_pos h, wrap64 (by omega) (by omega)]; rfl
   rintro _ w5 ⟨rfl, e5⟩
   have hsl' : (if c.is 92 then sl + 1 else 0) <= j + 1 := by split <;> omega
   generalize (if c.is 92 then sl + 1 else 0) = sl' at *
   refine Aa (λ hm => ?_) (λ hm => ?_)
   ·simp only [Bool.not_eq_true'] at hm
    rw [if_pos hm] at heq
    exact ⟨o, sl', hsl', λ k hk => by have := ho k hk; omega, rfl, e5, heq⟩
   simp only [Bool.not_eq_false'] at hm
   rw [if_neg (by rw [hm]; decide)] at heq
   cases o with
   | none =>
    refine Cm ?_
    exact ⟨some j, sl', hsl', (λ k hk => by cases hk; omega), rfl, e5, heq⟩
   | some k =>
    refine Aa (λ h => absurd (of_decide_eq_true h) (Int.not_lt.2 (Int.natCast_nonneg k))) (λ _ => ?_)
    have hiv := hi (by omega)
    refine Aa (λ hge => ?_) (λ hge => ?_)
    ·simp only [decide_eq_true_eq, ge_iff_le] at hge
     simp only [if_pos (show i <= j by omega)] at heq
     have := hK w5 e5
     rw [heq] at this
     exact this
    ·simp only [decide_eq_false_iff_not, ge_iff_le] at hge
     simp only [if_neg (show ¬ i <= j by omega)] at heq
     exact ⟨none, sl', hsl', (λ k hk => by cases hk), rfl, e5, heq⟩
  ·rintro _ W' ⟨o', sl', h1, h2, rfl, e', heq'⟩
   have ew : W64 ((j : Int) + 1) = ((j + 1 : Nat) : Int) := by rw [wrap64 (by omega) (by omega)]; omega
   rw [ew]
   exact ⟨⟨j + 1, o', sl', by omega, h1, h2, rfl, e', heq'⟩, by omega⟩
 ·simp only [decide_eq_false_iff_not] at hc
  have : C.drop j = [] := List.drop_eq_nil_of_le (by omega)
  rw [this] at heq
  exact ⟨eW, heq⟩
theorem I9 (C : List Cel) (j : Nat) : j <= Bq C j := by unfold Bq; omega
theorem I8 {C : List Cel} {j : Nat} (h : j <= C.length) : Bq C j <= C.length := by
 unfold Bq
 have := (List.takeWhile_sublist (λ c : Cel => c.kind == 0) (l := C.drop j)).length_le
 rw [List.length_drop] at this; omega
theorem Lc {C : List Cel} {j : Nat} {c : Cel} (h : C[j]? = some c) : Bq C j = if c.kind = 0 then Bq C (j + 1) else j := by
 have hj := (List.getElem?_eq_some_iff.1 h).1
 have hd : C.drop j = c :: C.drop (j + 1) := by
  rw [List.drop_eq_getElem_cons hj]
  rw [List.getElem?_eq_getElem hj] at h
  rw [Option.some.inj h]
 unfold Bq
 rw [hd, List.takeWhile_cons]
 by_cases hk : c.kind = 0
 ·have : (c.kind == 0) = true := by rw [beq_iff_eq]; exact hk
  rw [this, if_pos rfl, if_pos hk, List.length_cons]; omega
 ·have : (c.kind == 0) = false := by rw [beq_eq_false_iff_ne]; exact hk
  rw [this, if_neg (by decide), if_neg hk]; rfl
theorem Yr {C : List Cel} {j : Nat} (h : C.length <= j) : Bq C j = j := by
 unfold Bq
 rw [List.drop_eq_nil_of_le h]; rfl
theorem Vz (C : List Cel) : ∀ j, Bh C j <= j
 | 0 => Nat.le_refl _
 | j + 1 => by rw [Bh]; have := Vz C j; split <;> omega
def Ri (C : List Cel) (j : Int) : Bool := decide (0 <= j) && (C[j.toNat]?.map (·.kind)) == some 0
theorem Bd8 {C : List Cel} {s : Sl} {b : Nat} {j : Int} (hC : Jj w s C) (hb : w.heap[b]? = some (.cells #[.slice s.a s.len s.cap] 68 (0, 0))) {K : Bool -> Wp} (hK : K (Ri C j) w) :
  Bf Tryz.prog (do let d ← Deferred.ofValue (.func (.func 56) #[] #[.pointer (some (at0 b))]) #[.int .i64 j]; invoke d.target d.args : Sem Next) (.one (.one .bool)) K w := by
 refine func_x (caps := #[.pointer (some (at0 b))]) (by kernel_rfl) ?_
 refine A56 ?_
 unfold F56
 have hlen := Jj.Aj7 hC
 unfold Ri at hK
 refine Aa (λ h => ?_) (λ h => ?_)
 ·simp only [decide_eq_true_eq, ge_iff_le] at h
  rw [decide_eq_true h, Bool.true_and] at hK
  obtain ⟨n, rfl⟩ : ∃ n : Nat, j = (n : Int) := ⟨j.toNat, by omega⟩
  rw [Int.toNat_natCast] at hK
  refine Dt hb (x := s) rfl (Aa (λ h2 => ?_) (λ h2 => ?_))
  ·simp only [decide_eq_true_eq] at h2
   obtain ⟨c, hc⟩ : ∃ c, C[n]? = some c := ⟨_, List.getElem?_eq_getElem (by omega)⟩
   rw [hc] at hK
   refine Dt hb (x := s) rfl (Ou (k := .int .i64) hC hc (y := (c.kind : Int)) rfl λ q => ?_)
   have e : (((c.kind : Nat) : Int) == 0) = (Option.map (λ c : Cel => c.kind) (some c) == some 0) := by
    rw [Bool.eq_iff_iff, beq_iff_eq, beq_iff_eq, Option.map_some, Option.some.injEq]; omega
   rw [e]; exact hK
  ·simp only [decide_eq_false_iff_not] at h2
   rw [List.getElem?_eq_none (by omega)] at hK
   exact hK
 ·simp only [decide_eq_false_iff_not, ge_iff_le] at h
  rw [decide_eq_false h, Bool.false_and] at hK
  exact hK
theorem An3 {at_ kind count arg : Int} (h : Txt w p e lim na O M) (hcn : count < 2 ^ 63) {K : Cells.T c34 × Int × Unit -> Wp} (hK : ∀ w', Ext w w' -> K (spT (Jo (atoms (aOf e M)) at_ kind count arg).1, (Jo (atoms (aOf e M)) at_ kind count arg).2, ()) w') :
  Ac Tryz.prog 31 #[.pointer (some (at0 p)), .int .i64 at_, .agg (Cells.vals c39 (mvT kind count arg)).toArray] (.tup [(.agg c34), (.one (.int .i64))]) K w := by
 refine A31 (a2 := mvT kind count arg) ?_
 unfold F31
 have few := h.few; have lims := h.lims
 have hal := hal e M
 have here := λ (w0 : World) (h0 : Txt w0 p e lim na O M) (a : Nat) (ha : a <= (atoms (aOf e M)).length) => @Af5 w0 p e lim na O M a h0 ha
 generalize hA : atoms (aOf e M) = A at *
 unfold Jo at hK
 rw [hal] at hK
 let Mv : Obj := .cells (Cells.vals c39 (mvT kind count arg)).toArray 39 (0, 0)
 let Z : Obj := .cells #[.int .i64 0, .int .i64 0, .int .i64 0] 34 (0, 0)
 refine (St.start w).Af λ b1 w1 S1 e1 => S1.Af λ b2 w2 S2 e2 => ?_
 have S2 : St (λ _ => False) w w2 [(b2, Z), (b1, Mv)] := S2
 refine S2.lds 1 (mvT kind count arg) rfl (Nl (h.ext S2.upd) λ w3 e3 => ?_)
 have S3 := S2.ext e3
 generalize hck : checked (aOf e M).length at_ kind count 65 66 = ck at *
 refine Ae (λ x W => x = (decide (ck = 1 \/ (arg ≠ 34 /\ arg ≠ 39 /\ arg ≠ 96)), ()) /\ w3 = W) ?_ ?_
 ·refine Aa (λ h1 => ⟨Aj ?_, rfl⟩) (λ h1 => S3.ld 1 rfl (x := arg) rfl (Aa (λ h2 => S3.ld 1 rfl (x := arg) rfl (Aa (λ h3 => S3.ld 1 rfl (x := arg) rfl ⟨Aj ?_, rfl⟩) (λ h3 => ⟨Aj ?_, rfl⟩))) (λ h2 => ⟨Aj ?_, rfl⟩)))
  all_goals simp only [beq_iff_eq, beq_eq_false_iff_ne, bne_iff_ne, bne_eq_false_iff_eq, ne_eq, decide_eq_true_eq, true_iff, Bool.false_eq_true, false_iff] at *
  all_goals omega
 rintro _ _ ⟨rfl, rfl⟩
 refine Aa (λ h1 => ?_) (λ h1 => ?_)
 ·simp only [decide_eq_true_eq] at h1
  rw [if_pos h1] at hK
  exact S3.Ad 0 rfl rfl rfl rfl λ w4 S4 _ => S4.lds 0 (spT (0, 0, 0)) rfl (hK w4 S4.upd)
 simp only [decide_eq_false_iff_not] at h1
 rw [if_neg h1] at hK
 refine Aa (λ h0 => ?_) (λ h0 => ?_)
 ·simp only [bne_iff_ne, ne_eq] at h0
  rw [if_pos h0] at hK
  exact S3.Ad 0 rfl rfl rfl rfl λ w4 S4 _ => S4.lds 0 (spT (0, 0, 0)) rfl (hK w4 S4.upd)
 simp only [bne_eq_false_iff_eq] at h0
 rw [if_neg (by rw [h0]; decide)] at hK
 have hat : 0 <= at_ /\ at_ <= ((aOf e M).length : Int) := by
  unfold checked at hck
  split at hck
  ·omega
  ·split at hck <;> omega
 obtain ⟨a, rfl⟩ : ∃ a : Nat, at_ = (a : Int) := ⟨at_.toNat, by omega⟩
 refine here w3 (h.ext S3.upd) a (by omega) λ s w4 hC e4 => ?_
 have S4 := S3.ext e4
 dsimp only at hK ⊢
 have hCle : (Bv A (Ep A (a : Int))).length <= A.length := by
  have := Gx ((A.drop (Ep A (a : Int)).from_).take ((Ep A (a : Int)).to_ - (Ep A (a : Int)).from_)) (Ep A (a : Int)).from_
  rw [List.length_take, List.length_drop] at this
  show (Bg _ _).length <= _
  omega
 generalize Bv A (Ep A (a : Int)) = C at *
 refine S4.Af λ b7 w5 S5 e5 => S5.stC 0 rfl Nat.one_pos λ w6 S6 u6 => ?_
 let B7 : Obj := .cells #[.slice s.a s.len s.cap] 68 (0, 0)
 have S6 : St (λ _ => False) w w6 [(b7, B7), (b2, Z), (b1, Mv)] := S6
 have hC6 : Jj w6 s C := Aq.box (hC.ext e5) (S5.at_ 0 rfl) (by decide) u6
 have hlen := Jj.Aj7 hC6
 refine S6.ld 0 rfl (x := s) rfl (S6.ld 2 rfl (x := arg) rfl ?_)
 refine Bg2 (i := Jr C (a : Int)) hC6 (by omega) (λ hz => by unfold Bd0; rw [if_neg hz]) λ w7 e7 => ?_
 have S7 := S6.ext e7
 have hC7 := hC6.ext e7
 cases hp : Ij arg (Jr C (a : Int)) C 0 none 0 with
 | none =>
  rw [hp] at hK
  exact Cm (S7.Ad 1 rfl rfl rfl rfl λ w8 S8 _ => S8.lds 1 (spT (0, 0, 0)) rfl (hK w8 S8.upd))
 | some ot =>
  obtain ⟨one, two⟩ := ot
  rw [hp] at hK
  obtain ⟨hot, htl, _⟩ := Tj (λ _ h => by cases h) hp
  rw [Nat.zero_add] at htl
  obtain ⟨c1, hc1⟩ : ∃ c, C[one]? = some c := ⟨_, List.getElem?_eq_getElem (by omega)⟩
  obtain ⟨c2, hc2⟩ : ∃ c, C[two]? = some c := ⟨_, List.getElem?_eq_getElem (by omega)⟩
  refine Au ?_
  dsimp only [Xt] at hK ⊢
  refine Ae (λ x W => x = (decide (kind = 65 /\ count < 2), ()) /\ w7 = W) ?_ ?_
  ·refine S7.ld 2 rfl (x := kind) rfl (Aa (λ h => S7.ld 2 rfl (x := count) rfl ⟨Aj ?_, rfl⟩) (λ h => ⟨Aj ?_, rfl⟩))
   all_goals simp only [beq_iff_eq, beq_eq_false_iff_ne, ne_eq, decide_eq_true_eq, Bool.false_eq_true, false_iff] at *
   all_goals omega
  rintro _ _ ⟨rfl, rfl⟩
  refine Aa (λ h2 => ?_) (λ h2 => ?_)
  ·simp only [decide_eq_true_eq] at h2
   rw [if_pos h2, hc1, hc2] at hK
   simp only [Option.map_some, Option.getD_some] at hK
   refine S7.drew λ w8 S8 e8 _ => S8.ld 0 rfl (x := s) rfl (Ou (k := .int .i64) (hC7.ext e8) hc1 (y := (c1.to_ : Int)) rfl λ q1 => S8.ld 0 rfl (x := s) rfl (Yb (k := .int .i64) (hC7.ext e8) hc2 (y := (c2.from_ : Int)) rfl λ q2 => ?_))
   exact S8.Ad 1 rfl rfl rfl rfl λ w9 S9 _ => S9.lds 1 (spT (c1.to_, c2.from_, 0)) rfl (hK w9 S9.upd)
  simp only [decide_eq_false_iff_not] at h2
  rw [if_neg h2] at hK
  have ew2 : W64 ((two : Int) + 1) = ((two + 1 : Nat) : Int) := by rw [wrap64 (by omega) (by omega)]; omega
  rw [ew2]
  have hbl := I8 (C := C) (j := two + 1) (by omega)
  have hbg := I9 C (two + 1)
  have hdl := Vz C one
  obtain ⟨t, ht⟩ : ∃ t, t = if kind = 66 then Bq C (two + 1) else two + 1 := ⟨_, rfl⟩
  obtain ⟨f, hf⟩ : ∃ f, f = if kind = 66 /\ t = two + 1 then Bh C one else one := ⟨_, rfl⟩
  rw [← ht, ← hf] at hK
  have htb : two + 1 <= t /\ t <= C.length := by rw [ht]; split <;> omega
  have hfb : f <= one := by rw [hf]; split <;> omega
  refine Ae (λ x W => x = ((f : Int), (t : Int), ()) /\ w7 = W) ?_ ?_
  ·refine S7.ld 2 rfl (x := kind) rfl (Aa (λ hk => ?_) (λ hk => ?_))
   ·simp only [beq_iff_eq] at hk
    rw [if_pos hk] at ht
    have hf' : f = if t = two + 1 then Bh C one else one := by rw [hf]; by_cases ht2 : t = two + 1 <;> simp [hk, ht2]
    refine Ae (λ x W => x = ((t : Int), ()) /\ w7 = W) ?_ ?_
    ·refine Am (λ x W => ∃ j : Nat, j <= C.length /\ x = ((j : Int), ()) /\ w7 = W /\ Bq C j = Bq C (two + 1)) (λ x _ => ((C.length : Int) - x.1).toNat) ⟨two + 1, by omega, rfl, rfl, rfl⟩ ?_
     rintro _ _ ⟨j, hj, rfl, rfl, hbj⟩
     refine Bd8 hC7 (S7.at_ 0 rfl) ?_
     refine Aa (λ hb => ?_) (λ hb => ?_)
     ·unfold Ri at hb
      simp only [Bool.and_eq_true, Int.toNat_natCast, beq_iff_eq] at hb
      obtain ⟨c, hc, hck⟩ := Option.map_eq_some_iff.1 hb.2
      have hjl := (List.getElem?_eq_some_iff.1 hc).1
      have ew : W64 ((j : Int) + 1) = ((j + 1 : Nat) : Int) := by rw [wrap64 (by omega) (by omega)]; omega
      dsimp only
      rw [ew]
      refine ⟨⟨j + 1, by omega, rfl, rfl, ?_⟩, by omega⟩
      rw [← hbj, Lc hc, if_pos hck]
     ·unfold Ri at hb
      refine ⟨?_, rfl⟩
      rw [ht, ← hbj]
      by_cases hjl : j < C.length
      ·obtain ⟨c, hc⟩ : ∃ c, C[j]? = some c := ⟨_, List.getElem?_eq_getElem hjl⟩
       rw [Lc hc, if_neg]
       intro hck
       rw [Int.toNat_natCast, hc, decide_eq_true (by omega)] at hb
       simp [hck] at hb
      ·rw [Yr (by omega)]
    rintro _ _ ⟨rfl, rfl⟩
    refine Am (λ x W => ∃ j : Nat, j <= one /\ x = ((j : Int), ()) /\ w7 = W /\ (if t = two + 1 then Bh C j else j) = f) (λ x _ => x.1.toNat) ⟨one, Nat.le_refl _, rfl, rfl, hf'.symm⟩ ?_
    rintro _ _ ⟨j, hj, rfl, rfl, hfj⟩
    refine Ae (λ x W => x = (decide (t = two + 1) && Ri C ((j : Int) - 1), ()) /\ w7 = W) ?_ ?_
    ·refine Aa (λ h3 => ?_) (λ h3 => ?_)
     ·simp only [beq_iff_eq] at h3
      have ew : W64 ((j : Int) - 1) = (j : Int) - 1 := wrap64 (by omega) (by omega)
      dsimp only
      rw [ew]
      refine Bd8 hC7 (S7.at_ 0 rfl) ⟨?_, rfl⟩
      rw [decide_eq_true (by omega), Bool.true_and]
     ·simp only [beq_eq_false_iff_ne, ne_eq] at h3
      refine ⟨?_, rfl⟩
      rw [decide_eq_false (by omega), Bool.false_and]
    rintro _ _ ⟨rfl, rfl⟩
    refine Aa (λ h3 => ?_) (λ h3 => ?_)
    ·simp only [Bool.and_eq_true, decide_eq_true_eq] at h3
     obtain ⟨h31, h32⟩ := h3
     unfold Ri at h32
     simp only [Bool.and_eq_true, decide_eq_true_eq, beq_iff_eq] at h32
     obtain ⟨m, rfl⟩ : ∃ m, j = m + 1 := ⟨j - 1, by omega⟩
     have em : (((m + 1 : Nat) : Int) - 1).toNat = m := by omega
     rw [em] at h32
     have ew : W64 (((m + 1 : Nat) : Int) - 1) = (m : Int) := by rw [wrap64 (by omega) (by omega)]; omega
     dsimp only
     rw [ew]
     refine ⟨⟨m, by omega, rfl, rfl, ?_⟩, by omega⟩
     rw [← hfj, if_pos h31, if_pos h31, Bh, if_pos h32.2]
    ·refine ⟨?_, rfl⟩
     have : f = j := by
      rw [← hfj]
      by_cases ht2 : t = two + 1
      ·rw [if_pos ht2]
       rw [decide_eq_true ht2, Bool.true_and] at h3
       cases j with
       | zero => rfl
       | succ m =>
        have em : (((m + 1 : Nat) : Int) - 1).toNat = m := by omega
        unfold Ri at h3
        rw [em, decide_eq_true (by omega), Bool.true_and, beq_eq_false_iff_ne] at h3
        rw [Bh, if_neg h3]
      ·rw [if_neg ht2]
     rw [this]
   ·simp only [beq_eq_false_iff_ne, ne_eq] at hk
    rw [if_neg hk] at ht
    rw [if_neg (λ h => hk h.1)] at hf
    rw [ht, hf]
    exact ⟨rfl, rfl⟩
  rintro _ _ ⟨rfl, rfl⟩
  obtain ⟨cf, hcf⟩ : ∃ c, C[f]? = some c := ⟨_, List.getElem?_eq_getElem (by omega)⟩
  obtain ⟨ct, hct⟩ : ∃ c, C[t - 1]? = some c := ⟨_, List.getElem?_eq_getElem (by omega)⟩
  rw [hcf, hct] at hK
  simp only [Option.map_some, Option.getD_some] at hK
  have ewt : W64 ((t : Int) - 1) = ((t - 1 : Nat) : Int) := by rw [wrap64 (by omega) (by omega)]; omega
  dsimp only
  rw [ewt]
  refine S7.drew λ w8 S8 e8 _ => S8.ld 0 rfl (x := s) rfl (Yb (k := .int .i64) (hC7.ext e8) hcf (y := (cf.from_ : Int)) rfl λ q1 => S8.ld 0 rfl (x := s) rfl (Ou (k := .int .i64) (hC7.ext e8) hct (y := (ct.to_ : Int)) rfl λ q2 => ?_))
  exact S8.Ad 1 rfl rfl rfl rfl λ w9 S9 _ => S9.lds 1 (spT (cf.from_, ct.to_, 0)) rfl (hK w9 S9.upd)
end
section
variable {w w' : World} {S : Nat -> Prop} {p : Nat} {e : Enc} {lim na : Nat} {O : Nat -> Prop} {M : Parts}
theorem Bk1 {l : Nat} {vs : List Value} {R : Bool -> Wp} (h : Ag7 Tryz.prog l vs R w) :
  Bf Tryz.prog (do let d ← Deferred.ofValue (.func (.yield l) #[] #[]) vs.toArray; invoke d.target d.args : Sem Next) (.one (.one .bool)) R w := by
 obtain ⟨f, tmps, assign, body, h1, h2⟩ := h
 refine .inr (.inr ⟨l, f, tmps, assign, body, ?_, h2⟩)
 simp only [Deferred.ofValue, pure_bind, invoke, Array.empty_append]
 exact h1
theorem Bn5 {A : List Int} {i : Nat} {l : Ln} (h : Eb A i = some l) (hi : i < lnN A) (h0 : 0 < i) : l ≠ ⟨l.from_, l.from_, l.from_, 0⟩ := by
 intro he
 have ok := Oo h
 obtain ⟨hb, hf⟩ := Ie h
 cases hx : sk A (i + 1) with
 | some x =>
  obtain ⟨e1, e2, _⟩ := ok.brk x hx
  have e3 := congrArg Ln.next he
  simp only at e3
  have := ok.ft
  omega
 | none =>
  obtain ⟨e1, e2, e3⟩ := ok.tail hx
  have e4 := congrArg Ln.to_ he
  simp only at e4
  have hbi : i = brs A := by
   rcases Nat.lt_or_ge i (brs A) with h1 | h1
   ·obtain ⟨m, hm⟩ := U9 (A := A) (k := i + 1) (by omega)
    rw [hm] at hx; cases hx
   ·omega
  have hne : ended A = false := by
   unfold lnN at hi
   cases hc : ended A with
   | false => rfl
   | true => rw [hc] at hi; simp at hi; omega
  unfold ended at hne
  rw [← hbi, hf, ← e4, e2] at hne
  have hl : A.length = 0 := by
   simp at hne; exact congrArg List.length hne
  have hb0 : brs A = 0 := by
   have := List.length_eq_zero_iff.1 hl
   rw [this]; rfl
  omega
theorem tail_at {A : List Int} : Eb A (lnN A) = none \/ ∃ l, Eb A (lnN A) = some l /\ 0 < lnN A /\ l = ⟨l.from_, l.from_, l.from_, 0⟩ := by
 cases hc : ended A with
 | false =>
  left
  have : lnN A = brs A + 1 := by unfold lnN; rw [hc]; simp
  unfold Eb
  rw [this, Qr A (brs A + 1) (by omega)]
 | true =>
  right
  have hn : lnN A = brs A := by unfold lnN; rw [hc]; simp
  unfold ended at hc
  simp only [Bool.and_eq_true, decide_eq_true_eq, beq_iff_eq] at hc
  have hs : sk A (brs A + 1) = none := Qr A (brs A + 1) (by omega)
  refine ⟨⟨A.length, A.length, A.length, 0⟩, ?_, ?_, rfl⟩
  ·unfold Eb
   rw [hn, hc.2]
   simp only [hs]
  ·rw [hn]
   rcases Nat.eq_zero_or_pos (brs A) with hz | hz
   ·rw [hz, Bb0] at hc
    have := Option.some.inj hc.2
    omega
   ·exact hz
theorem Bj9 {b1 : Nat} {vals : Int × Cells.T Bj × Unit -> List Value} {body : Nat -> (LoopState -> Option Code -> Loop) -> (Bool -> Wp) -> Int × Cells.T Bj × Unit -> Wp} {aft' : Nat -> Option Code -> Wp}
  (hv : ∀ s, vals s = [.int .i64 s.1, .agg (Cells.vals Bj s.2.1).toArray]) (Inv : Nat -> Wp)
  (hT : ∀ j W, Inv j W -> Txt W p e lim na O M /\ W.heap[b1]? = some (.cells #[.pointer (some (at0 p))] 25 (0, 0)) /\ W.heap[w.heap.size]? = some (.deferred (some [])))
  (hx : ∀ j W W', Inv j W -> Ext W W' -> Inv j W')
  (h0 : ∀ W, Ext w W -> W.heap[w.heap.size]? = some (.deferred (some [])) -> w.heap.size + 2 <= W.heap.size -> Inv 0 W)
  (hb : ∀ (rc : LoopState -> Option Code -> Loop) (j : Nat) l R W, j < lnN (atoms (aOf e M)) -> Eb (atoms (aOf e M)) j = some l -> Inv j W -> W.heap[w.heap.size + 1]? = some (.loop (rc .ready none)) ->
   (∀ W', Inv (j + 1) W' -> W'.heap[w.heap.size + 1]? = some (.loop (rc .ready none)) -> R true W') -> body (w.heap.size + 1) rc R ((j : Int), lnT l, ()) W)
  (he : ∀ W W', Inv (lnN (atoms (aOf e M))) W -> W'.heap[w.heap.size]? = some (.deferred (some [])) -> Upd (λ k => k = w.heap.size + 1) W W' -> (∀ o, W.heap[w.heap.size + 1]? = some o -> ∃ lo, o = .loop lo) -> aft' w.heap.size none W') :
  X6 Tryz.prog vals (.func (.func 82) #[] #[.pointer (some (at0 b1))]) body aft' w := by
 intro rc hyield
 have e0 : Ext w (w.alloc (.deferred (some []))) := Ext.alloc w _
 generalize hW0 : w.alloc (.deferred (some [])) = W0 at *
 have d0 : W0.heap[w.heap.size]? = some (.deferred (some [])) := by rw [← hW0]; exact heap_alloc w _
 have z0 : W0.heap.size = w.heap.size + 1 := by rw [← hW0]; simp
 have e1 : Ext W0 (W0.alloc (.loop (rc .ready none))) := Ext.alloc W0 _
 have l1 : (W0.alloc (.loop (rc .ready none))).heap[w.heap.size + 1]? = some (.loop (rc .ready none)) := by rw [← z0]; exact heap_alloc W0 _
 have z1 : (W0.alloc (.loop (rc .ready none))).heap.size = w.heap.size + 2 := by simp [z0]
 generalize hW1 : W0.alloc (.loop (rc .ready none)) = W1 at *
 refine ⟨82, #[.func (.yield (w.heap.size + 1)) #[] #[], .pointer (some (at0 b1))], ?_, ?_⟩
 ·simp only [Deferred.ofValue, pure_bind, invoke]
  exact Fv (P := Tryz.prog) (f := 82) (by kernel_rfl) W1
 have e01 := e0.trans e1
 have i1 := h0 W1 e01 (e1.ext_get d0) (by omega)
 have fin : ∀ W, Inv (lnN (atoms (aOf e M))) W -> W.heap[w.heap.size + 1]? = some (.loop (rc .ready none)) ->
   ∃ st pe, W.heap[w.heap.size + 1]? = some (.loop (rc st pe)) /\ st ≠ .busy /\ aft' w.heap.size pe (W.putObj (w.heap.size + 1) (.loop (rc .exhausted pe))) := by
  intro W hI hl
  obtain ⟨u, _⟩ := Gt (o' := .loop (rc .exhausted none)) hl
  exact ⟨.ready, none, hl, by decide, he W _ hI (u.get (hT _ _ hI).2.2 (by omega)) u λ o ho => by rw [hl] at ho; cases ho; exact ⟨_, rfl⟩⟩
 have hT1 := hT _ _ i1
 have few := hT1.1.few; have lims := hT1.1.lims
 have hal := hal e M
 have hbrs : brs (atoms (aOf e M)) <= (atoms (aOf e M)).length := by rw [Gz]; exact Tq _ _
 have hnl : lnN (atoms (aOf e M)) <= (atoms (aOf e M)).length + 1 := by unfold lnN; split <;> omega
 refine A82 ?_
 unfold F82
 refine Am (λ x W => ∃ i : Nat, i <= lnN (atoms (aOf e M)) /\ x = ((i : Int), ()) /\ Inv i W /\ W.heap[w.heap.size + 1]? = some (.loop (rc .ready none))) (λ x _ => (((lnN (atoms (aOf e M)) : Nat) : Int) - x.1).toNat) ⟨0, Nat.zero_le _, rfl, i1, l1⟩ ?_
 rintro _ W ⟨i, hi, rfl, hI, hl⟩
 obtain ⟨tx, h1, hd⟩ := hT _ _ hI
 refine Dt h1 (x := some (at0 p)) rfl (Ap4 tx (by omega) λ w2 e2 => ?_)
 rw [Bc5]
 cases hla : Eb (atoms (aOf e M)) i with
 | none =>
  have hin : i = lnN (atoms (aOf e M)) := by
   rcases Nat.lt_or_ge i (lnN (atoms (aOf e M))) with h | h
   ·exfalso
    have : i <= brs (atoms (aOf e M)) := by unfold lnN at h; split at h <;> omega
    obtain ⟨l, hl⟩ := Ux this
    rw [hl] at hla; cases hla
   ·omega
  refine (St.start w2).Af λ b5 w3 S3 e3 => S3.Ad 0 rfl rfl rfl rfl λ w4 S4 u4 => ?_
  refine S4.ld 0 rfl (x := (0 : Int)) rfl (S4.ld 0 rfl (x := (0 : Int)) rfl (S4.ld 0 rfl (x := (0 : Int)) rfl (S4.Af λ b9 w5 S5 e5 => S5.Ad 0 rfl rfl rfl rfl λ w6 S6 u6 => ?_)))
  have e6 : Ext W w6 := e2.trans S6.upd
  refine Ae (λ x W' => x = (true, ()) /\ w6 = W') (Cm ⟨rfl, rfl⟩) ?_
  rintro _ _ ⟨rfl, rfl⟩
  subst hin
  exact Cm (fin w6 (hx _ _ _ hI e6) (e6.ext_get hl))
 | some l =>
  refine (St.start w2).Af λ b5 w3 S3 e3 => S3.Ad 0 rfl rfl rfl rfl λ w4 S4 u4 => ?_
  refine S4.ld 0 rfl (x := (l.from_ : Int)) rfl (S4.ld 0 rfl (x := (l.from_ : Int)) rfl (S4.ld 0 rfl (x := (l.from_ : Int)) rfl (S4.Af λ b9 w5 S5 e5 => S5.Ad 0 rfl rfl rfl rfl λ w6 S6 u6 => ?_)))
  have e6 : Ext W w6 := e2.trans S6.upd
  have i6 := hx _ _ _ hI e6
  have l6 := e6.ext_get hl
  have S6' : St (λ _ => False) w2 w6 [(b9, .cells (Cells.vals Bj (lnT ⟨l.from_, l.from_, l.from_, 0⟩)).toArray 100 (0, 0)), (b5, .cells (Cells.vals Bj (lnT l)).toArray 100 (0, 0))] := S6
  refine Ae (λ x W' => (x = (false, ()) /\ i < lnN (atoms (aOf e M)) /\ Inv (i + 1) W' /\ W'.heap[w.heap.size + 1]? = some (.loop (rc .ready none))) \/ (x = (true, ()) /\ i = lnN (atoms (aOf e M)) /\ w6 = W')) ?_ ?_
  ·refine Au ?_
   have yld : i < lnN (atoms (aOf e M)) -> ∀ {J : Bool -> Wp}, (∀ W', Inv (i + 1) W' -> W'.heap[w.heap.size + 1]? = some (.loop (rc .ready none)) -> J true W') ->
     Bf Tryz.prog (do let d ← Deferred.ofValue (.func (.yield (w.heap.size + 1)) #[] #[]) #[.int .i64 (i : Int), .agg (Cells.vals Bj (lnT l)).toArray]; invoke d.target d.args : Sem Next) (.one (.one .bool)) J w6 := by
    intro hlt J hJ
    have := hyield J ((i : Int), lnT l, ()) w6 l6 (hb rc i l J w6 hlt hla i6 l6 hJ)
    rw [hv] at this
    exact Bk1 this
   refine Aa (λ h => ?_) (λ h => ?_)
   ·simp only [decide_eq_true_eq, gt_iff_lt] at h
    refine S6'.lds 1 (lnT l) rfl (S6'.lds 0 (lnT ⟨l.from_, l.from_, l.from_, 0⟩) rfl (Bc7 ?_))
    by_cases hlt : i < lnN (atoms (aOf e M))
    ·rw [decide_eq_false (Bn5 hla hlt (by omega))]
     refine Au (S6'.lds 1 (lnT l) rfl (yld hlt λ W' i' l' => .inl ⟨rfl, hlt, i', l'⟩))
    ·have hin : i = lnN (atoms (aOf e M)) := by omega
     rcases tail_at (A := atoms (aOf e M)) with ht | ⟨l', ht, _, he'⟩
     ·rw [hin, ht] at hla; cases hla
     ·rw [hin, ht] at hla; cases hla
      rw [decide_eq_true he']
      exact Cm (.inr ⟨rfl, hin, rfl⟩)
   ·simp only [decide_eq_false_iff_not, gt_iff_lt] at h
    have hlt : i < lnN (atoms (aOf e M)) := by
     rcases Nat.lt_or_ge i (lnN (atoms (aOf e M))) with h2 | h2
     ·exact h2
     ·exfalso
      have hin : i = lnN (atoms (aOf e M)) := by omega
      rcases tail_at (A := atoms (aOf e M)) with ht | ⟨l', ht, h3, _⟩
      ·rw [hin, ht] at hla; cases hla
      ·omega
    exact S6'.lds 1 (lnT l) rfl (yld hlt λ W' i' l' => .inl ⟨rfl, hlt, i', l'⟩)
  ·rintro _ W' (⟨rfl, hlt, i', l'⟩ | ⟨rfl, hin, rfl⟩)
   ·have ew : W64 ((i : Int) + 1) = ((i + 1 : Nat) : Int) := by rw [wrap64 (by omega) (by omega)]; omega
    dsimp only
    rw [ew]
    exact Au ⟨⟨i + 1, by omega, rfl, i', l'⟩, by omega⟩
   ·subst hin
    exact Cm (fin w6 i6 l6)
end
section
variable {w w' : World} {S : Nat -> Prop} {p : Nat} {e : Enc} {lim na : Nat} {O : Nat -> Prop} {M : Parts}
theorem Bp9 : He Tryz.prog 95 100 4 32 := He.of (z := .agg #[.int .i64 0, .int .i64 0, .int .i64 0, .int .i64 0]) C95 Cf9 rfl rfl rfl (by decide)
theorem Ca2 (l : Ln) : ∀ v ∈ flat Bj [lnT l], Dx v = true := by
 intro v hv
 rw [Qj] at hv
 have h : v ∈ [_, _, _, _] := hv
 simp only [List.mem_cons, List.not_mem_nil, or_false] at h
 rcases h with rfl | rfl | rfl | rfl <;> rfl
theorem Wu (A : List Int) : (Bl A).length = lnN A /\ (Ej A).length = lnN A := by
 unfold Bl Ej
 simp
theorem Bh3 {A : List Int} {j : Nat} (hj : j < lnN A) : (Ej A)[j]? = some ((Eb A j).getD ⟨0, 0, 0, 0⟩) := by
 unfold Ej
 rw [List.getElem?_map, List.getElem?_range hj]; rfl
theorem Am4 {L : List Nat} {r : Sl} {b : Nat} (hr : Aq w r 3 1 (nv L)) (hb : w.heap[b]? = some (.cells #[.slice r.a r.len r.cap] 26 (0, 0))) :
  Uf w (.func (.func 60) #[] #[.pointer (some (at0 b))]) L := by
 intro W i so K e hs hK
 refine func_x (caps := #[.pointer (some (at0 b))]) (by kernel_rfl) ?_
 refine A60 ?_
 unfold F60
 have nvi : nv L = (L.map λ (n : Nat) => (n : Int)).map (Cell.int .i64).val := by rw [List.map_map]; rfl
 rw [nvi] at hr
 exact Dt (e.ext_get hb) (x := r) rfl (Iu (c := .int .i64) (hr.ext e) (by omega) (x := (so : Int)) (by rw [Int.toNat_natCast, List.getElem?_map, hs]; rfl) λ q => hK W (Ext.refl W))
set_option maxHeartbeats 1000000 in
theorem Aw3 {at_ kind count arg : Int} (h : Txt w p e lim na O M) (hcn : count < 2 ^ 63) {K : Cells.T c34 × Int × Unit -> Wp} (hK : ∀ w', Ext w w' -> K (spT (Md (atoms (aOf e M)) at_ kind count).1, (Md (atoms (aOf e M)) at_ kind count).2, ()) w') :
  Ac Tryz.prog 33 #[.pointer (some (at0 p)), .int .i64 at_, .agg (Cells.vals c39 (mvT kind count arg)).toArray] (.tup [(.agg c34), (.one (.int .i64))]) K w := by
 refine A33 (a2 := mvT kind count arg) ?_
 unfold F33
 have few := h.few; have lims := h.lims
 have hal := hal e M
 obtain ⟨A, hA⟩ : ∃ A, A = atoms (aOf e M) := ⟨_, rfl⟩
 rw [← hA] at hal
 rw [← hA] at hK
 unfold Md at hK
 rw [hal] at hK
 let Pt : Obj := .cells #[.pointer (some (at0 p))] 25 (0, 0)
 let Mv : Obj := .cells (Cells.vals c39 (mvT kind count arg)).toArray 39 (0, 0)
 let Z : Obj := .cells #[.int .i64 0, .int .i64 0, .int .i64 0] 34 (0, 0)
 refine (St.start w).Af λ b1 w1 S1 e1 => S1.Af λ b2 w2 S2 e2 => S2.Af λ b3 w3 S3 e3 => ?_
 have S3 : St (λ _ => False) w w3 [(b3, Z), (b2, Mv), (b1, Pt)] := S3
 refine S3.ld 2 rfl (x := some (at0 p)) rfl (S3.lds 1 (mvT kind count arg) rfl (Nl (h.ext S3.upd) λ w4 e4 => ?_))
 have S4 := S3.ext e4
 generalize hck : checked (aOf e M).length at_ kind count 69 70 = ck at *
 have fin : ∀ {W : World} {s : Int × Int × Int} {n : Int}, St (λ _ => False) w W [(b3, Z), (b2, Mv), (b1, Pt)] -> (∀ w', Ext w w' -> K (spT s, n, ()) w') -> Ad (at0 b3) (.agg #[.int .i64 s.1, .int .i64 s.2.1, .int .i64 s.2.2]) 3 (lds c34 (at0 b3) λ x => K (x, n, ())) W := λ {W s n} SW hk =>
  SW.Ad 0 rfl rfl rfl rfl λ w1 S1 _ => S1.lds 0 (spT s) rfl (hk w1 S1.upd)
 refine Aa (λ h0 => ?_) (λ h0 => ?_)
 ·simp only [bne_iff_ne, ne_eq] at h0
  rw [if_pos h0] at hK
  exact fin (s := (0, 0, 0)) S4 hK
 simp only [bne_eq_false_iff_eq] at h0
 rw [if_neg (by rw [h0]; decide)] at hK
 have hat : 0 <= at_ /\ at_ <= ((aOf e M).length : Int) := by
  unfold checked at hck
  split at hck
  ·omega
  ·split at hck <;> omega
 have hbrs : brs A <= A.length := by rw [Gz]; exact Tq _ _
 have hnl : lnN A <= A.length + 1 := by unfold lnN; split <;> omega
 refine S4.ld 2 rfl (x := some (at0 p)) rfl (Ao5 (h.ext S4.upd) λ w5 e5 => ?_)
 rw [← hA]
 generalize nb A at_.toNat = i at *
 have S5 := S4.ext e5
 refine S5.ld 2 rfl (x := some (at0 p)) rfl (Ap3 (h.ext S5.upd) λ w6 e6 => ?_)
 rw [← hA]
 have S6 := S5.ext e6
 refine Aa (λ h1 => ?_) (λ h1 => ?_)
 ·simp only [decide_eq_true_eq, ge_iff_le] at h1
  rw [if_pos (by omega)] at hK
  exact fin (s := (0, 0, 0)) S6 hK
 simp only [decide_eq_false_iff_not, ge_iff_le] at h1
 rw [if_neg (by omega)] at hK
 refine S6.Af λ b13 w7 S7 e7 => S7.Af λ b14 w8 S8 e8 => ?_
 let B13 : Sl -> Obj := λ r => .cells #[.slice r.a r.len r.cap] 95 (0, 0)
 let B14 : Sl -> Obj := λ r => .cells #[.slice r.a r.len r.cap] 26 (0, 0)
 let Ls : Sl -> Sl -> List (Nat × Obj) := λ r1 r2 => [(b14, B14 r2), (b13, B13 r1), (b3, Z), (b2, Mv), (b1, Pt)]
 have S8 : St (λ _ => False) w w8 (Ls ⟨none, 0, 0⟩ ⟨none, 0, 0⟩) := S8
 refine S8.ld 4 rfl (x := some (at0 p)) rfl ?_
 refine A59 ?_
 unfold F59
 refine S8.Af λ ba w9 S9 e9 => ?_
 have hba : w9.heap[ba]? = some (.cells #[.pointer (some (at0 p))] 25 (0, 0)) := S9.at_ 0 rfl
 have S9 : St (λ _ => False) w w9 (Ls ⟨none, 0, 0⟩ ⟨none, 0, 0⟩) := S9.tail
 have hbal := lt_of_heap hba
 have lt9 : ∀ x ∈ Ls ⟨none, 0, 0⟩ ⟨none, 0, 0⟩, x.1 < w9.heap.size := S9.lt
 have hb14 := lt9 _ (List.mem_cons_self)
 have hb13 := lt9 (b13, B13 ⟨none, 0, 0⟩) (by simp [Ls])
 have hsz : w.heap.size <= w9.heap.size := S9.upd.size
 have tx9 := h.ext S9.upd
 let Inv : Nat -> World -> Prop := λ j W => ∃ r1 r2, St (λ _ => False) w W (Ls r1 r2) /\ Ah W w9.heap.size r1 100 4 (flat Bj (((Ej A).take j).map lnT)) /\ Ah W w9.heap.size r2 3 1 (nv ((Bl A).take j)) /\
  W.heap[ba]? = some (.cells #[.pointer (some (at0 p))] 25 (0, 0)) /\ W.heap[w9.heap.size]? = some (.deferred (some []))
 obtain ⟨hsl, hal'⟩ := Wu A
 have invE : ∀ j W W', Inv j W -> Ext W W' -> Inv j W' := by
  rintro j W W' ⟨r1, r2, g1, g2, g3, g4, g5⟩ x
  exact ⟨r1, r2, g1.ext x, g2.ext x, g3.ext x, x.ext_get g4, x.ext_get g5⟩
 have invL : ∀ {j : Nat} {W W' : World}, Inv j W -> Upd (λ k => k = w9.heap.size + 1) W W' -> (∀ o, W.heap[w9.heap.size + 1]? = some o -> ∃ lo, o = .loop lo) -> Inv j W' := by
  rintro j W W' ⟨r1, r2, g1, g2, g3, g4, g5⟩ u hlo
  have nt : ∀ t, Eh W (λ k => k = w9.heap.size + 1) t := by
   rintro t k rfl c fr hc
   obtain ⟨lo, hh⟩ := hlo _ hc
   cases hh
  refine ⟨r1, r2, g1.fresh u (λ k hk => .inr (by omega)) (λ x hx hk => ?_), g2.ty u (nt _), g3.ty u (nt _), u.get g4 (by omega), u.get g5 (by omega)⟩
  have hx9 : x.1 < w9.heap.size := by
   have : x.1 ∈ (Ls ⟨none, 0, 0⟩ ⟨none, 0, 0⟩).map (·.1) := List.mem_map.2 ⟨x, hx, rfl⟩ |> λ h => by simpa [Ls] using h
   obtain ⟨y, hy, he⟩ := List.mem_map.1 this
   rw [← he]; exact lt9 y hy
  omega
 subst hA
 refine Bj9 (p := p) (e := e) (lim := lim) (na := na) (O := O) (M := M) (b1 := ba) (λ s => rfl) Inv ?_ invE ?_ ?_ ?_
 ·rintro j W ⟨r1, r2, g1, g2, g3, g4, g5⟩
  exact ⟨h.ext g1.upd, g4, g5⟩
 ·intro W x hd _
  exact ⟨_, _, S9.ext x, Ah.nil _ _ _ _, Ah.nil _ _ _ _, x.ext_get hba, hd⟩
 ·
  rintro rc j l R W hj hl ⟨r1, r2, g1, g2, g3, g4, g5⟩ hlp hR
  have hok := Oo hl
  have ft := hok.ft; have tn := hok.tn; have nl := hok.nl
  have hjl : (Ej (atoms (aOf e M)))[j]? = some l := by rw [Bh3 hj, hl]; rfl
  have hjs : (Bl (atoms (aOf e M)))[j]? = some (Nu (atoms (aOf e M)) l) := by unfold Bl; rw [List.getElem?_map, hjl]; rfl
  have l1 := Ah.Jq (cs := Bj) g2 (by decide)
  rw [List.length_map, List.length_take] at l1
  have l2 := g3.len1
  rw [List.length_map, List.length_take] at l2
  refine g1.Rt λ b22 W1 T1 x1 hb22 => T1.Ad 0 rfl rfl rfl rfl λ W2 T2 u2 => ?_
  have x2 : Ext W W2 := x1.step u2 λ k hk => by omega
  have lp2 := x2.ext_get hlp
  refine ⟨lp2, ?_⟩
  obtain ⟨u3, lp3⟩ := Gt (o' := .loop (rc .busy none)) lp2
  generalize W2.putObj (w9.heap.size + 1) (.loop (rc .busy none)) = W3 at *
  let Ls' : Sl -> Sl -> List (Nat × Obj) := λ r1 r2 => (b22, .cells (Cells.vals Bj (lnT l)).toArray 100 (0, 0)) :: Ls r1 r2
  have hlW : w9.heap.size + 1 < W.heap.size := lt_of_heap hlp
  have nt3 : ∀ t, Eh W2 (λ k => k = w9.heap.size + 1) t := by
   rintro t k rfl c fr hc
   rw [lp2] at hc; cases hc
  have T3 : St (λ _ => False) w W3 (Ls' r1 r2) := by
   refine St.fresh (ls := Ls' r1 r2) T2 u3 (λ k hk => .inr (by omega)) (λ x hx hk => ?_)
   rcases List.mem_cons.1 hx with rfl | hx
   ·simp only at hk; omega
   ·have : x.1 ∈ (Ls ⟨none, 0, 0⟩ ⟨none, 0, 0⟩).map (·.1) := List.mem_map.2 ⟨x, hx, rfl⟩ |> λ h => by simpa [Ls] using h
    obtain ⟨y, hy, he⟩ := List.mem_map.1 this
    have := lt9 y hy
    omega
  have o1 : Ah W3 w9.heap.size r1 100 4 (flat Bj (((Ej (atoms (aOf e M))).take j).map lnT)) := (g2.ext x2).ty u3 (nt3 _)
  have o2 : Ah W3 w9.heap.size r2 3 1 (nv ((Bl (atoms (aOf e M))).take j)) := (g3.ext x2).ty u3 (nt3 _)
  have d3 : W3.heap[w9.heap.size]? = some (.deferred (some [])) := u3.get (x2.ext_get g5) (by omega)
  have a3 : W3.heap[ba]? = some (.cells #[.pointer (some (at0 p))] 25 (0, 0)) := u3.get (x2.ext_get g4) (by omega)
  have lt1 : ∀ k, r1.blk k -> k < W.heap.size := λ k hk => g2.in.Og hk
  have lt2 : ∀ k, r2.blk k -> k < W.heap.size := λ k hk => g3.in.Og hk
  have s3 : W.heap.size <= W3.heap.size := by have := x2.size; have := u3.size; omega
  refine Ae (λ x W' => x = (((Nu (atoms (aOf e M)) l : Nat) : Int), ()) /\ Ext W3 W') ?_ ?_
  ·refine T3.ld 5 rfl (x := some (at0 p)) rfl (T3.ld 0 rfl (x := (l.from_ : Int)) rfl (T3.ld 0 rfl (x := (l.to_ : Int)) rfl ?_))
   refine Jf (h.ext T3.upd) λ s W4 o4 x4 => ?_
   rw [Ba7] at o4
   refine Rh (off := 0) o4.in (by rw [List.length_take, List.length_drop]; omega) (by decide) λ s2 W5 o5 x5 _ => ?_
   unfold Nu
   have hcl := Gx (((atoms (aOf e M)).drop l.from_).take (l.to_ - l.from_)) 0
   rw [List.length_take, List.length_drop] at hcl
   generalize Bg (((atoms (aOf e M)).drop l.from_).take (l.to_ - l.from_)) 0 = C at *
   have hCl := Jj.Aj7 o5
   refine Am (λ x W' => ∃ q : Nat, q <= C.length /\ x = (0, (q : Int), ()) /\ Ext W5 W' /\ (C.take q).any (λ c => c.kind != 0) = false) (λ x _ => ((C.length : Int) - x.2.1).toNat) ⟨0, Nat.zero_le _, rfl, Ext.refl _, rfl⟩ ?_
   rintro _ W6 ⟨q, hq, rfl, x6, hno⟩
   refine Aa (λ hc => ?_) (λ hc => ?_)
   ·simp only [decide_eq_true_eq] at hc
    obtain ⟨c, hc'⟩ : ∃ c, C[q]? = some c := ⟨_, List.getElem?_eq_getElem (by omega)⟩
    refine Qw (o5.ext x6) hc' λ qq => (St.start W6).Af λ b34 W7 T7 x7 => T7.Ad 0 rfl rfl rfl rfl λ W8 T8 u8 => T8.ld 0 rfl (x := (c.kind : Int)) rfl (Aa (λ hk => ?_) (λ hk => ?_))
    ·simp only [bne_iff_ne, ne_eq] at hk
     have hany : C.any (λ c => c.kind != 0) = true := by
      rw [List.any_eq_true]
      exact ⟨c, List.mem_of_getElem? hc', by rw [bne_iff_ne]; omega⟩
     exact ⟨by rw [if_pos hany]; rfl, (x4.trans x5).trans (x6.trans T8.upd)⟩
    ·simp only [bne_eq_false_iff_eq] at hk
     have ew : W64 ((q : Int) + 1) = ((q + 1 : Nat) : Int) := by rw [wrap64 (by omega) (by omega)]; omega
     rw [ew]
     refine ⟨⟨q + 1, by omega, rfl, x6.trans T8.upd, ?_⟩, by dsimp only; omega⟩
     rw [List.take_add_one, hc', List.any_append, hno]
     have : c.kind = 0 := by omega
     simp [this]
   ·simp only [decide_eq_false_iff_not] at hc
    have : q = C.length := by omega
    subst this
    rw [List.take_length] at hno
    exact ⟨by rw [if_neg (by rw [hno]; decide)]; rfl, (x4.trans x5).trans x6⟩
  rintro _ W4 ⟨rfl, x4⟩
  generalize hso : Nu (atoms (aOf e M)) l = so at *
  refine Fg λ W5 x5 _ => ?_
  have x35 := x4.trans x5
  have T5 := T3.ext x35
  have st5 : W.heap.size <= W5.heap.size := Nat.le_trans s3 x35.size
  have stepL : ∀ {V : World} {r2' : Sl} {b : Nat} {J : Sl -> Wp}, Ext W5 V -> V.heap[b]? = some (.cells (Cells.vals Bj (lnT l)).toArray 100 (0, 0)) -> St (λ _ => False) w V (Ls' r1 r2) ->
    (∀ r1' V', Ah V' w9.heap.size r1' 100 4 (flat Bj (((Ej (atoms (aOf e M))).take (j + 1)).map lnT)) -> Upd r1.blk V V' -> St (λ _ => False) w V' (Ls' r1 r2) -> J r1' V') ->
    Df Tryz.prog (.one (.one .sl)) (Builtin.append_ #[95, 95] 95 #[.slice r1.a r1.len r1.cap, .slice (some (at0 b)) 1 1]) J V := by
   intro V _ b J xV hb SV hJ
   have hbox : SlX V ⟨some (at0 b), 1, 1⟩ 4 (flat Bj [lnT l]) := (Aq.Hr hb (n := 1) (sz := 4) rfl).x
   refine Du Bp9 Bp9.ts_ (x := ⟨some (at0 b), 1, 1⟩) ((o1.ext x35).ext xV) hbox (Ca2 l) (by
    show (r1.len + 1 + (r1.len + 1) / 4 + 512) * 32 <= 2 ^ 48
    omega) (by have := xV.size; omega) λ r1' V' ov lv uv kv => hJ r1' V' ?_ uv ?_
   ·have ee : flat Bj (((Ej (atoms (aOf e M))).take j).map lnT) ++ flat Bj [lnT l] = flat Bj (((Ej (atoms (aOf e M))).take (j + 1)).map lnT) := by
     rw [List.take_add_one, hjl, List.map_append, Gq]; rfl
    rw [ee] at ov; exact ov
   ·refine SV.fresh uv (λ k hk => .inr (by have := g2.Di hk; omega)) (λ x hx hk => ?_)
    rcases List.mem_cons.1 hx with rfl | hx
    ·have := lt1 _ hk; simp only at this; omega
    ·have : x.1 ∈ (Ls ⟨none, 0, 0⟩ ⟨none, 0, 0⟩).map (·.1) := List.mem_map.2 ⟨x, hx, rfl⟩ |> λ h => by simpa [Ls] using h
     obtain ⟨y, hy, he⟩ := List.mem_map.1 this
     have h1 := lt9 y hy
     have h2 := g2.Di hk
     omega
  have stepS : ∀ {V : World} {b : Nat} {J : Sl -> Wp}, Ah V w9.heap.size r2 3 1 (nv ((Bl (atoms (aOf e M))).take j)) -> W.heap.size <= V.heap.size -> V.heap[b]? = some (.cells #[.int .i64 (so : Int)] 3 (0, 0)) -> St (λ _ => False) w V (Ls' r1 r2) ->
    (∀ r2' V', Ah V' w9.heap.size r2' 3 1 (nv ((Bl (atoms (aOf e M))).take (j + 1))) -> Upd r2.blk V V' -> St (λ _ => False) w V' (Ls' r1 r2) -> J r2' V') ->
    Df Tryz.prog (.one (.one .sl)) (Builtin.append_ #[26, 26] 26 #[.slice r2.a r2.len r2.cap, .slice (some (at0 b)) 1 1]) J V := by
   intro V b J oV sV hb SV hJ
   refine Du Ru Ru.ts_ (x := ⟨some (at0 b), 1, 1⟩) oV (Zl hb) (λ v hv => by rw [List.mem_singleton.1 hv]; rfl) (by
    show (r2.len + 1 + (r2.len + 1) / 4 + 512) * 8 <= 2 ^ 48
    omega) (by omega) λ r2' V' ov lv uv kv => hJ r2' V' ?_ uv ?_
   ·have ee : nv ((Bl (atoms (aOf e M))).take j) ++ [.int .i64 (so : Int)] = nv ((Bl (atoms (aOf e M))).take (j + 1)) := by
     rw [List.take_add_one, hjs]; simp
    rw [ee] at ov; exact ov
   ·refine SV.fresh uv (λ k hk => .inr (by have := g3.Di hk; omega)) (λ x hx hk => ?_)
    rcases List.mem_cons.1 hx with rfl | hx
    ·have := lt2 _ hk; simp only at this; omega
    ·have : x.1 ∈ (Ls ⟨none, 0, 0⟩ ⟨none, 0, 0⟩).map (·.1) := List.mem_map.2 ⟨x, hx, rfl⟩ |> λ h => by simpa [Ls] using h
     obtain ⟨y, hy, he⟩ := List.mem_map.1 this
     have h1 := lt9 y hy
     have h2 := g3.Di hk
     omega
  have finR : ∀ {V : World} {r1' r2' : Sl}, St (λ _ => False) w V (Ls' r1 r2) -> Ah V w9.heap.size r1' 100 4 (flat Bj (((Ej (atoms (aOf e M))).take (j + 1)).map lnT)) -> Ah V w9.heap.size r2' 3 1 (nv ((Bl (atoms (aOf e M))).take (j + 1))) ->
    V.heap[w9.heap.size]? = some (.deferred (some [])) -> V.heap[ba]? = some (.cells #[.pointer (some (at0 p))] 25 (0, 0)) -> V.heap[w9.heap.size + 1]? = some (.loop (rc .busy none)) ->
    stC (at0 b13) (.slice r1'.a r1'.len r1'.cap) (stC (at0 b14) (.slice r2'.a r2'.len r2'.cap) (Ac2 (w9.heap.size + 1) rc none R)) V := by
   intro V r1' r2' SV q1 q2 q3 q4 q5
   refine SV.stC 2 rfl Nat.one_pos λ V1 SV1 uv1 => SV1.stC 1 rfl Nat.one_pos λ V2 SV2 uv2 => ?_
   have p1 := Ah.box (Ah.box q1 (SV.at_ 2 rfl) (by decide) uv1) (SV1.at_ 1 rfl) (by decide) uv2
   have p2 := Ah.box (Ah.box q2 (SV.at_ 2 rfl) (by decide) uv1) (SV1.at_ 1 rfl) (by decide) uv2
   have gg : ∀ {k : Nat} {o : Obj}, k ≠ b13 -> k ≠ b14 -> V.heap[k]? = some o -> V2.heap[k]? = some o := λ h13 h14 ho => uv2.get (uv1.get ho h13) h14
   have p5 := gg (by omega) (by omega) q5
   refine ⟨⟨_, _, p5⟩, ?_⟩
   obtain ⟨uv3, lpv⟩ := Gt (o' := .loop (rc .ready none)) p5
   refine hR _ (invL ⟨r1', r2', SV2.tail, p1, p2, gg (λ hc => by rw [hc] at q4; rw [SV.at_ 2 rfl] at q4; cases q4) (λ hc => by rw [hc] at q4; rw [SV.at_ 1 rfl] at q4; cases q4) q4, gg (by omega) (by omega) q3⟩ uv3 λ o ho => by rw [p5] at ho; cases ho; exact ⟨_, rfl⟩) lpv
  have d5 := x35.ext_get d3
  have a5 := x35.ext_get a3
  have lp5 := x35.ext_get lp3
  have keep1 : ∀ {V V' : World} {k : Nat} {o : Obj}, Upd r1.blk V V' -> V.heap[k]? = some o -> (∀ c fr, o ≠ .cells c 100 fr) -> Ah V w9.heap.size r1 100 4 (flat Bj (((Ej (atoms (aOf e M))).take j).map lnT)) -> V'.heap[k]? = some o := by
   intro V V' k o u ho hc ov
   refine u.get ho λ hk => ?_
   obtain ⟨c, fr, hcc⟩ := ov.in.Ec hk
   rw [ho] at hcc
   exact hc c fr (Option.some.inj hcc)
  have keep2 : ∀ {V V' : World} {k : Nat} {o : Obj}, Upd r2.blk V V' -> V.heap[k]? = some o -> (∀ c fr, o ≠ .cells c 3 fr) -> Ah V w9.heap.size r2 3 1 (nv ((Bl (atoms (aOf e M))).take j)) -> V'.heap[k]? = some o := by
   intro V V' k o u ho hc ov
   refine u.get ho λ hk => ?_
   obtain ⟨c, fr, hcc⟩ := ov.in.Ec hk
   rw [ho] at hcc
   exact hc c fr (Option.some.inj hcc)
  refine T5.ld 2 rfl (x := r1) rfl (T5.lds 0 (lnT l) rfl (T5.ld 1 rfl (x := r2) rfl ?_))
  have tail1 : ∀ {V' : World} {r1' : Sl} {b : Nat}, St (λ _ => False) w V' (Ls' r1 r2) -> Ah V' w9.heap.size r1' 100 4 (flat Bj (((Ej (atoms (aOf e M))).take (j + 1)).map lnT)) -> V'.heap[b]? = some (.cells #[.int .i64 (so : Int)] 3 (0, 0)) -> W.heap.size <= V'.heap.size ->
    Ah V' w9.heap.size r2 3 1 (nv ((Bl (atoms (aOf e M))).take j)) -> V'.heap[w9.heap.size]? = some (.deferred (some [])) -> V'.heap[ba]? = some (.cells #[.pointer (some (at0 p))] 25 (0, 0)) -> V'.heap[w9.heap.size + 1]? = some (.loop (rc .busy none)) ->
    Df Tryz.prog (.one (.one .sl)) (Builtin.append_ #[26, 26] 26 #[.slice r2.a r2.len r2.cap, .slice (some (at0 b)) 1 1]) (λ x42 => stC (at0 b13) (.slice r1'.a r1'.len r1'.cap) (stC (at0 b14) (.slice x42.a x42.len x42.cap) (Ac2 (w9.heap.size + 1) rc none R))) V' := by
   intro V' r1' b SV q1 hb sV q2 q3 q4 q5
   refine stepS q2 sV hb SV λ r2' V2 ov2 u2 SV2 => ?_
   exact finR SV2 (q1.ty u2 (λ k hk c fr hc => by
    obtain ⟨c', fr', hc'⟩ := q2.in.Ec hk
    rw [hc'] at hc; cases hc)) ov2 (keep2 u2 q3 (λ _ _ h => by cases h) q2) (keep2 u2 q4 (λ _ _ h => by cases h) q2) (keep2 u2 q5 (λ _ _ h => by cases h) q2)
  have after1 : ∀ {V V' : World}, Ext W5 V -> Upd r1.blk V V' -> Ah V' w9.heap.size r2 3 1 (nv ((Bl (atoms (aOf e M))).take j)) /\ V'.heap[w9.heap.size]? = some (.deferred (some [])) /\ V'.heap[ba]? = some (.cells #[.pointer (some (at0 p))] 25 (0, 0)) /\ V'.heap[w9.heap.size + 1]? = some (.loop (rc .busy none)) := by
   intro V V' xV uV
   have ov := (o1.ext x35).ext xV
   exact ⟨((o2.ext x35).ext xV).ty uV (λ k hk c fr hc => by
    obtain ⟨c', fr', hc'⟩ := ov.in.Ec hk
    rw [hc'] at hc; cases hc), keep1 uV (xV.ext_get d5) (λ _ _ h => by cases h) ov, keep1 uV (xV.ext_get a5) (λ _ _ h => by cases h) ov, keep1 uV (xV.ext_get lp5) (λ _ _ h => by cases h) ov⟩
  refine ⟨?_, ?_⟩
  ·
   refine T5.Rt λ b39 V1 SV1 xv1 hb39 => SV1.keep 2 rfl (v := .slice r2.a r2.len r2.cap) rfl (SV1.keeps 1 (x := lnT l) rfl (SV1.keep 3 rfl (v := .slice r1.a r1.len r1.cap) rfl ?_))
   refine SV1.Af λ b40 V2 SV2 xv2 => SV2.keep 3 rfl (v := .slice r2.a r2.len r2.cap) rfl (SV2.keep 4 rfl (v := .slice r1.a r1.len r1.cap) rfl ?_)
   have xv := xv1.trans xv2
   refine stepL (r2' := r2) xv (SV2.at_ 0 rfl) SV2.tail.tail λ r1' V3 ov3 u3 SV3 => SV3.keep 1 rfl (v := .slice r2.a r2.len r2.cap) rfl ?_
   obtain ⟨z1, z2, z3, z4⟩ := after1 xv u3
   exact tail1 SV3 ov3 (keep1 u3 (SV2.at_ 1 rfl) (λ _ _ h => by cases h) ((o1.ext x35).ext xv)) (by have := xv.size; have := u3.size; omega) z1 z2 z3 z4
  ·refine T5.Af λ b43 V1 SV1 xv1 => SV1.keep 2 rfl (v := .slice r2.a r2.len r2.cap) rfl (SV1.keep 3 rfl (v := .slice r1.a r1.len r1.cap) rfl ⟨?_, ?_⟩)
   ·refine SV1.Rt λ b44 V2 SV2 xv2 hb44 => SV2.keep 3 rfl (v := .slice r2.a r2.len r2.cap) rfl (SV2.keeps 2 (x := lnT l) rfl (SV2.keep 4 rfl (v := .slice r1.a r1.len r1.cap) rfl ?_))
    have xv := xv1.trans xv2
    refine stepL (r2' := r2) xv (SV2.at_ 1 rfl) SV2.tail.tail λ r1' V3 ov3 u3 SV3 => SV3.keep 1 rfl (v := .slice r2.a r2.len r2.cap) rfl ?_
    obtain ⟨z1, z2, z3, z4⟩ := after1 xv u3
    exact tail1 SV3 ov3 (keep1 u3 (SV2.at_ 0 rfl) (λ _ _ h => by cases h) ((o1.ext x35).ext xv)) (by have := xv.size; have := u3.size; omega) z1 z2 z3 z4
   ·refine stepL (r2' := r2) xv1 (SV1.at_ 0 rfl) SV1.tail λ r1' V3 ov3 u3 SV3 => SV3.keep 1 rfl (v := .slice r2.a r2.len r2.cap) rfl ⟨?_, trivial⟩
    obtain ⟨z1, z2, z3, z4⟩ := after1 xv1 u3
    refine SV3.Af λ b48 V4 SV4 xv4 => SV4.keep 2 rfl (v := .slice r2.a r2.len r2.cap) rfl (SV4.keeps 1 (x := lnT l) rfl (SV4.keep 3 rfl (v := .slice r1.a r1.len r1.cap) rfl ?_))
    exact tail1 SV4.tail (ov3.ext xv4) (SV4.at_ 0 rfl) (by have := xv1.size; have := u3.size; have := xv4.size; omega) (z1.ext xv4) (xv4.ext_get z2) (xv4.ext_get z3) (xv4.ext_get z4)
 ·
  intro W W' hI hD uW hlo
  obtain ⟨r1, r2, g1, g2, g3, g4, g5⟩ := invL hI uW hlo
  rw [List.take_of_length_le (by omega)] at g2
  rw [List.take_of_length_le (by omega)] at g3
  have l1 := Ah.Jq (cs := Bj) g2 (by decide)
  rw [List.length_map] at l1
  show (ld .sl (at0 b13) _) W'
  refine g1.ld 1 rfl (x := r1) rfl (g1.Af λ b70 V1 SV1 xv1 => SV1.Ad 0 rfl rfl rfl rfl λ V2 SV2 uv2 => ?_)
  have q3 : Aq V2 r2 3 1 (nv (Bl (atoms (aOf e M)))) := Aq.box (g3.in.ext xv1) (SV1.at_ 0 rfl) (by decide) uv2
  have q2 : Aq V2 r1 100 4 (flat Bj ((Ej (atoms (aOf e M))).map lnT)) := Aq.box (g2.in.ext xv1) (SV1.at_ 0 rfl) (by decide) uv2
  have d2 : V2.heap[w9.heap.size]? = some (.deferred (some [])) := uv2.get (xv1.ext_get g5) λ hc => by
   have := SV1.at_ 0 rfl
   rw [← hc, xv1.ext_get g5] at this
   cases this
  have el : ((r1.len : Nat) : Int) = (((Bl (atoms (aOf e M))).length : Nat) : Int) := by omega
  rw [el] at SV2
  have hf : Uf V2 (.func (.func 60) #[] #[.pointer (some (at0 b14))]) (Bl (atoms (aOf e M))) := Am4 q3 (SV2.at_ 1 rfl)
  let F : Value := .func (.func 60) #[] #[.pointer (some (at0 b14))]
  let R : Value := .agg (Cells.vals c89 (rowT (Bl (atoms (aOf e M))).length F)).toArray
  refine SV2.lds 0 (rowT (Bl (atoms (aOf e M))).length F) rfl ?_
  refine Ae (λ x W => x = ((if kind = 70 then (.func (.func 54) #[R] #[] : Value) else .func (.func 53) #[R] #[]), ()) /\ V2 = W) ?_ ?_
  ·refine SV2.ld 4 rfl (x := kind) rfl (Aa (λ h => ?_) (λ h => ?_))
   ·simp only [beq_iff_eq] at h
    rw [if_pos h]
    exact SV2.lds 0 (rowT (Bl (atoms (aOf e M))).length F) rfl ⟨rfl, rfl⟩
   ·simp only [beq_eq_false_iff_ne, ne_eq] at h
    rw [if_neg h]
    exact ⟨rfl, rfl⟩
  rintro _ _ ⟨rfl, rfl⟩
  refine SV2.lds 4 (mvT kind count arg) rfl (Ns hcn λ V3 xv3 => ?_)
  have SV3 := SV2.ext xv3
  have tp := Pq count
  have tl := Sm hcn
  have hil : i < (Bl (atoms (aOf e M))).length := by omega
  have hll : (Bl (atoms (aOf e M))).length < 2 ^ 60 := by omega
  have fin2 : ∀ V, Ext V3 V -> (λ (x78 : Int × Int × Bool × Unit) => sif (!x78.2.2.1) (Ad (at0 b3) (.agg #[.int .i64 0, .int .i64 0, .int .i64 0]) 3 (O4 w9.heap.size (lds c34 (at0 b3) λ x79 => K (x79, 90, ()))))
    (drew (ld .sl (at0 b13) λ x80 => ix x80.a x80.len x78.1 λ p81 => ld (.int .i64) (p81.add (scaled (Int.toNat x78.1) 4)) λ x82 => ld .sl (at0 b13) λ x83 => ix x83.a x83.len (W64 (x78.2.1 - 1)) λ p84 => ld (.int .i64) ((p84.add (scaled (Int.toNat (W64 (x78.2.1 - 1))) 4)).add 2) λ x85 =>
     Ad (at0 b3) (.agg #[.int .i64 x82, .int .i64 x85, .int .i64 1]) 3 (O4 w9.heap.size (lds c34 (at0 b3) λ x86 => K (x86, 0, ())))))) (Xt (Vm (decide (kind = 70)) (Bl (atoms (aOf e M))) i (times count))) V := by
   intro V xV
   have SV := SV3.ext xV
   have last : ∀ {V : World} {s : Int × Int × Int} {n : Int}, St (λ _ => False) w V [(b70, .cells (Cells.vals c89 (rowT (Bl (atoms (aOf e M))).length F)).toArray 89 (0, 0)), (b14, B14 r2), (b13, B13 r1), (b3, Z), (b2, Mv), (b1, Pt)] -> V.heap[w9.heap.size]? = some (.deferred (some [])) -> (∀ w', Ext w w' -> K (spT s, n, ()) w') ->
     Ad (at0 b3) (.agg #[.int .i64 s.1, .int .i64 s.2.1, .int .i64 s.2.2]) 3 (O4 w9.heap.size (lds c34 (at0 b3) λ x => K (x, n, ()))) V := by
    intro V s n SV hD hk
    refine SV.Ad 3 rfl rfl rfl rfl λ V1 SV1 uv1 => ?_
    have b3lt := lt9 (b3, Z) (by simp [Ls])
    have hD1 : V1.heap[w9.heap.size]? = some (.deferred (some [])) := uv1.get hD (by simp only at b3lt; omega)
    refine ⟨hD1, ?_⟩
    obtain ⟨uv2, _⟩ := Gt (o' := .deferred none) hD1
    have SV2 := SV1.fresh uv2 (λ k hk => .inr (by omega)) (λ x hx hk => by
     have := (SV1.loc x hx).1
     rw [hk, hD1] at this
     have h2 := Option.some.inj this
     simp only [List.set_cons_succ, List.set_cons_zero, List.mem_cons, List.not_mem_nil, or_false] at hx
     rcases hx with rfl | rfl | rfl | rfl | rfl | rfl <;> cases h2)
    exact SV2.lds 3 (spT s) rfl (hk _ SV2.upd)
   have dV : V.heap[w9.heap.size]? = some (.deferred (some [])) := (xv3.trans xV).ext_get d2
   cases hp : Vm (decide (kind = 70)) (Bl (atoms (aOf e M))) i (times count) with
   | none =>
    rw [hp] at hK
    exact Cm (last (s := (0, 0, 0)) SV dV hK)
   | some ft =>
    obtain ⟨f, t⟩ := ft
    rw [hp] at hK
    have hb : f <= i /\ i < t /\ t <= (Bl (atoms (aOf e M))).length := by
     unfold Vm at hp
     split at hp
     ·exact Ab1 hp
     ·exact Af4 hp
    obtain ⟨c, hc⟩ : ∃ c, (Ej (atoms (aOf e M)))[f]? = some c := ⟨_, List.getElem?_eq_getElem (by omega)⟩
    obtain ⟨d, hd⟩ : ∃ d, (Ej (atoms (aOf e M)))[t - 1]? = some d := ⟨_, List.getElem?_eq_getElem (by omega)⟩
    dsimp only at hK
    rw [hc, hd] at hK
    simp only [Option.map_some, Option.getD_some] at hK
    have ew : W64 ((t : Int) - 1) = ((t - 1 : Nat) : Int) := by rw [wrap64 (by omega) (by omega)]; omega
    refine Au (SV.drew λ V4 SV4 xv4 _ => ?_)
    have q4 := q2.ext ((xv3.trans xV).trans xv4)
    dsimp only [Xt]
    rw [ew]
    refine SV4.ld 2 rfl (x := r1) rfl (Uy (cs := Bj) (c := .int .i64) q4 (by omega) (x := lnT c) (y := (c.from_ : Int)) (by rw [Int.toNat_natCast, List.getElem?_map, hc]; rfl) rfl λ q1 => SV4.ld 2 rfl (x := r1) rfl (Tv (cs := Bj) (c := .int .i64) (j := 2) q4 (by omega) (x := lnT d) (y := (d.next : Int)) (by rw [Int.toNat_natCast, List.getElem?_map, hd]; rfl) rfl λ q2 => ?_))
    exact last (s := (c.from_, d.next, 1)) SV4 (xv4.ext_get dV) hK
  by_cases hk : kind = 70
  ·rw [if_pos hk]
   have fin' := fin2
   rw [decide_eq_true hk] at fin'
   exact func_m (a := R) (by kernel_rfl) (L9 (hf.ext xv3) rfl hil hll tp tl fin')
  ·rw [if_neg hk]
   have fin' := fin2
   rw [decide_eq_false hk] at fin'
   exact func_m (a := R) (by kernel_rfl) (Z7 (hf.ext xv3) rfl hil hll tp tl fin')
theorem Ad0 {at_ kind count arg : Int} (h : Txt w p e lim na O M) (hcn : count < 2 ^ 63) {K : Cells.T c34 × Int × Unit -> Wp} (hK : ∀ w', Ext w w' -> K (spT (Px (atoms (aOf e M)) at_ kind count arg).1, (Px (atoms (aOf e M)) at_ kind count arg).2, ()) w') :
  Ac Tryz.prog 20 #[.pointer (some (at0 p)), .int .i64 at_, .agg (Cells.vals c39 (mvT kind count arg)).toArray] (.tup [(.agg c34), (.one (.int .i64))]) K w := by
 refine A20 (a2 := mvT kind count arg) ?_
 unfold F20
 unfold Px at hK
 let Mv : Obj := .cells (Cells.vals c39 (mvT kind count arg)).toArray 39 (0, 0)
 let Z : Obj := .cells #[.int .i64 0, .int .i64 0, .int .i64 0] 34 (0, 0)
 refine (St.start w).Af λ b1 w1 S1 e1 => S1.Af λ b2 w2 S2 e2 => ?_
 have S2 : St (λ _ => False) w w2 [(b2, Z), (b1, Mv)] := S2
 have h2 := h.ext S2.upd
 have fin : ∀ {W : World} {s : Int × Int × Int} {n : Int}, Ext w2 W -> (∀ w', Ext w w' -> K (spT s, n, ()) w') -> Ad (at0 b2) (.agg #[.int .i64 s.1, .int .i64 s.2.1, .int .i64 s.2.2]) 3 (lds c34 (at0 b2) λ x => K (x, n, ())) W := λ {W s n} x hk =>
  (S2.ext x).Ad 0 rfl rfl rfl rfl λ w1 S1 _ => S1.lds 0 (spT s) rfl (hk w1 S1.upd)
 refine S2.ld 1 rfl (x := kind) rfl (Aa (λ h64 => ?_) (λ h64 => ?_))
 ·simp only [decide_eq_true_eq] at h64
  rw [if_pos h64] at hK
  exact S2.lds 1 (mvT kind count arg) rfl (At6 h2 hcn λ w3 x3 => fin x3 hK)
 simp only [decide_eq_false_iff_not] at h64
 rw [if_neg h64] at hK
 refine S2.ld 1 rfl (x := kind) rfl (Aa (λ h66 => ?_) (λ h66 => ?_))
 ·simp only [decide_eq_true_eq] at h66
  rw [if_pos h66] at hK
  exact S2.lds 1 (mvT kind count arg) rfl (An3 h2 hcn λ w3 x3 => fin x3 hK)
 simp only [decide_eq_false_iff_not] at h66
 rw [if_neg h66] at hK
 refine S2.ld 1 rfl (x := kind) rfl (Aa (λ h68 => ?_) (λ h68 => ?_))
 ·simp only [decide_eq_true_eq] at h68
  rw [if_pos h68] at hK
  exact S2.lds 1 (mvT kind count arg) rfl (Ar8 h2 hcn λ w3 x3 => fin x3 hK)
 ·simp only [decide_eq_false_iff_not] at h68
  rw [if_neg h68] at hK
  exact S2.lds 1 (mvT kind count arg) rfl (Aw3 h2 hcn λ w3 x3 => fin x3 hK)
end
end Go.Proofs.YtabcpghhfeplaaaGreat
namespace Go.Proofs.YtabcpghhfeplaaaGreat
open Go Go.Vx Go.ChangeShapes Go.WideShapes Go.RowKit Cdc
theorem Tryz.own : ownKnob Tryz.prog.godebug = none := by kernel_rfl
theorem Tryz.laidOut : laidOutB Tryz.prog = true := by kernel_rfl
theorem ui : Tryz.prog.underlying 3 = some (.int .i64) := C3.und
theorem ub : Tryz.prog.underlying 5 = some (.int .u8) := C5.und
theorem u4 : Tryz.prog.underlying 4 = some .bool := C4.und
theorem Cc3 : Tryz.prog.underlying 26 = some (.slice 3) := C26.und
theorem By1 : Tryz.prog.underlying 22 = some (.slice 5) := C22.und
theorem Cc2 : Tryz.prog.underlying 41 = some (.slice 43) := by kernel_rfl
theorem ci : Tryz.prog.cellsOf 3 = 1 := by kernel_rfl
theorem bi : Tryz.prog.bytesOf 3 = 8 := by kernel_rfl
theorem cby : Tryz.prog.cellsOf 5 = 1 := by kernel_rfl
theorem bby : Tryz.prog.bytesOf 5 = 1 := by kernel_rfl
theorem cbs : Tryz.prog.cellsOf 22 = 1 := by kernel_rfl
theorem cis : Tryz.prog.cellsOf 26 = 1 := by kernel_rfl
theorem Cb1 : Tryz.prog.cellsOf 24 = 2 := by kernel_rfl
theorem cop : Tryz.prog.cellsOf 43 = 7 := by kernel_rfl
theorem bop : Tryz.prog.bytesOf 43 = 72 := by kernel_rfl
theorem sStart : ∃ fs : Array Field, Tryz.prog.underlying 24 = some (.struct fs) /\ fs.toList.map (λ f => (f.type, f.offset)) = [(3, 0), (22, 1)] := ⟨_, C24.und, rfl⟩
theorem sOp : ∃ fs : Array Field, Tryz.prog.underlying 43 = some (.struct fs) /\ fs.toList.map (λ f => (f.type, f.offset)) = [(3, 0), (3, 1), (3, 2), (3, 3), (3, 4), (3, 5), (26, 6)] := ⟨_, C43.und, rfl⟩
theorem W9 {cs : List Cell} {β : Type} {Q : Cells.T cs -> β -> Prop} : ∀ (rows : List (List Value)), (∀ r ∈ rows, ∃ x y, r = Cells.vals cs x /\ Q x y) -> ∃ (xs : List (Cells.T cs)) (ys : List β), rows.flatten = flat cs xs /\ xs.length = rows.length /\ xs.length = ys.length /\ ∀ (i : Nat) x y, xs[i]? = some x -> ys[i]? = some y -> Q x y
 | [], _ => ⟨[], [], rfl, rfl, rfl, λ i x y hx => by simp at hx⟩
 | r :: rs, h => by
  obtain ⟨x, y, hx, hq⟩ := h r List.mem_cons_self
  obtain ⟨xs, ys, h1, h2, h3, h4⟩ := W9 rs λ r' hr' => h r' (List.mem_cons_of_mem _ hr')
  refine ⟨x :: xs, y :: ys, ?_, by simp [h2], by simp [h3], λ i x' y' hx' hy' => ?_⟩
  ·rw [List.flatten_cons, h1, hx]; rfl
  ·match i with
   | 0 => cases hx'; cases hy'; exact hq
   | i + 1 => exact h4 i x' y' (by simpa using hx') (by simpa using hy')
structure LOp where
 who : Int
 kind : Int
 at_ : Int
 move : Int
 count : Int
 arg : Int
 put : List Int
structure LOp.In (w : World) (y : Cells.T c43) (o : LOp) : Prop where
 who : y.1 = o.who
 kind : y.2.1 = o.kind
 at_ : y.2.2.1 = o.at_
 move : y.2.2.2.1 = o.move
 count : y.2.2.2.2.1 = o.count
 arg : y.2.2.2.2.2.1 = o.arg
 put : SlX w y.2.2.2.2.2.2.1 1 (iv o.put)
 i1 : In64 o.who /\ In64 o.kind /\ In64 o.at_ /\ In64 o.move /\ In64 o.count /\ In64 o.arg
 i2 : ∀ n ∈ o.put, In64 n
 len : o.put.length <= 2 ^ 44
 lt : ∀ k, y.2.2.2.2.2.2.1.blk k -> y.2.2.2.2.2.2.1.len = 0 \/ k < w.heap.size
structure LOp.All (w : World) (s : Sl) (ys : List (Cells.T c43)) (os : List LOp) : Prop where
 row : SlX w s 7 (flat c43 ys)
 len : ys.length = os.length
 few : os.length <= 2 ^ 42
 each : ∀ (i : Nat) y o, ys[i]? = some y -> os[i]? = some o -> o.In w y
theorem wf64 {n : Int} (h : (Lit.int .i64 n).wf = true) : In64 n := by
 have h1 : IntKind.min .i64 = -9223372036854775808 := rfl
 have h2 : IntKind.max .i64 = 9223372036854775807 := rfl
 simp [Lit.wf, h1, h2] at h
 unfold In64
 omega
section
variable {H : Type} {enc : TypeId × Value -> H} {W : World} {base fuel : Nat} {held : Bool}
theorem F9 {t : TypeId} {fs : Array Field} {L : List (TypeId × Nat)} {cs : List Value} {x : DataW H × List MemPlace} (hu : Tryz.prog.underlying t = some (.struct fs)) (hfs : fs.toList.map (λ f => (f.type, f.offset)) = L)
  (h : DataW.trod enc Tryz.prog W base (λ _ => true) held fuel t cs = some x) (hw : ∀ n ∈ x.1.weights Tryz.prog t, n <= reachBytes) :
  ∃ n, ∀ (i : Nat) (t' o : Nat), L[i]? = some (t', o) -> ∃ y, DataW.trod enc Tryz.prog W base (λ _ => true) held n t' ((cs.drop o).take (Tryz.prog.cellsOf t')) = some y /\ ∀ k ∈ y.1.weights Tryz.prog t', k <= reachBytes := by
 obtain ⟨xs, n, _, rfl, _, hxl, hall⟩ := DataW.trod_struct hu h
 refine ⟨n, λ i t' o hi => ?_⟩
 rw [← hfs, List.getElem?_map] at hi
 obtain ⟨f, hf, he⟩ := Option.map_eq_some_iff.1 hi
 cases he
 have hf' : fs[i]? = some f := by simpa using hf
 have h1 := hall i f hf'
 have hil : i < xs.length := by rw [hxl]; exact (Array.getElem?_eq_some_iff.1 hf').1
 rw [List.getElem?_eq_getElem hil] at h1
 refine ⟨xs[i], h1, λ k hk => hw k ?_⟩
 simp only [DataW.weights, hu]
 exact DataW.weights_mem_each (j := i) (t := f.type) (d := xs[i].1) (by rw [List.getElem?_map, hf]; rfl) (by rw [List.getElem?_map, List.getElem?_eq_getElem hil]; rfl) k hk
theorem Bt4 {cs : List Value} {x : DataW H × List MemPlace} (h : DataW.trod enc Tryz.prog W base (λ _ => true) held fuel 5 cs = some x) : ∃ b : UInt8, cs = [.int .u8 (b.toNat : Int)] := by
 have : ∃ n, cs = [.int .u8 n] /\ (Lit.int .u8 n).wf = true := by
  cases fuel with
  | zero => simp [DataW.trod] at h
  | succ m =>
   unfold DataW.trod at h
   rw [ub] at h
   split at h <;> simp_all
 obtain ⟨n, rfl, hn⟩ := this
 have hr : 0 <= n /\ n < 256 := by
  have h1 : IntKind.min .u8 = 0 := rfl
  have h2 : IntKind.max .u8 = 255 := rfl
  simp [Lit.wf, h1, h2] at hn
  omega
 refine ⟨UInt8.ofNat n.toNat, ?_⟩
 have : (UInt8.ofNat n.toNat).toNat = n.toNat := by
  rw [UInt8.toNat_ofNat']
  exact Nat.mod_eq_of_lt (by omega)
 rw [this]
 congr 2
 omega
theorem open_ints {cs : List Value} {x : DataW H × List MemPlace} (h : DataW.trod enc Tryz.prog W base (λ _ => true) held fuel 26 cs = some x) (hw : ∀ n ∈ x.1.weights Tryz.prog 26, n <= reachBytes) :
  ∃ (s : Sl) (l : List Int), cs = [.slice s.a s.len s.cap] /\ SlX W s 1 (iv l) /\ l.length <= 2 ^ 44 /\ ∀ n ∈ l, In64 n := by
 obtain ⟨s, l, h1, h2, h3, h4⟩ := Bg5 Cc3 ui ci bi h hw
 exact ⟨s, l, h1, h2, by omega, λ n hn => wf64 (h4 n hn)⟩
theorem open_bytes {cs : List Value} {x : DataW H × List MemPlace} (h : DataW.trod enc Tryz.prog W base (λ _ => true) held fuel 22 cs = some x) (hw : ∀ n ∈ x.1.weights Tryz.prog 22, n <= reachBytes) :
  ∃ (s : Sl) (l : List UInt8), cs = [.slice s.a s.len s.cap] /\ SlX W s 1 (bv l) /\ l.length <= 2 ^ 47 := by
 obtain ⟨s, rows, rfl, hs, hl, hby, hr⟩ := Ze By1 cby (by decide) h hw
 obtain ⟨xs, ls, h1, h2, h3, h4⟩ := W9 (cs := [.int .u8]) (β := UInt8) (Q := λ x y => x.1 = (y.toNat : Int)) rows (λ r hr' => by
  obtain ⟨_, n, y, hy, _⟩ := hr r hr'
  obtain ⟨b, rfl⟩ := Bt4 hy
  exact ⟨((b.toNat : Int), ()), b, rfl, rfl⟩)
 refine ⟨s, ls, rfl, ?_, ?_⟩
 ·rw [h1] at hs
  have e : flat [.int .u8] xs = bv ls := by
   clear h1 h2 hs
   induction xs generalizing ls with
   | nil =>
    cases ls with
    | nil => rfl
    | cons y r => simp at h3
   | cons x r ih =>
    cases ls with
    | nil => simp at h3
    | cons y q =>
     have h0 := h4 0 x y rfl rfl
     have := ih q (by simpa using h3) λ i x' y' hx hy => h4 (i + 1) x' y' (by simpa using hx) (by simpa using hy)
     simp only [flat, List.flatMap_cons] at this ⊢
     rw [this]
     obtain ⟨n, ⟨⟩⟩ := x
     dsimp only at h0
     subst h0
     rfl
  rw [e] at hs; exact hs
 ·rw [← h3, h2, hl]
  rw [bby] at hby
  unfold reachBytes at hby
  omega
theorem Aw5 {cs : List Value} {x : DataW H × List MemPlace} (hl : cs.length = 2) (h : DataW.trod enc Tryz.prog W base (λ _ => true) held fuel 24 cs = some x) (hw : ∀ n ∈ x.1.weights Tryz.prog 24, n <= reachBytes) :
  ∃ (c : Int) (s : Sl) (l : List UInt8), cs = Cells.vals c24 (stT c s) /\ SlX W s 1 (bv l) /\ l.length <= 2 ^ 47 := by
 obtain ⟨fs, hu, hfs⟩ := sStart
 obtain ⟨n, hall⟩ := F9 hu hfs h hw
 obtain ⟨v0, v1, rfl⟩ : ∃ v0 v1, cs = [v0, v1] := by
  match cs, hl with
  | [v0, v1], _ => exact ⟨v0, v1, rfl⟩
 obtain ⟨y0, h0, _⟩ := hall 0 _ _ rfl
 obtain ⟨y1, h1, hw1⟩ := hall 1 _ _ rfl
 rw [ci] at h0
 rw [cbs] at h1
 obtain ⟨n0, e0, _⟩ := Le ui h0
 obtain ⟨s, l, e1, g1, g2⟩ := open_bytes h1 hw1
 simp at e0 e1
 subst e0 e1
 exact ⟨n0, s, l, rfl, g1, g2⟩
theorem SlX.lt {w : World} {s : Sl} {sz : Nat} {us : List Value} (h : SlX w s sz us) : ∀ k, s.blk k -> s.len = 0 \/ k < w.heap.size := by
 intro k hk
 rcases h.at_ with ⟨h, _⟩ | ⟨t, h⟩
 ·exact .inl h
 ·exact .inr (h.Og hk)
theorem Bt5 {cs : List Value} {x : DataW H × List MemPlace} (hl : cs.length = 7) (h : DataW.trod enc Tryz.prog W base (λ _ => true) held fuel 43 cs = some x) (hw : ∀ n ∈ x.1.weights Tryz.prog 43, n <= reachBytes) :
  ∃ (y : Cells.T c43) (o : LOp), cs = Cells.vals c43 y /\ o.In W y := by
 obtain ⟨fs, hu, hfs⟩ := sOp
 obtain ⟨n, hall⟩ := F9 hu hfs h hw
 obtain ⟨v0, v1, v2, v3, v4, v5, v6, rfl⟩ : ∃ v0 v1 v2 v3 v4 v5 v6, cs = [v0, v1, v2, v3, v4, v5, v6] := by
  match cs, hl with
  | [v0, v1, v2, v3, v4, v5, v6], _ => exact ⟨v0, v1, v2, v3, v4, v5, v6, rfl⟩
 obtain ⟨y0, h0, _⟩ := hall 0 _ _ rfl
 obtain ⟨y1, h1, _⟩ := hall 1 _ _ rfl
 obtain ⟨y2, h2, _⟩ := hall 2 _ _ rfl
 obtain ⟨y3, h3, _⟩ := hall 3 _ _ rfl
 obtain ⟨y4, h4, _⟩ := hall 4 _ _ rfl
 obtain ⟨y5, h5, _⟩ := hall 5 _ _ rfl
 obtain ⟨y6, h6, hw6⟩ := hall 6 _ _ rfl
 rw [ci] at h0 h1 h2 h3 h4 h5
 rw [cis] at h6
 obtain ⟨n0, e0, i0⟩ := Le ui h0
 obtain ⟨n1, e1, i1⟩ := Le ui h1
 obtain ⟨n2, e2, i2⟩ := Le ui h2
 obtain ⟨n3, e3, i3⟩ := Le ui h3
 obtain ⟨n4, e4, i4⟩ := Le ui h4
 obtain ⟨n5, e5, i5⟩ := Le ui h5
 obtain ⟨s6, l6, e6, g6, k6, j6⟩ := open_ints h6 hw6
 simp at e0 e1 e2 e3 e4 e5 e6
 subst e0 e1 e2 e3 e4 e5 e6
 exact ⟨(n0, n1, n2, n3, n4, n5, s6, ()), ⟨n0, n1, n2, n3, n4, n5, l6⟩, rfl, ⟨rfl, rfl, rfl, rfl, rfl, rfl, g6, ⟨wf64 i0, wf64 i1, wf64 i2, wf64 i3, wf64 i4, wf64 i5⟩, j6, k6, SlX.lt g6⟩⟩
theorem Bm9 {cs : List Value} {x : DataW H × List MemPlace} (h : DataW.trod enc Tryz.prog W base (λ _ => true) held fuel 41 cs = some x) (hw : ∀ n ∈ x.1.weights Tryz.prog 41, n <= reachBytes) :
  ∃ (s : Sl) (ys : List (Cells.T c43)) (os : List LOp), cs = [.slice s.a s.len s.cap] /\ LOp.All W s ys os := by
 obtain ⟨s, rows, rfl, hs, hl, hby, hr⟩ := Ze Cc2 cop (by decide) h hw
 obtain ⟨xs, ls, h1, h2, h3, h4⟩ := W9 (cs := c43) (β := LOp) (Q := λ y o => o.In W y) rows (λ r hr' => by
  obtain ⟨hrl, n, y, hy, hwy⟩ := hr r hr'
  exact Bt5 hrl hy hwy)
 rw [h1] at hs
 refine ⟨s, xs, ls, rfl, ⟨hs, h3, ?_, h4⟩⟩
 rw [← h3, h2, hl]
 rw [bop] at hby
 unfold reachBytes at hby
 omega
end
theorem D5 {H : Type} {enc : TypeId × Value -> H} {P : Program} {w : World} {base : Nat} {spare : Nat -> Bool} {held : Bool} : ∀ {ts : List TypeId} {vs : List Value} {ds : List (DataW H)} {ps : List MemPlace}, DataW.TrodAll enc P w base spare held ts vs ds ps ->
  vs.length = ts.length /\ ds.length = ts.length /\ ∀ (j : Nat) t v d, ts[j]? = some t -> vs[j]? = some v -> ds[j]? = some d -> ∃ p, DataW.Trod enc P w base spare held t v d p
 | [], [], [], _, _ => ⟨rfl, rfl, λ j t v d h => by simp at h⟩
 | t :: ts, v :: vs, d :: ds, ps, ⟨p, q, h1, h2, e⟩ => by
  obtain ⟨a, b, c⟩ := D5 h2
  refine ⟨by simp [a], by simp [b], λ j t' v' d' ht hv hd => ?_⟩
  match j with
  | 0 => cases ht; cases hv; cases hd; exact ⟨p, h1⟩
  | j + 1 => exact c j t' v' d' (by simpa using ht) (by simpa using hv) (by simpa using hd)
 | [], _ :: _, _, _, h => h.elim
 | [], [], _ :: _, _, h => h.elim
 | _ :: _, [], _, _, h => h.elim
 | _ :: _, _ :: _, [], _, h => h.elim
theorem Bo3 {α : Type} (l : List α) (h : l.length = 3) : ∃ v0 v1 v2, l = [v0, v1, v2] := by
 match l, h with
 | [v0, v1, v2], _ => exact ⟨v0, v1, v2, rfl⟩
theorem weigh {H : Type} {ts : List TypeId} {ds : List (DataW H)} (h : (DataW.weightsEach Tryz.prog ts ds).all (· <= reachBytes) = true) (j : Nat) {t : TypeId} {d : DataW H} (ht : ts[j]? = some t) (hd : ds[j]? = some d) : ∀ n ∈ d.weights Tryz.prog t, n <= reachBytes := by
 intro n hn
 have := List.all_eq_true.1 h _ (DataW.weights_mem_each ht hd n hn)
 simpa using this
section
variable {H : Type} {enc : TypeId × Value -> H} {W : World} {base : Nat}
theorem Bw5 {v : Value} {d : DataW H} {p : List MemPlace} (hv : Value.okWide Tryz.prog W .any base 41 v) (h : DataW.Trod enc Tryz.prog W 0 (λ _ => true) true 41 v d p) (hw : ∀ n ∈ d.weights Tryz.prog 41, n <= reachBytes) :
  ∃ (s : Sl) (ys : List (Cells.T c43)) (os : List LOp), v = .slice s.a s.len s.cap /\ LOp.All W s ys os := by
 obtain ⟨a, len, cap, rfl⟩ := okWide_slice Cc2 hv
 obtain ⟨n, hn⟩ := h
 obtain ⟨s, ys, os, e, h1⟩ := Bm9 hn hw
 exact ⟨s, ys, os, by simpa [Value.cells] using e, h1⟩
theorem Ag5 {v : Value} {d : DataW H} {p : List MemPlace} (hv : Value.okWide Tryz.prog W .any base 24 v) (h : DataW.Trod enc Tryz.prog W 0 (λ _ => true) true 24 v d p) (hw : ∀ n ∈ d.weights Tryz.prog 24, n <= reachBytes) :
  ∃ (c : Int) (s : Sl) (l : List UInt8), v = .agg (Cells.vals c24 (stT c s)).toArray /\ SlX W s 1 (bv l) /\ l.length <= 2 ^ 47 := by
 obtain ⟨fs, hu, _⟩ := sStart
 obtain ⟨cs, rfl, hsz⟩ := okWide_struct hu hv
 obtain ⟨n, hn⟩ := h
 rw [Cb1] at hsz
 obtain ⟨c, s, l, e, h1, h2⟩ := Aw5 (cs := cs.toList) (by simpa using hsz) (by simpa [Value.cells] using hn) hw
 exact ⟨c, s, l, by rw [← e], h1, h2⟩
end
theorem Cc4 : 200 <= Tryz.prog.types.size := of_decide_eq_true (by kernel_rfl)
theorem Bz1 : Tryz.prog.readableRec 3 = true := by kernel_rfl
theorem Bt3 : Tryz.prog.readableRec 26 = true := by kernel_rfl
theorem Bz0 : Tryz.prog.readableRec 41 = true := by kernel_rfl
theorem Bm4 : Tryz.prog.readableRec 24 = true := by kernel_rfl
theorem recs {t : TypeId} (h : t = 3 \/ t = 26 \/ t = 41 \/ t = 24) : Tryz.prog.readableRec t = true /\ t < Tryz.prog.types.size := by
 have := Cc4
 rcases h with rfl | rfl | rfl | rfl
 ·exact ⟨Bz1, Nat.lt_of_lt_of_le (by decide) this⟩
 ·exact ⟨Bt3, Nat.lt_of_lt_of_le (by decide) this⟩
 ·exact ⟨Bz0, Nat.lt_of_lt_of_le (by decide) this⟩
 ·exact ⟨Bm4, Nat.lt_of_lt_of_le (by decide) this⟩
end Go.Proofs.YtabcpghhfeplaaaGreat
namespace Go.Proofs.YtabcpghhfeplaaaGreat
open Go Go.Vx Cdc Trx Gly Clu Lns Obx
section
variable {w w' : World} {S : Nat -> Prop} {p : Nat} {e : Enc} {lim na : Nat} {O : Nat -> Prop} {M : Parts}
theorem I5 {A : List Int} {s : Sl} {t : TypeId} (hs : Aq w s t 1 (iv A)) (hl : A.length < 2 ^ 40) {K : Sl -> Wp} (hK : ∀ s' w', Ah w' w.heap.size s' 3 1 (iv A) -> Ext w w' -> K s' w') :
  Ac Tryz.prog 46 #[s.v] rS K w := by
 refine A46 ?_
 unfold F46
 have hlen : A.length = s.len := by have := hs.len1; rwa [List.length_map] at this
 refine Ae (λ x W => Ah W w.heap.size x.1 3 1 (iv A) /\ Ext w W) ?_ (λ x W h => hK _ _ h.1 h.2)
 refine Am (λ x W => ∃ i : Nat, i <= A.length /\ x.2 = ((i : Int), ()) /\ Ah W w.heap.size x.1 3 1 (iv (A.take i)) /\ Ext w W) (λ x _ => ((A.length : Int) - x.2.1).toNat) ⟨0, Nat.zero_le _, rfl, Ah.nil _ _ _ _, Ext.refl w⟩ ?_
 rintro ⟨r, _⟩ W ⟨i, hi, rfl, hr, eW⟩
 dsimp only at hr ⊢
 have hrl := hr.len1
 rw [List.length_map, List.length_take] at hrl
 refine Aa (λ hc => ?_) (λ hc => ?_)
 ·simp only [decide_eq_true_eq] at hc
  obtain ⟨a, ha⟩ : ∃ a, A[i]? = some a := ⟨_, List.getElem?_eq_getElem (by omega)⟩
  have ew : W64 ((i : Int) + 1) = ((i + 1 : Nat) : Int) := by rw [wrap64 (by omega) (by omega)]; omega
  rw [ew]
  refine Iu (c := .int .i64) (xs := A) (hs.ext eW) (by omega) (x := a) (by rw [Int.toNat_natCast]; exact ha) λ q => Bo λ b7 w4 e4 n4 hb4 _ => ?_
  refine Du Ru Ru.ts_ (x := ⟨some (at0 b7), 1, 1⟩) (hr.ext e4) (Zl n4) (λ v hv => by rw [List.mem_singleton.1 hv]; rfl) (by
   show (r.len + 1 + (r.len + 1) / 4 + 512) * 8 <= 2 ^ 48
   omega) (by have := eW.size; have := e4.size; omega) λ r' w5 o5 l5 u5 k5 => ?_
  have e5 : iv (A.take i) ++ [.int .i64 a] = iv (A.take (i + 1)) := by rw [List.take_add_one, ha]; simp
  rw [e5] at o5
  exact ⟨⟨i + 1, by omega, rfl, o5, (eW.trans e4).step u5 λ k hk => hr.Di hk⟩, by omega⟩
 ·simp only [decide_eq_false_iff_not] at hc
  have e5 : A.take i = A := List.take_of_length_le (by omega)
  rw [e5] at hr
  exact ⟨hr, eW⟩
abbrev Qo (p : Nat) (s : Sl) : Obj := .cells #[.pointer (some (at0 p)), .slice s.a s.len s.cap] 28 (0, 0)
abbrev D7 (s : Int × Int × Int) : Obj := .cells #[.int .i64 s.1, .int .i64 s.2.1, .int .i64 s.2.2] 34 (0, 0)
theorem Bv1 : Px exA 2 61 0 0 = ((2, 3, 0), 0) := by kernel_rfl
end
section
variable {w w' : World} {S : Nat -> Prop} {p : Nat} {e : Enc} {lim na : Nat} {O : Nat -> Prop} {M : Parts}
theorem Ap9 {n : Int} {K : Bool -> Wp}
  (hK : ∀ p M O w1 b4 b5 s w2, Txt w1 p .u8 65536 0 O M -> atoms (aOf .u8 M) = exA -> Ext w w1 -> St (λ _ => False) w1 w2 [(b5, D7 (0, 0, 0)), (b4, Qo p s)] ->
   (join (S := Int × Unit) (λ J6 =>
   sif (n == (1 : Int)) (
    ld (.ptr) (at0 b4) λ (x8 : Option Addr) =>
    Ac Tryz.prog 29 #[(.pointer x8), (.int .i64 (2 : Int)), (.agg #[(.int .i64 (61 : Int)), (.int .i64 (0 : Int)), (.int .i64 (0 : Int))])] (.tup [(.agg c34), (.one (.int .i64))]) λ (x9 : ((Int × Int × Int × Unit) × Int × Unit)) =>
    Ad (at0 b5) (.agg (Cells.vals c34 x9.1).toArray) 3 <|
    J6 (x9.2.1, ())) (
    sif (n == (2 : Int)) (
     ld (.ptr) (at0 b4) λ (x10 : Option Addr) =>
     Ac Tryz.prog 31 #[(.pointer x10), (.int .i64 (2 : Int)), (.agg #[(.int .i64 (65 : Int)), (.int .i64 (0 : Int)), (.int .i64 (34 : Int))])] (.tup [(.agg c34), (.one (.int .i64))]) λ (x11 : ((Int × Int × Int × Unit) × Int × Unit)) =>
     Ad (at0 b5) (.agg (Cells.vals c34 x11.1).toArray) 3 <|
     J6 (x11.2.1, ())) (
     sif (n == (3 : Int)) (
      ld (.ptr) (at0 b4) λ (x12 : Option Addr) =>
      Ac Tryz.prog 19 #[(.pointer x12), (.int .i64 (2 : Int)), (.agg #[(.int .i64 (67 : Int)), (.int .i64 (0 : Int)), (.int .i64 (40 : Int))])] (.tup [(.agg c34), (.one (.int .i64))]) λ (x13 : ((Int × Int × Int × Unit) × Int × Unit)) =>
      Ad (at0 b5) (.agg (Cells.vals c34 x13.1).toArray) 3 <|
      sif (x13.2.1 == (0 : Int)) (
       ld (.int .i64) (at0 b5) λ (x14 : Int) =>
       sif (x14 == (1 : Int)) (
        ld (.int .i64) (⟨b5, 1, none⟩ : Addr) λ (x15 : Int) =>
        K (x15 == (4 : Int))) (
        K false)) (
       K false)) (
      sif (n == (4 : Int)) (
       ld (.ptr) (at0 b4) λ (x16 : Option Addr) =>
       Ac Tryz.prog 33 #[(.pointer x16), (.int .i64 (2 : Int)), (.agg #[(.int .i64 (69 : Int)), (.int .i64 (0 : Int)), (.int .i64 (0 : Int))])] (.tup [(.agg c34), (.one (.int .i64))]) λ (x17 : ((Int × Int × Int × Unit) × Int × Unit)) =>
       Ad (at0 b5) (.agg (Cells.vals c34 x17.1).toArray) 3 <|
       sif (x17.2.1 == (0 : Int)) (
        ld (.int .i64) (⟨b5, 2, none⟩ : Addr) λ (x18 : Int) =>
        sif (x18 == (1 : Int)) (
         ld (.int .i64) (⟨b5, 1, none⟩ : Addr) λ (x19 : Int) =>
         K (x19 == (5 : Int))) (
         K false)) (
        K false)) (
       sif (n == (5 : Int)) (
        ld (.ptr) (at0 b4) λ (x20 : Option Addr) =>
        Ac Tryz.prog 20 #[(.pointer x20), (.int .i64 (2 : Int)), (.agg #[(.int .i64 (61 : Int)), (.int .i64 (0 : Int)), (.int .i64 (0 : Int))])] (.tup [(.agg c34), (.one (.int .i64))]) λ (x21 : ((Int × Int × Int × Unit) × Int × Unit)) =>
        Ad (at0 b5) (.agg (Cells.vals c34 x21.1).toArray) 3 <|
        J6 (x21.2.1, ())) (
        J6 ((0 : Int), ()))))))) λ (s7 : Int × Unit) =>
   sif (s7.1 == (0 : Int)) (
    ld (.int .i64) (at0 b5) λ (x22 : Int) =>
    sif (x22 == (2 : Int)) (
     ld (.int .i64) (⟨b5, 1, none⟩ : Addr) λ (x23 : Int) =>
     sif (x23 == (3 : Int)) (
      ld (.int .i64) (⟨b5, 2, none⟩ : Addr) λ (x24 : Int) =>
      K (x24 == (0 : Int))) (
      K false)) (
     K false)) (
    K false)) w2) : Ac Tryz.prog 17 #[.int .i64 n] rB K w := by
 refine A17 ?_
 unfold F17
 refine Bo λ b1 w1 e1 n1 hb1 _ => Bo2 (l := exB) n1 rfl rfl λ w2 hs u2 => ?_
 have e2 : Ext w w2 := e1.step u2 λ k hk => by omega
 refine An7 (enc := 0) hs (by decide) λ p e O M s w3 hB e3 hM he => ?_
 have hen : e = .u8 := by
  have : (1 : Int) = e.num := he
  cases e <;> first | rfl | (exact absurd this (by decide))
 subst hen
 have hA : atoms (aOf .u8 M) = exA := by rw [hM (by decide), Cb9]
 refine (St.start w3).Rt λ b4 w4 S4 e4 hb4 => S4.Ad 0 rfl rfl rfl rfl λ w5 S5 u5 => ?_
 exact Au (S5.Af λ b5 w6 S6 e6 => hK p M O w3 b4 b5 s w6 hB.txt hA (e2.trans e3) S6)
theorem Aq0 {K : Bool -> Wp} (hK : ∀ w', Ext w w' -> K true w') : Ac Tryz.prog 17 #[.int .i64 5] rB K w := by
 refine Ap9 λ p M O w1 b4 b5 s w2 tx hA e1 S2 => ?_
 refine Ae (λ x W => x = (0, ()) /\ St (λ _ => False) w1 W [(b5, D7 (2, 3, 0)), (b4, Qo p s)]) ?_ ?_
 ·refine Au (Au (Au (Au (Cm (S2.ld 1 rfl (x := some (at0 p)) rfl ?_)))))
  refine Ad0 (kind := 61) (count := 0) (arg := 0) (tx.ext S2.upd) (by decide) λ w3 e3 => ?_
  rw [hA, Bv1]
  exact (S2.ext e3).Ad 0 rfl rfl rfl rfl λ w4 S4 u4 => ⟨rfl, S4⟩
 ·rintro _ W ⟨rfl, SW⟩
  exact Cm (SW.ld 0 rfl (x := (2 : Int)) rfl (Cm (SW.ld 0 rfl (x := (3 : Int)) rfl (Cm (SW.ld 0 rfl (x := (0 : Int)) rfl (hK W (e1.trans SW.upd)))))))
end
section
variable {w w' : World} {S : Nat -> Prop} {p : Nat} {e : Enc} {lim na : Nat} {O : Nat -> Prop} {M : Parts}
abbrev opO (y : Cells.T c43) : Obj := .cells (Cells.vals c43 y).toArray 43 (0, 0)
end
end Go.Proofs.YtabcpghhfeplaaaGreat
namespace Go.Proofs.YtabcpghhfeplaaaGreat
open Go Go.Vx Cdc Trx
section
variable {w w' : World} {S : Nat -> Prop} {p : Nat} {e : Enc} {lim na : Nat} {O : Nat -> Prop} {M : Parts}
def bts (e : Enc) (l : List Int) : Bs := l.flatMap (pt e)
def prs (e : Enc) (l : List Int) : As := l.map λ a => (a, sz e a)
def Fit (e : Enc) (l : List Int) : Prop := ∀ a ∈ l, Scalar a /\ sz e a ≠ 0
theorem Bd9 {e : Enc} : ∀ {l : List Int}, Fit e l -> ats e (bts e l) = prs e l
 | [], _ => Ju e
 | a :: l, h => by
  have h1 := h a List.mem_cons_self
  show ats e (pt e a ++ bts e l) = _
  rw [Br7 h1.1 h1.2, Bd9 λ x hx => h x (List.mem_cons_of_mem _ hx)]
  rfl
theorem Bj8 (e : Enc) (l : List Int) : atoms (prs e l) = l := by
 unfold atoms prs
 rw [List.map_map]
 have : ((λ x : Int × Nat => x.1) ∘ λ a : Int => (a, sz e a)) = id := rfl
 show l.map _ = l
 rw [this, List.map_id]
def Fits (e : Enc) (l : List Int) : Prop := ∀ a ∈ l, sz e a ≠ 0
theorem Fit.fits {e : Enc} {l : List Int} (h : Fit e l) : Fits e l := λ a ha => (h a ha).2
theorem Ak8 {e : Enc} : ∀ {l : List Int}, Fits e l -> (bts e l).length = szs (prs e l)
 | [], _ => rfl
 | a :: l, h => by
  have ih := Ak8 λ x hx => h x (List.mem_cons_of_mem _ hx)
  show (pt e a ++ bts e l).length = Cdc.szs ((a, sz e a) :: prs e l)
  rw [Ii, List.length_append, X9 e a (h a List.mem_cons_self), ih]
theorem Bz6 {e : Enc} {a : Int} (h : sz e a ≠ 0) (hs : ¬ Scalar a) : nx e (pt e a) = (a, sz e a) := by
 have h16 : ∀ be, Oh a ≠ 0 -> Il be (Ac0 be a) = (a, Oh a) := by
  intro be h
  unfold Oh at h ⊢
  have hr : ¬ (a < -256 \/ 1114111 < a) := λ hc => h (if_pos hc)
  rw [if_neg hr]
  unfold Ac0
  by_cases h0 : a < 0
  ·rw [if_pos h0, if_pos h0]
   show ((-1 - ((UInt8.ofNat (-1 - a).toNat).toNat : Int), 1) : Int × Nat) = _
   rw [Bz (by omega)]
   congr 1; omega
  ·have hlt : a < 65536 := Classical.byContradiction λ hc => hs (.inr ⟨by omega, by omega⟩)
   rw [if_neg h0, if_neg h0, if_pos hlt, if_pos hlt]
   have hu : ∀ x y : UInt8, Il be [x, y] = (((un be x y : Nat) : Int), 2) := λ x y => by simp only [Il]; split <;> rfl
   unfold uni
   cases be with
   | true =>
    rw [if_pos rfl, hu]
    show ((((UInt8.ofNat a.toNat).toNat + (UInt8.ofNat (a.toNat / 256)).toNat * 256 : Nat) : Int), 2) = _
    rw [Bz (n := a.toNat / 256) (by omega), UInt8.toNat_ofNat']
    congr 1; omega
   | false =>
    rw [if_neg (by decide), hu]
    show ((((UInt8.ofNat a.toNat).toNat + (UInt8.ofNat (a.toNat / 256)).toNat * 256 : Nat) : Int), 2) = _
    rw [Bz (n := a.toNat / 256) (by omega), UInt8.toNat_ofNat']
    congr 1; omega
 cases e with
 | u8 =>
  show nx8 (pt8 a) = (a, sz8 a)
  have h : sz8 a ≠ 0 := h
  unfold sz8 at h ⊢
  have hr : ¬ (a < -256 \/ (-129 < a /\ a < 0) \/ 1114111 < a \/ (55296 <= a /\ a <= 57343)) := λ hc => h (if_pos hc)
  have h0 : a < 0 := Classical.byContradiction λ hc => hs (by unfold Scalar; omega)
  rw [if_neg hr, if_pos (by omega)]
  unfold pt8
  rw [if_pos h0]
  obtain ⟨n, hn⟩ : ∃ n, n = (-1 - a).toNat := ⟨_, rfl⟩
  rw [← hn]
  have hb : (UInt8.ofNat n).toNat = n := Bz (by omega)
  have hraw : (rowOf [UInt8.ofNat n]).2 = 0 \/ (rowOf [UInt8.ofNat n]).1 < (rowOf [UInt8.ofNat n]).2 := by
   simp only [rowOf, hb]
   by_cases h2 : (Eo n).1 < 2
   ·rw [if_pos h2]
    left
    have h3 : (Eo n).1 ≠ 1 := by
     unfold Eo
     rw [if_neg (by omega)]
     repeat' split
     all_goals decide
    omega
   ·rw [if_neg h2]
    right; omega
  simp only [nx8]
  rw [if_pos hraw, hb]
  congr 1; omega
 | le => exact h16 false h
 | be => exact h16 true h
 | l1 =>
  exfalso
  have h : sz1 a ≠ 0 := h
  unfold sz1 at h
  have hr : ¬ (a < 0 \/ 255 < a) := λ hc => h (if_pos hc)
  exact hs (.inl ⟨by omega, by omega⟩)
theorem Bw4 {e : Enc} {a : Int} (h : sz e a ≠ 0) : ats e (pt e a) = [(a, sz e a)] := by
 by_cases hs : Scalar a
 ·have := Br7 hs h []
  rw [List.append_nil, Ju] at this; exact this
 ·have hl := X9 e a h
  have hne : pt e a ≠ [] := λ hc => by rw [hc] at hl; exact h hl.symm
  rw [Lm e hne, Bz6 h hs, List.drop_eq_nil_of_le (Nat.le_of_eq hl), Ju]
def Run (l : List Int) : Prop := (∀ x ∈ l, Scalar x) \/ ∃ v, l = [v]
theorem Bw2 {e : Enc} {l : List Int} (h : Fits e l) (hr : Run l) : ats e (bts e l) = prs e l := by
 rcases hr with hr | ⟨v, rfl⟩
 ·exact Bd9 λ a ha => ⟨hr a ha, h a ha⟩
 ·show ats e (pt e v ++ []) = _
  rw [List.append_nil, Bw4 (h v List.mem_cons_self)]; rfl
theorem Av0 {e : Enc} {v : Int} (h : sz e v ≠ 0) : Scalar v ↔ 0 <= v /\ (v < 55296 \/ 57343 < v) := by
 have hm : v <= 1114111 := by
  apply Classical.byContradiction
  intro hc
  apply h
  cases e with
  | u8 => exact if_pos (by omega)
  | le => exact if_pos (by omega)
  | be => exact if_pos (by omega)
  | l1 => exact if_pos (by omega)
 unfold Scalar; omega
theorem Yp (e : Enc) (l m : List Int) : bts e (l ++ m) = bts e l ++ bts e m := by simp [bts]
theorem As5 (P : Program) {ts xt rt : TypeId} {e xe : TypeId} {i : TypeInfo} {z : Value} (hts : P.underlying ts = some (.slice e)) (hxt : P.underlying xt = some (.slice xe)) (hi : P.info? e = some i) (hz : i.zero = some z)
  {B : Nat} {s x : Sl} {vs us : List Value} (hs : Ah w B s e i.size vs) (hx : SlX w x i.size us) (h1 : ∀ v ∈ us, Dx v = true) (hzl : z.cells.size = i.size)
  (hroom : (s.len + x.len + (s.len + x.len) / 4 + 512) * i.bytes <= 2 ^ 48) (hb0 : 0 < i.bytes) (hB : B <= w.heap.size) :
  ∃ s' w', (Builtin.append_ #[ts, xt] rt #[.slice s.a s.len s.cap, .slice x.a x.len x.cap]).run P w = .ok (.slice s'.a s'.len s'.cap) w' /\ Ah w' B s' e i.size (vs ++ us) /\ s'.len = s.len + x.len /\
   Upd (λ k => s.blk k) w w' /\ ((Ext w w' /\ ∀ k, s'.blk k -> w.heap.size <= k) \/ (s'.a = s.a /\ ∃ b off c, s.a = some ⟨b, off, none⟩ /\ w.heap[b]? = some (.cells c e (0, 0)) /\ w'.heap[b]? = some (.cells (setRow c (off + s.len * i.size) us) e (0, 0)))) := by
 obtain ⟨s', w', hr, ho, hl, hu, hk, hex⟩ := As6 (rt := rt) P hts hxt hi hz hs hx h1 hzl hroom hb0 hB
 refine ⟨s', w', hr, ho, hl, hu, ?_⟩
 have hfx := En P hx
 have hfs := Ez P hs.in
 have hu1 := λ W => run_underlying hts W
 have hu2 := λ W => run_underlying hxt W
 have hsz : ∀ W, (sizeOf e).run P W = .ok i.size W := λ W => by simp [sizeOf, run_typeInfo W hi]
 have hlen := hs.len
 have hxlen := hx.len
 by_cases hneed : s.len + x.len <= s.cap
 ·rcases hs.at_ with ⟨ha, hc⟩ | ⟨b, off, c, ha, hB', hb, hcap, hv⟩
  ·have hl0 : x.len = 0 := by omega
   have hsl : s.len = 0 := by omega
   have hus : us = [] := by rw [hl0, Nat.zero_mul] at hxlen; exact List.length_eq_zero_iff.1 hxlen
   have hfx' : (Builtin.firstCells i.size 0 (.slice x.a 0 x.cap)).run P w = .ok #[] w := by rw [hl0, hus] at hfx; exact hfx
   simp [Builtin.append_, hu1, hu2, hsz, Builtin.lenOf, hl0, hsl, ha, hfx', hc] at hr
   obtain ⟨⟨h1, _⟩, rfl⟩ := hr
   refine .inl ⟨Ext.refl w, λ k hk => ?_⟩
   obtain ⟨q, hq, _⟩ := hk
   rw [← h1] at hq; cases hq
  ·have hfit : s.len * i.size + us.length <= s.cap * i.size := by
    rw [hxlen, ← Nat.add_mul]; exact Nat.mul_le_mul_right _ hneed
   obtain ⟨w1, hr1, hu1', hb1, _⟩ := Jm P us b (off + s.len * i.size) 0 c e w h1 hb (by omega)
   simp [Builtin.append_, hu1, hu2, hsz, Builtin.lenOf, hneed, hfx, ha, addr_add, hr1] at hr
   obtain ⟨⟨h1, _⟩, rfl⟩ := hr
   exact .inr ⟨h1.symm.trans ha.symm, b, off, c, ha, hb, hb1⟩
 ·have hti : ∀ W, (typeInfo e).run P W = .ok i W := λ W => run_typeInfo W hi
  have hzv : ∀ W, (zeroValue e).run P W = .ok z W := λ W => by simp [zeroValue, run_typeInfo W hi, hz]
  have hle := Go.Vx.nextslicecap_le (need := s.len + x.len) (old := s.cap) (by omega)
  have hroom' : ¬ (Builtin.nextslicecap (s.len + x.len) s.cap * i.bytes > 2 ^ 48) := by
   have := Nat.mul_le_mul_right i.bytes hle
   omega
  have hfx' : (Builtin.firstCells i.size x.len (.slice x.a x.len x.cap)).run P w.drew = .ok us.toArray w.drew := En P (hx.ext (Ext.drew w))
  have hfs' : (Builtin.firstCells i.size s.len (.slice s.a s.len s.cap)).run P w.drew = .ok vs.toArray w.drew := Ez P (hs.in.ext (Ext.drew w))
  have hb0' : ¬ i.bytes = 0 := by omega
  simp [Builtin.append_, hu1, hu2, hsz, Builtin.lenOf, hneed, hti, hb0', hroom', run_askRoom, hfs', hfx', hzv, newRow, newObj, Sem.run, Question.forced] at hr
  obtain ⟨⟨h1, _⟩, rfl⟩ := hr
  refine .inl ⟨(Ext.drew w).trans (Ext.alloc w.drew _), λ k hk => ?_⟩
  obtain ⟨q, hq, rfl⟩ := hk
  rw [← h1] at hq; cases hq
  exact Nat.le_refl _
theorem Cc0 {B : Nat} {s x : Sl} {l m : Bs} {K : Sl -> Wp} (hs : Ah w B s 5 1 (bv l)) (hx : SlX w x 1 (bv m)) (hroom : s.len + x.len + (s.len + x.len) / 4 + 512 <= 2 ^ 48) (hB : B <= w.heap.size)
  (h : ∀ s' w', Ah w' B s' 5 1 (bv (l ++ m)) -> s'.len = s.len + x.len -> Upd s.blk w w' -> (∀ k, s'.blk k -> s.blk k \/ w.heap.size <= k) ->
   (∀ y b, By w y b -> (∀ k, y.blk k -> s.blk k -> top y <= top s) -> By w' y b /\ ∀ k, y.blk k -> s'.blk k -> top y <= top s') -> K s' w') :
  Df Tryz.prog (.one (.one .sl)) (Builtin.append_ #[22, 22] 22 #[.slice s.a s.len s.cap, .slice x.a x.len x.cap]) K w := by
 obtain ⟨i, z, hi, hsz, hby, hz, hzs⟩ := EBy.e_
 have hs' := hs
 rw [← hsz] at hs hx
 obtain ⟨s', w', hr, ho, hl, hu, hex⟩ := As5 (rt := 22) Tryz.prog EBy.ts_ EBy.ts_ hi hz hs hx (λ v hv => by
  obtain ⟨b, _, rfl⟩ := List.mem_map.1 hv; rfl) (by rw [hsz]; exact hzs) (by rw [hby]; omega) (by rw [hby]; decide) hB
 rw [hsz] at ho hex
 have eb : bv l ++ bv m = bv (l ++ m) := by simp [bv]
 rw [eb] at ho
 refine ⟨s', w', hr, h s' w' ho hl hu (λ k hk => ?_) λ y b hy hyt => ?_⟩
 ·rcases hex with ⟨_, h2⟩ | ⟨h1, _⟩
  ·exact .inr (h2 k hk)
  ·left
   obtain ⟨q, hq, rfl⟩ := hk
   exact ⟨q, h1 ▸ hq, rfl⟩
 ·rcases hex with ⟨h1, h2⟩ | ⟨h1, b0, off, c, ha, hb0, hb1⟩
  ·exact ⟨hy.ext h1, λ k hk hk' => by have := hy.Og hk; have := h2 k hk'; omega⟩
  ·have hts : top s <= top s' := by unfold top; rw [h1, ha]; show off + s.len <= off + s'.len; omega
   have hsk : ∀ k, s'.blk k -> s.blk k := λ k hk => by obtain ⟨q, hq, rfl⟩ := hk; exact ⟨q, h1 ▸ hq, rfl⟩
   refine ⟨⟨Aq.len hy, hy.le, hy.at_.imp id λ ⟨b', off', c', fr', ha', hb', hcap, hv⟩ => ?_⟩, λ k hk hk' => Nat.le_trans (hyt k hk (hsk k hk')) hts⟩
   by_cases hbb : b' = b0
   ·subst hbb
    rw [hb0] at hb'
    cases hb'
    have ht := hyt b' ⟨_, ha', rfl⟩ ⟨_, ha, rfl⟩
    unfold top at ht
    rw [ha', ha] at ht
    dsimp only at ht
    have hyl := hy.len
    refine ⟨b', off', _, _, ha', hb1, by rw [Go.Vx.size_setRow]; exact hcap, λ i u hu => ?_⟩
    have hil := (List.getElem?_eq_some_iff.1 hu).1
    rw [List.length_map] at hil
    rw [Go.Vx.Iw _ _ _ _ (by omega)]
    exact hv i u hu
   ·exact ⟨b', off', c', fr', ha', hu.get hb' (λ ⟨q, hq, hqb⟩ => by rw [ha] at hq; cases hq; exact hbb hqb.symm), hcap, hv⟩
theorem Its.by_ {e : Enc} : ∀ {l : List Pc} {M : Parts}, Its w e l M -> ∀ x ∈ l, ∃ b, By w x.bytes b
 | [], _, _, x, hx => by cases hx
 | y :: l, z :: M, h, x, hx => by
  rcases List.mem_cons.1 hx with rfl | hx
  ·exact ⟨_, h.1.by_⟩
  ·exact Its.by_ h.2 x hx
theorem Its.ty {e : Enc} {l : List Pc} {M : Parts} (h : Its w e l M) (u : Upd S w w') (hS : Eh w S 5) : Its w' e l M :=
 h.upd u λ x hx k hk hSk => by
  obtain ⟨b, hb⟩ := h.by_ x hx
  obtain ⟨c, fr, hc⟩ := hb.Ec hk
  exact hS k hSk c fr hc
theorem Its.to {e : Enc} : ∀ {l : List Pc} {M : Parts}, Its w e l M -> (∀ x ∈ l, ∀ b, By w x.bytes b -> By w' x.bytes b) -> Its w' e l M
 | [], [], _, _ => trivial
 | x :: l, y :: M, h, hb => ⟨⟨hb x List.mem_cons_self _ h.1.by_, h.1.sm, h.1.tag, h.1.ne, h.1.lo, h.1.hi⟩, Its.to h.2 λ z hz => hb z (List.mem_cons_of_mem _ hz)⟩
def Old (w W : World) (a0 a : Sl) : Prop := ∀ y b, By w y b -> (∀ k, y.blk k -> a0.blk k -> top y <= top a0) -> By W y b /\ ∀ k, y.blk k -> a.blk k -> top y <= top a
theorem Old.ty {W W' : World} {a0 a : Sl} (h : Old w W a0 a) (u : Upd S W W') (hS : Eh W S 5) : Old w W' a0 a := λ y b hy ht => ⟨(h y b hy ht).1.ty u hS, (h y b hy ht).2⟩
theorem Old.refl (w : World) (a : Sl) : Old w w a a := λ y b hy ht => ⟨hy, ht⟩
theorem Y4 (W : World) (t : TypeId) : Eh W (λ _ => False) t := λ _ h => h.elim
end
section
variable {w w' W W' : World} {S : Nat -> Prop} {p : Nat} {e : Enc} {lim na : Nat} {O : Nat -> Prop} {M : Parts}
theorem Pg {a : Addr} {K : Addr -> Wp} : nn (some a) K = K a := funext λ _ => propext G5
abbrev txO (e : Enc) (lim : Nat) (tp : Option Addr) (a : Sl) : Obj := .cells #[.int .i64 e.num, .int .i64 (lim : Int), .pointer tp, .slice a.a a.len a.cap] 107 (0, 0)
abbrev Bi2 (p b1 b2 b6 b7 : Nat) (ps : Sl) (f n : Nat) : List (Nat × Obj) := [(b7, .cells #[.int .i64 (n : Int)] 3 (0, 0)), (b6, .cells #[.int .i64 (f : Int)] 3 (0, 0)), (b2, .cells #[.slice ps.a ps.len ps.cap] 108 (0, 0)), (b1, .cells #[.pointer (some (at0 p))] 25 (0, 0))]
structure FrI (w W : World) (p : Nat) (e : Enc) (lim : Nat) (tp : Option Addr) (a0 : Sl) (b1 b2 b6 b7 : Nat) (a ps : Sl) (ab cb : Bs) (pl : List Pc) (M' : Parts) (n : Nat) : Prop where
 st : St (λ k => k = p \/ a0.blk k) w W (Bi2 p b1 b2 b6 b7 ps (ab.length - cb.length) n)
 tx : W.heap[p]? = some (txO e lim tp a)
 own : Ah W 0 a 5 1 (bv ab)
 suf : ∃ x, ab = x ++ cb
 row : Ah W w.heap.size ps 112 7 (flat Ag (pl.map pcT))
 its : Its W e pl M'
 tops : ∀ x ∈ pl, ∀ k, x.bytes.blk k -> a.blk k -> top x.bytes <= top a
 pblk : ∀ x ∈ pl, ∀ k, x.bytes.blk k -> a0.blk k \/ w.heap.size <= k
 ablk : ∀ k, a.blk k -> a0.blk k \/ w.heap.size <= k
 old : Old w W a0 a
 cnt : pl.length + cb.length <= ab.length
variable {tp : Option Addr} {a0 a ps : Sl} {b1 b2 b6 b7 n : Nat} {ab cb : Bs} {pl : List Pc} {M' : Parts}
theorem FrI.ext (h : FrI w W p e lim tp a0 b1 b2 b6 b7 a ps ab cb pl M' n) (x : Ext W W') : FrI w W' p e lim tp a0 b1 b2 b6 b7 a ps ab cb pl M' n :=
 ⟨h.st.ext x, x.ext_get h.tx, h.own.ext x, h.suf, h.row.ext x, h.its.ext x, h.tops, h.pblk, h.ablk, h.old.ty x (Y4 _ _), h.cnt⟩
set_option maxHeartbeats 1000000 in
theorem By7 {K : Unit -> Wp} (h : FrI w W p e lim tp a0 b1 b2 b6 b7 a ps ab cb pl M' n) (hab : ab.length < 2 ^ 40)
  (hK : ∀ ps' pl' M'' n' W', FrI w W' p e lim tp a0 b1 b2 b6 b7 a ps' ab [] pl' M'' n' -> aOf e M'' = aOf e M' ++ ats e cb -> n' <= n -> W.heap.size <= W'.heap.size -> K () W') :
  Bf Tryz.prog (do let d ← Deferred.ofValue (.func (.func 141) #[] #[.pointer (some (at0 b1)), .pointer (some (at0 b6)), .pointer (some (at0 b2)), .pointer (some (at0 b7))]) #[]; invoke d.target d.args : Sem Next) (.tup []) K W := by
 refine func_x (caps := #[.pointer (some (at0 b1)), .pointer (some (at0 b6)), .pointer (some (at0 b2)), .pointer (some (at0 b7))]) (by kernel_rfl) ?_
 refine Cw4 ?_
 unfold F141
 have hlen : ab.length = a.len := by have := h.own.len1; rwa [List.length_map] at this
 have hcl : cb.length <= ab.length := by obtain ⟨x, hx⟩ := h.suf; rw [hx]; simp
 have S0 := h.st
 refine S0.ld 3 rfl (x := some (at0 p)) rfl ?_
 simp only [Pg, addr_add]
 refine Dt h.tx (x := a) rfl (S0.ld 1 rfl (x := ((ab.length - cb.length : Nat) : Int)) rfl (Aa (λ hc => ?_) (λ hc => ?_)))
 ·simp only [decide_eq_true_eq, gt_iff_lt] at hc
  have hcb : 0 < cb.length := by omega
  refine S0.drew λ W1 S1 e1 _ => ?_
  have h1 := h.ext e1
  refine S1.ld 2 rfl (x := ps) rfl (S1.ld 3 rfl (x := some (at0 p)) rfl ?_)
  simp only [Pg, addr_add]
  refine Dt h1.tx (x := e.num) rfl (S1.ld 3 rfl (x := some (at0 p)) rfl ?_)
  simp only [Pg, addr_add]
  refine Dt h1.tx (x := a) rfl (S1.ld 1 rfl (x := ((ab.length - cb.length : Nat) : Int)) rfl ?_)
  have hcap := h.own.in.le
  refine Ci (by omega) ?_
  have hB1 : By W1 a ab := h1.own.in
  have c1 := hB1.cut (l := ((ab.length - cb.length : Nat) : Int)) (h := (a.len : Int)) (m := (a.len : Int)) (by omega) (by omega) (by omega) (by omega) (by omega)
  have d1 : (ab.drop ((ab.length - cb.length : Nat) : Int).toNat).take ((a.len : Int).toNat - ((ab.length - cb.length : Nat) : Int).toNat) = cb := by
   obtain ⟨x, hx⟩ := h.suf
   rw [Int.toNat_natCast, Int.toNat_natCast, List.take_of_length_le (by rw [List.length_drop]; omega)]
   have : ab.length - cb.length = x.length := by rw [hx]; simp
   rw [this, hx, List.drop_left]
  rw [d1] at c1
  have ct := Ak3 hB1 (l := ((ab.length - cb.length : Nat) : Int)) (h := (a.len : Int)) (m := (a.len : Int)) (by omega) (by omega) (by omega)
  have cbk := λ k => Vb (s := a) (l := ((ab.length - cb.length : Nat) : Int)) (h := (a.len : Int)) (m := (a.len : Int)) (k := k)
  generalize Sl.cut a.a ((ab.length - cb.length : Nat) : Int) (a.len : Int) (a.len : Int) 1 = y at *
  refine Nh c1 (by omega) λ W2 e2 => ?_
  have h2 := h1.ext e2
  have S2 := h2.st
  refine S2.keep 2 rfl (v := .slice ps.a ps.len ps.cap) rfl ?_
  refine Bo λ b15 W3 e3 n3 hb15 hz3 => ?_
  have h3 := h2.ext e3
  have S3 := h3.st
  refine S3.keep 2 rfl (v := .slice ps.a ps.len ps.cap) rfl ?_
  have hbox : SlX W3 ⟨some (at0 b15), 1, 1⟩ 7 (flat Ag [pcT (Xa e y (-1) cb)]) := (Aq.Hr n3 (n := 1) (sz := 7) rfl).x
  have hrl := Ah.Jq (cs := Ag) h3.row (by decide)
  rw [List.length_map] at hrl
  have hcnt := h.cnt
  refine Du Pn Pn.ts_ (x := ⟨some (at0 b15), 1, 1⟩) h3.row hbox (Ab3 _) (by
   show (ps.len + 1 + (ps.len + 1) / 4 + 512) * 64 <= 2 ^ 48
   omega) (by have := S3.upd.size; omega) λ ps' W4 o4 l4 u4 k4 => ?_
  have nb4 : Eh W3 ps.blk 5 := Eh.blk h3.row.in (by decide)
  have nt4 : Eh W3 ps.blk 107 := Eh.blk h3.row.in (by decide)
  have e4 : flat Ag (pl.map pcT) ++ flat Ag [pcT (Xa e y (-1) cb)] = flat Ag ((pl ++ [Xa e y (-1) cb]).map pcT) := by rw [List.map_append, Gq]; rfl
  rw [e4] at o4
  have tx4 : W4.heap[p]? = some (txO e lim tp a) := u4.get h3.tx λ hk => nt4 _ hk _ _ h3.tx
  have own4 := h3.own.ty u4 nb4
  have st4 : St (λ k => k = p \/ a0.blk k) w W4 (Bi2 p b1 b2 b6 b7 ps (ab.length - cb.length) n) := S3.fresh u4 (λ k hk => .inr (h3.row.Di hk)) (λ x hx hk => by
   obtain ⟨c, fr, hc'⟩ := h3.row.in.Ec hk
   have hl := (S3.loc x hx).1
   rw [hc'] at hl
   simp only [Bi2, List.mem_cons, List.not_mem_nil, or_false] at hx
   rcases hx with rfl | rfl | rfl | rfl <;> cases hl)
  have its4 : Its W4 e (pl ++ [Xa e y (-1) cb]) (M' ++ [(-1, cb)]) := by
   refine Its.app (h3.its.ty u4 nb4) ⟨⟨?_, rfl, rfl, ?_, Int.le_refl _, ?_⟩, trivial⟩
   ·exact ((c1.ext e2).ext e3).ty u4 nb4
   ·intro hn
    replace hn : cb = [] := hn
    rw [hn] at hcb; simp at hcb
   ·show (-1 : Int) + (cb.length : Int) <= 2 ^ 40; omega
  have old4 := h3.old.ty u4 nb4
  refine st4.stC 2 rfl (by show 0 < 1; decide) λ W5 S5 u5 => S5.stC 1 rfl (by show 0 < 1; decide) λ W6 S6 u6 => S6.stC 0 rfl (by show 0 < 1; decide) λ W7 S7 u7 => ?_
  have g2 : W4.heap[b2]? = some (.cells #[.slice ps.a ps.len ps.cap] 108 (0, 0)) := st4.at_ 2 rfl
  have g6 : W5.heap[b6]? = some (.cells #[.int .i64 ((ab.length - cb.length : Nat) : Int)] 3 (0, 0)) := S5.at_ 1 rfl
  have g7 : W6.heap[b7]? = some (.cells #[.int .i64 (n : Int)] 3 (0, 0)) := S6.at_ 0 rfl
  have tx5 : W5.heap[p]? = some (txO e lim tp a) := u5.get tx4 (λ hk => Eh.box g2 (by decide) _ hk _ _ tx4)
  have tx6 : W6.heap[p]? = some (txO e lim tp a) := u6.get tx5 (λ hk => Eh.box g6 (by decide) _ hk _ _ tx5)
  have tx7 : W7.heap[p]? = some (txO e lim tp a) := u7.get tx6 (λ hk => Eh.box g7 (by decide) _ hk _ _ tx6)
  have hts : ∀ x ∈ pl ++ [Xa e y (-1) cb], ∀ k, x.bytes.blk k -> a.blk k -> top x.bytes <= top a := by
   intro x hx
   rcases List.mem_append.1 hx with hx | hx
   ·exact h.tops x hx
   ·rw [List.mem_singleton.1 hx]; intro k _ _; exact ct
  have hpb : ∀ x ∈ pl ++ [Xa e y (-1) cb], ∀ k, x.bytes.blk k -> a0.blk k \/ w.heap.size <= k := by
   intro x hx
   rcases List.mem_append.1 hx with hx | hx
   ·exact h.pblk x hx
   ·rw [List.mem_singleton.1 hx]; intro k hk; exact h.ablk k (cbk k hk)
  refine hK ps' (pl ++ [Xa e y (-1) cb]) (M' ++ [(-1, cb)]) 0 W7 ⟨?_, tx7, ?_, ⟨ab, by simp⟩, ?_, ?_, hts, hpb, h.ablk, ?_, ?_⟩ ?_ (Nat.zero_le _) ?_
  ·have e0 : ((a.len : Nat) : Int) = ((ab.length - ([] : Bs).length : Nat) : Int) := by simp; omega
   rw [e0] at S7
   exact S7
  ·exact ((own4.box g2 (by decide) u5).box g6 (by decide) u6).box g7 (by decide) u7
  ·exact ((o4.box g2 (by decide) u5).box g6 (by decide) u6).box g7 (by decide) u7
  ·exact ((its4.ty u5 (Eh.box g2 (by decide))).ty u6 (Eh.box g6 (by decide))).ty u7 (Eh.box g7 (by decide))
  ·exact ((old4.ty u5 (Eh.box g2 (by decide))).ty u6 (Eh.box g6 (by decide))).ty u7 (Eh.box g7 (by decide))
  ·simp; omega
  ·rw [Fe]; simp [aOf]
  ·have := e1.size; have := e2.size; have := e3.size; have := u4.size; have := u5.size; have := u6.size; have := u7.size; omega
 ·simp only [decide_eq_false_iff_not, gt_iff_lt] at hc
  have hcb : cb = [] := List.length_eq_zero_iff.1 (by omega)
  subst hcb
  exact hK ps pl M' n W h (by rw [Ju, List.append_nil]) (Nat.le_refl _) (Nat.le_refl _)
theorem Old.trans {w W W' : World} {a0 a a' : Sl} (h : Old w W a0 a) (h' : Old W W' a a') : Old w W' a0 a' := λ y b hy ht => h' y b (h y b hy ht).1 (h y b hy ht).2
set_option maxHeartbeats 1000000 in
theorem Ay2 {s : Sl} {t : TypeId} {put : List Int} (hs : Aq w s t 1 (iv put)) (hsep : ∀ k, s.blk k -> k ≠ p /\ ¬ a0.blk k) (hfit : Fits e put) (tx : w.heap[p]? = some (txO e lim tp a0)) (own : Ah w 0 a0 5 1 (bv ab)) (hab : ab.length + (bts e put).length < 2 ^ 40) (hput : put.length < 2 ^ 40) {K : Sl -> Wp}
  (hK : ∀ ps a pl M' W, W.heap[p]? = some (txO e lim tp a) -> Ah W 0 a 5 1 (bv (ab ++ bts e put)) -> Ah W w.heap.size ps 112 7 (flat Ag (pl.map pcT)) -> Its W e pl M' -> aOf e M' = prs e put -> (∀ x ∈ pl, ∀ k, x.bytes.blk k -> a.blk k -> top x.bytes <= top a) ->
   (∀ x ∈ pl, ∀ k, x.bytes.blk k -> a0.blk k \/ w.heap.size <= k) -> (∀ k, a.blk k -> a0.blk k \/ w.heap.size <= k) -> Old w W a0 a -> Upd (λ k => k = p \/ a0.blk k) w W -> pl.length <= ab.length + (bts e put).length -> K ps W) :
  Ac Tryz.prog 113 #[.pointer (some (at0 p)), s.v] rS K w := by
 refine Cz2 ?_
 unfold F113
 have hlen : put.length = s.len := by have := hs.len1; rwa [List.length_map] at this
 have hal : ab.length = a0.len := by have := own.len1; rwa [List.length_map] at this
 have hpw := lt_of_heap tx
 refine (St.By3 (λ k => k = p \/ a0.blk k) w (λ k hk => hk.elim (λ h => h ▸ hpw) λ h => own.in.Og h)).Af λ b1 w1 S1 e1 => S1.Af λ b2 w2 S2 e2 => S2.ld 1 rfl (x := some (at0 p)) rfl ?_
 simp only [Pg, addr_add]
 have x2 := e1.trans e2
 refine Dt (x2.ext_get tx) (x := a0) rfl (S2.Af λ b6 w3 S3 e3 => S3.stC 0 rfl (by show 0 < 1; decide) λ w4 S4 u4 => S4.Af λ b7 w5 S5 e5 => S5.stC 0 rfl (by show 0 < 1; decide) λ w6 S6 u6 => ?_)
 have g6 : w3.heap[b6]? = some (.cells #[.int .i64 0] 3 (0, 0)) := S3.at_ 0 rfl
 have g7 : w5.heap[b7]? = some (.cells #[.int .i64 0] 3 (0, 0)) := S5.at_ 0 rfl
 have x3 := x2.trans e3
 have F0 : FrI w w6 p e lim tp a0 b1 b2 b6 b7 a0 ⟨none, 0, 0⟩ ab [] [] [] 0 := by
  refine ⟨?_, ?_, ?_, ⟨ab, by simp⟩, Ah.nil _ _ _ _, trivial, (λ x hx => by cases hx), (λ x hx => by cases hx), λ k hk => .inl hk, ?_, by simp⟩
  ·have e0 : ((a0.len : Nat) : Int) = ((ab.length - ([] : Bs).length : Nat) : Int) := by simp; omega
   rw [e0] at S6
   exact S6
  ·have t3 := x3.ext_get tx
   have t4 : w4.heap[p]? = some (txO e lim tp a0) := u4.get t3 (λ hk => Eh.box g6 (by decide) _ hk _ _ t3)
   have t5 := e5.ext_get t4
   exact u6.get t5 (λ hk => Eh.box g7 (by decide) _ hk _ _ t5)
  ·exact (((own.ext x3).box g6 (by decide) u4).ext e5).box g7 (by decide) u6
  ·exact ((((Old.refl w a0).ty x3 (Y4 _ _)).ty u4 (Eh.box g6 (by decide))).ty e5 (Y4 _ _)).ty u6 (Eh.box g7 (by decide))
 clear S1 S2 S3 S4 S5 S6
 have tkl : ∀ i j : Nat, j <= i -> (bts e ((put.take i).drop j)).length <= (bts e put).length := by
  intro i j _
  have : put = put.take i ++ put.drop i := (List.take_append_drop i put).symm
  have h2 : put.take i = (put.take i).take j ++ (put.take i).drop j := (List.take_append_drop j _).symm
  have h3 : (bts e put).length = (bts e (put.take i)).length + (bts e (put.drop i)).length := by conv => lhs; rw [this]; rw [Yp, List.length_append]
  have h4 : (bts e (put.take i)).length = (bts e ((put.take i).take j)).length + (bts e ((put.take i).drop j)).length := by conv => lhs; rw [h2]; rw [Yp, List.length_append]
  omega
 have abl : ∀ i, (ab ++ bts e (put.take i)).length < 2 ^ 40 := λ i => by have := tkl i 0 (Nat.zero_le _); rw [List.length_append]; simp only [List.drop_zero] at this; omega
 have fit2 : ∀ i j, Fits e ((put.take i).drop j) := λ i j x hx => hfit x (List.mem_of_mem_take (List.mem_of_mem_drop hx))
 have glue : ∀ i j, Run ((put.take i).drop j) -> prs e ((put.take i).take j) ++ ats e (bts e ((put.take i).drop j)) = prs e (put.take i) := λ i j hr => by
  rw [Bw2 (fit2 i j) hr]; unfold prs; rw [← List.map_append, List.take_append_drop]
 have shut : ∀ {a ps i j pl M' n} {W : World} {K : Unit -> Wp}, Run ((put.take i).drop j) -> j <= i -> FrI w W p e lim tp a0 b1 b2 b6 b7 a ps (ab ++ bts e (put.take i)) (bts e ((put.take i).drop j)) pl M' n -> aOf e M' = prs e ((put.take i).take j) -> (∀ ps' pl' M'' n' W', FrI w W' p e lim tp a0 b1 b2 b6 b7 a ps' (ab ++ bts e (put.take i)) [] pl' M'' n' -> aOf e M'' = prs e (put.take i) -> n' <= n -> K () W') ->
   Bf Tryz.prog (do let d ← Deferred.ofValue (.func (.func 141) #[] #[.pointer (some (at0 b1)), .pointer (some (at0 b6)), .pointer (some (at0 b2)), .pointer (some (at0 b7))]) #[]; invoke d.target d.args : Sem Next) (.tup []) K W := by
  intro a ps i j pl M' n W K hr hj F hM hK
  exact By7 F (abl i) λ ps' pl' M'' n' W' F' hM' hn _ => hK ps' pl' M'' n' W' F' (by rw [hM', hM, glue _ _ hr]) hn
 refine Ae (λ _ W => ∃ a ps pl M' n j, j <= put.length /\ (∀ x ∈ (put.take put.length).drop j, Scalar x) /\ FrI w W p e lim tp a0 b1 b2 b6 b7 a ps (ab ++ bts e (put.take put.length)) (bts e ((put.take put.length).drop j)) pl M' n /\ aOf e M' = prs e ((put.take put.length).take j)) ?_ ?_
 ·refine Am (λ x W => ∃ a ps pl M' n i j, x = (((i : Nat) : Int), ()) /\ i <= put.length /\ j <= i /\ n <= i /\ (∀ x ∈ (put.take i).drop j, Scalar x) /\ FrI w W p e lim tp a0 b1 b2 b6 b7 a ps (ab ++ bts e (put.take i)) (bts e ((put.take i).drop j)) pl M' n /\ aOf e M' = prs e ((put.take i).take j)) (λ x _ => ((put.length : Int) - x.1).toNat) ⟨a0, ⟨none, 0, 0⟩, [], [], 0, 0, 0, rfl, Nat.zero_le _, Nat.le_refl _, Nat.le_refl _, (λ x hx => by simp at hx), by simpa [bts] using F0, by simp [aOf, prs]⟩ ?_
  rintro _ W ⟨a, ps, pl, M', n, i, j, rfl, hi, hj, hn, hsc, F, hM⟩
  refine Aa (λ hc => ?_) (λ hc => ?_)
  ·simp only [decide_eq_true_eq] at hc
   obtain ⟨v, hv⟩ : ∃ v, put[i]? = some v := ⟨_, List.getElem?_eq_getElem (by omega)⟩
   have hf := hfit v (List.mem_of_getElem? hv)
   have ew : W64 ((i : Int) + 1) = ((i + 1 : Nat) : Int) := by rw [wrap64 (by omega) (by omega)]; omega
   dsimp only
   rw [ew]
   refine Ae (λ _ W => ∃ a ps pl M' n j, j <= i + 1 /\ n <= i + 1 /\ (∀ x ∈ (put.take (i + 1)).drop j, Scalar x) /\ FrI w W p e lim tp a0 b1 b2 b6 b7 a ps (ab ++ bts e (put.take (i + 1))) (bts e ((put.take (i + 1)).drop j)) pl M' n /\ aOf e M' = prs e ((put.take (i + 1)).take j)) ?_ ?_
   ·have hsW : Aq W s t 1 (iv put) := hs.upd F.st.upd λ k hk hSk => by
     have := hsep k hk
     rcases hSk with h | h
     ·exact this.1 h
     ·exact this.2 h
    refine Iu (c := .int .i64) (xs := put) hsW (by omega) (x := v) (by rw [Int.toNat_natCast]; exact hv) λ q => ?_
    have hsv := Av0 hf
    obtain ⟨sc, hsc'⟩ : ∃ sc : Bool, sc = decide (0 <= v /\ (v < 55296 \/ 57343 < v)) := ⟨_, rfl⟩
    have hsv : sc = true ↔ Scalar v := by rw [hsc', hsv, decide_eq_true_eq]
    refine Ae (λ x W' => x = (sc, ()) /\ W = W') ?_ ?_
    ·refine Aa (λ h1 => Aa (λ h2 => ⟨Aj ?_, rfl⟩) (λ h2 => ⟨Aj ?_, rfl⟩)) (λ h1 => ⟨Aj ?_, rfl⟩)
     all_goals simp only [hsc', decide_eq_true_eq, decide_eq_false_iff_not, gt_iff_lt, ge_iff_le, true_iff, Bool.false_eq_true, false_iff] at *
     all_goals omega
    rintro _ _ ⟨rfl, rfl⟩
    refine Ae (λ _ W => ∃ ps pl M' n j, j <= i /\ n <= i /\ (∀ x ∈ (put.take i).drop j, Scalar x) /\ (sc = false -> j = i) /\ FrI w W p e lim tp a0 b1 b2 b6 b7 a ps (ab ++ bts e (put.take i)) (bts e ((put.take i).drop j)) pl M' n /\ aOf e M' = prs e ((put.take i).take j)) ?_ ?_
    ·refine Ae (λ x W' => x = ((!sc || decide (n = 128)), ()) /\ W = W') ?_ ?_
     ·refine Aa (λ h1 => ⟨Aj ?_, rfl⟩) (λ h1 => F.st.ld 0 rfl (x := (n : Int)) rfl ⟨Aj ?_, rfl⟩)
      ·have h1 : (!sc) = true := h1
       rw [h1]; simp
      ·have h1 : (!sc) = false := h1
       rw [h1, Bool.false_or]
       simp only [beq_iff_eq, decide_eq_true_eq]; omega
     rintro _ _ ⟨rfl, rfl⟩
     have nil_ : (put.take i).drop i = [] := List.drop_eq_nil_of_le (by rw [List.length_take]; omega)
     refine Aa (λ _ => shut (.inl hsc) hj F hM λ ps' pl' M'' n' W' F' hM' hn' => ⟨ps', pl', M'', n', i, Nat.le_refl _, by omega, ?_, (λ _ => rfl), ?_, ?_⟩) (λ hb => ⟨ps, pl, M', n, j, hj, hn, hsc, (λ h => ?_), F, hM⟩)
     ·rw [nil_]; intro x hx; cases hx
     ·rw [nil_]; exact F'
     ·rw [hM', List.take_take, Nat.min_self]
     ·have hb : (!sc || decide (n = 128)) = false := hb
      rw [h] at hb; simp at hb
    clear F hM hn hj hsc ps pl M' n j
    rintro _ W1 ⟨ps, pl, M', n, j, hj, hn, hsc, hji, F, hM⟩
    refine F.st.ld 3 rfl (x := some (at0 p)) rfl ?_
    simp only [Pg, addr_add]
    refine Dt F.tx (x := e.num) rfl (Bo λ b27 W2 e2' n2 hb27 _ => ?_)
    have F2 := F.ext e2'
    have hbox : Aq W2 ⟨some (at0 b27), 1, 1⟩ 3 1 [.int .i64 v] := Aq.Hr n2 (n := 1) (sz := 1) rfl
    refine Bi7 (s := ⟨some (at0 b27), 1, 1⟩) (t := 3) (e := e) (a := v) hf hbox λ s28 W3 o28 e3' => ?_
    have F3 := F2.ext e3'
    have S3 := F3.st
    show drew _ W3
    refine S3.drew λ W4 S4 e4' _ => ?_
    have F4 := F3.ext e4'
    have o28 := o28.ext e4'
    refine F4.st.ld 3 rfl (x := some (at0 p)) rfl (F4.st.ld 3 rfl (x := some (at0 p)) rfl ?_)
    simp only [Pg, addr_add]
    have tkv : put.take (i + 1) = put.take i ++ [v] := by rw [List.take_add_one, hv]; rfl
    have ptl : (bts e (put.take i)).length + (pt e v).length <= (bts e put).length := by
     have := tkl (i + 1) 0 (Nat.zero_le _)
     rw [List.drop_zero, tkv, Yp, List.length_append] at this
     simpa [bts] using this
    have s28l : (pt e v).length = s28.len := by have := o28.len1; rwa [List.length_map] at this
    have al4 : (ab ++ bts e (put.take i)).length = a.len := by have := F4.own.len1; rwa [List.length_map] at this
    have al4' := al4
    rw [List.length_append] at al4'
    refine Dt F4.tx (x := a) rfl (Cc0 F4.own o28.in.x (by omega) (Nat.zero_le _) λ a' W5 o5 l5 u5 k5 old5 => ?_)
    have nb5 : ∀ t, t ≠ 5 -> Eh W4 a.blk t := λ t ht => Eh.blk F4.own.in (λ h => ht h.symm)
    have tx5 : W5.heap[p]? = some (txO e lim tp a) := u5.get F4.tx λ hk => nb5 107 (by decide) _ hk _ _ F4.tx
    have st5 : St (λ k => k = p \/ a0.blk k) w W5 (Bi2 p b1 b2 b6 b7 ps ((ab ++ bts e (put.take i)).length - (bts e ((put.take i).drop j)).length) n) := F4.st.fresh u5 (λ k hk => (F4.ablk k hk).imp .inr id) (λ x hx hk => by
     obtain ⟨c, fr, hc'⟩ := F4.own.in.Ec hk
     have hl := (F4.st.loc x hx).1
     rw [hc'] at hl
     simp only [Bi2, List.mem_cons, List.not_mem_nil, or_false] at hx
     rcases hx with rfl | rfl | rfl | rfl <;> cases hl)
    have row5 := F4.row.ty u5 (nb5 112 (by decide))
    have its5 : Its W5 e pl M' := F4.its.to λ x hx b hb => (old5 x.bytes b hb (F4.tops x hx)).1
    have tops5 : ∀ x ∈ pl, ∀ k, x.bytes.blk k -> a'.blk k -> top x.bytes <= top a' := λ x hx => by
     obtain ⟨b, hb⟩ := F4.its.by_ x hx
     exact (old5 x.bytes b hb (F4.tops x hx)).2
    have oldT : Old w W5 a0 a' := F4.old.trans old5
    refine st5.keep 3 rfl (v := .pointer (some (at0 p))) rfl ?_
    refine Jl tx5 (by show 3 < 4; decide) λ W6 u6 n6 _ => ?_
    have n6 : W6.heap[p]? = some (txO e lim tp a') := n6
    have nt6 : ∀ t, t ≠ 107 -> Eh W5 (λ k => k = p) t := λ t ht => Eh.box tx5 (λ h => ht h.symm)
    have st6 : St (λ k => k = p \/ a0.blk k) w W6 (Bi2 p b1 b2 b6 b7 ps ((ab ++ bts e (put.take i)).length - (bts e ((put.take i).drop j)).length) n) := st5.step u6 λ k hk => .inl hk
    refine st6.ld 0 rfl (x := (n : Int)) rfl (st6.stC 0 rfl (by show 0 < 1; decide) λ W7 S7 u7 => ?_)
    have g7' : W6.heap[b7]? = some (.cells #[.int .i64 (n : Int)] 3 (0, 0)) := st6.at_ 0 rfl
    have ewn : W64 ((n : Int) + 1) = ((n + 1 : Nat) : Int) := by rw [wrap64 (by omega) (by omega)]; omega
    rw [ewn] at S7
    have cbe : bts e ((put.take (i + 1)).drop j) = bts e ((put.take i).drop j) ++ pt e v := by
     rw [tkv, List.drop_append_of_le_length (by rw [List.length_take]; omega), Yp]; simp [bts]
    have abe : ab ++ bts e (put.take (i + 1)) = ab ++ bts e (put.take i) ++ pt e v := by rw [tkv, Yp, List.append_assoc]; simp [bts]
    have F7 : FrI w W7 p e lim tp a0 b1 b2 b6 b7 a' ps (ab ++ bts e (put.take (i + 1))) (bts e ((put.take (i + 1)).drop j)) pl M' (n + 1) := by
     rw [cbe, abe]
     refine ⟨?_, ?_, ?_, ?_, ?_, ?_, tops5, F4.pblk, ?_, ?_, ?_⟩
     ·rw [@List.length_append _ (ab ++ bts e (put.take i)), @List.length_append _ (bts e ((put.take i).drop j)), Nat.add_sub_add_right]
      exact S7
     ·exact u7.get n6 (λ hk => Eh.box g7' (by decide) _ hk _ _ n6)
     ·exact (o5.ty u6 (nt6 _ (by decide))).box g7' (by decide) u7
     ·obtain ⟨x, hx⟩ := F4.suf
      exact ⟨x, by rw [hx, List.append_assoc]⟩
     ·exact (row5.ty u6 (nt6 _ (by decide))).box g7' (by decide) u7
     ·exact (its5.ty u6 (nt6 _ (by decide))).ty u7 (Eh.box g7' (by decide))
     ·intro k hk
      rcases k5 k hk with h | h
      ·exact F4.ablk k h
      ·have := F4.st.upd.size; exact .inr (by omega)
     ·exact (oldT.ty u6 (nt6 _ (by decide))).ty u7 (Eh.box g7' (by decide))
     ·have := F4.cnt
      rw [@List.length_append _ (ab ++ bts e (put.take i)), @List.length_append _ (bts e ((put.take i).drop j))]
      omega
    have seg : (put.take (i + 1)).drop j = (put.take i).drop j ++ [v] := by rw [tkv, List.drop_append_of_le_length (by rw [List.length_take]; omega)]
    have hM7 : aOf e M' = prs e ((put.take (i + 1)).take j) := by rw [hM, tkv, List.take_append_of_le_length (by rw [List.length_take]; omega)]
    refine Aa (λ hb => ?_) (λ hb => ⟨a', ps, pl, M', n + 1, j, by omega, by omega, ?_, F7, hM7⟩)
    ·have hb : sc = false := by simpa using hb
     have hr : Run ((put.take (i + 1)).drop j) := .inr ⟨v, by rw [seg, hji hb, List.drop_eq_nil_of_le (by rw [List.length_take]; omega)]; rfl⟩
     have nil_ : (put.take (i + 1)).drop (i + 1) = [] := List.drop_eq_nil_of_le (by rw [List.length_take]; omega)
     refine shut hr (by omega) F7 hM7 λ ps' pl' M'' n' W' F' hM' hn' => ⟨a', ps', pl', M'', n', i + 1, Nat.le_refl _, by omega, ?_, ?_, ?_⟩
     ·rw [nil_]; intro x hx; cases hx
     ·rw [nil_]; exact F'
     ·rw [hM', List.take_take, Nat.min_self]
    ·have hb : sc = true := by simpa using hb
     rw [seg]
     intro x hx
     rcases List.mem_append.1 hx with hx | hx
     ·exact hsc x hx
     ·rw [List.mem_singleton.1 hx]; exact hsv.1 hb
   ·rintro _ W' ⟨a, ps, pl, M', n, j, hj, hn, hsc, F, hM⟩
    exact ⟨⟨a, ps, pl, M', n, i + 1, j, rfl, by omega, by omega, hn, hsc, F, hM⟩, by omega⟩
  ·simp only [decide_eq_false_iff_not] at hc
   have : i = put.length := by omega
   subst this
   exact ⟨a, ps, pl, M', n, j, hj, hsc, F, hM⟩
 ·rintro _ W ⟨a, ps, pl, M', n, j, hj, hsc, F, hM⟩
  refine shut (.inl hsc) hj F hM λ ps' pl' M'' n' W' F' hM' _ => ?_
  have hcnt := F'.cnt
  rw [List.take_length] at F' hM' hcnt
  refine F'.st.ld 2 rfl (x := ps') rfl (hK ps' a pl' M'' W' F'.tx F'.own F'.row F'.its hM' F'.tops F'.pblk F'.ablk F'.old F'.st.upd ?_)
  rw [List.length_append] at hcnt
  simpa using hcnt
end
section
variable {w w' W W' : World} {S : Nat -> Prop} {p : Nat} {e : Enc} {lim na : Nat} {O : Nat -> Prop} {M : Parts} {tp : Option Addr} {a0 a : Sl}
def hdA (e : Enc) (M : Parts) (i n : Nat) : As := match M[i]? with | some x => (ats e x.2).take n | none => []
def tlA (e : Enc) (M : Parts) (i n : Nat) : As := match M[i]? with | some x => (ats e x.2).drop n | none => []
theorem Bp2 {e : Enc} {M : Parts} {i n : Nat} {x : Int × Bs} (h : M[i]? = some x) : hdA e M i n = (ats e x.2).take n := by unfold hdA; rw [h]
theorem Am0 {e : Enc} {M : Parts} {i n : Nat} {x : Int × Bs} (h : M[i]? = some x) : tlA e M i n = (ats e x.2).drop n := by unfold tlA; rw [h]
theorem Bp3 {e : Enc} {M : Parts} {i n : Nat} (h : M[i]? = none) : hdA e M i n = [] := by unfold hdA; rw [h]
theorem Bl2 {e : Enc} {M : Parts} {i n : Nat} (h : M[i]? = none) : tlA e M i n = [] := by unfold tlA; rw [h]
theorem Bu6 {e : Enc} {M : Parts} {at_ i n : Nat} (h : At1 e M at_ i n) : (aOf e M).take at_ = aOf e (M.take i) ++ hdA e M i n := by rw [Ac9 h]; unfold hdA; cases M[i]? <;> rfl
theorem Bi8 {e : Enc} {M : Parts} {at_ i n : Nat} (h : At1 e M at_ i n) : (aOf e M).drop at_ = tlA e M i n ++ aOf e (M.drop (i + 1)) := by
 rcases h with ⟨rfl, rfl, rfl⟩ | ⟨x, hx, h1, h2, rfl⟩
 ·cases M with
  | nil => simp [aOf, tlA]
  | cons x M => simp [aOf, tlA]
 ·rw [Am0 hx]
  have hil := (List.getElem?_eq_some_iff.1 hx).1
  have hd : M = M.take i ++ x :: M.drop (i + 1) := by
   have := List.drop_eq_getElem_cons hil
   have hx' : M[i] = x := by rw [List.getElem?_eq_getElem hil] at hx; exact Option.some.inj hx
   rw [hx'] at this
   rw [← this, List.take_append_drop]
  have : aOf e M = aOf e (M.take i) ++ (ats e x.2 ++ aOf e (M.drop (i + 1))) := by
   conv => lhs; rw [hd]
   rw [Fe, Gn]
  rw [this, List.drop_length_add_append, List.drop_append_of_le_length h2]
theorem Bs9 {e : Enc} {M : Parts} {f t i n j m : Nat} (h1 : At1 e M f i n) (h2 : At1 e M t j m) (hft : f <= t) : i <= j := by
 have mono : ∀ a b : Nat, a <= b -> (aOf e (M.take a)).length <= (aOf e (M.take b)).length := by
  intro a b hab
  have : M.take b = M.take a ++ (M.take b).drop a := by
   conv => lhs; rw [← List.take_append_drop a (M.take b)]
   rw [List.take_take, Nat.min_eq_left hab]
  rw [this, Fe, List.length_append]; omega
 rcases h1 with ⟨_, rfl, _⟩ | ⟨x, hx, g1, g2, g3⟩
 ·exact Nat.zero_le _
 rcases Nat.lt_or_ge j i with hlt | hge
 ·exfalso
  rcases h2 with ⟨h, _, _⟩ | ⟨y, hy, k1, k2, k3⟩
  ·omega
  ·have hjl := (List.getElem?_eq_some_iff.1 hy).1
   have e1 : (aOf e (M.take (j + 1))).length = (aOf e (M.take j)).length + (ats e y.2).length := by
    have hy' : M[j] = y := by rw [List.getElem?_eq_getElem hjl] at hy; exact Option.some.inj hy
    rw [List.take_add_one, hy, Option.toList_some, Fe, List.length_append]
    simp [aOf]
   have := mono (j + 1) i (by omega)
   omega
 ·exact hge
theorem Am2 {l : As} (h : Iz l) {n : Nat} (hn : n <= l.length) : n <= szs (l.take n) := by
 have := Wn (h.take n)
 rw [List.length_take] at this; omega
theorem Bu5 {x : Pc} {y : Int × Bs} {n : Nat} (hp : O5 w e x y) (h1 : 1 <= n) (hn : n <= (ats e y.2).length) : O5 w e (Pm e x y.2 n) (y.1, y.2.take (cutAt e y.2 n)) := by
 have hcl := Uc e y.2 n
 have hlen := hp.by_.len
 have hcap := Aq.le hp.by_
 have c1 := hp.by_.cut (l := 0) (h := (cutAt e y.2 n : Int)) (m := (cutAt e y.2 n : Int)) (by omega) (by omega) (by omega) (by omega) (by omega)
 have d1 : (y.2.drop (0 : Int).toNat).take ((cutAt e y.2 n : Int).toNat - (0 : Int).toNat) = y.2.take (cutAt e y.2 n) := by simp
 rw [d1] at c1
 have hge : n <= cutAt e y.2 n := Am2 (Es e y.2) hn
 refine ⟨c1, rfl, hp.tag, λ hc => ?_, hp.lo, ?_⟩
 ·have := congrArg List.length hc
  rw [List.length_take, List.length_nil] at this
  omega
 ·have := hp.hi
  show y.1 + ((y.2.take _).length : Int) <= _
  rw [List.length_take]; omega
theorem Bt2 {x : Pc} {y : Int × Bs} {n : Nat} (hp : O5 w e x y) (hn : n < (ats e y.2).length) : O5 w e (Nw e x y.2 n) (Dq y.1 (cutAt e y.2 n), y.2.drop (cutAt e y.2 n)) := by
 have hcl := Uc e y.2 n
 have hlen := hp.by_.len
 have hcap := Aq.le hp.by_
 have c2 := hp.by_.cut (l := (cutAt e y.2 n : Int)) (h := (x.bytes.len : Int)) (m := (x.bytes.cap : Int)) (by omega) (by omega) (by omega) (by omega) (by omega)
 have d2 : (y.2.drop (cutAt e y.2 n : Int).toNat).take ((x.bytes.len : Int).toNat - (cutAt e y.2 n : Int).toNat) = y.2.drop (cutAt e y.2 n) := by
  rw [Int.toNat_natCast, Int.toNat_natCast]
  exact List.take_of_length_le (by rw [List.length_drop]; omega)
 rw [d2] at c2
 have hlt : cutAt e y.2 n < y.2.length := by
  have h1 := Ba ((ats e y.2).take n) ((ats e y.2).drop n)
  rw [List.take_append_drop, Gg] at h1
  have h2 := Wn ((Es e y.2).drop n)
  rw [List.length_drop] at h2
  unfold cutAt; omega
 have hlo := hp.lo; have hhi := hp.hi
 refine ⟨c2, rfl, by show Dq x.tag _ = Dq y.1 _; rw [hp.tag], λ hc => ?_, ?_, ?_⟩
 ·have := congrArg List.length hc
  rw [List.length_drop, List.length_nil] at this
  omega
 ·show -1 <= Dq y.1 _
  unfold Dq; split <;> omega
 ·show Dq y.1 _ + ((y.2.drop _).length : Int) <= _
  rw [List.length_drop]
  unfold Dq; split <;> omega
theorem Bw6 (l : List Pc) : ∀ v ∈ flat Ag (l.map pcT), Dx v = true := by
 intro v hv
 unfold flat at hv
 obtain ⟨x, hx, hv⟩ := List.mem_flatMap.1 hv
 obtain ⟨y, _, rfl⟩ := List.mem_map.1 hx
 exact Ab3 y v (by rw [Qj]; exact hv)
theorem Ai8 (tx : W.heap[p]? = some (txO e lim tp a)) {K : Addr -> Cells.T c105 -> Wp} (hK : K (at0 p) (tp, ()) W) : nn (some (at0 p)) (λ q => lds c105 (q.add 2) (K q)) W := by
 refine Dv ?_
 rw [addr_add]
 refine Tt tx (x := (tp, ())) (λ i v hv => ?_) hK
 match i, hv with
 | 0, hv => exact hv
 | i + 1, hv => cases hv
abbrev Wr (w : World) (O : Nat -> Prop) (k : Nat) : Prop := O k /\ ∀ c fr, w.heap[k]? ≠ some (.cells c 144 fr)
set_option maxHeartbeats 2000000 in
theorem Ab5 {from_ to_ : Nat} {s : Sl} {t : TypeId} {put : List Int} (h : Txt w p e lim na O M) (hft : from_ <= to_) (hto : to_ <= (aOf e M).length) (hs : Aq w s t 1 (iv put)) (hsep : ∀ k, s.blk k -> ¬ O k) (hfit : Fits e put) (hna : na + (bts e put).length < 2 ^ 40) (hput : put.length < 2 ^ 40)
  (hroom : szs ((aOf e M).take from_ ++ prs e put ++ (aOf e M).drop to_) <= 1048576) {K : Unit -> Wp}
  (hK : ∀ O' M' w', Txt w' p e lim (na + (bts e put).length) O' M' -> aOf e M' = (aOf e M).take from_ ++ prs e put ++ (aOf e M).drop to_ -> Upd (Wr w O) w w' -> (∀ k, O k -> O' k) -> (∀ k, O' k -> O k \/ w.heap.size <= k) -> K () w') :
  Ac Tryz.prog 78 #[.pointer (some (at0 p)), .int .i64 (from_ : Int), .int .i64 (to_ : Int), s.v] (.tup []) K w := by
 refine A78 ?_
 unfold F78
 obtain ⟨tr, a0, ab, tx, ht, hi, own, tops, pO, aO, hla⟩ := h.ex
 have few := h.few; have lims := h.lims; have hsz := h.sz
 have il := hi.len
 have hf : Fine tr.items := hi.fine (by omega)
 have fl := hf.few
 have hal : ab.length = a0.len := by have := own.len1; rwa [List.length_map] at this
 refine Qq h (by omega) λ i n w1 hs1 hil1 e1 => ?_
 refine Qq (h.ext e1) (by omega) λ j m w2 hs2 hil2 e2 => ?_
 rw [Int.toNat_natCast] at hs1 hs2
 have x2 := e1.trans e2
 have hij := Bs9 hs1 hs2 hft
 have pcs : ∀ {i : Nat} {x : Pc}, tr.items[i]? = some x -> ∃ y, M[i]? = some y /\ O5 w e x y /\ y.2.length <= 1048576 := by
  intro i x hx
  obtain ⟨y, hy, hp⟩ := hi.get i hx
  refine ⟨y, hy, hp, ?_⟩
  have h2 : szs (aOf e M) = szs (aOf e (M.take i)) + (y.2.length + szs (aOf e (M.drop (i + 1)))) := by
   have hil := (List.getElem?_eq_some_iff.1 hy).1
   have hd := List.drop_eq_getElem_cons hil
   have hx' : M[i] = y := by rw [List.getElem?_eq_getElem hil] at hy; exact Option.some.inj hy
   rw [hx'] at hd
   conv => lhs; rw [← List.take_append_drop i M, hd]
   rw [Fe, Gn, Ba, Ba, Gg]
  omega
 have spn : ∀ {at_ i n : Nat} {y : Int × Bs}, at_ <= (aOf e M).length -> At1 e M at_ i n -> M[i]? = some y -> n <= (ats e y.2).length /\ n < 2 ^ 30 := by
  intro at_ i n y hle hs hy
  rcases hs with ⟨_, _, rfl⟩ | ⟨x, hx, h1, h2, h3⟩
  ·exact ⟨Nat.zero_le _, by decide⟩
  ·rw [hy] at hx; cases hx
   exact ⟨h2, by omega⟩
 refine Ae (λ x W => ∃ plL ML, Ah W w2.heap.size x.1 112 7 (flat Ag (plL.map pcT)) /\ Its w e plL ML /\ aOf e ML = hdA e M i n /\ (∀ x ∈ plL, ∀ k, x.bytes.blk k -> O k) /\ (∀ x ∈ plL, ∀ k, x.bytes.blk k -> a0.blk k -> top x.bytes <= top a0) /\ plL.length <= 1 /\ Ext w2 W) ?_ ?_
 ·refine Ai8 (x2.ext_get tx) (U1 (ht.ext x2) hf (by omega) λ w3 e3 => ?_)
  refine (St.start w3).Af λ b8 w4 S4 e4 => S4.Ad 0 rfl rfl rfl rfl λ w5 S5 u5 => ?_
  cases hx : tr.items[i]? with
  | none =>
   have hM : M[i]? = none := List.getElem?_eq_none (by have := List.getElem?_eq_none_iff.1 hx; omega)
   have e0 : atI tr.items i = (Pc.zero, false) := by unfold atI; rw [hx]
   rw [e0, Bp3 hM]
   refine Ae (λ x W => x = (false, ()) /\ w5 = W) (Au ⟨rfl, rfl⟩) ?_
   rintro _ _ ⟨rfl, rfl⟩
   exact Au ⟨[], [], Ah.nil _ _ _ _, trivial, rfl, (λ x hx => by cases hx), (λ x hx => by cases hx), Nat.zero_le _, e3.trans S5.upd⟩
  | some x =>
   have e0 : atI tr.items i = (x, true) := by unfold atI; rw [hx]
   rw [e0] at S5 ⊢
   obtain ⟨y, hy, hp, hyl⟩ := pcs hx
   have hn := spn (by omega) hs1 hy
   rw [Bp2 hy]
   refine Ae (λ x W => x = (decide (0 < n), ()) /\ w5 = W) (Cm ⟨Aj ?_, rfl⟩) ?_
   ·simp only [decide_eq_true_eq, gt_iff_lt]; omega
   rintro _ _ ⟨rfl, rfl⟩
   refine Aa (λ hn0 => ?_) (λ hn0 => ?_)
   ·simp only [decide_eq_true_eq] at hn0
    have hlo := hp.lo; have hhi := hp.hi
    have hE : ∀ {V : World}, Ext w3 V -> V.cell? (at0 p) = some (.int .i64 e.num) := λ x => cell_of (x.ext_get ((x2.trans e3).ext_get tx)) rfl
    have byB : By w3 x.bytes y.2 := hp.by_.ext (x2.trans e3)
    have S := S5
    refine Ae (λ s W => ∃ b, s.1 = at0 b /\ W.heap[b]? = some (.cells (Cells.vals Ag (pcT (Pm e x y.2 n))).toArray 112 (0, 0)) /\ Ext w3 W) ?_ ?_
    ·refine S.drew λ w9 S e9 _ => S.lds 0 (pcT x) rfl ?_
     simp only [Pg]
     refine Dt (S.upd.ext_get ((x2.trans e3).ext_get tx)) (x := e.num) rfl ?_
     exact ⟨S.Af λ b18 wx S ex => Ar (hE S.upd) (S.keeps 1 rfl (⟨S.Af λ b19 wx S ex => Ar (hE S.upd) (S.keeps 2 rfl (Ea (byB.ext S.upd) (by omega) (by rw [hp.tag]; omega) (by omega) λ wx ex => (λ S => S.Ad 1 rfl rfl rfl rfl λ wx S ux => S.Ad 0 rfl rfl rfl rfl λ wx S ux => ⟨b18, rfl, S.at_ 1 rfl, S.upd⟩) (S.ext ex))), Ea (byB.ext S.upd) (by omega) (by rw [hp.tag]; omega) (by omega) λ wx ex => (λ S => ⟨S.Af λ b22 wx S ex => Ar (hE S.upd) (S.keeps 2 rfl (S.Ad 1 rfl rfl rfl rfl λ wx S ux => S.Ad 0 rfl rfl rfl rfl λ wx S ux => ⟨b18, rfl, S.at_ 1 rfl, S.upd⟩)), trivial⟩) (S.ext ex)⟩)), ⟨S.Af λ b23 wx S ex => Ar (hE S.upd) (S.keeps 1 rfl (⟨S.Af λ b24 wx S ex => Ar (hE S.upd) (S.keeps 2 rfl (Ea (byB.ext S.upd) (by omega) (by rw [hp.tag]; omega) (by omega) λ wx ex => (λ S => S.Ad 0 rfl rfl rfl rfl λ wx S ux => S.Ad 1 rfl rfl rfl rfl λ wx S ux => ⟨b24, rfl, S.at_ 0 rfl, S.upd⟩) (S.ext ex))), Ea (byB.ext S.upd) (by omega) (by rw [hp.tag]; omega) (by omega) λ wx ex => (λ S => ⟨S.Af λ b27 wx S ex => Ar (hE S.upd) (S.keeps 2 rfl (S.Ad 0 rfl rfl rfl rfl λ wx S ux => S.Ad 1 rfl rfl rfl rfl λ wx S ux => ⟨b27, rfl, S.at_ 0 rfl, S.upd⟩)), trivial⟩) (S.ext ex)⟩)), Ea (byB.ext S.upd) (by omega) (by rw [hp.tag]; omega) (by omega) λ wx ex => (λ S => ⟨S.Af λ b29 wx S ex => Ar (hE S.upd) (S.keeps 1 rfl (⟨S.Af λ b30 wx S ex => Ar (hE S.upd) (S.keeps 2 rfl (S.Ad 1 rfl rfl rfl rfl λ wx S ux => S.Ad 0 rfl rfl rfl rfl λ wx S ux => ⟨b29, rfl, S.at_ 1 rfl, S.upd⟩)), trivial⟩)), ⟨S.Af λ b31 wx S ex => Ar (hE S.upd) (S.keeps 1 rfl (⟨S.Af λ b32 wx S ex => Ar (hE S.upd) (S.keeps 2 rfl (S.Ad 0 rfl rfl rfl rfl λ wx S ux => S.Ad 1 rfl rfl rfl rfl λ wx S ux => ⟨b32, rfl, S.at_ 0 rfl, S.upd⟩)), trivial⟩)), trivial⟩⟩) (S.ext ex)⟩⟩
    ·rintro ⟨_, _⟩ w9 ⟨b, rfl, hb, e9⟩
     dsimp only
     refine Tt hb (x := pcT (Pm e x y.2 n)) (λ j v hv => by rw [Nat.zero_add, List.getElem?_toArray]; exact hv) (Bo λ b32 w10 e10 n10 _ _ => ?_)
     have hbox : SlX w10 ⟨some (at0 b32), 1, 1⟩ 7 (flat Ag [pcT (Pm e x y.2 n)]) := (Aq.Hr n10 (n := 1) (sz := 7) rfl).x
     have x10 := (e3.trans e9).trans e10
     refine Du Pn Pn.ts_ (s := ⟨none, 0, 0⟩) (x := ⟨some (at0 b32), 1, 1⟩) (Ah.nil w10 w2.heap.size _ _) hbox (Ab3 _) (by dsimp only; omega) (by have := x10.size; omega) λ ps' W4 o4 l4 u4 k4 => ?_
     refine ⟨[Pm e x y.2 n], [(y.1, y.2.take (cutAt e y.2 n))], o4, ⟨Bu5 hp hn0 hn.1, trivial⟩, ?_, ?_, ?_, Nat.le_refl _, x10.step u4 λ k hk => ?_⟩
     ·show ats e (y.2.take (cutAt e y.2 n)) ++ [] = _
      rw [List.append_nil]; unfold cutAt
      rw [(Rj e n y.2).1]
     ·intro z hz k hk
      rw [List.mem_singleton.1 hz] at hk
      exact pO x (List.mem_of_getElem? hx) k (Vb hk)
     ·intro z hz k hk hk'
      rw [List.mem_singleton.1 hz] at hk ⊢
      have hcl := Uc e y.2 n
      have hlen := hp.by_.len
      exact Nat.le_trans (Ak3 hp.by_ (l := 0) (h := (cutAt e y.2 n : Int)) (by omega) (by omega) (by omega)) (tops x (List.mem_of_getElem? hx) k (Vb hk) hk')
     ·obtain ⟨q, hq, _⟩ := hk; cases hq
   ·simp only [decide_eq_false_iff_not] at hn0
    obtain rfl : n = 0 := by omega
    exact ⟨[], [], Ah.nil _ _ _ _, trivial, rfl, (λ x hx => by cases hx), (λ x hx => by cases hx), Nat.zero_le _, e3.trans S5.upd⟩
 rintro ⟨psL, _⟩ w3 ⟨plL, ML, rowL, itsL, hML, oL, topL, lenL, e3⟩
 dsimp only at rowL ⊢
 have x3 := x2.trans e3
 have tk1 := Bu6 hs1
 rw [← hML] at tk1
 have tk2 := Bi8 hs2
 refine Ay2 (hs.ext x3) (λ k hk => ⟨λ hc => hsep k hk (hc ▸ h.op), λ hc => hsep k hk (aO k hc)⟩) hfit (x3.ext_get tx) (own.ext x3) (by omega) hput λ psF a plF MF w4 tx4 own4 rowF itsF hMF topF blkF blkA old4 u4 cntF => ?_
 have nt4 : ∀ t, t ≠ 107 -> t ≠ 5 -> Eh w3 (λ k => k = p \/ a0.blk k) t := by
  rintro t h1 h2 k (rfl | hk) c fr hc
  ·rw [x3.ext_get tx] at hc; cases hc; exact h1 rfl
  ·obtain ⟨c', fr', hc'⟩ := (own.ext x3).in.Ec hk
   rw [hc] at hc'; cases hc'; exact h2 rfl
 have rowL4 := rowL.ty u4 (nt4 _ (by decide) (by decide))
 have ht4 : tr.In w4 := (ht.ext x3).ty u4 (nt4 _ (by decide) (by decide))
 have o4 : Old w w4 a0 a := λ y b hy htp => old4 y b (hy.ext x3) htp
 have lL := Ah.Jq (cs := Ag) rowL (by decide)
 have lF := Ah.Jq (cs := Ag) rowF (by decide)
 rw [List.length_map] at lL lF
 have z2 := e3.size
 have z4 := u4.size
 refine Du Pn Pn.ts_ rowL4 rowF.in.x (Bw6 _) (by
  show (psL.len + psF.len + (psL.len + psF.len) / 4 + 512) * 64 <= 2 ^ 48
  omega) (by omega) λ psA w5 rowA lA u5 kA => ?_
 rw [← Gq, ← List.map_append] at rowA
 have nt5 : ∀ t, t ≠ 112 -> Eh w4 psL.blk t := λ t ht => Eh.blk rowL4.in (λ h => ht h.symm)
 have tx5 : w5.heap[p]? = some (txO e lim tr.ptr a) := u5.get tx4 λ hk => nt5 107 (by decide) _ hk _ _ tx4
 have own5 := own4.ty u5 (nt5 _ (by decide))
 have itsF5 := itsF.ty u5 (nt5 _ (by decide))
 have ht5 : tr.In w5 := ht4.ty u5 (nt5 _ (by decide))
 have o5 := o4.ty u5 (nt5 _ (by decide))
 have z5 := u5.size
 refine Ae (λ x W => ∃ plR MR, Ah W w2.heap.size x.1 112 7 (flat Ag ((plL ++ plF ++ plR).map pcT)) /\ Its w e plR MR /\ aOf e MR = tlA e M j m /\ (∀ x ∈ plR, ∀ k, x.bytes.blk k -> O k) /\ (∀ x ∈ plR, ∀ k, x.bytes.blk k -> a0.blk k -> top x.bytes <= top a0) /\ Upd psA.blk w5 W) ?_ ?_
 ·refine Ai8 tx5 (U1 ht5 hf (by omega) λ w6 e6 => ?_)
  refine (St.start w6).Af λ b41 w7 S7 e7 => S7.Ad 0 rfl rfl rfl rfl λ w8 S8 u8 => ?_
  cases hx : tr.items[j]? with
  | none =>
   have hM : M[j]? = none := List.getElem?_eq_none (by have := List.getElem?_eq_none_iff.1 hx; omega)
   have e0 : atI tr.items j = (Pc.zero, false) := by unfold atI; rw [hx]
   rw [e0, Bl2 hM]
   refine Au ⟨[], [], ?_, trivial, rfl, (λ x hx => by cases hx), (λ x hx => by cases hx), Upd.Hq (e6.trans S8.upd)⟩
   rw [List.append_nil]
   exact rowA.ext (e6.trans S8.upd)
  | some x =>
   have e0 : atI tr.items j = (x, true) := by unfold atI; rw [hx]
   rw [e0] at S8 ⊢
   obtain ⟨y, hy, hp, hyl⟩ := pcs hx
   have hn := spn hto hs2 hy
   rw [Am0 hy]
   refine Cm ?_
   have hlo := hp.lo; have hhi := hp.hi
   have tx6 := e6.ext_get tx5
   have hE : ∀ {V : World}, Ext w6 V -> V.cell? (at0 p) = some (.int .i64 e.num) := λ x => cell_of (x.ext_get tx6) rfl
   have byB : By w6 x.bytes y.2 := ((o5 x.bytes y.2 hp.by_ (tops x (List.mem_of_getElem? hx))).1).ext e6
   have S := S8
   refine Ae (λ s W => ∃ b, s.1 = at0 b /\ W.heap[b]? = some (.cells (Cells.vals Ag (pcT (Nw e x y.2 m))).toArray 112 (0, 0)) /\ Ext w6 W) ?_ ?_
   ·refine S.drew λ w9 S e9 _ => S.lds 0 (pcT x) rfl ?_
    simp only [Pg]
    refine Dt (S.upd.ext_get tx6) (x := e.num) rfl ?_
    exact ⟨S.Af λ b18 wx S ex => Ar (hE S.upd) (S.keeps 1 rfl (⟨S.Af λ b19 wx S ex => Ar (hE S.upd) (S.keeps 2 rfl (Ea (byB.ext S.upd) (by omega) (by rw [hp.tag]; omega) (by omega) λ wx ex => (λ S => S.Ad 1 rfl rfl rfl rfl λ wx S ux => S.Ad 0 rfl rfl rfl rfl λ wx S ux => ⟨b19, rfl, S.at_ 0 rfl, S.upd⟩) (S.ext ex))), Ea (byB.ext S.upd) (by omega) (by rw [hp.tag]; omega) (by omega) λ wx ex => (λ S => ⟨S.Af λ b22 wx S ex => Ar (hE S.upd) (S.keeps 2 rfl (S.Ad 1 rfl rfl rfl rfl λ wx S ux => S.Ad 0 rfl rfl rfl rfl λ wx S ux => ⟨b22, rfl, S.at_ 0 rfl, S.upd⟩)), trivial⟩) (S.ext ex)⟩)), ⟨S.Af λ b23 wx S ex => Ar (hE S.upd) (S.keeps 1 rfl (⟨S.Af λ b24 wx S ex => Ar (hE S.upd) (S.keeps 2 rfl (Ea (byB.ext S.upd) (by omega) (by rw [hp.tag]; omega) (by omega) λ wx ex => (λ S => S.Ad 0 rfl rfl rfl rfl λ wx S ux => S.Ad 1 rfl rfl rfl rfl λ wx S ux => ⟨b23, rfl, S.at_ 1 rfl, S.upd⟩) (S.ext ex))), Ea (byB.ext S.upd) (by omega) (by rw [hp.tag]; omega) (by omega) λ wx ex => (λ S => ⟨S.Af λ b27 wx S ex => Ar (hE S.upd) (S.keeps 2 rfl (S.Ad 0 rfl rfl rfl rfl λ wx S ux => S.Ad 1 rfl rfl rfl rfl λ wx S ux => ⟨b23, rfl, S.at_ 1 rfl, S.upd⟩)), trivial⟩) (S.ext ex)⟩)), Ea (byB.ext S.upd) (by omega) (by rw [hp.tag]; omega) (by omega) λ wx ex => (λ S => ⟨S.Af λ b29 wx S ex => Ar (hE S.upd) (S.keeps 1 rfl (⟨S.Af λ b30 wx S ex => Ar (hE S.upd) (S.keeps 2 rfl (S.Ad 1 rfl rfl rfl rfl λ wx S ux => S.Ad 0 rfl rfl rfl rfl λ wx S ux => ⟨b30, rfl, S.at_ 0 rfl, S.upd⟩)), trivial⟩)), ⟨S.Af λ b31 wx S ex => Ar (hE S.upd) (S.keeps 1 rfl (⟨S.Af λ b32 wx S ex => Ar (hE S.upd) (S.keeps 2 rfl (S.Ad 0 rfl rfl rfl rfl λ wx S ux => S.Ad 1 rfl rfl rfl rfl λ wx S ux => ⟨b31, rfl, S.at_ 1 rfl, S.upd⟩)), trivial⟩)), trivial⟩⟩) (S.ext ex)⟩⟩
   ·rintro ⟨_, _⟩ w9 ⟨b, rfl, hb, e9⟩
    dsimp only
    simp only [addr_add]
    have hat : (Nw e x y.2 m).sm.atoms = (ats e y.2).length - m := by
     show (msr (ats e (y.2.drop (cutAt e y.2 m)))).atoms = _
     rw [Kq (Es e _)]
     unfold cutAt
     rw [(Rj e m y.2).2, List.length_drop]
    refine Dt hb (x := (((Nw e x y.2 m).sm.atoms : Nat) : Int)) rfl (Aa (λ h0 => ?_) (λ h0 => ?_))
    ·simp only [decide_eq_true_eq, gt_iff_lt] at h0
     refine Tt hb (x := pcT (Nw e x y.2 m)) (λ j v hv => by rw [Nat.zero_add, List.getElem?_toArray]; exact hv) (Bo λ b32 w10 e10 n10 _ _ => ?_)
     have hbox : SlX w10 ⟨some (at0 b32), 1, 1⟩ 7 (flat Ag [pcT (Nw e x y.2 m)]) := (Aq.Hr n10 (n := 1) (sz := 7) rfl).x
     have x10 := (e6.trans e9).trans e10
     refine Du Pn Pn.ts_ (x := ⟨some (at0 b32), 1, 1⟩) (rowA.ext x10) hbox (Ab3 _) (by
      show (psA.len + 1 + (psA.len + 1) / 4 + 512) * 64 <= 2 ^ 48
      omega) (by have := x10.size; omega) λ ps' W4 o4' l4 u4' k4 => ?_
     have ef : flat Ag ((plL ++ plF).map pcT) ++ flat Ag [pcT (Nw e x y.2 m)] = flat Ag ((plL ++ plF ++ [Nw e x y.2 m]).map pcT) := by rw [List.map_append (l₁ := plL ++ plF), Gq]; rfl
     rw [ef] at o4'
     refine ⟨[Nw e x y.2 m], [(Dq y.1 (cutAt e y.2 m), y.2.drop (cutAt e y.2 m))], o4', ⟨Bt2 hp (by omega), trivial⟩, ?_, ?_, ?_, (Upd.Hq x10).trans u4'⟩
     ·show ats e (y.2.drop (cutAt e y.2 m)) ++ [] = _
      rw [List.append_nil]; unfold cutAt
      rw [(Rj e m y.2).2]
     ·intro z hz k hk
      rw [List.mem_singleton.1 hz] at hk
      exact pO x (List.mem_of_getElem? hx) k (Vb hk)
     ·intro z hz k hk hk'
      rw [List.mem_singleton.1 hz] at hk ⊢
      have hcl := Uc e y.2 m
      have hlen := hp.by_.len
      exact Nat.le_trans (Ak3 hp.by_ (l := (cutAt e y.2 m : Int)) (h := (x.bytes.len : Int)) (by omega) (by omega) (by omega)) (tops x (List.mem_of_getElem? hx) k (Vb hk) hk')
    ·simp only [decide_eq_false_iff_not, gt_iff_lt] at h0
     refine ⟨[], [], ?_, trivial, ?_, (λ x hx => by cases hx), (λ x hx => by cases hx), Upd.Hq (e6.trans e9)⟩
     ·rw [List.append_nil]; exact rowA.ext (e6.trans e9)
     ·show [] = (ats e y.2).drop m
      rw [List.drop_eq_nil_of_le (by omega)]
 rintro ⟨psR, _⟩ w6 ⟨plR, MR, rowR, itsR, hMR, oR, topR, u6⟩
 dsimp only at rowR ⊢
 rw [← hMR] at tk2
 have nt6 : ∀ t, t ≠ 112 -> Eh w5 psA.blk t := λ t ht => Eh.blk rowA.in (λ h => ht h.symm)
 have tx6 : w6.heap[p]? = some (txO e lim tr.ptr a) := u6.get tx5 λ hk => nt6 107 (by decide) _ hk _ _ tx5
 have own6 := own5.ty u6 (nt6 _ (by decide))
 have itsF6 := itsF5.ty u6 (nt6 _ (by decide))
 have ht6 : tr.In w6 := ht5.ty u6 (nt6 _ (by decide))
 have o6 := o5.ty u6 (nt6 _ (by decide))
 refine Fg λ w7 e7 _ => Ai8 (e7.ext_get tx6) (Ai8 (e7.ext_get tx6) (Wj (ht6.ext e7) λ w8 e8 => ?_))
 have x8 := e7.trans e8
 have tx8 := x8.ext_get tx6
 refine Ar ?_ ?_
 ·rw [addr_add]
  refine Fa _ 0 λ q v hv => cell_of tx8 ?_
  match q, hv with
  | 0, hv => exact hv
  | q + 1, hv => cases hv
 have emin : (if ((tr.items.length : Nat) : Int) < W64 ((j : Int) + 1) then ((tr.items.length : Nat) : Int) else W64 ((j : Int) + 1)) = ((min (j + 1) tr.items.length : Nat) : Int) := by
  rw [wrap64 (by omega) (by omega)]
  split <;> omega
 rw [emin]
 have old_its : ∀ {l : List Pc} {N : Parts}, Its w e l N -> (∀ x ∈ l, ∀ k, x.bytes.blk k -> a0.blk k -> top x.bytes <= top a0) -> Its w6 e l N := λ hl htp => hl.to λ x hx b hb => (o6 x.bytes b hb (htp x hx)).1
 have its_all : Its w6 e (tr.items.take i ++ (plL ++ plF ++ plR) ++ tr.items.drop (min (j + 1) tr.items.length)) (M.take i ++ (ML ++ MF ++ MR) ++ M.drop (min (j + 1) tr.items.length)) :=
  Its.app (Its.app (old_its (hi.take i) λ x hx => tops x (List.mem_of_mem_take hx)) (Its.app (Its.app (old_its itsL topL) itsF6) (old_its itsR topR))) (old_its (hi.drop _) λ x hx => tops x (List.mem_of_mem_drop hx))
 have ed : M.drop (min (j + 1) tr.items.length) = M.drop (j + 1) := by
  by_cases hc : j + 1 <= tr.items.length
  ·rw [Nat.min_eq_left hc]
  ·rw [List.drop_eq_nil_of_le (by omega), List.drop_eq_nil_of_le (by omega)]
 have ea : aOf e (M.take i ++ (ML ++ MF ++ MR) ++ M.drop (min (j + 1) tr.items.length)) = (aOf e M).take from_ ++ prs e put ++ (aOf e M).drop to_ := by
  rw [ed, Fe, Fe, Fe, Fe, tk1, tk2, hMF]
  simp only [List.append_assoc]
 have hsA : szs (aOf e (M.take i ++ (ML ++ MF ++ MR) ++ M.drop (min (j + 1) tr.items.length))) < 2 ^ 59 := by rw [ea]; omega
 have hFine := its_all.fine hsA
 have hjl : min (j + 1) tr.items.length <= tr.items.length := Nat.min_le_right _ _
 have hi_le : i <= min (j + 1) tr.items.length := by
  rcases hs1 with ⟨_, rfl, _⟩ | ⟨x, hx, _⟩
  ·exact Nat.zero_le _
  ·have := (List.getElem?_eq_some_iff.1 hx).1; omega
 refine Ai7 (t := tr) (n := i) (m := min (j + 1) tr.items.length) (l := plL ++ plF ++ plR) (ht6.ext x8) (rowR.in.ext x8) hf hFine.left.right hi_le hjl hFine λ t' w9 ht' hti e9 => ?_
 have x9 := x8.trans e9
 have tx9 := x9.ext_get tx6
 simp only [Pg, addr_add]
 refine Yt tx9 rfl rfl (by show 0 + 2 + 1 <= 4; decide) λ w10 u10 n10 _ => ?_
 have n10 : w10.heap[p]? = some (txO e lim t'.ptr a) := n10
 have nt10 : ∀ t, t ≠ 107 -> Eh w9 (λ k => k = p) t := λ t ht => Eh.box tx9 (λ h => ht h.symm)
 have ht10 : t'.In w10 := ht'.ty u10 (nt10 _ (by decide))
 have o10 : Old w w10 a0 a := (o6.ty x9 (Y4 _ _)).ty u10 (nt10 _ (by decide))
 have uA : Upd (Wr w O) w w10 := by
  have hp' : Wr w O p := ⟨h.op, Eh.box tx (by decide) p rfl⟩
  have v3 : Upd (Wr w O) w w3 := Upd.Hq x3
  have v4 : Upd (Wr w O) w w4 := v3.trans (u4.mono λ k _ hk => hk.elim (λ h => h ▸ hp') λ h => ⟨aO k h, Eh.blk own.in (by decide) k h⟩)
  have v5 : Upd (Wr w O) w w5 := v4.new u5 λ k hk hS => by have := rowL4.Di hS; have := x2.size; omega
  have v6 : Upd (Wr w O) w w6 := v5.new u6 λ k hk hS => by have := rowA.Di hS; have := x2.size; omega
  exact (v6.trans (Upd.Hq x9)).trans (u10.mono λ k _ hk => hk ▸ hp')
 have hsz10 := uA.size
 have own10 := (own6.ext x9).ty u10 (nt10 _ (by decide))
 have hlA : (ab ++ bts e put).length = a.len := by have := own10.len1; rwa [List.length_map] at this
 rw [List.length_append] at hlA
 refine hK (λ k => O k \/ (w.heap.size <= k /\ k < w10.heap.size)) (M.take i ++ (ML ++ MF ++ MR) ++ M.drop (min (j + 1) tr.items.length)) w10 ⟨⟨t', a, ab ++ bts e put, n10, ht10, ?_, own10, ?_, ?_, ?_, by omega⟩, lims, by rw [ea]; exact hroom, .inl h.op, ?_⟩ ea uA (λ k hk => .inl hk) (λ k hk => hk.imp id λ h => h.1)
 ·rw [hti]
  exact (its_all.ext x9).ty u10 (nt10 _ (by decide))
 ·rw [hti]
  have oldT : ∀ x : Pc, (∃ b, By w x.bytes b) -> (∀ k, x.bytes.blk k -> a0.blk k -> top x.bytes <= top a0) -> ∀ k, x.bytes.blk k -> a.blk k -> top x.bytes <= top a := λ x ⟨b, hb⟩ htp => (o10 x.bytes b hb htp).2
  intro x hx
  rcases List.mem_append.1 hx with hx | hx
  ·rcases List.mem_append.1 hx with hx | hx
   ·exact oldT x (hi.by_ x (List.mem_of_mem_take hx)) (tops x (List.mem_of_mem_take hx))
   ·rcases List.mem_append.1 hx with hx | hx
    ·rcases List.mem_append.1 hx with hx | hx
     ·exact oldT x (itsL.by_ x hx) (topL x hx)
     ·exact topF x hx
    ·exact oldT x (itsR.by_ x hx) (topR x hx)
  ·exact oldT x (hi.by_ x (List.mem_of_mem_drop hx)) (tops x (List.mem_of_mem_drop hx))
 ·rw [hti]
  intro x hx k hk
  have new : w3.heap.size <= k -> (∃ b, By w10 x.bytes b) -> O k \/ (w.heap.size <= k /\ k < w10.heap.size) := λ h1 ⟨b, hb⟩ => .inr ⟨by have := x3.size; omega, hb.Og hk⟩
  rcases List.mem_append.1 hx with hx | hx
  ·rcases List.mem_append.1 hx with hx | hx
   ·exact .inl (pO x (List.mem_of_mem_take hx) k hk)
   ·rcases List.mem_append.1 hx with hx | hx
    ·rcases List.mem_append.1 hx with hx | hx
     ·exact .inl (oL x hx k hk)
     ·rcases blkF x hx k hk with h1 | h1
      ·exact .inl (aO k h1)
      ·exact new h1 (((itsF6.ext x9).ty u10 (nt10 _ (by decide))).by_ x hx)
    ·exact .inl (oR x hx k hk)
  ·exact .inl (pO x (List.mem_of_mem_drop hx) k hk)
 ·intro k hk
  rcases blkA k hk with h1 | h1
  ·exact .inl (aO k h1)
  ·exact .inr ⟨by have := x3.size; omega, own10.in.Og hk⟩
 ·intro k hk
  rcases hk with hk | hk
  ·have := h.own k hk; omega
  ·exact hk.2
end
section
variable {w w' W W' : World} {S : Nat -> Prop} {p : Nat} {e : Enc} {lim na : Nat} {O : Nat -> Prop} {M : Parts} {tp : Option Addr} {a0 a : Sl}
abbrev edT (f t : Nat) (s : Sl) : Cells.T c83 := ((f : Int), (t : Int), s, ())
theorem Txt.Cg4 (h : Txt w p e lim na O M) : w.cell? ⟨p, 1, none⟩ = some (.int .i64 (lim : Int)) := by
 obtain ⟨t, a, ab, h1, _⟩ := h.ex
 exact cell_of h1 rfl
theorem Ah3 (e : Enc) (l : List Int) {i : Nat} {v : Int} (hv : l[i]? = some v) : szs (prs e (l.take (i + 1))) = szs (prs e (l.take i)) + sz e v := by
 rw [List.take_add_one, hv]
 simp [prs, Ba, Ii, O7]
theorem Au3 (e : Enc) (l : List Int) (i : Nat) : szs (prs e (l.take i)) <= szs (prs e l) := by
 have : prs e l = prs e (l.take i) ++ prs e (l.drop i) := by unfold prs; rw [← List.map_append, List.take_append_drop]
 rw [this, Ba]; omega
theorem An1 {f t : Nat} {s sp : Sl} {ty ty' : TypeId} {put : List Int} (h : Txt w p e lim na O M) (hft : f <= t) (hto : t <= (aOf e M).length) (hs : Aq w s ty 3 (flat c83 [edT f t sp])) (hp : Aq w sp ty' 1 (iv put)) (hfit : Fits e put) (hput : put.length < 2 ^ 40) (hb : (bts e put).length < 2 ^ 40)
  (hroom : szs ((aOf e M).take f ++ prs e put ++ (aOf e M).drop t) <= lim) {K : Int -> Wp} (hK : ∀ w', Ext w w' -> K 0 w') :
  Ac Tryz.prog 77 #[.pointer (some (at0 p)), s.v] rI K w := by
 refine A77 ?_
 unfold F77
 have few := h.few; have lims := h.lims; have hsz := h.sz
 have hl1 : 1 = s.len := by have := Aq.Jq (cs := c83) (xs := [edT f t sp]) hs (by decide); simpa using this
 have hpl : put.length = sp.len := by have := hp.len1; rwa [List.length_map] at this
 have ht13 : szs (aOf e M) = szs ((aOf e M).take t) + szs ((aOf e M).drop t) := by conv => lhs; rw [← List.take_append_drop t (aOf e M)]; rw [Ba]
 have htf : szs ((aOf e M).take f) <= szs ((aOf e M).take t) := by
  have h2 : (aOf e M).take t = (aOf e M).take f ++ ((aOf e M).take t).drop f := by
   conv => lhs; rw [← List.take_append_drop f ((aOf e M).take t)]
   rw [List.take_take, Nat.min_eq_left hft]
  rw [h2, Ba]; omega
 rw [Ba, Ba] at hroom
 have hbl := Ak8 hfit
 refine Aa (λ hc => ?_) (λ _ => ?_)
 ·simp only [decide_eq_true_eq, gt_iff_lt] at hc; omega
 have rdE : ∀ {V : World} {K : Addr -> Cells.T c83 -> Wp}, Ext w V -> (∀ q, K q (edT f t sp) V) -> ix s.a s.len ((0 : Nat) : Int) (λ q => lds c83 (q.add (scaled (Int.toNat ((0 : Nat) : Int)) 3)) (K q)) V := λ x hk => Zk (cs := c83) (xs := [edT f t sp]) (hs.ext x) (by decide) (by decide) rfl hk
 have ew1 : W64 (((0 : Nat) : Int) + 1) = ((1 : Nat) : Int) := by decide
 refine Hu h λ w1 e1 => ?_
 refine Ae (λ _ W => Ext w W) ?_ ?_
 ·refine Am (λ x W => ((x = (0, ((0 : Nat) : Int), ())) \/ x.2.1 = ((1 : Nat) : Int)) /\ Ext w W) (λ x _ => (1 - x.2.1).toNat) ⟨.inl rfl, e1⟩ ?_
  rintro x W ⟨rfl | hx, eW⟩
  ·refine Aa (λ _ => ?_) (λ hc => ?_)
   ·refine rdE eW λ q => (St.start W).Af λ b8 w2 S2 e2 => S2.Ad 0 rfl rfl rfl rfl λ w3 S3 u3 => ?_
    refine Ae (λ x W' => x = (false, ()) /\ w3 = W') ?_ ?_
    ·refine S3.ld 0 rfl (x := (f : Int)) rfl (Aa (λ hc => ?_) (λ _ => S3.ld 0 rfl (x := (t : Int)) rfl (S3.ld 0 rfl (x := (f : Int)) rfl (Aa (λ hc => ?_) (λ _ => S3.ld 0 rfl (x := (t : Int)) rfl ⟨Aj ?_, rfl⟩)))))
     ·simp only [decide_eq_true_eq] at hc; omega
     ·simp only [decide_eq_true_eq] at hc; omega
     ·simp only [decide_eq_true_eq, gt_iff_lt, Bool.false_eq_true, iff_false]; omega
    rintro _ _ ⟨rfl, rfl⟩
    refine Au (S3.ld 0 rfl (x := (t : Int)) rfl ⟨⟨.inr ?_, eW.trans S3.upd⟩, ?_⟩)
    ·exact ew1
    ·show (1 - W64 (((0 : Nat) : Int) + 1)).toNat < (1 - ((0 : Nat) : Int)).toNat
     rw [ew1]; decide
   ·exact eW
  ·refine Aa (λ hc => ?_) (λ _ => eW)
   simp only [decide_eq_true_eq] at hc; omega
 rintro _ w2 e2
 refine Au7 (h.ext e2) λ w3 e3 => ?_
 have x3 := e2.trans e3
 obtain ⟨B0, hB0⟩ : ∃ B0, B0 = szs (aOf e M) := ⟨_, rfl⟩
 rw [← hB0]
 refine Ae (λ x W => x = (((B0 + (bts e put).length : Nat) : Int), ()) /\ Ext w W) ?_ ?_
 ·refine Am (λ x W => ((x = ((B0 : Int), ((0 : Nat) : Int), ())) \/ x = (((B0 + (bts e put).length : Nat) : Int), ((1 : Nat) : Int), ())) /\ Ext w W) (λ x _ => (1 - x.2.1).toNat) ⟨.inl rfl, x3⟩ ?_
  rintro _ W ⟨rfl | rfl, eW⟩
  ·refine Aa (λ _ => ?_) (λ hc => ?_)
   ·refine Ae (λ x W => x = (((B0 + (bts e put).length : Nat) : Int), ()) /\ Ext w W) ?_ ?_
    ·refine rdE eW λ q => (St.start W).Af λ b8 w4 S4 e4 => S4.Ad 0 rfl rfl rfl rfl λ w5 S5 u5 => S5.ld 0 rfl (x := sp) rfl ?_
     refine Am (λ x V => (∃ i : Nat, i <= put.length /\ x = (((B0 + szs (prs e (put.take i)) : Nat) : Int), (i : Int), ())) /\ Ext w V) (λ x _ => ((put.length : Int) - x.2.1).toNat) ⟨⟨0, Nat.zero_le _, by simp [prs, O7]⟩, eW.trans S5.upd⟩ ?_
     rintro _ V ⟨⟨i, hi, rfl⟩, eV⟩
     refine Aa (λ hc => ?_) (λ hc => ?_)
     ·simp only [decide_eq_true_eq] at hc
      obtain ⟨v, hv⟩ : ∃ v, put[i]? = some v := ⟨_, List.getElem?_eq_getElem (by omega)⟩
      have hf := hfit v (List.mem_of_getElem? hv)
      dsimp only
      refine Iu (c := .int .i64) (xs := put) (hp.ext eV) (by omega) (x := v) (by rw [Int.toNat_natCast]; exact hv) λ q2 => (h.ext eV).enc (Bf4 λ w6 e6 => ?_)
      refine Aa (λ hc => ?_) (λ _ => ?_)
      ·simp only [beq_iff_eq] at hc; exact absurd (show sz e v = 0 by omega) hf
      have hstep := Ah3 e put hv
      have hle := Au3 e put (i + 1)
      have ewi : W64 ((i : Int) + 1) = ((i + 1 : Nat) : Int) := by rw [wrap64 (by omega) (by omega)]; omega
      have ewb : W64 (((B0 + szs (prs e (put.take i)) : Nat) : Int) + ((sz e v : Nat) : Int)) = ((B0 + szs (prs e (put.take (i + 1))) : Nat) : Int) := by rw [wrap64 (by omega) (by omega)]; omega
      rw [ewi, ewb]
      exact ⟨⟨⟨i + 1, by omega, rfl⟩, eV.trans e6⟩, by omega⟩
     ·simp only [decide_eq_false_iff_not] at hc
      have : i = put.length := by omega
      subst this
      rw [List.take_length, ← hbl]
      exact ⟨rfl, eV⟩
    rintro _ V ⟨rfl, eV⟩
    refine ⟨⟨.inr ?_, eV⟩, ?_⟩
    ·rw [ew1]
    ·show (1 - W64 (((0 : Nat) : Int) + 1)).toNat < (1 - ((0 : Nat) : Int)).toNat
     rw [ew1]; decide
   ·simp only [decide_eq_false_iff_not] at hc; omega
  ·refine Aa (λ hc => ?_) (λ _ => ⟨rfl, eW⟩)
   simp only [decide_eq_true_eq] at hc; omega
 rintro _ w4 ⟨rfl, e4⟩
 obtain ⟨T, hT⟩ : ∃ T, T = szs ((aOf e M).take f) + (bts e put).length + szs ((aOf e M).drop t) := ⟨_, rfl⟩
 refine Ae (λ x W => x = ((T : Int), ()) /\ Ext w W) ?_ ?_
 ·refine Am (λ x W => ((x = (((B0 + (bts e put).length : Nat) : Int), ((0 : Nat) : Int), ())) \/ x = ((T : Int), ((1 : Nat) : Int), ())) /\ Ext w W) (λ x _ => (1 - x.2.1).toNat) ⟨.inl rfl, e4⟩ ?_
  rintro _ W ⟨rfl | rfl, eW⟩
  ·refine Aa (λ _ => ?_) (λ hc => ?_)
   ·refine Ae (λ x W => x = ((T : Int), ()) /\ Ext w W) ?_ ?_
    ·refine rdE eW λ q => (St.start W).Af λ b8 w5 S5 e5 => S5.Ad 0 rfl rfl rfl rfl λ w6 S6 u6 => S6.ld 0 rfl (x := (t : Int)) rfl (S6.ld 0 rfl (x := (f : Int)) rfl ?_)
     refine Aa (λ hc => ?_) (λ hc => ?_)
     ·refine S6.drew λ w7 S7 e7 _ => S7.ld 0 rfl (x := (t : Int)) rfl (S7.ld 0 rfl (x := (f : Int)) rfl ?_)
      refine Xh (h.ext (eW.trans S7.upd)) hto λ w8 e8 => ?_
      have S8 := S7.ext e8
      refine S8.keep 0 rfl (v := .int .i64 (f : Int)) rfl (Xh (h.ext (eW.trans S8.upd)) (by omega) λ w9 e9 => ?_)
      have q1 : (smT (msr ((aOf e M).take t))).2.1 = ((szs ((aOf e M).take t) : Nat) : Int) := by show (((msr _).bytes : Nat) : Int) = _; rw [Ic ((Fz e M).take t)]
      have q2 : (smT (msr ((aOf e M).take f))).2.1 = ((szs ((aOf e M).take f) : Nat) : Int) := by show (((msr _).bytes : Nat) : Int) = _; rw [Ic ((Fz e M).take f)]
      rw [q1, q2]
      refine ⟨?_, eW.trans (S8.ext e9).upd⟩
      dsimp only
      rw [wrap64 (a := ((szs ((aOf e M).take t) : Nat) : Int) - ((szs ((aOf e M).take f) : Nat) : Int)) (by omega) (by omega), wrap64 (by omega) (by omega)]
      congr 1; omega
     ·simp only [decide_eq_false_iff_not, gt_iff_lt] at hc
      have : f = t := by omega
      subst this
      refine ⟨?_, eW.trans S6.upd⟩
      dsimp only
      congr 1; omega
    rintro _ V ⟨rfl, eV⟩
    refine ⟨⟨.inr ?_, eV⟩, ?_⟩
    ·rw [ew1]
    ·show (1 - W64 (((0 : Nat) : Int) + 1)).toNat < (1 - ((0 : Nat) : Int)).toNat
     rw [ew1]; decide
   ·simp only [decide_eq_false_iff_not] at hc; omega
  ·refine Aa (λ hc => ?_) (λ _ => ⟨rfl, eW⟩)
   simp only [decide_eq_true_eq] at hc; omega
 rintro _ w5 ⟨rfl, e5⟩
 simp only [Pg, addr_add]
 refine Ap2 (x := (lim : Int)) (h.ext e5).Cg4 (Aa (λ hc => ?_) (λ _ => hK w5 e5))
 simp only [decide_eq_true_eq, gt_iff_lt] at hc; omega
theorem Ar5 {f t : Nat} {s sp : Sl} {ty ty' : TypeId} {put : List Int} (h : Txt w p e lim na O M) (hft : f <= t) (hto : t <= (aOf e M).length) (hs : Aq w s ty 3 (flat c83 [edT f t sp])) (hsep : ∀ k, s.blk k -> ¬ O k) (hp : Aq w sp ty' 1 (iv put)) (hsp : ∀ k, sp.blk k -> ¬ O k) (hfit : Fits e put) (hput : put.length < 2 ^ 40) (hna : na + (bts e put).length < 2 ^ 40)
  (hroom : szs ((aOf e M).take f ++ prs e put ++ (aOf e M).drop t) <= lim) {K : Int -> Wp}
  (hK : ∀ O' M' w', Txt w' p e lim (na + (bts e put).length) O' M' -> aOf e M' = (aOf e M).take f ++ prs e put ++ (aOf e M).drop t -> Upd (Wr w O) w w' -> (∀ k, O k -> O' k) -> (∀ k, O' k -> O k \/ w.heap.size <= k) -> K 0 w') :
  Ac Tryz.prog 50 #[.pointer (some (at0 p)), s.v] rI K w := by
 refine A50 ?_
 unfold F50
 have hl1 : 1 = s.len := by have := Aq.Jq (cs := c83) (xs := [edT f t sp]) hs (by decide); simpa using this
 have hpl : put.length = sp.len := by have := hp.len1; rwa [List.length_map] at this
 refine An1 h hft hto hs hp hfit hput (by omega) hroom λ w1 e1 => Au ?_
 have ew0 : W64 (((s.len : Nat) : Int) - 1) = 0 := by rw [← hl1]; decide
 rw [ew0]
 refine Ae (λ _ W => ∃ O' M', Txt W p e lim (na + (bts e put).length) O' M' /\ aOf e M' = (aOf e M).take f ++ prs e put ++ (aOf e M).drop t /\ Upd (Wr w O) w W /\ (∀ k, O k -> O' k) /\ (∀ k, O' k -> O k \/ w.heap.size <= k)) ?_ (λ _ W ⟨O', M', g1, g2, g3, g4, g5⟩ => hK O' M' W g1 g2 g3 g4 g5)
 refine Am (λ x W => (x = (((0 : Nat) : Int), ()) /\ Ext w W) \/ (x = (-1, ()) /\ ∃ O' M', Txt W p e lim (na + (bts e put).length) O' M' /\ aOf e M' = (aOf e M).take f ++ prs e put ++ (aOf e M).drop t /\ Upd (Wr w O) w W /\ (∀ k, O k -> O' k) /\ (∀ k, O' k -> O k \/ w.heap.size <= k))) (λ x _ => (x.1 + 1).toNat) (.inl ⟨rfl, e1⟩) ?_
 rintro _ W (⟨rfl, eW⟩ | ⟨rfl, hR⟩)
 ·refine Aa (λ _ => ?_) (λ hc => ?_)
  ·refine Ae (λ _ W => ∃ O' M', Txt W p e lim (na + (bts e put).length) O' M' /\ aOf e M' = (aOf e M).take f ++ prs e put ++ (aOf e M).drop t /\ Upd (Wr w O) w W /\ (∀ k, O k -> O' k) /\ (∀ k, O' k -> O k \/ w.heap.size <= k)) ?_ ?_
   ·refine Zk (cs := c83) (xs := [edT f t sp]) (hs.ext eW) (by decide) (by decide) (x := edT f t sp) rfl λ q => (St.start W).Af λ b8 w2 S2 e2 => S2.Ad 0 rfl rfl rfl rfl λ w3 S3 u3 => ?_
    refine Ae (λ x W' => x = (decide (f < t \/ 0 < put.length), ()) /\ w3 = W') ?_ ?_
    ·refine S3.ld 0 rfl (x := (f : Int)) rfl (S3.ld 0 rfl (x := (t : Int)) rfl (Aa (λ hc => ⟨Aj ?_, rfl⟩) (λ hc => S3.ld 0 rfl (x := sp) rfl ⟨Aj ?_, rfl⟩)))
     all_goals simp only [decide_eq_true_eq, decide_eq_false_iff_not, true_iff, gt_iff_lt] at *
     all_goals omega
    rintro _ _ ⟨rfl, rfl⟩
    have x3 := eW.trans S3.upd
    refine Aa (λ hc => ?_) (λ hc => ?_)
    ·refine S3.ld 0 rfl (x := (f : Int)) rfl (S3.ld 0 rfl (x := (t : Int)) rfl (S3.ld 0 rfl (x := sp) rfl ?_))
     refine Ab5 (h.ext x3) hft hto (hp.ext x3) hsp hfit hna hput (Nat.le_trans hroom (Nat.le_trans h.lims (by decide))) λ O' M' w4 tx4 ea u4 o1 o2 => ?_
     exact ⟨O', M', tx4, ea, Upd.new (Upd.Hq x3) u4 (λ k hk hq => ⟨hq.1, λ c fr hc => hq.2 c fr (x3.ext_get hc)⟩), o1, λ k hk => (o2 k hk).imp id λ h => by have := x3.size; omega⟩
    ·simp only [decide_eq_false_iff_not, not_or] at hc
     obtain rfl : f = t := by omega
     obtain rfl : put = [] := List.length_eq_zero_iff.1 (by omega)
     exact ⟨O, M, h.ext x3, by simp [prs], Upd.Hq x3, λ k hk => hk, λ k hk => .inl hk⟩
   ·rintro _ W' hR
    exact ⟨.inr ⟨rfl, hR⟩, by show (W64 (((0 : Nat) : Int) - 1) + 1).toNat < (((0 : Nat) : Int) + 1).toNat; decide⟩
  ·simp only [decide_eq_false_iff_not] at hc; omega
 ·exact Au hR
end
end Go.Proofs.YtabcpghhfeplaaaGreat
namespace Go.Proofs.YtabcpghhfeplaaaGreat
open Go Go.Vx Cdc Trx Gly Clu Lns Obx
section
variable {w w' : World} {S : Nat -> Prop} {p : Nat} {e : Enc} {lim na : Nat} {O : Nat -> Prop} {M : Parts}
def Asc (l : List Int) : Prop := ∀ v ∈ l, 0 <= v /\ v < 128
theorem Asc.fit {l : List Int} (h : Asc l) (e : Enc) : Fit e l := by
 intro v hv
 obtain ⟨h1, h2⟩ := h v hv
 refine ⟨.inl ⟨h1, by omega⟩, ?_⟩
 cases e with
 | u8 => show sz8 v ≠ 0; unfold sz8; split <;> (try split) <;> (try split) <;> (try split) <;> (try split) <;> omega
 | le => show Oh v ≠ 0; unfold Oh; split <;> (try split) <;> (try split) <;> (try split) <;> (try split) <;> omega
 | be => show Oh v ≠ 0; unfold Oh; split <;> (try split) <;> (try split) <;> (try split) <;> (try split) <;> omega
 | l1 => show sz1 v ≠ 0; unfold sz1; split <;> (try split) <;> (try split) <;> (try split) <;> (try split) <;> omega
theorem Asc.sz {v : Int} (h : 0 <= v /\ v < 128) (e : Enc) : sz e v <= 4 := by
 cases e with
 | u8 => show sz8 v <= 4; unfold sz8; split <;> (try split) <;> (try split) <;> (try split) <;> (try split) <;> omega
 | le => show Oh v <= 4; unfold Oh; split <;> (try split) <;> (try split) <;> (try split) <;> (try split) <;> omega
 | be => show Oh v <= 4; unfold Oh; split <;> (try split) <;> (try split) <;> (try split) <;> (try split) <;> omega
 | l1 => show sz1 v <= 4; unfold sz1; split <;> (try split) <;> (try split) <;> (try split) <;> (try split) <;> omega
theorem Asc.szs {e : Enc} : ∀ {l : List Int}, Asc l -> szs (prs e l) <= 4 * l.length
 | [], _ => Nat.le_refl _
 | a :: l, h => by
  have h1 := Asc.sz (h a List.mem_cons_self) e
  have h2 := Asc.szs (e := e) (l := l) λ x hx => h x (List.mem_cons_of_mem _ hx)
  show Cdc.szs ((a, Cdc.sz e a) :: prs e l) <= _
  rw [Ii, List.length_cons]
  show Cdc.sz e a + _ <= _
  omega
theorem push {r : Sl} {l : List Int} {v : Int} {b N : Nat} {K : Sl -> Wp} (hr : Ah w N r 3 1 (iv l)) (hb : w.heap[b]? = some (.cells #[.int .i64 v] 3 (0, 0))) (hl : l.length < 2 ^ 40) (hN : N <= w.heap.size)
  (hK : ∀ r' w', Ah w' N r' 3 1 (iv (l ++ [v])) -> Upd r.blk w w' -> K r' w') :
  Df Tryz.prog (.one (.one .sl)) (Builtin.append_ #[26, 26] 26 #[.slice r.a r.len r.cap, .slice (some (at0 b)) 1 1]) K w := by
 have hrl := hr.len1
 rw [List.length_map] at hrl
 refine Du Ru Ru.ts_ (x := ⟨some (at0 b), 1, 1⟩) hr (Zl hb) (λ v hv => by rw [List.mem_singleton.1 hv]; rfl) (by
  show (r.len + 1 + (r.len + 1) / 4 + 512) * 8 <= 2 ^ 48
  omega) hN λ r' w' o l' u k => hK r' w' ?_ u
 have : iv (l ++ [v]) = iv l ++ [.int .i64 v] := by simp
 rw [this]; exact o
theorem G9 {A B : List Int} {s s' : Sl} {t t' : TypeId} (hs : Aq w s t 1 (iv A)) (hs' : Aq w s' t' 1 (iv B)) (hA : A.length < 2 ^ 39) (hB : B.length < 2 ^ 39) {K : Sl -> Wp} (hK : ∀ r w', Ah w' w.heap.size r 3 1 (iv (A ++ B)) -> Ext w w' -> K r w') :
  Ac Tryz.prog 32 #[s.v, .slice s'.a s'.len s'.cap] rS K w := by
 refine A32 ?_
 unfold F32
 have hlen : B.length = s'.len := by have := hs'.len1; rwa [List.length_map] at this
 refine I5 hs (by omega) λ r1 w1 o1 e1 => ?_
 refine Ae (λ x W => Ah W w.heap.size x.1 3 1 (iv (A ++ B)) /\ Ext w W) ?_ (λ x W h => hK _ _ h.1 h.2)
 refine Am (λ x W => ∃ i : Nat, i <= B.length /\ x.2 = ((i : Int), ()) /\ Ah W w.heap.size x.1 3 1 (iv (A ++ B.take i)) /\ Ext w W) (λ x _ => ((B.length : Int) - x.2.1).toNat) ⟨0, Nat.zero_le _, rfl, by rw [List.take_zero, List.append_nil]; exact o1, e1⟩ ?_
 rintro ⟨r, _⟩ W ⟨i, hi, rfl, hr, eW⟩
 dsimp only at hr ⊢
 refine Aa (λ hc => ?_) (λ hc => ?_)
 ·simp only [decide_eq_true_eq] at hc
  obtain ⟨a, ha⟩ : ∃ a, B[i]? = some a := ⟨_, List.getElem?_eq_getElem (by omega)⟩
  have ew : W64 ((i : Int) + 1) = ((i + 1 : Nat) : Int) := by rw [wrap64 (by omega) (by omega)]; omega
  rw [ew]
  refine Iu (c := .int .i64) (xs := B) (hs'.ext eW) (by omega) (x := a) (by rw [Int.toNat_natCast]; exact ha) λ q => Bo λ b7 w4 e4 n4 hb4 _ => ?_
  refine push (hr.ext e4) n4 (by rw [List.length_append, List.length_take]; omega) (by have := eW.size; have := e4.size; omega) λ r' w5 o5 u5 => ?_
  rw [List.append_assoc, show B.take i ++ [a] = B.take (i + 1) by rw [List.take_add_one, ha]; rfl] at o5
  exact ⟨⟨i + 1, by omega, rfl, o5, (eW.trans e4).step u5 λ k hk => hr.Di hk⟩, by omega⟩
 ·simp only [decide_eq_false_iff_not] at hc
  rw [List.take_of_length_le (by omega)] at hr
  exact ⟨hr, eW⟩
def Ny (x : Int) : Int := if x = 10 \/ x = 13 then x else 32 + ((BitVec.ofInt 64 x &&& BitVec.ofInt 64 95).toNat : Int)
def Zc (l : List Int) : List Int := (l.take 16).map Ny
theorem Aw2 (x : Int) : 0 <= Ny x /\ Ny x < 128 := by
 unfold Ny
 split
 ·omega
 ·have : (BitVec.ofInt 64 x &&& BitVec.ofInt 64 95).toNat <= 95 := by
   rw [BitVec.toNat_and]
   exact Nat.le_trans Nat.and_le_right (by decide)
  omega
theorem Aw1 (l : List Int) : Asc (Zc l) := by
 intro v hv
 obtain ⟨x, _, rfl⟩ := List.mem_map.1 hv
 exact Aw2 x
theorem Aw0 (l : List Int) : (Zc l).length <= 16 := by unfold Zc; rw [List.length_map, List.length_take]; omega
theorem Av9 {s : Sl} {l : List Int} (hs : SlX w s 1 (iv l)) (hl : l.length < 2 ^ 60) {K : Sl -> Wp} (hK : ∀ r w', Ah w' w.heap.size r 3 1 (iv (Zc l)) -> Ext w w' -> K r w') :
  Ac Tryz.prog 26 #[s.v] rS K w := by
 refine A26 ?_
 unfold F26
 have hlen : l.length = s.len := by have := hs.len1; rwa [List.length_map] at this
 refine Ae (λ x W => Ah W w.heap.size x.1 3 1 (iv (Zc l)) /\ Ext w W) ?_ (λ x W h => hK _ _ h.1 h.2)
 refine Am (λ x W => ∃ i : Nat, i <= l.length /\ i <= 16 /\ x.2 = ((i : Int), ()) /\ Ah W w.heap.size x.1 3 1 (iv ((l.take i).map Ny)) /\ Ext w W) (λ x _ => ((16 : Int) - x.2.1).toNat) ⟨0, Nat.zero_le _, Nat.zero_le _, rfl, Ah.nil _ _ _ _, Ext.refl w⟩ ?_
 rintro ⟨r, _⟩ W ⟨i, hi, hi2, rfl, hr, eW⟩
 dsimp only at hr ⊢
 refine Ae (λ x W' => x = (decide (i < l.length /\ i < 16), ()) /\ W = W') ?_ ?_
 ·refine Aa (λ h => ⟨Aj ?_, rfl⟩) (λ h => ⟨Aj ?_, rfl⟩)
  all_goals simp only [decide_eq_true_eq, decide_eq_false_iff_not, Bool.false_eq_true, false_iff] at *
  all_goals omega
 rintro _ _ ⟨rfl, rfl⟩
 refine Aa (λ hc => ?_) (λ hc => ?_)
 ·simp only [decide_eq_true_eq] at hc
  obtain ⟨a, ha⟩ : ∃ a, l[i]? = some a := ⟨_, List.getElem?_eq_getElem hc.1⟩
  have ew : W64 ((i : Int) + 1) = ((i + 1 : Nat) : Int) := by rw [wrap64 (by omega) (by omega)]; omega
  rw [ew]
  refine Bo6 (c := .int .i64) (xs := l) (hs.ext eW) (by omega) (x := a) (by rw [Int.toNat_natCast]; exact ha) λ q => ?_
  refine Ae (λ x W' => x = (Ny a, ()) /\ W = W') ?_ ?_
  ·refine Ae (λ x W' => x = (decide (¬ (a = 10 \/ a = 13)), ()) /\ W = W') ?_ ?_
   ·refine Aa (λ h => ⟨Aj ?_, rfl⟩) (λ h => ⟨Aj ?_, rfl⟩)
    ·simp only [bne_iff_ne, ne_eq, decide_eq_true_eq] at *; omega
    ·simp only [bne_eq_false_iff_eq, Bool.false_eq_true, decide_eq_true_eq, false_iff] at *; omega
   rintro _ _ ⟨rfl, rfl⟩
   have hr95 : (BitVec.ofInt 64 a &&& BitVec.ofInt 64 95).toNat <= 95 := by
    rw [BitVec.toNat_and]
    exact Nat.le_trans Nat.and_le_right (by decide)
   refine Aa (λ h => ⟨?_, rfl⟩) (λ h => ⟨?_, rfl⟩)
   ·simp only [decide_eq_true_eq] at h
    unfold Ny
    rw [if_neg h]
    show (W64 (32 + W64 ((BitVec.ofInt 64 a &&& BitVec.ofInt 64 95).toNat : Int)), ()) = _
    rw [wrap64 (a := ((BitVec.ofInt 64 a &&& BitVec.ofInt 64 95).toNat : Int)) (by omega) (by omega), wrap64 (by omega) (by omega)]
   ·simp only [decide_eq_false_iff_not, Decidable.not_not] at h
    unfold Ny
    rw [if_pos h]
  rintro _ _ ⟨rfl, rfl⟩
  refine Bo λ b7 w4 e4 n4 hb4 _ => push (hr.ext e4) n4 (by rw [List.length_map, List.length_take]; omega) (by have := eW.size; have := e4.size; omega) λ r' w5 o5 u5 => ?_
  have e5 : (l.take i).map Ny ++ [Ny a] = (l.take (i + 1)).map Ny := by rw [List.take_add_one, ha]; simp
  rw [e5] at o5
  exact ⟨⟨i + 1, by omega, by omega, rfl, o5, (eW.trans e4).step u5 λ k hk => hr.Di hk⟩, by omega⟩
 ·simp only [decide_eq_false_iff_not] at hc
  have : l.take i = l.take 16 := by
   by_cases h : i = 16
   ·rw [h]
   ·rw [List.take_of_length_le (by omega), List.take_of_length_le (by omega)]
  rw [this] at hr
  exact ⟨hr, eW⟩
theorem Ce3 {f t : Nat} {b : Nat} {s : Sl} (h : w.heap[b]? = some (.cells #[.int .i64 (f : Int), .int .i64 (t : Int), .slice s.a s.len s.cap] 83 (0, 0))) : Aq w ⟨some (at0 b), 1, 1⟩ 83 3 (flat c83 [edT f t s]) := Aq.Hr h (n := 1) (sz := 3) rfl
end
end Go.Proofs.YtabcpghhfeplaaaGreat
namespace Go.Proofs.YtabcpghhfeplaaaGreat
open Trx Gly Clu Lns Obx
namespace Obx
theorem Au6 {A : List Int} {i : Nat} (h : isb A i = true) : sk A (nb A i + 1) = some (i + 1) /\ nb A (i + 1) = nb A i + 1 := by
 have hi := Bo8 h
 have hn : nb A (i + 1) = nb A i + 1 := by rw [Kv, h]; rfl
 have hle : nb A i + 1 <= brs A := by rw [← hn, Gz]; exact Gv A _ _ (by omega)
 obtain ⟨m, hm⟩ := U9 hle
 obtain ⟨_, _, h3, h4⟩ := Lu hm
 rw [hm]
 have h1 : ¬ i + 1 < m := λ hc => by have := h4 _ hc; omega
 have h2 : ¬ m < i + 1 := λ hc => by have := Gv A m i (by omega); omega
 exact ⟨by congr 1; omega, hn⟩
end Obx
end Go.Proofs.YtabcpghhfeplaaaGreat
namespace Go.Proofs.YtabcpghhfeplaaaGreat
open Go Go.Vx Gly Clu Rgl Lns Trx Obx
section
variable {w w' : World} {A : List Int} {s : Sl} {t : TypeId}
theorem Nb (hs : Aq w s t 1 (iv A)) (hl : A.length < 2 ^ 40) {K : Sl -> Wp} (hK : ∀ s' w', Ah w' w.heap.size s' 3 1 (nv (cuts A)) -> Ext w w' -> K s' w') :
  Ac Tryz.prog 132 #[s.v] rS K w := by
 refine Cx3 ?_
 unfold F132
 have hlen : A.length = s.len := by have := hs.len1; rwa [List.length_map] at this
 have nvi : ∀ l : List Nat, nv l = iv (l.map λ (n : Nat) => (n : Int)) := λ l => by show l.map _ = (l.map _).map _; rw [List.map_map]; rfl
 have full : (List.range (A.length + 1)).filter (bk A) = cuts A := rfl
 refine Ae (λ x W => Ah W w.heap.size x.1 3 1 (nv (cuts A)) /\ Ext w W) ?_ (λ x W h => hK _ _ h.1 h.2)
 refine Am (λ x W => ∃ i : Nat, i <= A.length + 1 /\ x.2 = ((i : Int), ()) /\ Ah W w.heap.size x.1 3 1 (nv ((List.range i).filter (bk A))) /\ Ext w W) (λ x _ => ((A.length : Int) + 1 - x.2.1).toNat) ⟨0, Nat.zero_le _, rfl, Ah.nil _ _ _ _, Ext.refl w⟩ ?_
 rintro ⟨r, _⟩ W ⟨i, hi, rfl, hr, eW⟩
 dsimp only at hr ⊢
 refine Aa (λ hc => ?_) (λ hc => ?_)
 ·simp only [decide_eq_true_eq] at hc
  have ew : W64 ((i : Int) + 1) = ((i + 1 : Nat) : Int) := by rw [wrap64 (by omega) (by omega)]; omega
  rw [ew]
  have fl : ((List.range i).filter (bk A)).length <= i := by have := List.length_filter_le (bk A) (List.range i); rwa [List.length_range] at this
  refine Ae (λ x W' => Ah W' w.heap.size x.1 3 1 (nv ((List.range (i + 1)).filter (bk A))) /\ Ext w W') ?_ (λ x W' h => ⟨⟨i + 1, by omega, rfl, h.1, h.2⟩, by omega⟩)
  refine Ab8 (hs.ext eW) hl (by omega) ?_
  rw [List.range_succ, List.filter_append]
  refine Aa (λ hb => ?_) (λ hb => ?_)
  ·rw [List.filter_cons_of_pos hb]
   rw [nvi] at hr
   refine Bo λ b8 w4 e4 n4 hb4 _ => push (hr.ext e4) n4 (by rw [List.length_map]; omega) (by have := eW.size; have := e4.size; omega) λ r' w5 o5 u5 => ?_
   refine ⟨?_, (eW.trans e4).step u5 λ k hk => hr.Di hk⟩
   rw [nvi, List.map_append]
   exact o5
  ·rw [List.filter_cons_of_neg (by rw [hb]; decide)]
   rw [show ([] : List Nat).filter (bk A) = [] from rfl, List.append_nil]
   exact ⟨hr, eW⟩
 ·simp only [decide_eq_false_iff_not] at hc
  have : i = A.length + 1 := by omega
  subst this
  rw [full] at hr
  exact ⟨hr, eW⟩
def lnF (A : List Int) : List Ln := (List.range (brs A + 1)).map λ i => (Eb A i).getD ⟨0, 0, 0, 0⟩
theorem P8 (A : List Int) : (lnF A).length = brs A + 1 := by unfold lnF; simp
theorem Ax2 {A : List Int} {i : Nat} {l : Ln} (h : Eb A i = some l) : (lnF A)[i]? = some l := by
 have := (Ie h).1
 unfold lnF
 rw [List.getElem?_map, List.getElem?_range (by omega), Option.map_some, h]; rfl
abbrev lnR (l : Ln) : Cells.T Dj := ((l.from_ : Int), (l.to_ : Int), (l.next : Int), (l.kind : Int), ())
theorem eR6 : He Tryz.prog 199 174 4 32 := He.of (z := .agg #[.int .i64 0, .int .i64 0, .int .i64 0, .int .i64 0]) Cf3 Cf5 rfl rfl rfl (by decide)
theorem Bz3 (l : Ln) : ∀ v ∈ flat Dj [lnR l], Dx v = true := by
 intro v hv
 rw [Qj] at hv
 have h : v ∈ [_, _, _, _] := hv
 simp only [List.mem_cons, List.not_mem_nil, or_false] at h
 rcases h with rfl | rfl | rfl | rfl <;> rfl
theorem Bb4 {r : Sl} {L : List Ln} {l : Ln} {b N : Nat} {K : Sl -> Wp} (hr : Ah w N r 174 4 (flat Dj (L.map lnR))) (hb : w.heap[b]? = some (.cells #[.int .i64 (l.from_ : Int), .int .i64 (l.to_ : Int), .int .i64 (l.next : Int), .int .i64 (l.kind : Int)] 174 (0, 0))) (hl : L.length < 2 ^ 40) (hN : N <= w.heap.size)
  (hK : ∀ r' w', Ah w' N r' 174 4 (flat Dj ((L ++ [l]).map lnR)) -> r'.len = L.length + 1 -> Upd r.blk w w' -> K r' w') :
  Df Tryz.prog (.one (.one .sl)) (Builtin.append_ #[199, 199] 199 #[.slice r.a r.len r.cap, .slice (some (at0 b)) 1 1]) K w := by
 have hrl := Ah.Jq (cs := Dj) hr (by decide)
 rw [List.length_map] at hrl
 have hbox : SlX w ⟨some (at0 b), 1, 1⟩ 4 (flat Dj [lnR l]) := (Aq.Hr hb (n := 1) (sz := 4) rfl).x
 refine Du eR6 eR6.ts_ (x := ⟨some (at0 b), 1, 1⟩) hr hbox (Bz3 l) (by
  show (r.len + 1 + (r.len + 1) / 4 + 512) * 32 <= 2 ^ 48
  omega) hN λ r' w' o l' u k => hK r' w' ?_ (by rw [l', hrl]) u
 rw [List.map_append, Gq]; exact o
set_option maxHeartbeats 1000000 in
theorem Uu (hs : Aq w s t 1 (iv A)) (hl : A.length < 2 ^ 39) {K : Sl × Int × Unit -> Wp} (hK : ∀ s' w', Ah w' w.heap.size s' 174 4 (flat Dj ((lnF A).map lnR)) -> Ext w w' -> K (s', ((lnN A : Nat) : Int), ()) w') :
  Ac Tryz.prog 154 #[s.v] (.tup [(.one .sl), (.one (.int .i64))]) K w := by
 refine Cv2 ?_
 unfold F154
 have hlen : A.length = s.len := by have := hs.len1; rwa [List.length_map] at this
 have hbr : brs A <= A.length := by rw [Gz]; exact Tq _ _
 have hF := P8 A
 have grow : ∀ {i m : Nat} {l : Ln}, i = m -> Eb A i = some l -> (lnF A).take (m + 1) = (lnF A).take m ++ [l] := λ {i m l} e h => by
  subst e; rw [List.take_add_one, Ax2 h]; rfl
 refine Ae (λ x W => ∃ f : Nat, Ah W w.heap.size x.1 174 4 (flat Dj (((lnF A).take (brs A)).map lnR)) /\ x.2 = ((f : Int), ()) /\ sk A (brs A) = some f /\ Ext w W) ?_ ?_
 ·refine Am (λ x W => ∃ i f : Nat, i <= A.length /\ x.2 = ((f : Int), (i : Int), ()) /\ sk A (nb A i) = some f /\ f <= i /\ (f < i -> A[i]? = some 10 -> A[i - 1]? ≠ some 13) /\ Ah W w.heap.size x.1 174 4 (flat Dj (((lnF A).take (nb A i)).map lnR)) /\ Ext w W) (λ x _ => ((A.length : Int) - x.2.2.1).toNat) ⟨0, 0, Nat.zero_le _, rfl, by rw [Jp, Bb0], Nat.le_refl _, (λ h => by omega), by rw [Jp]; exact Ah.nil _ _ _ _, Ext.refl w⟩ ?_
  rintro ⟨r, _⟩ W ⟨i, f, hi, rfl, hsk, hfi, hmid, hr, eW⟩
  dsimp only at hr ⊢
  have hnb : nb A i <= brs A := by rw [Gz]; exact Gv A _ _ hi
  have tkl : ((lnF A).take (nb A i)).length < 2 ^ 40 := by rw [List.length_take]; omega
  refine Aa (λ hc => ?_) (λ hc => ?_)
  ·simp only [decide_eq_true_eq] at hc
   have hil : i < A.length := by omega
   obtain ⟨v, hv⟩ : ∃ v, A[i]? = some v := ⟨_, List.getElem?_eq_getElem hil⟩
   have hsW := hs.ext eW
   have ew1 : W64 ((i : Int) + 1) = ((i + 1 : Nat) : Int) := by rw [wrap64 (by omega) (by omega)]; omega
   have ew2 : W64 ((i : Int) + 2) = ((i + 2 : Nat) : Int) := by rw [wrap64 (by omega) (by omega)]; omega
   have ewk : ∀ k : Nat, k <= A.length -> W64 ((k : Int) + 1) = ((k + 1 : Nat) : Int) := λ k hk => by rw [wrap64 (by omega) (by omega)]; omega
   rw [ew1, ew2]
   refine Ae (λ x W' => ∃ j f : Nat, i <= j /\ j < A.length /\ x.2 = ((f : Int), (j : Int), ()) /\ sk A (nb A (j + 1)) = some f /\ f <= j + 1 /\ (f < j + 1 -> A[j + 1]? = some 10 -> A[j]? ≠ some 13) /\ Ah W' w.heap.size x.1 174 4 (flat Dj (((lnF A).take (nb A (j + 1))).map lnR)) /\ Ext w W') ?_ ?_
   ·refine rdA hsW hv λ q => Aa (λ h10 => ?_) (λ h10 => ?_)
    ·simp only [beq_iff_eq] at h10
     subst h10
     obtain ⟨g1, g2⟩ := Au6 ((Gi hv).2 (.inl rfl))
     have hln : Eb A (nb A i) = some ⟨f, i, i + 1, 1⟩ := by
      unfold Eb
      rw [hsk, g1]
      simp only [lnC, Nat.add_sub_cancel, hv, Option.some.injEq]
      rw [if_neg (by decide)]
      rw [if_neg (λ h => hmid (by omega) hv (by have := h.2; rwa [show i + 1 - 2 = i - 1 by omega] at this))]
     refine Bo λ b9 w4 e4 n4 hb4 _ => Bb4 (l := ⟨f, i, i + 1, 1⟩) (hr.ext e4) n4 tkl (by have := eW.size; have := e4.size; omega) λ r' w5 o5 _ u5 => ?_
     rw [← grow rfl hln] at o5
     refine ⟨i, i + 1, Nat.le_refl _, hil, rfl, by rw [g2]; exact g1, Nat.le_refl _, (λ h => by omega), by rw [g2]; exact o5, (eW.trans e4).step u5 λ k hk => hr.Di hk⟩
    ·simp only [beq_eq_false_iff_ne, ne_eq] at h10
     refine Ae (λ x W' => x = (decide (v = 13 /\ A[i + 1]? = some 10), ()) /\ W = W') ?_ ?_
     ·refine rdA hsW hv λ q => Aa (λ h13 => ?_) (λ h13 => ⟨Aj ?_, rfl⟩)
      ·simp only [beq_iff_eq] at h13
       refine Aa (λ hlt => ?_) (λ hlt => ⟨Aj ?_, rfl⟩)
       ·simp only [decide_eq_true_eq] at hlt
        obtain ⟨u, hu⟩ : ∃ u, A[i + 1]? = some u := ⟨_, List.getElem?_eq_getElem (by omega)⟩
        refine rdA hsW hu λ q => ⟨Aj ?_, rfl⟩
        rw [hu]
        simp [h13]
       ·simp only [decide_eq_false_iff_not] at hlt
        rw [List.getElem?_eq_none (by omega)]; simp
      ·simp only [beq_eq_false_iff_ne, ne_eq] at h13
       simp [h13]
     rintro _ _ ⟨rfl, rfl⟩
     refine Aa (λ hcl => ?_) (λ hcl => ?_)
     ·simp only [decide_eq_true_eq] at hcl
      obtain ⟨rfl, hu⟩ := hcl
      have hil2 := (List.getElem?_eq_some_iff.1 hu).1
      have hno : isb A i = false := by
       cases hb : isb A i with
       | false => rfl
       | true =>
        rcases (Gi hv).1 hb with h | h
        ·exact absurd h h10
        ·exact absurd hu h.2
      have hn1 : nb A (i + 1) = nb A i := by rw [Kv, hno]; simp
      obtain ⟨g1, g2⟩ := Au6 ((Gi hu).2 (.inl rfl))
      rw [hn1] at g1 g2
      have hln : Eb A (nb A i) = some ⟨f, i, i + 2, 2⟩ := by
       unfold Eb
       rw [hsk, g1]
       simp only [lnC, Option.some.injEq]
       rw [show i + 1 + 1 - 1 = i + 1 by omega, hu, if_neg (by decide), show i + 1 + 1 - 2 = i by omega, if_pos ⟨by omega, hv⟩]
      refine Bo λ b9 w4 e4 n4 hb4 _ => Bb4 (l := ⟨f, i, i + 2, 2⟩) (hr.ext e4) n4 tkl (by have := eW.size; have := e4.size; omega) λ r' w5 o5 _ u5 => ?_
      rw [← grow rfl hln] at o5
      refine ⟨i + 1, i + 2, by omega, hil2, rfl, by rw [g2]; exact g1, Nat.le_refl _, (λ h => by omega), by rw [g2]; exact o5, (eW.trans e4).step u5 λ k hk => hr.Di hk⟩
     ·simp only [decide_eq_false_iff_not] at hcl
      refine rdA hsW hv λ q => Aa (λ h13 => ?_) (λ h13 => ?_)
      ·simp only [beq_iff_eq] at h13
       subst h13
       have hu : A[i + 1]? ≠ some 10 := λ h => hcl ⟨rfl, h⟩
       obtain ⟨g1, g2⟩ := Au6 ((Gi hv).2 (.inr ⟨rfl, hu⟩))
       have hln : Eb A (nb A i) = some ⟨f, i, i + 1, 3⟩ := by
        unfold Eb
        rw [hsk, g1]
        simp only [lnC, Nat.add_sub_cancel, hv, Option.some.injEq]
        rw [if_pos trivial]
       refine Bo λ b9 w4 e4 n4 hb4 _ => Bb4 (l := ⟨f, i, i + 1, 3⟩) (hr.ext e4) n4 tkl (by have := eW.size; have := e4.size; omega) λ r' w5 o5 _ u5 => ?_
       rw [← grow rfl hln] at o5
       refine ⟨i, i + 1, Nat.le_refl _, hil, rfl, by rw [g2]; exact g1, Nat.le_refl _, (λ h => by omega), by rw [g2]; exact o5, (eW.trans e4).step u5 λ k hk => hr.Di hk⟩
      ·simp only [beq_eq_false_iff_ne, ne_eq] at h13
       have hno : isb A i = false := by
        cases hb : isb A i with
        | false => rfl
        | true =>
         rcases (Gi hv).1 hb with h | h
         ·exact absurd h h10
         ·exact absurd h.1 h13
       have hn1 : nb A (i + 1) = nb A i := by rw [Kv, hno]; simp
       refine ⟨i, f, Nat.le_refl _, hil, rfl, by rw [hn1]; exact hsk, by omega, (λ _ _ h => by rw [hv] at h; cases h; exact h13 rfl), by rw [hn1]; exact hr, eW⟩
   ·rintro ⟨r', _⟩ W' ⟨j, f', hij, hjl, rfl, g1, g2, g3, g4, g5⟩
    dsimp only at g4 ⊢
    rw [ewk j (by omega)]
    exact ⟨⟨j + 1, f', by omega, rfl, g1, g2, (by rw [Nat.add_sub_cancel]; exact g3), g4, g5⟩, by omega⟩
  ·simp only [decide_eq_false_iff_not] at hc
   obtain rfl : i = A.length := by omega
   rw [← Gz] at hsk hr
   exact ⟨f, hr, rfl, hsk, eW⟩
 ·rintro ⟨r, _⟩ W ⟨f, hr, rfl, hsk, eW⟩
  dsimp only at hr ⊢
  have hrl := Ah.Jq (cs := Dj) hr (by decide)
  rw [List.length_map, List.length_take] at hrl
  have hfl := (Lu hsk).2.1
  have hln : Eb A (brs A) = some ⟨f, A.length, A.length, 0⟩ := by
   unfold Eb
   rw [hsk, Qr A _ (by omega)]
  rw [← hlen]
  refine Bo λ b23 w4 e4 n4 hb4 _ => Bb4 (l := ⟨f, A.length, A.length, 0⟩) (hr.ext e4) n4 (by rw [List.length_take]; omega) (by have := eW.size; have := e4.size; omega) λ r' w5 o5 l5 u5 => ?_
  rw [← grow rfl hln, List.take_of_length_le (by omega)] at o5
  rw [List.length_take] at l5
  have x5 : Ext w w5 := (eW.trans e4).step u5 λ k hk => hr.Di hk
  have hN : lnN A = if A.length = 0 \/ f < A.length then brs A + 1 else brs A := by
   unfold lnN ended
   rw [hsk]
   by_cases h0 : A.length = 0 \/ f < A.length
   ·rw [if_pos h0]
    have : (decide (0 < A.length) && (some f == some A.length)) = false := by
     rw [Bool.eq_false_iff]; intro h; simp at h; omega
    rw [this]; simp
   ·rw [if_neg h0]
    have : (decide (0 < A.length) && (some f == some A.length)) = true := by simp; omega
    rw [this]; simp
  refine Ae (λ x W' => x = (((lnN A : Nat) : Int), ()) /\ w5 = W') ?_ ?_
  ·refine Ae (λ x W' => x = (decide (A.length = 0 \/ f < A.length), ()) /\ w5 = W') (Aa (λ h0 => ⟨Aj ?_, rfl⟩) (λ h0 => ⟨Aj ?_, rfl⟩)) ?_
   ·simp only [beq_iff_eq, decide_eq_true_eq, true_iff] at *; omega
   ·simp only [beq_eq_false_iff_ne, ne_eq, decide_eq_true_eq] at *; omega
   rintro _ _ ⟨rfl, rfl⟩
   refine Aa (λ h0 => ⟨?_, rfl⟩) (λ h0 => ⟨?_, rfl⟩)
   ·simp only [decide_eq_true_eq] at h0
    rw [hN, if_pos h0, l5]; congr 1; omega
   ·simp only [decide_eq_false_iff_not] at h0
    rw [hN, if_neg h0, ← hrl]; congr 1; omega
  rintro _ _ ⟨rfl, rfl⟩
  exact hK r' w5 o5 x5
end
section
variable {w w' : World} {A : List Int} {s : Sl} {t : TypeId}
theorem Bc6 {A : List Int} {i : Nat} (h : i <= brs A) : ∃ l, Eb A i = some l /\ (lnF A)[i]? = some l := by
 obtain ⟨l, hl⟩ := Ux h
 exact ⟨l, hl, Ax2 hl⟩
theorem Ad9 (hs : Aq w s t 1 (iv A)) (hl : A.length < 2 ^ 39) {at_ : Nat} (hat : at_ <= A.length) {K : Int -> Wp} (hK : ∀ w', Ext w w' -> K ((nb A at_ : Nat) : Int) w') :
  Ac Tryz.prog 138 #[s.v, .int .i64 (at_ : Int)] rI K w := by
 refine Cw7 ?_
 unfold F138
 have hbr : brs A <= A.length := by rw [Gz]; exact Tq _ _
 have hn : nb A at_ <= brs A := by rw [Gz]; exact Gv A _ _ hat
 refine Uu hs hl λ r w1 o1 e1 => ?_
 dsimp only
 have hrl := Ah.Jq (cs := Dj) o1 (by decide)
 rw [List.length_map, P8] at hrl
 refine Ae (λ _ W => w1 = W /\ nb A at_ = brs A) ?_ ?_
 ·refine Am (λ x W => ∃ i : Nat, x = ((i : Int), ()) /\ w1 = W /\ i <= brs A + 1 /\ (i <= nb A at_ \/ (at_ = A.length /\ nb A at_ = brs A))) (λ x _ => ((brs A + 1 : Nat) - x.1).toNat) ⟨0, rfl, rfl, by omega, .inl (Nat.zero_le _)⟩ ?_
  rintro _ _ ⟨i, rfl, rfl, hi, hin⟩
  dsimp only
  refine Aa (λ hc => ?_) (λ hc => ?_)
  ·simp only [decide_eq_true_eq] at hc
   obtain ⟨l, h1, h2⟩ := Bc6 (A := A) (i := i) (by omega)
   have ok := Oo h1
   have ew : W64 ((i : Int) + 1) = ((i + 1 : Nat) : Int) := by rw [wrap64 (by omega) (by omega)]; omega
   rw [ew]
   refine Tv (c := .int .i64) (cs := Dj) (xs := (lnF A).map lnR) (j := 2) o1.in (by omega) (x := lnR l) (y := (l.next : Int)) (by rw [Int.toNat_natCast, List.getElem?_map, h2]; rfl) rfl λ q => ?_
   refine Aa (λ hlt => ?_) (λ hlt => ?_)
   ·simp only [decide_eq_true_eq] at hlt
    have hnl := ok.nl
    have hle : i <= nb A at_ := by rcases hin with h | h <;> omega
    have : nb A at_ <= i := by
     by_cases hq : l.from_ <= at_
     ·have := ok.nbf at_ hq (by omega); omega
     ·have := Gv A at_ l.from_ (by omega)
      rw [ok.nbF] at this; exact this
    rw [show i = nb A at_ by omega]
    exact hK w1 e1
   ·simp only [decide_eq_false_iff_not] at hlt
    refine ⟨⟨i + 1, rfl, rfl, by omega, ?_⟩, by omega⟩
    rcases Nat.lt_or_ge i (nb A at_) with h | h
    ·exact .inl h
    ·right
     cases hx : sk A (i + 1) with
     | none =>
      obtain ⟨_, _, h3⟩ := ok.tail hx
      have : nb A A.length = nb A at_ := by rw [show at_ = A.length by omega]
      exact ⟨by omega, by rw [Gz]; exact this.symm⟩
     | some x =>
      obtain ⟨g1, _, _, g4⟩ := ok.brk x hx
      have := Gv A x at_ (by omega)
      rcases hin with q | q
      ·omega
      ·exact q
  ·simp only [decide_eq_false_iff_not] at hc
   refine ⟨rfl, ?_⟩
   rcases hin with h | h
   ·omega
   ·exact h.2
 ·rintro _ _ ⟨rfl, hb⟩
  have ew : W64 ((r.len : Int) - 1) = ((nb A at_ : Nat) : Int) := by rw [wrap64 (by omega) (by omega)]; omega
  rw [ew]
  exact hK w1 e1
theorem Aj1 (hs : Aq w s t 1 (iv A)) (hl : A.length < 2 ^ 39) {K : Int -> Wp} (hK : ∀ w', Ext w w' -> K ((lnN A : Nat) : Int) w') :
  Ac Tryz.prog 139 #[s.v] rI K w := by
 refine Cw6 ?_
 unfold F139
 exact Uu hs hl λ r w1 o1 e1 => hK w1 e1
theorem Bf8 (hs : Aq w s t 1 (iv A)) (hl : A.length < 2 ^ 39) {i : Nat} {l : Ln} (hi : Eb A i = some l) {K : Cells.T Dj × Int × Unit -> Wp} (hK : ∀ w', Ext w w' -> K (lnR l, 0, ()) w') :
  Ac Tryz.prog 150 #[s.v, .int .i64 (i : Int)] (.tup [(.agg Dj), (.one (.int .i64))]) K w := by
 refine Cv6 ?_
 unfold F150
 have hib := (Ie hi).1
 refine (St.start w).Af λ b1 w1 S1 e1 => Uu (hs.ext e1) hl λ r w2 o2 e2 => ?_
 dsimp only
 have S2 := S1.ext e2
 have hrl := Ah.Jq (cs := Dj) o2 (by decide)
 rw [List.length_map, P8] at hrl
 refine Ae (λ x W => x = (false, ()) /\ w2 = W) (Aa (λ hc => ?_) (λ hc => ⟨Aj ?_, rfl⟩)) ?_
 ·simp only [decide_eq_true_eq] at hc; omega
 ·simp only [decide_eq_true_eq, ge_iff_le, Bool.false_eq_true, iff_false]; omega
 rintro _ _ ⟨rfl, rfl⟩
 refine Au ?_
 refine Zk (cs := Dj) (xs := (lnF A).map lnR) o2.in (by decide) (by omega) (x := lnR l) (by rw [Int.toNat_natCast, List.getElem?_map, Ax2 hi]; rfl) λ q => ?_
 exact S2.Ad 0 rfl rfl rfl rfl λ w3 S3 u3 => S3.lds 0 (lnR l) rfl (hK w3 S3.upd)
theorem Qs (hs : Aq w s t 1 (iv A)) (hl : A.length < 2 ^ 39) {at_ : Nat} (hat : at_ <= A.length) {K : Cells.T Dj -> Wp} (hK : ∀ w', Ext w w' -> K (lnR (Ep A (at_ : Int))) w') :
  Ac Tryz.prog 127 #[s.v, .int .i64 (at_ : Int)] (.one (.agg Dj)) K w := by
 refine Cx8 ?_
 unfold F127
 have hli := Bo4 (A := A) (at_ := (at_ : Int)) (by omega) (by omega)
 rw [Int.toNat_natCast] at hli
 refine (St.start w).Af λ b1 w1 S1 e1 => Ad9 (hs.ext e1) hl hat λ w2 e2 => ?_
 have S2 := S1.ext e2
 refine Bf8 (hs.ext S2.upd) hl hli λ w3 e3 => ?_
 have S3 := S2.ext e3
 refine S3.Af λ b4 w4 S4 e4 => S4.Ad 0 rfl rfl rfl rfl λ w5 S5 u5 => S5.lds 0 (lnR (Ep A (at_ : Int))) rfl ?_
 exact S5.Ad 1 rfl rfl rfl rfl λ w6 S6 u6 => S6.lds 1 (lnR (Ep A (at_ : Int))) rfl (hK w6 S6.upd)
end
end Go.Proofs.YtabcpghhfeplaaaGreat
namespace Go.Proofs.YtabcpghhfeplaaaGreat
open Trx Gly Clu Lns Obx
namespace Obx
structure Rw where
 b : Nat
 e : Nat
 s : Nat
def Al2 (R : List Rw) (j s : Nat) : List Rw := match R.getLast? with
 | some r => if r.s = s then R.dropLast ++ [⟨r.b, j + 1, s⟩] else R ++ [⟨j, j + 1, s⟩]
 | none => [⟨j, j + 1, s⟩]
def Dh (S : List Nat) : Nat -> List Rw
 | 0 => []
 | j + 1 => Al2 (Dh S j) j (S.getD j 0)
structure Jg (S : List Nat) (i : Nat) (R : List Rw) : Prop where
 row : ∀ (m : Nat) r, R[m]? = some r -> r.b < r.e /\ r.e <= i /\ ∀ j, r.b <= j -> j < r.e -> S.getD j 0 = r.s
 head : ∀ r, R[0]? = some r -> r.b = 0
 next : ∀ (m : Nat) r q, R[m]? = some r -> R[m + 1]? = some q -> q.b = r.e /\ q.s ≠ r.s
 last : ∀ r, R.getLast? = some r -> r.e = i
 none_ : R = [] -> i = 0
theorem Qa (S : List Nat) : ∀ i, Jg S i (Dh S i)
 | 0 => ⟨λ m r h => by simp [Dh] at h, λ r h => by simp [Dh] at h, λ m r q h => by simp [Dh] at h, λ r h => by simp [Dh] at h, λ _ => rfl⟩
 | j + 1 => by
  have ih := Qa S j
  rw [Dh]
  generalize Dh S j = R at *
  obtain ⟨s, hs⟩ : ∃ s, S.getD j 0 = s := ⟨_, rfl⟩
  rw [hs]
  unfold Al2
  rcases List.eq_nil_or_concat R with rfl | ⟨Q, r, rfl⟩
  ·have hj := ih.none_ rfl
   subst hj
   refine ⟨λ m r h => ?_, λ r h => ?_, λ m r q h h' => ?_, λ r h => ?_, λ h => by simp at h⟩
   ·cases m with
    | zero => simp at h; subst h; exact ⟨by simp, by simp, λ k h1 h2 => by simp at h1 h2; subst h2; exact hs⟩
    | succ m => simp at h
   ·simp at h; subst h; rfl
   ·simp at h'
   ·simp at h; subst h; rfl
  ·rw [List.concat_eq_append] at ih ⊢
   simp only [List.getLast?_concat, List.dropLast_concat]
   have hr : (Q ++ [r])[Q.length]? = some r := by simp
   have hre := ih.last r (by simp)
   obtain ⟨g1, g2, g3⟩ := ih.row Q.length r hr
   have old : ∀ (m : Nat) x, m < Q.length -> Q[m]? = some x -> (Q ++ [r])[m]? = some x := λ m x h1 h2 => by rw [List.getElem?_append_left h1]; exact h2
   split
   ·rename_i hsr
    refine ⟨λ m x h => ?_, λ x h => ?_, λ m x q h h' => ?_, λ x h => ?_, λ h => by simp at h⟩
    ·by_cases hm : m < Q.length
     ·rw [List.getElem?_append_left hm] at h
      obtain ⟨a1, a2, a3⟩ := ih.row m x (old m x hm h)
      exact ⟨a1, by omega, a3⟩
     ·rw [List.getElem?_append_right (by omega)] at h
      have hm0 : m - Q.length = 0 := by
       rcases Nat.eq_zero_or_pos (m - Q.length) with q | q
       ·exact q
       ·rw [List.getElem?_eq_none (by simp; omega)] at h; cases h
      rw [hm0] at h; simp at h; subst h
      refine ⟨by dsimp only; omega, Nat.le_refl _, λ k h1 h2 => ?_⟩
      dsimp only at h1 h2 ⊢
      by_cases hk : k = j
      ·rw [hk]; exact hs
      ·rw [g3 k h1 (by omega)]; exact hsr
    ·cases Q with
     | nil => simp at h; subst h; exact ih.head r (by simp)
     | cons y Q => exact ih.head x (by simpa using h)
    ·by_cases hm : m + 1 < Q.length
     ·rw [List.getElem?_append_left (by omega)] at h
      rw [List.getElem?_append_left hm] at h'
      exact ih.next m x q (old m x (by omega) h) (old (m + 1) q hm h')
     ·rw [List.getElem?_append_right (by omega)] at h'
      have hm0 : m + 1 - Q.length = 0 := by
       rcases Nat.eq_zero_or_pos (m + 1 - Q.length) with q | q
       ·exact q
       ·rw [List.getElem?_eq_none (by simp; omega)] at h'; cases h'
      rw [hm0] at h'; simp at h'; subst h'
      rw [List.getElem?_append_left (by omega)] at h
      have := ih.next m x r (old m x (by omega) h) (by rw [show m + 1 = Q.length by omega]; exact hr)
      exact ⟨this.1, by dsimp only; rw [← hsr]; exact this.2⟩
    ·simp at h; subst h; rfl
   ·rename_i hsr
    refine ⟨λ m x h => ?_, λ x h => ?_, λ m x q h h' => ?_, λ x h => ?_, λ h => by simp at h⟩
    ·by_cases hm : m < (Q ++ [r]).length
     ·rw [List.getElem?_append_left hm] at h
      obtain ⟨a1, a2, a3⟩ := ih.row m x h
      exact ⟨a1, by omega, a3⟩
     ·rw [List.getElem?_append_right (by omega)] at h
      have hm0 : m - (Q ++ [r]).length = 0 := by
       rcases Nat.eq_zero_or_pos (m - (Q ++ [r]).length) with q | q
       ·exact q
       ·rw [List.getElem?_eq_none (by simp at q ⊢; omega)] at h; cases h
      rw [hm0] at h; simp at h; subst h
      refine ⟨by dsimp only; omega, Nat.le_refl _, λ k h1 h2 => ?_⟩
      dsimp only at h1 h2 ⊢
      rw [show k = j by omega]; exact hs
    ·rw [List.getElem?_append_left (by simp)] at h
     exact ih.head x h
    ·by_cases hm : m + 1 < (Q ++ [r]).length
     ·rw [List.getElem?_append_left (by omega)] at h
      rw [List.getElem?_append_left hm] at h'
      exact ih.next m x q h h'
     ·rw [List.getElem?_append_right (by omega)] at h'
      have hm0 : m + 1 - (Q ++ [r]).length = 0 := by
       rcases Nat.eq_zero_or_pos (m + 1 - (Q ++ [r]).length) with q | q
       ·exact q
       ·rw [List.getElem?_eq_none (by simp at q ⊢; omega)] at h'; cases h'
      rw [hm0] at h'; simp at h'; subst h'
      have hmQ : m = Q.length := by simp at hm hm0; omega
      subst hmQ
      rw [List.getElem?_append_left (by simp), hr] at h
      cases h
      exact ⟨hre.symm, λ q => hsr q.symm⟩
    ·simp at h; subst h; rfl
end Obx
namespace Obx
variable {S : List Nat} {R : List Rw}
theorem Ir {R : List Rw} {m : Nat} {r : Rw} (h : R[m]? = some r) (hm : R.length <= m + 1) : R.getLast? = some r := by
 have hl := (List.getElem?_eq_some_iff.1 h).1
 rw [List.getLast?_eq_getElem?, show R.length - 1 = m by omega]; exact h
theorem Ho (h : Jg S S.length R) {m : Nat} {r : Rw} (hr : R[m]? = some r) {j : Nat} (h1 : r.b <= j) (h2 : j < r.e) : Bc S j = r.b /\ endP S j = r.e := by
 obtain ⟨g1, g2, g3⟩ := h.row m r hr
 constructor
 ·refine As0 h1 (λ k q1 q2 => by rw [g3 k q1 (by omega), g3 j h1 h2]) (λ h0 => ?_)
  cases m with
  | zero => have := h.head r hr; omega
  | succ m =>
   obtain ⟨q, hq⟩ : ∃ q, R[m]? = some q := ⟨_, List.getElem?_eq_getElem (by have := (List.getElem?_eq_some_iff.1 hr).1; omega)⟩
   obtain ⟨e1, e2⟩ := h.next m q r hq hr
   obtain ⟨q1, _, q3⟩ := h.row m q hq
   rw [g3 r.b (Nat.le_refl _) g1, q3 (r.b - 1) (by omega) (by omega)]
   exact λ hc => e2 hc.symm
 ·refine Bd2 h2 g2 (λ k q1 q2 => by rw [g3 k (by omega) q2, g3 j h1 h2]) (λ h0 => ?_)
  by_cases hm : m + 1 < R.length
  ·obtain ⟨q, hq⟩ : ∃ q, R[m + 1]? = some q := ⟨_, List.getElem?_eq_getElem hm⟩
   obtain ⟨e1, e2⟩ := h.next m r q hr hq
   obtain ⟨q1, _, q3⟩ := h.row (m + 1) q hq
   rw [g3 j h1 h2, q3 r.e (by omega) (by omega)]
   exact e2
  ·have := h.last r (Ir hr (by omega)); omega
theorem Z5 (h : Jg S S.length R) : ∀ (k m : Nat) (r : Rw) (j : Nat), R[m]? = some r -> r.b <= j -> j < r.e -> Eu S j (k + 1) = (R[m + k]?).map (·.e)
 | 0, m, r, j, hr, h1, h2 => by
  have := (h.row m r hr).2.1
  rw [Eu, if_pos (by omega), (Ho h hr h1 h2).2, Nat.add_zero, hr]; rfl
 | k + 1, m, r, j, hr, h1, h2 => by
  have g2 := (h.row m r hr).2.1
  rw [Eu, if_pos (by omega), (Ho h hr h1 h2).2]
  by_cases hm : m + 1 < R.length
  ·obtain ⟨q, hq⟩ : ∃ q, R[m + 1]? = some q := ⟨_, List.getElem?_eq_getElem hm⟩
   have e1 := (h.next m r q hr hq).1
   have q1 := (h.row (m + 1) q hq).1
   rw [Z5 h k (m + 1) q r.e hq (by omega) (by omega), show m + 1 + k = m + (k + 1) by omega]
  ·have := h.last r (Ir hr (by omega))
   rw [List.getElem?_eq_none (by omega), this]
   cases k with
   | zero => rw [Eu, if_neg (by omega)]; rfl
   | succ k => rw [Eu, if_neg (by omega)]; rfl
def Ee : List Rw -> Nat -> Nat -> Option Nat
 | [], _, _ => none
 | r :: L, i, k => if (if r.s ≠ 0 then k - 1 else k) = 0 then some i else Ee L (i + 1) (if r.s ≠ 0 then k - 1 else k)
theorem drop_at {α : Type} {R : List α} {m : Nat} {r : α} (h : R[m]? = some r) : R.drop m = r :: R.drop (m + 1) := by
 have hl := (List.getElem?_eq_some_iff.1 h).1
 rw [List.drop_eq_getElem_cons hl]
 rw [List.getElem?_eq_getElem hl] at h
 cases h; rfl
theorem Y1 {r : Rw} {m j : Nat} (h : Jg S S.length R) (hr : R[m]? = some r) (h1 : r.b <= j) (h2 : j < r.e) : Ik S j = if r.s = 0 then r.e else j := by
 obtain ⟨_, g2, g3⟩ := h.row m r hr
 unfold Ik
 rw [g3 j h1 h2, (Ho h hr h1 h2).2]
 by_cases hs : r.s = 0
 ·rw [if_pos ⟨by omega, hs⟩, if_pos hs]
 ·rw [if_neg (λ q => hs q.2), if_neg hs]
theorem Az9 (k : Nat) : Dn S S.length k = none := by
 have ho : Ik S S.length = S.length := by unfold Ik; rw [if_neg (by omega)]
 match k with
 | 0 => rfl
 | 1 => rw [Dn, ho, if_neg (Nat.lt_irrefl _)]
 | k + 2 => rw [Dn, ho, if_neg (Nat.lt_irrefl _)]
theorem D8 {r : Rw} {L : List Rw} {i k : Nat} (hs : r.s = 0) : Ee (r :: L) i (k + 1) = Ee L (i + 1) (k + 1) := by
 rw [Ee]; simp [hs]
theorem Ad4 {r : Rw} {L : List Rw} {i : Nat} (hs : r.s ≠ 0) : Ee (r :: L) i 1 = some i := by
 rw [Ee]; simp [hs]
theorem U7 {r : Rw} {L : List Rw} {i k : Nat} (hs : r.s ≠ 0) : Ee (r :: L) i (k + 2) = Ee L (i + 1) (k + 1) := by
 rw [Ee]; simp [hs]
theorem As4 (h : Jg S S.length R) : ∀ (k m : Nat) (r : Rw) (j : Nat), R[m]? = some r -> r.b <= j -> j < r.e -> Dn S j (k + 1) = (Ee (R.drop m) m (k + 1)).bind λ i => (R[i]?).map (·.e) := by
 intro k
 induction k with
 | zero =>
  intro m r j hr h1 h2
  have g2 := (h.row m r hr).2.1
  rw [Dn, Y1 h hr h1 h2, drop_at hr]
  by_cases hs : r.s = 0
  ·rw [if_pos hs, D8 hs]
   by_cases hm : m + 1 < R.length
   ·obtain ⟨q, hq⟩ : ∃ q, R[m + 1]? = some q := ⟨_, List.getElem?_eq_getElem hm⟩
    obtain ⟨e1, e2⟩ := h.next m r q hr hq
    obtain ⟨q1, q2, _⟩ := h.row (m + 1) q hq
    have hqs : q.s ≠ 0 := λ hc => e2 (by rw [hc, hs])
    rw [if_pos (by omega), (Ho h hq (j := r.e) (by omega) (by omega)).2, drop_at hq, Ad4 hqs]
    simp [hq]
   ·have := h.last r (Ir hr (by omega))
    rw [if_neg (by omega), List.drop_eq_nil_of_le (by omega)]; rfl
  ·rw [if_neg hs, if_pos (by omega), (Ho h hr h1 h2).2, Ad4 hs]
   simp [hr]
 | succ k ih =>
  intro m r j hr h1 h2
  have g2 := (h.row m r hr).2.1
  have step : ∀ (n : Nat) (q : Rw), R[n]? = some q -> Dn S q.e (k + 1) = (Ee (R.drop (n + 1)) (n + 1) (k + 1)).bind λ i => (R[i]?).map (·.e) := by
   intro n q hq
   by_cases hn : n + 1 < R.length
   ·obtain ⟨x, hx⟩ : ∃ q, R[n + 1]? = some q := ⟨_, List.getElem?_eq_getElem hn⟩
    have e1 := (h.next n q x hq hx).1
    have x1 := (h.row (n + 1) x hx).1
    exact ih (n + 1) x q.e hx (by omega) (by omega)
   ·have := h.last q (Ir hq (by omega))
    rw [this, Az9, List.drop_eq_nil_of_le (by omega)]; rfl
  rw [Dn, Y1 h hr h1 h2, drop_at hr]
  by_cases hs : r.s = 0
  ·rw [if_pos hs, D8 hs]
   by_cases hm : m + 1 < R.length
   ·obtain ⟨q, hq⟩ : ∃ q, R[m + 1]? = some q := ⟨_, List.getElem?_eq_getElem hm⟩
    obtain ⟨e1, e2⟩ := h.next m r q hr hq
    obtain ⟨q1, q2, _⟩ := h.row (m + 1) q hq
    have hqs : q.s ≠ 0 := λ hc => e2 (by rw [hc, hs])
    rw [if_pos (by omega), (Ho h hq (j := r.e) (by omega) (by omega)).2, drop_at hq, U7 hqs]
    exact step (m + 1) q hq
   ·have := h.last r (Ir hr (by omega))
    rw [if_neg (by omega), List.drop_eq_nil_of_le (by omega)]; rfl
  ·rw [if_neg hs, if_pos (by omega), U7 hs, (Ho h hr h1 h2).2]
   exact step m r hr
end Obx
namespace Obx
variable {S : List Nat} {R : List Rw}
def D6 (R : List Rw) (a z : Nat) : Option (Nat × Nat) := match R[a]?, R[z]? with
 | some x, some y => some (x.b, y.e)
 | _, _ => none
theorem Jc {R : List Rw} {a z : Nat} {x y : Rw} (h1 : R[a]? = some x) (h2 : R[z]? = some y) : D6 R a z = some (x.b, y.e) := by unfold D6; rw [h1, h2]
theorem Ax9 (h : Jg S S.length R) {m : Nat} {r : Rw} {i : Nat} (hr : R[m]? = some r) (h1 : r.b <= i) (h2 : i < r.e) (k : Nat) : Xd S i (k + 1) = D6 R m (m + k) := by
 unfold Xd D6
 rw [Z5 h k m r i hr h1 h2, hr, (Ho h hr h1 h2).1]
 cases R[m + k]? <;> rfl
def Hf (R : List Rw) (m : Nat) : Option Nat := (R[m]?).map (·.s)
def Ih (R : List Rw) (m k : Nat) : Option (Nat × Nat) := (Ee (R.drop m) m k).map λ l =>
 if Hf R m = some 0 then (m, l) else if Hf R (l + 1) = some 0 then (m, l + 1) else if 0 < m /\ Hf R (m - 1) = some 0 then (m - 1, l) else (m, l)
theorem Un : ∀ {L : List Rw} {i k l : Nat}, Ee L i k = some l -> i <= l /\ l < i + L.length
 | [], _, _, _, h => by simp [Ee] at h
 | r :: L, i, k, l, h => by
  rw [Ee] at h
  rw [List.length_cons]
  generalize (if r.s ≠ 0 then k - 1 else k) = q at h
  by_cases hq : q = 0
  ·rw [if_pos hq] at h; cases h; omega
  ·rw [if_neg hq] at h
   have := Un h
   omega
theorem As3 (h : Jg S S.length R) {m : Nat} {r : Rw} {i : Nat} (hr : R[m]? = some r) (h1 : r.b <= i) (h2 : i < r.e) (k : Nat) : Rl S i (k + 1) = (Ih R m (k + 1)).bind λ x => D6 R x.1 x.2 := by
 obtain ⟨g1, g2, g3⟩ := h.row m r hr
 unfold Rl Ih
 rw [As4 h k m r i hr h1 h2, (Ho h hr h1 h2).1, g3 i h1 h2]
 cases hs : Ee (R.drop m) m (k + 1) with
 | none => rfl
 | some l =>
  have hb := Un hs
  rw [List.length_drop] at hb
  have hml := (List.getElem?_eq_some_iff.1 hr).1
  obtain ⟨x, hx⟩ : ∃ x, R[l]? = some x := ⟨_, List.getElem?_eq_getElem (by omega)⟩
  obtain ⟨x1, x2, x3⟩ := h.row l x hx
  simp only [Option.bind_some, hx, Option.map_some]
  have e0 : Hf R m = some r.s := by unfold Hf; rw [hr]; rfl
  rw [e0]
  by_cases h0 : r.s = 0
  ·rw [if_pos h0, if_pos (by rw [h0]), Jc hr hx]
  ·rw [if_neg h0, if_neg (λ q => h0 (Option.some.inj q))]
   by_cases hl : l + 1 < R.length
   ·obtain ⟨y, hy⟩ : ∃ y, R[l + 1]? = some y := ⟨_, List.getElem?_eq_getElem hl⟩
    obtain ⟨y1, y2, y3⟩ := h.row (l + 1) y hy
    have hn := (h.next l x y hx hy).1
    have e1 : Hf R (l + 1) = some y.s := by unfold Hf; rw [hy]; rfl
    have e2 : S.getD x.e 0 = y.s := y3 x.e (by omega) (by omega)
    rw [e1, e2]
    by_cases hy0 : y.s = 0
    ·rw [if_pos ⟨by omega, hy0⟩, if_pos (by rw [hy0]), (Ho h hy (j := x.e) (by omega) (by omega)).2, Jc hr hy]
    ·rw [if_neg (λ q => hy0 q.2), if_neg (λ q => hy0 (Option.some.inj q))]
     exact back h hr hx
   ·have hxe := h.last x (Ir hx (by omega))
    have e1 : Hf R (l + 1) = none := by unfold Hf; rw [List.getElem?_eq_none (by omega)]; rfl
    rw [e1, if_neg (λ q => absurd q.1 (by omega)), if_neg (show ¬ (none : Option Nat) = some 0 from λ q => by cases q)]
    exact back h hr hx
where
  back {l : Nat} {x : Rw} (h : Jg S S.length R) {m : Nat} {r : Rw} (hr : R[m]? = some r) (hx : R[l]? = some x) : some (if 0 < r.b /\ S.getD (r.b - 1) 0 = 0 then (Bc S (r.b - 1), x.e) else (r.b, x.e)) = D6 R (if 0 < m /\ Hf R (m - 1) = some 0 then (m - 1, l) else (m, l)).1 (if 0 < m /\ Hf R (m - 1) = some 0 then (m - 1, l) else (m, l)).2 := by
    cases m with
    | zero =>
      have := h.head r hr
      rw [if_neg (by omega), if_neg (by omega)]
      exact (Jc hr hx).symm
    | succ m =>
      obtain ⟨q, hq⟩ : ∃ q, R[m]? = some q := ⟨_, List.getElem?_eq_getElem (by have := (List.getElem?_eq_some_iff.1 hr).1; omega)⟩
      obtain ⟨e1, e2⟩ := h.next m q r hq hr
      obtain ⟨q1, q2, q3⟩ := h.row m q hq
      have s1 : Hf R (m + 1 - 1) = some q.s := by unfold Hf; rw [Nat.add_sub_cancel, hq]; rfl
      rw [s1, q3 (r.b - 1) (by omega) (by omega)]
      by_cases hs : q.s = 0
      · rw [if_pos ⟨by omega, hs⟩, if_pos ⟨by omega, by rw [hs]⟩, (Ho h hq (j := r.b - 1) (by omega) (by omega)).1]
        exact (Jc hq hx).symm
      · rw [if_neg (λ z => hs z.2), if_neg (λ z => hs (Option.some.inj z.2))]
        exact (Jc hr hx).symm
end Obx
end Go.Proofs.YtabcpghhfeplaaaGreat
namespace Go.Proofs.YtabcpghhfeplaaaGreat
open Go Go.Vx Gly Clu Rgl Lns Trx Obx
section
variable {w w' : World} {s : Sl} {t : TypeId} {R : List Rw} {F G : Rw -> Nat}
theorem V8 {a : Int} {big : Bool} {K : Int -> Wp} (h : K (((if big /\ wrd a ≠ 0 then 2 else wrd a : Nat)) : Int) w) : Ac Tryz.prog 149 #[.int .i64 a, .bool big] rI K w := by
 refine Cv7 ?_
 unfold F149
 refine Av1 ?_
 refine Ae (λ x W => x = (decide (big = true /\ wrd a ≠ 0), ()) /\ w = W) (Aa (λ h1 => ⟨Aj ?_, rfl⟩) (λ h1 => ⟨Aj ?_, rfl⟩)) ?_
 ·simp only [bne_iff_ne, ne_eq, decide_eq_true_eq, h1, true_and]; omega
 ·simp [h1]
 rintro _ _ ⟨rfl, rfl⟩
 refine Aa (λ h1 => ?_) (λ h1 => ?_)
 ·simp only [decide_eq_true_eq] at h1
  rw [if_pos h1] at h; exact h
 ·simp only [decide_eq_false_iff_not] at h1
  rw [if_neg h1] at h; exact h
theorem Ld {c : Int} (hc : 0 <= c) {K : Int -> Wp} (h : K ((times c : Nat) : Int) w) : Ac Tryz.prog 130 #[.int .i64 c] rI K w := by
 refine Cx5 ?_
 unfold F130
 refine Aa (λ h1 => ?_) (λ h1 => ?_)
 ·simp only [beq_iff_eq] at h1
  have : ((times c : Nat) : Int) = 1 := by unfold times; omega
  rw [this] at h; exact h
 ·simp only [beq_eq_false_iff_ne, ne_eq] at h1
  have : ((times c : Nat) : Int) = c := by unfold times; omega
  rw [this] at h; exact h
abbrev rwT (F G : Rw -> Nat) (r : Rw) : Cells.T Jt := ((F r : Int), (G r : Int), (r.s : Int), ())
abbrev Al4 (w : World) (s : Sl) (t : TypeId) (F G : Rw -> Nat) (R : List Rw) : Prop := Aq w s t 3 (flat Jt (R.map (rwT F G)))
theorem Al4.len (h : Al4 w s t F G R) : R.length = s.len := by have := Aq.Jq (cs := Jt) h (by decide); rwa [List.length_map] at this
theorem F5 {m : Nat} {k : Int} (hs : Al4 w s t F G R) (hl : R.length < 2 ^ 40) (hm : m < R.length) (hk : 1 <= k /\ k < 2 ^ 63) {K : Int -> Wp} (h : K (if k <= (R.length : Int) - m then (m : Int) + k - 1 else -1) w) :
  Ac Tryz.prog 129 #[s.v, .int .i64 (m : Int), .int .i64 k] rI K w := by
 refine Cx6 ?_
 unfold F129
 have hlen := hs.len
 rw [← hlen, wrap64 (a := (R.length : Int) - (m : Int)) (by omega) (by omega)]
 refine Aa (λ h1 => ?_) (λ h1 => ?_)
 ·simp only [decide_eq_true_eq, gt_iff_lt] at h1
  rw [if_neg (by omega)] at h; exact h
 ·simp only [decide_eq_false_iff_not, gt_iff_lt] at h1
  rw [if_pos (by omega)] at h
  rw [wrap64 (a := (m : Int) + k) (by omega) (by omega), wrap64 (by omega) (by omega)]
  exact h
theorem E8 {at_ : Int} (hs : Al4 w s t F G R) (hl : R.length < 2 ^ 40) (h0 : 0 < R.length) {K : Int -> Wp} (h : ∀ m r, R[m]? = some r -> (∀ (j : Nat) q, j < m -> R[j]? = some q -> (G q : Int) <= at_) -> (at_ < (G r : Int) \/ m + 1 = R.length) -> K (m : Int) w) :
  Ac Tryz.prog 128 #[s.v, .int .i64 at_] rI K w := by
 refine Cx7 ?_
 unfold F128
 have hlen := hs.len
 refine Ae (λ _ W => w = W /\ ∀ (j : Nat) q, j < R.length -> R[j]? = some q -> (G q : Int) <= at_) ?_ ?_
 ·refine Am (λ x W => ∃ i : Nat, x = ((i : Int), ()) /\ w = W /\ i <= R.length /\ ∀ (j : Nat) q, j < i -> R[j]? = some q -> (G q : Int) <= at_) (λ x _ => ((R.length : Int) - x.1).toNat) ⟨0, rfl, rfl, Nat.zero_le _, λ j q hj => by omega⟩ ?_
  rintro _ _ ⟨i, rfl, rfl, hi, hlo⟩
  dsimp only
  refine Aa (λ hc => ?_) (λ hc => ?_)
  ·simp only [decide_eq_true_eq] at hc
   obtain ⟨r, hr⟩ : ∃ r, R[i]? = some r := ⟨_, List.getElem?_eq_getElem (by omega)⟩
   have ew : W64 ((i : Int) + 1) = ((i + 1 : Nat) : Int) := by rw [wrap64 (by omega) (by omega)]; omega
   rw [ew]
   refine Tv (c := .int .i64) (cs := Jt) (xs := R.map (rwT F G)) (j := 1) hs (by omega) (x := rwT F G r) (y := (G r : Int)) (by rw [Int.toNat_natCast, List.getElem?_map, hr]; rfl) rfl λ q => ?_
   refine Aa (λ hlt => ?_) (λ hlt => ?_)
   ·simp only [decide_eq_true_eq] at hlt
    exact h i r hr hlo (.inl hlt)
   ·simp only [decide_eq_false_iff_not] at hlt
    refine ⟨⟨i + 1, rfl, rfl, by omega, λ j q hj hq => ?_⟩, by omega⟩
    by_cases hji : j = i
    ·subst hji; rw [hr] at hq; cases hq; omega
    ·exact hlo j q (by omega) hq
  ·simp only [decide_eq_false_iff_not] at hc
   exact ⟨rfl, λ j q hj hq => hlo j q (by omega) hq⟩
 ·rintro _ _ ⟨rfl, hall⟩
  obtain ⟨r, hr⟩ : ∃ r, R[R.length - 1]? = some r := ⟨_, List.getElem?_eq_getElem (by omega)⟩
  have ew : W64 ((s.len : Int) - 1) = ((R.length - 1 : Nat) : Int) := by rw [wrap64 (by omega) (by omega)]; omega
  rw [ew]
  exact h (R.length - 1) r hr (λ j q hj hq => hall j q (by omega) hq) (.inr (by omega))
end
namespace Obx
theorem U8 : ∀ {L : List Rw} {i k l : Nat}, 1 <= k -> Ee L i k = some l -> k <= L.length
 | [], _, _, _, _, h => by simp [Ee] at h
 | r :: L, i, k, l, hk, h => by
  rw [Ee] at h
  rw [List.length_cons]
  obtain ⟨q, hq⟩ : ∃ q, q = (if r.s ≠ 0 then k - 1 else k) := ⟨_, rfl⟩
  have hqk : k - 1 <= q := by rw [hq]; split <;> omega
  rw [← hq] at h
  by_cases h0 : q = 0
  ·omega
  ·rw [if_neg h0] at h
   have := U8 (by omega) h
   omega
end Obx
section
variable {w w' : World} {s : Sl} {t : TypeId} {R : List Rw} {F G : Rw -> Nat}
theorem Us (hs : Al4 w s t F G R) {i : Nat} {r : Rw} (hr : R[i]? = some r) {K : Addr -> Int -> Wp} (hK : ∀ q, K q (r.s : Int) w) :
  ix s.a s.len (i : Int) (λ q => ld (.int .i64) ((q.add (scaled (Int.toNat (i : Int)) 3)).add 2) (K q)) w :=
 Tv (c := .int .i64) (cs := Jt) (xs := R.map (rwT F G)) (j := 2) hs (by omega) (x := rwT F G r) (y := (r.s : Int)) (by rw [Int.toNat_natCast, List.getElem?_map, hr]; rfl) rfl hK
theorem Am7 {m k : Nat} (hs : Al4 w s t F G R) (hl : R.length < 2 ^ 40) (hm : m <= R.length) (hk : 1 <= k /\ k < 2 ^ 63) {K : Int -> Wp} (h : K (match Ee (R.drop m) m k with | some l => (l : Int) | none => -1) w) :
  Ac Tryz.prog 151 #[s.v, .int .i64 (m : Int), .int .i64 (k : Int)] rI K w := by
 refine Cv5 ?_
 unfold F151
 have hlen := hs.len
 refine Aa (λ h1 => ?_) (λ h1 => ?_)
 ·simp only [decide_eq_true_eq, gt_iff_lt] at h1
  cases hx : Ee (R.drop m) m k with
  | none => rw [hx] at h; exact h
  | some l =>
   have := U8 hk.1 hx
   rw [List.length_drop] at this; omega
 simp only [decide_eq_false_iff_not, gt_iff_lt] at h1
 refine Ae (λ _ W => w = W /\ Ee (R.drop m) m k = none) ?_ (λ _ W hW => by obtain ⟨rfl, hf⟩ := hW; rw [hf] at h; exact h)
 refine Am (λ x W => ∃ i n : Nat, x = ((n : Int), (i : Int), ()) /\ w = W /\ m <= i /\ i <= R.length /\ 1 <= n /\ n <= k /\ Ee (R.drop m) m k = Ee (R.drop i) i n) (λ x _ => ((R.length : Int) - x.2.1).toNat) ⟨m, k, rfl, rfl, Nat.le_refl _, hm, hk.1, Nat.le_refl _, rfl⟩ ?_
 rintro _ _ ⟨i, n, rfl, rfl, hmi, hi, hn1, hn2, he⟩
 dsimp only
 refine Aa (λ hc => ?_) (λ hc => ?_)
 ·simp only [decide_eq_true_eq] at hc
  obtain ⟨r, hr⟩ : ∃ r, R[i]? = some r := ⟨_, List.getElem?_eq_getElem (by omega)⟩
  have ew : W64 ((i : Int) + 1) = ((i + 1 : Nat) : Int) := by rw [wrap64 (by omega) (by omega)]; omega
  have ewn : W64 ((n : Int) - 1) = ((n - 1 : Nat) : Int) := by rw [wrap64 (by omega) (by omega)]; omega
  rw [ew, ewn]
  rw [drop_at hr, Ee] at he
  refine Ae (λ x W => x = (((if r.s ≠ 0 then n - 1 else n : Nat) : Int), ()) /\ w = W) ?_ ?_
  ·refine Us hs hr λ q => Aa (λ h2 => ⟨?_, rfl⟩) (λ h2 => ⟨?_, rfl⟩)
   ·simp only [bne_iff_ne, ne_eq] at h2
    rw [if_pos (show r.s ≠ 0 by omega)]
   ·simp only [bne_eq_false_iff_eq] at h2
    rw [if_neg (show ¬ r.s ≠ 0 by omega)]
  rintro _ _ ⟨rfl, rfl⟩
  obtain ⟨q, hq⟩ : ∃ q, q = (if r.s ≠ 0 then n - 1 else n) := ⟨_, rfl⟩
  have hqn : q <= n := by rw [hq]; split <;> omega
  rw [← hq] at he ⊢
  refine Aa (λ h2 => ?_) (λ h2 => ?_)
  ·simp only [beq_iff_eq] at h2
   rw [if_pos (by omega)] at he
   rw [he] at h
   exact h
  ·simp only [beq_eq_false_iff_ne, ne_eq] at h2
   rw [if_neg (by omega)] at he
   exact ⟨⟨i + 1, q, rfl, rfl, by omega, by omega, by omega, by omega, he⟩, by omega⟩
 ·simp only [decide_eq_false_iff_not] at hc
  refine ⟨rfl, ?_⟩
  rw [he, List.drop_eq_nil_of_le (by omega)]; rfl
end
section
variable {w w' : World} {s : Sl} {t : TypeId} {R : List Rw} {F G : Rw -> Nat}
theorem Xr {m k : Nat} (hs : Al4 w s t F G R) (hl : R.length < 2 ^ 40) (hm : m < R.length) (hk : 1 <= k /\ k < 2 ^ 63) {K : Int × Int × Unit -> Wp} (h : K (match Ih R m k with | some x => ((x.1 : Int), (x.2 : Int), ()) | none => (-1, -1, ())) w) :
  Ac Tryz.prog 131 #[s.v, .int .i64 (m : Int), .int .i64 (k : Int)] (.tup [(.one (.int .i64)), (.one (.int .i64))]) K w := by
 refine Cx4 ?_
 unfold F131
 have hlen := hs.len
 refine Am7 hs hl (by omega) hk ?_
 unfold Ih at h
 cases hx : Ee (R.drop m) m k with
 | none => rw [hx] at h; exact Cm h
 | some l =>
  rw [hx] at h
  simp only [Option.map_some] at h
  have hb := Un hx
  rw [List.length_drop] at hb
  obtain ⟨r, hr⟩ : ∃ r, R[m]? = some r := ⟨_, List.getElem?_eq_getElem hm⟩
  have e0 : Hf R m = some r.s := by unfold Hf; rw [hr]; rfl
  rw [e0] at h
  dsimp only
  refine Aa (λ hc => ?_) (λ _ => ?_)
  ·simp only [decide_eq_true_eq] at hc; omega
  refine Us hs hr λ q => Aa (λ h1 => ?_) (λ h1 => ?_)
  ·simp only [beq_iff_eq] at h1
   rw [if_pos (by rw [show r.s = 0 by omega])] at h; exact h
  simp only [beq_eq_false_iff_ne, ne_eq] at h1
  rw [if_neg (λ q => by have := Option.some.inj q; omega)] at h
  have ew : W64 ((l : Int) + 1) = ((l + 1 : Nat) : Int) := by rw [wrap64 (by omega) (by omega)]; omega
  rw [ew]
  refine Ae (λ x W => x = (decide (Hf R (l + 1) = some 0), ()) /\ w = W) (Aa (λ h2 => ?_) (λ h2 => ⟨Aj ?_, rfl⟩)) ?_
  ·simp only [decide_eq_true_eq] at h2
   obtain ⟨y, hy⟩ : ∃ r, R[l + 1]? = some r := ⟨_, List.getElem?_eq_getElem (by omega)⟩
   have e1 : Hf R (l + 1) = some y.s := by unfold Hf; rw [hy]; rfl
   refine Us hs hy λ q => ⟨Aj ?_, rfl⟩
   rw [e1]; simp
  ·simp only [decide_eq_false_iff_not] at h2
   have e1 : Hf R (l + 1) = none := by unfold Hf; rw [List.getElem?_eq_none (by omega)]; rfl
   rw [e1]; simp
  rintro _ _ ⟨rfl, rfl⟩
  refine Aa (λ h2 => ?_) (λ h2 => ?_)
  ·simp only [decide_eq_true_eq] at h2
   rw [if_pos h2] at h; exact h
  simp only [decide_eq_false_iff_not] at h2
  rw [if_neg h2] at h
  refine Ae (λ x W => x = (decide (0 < m /\ Hf R (m - 1) = some 0), ()) /\ w = W) (Aa (λ h3 => ?_) (λ h3 => ⟨Aj ?_, rfl⟩)) ?_
  ·simp only [decide_eq_true_eq, gt_iff_lt] at h3
   have ewm : W64 ((m : Int) - 1) = ((m - 1 : Nat) : Int) := by rw [wrap64 (by omega) (by omega)]; omega
   rw [ewm]
   obtain ⟨y, hy⟩ : ∃ r, R[m - 1]? = some r := ⟨_, List.getElem?_eq_getElem (by omega)⟩
   have e1 : Hf R (m - 1) = some y.s := by unfold Hf; rw [hy]; rfl
   refine Us hs hy λ q => ⟨Aj ?_, rfl⟩
   rw [e1]; simp; omega
  ·simp only [decide_eq_false_iff_not, gt_iff_lt] at h3
   simp; omega
  rintro _ _ ⟨rfl, rfl⟩
  refine Aa (λ h3 => ?_) (λ h3 => ?_)
  ·simp only [decide_eq_true_eq] at h3
   rw [if_pos h3] at h
   have ewm : W64 ((m : Int) - 1) = ((m - 1 : Nat) : Int) := by rw [wrap64 (by omega) (by omega)]; omega
   rw [ewm]; exact h
  ·simp only [decide_eq_false_iff_not] at h3
   rw [if_neg h3] at h; exact h
end
end Go.Proofs.YtabcpghhfeplaaaGreat
namespace Go.Proofs.YtabcpghhfeplaaaGreat
open Trx Gly Clu Lns Obx
namespace Obx
def Vt (C : List Cel) (r : Rw) : Nat := (C[r.b]?.map (·.from_)).getD 0
def toC (C : List Cel) (r : Rw) : Nat := (C[r.e - 1]?.map (·.to_)).getD 0
theorem At8 {A : List Int} {off : Nat} {S : List Nat} {R : List Rw} (hS : S.length = (Bg A off).length) (h : Jg S S.length R) {at_ : Int} {m : Nat} {r : Rw} (hr : R[m]? = some r)
  (h1 : ∀ (j : Nat) q, j < m -> R[j]? = some q -> (toC (Bg A off) q : Int) <= at_) (h2 : at_ < (toC (Bg A off) r : Int) \/ m + 1 = R.length) : r.b <= Jr (Bg A off) at_ /\ Jr (Bg A off) at_ < r.e := by
 obtain ⟨g1, g2, _⟩ := h.row m r hr
 obtain ⟨s1, s2⟩ := Ua (C := Bg A off) (at_ := at_)
 have hle := Ql (Bg A off) at_
 have get : ∀ j, j < (Bg A off).length -> ∃ c, (Bg A off)[j]? = some c := λ j hj => ⟨_, List.getElem?_eq_getElem hj⟩
 obtain ⟨z, hz⟩ := get (r.e - 1) (by omega)
 have hz' : toC (Bg A off) r = z.to_ := by unfold toC; rw [hz]; rfl
 unfold Jr
 by_cases hf : Ef (Bg A off) at_ < (Bg A off).length
 ·rw [if_pos hf]
  constructor
  ·rcases Nat.lt_or_ge (Ef (Bg A off) at_) r.b with q | q
   ·exfalso
    cases m with
    | zero => have := h.head r hr; omega
    | succ m =>
     obtain ⟨p, hp⟩ : ∃ p, R[m]? = some p := ⟨_, List.getElem?_eq_getElem (by have := (List.getElem?_eq_some_iff.1 hr).1; omega)⟩
     have e1 := (h.next m p r hp hr).1
     obtain ⟨p1, p2, _⟩ := h.row m p hp
     obtain ⟨y, hy⟩ := get (p.e - 1) (by omega)
     obtain ⟨x, hx⟩ := get (Ef (Bg A off) at_) hf
     have := s2 x hx
     have := h1 m p (by omega) hp
     have hy' : toC (Bg A off) p = y.to_ := by unfold toC; rw [hy]; rfl
     have := (Bj3 hx hy (by omega)).2
     omega
   ·exact q
  ·rcases h2 with q | q
   ·rcases Nat.lt_or_ge (Ef (Bg A off) at_) r.e with u | u
    ·exact u
    ·have := s1 (r.e - 1) z (by omega) hz
     omega
   ·have := h.last r (Ir hr (by omega)); omega
 ·rw [if_neg hf]
  have hlast : r.e = S.length := by
   rcases h2 with q | q
   ·have := s1 (r.e - 1) z (by omega) hz
    omega
   ·exact h.last r (Ir hr (by omega))
  omega
end Obx
end Go.Proofs.YtabcpghhfeplaaaGreat
