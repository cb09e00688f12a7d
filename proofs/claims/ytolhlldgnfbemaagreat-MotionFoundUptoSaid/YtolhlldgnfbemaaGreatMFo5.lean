/- YtolhlldgnfbemaaGreatMFo5: parts of the proof, put together by program. -/
import Derived.Test.YtolhlldgnfbemaaGreatMFo4
set_option linter.unusedVariables false
set_option linter.unusedSimpArgs false
set_option linter.unusedSectionVars false
set_option maxRecDepth 100000
namespace Go.Proofs.YtolhlldgnfbemaaGreat
open Go Go.Vx Cdc Trx
section
variable {w w' : World} {S : Nat → Prop} {p : Nat} {e : Enc} {lim na : Nat} {O : Nat → Prop} {M : Parts}
theorem sub_one (A : List Int) (n : Nat) : sub A (n : Int) ((n : Int) + 1) = (A.drop n).take 1 := by
 unfold sub
 have : ((n : Int) + 1).toNat - (n : Int).toNat = 1 := by omega
 rw [this, Int.toNat_natCast]
theorem take_one {A : List Int} {n : Nat} {a : Int} (h : A[n]? = some a) : (A.drop n).take 1 = [a] := by
 rw [List.take_one, List.head?_drop, h]; rfl
theorem take_none {A : List Int} {n : Nat} (h : A[n]? = none) : (A.drop n).take 1 = [] := by
 rw [List.take_one, List.head?_drop, h]; rfl
theorem last_take {A : List Int} {n : Nat} (h0 : 0 < n) (h : n ≤ A.length) : (A.take n).getLast? = A[n - 1]? := by
 rw [List.getLast?_eq_getElem?, List.length_take, List.getElem?_take]
 have : min n A.length = n := by omega
 rw [this, if_pos (by omega)]
theorem atoms_take (l : As) (n : Nat) : atoms (l.take n) = (atoms l).take n := by simp [atoms]
theorem cr_split {L : As} (h : Posd L) {n : Nat} (h0 : 0 < n) (hn : n ≤ L.length) : split13 (atoms L) n = ((msr (L.take n)).cr && ((atoms L)[n]? == some 10)) := by
 have hl : (atoms L).length = L.length := List.length_map _
 rw [msr_cr (h.take n), atoms_take, last_take h0 (by omega)]
 unfold split13
 rw [decide_eq_true h0]
 rfl
theorem breaks_call {at_ : Int} (h : Txt w p e lim na O M) {K : Int → World → Prop} (hK : ∀ w', Ext w w' → K ((nb (atoms (aOf e M)) at_.toNat : Nat) : Int) w') :
  callT Tryz.prog 50 #[.pointer (some (at0 p)), .int .i64 at_] (.one (.one (.int .i64))) K w := by
 refine F50_calls ?_
 unfold F50
 have few := h.few; have lims := h.lims
 have hal : (atoms (aOf e M)).length = (aOf e M).length := List.length_map _
 have hpos := aOf_posd e M
 refine sif_r (fun hc => ?_) (fun hc => ?_)
 ·simp only [decide_eq_true_eq] at hc
  have e0 : at_.toNat = 0 := by omega
  have := hK w (Ext.refl w)
  rw [e0, nb_zero] at this
  exact this
 simp only [decide_eq_false_iff_not] at hc
 obtain ⟨n, rfl⟩ : ∃ n : Nat, at_ = (n : Int) := ⟨at_.toNat, by omega⟩
 rw [Int.toNat_natCast] at hK
 refine len_call h fun w1 e1 => sif_r (fun hg => ?_) (fun hg => ?_)
 ·simp only [decide_eq_true_eq, ge_iff_le] at hg
  obtain ⟨t, ht, hi, hf, rd⟩ := h.tree
  refine rd e1 (tsum_call (ht.ext e1) fun w2 e2 => ?_)
  have := hK w2 (e1.trans e2)
  rw [nb_ge _ _ (by omega), ← msr_breaks hpos, ← hi.tot] at this
  exact this
 simp only [decide_eq_false_iff_not, ge_iff_le] at hg
 have hb : (msr ((aOf e M).take n)).breaks = nb (atoms (aOf e M)) n + (if split13 (atoms (aOf e M)) n then 1 else 0) := by rw [msr_breaks (hpos.take n), atoms_take, brs_take]
 have hsp := cr_split hpos (n := n) (by omega) (by omega)
 have hnl := nb_le (atoms (aOf e M)) n
 refine ahead_call (h.ext e1) (by omega) fun w2 e2 => (St.start w2).newO fun b w3 S3 e3 => S3.aggSt 0 rfl rfl rfl rfl fun w4 S4 u4 => ?_
 have e04 := (e1.trans e2).trans S4.upd
 refine join_r (fun x w' => x = (split13 (atoms (aOf e M)) n, ()) ∧ St (fun _ => False) w2 w' [(b, .cells (Cells.vals c91 (smT (msr ((aOf e M).take n)))).toArray 91 (0, 0))]) ?_ ?_
 ·refine S4.ld 0 rfl (x := (msr ((aOf e M).take n)).cr) rfl (sif_r (fun hr => ?_) (fun hr => ?_))
  ·have ew : IntKind.wrap .i64 ((n : Int) + 1) = (n : Int) + 1 := wrap64 (by omega) (by omega)
   rw [ew]
   refine atoms_call (h.ext e04) fun s w5 o5 e5 => ?_
   obtain ⟨a, ha⟩ : ∃ a, (atoms (aOf e M))[n]? = some a := ⟨_, List.getElem?_eq_getElem (by omega)⟩
   rw [sub_one, take_one ha] at o5
   refine ix_ld (c := .int .i64) (xs := [a]) o5.in (by decide) (x := a) rfl fun p => ⟨?_, S4.ext e5⟩
   rw [hsp, hr, ha]
   rfl
  ·refine ⟨?_, S4⟩
   rw [hsp, hr]; rfl
 ·rintro _ w5 ⟨rfl, S5⟩
  have e05 := (e1.trans e2).trans S5.upd
  refine sif_r (fun hr => S5.ld 0 rfl (x := (((msr ((aOf e M).take n)).breaks : Nat) : Int)) rfl ?_) (fun hr => S5.ld 0 rfl (x := (((msr ((aOf e M).take n)).breaks : Nat) : Int)) rfl ?_)
  ·have hr' : split13 (atoms (aOf e M)) n = true := hr
   rw [hb, hr', wrap64 (by simp only [if_true]; omega) (by simp only [if_true]; omega)]
   have : ((nb (atoms (aOf e M)) n + (if true = true then 1 else 0) : Nat) : Int) - 1 = ((nb (atoms (aOf e M)) n : Nat) : Int) := by simp
   rw [this]; exact hK w5 e05
  ·have hr' : split13 (atoms (aOf e M)) n = false := hr
   rw [hb, hr']
   exact hK w5 e05
theorem least (P : Nat → Prop) [DecidablePred P] : ∀ n, P n → ∃ j, j ≤ n ∧ P j ∧ ∀ i, i < j → ¬ P i := by
 intro n
 induction n using Nat.strongRecOn with
 | ind n ih =>
  intro hn
  by_cases h : ∃ i, i < n ∧ P i
  ·obtain ⟨i, hi, hp⟩ := h
   obtain ⟨j, h1, h2, h3⟩ := ih i hi hp
   exact ⟨j, by omega, h2, h3⟩
  ·exact ⟨n, Nat.le_refl _, hn, fun i hi hp => h ⟨i, hi, hp⟩⟩
theorem brk_mono {l m : As} (h : Posd l) (h' : Posd m) : (msr l).breaks ≤ (msr (l ++ m)).breaks := by
 rw [msr_append h h']
 exact keyOf_mono (k := 1) (msr_ok h) (msr_ok h')
theorem brk_take_mono {L : As} (h : Posd L) {i j : Nat} (hij : i ≤ j) : (msr (L.take i)).breaks ≤ (msr (L.take j)).breaks := by
 obtain ⟨d, rfl⟩ : ∃ d, j = i + d := ⟨j - i, by omega⟩
 rw [List.take_add]
 exact brk_mono (h.take i) ((h.drop i).take d)
def skI (A : List Int) (k : Int) : Int := if k < 0 then -1 else match sk A k.toNat with | some m => (m : Int) | none => -1
set_option maxHeartbeats 1000000 in
theorem seek_call {k : Int} (h : Txt w p e lim na O M) {K : Int → World → Prop} (hK : ∀ w', Ext w w' → K (skI (atoms (aOf e M)) k) w') :
  callT Tryz.prog 66 #[.pointer (some (at0 p)), .int .i64 k] (.one (.one (.int .i64))) K w := by
 refine F66_calls ?_
 unfold F66
 have few := h.few; have lims := h.lims; have hsz := h.sz
 have hal : (atoms (aOf e M)).length = (aOf e M).length := List.length_map _
 have hpos := aOf_posd e M
 obtain ⟨t, ht, hi, hf, rd⟩ := h.tree
 refine sif_r (fun hc => ?_) (fun hc => ?_)
 ·simp only [beq_iff_eq] at hc
  subst hc
  have := hK w (Ext.refl w)
  unfold skI at this
  have e0 : sk (atoms (aOf e M)) 0 = some 0 := by cases atoms (aOf e M) <;> rfl
  rw [if_neg (by decide), show (0 : Int).toNat = 0 by rfl, e0] at this
  exact this
 simp only [beq_eq_false_iff_ne] at hc
 have htb : (tot t.items).breaks = brs (atoms (aOf e M)) := by rw [hi.tot, msr_breaks hpos]
 refine join_r (fun x w' => x = (decide (k < 0) || decide (((brs (atoms (aOf e M)) : Nat) : Int) < k), ()) ∧ Ext w w') ?_ ?_
 ·refine sif_r (fun hn => ⟨by rw [hn]; rfl, Ext.refl w⟩) (fun hn => rd (Ext.refl w) (tsum_call ht fun w1 e1 => ⟨?_, e1⟩))
  rw [hn, Bool.false_or, ← htb]; rfl
 rintro _ w1 ⟨rfl, e1⟩
 refine sif_r (fun hb => ?_) (fun hb => ?_)
 ·have := hK w1 e1
  simp only [Bool.or_eq_true, decide_eq_true_eq] at hb
  unfold skI at this
  by_cases hn : k < 0
  ·rw [if_pos hn] at this; exact this
  ·rw [if_neg hn, sk_none _ _ (by omega)] at this; exact this
 simp only [Bool.or_eq_false_iff, decide_eq_false_iff_not] at hb
 obtain ⟨n, rfl⟩ : ∃ n : Nat, k = (n : Int) := ⟨k.toNat, by omega⟩
 have hn1 : 1 ≤ n := by omega
 have hnb : n ≤ brs (atoms (aOf e M)) := by omega
 have il := hi.len; have fl := hf.few
 have kk : ∀ j, keyOf 1 (tot (t.items.take j)) = (msr (aOf e (M.take j))).breaks := fun j => by
  have := (hi.take j).tot
  show (tot (t.items.take j)).breaks = _
  rw [this]
 obtain ⟨j, hjl, hj1, hj0⟩ := least (fun j => n ≤ keyOf 1 (tot (t.items.take j))) t.items.length (by
  show n ≤ keyOf 1 (tot (t.items.take t.items.length))
  rw [kk, il, List.take_length, msr_breaks hpos]; exact hnb)
 obtain ⟨i, rfl⟩ : ∃ i, j = i + 1 := by
  cases j with
  | zero =>
   have hj1' : n ≤ keyOf 1 (tot (t.items.take 0)) := hj1
   rw [kk, List.take_zero, msr_breaks (aOf_posd e _)] at hj1'
   exact absurd hj1' (by simp [aOf, brs]; omega)
  | succ i => exact ⟨i, rfl⟩
 have hfind : findI 1 n t.items = i + 1 := findI_eq hjl hj1 fun j hj => by have := hj0 j hj; omega
 have hlow : (msr (aOf e (M.take i))).breaks < n := by have := hj0 i (by omega); simp only [kk] at this; omega
 have hhigh : n ≤ (msr (aOf e (M.take (i + 1)))).breaks := by have h2 : n ≤ keyOf 1 (tot (t.items.take (i + 1))) := hj1; rw [kk] at h2; exact h2
 obtain ⟨x, hx⟩ : ∃ x, t.items[i]? = some x := ⟨_, List.getElem?_eq_getElem (by omega)⟩
 obtain ⟨y, hy, hp⟩ := hi.get i hx
 have hM1 : aOf e (M.take (i + 1)) = aOf e (M.take i) ++ ats e y.2 := by
  rw [List.take_add_one, hy, aOf_app]
  show _ ++ aOf e [y] = _
  simp [aOf]
 have hMA : aOf e M = aOf e (M.take (i + 1)) ++ aOf e (M.drop (i + 1)) := by rw [← aOf_app, List.take_append_drop]
 have htkq : ∀ q, q ≤ (ats e y.2).length → (aOf e M).take ((aOf e (M.take i)).length + q) = aOf e (M.take i) ++ (ats e y.2).take q := fun q hq => by
  rw [hMA, hM1, List.append_assoc, List.take_length_add_append, List.take_append_of_le_length hq]
 have hpi := aOf_posd e (M.take i)
 have hpy := ats_posd e y.2
 have hszs : szs (aOf e (M.take i)) + y.2.length ≤ 1048576 := by
  have := congrArg szs hMA
  rw [szs_append, hM1, szs_append, szs_all] at this; omega
 refine rd e1 (find_call (k := 1) (n := n) (by decide) (by omega) (ht.ext e1) hf fun w2 e2 => ?_)
 have ew : IntKind.wrap .i64 (((i + 1 : Nat) : Int) - 1) = (i : Int) := by rw [wrap64 (by omega) (by omega)]; omega
 rw [hfind, ew]
 have e12 := e1.trans e2
 refine rd e12 (upto_call (ht.ext e12) hf (by omega) fun w3 e3 => ?_)
 have e13 := e12.trans e3
 have etk : tot (t.items.take i) = msr (aOf e (M.take i)) := (hi.take i).tot
 rw [etk]
 refine (St.start w3).newO fun b12 w4 S4 e4 => S4.aggSt 0 rfl rfl rfl rfl fun w5 S5 u5 => ?_
 refine rd (e13.trans S5.upd) (at_call (ht.ext (e13.trans S5.upd)) hf (by omega) fun w6 e6 => ?_)
 have e0 : atI t.items i = (x, true) := by unfold atI; rw [hx]
 rw [e0]
 refine (S5.ext e6).newO fun b16 w7 S7 e7 => S7.aggSt 0 rfl rfl rfl rfl fun w8 S8 u8 => ?_
 let Ls : Nat → List (Nat × Obj) := fun q => [(b16, .cells (Cells.vals c93 (pcT x)).toArray 93 (0, 0)), (b12, .cells (Cells.vals c91 (smT (msr (aOf e (M.take i) ++ (ats e y.2).take q)))).toArray 91 (0, 0))]
 have S8' : St (fun _ => False) w3 w8 (Ls 0) := by show St _ _ _ [_, _]; rw [List.take_zero, List.append_nil]; exact S8
 refine join_r (fun _ w' => ∃ q, q ≤ (ats e y.2).length ∧ n ≤ (msr (aOf e (M.take i) ++ (ats e y.2).take q)).breaks ∧ (∀ j, j < (aOf e (M.take i)).length + q → (msr ((aOf e M).take j)).breaks < n) ∧ St (fun _ => False) w3 w' (Ls q)) ?_ ?_
 ·refine sloop_r (fun s w' => ∃ q, q ≤ (ats e y.2).length ∧ s = (((szs ((ats e y.2).take q) : Nat) : Int), ()) ∧ (∀ j, j < (aOf e (M.take i)).length + q → (msr ((aOf e M).take j)).breaks < n) ∧ St (fun _ => False) w3 w' (Ls q)) (fun s _ => ((y.2.length : Int) - s.1).toNat) ⟨0, Nat.zero_le _, rfl, fun j hj => ?_, S8'⟩ ?_
  ·have h1 := brk_take_mono hpos (i := j) (j := (aOf e (M.take i)).length + 0) (by omega)
   rw [htkq 0 (Nat.zero_le _), List.take_zero, List.append_nil] at h1
   omega
  rintro _ w9 ⟨q, hq, rfl, hlt, S9⟩
  have hbl := hp.by_.len
  have hsy : szs ((ats e y.2).take q) ≤ y.2.length := pos_le q
  refine join_r (fun s w' => s = (decide (szs ((ats e y.2).take q) < y.2.length) && decide ((msr (aOf e (M.take i) ++ (ats e y.2).take q)).breaks < n), ()) ∧ w9 = w') ?_ ?_
  ·refine S9.ld 0 rfl (x := x.bytes) rfl (sif_r (fun hc => S9.ld 1 rfl (x := (((msr (aOf e (M.take i) ++ (ats e y.2).take q)).breaks : Nat) : Int)) rfl ⟨tupb ?_, rfl⟩) (fun hc => ⟨tupb ?_, rfl⟩))
   ·simp only [decide_eq_true_eq, Bool.and_eq_true] at hc ⊢; omega
   ·simp only [decide_eq_false_iff_not, Bool.and_eq_true, decide_eq_true_eq] at hc ⊢
    constructor
    ·intro h; cases h
    ·intro h; omega
  rintro _ w10 ⟨rfl, rfl⟩
  refine sif_r (fun hc => ?_) (fun hc => ?_)
  ·simp only [Bool.and_eq_true, decide_eq_true_eq] at hc
   obtain ⟨a, m, hqa, hnx, htk, hss, hm1, hsl⟩ := pos_step (e := e) (l := y.2) (j := q) hc.1
   have hql : q < (ats e y.2).length := (List.getElem?_eq_some_iff.1 hqa).1
   refine S9.drew fun w11 S11 e11 _ => ((h.ext e13).ext S11.upd).enc (S11.ld 0 rfl (x := x.bytes) rfl (next_call ((hp.by_.ext e13).ext S11.upd) hc.1 fun w12 e12 => ?_))
   rw [hnx]
   have S12 := S11.ext e12
   have pq := hpi.app (hpy.take q)
   refine S12.drew fun w13 S13 e13' _ => S13.lds 1 (smT _) rfl (single_call fun w14 e14 => ?_)
   have S14 := S13.ext e14
   refine S14.keeps 1 rfl (add_call (msr_ok pq) (one1_ok a hm1) ?_ fun w15 e15 => ?_)
   ·rw [msr_bytes pq, szs_append]
    show szs (aOf e (M.take i)) + szs ((ats e y.2).take q) + m < 2 ^ 60
    omega
   have S15 := S14.ext e15
   rw [← msr_snoc pq hm1, List.append_assoc, ← htk]
   refine S15.aggSt 1 rfl rfl rfl rfl fun w16 S16 u16 => ?_
   have ewa : IntKind.wrap .i64 (((szs ((ats e y.2).take q) : Nat) : Int) + (m : Int)) = ((szs ((ats e y.2).take (q + 1)) : Nat) : Int) := by
    rw [wrap64 (by omega) (by omega)]; omega
   refine ⟨⟨q + 1, by omega, by dsimp only; rw [ewa], fun j hj => ?_, S16⟩, ?_⟩
   ·by_cases hjq : j < (aOf e (M.take i)).length + q
    ·exact hlt j hjq
    ·have : j = (aOf e (M.take i)).length + q := by omega
     subst this
     rw [htkq q (by omega)]; exact hc.2
   ·dsimp only
    rw [ewa]; omega
  ·refine ⟨q, hq, ?_, hlt, S9⟩
   by_cases hb : (msr (aOf e (M.take i) ++ (ats e y.2).take q)).breaks < n
   ·have hnl : ¬ szs ((ats e y.2).take q) < y.2.length := fun h2 => by simp [h2, hb] at hc
    rw [pos_end hnl, ← hM1]; exact hhigh
   ·omega
 ·rintro _ w9 ⟨q, hq, hge, hlt, S9⟩
  have hatoms : (msr (aOf e (M.take i) ++ (ats e y.2).take q)).atoms = (aOf e (M.take i)).length + q := by
   rw [msr_atoms (hpi.app (hpy.take q)), List.length_append, List.length_take]; omega
  have htk := htkq q hq
  have hmle : (aOf e (M.take i)).length + q ≤ (aOf e M).length := by
   have := congrArg List.length hMA
   rw [List.length_append, hM1, List.length_append] at this; omega
  rw [← htk] at hge hatoms
  have S9' : St (fun _ => False) w3 w9 [(b16, .cells (Cells.vals c93 (pcT x)).toArray 93 (0, 0)), (b12, .cells (Cells.vals c91 (smT (msr ((aOf e M).take ((aOf e (M.take i)).length + q))))).toArray 91 (0, 0))] := by rw [htk]; exact S9
  generalize hm : (aOf e (M.take i)).length + q = m at *
  have hm0 : 0 < m := by
   rcases Nat.eq_zero_or_pos m with h0 | h0
   ·subst h0; rw [List.take_zero] at hge
    have : (msr []).breaks = 0 := rfl
    omega
   ·exact h0
  have hres : sk (atoms (aOf e M)) n = some (if split13 (atoms (aOf e M)) m then m + 1 else m) := by
   refine sk_of _ n m hn1 (by omega) ?_ fun j hj => ?_
   ·rw [← atoms_take, ← msr_breaks (hpos.take m)]; exact hge
   ·rw [← atoms_take, ← msr_breaks (hpos.take j)]; exact hlt j hj
  have hsp := cr_split hpos (n := m) hm0 (by omega)
  have hres2 : skI (atoms (aOf e M)) (n : Int) = if split13 (atoms (aOf e M)) m then (m : Int) + 1 else (m : Int) := by
   unfold skI
   rw [if_neg (by omega), Int.toNat_natCast, hres]
   dsimp only
   split <;> omega
  rw [hres2] at hK
  have ea : ∀ {P : Int → World → Prop} {W : World}, P (m : Int) W → P (((msr ((aOf e M).take m)).atoms : Nat) : Int) W := by
   intro P W hP; rw [hatoms]; exact hP
  refine S9'.ld 1 rfl (x := (((msr ((aOf e M).take m)).atoms : Nat) : Int)) rfl (S9'.ld 1 rfl (x := (((msr ((aOf e M).take m)).atoms : Nat) : Int)) rfl ?_)
  rw [hatoms]
  have ew1 : IntKind.wrap .i64 ((m : Int) + 1) = (m : Int) + 1 := wrap64 (by omega) (by omega)
  rw [ew1]
  refine atoms_call ((h.ext e13).ext S9'.upd) fun s w10 o10 e10 => ?_
  have S10 := S9'.ext e10
  rw [sub_one] at o10
  refine join_r (fun x w' => x = (split13 (atoms (aOf e M)) m, ()) ∧ w10 = w') ?_ ?_
  ·refine S10.ld 1 rfl (x := (msr ((aOf e M).take m)).cr) rfl (sif_r (fun hr => ?_) (fun hr => ?_))
   ·rw [hsp, hr, Bool.true_and]
    cases ha : (atoms (aOf e M))[m]? with
    | none =>
     rw [take_none ha] at o10
     have hl := o10.len1
     refine sif_r (fun hc => ?_) (fun hc => ⟨rfl, rfl⟩)
     simp only [beq_iff_eq] at hc
     simp at hl; omega
    | some a =>
     rw [take_one ha] at o10
     have hl := o10.len1
     refine sif_r (fun hc => ix_ld (c := .int .i64) (xs := [a]) o10.in (by decide) (x := a) rfl fun p => ⟨rfl, rfl⟩) (fun hc => ?_)
     simp only [beq_eq_false_iff_ne] at hc
     simp at hl; omega
   ·rw [hsp, hr]; exact ⟨rfl, rfl⟩
  rintro _ w11 ⟨rfl, rfl⟩
  have e0 := (e13.trans S10.upd)
  refine sif_r (fun hr => S10.ld 1 rfl (x := (((msr ((aOf e M).take m)).atoms : Nat) : Int)) rfl ?_) (fun hr => S10.ld 1 rfl (x := (((msr ((aOf e M).take m)).atoms : Nat) : Int)) rfl ?_)
  ·rw [hatoms, ew1]
   have := hK w10 e0
   rw [if_pos hr] at this
   exact this
  ·rw [hatoms]
   have := hK w10 e0
   have hr' : split13 (atoms (aOf e M)) m = false := hr
   rw [if_neg (by rw [hr']; decide)] at this
   exact this
end
end Go.Proofs.YtolhlldgnfbemaaGreat
namespace Go.Proofs.YtolhlldgnfbemaaGreat
open Go Go.Vx
noncomputable def F12 (a0 : Option Addr) (a1 : Int) (a2 : Bool) (K : Int → World → Prop) : World → Prop :=
 callT Tryz.prog 36 #[(.pointer a0), (.int .i64 a1), (.bool a2)] (.one (.agg c72)) fun (x1 : (Int × Int × Int × Int × Int × Sl × Sl × Unit)) =>
 newO (.cells #[(.int .i64 (0 : Int)), (.int .i64 (0 : Int)), (.int .i64 (0 : Int)), (.int .i64 (0 : Int)), (.int .i64 (0 : Int)), (.slice none 0 0), (.slice none 0 0)] 72) fun b2 =>
 aggSt (at0 b2) (.agg (Cells.vals c72 x1).toArray) 7 <|
 callT Tryz.prog 37 #[(.pointer a0)] (.one (.one (.int .i64))) fun (x3 : Int) =>
 ld (.int .i64) (⟨b2, 1, none⟩ : Addr) fun (x4 : Int) =>
 sif (decide ((if x3 < (if (0 : Int) > a1 then (0 : Int) else a1) then x3 else (if (0 : Int) > a1 then (0 : Int) else a1)) ≥ x4)) (
 sif a2 (
 ld (.int .i64) (⟨b2, 1, none⟩ : Addr) fun (x5 : Int) =>
 K x5) (
 drew <|
 lds c72 (at0 b2) fun (x6 : (Int × Int × Int × Int × Int × Sl × Sl × Unit)) =>
 lds c72 (at0 b2) fun (x7 : (Int × Int × Int × Int × Int × Sl × Sl × Unit)) =>
 callT Tryz.prog 39 #[(.agg (Cells.vals c72 x7).toArray)] (.one (.one (.int .i64))) fun (x8 : Int) =>
 keep (fun w => cellsAt w (at0 b2) 0 (Cells.vals c72 x6)) <|
 callT Tryz.prog 38 #[(.agg (Cells.vals c72 x6).toArray), (.int .i64 (IntKind.wrap .i64 (x8 - (1 : Int))))] (.one (.one (.int .i64))) fun (x9 : Int) =>
 K x9)) (
 drew <|
 lds c72 (at0 b2) fun (x10 : (Int × Int × Int × Int × Int × Sl × Sl × Unit)) =>
 lds c72 (at0 b2) fun (x11 : (Int × Int × Int × Int × Int × Sl × Sl × Unit)) =>
 callT Tryz.prog 40 #[(.agg (Cells.vals c72 x11).toArray), (.int .i64 (if x3 < (if (0 : Int) > a1 then (0 : Int) else a1) then x3 else (if (0 : Int) > a1 then (0 : Int) else a1)))] (.one (.one (.int .i64))) fun (x12 : Int) =>
 keep (fun w => cellsAt w (at0 b2) 0 (Cells.vals c72 x10)) <|
 callT Tryz.prog 38 #[(.agg (Cells.vals c72 x10).toArray), (.int .i64 x12)] (.one (.one (.int .i64))) fun (x13 : Int) =>
 K x13)
noncomputable def h12 : Hint := (hS (hR 1) (hS (hR 6) (hS (hR 6) (hS (hS (hR 5) (hC (hS (hS (hR 1) (hC (hS (hR 4) hL) hL)) (hS (.region [0, 1, 2, 3, 4, 5] (hO 6)) hL)) hL)) (hS (.region [0, 1, 2, 3, 4, 5] (hO 6)) hL)))))
theorem F12_calls {a0 : Option Addr} {a1 : Int} {a2 : Bool} {K : Int → World → Prop} {w : World} (h : F12 a0 a1 a2 K w) : callT Tryz.prog 12 #[(.pointer a0), (.int .i64 a1), (.bool a2)] (.one (.one (.int .i64))) K w := tied tabOk Tryz.func12 h12 [(.pointer a0), (.int .i64 a1), (.bool a2)] h
noncomputable def F16 (a0 : Option Addr) (a1 : Int) (a2 : (Int × Int × Int × Unit)) (a3 : Bool) (K : ((Int × Int × Int × Unit) × Int × Unit) → World → Prop) : World → Prop :=
 newO (.cells #[(.int .i64 a2.1), (.int .i64 a2.2.1), (.int .i64 a2.2.2.1)] 31) fun b1 =>
 newO (.cells #[(.int .i64 (0 : Int)), (.int .i64 (0 : Int)), (.int .i64 (0 : Int))] 43) fun b2 =>
 lds c31 (at0 b1) fun (x3 : (Int × Int × Int × Unit)) =>
 callT Tryz.prog 45 #[(.func (.func 46) #[] #[]), (.pointer a0), (.int .i64 a1), (.int .i64 (0 : Int)), (.agg (Cells.vals c31 x3).toArray), (.bool a3)] (.tup [(.agg c43), (.one (.int .i64))]) fun (x4 : ((Int × Int × Int × Unit) × Int × Unit)) =>
 aggSt (at0 b2) (.agg (Cells.vals c43 x4.1).toArray) 3 <|
 lds c43 (at0 b2) fun (x5 : (Int × Int × Int × Unit)) =>
 K (x5, x4.2.1, ())
noncomputable def h16 : Hint := (hS (hR 3) (hS (hR 9) hL))
theorem F16_calls {a0 : Option Addr} {a1 : Int} {a2 : (Int × Int × Int × Unit)} {a3 : Bool} {K : ((Int × Int × Int × Unit) × Int × Unit) → World → Prop} {w : World} (h : F16 a0 a1 a2 a3 K w) : callT Tryz.prog 16 #[(.pointer a0), (.int .i64 a1), (.agg (Cells.vals c31 a2).toArray), (.bool a3)] (.tup [(.agg c43), (.one (.int .i64))]) K w := tied tabOk Tryz.func16 h16 [(.pointer a0), (.int .i64 a1), (.agg (Cells.vals c31 a2).toArray), (.bool a3)] h
noncomputable def F19 (a0 : Option Addr) (K : Int → World → Prop) : World → Prop :=
 callT Tryz.prog 37 #[(.pointer a0)] (.one (.one (.int .i64))) fun (x1 : Int) =>
 callT Tryz.prog 50 #[(.pointer a0), (.int .i64 x1)] (.one (.one (.int .i64))) fun (x2 : Int) =>
 join (S := Int × Unit) (fun J3 =>
 callT Tryz.prog 51 #[(.pointer a0)] (.one (.one .bool)) fun (x5 : Bool) =>
 sif (!x5) (
 J3 ((IntKind.wrap .i64 (x2 + (1 : Int))), ())) (
 J3 (x2, ()))) fun (s4 : Int × Unit) =>
 K s4.1
noncomputable def h19 : Hint := (hS (hR 1) (hS (hR 5) (hJ (7944, [(3, tI)]) (hS (hR 3) (hC (hR 3) hL)) (hS (hR 2) hL))))
theorem F19_calls {a0 : Option Addr} {K : Int → World → Prop} {w : World} (h : F19 a0 K w) : callT Tryz.prog 19 #[(.pointer a0)] (.one (.one (.int .i64))) K w := tied tabOk Tryz.func19 h19 [(.pointer a0)] h
noncomputable def F20 (a0 : Option Addr) (a1 : Int) (K : Int → World → Prop) : World → Prop :=
 callT Tryz.prog 37 #[(.pointer a0)] (.one (.one (.int .i64))) fun (x1 : Int) =>
 callT Tryz.prog 50 #[(.pointer a0), (.int .i64 (if x1 < (if (0 : Int) > a1 then (0 : Int) else a1) then x1 else (if (0 : Int) > a1 then (0 : Int) else a1)))] (.one (.one (.int .i64))) fun (x2 : Int) =>
 K x2
noncomputable def h20 : Hint := (hS (hR 1) (hS (hR 8) hL))
theorem F20_calls {a0 : Option Addr} {a1 : Int} {K : Int → World → Prop} {w : World} (h : F20 a0 a1 K w) : callT Tryz.prog 20 #[(.pointer a0), (.int .i64 a1)] (.one (.one (.int .i64))) K w := tied tabOk Tryz.func20 h20 [(.pointer a0), (.int .i64 a1)] h
noncomputable def F21 (a0 : Option Addr) (a1 : Int) (K : Int → World → Prop) : World → Prop :=
 callT Tryz.prog 36 #[(.pointer a0), (.int .i64 a1), (.bool true)] (.one (.agg c72)) fun (x1 : (Int × Int × Int × Int × Int × Sl × Sl × Unit)) =>
 newO (.cells #[(.int .i64 (0 : Int)), (.int .i64 (0 : Int)), (.int .i64 (0 : Int)), (.int .i64 (0 : Int)), (.int .i64 (0 : Int)), (.slice none 0 0), (.slice none 0 0)] 72) fun b2 =>
 aggSt (at0 b2) (.agg (Cells.vals c72 x1).toArray) 7 <|
 lds c72 (at0 b2) fun (x3 : (Int × Int × Int × Int × Int × Sl × Sl × Unit)) =>
 callT Tryz.prog 40 #[(.agg (Cells.vals c72 x3).toArray), (.int .i64 a1)] (.one (.one (.int .i64))) fun (x4 : Int) =>
 K x4
noncomputable def h21 : Hint := (hS (hR 1) (hS (hR 5) (hS (hR 4) hL)))
theorem F21_calls {a0 : Option Addr} {a1 : Int} {K : Int → World → Prop} {w : World} (h : F21 a0 a1 K w) : callT Tryz.prog 21 #[(.pointer a0), (.int .i64 a1)] (.one (.one (.int .i64))) K w := tied tabOk Tryz.func21 h21 [(.pointer a0), (.int .i64 a1)] h
noncomputable def F36 (a0 : Option Addr) (a1 : Int) (a2 : Bool) (K : (Int × Int × Int × Int × Int × Sl × Sl × Unit) → World → Prop) : World → Prop :=
 newO (.cells #[(.int .i64 (0 : Int)), (.int .i64 (0 : Int)), (.int .i64 (0 : Int)), (.int .i64 (0 : Int)), (.int .i64 (0 : Int)), (.slice none 0 0), (.slice none 0 0)] 72) fun b1 =>
 callT Tryz.prog 20 #[(.pointer a0), (.int .i64 a1)] (.one (.one (.int .i64))) fun (x2 : Int) =>
 join (S := Int × Unit) (fun J3 =>
 sif (!a2) (
 callT Tryz.prog 19 #[(.pointer a0)] (.one (.one (.int .i64))) fun (x5 : Int) =>
 J3 ((if (IntKind.wrap .i64 (x5 - (1 : Int))) < x2 then (IntKind.wrap .i64 (x5 - (1 : Int))) else x2), ())) (
 J3 (x2, ()))) fun (s4 : Int × Unit) =>
 callT Tryz.prog 61 #[(.pointer a0), (.int .i64 s4.1)] (.one (.agg c72)) fun (x6 : (Int × Int × Int × Int × Int × Sl × Sl × Unit)) =>
 aggSt (at0 b1) (.agg (Cells.vals c72 x6).toArray) 7 <|
 lds c72 (at0 b1) fun (x7 : (Int × Int × Int × Int × Int × Sl × Sl × Unit)) =>
 K x7
noncomputable def h36 : Hint := (hS (hR 1) (hS (hR 4) (hJ (260224, [(7, tI)]) (hS (hR 2) (hC (hR 6) hL)) (hS (hR 4) hL))))
theorem F36_calls {a0 : Option Addr} {a1 : Int} {a2 : Bool} {K : (Int × Int × Int × Int × Int × Sl × Sl × Unit) → World → Prop} {w : World} (h : F36 a0 a1 a2 K w) : callT Tryz.prog 36 #[(.pointer a0), (.int .i64 a1), (.bool a2)] (.one (.agg c72)) K w := tied tabOk Tryz.func36 h36 [(.pointer a0), (.int .i64 a1), (.bool a2)] h
noncomputable def F38 (a0 : (Int × Int × Int × Int × Int × Sl × Sl × Unit)) (a1 : Int) (K : Int → World → Prop) : World → Prop :=
 newO (.cells #[(.int .i64 a0.1), (.int .i64 a0.2.1), (.int .i64 a0.2.2.1), (.int .i64 a0.2.2.2.1), (.int .i64 a0.2.2.2.2.1), (.slice a0.2.2.2.2.2.1.a a0.2.2.2.2.2.1.len a0.2.2.2.2.2.1.cap), (.slice a0.2.2.2.2.2.2.1.a a0.2.2.2.2.2.2.1.len a0.2.2.2.2.2.2.1.cap)] 72) fun b1 =>
 drew <|
 ld (.int .i64) (at0 b1) fun (x2 : Int) =>
 ld (.sl) (⟨b1, 6, none⟩ : Addr) fun (x3 : Sl) =>
 lds c72 (at0 b1) fun (x4 : (Int × Int × Int × Int × Int × Sl × Sl × Unit)) =>
 callT Tryz.prog 39 #[(.agg (Cells.vals c72 x4).toArray)] (.one (.one (.int .i64))) fun (x5 : Int) =>
 keep (fun w => w.cell? (⟨b1, 6, none⟩ : Addr) = some (Cell.val (.sl) x3)) <|
 keep (fun w => w.cell? (at0 b1) = some (Cell.val (.int .i64) x2)) <|
 ix x3.a x3.len (if x5 < (if (0 : Int) > a1 then (0 : Int) else a1) then x5 else (if (0 : Int) > a1 then (0 : Int) else a1)) fun p6 =>
 ld (.int .i64) (p6.add (scaled (Int.toNat (if x5 < (if (0 : Int) > a1 then (0 : Int) else a1) then x5 else (if (0 : Int) > a1 then (0 : Int) else a1))) 1)) fun (x7 : Int) =>
 K (IntKind.wrap .i64 (x2 + x7))
noncomputable def h38 : Hint := (hS (hR 2) (hS (.region [0, 1, 2, 3, 4, 5, 6, 7, 8, 9, 10, 11, 12, 13] (hO 14)) hL))
theorem F38_calls {a0 : (Int × Int × Int × Int × Int × Sl × Sl × Unit)} {a1 : Int} {K : Int → World → Prop} {w : World} (h : F38 a0 a1 K w) : callT Tryz.prog 38 #[(.agg (Cells.vals c72 a0).toArray), (.int .i64 a1)] (.one (.one (.int .i64))) K w := tied tabOk Tryz.func38 h38 [(.agg (Cells.vals c72 a0).toArray), (.int .i64 a1)] h
noncomputable def F39 (a0 : (Int × Int × Int × Int × Int × Sl × Sl × Unit)) (K : Int → World → Prop) : World → Prop :=
 newO (.cells #[(.int .i64 a0.1), (.int .i64 a0.2.1), (.int .i64 a0.2.2.1), (.int .i64 a0.2.2.2.1), (.int .i64 a0.2.2.2.2.1), (.slice a0.2.2.2.2.2.1.a a0.2.2.2.2.2.1.len a0.2.2.2.2.2.1.cap), (.slice a0.2.2.2.2.2.2.1.a a0.2.2.2.2.2.2.1.len a0.2.2.2.2.2.2.1.cap)] 72) fun b1 =>
 ld (.sl) (⟨b1, 6, none⟩ : Addr) fun (x2 : Sl) =>
 K (IntKind.wrap .i64 (((x2.len : Nat) : Int) - (1 : Int)))
noncomputable def h39 : Hint := (hS (hR 2) (hS (hR 5) hL))
theorem F39_calls {a0 : (Int × Int × Int × Int × Int × Sl × Sl × Unit)} {K : Int → World → Prop} {w : World} (h : F39 a0 K w) : callT Tryz.prog 39 #[(.agg (Cells.vals c72 a0).toArray)] (.one (.one (.int .i64))) K w := tied tabOk Tryz.func39 h39 [(.agg (Cells.vals c72 a0).toArray)] h
noncomputable def F40 (a0 : (Int × Int × Int × Int × Int × Sl × Sl × Unit)) (a1 : Int) (K : Int → World → Prop) : World → Prop :=
 newO (.cells #[(.int .i64 a0.1), (.int .i64 a0.2.1), (.int .i64 a0.2.2.1), (.int .i64 a0.2.2.2.1), (.int .i64 a0.2.2.2.2.1), (.slice a0.2.2.2.2.2.1.a a0.2.2.2.2.2.1.len a0.2.2.2.2.2.1.cap), (.slice a0.2.2.2.2.2.2.1.a a0.2.2.2.2.2.2.1.len a0.2.2.2.2.2.2.1.cap)] 72) fun b1 =>
 lds c72 (at0 b1) fun (x2 : (Int × Int × Int × Int × Int × Sl × Sl × Unit)) =>
 callT Tryz.prog 39 #[(.agg (Cells.vals c72 x2).toArray)] (.one (.one (.int .i64))) fun (x3 : Int) =>
 join (S := Int × Unit) (fun J4 =>
 sloop (S := Int × Int × Unit) (fun (s6 : Int × Int × Unit) again7 =>
 sif (decide (s6.1 < s6.2.1)) (
 chk ((2 : Int) ≠ 0) <|
 drew <|
 ld (.int .i64) (at0 b1) fun (x8 : Int) =>
 ld (.sl) (⟨b1, 6, none⟩ : Addr) fun (x9 : Sl) =>
 ix x9.a x9.len (IntKind.wrap .i64 (Int.tdiv (IntKind.wrap .i64 ((IntKind.wrap .i64 (s6.1 + s6.2.1)) + (1 : Int))) (2 : Int))) fun p10 =>
 ld (.int .i64) (p10.add (scaled (Int.toNat (IntKind.wrap .i64 (Int.tdiv (IntKind.wrap .i64 ((IntKind.wrap .i64 (s6.1 + s6.2.1)) + (1 : Int))) (2 : Int)))) 1)) fun (x11 : Int) =>
 sif (decide ((IntKind.wrap .i64 (x8 + x11)) ≤ a1)) (
 again7 ((IntKind.wrap .i64 (Int.tdiv (IntKind.wrap .i64 ((IntKind.wrap .i64 (s6.1 + s6.2.1)) + (1 : Int))) (2 : Int))), s6.2.1, ())) (
 again7 (s6.1, (IntKind.wrap .i64 ((IntKind.wrap .i64 (Int.tdiv (IntKind.wrap .i64 ((IntKind.wrap .i64 (s6.1 + s6.2.1)) + (1 : Int))) (2 : Int))) - (1 : Int))), ()))) (
 J4 (s6.1, ()))) ((0 : Int), x3, ())) fun (s5 : Int × Unit) =>
 K s5.1
noncomputable def h40 : Hint := (hS (hR 2) (hS (hR 4) (hJ (4294966496, [(5, tI)]) (.block (.loop 4294966496 [(5, tI), (6, tI)] (hS (hS (hR 3) (hC hL hL)) (.block (hS (hR 6) (hS (.region [0, 1, 2, 3, 4, 5, 6, 7, 8, 9, 10] (hO 11)) (hC (hR 2) (hR 3)))))))) (hS (hR 2) hL))))
theorem F40_calls {a0 : (Int × Int × Int × Int × Int × Sl × Sl × Unit)} {a1 : Int} {K : Int → World → Prop} {w : World} (h : F40 a0 a1 K w) : callT Tryz.prog 40 #[(.agg (Cells.vals c72 a0).toArray), (.int .i64 a1)] (.one (.one (.int .i64))) K w := tied tabOk Tryz.func40 h40 [(.agg (Cells.vals c72 a0).toArray), (.int .i64 a1)] h
noncomputable def F41 (a0 : Option Addr) (a1 : Int) (K : ((Int × Int × Int × Int × Unit) × Int × Unit) → World → Prop) : World → Prop :=
 newO (.cells #[(.int .i64 (0 : Int)), (.int .i64 (0 : Int)), (.int .i64 (0 : Int)), (.int .i64 (0 : Int))] 36) fun b1 =>
 sif (decide (a1 < (0 : Int))) (
 aggSt (at0 b1) (.agg #[(.int .i64 (0 : Int)), (.int .i64 (0 : Int)), (.int .i64 (0 : Int)), (.int .i64 (0 : Int))]) 4 <|
 lds c36 (at0 b1) fun (x2 : (Int × Int × Int × Int × Unit)) =>
 K (x2, (2 : Int), ())) (
 callT Tryz.prog 66 #[(.pointer a0), (.int .i64 a1)] (.one (.one (.int .i64))) fun (x3 : Int) =>
 sif (decide (x3 < (0 : Int))) (
 aggSt (at0 b1) (.agg #[(.int .i64 (0 : Int)), (.int .i64 (0 : Int)), (.int .i64 (0 : Int)), (.int .i64 (0 : Int))]) 4 <|
 lds c36 (at0 b1) fun (x4 : (Int × Int × Int × Int × Unit)) =>
 K (x4, (2 : Int), ())) (
 callT Tryz.prog 37 #[(.pointer a0)] (.one (.one (.int .i64))) fun (x5 : Int) =>
 callT Tryz.prog 50 #[(.pointer a0), (.int .i64 x5)] (.one (.one (.int .i64))) fun (x6 : Int) =>
 sif (decide (a1 < x6)) (
 callT Tryz.prog 66 #[(.pointer a0), (.int .i64 (IntKind.wrap .i64 (a1 + (1 : Int))))] (.one (.one (.int .i64))) fun (x7 : Int) =>
 callT Tryz.prog 67 #[(.pointer a0), (.int .i64 x3), (.int .i64 x7)] (.one (.agg c36)) fun (x8 : (Int × Int × Int × Int × Unit)) =>
 aggSt (at0 b1) (.agg (Cells.vals c36 x8).toArray) 4 <|
 lds c36 (at0 b1) fun (x9 : (Int × Int × Int × Int × Unit)) =>
 K (x9, (0 : Int), ())) (
 callT Tryz.prog 37 #[(.pointer a0)] (.one (.one (.int .i64))) fun (x10 : Int) =>
 callT Tryz.prog 37 #[(.pointer a0)] (.one (.one (.int .i64))) fun (x11 : Int) =>
 aggSt (at0 b1) (.agg #[(.int .i64 x3), (.int .i64 x10), (.int .i64 x11), (.int .i64 (0 : Int))]) 4 <|
 lds c36 (at0 b1) fun (x12 : (Int × Int × Int × Int × Unit)) =>
 K (x12, (0 : Int), ()))))
noncomputable def h41 : Hint := (hS (hR 2) (hS (hS (hR 2) (hC (hS (hR 3) hL) hL)) (hS (hR 4) (hS (hS (hR 2) (hC (hS (hR 3) hL) hL)) (hS (hS (hR 6) (hC (hS (hR 9) hL) hL)) (hS (hR 8) hL))))))
theorem F41_calls {a0 : Option Addr} {a1 : Int} {K : ((Int × Int × Int × Int × Unit) × Int × Unit) → World → Prop} {w : World} (h : F41 a0 a1 K w) : callT Tryz.prog 41 #[(.pointer a0), (.int .i64 a1)] (.tup [(.agg c36), (.one (.int .i64))]) K w := tied tabOk Tryz.func41 h41 [(.pointer a0), (.int .i64 a1)] h
noncomputable def F45 (a0 : Value) (a1 : Option Addr) (a2 : Int) (a3 : Int) (a4 : (Int × Int × Int × Unit)) (a5 : Bool) (K : ((Int × Int × Int × Unit) × Int × Unit) → World → Prop) : World → Prop :=
 newO (.cells #[(.int .i64 a4.1), (.int .i64 a4.2.1), (.int .i64 a4.2.2.1)] 31) fun b1 =>
 newO (.cells #[(.int .i64 (0 : Int)), (.int .i64 (0 : Int)), (.int .i64 (0 : Int))] 43) fun b2 =>
 ld (.int .i64) (at0 b1) fun (x3 : Int) =>
 callX Tryz.prog (do let d ← Deferred.ofValue a0 #[(.int .i64 x3)]; invoke d.target d.args : Sem Next) (.one (.one .any)) fun (x4 : Value) =>
 rdB Tryz.prog (do eqGuard .eql 111 (Operand.tmp 21) (Operand.const Value.nilFunc) x4 .nilFunc; binOp .eql 111 x4 .nilFunc : Sem Value) fun r5 =>
 sif r5 (
 aggSt (at0 b2) (.agg #[(.int .i64 (0 : Int)), (.int .i64 (0 : Int)), (.int .i64 (0 : Int))]) 3 <|
 lds c43 (at0 b2) fun (x6 : (Int × Int × Int × Unit)) =>
 K (x6, (1 : Int), ())) (
 callT Tryz.prog 12 #[(.pointer a1), (.int .i64 a2), (.bool a5)] (.one (.one (.int .i64))) fun (x7 : Int) =>
 drew <|
 ld (.int .i64) (⟨b1, 2, none⟩ : Addr) fun (x8 : Int) =>
 callT Tryz.prog 36 #[(.pointer a1), (.int .i64 x7), (.bool a5)] (.one (.agg c72)) fun (x9 : (Int × Int × Int × Int × Int × Sl × Sl × Unit)) =>
 keep (fun w => w.cell? (⟨b1, 2, none⟩ : Addr) = some (Cell.val (.int .i64) x8)) <|
 newO (.cells (Value.cells (.agg #[(.pointer a1), (.int .i64 x7), (.int .i64 (0 : Int)), (.int .i64 (1 : Int)), (.bool false), (.int .i64 x8), (.int .i64 (if (0 : Int) > a3 then (0 : Int) else a3)), (.bool a5), (.bool false), (.int .i64 x9.1), (.int .i64 x9.2.1), (.int .i64 x9.2.2.1), (.int .i64 x9.2.2.2.1), (.int .i64 x9.2.2.2.2.1), (.slice x9.2.2.2.2.2.1.a x9.2.2.2.2.2.1.len x9.2.2.2.2.2.1.cap), (.slice x9.2.2.2.2.2.2.1.a x9.2.2.2.2.2.2.1.len x9.2.2.2.2.2.2.1.cap)])) 114) fun b10 =>
 nn (some (at0 b10)) fun p11 =>
 lds c72 (p11.add 9) fun (x12 : (Int × Int × Int × Int × Int × Sl × Sl × Unit)) =>
 callT Tryz.prog 40 #[(.agg (Cells.vals c72 x12).toArray), (.int .i64 x7)] (.one (.one (.int .i64))) fun (x13 : Int) =>
 nn (some (at0 b10)) fun p14 =>
 stC (p14.add 2) (.int .i64 x13) <|
 join (S := Unit) (fun J15 =>
 ld (.int .i64) (at0 b1) fun (x17 : Int) =>
 sif (decide (x17 ≥ (25 : Int))) (
 ld (.int .i64) (at0 b1) fun (x18 : Int) =>
 sif (decide (x18 ≤ (28 : Int))) (
 nn (some (at0 b10)) fun p19 =>
 stC (p19.add 8) (.bool true) <|
 J15 ()) (
 ld (.int .i64) (at0 b1) fun (x20 : Int) =>
 nn (some (at0 b10)) fun p21 =>
 stC (p21.add 8) (.bool (x20 == (30 : Int))) <|
 J15 ())) (
 ld (.int .i64) (at0 b1) fun (x22 : Int) =>
 nn (some (at0 b10)) fun p23 =>
 stC (p23.add 8) (.bool (x22 == (30 : Int))) <|
 J15 ())) fun (s16 : Unit) =>
 join (S := Unit) (fun J24 =>
 ld (.int .i64) (⟨b1, 1, none⟩ : Addr) fun (x26 : Int) =>
 sif (decide (x26 > (0 : Int))) (
 ld (.int .i64) (⟨b1, 1, none⟩ : Addr) fun (x27 : Int) =>
 nn (some (at0 b10)) fun p28 =>
 stC (p28.add 3) (.int .i64 (if (9999 : Int) < x27 then (9999 : Int) else x27)) <|
 nn (some (at0 b10)) fun p29 =>
 stC (p29.add 4) (.bool true) <|
 J24 ()) (
 J24 ())) fun (s25 : Unit) =>
 callX Tryz.prog (do let d ← Deferred.ofValue x4 #[(.pointer (some (at0 b10)))]; invoke d.target d.args : Sem Next) (.tup [(.agg c43), (.one (.int .i64))]) fun (x30 : ((Int × Int × Int × Unit) × Int × Unit)) =>
 aggSt (at0 b2) (.agg (Cells.vals c43 x30.1).toArray) 3 <|
 lds c43 (at0 b2) fun (x31 : (Int × Int × Int × Unit)) =>
 K (x31, x30.2.1, ()))
noncomputable def h45 : Hint := (hS (hR 3) (hS (hR 5) (hS (hS (hR 2) (hC (hS (hR 3) hL) hL)) (hS (hR 5) (hS (.region [0, 1, 2, 3, 4, 5, 6, 7, 8, 9, 10, 11, 12, 13] (hO 14)) (hS (hR 10) (hJ (73785850394931363840, []) (.region [] (.ops 5 (.split 54 (.ops 5 (.split 59 (.skips 3 (hO 4)) (hO 7))) (.skips 3 (hO 9))))) (hJ (302157667927362455470080, []) (hS (hR 3) (hC (hR 11) hL)) (hS (hR 7) hL)))))))))
theorem F45_calls {a0 : Value} {a1 : Option Addr} {a2 : Int} {a3 : Int} {a4 : (Int × Int × Int × Unit)} {a5 : Bool} {K : ((Int × Int × Int × Unit) × Int × Unit) → World → Prop} {w : World} (h : F45 a0 a1 a2 a3 a4 a5 K w) : callT Tryz.prog 45 #[a0, (.pointer a1), (.int .i64 a2), (.int .i64 a3), (.agg (Cells.vals c31 a4).toArray), (.bool a5)] (.tup [(.agg c43), (.one (.int .i64))]) K w := tied tabOk Tryz.func45 h45 [a0, (.pointer a1), (.int .i64 a2), (.int .i64 a3), (.agg (Cells.vals c31 a4).toArray), (.bool a5)] h
noncomputable def F46 (a0 : Int) (K : Value → World → Prop) : World → Prop :=
 sif (a0 == (1 : Int)) (
 K (.func (.func 70) #[] #[])) (
 sif (a0 == (2 : Int)) (
 K (.func (.func 71) #[] #[])) (
 sif (a0 == (3 : Int)) (
 K (.func (.func 72) #[] #[])) (
 sif (a0 == (4 : Int)) (
 K (.func (.func 73) #[] #[])) (
 sif (a0 == (5 : Int)) (
 K (.func (.func 74) #[] #[])) (
 sif (a0 == (6 : Int)) (
 K (.func (.func 75) #[] #[])) (
 sif (a0 == (7 : Int)) (
 K (.func (.func 76) #[] #[])) (
 sif (a0 == (8 : Int)) (
 K (.func (.func 77) #[] #[])) (
 sif (a0 == (9 : Int)) (
 K (.func (.func 78) #[] #[])) (
 sif (a0 == (10 : Int)) (
 K (.func (.func 79) #[] #[])) (
 K .nilFunc))))))))))
noncomputable def h46 : Hint := (hS (hR 1) (hS (hS (hR 1) (.block (hS (hR 2) (hC (hS (hR 1) hL) (hS (hR 2) (hC (hS (hR 1) hL) (hS (hR 2) (hC (hS (hR 1) hL) (hS (hR 2) (hC (hS (hR 1) hL) (hS (hR 2) (hC (hS (hR 1) hL) (hS (hR 2) (hC (hS (hR 1) hL) (hS (hR 2) (hC (hS (hR 1) hL) (hS (hR 2) (hC (hS (hR 1) hL) (hS (hR 2) (hC (hS (hR 1) hL) (hS (hR 2) (hC (hS (hR 1) hL) hL)))))))))))))))))))))) (hS (hR 1) hL)))
theorem F46_calls {a0 : Int} {K : Value → World → Prop} {w : World} (h : F46 a0 K w) : callT Tryz.prog 46 #[(.int .i64 a0)] (.one (.one .any)) K w := tied tabOk Tryz.func46 h46 [(.int .i64 a0)] h
noncomputable def F51 (a0 : Option Addr) (K : Bool → World → Prop) : World → Prop :=
 callT Tryz.prog 37 #[(.pointer a0)] (.one (.one (.int .i64))) fun (x1 : Int) =>
 sif (decide (x1 > (0 : Int))) (
 callT Tryz.prog 50 #[(.pointer a0), (.int .i64 x1)] (.one (.one (.int .i64))) fun (x2 : Int) =>
 callT Tryz.prog 66 #[(.pointer a0), (.int .i64 x2)] (.one (.one (.int .i64))) fun (x3 : Int) =>
 K (x3 == x1)) (
 K false)
noncomputable def h51 : Hint := (hS (hR 1) (hS (hR 3) (hS (.region [] (.ops 3 (.split 8 (hO 9) (.skips 7 (hO 2))))) hL)))
theorem F51_calls {a0 : Option Addr} {K : Bool → World → Prop} {w : World} (h : F51 a0 K w) : callT Tryz.prog 51 #[(.pointer a0)] (.one (.one .bool)) K w := tied tabOk Tryz.func51 h51 [(.pointer a0)] h
noncomputable def F61 (a0 : Option Addr) (a1 : Int) (K : (Int × Int × Int × Int × Int × Sl × Sl × Unit) → World → Prop) : World → Prop :=
 newO (.cells #[(.int .i64 (0 : Int)), (.int .i64 (0 : Int)), (.int .i64 (0 : Int)), (.int .i64 (0 : Int)), (.int .i64 (0 : Int)), (.slice none 0 0), (.slice none 0 0)] 72) fun b1 =>
 callT Tryz.prog 41 #[(.pointer a0), (.int .i64 a1)] (.tup [(.agg c36), (.one (.int .i64))]) fun (x2 : ((Int × Int × Int × Int × Unit) × Int × Unit)) =>
 newO (.cells #[(.int .i64 (0 : Int)), (.int .i64 (0 : Int)), (.int .i64 (0 : Int)), (.int .i64 (0 : Int))] 36) fun b3 =>
 aggSt (at0 b3) (.agg (Cells.vals c36 x2.1).toArray) 4 <|
 join (S := Addr × Unit) (fun J4 =>
 drew <|
 lds c36 (at0 b3) fun (x6 : (Int × Int × Int × Int × Unit)) =>
 ld (.int .i64) (at0 b3) fun (x7 : Int) =>
 ld (.int .i64) (⟨b3, 1, none⟩ : Addr) fun (x8 : Int) =>
 both (
 newO (.cells #[(.int .i64 (0 : Int)), (.int .i64 (0 : Int)), (.int .i64 (0 : Int)), (.int .i64 (0 : Int)), (.int .i64 (0 : Int)), (.slice none 0 0), (.slice none 0 0)] 72) fun b9 =>
 keep (fun w => w.cell? (⟨b3, 1, none⟩ : Addr) = some (Cell.val (.int .i64) x8)) <|
 keep (fun w => w.cell? (at0 b3) = some (Cell.val (.int .i64) x7)) <|
 keep (fun w => cellsAt w (at0 b3) 0 (Cells.vals c36 x6)) <|
 callT Tryz.prog 25 #[(.pointer a0), (.int .i64 x7), (.int .i64 x8)] (.one (.one .sl)) fun (x10 : Sl) =>
 keep (fun w => cellsAt w (at0 b3) 0 (Cells.vals c36 x6)) <|
 aggSt (at0 b9) (.agg #[(.int .i64 x6.1), (.int .i64 x6.2.1), (.int .i64 x6.2.2.1), (.int .i64 x6.2.2.2.1), (.int .i64 a1), (.slice x10.a x10.len x10.cap), (.slice none 0 0)]) 7 <|
 J4 ((at0 b9), ())) <|
 callT Tryz.prog 25 #[(.pointer a0), (.int .i64 x7), (.int .i64 x8)] (.one (.one .sl)) fun (x11 : Sl) =>
 keep (fun w => cellsAt w (at0 b3) 0 (Cells.vals c36 x6)) <|
 both (
 newO (.cells #[(.int .i64 (0 : Int)), (.int .i64 (0 : Int)), (.int .i64 (0 : Int)), (.int .i64 (0 : Int)), (.int .i64 (0 : Int)), (.slice none 0 0), (.slice none 0 0)] 72) fun b12 =>
 keep (fun w => w.cell? (⟨b3, 1, none⟩ : Addr) = some (Cell.val (.int .i64) x8)) <|
 keep (fun w => w.cell? (at0 b3) = some (Cell.val (.int .i64) x7)) <|
 keep (fun w => cellsAt w (at0 b3) 0 (Cells.vals c36 x6)) <|
 aggSt (at0 b12) (.agg #[(.int .i64 x6.1), (.int .i64 x6.2.1), (.int .i64 x6.2.2.1), (.int .i64 x6.2.2.2.1), (.int .i64 a1), (.slice x11.a x11.len x11.cap), (.slice none 0 0)]) 7 <|
 J4 ((at0 b12), ())) <|
 nothing) fun (s5 : Addr × Unit) =>
 ld (.sl) (s5.1.add 5) fun (x13 : Sl) =>
 callT Tryz.prog 17 #[(.slice x13.a x13.len x13.cap)] (.one (.one .sl)) fun (x14 : Sl) =>
 stC (s5.1.add 6) (.slice x14.a x14.len x14.cap) <|
 lds c72 s5.1 fun (x15 : (Int × Int × Int × Int × Int × Sl × Sl × Unit)) =>
 aggSt (at0 b1) (.agg (Cells.vals c72 x15).toArray) 7 <|
 lds c72 (at0 b1) fun (x16 : (Int × Int × Int × Int × Int × Sl × Sl × Unit)) =>
 K x16
noncomputable def h61 : Hint := (hS (hR 1) (hS (hR 9) (hJ (8372352, [(7, (.one .addr))]) (.region [0, 1, 2, 3, 4, 5, 6, 7, 8, 10] (.float [9] (.ops 7 (.alt none (.plain (hO 3)) (.ops 2 (.alt none (.plain (hO 1)) .stop)))))) (hS (hR 5) (hS (hR 2) hL)))))
theorem F61_calls {a0 : Option Addr} {a1 : Int} {K : (Int × Int × Int × Int × Int × Sl × Sl × Unit) → World → Prop} {w : World} (h : F61 a0 a1 K w) : callT Tryz.prog 61 #[(.pointer a0), (.int .i64 a1)] (.one (.agg c72)) K w := tied tabOk Tryz.func61 h61 [(.pointer a0), (.int .i64 a1)] h
noncomputable def F67 (a0 : Option Addr) (a1 : Int) (a2 : Int) (K : (Int × Int × Int × Int × Unit) → World → Prop) : World → Prop :=
 newO (.cells #[(.int .i64 (0 : Int)), (.int .i64 (0 : Int)), (.int .i64 (0 : Int)), (.int .i64 (0 : Int))] 36) fun b1 =>
 callT Tryz.prog 25 #[(.pointer a0), (.int .i64 (if (IntKind.wrap .i64 (a2 - (2 : Int))) > a1 then (IntKind.wrap .i64 (a2 - (2 : Int))) else a1)), (.int .i64 a2)] (.one (.one .sl)) fun (x2 : Sl) =>
 ix x2.a x2.len (IntKind.wrap .i64 (((x2.len : Nat) : Int) - (1 : Int))) fun p3 =>
 ld (.int .i64) (p3.add (scaled (Int.toNat (IntKind.wrap .i64 (((x2.len : Nat) : Int) - (1 : Int)))) 1)) fun (x4 : Int) =>
 sif (x4 == (13 : Int)) (
 aggSt (at0 b1) (.agg #[(.int .i64 a1), (.int .i64 (IntKind.wrap .i64 (a2 - (1 : Int)))), (.int .i64 a2), (.int .i64 (3 : Int))]) 4 <|
 lds c36 (at0 b1) fun (x5 : (Int × Int × Int × Int × Unit)) =>
 K x5) (
 join (S := Bool × Unit) (fun J6 =>
 sif (decide ((IntKind.wrap .i64 (((x2.len : Nat) : Int) - (1 : Int))) > (0 : Int))) (
 ix x2.a x2.len (IntKind.wrap .i64 ((IntKind.wrap .i64 (((x2.len : Nat) : Int) - (1 : Int))) - (1 : Int))) fun p8 =>
 ld (.int .i64) (p8.add (scaled (Int.toNat (IntKind.wrap .i64 ((IntKind.wrap .i64 (((x2.len : Nat) : Int) - (1 : Int))) - (1 : Int)))) 1)) fun (x9 : Int) =>
 J6 ((x9 == (13 : Int)), ())) (
 J6 (false, ()))) fun (s7 : Bool × Unit) =>
 sif s7.1 (
 aggSt (at0 b1) (.agg #[(.int .i64 a1), (.int .i64 (IntKind.wrap .i64 (a2 - (2 : Int)))), (.int .i64 a2), (.int .i64 (2 : Int))]) 4 <|
 lds c36 (at0 b1) fun (x10 : (Int × Int × Int × Int × Unit)) =>
 K x10) (
 aggSt (at0 b1) (.agg #[(.int .i64 a1), (.int .i64 (IntKind.wrap .i64 (a2 - (1 : Int)))), (.int .i64 a2), (.int .i64 (1 : Int))]) 4 <|
 lds c36 (at0 b1) fun (x11 : (Int × Int × Int × Int × Unit)) =>
 K x11))
noncomputable def h67 : Hint := (hS (hR 1) (hS (hR 8) (hS (hR 4) (hS (.block (hS (hR 6) (hC (hS (hR 6) hL) (hJ (2197949513728, [(30, tB)]) (.region [] (.ops 3 (.split 33 (hO 8) (.skips 6 (hO 2))))) (hC (hS (hR 6) hL) hL))))) (hS (hR 6) hL)))))
theorem F67_calls {a0 : Option Addr} {a1 : Int} {a2 : Int} {K : (Int × Int × Int × Int × Unit) → World → Prop} {w : World} (h : F67 a0 a1 a2 K w) : callT Tryz.prog 67 #[(.pointer a0), (.int .i64 a1), (.int .i64 a2)] (.one (.agg c36)) K w := tied tabOk Tryz.func67 h67 [(.pointer a0), (.int .i64 a1), (.int .i64 a2)] h
noncomputable def F70 (a0 : Option Addr) (K : ((Int × Int × Int × Unit) × Int × Unit) → World → Prop) : World → Prop :=
 newO (.cells #[(.int .i64 (0 : Int)), (.int .i64 (0 : Int)), (.int .i64 (0 : Int))] 43) fun b1 =>
 nn a0 fun p2 =>
 ld (.int .i64) (p2.add 2) fun (x3 : Int) =>
 sif (x3 == (0 : Int)) (
 callT Tryz.prog 120 #[] (.tup [(.agg c43), (.one (.int .i64))]) fun (x4 : ((Int × Int × Int × Unit) × Int × Unit)) =>
 aggSt (at0 b1) (.agg (Cells.vals c43 x4.1).toArray) 3 <|
 lds c43 (at0 b1) fun (x5 : (Int × Int × Int × Unit)) =>
 K (x5, x4.2.1, ())) (
 drew <|
 nn a0 fun p6 =>
 lds c72 (p6.add 9) fun (x7 : (Int × Int × Int × Int × Int × Sl × Sl × Unit)) =>
 nn a0 fun p8 =>
 ld (.int .i64) (p8.add 2) fun (x9 : Int) =>
 nn a0 fun p10 =>
 ld (.int .i64) (p10.add 3) fun (x11 : Int) =>
 callT Tryz.prog 38 #[(.agg (Cells.vals c72 x7).toArray), (.int .i64 (IntKind.wrap .i64 (x9 - x11)))] (.one (.one (.int .i64))) fun (x12 : Int) =>
 callT Tryz.prog 121 #[(.pointer a0), (.int .i64 x12), (.int .i64 (0 : Int))] (.tup [(.agg c43), (.one (.int .i64))]) fun (x13 : ((Int × Int × Int × Unit) × Int × Unit)) =>
 aggSt (at0 b1) (.agg (Cells.vals c43 x13.1).toArray) 3 <|
 lds c43 (at0 b1) fun (x14 : (Int × Int × Int × Unit)) =>
 K (x14, x13.2.1, ()))
noncomputable def h70 : Hint := (hS (hR 2) (hS (hS (hR 5) (hC (hS (hR 5) hL) hL)) (hS (.region [0, 1, 2, 3, 4, 5, 6, 7, 8, 9, 10, 11, 12, 13, 14, 15, 16, 17, 18, 19] (hO 20)) hL)))
theorem F70_calls {a0 : Option Addr} {K : ((Int × Int × Int × Unit) × Int × Unit) → World → Prop} {w : World} (h : F70 a0 K w) : callT Tryz.prog 70 #[(.pointer a0)] (.tup [(.agg c43), (.one (.int .i64))]) K w := tied tabOk Tryz.func70 h70 [(.pointer a0)] h
noncomputable def F71 (a0 : Option Addr) (K : ((Int × Int × Int × Unit) × Int × Unit) → World → Prop) : World → Prop :=
 newO (.cells #[(.int .i64 (0 : Int)), (.int .i64 (0 : Int)), (.int .i64 (0 : Int))] 43) fun b1 =>
 drew <|
 nn a0 fun p2 =>
 ld (.int .i64) (p2.add 2) fun (x3 : Int) =>
 callT Tryz.prog 122 #[(.pointer a0)] (.one (.one (.int .i64))) fun (x4 : Int) =>
 keep (fun w => w.cell? (p2.add 2) = some (Cell.val (.int .i64) x3)) <|
 sif (x3 == x4) (
 callT Tryz.prog 120 #[] (.tup [(.agg c43), (.one (.int .i64))]) fun (x5 : ((Int × Int × Int × Unit) × Int × Unit)) =>
 aggSt (at0 b1) (.agg (Cells.vals c43 x5.1).toArray) 3 <|
 lds c43 (at0 b1) fun (x6 : (Int × Int × Int × Unit)) =>
 K (x6, x5.2.1, ())) (
 drew <|
 nn a0 fun p7 =>
 lds c72 (p7.add 9) fun (x8 : (Int × Int × Int × Int × Int × Sl × Sl × Unit)) =>
 nn a0 fun p9 =>
 ld (.int .i64) (p9.add 2) fun (x10 : Int) =>
 nn a0 fun p11 =>
 ld (.int .i64) (p11.add 3) fun (x12 : Int) =>
 callT Tryz.prog 122 #[(.pointer a0)] (.one (.one (.int .i64))) fun (x13 : Int) =>
 keep (fun w => w.cell? (p11.add 3) = some (Cell.val (.int .i64) x12)) <|
 keep (fun w => w.cell? (p9.add 2) = some (Cell.val (.int .i64) x10)) <|
 keep (fun w => cellsAt w (p7.add 9) 0 (Cells.vals c72 x8)) <|
 callT Tryz.prog 38 #[(.agg (Cells.vals c72 x8).toArray), (.int .i64 (if x13 < (IntKind.wrap .i64 (x10 + x12)) then x13 else (IntKind.wrap .i64 (x10 + x12))))] (.one (.one (.int .i64))) fun (x14 : Int) =>
 callT Tryz.prog 121 #[(.pointer a0), (.int .i64 x14), (.int .i64 (0 : Int))] (.tup [(.agg c43), (.one (.int .i64))]) fun (x15 : ((Int × Int × Int × Unit) × Int × Unit)) =>
 aggSt (at0 b1) (.agg (Cells.vals c43 x15.1).toArray) 3 <|
 lds c43 (at0 b1) fun (x16 : (Int × Int × Int × Unit)) =>
 K (x16, x15.2.1, ()))
noncomputable def h71 : Hint := (hS (hR 2) (hS (hS (.region [0, 1, 2, 3, 4, 5, 6] (hO 7)) (hC (hS (hR 5) hL) hL)) (hS (.region [0, 1, 2, 3, 4, 5, 6, 7, 8, 9, 10, 11, 12, 13, 14, 15, 16, 17, 18, 19, 20, 21, 22] (hO 23)) hL)))
theorem F71_calls {a0 : Option Addr} {K : ((Int × Int × Int × Unit) × Int × Unit) → World → Prop} {w : World} (h : F71 a0 K w) : callT Tryz.prog 71 #[(.pointer a0)] (.tup [(.agg c43), (.one (.int .i64))]) K w := tied tabOk Tryz.func71 h71 [(.pointer a0)] h
noncomputable def F72 (a0 : Option Addr) (K : ((Int × Int × Int × Unit) × Int × Unit) → World → Prop) : World → Prop :=
 newO (.cells #[(.int .i64 (0 : Int)), (.int .i64 (0 : Int)), (.int .i64 (0 : Int))] 43) fun b1 =>
 nn a0 fun p2 =>
 ld (.int .i64) (p2.add 9) fun (x3 : Int) =>
 callT Tryz.prog 121 #[(.pointer a0), (.int .i64 x3), (.int .i64 (0 : Int))] (.tup [(.agg c43), (.one (.int .i64))]) fun (x4 : ((Int × Int × Int × Unit) × Int × Unit)) =>
 aggSt (at0 b1) (.agg (Cells.vals c43 x4.1).toArray) 3 <|
 lds c43 (at0 b1) fun (x5 : (Int × Int × Int × Unit)) =>
 K (x5, x4.2.1, ())
noncomputable def h72 : Hint := (hS (hR 2) (hS (hR 12) hL))
theorem F72_calls {a0 : Option Addr} {K : ((Int × Int × Int × Unit) × Int × Unit) → World → Prop} {w : World} (h : F72 a0 K w) : callT Tryz.prog 72 #[(.pointer a0)] (.tup [(.agg c43), (.one (.int .i64))]) K w := tied tabOk Tryz.func72 h72 [(.pointer a0)] h
noncomputable def F73 (a0 : Option Addr) (K : ((Int × Int × Int × Unit) × Int × Unit) → World → Prop) : World → Prop :=
 newO (.cells #[(.int .i64 (0 : Int)), (.int .i64 (0 : Int)), (.int .i64 (0 : Int))] 43) fun b1 =>
 drew <|
 nn a0 fun p2 =>
 lds c72 (p2.add 9) fun (x3 : (Int × Int × Int × Int × Int × Sl × Sl × Unit)) =>
 nn a0 fun p4 =>
 lds c72 (p4.add 9) fun (x5 : (Int × Int × Int × Int × Int × Sl × Sl × Unit)) =>
 callT Tryz.prog 123 #[(.agg (Cells.vals c72 x5).toArray)] (.one (.one (.int .i64))) fun (x6 : Int) =>
 keep (fun w => cellsAt w (p2.add 9) 0 (Cells.vals c72 x3)) <|
 callT Tryz.prog 38 #[(.agg (Cells.vals c72 x3).toArray), (.int .i64 x6)] (.one (.one (.int .i64))) fun (x7 : Int) =>
 callT Tryz.prog 121 #[(.pointer a0), (.int .i64 x7), (.int .i64 (0 : Int))] (.tup [(.agg c43), (.one (.int .i64))]) fun (x8 : ((Int × Int × Int × Unit) × Int × Unit)) =>
 aggSt (at0 b1) (.agg (Cells.vals c43 x8.1).toArray) 3 <|
 lds c43 (at0 b1) fun (x9 : (Int × Int × Int × Unit)) =>
 K (x9, x8.2.1, ())
noncomputable def h73 : Hint := (hS (hR 2) (hS (.region [0, 1, 2, 3, 4, 5, 6, 7, 8, 9, 10, 11, 12, 13, 14, 15] (hO 16)) hL))
theorem F73_calls {a0 : Option Addr} {K : ((Int × Int × Int × Unit) × Int × Unit) → World → Prop} {w : World} (h : F73 a0 K w) : callT Tryz.prog 73 #[(.pointer a0)] (.tup [(.agg c43), (.one (.int .i64))]) K w := tied tabOk Tryz.func73 h73 [(.pointer a0)] h
noncomputable def F74 (a0 : Option Addr) (K : ((Int × Int × Int × Unit) × Int × Unit) → World → Prop) : World → Prop :=
 newO (.cells #[(.int .i64 (0 : Int)), (.int .i64 (0 : Int)), (.int .i64 (0 : Int))] 43) fun b1 =>
 nn a0 fun p2 =>
 lds c72 (p2.add 9) fun (x3 : (Int × Int × Int × Int × Int × Sl × Sl × Unit)) =>
 newO (.cells #[(.int .i64 (0 : Int)), (.int .i64 (0 : Int)), (.int .i64 (0 : Int)), (.int .i64 (0 : Int)), (.int .i64 (0 : Int)), (.slice none 0 0), (.slice none 0 0)] 72) fun b4 =>
 aggSt (at0 b4) (.agg (Cells.vals c72 x3).toArray) 7 <|
 join (S := Unit) (fun J5 =>
 nn a0 fun p7 =>
 ld (.ptr) p7 fun (x8 : Option Addr) =>
 callT Tryz.prog 19 #[(.pointer x8)] (.one (.one (.int .i64))) fun (x9 : Int) =>
 join (S := Bool × Unit) (fun J10 =>
 ld (.int .i64) (⟨b4, 4, none⟩ : Addr) fun (x12 : Int) =>
 sif (decide (x12 < (IntKind.wrap .i64 (x9 - (1 : Int))))) (
 nn a0 fun p13 =>
 ld (.int .i64) (p13.add 3) fun (x14 : Int) =>
 J10 ((decide (x14 > (1 : Int))), ())) (
 J10 (false, ()))) fun (s11 : Bool × Unit) =>
 sif s11.1 (
 drew <|
 nn a0 fun p15 =>
 ld (.ptr) p15 fun (x16 : Option Addr) =>
 ld (.int .i64) (⟨b4, 4, none⟩ : Addr) fun (x17 : Int) =>
 nn a0 fun p18 =>
 ld (.int .i64) (p18.add 3) fun (x19 : Int) =>
 callT Tryz.prog 61 #[(.pointer x16), (.int .i64 (if (IntKind.wrap .i64 (x9 - (1 : Int))) < (IntKind.wrap .i64 ((IntKind.wrap .i64 (x17 + x19)) - (1 : Int))) then (IntKind.wrap .i64 (x9 - (1 : Int))) else (IntKind.wrap .i64 ((IntKind.wrap .i64 (x17 + x19)) - (1 : Int)))))] (.one (.agg c72)) fun (x20 : (Int × Int × Int × Int × Int × Sl × Sl × Unit)) =>
 aggSt (at0 b4) (.agg (Cells.vals c72 x20).toArray) 7 <|
 J5 ()) (
 J5 ())) fun (s6 : Unit) =>
 drew <|
 lds c72 (at0 b4) fun (x21 : (Int × Int × Int × Int × Int × Sl × Sl × Unit)) =>
 lds c72 (at0 b4) fun (x22 : (Int × Int × Int × Int × Int × Sl × Sl × Unit)) =>
 callT Tryz.prog 39 #[(.agg (Cells.vals c72 x22).toArray)] (.one (.one (.int .i64))) fun (x23 : Int) =>
 keep (fun w => cellsAt w (at0 b4) 0 (Cells.vals c72 x21)) <|
 callT Tryz.prog 38 #[(.agg (Cells.vals c72 x21).toArray), (.int .i64 (IntKind.wrap .i64 (x23 - (1 : Int))))] (.one (.one (.int .i64))) fun (x24 : Int) =>
 aggSt (at0 b1) (.agg #[(.int .i64 x24), (.int .i64 (1 : Int)), (.int .i64 (100000 : Int))]) 3 <|
 lds c43 (at0 b1) fun (x25 : (Int × Int × Int × Unit)) =>
 K (x25, (0 : Int), ())
noncomputable def h74 : Hint := (hS (hR 2) (hS (hR 6) (hJ (4398046510112, []) (hS (hR 7) (hJ (134152192, [(26, tB)]) (.region [] (.ops 5 (.split 20 (hO 6) (.skips 5 (hO 1))))) (hC (.region [0, 1, 2, 3, 4, 5, 6, 7, 8, 9, 10, 11, 12, 13, 14, 15] (hO 16)) hL))) (hS (.region [0, 1, 2, 3, 4, 5, 6, 7] (hO 8)) hL))))
theorem F74_calls {a0 : Option Addr} {K : ((Int × Int × Int × Unit) × Int × Unit) → World → Prop} {w : World} (h : F74 a0 K w) : callT Tryz.prog 74 #[(.pointer a0)] (.tup [(.agg c43), (.one (.int .i64))]) K w := tied tabOk Tryz.func74 h74 [(.pointer a0)] h
noncomputable def F75 (a0 : Option Addr) (K : ((Int × Int × Int × Unit) × Int × Unit) → World → Prop) : World → Prop :=
 newO (.cells #[(.int .i64 (0 : Int)), (.int .i64 (0 : Int)), (.int .i64 (0 : Int))] 43) fun b1 =>
 drew <|
 nn a0 fun p2 =>
 lds c72 (p2.add 9) fun (x3 : (Int × Int × Int × Int × Int × Sl × Sl × Unit)) =>
 nn a0 fun p4 =>
 ld (.int .i64) (p4.add 3) fun (x5 : Int) =>
 callT Tryz.prog 122 #[(.pointer a0)] (.one (.one (.int .i64))) fun (x6 : Int) =>
 keep (fun w => w.cell? (p4.add 3) = some (Cell.val (.int .i64) x5)) <|
 keep (fun w => cellsAt w (p2.add 9) 0 (Cells.vals c72 x3)) <|
 callT Tryz.prog 38 #[(.agg (Cells.vals c72 x3).toArray), (.int .i64 (if x6 < (IntKind.wrap .i64 (x5 - (1 : Int))) then x6 else (IntKind.wrap .i64 (x5 - (1 : Int)))))] (.one (.one (.int .i64))) fun (x7 : Int) =>
 callT Tryz.prog 121 #[(.pointer a0), (.int .i64 x7), (.int .i64 (0 : Int))] (.tup [(.agg c43), (.one (.int .i64))]) fun (x8 : ((Int × Int × Int × Unit) × Int × Unit)) =>
 aggSt (at0 b1) (.agg (Cells.vals c43 x8.1).toArray) 3 <|
 lds c43 (at0 b1) fun (x9 : (Int × Int × Int × Unit)) =>
 K (x9, x8.2.1, ())
noncomputable def h75 : Hint := (hS (hR 2) (hS (.region [0, 1, 2, 3, 4, 5, 6, 7, 8, 9, 10, 11, 12, 13, 14, 15, 16, 17, 18] (hO 19)) hL))
theorem F75_calls {a0 : Option Addr} {K : ((Int × Int × Int × Unit) × Int × Unit) → World → Prop} {w : World} (h : F75 a0 K w) : callT Tryz.prog 75 #[(.pointer a0)] (.tup [(.agg c43), (.one (.int .i64))]) K w := tied tabOk Tryz.func75 h75 [(.pointer a0)] h
noncomputable def F76 (a0 : Option Addr) (K : ((Int × Int × Int × Unit) × Int × Unit) → World → Prop) : World → Prop :=
 newO (.cells #[(.int .i64 (0 : Int)), (.int .i64 (0 : Int)), (.int .i64 (0 : Int))] 43) fun b1 =>
 callT Tryz.prog 124 #[(.pointer a0), (.int .i64 (1 : Int)), (.int .i64 (0 : Int)), (.int .i64 (1 : Int))] (.tup [(.agg c43), (.one (.int .i64))]) fun (x2 : ((Int × Int × Int × Unit) × Int × Unit)) =>
 aggSt (at0 b1) (.agg (Cells.vals c43 x2.1).toArray) 3 <|
 lds c43 (at0 b1) fun (x3 : (Int × Int × Int × Unit)) =>
 K (x3, x2.2.1, ())
noncomputable def h76 : Hint := (hS (hR 2) (hS (hR 6) hL))
theorem F76_calls {a0 : Option Addr} {K : ((Int × Int × Int × Unit) × Int × Unit) → World → Prop} {w : World} (h : F76 a0 K w) : callT Tryz.prog 76 #[(.pointer a0)] (.tup [(.agg c43), (.one (.int .i64))]) K w := tied tabOk Tryz.func76 h76 [(.pointer a0)] h
noncomputable def F77 (a0 : Option Addr) (K : ((Int × Int × Int × Unit) × Int × Unit) → World → Prop) : World → Prop :=
 newO (.cells #[(.int .i64 (0 : Int)), (.int .i64 (0 : Int)), (.int .i64 (0 : Int))] 43) fun b1 =>
 callT Tryz.prog 124 #[(.pointer a0), (.int .i64 (-1 : Int)), (.int .i64 (0 : Int)), (.int .i64 (0 : Int))] (.tup [(.agg c43), (.one (.int .i64))]) fun (x2 : ((Int × Int × Int × Unit) × Int × Unit)) =>
 aggSt (at0 b1) (.agg (Cells.vals c43 x2.1).toArray) 3 <|
 lds c43 (at0 b1) fun (x3 : (Int × Int × Int × Unit)) =>
 K (x3, x2.2.1, ())
noncomputable def h77 : Hint := (hS (hR 2) (hS (hR 6) hL))
theorem F77_calls {a0 : Option Addr} {K : ((Int × Int × Int × Unit) × Int × Unit) → World → Prop} {w : World} (h : F77 a0 K w) : callT Tryz.prog 77 #[(.pointer a0)] (.tup [(.agg c43), (.one (.int .i64))]) K w := tied tabOk Tryz.func77 h77 [(.pointer a0)] h
noncomputable def F78 (a0 : Option Addr) (K : ((Int × Int × Int × Unit) × Int × Unit) → World → Prop) : World → Prop :=
 newO (.cells #[(.int .i64 (0 : Int)), (.int .i64 (0 : Int)), (.int .i64 (0 : Int))] 43) fun b1 =>
 callT Tryz.prog 124 #[(.pointer a0), (.int .i64 (1 : Int)), (.int .i64 (-1 : Int)), (.int .i64 (1 : Int))] (.tup [(.agg c43), (.one (.int .i64))]) fun (x2 : ((Int × Int × Int × Unit) × Int × Unit)) =>
 aggSt (at0 b1) (.agg (Cells.vals c43 x2.1).toArray) 3 <|
 lds c43 (at0 b1) fun (x3 : (Int × Int × Int × Unit)) =>
 K (x3, x2.2.1, ())
noncomputable def h78 : Hint := (hS (hR 2) (hS (hR 6) hL))
theorem F78_calls {a0 : Option Addr} {K : ((Int × Int × Int × Unit) × Int × Unit) → World → Prop} {w : World} (h : F78 a0 K w) : callT Tryz.prog 78 #[(.pointer a0)] (.tup [(.agg c43), (.one (.int .i64))]) K w := tied tabOk Tryz.func78 h78 [(.pointer a0)] h
noncomputable def F79 (a0 : Option Addr) (K : ((Int × Int × Int × Unit) × Int × Unit) → World → Prop) : World → Prop :=
 newO (.cells #[(.int .i64 (0 : Int)), (.int .i64 (0 : Int)), (.int .i64 (0 : Int))] 43) fun b1 =>
 callT Tryz.prog 124 #[(.pointer a0), (.int .i64 (-1 : Int)), (.int .i64 (1 : Int)), (.int .i64 (0 : Int))] (.tup [(.agg c43), (.one (.int .i64))]) fun (x2 : ((Int × Int × Int × Unit) × Int × Unit)) =>
 aggSt (at0 b1) (.agg (Cells.vals c43 x2.1).toArray) 3 <|
 lds c43 (at0 b1) fun (x3 : (Int × Int × Int × Unit)) =>
 K (x3, x2.2.1, ())
noncomputable def h79 : Hint := (hS (hR 2) (hS (hR 6) hL))
theorem F79_calls {a0 : Option Addr} {K : ((Int × Int × Int × Unit) × Int × Unit) → World → Prop} {w : World} (h : F79 a0 K w) : callT Tryz.prog 79 #[(.pointer a0)] (.tup [(.agg c43), (.one (.int .i64))]) K w := tied tabOk Tryz.func79 h79 [(.pointer a0)] h
noncomputable def F120  (K : ((Int × Int × Int × Unit) × Int × Unit) → World → Prop) : World → Prop :=
 newO (.cells #[(.int .i64 (0 : Int)), (.int .i64 (0 : Int)), (.int .i64 (0 : Int))] 43) fun b1 =>
 aggSt (at0 b1) (.agg #[(.int .i64 (0 : Int)), (.int .i64 (0 : Int)), (.int .i64 (0 : Int))]) 3 <|
 lds c43 (at0 b1) fun (x2 : (Int × Int × Int × Unit)) =>
 K (x2, (80 : Int), ())
noncomputable def h120 : Hint := (hS (hR 2) (hS (hR 3) hL))
theorem F120_calls {K : ((Int × Int × Int × Unit) × Int × Unit) → World → Prop} {w : World} (h : F120  K w) : callT Tryz.prog 120 #[] (.tup [(.agg c43), (.one (.int .i64))]) K w := tied tabOk Tryz.func120 h120 [] h
noncomputable def F121 (a0 : Option Addr) (a1 : Int) (a2 : Int) (K : ((Int × Int × Int × Unit) × Int × Unit) → World → Prop) : World → Prop :=
 newO (.cells #[(.int .i64 (0 : Int)), (.int .i64 (0 : Int)), (.int .i64 (0 : Int))] 43) fun b1 =>
 nn a0 fun p2 =>
 ld (.ptr) p2 fun (x3 : Option Addr) =>
 callT Tryz.prog 21 #[(.pointer x3), (.int .i64 a1)] (.one (.one (.int .i64))) fun (x4 : Int) =>
 aggSt (at0 b1) (.agg #[(.int .i64 a1), (.int .i64 a2), (.int .i64 x4)]) 3 <|
 lds c43 (at0 b1) fun (x5 : (Int × Int × Int × Unit)) =>
 K (x5, (0 : Int), ())
noncomputable def h121 : Hint := (hS (hR 2) (hS (hR 11) hL))
theorem F121_calls {a0 : Option Addr} {a1 : Int} {a2 : Int} {K : ((Int × Int × Int × Unit) × Int × Unit) → World → Prop} {w : World} (h : F121 a0 a1 a2 K w) : callT Tryz.prog 121 #[(.pointer a0), (.int .i64 a1), (.int .i64 a2)] (.tup [(.agg c43), (.one (.int .i64))]) K w := tied tabOk Tryz.func121 h121 [(.pointer a0), (.int .i64 a1), (.int .i64 a2)] h
noncomputable def F122 (a0 : Option Addr) (K : Int → World → Prop) : World → Prop :=
 nn a0 fun p1 =>
 ld (.bool) (p1.add 7) fun (x2 : Bool) =>
 sif x2 (
 nn a0 fun p3 =>
 lds c72 (p3.add 9) fun (x4 : (Int × Int × Int × Int × Int × Sl × Sl × Unit)) =>
 callT Tryz.prog 39 #[(.agg (Cells.vals c72 x4).toArray)] (.one (.one (.int .i64))) fun (x5 : Int) =>
 K x5) (
 nn a0 fun p6 =>
 lds c72 (p6.add 9) fun (x7 : (Int × Int × Int × Int × Int × Sl × Sl × Unit)) =>
 callT Tryz.prog 39 #[(.agg (Cells.vals c72 x7).toArray)] (.one (.one (.int .i64))) fun (x8 : Int) =>
 K (if (0 : Int) > (IntKind.wrap .i64 (x8 - (1 : Int))) then (0 : Int) else (IntKind.wrap .i64 (x8 - (1 : Int)))))
noncomputable def h122 : Hint := (hS (hR 1) (hS (hS (hR 4) (hC (hS (hR 6) hL) hL)) (hS (hR 8) hL)))
theorem F122_calls {a0 : Option Addr} {K : Int → World → Prop} {w : World} (h : F122 a0 K w) : callT Tryz.prog 122 #[(.pointer a0)] (.one (.one (.int .i64))) K w := tied tabOk Tryz.func122 h122 [(.pointer a0)] h
noncomputable def F123 (a0 : (Int × Int × Int × Int × Int × Sl × Sl × Unit)) (K : Int → World → Prop) : World → Prop :=
 newO (.cells #[(.int .i64 a0.1), (.int .i64 a0.2.1), (.int .i64 a0.2.2.1), (.int .i64 a0.2.2.2.1), (.int .i64 a0.2.2.2.2.1), (.slice a0.2.2.2.2.2.1.a a0.2.2.2.2.2.1.len a0.2.2.2.2.2.1.cap), (.slice a0.2.2.2.2.2.2.1.a a0.2.2.2.2.2.2.1.len a0.2.2.2.2.2.2.1.cap)] 72) fun b1 =>
 join (S := Unit) (fun J2 =>
 lds c72 (at0 b1) fun (x4 : (Int × Int × Int × Int × Int × Sl × Sl × Unit)) =>
 callT Tryz.prog 39 #[(.agg (Cells.vals c72 x4).toArray)] (.one (.one (.int .i64))) fun (x5 : Int) =>
 sloop (S := Int × Unit) (fun (s6 : Int × Unit) again7 =>
 sif (decide (s6.1 < x5)) (
 lds c72 (at0 b1) fun (x8 : (Int × Int × Int × Int × Int × Sl × Sl × Unit)) =>
 callT Tryz.prog 144 #[(.agg (Cells.vals c72 x8).toArray), (.int .i64 s6.1), (.bool true)] (.one (.one (.int .i64))) fun (x9 : Int) =>
 sif (x9 != (0 : Int)) (
 K s6.1) (
 again7 ((IntKind.wrap .i64 (s6.1 + (1 : Int))), ()))) (
 J2 ())) ((0 : Int), ())) fun (s3 : Unit) =>
 lds c72 (at0 b1) fun (x10 : (Int × Int × Int × Int × Int × Sl × Sl × Unit)) =>
 callT Tryz.prog 39 #[(.agg (Cells.vals c72 x10).toArray)] (.one (.one (.int .i64))) fun (x11 : Int) =>
 K (if (0 : Int) > (IntKind.wrap .i64 (x11 - (1 : Int))) then (0 : Int) else (IntKind.wrap .i64 (x11 - (1 : Int))))
noncomputable def h123 : Hint := (hS (hR 2) (hJ (32764, []) (hS (hR 3) (.block (.loop 32716 [(6, tI)] (hS (hR 1) (hS (hC hL hL) (hS (.block (hS (hR 2) (hS (hR 4) (hC (hS (hR 2) hL) hL)))) (hR 2))))))) (hS (hR 5) hL)))
theorem F123_calls {a0 : (Int × Int × Int × Int × Int × Sl × Sl × Unit)} {K : Int → World → Prop} {w : World} (h : F123 a0 K w) : callT Tryz.prog 123 #[(.agg (Cells.vals c72 a0).toArray)] (.one (.one (.int .i64))) K w := tied tabOk Tryz.func123 h123 [(.agg (Cells.vals c72 a0).toArray)] h
noncomputable def F124 (a0 : Option Addr) (a1 : Int) (a2 : Int) (a3 : Int) (K : ((Int × Int × Int × Unit) × Int × Unit) → World → Prop) : World → Prop :=
 newO (.cells #[(.int .i64 (0 : Int)), (.int .i64 (0 : Int)), (.int .i64 (0 : Int))] 43) fun b1 =>
 callT Tryz.prog 151 #[(.pointer a0), (.int .i64 a1)] (.one (.one (.int .i64))) fun (x2 : Int) =>
 sif (decide (x2 < (0 : Int))) (
 callT Tryz.prog 120 #[] (.tup [(.agg c43), (.one (.int .i64))]) fun (x3 : ((Int × Int × Int × Unit) × Int × Unit)) =>
 aggSt (at0 b1) (.agg (Cells.vals c43 x3.1).toArray) 3 <|
 lds c43 (at0 b1) fun (x4 : (Int × Int × Int × Unit)) =>
 K (x4, x3.2.1, ())) (
 nn a0 fun p5 =>
 lds c72 (p5.add 9) fun (x6 : (Int × Int × Int × Int × Int × Sl × Sl × Unit)) =>
 callT Tryz.prog 38 #[(.agg (Cells.vals c72 x6).toArray), (.int .i64 (IntKind.wrap .i64 (x2 + a2)))] (.one (.one (.int .i64))) fun (x7 : Int) =>
 callT Tryz.prog 121 #[(.pointer a0), (.int .i64 x7), (.int .i64 a3)] (.tup [(.agg c43), (.one (.int .i64))]) fun (x8 : ((Int × Int × Int × Unit) × Int × Unit)) =>
 aggSt (at0 b1) (.agg (Cells.vals c43 x8.1).toArray) 3 <|
 lds c43 (at0 b1) fun (x9 : (Int × Int × Int × Unit)) =>
 K (x9, x8.2.1, ()))
noncomputable def h124 : Hint := (hS (hR 2) (hS (hR 4) (hS (hS (hR 2) (hC (hS (hR 5) hL) hL)) (hS (hR 15) hL))))
theorem F124_calls {a0 : Option Addr} {a1 : Int} {a2 : Int} {a3 : Int} {K : ((Int × Int × Int × Unit) × Int × Unit) → World → Prop} {w : World} (h : F124 a0 a1 a2 a3 K w) : callT Tryz.prog 124 #[(.pointer a0), (.int .i64 a1), (.int .i64 a2), (.int .i64 a3)] (.tup [(.agg c43), (.one (.int .i64))]) K w := tied tabOk Tryz.func124 h124 [(.pointer a0), (.int .i64 a1), (.int .i64 a2), (.int .i64 a3)] h
noncomputable def F144 (a0 : (Int × Int × Int × Int × Int × Sl × Sl × Unit)) (a1 : Int) (a2 : Bool) (K : Int → World → Prop) : World → Prop :=
 newO (.cells #[(.int .i64 a0.1), (.int .i64 a0.2.1), (.int .i64 a0.2.2.1), (.int .i64 a0.2.2.2.1), (.int .i64 a0.2.2.2.2.1), (.slice a0.2.2.2.2.2.1.a a0.2.2.2.2.2.1.len a0.2.2.2.2.2.1.cap), (.slice a0.2.2.2.2.2.2.1.a a0.2.2.2.2.2.2.1.len a0.2.2.2.2.2.2.1.cap)] 72) fun b1 =>
 lds c72 (at0 b1) fun (x2 : (Int × Int × Int × Int × Int × Sl × Sl × Unit)) =>
 callT Tryz.prog 153 #[(.agg (Cells.vals c72 x2).toArray), (.int .i64 a1)] (.one (.one (.int .i64))) fun (x3 : Int) =>
 callT Tryz.prog 158 #[(.int .i64 x3)] (.one (.one (.int .i64))) fun (x4 : Int) =>
 sif a2 (
 K (if (1 : Int) < x4 then (1 : Int) else x4)) (
 K x4)
noncomputable def h144 : Hint := (hS (hR 2) (hS (hR 5) (hS (hS (hR 1) (hC (hS (hR 3) hL) hL)) (hS (hR 2) hL))))
theorem F144_calls {a0 : (Int × Int × Int × Int × Int × Sl × Sl × Unit)} {a1 : Int} {a2 : Bool} {K : Int → World → Prop} {w : World} (h : F144 a0 a1 a2 K w) : callT Tryz.prog 144 #[(.agg (Cells.vals c72 a0).toArray), (.int .i64 a1), (.bool a2)] (.one (.one (.int .i64))) K w := tied tabOk Tryz.func144 h144 [(.agg (Cells.vals c72 a0).toArray), (.int .i64 a1), (.bool a2)] h
noncomputable def F151 (a0 : Option Addr) (a1 : Int) (K : Int → World → Prop) : World → Prop :=
 nn a0 fun p1 =>
 ld (.int .i64) (p1.add 3) fun (x2 : Int) =>
 join (S := Unit) (fun J3 =>
 nn a0 fun p5 =>
 ld (.int .i64) (p5.add 2) fun (x6 : Int) =>
 sloop (S := Int × Int × Unit) (fun (s7 : Int × Int × Unit) again8 =>
 join (S := Bool × Unit) (fun J9 =>
 sif (decide (s7.2.1 ≥ (0 : Int))) (
 nn a0 fun p11 =>
 lds c72 (p11.add 9) fun (x12 : (Int × Int × Int × Int × Int × Sl × Sl × Unit)) =>
 callT Tryz.prog 39 #[(.agg (Cells.vals c72 x12).toArray)] (.one (.one (.int .i64))) fun (x13 : Int) =>
 J9 ((decide (s7.2.1 < x13)), ())) (
 J9 (false, ()))) fun (s10 : Bool × Unit) =>
 sif s10.1 (
 join (S := Int × Unit) (fun J14 =>
 drew <|
 nn a0 fun p16 =>
 lds c72 (p16.add 9) fun (x17 : (Int × Int × Int × Int × Int × Sl × Sl × Unit)) =>
 nn a0 fun p18 =>
 ld (.int .i64) (p18.add 5) fun (x19 : Int) =>
 callT Tryz.prog 153 #[(.agg (Cells.vals c72 x17).toArray), (.int .i64 s7.2.1)] (.one (.one (.int .i64))) fun (x20 : Int) =>
 keep (fun w => w.cell? (p18.add 5) = some (Cell.val (.int .i64) x19)) <|
 sif (x20 != x19) (
 J14 (s7.1, ())) (
 sif ((IntKind.wrap .i64 (s7.1 - (1 : Int))) == (0 : Int)) (
 K s7.2.1) (
 J14 ((IntKind.wrap .i64 (s7.1 - (1 : Int))), ())))) fun (s15 : Int × Unit) =>
 again8 (s15.1, (IntKind.wrap .i64 (s7.2.1 + a1)), ())) (
 J3 ())) (x2, (IntKind.wrap .i64 (x6 + a1)), ())) fun (s4 : Unit) =>
 K (-1 : Int)
noncomputable def h151 : Hint := (hS (hR 1) (hS (hR 5) (hJ (140737488353392, []) (hS (hR 7) (.block (.loop 140737488224368 [(5, tI), (6, tI)] (hS (hJ (268304384, [(27, tB)]) (.region [] (.ops 3 (.split 19 (hO 8) (.skips 7 (hO 1))))) (hC hL hL)) (hJ (140735340871728, [(5, tI)]) (.block (hS (hS (.region [0, 1, 2, 3, 4, 6, 7, 8, 9, 5, 10] (hO 11)) (hC hL hL)) (hS (hR 3) (hS (hR 2) (hC (hS (hR 2) hL) hL))))) (hR 4)))))) (hS (hR 1) hL))))
theorem F151_calls {a0 : Option Addr} {a1 : Int} {K : Int → World → Prop} {w : World} (h : F151 a0 a1 K w) : callT Tryz.prog 151 #[(.pointer a0), (.int .i64 a1)] (.one (.one (.int .i64))) K w := tied tabOk Tryz.func151 h151 [(.pointer a0), (.int .i64 a1)] h
noncomputable def F153 (a0 : (Int × Int × Int × Int × Int × Sl × Sl × Unit)) (a1 : Int) (K : Int → World → Prop) : World → Prop :=
 newO (.cells #[(.int .i64 a0.1), (.int .i64 a0.2.1), (.int .i64 a0.2.2.1), (.int .i64 a0.2.2.2.1), (.int .i64 a0.2.2.2.2.1), (.slice a0.2.2.2.2.2.1.a a0.2.2.2.2.2.1.len a0.2.2.2.2.2.1.cap), (.slice a0.2.2.2.2.2.2.1.a a0.2.2.2.2.2.2.1.len a0.2.2.2.2.2.2.1.cap)] 72) fun b1 =>
 drew <|
 ld (.sl) (⟨b1, 5, none⟩ : Addr) fun (x2 : Sl) =>
 ld (.sl) (⟨b1, 6, none⟩ : Addr) fun (x3 : Sl) =>
 ix x3.a x3.len a1 fun p4 =>
 ld (.int .i64) (p4.add (scaled (Int.toNat a1) 1)) fun (x5 : Int) =>
 ix x2.a x2.len x5 fun p6 =>
 ld (.int .i64) (p6.add (scaled (Int.toNat x5) 1)) fun (x7 : Int) =>
 K x7
noncomputable def h153 : Hint := (hS (hR 2) (hS (.region [0, 1, 2, 3, 4, 5, 6, 7, 8, 9] (hO 10)) hL))
theorem F153_calls {a0 : (Int × Int × Int × Int × Int × Sl × Sl × Unit)} {a1 : Int} {K : Int → World → Prop} {w : World} (h : F153 a0 a1 K w) : callT Tryz.prog 153 #[(.agg (Cells.vals c72 a0).toArray), (.int .i64 a1)] (.one (.one (.int .i64))) K w := tied tabOk Tryz.func153 h153 [(.agg (Cells.vals c72 a0).toArray), (.int .i64 a1)] h
end Go.Proofs.YtolhlldgnfbemaaGreat
namespace Go.Proofs.YtolhlldgnfbemaaGreat
open Go Go.Vx Cdc Trx Lns
section
variable {w w' : World} {S : Nat → Prop} {p : Nat} {e : Enc} {lim na : Nat} {O : Nat → Prop} {M : Parts}
abbrev lnT (l : Ln) : Cells.T c36 := ((l.from_ : Int), (l.to_ : Int), (l.next : Int), (l.kind : Int), ())
theorem hal (e : Enc) (M : Parts) : (atoms (aOf e M)).length = (aOf e M).length := List.length_map _
theorem skI_nat (A : List Int) (k : Nat) : skI A (k : Int) = match sk A k with | some m => (m : Int) | none => -1 := by
 unfold skI
 rw [if_neg (by omega), Int.toNat_natCast]
 all_goals (cases sk A k <;> rfl)
theorem closed_call (h : Txt w p e lim na O M) {f x : Nat} (hfx : f < x) (hx : x ≤ (atoms (aOf e M)).length) {K : Cells.T c36 → World → Prop} (hK : ∀ w', Ext w w' → K (lnT (lnC (atoms (aOf e M)) f x)) w') :
  callT Tryz.prog 67 #[.pointer (some (at0 p)), .int .i64 (f : Int), .int .i64 (x : Int)] (.one (.agg c36)) K w := by
 refine F67_calls ?_
 unfold F67
 have few := h.few; have lims := h.lims
 generalize hA : atoms (aOf e M) = A at *
 have hAl : A.length = (aOf e M).length := by rw [← hA]; exact hal e M
 refine (St.start w).newO fun b1 w1 S1 e1 => ?_
 have ew : IntKind.wrap .i64 ((x : Int) - 2) = (x : Int) - 2 := wrap64 (by omega) (by omega)
 rw [ew]
 obtain ⟨g, hg⟩ : ∃ g : Nat, g = max f (x - 2) := ⟨_, rfl⟩
 have eg : (if (x : Int) - 2 > (f : Int) then (x : Int) - 2 else (f : Int)) = (g : Int) := by split <;> omega
 rw [eg]
 refine atoms_call (h.ext e1) fun s w2 o2 e2 => ?_
 rw [hA] at o2
 have hsub : sub A (g : Int) (x : Int) = (A.drop g).take (x - g) := by unfold sub; simp
 rw [hsub] at o2
 have hl := o2.len1
 rw [List.length_map, List.length_take, List.length_drop] at hl
 have hsl : s.len = x - g := by omega
 have get : ∀ i, i < x - g → ((A.drop g).take (x - g))[i]? = A[g + i]? := fun i hi => by rw [List.getElem?_take, if_pos hi, List.getElem?_drop]
 have ew1 : IntKind.wrap .i64 (((s.len : Nat) : Int) - 1) = ((x - g - 1 : Nat) : Int) := by rw [wrap64 (by omega) (by omega)]; omega
 rw [ew1]
 have S2 := S1.ext e2
 obtain ⟨a, ha⟩ : ∃ a, A[x - 1]? = some a := ⟨_, List.getElem?_eq_getElem (by omega)⟩
 have ex1 : IntKind.wrap .i64 ((x : Int) - 1) = ((x - 1 : Nat) : Int) := by rw [wrap64 (by omega) (by omega)]; omega
 have fin : ∀ {l : Ln} {W : World}, St (fun _ => False) w W [(b1, .cells #[.int .i64 0, .int .i64 0, .int .i64 0, .int .i64 0] 36 (0, 0))] → lnC A f x = l →
   aggSt (at0 b1) (.agg (Cells.vals c36 (lnT l)).toArray) 4 (lds c36 (at0 b1) fun x => K x) W := by
  intro l W SW el
  exact SW.aggSt 0 rfl rfl rfl rfl fun w3 S3 _ => S3.lds 0 (lnT l) rfl (by subst el; exact hK w3 S3.upd)
 refine ix_ld (c := .int .i64) (xs := (A.drop g).take (x - g)) o2.in (by omega) (x := a) (by rw [Int.toNat_natCast, get _ (by omega), ← ha]; congr 1; omega) fun q => sif_r (fun hc => ?_) (fun hc => ?_)
 ·simp only [beq_iff_eq] at hc
  rw [ex1]
  exact fin (l := ⟨f, x - 1, x, 3⟩) S2 (by unfold lnC; rw [if_pos (by rw [ha, hc])])
 ·simp only [beq_eq_false_iff_ne] at hc
  have h13 : ¬ A[x - 1]? = some 13 := by rw [ha]; exact fun h => hc (Option.some.inj h)
  refine join_r (fun y W => y = (decide (f + 1 < x ∧ A[x - 2]? = some 13), ()) ∧ w2 = W) ?_ ?_
  ·refine sif_r (fun hd => ?_) (fun hd => ?_)
   ·simp only [decide_eq_true_eq, gt_iff_lt] at hd
    have ew2 : IntKind.wrap .i64 (((x - g - 1 : Nat) : Int) - 1) = ((x - g - 2 : Nat) : Int) := by rw [wrap64 (by omega) (by omega)]; omega
    rw [ew2]
    obtain ⟨b, hb⟩ : ∃ b, A[x - 2]? = some b := ⟨_, List.getElem?_eq_getElem (by omega)⟩
    refine ix_ld (c := .int .i64) (xs := (A.drop g).take (x - g)) o2.in (by omega) (x := b) (by rw [Int.toNat_natCast, get _ (by omega), ← hb]; congr 1; omega) fun q2 => ⟨tupb ?_, rfl⟩
    simp only [beq_iff_eq, decide_eq_true_eq, hb, Option.some.injEq]
    omega
   ·simp only [decide_eq_false_iff_not, gt_iff_lt] at hd
    refine ⟨tupb ?_, rfl⟩
    simp only [Bool.false_eq_true, decide_eq_true_eq, false_iff]
    omega
  rintro _ _ ⟨rfl, rfl⟩
  refine sif_r (fun hd => ?_) (fun hd => ?_)
  ·simp only [decide_eq_true_eq] at hd
   have ew3 : (x : Int) - 2 = ((x - 2 : Nat) : Int) := by omega
   rw [ew3]
   exact fin (l := ⟨f, x - 2, x, 2⟩) S2 (by unfold lnC; rw [if_neg h13, if_pos hd])
  ·simp only [decide_eq_false_iff_not] at hd
   rw [ex1]
   exact fin (l := ⟨f, x - 1, x, 1⟩) S2 (by unfold lnC; rw [if_neg h13, if_neg hd])
def atRes (r : Option Ln) : Cells.T c36 × Int × Unit := match r with
 | some l => (lnT l, 0, ())
 | none => (lnT ⟨0, 0, 0, 0⟩, 2, ())
theorem lat_call {i : Int} (h : Txt w p e lim na O M) (hi : i < 2 ^ 62) {K : Cells.T c36 × Int × Unit → World → Prop} (hK : ∀ w', Ext w w' → K (atRes (lnI (atoms (aOf e M)) i)) w') :
  callT Tryz.prog 41 #[.pointer (some (at0 p)), .int .i64 i] (.tup [(.agg c36), (.one (.int .i64))]) K w := by
 refine F41_calls ?_
 unfold F41
 have few := h.few; have lims := h.lims
 have hal := hal e M
 refine (St.start w).newO fun b1 w1 S1 e1 => ?_
 refine sif_r (fun hc => ?_) (fun hc => ?_)
 ·simp only [decide_eq_true_eq] at hc
  refine S1.aggSt 0 rfl rfl rfl rfl fun w2 S2 _ => S2.lds 0 (lnT ⟨0, 0, 0, 0⟩) rfl ?_
  have := hK w2 S2.upd
  unfold lnI at this
  rw [if_pos hc] at this
  exact this
 simp only [decide_eq_false_iff_not] at hc
 obtain ⟨n, rfl⟩ : ∃ n : Nat, i = (n : Int) := ⟨i.toNat, by omega⟩
 unfold lnI at hK
 rw [if_neg hc, Int.toNat_natCast] at hK
 refine seek_call (h.ext e1) fun w2 e2 => ?_
 have S2 := S1.ext e2
 rw [skI_nat]
 cases hf : sk (atoms (aOf e M)) n with
 | none =>
  refine sif_r (fun _ => ?_) (fun h => by simp at h)
  refine S2.aggSt 0 rfl rfl rfl rfl fun w3 S3 _ => S3.lds 0 (lnT ⟨0, 0, 0, 0⟩) rfl ?_
  have := hK w3 S3.upd
  unfold lnAt at this
  rw [hf] at this
  exact this
 | some f =>
  refine sif_r (fun h => by simp at h; omega) (fun _ => ?_)
  obtain ⟨hnb, hfl, hnf, _⟩ := sk_get hf
  refine len_call (h.ext S2.upd) fun w3 e3 => breaks_call (h.ext (S2.ext e3).upd) fun w4 e4 => ?_
  have S4 := (S2.ext e3).ext e4
  rw [Int.toNat_natCast, ← hal, ← brs_nb]
  refine sif_r (fun hlt => ?_) (fun hlt => ?_)
  ·simp only [decide_eq_true_eq] at hlt
   have ew : IntKind.wrap .i64 ((n : Int) + 1) = ((n + 1 : Nat) : Int) := by rw [wrap64 (by omega) (by omega)]; omega
   rw [ew]
   refine seek_call (h.ext S4.upd) fun w5 e5 => ?_
   have S5 := S4.ext e5
   rw [skI_nat]
   obtain ⟨x, hx⟩ := sk_ok (A := atoms (aOf e M)) (k := n + 1) (by omega)
   obtain ⟨_, hxl, _, _⟩ := sk_get hx
   rw [hx]
   refine closed_call (h.ext S5.upd) (sk_lt hf hx (by omega)) hxl fun w6 e6 => (S5.ext e6).aggSt 0 rfl rfl rfl rfl fun w7 S7 _ => S7.lds 0 (lnT _) rfl ?_
   have := hK w7 S7.upd
   unfold lnAt at this
   rw [hf] at this
   simp only [hx] at this
   exact this
  ·simp only [decide_eq_false_iff_not] at hlt
   refine len_call (h.ext S4.upd) fun w5 e5 => len_call (h.ext (S4.ext e5).upd) fun w6 e6 => ((S4.ext e5).ext e6).aggSt 0 rfl rfl rfl rfl fun w7 S7 _ => S7.lds 0 (lnT ⟨f, (aOf e M).length, (aOf e M).length, 0⟩) rfl ?_
   have := hK w7 S7.upd
   unfold lnAt at this
   rw [hf] at this
   simp only [sk_none (atoms (aOf e M)) (n + 1) (by omega)] at this
   rw [hal] at this
   exact this
theorem lof_call {at_ : Int} (h : Txt w p e lim na O M) {K : Int → World → Prop} (hK : ∀ w', Ext w w' → K ((nb (atoms (aOf e M)) at_.toNat : Nat) : Int) w') :
  callT Tryz.prog 20 #[.pointer (some (at0 p)), .int .i64 at_] (.one (.one (.int .i64))) K w := by
 refine F20_calls ?_
 unfold F20
 have hal := hal e M
 refine len_call h fun w1 e1 => breaks_call (h.ext e1) fun w2 e2 => ?_
 have := hK w2 (e1.trans e2)
 have e : nb (atoms (aOf e M)) (if (((aOf e M).length : Nat) : Int) < (if (0 : Int) > at_ then (0 : Int) else at_) then (((aOf e M).length : Nat) : Int) else (if (0 : Int) > at_ then (0 : Int) else at_)).toNat = nb (atoms (aOf e M)) at_.toNat := by
  by_cases h0 : (0 : Int) > at_
  ·rw [if_pos h0, if_neg (by omega)]
   have : at_.toNat = (0 : Int).toNat := by omega
   rw [this]
  ·rw [if_neg h0]
   split
   ·rw [Int.toNat_natCast, nb_ge _ _ (by omega), nb_ge _ _ (by omega)]
   ·rfl
 rw [e]; exact this
theorem lended_call (h : Txt w p e lim na O M) {K : Bool → World → Prop} (hK : ∀ w', Ext w w' → K (ended (atoms (aOf e M))) w') :
  callT Tryz.prog 51 #[.pointer (some (at0 p))] (.one (.one .bool)) K w := by
 refine F51_calls ?_
 unfold F51
 have hal := hal e M
 unfold ended at hK
 refine len_call h fun w1 e1 => sif_r (fun hc => ?_) (fun hc => ?_)
 ·simp only [decide_eq_true_eq, gt_iff_lt] at hc
  refine breaks_call (h.ext e1) fun w2 e2 => seek_call (h.ext (e1.trans e2)) fun w3 e3 => ?_
  have := hK w3 ((e1.trans e2).trans e3)
  rw [Int.toNat_natCast, ← hal, ← brs_nb, skI_nat]
  rw [decide_eq_true (by omega), Bool.true_and] at this
  cases hs : sk (atoms (aOf e M)) (brs (atoms (aOf e M))) with
  | none =>
   rw [hs] at this
   have e1 : ((-1 : Int) == (((atoms (aOf e M)).length : Nat) : Int)) = false := by rw [beq_eq_false_iff_ne]; omega
   show K ((-1 : Int) == _) w3
   rw [e1]; exact this
  | some m =>
   rw [hs] at this
   have e1 : ((m : Int) == (((atoms (aOf e M)).length : Nat) : Int)) = (some m == some (atoms (aOf e M)).length) := by rw [Bool.eq_iff_iff, beq_iff_eq, beq_iff_eq, Option.some.injEq]; omega
   show K ((m : Int) == _) w3
   rw [e1]; exact this
 ·simp only [decide_eq_false_iff_not, gt_iff_lt] at hc
  have := hK w1 e1
  rw [decide_eq_false (by omega), Bool.false_and] at this
  exact this
theorem lcount_call (h : Txt w p e lim na O M) {K : Int → World → Prop} (hK : ∀ w', Ext w w' → K ((lnN (atoms (aOf e M)) : Nat) : Int) w') :
  callT Tryz.prog 19 #[.pointer (some (at0 p))] (.one (.one (.int .i64))) K w := by
 refine F19_calls ?_
 unfold F19
 have few := h.few; have lims := h.lims
 have hal := hal e M
 have hb : brs (atoms (aOf e M)) ≤ (atoms (aOf e M)).length := by rw [brs_nb]; exact nb_le _ _
 refine len_call h fun w1 e1 => breaks_call (h.ext e1) fun w2 e2 => ?_
 rw [Int.toNat_natCast, ← hal, ← brs_nb]
 refine join_r (fun x W => x = (((lnN (atoms (aOf e M)) : Nat) : Int), ()) ∧ Ext w W) ?_ (fun x W hx => by obtain ⟨rfl, hx⟩ := hx; exact hK W hx)
 refine lended_call (h.ext (e1.trans e2)) fun w3 e3 => ?_
 have e03 := (e1.trans e2).trans e3
 refine sif_r (fun hc => ⟨?_, e03⟩) (fun hc => ⟨?_, e03⟩)
 ·simp only [Bool.not_eq_true'] at hc
  unfold lnN
  rw [hc, wrap64 (by omega) (by omega)]
  simp
 ·simp only [Bool.not_eq_false'] at hc
  unfold lnN
  rw [hc]
  simp
end
end Go.Proofs.YtolhlldgnfbemaaGreat
namespace Go.Proofs.YtolhlldgnfbemaaGreat
open Go Go.Vx Cdc Trx Gly Clu Lns Obx
namespace Mot
variable {A : List Int} {i : Nat}
noncomputable def bndL (A : List Int) (i : Nat) : List Int := (List.range ((rowC A i).length + 1)).map fun j => (bndR A i j : Int)
theorem nv_bnd (h : i ≤ brs A) : nv (cuts (rowB A i)) = iv (bndL A i) := by
 rw [row_cuts h]
 unfold bndL
 simp only [List.map_map]
 rfl
theorem bndL_len (A : List Int) (i : Nat) : (bndL A i).length = (rowC A i).length + 1 := by unfold bndL; simp
theorem bndL_at {j : Nat} (h : j ≤ (rowC A i).length) : (bndL A i)[j]? = some (bndR A i j : Int) := by
 unfold bndL
 rw [List.getElem?_map, List.getElem?_range (by omega)]; rfl
theorem place_min (h : i ≤ brs A) (c : Int) : placeR A i c = (rowL A i).from_ + bndR A i (min c.toNat (rowC A i).length) := by
 rw [bnd_place h]
 rcases Nat.lt_or_ge c.toNat (rowC A i).length with u | u
 ·rw [Nat.min_eq_left (by omega)]
  unfold placeR
  rw [Int.toNat_natCast]
 ·rw [Nat.min_eq_right u, placeR_ge u, placeR_ge (by omega)]
theorem cel_to (h : i ≤ brs A) {j : Nat} {c : Cel} (hc : (rowC A i)[j]? = some c) : c.to_ = placeR A i ((j + 1 : Nat) : Int) := by
 have hl := (List.getElem?_eq_some_iff.1 hc).1
 rcases Nat.lt_or_ge (j + 1) (rowC A i).length with u | u
 ·obtain ⟨d, hd⟩ := cel_get u
  rw [placeR_lt u, frm_of hd]
  exact (rowC_chain A i).next j c d hc hd
 ·rw [placeR_ge (by omega)]
  exact rowC_last h hc (by omega)
theorem place_mono (h : i ≤ brs A) {c d : Nat} (hcd : c ≤ d) (hd : d ≤ (rowC A i).length) : placeR A i (c : Int) ≤ placeR A i (d : Int) := by
 rcases Nat.lt_or_ge c d with u | u
 ·exact Nat.le_of_lt (placeR_mono h u hd)
 ·rw [show c = d by omega]; exact Nat.le_refl _
theorem row_cel (h : i ≤ brs A) {j : Nat} {c : Cel} (hc : (rowC A i)[j]? = some c) : (rowB A i)[bndR A i j]? = some c.atom ∧ c.kind = wrd c.atom := by
 have hl := (List.getElem?_eq_some_iff.1 hc).1
 obtain ⟨_, _, _, _, q⟩ := lineC_at (row_ok h).ft (by have := (row_ok h).tn; have := (row_ok h).nl; omega) hc
 exact ⟨by rw [bnd_atom h hl, hc]; rfl, q.kind⟩
end Mot
open Mot
abbrev RwT := Cells.T c72
structure RowIs (w : World) (A : List Int) (i : Nat) (r : RwT) : Prop where
 row : i ≤ brs A
 len : A.length ≤ 1048576
 f : r.1 = ((rowL A i).from_ : Int)
 t : r.2.1 = ((rowL A i).to_ : Int)
 n : r.2.2.1 = ((rowL A i).next : Int)
 num : r.2.2.2.2.1 = (i : Int)
 atoms : SlIn w r.2.2.2.2.2.1 3 1 (iv (rowB A i))
 starts : SlIn w r.2.2.2.2.2.2.1 3 1 (iv (bndL A i))
abbrev rwO (r : RwT) : Obj := .cells #[.int .i64 r.1, .int .i64 r.2.1, .int .i64 r.2.2.1, .int .i64 r.2.2.2.1, .int .i64 r.2.2.2.2.1, .slice r.2.2.2.2.2.1.a r.2.2.2.2.2.1.len r.2.2.2.2.2.1.cap, .slice r.2.2.2.2.2.2.1.a r.2.2.2.2.2.2.1.len r.2.2.2.2.2.2.1.cap] 72 (0, 0)
abbrev rwZ : Obj := .cells #[.int .i64 0, .int .i64 0, .int .i64 0, .int .i64 0, .int .i64 0, .slice none 0 0, .slice none 0 0] 72 (0, 0)
section
variable {w w' : World} {A : List Int} {i : Nat} {r : RwT}
theorem RowIs.ext (h : RowIs w A i r) (e : Ext w w') : RowIs w' A i r := ⟨h.row, h.len, h.f, h.t, h.n, h.num, h.atoms.ext e, h.starts.ext e⟩
theorem RowIs.slen (h : RowIs w A i r) : r.2.2.2.2.2.2.1.len = (rowC A i).length + 1 := by
 have := h.starts.len1
 rw [List.length_map, bndL_len] at this
 exact this.symm
theorem RowIs.few (h : RowIs w A i r) : (rowC A i).length ≤ 1048576 ∧ (rowL A i).to_ ≤ 1048576 ∧ (rowL A i).from_ ≤ 1048576 ∧ (rowL A i).next ≤ 1048576 := by
 have h1 := rowC_len h.row
 have ok := row_ok h.row
 have := ok.tn; have := ok.nl; have := ok.ft; have := h.len
 omega
theorem clus_call (h : RowIs w A i r) {K : Int → World → Prop} (hK : ∀ w', Ext w w' → K ((rowC A i).length : Int) w') :
  callT Tryz.prog 39 #[.agg (Cells.vals c72 r).toArray] (.one (.one (.int .i64))) K w := by
 refine F39_calls (a0 := r) ?_
 unfold F39
 have hl := h.slen; have fw := h.few
 refine (St.start w).newO fun b1 w1 S1 e1 => S1.ld 0 rfl (x := r.2.2.2.2.2.2.1) rfl ?_
 rw [hl, wrap64 (by omega) (by omega)]
 have := hK w1 e1
 rw [show (((rowC A i).length + 1 : Nat) : Int) - 1 = ((rowC A i).length : Int) by omega]
 exact this
theorem mplace_call (h : RowIs w A i r) {c : Int} {K : Int → World → Prop} (hK : ∀ w', Ext w w' → K (placeR A i c : Int) w') :
  callT Tryz.prog 38 #[.agg (Cells.vals c72 r).toArray, .int .i64 c] (.one (.one (.int .i64))) K w := by
 refine F38_calls (a0 := r) ?_
 unfold F38
 have hl := h.slen; have fw := h.few
 refine (St.start w).newO fun b1 w1 S1 e1 => S1.drew fun w2 S2 e2 _ => S2.ld 0 rfl (x := r.1) rfl (S2.ld 0 rfl (x := r.2.2.2.2.2.2.1) rfl (S2.lds 0 r rfl ?_))
 refine clus_call (h.ext S2.upd) fun w3 e3 => ?_
 have S3 := S2.ext e3
 refine S3.keep 0 rfl (v := .slice r.2.2.2.2.2.2.1.a r.2.2.2.2.2.2.1.len r.2.2.2.2.2.2.1.cap) rfl (S3.keep 0 rfl (v := .int .i64 r.1) rfl ?_)
 have em : (if (((rowC A i).length : Nat) : Int) < (if (0 : Int) > c then (0 : Int) else c) then (((rowC A i).length : Nat) : Int) else (if (0 : Int) > c then (0 : Int) else c)) = ((min c.toNat (rowC A i).length : Nat) : Int) := by
  split <;> split at * <;> omega
 rw [em]
 refine ix_ld (c := .int .i64) (xs := bndL A i) (h.ext S3.upd).starts (by omega) (x := (bndR A i (min c.toNat (rowC A i).length) : Int)) (by rw [Int.toNat_natCast]; exact bndL_at (by omega)) fun p => ?_
 have hp := place_min h.row c
 have hle := place_le h.row c
 have hA := h.len
 rw [h.f, wrap64 (by omega) (by omega)]
 have := hK w3 S3.upd
 rw [hp] at this
 rw [show (((rowL A i).from_ : Nat) : Int) + ((bndR A i (min c.toNat (rowC A i).length) : Nat) : Int) = (((rowL A i).from_ + bndR A i (min c.toNat (rowC A i).length) : Nat) : Int) by omega]
 exact this
theorem mcol_call (h : RowIs w A i r) {n : Int} {K : Int → World → Prop} (hK : ∀ w', Ext w w' → K (firstI (rowC A i) n : Int) w') :
  callT Tryz.prog 40 #[.agg (Cells.vals c72 r).toArray, .int .i64 n] (.one (.one (.int .i64))) K w := by
 refine F40_calls (a0 := r) ?_
 unfold F40
 have hl := h.slen; have fw := h.few; have hA := h.len
 refine (St.start w).newO fun b1 w1 S1 e1 => S1.lds 0 r rfl (clus_call (h.ext e1) fun w2 e2 => ?_)
 have S2 := S1.ext e2
 have S2 : St (fun _ => False) w w2 [(b1, rwO r)] := S2
 refine join_r (fun x W => x = ((firstI (rowC A i) n : Int), ()) ∧ Ext w W) ?_ (fun x W hx => by rw [hx.1]; exact hK W hx.2)
 refine sloop_r (fun x W => ∃ lo hi : Nat, x = ((lo : Int), (hi : Int), ()) ∧ lo ≤ hi ∧ hi ≤ (rowC A i).length ∧ (lo = 0 ∨ (placeR A i (lo : Int) : Int) ≤ n) ∧ (∀ j : Nat, hi < j → j ≤ (rowC A i).length → n < (placeR A i (j : Int) : Int)) ∧ St (fun _ => False) w W [(b1, rwO r)]) (fun x _ => (x.2.1 - x.1).toNat) ⟨0, (rowC A i).length, rfl, Nat.zero_le _, Nat.le_refl _, .inl rfl, fun j h1 h2 => by omega, S2⟩ ?_
 rintro _ W ⟨lo, hi, rfl, h1, h2, h3, h4, SW⟩
 dsimp only
 refine sif_r (fun hc => ?_) (fun hc => ?_)
 ·simp only [decide_eq_true_eq] at hc
  obtain ⟨m, hm⟩ : ∃ m : Nat, m = (lo + hi + 1) / 2 := ⟨_, rfl⟩
  have ew1 : IntKind.wrap .i64 ((lo : Int) + (hi : Int)) = (lo : Int) + hi := wrap64 (by omega) (by omega)
  have ew2 : IntKind.wrap .i64 ((lo : Int) + (hi : Int) + 1) = (lo : Int) + hi + 1 := wrap64 (by omega) (by omega)
  have ed : Int.tdiv ((lo : Int) + (hi : Int) + 1) 2 = (m : Int) := by rw [Int.tdiv_eq_ediv_of_nonneg (by omega)]; omega
  have ew3 : IntKind.wrap .i64 (m : Int) = (m : Int) := wrap64 (by omega) (by omega)
  have ew4 : IntKind.wrap .i64 ((m : Int) - 1) = ((m - 1 : Nat) : Int) := by rw [wrap64 (by omega) (by omega)]; omega
  rw [ew1, ew2, ed, ew3, ew4]
  refine chk_r (by decide) (SW.drew fun w3 S3 e3 _ => S3.ld 0 rfl (x := r.1) rfl (S3.ld 0 rfl (x := r.2.2.2.2.2.2.1) rfl ?_))
  refine ix_ld (c := .int .i64) (xs := bndL A i) (h.ext S3.upd).starts (by omega) (x := (bndR A i m : Int)) (by rw [Int.toNat_natCast]; exact bndL_at (by omega)) fun p => ?_
  have hp := bnd_place h.row m
  have hle := place_le h.row (m : Int)
  rw [h.f, wrap64 (by omega) (by omega), show (((rowL A i).from_ : Nat) : Int) + ((bndR A i m : Nat) : Int) = (placeR A i (m : Int) : Int) by omega]
  refine sif_r (fun hg => ?_) (fun hg => ?_)
  ·simp only [decide_eq_true_eq] at hg
   exact ⟨⟨m, hi, rfl, by omega, h2, .inr hg, h4, S3⟩, by omega⟩
  ·simp only [decide_eq_false_iff_not] at hg
   refine ⟨⟨lo, m - 1, rfl, by omega, by omega, h3, fun j j1 j2 => ?_, S3⟩, by omega⟩
   have := place_mono h.row (c := m) (d := j) (by omega) j2
   omega
 ·simp only [decide_eq_false_iff_not] at hc
  obtain rfl : lo = hi := by omega
  refine ⟨?_, SW.upd⟩
  rw [firstI_eq h2 (fun j c hj hc' => ?_) (fun c hc' => ?_)]
  ·rw [cel_to h.row hc']
   have := place_mono h.row (c := j + 1) (d := lo) (by omega) h2
   rcases h3 with rfl | h3
   ·omega
   ·omega
  ·have hl2 := (List.getElem?_eq_some_iff.1 hc').1
   rw [cel_to h.row hc']
   exact h4 (lo + 1) (by omega) (by omega)
theorem mfirst_call (h : RowIs w A i r) {j : Nat} {c : Cel} (hc : (rowC A i)[j]? = some c) {K : Int → World → Prop} (hK : ∀ w', Ext w w' → K c.atom w') :
  callT Tryz.prog 153 #[.agg (Cells.vals c72 r).toArray, .int .i64 (j : Int)] (.one (.one (.int .i64))) K w := by
 refine F153_calls (a0 := r) ?_
 unfold F153
 have hl := h.slen; have fw := h.few
 have hj := (List.getElem?_eq_some_iff.1 hc).1
 refine (St.start w).newO fun b1 w1 S1 e1 => S1.drew fun w2 S2 e2 _ => S2.ld 0 rfl (x := r.2.2.2.2.2.1) rfl (S2.ld 0 rfl (x := r.2.2.2.2.2.2.1) rfl ?_)
 have h2 := h.ext S2.upd
 refine ix_ld (c := .int .i64) (xs := bndL A i) h2.starts (by omega) (x := (bndR A i j : Int)) (by rw [Int.toNat_natCast]; exact bndL_at (by omega)) fun p => ?_
 exact ix_ld (c := .int .i64) (xs := rowB A i) h2.atoms (by omega) (x := c.atom) (by rw [Int.toNat_natCast]; exact (row_cel h.row hc).1) fun q => hK w2 S2.upd
theorem mkind_call (h : RowIs w A i r) {j : Nat} (hj : j < (rowC A i).length) {big : Bool} {K : Int → World → Prop} (hK : ∀ w', Ext w w' → K (kindB (rowC A i) j big : Int) w') :
  callT Tryz.prog 144 #[.agg (Cells.vals c72 r).toArray, .int .i64 (j : Int), .bool big] (.one (.one (.int .i64))) K w := by
 refine F144_calls (a0 := r) ?_
 unfold F144
 obtain ⟨c, hc⟩ := cel_get hj
 refine (St.start w).newO fun b1 w1 S1 e1 => S1.lds 0 r rfl (mfirst_call (h.ext e1) hc fun w2 e2 => word_call fun w3 e3 => ?_)
 have e13 := (e1.trans e2).trans e3
 have hk := (row_cel h.row hc).2
 unfold kindB at hK
 rw [hc] at hK
 refine sif_r (fun hb => ?_) (fun hb => ?_)
 ·have := hK w3 e13
  rw [if_pos hb] at this
  have e : (if (1 : Int) < ((wrd c.atom : Nat) : Int) then (1 : Int) else ((wrd c.atom : Nat) : Int)) = ((min c.kind 1 : Nat) : Int) := by rw [hk]; split <;> omega
  rw [e]; exact this
 ·have := hK w3 e13
  rw [if_neg (by rw [hb]; decide)] at this
  rw [← hk]; exact this
theorem msign_call (h : RowIs w A i r) {K : Int → World → Prop} (hK : ∀ w', Ext w w' → K (signR A i : Int) w') :
  callT Tryz.prog 123 #[.agg (Cells.vals c72 r).toArray] (.one (.one (.int .i64))) K w := by
 refine F123_calls (a0 := r) ?_
 unfold F123
 have fw := h.few
 refine (St.start w).newO fun b1 w1 S1 e1 => ?_
 have S1 : St (fun _ => False) w w1 [(b1, rwO r)] := S1
 refine join_r (fun _ W => (∀ (j : Nat) y, (rowC A i)[j]? = some y → y.kind = 0) ∧ St (fun _ => False) w W [(b1, rwO r)]) ?_ ?_
 ·refine S1.lds 0 r rfl (clus_call (h.ext e1) fun w2 e2 => ?_)
  refine sloop_r (fun x W => ∃ c : Nat, x = ((c : Int), ()) ∧ c ≤ (rowC A i).length ∧ (∀ (j : Nat) y, j < c → (rowC A i)[j]? = some y → y.kind = 0) ∧ St (fun _ => False) w W [(b1, rwO r)]) (fun x _ => (((rowC A i).length : Int) - x.1).toNat) ⟨0, rfl, Nat.zero_le _, fun j y hj => by omega, S1.ext e2⟩ ?_
  rintro _ W ⟨c, rfl, h1, h2, SW⟩
  dsimp only
  refine sif_r (fun hc => ?_) (fun hc => ?_)
  ·simp only [decide_eq_true_eq] at hc
   have ew : IntKind.wrap .i64 ((c : Int) + 1) = ((c + 1 : Nat) : Int) := by rw [wrap64 (by omega) (by omega)]; omega
   rw [ew]
   obtain ⟨x, hx⟩ := cel_get (C := rowC A i) (j := c) (by omega)
   refine SW.lds 0 r rfl (mkind_call (h.ext SW.upd) (j := c) (by omega) fun w3 e3 => ?_)
   have hkb : kindB (rowC A i) c true = min x.kind 1 := by unfold kindB; rw [if_pos rfl, hx]; rfl
   rw [hkb]
   refine sif_r (fun hg => ?_) (fun hg => ?_)
   ·simp only [bne_iff_ne, ne_eq] at hg
    have := hK w3 (SW.ext e3).upd
    rw [sign_at hx (by omega) h2] at this
    exact this
   ·simp only [bne_eq_false_iff_eq] at hg
    refine ⟨⟨c + 1, rfl, by omega, fun j y hj hy => ?_, SW.ext e3⟩, by omega⟩
    by_cases hjc : j = c
    ·subst hjc; rw [hx] at hy; cases hy; omega
    ·exact h2 j y (by omega) hy
  ·simp only [decide_eq_false_iff_not] at hc
   exact ⟨fun j y hy => h2 j y (by have := (List.getElem?_eq_some_iff.1 hy).1; omega) hy, SW⟩
 rintro _ W ⟨h0, SW⟩
 refine SW.lds 0 r rfl (clus_call (h.ext SW.upd) fun w3 e3 => ?_)
 have := hK w3 (SW.ext e3).upd
 rw [sign_none h0] at this
 rw [wrap64 (by omega) (by omega)]
 have e : (if (0 : Int) > (((rowC A i).length : Nat) : Int) - 1 then (0 : Int) else (((rowC A i).length : Nat) : Int) - 1) = (((rowC A i).length - 1 : Nat) : Int) := by split <;> omega
 rw [e]; exact this
end
end Go.Proofs.YtolhlldgnfbemaaGreat
namespace Go.Proofs.YtolhlldgnfbemaaGreat
open Go Go.Vx Cdc Trx Gly Clu Lns Obx Mot
section
variable {w w' : World} {p : Nat} {e : Enc} {lim na : Nat} {O : Nat → Prop} {M : Parts} {A : List Int}
structure TxA (w : World) (p : Nat) (A : List Int) : Prop where
 ex : ∃ e lim na O M, Txt w p e lim na O M ∧ atoms (aOf e M) = A
theorem TxA.ext (h : TxA w p A) (x : Ext w w') : TxA w' p A := by
 obtain ⟨e, lim, na, O, M, h1, h2⟩ := h.ex
 exact ⟨e, lim, na, O, M, h1.ext x, h2⟩
theorem TxA.len (h : TxA w p A) : A.length ≤ 1048576 := by
 obtain ⟨e, lim, na, O, M, h1, rfl⟩ := h.ex
 rw [hal]; exact h1.few
theorem TxA.at_ (h : TxA w p A) {i : Nat} (hi : i ≤ brs A) {K : Cells.T c36 × Int × Unit → World → Prop} (hK : ∀ w', Ext w w' → K (lnT (rowL A i), 0, ()) w') :
  callT Tryz.prog 41 #[.pointer (some (at0 p)), .int .i64 (i : Int)] (.tup [(.agg c36), (.one (.int .i64))]) K w := by
 have hA := h.len; have hb := brs_le A
 obtain ⟨e, lim, na, O, M, h1, rfl⟩ := h.ex
 refine lat_call h1 (by omega) fun w' x => ?_
 have := hK w' x
 unfold lnI
 rw [if_neg (by omega), Int.toNat_natCast, rowL_at hi]
 exact this
theorem TxA.atoms (h : TxA w p A) {f t : Int} {K : Sl → World → Prop} (hK : ∀ s w', SlOwn w' w.heap.size s 3 1 (iv (sub A f t)) → Ext w w' → K s w') :
  callT Tryz.prog 25 #[.pointer (some (at0 p)), .int .i64 f, .int .i64 t] (.one (.one .sl)) K w := by
 obtain ⟨e, lim, na, O, M, h1, rfl⟩ := h.ex
 exact atoms_call h1 hK
theorem TxA.of (h : TxA w p A) {x : Int} {K : Int → World → Prop} (hK : ∀ w', Ext w w' → K (ofI A x : Int) w') :
  callT Tryz.prog 20 #[.pointer (some (at0 p)), .int .i64 x] (.one (.one (.int .i64))) K w := by
 obtain ⟨e, lim, na, O, M, h1, rfl⟩ := h.ex
 refine lof_call h1 fun w' x' => ?_
 have := hK w' x'
 unfold ofI inT at this
 have e1 : nb (Trx.atoms (aOf e M)) x.toNat = nb (Trx.atoms (aOf e M)) (min (max x 0) ((Trx.atoms (aOf e M)).length : Int)).toNat := by
  rcases Nat.lt_or_ge x.toNat (Trx.atoms (aOf e M)).length with u | u
  ·congr 1; omega
  ·rw [nb_ge _ _ u, show (min (max x 0) ((Trx.atoms (aOf e M)).length : Int)).toNat = (Trx.atoms (aOf e M)).length by omega, brs_nb]
 rw [e1]; exact this
theorem TxA.count (h : TxA w p A) {K : Int → World → Prop} (hK : ∀ w', Ext w w' → K (lnN A : Int) w') :
  callT Tryz.prog 19 #[.pointer (some (at0 p))] (.one (.one (.int .i64))) K w := by
 obtain ⟨e, lim, na, O, M, h1, rfl⟩ := h.ex
 exact lcount_call h1 hK
theorem TxA.tlen (h : TxA w p A) {K : Int → World → Prop} (hK : ∀ w', Ext w w' → K (A.length : Int) w') :
  callT Tryz.prog 37 #[.pointer (some (at0 p))] (.one (.one (.int .i64))) K w := by
 obtain ⟨e, lim, na, O, M, h1, rfl⟩ := h.ex
 refine len_call h1 fun w' x => ?_
 have := hK w' x
 rw [hal] at this; exact this
theorem sub_row (A : List Int) (i : Nat) : sub A ((rowL A i).from_ : Int) ((rowL A i).to_ : Int) = rowB A i := by unfold sub rowB; simp
theorem nrow_call (h : TxA w p A) {i : Nat} (hi : i ≤ brs A) {K : RwT → World → Prop} (hK : ∀ r w', RowIs w' A i r → Ext w w' → K r w') :
  callT Tryz.prog 61 #[.pointer (some (at0 p)), .int .i64 (i : Int)] (.one (.agg c72)) K w := by
 refine F61_calls ?_
 unfold F61
 have hA := h.len
 let rw1 (sa ss : Sl) : RwT := (((rowL A i).from_ : Int), ((rowL A i).to_ : Int), ((rowL A i).next : Int), ((rowL A i).kind : Int), (i : Int), sa, ss, ())
 let lnO : Obj := .cells #[.int .i64 ((rowL A i).from_ : Int), .int .i64 ((rowL A i).to_ : Int), .int .i64 ((rowL A i).next : Int), .int .i64 ((rowL A i).kind : Int)] 36 (0, 0)
 refine (St.start w).newO fun b1 w1 S1 e1 => h.ext e1 |>.at_ hi fun w2 e2 => (S1.ext e2).newO fun b3 w3 S3 e3 => S3.aggSt 0 rfl rfl rfl rfl fun w4 S4 u4 => ?_
 have S4 : St (fun _ => False) w w4 [(b3, lnO), (b1, rwZ)] := S4
 refine join_r (fun x W => ∃ b sa, x = (at0 b, ()) ∧ St (fun _ => False) w W [(b, rwO (rw1 sa ⟨none, 0, 0⟩)), (b3, lnO), (b1, rwZ)] ∧ SlOwn W w.heap.size sa 3 1 (iv (rowB A i))) ?_ ?_
 ·refine S4.drew fun w5 S5 e5 _ => S5.lds 0 (lnT (rowL A i)) rfl (S5.ld 0 rfl (x := ((rowL A i).from_ : Int)) rfl (S5.ld 0 rfl (x := ((rowL A i).to_ : Int)) rfl ?_))
  refine ⟨?_, ?_⟩
  ·refine S5.newO fun b9 w6 S6 e6 => ?_
   refine S6.keep 1 rfl (v := .int .i64 ((rowL A i).to_ : Int)) rfl (S6.keep 1 rfl (v := .int .i64 ((rowL A i).from_ : Int)) rfl (S6.keeps 1 (x := lnT (rowL A i)) rfl ?_))
   refine (h.ext S6.upd).atoms fun sa w7 o7 e7 => ?_
   rw [sub_row] at o7
   have S7 := S6.ext e7
   have o7 := o7.mono S6.upd.size
   refine S7.keeps 1 (x := lnT (rowL A i)) rfl (S7.aggSt 0 rfl rfl rfl rfl fun w8 S8 u8 => ?_)
   exact ⟨b9, sa, rfl, S8, o7.box (S7.at_ 0 rfl) (by decide) u8⟩
  ·refine (h.ext S5.upd).atoms fun sa w6 o6 e6 => ?_
   rw [sub_row] at o6
   have S6 := S5.ext e6
   have o6 := o6.mono S5.upd.size
   refine S6.keeps 0 (x := lnT (rowL A i)) rfl ⟨?_, trivial⟩
   refine S6.newO fun b12 w7 S7 e7 => ?_
   refine S7.keep 1 rfl (v := .int .i64 ((rowL A i).to_ : Int)) rfl (S7.keep 1 rfl (v := .int .i64 ((rowL A i).from_ : Int)) rfl (S7.keeps 1 (x := lnT (rowL A i)) rfl (S7.aggSt 0 rfl rfl rfl rfl fun w8 S8 u8 => ?_)))
   exact ⟨b12, sa, rfl, S8, (o6.ext e7).box (S7.at_ 0 rfl) (by decide) u8⟩
 rintro _ W ⟨b, sa, rfl, SW, oa⟩
 refine SW.ld (off := 5) 0 rfl (x := sa) rfl ?_
 refine cbreaks_call oa.in (by rw [rowB_length hi]; have := (row_ok hi).tn; have := (row_ok hi).nl; omega) fun ss w2 o2 e2 => ?_
 rw [nv_bnd hi] at o2
 have S2 := SW.ext e2
 have o2 := o2.mono SW.upd.size
 refine S2.stC (off := 6) 0 rfl (by show 6 < 7; decide) fun w3 S3 u3 => ?_
 have S3 : St (fun _ => False) w w3 [(b, rwO (rw1 sa ss)), (b3, lnO), (b1, rwZ)] := S3
 have oa3 := (oa.ext e2).box (S2.at_ 0 rfl) (by decide) u3
 have os3 := o2.box (S2.at_ 0 rfl) (by decide) u3
 refine S3.lds 0 (rw1 sa ss) rfl (S3.aggSt 2 rfl rfl rfl rfl fun w4 S4 u4 => ?_)
 have oa4 := oa3.box (S3.at_ 2 rfl) (by decide) u4
 have os4 := os3.box (S3.at_ 2 rfl) (by decide) u4
 refine S4.lds 2 (rw1 sa ss) rfl (hK _ w4 ?_ S4.upd)
 exact ⟨hi, hA, rfl, rfl, rfl, rfl, oa4.in, os4.in⟩
theorem rowat_call (h : TxA w p A) {x : Int} {tail : Bool} {K : RwT → World → Prop} (hK : ∀ r w', RowIs w' A (rowI A x tail) r → Ext w w' → K r w') :
  callT Tryz.prog 36 #[.pointer (some (at0 p)), .int .i64 x, .bool tail] (.one (.agg c72)) K w := by
 refine F36_calls ?_
 unfold F36
 have hA := h.len; have hb := lnN_bounds A; have hbl := brs_le A; have hof := ofI_le A x
 refine (St.start w).newO fun b1 w1 S1 e1 => (h.ext e1).of fun w2 e2 => ?_
 have S2 := S1.ext e2
 have S2 : St (fun _ => False) w w2 [(b1, rwZ)] := S2
 refine join_r (fun y W => y = ((rowI A x tail : Int), ()) ∧ St (fun _ => False) w W [(b1, rwZ)]) ?_ ?_
 ·refine sif_r (fun hc => ?_) (fun hc => ?_)
  ·have ht : tail = false := by simpa using hc
   subst ht
   refine (h.ext S2.upd).count fun w3 e3 => ⟨?_, S2.ext e3⟩
   have ew : IntKind.wrap .i64 ((lnN A : Int) - 1) = ((lnN A - 1 : Nat) : Int) := by rw [wrap64 (by omega) (by omega)]; omega
   rw [ew]
   show _ = (((min (ofI A x) (lnN A - 1) : Nat) : Int), ())
   congr 1
   split <;> omega
  ·have ht : tail = true := by simpa using hc
   subst ht
   exact ⟨by unfold rowI; rw [if_pos rfl], S2⟩
 rintro _ W ⟨rfl, SW⟩
 refine nrow_call (h.ext SW.upd) (rowI_le A x tail) fun r w3 hr e3 => (SW.ext e3).aggSt 0 rfl rfl rfl rfl fun w4 S4 u4 => ?_
 have S4 : St (fun _ => False) w w4 [(b1, rwO r)] := S4
 refine S4.lds 0 r rfl (hK r w4 ⟨hr.row, hr.len, hr.f, hr.t, hr.n, hr.num, ?_, ?_⟩ S4.upd)
 ·exact hr.atoms.box ((SW.ext e3).at_ 0 rfl) (by decide) u4
 ·exact hr.starts.box ((SW.ext e3).at_ 0 rfl) (by decide) u4
theorem RowIs.box {i b : Nat} {c : Array Value} {fr : Nat × Nat} {t : TypeId} {r : RwT} (h : RowIs w A i r) (hb : w.heap[b]? = some (.cells c t fr)) (ht : 3 ≠ t) (u : Upd (fun k => k = b) w w') : RowIs w' A i r :=
 ⟨h.row, h.len, h.f, h.t, h.n, h.num, h.atoms.box hb ht u, h.starts.box hb ht u⟩
theorem mclamp_call (h : TxA w p A) {x : Int} {past : Bool} {K : Int → World → Prop} (hK : ∀ w', Ext w w' → K (clampP A x past : Int) w') :
  callT Tryz.prog 12 #[.pointer (some (at0 p)), .int .i64 x, .bool past] (.one (.one (.int .i64))) K w := by
 refine F12_calls ?_
 unfold F12
 have hA := h.len
 refine rowat_call h fun r w1 hr e1 => ?_
 refine (St.start w).ext e1 |>.newO fun b2 w2 S2 e2 => S2.aggSt 0 rfl rfl rfl rfl fun w3 S3 u3 => ?_
 have S3 : St (fun _ => False) w w3 [(b2, rwO r)] := S3
 have hr := (hr.ext e2).box (S2.at_ 0 rfl) (by decide) u3
 have fw := hr.few
 refine (h.ext S3.upd).tlen fun w4 e4 => ?_
 have S4 := S3.ext e4
 have hr := hr.ext e4
 refine S4.ld (off := 1) 0 rfl (x := r.2.1) rfl ?_
 have ein : (if ((A.length : Nat) : Int) < (if (0 : Int) > x then (0 : Int) else x) then ((A.length : Nat) : Int) else (if (0 : Int) > x then (0 : Int) else x)) = (inT A x : Int) := by
  unfold inT
  split <;> split at * <;> omega
 rw [ein, hr.t]
 unfold clampP at hK
 refine sif_r (fun hc => ?_) (fun hc => ?_)
 ·simp only [decide_eq_true_eq, ge_iff_le] at hc
  rw [if_pos (by omega)] at hK
  refine sif_r (fun hp => ?_) (fun hp => ?_)
  ·subst hp
   rw [if_pos rfl] at hK
   refine S4.ld (off := 1) 0 rfl (x := r.2.1) rfl ?_
   rw [hr.t]; exact hK w4 S4.upd
  ·subst hp
   rw [if_neg (by decide)] at hK
   refine S4.drew fun w5 S5 e5 _ => S5.lds 0 r rfl (S5.lds 0 r rfl (clus_call (hr.ext e5) fun w6 e6 => ?_))
   have S6 := S5.ext e6
   rw [wrap64 (by omega) (by omega)]
   exact S6.keeps 0 (x := r) rfl (mplace_call ((hr.ext e5).ext e6) fun w7 e7 => hK w7 (S6.ext e7).upd)
 ·simp only [decide_eq_false_iff_not, ge_iff_le] at hc
  rw [if_neg (by omega)] at hK
  refine S4.drew fun w5 S5 e5 _ => S5.lds 0 r rfl (S5.lds 0 r rfl (mcol_call (hr.ext e5) fun w6 e6 => ?_))
  have S6 := S5.ext e6
  exact S6.keeps 0 (x := r) rfl (mplace_call ((hr.ext e5).ext e6) fun w7 e7 => hK w7 (S6.ext e7).upd)
theorem mcolumn_call (h : TxA w p A) {x : Int} {K : Int → World → Prop} (hK : ∀ w', Ext w w' → K (columnP A x : Int) w') :
  callT Tryz.prog 21 #[.pointer (some (at0 p)), .int .i64 x] (.one (.one (.int .i64))) K w := by
 refine F21_calls ?_
 unfold F21
 refine rowat_call h fun r w1 hr e1 => ?_
 refine (St.start w).ext e1 |>.newO fun b2 w2 S2 e2 => S2.aggSt 0 rfl rfl rfl rfl fun w3 S3 u3 => ?_
 have S3 : St (fun _ => False) w w3 [(b2, rwO r)] := S3
 have hr := (hr.ext e2).box (S2.at_ 0 rfl) (by decide) u3
 exact S3.lds 0 r rfl (mcol_call hr fun w4 e4 => hK w4 (S3.ext e4).upd)
end
abbrev LdT := Cells.T c43 × Int × Unit
abbrev ldT (l : Ld) : LdT := ((l.1.1, l.1.2.1, l.1.2.2, ()), l.2, ())
abbrev ldZ : Obj := .cells #[.int .i64 0, .int .i64 0, .int .i64 0] 43 (0, 0)
abbrev mvO (p : Nat) (s c k : Int) (counted : Bool) (arg goal : Int) (past big : Bool) (r : RwT) : Obj :=
 .cells #[.pointer (some (at0 p)), .int .i64 s, .int .i64 c, .int .i64 k, .bool counted, .int .i64 arg, .int .i64 goal, .bool past, .bool big, .int .i64 r.1, .int .i64 r.2.1, .int .i64 r.2.2.1, .int .i64 r.2.2.2.1, .int .i64 r.2.2.2.2.1, .slice r.2.2.2.2.2.1.a r.2.2.2.2.2.1.len r.2.2.2.2.2.1.cap, .slice r.2.2.2.2.2.2.1.a r.2.2.2.2.2.2.1.len r.2.2.2.2.2.2.1.cap] 114 (0, 0)
structure MvIs (w : World) (b p : Nat) (A : List Int) (x count arg goal : Int) (past big : Bool) (r : RwT) : Prop where
 tx : TxA w p A
 obj : w.heap[b]? = some (mvO p (clampP A x past : Int) ((posP A x past).2 : Int) (kOf count : Int) (decide (0 < count)) arg goal past big r)
 row : RowIs w A (posP A x past).1 r
section
variable {w w' : World} {b p : Nat} {A : List Int} {x count arg goal : Int} {past big : Bool} {r : RwT}
theorem MvIs.ext (h : MvIs w b p A x count arg goal past big r) (e : Ext w w') : MvIs w' b p A x count arg goal past big r := ⟨h.tx.ext e, e.ext_get h.obj, h.row.ext e⟩
theorem MvIs.tK (h : MvIs w b p A x count arg goal past big r) {K : Addr → Option Addr → World → Prop} (hK : K (at0 b) (some (at0 p)) w) : nn (some (at0 b)) (fun q => ld (.ptr) q (K q)) w := nn_some (ld_r (off := 0) h.obj rfl hK)
theorem MvIs.cK (h : MvIs w b p A x count arg goal past big r) {K : Addr → Int → World → Prop} (hK : K (at0 b) ((posP A x past).2 : Int) w) : nn (some (at0 b)) (fun q => ld (.int .i64) (q.add 2) (K q)) w := nn_some (ld_r (off := 2) h.obj rfl hK)
theorem MvIs.kK (h : MvIs w b p A x count arg goal past big r) {K : Addr → Int → World → Prop} (hK : K (at0 b) (kOf count : Int) w) : nn (some (at0 b)) (fun q => ld (.int .i64) (q.add 3) (K q)) w := nn_some (ld_r (off := 3) h.obj rfl hK)
theorem MvIs.argK (h : MvIs w b p A x count arg goal past big r) {K : Addr → Int → World → Prop} (hK : K (at0 b) arg w) : nn (some (at0 b)) (fun q => ld (.int .i64) (q.add 5) (K q)) w := nn_some (ld_r (off := 5) h.obj rfl hK)
theorem MvIs.pastK (h : MvIs w b p A x count arg goal past big r) {K : Addr → Bool → World → Prop} (hK : K (at0 b) past w) : nn (some (at0 b)) (fun q => ld (.bool) (q.add 7) (K q)) w := nn_some (ld_r (off := 7) h.obj rfl hK)
theorem MvIs.fromK (h : MvIs w b p A x count arg goal past big r) {K : Addr → Int → World → Prop} (hK : K (at0 b) r.1 w) : nn (some (at0 b)) (fun q => ld (.int .i64) (q.add 9) (K q)) w := nn_some (ld_r (off := 9) h.obj rfl hK)
theorem mv_cells {o : Array Value} {off : Nat} {r : RwT} (h : (o.toList.drop off).take 7 = Cells.vals c72 r) : ∀ (j : Nat) v, (Cells.vals c72 r)[j]? = some v → o[off + j]? = some v := by
 intro j v hv
 rw [← h, List.getElem?_take] at hv
 split at hv
 ·rw [List.getElem?_drop] at hv
  simpa using hv
 ·cases hv
theorem MvIs.rowK (h : MvIs w b p A x count arg goal past big r) {K : Addr → RwT → World → Prop} (hK : K (at0 b) r w) : nn (some (at0 b)) (fun q => lds c72 (q.add 9) (K q)) w :=
 nn_some (lds_r (off := 9) h.obj (mv_cells (by rfl)) hK)
theorem MvIs.keepRow (h : MvIs w b p A x count arg goal past big r) {K : World → Prop} (hK : K w) : keep (fun w => cellsAt w ((at0 b).add 9) 0 (Cells.vals c72 r)) K w :=
 keep_r (cellsAt_of (off := 9) _ 0 fun j v hv => by rw [Nat.zero_add]; exact cell_of h.obj (mv_cells (r := r) (by rfl) j v hv)) hK
theorem MvIs.keepC (h : MvIs w b p A x count arg goal past big r) {K : World → Prop} (hK : K w) : keep (fun w => w.cell? ((at0 b).add 2) = some (Cell.val (.int .i64) ((posP A x past).2 : Int))) K w := keep_r (cell_of (off := 2) h.obj rfl) hK
theorem MvIs.keepK (h : MvIs w b p A x count arg goal past big r) {K : World → Prop} (hK : K w) : keep (fun w => w.cell? ((at0 b).add 3) = some (Cell.val (.int .i64) (kOf count : Int))) K w := keep_r (cell_of (off := 3) h.obj rfl) hK
theorem MvIs.keepArg (h : MvIs w b p A x count arg goal past big r) {K : World → Prop} (hK : K w) : keep (fun w => w.cell? ((at0 b).add 5) = some (Cell.val (.int .i64) arg)) K w := keep_r (cell_of (off := 5) h.obj rfl) hK
theorem fin_r {W w0 : World} {b1 : Nat} {l : Ld} {K : LdT → World → Prop} (S : St (fun _ => False) w0 W [(b1, ldZ)]) (hK : ∀ w', Ext w0 w' → K (ldT l) w') :
  aggSt (at0 b1) (.agg (Cells.vals c43 (ldT l).1).toArray) 3 (lds c43 (at0 b1) fun y => K (y, (ldT l).2.1, ())) W :=
 S.aggSt 0 rfl rfl rfl rfl fun w1 S1 _ => S1.lds 0 (ldT l).1 rfl (hK w1 S1.upd)
theorem nowhere_call {K : LdT → World → Prop} (hK : ∀ w', Ext w w' → K (ldT (noP 80)) w') : callT Tryz.prog 120 #[] (.tup [(.agg c43), (.one (.int .i64))]) K w := by
 refine F120_calls ?_
 unfold F120
 exact (St.start w).newO fun b1 w1 S1 e1 => S1.aggSt 0 rfl rfl rfl rfl fun w2 S2 _ => S2.lds 0 (ldT (noP 80)).1 rfl (hK w2 S2.upd)
theorem mvat_call (h : MvIs w b p A x count arg goal past big r) {n : Nat} {kind : Int} {K : LdT → World → Prop} (hK : ∀ w', Ext w w' → K (ldT (landP A n kind)) w') :
  callT Tryz.prog 121 #[.pointer (some (at0 b)), .int .i64 (n : Int), .int .i64 kind] (.tup [(.agg c43), (.one (.int .i64))]) K w := by
 refine F121_calls ?_
 unfold F121
 refine (St.start w).newO fun b1 w1 S1 e1 => (h.ext e1).tK (mcolumn_call (h.ext e1).tx fun w2 e2 => ?_)
 exact (S1.ext e2).aggSt 0 rfl rfl rfl rfl fun w3 S3 _ => S3.lds 0 (ldT (landP A n kind)).1 rfl (hK w3 S3.upd)
theorem mvmost_call (h : MvIs w b p A x count arg goal past big r) {K : Int → World → Prop} (hK : ∀ w', Ext w w' → K (mostR A (posP A x past).1 past : Int) w') :
  callT Tryz.prog 122 #[.pointer (some (at0 b))] (.one (.one (.int .i64))) K w := by
 refine F122_calls ?_
 unfold F122
 have fw := h.row.few
 unfold mostR at hK
 refine h.pastK (sif_r (fun hp => ?_) (fun hp => ?_))
 ·refine h.rowK (clus_call h.row fun w1 e1 => ?_)
  have := hK w1 e1
  rw [if_pos hp] at this; exact this
 ·refine h.rowK (clus_call h.row fun w1 e1 => ?_)
  have := hK w1 e1
  rw [if_neg (by rw [hp]; decide)] at this
  rw [wrap64 (by omega) (by omega)]
  have e : (if (0 : Int) > (((rowC A (posP A x past).1).length : Nat) : Int) - 1 then (0 : Int) else (((rowC A (posP A x past).1).length : Nat) : Int) - 1) = (((rowC A (posP A x past).1).length - 1 : Nat) : Int) := by split <;> omega
  rw [e]; exact this
theorem MvIs.bounds (h : MvIs w b p A x count arg goal past big r) : (posP A x past).2 ≤ mostR A (posP A x past).1 past ∧ mostR A (posP A x past).1 past ≤ (rowC A (posP A x past).1).length ∧ (rowC A (posP A x past).1).length ≤ 1048576 ∧ 1 ≤ kOf count ∧ kOf count ≤ 9999 ∧ (posP A x past).1 ≤ brs A ∧ (posP A x past).1 ≤ 1048576 := by
 have h1 := pos_most A x past
 have h2 := h.row.few
 have h3 := h.row.row
 have h4 := brs_le A
 have h5 := h.row.len
 exact ⟨h1.1, h1.2, h2.1, kOf_pos count, kOf_le count, h3, by omega⟩
theorem left_call (h : MvIs w b p A x count arg goal past big r) {a' : Int} {K : LdT → World → Prop} (hK : ∀ w', Ext w w' → K (ldT (charsP A x 1 count a' past)) w') :
  callT Tryz.prog 70 #[.pointer (some (at0 b))] (.tup [(.agg c43), (.one (.int .i64))]) K w := by
 refine F70_calls ?_
 unfold F70
 obtain ⟨m1, m2, m3, m4, m5, m6, m7⟩ := h.bounds
 rw [chars_one] at hK
 refine (St.start w).newO fun b1 w1 S1 e1 => ?_
 have h1 := h.ext e1
 refine h1.cK (sif_r (fun hc => ?_) (fun hc => ?_))
 ·simp only [beq_iff_eq] at hc
  rw [if_pos (by omega)] at hK
  exact nowhere_call fun w2 e2 => fin_r (S1.ext e2) hK
 ·simp only [beq_eq_false_iff_ne, ne_eq] at hc
  rw [if_neg (by omega)] at hK
  refine S1.drew fun w2 S2 e2 _ => ?_
  have h2 := h1.ext e2
  refine h2.rowK (h2.cK (h2.kK ?_))
  rw [wrap64 (by omega) (by omega)]
  refine mplace_call h2.row fun w3 e3 => mvat_call (h2.ext e3) fun w4 e4 => fin_r ((S2.ext e3).ext e4) ?_
  have e : placeR A (posP A x past).1 (((posP A x past).2 : Int) - (kOf count : Int)) = offP A ((posP A x past).1, (posP A x past).2 - kOf count) := by
   unfold offP
   dsimp only
   rcases Nat.le_total (posP A x past).2 (kOf count) with u | u
   ·rw [placeR_neg (by omega), placeR_neg (c := (((posP A x past).2 - kOf count : Nat) : Int)) (by omega)]
   ·congr 1; omega
  rw [e]; exact hK
theorem right_call (h : MvIs w b p A x count arg goal past big r) {a' : Int} {K : LdT → World → Prop} (hK : ∀ w', Ext w w' → K (ldT (charsP A x 2 count a' past)) w') :
  callT Tryz.prog 71 #[.pointer (some (at0 b))] (.tup [(.agg c43), (.one (.int .i64))]) K w := by
 refine F71_calls ?_
 unfold F71
 obtain ⟨m1, m2, m3, m4, m5, m6, m7⟩ := h.bounds
 rw [chars_two] at hK
 refine (St.start w).newO fun b1 w1 S1 e1 => S1.drew fun w2 S2 e2 _ => ?_
 have h2 := (h.ext e1).ext e2
 refine h2.cK (mvmost_call h2 fun w3 e3 => (h2.ext e3).keepC (sif_r (fun hc => ?_) (fun hc => ?_)))
 ·simp only [beq_iff_eq] at hc
  rw [if_pos (by omega)] at hK
  exact nowhere_call fun w4 e4 => fin_r ((S2.ext e3).ext e4) hK
 ·simp only [beq_eq_false_iff_ne, ne_eq] at hc
  rw [if_neg (by omega)] at hK
  refine (S2.ext e3).drew fun w4 S4 e4 _ => ?_
  have h4 := (h2.ext e3).ext e4
  refine h4.rowK (h4.cK (h4.kK (mvmost_call h4 fun w5 e5 => ?_)))
  have h5 := h4.ext e5
  refine h5.keepK (h5.keepC (h5.keepRow ?_))
  rw [wrap64 (by omega) (by omega)]
  have em : (if ((mostR A (posP A x past).1 past : Nat) : Int) < ((posP A x past).2 : Int) + (kOf count : Int) then ((mostR A (posP A x past).1 past : Nat) : Int) else ((posP A x past).2 : Int) + (kOf count : Int)) = ((min ((posP A x past).2 + kOf count) (mostR A (posP A x past).1 past) : Nat) : Int) := by split <;> omega
  rw [em]
  exact mplace_call h5.row fun w6 e6 => mvat_call (h5.ext e6) fun w7 e7 => fin_r (((S4.ext e5).ext e6).ext e7) hK
theorem chars_three (A : List Int) (x count arg : Int) (past : Bool) : charsP A x 3 count arg past = landP A (rowL A (posP A x past).1).from_ 0 := by
 unfold charsP posP
 dsimp only
 rw [clamp_row, if_neg (by decide), if_neg (by decide), if_pos rfl]
theorem chars_four (A : List Int) (x count arg : Int) (past : Bool) : charsP A x 4 count arg past = landP A (placeR A (posP A x past).1 (signR A (posP A x past).1)) 0 := by
 unfold charsP posP
 dsimp only
 rw [clamp_row, if_neg (by decide), if_neg (by decide), if_neg (by decide), if_pos rfl]
theorem chars_six (A : List Int) (x count arg : Int) (past : Bool) : charsP A x 6 count arg past = landP A (placeR A (posP A x past).1 (min ((kOf count : Int) - 1) (mostR A (posP A x past).1 past))) 0 := by
 unfold charsP posP mostR
 dsimp only
 rw [clamp_row, if_neg (by decide), if_neg (by decide), if_neg (by decide), if_neg (by decide), if_neg (by decide), if_pos rfl]
theorem start_call (h : MvIs w b p A x count arg goal past big r) {a' : Int} {K : LdT → World → Prop} (hK : ∀ w', Ext w w' → K (ldT (charsP A x 3 count a' past)) w') :
  callT Tryz.prog 72 #[.pointer (some (at0 b))] (.tup [(.agg c43), (.one (.int .i64))]) K w := by
 refine F72_calls ?_
 unfold F72
 rw [chars_three] at hK
 refine (St.start w).newO fun b1 w1 S1 e1 => (h.ext e1).fromK ?_
 rw [h.row.f]
 exact mvat_call (h.ext e1) fun w2 e2 => fin_r (S1.ext e2) hK
theorem mfst_call (h : MvIs w b p A x count arg goal past big r) {a' : Int} {K : LdT → World → Prop} (hK : ∀ w', Ext w w' → K (ldT (charsP A x 4 count a' past)) w') :
  callT Tryz.prog 73 #[.pointer (some (at0 b))] (.tup [(.agg c43), (.one (.int .i64))]) K w := by
 refine F73_calls ?_
 unfold F73
 rw [chars_four] at hK
 refine (St.start w).newO fun b1 w1 S1 e1 => S1.drew fun w2 S2 e2 _ => ?_
 have h2 := (h.ext e1).ext e2
 refine h2.rowK (h2.rowK (msign_call h2.row fun w3 e3 => ?_))
 have h3 := h2.ext e3
 exact h3.keepRow (mplace_call h3.row fun w4 e4 => mvat_call (h3.ext e4) fun w5 e5 => fin_r (((S2.ext e3).ext e4).ext e5) hK)
theorem bar_call (h : MvIs w b p A x count arg goal past big r) {a' : Int} {K : LdT → World → Prop} (hK : ∀ w', Ext w w' → K (ldT (charsP A x 6 count a' past)) w') :
  callT Tryz.prog 75 #[.pointer (some (at0 b))] (.tup [(.agg c43), (.one (.int .i64))]) K w := by
 refine F75_calls ?_
 unfold F75
 obtain ⟨m1, m2, m3, m4, m5, m6, m7⟩ := h.bounds
 rw [chars_six] at hK
 refine (St.start w).newO fun b1 w1 S1 e1 => S1.drew fun w2 S2 e2 _ => ?_
 have h2 := (h.ext e1).ext e2
 refine h2.rowK (h2.kK (mvmost_call h2 fun w3 e3 => ?_))
 have h3 := h2.ext e3
 refine h3.keepK (h3.keepRow ?_)
 rw [wrap64 (by omega) (by omega)]
 have em : (if ((mostR A (posP A x past).1 past : Nat) : Int) < (kOf count : Int) - 1 then ((mostR A (posP A x past).1 past : Nat) : Int) else (kOf count : Int) - 1) = min ((kOf count : Int) - 1) (mostR A (posP A x past).1 past) := by split <;> omega
 rw [em]
 exact mplace_call h3.row fun w4 e4 => mvat_call (h3.ext e4) fun w5 e5 => fin_r (((S2.ext e3).ext e4).ext e5) hK
end
section
variable {w w' : World} {b p : Nat} {A : List Int} {x count arg goal : Int} {past big : Bool} {r : RwT}
noncomputable def hasA (A : List Int) (i : Nat) (a : Int) (j : Nat) : Bool := decide ((rowC A i)[j]?.map (·.atom) = some a)
theorem seek_up (A : List Int) (i : Nat) (a : Int) (n c k : Nat) : seekL (rowC A i) a (upL n c) k = upF (hasA A i a) (c + 1) n k := rfl
theorem seek_dn (A : List Int) (i : Nat) (a : Int) (c k : Nat) : seekL (rowC A i) a (downL c) k = dnF (hasA A i a) c k := rfl
theorem has_at {i j : Nat} {a : Int} {c : Cel} (hc : (rowC A i)[j]? = some c) : hasA A i a j = decide (c.atom = a) := by
 unfold hasA
 rw [hc]
 simp
theorem mvseek_call (h : MvIs w b p A x count arg goal past big r) {K : Int → World → Prop}
  (hK : ∀ w', Ext w w' → K (match seekL (rowC A (posP A x past).1) arg (upL (rowC A (posP A x past).1).length (posP A x past).2) (kOf count) with | some j => (j : Int) | none => -1) w') :
  callT Tryz.prog 151 #[.pointer (some (at0 b)), .int .i64 1] (.one (.one (.int .i64))) K w := by
 refine F151_calls ?_
 unfold F151
 obtain ⟨m1, m2, m3, m4, m5, m6, m7⟩ := h.bounds
 rw [seek_up] at hK
 generalize hi : (posP A x past).1 = i at *
 generalize hcc : (posP A x past).2 = c at *
 refine h.kK (join_r (fun _ W => upF (hasA A i arg) (c + 1) (rowC A i).length (kOf count) = none ∧ Ext w W) ?_ (fun _ W hW => by have := hK W hW.2; rw [hW.1] at this; exact this))
 refine h.cK ?_
 rw [hcc, wrap64 (by omega) (by omega)]
 refine sloop_r (fun s W => ∃ k j : Nat, s = ((k : Int), (j : Int), ()) ∧ 1 ≤ k ∧ k ≤ 9999 ∧ j ≤ (rowC A i).length + 1 ∧ upF (hasA A i arg) (c + 1) (rowC A i).length (kOf count) = upF (hasA A i arg) j (rowC A i).length k ∧ Ext w W) (fun s _ => ((rowC A i).length + 1 - s.2.1).toNat) ⟨kOf count, c + 1, by simp, m4, m5, by omega, rfl, Ext.refl w⟩ ?_
 rintro _ W ⟨k, j, rfl, k1, k2, hj, hu, eW⟩
 dsimp only
 have hW := h.ext eW
 have hrow := hW.row
 rw [hi] at hrow
 refine join_r (fun y W' => y = (decide (j < (rowC A i).length), ()) ∧ Ext w W') ?_ ?_
 ·refine sif_r (fun _ => hW.rowK (clus_call hrow fun w2 e2 => ⟨tupb ?_, eW.trans e2⟩)) (fun hc => ?_)
  ·simp only [decide_eq_true_eq]; omega
  ·simp only [decide_eq_false_iff_not, ge_iff_le] at hc; omega
 rintro _ W2 ⟨rfl, eW2⟩
 have h2 := h.ext eW2
 refine sif_r (fun hc => ?_) (fun hc => ?_)
 ·simp only [decide_eq_true_eq] at hc
  obtain ⟨cl, hcl⟩ := cel_get hc
  have ew : IntKind.wrap .i64 ((j : Int) + 1) = ((j + 1 : Nat) : Int) := by rw [wrap64 (by omega) (by omega)]; omega
  rw [ew]
  refine join_r (fun y W' => ∃ k' : Nat, y = ((k' : Int), ()) ∧ 1 ≤ k' ∧ k' ≤ 9999 ∧ upF (hasA A i arg) j (rowC A i).length k = upF (hasA A i arg) (j + 1) (rowC A i).length k' ∧ Ext w W') ?_ ?_
  ·refine drew_r fun w3 e3 _ => ?_
   have h3 := h2.ext e3
   have hr3 := h3.row
   rw [hi] at hr3
   refine h3.rowK (h3.argK (mfirst_call hr3 hcl fun w4 e4 => (h3.ext e4).keepArg ?_))
   have e04 := (eW2.trans e3).trans e4
   refine sif_r (fun hg => ?_) (fun hg => ?_)
   ·simp only [bne_iff_ne, ne_eq] at hg
    exact ⟨k, rfl, k1, k2, upF_no hc (by rw [has_at hcl, decide_eq_false hg]), e04⟩
   ·simp only [bne_eq_false_iff_eq] at hg
    have hf : hasA A i arg j = true := by rw [has_at hcl, decide_eq_true hg]
    have ewk : IntKind.wrap .i64 ((k : Int) - 1) = ((k - 1 : Nat) : Int) := by rw [wrap64 (by omega) (by omega)]; omega
    rw [ewk]
    refine sif_r (fun hz => ?_) (fun hz => ?_)
    ·simp only [beq_iff_eq] at hz
     have : k = 1 := by omega
     subst this
     have := hK w4 e04
     rw [hu, upF_one hc hf] at this
     exact this
    ·simp only [beq_eq_false_iff_ne, ne_eq] at hz
     refine ⟨k - 1, rfl, by omega, by omega, ?_, e04⟩
     conv => lhs; rw [show k = (k - 1) + 1 by omega]
     exact upF_more hc hf (by omega)
  rintro _ W3 ⟨k', rfl, k1', k2', hu', eW3⟩
  exact ⟨⟨k', j + 1, rfl, k1', k2', by omega, hu.trans hu', eW3⟩, by omega⟩
 ·simp only [decide_eq_false_iff_not] at hc
  exact ⟨hu.trans (upF_none (by omega)), eW2⟩
theorem seekb_call (h : MvIs w b p A x count arg goal past big r) {K : Int → World → Prop}
  (hK : ∀ w', Ext w w' → K (match seekL (rowC A (posP A x past).1) arg (downL (posP A x past).2) (kOf count) with | some j => (j : Int) | none => -1) w') :
  callT Tryz.prog 151 #[.pointer (some (at0 b)), .int .i64 (-1)] (.one (.one (.int .i64))) K w := by
 refine F151_calls ?_
 unfold F151
 obtain ⟨m1, m2, m3, m4, m5, m6, m7⟩ := h.bounds
 rw [seek_dn] at hK
 generalize hi : (posP A x past).1 = i at *
 generalize hcc : (posP A x past).2 = c at *
 refine h.kK (join_r (fun _ W => dnF (hasA A i arg) c (kOf count) = none ∧ Ext w W) ?_ (fun _ W hW => by have := hK W hW.2; rw [hW.1] at this; exact this))
 refine h.cK ?_
 rw [hcc, wrap64 (by omega) (by omega)]
 refine sloop_r (fun s W => ∃ k j : Nat, s = ((k : Int), (j : Int) - 1, ()) ∧ 1 ≤ k ∧ k ≤ 9999 ∧ j ≤ (rowC A i).length ∧ dnF (hasA A i arg) c (kOf count) = dnF (hasA A i arg) j k ∧ Ext w W) (fun s _ => (s.2.1 + 1).toNat) ⟨kOf count, c, rfl, m4, m5, by omega, rfl, Ext.refl w⟩ ?_
 rintro _ W ⟨k, j, rfl, k1, k2, hj, hu, eW⟩
 dsimp only
 have hW := h.ext eW
 have hrow := hW.row
 rw [hi] at hrow
 refine join_r (fun y W' => y = (decide (0 < j), ()) ∧ Ext w W') ?_ ?_
 ·refine sif_r (fun hc => hW.rowK (clus_call hrow fun w2 e2 => ⟨tupb ?_, eW.trans e2⟩)) (fun hc => ⟨tupb ?_, eW⟩)
  ·simp only [decide_eq_true_eq, ge_iff_le] at hc ⊢; omega
  ·simp only [decide_eq_false_iff_not, ge_iff_le, decide_eq_true_eq, Bool.false_eq_true, false_iff] at hc ⊢; omega
 rintro _ W2 ⟨rfl, eW2⟩
 have h2 := h.ext eW2
 refine sif_r (fun hc => ?_) (fun hc => ?_)
 ·simp only [decide_eq_true_eq] at hc
  obtain ⟨m, rfl⟩ : ∃ m, j = m + 1 := ⟨j - 1, by omega⟩
  have em : ((m + 1 : Nat) : Int) - 1 = (m : Int) := by omega
  rw [em]
  obtain ⟨cl, hcl⟩ := cel_get (C := rowC A i) (j := m) (by omega)
  have ew : IntKind.wrap .i64 ((m : Int) + -1) = (m : Int) - 1 := by rw [wrap64 (by omega) (by omega)]; omega
  rw [ew]
  refine join_r (fun y W' => ∃ k' : Nat, y = ((k' : Int), ()) ∧ 1 ≤ k' ∧ k' ≤ 9999 ∧ dnF (hasA A i arg) (m + 1) k = dnF (hasA A i arg) m k' ∧ Ext w W') ?_ ?_
  ·refine drew_r fun w3 e3 _ => ?_
   have h3 := h2.ext e3
   have hr3 := h3.row
   rw [hi] at hr3
   refine h3.rowK (h3.argK (mfirst_call hr3 hcl fun w4 e4 => (h3.ext e4).keepArg ?_))
   have e04 := (eW2.trans e3).trans e4
   refine sif_r (fun hg => ?_) (fun hg => ?_)
   ·simp only [bne_iff_ne, ne_eq] at hg
    exact ⟨k, rfl, k1, k2, dnF_no (by rw [has_at hcl, decide_eq_false hg]), e04⟩
   ·simp only [bne_eq_false_iff_eq] at hg
    have hf : hasA A i arg m = true := by rw [has_at hcl, decide_eq_true hg]
    have ewk : IntKind.wrap .i64 ((k : Int) - 1) = ((k - 1 : Nat) : Int) := by rw [wrap64 (by omega) (by omega)]; omega
    rw [ewk]
    refine sif_r (fun hz => ?_) (fun hz => ?_)
    ·simp only [beq_iff_eq] at hz
     have : k = 1 := by omega
     subst this
     have := hK w4 e04
     rw [hu, dnF_one hf] at this
     exact this
    ·simp only [beq_eq_false_iff_ne, ne_eq] at hz
     refine ⟨k - 1, rfl, by omega, by omega, ?_, e04⟩
     conv => lhs; rw [show k = (k - 1) + 1 by omega]
     exact dnF_more hf (by omega)
  rintro _ W3 ⟨k', rfl, k1', k2', hu', eW3⟩
  exact ⟨⟨k', m, rfl, k1', k2', by omega, hu.trans hu', eW3⟩, by omega⟩
 ·simp only [decide_eq_false_iff_not] at hc
  have : j = 0 := by omega
  subst this
  exact ⟨hu, eW2⟩
theorem seek_lt {C : List Cel} {a : Int} {n c k j : Nat} (h : seekL C a (upL n c) k = some j) : c + 1 ≤ j ∧ j < n := by
 have := (seekL_mem h).1
 unfold upL at this
 rw [List.mem_range'_1] at this
 omega
theorem seek_dlt {C : List Cel} {a : Int} {c k j : Nat} (h : seekL C a (downL c) k = some j) : j < c := by
 have := (seekL_mem h).1
 unfold downL at this
 rw [List.mem_reverse, List.mem_range] at this
 omega
theorem found_call (h : MvIs w b p A x count arg goal past big r) {be kd : Int} (hb : -1 ≤ be ∧ be ≤ 1) {K : LdT → World → Prop}
  (hK : ∀ w', Ext w w' → K (ldT (match seekL (rowC A (posP A x past).1) arg (upL (rowC A (posP A x past).1).length (posP A x past).2) (kOf count) with | some j => landP A (placeR A (posP A x past).1 ((j : Int) + be)) kd | none => noP 80)) w') :
  callT Tryz.prog 124 #[.pointer (some (at0 b)), .int .i64 1, .int .i64 be, .int .i64 kd] (.tup [(.agg c43), (.one (.int .i64))]) K w := by
 refine F124_calls ?_
 unfold F124
 obtain ⟨m1, m2, m3, m4, m5, m6, m7⟩ := h.bounds
 refine (St.start w).newO fun b1 w1 S1 e1 => mvseek_call (h.ext e1) fun w2 e2 => ?_
 have S2 := S1.ext e2
 have h2 := (h.ext e1).ext e2
 cases hs : seekL (rowC A (posP A x past).1) arg (upL (rowC A (posP A x past).1).length (posP A x past).2) (kOf count) with
 | none =>
  rw [hs] at hK
  refine sif_r (fun _ => ?_) (fun hc => by simp at hc)
  exact nowhere_call fun w4 e4 => fin_r (S2.ext e4) hK
 | some j =>
  rw [hs] at hK
  have hlt := seek_lt hs
  refine sif_r (fun hc => by simp at hc; omega) (fun _ => ?_)
  refine h2.rowK ?_
  dsimp only at hK ⊢
  rw [wrap64 (by omega) (by omega)]
  exact mplace_call h2.row fun w6 e6 => mvat_call (h2.ext e6) fun w7 e7 => fin_r ((S2.ext e6).ext e7) hK
theorem foundb_call (h : MvIs w b p A x count arg goal past big r) {be kd : Int} (hb : -1 ≤ be ∧ be ≤ 1) {K : LdT → World → Prop}
  (hK : ∀ w', Ext w w' → K (ldT (match seekL (rowC A (posP A x past).1) arg (downL (posP A x past).2) (kOf count) with | some j => landP A (placeR A (posP A x past).1 ((j : Int) + be)) kd | none => noP 80)) w') :
  callT Tryz.prog 124 #[.pointer (some (at0 b)), .int .i64 (-1), .int .i64 be, .int .i64 kd] (.tup [(.agg c43), (.one (.int .i64))]) K w := by
 refine F124_calls ?_
 unfold F124
 obtain ⟨m1, m2, m3, m4, m5, m6, m7⟩ := h.bounds
 refine (St.start w).newO fun b1 w1 S1 e1 => seekb_call (h.ext e1) fun w2 e2 => ?_
 have S2 := S1.ext e2
 have h2 := (h.ext e1).ext e2
 cases hs : seekL (rowC A (posP A x past).1) arg (downL (posP A x past).2) (kOf count) with
 | none =>
  rw [hs] at hK
  refine sif_r (fun _ => ?_) (fun hc => by simp at hc)
  exact nowhere_call fun w4 e4 => fin_r (S2.ext e4) hK
 | some j =>
  rw [hs] at hK
  have hlt := seek_dlt hs
  refine sif_r (fun hc => by simp at hc; omega) (fun _ => ?_)
  refine h2.rowK ?_
  dsimp only at hK ⊢
  rw [wrap64 (by omega) (by omega)]
  exact mplace_call h2.row fun w6 e6 => mvat_call (h2.ext e6) fun w7 e7 => fin_r ((S2.ext e6).ext e7) hK
theorem find_call' (h : MvIs w b p A x count arg goal past big r) {K : LdT → World → Prop} (hK : ∀ w', Ext w w' → K (ldT (charsP A x 7 count arg past)) w') :
  callT Tryz.prog 76 #[.pointer (some (at0 b))] (.tup [(.agg c43), (.one (.int .i64))]) K w := by
 refine F76_calls ?_
 unfold F76
 rw [(chars_seek A x count arg past).1] at hK
 refine (St.start w).newO fun b1 w1 S1 e1 => found_call (h.ext e1) (by decide) fun w2 e2 => fin_r (S1.ext e2) fun w' e' => ?_
 have := hK w' e'
 cases hs : seekL (rowC A (posP A x past).1) arg (upL (rowC A (posP A x past).1).length (posP A x past).2) (kOf count) with
 | none => rw [hs] at this; exact this
 | some j => rw [hs] at this; dsimp only at this ⊢; rw [Int.add_zero]; exact this
theorem till_call (h : MvIs w b p A x count arg goal past big r) {K : LdT → World → Prop} (hK : ∀ w', Ext w w' → K (ldT (charsP A x 9 count arg past)) w') :
  callT Tryz.prog 78 #[.pointer (some (at0 b))] (.tup [(.agg c43), (.one (.int .i64))]) K w := by
 refine F78_calls ?_
 unfold F78
 rw [(chars_seek A x count arg past).2.1] at hK
 refine (St.start w).newO fun b1 w1 S1 e1 => found_call (h.ext e1) (by decide) fun w2 e2 => fin_r (S1.ext e2) fun w' e' => ?_
 have := hK w' e'
 cases hs : seekL (rowC A (posP A x past).1) arg (upL (rowC A (posP A x past).1).length (posP A x past).2) (kOf count) with
 | none => rw [hs] at this; exact this
 | some j => rw [hs] at this; exact this
theorem findb_call (h : MvIs w b p A x count arg goal past big r) {K : LdT → World → Prop} (hK : ∀ w', Ext w w' → K (ldT (charsP A x 8 count arg past)) w') :
  callT Tryz.prog 77 #[.pointer (some (at0 b))] (.tup [(.agg c43), (.one (.int .i64))]) K w := by
 refine F77_calls ?_
 unfold F77
 rw [(chars_seek A x count arg past).2.2.1] at hK
 refine (St.start w).newO fun b1 w1 S1 e1 => foundb_call (h.ext e1) (by decide) fun w2 e2 => fin_r (S1.ext e2) fun w' e' => ?_
 have := hK w' e'
 cases hs : seekL (rowC A (posP A x past).1) arg (downL (posP A x past).2) (kOf count) with
 | none => rw [hs] at this; exact this
 | some j => rw [hs] at this; dsimp only at this ⊢; rw [Int.add_zero]; exact this
theorem tillb_call (h : MvIs w b p A x count arg goal past big r) {K : LdT → World → Prop} (hK : ∀ w', Ext w w' → K (ldT (charsP A x 10 count arg past)) w') :
  callT Tryz.prog 79 #[.pointer (some (at0 b))] (.tup [(.agg c43), (.one (.int .i64))]) K w := by
 refine F79_calls ?_
 unfold F79
 rw [(chars_seek A x count arg past).2.2.2] at hK
 refine (St.start w).newO fun b1 w1 S1 e1 => foundb_call (h.ext e1) (by decide) fun w2 e2 => fin_r (S1.ext e2) fun w' e' => ?_
 have := hK w' e'
 cases hs : seekL (rowC A (posP A x past).1) arg (downL (posP A x past).2) (kOf count) with
 | none => rw [hs] at this; exact this
 | some j => rw [hs] at this; exact this
theorem chars_five (A : List Int) (x count arg : Int) (past : Bool) : charsP A x 5 count arg past = ((((placeR A (if (posP A x past).1 < lnN A - 1 ∧ 1 < kOf count then min ((posP A x past).1 + kOf count - 1) (lnN A - 1) else (posP A x past).1) (((rowC A (if (posP A x past).1 < lnN A - 1 ∧ 1 < kOf count then min ((posP A x past).1 + kOf count - 1) (lnN A - 1) else (posP A x past).1)).length : Int) - 1) : Nat) : Int), 1, 100000), 0) := by
 unfold charsP posP
 dsimp only
 rw [clamp_row, if_neg (by decide), if_neg (by decide), if_neg (by decide), if_neg (by decide), if_pos rfl]
theorem end_call (h : MvIs w b p A x count arg goal past big r) {a' : Int} {K : LdT → World → Prop} (hK : ∀ w', Ext w w' → K (ldT (charsP A x 5 count a' past)) w') :
  callT Tryz.prog 74 #[.pointer (some (at0 b))] (.tup [(.agg c43), (.one (.int .i64))]) K w := by
 refine F74_calls ?_
 unfold F74
 obtain ⟨m1, m2, m3, m4, m5, m6, m7⟩ := h.bounds
 have hb := lnN_bounds A; have hA := h.row.len; have hbl := brs_le A
 rw [chars_five] at hK
 refine (St.start w).newO fun b1 w1 S1 e1 => (h.ext e1).rowK (S1.newO fun b4 w2 S2 e2 => S2.aggSt 0 rfl rfl rfl rfl fun w3 S3 u3 => ?_)
 have S3 : St (fun _ => False) w w3 [(b4, rwO r), (b1, ldZ)] := S3
 have h3 := h.ext S3.upd
 have ewl : IntKind.wrap .i64 ((lnN A : Int) - 1) = (lnN A : Int) - 1 := wrap64 (by omega) (by omega)
 refine join_r (fun _ W => ∃ r', St (fun _ => False) w W [(b4, rwO r'), (b1, ldZ)] ∧ RowIs W A (if (posP A x past).1 < lnN A - 1 ∧ 1 < kOf count then min ((posP A x past).1 + kOf count - 1) (lnN A - 1) else (posP A x past).1) r') ?_ ?_
 ·refine h3.tK (h3.tx.count fun w4 e4 => ?_)
  have S4 := S3.ext e4
  have h4 := h3.ext e4
  rw [ewl]
  refine join_r (fun y W => y = (decide ((posP A x past).1 < lnN A - 1 ∧ 1 < kOf count), ()) ∧ w4 = W) ?_ ?_
  ·refine S4.ld (off := 4) 0 rfl (x := r.2.2.2.2.1) rfl ?_
   rw [h.row.num]
   refine sif_r (fun hc => h4.kK ⟨tupb ?_, rfl⟩) (fun hc => ⟨tupb ?_, rfl⟩)
   ·simp only [decide_eq_true_eq, gt_iff_lt] at hc ⊢; omega
   ·simp only [decide_eq_false_iff_not, decide_eq_true_eq, Bool.false_eq_true, false_iff] at hc ⊢; omega
  rintro _ _ ⟨rfl, rfl⟩
  refine sif_r (fun hc => ?_) (fun hc => ?_)
  ·have hc := of_decide_eq_true hc
   rw [if_pos hc]
   refine S4.drew fun w5 S5 e5 _ => ?_
   have h5 := h4.ext e5
   refine h5.tK (S5.ld (off := 4) 0 rfl (x := r.2.2.2.2.1) rfl (h5.kK ?_))
   rw [h.row.num, wrap64 (a := ((posP A x past).1 : Int) + (kOf count : Int)) (by omega) (by omega), wrap64 (by omega) (by omega)]
   have em : (if (lnN A : Int) - 1 < ((posP A x past).1 : Int) + (kOf count : Int) - 1 then (lnN A : Int) - 1 else ((posP A x past).1 : Int) + (kOf count : Int) - 1) = ((min ((posP A x past).1 + kOf count - 1) (lnN A - 1) : Nat) : Int) := by split <;> omega
   rw [em]
   refine nrow_call h5.tx (by omega) fun r' w6 hr' e6 => (S5.ext e6).aggSt 0 rfl rfl rfl rfl fun w7 S7 u7 => ⟨r', S7, hr'.box ((S5.ext e6).at_ 0 rfl) (by decide) u7⟩
  ·rw [if_neg (of_decide_eq_false hc)]
   exact ⟨r, S4, h4.row⟩
 rintro _ W ⟨r', SW, hr'⟩
 generalize (if (posP A x past).1 < lnN A - 1 ∧ 1 < kOf count then min ((posP A x past).1 + kOf count - 1) (lnN A - 1) else (posP A x past).1) = j at *
 have fw := hr'.few
 refine SW.drew fun w5 S5 e5 _ => S5.lds 0 r' rfl (S5.lds 0 r' rfl (clus_call (hr'.ext e5) fun w6 e6 => ?_))
 have S6 := S5.ext e6
 rw [wrap64 (by omega) (by omega)]
 refine S6.keeps 0 (x := r') rfl (mplace_call ((hr'.ext e5).ext e6) fun w7 e7 => (S6.ext e7).aggSt 1 rfl rfl rfl rfl fun w8 S8 _ => ?_)
 exact S8.lds 1 (((placeR A j (((rowC A j).length : Int) - 1) : Nat) : Int), 1, 100000, ()) rfl (hK w8 S8.upd)
end
namespace Mot
variable {A : List Int}
end Mot
section
variable {w w' : World} {b p : Nat} {A : List Int} {x count arg goal : Int} {past big : Bool} {r : RwT}
structure TxN (w : World) (p : Nat) (A : List Int) (N : Nat) : Prop where
 ex : ∃ e lim na O M, Txt w p e lim na O M ∧ atoms (aOf e M) = A ∧ ∀ k, O k → k < N
theorem TxA.n (h : TxA w p A) : TxN w p A w.heap.size := by
 obtain ⟨e, lim, na, O, M, h1, h2⟩ := h.ex
 exact ⟨e, lim, na, O, M, h1, h2, h1.own⟩
theorem TxN.ext {N : Nat} (h : TxN w p A N) (x : Ext w w') : TxN w' p A N := by
 obtain ⟨e, lim, na, O, M, h1, h2, h3⟩ := h.ex
 exact ⟨e, lim, na, O, M, h1.ext x, h2, h3⟩
end
abbrev mvM (kind count arg : Int) : Cells.T c31 := (kind, count, arg, ())
abbrev mvMO (kind count arg : Int) : Obj := .cells #[.int .i64 kind, .int .i64 count, .int .i64 arg] 31 (0, 0)
def vF : Option FuncId → Value
 | none => .nilFunc
 | some g => .func (.func g) #[] #[]
def bigK (kind : Int) : Bool := decide ((25 ≤ kind ∧ kind ≤ 28) ∨ kind = 30)
section
variable {w w' : World} {b p : Nat} {A : List Int} {x goal kind count arg : Int} {past big : Bool}
theorem rdB_efunc {t : TypeId} {ps rs : Array TypeId} {vr : Bool} (hu : Tryz.prog.underlying t = some (.func ps rs vr)) {o1 : Operand} {v : Option FuncId} {K : Bool → World → Prop} (h : K v.isNone w) : rdB Tryz.prog (do eqGuard .eql t o1 (.const .nilFunc) (vF v) .nilFunc; binOp .eql t (vF v) .nilFunc : Sem Value) K w := by
 refine ⟨v.isNone, ?_, h⟩
 cases v with
 | none =>
  have e : (Op.equal t .nilFunc .nilFunc).run Tryz.prog w = .ok true w := equal_nfunc hu 9999
  simp [eqGuard, binOp, vF, e]
 | some g =>
  have e : (Op.equal t (.func (.func g) #[] #[]) .nilFunc).run Tryz.prog w = .ok false w := equal_func hu _ _ _ 9999
  simp [eqGuard, binOp, vF, e]
theorem uMove1 : Tryz.prog.underlying 111 = some (.func #[112] #[43, 44] false) := by kernel_rfl
theorem mrun_call {tab : Value} {v : Option FuncId} {ans : Ld} (h : TxA w p A)
  (htab : ∀ W (K : Value → World → Prop), K (vF v) W → callX Tryz.prog (do let d ← Deferred.ofValue tab #[.int .i64 kind]; invoke d.target d.args : Sem Next) (.one (.one .any)) K W)
  (hnil : v = none → ans = noP 1)
  (hdo : ∀ g, v = some g → ((Tryz.prog.funcs[g]?).map fun fn => (fn.body.isNone, fn.name == "runtime.NumGoroutine")) = some (false, false) ∧ ∀ W b r N (K : LdT → World → Prop), MvIs W b p A x count arg (max goal 0) past (bigK kind) r → TxN W p A N → N ≤ b → (∀ W', Upd (fun k => k = b) W W' → K (ldT ans) W') → callT Tryz.prog g #[.pointer (some (at0 b))] (.tup [(.agg c43), (.one (.int .i64))]) K W)
  {K : LdT → World → Prop} (hK : ∀ w', Ext w w' → K (ldT ans) w') :
  callT Tryz.prog 45 #[tab, .pointer (some (at0 p)), .int .i64 x, .int .i64 goal, .agg (Cells.vals c31 (mvM kind count arg)).toArray, .bool past] (.tup [(.agg c43), (.one (.int .i64))]) K w := by
 refine F45_calls (a4 := mvM kind count arg) ?_
 unfold F45
 refine (St.start w).newO fun b1 w1 S1 e1 => S1.newO fun b2 w2 S2 e2 => ?_
 have S2 : St (fun _ => False) w w2 [(b2, ldZ), (b1, mvMO kind count arg)] := S2
 refine S2.ld (off := 0) 1 rfl (x := kind) rfl (htab w2 _ ?_)
 refine rdB_efunc uMove1 ?_
 cases v with
 | none =>
  have ha := hnil rfl
  subst ha
  refine sif_true (S2.aggSt 0 rfl rfl rfl rfl fun w3 S3 _ => S3.lds 0 (ldT (noP 1)).1 rfl (hK w3 S3.upd))
 | some g =>
  obtain ⟨hg, hdo⟩ := hdo g rfl
  refine sif_false (mclamp_call (h.ext S2.upd) fun w3 e3 => ?_)
  have S3 := S2.ext e3
  refine S3.drew fun w4 S4 e4 _ => S4.ld (off := 2) 1 rfl (x := arg) rfl (rowat_call (h.ext S4.upd) fun r w5 hr e5 => ?_)
  have S5 := S4.ext e5
  rw [clamp_row] at hr
  have hr : RowIs w5 A (posP A x past).1 r := hr
  refine S5.keep (off := 2) 1 rfl (v := .int .i64 arg) rfl (S5.newO' fun b10 w6 S6 e6 hb10 => ?_)
  have em : (if (0 : Int) > goal then (0 : Int) else goal) = max goal 0 := by split <;> omega
  rw [em] at S6
  have S6 : St (fun _ => False) w w6 [(b10, mvO p (clampP A x past : Int) 0 1 false arg (max goal 0) past false r), (b2, ldZ), (b1, mvMO kind count arg)] := S6
  have hr6 := hr.ext e6
  refine nn_some (lds_r (off := 9) (x := r) (S6.at_ 0 rfl) (mv_cells (by rfl)) (mcol_call (hr.ext e6) fun w7 e7 => nn_some ?_))
  have S7 := S6.ext e7
  refine S7.stC (off := 2) 0 rfl (by show 2 < 16; decide) fun w8 S8 u8 => ?_
  have hr8 : RowIs w8 A (posP A x past).1 r := (hr6.ext e7).box (S7.at_ 0 rfl) (by decide) u8
  have S8 : St (fun _ => False) w w8 [(b10, mvO p (clampP A x past : Int) ((posP A x past).2 : Int) 1 false arg (max goal 0) past false r), (b2, ldZ), (b1, mvMO kind count arg)] := S8
  refine join_r (fun _ W => RowIs W A (posP A x past).1 r ∧ St (fun _ => False) w W [(b10, mvO p (clampP A x past : Int) ((posP A x past).2 : Int) 1 false arg (max goal 0) past (bigK kind) r), (b2, ldZ), (b1, mvMO kind count arg)]) ?_ ?_
  ·have hset : ∀ (bb : Bool), bb = bigK kind → stC ((at0 b10).add 8) (.bool bb) (fun W => RowIs W A (posP A x past).1 r ∧ St (fun _ => False) w W [(b10, mvO p (clampP A x past : Int) ((posP A x past).2 : Int) 1 false arg (max goal 0) past (bigK kind) r), (b2, ldZ), (b1, mvMO kind count arg)]) w8 := fun bb hbb => by
    subst hbb
    exact S8.stC (off := 8) 0 rfl (by show 8 < 16; decide) fun w9 S9 u9 => ⟨hr8.box (S8.at_ 0 rfl) (by decide) u9, S9⟩
   refine S8.ld (off := 0) 2 rfl (x := kind) rfl (sif_r (fun hc => ?_) (fun hc => ?_))
   ·simp only [decide_eq_true_eq, ge_iff_le] at hc
    refine S8.ld (off := 0) 2 rfl (x := kind) rfl (sif_r (fun hc2 => ?_) (fun hc2 => ?_))
    ·simp only [decide_eq_true_eq] at hc2
     exact nn_some (hset true (by unfold bigK; rw [decide_eq_true]; exact .inl ⟨hc, hc2⟩))
    ·simp only [decide_eq_false_iff_not] at hc2
     refine S8.ld (off := 0) 2 rfl (x := kind) rfl (nn_some (hset _ ?_))
     unfold bigK
     rw [Bool.eq_iff_iff, beq_iff_eq, decide_eq_true_eq]; omega
   ·simp only [decide_eq_false_iff_not, ge_iff_le] at hc
    refine S8.ld (off := 0) 2 rfl (x := kind) rfl (nn_some (hset _ ?_))
    unfold bigK
    rw [Bool.eq_iff_iff, beq_iff_eq, decide_eq_true_eq]; omega
  rintro _ w9 ⟨hr9, S9⟩
  refine join_r (fun _ W => RowIs W A (posP A x past).1 r ∧ St (fun _ => False) w W [(b10, mvO p (clampP A x past : Int) ((posP A x past).2 : Int) (kOf count : Int) (decide (0 < count)) arg (max goal 0) past (bigK kind) r), (b2, ldZ), (b1, mvMO kind count arg)]) ?_ ?_
  ·refine S9.ld (off := 1) 2 rfl (x := count) rfl (sif_r (fun hc => ?_) (fun hc => ?_))
   ·simp only [decide_eq_true_eq, gt_iff_lt] at hc
    refine S9.ld (off := 1) 2 rfl (x := count) rfl (nn_some ?_)
    have ek : (if (9999 : Int) < count then (9999 : Int) else count) = (kOf count : Int) := by unfold kOf; rw [if_pos hc]; split <;> omega
    rw [ek, decide_eq_true hc]
    refine S9.stC (off := 3) 0 rfl (by show 3 < 16; decide) fun w10 S10 u10 => nn_some (S10.stC (off := 4) 0 rfl (by show 4 < 16; decide) fun w11 S11 u11 => ⟨(hr9.box (S9.at_ 0 rfl) (by decide) u10).box (S10.at_ 0 rfl) (by decide) u11, S11⟩)
   ·simp only [decide_eq_false_iff_not, gt_iff_lt] at hc
    have ek : kOf count = 1 := by unfold kOf; rw [if_neg hc]
    rw [ek, decide_eq_false hc]
    exact ⟨hr9, S9⟩
  rintro _ w10 ⟨hrow, S10⟩
  have hge : w5.heap.size ≤ b10 := Nat.le_of_eq hb10.symm
  have hmv : MvIs w10 b10 p A x count arg (max goal 0) past (bigK kind) r := ⟨h.ext S10.upd, S10.at_ 0 rfl, hrow⟩
  refine func_x (caps := #[]) hg (hdo w10 b10 r w.heap.size _ hmv (h.n.ext S10.upd) (S10.ge 0 rfl) fun w11 u11 => ?_)
  have S11 : St (fun _ => False) w w11 [(b2, ldZ), (b1, mvMO kind count arg)] := S10.tail.fresh u11 (fun k hk => .inr (by subst hk; exact S10.ge 0 rfl)) (fun y hy hk => by
   have hnd := S10.nd
   simp only [List.map_cons, List.map_nil, List.nodup_cons, List.mem_cons, List.not_mem_nil, or_false, not_or] at hnd
   rcases List.mem_cons.1 hy with rfl | hy
   ·exact hnd.1.1 hk.symm
   ·rw [List.mem_singleton.1 hy] at hk
    exact hnd.1.2 hk.symm)
  exact S11.aggSt 0 rfl rfl rfl rfl fun w12 S12 _ => S12.lds 0 (ldT ans).1 rfl (hK w12 S12.upd)
theorem hand_r {W w0 : World} {b2 : Nat} {o : Obj} {b1 : Nat} {l : Ld} {K : LdT → World → Prop} (S : St (fun _ => False) w0 W [(b2, ldZ), (b1, o)]) (hK : ∀ w', Ext w0 w' → K (ldT l) w') :
  aggSt (at0 b2) (.agg (Cells.vals c43 (ldT l).1).toArray) 3 (lds c43 (at0 b2) fun y => K (y, (ldT l).2.1, ())) W :=
 S.aggSt 0 rfl rfl rfl rfl fun w1 S1 _ => S1.lds 0 (ldT l).1 rfl (hK w1 S1.upd)
def charV (k : Int) : Option FuncId := if k = 1 then some 70 else if k = 2 then some 71 else if k = 3 then some 72 else if k = 4 then some 73 else if k = 5 then some 74 else if k = 6 then some 75 else if k = 7 then some 76 else if k = 8 then some 77 else if k = 9 then some 78 else if k = 10 then some 79 else none
theorem sel_r {n : Int} {k : Int} {g : FuncId} {o : Option FuncId} {K : Value → World → Prop} {B : World → Prop} (hK : K (vF (if k = n then some g else o)) w) (h2 : K (vF o) w → B w) : sif (k == n) (K (.func (.func g) #[] #[])) B w := by
 refine sif_r (fun hc => ?_) (fun hc => ?_)
 ·simp only [beq_iff_eq] at hc
  rw [if_pos hc] at hK; exact hK
 ·simp only [beq_eq_false_iff_ne, ne_eq] at hc
  rw [if_neg hc] at hK; exact h2 hK
theorem charmove_call {K : Value → World → Prop} (hK : K (vF (charV kind)) w) : callT Tryz.prog 46 #[.int .i64 kind] (.one (.one .any)) K w := by
 refine F46_calls ?_
 unfold F46
 exact sel_r hK fun hK => sel_r hK fun hK => sel_r hK fun hK => sel_r hK fun hK => sel_r hK fun hK => sel_r hK fun hK => sel_r hK fun hK => sel_r hK fun hK => sel_r hK fun hK => sel_r hK fun hK => hK
theorem mchars_call (h : TxA w p A) {K : LdT → World → Prop} (hK : ∀ w', Ext w w' → K (ldT (charsP A x kind count arg past)) w') :
  callT Tryz.prog 16 #[.pointer (some (at0 p)), .int .i64 x, .agg (Cells.vals c31 (mvM kind count arg)).toArray, .bool past] (.tup [(.agg c43), (.one (.int .i64))]) K w := by
 refine F16_calls (a2 := mvM kind count arg) ?_
 unfold F16
 refine (St.start w).newO fun b1 w1 S1 e1 => S1.newO fun b2 w2 S2 e2 => ?_
 have S2 : St (fun _ => False) w w2 [(b2, ldZ), (b1, mvMO kind count arg)] := S2
 refine S2.lds 1 (mvM kind count arg) rfl (mrun_call (v := charV kind) (ans := charsP A x kind count arg past) (h.ext S2.upd) (fun W K hk => func_x (caps := #[]) (by kernel_rfl) (charmove_call hk)) (fun hn => ?_) (fun g hg => ?_) fun w3 e3 => hand_r (S2.ext e3) hK)
 ·have n1 : ¬ kind = 1 := fun h => absurd (h ▸ hn) (by decide)
  have n2 : ¬ kind = 2 := fun h => absurd (h ▸ hn) (by decide)
  have n3 : ¬ kind = 3 := fun h => absurd (h ▸ hn) (by decide)
  have n4 : ¬ kind = 4 := fun h => absurd (h ▸ hn) (by decide)
  have n5 : ¬ kind = 5 := fun h => absurd (h ▸ hn) (by decide)
  have n6 : ¬ kind = 6 := fun h => absurd (h ▸ hn) (by decide)
  have n7 : ¬ kind = 7 := fun h => absurd (h ▸ hn) (by decide)
  have n8 : ¬ kind = 8 := fun h => absurd (h ▸ hn) (by decide)
  have n9 : ¬ kind = 9 := fun h => absurd (h ▸ hn) (by decide)
  have n10 : ¬ kind = 10 := fun h => absurd (h ▸ hn) (by decide)
  unfold charsP
  dsimp only
  rw [if_neg n1, if_neg n2, if_neg n3, if_neg n4, if_neg n5, if_neg n6, if_neg (by omega), if_neg (by omega)]
 ·have up : ∀ {W : World} {b : Nat} {K : LdT → World → Prop}, (∀ W', Upd (fun k => k = b) W W' → K (ldT (charsP A x kind count arg past)) W') → ∀ W', Ext W W' → K (ldT (charsP A x kind count arg past)) W' := fun hk W' e => hk W' (Upd.of_ext e)
  unfold charV at hg
  split at hg
  ·cases hg; subst kind; exact ⟨by kernel_rfl, fun W b r N K hm _ _ hk => left_call hm (up hk)⟩
  split at hg
  ·cases hg; subst kind; exact ⟨by kernel_rfl, fun W b r N K hm _ _ hk => right_call hm (up hk)⟩
  split at hg
  ·cases hg; subst kind; exact ⟨by kernel_rfl, fun W b r N K hm _ _ hk => start_call hm (up hk)⟩
  split at hg
  ·cases hg; subst kind; exact ⟨by kernel_rfl, fun W b r N K hm _ _ hk => mfst_call hm (up hk)⟩
  split at hg
  ·cases hg; subst kind; exact ⟨by kernel_rfl, fun W b r N K hm _ _ hk => end_call hm (up hk)⟩
  split at hg
  ·cases hg; subst kind; exact ⟨by kernel_rfl, fun W b r N K hm _ _ hk => bar_call hm (up hk)⟩
  split at hg
  ·cases hg; subst kind; exact ⟨by kernel_rfl, fun W b r N K hm _ _ hk => find_call' hm (up hk)⟩
  split at hg
  ·cases hg; subst kind; exact ⟨by kernel_rfl, fun W b r N K hm _ _ hk => findb_call hm (up hk)⟩
  split at hg
  ·cases hg; subst kind; exact ⟨by kernel_rfl, fun W b r N K hm _ _ hk => till_call hm (up hk)⟩
  split at hg
  ·cases hg; subst kind; exact ⟨by kernel_rfl, fun W b r N K hm _ _ hk => tillb_call hm (up hk)⟩
  ·cases hg
end
end Go.Proofs.YtolhlldgnfbemaaGreat
namespace Go.Proofs.YtolhlldgnfbemaaGreat
open Cdc Gly Clu Lns Obx
namespace Obx
def cls7 (n : Nat) : Nat := if n = 13 then 1 else if n = 10 then 2 else if n < 32 ∨ n = 127 then 3 else 0
def wrd7 (n : Nat) : Nat := if (9 ≤ n ∧ n ≤ 13) ∨ n = 32 then 0 else if (48 ≤ n ∧ n ≤ 57) ∨ (65 ≤ n ∧ n ≤ 90) ∨ n = 95 ∨ (97 ≤ n ∧ n ≤ 122) then 2 else 1
theorem table7 : ((List.range 128).all fun n => cls (n : Int) == cls7 n && cnj (n : Int) == 0 && wrd (n : Int) == wrd7 n) = true := by kernel_rfl
theorem asc_of {v : Int} (h : 0 ≤ v ∧ v < 128) : cls v = cls7 v.toNat ∧ cnj v = 0 ∧ wrd v = wrd7 v.toNat := by
 have h1 := List.all_eq_true.1 table7 v.toNat (List.mem_range.2 (by omega))
 have e : ((v.toNat : Nat) : Int) = v := by omega
 rw [e] at h1
 simp only [Bool.and_eq_true, beq_iff_eq] at h1
 exact ⟨h1.1.1, h1.1.2, h1.2⟩
theorem cls7_le (n : Nat) : cls7 n ≤ 3 := by unfold cls7; split <;> (try split) <;> (try split) <;> omega
def Asc7 (l : List Int) : Prop := ∀ v ∈ l, 0 ≤ v ∧ v < 128
theorem joins7 {s : Sc} {a : Int} (ha : 0 ≤ a ∧ a < 128) (hs : s.last ≤ 3) : joins s (cls a) (cnj a) = decide (s.last = 1 ∧ a = 10) := by
 obtain ⟨h1, h2, _⟩ := asc_of ha
 have h3 := cls7_le a.toNat
 rw [h1, h2]
 have h10 : cls7 a.toNat = 2 ↔ a = 10 := by unfold cls7; split <;> (try split) <;> (try split) <;> omega
 unfold joins
 by_cases hc : s.last = 1 ∧ cls7 a.toNat = 2
 ·rw [if_pos hc, decide_eq_true ⟨hc.1, h10.1 hc.2⟩]
 ·rw [if_neg hc, decide_eq_false (fun h => hc ⟨h.1, h10.2 h.2⟩)]
  split
  ·rfl
  ·rename_i hap
   simp only [not_or, apart, decide_eq_true_eq] at hap
   have e0 : s.last = 0 := by omega
   have e1 : cls7 a.toNat = 0 := by omega
   rw [e0, e1]
   rfl
theorem last7 {A : List Int} (h : Asc7 A) : ∀ k, (sc (A.take k)).last ≤ 3
 | 0 => by simp [sc, Sc.zero]
 | k + 1 => by
  by_cases hk : k < A.length
  ·rw [List.take_add_one, List.getElem?_eq_getElem hk]
   show (sc (A.take k ++ [A[k]])).last ≤ 3
   rw [sc_snoc, last_stp, (asc_of (h _ (List.getElem_mem hk))).1]
   exact cls7_le _
  ·have := last7 h k
   rwa [List.take_of_length_le (by omega)] at this ⊢
theorem bk7 {A : List Int} (h : Asc7 A) {k : Nat} (hk : k ≤ A.length) : bk A k = !(decide (0 < k) && (A[k - 1]? == some 13) && (A[k]? == some 10)) := by
 cases k with
 | zero => rw [bk_zero]; rfl
 | succ k =>
  by_cases he : k + 1 = A.length
  ·rw [he, bk_len, List.getElem?_eq_none (Nat.le_refl A.length)]
   simp
  ·have ha : A[k + 1]? = some A[k + 1] := List.getElem?_eq_getElem (by omega)
   have hb : A[k]? = some A[k] := List.getElem?_eq_getElem (by omega)
   rw [bk_at ha (by omega), joins7 (h _ (List.getElem_mem _)) (last7 h _)]
   have hl : (sc (A.take (k + 1))).last = cls7 (A[k]).toNat := by
    rw [List.take_add_one, hb]
    show (sc (A.take k ++ [A[k]])).last = _
    rw [sc_snoc, last_stp, (asc_of (h _ (List.getElem_mem _))).1]
   have h13 : cls7 (A[k]).toNat = 1 ↔ A[k] = 13 := by
    have := h A[k] (List.getElem_mem _)
    unfold cls7; split <;> (try split) <;> (try split) <;> omega
   rw [hl, ha, Nat.add_sub_cancel, hb]
   rw [Bool.eq_iff_iff]
   simp [h13]
def NoCL (A : List Int) : Prop := ∀ k : Nat, A[k]? = some 13 → A[k + 1]? ≠ some 10
theorem bk7_all {A : List Int} (h : Asc7 A) (hn : NoCL A) {k : Nat} (hk : k ≤ A.length) : bk A k = true := by
 rw [bk7 h hk]
 cases k with
 | zero => rfl
 | succ k =>
  rw [Nat.add_sub_cancel]
  cases h1 : (A[k]? == some 13) with
  | false => simp
  | true =>
   have := hn k (by simpa using h1)
   simp [this]
theorem cuts7 {A : List Int} (h : Asc7 A) (hn : NoCL A) : cuts A = List.range (A.length + 1) := by
 unfold cuts cutsTo
 rw [List.filter_eq_self]
 intro k hk
 exact bk7_all h hn (by have := List.mem_range.1 hk; omega)
theorem cels7 {A : List Int} (h : Asc7 A) (hn : NoCL A) (off : Nat) {k : Nat} {a : Int} (ha : A[k]? = some a) : (cels A off)[k]? = some ⟨off + k, off + k + 1, wrd7 a.toNat, true, a⟩ := by
 have hk := (List.getElem?_eq_some_iff.1 ha).1
 have hlen : (cels A off).length = A.length := by rw [cels_len, cuts7 h hn, List.length_range, Nat.add_sub_cancel]
 obtain ⟨c, hc⟩ : ∃ c, (cels A off)[k]? = some c := ⟨_, List.getElem?_eq_getElem (by omega)⟩
 obtain ⟨i, j, h1, h2, h3, h4, h5, h6, _, _, h7, h8, h9⟩ := (cels_ok hc).ex
 rw [cuts7 h hn] at h1 h2
 rw [List.getElem?_range (by omega)] at h1
 rw [List.getElem?_range (by omega)] at h2
 cases h1; cases h2
 rw [ha] at h7
 cases h7
 obtain ⟨_, _, hw⟩ := asc_of (h _ (List.mem_of_getElem? ha))
 rw [hc]
 obtain ⟨cf, ct, ck, ca, cat⟩ := c
 dsimp only at *
 have : ca = true := h9.2 rfl
 subst h5 h6 this
 rw [h8, hw]
 rfl
theorem cels7_len {A : List Int} (h : Asc7 A) (hn : NoCL A) (off : Nat) : (cels A off).length = A.length := by rw [cels_len, cuts7 h hn, List.length_range, Nat.add_sub_cancel]
end Obx
end Go.Proofs.YtolhlldgnfbemaaGreat
namespace Go.Proofs.YtolhlldgnfbemaaGreat
open Trx Gly Clu Lns Obx
namespace Obx
structure Good (A : List Int) (s : Int × Int × Int) : Prop where
 lo : 0 ≤ s.1
 le : s.1 ≤ s.2.1
 hi : s.2.1 ≤ A.length
 b1 : bk A s.1.toNat = true
 b2 : bk A s.2.1.toNat = true
structure LcOk (A : List Int) (l : Ln) (c : Cel) : Prop where
 lo : l.from_ ≤ c.from_
 lt : c.from_ < c.to_
 hi : c.to_ ≤ l.to_
 b1 : bk A c.from_ = true
 b2 : bk A c.to_ = true
end Obx
namespace Obx
def NoBrk (L : List Int) : Prop := ∀ v ∈ L, v ≠ 10 ∧ v ≠ 13
theorem NoBrk.cl {L : List Int} (h : NoBrk L) : NoCL L := fun k hk => absurd rfl (h 13 (List.mem_of_getElem? hk)).2
end Obx
namespace Obx
def file : List (List Int) → List Int → List Int
 | [], R => R
 | l :: Ls, R => l ++ 10 :: file Ls R
def offs : List (List Int) → Nat → Nat
 | _, 0 => 0
 | [], _ + 1 => 0
 | l :: Ls, k + 1 => l.length + 1 + offs Ls k
theorem offs_zero (Ls : List (List Int)) : offs Ls 0 = 0 := by cases Ls <;> rfl
theorem brs_line {X : List Int} : ∀ {l : List Int}, NoBrk l → brs (l ++ 10 :: X) = 1 + brs X
 | [], _ => by rw [List.nil_append, brs]; rfl
 | a :: l, h => by
  have ha := h a List.mem_cons_self
  rw [List.cons_append, brs, brs_line (l := l) fun v hv => h v (List.mem_cons_of_mem _ hv)]
  have : isE a (l ++ 10 :: X) = false := by
   unfold isE
   simp [ha.1, ha.2]
  rw [this]; simp
theorem brs_none : ∀ {l : List Int}, NoBrk l → brs l = 0
 | [], _ => rfl
 | a :: l, h => by
  have ha := h a List.mem_cons_self
  rw [brs, brs_none (l := l) fun v hv => h v (List.mem_cons_of_mem _ hv)]
  have : isE a l = false := by unfold isE; simp [ha.1, ha.2]
  rw [this]; simp
theorem sk_line {X : List Int} {k : Nat} : ∀ {l : List Int}, NoBrk l → sk (l ++ 10 :: X) (k + 1) = (sk X k).map (· + (l.length + 1))
 | [], _ => by
  rw [List.nil_append, sk]
  have : isE 10 X = true := rfl
  rw [this]; rfl
 | a :: l, h => by
  have ha := h a List.mem_cons_self
  rw [List.cons_append, sk]
  have : isE a (l ++ 10 :: X) = false := by unfold isE; simp [ha.1, ha.2]
  rw [this]
  simp only [Bool.false_eq_true, if_false]
  rw [sk_line (l := l) fun v hv => h v (List.mem_cons_of_mem _ hv), Option.map_map]
  congr 1
def Lines (Ls : List (List Int)) : Prop := ∀ l ∈ Ls, NoBrk l
theorem sk_file {R : List Int} (hR : NoBrk R) : ∀ {Ls : List (List Int)} (k : Nat), Lines Ls → sk (file Ls R) k = if k ≤ Ls.length then some (offs Ls k) else none
 | Ls, 0, _ => by rw [sk_zero, offs_zero]; simp
 | [], k + 1, _ => by
  show sk R (k + 1) = _
  rw [sk_none R _ (by rw [brs_none hR]; omega), if_neg (by simp)]
 | l :: Ls, k + 1, h => by
  rw [file, sk_line (h l List.mem_cons_self), sk_file hR k fun x hx => h x (List.mem_cons_of_mem _ hx)]
  by_cases hk : k ≤ Ls.length
  ·rw [if_pos hk, if_pos (by simpa using hk), Option.map_some, offs]
   congr 1; omega
  ·rw [if_neg hk, if_neg (by simpa using hk)]; rfl
theorem brs_file {R : List Int} (hR : NoBrk R) : ∀ {Ls : List (List Int)}, Lines Ls → brs (file Ls R) = Ls.length
 | [], _ => brs_none hR
 | l :: Ls, h => by rw [file, brs_line (h l List.mem_cons_self), brs_file hR fun x hx => h x (List.mem_cons_of_mem _ hx), List.length_cons]; omega
theorem file_len (R : List Int) : ∀ Ls : List (List Int), (file Ls R).length = offs Ls Ls.length + R.length
 | [] => by simp [file, offs_zero]
 | l :: Ls => by rw [file, List.length_append, List.length_cons, file_len R Ls, List.length_cons, offs]; omega
variable {Ls : List (List Int)} {R : List Int}
theorem ln_last (hL : Lines Ls) (hR : NoBrk R) : lnAt (file Ls R) Ls.length = some ⟨offs Ls Ls.length, offs Ls Ls.length + R.length, offs Ls Ls.length + R.length, 0⟩ := by
 unfold lnAt
 rw [sk_file hR _ hL, if_pos (Nat.le_refl _), sk_file hR _ hL, if_neg (by omega)]
 simp only
 rw [file_len]
theorem lnN_file (hL : Lines Ls) (hR : NoBrk R) : lnN (file Ls R) = Ls.length + (if Ls ≠ [] ∧ R = [] then 0 else 1) := by
 unfold lnN ended
 rw [brs_file hR hL, sk_file hR _ hL, if_pos (Nat.le_refl _), file_len]
 congr 1
 by_cases hr : R = []
 ·subst hr
  cases Ls with
  | nil => simp [offs]
  | cons l Ls =>
   have h1 : offs (l :: Ls) (Ls.length + 1) ≠ 0 := by rw [offs]; omega
   have h2 : 0 < offs (l :: Ls) (Ls.length + 1) := by omega
   simp [h1, h2]
 ·have : 0 < R.length := List.length_pos_iff.2 hr
  have hb : (some (offs Ls Ls.length) == some (offs Ls Ls.length + R.length)) = false := by
   rw [beq_eq_false_iff_ne]
   intro h
   have := Option.some.inj h
   omega
  rw [hb, Bool.and_false, if_neg (by decide), if_neg (fun h => hr h.2)]
end Obx
namespace Mot
structure Tiny (A : List Int) : Prop where
 no : NoBrk A
 asc : Asc7 A
 pos : 0 < A.length
variable {A : List Int}
theorem Tiny.row (h : Tiny A) : brs A = 0 ∧ lnN A = 1 ∧ rowL A 0 = ⟨0, A.length, A.length, 0⟩ := by
 have hL : Lines [] := fun l hl => by cases hl
 have h1 := ln_last (Ls := []) (R := A) hL h.no
 have h2 := lnN_file (Ls := []) (R := A) hL h.no
 have e : file [] A = A := rfl
 have o : offs [] ([] : List (List Int)).length = 0 := rfl
 rw [e, o, Nat.zero_add] at h1
 rw [e] at h2
 refine ⟨brs_none h.no, ?_, ?_⟩
 ·rw [h2]; simp
 ·unfold rowL
  have h1 : lnAt A 0 = some ⟨0, A.length, A.length, 0⟩ := h1
  rw [h1]; rfl
theorem Tiny.cels (h : Tiny A) {k : Nat} {a : Int} (ha : A[k]? = some a) : (rowC A 0)[k]? = some ⟨k, k + 1, wrd7 a.toNat, true, a⟩ := by
 have e : rowC A 0 = Obx.cels A 0 := by
  unfold rowC lineC
  rw [h.row.2.2]
  dsimp only
  rw [List.drop_zero, Nat.sub_zero, List.take_length]
 have := cels7 h.asc h.no.cl 0 ha
 rw [e, this]
 simp
theorem Tiny.len (h : Tiny A) : (rowC A 0).length = A.length := by
 have e : rowC A 0 = Obx.cels A 0 := by
  unfold rowC lineC
  rw [h.row.2.2]
  dsimp only
  rw [List.drop_zero, Nat.sub_zero, List.take_length]
 rw [e, cels7_len h.asc h.no.cl]
theorem Tiny.place (h : Tiny A) {k : Nat} (hk : k ≤ A.length) : placeR A 0 (k : Int) = k := by
 by_cases hlt : k < A.length
 ·obtain ⟨a, ha⟩ : ∃ a, A[k]? = some a := ⟨_, List.getElem?_eq_getElem hlt⟩
  rw [placeR_lt (by rw [h.len]; exact hlt), frm_of (h.cels ha)]
 ·rw [placeR_ge (by rw [h.len]; omega), h.row.2.2]
  show A.length = k
  omega
theorem Tiny.plc (h : Tiny A) {k : Nat} (hk : k < A.length) : Plc A (0, k) := ⟨by have := h.row.2.1; dsimp only; omega, .inl (by rw [h.len]; exact hk)⟩
theorem Tiny.off (h : Tiny A) {k : Nat} (hk : k ≤ A.length) : offP A (0, k) = k := h.place hk
theorem Tiny.pos0 (h : Tiny A) : posP A 0 false = (0, 0) := by
 have hp := h.plc h.pos
 have := pos_of (past := false) hp.on (fun _ => hp)
 rw [h.off (Nat.zero_le _)] at this
 exact this
theorem asc_tiny {A : List Int} (h : A.all (fun v => decide (32 ≤ v ∧ v < 128)) = true) (h0 : 0 < A.length) : Tiny A := by
 rw [List.all_eq_true] at h
 refine ⟨fun v hv => ?_, fun v hv => ?_, h0⟩
 ·have := of_decide_eq_true (h v hv); omega
 ·have := of_decide_eq_true (h v hv); omega
theorem able_is : charsP [97, 98, 99] 0 2 0 0 false = landP [97, 98, 99] 1 0 := by
 have h : Tiny [97, 98, 99] := asc_tiny (by decide) (by decide)
 rw [chars_two, h.pos0]
 have hm : mostR [97, 98, 99] 0 false = 2 := by unfold mostR; rw [h.len]; rfl
 rw [hm, if_neg (by decide)]
 have e : (min ((0 : Nat) + kOf 0) 2) = 1 := by decide
 dsimp only
 rw [e, h.off (by decide)]
end Mot
end Go.Proofs.YtolhlldgnfbemaaGreat
namespace Go.Proofs.YtolhlldgnfbemaaGreat
open Go Go.Vx Cdc Trx
section
variable {w w' : World} {S : Nat → Prop} {p : Nat} {e : Enc} {lim na : Nat} {O : Nat → Prop} {M : Parts}
theorem eParts : ElemOk Tryz.prog 87 93 7 64 := ElemOk.of (z := .agg #[.slice none 0 0, .int .i64 0, .int .i64 0, .int .i64 0, .int .i64 0, .bool false, .bool false]) i87_ok i93_ok rfl rfl rfl (by decide)
def bOf (M : Parts) : Bs := M.flatMap fun x => x.2
theorem bOf_app (M N : Parts) : bOf (M ++ N) = bOf M ++ bOf N := by simp [bOf]
theorem Pc_one (x : Pc) : ∀ v ∈ flat c93 [pcT x], isOne v = true := by
 intro v hv
 rw [flat_one] at hv
 have : v ∈ (Cells.vals c93 (pcT x)) := hv
 revert this
 show v ∈ [_, _, _, _, _, _, _] → _
 intro h
 simp only [List.mem_cons, List.not_mem_nil, or_false] at h
 rcases h with rfl | rfl | rfl | rfl | rfl | rfl | rfl <;> rfl
set_option maxHeartbeats 1000000 in
theorem open_call {s : Sl} {l : Bs} (hB : By w s l) (hl : l.length ≤ lim) (hlim : lim ≤ 65536) {K : Option Addr × Int × Unit → World → Prop}
  (hK : ∀ p O M w', Txt w' p e lim 0 O M → aOf e M = ats e l → bOf M = l → Ext w w' → (∀ k, O k → w.heap.size ≤ k) → K (some (at0 p), 0, ()) w') :
  callT Tryz.prog 23 #[.int .i64 e.num, .slice s.a s.len s.cap, .int .i64 (lim : Int)] (.tup [(.one .ptr), (.one (.int .i64))]) K w := by
 refine F23_calls ?_
 unfold F23
 have hlen := hB.len
 have hen : 1 ≤ e.num ∧ e.num ≤ 4 := by cases e <;> decide
 refine join_r (fun x w' => x = (false, ()) ∧ w = w') (sif_r (fun h => ?_) (fun h => ⟨by rw [decide_eq_false (by omega)], rfl⟩)) ?_
 ·simp only [decide_eq_true_eq] at h; omega
 rintro _ _ ⟨rfl, rfl⟩
 refine sif_false (join_r (fun x w' => x = (false, ()) ∧ w = w') (sif_r (fun h => ?_) (fun h => ⟨by rw [decide_eq_false (by omega)], rfl⟩)) ?_)
 ·simp only [decide_eq_true_eq] at h; omega
 rintro _ _ ⟨rfl, rfl⟩
 refine sif_false (sif_r (fun h => ?_) (fun _ => ?_))
 ·simp only [decide_eq_true_eq, gt_iff_lt] at h; omega
 refine makeSlice_r EBy.ts_ i5_ok (z := .int .u8 0) rfl rfl (by omega) (by show ((s.len : Nat) : Int) * 1 ≤ 2 ^ 48; omega) (by omega) fun b w1 c n1 hc1 _ e1 hb1 => ?_
 rw [Int.toNat_natCast] at hc1 ⊢
 have hc1' : c.size = s.len := by rw [hc1]; show s.len * 1 = _; omega
 refine copy_r (off := 0) EBy.ts_ i5_ok.run_size n1 (by rw [List.length_map]; omega) (hB.ext e1).x (Nat.le_refl _) (bv_one l) fun w2 n2 u2 _ => ?_
 rw [setRow_whole (bv l) c (by rw [List.length_map]; omega)] at n2
 have e2 : Ext w w2 := e1.step u2 fun k hk => by omega
 have hL : By w2 ⟨some (at0 b), s.len, s.len⟩ l := by
  have := SlIn.of_box n2 (n := s.len) (sz := 1) (by simp; omega)
  simpa using this
 refine (St.start w2).newO fun b7 w3 S3 e3 => ?_
 have hb7 := S3.ge 0 rfl
 let Zt : Option Addr → Obj := fun q => .cells #[.int .i64 e.num, .int .i64 (lim : Int), .pointer q, .slice none 0 0] 86 (0, 0)
 let Lp : Nat → Sl → World → Prop := fun j r W => ∃ (its : List Pc) (M : Parts), St (fun _ => False) w2 W [(b7, Zt none)] ∧ SlOwn W w3.heap.size r 93 7 (flat c93 (its.map pcT)) ∧ Its W e its M ∧ aOf e M = (ats e l).take j ∧ bOf M = l.take (szs ((ats e l).take j)) ∧
  (∀ x ∈ its, ∀ k, x.bytes.blk k → k = b) ∧ By W ⟨some (at0 b), s.len, s.len⟩ l ∧ its.length ≤ j ∧ w3.heap.size ≤ W.heap.size
 have hne : ∀ {r : Sl} {its : List Pc} {W : World}, SlOwn W w3.heap.size r 93 7 (flat c93 (its.map pcT)) → its.length = r.len := fun ho => by
  have := SlOwn.lenR (cs := c93) ho (by decide)
  rwa [List.length_map] at this
 refine join_r (fun x W => ∃ j, Lp j x.1 W ∧ (ats e l).take j = ats e l) ?_ ?_
 ·refine sloop_r (fun x W => ∃ j, j ≤ (ats e l).length ∧ x.2 = (((szs ((ats e l).take j) : Nat) : Int), ()) ∧ Lp j x.1 W) (fun x _ => ((l.length : Int) - x.2.1).toNat) ⟨0, Nat.zero_le _, rfl, [], [], S3, SlOwn.nil _ _ _ _, trivial, rfl, rfl, (fun _ h => by cases h), hL.ext e3, Nat.le_refl _, Nat.le_refl _⟩ ?_
  rintro ⟨r, _⟩ W4 ⟨j, hj, rfl, its, M, S4, ho, hi, ha, hb, hk, hL4, hil, hW4⟩
  have hsj : szs ((ats e l).take j) ≤ l.length := pos_le j
  dsimp only at ho ⊢
  refine sif_r (fun hc => ?_) (fun hc => ?_)
  ·simp only [decide_eq_true_eq] at hc
   have hc' : szs ((ats e l).take j) < l.length := by omega
   refine join_r (fun x W => ∃ q, 1 ≤ q ∧ j + q ≤ (ats e l).length ∧ x = (((szs ((ats e l).take (j + q)) : Nat) : Int), ()) ∧ Ext W4 W) ?_ ?_
   ·refine sloop_r (fun x W => ∃ q, j + q ≤ (ats e l).length ∧ q ≤ 128 ∧ x = (((szs ((ats e l).take (j + q)) : Nat) : Int), (q : Int), ()) ∧ Ext W4 W) (fun x _ => ((l.length : Int) - x.1).toNat) ⟨0, by omega, by omega, rfl, Ext.refl W4⟩ ?_
    rintro _ W5 ⟨q, hq, hq2, rfl, x5⟩
    have hsq : szs ((ats e l).take (j + q)) ≤ l.length := pos_le _
    refine join_r (fun x W => x = (decide (szs ((ats e l).take (j + q)) < l.length ∧ q < 128), ()) ∧ W5 = W) ?_ ?_
    ·refine sif_r (fun h => ⟨tupb ?_, rfl⟩) (fun h => ⟨tupb ?_, rfl⟩)
     ·simp only [decide_eq_true_eq] at h ⊢; omega
     ·simp only [decide_eq_false_iff_not, decide_eq_true_eq] at h ⊢
      exact ⟨(fun h => by cases h), fun h => by omega⟩
    rintro _ W6 ⟨rfl, rfl⟩
    refine sif_r (fun h => ?_) (fun h => ?_)
    ·simp only [decide_eq_true_eq] at h
     obtain ⟨a, m, hqa, hnx, htk, hss, hm1, hsl⟩ := pos_step (e := e) (l := l) (j := j + q) h.1
     have hql : j + q < (ats e l).length := (List.getElem?_eq_some_iff.1 hqa).1
     refine next_call (hL4.ext x5) h.1 fun W7 x7 => ?_
     rw [hnx]
     have ewa : IntKind.wrap .i64 (((szs ((ats e l).take (j + q)) : Nat) : Int) + (m : Int)) = ((szs ((ats e l).take (j + q + 1)) : Nat) : Int) := by rw [wrap64 (by omega) (by omega)]; omega
     have ewb : IntKind.wrap .i64 ((q : Int) + 1) = ((q + 1 : Nat) : Int) := by rw [wrap64 (by omega) (by omega)]; omega
     refine ⟨⟨q + 1, by omega, by omega, by dsimp only; rw [ewa, ewb]; rfl, x5.trans x7⟩, ?_⟩
     dsimp only
     rw [ewa]; omega
    ·refine ⟨q, ?_, hq, rfl, x5⟩
     rcases Nat.eq_zero_or_pos q with h0 | h0
     ·subst h0
      have h' : ¬ (szs ((ats e l).take (j + 0)) < l.length ∧ 0 < 128) := fun hh => by rw [decide_eq_true hh] at h; cases h
      exact absurd ⟨hc', by decide⟩ h'
     ·exact h0
   ·rintro _ W5 ⟨q, hq1, hjq, rfl, x5⟩
    have S5 := S4.ext x5
    have hsq : szs ((ats e l).take (j + q)) ≤ l.length := pos_le _
    have hadd : szs ((ats e l).take (j + q)) = szs ((ats e l).take j) + szs (((ats e l).drop j).take q) := by rw [List.take_add, szs_append]
    have hpq := ((ats_posd e l).drop j).take q
    have hqpos : 1 ≤ szs (((ats e l).drop j).take q) := by
     have := szs_ge hpq
     rw [List.length_take, List.length_drop] at this; omega
    obtain ⟨pb, hpb⟩ : ∃ pb : Bs, pb = (l.drop (szs ((ats e l).take j))).take (szs (((ats e l).drop j).take q)) := ⟨_, rfl⟩
    have hpa : ats e pb = ((ats e l).drop j).take q := by
     have h1 := (ats_cut e j l).2
     have h2 := (ats_cut e q (l.drop (szs ((ats e l).take j)))).1
     rw [h1] at h2
     rw [hpb]; exact h2
    have hpl : pb.length = szs (((ats e l).drop j).take q) := by rw [← hpa, szs_all]
    have hL5 := hL4.ext x5
    have hcut := By.cut hL5 (l := ((szs ((ats e l).take j) : Nat) : Int)) (h := ((szs ((ats e l).take (j + q)) : Nat) : Int)) (m := ((szs ((ats e l).take (j + q)) : Nat) : Int)) (by omega) (by omega) (by show _ ≤ ((s.len : Nat) : Int); omega) (by omega) (by show _ ≤ ((s.len : Nat) : Int); omega)
    have hcb : (l.drop ((szs ((ats e l).take j) : Nat) : Int).toNat).take (((szs ((ats e l).take (j + q)) : Nat) : Int).toNat - ((szs ((ats e l).take j) : Nat) : Int).toNat) = pb := by
     rw [hpb, Int.toNat_natCast, Int.toNat_natCast, hadd, Nat.add_sub_cancel_left]
    rw [hcb] at hcut
    refine chk_r (by omega) (newpart_call hcut (by omega) fun W6 x6 => ?_)
    have S6 := S5.ext x6
    refine S6.newO fun b21 W7 S7 x7 => ?_
    have x47 := (x5.trans x6).trans x7
    have hrl := hne ho
    have hi7 : Its W7 e its M := hi.ext x47
    have hx : PcIn W7 e (mkPc e (Sl.cut (some (at0 b)) ((szs ((ats e l).take j) : Nat) : Int) ((szs ((ats e l).take (j + q)) : Nat) : Int) ((szs ((ats e l).take (j + q)) : Nat) : Int) 1) ((szs ((ats e l).take j) : Nat) : Int) pb) (((szs ((ats e l).take j) : Nat) : Int), pb) :=
     ⟨hcut.ext (x6.trans x7), rfl, rfl, fun h0 => by have h0' : pb = [] := h0; rw [h0'] at hpl; simp at hpl; omega, by show -1 ≤ ((szs ((ats e l).take j) : Nat) : Int); omega, by show ((szs ((ats e l).take j) : Nat) : Int) + (pb.length : Int) ≤ 2 ^ 40; omega⟩
    generalize hpc : mkPc e (Sl.cut (some (at0 b)) ((szs ((ats e l).take j) : Nat) : Int) ((szs ((ats e l).take (j + q)) : Nat) : Int) ((szs ((ats e l).take (j + q)) : Nat) : Int) 1) ((szs ((ats e l).take j) : Nat) : Int) pb = xp at *
    have hxb : ∀ k, xp.bytes.blk k → k = b := by
     rw [← hpc]
     rintro k hk
     obtain ⟨pp, hp1, hp2⟩ := cut_blk (s := ⟨some (at0 b), s.len, s.len⟩) hk
     cases hp1; exact hp2.symm
    have hbox : SlX W7 ⟨some (at0 b21), 1, 1⟩ 7 (flat c93 [pcT xp]) := by
     have := SlIn.of_box (S7.at_ 0 rfl) (n := 1) (sz := 7) rfl
     exact this.x
    refine append_rx eParts eParts.ts_ (x := ⟨some (at0 b21), 1, 1⟩) (ho.ext x47) hbox (Pc_one xp) (by
     show (r.len + 1 + (r.len + 1) / 4 + 512) * 64 ≤ 2 ^ 48
     have := szs_ge (ats_posd e l)
     rw [szs_all] at this
     omega) (by have := x47.size; omega) fun r' W8 o8 l8 u8 k8 => ?_
    have hty : ∀ {t' : TypeId}, 93 ≠ t' → NoTy W7 r.blk t' := fun ht => NoTy.blk (ho.ext x47).in ht
    have st8 : St (fun _ => False) w2 W8 [(b7, Zt none)] := by
     refine S7.tail.fresh u8 (fun k hk => .inr ?_) (fun x hx hk => ?_)
     ·have := ho.blk_ge hk; have := e3.size; omega
     ·rw [List.mem_singleton.1 hx] at hk
      exact hty (by decide) _ hk _ _ (S7.at_ 1 rfl)
    have e8 : flat c93 (its.map pcT) ++ flat c93 [pcT xp] = flat c93 ((its ++ [xp]).map pcT) := by rw [List.map_append, flat_append]; rfl
    rw [e8] at o8
    have hi8 : Its W8 e (its ++ [xp]) (M ++ [(((szs ((ats e l).take j) : Nat) : Int), pb)]) := by
     have h9 : Its W7 e (its ++ [xp]) (M ++ [(((szs ((ats e l).take j) : Nat) : Int), pb)]) := hi7.app ⟨hx, trivial⟩
     refine h9.upd u8 fun x hx k hk hS => ?_
     obtain ⟨y, hy⟩ : ∃ y, PcIn W7 e x y := by
      obtain ⟨n, hn⟩ := List.getElem?_of_mem hx
      obtain ⟨y, _, hy⟩ := h9.get n hn
      exact ⟨y, hy⟩
     obtain ⟨c2, fr2, hc2⟩ := hy.by_.blk_cells hk
     exact hty (t' := 5) (by decide) k hS _ _ hc2
    refine ⟨⟨j + q, hjq, rfl, its ++ [xp], M ++ [_], st8, o8, hi8, ?_, ?_, ?_, ?_, ?_, ?_⟩, ?_⟩
    ·rw [aOf_app, ha, List.take_add]
     show _ ++ aOf e [_] = _
     simp only [aOf, List.flatMap_cons, List.flatMap_nil, List.append_nil]
     rw [hpa]
    ·rw [bOf_app, hb, hadd, List.take_add]
     show _ ++ bOf [_] = _
     simp only [bOf, List.flatMap_cons, List.flatMap_nil, List.append_nil]
     rw [hpb]
    ·intro x hx k hkk
     rcases List.mem_append.1 hx with hx | hx
     ·exact hk x hx k hkk
     ·rw [List.mem_singleton.1 hx] at hkk; exact hxb k hkk
    ·exact SlIn.ty (hL5.ext (x6.trans x7)) u8 (hty (by decide))
    ·rw [List.length_append]; simp; omega
    ·have := u8.size; have := x47.size; omega
    ·dsimp only
     omega
  ·simp only [decide_eq_false_iff_not] at hc
   have := pos_end (e := e) (l := l) (j := j) (by omega)
   exact ⟨j, ⟨its, M, S4, ho, hi, ha, hb, hk, hL4, hil, hW4⟩, this⟩
 ·rintro ⟨r, _⟩ W4 ⟨j, ⟨its, M, S4, ho, hi, ha, hb, hk, hL4, hil, hW4⟩, hj⟩
  rw [hj] at ha hb
  have hM : szs (aOf e M) = l.length := by rw [ha, szs_all]
  have hfine := hi.fine (by omega)
  refine treeOf_call (l := its) ho.in hfine fun t W5 ht hti x5 => nn_some ?_
  have S5 := S4.ext x5
  rw [addr_add]
  refine aggSt_r (S5.at_ 0 rfl) rfl rfl (by show 0 + 2 + 1 ≤ 4; decide) fun W6 u56 n6' z6 => ?_
  have n6 : W6.heap[b7]? = some (Zt t.ptr) := n6'
  have hb0 : w.heap.size ≤ b := by omega
  have hb0' : w.heap.size ≤ b7 := by have := e2.size; omega
  have e06 : Ext w W6 := (e2.trans S5.upd).step u56 fun k hk => by omega
  refine hK b7 (fun k => k = b ∨ k = b7) M W6 ⟨⟨t, ⟨none, 0, 0⟩, [], n6, ?_, ?_, SlOwn.nil _ _ _ _, ?_, ?_, ?_, Nat.le_refl _⟩, hlim, by omega, .inr rfl, ?_⟩ ha (by rw [hb, szs_all]; exact List.take_length) e06 (by rintro k (rfl | rfl) <;> assumption)
  ·exact ht.ty u56 (NoTy.box (S5.at_ 0 rfl) (by decide))
  ·rw [hti]
   refine (hi.ext x5).upd u56 fun x hx k hkk he => ?_
   have := hk x hx k hkk
   have hbl := lt_of_heap n2
   omega
  ·rintro x hx k hkk ⟨q, hq, _⟩; cases hq
  ·intro x hx k hkk
   rw [hti] at hx
   exact .inl (hk x hx k hkk)
  ·rintro k ⟨q, hq, _⟩; cases hq
  ·have hbl := lt_of_heap n2
   have h7 := lt_of_heap n6
   have := S5.upd.size
   rintro k (rfl | rfl) <;> omega
end
section
variable {w w' : World} {S : Nat → Prop} {p : Nat} {e : Enc} {lim na : Nat} {O : Nat → Prop} {M : Parts}
def bts (e : Enc) (l : List Int) : Bs := l.flatMap (pt e)
def prs (e : Enc) (l : List Int) : As := l.map fun a => (a, sz e a)
def Fit (e : Enc) (l : List Int) : Prop := ∀ a ∈ l, Scalar a ∧ sz e a ≠ 0
theorem ats_bts {e : Enc} : ∀ {l : List Int}, Fit e l → ats e (bts e l) = prs e l
 | [], _ => ats_nil e
 | a :: l, h => by
  have h1 := h a List.mem_cons_self
  show ats e (pt e a ++ bts e l) = _
  rw [ats_pt h1.1 h1.2, ats_bts fun x hx => h x (List.mem_cons_of_mem _ hx)]
  rfl
def Fits (e : Enc) (l : List Int) : Prop := ∀ a ∈ l, sz e a ≠ 0
theorem bts_len {e : Enc} : ∀ {l : List Int}, Fits e l → (bts e l).length = szs (prs e l)
 | [], _ => rfl
 | a :: l, h => by
  have ih := bts_len fun x hx => h x (List.mem_cons_of_mem _ hx)
  show (pt e a ++ bts e l).length = Cdc.szs ((a, sz e a) :: prs e l)
  rw [szs_cons, List.length_append, pt_len e a (h a List.mem_cons_self), ih]
theorem nx_one {e : Enc} {a : Int} (h : sz e a ≠ 0) (hs : ¬ Scalar a) : nx e (pt e a) = (a, sz e a) := by
 have h16 : ∀ be, sz16 a ≠ 0 → nx16 be (pt16 be a) = (a, sz16 a) := by
  intro be h
  unfold sz16 at h ⊢
  have hr : ¬ (a < -256 ∨ 1114111 < a) := fun hc => h (if_pos hc)
  rw [if_neg hr]
  unfold pt16
  by_cases h0 : a < 0
  ·rw [if_pos h0, if_pos h0]
   show ((-1 - ((UInt8.ofNat (-1 - a).toNat).toNat : Int), 1) : Int × Nat) = _
   rw [byte_nat (by omega)]
   congr 1; omega
  ·have hlt : a < 65536 := Classical.byContradiction fun hc => hs (.inr ⟨by omega, by omega⟩)
   rw [if_neg h0, if_neg h0, if_pos hlt, if_pos hlt]
   have hu : ∀ x y : UInt8, nx16 be [x, y] = (((un be x y : Nat) : Int), 2) := fun x y => by simp only [nx16]; split <;> rfl
   unfold uni
   cases be with
   | true =>
    rw [if_pos rfl, hu]
    show ((((UInt8.ofNat a.toNat).toNat + (UInt8.ofNat (a.toNat / 256)).toNat * 256 : Nat) : Int), 2) = _
    rw [byte_nat (n := a.toNat / 256) (by omega), UInt8.toNat_ofNat']
    congr 1; omega
   | false =>
    rw [if_neg (by decide), hu]
    show ((((UInt8.ofNat a.toNat).toNat + (UInt8.ofNat (a.toNat / 256)).toNat * 256 : Nat) : Int), 2) = _
    rw [byte_nat (n := a.toNat / 256) (by omega), UInt8.toNat_ofNat']
    congr 1; omega
 cases e with
 | u8 =>
  show nx8 (pt8 a) = (a, sz8 a)
  have h : sz8 a ≠ 0 := h
  unfold sz8 at h ⊢
  have hr : ¬ (a < -256 ∨ (-129 < a ∧ a < 0) ∨ 1114111 < a ∨ (55296 ≤ a ∧ a ≤ 57343)) := fun hc => h (if_pos hc)
  have h0 : a < 0 := Classical.byContradiction fun hc => hs (by unfold Scalar; omega)
  rw [if_neg hr, if_pos (by omega)]
  unfold pt8
  rw [if_pos h0]
  obtain ⟨n, hn⟩ : ∃ n, n = (-1 - a).toNat := ⟨_, rfl⟩
  rw [← hn]
  have hb : (UInt8.ofNat n).toNat = n := byte_nat (by omega)
  have hraw : (rowOf [UInt8.ofNat n]).2 = 0 ∨ (rowOf [UInt8.ofNat n]).1 < (rowOf [UInt8.ofNat n]).2 := by
   simp only [rowOf, hb]
   by_cases h2 : (bnds n).1 < 2
   ·rw [if_pos h2]
    left
    have h3 : (bnds n).1 ≠ 1 := by
     unfold bnds
     rw [if_neg (by omega)]
     repeat' split
     all_goals decide
    omega
   ·rw [if_neg h2]
    right; omega
  simp only [nx8]
  rw [if_pos hraw, hb]
  congr 1; omega
 | le => exact h16 false h
 | be => exact h16 true h
 | l1 =>
  exfalso
  have h : sz1 a ≠ 0 := h
  unfold sz1 at h
  have hr : ¬ (a < 0 ∨ 255 < a) := fun hc => h (if_pos hc)
  exact hs (.inl ⟨by omega, by omega⟩)
theorem ats_one {e : Enc} {a : Int} (h : sz e a ≠ 0) : ats e (pt e a) = [(a, sz e a)] := by
 by_cases hs : Scalar a
 ·have := ats_pt hs h []
  rw [List.append_nil, ats_nil] at this; exact this
 ·have hl := pt_len e a h
  have hne : pt e a ≠ [] := fun hc => by rw [hc] at hl; exact h hl.symm
  rw [ats_cons e hne, nx_one h hs, List.drop_eq_nil_of_le (Nat.le_of_eq hl), ats_nil]
def Run (l : List Int) : Prop := (∀ x ∈ l, Scalar x) ∨ ∃ v, l = [v]
theorem ats_run {e : Enc} {l : List Int} (h : Fits e l) (hr : Run l) : ats e (bts e l) = prs e l := by
 rcases hr with hr | ⟨v, rfl⟩
 ·exact ats_bts fun a ha => ⟨hr a ha, h a ha⟩
 ·show ats e (pt e v ++ []) = _
  rw [List.append_nil, ats_one (h v List.mem_cons_self)]; rfl
theorem scalar_iff {e : Enc} {v : Int} (h : sz e v ≠ 0) : Scalar v ↔ 0 ≤ v ∧ (v < 55296 ∨ 57343 < v) := by
 have hm : v ≤ 1114111 := by
  apply Classical.byContradiction
  intro hc
  apply h
  cases e with
  | u8 => exact if_pos (by omega)
  | le => exact if_pos (by omega)
  | be => exact if_pos (by omega)
  | l1 => exact if_pos (by omega)
 unfold Scalar; omega
theorem bts_app (e : Enc) (l m : List Int) : bts e (l ++ m) = bts e l ++ bts e m := by simp [bts]
theorem append_run3 (P : Program) {ts xt rt : TypeId} {e xe : TypeId} {i : TypeInfo} {z : Value} (hts : P.underlying ts = some (.slice e)) (hxt : P.underlying xt = some (.slice xe)) (hi : P.info? e = some i) (hz : i.zero = some z)
  {B : Nat} {s x : Sl} {vs us : List Value} (hs : SlOwn w B s e i.size vs) (hx : SlX w x i.size us) (h1 : ∀ v ∈ us, isOne v = true) (hzl : z.cells.size = i.size)
  (hroom : (s.len + x.len + (s.len + x.len) / 4 + 512) * i.bytes ≤ 2 ^ 48) (hb0 : 0 < i.bytes) (hB : B ≤ w.heap.size) :
  ∃ s' w', (Builtin.append_ #[ts, xt] rt #[.slice s.a s.len s.cap, .slice x.a x.len x.cap]).run P w = .ok (.slice s'.a s'.len s'.cap) w' ∧ SlOwn w' B s' e i.size (vs ++ us) ∧ s'.len = s.len + x.len ∧
   Upd (fun k => s.blk k) w w' ∧ ((Ext w w' ∧ ∀ k, s'.blk k → w.heap.size ≤ k) ∨ (s'.a = s.a ∧ ∃ b off c, s.a = some ⟨b, off, none⟩ ∧ w.heap[b]? = some (.cells c e (0, 0)) ∧ w'.heap[b]? = some (.cells (setRow c (off + s.len * i.size) us) e (0, 0)))) := by
 obtain ⟨s', w', hr, ho, hl, hu, hk, hex⟩ := append_run2 (rt := rt) P hts hxt hi hz hs hx h1 hzl hroom hb0 hB
 refine ⟨s', w', hr, ho, hl, hu, ?_⟩
 have hfx := run_firstCellsX P hx
 have hfs := run_firstCells P hs.in
 have hu1 := fun W => run_underlying hts W
 have hu2 := fun W => run_underlying hxt W
 have hsz : ∀ W, (sizeOf e).run P W = .ok i.size W := fun W => by simp [sizeOf, run_typeInfo W hi]
 have hlen := hs.len
 have hxlen := hx.len
 by_cases hneed : s.len + x.len ≤ s.cap
 ·rcases hs.at_ with ⟨ha, hc⟩ | ⟨b, off, c, ha, hB', hb, hcap, hv⟩
  ·have hl0 : x.len = 0 := by omega
   have hsl : s.len = 0 := by omega
   have hus : us = [] := by rw [hl0, Nat.zero_mul] at hxlen; exact List.length_eq_zero_iff.1 hxlen
   have hfx' : (Builtin.firstCells i.size 0 (.slice x.a 0 x.cap)).run P w = .ok #[] w := by rw [hl0, hus] at hfx; exact hfx
   simp [Builtin.append_, hu1, hu2, hsz, Builtin.lenOf, hl0, hsl, ha, hfx', hc] at hr
   obtain ⟨⟨h1, _⟩, rfl⟩ := hr
   refine .inl ⟨Ext.refl w, fun k hk => ?_⟩
   obtain ⟨q, hq, _⟩ := hk
   rw [← h1] at hq; cases hq
  ·have hfit : s.len * i.size + us.length ≤ s.cap * i.size := by
    rw [hxlen, ← Nat.add_mul]; exact Nat.mul_le_mul_right _ hneed
   obtain ⟨w1, hr1, hu1', hb1, _⟩ := run_storeRow P us b (off + s.len * i.size) 0 c e w h1 hb (by omega)
   simp [Builtin.append_, hu1, hu2, hsz, Builtin.lenOf, hneed, hfx, ha, addr_add, hr1] at hr
   obtain ⟨⟨h1, _⟩, rfl⟩ := hr
   exact .inr ⟨h1.symm.trans ha.symm, b, off, c, ha, hb, hb1⟩
 ·have hti : ∀ W, (typeInfo e).run P W = .ok i W := fun W => run_typeInfo W hi
  have hzv : ∀ W, (zeroValue e).run P W = .ok z W := fun W => by simp [zeroValue, run_typeInfo W hi, hz]
  have hle := Go.Vx.nextslicecap_le (need := s.len + x.len) (old := s.cap) (by omega)
  have hroom' : ¬ (Builtin.nextslicecap (s.len + x.len) s.cap * i.bytes > 2 ^ 48) := by
   have := Nat.mul_le_mul_right i.bytes hle
   omega
  have hfx' : (Builtin.firstCells i.size x.len (.slice x.a x.len x.cap)).run P w.drew = .ok us.toArray w.drew := run_firstCellsX P (hx.ext (Ext.drew w))
  have hfs' : (Builtin.firstCells i.size s.len (.slice s.a s.len s.cap)).run P w.drew = .ok vs.toArray w.drew := run_firstCells P (hs.in.ext (Ext.drew w))
  have hb0' : ¬ i.bytes = 0 := by omega
  simp [Builtin.append_, hu1, hu2, hsz, Builtin.lenOf, hneed, hti, hb0', hroom', run_askRoom, hfs', hfx', hzv, newRow, newObj, Sem.run, Question.forced] at hr
  obtain ⟨⟨h1, _⟩, rfl⟩ := hr
  refine .inl ⟨(Ext.drew w).trans (Ext.alloc w.drew _), fun k hk => ?_⟩
  obtain ⟨q, hq, rfl⟩ := hk
  rw [← h1] at hq; cases hq
  exact Nat.le_refl _
theorem app_by {B : Nat} {s x : Sl} {l m : Bs} {K : Sl → World → Prop} (hs : SlOwn w B s 5 1 (bv l)) (hx : SlX w x 1 (bv m)) (hroom : s.len + x.len + (s.len + x.len) / 4 + 512 ≤ 2 ^ 48) (hB : B ≤ w.heap.size)
  (h : ∀ s' w', SlOwn w' B s' 5 1 (bv (l ++ m)) → s'.len = s.len + x.len → Upd s.blk w w' → (∀ k, s'.blk k → s.blk k ∨ w.heap.size ≤ k) →
   (∀ y b, By w y b → (∀ k, y.blk k → s.blk k → top y ≤ top s) → By w' y b ∧ ∀ k, y.blk k → s'.blk k → top y ≤ top s') → K s' w') :
  rawT Tryz.prog (.one (.one .sl)) (Builtin.append_ #[22, 22] 22 #[.slice s.a s.len s.cap, .slice x.a x.len x.cap]) K w := by
 obtain ⟨i, z, hi, hsz, hby, hz, hzs⟩ := EBy.e_
 have hs' := hs
 rw [← hsz] at hs hx
 obtain ⟨s', w', hr, ho, hl, hu, hex⟩ := append_run3 (rt := 22) Tryz.prog EBy.ts_ EBy.ts_ hi hz hs hx (fun v hv => by
  obtain ⟨b, _, rfl⟩ := List.mem_map.1 hv; rfl) (by rw [hsz]; exact hzs) (by rw [hby]; omega) (by rw [hby]; decide) hB
 rw [hsz] at ho hex
 have eb : bv l ++ bv m = bv (l ++ m) := by simp [bv]
 rw [eb] at ho
 refine ⟨s', w', hr, h s' w' ho hl hu (fun k hk => ?_) fun y b hy hyt => ?_⟩
 ·rcases hex with ⟨_, h2⟩ | ⟨h1, _⟩
  ·exact .inr (h2 k hk)
  ·left
   obtain ⟨q, hq, rfl⟩ := hk
   exact ⟨q, h1 ▸ hq, rfl⟩
 ·rcases hex with ⟨h1, h2⟩ | ⟨h1, b0, off, c, ha, hb0, hb1⟩
  ·exact ⟨hy.ext h1, fun k hk hk' => by have := hy.blk_lt hk; have := h2 k hk'; omega⟩
  ·have hts : top s ≤ top s' := by unfold top; rw [h1, ha]; show off + s.len ≤ off + s'.len; omega
   have hsk : ∀ k, s'.blk k → s.blk k := fun k hk => by obtain ⟨q, hq, rfl⟩ := hk; exact ⟨q, h1 ▸ hq, rfl⟩
   refine ⟨⟨SlIn.len hy, hy.le, hy.at_.imp id fun ⟨b', off', c', fr', ha', hb', hcap, hv⟩ => ?_⟩, fun k hk hk' => Nat.le_trans (hyt k hk (hsk k hk')) hts⟩
   by_cases hbb : b' = b0
   ·subst hbb
    rw [hb0] at hb'
    cases hb'
    have ht := hyt b' ⟨_, ha', rfl⟩ ⟨_, ha, rfl⟩
    unfold top at ht
    rw [ha', ha] at ht
    dsimp only at ht
    have hyl := hy.len
    refine ⟨b', off', _, _, ha', hb1, by rw [Go.Vx.size_setRow]; exact hcap, fun i u hu => ?_⟩
    have hil := (List.getElem?_eq_some_iff.1 hu).1
    rw [List.length_map] at hil
    rw [Go.Vx.get_setRow_lt _ _ _ _ (by omega)]
    exact hv i u hu
   ·exact ⟨b', off', c', fr', ha', hu.get hb' (fun ⟨q, hq, hqb⟩ => by rw [ha] at hq; cases hq; exact hbb hqb.symm), hcap, hv⟩
theorem Its.by_ {e : Enc} : ∀ {l : List Pc} {M : Parts}, Its w e l M → ∀ x ∈ l, ∃ b, By w x.bytes b
 | [], _, _, x, hx => by cases hx
 | y :: l, z :: M, h, x, hx => by
  rcases List.mem_cons.1 hx with rfl | hx
  ·exact ⟨_, h.1.by_⟩
  ·exact Its.by_ h.2 x hx
theorem Its.ty {e : Enc} {l : List Pc} {M : Parts} (h : Its w e l M) (u : Upd S w w') (hS : NoTy w S 5) : Its w' e l M :=
 h.upd u fun x hx k hk hSk => by
  obtain ⟨b, hb⟩ := h.by_ x hx
  obtain ⟨c, fr, hc⟩ := hb.blk_cells hk
  exact hS k hSk c fr hc
theorem Its.to {e : Enc} : ∀ {l : List Pc} {M : Parts}, Its w e l M → (∀ x ∈ l, ∀ b, By w x.bytes b → By w' x.bytes b) → Its w' e l M
 | [], [], _, _ => trivial
 | x :: l, y :: M, h, hb => ⟨⟨hb x List.mem_cons_self _ h.1.by_, h.1.sm, h.1.tag, h.1.ne, h.1.lo, h.1.hi⟩, Its.to h.2 fun z hz => hb z (List.mem_cons_of_mem _ hz)⟩
def Old (w W : World) (a0 a : Sl) : Prop := ∀ y b, By w y b → (∀ k, y.blk k → a0.blk k → top y ≤ top a0) → By W y b ∧ ∀ k, y.blk k → a.blk k → top y ≤ top a
theorem Old.ty {W W' : World} {a0 a : Sl} (h : Old w W a0 a) (u : Upd S W W') (hS : NoTy W S 5) : Old w W' a0 a := fun y b hy ht => ⟨(h y b hy ht).1.ty u hS, (h y b hy ht).2⟩
theorem Old.refl (w : World) (a : Sl) : Old w w a a := fun y b hy ht => ⟨hy, ht⟩
theorem no_ext (W : World) (t : TypeId) : NoTy W (fun _ => False) t := fun _ h => h.elim
end
section
variable {w w' W W' : World} {S : Nat → Prop} {p : Nat} {e : Enc} {lim na : Nat} {O : Nat → Prop} {M : Parts}
theorem nn_eqT {a : Addr} {K : Addr → World → Prop} : nn (some a) K = K a := funext fun _ => propext nn_some_iff
abbrev txO (e : Enc) (lim : Nat) (tp : Option Addr) (a : Sl) : Obj := .cells #[.int .i64 e.num, .int .i64 (lim : Int), .pointer tp, .slice a.a a.len a.cap] 86 (0, 0)
abbrev frLs (p b1 b2 b6 b7 : Nat) (ps : Sl) (f n : Nat) : List (Nat × Obj) := [(b7, .cells #[.int .i64 (n : Int)] 3 (0, 0)), (b6, .cells #[.int .i64 (f : Int)] 3 (0, 0)), (b2, .cells #[.slice ps.a ps.len ps.cap] 87 (0, 0)), (b1, .cells #[.pointer (some (at0 p))] 27 (0, 0))]
structure FrI (w W : World) (p : Nat) (e : Enc) (lim : Nat) (tp : Option Addr) (a0 : Sl) (b1 b2 b6 b7 : Nat) (a ps : Sl) (ab cb : Bs) (pl : List Pc) (M' : Parts) (n : Nat) : Prop where
 st : St (fun k => k = p ∨ a0.blk k) w W (frLs p b1 b2 b6 b7 ps (ab.length - cb.length) n)
 tx : W.heap[p]? = some (txO e lim tp a)
 own : SlOwn W 0 a 5 1 (bv ab)
 suf : ∃ x, ab = x ++ cb
 row : SlOwn W w.heap.size ps 93 7 (flat c93 (pl.map pcT))
 its : Its W e pl M'
 tops : ∀ x ∈ pl, ∀ k, x.bytes.blk k → a.blk k → top x.bytes ≤ top a
 pblk : ∀ x ∈ pl, ∀ k, x.bytes.blk k → a0.blk k ∨ w.heap.size ≤ k
 ablk : ∀ k, a.blk k → a0.blk k ∨ w.heap.size ≤ k
 old : Old w W a0 a
 cnt : pl.length + cb.length ≤ ab.length
variable {tp : Option Addr} {a0 a ps : Sl} {b1 b2 b6 b7 n : Nat} {ab cb : Bs} {pl : List Pc} {M' : Parts}
theorem FrI.ext (h : FrI w W p e lim tp a0 b1 b2 b6 b7 a ps ab cb pl M' n) (x : Ext W W') : FrI w W' p e lim tp a0 b1 b2 b6 b7 a ps ab cb pl M' n :=
 ⟨h.st.ext x, x.ext_get h.tx, h.own.ext x, h.suf, h.row.ext x, h.its.ext x, h.tops, h.pblk, h.ablk, h.old.ty x (no_ext _ _), h.cnt⟩
set_option maxHeartbeats 1000000 in
theorem shut_x {K : Unit → World → Prop} (h : FrI w W p e lim tp a0 b1 b2 b6 b7 a ps ab cb pl M' n) (hab : ab.length < 2 ^ 40)
  (hK : ∀ ps' pl' M'' n' W', FrI w W' p e lim tp a0 b1 b2 b6 b7 a ps' ab [] pl' M'' n' → aOf e M'' = aOf e M' ++ ats e cb → n' ≤ n → W.heap.size ≤ W'.heap.size → K () W') :
  callX Tryz.prog (do let d ← Deferred.ofValue (.func (.func 145) #[] #[.pointer (some (at0 b1)), .pointer (some (at0 b6)), .pointer (some (at0 b2)), .pointer (some (at0 b7))]) #[]; invoke d.target d.args : Sem Next) (.tup []) K W := by
 refine func_x (caps := #[.pointer (some (at0 b1)), .pointer (some (at0 b6)), .pointer (some (at0 b2)), .pointer (some (at0 b7))]) (by kernel_rfl) ?_
 refine F145_calls ?_
 unfold F145
 have hlen : ab.length = a.len := by have := h.own.len1; rwa [List.length_map] at this
 have hcl : cb.length ≤ ab.length := by obtain ⟨x, hx⟩ := h.suf; rw [hx]; simp
 have S0 := h.st
 refine S0.ld 3 rfl (x := some (at0 p)) rfl ?_
 simp only [nn_eqT, addr_add]
 refine ld_r h.tx (x := a) rfl (S0.ld 1 rfl (x := ((ab.length - cb.length : Nat) : Int)) rfl (sif_r (fun hc => ?_) (fun hc => ?_)))
 ·simp only [decide_eq_true_eq, gt_iff_lt] at hc
  have hcb : 0 < cb.length := by omega
  refine S0.drew fun W1 S1 e1 _ => ?_
  have h1 := h.ext e1
  refine S1.ld 2 rfl (x := ps) rfl (S1.ld 3 rfl (x := some (at0 p)) rfl ?_)
  simp only [nn_eqT, addr_add]
  refine ld_r h1.tx (x := e.num) rfl (S1.ld 3 rfl (x := some (at0 p)) rfl ?_)
  simp only [nn_eqT, addr_add]
  refine ld_r h1.tx (x := a) rfl (S1.ld 1 rfl (x := ((ab.length - cb.length : Nat) : Int)) rfl ?_)
  have hcap := h.own.in.le
  refine chk_r (by omega) ?_
  have hB1 : By W1 a ab := h1.own.in
  have c1 := hB1.cut (l := ((ab.length - cb.length : Nat) : Int)) (h := (a.len : Int)) (m := (a.len : Int)) (by omega) (by omega) (by omega) (by omega) (by omega)
  have d1 : (ab.drop ((ab.length - cb.length : Nat) : Int).toNat).take ((a.len : Int).toNat - ((ab.length - cb.length : Nat) : Int).toNat) = cb := by
   obtain ⟨x, hx⟩ := h.suf
   rw [Int.toNat_natCast, Int.toNat_natCast, List.take_of_length_le (by rw [List.length_drop]; omega)]
   have : ab.length - cb.length = x.length := by rw [hx]; simp
   rw [this, hx, List.drop_left]
  rw [d1] at c1
  have ct := cut_top hB1 (l := ((ab.length - cb.length : Nat) : Int)) (h := (a.len : Int)) (m := (a.len : Int)) (by omega) (by omega) (by omega)
  have cbk := fun k => cut_blk (s := a) (l := ((ab.length - cb.length : Nat) : Int)) (h := (a.len : Int)) (m := (a.len : Int)) (k := k)
  generalize Sl.cut a.a ((ab.length - cb.length : Nat) : Int) (a.len : Int) (a.len : Int) 1 = y at *
  refine newpart_call c1 (by omega) fun W2 e2 => ?_
  have h2 := h1.ext e2
  have S2 := h2.st
  refine S2.keep 2 rfl (v := .slice ps.a ps.len ps.cap) rfl ?_
  refine newO_r fun b15 W3 e3 n3 hb15 hz3 => ?_
  have h3 := h2.ext e3
  have S3 := h3.st
  refine S3.keep 2 rfl (v := .slice ps.a ps.len ps.cap) rfl ?_
  have hbox : SlX W3 ⟨some (at0 b15), 1, 1⟩ 7 (flat c93 [pcT (mkPc e y (-1) cb)]) := (SlIn.of_box n3 (n := 1) (sz := 7) rfl).x
  have hrl := SlOwn.lenR (cs := c93) h3.row (by decide)
  rw [List.length_map] at hrl
  have hcnt := h.cnt
  refine append_rx eParts eParts.ts_ (x := ⟨some (at0 b15), 1, 1⟩) h3.row hbox (Pc_one _) (by
   show (ps.len + 1 + (ps.len + 1) / 4 + 512) * 64 ≤ 2 ^ 48
   omega) (by have := S3.upd.size; omega) fun ps' W4 o4 l4 u4 k4 => ?_
  have nb4 : NoTy W3 ps.blk 5 := NoTy.blk h3.row.in (by decide)
  have nt4 : NoTy W3 ps.blk 86 := NoTy.blk h3.row.in (by decide)
  have e4 : flat c93 (pl.map pcT) ++ flat c93 [pcT (mkPc e y (-1) cb)] = flat c93 ((pl ++ [mkPc e y (-1) cb]).map pcT) := by rw [List.map_append, flat_append]; rfl
  rw [e4] at o4
  have tx4 : W4.heap[p]? = some (txO e lim tp a) := u4.get h3.tx fun hk => nt4 _ hk _ _ h3.tx
  have own4 := h3.own.ty u4 nb4
  have st4 : St (fun k => k = p ∨ a0.blk k) w W4 (frLs p b1 b2 b6 b7 ps (ab.length - cb.length) n) := S3.fresh u4 (fun k hk => .inr (h3.row.blk_ge hk)) (fun x hx hk => by
   obtain ⟨c, fr, hc'⟩ := h3.row.in.blk_cells hk
   have hl := (S3.loc x hx).1
   rw [hc'] at hl
   simp only [frLs, List.mem_cons, List.not_mem_nil, or_false] at hx
   rcases hx with rfl | rfl | rfl | rfl <;> cases hl)
  have its4 : Its W4 e (pl ++ [mkPc e y (-1) cb]) (M' ++ [(-1, cb)]) := by
   refine Its.app (h3.its.ty u4 nb4) ⟨⟨?_, rfl, rfl, ?_, Int.le_refl _, ?_⟩, trivial⟩
   ·exact ((c1.ext e2).ext e3).ty u4 nb4
   ·intro hn
    replace hn : cb = [] := hn
    rw [hn] at hcb; simp at hcb
   ·show (-1 : Int) + (cb.length : Int) ≤ 2 ^ 40; omega
  have old4 := h3.old.ty u4 nb4
  refine st4.stC 2 rfl (by show 0 < 1; decide) fun W5 S5 u5 => S5.stC 1 rfl (by show 0 < 1; decide) fun W6 S6 u6 => S6.stC 0 rfl (by show 0 < 1; decide) fun W7 S7 u7 => ?_
  have g2 : W4.heap[b2]? = some (.cells #[.slice ps.a ps.len ps.cap] 87 (0, 0)) := st4.at_ 2 rfl
  have g6 : W5.heap[b6]? = some (.cells #[.int .i64 ((ab.length - cb.length : Nat) : Int)] 3 (0, 0)) := S5.at_ 1 rfl
  have g7 : W6.heap[b7]? = some (.cells #[.int .i64 (n : Int)] 3 (0, 0)) := S6.at_ 0 rfl
  have tx5 : W5.heap[p]? = some (txO e lim tp a) := u5.get tx4 (fun hk => NoTy.box g2 (by decide) _ hk _ _ tx4)
  have tx6 : W6.heap[p]? = some (txO e lim tp a) := u6.get tx5 (fun hk => NoTy.box g6 (by decide) _ hk _ _ tx5)
  have tx7 : W7.heap[p]? = some (txO e lim tp a) := u7.get tx6 (fun hk => NoTy.box g7 (by decide) _ hk _ _ tx6)
  have hts : ∀ x ∈ pl ++ [mkPc e y (-1) cb], ∀ k, x.bytes.blk k → a.blk k → top x.bytes ≤ top a := by
   intro x hx
   rcases List.mem_append.1 hx with hx | hx
   ·exact h.tops x hx
   ·rw [List.mem_singleton.1 hx]; intro k _ _; exact ct
  have hpb : ∀ x ∈ pl ++ [mkPc e y (-1) cb], ∀ k, x.bytes.blk k → a0.blk k ∨ w.heap.size ≤ k := by
   intro x hx
   rcases List.mem_append.1 hx with hx | hx
   ·exact h.pblk x hx
   ·rw [List.mem_singleton.1 hx]; intro k hk; exact h.ablk k (cbk k hk)
  refine hK ps' (pl ++ [mkPc e y (-1) cb]) (M' ++ [(-1, cb)]) 0 W7 ⟨?_, tx7, ?_, ⟨ab, by simp⟩, ?_, ?_, hts, hpb, h.ablk, ?_, ?_⟩ ?_ (Nat.zero_le _) ?_
  ·have e0 : ((a.len : Nat) : Int) = ((ab.length - ([] : Bs).length : Nat) : Int) := by simp; omega
   rw [e0] at S7
   exact S7
  ·exact ((own4.box g2 (by decide) u5).box g6 (by decide) u6).box g7 (by decide) u7
  ·exact ((o4.box g2 (by decide) u5).box g6 (by decide) u6).box g7 (by decide) u7
  ·exact ((its4.ty u5 (NoTy.box g2 (by decide))).ty u6 (NoTy.box g6 (by decide))).ty u7 (NoTy.box g7 (by decide))
  ·exact ((old4.ty u5 (NoTy.box g2 (by decide))).ty u6 (NoTy.box g6 (by decide))).ty u7 (NoTy.box g7 (by decide))
  ·simp; omega
  ·rw [aOf_app]; simp [aOf]
  ·have := e1.size; have := e2.size; have := e3.size; have := u4.size; have := u5.size; have := u6.size; have := u7.size; omega
 ·simp only [decide_eq_false_iff_not, gt_iff_lt] at hc
  have hcb : cb = [] := List.length_eq_zero_iff.1 (by omega)
  subst hcb
  exact hK ps pl M' n W h (by rw [ats_nil, List.append_nil]) (Nat.le_refl _) (Nat.le_refl _)
theorem Old.trans {w W W' : World} {a0 a a' : Sl} (h : Old w W a0 a) (h' : Old W W' a a') : Old w W' a0 a' := fun y b hy ht => h' y b (h y b hy ht).1 (h y b hy ht).2
set_option maxHeartbeats 1000000 in
theorem fresh_call {s : Sl} {t : TypeId} {put : List Int} (hs : SlIn w s t 1 (iv put)) (hsep : ∀ k, s.blk k → k ≠ p ∧ ¬ a0.blk k) (hfit : Fits e put) (tx : w.heap[p]? = some (txO e lim tp a0)) (own : SlOwn w 0 a0 5 1 (bv ab)) (hab : ab.length + (bts e put).length < 2 ^ 40) (hput : put.length < 2 ^ 40) {K : Sl → World → Prop}
  (hK : ∀ ps a pl M' W, W.heap[p]? = some (txO e lim tp a) → SlOwn W 0 a 5 1 (bv (ab ++ bts e put)) → SlOwn W w.heap.size ps 93 7 (flat c93 (pl.map pcT)) → Its W e pl M' → aOf e M' = prs e put → (∀ x ∈ pl, ∀ k, x.bytes.blk k → a.blk k → top x.bytes ≤ top a) →
   (∀ x ∈ pl, ∀ k, x.bytes.blk k → a0.blk k ∨ w.heap.size ≤ k) → (∀ k, a.blk k → a0.blk k ∨ w.heap.size ≤ k) → Old w W a0 a → Upd (fun k => k = p ∨ a0.blk k) w W → pl.length ≤ ab.length + (bts e put).length → K ps W) :
  callT Tryz.prog 110 #[.pointer (some (at0 p)), .slice s.a s.len s.cap] (.one (.one .sl)) K w := by
 refine F110_calls ?_
 unfold F110
 have hlen : put.length = s.len := by have := hs.len1; rwa [List.length_map] at this
 have hal : ab.length = a0.len := by have := own.len1; rwa [List.length_map] at this
 have hpw := lt_of_heap tx
 refine (St.startM (fun k => k = p ∨ a0.blk k) w (fun k hk => hk.elim (fun h => h ▸ hpw) fun h => own.in.blk_lt h)).newO fun b1 w1 S1 e1 => S1.newO fun b2 w2 S2 e2 => S2.ld 1 rfl (x := some (at0 p)) rfl ?_
 simp only [nn_eqT, addr_add]
 have x2 := e1.trans e2
 refine ld_r (x2.ext_get tx) (x := a0) rfl (S2.newO fun b6 w3 S3 e3 => S3.stC 0 rfl (by show 0 < 1; decide) fun w4 S4 u4 => S4.newO fun b7 w5 S5 e5 => S5.stC 0 rfl (by show 0 < 1; decide) fun w6 S6 u6 => ?_)
 have g6 : w3.heap[b6]? = some (.cells #[.int .i64 0] 3 (0, 0)) := S3.at_ 0 rfl
 have g7 : w5.heap[b7]? = some (.cells #[.int .i64 0] 3 (0, 0)) := S5.at_ 0 rfl
 have x3 := x2.trans e3
 have F0 : FrI w w6 p e lim tp a0 b1 b2 b6 b7 a0 ⟨none, 0, 0⟩ ab [] [] [] 0 := by
  refine ⟨?_, ?_, ?_, ⟨ab, by simp⟩, SlOwn.nil _ _ _ _, trivial, (fun x hx => by cases hx), (fun x hx => by cases hx), fun k hk => .inl hk, ?_, by simp⟩
  ·have e0 : ((a0.len : Nat) : Int) = ((ab.length - ([] : Bs).length : Nat) : Int) := by simp; omega
   rw [e0] at S6
   exact S6
  ·have t3 := x3.ext_get tx
   have t4 : w4.heap[p]? = some (txO e lim tp a0) := u4.get t3 (fun hk => NoTy.box g6 (by decide) _ hk _ _ t3)
   have t5 := e5.ext_get t4
   exact u6.get t5 (fun hk => NoTy.box g7 (by decide) _ hk _ _ t5)
  ·exact (((own.ext x3).box g6 (by decide) u4).ext e5).box g7 (by decide) u6
  ·exact ((((Old.refl w a0).ty x3 (no_ext _ _)).ty u4 (NoTy.box g6 (by decide))).ty e5 (no_ext _ _)).ty u6 (NoTy.box g7 (by decide))
 clear S1 S2 S3 S4 S5 S6
 have tkl : ∀ i j : Nat, j ≤ i → (bts e ((put.take i).drop j)).length ≤ (bts e put).length := by
  intro i j _
  have : put = put.take i ++ put.drop i := (List.take_append_drop i put).symm
  have h2 : put.take i = (put.take i).take j ++ (put.take i).drop j := (List.take_append_drop j _).symm
  have h3 : (bts e put).length = (bts e (put.take i)).length + (bts e (put.drop i)).length := by conv => lhs; rw [this]; rw [bts_app, List.length_append]
  have h4 : (bts e (put.take i)).length = (bts e ((put.take i).take j)).length + (bts e ((put.take i).drop j)).length := by conv => lhs; rw [h2]; rw [bts_app, List.length_append]
  omega
 have abl : ∀ i, (ab ++ bts e (put.take i)).length < 2 ^ 40 := fun i => by have := tkl i 0 (Nat.zero_le _); rw [List.length_append]; simp only [List.drop_zero] at this; omega
 have fit2 : ∀ i j, Fits e ((put.take i).drop j) := fun i j x hx => hfit x (List.mem_of_mem_take (List.mem_of_mem_drop hx))
 have glue : ∀ i j, Run ((put.take i).drop j) → prs e ((put.take i).take j) ++ ats e (bts e ((put.take i).drop j)) = prs e (put.take i) := fun i j hr => by
  rw [ats_run (fit2 i j) hr]; unfold prs; rw [← List.map_append, List.take_append_drop]
 have shut : ∀ {a ps i j pl M' n} {W : World} {K : Unit → World → Prop}, Run ((put.take i).drop j) → j ≤ i → FrI w W p e lim tp a0 b1 b2 b6 b7 a ps (ab ++ bts e (put.take i)) (bts e ((put.take i).drop j)) pl M' n → aOf e M' = prs e ((put.take i).take j) → (∀ ps' pl' M'' n' W', FrI w W' p e lim tp a0 b1 b2 b6 b7 a ps' (ab ++ bts e (put.take i)) [] pl' M'' n' → aOf e M'' = prs e (put.take i) → n' ≤ n → K () W') →
   callX Tryz.prog (do let d ← Deferred.ofValue (.func (.func 145) #[] #[.pointer (some (at0 b1)), .pointer (some (at0 b6)), .pointer (some (at0 b2)), .pointer (some (at0 b7))]) #[]; invoke d.target d.args : Sem Next) (.tup []) K W := by
  intro a ps i j pl M' n W K hr hj F hM hK
  exact shut_x F (abl i) fun ps' pl' M'' n' W' F' hM' hn _ => hK ps' pl' M'' n' W' F' (by rw [hM', hM, glue _ _ hr]) hn
 refine join_r (fun _ W => ∃ a ps pl M' n j, j ≤ put.length ∧ (∀ x ∈ (put.take put.length).drop j, Scalar x) ∧ FrI w W p e lim tp a0 b1 b2 b6 b7 a ps (ab ++ bts e (put.take put.length)) (bts e ((put.take put.length).drop j)) pl M' n ∧ aOf e M' = prs e ((put.take put.length).take j)) ?_ ?_
 ·refine sloop_r (fun x W => ∃ a ps pl M' n i j, x = (((i : Nat) : Int), ()) ∧ i ≤ put.length ∧ j ≤ i ∧ n ≤ i ∧ (∀ x ∈ (put.take i).drop j, Scalar x) ∧ FrI w W p e lim tp a0 b1 b2 b6 b7 a ps (ab ++ bts e (put.take i)) (bts e ((put.take i).drop j)) pl M' n ∧ aOf e M' = prs e ((put.take i).take j)) (fun x _ => ((put.length : Int) - x.1).toNat) ⟨a0, ⟨none, 0, 0⟩, [], [], 0, 0, 0, rfl, Nat.zero_le _, Nat.le_refl _, Nat.le_refl _, (fun x hx => by simp at hx), by simpa [bts] using F0, by simp [aOf, prs]⟩ ?_
  rintro _ W ⟨a, ps, pl, M', n, i, j, rfl, hi, hj, hn, hsc, F, hM⟩
  refine sif_r (fun hc => ?_) (fun hc => ?_)
  ·simp only [decide_eq_true_eq] at hc
   obtain ⟨v, hv⟩ : ∃ v, put[i]? = some v := ⟨_, List.getElem?_eq_getElem (by omega)⟩
   have hf := hfit v (List.mem_of_getElem? hv)
   have ew : IntKind.wrap .i64 ((i : Int) + 1) = ((i + 1 : Nat) : Int) := by rw [wrap64 (by omega) (by omega)]; omega
   dsimp only
   rw [ew]
   refine join_r (fun _ W => ∃ a ps pl M' n j, j ≤ i + 1 ∧ n ≤ i + 1 ∧ (∀ x ∈ (put.take (i + 1)).drop j, Scalar x) ∧ FrI w W p e lim tp a0 b1 b2 b6 b7 a ps (ab ++ bts e (put.take (i + 1))) (bts e ((put.take (i + 1)).drop j)) pl M' n ∧ aOf e M' = prs e ((put.take (i + 1)).take j)) ?_ ?_
   ·have hsW : SlIn W s t 1 (iv put) := hs.upd F.st.upd fun k hk hSk => by
     have := hsep k hk
     rcases hSk with h | h
     ·exact this.1 h
     ·exact this.2 h
    refine ix_ld (c := .int .i64) (xs := put) hsW (by omega) (x := v) (by rw [Int.toNat_natCast]; exact hv) fun q => ?_
    have hsv := scalar_iff hf
    obtain ⟨sc, hsc'⟩ : ∃ sc : Bool, sc = decide (0 ≤ v ∧ (v < 55296 ∨ 57343 < v)) := ⟨_, rfl⟩
    have hsv : sc = true ↔ Scalar v := by rw [hsc', hsv, decide_eq_true_eq]
    refine join_r (fun x W' => x = (sc, ()) ∧ W = W') ?_ ?_
    ·refine sif_r (fun h1 => sif_r (fun h2 => ⟨tupb ?_, rfl⟩) (fun h2 => ⟨tupb ?_, rfl⟩)) (fun h1 => ⟨tupb ?_, rfl⟩)
     all_goals simp only [hsc', decide_eq_true_eq, decide_eq_false_iff_not, gt_iff_lt, ge_iff_le, true_iff, Bool.false_eq_true, false_iff] at *
     all_goals omega
    rintro _ _ ⟨rfl, rfl⟩
    refine join_r (fun _ W => ∃ ps pl M' n j, j ≤ i ∧ n ≤ i ∧ (∀ x ∈ (put.take i).drop j, Scalar x) ∧ (sc = false → j = i) ∧ FrI w W p e lim tp a0 b1 b2 b6 b7 a ps (ab ++ bts e (put.take i)) (bts e ((put.take i).drop j)) pl M' n ∧ aOf e M' = prs e ((put.take i).take j)) ?_ ?_
    ·refine join_r (fun x W' => x = ((!sc || decide (n = 128)), ()) ∧ W = W') ?_ ?_
     ·refine sif_r (fun h1 => ⟨tupb ?_, rfl⟩) (fun h1 => F.st.ld 0 rfl (x := (n : Int)) rfl ⟨tupb ?_, rfl⟩)
      ·have h1 : (!sc) = true := h1
       rw [h1]; simp
      ·have h1 : (!sc) = false := h1
       rw [h1, Bool.false_or]
       simp only [beq_iff_eq, decide_eq_true_eq]; omega
     rintro _ _ ⟨rfl, rfl⟩
     have nil_ : (put.take i).drop i = [] := List.drop_eq_nil_of_le (by rw [List.length_take]; omega)
     refine sif_r (fun _ => shut (.inl hsc) hj F hM fun ps' pl' M'' n' W' F' hM' hn' => ⟨ps', pl', M'', n', i, Nat.le_refl _, by omega, ?_, (fun _ => rfl), ?_, ?_⟩) (fun hb => ⟨ps, pl, M', n, j, hj, hn, hsc, (fun h => ?_), F, hM⟩)
     ·rw [nil_]; intro x hx; cases hx
     ·rw [nil_]; exact F'
     ·rw [hM', List.take_take, Nat.min_self]
     ·have hb : (!sc || decide (n = 128)) = false := hb
      rw [h] at hb; simp at hb
    clear F hM hn hj hsc ps pl M' n j
    rintro _ W1 ⟨ps, pl, M', n, j, hj, hn, hsc, hji, F, hM⟩
    refine F.st.ld 3 rfl (x := some (at0 p)) rfl ?_
    simp only [nn_eqT, addr_add]
    refine ld_r F.tx (x := e.num) rfl (newO_r fun b27 W2 e2' n2 hb27 _ => ?_)
    have F2 := F.ext e2'
    have hbox : SlIn W2 ⟨some (at0 b27), 1, 1⟩ 3 1 [.int .i64 v] := SlIn.of_box n2 (n := 1) (sz := 1) rfl
    refine enc1_call (s := ⟨some (at0 b27), 1, 1⟩) (t := 3) (e := e) (a := v) hf hbox fun s28 W3 o28 e3' => ?_
    have F3 := F2.ext e3'
    have S3 := F3.st
    show drew _ W3
    refine S3.drew fun W4 S4 e4' _ => ?_
    have F4 := F3.ext e4'
    have o28 := o28.ext e4'
    refine F4.st.ld 3 rfl (x := some (at0 p)) rfl (F4.st.ld 3 rfl (x := some (at0 p)) rfl ?_)
    simp only [nn_eqT, addr_add]
    have tkv : put.take (i + 1) = put.take i ++ [v] := by rw [List.take_add_one, hv]; rfl
    have ptl : (bts e (put.take i)).length + (pt e v).length ≤ (bts e put).length := by
     have := tkl (i + 1) 0 (Nat.zero_le _)
     rw [List.drop_zero, tkv, bts_app, List.length_append] at this
     simpa [bts] using this
    have s28l : (pt e v).length = s28.len := by have := o28.len1; rwa [List.length_map] at this
    have al4 : (ab ++ bts e (put.take i)).length = a.len := by have := F4.own.len1; rwa [List.length_map] at this
    have al4' := al4
    rw [List.length_append] at al4'
    refine ld_r F4.tx (x := a) rfl (app_by F4.own o28.in.x (by omega) (Nat.zero_le _) fun a' W5 o5 l5 u5 k5 old5 => ?_)
    have nb5 : ∀ t, t ≠ 5 → NoTy W4 a.blk t := fun t ht => NoTy.blk F4.own.in (fun h => ht h.symm)
    have tx5 : W5.heap[p]? = some (txO e lim tp a) := u5.get F4.tx fun hk => nb5 86 (by decide) _ hk _ _ F4.tx
    have st5 : St (fun k => k = p ∨ a0.blk k) w W5 (frLs p b1 b2 b6 b7 ps ((ab ++ bts e (put.take i)).length - (bts e ((put.take i).drop j)).length) n) := F4.st.fresh u5 (fun k hk => (F4.ablk k hk).imp .inr id) (fun x hx hk => by
     obtain ⟨c, fr, hc'⟩ := F4.own.in.blk_cells hk
     have hl := (F4.st.loc x hx).1
     rw [hc'] at hl
     simp only [frLs, List.mem_cons, List.not_mem_nil, or_false] at hx
     rcases hx with rfl | rfl | rfl | rfl <;> cases hl)
    have row5 := F4.row.ty u5 (nb5 93 (by decide))
    have its5 : Its W5 e pl M' := F4.its.to fun x hx b hb => (old5 x.bytes b hb (F4.tops x hx)).1
    have tops5 : ∀ x ∈ pl, ∀ k, x.bytes.blk k → a'.blk k → top x.bytes ≤ top a' := fun x hx => by
     obtain ⟨b, hb⟩ := F4.its.by_ x hx
     exact (old5 x.bytes b hb (F4.tops x hx)).2
    have oldT : Old w W5 a0 a' := F4.old.trans old5
    refine st5.keep 3 rfl (v := .pointer (some (at0 p))) rfl ?_
    refine stC_r tx5 (by show 3 < 4; decide) fun W6 u6 n6 _ => ?_
    have n6 : W6.heap[p]? = some (txO e lim tp a') := n6
    have nt6 : ∀ t, t ≠ 86 → NoTy W5 (fun k => k = p) t := fun t ht => NoTy.box tx5 (fun h => ht h.symm)
    have st6 : St (fun k => k = p ∨ a0.blk k) w W6 (frLs p b1 b2 b6 b7 ps ((ab ++ bts e (put.take i)).length - (bts e ((put.take i).drop j)).length) n) := st5.step u6 fun k hk => .inl hk
    refine st6.ld 0 rfl (x := (n : Int)) rfl (st6.stC 0 rfl (by show 0 < 1; decide) fun W7 S7 u7 => ?_)
    have g7' : W6.heap[b7]? = some (.cells #[.int .i64 (n : Int)] 3 (0, 0)) := st6.at_ 0 rfl
    have ewn : IntKind.wrap .i64 ((n : Int) + 1) = ((n + 1 : Nat) : Int) := by rw [wrap64 (by omega) (by omega)]; omega
    rw [ewn] at S7
    have cbe : bts e ((put.take (i + 1)).drop j) = bts e ((put.take i).drop j) ++ pt e v := by
     rw [tkv, List.drop_append_of_le_length (by rw [List.length_take]; omega), bts_app]; simp [bts]
    have abe : ab ++ bts e (put.take (i + 1)) = ab ++ bts e (put.take i) ++ pt e v := by rw [tkv, bts_app, List.append_assoc]; simp [bts]
    have F7 : FrI w W7 p e lim tp a0 b1 b2 b6 b7 a' ps (ab ++ bts e (put.take (i + 1))) (bts e ((put.take (i + 1)).drop j)) pl M' (n + 1) := by
     rw [cbe, abe]
     refine ⟨?_, ?_, ?_, ?_, ?_, ?_, tops5, F4.pblk, ?_, ?_, ?_⟩
     ·rw [@List.length_append _ (ab ++ bts e (put.take i)), @List.length_append _ (bts e ((put.take i).drop j)), Nat.add_sub_add_right]
      exact S7
     ·exact u7.get n6 (fun hk => NoTy.box g7' (by decide) _ hk _ _ n6)
     ·exact (o5.ty u6 (nt6 _ (by decide))).box g7' (by decide) u7
     ·obtain ⟨x, hx⟩ := F4.suf
      exact ⟨x, by rw [hx, List.append_assoc]⟩
     ·exact (row5.ty u6 (nt6 _ (by decide))).box g7' (by decide) u7
     ·exact (its5.ty u6 (nt6 _ (by decide))).ty u7 (NoTy.box g7' (by decide))
     ·intro k hk
      rcases k5 k hk with h | h
      ·exact F4.ablk k h
      ·have := F4.st.upd.size; exact .inr (by omega)
     ·exact (oldT.ty u6 (nt6 _ (by decide))).ty u7 (NoTy.box g7' (by decide))
     ·have := F4.cnt
      rw [@List.length_append _ (ab ++ bts e (put.take i)), @List.length_append _ (bts e ((put.take i).drop j))]
      omega
    have seg : (put.take (i + 1)).drop j = (put.take i).drop j ++ [v] := by rw [tkv, List.drop_append_of_le_length (by rw [List.length_take]; omega)]
    have hM7 : aOf e M' = prs e ((put.take (i + 1)).take j) := by rw [hM, tkv, List.take_append_of_le_length (by rw [List.length_take]; omega)]
    refine sif_r (fun hb => ?_) (fun hb => ⟨a', ps, pl, M', n + 1, j, by omega, by omega, ?_, F7, hM7⟩)
    ·have hb : sc = false := by simpa using hb
     have hr : Run ((put.take (i + 1)).drop j) := .inr ⟨v, by rw [seg, hji hb, List.drop_eq_nil_of_le (by rw [List.length_take]; omega)]; rfl⟩
     have nil_ : (put.take (i + 1)).drop (i + 1) = [] := List.drop_eq_nil_of_le (by rw [List.length_take]; omega)
     refine shut hr (by omega) F7 hM7 fun ps' pl' M'' n' W' F' hM' hn' => ⟨a', ps', pl', M'', n', i + 1, Nat.le_refl _, by omega, ?_, ?_, ?_⟩
     ·rw [nil_]; intro x hx; cases hx
     ·rw [nil_]; exact F'
     ·rw [hM', List.take_take, Nat.min_self]
    ·have hb : sc = true := by simpa using hb
     rw [seg]
     intro x hx
     rcases List.mem_append.1 hx with hx | hx
     ·exact hsc x hx
     ·rw [List.mem_singleton.1 hx]; exact hsv.1 hb
   ·rintro _ W' ⟨a, ps, pl, M', n, j, hj, hn, hsc, F, hM⟩
    exact ⟨⟨a, ps, pl, M', n, i + 1, j, rfl, by omega, by omega, hn, hsc, F, hM⟩, by omega⟩
  ·simp only [decide_eq_false_iff_not] at hc
   have : i = put.length := by omega
   subst this
   exact ⟨a, ps, pl, M', n, j, hj, hsc, F, hM⟩
 ·rintro _ W ⟨a, ps, pl, M', n, j, hj, hsc, F, hM⟩
  refine shut (.inl hsc) hj F hM fun ps' pl' M'' n' W' F' hM' _ => ?_
  have hcnt := F'.cnt
  rw [List.take_length] at F' hM' hcnt
  refine F'.st.ld 2 rfl (x := ps') rfl (hK ps' a pl' M'' W' F'.tx F'.own F'.row F'.its hM' F'.tops F'.pblk F'.ablk F'.old F'.st.upd ?_)
  rw [List.length_append] at hcnt
  simpa using hcnt
end
section
variable {w w' W W' : World} {S : Nat → Prop} {p : Nat} {e : Enc} {lim na : Nat} {O : Nat → Prop} {M : Parts} {tp : Option Addr} {a0 a : Sl}
def hdA (e : Enc) (M : Parts) (i n : Nat) : As := match M[i]? with | some x => (ats e x.2).take n | none => []
def tlA (e : Enc) (M : Parts) (i n : Nat) : As := match M[i]? with | some x => (ats e x.2).drop n | none => []
theorem hdA_some {e : Enc} {M : Parts} {i n : Nat} {x : Int × Bs} (h : M[i]? = some x) : hdA e M i n = (ats e x.2).take n := by unfold hdA; rw [h]
theorem tlA_some {e : Enc} {M : Parts} {i n : Nat} {x : Int × Bs} (h : M[i]? = some x) : tlA e M i n = (ats e x.2).drop n := by unfold tlA; rw [h]
theorem hdA_none {e : Enc} {M : Parts} {i n : Nat} (h : M[i]? = none) : hdA e M i n = [] := by unfold hdA; rw [h]
theorem tlA_none {e : Enc} {M : Parts} {i n : Nat} (h : M[i]? = none) : tlA e M i n = [] := by unfold tlA; rw [h]
theorem hd_spot {e : Enc} {M : Parts} {at_ i n : Nat} (h : Spot e M at_ i n) : (aOf e M).take at_ = aOf e (M.take i) ++ hdA e M i n := by rw [take_spot h]; unfold hdA; cases M[i]? <;> rfl
theorem drop_spot {e : Enc} {M : Parts} {at_ i n : Nat} (h : Spot e M at_ i n) : (aOf e M).drop at_ = tlA e M i n ++ aOf e (M.drop (i + 1)) := by
 rcases h with ⟨rfl, rfl, rfl⟩ | ⟨x, hx, h1, h2, rfl⟩
 ·cases M with
  | nil => simp [aOf, tlA]
  | cons x M => simp [aOf, tlA]
 ·rw [tlA_some hx]
  have hil := (List.getElem?_eq_some_iff.1 hx).1
  have hd : M = M.take i ++ x :: M.drop (i + 1) := by
   have := List.drop_eq_getElem_cons hil
   have hx' : M[i] = x := by rw [List.getElem?_eq_getElem hil] at hx; exact Option.some.inj hx
   rw [hx'] at this
   rw [← this, List.take_append_drop]
  have : aOf e M = aOf e (M.take i) ++ (ats e x.2 ++ aOf e (M.drop (i + 1))) := by
   conv => lhs; rw [hd]
   rw [aOf_app, aOf_cons]
  rw [this, List.drop_length_add_append, List.drop_append_of_le_length h2]
theorem spot_le {e : Enc} {M : Parts} {f t i n j m : Nat} (h1 : Spot e M f i n) (h2 : Spot e M t j m) (hft : f ≤ t) : i ≤ j := by
 have mono : ∀ a b : Nat, a ≤ b → (aOf e (M.take a)).length ≤ (aOf e (M.take b)).length := by
  intro a b hab
  have : M.take b = M.take a ++ (M.take b).drop a := by
   conv => lhs; rw [← List.take_append_drop a (M.take b)]
   rw [List.take_take, Nat.min_eq_left hab]
  rw [this, aOf_app, List.length_append]; omega
 rcases h1 with ⟨_, rfl, _⟩ | ⟨x, hx, g1, g2, g3⟩
 ·exact Nat.zero_le _
 rcases Nat.lt_or_ge j i with hlt | hge
 ·exfalso
  rcases h2 with ⟨h, _, _⟩ | ⟨y, hy, k1, k2, k3⟩
  ·omega
  ·have hjl := (List.getElem?_eq_some_iff.1 hy).1
   have e1 : (aOf e (M.take (j + 1))).length = (aOf e (M.take j)).length + (ats e y.2).length := by
    have hy' : M[j] = y := by rw [List.getElem?_eq_getElem hjl] at hy; exact Option.some.inj hy
    rw [List.take_add_one, hy, Option.toList_some, aOf_app, List.length_append]
    simp [aOf]
   have := mono (j + 1) i (by omega)
   omega
 ·exact hge
theorem szs_ge_take {l : As} (h : Posd l) {n : Nat} (hn : n ≤ l.length) : n ≤ szs (l.take n) := by
 have := szs_ge (h.take n)
 rw [List.length_take] at this; omega
theorem head_in {x : Pc} {y : Int × Bs} {n : Nat} (hp : PcIn w e x y) (h1 : 1 ≤ n) (hn : n ≤ (ats e y.2).length) : PcIn w e (headPc e x y.2 n) (y.1, y.2.take (cutAt e y.2 n)) := by
 have hcl := cutAt_le e y.2 n
 have hlen := hp.by_.len
 have hcap := SlIn.le hp.by_
 have c1 := hp.by_.cut (l := 0) (h := (cutAt e y.2 n : Int)) (m := (cutAt e y.2 n : Int)) (by omega) (by omega) (by omega) (by omega) (by omega)
 have d1 : (y.2.drop (0 : Int).toNat).take ((cutAt e y.2 n : Int).toNat - (0 : Int).toNat) = y.2.take (cutAt e y.2 n) := by simp
 rw [d1] at c1
 have hge : n ≤ cutAt e y.2 n := szs_ge_take (ats_posd e y.2) hn
 refine ⟨c1, rfl, hp.tag, fun hc => ?_, hp.lo, ?_⟩
 ·have := congrArg List.length hc
  rw [List.length_take, List.length_nil] at this
  omega
 ·have := hp.hi
  show y.1 + ((y.2.take _).length : Int) ≤ _
  rw [List.length_take]; omega
theorem rest_in {x : Pc} {y : Int × Bs} {n : Nat} (hp : PcIn w e x y) (hn : n < (ats e y.2).length) : PcIn w e (restPc e x y.2 n) (restTag y.1 (cutAt e y.2 n), y.2.drop (cutAt e y.2 n)) := by
 have hcl := cutAt_le e y.2 n
 have hlen := hp.by_.len
 have hcap := SlIn.le hp.by_
 have c2 := hp.by_.cut (l := (cutAt e y.2 n : Int)) (h := (x.bytes.len : Int)) (m := (x.bytes.cap : Int)) (by omega) (by omega) (by omega) (by omega) (by omega)
 have d2 : (y.2.drop (cutAt e y.2 n : Int).toNat).take ((x.bytes.len : Int).toNat - (cutAt e y.2 n : Int).toNat) = y.2.drop (cutAt e y.2 n) := by
  rw [Int.toNat_natCast, Int.toNat_natCast]
  exact List.take_of_length_le (by rw [List.length_drop]; omega)
 rw [d2] at c2
 have hlt : cutAt e y.2 n < y.2.length := by
  have h1 := szs_append ((ats e y.2).take n) ((ats e y.2).drop n)
  rw [List.take_append_drop, szs_all] at h1
  have h2 := szs_ge ((ats_posd e y.2).drop n)
  rw [List.length_drop] at h2
  unfold cutAt; omega
 have hlo := hp.lo; have hhi := hp.hi
 refine ⟨c2, rfl, by show restTag x.tag _ = restTag y.1 _; rw [hp.tag], fun hc => ?_, ?_, ?_⟩
 ·have := congrArg List.length hc
  rw [List.length_drop, List.length_nil] at this
  omega
 ·show -1 ≤ restTag y.1 _
  unfold restTag; split <;> omega
 ·show restTag y.1 _ + ((y.2.drop _).length : Int) ≤ _
  rw [List.length_drop]
  unfold restTag; split <;> omega
theorem Pcs_one (l : List Pc) : ∀ v ∈ flat c93 (l.map pcT), isOne v = true := by
 intro v hv
 unfold flat at hv
 obtain ⟨x, hx, hv⟩ := List.mem_flatMap.1 hv
 obtain ⟨y, _, rfl⟩ := List.mem_map.1 hx
 exact Pc_one y v (by rw [flat_one]; exact hv)
theorem rdTree (tx : W.heap[p]? = some (txO e lim tp a)) {K : Addr → Cells.T c84 → World → Prop} (hK : K (at0 p) (tp, ()) W) : nn (some (at0 p)) (fun q => lds c84 (q.add 2) (K q)) W := by
 refine nn_some ?_
 rw [addr_add]
 refine lds_r tx (x := (tp, ())) (fun i v hv => ?_) hK
 match i, hv with
 | 0, hv => exact hv
 | i + 1, hv => cases hv
abbrev Wr (w : World) (O : Nat → Prop) (k : Nat) : Prop := O k ∧ ∀ c fr, w.heap[k]? ≠ some (.cells c 139 fr)
set_option maxHeartbeats 2000000 in
theorem treplace_call {from_ to_ : Nat} {s : Sl} {t : TypeId} {put : List Int} (h : Txt w p e lim na O M) (hft : from_ ≤ to_) (hto : to_ ≤ (aOf e M).length) (hs : SlIn w s t 1 (iv put)) (hsep : ∀ k, s.blk k → ¬ O k) (hfit : Fits e put) (hna : na + (bts e put).length < 2 ^ 40) (hput : put.length < 2 ^ 40)
  (hroom : szs ((aOf e M).take from_ ++ prs e put ++ (aOf e M).drop to_) ≤ 1048576) {K : Unit → World → Prop}
  (hK : ∀ O' M' w', Txt w' p e lim (na + (bts e put).length) O' M' → aOf e M' = (aOf e M).take from_ ++ prs e put ++ (aOf e M).drop to_ → Upd (Wr w O) w w' → (∀ k, O k → O' k) → (∀ k, O' k → O k ∨ w.heap.size ≤ k) → K () w') :
  callT Tryz.prog 64 #[.pointer (some (at0 p)), .int .i64 (from_ : Int), .int .i64 (to_ : Int), .slice s.a s.len s.cap] (.tup []) K w := by
 refine F64_calls ?_
 unfold F64
 obtain ⟨tr, a0, ab, tx, ht, hi, own, tops, pO, aO, hla⟩ := h.ex
 have few := h.few; have lims := h.lims; have hsz := h.sz
 have il := hi.len
 have hf : Fine tr.items := hi.fine (by omega)
 have fl := hf.few
 have hal : ab.length = a0.len := by have := own.len1; rwa [List.length_map] at this
 refine tfind_call h (by omega) fun i n w1 hs1 hil1 e1 => ?_
 refine tfind_call (h.ext e1) (by omega) fun j m w2 hs2 hil2 e2 => ?_
 rw [Int.toNat_natCast] at hs1 hs2
 have x2 := e1.trans e2
 have hij := spot_le hs1 hs2 hft
 have pcs : ∀ {i : Nat} {x : Pc}, tr.items[i]? = some x → ∃ y, M[i]? = some y ∧ PcIn w e x y ∧ y.2.length ≤ 1048576 := by
  intro i x hx
  obtain ⟨y, hy, hp⟩ := hi.get i hx
  refine ⟨y, hy, hp, ?_⟩
  have h2 : szs (aOf e M) = szs (aOf e (M.take i)) + (y.2.length + szs (aOf e (M.drop (i + 1)))) := by
   have hil := (List.getElem?_eq_some_iff.1 hy).1
   have hd := List.drop_eq_getElem_cons hil
   have hx' : M[i] = y := by rw [List.getElem?_eq_getElem hil] at hy; exact Option.some.inj hy
   rw [hx'] at hd
   conv => lhs; rw [← List.take_append_drop i M, hd]
   rw [aOf_app, aOf_cons, szs_append, szs_append, szs_all]
  omega
 have spn : ∀ {at_ i n : Nat} {y : Int × Bs}, at_ ≤ (aOf e M).length → Spot e M at_ i n → M[i]? = some y → n ≤ (ats e y.2).length ∧ n < 2 ^ 30 := by
  intro at_ i n y hle hs hy
  rcases hs with ⟨_, _, rfl⟩ | ⟨x, hx, h1, h2, h3⟩
  ·exact ⟨Nat.zero_le _, by decide⟩
  ·rw [hy] at hx; cases hx
   exact ⟨h2, by omega⟩
 refine join_r (fun x W => ∃ plL ML, SlOwn W w2.heap.size x.1 93 7 (flat c93 (plL.map pcT)) ∧ Its w e plL ML ∧ aOf e ML = hdA e M i n ∧ (∀ x ∈ plL, ∀ k, x.bytes.blk k → O k) ∧ (∀ x ∈ plL, ∀ k, x.bytes.blk k → a0.blk k → top x.bytes ≤ top a0) ∧ plL.length ≤ 1 ∧ Ext w2 W) ?_ ?_
 ·refine rdTree (x2.ext_get tx) (at_call (ht.ext x2) hf (by omega) fun w3 e3 => ?_)
  refine (St.start w3).newO fun b8 w4 S4 e4 => S4.aggSt 0 rfl rfl rfl rfl fun w5 S5 u5 => ?_
  cases hx : tr.items[i]? with
  | none =>
   have hM : M[i]? = none := List.getElem?_eq_none (by have := List.getElem?_eq_none_iff.1 hx; omega)
   have e0 : atI tr.items i = (Pc.zero, false) := by unfold atI; rw [hx]
   rw [e0, hdA_none hM]
   refine join_r (fun x W => x = (false, ()) ∧ w5 = W) (sif_false ⟨rfl, rfl⟩) ?_
   rintro _ _ ⟨rfl, rfl⟩
   exact sif_false ⟨[], [], SlOwn.nil _ _ _ _, trivial, rfl, (fun x hx => by cases hx), (fun x hx => by cases hx), Nat.zero_le _, e3.trans S5.upd⟩
  | some x =>
   have e0 : atI tr.items i = (x, true) := by unfold atI; rw [hx]
   rw [e0] at S5 ⊢
   obtain ⟨y, hy, hp, hyl⟩ := pcs hx
   have hn := spn (by omega) hs1 hy
   rw [hdA_some hy]
   refine join_r (fun x W => x = (decide (0 < n), ()) ∧ w5 = W) (sif_true ⟨tupb ?_, rfl⟩) ?_
   ·simp only [decide_eq_true_eq, gt_iff_lt]; omega
   rintro _ _ ⟨rfl, rfl⟩
   refine sif_r (fun hn0 => ?_) (fun hn0 => ?_)
   ·simp only [decide_eq_true_eq] at hn0
    have hlo := hp.lo; have hhi := hp.hi
    have hE : ∀ {V : World}, Ext w3 V → V.cell? (at0 p) = some (.int .i64 e.num) := fun x => cell_of (x.ext_get ((x2.trans e3).ext_get tx)) rfl
    have byB : By w3 x.bytes y.2 := hp.by_.ext (x2.trans e3)
    have S := S5
    refine join_r (fun s W => ∃ b, s.1 = at0 b ∧ W.heap[b]? = some (.cells (Cells.vals c93 (pcT (headPc e x y.2 n))).toArray 93 (0, 0)) ∧ Ext w3 W) ?_ ?_
    ·refine S.drew fun w9 S e9 _ => S.lds 0 (pcT x) rfl ?_
     simp only [nn_eqT]
     refine ld_r (S.upd.ext_get ((x2.trans e3).ext_get tx)) (x := e.num) rfl ?_
     exact ⟨S.newO fun b18 wx S ex => keep_r (hE S.upd) (S.keeps 1 rfl (⟨S.newO fun b19 wx S ex => keep_r (hE S.upd) (S.keeps 2 rfl (pcut_call (byB.ext S.upd) (by omega) (by rw [hp.tag]; omega) (by omega) fun wx ex => (fun S => S.aggSt 1 rfl rfl rfl rfl fun wx S ux => S.aggSt 0 rfl rfl rfl rfl fun wx S ux => ⟨b18, rfl, S.at_ 1 rfl, S.upd⟩) (S.ext ex))), pcut_call (byB.ext S.upd) (by omega) (by rw [hp.tag]; omega) (by omega) fun wx ex => (fun S => ⟨S.newO fun b22 wx S ex => keep_r (hE S.upd) (S.keeps 2 rfl (S.aggSt 1 rfl rfl rfl rfl fun wx S ux => S.aggSt 0 rfl rfl rfl rfl fun wx S ux => ⟨b18, rfl, S.at_ 1 rfl, S.upd⟩)), trivial⟩) (S.ext ex)⟩)), ⟨S.newO fun b23 wx S ex => keep_r (hE S.upd) (S.keeps 1 rfl (⟨S.newO fun b24 wx S ex => keep_r (hE S.upd) (S.keeps 2 rfl (pcut_call (byB.ext S.upd) (by omega) (by rw [hp.tag]; omega) (by omega) fun wx ex => (fun S => S.aggSt 0 rfl rfl rfl rfl fun wx S ux => S.aggSt 1 rfl rfl rfl rfl fun wx S ux => ⟨b24, rfl, S.at_ 0 rfl, S.upd⟩) (S.ext ex))), pcut_call (byB.ext S.upd) (by omega) (by rw [hp.tag]; omega) (by omega) fun wx ex => (fun S => ⟨S.newO fun b27 wx S ex => keep_r (hE S.upd) (S.keeps 2 rfl (S.aggSt 0 rfl rfl rfl rfl fun wx S ux => S.aggSt 1 rfl rfl rfl rfl fun wx S ux => ⟨b27, rfl, S.at_ 0 rfl, S.upd⟩)), trivial⟩) (S.ext ex)⟩)), pcut_call (byB.ext S.upd) (by omega) (by rw [hp.tag]; omega) (by omega) fun wx ex => (fun S => ⟨S.newO fun b29 wx S ex => keep_r (hE S.upd) (S.keeps 1 rfl (⟨S.newO fun b30 wx S ex => keep_r (hE S.upd) (S.keeps 2 rfl (S.aggSt 1 rfl rfl rfl rfl fun wx S ux => S.aggSt 0 rfl rfl rfl rfl fun wx S ux => ⟨b29, rfl, S.at_ 1 rfl, S.upd⟩)), trivial⟩)), ⟨S.newO fun b31 wx S ex => keep_r (hE S.upd) (S.keeps 1 rfl (⟨S.newO fun b32 wx S ex => keep_r (hE S.upd) (S.keeps 2 rfl (S.aggSt 0 rfl rfl rfl rfl fun wx S ux => S.aggSt 1 rfl rfl rfl rfl fun wx S ux => ⟨b32, rfl, S.at_ 0 rfl, S.upd⟩)), trivial⟩)), trivial⟩⟩) (S.ext ex)⟩⟩
    ·rintro ⟨_, _⟩ w9 ⟨b, rfl, hb, e9⟩
     dsimp only
     refine lds_r hb (x := pcT (headPc e x y.2 n)) (fun j v hv => by rw [Nat.zero_add, List.getElem?_toArray]; exact hv) (newO_r fun b32 w10 e10 n10 _ _ => ?_)
     have hbox : SlX w10 ⟨some (at0 b32), 1, 1⟩ 7 (flat c93 [pcT (headPc e x y.2 n)]) := (SlIn.of_box n10 (n := 1) (sz := 7) rfl).x
     have x10 := (e3.trans e9).trans e10
     refine append_rx eParts eParts.ts_ (s := ⟨none, 0, 0⟩) (x := ⟨some (at0 b32), 1, 1⟩) (SlOwn.nil w10 w2.heap.size _ _) hbox (Pc_one _) (by dsimp only; omega) (by have := x10.size; omega) fun ps' W4 o4 l4 u4 k4 => ?_
     refine ⟨[headPc e x y.2 n], [(y.1, y.2.take (cutAt e y.2 n))], o4, ⟨head_in hp hn0 hn.1, trivial⟩, ?_, ?_, ?_, Nat.le_refl _, x10.step u4 fun k hk => ?_⟩
     ·show ats e (y.2.take (cutAt e y.2 n)) ++ [] = _
      rw [List.append_nil]; unfold cutAt
      rw [(ats_cut e n y.2).1]
     ·intro z hz k hk
      rw [List.mem_singleton.1 hz] at hk
      exact pO x (List.mem_of_getElem? hx) k (cut_blk hk)
     ·intro z hz k hk hk'
      rw [List.mem_singleton.1 hz] at hk ⊢
      have hcl := cutAt_le e y.2 n
      have hlen := hp.by_.len
      exact Nat.le_trans (cut_top hp.by_ (l := 0) (h := (cutAt e y.2 n : Int)) (by omega) (by omega) (by omega)) (tops x (List.mem_of_getElem? hx) k (cut_blk hk) hk')
     ·obtain ⟨q, hq, _⟩ := hk; cases hq
   ·simp only [decide_eq_false_iff_not] at hn0
    obtain rfl : n = 0 := by omega
    exact ⟨[], [], SlOwn.nil _ _ _ _, trivial, rfl, (fun x hx => by cases hx), (fun x hx => by cases hx), Nat.zero_le _, e3.trans S5.upd⟩
 rintro ⟨psL, _⟩ w3 ⟨plL, ML, rowL, itsL, hML, oL, topL, lenL, e3⟩
 dsimp only at rowL ⊢
 have x3 := x2.trans e3
 have tk1 := hd_spot hs1
 rw [← hML] at tk1
 have tk2 := drop_spot hs2
 refine fresh_call (hs.ext x3) (fun k hk => ⟨fun hc => hsep k hk (hc ▸ h.op), fun hc => hsep k hk (aO k hc)⟩) hfit (x3.ext_get tx) (own.ext x3) (by omega) hput fun psF a plF MF w4 tx4 own4 rowF itsF hMF topF blkF blkA old4 u4 cntF => ?_
 have nt4 : ∀ t, t ≠ 86 → t ≠ 5 → NoTy w3 (fun k => k = p ∨ a0.blk k) t := by
  rintro t h1 h2 k (rfl | hk) c fr hc
  ·rw [x3.ext_get tx] at hc; cases hc; exact h1 rfl
  ·obtain ⟨c', fr', hc'⟩ := (own.ext x3).in.blk_cells hk
   rw [hc] at hc'; cases hc'; exact h2 rfl
 have rowL4 := rowL.ty u4 (nt4 _ (by decide) (by decide))
 have ht4 : tr.In w4 := (ht.ext x3).ty u4 (nt4 _ (by decide) (by decide))
 have o4 : Old w w4 a0 a := fun y b hy htp => old4 y b (hy.ext x3) htp
 have lL := SlOwn.lenR (cs := c93) rowL (by decide)
 have lF := SlOwn.lenR (cs := c93) rowF (by decide)
 rw [List.length_map] at lL lF
 have z2 := e3.size
 have z4 := u4.size
 refine append_rx eParts eParts.ts_ rowL4 rowF.in.x (Pcs_one _) (by
  show (psL.len + psF.len + (psL.len + psF.len) / 4 + 512) * 64 ≤ 2 ^ 48
  omega) (by omega) fun psA w5 rowA lA u5 kA => ?_
 rw [← flat_append, ← List.map_append] at rowA
 have nt5 : ∀ t, t ≠ 93 → NoTy w4 psL.blk t := fun t ht => NoTy.blk rowL4.in (fun h => ht h.symm)
 have tx5 : w5.heap[p]? = some (txO e lim tr.ptr a) := u5.get tx4 fun hk => nt5 86 (by decide) _ hk _ _ tx4
 have own5 := own4.ty u5 (nt5 _ (by decide))
 have itsF5 := itsF.ty u5 (nt5 _ (by decide))
 have ht5 : tr.In w5 := ht4.ty u5 (nt5 _ (by decide))
 have o5 := o4.ty u5 (nt5 _ (by decide))
 have z5 := u5.size
 refine join_r (fun x W => ∃ plR MR, SlOwn W w2.heap.size x.1 93 7 (flat c93 ((plL ++ plF ++ plR).map pcT)) ∧ Its w e plR MR ∧ aOf e MR = tlA e M j m ∧ (∀ x ∈ plR, ∀ k, x.bytes.blk k → O k) ∧ (∀ x ∈ plR, ∀ k, x.bytes.blk k → a0.blk k → top x.bytes ≤ top a0) ∧ Upd psA.blk w5 W) ?_ ?_
 ·refine rdTree tx5 (at_call ht5 hf (by omega) fun w6 e6 => ?_)
  refine (St.start w6).newO fun b41 w7 S7 e7 => S7.aggSt 0 rfl rfl rfl rfl fun w8 S8 u8 => ?_
  cases hx : tr.items[j]? with
  | none =>
   have hM : M[j]? = none := List.getElem?_eq_none (by have := List.getElem?_eq_none_iff.1 hx; omega)
   have e0 : atI tr.items j = (Pc.zero, false) := by unfold atI; rw [hx]
   rw [e0, tlA_none hM]
   refine sif_false ⟨[], [], ?_, trivial, rfl, (fun x hx => by cases hx), (fun x hx => by cases hx), Upd.of_ext (e6.trans S8.upd)⟩
   rw [List.append_nil]
   exact rowA.ext (e6.trans S8.upd)
  | some x =>
   have e0 : atI tr.items j = (x, true) := by unfold atI; rw [hx]
   rw [e0] at S8 ⊢
   obtain ⟨y, hy, hp, hyl⟩ := pcs hx
   have hn := spn hto hs2 hy
   rw [tlA_some hy]
   refine sif_true ?_
   have hlo := hp.lo; have hhi := hp.hi
   have tx6 := e6.ext_get tx5
   have hE : ∀ {V : World}, Ext w6 V → V.cell? (at0 p) = some (.int .i64 e.num) := fun x => cell_of (x.ext_get tx6) rfl
   have byB : By w6 x.bytes y.2 := ((o5 x.bytes y.2 hp.by_ (tops x (List.mem_of_getElem? hx))).1).ext e6
   have S := S8
   refine join_r (fun s W => ∃ b, s.1 = at0 b ∧ W.heap[b]? = some (.cells (Cells.vals c93 (pcT (restPc e x y.2 m))).toArray 93 (0, 0)) ∧ Ext w6 W) ?_ ?_
   ·refine S.drew fun w9 S e9 _ => S.lds 0 (pcT x) rfl ?_
    simp only [nn_eqT]
    refine ld_r (S.upd.ext_get tx6) (x := e.num) rfl ?_
    exact ⟨S.newO fun b18 wx S ex => keep_r (hE S.upd) (S.keeps 1 rfl (⟨S.newO fun b19 wx S ex => keep_r (hE S.upd) (S.keeps 2 rfl (pcut_call (byB.ext S.upd) (by omega) (by rw [hp.tag]; omega) (by omega) fun wx ex => (fun S => S.aggSt 1 rfl rfl rfl rfl fun wx S ux => S.aggSt 0 rfl rfl rfl rfl fun wx S ux => ⟨b19, rfl, S.at_ 0 rfl, S.upd⟩) (S.ext ex))), pcut_call (byB.ext S.upd) (by omega) (by rw [hp.tag]; omega) (by omega) fun wx ex => (fun S => ⟨S.newO fun b22 wx S ex => keep_r (hE S.upd) (S.keeps 2 rfl (S.aggSt 1 rfl rfl rfl rfl fun wx S ux => S.aggSt 0 rfl rfl rfl rfl fun wx S ux => ⟨b22, rfl, S.at_ 0 rfl, S.upd⟩)), trivial⟩) (S.ext ex)⟩)), ⟨S.newO fun b23 wx S ex => keep_r (hE S.upd) (S.keeps 1 rfl (⟨S.newO fun b24 wx S ex => keep_r (hE S.upd) (S.keeps 2 rfl (pcut_call (byB.ext S.upd) (by omega) (by rw [hp.tag]; omega) (by omega) fun wx ex => (fun S => S.aggSt 0 rfl rfl rfl rfl fun wx S ux => S.aggSt 1 rfl rfl rfl rfl fun wx S ux => ⟨b23, rfl, S.at_ 1 rfl, S.upd⟩) (S.ext ex))), pcut_call (byB.ext S.upd) (by omega) (by rw [hp.tag]; omega) (by omega) fun wx ex => (fun S => ⟨S.newO fun b27 wx S ex => keep_r (hE S.upd) (S.keeps 2 rfl (S.aggSt 0 rfl rfl rfl rfl fun wx S ux => S.aggSt 1 rfl rfl rfl rfl fun wx S ux => ⟨b23, rfl, S.at_ 1 rfl, S.upd⟩)), trivial⟩) (S.ext ex)⟩)), pcut_call (byB.ext S.upd) (by omega) (by rw [hp.tag]; omega) (by omega) fun wx ex => (fun S => ⟨S.newO fun b29 wx S ex => keep_r (hE S.upd) (S.keeps 1 rfl (⟨S.newO fun b30 wx S ex => keep_r (hE S.upd) (S.keeps 2 rfl (S.aggSt 1 rfl rfl rfl rfl fun wx S ux => S.aggSt 0 rfl rfl rfl rfl fun wx S ux => ⟨b30, rfl, S.at_ 0 rfl, S.upd⟩)), trivial⟩)), ⟨S.newO fun b31 wx S ex => keep_r (hE S.upd) (S.keeps 1 rfl (⟨S.newO fun b32 wx S ex => keep_r (hE S.upd) (S.keeps 2 rfl (S.aggSt 0 rfl rfl rfl rfl fun wx S ux => S.aggSt 1 rfl rfl rfl rfl fun wx S ux => ⟨b31, rfl, S.at_ 1 rfl, S.upd⟩)), trivial⟩)), trivial⟩⟩) (S.ext ex)⟩⟩
   ·rintro ⟨_, _⟩ w9 ⟨b, rfl, hb, e9⟩
    dsimp only
    simp only [addr_add]
    have hat : (restPc e x y.2 m).sm.atoms = (ats e y.2).length - m := by
     show (msr (ats e (y.2.drop (cutAt e y.2 m)))).atoms = _
     rw [msr_atoms (ats_posd e _)]
     unfold cutAt
     rw [(ats_cut e m y.2).2, List.length_drop]
    refine ld_r hb (x := (((restPc e x y.2 m).sm.atoms : Nat) : Int)) rfl (sif_r (fun h0 => ?_) (fun h0 => ?_))
    ·simp only [decide_eq_true_eq, gt_iff_lt] at h0
     refine lds_r hb (x := pcT (restPc e x y.2 m)) (fun j v hv => by rw [Nat.zero_add, List.getElem?_toArray]; exact hv) (newO_r fun b32 w10 e10 n10 _ _ => ?_)
     have hbox : SlX w10 ⟨some (at0 b32), 1, 1⟩ 7 (flat c93 [pcT (restPc e x y.2 m)]) := (SlIn.of_box n10 (n := 1) (sz := 7) rfl).x
     have x10 := (e6.trans e9).trans e10
     refine append_rx eParts eParts.ts_ (x := ⟨some (at0 b32), 1, 1⟩) (rowA.ext x10) hbox (Pc_one _) (by
      show (psA.len + 1 + (psA.len + 1) / 4 + 512) * 64 ≤ 2 ^ 48
      omega) (by have := x10.size; omega) fun ps' W4 o4' l4 u4' k4 => ?_
     have ef : flat c93 ((plL ++ plF).map pcT) ++ flat c93 [pcT (restPc e x y.2 m)] = flat c93 ((plL ++ plF ++ [restPc e x y.2 m]).map pcT) := by rw [List.map_append (l₁ := plL ++ plF), flat_append]; rfl
     rw [ef] at o4'
     refine ⟨[restPc e x y.2 m], [(restTag y.1 (cutAt e y.2 m), y.2.drop (cutAt e y.2 m))], o4', ⟨rest_in hp (by omega), trivial⟩, ?_, ?_, ?_, (Upd.of_ext x10).trans u4'⟩
     ·show ats e (y.2.drop (cutAt e y.2 m)) ++ [] = _
      rw [List.append_nil]; unfold cutAt
      rw [(ats_cut e m y.2).2]
     ·intro z hz k hk
      rw [List.mem_singleton.1 hz] at hk
      exact pO x (List.mem_of_getElem? hx) k (cut_blk hk)
     ·intro z hz k hk hk'
      rw [List.mem_singleton.1 hz] at hk ⊢
      have hcl := cutAt_le e y.2 m
      have hlen := hp.by_.len
      exact Nat.le_trans (cut_top hp.by_ (l := (cutAt e y.2 m : Int)) (h := (x.bytes.len : Int)) (by omega) (by omega) (by omega)) (tops x (List.mem_of_getElem? hx) k (cut_blk hk) hk')
    ·simp only [decide_eq_false_iff_not, gt_iff_lt] at h0
     refine ⟨[], [], ?_, trivial, ?_, (fun x hx => by cases hx), (fun x hx => by cases hx), Upd.of_ext (e6.trans e9)⟩
     ·rw [List.append_nil]; exact rowA.ext (e6.trans e9)
     ·show [] = (ats e y.2).drop m
      rw [List.drop_eq_nil_of_le (by omega)]
 rintro ⟨psR, _⟩ w6 ⟨plR, MR, rowR, itsR, hMR, oR, topR, u6⟩
 dsimp only at rowR ⊢
 rw [← hMR] at tk2
 have nt6 : ∀ t, t ≠ 93 → NoTy w5 psA.blk t := fun t ht => NoTy.blk rowA.in (fun h => ht h.symm)
 have tx6 : w6.heap[p]? = some (txO e lim tr.ptr a) := u6.get tx5 fun hk => nt6 86 (by decide) _ hk _ _ tx5
 have own6 := own5.ty u6 (nt6 _ (by decide))
 have itsF6 := itsF5.ty u6 (nt6 _ (by decide))
 have ht6 : tr.In w6 := ht5.ty u6 (nt6 _ (by decide))
 have o6 := o5.ty u6 (nt6 _ (by decide))
 refine drew_r fun w7 e7 _ => rdTree (e7.ext_get tx6) (rdTree (e7.ext_get tx6) (tsize_call (ht6.ext e7) fun w8 e8 => ?_))
 have x8 := e7.trans e8
 have tx8 := x8.ext_get tx6
 refine keep_r ?_ ?_
 ·rw [addr_add]
  refine cellsAt_of _ 0 fun q v hv => cell_of tx8 ?_
  match q, hv with
  | 0, hv => exact hv
  | q + 1, hv => cases hv
 have emin : (if ((tr.items.length : Nat) : Int) < IntKind.wrap .i64 ((j : Int) + 1) then ((tr.items.length : Nat) : Int) else IntKind.wrap .i64 ((j : Int) + 1)) = ((min (j + 1) tr.items.length : Nat) : Int) := by
  rw [wrap64 (by omega) (by omega)]
  split <;> omega
 rw [emin]
 have old_its : ∀ {l : List Pc} {N : Parts}, Its w e l N → (∀ x ∈ l, ∀ k, x.bytes.blk k → a0.blk k → top x.bytes ≤ top a0) → Its w6 e l N := fun hl htp => hl.to fun x hx b hb => (o6 x.bytes b hb (htp x hx)).1
 have its_all : Its w6 e (tr.items.take i ++ (plL ++ plF ++ plR) ++ tr.items.drop (min (j + 1) tr.items.length)) (M.take i ++ (ML ++ MF ++ MR) ++ M.drop (min (j + 1) tr.items.length)) :=
  Its.app (Its.app (old_its (hi.take i) fun x hx => tops x (List.mem_of_mem_take hx)) (Its.app (Its.app (old_its itsL topL) itsF6) (old_its itsR topR))) (old_its (hi.drop _) fun x hx => tops x (List.mem_of_mem_drop hx))
 have ed : M.drop (min (j + 1) tr.items.length) = M.drop (j + 1) := by
  by_cases hc : j + 1 ≤ tr.items.length
  ·rw [Nat.min_eq_left hc]
  ·rw [List.drop_eq_nil_of_le (by omega), List.drop_eq_nil_of_le (by omega)]
 have ea : aOf e (M.take i ++ (ML ++ MF ++ MR) ++ M.drop (min (j + 1) tr.items.length)) = (aOf e M).take from_ ++ prs e put ++ (aOf e M).drop to_ := by
  rw [ed, aOf_app, aOf_app, aOf_app, aOf_app, tk1, tk2, hMF]
  simp only [List.append_assoc]
 have hsA : szs (aOf e (M.take i ++ (ML ++ MF ++ MR) ++ M.drop (min (j + 1) tr.items.length))) < 2 ^ 59 := by rw [ea]; omega
 have hFine := its_all.fine hsA
 have hjl : min (j + 1) tr.items.length ≤ tr.items.length := Nat.min_le_right _ _
 have hi_le : i ≤ min (j + 1) tr.items.length := by
  rcases hs1 with ⟨_, rfl, _⟩ | ⟨x, hx, _⟩
  ·exact Nat.zero_le _
  ·have := (List.getElem?_eq_some_iff.1 hx).1; omega
 refine replace_call (t := tr) (n := i) (m := min (j + 1) tr.items.length) (l := plL ++ plF ++ plR) (ht6.ext x8) (rowR.in.ext x8) hf hFine.left.right hi_le hjl hFine fun t' w9 ht' hti e9 => ?_
 have x9 := x8.trans e9
 have tx9 := x9.ext_get tx6
 simp only [nn_eqT, addr_add]
 refine aggSt_r tx9 rfl rfl (by show 0 + 2 + 1 ≤ 4; decide) fun w10 u10 n10 _ => ?_
 have n10 : w10.heap[p]? = some (txO e lim t'.ptr a) := n10
 have nt10 : ∀ t, t ≠ 86 → NoTy w9 (fun k => k = p) t := fun t ht => NoTy.box tx9 (fun h => ht h.symm)
 have ht10 : t'.In w10 := ht'.ty u10 (nt10 _ (by decide))
 have o10 : Old w w10 a0 a := (o6.ty x9 (no_ext _ _)).ty u10 (nt10 _ (by decide))
 have uA : Upd (Wr w O) w w10 := by
  have hp' : Wr w O p := ⟨h.op, NoTy.box tx (by decide) p rfl⟩
  have v3 : Upd (Wr w O) w w3 := Upd.of_ext x3
  have v4 : Upd (Wr w O) w w4 := v3.trans (u4.mono fun k _ hk => hk.elim (fun h => h ▸ hp') fun h => ⟨aO k h, NoTy.blk own.in (by decide) k h⟩)
  have v5 : Upd (Wr w O) w w5 := v4.new u5 fun k hk hS => by have := rowL4.blk_ge hS; have := x2.size; omega
  have v6 : Upd (Wr w O) w w6 := v5.new u6 fun k hk hS => by have := rowA.blk_ge hS; have := x2.size; omega
  exact (v6.trans (Upd.of_ext x9)).trans (u10.mono fun k _ hk => hk ▸ hp')
 have hsz10 := uA.size
 have own10 := (own6.ext x9).ty u10 (nt10 _ (by decide))
 have hlA : (ab ++ bts e put).length = a.len := by have := own10.len1; rwa [List.length_map] at this
 rw [List.length_append] at hlA
 refine hK (fun k => O k ∨ (w.heap.size ≤ k ∧ k < w10.heap.size)) (M.take i ++ (ML ++ MF ++ MR) ++ M.drop (min (j + 1) tr.items.length)) w10 ⟨⟨t', a, ab ++ bts e put, n10, ht10, ?_, own10, ?_, ?_, ?_, by omega⟩, lims, by rw [ea]; exact hroom, .inl h.op, ?_⟩ ea uA (fun k hk => .inl hk) (fun k hk => hk.imp id fun h => h.1)
 ·rw [hti]
  exact (its_all.ext x9).ty u10 (nt10 _ (by decide))
 ·rw [hti]
  have oldT : ∀ x : Pc, (∃ b, By w x.bytes b) → (∀ k, x.bytes.blk k → a0.blk k → top x.bytes ≤ top a0) → ∀ k, x.bytes.blk k → a.blk k → top x.bytes ≤ top a := fun x ⟨b, hb⟩ htp => (o10 x.bytes b hb htp).2
  intro x hx
  rcases List.mem_append.1 hx with hx | hx
  ·rcases List.mem_append.1 hx with hx | hx
   ·exact oldT x (hi.by_ x (List.mem_of_mem_take hx)) (tops x (List.mem_of_mem_take hx))
   ·rcases List.mem_append.1 hx with hx | hx
    ·rcases List.mem_append.1 hx with hx | hx
     ·exact oldT x (itsL.by_ x hx) (topL x hx)
     ·exact topF x hx
    ·exact oldT x (itsR.by_ x hx) (topR x hx)
  ·exact oldT x (hi.by_ x (List.mem_of_mem_drop hx)) (tops x (List.mem_of_mem_drop hx))
 ·rw [hti]
  intro x hx k hk
  have new : w3.heap.size ≤ k → (∃ b, By w10 x.bytes b) → O k ∨ (w.heap.size ≤ k ∧ k < w10.heap.size) := fun h1 ⟨b, hb⟩ => .inr ⟨by have := x3.size; omega, hb.blk_lt hk⟩
  rcases List.mem_append.1 hx with hx | hx
  ·rcases List.mem_append.1 hx with hx | hx
   ·exact .inl (pO x (List.mem_of_mem_take hx) k hk)
   ·rcases List.mem_append.1 hx with hx | hx
    ·rcases List.mem_append.1 hx with hx | hx
     ·exact .inl (oL x hx k hk)
     ·rcases blkF x hx k hk with h1 | h1
      ·exact .inl (aO k h1)
      ·exact new h1 (((itsF6.ext x9).ty u10 (nt10 _ (by decide))).by_ x hx)
    ·exact .inl (oR x hx k hk)
  ·exact .inl (pO x (List.mem_of_mem_drop hx) k hk)
 ·intro k hk
  rcases blkA k hk with h1 | h1
  ·exact .inl (aO k h1)
  ·exact .inr ⟨by have := x3.size; omega, own10.in.blk_lt hk⟩
 ·intro k hk
  rcases hk with hk | hk
  ·have := h.own k hk; omega
  ·exact hk.2
end
section
variable {w w' W W' : World} {S : Nat → Prop} {p : Nat} {e : Enc} {lim na : Nat} {O : Nat → Prop} {M : Parts} {tp : Option Addr} {a0 a : Sl}
theorem Txt.lim_ (h : Txt w p e lim na O M) : w.cell? ⟨p, 1, none⟩ = some (.int .i64 (lim : Int)) := by
 obtain ⟨t, a, ab, h1, _⟩ := h.ex
 exact cell_of h1 rfl
theorem szs_prs_take (e : Enc) (l : List Int) {i : Nat} {v : Int} (hv : l[i]? = some v) : szs (prs e (l.take (i + 1))) = szs (prs e (l.take i)) + sz e v := by
 rw [List.take_add_one, hv]
 simp [prs, szs_append, szs_cons, szs_nil]
theorem szs_prs_le (e : Enc) (l : List Int) (i : Nat) : szs (prs e (l.take i)) ≤ szs (prs e l) := by
 have : prs e l = prs e (l.take i) ++ prs e (l.drop i) := by unfold prs; rw [← List.map_append, List.take_append_drop]
 rw [this, szs_append]; omega
end
end Go.Proofs.YtolhlldgnfbemaaGreat
