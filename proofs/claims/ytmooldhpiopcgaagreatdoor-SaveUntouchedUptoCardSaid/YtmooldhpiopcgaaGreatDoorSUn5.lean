/- YtmooldhpiopcgaaGreatDoorSUn5: parts of the proof, put together by program. -/
import Derived.Test.YtmooldhpiopcgaaGreatDoorSUn4
set_option linter.unusedVariables false
set_option linter.unusedSimpArgs false
set_option linter.unusedSectionVars false
set_option linter.unusedSimpArgs false
set_option linter.unusedVariables false
set_option maxRecDepth 100000
namespace Go.Proofs.YtmooldhpiopcgaaGreatDoor
namespace Dq
open Go Go.Vx Dsk Cdc Trx
section
variable {w w' : World} {S F F' : Nat → Prop} {d : Nat} {D : Dk} {N : Nat} {p : Nat} {e : Enc} {lim na : Nat} {O : Nat → Prop} {M : Parts}
variable {b1 b2 b3 f : Nat} {sm : Sl} {bs : Nm} {bt ot : Nat} {ct : Array Value} {tt : TypeId} {mk : List UInt8}
theorem setRow_same : ∀ (vs : List Value) (c : Array Value) (o : Nat), (∀ i v, vs[i]? = some v → c[o + i]? = some v) → setRow c o vs = c
  | [], _, _, _ => rfl
  | v :: r, c, o, h => by
    have h0 := h 0 v rfl
    have e : c.setIfInBounds o v = c := by
      refine Array.ext (by simp) fun i h1 h2 => ?_
      rw [Array.getElem_setIfInBounds]
      split
      · rename_i hh
        subst hh
        have := Array.getElem?_eq_getElem h2
        rw [Nat.add_zero] at h0
        rw [this] at h0
        exact (Option.some.inj h0).symm
      · rfl
    show setRow (c.setIfInBounds o v) (o + 1) r = c
    rw [e]
    exact setRow_same r c (o + 1) fun i u hu => by have := h (i + 1) u hu; rwa [show o + (i + 1) = o + 1 + i by omega] at this
theorem Bd.tried (h : Bd b1 b2 b3 f d sm bs bt ct tt mk p e lim na O M F w) (u : Upd (fun k => k = bt) w w') {ct' : Array Value} (hn : w'.heap[bt]? = some (.cells ct' tt (0, 0))) (hc : bt = f → ct'[0]? = ct[0]? ∧ ct'[2]? = ct[2]?) (h1 : bt ≠ b1) (h3 : bt ≠ b3) (hO : ¬ O bt) (hs : ¬ sm.blk bt) (h0 : bt ≠ 0) (hN : tt ≠ 186) : Bd b1 b2 b3 f d sm bs bt ct' tt mk p e lim na O M F w' := by
  obtain ⟨v0, hv0⟩ := h.n2
  obtain ⟨cs, c1, c2, c3⟩ := h.nf
  refine ⟨u.get1 h.n1 h1.symm, ⟨v0, u.get1 hv0 h.tt2.symm⟩, u.get1 h.n3 h3.symm, ?_, hn, h.x3, h.xf, h.xt, h.x1, h.x2, h.tt2, h.nz, h.txt.upd u (fun k hk hh => hO (hh ▸ hk)) (NoTy.box h.nt hN), h.xO, h.mk_.upd u (fun k hk hh => hs (hh ▸ hk)), h.xm, h.laid.upd u fun hh => h0 hh.symm⟩
  by_cases hbf : bt = f
  · have hnt := h.nt
    rw [hbf, c1] at hnt
    cases hnt
    rw [hbf] at hn
    obtain ⟨g1, g2⟩ := hc hbf
    exact ⟨ct', hn, by rw [g1]; exact c2, by rw [g2]; exact c3⟩
  · exact ⟨cs, u.get1 c1 (Ne.symm hbf), c2, c3⟩
theorem Bd.rd (h : Bd b1 b2 b3 f d sm bs bt ct tt mk p e lim na O M F w) {K : Option Addr → ByteArray → World → Prop} (hK : ∀ w1, Ext w w1 → K (some (at0 d)) bs w1) :
    drew (ld (.ptr) (at0 b1) fun x => nn x fun q => ld (.ptr) q fun y => ld (.str) (at0 b3) fun z => K y z) w := by
  obtain ⟨csx, q1, q2, q3⟩ := h.nf
  exact drew_r fun w5 e5 _ => ld_r (e5.ext_get h.n1) (x := some (at0 f)) rfl (nn_some (ld_r (e5.ext_get q1) (off := 0) (x := some (at0 d)) q2 (ld_r (e5.ext_get h.n3) (x := bs) rfl (hK w5 e5))))
theorem Bd.rd4 (h : Bd b1 b2 b3 f d sm bs bt ct tt mk p e lim na O M F w) {K : Option Addr → Addr → Option Addr → ByteArray → World → Prop} (hK : ∀ w1, Ext w w1 → K (some (at0 f)) (at0 f) (some (at0 d)) bs w1) :
    drew (ld (.ptr) (at0 b1) fun x => nn x fun q => ld (.ptr) q fun y => ld (.str) (at0 b3) fun z => K x q y z) w := by
  obtain ⟨csx, q1, q2, q3⟩ := h.nf
  exact drew_r fun w5 e5 _ => ld_r (e5.ext_get h.n1) (x := some (at0 f)) rfl (nn_some (ld_r (e5.ext_get q1) (off := 0) (x := some (at0 d)) q2 (ld_r (e5.ext_get h.n3) (x := bs) rfl (hK w5 e5))))
theorem replP_1 {n : Nm} {b : List UInt8} {t : Stm} (h : (beginP D (side n)).2 ≠ 0) : replP D n b t = clean (beginP D (side n)).1 (side n) (beginP D (side n)).2 t := by
  unfold replP
  simp only [if_pos h]
theorem replP_2 {n : Nm} {b : List UInt8} {t : Stm} (h : (beginP D (side n)).2 = 0) (h2 : (fillA (side n) b (beginP D (side n)).1).2 ≠ 0) : replP D n b t = clean (fillA (side n) b (beginP D (side n)).1).1 (side n) (fillA (side n) b (beginP D (side n)).1).2 t := by
  unfold replP fillA at *
  simp only [h, ne_eq, not_true_eq_false, if_false, if_pos h2]
theorem replP_3 {n : Nm} {b : List UInt8} {t : Stm} (h : (beginP D (side n)).2 = 0) (h2 : (fillA (side n) b (beginP D (side n)).1).2 = 0) (h3 : (callSync (fillA (side n) b (beginP D (side n)).1).1 (side n)).2.1 ≠ 0) :
    replP D n b t = clean (callSync (fillA (side n) b (beginP D (side n)).1).1 (side n)).1 (side n) (callSync (fillA (side n) b (beginP D (side n)).1).1 (side n)).2.1 t := by
  unfold replP fillA at *
  simp only [h, h2, ne_eq, not_true_eq_false, if_false, if_pos h3]
theorem replP_4 {n : Nm} {b : List UInt8} {t : Stm} (h : (beginP D (side n)).2 = 0) (h2 : (fillA (side n) b (beginP D (side n)).1).2 = 0) (h3 : (callSync (fillA (side n) b (beginP D (side n)).1).1 (side n)).2.1 = 0)
    (h4 : (callStamp (callSync (fillA (side n) b (beginP D (side n)).1).1 (side n)).1 (side n)).2.1 ≠ 0) :
    replP D n b t = clean (callStamp (callSync (fillA (side n) b (beginP D (side n)).1).1 (side n)).1 (side n)).1 (side n) (callStamp (callSync (fillA (side n) b (beginP D (side n)).1).1 (side n)).1 (side n)).2.1 t := by
  unfold replP fillA at *
  simp only [h, h2, h3, ne_eq, not_true_eq_false, if_false, if_pos h4]
theorem replP_5 {n : Nm} {b : List UInt8} {t : Stm} (h : (beginP D (side n)).2 = 0) (h2 : (fillA (side n) b (beginP D (side n)).1).2 = 0) (h3 : (callSync (fillA (side n) b (beginP D (side n)).1).1 (side n)).2.1 = 0)
    (h4 : (callStamp (callSync (fillA (side n) b (beginP D (side n)).1).1 (side n)).1 (side n)).2.1 = 0) :
    replP D n b t = clean (callRename (callStamp (callSync (fillA (side n) b (beginP D (side n)).1).1 (side n)).1 (side n)).1 (side n) n).1 (side n) (callRename (callStamp (callSync (fillA (side n) b (beginP D (side n)).1).1 (side n)).1 (side n)).1 (side n) n).2.1 (callStamp (callSync (fillA (side n) b (beginP D (side n)).1).1 (side n)).1 (side n)).2.2 := by
  unfold replP fillA at *
  simp only [h, h2, h3, h4, ne_eq, not_true_eq_false, if_false]
set_option maxHeartbeats 2000000 in
theorem replace_call (A : DS w d F D N) (hN : N + 6000 ≤ 2 ^ 30) (h : Txt w p e lim na O M) (hO : ∀ k, O k → ¬ F k) {cs : Array Value} (hf : w.heap[f]? = some (.cells cs 110 (0, 0))) (c0 : cs[0]? = some (.pointer (some (at0 d)))) (c2 : cs[2]? = some (.slice sm.a sm.len sm.cap)) (hfF : ¬ F f)
    (hm : By w sm mk) (hmF : ∀ k, sm.blk k → ¬ F k) (hml : mk.length < 1024) (hl : LaidE w) (hbt : w.heap[bt]? = some (.cells ct tt (0, 0))) (hot : ot + 3 ≤ ct.size) (hbtf : bt = f → 3 ≤ ot) (hbtF : ¬ F bt) (hbtO : ¬ O bt) (hbts : ¬ sm.blk bt) (hbt0 : bt ≠ 0) (hbtn : tt ≠ 186)
    {t : Stm} (ht : ∀ i v, (Cells.vals c57 (stT t))[i]? = some v → ct[ot + i]? = some v) {n : Nm} (hn : n.size ≤ 2 ^ 40) {K : Value → World → Prop}
    (hK : ∀ F' w' v, ErrV w' v (replP D n (mk ++ bOf M) t).2.1 → DS w' d F' (replP D n (mk ++ bOf M) t).1 (N + 5000) → Upd (fun k => F k ∨ k = bt) w w' → (∀ k, F' k → F k ∨ w.heap.size ≤ k) →
      w'.heap[bt]? = some (.cells (setRow ct ot (Cells.vals c57 (stT (replP D n (mk ++ bOf M) t).2.2))) tt (0, 0)) → K v w') :
    callT Tryz.prog 97 #[.pointer (some (at0 f)), .string n, .pointer (some (at0 p)), .pointer (some ⟨bt, ot, none⟩)] (.one (.one .any)) K w := by
  refine F97_calls ?_
  unfold F97
  have hAlt := A.lt
  have lbt := lt_of_heap hbt
  have lf := lt_of_heap hf
  obtain ⟨T, hT⟩ : ∃ T, T = mk ++ bOf M := ⟨_, rfl⟩
  rw [← hT] at hK
  have hw0 : 0 < w.heap.size := A.pos
  refine newO_r fun b1 w1 e1 n1 hb1 hz1 => newO_r fun b2 w2 e2 n2 hb2 hz2 => chk_r ?_ (newO_r fun b3 w3 e3 n3 hb3 hz3 => stC_r n3 Nat.one_pos fun w4 u4 n4 hz4 => ?_)
  · have : (ByteArray.size ({ data := #[126] } : ByteArray)) = 1 := rfl
    rw [this, show IntKind.max .i64 = 9223372036854775807 by decide]; omega
  obtain ⟨bs, hbs⟩ : ∃ bs, bs = side n := ⟨_, rfl⟩
  have n4 : w4.heap[b3]? = some (.cells #[.string bs] 9 (0, 0)) := by rw [hbs, ← side_eq n]; exact n4
  have e24 : Ext w2 w4 := e3.step u4 fun k hk => by omega
  have e04 : Ext w w4 := (e1.trans e2).trans e24
  have hz04 := e04.size
  have A4 := A.ext e04
  have B4 : Bd b1 b2 b3 f d sm bs bt ct tt mk p e lim na O M F w4 := by
    refine ⟨(e2.trans e24).ext_get n1, ⟨_, e24.ext_get n2⟩, n4, ⟨cs, e04.ext_get hf, c0, c2⟩, e04.ext_get hbt, fun hh => ?_, hfF, hbtF, fun hh => ?_, fun hh => ?_, by omega, by omega, h.ext e04, fun k hk => ⟨hO k hk, ?_⟩, hm.ext e04, hmF, hl.ext e04⟩
    · have := hAlt _ hh; omega
    · have := hAlt _ hh; omega
    · have := hAlt _ hh; omega
    · have := h.own k hk; omega
  have hct : setRow ct ot (Cells.vals c57 (stT t)) = ct := setRow_same _ _ _ ht
  have fin : ∀ (W : World) (F1 : Nat → Prop) (D1 : Dk) (N1 : Nat) (ct1 : Array Value) (v : Value) (er : Int) (t1 : Stm), Bd b1 b2 b3 f d sm bs bt ct1 tt mk p e lim na O M F1 W → DS W d F1 D1 N1 → N1 + 2 ≤ N + 5000 → ErrV W v er → W.heap[b2]? = some (.cells #[v] 26 (0, 0)) → Upd (fun k => F k ∨ (k = b2 ∨ k = bt)) w4 W → (∀ k, F1 k → F k ∨ w4.heap.size ≤ k) →
      ct1 = setRow ct ot (Cells.vals c57 (stT t1)) → replP D n T t = clean D1 bs er t1 → lastX Tryz.prog { target := .fn (.func 136) #[.pointer (some (at0 b2)), .pointer (some (at0 b1)), .pointer (some (at0 b3))], args := #[] ++ #[] } (ld .any (at0 b2) K) W := by
    intro W F1 D1 N1 ct1 v er t1 B1 A1 hN1 hv hn2 U hF1 hct1 hrep
    refine rep_end (t := t1) B1 A1 (by omega) hv hn2 fun F' w' hv' A' u' hF' => ?_
    have e1 : (clean D1 bs er t1).2.1 = er := by unfold clean; split <;> rfl
    have e2 : (clean D1 bs er t1).2.2 = t1 := by unfold clean; split <;> rfl
    have zz := U.size
    refine hK F' w' v (by rw [hrep, e1]; exact hv') (by rw [hrep]; exact A'.mono hN1) ?_ (fun k hk => ?_) ?_
    · exact Upd.new (Upd.of_ext e04) ((U.new u' fun k hk hh => (hF1 k hh).imp id fun h' => by omega)) fun k hk hh => by
        rcases hh with hh | hh | hh
        · exact .inl hh
        · omega
        · exact .inr hh
    · rcases hF' k hk with hh | hh
      · exact (hF1 k hh).imp id fun h' => by omega
      · exact .inr (by omega)
    · rw [hrep, e2, ← hct1]
      exact u'.get B1.nt B1.xt
  have UE : ∀ {W W' : World} {F1 : Nat → Prop}, Upd (fun k => F k ∨ (k = b2 ∨ k = bt)) w4 W → (∀ k, F1 k → F k ∨ w4.heap.size ≤ k) → Upd (fun k => F1 k ∨ k = b2) W W' → Upd (fun k => F k ∨ (k = b2 ∨ k = bt)) w4 W' := fun {W W' F1} U hF1 u => U.new u fun k hk hh => by
    rcases hh with hh | hh
    · exact (hF1 k hh).imp id fun h' => by omega
    · exact .inr (.inl hh)
  have FE : ∀ {W : World} {F1 F2 : Nat → Prop}, Upd (fun k => F k ∨ (k = b2 ∨ k = bt)) w4 W → (∀ k, F1 k → F k ∨ w4.heap.size ≤ k) → (∀ k, F2 k → F1 k ∨ W.heap.size ≤ k) → ∀ k, F2 k → F k ∨ w4.heap.size ≤ k := fun {W F1 F2} U h1 h2 k hk => by
    have := U.size
    rcases h2 k hk with hh | hh
    · exact h1 k hh
    · exact .inr (by omega)
  have fail : ∀ (W : World) (F1 : Nat → Prop) (D1 : Dk) (N1 : Nat) (v : Value) (er : Int), Bd b1 b2 b3 f d sm bs bt ct tt mk p e lim na O M F1 W → DS W d F1 D1 N1 → N1 + 2 ≤ N + 5000 → ErrV W v er → W.heap[b2]? = some (.cells #[v] 26 (0, 0)) → Upd (fun k => F k ∨ (k = b2 ∨ k = bt)) w4 W → (∀ k, F1 k → F k ∨ w4.heap.size ≤ k) →
      replP D n T t = clean D1 bs er t → (ld .any (at0 b2) fun x => chk (isOne x = true) <| stC (at0 b2) x <| lastX Tryz.prog { target := .fn (.func 136) #[.pointer (some (at0 b2)), .pointer (some (at0 b1)), .pointer (some (at0 b3))], args := #[] ++ #[] } (ld .any (at0 b2) K)) W := by
    intro W F1 D1 N1 v er B1 A1 hN1 hv hn2 U hF1 hrep
    refine ld_r hn2 (x := v) rfl (chk_r hv.one (stC_r hn2 Nat.one_pos fun W2 u2 n2 _ => ?_))
    exact fin W2 F1 D1 N1 ct v er t (B1.err u2 n2) (A1.frame u2 fun k hk hh => B1.x2 (hh ▸ hk)) hN1 (hv.upd u2 (NoTy.box hn2 (by decide))) n2 (U.trans (u2.mono fun k _ hk => .inr (.inl hk))) hF1 hct.symm hrep
  have U0 : Upd (fun k => F k ∨ (k = b2 ∨ k = bt)) w4 w4 := Upd.refl _ _
  refine B4.rd fun w5 e5 => makeS (A4.ext e5) (by omega) fun F6 w6 v6 hv6 A6 u6 hF6 => (B4.ext A4 e5).put (A4.ext e5) hv6 A6 u6 hF6 fun w7 B7 A7 n7 hv7 U7 => ?_
  have U5 : Upd (fun k => F k ∨ (k = b2 ∨ k = bt)) w4 w5 := Upd.of_ext e5
  have V7 := UE U5 (fun k hk => .inl hk) U7
  have G6 := FE U5 (fun k hk => .inl hk) hF6
  have hbp : beginP D bs = if (callMake D bs).2.1 = 163 then (if (callRemove (callMake D bs).1 bs).2.1 = 0 then ((callMake (callRemove (callMake D bs).1 bs).1 bs).1, (callMake (callRemove (callMake D bs).1 bs).1 bs).2.1) else ((callRemove (callMake D bs).1 bs).1, (callRemove (callMake D bs).1 bs).2.1)) else ((callMake D bs).1, (callMake D bs).2.1) := rfl
  refine join_r (fun _ W => ∃ F1 v, Bd b1 b2 b3 f d sm bs bt ct tt mk p e lim na O M F1 W ∧ DS W d F1 (beginP D bs).1 (N + 6) ∧ W.heap[b2]? = some (.cells #[v] 26 (0, 0)) ∧ ErrV W v (beginP D bs).2 ∧ Upd (fun k => F k ∨ (k = b2 ∨ k = bt)) w4 W ∧ ∀ k, F1 k → F k ∨ w4.heap.size ≤ k) ?_ ?_
  · refine ld_r n7 (x := v6) rfl (isv_call hv7 (by decide) (sif_r (fun h163 => ?_) fun h163 => ?_))
    · have h163 := of_decide_eq_true h163
      rw [if_pos h163] at hbp
      refine B7.rd fun w8 e8 => removeS (A7.ext e8) (by omega) fun F9 w9 v9 hv9 A9 u9 hF9 => (B7.ext A7 e8).put (A7.ext e8) hv9 A9 u9 hF9 fun w10 B10 A10 n10 hv10 U10 => ld_r n10 (x := v9) rfl (hv10.eqnil (sif_r (fun h0 => ?_) fun h0 => ?_))
      all_goals
        have V8 := V7.trans (S := fun k => F k ∨ (k = b2 ∨ k = bt)) (Upd.of_ext e8)
        have V10 := UE V8 G6 U10
        have G9 := FE V8 G6 hF9
      · have h0 := of_decide_eq_true h0
        rw [if_pos h0] at hbp
        refine B10.rd fun w11 e11 => makeS (A10.ext e11) (by omega) fun F12 w12 v12 hv12 A12 u12 hF12 => (B10.ext A10 e11).put (A10.ext e11) hv12 A12 u12 hF12 fun w13 B13 A13 n13 hv13 U13 => ?_
        have V11 := V10.trans (S := fun k => F k ∨ (k = b2 ∨ k = bt)) (Upd.of_ext e11)
        exact ⟨F12, v12, B13, by rw [hbp]; exact A13, n13, by rw [hbp]; exact hv13, UE V11 G9 U13, FE V11 G9 hF12⟩
      · have h0 := of_decide_eq_false h0
        rw [if_neg h0] at hbp
        exact ⟨F9, v9, B10, by rw [hbp]; exact A10.mono (by omega), n10, by rw [hbp]; exact hv10, V10, G9⟩
    · have h163 := of_decide_eq_false h163
      rw [if_neg h163] at hbp
      exact ⟨F6, v6, B7, by rw [hbp]; exact A7.mono (by omega), n7, by rw [hbp]; exact hv7, V7, G6⟩
  clear hbp V7 G6 B7 A7 n7 hv7 U7 hv6 A6 u6 hF6
  rintro _ W1 ⟨F1, v1, B1, A1, n1', hv1, V1, G1⟩
  refine ld_r n1' (x := v1) rfl (hv1.nenil (sif_r (fun he => ?_) fun he => ?_))
  · have he := of_decide_eq_true he
    exact fail W1 F1 _ _ v1 _ B1 A1 (by omega) hv1 n1' V1 G1 (by rw [hbs] at he ⊢; exact replP_1 he)
  have hb0 : (beginP D bs).2 = 0 := by have := of_decide_eq_false he; omega
  obtain ⟨csx, q1, q2, q3⟩ := B1.nf
  refine ld_r B1.n1 (x := some (at0 f)) rfl (ld_r B1.n3 (x := bs) rfl (fill_call A1 (by omega) B1.txt (fun k hk => (B1.xO k hk).1) q1 q2 q3 B1.xf B1.mk_.x hml fun F2 w2 v2 hv2 A2 u2 hF2 => ?_))
  rw [← hT] at hv2 A2
  refine B1.put A1 hv2 A2 u2 hF2 fun W2 B2 A2 n2' hv2 U2 => ?_
  have V2 := UE V1 G1 U2
  have G2 := FE V1 G1 hF2
  refine ld_r n2' (x := v2) rfl (hv2.nenil (sif_r (fun he => ?_) fun he => ?_))
  · have he := of_decide_eq_true he
    exact fail W2 F2 _ _ v2 _ B2 A2 (by omega) hv2 n2' V2 G2 (by rw [hbs] at he hb0 ⊢; exact replP_2 hb0 he)
  have hf0 : (fillA bs T (beginP D bs).1).2 = 0 := by have := of_decide_eq_false he; omega
  refine B2.rd fun w3 e3 => syncS (A2.ext e3) (by omega) fun F3 w3' v3 hv3 A3 u3 hF3 => (B2.ext A2 e3).put (A2.ext e3) hv3 A3 u3 hF3 fun W3 B3 A3 n3' hv3 U3 => ?_
  have V2' := V2.trans (S := fun k => F k ∨ (k = b2 ∨ k = bt)) (Upd.of_ext e3)
  have V3 := UE V2' G2 U3
  have G3 := FE V2' G2 hF3
  refine ld_r n3' (x := v3) rfl (hv3.nenil (sif_r (fun he => ?_) fun he => ?_))
  · have he := of_decide_eq_true he
    exact fail W3 F3 _ _ v3 _ B3 A3 (by omega) hv3 n3' V3 G3 (by rw [hbs] at he hb0 hf0 ⊢; exact replP_3 hb0 hf0 he)
  have hs0 : (callSync (fillA bs T (beginP D bs).1).1 bs).2.1 = 0 := by have := of_decide_eq_false he; omega
  obtain ⟨D3, hD3⟩ : ∃ D3, D3 = (callSync (fillA bs T (beginP D bs).1).1 bs).1 := ⟨_, rfl⟩
  rw [← hD3] at A3
  refine join_r (fun s W => ∃ bS F4 v4, s = (at0 bS, ()) ∧ W.heap[bS]? = some (.cells (Cells.vals c57 (stT (callStamp D3 bs).2.2)).toArray 57 (0, 0)) ∧ Bd b1 b2 b3 f d sm bs bt ct tt mk p e lim na O M F4 W ∧ DS W d F4 (callStamp D3 bs).1 (N + 6 + 4000 + 2 + 2) ∧ W.heap[b2]? = some (.cells #[v4] 26 (0, 0)) ∧ ErrV W v4 (callStamp D3 bs).2.1 ∧ Upd (fun k => F k ∨ (k = b2 ∨ k = bt)) w4 W ∧ ∀ k, F4 k → F k ∨ w4.heap.size ≤ k) ?_ ?_
  · refine B3.rd4 fun w5' e5' => ?_
    have V3' := V3.trans (S := fun k => F k ∨ (k = b2 ∨ k = bt)) (Upd.of_ext e5')
    have A5' := A3.ext e5'
    have B5' := B3.ext A3 e5'
    obtain ⟨csy, r1, r2, r3⟩ := B5'.nf
    have b2lt : b2 < w5'.heap.size := by obtain ⟨v0, h0⟩ := B5'.n2; exact lt_of_heap h0
    refine ⟨?_, ?_⟩
    · refine newO_r fun b51 w6 e6 n6 hb6 hz6 => keep_r (cell_of (off := 0) (e6.ext_get B5'.n3) rfl) (keep_r (cell_of (off := 0) (e6.ext_get r1) r2) (keep_r (cell_of (off := 0) (e6.ext_get B5'.n1) rfl) ?_))
      refine stampS (A5'.ext e6) (by omega) fun F7 w7 v7 hv7 A7 u7 hF7 => ?_
      have hn51 : ¬ F3 b51 := fun hh => by have := A5'.lt _ hh; omega
      refine aggSt_r (u7.get n6 hn51) rfl rfl (by decide) fun w8 u8 n8 hz8 => ?_
      have n8 : w8.heap[b51]? = some (.cells (Cells.vals c57 (stT (callStamp D3 bs).2.2)).toArray 57 (0, 0)) := n8
      have hf7 : ¬ F7 b51 := fun hh => (hF7 _ hh).elim hn51 fun h' => by omega
      have hz7 := u7.size
      exact B5'.put2 A5' (hv7.upd u8 (NoTy.box (u7.get n6 hn51) (by decide))) (A7.frame u8 fun k hk hh => hf7 (hh ▸ hk)) (((Upd.of_ext e6).trans u7).new u8 fun k hk hh => by omega) (fun k hk => (hF7 k hk).imp id fun h' => by omega) fun W9 B9 A9 n9 hv9 U9 u9 => ⟨b51, F7, v7, rfl, u9.get1 n8 (by omega), B9, A9, n9, hv9, UE V3' G3 U9, FE V3' G3 fun k hk => (hF7 k hk).imp id fun h' => by omega⟩
    · refine stampS A5' (by omega) fun F7 w7 v7 hv7 A7 u7 hF7 => ⟨?_, trivial⟩
      have hz7 := u7.size
      refine newO_r fun b51 w8 e8 n8 hb8 hz8 => keep_r (cell_of (off := 0) (e8.ext_get (u7.get B5'.n3 B5'.x3)) rfl) (keep_r (cell_of (off := 0) (e8.ext_get (u7.get r1 B5'.xf)) r2) (keep_r (cell_of (off := 0) (e8.ext_get (u7.get B5'.n1 B5'.x1)) rfl) ?_))
      have hf7 : ¬ F7 b51 := fun hh => by have := A7.lt _ hh; omega
      refine aggSt_r n8 rfl rfl (by decide) fun w9 u9 n9 hz9 => ?_
      have n9 : w9.heap[b51]? = some (.cells (Cells.vals c57 (stT (callStamp D3 bs).2.2)).toArray 57 (0, 0)) := n9
      exact B5'.put2 A5' ((hv7.ext e8).upd u9 (NoTy.box n8 (by decide))) ((A7.ext e8).frame u9 fun k hk hh => hf7 (hh ▸ hk)) ((u7.trans (Upd.of_ext e8)).new u9 fun k hk hh => by omega) (fun k hk => (hF7 k hk).imp id fun h' => by omega) fun W9 B9 A9 n9' hv9 U9 u9' => ⟨b51, F7, v7, rfl, u9'.get1 n9 (by omega), B9, A9, n9', hv9, UE V3' G3 U9, FE V3' G3 fun k hk => (hF7 k hk).imp id fun h' => by omega⟩
  · rintro _ W4 ⟨bS, F4, v4, rfl, nS, B4', A4', n4', hv4, V4, G4⟩
    refine ld_r n4' (x := v4) rfl (hv4.nenil (sif_r (fun he => ?_) fun he => ?_))
    · have he := of_decide_eq_true he
      rw [hD3] at A4' hv4 he
      exact fail W4 F4 _ _ v4 _ B4' A4' (by omega) hv4 n4' V4 G4 (by rw [hbs] at he hb0 hf0 hs0 ⊢; exact replP_4 hb0 hf0 hs0 he)
    have hst0 : (callStamp D3 bs).2.1 = 0 := by have := of_decide_eq_false he; omega
    refine lds_r (x := stT (callStamp D3 bs).2.2) nS (fun i v hv => by rw [Nat.zero_add, ← Array.getElem?_toList]; exact hv) (nn_some (aggSt_r B4'.nt rfl rfl hot fun W5 u5 n5 hz5 => ?_))
    have n5 : W5.heap[bt]? = some (.cells (setRow ct ot (Cells.vals c57 (stT (callStamp D3 bs).2.2))) tt (0, 0)) := n5
    have B5 := B4'.tried u5 n5 (fun hh => by have := hbtf hh; exact ⟨get_setRow_lt _ _ _ _ (by omega), get_setRow_lt _ _ _ _ (by omega)⟩) (by omega) (by omega) hbtO hbts hbt0 hbtn
    have A5 := A4'.frame u5 fun k hk hh => B4'.xt (hh ▸ hk)
    have V5 := V4.trans (S := fun k => F k ∨ (k = b2 ∨ k = bt)) (u5.mono fun k _ hk => .inr (.inr hk))
    have G4' : ∀ k, F4 k → F k ∨ w4.heap.size ≤ k := G4
    refine B5.rd fun w6 e6 => renameS (A5.ext e6) (by omega) fun F7 w7 v7 hv7 A7 u7 hF7 => (B5.ext A5 e6).put (A5.ext e6) hv7 A7 u7 hF7 fun W8 B8 A8 n8 hv8 U8 => ?_
    have V6 := V5.trans (S := fun k => F k ∨ (k = b2 ∨ k = bt)) (Upd.of_ext e6)
    rw [hD3] at A8 hv8 hst0
    refine fin W8 F7 _ _ _ v7 _ (callStamp D3 bs).2.2 B8 A8 (by omega) hv8 n8 (UE V6 G4 U8) (FE V6 G4 hF7) rfl ?_
    rw [hD3]
    rw [hbs] at hb0 hf0 hs0 hst0 ⊢
    exact replP_5 hb0 hf0 hs0 hst0
end
end Dq
end Go.Proofs.YtmooldhpiopcgaaGreatDoor
set_option linter.unusedSimpArgs false
set_option linter.unusedVariables false
set_option maxRecDepth 100000
namespace Go.Proofs.YtmooldhpiopcgaaGreatDoor
namespace Dq
open Go Go.Vx Dsk Cdc Trx
abbrev fcells (d : Nat) (X : Fil) (sm : Sl) : Array Value := #[.pointer (some (at0 d)), .string X.name, .slice sm.a sm.len sm.cap, .int .i64 X.known.1, .int .i64 X.known.2.1, .int .i64 X.known.2.2, .int .i64 X.tried.1, .int .i64 X.tried.2.1, .int .i64 X.tried.2.2]
structure FileAt (w : World) (f d : Nat) (X : Fil) (sm : Sl) : Prop where
  box : w.heap[f]? = some (.cells (fcells d X sm) 110 (0, 0))
  mkr : By w sm X.mark
section
variable {w w' : World} {S F F' : Nat → Prop} {d : Nat} {D : Dk} {N : Nat} {p : Nat} {e : Enc} {lim na : Nat} {O : Nat → Prop} {M : Parts} {f : Nat} {X : Fil} {sm : Sl}
theorem FileAt.upd (h : FileAt w f d X sm) (u : Upd S w w') (h1 : ¬ S f) (h2 : ∀ k, sm.blk k → ¬ S k) : FileAt w' f d X sm := ⟨u.get h.box h1, h.mkr.upd u h2⟩
theorem FileAt.ext (h : FileAt w f d X sm) (u : Ext w w') : FileAt w' f d X sm := h.upd u id fun _ _ => id
theorem FileAt.nblk (h : FileAt w f d X sm) : ¬ sm.blk f := fun hh => by
  obtain ⟨c, fr, hc⟩ := h.mkr.blk_cells hh
  rw [h.box] at hc; cases hc
theorem FileAt.set (h : FileAt w f d X sm) (u : Upd (fun k => k = f) w w') {Y : Fil} (hb : w'.heap[f]? = some (.cells (fcells d Y sm) 110 (0, 0))) (hm : Y.mark = X.mark) : FileAt w' f d Y sm :=
  ⟨hb, by rw [hm]; exact h.mkr.upd u fun k hk hh => h.nblk (hh ▸ hk)⟩
theorem known_at (i : Nat) (v : Value) (h : (Cells.vals c57 (stT X.known))[i]? = some v) : (fcells d X sm)[3 + i]? = some v := by
  match i, h with
  | 0, h => exact h
  | 1, h => exact h
  | 2, h => exact h
  | i + 3, h => cases h
theorem tried_at (i : Nat) (v : Value) (h : (Cells.vals c57 (stT X.tried))[i]? = some v) : (fcells d X sm)[6 + i]? = some v := by
  match i, h with
  | 0, h => exact h
  | 1, h => exact h
  | 2, h => exact h
  | i + 3, h => cases h
theorem stm_at {s : Stm} (i : Nat) (v : Value) (h : (Cells.vals c57 (stT s))[i]? = some v) : (Cells.vals c57 (stT s)).toArray[0 + i]? = some v := by rw [Nat.zero_add, ← Array.getElem?_toList]; exact h
theorem set_tried (s : Stm) : setRow (fcells d X sm) 6 (Cells.vals c57 (stT s)) = fcells d { X with tried := s } sm := rfl
structure FS (w : World) (f d : Nat) (X : Fil) (sm : Sl) (F : Nat → Prop) : Prop where
  at_ : FileAt w f d X sm
  nf : ¬ F f
  nm : ∀ k, sm.blk k → ¬ F k
  laid : LaidE w
  small : X.mark.length < 1024
  name : X.name.size ≤ 2 ^ 40
  nz : f ≠ 0
theorem FS.step (h : FS w f d X sm F) (A : DS w d F D N) (u : Upd F w w') (hF : ∀ k, F' k → F k ∨ w.heap.size ≤ k) : FS w' f d X sm F' :=
  ⟨h.at_.upd u h.nf h.nm, fun hh => (hF _ hh).elim h.nf fun hl => by have := lt_of_heap h.at_.box; omega, fun k hk hh => (hF _ hh).elim (h.nm k hk) fun hl => by have := h.at_.mkr.blk_lt hk; omega, h.laid.upd u A.no0, h.small, h.name, h.nz⟩
theorem FS.ext (h : FS w f d X sm F) (u : Ext w w') : FS w' f d X sm F := ⟨h.at_.ext u, h.nf, h.nm, h.laid.ext u, h.small, h.name, h.nz⟩
theorem FS.set (h : FS w f d X sm F) (u : Upd (fun k => k = f) w w') {Y : Fil} (hb : w'.heap[f]? = some (.cells (fcells d Y sm) 110 (0, 0))) (hm : Y.mark = X.mark) (hn : Y.name = X.name) : FS w' f d Y sm F :=
  ⟨h.at_.set u hb hm, h.nf, h.nm, h.laid.upd u fun hh => h.nz hh.symm, by rw [hm]; exact h.small, by rw [hn]; exact h.name, h.nz⟩
theorem fwrite_call (A : DS w d F D N) (hN : N + 6000 ≤ 2 ^ 30) (h : Txt w p e lim na O M) (hO : ∀ k, O k → ¬ F k ∧ k ≠ f) (hX : FS w f d X sm F) {K : Value → World → Prop}
    (hK : ∀ F' w' v, let r := writeP D X.name (X.mark ++ bOf M) X.tried X.known
      ErrV w' v r.2.1 → DS w' d F' r.1 (N + 5002) → FS w' f d { X with tried := r.2.2.1, known := r.2.2.2 } sm F' → Upd (fun k => F k ∨ k = f) w w' → (∀ k, F' k → F k ∨ w.heap.size ≤ k) → K v w') :
    callT Tryz.prog 58 #[.pointer (some (at0 f)), .string X.name, .pointer (some (at0 p)), .pointer (some ⟨f, 6, none⟩), .pointer (some ⟨f, 3, none⟩)] (.one (.one .any)) K w := by
  refine F58_calls ?_
  unfold F58
  refine replace_call (t := X.tried) A hN h (fun k hk => (hO k hk).1) hX.at_.box rfl rfl hX.nf hX.at_.mkr hX.nm hX.small hX.laid hX.at_.box (by show 6 + 3 ≤ 9; decide) (fun _ => by decide) hX.nf (fun hh => (hO f hh).2 rfl) hX.at_.nblk hX.nz (by decide) (fun i v hv => tried_at i v hv) hX.name fun F1 w1 v1 hv1 A1 u1 hF1 n1 => ?_
  obtain ⟨r, hr⟩ : ∃ r, r = replP D X.name (X.mark ++ bOf M) X.tried := ⟨_, rfl⟩
  rw [← hr] at hv1 A1 n1
  rw [set_tried] at n1
  have hw : writeP D X.name (X.mark ++ bOf M) X.tried X.known = if r.2.1 ≠ 0 then (r.1, r.2.1, r.2.2, X.known) else ((callSyncDir r.1).1, (callSyncDir r.1).2.1, r.2.2, r.2.2) := by rw [hr]; rfl
  have lf := lt_of_heap hX.at_.box
  have X1 : FS w1 f d { X with tried := r.2.2 } sm F1 := by
    refine ⟨⟨n1, hX.at_.mkr.upd u1 fun k hk hh => hh.elim (hX.nm k hk) fun h' => hX.at_.nblk (h' ▸ hk)⟩, fun hh => (hF1 _ hh).elim hX.nf fun hl => by omega, fun k hk hh => (hF1 _ hh).elim (hX.nm k hk) fun hl => by have := hX.at_.mkr.blk_lt hk; omega, hX.laid.upd u1 fun hh => hh.elim A.no0 fun h' => hX.nz h'.symm, hX.small, hX.name, hX.nz⟩
  refine hv1.nenil (sif_r (fun he => ?_) fun he => ?_)
  · have he := of_decide_eq_true he
    have hk := hK F1 w1 v1
    rw [hw, if_pos he] at hk
    exact hk hv1 (A1.mono (by omega)) X1 u1 hF1
  · have he := of_decide_eq_false he
    rw [if_neg he] at hw
    have h0 : r.2.1 = 0 := by omega
    refine nn_some (lds_r (x := stT r.2.2) X1.at_.box (fun i v hv => tried_at (X := { X with tried := r.2.2 }) i v hv) (nn_some (aggSt_r X1.at_.box rfl rfl (by show 3 + 3 ≤ 9; decide) fun w2 u2 n2 hz2 => ?_)))
    have n2 : w2.heap[f]? = some (.cells (fcells d { X with tried := r.2.2, known := r.2.2 } sm) 110 (0, 0)) := n2
    have X2 : FS w2 f d { X with tried := r.2.2, known := r.2.2 } sm F1 := X1.set u2 n2 rfl rfl
    have A2 := A1.frame u2 fun k hk hh => X1.nf (hh ▸ hk)
    refine nn_some (ld_r n2 (off := 0) (x := some (at0 d)) rfl (syncdirS A2 (by omega) fun F3 w3 v3 hv3 A3 u3 hF3 => ?_))
    have hk := hK F3 w3 v3
    rw [hw] at hk
    have z2 := u2.size
    have z1 := u1.size
    refine hk hv3 A3 (X2.step A2 u3 hF3) ?_ fun k hk => ?_
    · exact (u1.trans (u2.mono fun k _ hk => .inr hk)).new u3 fun k hk hh => by rcases hF1 k hh with h' | h'; exact .inl h'; omega
    · rcases hF3 k hk with hh | hh
      · exact hF1 k hh
      · exact .inr (by omega)
end
end Dq
end Go.Proofs.YtmooldhpiopcgaaGreatDoor
set_option linter.unusedSimpArgs false
set_option linter.unusedVariables false
set_option maxRecDepth 100000
namespace Go.Proofs.YtmooldhpiopcgaaGreatDoor
namespace Dq
open Go Go.Vx Dsk Cdc Trx
section
variable {w w' : World} {S F F' : Nat → Prop} {d : Nat} {D : Dk} {N : Nat} {p : Nat} {e : Enc} {lim na : Nat} {O : Nat → Prop} {M : Parts} {f : Nat} {X : Fil} {sm : Sl}
set_option maxHeartbeats 1000000 in
theorem save_call (A : DS w d F D N) (hN : N + 6010 ≤ 2 ^ 30) (h : Txt w p e lim na O M) (hO : ∀ k, O k → ¬ F k ∧ k ≠ f) (hX : FS w f d X sm F) {force : Bool} {K : Int → World → Prop}
    (hK : ∀ F' w', let r := saveP D X (bOf M) force
      DS w' d F' r.1 (N + 5004) → FS w' f d r.2.2 sm F' → Txt w' p e lim na O M → (∀ k, O k → ¬ F' k ∧ k ≠ f) → Upd (fun k => F k ∨ k = f) w w' → (∀ k, F' k → F k ∨ w.heap.size ≤ k) → K r.2.1 w') :
    callT Tryz.prog 27 #[.pointer (some (at0 f)), .pointer (some (at0 p)), .bool force] (.one (.one (.int .i64))) K w := by
  refine F27_calls ?_
  unfold F27
  obtain ⟨s, hs⟩ : ∃ s, s = callStamp D X.name := ⟨_, rfl⟩
  have hAlt := A.lt
  have lf := lt_of_heap hX.at_.box
  have hsv : saveP D X (bOf M) force = if s.2.1 ≠ 0 ∧ s.2.1 ≠ 162 then (s.1, s.2.1, X) else
      if force = false ∧ s.2.2 ≠ (if s.2.1 = 0 ∧ s.2.2 = X.tried then s.2.2 else X.known) then (s.1, 170, { X with known := (if s.2.1 = 0 ∧ s.2.2 = X.tried then s.2.2 else X.known) }) else
      ((writeP s.1 X.name (X.mark ++ bOf M) X.tried (if s.2.1 = 0 ∧ s.2.2 = X.tried then s.2.2 else X.known)).1, (writeP s.1 X.name (X.mark ++ bOf M) X.tried (if s.2.1 = 0 ∧ s.2.2 = X.tried then s.2.2 else X.known)).2.1, { X with tried := (writeP s.1 X.name (X.mark ++ bOf M) X.tried (if s.2.1 = 0 ∧ s.2.2 = X.tried then s.2.2 else X.known)).2.2.1, known := (writeP s.1 X.name (X.mark ++ bOf M) X.tried (if s.2.1 = 0 ∧ s.2.2 = X.tried then s.2.2 else X.known)).2.2.2 }) := by
    rw [hs]; rfl
  obtain ⟨kn, hkn⟩ : ∃ kn, kn = (if s.2.1 = 0 ∧ s.2.2 = X.tried then s.2.2 else X.known) := ⟨_, rfl⟩
  rw [← hkn] at hsv
  have tx : ∀ {W : World} {F1 : Nat → Prop}, Upd (fun k => F k ∨ k = f) w W → (∀ k, F1 k → F k ∨ w.heap.size ≤ k) → Txt W p e lim na O M ∧ ∀ k, O k → ¬ F1 k ∧ k ≠ f := fun {W F1} u hF1 =>
    ⟨h.upd u (fun k hk hh => hh.elim (hO k hk).1 (hO k hk).2) (fun k hk c fr hc => by
      rcases hk with hk | hk
      · exact A.no (fun _ => rfl) k hk c fr hc
      · rw [hk, hX.at_.box] at hc; cases hc), fun k hk => ⟨fun hh => (hF1 k hh).elim (hO k hk).1 fun hl => by have := h.own k hk; omega, (hO k hk).2⟩⟩
  refine join_r (fun x W => ∃ bS F1 v, x = (at0 bS, v, ()) ∧ W.heap[bS]? = some (.cells (Cells.vals c57 (stT s.2.2)).toArray 57 (0, 0)) ∧ DS W d F1 s.1 (N + 2) ∧ ErrV W v s.2.1 ∧ Upd F w W ∧ (∀ k, F1 k → F k ∨ w.heap.size ≤ k) ∧ w.heap.size ≤ bS) ?_ ?_
  · refine drew_r fun w1 e1 _ => nn_some (ld_r (e1.ext_get hX.at_.box) (off := 0) (x := some (at0 d)) rfl (nn_some ?_))
    rw [addr_add]
    refine ld_r (e1.ext_get hX.at_.box) (off := 0 + 1) (x := X.name) rfl ⟨?_, ?_⟩
    · refine newO_r fun b w2 e2 n2 hb2 hz2 => keep_r (cell_of (off := 0 + 1) (e2.ext_get (e1.ext_get hX.at_.box)) rfl) (keep_r (cell_of (off := 0) (e2.ext_get (e1.ext_get hX.at_.box)) rfl) ?_)
      have A2 := (A.ext e1).ext e2
      have z1 := e1.size
      refine stampS A2 (by omega) fun F3 w3 v3 hv3 A3 u3 hF3 => ?_
      rw [← hs] at hv3 A3 ⊢
      have hnb : ¬ F b := fun hh => by have := hAlt _ hh; omega
      have hnb3 : ¬ F3 b := fun hh => (hF3 _ hh).elim hnb fun h' => by omega
      refine aggSt_r (u3.get n2 hnb) rfl rfl (by decide) fun w4 u4 n4 _ => ⟨b, F3, v3, rfl, n4, A3.frame u4 fun k hk hh => hnb3 (hh ▸ hk), hv3.upd u4 (NoTy.box (u3.get n2 hnb) (by decide)), (((Upd.of_ext (e1.trans e2)).trans u3).new u4 fun k hk hh => by omega), fun k hk => (hF3 k hk).imp id fun h' => by omega, by omega⟩
    · refine stampS (A.ext e1) (by omega) fun F3 w3 v3 hv3 A3 u3 hF3 => ⟨?_, trivial⟩
      rw [← hs] at hv3 A3 ⊢
      have z1 := e1.size
      have z3 := u3.size
      refine newO_r fun b w4 e4 n4 hb4 hz4 => keep_r (cell_of (off := 0 + 1) (e4.ext_get (u3.get (e1.ext_get hX.at_.box) hX.nf)) rfl) (keep_r (cell_of (off := 0) (e4.ext_get (u3.get (e1.ext_get hX.at_.box) hX.nf)) rfl) ?_)
      have hnb3 : ¬ F3 b := fun hh => by have := A3.lt _ hh; omega
      refine aggSt_r n4 rfl rfl (by decide) fun w5 u5 n5 _ => ⟨b, F3, v3, rfl, n5, (A3.ext e4).frame u5 fun k hk hh => hnb3 (hh ▸ hk), (hv3.ext e4).upd u5 (NoTy.box n4 (by decide)), ((((Upd.of_ext e1).trans u3).trans (Upd.of_ext e4)).new u5 fun k hk hh => by omega), fun k hk => (hF3 k hk).imp id fun h' => by omega, by omega⟩
  rintro _ W1 ⟨bS, F1, v, rfl, nS, A1, hv, U1, G1, hbS⟩
  have X1 : FS W1 f d X sm F1 := hX.step A U1 G1
  have U1' : Upd (fun k => F k ∨ k = f) w W1 := U1.mono fun k _ hk => .inl hk
  have bSf : bS ≠ f := by omega
  refine join_at (decide (s.2.1 ≠ 0 ∧ s.2.1 ≠ 162), ()) (hv.nenil (sif_r (fun he => isv_call hv (by decide) ⟨tupb ?_, rfl⟩) fun he => ⟨tupb ?_, rfl⟩)) (sif_r (fun hb => ?_) fun hb => ?_)
  · have he := of_decide_eq_true he
    simp [he]
  · have he := of_decide_eq_false he
    simp only [decide_eq_true_eq]
    exact ⟨fun hh => (by cases hh), fun hh => absurd hh.1 he⟩
  · have hb := of_decide_eq_true hb
    refine number_call hv X1.laid fun w2 e2 => ?_
    have hk := hK F1 w2
    rw [hsv, if_pos hb] at hk
    obtain ⟨t1, t2⟩ := tx (U1'.trans (Upd.of_ext e2)) G1
    exact hk ((A1.ext e2).mono (by omega)) (X1.ext e2) t1 t2 (U1'.trans (Upd.of_ext e2)) G1
  have hb := of_decide_eq_false hb
  rw [if_neg hb] at hsv
  refine join_r (fun _ W => W.heap[bS]? = some (.cells (Cells.vals c57 (stT s.2.2)).toArray 57 (0, 0)) ∧ DS W d F1 s.1 (N + 2) ∧ FS W f d { X with known := kn } sm F1 ∧ Upd (fun k => F k ∨ k = f) w W) ?_ ?_
  · refine join_r (fun x W => x = (decide (s.2.1 = 0 ∧ s.2.2 = X.tried), ()) ∧ Ext W1 W) ?_ ?_
    · refine drew_r fun w2 e2 _ => (hv.ext e2).eqnil (sif_r (fun he => ?_) fun he => ?_)
      · have he := of_decide_eq_true he
        refine lds_r (x := stT s.2.2) (e2.ext_get nS) (fun i v hv => stm_at i v hv) (nn_some ?_)
        rw [addr_add]
        refine lds_r (x := stT X.tried) (e2.ext_get X1.at_.box) (fun i v hv => by rw [Nat.zero_add]; exact tried_at i v hv) (stm_eq ⟨tupb ?_, e2⟩)
        simp [he]
      · have he := of_decide_eq_false he
        refine ⟨tupb ?_, e2⟩
        simp [he]
    · rintro _ W2 ⟨rfl, e2⟩
      have U2 := U1'.trans (Upd.of_ext e2)
      refine sif_r (fun hc => ?_) fun hc => ?_
      · have hc := of_decide_eq_true hc
        rw [if_pos hc] at hkn
        refine lds_r (x := stT s.2.2) (e2.ext_get nS) (fun i v hv => stm_at i v hv) (nn_some ?_)
        rw [addr_add]
        refine aggSt_r (e2.ext_get X1.at_.box) rfl rfl (by show 0 + 3 + 3 ≤ 9; decide) fun w3 u3 n3 _ => ?_
        have n3 : w3.heap[f]? = some (.cells (fcells d { X with known := kn } sm) 110 (0, 0)) := by rw [hkn]; exact n3
        exact ⟨u3.get1 (e2.ext_get nS) bSf, (A1.ext e2).frame u3 fun k hk hh => X1.nf (hh ▸ hk), (X1.ext e2).set u3 n3 rfl rfl, U2.trans (u3.mono fun k _ hk => .inr hk)⟩
      · have hc := of_decide_eq_false hc
        rw [if_neg hc] at hkn
        exact ⟨e2.ext_get nS, A1.ext e2, by rw [hkn]; exact X1.ext e2, U2⟩
  rintro _ W3 ⟨nS3, A3, X3, U3⟩
  refine join_r (fun x W => x = (decide (force = false ∧ s.2.2 ≠ kn), ()) ∧ Ext W3 W) ?_ ?_
  · refine drew_r fun w4 e4 _ => sif_r (fun hf => ?_) fun hf => ?_
    · have hf : force = false := by simpa using hf
      refine lds_r (x := stT s.2.2) (e4.ext_get nS3) (fun i v hv => stm_at i v hv) (nn_some ?_)
      rw [addr_add]
      refine lds_r (x := stT kn) (e4.ext_get X3.at_.box) (fun i v hv => by rw [Nat.zero_add]; exact known_at (X := { X with known := kn }) i v hv) (stm_ne ⟨tupb ?_, e4⟩)
      simp [hf]
    · have hf : force = true := by simpa using hf
      refine ⟨tupb ?_, e4⟩
      simp [hf]
  rintro _ W4 ⟨rfl, e4⟩
  have U4 := U3.trans (Upd.of_ext e4)
  refine sif_r (fun hc => ?_) fun hc => ?_
  · have hc := of_decide_eq_true hc
    have hk := hK F1 W4
    rw [hsv, if_pos hc] at hk
    obtain ⟨t1, t2⟩ := tx U4 G1
    exact hk ((A3.ext e4).mono (by omega)) (X3.ext e4) t1 t2 U4 G1
  · have hc := of_decide_eq_false hc
    rw [if_neg hc] at hsv
    refine drew_r fun w5 e5 _ => nn_some ?_
    have U5 := U4.trans (Upd.of_ext e5)
    have X5 := (X3.ext e4).ext e5
    have A5 := (A3.ext e4).ext e5
    obtain ⟨t1, t2⟩ := tx U5 G1
    rw [addr_add]
    refine ld_r X5.at_.box (off := 0 + 1) (x := X.name) rfl (nn_some (nn_some ?_))
    rw [addr_add, addr_add]
    refine fwrite_call (X := { X with known := kn }) A5 (by omega) t1 t2 X5 fun F6 w6 v6 hv6 A6 X6 u6 hF6 => ?_
    have z5 := U5.size
    refine number_call hv6 X6.laid fun w7 e7 => ?_
    have hk := hK F6 w7
    rw [hsv] at hk
    have G6 : ∀ k, F6 k → F k ∨ w.heap.size ≤ k := fun k hk => (hF6 k hk).elim (G1 k) fun hh => .inr (by omega)
    have U7 : Upd (fun k => F k ∨ k = f) w w7 := (U5.new u6 fun k hk hh => by
      rcases hh with hh | hh
      · rcases G1 k hh with h' | h'
        · exact .inl h'
        · omega
      · exact .inr hh).trans (Upd.of_ext e7)
    obtain ⟨t3, t4⟩ := tx U7 G6
    exact hk ((A6.ext e7).mono (by omega)) (X6.ext e7) t3 t4 U7 G6
end
end Dq
end Go.Proofs.YtmooldhpiopcgaaGreatDoor
set_option linter.unusedSimpArgs false
set_option linter.unusedVariables false
set_option maxRecDepth 100000
namespace Go.Proofs.YtmooldhpiopcgaaGreatDoor
namespace Dq
open Go Go.Vx Dsk Cdc Trx
def detectP (b : List UInt8) : Int × Int :=
  if [239, 187, 191].isPrefixOf b then (1, 3) else if [255, 254].isPrefixOf b then (2, 2) else if [254, 255].isPrefixOf b then (3, 2) else (0, 0)
def markP (enc : Int) : List UInt8 := if enc = 1 then [239, 187, 191] else if enc = 2 then [255, 254] else if enc = 3 then [254, 255] else []
def encK (g : List UInt8 → Int) (enc : Int) (b : List UInt8) : Int × Int :=
  if enc = 0 ∧ (detectP b).1 ≠ 0 then detectP b else if enc = 0 then (g b, 0) else if (markP enc).isPrefixOf b then (enc, (markP enc).length) else (enc, 0)
structure Lod where
  enc : Int
  mark : Int
  data : List UInt8
  new : Bool
abbrev noLod : Lod := ⟨0, 0, [], false⟩
noncomputable def openP (g : List UInt8 → Int) (D : Dk) (n : Nm) (enc limit : Int) : Dk × Int × Option Fil × Lod :=
  if userName n = false then (D, 164, none, noLod) else
  if enc < 0 ∨ enc > 4 then (D, 10, none, noLod) else
  if limit < 0 ∨ limit > 65536 then (D, 1, none, noLod) else
  let s := callStamp D n
  if s.2.1 = 162 then (s.1, 0, some ⟨n, [], (0, 0, 0), (0, 0, 0)⟩, ⟨if 1 > enc then 1 else enc, 0, [], true⟩) else
  if s.2.1 ≠ 0 then (s.1, s.2.1, none, noLod) else
  let r := callRead s.1 n
  if r.2.1 ≠ 0 then (r.1, r.2.1, none, noLod) else
  let e := encK g enc r.2.2
  if (r.2.2.length : Int) - e.2 > limit then (r.1, 50, none, noLod) else
  (r.1, 0, some ⟨n, r.2.2.take e.2.toNat, s.2.2, (0, 0, 0)⟩, ⟨e.1, e.2, r.2.2.drop e.2.toNat, false⟩)
section
variable {w w' : World} {S F F' : Nat → Prop} {d : Nat} {D : Dk} {N : Nat}
theorem byt {s : Sl} {l : List UInt8} {n : Int} {K : Addr → Int → World → Prop} (h : Bytes w s l) (h0 : 0 ≤ n) {x : UInt8} (hx : l[n.toNat]? = some x) (hK : ∀ p, K p (x.toNat : Int) w) : ix s.a s.len n (fun p => ld (.int .u8) (p.add (scaled (Int.toNat n) 1)) (K p)) w :=
  ix_ldX (c := .int .u8) (xs := l.map fun b => (b.toNat : Int)) (by rw [List.map_map]; exact h) h0 (by rw [List.getElem?_map, hx]; rfl) hK
theorem bys_len {s : Sl} {l : List UInt8} (h : Bytes w s l) : l.length = s.len := by have := h.len1; rwa [List.length_map] at this
theorem u8_eq (x : UInt8) (n : Nat) (hn : n < 256) : (((x.toNat : Nat) : Int) == (n : Int)) = (x == UInt8.ofNat n) := by
  rw [Bool.eq_iff_iff, beq_iff_eq, beq_iff_eq]
  constructor
  · intro h
    have h : x.toNat = n := by omega
    rw [← h]; simp
  · rintro rfl
    simp [Nat.mod_eq_of_lt hn]
theorem pre3 (x y z : UInt8) (r : List UInt8) : [239, 187, 191].isPrefixOf (x :: y :: z :: r) = ((x == 239) && ((y == 187) && (z == 191))) := by
  show ((239 == x) && ((187 == y) && ((191 == z) && true))) = _
  rw [BEq.comm (a := (239 : UInt8)), BEq.comm (a := (187 : UInt8)), BEq.comm (a := (191 : UInt8)), Bool.and_true]
theorem pre2 (a b x y : UInt8) (r : List UInt8) : [a, b].isPrefixOf (x :: y :: r) = ((x == a) && (y == b)) := by
  show ((a == x) && ((b == y) && true)) = _
  rw [BEq.comm (a := a), BEq.comm (a := b), Bool.and_true]
theorem detect_call {s : Sl} {l : List UInt8} (h : Bytes w s l) {K : (Int × Int × Unit) → World → Prop} (hK : K ((detectP l).1, (detectP l).2, ()) w) : callT Tryz.prog 24 #[.slice s.a s.len s.cap] (.tup [(.one (.int .i64)), (.one (.int .i64))]) K w := by
  refine F24_calls (a0 := s) ?_
  unfold F24
  have hl := bys_len h
  have e239 : ∀ x : UInt8, (((x.toNat : Nat) : Int) == 239) = (x == 239) := fun x => u8_eq x 239 (by decide)
  have e187 : ∀ x : UInt8, (((x.toNat : Nat) : Int) == 187) = (x == 187) := fun x => u8_eq x 187 (by decide)
  have e191 : ∀ x : UInt8, (((x.toNat : Nat) : Int) == 191) = (x == 191) := fun x => u8_eq x 191 (by decide)
  have e255 : ∀ x : UInt8, (((x.toNat : Nat) : Int) == 255) = (x == 255) := fun x => u8_eq x 255 (by decide)
  have e254 : ∀ x : UInt8, (((x.toNat : Nat) : Int) == 254) = (x == 254) := fun x => u8_eq x 254 (by decide)
  refine join_at ([239, 187, 191].isPrefixOf l, ()) (sif_r (fun h3 => ?_) fun h3 => ?_) ?_
  · have h3 := of_decide_eq_true h3
    obtain ⟨x, y, z, r, rfl⟩ : ∃ x y z r, l = x :: y :: z :: r := by
      match l, hl with
      | [], hl => simp at hl; omega
      | [_], hl => simp at hl; omega
      | [_, _], hl => simp at hl; omega
      | x :: y :: z :: r, _ => exact ⟨x, y, z, r, rfl⟩
    refine byt h (by decide) (x := x) rfl fun _ => sif_r (fun h1 => byt h (by decide) (x := y) rfl fun _ => sif_r (fun h2 => byt h (by decide) (x := z) rfl fun _ => ⟨?_, rfl⟩) fun h2 => ⟨?_, rfl⟩) fun h1 => ⟨?_, rfl⟩
    all_goals (clear h hK hl h3; (first | rw [pre3] | rw [pre2]); simp_all)
  · have h3 := of_decide_eq_false h3
    refine ⟨?_, rfl⟩
    have : [239, 187, 191].isPrefixOf l = false := by
      rw [Bool.eq_false_iff]; intro hh
      have := (List.isPrefixOf_iff_prefix.1 hh).length_le
      simp at this; omega
    rw [this]
  refine sif_r (fun hb => ?_) fun hb => ?_
  · have : detectP l = (1, 3) := by unfold detectP; rw [if_pos hb]
    rw [this] at hK; exact hK
  have hb : [239, 187, 191].isPrefixOf l = false := hb
  have hb : ¬ ([239, 187, 191].isPrefixOf l = true) := by rw [hb]; simp
  refine join_at ([255, 254].isPrefixOf l, ()) (sif_r (fun h3 => ?_) fun h3 => ?_) ?_
  · have h3 := of_decide_eq_true h3
    obtain ⟨x, y, r, rfl⟩ : ∃ x y r, l = x :: y :: r := by
      match l, hl with
      | [], hl => simp at hl; omega
      | [_], hl => simp at hl; omega
      | x :: y :: r, _ => exact ⟨x, y, r, rfl⟩
    refine byt h (by decide) (x := x) rfl fun _ => sif_r (fun h1 => byt h (by decide) (x := y) rfl fun _ => ⟨?_, rfl⟩) fun h1 => ⟨?_, rfl⟩
    all_goals (clear h hK hl h3; (first | rw [pre3] | rw [pre2]); simp_all)
  · have h3 := of_decide_eq_false h3
    refine ⟨?_, rfl⟩
    have : [255, 254].isPrefixOf l = false := by
      rw [Bool.eq_false_iff]; intro hh
      have := (List.isPrefixOf_iff_prefix.1 hh).length_le
      simp at this; omega
    rw [this]
  refine sif_r (fun hb2 => ?_) fun hb2 => ?_
  · have : detectP l = (2, 2) := by unfold detectP; rw [if_neg hb, if_pos hb2]
    rw [this] at hK; exact hK
  have hb2 : [255, 254].isPrefixOf l = false := hb2
  have hb2 : ¬ ([255, 254].isPrefixOf l = true) := by rw [hb2]; simp
  refine join_at ([254, 255].isPrefixOf l, ()) (sif_r (fun h3 => ?_) fun h3 => ?_) ?_
  · have h3 := of_decide_eq_true h3
    obtain ⟨x, y, r, rfl⟩ : ∃ x y r, l = x :: y :: r := by
      match l, hl with
      | [], hl => simp at hl; omega
      | [_], hl => simp at hl; omega
      | x :: y :: r, _ => exact ⟨x, y, r, rfl⟩
    refine byt h (by decide) (x := x) rfl fun _ => sif_r (fun h1 => byt h (by decide) (x := y) rfl fun _ => ⟨?_, rfl⟩) fun h1 => ⟨?_, rfl⟩
    all_goals (clear h hK hl h3; (first | rw [pre3] | rw [pre2]); simp_all)
  · have h3 := of_decide_eq_false h3
    refine ⟨?_, rfl⟩
    have : [254, 255].isPrefixOf l = false := by
      rw [Bool.eq_false_iff]; intro hh
      have := (List.isPrefixOf_iff_prefix.1 hh).length_le
      simp at this; omega
    rw [this]
  refine sif_r (fun hb3 => ?_) fun hb3 => ?_
  · have : detectP l = (3, 2) := by unfold detectP; rw [if_neg hb, if_neg hb2, if_pos hb3]
    rw [this] at hK; exact hK
  · have hb3 : [254, 255].isPrefixOf l = false := hb3
    have : detectP l = (0, 0) := by unfold detectP; rw [if_neg hb, if_neg hb2, if_neg (by rw [hb3]; simp)]
    rw [this] at hK; exact hK
theorem markB_call {enc : Int} {K : Sl → World → Prop} (hK : ∀ s w', BytesO w' w.heap.size s (markP enc) → Ext w w' → K s w') : callT Tryz.prog 25 #[.int .i64 enc] (.one (.one .sl)) K w := by
  refine F25_calls ?_
  unfold F25
  have lit : ∀ (c : List UInt8) (b : Nat) (w1 : World), w1.heap[b]? = some (.cells (bv c).toArray 5 (0, 0)) → b = w.heap.size → BytesO w1 w.heap.size ⟨some (at0 b), c.length, c.length⟩ c := fun c b w1 h hb =>
    ⟨by simp, Nat.le_refl _, .inr ⟨b, 0, (bv c).toArray, rfl, by omega, h, by simp, fun j v hj => by simpa using hj⟩⟩
  refine sif_r (fun h => ?_) fun h => sif_r (fun h2 => ?_) fun h2 => sif_r (fun h3 => ?_) fun h3 => ?_
  · have h : enc = 1 := by simpa using h
    subst h
    exact newO_r fun b w1 e1 n1 hb hz => hK _ w1 (lit [239, 187, 191] b w1 n1 hb) e1
  · have h : enc = 2 := by simpa using h2
    subst h
    exact newO_r fun b w1 e1 n1 hb hz => hK _ w1 (lit [255, 254] b w1 n1 hb) e1
  · have h : enc = 3 := by simpa using h3
    subst h
    exact newO_r fun b w1 e1 n1 hb hz => hK _ w1 (lit [254, 255] b w1 n1 hb) e1
  · have h : enc ≠ 1 := by simpa using h
    have h2 : enc ≠ 2 := by simpa using h2
    have h3 : enc ≠ 3 := by simpa using h3
    have : markP enc = [] := by unfold markP; rw [if_neg h, if_neg h2, if_neg h3]
    exact hK _ w (by rw [this]; exact SlOwn.nil _ _ _ _) (Ext.refl w)
theorem hasPrefix_call {s m : Sl} {l p : List UInt8} (h : SlIn w s 5 1 (bv l)) (hp : Bytes w m p) {K : Bool → World → Prop} (hK : K (p.isPrefixOf l) w) : callT Tryz.prog 56 #[.slice s.a s.len s.cap, .slice m.a m.len m.cap] (.one (.one .bool)) K w := by
  refine F56_calls (a0 := s) (a1 := m) ?_
  unfold F56
  have hl := bys_len h.x
  have hpl := bys_len hp
  have hcap := h.le
  refine sif_r (fun hge => ?_) fun hge => ?_
  · have hge := of_decide_eq_true hge
    refine slc_r h (by omega) (by omega) (by omega) (by omega) (by omega) fun x hx _ _ _ => ?_
    have hbv : ((bv l).drop (Int.toNat 0 * 1)).take ((Int.toNat ((m.len : Nat) : Int) - Int.toNat 0) * 1) = bv (l.take p.length) := by
      rw [Int.toNat_natCast, hpl]; simp [List.map_take]
    rw [hbv] at hx
    refine F96_calls (a0 := x) (a1 := m) ?_
    unfold F96
    refine bytesStr_r uB ub us hx.x (bytesStr_r uB ub us hp ?_)
    have : (ByteArray.toList ⟨(l.take p.length).toArray⟩ == ByteArray.toList ⟨p.toArray⟩) = p.isPrefixOf l := by
      rw [bytes_eq, Bool.eq_iff_iff, decide_eq_true_eq, List.isPrefixOf_iff_prefix, List.prefix_iff_eq_take]
      constructor
      · intro hh
        have := congrArg (fun b : ByteArray => b.data.toList) hh
        simpa using this.symm
      · intro hh
        rw [← hh]
    rw [this]; exact hK
  · have hge := of_decide_eq_false hge
    have : p.isPrefixOf l = false := by
      rw [Bool.eq_false_iff]; intro hh
      have := (List.isPrefixOf_iff_prefix.1 hh).length_le
      omega
    rw [this] at hK; exact hK
structure OpenR (w w' : World) (d : Nat) (F : Nat → Prop) (N : Nat) (r : Dk × Int × Option Fil × Lod) (F' : Nat → Prop) (fo : Option Addr) (sd : Sl) : Prop where
  disk : DS w' d F' r.1 (N + 4)
  upd : Upd F w w'
  new : ∀ k, F' k → F k ∨ w.heap.size ≤ k
  file : match r.2.2.1 with
    | some X => ∃ f sm, fo = some (at0 f) ∧ FS w' f d X sm F' ∧ w.heap.size ≤ f ∧ ∀ k, sm.blk k → w.heap.size ≤ k
    | none => fo = none
  data : BytesO w' w.heap.size sd r.2.2.2.data
  apart : ∀ k, sd.blk k → ¬ F' k
  apartf : ∀ f, fo = some (at0 f) → ¬ sd.blk f
def GuessOk (g : List UInt8 → Int) : Prop := ∀ (l : List UInt8) (s : Sl) (w : World) (K : Int × Value × Unit → World → Prop), l.length ≤ 1048576 → SlIn w s 5 1 (bv l) → (detectP l).1 = 0 → (∀ v w', Ext w w' → K (g l, v, ()) w') → callT Tryz.prog 55 #[.slice s.a s.len s.cap] (.tup [(.one (.int .i64)), (.one .any)]) K w
theorem enc_bound {g : List UInt8 → Int} {enc : Int} {b : List UInt8} : 0 ≤ (encK g enc b).2 ∧ (encK g enc b).2 ≤ b.length ∧ (encK g enc b).2 ≤ 3 := by
  have pf : ∀ m : List UInt8, m.length ≤ 3 → m.isPrefixOf b = true → 0 ≤ (m.length : Int) ∧ (m.length : Int) ≤ b.length ∧ (m.length : Int) ≤ 3 := fun m hm h => by
    have := (List.isPrefixOf_iff_prefix.1 h).length_le
    omega
  have hd : 0 ≤ (detectP b).2 ∧ (detectP b).2 ≤ b.length ∧ (detectP b).2 ≤ 3 := by
    unfold detectP
    split
    · rename_i h; exact pf [239, 187, 191] (by decide) h
    · split
      · rename_i h; exact pf [255, 254] (by decide) h
      · split
        · rename_i h; exact pf [254, 255] (by decide) h
        · exact ⟨by decide, by show (0 : Int) ≤ _; omega, by decide⟩
  unfold encK
  split
  · exact hd
  · split
    · exact ⟨Int.le_refl _, by show (0 : Int) ≤ _; omega, by show (0 : Int) ≤ 3; decide⟩
    · split
      · rename_i h; exact pf _ (by unfold markP; split; decide; split; decide; split; decide; decide) h
      · exact ⟨Int.le_refl _, by show (0 : Int) ≤ _; omega, by show (0 : Int) ≤ 3; decide⟩
end
end Dq
end Go.Proofs.YtmooldhpiopcgaaGreatDoor
set_option linter.unusedSimpArgs false
set_option linter.unusedVariables false
set_option maxRecDepth 100000
namespace Go.Proofs.YtmooldhpiopcgaaGreatDoor
namespace Dq
open Go Go.Vx Dsk Cdc Trx
section
variable {w w' : World} {S F F' : Nat → Prop} {d : Nat} {D : Dk} {N : Nat}
abbrev lodC (a b : Int) (s : Sl) (n : Bool) : Cells.T c32 := (a, b, s, n, ())
theorem lod_at {x : Cells.T c32} (i : Nat) (v : Value) (h : (Cells.vals c32 x)[i]? = some v) : (Cells.vals c32 x).toArray[0 + i]? = some v := by rw [Nat.zero_add, ← Array.getElem?_toList]; exact h
theorem read_len (ok : DkOk D N) (n : Nm) : (callRead D n).2.2.length ≤ 1048576 := by
  have key : ∀ D1 : Dk, D1.files = D.files → (rdR n D1).2.2.length ≤ 1048576 := by
    intro D1 h1
    unfold rdR
    split
    · exact Nat.zero_le _
    · rename_i i _ _
      show (fl D1 i).data.length ≤ _
      unfold fl
      rw [h1, List.getD_eq_getElem?_getD]
      cases hi : D.files[i]? with
      | none => exact Nat.zero_le _
      | some f => exact (ok.fil i f hi).1
  unfold callRead
  dsimp only
  split
  · unfold Dsk.step
    split
    · exact Nat.zero_le _
    · split
      · exact key _ rfl
      · unfold faulty
        repeat' split
        all_goals first | exact Nat.zero_le _ | exact key _ rfl
  · exact Nat.zero_le _
set_option maxHeartbeats 1000000 in
theorem open_call {g : List UInt8 → Int} {enc : Int} {n : Nm} (hG : userName n = true → GuessOk g ∨ enc ≠ 0 ∨ (callStamp D n).2.1 = 162) (A : DS w d F D N) (hN : N + 10 ≤ 2 ^ 30) (hl : LaidE w) (hn : n.size < 2 ^ 62) {limit : Int} {K : (Option Addr × (Int × Int × Sl × Bool × Unit) × Int × Unit) → World → Prop}
    (hK : ∀ F' w' fo sd, let r := openP g D n enc limit
      OpenR w w' d F N r F' fo sd → K (fo, (r.2.2.2.enc, r.2.2.2.mark, sd, r.2.2.2.new, ()), r.2.1, ()) w') :
    callT Tryz.prog 18 #[.pointer (some (at0 d)), .string n, .int .i64 enc, .int .i64 limit] (.tup [(.one .ptr), (.agg c32), (.one (.int .i64))]) K w := by
  refine F18_calls ?_
  unfold F18
  have hAlt := A.lt
  have hpos := A.pos
  refine newO_r fun b1 w1 e1 n1 hb1 hz1 => newO_r fun b2 w2 e2 n2 hb2 hz2 => name_call hn fun w3 e3 => ?_
  have e03 := (e1.trans e2).trans e3
  have m1 := (e2.trans e3).ext_get n1
  have m2 := e3.ext_get n2
  have nF1 : ¬ F b1 := fun hh => by have := hAlt _ hh; omega
  have nF2 : ¬ F b2 := fun hh => by have := hAlt _ hh; omega
  have hz3 := e3.size
  clear n1 n2 e1 e2 e3
  have bad0 : ∀ (W : World) (F1 : Nat → Prop) (D1 : Dk) (er : Int), DS W d F1 D1 (N + 4) → W.heap[b1]? = some (.cells #[.int .i64 0, .int .i64 0, .slice none 0 0, .bool false] 32 (0, 0)) → ¬ F1 b1 → Upd F w W → (∀ k, F1 k → F k ∨ w.heap.size ≤ k) →
      openP g D n enc limit = (D1, er, none, noLod) → (aggSt (at0 b1) (.agg (Cells.vals c32 (lodC 0 0 ⟨none, 0, 0⟩ false)).toArray) 4 <| lds c32 (at0 b1) fun y => K (none, y, er, ())) W := by
    intro W F1 D1 er A1 h1 hb U hF he
    refine aggSt_r h1 rfl rfl (by decide) fun W3 u3 n3 _ => lds_r (x := lodC 0 0 ⟨none, 0, 0⟩ false) n3 (fun i v hv => lod_at i v hv) ?_
    have hk := hK F1 W3 none ⟨none, 0, 0⟩
    rw [he] at hk
    exact hk ⟨A1.frame u3 fun k hk hh => hb (hh ▸ hk), U.new u3 fun k hk hh => by omega, hF, rfl, SlOwn.nil _ _ _ _, fun k hk => nil_blk hk, fun f hf => by cases hf⟩
  have bad : ∀ (W : World) (F1 : Nat → Prop) (D1 : Dk) (er : Int), DS W d F1 D1 (N + 4) → W.heap[b1]? = some (.cells #[.int .i64 0, .int .i64 0, .slice none 0 0, .bool false] 32 (0, 0)) → W.heap[b2]? = some (.cells #[.int .i64 0, .int .i64 0, .slice none 0 0, .bool false] 32 (0, 0)) → ¬ F1 b1 → Upd F w W → (∀ k, F1 k → F k ∨ w.heap.size ≤ k) →
      openP g D n enc limit = (D1, er, none, noLod) → (drew <| lds c32 (at0 b2) fun x => aggSt (at0 b1) (.agg (Cells.vals c32 x).toArray) 4 <| lds c32 (at0 b1) fun y => K (none, y, er, ())) W := by
    intro W F1 D1 er A1 h1 h2 hb U hF he
    exact drew_r fun W2 e2 _ => lds_r (x := lodC 0 0 ⟨none, 0, 0⟩ false) (e2.ext_get h2) (fun i v hv => lod_at i v hv) (bad0 W2 F1 D1 er (A1.ext e2) (e2.ext_get h1) hb (U.trans (Upd.of_ext e2)) hF he)
  have bad2 : ∀ (W : World) (F1 : Nat → Prop) (D1 : Dk) (v : Value) (er : Int), ErrV W v er → LaidE W → DS W d F1 D1 (N + 4) → W.heap[b1]? = some (.cells #[.int .i64 0, .int .i64 0, .slice none 0 0, .bool false] 32 (0, 0)) → W.heap[b2]? = some (.cells #[.int .i64 0, .int .i64 0, .slice none 0 0, .bool false] 32 (0, 0)) → ¬ F1 b1 → Upd F w W → (∀ k, F1 k → F k ∨ w.heap.size ≤ k) →
      openP g D n enc limit = (D1, er, none, noLod) → (drew <| lds c32 (at0 b2) fun x => callT Tryz.prog 54 #[v] (.one (.one (.int .i64))) fun q => keep (fun w => cellsAt w (at0 b2) 0 (Cells.vals c32 x)) <| aggSt (at0 b1) (.agg (Cells.vals c32 x).toArray) 4 <| lds c32 (at0 b1) fun y => K (none, y, q, ())) W := by
    intro W F1 D1 v er hv hL A1 h1 h2 hb U hF he
    refine drew_r fun W2 e2 _ => lds_r (x := lodC 0 0 ⟨none, 0, 0⟩ false) (e2.ext_get h2) (fun i v hv => lod_at i v hv) (number_call (hv.ext e2) (hL.ext e2) fun W3 e3 => keep_r ?_ ?_)
    · exact cellsAt_of (off := 0) _ 0 fun j v hv => by rw [Nat.zero_add]; exact cell_of (e3.ext_get (e2.ext_get h2)) (lod_at j v hv)
    · exact bad0 W3 F1 D1 er ((A1.ext e2).ext e3) (e3.ext_get (e2.ext_get h1)) hb ((U.trans (Upd.of_ext e2)).trans (Upd.of_ext e3)) hF he
  have A3 := A.ext e03
  have U3 : Upd F w w3 := Upd.of_ext e03
  refine sif_r (fun hc => ?_) fun hc => ?_
  · have hc : userName n = false := by simpa using hc
    exact bad w3 F D 164 (A3.mono (by omega)) m1 m2 nF1 U3 (fun k hk => .inl hk) (by unfold openP; rw [if_pos hc])
  have hc : userName n = true := by simpa using hc
  have hnc : ¬ userName n = false := by rw [hc]; simp
  refine join_at (decide (enc < 0 ∨ enc > 4), ()) (sif_r (fun h => ⟨tupb ?_, rfl⟩) fun h => ⟨tupb ?_, rfl⟩) (sif_r (fun h => ?_) fun h => ?_)
  · have h := of_decide_eq_true h; simp [h]
  · have h := of_decide_eq_false h; simp only [decide_eq_true_eq]; omega
  · have h := of_decide_eq_true h
    exact bad w3 F D 10 (A3.mono (by omega)) m1 m2 nF1 U3 (fun k hk => .inl hk) (by unfold openP; rw [if_neg hnc, if_pos h])
  have henc := of_decide_eq_false h
  refine join_at (decide (limit < 0 ∨ limit > 65536), ()) (sif_r (fun h => ⟨tupb ?_, rfl⟩) fun h => ⟨tupb ?_, rfl⟩) (sif_r (fun h => ?_) fun h => ?_)
  · have h := of_decide_eq_true h; simp [h]
  · have h := of_decide_eq_false h; simp only [decide_eq_true_eq]; omega
  · have h := of_decide_eq_true h
    exact bad w3 F D 1 (A3.mono (by omega)) m1 m2 nF1 U3 (fun k hk => .inl hk) (by unfold openP; rw [if_neg hnc, if_neg henc, if_pos h])
  have hlim := of_decide_eq_false h
  refine stampS A3 (by omega) fun F4 w4 v4 hv4 A4 u4 hF4 => ?_
  obtain ⟨s, hs⟩ : ∃ s, s = callStamp D n := ⟨_, rfl⟩
  rw [← hs] at hv4 A4 ⊢
  have z4 := u4.size
  have U4 := U3.trans u4
  have G4 : ∀ k, F4 k → F k ∨ w.heap.size ≤ k := fun k hk => (hF4 k hk).imp id fun hh => by omega
  have nn4 : ∀ b, ¬ F b → b < w3.heap.size → ¬ F4 b := fun b h1 h2 hh => (hF4 _ hh).elim h1 fun h' => by omega
  refine newO_r fun b15 w5 e5 n5 hb5 hz5 => aggSt_r n5 rfl rfl (by decide) fun w6 u6 n6 hz6 => ?_
  have n6 : w6.heap[b15]? = some (.cells (Cells.vals c57 (stT s.2.2)).toArray 57 (0, 0)) := n6
  have e46 : Ext w4 w6 := e5.step u6 fun k hk => by omega
  have A6 := A4.ext e46
  have U6 := U4.trans (S := F) (Upd.of_ext e46)
  have m16 := e46.ext_get (u4.get m1 nF1)
  have m26 := e46.ext_get (u4.get m2 nF2)
  have hl6 := ((hl.ext e03).upd u4 A3.no0).ext e46
  have nF41 := nn4 b1 nF1 (by have := lt_of_heap m1; omega)
  have nF42 := nn4 b2 nF2 (by have := lt_of_heap m2; omega)
  have hop : openP g D n enc limit = if s.2.1 = 162 then (s.1, 0, some ⟨n, [], (0, 0, 0), (0, 0, 0)⟩, ⟨if 1 > enc then 1 else enc, 0, [], true⟩) else
      if s.2.1 ≠ 0 then (s.1, s.2.1, none, noLod) else
      if (callRead s.1 n).2.1 ≠ 0 then ((callRead s.1 n).1, (callRead s.1 n).2.1, none, noLod) else
      if ((callRead s.1 n).2.2.length : Int) - (encK g enc (callRead s.1 n).2.2).2 > limit then ((callRead s.1 n).1, 50, none, noLod) else
      ((callRead s.1 n).1, 0, some ⟨n, (callRead s.1 n).2.2.take (encK g enc (callRead s.1 n).2.2).2.toNat, s.2.2, (0, 0, 0)⟩, ⟨(encK g enc (callRead s.1 n).2.2).1, (encK g enc (callRead s.1 n).2.2).2, (callRead s.1 n).2.2.drop (encK g enc (callRead s.1 n).2.2).2.toNat, false⟩) := by
    unfold openP
    rw [if_neg hnc, if_neg henc, if_neg hlim, hs]
  have hnl : n.size < 32 := by
    unfold userName at hc
    simp only [Bool.and_eq_true, decide_eq_true_eq] at hc
    exact hc.1.2
  refine isv_call (hv4.ext e46) (by decide) (sif_r (fun h => ?_) fun h => ?_)
  ·
    have h := of_decide_eq_true h
    rw [if_pos h] at hop
    refine newO_r fun b17 w7 e7 n7 hb7 hz7 => aggSt_r (e7.ext_get m16) rfl rfl (by decide) fun w8 u8 n8 hz8 => lds_r (x := lodC (if 1 > enc then 1 else enc) 0 ⟨none, 0, 0⟩ true) n8 (fun i v hv => lod_at i v hv) ?_
    have l1 := lt_of_heap m16
    have z46 := e46.size
    have hk := hK F4 w8 (some (at0 b17)) ⟨none, 0, 0⟩
    rw [hop] at hk
    have n7 : w7.heap[b17]? = some (.cells (fcells d ⟨n, [], (0, 0, 0), (0, 0, 0)⟩ ⟨none, 0, 0⟩) 110 (0, 0)) := n7
    have nF17 : ¬ F4 b17 := fun hh => by have := A6.lt _ hh; omega
    refine hk ⟨((A6.ext e7).frame u8 fun k hk hh => nF41 (hh ▸ hk)).mono (by omega), (U6.trans (Upd.of_ext e7)).new u8 fun k hk hh => by omega, G4, ⟨b17, ⟨none, 0, 0⟩, rfl, ⟨⟨u8.get1 n7 (by omega), SlIn.nil _ _ _⟩, nF17, fun k hk => nil_blk hk, (hl6.ext e7).upd u8 (by omega), (by show 0 < 1024; decide), by show n.size ≤ _; omega, by omega⟩, by omega, fun k hk => nil_blk hk⟩, SlOwn.nil _ _ _ _, fun k hk => nil_blk hk, fun f hf hh => nil_blk hh⟩
  have h162 := of_decide_eq_false h
  rw [if_neg h162] at hop
  refine (hv4.ext e46).nenil (sif_r (fun h => ?_) fun h => ?_)
  · have h := of_decide_eq_true h
    rw [if_pos h] at hop
    exact bad2 w6 F4 s.1 v4 s.2.1 (hv4.ext e46) hl6 (A6.mono (by omega)) m16 m26 nF41 U6 G4 hop
  have h0 := of_decide_eq_false h
  rw [if_neg h0] at hop
  refine readS A6 (by omega) fun F7 w7 sx v7 hv7 A7 u7 hF7 row7 ap7 => ?_
  obtain ⟨r, hr⟩ : ∃ r, r = callRead s.1 n := ⟨_, rfl⟩
  rw [← hr] at hv7 A7 row7 hop
  have z7 := u7.size
  have z46 := e46.size
  have U7 := U6.new u7 fun k hk hh => (G4 k hh).resolve_right (by omega)
  have G7 : ∀ k, F7 k → F k ∨ w.heap.size ≤ k := fun k hk => (hF7 k hk).elim (G4 k) fun hh => .inr (by omega)
  have m17 := u7.get m16 nF41
  have m27 := u7.get m26 nF42
  have l16 := lt_of_heap m16
  have l26 := lt_of_heap m26
  have nF71 : ¬ F7 b1 := fun hh => (hF7 _ hh).elim nF41 fun h' => by omega
  have hl7 := hl6.upd u7 A6.no0
  refine hv7.nenil (sif_r (fun h => ?_) fun h => ?_)
  · have h := of_decide_eq_true h
    rw [if_pos h] at hop
    exact bad2 w7 F7 r.1 v7 r.2.1 hv7 hl7 (A7.mono (by omega)) m17 m27 nF71 U7 G7 hop
  have h7 := of_decide_eq_false h
  rw [if_neg h7] at hop
  have hlen := bys_len row7.in.x
  have hmax : r.2.2.length ≤ 1048576 := by rw [hr]; exact read_len A6.ok n
  obtain ⟨b, hb⟩ : ∃ b, b = r.2.2 := ⟨_, rfl⟩
  rw [← hb] at row7 hlen hmax hop
  obtain ⟨q0, q1, q2⟩ := enc_bound (g := g) (enc := enc) (b := b)
  refine join_r (fun x W => x = ((encK g enc b).1, (encK g enc b).2, ()) ∧ Ext w7 W) ?_ ?_
  · refine detect_call row7.in.x (join_at (decide (enc = 0 ∧ (detectP b).1 ≠ 0), ()) (sif_r (fun h => ⟨tupb ?_, rfl⟩) fun h => ⟨tupb ?_, rfl⟩) (sif_r (fun h => ?_) fun h => ?_))
    · have h : enc = 0 := by simpa using h
      simp [h]
    · have h : enc ≠ 0 := by simpa using h
      simp [h]
    · have h := of_decide_eq_true h
      refine ⟨?_, Ext.refl w7⟩
      unfold encK; rw [if_pos h]
    · have h := of_decide_eq_false h
      refine sif_r (fun h2 => ?_) fun h2 => ?_
      · have h2 : enc = 0 := by simpa using h2
        have hd : (detectP b).1 = 0 := Decidable.byContradiction fun hh => h ⟨h2, hh⟩
        have hG : GuessOk g := (hG hc).resolve_right fun hh => hh.elim (fun hh => hh h2) fun hh => by rw [← hs] at hh; exact h162 hh
        refine hG b sx w7 _ hmax row7.in hd fun v w' e' => ⟨?_, e'⟩
        unfold encK; rw [if_neg h, if_pos h2]
      · have h2 : enc ≠ 0 := by simpa using h2
        refine markB_call fun sm w8 rm e8 => hasPrefix_call (row7.in.ext e8) rm.in.x (sif_r (fun hp => markB_call fun sm2 w9 rm2 e9 => ⟨?_, e8.trans e9⟩) fun hp => ⟨?_, e8⟩)
        · have := bys_len rm2.in.x
          unfold encK; rw [if_neg h, if_neg h2, if_pos hp, this]
        · have hp : ¬ (markP enc).isPrefixOf b = true := by rw [hp]; simp
          unfold encK; rw [if_neg h, if_neg h2, if_neg hp]
  rintro _ w8 ⟨rfl, e8⟩
  have U8 := U7.trans (S := F) (Upd.of_ext e8)
  dsimp only
  rw [wrap64 (by omega) (by omega)]
  refine sif_r (fun h => ?_) fun h => ?_
  · have h := of_decide_eq_true h
    rw [if_pos (by omega)] at hop
    exact bad w8 F7 r.1 50 ((A7.ext e8).mono (by omega)) (e8.ext_get m17) (e8.ext_get m27) nF71 U8 G7 hop
  have h := of_decide_eq_false h
  rw [if_neg (by omega)] at hop
  have hcap := row7.in.le
  obtain ⟨k, hk⟩ : ∃ k : Nat, (encK g enc b).2 = (k : Int) := ⟨(encK g enc b).2.toNat, by omega⟩
  rw [hk] at q1 q2 hop h ⊢
  rw [Int.toNat_natCast] at hop
  have n67 := u7.get n6 fun hh => by have := A4.lt _ hh; omega
  refine drew_r fun w9 e9 _ => slc_r ((row7.in.ext e8).ext e9) (by omega) (by omega) (by omega) (by omega) (by omega) fun x39 hx39 _ _ _ => ?_
  have hbv39 : ((bv b).drop (Int.toNat 0 * 1)).take ((Int.toNat (k : Int) - Int.toNat 0) * 1) = bv (b.take k) := by
    rw [Int.toNat_natCast]; simp [List.map_take]
  rw [hbv39] at hx39
  have e79 := e8.trans e9
  refine lds_r (x := stT s.2.2) (e79.ext_get n67) (fun i v hv => stm_at i v hv) (bclone_call hx39.x (by rw [List.length_take]; omega) fun sm w10 rm e10 => keep_r ?_ (newO_r fun f w11 e11 n11 hf11 hz11 => ?_))
  · exact cellsAt_of (off := 0) _ 0 fun j v hv => by rw [Nat.zero_add]; exact cell_of (e10.ext_get (e79.ext_get n67)) (stm_at j v hv)
  have n11 : w11.heap[f]? = some (.cells (fcells d ⟨n, b.take k, s.2.2, (0, 0, 0)⟩ sm) 110 (0, 0)) := n11
  have e711 := (e79.trans e10).trans e11
  refine slc_r (row7.in.ext e711) (by omega) (by omega) (by omega) (by omega) (by omega) fun x43 hx43 _ _ _ => ?_
  have hbv43 : ((bv b).drop (Int.toNat (k : Int) * 1)).take ((Int.toNat ((sx.len : Nat) : Int) - Int.toNat (k : Int)) * 1) = bv (b.drop k) := by
    rw [Int.toNat_natCast, Int.toNat_natCast, Nat.mul_one, Nat.mul_one, ← List.map_drop, List.take_of_length_le]
    rw [List.length_map, List.length_drop]; omega
  rw [hbv43] at hx43
  have z710 := (e79.trans e10).size
  have z79 := e79.size
  refine bclone_call hx43.x (by rw [List.length_drop]; omega) fun sd w12 rd e12 => ?_
  have e712 := e711.trans e12
  refine aggSt_r (e712.ext_get m17) rfl rfl (by decide) fun w13 u13 n13 hz13 => lds_r (x := lodC (encK g enc b).1 (k : Int) sd false) n13 (fun i v hv => lod_at i v hv) ?_
  have hk := hK F7 w13 (some (at0 f)) sd
  rw [hop] at hk
  have U12 := U7.trans (S := F) (Upd.of_ext e712)
  have A12 := A7.ext e712
  have zw7 := U7.size
  have sdge : ∀ k, sd.blk k → w11.heap.size ≤ k := fun k hk => rd.blk_ge hk
  have smge : ∀ k, sm.blk k → w9.heap.size ≤ k ∧ k < w10.heap.size := fun k hk => ⟨rm.blk_ge hk, rm.in.blk_lt hk⟩
  have F7lt : ∀ k, F7 k → k < w7.heap.size := A7.lt
  have rmb := (rm.in.ext (e11.trans e12))
  refine hk ⟨(A12.frame u13 fun k hk hh => nF71 (hh ▸ hk)).mono (by omega), U12.new u13 fun k hk hh => by omega, G7, ⟨f, sm, rfl, ⟨⟨u13.get1 (e12.ext_get n11) (by omega), rmb.upd u13 fun k hk hh => by have := (smge k hk).1; omega⟩, fun hh => by have := F7lt _ hh; omega, fun k hk hh => by have := F7lt _ hh; have := (smge k hk).1; omega, (hl7.ext e712).upd u13 (by omega), ?_, by show n.size ≤ _; omega, by omega⟩, by omega, fun k hk => by have := (smge k hk).1; omega⟩, ?_, fun k hk hh => by have := F7lt _ hh; have := sdge k hk; omega, fun f' hf' hh => ?_⟩
  · show (b.take k).length < 1024
    rw [List.length_take]; omega
  · refine SlOwn.mono (rd.upd u13 fun k _ hk hh => ?_) (by omega)
    have := sdge k hk; omega
  · have hff : f = f' := by simpa using hf'
    have := sdge _ hh; omega
end
end Dq
end Go.Proofs.YtmooldhpiopcgaaGreatDoor
set_option linter.unusedSimpArgs false
set_option linter.unusedVariables false
set_option maxRecDepth 100000
namespace Go.Proofs.YtmooldhpiopcgaaGreatDoor
namespace Dq
open Go Go.Vx Dsk Cdc Trx Flp
section
variable {w w' : World}
theorem u112 : Tryz.prog.underlying 112 = some (.float .f64) := i112_ok.und
theorem u3i : Tryz.prog.underlying 3 = some (.int .i64) := i3_ok.und
theorem cv_r {n : Int} {K : Value → World → Prop} (h : K (.float .f64 (fi n)) w) : rdV Tryz.prog (convert 3 112 (.int .i64 n)) K w := by
  refine ⟨_, ?_, h⟩
  simp [convert, u112, u3i, Conv.intToFloat, fi]
theorem dv_r {x y : Operand} {a b : Int} (ha : 0 ≤ a ∧ a < 1099511627776) (hb : 0 < b ∧ b < 1099511627776) {K : Value → World → Prop} (h : K (.float .f64 (dv (fi a) (fi b))) w) :
    rdV Tryz.prog (do eqGuard .quo 112 x y (.float .f64 (fi a)) (.float .f64 (fi b)); binOp .quo 112 (.float .f64 (fi a)) (.float .f64 (fi b)) : Sem Value) K w := by
  refine ⟨_, ?_, h⟩
  have e := run_float_arith (P := Tryz.prog) w .quo 112 .f64 (fi a) (fi b) _ (dv_some ha hb).1
  simpa [eqGuard] using e
theorem sb_r {x y : Operand} {a b : Int} (ha : 0 ≤ a ∧ a < 1099511627776) (hb : 0 < b ∧ b < 1099511627776) {K : Value → World → Prop} (h : K (.float .f64 (sb 4607182418800017408 (dv (fi a) (fi b)))) w) :
    rdV Tryz.prog (do eqGuard .sub 112 x y (.float .f64 4607182418800017408) (.float .f64 (dv (fi a) (fi b))); binOp .sub 112 (.float .f64 4607182418800017408) (.float .f64 (dv (fi a) (fi b))) : Sem Value) K w := by
  refine ⟨_, ?_, h⟩
  have e := run_float_arith (P := Tryz.prog) w .sub 112 .f64 _ _ _ (sb_some ha hb)
  simpa [eqGuard] using e
theorem ge_r {x y : Operand} {a b : Nat} {K : Bool → World → Prop} (h : K (ge a b) w) :
    rdB Tryz.prog (do eqGuard .geq 112 x y (.float .f64 a) (.float .f64 b); binOp .geq 112 (.float .f64 a) (.float .f64 b) : Sem Value) K w := by
  refine ⟨_, ?_, h⟩
  simp [eqGuard, binOp, Op.floatCmp, ge]
theorem le_r {x y : Operand} {a b : Nat} {K : Bool → World → Prop} (h : K (le a b) w) :
    rdB Tryz.prog (do eqGuard .leq 112 x y (.float .f64 a) (.float .f64 b); binOp .leq 112 (.float .f64 a) (.float .f64 b) : Sem Value) K w := by
  refine ⟨_, ?_, h⟩
  simp [eqGuard, binOp, Op.floatCmp, le]
theorem zeros_call {s : Sl} {l : List UInt8} (h : By w s l) (hl : l.length ≤ 1048576) {a u : Nat} (ha : a ≤ 1) (hu : 2 * u ≤ l.length) (h0 : 0 < u) {K : Value → World → Prop} (hK : K (.float .f64 (dv (fi (zc l a u)) (fi u))) w) :
    callT Tryz.prog 94 #[.slice s.a s.len s.cap, .int .i64 (a : Int), .int .i64 (u : Int)] (.one (.one .any)) K w := by
  refine F94_calls (a0 := s) ?_
  unfold F94
  refine join_r (fun x W => x = ((zc l a u : Int), ()) ∧ w = W) ?_ ?_
  · refine sloop_r (fun s W => ∃ i : Nat, s = ((zc l a i : Int), ((a + 2 * i : Nat) : Int), ()) ∧ w = W ∧ i ≤ u) (fun s _ => 2 * u + 2 - s.2.1.toNat) ⟨0, rfl, rfl, Nat.zero_le _⟩ ?_
    rintro _ _ ⟨i, rfl, rfl, hi⟩
    dsimp only
    have e2 : IntKind.wrap .i64 ((2 : Int) * (u : Int)) = ((2 * u : Nat) : Int) := by rw [wrap64 (by omega) (by omega)]; omega
    rw [e2]
    have hz := zc_le l a i
    refine sif_r (fun hlt => ?_) fun hge => ?_
    · have hlt := of_decide_eq_true hlt
      have hlt : i < u := by omega
      obtain ⟨x, hx⟩ : ∃ x, l[a + 2 * i]? = some x := ⟨_, List.getElem?_eq_getElem (by omega)⟩
      have hd : l.getD (a + 2 * i) 1 = x := by rw [List.getD_eq_getElem?_getD, hx]; rfl
      have ez : ((x.toNat : Int) == 0) = (x == 0) := u8_eq x 0 (by decide)
      refine join_at (((zc l a (i + 1) : Nat) : Int), ()) (ix_by h (by omega) (b := x) (by rw [Int.toNat_natCast]; exact hx) fun p => ?_) ?_
      · rw [ez, zc_succ, hd]
        refine sif_r (fun hb => ?_) fun hb => ?_
        · have hb : x = 0 := eq_of_beq hb
          rw [if_pos hb, wrap64 (by omega) (by omega)]
          exact ⟨by rw [Int.natCast_add]; rfl, rfl⟩
        · have hb : x ≠ 0 := by simpa using hb
          rw [if_neg hb]
          exact ⟨rfl, rfl⟩
      · rw [wrap64 (by omega) (by omega)]
        refine ⟨⟨i + 1, by rw [show (((a + 2 * i : Nat) : Int) + 2) = ((a + 2 * (i + 1) : Nat) : Int) by omega], rfl, by omega⟩, ?_⟩
        show 2 * u + 2 - (((a + 2 * i : Nat) : Int) + 2).toNat < 2 * u + 2 - ((a + 2 * i : Nat) : Int).toNat
        omega
    · have hge := of_decide_eq_false hge
      obtain rfl : i = u := by omega
      exact ⟨rfl, rfl⟩
  · rintro _ _ ⟨rfl, rfl⟩
    have hz := zc_le l a u
    exact cv_r (cv_r (dv_r ⟨by omega, by omega⟩ ⟨by omega, by omega⟩ hK))
set_option maxHeartbeats 1000000 in
theorem guess_ok : GuessOk fun l => (guessP l).1 := by
  intro l s w K hl h hd hK
  refine F55_calls (a0 := s) ?_
  unfold F55
  have hlen : l.length = s.len := By.len h
  refine detect_call h.x (sif_r (fun hh => by rw [hd] at hh; cases hh) fun _ => ?_)
  have hdiv : Int.tdiv ((s.len : Nat) : Int) (2 : Int) = ((l.length / 2 : Nat) : Int) := by rw [← hlen]; rfl
  have ew : IntKind.wrap .i64 (Int.tdiv ((s.len : Nat) : Int) (2 : Int)) = ((l.length / 2 : Nat) : Int) := by rw [hdiv, wrap64 (by omega) (by omega)]
  rw [ew]
  obtain ⟨u, hu⟩ : ∃ u, u = l.length / 2 := ⟨_, rfl⟩
  rw [← hu]
  obtain ⟨hi, hhi⟩ : ∃ x, x = dv (fi (zc l 0 u)) (fi u) := ⟨_, rfl⟩
  obtain ⟨lo, hlo⟩ : ∃ x, x = dv (fi (zc l 1 u)) (fi u) := ⟨_, rfl⟩
  have hg : guessP l = if 0 < u ∧ ge lo 4602678819172646912 = true ∧ le hi 4593671619917905920 = true then (2, lo) else
    if 0 < u ∧ ge hi 4602678819172646912 = true ∧ le lo 4593671619917905920 = true then (3, hi) else
    if (hrK l.length l).2 = 0 then (1, 4607182418800017408) else
    if ge (dv (fi (((hrK l.length l).1 : Int) - (hrK l.length l).2)) (fi (hrK l.length l).1)) 4604930618986332160 = true then (1, dv (fi (((hrK l.length l).1 : Int) - (hrK l.length l).2)) (fi (hrK l.length l).1)) else (4, sb 4607182418800017408 (dv (fi (((hrK l.length l).1 : Int) - (hrK l.length l).2)) (fi (hrK l.length l).1))) := by
    rw [hhi, hlo, hu]; rfl
  have hK : ∀ v w', Ext w w' → K ((guessP l).1, v, ()) w' := hK
  rw [hg] at hK
  refine join_r (fun _ W => w = W ∧ ¬ (0 < u ∧ ge lo 4602678819172646912 = true ∧ le hi 4593671619917905920 = true) ∧ ¬ (0 < u ∧ ge hi 4602678819172646912 = true ∧ le lo 4593671619917905920 = true)) (chk_iff.2 ⟨by decide, ?_⟩) ?_
  · refine sif_r (fun hp => ?_) fun hp => ?_
    · have hp : 0 < u := by have := of_decide_eq_true hp; omega
      refine zeros_call (a := 0) h hl (by decide) (by omega) hp (zeros_call (a := 1) h hl (by decide) (by omega) hp ?_)
      rw [← hhi, ← hlo]
      refine join_at (decide (ge lo 4602678819172646912 = true ∧ le hi 4593671619917905920 = true), ()) (ge_r (sif_r (fun h1 => le_r ⟨tupb ?_, rfl⟩) fun h1 => ⟨tupb ?_, rfl⟩)) (sif_r (fun hc => ?_) fun hc => ?_)
      · rw [decide_eq_true_eq]; exact ⟨fun h2 => ⟨h1, h2⟩, fun h2 => h2.2⟩
      · rw [decide_eq_true_eq]; exact ⟨fun h2 => (by cases h2), fun h2 => by rw [h1] at h2; exact absurd h2.1 (by decide)⟩
      · have hc := of_decide_eq_true hc
        rw [if_pos ⟨hp, hc⟩] at hK
        exact hK _ _ (Ext.refl _)
      have hc := of_decide_eq_false hc
      refine join_at (decide (ge hi 4602678819172646912 = true ∧ le lo 4593671619917905920 = true), ()) (ge_r (sif_r (fun h1 => le_r ⟨tupb ?_, rfl⟩) fun h1 => ⟨tupb ?_, rfl⟩)) (sif_r (fun hc2 => ?_) fun hc2 => ?_)
      · rw [decide_eq_true_eq]; exact ⟨fun h2 => ⟨h1, h2⟩, fun h2 => h2.2⟩
      · rw [decide_eq_true_eq]; exact ⟨fun h2 => (by cases h2), fun h2 => by rw [h1] at h2; exact absurd h2.1 (by decide)⟩
      · have hc2 := of_decide_eq_true hc2
        rw [if_neg (fun hh => hc hh.2), if_pos ⟨hp, hc2⟩] at hK
        exact hK _ _ (Ext.refl _)
      have hc2 := of_decide_eq_false hc2
      exact ⟨rfl, fun hh => hc hh.2, fun hh => hc2 hh.2⟩
    · have hp : ¬ 0 < u := by have := of_decide_eq_false hp; omega
      exact ⟨rfl, fun hh => hp hh.1, fun hh => hp hh.1⟩
  rintro _ _ ⟨rfl, n1, n2⟩
  rw [if_neg n1, if_neg n2] at hK
  clear n1 n2 hg hhi hlo
  obtain ⟨hRH, hHl⟩ := hr_le l.length l
  obtain ⟨H, hH⟩ : ∃ x, x = (hrK l.length l).1 := ⟨_, rfl⟩
  obtain ⟨R, hR⟩ : ∃ x, x = (hrK l.length l).2 := ⟨_, rfl⟩
  rw [← hH, ← hR] at hK hRH
  rw [← hH] at hHl
  refine join_r (fun x W => x = ((H : Int), (R : Int), ()) ∧ Ext w W) ?_ ?_
  · refine sloop_r (fun s W => ∃ m a h r : Nat, s = ((h : Int), (r : Int), (a : Int), ()) ∧ Ext w W ∧ a ≤ l.length ∧ h + (hrK m (l.drop a)).1 = H ∧ r + (hrK m (l.drop a)).2 = R ∧ l.length - a ≤ m) (fun s _ => l.length - s.2.2.1.toNat) ⟨l.length, 0, 0, 0, rfl, Ext.refl _, Nat.zero_le _, by rw [hH]; simp, by rw [hR]; simp, Nat.sub_le _ _⟩ ?_
    rintro _ W ⟨m, a, hc, rc, rfl, e1, ha, h1, h2, hm⟩
    dsimp only
    refine sif_r (fun hlt => ?_) fun hge => ?_
    · have hlt : a < l.length := by have := of_decide_eq_true hlt; omega
      obtain ⟨b, r, hbr⟩ : ∃ b r, l.drop a = b :: r := by
        cases hd : l.drop a with
        | nil => have := congrArg List.length hd; simp at this; omega
        | cons b r => exact ⟨b, r, rfl⟩
      have hba : l[a]? = some b := by
        have := congrArg (fun x => x[0]?) hbr
        simpa using this
      have hW : By W s l := SlIn.ext h e1
      obtain ⟨m, rfl⟩ : ∃ k, m = k + 1 := ⟨m - 1, by omega⟩
      have hcap := hW.le
      refine slc_by hW (by omega) (by omega) (by omega) (by omega) (by omega) fun s' hs' hl' hb' => ?_
      have et : (l.drop ((a : Int)).toNat).take (((s.len : Nat) : Int).toNat - ((a : Int)).toNat) = b :: r := by
        rw [Int.toNat_natCast, Int.toNat_natCast, hbr]
        refine List.take_of_length_le ?_
        have := congrArg List.length hbr
        simp only [List.length_drop] at this
        omega
      rw [et] at hs'
      refine first8_call hs' fun W2 e2 => ?_
      obtain ⟨z1, z2, z3⟩ := nx8_size b r
      have hlen2 : (b :: r).length = l.length - a := by rw [← hbr, List.length_drop]
      rw [hbr] at h1 h2
      simp only [hrK] at h1 h2
      have ed : (b :: r).drop (nx8 (b :: r)).2 = l.drop (a + (nx8 (b :: r)).2) := by rw [← hbr, List.drop_drop, hbr]
      rw [ed] at h1 h2
      obtain ⟨v, hv⟩ : ∃ v, v = nx8 (b :: r) := ⟨_, rfl⟩
      rw [← hv] at z1 z2 z3 h1 h2 ⊢
      dsimp only
      obtain ⟨q1, q2⟩ := hr_le m (l.drop (a + v.2))
      refine join_at (((rc + (if v.1 < 0 then 1 else 0) : Nat) : Int), ()) (sif_r (fun hb => ?_) fun hb => ?_) ?_
      · rw [if_pos (of_decide_eq_true hb), wrap64 (by omega) (by omega)]; exact ⟨by rw [Int.natCast_add]; rfl, rfl⟩
      · rw [if_neg (of_decide_eq_false hb)]; exact ⟨rfl, rfl⟩
      refine join_at (((hc + (if 128 ≤ b.toNat then v.2 else 0) : Nat) : Int), ()) (ix_by (hW.ext e2) (by omega) (b := b) (by rw [Int.toNat_natCast]; exact hba) fun p => sif_r (fun hb => ?_) fun hb => ?_) ?_
      · have hb : 128 ≤ b.toNat := by have := of_decide_eq_true hb; omega
        rw [if_pos hb] at h1 ⊢
        rw [wrap64 (by omega) (by omega)]
        exact ⟨by rw [Int.natCast_add], rfl⟩
      · have hb : ¬ 128 ≤ b.toNat := by have := of_decide_eq_false hb; omega
        rw [if_neg hb]; exact ⟨rfl, rfl⟩
      rw [wrap64 (by omega) (by omega)]
      refine ⟨⟨m, a + v.2, _, _, by rw [← Int.natCast_add], e1.trans e2, by omega, by omega, by omega, by omega⟩, ?_⟩
      show l.length - ((a : Int) + (v.2 : Int)).toNat < l.length - ((a : Int)).toNat
      omega
    · have hge : ¬ a < l.length := by have := of_decide_eq_false hge; omega
      have hnil : l.drop a = [] := List.drop_eq_nil_of_le (by omega)
      rw [hnil, hr_nil] at h1 h2
      exact ⟨by rw [← h1, ← h2]; rfl, e1⟩
  rintro _ W ⟨rfl, e1⟩
  dsimp only
  refine sif_r (fun h0 => ?_) fun h0 => ?_
  · have h0 : R = 0 := by have : (R : Int) = 0 := eq_of_beq h0; omega
    rw [if_pos h0] at hK
    exact hK _ _ e1
  have h0 : R ≠ 0 := by
    intro hh; rw [hh] at h0; cases h0
  rw [if_neg h0] at hK
  rw [wrap64 (by omega) (by omega)]
  refine cv_r (cv_r (dv_r ⟨by omega, by omega⟩ ⟨by omega, by omega⟩ (ge_r (sif_r (fun hg => ?_) fun hg => ?_))))
  · rw [if_pos hg] at hK
    exact hK _ _ e1
  · rw [if_neg (by rw [hg]; decide)] at hK
    exact sb_r ⟨by omega, by omega⟩ ⟨by omega, by omega⟩ (hK _ _ e1)
end
end Dq
end Go.Proofs.YtmooldhpiopcgaaGreatDoor
set_option linter.unusedSimpArgs false
set_option linter.unusedVariables false
namespace Go.Proofs.YtmooldhpiopcgaaGreatDoor
namespace Dq
open Go Go.Vx Dsk
section
variable {D D' : Dk} {N : Nat}
theorem fl_put1 {l : List Fl} {i : Nat} {g : Fl} (hg : l[i]? = some g) (f : Fl → Fl) (j : Nat) : (put1 l i f).getD j ⟨[], 0, 0⟩ = if j = i then f g else l.getD j ⟨[], 0, 0⟩ := by
  rw [put1_eq hg, List.getD_eq_getElem?_getD, List.getElem?_set]
  have hi := (List.getElem?_eq_some_iff.1 hg).1
  by_cases h : j = i
  · subst h; rw [if_pos rfl, if_pos rfl, if_pos hi]; rfl
  · rw [if_neg (Ne.symm h), if_neg h, List.getD_eq_getElem?_getD]
theorem syncdir_quiet (q : Quiet D) : callSyncDir D = (Dsk.settle { D with steps := D.steps + 1 }, 0, ()) := by
  unfold callSyncDir
  rw [step_quiet q]
  rfl
end
end Dq
end Go.Proofs.YtmooldhpiopcgaaGreatDoor
set_option linter.unusedSimpArgs false
set_option linter.unusedVariables false
namespace Go.Proofs.YtmooldhpiopcgaaGreatDoor
namespace Dq
open Go Go.Vx Dsk
section
variable {D D' : Dk} {N : Nat}
theorem sum_drop {α : Type} {f g : α → Int} {p : α → Bool} : ∀ {l : List α}, (∀ x ∈ l, p x = true → f x = g x) → (∀ x ∈ l, 0 ≤ g x) → sumZ ((l.filter p).map f) ≤ sumZ (l.map g)
  | [], _, _ => Int.le_refl _
  | x :: r, h, h0 => by
    have := sum_drop (l := r) (fun y hy => h y (List.mem_cons_of_mem _ hy)) fun y hy => h0 y (List.mem_cons_of_mem _ hy)
    have hx := h0 x List.mem_cons_self
    cases hp : p x with
    | true => rw [List.filter_cons_of_pos hp]; simp only [List.map_cons, sumZ, h x List.mem_cons_self hp]; omega
    | false => rw [List.filter_cons_of_neg (by rw [hp]; simp)]; simp only [List.map_cons, sumZ]; omega
theorem _root_.Go.Proofs.YtmooldhpiopcgaaGreatDoor.Dsk.Lists.eq {f g : Dir} {l : List Nm} (h : Lists f l) (e : g = f) : Lists g l := e ▸ h
def wt (fs : List Fl) : Option Nat → Int
  | some i => (fs.getD i ⟨[], 0, 0⟩).data.length
  | none => 0
theorem wt_nonneg (fs : List Fl) (o : Option Nat) : 0 ≤ wt fs o := by cases o <;> simp only [wt] <;> omega
theorem weigh_wt (D : Dk) : weigh D none = fun n => wt D.files (D.seen n) := by
  funext n; unfold weigh wt
  cases D.seen n <;> rfl
theorem used_wt {l : List Nm} (h : Lists D.seen l) : usedBut D none = sumZ (l.map fun n => wt D.files (D.seen n)) := by rw [used_eq h, weigh_wt]
theorem used_del (ok : DkOk D N) (a : Nm) (hs : D'.seen = dset D.seen a none) (hf : D'.files = D.files) : usedBut D' none ≤ usedBut D none := by
  obtain ⟨hl, _⟩ := ok.seen.names
  have hl' := (lists_del hl a).eq hs
  rw [used_wt hl', used_wt hl]
  refine sum_drop (fun m _ hm => ?_) fun _ _ => wt_nonneg ..
  rw [hs, hf]; unfold dset
  rw [if_neg (by simpa using hm)]
theorem used_new (ok : DkOk D N) {a : Nm} (h : D.seen a = none) {g : Fl} (hs : D'.seen = dset D.seen a (some D.files.length)) (hf : D'.files = D.files ++ [g]) : usedBut D' none = usedBut D none + g.data.length := by
  obtain ⟨hl, _⟩ := ok.seen.names
  have hl' := (lists_new (i := D.files.length) hl h).eq hs
  rw [used_wt hl', used_wt hl]
  have ha : wt D'.files (D'.seen a) = g.data.length := by rw [hs, hf]; unfold dset wt; rw [if_pos rfl]; simp
  have hr : (names D.seen).map (fun n => wt D'.files (D'.seen n)) = (names D.seen).map fun n => wt D.files (D.seen n) := List.map_congr_left fun n hn => by
    obtain ⟨i, hi⟩ := Option.isSome_iff_exists.1 ((hl.2 n).1 hn)
    have hna : n ≠ a := fun e => by rw [e, h] at hi; cases hi
    have := ok.seen.ids n i hi
    rw [hs, hf]; unfold dset; rw [if_neg hna, hi]; unfold wt
    simp [List.getElem?_append_left this]
  simp only [List.map_cons, sumZ, ha, hr]; omega
theorem seen_push (D : Dk) (a : Deed) : onAll (D.acts ++ [a]) D.lasts = a.on D.seen := by
  have : ∀ (l : List Deed) (f : Dir), onAll (l ++ [a]) f = a.on (onAll l f) := by
    intro l
    induction l with
    | nil => intro f; rfl
    | cons x r ih => intro f; exact ih _
  exact this _ _
theorem ok_st (ok : DkOk D N) : DkOk { D with steps := D.steps + 1 } (N + 1) := by
  have := ok.steps
  exact ⟨ok.space, fun i f hf => let ⟨a, b, c, e⟩ := ok.fil i f hf; ⟨a, b, c, by omega⟩, Nat.le_trans ok.num (Nat.le_succ _), ok.good, ⟨by dsimp only; omega, by dsimp only; omega⟩, Nat.le_trans ok.acts (Nat.le_succ _)⟩
end
end Dq
end Go.Proofs.YtmooldhpiopcgaaGreatDoor
set_option linter.unusedSimpArgs false
set_option linter.unusedVariables false
namespace Go.Proofs.YtmooldhpiopcgaaGreatDoor
namespace Dq
open Go Go.Vx Dsk
section
variable {D E : Dk} {N M : Nat} {n sd : Nm} {k : Int} {g : Fl} {T : List UInt8}
theorem side_data (n : Nm) : (side n).data.toList = n.data.toList ++ [126] := by unfold side; simp
theorem side_ne (n : Nm) : side n ≠ n := fun h => by
  have := congrArg (fun x : Nm => x.data.toList.length) h
  simp only [side_data] at this
  simp at this
theorem side_ok (h : userName n = true) : okName n = true ∧ okName (side n) = true := by
  unfold userName at h
  simp only [Bool.and_eq_true, decide_eq_true_eq] at h
  obtain ⟨⟨h1, h2⟩, h3⟩ := h
  refine ⟨h1, ?_⟩
  unfold okName at h1 ⊢
  simp only [Bool.and_eq_true, bne_iff_ne, ne_eq, decide_eq_true_eq] at h1 ⊢
  have hs : (side n).size = n.size + 1 := by
    show (n.data.push 126).size = n.data.size + 1
    simp
  refine ⟨⟨by omega, by omega⟩, ?_⟩
  rw [side_data, List.all_append, h1.2]
  decide
structure Bes (D E : Dk) (sd : Nm) (k : Int) (g : Fl) : Prop where
  q : Quiet E
  files : E.files = D.files ++ [g]
  lasts : E.lasts = D.lasts
  seen : E.seen = dset D.seen sd (some D.files.length)
  steps : E.steps = D.steps + k
  space : E.space = D.space
  ok : ∃ M, DkOk E M
  acts : ∃ as_, E.acts = D.acts ++ as_
theorem Bes.find (h : Bes D E sd k g) (hn : okName sd = true) : Dsk.find E sd = (some D.files.length, 0) := by
  unfold Dsk.find
  rw [if_neg (by rw [hn]; simp), h.seen]
  unfold dset
  rw [if_pos rfl]
theorem Bes.at_ (h : Bes D E sd k g) : E.files[D.files.length]? = some g := by rw [h.files]; simp
theorem Bes.fl (h : Bes D E sd k g) : fl E D.files.length = g := by unfold Dsk.fl; rw [List.getD_eq_getElem?_getD, h.at_]; rfl
theorem dset_dset (f : Dir) (a : Nm) (x y : Option Nat) : dset (dset f a x) a y = dset f a y := by
  funext m; unfold dset; split <;> rfl
theorem dset_self (f : Dir) (a : Nm) {x : Option Nat} (h : f a = x) : dset f a x = f := by
  funext m; unfold dset; split
  · rename_i hh; rw [hh, h]
  · rfl
theorem Bes.used (h : Bes D E sd k g) (ok : DkOk D N) : usedBut E none ≤ usedBut D none + g.data.length := by
  cases hs : D.seen sd with
  | none =>
    have := used_new ok hs h.seen h.files
    omega
  | some j =>
    have hG : Good D.files.length (dset D.seen sd none) := Good.del ok.seen sd
    have ok2 : DkOk { D with acts := D.acts ++ [.rm sd] } (N + 1) := ok.push hG
    have h2 : ({ D with acts := D.acts ++ [.rm sd] } : Dk).seen = dset D.seen sd none := seen_push D (.rm sd)
    have h3 : ({ D with acts := D.acts ++ [.rm sd] } : Dk).seen sd = none := by rw [h2]; unfold dset; rw [if_pos rfl]
    have h4 := used_new (D' := E) ok2 h3 (by rw [h2, dset_dset]; exact h.seen) h.files
    have h5 := used_del (D' := { D with acts := D.acts ++ [.rm sd] }) ok sd h2 rfl
    omega
theorem make_quiet (q : Quiet D) (ok : DkOk D N) (hn : okName sd = true) (h0 : D.seen sd = none) (hl : (names D.seen).length < 16) :
    (callMake D sd).2.1 = 0 ∧ Bes D (callMake D sd).1 sd 1 ⟨[], 0, 0⟩ := by
  have hok := ok_callMake ok sd
  have hf : Dsk.find { D with steps := D.steps + 1 } sd = (none, 162) := by
    rw [find_steps]; unfold Dsk.find; rw [if_neg (by rw [hn]; simp), h0]
  have e : callMake D sd = ({ D with steps := D.steps + 1, files := D.files ++ [⟨[], 0, 0⟩], acts := D.acts ++ [.mk sd D.files.length] }, 0, ()) := by
    unfold callMake
    rw [step_quiet q]
    unfold u mkR
    rw [hf]
    dsimp only
    have hl' : ¬ 16 ≤ (names ({ D with steps := D.steps + 1 } : Dk).seen).length := by show ¬ 16 ≤ (names D.seen).length; omega
    rw [if_neg (by decide), if_neg (by decide), if_neg hl']
  rw [e] at hok ⊢
  exact ⟨rfl, ⟨q.up, q.plan⟩, rfl, rfl, seen_push D (.mk sd D.files.length), rfl, rfl, ⟨_, hok⟩, ⟨_, rfl⟩⟩
theorem remove_quiet (q : Quiet D) (hn : okName sd = true) {i : Nat} (h0 : D.seen sd = some i) : callRemove D sd = ({ D with steps := D.steps + 1, acts := D.acts ++ [.rm sd] }, 0, ()) := by
  have hf : Dsk.find { D with steps := D.steps + 1 } sd = (some i, 0) := by
    rw [find_steps]; unfold Dsk.find; rw [if_neg (by rw [hn]; simp), h0]
  unfold callRemove
  rw [step_quiet q]
  unfold u rmR
  rw [hf]
theorem make_there (q : Quiet D) (hn : okName sd = true) {i : Nat} (h0 : D.seen sd = some i) : callMake D sd = ({ D with steps := D.steps + 1 }, 163, ()) := by
  have hf : Dsk.find { D with steps := D.steps + 1 } sd = (some i, 0) := by
    rw [find_steps]; unfold Dsk.find; rw [if_neg (by rw [hn]; simp), h0]
  unfold callMake
  rw [step_quiet q]
  unfold u mkR
  rw [hf]
  rfl
theorem begin_quiet (q : Quiet D) (ok : DkOk D N) (hn : okName sd = true) (hl : D.seen sd = none → (names D.seen).length < 16) :
    (beginP D sd).2 = 0 ∧ Bes D (beginP D sd).1 sd (if D.seen sd = none then 1 else 3) ⟨[], 0, 0⟩ := by
  cases h0 : D.seen sd with
  | none =>
    obtain ⟨h1, h2⟩ := make_quiet q ok hn h0 (hl h0)
    have e : beginP D sd = ((callMake D sd).1, (callMake D sd).2.1) := by
      unfold beginP
      dsimp only
      rw [h1, if_neg (by decide)]
    rw [e, if_pos rfl]
    exact ⟨h1, h2⟩
  | some i =>
    have e1 := make_there q hn h0
    have q1 : Quiet { D with steps := D.steps + 1 } := ⟨q.up, q.plan⟩
    have e2 : callRemove { D with steps := D.steps + 1 } sd = ({ D with steps := D.steps + 1 + 1, acts := D.acts ++ [.rm sd] }, 0, ()) := remove_quiet q1 hn h0
    have hG : Good D.files.length (dset D.seen sd none) := Good.del ok.seen sd
    have ok1 := ok_st (ok_st ok)
    have hs2 : ({ D with steps := D.steps + 1 + 1, acts := D.acts ++ [.rm sd] } : Dk).seen = dset D.seen sd none := seen_push D (.rm sd)
    have ok2 : DkOk { D with steps := D.steps + 1 + 1, acts := D.acts ++ [.rm sd] } (N + 2 + 1) := ok1.push (a := .rm sd) hG
    have q2 : Quiet { D with steps := D.steps + 1 + 1, acts := D.acts ++ [.rm sd] } := ⟨q.up, q.plan⟩
    have h3 : ({ D with steps := D.steps + 1 + 1, acts := D.acts ++ [.rm sd] } : Dk).seen sd = none := by rw [hs2]; unfold dset; rw [if_pos rfl]
    have hl2 : (names ({ D with steps := D.steps + 1 + 1, acts := D.acts ++ [.rm sd] } : Dk).seen).length < 16 := by
      obtain ⟨l1, l2⟩ := ok.seen.names
      rw [hs2, names_len (lists_del l1 sd)]
      have := filter_lt (l := names D.seen) (a := sd) ((l1.2 sd).2 (by rw [h0]; rfl))
      omega
    obtain ⟨h4, h5⟩ := make_quiet q2 ok2 hn h3 hl2
    have e : beginP D sd = ((callMake { D with steps := D.steps + 1 + 1, acts := D.acts ++ [.rm sd] } sd).1, (callMake { D with steps := D.steps + 1 + 1, acts := D.acts ++ [.rm sd] } sd).2.1) := by
      unfold beginP
      dsimp only
      rw [e1]
      dsimp only
      rw [if_pos rfl, e2]
      dsimp only
      rw [if_pos rfl]
    rw [e]
    refine ⟨h4, h5.q, h5.files, h5.lasts, ?_, ?_, h5.space, h5.ok, ?_⟩
    · rw [h5.seen, hs2, dset_dset]
    · rw [h5.steps, if_neg (by simp)]; show D.steps + 1 + 1 + 1 = _; omega
    · obtain ⟨as_, ha⟩ := h5.acts
      exact ⟨.rm sd :: as_, by rw [ha]; show (D.acts ++ [.rm sd]) ++ as_ = _; simp⟩
theorem append_bes (h : Bes D E sd k g) (ok : DkOk D N) (hn : okName sd = true) {b : List UInt8} (hb : b ≠ []) (hr : usedBut D none + g.data.length + b.length ≤ D.space) :
    (callAppend E sd b).2.1 = 0 ∧ Bes D (callAppend E sd b).1 sd (k + 1) ⟨g.data ++ b, g.synced, g.count + 1⟩ := by
  obtain ⟨M, okE⟩ := h.ok
  have hok := ok_callAppend okE sd b
  have hu := h.used ok
  have hu2 := okE.used none
  have hbl : 0 < b.length := List.length_pos_iff.2 hb
  have hroom : ¬ room { E with steps := E.steps + 1 } < (b.length : Int) := by
    have : room { E with steps := E.steps + 1 } = room E := rfl
    rw [this]
    unfold room
    rw [h.space]; omega
  have hf : Dsk.find { E with steps := E.steps + 1 } sd = (some D.files.length, 0) := by rw [find_steps]; exact h.find hn
  have e : callAppend E sd b = ({ E with steps := E.steps + 1, files := put1 E.files D.files.length fun f => ⟨f.data ++ b, f.synced, f.count + 1⟩ }, 0, (if E.down = true then 0 else (b.length : Int))) := by
    unfold callAppend
    rw [step_quiet h.q]
    unfold apR
    rw [hf]
    dsimp only
    rw [if_neg hroom, if_neg (by omega)]
    have ht : b.take (Int.toNat (b.length : Int)) = b := by rw [Int.toNat_natCast, List.take_length]
    rw [ht]
    have hpos : ((b.length : Int) > 0) := by omega
    simp only [if_pos hpos]
  rw [e] at hok ⊢
  refine ⟨rfl, ⟨h.q.up, h.q.plan⟩, ?_, h.lasts, h.seen, ?_, h.space, ⟨_, hok⟩, h.acts⟩
  · show put1 E.files _ _ = _
    rw [put1_eq h.at_, h.files]
    simp
  · show E.steps + 1 = _; rw [h.steps]; omega
theorem fill_quiet : ∀ (m : Nat) (T : List UInt8), T.length ≤ m → ∀ {E : Dk} {k : Int} {g : Fl}, Bes D E sd k g → DkOk D N → okName sd = true → usedBut D none + g.data.length + T.length ≤ D.space →
    (fillA sd T E).2 = 0 ∧ ∃ c, Bes D (fillA sd T E).1 sd (k + ((T.length + 1023) / 1024 : Nat)) ⟨g.data ++ T, g.synced, c⟩
  | 0, T, hm, E, k, g, h, ok, hn, hr => by
    obtain rfl : T = [] := List.length_eq_zero_iff.1 (by omega)
    exact ⟨rfl, g.count, by rw [fillA_nil, List.append_nil]; simpa using h⟩
  | m + 1, T, hm, E, k, g, h, ok, hn, hr => by
    by_cases hT : T = []
    · subst hT
      exact ⟨rfl, g.count, by rw [fillA_nil, List.append_nil]; simpa using h⟩
    · have hpos : 0 < T.length := List.length_pos_iff.2 hT
      have hl : (T.take 1024).length ≤ T.length := by rw [List.length_take]; omega
      obtain ⟨h1, h2⟩ := append_bes h ok hn (b := T.take 1024) (fun hh => by have := congrArg List.length hh; rw [List.length_take, List.length_nil] at this; omega) (by omega)
      have hlen : (T.take 1024).length + (T.drop 1024).length = T.length := by rw [List.length_take, List.length_drop]; omega
      obtain ⟨h3, c, h4⟩ := fill_quiet m (T.drop 1024) (by rw [List.length_drop]; omega) h2 ok hn (by simp only [List.length_append]; omega)
      rw [fillA_cons hT, if_pos h1]
      refine ⟨h3, c, ?_⟩
      have e1 : (g.data ++ T.take 1024) ++ T.drop 1024 = g.data ++ T := by rw [List.append_assoc, List.take_append_drop]
      have e2 : k + 1 + (((T.drop 1024).length + 1023) / 1024 : Nat) = k + ((T.length + 1023) / 1024 : Nat) := by
        rw [List.length_drop]; omega
      dsimp only at h4
      rw [e1, e2] at h4
      exact h4
theorem sync_bes (h : Bes D E sd k g) (hn : okName sd = true) : (callSync E sd).2.1 = 0 ∧ Bes D (callSync E sd).1 sd (k + 1) ⟨g.data, g.data.length, g.count⟩ := by
  obtain ⟨M, okE⟩ := h.ok
  have hok := ok_callSync okE sd
  have hf : Dsk.find { E with steps := E.steps + 1 } sd = (some D.files.length, 0) := by rw [find_steps]; exact h.find hn
  have e : callSync E sd = ({ E with steps := E.steps + 1, files := put1 E.files D.files.length fun f => ⟨f.data, f.data.length, f.count⟩ }, 0, ()) := by
    unfold callSync
    rw [step_quiet h.q]
    unfold u syR
    rw [hf]
  rw [e] at hok ⊢
  refine ⟨rfl, ⟨h.q.up, h.q.plan⟩, ?_, h.lasts, h.seen, ?_, h.space, ⟨_, hok⟩, h.acts⟩
  · show put1 E.files _ _ = _
    rw [put1_eq h.at_, h.files]
    simp
  · show E.steps + 1 = _; rw [h.steps]; omega
theorem stamp_bes (h : Bes D E sd k g) (hn : okName sd = true) : (callStamp E sd).2.1 = 0 ∧ (callStamp E sd).2.2 = ((D.files.length : Int) + 1, (g.data.length : Int), g.count) ∧ Bes D (callStamp E sd).1 sd (k + 1) g := by
  obtain ⟨M, okE⟩ := h.ok
  have hok := ok_callStamp okE sd
  have e := stamp_quiet h.q hn (i := D.files.length) (by rw [h.seen]; unfold dset; rw [if_pos rfl])
  rw [h.fl] at e
  rw [e] at hok ⊢
  exact ⟨rfl, rfl, ⟨h.q.up, h.q.plan⟩, h.files, h.lasts, h.seen, by show E.steps + 1 = _; rw [h.steps]; omega, h.space, ⟨_, hok⟩, h.acts⟩
structure Put (D E : Dk) (n : Nm) (k : Int) (g : Fl) : Prop where
  q : Quiet E
  files : E.files = D.files ++ [g]
  seen : E.seen = dset (dset D.seen (side n) none) n (some D.files.length)
  steps : E.steps = D.steps + k
  space : E.space = D.space
  ok : ∃ M, DkOk E M
theorem rename_bes (h : Bes D E (side n) k g) (hn : okName n = true) (hs : okName (side n) = true) : (callRename E (side n) n).2.1 = 0 ∧ Put D (callRename E (side n) n).1 n (k + 1) g ∧ (callRename E (side n) n).1.lasts = D.lasts := by
  obtain ⟨M, okE⟩ := h.ok
  have hok := ok_callRename okE (side n) n
  have hf : Dsk.find { E with steps := E.steps + 1 } (side n) = (some D.files.length, 0) := by rw [find_steps]; exact h.find hs
  have e : callRename E (side n) n = ({ E with steps := E.steps + 1, acts := E.acts ++ [.mv (side n) n D.files.length] }, 0, ()) := by
    unfold callRename
    rw [step_quiet h.q]
    unfold u mvR
    rw [if_neg (by rw [hn]; simp), hf]
    dsimp only
    rw [if_neg (side_ne n)]
  rw [e] at hok ⊢
  refine ⟨rfl, ⟨⟨h.q.up, h.q.plan⟩, h.files, ?_, ?_, h.space, ⟨_, hok⟩⟩, h.lasts⟩
  · have := seen_push { E with steps := E.steps + 1 } (.mv (side n) n D.files.length)
    show onAll (E.acts ++ [.mv (side n) n D.files.length]) E.lasts = _
    have h2 : onAll (E.acts ++ [.mv (side n) n D.files.length]) E.lasts = dset (dset E.seen (side n) none) n (some D.files.length) := this
    rw [h2, h.seen, dset_dset]
  · show E.steps + 1 = _; rw [h.steps]; omega
theorem repl_quiet (q : Quiet D) (ok : DkOk D N) (hu : userName n = true) (hl : D.seen (side n) = none → (names D.seen).length < 16) (hr : usedBut D none + T.length ≤ D.space) (t : Stm) :
    ∃ c, (replP D n T t).2 = (0, (D.files.length : Int) + 1, (T.length : Int), c) ∧ Put D (replP D n T t).1 n ((if D.seen (side n) = none then 4 else 6) + ((T.length + 1023) / 1024 : Nat)) ⟨T, T.length, c⟩ := by
  obtain ⟨hn, hs⟩ := side_ok hu
  obtain ⟨b1, b2⟩ := begin_quiet q ok hs hl
  obtain ⟨f1, c, f2⟩ := fill_quiet T.length T (Nat.le_refl _) b2 ok hs (by simpa using hr)
  rw [List.nil_append] at f2
  obtain ⟨s1, s2⟩ := sync_bes f2 hs
  obtain ⟨t1, t2, t3⟩ := stamp_bes s2 hs
  obtain ⟨r1, r2, _⟩ := rename_bes t3 hn hs
  have e := replP_5 (t := t) b1 f1 s1 t1
  rw [t2, r1] at e
  unfold clean at e
  rw [if_pos rfl] at e
  rw [e]
  refine ⟨c, rfl, ?_⟩
  have hk : ((if D.seen (side n) = none then 1 else 3) + ((T.length + 1023) / 1024 : Nat) + 1 + 1 + 1 : Int) = (if D.seen (side n) = none then 4 else 6) + ((T.length + 1023) / 1024 : Nat) := by split <;> omega
  rw [hk] at r2
  exact r2
theorem syncdir_put (h : Put D E n k g) : (callSyncDir E).2.1 = 0 ∧ Put D (callSyncDir E).1 n (k + 1) g ∧ (callSyncDir E).1.acts = [] ∧ (callSyncDir E).1.lasts = E.seen := by
  obtain ⟨M, okE⟩ := h.ok
  have hok := ok_callSyncDir okE
  have e := syncdir_quiet h.q
  rw [e] at hok ⊢
  refine ⟨rfl, ⟨⟨h.q.up, h.q.plan⟩, h.files, ?_, ?_, h.space, ⟨_, hok⟩⟩, rfl, rfl⟩
  · show onAll [] (Dk.seen { E with steps := E.steps + 1 }) = _
    exact h.seen
  · show E.steps + 1 = _; rw [h.steps]; omega
theorem write_quiet (q : Quiet D) (ok : DkOk D N) (hu : userName n = true) (hl : D.seen (side n) = none → (names D.seen).length < 16) (hr : usedBut D none + T.length ≤ D.space) (t kn : Stm) :
    ∃ c, (writeP D n T t kn).2 = (0, ((D.files.length : Int) + 1, (T.length : Int), c), ((D.files.length : Int) + 1, (T.length : Int), c)) ∧ Put D (writeP D n T t kn).1 n ((if D.seen (side n) = none then 5 else 7) + ((T.length + 1023) / 1024 : Nat)) ⟨T, T.length, c⟩ ∧ (writeP D n T t kn).1.acts = [] ∧ (writeP D n T t kn).1.lasts = (writeP D n T t kn).1.seen := by
  obtain ⟨c, h1, h2⟩ := repl_quiet q ok hu hl hr t
  obtain ⟨s1, s2, s3, s4⟩ := syncdir_put h2
  have e : writeP D n T t kn = ((callSyncDir (replP D n T t).1).1, (callSyncDir (replP D n T t).1).2.1, (replP D n T t).2.2, (replP D n T t).2.2) := by
    unfold writeP
    dsimp only
    rw [if_neg (by rw [h1]; simp)]
  rw [e, s1, h1]
  refine ⟨c, rfl, ?_, s3, ?_⟩
  · have hk : ((if D.seen (side n) = none then 4 else 6) + ((T.length + 1023) / 1024 : Nat) + 1 : Int) = (if D.seen (side n) = none then 5 else 7) + ((T.length + 1023) / 1024 : Nat) := by split <;> omega
    rw [hk] at s2
    exact s2
  · show (callSyncDir (replP D n T t).1).1.lasts = (callSyncDir (replP D n T t).1).1.seen
    rw [s4, s2.seen, h2.seen]
end
end Dq
end Go.Proofs.YtmooldhpiopcgaaGreatDoor
set_option linter.unusedSimpArgs false
set_option linter.unusedVariables false
namespace Go.Proofs.YtmooldhpiopcgaaGreatDoor
namespace Dq
open Go Go.Vx Dsk
abbrev Vw := Nm → Option (List UInt8)
def vset (V : Vw) (n : Nm) (b : Option (List UInt8)) : Vw := fun m => if m = n then b else V m
structure Sol (D : Dk) (V : Vw) : Prop where
  q : Quiet D
  acts : D.acts = []
  view : ∀ m, (D.seen m).map (fun i => (fl D i).data) = V m
  dry : ∀ m i, D.seen m = some i → (fl D i).synced = (fl D i).data.length
section
variable {D E : Dk} {N M : Nat} {n : Nm} {k : Int} {g : Fl} {T b : List UInt8} {V : Vw}
theorem Sol.st (h : Sol D V) (k : Int) : Sol { D with steps := k } V := ⟨⟨h.q.up, h.q.plan⟩, h.acts, h.view, h.dry⟩
theorem Sol.none_iff (h : Sol D V) {m : Nm} : D.seen m = none ↔ V m = none := by rw [← h.view m]; simp
theorem Sol.new (space : Int) : Sol (newD space) fun _ => none := ⟨⟨rfl, fun _ => rfl⟩, rfl, fun _ => rfl, fun m i h => by cases h⟩
theorem Sol.used (h : Sol D V) (ok : DkOk D N) {B : Nat} (hB : ∀ m b, V m = some b → b.length ≤ B) (o : Option Nat) : usedBut D o ≤ ((names D.seen).length : Int) * (B : Int) := by
  unfold usedBut
  have := sumZ_le (l := (names D.seen).map (weigh D o)) (B := (B : Int)) fun x hx => by
    obtain ⟨m, _, rfl⟩ := List.mem_map.1 hx
    unfold weigh
    have hv := h.view m
    cases hs : D.seen m with
    | none => dsimp only; omega
    | some i =>
      rw [hs] at hv
      have hb : (fl D i).data.length ≤ B := hB m _ hv.symm
      dsimp only
      split <;> omega
  rwa [List.length_map] at this
theorem put_sol (h : Sol D V) (ok : DkOk D N) (hn : okName n = true) (hl : V n = none → (names D.seen).length < 16) (hr : (b.length : Int) ≤ D.space - usedBut D (D.seen n)) :
    (putR D n b).2 = 0 ∧ Sol (putR D n b).1 (vset V n (some b)) ∧ (putR D n b).1.space = D.space ∧ (putR D n b).1.steps = D.steps ∧ (names (putR D n b).1.seen).length ≤ (names D.seen).length + 1 ∧ (V n ≠ none → (names (putR D n b).1.seen).length = (names D.seen).length) := by
  have hno : ¬ ((D.seen n = none ∧ 16 ≤ (names D.seen).length) ∨ (b.length : Int) > D.space - usedBut D (D.seen n)) := by
    rintro (⟨h1, h2⟩ | h2)
    · have := hl (h.none_iff.1 h1); omega
    · omega
  obtain ⟨l1, l2⟩ := ok.seen.names
  cases hs : D.seen n with
  | none =>
    have e : putR D n b = ({ D with lasts := dset D.seen n (some D.files.length), acts := [], files := D.files ++ [⟨b, b.length, 1⟩] }, 0) := by
      unfold putR
      rw [if_neg (by rw [h.q.up]; simp), if_neg (by rw [hn]; simp), if_neg hno, hs]
    obtain ⟨E, hE⟩ : ∃ E : Dk, E = { D with lasts := dset D.seen n (some D.files.length), acts := [], files := D.files ++ [⟨b, b.length, 1⟩] } := ⟨_, rfl⟩
    rw [← hE] at e
    rw [e]
    have hseen : E.seen = dset D.seen n (some D.files.length) := by rw [hE]; rfl
    have hfiles : E.files = D.files ++ [⟨b, b.length, 1⟩] := by rw [hE]
    have hfn : fl E D.files.length = ⟨b, b.length, 1⟩ := by
      unfold fl; rw [hfiles, List.getD_eq_getElem?_getD]; simp
    have hfo : ∀ i, i < D.files.length → fl E i = fl D i := fun i hi => by
      unfold fl; rw [hfiles, List.getD_eq_getElem?_getD, List.getD_eq_getElem?_getD, List.getElem?_append_left hi]
    refine ⟨rfl, ⟨by rw [hE]; exact ⟨h.q.up, h.q.plan⟩, by rw [hE], fun m => ?_, fun m i hi => ?_⟩, by rw [hE], by rw [hE], ?_, fun hh => absurd (h.none_iff.1 hs) hh⟩
    · dsimp only
      rw [hseen]; unfold dset vset
      split
      · rw [Option.map_some, hfn]
      · rw [← h.view m]
        cases hm : D.seen m with
        | none => rfl
        | some i => rw [Option.map_some, Option.map_some, hfo i (ok.seen.ids m i hm)]
    · dsimp only at hi ⊢
      rw [hseen] at hi; unfold dset at hi
      split at hi
      · cases hi; rw [hfn]
      · rw [hfo i (ok.seen.ids m i hi)]; exact h.dry m i hi
    · dsimp only
      rw [hseen, names_len (lists_new l1 hs)]; simp
  | some i =>
    have e : putR D n b = ({ Dsk.settle D with files := put1 D.files i fun f => ⟨b, b.length, f.count + 1⟩ }, 0) := by
      unfold putR
      rw [if_neg (by rw [h.q.up]; simp), if_neg (by rw [hn]; simp), if_neg hno, hs]
    obtain ⟨g, hg, hfl⟩ := seen_get ok hs
    obtain ⟨E, hE⟩ : ∃ E : Dk, E = { Dsk.settle D with files := put1 D.files i fun f => ⟨b, b.length, f.count + 1⟩ } := ⟨_, rfl⟩
    rw [← hE] at e
    rw [e]
    have hseen : E.seen = D.seen := by rw [hE]; rfl
    have hf2 : ∀ j, fl E j = if j = i then ⟨b, b.length, g.count + 1⟩ else fl D j := fun j => by rw [hE]; exact fl_put1 hg _ j
    refine ⟨rfl, ⟨by rw [hE]; exact ⟨h.q.up, h.q.plan⟩, by rw [hE]; rfl, fun m => ?_, fun m j hj => ?_⟩, by rw [hE]; rfl, by rw [hE]; rfl, ?_, fun _ => by dsimp only; rw [hseen]⟩
    · dsimp only
      rw [hseen]; unfold vset
      split
      · rename_i hm; rw [hm, hs, Option.map_some, hf2, if_pos rfl]
      · rename_i hm
        rw [← h.view m]
        cases hsm : D.seen m with
        | none => rfl
        | some j =>
          have : j ≠ i := fun hh => hm (ok.seen.inj m n i (by rw [hsm, hh]) hs)
          rw [Option.map_some, Option.map_some, hf2, if_neg this]
    · dsimp only at hj ⊢
      rw [hseen] at hj
      rw [hf2]
      split
      · rfl
      · exact h.dry m j hj
    · dsimp only; rw [hseen]; exact Nat.le_succ _
def stampOf (D : Dk) (n : Nm) : Stm := match D.seen n with | some i => ((i : Int) + 1, ((fl D i).data.length : Int), (fl D i).count) | none => (0, 0, 0)
theorem stamp_q (q : Quiet D) (hn : okName n = true) : callStamp D n = ({ D with steps := D.steps + 1 }, (if D.seen n = none then 162 else 0), stampOf D n) := by
  unfold stampOf
  cases hs : D.seen n with
  | some i => rw [stamp_quiet q hn hs, if_neg (by simp)]
  | none =>
    have hf : Dsk.find { D with steps := D.steps + 1 } n = (none, 162) := by
      rw [find_steps]; unfold Dsk.find; rw [if_neg (by rw [hn]; simp), hs]
    unfold callStamp
    rw [step_quiet q]
    unfold stR
    rw [hf]
    rfl
theorem read_q (q : Quiet D) (hn : okName n = true) : callRead D n = ({ D with steps := D.steps + 1 }, (if D.seen n = none then 162 else 0), ((D.seen n).map fun i => (fl D i).data).getD []) := by
  cases hs : D.seen n with
  | some i => rw [read_quiet q hn hs, if_neg (by simp)]; rfl
  | none =>
    have hf : Dsk.find { D with steps := D.steps + 1 } n = (none, 162) := by
      rw [find_steps]; unfold Dsk.find; rw [if_neg (by rw [hn]; simp), hs]
    unfold callRead
    rw [step_quiet q]
    unfold rdR
    rw [hf]
    rfl
theorem Put.sol {c : Int} (h : Put D E n k ⟨T, T.length, c⟩) (hS : Sol D V) (ok : DkOk D N) (hv : V (side n) = none) (ha : E.acts = []) : Sol E (vset V n (some T)) := by
  have h0 : D.seen (side n) = none := hS.none_iff.2 hv
  have hs : E.seen = dset D.seen n (some D.files.length) := by rw [h.seen, dset_self _ _ h0]
  have hfn : fl E D.files.length = ⟨T, T.length, c⟩ := by unfold fl; rw [h.files, List.getD_eq_getElem?_getD]; simp
  have hfo : ∀ i, i < D.files.length → fl E i = fl D i := fun i hi => by unfold fl; rw [h.files, List.getD_eq_getElem?_getD, List.getD_eq_getElem?_getD, List.getElem?_append_left hi]
  refine ⟨h.q, ha, fun m => ?_, fun m i hi => ?_⟩
  · rw [hs]; unfold dset vset
    split
    · rw [Option.map_some, hfn]
    · rw [← hS.view m]
      cases hm : D.seen m with
      | none => rfl
      | some i => rw [Option.map_some, Option.map_some, hfo i (ok.seen.ids m i hm)]
  · rw [hs] at hi; unfold dset at hi
    split at hi
    · cases hi; rw [hfn]
    · rw [hfo i (ok.seen.ids m i hi)]; exact hS.dry m i hi
end
end Dq
end Go.Proofs.YtmooldhpiopcgaaGreatDoor
set_option linter.unusedSimpArgs false
set_option linter.unusedVariables false
namespace Go.Proofs.YtmooldhpiopcgaaGreatDoor
namespace Dq
open Go Go.Vx Dsk
section
variable {D E : Dk} {N M : Nat} {n : Nm} {k : Int} {g : Fl} {T b : List UInt8} {V : Vw} {X : Fil} {force : Bool}
theorem Put.later (h : Put { D with steps := D.steps + 1 } E n k g) : Put D E n (k + 1) g := ⟨h.q, h.files, h.seen, by rw [h.steps]; show D.steps + 1 + k = _; omega, h.space, h.ok⟩
def knownAt (D : Dk) (X : Fil) : Stm := if D.seen X.name ≠ none ∧ stampOf D X.name = X.tried then stampOf D X.name else X.known
theorem save_eq (q : Quiet D) (hn : okName X.name = true) : saveP D X b force =
    if force = false ∧ stampOf D X.name ≠ knownAt D X then ({ D with steps := D.steps + 1 }, 170, { X with known := knownAt D X }) else
    ((writeP { D with steps := D.steps + 1 } X.name (X.mark ++ b) X.tried (knownAt D X)).1, (writeP { D with steps := D.steps + 1 } X.name (X.mark ++ b) X.tried (knownAt D X)).2.1,
      { X with tried := (writeP { D with steps := D.steps + 1 } X.name (X.mark ++ b) X.tried (knownAt D X)).2.2.1, known := (writeP { D with steps := D.steps + 1 } X.name (X.mark ++ b) X.tried (knownAt D X)).2.2.2 }) := by
  unfold saveP
  rw [stamp_q q hn]
  dsimp only
  have h1 : ¬ ((if D.seen X.name = none then (162 : Int) else 0) ≠ 0 ∧ (if D.seen X.name = none then (162 : Int) else 0) ≠ 162) := by split <;> simp
  have h2 : (if (if D.seen X.name = none then (162 : Int) else 0) = 0 ∧ stampOf D X.name = X.tried then stampOf D X.name else X.known) = knownAt D X := by
    unfold knownAt
    by_cases h : D.seen X.name = none <;> simp [h]
  rw [if_neg h1, h2]
theorem save_quiet (q : Quiet D) (ok : DkOk D N) (hu : userName X.name = true) (hl : D.seen (side X.name) = none → (names D.seen).length < 16) (hr : usedBut D none + (X.mark ++ b).length ≤ D.space) (hk : force = true ∨ stampOf D X.name = knownAt D X) :
    ∃ c, (saveP D X b force).2 = (0, { X with tried := ((D.files.length : Int) + 1, ((X.mark ++ b).length : Int), c), known := ((D.files.length : Int) + 1, ((X.mark ++ b).length : Int), c) }) ∧
      Put D (saveP D X b force).1 X.name ((if D.seen (side X.name) = none then 6 else 8) + (((X.mark ++ b).length + 1023) / 1024 : Nat)) ⟨X.mark ++ b, (X.mark ++ b).length, c⟩ ∧ (saveP D X b force).1.acts = [] ∧ (saveP D X b force).1.lasts = (saveP D X b force).1.seen := by
  obtain ⟨hn, _⟩ := side_ok hu
  have q1 : Quiet { D with steps := D.steps + 1 } := ⟨q.up, q.plan⟩
  obtain ⟨c, h1, h2, h3, h4⟩ := write_quiet (T := X.mark ++ b) q1 (ok_st ok) hu hl hr X.tried (knownAt D X)
  have e := save_eq (b := b) (force := force) q hn
  rw [if_neg (by rintro ⟨hf, hh⟩; rcases hk with hk | hk; rw [hk] at hf; cases hf; exact hh hk)] at e
  rw [e, h1]
  refine ⟨c, rfl, ?_, h3, h4⟩
  have := h2.later
  have hk : ((if D.seen (side X.name) = none then 5 else 7) + (((X.mark ++ b).length + 1023) / 1024 : Nat) + 1 : Int) = (if D.seen (side X.name) = none then 6 else 8) + (((X.mark ++ b).length + 1023) / 1024 : Nat) := by split <;> omega
  rw [← hk]
  exact this
theorem open_new {g : List UInt8 → Int} {enc limit : Int} (q : Quiet D) (hu : userName n = true) (he : 0 ≤ enc ∧ enc ≤ 4) (hl : 0 ≤ limit ∧ limit ≤ 65536) (h : D.seen n = none) :
    openP g D n enc limit = ({ D with steps := D.steps + 1 }, 0, some ⟨n, [], (0, 0, 0), (0, 0, 0)⟩, ⟨if 1 > enc then 1 else enc, 0, [], true⟩) := by
  obtain ⟨hn, _⟩ := side_ok hu
  unfold openP
  rw [if_neg (by rw [hu]; simp), if_neg (by omega), if_neg (by omega), stamp_q q hn, if_pos h]
  rfl
theorem open_old {g : List UInt8 → Int} {enc limit : Int} (q : Quiet D) (hu : userName n = true) (he : 0 ≤ enc ∧ enc ≤ 4) (hl : 0 ≤ limit ∧ limit ≤ 65536) {i : Nat} (h : D.seen n = some i) {b : List UInt8} (hb : (fl D i).data = b) (hf : (b.length : Int) - (encK g enc b).2 ≤ limit) :
    openP g D n enc limit = ({ D with steps := D.steps + 1 + 1 }, 0, some ⟨n, b.take (encK g enc b).2.toNat, stampOf D n, (0, 0, 0)⟩, ⟨(encK g enc b).1, (encK g enc b).2, b.drop (encK g enc b).2.toNat, false⟩) := by
  obtain ⟨hn, _⟩ := side_ok hu
  have q1 : Quiet { D with steps := D.steps + 1 } := ⟨q.up, q.plan⟩
  have hs : ({ D with steps := D.steps + 1 } : Dk).seen n = some i := h
  have hr : callRead { D with steps := D.steps + 1 } n = ({ D with steps := D.steps + 1 + 1 }, 0, b) := by
    rw [read_q q1 hn, hs, if_neg (by simp)]
    show (_, _, (fl { D with steps := D.steps + 1 } i).data) = _
    have : (fl { D with steps := D.steps + 1 } i).data = b := hb
    rw [this]
  have hst : callStamp D n = ({ D with steps := D.steps + 1 }, 0, stampOf D n) := by rw [stamp_q q hn, if_neg (by rw [h]; simp)]
  unfold openP
  rw [if_neg (by rw [hu]; simp), if_neg (by omega), if_neg (by omega), hst]
  dsimp only
  rw [if_neg (show ¬ (0 : Int) = 162 by decide), if_neg (show ¬ (0 : Int) ≠ 0 by decide), hr]
  dsimp only
  rw [if_neg (show ¬ (0 : Int) ≠ 0 by decide), if_neg (by omega)]
end
end Dq
end Go.Proofs.YtmooldhpiopcgaaGreatDoor
set_option linter.unusedSimpArgs false
set_option linter.unusedVariables false
set_option maxRecDepth 100000
set_option linter.unusedVariables false
namespace Go.Proofs.YtmooldhpiopcgaaGreatDoor
open Go Go.Vx
noncomputable def F4 (a0 : (Sl × ByteArray × Int × Sl × Unit)) (K : Bool → World → Prop) : World → Prop :=
 newO (.cells #[(.slice a0.1.a a0.1.len a0.1.cap), (.string a0.2.1), (.int .i64 a0.2.2.1), (.slice a0.2.2.2.1.a a0.2.2.2.1.len a0.2.2.2.1.cap)] 39) fun b1 =>
 callT Tryz.prog 14 #[] (.one (.one .bool)) fun (x2 : Bool) =>
 sif (!x2) (
 K false) (
 lds c39 (at0 b1) fun (x3 : (Sl × ByteArray × Int × Sl × Unit)) =>
 callT Tryz.prog 20 #[(.agg (Cells.vals c39 x3).toArray)] (.one (.one .bool)) fun (x4 : Bool) =>
 sif (!x4) (
 K true) (
 lds c39 (at0 b1) fun (x5 : (Sl × ByteArray × Int × Sl × Unit)) =>
 callT Tryz.prog 21 #[(.agg (Cells.vals c39 x5).toArray)] (.tup [(.one .ptr), (.one .bool)]) fun (x6 : (Option Addr × Bool × Unit)) =>
 join (S := Bool × Unit) (fun J7 =>
 drew <|
 sif (!x6.2.1) (
 J7 (true, ())) (
 nn x6.1 fun p9 =>
 ld (.sl) ((p9.add 2).add 2) fun (x10 : Sl) =>
 nn x6.1 fun p11 =>
 ld (.sl) (p11.add 6) fun (x12 : Sl) =>
 callT Tryz.prog 23 #[(.pointer x6.1), (.slice x10.a x10.len x10.cap)] (.one (.one .sl)) fun (x13 : Sl) =>
 keep (fun w => w.cell? (p11.add 6) = some (Cell.val (.sl) x12)) <|
 callT Tryz.prog 22 #[(.slice x13.a x13.len x13.cap), (.slice x12.a x12.len x12.cap)] (.one (.one .bool)) fun (x14 : Bool) =>
 J7 ((!x14), ()))) fun (s8 : Bool × Unit) =>
 sif s8.1 (
 K false) (
 nn x6.1 fun p15 =>
 ld (.sl) (p15.add 6) fun (x16 : Sl) =>
 callT Tryz.prog 24 #[(.slice x16.a x16.len x16.cap)] (.tup [(.one (.int .i64)), (.one (.int .i64))]) fun (x17 : (Int × Int × Unit)) =>
 join (S := Bool × Unit) (fun J18 =>
 drew <|
 ld (.int .i64) (⟨b1, 2, none⟩ : Addr) fun (x20 : Int) =>
 sif (x20 != (0 : Int)) (
 nn x6.1 fun p21 =>
 ld (.int .i64) (p21.add 2) fun (x22 : Int) =>
 ld (.int .i64) (⟨b1, 2, none⟩ : Addr) fun (x23 : Int) =>
 sif (x22 != x23) (
 J18 (true, ())) (
 ld (.int .i64) (⟨b1, 2, none⟩ : Addr) fun (x24 : Int) =>
 sif (x24 == (0 : Int)) (
 sif (x17.1 != (0 : Int)) (
 nn x6.1 fun p25 =>
 ld (.int .i64) (p25.add 2) fun (x26 : Int) =>
 sif (x26 != x17.1) (
 J18 (true, ())) (
 nn x6.1 fun p27 =>
 ld (.int .i64) ((p27.add 2).add 1) fun (x28 : Int) =>
 J18 ((x28 != x17.2.1), ()))) (
 J18 (false, ()))) (
 J18 (false, ())))) (
 ld (.int .i64) (⟨b1, 2, none⟩ : Addr) fun (x29 : Int) =>
 sif (x29 == (0 : Int)) (
 sif (x17.1 != (0 : Int)) (
 nn x6.1 fun p30 =>
 ld (.int .i64) (p30.add 2) fun (x31 : Int) =>
 sif (x31 != x17.1) (
 J18 (true, ())) (
 nn x6.1 fun p32 =>
 ld (.int .i64) ((p32.add 2).add 1) fun (x33 : Int) =>
 J18 ((x33 != x17.2.1), ()))) (
 J18 (false, ()))) (
 J18 (false, ())))) fun (s19 : Bool × Unit) =>
 sif s19.1 (
 K false) (
 nn x6.1 fun p34 =>
 ld (.int .i64) (p34.add 2) fun (x35 : Int) =>
 callT Tryz.prog 25 #[(.int .i64 x35)] (.one (.one .sl)) fun (x36 : Sl) =>
 join (S := Bool × Unit) (fun J37 =>
 drew <|
 nn x6.1 fun p39 =>
 ld (.int .i64) ((p39.add 2).add 1) fun (x40 : Int) =>
 sif (x40 != (0 : Int)) (
 nn x6.1 fun p41 =>
 ld (.int .i64) ((p41.add 2).add 1) fun (x42 : Int) =>
 sif (x42 != ((x36.len : Nat) : Int)) (
 J37 (true, ())) (
 sif (decide (((x36.len : Nat) : Int) > (0 : Int))) (
 nn x6.1 fun p43 =>
 ld (.int .i64) ((p43.add 2).add 1) fun (x44 : Int) =>
 nn x6.1 fun p45 =>
 ld (.sl) (p45.add 6) fun (x46 : Sl) =>
 sif (decide (((x46.len : Nat) : Int) ≥ ((x36.len : Nat) : Int))) (
 nn x6.1 fun p47 =>
 ld (.sl) (p47.add 6) fun (x48 : Sl) =>
 slc x48.a 0 ((x36.len : Nat) : Int) ((x48.cap : Nat) : Int) x48.cap 1 fun x49 =>
 callT Tryz.prog 22 #[(.slice x49.a x49.len x49.cap), (.slice x36.a x36.len x36.cap)] (.one (.one .bool)) fun (x50 : Bool) =>
 keep (fun w => w.cell? ((p43.add 2).add 1) = some (Cell.val (.int .i64) x44)) <|
 rdB Tryz.prog (do eqGuard .neq 4 (Operand.tmp 121) (Operand.tmp 140) (.bool (x44 == ((x36.len : Nat) : Int))) (.bool x50); binOp .neq 4 (.bool (x44 == ((x36.len : Nat) : Int))) (.bool x50) : Sem Value) fun r51 =>
 J37 (r51, ())) (
 rdB Tryz.prog (do eqGuard .neq 4 (Operand.tmp 121) (Operand.tmp 140) (.bool (x44 == ((x36.len : Nat) : Int))) (.bool false); binOp .neq 4 (.bool (x44 == ((x36.len : Nat) : Int))) (.bool false) : Sem Value) fun r52 =>
 J37 (r52, ()))) (
 J37 (false, ())))) (
 sif (decide (((x36.len : Nat) : Int) > (0 : Int))) (
 nn x6.1 fun p53 =>
 ld (.int .i64) ((p53.add 2).add 1) fun (x54 : Int) =>
 nn x6.1 fun p55 =>
 ld (.sl) (p55.add 6) fun (x56 : Sl) =>
 sif (decide (((x56.len : Nat) : Int) ≥ ((x36.len : Nat) : Int))) (
 nn x6.1 fun p57 =>
 ld (.sl) (p57.add 6) fun (x58 : Sl) =>
 slc x58.a 0 ((x36.len : Nat) : Int) ((x58.cap : Nat) : Int) x58.cap 1 fun x59 =>
 callT Tryz.prog 22 #[(.slice x59.a x59.len x59.cap), (.slice x36.a x36.len x36.cap)] (.one (.one .bool)) fun (x60 : Bool) =>
 keep (fun w => w.cell? ((p53.add 2).add 1) = some (Cell.val (.int .i64) x54)) <|
 rdB Tryz.prog (do eqGuard .neq 4 (Operand.tmp 121) (Operand.tmp 140) (.bool (x54 == ((x36.len : Nat) : Int))) (.bool x60); binOp .neq 4 (.bool (x54 == ((x36.len : Nat) : Int))) (.bool x60) : Sem Value) fun r61 =>
 J37 (r61, ())) (
 rdB Tryz.prog (do eqGuard .neq 4 (Operand.tmp 121) (Operand.tmp 140) (.bool (x54 == ((x36.len : Nat) : Int))) (.bool false); binOp .neq 4 (.bool (x54 == ((x36.len : Nat) : Int))) (.bool false) : Sem Value) fun r62 =>
 J37 (r62, ()))) (
 J37 (false, ())))) fun (s38 : Bool × Unit) =>
 sif s38.1 (
 K false) (
 join (S := Option Addr × Addr × Int × Unit) (fun J63 =>
 drew <|
 nn x6.1 fun p65 =>
 ld (.ptr) p65 fun (x66 : Option Addr) =>
 ld (.str) (⟨b1, 1, none⟩ : Addr) fun (x67 : ByteArray) =>
 ld (.int .i64) (⟨b1, 2, none⟩ : Addr) fun (x68 : Int) =>
 both (
 newO (.cells #[(.int .i64 (0 : Int)), (.int .i64 (0 : Int)), (.slice none 0 0), (.bool false)] 32) fun b69 =>
 keep (fun w => w.cell? (⟨b1, 2, none⟩ : Addr) = some (Cell.val (.int .i64) x68)) <|
 keep (fun w => w.cell? (⟨b1, 1, none⟩ : Addr) = some (Cell.val (.str) x67)) <|
 keep (fun w => w.cell? p65 = some (Cell.val (.ptr) x66)) <|
 callT Tryz.prog 18 #[(.pointer x66), (.string x67), (.int .i64 x68), (.int .i64 (65536 : Int))] (.tup [(.one .ptr), (.agg c32), (.one (.int .i64))]) fun (x70 : (Option Addr × (Int × Int × Sl × Bool × Unit) × Int × Unit)) =>
 aggSt (at0 b69) (.agg (Cells.vals c32 x70.2.1).toArray) 4 <|
 J63 (x70.1, (at0 b69), x70.2.2.1, ())) <|
 callT Tryz.prog 18 #[(.pointer x66), (.string x67), (.int .i64 x68), (.int .i64 (65536 : Int))] (.tup [(.one .ptr), (.agg c32), (.one (.int .i64))]) fun (x71 : (Option Addr × (Int × Int × Sl × Bool × Unit) × Int × Unit)) =>
 both (
 newO (.cells #[(.int .i64 (0 : Int)), (.int .i64 (0 : Int)), (.slice none 0 0), (.bool false)] 32) fun b72 =>
 keep (fun w => w.cell? (⟨b1, 2, none⟩ : Addr) = some (Cell.val (.int .i64) x68)) <|
 keep (fun w => w.cell? (⟨b1, 1, none⟩ : Addr) = some (Cell.val (.str) x67)) <|
 keep (fun w => w.cell? p65 = some (Cell.val (.ptr) x66)) <|
 aggSt (at0 b72) (.agg (Cells.vals c32 x71.2.1).toArray) 4 <|
 J63 (x71.1, (at0 b72), x71.2.2.1, ())) <|
 nothing) fun (s64 : Option Addr × Addr × Int × Unit) =>
 join (S := Bool × Unit) (fun J73 =>
 drew <|
 sif (Option.isNone s64.1) (
 J73 (true, ())) (
 sif (s64.2.2.1 != (0 : Int)) (
 J73 (true, ())) (
 ld (.int .i64) s64.2.1 fun (x75 : Int) =>
 nn x6.1 fun p76 =>
 ld (.int .i64) (p76.add 2) fun (x77 : Int) =>
 sif (x75 != x77) (
 J73 (true, ())) (
 ld (.int .i64) (s64.2.1.add 1) fun (x78 : Int) =>
 nn x6.1 fun p79 =>
 ld (.int .i64) ((p79.add 2).add 1) fun (x80 : Int) =>
 J73 ((x78 != x80), ()))))) fun (s74 : Bool × Unit) =>
 sif s74.1 (
 K false) (
 nn x6.1 fun p81 =>
 ld (.sl) ((p81.add 2).add 2) fun (x82 : Sl) =>
 callT Tryz.prog 26 #[(.pointer x6.1), (.slice x82.a x82.len x82.cap)] (.one (.one .ptr)) fun (x83 : Option Addr) =>
 join (S := Bool × Unit) (fun J84 =>
 sif (Option.isNone x83) (
 J84 (true, ())) (
 nn x6.1 fun p86 =>
 ld (.ptr) (p86.add 1) fun (x87 : Option Addr) =>
 callT Tryz.prog 27 #[(.pointer x87), (.pointer x83), (.bool false)] (.one (.one (.int .i64))) fun (x88 : Int) =>
 J84 ((x88 != (0 : Int)), ()))) fun (s85 : Bool × Unit) =>
 sif s85.1 (
 K false) (
 drew <|
 nn x6.1 fun p89 =>
 ld (.ptr) p89 fun (x90 : Option Addr) =>
 ld (.str) (⟨b1, 1, none⟩ : Addr) fun (x91 : ByteArray) =>
 nn x6.1 fun p92 =>
 ld (.sl) (p92.add 6) fun (x93 : Sl) =>
 callT Tryz.prog 28 #[(.pointer x90), (.string x91), (.slice x93.a x93.len x93.cap)] (.one (.one .bool)) fun (x94 : Bool) =>
 sif x94 (
 lds c39 (at0 b1) fun (x95 : (Sl × ByteArray × Int × Sl × Unit)) =>
 callT Tryz.prog 29 #[(.pointer x6.1), (.agg (Cells.vals c39 x95).toArray), (.bool true)] (.one (.one .bool)) fun (x96 : Bool) =>
 sif x96 (
 nn x6.1 fun p97 =>
 ld (.sl) ((p97.add 2).add 2) fun (x98 : Sl) =>
 ld (.sl) (s64.2.1.add 2) fun (x99 : Sl) =>
 callT Tryz.prog 30 #[(.slice x98.a x98.len x98.cap), (.slice x99.a x99.len x99.cap)] (.one (.one .bool)) fun (x100 : Bool) =>
 K x100) (
 K false)) (
 K false))))))))
noncomputable def h4 : Hint := (.seq none (.region [] (.ops 2 .done)) (.seq none (.seq none (.region [] (.ops 2 .done)) (.cond none (.seq none (.region [] (.ops 1 .done)) .leaf) .leaf)) (.seq none (.seq none (.region [] (.ops 3 .done)) (.cond none (.seq none (.region [] (.ops 1 .done)) .leaf) .leaf)) (.seq none (.region [] (.ops 7 .done)) (.seq none (.seq (some (549751619584, [(38, (.one .bool))])) (.region [0, 1, 2, 3, 4, 5, 6, 7, 8, 10, 11, 12, 13, 9, 14, 15, 16] (.ops 3 (.split 24 (.skips 13 (.ops 1 .done)) (.ops 14 .done)))) (.cond none (.seq none (.region [] (.ops 1 .done)) .leaf) .leaf)) (.seq none (.region [] (.ops 10 .done)) (.seq none (.seq (some (154742504910531796874035200, [(86, (.one .bool))])) (.region [0, 1, 2, 3, 4, 5, 6, 7, 8, 9, 10, 11, 12, 13, 14, 15, 16, 17, 18, 19, 20, 21, 22, 23, 24, 25, 26, 27, 28, 29, 30, 31, 32, 33, 34, 35, 36, 37, 38, 39] (.ops 4 (.split 50 (.ops 10 (.split 60 (.skips 25 (.ops 1 .done)) (.ops 4 (.split 64 (.ops 4 (.split 68 (.ops 8 (.split 76 (.skips 7 (.ops 3 .done)) (.ops 10 .done))) (.skips 16 (.ops 2 .done)))) (.skips 2 (.ops 2 (.skips 16 (.ops 2 .done)))))))) (.skips 8 (.ops 6 (.split 64 (.ops 4 (.split 68 (.ops 8 (.split 76 (.skips 7 (.ops 3 .done)) (.ops 10 .done))) (.skips 16 (.ops 2 .done)))) (.skips 2 (.ops 2 (.skips 16 (.ops 2 .done)))))))))) (.cond none (.seq none (.region [] (.ops 1 .done)) .leaf) .leaf)) (.seq none (.region [] (.ops 7 .done)) (.seq none (.seq (some (22300745198530613238015403989606162312986624, [(143, (.one .bool))])) (.region [0, 1, 2, 3, 4, 5, 6, 7, 8, 9, 10, 11, 12, 13, 14, 15, 16, 17, 18, 19, 20, 21, 22, 23, 24, 25, 26, 27, 28, 29, 30, 31, 32, 33, 34, 35, 36, 37, 38, 39, 40, 41, 42, 43, 44, 45, 46, 47, 48, 49, 50] (.ops 7 (.split 99 (.ops 10 (.split 109 (.skips 33 (.ops 1 .done)) (.ops 4 (.split 113 (.ops 17 (.split 130 (.ops 13 .done) (.skips 9 (.ops 4 .done)))) (.skips 28 (.ops 2 .done)))))) (.skips 8 (.ops 6 (.split 113 (.ops 17 (.split 130 (.ops 13 .done) (.skips 9 (.ops 4 .done)))) (.skips 28 (.ops 2 .done)))))))) (.cond none (.seq none (.region [] (.ops 1 .done)) .leaf) .leaf)) (.seq (some (182665403921164334152319068371262729095485589248, [(8, (.one .ptr)), (9, (.one .addr)), (10, (.one (.int .i64)))])) (.region [0, 1, 2, 3, 4, 5, 6, 7, 8, 9, 10, 11, 12, 14, 15, 16] (.float [13] (.ops 8 (.alt none (.plain (.ops 8 .done)) (.ops 5 (.alt none (.plain (.ops 3 .done)) .stop)))))) (.seq none (.seq (some (12259964144239406200503911441741869379414535520477249536, [(182, (.one .bool))])) (.region [0, 1, 2, 3, 4, 5, 6, 7, 8, 9, 10, 11, 12, 13, 14, 15, 16, 17, 18, 19, 20, 21, 22, 23, 24, 25] (.ops 3 (.split 159 (.skips 2 (.ops 2 (.skips 8 (.ops 2 (.skips 8 (.ops 1 .done)))))) (.ops 4 (.split 163 (.skips 8 (.ops 2 (.skips 8 (.ops 1 .done)))) (.ops 10 (.split 173 (.skips 8 (.ops 1 .done)) (.ops 9 .done)))))))) (.cond none (.seq none (.region [] (.ops 1 .done)) .leaf) .leaf)) (.seq none (.region [] (.ops 8 .done)) (.seq none (.seq (some (3212306813084133880892965237326523288440380398704469661974528, [(200, (.one .bool))])) (.region [] (.ops 3 (.split 192 (.skips 7 (.ops 1 .done)) (.ops 8 .done)))) (.cond none (.seq none (.region [] (.ops 1 .done)) .leaf) .leaf)) (.seq none (.region [0, 1, 2, 3, 4, 5, 6, 7, 8, 9, 10, 11, 12, 13, 14, 15, 16, 17, 18, 19, 20, 21, 22, 23, 24, 25, 26] (.ops 12 (.split 212 (.ops 5 (.split 217 (.ops 10 .done) (.skips 8 (.ops 2 .done)))) (.skips 3 (.ops 2 (.skips 8 (.ops 2 .done))))))) .leaf))))))))))))))
theorem F4_tie (a0 : (Sl × ByteArray × Int × Sl × Unit)) (K : Bool → World → Prop) : vcgF tab Tryz.prog Tryz.f4 h4 [(.agg (Cells.vals c39 a0).toArray)] (.one (.one .bool)) K = F4 a0 K := by kernel_rfl
theorem F4_calls {a0 : (Sl × ByteArray × Int × Sl × Unit)} {K : Bool → World → Prop} {w : World} (h : F4 a0 K w) : callT Tryz.prog 4 #[(.agg (Cells.vals c39 a0).toArray)] (.one (.one .bool)) K w :=
  vcgF_sound tabOk Tryz.func4 h4 [(.agg (Cells.vals c39 a0).toArray)] (.one (.one .bool)) K w (Eq.mpr (congrFun (F4_tie a0 K) w) h)
noncomputable def F14  (K : Bool → World → Prop) : World → Prop :=
 callT Tryz.prog 17 #[(.int .i64 (100 : Int))] (.tup [(.one .ptr), (.one .any)]) fun (x1 : (Option Addr × Value × Unit)) =>
 join (S := Bool × Unit) (fun J2 =>
 sif (Option.isNone x1.1) (
 J2 (true, ())) (
 rdB Tryz.prog (do eqGuard .neq 26 (Operand.tmp 16) (Operand.const Value.nilIface) x1.2.1 .nilIface; binOp .neq 26 x1.2.1 .nilIface : Sem Value) fun r4 =>
 sif r4 (
 J2 (true, ())) (
 newO (.cells #[(.int .u8 (111 : Int)), (.int .u8 (108 : Int)), (.int .u8 (100 : Int))] 5) fun b5 =>
 rawT Tryz.prog (.one (.one .sl)) (convert 30 30 (.slice (some (at0 b5)) 3 3)) fun x6 =>
 callT Tryz.prog 32 #[(.pointer x1.1), (.string { data := #[97] }), (.slice x6.a x6.len x6.cap)] (.one (.one .any)) fun (x7 : Value) =>
 rdB Tryz.prog (do eqGuard .neq 26 (Operand.tmp 23) (Operand.const Value.nilIface) x7 .nilIface; binOp .neq 26 x7 .nilIface : Sem Value) fun r8 =>
 J2 (r8, ())))) fun (s3 : Bool × Unit) =>
 sif s3.1 (
 K false) (
 callT Tryz.prog 18 #[(.pointer x1.1), (.string { data := #[97] }), (.int .i64 (1 : Int)), (.int .i64 (10 : Int))] (.tup [(.one .ptr), (.agg c32), (.one (.int .i64))]) fun (x9 : (Option Addr × (Int × Int × Sl × Bool × Unit) × Int × Unit)) =>
 newO (.cells #[(.int .i64 (0 : Int)), (.int .i64 (0 : Int)), (.slice none 0 0), (.bool false)] 32) fun b10 =>
 aggSt (at0 b10) (.agg (Cells.vals c32 x9.2.1).toArray) 4 <|
 newO (.cells #[(.int .u8 (110 : Int)), (.int .u8 (101 : Int)), (.int .u8 (119 : Int))] 5) fun b11 =>
 rawT Tryz.prog (.one (.one .sl)) (convert 30 30 (.slice (some (at0 b11)) 3 3)) fun x12 =>
 callT Tryz.prog 48 #[(.int .i64 (1 : Int)), (.slice x12.a x12.len x12.cap), (.int .i64 (10 : Int))] (.tup [(.one .ptr), (.one (.int .i64))]) fun (x13 : (Option Addr × Int × Unit)) =>
 join (S := Bool × Unit) (fun J14 =>
 sif (Option.isNone x9.1) (
 J14 (true, ())) (
 sif (Option.isNone x13.1) (
 J14 (true, ())) (
 sif (x9.2.2.1 != (0 : Int)) (
 J14 (true, ())) (
 sif (x13.2.1 != (0 : Int)) (
 J14 (true, ())) (
 ld (.sl) (⟨b10, 2, none⟩ : Addr) fun (x16 : Sl) =>
 rawT Tryz.prog (.one (.one .str)) (convert 30 9 (.slice x16.a x16.len x16.cap)) fun x17 =>
 sif (!(ByteArray.toList x17 == ByteArray.toList ({ data := #[111, 108, 100] }))) (
 J14 (true, ())) (
 callT Tryz.prog 27 #[(.pointer x9.1), (.pointer x13.1), (.bool false)] (.one (.one (.int .i64))) fun (x18 : Int) =>
 J14 ((x18 != (0 : Int)), ()))))))) fun (s15 : Bool × Unit) =>
 sif s15.1 (
 K false) (
 callT Tryz.prog 49 #[(.pointer x1.1), (.string { data := #[97] })] (.tup [(.one .sl), (.one .any)]) fun (x19 : (Sl × Value × Unit)) =>
 rdB Tryz.prog (do eqGuard .eql 26 (Operand.tmp 69) (Operand.const Value.nilIface) x19.2.1 .nilIface; binOp .eql 26 x19.2.1 .nilIface : Sem Value) fun r20 =>
 sif r20 (
 rawT Tryz.prog (.one (.one .str)) (convert 30 9 (.slice x19.1.a x19.1.len x19.1.cap)) fun x21 =>
 K (ByteArray.toList x21 == ByteArray.toList ({ data := #[110, 101, 119] }))) (
 K false)))
noncomputable def h14 : Hint := (.seq none (.region [] (.ops 1 .done)) (.seq none (.region [] (.ops 6 .done)) (.seq none (.seq (some (67100672, [(25, (.one .bool))])) (.region [] (.ops 3 (.split 15 (.skips 2 (.ops 2 (.skips 5 (.ops 1 .done)))) (.ops 4 (.split 19 (.skips 5 (.ops 1 .done)) (.ops 6 .done)))))) (.cond none (.seq none (.region [] (.ops 1 .done)) .leaf) .leaf)) (.seq none (.region [] (.ops 10 .done)) (.seq none (.region [] (.ops 8 .done)) (.seq none (.seq (some (18446743798831644672, [(63, (.one .bool))])) (.region [] (.ops 3 (.split 40 (.skips 2 (.ops 2 (.skips 2 (.ops 2 (.skips 2 (.ops 2 (.skips 4 (.ops 2 (.skips 4 (.ops 1 .done)))))))))) (.ops 4 (.split 44 (.skips 2 (.ops 2 (.skips 2 (.ops 2 (.skips 4 (.ops 2 (.skips 4 (.ops 1 .done)))))))) (.ops 4 (.split 48 (.skips 2 (.ops 2 (.skips 4 (.ops 2 (.skips 4 (.ops 1 .done)))))) (.ops 4 (.split 52 (.skips 4 (.ops 2 (.skips 4 (.ops 1 .done)))) (.ops 6 (.split 58 (.skips 4 (.ops 1 .done)) (.ops 5 .done)))))))))))) (.cond none (.seq none (.region [] (.ops 1 .done)) .leaf) .leaf)) (.seq none (.region [] (.ops 7 .done)) (.seq none (.region [] (.ops 3 (.split 71 (.ops 5 .done) (.skips 3 (.ops 2 .done))))) .leaf))))))))
theorem F14_tie  (K : Bool → World → Prop) : vcgF tab Tryz.prog Tryz.f14 h14 [] (.one (.one .bool)) K = F14  K := by kernel_rfl
theorem F14_calls {K : Bool → World → Prop} {w : World} (h : F14  K w) : callT Tryz.prog 14 #[] (.one (.one .bool)) K w :=
  vcgF_sound tabOk Tryz.func14 h14 [] (.one (.one .bool)) K w (Eq.mpr (congrFun (F14_tie  K) w) h)
noncomputable def F16 (a0 : ByteArray) (K : Bool → World → Prop) : World → Prop :=
 join (S := Bool × Unit) (fun J1 =>
 sif (decide (((ByteArray.size a0 : Nat) : Int) < (1 : Int))) (
 J1 (true, ())) (
 sif (decide (((ByteArray.size a0 : Nat) : Int) > (31 : Int))) (
 J1 (true, ())) (
 sidx a0 (IntKind.wrap .i64 (((ByteArray.size a0 : Nat) : Int) - (1 : Int))) fun b3 =>
 J1 ((((b3.toNat : Nat) : Int) == (126 : Int)), ())))) fun (s2 : Bool × Unit) =>
 sif s2.1 (
 K false) (
 join (S := Unit) (fun J4 =>
 sloop (S := Int × Unit) (fun (s6 : Int × Unit) again7 =>
 sif (decide (s6.1 < ((ByteArray.size a0 : Nat) : Int))) (
 sidx a0 s6.1 fun b8 =>
 join (S := Bool × Unit) (fun J9 =>
 sif (decide (((b8.toNat : Nat) : Int) ≥ (97 : Int))) (
 sif (decide (((b8.toNat : Nat) : Int) ≤ (122 : Int))) (
 J9 (false, ())) (
 sif (decide (((b8.toNat : Nat) : Int) ≥ (65 : Int))) (
 sif (decide (((b8.toNat : Nat) : Int) ≤ (90 : Int))) (
 J9 (false, ())) (
 sif (decide (((b8.toNat : Nat) : Int) ≥ (48 : Int))) (
 sif (decide (((b8.toNat : Nat) : Int) ≤ (57 : Int))) (
 J9 (false, ())) (
 sif (((b8.toNat : Nat) : Int) == (46 : Int)) (
 J9 (false, ())) (
 sif (((b8.toNat : Nat) : Int) == (95 : Int)) (
 J9 (false, ())) (
 sif (((b8.toNat : Nat) : Int) == (45 : Int)) (
 J9 (false, ())) (
 J9 ((!(((b8.toNat : Nat) : Int) == (126 : Int))), ())))))) (
 sif (((b8.toNat : Nat) : Int) == (46 : Int)) (
 J9 (false, ())) (
 sif (((b8.toNat : Nat) : Int) == (95 : Int)) (
 J9 (false, ())) (
 sif (((b8.toNat : Nat) : Int) == (45 : Int)) (
 J9 (false, ())) (
 J9 ((!(((b8.toNat : Nat) : Int) == (126 : Int))), ()))))))) (
 sif (decide (((b8.toNat : Nat) : Int) ≥ (48 : Int))) (
 sif (decide (((b8.toNat : Nat) : Int) ≤ (57 : Int))) (
 J9 (false, ())) (
 sif (((b8.toNat : Nat) : Int) == (46 : Int)) (
 J9 (false, ())) (
 sif (((b8.toNat : Nat) : Int) == (95 : Int)) (
 J9 (false, ())) (
 sif (((b8.toNat : Nat) : Int) == (45 : Int)) (
 J9 (false, ())) (
 J9 ((!(((b8.toNat : Nat) : Int) == (126 : Int))), ())))))) (
 sif (((b8.toNat : Nat) : Int) == (46 : Int)) (
 J9 (false, ())) (
 sif (((b8.toNat : Nat) : Int) == (95 : Int)) (
 J9 (false, ())) (
 sif (((b8.toNat : Nat) : Int) == (45 : Int)) (
 J9 (false, ())) (
 J9 ((!(((b8.toNat : Nat) : Int) == (126 : Int))), ())))))))) (
 sif (decide (((b8.toNat : Nat) : Int) ≥ (65 : Int))) (
 sif (decide (((b8.toNat : Nat) : Int) ≤ (90 : Int))) (
 J9 (false, ())) (
 sif (decide (((b8.toNat : Nat) : Int) ≥ (48 : Int))) (
 sif (decide (((b8.toNat : Nat) : Int) ≤ (57 : Int))) (
 J9 (false, ())) (
 sif (((b8.toNat : Nat) : Int) == (46 : Int)) (
 J9 (false, ())) (
 sif (((b8.toNat : Nat) : Int) == (95 : Int)) (
 J9 (false, ())) (
 sif (((b8.toNat : Nat) : Int) == (45 : Int)) (
 J9 (false, ())) (
 J9 ((!(((b8.toNat : Nat) : Int) == (126 : Int))), ())))))) (
 sif (((b8.toNat : Nat) : Int) == (46 : Int)) (
 J9 (false, ())) (
 sif (((b8.toNat : Nat) : Int) == (95 : Int)) (
 J9 (false, ())) (
 sif (((b8.toNat : Nat) : Int) == (45 : Int)) (
 J9 (false, ())) (
 J9 ((!(((b8.toNat : Nat) : Int) == (126 : Int))), ()))))))) (
 sif (decide (((b8.toNat : Nat) : Int) ≥ (48 : Int))) (
 sif (decide (((b8.toNat : Nat) : Int) ≤ (57 : Int))) (
 J9 (false, ())) (
 sif (((b8.toNat : Nat) : Int) == (46 : Int)) (
 J9 (false, ())) (
 sif (((b8.toNat : Nat) : Int) == (95 : Int)) (
 J9 (false, ())) (
 sif (((b8.toNat : Nat) : Int) == (45 : Int)) (
 J9 (false, ())) (
 J9 ((!(((b8.toNat : Nat) : Int) == (126 : Int))), ())))))) (
 sif (((b8.toNat : Nat) : Int) == (46 : Int)) (
 J9 (false, ())) (
 sif (((b8.toNat : Nat) : Int) == (95 : Int)) (
 J9 (false, ())) (
 sif (((b8.toNat : Nat) : Int) == (45 : Int)) (
 J9 (false, ())) (
 J9 ((!(((b8.toNat : Nat) : Int) == (126 : Int))), ())))))))) fun (s10 : Bool × Unit) =>
 sif s10.1 (
 K false) (
 again7 ((IntKind.wrap .i64 (s6.1 + (1 : Int))), ()))) (
 J4 ())) ((0 : Int), ())) fun (s5 : Unit) =>
 K true)
noncomputable def h16 : Hint := (.seq none (.region [] (.ops 1 .done)) (.seq none (.seq (some (2097120, [(20, (.one .bool))])) (.region [] (.ops 4 (.split 8 (.skips 3 (.ops 2 (.skips 6 (.ops 1 .done)))) (.ops 5 (.split 13 (.skips 6 (.ops 1 .done)) (.ops 7 .done)))))) (.cond none (.seq none (.region [] (.ops 1 .done)) .leaf) .leaf)) (.seq (some (590295810358703554588, [])) (.seq none (.region [] (.ops 1 .done)) (.block (.loop 590295810358703554588 [(3, (.one (.int .i64)))] (.seq none (.seq none (.region [] (.ops 4 .done)) (.cond none .leaf .leaf)) (.seq none (.block (.seq none (.region [] (.ops 4 .done)) (.seq (some (590295810357631909888, [(68, (.one .bool))])) (.region [] (.ops 3 (.split 32 (.ops 4 (.split 36 (.skips 6 (.ops 2 (.skips 6 (.ops 2 (.skips 2 (.ops 2 (.skips 2 (.ops 2 (.skips 2 (.ops 2 (.skips 2 (.ops 2 .done)))))))))))) (.ops 3 (.split 39 (.ops 5 (.split 44 (.skips 6 (.ops 2 (.skips 2 (.ops 2 (.skips 2 (.ops 2 (.skips 2 (.ops 2 (.skips 2 (.ops 2 .done)))))))))) (.ops 3 (.split 47 (.ops 5 (.split 52 (.skips 2 (.ops 2 (.skips 2 (.ops 2 (.skips 2 (.ops 2 (.skips 2 (.ops 2 .done)))))))) (.ops 4 (.split 56 (.skips 2 (.ops 2 (.skips 2 (.ops 2 (.skips 2 (.ops 2 .done)))))) (.ops 4 (.split 60 (.skips 2 (.ops 2 (.skips 2 (.ops 2 .done)))) (.ops 4 (.split 64 (.skips 2 (.ops 2 .done)) (.ops 4 .done))))))))) (.skips 2 (.ops 7 (.split 56 (.skips 2 (.ops 2 (.skips 2 (.ops 2 (.skips 2 (.ops 2 .done)))))) (.ops 4 (.split 60 (.skips 2 (.ops 2 (.skips 2 (.ops 2 .done)))) (.ops 4 (.split 64 (.skips 2 (.ops 2 .done)) (.ops 4 .done)))))))))))) (.skips 2 (.ops 6 (.split 47 (.ops 5 (.split 52 (.skips 2 (.ops 2 (.skips 2 (.ops 2 (.skips 2 (.ops 2 (.skips 2 (.ops 2 .done)))))))) (.ops 4 (.split 56 (.skips 2 (.ops 2 (.skips 2 (.ops 2 (.skips 2 (.ops 2 .done)))))) (.ops 4 (.split 60 (.skips 2 (.ops 2 (.skips 2 (.ops 2 .done)))) (.ops 4 (.split 64 (.skips 2 (.ops 2 .done)) (.ops 4 .done))))))))) (.skips 2 (.ops 7 (.split 56 (.skips 2 (.ops 2 (.skips 2 (.ops 2 (.skips 2 (.ops 2 .done)))))) (.ops 4 (.split 60 (.skips 2 (.ops 2 (.skips 2 (.ops 2 .done)))) (.ops 4 (.split 64 (.skips 2 (.ops 2 .done)) (.ops 4 .done))))))))))))))) (.skips 2 (.ops 5 (.split 39 (.ops 5 (.split 44 (.skips 6 (.ops 2 (.skips 2 (.ops 2 (.skips 2 (.ops 2 (.skips 2 (.ops 2 (.skips 2 (.ops 2 .done)))))))))) (.ops 3 (.split 47 (.ops 5 (.split 52 (.skips 2 (.ops 2 (.skips 2 (.ops 2 (.skips 2 (.ops 2 (.skips 2 (.ops 2 .done)))))))) (.ops 4 (.split 56 (.skips 2 (.ops 2 (.skips 2 (.ops 2 (.skips 2 (.ops 2 .done)))))) (.ops 4 (.split 60 (.skips 2 (.ops 2 (.skips 2 (.ops 2 .done)))) (.ops 4 (.split 64 (.skips 2 (.ops 2 .done)) (.ops 4 .done))))))))) (.skips 2 (.ops 7 (.split 56 (.skips 2 (.ops 2 (.skips 2 (.ops 2 (.skips 2 (.ops 2 .done)))))) (.ops 4 (.split 60 (.skips 2 (.ops 2 (.skips 2 (.ops 2 .done)))) (.ops 4 (.split 64 (.skips 2 (.ops 2 .done)) (.ops 4 .done)))))))))))) (.skips 2 (.ops 6 (.split 47 (.ops 5 (.split 52 (.skips 2 (.ops 2 (.skips 2 (.ops 2 (.skips 2 (.ops 2 (.skips 2 (.ops 2 .done)))))))) (.ops 4 (.split 56 (.skips 2 (.ops 2 (.skips 2 (.ops 2 (.skips 2 (.ops 2 .done)))))) (.ops 4 (.split 60 (.skips 2 (.ops 2 (.skips 2 (.ops 2 .done)))) (.ops 4 (.split 64 (.skips 2 (.ops 2 .done)) (.ops 4 .done))))))))) (.skips 2 (.ops 7 (.split 56 (.skips 2 (.ops 2 (.skips 2 (.ops 2 (.skips 2 (.ops 2 .done)))))) (.ops 4 (.split 60 (.skips 2 (.ops 2 (.skips 2 (.ops 2 .done)))) (.ops 4 (.split 64 (.skips 2 (.ops 2 .done)) (.ops 4 .done))))))))))))))))) (.cond none (.seq none (.region [] (.ops 1 .done)) .leaf) .leaf)))) (.region [] (.ops 3 .done))))))) (.seq none (.region [] (.ops 1 .done)) .leaf))))
theorem F16_tie (a0 : ByteArray) (K : Bool → World → Prop) : vcgF tab Tryz.prog Tryz.f16 h16 [(.string a0)] (.one (.one .bool)) K = F16 a0 K := by kernel_rfl
theorem F16_calls {a0 : ByteArray} {K : Bool → World → Prop} {w : World} (h : F16 a0 K w) : callT Tryz.prog 16 #[(.string a0)] (.one (.one .bool)) K w :=
  vcgF_sound tabOk Tryz.func16 h16 [(.string a0)] (.one (.one .bool)) K w (Eq.mpr (congrFun (F16_tie a0 K) w) h)
noncomputable def F20 (a0 : (Sl × ByteArray × Int × Sl × Unit)) (K : Bool → World → Prop) : World → Prop :=
 newO (.cells #[(.slice a0.1.a a0.1.len a0.1.cap), (.string a0.2.1), (.int .i64 a0.2.2.1), (.slice a0.2.2.2.1.a a0.2.2.2.1.len a0.2.2.2.1.cap)] 39) fun b1 =>
 join (S := Bool × Unit) (fun J2 =>
 ld (.str) (⟨b1, 1, none⟩ : Addr) fun (x4 : ByteArray) =>
 callT Tryz.prog 16 #[(.string x4)] (.one (.one .bool)) fun (x5 : Bool) =>
 sif (!x5) (
 J2 (true, ())) (
 ld (.int .i64) (⟨b1, 2, none⟩ : Addr) fun (x6 : Int) =>
 sif (decide (x6 < (0 : Int))) (
 J2 (true, ())) (
 ld (.int .i64) (⟨b1, 2, none⟩ : Addr) fun (x7 : Int) =>
 sif (decide (x7 > (4 : Int))) (
 J2 (true, ())) (
 ld (.sl) (⟨b1, 3, none⟩ : Addr) fun (x8 : Sl) =>
 sif (decide (((x8.len : Nat) : Int) > (60000 : Int))) (
 J2 (true, ())) (
 ld (.sl) (at0 b1) fun (x9 : Sl) =>
 J2 ((decide (((x9.len : Nat) : Int) > (14 : Int))), ())))))) fun (s3 : Bool × Unit) =>
 sif s3.1 (
 K false) (
 join (S := Unit) (fun J10 =>
 sloop (S := Int × Unit) (fun (s12 : Int × Unit) again13 =>
 ld (.sl) (at0 b1) fun (x14 : Sl) =>
 sif (decide (s12.1 < ((x14.len : Nat) : Int))) (
 join (S := Bool × Unit) (fun J15 =>
 ld (.sl) (at0 b1) fun (x17 : Sl) =>
 ix x17.a x17.len s12.1 fun p18 =>
 ld (.str) (p18.add (scaled (Int.toNat s12.1) 2)) fun (x19 : ByteArray) =>
 callT Tryz.prog 16 #[(.string x19)] (.one (.one .bool)) fun (x20 : Bool) =>
 sif (!x20) (
 J15 (true, ())) (
 ld (.sl) (at0 b1) fun (x21 : Sl) =>
 ix x21.a x21.len s12.1 fun p22 =>
 ld (.sl) ((p22.add (scaled (Int.toNat s12.1) 2)).add 1) fun (x23 : Sl) =>
 J15 ((decide (((x23.len : Nat) : Int) > (60000 : Int))), ()))) fun (s16 : Bool × Unit) =>
 sif s16.1 (
 K false) (
 again13 ((IntKind.wrap .i64 (s12.1 + (1 : Int))), ()))) (
 J10 ())) ((0 : Int), ())) fun (s11 : Unit) =>
 K true)
noncomputable def h20 : Hint := (.seq none (.region [] (.ops 2 .done)) (.seq none (.seq (some (1073741808, [(29, (.one .bool))])) (.region [] (.ops 5 (.split 8 (.skips 3 (.ops 2 (.skips 3 (.ops 2 (.skips 4 (.ops 2 (.skips 4 (.ops 1 .done)))))))) (.ops 5 (.split 13 (.skips 3 (.ops 2 (.skips 4 (.ops 2 (.skips 4 (.ops 1 .done)))))) (.ops 5 (.split 18 (.skips 4 (.ops 2 (.skips 4 (.ops 1 .done)))) (.ops 6 (.split 24 (.skips 4 (.ops 1 .done)) (.ops 5 .done)))))))))) (.cond none (.seq none (.region [] (.ops 1 .done)) .leaf) .leaf)) (.seq (some (36028795945222156, [])) (.seq none (.region [] (.ops 1 .done)) (.block (.loop 36028795945222156 [(3, (.one (.int .i64)))] (.seq none (.seq none (.region [] (.ops 5 .done)) (.cond none .leaf .leaf)) (.seq none (.block (.seq (some (36028659580010496, [(54, (.one .bool))])) (.region [] (.ops 9 (.split 45 (.skips 8 (.ops 1 .done)) (.ops 9 .done)))) (.cond none (.seq none (.region [] (.ops 1 .done)) .leaf) .leaf))) (.region [] (.ops 3 .done))))))) (.seq none (.region [] (.ops 1 .done)) .leaf))))
theorem F20_tie (a0 : (Sl × ByteArray × Int × Sl × Unit)) (K : Bool → World → Prop) : vcgF tab Tryz.prog Tryz.f20 h20 [(.agg (Cells.vals c39 a0).toArray)] (.one (.one .bool)) K = F20 a0 K := by kernel_rfl
theorem F20_calls {a0 : (Sl × ByteArray × Int × Sl × Unit)} {K : Bool → World → Prop} {w : World} (h : F20 a0 K w) : callT Tryz.prog 20 #[(.agg (Cells.vals c39 a0).toArray)] (.one (.one .bool)) K w :=
  vcgF_sound tabOk Tryz.func20 h20 [(.agg (Cells.vals c39 a0).toArray)] (.one (.one .bool)) K w (Eq.mpr (congrFun (F20_tie a0 K) w) h)
noncomputable def F21 (a0 : (Sl × ByteArray × Int × Sl × Unit)) (K : (Option Addr × Bool × Unit) → World → Prop) : World → Prop :=
 newO (.cells #[(.slice a0.1.a a0.1.len a0.1.cap), (.string a0.2.1), (.int .i64 a0.2.2.1), (.slice a0.2.2.2.1.a a0.2.2.2.1.len a0.2.2.2.1.cap)] 39) fun b1 =>
 callT Tryz.prog 17 #[(.int .i64 (1048576 : Int))] (.tup [(.one .ptr), (.one .any)]) fun (x2 : (Option Addr × Value × Unit)) =>
 join (S := Bool × Unit) (fun J3 =>
 sif (Option.isNone x2.1) (
 J3 (true, ())) (
 rdB Tryz.prog (do eqGuard .neq 26 (Operand.tmp 18) (Operand.const Value.nilIface) x2.2.1 .nilIface; binOp .neq 26 x2.2.1 .nilIface : Sem Value) fun r5 =>
 J3 (r5, ()))) fun (s4 : Bool × Unit) =>
 sif s4.1 (
 K (none, false, ())) (
 newO (.cells #[(.pointer x2.1), (.pointer none), (.int .i64 (0 : Int)), (.int .i64 (0 : Int)), (.slice none 0 0), (.bool false), (.slice none 0 0), (.bool false)] 47) fun b6 =>
 join (S := Unit) (fun J7 =>
 sloop (S := Int × Unit) (fun (s9 : Int × Unit) again10 =>
 ld (.sl) (at0 b1) fun (x11 : Sl) =>
 sif (decide (s9.1 < ((x11.len : Nat) : Int))) (
 join (S := Unit) (fun J12 =>
 drew <|
 ld (.sl) (at0 b1) fun (x14 : Sl) =>
 ix x14.a x14.len s9.1 fun p15 =>
 ld (.str) (p15.add (scaled (Int.toNat s9.1) 2)) fun (x16 : ByteArray) =>
 ld (.sl) (at0 b1) fun (x17 : Sl) =>
 ix x17.a x17.len s9.1 fun p18 =>
 ld (.sl) ((p18.add (scaled (Int.toNat s9.1) 2)).add 1) fun (x19 : Sl) =>
 callT Tryz.prog 33 #[(.slice x19.a x19.len x19.cap)] (.one (.one .sl)) fun (x20 : Sl) =>
 keep (fun w => w.cell? (p15.add (scaled (Int.toNat s9.1) 2)) = some (Cell.val (.str) x16)) <|
 keep (fun w => w.cell? (at0 b1) = some (Cell.val (.sl) x14)) <|
 callT Tryz.prog 32 #[(.pointer x2.1), (.string x16), (.slice x20.a x20.len x20.cap)] (.one (.one .any)) fun (x21 : Value) =>
 rdB Tryz.prog (do eqGuard .neq 26 (Operand.tmp 45) (Operand.const Value.nilIface) x21 .nilIface; binOp .neq 26 x21 .nilIface : Sem Value) fun r22 =>
 sif r22 (
 K (none, false, ())) (
 drew <|
 ld (.sl) (at0 b1) fun (x23 : Sl) =>
 ix x23.a x23.len s9.1 fun p24 =>
 ld (.str) (p24.add (scaled (Int.toNat s9.1) 2)) fun (x25 : ByteArray) =>
 ld (.str) (⟨b1, 1, none⟩ : Addr) fun (x26 : ByteArray) =>
 sif (ByteArray.toList x25 == ByteArray.toList x26) (
 ld (.sl) (at0 b1) fun (x27 : Sl) =>
 ix x27.a x27.len s9.1 fun p28 =>
 ld (.sl) ((p28.add (scaled (Int.toNat s9.1) 2)).add 1) fun (x29 : Sl) =>
 callT Tryz.prog 33 #[(.slice x29.a x29.len x29.cap)] (.one (.one .sl)) fun (x30 : Sl) =>
 nn (some (at0 b6)) fun p31 =>
 stC (p31.add 6) (.slice x30.a x30.len x30.cap) <|
 nn (some (at0 b6)) fun p32 =>
 stC (p32.add 7) (.bool true) <|
 J12 ()) (
 J12 ()))) fun (s13 : Unit) =>
 again10 ((IntKind.wrap .i64 (s9.1 + (1 : Int))), ())) (
 J7 ())) ((0 : Int), ())) fun (s8 : Unit) =>
 ld (.str) (⟨b1, 1, none⟩ : Addr) fun (x33 : ByteArray) =>
 ld (.int .i64) (⟨b1, 2, none⟩ : Addr) fun (x34 : Int) =>
 callT Tryz.prog 18 #[(.pointer x2.1), (.string x33), (.int .i64 x34), (.int .i64 (65536 : Int))] (.tup [(.one .ptr), (.agg c32), (.one (.int .i64))]) fun (x35 : (Option Addr × (Int × Int × Sl × Bool × Unit) × Int × Unit)) =>
 newO (.cells #[(.int .i64 (0 : Int)), (.int .i64 (0 : Int)), (.slice none 0 0), (.bool false)] 32) fun b36 =>
 aggSt (at0 b36) (.agg (Cells.vals c32 x35.2.1).toArray) 4 <|
 join (S := Bool × Unit) (fun J37 =>
 drew <|
 sif (Option.isNone x35.1) (
 J37 (true, ())) (
 sif (x35.2.2.1 != (0 : Int)) (
 J37 (true, ())) (
 ld (.bool) (⟨b36, 3, none⟩ : Addr) fun (x39 : Bool) =>
 nn (some (at0 b6)) fun p40 =>
 ld (.bool) (p40.add 7) fun (x41 : Bool) =>
 rdB Tryz.prog (do eqGuard .eql 4 (Operand.tmp 87) (Operand.tmp 91) (.bool x39) (.bool x41); binOp .eql 4 (.bool x39) (.bool x41) : Sem Value) fun r42 =>
 sif r42 (
 J37 (true, ())) (
 ld (.int .i64) (⟨b36, 1, none⟩ : Addr) fun (x43 : Int) =>
 sif (decide (x43 < (0 : Int))) (
 J37 (true, ())) (
 ld (.int .i64) (⟨b36, 1, none⟩ : Addr) fun (x44 : Int) =>
 nn (some (at0 b6)) fun p45 =>
 ld (.sl) (p45.add 6) fun (x46 : Sl) =>
 sif (decide (x44 > ((x46.len : Nat) : Int))) (
 J37 (true, ())) (
 ld (.int .i64) (at0 b36) fun (x47 : Int) =>
 sif (decide (x47 < (1 : Int))) (
 J37 (true, ())) (
 ld (.int .i64) (at0 b36) fun (x48 : Int) =>
 J37 ((decide (x48 > (4 : Int))), ())))))))) fun (s38 : Bool × Unit) =>
 sif s38.1 (
 K (none, false, ())) (
 nn (some (at0 b6)) fun p49 =>
 stC (p49.add 1) (.pointer x35.1) <|
 lds c32 (at0 b36) fun (x50 : (Int × Int × Sl × Bool × Unit)) =>
 nn (some (at0 b6)) fun p51 =>
 aggSt (p51.add 2) (.agg (Cells.vals c32 x50).toArray) 4 <|
 K ((some (at0 b6)), true, ())))
noncomputable def h21 : Hint := (.seq none (.region [] (.ops 3 .done)) (.seq none (.region [] (.ops 6 .done)) (.seq none (.seq (some (2064384, [(20, (.one .bool))])) (.region [] (.ops 3 (.split 17 (.skips 2 (.ops 1 .done)) (.ops 3 .done)))) (.cond none (.seq none (.region [] (.ops 2 .done)) .leaf) .leaf)) (.seq none (.region [] (.ops 4 .done)) (.seq (some (590295810358688874636, [])) (.seq none (.region [] (.ops 1 .done)) (.block (.loop 590295810358688874636 [(7, (.one (.int .i64)))] (.seq none (.seq none (.region [] (.ops 5 .done)) (.cond none .leaf .leaf)) (.seq (some (590295810356558168076, [])) (.block (.seq none (.seq none (.region [0, 1, 2, 3, 4, 5, 6, 7, 8, 9, 10, 11, 12, 13, 14, 15] (.ops 16 .done)) (.cond none (.seq none (.region [] (.ops 2 .done)) .leaf) .leaf)) (.seq none (.region [0, 1, 2, 3, 4, 5, 6, 7, 8] (.ops 9 .done)) (.cond none (.seq none (.region [] (.ops 11 .done)) (.region [] (.ops 4 .done))) .leaf)))) (.region [] (.ops 3 .done))))))) (.seq none (.region [] (.ops 14 .done)) (.seq none (.seq (some (664613997891853473542096215552819200, [(118, (.one .bool))])) (.region [0, 1, 2, 3, 4, 5, 6, 7, 8, 9, 10, 11, 12, 13, 14, 15, 16, 17, 18, 19, 20, 21, 22, 23, 24, 25, 26, 27, 28, 29, 30, 31, 32, 33, 34, 35, 36, 37, 38, 39] (.ops 3 (.split 81 (.skips 2 (.ops 2 (.skips 7 (.ops 2 (.skips 3 (.ops 2 (.skips 8 (.ops 2 (.skips 3 (.ops 2 (.skips 3 (.ops 1 .done)))))))))))) (.ops 4 (.split 85 (.skips 7 (.ops 2 (.skips 3 (.ops 2 (.skips 8 (.ops 2 (.skips 3 (.ops 2 (.skips 3 (.ops 1 .done)))))))))) (.ops 9 (.split 94 (.skips 3 (.ops 2 (.skips 8 (.ops 2 (.skips 3 (.ops 2 (.skips 3 (.ops 1 .done)))))))) (.ops 5 (.split 99 (.skips 8 (.ops 2 (.skips 3 (.ops 2 (.skips 3 (.ops 1 .done)))))) (.ops 10 (.split 109 (.skips 3 (.ops 2 (.skips 3 (.ops 1 .done)))) (.ops 5 (.split 114 (.skips 3 (.ops 1 .done)) (.ops 4 .done)))))))))))))) (.cond none (.seq none (.region [] (.ops 2 .done)) .leaf) .leaf)) (.seq none (.region [] (.ops 5 .done)) (.seq none (.region [] (.ops 5 .done)) (.seq none (.region [] (.ops 3 .done)) .leaf))))))))))
theorem F21_tie (a0 : (Sl × ByteArray × Int × Sl × Unit)) (K : (Option Addr × Bool × Unit) → World → Prop) : vcgF tab Tryz.prog Tryz.f21 h21 [(.agg (Cells.vals c39 a0).toArray)] (.tup [(.one .ptr), (.one .bool)]) K = F21 a0 K := by kernel_rfl
theorem F21_calls {a0 : (Sl × ByteArray × Int × Sl × Unit)} {K : (Option Addr × Bool × Unit) → World → Prop} {w : World} (h : F21 a0 K w) : callT Tryz.prog 21 #[(.agg (Cells.vals c39 a0).toArray)] (.tup [(.one .ptr), (.one .bool)]) K w :=
  vcgF_sound tabOk Tryz.func21 h21 [(.agg (Cells.vals c39 a0).toArray)] (.tup [(.one .ptr), (.one .bool)]) K w (Eq.mpr (congrFun (F21_tie a0 K) w) h)
noncomputable def F22 (a0 : Sl) (a1 : Sl) (K : Bool → World → Prop) : World → Prop :=
 sif (((a0.len : Nat) : Int) != ((a1.len : Nat) : Int)) (
 K false) (
 join (S := Unit) (fun J1 =>
 sloop (S := Int × Unit) (fun (s3 : Int × Unit) again4 =>
 sif (decide (s3.1 < ((a0.len : Nat) : Int))) (
 drew <|
 ix a0.a a0.len s3.1 fun p5 =>
 ld (.int .u8) (p5.add (scaled (Int.toNat s3.1) 1)) fun (x6 : Int) =>
 ix a1.a a1.len s3.1 fun p7 =>
 ld (.int .u8) (p7.add (scaled (Int.toNat s3.1) 1)) fun (x8 : Int) =>
 sif (x6 != x8) (
 K false) (
 again4 ((IntKind.wrap .i64 (s3.1 + (1 : Int))), ()))) (
 J1 ())) ((0 : Int), ())) fun (s2 : Unit) =>
 K true)
noncomputable def h22 : Hint := (.seq none (.region [] (.ops 1 .done)) (.seq none (.seq none (.region [] (.ops 5 .done)) (.cond none (.seq none (.region [] (.ops 1 .done)) .leaf) .leaf)) (.seq (some (67106864, [])) (.seq none (.region [] (.ops 1 .done)) (.block (.loop 67106864 [(5, (.one (.int .i64)))] (.seq none (.seq none (.region [] (.ops 4 .done)) (.cond none .leaf .leaf)) (.seq none (.block (.seq none (.region [0, 1, 2, 3, 4, 5, 6, 7, 8] (.ops 9 .done)) (.cond none (.seq none (.region [] (.ops 1 .done)) .leaf) .leaf))) (.region [] (.ops 3 .done))))))) (.seq none (.region [] (.ops 1 .done)) .leaf))))
theorem F22_tie (a0 : Sl) (a1 : Sl) (K : Bool → World → Prop) : vcgF tab Tryz.prog Tryz.f22 h22 [(.slice a0.a a0.len a0.cap), (.slice a1.a a1.len a1.cap)] (.one (.one .bool)) K = F22 a0 a1 K := by kernel_rfl
theorem F22_calls {a0 : Sl} {a1 : Sl} {K : Bool → World → Prop} {w : World} (h : F22 a0 a1 K w) : callT Tryz.prog 22 #[(.slice a0.a a0.len a0.cap), (.slice a1.a a1.len a1.cap)] (.one (.one .bool)) K w :=
  vcgF_sound tabOk Tryz.func22 h22 [(.slice a0.a a0.len a0.cap), (.slice a1.a a1.len a1.cap)] (.one (.one .bool)) K w (Eq.mpr (congrFun (F22_tie a0 a1 K) w) h)
noncomputable def F23 (a0 : Option Addr) (a1 : Sl) (K : Sl → World → Prop) : World → Prop :=
 drew <|
 nn a0 fun p1 =>
 ld (.sl) (p1.add 6) fun (x2 : Sl) =>
 nn a0 fun p3 =>
 ld (.int .i64) ((p3.add 2).add 1) fun (x4 : Int) =>
 slc x2.a 0 x4 ((x2.cap : Nat) : Int) x2.cap 1 fun x5 =>
 callT Tryz.prog 33 #[(.slice x5.a x5.len x5.cap)] (.one (.one .sl)) fun (x6 : Sl) =>
 rawT Tryz.prog (.one (.one .sl)) (Builtin.append_ #[30, 30] 30 #[(.slice x6.a x6.len x6.cap), (.slice a1.a a1.len a1.cap)]) fun (x7 : Sl) =>
 K x7
noncomputable def h23 : Hint := (.seq none (.region [] (.ops 1 .done)) (.seq none (.region [0, 1, 2, 3, 4, 5, 6, 7, 8, 9, 11, 10, 12, 13] (.ops 14 .done)) .leaf))
theorem F23_tie (a0 : Option Addr) (a1 : Sl) (K : Sl → World → Prop) : vcgF tab Tryz.prog Tryz.f23 h23 [(.pointer a0), (.slice a1.a a1.len a1.cap)] (.one (.one .sl)) K = F23 a0 a1 K := by kernel_rfl
theorem F23_calls {a0 : Option Addr} {a1 : Sl} {K : Sl → World → Prop} {w : World} (h : F23 a0 a1 K w) : callT Tryz.prog 23 #[(.pointer a0), (.slice a1.a a1.len a1.cap)] (.one (.one .sl)) K w :=
  vcgF_sound tabOk Tryz.func23 h23 [(.pointer a0), (.slice a1.a a1.len a1.cap)] (.one (.one .sl)) K w (Eq.mpr (congrFun (F23_tie a0 a1 K) w) h)
noncomputable def F26 (a0 : Option Addr) (a1 : Sl) (K : Option Addr → World → Prop) : World → Prop :=
 drew <|
 nn a0 fun p1 =>
 ld (.int .i64) (p1.add 2) fun (x2 : Int) =>
 callT Tryz.prog 33 #[(.slice a1.a a1.len a1.cap)] (.one (.one .sl)) fun (x3 : Sl) =>
 keep (fun w => w.cell? (p1.add 2) = some (Cell.val (.int .i64) x2)) <|
 callT Tryz.prog 48 #[(.int .i64 x2), (.slice x3.a x3.len x3.cap), (.int .i64 (65536 : Int))] (.tup [(.one .ptr), (.one (.int .i64))]) fun (x4 : (Option Addr × Int × Unit)) =>
 sif (x4.2.1 != (0 : Int)) (
 K none) (
 K x4.1)
noncomputable def h26 : Hint := (.seq none (.region [] (.ops 1 .done)) (.seq none (.region [0, 1, 2, 3, 4, 5, 6, 7, 8, 9, 10, 11, 12] (.ops 13 .done)) (.seq none (.seq none (.region [] (.ops 2 .done)) (.cond none (.seq none (.region [] (.ops 1 .done)) .leaf) .leaf)) (.seq none (.region [] (.ops 2 .done)) .leaf))))
theorem F26_tie (a0 : Option Addr) (a1 : Sl) (K : Option Addr → World → Prop) : vcgF tab Tryz.prog Tryz.f26 h26 [(.pointer a0), (.slice a1.a a1.len a1.cap)] (.one (.one .ptr)) K = F26 a0 a1 K := by kernel_rfl
theorem F26_calls {a0 : Option Addr} {a1 : Sl} {K : Option Addr → World → Prop} {w : World} (h : F26 a0 a1 K w) : callT Tryz.prog 26 #[(.pointer a0), (.slice a1.a a1.len a1.cap)] (.one (.one .ptr)) K w :=
  vcgF_sound tabOk Tryz.func26 h26 [(.pointer a0), (.slice a1.a a1.len a1.cap)] (.one (.one .ptr)) K w (Eq.mpr (congrFun (F26_tie a0 a1 K) w) h)
noncomputable def F28 (a0 : Option Addr) (a1 : ByteArray) (a2 : Sl) (K : Bool → World → Prop) : World → Prop :=
 callT Tryz.prog 49 #[(.pointer a0), (.string a1)] (.tup [(.one .sl), (.one .any)]) fun (x1 : (Sl × Value × Unit)) =>
 rdB Tryz.prog (do eqGuard .eql 26 (Operand.tmp 15) (Operand.const Value.nilIface) x1.2.1 .nilIface; binOp .eql 26 x1.2.1 .nilIface : Sem Value) fun r2 =>
 sif r2 (
 callT Tryz.prog 22 #[(.slice x1.1.a x1.1.len x1.1.cap), (.slice a2.a a2.len a2.cap)] (.one (.one .bool)) fun (x3 : Bool) =>
 K x3) (
 K false)
noncomputable def h28 : Hint := (.seq none (.region [] (.ops 1 .done)) (.seq none (.region [] (.ops 8 .done)) (.seq none (.region [] (.ops 3 (.split 17 (.ops 5 .done) (.skips 3 (.ops 2 .done))))) .leaf)))
theorem F28_tie (a0 : Option Addr) (a1 : ByteArray) (a2 : Sl) (K : Bool → World → Prop) : vcgF tab Tryz.prog Tryz.f28 h28 [(.pointer a0), (.string a1), (.slice a2.a a2.len a2.cap)] (.one (.one .bool)) K = F28 a0 a1 a2 K := by kernel_rfl
theorem F28_calls {a0 : Option Addr} {a1 : ByteArray} {a2 : Sl} {K : Bool → World → Prop} {w : World} (h : F28 a0 a1 a2 K w) : callT Tryz.prog 28 #[(.pointer a0), (.string a1), (.slice a2.a a2.len a2.cap)] (.one (.one .bool)) K w :=
  vcgF_sound tabOk Tryz.func28 h28 [(.pointer a0), (.string a1), (.slice a2.a a2.len a2.cap)] (.one (.one .bool)) K w (Eq.mpr (congrFun (F28_tie a0 a1 a2 K) w) h)
noncomputable def F29 (a0 : Option Addr) (a1 : (Sl × ByteArray × Int × Sl × Unit)) (a2 : Bool) (K : Bool → World → Prop) : World → Prop :=
 newO (.cells #[(.slice a1.1.a a1.1.len a1.1.cap), (.string a1.2.1), (.int .i64 a1.2.2.1), (.slice a1.2.2.2.1.a a1.2.2.2.1.len a1.2.2.2.1.cap)] 39) fun b1 =>
 nn a0 fun p2 =>
 ld (.ptr) p2 fun (x3 : Option Addr) =>
 callT Tryz.prog 59 #[(.pointer x3)] (.one (.one .sl)) fun (x4 : Sl) =>
 join (S := Bool × Unit) (fun J5 =>
 sloop (S := Bool × Int × Unit) (fun (s7 : Bool × Int × Unit) again8 =>
 sif (decide (s7.2.1 < ((x4.len : Nat) : Int))) (
 drew <|
 ix x4.a x4.len s7.2.1 fun p9 =>
 ld (.str) (p9.add (scaled (Int.toNat s7.2.1) 1)) fun (x10 : ByteArray) =>
 ld (.str) (⟨b1, 1, none⟩ : Addr) fun (x11 : ByteArray) =>
 join (S := Bool × Unit) (fun J12 =>
 sif s7.1 (
 J12 (true, ())) (
 J12 ((ByteArray.toList x10 == ByteArray.toList x11), ()))) fun (s13 : Bool × Unit) =>
 join (S := Bool × Unit) (fun J14 =>
 sloop (S := Bool × Int × Unit) (fun (s16 : Bool × Int × Unit) again17 =>
 ld (.sl) (at0 b1) fun (x18 : Sl) =>
 sif (decide (s16.2.1 < ((x18.len : Nat) : Int))) (
 join (S := Bool × Unit) (fun J19 =>
 drew <|
 sif s16.1 (
 J19 (true, ())) (
 ld (.sl) (at0 b1) fun (x21 : Sl) =>
 ix x21.a x21.len s16.2.1 fun p22 =>
 ld (.str) (p22.add (scaled (Int.toNat s16.2.1) 2)) fun (x23 : ByteArray) =>
 ix x4.a x4.len s7.2.1 fun p24 =>
 ld (.str) (p24.add (scaled (Int.toNat s7.2.1) 1)) fun (x25 : ByteArray) =>
 J19 ((ByteArray.toList x23 == ByteArray.toList x25), ()))) fun (s20 : Bool × Unit) =>
 again17 (s20.1, (IntKind.wrap .i64 (s16.2.1 + (1 : Int))), ())) (
 J14 (s16.1, ()))) ((ByteArray.toList x10 == ByteArray.toList x11), (0 : Int), ())) fun (s15 : Bool × Unit) =>
 sif (!s15.1) (
 K false) (
 again8 (s13.1, (IntKind.wrap .i64 (s7.2.1 + (1 : Int))), ()))) (
 J5 (s7.1, ()))) (false, (0 : Int), ())) fun (s6 : Bool × Unit) =>
 join (S := Unit) (fun J26 =>
 sloop (S := Int × Unit) (fun (s28 : Int × Unit) again29 =>
 ld (.sl) (at0 b1) fun (x30 : Sl) =>
 sif (decide (s28.1 < ((x30.len : Nat) : Int))) (
 join (S := Bool × Unit) (fun J31 =>
 sloop (S := Bool × Int × Unit) (fun (s33 : Bool × Int × Unit) again34 =>
 ld (.sl) (at0 b1) fun (x35 : Sl) =>
 sif (decide (s33.2.1 < ((x35.len : Nat) : Int))) (
 join (S := Bool × Unit) (fun J36 =>
 drew <|
 sif s33.1 (
 ld (.sl) (at0 b1) fun (x38 : Sl) =>
 ix x38.a x38.len s33.2.1 fun p39 =>
 ld (.str) (p39.add (scaled (Int.toNat s33.2.1) 2)) fun (x40 : ByteArray) =>
 ld (.sl) (at0 b1) fun (x41 : Sl) =>
 ix x41.a x41.len s28.1 fun p42 =>
 ld (.str) (p42.add (scaled (Int.toNat s28.1) 2)) fun (x43 : ByteArray) =>
 J36 ((!(ByteArray.toList x40 == ByteArray.toList x43)), ())) (
 J36 (false, ()))) fun (s37 : Bool × Unit) =>
 again34 (s37.1, (IntKind.wrap .i64 (s33.2.1 + (1 : Int))), ())) (
 J31 (s33.1, ()))) (true, (IntKind.wrap .i64 (s28.1 + (1 : Int))), ())) fun (s32 : Bool × Unit) =>
 join (S := Bool × Unit) (fun J44 =>
 drew <|
 sif s32.1 (
 ld (.sl) (at0 b1) fun (x46 : Sl) =>
 ix x46.a x46.len s28.1 fun p47 =>
 ld (.str) (p47.add (scaled (Int.toNat s28.1) 2)) fun (x48 : ByteArray) =>
 ld (.str) (⟨b1, 1, none⟩ : Addr) fun (x49 : ByteArray) =>
 sif (!(ByteArray.toList x48 == ByteArray.toList x49)) (
 nn a0 fun p50 =>
 ld (.ptr) p50 fun (x51 : Option Addr) =>
 ld (.sl) (at0 b1) fun (x52 : Sl) =>
 ix x52.a x52.len s28.1 fun p53 =>
 ld (.str) (p53.add (scaled (Int.toNat s28.1) 2)) fun (x54 : ByteArray) =>
 ld (.sl) (at0 b1) fun (x55 : Sl) =>
 ix x55.a x55.len s28.1 fun p56 =>
 ld (.sl) ((p56.add (scaled (Int.toNat s28.1) 2)).add 1) fun (x57 : Sl) =>
 callT Tryz.prog 28 #[(.pointer x51), (.string x54), (.slice x57.a x57.len x57.cap)] (.one (.one .bool)) fun (x58 : Bool) =>
 J44 ((!x58), ())) (
 J44 (false, ()))) (
 J44 (false, ()))) fun (s45 : Bool × Unit) =>
 sif s45.1 (
 K false) (
 again29 ((IntKind.wrap .i64 (s28.1 + (1 : Int))), ()))) (
 J26 ())) ((0 : Int), ())) fun (s27 : Unit) =>
 sif s6.1 (
 K true) (
 K (!a2))
noncomputable def h29 : Hint := (.seq none (.region [] (.ops 2 .done)) (.seq none (.region [] (.ops 6 .done)) (.seq none (.region [] (.ops 1 .done)) (.seq (some (1152921504605802304, [(8, (.one .bool))])) (.seq none (.region [] (.ops 1 .done)) (.block (.loop 1152921504605802304 [(8, (.one .bool)), (9, (.one (.int .i64)))] (.seq none (.seq none (.region [] (.ops 4 .done)) (.cond none .leaf .leaf)) (.seq none (.block (.seq none (.region [0, 1, 2, 3, 4, 5, 6, 7] (.ops 8 .done)) (.seq (some (128849019136, [(8, (.one .bool))])) (.region [] (.ops 2 (.split 34 (.skips 1 (.ops 2 .done)) (.ops 3 .done)))) (.seq (some (288230238712761344, [(10, (.one .bool))])) (.seq none (.region [] (.ops 1 .done)) (.block (.loop 288230238712761344 [(10, (.one .bool)), (11, (.one (.int .i64)))] (.seq none (.seq none (.region [] (.ops 5 .done)) (.cond none .leaf .leaf)) (.seq (some (288212783965668352, [(10, (.one .bool))])) (.block (.region [0, 1, 2, 3, 4, 5, 6, 7, 8, 9, 10, 11, 12, 13, 14] (.ops 2 (.split 45 (.skips 11 (.ops 2 .done)) (.ops 13 .done))))) (.region [] (.ops 3 .done))))))) (.seq none (.region [] (.ops 2 .done)) (.cond none (.seq none (.region [] (.ops 1 .done)) .leaf) .leaf)))))) (.region [] (.ops 3 .done))))))) (.seq (some (21267647932558653965307991459878694976, [])) (.seq none (.region [] (.ops 1 .done)) (.block (.loop 21267647932558653965307991459878694976 [(12, (.one (.int .i64)))] (.seq none (.seq none (.region [] (.ops 5 .done)) (.cond none .leaf .leaf)) (.seq none (.block (.seq none (.region [] (.ops 1 .done)) (.seq (some (4951760009567568509920108544, [(13, (.one .bool))])) (.seq none (.region [] (.ops 3 .done)) (.block (.loop 4951759566845710740890869760 [(13, (.one .bool)), (14, (.one (.int .i64)))] (.seq none (.seq none (.region [] (.ops 5 .done)) (.cond none .leaf .leaf)) (.seq (some (4951684599277795185273085952, [(13, (.one .bool))])) (.block (.region [0, 1, 2, 3, 4, 5, 6, 7, 8, 9, 10, 11, 12, 13, 14, 15, 16] (.ops 2 (.split 77 (.ops 15 .done) (.skips 13 (.ops 2 .done)))))) (.region [] (.ops 3 .done))))))) (.seq (some (21267647927606893809319391864889016320, [(123, (.one .bool))])) (.region [0, 1, 2, 3, 4, 5, 6, 7, 8, 9, 10, 11, 12, 13, 14, 15, 16, 17, 18, 19, 20, 21, 22, 23, 24, 25, 26, 27, 28, 29, 30, 31] (.ops 2 (.split 93 (.ops 11 (.split 104 (.ops 19 .done) (.skips 18 (.ops 1 .done)))) (.skips 9 (.ops 2 (.skips 18 (.ops 1 .done))))))) (.cond none (.seq none (.region [] (.ops 1 .done)) .leaf) .leaf))))) (.region [] (.ops 3 .done))))))) (.seq none (.region [] (.ops 2 (.split 125 (.skips 2 (.ops 2 .done)) (.ops 4 .done)))) .leaf))))))
theorem F29_tie (a0 : Option Addr) (a1 : (Sl × ByteArray × Int × Sl × Unit)) (a2 : Bool) (K : Bool → World → Prop) : vcgF tab Tryz.prog Tryz.f29 h29 [(.pointer a0), (.agg (Cells.vals c39 a1).toArray), (.bool a2)] (.one (.one .bool)) K = F29 a0 a1 a2 K := by kernel_rfl
theorem F29_calls {a0 : Option Addr} {a1 : (Sl × ByteArray × Int × Sl × Unit)} {a2 : Bool} {K : Bool → World → Prop} {w : World} (h : F29 a0 a1 a2 K w) : callT Tryz.prog 29 #[(.pointer a0), (.agg (Cells.vals c39 a1).toArray), (.bool a2)] (.one (.one .bool)) K w :=
  vcgF_sound tabOk Tryz.func29 h29 [(.pointer a0), (.agg (Cells.vals c39 a1).toArray), (.bool a2)] (.one (.one .bool)) K w (Eq.mpr (congrFun (F29_tie a0 a1 a2 K) w) h)
noncomputable def F30 (a0 : Sl) (a1 : Sl) (K : Bool → World → Prop) : World → Prop :=
 callT Tryz.prog 22 #[(.slice a0.a a0.len a0.cap), (.slice a1.a a1.len a1.cap)] (.one (.one .bool)) fun (x1 : Bool) =>
 sif (!x1) (
 K false) (
 newO (.cells #[(.slice none 0 0), (.slice none 0 0)] 119) fun b2 =>
 join (S := Unit) (fun J3 =>
 newO (.cells #[(.slice a0.a a0.len a0.cap), (.slice a1.a a1.len a1.cap)] 30) fun b5 =>
 sloop (S := Int × Unit) (fun (s6 : Int × Unit) again7 =>
 sif (decide (s6.1 < ((2 : Nat) : Int))) (
 join (S := Unit) (fun J8 =>
 ix (some (at0 b5)) 2 s6.1 fun p10 =>
 ld (.sl) (p10.add (scaled (Int.toNat s6.1) 1)) fun (x11 : Sl) =>
 join (S := Unit) (fun J12 =>
 sloop (S := Int × Unit) (fun (s14 : Int × Unit) again15 =>
 sif (decide (s14.1 < ((x11.len : Nat) : Int))) (
 ix x11.a x11.len s14.1 fun p16 =>
 stC (p16.add (scaled (Int.toNat s14.1) 1)) (.int .u8 (IntKind.wrap .u8 (IntKind.wrap .i64 ((50 : Int) + s6.1)))) <|
 again15 ((IntKind.wrap .i64 (s14.1 + (1 : Int))), ())) (
 J12 ())) ((0 : Int), ())) fun (s13 : Unit) =>
 chk (0 ≤ s6.1 ∧ s6.1 < ((2 : Nat) : Int)) <|
 stC ((at0 b2).add (scaled (Int.toNat s6.1) 1)) (.slice x11.a x11.len x11.cap) <|
 sloop (S := Int × Unit) (fun (s17 : Int × Unit) again18 =>
 sif (decide (s17.1 < (100 : Int))) (
 chk (0 ≤ s6.1 ∧ s6.1 < ((2 : Nat) : Int)) <|
 ld (.sl) ((at0 b2).add (scaled (Int.toNat s6.1) 1)) fun (x19 : Sl) =>
 newO (.cells #[(.int .u8 (IntKind.wrap .u8 (IntKind.wrap .i64 ((50 : Int) + s6.1))))] 5) fun b20 =>
 rawT Tryz.prog (.one (.one .sl)) (Builtin.append_ #[30, 30] 30 #[(.slice x19.a x19.len x19.cap), (.slice (some (at0 b20)) 1 1)]) fun (x21 : Sl) =>
 chk (0 ≤ s6.1 ∧ s6.1 < ((2 : Nat) : Int)) <|
 stC ((at0 b2).add (scaled (Int.toNat s6.1) 1)) (.slice x21.a x21.len x21.cap) <|
 again18 ((IntKind.wrap .i64 (s17.1 + (1 : Int))), ())) (
 J8 ())) ((0 : Int), ())) fun (s9 : Unit) =>
 again7 ((IntKind.wrap .i64 (s6.1 + (1 : Int))), ())) (
 J3 ())) ((0 : Int), ())) fun (s4 : Unit) =>
 join (S := Unit) (fun J22 =>
 sloop (S := Int × Unit) (fun (s24 : Int × Unit) again25 =>
 chk (0 ≤ (0 : Int) ∧ (0 : Int) < ((2 : Nat) : Int)) <|
 ld (.sl) ((at0 b2).add (scaled (Int.toNat (0 : Int)) 1)) fun (x26 : Sl) =>
 sif (decide (s24.1 < ((x26.len : Nat) : Int))) (
 join (S := Bool × Unit) (fun J27 =>
 chk (0 ≤ (0 : Int) ∧ (0 : Int) < ((2 : Nat) : Int)) <|
 ld (.sl) ((at0 b2).add (scaled (Int.toNat (0 : Int)) 1)) fun (x29 : Sl) =>
 ix x29.a x29.len s24.1 fun p30 =>
 ld (.int .u8) (p30.add (scaled (Int.toNat s24.1) 1)) fun (x31 : Int) =>
 sif (x31 != (50 : Int)) (
 J27 (true, ())) (
 chk (0 ≤ (1 : Int) ∧ (1 : Int) < ((2 : Nat) : Int)) <|
 ld (.sl) ((at0 b2).add (scaled (Int.toNat (1 : Int)) 1)) fun (x32 : Sl) =>
 ix x32.a x32.len s24.1 fun p33 =>
 ld (.int .u8) (p33.add (scaled (Int.toNat s24.1) 1)) fun (x34 : Int) =>
 sif (x34 != (51 : Int)) (
 J27 (true, ())) (
 sif (decide (s24.1 < ((a0.len : Nat) : Int))) (
 ix a0.a a0.len s24.1 fun p35 =>
 ld (.int .u8) (p35.add (scaled (Int.toNat s24.1) 1)) fun (x36 : Int) =>
 sif (x36 != (50 : Int)) (
 J27 (true, ())) (
 ix a1.a a1.len s24.1 fun p37 =>
 ld (.int .u8) (p37.add (scaled (Int.toNat s24.1) 1)) fun (x38 : Int) =>
 J27 ((x38 != (51 : Int)), ()))) (
 J27 (false, ()))))) fun (s28 : Bool × Unit) =>
 sif s28.1 (
 K false) (
 again25 ((IntKind.wrap .i64 (s24.1 + (1 : Int))), ()))) (
 J22 ())) ((0 : Int), ())) fun (s23 : Unit) =>
 K true)
noncomputable def h30 : Hint := (.seq none (.region [] (.ops 1 .done)) (.seq none (.seq none (.region [] (.ops 4 .done)) (.cond none (.seq none (.region [] (.ops 1 .done)) .leaf) .leaf)) (.seq none (.region [] (.ops 1 .done)) (.seq (some (18014398509450176, [])) (.seq none (.region [] (.ops 5 .done)) (.block (.loop 18014398508958656 [(19, (.one (.int .i64)))] (.seq none (.region [] (.ops 1 .done)) (.seq none (.cond none .leaf .leaf) (.seq (some (9007199252644800, [])) (.block (.seq none (.region [] (.ops 5 .done)) (.seq (some (68702699776, [])) (.seq none (.region [] (.ops 1 .done)) (.block (.loop 68702699776 [(8, (.one (.int .i64)))] (.seq none (.seq none (.region [] (.ops 4 .done)) (.cond none .leaf .leaf)) (.seq none (.block (.region [] (.ops 7 .done))) (.region [] (.ops 3 .done))))))) (.seq none (.region [] (.ops 4 .done)) (.seq none (.region [] (.ops 1 .done)) (.block (.loop 9006649498927616 [(9, (.one (.int .i64)))] (.seq none (.seq none (.region [] (.ops 2 .done)) (.cond none .leaf .leaf)) (.seq none (.block (.region [] (.ops 11 .done))) (.region [] (.ops 3 .done))))))))))) (.region [] (.ops 2 .done)))))))) (.seq (some (39614081257114154398262494224, [])) (.seq none (.region [] (.ops 1 .done)) (.block (.loop 39614081257114154398262494224 [(10, (.one (.int .i64)))] (.seq none (.seq none (.region [] (.ops 5 .done)) (.cond none .leaf .leaf)) (.seq none (.block (.seq (some (39614081254826325787558281216, [(94, (.one .bool))])) (.region [] (.ops 7 (.split 67 (.skips 6 (.ops 2 (.skips 18 (.ops 1 .done)))) (.ops 8 (.split 75 (.skips 18 (.ops 1 .done)) (.ops 5 (.split 80 (.ops 6 (.split 86 (.skips 5 (.ops 3 .done)) (.ops 8 .done))) (.skips 12 (.ops 2 .done))))))))) (.cond none (.seq none (.region [] (.ops 1 .done)) .leaf) .leaf))) (.region [] (.ops 3 .done))))))) (.seq none (.region [] (.ops 1 .done)) .leaf))))))
theorem F30_tie (a0 : Sl) (a1 : Sl) (K : Bool → World → Prop) : vcgF tab Tryz.prog Tryz.f30 h30 [(.slice a0.a a0.len a0.cap), (.slice a1.a a1.len a1.cap)] (.one (.one .bool)) K = F30 a0 a1 K := by kernel_rfl
theorem F30_calls {a0 : Sl} {a1 : Sl} {K : Bool → World → Prop} {w : World} (h : F30 a0 a1 K w) : callT Tryz.prog 30 #[(.slice a0.a a0.len a0.cap), (.slice a1.a a1.len a1.cap)] (.one (.one .bool)) K w :=
  vcgF_sound tabOk Tryz.func30 h30 [(.slice a0.a a0.len a0.cap), (.slice a1.a a1.len a1.cap)] (.one (.one .bool)) K w (Eq.mpr (congrFun (F30_tie a0 a1 K) w) h)
noncomputable def F33 (a0 : Sl) (K : Sl → World → Prop) : World → Prop :=
 rawT Tryz.prog (.one (.one .sl)) (Builtin.append_ #[30, 30] 30 #[(.slice none 0 0), (.slice a0.a a0.len a0.cap)]) fun (x1 : Sl) =>
 K x1
noncomputable def h33 : Hint := (.seq none (.region [] (.ops 1 .done)) (.seq none (.region [] (.ops 3 .done)) .leaf))
theorem F33_tie (a0 : Sl) (K : Sl → World → Prop) : vcgF tab Tryz.prog Tryz.f33 h33 [(.slice a0.a a0.len a0.cap)] (.one (.one .sl)) K = F33 a0 K := by kernel_rfl
theorem F33_calls {a0 : Sl} {K : Sl → World → Prop} {w : World} (h : F33 a0 K w) : callT Tryz.prog 33 #[(.slice a0.a a0.len a0.cap)] (.one (.one .sl)) K w :=
  vcgF_sound tabOk Tryz.func33 h33 [(.slice a0.a a0.len a0.cap)] (.one (.one .sl)) K w (Eq.mpr (congrFun (F33_tie a0 K) w) h)
end Go.Proofs.YtmooldhpiopcgaaGreatDoor
set_option linter.unusedSimpArgs false
set_option linter.unusedVariables false
set_option maxRecDepth 100000
namespace Go.Proofs.YtmooldhpiopcgaaGreatDoor
namespace Dq
open Go Go.Vx Dsk Cdc Trx
section
variable {w w' : World} {S F F' : Nat → Prop} {d : Nat} {D : Dk} {N : Nat}
theorem by_lit {b : Nat} {fr : Nat × Nat} {l : List UInt8} (h : w.heap[b]? = some (.cells (bv l).toArray 5 fr)) : By w ⟨some (at0 b), l.length, l.length⟩ l :=
  ⟨by simp, Nat.le_refl _, .inr ⟨b, 0, (bv l).toArray, fr, rfl, h, by simp, fun j v hj => by simpa using hj⟩⟩
theorem bstr_eq {l m : List UInt8} : (ByteArray.toList ⟨l.toArray⟩ == ByteArray.toList ⟨m.toArray⟩) = decide (l = m) := by
  rw [bytes_eq, decide_eq_decide]
  constructor
  · intro h
    have := congrArg (fun b : ByteArray => b.data.toList) h
    simpa using this
  · rintro rfl; rfl
abbrev nmA : Nm := { data := #[97] }
abbrev tOld : List UInt8 := [111, 108, 100]
abbrev tNew : List UInt8 := [110, 101, 119]
theorem encA (g : List UInt8 → Int) : encK g 1 tOld = (1, 0) := by
  unfold encK
  rw [if_neg (by decide), if_neg (by decide), if_neg (by decide)]
theorem able_plain (g : List UInt8 → Int) : ∃ (D1 D2 : Dk) (X : Fil) (D3 : Dk), (putR (newD 100) nmA tOld) = (D1, 0) ∧ openP g D1 nmA 1 10 = (D2, 0, some X, ⟨1, 0, tOld, false⟩) ∧ X.mark = [] ∧ X.name = nmA ∧ (saveP D2 X tNew false).1 = D3 ∧ (saveP D2 X tNew false).2.1 = 0 ∧ (callRead D3 nmA).2.1 = 0 ∧ (callRead D3 nmA).2.2 = tNew := by
  have ok0 := ok_new (space := 100) (by decide) (by decide)
  have s0 := Sol.new 100
  have hu0 : usedBut (newD 100) none ≤ ((names (newD 100).seen).length : Int) * (0 : Nat) := s0.used ok0 (fun m b hb => by cases hb) none
  have hn0 : (names (newD 100).seen).length = 0 := names_len (l := []) ⟨List.nodup_nil, fun n => by constructor; (intro h; cases h); (intro h; cases h)⟩
  have hu : userName nmA = true := by decide
  obtain ⟨hn, hsn⟩ := side_ok hu
  obtain ⟨p1, p2, p3, p4, p5, _⟩ := put_sol (n := nmA) (b := tOld) s0 ok0 hn (fun _ => by rw [hn0]; decide) (by
    show (3 : Int) ≤ 100 - usedBut (newD 100) none
    rw [hn0] at hu0; simp at hu0; omega)
  obtain ⟨D1, hD1⟩ : ∃ D1, D1 = (putR (newD 100) nmA tOld).1 := ⟨_, rfl⟩
  have okP : DkOk (putR (newD 100) nmA tOld).1 (0 + 1) := ok_put ok0 nmA tOld
  rw [← hD1] at p2 p3 p4 p5 okP
  have hv := p2.view nmA
  have hvn : vset (fun _ => none) nmA (some tOld) nmA = some tOld := by unfold vset; rw [if_pos rfl]
  rw [hvn] at hv
  obtain ⟨i, hi, hd⟩ := Option.map_eq_some_iff.1 hv
  have ho := open_old (g := g) (enc := 1) (limit := 10) p2.q hu (by decide) (by decide) hi hd (by rw [encA]; decide)
  rw [encA] at ho
  obtain ⟨X, hX⟩ : ∃ X : Fil, X = ⟨nmA, [], stampOf D1 nmA, (0, 0, 0)⟩ := ⟨_, rfl⟩
  have ho : openP g D1 nmA 1 10 = ({ D1 with steps := D1.steps + 1 + 1 }, 0, some X, ⟨1, 0, tOld, false⟩) := by rw [hX]; exact ho
  have s2 : Sol { D1 with steps := D1.steps + 1 + 1 } _ := p2.st (D1.steps + 1 + 1)
  have ok2 : DkOk { D1 with steps := D1.steps + 1 + 1 } (0 + 1 + 1 + 1) := ok_st (ok_st okP)
  have hXn : X.name = nmA := by rw [hX]
  have hXm : X.mark = [] := by rw [hX]
  have hside : D1.seen (side nmA) = none := p2.none_iff.2 (by unfold vset; rw [if_neg (side_ne nmA)])
  have hused := p2.used okP (B := 3) (fun m b hb => by
    unfold vset at hb
    split at hb
    · cases hb; decide
    · cases hb) none
  rw [hn0] at p5
  obtain ⟨c, h1, h2, h3, h4⟩ := save_quiet (X := X) (b := tNew) (force := false) s2.q ok2 (by rw [hXn]; exact hu) (fun _ => by show (names D1.seen).length < 16; omega) (by
    rw [hXm]
    show usedBut D1 none + 3 ≤ D1.space
    have : D1.space = 100 := p3
    rw [this]
    have h5 : ((names D1.seen).length : Int) ≤ 1 := by omega
    have : ((names D1.seen).length : Int) * ((3 : Nat) : Int) ≤ 1 * 3 := Int.mul_le_mul_of_nonneg_right h5 (by decide)
    omega) (.inr (by
    unfold knownAt
    have e1 : stampOf { D1 with steps := D1.steps + 1 + 1 } X.name = X.known := by rw [hX]; rfl
    rw [e1]; split <;> rfl))
  refine ⟨D1, _, X, _, by rw [hD1, ← p1], ho, hXm, hXn, rfl, by rw [h1], ?_⟩
  rw [hXm, hXn] at h2
  have s3 := h2.sol s2 ok2 (by unfold vset; rw [if_neg (side_ne nmA)]) h3
  have hv3 := s3.view nmA
  have hvn3 : vset (vset (fun _ => none) nmA (some tOld)) nmA (some ([] ++ tNew)) nmA = some ([] ++ tNew) := by unfold vset; rw [if_pos rfl]
  rw [hvn3] at hv3
  obtain ⟨i3, hi3, hd3⟩ := Option.map_eq_some_iff.1 hv3
  rw [read_q s3.q hn, hi3, if_neg (by simp)]
  exact ⟨rfl, hd3⟩
set_option maxHeartbeats 1000000 in
theorem able_call (hl : LaidE w) {K : Bool → World → Prop} (hK : ∀ w', Ext w w' → K true w') : callT Tryz.prog 14 #[] (.one (.one .bool)) K w := by
  refine F14_calls ?_
  unfold F14
  have hp : 0 < w.heap.size := by obtain ⟨c, t, fr, h, _⟩ := hl; exact lt_of_heap h
  obtain ⟨D1, D2, X, D3, a1, a2, a3, a4, a5, a6, a7, a8⟩ := able_plain fun _ => 0
  have ok0 := ok_new (space := 100) (by decide) (by decide)
  refine newS (by decide) (by decide) hp fun d F w1 A1 e1 hF => ?_
  have hz1 := e1.size
  refine join_r (fun x W => x = (false, ()) ∧ ∃ F', DS W d F' D1 2 ∧ Ext w W ∧ ∀ k, F' k → w.heap.size ≤ k) (sif_r (fun h => by cases h) fun _ => rdB_nnil' (sif_false ?_) uE) ?_
  · refine newO_r fun b5 w2 e2 n2 hb2 hz2 => lit_r (n := 3) (m := 3) uB ub n2 fun w3 fr n3 u3 => ?_
    have hx : By w3 ⟨some (at0 b5), 3, 3⟩ tOld := by_lit (l := tOld) n3
    have A3 := (A1.ext e2).frame u3 fun k hk hh => by have := A1.lt _ hk; omega
    have e3 : Ext w w3 := (e1.trans e2).step u3 fun k hk => by omega
    refine putS (x := ⟨some (at0 b5), 3, 3⟩) A3 (by omega) hx.x (fun k hk => ⟨hx.blk_lt hk, fun hh => by
      obtain ⟨q, hq, rfl⟩ := hk
      cases hq
      have := A1.lt _ hh
      have : b5 < w1.heap.size := this
      omega⟩) fun F4 w4 v4 hv4 A4 u4 hF4 => ?_
    have a1' : putR (newD 100) { data := #[97] } tOld = (D1, 0) := a1
    rw [a1'] at hv4 A4
    rw [hv4.ok rfl]
    have z3 := e3.size
    exact rdB_nnil' ⟨rfl, F4, A4, e3.step u4 fun k hk => hF k hk, fun k hk => (hF4 k hk).elim (hF k) fun hh => by omega⟩ uE
  rintro _ W1 ⟨rfl, F1, B1, E1, G1⟩
  have zz1 := E1.size
  refine sif_false (open_call (g := fun _ => 0) (fun _ => .inr (.inl (by decide))) B1 (by omega) (hl.ext E1) (by decide) fun F2 w2 fo sd R => ?_)
  have a2' : openP (fun _ => 0) D1 { data := #[97] } 1 10 = (D2, 0, some X, ⟨1, 0, tOld, false⟩) := a2
  rw [a2'] at R ⊢
  obtain ⟨f, sm, rfl, hX, hf, hsm⟩ := R.file
  have E2 : Ext w w2 := E1.step R.upd fun k hk => G1 k hk
  have G2 : ∀ k, F2 k → w.heap.size ≤ k := fun k hk => (R.new k hk).elim (G1 k) fun hh => by omega
  have zz2 := E2.size
  refine newO_r fun b10 w3 e3 n3 hb3 hz3 => aggSt_r n3 rfl rfl (by decide) fun w4 u4 n4 hz4 => ?_
  have n4 : w4.heap[b10]? = some (.cells (Cells.vals c32 (lodC 1 0 sd false)).toArray 32 (0, 0)) := n4
  have e24 : Ext w2 w4 := e3.step u4 fun k hk => by omega
  refine newO_r fun b11 w5 e5 n5 hb5 hz5 => lit_r (n := 3) (m := 3) uB ub n5 fun w6 fr n6 u6 => ?_
  have e46 : Ext w4 w6 := e5.step u6 fun k hk => by omega
  have e26 := e24.trans e46
  have hx : By w6 ⟨some (at0 b11), 3, 3⟩ tNew := by_lit (l := tNew) n6
  refine _root_.Go.Proofs.YtmooldhpiopcgaaGreatDoor.open_call (e := .u8) (lim := 10) (s := ⟨some (at0 b11), 3, 3⟩) hx (by decide) (by decide) fun p O M w7 hT _ hM e7 hO => ?_
  have e27 := e26.trans e7
  have E7 := E2.trans e27
  have A7 := R.disk.ext e27
  have X7 := hX.ext e27
  have z7 := e27.size
  have z26 := e26.size
  refine join_r (fun x W => x = (false, ()) ∧ ∃ F', DS W d F' D3 6000 ∧ Ext w W ∧ ∀ k, F' k → w.heap.size ≤ k) ?_ ?_
  · refine sif_r (fun h => by cases h) fun _ => sif_r (fun h => by cases h) fun _ => sif_r (fun h => by cases h) fun _ => sif_r (fun h => by cases h) fun _ => ?_
    refine ld_r ((e46.trans e7).ext_get n4) (off := 2) (x := sd) rfl (bytesStr_r uB ub us ((R.data.in.ext e27).x) ?_)
    have : (ByteArray.toList ⟨tOld.toArray⟩ == ByteArray.toList ({ data := #[111, 108, 100] } : ByteArray)) = true := by
      have := bstr_eq (l := tOld) (m := tOld)
      rw [decide_eq_true rfl] at this
      exact this
    rw [this]
    refine sif_r (fun h => by cases h) fun _ => save_call A7 (by omega) hT (fun k hk => ⟨fun hh => by have := hO k hk; have := R.disk.lt _ hh; omega, fun hh => by have := hO k hk; have := lt_of_heap hX.at_.box; omega⟩) X7 fun F8 w8 A8 _ _ _ u8 hF8 => ?_
    rw [hM] at A8 ⊢
    rw [a5] at A8
    rw [a6]
    refine ⟨rfl, F8, A8.mono (by omega), E7.step u8 fun k hk => hk.elim (G2 k) fun hh => by omega, fun k hk => (hF8 k hk).elim (G2 k) fun hh => by have := E7.size; omega⟩
  · rintro _ W8 ⟨rfl, F8, A8, E8, G8⟩
    refine sif_false (readS A8 (by omega) fun F9 w9 sx v9 hv9 A9 u9 hF9 row9 _ => ?_)
    have a7' : (callRead D3 { data := #[97] }).2.1 = 0 := a7
    have a8' : (callRead D3 { data := #[97] }).2.2 = tNew := a8
    rw [a7'] at hv9
    rw [a8'] at row9
    rw [hv9.ok rfl]
    have E9 : Ext w w9 := E8.step u9 fun k hk => G8 k hk
    refine rdB_nil' (sif_true (bytesStr_r uB ub us row9.in.x ?_)) uE
    have : (ByteArray.toList ⟨tNew.toArray⟩ == ByteArray.toList ({ data := #[110, 101, 119] } : ByteArray)) = true := by
      have := bstr_eq (l := tNew) (m := tNew)
      rw [decide_eq_true rfl] at this
      exact this
    rw [this]
    exact hK w9 E9
end
end Dq
end Go.Proofs.YtmooldhpiopcgaaGreatDoor
set_option linter.unusedSimpArgs false
set_option linter.unusedVariables false
set_option maxRecDepth 100000
namespace Go.Proofs.YtmooldhpiopcgaaGreatDoor
namespace Dq
open Go Go.Vx Dsk Cdc Trx
section
variable {w w' : World} {S F F' : Nat → Prop} {d : Nat} {D : Dk} {N : Nat}
theorem str_at {s : ByteArray} {i : Nat} (h : i < s.size) : s[i]? = some (s.get! i) := by
  have h1 := get_at h
  rw [Array.getElem?_toList] at h1
  have h' : i < s.data.size := h
  rw [getElem?_pos s i h]
  rw [getElem?_pos s.data i h'] at h1
  exact h1
set_option maxHeartbeats 1000000 in
theorem named_call {n : Nm} (hs : n.size < 2 ^ 62) {K : Bool → World → Prop} (hK : K (userName n) w) : callT Tryz.prog 16 #[.string n] (.one (.one .bool)) K w := by
  refine F16_calls ?_
  unfold F16
  refine join_at (decide (n.size = 0 ∨ 32 ≤ n.size ∨ n.data.back? = some 126), ()) ?_ ?_
  · refine sif_r (fun h => ⟨tupb ⟨fun _ => decide_eq_true (.inl ?_), fun _ => rfl⟩, rfl⟩) fun h => sif_r (fun h2 => ⟨tupb ⟨fun _ => decide_eq_true (.inr (.inl ?_)), fun _ => rfl⟩, rfl⟩) fun h2 => ?_
    · have := of_decide_eq_true h; omega
    · have := of_decide_eq_true h2; omega
    have h : n.size ≠ 0 := by have := of_decide_eq_false h; omega
    have h2 : ¬ 32 ≤ n.size := by have := of_decide_eq_false h2; omega
    have ew : IntKind.wrap .i64 (((ByteArray.size n : Nat) : Int) - 1) = ((n.size - 1 : Nat) : Int) := by rw [wrap64 (by omega) (by omega)]; omega
    rw [ew]
    refine ⟨n.get! (n.size - 1), ⟨by omega, by rw [Int.toNat_natCast]; exact str_at (by omega)⟩, tupb ?_, rfl⟩
    have hb : n.data.back? = some (n.get! (n.size - 1)) := by
      rw [Array.back?_eq_getElem?]
      have := get_at (s := n) (i := n.size - 1) (by omega)
      rw [Array.getElem?_toList] at this
      exact this
    have e126 := u8_eq (n.get! (n.size - 1)) 126 (by decide)
    have e126 : (((n.get! (n.size - 1)).toNat : Int) == 126) = (n.get! (n.size - 1) == 126) := e126
    rw [e126, beq_iff_eq, decide_eq_true_eq, hb]
    constructor
    · intro hh; exact .inr (.inr (by rw [hh]))
    · rintro (hh | hh | hh)
      · exact absurd hh h
      · exact absurd hh h2
      · exact Option.some.inj hh
  refine sif_r (fun h => ?_) fun h => ?_
  · have h := of_decide_eq_true h
    have : userName n = false := by
      unfold userName okName
      rcases h with h | h | h
      · simp [h]
      · have : ¬ n.size < 32 := by omega
        simp [this]
      · simp [h]
    rw [this] at hK; exact hK
  have h := of_decide_eq_false h
  simp only [not_or] at h
  obtain ⟨h1, h2, h3⟩ := h
  have h4 : n.size < 32 := by omega
  have h5 : n.size ≤ 32 := by omega
  have hu : userName n = n.data.toList.all okByte := by
    unfold userName okName
    simp [h1, h3, h4, h5]
  rw [hu] at hK
  refine join_r (fun _ W => w = W ∧ n.data.toList.all okByte = true) ?_ ?_
  · refine sloop_r (fun s W => ∃ i : Nat, s = ((i : Int), ()) ∧ w = W ∧ i ≤ n.size ∧ ∀ j, j < i → okByte (n.get! j) = true) (fun s _ => n.size - s.1.toNat) ⟨0, rfl, rfl, by omega, fun j hj => by omega⟩ ?_
    rintro _ _ ⟨i, rfl, rfl, hi, hok⟩
    refine sif_r (fun hlt => ?_) fun hge => ?_
    · have hlt : i < n.size := by have := of_decide_eq_true hlt; omega
      refine ⟨n.get! i, ⟨by omega, by rw [Int.toNat_natCast]; exact str_at hlt⟩, ?_⟩
      obtain ⟨c, hc⟩ : ∃ c : Nat, c = (n.get! i).toNat := ⟨_, rfl⟩
      have hokb : okByte (n.get! i) = decide ((97 ≤ c ∧ c ≤ 122) ∨ (65 ≤ c ∧ c ≤ 90) ∨ (48 ≤ c ∧ c ≤ 57) ∨ c = 46 ∨ c = 95 ∨ c = 45 ∨ c = 126) := by rw [hc]; rfl
      rw [← hc]
      refine join_at (!okByte (n.get! i), ()) ?_ (sif_r (fun hb => ?_) fun hb => ?_)
      · rw [hokb]
        repeat' refine sif_r (fun _ => ?_) fun _ => ?_
        all_goals
          refine ⟨tupb ?_, rfl⟩
          clear hK hu hok
          simp only [decide_eq_true_eq, decide_eq_false_iff_not, beq_iff_eq, beq_eq_false_iff_ne, ne_eq, Bool.not_eq_true', bne_iff_ne, Bool.false_eq_true, false_iff, Decidable.not_not, ge_iff_le] at *
          omega
      · have hb : okByte (n.get! i) = false := by simpa using hb
        have : n.data.toList.all okByte = false := by
          rw [Bool.eq_false_iff]; intro hh
          rw [List.all_eq_true] at hh
          have := hh _ (List.mem_of_getElem? (get_at hlt))
          rw [hb] at this; cases this
        rw [this] at hK; exact hK
      · have hb : okByte (n.get! i) = true := by simpa using hb
        rw [wrap64 (by omega) (by omega)]
        refine ⟨⟨i + 1, by rw [show ((i : Int) + 1) = ((i + 1 : Nat) : Int) by omega], rfl, by omega, fun j hj => ?_⟩, ?_⟩
        · by_cases hj' : j = i
          · rw [hj']; exact hb
          · exact hok j (by omega)
        · show n.size - ((i : Int) + 1).toNat < n.size - (i : Int).toNat
          omega
    · have hge := of_decide_eq_false hge
      refine ⟨rfl, ?_⟩
      rw [List.all_eq_true]
      intro x hx
      obtain ⟨j, hj⟩ := List.mem_iff_getElem?.1 hx
      have hlt := (List.getElem?_eq_some_iff.1 hj).1
      have hlt : j < n.size := by simpa using hlt
      rw [get_at hlt] at hj
      cases hj
      exact hok j (by omega)
  · rintro _ _ ⟨rfl, hall⟩
    rw [hall] at hK; exact hK
end
end Dq
end Go.Proofs.YtmooldhpiopcgaaGreatDoor
set_option linter.unusedSimpArgs false
set_option linter.unusedVariables false
set_option maxRecDepth 100000
namespace Go.Proofs.YtmooldhpiopcgaaGreatDoor
namespace Dq
open Go Go.Vx Dsk Cdc Trx
section
variable {w w' : World} {S F F' : Nat → Prop} {d : Nat} {D : Dk} {N : Nat}
abbrev Fls := List (Nm × List UInt8)
structure FlsIn (w : World) (s : Sl) (rows : List (Cells.T c65)) (fs : Fls) : Prop where
  row : SlX w s 2 (flat c65 rows)
  len : rows.length = fs.length
  at_ : ∀ (i : Nat) r f, rows[i]? = some r → fs[i]? = some f → r.1 = f.1 ∧ Bytes w r.2.1 f.2 ∧ f.1.size < 2 ^ 62 ∧ f.2.length ≤ 2 ^ 30
theorem FlsIn.ext {s : Sl} {rows : List (Cells.T c65)} {fs : Fls} (h : FlsIn w s rows fs) (e : Ext w w') : FlsIn w' s rows fs :=
  ⟨h.row.ext e, h.len, fun i r f hr hf => let ⟨a, b, c⟩ := h.at_ i r f hr hf; ⟨a, b.ext e, c⟩⟩
theorem FlsIn.slen {s : Sl} {rows : List (Cells.T c65)} {fs : Fls} (h : FlsIn w s rows fs) : fs.length = s.len := by
  have := SlX.lenR (cs := c65) h.row (by decide); rw [← h.len]; exact this
theorem FlsIn.in_ {s : Sl} {rows : List (Cells.T c65)} {fs : Fls} (h : FlsIn w s rows fs) {i : Nat} (hi : i < fs.length) : ∃ t r f, SlIn w s t 2 (flat c65 rows) ∧ rows[i]? = some r ∧ fs[i]? = some f ∧ r.1 = f.1 ∧ Bytes w r.2.1 f.2 ∧ f.1.size < 2 ^ 62 ∧ f.2.length ≤ 2 ^ 30 := by
  obtain ⟨t, ht⟩ := SlX.in_of h.row (by rw [← h.slen]; omega)
  have hir : i < rows.length := by rw [h.len]; exact hi
  have hr : rows[i]? = some rows[i] := List.getElem?_eq_getElem hir
  have hf : fs[i]? = some fs[i] := List.getElem?_eq_getElem hi
  exact ⟨t, _, _, ht, hr, hf, h.at_ i _ _ hr hf⟩
structure Scn (w : World) (x : Cells.T c39) (rows : List (Cells.T c65)) (fs : Fls) (bs : List UInt8) : Prop where
  files : FlsIn w x.1 rows fs
  data : Bytes w x.2.2.2.1 bs
  nm : x.2.1.size < 2 ^ 62
  dl : bs.length ≤ 2 ^ 30
theorem Scn.ext {x : Cells.T c39} {rows : List (Cells.T c65)} {fs : Fls} {data : List UInt8} (h : Scn w x rows fs data) (e : Ext w w') : Scn w' x rows fs data := ⟨h.files.ext e, h.data.ext e, h.nm, h.dl⟩
abbrev scells (x : Cells.T c39) : Array Value := (Cells.vals c39 x).toArray
theorem name_ld {rows : List (Cells.T c65)} {s : Sl} {t : TypeId} (h : SlIn w s t 2 (flat c65 rows)) {i : Nat} {r : Cells.T c65} (hr : rows[i]? = some r) {K : Addr → ByteArray → World → Prop} (hK : ∀ p, K p r.1 w) :
    ix s.a s.len (i : Int) (fun p => ld .str (p.add (scaled (Int.toNat (i : Int)) 2)) (K p)) w :=
  ix_ldf0 (c := .str) (cs := c65) h (by omega) (by rw [Int.toNat_natCast]; exact hr) rfl hK
theorem data_ld {rows : List (Cells.T c65)} {s : Sl} {t : TypeId} (h : SlIn w s t 2 (flat c65 rows)) {i : Nat} {r : Cells.T c65} (hr : rows[i]? = some r) {K : Addr → Sl → World → Prop} (hK : ∀ p, K p r.2.1 w) :
    ix s.a s.len (i : Int) (fun p => ld .sl ((p.add (scaled (Int.toNat (i : Int)) 2)).add 1) (K p)) w :=
  ix_ldf (c := .sl) (cs := c65) (j := 1) h (by omega) (by rw [Int.toNat_natCast]; exact hr) rfl hK
theorem same_call {s t : Sl} {l m : List UInt8} (hs : Bytes w s l) (ht : Bytes w t m) (hl : l.length ≤ 2 ^ 60) {K : Bool → World → Prop} (hK : ∀ w', Ext w w' → K (decide (l = m)) w') : callT Tryz.prog 22 #[.slice s.a s.len s.cap, .slice t.a t.len t.cap] (.one (.one .bool)) K w := by
  refine F22_calls (a0 := s) (a1 := t) ?_
  unfold F22
  have h1 := bys_len hs
  have h2 := bys_len ht
  refine sif_r (fun h => ?_) fun h => ?_
  · have h : s.len ≠ t.len := fun hh => by rw [hh] at h; simp at h
    rw [decide_eq_false (fun hh => h (by rw [← h1, ← h2, hh]))] at hK
    exact hK _ (Ext.refl _)
  have h : s.len = t.len := by
    have : ((s.len : Nat) : Int) = t.len := by simpa using h
    omega
  refine join_r (fun _ W => Ext w W ∧ l = m) ?_ ?_
  · refine sloop_r (fun s W => ∃ i : Nat, s = ((i : Int), ()) ∧ Ext w W ∧ i ≤ l.length ∧ ∀ j, j < i → l[j]? = m[j]?) (fun s _ => l.length - s.1.toNat) ⟨0, rfl, Ext.refl _, Nat.zero_le _, fun j hj => by omega⟩ ?_
    rintro _ W ⟨i, rfl, e, hi, hj⟩
    dsimp only
    refine sif_r (fun hlt => ?_) fun hge => ?_
    · have hlt : i < l.length := by have := of_decide_eq_true hlt; omega
      obtain ⟨x, hx⟩ : ∃ x, l[i]? = some x := ⟨_, List.getElem?_eq_getElem hlt⟩
      obtain ⟨y, hy⟩ : ∃ y, m[i]? = some y := ⟨_, List.getElem?_eq_getElem (by omega)⟩
      refine drew_r fun w1 e1 _ => ?_
      have e01 := e.trans e1
      refine byt (hs.ext e01) (by omega) (x := x) (by rw [Int.toNat_natCast]; exact hx) fun _ => byt (ht.ext e01) (by omega) (x := y) (by rw [Int.toNat_natCast]; exact hy) fun _ => sif_r (fun hne => ?_) fun he => ?_
      · have hxy : x ≠ y := fun hh => by rw [hh] at hne; simp at hne
        rw [decide_eq_false (fun hh => hxy (by rw [hh, hy] at hx; exact (Option.some.inj hx).symm))] at hK
        exact hK _ e01
      · have hxy : x = y := by
          have : (x.toNat : Int) = y.toNat := by simpa using he
          exact UInt8.toNat_inj.1 (by omega)
        rw [wrap64 (by omega) (by omega)]
        refine ⟨⟨i + 1, by rw [show ((i : Int) + 1) = ((i + 1 : Nat) : Int) by omega], e01, by omega, fun j hj' => ?_⟩, ?_⟩
        · by_cases hji : j = i
          · rw [hji, hx, hy, hxy]
          · exact hj j (by omega)
        · show l.length - ((i : Int) + 1).toNat < l.length - (i : Int).toNat
          omega
    · have hge : ¬ i < l.length := by have := of_decide_eq_false hge; omega
      refine ⟨e, List.ext_getElem? fun j => ?_⟩
      by_cases hji : j < i
      · exact hj j hji
      · rw [List.getElem?_eq_none (by omega), List.getElem?_eq_none (by omega)]
  · rintro _ W ⟨e, h⟩
    rw [decide_eq_true h] at hK; exact hK _ e
theorem twin_call {s : Sl} {l : List UInt8} (hs : Bytes w s l) (hl : l.length ≤ 2 ^ 40) {K : Sl → World → Prop} (hK : ∀ s' w', BytesO w' w.heap.size s' l → Ext w w' → K s' w') : callT Tryz.prog 33 #[.slice s.a s.len s.cap] (.one (.one .sl)) K w := by
  refine F33_calls (a0 := s) ?_
  unfold F33
  have h1 := bys_len hs
  refine append_rx EB uB (B := w.heap.size) (s := ⟨none, 0, 0⟩) (vs := []) (SlOwn.nil _ _ _ _) hs (bv_one _) (by dsimp only; omega) (Nat.le_refl _) fun s' w' h' _ u' _ => hK s' w' (by simpa using h') ((Ext.refl w).step u' fun k hk => nil_blk hk)
def smallP (fs : Fls) (n : Nm) (enc : Int) (data : List UInt8) : Bool := userName n && (decide (0 ≤ enc) && (decide (enc ≤ 4) && (decide (data.length ≤ 60000) && (decide (fs.length ≤ 14) && fs.all fun f => userName f.1 && decide (f.2.length ≤ 60000)))))
set_option maxHeartbeats 1000000 in
theorem small_call {x : Cells.T c39} {rows : List (Cells.T c65)} {fs : Fls} {data : List UInt8} (h : Scn w x rows fs data) {K : Bool → World → Prop} (hK : ∀ w', Ext w w' → K (smallP fs x.2.1 x.2.2.1 data) w') : callT Tryz.prog 20 #[.agg (scells x)] (.one (.one .bool)) K w := by
  refine F20_calls (a0 := x) ?_
  unfold F20
  have hdl := bys_len h.data
  have hfl := h.files.slen
  obtain ⟨(sf : Sl), (nm : ByteArray), (enc : Int), (sd : Sl), ⟨⟩⟩ := x
  dsimp only at h hdl hfl hK ⊢
  refine newO_r fun b w1 e1 n1 hb hz => ?_
  have h := h.ext e1
  refine join_r (fun y W => w1 = W ∧ y = (!(userName nm && (decide (0 ≤ enc) && (decide (enc ≤ 4) && (decide (data.length ≤ 60000) && decide (fs.length ≤ 14))))), ())) ?_ ?_
  · refine ld_r n1 (off := 1) (x := nm) rfl (named_call h.nm (sif_r (fun hc => ?_) fun hc => ?_))
    · have hc : userName nm = false := by simpa using hc
      exact ⟨rfl, by rw [hc]; rfl⟩
    have hc : userName nm = true := by simpa using hc
    refine ld_r n1 (off := 2) (x := enc) rfl (sif_r (fun hc1 => ?_) fun hc1 => ?_)
    · have hc1 := of_decide_eq_true hc1
      exact ⟨rfl, by rw [hc, decide_eq_false (p := 0 ≤ enc) (by omega)]; rfl⟩
    have hc1 := of_decide_eq_false hc1
    refine ld_r n1 (off := 2) (x := enc) rfl (sif_r (fun hc2 => ?_) fun hc2 => ?_)
    · have hc2 := of_decide_eq_true hc2
      exact ⟨rfl, by rw [hc, decide_eq_true (p := 0 ≤ enc) (by omega), decide_eq_false (p := enc ≤ 4) (by omega)]; rfl⟩
    have hc2 := of_decide_eq_false hc2
    refine ld_r n1 (off := 3) (x := sd) rfl (sif_r (fun hc3 => ?_) fun hc3 => ?_)
    · have hc3 := of_decide_eq_true hc3
      exact ⟨rfl, by rw [hc, decide_eq_true (p := 0 ≤ enc) (by omega), decide_eq_true (p := enc ≤ 4) (by omega), decide_eq_false (p := data.length ≤ 60000) (by omega)]; rfl⟩
    have hc3 := of_decide_eq_false hc3
    refine ld_r n1 (off := 0) (x := sf) rfl ⟨rfl, ?_⟩
    rw [hc, decide_eq_true (p := 0 ≤ enc) (by omega), decide_eq_true (p := enc ≤ 4) (by omega), decide_eq_true (p := data.length ≤ 60000) (by omega)]
    congr 1
    rw [Bool.eq_iff_iff]
    simp only [decide_eq_true_eq, Bool.true_and, Bool.not_eq_true', decide_eq_false_iff_not]
    omega
  rintro _ _ ⟨rfl, rfl⟩
  dsimp only
  have hall : smallP fs nm enc data = ((userName nm && (decide (0 ≤ enc) && (decide (enc ≤ 4) && (decide (data.length ≤ 60000) && decide (fs.length ≤ 14))))) && fs.all fun f => userName f.1 && decide (f.2.length ≤ 60000)) := by
    unfold smallP
    cases userName nm <;> cases decide (0 ≤ enc) <;> cases decide (enc ≤ 4) <;> cases decide (data.length ≤ 60000) <;> cases decide (fs.length ≤ 14) <;> rfl
  refine sif_r (fun hc => ?_) fun hc => ?_
  · have hc := (Bool.not_eq_true' _).mp hc
    rw [hall, hc] at hK
    exact hK _ e1
  have hc := (Bool.not_eq_false' _).mp hc
  rw [hall, hc, Bool.true_and] at hK
  have hn14 : fs.length ≤ 14 := by
    simp only [Bool.and_eq_true, decide_eq_true_eq] at hc
    exact hc.2.2.2.2
  refine join_r (fun _ W => Ext w W ∧ (fs.all fun f => userName f.1 && decide (f.2.length ≤ 60000)) = true) ?_ ?_
  · refine sloop_r (fun s W => ∃ i : Nat, s = ((i : Int), ()) ∧ Ext w1 W ∧ i ≤ fs.length ∧ ∀ (j : Nat) f, j < i → fs[j]? = some f → (userName f.1 && decide (f.2.length ≤ 60000)) = true) (fun s _ => fs.length - s.1.toNat) ⟨0, rfl, Ext.refl _, Nat.zero_le _, fun j f hj => by omega⟩ ?_
    rintro _ W ⟨i, rfl, e, hi, hj⟩
    dsimp only
    have nW := e.ext_get n1
    have hW := h.ext e
    refine ld_r nW (off := 0) (x := sf) rfl (sif_r (fun hlt => ?_) fun hge => ?_)
    · have hlt : i < fs.length := by have := of_decide_eq_true hlt; omega
      obtain ⟨t, r, f, hin, hr, hf, g1, g2, g3, g4⟩ := hW.files.in_ hlt
      have hrl := bys_len g2
      have hfalse : (userName f.1 && decide (f.2.length ≤ 60000)) = false → (fs.all fun f => userName f.1 && decide (f.2.length ≤ 60000)) = false := fun hh => by
        rw [Bool.eq_false_iff]; intro ha
        rw [List.all_eq_true] at ha
        have := ha f (List.mem_of_getElem? hf)
        rw [hh] at this; cases this
      refine join_r (fun y W' => W = W' ∧ y = (!(userName f.1 && decide (f.2.length ≤ 60000)), ())) ?_ ?_
      · refine ld_r nW (off := 0) (x := sf) rfl (name_ld hin hr fun _ => ?_)
        rw [g1]
        refine named_call g3 (sif_r (fun hu => ?_) fun hu => ?_)
        · have hu : userName f.1 = false := by simpa using hu
          exact ⟨rfl, by rw [hu]; rfl⟩
        have hu : userName f.1 = true := by simpa using hu
        refine ld_r nW (off := 0) (x := sf) rfl (data_ld hin hr fun _ => ⟨rfl, ?_⟩)
        rw [hu, Bool.true_and]
        congr 1
        rw [Bool.eq_iff_iff]
        simp only [decide_eq_true_eq, Bool.not_eq_true', decide_eq_false_iff_not]
        omega
      rintro _ _ ⟨rfl, rfl⟩
      dsimp only
      refine sif_r (fun hb => ?_) fun hb => ?_
      · have hb := (Bool.not_eq_true' _).mp hb
        rw [hfalse hb] at hK
        exact hK _ (e1.trans e)
      have hb := (Bool.not_eq_false' _).mp hb
      rw [wrap64 (by omega) (by omega)]
      refine ⟨⟨i + 1, by rw [show ((i : Int) + 1) = ((i + 1 : Nat) : Int) by omega], e, by omega, fun j f' hj' hf' => ?_⟩, ?_⟩
      · by_cases hji : j = i
        · rw [hji, hf] at hf'; cases hf'; exact hb
        · exact hj j f' (by omega) hf'
      · show fs.length - ((i : Int) + 1).toNat < fs.length - (i : Int).toNat
        omega
    · have hge : ¬ i < fs.length := by have := of_decide_eq_false hge; omega
      refine ⟨e1.trans e, ?_⟩
      rw [List.all_eq_true]
      intro f hf
      obtain ⟨j, hj'⟩ := List.mem_iff_getElem?.1 hf
      exact hj j f (by have := (List.getElem?_eq_some_iff.1 hj').1; omega) hj'
  rintro _ W ⟨e, ha⟩
  rw [ha] at hK
  exact hK _ e
end
end Dq
end Go.Proofs.YtmooldhpiopcgaaGreatDoor
set_option linter.unusedSimpArgs false
set_option linter.unusedVariables false
set_option maxRecDepth 100000
namespace Go.Proofs.YtmooldhpiopcgaaGreatDoor
namespace Dq
open Go Go.Vx Dsk Cdc Trx
section
variable {w w' : World} {S F F' : Nat → Prop} {d : Nat} {D : Dk} {N : Nat}
theorem ext_cell (e : Ext w w') {b off : Nat} {v : Value} (h : w.cell? ⟨b, off, none⟩ = some v) : w'.cell? ⟨b, off, none⟩ = some v := by
  unfold World.cell? at h ⊢
  simp only at h ⊢
  split at h
  · rename_i c t fr hb
    rw [e.ext_get hb]; exact h
  all_goals simp_all
theorem name_ldk {rows : List (Cells.T c65)} {s : Sl} {t : TypeId} (h : SlIn w s t 2 (flat c65 rows)) {i : Nat} {r : Cells.T c65} (hr : rows[i]? = some r) {K : Addr → ByteArray → World → Prop} (hK : ∀ p, (∀ w', Ext w w' → w'.cell? (p.add (scaled (Int.toNat (i : Int)) 2)) = some (Cell.val .str r.1)) → K p r.1 w) :
    ix s.a s.len (i : Int) (fun p => ld .str (p.add (scaled (Int.toNat (i : Int)) 2)) (K p)) w := by
  have hlt := (List.getElem?_eq_some_iff.1 hr).1
  have hl := SlIn.lenR (cs := c65) h (by decide)
  refine h.ix (by omega) (by omega) (by decide) fun b off ha hv => ?_
  have h0 := hv 0 (.string r.1) (by
    have := flat_get c65 rows i 0 r hr (by decide)
    rw [Int.toNat_natCast]
    rw [show i * 2 + 0 = i * (c65 : List Cell).length + 0 from rfl, this]; rfl)
  rw [addr_add]
  have h1 : w.cell? (⟨b, off + scaled (Int.toNat (i : Int)) 2, none⟩ : Addr) = some (.string r.1) := by simpa [scaled_eq] using h0
  refine ld_of (x := r.1) h1 (hK _ fun w' e => ?_)
  rw [addr_add]
  exact ext_cell e h1
def viewOf (fs : Fls) : Vw := fs.foldl (fun V f => vset V f.1 (some f.2)) fun _ => none
theorem view_succ {fs : Fls} {i : Nat} {f : Nm × List UInt8} (h : fs[i]? = some f) : viewOf (fs.take (i + 1)) = vset (viewOf (fs.take i)) f.1 (some f.2) := by
  unfold viewOf
  rw [List.take_add_one, h, List.foldl_append]; rfl
theorem view_ind {P : Nm → List UInt8 → Prop} : ∀ (fs : Fls) (V : Vw), (∀ n b, V n = some b → P n b) → (∀ f ∈ fs, P f.1 f.2) → ∀ n b, fs.foldl (fun V f => vset V f.1 (some f.2)) V n = some b → P n b
  | [], V, h, _ => h
  | f :: r, V, h, hf => view_ind r (vset V f.1 (some f.2)) (fun n b hb => by
      unfold vset at hb
      split at hb
      · rename_i hn; cases hb; rw [hn]; exact hf f List.mem_cons_self
      · exact h n b hb) fun g hg => hf g (List.mem_cons_of_mem _ hg)
theorem view_all {P : Nm → List UInt8 → Prop} {fs : Fls} (h : ∀ f ∈ fs, P f.1 f.2) : ∀ n b, viewOf fs n = some b → P n b := view_ind fs _ (fun n b hb => by cases hb) h
theorem small_all {fs : Fls} {n : Nm} {enc : Int} {data : List UInt8} (h : smallP fs n enc data = true) : userName n = true ∧ (0 ≤ enc ∧ enc ≤ 4) ∧ data.length ≤ 60000 ∧ fs.length ≤ 14 ∧ ∀ f ∈ fs, userName f.1 = true ∧ f.2.length ≤ 60000 := by
  unfold smallP at h
  simp only [Bool.and_eq_true, decide_eq_true_eq, List.all_eq_true] at h
  exact ⟨h.1, ⟨h.2.1, h.2.2.1⟩, h.2.2.2.1, h.2.2.2.2.1, h.2.2.2.2.2⟩
structure Stg (w : World) (st d f : Nat) (F : Nat → Prop) (D : Dk) (N : Nat) (X : Fil) (sm sd so : Sl) (enc : Int) (new was : Bool) (dat old : List UInt8) (B : Nat) : Prop where
  box : w.heap[st]? = some (.cells #[.pointer (some (at0 d)), .pointer (some (at0 f)), .int .i64 enc, .int .i64 ((X.mark.length : Nat) : Int), .slice sd.a sd.len sd.cap, .bool new, .slice so.a so.len so.cap, .bool was] 47 (0, 0))
  disk : DS w d F D N
  file : FS w f d X sm F
  old : BytesO w B so old
  dat : BytesO w B sd dat
  oF : ∀ k, so.blk k → ¬ F k
  dF : ∀ k, sd.blk k → ¬ F k
  nst : ¬ F st
  lst : B ≤ st
  lf : B ≤ f
  lF : ∀ k, F k → B ≤ k
section
variable {st f : Nat} {X X' : Fil} {sm sd so : Sl} {enc : Int} {new was : Bool} {dat old : List UInt8} {B N' : Nat} {D' : Dk}
theorem Stg.next (h : Stg w st d f F D N X sm sd so enc new was dat old B) (A : DS w' d F' D' N') (hX : FS w' f d X' sm F') (hm : X'.mark = X.mark) (u : Upd (fun k => F k ∨ k = f) w w') (hF : ∀ k, F' k → F k ∨ w.heap.size ≤ k) : Stg w' st d f F' D' N' X' sm sd so enc new was dat old B := by
  have hsf : st ≠ f := fun hh => by
    have h1 := h.box
    rw [hh, h.file.at_.box] at h1
    cases h1
  have lst := lt_of_heap h.box
  have byf : ∀ {s : Sl} {l : List UInt8}, BytesO w B s l → ∀ k, s.blk k → k ≠ f := fun hs k hk hh => by
    obtain ⟨c, fr, hc⟩ := hs.in.blk_cells hk
    rw [hh, h.file.at_.box] at hc; cases hc
  refine ⟨?_, A, hX, h.old.upd u fun k _ hk hh => hh.elim (h.oF k hk) (byf h.old k hk), h.dat.upd u fun k _ hk hh => hh.elim (h.dF k hk) (byf h.dat k hk), fun k hk hh => (hF k hh).elim (h.oF k hk) fun hl => by have := h.old.in.blk_lt hk; omega,
    fun k hk hh => (hF k hh).elim (h.dF k hk) fun hl => by have := h.dat.in.blk_lt hk; omega, fun hh => (hF _ hh).elim h.nst fun hl => by omega, h.lst, h.lf, fun k hk => (hF k hk).elim (h.lF k) fun hl => by have := h.lst; omega⟩
  rw [hm]
  exact u.get h.box fun hh => hh.elim h.nst hsf
theorem Stg.ext (h : Stg w st d f F D N X sm sd so enc new was dat old B) (e : Ext w w') : Stg w' st d f F D N X sm sd so enc new was dat old B :=
  ⟨e.ext_get h.box, h.disk.ext e, h.file.ext e, h.old.ext e, h.dat.ext e, h.oF, h.dF, h.nst, h.lst, h.lf, h.lF⟩
theorem Stg.turn (h : Stg w st d f F D N X sm sd so enc new was dat old B) (A : DS w' d F' D' N') (u : Upd F w w') (hF : ∀ k, F' k → F k ∨ w.heap.size ≤ k) : Stg w' st d f F' D' N' X sm sd so enc new was dat old B :=
  h.next A (h.file.step h.disk u hF) rfl (u.mono fun k _ hk => .inl hk) hF
theorem Stg.mono (h : Stg w st d f F D N X sm sd so enc new was dat old B) (hN : N ≤ N') : Stg w st d f F D N' X sm sd so enc new was dat old B :=
  ⟨h.box, h.disk.mono hN, h.file, h.old, h.dat, h.oF, h.dF, h.nst, h.lst, h.lf, h.lF⟩
end
structure Start (g : List UInt8 → Int) (fs : Fls) (n : Nm) (enc : Int) (D : Dk) (X : Fil) (lod : Lod) : Prop where
  sol : Sol D (viewOf fs)
  space : D.space = 1048576
  names : (names D.seen).length ≤ 14
  name : X.name = n
  known : X.known = stampOf D n
  tried : X.tried = (0, 0, 0)
  rng : 1 ≤ lod.enc ∧ lod.enc ≤ 4
  at_ : match viewOf fs n with
    | some b => lod = ⟨(encK g enc b).1, (encK g enc b).2, b.drop (encK g enc b).2.toNat, false⟩ ∧ X.mark = b.take (encK g enc b).2.toNat
    | none => lod = ⟨if 1 > enc then 1 else enc, 0, [], true⟩ ∧ X.mark = []
theorem encK_range {g : List UInt8 → Int} (hg : ∀ l, 1 ≤ g l ∧ g l ≤ 4) {enc : Int} (he : 0 ≤ enc ∧ enc ≤ 4) (b : List UInt8) : 1 ≤ (encK g enc b).1 ∧ (encK g enc b).1 ≤ 4 := by
  unfold encK
  split
  · rename_i h
    have h2 := h.2
    unfold detectP at h2 ⊢
    repeat' split
    · exact ⟨by show (1 : Int) ≤ 1; decide, by show (1 : Int) ≤ 4; decide⟩
    · exact ⟨by show (1 : Int) ≤ 2; decide, by show (2 : Int) ≤ 4; decide⟩
    · exact ⟨by show (1 : Int) ≤ 3; decide, by show (3 : Int) ≤ 4; decide⟩
    · simp_all
  · split
    · exact hg b
    · split <;> (show 1 ≤ enc ∧ enc ≤ 4; omega)
end
end Dq
end Go.Proofs.YtmooldhpiopcgaaGreatDoor
set_option linter.unusedSimpArgs false
set_option linter.unusedVariables false
set_option maxRecDepth 100000
namespace Go.Proofs.YtmooldhpiopcgaaGreatDoor
namespace Dq
open Go Go.Vx Dsk Cdc Trx Flp
section
variable {w w' : World} {S F F' : Nat → Prop} {d : Nat} {D : Dk} {N : Nat}
theorem u4b : Tryz.prog.underlying 4 = some .bool := i4_ok.und
noncomputable abbrev gG : List UInt8 → Int := fun l => (guessP l).1
abbrev stc (d : Nat) (so : Sl) (was : Bool) : Array Value := #[.pointer (some (at0 d)), .pointer none, .int .i64 0, .int .i64 0, .slice none 0 0, .bool false, .slice so.a so.len so.cap, .bool was]
theorem used_room {D : Dk} {V : Vw} (h : Sol D V) (ok : DkOk D N) (hs : D.space = 1048576) (hn : (names D.seen).length ≤ 14) (hB : ∀ m b, V m = some b → b.length ≤ 60003) (o : Option Nat) : usedBut D o ≤ 840042 := by
  have := h.used ok (B := 60003) hB o
  have h2 : ((names D.seen).length : Int) * ((60003 : Nat) : Int) ≤ 14 * 60003 := Int.mul_le_mul_of_nonneg_right (by omega) (by decide)
  omega
theorem start_plain {g : List UInt8 → Int} (hg : ∀ l, 1 ≤ g l ∧ g l ≤ 4) {fs : Fls} {n : Nm} {enc : Int} (sol : Sol D (viewOf fs)) (hsp : D.space = 1048576) (hnm : (names D.seen).length ≤ 14) (hu : userName n = true) (he : 0 ≤ enc ∧ enc ≤ 4) (hfs : ∀ f ∈ fs, f.2.length ≤ 60000) :
    ∃ D2 X lod, openP g D n enc 65536 = (D2, 0, some X, lod) ∧ Start g fs n enc D2 X lod ∧ lod.new = !(viewOf fs n).isSome ∧ lod.mark = (X.mark.length : Int) ∧ X.mark.length ≤ ((viewOf fs n).getD []).length := by
  cases hv : viewOf fs n with
  | none =>
    have hs : D.seen n = none := sol.none_iff.2 hv
    refine ⟨_, _, _, open_new sol.q hu he (by decide) hs, ⟨sol.st _, hsp, hnm, rfl, ?_, rfl, ?_, ?_⟩, rfl, rfl, Nat.le_refl _⟩
    · show (0, 0, 0) = stampOf { D with steps := D.steps + 1 } n
      unfold stampOf
      have : ({ D with steps := D.steps + 1 } : Dk).seen n = none := hs
      rw [this]
    · show 1 ≤ (if 1 > enc then 1 else enc) ∧ (if 1 > enc then 1 else enc) ≤ 4
      split <;> omega
    · rw [hv]; exact ⟨rfl, rfl⟩
  | some b =>
    have hview := sol.view n
    rw [hv] at hview
    obtain ⟨i, hi, hd⟩ := Option.map_eq_some_iff.1 hview
    have hb : b.length ≤ 60000 := view_all (P := fun _ b => b.length ≤ 60000) hfs n b hv
    obtain ⟨m0, m1, m2⟩ := enc_bound (g := g) (enc := enc) (b := b)
    refine ⟨_, _, _, open_old (g := g) sol.q hu he (by decide) hi hd (by omega), ⟨sol.st _, hsp, hnm, rfl, rfl, rfl, encK_range hg he b, ?_⟩, rfl, ?_, ?_⟩
    · rw [hv]; exact ⟨rfl, rfl⟩
    · show (encK g enc b).2 = ((b.take (encK g enc b).2.toNat).length : Int)
      rw [List.length_take]; omega
    · show (b.take (encK g enc b).2.toNat).length ≤ b.length
      rw [List.length_take]; omega
set_option maxHeartbeats 2000000 in
theorem set_call (hl : LaidE w) {x : Cells.T c39} {rows : List (Cells.T c65)} {fs : Fls} {data : List UInt8} (h : Scn w x rows fs data) (hs : smallP fs x.2.1 x.2.2.1 data = true) {K : (Option Addr × Bool × Unit) → World → Prop}
    (hK : ∀ w' st d f F D X sm sd so lod, Ext w w' → Stg w' st d f F D 40 X sm sd so lod.enc lod.new (viewOf fs x.2.1).isSome lod.data ((viewOf fs x.2.1).getD []) w.heap.size → Start gG fs x.2.1 x.2.2.1 D X lod → K (some (at0 st), true, ()) w') :
    callT Tryz.prog 21 #[.agg (scells x)] (.tup [(.one .ptr), (.one .bool)]) K w := by
  refine F21_calls (a0 := x) ?_
  unfold F21
  have hp : 0 < w.heap.size := by obtain ⟨c, t, fr, h, _⟩ := hl; exact lt_of_heap h
  obtain ⟨(sf : Sl), (nm : ByteArray), (enc : Int), (sd : Sl), ⟨⟩⟩ := x
  dsimp only at h hK hs ⊢
  obtain ⟨hu, he, hdl, hfl, hfs⟩ := small_all hs
  obtain ⟨hn, hsn⟩ := side_ok hu
  have hsl := h.files.slen
  dsimp only at hsl
  refine newO_r fun b1 w1 e1 n1 hb1 hz1 => newS (by decide) (by decide) (by omega) fun d F0 w2 A2 e2 hF2 => ?_
  refine join_at (false, ()) (sif_r (fun h => by cases h) fun _ => rdB_nnil' ⟨rfl, rfl⟩ uE) (sif_false ?_)
  have n2 := e2.ext_get n1
  refine newO_r fun b6 w3 e3 n3 hb6 hz3 => ?_
  have A3 := A2.ext e3
  have n13 := e3.ext_get n2
  have E3 := (e1.trans e2).trans e3
  have zz1 := e1.size
  have zz2 := e2.size
  have zz3 := e3.size
  have z13 := lt_of_heap n1
  refine join_r (fun _ W => ∃ F D so, Ext w W ∧ DS W d F D (2 * fs.length) ∧ (∀ k, F k → w.heap.size ≤ k) ∧ ¬ F b6 ∧ ¬ F b1 ∧ W.heap[b1]? = some (.cells (scells (sf, nm, enc, sd, ())) 39 (0, 0)) ∧
      W.heap[b6]? = some (.cells (stc d so (viewOf fs nm).isSome) 47 (0, 0)) ∧ BytesO W w.heap.size so ((viewOf fs nm).getD []) ∧ (∀ k, so.blk k → ¬ F k) ∧ Sol D (viewOf fs) ∧ D.space = 1048576 ∧ (names D.seen).length ≤ fs.length) ?_ ?_
  · refine sloop_r (fun s W => ∃ (i : Nat) (F : Nat → Prop) (D : Dk) (so : Sl), s = ((i : Int), ()) ∧ i ≤ fs.length ∧ Ext w W ∧ DS W d F D (2 * i) ∧ (∀ k, F k → w.heap.size ≤ k) ∧ ¬ F b6 ∧ ¬ F b1 ∧ W.heap[b1]? = some (.cells (scells (sf, nm, enc, sd, ())) 39 (0, 0)) ∧
      W.heap[b6]? = some (.cells (stc d so (viewOf (fs.take i) nm).isSome) 47 (0, 0)) ∧ BytesO W w.heap.size so ((viewOf (fs.take i) nm).getD []) ∧ (∀ k, so.blk k → ¬ F k) ∧ Sol D (viewOf (fs.take i)) ∧ D.space = 1048576 ∧ (names D.seen).length ≤ i) (fun s _ => fs.length - s.1.toNat)
      ⟨0, F0, newD 1048576, ⟨none, 0, 0⟩, rfl, Nat.zero_le _, E3, A3, fun k hk => by have := hF2 k hk; omega, fun hh => by have := A2.lt _ hh; omega, fun hh => by have := hF2 _ hh; omega, n13, n3, SlOwn.nil _ _ _ _, fun k hk => nil_blk hk, Sol.new _, rfl, by
        rw [names_len (l := []) ⟨List.nodup_nil, fun n => by constructor; (intro h; cases h); (intro h; cases h)⟩]; exact Nat.le_refl _⟩ ?_
    rintro _ W ⟨i, F, D, so, rfl, hi, eW, AW, hF, nb6, nb1, m1, m6, oW, hoF, sol, hsp, hnm⟩
    dsimp only
    have hW := h.ext eW
    refine ld_r m1 (off := 0) (x := sf) rfl (sif_r (fun hlt => ?_) fun hge => ?_)
    · have hlt : i < fs.length := by have := of_decide_eq_true hlt; omega
      obtain ⟨t, r, f, hin, hr, hf, g1, g2, g3, g4⟩ := hW.files.in_ hlt
      obtain ⟨hfu, hfl2⟩ := hfs f (List.mem_of_getElem? hf)
      have hvs := view_succ hf
      have ei : IntKind.wrap .i64 ((i : Int) + 1) = ((i + 1 : Nat) : Int) := by rw [wrap64 (by omega) (by omega)]; omega
      rw [ei]
      refine join_r (fun _ W' => ∃ F' D' so', Ext w W' ∧ DS W' d F' D' (2 * (i + 1)) ∧ (∀ k, F' k → w.heap.size ≤ k) ∧ ¬ F' b6 ∧ ¬ F' b1 ∧ W'.heap[b1]? = some (.cells (scells (sf, nm, enc, sd, ())) 39 (0, 0)) ∧ W'.heap[b6]? = some (.cells (stc d so' (viewOf (fs.take (i + 1)) nm).isSome) 47 (0, 0)) ∧ BytesO W' w.heap.size so' ((viewOf (fs.take (i + 1)) nm).getD []) ∧ (∀ k, so'.blk k → ¬ F' k) ∧ Sol D' (viewOf (fs.take (i + 1))) ∧ D'.space = 1048576 ∧ (names D'.seen).length ≤ i + 1) ?_ (by
        rintro _ W8 ⟨F', D', so', E8, A8, hF', nb6', nb1', m18, m68, o8, hoF8, sol', hsp', hnm'⟩
        refine ⟨⟨i + 1, F', D', so', rfl, by omega, E8, A8, hF', nb6', nb1', m18, m68, o8, hoF8, sol', hsp', hnm'⟩, ?_⟩
        show fs.length - ((i + 1 : Nat) : Int).toNat < fs.length - (i : Int).toNat
        omega)
      refine drew_r fun W1 e4 _ => ?_
      refine ld_r (e4.ext_get m1) (off := 0) (x := sf) rfl ?_
      have hW1 := hW.ext e4
      obtain ⟨t1, r1, f1, hin1, hr1, hf1, g11, g12, g13, g14⟩ := hW1.files.in_ hlt
      obtain rfl : r = r1 := Option.some.inj (hr.symm.trans hr1)
      obtain rfl : f = f1 := Option.some.inj (hf.symm.trans hf1)
      refine name_ldk hin1 hr fun p hkp => ld_r (e4.ext_get m1) (off := 0) (x := sf) rfl (data_ld hin1 hr fun _ => twin_call g12 (by omega) fun s1 W2 o2 e5 => keep_r (hkp W2 e5) (keep_r (cell_of (off := 0) (e5.ext_get (e4.ext_get m1)) rfl) ?_))
      have e45 := e4.trans e5
      have A5 := AW.ext e45
      have room : usedBut D (D.seen f.1) ≤ 840042 := used_room sol AW.ok hsp (by omega) (fun m b hb => by
        have := view_all (P := fun _ b => b.length ≤ 60000) (fs := fs.take i) (fun g hg => (hfs g (List.mem_of_mem_take hg)).2) m b hb
        omega) _
      obtain ⟨p1, p2, p3, p4, p5, _⟩ := put_sol (n := f.1) (b := f.2) sol AW.ok (side_ok hfu).1 (fun _ => by omega) (by rw [hsp]; omega)
      rw [g1]
      refine putS A5 (by omega) o2.in.x (fun k hk => ⟨o2.in.blk_lt hk, fun hh => by have := AW.lt _ hh; have := o2.blk_ge hk; have := e4.size; omega⟩) fun F6 W6 v6 hv6 A6 u6 hF6 => ?_
      rw [p1] at hv6
      rw [hv6.ok rfl]
      refine rdB_nnil' (sif_false ?_) uE
      have z5 := e45.size
      have E6 : Ext w W6 := (eW.trans e45).step u6 fun k hk => hF k hk
      have m16 : W6.heap[b1]? = _ := u6.get (e45.ext_get m1) nb1
      have m66 : W6.heap[b6]? = _ := u6.get (e45.ext_get m6) nb6
      have lb1 := lt_of_heap m1
      have lb6 := lt_of_heap m6
      have h6 := h.ext E6
      have o6 : BytesO W6 w.heap.size so ((viewOf (fs.take i) nm).getD []) := (oW.ext e45).upd u6 fun k _ hk hh => hoF k hk hh
      have nF6 : ∀ b, ¬ F b → b < W.heap.size → ¬ F6 b := fun b hb hb2 hh => (hF6 b hh).elim hb fun hl => by omega
      have hoF6 : ∀ k, so.blk k → ¬ F6 k := fun k hk => nF6 k (hoF k hk) (oW.in.blk_lt hk)
      have hF6' : ∀ k, F6 k → w.heap.size ≤ k := fun k hk => (hF6 k hk).elim (hF k) fun hl => by have := eW.size; omega
      have hfn6 : (viewOf (fs.take (i + 1)) nm) = if nm = f.1 then some f.2 else viewOf (fs.take i) nm := by rw [hvs]; rfl
      refine drew_r fun W7 e7 _ => ?_
      refine ld_r (e7.ext_get m16) (off := 0) (x := sf) rfl ?_
      obtain ⟨t7, r7, f7, hin7, hr7, hf7, g71, g72, g73, g74⟩ := (h6.ext e7).files.in_ hlt
      obtain rfl : r = r7 := Option.some.inj (hr.symm.trans hr7)
      obtain rfl : f = f7 := Option.some.inj (hf.symm.trans hf7)
      refine name_ld hin7 hr fun _ => ld_r (e7.ext_get m16) (off := 1) (x := nm) rfl ?_
      rw [g1, bytes_eq]
      refine sif_r (fun hq => ?_) fun hq => ?_
      · have hq : f.1 = nm := of_decide_eq_true hq
        rw [if_pos hq.symm] at hfn6
        refine ld_r (e7.ext_get m16) (off := 0) (x := sf) rfl (data_ld hin7 hr fun _ => twin_call g72 (by omega) fun s8 W8 o8 e8 => nn_some ?_)
        have e78 := e7.trans e8
        rw [addr_add]
        refine stC_r (e78.ext_get m66) (by show 0 + 6 < 8; decide) fun W9 u9 n9 z9 => nn_some ?_
        rw [addr_add]
        refine stC_r n9 (by rw [Array.size_setIfInBounds]; show 0 + 7 < 8; decide) fun W10 u10 n10 z10 => ?_
        have z8 := e78.size
        have e810 : Upd (fun k => k = b6) W8 W10 := u9.trans u10
        have b1ne : b1 ≠ b6 := by omega
        have z6 := E6.size
        have z7 := e7.size
        refine ⟨F6, _, s8, (E6.trans e78).step e810 fun k hk => by omega, ((A6.ext e78).mono (by omega)).frame e810 fun k hk hh => nF6 b6 nb6 lb6 (hh ▸ hk), hF6', nF6 _ nb6 lb6, nF6 _ nb1 lb1, e810.get (e78.ext_get m16) b1ne, ?_, ?_, (fun k hk hh => by have := o8.blk_ge hk; have := A6.lt _ hh; omega), by rw [hvs]; exact p2, p3.trans hsp, by omega⟩
        · rw [hfn6]; exact n10
        · rw [hfn6]
          refine (o8.mono (by omega)).upd e810 fun k _ hk hh => ?_
          obtain ⟨c, fr, hc⟩ := o8.in.blk_cells hk
          rw [hh, e78.ext_get m66] at hc; cases hc
      · have hq : f.1 ≠ nm := of_decide_eq_false hq
        rw [if_neg (fun hh => hq hh.symm)] at hfn6
        rw [← hfn6] at m66 o6
        exact ⟨F6, _, so, E6.trans e7, (A6.ext e7).mono (by omega), hF6', nF6 _ nb6 lb6, nF6 _ nb1 lb1, e7.ext_get m16, e7.ext_get m66, o6.ext e7, hoF6, by rw [hvs]; exact p2, p3.trans hsp, by omega⟩
    · have hge : ¬ i < fs.length := by have := of_decide_eq_false hge; omega
      obtain rfl : i = fs.length := by omega
      rw [List.take_of_length_le (Nat.le_refl _)] at m6 oW sol
      exact ⟨F, D, so, eW, AW, hF, nb6, nb1, m1, m6, oW, hoF, sol, hsp, hnm⟩
  rintro _ W ⟨F, D, so, eW, AW, hF, nb6, nb1, m1, m6, oW, hoF, sol, hsp, hnm⟩
  dsimp only
  have lb1 := lt_of_heap m1
  have lb6 := lt_of_heap m6
  obtain ⟨D2, X, lod, ho, hst, hnew, hmk, hml⟩ := start_plain (g := gG) guess_range sol hsp (by omega) hu he (fun f hf => (hfs f hf).2)
  refine ld_r m1 (off := 1) (x := nm) rfl (ld_r m1 (off := 2) (x := enc) rfl (open_call (g := gG) (fun _ => .inl guess_ok) AW (by omega) (hl.ext eW) (by have := h.nm; dsimp only at this; exact this) fun F4 W4 fo sl R => ?_))
  rw [ho] at R ⊢
  obtain ⟨f, sm, rfl, hX, hf, hsm⟩ := R.file
  have hzW := eW.size
  have E4 : Ext w W4 := eW.step R.upd fun k hk => hF k hk
  have m64 : W4.heap[b6]? = _ := R.upd.get m6 nb6
  have nF4 : ∀ b, ¬ F b → b < W.heap.size → ¬ F4 b := fun b hb hb2 hh => (R.new b hh).elim hb fun hl => by omega
  have o4 : BytesO W4 w.heap.size so _ := oW.upd R.upd fun k _ hk hh => hoF k hk hh
  have z4 := E4.size
  have hz4 := R.upd.size
  refine newO_r fun b36 W5 e5 n5 hb5 hz5 => aggSt_r n5 rfl rfl (by decide) fun W6 u6 n6 hz6 => ?_
  have n6 : W6.heap[b36]? = some (.cells (Cells.vals c32 (lodC lod.enc lod.mark sl lod.new)).toArray 32 (0, 0)) := n6
  have e46 : Ext W4 W6 := e5.step u6 fun k hk => by omega
  have m66 := e46.ext_get m64
  have hso := bys_len o4.in.x
  have hrng := hst.rng
  refine join_r (fun y W => y = (false, ()) ∧ Ext W6 W) ?_ ?_
  · refine drew_r fun W7 e7 _ => ?_
    refine sif_r (fun h => by cases h) fun _ => sif_r (fun h => by cases h) fun _ => ld_r (e7.ext_get n6) (off := 3) (x := lod.new) rfl (nn_some ?_)
    rw [addr_add]
    refine ld_r (e7.ext_get m66) (off := 0 + 7) (x := (viewOf fs nm).isSome) rfl (rdB_eqb u4b (sif_r (fun h => ?_) fun _ => ?_))
    · rw [hnew] at h; cases hvv : (viewOf fs nm).isSome <;> rw [hvv] at h <;> cases h
    refine ld_r (e7.ext_get n6) (off := 1) (x := lod.mark) rfl (sif_r (fun h => ?_) fun _ => ld_r (e7.ext_get n6) (off := 1) (x := lod.mark) rfl (nn_some ?_))
    · have := of_decide_eq_true h; omega
    rw [addr_add]
    refine ld_r (e7.ext_get m66) (off := 0 + 6) (x := so) rfl (sif_r (fun h => ?_) fun _ => ld_r (e7.ext_get n6) (off := 0) (x := lod.enc) rfl (sif_r (fun h => ?_) fun _ => ld_r (e7.ext_get n6) (off := 0) (x := lod.enc) rfl ⟨?_, e7⟩))
    · have := of_decide_eq_true h; omega
    · have := of_decide_eq_true h; omega
    · rw [decide_eq_false (by omega)]
  rintro _ W7 ⟨rfl, e67⟩
  have e47 := e46.trans e67
  refine sif_false (nn_some ?_)
  rw [addr_add]
  refine stC_r (e47.ext_get m64) (by show 0 + 1 < 8; decide) fun W8 u8 n8 z8 => ?_
  have b36ne : b36 ≠ b6 := by have := e5.size; have := R.upd.size; omega
  refine lds_r (x := lodC lod.enc lod.mark sl lod.new) (u8.get (e67.ext_get n6) b36ne) (fun i v hv => lod_at i v hv) (nn_some ?_)
  rw [addr_add]
  refine aggSt_r n8 rfl rfl (by rw [Array.size_setIfInBounds]; show 0 + 2 + 4 ≤ 8; decide) fun W9 u9 n9 z9 => ?_
  have e79 : Upd (fun k => k = b6) W7 W9 := u8.trans u9
  have z47 := e47.size
  have nb64 := nF4 _ nb6 lb6
  have hb6w : w.heap.size ≤ b6 := by omega
  have byb : ∀ {s : Sl} {l : List UInt8} {B : Nat}, BytesO W4 B s l → ∀ k, s.blk k → k ≠ b6 := fun hs k hk hh => by
    obtain ⟨c, fr, hc⟩ := hs.in.blk_cells hk
    rw [hh, m64] at hc; cases hc
  have X7 := hX.ext e47
  have fne : f ≠ b6 := fun hh => by
    have := hX.at_.box
    rw [hh, m64] at this; cases this
  refine hK W9 b6 d f F4 D2 X sm sl so lod ((E4.trans e47).step e79 fun k hk => by omega) ⟨?_, ((R.disk.ext e47).mono (by omega)).frame e79 fun k hk hh => nb64 (hh ▸ hk), ⟨X7.at_.upd e79 fne fun k hk hh => ?_, X7.nf, X7.nm, X7.laid.upd e79 (by omega), X7.small, X7.name, X7.nz⟩, (o4.ext e47).upd e79 fun k _ hk hh => byb o4 k hk hh, ((R.data.ext e47).mono (by omega)).upd e79 fun k _ hk hh => byb R.data k hk hh, fun k hk => nF4 k (hoF k hk) (oW.in.blk_lt hk), R.apart, nb64, hb6w, by omega, fun k hk => (R.new k hk).elim (hF k) fun hl => by omega⟩ hst
  · rw [hmk] at n9
    exact n9
  · obtain ⟨c, fr, hc⟩ := hX.at_.mkr.blk_cells hk
    rw [hh, m64] at hc; cases hc
end
end Dq
end Go.Proofs.YtmooldhpiopcgaaGreatDoor
set_option linter.unusedSimpArgs false
set_option linter.unusedVariables false
set_option maxRecDepth 100000
namespace Go.Proofs.YtmooldhpiopcgaaGreatDoor
namespace Dq
open Go Go.Vx Dsk Cdc Trx
section
variable {w w' : World} {S F F' : Nat → Prop} {d : Nat} {D : Dk} {N : Nat} {st f : Nat} {X : Fil} {sm sd so : Sl} {enc : Int} {new was : Bool} {dat old : List UInt8} {B : Nat} {s : Sl} {l : List UInt8}
theorem SlX.lie {s : Sl} {sz : Nat} {us : List Value} (h : SlX w s sz us) : Lie (fun k => k < w.heap.size) s := by
  rcases h.at_ with ⟨h, _⟩ | ⟨t, h⟩
  · exact .inl h
  · exact .inr fun k hk => h.blk_lt hk
theorem enc_of (h : 1 ≤ enc ∧ enc ≤ 4) : ∃ e : Enc, enc = e.num := by
  have : enc = 1 ∨ enc = 2 ∨ enc = 3 ∨ enc = 4 := by omega
  rcases this with rfl | rfl | rfl | rfl
  · exact ⟨.u8, rfl⟩
  · exact ⟨.le, rfl⟩
  · exact ⟨.be, rfl⟩
  · exact ⟨.l1, rfl⟩
theorem text_call (h : Stg w st d f F D N X sm sd so enc new was dat old B) (he : 1 ≤ enc ∧ enc ≤ 4) (hs : Bytes w s l) (hl : l.length ≤ 65536) {K : Option Addr → World → Prop}
    (hK : ∀ w' p e O M, Txt w' p e 65536 0 O M → bOf M = l → Ext w w' → (∀ k, O k → w.heap.size ≤ k) → K (some (at0 p)) w') : callT Tryz.prog 26 #[.pointer (some (at0 st)), .slice s.a s.len s.cap] (.one (.one .ptr)) K w := by
  refine F26_calls (a1 := s) ?_
  unfold F26
  obtain ⟨e, rfl⟩ := enc_of he
  refine drew_r fun w1 e1 _ => nn_some ?_
  rw [addr_add]
  refine ld_r (e1.ext_get h.box) (off := 0 + 2) (x := e.num) rfl (twin_call (hs.ext e1) (by omega) fun s2 w2 o2 e2 => keep_r (cell_of (off := 0 + 2) (e2.ext_get (e1.ext_get h.box)) rfl) ?_)
  refine _root_.Go.Proofs.YtmooldhpiopcgaaGreatDoor.open_call (e := e) (lim := 65536) o2.in hl (by decide) fun p O M w3 hT _ hM e3 hO => ?_
  refine sif_r (fun hh => by cases hh) fun _ => hK w3 p e O M hT hM ((e1.trans e2).trans e3) fun k hk => by have := hO k hk; have := (e1.trans e2).size; omega
theorem whole_call (h : Stg w st d f F D N X sm sd so enc new was dat old B) (hm : X.mark.length ≤ old.length) (hol : old.length ≤ 2 ^ 30) (hs : Bytes w s l) (hl : l.length ≤ 2 ^ 30) {K : Sl → World → Prop}
    (hK : ∀ w' s', BytesO w' w.heap.size s' (old.take X.mark.length ++ l) → Ext w w' → K s' w') : callT Tryz.prog 23 #[.pointer (some (at0 st)), .slice s.a s.len s.cap] (.one (.one .sl)) K w := by
  refine F23_calls (a1 := s) ?_
  unfold F23
  refine drew_r fun w1 e1 _ => nn_some ?_
  rw [addr_add]
  refine ld_r (e1.ext_get h.box) (off := 0 + 6) (x := so) rfl (nn_some ?_)
  rw [addr_add, addr_add]
  refine ld_r (e1.ext_get h.box) (off := 0 + 2 + 1) (x := ((X.mark.length : Nat) : Int)) rfl ?_
  have ho := h.old.in.ext e1
  have hol2 : old.length = so.len := By.len ho
  have hcap := ho.le
  have hsl := bys_len hs
  refine slc_by ho (by omega) (by omega) (by omega) (by omega) (by omega) fun s1 hs1 hl1 _ => ?_
  have et : (old.drop (0 : Int).toNat).take (((X.mark.length : Nat) : Int).toNat - (0 : Int).toNat) = old.take X.mark.length := rfl
  rw [et] at hs1
  have htl : (old.take X.mark.length).length = X.mark.length := by rw [List.length_take]; omega
  have z1 := e1.size
  refine twin_call hs1.x (by omega) fun s2 w2 o2 e2 => ?_
  have e12 := e1.trans e2
  have h2l := bys_len o2.in.x
  have z2 := e12.size
  refine append_rx EB uB (B := w.heap.size) (o2.mono z1) (hs.ext e12) (bv_one _) (by omega) z2 fun s' w' h' _ u' _ => hK w' s' (by rw [← List.map_append] at h'; exact h') (e12.step u' fun k hk => by have := o2.blk_ge hk; omega)
theorem holds_call (A : DS w d F D N) (hN : N + 2 ≤ 2 ^ 30) {n : Nm} (hs : Bytes w s l) (hl : l.length ≤ 2 ^ 40) (hb : Lie (fun k => ¬ F k) s) {K : Bool → World → Prop}
    (hK : ∀ F' w', DS w' d F' (callRead D n).1 (N + 2) → Upd F w w' → (∀ k, F' k → F k ∨ w.heap.size ≤ k) → K (decide ((callRead D n).2.1 = 0 ∧ (callRead D n).2.2 = l)) w') : callT Tryz.prog 28 #[.pointer (some (at0 d)), .string n, .slice s.a s.len s.cap] (.one (.one .bool)) K w := by
  refine F28_calls (a2 := s) ?_
  unfold F28
  have hlen := read_len A.ok n
  refine readS A hN fun F1 w1 s1 v hv A1 u1 hF1 o1 hb1 => hv.eqnil (sif_r (fun h0 => ?_) fun h0 => ?_)
  · have h0 := of_decide_eq_true h0
    refine same_call o1.in.x (SlX.updL hs hb u1 fun k hk => hk) (by omega) fun w2 e2 => ?_
    have hk := hK F1 w2 (A1.ext e2) (u1.trans (Upd.of_ext e2)) hF1
    have : decide ((callRead D n).2.1 = 0 ∧ (callRead D n).2.2 = l) = decide ((callRead D n).2.2 = l) := by rw [h0]; simp
    rw [this] at hk
    exact hk
  · have h0 := of_decide_eq_false h0
    have hk := hK F1 w1 A1 u1 hF1
    rw [decide_eq_false (fun hh => h0 hh.1)] at hk
    exact hk
end
end Dq
end Go.Proofs.YtmooldhpiopcgaaGreatDoor
set_option linter.unusedSimpArgs false
set_option linter.unusedVariables false
set_option maxRecDepth 100000
namespace Go.Proofs.YtmooldhpiopcgaaGreatDoor
namespace Dq
open Go Go.Vx Dsk Cdc Trx
section
variable {w w' : World} {S F F' : Nat → Prop} {d : Nat} {D : Dk} {N : Nat} {g : List UInt8 → Int} {fs : Fls} {n : Nm} {enc : Int} {X : Fil} {lod : Lod}
theorem Start.mark_is (h : Start g fs n enc D X lod) : X.mark = ((viewOf fs n).getD []).take X.mark.length ∧ X.mark.length ≤ ((viewOf fs n).getD []).length := by
  have := h.at_
  split at this
  · rename_i b hb
    rw [hb, this.2]
    simp only [Option.getD_some, List.length_take]
    refine ⟨?_, by omega⟩
    rw [List.take_eq_take_iff]; omega
  · rename_i hb
    rw [hb, this.2]
    exact ⟨rfl, Nat.zero_le _⟩
theorem side_user (n : Nm) : userName (side n) = false := by
  unfold userName
  have : (side n).data.back? = some 126 := by unfold side; simp
  rw [this]; simp
theorem view_side (h : ∀ f ∈ fs, userName f.1 = true) (n : Nm) : viewOf fs (side n) = none := by
  cases hv : viewOf fs (side n) with
  | none => rfl
  | some b =>
    have := view_all (P := fun n _ => userName n = true) h _ _ hv
    rw [side_user] at this; cases this
theorem old_le (h : ∀ f ∈ fs, f.2.length ≤ 60000) (n : Nm) : ((viewOf fs n).getD []).length ≤ 60000 := by
  cases hv : viewOf fs n with
  | none => exact Nat.zero_le _
  | some b => exact view_all (P := fun _ b => b.length ≤ 60000) h _ _ hv
end
end Dq
end Go.Proofs.YtmooldhpiopcgaaGreatDoor
set_option linter.unusedSimpArgs false
set_option linter.unusedVariables false
set_option maxRecDepth 100000
namespace Go.Proofs.YtmooldhpiopcgaaGreatDoor
namespace Dq
open Go Go.Vx Dsk Cdc Trx
section
variable {w w' : World} {S F F' : Nat → Prop} {d : Nat} {D : Dk} {N : Nat} {st f : Nat} {X : Fil} {sm sd so : Sl} {enc : Int} {new was : Bool} {dat old : List UInt8} {B : Nat} {s : Sl} {l : List UInt8} {fs : Fls} {V : Vw}
theorem view_last {j : Nat} {f : Nm × List UInt8} (hj : fs[j]? = some f) (hl : ∀ (k : Nat) g, j < k → fs[k]? = some g → g.1 ≠ f.1) : viewOf fs f.1 = some f.2 := by
  have key : ∀ i, j < i → i ≤ fs.length → viewOf (fs.take i) f.1 = some f.2 := by
    intro i
    induction i with
    | zero => intro h; omega
    | succ i ih =>
      intro h1 h2
      obtain ⟨g, hg⟩ : ∃ g, fs[i]? = some g := ⟨_, List.getElem?_eq_getElem (by omega)⟩
      rw [view_succ hg]
      unfold vset
      by_cases hij : i = j
      · subst hij; rw [hj] at hg; cases hg; rw [if_pos rfl]
      · rw [if_neg (fun hh => hl i g (by omega) hg hh.symm)]
        exact ih (by omega) (by omega)
  have := key fs.length (List.getElem?_eq_some_iff.1 hj).1 (Nat.le_refl _)
  rwa [List.take_of_length_le (Nat.le_refl _)] at this
theorem view_some {n : Nm} {b : List UInt8} (h : viewOf fs n = some b) : ∃ (j : Nat) (f : Nm × List UInt8), fs[j]? = some f ∧ f.1 = n := by
  have := view_all (P := fun n _ => ∃ (j : Nat) (f : Nm × List UInt8), fs[j]? = some f ∧ f.1 = n) (fs := fs) (fun f hf => by
    obtain ⟨j, hj⟩ := List.mem_iff_getElem?.1 hf
    exact ⟨j, f, hj, rfl⟩) n b h
  exact this
theorem strs_ld {s : Sl} {l : List Nm} (h : SlIn w s 9 1 (l.map Value.string)) {i : Nat} {n : Nm} (hn : l[i]? = some n) {K : Addr → ByteArray → World → Prop} (hK : ∀ p, K p n w) :
    ix s.a s.len (i : Int) (fun p => ld .str (p.add (scaled (Int.toNat (i : Int)) 1)) (K p)) w :=
  ix_ldX (c := .str) (xs := l) h.x (by omega) (by rw [Int.toNat_natCast]; exact hn) hK
set_option maxHeartbeats 4000000 in
theorem others_call {w0 : World} {x : Cells.T c39} {rows : List (Cells.T c65)} (h : Stg w st d f F D N X sm sd so enc new was dat old B) (sol : Sol D V) (hx : FlsIn w0 x.1 rows fs) (e0 : Ext w0 w) (hw0 : w0.heap.size = B) (hfs : ∀ f ∈ fs, userName f.1 = true) (hf14 : fs.length ≤ 2 ^ 20) (hN : N + 2 * fs.length + 2 ≤ 2 ^ 30) {must : Bool}
    (hA : ∀ n b, V n = some b → n = x.2.1 ∨ ∃ (j : Nat) (f : Nm × List UInt8), fs[j]? = some f ∧ f.1 = n) (hB : ∀ n, n ≠ x.2.1 → ∀ b, viewOf fs n = some b → V n = some b) (hM : must = true → V x.2.1 ≠ none) {K : Bool → World → Prop}
    (hK : ∀ F' w' k, Stg w' st d f F' { D with steps := k } (N + 2 * fs.length) X sm sd so enc new was dat old B → Upd F w w' → (∀ k, F' k → F k ∨ w.heap.size ≤ k) → K true w') :
    callT Tryz.prog 29 #[.pointer (some (at0 st)), .agg (scells x), .bool must] (.one (.one .bool)) K w := by
  refine F29_calls (a1 := x) ?_
  unfold F29
  obtain ⟨(sf : Sl), (nm : ByteArray), (en : Int), (sb : Sl), ⟨⟩⟩ := x
  dsimp only at hA hB hM hx ⊢
  have hsl := hx.slen
  obtain ⟨L, hL⟩ : ∃ L, L = names D.seen := ⟨_, rfl⟩
  obtain ⟨⟨hLn, hLm⟩, hL16⟩ := h.disk.ok.seen.names
  rw [← hL] at hLn hLm hL16
  refine newO_r fun b1 w1 e1 n1 hb1 hz1 => nn_some (ld_r (e1.ext_get h.box) (off := 0) (x := some (at0 d)) rfl (names_of_call (h.disk.ext e1).disk h.disk.ok fun s4 w2 o4 e2 => ?_))
  rw [if_neg (by rw [sol.q.up]; simp), ← hL] at o4
  have n1 : w1.heap[b1]? = some (.cells (scells (sf, nm, en, sb, ())) 39 (0, 0)) := n1
  have e12 := e1.trans e2
  have n2 := e2.ext_get n1
  have hLl : L.length = s4.len := by have := o4.in.len; simpa using this
  refine join_r (fun y W => ∃ own : Bool, y = (own, ()) ∧ (own = true ↔ nm ∈ L) ∧ Ext w2 W) ?_ ?_
  · refine sloop_r (fun s W => ∃ (i : Nat) (own : Bool), s = (own, (i : Int), ()) ∧ (own = true ↔ nm ∈ L.take i) ∧ i ≤ L.length ∧ Ext w2 W) (fun s _ => L.length - s.2.1.toNat) ⟨0, false, rfl, by simp, Nat.zero_le _, Ext.refl _⟩ ?_
    rintro _ W ⟨i, own, rfl, hown, hi, eW⟩
    dsimp only
    refine sif_r (fun hlt => ?_) fun hge => ?_
    · have hlt : i < L.length := by have := of_decide_eq_true hlt; omega
      obtain ⟨n, hn⟩ : ∃ n, L[i]? = some n := ⟨_, List.getElem?_eq_getElem hlt⟩
      have htk : L.take (i + 1) = L.take i ++ [n] := by rw [List.take_add_one, hn]; rfl
      have hnV : ∃ b, V n = some b := by
        have h1 := (hLm n).1 (List.mem_of_getElem? hn)
        cases hv : V n with
        | none => rw [sol.none_iff.2 hv] at h1; cases h1
        | some b => exact ⟨b, rfl⟩
      refine drew_r fun W1 e4 _ => ?_
      have e24 := eW.trans e4
      refine strs_ld (o4.in.ext e24) hn fun _ => ld_r (e24.ext_get n2) (off := 1) (x := nm) rfl ?_
      rw [bytes_eq]
      refine join_r (fun y W' => ∃ own' : Bool, y = (own', ()) ∧ (own' = true ↔ nm ∈ L.take (i + 1)) ∧ W1 = W') (sif_r (fun ho => ⟨true, rfl, ?_, rfl⟩) fun ho => ⟨_, rfl, ?_, rfl⟩) ?_
      · rw [htk]; exact ⟨fun _ => List.mem_append_left _ (hown.1 ho), fun _ => rfl⟩
      · have hno : nm ∉ L.take i := fun hh => by rw [hown.2 hh] at ho; cases ho
        rw [htk, decide_eq_true_eq]
        constructor
        · rintro rfl; exact List.mem_append_right _ List.mem_cons_self
        · intro hh
          rcases List.mem_append.1 hh with hh | hh
          · exact absurd hh hno
          · exact (List.mem_singleton.1 hh).symm
      rintro _ _ ⟨own', rfl, hown', rfl⟩
      refine join_r (fun y W' => y = (true, ()) ∧ Ext w2 W') ?_ ?_
      · refine sloop_r (fun s W' => ∃ (j : Nat) (b : Bool), s = (b, (j : Int), ()) ∧ (b = true ↔ n = nm ∨ ∃ (k : Nat) (f : Nm × List UInt8), k < j ∧ fs[k]? = some f ∧ f.1 = n) ∧ j ≤ fs.length ∧ Ext w2 W') (fun s _ => fs.length - s.2.1.toNat) ⟨0, decide (n = nm), rfl, ?_, Nat.zero_le _, e24⟩ ?_
        · rw [decide_eq_true_eq]
          exact ⟨.inl, fun hh => hh.elim id fun ⟨k, f, hk, _⟩ => by omega⟩
        rintro _ W3 ⟨j, b, rfl, hb, hj, e3⟩
        dsimp only
        have n3 := e3.ext_get n2
        refine ld_r n3 (off := 0) (x := sf) rfl (sif_r (fun hlt2 => ?_) fun hge2 => ?_)
        · have hlt2 : j < fs.length := by have := of_decide_eq_true hlt2; omega
          refine join_r (fun y W' => ∃ b' : Bool, y = (b', ()) ∧ (b' = true ↔ n = nm ∨ ∃ (k : Nat) (f : Nm × List UInt8), k < j + 1 ∧ fs[k]? = some f ∧ f.1 = n) ∧ Ext w2 W') ?_ ?_
          · refine drew_r fun W5 e5 _ => ?_
            have e25 := e3.trans e5
            refine sif_r (fun hb1 => ⟨true, rfl, ⟨fun _ => ?_, fun _ => rfl⟩, e25⟩) fun hb1 => ?_
            · rcases hb.1 hb1 with hh | ⟨k, f, hk, hh⟩
              · exact .inl hh
              · exact .inr ⟨k, f, by omega, hh⟩
            obtain ⟨t, r, fl, hin, hr, hf, g1, g2, g3, g4⟩ := ((hx.ext e0).ext (e12.trans e25)).in_ hlt2
            refine ld_r (e25.ext_get n2) (off := 0) (x := sf) rfl (name_ld hin hr fun _ => strs_ld (o4.in.ext e25) hn fun _ => ⟨_, rfl, ?_, e25⟩)
            rw [bytes_eq, decide_eq_true_eq, g1]
            constructor
            · intro hh; exact .inr ⟨j, fl, by omega, hf, hh⟩
            · rintro (hh | ⟨k, f', hk, hf', hh⟩)
              · rw [hb.2 (.inl hh)] at hb1; cases hb1
              · by_cases hkj : k = j
                · subst hkj; rw [hf] at hf'; cases hf'; exact hh
                · rw [hb.2 (.inr ⟨k, f', by omega, hf', hh⟩)] at hb1; cases hb1
          rintro _ W6 ⟨b', rfl, hb', e6⟩
          rw [wrap64 (by omega) (by omega)]
          refine ⟨⟨j + 1, b', by rw [show ((j : Int) + 1) = ((j + 1 : Nat) : Int) by omega], hb', by omega, e6⟩, ?_⟩
          show fs.length - ((j : Int) + 1).toNat < fs.length - (j : Int).toNat
          omega
        · have hge2 : ¬ j < fs.length := by have := of_decide_eq_false hge2; omega
          have hbt : b = true := by
            obtain ⟨bb, hbb⟩ := hnV
            refine hb.2 ((hA n bb hbb).imp id fun ⟨k, f, hf, hh⟩ => ⟨k, f, by have := (List.getElem?_eq_some_iff.1 hf).1; omega, hf, hh⟩)
          rw [hbt]
          exact ⟨rfl, e3⟩
      rintro _ W6 ⟨rfl, e6⟩
      refine sif_r (fun hh => by cases hh) fun _ => ?_
      rw [wrap64 (by omega) (by omega)]
      refine ⟨⟨i + 1, own', by rw [show ((i : Int) + 1) = ((i + 1 : Nat) : Int) by omega], hown', by omega, e6⟩, ?_⟩
      show L.length - ((i : Int) + 1).toNat < L.length - (i : Int).toNat
      omega
    · have hge : ¬ i < L.length := by have := of_decide_eq_false hge; omega
      rw [List.take_of_length_le (by omega)] at hown
      exact ⟨own, rfl, hown, eW⟩
  rintro _ w3 ⟨own, rfl, hown, e3⟩
  have e13 := e12.trans e3
  have h3 := h.ext e13
  have n3 := e3.ext_get n2
  have nb1 : ¬ F b1 := fun hh => by have := h.disk.lt _ hh; omega
  have lb1 := lt_of_heap n3
  have z13 := e13.size
  refine join_r (fun _ W => ∃ F' k, Stg W st d f F' { D with steps := k } (N + 2 * fs.length) X sm sd so enc new was dat old B ∧ Upd F w W ∧ (∀ k, F' k → F k ∨ w.heap.size ≤ k)) ?_ ?_
  · refine sloop_r (fun s W => ∃ (j : Nat) (F' : Nat → Prop) (k : Int), s = ((j : Int), ()) ∧ j ≤ fs.length ∧ Stg W st d f F' { D with steps := k } (N + 2 * j) X sm sd so enc new was dat old B ∧ Upd F w W ∧ (∀ k, F' k → F k ∨ w.heap.size ≤ k) ∧ ¬ F' b1 ∧ W.heap[b1]? = some (.cells (scells (sf, nm, en, sb, ())) 39 (0, 0)) ∧ Ext w0 W) (fun s _ => fs.length - s.1.toNat)
      ⟨0, F, D.steps, rfl, Nat.zero_le _, h3, Upd.of_ext e13, fun k hk => .inl hk, nb1, n3, e0.trans e13⟩ ?_
    rintro _ W ⟨j, F1, k1, rfl, hj, sW, uW, hF1, nF1, nW, eW⟩
    dsimp only
    have lbW := lt_of_heap nW
    refine ld_r nW (off := 0) (x := sf) rfl (sif_r (fun hlt => ?_) fun hge => ?_)
    · have hlt : j < fs.length := by have := of_decide_eq_true hlt; omega
      obtain ⟨t, r, fl, hin, hr, hf, g1, g2, g3, g4⟩ := (hx.ext eW).in_ hlt
      obtain ⟨_, r0, fl0, _, hr0, hf0, _, g20, _, _⟩ := hx.in_ hlt
      obtain rfl : r = r0 := Option.some.inj (hr.symm.trans hr0)
      obtain rfl : fl = fl0 := Option.some.inj (hf.symm.trans hf0)
      have ej : IntKind.wrap .i64 ((j : Int) + 1) = ((j + 1 : Nat) : Int) := by rw [wrap64 (by omega) (by omega)]; omega
      rw [ej]
      refine join_r (fun y W' => ∃ b : Bool, y = (b, ()) ∧ (b = true → ∀ (k : Nat) (g : Nm × List UInt8), j < k → fs[k]? = some g → g.1 ≠ fl.1) ∧ Ext W W') ?_ ?_
      · refine sloop_r (fun s W' => ∃ (i : Nat) (b : Bool), s = (b, (i : Int), ()) ∧ j < i ∧ i ≤ fs.length ∧ (b = true → ∀ (k : Nat) (g : Nm × List UInt8), j < k → k < i → fs[k]? = some g → g.1 ≠ fl.1) ∧ Ext W W') (fun s _ => fs.length - s.2.1.toNat) ⟨j + 1, true, rfl, by omega, by omega, fun _ k g h1 h2 => by omega, Ext.refl _⟩ ?_
        rintro _ W3 ⟨i, b, rfl, hji, hi, hb, e3⟩
        dsimp only
        refine ld_r (e3.ext_get nW) (off := 0) (x := sf) rfl (sif_r (fun hlt2 => ?_) fun hge2 => ?_)
        · have hlt2 : i < fs.length := by have := of_decide_eq_true hlt2; omega
          refine join_r (fun y W' => ∃ b' : Bool, y = (b', ()) ∧ (b' = true → ∀ (k : Nat) (g : Nm × List UInt8), j < k → k < i + 1 → fs[k]? = some g → g.1 ≠ fl.1) ∧ Ext W W') ?_ ?_
          · refine drew_r fun W5 e5 _ => ?_
            have e35 := e3.trans e5
            refine sif_r (fun hb1 => ?_) fun hb1 => ⟨false, rfl, (fun hh => by cases hh), e35⟩
            obtain ⟨t2, r2, f2, hin2, hr2, hf2, q1, q2, q3, q4⟩ := ((hx.ext eW).ext e35).in_ hlt2
            obtain ⟨t5, r5, f5, hin5, hr5, hf5, p1, p2, p3, p4⟩ := ((hx.ext eW).ext e35).in_ hlt
            obtain rfl : r = r5 := Option.some.inj (hr.symm.trans hr5)
            refine ld_r (e35.ext_get nW) (off := 0) (x := sf) rfl (name_ld hin2 hr2 fun _ => ld_r (e35.ext_get nW) (off := 0) (x := sf) rfl (name_ld hin5 hr fun _ => ⟨_, rfl, ?_, e35⟩))
            rw [bytes_eq, q1, g1]
            intro hne k g hjk hki hg
            have hne : f2.1 ≠ fl.1 := by simpa using hne
            by_cases hk : k = i
            · subst hk; rw [hf2] at hg; cases hg; exact hne
            · exact hb hb1 k g hjk (by omega) hg
          rintro _ W6 ⟨b', rfl, hb', e6⟩
          rw [wrap64 (by omega) (by omega)]
          refine ⟨⟨i + 1, b', by rw [show ((i : Int) + 1) = ((i + 1 : Nat) : Int) by omega], by omega, by omega, hb', e6⟩, ?_⟩
          show fs.length - ((i : Int) + 1).toNat < fs.length - (i : Int).toNat
          omega
        · have hge2 : ¬ i < fs.length := by have := of_decide_eq_false hge2; omega
          exact ⟨b, rfl, fun hh k g hjk hg => hb hh k g hjk (by have := (List.getElem?_eq_some_iff.1 hg).1; omega) hg, e3⟩
      rintro _ W4 ⟨b, rfl, hb, e4⟩
      refine join_r (fun y W' => y = (false, ()) ∧ ∃ (F' : Nat → Prop) (k : Int), Stg W' st d f F' { D with steps := k } (N + 2 * (j + 1)) X sm sd so enc new was dat old B ∧ Upd F w W' ∧ (∀ k, F' k → F k ∨ w.heap.size ≤ k) ∧ ¬ F' b1 ∧ W'.heap[b1]? = some (.cells (scells (sf, nm, en, sb, ())) 39 (0, 0)) ∧ Ext w0 W') ?_ ?_
      · refine drew_r fun W5 e5 _ => ?_
        have e45 := e4.trans e5
        have s5 := sW.ext e45
        have n5 := e45.ext_get nW
        have u5 := uW.trans (Upd.of_ext e45)
        have e05 := eW.trans e45
        obtain ⟨t5, r5, f5, hin5, hr5, hf5, p1, p2, p3, p4⟩ := (hx.ext e05).in_ hlt
        obtain rfl : r = r5 := Option.some.inj (hr.symm.trans hr5)
        refine sif_r (fun hb1 => ?_) fun _ => ⟨rfl, F1, k1, s5.mono (by omega), u5, hF1, nF1, n5, e05⟩
        refine ld_r n5 (off := 0) (x := sf) rfl (name_ld hin5 hr fun _ => ld_r n5 (off := 1) (x := nm) rfl (sif_r (fun hne => ?_) fun _ => ⟨rfl, F1, k1, s5.mono (by omega), u5, hF1, nF1, n5, e05⟩))
        rw [bytes_eq, g1] at hne
        have hne : fl.1 ≠ nm := by simpa using hne
        have hv := hB fl.1 hne fl.2 (view_last hf (hb hb1))
        have hu := hfs fl (List.mem_of_getElem? hf)
        refine nn_some (ld_r s5.box (off := 0) (x := some (at0 d)) rfl (ld_r n5 (off := 0) (x := sf) rfl (name_ld hin5 hr fun _ => ld_r n5 (off := 0) (x := sf) rfl (data_ld hin5 hr fun _ => ?_))))
        rw [g1]
        have hlie : Lie (fun k => ¬ F1 k) r.2.1 := (SlX.lie g20).imp id fun hh k hk hf1 => by have := hh k hk; have := sW.lF k hf1; omega
        refine holds_call s5.disk (by omega) (g2.ext e45) (by omega) hlie fun F6 W6 A6 u6 hF6 => ?_
        have solk : Sol { D with steps := k1 } V := sol.st k1
        have hsv := solk.view fl.1
        rw [hv] at hsv
        obtain ⟨ii, hii, hdd⟩ := Option.map_eq_some_iff.1 hsv
        have hrd := read_q solk.q (side_ok hu).1
        rw [hii, if_neg (by simp)] at hrd
        have hrd : callRead { D with steps := k1 } fl.1 = ({ D with steps := k1 + 1 }, 0, fl.2) := by rw [hrd]; show (_, _, (Option.map _ (some ii)).getD []) = _; simp only [Option.map_some, Option.getD_some]; rw [hdd]
        rw [hrd] at A6 ⊢
        refine ⟨by simp, F6, k1 + 1, (s5.turn A6 u6 hF6).mono (by omega), ?_, ?_, ?_, u6.get n5 nF1, e05.step u6 fun k hk => by have := sW.lF k hk; omega⟩
        · exact u5.new u6 fun k hk hh => (hF1 k hh).resolve_right (by omega)
        · exact fun k hk => (hF6 k hk).elim (hF1 k) fun hl => .inr (by have := u5.size; omega)
        · exact fun hh => (hF6 _ hh).elim nF1 fun hl => by have := lt_of_heap n5; omega
      rintro _ W6 ⟨rfl, F6, k6, s6, u6, hF6, nF6, n6, e6⟩
      refine sif_r (fun hh => by cases hh) fun _ => ?_
      refine ⟨⟨j + 1, F6, k6, rfl, by omega, s6, u6, hF6, nF6, n6, e6⟩, ?_⟩
      show fs.length - ((j + 1 : Nat) : Int).toNat < fs.length - (j : Int).toNat
      omega
    · have hge : ¬ j < fs.length := by have := of_decide_eq_false hge; omega
      exact ⟨F1, k1, sW.mono (by omega), uW, hF1⟩
  rintro _ W ⟨F1, k1, sW, uW, hF1⟩
  have hk := hK F1 W k1 sW uW hF1
  refine sif_r (fun _ => hk) fun ho => ?_
  have hm : must = false := by
    cases hmm : must with
    | false => rfl
    | true =>
      have hv := hM hmm
      have : nm ∈ L := (hLm nm).2 (by
        cases hs : D.seen nm with
        | none => exact absurd (sol.none_iff.1 hs) hv
        | some i => rfl)
      rw [hown.2 this] at ho; cases ho
  rw [hm]; exact hk
end
end Dq
end Go.Proofs.YtmooldhpiopcgaaGreatDoor
set_option linter.unusedSimpArgs false
set_option linter.unusedVariables false
set_option maxRecDepth 100000
namespace Go.Proofs.YtmooldhpiopcgaaGreatDoor
namespace Dq
open Go Go.Vx Dsk Cdc Trx
section
variable {w w' : World} {S F F' : Nat → Prop} {d : Nat} {D E : Dk} {N : Nat} {st f : Nat} {X : Fil} {sm sd so : Sl} {enc : Int} {new was : Bool} {dat old : List UInt8} {B : Nat} {s : Sl} {l b T : List UInt8} {fs : Fls} {V : Vw} {n : Nm} {k : Int} {force : Bool} {g : List UInt8 → Int} {lod : Lod}
theorem Start.mark3 (h : Start g fs n enc D X lod) : X.mark.length ≤ 3 := by
  have := h.at_
  split at this
  · rename_i b hb
    obtain ⟨m0, m1, m2⟩ := enc_bound (g := g) (enc := enc) (b := b)
    rw [this.2, List.length_take]; omega
  · rw [this.2]; exact Nat.zero_le _
theorem saveP_same : (saveP D X b force).2.2.mark = X.mark ∧ (saveP D X b force).2.2.name = X.name := by
  unfold saveP
  dsimp only
  repeat' split
  all_goals exact ⟨rfl, rfl⟩
theorem lists_same {f f' : Dir} {l : List Nm} (h : Lists f l) (hs : ∀ m, (f' m).isSome = (f m).isSome) : Lists f' l := ⟨h.1, fun m => by rw [hs]; exact h.2 m⟩
theorem sol_save (sol : Sol E V) (ok : DkOk E N) (hsp : E.space = 1048576) (hnm : (Dsk.names E.seen).length ≤ 14 ∨ (V X.name ≠ none ∧ (Dsk.names E.seen).length ≤ 15)) (hu : userName X.name = true) (hV : ∀ m b, V m = some b → b.length ≤ 60003) (hside : V (side X.name) = none) (hm : X.mark.length ≤ 3) (hb : b.length ≤ 65536) (hk : force = true ∨ stampOf E X.name = knownAt E X) :
    ∃ c, (saveP E X b force).2 = (0, { X with tried := ((E.files.length : Int) + 1, ((X.mark ++ b).length : Int), c), known := ((E.files.length : Int) + 1, ((X.mark ++ b).length : Int), c) }) ∧
      Put E (saveP E X b force).1 X.name (6 + (((X.mark ++ b).length + 1023) / 1024 : Nat)) ⟨X.mark ++ b, (X.mark ++ b).length, c⟩ ∧ Sol (saveP E X b force).1 (vset V X.name (some (X.mark ++ b))) ∧ (saveP E X b force).1.space = 1048576 ∧ (Dsk.names (saveP E X b force).1.seen).length ≤ 15 := by
  have hsn : E.seen (side X.name) = none := sol.none_iff.2 hside
  have hn15 : (Dsk.names E.seen).length ≤ 15 := by rcases hnm with h | ⟨_, h⟩ <;> omega
  have hused : usedBut E none ≤ 900045 := by
    have := sol.used ok (B := 60003) hV none
    have h2 : ((Dsk.names E.seen).length : Int) * ((60003 : Nat) : Int) ≤ 15 * 60003 := Int.mul_le_mul_of_nonneg_right (by omega) (by decide)
    omega
  obtain ⟨c, h1, h2, h3, _⟩ := save_quiet (X := X) (b := b) (force := force) sol.q ok hu (fun _ => by omega) (by rw [hsp, List.length_append]; omega) hk
  rw [if_pos hsn] at h2
  refine ⟨c, h1, h2, h2.sol sol ok hside h3, h2.space.trans hsp, ?_⟩
  obtain ⟨l1, _⟩ := ok.seen.names
  rw [h2.seen, dset_self _ _ hsn]
  cases hsx : E.seen X.name with
  | none =>
    have h14 : (Dsk.names E.seen).length ≤ 14 := by
      rcases hnm with h | ⟨h, _⟩
      · exact h
      · exact absurd (sol.none_iff.1 hsx) h
    rw [names_len (lists_new l1 hsx)]
    simp only [List.length_append, List.length_cons, List.length_nil]; omega
  | some i =>
    rw [names_len (lists_same l1 fun m => by
      unfold dset; split
      · rename_i hmm; rw [hmm, hsx]; rfl
      · rfl)]
    exact hn15
structure TxOn (w : World) (p : Nat) (e : Enc) (O : Nat → Prop) (M : Parts) (F : Nat → Prop) (f : Nat) (l : List UInt8) : Prop where
  txt : Txt w p e 65536 0 O M
  is : bOf M = l
  no : ∀ k, O k → ¬ F k ∧ k ≠ f
section
variable {p : Nat} {e : Enc} {O : Nat → Prop} {M : Parts}
theorem saveT (h : Stg w st d f F D N X sm sd so enc new was dat old B) (t : TxOn w p e O M F f l) (hN : N + 6010 ≤ 2 ^ 30) {force : Bool} {K : Int → World → Prop}
    (hK : ∀ F' w', Stg w' st d f F' (saveP D X l force).1 (N + 5004) (saveP D X l force).2.2 sm sd so enc new was dat old B → TxOn w' p e O M F' f l → Upd (fun k => F k ∨ k = f) w w' → (∀ k, F' k → F k ∨ w.heap.size ≤ k) → K (saveP D X l force).2.1 w') :
    callT Tryz.prog 27 #[.pointer (some (at0 f)), .pointer (some (at0 p)), .bool force] (.one (.one (.int .i64))) K w :=
  save_call h.disk hN t.txt t.no h.file fun F' w' A' X' T' hO' u hF => by
    rw [t.is] at *
    exact hK F' w' (h.next A' X' saveP_same.1 u hF) ⟨T', t.is, hO'⟩ u hF
end
end
end Dq
end Go.Proofs.YtmooldhpiopcgaaGreatDoor
set_option linter.unusedSimpArgs false
set_option linter.unusedVariables false
set_option maxRecDepth 100000
namespace Go.Proofs.YtmooldhpiopcgaaGreatDoor
namespace Dq
open Go Go.Vx Dsk Cdc Trx
section
variable {w w' : World} {S F F' : Nat → Prop} {d : Nat} {D : Dk} {N : Nat} {g : List UInt8 → Int} {fs : Fls} {n : Nm} {enc : Int} {X : Fil} {lod : Lod} {V : Vw} {b : List UInt8}
theorem read_sol (sol : Sol D V) (hn : okName n = true) (hv : V n = some b) : callRead D n = ({ D with steps := D.steps + 1 }, 0, b) := by
  have hsv := sol.view n
  rw [hv] at hsv
  obtain ⟨ii, hii, hdd⟩ := Option.map_eq_some_iff.1 hsv
  have hrd := read_q sol.q hn
  rw [hii, if_neg (by simp)] at hrd
  rw [hrd]; show (_, _, (Option.map _ (some ii)).getD []) = _; simp only [Option.map_some, Option.getD_some]; rw [hdd]
theorem vset_at : vset V n (some b) n = some b := by unfold vset; rw [if_pos rfl]
theorem vset_ne {m : Nm} (h : m ≠ n) : vset V n (some b) m = V m := by unfold vset; rw [if_neg h]
theorem own_A : ∀ m c, vset (viewOf fs) n (some b) m = some c → m = n ∨ ∃ (j : Nat) (f : Nm × List UInt8), fs[j]? = some f ∧ f.1 = m := fun m c h => by
  by_cases hm : m = n
  · exact .inl hm
  · rw [vset_ne hm] at h; exact .inr (view_some h)
theorem own_B : ∀ m, m ≠ n → ∀ c, viewOf fs m = some c → vset (viewOf fs) n (some b) m = some c := fun m hm c h => by rw [vset_ne hm]; exact h
section
variable {st f : Nat} {sm sd so : Sl} {new was : Bool} {dat old : List UInt8} {B : Nat} {p : Nat} {e : Enc} {O : Nat → Prop} {M : Parts} {l : List UInt8}
end
end
end Dq
end Go.Proofs.YtmooldhpiopcgaaGreatDoor
set_option linter.unusedSimpArgs false
set_option linter.unusedVariables false
set_option maxRecDepth 100000
namespace Go.Proofs.YtmooldhpiopcgaaGreatDoor
namespace Dq
open Go Go.Vx Dsk Cdc Trx
section
variable {D : Dk} {X : Fil} {b : List UInt8} {n : Nm} {g : List UInt8 → Int} {fs : Fls} {enc : Int} {lod : Lod}
theorem Start.whole (h : Start g fs n enc D X lod) : X.mark ++ lod.data = (viewOf fs n).getD [] := by
  have := h.at_
  split at this
  · rename_i b hb
    rw [hb, this.1, this.2]; exact List.take_append_drop _ _
  · rename_i hb
    rw [hb, this.1, this.2]; rfl
theorem Start.dlen (h : Start g fs n enc D X lod) : lod.data.length ≤ ((viewOf fs n).getD []).length := by
  rw [← h.whole, List.length_append]; omega
theorem Start.encs (h : Start g fs n enc D X lod) (he : 0 ≤ enc ∧ enc ≤ 4) (h0 : enc ≠ 0) : lod.enc = enc := by
  have := h.at_
  split at this
  · rw [this.1]
    show (encK g enc _).1 = enc
    unfold encK
    rw [if_neg fun hh => h0 hh.1, if_neg h0]
    split <;> rfl
  · rw [this.1]
    show (if 1 > enc then 1 else enc) = enc
    rw [if_neg (by omega)]
theorem Start.det (h : Start g fs n enc D X lod) (h0 : enc = 0) (hd : (detectP ((viewOf fs n).getD [])).1 ≠ 0) : lod.enc = (detectP ((viewOf fs n).getD [])).1 ∧ (X.mark.length : Int) = (detectP ((viewOf fs n).getD [])).2 := by
  have := h.at_
  split at this
  · rename_i b hb
    rw [hb] at hd ⊢
    have hd : (detectP b).1 ≠ 0 := hd
    have e : encK g enc b = detectP b := by unfold encK; rw [if_pos ⟨h0, hd⟩]
    obtain ⟨m0, m1, m2⟩ := enc_bound (g := g) (enc := enc) (b := b)
    rw [this.1, this.2, e]
    rw [e] at m0 m1 m2
    refine ⟨rfl, ?_⟩
    show ((b.take (detectP b).2.toNat).length : Int) = (detectP b).2
    rw [List.length_take]; omega
  · rename_i hb
    rw [hb] at hd
    exact absurd rfl hd
theorem Start.marks (h : Start g fs n enc D X lod) (he : 0 ≤ enc ∧ enc ≤ 4) : (X.mark.length = 0 ∨ X.mark.length = (markP lod.enc).length) ∧ ((markP lod.enc).length ≠ 0 → (X.mark.length = (markP lod.enc).length ↔ (markP lod.enc).isPrefixOf ((viewOf fs n).getD []) = true)) := by
  have := h.at_
  split at this
  · rename_i b hb
    rw [hb, this.1, this.2]
    dsimp only [Option.getD_some]
    obtain ⟨m0, m1, m2⟩ := enc_bound (g := g) (enc := enc) (b := b)
    have hlen : ((b.take (encK g enc b).2.toNat).length : Int) = (encK g enc b).2 := by rw [List.length_take]; omega
    obtain ⟨L, hL⟩ : ∃ L, L = (b.take (encK g enc b).2.toNat).length := ⟨_, rfl⟩
    rw [← hL] at hlen ⊢
    unfold encK at hlen ⊢
    split at hlen
    · rename_i hc
      rw [if_pos hc]
      have hc2 := hc.2
      unfold detectP at hc2 hlen ⊢
      split at hlen
      · rename_i h1
        rw [if_pos h1]
        have : L = 3 := by have : (L : Int) = 3 := hlen; omega
        subst this
        exact ⟨.inr rfl, fun _ => ⟨fun _ => h1, fun _ => rfl⟩⟩
      · rename_i h1
        rw [if_neg h1]
        split at hlen
        · rename_i h2
          rw [if_pos h2]
          have : L = 2 := by have : (L : Int) = 2 := hlen; omega
          subst this
          exact ⟨.inr rfl, fun _ => ⟨fun _ => h2, fun _ => rfl⟩⟩
        · rename_i h2
          rw [if_neg h2]
          split at hlen
          · rename_i h3
            rw [if_pos h3]
            have : L = 2 := by have : (L : Int) = 2 := hlen; omega
            subst this
            exact ⟨.inr rfl, fun _ => ⟨fun _ => h3, fun _ => rfl⟩⟩
          · rename_i h3
            rw [if_neg h1, if_neg h2, if_neg h3] at hc2
            exact absurd rfl hc2
    · rename_i hc
      rw [if_neg hc]
      split at hlen
      · rename_i h0
        rw [if_pos h0]
        have hd : (detectP b).1 = 0 := Decidable.byContradiction fun hh => hc ⟨h0, hh⟩
        have : L = 0 := by have : (L : Int) = 0 := hlen; omega
        subst this
        refine ⟨.inl rfl, fun hm => ⟨fun hh => absurd hh.symm hm, fun hp => ?_⟩⟩
        unfold detectP at hd
        unfold markP at hm hp
        dsimp only at hm hp
        split at hm
        · rename_i hg; rw [if_pos hg] at hp; rw [if_pos hp] at hd; exact absurd hd (by decide)
        · rename_i hg
          rw [if_neg hg] at hp
          split at hm
          · rename_i hg2; rw [if_pos hg2] at hp
            split at hd
            · exact absurd hd (by decide)
            · first | exact absurd hd (by decide) | (rw [if_pos hp] at hd; exact absurd hd (by decide))
          · rename_i hg2
            rw [if_neg hg2] at hp
            split at hm
            · rename_i hg3; rw [if_pos hg3] at hp
              split at hd
              · exact absurd hd (by decide)
              · split at hd
                · exact absurd hd (by decide)
                · first | exact absurd hd (by decide) | (rw [if_pos hp] at hd; exact absurd hd (by decide))
            · exact absurd rfl hm
      · rename_i h0
        rw [if_neg h0]
        split at hlen
        · rename_i hp
          rw [if_pos hp]
          have : L = (markP enc).length := by have : (L : Int) = ((markP enc).length : Int) := hlen; omega
          exact ⟨.inr this, fun _ => ⟨fun _ => hp, fun _ => this⟩⟩
        · rename_i hp
          rw [if_neg hp]
          have : L = 0 := by have : (L : Int) = 0 := hlen; omega
          subst this
          exact ⟨.inl rfl, fun hm => ⟨fun hh => absurd hh.symm hm, fun hh => absurd hh hp⟩⟩
  · rename_i hb
    rw [hb, this.2]
    refine ⟨.inl rfl, fun hm => ⟨fun hh => absurd hh.symm hm, fun hp => ?_⟩⟩
    have := (List.isPrefixOf_iff_prefix.1 hp).length_le
    simp at this
    exact absurd (by rw [this]; rfl) hm
end
end Dq
end Go.Proofs.YtmooldhpiopcgaaGreatDoor
set_option linter.unusedSimpArgs false
set_option linter.unusedVariables false
set_option maxRecDepth 100000
namespace Go.Proofs.YtmooldhpiopcgaaGreatDoor
open Go Go.Vx Cdc Trx
section
variable {w w' : World} {S : Nat → Prop} {p : Nat} {e : Enc} {lim na : Nat} {O : Nat → Prop} {M : Parts}
theorem append_run3 (P : Program) {ts xt rt : TypeId} {e xe : TypeId} {i : TypeInfo} {z : Value} (hts : P.underlying ts = some (.slice e)) (hxt : P.underlying xt = some (.slice xe)) (hi : P.info? e = some i) (hz : i.zero = some z)
    {B : Nat} {s x : Sl} {vs us : List Value} (hs : SlOwn w B s e i.size vs) (hx : SlX w x i.size us) (h1 : ∀ v ∈ us, isOne v = true) (hzl : z.cells.size = i.size)
    (hroom : (s.len + x.len + (s.len + x.len) / 4 + 512) * i.bytes ≤ 2 ^ 48) (hb0 : 0 < i.bytes) (hB : B ≤ w.heap.size) :
    ∃ s' w', (Builtin.append_ #[ts, xt] rt #[.slice s.a s.len s.cap, .slice x.a x.len x.cap]).run P w = .ok (.slice s'.a s'.len s'.cap) w' ∧ SlOwn w' B s' e i.size (vs ++ us) ∧ s'.len = s.len + x.len ∧
      Upd (fun k => s.blk k) w w' ∧ ((Ext w w' ∧ ∀ k, s'.blk k → w.heap.size ≤ k) ∨ (s'.a = s.a ∧ ∃ b off c, s.a = some ⟨b, off, none⟩ ∧ w.heap[b]? = some (.cells c e (0, 0)) ∧ w'.heap[b]? = some (.cells (setRow c (off + s.len * i.size) us) e (0, 0)))) := by
  obtain ⟨s', w', hr, ho, hl, hu, hk, hex⟩ := append_run2 (rt := rt) P hts hxt hi hz hs hx h1 hzl hroom hb0 hB
  refine ⟨s', w', hr, ho, hl, hu, ?_⟩
  have hfx := run_firstCellsX P hx
  have hfs := run_firstCells P hs.in
  have hu1 := fun W => run_underlying hts W
  have hu2 := fun W => run_underlying hxt W
  have hsz : ∀ W, (sizeOf e).run P W = .ok i.size W := fun W => by simp [sizeOf, run_typeInfo W hi]
  have hlen := hs.len
  have hxlen := hx.len
  by_cases hneed : s.len + x.len ≤ s.cap
  · rcases hs.at_ with ⟨ha, hc⟩ | ⟨b, off, c, ha, hB', hb, hcap, hv⟩
    · have hl0 : x.len = 0 := by omega
      have hsl : s.len = 0 := by omega
      have hus : us = [] := by rw [hl0, Nat.zero_mul] at hxlen; exact List.length_eq_zero_iff.1 hxlen
      have hfx' : (Builtin.firstCells i.size 0 (.slice x.a 0 x.cap)).run P w = .ok #[] w := by rw [hl0, hus] at hfx; exact hfx
      simp [Builtin.append_, hu1, hu2, hsz, Builtin.lenOf, hl0, hsl, ha, hfx', hc] at hr
      obtain ⟨⟨h1, _⟩, rfl⟩ := hr
      refine .inl ⟨Ext.refl w, fun k hk => ?_⟩
      obtain ⟨q, hq, _⟩ := hk
      rw [← h1] at hq; cases hq
    · have hfit : s.len * i.size + us.length ≤ s.cap * i.size := by
        rw [hxlen, ← Nat.add_mul]; exact Nat.mul_le_mul_right _ hneed
      obtain ⟨w1, hr1, hu1', hb1, _⟩ := run_storeRow P us b (off + s.len * i.size) 0 c e w h1 hb (by omega)
      simp [Builtin.append_, hu1, hu2, hsz, Builtin.lenOf, hneed, hfx, ha, addr_add, hr1] at hr
      obtain ⟨⟨h1, _⟩, rfl⟩ := hr
      exact .inr ⟨h1.symm.trans ha.symm, b, off, c, ha, hb, hb1⟩
  · have hti : ∀ W, (typeInfo e).run P W = .ok i W := fun W => run_typeInfo W hi
    have hzv : ∀ W, (zeroValue e).run P W = .ok z W := fun W => by simp [zeroValue, run_typeInfo W hi, hz]
    have hle := Go.Vx.nextslicecap_le (need := s.len + x.len) (old := s.cap) (by omega)
    have hroom' : ¬ (Builtin.nextslicecap (s.len + x.len) s.cap * i.bytes > 2 ^ 48) := by
      have := Nat.mul_le_mul_right i.bytes hle
      omega
    have hfx' : (Builtin.firstCells i.size x.len (.slice x.a x.len x.cap)).run P w.drew = .ok us.toArray w.drew := run_firstCellsX P (hx.ext (Ext.drew w))
    have hfs' : (Builtin.firstCells i.size s.len (.slice s.a s.len s.cap)).run P w.drew = .ok vs.toArray w.drew := run_firstCells P (hs.in.ext (Ext.drew w))
    have hb0' : ¬ i.bytes = 0 := by omega
    simp [Builtin.append_, hu1, hu2, hsz, Builtin.lenOf, hneed, hti, hb0', hroom', run_askRoom, hfs', hfx', hzv, newRow, newObj, Sem.run, Question.forced] at hr
    obtain ⟨⟨h1, _⟩, rfl⟩ := hr
    refine .inl ⟨(Ext.drew w).trans (Ext.alloc w.drew _), fun k hk => ?_⟩
    obtain ⟨q, hq, rfl⟩ := hk
    rw [← h1] at hq; cases hq
    exact Nat.le_refl _
theorem app_by {B : Nat} {s x : Sl} {l m : Bs} {K : Sl → World → Prop} (hs : SlOwn w B s 5 1 (bv l)) (hx : SlX w x 1 (bv m)) (hroom : s.len + x.len + (s.len + x.len) / 4 + 512 ≤ 2 ^ 48) (hB : B ≤ w.heap.size)
    (h : ∀ s' w', SlOwn w' B s' 5 1 (bv (l ++ m)) → s'.len = s.len + x.len → Upd s.blk w w' → (∀ k, s'.blk k → s.blk k ∨ w.heap.size ≤ k) →
      (∀ y b, By w y b → (∀ k, y.blk k → s.blk k → top y ≤ top s) → By w' y b ∧ ∀ k, y.blk k → s'.blk k → top y ≤ top s') → K s' w') :
    rawT Tryz.prog (.one (.one .sl)) (Builtin.append_ #[30, 30] 30 #[.slice s.a s.len s.cap, .slice x.a x.len x.cap]) K w := by
  obtain ⟨i, z, hi, hsz, hby, hz, hzs⟩ := EBy.e_
  have hs' := hs
  rw [← hsz] at hs hx
  obtain ⟨s', w', hr, ho, hl, hu, hex⟩ := append_run3 (rt := 30) Tryz.prog EBy.ts_ EBy.ts_ hi hz hs hx (fun v hv => by
    obtain ⟨b, _, rfl⟩ := List.mem_map.1 hv; rfl) (by rw [hsz]; exact hzs) (by rw [hby]; omega) (by rw [hby]; decide) hB
  rw [hsz] at ho hex
  have eb : bv l ++ bv m = bv (l ++ m) := by simp [bv]
  rw [eb] at ho
  refine ⟨s', w', hr, h s' w' ho hl hu (fun k hk => ?_) fun y b hy hyt => ?_⟩
  · rcases hex with ⟨_, h2⟩ | ⟨h1, _⟩
    · exact .inr (h2 k hk)
    · left
      obtain ⟨q, hq, rfl⟩ := hk
      exact ⟨q, h1 ▸ hq, rfl⟩
  · rcases hex with ⟨h1, h2⟩ | ⟨h1, b0, off, c, ha, hb0, hb1⟩
    · exact ⟨hy.ext h1, fun k hk hk' => by have := hy.blk_lt hk; have := h2 k hk'; omega⟩
    · have hts : top s ≤ top s' := by unfold top; rw [h1, ha]; show off + s.len ≤ off + s'.len; omega
      have hsk : ∀ k, s'.blk k → s.blk k := fun k hk => by obtain ⟨q, hq, rfl⟩ := hk; exact ⟨q, h1 ▸ hq, rfl⟩
      refine ⟨⟨SlIn.len hy, hy.le, hy.at_.imp id fun ⟨b', off', c', fr', ha', hb', hcap, hv⟩ => ?_⟩, fun k hk hk' => Nat.le_trans (hyt k hk (hsk k hk')) hts⟩
      by_cases hbb : b' = b0
      · subst hbb
        rw [hb0] at hb'
        cases hb'
        have ht := hyt b' ⟨_, ha', rfl⟩ ⟨_, ha, rfl⟩
        unfold top at ht
        rw [ha', ha] at ht
        dsimp only at ht
        have hyl := hy.len
        refine ⟨b', off', _, _, ha', hb1, by rw [Go.Vx.size_setRow]; exact hcap, fun i u hu => ?_⟩
        have hil := (List.getElem?_eq_some_iff.1 hu).1
        rw [List.length_map] at hil
        rw [Go.Vx.get_setRow_lt _ _ _ _ (by omega)]
        exact hv i u hu
      · exact ⟨b', off', c', fr', ha', hu.get hb' (fun ⟨q, hq, hqb⟩ => by rw [ha] at hq; cases hq; exact hbb hqb.symm), hcap, hv⟩
def Old (w W : World) (a0 a : Sl) : Prop := ∀ y b, By w y b → (∀ k, y.blk k → a0.blk k → top y ≤ top a0) → By W y b ∧ ∀ k, y.blk k → a.blk k → top y ≤ top a
end
end Go.Proofs.YtmooldhpiopcgaaGreatDoor
set_option linter.unusedSimpArgs false
set_option linter.unusedVariables false
set_option maxRecDepth 100000
namespace Go.Proofs.YtmooldhpiopcgaaGreatDoor
namespace Dq
open Go Go.Vx Dsk Cdc Trx
section
variable {w w' : World} {B : Nat} {a b : Sl} {l : List UInt8}
theorem rep_set (n j : Nat) (c : UInt8) (l : List UInt8) (hl : l.length = n) (hj : j < n) : (List.replicate j c ++ l.drop j).set j c = List.replicate (j + 1) c ++ l.drop (j + 1) := by
  refine List.ext_getElem? fun i => ?_
  rw [List.getElem?_set]
  by_cases h : j = i
  · subst h
    rw [if_pos rfl, if_pos (by simp; omega), List.getElem?_append_left (by simp)]
    simp
  · rw [if_neg h]
    by_cases h2 : i < j
    · rw [List.getElem?_append_left (by simpa using h2), List.getElem?_append_left (by simp; omega)]
      simp [h2, Nat.lt_succ_of_lt h2]
    · rw [List.getElem?_append_right (by simp; omega), List.getElem?_append_right (by simp; omega)]
      simp only [List.length_replicate, List.getElem?_drop]
      congr 1; omega
theorem byte_st {W : World} {s : Sl} {l : List UInt8} {i : Nat} {c : UInt8} (h : BytesO W B s l) (hi : i < l.length) {v : Int} (hv : v = (c.toNat : Int)) {K : World → Prop} (hK : ∀ W', BytesO W' B s (l.set i c) → Upd s.blk W W' → K W') :
    ix s.a s.len (i : Int) (fun p => stC (p.add (scaled (Int.toNat (i : Int)) 1)) (.int .u8 v) K) W := by
  subst hv
  have hl := bys_len h.in.x
  have h' : SlOwn W B s 5 1 ((l.map fun b => (b.toNat : Int)).map (Cell.int .u8).val) := by rw [← bv_map]; exact h
  refine ix_st (c := .int .u8) h' (by omega) (by omega) fun W' o u _ => hK W' ?_ u
  rw [Int.toNat_natCast] at o
  show SlOwn W' B s 5 1 (bv (l.set i c))
  rw [bv_map, List.map_set]; exact o
def rep (n : Nat) (c : UInt8) : List UInt8 := List.replicate n c
theorem rep_len (n : Nat) (c : UInt8) : (rep n c).length = n := List.length_replicate
theorem rep_get {n i : Nat} (c : UInt8) (h : i < n) : (rep n c)[i]? = some c := by unfold rep; rw [List.getElem?_replicate, if_pos h]
theorem rep_snoc (n : Nat) (c : UInt8) : rep n c ++ [c] = rep (n + 1) c := by unfold rep; rw [List.replicate_succ']
theorem rep_step (n j : Nat) (c : UInt8) (l : List UInt8) (hl : l.length = n) (hj : j < n) : (rep j c ++ l.drop j).set j c = rep (j + 1) c ++ l.drop (j + 1) := rep_set n j c l hl hj
set_option maxHeartbeats 4000000 in
theorem apart_call (ha : BytesO w B a l) (hb : BytesO w B b l) (hB : B ≤ w.heap.size) (hab : ∀ k, a.blk k → ¬ b.blk k) (hl : l.length ≤ 100000) {K : Bool → World → Prop}
    (hK : ∀ w', Upd (fun k => a.blk k ∨ b.blk k) w w' → K true w') : callT Tryz.prog 30 #[.slice a.a a.len a.cap, .slice b.a b.len b.cap] (.one (.one .bool)) K w := by
  refine F30_calls (a0 := a) (a1 := b) ?_
  unfold F30
  have hla := bys_len ha.in.x
  have hlb := bys_len hb.in.x
  refine same_call ha.in.x hb.in.x (by omega) fun w1 e1 => ?_
  rw [decide_eq_true rfl]
  refine sif_false (newO_r fun b2 w2 e2 m2 hb2 hz2 => ?_)
  obtain ⟨n, hn⟩ : ∃ n, n = l.length := ⟨_, rfl⟩
  have e12 := e1.trans e2
  have z1 := e1.size
  refine join_r (fun _ W => ∃ a' b', W.heap[b2]? = some (.cells #[.slice a'.a a'.len a'.cap, .slice b'.a b'.len b'.cap] 119 (0, 0)) ∧ BytesO W B a' (rep (n + 100) 50) ∧ BytesO W B b' (rep (n + 100) 51) ∧ By W a (rep n 50) ∧ By W b (rep n 51) ∧ Upd (fun k => a.blk k ∨ b.blk k) w W) ?_ ?_
  · refine newO_r fun b5 w3 e3 m5 hb5 hz5 => ?_
    have e13 := e12.trans e3
    refine sloop_r (fun s W => ∃ (i : Nat) (a' b' : Sl), s = ((i : Int), ()) ∧ i ≤ 2 ∧ W.heap[b5]? = some (.cells #[.slice a.a a.len a.cap, .slice b.a b.len b.cap] 30 (0, 0)) ∧ W.heap[b2]? = some (.cells #[.slice a'.a a'.len a'.cap, .slice b'.a b'.len b'.cap] 119 (0, 0)) ∧ Upd (fun k => a.blk k ∨ b.blk k) w W ∧
      ((i = 0 ∧ BytesO W B a l) ∨ (1 ≤ i ∧ BytesO W B a' (rep (n + 100) 50) ∧ By W a (rep n 50) ∧ ∀ k, a'.blk k → a.blk k ∨ b5 < k)) ∧ ((i ≤ 1 ∧ BytesO W B b l) ∨ (2 ≤ i ∧ BytesO W B b' (rep (n + 100) 51) ∧ By W b (rep n 51)))) (fun s _ => 2 - s.1.toNat)
      ⟨0, ⟨none, 0, 0⟩, ⟨none, 0, 0⟩, rfl, by omega, m5, e3.ext_get m2, Upd.of_ext e13, .inl ⟨rfl, ha.ext e13⟩, .inl ⟨by omega, hb.ext e13⟩⟩ ?_
    rintro _ W ⟨i, a', b', rfl, hi2, n5, n2, uW, hA, hBb⟩
    dsimp only
    have zW := uW.size
    have zW3 := lt_of_heap n5
    refine sif_r (fun hlt => ?_) fun hge => ?_
    · have hlt : i < 2 := by have := of_decide_eq_true hlt; omega
      have l5 := lt_of_heap n5
      have l2 := lt_of_heap n2
      obtain ⟨x, c, hix, hx5, hc, hxl, hxb⟩ : ∃ (x : Sl) (c : UInt8), ((i = 0 ∧ x = a ∧ c = 50) ∨ (i = 1 ∧ x = b ∧ c = 51)) ∧ (#[.slice a.a a.len a.cap, .slice b.a b.len b.cap] : Array Value)[i]? = some (.slice x.a x.len x.cap) ∧ IntKind.wrap .u8 (IntKind.wrap .i64 ((50 : Int) + (i : Int))) = (c.toNat : Int) ∧ BytesO W B x l ∧ (∀ k, x.blk k → k < b2) := by
        rcases (by omega : i = 0 ∨ i = 1) with rfl | rfl
        · refine ⟨a, 50, .inl ⟨rfl, rfl, rfl⟩, rfl, rfl, hA.elim (fun h => h.2) (fun h => by omega), fun k hk => by have := ha.in.blk_lt hk; omega⟩
        · refine ⟨b, 51, .inr ⟨rfl, rfl, rfl⟩, rfl, rfl, hBb.elim (fun h => h.2) (fun h => by omega), fun k hk => by have := hb.in.blk_lt hk; omega⟩
      rw [hc]
      have hxn := bys_len hxl.in.x
      have xne2 : ∀ k, x.blk k → k ≠ b2 := fun k hk hh => by have := hxb k hk; omega
      have xne5 : ∀ k, x.blk k → k ≠ b5 := fun k hk hh => by have := hxb k hk; omega
      refine join_r (fun _ W' => ∃ x' : Sl, W'.heap[b5]? = some (.cells #[.slice a.a a.len a.cap, .slice b.a b.len b.cap] 30 (0, 0)) ∧ W'.heap[b2]? = some (.cells ((#[.slice a'.a a'.len a'.cap, .slice b'.a b'.len b'.cap] : Array Value).setIfInBounds i (.slice x'.a x'.len x'.cap)) 119 (0, 0)) ∧ BytesO W' B x' (rep (n + 100) c) ∧ By W' x (rep n c) ∧ (∀ k, x'.blk k → x.blk k ∨ b5 < k) ∧ Upd (fun k => x.blk k ∨ k = b2) W W') ?_ ?_
      · refine ix_iff.2 ⟨at0 b5, ⟨rfl, by omega, by omega⟩, ?_⟩
        try simp only [addr_add, scaled_eq, Int.toNat_natCast, Nat.mul_one]
        refine ld_r n5 (off := 0 + i) (x := x) (by rw [Nat.zero_add]; exact hx5) ?_
        refine join_r (fun _ W' => BytesO W' B x (rep n c) ∧ Upd x.blk W W') ?_ ?_
        · refine sloop_r (fun s W' => ∃ j : Nat, s = ((j : Int), ()) ∧ j ≤ n ∧ BytesO W' B x (rep j c ++ l.drop j) ∧ Upd x.blk W W') (fun s _ => n - s.1.toNat) ⟨0, rfl, Nat.zero_le _, (by rw [List.drop_zero]; exact hxl), Upd.refl _ _⟩ ?_
          rintro _ W1 ⟨j, rfl, hj, o1, u1⟩
          dsimp only
          refine sif_r (fun hlt2 => ?_) fun hge2 => ?_
          · have hlt2 : j < n := by have := of_decide_eq_true hlt2; omega
            refine byte_st o1 (by rw [List.length_append, rep_len, List.length_drop]; omega) rfl fun W2 o2 u2 => ?_
            rw [rep_step n j c l hn.symm hlt2] at o2
            rw [wrap64 (by omega) (by omega)]
            refine ⟨⟨j + 1, by rw [show ((j : Int) + 1) = ((j + 1 : Nat) : Int) by omega], by omega, o2, u1.trans u2⟩, ?_⟩
            show n - ((j : Int) + 1).toNat < n - (j : Int).toNat
            omega
          · have hge2 : ¬ j < n := by have := of_decide_eq_false hge2; omega
            obtain rfl : j = n := by omega
            rw [List.drop_eq_nil_of_le (by omega), List.append_nil] at o1
            exact ⟨o1, u1⟩
        rintro _ W1 ⟨o1, u1⟩
        have m25 := u1.get n5 fun hh => xne5 _ hh rfl
        have m22 := u1.get n2 fun hh => xne2 _ hh rfl
        refine chk_r ⟨by omega, by omega⟩ ?_
        try simp only [addr_add, scaled_eq, Int.toNat_natCast, Nat.mul_one]
        refine stC_r m22 (by show 0 + i < 2; omega) fun W2 u2 n22 z2 => ?_
        rw [Nat.zero_add] at n22
        have u12 : Upd (fun k => x.blk k ∨ k = b2) W W2 := (u1.mono fun k _ hk => .inl hk).trans (u2.mono fun k _ hk => .inr hk)
        have m25' := u2.get m25 (by omega)
        have o2 := o1.upd u2 fun k _ hk hh => xne2 k hk hh
        refine sloop_r (fun s W' => ∃ (j : Nat) (x' : Sl), s = ((j : Int), ()) ∧ j ≤ 100 ∧ W'.heap[b5]? = some (.cells #[.slice a.a a.len a.cap, .slice b.a b.len b.cap] 30 (0, 0)) ∧ W'.heap[b2]? = some (.cells ((#[.slice a'.a a'.len a'.cap, .slice b'.a b'.len b'.cap] : Array Value).setIfInBounds i (.slice x'.a x'.len x'.cap)) 119 (0, 0)) ∧ BytesO W' B x' (rep (n + j) c) ∧ By W' x (rep n c) ∧ (∀ k, x.blk k → x'.blk k → top x ≤ top x') ∧ (∀ k, x'.blk k → x.blk k ∨ W.heap.size ≤ k) ∧ Upd (fun k => x.blk k ∨ k = b2) W W') (fun s _ => 100 - s.1.toNat)
          ⟨0, x, rfl, Nat.zero_le _, m25', n22, o2, o2.in, fun k _ _ => Nat.le_refl _, fun k hk => .inl hk, u12⟩ ?_
        rintro _ W3 ⟨j, x', rfl, hj, q5, q2, o3, by3, ht3, hb3, u3⟩
        dsimp only
        have z3 := u3.size
        refine sif_r (fun hlt2 => ?_) fun hge2 => ?_
        · have hlt2 : j < 100 := by have := of_decide_eq_true hlt2; omega
          refine chk_r ⟨by omega, by omega⟩ ?_
          try simp only [addr_add, scaled_eq, Int.toNat_natCast, Nat.mul_one]
          refine ld_r q2 (off := 0 + i) (x := x') (by
            rw [Nat.zero_add, Array.getElem?_setIfInBounds, if_pos rfl, if_pos (by show i < 2; omega)]; rfl) ?_
          refine newO_r fun b20 W4 e4 m20 hb20 hz20 => ?_
          have hx4 : By W4 ⟨some (at0 b20), 1, 1⟩ [c] := by_lit (l := [c]) m20
          have hl3 := bys_len o3.in.x
          have hl3 : n + j = x'.len := by rw [rep_len] at hl3; exact hl3
          have z4 := e4.size
          refine app_by (s := x') (x := ⟨some (at0 b20), 1, 1⟩) (l := rep (n + j) c) (m := [c]) (B := B) (o3.ext e4) hx4.x (by show x'.len + 1 + (x'.len + 1) / 4 + 512 ≤ _; omega) (by omega) fun s' W5 o5 hl5 u5 hb5' hkeep => ?_
          have er : rep (n + j) c ++ [c] = rep (n + (j + 1)) c := rep_snoc _ _
          rw [er] at o5
          obtain ⟨k1, k2⟩ := hkeep x (rep n c) (by3.ext e4) ht3
          have x'ne : ∀ q, q < W.heap.size → (∀ k, x.blk k → k ≠ q) → ¬ x'.blk q := fun q hq hne hh => (hb3 q hh).elim (fun h => hne q h rfl) fun h => by omega
          have q55 := u5.get (e4.ext_get q5) (x'ne b5 (by omega) xne5)
          have q25 := u5.get (e4.ext_get q2) (x'ne b2 (by omega) xne2)
          refine chk_r ⟨by omega, by omega⟩ ?_
          try simp only [addr_add, scaled_eq, Int.toNat_natCast, Nat.mul_one]
          refine stC_r q25 (by rw [Array.size_setIfInBounds]; show 0 + i < 2; omega) fun W6 u6 n6 z6 => ?_
          rw [Nat.zero_add, Array.setIfInBounds_setIfInBounds] at n6
          have z5 := u5.size
          have s'ne2 : ¬ s'.blk b2 := fun hh => (hb5' _ hh).elim (fun h => x'ne b2 (by omega) xne2 h) fun h => by omega
          rw [wrap64 (by omega) (by omega)]
          refine ⟨⟨j + 1, s', by rw [show ((j : Int) + 1) = ((j + 1 : Nat) : Int) by omega], by omega, u6.get q55 (by omega), n6, o5.upd u6 fun k _ hk hh => s'ne2 (hh ▸ hk), k1.upd u6 fun k hk hh => xne2 k hk hh, k2, fun k hk => (hb5' k hk).elim (hb3 k) fun h => .inr (by omega), ?_⟩, ?_⟩
          · refine ((u3.trans (Upd.of_ext e4)).new u5 fun k hk hh => .inl ((hb3 k hh).resolve_right (by omega))).trans (u6.mono fun k _ hk => .inr hk)
          · show 100 - ((j : Int) + 1).toNat < 100 - (j : Int).toNat
            omega
        · have hge2 : ¬ j < 100 := by have := of_decide_eq_false hge2; omega
          obtain rfl : j = 100 := by omega
          exact ⟨x', q5, q2, o3, by3, fun k hk => (hb3 k hk).imp id fun h => by omega, u3⟩
      rintro _ W1 ⟨x', q5, q2, o1, by1, hb1', u1⟩
      rw [wrap64 (by omega) (by omega)]
      have z1' := u1.size
      refine ⟨?_, by show 2 - ((i : Int) + 1).toNat < 2 - (i : Int).toNat; omega⟩
      have uA : Upd (fun k => a.blk k ∨ b.blk k) w W1 := uW.new u1 fun k hk hh => by
        rcases hh with hh | hh
        · rcases hix with ⟨_, rfl, _⟩ | ⟨_, rfl, _⟩
          · exact .inl hh
          · exact .inr hh
        · omega
      rcases hix with ⟨rfl, rfl, rfl⟩ | ⟨rfl, rfl, rfl⟩
      · refine ⟨1, x', b', rfl, by omega, q5, q2, uA, .inr ⟨by omega, o1, by1, fun k hk => hb1' k hk⟩, .inl ⟨by omega, ?_⟩⟩
        have hbl : BytesO W B b l := hBb.elim (fun h => h.2) fun h => by omega
        exact hbl.upd u1 fun k _ hk hh => hh.elim (fun h => hab k h hk) fun h => by have := hb.in.blk_lt hk; omega
      · rcases hA with ⟨h, _⟩ | ⟨_, p1, p2, p3⟩
        · omega
        have pn : ∀ k, a'.blk k → ¬ (x.blk k ∨ k = b2) := fun k hk hh => by
          rcases p3 k hk with h | h
          · rcases hh with hh | hh
            · exact hab k h hh
            · have := ha.in.blk_lt h; omega
          · rcases hh with hh | hh
            · have := hxb k hh; omega
            · omega
        refine ⟨2, a', x', rfl, by omega, q5, q2, uA, .inr ⟨by omega, p1.upd u1 fun k _ hk => pn k hk, p2.upd u1 fun k hk hh => hh.elim (fun h => hab k hk h) fun h => by have := ha.in.blk_lt hk; omega, p3⟩, .inr ⟨by omega, o1, by1⟩⟩
    · have hge : ¬ i < 2 := by have := of_decide_eq_false hge; omega
      rcases hA with ⟨h, _⟩ | ⟨_, p1, p2, _⟩
      · omega
      rcases hBb with ⟨h, _⟩ | ⟨_, p3, p4⟩
      · omega
      exact ⟨a', b', n2, p1, p3, p2, p4, uW⟩
  rintro _ w4 ⟨a', b', n2, p1, p3, p2, p4, u4⟩
  have la' := bys_len p1.in.x
  have lb' := bys_len p3.in.x
  rw [rep_len] at la'
  rw [rep_len] at lb'
  have rg : ∀ (m : Nat) (c : UInt8) (i : Nat), i < m → (rep m c)[i]? = some c := fun m c i hi => rep_get c hi
  refine join_r (fun _ W => w4 = W) ?_ ?_
  · refine sloop_r (fun s W => ∃ i : Nat, s = ((i : Int), ()) ∧ i ≤ n + 100 ∧ w4 = W) (fun s _ => n + 100 - s.1.toNat) ⟨0, rfl, Nat.zero_le _, rfl⟩ ?_
    rintro _ _ ⟨i, rfl, hi, rfl⟩
    dsimp only
    refine chk_r ⟨by omega, by omega⟩ (ld_r n2 (off := 0) (x := a') rfl (sif_r (fun hlt => ?_) fun _ => rfl))
    have hlt : i < n + 100 := by have := of_decide_eq_true hlt; omega
    refine join_r (fun y W => y = (false, ()) ∧ w4 = W) ?_ ?_
    · refine chk_r ⟨by omega, by omega⟩ (ld_r n2 (off := 0) (x := a') rfl (byt p1.in.x (by omega) (x := 50) (by rw [Int.toNat_natCast]; exact rg _ _ _ (by omega)) fun _ => sif_r (fun h => ?_) fun _ => ?_))
      · exact absurd h (by decide)
      refine chk_r ⟨by omega, by omega⟩ (ld_r n2 (off := 1) (x := b') rfl (byt p3.in.x (by omega) (x := 51) (by rw [Int.toNat_natCast]; exact rg _ _ _ (by omega)) fun _ => sif_r (fun h => ?_) fun _ => ?_))
      · exact absurd h (by decide)
      refine sif_r (fun h => ?_) fun _ => ⟨rfl, rfl⟩
      have h : i < n := by have := of_decide_eq_true h; omega
      refine byt p2.x (by omega) (x := 50) (by rw [Int.toNat_natCast]; exact rg _ _ _ (by omega)) fun _ => sif_r (fun h => ?_) fun _ => ?_
      · exact absurd h (by decide)
      exact byt p4.x (by omega) (x := 51) (by rw [Int.toNat_natCast]; exact rg _ _ _ (by omega)) fun _ => ⟨rfl, rfl⟩
    rintro _ _ ⟨rfl, rfl⟩
    refine sif_false ?_
    rw [wrap64 (by omega) (by omega)]
    refine ⟨⟨i + 1, by rw [show ((i : Int) + 1) = ((i + 1 : Nat) : Int) by omega], by omega, rfl⟩, ?_⟩
    show n + 100 - ((i : Int) + 1).toNat < n + 100 - (i : Int).toNat
    omega
  · rintro _ _ rfl
    exact hK _ u4
end
end Dq
end Go.Proofs.YtmooldhpiopcgaaGreatDoor
