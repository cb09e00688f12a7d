/- DiskRefused answers true. Conditions: arguments in memory. -/
import Derived.Test.YtdabehgbhndimaaWrm
import Derived.Test.YtdabehgbhndimaaPrf
import Derived.Test.YtdabehgbhndimaaVxK
set_option linter.unusedSimpArgs false
set_option linter.unusedVariables false
namespace Go.Proofs.Ytdabehgbhndimaa
open Go Go.Vx Dsk
section
variable {w w' w0 : World} {S P P' F F' F0 G0 : Nat → Prop} {d e : Nat} {D : Dk} {N : Nat}

theorem ubl : Try.prog.underlying 4 = some .bool := i4_ok.und
def stepR (a : Int) : Int := 1 + (((BitVec.ofInt 64 a &&& BitVec.ofInt 64 15).toNat : Nat) : Int)
theorem stepR_bd (a : Int) : 1 ≤ stepR a ∧ stepR a ≤ 16 := by
  unfold stepR
  have h : (BitVec.ofInt 64 a &&& BitVec.ofInt 64 15).toNat ≤ 15 := by
    rw [BitVec.toNat_and]
    exact Nat.le_trans Nat.and_le_right (by decide)
  omega
theorem stepR_eq (a : Int) : IntKind.wrap .i64 ((1 : Int) + (IntKind.wrap .i64 ((BitVec.toNat (BitVec.ofInt (IntKind.bits .i64) a &&& BitVec.ofInt (IntKind.bits .i64) (15 : Int)) : Nat) : Int))) = stepR a := by
  have hb := stepR_bd a
  unfold stepR at hb ⊢
  have e1 : IntKind.wrap .i64 (((BitVec.ofInt 64 a &&& BitVec.ofInt 64 15).toNat : Nat) : Int) = (((BitVec.ofInt 64 a &&& BitVec.ofInt 64 15).toNat : Nat) : Int) := IntWalk.i64_in _ ⟨by omega, by omega⟩
  show IntKind.wrap .i64 (1 + IntKind.wrap .i64 (((BitVec.ofInt 64 a &&& BitVec.ofInt 64 15).toNat : Nat) : Int)) = _
  rw [e1, IntWalk.i64_in _ ⟨by omega, by omega⟩]

/-- two disks, apart -/
structure TwoAt (w0 w : World) (d e : Nat) (F G : Nat → Prop) (D E : Dk) (N : Nat) : Prop where
  A : DiskIn w d F D
  B : DiskIn w e G E
  okA : DkOk D N
  okB : DkOk E N
  ap : ∀ k, F k → ¬ G k
  nF : ∀ k, F k → w0.heap.size ≤ k
  nG : ∀ k, G k → w0.heap.size ≤ k
  u : Ext w0 w
section
variable {G G' : Nat → Prop} {E E' D' : Dk} {M : Nat}
theorem TwoAt.ext (h : TwoAt w0 w d e F G D E N) (x : Ext w w') : TwoAt w0 w' d e F G D E N := ⟨h.A.ext x, h.B.ext x, h.okA, h.okB, h.ap, h.nF, h.nG, h.u.trans x⟩
theorem TwoAt.mono (h : TwoAt w0 w d e F G D E N) (hm : N ≤ M) : TwoAt w0 w d e F G D E M := ⟨h.A, h.B, h.okA.mono hm, h.okB.mono hm, h.ap, h.nF, h.nG, h.u⟩
theorem TwoAt.one (h : TwoAt w0 w d e F G D E N) (A : DiskIn w' d F' D') (ok : DkOk D' M) (hm : N ≤ M) (u : Upd F w w') (hF : ∀ k, F' k → F k ∨ w.heap.size ≤ k) : TwoAt w0 w' d e F' G D' E M :=
  ⟨A, h.B.frame u fun k hk hf => h.ap k hf hk, ok, h.okB.mono hm, fun k hk hg => (hF k hk).elim (fun hf => h.ap k hf hg) fun hf => by have := h.B.lt k hg; omega, fun k hk => (hF k hk).elim (h.nF k) fun hf => by have := h.u.size; omega, h.nG, h.u.new u fun k hk hf => by have := h.nF k hf; omega⟩
theorem TwoAt.two (h : TwoAt w0 w d e F G D E N) (B : DiskIn w' e G' E') (ok : DkOk E' M) (hm : N ≤ M) (u : Upd G w w') (hG : ∀ k, G' k → G k ∨ w.heap.size ≤ k) : TwoAt w0 w' d e F G' D E' M :=
  ⟨h.A.frame u fun k hk hf => h.ap k hk hf, B, h.okA.mono hm, ok, fun k hk hg => (hG k hg).elim (fun hf => h.ap k hk hf) fun hf => by have := h.A.lt k hk; omega, h.nF, fun k hk => (hG k hk).elim (h.nG k) fun hf => by have := h.u.size; omega, h.u.new u fun k hk hf => by have := h.nG k hf; omega⟩
end

theorem refused_walk {a0 a2 : Int} {x : Sl} {ys : List (Cells.T c39)} {os : List DOp} (hx : OpsIn w P x ys os) (hP : ∀ k, P k → k < w.heap.size)
    {K : Bool → World → Prop} (hK : ∀ w', Ext w w' → K true w') : callT Try.prog 7 #[.int .i64 a0, .slice x.a x.len x.cap, .int .i64 a2] (.one (.one .bool)) K w := by
  refine F7_calls ?_
  unfold F7
  rw [stepR_eq]
  have hk := stepR_bd a2
  generalize stepR a2 = kk at *
  refine fits_call hx fun bf w2 hbf e2 => sif_r (fun _ => hK _ e2) fun hb => ?_
  have hos := hbf (by simpa using hb)
  have hs2 := e2.size
  have hsp := spaceR_bd a0
  refine space_call (made_call (by omega) (by omega) fun d F0 W0 A0 e3 hF0 => space_call (made_call (by omega) (by omega) fun e G0 W1 B1 e4 hG0 => ?_))
  generalize spaceR a0 = sp at *
  have hxl : ys.length = x.len := hx.row.lenR (by decide)
  have hlen := hx.len
  have hs3 := e3.size
  have hs4 := e4.size
  have ok0 : DkOk (newD sp) 0 := ok_new (by omega) (by omega)
  have t1 : TwoAt w W1 d e F0 G0 (newD sp) (newD sp) 0 := ⟨A0.ext e4, B1, ok0, ok0, fun k hk hg => by have := A0.lt k hk; have := hG0 k hg; omega, fun k hk => by have := hF0 k hk; omega, fun k hk => by have := hG0 k hk; omega, (e2.trans e3).trans e4⟩
  refine join_at (false, ()) (sif_false ⟨rfl, rfl⟩) (sif_false ?_)
  refine zz_r t1.A (by omega) (by omega) fun F2 W2 A2 u2 hF2 => ?_
  have t2 := t1.one A2 (ok_zz hsp.1 (by omega)) (Nat.zero_le _) u2 hF2
  refine zz_r t2.B (by omega) (by omega) fun G3 W3 B3 u3 hG3 => ?_
  have t3 := t2.two B3 (ok_zz hsp.1 (by omega)) (Nat.le_refl _) u3 hG3
  refine join_at (false, ()) (sif_false ⟨rfl, rfl⟩) (sif_false ?_)
  refine newO_r fun b18 W4 e5 n18 hb18 hz18 => ?_
  have t4 := t3.ext e5
  have hlt3 := t3.A.lt
  refine plan_call t4.A (rows := [(kk, 1, 0, 0, ⟨none, 0, 0⟩, ())]) (fl := [(kk, ⟨1, 0, 0, []⟩)]) (x := ⟨some (at0 b18), 1, 1⟩) ⟨(SlIn.of_box (n := 1) (sz := 5) n18 rfl).x, .inr fun k hk => ?_, rfl, fun i r f hr hf => ?_⟩ (by simp) fun F5 W5 A5 u5 hF5 => ?_
  · obtain ⟨q, hq, rfl⟩ := hk
    cases hq
    exact ⟨lt_of_heap n18, fun h => by have := hlt3 _ h; simp only [at0] at this; omega⟩
  · match i with
    | 0 =>
      cases hr; cases hf
      exact ⟨rfl, rfl, rfl, rfl, (SlIn.nil _ 3 1).x, Nat.zero_le _, .inl rfl⟩
    | i + 1 => simp at hr
  have t5 := t4.one A5 (ok_plan t4.okA _) (Nat.le_refl _) u5 hF5
  have tw5 : Twins kk 0 (plan (zzD sp) [(kk, ⟨1, 0, 0, []⟩)]) (zzD sp) := twins_new _ rfl rfl rfl
  have xx : ∀ {W : World}, Ext w W → OpsIn W P x ys os := fun e => hx.upd e fun _ _ h => h
  refine join_r (fun _ W => ∃ F D G E n, TwoAt w W d e F G D E 2100 ∧ Twins kk n D E) ?_ ?_
  · refine sloop_r (fun s W => ∃ (j n : Nat) (F1 G1 : Nat → Prop) (D1 E1 : Dk), s = ((n : Int), (j : Int), ()) ∧ j ≤ ys.length ∧ n ≤ j ∧ TwoAt w W d e F1 G1 D1 E1 (1 + 2 * j) ∧ Twins kk n D1 E1) (fun s _ => ys.length - s.2.1.toNat) ⟨0, 0, F5, G3, _, _, rfl, Nat.zero_le _, Nat.le_refl _, t5, tw5⟩ ?_
    rintro _ W ⟨j, n, F1, G1, D1, E1, rfl, hj, hnj, tW, tw⟩
    dsimp only
    refine sif_r (fun h => ?_) fun h => ?_
    · have h : j < ys.length := by have := of_decide_eq_true h; omega
      refine join_r (fun z W' => ∃ (n' : Nat) (F1 G1 : Nat → Prop) (D1 E1 : Dk), z = ((n' : Int), ()) ∧ n' ≤ j + 1 ∧ TwoAt w W' d e F1 G1 D1 E1 (1 + 2 * (j + 1)) ∧ Twins kk n' D1 E1) ?_ ?_
      · obtain ⟨y, hy⟩ : ∃ y, ys[j]? = some y := ⟨_, List.getElem?_eq_getElem h⟩
        obtain ⟨o, ho⟩ : ∃ o, os[j]? = some o := ⟨_, List.getElem?_eq_getElem (by omega)⟩
        have o1 := (xx tW.u).at_ j y o hy ho
        refine ix_ldsX (cs := c39) (xx tW.u).row (by decide) (by omega) (by simpa using hy) fun _ => ?_
        refine (St.start W).newAgg rfl rfl rfl fun b28 W2 S2 e2' => ?_
        have n28 := S2.at_ 0 rfl
        have t2 := tW.ext e2'
        have hb28 := S2.ge 0 rfl
        have f28 : ¬ F1 b28 := fun h => by have := tW.A.lt _ h; omega
        have kd : (Cells.vals c39 y).toArray[0]? = some (Value.int .i64 o.kind) := by rw [← o1.kind]; rfl
        have hP2 : ∀ {F : Nat → Prop} {W : World}, Ext w W → (∀ k, F k → w.heap.size ≤ k) → ∀ k, P k → k < W.heap.size ∧ ¬ F k := fun e hF k hk => ⟨by have := hP k hk; have := e.size; omega, fun h => by have := hP k hk; have := hF k h; omega⟩
        refine join_r (fun z W' => z = (decide (o.kind < 1 ∨ o.kind > 9), ()) ∧ W2 = W') (ld_r n28 (off := 0) (x := o.kind) kd (sif_r (fun h => ⟨tupb ?_, rfl⟩) fun h => ld_r n28 (off := 0) (x := o.kind) kd ⟨tupb ?_, rfl⟩)) ?_
        · have h : o.kind < 1 := of_decide_eq_true h
          simp [h]
        · have h : ¬ o.kind < 1 := of_decide_eq_false h
          simp [h]
        rintro _ _ ⟨rfl, rfl⟩
        refine sif_r (fun _ => ⟨n, F1, G1, D1, E1, rfl, by omega, t2.mono (by omega), tw⟩) fun hk9 => ?_
        have hk9 : ¬ (o.kind < 1 ∨ o.kind > 9) := of_decide_eq_false hk9
        refine join_r (fun z W' => z = (((if o.kind ≠ 9 then n + 1 else n : Nat) : Int), ()) ∧ W2 = W') (ld_r n28 (off := 0) (x := o.kind) kd (sif_r (fun h => ⟨?_, rfl⟩) fun h => ⟨?_, rfl⟩)) ?_
        · have h : o.kind ≠ 9 := by simpa using h
          rw [if_pos h, IntWalk.i64_in _ ⟨by omega, by omega⟩]; rfl
        · have h : o.kind = 9 := by simpa using h
          rw [if_neg (by simpa using h)]
        rintro _ _ ⟨rfl, rfl⟩
        refine lds_r (cs := c39) (x := y) (c := (Cells.vals c39 y).toArray) n28 (fun i v hv => by rw [Nat.zero_add, List.getElem?_toArray]; exact hv) ?_
        refine do_call t2.A t2.okA (by omega) (o1.upd (Upd.of_ext e2') fun _ _ h => h) (hP2 t2.u t2.nF) fun F3 W3 A3 u3 hF3 => ?_
        have t3 := t2.one A3 (ok_do t2.okA o) (by omega) u3 hF3
        have n28 := u3.get n28 f28
        obtain ⟨n', hn'⟩ : ∃ n' : Nat, n' = if o.kind ≠ 9 then n + 1 else n := ⟨_, rfl⟩
        have hnn : n' ≤ n + 1 := by rw [hn']; split <;> omega
        rw [← hn']
        refine join_r (fun z W' => z = (decide ((n' : Int) = kk ∧ o.kind ≠ 9), ()) ∧ W3 = W') (sif_r (fun h => ld_r n28 (off := 0) (x := o.kind) kd ⟨tupb ?_, rfl⟩) fun h => ⟨tupb ?_, rfl⟩) ?_
        · have h : (n' : Int) = kk := by simpa using h
          by_cases h9 : o.kind = 9 <;> simp [h, h9]
        · have h : ¬ (n' : Int) = kk := by simpa using h
          simp [h]
        rintro _ _ ⟨rfl, rfl⟩
        refine sif_r (fun h => ?_) fun h => ?_
        · obtain ⟨h1, h2⟩ : (n' : Int) = kk ∧ o.kind ≠ 9 := of_decide_eq_true h
          rw [if_pos h2] at hn'
          obtain ⟨g1, g2⟩ := tw.refuse (o := o) (by omega) (by omega) (by omega)
          rw [g1]
          exact sif_false ⟨n', F3, G1, _, E1, rfl, by omega, t3.mono (by omega), by rw [hn']; exact g2⟩
        · have h : ¬ ((n' : Int) = kk ∧ o.kind ≠ 9) := of_decide_eq_false h
          refine lds_r (cs := c39) (x := y) (c := (Cells.vals c39 y).toArray) n28 (fun i v hv => by rw [Nat.zero_add, List.getElem?_toArray]; exact hv) ?_
          refine do_call t3.B t3.okB (by omega) ((xx t3.u).at_ j y o hy ho) (hP2 t3.u t3.nG) fun G4 W4 B4 u4 hG4 => ?_
          have t4 := t3.two B4 (ok_do (t2.okB) o) (by omega) u4 hG4
          have hb : (doOp o D1).2 = (doOp o E1).2 ∧ Twins kk n' (doOp o D1).1 (doOp o E1).1 := by
            by_cases h9 : o.kind = 9
            · rw [if_neg (by simpa using h9)] at hn'
              rw [hn']; exact tw.puts h9
            · rw [if_pos h9] at hn'
              have := tw.both (o := o) (by omega) (by omega) fun hh => h ⟨by omega, h9⟩
              rw [hn']; exact this
          refine rdB_neqb ubl ?_
          rw [hb.1]
          exact sif_r (fun h => by simp at h) fun _ => ⟨n', F3, G4, _, _, rfl, by omega, t4.mono (by omega), hb.2⟩
      · rintro _ W' ⟨n', F2, G2, D2, E2, rfl, hn', t', tw'⟩
        rw [IntWalk.i64_in _ ⟨by omega, by omega⟩]
        exact ⟨⟨j + 1, n', F2, G2, D2, E2, rfl, h, hn', t', tw'⟩, by show ys.length - (j + 1) < ys.length - j; omega⟩
    · exact ⟨F1, D1, G1, E1, n, tW.mono (by omega), tw⟩
  · rintro _ W6 ⟨F6, D6, G6, E6, n6, t6, tw6⟩
    refine plan_call t6.A faults_nil (by simp) fun F7 W7 A7 u7 hF7 => ?_
    have t7 := t6.one A7 (ok_plan t6.okA _) (Nat.le_refl _) u7 hF7
    obtain ⟨q7, g1, g2, g3⟩ := twins_end tw6
    have hnl := t7.okA.seen.names.2
    generalize plan D6 [] = D7 at *
    refine taken_call t7.A t7.okA (by decide) q7 fun F8 W8 sh A8 u8 hF8 hsh => ?_
    have ok8 := t7.okA.at (2 * (names D7.seen).length)
    have e2n : ((2 * (names D7.seen).length : Nat) : Int) = 2 * (((names D7.seen).length : Nat) : Int) := by omega
    rw [e2n] at ok8
    have t8 := t7.one A8 (ok8.mono (show _ ≤ 2200 by omega)) (by decide) u8 hF8
    refine (St.start W8).newAgg rfl rfl rfl fun b46 W9 S9 e9 => ?_
    have n46 := S9.at_ 0 rfl
    have hb46 := S9.ge 0 rfl
    have t9 := t8.ext e9
    have sh9 := hsh.step (F' := F8) (Upd.of_ext e9) fun k hk => .inl hk
    refine taken_call t9.B t9.okB (by decide) tw6.quiet fun G10 W10 sh' B10 u10 hG10 hsh' => ?_
    have t10 := t9.two (M := 2300) B10 (by
      have ok := t9.okB.at (2 * (names E6.seen).length)
      have := t9.okB.seen.names.2
      have e2n : ((2 * (names E6.seen).length : Nat) : Int) = 2 * (((names E6.seen).length : Nat) : Int) := by omega
      rw [e2n] at ok
      exact ok.mono (by omega)) (by decide) u10 hG10
    have g46 : ¬ G6 b46 := fun h => by have := t8.B.lt _ h; omega
    have n46 := u10.get n46 g46
    have sg : ShotIn W9 W7.heap.size G6 sh (names D7.seen) (texts D7) (stamps D7) := ⟨sh9.n, sh9.t, sh9.s, sh9.nt, fun k hk hg => by have := sh9.n.blk_ge hk; have := t7.B.lt k hg; omega, fun k hk hg => by have := sh9.t.blk_ge hk; have := t7.B.lt k hg; omega, fun k hk hg => by have := sh9.s.blk_ge hk; have := t7.B.lt k hg; omega⟩
    have sg := sg.step u10 hG10
    refine (St.start W10).newAgg rfl rfl rfl fun b48 W11 S11 e11 => sif_true (sif_true ?_)
    have t11 := t10.ext e11
    refine lds_r (cs := c65) (x := sh) (c := (Cells.vals c65 sh).toArray) (e11.ext_get n46) (fun i v hv => by rw [Nat.zero_add, List.getElem?_toArray]; exact hv) ?_
    refine S11.lds 0 (cs := c65) sh' rfl ?_
    rw [← g1, ← g2, ← g3] at hsh'
    exact same_call (sg.step (F' := G10) (Upd.of_ext e11) fun k hk => .inl hk) (hsh'.step (F' := G10) (Upd.of_ext e11) fun k hk => .inl hk) (by omega) (pict_len D7).1 (pict_len D7).2 fun w' e' => hK w' (t11.u.trans e')
end
end Go.Proofs.Ytdabehgbhndimaa
