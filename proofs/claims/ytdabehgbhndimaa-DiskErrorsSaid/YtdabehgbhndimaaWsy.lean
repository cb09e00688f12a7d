/- DiskSynced answers true. Conditions: arguments in memory. -/
import Derived.Test.YtdabehgbhndimaaLw5
import Derived.Test.YtdabehgbhndimaaPsy
set_option linter.unusedSimpArgs false
set_option linter.unusedVariables false
namespace Go.Proofs.Ytdabehgbhndimaa
open Go Go.Vx Dsk
section
variable {w w' : World} {S P P' F F' : Nat → Prop} {d : Nat} {D : Dk} {N : Nat}

theorem pict_len (D : Dk) : (texts D).length = (names D.seen).length ∧ (stamps D).length = (names D.seen).length := by simp [texts, stamps]
theorem faults_nil : FaultsIn w P ⟨none, 0, 0⟩ [] [] := ⟨(SlIn.nil w 74 5).x, .inl rfl, rfl, fun i r f hr => by simp at hr⟩
theorem Quiet.at (q : Quiet D) (k : Int) : Quiet { D with steps := k } := ⟨q.up, q.plan⟩
theorem Dry.at {l : List Nm} (h : Dry D l) (k : Int) : Dry { D with steps := k } l := h

theorem names_zz (space : Int) : (names (zzD space).seen).length = 1 := by
  have h : Lists (zzD space).seen [zz] := lists_new lists_empty rfl
  rw [names_len h]; rfl
theorem seen_begin (D : Dk) : (plan (restart D) []).seen = D.seen := by
  unfold restart plan
  split <;> rfl

theorem synced_walk {a0 : Int} {x : Sl} {ys : List (Cells.T c39)} {os : List DOp} {cut : Int × Sl × Unit} {bytes : List Int} (hx : OpsIn w P x ys os) (hP : ∀ k, P k → k < w.heap.size) (hc : SlX w cut.2.1 1 (iv bytes)) (hcb : Lie P cut.2.1)
    {K : Bool → World → Prop} (hK : ∀ w', Ext w w' → K true w') : callT Try.prog 8 #[.int .i64 a0, .slice x.a x.len x.cap, .agg (Cells.vals c37 cut).toArray] (.one (.one .bool)) K w := by
  refine F8_calls (a2 := cut) ?_
  unfold F8
  refine newO_r fun b1 w1 e1 n1 hb1 _ => ?_
  have hs1 := e1.size
  refine fits_call (hx.upd e1 fun _ _ h => h) fun bf w2 hbf e2 => sif_r (fun _ => hK _ (e1.trans e2)) fun hb => ?_
  have hos := hbf (by simpa using hb)
  have hs2 := e2.size
  have hsp := spaceR_bd a0
  refine space_call (made_call (by omega) (by omega) fun d F0 W0 A0 e3 hF0 => ?_)
  have e03 := (e1.trans e2).trans e3
  have hs3 := e3.size
  have hlt0 := A0.lt
  have done : ∀ {W : World}, Upd F0 W0 W → Ext w W := fun u => e03.new u fun k hk h => by have := hF0 k h; omega
  have hb1F : ¬ F0 b1 := fun h => by have := hF0 _ h; omega
  have hb1l : b1 < W0.heap.size := Nat.lt_of_lt_of_le (lt_of_heap n1) (Nat.le_trans hs2 hs3)
  have n1' := (e2.trans e3).ext_get n1
  have hPF : ∀ k, P k → k < W0.heap.size ∧ ¬ F0 k := fun k hk => ⟨by have := hP k hk; omega, fun h => by have := hP k hk; have := hF0 k h; omega⟩
  have x0 := hx.upd e03 fun _ _ h => h
  have c0 := hc.ext e03
  refine join_r (fun x W => x = (false, ()) ∧ ∃ F1, DiskIn W d F1 (zzD (spaceR a0)) ∧ Upd F0 W0 W ∧ ∀ k, F1 k → F0 k ∨ W0.heap.size ≤ k) (sif_false (zz_r A0 (by omega) (by omega) fun F1 W hD hu hF => ⟨rfl, F1, hD, hu, hF⟩)) ?_
  rintro _ W1 ⟨rfl, F1, A1, u1, hF1⟩
  have hs4 := u1.size
  have ap : ∀ {F2 : Nat → Prop} {W : World}, (∀ k, F2 k → F0 k ∨ W0.heap.size ≤ k) → Upd F0 W0 W → ∀ k, P k → k < W.heap.size ∧ ¬ F2 k := fun {F2 W} hF hu k hk => ⟨Nat.lt_of_lt_of_le (hPF k hk).1 hu.size, fun h => (hF k h).elim (hPF k hk).2 fun h => by have := (hPF k hk).1; omega⟩
  refine sif_false (join_r (fun _ W => ∃ F2, DiskIn W d F2 (runOps os (zzD (spaceR a0))) ∧ DkOk (runOps os (zzD (spaceR a0))) 2001 ∧ Upd F0 W0 W ∧ ∀ k, F2 k → F0 k ∨ W0.heap.size ≤ k) (runs_r A1 (ok_zz hsp.1 (by omega)) (x0.upd u1 fun k hk => (hPF k hk).2) (ap hF1 u1) (by omega) fun F2 W hD hok hu hF => ⟨F2, hD, hok.mono (by omega), u1.new hu fun k hk h => (hF1 k h).resolve_right (by omega), fun k hk => (hF k hk).elim (hF1 k) fun h => .inr (by omega)⟩) ?_)
  rintro _ W2 ⟨F2, A2, ok2, u2, hF2⟩
  refine restart_call A2 fun W3 A3 u3' => ?_
  have u3 : Upd F0 W0 W3 := u2.new u3' fun k hk h => (hF2 k h).resolve_right (by omega)
  refine plan_call A3 faults_nil (by simp) fun F4 W4 A4 u4' hF4' => ?_
  have u4 : Upd F0 W0 W4 := u3.new u4' fun k hk h => (hF2 k h).resolve_right (by omega)
  have hF4 : ∀ k, F4 k → F0 k ∨ W0.heap.size ≤ k := fun k hk => (hF4' k hk).elim (hF2 k) fun h => .inr (by have := u3.size; omega)
  have q4 : Quiet (plan (restart (runOps os (zzD (spaceR a0)))) []) := quiet_begin _
  have ok4 : DkOk (plan (restart (runOps os (zzD (spaceR a0)))) []) 2001 := ok_plan (ok_restart ok2) []
  have hone : os = [] → (names (plan (restart (runOps os (zzD (spaceR a0)))) []).seen).length = 1 := fun h => by rw [seen_begin, h]; exact names_zz _
  generalize plan (restart (runOps os (zzD (spaceR a0)))) [] = D4 at A4 q4 ok4 hone
  refine taken_call A4 ok4 (by decide) q4 fun F5 W5 sh A5 u5' hF5' hsh => ?_
  have u5 : Upd F0 W0 W5 := u4.new u5' fun k hk h => (hF4 k h).resolve_right (by omega)
  have hF5 : ∀ k, F5 k → F0 k ∨ W0.heap.size ≤ k := fun k hk => (hF5' k hk).elim (hF4 k) fun h => .inr (by have := u4.size; omega)
  have ok5 := (ok4.at (2 * (names D4.seen).length))
  have e2n : ((2 * (names D4.seen).length : Nat) : Int) = 2 * (((names D4.seen).length : Nat) : Int) := by omega
  rw [e2n] at ok5
  have hnl := ok4.seen.names.2
  have hl1 := hsh.n.len1
  rw [List.length_map] at hl1
  refine (St.start W5).newAgg rfl rfl rfl fun b21 W6 S6 e6 => ?_
  have n21 := S6.at_ 0 rfl
  have hxl : ys.length = x.len := hx.row.lenR (by decide)
  have hlen := hx.len
  refine join_at (false, ()) (sif_false (sif_r (fun h => ld_r n21 (off := 0) (x := sh.1) rfl ⟨tupb ?_, rfl⟩) fun _ => ⟨rfl, rfl⟩)) (sif_false ?_)
  · have h : (x.len : Int) = 0 := by simpa using h
    have h1 := hone (List.length_eq_zero_iff.1 (by omega))
    simp; omega
  have u6 : Upd F0 W0 W6 := u5.trans (Upd.of_ext e6)
  have A6 := A5.ext e6
  have lt6 := A5.lt
  have f21 : ¬ F5 b21 := fun h => by have := lt6 _ h; have := S6.ge 0 rfl; omega
  have sh6 := hsh.step (F' := F5) (Upd.of_ext e6) fun k hk => .inl hk
  have hz6 := u6.size
  refine join_r (fun _ W => ∃ F1 D1, DiskIn W d F1 D1 ∧ DkOk D1 2200 ∧ Quiet D1 ∧ Kin D4 D1 ∧ Dry D1 (names D4.seen) ∧ Upd F0 W0 W ∧ (∀ k, F1 k → F0 k ∨ W0.heap.size ≤ k) ∧ ShotIn W W4.heap.size F1 sh (names D4.seen) (texts D4) (stamps D4) ∧ ¬ F1 b21 ∧ W.heap[b21]? = some (.cells (Cells.vals c65 sh).toArray 65 (0, 0))) ?_ ?_
  · refine sloop_r (fun s W => ∃ (j : Nat) (F1 : Nat → Prop) (D1 : Dk), s = ((j : Int), ()) ∧ j ≤ (names D4.seen).length ∧ DiskIn W d F1 D1 ∧ DkOk D1 (2100 + 2 * j) ∧ Quiet D1 ∧ Kin D4 D1 ∧ Dry D1 ((names D4.seen).take j) ∧ Upd F0 W0 W ∧ (∀ k, F1 k → F0 k ∨ W0.heap.size ≤ k) ∧ ShotIn W W4.heap.size F1 sh (names D4.seen) (texts D4) (stamps D4) ∧ ¬ F1 b21 ∧ W.heap[b21]? = some (.cells (Cells.vals c65 sh).toArray 65 (0, 0))) (fun s _ => (names D4.seen).length - s.1.toNat)
      ⟨0, F5, _, rfl, Nat.zero_le _, A6, ok5.mono (by omega), q4.at _, kin_steps D4 _, fun n hn => by simp at hn, u6, hF5, sh6, f21, n21⟩ ?_
    rintro _ W ⟨j, F1, D1, rfl, hj, AW, okW, qW, kW, dW, uW, hFW, shW, f21, n21⟩
    dsimp only
    refine ld_r n21 (off := 0) (x := sh.1) rfl (sif_r (fun h => ?_) fun h => ?_)
    · have h : j < (names D4.seen).length := by have := of_decide_eq_true h; omega
      obtain ⟨n, hn⟩ : ∃ n, (names D4.seen)[j]? = some n := ⟨_, List.getElem?_eq_getElem h⟩
      obtain ⟨i, hi, hok, _⟩ := names_seen ok4 hn
      rw [← kW.seen] at hi
      refine ld_r n21 (off := 0) (x := sh.1) rfl (str_ix shW.n hn (sync_call AW okW (by omega) fun F' w' v hv hD hu hF => ?_))
      obtain ⟨r1, r2, r3, r4⟩ := sync_quiet qW okW hok hi dW
      rw [r1] at hv
      have hzW := lt_of_heap n21
      have hzz := uW.size
      refine told_ne hv.told (sif_false ?_)
      rw [IntWalk.i64_in _ ⟨by omega, by omega⟩]
      refine ⟨⟨j + 1, F', _, rfl, h, hD, (ok_callSync okW n).mono (by omega), r2, kW.trans r3, by rw [List.take_add_one, hn]; exact r4, uW.new hu fun k hk h => (hFW k h).resolve_right (by omega), fun k hk => (hF k hk).elim (hFW k) fun h => .inr (by omega), shW.step hu hF, fun h => (hF _ h).elim f21 (by omega), hu.get n21 f21⟩, by show (names D4.seen).length - (j + 1) < (names D4.seen).length - j; omega⟩
    · have h : ¬ j < (names D4.seen).length := by have := of_decide_eq_false h; omega
      rw [List.take_of_length_le (by omega)] at dW
      exact ⟨F1, D1, AW, okW.mono (by omega), qW, kW, dW, uW, hFW, shW, f21, n21⟩
  · rintro _ W7 ⟨F7, D7, A7, ok7, q7, k7, d7, u7, hF7, sh7, f21, n21⟩
    refine syncdir_call A7 ok7 (by decide) fun F8 W8 v hv A8 u8' hF8' => ?_
    have ok8 : DkOk (callSyncDir D7).1 2202 := ok_callSyncDir ok7
    rw [syncdir_quiet q7] at hv A8 ok8
    have hz7 := u7.size
    have hz21 := lt_of_heap n21
    have u8 : Upd F0 W0 W8 := u7.new u8' fun k hk h => (hF7 k h).resolve_right (by omega)
    have hF8 : ∀ k, F8 k → F0 k ∨ W0.heap.size ≤ k := fun k hk => (hF8' k hk).elim (hF7 k) fun h => .inr (by omega)
    have sh8 := sh7.step u8' hF8'
    have f21 : ¬ F8 b21 := fun h => (hF8' _ h).elim f21 (by omega)
    have n21 := u8'.get n21 (by assumption)
    have ok7' : DkOk { D7 with steps := D7.steps + 1 } 2202 := (ok7.at 1).mono (by omega)
    have k7' : Kin D4 { D7 with steps := D7.steps + 1 } := k7.trans (kin_steps D7 _)
    have d7' : Dry { D7 with steps := D7.steps + 1 } (names ({ D7 with steps := D7.steps + 1 } : Dk).seen) := by
      rw [k7'.seen]; exact d7.at _
    obtain ⟨c1, c2, c3⟩ := crash_dry ok7' q7.up d7' cut.1 bytes
    generalize ({ D7 with steps := D7.steps + 1 } : Dk) = D8 at A8 ok8 ok7' k7' d7' c1 c2 c3
    refine told_ne hv.told (sif_false ?_)
    obtain ⟨nm, cs, ⟨⟩⟩ := cut
    refine lds_r (cs := c37) (x := (nm, cs, ())) (u8.get n1' hb1F) (fun i v hv => ?_) ?_
    · rw [Nat.zero_add]; rw [← List.getElem?_toArray] at hv; exact hv
    have hz8 := u8.size
    obtain ⟨ms, ml, sa, pl, vs, fb, ds, A8⟩ := A8
    refine crash_call A8 ok8 (by decide) (c := (nm, cs, ())) ⟨SlX.updL c0 hcb u8 fun k hk => (hPF k hk).2, .inl (hcb.imp id fun hcb k hk h => (hF8 k h).elim (hPF k (hcb k hk)).2 fun h => by have := (hPF k (hcb k hk)).1; omega)⟩ fun F9 W9 A9 u9' hF9' => ?_
    have u9 : Upd F0 W0 W9 := u8.new u9' fun k hk h => (hF8 k h).resolve_right (by omega)
    have sh9 := sh8.step u9' hF9'
    have hz21 := lt_of_heap n21
    have n21 := u9'.get n21 f21
    have f21 : ¬ F9 b21 := fun h => (hF9' _ h).elim f21 (by omega)
    refine down_call A9 ?_
    rw [c1]
    refine restart_call A9 fun W10 A10 u10' => ?_
    have sh10 := sh9.step u10' fun k hk => .inl hk
    have n21 := u10'.get n21 f21
    have ok10 := ok_restart (ok_crash ok8 nm bytes)
    have k10 := k7'.trans c3
    refine taken_call A10 ok10 (by decide) c2 fun F11 W11 sh' A11 u11' hF11' hsh' => ?_
    have sh11 := sh10.step u11' hF11'
    have hF9 : ∀ k, F9 k → F0 k ∨ W0.heap.size ≤ k := fun k hk => (hF9' k hk).elim (hF8 k) fun h => .inr (by omega)
    have u11 : Upd F0 W0 W11 := (u9.new u10' fun k hk h => (hF9 k h).resolve_right (by omega)).new u11' fun k hk h => (hF9 k h).resolve_right (by omega)
    have n21 := u11'.get n21 f21
    rw [k10.names, k10.texts, k10.stamps] at hsh'
    refine (St.start W11).newAgg rfl rfl rfl fun b42 W12 S12 e12 => sif_true (sif_true ?_)
    refine lds_r (cs := c65) (x := sh) (c := (Cells.vals c65 sh).toArray) (e12.ext_get n21) (fun i v hv => by rw [Nat.zero_add, List.getElem?_toArray]; exact hv) ?_
    refine S12.lds 0 (cs := c65) sh' rfl ?_
    exact same_call (sh11.step (F' := F11) (Upd.of_ext e12) fun k hk => .inl hk) (hsh'.step (F' := F11) (Upd.of_ext e12) fun k hk => .inl hk) (by omega) (pict_len D4).1 (pict_len D4).2 fun w' e' => hK w' (done ((u11.trans (Upd.of_ext e12)).trans (Upd.of_ext e')))
end
end Go.Proofs.Ytdabehgbhndimaa
