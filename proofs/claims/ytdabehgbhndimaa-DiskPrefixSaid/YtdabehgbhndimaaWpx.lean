/- DiskPrefix answers true. Conditions: arguments in memory. -/
import Derived.Test.YtdabehgbhndimaaWsy
import Derived.Test.YtdabehgbhndimaaPpx
set_option linter.unusedSimpArgs false
set_option linter.unusedVariables false
namespace Go.Proofs.Ytdabehgbhndimaa
open Go Go.Vx Dsk
section
variable {w w' : World} {S P P' F F' : Nat → Prop} {d : Nat} {D : Dk} {N : Nat}

/-- a number of a stamp -/
theorem stamp_ix {B : Nat} {s : Sl} {st : List (Cells.T c68)} (h : SlOwn w B s 68 3 (flat c68 st)) {j : Nat} {x : Cells.T c68} (hx : st[j]? = some x) {f : Nat} {v : Int} (hf : f < 3) (hv : (Cells.vals c68 x)[f]? = some (.int .i64 v)) {K : Int → World → Prop} (hK : K v w) :
    ix s.a s.len (j : Int) (fun p => chk (0 ≤ (f : Int) ∧ (f : Int) < ((3 : Nat) : Int)) <| ld (.int .i64) ((p.add (scaled (Int.toNat (j : Int)) 3)).add (scaled (Int.toNat (f : Int)) 1)) K) w := by
  have hl := h.lenR (cs := c68) (by decide)
  have hj := (List.getElem?_eq_some_iff.1 hx).1
  refine h.in.ix (by omega) (by omega) (by decide) fun b off _ hat => chk_r ⟨by omega, by omega⟩ ⟨v, ?_, hK⟩
  have := flat_get c68 st j f x hx (by exact hf)
  have h0 := hat f (.int .i64 v) (by rw [Int.toNat_natCast]; exact this.trans hv)
  simp only [addr_add, scaled, Int.toNat_natCast, Nat.mul_one] at h0 ⊢
  exact h0

theorem prefix_walk {a0 : Int} {x : Sl} {ys : List (Cells.T c39)} {os : List DOp} {cut : Int × Sl × Unit} {bytes : List Int} (hx : OpsIn w P x ys os) (hP : ∀ k, P k → k < w.heap.size) (hc : SlX w cut.2.1 1 (iv bytes)) (hcb : Lie P cut.2.1)
    {K : Bool → World → Prop} (hK : ∀ w', Ext w w' → K true w') : callT Try.prog 5 #[.int .i64 a0, .slice x.a x.len x.cap, .agg (Cells.vals c37 cut).toArray] (.one (.one .bool)) K w := by
  refine F5_calls (a2 := cut) ?_
  unfold F5
  refine newO_r fun b1 w1 e1 n1 hb1 _ => ?_
  have hs1 := e1.size
  refine fits_call (hx.upd e1 fun _ _ h => h) fun bf w2 hbf e2 => sif_r (fun _ => hK _ (e1.trans e2)) fun hb => ?_
  have hos := hbf (by simpa using hb)
  have hs2 := e2.size
  have hsp := spaceR_bd a0
  refine space_call (made_call (by omega) (by omega) fun d F0 W0 A0 e3 hF0 => ?_)
  have e03 := (e1.trans e2).trans e3
  have hs3 := e3.size
  have hlt0 := A0.lt
  have done : ∀ {W : World}, Upd F0 W0 W → Ext w W := fun u => e03.new u fun k hk h => by have := hF0 k h; omega
  have hb1F : ¬ F0 b1 := fun h => by have := hF0 _ h; omega
  have hb1l : b1 < W0.heap.size := Nat.lt_of_lt_of_le (lt_of_heap n1) (Nat.le_trans hs2 hs3)
  have n1' := (e2.trans e3).ext_get n1
  have hPF : ∀ k, P k → k < W0.heap.size ∧ ¬ F0 k := fun k hk => ⟨by have := hP k hk; omega, fun h => by have := hP k hk; have := hF0 k h; omega⟩
  have x0 := hx.upd e03 fun _ _ h => h
  have c0 := hc.ext e03
  refine join_r (fun x W => x = (false, ()) ∧ ∃ F1, DiskIn W d F1 (zzD (spaceR a0)) ∧ Upd F0 W0 W ∧ ∀ k, F1 k → F0 k ∨ W0.heap.size ≤ k) (sif_false (zz_r A0 (by omega) (by omega) fun F1 W hD hu hF => ⟨rfl, F1, hD, hu, hF⟩)) ?_
  rintro _ W1 ⟨rfl, F1, A1, u1, hF1⟩
  have hs4 := u1.size
  have ap : ∀ {F2 : Nat → Prop} {W : World}, (∀ k, F2 k → F0 k ∨ W0.heap.size ≤ k) → Upd F0 W0 W → ∀ k, P k → k < W.heap.size ∧ ¬ F2 k := fun {F2 W} hF hu k hk => ⟨Nat.lt_of_lt_of_le (hPF k hk).1 hu.size, fun h => (hF k h).elim (hPF k hk).2 fun h => by have := (hPF k hk).1; omega⟩
  refine sif_false (join_r (fun _ W => ∃ F2, DiskIn W d F2 (runOps os (zzD (spaceR a0))) ∧ DkOk (runOps os (zzD (spaceR a0))) 2001 ∧ Upd F0 W0 W ∧ ∀ k, F2 k → F0 k ∨ W0.heap.size ≤ k) (runs_r A1 (ok_zz hsp.1 (by omega)) (x0.upd u1 fun k hk => (hPF k hk).2) (ap hF1 u1) (by omega) fun F2 W hD hok hu hF => ⟨F2, hD, hok.mono (by omega), u1.new hu fun k hk h => (hF1 k h).resolve_right (by omega), fun k hk => (hF k hk).elim (hF1 k) fun h => .inr (by omega)⟩) ?_)
  rintro _ W2 ⟨F2, A2, ok2, u2, hF2⟩
  refine restart_call A2 fun W3 A3 u3' => ?_
  have u3 : Upd F0 W0 W3 := u2.new u3' fun k hk h => (hF2 k h).resolve_right (by omega)
  refine plan_call A3 faults_nil (by simp) fun F4 W4 A4 u4' hF4' => ?_
  have u4 : Upd F0 W0 W4 := u3.new u4' fun k hk h => (hF2 k h).resolve_right (by omega)
  have hF4 : ∀ k, F4 k → F0 k ∨ W0.heap.size ≤ k := fun k hk => (hF4' k hk).elim (hF2 k) fun h => .inr (by have := u3.size; omega)
  have q4 : Quiet (plan (restart (runOps os (zzD (spaceR a0)))) []) := quiet_begin _
  have ok4 : DkOk (plan (restart (runOps os (zzD (spaceR a0)))) []) 2001 := ok_plan (ok_restart ok2) []
  have hone : os = [] → (plan (restart (runOps os (zzD (spaceR a0)))) []).acts = [] ∧ (plan (restart (runOps os (zzD (spaceR a0)))) []).lasts = dset (fun _ => none) zz (some 0) ∧ (plan (restart (runOps os (zzD (spaceR a0)))) []).files = [⟨zb, zb.length, 1⟩] := fun h => by rw [h]; exact ⟨rfl, rfl, rfl⟩
  generalize plan (restart (runOps os (zzD (spaceR a0)))) [] = D4 at A4 q4 ok4 hone
  refine taken_call A4 ok4 (by decide) q4 fun F5 W5 sh A5 u5' hF5' hsh => ?_
  have u5 : Upd F0 W0 W5 := u4.new u5' fun k hk h => (hF4 k h).resolve_right (by omega)
  have hF5 : ∀ k, F5 k → F0 k ∨ W0.heap.size ≤ k := fun k hk => (hF5' k hk).elim (hF4 k) fun h => .inr (by have := u4.size; omega)
  have ok5 := (ok4.at (2 * (names D4.seen).length))
  have e2n : ((2 * (names D4.seen).length : Nat) : Int) = 2 * (((names D4.seen).length : Nat) : Int) := by omega
  rw [e2n] at ok5
  have hnl := ok4.seen.names.2
  have hl1 := hsh.n.len1
  rw [List.length_map] at hl1
  refine (St.start W5).newAgg rfl rfl rfl fun b21 W6 S6 e6 => ?_
  have n21 := S6.at_ 0 rfl
  have hxl : ys.length = x.len := hx.row.lenR (by decide)
  have hlen := hx.len
  have u6 : Upd F0 W0 W6 := u5.trans (Upd.of_ext e6)
  have A6 := A5.ext e6
  have lt6 := A5.lt
  have f21 : ¬ F5 b21 := fun h => by have := lt6 _ h; have := S6.ge 0 rfl; omega
  have sh6 := hsh.step (F' := F5) (Upd.of_ext e6) fun k hk => .inl hk
  have hz6 := u6.size
  obtain ⟨nm, cs, ⟨⟩⟩ := cut
  refine lds_r (cs := c37) (x := (nm, cs, ())) (u6.get n1' hb1F) (fun i v hv => ?_) ?_
  · rw [Nat.zero_add]; rw [← List.getElem?_toArray] at hv; exact hv
  obtain ⟨c1, c2, c3⟩ := crash_front ok5 q4.up nm bytes
  have okc := ok_crash ok5 nm bytes
  obtain ⟨ms, ml, sa, pl, vs, fb, ds, A6⟩ := A6
  refine crash_call A6 ok5 (by omega) (c := (nm, cs, ())) ⟨SlX.updL c0 hcb u6 fun k hk => (hPF k hk).2, .inl (hcb.imp id fun hcb k hk h => (hF5 k h).elim (hPF k (hcb k hk)).2 fun h => by have := (hPF k (hcb k hk)).1; omega)⟩ fun F7 W7 A7 u7' hF7' => ?_
  have u7 : Upd F0 W0 W7 := u6.new u7' fun k hk h => (hF5 k h).resolve_right (by omega)
  have hF7 : ∀ k, F7 k → F0 k ∨ W0.heap.size ≤ k := fun k hk => (hF7' k hk).elim (hF5 k) fun h => .inr (by omega)
  have sh7 := sh6.step u7' hF7'
  have hz21 := lt_of_heap n21
  have n21 := u7'.get n21 f21
  have f21 : ¬ F7 b21 := fun h => (hF7' _ h).elim f21 (by omega)
  refine names_of_call A7 okc fun s24 W8 h24 e8 => ?_
  rw [if_pos c1] at h24
  have h24l := h24.len1
  rw [List.length_map] at h24l
  have sh8 := sh7.step (F' := F7) (Upd.of_ext e8) fun k hk => .inl hk
  refine restart_call (A7.ext e8) fun W9 A9 u9' => ?_
  have u9 : Upd F0 W0 W9 := (u7.trans (Upd.of_ext e8)).new u9' fun k hk h => (hF7 k h).resolve_right (by omega)
  have sh9 := sh8.step u9' fun k hk => .inl hk
  have n21 := u9'.get (e8.ext_get n21) f21
  have ok9 := ok_restart okc
  have one9 : os = [] → names (restart (crash ({ D4 with steps := D4.steps + 2 * (((names D4.seen).length : Nat) : Int) } : Dk) nm bytes)).seen = [zz] ∧ texts (restart (crash ({ D4 with steps := D4.steps + 2 * (((names D4.seen).length : Nat) : Int) } : Dk) nm bytes)) = [⟨zb.toArray⟩] := fun h => by
    obtain ⟨h1, h2, h3⟩ := hone h
    exact crash_one ok5 q4.up h1 h2 h3
  generalize restart (crash ({ D4 with steps := D4.steps + 2 * (((names D4.seen).length : Nat) : Int) } : Dk) nm bytes) = D9 at A9 c2 c3 ok9 one9
  refine taken_call A9 ok9 (by omega) c2 fun F10 W10 sh' A10 u10' hF10' hsh' => ?_
  have u10 : Upd F0 W0 W10 := u9.new u10' fun k hk h => (hF7 k h).resolve_right (by omega)
  have sh10 := sh9.step u10' hF10'
  have n21 := u10'.get n21 f21
  refine (St.start W10).newAgg rfl rfl rfl fun b27 W11 S11 e11 => ?_
  have n27 := S11.at_ 0 rfl
  have n21 := e11.ext_get n21
  have sh11 := sh10.step (F' := F10) (Upd.of_ext e11) fun k hk => .inl hk
  have sh11' := hsh'.step (F' := F10) (Upd.of_ext e11) fun k hk => .inl hk
  refine join_at (false, ()) (sif_false (sif_false ⟨tupb (by simp; simpa using h24l.symm), rfl⟩)) (sif_false ?_)
  have hdone : ∀ {W : World}, Ext W11 W → Ext w W := fun e => done ((u10.trans (Upd.of_ext e11)).trans (Upd.of_ext e))
  have hxl : ys.length = x.len := hx.row.lenR (by decide)
  have hlen := hx.len
  have hl2 := sh11'.n.len1
  rw [List.length_map] at hl2
  have hnl9 := ok9.seen.names.2
  have m1 := sh11.n.len1
  rw [List.length_map] at m1
  refine join_r (fun _ W => Ext W11 W) ?_ ?_
  · refine sloop_r (fun s W => ∃ i2 : Nat, s = ((i2 : Int), ()) ∧ i2 ≤ (names D9.seen).length ∧ Ext W11 W) (fun s _ => (names D9.seen).length - s.1.toNat) ⟨0, rfl, Nat.zero_le _, Ext.refl _⟩ ?_
    rintro _ W ⟨i2, rfl, hi2, eW⟩
    dsimp only
    refine ld_r (eW.ext_get n27) (off := 0) (x := sh'.1) rfl (sif_r (fun h => ?_) fun _ => eW)
    have h2 : i2 < (names D9.seen).length := by have := of_decide_eq_true h; omega
    obtain ⟨nm2, hn2⟩ : ∃ n, (names D9.seen)[i2]? = some n := ⟨_, List.getElem?_eq_getElem h2⟩
    obtain ⟨k2, hk2, _⟩ := names_seen ok9 hn2
    obtain ⟨ht2, hs2⟩ := pict_at hn2 hk2
    refine join_r (fun _ W' => Ext W11 W') ?_ fun _ W' e' => ?_
    · refine sloop_r (fun s W => ∃ i1 : Nat, s = ((i1 : Int), ()) ∧ i1 ≤ (names D4.seen).length ∧ Ext W11 W) (fun s _ => (names D4.seen).length - s.1.toNat) ⟨0, rfl, Nat.zero_le _, eW⟩ ?_
      rintro _ V ⟨i1, rfl, hi1, eV⟩
      dsimp only
      refine ld_r (eV.ext_get n21) (off := 0) (x := sh.1) rfl (sif_r (fun h => ?_) fun _ => eV)
      have h1 : i1 < (names D4.seen).length := by have := of_decide_eq_true h; omega
      obtain ⟨nm1, hn1⟩ : ∃ n, (names D4.seen)[i1]? = some n := ⟨_, List.getElem?_eq_getElem h1⟩
      obtain ⟨k1, hk1, _⟩ := names_seen ok4 hn1
      obtain ⟨ht1, hs1'⟩ := pict_at hn1 hk1
      refine join_r (fun _ V' => Ext W11 V') (drew_r fun V1 e1' _ => ?_) fun _ V' e' => ?_
      · have eA := eV.trans e1'
        have m27 := eA.ext_get n27
        have m21 := eA.ext_get n21
        refine ld_r m27 (off := 2) (x := sh'.2.2.1) rfl (stamp_ix (f := 0) (sh11'.s.ext eA) hs2 (by decide) rfl ?_)
        refine ld_r m21 (off := 2) (x := sh.2.2.1) rfl (stamp_ix (f := 0) (sh11.s.ext eA) hs1' (by decide) rfl (sif_r (fun _ => eA) fun hk => ?_))
        have hk : k2 = k1 := by simp at hk; omega
        subst hk
        obtain ⟨⟨m, f1⟩, f2⟩ := c3 k2
        have f1 : (fl D9 k2).data = (fl D4 k2).data.take m := f1
        have f2 : (fl D9 k2).count = (fl D4 k2).count := f2
        obtain ⟨q1, q2⟩ := front_extract (a := ⟨(fl D9 k2).data.toArray⟩) (b := ⟨(fl D4 k2).data.toArray⟩) (m := m) (by simpa using f1)
        generalize (⟨(fl D9 k2).data.toArray⟩ : ByteArray) = t2 at ht2 q1 q2
        generalize (⟨(fl D4 k2).data.toArray⟩ : ByteArray) = t1 at ht1 q1 q2
        refine ld_r m27 (off := 1) (x := sh'.2.1) rfl (str_ix (sh11'.t.ext eA) ht2 ?_)
        refine join_r (fun x V' => x = (false, ()) ∧ Ext W11 V') (drew_r fun V2 e2' _ => ?_) ?_
        · have eB := eA.trans e2'
          have m27 := eB.ext_get n27
          have m21 := eB.ext_get n21
          refine ld_r m21 (off := 1) (x := sh.2.1) rfl (str_ix (sh11.t.ext eB) ht1 (sif_r (fun hh => absurd (of_decide_eq_true hh) (by omega)) fun _ => ?_))
          refine ld_r m27 (off := 1) (x := sh'.2.1) rfl (str_ix (sh11'.t.ext eB) ht2 (ld_r m21 (off := 1) (x := sh.2.1) rfl (str_ix (sh11.t.ext eB) ht1 (chk_r ⟨Int.le_refl _, by omega, by omega⟩ ?_))))
          refine sif_r (fun hh => ?_) fun _ => ?_
          · rw [bytes_eq, Int.toNat_natCast, Int.toNat_zero, q2] at hh
            simp at hh
          refine ld_r m27 (off := 2) (x := sh'.2.2.1) rfl (stamp_ix (f := 2) (sh11'.s.ext eB) hs2 (by decide) rfl ?_)
          refine ld_r m21 (off := 2) (x := sh.2.2.1) rfl (stamp_ix (f := 2) (sh11.s.ext eB) hs1' (by decide) rfl ⟨tupb ?_, eB⟩)
          rw [f2]; simp
        · rintro _ V' ⟨rfl, e⟩
          exact sif_false e
      · rw [IntWalk.i64_in _ ⟨by omega, by omega⟩]
        exact ⟨⟨i1 + 1, rfl, h1, e'⟩, by show (names D4.seen).length - (i1 + 1) < (names D4.seen).length - i1; omega⟩
    · rw [IntWalk.i64_in _ ⟨by omega, by omega⟩]
      exact ⟨⟨i2 + 1, rfl, h2, e'⟩, by show (names D9.seen).length - (i2 + 1) < (names D9.seen).length - i2; omega⟩
  · intro _ W eW
    refine sif_r (fun _ => hK _ (hdone eW)) fun h => ?_
    have h := of_decide_eq_false h
    obtain ⟨g1, g2⟩ := one9 (List.length_eq_zero_iff.1 (by omega))
    rw [g1] at hl2
    refine ld_r (eW.ext_get n27) (off := 0) (x := sh'.1) rfl (sif_r (fun _ => ?_) fun hh => ?_)
    · refine ld_r (eW.ext_get n27) (off := 1) (x := sh'.2.1) rfl (str_ix (j := 0) (x := ⟨zb.toArray⟩) (sh11'.t.ext eW) (by rw [g2]; rfl) ?_)
      have : (ByteArray.toList ⟨zb.toArray⟩ == ByteArray.toList ⟨#[49, 50, 51, 52]⟩) = true := by rw [bytes_eq]; exact decide_eq_true rfl
      rw [this]
      exact hK _ (hdone eW)
    · simp at hh hl2; omega
end
end Go.Proofs.Ytdabehgbhndimaa
