/- DiskErrors answers true. Conditions: arguments in memory. -/
import Derived.Test.YtdabehgbhndimaaEis
import Derived.Test.YtdabehgbhndimaaRf
set_option linter.unusedSimpArgs false
set_option linter.unusedVariables false
namespace Go.Proofs.Ytdabehgbhndimaa
open Go Go.Vx Dsk
section
variable {w w' : World} {P F : Nat → Prop} {d r : Nat} {D : Dk} {N : Nat} {sp k : Int} {n : Nm}

/-- a disk on which there is nothing -/
def eD (sp k : Int) : Dk := { newD sp with steps := k }
theorem find_e : Dsk.find (eD sp k) n = (none, errR n) := by
  unfold Dsk.find errR
  by_cases h : okName n = false
  · rw [if_pos h, if_pos h]
  · rw [if_neg h, if_neg h]; rfl
theorem quiet_e : Quiet (eD sp k) := ⟨rfl, fun _ => rfl⟩
theorem sync_e : callSync (eD sp k) n = (eD sp (k + 1), errR n, ()) := by
  unfold callSync
  rw [step_quiet quiet_e]
  unfold u syR
  have : Dsk.find { eD sp k with steps := (eD sp k).steps + 1 } n = (none, errR n) := find_e (sp := sp) (k := k + 1)
  rw [this]; rfl
theorem remove_e : callRemove (eD sp k) n = (eD sp (k + 1), errR n, ()) := by
  unfold callRemove
  rw [step_quiet quiet_e]
  unfold u rmR
  have : Dsk.find { eD sp k with steps := (eD sp k).steps + 1 } n = (none, errR n) := find_e (sp := sp) (k := k + 1)
  rw [this]; rfl
theorem errR_pos : 160 ≤ errR n ∧ errR n < 166 := by unfold errR; split <;> omega
def nAB : Nm := ⟨#[97, 32, 98]⟩
theorem put_e : putR (eD sp k) nAB [] = (eD sp k, 164) := by
  unfold putR
  rw [if_neg (by simp [eD, newD]), if_pos (by decide)]
theorem ok_e {k : Nat} (h0 : 0 ≤ sp) (h1 : sp ≤ 1048576) : DkOk (eD sp k) k := by
  have := ok_new h0 h1
  exact ⟨this.space, fun i f hf => by simp [eD, newD] at hf, Nat.zero_le _, this.good, ⟨by show (0 : Int) ≤ k; omega, Int.le_refl _⟩, Nat.zero_le _⟩

theorem new_r {K : (Option Addr × Int × Unit) → World → Prop} (h0 : 0 ≤ sp) (h1 : sp ≤ 1048576) (hK : ∀ r w', w'.heap[r]? = some (rbox sp 0) → Ext w w' → r = w.heap.size → K (some (at0 r), 0, ()) w') : callT Try.prog 12 #[.int .i64 sp] (.tup [(.one .ptr), (.one (.int .i64))]) K w := by
  refine F12_calls ?_
  unfold F12
  refine join_at (false, ()) (sif_r (fun h => absurd (of_decide_eq_true h) (by omega)) fun _ => ⟨tupb (by simp; omega), rfl⟩) (sif_false (newO_r fun b w1 e1 n1 hb _ => hK b w1 n1 e1 hb))

theorem rest_r {b bx : Nat} {e k1 st : Int} {op : Nm} {c : Array Value} {x : (Int × Sl × Int × Int × Int × Int × Int × Unit)} {o1 o2 o3 o4 o5 o6 : Operand} (hx : x = ansR e k1) (he : 160 ≤ e ∧ e < 166) (hb : w.heap[b]? = some (.cells c 43 (0, 0))) (hc : c.size = 7)
    (h : w.heap[bx]? = some (.cells #[.string op, .string n, .int .i64 st, .iface 49 (.int .i64 e)] 96 (0, 0))) {A J : World → Prop} (hJ : ∀ w', Upd (fun j => j = b) w w' → J w') :
    aggSt (at0 b) (.agg (Cells.vals c43 x).toArray) 7 (
    drew <|
    rdB Try.prog (do eqGuard .eql 31 o1 (Operand.const Value.nilIface) (.iface 94 (.pointer (some (at0 bx)))) .nilIface; binOp .eql 31 (.iface 94 (.pointer (some (at0 bx)))) .nilIface : Sem Value) fun r35 =>
    ld (.int .i64) (⟨b, 5, none⟩ : Addr) fun (x36 : Int) =>
    rdB Try.prog (do eqGuard .neq 4 o2 o3 (.bool r35) (.bool (x36 == (0 : Int))); binOp .neq 4 (.bool r35) (.bool (x36 == (0 : Int))) : Sem Value) fun r37 =>
    sif r37 A (
      sloop (S := Int × Unit) (fun (s38 : Int × Unit) again39 =>
        join (S := Bool × Unit) (fun J40 =>
          sif (decide (s38.1 < (166 : Int))) (
            rdB Try.prog (do eqGuard .neq 31 o4 (Operand.const Value.nilIface) (.iface 94 (.pointer (some (at0 bx)))) .nilIface; binOp .neq 31 (.iface 94 (.pointer (some (at0 bx)))) .nilIface : Sem Value) fun r42 =>
            J40 (r42, ())) (
            J40 (false, ()))) fun (s41 : Bool × Unit) =>
        sif s41.1 (
          callT Try.prog 18 #[.iface 94 (.pointer (some (at0 bx))), (.iface 49 (.int .i64 s38.1))] (.one (.one .bool)) fun (x43 : Bool) =>
          ld (.int .i64) (⟨b, 5, none⟩ : Addr) fun (x44 : Int) =>
          rdB Try.prog (do eqGuard .neq 4 o5 o6 (.bool x43) (.bool (s38.1 == x44)); binOp .neq 4 (.bool x43) (.bool (s38.1 == x44)) : Sem Value) fun r45 =>
          sif r45 A (
            again39 ((IntKind.wrap .i64 (s38.1 + (1 : Int))), ()))) (
          J)) ((160 : Int), ()))) w := by
  subst hx
  have ub : Try.prog.underlying 4 = some .bool := i4_ok.und
  refine aggSt_r hb rfl rfl (by omega) fun w1 u1 n1 _ => drew_r fun w2 e2 _ => ?_
  have hne : bx ≠ b := fun hh => by rw [hh, hb] at h; cases h
  have h2 := e2.ext_get (u1.get h hne)
  have n2 : w2.heap[b]? = some (.cells (setRow c 0 (Cells.vals c43 (ansR e k1))) 43 (0, 0)) := e2.ext_get n1
  have n5 : (setRow c 0 (Cells.vals c43 (ansR e k1)))[5]? = some (.int .i64 e) := by
    rw [setRow_whole _ _ (by rw [hc]; rfl)]; rfl
  refine rdB_nil (ld_r n2 (off := 5) (x := e) n5 (rdB_neqb ub ?_)) uE
  have e0 : (e == 0) = false := by simp; omega
  rw [e0]
  refine sif_false ?_
  refine sloop_r (fun s W => ∃ k : Nat, s = (160 + (k : Int), ()) ∧ k ≤ 6 ∧ W = w2) (fun s _ => (166 - s.1).toNat) ⟨0, rfl, by omega, rfl⟩ ?_
  rintro _ _ ⟨k, rfl, hk, rfl⟩
  dsimp only
  refine join_at (decide (k < 6), ()) (sif_r (fun hh => rdB_nnil ⟨tupb ?_, rfl⟩ uE) fun hh => ⟨tupb ?_, rfl⟩) (sif_r (fun hh => ?_) fun _ => hJ _ (u1.trans (Upd.of_ext e2)))
  · have := of_decide_eq_true hh; simp; omega
  · have := of_decide_eq_false hh; simp; omega
  · have hh : k < 6 := of_decide_eq_true hh
    refine is_call h2 (ld_r n2 (off := 5) (x := e) n5 (rdB_neqb ub ?_))
    have e1 : (decide (e = 160 + (k : Int)) != (160 + (k : Int) == e)) = false := by
      by_cases hek : e = 160 + (k : Int)
      · simp [hek]
      · have : ¬ (160 + (k : Int)) = e := fun h => hek h.symm
        simp [hek, this]
    rw [e1]
    refine sif_false ?_
    rw [IntWalk.i64_in _ ⟨by omega, by omega⟩]
    exact ⟨⟨k + 1, by simp; omega, by omega, rfl⟩, by show (166 - (160 + (k : Int) + 1)).toNat < (166 - (160 + (k : Int))).toNat; omega⟩

theorem errors_walk {a0 : Int} {x : Sl} {ys : List (Cells.T c39)} {os : List DOp} (hx : OpsIn w P x ys os) (hP : ∀ k, P k → k < w.heap.size)
    {K : Bool → World → Prop} (hK : ∀ w', Ext w w' → K true w') : callT Try.prog 3 #[.int .i64 a0, .slice x.a x.len x.cap] (.one (.one .bool)) K w := by
  refine F3_calls ?_
  unfold F3
  refine fits_call hx fun bf w2 hbf e2 => sif_r (fun _ => hK _ e2) fun hb => ?_
  have hos := hbf (by simpa using hb)
  have hs2 := e2.size
  have hsp := spaceR_bd a0
  refine space_call (made_call (by omega) (by omega) fun d F0 W0 A0 e3 hF0 => space_call (new_r (by omega) (by omega) fun r W1 n1 e4 hr => ?_))
  generalize spaceR a0 = sp at *
  have hs3 := e3.size
  have hs4 := e4.size
  have hxl : ys.length = x.len := hx.row.lenR (by decide)
  have hlen := hx.len
  have e01 := (e2.trans e3).trans e4
  have A1 : DiskIn W1 d F0 (eD sp ((0 : Nat) : Int)) := A0.ext e4
  have hlt1 := A0.lt
  refine join_r (fun z W => z = (false, ()) ∧ ∃ F1, DiskIn W d F1 (eD sp ((0 : Nat) : Int)) ∧ (∀ k, F1 k → w.heap.size ≤ k) ∧ ¬ F1 r ∧ W.heap[r]? = some (rbox sp ((0 : Nat) : Int)) ∧ Ext w W) (sif_false (sif_false ?_)) ?_
  · refine put_call (n := nAB) (l := []) (x := ⟨none, 0, 0⟩) A1 (ok_e (by omega) (by omega)) (by decide) (SlIn.nil _ 5 1).x (fun k ⟨q, hq, _⟩ => by cases hq) fun F1 W v hv hD hu hF => ?_
    rw [put_e] at hv hD
    have hrF : ¬ F0 r := fun h => by have := hlt1 _ h; omega
    refine told_eq hv.told ⟨rfl, F1, hD, fun k hk => (hF k hk).elim (fun h => by have := hF0 k h; omega) fun h => by omega, fun h => (hF _ h).elim hrF fun h => by have := lt_of_heap n1; omega, hu.get n1 hrF, e01.new hu fun k hk h => by have := hF0 k h; omega⟩
  rintro _ W2 ⟨rfl, F2, A2, hF2, hr2, n2, e2'⟩
  have xx : ∀ {W : World}, Ext w W → OpsIn W P x ys os := fun e => hx.upd e fun _ _ h => h
  refine sif_false (join_r (fun _ W => Ext w W) ?_ fun _ W e => hK W e)
  refine sloop_r (fun s W => ∃ (j k : Nat) (F1 : Nat → Prop), s = ((j : Int), ()) ∧ j ≤ ys.length ∧ k ≤ j ∧ DiskIn W d F1 (eD sp (k : Int)) ∧ (∀ k, F1 k → w.heap.size ≤ k) ∧ ¬ F1 r ∧ W.heap[r]? = some (rbox sp (k : Int)) ∧ Ext w W) (fun s _ => ys.length - s.1.toNat) ⟨0, 0, F2, rfl, Nat.zero_le _, Nat.le_refl _, A2, hF2, hr2, n2, e2'⟩ ?_
  rintro _ W ⟨j, k, F1, rfl, hj, hkj, AW, hFW, hrW, nW, eW⟩
  dsimp only
  refine sif_r (fun h => ?_) fun h => eW
  have h : j < ys.length := by have := of_decide_eq_true h; omega
  refine join_r (fun _ W' => ∃ (k : Nat) (F1 : Nat → Prop), k ≤ j + 1 ∧ DiskIn W' d F1 (eD sp (k : Int)) ∧ (∀ k, F1 k → w.heap.size ≤ k) ∧ ¬ F1 r ∧ W'.heap[r]? = some (rbox sp (k : Int)) ∧ Ext w W') ?_ ?_
  · obtain ⟨y, hy⟩ : ∃ y, ys[j]? = some y := ⟨_, List.getElem?_eq_getElem h⟩
    obtain ⟨o, ho⟩ : ∃ o, os[j]? = some o := ⟨_, List.getElem?_eq_getElem (by omega)⟩
    have o1 := (xx eW).at_ j y o hy ho
    refine ix_ldsX (cs := c39) (xx eW).row (by decide) (by omega) (by simpa using hy) fun _ => ?_
    refine (St.start W).newAgg rfl rfl rfl fun b18 W3 S3 e3' => ?_
    have n18 := S3.at_ 0 rfl
    have hb18 := S3.ge 0 rfl
    have f18 : ¬ F1 b18 := fun h => by have := AW.lt _ h; omega
    have kd : (Cells.vals c39 y).toArray[0]? = some (Value.int .i64 o.kind) := by rw [← o1.kind]; rfl
    have nm : (Cells.vals c39 y).toArray[2]? = some (Value.string o.name) := by rw [← o1.name]; rfl
    refine join_at (decide (o.kind ≠ 3 ∧ o.kind ≠ 6), ()) (ld_r n18 (off := 0) (x := o.kind) kd (sif_r (fun h => ld_r n18 (off := 0) (x := o.kind) kd ⟨tupb ?_, rfl⟩) fun h => ⟨tupb ?_, rfl⟩)) ?_
    · have h : ¬ o.kind = 3 := by simpa using h
      simp [h]
    · have h : o.kind = 3 := by simpa using h
      simp [h]
    refine sif_r (fun _ => ⟨k, F1, by omega, AW.ext e3', hFW, hrW, e3'.ext_get nW, eW.trans e3'⟩) fun hk9 => ?_
    have hk36 : o.kind = 3 ∨ o.kind = 6 := by
      have : ¬ (o.kind ≠ 3 ∧ o.kind ≠ 6) := of_decide_eq_false hk9
      omega
    have hok : DkOk (eD sp (k : Int)) k := ok_e (by omega) (by omega)
    have hrl := lt_of_heap nW
    refine join_r (fun z W' => ∃ (F2 : Nat → Prop) (bx : Nat) (st : Int) (op : Nm), z = (.iface 94 (.pointer (some (at0 bx))), ()) ∧ W'.heap[bx]? = some (.cells #[.string op, .string o.name, .int .i64 st, .iface 49 (.int .i64 (errR o.name))] 96 (0, 0)) ∧ DiskIn W' d F2 (eD sp ((k + 1 : Nat) : Int)) ∧ Upd F1 W3 W' ∧ (∀ k, F2 k → F1 k ∨ W3.heap.size ≤ k)) ?_ ?_
    · refine ld_r n18 (off := 0) (x := o.kind) kd (sif_r (fun h => ld_r n18 (off := 2) (x := o.name) nm (sync_call (AW.ext e3') hok (by omega) fun F4 W4 v hv hD hu hF => ?_)) fun h => ld_r n18 (off := 2) (x := o.name) nm (remove_call (AW.ext e3') hok (by omega) fun F4 W4 v hv hD hu hF => ?_))
      · rw [sync_e] at hv hD
        obtain ⟨bx, st, h1, h2, _⟩ := hv.bad (by have := errR_pos (n := o.name); dsimp only; omega)
        exact ⟨F4, bx, st, _, by rw [h1], h2, hD, hu, hF⟩
      · rw [remove_e] at hv hD
        obtain ⟨bx, st, h1, h2, _⟩ := hv.bad (by have := errR_pos (n := o.name); dsimp only; omega)
        exact ⟨F4, bx, st, _, by rw [h1], h2, hD, hu, hF⟩
    rintro _ W4 ⟨F4, bx, st, op, rfl, nx, A4, u4, hF4⟩
    dsimp only
    have hs3' := e3'.size
    have n18 := u4.get n18 f18
    have n4 := u4.get (e3'.ext_get nW) hrW
    have hr4 : ¬ F4 r := fun h => (hF4 _ h).elim hrW fun h => by omega
    have hF4' : ∀ k, F4 k → w.heap.size ≤ k := fun k hk => (hF4 k hk).elim (hFW k) fun h => by have := eW.size; omega
    have e4' : Ext w W4 := (eW.trans e3').new u4 fun k hk h => by have := hFW k h; omega
    have hz4 := u4.size
    have hrne : r ≠ bx := fun e => by rw [← e, n4] at nx; cases nx
    have hw36 : (o.kind = 3 ∧ ∃ s : Nm, s = ⟨#[115, 121, 110, 99]⟩) ∨ (o.kind = 6 ∧ ∃ s : Nm, s = ⟨#[114, 101, 109, 111, 118, 101]⟩) := hk36.imp (fun h => ⟨h, _, rfl⟩) fun h => ⟨h, _, rfl⟩
    obtain ⟨s, hs, hs'⟩ : ∃ s : Nm, ((o.kind = 3 ∧ s = ⟨#[115, 121, 110, 99]⟩) ∨ (o.kind = 6 ∧ s = ⟨#[114, 101, 109, 111, 118, 101]⟩)) ∧ (s = ⟨#[115, 121, 110, 99]⟩ ∨ s = ⟨#[114, 101, 109, 111, 118, 101]⟩) := by
      rcases hk36 with h | h
      · exact ⟨_, .inl ⟨h, rfl⟩, .inl rfl⟩
      · exact ⟨_, .inr ⟨h, rfl⟩, .inr rfl⟩
    have hep := errR_pos (n := o.name)
    have fin : ∀ {b : Nat} {W5 W6 : World}, Ext W4 W5 → Upd (fun j => j = r) W5 W6 → W6.heap[r]? = some (rbox sp ((k : Int) + 1)) → W4.heap.size ≤ b → b ≠ r → ∀ W7, Ext W6 W7 → ∀ W8, Upd (fun j => j = b) W7 W8 → ∃ (k : Nat) (F1 : Nat → Prop), k ≤ j + 1 ∧ DiskIn W8 d F1 (eD sp (k : Int)) ∧ (∀ k, F1 k → w.heap.size ≤ k) ∧ ¬ F1 r ∧ W8.heap[r]? = some (rbox sp (k : Int)) ∧ Ext w W8 := fun {b W5 W6} e5 u6 n6 hb hbr W7 e7 W8 u8 =>
      ⟨k + 1, F4, by omega, (((A4.ext e5).frame u6 fun k hk e => hr4 (e ▸ hk)).ext e7).frame u8 fun k hk e => by have := A4.lt k hk; omega, hF4', hr4, u8.get (e7.ext_get n6) hbr.symm, ((((e4'.trans e5).new u6 fun k hk e => by subst e; have := e01.size; omega).trans e7).new u8 fun k hk e => by have := e4'.size; omega)⟩
    have hrw : r < W4.heap.size := lt_of_heap n4
    have h18 : b18 < W4.heap.size := lt_of_heap n18
    refine drew_r fun W5 e5 _ => ld_r (e5.ext_get n18) (off := 0) (x := o.kind) kd (ld_r (e5.ext_get n18) (off := 2) (x := o.name) nm ⟨?_, ?_⟩)
    · refine newO_r fun b32 W6 e6 n32 hb32 _ => keep_r (cell_of ((e5.trans e6).ext_get n18) nm) (keep_r (cell_of ((e5.trans e6).ext_get n18) kd) (ref_words hs fun W7 e7 => keep_r (cell_of (((e5.trans e6).trans e7).ext_get n18) nm) ?_))
      have e47 := (e5.trans e6).trans e7
      have hz5 := e5.size
      refine ref_do (e47.ext_get n4) ⟨by omega, by omega⟩ hs' fun W8 u8 n8 => ?_
      exact rest_r (n := o.name) rfl hep (u8.get (e7.ext_get n32) (by omega)) rfl (u8.get (e47.ext_get nx) (Ne.symm hrne)) fun W9 u9 => fin e47 u8 n8 (by omega) (by omega) W8 (Ext.refl _) W9 u9
    refine ref_words hs fun W6 e6 => keep_r (cell_of ((e5.trans e6).ext_get n18) nm) ⟨?_, ?_⟩
    · refine newO_r fun b32 W7 e7 n32 hb32 _ => keep_r (cell_of (((e5.trans e6).trans e7).ext_get n18) nm) (keep_r (cell_of (((e5.trans e6).trans e7).ext_get n18) kd) ?_)
      have e47 := (e5.trans e6).trans e7
      have hz5 := e5.size
      have hz6 := e6.size
      refine ref_do (e47.ext_get n4) ⟨by omega, by omega⟩ hs' fun W8 u8 n8 => ?_
      exact rest_r (n := o.name) rfl hep (u8.get n32 (by omega)) rfl (u8.get (e47.ext_get nx) (Ne.symm hrne)) fun W9 u9 => fin e47 u8 n8 (by omega) (by omega) W8 (Ext.refl _) W9 u9
    · have e46 := e5.trans e6
      have hz5 := e5.size
      have hz6 := e6.size
      refine ref_do (e46.ext_get n4) ⟨by omega, by omega⟩ hs' fun W7 u7 n7 => newO_r fun b32 W8 e8 n32 hb32 _ => keep_r (cell_of (e8.ext_get (u7.get (e46.ext_get n18) (by omega))) nm) (keep_r (cell_of (e8.ext_get (u7.get (e46.ext_get n18) (by omega))) kd) ?_)
      have hz7 := u7.size
      exact rest_r (n := o.name) rfl hep n32 rfl (e8.ext_get (u7.get (e46.ext_get nx) (Ne.symm hrne))) fun W9 u9 => fin e46 u7 n7 (by omega) (by omega) W8 e8 W9 u9
  · rintro _ W' ⟨k', F', hk', A', hF', hr', n', e'⟩
    rw [IntWalk.i64_in _ ⟨by omega, by omega⟩]
    exact ⟨⟨j + 1, k', F', rfl, h, hk', A', hF', hr', n', e'⟩, by show ys.length - (j + 1) < ys.length - j; omega⟩
end
end Go.Proofs.Ytdabehgbhndimaa
