/- DiskRoom answers true. Conditions: arguments in memory. -/
import Derived.Test.YtdabehgbhndimaaWsy
import Derived.Test.YtdabehgbhndimaaPrm
set_option linter.unusedSimpArgs false
set_option linter.unusedVariables false
namespace Go.Proofs.Ytdabehgbhndimaa
open Go Go.Vx Dsk
section
variable {w w' w0 : World} {S P P' F F' F0 : Nat → Prop} {d : Nat} {D : Dk} {N : Nat}

/-- a disk that is not full beyond its room -/
structure RoomAt (w0 w : World) (d : Nat) (F0 : Nat → Prop) (sp : Int) (n : Nat) (F : Nat → Prop) (D : Dk) : Prop where
  A : DiskIn w d F D
  ok : DkOk D n
  fit : Fit D
  space : D.space = sp
  u : Upd F0 w0 w
  hF : ∀ k, F k → F0 k ∨ w0.heap.size ≤ k
theorem RoomAt.ext {sp : Int} {n : Nat} (h : RoomAt w0 w d F0 sp n F D) (e : Ext w w') : RoomAt w0 w' d F0 sp n F D := ⟨h.A.ext e, h.ok, h.fit, h.space, h.u.trans (Upd.of_ext e), h.hF⟩
theorem RoomAt.turn {sp : Int} {n m : Nat} {D' : Dk} (h : RoomAt w0 w d F0 sp n F D) (A : DiskIn w' d F' D') (ok : DkOk D' m) (f : Fits D D') (u : Upd F w w') (hF : ∀ k, F' k → F k ∨ w.heap.size ≤ k) : RoomAt w0 w' d F0 sp m F' D' :=
  ⟨A, ok, f.fit, f.space.trans h.space, h.u.new u fun k hk hh => (h.hF k hh).resolve_right (by have := h.u.size; omega), fun k hk => (hF k hk).elim (h.hF k) fun hh => .inr (by have := h.u.size; omega)⟩
theorem RoomAt.mono {sp : Int} {n m : Nat} (h : RoomAt w0 w d F0 sp n F D) (hm : n ≤ m) : RoomAt w0 w d F0 sp m F D := ⟨h.A, h.ok.mono hm, h.fit, h.space, h.u, h.hF⟩

/-- a picture is taken and kept in a variable -/
theorem shot_r {sp : Int} {n : Nat} (h : RoomAt w0 w d F0 sp n F D) (hn : n + 40 ≤ 2 ^ 30) {K : ((Sl × Sl × Sl × Unit) × Bool × Unit) → Nat → World → Prop}
    (hK : ∀ F' w' sh b, RoomAt w0 w' d F0 sp (n + 32) F' { D with steps := D.steps + 2 * (((names D.seen).length : Nat) : Int) } → ShotIn w' w.heap.size F' sh (names D.seen) (texts D) (stamps D) → w'.heap[b]? = some (.cells (Cells.vals c65 sh).toArray 65 (0, 0)) → Upd F w w' → (∀ k, F' k → F k ∨ w.heap.size ≤ k) → K (sh, true, ()) b w') :
    callT Try.prog 28 #[.pointer (some (at0 d))] (.tup [(.agg c65), (.one .bool)]) (fun x => newO (.cells #[(.slice none 0 0), (.slice none 0 0), (.slice none 0 0)] 65) fun b => aggSt (at0 b) (.agg (Cells.vals c65 x.1).toArray) 3 (K x b)) w := by
  refine taken_call h.A h.ok hn h.fit.q fun F1 w1 sh A1 u1 hF1 hsh => ?_
  have hnl := h.ok.seen.names.2
  have ok1 := (h.ok.at (2 * (names D.seen).length))
  have e2n : ((2 * (names D.seen).length : Nat) : Int) = 2 * (((names D.seen).length : Nat) : Int) := by omega
  rw [e2n] at ok1
  have h1 := h.turn A1 ok1 ⟨h.fit.st _, rfl⟩ u1 hF1
  refine (St.start w1).newAgg rfl rfl rfl fun b w2 S2 e2 => ?_
  exact hK F1 w2 sh b ((h1.ext e2).mono (by omega)) (hsh.step (Upd.of_ext e2) fun k hk => .inl hk) (S2.at_ 0 rfl) (u1.trans (Upd.of_ext e2)) hF1
theorem used_r {B n : Nat} {sh : Sl × Sl × Sl × Unit} (ok : DkOk D n) (h : ShotIn w B F sh (names D.seen) (texts D) (stamps D)) {K : Int → World → Prop} (hK : ∀ w', Ext w w' → K (usedBut D none) w') :
    callT Try.prog 30 #[.agg (Cells.vals c65 sh).toArray] (.one (.one (.int .i64))) K w := by
  have hl := ok.seen.names.2
  refine used_call h (by rw [(pict_len D).1]; omega) (fun t ht => ?_) fun w' e => ?_
  · unfold texts at ht
    obtain ⟨n, _, rfl⟩ := List.mem_map.1 ht
    have := (ok.fl ((D.seen n).getD 0)).1
    show (List.toArray _).size ≤ _
    rw [List.size_toArray]
    omega
  · unfold sizes; rw [sizes_used ok]; exact hK w' e

theorem opbox {b f : Nat} {y : Cells.T c39} {v : Value} (hb : w.heap[b]? = some (.cells (Cells.vals c39 y).toArray 39 (0, 0))) (hv : (Cells.vals c39 y)[f]? = some v) : (Cells.vals c39 y).toArray[f]? = some v := by simpa using hv

theorem room_walk {a0 : Int} {x : Sl} {ys : List (Cells.T c39)} {os : List DOp} (hx : OpsIn w P x ys os) (hP : ∀ k, P k → k < w.heap.size)
    {K : Bool → World → Prop} (hK : ∀ w', Ext w w' → K true w') : callT Try.prog 6 #[.int .i64 a0, .slice x.a x.len x.cap] (.one (.one .bool)) K w := by
  refine F6_calls ?_
  unfold F6
  refine fits_call hx fun bf w2 hbf e2 => sif_r (fun _ => hK _ e2) fun hb => ?_
  have hos := hbf (by simpa using hb)
  have hs2 := e2.size
  have hsp := spaceR_bd a0
  refine space_call (made_call (by omega) (by omega) fun d F0 W0 A0 e3 hF0 => ?_)
  have e03 := e2.trans e3
  have hs3 := e3.size
  have hlt0 := A0.lt
  have done : ∀ {W : World}, Upd F0 W0 W → Ext w W := fun u => e03.new u fun k hk h => by have := hF0 k h; omega
  have hPF : ∀ k, P k → k < W0.heap.size ∧ ¬ F0 k := fun k hk => ⟨by have := hP k hk; omega, fun h => by have := hP k hk; have := hF0 k h; omega⟩
  have x0 := hx.upd e03 fun _ _ h => h
  refine join_r (fun x W => x = (false, ()) ∧ ∃ F1, DiskIn W d F1 (zzD (spaceR a0)) ∧ Upd F0 W0 W ∧ ∀ k, F1 k → F0 k ∨ W0.heap.size ≤ k) (sif_false (zz_r A0 (by omega) (by omega) fun F1 W hD hu hF => ⟨rfl, F1, hD, hu, hF⟩)) ?_
  rintro _ W1 ⟨rfl, F1, A1, u1, hF1⟩
  have hxl : ys.length = x.len := hx.row.lenR (by decide)
  have hlen := hx.len
  generalize spaceR a0 = sp at *
  have ap : ∀ {n : Nat} {F2 : Nat → Prop} {W : World} {D : Dk}, RoomAt W0 W d F0 sp n F2 D → ∀ k, P k → k < W.heap.size ∧ ¬ F2 k := fun {n F2 W D} h k hk => ⟨Nat.lt_of_lt_of_le (hPF k hk).1 h.u.size, fun hh => (h.hF k hh).elim (hPF k hk).2 fun hh => by have := (hPF k hk).1; omega⟩
  have r1 : RoomAt W0 W1 d F0 sp 1 F1 (zzD sp) := ⟨A1, ok_zz hsp.1 (by omega), ⟨⟨rfl, fun _ => rfl⟩, by
    have h := used_new (D := newD sp) (D' := zzD sp) (a := zz) (g := ⟨zb, 4, 1⟩) (ok_new (by omega) (by omega)) rfl rfl rfl
    rw [h, used_empty]
    show (0 : Int) + 4 ≤ sp
    omega⟩, rfl, u1, hF1⟩
  refine sif_false (join_r (fun _ W => ∃ F2 D2, RoomAt W0 W d F0 sp 40001 F2 D2) ?_ ?_)
  · refine sloop_r (fun s W => ∃ (j : Nat) (F1 : Nat → Prop) (D1 : Dk), s = ((j : Int), ()) ∧ j ≤ ys.length ∧ RoomAt W0 W d F0 sp (1 + 40 * j) F1 D1) (fun s _ => ys.length - s.1.toNat) ⟨0, F1, _, rfl, Nat.zero_le _, r1⟩ ?_
    rintro _ W ⟨j, F1, D1, rfl, hj, rW⟩
    dsimp only
    refine sif_r (fun h => ?_) fun h => ?_
    · have h : j < ys.length := by have := of_decide_eq_true h; omega
      refine join_r (fun _ W' => ∃ F2 D2, RoomAt W0 W' d F0 sp (1 + 40 * j + 36) F2 D2) ?_ ?_
      · obtain ⟨y, hy⟩ : ∃ y, ys[j]? = some y := ⟨_, List.getElem?_eq_getElem h⟩
        obtain ⟨o, ho⟩ : ∃ o, os[j]? = some o := ⟨_, List.getElem?_eq_getElem (by omega)⟩
        have xW := x0.upd rW.u fun k hk => (hPF k hk).2
        have o1 := xW.at_ j y o hy ho
        refine ix_ldsX (cs := c39) xW.row (by decide) (by omega) (by simpa using hy) fun _ => ?_
        refine (St.start W).newAgg rfl rfl rfl fun b18 W2 S2 e2' => ?_
        have n18 := S2.at_ 0 rfl
        have r2 := rW.ext e2'
        have o2 := o1.upd (Upd.of_ext e2') fun _ _ h => h
        have pF := ap r2
        refine join_r (fun z W' => z = (decide (o.kind = 11 ∨ o.kind = 10), ()) ∧ W' = W2) (ld_r n18 (off := 0) (x := o.kind) (by rw [← o1.kind]; rfl) (sif_r (fun h => ⟨tupb ?_, rfl⟩) fun h => ld_r n18 (off := 0) (x := o.kind) (by rw [← o1.kind]; rfl) ⟨tupb ?_, rfl⟩)) ?_
        · have h : o.kind = 11 := by simpa using h
          simp [h]
        · have h : ¬ o.kind = 11 := by simpa using h
          by_cases h' : o.kind = 10 <;> simp [h, h']
        rintro _ _ ⟨rfl, rfl⟩
        refine sif_r (fun _ => ⟨F1, D1, r2.mono (by omega)⟩) fun hk => ?_
        have hk : ¬ (o.kind = 11 ∨ o.kind = 10) := of_decide_eq_false hk
        have hk10 : o.kind ≠ 10 := fun h => hk (.inr h)
        have hk11 : o.kind ≠ 11 := fun h => hk (.inl h)
        refine ld_r n18 (off := 0) (x := o.kind) (by rw [← o1.kind]; rfl) (sif_r (fun h2 => ?_) fun _ => ?_)
        · refine drew_r fun w3 e3' _ => ld_r (e3'.ext_get n18) (off := 2) (x := o.name) (by rw [← o1.name]; rfl) (ld_r (e3'.ext_get n18) (off := 4) (x := y.2.2.2.2.1) rfl ?_)
          have hbl := o2.b.len1
          rw [List.length_map] at hbl
          have hlb := o1.lb
          refine append_rx EB uB (B := w3.heap.size) (s := ⟨none, 0, 0⟩) (vs := []) (SlOwn.nil _ _ _ _) (o2.b.ext e3') (bv_one _) (by dsimp only; omega) (Nat.le_refl _) fun x9 w4 h4 hl4 u4 hb4 => ?_
          have e4 : Ext w3 w4 := u4.mono fun k _ h => by obtain ⟨q, hq, _⟩ := h; cases hq
          have r4 := r2.ext (e3'.trans e4)
          have hz3 := e3'.size
          have hz4 := e4.size
          have hlt := r2.A.lt
          have n18' := (e3'.trans e4).ext_get n18
          refine keep_r (cell_of n18' (by rw [← o1.name]; rfl)) (append_call r4.A r4.ok (by omega) (l := o.b) h4.in.x (fun k hk => ⟨h4.in.blk_lt hk, fun hF => by have := hlt k hF; have := h4.blk_ge hk; omega⟩) fun F5 w5 v hv hD hu hF => ?_)
          obtain ⟨f1, f2, f3, f4, f5⟩ := fits_append r4.ok r4.fit o.name o.b
          have r5 := r4.turn hD (ok_callAppend r4.ok _ _) f1 hu hF
          have b18F : ¬ F1 b18 := fun h => by have := rW.A.lt _ h; have := S2.ge 0 rfl; omega
          have n18'' := hu.get n18' b18F
          generalize hr : callAppend D1 o.name o.b = r at hv hD f1 f2 f3 f4 f5 r5
          obtain ⟨D5, e5, k5⟩ := r
          dsimp only at hv f1 f2 f3 f4 f5 r5
          refine join_r (fun z W' => z = (false, ()) ∧ W' = w5) (sif_r (fun h => absurd (of_decide_eq_true h) (by dsimp only; omega)) fun _ => ld_r n18'' (off := 4) (x := y.2.2.2.2.1) rfl (sif_r (fun h => absurd (of_decide_eq_true h) (by dsimp only; omega)) fun _ => told_eq hv.told (sif_r (fun h => ld_r n18'' (off := 4) (x := y.2.2.2.2.1) rfl ⟨tupb ?_, rfl⟩) fun _ => ⟨rfl, rfl⟩))) ?_
          · have h : e5 = 0 := by simpa using h
            have : k5 = o.b.length := f4 h
            simp; omega
          rintro _ _ ⟨rfl, rfl⟩
          refine sif_false (shot_r r5 (by omega) fun F6 w6 sh b34 r6 sh6 n34 u6 _ => ?_)
          have n18''' : w6.heap[b18]? = some (.cells (Cells.vals c39 y).toArray 39 (0, 0)) := u6.get n18'' fun h => (hF _ h).elim b18F fun h => by have := lt_of_heap n18'; omega
          refine join_r (fun z W' => z = (false, ()) ∧ Ext w6 W') (sif_false (sif_r (fun h1 => ld_r n18''' (off := 4) (x := y.2.2.2.2.1) rfl (sif_r (fun h2 => ?_) fun _ => ⟨rfl, Ext.refl _⟩)) fun _ => ⟨rfl, Ext.refl _⟩)) ?_
          · refine lds_r (cs := c65) (x := sh) (c := (Cells.vals c65 sh).toArray) n34 (fun i v hv => by rw [Nat.zero_add, List.getElem?_toArray]; exact hv) ?_
            refine used_r r5.ok sh6 fun w7 e7 => ⟨tupb ?_, e7⟩
            have h1 := of_decide_eq_true h1
            have h2 := of_decide_eq_true h2
            have h1 : 0 < k5 := h1
            have h2 : k5 < ((y.2.2.2.2.1.len : Nat) : Int) := h2
            rw [f5 h1 (by dsimp only at *; omega), ← f1.space, r5.space]
            simp
          · rintro _ w7 ⟨rfl, e7⟩
            exact sif_false ⟨F6, _, (r6.ext e7).mono (by omega)⟩
        · refine lds_r (cs := c39) (x := y) (c := (Cells.vals c39 y).toArray) n18 (fun i v hv => by rw [Nat.zero_add, List.getElem?_toArray]; exact hv) ?_
          refine do_call r2.A r2.ok (by omega) o2 pF fun F3 w3 hD hu hF => ?_
          have r3 := r2.turn hD (ok_do r2.ok o) (fits_do r2.ok r2.fit hk10 hk11) hu hF
          generalize (doOp o D1).1 = D3 at hD r3
          refine shot_r r3 (by omega) fun F4 w4 sh b43 r4 sh4 n43 _ _ => ?_
          refine join_r (fun z W' => z = (false, ()) ∧ Ext w4 W') (sif_false ?_) ?_
          · refine lds_r (cs := c65) (x := sh) (c := (Cells.vals c65 sh).toArray) n43 (fun i v hv => by rw [Nat.zero_add, List.getElem?_toArray]; exact hv) ?_
            refine used_r r3.ok sh4 fun w5 e5 => sif_r (fun h => absurd (of_decide_eq_true h) (by have := r3.fit.le; have := r3.space; omega)) fun _ => ?_
            refine ld_r (e5.ext_get n43) (off := 0) (x := sh.1) rfl ⟨tupb ?_, e5⟩
            have := sh4.n.len1
            rw [List.length_map] at this
            have := r3.ok.seen.names.2
            simp; omega
          · rintro _ w5 ⟨rfl, e5⟩
            exact sif_false ⟨F4, _, (r4.ext e5).mono (by omega)⟩
      · rintro _ W' ⟨F2, D2, r⟩
        rw [IntWalk.i64_in _ ⟨by omega, by omega⟩]
        exact ⟨⟨j + 1, F2, D2, rfl, h, r.mono (by omega)⟩, by show ys.length - (j + 1) < ys.length - j; omega⟩
    · exact ⟨F1, D1, rW.mono (by omega)⟩
  · rintro _ W2 ⟨F2, D2, r2⟩
    refine shot_r r2 (by omega) fun F3 w3 sh b50 r3 sh3 n50 _ _ => sif_true ?_
    refine lds_r (cs := c65) (x := sh) (c := (Cells.vals c65 sh).toArray) n50 (fun i v hv => by rw [Nat.zero_add, List.getElem?_toArray]; exact hv) ?_
    refine used_r r2.ok sh3 fun w4 e4 => ?_
    have : decide (usedBut D2 none ≤ sp) = true := decide_eq_true (by have := r2.fit.le; have := r2.space; omega)
    rw [this]
    exact hK w4 (done (r3.u.trans (Upd.of_ext e4)))
end
end Go.Proofs.Ytdabehgbhndimaa
