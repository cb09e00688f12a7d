/- The law holds for every input: it returns true, and each argument reads behind the call as it did. Conditions: those of the form alone. -/
import Derived.Test.YtmooldhpiopcgaaGreatDoorSCo5
set_option linter.unusedVariables false
set_option linter.unusedSimpArgs false
set_option linter.unusedSectionVars false
set_option linter.unusedSimpArgs false
set_option linter.unusedVariables false
set_option maxRecDepth 100000
namespace Go.Proofs.YtmooldhpiopcgaaGreatDoor
namespace Dq
open Go Go.Vx Dsk Cdc Trx
section
variable {w w' : World} {S F F' : Nat → Prop} {d : Nat} {D : Dk} {N : Nat} {g : List UInt8 → Int} {fs : Fls} {n : Nm} {enc : Int} {X : Fil} {lod : Lod} {V : Vw} {b : List UInt8}
section
variable {st f : Nat} {sm sd so : Sl} {new was : Bool} {dat old : List UInt8} {B : Nat} {p : Nat} {e : Enc} {O : Nat → Prop} {M : Parts} {l : List UInt8} {w0 : World} {q : Nat} {kn : Stm} {X' : Fil} {D' : Dk} {N' : Nat}
structure Sta (w0 w : World) (q : Nat) (kn : Stm) (p : Nat) (e : Enc) (O : Nat → Prop) (M : Parts) (l : List UInt8) (st d f : Nat) (F : Nat → Prop) (D : Dk) (N : Nat) (X : Fil) (sm sd so : Sl) (enc : Int) (new was : Bool) (dat old : List UInt8) : Prop where
  s : Stg w st d f F D N X sm sd so enc new was dat old w0.heap.size
  t : TxOn w p e O M F f l
  e : Ext w0 w
  m : w.heap[q]? = some (.cells (Cells.vals c57 (stT kn)).toArray 57 (0, 0))
theorem Sta.ext (h : Sta w0 w q kn p e O M l st d f F D N X sm sd so enc new was dat old) (u : Ext w w') : Sta w0 w' q kn p e O M l st d f F D N X sm sd so enc new was dat old := ⟨h.s.ext u, h.t.ext u, h.e.trans u, u.ext_get h.m⟩
theorem Sta.nF (h : Sta w0 w q kn p e O M l st d f F D N X sm sd so enc new was dat old) : ¬ F q := fun hh => h.s.disk.no (t := 57) (fun _ => rfl) q hh _ _ h.m
theorem Sta.nf (h : Sta w0 w q kn p e O M l st d f F D N X sm sd so enc new was dat old) : q ≠ f := fun hh => by have := h.s.file.at_.box; rw [← hh, h.m] at this; cases this
theorem Sta.next (h : Sta w0 w q kn p e O M l st d f F D N X sm sd so enc new was dat old) (A : DS w' d F' D' N') (hX : FS w' f d X' sm F') (hm : X'.mark = X.mark) (u : Upd (fun k => F k ∨ k = f) w w') (hF : ∀ k, F' k → F k ∨ w.heap.size ≤ k) : Sta w0 w' q kn p e O M l st d f F' D' N' X' sm sd so enc new was dat old :=
  ⟨h.s.next A hX hm u hF, ⟨h.t.txt.upd u (fun k hk hh => hh.elim (h.t.no k hk).1 (h.t.no k hk).2) (fun k hk c fr hc => by
      rcases hk with hk | hk
      · exact h.s.disk.no (fun _ => rfl) k hk c fr hc
      · rw [hk, h.s.file.at_.box] at hc; cases hc), h.t.is, fun k hk => ⟨fun hh => (hF k hh).elim (h.t.no k hk).1 fun hl => by have := h.t.txt.own k hk; omega, (h.t.no k hk).2⟩⟩,
    h.e.step u fun k hk => hk.elim (h.s.lF k) fun hh => by rw [hh]; exact h.s.lf, u.get h.m fun hh => hh.elim h.nF h.nf⟩
theorem Sta.turn (h : Sta w0 w q kn p e O M l st d f F D N X sm sd so enc new was dat old) (A : DS w' d F' D' N') (u : Upd F w w') (hF : ∀ k, F' k → F k ∨ w.heap.size ≤ k) : Sta w0 w' q kn p e O M l st d f F' D' N' X sm sd so enc new was dat old :=
  h.next A (h.s.file.step h.s.disk u hF) rfl (u.mono fun k _ hk => .inl hk) hF
theorem Sta.mono (h : Sta w0 w q kn p e O M l st d f F D N X sm sd so enc new was dat old) (hN : N ≤ N') : Sta w0 w q kn p e O M l st d f F D N' X sm sd so enc new was dat old := ⟨h.s.mono hN, h.t, h.e, h.m⟩
theorem Sta.saved (h : Sta w0 w q kn p e O M l st d f F D N X sm sd so enc new was dat old) (s' : Stg w' st d f F' D' N' X' sm sd so enc new was dat old w0.heap.size) (t' : TxOn w' p e O M F' f l) (u : Upd (fun k => F k ∨ k = f) w w') : Sta w0 w' q kn p e O M l st d f F' D' N' X' sm sd so enc new was dat old :=
  ⟨s', t', h.e.step u fun k hk => hk.elim (h.s.lF k) fun hh => by rw [hh]; exact h.s.lf, u.get h.m fun hh => hh.elim h.nF h.nf⟩
theorem Sta.own (h : Sta w0 w q kn p e O M l st d f F D N X sm sd so enc new was dat old) (s' : Stg w' st d f F' D' N' X sm sd so enc new was dat old w0.heap.size) (u : Upd F w w') (hF : ∀ k, F' k → F k ∨ w.heap.size ≤ k) : Sta w0 w' q kn p e O M l st d f F' D' N' X sm sd so enc new was dat old :=
  ⟨s', h.t.turn h.s.disk u hF, h.e.step u fun k hk => h.s.lF k hk, u.get h.m h.nF⟩
end
set_option maxHeartbeats 4000000 in
theorem copied_walk (hl : LaidE w) {x : Cells.T c39} {rows : List (Cells.T c65)} {data : List UInt8} (h : Scn w x rows fs data) {nm : Nm} (hnm : nm.size < 2 ^ 62) {force : Bool} {K : Bool → World → Prop} (hK : ∀ w', Ext w w' → K true w') :
    callT Tryz.prog 7 #[.agg (scells x), .string nm, .bool force] (.one (.one .bool)) K w := by
  refine F7_calls (a0 := x) ?_
  unfold F7
  refine newO_r fun b1 w1 e1 n1 hb1 hz1 => able_call (hl.ext e1) fun w2 e2 => sif_r (fun h => by cases h) fun _ => ?_
  have n1 : w1.heap[b1]? = some (.cells (scells x) 39 (0, 0)) := n1
  have sl : ∀ {W : World}, W.heap[b1]? = some (.cells (scells x) 39 (0, 0)) → ∀ {K : Cells.T c39 → World → Prop}, K x W → lds c39 (at0 b1) K W := fun hb _ hk =>
    lds_r (x := x) hb (fun i v hv => by rw [Nat.zero_add, ← Array.getElem?_toList]; exact hv) hk
  refine join_r (fun y W => ∃ b : Bool, y = (b, ()) ∧ (b = false → smallP fs x.2.1 x.2.2.1 data = true ∧ userName nm = true ∧ nm ≠ x.2.1) ∧ Ext w2 W) ?_ ?_
  · refine sl (e2.ext_get n1) (small_call ((h.ext e1).ext e2) fun w3 e3 => sif_r (fun _ => ⟨true, rfl, (fun hh => by cases hh), e3⟩) fun hs => named_call hnm (sif_r (fun _ => ⟨true, rfl, (fun hh => by cases hh), e3⟩) fun hu => ?_))
    refine ld_r (e3.ext_get (e2.ext_get n1)) (off := 1) (x := x.2.1) rfl ⟨_, rfl, fun hh => ⟨by simpa using hs, by simpa using hu, ?_⟩, e3⟩
    rw [bytes_eq] at hh
    exact of_decide_eq_false hh
  rintro _ w3 ⟨bq, rfl, hbq, e3⟩
  have e13 := e2.trans e3
  refine sif_r (fun _ => hK _ (e1.trans e13)) fun hh => ?_
  obtain ⟨hs, hun, hne⟩ := hbq hh
  obtain ⟨hu, he, hdl, hfl, hfs⟩ := small_all hs
  obtain ⟨hn, hsn⟩ := side_ok hu
  obtain ⟨hnn, hnsn⟩ := side_ok hun
  have hnz : nm.size ≤ 2 ^ 40 := by
    have := hun
    unfold userName at this
    simp only [Bool.and_eq_true, decide_eq_true_eq] at this
    have := this.1.2
    omega
  have h3 := (h.ext e1).ext e13
  have n3 := e13.ext_get n1
  have fin : ∀ {W : World}, Ext w3 W → Ext w W := fun e => (e1.trans e13).trans e
  clear e2 e3
  refine sl n3 (set_call ((hl.ext e1).ext e13) h3 hs fun w4 st d f F D X sm sd so lod e4 hst hS => sif_r (fun h => by cases h) fun _ => ?_)
  obtain ⟨hm1, hm2⟩ := hS.mark_is
  have hm3 := hS.mark3
  have hold := old_le (fun f hf => (hfs f hf).2) x.2.1
  have hXn := hS.name
  have h4 := h3.ext e4
  have hsl := h4.files.slen
  refine join_r (fun y W => ∃ th : Sl, y = ((viewOf fs nm).isSome, th, ()) ∧ Ext w4 W ∧ Bytes w3 th ((viewOf fs nm).getD [])) ?_ ?_
  · refine sloop_r (fun s W => ∃ (i : Nat) (th : Sl), s = ((viewOf (fs.take i) nm).isSome, th, (i : Int), ()) ∧ i ≤ fs.length ∧ Ext w4 W ∧ Bytes w3 th ((viewOf (fs.take i) nm).getD [])) (fun s _ => fs.length - s.2.2.1.toNat) ⟨0, ⟨none, 0, 0⟩, rfl, Nat.zero_le _, Ext.refl _, ⟨.inl ⟨rfl, rfl⟩⟩⟩ ?_
    rintro _ W ⟨i, th, rfl, hi, eW, hth⟩
    dsimp only
    have nW := eW.ext_get (e4.ext_get n3)
    refine ld_r nW (off := 0) (x := x.1) rfl (sif_r (fun hlt => ?_) fun hge => ?_)
    · have hlt : i < fs.length := by have := of_decide_eq_true hlt; omega
      obtain ⟨t, r, fl, hin, hr, hf, g1, g2, g3, g4⟩ := (h4.files.ext eW).in_ hlt
      obtain ⟨_, r0, fl0, _, hr0, hf0, _, g20, _, _⟩ := h3.files.in_ hlt
      obtain rfl : r = r0 := Option.some.inj (hr.symm.trans hr0)
      obtain rfl : fl = fl0 := Option.some.inj (hf.symm.trans hf0)
      have hvs : viewOf (fs.take (i + 1)) nm = if nm = fl.1 then some fl.2 else viewOf (fs.take i) nm := by rw [view_succ hf]; rfl
      have ei : IntKind.wrap .i64 ((i : Int) + 1) = ((i + 1 : Nat) : Int) := by rw [wrap64 (by omega) (by omega)]; omega
      rw [ei]
      refine join_r (fun y W' => ∃ th' : Sl, y = ((viewOf (fs.take (i + 1)) nm).isSome, th', ()) ∧ Ext w4 W' ∧ Bytes w3 th' ((viewOf (fs.take (i + 1)) nm).getD [])) ?_ ?_
      · refine ld_r nW (off := 0) (x := x.1) rfl (name_ld hin hr fun _ => ?_)
        rw [g1, bytes_eq]
        refine sif_r (fun hq => ?_) fun hq => ?_
        · have hq : fl.1 = nm := of_decide_eq_true hq
          rw [if_pos hq.symm] at hvs
          refine ld_r nW (off := 0) (x := x.1) rfl (data_ld hin hr fun _ => ⟨r.2.1, by rw [hvs]; rfl, eW, by rw [hvs]; exact g20⟩)
        · have hq : fl.1 ≠ nm := of_decide_eq_false hq
          rw [if_neg fun hh => hq hh.symm] at hvs
          exact ⟨th, by rw [hvs], eW, by rw [hvs]; exact hth⟩
      · rintro _ W' ⟨th', rfl, eW', hth'⟩
        refine ⟨⟨i + 1, th', rfl, by omega, eW', hth'⟩, ?_⟩
        show fs.length - ((i + 1 : Nat) : Int).toNat < fs.length - (i : Int).toNat
        omega
    · have hge : ¬ i < fs.length := by have := of_decide_eq_false hge; omega
      obtain rfl : i = fs.length := by omega
      rw [List.take_of_length_le (Nat.le_refl _)] at hth ⊢
      exact ⟨th, rfl, eW, hth⟩
  rintro _ w5 ⟨th, rfl, e5, hth⟩
  dsimp only
  have hst5 := hst.ext e5
  have e35 := e4.trans e5
  refine ld_r (e35.ext_get n3) (off := 3) (x := x.2.2.2.1) rfl (text_call hst5 hS.rng (h4.ext e5).data (by omega) fun w6 p e O M hT hM e6 hO => nn_some ?_)
  have st6 := hst5.ext e6
  have e36 := e35.trans e6
  have z5 := e5.size
  have t6 : TxOn w6 p e O M F f data := ⟨hT, hM, fun k hk => by
    have h1 := hO k hk
    exact ⟨fun hh => by have := hst5.disk.lt k hh; omega, fun hh => by have := lt_of_heap hst5.file.at_.box; omega⟩⟩
  rw [addr_add]
  refine ld_r st6.box (off := 0 + 1) (x := some (at0 f)) rfl (fstamp_call st6.file.at_ fun w7 e7 => newO_r fun b29 w8 e8 n8 hb29 hz8 => aggSt_r n8 rfl rfl (by decide) fun w9 u9 n9 z9 => sif_r (fun h => by cases h) fun _ => ?_)
  have n9 : w9.heap[b29]? = some (.cells (Cells.vals c57 (stT X.known)).toArray 57 (0, 0)) := n9
  have z7 := e7.size
  have e69 : Ext w6 w9 := (e7.trans e8).step u9 fun k hk => by omega
  have st9 := st6.ext e69
  have t9 := t6.ext e69
  have e39 := e36.trans e69
  have kn : ∀ {W : World} {fr : Nat × Nat}, W.heap[b29]? = some (.cells (Cells.vals c57 (stT X.known)).toArray 57 fr) → ∀ {K : Cells.T c57 → World → Prop}, K (stT X.known) W → lds c57 (at0 b29) K W := fun hb _ hk =>
    lds_r (x := stT X.known) hb (fun i v hv => stm_at i v hv) hk
  have hview : ∀ m b, viewOf fs m = some b → b.length ≤ 60003 := fun m b hb => by have := view_all (P := fun _ b => b.length ≤ 60000) (fun f hf => (hfs f hf).2) m b hb; omega
  have hvs : ∀ m, viewOf fs (side m) = none := view_side (fun f hf => (hfs f hf).1)
  have hwh : ((viewOf fs x.2.1).getD []).take X.mark.length ++ data = X.mark ++ data := by rw [← hm1]
  have hlie : Lie (fun k => k < w3.heap.size) th := SlX.lie hth
  have htl : ((viewOf fs nm).getD []).length ≤ 60003 := by
    cases hv : viewOf fs nm with
    | none => exact Nat.zero_le _
    | some b => exact hview _ _ hv
  have hz := e39.size
  have a9 : Sta w3 w9 b29 X.known p e O M data st d f F D 40 X sm sd so lod.enc lod.new (viewOf fs x.2.1).isSome lod.data ((viewOf fs x.2.1).getD []) := ⟨st9, t9, e39, n9⟩
  clear st9 t9 e39 n9 e69 e36 st6 t6 e35 hst5
  have hk0 : viewOf fs x.2.1 = none → X.known = (0, 0, 0) := fun hv => by
    rw [hS.known]; unfold stampOf; rw [hS.sol.none_iff.2 hv]
  refine nn_some ?_
  rw [addr_add]
  refine ld_r a9.s.box (off := 0 + 1) (x := some (at0 f)) rfl (as_call a9.s.disk (by omega) a9.s.file hnz fun F10 w10 A10 X10 u10 hF10 => ?_)
  have hm10 : (asP D X nm).2.2.mark = X.mark := by
    unfold asP
    dsimp only
    repeat' split
    all_goals rfl
  have a10 := a9.next A10 X10 hm10 u10 hF10
  refine join_r (fun y W => y = (false, ()) ∧ w10 = W) ?_ ?_
  · refine rdB_neqb u4b ?_
    cases hv : viewOf fs nm with
    | none =>
      rw [as_new hS.sol hun hv]
      exact sif_r (fun hh => by cases hh) fun _ => sif_r (fun _ => ⟨rfl, rfl⟩) fun hh => by cases hh
    | some b =>
      rw [as_there hS.sol hun (by rw [hv]; simp)]
      exact sif_r (fun hh => by cases hh) fun _ => sif_r (fun hh => by cases hh) fun _ => ⟨rfl, rfl⟩
  rintro _ _ ⟨rfl, rfl⟩
  refine sif_false ?_
  obtain ⟨nX, hnX⟩ : ∃ nX : Fil, nX = ⟨nm, X.mark, (0, 0, 0), (0, 0, 0)⟩ := ⟨_, rfl⟩
  obtain ⟨oX, hoX⟩ : ∃ oX : Fil, oX = ⟨x.2.1, X.mark, (0, 0, 0), (0, 0, 0)⟩ := ⟨_, rfl⟩
  refine join_r (fun y W => y = (false, ()) ∧ ∃ F' k X2, Sta w3 W b29 X.known p e O M data st d f F' { D with steps := k } 60 X2 sm sd so lod.enc lod.new (viewOf fs x.2.1).isSome lod.data ((viewOf fs x.2.1).getD []) ∧
      (((asP D X nm).2.1 = 163 ∧ viewOf fs nm ≠ none ∧ X2 = X) ∨ ((asP D X nm).2.1 = 0 ∧ viewOf fs nm = none ∧ viewOf fs x.2.1 ≠ none ∧ X2 = nX) ∨ ((asP D X nm).2.1 = 0 ∧ viewOf fs nm = none ∧ viewOf fs x.2.1 = none ∧ X2 = oX))) ?_ ?_
  · refine drew_r fun W1 q1 _ => ?_
    have a11 := a10.ext q1
    cases hv : viewOf fs nm with
    | some b =>
      have has := as_there (X := X) hS.sol hun (by rw [hv]; simp)
      rw [has] at a11 ⊢
      exact sif_r (fun hh => by cases hh) fun _ => ⟨rfl, F10, _, X, a11.mono (by omega), .inl ⟨rfl, by simp, rfl⟩⟩
    | none =>
      have has := as_new (X := X) hS.sol hun hv
      rw [has, ← hnX] at a11
      rw [has]
      refine sif_r (fun _ => nn_some ?_) fun hh => by cases hh
      rw [addr_add]
      have hz0 : nX.known = (0, 0, 0) := by rw [hnX]
      refine ld_r a11.s.box (off := 0 + 1) (x := some (at0 f)) rfl (fstamp_call a11.s.file.at_ fun W2 q2 => ?_)
      rw [hz0]
      refine stm_ne (a := (0, 0, 0)) (b := (0, 0, 0)) ?_
      refine sif_r (fun hh => absurd rfl (of_decide_eq_true hh)) fun _ => nn_some ?_
      rw [addr_add]
      have a12 := a11.ext q2
      refine ld_r a12.s.box (off := 0 + 1) (x := some (at0 f)) rfl (ld_r (a12.e.ext_get n3) (off := 1) (x := x.2.1) rfl (nn_some ?_))
      rw [addr_add]
      refine ld_r a12.s.box (off := 0 + 7) (x := (viewOf fs x.2.1).isSome) rfl ?_
      refine as_call a12.s.disk (by omega) a12.s.file (by
        have := hu
        unfold userName at this
        simp only [Bool.and_eq_true, decide_eq_true_eq] at this
        have := this.1.2
        omega) fun F13 w13 A13 X13 u13 hF13 => ?_
      have hm13 : (asP { D with steps := D.steps + 1 } nX x.2.1).2.2.mark = nX.mark := by
        unfold asP
        dsimp only
        repeat' split
        all_goals rfl
      have a13 := a12.next A13 X13 hm13 u13 hF13
      refine keep_r (cell_of (off := 0 + 7) a13.s.box rfl) (rdB_neqb u4b ?_)
      have sol1 : Sol { D with steps := D.steps + 1 } (viewOf fs) := hS.sol.st _
      cases hv2 : viewOf fs x.2.1 with
      | some b =>
        have has2 := as_there (X := nX) sol1 hu (by rw [hv2]; simp)
        rw [has2] at a13 ⊢
        rw [hv2] at a13
        exact ⟨rfl, F13, _, nX, a13.mono (by omega), .inr (.inl ⟨rfl, rfl, by simp, rfl⟩)⟩
      | none =>
        have has2 := as_new (X := nX) sol1 hu hv2
        rw [has2] at a13 ⊢
        rw [hv2] at a13
        have : (⟨x.2.1, nX.mark, (0, 0, 0), (0, 0, 0)⟩ : Fil) = oX := by rw [hoX, hnX]
        rw [this] at a13
        exact ⟨rfl, F13, _, oX, a13.mono (by omega), .inr (.inr ⟨rfl, rfl, rfl, rfl⟩)⟩
  rintro _ w14 ⟨rfl, F14, k14, X2, a14, hcase⟩
  refine sif_false ?_
  have sol14 : Sol { D with steps := k14 } (viewOf fs) := hS.sol.st _
  have hm14 : X2.mark = X.mark := by
    rcases hcase with ⟨_, _, rfl⟩ | ⟨_, _, _, rfl⟩ | ⟨_, _, _, rfl⟩
    · rfl
    · rw [hnX]
    · rw [hoX]
  refine join_r (fun y W => y = (decide (viewOf fs nm = none ∧ viewOf fs x.2.1 ≠ none), ()) ∧ w14 = W) ?_ ?_
  · rcases hcase with ⟨h1, h2, _⟩ | ⟨h1, h2, h3, _⟩ | ⟨h1, h2, h3, _⟩
    · rw [h1, decide_eq_false (fun hh => h2 hh.1)]
      exact sif_r (fun hh => by cases hh) fun _ => ⟨rfl, rfl⟩
    · rw [h1, decide_eq_true ⟨h2, h3⟩]
      refine sif_r (fun _ => nn_some ?_) fun hh => by cases hh
      rw [addr_add]
      refine ld_r a14.s.box (off := 0 + 7) (x := (viewOf fs x.2.1).isSome) rfl ⟨?_, rfl⟩
      cases hv2 : viewOf fs x.2.1 with
      | none => exact absurd hv2 h3
      | some b => rfl
    · rw [h1, decide_eq_false (fun hh => hh.2 h3)]
      refine sif_r (fun _ => nn_some ?_) fun hh => by cases hh
      rw [addr_add]
      refine ld_r a14.s.box (off := 0 + 7) (x := (viewOf fs x.2.1).isSome) rfl ⟨?_, rfl⟩
      rw [h3]; rfl
  rintro _ _ ⟨rfl, rfl⟩
  have hnm14 : (Dsk.names ({ D with steps := k14 } : Dk).seen).length ≤ 14 := hS.names
  have hsp14 : ({ D with steps := k14 } : Dk).space = 1048576 := hS.space
  have hwl : (X.mark ++ data).length ≤ 60003 := by rw [List.length_append]; omega
  refine sif_r (fun hc => ?_) fun hc => ?_
  · obtain ⟨c1, c2⟩ := of_decide_eq_true hc
    obtain rfl : X2 = nX := by
      rcases hcase with ⟨_, h2, _⟩ | ⟨_, _, _, h4⟩ | ⟨_, _, h3, _⟩
      · exact absurd c1 h2
      · exact h4
      · exact absurd h3 c2
    have hnn2 : X2.name = nm := by rw [hnX]
    have hsn : ({ D with steps := k14 } : Dk).seen nm = none := sol14.none_iff.2 c1
    have hst0 : stampOf { D with steps := k14 } nm = (0, 0, 0) := by unfold stampOf; rw [hsn]
    obtain ⟨cc, g1, g2, g3, g4, g5⟩ := sol_save (X := X2) (b := data) (force := false) sol14 a14.s.disk.ok hsp14 (.inl hnm14) (by rw [hnn2]; exact hun) hview (by rw [hnn2]; exact hvs nm) (by rw [hm14]; exact hm3) (by omega) (.inr (by
      unfold knownAt
      rw [hnn2, hst0, if_neg (fun hh => hh.1 hsn), hnX]))
    rw [hnn2, hm14] at g3
    refine drew_r fun W1 q1 _ => nn_some ?_
    rw [addr_add]
    have a15 := a14.ext q1
    refine ld_r a15.s.box (off := 0 + 1) (x := some (at0 f)) rfl (saveT a15.s a15.t (by omega) fun F16 w16 s16 t16 u16 hF16 => ?_)
    have a16 := a15.saved s16 t16 u16
    have hm16 : (saveP { D with steps := k14 } X2 data false).2.2.mark = X.mark := saveP_same.1.trans hm14
    rw [g1]
    refine sif_r (fun _ => nn_some ?_) fun hh => by cases hh
    refine ld_r a16.s.box (off := 0) (x := some (at0 d)) rfl (ld_r (a16.e.ext_get n3) (off := 3) (x := x.2.2.2.1) rfl (whole_call a16.s (by rw [hm16]; exact hm2) (by omega) (h3.ext a16.e).data (by omega) fun w17 s17 o17 q17 => keep_r (cell_of (off := 0) (q17.ext_get a16.s.box) rfl) ?_))
    rw [hm16, hwh] at o17
    have a17 := a16.ext q17
    refine holds_call a17.s.disk (by omega) o17.in.x (by omega) (.inr fun k hk hf => by have := o17.blk_ge hk; have := a16.s.disk.lt k hf; omega) fun F18 w18 A18 u18 hF18 => ?_
    rw [read_sol g3 hnn vset_at] at A18 ⊢
    have a18 := a17.turn A18 u18 hF18
    refine sif_r (fun _ => nn_some ?_) fun hh => by simp at hh
    refine ld_r a18.s.box (off := 0) (x := some (at0 d)) rfl (ld_r (a18.e.ext_get n3) (off := 1) (x := x.2.1) rfl (nn_some ?_))
    rw [addr_add]
    refine ld_r a18.s.box (off := 0 + 6) (x := so) rfl (holds_call a18.s.disk (by omega) a18.s.old.in.x (by omega) (.inr fun k hk => a18.s.oF k hk) fun F19 w19 A19 u19 hF19 => ?_)
    have hold2 : vset (viewOf fs) nm (some (X.mark ++ data)) x.2.1 = some ((viewOf fs x.2.1).getD []) := by
      rw [vset_ne fun hh => hne hh.symm]
      cases hv2 : viewOf fs x.2.1 with
      | none => exact absurd hv2 c2
      | some b => rfl
    rw [read_sol (g3.st _) hn hold2] at A19 ⊢
    have a19 := a18.turn A19 u19 hF19
    rw [decide_eq_true (And.intro rfl rfl)]
    exact hK _ (fin a19.e)
  have hc := of_decide_eq_false hc
  have hX2 : X2.name = x.2.1 ∧ X2.known = X.known := by
    rcases hcase with ⟨_, _, rfl⟩ | ⟨_, h2, h3, _⟩ | ⟨_, _, h3, rfl⟩
    · exact ⟨hXn, rfl⟩
    · exact absurd ⟨h2, h3⟩ hc
    · rw [hoX]; exact ⟨rfl, (hk0 h3).symm⟩
  obtain ⟨hX2n, hX2k⟩ := hX2
  refine nn_some ?_
  rw [addr_add]
  refine ld_r a14.s.box (off := 0 + 1) (x := some (at0 f)) rfl ?_
  refine copy_call a14.s.disk (by omega) a14.t.txt a14.t.no a14.s.file hnz (by rw [hX2n]; exact hne) fun F16 w16 A16 X16 u16 hF16 => ?_
  rw [a14.t.is] at A16 ⊢
  have a16 := a14.turn A16 u16 hF16
  by_cases href : viewOf fs nm ≠ none ∧ force = false
  · obtain ⟨r1, rfl⟩ := href
    obtain ⟨b, hb⟩ : ∃ b, viewOf fs nm = some b := by
      cases hv : viewOf fs nm with
      | none => exact absurd hv r1
      | some b => exact ⟨b, rfl⟩
    rw [copy_there sol14 hun (by rw [hX2n]; exact hne) r1] at a16 ⊢
    refine join_at (true, ()) (sif_r (fun _ => ⟨rfl, rfl⟩) fun hh => by rw [hb] at hh; cases hh) (sif_true (drew_r fun W1 q1 _ => sif_r (fun _ => nn_some ?_) fun hh => by cases hh))
    have a17 := a16.ext q1
    rw [hb] at hth
    refine ld_r a17.s.box (off := 0) (x := some (at0 d)) rfl (holds_call a17.s.disk (by omega) (hth.ext a17.e) (by have := hview _ _ hb; show b.length ≤ 2 ^ 40; omega) (hlie.imp id fun hh k hk hf => by have := hh k hk; have := a17.s.lF k hf; omega) fun F18 w18 A18 u18 hF18 => ?_)
    rw [read_sol (sol14.st _) hnn hb] at A18 ⊢
    have a18 := a17.turn A18 u18 hF18
    refine sif_r (fun _ => nn_some ?_) fun hh => by simp at hh
    rw [addr_add]
    refine ld_r a18.s.box (off := 0 + 1) (x := some (at0 f)) rfl (kn a18.m (fstamp_call a18.s.file.at_ fun w19 q19 => keep_r (cells_at (q19.ext_get a18.m)) ?_))
    rw [hX2k]
    have a19 := a18.ext q19
    refine stm_eq (sif_r (fun _ => ?_) fun hh => absurd rfl (of_decide_eq_false hh))
    refine sl (a19.e.ext_get n3) (nn_some ?_)
    rw [addr_add]
    refine ld_r a19.s.box (off := 0 + 7) (x := (viewOf fs x.2.1).isSome) rfl (others_call (w0 := w3) a19.s ((sol14.st (k14 + 1)).st (k14 + 1 + 1)) h3.files a19.e rfl (fun f hf => (hfs f hf).1) (by omega) (by omega) (fun n b hb => .inr (view_some hb)) (fun n _ b hb => hb) (fun hh hv => by rw [hv] at hh; cases hh) fun F20 w20 k20 s20 u20 hF20 => ?_)
    exact hK _ (fin (a19.own s20 u20 hF20).e)
  · have hmade : force = true ∨ viewOf fs nm = none := by
      cases hf : force with
      | true => exact .inl rfl
      | false => exact .inr (Decidable.byContradiction fun hh => href ⟨hh, hf⟩)
    obtain ⟨E, g1, g2⟩ := copy_made (X := X2) (b := data) (force := force) sol14 a14.s.disk.ok hsp14 (by omega) hun (by rw [hX2n]; exact hne) hview (hvs nm) (by rw [hm14]; exact hm3) (by omega) hmade
    rw [hm14] at g2
    rw [g1] at a16 ⊢
    refine join_at (false, ()) (sif_r (fun hh => ?_) fun _ => ⟨rfl, rfl⟩) (sif_false ?_)
    · rcases hmade with hf | hv
      · rw [hf]; exact ⟨rfl, rfl⟩
      · rw [hv] at hh; cases hh
    refine join_r (fun y W => y = (false, ()) ∧ ∃ F' k, Sta w3 W b29 X.known p e O M data st d f F' { E with steps := k } 6000 X2 sm sd so lod.enc lod.new (viewOf fs x.2.1).isSome lod.data ((viewOf fs x.2.1).getD [])) ?_ ?_
    · refine drew_r fun W1 q1 _ => sif_r (fun hh => by cases hh) fun _ => nn_some ?_
      have a17 := a16.ext q1
      refine ld_r a17.s.box (off := 0) (x := some (at0 d)) rfl (ld_r (a17.e.ext_get n3) (off := 3) (x := x.2.2.2.1) rfl (whole_call a17.s (by rw [hm14]; exact hm2) (by omega) (h3.ext a17.e).data (by omega) fun w18 s18 o18 q18 => keep_r (cell_of (off := 0) (q18.ext_get a17.s.box) rfl) ?_))
      rw [hm14, hwh] at o18
      have a18 := a17.ext q18
      refine holds_call a18.s.disk (by omega) o18.in.x (by omega) (.inr fun k hk hf => by have := o18.blk_ge hk; have := a17.s.disk.lt k hf; omega) fun F19 w19 A19 u19 hF19 => ?_
      rw [read_sol g2 hnn vset_at] at A19 ⊢
      have a19 := a18.turn A19 u19 hF19
      refine sif_r (fun hh => by simp at hh) fun _ => nn_some ?_
      rw [addr_add]
      refine ld_r a19.s.box (off := 0 + 1) (x := some (at0 f)) rfl (kn a19.m (fstamp_call a19.s.file.at_ fun w20 q20 => keep_r (cells_at (q20.ext_get a19.m)) ?_))
      rw [hX2k]
      refine stm_ne ⟨?_, F19, _, (a19.ext q20).mono (by omega)⟩
      rw [decide_eq_false (fun hh => hh rfl)]
    rintro _ w20 ⟨rfl, F20, k20, a20⟩
    refine sif_false (drew_r fun W1 q1 _ => nn_some ?_)
    rw [addr_add]
    have a21 := a20.ext q1
    refine ld_r a21.s.box (off := 0 + 7) (x := (viewOf fs x.2.1).isSome) rfl (sif_r (fun _ => hK _ (fin a21.e)) fun hw => nn_some ?_)
    have hw : (viewOf fs x.2.1).isSome = true := by simpa using hw
    refine ld_r a21.s.box (off := 0) (x := some (at0 d)) rfl (ld_r (a21.e.ext_get n3) (off := 1) (x := x.2.1) rfl (nn_some ?_))
    rw [addr_add]
    refine ld_r a21.s.box (off := 0 + 6) (x := so) rfl (holds_call a21.s.disk (by omega) a21.s.old.in.x (by omega) (.inr fun k hk => a21.s.oF k hk) fun F22 w22 A22 u22 hF22 => ?_)
    have hold2 : vset (viewOf fs) nm (some (X.mark ++ data)) x.2.1 = some ((viewOf fs x.2.1).getD []) := by
      rw [vset_ne fun hh => hne hh.symm]
      cases hv2 : viewOf fs x.2.1 with
      | none => rw [hv2] at hw; cases hw
      | some b => rfl
    rw [read_sol (g2.st k20) hn hold2] at A22 ⊢
    have a22 := a21.turn A22 u22 hF22
    rw [decide_eq_true (And.intro rfl rfl)]
    exact hK _ (fin a22.e)
end
end Dq
end Go.Proofs.YtmooldhpiopcgaaGreatDoor
set_option linter.unusedSimpArgs false
set_option linter.unusedVariables false
namespace Go.Vx
open Go Go.ChangeShapes
theorem cell_spot {w : World} {a : Addr} {v : Value} (h : w.cell? a = some v) : a.spot = none ∧ ∃ c t fr, w.heap[a.block]? = some (.cells c t fr) ∧ c[a.off]? = some v := by
  unfold World.cell? at h
  split at h
  · rename_i c t fr hh
    split at h
    · cases h
    · rename_i hs
      exact ⟨by cases hsp : a.spot with | none => rfl | some _ => rw [hsp] at hs; exact absurd rfl hs, c, t, fr, hh, h⟩
  · cases h
theorem add_spot (a : Addr) (n : Nat) (h : a.spot = none) : a.add n = ⟨a.block, a.off + n, none⟩ := by
  obtain ⟨b, o, s⟩ := a
  simp only at h
  subst h
  exact addr_add b o n
theorem cells_get {w : World} {base : Nat} {a : Addr} {n : Nat} {r : List Value} (h : w.cells? base a n = some r) : r.length = n ∧ ∀ j, j < n → w.cell? (a.add j) = r[j]? := by
  unfold World.cells? at h
  split at h
  · have hl := mapM_some_length h
    rw [List.length_range] at hl
    refine ⟨hl, fun j hj => ?_⟩
    exact mapM_some_get h j j (by simp [hj])
  · cases h
section
variable {H : Type} {enc : TypeId × Value → H} {P : Program} {W : World} {base fuel : Nat} {held : Bool}
theorem weights_all {e : TypeId} {d : DataW H} {n : Nat} (hn : n ∈ d.weights P e) : ∀ l : List (DataW H), d ∈ l → n ∈ DataW.weightsAll P e l
  | [], h => by cases h
  | x :: r, h => by
    simp only [DataW.weightsAll, List.mem_append]
    rcases List.mem_cons.1 h with rfl | h
    · exact .inl hn
    · exact .inr (weights_all hn r h)
theorem open_rowsM {t e : TypeId} {sz : Nat} {cs : List Value} {x : DataW H × List MemPlace} (ht : P.underlying t = some (.slice e)) (hsz : P.cellsOf e = sz) (hpos : 0 < sz)
    (h : DataW.trod enc P W base (fun _ => true) held fuel t cs = some x) (hw : ∀ n ∈ x.1.weights P t, n ≤ reachBytes) :
    ∃ (s : Sl) (rows : List (List Value)), cs = [.slice s.a s.len s.cap] ∧ SlX W s sz rows.flatten ∧ rows.length = s.len ∧ s.len * P.bytesOf e ≤ reachBytes ∧ (s.len = 0 ∨ ∃ els rst, x.1 = .slice els rst ∧ els.length = s.len) ∧
      ∀ r ∈ rows, r.length = sz ∧ ∃ n y, DataW.trod enc P W base (fun _ => true) held n e r = some y ∧ (∀ k ∈ y.1.weights P e, k ≤ reachBytes) ∧ ∃ els rst, x.1 = .slice els rst ∧ y.1 ∈ els := by
  rcases DataW.trod_slice ht h with ⟨rfl, rfl⟩ | ⟨a, len, cap, elems, rest, n, _, rfl, rfl, hb, hl, hm, hlen, hel, hsp, _⟩
  · exact ⟨⟨none, 0, 0⟩, [], rfl, ⟨.inl ⟨rfl, rfl⟩⟩, rfl, by simp, .inl rfl, fun r hr => by cases hr⟩
  obtain ⟨hrl, hre⟩ := hsp rfl
  subst hsz
  have each : ∀ i, i < len → ∃ r y, W.cells? base (a.add (i * P.cellsOf e)) (P.cellsOf e) = some r ∧ elems[i]? = some y ∧ DataW.trod enc P W base (fun _ => true) held n e r = some y := by
    intro i hi
    have h1 := hel i hi
    rw [List.getElem?_eq_getElem (by omega)] at h1
    obtain ⟨r, h2, h3⟩ := Option.bind_eq_some_iff.1 h1
    exact ⟨r, _, h2, List.getElem?_eq_getElem (by omega), h3⟩
  have wn : (elems.length + rest.length) * P.bytesOf e ≤ reachBytes := by
    have := hw ((elems.length + rest.length) * P.bytesOf e) (by simp [DataW.weights, ht])
    exact this
  refine ⟨⟨some a, len, cap⟩, (List.range len).map fun i => (W.cells? base (a.add (i * P.cellsOf e)) (P.cellsOf e)).getD [], rfl, ?_, by simp, ?_, .inr ⟨_, _, rfl, by simp [hlen]⟩, ?_⟩
  · by_cases h0 : len = 0
    · subst h0; exact ⟨.inl ⟨rfl, rfl⟩⟩
    have last : ∃ v, W.cell? ((a.add ((cap - 1) * P.cellsOf e)).add (P.cellsOf e - 1)) = some v := by
      have fin : ∀ r, W.cells? base (a.add ((cap - 1) * P.cellsOf e)) (P.cellsOf e) = some r → ∃ v, W.cell? ((a.add ((cap - 1) * P.cellsOf e)).add (P.cellsOf e - 1)) = some v := by
        intro r hr
        obtain ⟨g1, g2⟩ := cells_get hr
        rw [g2 _ (by omega)]
        exact ⟨_, List.getElem?_eq_getElem (by omega)⟩
      by_cases hcl : cap - 1 < len
      · obtain ⟨r, _, h1, _⟩ := each (cap - 1) hcl
        exact fin r h1
      · have h1 := hre (cap - 1 - len) (by omega)
        rw [show len + (cap - 1 - len) = cap - 1 by omega] at h1
        rw [List.getElem?_eq_getElem (by omega)] at h1
        obtain ⟨r, h2, _⟩ := Option.bind_eq_some_iff.1 h1
        exact fin r h2
    obtain ⟨v, hv⟩ := last
    have hspot : a.spot = none := by
      obtain ⟨r, _, h1, _⟩ := each 0 (by omega)
      obtain ⟨g1, g2⟩ := cells_get h1
      have h2 := g2 0 (by omega)
      rw [Nat.zero_mul, List.getElem?_eq_getElem (by omega)] at h2
      exact (cell_spot h2).1
    rw [add_spot a _ hspot, addr_add] at hv
    obtain ⟨_, c, tt, fr, hh, hc⟩ := cell_spot hv
    simp only at hh hc
    have hlast := (Array.getElem?_eq_some_iff.1 hc).1
    have hcap : (cap - 1) * P.cellsOf e + P.cellsOf e = cap * P.cellsOf e := by rw [← Nat.succ_mul]; congr 1; omega
    have rowlen : ∀ i, i < len → ((W.cells? base (a.add (i * P.cellsOf e)) (P.cellsOf e)).getD []).length = P.cellsOf e := by
      intro i hi
      obtain ⟨r, _, h1, _⟩ := each i hi
      rw [h1]; exact (cells_get h1).1
    refine ⟨.inr ⟨tt, ?_, hl, .inr ⟨a.block, a.off, c, fr, ?_, hh, by simp only; omega, ?_⟩⟩⟩
    · have key : ∀ (k : Nat), k ≤ len → (((List.range k).map fun i => (W.cells? base (a.add (i * P.cellsOf e)) (P.cellsOf e)).getD []).flatten).length = k * P.cellsOf e := by
        intro k
        induction k with
        | zero => intro _; simp
        | succ k ih =>
          intro hk
          rw [List.range_succ, List.map_append, List.flatten_append, List.length_append, ih (by omega), Nat.succ_mul]
          simp [rowlen k (by omega)]
      exact key len (Nat.le_refl _)
    · obtain ⟨b, o, s⟩ := a
      simp only at hspot
      subst hspot
      rfl
    · have key : ∀ (k : Nat), k ≤ len → ∀ i v, (((List.range k).map fun i => (W.cells? base (a.add (i * P.cellsOf e)) (P.cellsOf e)).getD []).flatten)[i]? = some v → c[a.off + i]? = some v := by
        intro k
        induction k with
        | zero => intro _ i v hi; simp at hi
        | succ k ih =>
          intro hk i v hi
          have hkl : (((List.range k).map fun i => (W.cells? base (a.add (i * P.cellsOf e)) (P.cellsOf e)).getD []).flatten).length = k * P.cellsOf e := by
            have key2 : ∀ (k : Nat), k ≤ len → (((List.range k).map fun i => (W.cells? base (a.add (i * P.cellsOf e)) (P.cellsOf e)).getD []).flatten).length = k * P.cellsOf e := by
              intro k
              induction k with
              | zero => intro _; simp
              | succ k ih =>
                intro hk
                rw [List.range_succ, List.map_append, List.flatten_append, List.length_append, ih (by omega), Nat.succ_mul]
                simp [rowlen k (by omega)]
            exact key2 k (by omega)
          rw [List.range_succ, List.map_append, List.flatten_append] at hi
          by_cases hik : i < k * P.cellsOf e
          · rw [List.getElem?_append_left (by omega)] at hi
            exact ih (by omega) i v hi
          · rw [List.getElem?_append_right (by omega), hkl] at hi
            simp only [List.map_cons, List.map_nil, List.flatten_cons, List.flatten_nil, List.append_nil] at hi
            obtain ⟨r, _, h1, _⟩ := each k (by omega)
            rw [h1] at hi
            simp only [Option.getD_some] at hi
            obtain ⟨g1, g2⟩ := cells_get h1
            have hj := (List.getElem?_eq_some_iff.1 hi).1
            have := g2 (i - k * P.cellsOf e) (by omega)
            rw [hi, add_spot a _ hspot, addr_add] at this
            obtain ⟨_, c', t', fr', hh', hc'⟩ := cell_spot this
            simp only at hh' hc'
            rw [hh] at hh'
            cases hh'
            rw [show a.off + i = a.off + k * P.cellsOf e + (i - k * P.cellsOf e) by omega]
            exact hc'
      exact key len (Nat.le_refl _)
  · have : len * P.bytesOf e ≤ (elems.length + rest.length) * P.bytesOf e := Nat.mul_le_mul_right _ (by omega)
    exact Nat.le_trans this wn
  · intro r hr
    obtain ⟨i, hi, rfl⟩ := List.mem_map.1 hr
    have hi := List.mem_range.1 hi
    obtain ⟨r, y, h1, h2, h3⟩ := each i hi
    rw [h1]
    refine ⟨(cells_get h1).1, n, y, h3, fun k hk => hw k ?_, _, _, rfl, List.mem_map.2 ⟨y, List.mem_of_getElem? h2, rfl⟩⟩
    simp only [DataW.weights, ht, List.mem_cons, List.mem_append]
    exact .inr (.inl (weights_all hk _ (List.mem_map.2 ⟨y, List.mem_of_getElem? h2, rfl⟩)))
theorem open_rows {t e : TypeId} {sz : Nat} {cs : List Value} {x : DataW H × List MemPlace} (ht : P.underlying t = some (.slice e)) (hsz : P.cellsOf e = sz) (hpos : 0 < sz)
    (h : DataW.trod enc P W base (fun _ => true) held fuel t cs = some x) (hw : ∀ n ∈ x.1.weights P t, n ≤ reachBytes) :
    ∃ (s : Sl) (rows : List (List Value)), cs = [.slice s.a s.len s.cap] ∧ SlX W s sz rows.flatten ∧ rows.length = s.len ∧ s.len * P.bytesOf e ≤ reachBytes ∧
      ∀ r ∈ rows, r.length = sz ∧ ∃ n y, DataW.trod enc P W base (fun _ => true) held n e r = some y ∧ ∀ k ∈ y.1.weights P e, k ≤ reachBytes := by
  obtain ⟨s, rows, h1, h2, h3, h4, _, h5⟩ := open_rowsM ht hsz hpos h hw
  exact ⟨s, rows, h1, h2, h3, h4, fun r hr => by obtain ⟨a, n, y, b, c, _⟩ := h5 r hr; exact ⟨a, n, y, b, c⟩⟩
theorem open_i64 {t : TypeId} {cs : List Value} {x : DataW H × List MemPlace} (ht : P.underlying t = some (.int .i64)) (h : DataW.trod enc P W base (fun _ => true) held fuel t cs = some x) : ∃ n, cs = [.int .i64 n] ∧ (Lit.int .i64 n).wf = true := by
  cases fuel with
  | zero => simp [DataW.trod] at h
  | succ m =>
    unfold DataW.trod at h
    rw [ht] at h
    split at h <;> simp_all
end
end Go.Vx
namespace Go.Vx
open Go Go.ChangeShapes Go.RowKit
section
variable {H : Type} {enc : TypeId × Value → H} {P : Program} {W W' : World}
theorem Ext.below (e : Ext W W') : Below W.heap.size W W' := ⟨e.os, e.tape, e.output, e.size, fun k hk => e.at_ k hk id⟩
theorem stays_all (hl : laidOutB P = true) {sp : Nat → Bool} : ∀ {ts : List TypeId} {vs : List Value} {ds : List (DataW H)} {ps : List MemPlace}, (∀ t ∈ ts, P.readableRec t = true ∧ t < P.types.size) →
    DataW.TrodAll enc P W 0 (fun _ => true) true ts vs ds ps → (∀ p ∈ ps, W.sameAt W' p) → (∀ p ∈ ps, sp p.block = true) → DataW.TrodAll enc P W' 0 sp true ts vs ds ps
  | [], [], [], _, _, h, _, _ => h
  | t :: ts, v :: vs, d :: ds, ps, hr, ⟨p, q, h1, h2, e⟩, hs, hsp => by
    subst e
    exact ⟨p, q, WideElems.Trod_stays hl (hr t List.mem_cons_self).1 (hr t List.mem_cons_self).2 h1 (fun x hx => hs x (List.mem_append_left _ hx)) (fun x hx => hsp x (List.mem_append_left _ hx)),
      stays_all hl (fun t' ht' => hr t' (List.mem_cons_of_mem _ ht')) h2 (fun x hx => hs x (List.mem_append_right _ hx)) (fun x hx => hsp x (List.mem_append_right _ hx)), rfl⟩
  | [], _ :: _, _, _, _, h, _, _ => h.elim
  | [], [], _ :: _, _, _, h, _, _ => h.elim
  | _ :: _, [], _, _, _, h, _, _ => h.elim
  | _ :: _, _ :: _, [], _, _, h, _, _ => h.elim
theorem post_same {f : Func} {s : ChangeSpec} {apart fresh handsOn again : Bool} {args : Array Value} {ds gs : List (DataW H)} {before : List MemPlace} {tb : TypeId}
    (hW : DataW.Whole enc P f.params.toList s.vars apart W args.toList ds gs before) (hv : s.vars = []) (hr : f.resultTypes = #[tb]) (hb : P.underlying tb = some .bool)
    (hs : s.fn H (ds ++ gs) = { results := [.lit (.bool true)], args := ds }) (hl : laidOutB P = true) (hrd : ∀ t ∈ f.params.toList, P.readableRec t = true ∧ t < P.types.size)
    (e : Ext W W') : s.post enc P f apart fresh handsOn again W args (.bool true) W' := by
  have hlt := hW.lt
  have hW0 := hW
  obtain ⟨pa, pv, hA, hV, rfl, hz, hn⟩ := hW
  have hBl := e.below
  have hsame : ∀ p ∈ pa ++ pv, W.sameAt W' p := fun p hp => hBl.same (hlt p hp)
  have hold : ∀ p ∈ pa ++ pv, (fun b => decide (b < W.heap.size)) p.block = true := fun p hp => by simpa using hlt p hp
  have hres : ∀ (b : Nat) (sp : Nat → Bool) (hd : Bool), DataW.TrodAll enc P W' b sp hd f.resultTypes.toList ((Value.bool true).resultList f.resultTypes.size) (s.fn H (ds ++ gs)).results [] := by
    intro b sp hd
    rw [hs, hr]
    exact trodAll_mk1 ⟨1, by simp [DataW.trod, hb, Value.cells]⟩
  have hargs : ∀ sp : Nat → Bool, (∀ p ∈ pa, sp p.block = true) → DataW.TrodAll enc P W' 0 sp true f.params.toList args.toList (s.fn H (ds ++ gs)).args pa := by
    intro sp hsp
    rw [hs]
    exact stays_all hl hrd hA (fun p hp => hsame p (List.mem_append_left _ hp)) hsp
  have hgs : gs = [] ∧ pv = [] := by
    rw [hv] at hV
    exact trodVars_none hV
  obtain ⟨rfl, rfl⟩ := hgs
  have hvars : ∀ sp : Nat → Bool, DataW.TrodVars enc P W' sp s.vars (s.fn H (ds ++ [])).vars [] := by
    intro sp
    rw [hs, hv]
    exact rfl
  have hall : ∀ p ∈ ([] ++ pa) ++ [], p ∈ pa ++ [] := fun p hp => by simpa using hp
  refine ⟨ds, [], pa ++ [], [], pa, [], hW0, hres _ _ _, hargs _ (fun p hp => hold p (List.mem_append_left _ hp)), hvars _, hBl.frame _, fun _ => ⟨ok_one hr rfl (okWide_bool_mk hb true), [.lit (.bool true)] ++ ds, [], ([] ++ pa) ++ [], ?_, fun p hp _ => hall p hp⟩⟩
  have h1 := trodAll_append (hargs (fun _ => true) (fun _ _ => rfl)) (hres 0 (fun _ => true) true)
  rw [hs] at h1
  have h2 := hvars (fun _ => true)
  rw [hs] at h2
  refine ⟨[] ++ pa, [], h1, h2, rfl, ?_, fun ha => ?_⟩
  · intro b off hp
    have hp' := hall _ hp
    have hb' := hlt _ hp'
    rw [hBl.frozen (p := ⟨b, off, none⟩) hb']
    exact hz b off hp'
  · have := hn ha
    simpa using this
end
end Go.Vx
set_option linter.unusedSimpArgs false
set_option linter.unusedVariables false
set_option maxRecDepth 100000
namespace Go.Proofs.YtmooldhpiopcgaaGreatDoor
namespace Dq
open Go Go.Vx Go.ChangeShapes Go.WideShapes Go.RowKit Dsk
theorem own : ownKnob Tryz.prog.godebug = none := by kernel_rfl
theorem laidOut : laidOutB Tryz.prog = true := by kernel_rfl
theorem u4 : Tryz.prog.underlying 4 = some .bool := i4_ok.und
theorem uStr : Tryz.prog.underlying 9 = some .string := i9_ok.und
theorem gErr : Tryz.prog.globalNamed "errors.errorType" = some 0 := by kernel_rfl
theorem tRt : (Tryz.prog.cutTypes.find? (·.1 == "internal/reflectlite.rtype")).map (·.2) = some 211 := by kernel_rfl
theorem typesN : Tryz.prog.types.size = 363 := by kernel_rfl
theorem oneRow : ((List.range 363).filter fun t => Tryz.prog.rowNamed t [101, 114, 114, 111, 114]) = [26] := by kernel_rfl
theorem hdlE : typeHandle Tryz.prog 26 = hdl 26 := by kernel_rfl
abbrev laidL : List (String × DataW Unit) := [("errors.errorType", Rows.laid_errors_errorType)]
theorem cell_laid {W : World} (h : laidMetH Tryz.prog laidL W) : W.cell? ⟨0, 0, none⟩ = some (rty 26) := by
  have h' : laidMet Tryz.prog [] W ∧ handlesMet Tryz.prog laidL W := h
  obtain ⟨name, u, ty, e1, e2, e3, e4, e5⟩ := h'.2 _ (List.mem_singleton.2 rfl)
  have en : name = [101, 114, 114, 111, 114] := (Option.some.inj e1).symm
  subst en
  obtain rfl := Option.some.inj (tRt.symm.trans e2)
  have hm : ty ∈ (List.range 363).filter fun t => Tryz.prog.rowNamed t [101, 114, 114, 111, 114] := List.mem_filter.2 ⟨List.mem_range.2 (by rw [← typesN]; exact e3), e4⟩
  rw [oneRow] at hm
  obtain rfl := List.mem_singleton.1 hm
  rw [hdlE] at e5
  simpa using World.var?_cell gErr e5 0
theorem laid_of {W : World} (h : laidMetH Tryz.prog laidL W) : LaidE W := by
  have h := cell_laid h
  unfold World.cell? at h
  split at h
  · rename_i cs t fr hb
    exact ⟨cs, t, fr, hb, h⟩
  all_goals simp_all
noncomputable def laidWorld (os : Os) : World :=
  let w0 := World.holding Tryz.prog os ⟨#[], #[], []⟩
  { w0 with heap := w0.heap.modify 0 fun
    | .cells _ t frozen => .cells #[.iface 211 (.agg #[.pointer (some ⟨2, 26, none⟩)])] t frozen
    | o => o }
theorem laid_met (os : Os) (args : Array Value) : laidMetH Tryz.prog laidL ((laidWorld os).forCall (fun _ _ => 0) ⟨#[], args, []⟩).memory :=
  laidMetH_of_parts (laidMet_nil _ _) (by kernel_rfl)
theorem trodAll_get {H : Type} {enc : TypeId × Value → H} {P : Program} {w : World} {base : Nat} {spare : Nat → Bool} {held : Bool} : ∀ {ts : List TypeId} {vs : List Value} {ds : List (DataW H)} {ps : List MemPlace}, DataW.TrodAll enc P w base spare held ts vs ds ps →
    vs.length = ts.length ∧ ds.length = ts.length ∧ ∀ (j : Nat) t v d, ts[j]? = some t → vs[j]? = some v → ds[j]? = some d → ∃ p, DataW.Trod enc P w base spare held t v d p
  | [], [], [], _, _ => ⟨rfl, rfl, fun j t v d h => by simp at h⟩
  | t :: ts, v :: vs, d :: ds, ps, ⟨p, q, h1, h2, e⟩ => by
    obtain ⟨a, b, c⟩ := trodAll_get h2
    refine ⟨by simp [a], by simp [b], fun j t' v' d' ht hv hd => ?_⟩
    match j with
    | 0 => cases ht; cases hv; cases hd; exact ⟨p, h1⟩
    | j + 1 => exact c j t' v' d' (by simpa using ht) (by simpa using hv) (by simpa using hd)
  | [], _ :: _, _, _, h => h.elim
  | [], [], _ :: _, _, h => h.elim
  | _ :: _, [], _, _, h => h.elim
  | _ :: _, _ :: _, [], _, h => h.elim
theorem weigh {H : Type} {ts : List TypeId} {ds : List (DataW H)} (h : (DataW.weightsEach Tryz.prog ts ds).all (· ≤ reachBytes) = true) (j : Nat) {t : TypeId} {d : DataW H} (ht : ts[j]? = some t) (hd : ds[j]? = some d) : ∀ n ∈ d.weights Tryz.prog t, n ≤ reachBytes := by
  intro n hn
  have := List.all_eq_true.1 h _ (DataW.weights_mem_each ht hd n hn)
  simpa using this
theorem arg_str {H : Type} {enc : TypeId × Value → H} {W : World} {base : Nat} {v : Value} {d : DataW H} {p : List MemPlace} (hv : Value.okWide Tryz.prog W .any base 9 v) (h : DataW.Trod enc Tryz.prog W 0 (fun _ => true) true 9 v d p) (hb : Rows.uptoBulk d ≤ 1048576) :
    ∃ s : ByteArray, v = .string s ∧ s.size < 1048576 := by
  obtain ⟨s, rfl, rfl, _, _⟩ := ChangeMaps.open_string uStr hv h
  simp only [Rows.uptoBulk] at hb
  have : s.data.toList.length = s.size := by simp
  exact ⟨s, rfl, by omega⟩
theorem recStr : Tryz.prog.readableRec 9 = true := by kernel_rfl
end Dq
end Go.Proofs.YtmooldhpiopcgaaGreatDoor
set_option linter.unusedSimpArgs false
set_option linter.unusedVariables false
set_option maxRecDepth 100000
namespace Go.Proofs.YtmooldhpiopcgaaGreatDoor
open Go Go.Vx Cdc Trx
section
variable {w w' : World} {S : Nat → Prop} {p : Nat} {e : Enc} {lim na : Nat} {O : Nat → Prop} {M : Parts}
def Old (w W : World) (a0 a : Sl) : Prop := ∀ y b, By w y b → (∀ k, y.blk k → a0.blk k → top y ≤ top a0) → By W y b ∧ ∀ k, y.blk k → a.blk k → top y ≤ top a
end
end Go.Proofs.YtmooldhpiopcgaaGreatDoor
set_option linter.unusedSimpArgs false
set_option linter.unusedVariables false
set_option maxRecDepth 100000
namespace Go.Proofs.YtmooldhpiopcgaaGreatDoor
open Go Go.Vx Cdc Trx
section
variable {w w' W W' : World} {S : Nat → Prop} {p : Nat} {e : Enc} {lim na : Nat} {O : Nat → Prop} {M : Parts}
abbrev txO (e : Enc) (lim : Nat) (tp : Option Addr) (a : Sl) : Obj := .cells #[.int .i64 e.num, .int .i64 (lim : Int), .pointer tp, .slice a.a a.len a.cap] 141 (0, 0)
abbrev frLs (p b1 b2 b6 b7 : Nat) (ps : Sl) (f n : Nat) : List (Nat × Obj) := [(b7, .cells #[.int .i64 (n : Int)] 3 (0, 0)), (b6, .cells #[.int .i64 (f : Int)] 3 (0, 0)), (b2, .cells #[.slice ps.a ps.len ps.cap] 165 (0, 0)), (b1, .cells #[.pointer (some (at0 p))] 51 (0, 0))]
structure FrI (w W : World) (p : Nat) (e : Enc) (lim : Nat) (tp : Option Addr) (a0 : Sl) (b1 b2 b6 b7 : Nat) (a ps : Sl) (ab cb : Bs) (pl : List Pc) (M' : Parts) (n : Nat) : Prop where
  st : St (fun k => k = p ∨ a0.blk k) w W (frLs p b1 b2 b6 b7 ps (ab.length - cb.length) n)
  tx : W.heap[p]? = some (txO e lim tp a)
  own : SlOwn W 0 a 5 1 (bv ab)
  suf : ∃ x, ab = x ++ cb
  row : SlOwn W w.heap.size ps 146 7 (flat c146 (pl.map pcT))
  its : Its W e pl M'
  tops : ∀ x ∈ pl, ∀ k, x.bytes.blk k → a.blk k → top x.bytes ≤ top a
  pblk : ∀ x ∈ pl, ∀ k, x.bytes.blk k → a0.blk k ∨ w.heap.size ≤ k
  ablk : ∀ k, a.blk k → a0.blk k ∨ w.heap.size ≤ k
  old : Old w W a0 a
  cnt : pl.length + cb.length ≤ ab.length
variable {tp : Option Addr} {a0 a ps : Sl} {b1 b2 b6 b7 n : Nat} {ab cb : Bs} {pl : List Pc} {M' : Parts}
end
end Go.Proofs.YtmooldhpiopcgaaGreatDoor
set_option linter.unusedSimpArgs false
set_option linter.unusedVariables false
set_option maxRecDepth 100000
namespace Go.Proofs.YtmooldhpiopcgaaGreatDoor
open Go Go.Vx Cdc Trx
namespace Cdc
structure LEd where
  f : Int
  t : Int
  put : List Int
end Cdc
section
variable {w w' W W' : World} {S : Nat → Prop} {p : Nat} {e : Enc} {lim na : Nat} {O : Nat → Prop} {M : Parts}
end
end Go.Proofs.YtmooldhpiopcgaaGreatDoor
set_option linter.unusedSimpArgs false
set_option linter.unusedVariables false
set_option maxRecDepth 100000
namespace Go.Proofs.YtmooldhpiopcgaaGreatDoor
open Go Go.Vx Go.ChangeShapes Go.WideShapes Go.RowKit Cdc
theorem ui : Tryz.prog.underlying 3 = some (.int .i64) := i3_ok.und
theorem ub : Tryz.prog.underlying 5 = some (.int .u8) := i5_ok.und
theorem uBytes : Tryz.prog.underlying 30 = some (.slice 5) := i30_ok.und
theorem ci : Tryz.prog.cellsOf 3 = 1 := by kernel_rfl
theorem cby : Tryz.prog.cellsOf 5 = 1 := by kernel_rfl
theorem bby : Tryz.prog.bytesOf 5 = 1 := by kernel_rfl
theorem cbs : Tryz.prog.cellsOf 30 = 1 := by kernel_rfl
theorem rows_of2 {cs : List Cell} {β : Type} {Q : Cells.T cs → β → Prop} : ∀ (rows : List (List Value)), (∀ r ∈ rows, ∃ x y, r = Cells.vals cs x ∧ Q x y) → ∃ (xs : List (Cells.T cs)) (ys : List β), rows.flatten = flat cs xs ∧ xs.length = rows.length ∧ xs.length = ys.length ∧ ∀ (i : Nat) x y, xs[i]? = some x → ys[i]? = some y → Q x y
  | [], _ => ⟨[], [], rfl, rfl, rfl, fun i x y hx => by simp at hx⟩
  | r :: rs, h => by
    obtain ⟨x, y, hx, hq⟩ := h r List.mem_cons_self
    obtain ⟨xs, ys, h1, h2, h3, h4⟩ := rows_of2 rs fun r' hr' => h r' (List.mem_cons_of_mem _ hr')
    refine ⟨x :: xs, y :: ys, ?_, by simp [h2], by simp [h3], fun i x' y' hx' hy' => ?_⟩
    · rw [List.flatten_cons, h1, hx]; rfl
    · match i with
      | 0 => cases hx'; cases hy'; exact hq
      | i + 1 => exact h4 i x' y' (by simpa using hx') (by simpa using hy')
section
variable {H : Type} {enc : TypeId × Value → H} {W : World} {base fuel : Nat} {held : Bool}
abbrev bulk (d : DataW H) : Nat := Rows.uptoBulk d
theorem bulk_one (d : DataW H) : 1 ≤ bulk d := by
  unfold bulk
  cases d with
  | lit l => cases l <;> simp [Rows.uptoBulk]
  | nil => simp [Rows.uptoBulk]
  | ptr d => simp [Rows.uptoBulk]
  | slice elems spare => simp [Rows.uptoBulk]
  | agg parts => simp [Rows.uptoBulk]
  | iface t d => simp [Rows.uptoBulk]
  | map entries => simp [Rows.uptoBulk]
  | held h => simp [Rows.uptoBulk]
theorem bulk_part {d : DataW H} {l : List (DataW H)} (h : d ∈ l) : bulk d ≤ Rows.uptoBulkAll l := by
  induction l with
  | nil => cases h
  | cons x r ih =>
    simp only [Rows.uptoBulkAll]
    cases List.mem_cons.1 h with
    | inl e => subst e; show Rows.uptoBulk d ≤ _; omega
    | inr e => have := ih e; show Rows.uptoBulk d ≤ _; have : Rows.uptoBulk d ≤ Rows.uptoBulkAll r := this; omega
theorem bulk_len (l : List (DataW H)) : l.length ≤ Rows.uptoBulkAll l := by
  induction l with
  | nil => simp [Rows.uptoBulkAll]
  | cons x r ih => have := bulk_one x; unfold bulk at this; simp only [Rows.uptoBulkAll, List.length_cons]; omega
theorem open_rowsB {t e : TypeId} {sz : Nat} {cs : List Value} {x : DataW H × List MemPlace} (ht : Tryz.prog.underlying t = some (.slice e)) (hsz : Tryz.prog.cellsOf e = sz) (hpos : 0 < sz)
    (h : DataW.trod enc Tryz.prog W base (fun _ => true) held fuel t cs = some x) (hw : ∀ n ∈ x.1.weights Tryz.prog t, n ≤ reachBytes) :
    ∃ (s : Sl) (rows : List (List Value)), cs = [.slice s.a s.len s.cap] ∧ SlX W s sz rows.flatten ∧ rows.length = s.len ∧ s.len ≤ bulk x.1 ∧
      ∀ r ∈ rows, r.length = sz ∧ ∃ n y, DataW.trod enc Tryz.prog W base (fun _ => true) held n e r = some y ∧ (∀ k ∈ y.1.weights Tryz.prog e, k ≤ reachBytes) ∧ bulk y.1 ≤ bulk x.1 := by
  obtain ⟨s, rows, h1, h2, h3, h4, h6, h5⟩ := open_rowsM ht hsz hpos h hw
  refine ⟨s, rows, h1, h2, h3, ?_, fun r hr => ?_⟩
  · rcases h6 with h6 | ⟨els, rst, hx, hl⟩
    · omega
    · have := bulk_len els
      rw [hx]
      show _ ≤ Rows.uptoBulk (.slice els rst)
      simp only [Rows.uptoBulk]; omega
  · obtain ⟨a, n, y, b, c, els, rst, hx, hm⟩ := h5 r hr
    refine ⟨a, n, y, b, c, ?_⟩
    have := bulk_part hm
    rw [hx]
    show _ ≤ Rows.uptoBulk (.slice els rst)
    simp only [Rows.uptoBulk]; omega
theorem open_fields {t : TypeId} {fs : Array Field} {L : List (TypeId × Nat)} {cs : List Value} {x : DataW H × List MemPlace} (hu : Tryz.prog.underlying t = some (.struct fs)) (hfs : fs.toList.map (fun f => (f.type, f.offset)) = L)
    (h : DataW.trod enc Tryz.prog W base (fun _ => true) held fuel t cs = some x) (hw : ∀ n ∈ x.1.weights Tryz.prog t, n ≤ reachBytes) :
    ∃ n, ∀ (i : Nat) (t' o : Nat), L[i]? = some (t', o) → ∃ y, DataW.trod enc Tryz.prog W base (fun _ => true) held n t' ((cs.drop o).take (Tryz.prog.cellsOf t')) = some y ∧ (∀ k ∈ y.1.weights Tryz.prog t', k ≤ reachBytes) ∧ bulk y.1 ≤ bulk x.1 := by
  obtain ⟨xs, n, _, rfl, _, hxl, hall⟩ := DataW.trod_struct hu h
  refine ⟨n, fun i t' o hi => ?_⟩
  rw [← hfs, List.getElem?_map] at hi
  obtain ⟨f, hf, he⟩ := Option.map_eq_some_iff.1 hi
  cases he
  have hf' : fs[i]? = some f := by simpa using hf
  have h1 := hall i f hf'
  have hil : i < xs.length := by rw [hxl]; exact (Array.getElem?_eq_some_iff.1 hf').1
  rw [List.getElem?_eq_getElem hil] at h1
  refine ⟨xs[i], h1, fun k hk => hw k ?_, ?_⟩
  · simp only [DataW.weights, hu]
    exact DataW.weights_mem_each (j := i) (t := f.type) (d := xs[i].1) (by rw [List.getElem?_map, hf]; rfl) (by rw [List.getElem?_map, List.getElem?_eq_getElem hil]; rfl) k hk
  · have hm : xs[i].1 ∈ xs.map (·.1) := List.mem_map.2 ⟨xs[i], List.getElem_mem hil, rfl⟩
    have := bulk_part hm
    show _ ≤ Rows.uptoBulk (.agg (xs.map (·.1)))
    simp only [Rows.uptoBulk]; omega
theorem open_u8 {cs : List Value} {x : DataW H × List MemPlace} (h : DataW.trod enc Tryz.prog W base (fun _ => true) held fuel 5 cs = some x) : ∃ b : UInt8, cs = [.int .u8 (b.toNat : Int)] := by
  have : ∃ n, cs = [.int .u8 n] ∧ (Lit.int .u8 n).wf = true := by
    cases fuel with
    | zero => simp [DataW.trod] at h
    | succ m =>
      unfold DataW.trod at h
      rw [ub] at h
      split at h <;> simp_all
  obtain ⟨n, rfl, hn⟩ := this
  have hr : 0 ≤ n ∧ n < 256 := by
    have h1 : IntKind.min .u8 = 0 := rfl
    have h2 : IntKind.max .u8 = 255 := rfl
    simp [Lit.wf, h1, h2] at hn
    omega
  refine ⟨UInt8.ofNat n.toNat, ?_⟩
  have : (UInt8.ofNat n.toNat).toNat = n.toNat := by
    rw [UInt8.toNat_ofNat']
    exact Nat.mod_eq_of_lt (by omega)
  rw [this]
  congr 2
  omega
theorem open_bytes {cs : List Value} {x : DataW H × List MemPlace} (h : DataW.trod enc Tryz.prog W base (fun _ => true) held fuel 30 cs = some x) (hw : ∀ n ∈ x.1.weights Tryz.prog 30, n ≤ reachBytes) :
    ∃ (s : Sl) (l : List UInt8), cs = [.slice s.a s.len s.cap] ∧ SlX W s 1 (bv l) ∧ l.length ≤ 2 ^ 47 := by
  obtain ⟨s, rows, rfl, hs, hl, hby, hr⟩ := open_rows uBytes cby (by decide) h hw
  obtain ⟨xs, ls, h1, h2, h3, h4⟩ := rows_of2 (cs := [.int .u8]) (β := UInt8) (Q := fun x y => x.1 = (y.toNat : Int)) rows (fun r hr' => by
    obtain ⟨_, n, y, hy, _⟩ := hr r hr'
    obtain ⟨b, rfl⟩ := open_u8 hy
    exact ⟨((b.toNat : Int), ()), b, rfl, rfl⟩)
  refine ⟨s, ls, rfl, ?_, ?_⟩
  · rw [h1] at hs
    have e : flat [.int .u8] xs = bv ls := by
      clear h1 h2 hs
      induction xs generalizing ls with
      | nil =>
        cases ls with
        | nil => rfl
        | cons y r => simp at h3
      | cons x r ih =>
        cases ls with
        | nil => simp at h3
        | cons y q =>
          have h0 := h4 0 x y rfl rfl
          have := ih q (by simpa using h3) fun i x' y' hx hy => h4 (i + 1) x' y' (by simpa using hx) (by simpa using hy)
          simp only [flat, List.flatMap_cons] at this ⊢
          rw [this]
          obtain ⟨n, ⟨⟩⟩ := x
          dsimp only at h0
          subst h0
          rfl
    rw [e] at hs; exact hs
  · rw [← h3, h2, hl]
    rw [bby] at hby
    unfold reachBytes at hby
    omega
structure LAsk where
  kind : Int
  at_ : Int
  b : Int
  mkd : Int
  count : Int
  arg : Int
  past : Bool
end
section
variable {H : Type} {enc : TypeId × Value → H} {W : World} {base : Nat}
end
end Go.Proofs.YtmooldhpiopcgaaGreatDoor
set_option linter.unusedSimpArgs false
set_option linter.unusedVariables false
set_option maxRecDepth 100000
namespace Go.Proofs.YtmooldhpiopcgaaGreatDoor
namespace Dq
open Go Go.Vx Go.ChangeShapes Go.WideShapes Go.RowKit Dsk Cdc
theorem cstr : Tryz.prog.cellsOf 9 = 1 := by kernel_rfl
theorem cffile : Tryz.prog.cellsOf 65 = 2 := by kernel_rfl
theorem cffiles : Tryz.prog.cellsOf 37 = 1 := by kernel_rfl
theorem cscene : Tryz.prog.cellsOf 39 = 4 := by kernel_rfl
theorem uFFiles : Tryz.prog.underlying 37 = some (.slice 65) := by kernel_rfl
theorem sFFile : ∃ fs : Array Field, Tryz.prog.underlying 65 = some (.struct fs) ∧ fs.toList.map (fun f => (f.type, f.offset)) = [(9, 0), (30, 1)] := ⟨_, i65_ok.und, rfl⟩
theorem sScene : ∃ fs : Array Field, Tryz.prog.underlying 39 = some (.struct fs) ∧ fs.toList.map (fun f => (f.type, f.offset)) = [(37, 0), (9, 1), (3, 2), (30, 3)] := ⟨_, i39_ok.und, rfl⟩
section
variable {H : Type} {enc : TypeId × Value → H} {W : World} {base fuel : Nat} {held : Bool}
theorem open_strB {cs : List Value} {x : DataW H × List MemPlace} (h : DataW.trod enc Tryz.prog W base (fun _ => true) held fuel 9 cs = some x) (hb : bulk x.1 ≤ 1048576) : ∃ s : ByteArray, cs = [.string s] ∧ s.size < 1048576 := by
  obtain ⟨s, e1, e2, _⟩ := DataW.trod_string uStr h
  refine ⟨s, e1, ?_⟩
  have hb : Rows.uptoBulk x.1 ≤ 1048576 := hb
  rw [e2] at hb
  simp only [Rows.uptoBulk] at hb
  have : s.data.toList.length = s.size := by simp
  omega
theorem open_bytesB {cs : List Value} {x : DataW H × List MemPlace} (h : DataW.trod enc Tryz.prog W base (fun _ => true) held fuel 30 cs = some x) (hw : ∀ n ∈ x.1.weights Tryz.prog 30, n ≤ reachBytes) (hb : bulk x.1 ≤ 1048576) :
    ∃ (s : Sl) (l : List UInt8), cs = [.slice s.a s.len s.cap] ∧ SlX W s 1 (bv l) ∧ l.length ≤ 1048576 := by
  obtain ⟨s, l, e, h1, _⟩ := open_bytes h hw
  obtain ⟨s', _, e', _, _, hl, _⟩ := open_rowsB uBytes cby (by decide) h hw
  refine ⟨s, l, e, h1, ?_⟩
  rw [e] at e'
  have : s.len = s'.len := by simp at e'; exact e'.2.1
  have := bys_len h1
  omega
theorem open_file {cs : List Value} {x : DataW H × List MemPlace} (hl : cs.length = 2) (h : DataW.trod enc Tryz.prog W base (fun _ => true) held fuel 65 cs = some x) (hw : ∀ n ∈ x.1.weights Tryz.prog 65, n ≤ reachBytes) (hb : bulk x.1 ≤ 1048576) :
    ∃ (y : Cells.T c65) (o : Nm × List UInt8), cs = Cells.vals c65 y ∧ (y.1 = o.1 ∧ Bytes W y.2.1 o.2 ∧ o.1.size < 2 ^ 62 ∧ o.2.length ≤ 2 ^ 30) := by
  obtain ⟨fs, hu, hfs⟩ := sFFile
  obtain ⟨n, hall⟩ := open_fields hu hfs h hw
  obtain ⟨v0, v1, rfl⟩ : ∃ v0 v1, cs = [v0, v1] := by
    match cs, hl with
    | [v0, v1], _ => exact ⟨v0, v1, rfl⟩
  obtain ⟨y0, h0, _, hb0⟩ := hall 0 _ _ rfl
  obtain ⟨y1, h1, hw1, hb1⟩ := hall 1 _ _ rfl
  rw [cstr] at h0
  rw [cbs] at h1
  obtain ⟨n0, e0, i0⟩ := open_strB h0 (by omega)
  obtain ⟨s1, l1, e1, g1, k1⟩ := open_bytesB h1 hw1 (by omega)
  simp at e0 e1
  subst e0 e1
  exact ⟨(n0, s1, ()), (n0, l1), rfl, rfl, g1, by dsimp only; omega, by dsimp only; omega⟩
theorem open_files {cs : List Value} {x : DataW H × List MemPlace} (h : DataW.trod enc Tryz.prog W base (fun _ => true) held fuel 37 cs = some x) (hw : ∀ n ∈ x.1.weights Tryz.prog 37, n ≤ reachBytes) (hb : bulk x.1 ≤ 1048576) :
    ∃ (s : Sl) (rows : List (Cells.T c65)) (fs : Fls), cs = [.slice s.a s.len s.cap] ∧ FlsIn W s rows fs := by
  obtain ⟨s, rows, rfl, hs, hl, hby, hr⟩ := open_rowsB uFFiles cffile (by decide) h hw
  obtain ⟨xs, ls, h1, h2, h3, h4⟩ := rows_of2 (cs := c65) (β := Nm × List UInt8) (Q := fun y o => y.1 = o.1 ∧ Bytes W y.2.1 o.2 ∧ o.1.size < 2 ^ 62 ∧ o.2.length ≤ 2 ^ 30) rows (fun r hr' => by
    obtain ⟨hrl, n, y, hy, hwy, hby⟩ := hr r hr'
    exact open_file hrl hy hwy (by omega))
  rw [h1] at hs
  exact ⟨s, xs, ls, rfl, hs, h3, h4⟩
theorem open_scene {cs : List Value} {x : DataW H × List MemPlace} (hl : cs.length = 4) (h : DataW.trod enc Tryz.prog W base (fun _ => true) held fuel 39 cs = some x) (hw : ∀ n ∈ x.1.weights Tryz.prog 39, n ≤ reachBytes) (hb : bulk x.1 ≤ 1048576) :
    ∃ (y : Cells.T c39) (rows : List (Cells.T c65)) (fs : Fls) (data : List UInt8), cs = Cells.vals c39 y ∧ Scn W y rows fs data := by
  obtain ⟨fs, hu, hfs⟩ := sScene
  obtain ⟨n, hall⟩ := open_fields hu hfs h hw
  obtain ⟨v0, v1, v2, v3, rfl⟩ : ∃ v0 v1 v2 v3, cs = [v0, v1, v2, v3] := by
    match cs, hl with
    | [v0, v1, v2, v3], _ => exact ⟨v0, v1, v2, v3, rfl⟩
  obtain ⟨y0, h0, hw0, hb0⟩ := hall 0 _ _ rfl
  obtain ⟨y1, h1, hw1, hb1⟩ := hall 1 _ _ rfl
  obtain ⟨y2, h2, hw2, hb2⟩ := hall 2 _ _ rfl
  obtain ⟨y3, h3, hw3, hb3⟩ := hall 3 _ _ rfl
  rw [cffiles] at h0
  rw [cstr] at h1
  rw [ci] at h2
  rw [cbs] at h3
  obtain ⟨s0, rows, fl, e0, g0⟩ := open_files h0 hw0 (by omega)
  obtain ⟨n1, e1, i1⟩ := open_strB h1 (by omega)
  obtain ⟨n2, e2, _⟩ := open_i64 ui h2
  obtain ⟨s3, l3, e3, g3, k3⟩ := open_bytesB h3 hw3 (by omega)
  simp at e0 e1 e2 e3
  subst e0 e1 e2 e3
  exact ⟨(s0, n1, n2, s3, ()), rows, fl, l3, rfl, g0, g3, by dsimp only; omega, by omega⟩
theorem arg_scene {v : Value} {d : DataW H} {p : List MemPlace} (hv : Value.okWide Tryz.prog W .any base 39 v) (h : DataW.Trod enc Tryz.prog W 0 (fun _ => true) true 39 v d p) (hw : ∀ n ∈ d.weights Tryz.prog 39, n ≤ reachBytes) (hb : bulk d ≤ 1048576) :
    ∃ (y : Cells.T c39) (rows : List (Cells.T c65)) (fs : Fls) (data : List UInt8), v = .agg (scells y) ∧ Scn W y rows fs data := by
  obtain ⟨fs, hu, _⟩ := sScene
  obtain ⟨cs, rfl, hsz⟩ := okWide_struct hu hv
  obtain ⟨n, hn⟩ := h
  rw [cscene] at hsz
  obtain ⟨y, rows, fl, l, e, h1⟩ := open_scene (cs := cs.toList) (by simpa using hsz) (by simpa [Value.cells] using hn) hw hb
  exact ⟨y, rows, fl, l, by show _ = Value.agg (Cells.vals c39 y).toArray; rw [← e], h1⟩
end
section
variable {H : Type} {enc : TypeId × Value → H} {W : World} {base : Nat}
end
theorem list_3 {α : Type} (l : List α) (h : l.length = 3) : ∃ v0 v1 v2, l = [v0, v1, v2] := by
  match l, h with
  | [v0, v1, v2], _ => exact ⟨v0, v1, v2, rfl⟩
theorem recScene : Tryz.prog.readableRec 39 = true := by kernel_rfl
theorem recBool : Tryz.prog.readableRec 4 = true := by kernel_rfl
theorem recs3 {t : TypeId} (h : t = 39 ∨ t = 9 ∨ t = 4) : Tryz.prog.readableRec t = true ∧ t < Tryz.prog.types.size := by
  rcases h with rfl | rfl | rfl
  · exact ⟨recScene, by rw [typesN]; decide⟩
  · exact ⟨recStr, by rw [typesN]; decide⟩
  · exact ⟨recBool, by rw [typesN]; decide⟩
end Dq
end Go.Proofs.YtmooldhpiopcgaaGreatDoor
set_option linter.unusedSimpArgs false
set_option linter.unusedVariables false
namespace Go.Proofs.YtmooldhpiopcgaaGreatDoor
namespace Dq
open Go Go.Vx Go.ChangeShapes Go.WideShapes Go.RowKit
theorem and2 {a b : Bool} (h : a = true) (h' : b = true) : (a && b) = true := by rw [h, h']; rfl
theorem saveCopied_witness (os : Os) {H : Type} (enc : TypeId × Value → H) :
    (Rows.OpenSpec.upto Rows.saveCopiedSpec).preRow enc Tryz.prog Tryz.f7 Rows.saveCopiedUptoRow.domain false laidL ((laidWorld os).forCall (fun _ _ => 0) ⟨#[], #[.agg #[.slice none 0 0, .string ⟨#[]⟩, .int .i64 0, .slice none 0 0], .string ⟨#[]⟩, .bool false], []⟩).memory #[.agg #[.slice none 0 0, .string ⟨#[]⟩, .int .i64 0, .slice none 0 0], .string ⟨#[]⟩, .bool false] := by
  have hw : (DataW.whole enc Tryz.prog ((laidWorld os).forCall (fun _ _ => 0) ⟨#[], #[.agg #[.slice none 0 0, .string ⟨#[]⟩, .int .i64 0, .slice none 0 0], .string ⟨#[]⟩, .bool false], []⟩).memory Tryz.f7.params.toList (Rows.OpenSpec.upto Rows.saveCopiedSpec).vars false (#[.agg #[.slice none 0 0, .string ⟨#[]⟩, .int .i64 0, .slice none 0 0], .string ⟨#[]⟩, .bool false] : Array Value).toList 8).map (fun x => (x.1, x.2.1)) =
      some ([.agg [.nil, .lit (.string []), .lit (.int .i64 0), .nil], .lit (.string []), .lit (.bool false)], []) := by kernel_rfl
  obtain ⟨⟨x1, x2, x3⟩, hx, hx1⟩ := Option.map_eq_some_iff.1 hw
  simp only [Prod.mk.injEq] at hx1
  obtain ⟨rfl, rfl⟩ := hx1
  exact OpenSpec.preRow_of_cond 8 hx (by kernel_rfl) (fun k hk => by cases hk; kernel_rfl) (by kernel_rfl) (laid_met os _)
set_option maxRecDepth 100000 in
set_option maxHeartbeats 2000000 in
theorem saveCopied_lifted (os : Os) (started : os.Started) (H : Type) (enc : TypeId × Value → H) (F : Stop.Interp) :
    ReturnsInHanded {} Tryz.checked os 7 .any ((Rows.OpenSpec.upto Rows.saveCopiedSpec).preRow enc Tryz.prog Tryz.f7 Rows.saveCopiedUptoRow.domain false laidL) (((Rows.OpenSpec.upto Rows.saveCopiedSpec).at F).post enc Tryz.prog Tryz.f7 false true false false) := by
  refine returnsInHanded_of_row (C := Tryz.checked) (s := Rows.OpenSpec.upto Rows.saveCopiedSpec) own started (by kernel_rfl) Tryz.func7
    (witness_row_atRef (enc := enc) (C := Tryz.checked) false (laidWorld os) #[.agg #[.slice none 0 0, .string ⟨#[]⟩, .int .i64 0, .slice none 0 0], .string ⟨#[]⟩, .bool false] rfl (by kernel_rfl) (by kernel_rfl) (by kernel_rfl) (saveCopied_witness os enc)) ?_
  intro W base args ds gs before hval0 hW _ hk hwt0 hL _ _
  have hval : ∀ (j : Nat) t v, Tryz.f7.params[j]? = some t → args[j]? = some v → Value.okWide Tryz.prog W .any base t v := hval0
  have hwt : (DataW.weightsEach Tryz.prog (Tryz.f7.params.toList ++ []) (ds ++ gs)).all (· ≤ reachBytes) = true := hwt0
  have hW' := hW
  obtain ⟨p, q, hA0, hV, rfl, hfz, hnd⟩ := hW
  have hA : DataW.TrodAll enc Tryz.prog W 0 (fun _ => true) true Tryz.f7.params.toList args.toList ds p := hA0
  clear hA0 hval0 hwt0
  rw [Tryz.params7] at hA hval hwt
  obtain ⟨rfl, rfl⟩ := trodVars_none hV
  obtain ⟨hn1, hn2, hT⟩ := trodAll_get hA
  obtain ⟨v0, v1, v2, hv⟩ := list_3 args.toList hn1
  obtain rfl : args = #[v0, v1, v2] := by cases args; simp_all
  obtain ⟨d0, d1, d2, rfl⟩ := list_3 ds hn2
  have hbulk0 : bulk d0 ≤ 1048576 := by
    have h : Rows.uptoBulkAll ([d0, d1, d2] ++ []) ≤ 1048576 := of_decide_eq_true (hk _ rfl)
    simp only [List.append_nil, Rows.uptoBulkAll] at h
    show Rows.uptoBulk d0 ≤ _
    omega
  have hbulk1 : bulk d1 ≤ 1048576 := by
    have h : Rows.uptoBulkAll ([d0, d1, d2] ++ []) ≤ 1048576 := of_decide_eq_true (hk _ rfl)
    simp only [List.append_nil, Rows.uptoBulkAll] at h
    show Rows.uptoBulk d1 ≤ _
    omega
  have hbulk2 : bulk d2 ≤ 1048576 := by
    have h : Rows.uptoBulkAll ([d0, d1, d2] ++ []) ≤ 1048576 := of_decide_eq_true (hk _ rfl)
    simp only [List.append_nil, Rows.uptoBulkAll] at h
    show Rows.uptoBulk d2 ≤ _
    omega
  obtain ⟨p0, q0⟩ := hT 0 39 v0 d0 rfl rfl rfl
  obtain ⟨p1, q1⟩ := hT 1 9 v1 d1 rfl rfl rfl
  obtain ⟨p2, q2⟩ := hT 2 4 v2 d2 rfl rfl rfl
  obtain ⟨y, rows, fl, data, rfl, hsc⟩ := arg_scene (hval 0 39 v0 rfl rfl) q0 (weigh hwt 0 rfl rfl) hbulk0
  obtain ⟨nm, rfl, hnm⟩ := arg_str (hval 1 9 v1 rfl rfl) q1 hbulk1
  obtain ⟨force, rfl⟩ := okWide_bool u4 (hval 2 4 v2 rfl rfl)
  have walk := copied_walk (laid_of hL) hsc (nm := nm) (force := force) (by omega) (K := fun r w' => r = true ∧ Ext W w') fun w' e => ⟨rfl, e⟩
  refine walk.mono fun e W' ⟨x, he, hx, hext⟩ => ⟨.bool true, ?_, ?_⟩
  · subst hx; exact he
  · exact post_same (s := Rows.saveCopiedSpec) hW' rfl rfl u4 rfl laidOut (fun t ht => by
      rw [Tryz.params7] at ht
      have ht : t ∈ [39, 9, 4] := ht
      simp only [List.mem_cons, List.not_mem_nil, or_false] at ht
      exact recs3 ht) hext
set_option maxHeartbeats 0 in
theorem saveCopied_facts : joinedFacts Tryz.pinned.checked.prog 7 Tryz.f7 (Rows.OpenSpec.upto Rows.saveCopiedSpec).bare Rows.saveCopiedUptoRow = true := by
  unfold joinedFacts
  with_reducible repeat' apply and2
  all_goals as_aux_lemma => kernel_rfl
theorem saveCopied_row : Rows.SaveCopiedUptoSaid :=
  OpenClaim.holds_of_cond 7 Tryz.f7 rfl rfl rfl rfl rfl rfl rfl ⟨rfl, rfl, rfl, rfl, rfl⟩ rfl rfl rfl rfl rfl (by as_aux_lemma => kernel_rfl) Tryz.func7 saveCopied_facts
    (of_decide_eq_true (by as_aux_lemma => kernel_rfl)) (by unfold Func.isWrapper; rw [if_neg (by as_aux_lemma => decide +kernel)]; exact ⟨rfl, rfl⟩)
    (fun os started H enc _ F => by rw [OpenClaim.pre_eq_preRow]; exact saveCopied_lifted os started H enc F)
end Dq
theorem saveCopied_holds : Rows.SaveCopiedUptoCardSaid :=
  Claim7.holds_tied_plain_at .later [] [.handle] true (true, "8fa86d716e3cbb5d44ad5d616054dc9adf16b2d155b2b8fa930f25b85a3d54ce") true
    Dq.saveCopied_row (fun _ h => by cases h) (by as_aux_lemma => kernel_rfl) (fun _ h => by cases h) saveCopiedUpto_row_tie rfl ⟨rfl, rfl⟩ (by as_aux_lemma => kernel_rfl) rfl
    (fun f fn hf hfn => by
      obtain rfl : f = 7 := Option.some.inj ((show Tryz.prog.funcNamed "copyist/copyistlaw17.SaveCopied" = some 7 by as_aux_lemma => kernel_rfl).symm.trans hf) |>.symm
      obtain rfl : fn = Tryz.f7 := (Option.some.inj (Tryz.func7.symm.trans hfn)).symm
      exact ⟨by as_aux_lemma => kernel_rfl, fun j t ht => by
        rw [Tryz.params7] at ht
        have hm : t ∈ [39, 9, 4] := by simpa using Array.mem_of_getElem? ht
        have hall : ([39, 9, 4].all fun u => !Tryz.prog.wantsStandIn u) = true := by as_aux_lemma => kernel_rfl
        exact (show Tryz.prog.wantsStandIn t = false by simpa using List.all_eq_true.1 hall t hm)⟩)
    (by as_aux_lemma => kernel_rfl)
end Go.Proofs.YtmooldhpiopcgaaGreatDoor
