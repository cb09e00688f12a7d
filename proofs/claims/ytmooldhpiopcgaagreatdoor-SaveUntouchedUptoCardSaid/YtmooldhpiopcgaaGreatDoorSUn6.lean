/- The law holds for every input: it returns true, and each argument reads behind the call as it did. Conditions: those of the form alone. -/
import Derived.Test.YtmooldhpiopcgaaGreatDoorSUn5
set_option linter.unusedVariables false
set_option linter.unusedSimpArgs false
set_option linter.unusedSectionVars false
set_option linter.unusedSimpArgs false
set_option linter.unusedVariables false
set_option maxRecDepth 100000
namespace Go.Proofs.YtmooldhpiopcgaaGreatDoor
namespace Dq
open Go Go.Vx Dsk Cdc Trx Flp
section
variable {w w' : World} {S F F' : Nat → Prop} {d : Nat} {D : Dk} {N : Nat} {g : List UInt8 → Int} {fs : Fls} {n : Nm} {enc : Int} {X : Fil} {lod : Lod} {V : Vw} {b : List UInt8}
theorem Start.same (h : Start g fs n enc D X lod) {D' : Dk} {X' : Fil} {lod' : Lod} (h' : Start g fs n enc D' X' lod') : lod' = lod ∧ X'.mark = X.mark := by
  have a := h.at_
  have b := h'.at_
  split at a
  · rename_i c hc
    rw [hc] at b
    exact ⟨b.1.trans a.1.symm, b.2.trans a.2.symm⟩
  · rename_i hc
    rw [hc] at b
    exact ⟨b.1.trans a.1.symm, b.2.trans a.2.symm⟩
section
variable {st f : Nat} {sm sd so : Sl} {new was : Bool} {dat old : List UInt8} {B : Nat} {k : Int} {e : Enc}
theorem Stg.asideL (h : Stg w st d f F D N X sm sd so enc new was dat old B) {b : Nat} (h0 : b ≠ 0) {c : Array Value} {fr : Nat × Nat} (hb : w.heap[b]? = some (.cells c 32 fr)) (u : Upd (fun k => k = b) w w') : Stg w' st d f F D N X sm sd so enc new was dat old B := by
  have nF : ¬ F b := fun hh => h.disk.no (t := 32) (fun _ => rfl) b hh c fr hb
  have by_ : ∀ {s : Sl} {l : List UInt8}, SlIn w s 5 1 (bv l) → ∀ k, s.blk k → k ≠ b := fun hs k hk hh => by
    obtain ⟨c', fr', hc⟩ := hs.blk_cells hk
    rw [hh, hb] at hc; cases hc
  have hst : st ≠ b := fun hh => by have := h.box; rw [hh, hb] at this; cases this
  have hf : f ≠ b := fun hh => by have := h.file.at_.box; rw [hh, hb] at this; cases this
  refine ⟨u.get h.box hst, h.disk.frame u fun k hk hh => nF (hh ▸ hk), ⟨h.file.at_.upd u hf fun k hk hh => by_ h.file.at_.mkr k hk hh, h.file.nf, h.file.nm, h.file.laid.upd u fun hh => ?_, h.file.small, h.file.name, h.file.nz⟩, h.old.upd u fun k _ hk hh => by_ h.old.in k hk hh, h.dat.upd u fun k _ hk hh => by_ h.dat.in k hk hh, h.oF, h.dF, h.nst, h.lst, h.lf, h.lF⟩
  exact h0 hh.symm
end
set_option maxHeartbeats 4000000 in
theorem untouched_walk (hl : LaidE w) {x : Cells.T c39} {rows : List (Cells.T c65)} {data : List UInt8} (h : Scn w x rows fs data) {K : Bool → World → Prop} (hK : ∀ w', Ext w w' → K true w') :
    callT Tryz.prog 4 #[.agg (scells x)] (.one (.one .bool)) K w := by
  refine F4_calls (a0 := x) ?_
  unfold F4
  refine newO_r fun b1 w1 e1 n1 hb1 hz1 => able_call (hl.ext e1) fun w2 e2 => sif_r (fun h => by cases h) fun _ => ?_
  have n1 : w1.heap[b1]? = some (.cells (scells x) 39 (0, 0)) := n1
  have sl : ∀ {W : World}, W.heap[b1]? = some (.cells (scells x) 39 (0, 0)) → ∀ {K : Cells.T c39 → World → Prop}, K x W → lds c39 (at0 b1) K W := fun hb _ hk =>
    lds_r (x := x) hb (fun i v hv => by rw [Nat.zero_add, ← Array.getElem?_toList]; exact hv) hk
  refine sl (e2.ext_get n1) (small_call ((h.ext e1).ext e2) fun w3 e3 => sif_r (fun _ => hK _ ((e1.trans e2).trans e3)) fun hs => ?_)
  have hs : smallP fs x.2.1 x.2.2.1 data = true := by simpa using hs
  obtain ⟨hu, he, hdl, hfl, hfs⟩ := small_all hs
  obtain ⟨hn, hsn⟩ := side_ok hu
  have e13 := e2.trans e3
  have h3 := (h.ext e1).ext e13
  have n3 := e13.ext_get n1
  have fin : ∀ {W : World}, Ext w3 W → Ext w W := fun e => (e1.trans e13).trans e
  clear e2 e3
  refine sl n3 (set_call ((hl.ext e1).ext e13) h3 hs fun w4 st d f F D X sm sd so lod e4 hst hS => ?_)
  obtain ⟨hm1, hm2⟩ := hS.mark_is
  have hm3 := hS.mark3
  have hold := old_le (fun f hf => (hfs f hf).2) x.2.1
  have hXn := hS.name
  have hwh := hS.whole
  have hdl2 := hS.dlen
  obtain ⟨old, hOld⟩ : ∃ old, old = (viewOf fs x.2.1).getD [] := ⟨_, rfl⟩
  rw [← hOld] at hst hm1 hm2 hold hwh hdl2
  have n4 := e4.ext_get n3
  have z4 := e4.size
  have hso := bys_len hst.old.in.x
  refine join_r (fun y W => y = (false, ()) ∧ Ext w4 W) ?_ ?_
  · refine drew_r fun w5 e5 _ => sif_r (fun h => by cases h) fun _ => nn_some ?_
    have s5 := hst.ext e5
    rw [addr_add, addr_add]
    refine ld_r s5.box (off := 0 + 2 + 2) (x := sd) rfl (nn_some ?_)
    rw [addr_add]
    refine ld_r s5.box (off := 0 + 6) (x := so) rfl (whole_call s5 hm2 (by omega) s5.dat.in.x (by omega) fun w6 s6 o6 e6 => keep_r (cell_of (off := 0 + 6) (e6.ext_get s5.box) rfl) ?_)
    refine same_call o6.in.x (s5.ext e6).old.in.x (by rw [List.length_append, List.length_take]; omega) fun w7 e7 => ⟨?_, (e5.trans e6).trans e7⟩
    rw [decide_eq_true (show old.take X.mark.length ++ lod.data = old by rw [← hm1]; exact hwh)]; rfl
  rintro _ w5 ⟨rfl, e5⟩
  refine sif_false (nn_some ?_)
  have s5 := hst.ext e5
  have n5 := e5.ext_get n4
  rw [addr_add]
  refine ld_r s5.box (off := 0 + 6) (x := so) rfl (detect_call s5.old.in.x ?_)
  dsimp only
  have hrng := hS.rng
  refine join_r (fun y W => y = (false, ()) ∧ Ext w5 W) ?_ ?_
  · refine drew_r fun w6 e6 _ => ?_
    have s6 := s5.ext e6
    have n6 := e6.ext_get n5
    have le : ∀ {K : Int → World → Prop}, K x.2.2.1 w6 → ld (.int .i64) (⟨b1, 2, none⟩ : Addr) K w6 := fun hk => ld_r n6 (off := 2) (x := x.2.2.1) rfl hk
    have z : ∀ {K : Bool × Unit → World → Prop}, K (false, ()) w6 → x.2.2.1 = 0 → sif ((detectP old).1 != (0 : Int)) (nn (some (at0 st)) fun p25 => ld (.int .i64) (p25.add 2) fun x26 => sif (x26 != (detectP old).1) (K (true, ())) (nn (some (at0 st)) fun p27 => ld (.int .i64) ((p27.add 2).add 1) fun x28 => K ((x28 != (detectP old).2), ()))) (K (false, ())) w6 := fun {K} hk h0 => by
      refine sif_r (fun hd => ?_) fun _ => hk
      have hd : (detectP old).1 ≠ 0 := by simpa using hd
      rw [hOld] at hd ⊢
      obtain ⟨d1, d2⟩ := hS.det h0 hd
      refine nn_some ?_
      rw [addr_add]
      refine ld_r s6.box (off := 0 + 2) (x := lod.enc) rfl (sif_r (fun h => ?_) fun _ => nn_some ?_)
      · rw [d1] at h; simp at h
      rw [addr_add, addr_add]
      refine ld_r s6.box (off := 0 + 2 + 1) (x := ((X.mark.length : Nat) : Int)) rfl ?_
      rw [d2, bne_self_eq_false]; exact hk
    refine le (sif_r (fun h0 => nn_some ?_) fun h0 => le (sif_r (fun h0 => z (K := fun y W => y = (false, ()) ∧ Ext w5 W) ⟨rfl, e6⟩ (by simpa using h0)) fun _ => ⟨rfl, e6⟩))
    have h0 : x.2.2.1 ≠ 0 := by simpa using h0
    have h1 := hS.encs he h0
    rw [addr_add]
    refine ld_r s6.box (off := 0 + 2) (x := lod.enc) rfl (le (sif_r (fun h => ?_) fun _ => le (sif_r (fun h => ?_) fun _ => ⟨rfl, e6⟩)))
    · rw [h1] at h; simp at h
    · exact absurd (by simpa using h) h0
  rintro _ w6 ⟨rfl, e6⟩
  refine sif_false (nn_some ?_)
  have s6 := s5.ext e6
  have n6 := e6.ext_get n5
  rw [addr_add]
  refine ld_r s6.box (off := 0 + 2) (x := lod.enc) rfl (markB_call fun sk w7 ok7 e7 => ?_)
  have hkl := bys_len ok7.in.x
  obtain ⟨k1, k2⟩ := hS.marks he
  rw [← hOld] at k2
  refine join_r (fun y W => y = (false, ()) ∧ Ext w7 W) ?_ ?_
  · refine drew_r fun w8 e8 _ => nn_some ?_
    have s8 := (s6.ext e7).ext e8
    have o8 := ok7.ext e8
    have lm : ∀ {K : Int → World → Prop}, K ((X.mark.length : Nat) : Int) w8 → ld (.int .i64) (((at0 st).add 2).add 1) K w8 := fun hk => by
      rw [addr_add, addr_add]; exact ld_r s8.box (off := 0 + 2 + 1) (x := ((X.mark.length : Nat) : Int)) rfl hk
    have lo : ∀ {K : Sl → World → Prop}, K so w8 → ld .sl ((at0 st).add 6) K w8 := fun hk => by
      rw [addr_add]; exact ld_r s8.box (off := 0 + 6) (x := so) rfl hk
    have hcap := s8.old.in.le
    have tail : ∀ {Kb : (Bool × Unit) → World → Prop}, (∀ W, Ext w8 W → Kb (false, ()) W) → ∀ (o1 o2 : Operand), sif (decide (((sk.len : Nat) : Int) > (0 : Int))) (
          nn (some (at0 st)) fun p43 =>
          ld (.int .i64) ((p43.add 2).add 1) fun (x44 : Int) =>
          nn (some (at0 st)) fun p45 =>
          ld (.sl) (p45.add 6) fun (x46 : Sl) =>
          sif (decide (((x46.len : Nat) : Int) ≥ ((sk.len : Nat) : Int))) (
            nn (some (at0 st)) fun p47 =>
            ld (.sl) (p47.add 6) fun (x48 : Sl) =>
            slc x48.a 0 ((sk.len : Nat) : Int) ((x48.cap : Nat) : Int) x48.cap 1 fun x49 =>
            callT Tryz.prog 22 #[(.slice x49.a x49.len x49.cap), (.slice sk.a sk.len sk.cap)] (.one (.one .bool)) fun (x50 : Bool) =>
            keep (fun w => w.cell? ((p43.add 2).add 1) = some (Cell.val (.int .i64) x44)) <|
            rdB Tryz.prog (do eqGuard .neq 4 o1 o2 (.bool (x44 == ((sk.len : Nat) : Int))) (.bool x50); binOp .neq 4 (.bool (x44 == ((sk.len : Nat) : Int))) (.bool x50) : Sem Value) fun r51 =>
            Kb (r51, ())) (
            rdB Tryz.prog (do eqGuard .neq 4 o1 o2 (.bool (x44 == ((sk.len : Nat) : Int))) (.bool false); binOp .neq 4 (.bool (x44 == ((sk.len : Nat) : Int))) (.bool false) : Sem Value) fun r52 =>
            Kb (r52, ()))) (
          Kb (false, ())) w8 := fun {Kb} hk o1 o2 => by
      refine sif_r (fun hp => ?_) fun _ => hk _ (Ext.refl _)
      have hp : 0 < sk.len := by have := of_decide_eq_true hp; omega
      have k2' := k2 (by omega)
      refine nn_some (lm (nn_some (lo (sif_r (fun hge => ?_) fun hlt => ?_))))
      · have hge : sk.len ≤ so.len := by have := of_decide_eq_true hge; omega
        refine nn_some (lo (slc_by s8.old.in (by omega) (by omega) (by omega) (by omega) (by omega) fun s9 hs9 hl9 _ => ?_))
        have et : (old.drop (0 : Int).toNat).take (((sk.len : Nat) : Int).toNat - (0 : Int).toNat) = old.take sk.len := rfl
        rw [et] at hs9
        refine same_call hs9.x o8.in.x (by rw [List.length_take]; omega) fun w9 e9 => keep_r ?_ (rdB_neqb u4b ?_)
        · rw [addr_add, addr_add]
          exact cell_of (off := 0 + 2 + 1) (e9.ext_get s8.box) rfl
        have hq : (((X.mark.length : Nat) : Int) == ((sk.len : Nat) : Int)) = decide (old.take sk.len = markP lod.enc) := by
          rw [Bool.eq_iff_iff, beq_iff_eq, decide_eq_true_eq]
          constructor
          · intro hh
            have := List.isPrefixOf_iff_prefix.1 (k2'.1 (by omega))
            rw [← hkl]
            exact (List.prefix_iff_eq_take.1 this).symm
          · intro hh
            have : X.mark.length = (markP lod.enc).length := k2'.2 (List.isPrefixOf_iff_prefix.2 (by rw [← hh]; exact List.take_prefix _ _))
            omega
        rw [hq, bne_self_eq_false]
        exact hk _ e9
      · have hlt : so.len < sk.len := by have := of_decide_eq_false hlt; omega
        refine rdB_neqb u4b ?_
        have hq : (((X.mark.length : Nat) : Int) == ((sk.len : Nat) : Int)) = false := by
          rw [beq_eq_false_iff_ne]; intro hh; omega
        rw [hq]
        exact hk _ (Ext.refl _)
    refine lm (sif_r (fun h0 => nn_some (lm (sif_r (fun h => ?_) fun _ => ?_))) fun h0 => ?_)
    · have h0 : ((X.mark.length : Nat) : Int) ≠ 0 := by simpa using h0
      have : X.mark.length = (markP lod.enc).length := k1.resolve_left (by omega)
      rw [this, hkl] at h; simp at h
    · exact tail (Kb := fun y W => y = (false, ()) ∧ Ext w7 W) (fun W e => ⟨rfl, e8.trans e⟩) _ _
    · exact tail (Kb := fun y W => y = (false, ()) ∧ Ext w7 W) (fun W e => ⟨rfl, e8.trans e⟩) _ _
  rintro _ w8 ⟨rfl, e8⟩
  refine sif_false ?_
  have e48 := ((e5.trans e6).trans e7).trans e8
  have s8 := hst.ext e48
  have n8 := e48.ext_get n4
  have h8 := h3.ext (e4.trans e48)
  have z48 := e48.size
  clear s5 s6 n5 n6 e5 e6 e7 e8 ok7
  obtain ⟨D2, X2, lod2, ho2, hS2, _, hmk2, _⟩ := start_plain (g := gG) guess_range hS.sol hS.space hS.names hu he (fun f hf => (hfs f hf).2)
  obtain ⟨sm1, sm2⟩ := hS.same hS2
  subst sm1
  have hmk2' : lod2.mark = ((X.mark.length : Nat) : Int) := by rw [hmk2, sm2]
  have s80 : LaidE w8 := s8.file.laid
  have p8 := s8.disk.pos
  have oc : ∀ {W : World}, Ext w8 W → ∀ {K : (Option Addr × (Int × Int × Sl × Bool × Unit) × Int × Unit) → World → Prop}, (∀ F' W' f2 s2, DS W' d F' D2 44 → Upd F W W' → (∀ k, F' k → F k ∨ W.heap.size ≤ k) → BytesO W' W.heap.size s2 lod2.data → (∀ k, s2.blk k → ¬ F' k) → K (some (at0 f2), (lod2.enc, lod2.mark, s2, lod2.new, ()), 0, ()) W') →
      callT Tryz.prog 18 #[.pointer (some (at0 d)), .string x.2.1, .int .i64 x.2.2.1, .int .i64 (65536 : Int)] (.tup [(.one .ptr), (.agg c32), (.one (.int .i64))]) K W := fun {W} eW {K} hk => by
    refine open_call (g := gG) (fun _ => .inl guess_ok) (s8.disk.ext eW) (by omega) (s80.ext eW) h.nm fun F' W' fo s2 R => ?_
    rw [ho2] at R ⊢
    obtain ⟨f2, sm2, rfl, _⟩ := R.file
    exact hk F' W' f2 s2 R.disk R.upd R.new R.data R.apart
  refine join_r (fun y W => ∃ f2 bL F' s2, y = (some (at0 f2), at0 bL, 0, ()) ∧ W.heap[bL]? = some (.cells (Cells.vals c32 (lodC lod2.enc lod2.mark s2 lod2.new)).toArray 32 (0, 0)) ∧ Stg W st d f F' D2 44 X sm sd so lod2.enc lod2.new (viewOf fs x.2.1).isSome lod2.data old w3.heap.size ∧ Upd F w8 W ∧ BytesO W w8.heap.size s2 lod2.data ∧ (∀ k, s2.blk k → ¬ F' k) ∧ ¬ F' bL ∧ w8.heap.size ≤ bL) ?_ ?_
  · refine drew_r fun w9 e9 _ => nn_some (ld_r (e9.ext_get s8.box) (off := 0) (x := some (at0 d)) rfl (ld_r (e9.ext_get n8) (off := 1) (x := x.2.1) rfl (ld_r (e9.ext_get n8) (off := 2) (x := x.2.2.1) rfl ⟨?_, ?_⟩)))
    · refine newO_r fun bL w10 e10 m10 hb10 hz10 => keep_r (cell_of (off := 2) (e10.ext_get (e9.ext_get n8)) rfl) (keep_r (cell_of (off := 1) (e10.ext_get (e9.ext_get n8)) rfl) (keep_r (cell_of (off := 0) (e10.ext_get (e9.ext_get s8.box)) rfl) ?_))
      have z9 := e9.size
      refine oc (e9.trans e10) fun F' w11 f2 s2 A11 u11 hF11 o11 hs11 => ?_
      have nFb : ¬ F bL := fun hh => by have := s8.disk.lt _ hh; omega
      have nFb' : ¬ F' bL := fun hh => (hF11 _ hh).elim nFb fun hl => by omega
      have m11 := u11.get m10 nFb
      have s11 := ((s8.ext e9).ext e10).turn A11 u11 hF11
      refine aggSt_r m11 rfl rfl (by decide) fun w12 u12 n12 z12 => ?_
      have n12 : w12.heap[bL]? = some (.cells (Cells.vals c32 (lodC lod2.enc lod2.mark s2 lod2.new)).toArray 32 (0, 0)) := n12
      refine ⟨f2, bL, F', s2, rfl, n12, s11.asideL (by omega) m11 u12, (((Upd.of_ext (e9.trans e10)).trans u11).new u12 fun k hk hh => by omega), (o11.mono (by omega)).upd u12 fun k _ hk hh => ?_, hs11, nFb', by omega⟩
      have := o11.blk_ge hk; omega
    · refine oc e9 fun F' w11 f2 s2 A11 u11 hF11 o11 hs11 => ⟨?_, trivial⟩
      have z9 := e9.size
      have z11 := u11.size
      have s11 := (s8.ext e9).turn A11 u11 hF11
      have nF1 : ¬ F b1 := fun hh => by have := hst.lF _ hh; have := lt_of_heap n3; omega
      refine newO_r fun bL w12 e12 m12 hb12 hz12 => keep_r (cell_of (off := 2) (e12.ext_get (u11.get (e9.ext_get n8) nF1)) rfl) (keep_r (cell_of (off := 1) (e12.ext_get (u11.get (e9.ext_get n8) nF1)) rfl) (keep_r (cell_of (off := 0) (e12.ext_get s11.box) rfl) ?_))
      have s12 := s11.ext e12
      refine aggSt_r m12 rfl rfl (by decide) fun w13 u13 n13 z13 => ?_
      have n13 : w13.heap[bL]? = some (.cells (Cells.vals c32 (lodC lod2.enc lod2.mark s2 lod2.new)).toArray 32 (0, 0)) := n13
      have nFb' : ¬ F' bL := fun hh => by have := A11.lt _ hh; omega
      refine ⟨f2, bL, F', s2, rfl, n13, s12.asideL (by omega) m12 u13, ((((Upd.of_ext e9).trans u11).trans (Upd.of_ext e12)).new u13 fun k hk hh => by omega), ((o11.ext e12).mono (by omega)).upd u13 fun k _ hk hh => ?_, hs11, nFb', by omega⟩
      have := o11.in.blk_lt hk; omega
  rintro _ w9 ⟨f2, bL, F9, s2, rfl, n9L, s9, u9, o9, hs9, nFL, hbL⟩
  have z9 := u9.size
  have nF1 : ¬ F b1 := fun hh => by have := hst.lF _ hh; have := lt_of_heap n3; omega
  have e39 : Ext w3 w9 := (e4.trans e48).step u9 fun k hk => hst.lF k hk
  have n9 := e39.ext_get n3
  refine join_r (fun y W => y = (false, ()) ∧ Ext w9 W) ?_ ?_
  · refine drew_r fun w10 e10 _ => sif_r (fun h => by cases h) fun _ => sif_r (fun h => by cases h) fun _ => ld_r (e10.ext_get n9L) (off := 0) (x := lod2.enc) rfl (nn_some ?_)
    rw [addr_add]
    refine ld_r (e10.ext_get s9.box) (off := 0 + 2) (x := lod2.enc) rfl (sif_r (fun h => ?_) fun _ => ?_)
    · rw [bne_self_eq_false] at h; cases h
    rw [addr_add]
    refine ld_r (e10.ext_get n9L) (off := 0 + 1) (x := lod2.mark) rfl (nn_some ?_)
    rw [addr_add, addr_add]
    refine ld_r (e10.ext_get s9.box) (off := 0 + 2 + 1) (x := ((X.mark.length : Nat) : Int)) rfl ⟨?_, e10⟩
    rw [hmk2', bne_self_eq_false]
  rintro _ w10 ⟨rfl, e10⟩
  refine sif_false (nn_some ?_)
  have s10 := s9.ext e10
  have n10L := e10.ext_get n9L
  have o10 := o9.ext e10
  have e3t := e39.trans e10
  rw [addr_add, addr_add]
  refine ld_r s10.box (off := 0 + 2 + 2) (x := sd) rfl (text_call s10 hrng s10.dat.in.x (by omega) fun w11 p e O M hT hM e11 hO => ?_)
  have s11 := s10.ext e11
  have t11 : TxOn w11 p e O M F9 f lod2.data := ⟨hT, hM, fun k hk => by
    have h1 := hO k hk
    exact ⟨fun hh => by have := s10.disk.lt k hh; omega, fun hh => by have := lt_of_heap s10.file.at_.box; omega⟩⟩
  have sol2 := hS2.sol
  have hTT : X.mark ++ lod2.data = old := hwh
  have hvb : ∀ m b, viewOf fs m = some b → b.length ≤ 60003 := fun m b hb => by
    have := view_all (P := fun _ b => b.length ≤ 60000) (fun f hf => (hfs f hf).2) m b hb; omega
  have hvs := view_side (fun f hf => (hfs f hf).1) x.2.1
  have hkn : knownAt D2 X = stampOf D2 X.name := by
    have hst2 : stampOf D2 x.2.1 = stampOf D x.2.1 := by
      have : D2 = (openP gG D x.2.1 x.2.2.1 65536).1 := by rw [ho2]
      rw [this]
      unfold openP
      rw [stamp_q hS.sol.q hn]
      dsimp only
      repeat' split
      all_goals first | rfl | (rw [read_q (D := { D with steps := D.steps + 1 }) ⟨hS.sol.q.up, hS.sol.q.plan⟩ hn]; rfl)
    unfold knownAt
    split
    · rfl
    · rw [hXn, hst2, hS.known]
  obtain ⟨c, q1, q2, q3, q4, _⟩ := sol_save (X := X) (b := lod2.data) (force := false) sol2 s11.disk.ok hS2.space (.inl hS2.names) (by rw [hXn]; exact hu) hvb (by rw [hXn]; exact hvs) hm3 (by omega) (.inr hkn.symm)
  rw [hTT, hXn] at q3
  refine join_r (fun y W => y = (false, ()) ∧ ∃ F' X', Stg W st d f F' (saveP D2 X lod2.data false).1 6000 X' sm sd so lod2.enc lod2.new (viewOf fs x.2.1).isSome lod2.data old w3.heap.size ∧ Upd (fun k => F9 k ∨ k = f) w11 W ∧ (∀ k, F' k → F9 k ∨ w11.heap.size ≤ k)) ?_ ?_
  · refine sif_r (fun h => by cases h) fun _ => nn_some ?_
    rw [addr_add]
    refine ld_r s11.box (off := 0 + 1) (x := some (at0 f)) rfl (saveT s11 t11 (by omega) fun F12 w12 s12 _ u12 hF12 => ?_)
    refine ⟨?_, F12, _, s12.mono (by omega), u12, hF12⟩
    rw [q1]; rfl
  rintro _ w12 ⟨rfl, F12, X12, s12, u12, hF12⟩
  refine sif_false ?_
  have ge9 : ∀ k, F9 k ∨ k = f → w3.heap.size ≤ k := fun k hk => by
    rcases hk with hk | hk
    · exact s9.lF k hk
    · rw [hk]; exact s9.lf
  have z3t := e3t.size
  have e3u : Ext w3 w12 := (e3t.trans e11).step u12 fun k hk => ge9 k hk
  have n12 := e3u.ext_get n3
  have l9L := lt_of_heap n9L
  have z10 := e10.size
  have z11 := e11.size
  have z12 := u12.size
  have fL : f ≠ bL := fun hh => by
    have := s9.file.at_.box
    rw [hh, n9L] at this; cases this
  have nfs2 : ¬ s2.blk f := fun hh => by
    obtain ⟨c', fr', hc⟩ := o9.in.blk_cells hh
    rw [s9.file.at_.box] at hc; cases hc
  have m12L := u12.get (e11.ext_get n10L) fun hh => hh.elim nFL fun hh => fL hh.symm
  have o12 : BytesO w12 w8.heap.size s2 lod2.data := (o10.ext e11).upd u12 fun k _ hk hh => hh.elim (hs9 k hk) fun hh => nfs2 (hh ▸ hk)
  have hs12 : ∀ k, s2.blk k → ¬ F12 k := fun k hk hh => (hF12 k hh).elim (hs9 k hk) fun hl => by have := o9.in.blk_lt hk; omega
  have nFL12 : ¬ F12 bL := fun hh => (hF12 _ hh).elim nFL fun hl => by omega
  refine drew_r fun w13 e13' _ => nn_some (ld_r (e13'.ext_get s12.box) (off := 0) (x := some (at0 d)) rfl (ld_r (e13'.ext_get n12) (off := 1) (x := x.2.1) rfl (nn_some ?_)))
  have s13 := s12.ext e13'
  rw [addr_add]
  refine ld_r s13.box (off := 0 + 6) (x := so) rfl (holds_call s13.disk (by omega) s13.old.in.x (by omega) (.inr s13.oF) fun F14 w14 A14 u14 hF14 => ?_)
  rw [read_sol q3 hn vset_at] at A14 ⊢
  rw [decide_eq_true (show (0 : Int) = 0 ∧ old = old from ⟨rfl, rfl⟩)]
  have s14 := s13.turn A14 u14 hF14
  have z13 := e13'.size
  have e3v : Ext w3 w14 := (e3u.trans e13').step u14 fun k hk => s13.lF k hk
  have hVo : ∀ m c, vset (viewOf fs) x.2.1 (some old) m = some c → m = x.2.1 ∨ ∃ (j : Nat) (f : Nm × List UInt8), fs[j]? = some f ∧ f.1 = m := own_A
  refine sif_r (fun _ => sl (e3v.ext_get n3) (others_call (w0 := w3) s14 (q3.st _) h3.files e3v rfl (fun f hf => (hfs f hf).1) (by omega) (by omega) hVo own_B (fun _ => by rw [vset_at]; simp) fun F15 w15 k15 s15 u15 hF15 => sif_r (fun _ => nn_some ?_) fun h => by cases h)) fun h => by cases h
  have z14 := u14.size
  have z15 := u15.size
  have m15L := u15.get (u14.get (e13'.ext_get m12L) nFL12) fun hh => (hF14 _ hh).elim nFL12 fun hl => by have := lt_of_heap m12L; omega
  have o15 : BytesO w15 w8.heap.size s2 lod2.data := ((o12.ext e13').upd u14 fun k _ hk hh => hs12 k hk hh).upd u15 fun k _ hk hh => (hF14 k hh).elim (hs12 k hk) fun hl => by have := o12.in.blk_lt hk; omega
  rw [addr_add, addr_add]
  refine ld_r s15.box (off := 0 + 2 + 2) (x := sd) rfl ?_
  rw [addr_add]
  refine ld_r m15L (off := 0 + 2) (x := s2) rfl (apart_call (B := w3.heap.size) s15.dat (o15.mono (by have := e4.size; omega)) (by have := e3v.size; omega) (fun k hk hh => ?_) (by omega) fun w16 u16 => ?_)
  · have h1 := o15.blk_ge hh
    have h2 := hst.dat.in.blk_lt hk
    omega
  · have e315 : Ext w3 w15 := e3v.step u15 fun k hk => s14.lF k hk
    exact hK _ (fin (e315.step u16 fun k hk => by
      rcases hk with hk | hk
      · exact s15.dat.blk_ge hk
      · have := o15.blk_ge hk; have := e4.size; omega))
end
end Dq
end Go.Proofs.YtmooldhpiopcgaaGreatDoor
set_option linter.unusedSimpArgs false
set_option linter.unusedVariables false
namespace Go.Vx
open Go Go.ChangeShapes
theorem cell_spot {w : World} {a : Addr} {v : Value} (h : w.cell? a = some v) : a.spot = none ∧ ∃ c t fr, w.heap[a.block]? = some (.cells c t fr) ∧ c[a.off]? = some v := by
  unfold World.cell? at h
  split at h
  · rename_i c t fr hh
    split at h
    · cases h
    · rename_i hs
      exact ⟨by cases hsp : a.spot with | none => rfl | some _ => rw [hsp] at hs; exact absurd rfl hs, c, t, fr, hh, h⟩
  · cases h
theorem add_spot (a : Addr) (n : Nat) (h : a.spot = none) : a.add n = ⟨a.block, a.off + n, none⟩ := by
  obtain ⟨b, o, s⟩ := a
  simp only at h
  subst h
  exact addr_add b o n
theorem cells_get {w : World} {base : Nat} {a : Addr} {n : Nat} {r : List Value} (h : w.cells? base a n = some r) : r.length = n ∧ ∀ j, j < n → w.cell? (a.add j) = r[j]? := by
  unfold World.cells? at h
  split at h
  · have hl := mapM_some_length h
    rw [List.length_range] at hl
    refine ⟨hl, fun j hj => ?_⟩
    exact mapM_some_get h j j (by simp [hj])
  · cases h
section
variable {H : Type} {enc : TypeId × Value → H} {P : Program} {W : World} {base fuel : Nat} {held : Bool}
theorem weights_all {e : TypeId} {d : DataW H} {n : Nat} (hn : n ∈ d.weights P e) : ∀ l : List (DataW H), d ∈ l → n ∈ DataW.weightsAll P e l
  | [], h => by cases h
  | x :: r, h => by
    simp only [DataW.weightsAll, List.mem_append]
    rcases List.mem_cons.1 h with rfl | h
    · exact .inl hn
    · exact .inr (weights_all hn r h)
theorem open_rowsM {t e : TypeId} {sz : Nat} {cs : List Value} {x : DataW H × List MemPlace} (ht : P.underlying t = some (.slice e)) (hsz : P.cellsOf e = sz) (hpos : 0 < sz)
    (h : DataW.trod enc P W base (fun _ => true) held fuel t cs = some x) (hw : ∀ n ∈ x.1.weights P t, n ≤ reachBytes) :
    ∃ (s : Sl) (rows : List (List Value)), cs = [.slice s.a s.len s.cap] ∧ SlX W s sz rows.flatten ∧ rows.length = s.len ∧ s.len * P.bytesOf e ≤ reachBytes ∧ (s.len = 0 ∨ ∃ els rst, x.1 = .slice els rst ∧ els.length = s.len) ∧
      ∀ r ∈ rows, r.length = sz ∧ ∃ n y, DataW.trod enc P W base (fun _ => true) held n e r = some y ∧ (∀ k ∈ y.1.weights P e, k ≤ reachBytes) ∧ ∃ els rst, x.1 = .slice els rst ∧ y.1 ∈ els := by
  rcases DataW.trod_slice ht h with ⟨rfl, rfl⟩ | ⟨a, len, cap, elems, rest, n, _, rfl, rfl, hb, hl, hm, hlen, hel, hsp, _⟩
  · exact ⟨⟨none, 0, 0⟩, [], rfl, ⟨.inl ⟨rfl, rfl⟩⟩, rfl, by simp, .inl rfl, fun r hr => by cases hr⟩
  obtain ⟨hrl, hre⟩ := hsp rfl
  subst hsz
  have each : ∀ i, i < len → ∃ r y, W.cells? base (a.add (i * P.cellsOf e)) (P.cellsOf e) = some r ∧ elems[i]? = some y ∧ DataW.trod enc P W base (fun _ => true) held n e r = some y := by
    intro i hi
    have h1 := hel i hi
    rw [List.getElem?_eq_getElem (by omega)] at h1
    obtain ⟨r, h2, h3⟩ := Option.bind_eq_some_iff.1 h1
    exact ⟨r, _, h2, List.getElem?_eq_getElem (by omega), h3⟩
  have wn : (elems.length + rest.length) * P.bytesOf e ≤ reachBytes := by
    have := hw ((elems.length + rest.length) * P.bytesOf e) (by simp [DataW.weights, ht])
    exact this
  refine ⟨⟨some a, len, cap⟩, (List.range len).map fun i => (W.cells? base (a.add (i * P.cellsOf e)) (P.cellsOf e)).getD [], rfl, ?_, by simp, ?_, .inr ⟨_, _, rfl, by simp [hlen]⟩, ?_⟩
  · by_cases h0 : len = 0
    · subst h0; exact ⟨.inl ⟨rfl, rfl⟩⟩
    have last : ∃ v, W.cell? ((a.add ((cap - 1) * P.cellsOf e)).add (P.cellsOf e - 1)) = some v := by
      have fin : ∀ r, W.cells? base (a.add ((cap - 1) * P.cellsOf e)) (P.cellsOf e) = some r → ∃ v, W.cell? ((a.add ((cap - 1) * P.cellsOf e)).add (P.cellsOf e - 1)) = some v := by
        intro r hr
        obtain ⟨g1, g2⟩ := cells_get hr
        rw [g2 _ (by omega)]
        exact ⟨_, List.getElem?_eq_getElem (by omega)⟩
      by_cases hcl : cap - 1 < len
      · obtain ⟨r, _, h1, _⟩ := each (cap - 1) hcl
        exact fin r h1
      · have h1 := hre (cap - 1 - len) (by omega)
        rw [show len + (cap - 1 - len) = cap - 1 by omega] at h1
        rw [List.getElem?_eq_getElem (by omega)] at h1
        obtain ⟨r, h2, _⟩ := Option.bind_eq_some_iff.1 h1
        exact fin r h2
    obtain ⟨v, hv⟩ := last
    have hspot : a.spot = none := by
      obtain ⟨r, _, h1, _⟩ := each 0 (by omega)
      obtain ⟨g1, g2⟩ := cells_get h1
      have h2 := g2 0 (by omega)
      rw [Nat.zero_mul, List.getElem?_eq_getElem (by omega)] at h2
      exact (cell_spot h2).1
    rw [add_spot a _ hspot, addr_add] at hv
    obtain ⟨_, c, tt, fr, hh, hc⟩ := cell_spot hv
    simp only at hh hc
    have hlast := (Array.getElem?_eq_some_iff.1 hc).1
    have hcap : (cap - 1) * P.cellsOf e + P.cellsOf e = cap * P.cellsOf e := by rw [← Nat.succ_mul]; congr 1; omega
    have rowlen : ∀ i, i < len → ((W.cells? base (a.add (i * P.cellsOf e)) (P.cellsOf e)).getD []).length = P.cellsOf e := by
      intro i hi
      obtain ⟨r, _, h1, _⟩ := each i hi
      rw [h1]; exact (cells_get h1).1
    refine ⟨.inr ⟨tt, ?_, hl, .inr ⟨a.block, a.off, c, fr, ?_, hh, by simp only; omega, ?_⟩⟩⟩
    · have key : ∀ (k : Nat), k ≤ len → (((List.range k).map fun i => (W.cells? base (a.add (i * P.cellsOf e)) (P.cellsOf e)).getD []).flatten).length = k * P.cellsOf e := by
        intro k
        induction k with
        | zero => intro _; simp
        | succ k ih =>
          intro hk
          rw [List.range_succ, List.map_append, List.flatten_append, List.length_append, ih (by omega), Nat.succ_mul]
          simp [rowlen k (by omega)]
      exact key len (Nat.le_refl _)
    · obtain ⟨b, o, s⟩ := a
      simp only at hspot
      subst hspot
      rfl
    · have key : ∀ (k : Nat), k ≤ len → ∀ i v, (((List.range k).map fun i => (W.cells? base (a.add (i * P.cellsOf e)) (P.cellsOf e)).getD []).flatten)[i]? = some v → c[a.off + i]? = some v := by
        intro k
        induction k with
        | zero => intro _ i v hi; simp at hi
        | succ k ih =>
          intro hk i v hi
          have hkl : (((List.range k).map fun i => (W.cells? base (a.add (i * P.cellsOf e)) (P.cellsOf e)).getD []).flatten).length = k * P.cellsOf e := by
            have key2 : ∀ (k : Nat), k ≤ len → (((List.range k).map fun i => (W.cells? base (a.add (i * P.cellsOf e)) (P.cellsOf e)).getD []).flatten).length = k * P.cellsOf e := by
              intro k
              induction k with
              | zero => intro _; simp
              | succ k ih =>
                intro hk
                rw [List.range_succ, List.map_append, List.flatten_append, List.length_append, ih (by omega), Nat.succ_mul]
                simp [rowlen k (by omega)]
            exact key2 k (by omega)
          rw [List.range_succ, List.map_append, List.flatten_append] at hi
          by_cases hik : i < k * P.cellsOf e
          · rw [List.getElem?_append_left (by omega)] at hi
            exact ih (by omega) i v hi
          · rw [List.getElem?_append_right (by omega), hkl] at hi
            simp only [List.map_cons, List.map_nil, List.flatten_cons, List.flatten_nil, List.append_nil] at hi
            obtain ⟨r, _, h1, _⟩ := each k (by omega)
            rw [h1] at hi
            simp only [Option.getD_some] at hi
            obtain ⟨g1, g2⟩ := cells_get h1
            have hj := (List.getElem?_eq_some_iff.1 hi).1
            have := g2 (i - k * P.cellsOf e) (by omega)
            rw [hi, add_spot a _ hspot, addr_add] at this
            obtain ⟨_, c', t', fr', hh', hc'⟩ := cell_spot this
            simp only at hh' hc'
            rw [hh] at hh'
            cases hh'
            rw [show a.off + i = a.off + k * P.cellsOf e + (i - k * P.cellsOf e) by omega]
            exact hc'
      exact key len (Nat.le_refl _)
  · have : len * P.bytesOf e ≤ (elems.length + rest.length) * P.bytesOf e := Nat.mul_le_mul_right _ (by omega)
    exact Nat.le_trans this wn
  · intro r hr
    obtain ⟨i, hi, rfl⟩ := List.mem_map.1 hr
    have hi := List.mem_range.1 hi
    obtain ⟨r, y, h1, h2, h3⟩ := each i hi
    rw [h1]
    refine ⟨(cells_get h1).1, n, y, h3, fun k hk => hw k ?_, _, _, rfl, List.mem_map.2 ⟨y, List.mem_of_getElem? h2, rfl⟩⟩
    simp only [DataW.weights, ht, List.mem_cons, List.mem_append]
    exact .inr (.inl (weights_all hk _ (List.mem_map.2 ⟨y, List.mem_of_getElem? h2, rfl⟩)))
theorem open_rows {t e : TypeId} {sz : Nat} {cs : List Value} {x : DataW H × List MemPlace} (ht : P.underlying t = some (.slice e)) (hsz : P.cellsOf e = sz) (hpos : 0 < sz)
    (h : DataW.trod enc P W base (fun _ => true) held fuel t cs = some x) (hw : ∀ n ∈ x.1.weights P t, n ≤ reachBytes) :
    ∃ (s : Sl) (rows : List (List Value)), cs = [.slice s.a s.len s.cap] ∧ SlX W s sz rows.flatten ∧ rows.length = s.len ∧ s.len * P.bytesOf e ≤ reachBytes ∧
      ∀ r ∈ rows, r.length = sz ∧ ∃ n y, DataW.trod enc P W base (fun _ => true) held n e r = some y ∧ ∀ k ∈ y.1.weights P e, k ≤ reachBytes := by
  obtain ⟨s, rows, h1, h2, h3, h4, _, h5⟩ := open_rowsM ht hsz hpos h hw
  exact ⟨s, rows, h1, h2, h3, h4, fun r hr => by obtain ⟨a, n, y, b, c, _⟩ := h5 r hr; exact ⟨a, n, y, b, c⟩⟩
theorem open_i64 {t : TypeId} {cs : List Value} {x : DataW H × List MemPlace} (ht : P.underlying t = some (.int .i64)) (h : DataW.trod enc P W base (fun _ => true) held fuel t cs = some x) : ∃ n, cs = [.int .i64 n] ∧ (Lit.int .i64 n).wf = true := by
  cases fuel with
  | zero => simp [DataW.trod] at h
  | succ m =>
    unfold DataW.trod at h
    rw [ht] at h
    split at h <;> simp_all
end
end Go.Vx
namespace Go.Vx
open Go Go.ChangeShapes Go.RowKit
section
variable {H : Type} {enc : TypeId × Value → H} {P : Program} {W W' : World}
theorem Ext.below (e : Ext W W') : Below W.heap.size W W' := ⟨e.os, e.tape, e.output, e.size, fun k hk => e.at_ k hk id⟩
theorem stays_all (hl : laidOutB P = true) {sp : Nat → Bool} : ∀ {ts : List TypeId} {vs : List Value} {ds : List (DataW H)} {ps : List MemPlace}, (∀ t ∈ ts, P.readableRec t = true ∧ t < P.types.size) →
    DataW.TrodAll enc P W 0 (fun _ => true) true ts vs ds ps → (∀ p ∈ ps, W.sameAt W' p) → (∀ p ∈ ps, sp p.block = true) → DataW.TrodAll enc P W' 0 sp true ts vs ds ps
  | [], [], [], _, _, h, _, _ => h
  | t :: ts, v :: vs, d :: ds, ps, hr, ⟨p, q, h1, h2, e⟩, hs, hsp => by
    subst e
    exact ⟨p, q, WideElems.Trod_stays hl (hr t List.mem_cons_self).1 (hr t List.mem_cons_self).2 h1 (fun x hx => hs x (List.mem_append_left _ hx)) (fun x hx => hsp x (List.mem_append_left _ hx)),
      stays_all hl (fun t' ht' => hr t' (List.mem_cons_of_mem _ ht')) h2 (fun x hx => hs x (List.mem_append_right _ hx)) (fun x hx => hsp x (List.mem_append_right _ hx)), rfl⟩
  | [], _ :: _, _, _, _, h, _, _ => h.elim
  | [], [], _ :: _, _, _, h, _, _ => h.elim
  | _ :: _, [], _, _, _, h, _, _ => h.elim
  | _ :: _, _ :: _, [], _, _, h, _, _ => h.elim
theorem post_same {f : Func} {s : ChangeSpec} {apart fresh handsOn again : Bool} {args : Array Value} {ds gs : List (DataW H)} {before : List MemPlace} {tb : TypeId}
    (hW : DataW.Whole enc P f.params.toList s.vars apart W args.toList ds gs before) (hv : s.vars = []) (hr : f.resultTypes = #[tb]) (hb : P.underlying tb = some .bool)
    (hs : s.fn H (ds ++ gs) = { results := [.lit (.bool true)], args := ds }) (hl : laidOutB P = true) (hrd : ∀ t ∈ f.params.toList, P.readableRec t = true ∧ t < P.types.size)
    (e : Ext W W') : s.post enc P f apart fresh handsOn again W args (.bool true) W' := by
  have hlt := hW.lt
  have hW0 := hW
  obtain ⟨pa, pv, hA, hV, rfl, hz, hn⟩ := hW
  have hBl := e.below
  have hsame : ∀ p ∈ pa ++ pv, W.sameAt W' p := fun p hp => hBl.same (hlt p hp)
  have hold : ∀ p ∈ pa ++ pv, (fun b => decide (b < W.heap.size)) p.block = true := fun p hp => by simpa using hlt p hp
  have hres : ∀ (b : Nat) (sp : Nat → Bool) (hd : Bool), DataW.TrodAll enc P W' b sp hd f.resultTypes.toList ((Value.bool true).resultList f.resultTypes.size) (s.fn H (ds ++ gs)).results [] := by
    intro b sp hd
    rw [hs, hr]
    exact trodAll_mk1 ⟨1, by simp [DataW.trod, hb, Value.cells]⟩
  have hargs : ∀ sp : Nat → Bool, (∀ p ∈ pa, sp p.block = true) → DataW.TrodAll enc P W' 0 sp true f.params.toList args.toList (s.fn H (ds ++ gs)).args pa := by
    intro sp hsp
    rw [hs]
    exact stays_all hl hrd hA (fun p hp => hsame p (List.mem_append_left _ hp)) hsp
  have hgs : gs = [] ∧ pv = [] := by
    rw [hv] at hV
    exact trodVars_none hV
  obtain ⟨rfl, rfl⟩ := hgs
  have hvars : ∀ sp : Nat → Bool, DataW.TrodVars enc P W' sp s.vars (s.fn H (ds ++ [])).vars [] := by
    intro sp
    rw [hs, hv]
    exact rfl
  have hall : ∀ p ∈ ([] ++ pa) ++ [], p ∈ pa ++ [] := fun p hp => by simpa using hp
  refine ⟨ds, [], pa ++ [], [], pa, [], hW0, hres _ _ _, hargs _ (fun p hp => hold p (List.mem_append_left _ hp)), hvars _, hBl.frame _, fun _ => ⟨ok_one hr rfl (okWide_bool_mk hb true), [.lit (.bool true)] ++ ds, [], ([] ++ pa) ++ [], ?_, fun p hp _ => hall p hp⟩⟩
  have h1 := trodAll_append (hargs (fun _ => true) (fun _ _ => rfl)) (hres 0 (fun _ => true) true)
  rw [hs] at h1
  have h2 := hvars (fun _ => true)
  rw [hs] at h2
  refine ⟨[] ++ pa, [], h1, h2, rfl, ?_, fun ha => ?_⟩
  · intro b off hp
    have hp' := hall _ hp
    have hb' := hlt _ hp'
    rw [hBl.frozen (p := ⟨b, off, none⟩) hb']
    exact hz b off hp'
  · have := hn ha
    simpa using this
end
end Go.Vx
set_option linter.unusedSimpArgs false
set_option linter.unusedVariables false
set_option maxRecDepth 100000
namespace Go.Proofs.YtmooldhpiopcgaaGreatDoor
namespace Dq
open Go Go.Vx Go.ChangeShapes Go.WideShapes Go.RowKit Dsk
theorem own : ownKnob Tryz.prog.godebug = none := by kernel_rfl
theorem laidOut : laidOutB Tryz.prog = true := by kernel_rfl
theorem u4 : Tryz.prog.underlying 4 = some .bool := i4_ok.und
theorem uStr : Tryz.prog.underlying 9 = some .string := i9_ok.und
theorem gErr : Tryz.prog.globalNamed "errors.errorType" = some 0 := by kernel_rfl
theorem tRt : (Tryz.prog.cutTypes.find? (·.1 == "internal/reflectlite.rtype")).map (·.2) = some 211 := by kernel_rfl
theorem typesN : Tryz.prog.types.size = 363 := by kernel_rfl
theorem oneRow : ((List.range 363).filter fun t => Tryz.prog.rowNamed t [101, 114, 114, 111, 114]) = [26] := by kernel_rfl
theorem hdlE : typeHandle Tryz.prog 26 = hdl 26 := by kernel_rfl
abbrev laidL : List (String × DataW Unit) := [("errors.errorType", Rows.laid_errors_errorType)]
theorem cell_laid {W : World} (h : laidMetH Tryz.prog laidL W) : W.cell? ⟨0, 0, none⟩ = some (rty 26) := by
  have h' : laidMet Tryz.prog [] W ∧ handlesMet Tryz.prog laidL W := h
  obtain ⟨name, u, ty, e1, e2, e3, e4, e5⟩ := h'.2 _ (List.mem_singleton.2 rfl)
  have en : name = [101, 114, 114, 111, 114] := (Option.some.inj e1).symm
  subst en
  obtain rfl := Option.some.inj (tRt.symm.trans e2)
  have hm : ty ∈ (List.range 363).filter fun t => Tryz.prog.rowNamed t [101, 114, 114, 111, 114] := List.mem_filter.2 ⟨List.mem_range.2 (by rw [← typesN]; exact e3), e4⟩
  rw [oneRow] at hm
  obtain rfl := List.mem_singleton.1 hm
  rw [hdlE] at e5
  simpa using World.var?_cell gErr e5 0
theorem laid_of {W : World} (h : laidMetH Tryz.prog laidL W) : LaidE W := by
  have h := cell_laid h
  unfold World.cell? at h
  split at h
  · rename_i cs t fr hb
    exact ⟨cs, t, fr, hb, h⟩
  all_goals simp_all
noncomputable def laidWorld (os : Os) : World :=
  let w0 := World.holding Tryz.prog os ⟨#[], #[], []⟩
  { w0 with heap := w0.heap.modify 0 fun
    | .cells _ t frozen => .cells #[.iface 211 (.agg #[.pointer (some ⟨2, 26, none⟩)])] t frozen
    | o => o }
theorem laid_met (os : Os) (args : Array Value) : laidMetH Tryz.prog laidL ((laidWorld os).forCall (fun _ _ => 0) ⟨#[], args, []⟩).memory :=
  laidMetH_of_parts (laidMet_nil _ _) (by kernel_rfl)
theorem trodAll_get {H : Type} {enc : TypeId × Value → H} {P : Program} {w : World} {base : Nat} {spare : Nat → Bool} {held : Bool} : ∀ {ts : List TypeId} {vs : List Value} {ds : List (DataW H)} {ps : List MemPlace}, DataW.TrodAll enc P w base spare held ts vs ds ps →
    vs.length = ts.length ∧ ds.length = ts.length ∧ ∀ (j : Nat) t v d, ts[j]? = some t → vs[j]? = some v → ds[j]? = some d → ∃ p, DataW.Trod enc P w base spare held t v d p
  | [], [], [], _, _ => ⟨rfl, rfl, fun j t v d h => by simp at h⟩
  | t :: ts, v :: vs, d :: ds, ps, ⟨p, q, h1, h2, e⟩ => by
    obtain ⟨a, b, c⟩ := trodAll_get h2
    refine ⟨by simp [a], by simp [b], fun j t' v' d' ht hv hd => ?_⟩
    match j with
    | 0 => cases ht; cases hv; cases hd; exact ⟨p, h1⟩
    | j + 1 => exact c j t' v' d' (by simpa using ht) (by simpa using hv) (by simpa using hd)
  | [], _ :: _, _, _, h => h.elim
  | [], [], _ :: _, _, h => h.elim
  | _ :: _, [], _, _, h => h.elim
  | _ :: _, _ :: _, [], _, h => h.elim
theorem list_1 {α : Type} (l : List α) (h : l.length = 1) : ∃ v0, l = [v0] := by
  match l, h with
  | [v0], _ => exact ⟨v0, rfl⟩
theorem weigh {H : Type} {ts : List TypeId} {ds : List (DataW H)} (h : (DataW.weightsEach Tryz.prog ts ds).all (· ≤ reachBytes) = true) (j : Nat) {t : TypeId} {d : DataW H} (ht : ts[j]? = some t) (hd : ds[j]? = some d) : ∀ n ∈ d.weights Tryz.prog t, n ≤ reachBytes := by
  intro n hn
  have := List.all_eq_true.1 h _ (DataW.weights_mem_each ht hd n hn)
  simpa using this
end Dq
end Go.Proofs.YtmooldhpiopcgaaGreatDoor
set_option linter.unusedSimpArgs false
set_option linter.unusedVariables false
set_option maxRecDepth 100000
namespace Go.Proofs.YtmooldhpiopcgaaGreatDoor
open Go Go.Vx Cdc Trx
section
variable {w w' W W' : World} {S : Nat → Prop} {p : Nat} {e : Enc} {lim na : Nat} {O : Nat → Prop} {M : Parts}
abbrev txO (e : Enc) (lim : Nat) (tp : Option Addr) (a : Sl) : Obj := .cells #[.int .i64 e.num, .int .i64 (lim : Int), .pointer tp, .slice a.a a.len a.cap] 141 (0, 0)
abbrev frLs (p b1 b2 b6 b7 : Nat) (ps : Sl) (f n : Nat) : List (Nat × Obj) := [(b7, .cells #[.int .i64 (n : Int)] 3 (0, 0)), (b6, .cells #[.int .i64 (f : Int)] 3 (0, 0)), (b2, .cells #[.slice ps.a ps.len ps.cap] 165 (0, 0)), (b1, .cells #[.pointer (some (at0 p))] 51 (0, 0))]
structure FrI (w W : World) (p : Nat) (e : Enc) (lim : Nat) (tp : Option Addr) (a0 : Sl) (b1 b2 b6 b7 : Nat) (a ps : Sl) (ab cb : Bs) (pl : List Pc) (M' : Parts) (n : Nat) : Prop where
  st : St (fun k => k = p ∨ a0.blk k) w W (frLs p b1 b2 b6 b7 ps (ab.length - cb.length) n)
  tx : W.heap[p]? = some (txO e lim tp a)
  own : SlOwn W 0 a 5 1 (bv ab)
  suf : ∃ x, ab = x ++ cb
  row : SlOwn W w.heap.size ps 146 7 (flat c146 (pl.map pcT))
  its : Its W e pl M'
  tops : ∀ x ∈ pl, ∀ k, x.bytes.blk k → a.blk k → top x.bytes ≤ top a
  pblk : ∀ x ∈ pl, ∀ k, x.bytes.blk k → a0.blk k ∨ w.heap.size ≤ k
  ablk : ∀ k, a.blk k → a0.blk k ∨ w.heap.size ≤ k
  old : Old w W a0 a
  cnt : pl.length + cb.length ≤ ab.length
variable {tp : Option Addr} {a0 a ps : Sl} {b1 b2 b6 b7 n : Nat} {ab cb : Bs} {pl : List Pc} {M' : Parts}
end
end Go.Proofs.YtmooldhpiopcgaaGreatDoor
set_option linter.unusedSimpArgs false
set_option linter.unusedVariables false
set_option maxRecDepth 100000
namespace Go.Proofs.YtmooldhpiopcgaaGreatDoor
open Go Go.Vx Cdc Trx
namespace Cdc
structure LEd where
  f : Int
  t : Int
  put : List Int
end Cdc
section
variable {w w' W W' : World} {S : Nat → Prop} {p : Nat} {e : Enc} {lim na : Nat} {O : Nat → Prop} {M : Parts}
end
end Go.Proofs.YtmooldhpiopcgaaGreatDoor
set_option linter.unusedSimpArgs false
set_option linter.unusedVariables false
set_option maxRecDepth 100000
namespace Go.Proofs.YtmooldhpiopcgaaGreatDoor
open Go Go.Vx Go.ChangeShapes Go.WideShapes Go.RowKit Cdc
theorem ui : Tryz.prog.underlying 3 = some (.int .i64) := i3_ok.und
theorem ub : Tryz.prog.underlying 5 = some (.int .u8) := i5_ok.und
theorem uBytes : Tryz.prog.underlying 30 = some (.slice 5) := i30_ok.und
theorem ci : Tryz.prog.cellsOf 3 = 1 := by kernel_rfl
theorem cby : Tryz.prog.cellsOf 5 = 1 := by kernel_rfl
theorem bby : Tryz.prog.bytesOf 5 = 1 := by kernel_rfl
theorem cbs : Tryz.prog.cellsOf 30 = 1 := by kernel_rfl
theorem rows_of2 {cs : List Cell} {β : Type} {Q : Cells.T cs → β → Prop} : ∀ (rows : List (List Value)), (∀ r ∈ rows, ∃ x y, r = Cells.vals cs x ∧ Q x y) → ∃ (xs : List (Cells.T cs)) (ys : List β), rows.flatten = flat cs xs ∧ xs.length = rows.length ∧ xs.length = ys.length ∧ ∀ (i : Nat) x y, xs[i]? = some x → ys[i]? = some y → Q x y
  | [], _ => ⟨[], [], rfl, rfl, rfl, fun i x y hx => by simp at hx⟩
  | r :: rs, h => by
    obtain ⟨x, y, hx, hq⟩ := h r List.mem_cons_self
    obtain ⟨xs, ys, h1, h2, h3, h4⟩ := rows_of2 rs fun r' hr' => h r' (List.mem_cons_of_mem _ hr')
    refine ⟨x :: xs, y :: ys, ?_, by simp [h2], by simp [h3], fun i x' y' hx' hy' => ?_⟩
    · rw [List.flatten_cons, h1, hx]; rfl
    · match i with
      | 0 => cases hx'; cases hy'; exact hq
      | i + 1 => exact h4 i x' y' (by simpa using hx') (by simpa using hy')
section
variable {H : Type} {enc : TypeId × Value → H} {W : World} {base fuel : Nat} {held : Bool}
abbrev bulk (d : DataW H) : Nat := Rows.uptoBulk d
theorem bulk_one (d : DataW H) : 1 ≤ bulk d := by
  unfold bulk
  cases d with
  | lit l => cases l <;> simp [Rows.uptoBulk]
  | nil => simp [Rows.uptoBulk]
  | ptr d => simp [Rows.uptoBulk]
  | slice elems spare => simp [Rows.uptoBulk]
  | agg parts => simp [Rows.uptoBulk]
  | iface t d => simp [Rows.uptoBulk]
  | map entries => simp [Rows.uptoBulk]
  | held h => simp [Rows.uptoBulk]
theorem bulk_part {d : DataW H} {l : List (DataW H)} (h : d ∈ l) : bulk d ≤ Rows.uptoBulkAll l := by
  induction l with
  | nil => cases h
  | cons x r ih =>
    simp only [Rows.uptoBulkAll]
    cases List.mem_cons.1 h with
    | inl e => subst e; show Rows.uptoBulk d ≤ _; omega
    | inr e => have := ih e; show Rows.uptoBulk d ≤ _; have : Rows.uptoBulk d ≤ Rows.uptoBulkAll r := this; omega
theorem bulk_len (l : List (DataW H)) : l.length ≤ Rows.uptoBulkAll l := by
  induction l with
  | nil => simp [Rows.uptoBulkAll]
  | cons x r ih => have := bulk_one x; unfold bulk at this; simp only [Rows.uptoBulkAll, List.length_cons]; omega
theorem open_rowsB {t e : TypeId} {sz : Nat} {cs : List Value} {x : DataW H × List MemPlace} (ht : Tryz.prog.underlying t = some (.slice e)) (hsz : Tryz.prog.cellsOf e = sz) (hpos : 0 < sz)
    (h : DataW.trod enc Tryz.prog W base (fun _ => true) held fuel t cs = some x) (hw : ∀ n ∈ x.1.weights Tryz.prog t, n ≤ reachBytes) :
    ∃ (s : Sl) (rows : List (List Value)), cs = [.slice s.a s.len s.cap] ∧ SlX W s sz rows.flatten ∧ rows.length = s.len ∧ s.len ≤ bulk x.1 ∧
      ∀ r ∈ rows, r.length = sz ∧ ∃ n y, DataW.trod enc Tryz.prog W base (fun _ => true) held n e r = some y ∧ (∀ k ∈ y.1.weights Tryz.prog e, k ≤ reachBytes) ∧ bulk y.1 ≤ bulk x.1 := by
  obtain ⟨s, rows, h1, h2, h3, h4, h6, h5⟩ := open_rowsM ht hsz hpos h hw
  refine ⟨s, rows, h1, h2, h3, ?_, fun r hr => ?_⟩
  · rcases h6 with h6 | ⟨els, rst, hx, hl⟩
    · omega
    · have := bulk_len els
      rw [hx]
      show _ ≤ Rows.uptoBulk (.slice els rst)
      simp only [Rows.uptoBulk]; omega
  · obtain ⟨a, n, y, b, c, els, rst, hx, hm⟩ := h5 r hr
    refine ⟨a, n, y, b, c, ?_⟩
    have := bulk_part hm
    rw [hx]
    show _ ≤ Rows.uptoBulk (.slice els rst)
    simp only [Rows.uptoBulk]; omega
theorem open_fields {t : TypeId} {fs : Array Field} {L : List (TypeId × Nat)} {cs : List Value} {x : DataW H × List MemPlace} (hu : Tryz.prog.underlying t = some (.struct fs)) (hfs : fs.toList.map (fun f => (f.type, f.offset)) = L)
    (h : DataW.trod enc Tryz.prog W base (fun _ => true) held fuel t cs = some x) (hw : ∀ n ∈ x.1.weights Tryz.prog t, n ≤ reachBytes) :
    ∃ n, ∀ (i : Nat) (t' o : Nat), L[i]? = some (t', o) → ∃ y, DataW.trod enc Tryz.prog W base (fun _ => true) held n t' ((cs.drop o).take (Tryz.prog.cellsOf t')) = some y ∧ (∀ k ∈ y.1.weights Tryz.prog t', k ≤ reachBytes) ∧ bulk y.1 ≤ bulk x.1 := by
  obtain ⟨xs, n, _, rfl, _, hxl, hall⟩ := DataW.trod_struct hu h
  refine ⟨n, fun i t' o hi => ?_⟩
  rw [← hfs, List.getElem?_map] at hi
  obtain ⟨f, hf, he⟩ := Option.map_eq_some_iff.1 hi
  cases he
  have hf' : fs[i]? = some f := by simpa using hf
  have h1 := hall i f hf'
  have hil : i < xs.length := by rw [hxl]; exact (Array.getElem?_eq_some_iff.1 hf').1
  rw [List.getElem?_eq_getElem hil] at h1
  refine ⟨xs[i], h1, fun k hk => hw k ?_, ?_⟩
  · simp only [DataW.weights, hu]
    exact DataW.weights_mem_each (j := i) (t := f.type) (d := xs[i].1) (by rw [List.getElem?_map, hf]; rfl) (by rw [List.getElem?_map, List.getElem?_eq_getElem hil]; rfl) k hk
  · have hm : xs[i].1 ∈ xs.map (·.1) := List.mem_map.2 ⟨xs[i], List.getElem_mem hil, rfl⟩
    have := bulk_part hm
    show _ ≤ Rows.uptoBulk (.agg (xs.map (·.1)))
    simp only [Rows.uptoBulk]; omega
theorem open_u8 {cs : List Value} {x : DataW H × List MemPlace} (h : DataW.trod enc Tryz.prog W base (fun _ => true) held fuel 5 cs = some x) : ∃ b : UInt8, cs = [.int .u8 (b.toNat : Int)] := by
  have : ∃ n, cs = [.int .u8 n] ∧ (Lit.int .u8 n).wf = true := by
    cases fuel with
    | zero => simp [DataW.trod] at h
    | succ m =>
      unfold DataW.trod at h
      rw [ub] at h
      split at h <;> simp_all
  obtain ⟨n, rfl, hn⟩ := this
  have hr : 0 ≤ n ∧ n < 256 := by
    have h1 : IntKind.min .u8 = 0 := rfl
    have h2 : IntKind.max .u8 = 255 := rfl
    simp [Lit.wf, h1, h2] at hn
    omega
  refine ⟨UInt8.ofNat n.toNat, ?_⟩
  have : (UInt8.ofNat n.toNat).toNat = n.toNat := by
    rw [UInt8.toNat_ofNat']
    exact Nat.mod_eq_of_lt (by omega)
  rw [this]
  congr 2
  omega
theorem open_bytes {cs : List Value} {x : DataW H × List MemPlace} (h : DataW.trod enc Tryz.prog W base (fun _ => true) held fuel 30 cs = some x) (hw : ∀ n ∈ x.1.weights Tryz.prog 30, n ≤ reachBytes) :
    ∃ (s : Sl) (l : List UInt8), cs = [.slice s.a s.len s.cap] ∧ SlX W s 1 (bv l) ∧ l.length ≤ 2 ^ 47 := by
  obtain ⟨s, rows, rfl, hs, hl, hby, hr⟩ := open_rows uBytes cby (by decide) h hw
  obtain ⟨xs, ls, h1, h2, h3, h4⟩ := rows_of2 (cs := [.int .u8]) (β := UInt8) (Q := fun x y => x.1 = (y.toNat : Int)) rows (fun r hr' => by
    obtain ⟨_, n, y, hy, _⟩ := hr r hr'
    obtain ⟨b, rfl⟩ := open_u8 hy
    exact ⟨((b.toNat : Int), ()), b, rfl, rfl⟩)
  refine ⟨s, ls, rfl, ?_, ?_⟩
  · rw [h1] at hs
    have e : flat [.int .u8] xs = bv ls := by
      clear h1 h2 hs
      induction xs generalizing ls with
      | nil =>
        cases ls with
        | nil => rfl
        | cons y r => simp at h3
      | cons x r ih =>
        cases ls with
        | nil => simp at h3
        | cons y q =>
          have h0 := h4 0 x y rfl rfl
          have := ih q (by simpa using h3) fun i x' y' hx hy => h4 (i + 1) x' y' (by simpa using hx) (by simpa using hy)
          simp only [flat, List.flatMap_cons] at this ⊢
          rw [this]
          obtain ⟨n, ⟨⟩⟩ := x
          dsimp only at h0
          subst h0
          rfl
    rw [e] at hs; exact hs
  · rw [← h3, h2, hl]
    rw [bby] at hby
    unfold reachBytes at hby
    omega
structure LAsk where
  kind : Int
  at_ : Int
  b : Int
  mkd : Int
  count : Int
  arg : Int
  past : Bool
end
section
variable {H : Type} {enc : TypeId × Value → H} {W : World} {base : Nat}
end
end Go.Proofs.YtmooldhpiopcgaaGreatDoor
set_option linter.unusedSimpArgs false
set_option linter.unusedVariables false
set_option maxRecDepth 100000
namespace Go.Proofs.YtmooldhpiopcgaaGreatDoor
namespace Dq
open Go Go.Vx Go.ChangeShapes Go.WideShapes Go.RowKit Dsk Cdc
theorem cstr : Tryz.prog.cellsOf 9 = 1 := by kernel_rfl
theorem cffile : Tryz.prog.cellsOf 65 = 2 := by kernel_rfl
theorem cffiles : Tryz.prog.cellsOf 37 = 1 := by kernel_rfl
theorem cscene : Tryz.prog.cellsOf 39 = 4 := by kernel_rfl
theorem uFFiles : Tryz.prog.underlying 37 = some (.slice 65) := by kernel_rfl
theorem sFFile : ∃ fs : Array Field, Tryz.prog.underlying 65 = some (.struct fs) ∧ fs.toList.map (fun f => (f.type, f.offset)) = [(9, 0), (30, 1)] := ⟨_, i65_ok.und, rfl⟩
theorem sScene : ∃ fs : Array Field, Tryz.prog.underlying 39 = some (.struct fs) ∧ fs.toList.map (fun f => (f.type, f.offset)) = [(37, 0), (9, 1), (3, 2), (30, 3)] := ⟨_, i39_ok.und, rfl⟩
section
variable {H : Type} {enc : TypeId × Value → H} {W : World} {base fuel : Nat} {held : Bool}
theorem open_strB {cs : List Value} {x : DataW H × List MemPlace} (h : DataW.trod enc Tryz.prog W base (fun _ => true) held fuel 9 cs = some x) (hb : bulk x.1 ≤ 1048576) : ∃ s : ByteArray, cs = [.string s] ∧ s.size < 1048576 := by
  obtain ⟨s, e1, e2, _⟩ := DataW.trod_string uStr h
  refine ⟨s, e1, ?_⟩
  have hb : Rows.uptoBulk x.1 ≤ 1048576 := hb
  rw [e2] at hb
  simp only [Rows.uptoBulk] at hb
  have : s.data.toList.length = s.size := by simp
  omega
theorem open_bytesB {cs : List Value} {x : DataW H × List MemPlace} (h : DataW.trod enc Tryz.prog W base (fun _ => true) held fuel 30 cs = some x) (hw : ∀ n ∈ x.1.weights Tryz.prog 30, n ≤ reachBytes) (hb : bulk x.1 ≤ 1048576) :
    ∃ (s : Sl) (l : List UInt8), cs = [.slice s.a s.len s.cap] ∧ SlX W s 1 (bv l) ∧ l.length ≤ 1048576 := by
  obtain ⟨s, l, e, h1, _⟩ := open_bytes h hw
  obtain ⟨s', _, e', _, _, hl, _⟩ := open_rowsB uBytes cby (by decide) h hw
  refine ⟨s, l, e, h1, ?_⟩
  rw [e] at e'
  have : s.len = s'.len := by simp at e'; exact e'.2.1
  have := bys_len h1
  omega
theorem open_file {cs : List Value} {x : DataW H × List MemPlace} (hl : cs.length = 2) (h : DataW.trod enc Tryz.prog W base (fun _ => true) held fuel 65 cs = some x) (hw : ∀ n ∈ x.1.weights Tryz.prog 65, n ≤ reachBytes) (hb : bulk x.1 ≤ 1048576) :
    ∃ (y : Cells.T c65) (o : Nm × List UInt8), cs = Cells.vals c65 y ∧ (y.1 = o.1 ∧ Bytes W y.2.1 o.2 ∧ o.1.size < 2 ^ 62 ∧ o.2.length ≤ 2 ^ 30) := by
  obtain ⟨fs, hu, hfs⟩ := sFFile
  obtain ⟨n, hall⟩ := open_fields hu hfs h hw
  obtain ⟨v0, v1, rfl⟩ : ∃ v0 v1, cs = [v0, v1] := by
    match cs, hl with
    | [v0, v1], _ => exact ⟨v0, v1, rfl⟩
  obtain ⟨y0, h0, _, hb0⟩ := hall 0 _ _ rfl
  obtain ⟨y1, h1, hw1, hb1⟩ := hall 1 _ _ rfl
  rw [cstr] at h0
  rw [cbs] at h1
  obtain ⟨n0, e0, i0⟩ := open_strB h0 (by omega)
  obtain ⟨s1, l1, e1, g1, k1⟩ := open_bytesB h1 hw1 (by omega)
  simp at e0 e1
  subst e0 e1
  exact ⟨(n0, s1, ()), (n0, l1), rfl, rfl, g1, by dsimp only; omega, by dsimp only; omega⟩
theorem open_files {cs : List Value} {x : DataW H × List MemPlace} (h : DataW.trod enc Tryz.prog W base (fun _ => true) held fuel 37 cs = some x) (hw : ∀ n ∈ x.1.weights Tryz.prog 37, n ≤ reachBytes) (hb : bulk x.1 ≤ 1048576) :
    ∃ (s : Sl) (rows : List (Cells.T c65)) (fs : Fls), cs = [.slice s.a s.len s.cap] ∧ FlsIn W s rows fs := by
  obtain ⟨s, rows, rfl, hs, hl, hby, hr⟩ := open_rowsB uFFiles cffile (by decide) h hw
  obtain ⟨xs, ls, h1, h2, h3, h4⟩ := rows_of2 (cs := c65) (β := Nm × List UInt8) (Q := fun y o => y.1 = o.1 ∧ Bytes W y.2.1 o.2 ∧ o.1.size < 2 ^ 62 ∧ o.2.length ≤ 2 ^ 30) rows (fun r hr' => by
    obtain ⟨hrl, n, y, hy, hwy, hby⟩ := hr r hr'
    exact open_file hrl hy hwy (by omega))
  rw [h1] at hs
  exact ⟨s, xs, ls, rfl, hs, h3, h4⟩
theorem open_scene {cs : List Value} {x : DataW H × List MemPlace} (hl : cs.length = 4) (h : DataW.trod enc Tryz.prog W base (fun _ => true) held fuel 39 cs = some x) (hw : ∀ n ∈ x.1.weights Tryz.prog 39, n ≤ reachBytes) (hb : bulk x.1 ≤ 1048576) :
    ∃ (y : Cells.T c39) (rows : List (Cells.T c65)) (fs : Fls) (data : List UInt8), cs = Cells.vals c39 y ∧ Scn W y rows fs data := by
  obtain ⟨fs, hu, hfs⟩ := sScene
  obtain ⟨n, hall⟩ := open_fields hu hfs h hw
  obtain ⟨v0, v1, v2, v3, rfl⟩ : ∃ v0 v1 v2 v3, cs = [v0, v1, v2, v3] := by
    match cs, hl with
    | [v0, v1, v2, v3], _ => exact ⟨v0, v1, v2, v3, rfl⟩
  obtain ⟨y0, h0, hw0, hb0⟩ := hall 0 _ _ rfl
  obtain ⟨y1, h1, hw1, hb1⟩ := hall 1 _ _ rfl
  obtain ⟨y2, h2, hw2, hb2⟩ := hall 2 _ _ rfl
  obtain ⟨y3, h3, hw3, hb3⟩ := hall 3 _ _ rfl
  rw [cffiles] at h0
  rw [cstr] at h1
  rw [ci] at h2
  rw [cbs] at h3
  obtain ⟨s0, rows, fl, e0, g0⟩ := open_files h0 hw0 (by omega)
  obtain ⟨n1, e1, i1⟩ := open_strB h1 (by omega)
  obtain ⟨n2, e2, _⟩ := open_i64 ui h2
  obtain ⟨s3, l3, e3, g3, k3⟩ := open_bytesB h3 hw3 (by omega)
  simp at e0 e1 e2 e3
  subst e0 e1 e2 e3
  exact ⟨(s0, n1, n2, s3, ()), rows, fl, l3, rfl, g0, g3, by dsimp only; omega, by omega⟩
theorem arg_scene {v : Value} {d : DataW H} {p : List MemPlace} (hv : Value.okWide Tryz.prog W .any base 39 v) (h : DataW.Trod enc Tryz.prog W 0 (fun _ => true) true 39 v d p) (hw : ∀ n ∈ d.weights Tryz.prog 39, n ≤ reachBytes) (hb : bulk d ≤ 1048576) :
    ∃ (y : Cells.T c39) (rows : List (Cells.T c65)) (fs : Fls) (data : List UInt8), v = .agg (scells y) ∧ Scn W y rows fs data := by
  obtain ⟨fs, hu, _⟩ := sScene
  obtain ⟨cs, rfl, hsz⟩ := okWide_struct hu hv
  obtain ⟨n, hn⟩ := h
  rw [cscene] at hsz
  obtain ⟨y, rows, fl, l, e, h1⟩ := open_scene (cs := cs.toList) (by simpa using hsz) (by simpa [Value.cells] using hn) hw hb
  exact ⟨y, rows, fl, l, by show _ = Value.agg (Cells.vals c39 y).toArray; rw [← e], h1⟩
end
section
variable {H : Type} {enc : TypeId × Value → H} {W : World} {base : Nat}
end
theorem recScene : Tryz.prog.readableRec 39 = true := by kernel_rfl
theorem recs1 {t : TypeId} (h : t = 39) : Tryz.prog.readableRec t = true ∧ t < Tryz.prog.types.size := by
  subst h
  exact ⟨recScene, by rw [typesN]; decide⟩
end Dq
end Go.Proofs.YtmooldhpiopcgaaGreatDoor
set_option linter.unusedSimpArgs false
set_option linter.unusedVariables false
namespace Go.Proofs.YtmooldhpiopcgaaGreatDoor
namespace Dq
open Go Go.Vx Go.ChangeShapes Go.WideShapes Go.RowKit
theorem and2 {a b : Bool} (h : a = true) (h' : b = true) : (a && b) = true := by rw [h, h']; rfl
theorem saveUntouched_witness (os : Os) {H : Type} (enc : TypeId × Value → H) :
    (Rows.OpenSpec.upto Rows.saveUntouchedSpec).preRow enc Tryz.prog Tryz.f4 Rows.saveUntouchedUptoRow.domain false laidL ((laidWorld os).forCall (fun _ _ => 0) ⟨#[], #[.agg #[.slice none 0 0, .string ⟨#[]⟩, .int .i64 0, .slice none 0 0]], []⟩).memory #[.agg #[.slice none 0 0, .string ⟨#[]⟩, .int .i64 0, .slice none 0 0]] := by
  have hw : (DataW.whole enc Tryz.prog ((laidWorld os).forCall (fun _ _ => 0) ⟨#[], #[.agg #[.slice none 0 0, .string ⟨#[]⟩, .int .i64 0, .slice none 0 0]], []⟩).memory Tryz.f4.params.toList (Rows.OpenSpec.upto Rows.saveUntouchedSpec).vars false (#[.agg #[.slice none 0 0, .string ⟨#[]⟩, .int .i64 0, .slice none 0 0]] : Array Value).toList 8).map (fun x => (x.1, x.2.1)) =
      some ([.agg [.nil, .lit (.string []), .lit (.int .i64 0), .nil]], []) := by kernel_rfl
  obtain ⟨⟨x1, x2, x3⟩, hx, hx1⟩ := Option.map_eq_some_iff.1 hw
  simp only [Prod.mk.injEq] at hx1
  obtain ⟨rfl, rfl⟩ := hx1
  exact OpenSpec.preRow_of_cond 8 hx (by kernel_rfl) (fun k hk => by cases hk; kernel_rfl) (by kernel_rfl) (laid_met os _)
set_option maxRecDepth 100000 in
set_option maxHeartbeats 2000000 in
theorem saveUntouched_lifted (os : Os) (started : os.Started) (H : Type) (enc : TypeId × Value → H) (F : Stop.Interp) :
    ReturnsInHanded {} Tryz.checked os 4 .any ((Rows.OpenSpec.upto Rows.saveUntouchedSpec).preRow enc Tryz.prog Tryz.f4 Rows.saveUntouchedUptoRow.domain false laidL) (((Rows.OpenSpec.upto Rows.saveUntouchedSpec).at F).post enc Tryz.prog Tryz.f4 false true false false) := by
  refine returnsInHanded_of_row (C := Tryz.checked) (s := Rows.OpenSpec.upto Rows.saveUntouchedSpec) own started (by kernel_rfl) Tryz.func4
    (witness_row_atRef (enc := enc) (C := Tryz.checked) false (laidWorld os) #[.agg #[.slice none 0 0, .string ⟨#[]⟩, .int .i64 0, .slice none 0 0]] rfl (by kernel_rfl) (by kernel_rfl) (by kernel_rfl) (saveUntouched_witness os enc)) ?_
  intro W base args ds gs before hval0 hW _ hk hwt0 hL _ _
  have hval : ∀ (j : Nat) t v, Tryz.f4.params[j]? = some t → args[j]? = some v → Value.okWide Tryz.prog W .any base t v := hval0
  have hwt : (DataW.weightsEach Tryz.prog (Tryz.f4.params.toList ++ []) (ds ++ gs)).all (· ≤ reachBytes) = true := hwt0
  have hW' := hW
  obtain ⟨p, q, hA0, hV, rfl, hfz, hnd⟩ := hW
  have hA : DataW.TrodAll enc Tryz.prog W 0 (fun _ => true) true Tryz.f4.params.toList args.toList ds p := hA0
  clear hA0 hval0 hwt0
  rw [Tryz.params4] at hA hval hwt
  obtain ⟨rfl, rfl⟩ := trodVars_none hV
  obtain ⟨hn1, hn2, hT⟩ := trodAll_get hA
  obtain ⟨v0, hv⟩ := list_1 args.toList hn1
  obtain rfl : args = #[v0] := by cases args; simp_all
  obtain ⟨d0, rfl⟩ := list_1 ds hn2
  have hbulk0 : bulk d0 ≤ 1048576 := by
    have h : Rows.uptoBulkAll ([d0] ++ []) ≤ 1048576 := of_decide_eq_true (hk _ rfl)
    simp only [List.append_nil, Rows.uptoBulkAll] at h
    show Rows.uptoBulk d0 ≤ _
    omega
  obtain ⟨p0, q0⟩ := hT 0 39 v0 d0 rfl rfl rfl
  obtain ⟨y, rows, fl, data, rfl, hsc⟩ := arg_scene (hval 0 39 v0 rfl rfl) q0 (weigh hwt 0 rfl rfl) hbulk0
  have walk := untouched_walk (laid_of hL) hsc (K := fun r w' => r = true ∧ Ext W w') fun w' e => ⟨rfl, e⟩
  refine walk.mono fun e W' ⟨x, he, hx, hext⟩ => ⟨.bool true, ?_, ?_⟩
  · subst hx; exact he
  · exact post_same (s := Rows.saveUntouchedSpec) hW' rfl rfl u4 rfl laidOut (fun t ht => by
      rw [Tryz.params4] at ht
      have ht : t ∈ [39] := ht
      simp only [List.mem_cons, List.not_mem_nil, or_false] at ht
      exact recs1 ht) hext
set_option maxHeartbeats 0 in
theorem saveUntouched_facts : joinedFacts Tryz.pinned.checked.prog 4 Tryz.f4 (Rows.OpenSpec.upto Rows.saveUntouchedSpec).bare Rows.saveUntouchedUptoRow = true := by
  unfold joinedFacts
  with_reducible repeat' apply and2
  all_goals as_aux_lemma => kernel_rfl
theorem saveUntouched_row : Rows.SaveUntouchedUptoSaid :=
  OpenClaim.holds_of_cond 4 Tryz.f4 rfl rfl rfl rfl rfl rfl rfl ⟨rfl, rfl, rfl, rfl, rfl⟩ rfl rfl rfl rfl rfl (by as_aux_lemma => kernel_rfl) Tryz.func4 saveUntouched_facts
    (of_decide_eq_true (by as_aux_lemma => kernel_rfl)) (by unfold Func.isWrapper; rw [if_neg (by as_aux_lemma => decide +kernel)]; exact ⟨rfl, rfl⟩)
    (fun os started H enc _ F => by rw [OpenClaim.pre_eq_preRow]; exact saveUntouched_lifted os started H enc F)
end Dq
theorem saveUntouched_holds : Rows.SaveUntouchedUptoCardSaid :=
  Claim7.holds_tied_plain_at .later [] [.handle] true (true, "8fa86d716e3cbb5d44ad5d616054dc9adf16b2d155b2b8fa930f25b85a3d54ce") true
    Dq.saveUntouched_row (fun _ h => by cases h) (by as_aux_lemma => kernel_rfl) (fun _ h => by cases h) saveUntouchedUpto_row_tie rfl ⟨rfl, rfl⟩ (by as_aux_lemma => kernel_rfl) rfl
    (fun f fn hf hfn => by
      obtain rfl : f = 4 := Option.some.inj ((show Tryz.prog.funcNamed "copyist/copyistlaw17.SaveUntouched" = some 4 by as_aux_lemma => kernel_rfl).symm.trans hf) |>.symm
      obtain rfl : fn = Tryz.f4 := (Option.some.inj (Tryz.func4.symm.trans hfn)).symm
      exact ⟨by as_aux_lemma => kernel_rfl, fun j t ht => by
        rw [Tryz.params4] at ht
        have hm : t ∈ [39] := by simpa using Array.mem_of_getElem? ht
        have hall : ([39].all fun u => !Tryz.prog.wantsStandIn u) = true := by as_aux_lemma => kernel_rfl
        exact (show Tryz.prog.wantsStandIn t = false by simpa using List.all_eq_true.1 hall t hm)⟩)
    (by as_aux_lemma => kernel_rfl)
end Go.Proofs.YtmooldhpiopcgaaGreatDoor
