/- The laws' fits and do. Conditions: arguments in memory, apart from the disk. -/
import Derived.Test.YtdabehgbhndimaaLw1
set_option linter.unusedSimpArgs false
set_option linter.unusedVariables false
namespace Go.Proofs.Ytdabehgbhndimaa
open Go Go.Vx Dsk
section
variable {w w' : World} {S P P' F : Nat → Prop} {d : Nat} {D : Dk} {N : Nat}

structure OpIn (w : World) (P : Nat → Prop) (y : Cells.T c39) (o : DOp) : Prop where
  kind : y.1 = o.kind
  who : y.2.1 = o.who
  name : y.2.2.1 = o.name
  to : y.2.2.2.1 = o.to
  b : Bytes w y.2.2.2.2.1 o.b
  bb : Lie P y.2.2.2.2.1
  lb : o.b.length ≤ 2 ^ 47
  faults : ∃ rows, FaultsIn w P y.2.2.2.2.2.1 rows o.faults
  lf : o.faults.length * 56 ≤ 2 ^ 47
  names : y.2.2.2.2.2.2.1 = o.names
  bytes : SlX w y.2.2.2.2.2.2.2.1 1 (iv o.bytes)
  lbytes : Lie P y.2.2.2.2.2.2.2.1
structure OpsIn (w : World) (P : Nat → Prop) (x : Sl) (ys : List (Cells.T c39)) (os : List DOp) : Prop where
  row : SlX w x 8 (flat c39 ys)
  blk : Lie P x
  len : ys.length = os.length
  lt : os.length ≤ 2 ^ 60
  at_ : ∀ (i : Nat) (y : Cells.T c39) (o : DOp), ys[i]? = some y → os[i]? = some o → OpIn w P y o
theorem OpIn.upd {y : Cells.T c39} {o : DOp} (h : OpIn w P y o) (u : Upd S w w') (hS : ∀ k, P k → ¬ S k) : OpIn w' P y o :=
  ⟨h.kind, h.who, h.name, h.to, SlX.updL h.b h.bb u hS, h.bb, h.lb, let ⟨rows, hf⟩ := h.faults; ⟨rows, hf.upd u hS⟩, h.lf, h.names, SlX.updL h.bytes h.lbytes u hS, h.lbytes⟩
theorem OpsIn.upd {x : Sl} {ys : List (Cells.T c39)} {os : List DOp} (h : OpsIn w P x ys os) (u : Upd S w w') (hS : ∀ k, P k → ¬ S k) : OpsIn w' P x ys os :=
  ⟨SlX.updL h.row h.blk u hS, h.blk, h.len, h.lt, fun i y o hy ho => (h.at_ i y o hy ho).upd u hS⟩
theorem FaultsIn.mono {x : Sl} {rows : List (Cells.T c74)} {fl : List (Int × Fault)} (h : FaultsIn w P x rows fl) (hP : ∀ k, P k → P' k) : FaultsIn w P' x rows fl :=
  ⟨h.row, h.blk.imp id fun h k hk => hP k (h k hk), h.len, fun i r f hr hf => let ⟨a, b, c, d, e, g, g'⟩ := h.at_ i r f hr hf; ⟨a, b, c, d, e, g, g'.imp id fun h k hk => hP k (h k hk)⟩⟩

theorem fits_call {x : Sl} {ys : List (Cells.T c39)} {os : List DOp} (hx : OpsIn w P x ys os) {K : Bool → World → Prop} (hK : ∀ b w', (b = true → os.length ≤ 1000) → Ext w w' → K b w') :
    callT Try.prog 9 #[.slice x.a x.len x.cap] (.one (.one .bool)) K w := by
  refine F9_calls ?_
  unfold F9
  have hxl : ys.length = x.len := hx.row.lenR (by decide)
  have hlen := hx.len
  have hlt := hx.lt
  refine join_r (fun _ W => Ext w W) ?_ ?_
  · refine sloop_r (fun s W => ∃ (j : Nat) (n : Int), s = (n, (j : Int), ()) ∧ j ≤ ys.length ∧ Ext w W) (fun s _ => ys.length - s.2.1.toNat) ⟨0, 0, rfl, Nat.zero_le _, Ext.refl _⟩ ?_
    rintro _ W ⟨j, n, rfl, hj, eW⟩
    dsimp only
    refine sif_r (fun h => ?_) (fun _ => eW)
    have h : j < ys.length := by have := of_decide_eq_true h; omega
    obtain ⟨y, hy⟩ : ∃ y, ys[j]? = some y := ⟨_, List.getElem?_eq_getElem h⟩
    refine drew_r fun W1 e1 _ => ?_
    obtain ⟨t, hin⟩ := (hx.row.ext (eW.trans e1)).in_of (by omega)
    have hcell : ∀ (i : Nat) v, (Cells.vals c39 y)[i]? = some v → (flat c39 ys)[(j : Int).toNat * 8 + i]? = some v := fun i v hv => by
      have hil := (List.getElem?_eq_some_iff.1 hv).1
      rw [vals_len] at hil
      have := flat_get c39 ys j i y hy hil
      rw [Int.toNat_natCast]
      exact this.trans hv
    have ew : IntKind.wrap .i64 ((j : Int) + 1) = ((j + 1 : Nat) : Int) := by rw [IntWalk.i64_in _ ⟨by omega, by omega⟩]; omega
    refine hin.ix (by omega) (by omega) (by decide) fun b off _ hat => ?_
    refine ⟨y.2.2.2.2.1, (by simp only [addr_add, scaled]; exact hat 4 _ (hcell 4 _ rfl)), ?_⟩
    refine hin.ix (by omega) (by omega) (by decide) fun b off _ hat => ?_
    refine ⟨y.2.2.2.2.2.1, (by simp only [addr_add, scaled]; exact hat 5 _ (hcell 5 _ rfl)), ?_⟩
    refine hin.ix (by omega) (by omega) (by decide) fun b off _ hat => ?_
    refine ⟨y.2.2.2.2.2.2.2.1, (by simp only [addr_add, scaled]; exact hat 7 _ (hcell 7 _ rfl)), ?_⟩
    rw [ew]
    exact ⟨⟨j + 1, _, rfl, h, eW.trans e1⟩, by simp only [Int.toNat_natCast]; omega⟩
  · intro s W eW
    refine sif_r (fun h => hK _ W (fun _ => ?_) eW) fun h => hK _ W (fun h => by cases h) eW
    have := of_decide_eq_true h
    omega

/-- an error, or none -/
def Told (v : Value) (b : Bool) : Prop := (b = false → v = .nilIface) ∧ (b = true → ∃ t u, v = .iface t u)
theorem ErrIn.told {w0 : World} {v : Value} {op nm : ByteArray} {e : Int} (h : ErrIn w0 w F v op nm e) : Told v (decide (e ≠ 0)) :=
  ⟨fun hb => h.ok (by simpa using hb), fun hb => let ⟨b, k, hv, _⟩ := h.bad (by simpa using hb); ⟨_, _, hv⟩⟩
theorem told_ne {v : Value} {b : Bool} (h : Told v b) {o1 : Operand} {K : Bool → World → Prop} (hK : K b w) : rdB Try.prog (do eqGuard .neq 31 o1 (.const .nilIface) v .nilIface; binOp .neq 31 v .nilIface : Sem Value) K w := by
  cases b with
  | false => rw [h.1 rfl]; exact rdB_nnil' hK uE
  | true => obtain ⟨t, u, rfl⟩ := h.2 rfl; exact rdB_nnil hK uE
theorem told_eq {v : Value} {b : Bool} (h : Told v b) {o1 : Operand} {K : Bool → World → Prop} (hK : K (!b) w) : rdB Try.prog (do eqGuard .eql 31 o1 (.const .nilIface) v .nilIface; binOp .eql 31 v .nilIface : Sem Value) K w := by
  cases b with
  | false => rw [h.1 rfl]; exact rdB_nil' hK uE
  | true => obtain ⟨t, u, rfl⟩ := h.2 rfl; exact rdB_nil hK uE

theorem do_call (A : DiskIn w d F D) (ok : DkOk D N) (hN : N + 2 ≤ 2 ^ 30) {y : Cells.T c39} {o : DOp} (ho : OpIn w P y o) (hP : ∀ k, P k → k < w.heap.size ∧ ¬ F k) {K : Bool → World → Prop}
    (hK : ∀ F' w', DiskIn w' d F' (doOp o D).1 → Upd F w w' → (∀ k, F' k → F k ∨ w.heap.size ≤ k) → K (doOp o D).2 w') :
    callT Try.prog 27 #[.pointer (some (at0 d)), .agg (Cells.vals c39 y).toArray] (.one (.one .bool)) K w := by
  refine F27_calls (a1 := y) ?_
  unfold F27
  refine newO_r fun b1 w1 e1 n1 hb1 _ => ?_
  have hlt := A.lt
  have A1 := A.ext e1
  have o1 := ho.upd e1 fun _ _ h => h
  have hs1 := e1.size
  refine join_r (fun x W => ∃ F1, DiskIn W d F1 (doOp o D).1 ∧ Told x.1 (doOp o D).2 ∧ Upd F w W ∧ ∀ k, F1 k → F k ∨ w.heap.size ≤ k) ?_ ?_
  · obtain ⟨r, hr⟩ : ∃ r, doOp o D = r := ⟨_, rfl⟩
    have fin : ∀ {W : World} {F1 : Nat → Prop} {v : Value}, DiskIn W d F1 r.1 → Told v r.2 → Upd F w1 W → (∀ k, F1 k → F k ∨ w1.heap.size ≤ k) → ∃ F1, DiskIn W d F1 (doOp o D).1 ∧ Told v (doOp o D).2 ∧ Upd F w W ∧ ∀ k, F1 k → F k ∨ w.heap.size ≤ k := fun {W F1 v} h1 h2 h3 h4 => by
      rw [hr]; exact ⟨F1, h1, h2, (Upd.of_ext e1).trans h3, fun k hk => (h4 k hk).imp id fun h => by omega⟩
    unfold doOp at hr
    refine ld_r n1 (off := 0) (x := o.kind) (by rw [← ho.kind]; rfl) (sif_r (fun h => ?_) fun h => ?_)
    · have h : o.kind = 1 := by simpa using h
      rw [if_pos h] at hr
      subst hr
      exact ld_r n1 (off := 2) (x := o.name) (by rw [← ho.name]; rfl) (make_call A1 ok hN fun F' w' v hv hD hu hF => fin hD hv.told hu hF)
    have h : ¬ o.kind = 1 := by simpa using h
    rw [if_neg h] at hr; clear h
    refine sif_r (fun h => ?_) fun h => ?_
    · have h : o.kind = 2 := by simpa using h
      rw [if_pos h] at hr
      subst hr
      refine drew_r fun w2 e2 _ => ld_r (e2.ext_get n1) (off := 2) (x := o.name) (by rw [← ho.name]; rfl) (ld_r (e2.ext_get n1) (off := 4) (x := y.2.2.2.2.1) rfl ?_)
      have hz2 := e2.size
      have hbl := o1.b.len1
      rw [List.length_map] at hbl
      have hlb := ho.lb
      refine append_rx EB uB (B := w2.heap.size) (s := ⟨none, 0, 0⟩) (vs := []) (SlOwn.nil _ _ _ _) (o1.b.ext e2) (bv_one _) (by dsimp only; omega) (Nat.le_refl _) fun x9 w3 h3 hl3 u3 hb3 => ?_
      have e3 : Ext w2 w3 := u3.mono fun k _ h => by obtain ⟨q, hq, _⟩ := h; cases hq
      have hz3 := e3.size
      refine keep_r (cell_of ((e2.trans e3).ext_get n1) (by rw [← ho.name]; rfl)) (append_call (A1.ext (e2.trans e3)) ok hN (l := o.b) h3.in.x (.inr fun k hk => ⟨h3.in.blk_lt hk, fun hF => ?_⟩) fun F' w' v hv hD hu hF => fin hD hv.told ((Upd.of_ext (e2.trans e3)).trans hu) fun k hk => (hF k hk).imp id fun h => by omega)
      have := hlt k hF
      have := h3.blk_ge hk
      omega
    have h : ¬ o.kind = 2 := by simpa using h
    rw [if_neg h] at hr; clear h
    refine sif_r (fun h => ?_) fun h => ?_
    · have h : o.kind = 3 := by simpa using h
      rw [if_pos h] at hr
      subst hr
      exact ld_r n1 (off := 2) (x := o.name) (by rw [← ho.name]; rfl) (sync_call A1 ok (by omega) fun F' w' v hv hD hu hF => fin hD hv.told hu hF)
    have h : ¬ o.kind = 3 := by simpa using h
    rw [if_neg h] at hr; clear h
    refine sif_r (fun h => ?_) fun h => ?_
    · have h : o.kind = 4 := by simpa using h
      rw [if_pos h] at hr
      subst hr
      exact syncdir_call A1 ok (by omega) fun F' w' v hv hD hu hF => fin hD hv.told hu hF
    have h : ¬ o.kind = 4 := by simpa using h
    rw [if_neg h] at hr; clear h
    refine sif_r (fun h => ?_) fun h => ?_
    · have h : o.kind = 5 := by simpa using h
      rw [if_pos h] at hr
      subst hr
      exact ld_r n1 (off := 2) (x := o.name) (by rw [← ho.name]; rfl) (ld_r n1 (off := 3) (x := o.to) (by rw [← ho.to]; rfl) (rename_call A1 ok hN fun F' w' v hv hD hu hF => fin hD hv.told hu hF))
    have h : ¬ o.kind = 5 := by simpa using h
    rw [if_neg h] at hr; clear h
    refine sif_r (fun h => ?_) fun h => ?_
    · have h : o.kind = 6 := by simpa using h
      rw [if_pos h] at hr
      subst hr
      exact ld_r n1 (off := 2) (x := o.name) (by rw [← ho.name]; rfl) (remove_call A1 ok hN fun F' w' v hv hD hu hF => fin hD hv.told hu hF)
    have h : ¬ o.kind = 6 := by simpa using h
    rw [if_neg h] at hr; clear h
    refine sif_r (fun h => ?_) fun h => ?_
    · have h : o.kind = 7 := by simpa using h
      rw [if_pos h] at hr
      subst hr
      exact ld_r n1 (off := 2) (x := o.name) (by rw [← ho.name]; rfl) (read_call A1 ok hN fun F' w' s v hv hD hu hF _ _ => fin hD hv.told hu hF)
    have h : ¬ o.kind = 7 := by simpa using h
    rw [if_neg h] at hr; clear h
    refine sif_r (fun h => ?_) fun h => ?_
    · have h : o.kind = 8 := by simpa using h
      rw [if_pos h] at hr
      subst hr
      exact ld_r n1 (off := 2) (x := o.name) (by rw [← ho.name]; rfl) (stamp_call A1 ok hN fun F' w' v hv hD hu hF => fin hD hv.told hu hF)
    have h : ¬ o.kind = 8 := by simpa using h
    rw [if_neg h] at hr; clear h
    refine sif_r (fun h => ?_) fun h => ?_
    · have h : o.kind = 9 := by simpa using h
      rw [if_pos h] at hr
      subst hr
      refine drew_r fun w2 e2 _ => ld_r (e2.ext_get n1) (off := 2) (x := o.name) (by rw [← ho.name]; rfl) (ld_r (e2.ext_get n1) (off := 4) (x := y.2.2.2.2.1) rfl ?_)
      have hz2 := e2.size
      have hbl := o1.b.len1
      rw [List.length_map] at hbl
      have hlb := ho.lb
      refine append_rx EB uB (B := w2.heap.size) (s := ⟨none, 0, 0⟩) (vs := []) (SlOwn.nil _ _ _ _) (o1.b.ext e2) (bv_one _) (by dsimp only; omega) (Nat.le_refl _) fun x9 w3 h3 hl3 u3 hb3 => ?_
      have e3 : Ext w2 w3 := u3.mono fun k _ h => by obtain ⟨q, hq, _⟩ := h; cases hq
      have hz3 := e3.size
      refine keep_r (cell_of ((e2.trans e3).ext_get n1) (by rw [← ho.name]; rfl)) (put_call (A1.ext (e2.trans e3)) ok hN (l := o.b) h3.in.x (fun k hk => ⟨h3.in.blk_lt hk, fun hF => ?_⟩) fun F' w' v hv hD hu hF => fin hD hv.told ((Upd.of_ext (e2.trans e3)).trans hu) fun k hk => (hF k hk).imp id fun h => by omega)
      have := hlt k hF
      have := h3.blk_ge hk
      omega
    have h : ¬ o.kind = 9 := by simpa using h
    rw [if_neg h] at hr; clear h
    have nil_told : Told .nilIface false := ⟨fun _ => rfl, fun h => by cases h⟩
    refine sif_r (fun h => ?_) fun h => ?_
    · have h : o.kind = 10 := by simpa using h
      rw [if_pos h] at hr
      subst hr
      obtain ⟨rows, hf⟩ := o1.faults
      refine ld_r n1 (off := 5) (x := y.2.2.2.2.2.1) rfl (faults_call hf ho.lf fun s rows' w2 h2 e2 => ?_)
      have hlf := ho.lf
      exact plan_call (A1.ext e2) (h2.in.mono fun k hk => ⟨hk.2, fun hF => by have := hlt k hF; omega⟩) (by omega) fun F' w' hD hu hF => fin hD nil_told ((Upd.of_ext e2).trans hu) fun k hk => (hF k hk).imp id fun h => by have := e2.size; omega
    have h : ¬ o.kind = 10 := by simpa using h
    rw [if_neg h] at hr; clear h
    refine sif_r (fun h => ?_) fun h => ?_
    · have h : o.kind = 11 := by simpa using h
      rw [if_pos h] at hr
      subst hr
      refine lds_r (cs := c37) (x := (o.names, y.2.2.2.2.2.2.2.1, ())) n1 (fun i v hv => ?_) ?_
      · match i with
        | 0 => rw [← ho.names] at hv; exact hv
        | 1 => exact hv
        | i + 2 => simp [Cells.vals] at hv
      · obtain ⟨ms, ml, sa, pl, vs, fb, ds, A1⟩ := A1
        exact crash_call A1 ok (by omega) (c := (o.names, y.2.2.2.2.2.2.2.1, ())) ⟨o1.bytes, .inl (ho.lbytes.imp id fun h k hk => (hP k (h k hk)).2)⟩ fun F' w' hD hu hF => fin hD nil_told hu hF
    have h : ¬ o.kind = 11 := by simpa using h
    rw [if_neg h] at hr; clear h
    refine sif_r (fun h => ?_) fun h => ?_
    · have h : o.kind = 12 := by simpa using h
      rw [if_pos h] at hr
      subst hr
      exact restart_call A1 fun w' hD hu => fin hD nil_told hu fun k hk => .inl hk
    have h : ¬ o.kind = 12 := by simpa using h
    rw [if_neg h] at hr; clear h
    subst hr
    exact fin A1 nil_told (Upd.refl _ _) fun k hk => .inl hk
  · rintro ⟨v, ⟨⟩⟩ W ⟨F1, h1, h2, h3, h4⟩
    exact told_ne h2 (hK F1 W h1 h3 h4)
end
end Go.Proofs.Ytdabehgbhndimaa
