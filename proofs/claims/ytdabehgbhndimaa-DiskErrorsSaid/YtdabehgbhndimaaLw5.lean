/- How the laws start: a disk with a file zz, calls upon it. Conditions: arguments in memory, apart from the disk. -/
import Derived.Test.YtdabehgbhndimaaLw4
set_option linter.unusedSimpArgs false
set_option linter.unusedVariables false
namespace Go.Proofs.Ytdabehgbhndimaa
open Go Go.Vx Dsk
section
variable {w w' : World} {S P P' F F' : Nat → Prop} {d : Nat} {D : Dk} {N : Nat}

def zz : Nm := ⟨#[122, 122]⟩
def zb : List UInt8 := [49, 50, 51, 52]
def zzD (space : Int) : Dk := { space := space, files := [⟨zb, 4, 1⟩], lasts := dset (fun _ => none) zz (some 0), acts := [], down := false, plan := fun _ => none, steps := 0 }
theorem lists_empty : Lists (fun _ => none) [] := ⟨List.nodup_nil, fun n => by simp⟩
theorem names_empty : (names fun _ => none).length = 0 := names_len lists_empty
theorem used_empty (space : Int) (o : Option Nat) : usedBut (newD space) o = 0 := by
  rw [used_eq (D := newD space) lists_empty]; rfl
theorem put_zz {space : Int} (h : 8 ≤ space) : putR (newD space) zz zb = (zzD space, 0) := by
  have h1 : (newD space).seen zz = none := rfl
  have h2 : (names (newD space).seen).length = 0 := names_empty
  unfold putR
  rw [if_neg (by simp [newD]), if_neg (by decide), h1, h2, used_empty, if_neg (by
    rintro (⟨_, h⟩ | h)
    · omega
    · have : (zb.length : Int) = 4 := rfl
      have h3 : (newD space).space = space := rfl
      omega)]
  rfl
theorem ok_new {space : Int} (h0 : 0 ≤ space) (h1 : space ≤ 1048576) : DkOk (newD space) 0 :=
  ⟨⟨h0, h1⟩, fun i f hf => by simp [newD] at hf, Nat.le_refl _, fun k => ⟨fun n i h => by simp [newD, onAll] at h, ⟨[], by simpa [newD, onAll] using lists_empty, by simp⟩, fun a b i h => by simp [newD, onAll] at h, fun n i h => by simp [newD, onAll] at h⟩, ⟨Int.le_refl _, Int.le_refl _⟩, Nat.le_refl _⟩
theorem ok_zz {space : Int} (h0 : 8 ≤ space) (h1 : space ≤ 1048576) : DkOk (zzD space) 1 := by
  have := ok_put (ok_new (by omega) h1) zz zb
  rwa [put_zz h0] at this

theorem zz_r {space : Int} (A : DiskIn w d F (newD space)) (h0 : 8 ≤ space) (h1 : space ≤ 1048576) {o1 : Operand} {J : Bool → World → Prop} (hJ : ∀ F' w', DiskIn w' d F' (zzD space) → Upd F w w' → (∀ k, F' k → F k ∨ w.heap.size ≤ k) → J false w') :
    newO (.cells #[.int .u8 49, .int .u8 50, .int .u8 51, .int .u8 52] 5) (fun b7 =>
      rawT Try.prog (.one (.one .sl)) (convert 33 33 (.slice (some (at0 b7)) 4 4)) fun x8 =>
      callT Try.prog 13 #[.pointer (some (at0 d)), .string ⟨#[122, 122]⟩, .slice x8.a x8.len x8.cap] (.one (.one .any)) fun x9 =>
      rdB Try.prog (do eqGuard .neq 31 o1 (.const .nilIface) x9 .nilIface; binOp .neq 31 x9 .nilIface : Sem Value) fun r10 => J r10) w := by
  refine newO_r fun b7 w1 e1 n1 hb1 _ => lit_r uB ub n1 fun w2 fr' n2 u2 => ?_
  have hlt := A.lt
  have e2 : Ext w w2 := e1.new u2 fun k hk e => by omega
  have hbox : Bytes w2 ⟨some (at0 b7), 4, 4⟩ zb := (SlIn.of_box (n := 4) (sz := 1) n2 rfl).x
  refine put_call (A.ext e2) (ok_new (by omega) h1) (by decide) (n := zz) hbox (fun k hk => ?_) fun F' w' v hv hD hu hF => ?_
  · obtain ⟨p, hp, rfl⟩ := hk
    cases hp
    exact ⟨lt_of_heap n2, fun h => by have := hlt _ h; simp only [at0] at this; omega⟩
  · rw [put_zz h0] at hv hD
    have hz := e2.size
    exact told_ne hv.told (hJ F' w' hD ((Upd.of_ext e2).trans hu) fun k hk => (hF k hk).imp id fun h => by omega)

theorem runs_r (A : DiskIn w d F D) (ok : DkOk D N) {x : Sl} {ys : List (Cells.T c39)} {os : List DOp} (hx : OpsIn w P x ys os) (hP : ∀ k, P k → k < w.heap.size ∧ ¬ F k) (hN : N + 2 * os.length + 2 ≤ 2 ^ 30) {J : World → Prop}
    (hJ : ∀ F' w', DiskIn w' d F' (runOps os D) → DkOk (runOps os D) (N + 2 * os.length) → Upd F w w' → (∀ k, F' k → F k ∨ w.heap.size ≤ k) → J w') :
    sloop (fun (s13 : Int × Unit) again14 =>
      sif (decide (s13.1 < ((x.len : Nat) : Int))) (
        ix x.a x.len s13.1 fun p15 =>
        lds c39 (p15.add (scaled (Int.toNat s13.1) 8)) fun (x16 : (Int × Int × ByteArray × ByteArray × Sl × Sl × Int × Sl × Unit)) =>
        callT Try.prog 27 #[.pointer (some (at0 d)), .agg (Cells.vals c39 x16).toArray] (.one (.one .bool)) fun (_ : Bool) =>
        again14 ((IntKind.wrap .i64 (s13.1 + (1 : Int))), ())) (
        J)) ((0 : Int), ()) w := by
  have hxl : ys.length = x.len := hx.row.lenR (by decide)
  have hlen := hx.len
  refine sloop_r (fun s W => ∃ (j : Nat) (F1 : Nat → Prop), s = ((j : Int), ()) ∧ j ≤ ys.length ∧ DiskIn W d F1 (runOps (os.take j) D) ∧ DkOk (runOps (os.take j) D) (N + 2 * j) ∧ Upd F w W ∧ ∀ k, F1 k → F k ∨ w.heap.size ≤ k) (fun s _ => ys.length - s.1.toNat) ⟨0, F, rfl, Nat.zero_le _, A, ok, Upd.refl _ _, fun k hk => .inl hk⟩ ?_
  rintro _ W ⟨j, F1, rfl, hj, AW, okW, uW, hFW⟩
  dsimp only
  refine sif_r (fun h => ?_) fun h => ?_
  · have h : j < ys.length := by have := of_decide_eq_true h; omega
    obtain ⟨y, hy⟩ : ∃ y, ys[j]? = some y := ⟨_, List.getElem?_eq_getElem h⟩
    obtain ⟨o, ho⟩ : ∃ o, os[j]? = some o := ⟨_, List.getElem?_eq_getElem (by omega)⟩
    have xW := hx.upd uW fun k hk => (hP k hk).2
    have hrun : runOps (os.take (j + 1)) D = (doOp o (runOps (os.take j) D)).1 := by rw [List.take_add_one, ho]; exact runOps_snoc _ _ _
    refine ix_ldsX (cs := c39) xW.row (by decide) (by omega) (by simpa using hy) fun _ => ?_
    have hz := uW.size
    refine do_call AW okW (by omega) (xW.at_ j y o hy ho) (fun k hk => ⟨by have := (hP k hk).1; omega, fun hF => (hFW k hF).elim (hP k hk).2 fun h => by have := (hP k hk).1; omega⟩) fun F' w' hD hu hF => ?_
    rw [IntWalk.i64_in _ ⟨by omega, by omega⟩]
    exact ⟨⟨j + 1, F', rfl, h, by rw [hrun]; exact hD, by rw [hrun]; exact ok_do okW o, uW.new hu fun k hk h => (hFW k h).resolve_right (by omega), fun k hk => (hF k hk).elim (hFW k) fun h => .inr (by omega)⟩, by show ys.length - (j + 1) < ys.length - j; omega⟩
  · have h : ¬ j < ys.length := by have := of_decide_eq_false h; omega
    have hjl : j = os.length := by omega
    rw [List.take_of_length_le (by omega)] at AW okW
    exact hJ F1 W AW (by rw [← hjl]; exact okW) uW hFW
end
end Go.Proofs.Ytdabehgbhndimaa
