/- What RegisterYank, RegisterDelete, RegisterSet and RegisterAll answer: true. Conditions: the steps lie as StepsIn says. -/
import Derived.Test.YtocdfkeflakemaaStp2
set_option linter.unusedSimpArgs false
set_option linter.unusedVariables false
namespace Go.Proofs.Ytocdfkeflakemaa
open Go Go.Vx
section
variable {w : World}
theorem yankLaw_call {a0 : Sl} {xs : List (Cells.T c55)} {K : Bool → World → Prop} (hs : StepsIn w a0 xs) (hK : ∀ w', Ext w w' → K true w') : F7 a0 K w := plays_call hs hK
theorem deleteLaw_call {a0 : Sl} {xs : List (Cells.T c55)} {K : Bool → World → Prop} (hs : StepsIn w a0 xs) (hK : ∀ w', Ext w w' → K true w') : F8 a0 K w := plays_call hs hK
theorem setLaw_call {a0 : Sl} {xs : List (Cells.T c55)} {K : Bool → World → Prop} (hs : StepsIn w a0 xs) (hK : ∀ w', Ext w w' → K true w') : F9 a0 K w := plays_call hs hK
theorem allLaw_call {a0 : Sl} {xs : List (Cells.T c55)} {K : Bool → World → Prop} (hs : StepsIn w a0 xs) (hK : ∀ w', Ext w w' → K true w') : F10 a0 K w := by
  unfold F10
  have hn : xs.length = a0.len := hs.row.lenR (cs := c55) (by decide)
  have hfew := hs.few
  refine newO_r fun b1 w1 e1 n1 hb1 _ => ?_
  refine join_r (fun s' w' => s' = (false, ()) ∧ ∃ p' m' r' bk', WIn w w' b1 2 2 p' m' r' ⟨none, 0, 0⟩ (Sl.blk ⟨none, 0, 0⟩) bk' bk') ?_ ?_
  · refine able_call fun w2 e2 => sif_false (begin_call ((WIn.made (p := id) (m := id) (r := id) (bk := fun _ => ⟨fun _ => none, 0⟩) e1 n1 (by omega)).ext e2) fun p' m' r' bk' w3 h3 => ⟨rfl, p', m', r', bk', h3⟩)
  rintro _ w2 ⟨rfl, p2, m2, r2, bk2, h2⟩
  refine sif_false (join_r (fun _ w' => ∃ p' m' r' pen' bk', WIn w w' b1 2 2 p' m' r' pen' (Sl.blk pen') bk' bk') ?_ ?_)
  · refine sloop_r (fun s' w' => ∃ (n : Nat) (p' m' r' : Nat → Nat) (pen' : Sl) (bk' : Nat → Reg.Bk), n ≤ xs.length ∧ s' = ((n : Int), ()) ∧ WIn w w' b1 2 2 p' m' r' pen' pen'.blk bk' bk') (fun s' _ => (xs.length - s'.1).toNat) ⟨0, _, _, _, _, _, by omega, rfl, h2⟩ ?_
    rintro _ w3 ⟨n, p3, m3, r3, pen3, bk3, hn3, rfl, h3⟩
    dsimp only
    refine sif_r (fun hc => ?_) (fun hc => ⟨_, _, _, _, _, h3⟩)
    have hc : n < xs.length := by have := of_decide_eq_true hc; omega
    have en : IntKind.wrap .i64 ((n : Int) + 1) = ((n + 1 : Nat) : Int) := by rw [IntWalk.i64_in _ ⟨by omega, by omega⟩]; omega
    simp only [en]
    obtain ⟨y, hy⟩ : ∃ y, xs[n]? = some y := ⟨_, List.getElem?_eq_getElem hc⟩
    obtain ⟨l, hl, hl'⟩ := hs.txt n y hy
    refine ix_ldsX (cs := c55) (hs.row.ext h3.upd) (by decide) (by omega) (by simpa using hy) fun q => ?_
    exact step_call h3 hl hl' fun p4 m4 r4 pen4 bk4 w4 h4 => sif_false ⟨⟨n + 1, p4, m4, r4, pen4, bk4, hc, rfl, h4⟩, by omega⟩
  rintro _ w3 ⟨p3, m3, r3, pen3, bk3, h3⟩
  refine join_r (fun _ w' => Ext w w') ?_ (fun _ w' e => hK w' e)
  refine sloop_r (fun s' w' => ∃ (n : Nat), n ≤ 2 ∧ s' = ((n : Int), ()) ∧ WIn w w' b1 2 2 p3 m3 r3 pen3 pen3.blk bk3 bk3) (fun s' _ => (2 - s'.1).toNat) ⟨0, by omega, rfl, h3⟩ ?_
  rintro _ w4 ⟨n, hn4, rfl, h4⟩
  dsimp only
  refine sif_r (fun hc => ?_) (fun hc => h4.upd)
  have hc : n < 2 := by have := of_decide_eq_true hc; omega
  have en : IntKind.wrap .i64 ((n : Int) + 1) = ((n + 1 : Nat) : Int) := by rw [IntWalk.i64_in _ ⟨by omega, by omega⟩]; omega
  simp only [en]
  refine join_r (fun _ w' => WIn w w' b1 2 2 p3 m3 r3 pen3 pen3.blk bk3 bk3) ?_ (fun _ w' h => ⟨⟨n + 1, by omega, rfl, h⟩, by omega⟩)
  refine sloop_r (fun s' w' => -1 ≤ s'.1 ∧ s'.1 ≤ 130 ∧ WIn w w' b1 2 2 p3 m3 r3 pen3 pen3.blk bk3 bk3) (fun s' _ => (130 - s'.1).toNat) ⟨by decide, by decide, h4⟩ ?_
  rintro ⟨v, ⟨⟩⟩ w5 ⟨hv1, hv2, h5⟩
  dsimp only at hv1 hv2 ⊢
  refine sif_r (fun hd => ?_) (fun hd => h5)
  have hd := of_decide_eq_true hd
  have ev : IntKind.wrap .i64 (v + 1) = v + 1 := IntWalk.i64_in _ ⟨by omega, by omega⟩
  simp only [ev]
  exact wget_call h5 hc fun w6 e6 => sif_false ⟨⟨by omega, by omega, h5.ext e6⟩, by omega⟩
end
end Go.Proofs.Ytocdfkeflakemaa
