/- What the reference's calls do: Reg.yank, Reg.del, Reg.set, Reg.get, names. Conditions: texts below 2^44 - 512 letters. -/
import Derived.Test.YtocdfkeflakemaaRef2
set_option linter.unusedSimpArgs false
set_option linter.unusedVariables false
namespace Go.Proofs.Ytocdfkeflakemaa
open Go Go.Vx
section
variable {w w' : World} {pr : Nat} {b : Reg.Bk} {Z : Nat → Prop} {ks : List (Cells.T c85)}

theorem BkOk.txt_len (h : BkOk b) (k : Int) : (txtOf (b.held k)).length ≤ 140000 := by
  cases e : b.held k with
  | none => simp
  | some r => exact (h.slot k r e).2.2
theorem BkOk.back (h : BkOk b) {k : Int} {kd : Int} (hk : ∀ r, b.held k = some r → kd = r.1) : b.held k = (if (txtOf (b.held k)).length = 0 then none else some (kd, txtOf (b.held k))) := by
  cases e : b.held k with
  | none => simp
  | some r =>
    have h1 := (h.slot k r e).2.1
    have h2 := hk r e
    subst h2
    rw [if_neg (show ¬ r.2.length = 0 by omega)]

/-- where a name leads, once the unnamed one is gone -/
abbrev ownS (a : Int) : Int × Bool := if 65 ≤ a ∧ a ≤ 90 then (a + 32, true) else (a, false)

theorem own_call {a : Int} {r : Int × Sl × Unit} {l : List Int} {K : (Int × (Int × Sl × Unit) × Unit) → World → Prop} (hR : RefIn w pr Z b ks) (hb : BkOk b) (hs : Ints w r.2.1 l) (hl : l.length ≤ 2 ^ 44) (hZ : ∀ k, Z k → k < w.heap.size) (hz : ∀ k, r.2.1.blk k → ¬ Z k)
    (hK : ∀ s' w', Ints w' s' (ownR b.held (ownS a) (r.1, l)).2 → (∀ k, s'.blk k → ¬ Z k) → Ext w w' → K ((ownS a).1, ((ownR b.held (ownS a) (r.1, l)).1, s', ()), ()) w') :
    callT Try.prog 63 #[.pointer (some (at0 pr)), .int .i64 a, .agg (Cells.vals c85 r).toArray] (.tup [(.one (.int .i64)), (.agg c85)]) K w := by
  refine F63_calls ?_
  unfold F63
  have S := St.start w
  refine S.newO fun b1 w1 S e1 => S.newO fun b2 w2 S e2 => great_call (sif_r (fun hc => ?_) (fun hc => ?_))
  · have hc : 65 ≤ a ∧ a ≤ 90 := of_decide_eq_true hc
    have ew : IntKind.wrap .i64 (a + 32) = a + 32 := IntWalk.i64_in _ ⟨by omega, by omega⟩
    simp only [ew]
    have es : ownS a = (a + 32, true) := by simp only [ownS]; rw [if_pos hc]
    rw [es] at hK
    refine S.drew fun w3 S e3 _ => nn_some (chk_r ⟨by omega, by omega⟩ ?_)
    rw [addr_add, Nat.zero_add, scaled_eq]
    have hR3 := hR.ext S.upd
    refine hR3.lds (n := (a + 32).toNat) (by omega) fun x hx => ?_
    obtain ⟨g1, g2, g3⟩ := hR3.txt _ x hx
    rw [show (((a + 32).toNat : Nat) : Int) = a + 32 by omega] at g1 g2
    refine S.lds 1 r rfl ?_
    refine joined_call g1 (hs.ext S.upd) (hb.txt_len _) hl fun s4 w4 i4 hk4 e4 => ?_
    have S4 := S.ext e4
    have eq : (if (txtOf (b.held (a + 32))).length = 0 then (r.1, l) else if l.length = 0 then (x.1, txtOf (b.held (a + 32))) else Reg.jn (x.1, txtOf (b.held (a + 32))) (r.1, l)) = ownR b.held (a + 32, true) (r.1, l) := by
      unfold ownR
      cases e : b.held (a + 32) with
      | none => simp
      | some o =>
        have h1 := (hb.slot _ o e).2.1
        have h2 := g2 o e
        dsimp only
        rw [if_neg (show ¬ o.2.length = 0 by omega), if_pos rfl, h2]
        by_cases h0 : l.length = 0
        · rw [if_pos h0, if_neg (by omega)]
        · rw [if_neg h0, if_pos (by omega)]
    rw [eq] at i4 ⊢
    refine S4.aggSt 0 rfl rfl rfl rfl fun w5 S5 u5 => S5.lds 0 ((ownR b.held (a + 32, true) (r.1, l)).1, s4, ()) rfl ?_
    refine hK s4 w5 (i4.box (S4.at_ 0 rfl) (by decide) u5) (fun k hk hzk => ?_) S5.upd
    rcases hk4 k hk with h | h | h
    · exact g3 k h hzk
    · exact hz k h hzk
    · have := hZ k hzk; have := S.upd.size; omega
  · have hc : ¬ (65 ≤ a ∧ a ≤ 90) := of_decide_eq_false hc
    have es : ownS a = (a, false) := by simp only [ownS]; rw [if_neg hc]
    have eo : ownR b.held (a, false) (r.1, l) = (r.1, l) := by
      unfold ownR; split
      · rfl
      · rfl
    rw [es, eo] at hK
    refine S.drew fun w3 S e3 _ => S.lds 1 r rfl (S.aggSt 0 rfl rfl rfl rfl fun w5 S5 u5 => S5.lds 0 r rfl ?_)
    exact hK r.2.1 w5 ((hs.ext S.upd).box (S.at_ 0 rfl) (by decide) u5) hz S5.upd

/-- what take does -/
def takeR (b : Reg.Bk) (s : Int × Bool) (at_ : Int) (w : Int × List Int) : Reg.Bk × Int :=
  if (ownR b.held s w).2.length > 140000 then (b, 3) else (⟨Reg.put (if s.1 = 49 ∧ at_ = 49 then Reg.ring b.held else b.held) s.1 (some (ownR b.held s w)), s.1⟩, 0)

theorem ownR_pos {h : Int → Option (Int × List Int)} {s : Int × Bool} {r : Int × List Int} (hr : 0 < r.2.length) : 0 < (ownR h s r).2.length := by
  unfold ownR
  split
  · split
    · simp only [gt_iff_lt, hr, if_true, Reg.jn, List.length_append]
      omega
    · exact hr
  · exact hr

theorem take_call {a at_ : Int} {r : Int × Sl × Unit} {l : List Int} {K : Int → World → Prop} (hR : RefIn w pr Z b ks) (hb : BkOk b) (hs : Ints w r.2.1 l) (hl : l.length ≤ 2 ^ 44) (hpos : 0 < l.length) (hZ : ∀ k, Z k → k < w.heap.size) (hz : ∀ k, r.2.1.blk k → ¬ Z k)
    (hsl : Slot (ownS (if a = 0 ∨ a = 34 then at_ else a)).1)
    (hK : ∀ w' ks', RefIn w' pr Z (takeR b (ownS (if a = 0 ∨ a = 34 then at_ else a)) at_ (r.1, l)).1 ks' → Upd (fun k => k = pr) w w' → K (takeR b (ownS (if a = 0 ∨ a = 34 then at_ else a)) at_ (r.1, l)).2 w') :
    callT Try.prog 62 #[.pointer (some (at0 pr)), .int .i64 a, .agg (Cells.vals c85 r).toArray, .int .i64 at_] (.one (.one (.int .i64))) K w := by
  refine F62_calls ?_
  unfold F62
  have S := St.startM (fun k => k = pr) w (fun k hk => by subst hk; exact hR.lt)
  refine S.newO fun b1 w1 S e1 => ?_
  refine join_at ((if a = 0 ∨ a = 34 then at_ else a), ()) (unnamed_call (sif_r (fun h => ?_) (fun h => ?_))) ?_
  · rw [if_pos (of_decide_eq_true h)]; exact ⟨rfl, rfl⟩
  · rw [if_neg (of_decide_eq_false h)]; exact ⟨rfl, rfl⟩
  generalize (if a = 0 ∨ a = 34 then at_ else a) = nm at hsl hK ⊢
  refine S.lds 0 r rfl ?_
  refine own_call (hR.ext e1) hb (hs.ext e1) hl (fun k hk => Nat.lt_of_lt_of_le (hZ k hk) e1.size) hz fun s2 w2 i2 hz2 e2 => ?_
  have S := S.ext e2
  refine S.newAgg rfl rfl rfl fun b3 w3 S e3 => ?_
  have hrp : 0 < (ownR b.held (ownS nm) (r.1, l)).2.length := ownR_pos hpos
  unfold takeR at hK
  generalize ownS nm = s at *
  generalize ownR b.held s (r.1, l) = x at *
  have i3 := i2.ext e3
  have hi3 : x.2.length = s2.len := Ints.length i3
  have hR3 := hR.ext (e1.trans (e2.trans e3))
  refine S.ld 0 (x := s2) rfl rfl (sif_r (fun hc => ?_) (fun hc => ?_))
  · have hc : x.2.length > 140000 := by have := of_decide_eq_true hc; omega
    rw [if_pos hc] at hK
    exact hK w3 ks hR3 S.upd
  have hc : ¬ x.2.length > 140000 := by have := of_decide_eq_false hc; omega
  rw [if_neg hc] at hK
  have hno : ∀ {W : World} {bb : Reg.Bk} {kk : List (Cells.T c85)}, RefIn W pr Z bb kk → NoTy W (fun k => k = pr) 3 := fun h => h.noTy (by decide)
  refine join_r (fun _ w' => ∃ ks', RefIn w' pr Z ⟨(if s.1 = 49 ∧ at_ = 49 then Reg.ring b.held else b.held), b.to⟩ ks' ∧ Ints w' s2 x.2 ∧ St (fun k => k = pr) w w' [(b3, .cells (Cells.vals c85 (x.1, s2, ())).toArray 85 (0, 0)), (b1, .cells #[.int .i64 r.1, .slice r.2.1.a r.2.1.len r.2.1.cap] 85 (0, 0))]) ?_ ?_
  · refine join_at (decide (s.1 = 49 ∧ at_ = 49), ()) (sif_r (fun h => ⟨tupb (by simp at h; simp [h]), rfl⟩) (fun h => ⟨tupb (by simp at h; simp [h]), rfl⟩)) (sif_r (fun h => ?_) (fun h => ?_))
    · have h : s.1 = 49 ∧ at_ = 49 := of_decide_eq_true h
      rw [if_pos h]
      refine sloop_r (fun s' w' => 49 ≤ s'.1 ∧ s'.1 ≤ 57 ∧ ∃ ks', RefIn w' pr Z ⟨ringTo s'.1 b.held, b.to⟩ ks' ∧ Ints w' s2 x.2 ∧ St (fun k => k = pr) w w' [(b3, .cells (Cells.vals c85 (x.1, s2, ())).toArray 85 (0, 0)), (b1, .cells #[.int .i64 r.1, .slice r.2.1.a r.2.1.len r.2.1.cap] 85 (0, 0))]) (fun s' _ => (s'.1 - 49).toNat) ⟨by decide, by decide, ks, by rw [ringTo_start]; exact hR3, i3, S⟩ ?_
      rintro ⟨n, ⟨⟩⟩ w4 ⟨hn1, hn2, ks4, hR4, i4, S4⟩
      dsimp only at hn1 hn2 hR4 ⊢
      refine sif_r (fun hj => ?_) (fun hj => ?_)
      · have hj : 49 < n := of_decide_eq_true hj
        have ew : IntKind.wrap .i32 (n - 1) = n - 1 := IntWalk.i32_in _ ⟨by omega, by omega⟩
        simp only [ew]
        refine S4.drew fun w5 S5 e5 _ => nn_some (chk_r ⟨by omega, by omega⟩ ?_)
        rw [addr_add, Nat.zero_add, scaled_eq]
        have hR5 := hR4.ext e5
        refine hR5.lds (n := (n - 1).toNat) (by omega) fun y hy => nn_some (chk_r ⟨by omega, by omega⟩ ?_)
        rw [addr_add, Nat.zero_add, scaled_eq]
        obtain ⟨g1, g2, g3⟩ := hR5.txt _ y hy
        rw [show (((n - 1).toNat : Nat) : Int) = n - 1 by omega] at g1 g2
        dsimp only at g1 g2
        rw [ringTo_at] at g1 g2
        refine hR5.put (n := n.toNat) (by omega) g1 g3 (hb.back g2) fun w6 ks6 hR6 u6 => ?_
        rw [show ((n.toNat : Nat) : Int) = n by omega] at hR6
        dsimp only at hR6
        rw [ringTo_step n b.held (by omega)] at hR6
        exact ⟨⟨by omega, by omega, ks6, hR6, (i4.ext e5).ty u6 (hno hR5), S5.step u6 fun _ h => h⟩, by omega⟩
      · have hj : n = 49 := by have := of_decide_eq_false hj; omega
        subst hj
        rw [ringTo_end] at hR4
        exact ⟨ks4, hR4, i4, S4⟩
    · have h : ¬ (s.1 = 49 ∧ at_ = 49) := of_decide_eq_false h
      rw [if_neg h]
      exact ⟨ks, hR3, i3, S⟩
  rintro _ w4 ⟨ks4, hR4, i4, S4⟩
  refine S4.drew fun w5 S5 e5 _ => S5.lds 0 (x.1, s2, ()) rfl (nn_some (chk_r ⟨by omega, by omega⟩ ?_))
  rw [addr_add, Nat.zero_add, scaled_eq]
  have hR5 := hR4.ext e5
  refine hR5.put (n := s.1.toNat) (by omega) (i4.ext e5) hz2 (v := some x) (by rw [if_neg (by omega)]) fun w6 ks6 hR6 u6 => nn_some ?_
  rw [show ((s.1.toNat : Nat) : Int) = s.1 by omega] at hR6
  rw [addr_add, Nat.zero_add]
  exact hR6.sett s.1 fun w7 hR7 u7 => hK w7 ks6 hR7 ((S5.step u6 fun _ h => h).step u7 fun _ h => h).upd
end
end Go.Proofs.Ytocdfkeflakemaa
