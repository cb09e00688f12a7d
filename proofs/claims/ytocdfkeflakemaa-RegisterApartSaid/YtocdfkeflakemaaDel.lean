/- What Delete does: Reg.del. Conditions: the text is below 2^44 - 512 letters. -/
import Derived.Test.YtocdfkeflakemaaActs
set_option linter.unusedSimpArgs false
set_option linter.unusedVariables false
namespace Go.Proofs.Ytocdfkeflakemaa
open Go Go.Vx
section
variable {w w' : World} {pb m : Nat} {b : Reg.Bk} {Z : Nat → Prop}

/-- the ring, moved down to n -/
def ringTo (n : Int) (h : Int → Option (Int × List Int)) : Int → Option (Int × List Int) := fun x => if n < x ∧ x ≤ 57 then h (x - 1) else h x
theorem ringTo_at (n : Int) (h : Int → Option (Int × List Int)) : ringTo n h (n - 1) = h (n - 1) := by
  unfold ringTo; rw [if_neg (by omega)]
theorem ringTo_step (n : Int) (h : Int → Option (Int × List Int)) (h1 : n ≤ 57) : Reg.put (ringTo n h) n (h (n - 1)) = ringTo (n - 1) h := by
  funext x
  unfold Reg.put ringTo
  by_cases e : x = n
  · subst e
    rw [if_pos rfl, if_pos (by omega)]
  · rw [if_neg e]
    by_cases c : n < x ∧ x ≤ 57
    · rw [if_pos c, if_pos (by omega)]
    · rw [if_neg c, if_neg (by omega)]
theorem ringTo_start (h : Int → Option (Int × List Int)) : ringTo 57 h = h := by
  funext x; unfold ringTo; rw [if_neg (by omega)]
theorem ringTo_end (h : Int → Option (Int × List Int)) : ringTo 49 h = Reg.ring h := by
  funext x; unfold ringTo Reg.ring
  by_cases c : 50 ≤ x ∧ x ≤ 57
  · rw [if_pos c, if_pos (by omega)]
  · rw [if_neg c, if_neg (by omega)]

theorem delete_call {a1 : Int} {r : Int × Sl × Unit} {l : List Int} {K : Int → World → Prop} (hB : BankIn w pb m Z b) (hs : Ints w r.2.1 l) (hl : l.length ≤ 2 ^ 44 - 512) (hZ : ∀ k, Z k → k < w.heap.size)
    (hK : ∀ w', BankIn w' pb m Z (Reg.del b a1 r.1 l).1 → Upd (BM pb m) w w' → K (Reg.del b a1 r.1 l).2 w') :
    callT Try.prog 15 #[.pointer (some (at0 pb)), .int .i64 a1, .agg (Cells.vals c28 r).toArray] (.one (.one (.int .i64))) K w := by
  refine F15_calls ?_
  unfold F15
  have hw := wr_le r.1 l
  have S := St.startM (BM pb m) w hB.lt
  refine S.newO fun b1 w1 S e1 => ?_
  refine S.lds 0 r rfl ?_
  refine refuse_call fun w2 e2 => ?_
  have S := S.ext e2
  refine S.newAgg rfl rfl rfl fun b4 w4 S e4 => ?_
  obtain ⟨k, ap, er, hf⟩ : ∃ k ap er, Reg.rfs a1 r.1 = ((k, ap), er) := ⟨_, _, _, rfl⟩
  have e14 := e1.trans (e2.trans e4)
  simp only [Reg.del, hf] at hK ⊢
  rw [hf] at S
  dsimp only at S hK ⊢
  refine sif_r (fun hc => ?_) (fun hc => ?_)
  · have hc : er ≠ 0 := by simpa using hc
    rw [if_pos hc] at hK
    exact hK w4 (hB.ext e14) S.upd
  have hc : ¬ er ≠ 0 := by simpa using hc
  rw [if_neg hc] at hK
  refine S.lds 1 r rfl (written_call (hs.ext e14) hl fun s5 w5 o5 e5 => ?_)
  have S := S.ext e5
  have o5' := o5.in
  have hn5 := o5.length
  have hz5 : ∀ k, s5.blk k → ¬ Z k := fun k hk hzk => by have h8 := o5.blk_ge hk; have h9 := hZ k hzk; have := e14.size; omega
  refine S.newAgg rfl rfl rfl fun b7 w7 S e7 => ?_
  have e17 := e14.trans (e5.trans e7)
  have hB7 := hB.ext e17
  have hs7 := o5'.ext e7
  refine join_at (decide (k = 95 ∨ (Reg.wr r.1 l).length = 0), ()) ?_ (sif_r (fun hd => ?_) (fun hd => ?_))
  · refine S.ld 1 (x := k) rfl rfl (sif_r (fun h => ⟨tupb (by simp at h ⊢; simp [h]), rfl⟩) (fun h => S.ld 0 (x := s5) rfl rfl ⟨tupb ?_, rfl⟩))
    simp at h ⊢
    simp [h, ← hn5]
  · rw [if_pos (of_decide_eq_true hd)] at hK
    exact hK w7 hB7 S.upd
  rw [if_neg (of_decide_eq_false hd)] at hK
  refine S.ld 1 (x := k) rfl rfl (sif_r (fun he => ?_) (fun he => ?_))
  · have he : k ≠ 34 := by simpa using he
    rw [if_pos he] at hK
    refine S.lds 1 (k, ap, ()) rfl (S.lds 0 (r.1, s5, ()) rfl ?_)
    exact keep_call hB7 hs7 (by omega) (fun k hk => Nat.lt_of_lt_of_le (hZ k hk) S.upd.size) hz5 fun w9 hB9 u9 => hK w9 hB9 (S.step u9 fun _ h => h).upd
  have he : ¬ k ≠ 34 := by simpa using he
  rw [if_neg he] at hK
  refine join_at (decide (r.1 = 0 ∧ 10 ∉ Reg.wr r.1 l ∧ 13 ∉ Reg.wr r.1 l), ()) ?_ (sif_r (fun hg => ?_) (fun hg => ?_))
  · refine S.ld 0 (x := r.1) rfl rfl (sif_r (fun h => ?_) (fun h => ⟨tupb (by simp at h ⊢; simp [h]), rfl⟩))
    have h : r.1 = 0 := by simpa using h
    refine S.ld 0 (x := s5) rfl rfl (contains_call hs7 (by omega) (sif_r (fun h2 => ?_) (fun h2 => ⟨tupb ?_, rfl⟩)))
    · refine S.ld 0 (x := s5) rfl rfl (contains_call hs7 (by omega) ⟨tupb ?_, rfl⟩)
      have h2 : 10 ∉ Reg.wr r.1 l := by simpa using h2
      simp [h, h2] at h2 ⊢
      exact fun _ => h2
    · have h2 : 10 ∈ Reg.wr r.1 l := by simpa using h2
      simp [h2]
  · rw [if_pos (of_decide_eq_true hg)] at hK
    refine S.lds 0 (r.1, s5, ()) rfl ?_
    exact keep_call (s := (45, false, ())) hB7 hs7 (by omega) (fun k hk => Nat.lt_of_lt_of_le (hZ k hk) S.upd.size) hz5 fun w9 hB9 u9 => hK w9 hB9 (S.step u9 fun _ h => h).upd
  rw [if_neg (of_decide_eq_false hg)] at hK
  refine S.ld 0 (x := s5) rfl rfl (sif_r (fun hi => ?_) (fun hi => ?_))
  · have hi : (Reg.wr r.1 l).length > 140000 := by have := of_decide_eq_true hi; omega
    rw [if_pos hi] at hK
    exact hK w7 hB7 S.upd
  have hi : ¬ (Reg.wr r.1 l).length > 140000 := by have := of_decide_eq_false hi; omega
  rw [if_neg hi] at hK
  refine join_r (fun _ w' => St (BM pb m) w w' [(b7, .cells (Cells.vals c28 (r.1, s5, ())).toArray 28 (0, 0)), (b4, .cells (Cells.vals c64 (k, ap, ())).toArray 64 (0, 0)), (b1, .cells #[.int .i64 r.1, .slice r.2.1.a r.2.1.len r.2.1.cap] 28 (0, 0))] ∧ BankIn w' pb m Z ⟨Reg.ring b.held, b.to⟩ ∧ Ints w' s5 (Reg.wr r.1 l)) ?_ ?_
  · refine sloop_r (fun s w' => St (BM pb m) w w' [(b7, .cells (Cells.vals c28 (r.1, s5, ())).toArray 28 (0, 0)), (b4, .cells (Cells.vals c64 (k, ap, ())).toArray 64 (0, 0)), (b1, .cells #[.int .i64 r.1, .slice r.2.1.a r.2.1.len r.2.1.cap] 28 (0, 0))] ∧ (49 ≤ s.1 ∧ s.1 ≤ 57) ∧ BankIn w' pb m Z ⟨ringTo s.1 b.held, b.to⟩ ∧ Ints w' s5 (Reg.wr r.1 l)) (fun s _ => (s.1 - 49).toNat) ⟨S, by decide, by rw [ringTo_start]; exact hB7, hs7⟩ ?_
    rintro ⟨n, ⟨⟩⟩ w8 ⟨S, hn, hB8, hs8⟩
    dsimp only at hn hB8 hs8 ⊢
    refine sif_r (fun hj => ?_) (fun hj => ?_)
    · have hj : 49 < n := of_decide_eq_true hj
      have ew : IntKind.wrap .i64 (n - 1) = n - 1 := IntWalk.i64_in _ ⟨by omega, by omega⟩
      simp only [ew]
      refine join_r (fun _ w' => St (BM pb m) w w' [(b7, .cells (Cells.vals c28 (r.1, s5, ())).toArray 28 (0, 0)), (b4, .cells (Cells.vals c64 (k, ap, ())).toArray 64 (0, 0)), (b1, .cells #[.int .i64 r.1, .slice r.2.1.a r.2.1.len r.2.1.cap] 28 (0, 0))] ∧ BankIn w' pb m Z ⟨ringTo (n - 1) b.held, b.to⟩ ∧ Ints w' s5 (Reg.wr r.1 l)) ?_ ?_
      · have mapstep : ∀ {wa wb : World}, Ints wa s5 (Reg.wr r.1 l) → BankIn wa pb m Z ⟨ringTo n b.held, b.to⟩ → Upd (fun k => k = m) wa wb → Ints wb s5 (Reg.wr r.1 l) := by
          intro wa wb hI hB u
          obtain ⟨es, ⟨⟨c, hc, _⟩, _, _⟩, _⟩ := hB.map
          refine hI.upd u ?_
          rintro k hk rfl
          obtain ⟨p, hp, rfl⟩ := hk
          rcases hI.at_ with ⟨h0, _⟩ | ⟨b', off, c', fr', ha, hb', _⟩
          · rw [h0] at hp; cases hp
          · rw [ha] at hp; cases hp
            rw [hb'] at hc; cases hc
        refine nn_some (hB8.ldm (hB8.look (n - 1) (fun hno _ => ?_) fun kd lo so hsome ho h1 h2 h3 _ => ?_))
        · refine S.newAgg rfl rfl rfl fun b35 w9 S e9 => sif_false ?_
          have hB9 := hB8.ext e9
          refine nn_some (hB9.ldm (hB9.delete n fun w10 hB10 u10 => ⟨(S.step u10 fun k h => .inr h).tail, ?_, mapstep (hs8.ext e9) hB9 u10⟩))
          dsimp only at hB10 hno
          rw [ringTo_at] at hno
          rw [← hno, ringTo_step n b.held (by omega)] at hB10
          exact hB10
        · refine S.newAgg rfl rfl rfl fun b35 w9 S e9 => sif_true ?_
          refine S.drew fun w10 S e10 _ => ?_
          have e := e9.trans e10
          have hB9 := hB8.ext e
          refine nn_some (hB9.ldm (S.lds 0 (kd, so, ()) rfl (hB9.update n (ho.ext e) h1 h2 h3 fun w11 hB11 u11 => ⟨(S.step u11 fun k h => .inr h).tail, ?_, mapstep (hs8.ext e) hB9 u11⟩)))
          dsimp only at hB11 hsome
          rw [ringTo_at] at hsome
          rw [← hsome, ringTo_step n b.held (by omega)] at hB11
          exact hB11
      · rintro ⟨⟩ w9 ⟨S, hB9, hs9⟩
        exact ⟨⟨S, ⟨by omega, by omega⟩, hB9, hs9⟩, by omega⟩
    · have hj : n = 49 := by have := of_decide_eq_false hj; omega
      subst hj
      rw [ringTo_end] at hB8
      exact ⟨S, hB8, hs8⟩
  · rintro ⟨⟩ w8 ⟨S, hB8, hs8⟩
    refine S.lds 0 (r.1, s5, ()) rfl ?_
    exact keep_call (s := (49, false, ())) hB8 hs8 (by omega) (fun k hk => Nat.lt_of_lt_of_le (hZ k hk) S.upd.size) hz5 fun w9 hB9 u9 => hK w9 hB9 (S.step u9 fun _ h => h).upd
end
end Go.Proofs.Ytocdfkeflakemaa
