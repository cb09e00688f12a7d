/- What Bank.store does: Reg.sto. Conditions: the text is below 2^44 letters. -/
import Derived.Test.YtocdfkeflakemaaBank
set_option linter.unusedSimpArgs false
set_option linter.unusedVariables false
namespace Go.Proofs.Ytocdfkeflakemaa
open Go Go.Vx
section
variable {w w' : World} {pb m : Nat} {b : Reg.Bk} {Z : Nat → Prop}

theorem jn_le (o x : Int × List Int) : (Reg.jn o x).2.length ≤ o.2.length + x.2.length + 4 := by
  have h1 := lb_le o.2
  have h2 := lb_le x.2
  simp only [Reg.jn, List.length_append]
  split <;> split <;> simp <;> omega

theorem store_call {s : Int × Bool × Unit} {r : Int × Sl × Unit} {l : List Int} {K : Int → World → Prop} (hB : BankIn w pb m Z b) (hs : Ints w r.2.1 l) (hl : l.length ≤ 2 ^ 44) (hZ : ∀ k, Z k → k < w.heap.size) (hz : ∀ k, r.2.1.blk k → ¬ Z k)
    (hK : ∀ w', BankIn w' pb m Z ⟨(Reg.sto b.held (s.1, s.2.1) (r.1, l)).1, b.to⟩ → Upd (BM pb m) w w' → K (Reg.sto b.held (s.1, s.2.1) (r.1, l)).2 w') :
    callT Try.prog 38 #[.pointer (some (at0 pb)), .agg (Cells.vals c64 s).toArray, .agg (Cells.vals c28 r).toArray] (.one (.one (.int .i64))) K w := by
  refine F38_calls ?_
  unfold F38
  have S := St.startM (BM pb m) w hB.lt
  refine S.newO fun b1 w1 S e1 => ?_
  refine S.newO fun b2 w2 S e2 => ?_
  have hB2 := hB.ext (e1.trans e2)
  have hs2 := hs.ext (e1.trans e2)
  refine join_r (fun _ w' => ∃ (r' : Int × Sl × Unit) (l' : List Int), BankIn w' pb m Z b ∧ St (BM pb m) w w' [(b2, .cells #[.int .i64 r'.1, .slice r'.2.1.a r'.2.1.len r'.2.1.cap] 28 (0, 0)), (b1, .cells #[.int .i64 s.1, .bool s.2.1] 64 (0, 0))] ∧ Ints w' r'.2.1 l' ∧ (∀ k, r'.2.1.blk k → ¬ Z k) ∧ l'.length ≤ 2 ^ 44 + 200000 ∧ Reg.sto b.held (s.1, s.2.1) (r.1, l) = Reg.go b.held s.1 (r'.1, l')) ?_ ?_
  · refine S.drew fun w3 S e3 _ => ?_
    have hB3 := hB2.ext e3
    have hs3 := hs2.ext e3
    refine nn_some (hB3.ldm (S.ld 1 (x := s.1) rfl rfl (hB3.look s.1 (fun hn hr => ?_) fun kd lo so hsome ho h1 h2 h3 hr => ?_)))
    · refine S.newO' fun b9 w4 S e4 hb9 => ?_
      refine keep_r (hr w4 e4) (S.keep 2 rfl rfl ((hB3.ext e4).keepm ?_))
      refine S.aggSt 0 rfl rfl rfl rfl fun w5 S u5 => ?_
      have e35 : Ext w3 w5 := e4.step u5 (by rintro k rfl; omega)
      refine join_at (false, ()) (sif_false ⟨rfl, rfl⟩) (sif_false ?_)
      refine join_at (false, ()) (S.ld 2 (x := s.2.1) rfl rfl (sif_r (fun _ => ⟨rfl, rfl⟩) (fun _ => ⟨rfl, rfl⟩))) (sif_false ?_)
      refine ⟨r, l, hB3.ext e35, S.tail, hs3.ext e35, hz, by omega, ?_⟩
      simp only [Reg.sto, hn]
    · refine S.newO' fun b9 w4 S e4 hb9 => ?_
      refine keep_r (hr w4 e4) (S.keep 2 rfl rfl ((hB3.ext e4).keepm ?_))
      refine S.aggSt 0 rfl rfl rfl rfl fun w5 S u5 => ?_
      have e35 : Ext w3 w5 := e4.step u5 (by rintro k rfl; omega)
      have hsl := hs.length
      refine join_at (s.2.1 && decide (0 < l.length), ()) (sif_true ?_) (sif_r (fun hc => ?_) (fun hc => ?_))
      · refine S.ld 2 (x := s.2.1) rfl rfl (sif_r (fun hc => ?_) (fun hc => ?_))
        · refine S.ld 1 (x := r.2.1) rfl rfl ⟨tupb ?_, rfl⟩
          simp [hc]; omega
        · exact ⟨tupb (by simp [hc]), rfl⟩
      · have hc : s.2.1 = true ∧ 0 < l.length := by simpa using hc
        refine S.lds 0 (kd, so, ()) rfl (S.lds 1 r rfl ?_)
        have S0 := S
        refine join_call (lo := lo) (lm := l) (ho.ext e35) (hs3.ext e35) h2 hl fun s6 w6 o6 e6 => ?_
        have S := S.ext e6
        refine S.aggSt 1 rfl rfl rfl rfl fun w7 S7 u7 => ?_
        have hj := jn_le (kd, lo) (r.1, l)
        refine ⟨((Reg.jn (kd, lo) (r.1, l)).1, s6, ()), (Reg.jn (kd, lo) (r.1, l)).2, ((hB3.ext e35).ext e6).box_upd (S.at_ 1 rfl) (by decide) (by decide) u7, S7.tail, (o6.box (S.at_ 1 rfl) (by decide) u7).in, fun k hk hzk => (by have h8 := o6.blk_ge hk; have h9 := hZ k hzk; have := S0.upd.size; omega), by dsimp only at hj; omega, ?_⟩
        simp only [Reg.sto, hsome, hc.1, if_true, if_pos hc.2]
      · have hc : ¬ (s.2.1 = true ∧ 0 < l.length) := by simpa using hc
        refine join_at (s.2.1, ()) (S.ld 2 (x := s.2.1) rfl rfl (sif_r (fun h => ⟨by rw [h], rfl⟩) (fun h => ⟨by rw [h], rfl⟩))) (sif_r (fun hd => ?_) (fun hd => ?_))
        · have h0 : ¬ 0 < l.length := fun h => hc ⟨hd, h⟩
          have hd : s.2.1 = true := hd
          have he : Reg.sto b.held (s.1, s.2.1) (r.1, l) = (b.held, 0) := by simp only [Reg.sto, hsome, hd, if_true, gt_iff_lt, if_neg h0]
          rw [he] at hK
          exact hK w5 (hB3.ext e35) S.upd
        · have hd : s.2.1 = false := hd
          refine ⟨r, l, hB3.ext e35, S.tail, hs3.ext e35, hz, by omega, ?_⟩
          simp only [Reg.sto, hsome, hd, Bool.false_eq_true, if_false]
  · rintro ⟨⟩ w3 ⟨r', l', hB3, S, hs3, hz3, hl', he⟩
    rw [he] at hK
    have hn := hs3.length
    refine S.ld 0 (x := r'.2.1) rfl rfl (sif_r (fun hc => ?_) (fun hc => ?_))
    · have hc : l'.length > 140000 := by have := of_decide_eq_true hc; omega
      simp only [Reg.go, if_pos hc] at hK
      exact hK w3 hB3 S.upd
    · have hc : ¬ l'.length > 140000 := by have := of_decide_eq_false hc; omega
      simp only [Reg.go, if_neg hc] at hK
      refine join_id (S.ld 0 (x := r'.2.1) rfl rfl (sif_r (fun hd => ?_) (fun hd => ?_)))
      · have hd : l'.length = 0 := by have : ((r'.2.1.len : Nat) : Int) = 0 := by simpa using hd
                                      omega
        rw [if_pos hd] at hK
        refine S.drew fun w4 S e4 _ => ?_
        refine nn_some ((hB3.ext e4).ldm (S.ld 1 (x := s.1) rfl rfl ((hB3.ext e4).delete s.1 fun w5 hB5 u5 => hK w5 hB5 (S.step u5 fun k h => .inr h).upd)))
      · have hd : ¬ l'.length = 0 := by have : ¬ ((r'.2.1.len : Nat) : Int) = 0 := by simpa using hd
                                        omega
        rw [if_neg hd] at hK
        refine S.drew fun w4 S e4 _ => ?_
        refine nn_some ((hB3.ext e4).ldm (S.ld 1 (x := s.1) rfl rfl (S.lds 0 r' rfl ((hB3.ext e4).update s.1 (hs3.ext e4) (by omega) (by omega) hz3 fun w5 hB5 u5 => hK w5 hB5 (S.step u5 fun k h => .inr h).upd))))
end
end Go.Proofs.Ytocdfkeflakemaa
