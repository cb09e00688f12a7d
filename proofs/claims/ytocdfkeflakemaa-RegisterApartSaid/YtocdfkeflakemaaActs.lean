/- What Yank, Set and Get do: Reg.yank, Reg.set, Reg.get. Conditions: texts below 2^44 - 512 letters. -/
import Derived.Test.YtocdfkeflakemaaOps
set_option linter.unusedSimpArgs false
set_option linter.unusedVariables false
namespace Go.Proofs.Ytocdfkeflakemaa
open Go Go.Vx
section
variable {w w' : World} {pb m : Nat} {b : Reg.Bk} {Z : Nat → Prop}

theorem wr_le (k : Int) (l : List Int) : (Reg.wr k l).length ≤ l.length + 1 := by
  unfold Reg.wr
  split <;> simp

theorem yank_call {a1 : Int} {r : Int × Sl × Unit} {l : List Int} {K : Int → World → Prop} (hB : BankIn w pb m Z b) (hs : Ints w r.2.1 l) (hl : l.length ≤ 2 ^ 44 - 512) (hZ : ∀ k, Z k → k < w.heap.size)
    (hK : ∀ w', BankIn w' pb m Z (Reg.yank b a1 r.1 l).1 → Upd (BM pb m) w w' → K (Reg.yank b a1 r.1 l).2 w') :
    callT Try.prog 14 #[.pointer (some (at0 pb)), .int .i64 a1, .agg (Cells.vals c28 r).toArray] (.one (.one (.int .i64))) K w := by
  refine F14_calls ?_
  unfold F14
  have hw := wr_le r.1 l
  have S := St.startM (BM pb m) w hB.lt
  refine S.newO fun b1 w1 S e1 => ?_
  refine S.lds 0 r rfl ?_
  refine refuse_call fun w2 e2 => ?_
  have S := S.ext e2
  refine S.newAgg rfl rfl rfl fun b4 w4 S e4 => ?_
  obtain ⟨k, ap, er, hf⟩ : ∃ k ap er, Reg.rfs a1 r.1 = ((k, ap), er) := ⟨_, _, _, rfl⟩
  have e14 := e1.trans (e2.trans e4)
  simp only [Reg.yank, hf] at hK ⊢
  rw [hf] at S
  dsimp only at S hK ⊢
  refine sif_r (fun hc => ?_) (fun hc => ?_)
  · have hc : er ≠ 0 := by simpa using hc
    rw [if_pos hc] at hK
    exact hK w4 (hB.ext e14) S.upd
  have hc : ¬ er ≠ 0 := by simpa using hc
  rw [if_neg hc] at hK
  refine S.lds 1 r rfl (written_call (hs.ext e14) hl fun s5 w5 o5 e5 => ?_)
  have S := S.ext e5
  have o5' := o5.in
  have hn5 := o5.length
  have hz5 : ∀ k, s5.blk k → ¬ Z k := fun k hk hzk => by have h8 := o5.blk_ge hk; have h9 := hZ k hzk; have := e14.size; omega
  refine S.newAgg rfl rfl rfl fun b7 w7 S e7 => ?_
  have e17 := e14.trans (e5.trans e7)
  refine join_at (decide (k = 95 ∨ (Reg.wr r.1 l).length = 0), ()) ?_ (sif_r (fun hd => ?_) (fun hd => ?_))
  · refine S.ld 1 (x := k) rfl rfl (sif_r (fun h => ⟨tupb (by simp at h ⊢; simp [h]), rfl⟩) (fun h => S.ld 0 (x := s5) rfl rfl ⟨tupb ?_, rfl⟩))
    simp at h ⊢
    simp [h, ← hn5]
  · rw [if_pos (of_decide_eq_true hd)] at hK
    exact hK w7 (hB.ext e17) S.upd
  rw [if_neg (of_decide_eq_false hd)] at hK
  refine join_r (fun _ w' => St (BM pb m) w w' [(b7, .cells #[.int .i64 r.1, .slice s5.a s5.len s5.cap] 28 (0, 0)), (b4, .cells #[.int .i64 (if k = 34 then 48 else k), .bool ap] 64 (0, 0)), (b1, .cells #[.int .i64 r.1, .slice r.2.1.a r.2.1.len r.2.1.cap] 28 (0, 0))] ∧ BankIn w' pb m Z b ∧ Ints w' s5 (Reg.wr r.1 l)) ?_ ?_
  · refine S.ld 1 (x := k) rfl rfl (sif_r (fun h => ?_) (fun h => ?_))
    · have h : k = 34 := by simpa using h
      refine S.stC 1 rfl (Nat.succ_pos 1) fun w8 S8 u8 => ⟨?_, (hB.ext e17).box_upd (S.at_ 1 rfl) (by decide) (by decide) u8, (o5'.ext e7).box (S.at_ 1 rfl) (by decide) u8⟩
      rw [if_pos h]
      exact S8
    · have h : ¬ k = 34 := by simpa using h
      rw [if_neg h]
      exact ⟨S, hB.ext e17, o5'.ext e7⟩
  · rintro ⟨⟩ w8 ⟨S, hB8, hs8⟩
    refine S.lds 1 ((if k = 34 then 48 else k), ap, ()) rfl (S.lds 0 (r.1, s5, ()) rfl ?_)
    refine keep_call hB8 hs8 (by omega) (fun k hk => Nat.lt_of_lt_of_le (hZ k hk) S.upd.size) hz5 fun w9 hB9 u9 => ?_
    have e : (if k = 34 then ((48 : Int), ap) else (k, ap)) = ((if k = 34 then 48 else k), ap) := by split <;> rfl
    rw [e] at hK
    exact hK w9 hB9 (S.step u9 fun _ h => h).upd

theorem set_call {a1 : Int} {a2 : Sl} {l : List Int} {K : Int → World → Prop} (hB : BankIn w pb m Z b) (hs : Ints w a2 l) (hl : l.length ≤ 2 ^ 44 - 512) (hZ : ∀ k, Z k → k < w.heap.size)
    (hK : ∀ w', BankIn w' pb m Z (Reg.set b a1 l).1 → Upd (BM pb m) w w' → K (Reg.set b a1 l).2 w') :
    callT Try.prog 19 #[.pointer (some (at0 pb)), .int .i64 a1, .slice a2.a a2.len a2.cap] (.one (.one (.int .i64))) K w := by
  refine F19_calls ?_
  unfold F19
  have hw := wr_le 0 l
  have S := St.startM (BM pb m) w hB.lt
  refine find_call fun w1 e1 => ?_
  have S := S.ext e1
  refine S.newAgg rfl rfl rfl fun b2 w2 S e2 => ?_
  obtain ⟨k, ap, ok, hf⟩ : ∃ k ap ok, Reg.fnd a1 = ((k, ap), ok) := ⟨_, _, _, rfl⟩
  have e12 := e1.trans e2
  simp only [Reg.set, hf] at hK ⊢
  rw [hf] at S
  dsimp only at S hK ⊢
  refine join_at (decide (ok = false ∨ k = 34), ()) ?_ (sif_r (fun hc => ?_) (fun hc => ?_))
  · refine sif_r (fun h => ⟨tupb (by simp at h ⊢; simp [h]), rfl⟩) (fun h => S.ld 0 (x := k) rfl rfl ⟨tupb ?_, rfl⟩)
    simp at h ⊢; simp [h]
  · rw [if_pos (of_decide_eq_true hc)] at hK
    exact hK w2 (hB.ext e12) S.upd
  rw [if_neg (of_decide_eq_false hc)] at hK
  refine S.ld 0 (x := k) rfl rfl (sif_r (fun hd => ?_) (fun hd => ?_))
  · have hd : k = 95 := by simpa using hd
    rw [if_pos hd] at hK
    exact hK w2 (hB.ext e12) S.upd
  have hd : ¬ k = 95 := by simpa using hd
  rw [if_neg hd] at hK
  refine S.drew fun w3 S e3 _ => S.lds 0 (k, ap, ()) rfl ?_
  have e13 := e12.trans e3
  refine written_call (r := (0, a2, ())) (hs.ext e13) hl fun s4 w4 o4 e4 => ?_
  have S := S.ext e4
  refine S.keeps 0 rfl ?_
  refine store_call (hB.ext (e13.trans e4)) o4.in (show (Reg.wr 0 l).length ≤ 2 ^ 44 by omega) (fun k hk => Nat.lt_of_lt_of_le (hZ k hk) S.upd.size) (fun k hk hzk => by have h8 := o4.blk_ge hk; have h9 := hZ k hzk; have := e13.size; omega) fun w5 hB5 u5 => hK w5 hB5 (S.step u5 fun _ h => h).upd

theorem get_call {a1 : Int} {K : ((Int × Sl × Unit) × Int × Unit) → World → Prop} (hB : BankIn w pb m Z b)
    (hK : ∀ s w', IntsO w' w.heap.size s (Reg.get b a1).2.1 → Ext w w' → K (((Reg.get b a1).1, s, ()), (Reg.get b a1).2.2, ()) w') :
    callT Try.prog 21 #[.pointer (some (at0 pb)), .int .i64 a1] (.tup [(.agg c28), (.one (.int .i64))]) K w := by
  refine F21_calls ?_
  unfold F21
  have S := St.start w
  refine S.newO fun b1 w1 S e1 => ?_
  refine find_call fun w2 e2 => ?_
  have S := S.ext e2
  refine S.newAgg rfl rfl rfl fun b3 w3 S e3 => ?_
  obtain ⟨k, ap, ok, hf⟩ : ∃ k ap ok, Reg.fnd a1 = ((k, ap), ok) := ⟨_, _, _, rfl⟩
  have e13 := e1.trans (e2.trans e3)
  simp only [Reg.get, hf] at hK ⊢
  rw [hf] at S
  dsimp only at S hK ⊢
  refine sif_r (fun hc => ?_) (fun hc => ?_)
  · have hc : ok = false := by simpa using hc
    rw [if_pos hc] at hK
    refine S.aggSt 1 rfl rfl rfl rfl fun w4 S4 u4 => S4.lds 1 (0, ⟨none, 0, 0⟩, ()) rfl ?_
    exact hK _ _ (SlOwn.nil w4 _ 3 1) S4.upd
  have hc : ¬ ok = false := by simpa using hc
  rw [if_neg hc] at hK
  refine join_r (fun _ w' => St (fun _ => False) w w' [(b3, .cells #[.int .i64 (if k = 34 then b.to else k), .bool ap] 64 (0, 0)), (b1, .cells #[.int .i64 0, .slice none 0 0] 28 (0, 0))]) ?_ ?_
  · refine S.ld 0 (x := k) rfl rfl (sif_r (fun h => ?_) (fun h => ?_))
    · have h : k = 34 := by simpa using h
      refine nn_some ?_
      rw [addr_add]
      refine (hB.ext e13).ldt (S.stC 0 rfl (Nat.succ_pos 1) fun w8 S8 u8 => ?_)
      rw [if_pos h]
      exact S8
    · have h : ¬ k = 34 := by simpa using h
      rw [if_neg h]
      exact S
  · rintro ⟨⟩ w5 S
    generalize (if k = 34 then b.to else k) = k' at S hK
    refine S.drew fun w6 S e6 _ => ?_
    have hB6 := hB.ext S.upd
    refine nn_some (hB6.ldm (S.ld 0 (x := k') rfl rfl (hB6.look k' (fun hn hr => ?_) fun kd lo so hsome ho h1 h2 _ hr => ?_)))
    · rw [hn] at hK
      refine S.newO' fun b9 w7 S e7 hb9 => ?_
      refine keep_r (hr w7 e7) (S.keep 1 rfl rfl ((hB6.ext e7).keepm ?_))
      refine S.aggSt 0 rfl rfl rfl rfl fun w8 S u8 => sif_true ?_
      refine S.aggSt 2 rfl rfl rfl rfl fun w4 S4 u4 => S4.lds 2 (0, ⟨none, 0, 0⟩, ()) rfl ?_
      exact hK _ _ (SlOwn.nil w4 _ 3 1) S4.upd
    · rw [hsome] at hK
      refine S.newO' fun b9 w7 S e7 hb9 => ?_
      refine keep_r (hr w7 e7) (S.keep 1 rfl rfl ((hB6.ext e7).keepm ?_))
      refine S.aggSt 0 rfl rfl rfl rfl fun w8 S u8 => sif_false ?_
      have e68 : Ext w6 w8 := e7.step u8 (by rintro k rfl; omega)
      refine S.drew fun w9 S e9 _ => ?_
      refine S.ld 0 (x := kd) rfl rfl (S.ld 0 (x := so) rfl rfl ?_)
      refine clone_call (ho.ext (e68.trans e9)) (by omega) fun s10 w10 o10 e10 => ?_
      have hsz := S.upd.size
      have S := S.ext e10
      refine S.keep 0 rfl rfl (S.aggSt 2 rfl rfl rfl rfl fun w11 S11 u11 => S11.lds 2 (kd, s10, ()) rfl ?_)
      exact hK _ _ ((o10.box (S.at_ 2 rfl) (by decide) u11).mono hsz) S11.upd
end
end Go.Proofs.Ytocdfkeflakemaa
