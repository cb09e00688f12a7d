/- RegisterHole answers true. Conditions: the arguments lie as StepsIn and Txt say. -/
import Derived.Test.YtocdfkeflakemaaShown
set_option linter.unusedSimpArgs false
set_option linter.unusedVariables false
namespace Go.Proofs.Ytocdfkeflakemaa
open Go Go.Vx
section
variable {w w' : World} {pb m : Nat} {b : Reg.Bk}

/- the bank, plainly -/
theorem put_ne {f : Int → Option (Int × List Int)} {k x : Int} {v : Option (Int × List Int)} (h : x ≠ k) : Reg.put f k v x = f x := by simp [Reg.put, h]
theorem go_at {h : Int → Option (Int × List Int)} {k x : Int} {r : Int × List Int} (hx : x ≠ k) : (Reg.go h k r).1 x = h x := by
  unfold Reg.go; split
  · rfl
  · exact put_ne hx
theorem sto_at {h : Int → Option (Int × List Int)} {s : Int × Bool} {x : Int} {r : Int × List Int} (hx : x ≠ s.1) : (Reg.sto h s r).1 x = h x := by
  unfold Reg.sto; split
  · split
    · split
      · exact go_at hx
      · rfl
    · exact go_at hx
  · exact go_at hx
theorem kp_at {s : Int × Bool} {x : Int} {r : Int × List Int} (hx : x ≠ s.1) : (Reg.kp b s r).1.held x = b.held x := by
  unfold Reg.kp; dsimp only; split
  · exact sto_at hx
  · exact sto_at hx
theorem rfs_key (a k : Int) : (Reg.rfs a k).1 = (Reg.fnd a).1 := rfl
theorem keep95 : Keeps fun b => b.held 95 = none := by
  refine ⟨rfl, fun b a k l h => ?_, fun b a k l h => ?_, fun b a l h => ?_⟩
  · simp only [Reg.yank]
    split
    · exact h
    split
    · exact h
    rename_i h1 h2
    rw [kp_at (by split <;> simp only [ne_eq] <;> omega)]; exact h
  · simp only [Reg.del]
    split
    · exact h
    split
    · exact h
    rename_i h1 h2
    split
    · rw [kp_at (by omega)]; exact h
    split
    · rw [kp_at (by simp)]; exact h
    split
    · exact h
    · rw [kp_at (by simp)]
      show Reg.ring b.held 95 = none
      simp only [Reg.ring]; rw [if_neg (by omega)]; exact h
  · simp only [Reg.set]
    split
    · exact h
    split
    · exact h
    · show (Reg.sto b.held (Reg.fnd a).1 (0, Reg.wr 0 l)).1 95 = none
      rw [sto_at (by omega)]; exact h
theorem go_err {h : Int → Option (Int × List Int)} {k : Int} {r : Int × List Int} (he : (Reg.go h k r).2 ≠ 0) : (Reg.go h k r).1 = h := by
  unfold Reg.go at he ⊢; split at he
  · rw [if_pos (by assumption)]
  · simp at he
theorem sto_err {h : Int → Option (Int × List Int)} {s : Int × Bool} {r : Int × List Int} (he : (Reg.sto h s r).2 ≠ 0) : (Reg.sto h s r).1 = h := by
  unfold Reg.sto at he ⊢; split
  · rename_i hs
    simp only [hs] at he
    split
    · rename_i hb
      rw [if_pos hb] at he
      split
      · rename_i hl
        rw [if_pos hl] at he
        exact go_err he
      · rfl
    · rename_i hb
      rw [if_neg hb] at he
      exact go_err he
  · rename_i hs
    simp only [hs] at he
    exact go_err he
theorem kp_err {s : Int × Bool} {r : Int × List Int} (he : (Reg.kp b s r).2 ≠ 0) : (Reg.kp b s r).1 = b := by
  unfold Reg.kp at he ⊢; dsimp only at he ⊢; split
  · rename_i h; rw [if_pos h] at he; exact absurd rfl he
  · rename_i h; rw [sto_err h]
theorem yank_err {a k : Int} {l : List Int} (he : (Reg.yank b a k l).2 ≠ 0) : (Reg.yank b a k l).1 = b := by
  simp only [Reg.yank] at he ⊢
  split
  · rfl
  · rename_i h1
    rw [if_neg h1] at he
    split
    · rfl
    · rename_i h2
      rw [if_neg h2] at he
      exact kp_err he
theorem del_err {a k : Int} {l : List Int} (he : (Reg.del b a k l).2 ≠ 0) : (Reg.del b a k l).1 = b := by
  simp only [Reg.del] at he ⊢
  split
  · rfl
  rename_i h1
  rw [if_neg h1] at he
  split
  · rfl
  rename_i h2
  rw [if_neg h2] at he
  split
  · rename_i h3; rw [if_pos h3] at he; exact kp_err he
  rename_i h3
  rw [if_neg h3] at he
  split
  · rename_i h4; rw [if_pos h4] at he; exact kp_err he
  rename_i h4
  rw [if_neg h4] at he
  split
  · rfl
  rename_i h5
  rw [if_neg h5] at he
  exact absurd (by rw [kp_plain (by omega) (by omega)]) he
theorem hole_yank {k : Int} {l : List Int} : Reg.yank b 95 k l = (b, if k = 0 ∨ k = 1 then 0 else 1) ∧ Reg.del b 95 k l = (b, if k = 0 ∨ k = 1 then 0 else 1) ∧ Reg.set b 95 l = (b, 0) := by
  have hf : Reg.fnd 95 = ((95, false), true) := by decide
  by_cases hk : k = 0 ∨ k = 1
  · have hr : Reg.rfs 95 k = ((95, false), 0) := by simp only [Reg.rfs, hf]; rw [if_neg (by simp), if_neg (by omega), if_neg (by omega)]
    refine ⟨?_, ?_, ?_⟩
    · simp only [Reg.yank, hr]; rw [if_neg (by simp), if_pos (.inl trivial), if_pos hk]
    · simp only [Reg.del, hr]; rw [if_neg (by simp), if_pos (.inl trivial), if_pos hk]
    · simp only [Reg.set, hf]; rw [if_neg (by simp), if_pos trivial]
  · have hr : Reg.rfs 95 k = ((95, false), 1) := by simp only [Reg.rfs, hf]; rw [if_neg (by simp), if_neg (by omega), if_pos (by omega)]
    refine ⟨?_, ?_, ?_⟩
    · simp only [Reg.yank, hr]; rw [if_pos (by simp), if_neg hk]
    · simp only [Reg.del, hr]; rw [if_pos (by simp), if_neg hk]
    · simp only [Reg.set, hf]; rw [if_neg (by simp), if_pos trivial]
theorem refused {a k e : Int} {l : List Int} (he : e ≠ 0) (h : (Reg.rfs a k).2 = e) : Reg.yank b a k l = (b, e) ∧ Reg.del b a k l = (b, e) := by
  subst h
  exact ⟨by simp only [Reg.yank]; rw [if_pos he], by simp only [Reg.del]; rw [if_pos he]⟩
theorem nothing {a : Int} (ha : a = 0 ∨ a = 34) : Reg.yank b a 0 [] = (b, 0) ∧ Reg.del b a 0 [] = (b, 0) := by
  refine ⟨?_, ?_⟩
  · simp only [Reg.yank, rfs_none ha (.inl rfl)]; rw [if_neg (by simp), if_pos (.inr rfl)]
  · simp only [Reg.del, rfs_none ha (.inl rfl)]; rw [if_neg (by simp), if_pos (.inr rfl)]

/-- where RegisterHole stands -/
structure HoleSt (w0 w : World) (pb m : Nat) (b bs : Reg.Bk) (b5 : Nat) (a2 : Int) (s4 : Sl) (l : List Int) (s e : Sl) (xs : List (Cells.T c28)) : Prop where
  S : St (BM pb m) w0 w [(b5, .cells (Cells.vals c28 (a2, s4, ())).toArray 28 (0, 0))]
  B : BankIn w pb m (fun _ => False) b
  T : Ints w s4 l
  lim : l.length ≤ 2 ^ 44 - 512
  sh : ShownIn w 0 s e xs bs 132
section
variable {w0 : World} {bs : Reg.Bk} {b5 : Nat} {a2 : Int} {s4 : Sl} {l : List Int} {s e : Sl} {xs : List (Cells.T c28)}
theorem HoleSt.ext (h : HoleSt w0 w pb m b bs b5 a2 s4 l s e xs) (u : Ext w w') : HoleSt w0 w' pb m b bs b5 a2 s4 l s e xs :=
  ⟨h.S.ext u, h.B.ext u, h.T.ext u, h.lim, h.sh.ext u⟩
theorem HoleSt.step {b' : Reg.Bk} (h : HoleSt w0 w pb m b bs b5 a2 s4 l s e xs) (u : Upd (BM pb m) w w') (hB : BankIn w' pb m (fun _ => False) b') : HoleSt w0 w' pb m b' bs b5 a2 s4 l s e xs :=
  ⟨h.S.step u fun _ h => h, hB, h.T.ty u (h.B.noTy (by decide)), h.lim, h.sh.ty u (h.B.noTy (by decide)) (h.B.noTy (by decide))⟩
theorem HoleSt.yank {a : Int} {K : Int → World → Prop} (h : HoleSt w0 w pb m b bs b5 a2 s4 l s e xs) (hK : ∀ w', HoleSt w0 w' pb m (Reg.yank b a a2 l).1 bs b5 a2 s4 l s e xs → K (Reg.yank b a a2 l).2 w') :
    (lds c28 (at0 b5) fun (x : (Int × Sl × Unit)) => callT Try.prog 14 #[.pointer (some (at0 pb)), .int .i64 a, .agg (Cells.vals c28 x).toArray] (.one (.one (.int .i64))) K) w :=
  h.S.lds 0 (a2, s4, ()) rfl (yank_call (r := (a2, s4, ())) h.B h.T h.lim (fun _ h => h.elim) fun w' hB' u => hK w' (h.step u hB'))
theorem HoleSt.del {a : Int} {K : Int → World → Prop} (h : HoleSt w0 w pb m b bs b5 a2 s4 l s e xs) (hK : ∀ w', HoleSt w0 w' pb m (Reg.del b a a2 l).1 bs b5 a2 s4 l s e xs → K (Reg.del b a a2 l).2 w') :
    (lds c28 (at0 b5) fun (x : (Int × Sl × Unit)) => callT Try.prog 15 #[.pointer (some (at0 pb)), .int .i64 a, .agg (Cells.vals c28 x).toArray] (.one (.one (.int .i64))) K) w :=
  h.S.lds 0 (a2, s4, ()) rfl (delete_call (r := (a2, s4, ())) h.B h.T h.lim (fun _ h => h.elim) fun w' hB' u => hK w' (h.step u hB'))
theorem HoleSt.set {a : Int} {K : Int → World → Prop} (h : HoleSt w0 w pb m b bs b5 a2 s4 l s e xs) (hK : ∀ w', HoleSt w0 w' pb m (Reg.set b a l).1 bs b5 a2 s4 l s e xs → K (Reg.set b a l).2 w') :
    (ld .sl (⟨b5, 1, none⟩ : Addr) fun (x : Sl) => callT Try.prog 19 #[.pointer (some (at0 pb)), .int .i64 a, .slice x.a x.len x.cap] (.one (.one (.int .i64))) K) w :=
  h.S.ld 0 (x := s4) rfl rfl (set_call h.B h.T h.lim (fun _ h => h.elim) fun w' hB' u => hK w' (h.step u hB'))
theorem HoleSt.same {K : Bool → World → Prop} (h : HoleSt w0 w pb m b bs b5 a2 s4 l s e xs) (he : b = bs) (hK : ∀ w', HoleSt w0 w' pb m b bs b5 a2 s4 l s e xs → K true w') :
    callT Try.prog 20 #[.pointer (some (at0 pb)), .slice s.a s.len s.cap, .slice e.a e.len e.cap] (.one (.one .bool)) K w :=
  sameShown_call h.B h.sh (fun _ => by rw [he]) fun w' u => hK w' (h.ext u)
theorem HoleSt.shown {K : (Sl × Sl × Unit) → World → Prop} (h : HoleSt w0 w pb m b bs b5 a2 s4 l s e xs) (hK : ∀ s e xs w', HoleSt w0 w' pb m b b b5 a2 s4 l s e xs → K (s, e, ()) w') :
    callT Try.prog 18 #[.pointer (some (at0 pb))] (.tup [(.one .sl), (.one .sl)]) K w :=
  shown_call h.B fun s e xs w' hs u => hK s e xs w' ⟨h.S.ext u, h.B.ext u, h.T.ext u, h.lim, hs.mono (Nat.zero_le _)⟩
end

theorem hole_call {a0 : Sl} {xs : List (Cells.T c55)} {a1 a2 : Int} {a3 : Sl} {l : List Int} {K : Bool → World → Prop} (hs : StepsIn w a0 xs) (ht : Txt w a3 l) (hl : l.length ≤ 2 ^ 44 - 512) (hK : ∀ w', Ext w w' → K true w') : F6 a0 a1 a2 a3 K w := by
  unfold F6
  refine able_call fun w1 e1 => sif_false ?_
  refine bank_callI (Z := fun _ => False) keep95 (hs.ext e1) (fun _ h => h.elim) fun pb m b w2 hB2 h95 e2 hpb hm => sif_false ?_
  have hM : ∀ k, BM pb m k → w1.heap.size ≤ k := by rintro k (rfl | rfl) <;> assumption
  have fin : ∀ {w0 w' : World} {b bs : Reg.Bk} {b5 : Nat} {s4 s e : Sl} {xs : List (Cells.T c28)}, HoleSt w2 w' pb m b bs b5 a2 s4 l s e xs → Ext w w' := fun h => e1.trans (e2.step h.S.upd hM)
  refine shown_call hB2 fun s3 se xs3 w3 hs3 e3 => ?_
  refine clone_r (ht.ext (e1.trans (e2.trans e3))) (by omega) fun s4 w4 o4 e4 => ?_
  have S := (St.startM (BM pb m) w2 hB2.lt).ext (e3.trans e4)
  refine S.newAgg rfl rfl rfl fun b5 w5 S5 e5 => ?_
  have e25 := e3.trans (e4.trans e5)
  have H : HoleSt w2 w5 pb m b b b5 a2 s4 l s3 se xs3 := ⟨S5, hB2.ext e25, o4.in.ext e5, hl, (hs3.ext (e4.trans e5)).mono (Nat.zero_le _)⟩
  obtain ⟨hy, hd, hse⟩ := hole_yank (b := b) (k := a2) (l := l)
  refine join_at (decide (a2 = 0 ∨ a2 = 1), ()) (sif_r (fun h => ⟨tupb (by simp at h; simp [h]), rfl⟩) (fun h => ⟨tupb (by simp at h; simp [h]), rfl⟩)) ?_
  have hgood : ((if a2 = 0 ∨ a2 = 1 then (0 : Int) else 1) == 0) = decide (a2 = 0 ∨ a2 = 1) := by
    by_cases h : a2 = 0 ∨ a2 = 1
    · rw [if_pos h]; simp [h]
    · rw [if_neg h]; simp [h]
  have same : ∀ x : Bool, (x != x) = false := fun x => by cases x <;> rfl
  refine join_r (fun s' w' => s' = (false, ()) ∧ HoleSt w2 w' pb m b b b5 a2 s4 l s3 se xs3) ?_ ?_
  · refine H.yank fun w6 H => ?_
    rw [hy] at H ⊢
    dsimp only at H ⊢
    refine rdB_neqb i4_ok.und ?_
    rw [hgood, same]
    refine sif_false (H.del fun w7 H => ?_)
    rw [hd] at H ⊢
    dsimp only at H ⊢
    refine rdB_neqb i4_ok.und ?_
    rw [hgood, same]
    refine sif_false (H.set fun w8 H => ?_)
    rw [hse] at H ⊢
    dsimp only at H ⊢
    exact sif_false (H.same rfl fun w9 H => ⟨rfl, H⟩)
  rintro _ w6 ⟨rfl, H⟩
  refine sif_false ?_
  refine join_r (fun s' w' => s' = (false, ()) ∧ HoleSt w2 w' pb m b b b5 a2 s4 l s3 se xs3) ?_ ?_
  · have r63 := refused (b := b) (a := 63) (k := a2) (l := l) (e := 110) (by decide) rfl
    have r1 := refused (b := b) (a := -1) (k := a2) (l := l) (e := 110) (by decide) rfl
    have r58 := refused (b := b) (a := 58) (k := a2) (l := l) (e := 111) (by decide) rfl
    have r46 := refused (b := b) (a := 46) (k := a2) (l := l) (e := 111) (by decide) rfl
    have r0 : Reg.set b 0 l = (b, 110) := rfl
    refine H.yank fun w7 H => ?_
    rw [r63.1] at H ⊢
    refine sif_false (H.del fun w8 H => ?_)
    rw [r1.2] at H ⊢
    refine sif_false (H.set fun w9 H => ?_)
    rw [r0] at H ⊢
    refine sif_false (H.yank fun w10 H => ?_)
    rw [r58.1] at H ⊢
    refine sif_false (H.del fun w11 H => ?_)
    rw [r46.2] at H ⊢
    exact sif_false (H.same rfl fun w12 H => ⟨rfl, H⟩)
  rintro _ w7 ⟨rfl, H⟩
  refine sif_false ?_
  refine join_r (fun s' w' => s' = (false, ()) ∧ HoleSt w2 w' pb m b b b5 a2 s4 l s3 se xs3) ?_ ?_
  · have n0 := nothing (b := b) (a := 0) (.inl rfl)
    have n34 := nothing (b := b) (a := 34) (.inr rfl)
    refine yank_call (r := (0, ⟨none, 0, 0⟩, ())) (l := []) H.B (SlIn.nil _ _ _) (by simp) (fun _ h => h.elim) fun w8 hB8 u8 => ?_
    dsimp only at hB8 ⊢
    rw [n0.1] at hB8 ⊢
    have H := H.step u8 hB8
    refine sif_false (delete_call (r := (0, ⟨none, 0, 0⟩, ())) (l := []) H.B (SlIn.nil _ _ _) (by simp) (fun _ h => h.elim) fun w9 hB9 u9 => ?_)
    dsimp only at hB9 ⊢
    rw [n34.2] at hB9 ⊢
    have H := H.step u9 hB9
    exact sif_false (H.same rfl fun w12 H => ⟨rfl, H⟩)
  rintro _ w8 ⟨rfl, H⟩
  refine sif_false ?_
  refine join_r (fun s' w' => s' = (false, ()) ∧ ∃ b', b'.held 95 = none ∧ HoleSt w2 w' pb m b' b b5 a2 s4 l s3 se xs3) ?_ ?_
  · refine H.yank fun w9 H => sif_r (fun hc => ?_) (fun _ => ⟨rfl, _, keep95.yank b a1 a2 l h95, H⟩)
    have hc : (Reg.yank b a1 a2 l).2 ≠ 0 := by simpa using hc
    rw [yank_err hc] at H
    exact H.same rfl fun w10 H => ⟨rfl, b, h95, H⟩
  rintro _ w9 ⟨rfl, b', h95', H⟩
  refine sif_false (H.shown fun s6 e6 xs6 w10 H => ?_)
  refine join_r (fun s' w' => s' = (false, ()) ∧ ∃ b'', b''.held 95 = none ∧ HoleSt w2 w' pb m b'' b' b5 a2 s4 l s6 e6 xs6) ?_ ?_
  · refine H.del fun w9 H => sif_r (fun hc => ?_) (fun _ => ⟨rfl, _, keep95.del b' a1 a2 l h95', H⟩)
    have hc : (Reg.del b' a1 a2 l).2 ≠ 0 := by simpa using hc
    rw [del_err hc] at H
    exact H.same rfl fun w10 H => ⟨rfl, b', h95', H⟩
  rintro _ w11 ⟨rfl, b'', h95'', H⟩
  refine sif_false ?_
  have g95 : Reg.get b'' 95 = (0, [], 112) := by
    have hf : Reg.fnd 95 = ((95, false), true) := by decide
    simp only [Reg.get, hf]
    rw [if_neg (by simp), if_neg (by decide), h95'']
  have g63 : Reg.get b'' 63 = (0, [], 110) := rfl
  refine get_call H.B fun s12 w12 _ e12 => ?_
  have H := H.ext e12
  rw [g95]
  refine H.S.newAgg rfl rfl rfl fun b49 w13 _ e13 => ?_
  have H := H.ext e13
  refine get_call H.B fun s14 w14 _ e14 => ?_
  have H := H.ext e14
  rw [g63]
  refine H.S.newAgg rfl rfl rfl fun b51 w15 _ e15 => sif_true ?_
  exact hK w15 (fin (w0 := w2) (H.ext e15))
end
end Go.Proofs.Ytocdfkeflakemaa
