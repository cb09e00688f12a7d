/- The reference's Yank, Delete, Set, Get, Names, Copy, New. Conditions: texts below 2^44 - 512 letters. -/
import Derived.Test.YtocdfkeflakemaaRef3
set_option linter.unusedSimpArgs false
set_option linter.unusedVariables false
namespace Go.Proofs.Ytocdfkeflakemaa
open Go Go.Vx
section
variable {w w' : World} {pr : Nat} {b : Reg.Bk} {Z : Nat → Prop} {ks : List (Cells.T c85)}

/- plainly -/
theorem kp_take {s : Int × Bool} {at_ : Int} {r : Int × List Int} (hr : 0 < r.2.length) (h : ¬ (s.1 = 49 ∧ at_ = 49)) : Reg.kp b s r = takeR b s at_ r := by
  have hp := ownR_pos (h := b.held) (s := s) hr
  simp only [Reg.kp, sto_own hr, takeR, Reg.go]
  rw [if_neg h]
  by_cases hl : (ownR b.held s r).2.length > 140000
  · simp only [if_pos hl]; rfl
  · have hl' : ¬ (ownR b.held s r).2.length = 0 := by omega
    simp only [if_neg hl, if_neg hl', if_true]
theorem key95 {a : Int} (h : (Reg.fnd a).2 = true) : (Reg.fnd a).1.1 = 95 ↔ a = 95 := by
  rw [fnd_key a h]
  split
  · simp only; omega
  split
  · simp only; omega
  · simp only
theorem key34 {a : Int} (h : (Reg.fnd a).2 = true) : (Reg.fnd a).1.1 = 34 ↔ (a = 0 ∨ a = 34) := by
  have h2 := (fnd_two a).1 h
  rw [fnd_key a h]
  split
  · simp only; omega
  split
  · exact ⟨fun _ => by assumption, fun _ => rfl⟩
  · rename_i h1 h2
    exact ⟨fun h => .inr h, fun h => absurd h h2⟩
theorem own_key {a : Int} (h : (Reg.fnd a).2 = true) (hn : ¬ (a = 0 ∨ a = 34)) : (Reg.fnd a).1 = ownS a := by
  rw [fnd_key a h]
  by_cases h1 : 65 ≤ a ∧ a ≤ 90
  · simp only [ownS, if_pos h1]
  · simp only [ownS, if_neg h1, if_neg hn]
theorem slot_key {a : Int} (h : (Reg.fnd a).2 = true) (hn : ¬ (a = 0 ∨ a = 34)) (h95 : a ≠ 95) : Slot (ownS a).1 := by
  have h2 := (fnd_two a).1 h
  simp only [ownS]
  split
  · simp only; omega
  · simp only; omega
theorem rfs_ok {a k : Int} (h : (Reg.rfs a k).2 = 0) : (Reg.fnd a).2 = true ∧ (k = 0 ∨ k = 1) := by
  simp only [Reg.rfs] at h
  split at h
  · cases h
  split at h
  · cases h
  split at h
  · cases h
  · rename_i h1 h2 h3
    exact ⟨by simpa using h1, by omega⟩
theorem yank_take {a k : Int} {l : List Int} (h : (Reg.rfs a k).2 = 0) (h95 : a ≠ 95) (hl : (Reg.wr k l).length ≠ 0) : Reg.yank b a k l = takeR b (ownS (if a = 0 ∨ a = 34 then 48 else a)) 48 (k, Reg.wr k l) := by
  obtain ⟨hf, hk⟩ := rfs_ok h
  simp only [Reg.yank]
  rw [if_neg (by rw [h]; simp), rfs_key, if_neg (fun hh => hh.elim (fun e => h95 ((key95 hf).1 e)) hl)]
  by_cases hn : a = 0 ∨ a = 34
  · have e : Reg.fnd a = ((34, false), true) := by rcases hn with rfl | rfl <;> decide
    rw [e, if_pos hn, if_pos rfl]
    exact kp_take (by simp only; omega) (by decide)
  · rw [if_neg (fun e => hn ((key34 hf).1 e)), if_neg hn, own_key hf hn]
    exact kp_take (by simp only; omega) (fun h => absurd h.2 (by decide))
theorem del_take {a k : Int} {l : List Int} (h : (Reg.rfs a k).2 = 0) (h95 : a ≠ 95) (hl : (Reg.wr k l).length ≠ 0) : Reg.del b a k l = takeR b (ownS (if a = 0 ∨ a = 34 then (if k = 1 ∨ 10 ∈ l ∨ 13 ∈ l then 49 else 45) else a)) (if a = 0 ∨ a = 34 then (if k = 1 ∨ 10 ∈ l ∨ 13 ∈ l then 49 else 45) else 0) (k, Reg.wr k l) := by
  obtain ⟨hf, hk⟩ := rfs_ok h
  simp only [Reg.del]
  rw [if_neg (by rw [h]; simp), rfs_key, if_neg (fun hh => hh.elim (fun e => h95 ((key95 hf).1 e)) hl)]
  by_cases hn : a = 0 ∨ a = 34
  · rw [if_neg (fun e => e ((key34 hf).2 hn)), if_pos hn, if_pos hn]
    by_cases hw : k = 1 ∨ 10 ∈ l ∨ 13 ∈ l
    · rw [if_pos hw]
      have hnw : ¬ (k = 0 ∧ 10 ∉ Reg.wr k l ∧ 13 ∉ Reg.wr k l) := by
        rintro ⟨h0, h1, h2⟩
        subst h0
        have e : Reg.wr 0 l = l := by simp [Reg.wr]
        rw [e] at h1 h2
        rcases hw with h | h | h
        · omega
        · exact h1 h
        · exact h2 h
      rw [if_neg hnw]
      have e1 : ownS 49 = (49, false) := rfl
      have e2 : ownR b.held (49, false) (k, Reg.wr k l) = (k, Reg.wr k l) := by unfold ownR; split <;> rfl
      simp only [takeR, e1, e2]
      by_cases h4 : (Reg.wr k l).length > 140000
      · rw [if_pos h4, if_pos h4]
      · rw [if_neg h4, if_neg h4, if_pos ⟨trivial, trivial⟩]
        exact kp_plain (by omega) (by omega)
    · rw [if_neg hw]
      have h0 : k = 0 := by omega
      have e : Reg.wr k l = l := by simp [Reg.wr, h0]
      rw [if_pos ⟨h0, by rw [e]; exact fun h => hw (.inr (.inl h)), by rw [e]; exact fun h => hw (.inr (.inr h))⟩]
      exact kp_take (by simp only; omega) (by decide)
  · rw [if_pos (fun e => hn ((key34 hf).1 e)), if_neg hn, if_neg hn, own_key hf hn]
    exact kp_take (by simp only; omega) (by simp)

theorem yank_ref {a1 k : Int} {s : Sl} {l : List Int} {K : Int → World → Prop} (hR : RefIn w pr Z b ks) (hb : BkOk b) (hs : Txt w s l) (hl : l.length ≤ 2 ^ 44 - 512) (hZ : ∀ k, Z k → k < w.heap.size)
    (hK : ∀ w' ks', RefIn w' pr Z (Reg.yank b a1 k l).1 ks' → Upd (fun k => k = pr) w w' → K (Reg.yank b a1 k l).2 w') :
    callT Try.prog 50 #[.pointer (some (at0 pr)), .int .i64 a1, .int .i64 k, .slice s.a s.len s.cap] (.one (.one (.int .i64))) K w := by
  refine F50_calls ?_
  unfold F50
  have hw := wr_le k l
  have S := St.startM (fun k => k = pr) w (fun k hk => by subst hk; exact hR.lt)
  refine refuse2_call (sif_r (fun hc => ?_) (fun hc => ?_))
  · have hc : (Reg.rfs a1 k).2 ≠ 0 := by simpa using hc
    have e : Reg.yank b a1 k l = (b, (Reg.rfs a1 k).2) := by simp only [Reg.yank]; rw [if_pos hc]
    rw [e] at hK
    exact hK w ks hR (Upd.refl _ _)
  have hc : (Reg.rfs a1 k).2 = 0 := by simpa using hc
  obtain ⟨hf, hk⟩ := rfs_ok hc
  refine written2_call hs hl fun s2 w2 o2 e2 => ?_
  have S := S.ext e2
  refine S.newAgg rfl rfl rfl fun b3 w3 S e3 => ?_
  have e13 := e2.trans e3
  have hn := o2.length
  refine join_at (decide (a1 = 95 ∨ (Reg.wr k l).length = 0), ()) (sif_r (fun h => ⟨tupb (by simp at h; simp [h]), rfl⟩) (fun h => S.ld 0 (x := s2) rfl rfl ⟨tupb (by have h' : ¬ a1 = 95 := (by simpa using h); simp only [beq_iff_eq, decide_eq_true_eq, h', false_or]; omega), rfl⟩)) (sif_r (fun hd => ?_) (fun hd => ?_))
  · have hd : a1 = 95 ∨ (Reg.wr k l).length = 0 := of_decide_eq_true hd
    have e : Reg.yank b a1 k l = (b, 0) := by
      simp only [Reg.yank]
      rw [if_neg (by rw [hc]; simp), rfs_key, if_pos (hd.imp (key95 hf).2 id)]
    rw [e] at hK
    exact hK w3 ks (hR.ext e13) S.upd
  have hd : ¬ (a1 = 95 ∨ (Reg.wr k l).length = 0) := of_decide_eq_false hd
  rw [yank_take hc (fun h => hd (.inl h)) (fun h => hd (.inr h))] at hK
  refine S.lds 0 (k, s2, ()) rfl (take_call (r := (k, s2, ())) (hR.ext e13) hb (o2.in.ext e3) (by omega) (Nat.pos_of_ne_zero fun h => hd (.inr h)) (fun k hk => Nat.lt_of_lt_of_le (hZ k hk) e13.size) (fun k hk hzk => by have := o2.blk_ge hk; have := hZ k hzk; omega) ?_ fun w4 ks4 hR4 u4 => hK w4 ks4 hR4 (S.step u4 fun _ h => h).upd)
  by_cases hn : a1 = 0 ∨ a1 = 34
  · rw [if_pos hn]; decide
  · rw [if_neg hn]; exact slot_key hf hn fun h => hd (.inl h)

theorem del_ref {a1 k : Int} {s : Sl} {l : List Int} {K : Int → World → Prop} (hR : RefIn w pr Z b ks) (hb : BkOk b) (hs : Txt w s l) (hl : l.length ≤ 2 ^ 44 - 512) (hZ : ∀ k, Z k → k < w.heap.size)
    (hK : ∀ w' ks', RefIn w' pr Z (Reg.del b a1 k l).1 ks' → Upd (fun k => k = pr) w w' → K (Reg.del b a1 k l).2 w') :
    callT Try.prog 51 #[.pointer (some (at0 pr)), .int .i64 a1, .int .i64 k, .slice s.a s.len s.cap] (.one (.one (.int .i64))) K w := by
  refine F51_calls ?_
  unfold F51
  have hw := wr_le k l
  have hsl := hs.length
  have S := St.startM (fun k => k = pr) w (fun k hk => by subst hk; exact hR.lt)
  refine refuse2_call (sif_r (fun hc => ?_) (fun hc => ?_))
  · have hc : (Reg.rfs a1 k).2 ≠ 0 := by simpa using hc
    have e : Reg.del b a1 k l = (b, (Reg.rfs a1 k).2) := by simp only [Reg.del]; rw [if_pos hc]
    rw [e] at hK
    exact hK w ks hR (Upd.refl _ _)
  have hc : (Reg.rfs a1 k).2 = 0 := by simpa using hc
  obtain ⟨hf, hk⟩ := rfs_ok hc
  refine written2_call hs hl fun s2 w2 o2 e2 => ?_
  have S := S.ext e2
  refine S.newAgg rfl rfl rfl fun b3 w3 S e3 => ?_
  have e13 := e2.trans e3
  have hn := o2.length
  refine join_at (decide (a1 = 95 ∨ (Reg.wr k l).length = 0), ()) (sif_r (fun h => ⟨tupb (by simp at h; simp [h]), rfl⟩) (fun h => S.ld 0 (x := s2) rfl rfl ⟨tupb (by have h' : ¬ a1 = 95 := (by simpa using h); simp only [beq_iff_eq, decide_eq_true_eq, h', false_or]; omega), rfl⟩)) (sif_r (fun hd => ?_) (fun hd => ?_))
  · have hd : a1 = 95 ∨ (Reg.wr k l).length = 0 := of_decide_eq_true hd
    have e : Reg.del b a1 k l = (b, 0) := by
      simp only [Reg.del]
      rw [if_neg (by rw [hc]; simp), rfs_key, if_pos (hd.imp (key95 hf).2 id)]
    rw [e] at hK
    exact hK w3 ks (hR.ext e13) S.upd
  have hd : ¬ (a1 = 95 ∨ (Reg.wr k l).length = 0) := of_decide_eq_false hd
  rw [del_take hc (fun h => hd (.inl h)) (fun h => hd (.inr h))] at hK
  have fin : ∀ at_ : Int, (a1 = 0 ∨ a1 = 34 → at_ = (if k = 1 ∨ 10 ∈ l ∨ 13 ∈ l then 49 else 45)) → (¬ (a1 = 0 ∨ a1 = 34) → at_ = 0) →
      (lds c85 (at0 b3) fun x8 => callT Try.prog 62 #[.pointer (some (at0 pr)), .int .i64 a1, .agg (Cells.vals c85 x8).toArray, .int .i64 at_] (.one (.one (.int .i64))) K) w3 := by
    intro at_ h1 h2
    have ea : (if a1 = 0 ∨ a1 = 34 then (if k = 1 ∨ 10 ∈ l ∨ 13 ∈ l then (49 : Int) else 45) else 0) = at_ := by
      by_cases hn : a1 = 0 ∨ a1 = 34
      · rw [if_pos hn, h1 hn]
      · rw [if_neg hn, h2 hn]
    have eb : (if a1 = 0 ∨ a1 = 34 then (if k = 1 ∨ 10 ∈ l ∨ 13 ∈ l then (49 : Int) else 45) else a1) = (if a1 = 0 ∨ a1 = 34 then at_ else a1) := by
      by_cases hn : a1 = 0 ∨ a1 = 34
      · rw [if_pos hn, if_pos hn, h1 hn]
      · rw [if_neg hn, if_neg hn]
    rw [ea, eb] at hK
    refine S.lds 0 (k, s2, ()) rfl (take_call (r := (k, s2, ())) (hR.ext e13) hb (o2.in.ext e3) (by omega) (Nat.pos_of_ne_zero fun h => hd (.inr h)) (fun k hk => Nat.lt_of_lt_of_le (hZ k hk) e13.size) (fun k hk hzk => by have := o2.blk_ge hk; have := hZ k hzk; omega) ?_ fun w4 ks4 hR4 u4 => hK w4 ks4 hR4 (S.step u4 fun _ h => h).upd)
    by_cases hn : a1 = 0 ∨ a1 = 34
    · rw [if_pos hn, h1 hn]; split <;> decide
    · rw [if_neg hn]; exact slot_key hf hn fun h => hd (.inl h)
  refine unnamed_call (sif_r (fun he => ?_) (fun he => ?_))
  · have he : ¬ (a1 = 0 ∨ a1 = 34) := by simpa using he
    exact fin 0 (fun h => absurd h he) (fun _ => rfl)
  have he : a1 = 0 ∨ a1 = 34 := by
    cases hx : decide (a1 = 0 ∨ a1 = 34) with
    | true => exact of_decide_eq_true hx
    | false => rw [hx] at he; cases he
  refine join_at (decide (k = 1 ∨ 10 ∈ l ∨ 13 ∈ l), ()) ?_ (sif_r (fun hg => ?_) (fun hg => ?_))
  · refine sloop_r (fun s' w' => w3 = w' ∧ ∃ n : Nat, n ≤ l.length ∧ s' = (decide (k = 1 ∨ 10 ∈ l.take n ∨ 13 ∈ l.take n), (n : Int), ())) (fun s' _ => (l.length - s'.2.1).toNat) ⟨rfl, 0, by omega, by rcases hk with rfl | rfl <;> rfl⟩ ?_
    rintro _ _ ⟨rfl, n, hn', rfl⟩
    dsimp only
    refine sif_r (fun hi => ?_) (fun hi => ?_)
    · have hi : n < l.length := by have := of_decide_eq_true hi; omega
      obtain ⟨u, hu⟩ : ∃ u, l[n]? = some u := ⟨_, List.getElem?_eq_getElem hi⟩
      have ew : IntKind.wrap .i64 ((n : Int) + 1) = ((n + 1 : Nat) : Int) := by rw [IntWalk.i64_in _ ⟨by omega, by omega⟩]; omega
      simp only [ew]
      have et : l.take (n + 1) = l.take n ++ [u] := by rw [List.take_add_one, hu]; rfl
      have hs3 := hs.ext e13
      refine join_at (decide (k = 1 ∨ 10 ∈ l.take (n + 1) ∨ 13 ∈ l.take (n + 1)), ()) ?_ ⟨⟨rfl, n + 1, hi, rfl⟩, by omega⟩
      rw [et]
      refine join_at (decide (u = 10 ∨ u = 13), ()) ?_ (sif_r (fun hj => ⟨tupb ?_, rfl⟩) (fun hj => ⟨tupb ?_, rfl⟩))
      · refine ix_ldX (c := .int .i64) (xs := l) (x := u) hs3 (by omega) (by simpa using hu) fun p => sif_r (fun hi => ⟨tupb (by simp at hi; simp [hi]), rfl⟩) (fun hi => ?_)
        exact ix_ldX (c := .int .i64) (xs := l) (x := u) hs3 (by omega) (by simpa using hu) fun p => ⟨tupb (by simp at hi; simp [hi]), rfl⟩
      · have hj : u = 10 ∨ u = 13 := of_decide_eq_true hj
        rcases hj with rfl | rfl <;> simp
      · have hj : ¬ (u = 10 ∨ u = 13) := of_decide_eq_false hj
        have h1 : ¬ 10 = u := fun h => hj (.inl h.symm)
        have h2 : ¬ 13 = u := fun h => hj (.inr h.symm)
        simp [h1, h2]
    · have hi : n = l.length := by have := of_decide_eq_false hi; omega
      refine ⟨?_, rfl⟩
      rw [List.take_of_length_le (by omega)]
  · exact fin 49 (fun _ => by rw [if_pos (of_decide_eq_true hg)]) (fun h => absurd he h)
  · exact fin 45 (fun _ => by rw [if_neg (of_decide_eq_false hg)]) (fun h => absurd he h)

theorem sto_set (hb : BkOk b) {s : Int × Bool} {r : Int × List Int} : Reg.sto b.held s r = (if (ownR b.held s r).2.length > 140000 then (b.held, 3) else (Reg.put b.held s.1 (if (ownR b.held s r).2.length = 0 then none else some (ownR b.held s r)), 0)) := by
  unfold Reg.sto ownR
  cases e : b.held s.1 with
  | none => rfl
  | some o =>
    dsimp only
    by_cases hs : s.2 = true
    · simp only [if_pos hs]
      by_cases hr : r.2.length > 0
      · simp only [if_pos hr]; rfl
      · simp only [if_neg hr]
        obtain ⟨_, h1, h2⟩ := hb.slot _ o e
        rw [if_neg (by omega), if_neg (by omega)]
        have : Reg.put b.held s.1 (some o) = b.held := by
          funext x
          unfold Reg.put
          split
          · rename_i hx; rw [hx, e]
          · rfl
        rw [this]
    · simp only [if_neg hs]; rfl

theorem set_ref {a1 : Int} {s : Sl} {l : List Int} {K : Int → World → Prop} (hR : RefIn w pr Z b ks) (hb : BkOk b) (hs : Txt w s l) (hl : l.length ≤ 2 ^ 44 - 512) (hZ : ∀ k, Z k → k < w.heap.size)
    (hK : ∀ w' ks', RefIn w' pr Z (Reg.set b a1 l).1 ks' → Upd (fun k => k = pr) w w' → K (Reg.set b a1 l).2 w') :
    callT Try.prog 52 #[.pointer (some (at0 pr)), .int .i64 a1, .slice s.a s.len s.cap] (.one (.one (.int .i64))) K w := by
  refine F52_calls ?_
  unfold F52
  have hw := wr_le 0 l
  have S := St.startM (fun k => k = pr) w (fun k hk => by subst hk; exact hR.lt)
  refine join_at (decide ((Reg.fnd a1).2 = false ∨ a1 = 0 ∨ a1 = 34), ()) (named_call (sif_r (fun h => ⟨tupb (by simp at h; simp [h]), rfl⟩) (fun h => unnamed_call ⟨tupb (by simp at h; simp [h]), rfl⟩))) (sif_r (fun hc => ?_) (fun hc => ?_))
  · have hc := of_decide_eq_true hc
    have e : Reg.set b a1 l = (b, 110) := by
      simp only [Reg.set]
      rw [if_pos]
      by_cases hf : (Reg.fnd a1).2 = true
      · exact .inr ((key34 hf).2 (hc.resolve_left (by simp [hf])))
      · exact .inl (by simpa using hf)
    rw [e] at hK
    exact hK w ks hR (Upd.refl _ _)
  have hc : ¬ ((Reg.fnd a1).2 = false ∨ a1 = 0 ∨ a1 = 34) := of_decide_eq_false hc
  have hf : (Reg.fnd a1).2 = true := by
    cases h : (Reg.fnd a1).2 with
    | true => rfl
    | false => exact absurd (.inl h) hc
  have hn : ¬ (a1 = 0 ∨ a1 = 34) := fun h => hc (.inr h)
  have hk34 : ¬ (Reg.fnd a1).1.1 = 34 := fun h => hn ((key34 hf).1 h)
  refine sif_r (fun hd => ?_) (fun hd => ?_)
  · have hd : a1 = 95 := by simpa using hd
    have e : Reg.set b a1 l = (b, 0) := by
      simp only [Reg.set]
      rw [if_neg (fun h => h.elim (fun h => by rw [hf] at h; cases h) hk34), if_pos ((key95 hf).2 hd)]
    rw [e] at hK
    exact hK w ks hR (Upd.refl _ _)
  have hd : ¬ a1 = 95 := by simpa using hd
  have e : Reg.set b a1 l = (⟨(Reg.sto b.held (ownS a1) (0, Reg.wr 0 l)).1, b.to⟩, (Reg.sto b.held (ownS a1) (0, Reg.wr 0 l)).2) := by
    simp only [Reg.set]
    rw [if_neg (fun h => h.elim (fun h => by rw [hf] at h; cases h) hk34), if_neg (fun h => hd ((key95 hf).1 h)), own_key hf hn]
  rw [e, sto_set hb] at hK
  have hsl := slot_key hf hn hd
  refine written2_call hs hl fun s2 w2 o2 e2 => ?_
  have S := S.ext e2
  refine own_call (r := (0, s2, ())) (hR.ext e2) hb o2.in (show (Reg.wr 0 l).length ≤ _ by omega) (fun k hk => Nat.lt_of_lt_of_le (hZ k hk) e2.size) (fun k hk hzk => by have := o2.blk_ge hk; have := hZ k hzk; omega) fun s3 w3 i3 hz3 e3 => ?_
  have S := S.ext e3
  refine S.newAgg rfl rfl rfl fun b7 w4 S e4 => ?_
  dsimp only at i3 S ⊢
  generalize ownS a1 = sx at *
  generalize ownR b.held sx (0, Reg.wr 0 l) = x at *
  have hi3 : x.2.length = s3.len := Ints.length i3
  have hR4 := hR.ext (e2.trans (e3.trans e4))
  refine S.ld 0 (x := s3) rfl rfl (sif_r (fun hg => ?_) (fun hg => ?_))
  · have hg : x.2.length > 140000 := by have := of_decide_eq_true hg; omega
    rw [if_pos hg] at hK
    exact hK w4 ks hR4 S.upd
  have hg : ¬ x.2.length > 140000 := by have := of_decide_eq_false hg; omega
  rw [if_neg hg] at hK
  refine S.drew fun w5 S5 e5 _ => S5.lds 0 (x.1, s3, ()) rfl (nn_some (chk_r ⟨by omega, by omega⟩ ?_))
  rw [addr_add, Nat.zero_add, scaled_eq]
  refine (hR4.ext e5).put (n := sx.1.toNat) (by omega) (i3.ext (e4.trans e5)) hz3 (v := (if x.2.length = 0 then none else some x)) rfl fun w6 ks6 hR6 u6 => ?_
  rw [show ((sx.1.toNat : Nat) : Int) = sx.1 by omega] at hR6
  exact hK w6 ks6 hR6 (S5.step u6 fun _ h => h).upd

theorem get_ref {a1 : Int} {K : (Int × Sl × Int × Unit) → World → Prop} (hR : RefIn w pr Z b ks) (hb : BkOk b)
    (hK : ∀ s w', Ints w' s (Reg.get b a1).2.1 → Ext w w' → K ((Reg.get b a1).1, s, (Reg.get b a1).2.2, ()) w') :
    callT Try.prog 44 #[.pointer (some (at0 pr)), .int .i64 a1] (.tup [(.one (.int .i64)), (.one .sl), (.one (.int .i64))]) K w := by
  refine F44_calls ?_
  unfold F44
  refine named_call (sif_r (fun hc => ?_) (fun hc => ?_))
  · have hc : (Reg.fnd a1).2 = false := by simpa using hc
    have e : Reg.get b a1 = (0, [], 110) := by simp only [Reg.get]; rw [if_pos hc]
    rw [e] at hK
    exact hK _ _ (SlIn.nil w 3 1) (Ext.refl w)
  have hf : (Reg.fnd a1).2 = true := by simpa using hc
  have e : Reg.get b a1 = (match b.held (if (Reg.fnd a1).1.1 = 34 then b.to else (Reg.fnd a1).1.1) with | none => (0, [], 112) | some r => (r.1, r.2, 0)) := by
    simp only [Reg.get]; rw [if_neg (by simp [hf])]; rfl
  rw [e] at hK
  have hto : b.to = 0 ∨ Slot b.to := hb.to
  have h2 := (fnd_two a1).1 hf
  have hkey : (if (Reg.fnd a1).1.1 = 34 then b.to else (Reg.fnd a1).1.1) = (if a1 = 0 ∨ a1 = 34 then b.to else (ownS a1).1) := by
    by_cases hn : a1 = 0 ∨ a1 = 34
    · rw [if_pos ((key34 hf).2 hn), if_pos hn]
    · rw [if_neg (fun h => hn ((key34 hf).1 h)), if_neg hn, own_key hf hn]
  rw [hkey] at hK
  refine join_at ((if a1 = 0 ∨ a1 = 34 then b.to else a1), ()) (unnamed_call (sif_r (fun h => ?_) (fun h => ?_))) ?_
  · rw [if_pos (of_decide_eq_true h)]
    refine nn_some ?_
    rw [addr_add, Nat.zero_add]
    exact hR.ldt ⟨rfl, rfl⟩
  · rw [if_neg (of_decide_eq_false h)]; exact ⟨rfl, rfl⟩
  refine join_at ((if a1 = 0 ∨ a1 = 34 then b.to else (ownS a1).1), ()) (great_call (sif_r (fun h => ?_) (fun h => ?_))) ?_
  · have h := of_decide_eq_true h
    by_cases hn : a1 = 0 ∨ a1 = 34
    · rw [if_pos hn] at h; omega
    · rw [if_neg hn] at h ⊢
      rw [if_neg hn, IntWalk.i64_in _ ⟨by omega, by omega⟩]
      simp only [ownS]
      rw [if_pos h]
      exact ⟨by first | rfl | trivial, by first | rfl | trivial⟩
  · have h := of_decide_eq_false h
    by_cases hn : a1 = 0 ∨ a1 = 34
    · rw [if_pos hn]; exact ⟨by rw [if_pos hn], rfl⟩
    · rw [if_neg hn] at h ⊢
      rw [if_neg hn]
      simp only [ownS]
      rw [if_neg h]
      exact ⟨by first | rfl | trivial, by first | rfl | trivial⟩
  have hrange : 0 ≤ (if a1 = 0 ∨ a1 = 34 then b.to else (ownS a1).1) ∧ (if a1 = 0 ∨ a1 = 34 then b.to else (ownS a1).1) < 128 := by
    by_cases hn : a1 = 0 ∨ a1 = 34
    · rw [if_pos hn]; omega
    · rw [if_neg hn]
      simp only [ownS]
      split
      · simp only; omega
      · simp only; omega
  generalize (if a1 = 0 ∨ a1 = 34 then b.to else (ownS a1).1) = key at *
  refine nn_some (chk_r ⟨hrange.1, hrange.2⟩ ?_)
  rw [addr_add, Nat.zero_add, scaled_eq]
  refine hR.lds (n := key.toNat) (by omega) fun x hx => ?_
  obtain ⟨g1, g2, g3⟩ := hR.txt _ x hx
  rw [show ((key.toNat : Nat) : Int) = key by omega] at g1 g2
  have S := St.start w
  refine S.newAgg rfl rfl rfl fun b12 w1 S e1 => ?_
  have hln := g1.len1
  rw [List.length_map] at hln
  refine S.ld 0 (x := x.2.1) rfl rfl (sif_r (fun hd => ?_) (fun hd => ?_))
  · cases eh : b.held key with
    | none =>
      rw [eh] at hK
      exact hK _ _ (SlIn.nil w1 3 1) e1
    | some r =>
      have h1 := (hb.slot _ r eh).2.1
      rw [eh] at hln
      simp at hd
      have hln : r.2.length = _ := hln
      omega
  · refine S.drew fun w2 S2 e2 _ => S2.ld 0 (x := x.1) rfl rfl (S2.ld 0 (x := x.2.1) rfl rfl ?_)
    cases eh : b.held key with
    | none =>
      rw [eh] at hln
      simp at hd hln
      omega
    | some r =>
      rw [eh] at hK g1
      rw [g2 r eh]
      exact hK x.2.1 w2 (g1.ext (e1.trans e2)) (e1.trans e2)

/-- the names that hold anything, rising -/
abbrev nms (b : Reg.Bk) (n : Nat) : List Int := ((List.range n).filter fun (i : Nat) => (b.held (i : Int)).isSome).map fun (i : Nat) => (i : Int)
theorem names_ref {K : Sl → World → Prop} (hR : RefIn w pr Z b ks) (hb : BkOk b) (hK : ∀ s w', IntsO w' w.heap.size s (nms b 128) → Ext w w' → K s w') :
    callT Try.prog 42 #[.pointer (some (at0 pr))] (.one (.one .sl)) K w := by
  refine F42_calls ?_
  unfold F42
  refine join_r (fun x w' => IntsO w' w.heap.size x.1 (nms b 128) ∧ Ext w w') ?_ fun x w' ⟨o, e⟩ => hK x.1 w' o e
  refine sloop_r (fun s' w' => ∃ n : Nat, n ≤ 128 ∧ s'.2.1 = (n : Int) ∧ IntsO w' w.heap.size s'.1 (nms b n) ∧ Ext w w') (fun s' _ => (128 - s'.2.1).toNat) ⟨0, by omega, rfl, SlOwn.nil w _ 3 1, Ext.refl w⟩ ?_
  rintro ⟨s1, _, ⟨⟩⟩ w1 ⟨n, hn, rfl, o1, e1⟩
  dsimp only at o1 ⊢
  refine sif_r (fun hc => ?_) (fun hc => ?_)
  · have hc : n < 128 := by have := of_decide_eq_true hc; omega
    have ew : IntKind.wrap .i64 ((n : Int) + 1) = ((n + 1 : Nat) : Int) := by rw [IntWalk.i64_in _ ⟨by omega, by omega⟩]; omega
    simp only [ew]
    have en : nms b (n + 1) = nms b n ++ (if (b.held (n : Int)).isSome then [(n : Int)] else []) := by
      simp only [nms, List.range_succ, List.filter_append, List.map_append]
      by_cases h : (b.held (n : Int)).isSome = true
      · simp [h]
      · simp [h]
    refine join_r (fun x w' => IntsO w' w.heap.size x.1 (nms b (n + 1)) ∧ Ext w w') ?_ fun x w' ⟨o, e⟩ => ⟨⟨n + 1, hc, rfl, o, e⟩, by omega⟩
    refine nn_some (chk_r ⟨by omega, by omega⟩ ?_)
    rw [addr_add, addr_add, Nat.zero_add, scaled_eq]
    refine (hR.ext e1).ldtx (n := (n : Int).toNat) (by omega) fun x hx => ?_
    obtain ⟨g1, _, _⟩ := (hR.ext e1).txt _ x hx
    rw [show (((n : Int).toNat : Nat) : Int) = n by omega] at g1
    have hln := g1.len1
    rw [List.length_map] at hln
    rw [en]
    refine sif_r (fun hd => ?_) (fun hd => ?_)
    · have hsome : (b.held (n : Int)).isSome = true := by
        cases eh : b.held (n : Int) with
        | none => rw [eh] at hln; simp at hd hln; omega
        | some r => rfl
      rw [if_pos hsome]
      refine newO_r fun b9 w2 e2 n2 _ _ => ?_
      have n2' : w2.heap[b9]? = some (.cells (iv [(n : Int)]).toArray 3 (0, 0)) := n2
      have h1 : Ints w2 ⟨some (at0 b9), 1, 1⟩ [(n : Int)] := box3 n2'
      have hlen : (nms b n).length ≤ n := by
        rw [List.length_map]
        have := List.length_filter_le (fun i : Nat => (b.held (i : Int)).isSome) (List.range n)
        rwa [List.length_range] at this
      refine app_r (x := ⟨some (at0 b9), 1, 1⟩) (o1.ext e2) h1.x (by simp only [List.length_cons, List.length_nil]; omega) (e1.trans e2).size fun s3 w3 o3 u3 _ => ⟨o3, (e1.trans e2).step u3 fun k hk => o1.blk_ge hk⟩
    · have hnone : ¬ (b.held (n : Int)).isSome = true := by
        cases eh : b.held (n : Int) with
        | none => simp
        | some r =>
          have h1 := (hb.slot _ r eh).2.1
          rw [eh] at hln; simp at hd; have hln : r.2.length = _ := hln; omega
      rw [if_neg hnone, List.append_nil]
      exact ⟨o1, e1⟩
  · have hc : n = 128 := by have := of_decide_eq_false hc; omega
    subst hc
    exact ⟨o1, e1⟩
end
end Go.Proofs.Ytocdfkeflakemaa
