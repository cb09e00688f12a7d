/- The reference's bank in memory, and what its calls do: Reg.yank, Reg.del, Reg.set, Reg.get. Conditions: texts below 2^44 - 512 letters. -/
import Derived.Test.YtocdfkeflakemaaRef
set_option linter.unusedSimpArgs false
set_option linter.unusedVariables false
namespace Go.Proofs.Ytocdfkeflakemaa
open Go Go.Vx
section
variable {w w' : World} {pr : Nat} {b : Reg.Bk} {Z : Nat → Prop}

/-- a key under which a register may hold -/
abbrev Slot (k : Int) : Prop := (97 ≤ k ∧ k ≤ 122) ∨ (48 ≤ k ∧ k ≤ 57) ∨ k = 45 ∨ k = 46 ∨ k = 58 ∨ k = 47
structure BkOk (b : Reg.Bk) : Prop where
  slot : ∀ k r, b.held k = some r → Slot k ∧ 0 < r.2.length ∧ r.2.length ≤ 140000
  to : b.to = 0 ∨ Slot b.to

abbrev txtOf (r : Option (Int × List Int)) : List Int := match r with | none => [] | some r => r.2

structure RefIn (w : World) (pr : Nat) (Z : Nat → Prop) (b : Reg.Bk) (ks : List (Cells.T c85)) : Prop where
  box : w.heap[pr]? = some (.cells (flat c85 ks ++ [Value.int .i64 b.to]).toArray 88 (0, 0))
  len : ks.length = 128
  txt : ∀ (i : Nat) (x : Cells.T c85), ks[i]? = some x → Ints w x.2.1 (txtOf (b.held (i : Int))) ∧ (∀ r, b.held (i : Int) = some r → x.1 = r.1) ∧ ∀ k, x.2.1.blk k → ¬ Z k

theorem RefIn.updZ {S Z' : Nat → Prop} {ks : List (Cells.T c85)} (h : RefIn w pr Z b ks) (u : Upd S w w') (h1 : ¬ S pr) (hS : ∀ k, S k → k < w.heap.size → (∀ c t fr, w.heap[k]? = some (.cells c t fr) → t ≠ 3) ∨ Z k) (hz : ∀ k, Z' k → Z k ∨ w.heap.size ≤ k) : RefIn w' pr Z' b ks := by
  refine ⟨u.get h.box h1, h.len, fun i x hx => ?_⟩
  obtain ⟨g1, g2, g3⟩ := h.txt i x hx
  refine ⟨g1.upd u fun k hk hSk => ?_, g2, fun k hk hk' => ?_⟩
  · obtain ⟨c, fr, hc⟩ := g1.blk_cells hk
    rcases hS k hSk (lt_of_heap hc) with h | h
    · exact h c 3 fr hc rfl
    · exact g3 k hk h
  · rcases hz k hk' with h | h
    · exact g3 k hk h
    · have := g1.blk_lt hk; omega
theorem RefIn.upd {S : Nat → Prop} {ks : List (Cells.T c85)} (h : RefIn w pr Z b ks) (u : Upd S w w') (h1 : ¬ S pr) (hS : ∀ k, S k → k < w.heap.size → (∀ c t fr, w.heap[k]? = some (.cells c t fr) → t ≠ 3) ∨ Z k) : RefIn w' pr Z b ks := h.updZ u h1 hS fun _ h => .inl h
theorem RefIn.ext {ks : List (Cells.T c85)} (h : RefIn w pr Z b ks) (u : Ext w w') : RefIn w' pr Z b ks := h.upd u id fun _ h => h.elim
theorem RefIn.lt {ks : List (Cells.T c85)} (h : RefIn w pr Z b ks) : pr < w.heap.size := lt_of_heap h.box
theorem RefIn.noTy {ks : List (Cells.T c85)} (h : RefIn w pr Z b ks) {t : TypeId} (ht : t ≠ 88) : NoTy w (fun k => k = pr) t := NoTy.box h.box (fun e => ht e.symm)
/-- a box of one's own turns -/
theorem RefIn.box_upd {ks : List (Cells.T c85)} (h : RefIn w pr Z b ks) {x : Nat} {c : Array Value} {t : TypeId} {fr : Nat × Nat} (hx : w.heap[x]? = some (.cells c t fr)) (ht : t ≠ 3) (ht' : t ≠ 88) (u : Upd (fun k => k = x) w w') : RefIn w' pr Z b ks := by
  refine h.upd u (fun e => ?_) ?_
  · subst e; rw [h.box] at hx; cases hx; exact ht' rfl
  · rintro k rfl _
    refine .inl fun c' t' fr' h' => ?_
    rw [hx] at h'; cases h'; exact ht

theorem flat_set (cs : List Cell) : ∀ (xs : List (Cells.T cs)) (n : Nat) (x : Cells.T cs) (r : List Value), n < xs.length → setRow (flat cs xs ++ r).toArray (n * cs.length) (Cells.vals cs x) = (flat cs (xs.set n x) ++ r).toArray := by
  intro xs n x r hn
  have hl := flat_len cs xs
  have hl2 := flat_len cs (xs.set n x)
  rw [List.length_set] at hl2
  have hvl := vals_len cs x
  have hfit : n * cs.length + cs.length ≤ xs.length * cs.length := by rw [← Nat.succ_mul]; exact Nat.mul_le_mul_right _ hn
  apply Array.ext_getElem?
  intro i
  by_cases h1 : i < n * cs.length
  · rw [get_setRow_lt _ _ _ _ h1]
    simp only [List.getElem?_toArray]
    rw [List.getElem?_append_left (by omega), List.getElem?_append_left (by omega)]
    have hc : 0 < cs.length := by
      rcases Nat.eq_zero_or_pos cs.length with h | h
      · rw [h] at h1; omega
      · exact h
    have hi : i = i / cs.length * cs.length + i % cs.length := by rw [Nat.mul_comm]; exact (Nat.div_add_mod i cs.length).symm
    have hq : i / cs.length < n := Nat.div_lt_of_lt_mul (by rw [Nat.mul_comm]; exact h1)
    obtain ⟨y, hy⟩ : ∃ y, xs[i / cs.length]? = some y := ⟨_, List.getElem?_eq_getElem (by omega)⟩
    have hm : i % cs.length < cs.length := Nat.mod_lt _ hc
    rw [hi, flat_get cs xs _ _ y hy hm, flat_get cs (xs.set n x) _ _ y (by rw [List.getElem?_set_ne (by omega)]; exact hy) hm]
  · by_cases h2 : i < n * cs.length + cs.length
    · obtain ⟨j, rfl⟩ : ∃ j, i = n * cs.length + j := ⟨i - n * cs.length, by omega⟩
      rw [get_setRow _ _ _ _ (by simp; omega) (by omega)]
      simp only [List.getElem?_toArray]
      rw [List.getElem?_append_left (by omega), flat_get cs (xs.set n x) n j x (by rw [List.getElem?_set_self hn]) (by omega)]
    · rw [get_setRow_ge _ _ _ _ (by omega)]
      simp only [List.getElem?_toArray]
      by_cases h3 : i < xs.length * cs.length
      · rw [List.getElem?_append_left (by omega), List.getElem?_append_left (by omega)]
        have hc : 0 < cs.length := by
          rcases Nat.eq_zero_or_pos cs.length with h | h
          · rw [h] at h3; omega
          · exact h
        have hi : i = i / cs.length * cs.length + i % cs.length := by rw [Nat.mul_comm]; exact (Nat.div_add_mod i cs.length).symm
        have hq : i / cs.length < xs.length := Nat.div_lt_of_lt_mul (by rw [Nat.mul_comm]; exact h3)
        have hq2 : n < i / cs.length := by
          have h5 : (n + 1) * cs.length ≤ i := by rw [Nat.succ_mul]; omega
          have := (Nat.le_div_iff_mul_le hc).2 h5
          omega
        obtain ⟨y, hy⟩ : ∃ y, xs[i / cs.length]? = some y := ⟨_, List.getElem?_eq_getElem hq⟩
        have hm : i % cs.length < cs.length := Nat.mod_lt _ hc
        rw [hi, flat_get cs xs _ _ y hy hm, flat_get cs (xs.set n x) _ _ y (by rw [List.getElem?_set_ne (by omega)]; exact hy) hm]
      · rw [List.getElem?_append_right (by omega), List.getElem?_append_right (by omega), hl, hl2]

/-- a register's cells -/
theorem RefIn.lds {ks : List (Cells.T c85)} (h : RefIn w pr Z b ks) {n : Nat} (hn : n < 128) {K : (Int × Sl × Unit) → World → Prop} (hK : ∀ x, ks[n]? = some x → K x w) : Go.Vx.lds c85 (⟨pr, n * 2, none⟩ : Addr) K w := by
  have hl := h.len
  obtain ⟨x, hx⟩ : ∃ x, ks[n]? = some x := ⟨_, List.getElem?_eq_getElem (by omega)⟩
  refine lds_r h.box (fun i v hv => ?_) (hK x hx)
  have hi : i < 2 := by have := (List.getElem?_eq_some_iff.1 hv).1; rwa [vals_len] at this
  have h1 := flat_get c85 ks n i x hx hi
  have hf := flat_len c85 ks
  rw [hl] at hf
  simp only [List.getElem?_toArray]
  have hb : n * 2 + i < (flat c85 ks).length := by rw [hf]; show n * 2 + i < 128 * 2; omega
  rw [List.getElem?_append_left hb]
  have h1 : (flat c85 ks)[n * 2 + i]? = (Cells.vals c85 x)[i]? := h1
  rw [h1]; exact hv
theorem RefIn.ldt {ks : List (Cells.T c85)} (h : RefIn w pr Z b ks) {K : Int → World → Prop} (hK : K b.to w) : ld (.int .i64) (⟨pr, 256, none⟩ : Addr) K w := by
  refine ld_r h.box ?_ hK
  have hf := flat_len c85 ks
  rw [h.len] at hf
  have hf : (flat c85 ks).length = 256 := hf
  simp only [List.getElem?_toArray]
  rw [List.getElem?_append_right (by omega), hf]
  rfl
theorem RefIn.ldtx {ks : List (Cells.T c85)} (h : RefIn w pr Z b ks) {n : Nat} (hn : n < 128) {K : Sl → World → Prop} (hK : ∀ x, ks[n]? = some x → K x.2.1 w) : ld .sl (⟨pr, n * 2 + 1, none⟩ : Addr) K w := by
  have hl := h.len
  obtain ⟨x, hx⟩ : ∃ x, ks[n]? = some x := ⟨_, List.getElem?_eq_getElem (by omega)⟩
  refine ld_r h.box ?_ (hK x hx)
  have h1 : (flat c85 ks)[n * 2 + 1]? = (Cells.vals c85 x)[1]? := flat_get c85 ks n 1 x hx (by decide)
  have hf := flat_len c85 ks
  rw [hl] at hf
  have hf : (flat c85 ks).length = 256 := hf
  simp only [List.getElem?_toArray]
  rw [List.getElem?_append_left (by omega), h1]
  rfl
/-- what is stored -/
theorem RefIn.put {ks : List (Cells.T c85)} (h : RefIn w pr Z b ks) {n : Nat} (hn : n < 128) {kd : Int} {s : Sl} {l : List Int} (hs : Ints w s l) (hz : ∀ k, s.blk k → ¬ Z k) {v : Option (Int × List Int)} (hv : v = (if l.length = 0 then none else some (kd, l))) {K : World → Prop}
    (hK : ∀ w' ks', RefIn w' pr Z ⟨Reg.put b.held (n : Int) v, b.to⟩ ks' → Upd (fun k => k = pr) w w' → K w') : aggSt (⟨pr, n * 2, none⟩ : Addr) (.agg (Cells.vals c85 (kd, s, ())).toArray) 2 K w := by
  have hl := h.len
  have hf := flat_len c85 ks
  rw [hl] at hf
  have hf : (flat c85 ks).length = 256 := hf
  refine aggSt_r h.box rfl rfl (by simp; omega) fun w1 u1 hb1 _ => hK w1 (ks.set n (kd, s, ())) ⟨?_, by simp [hl], fun i x hx => ?_⟩ u1
  · have e := flat_set c85 ks n (kd, s, ()) [Value.int .i64 b.to] (by omega)
    have e2 : (Cells.vals c85 (kd, s, ())).toArray.toList = Cells.vals c85 (kd, s, ()) := by simp
    rw [e2] at hb1
    have e : setRow (flat c85 ks ++ [Value.int .i64 b.to]).toArray (n * 2) (Cells.vals c85 (kd, s, ())) = _ := e
    rw [e] at hb1; exact hb1
  · have hno := h.noTy (t := 3) (by decide)
    by_cases hi : n = i
    · subst hi
      rw [List.getElem?_set_self (by omega)] at hx
      cases hx
      simp only [Reg.put, if_true]
      subst hv
      refine ⟨?_, fun r hr => ?_, hz⟩
      · by_cases h0 : l.length = 0
        · have : l = [] := List.length_eq_zero_iff.1 h0
          subst this
          exact hs.ty u1 hno
        · rw [if_neg h0]; exact hs.ty u1 hno
      · split at hr
        · cases hr
        · cases hr; rfl
    · rw [List.getElem?_set_ne hi] at hx
      obtain ⟨g1, g2, g3⟩ := h.txt i x hx
      have hne : ¬ (i : Int) = (n : Int) := by omega
      simp only [Reg.put, if_neg hne]
      exact ⟨g1.ty u1 hno, g2, g3⟩
theorem RefIn.sett {ks : List (Cells.T c85)} (h : RefIn w pr Z b ks) (x : Int) {K : World → Prop} (hK : ∀ w', RefIn w' pr Z ⟨b.held, x⟩ ks → Upd (fun k => k = pr) w w' → K w') : stC (⟨pr, 256, none⟩ : Addr) (.int .i64 x) K w := by
  have hf := flat_len c85 ks
  rw [h.len] at hf
  have hf : (flat c85 ks).length = 256 := hf
  refine stC_r h.box (by simp; omega) fun w1 u hb _ => hK w1 ⟨?_, h.len, fun i y hy => ?_⟩ u
  · have e : ((flat c85 ks ++ [Value.int .i64 b.to]).toArray).setIfInBounds 256 (.int .i64 x) = (flat c85 ks ++ [Value.int .i64 x]).toArray := by
      rw [List.setIfInBounds_toArray, List.set_append_right _ _ (by omega), hf]; rfl
    rw [e] at hb; exact hb
  · obtain ⟨g1, g2, g3⟩ := h.txt i y hy
    exact ⟨g1.ty u (h.noTy (by decide)), g2, g3⟩

/-- what own gives -/
def ownR (h : Int → Option (Int × List Int)) (s : Int × Bool) (w : Int × List Int) : Int × List Int :=
  match h s.1 with
  | some o => if s.2 = true then (if w.2.length > 0 then Reg.jn o w else o) else w
  | none => w
theorem sto_own {h : Int → Option (Int × List Int)} {s : Int × Bool} {r : Int × List Int} (hr : 0 < r.2.length) : Reg.sto h s r = Reg.go h s.1 (ownR h s r) := by
  unfold Reg.sto ownR
  cases h s.1 with
  | none => rfl
  | some o =>
    dsimp only
    by_cases hs : s.2 = true
    · rw [if_pos hs, if_pos hs, if_pos hr, if_pos hr]
    · rw [if_neg hs, if_neg hs]

theorem joined_call {o m : Int × Sl × Unit} {lo lm : List Int} {K : (Int × Sl × Unit) → World → Prop} (ho : Ints w o.2.1 lo) (hm : Ints w m.2.1 lm) (h1 : lo.length ≤ 140000) (h2 : lm.length ≤ 2 ^ 44)
    (h : ∀ s' w', Ints w' s' (if lo.length = 0 then (m.1, lm) else if lm.length = 0 then (o.1, lo) else Reg.jn (o.1, lo) (m.1, lm)).2 → (∀ k, s'.blk k → o.2.1.blk k ∨ m.2.1.blk k ∨ w.heap.size ≤ k) → Ext w w' → K ((if lo.length = 0 then (m.1, lm) else if lm.length = 0 then (o.1, lo) else Reg.jn (o.1, lo) (m.1, lm)).1, s', ()) w') :
    callT Try.prog 80 #[.agg (Cells.vals c85 o).toArray, .agg (Cells.vals c85 m).toArray] (.one (.agg c85)) K w := by
  refine F80_calls ?_
  unfold F80
  have hln := ho.length
  have hmn := hm.length
  have S := St.start w
  refine S.newO fun b1 w1 S e1 => ?_
  refine S.newO fun b2 w2 S e2 => ?_
  refine S.newO fun b3 w3 S e3 => ?_
  have ho3 := ho.ext S.upd
  have hm3 := hm.ext S.upd
  refine S.ld 2 (x := o.2.1) rfl rfl (sif_r (fun hc => ?_) (fun hc => ?_))
  · have hc : lo.length = 0 := by simp at hc; omega
    rw [if_pos hc] at h
    refine S.lds 1 m rfl (S.aggSt 0 rfl rfl rfl rfl fun w4 S4 u4 => S4.lds 0 m rfl ?_)
    exact h m.2.1 w4 (hm3.box (S.at_ 0 rfl) (by decide) u4) (fun k hk => .inr (.inl hk)) S4.upd
  have hc : ¬ lo.length = 0 := by simp at hc; omega
  rw [if_neg hc] at h
  refine S.ld 1 (x := m.2.1) rfl rfl (sif_r (fun hd => ?_) (fun hd => ?_))
  · have hd : lm.length = 0 := by simp at hd; omega
    rw [if_pos hd] at h
    refine S.lds 2 o rfl (S.aggSt 0 rfl rfl rfl rfl fun w4 S4 u4 => S4.lds 0 o rfl ?_)
    exact h o.2.1 w4 (ho3.box (S.at_ 0 rfl) (by decide) u4) (fun k hk => .inl hk) S4.upd
  have hd : ¬ lm.length = 0 := by simp at hd; omega
  rw [if_neg hd] at h
  refine S.ld 2 (x := o.2.1) rfl rfl ?_
  refine clone_r ho3.x (by omega) fun s4 w4 o4 e4 => ?_
  have S := S.ext e4
  have hg3 : w.heap.size ≤ w3.heap.size := (e1.trans (e2.trans e3)).size
  have o4 := o4.mono hg3
  have hno : ∀ {W : World} {s : Sl} {l : List Int}, IntsO W w.heap.size s l → St (fun _ => False) w W [(b3, .cells #[.int .i64 0, .slice none 0 0] 85 (0, 0)), (b2, .cells #[.int .i64 m.1, .slice m.2.1.a m.2.1.len m.2.1.cap] 85 (0, 0)), (b1, .cells #[.int .i64 o.1, .slice o.2.1.a o.2.1.len o.2.1.cap] 85 (0, 0))] →
      (∀ k, s.blk k → (fun _ : Nat => False) k ∨ w.heap.size ≤ k) ∧ ∀ x ∈ [(b3, Obj.cells #[.int .i64 0, .slice none 0 0] 85 (0, 0)), (b2, .cells #[.int .i64 m.1, .slice m.2.1.a m.2.1.len m.2.1.cap] 85 (0, 0)), (b1, .cells #[.int .i64 o.1, .slice o.2.1.a o.2.1.len o.2.1.cap] 85 (0, 0))], ¬ s.blk x.1 := by
    intro W s l oo SS
    refine ⟨fun k hk => .inr (oo.blk_ge hk), fun x hx hk => ?_⟩
    have hl := (SS.loc x hx).1
    obtain ⟨c, fr, hc'⟩ := oo.in.blk_cells hk
    rw [hc'] at hl
    simp only [List.mem_cons, List.not_mem_nil, or_false] at hx
    rcases hx with rfl | rfl | rfl <;> cases hl
  have apart : ∀ {W : World} {s s' : Sl} {l l' : List Int}, IntsO W w.heap.size s l → Ints w s' l' → ∀ k, s'.blk k → ¬ s.blk k := fun oo hi k hk hk' => by
    have := oo.blk_ge hk'; have := hi.blk_lt hk; omega
  refine join_r (fun x w' => IntsO w' w.heap.size x.1 (lo ++ (if m.1 = 1 ∧ o.1 = 0 then Reg.lb lm else [])) ∧ St (fun _ => False) w w' [(b3, .cells #[.int .i64 0, .slice none 0 0] 85 (0, 0)), (b2, .cells #[.int .i64 m.1, .slice m.2.1.a m.2.1.len m.2.1.cap] 85 (0, 0)), (b1, .cells #[.int .i64 o.1, .slice o.2.1.a o.2.1.len o.2.1.cap] 85 (0, 0))]) ?_ ?_
  · refine join_at (decide (m.1 = 1 ∧ o.1 = 0), ()) ?_ ?_
    · refine S.ld 2 (x := o.1) rfl rfl (sif_r (fun hc => S.ld 1 (x := m.1) rfl rfl ⟨tupb ?_, rfl⟩) (fun hc => ⟨tupb ?_, rfl⟩))
      · have hc : o.1 = 0 := by simpa using hc
        simp [hc]
      · have hc : ¬ o.1 = 0 := by simpa using hc
        simp [hc]
    refine sif_r (fun hc => ?_) (fun hc => ?_)
    · have hc : m.1 = 1 ∧ o.1 = 0 := of_decide_eq_true hc
      rw [if_pos hc]
      refine S.ld 1 (x := m.2.1) rfl rfl (lastBreak2_call (hm.ext S.upd).x (by omega) fun s5 w5 o5 e5 => ?_)
      have S := S.ext e5
      have hlb := lb_le lm
      refine app_r (o4.ext e5) o5.in.x (by omega) S.upd.size fun s6 w6 o6 u6 _ => ⟨o6, ?_⟩
      obtain ⟨q1, q2⟩ := hno (o4.ext e5) S
      exact S.fresh u6 q1 q2
    · have hc : ¬ (m.1 = 1 ∧ o.1 = 0) := of_decide_eq_false hc
      rw [if_neg hc, List.append_nil]
      exact ⟨o4, S⟩
  rintro ⟨s5, ⟨⟩⟩ w5 ⟨o5, S⟩
  dsimp only at o5 ⊢
  have hlb1 := lb_le lm
  have hlb2 := lb_le lo
  have hl1 : (if m.1 = 1 ∧ o.1 = 0 then Reg.lb lm else []).length ≤ 2 := by split <;> simp [hlb1]
  have hl2 : (if ¬ (m.1 = 1 ∧ o.1 = 0) ∧ o.1 = 1 ∧ m.1 = 0 then Reg.lb lo else []).length ≤ 2 := by split <;> simp [hlb2]
  refine S.ld 1 (x := m.2.1) rfl rfl (app_r o5 (hm.ext S.upd).x (by rw [List.length_append]; omega) S.upd.size fun s6 w6 o6 u6 _ => ?_)
  have S : St (fun _ => False) w w6 _ := S.fresh u6 (hno o5 S).1 (hno o5 S).2
  refine join_r (fun x w' => IntsO w' w.heap.size x.1 (Reg.jn (o.1, lo) (m.1, lm)).2 ∧ St (fun _ => False) w w' [(b3, .cells #[.int .i64 0, .slice none 0 0] 85 (0, 0)), (b2, .cells #[.int .i64 m.1, .slice m.2.1.a m.2.1.len m.2.1.cap] 85 (0, 0)), (b1, .cells #[.int .i64 o.1, .slice o.2.1.a o.2.1.len o.2.1.cap] 85 (0, 0))]) ?_ ?_
  · refine join_at (decide (o.1 = 1 ∧ m.1 = 0), ()) ?_ ?_
    · refine S.ld 2 (x := o.1) rfl rfl (sif_r (fun hc => S.ld 1 (x := m.1) rfl rfl ⟨tupb ?_, rfl⟩) (fun hc => ⟨tupb ?_, rfl⟩))
      · have hc : o.1 = 1 := by simpa using hc
        simp [hc]
      · have hc : ¬ o.1 = 1 := by simpa using hc
        simp [hc]
    refine sif_r (fun hc => ?_) (fun hc => ?_)
    · have hc : o.1 = 1 ∧ m.1 = 0 := of_decide_eq_true hc
      refine S.ld 2 (x := o.2.1) rfl rfl (lastBreak2_call (ho.ext S.upd).x (by omega) fun s7 w7 o7 e7 => ?_)
      have S := S.ext e7
      refine app_r (o6.ext e7) o7.in.x (by rw [List.length_append, List.length_append]; omega) S.upd.size fun s8 w8 o8 u8 _ => ⟨?_, S.fresh u8 (hno (o6.ext e7) S).1 (hno (o6.ext e7) S).2⟩
      have e : lo ++ (if m.1 = 1 ∧ o.1 = 0 then Reg.lb lm else []) ++ lm ++ Reg.lb lo = (Reg.jn (o.1, lo) (m.1, lm)).2 := by
        simp only [Reg.jn]
        rw [if_pos (show ¬ (m.1 = 1 ∧ o.1 = 0) ∧ o.1 = 1 ∧ m.1 = 0 from ⟨by omega, hc⟩)]
      rw [← e]; exact o8
    · have hc : ¬ (o.1 = 1 ∧ m.1 = 0) := of_decide_eq_false hc
      have e : lo ++ (if m.1 = 1 ∧ o.1 = 0 then Reg.lb lm else []) ++ lm = (Reg.jn (o.1, lo) (m.1, lm)).2 := by
        simp only [Reg.jn]
        rw [if_neg (show ¬ (¬ (m.1 = 1 ∧ o.1 = 0) ∧ o.1 = 1 ∧ m.1 = 0) from fun h => hc h.2), List.append_nil]
      rw [← e]; exact ⟨o6, S⟩
  rintro ⟨s7, ⟨⟩⟩ w7 ⟨o7, S⟩
  dsimp only at o7 ⊢
  refine S.ld 2 (x := o.1) rfl rfl (S.ld 1 (x := m.1) rfl rfl (S.aggSt 0 rfl rfl rfl rfl fun w8 S8 u8 => S8.lds 0 ((if m.1 > o.1 then m.1 else o.1), s7, ()) rfl ?_))
  exact h s7 w8 (o7.in.box (S.at_ 0 rfl) (by decide) u8) (fun k hk => .inr (.inr (o7.blk_ge hk))) S8.upd
end
end Go.Proofs.Ytocdfkeflakemaa
