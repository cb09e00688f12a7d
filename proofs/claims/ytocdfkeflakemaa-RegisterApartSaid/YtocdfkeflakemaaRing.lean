/- RegisterRing answers true. Conditions: the arguments lie as StepsIn and TxtsIn say. -/
import Derived.Test.YtocdfkeflakemaaApp
import Derived.Test.YtocdfkeflakemaaVxK
set_option linter.unusedSimpArgs false
set_option linter.unusedVariables false
namespace Go.Proofs.Ytocdfkeflakemaa
open Go Go.Vx
section
variable {w w' : World} {pb m : Nat} {b : Reg.Bk}

theorem BankIn.noTy {Z : Nat → Prop} (h : BankIn w pb m Z b) {t : TypeId} (ht : t ≠ 73) : NoTy w (BM pb m) t := by
  rintro k hk c fr hc
  obtain ⟨es, ⟨⟨c', hh, _⟩, _, _⟩, _⟩ := h.map
  rcases hk with rfl | rfl
  · rw [h.box] at hc; cases hc; exact ht rfl
  · rw [hh] at hc; cases hc
/-- blocks of another type turn, and neither the box nor the map -/
theorem BankIn.ty {Z : Nat → Prop} {S : Nat → Prop} (h : BankIn w pb m Z b) (u : Upd S w w') (h1 : ∀ k, S k → ∃ c fr t, t ≠ 3 ∧ t ≠ 73 ∧ w.heap[k]? = some (.cells c t fr)) : BankIn w' pb m Z b := by
  refine h.upd u (fun hk => ?_) (fun hk => ?_) fun k hk _ => .inl fun c t fr hc => ?_
  · obtain ⟨c, fr, t, _, ht, hc⟩ := h1 _ hk
    rw [h.box] at hc; cases hc; exact ht rfl
  · obtain ⟨es, ⟨⟨c', hh, _⟩, _, _⟩, _⟩ := h.map
    obtain ⟨c, fr, t, _, _, hc⟩ := h1 _ hk
    rw [hh] at hc; cases hc
  · obtain ⟨c', fr', t', ht, _, hc'⟩ := h1 _ hk
    rw [hc] at hc'; cases hc'; exact ht

/-- the ring holds the last nine -/
def RingOk (b : Reg.Bk) (L : List (List Int)) : Prop := ∀ k : Nat, k < 9 → k < L.length → b.held (49 + (k : Int)) = some (1, (L[L.length - 1 - k]?).getD [])

theorem wr1_pos (l : List Int) : 0 < (Reg.wr 1 l).length := by
  cases l with
  | nil => decide
  | cons x r => exact wr_pos (by simp)
theorem del0 {l : List Int} (h2 : l.length ≤ 139999) : Reg.del b 0 1 l = (⟨Reg.put (Reg.ring b.held) 49 (some (1, Reg.wr 1 l)), 49⟩, 0) := by
  have h3 := wr1_pos l
  have h4 := wr_le 1 l
  simp only [Reg.del, rfs_none (.inl rfl) (.inr rfl)]
  rw [if_neg (by simp), if_neg (by omega), if_neg (by simp), if_neg (by simp), if_neg (by omega)]
  exact kp_plain h3 (by omega)
theorem ring_step {L : List (List Int)} {x y : List Int} {k d : Int} (h : RingOk b L) : RingOk ⟨Reg.put (Reg.put (Reg.ring b.held) 49 (some (1, x))) 48 (some (k, y)), d⟩ (L ++ [x]) := by
  intro k hk hl
  simp only [Reg.put]
  rw [if_neg (by omega)]
  simp only [List.length_append, List.length_cons, List.length_nil] at hl
  match k, hk with
  | 0, _ =>
    rw [if_pos (by omega)]
    simp
  | k + 1, hk =>
    rw [if_neg (by omega)]
    have := h k (by omega) (by omega)
    simp only [Reg.ring]
    rw [if_pos (by omega), show (49 : Int) + ((k + 1 : Nat) : Int) - 1 = 49 + (k : Int) by omega, this]
    have e : (L ++ [x]).length - 1 - (k + 1) = L.length - 1 - k := by simp; omega
    rw [e, List.getElem?_append_left (by omega)]

theorem ring_call {a0 : Sl} {xs : List (Cells.T c55)} {a1 : Sl} {ss : List Sl} {ls : List (List Int)} {K : Bool → World → Prop} (hs : StepsIn w a0 xs) (ht : TxtsIn w a1 ss ls) (hK : ∀ w', Ext w w' → K true w') : F4 a0 a1 K w := by
  unfold F4
  have hn := ht.length
  have hnl := ht.len
  refine able_call fun w1 e1 => sif_false ?_
  refine bank_call (Z := fun _ => False) (hs.ext e1) (fun _ h => h.elim) fun pb m b2 w2 hB2 e2 hpb hm => ?_
  have hM : ∀ k, BM pb m k → w1.heap.size ≤ k := by rintro k (rfl | rfl) <;> assumption
  refine join_at (decide (ss.length > 200), ()) (sif_false ⟨tupb (by simp; omega), rfl⟩) (sif_r (fun hc => hK w2 (e1.trans e2)) (fun hc => ?_))
  have hfew : ss.length ≤ 200 := Nat.le_of_not_lt (of_decide_eq_false hc)
  clear hc
  have hfewl : ls.length ≤ 200 := by omega
  refine join_r (fun s' w' => ∃ (b : Reg.Bk) (vs : List Sl) (L : List (List Int)), BankIn w' pb m (fun _ => False) b ∧ RingOk b L ∧ Rows2 w' w1.heap.size s'.1 23 3 vs (L.map iv) ∧ (∀ t ∈ L, t.length ≤ 1001) ∧ L.length ≤ 200 ∧ Ext w1 w') ?_ ?_
  · refine sloop_r (fun s' w' => ∃ (n : Nat) (b : Reg.Bk) (vs : List Sl) (L : List (List Int)), n ≤ ss.length ∧ s'.2.1 = (n : Int) ∧ BankIn w' pb m (fun _ => False) b ∧ RingOk b L ∧ Rows2 w' w1.heap.size s'.1 23 3 vs (L.map iv) ∧ (∀ t ∈ L, t.length ≤ 1001) ∧ L.length ≤ n ∧ Ext w1 w') (fun s' _ => (ss.length - s'.2.1).toNat)
      ⟨0, b2, [], [], by omega, rfl, hB2, fun k _ h => by simp at h, Rows2.nil _ _ _ _, (fun t h => by cases h), by simp, e2⟩ ?_
    rintro ⟨sw, _, ⟨⟩⟩ w5 ⟨n, b, vs, L, hn', rfl, hB5, hR, hr5, hsm, hLn, e5⟩
    dsimp only at hr5 ⊢
    have ht5 := ht.ext (e1.trans e5)
    refine sif_r (fun hc => ?_) (fun hc => ⟨b, vs, L, hB5, hR, hr5, hsm, by omega, e5⟩)
    have hc : n < ss.length := by have := of_decide_eq_true hc; omega
    obtain ⟨x, hx⟩ : ∃ x, ss[n]? = some x := ⟨_, List.getElem?_eq_getElem hc⟩
    obtain ⟨l, hl⟩ : ∃ l, ls[n]? = some l := ⟨_, List.getElem?_eq_getElem (by omega)⟩
    have en : IntKind.wrap .i64 ((n : Int) + 1) = ((n + 1 : Nat) : Int) := by rw [IntWalk.i64_in _ ⟨by omega, by omega⟩]; omega
    simp only [en]
    have row : ∀ {w' : World} {K : Addr → Sl → World → Prop}, Ext w1 w' → (∀ p, K p x w') → ix a1.a a1.len (n : Int) (fun p => ld .sl (p.add (scaled (Int.toNat (n : Int)) 1)) (K p)) w' := fun e h => ix_ldX (c := .sl) (xs := ss) (x := x) (ht.row.ext (e1.trans e)) (by omega) (by simpa using hx) h
    have txt : ∀ {w' : World}, Ext w1 w' → Txt w' x l := fun e => (ht.txt n x l hx hl).1.ext (e1.trans e)
    refine join_r (fun s' w' => ∃ (b : Reg.Bk) (vs : List Sl) (L : List (List Int)), BankIn w' pb m (fun _ => False) b ∧ RingOk b L ∧ Rows2 w' w1.heap.size s'.1 23 3 vs (L.map iv) ∧ (∀ t ∈ L, t.length ≤ 1001) ∧ L.length ≤ n + 1 ∧ Ext w1 w') ?_ fun s' w' ⟨b, vs, L, h1, h2, h3, h4, h5, h6⟩ => ⟨⟨n + 1, b, vs, L, hc, rfl, h1, h2, h3, h4, h5, h6⟩, by omega⟩
    have hxn := (txt e5).length
    refine row e5 fun _ => sif_r (fun hd => ⟨b, vs, L, hB5, hR, hr5, hsm, by omega, e5⟩) (fun hd => ?_)
    have hd : l.length ≤ 1000 := by have := of_decide_eq_false hd; omega
    refine join_r (fun s' w' => s' = (false, ()) ∧ ∃ b, BankIn w' pb m (fun _ => False) b ∧ RingOk b (L ++ [Reg.wr 1 l]) ∧ Rows2 w' w1.heap.size sw 23 3 vs (L.map iv) ∧ Ext w1 w') ?_ ?_
    · refine row e5 fun _ => clone_r (txt e5) (by omega) fun s6 w6 o6 e6 => ?_
      refine delete_call (r := (1, s6, ())) (hB5.ext e6) o6.in (show l.length ≤ _ by omega) (fun _ h => h.elim) fun w7 hB7 u7 => ?_
      dsimp only at hB7 ⊢
      rw [del0 (by omega)] at hB7 ⊢
      have e7 : Ext w1 w7 := (e5.trans e6).step u7 hM
      have hr7 := (hr5.ext e6).ty u7 ((hB5.ext e6).noTy (by decide)) ((hB5.ext e6).noTy (by decide))
      refine sif_false (newO_r fun b19 w8 e8 n8 _ _ => ?_)
      have n8' : w8.heap[b19]? = some (.cells (iv [(n : Int)]).toArray 3 (0, 0)) := n8
      have h8 : Ints w8 ⟨some (at0 b19), 1, 1⟩ [(n : Int)] := box3 n8'
      refine yank_call (r := (0, ⟨some (at0 b19), 1, 1⟩, ())) (hB7.ext e8) h8 (by simp) (fun _ h => h.elim) fun w9 hB9 u9 => ?_
      dsimp only at hB9 ⊢
      rw [yank_plain (.inr (.inl rfl)) (.inl rfl) (by simp) (by simp), if_pos (.inl rfl)] at hB9 ⊢
      exact ⟨rfl, _, hB9, ring_step hR, (hr7.ext e8).ty u9 ((hB7.ext e8).noTy (by decide)) ((hB7.ext e8).noTy (by decide)), (e7.trans e8).step u9 hM⟩
    rintro _ w6 ⟨rfl, b6, hB6, hR6, hr6, e6⟩
    refine sif_false (row e6 fun _ => ?_)
    refine kept_call (a0 := 1) (txt e6) (by omega) fun s7 w7 o7 e7 => newO_r fun b24 w8 e8 n8 _ _ => ?_
    have e68 := e7.trans e8
    have hr8 := hr6.ext e68
    have hwl := wr_le 1 l
    have hrl := hr8.length
    rw [List.length_map] at hrl
    refine hr8.push E34 (o7.in.ext e8) (by decide) n8 (by omega) (by have := (e6.trans e68).size; omega) fun s9 w9 hr9 u9 hbk => ?_
    have hcells : ∀ k, sw.blk k → ∃ c fr t, t ≠ 3 ∧ t ≠ 73 ∧ w8.heap[k]? = some (.cells c t fr) := fun k hk => by
      obtain ⟨c, fr, hc⟩ := hr8.row.in.blk_cells hk
      exact ⟨c, fr, 23, by decide, by decide, hc⟩
    refine ⟨b6, _, L ++ [Reg.wr 1 l], (hB6.ext e68).ty u9 hcells, hR6, by simpa using hr9, fun t h => ?_, by simp; omega, (e6.trans e68).step u9 fun k hk => hr8.row.blk_ge hk⟩
    rcases List.mem_append.1 h with h | h
    · exact hsm t h
    · simp at h; subst h; omega
  rintro ⟨sw, ⟨⟩⟩ w3 ⟨b, vs, L, hB3, hR, hr3, hsm, hLn, e3⟩
  dsimp only at hr3 ⊢
  have hrl := hr3.length
  rw [List.length_map] at hrl
  have hvl := hr3.len
  rw [List.length_map] at hvl
  refine join_r (fun _ w' => Ext w w') ?_ fun _ w' e => hK w' e
  refine sloop_r (fun s' w' => ∃ n : Nat, n ≤ 9 ∧ s' = ((n : Int), ()) ∧ Ext w3 w') (fun s' _ => (9 - s'.1).toNat) ⟨0, by omega, rfl, Ext.refl _⟩ ?_
  rintro _ w4 ⟨n, hn9, rfl, e4⟩
  dsimp only
  refine join_at (decide (n < 9 ∧ n < L.length), ()) (sif_r (fun h => ⟨tupb (by simp at h ⊢; omega), rfl⟩) (fun h => ⟨tupb (by simp at h ⊢; omega), rfl⟩)) (sif_r (fun hc => ?_) (fun _ => (e1.trans e3).trans e4))
  obtain ⟨hc, hcl⟩ := of_decide_eq_true hc
  have ei : IntKind.wrap .i64 (IntKind.wrap .i64 (((sw.len : Nat) : Int) - 1) - (n : Int)) = ((L.length - 1 - n : Nat) : Int) := by
    have : IntKind.wrap .i64 (((sw.len : Nat) : Int) - 1) = ((L.length - 1 : Nat) : Int) := by rw [IntWalk.i64_in _ ⟨by omega, by omega⟩]; omega
    rw [this, IntWalk.i64_in _ ⟨by omega, by omega⟩]; omega
  have ek : IntKind.wrap .i64 ((49 : Int) + (n : Int)) = 49 + (n : Int) := IntWalk.i64_in _ ⟨by omega, by omega⟩
  have en : IntKind.wrap .i64 ((n : Int) + 1) = ((n + 1 : Nat) : Int) := by rw [IntWalk.i64_in _ ⟨by omega, by omega⟩]; omega
  simp only [ei, ek, en]
  obtain ⟨x, hx⟩ : ∃ x, vs[L.length - 1 - n]? = some x := ⟨_, List.getElem?_eq_getElem (by omega)⟩
  obtain ⟨t, hl⟩ : ∃ t, L[L.length - 1 - n]? = some t := ⟨_, List.getElem?_eq_getElem (by omega)⟩
  have hr4 := hr3.ext e4
  have ht4 : Ints w4 x t := hr4.txt _ x (iv t) hx (by rw [List.getElem?_map, hl]; rfl)
  have htl := hsm t (List.mem_of_getElem? hl)
  have hh := hR n hc hcl
  rw [hl] at hh
  have hp : Plain (49 + (n : Int)) := .inr (.inl ⟨by omega, by omega⟩)
  have hg : Reg.get b (49 + (n : Int)) = (1, t, 0) := by
    simp only [Reg.get, fnd_plain hp]
    rw [if_neg (by simp), if_neg (by omega), hh]; rfl
  refine ix_ld (c := .sl) (xs := vs) (x := x) hr4.row.in (by omega) (by simpa using hx) fun _ => ?_
  refine holds_call (hB3.ext e4) ht4.x (by rw [hg]; dsimp only; omega) fun w5 e5 => ?_
  rw [hg, decide_eq_true rfl]
  exact sif_false ⟨⟨n + 1, by omega, rfl, e4.trans e5⟩, by omega⟩
end
end Go.Proofs.Ytocdfkeflakemaa
