/- RegisterAppend answers true. Conditions: the arguments lie as StepsIn and TxtsIn say. -/
import Derived.Test.YtocdfkeflakemaaLast
import Derived.Test.YtocdfkeflakemaaOpen
set_option linter.unusedSimpArgs false
set_option linter.unusedVariables false
namespace Go.Proofs.Ytocdfkeflakemaa
open Go Go.Vx
section
variable {w w' : World} {pb m : Nat} {b : Reg.Bk}

abbrev Small (a : Int) : Prop := 97 ≤ a ∧ a ≤ 122
theorem fnd_cap {a : Int} (h : Small a) : Reg.fnd (a - 32) = ((a, true), true) := by
  unfold Reg.fnd
  rw [if_neg (by omega), if_pos (by omega), show a - 32 + 32 = a by omega]
theorem rfs_cap {a : Int} (h : Small a) : Reg.rfs (a - 32) 0 = ((a, true), 0) := by
  simp only [Reg.rfs, fnd_cap h]
  rw [if_neg (by simp), if_neg (by omega), if_neg (by omega)]
theorem jn_plain (x y : List Int) : Reg.jn (0, x) (0, y) = (0, x ++ y) := by simp [Reg.jn]

/-- more behind a register: what it comes to -/
def More (b : Reg.Bk) (a : Int) (want x : List Int) (r : Reg.Bk × Int) : Prop :=
  (want.length + x.length > 140000 → r.2 = 3 ∧ r.1.held a = some (0, want)) ∧ (¬ want.length + x.length > 140000 → r.2 = 0 ∧ r.1.held a = some (0, want ++ x))
theorem more_kp {a : Int} {want x : List Int} (hb : b.held a = some (0, want)) (hx : 0 < x.length) (hw : 0 < want.length) : More b a want x (Reg.kp b (a, true) (0, x)) := by
  have e : Reg.sto b.held (a, true) (0, x) = Reg.go b.held a (0, want ++ x) := by
    simp only [Reg.sto, hb, if_true]
    rw [if_pos hx, jn_plain]
  have hl : (want ++ x).length = want.length + x.length := List.length_append
  refine ⟨fun h => ?_, fun h => ?_⟩
  · have g : Reg.go b.held a (0, want ++ x) = (b.held, 3) := by simp only [Reg.go]; rw [if_pos (by omega)]
    simp only [Reg.kp, e, g]
    exact ⟨rfl, hb⟩
  · have g : Reg.go b.held a (0, want ++ x) = (Reg.put b.held a (some (0, want ++ x)), 0) := by simp only [Reg.go]; rw [if_neg (by omega), if_neg (by omega)]
    simp only [Reg.kp, e, g, if_true]
    exact ⟨by trivial, by simp [Reg.put]⟩
theorem more_nil {a : Int} {want x : List Int} (hb : b.held a = some (0, want)) (hx : x.length = 0) (hw : want.length ≤ 140000) : More b a want x (b, 0) := by
  have : x = [] := List.length_eq_zero_iff.1 hx
  subst this
  exact ⟨fun h => by simp at h; omega, fun _ => ⟨rfl, by simpa using hb⟩⟩
theorem more_yank {a : Int} {want x : List Int} (ha : Small a) (hb : b.held a = some (0, want)) (hw : 0 < want.length) (hw2 : want.length ≤ 140000) : More b a want x (Reg.yank b (a - 32) 0 x) := by
  have e : Reg.wr 0 x = x := by simp [Reg.wr]
  simp only [Reg.yank, rfs_cap ha, e]
  rw [if_neg (by simp)]
  by_cases hx : x.length = 0
  · rw [if_pos (.inr hx)]; exact more_nil hb hx hw2
  · rw [if_neg (by omega), if_neg (by omega)]; exact more_kp hb (by omega) hw
theorem more_del {a : Int} {want x : List Int} (ha : Small a) (hb : b.held a = some (0, want)) (hw : 0 < want.length) (hw2 : want.length ≤ 140000) : More b a want x (Reg.del b (a - 32) 0 x) := by
  have e : Reg.wr 0 x = x := by simp [Reg.wr]
  simp only [Reg.del, rfs_cap ha, e]
  rw [if_neg (by simp)]
  by_cases hx : x.length = 0
  · rw [if_pos (.inr hx)]; exact more_nil hb hx hw2
  · rw [if_neg (by omega), if_pos (by omega)]; exact more_kp hb (by omega) hw
theorem get_held {a x : Int} {want : List Int} (ha : Small a) (hx : x = a ∨ x = a - 32) (hb : b.held a = some (0, want)) : Reg.get b x = (0, want, 0) := by
  rcases hx with rfl | rfl
  · simp only [Reg.get, fnd_plain (.inl ha)]
    rw [if_neg (by simp), if_neg (by omega), hb]
  · simp only [Reg.get, fnd_cap ha]
    rw [if_neg (by simp), if_neg (by omega), hb]

theorem BankIn.own {Z : Nat → Prop} (h : BankIn w pb m Z b) {B : Nat} {s : Sl} {l : List Int} (o : IntsO w B s l) (u : Upd (BM pb m) w w') : IntsO w' B s l := by
  refine o.upd u fun k _ hk hk' => ?_
  obtain ⟨p, hp, rfl⟩ := hk
  rcases o.at_ with ⟨hn, _⟩ | ⟨b', off, c', ha, _, hb', _⟩
  · rw [hn] at hp; cases hp
  · rw [ha] at hp; cases hp
    obtain ⟨es, ⟨⟨c, hh, _⟩, _, _⟩, _⟩ := h.map
    rcases hk' with e | e
    · simp only at e; rw [e, h.box] at hb'; cases hb'
    · simp only at e; rw [e, hh] at hb'; cases hb'
theorem BankIn.noblk {Z : Nat → Prop} (h : BankIn w pb m Z b) {s : Sl} {l : List Int} (o : Ints w s l) {k : Nat} (hk' : BM pb m k) (hk : s.blk k) : False := by
  obtain ⟨p, hp, rfl⟩ := hk
  rcases o.at_ with ⟨hn, _⟩ | ⟨b', off, c', fr, ha, hb', _⟩
  · rw [hn] at hp; cases hp
  · rw [ha] at hp; cases hp
    obtain ⟨es, ⟨⟨c, hh, _⟩, _, _⟩, _⟩ := h.map
    rcases hk' with e | e
    · simp only at e; rw [e, h.box] at hb'; cases hb'
    · simp only at e; rw [e, hh] at hb'; cases hb'
theorem TxtsIn.ext {s : Sl} {ss : List Sl} {ls : List (List Int)} (h : TxtsIn w s ss ls) (e : Ext w w') : TxtsIn w' s ss ls :=
  ⟨h.row.ext e, h.len, fun i x l hx hl => let ⟨a, b⟩ := h.txt i x l hx hl; ⟨a.ext e, b⟩, h.few⟩
theorem TxtsIn.length {s : Sl} {ss : List Sl} {ls : List (List Int)} (h : TxtsIn w s ss ls) : ss.length = s.len := by have := h.row.len1; rwa [List.length_map] at this

theorem append_call {a0 : Sl} {xs : List (Cells.T c55)} {a1 : Int} {a2 : Sl} {ss : List Sl} {ls : List (List Int)} {K : Bool → World → Prop} (hs : StepsIn w a0 xs) (ht : TxtsIn w a2 ss ls) (hK : ∀ w', Ext w w' → K true w') : F5 a0 a1 a2 K w := by
  unfold F5
  have hn := ht.length
  have hnl := ht.len
  refine able_call fun w1 e1 => sif_false ?_
  refine join_b (P := ¬ Small a1 ∨ ss.length > 1000) ?_ fun s1 hs1 => sif_r (fun hc => hK w1 e1) (fun hc => ?_)
  · repeat' (first | refine ⟨rfl, ?_⟩ | refine sif_r (fun h => ?_) (fun h => ?_))
    all_goals simp only [decide_eq_true_eq, decide_eq_false_iff_not, beq_iff_eq, bne_iff_ne, Bool.not_eq_true, beq_eq_false_iff_ne, bne_eq_false_iff_eq, ne_eq, Bool.false_eq_true, Bool.true_eq_false, false_iff, true_iff, Bool.not_eq_true', ge_iff_le, gt_iff_lt, Int.not_le, Int.not_lt, Decidable.not_not, reduceCtorEq] at *
    all_goals first | omega | (constructor <;> intro h9 <;> omega)
  have hc : ¬ (¬ Small a1 ∨ ss.length > 1000) := fun h => by rw [hs1.2 h] at hc; cases hc
  have ha : Small a1 := Decidable.byContradiction fun h => hc (.inl h)
  have hfew : ss.length ≤ 1000 := Nat.le_of_not_lt fun h => hc (.inr h)
  clear hc
  have ew : IntKind.wrap .i64 (a1 - 32) = a1 - 32 := IntWalk.i64_in _ ⟨by omega, by omega⟩
  simp only [ew]
  refine bank_call (Z := fun _ => False) (hs.ext e1) (fun _ h => h.elim) fun pb m b0 w2 hB2 e2 hpb hm => ?_
  have hM : ∀ k, BM pb m k → w1.heap.size ≤ k := by rintro k (rfl | rfl) <;> assumption
  refine join_r (fun s' w' => s' = (false, ()) ∧ ∃ b, BankIn w' pb m (fun _ => False) b ∧ b.held a1 = some (0, [7]) ∧ Ext w1 w') ?_ ?_
  · refine sif_false (newO_r fun b7 w3 e3 n3 _ _ => ?_)
    have n3' : w3.heap[b7]? = some (.cells (iv [7]).toArray 3 (0, 0)) := n3
    have h7 : Ints w3 ⟨some (at0 b7), 1, 1⟩ [7] := box3 n3'
    refine yank_call (r := (0, ⟨some (at0 b7), 1, 1⟩, ())) (hB2.ext e3) h7 (by simp) (fun _ h => h.elim) fun w4 hB4 u4 => ?_
    dsimp only at hB4 ⊢
    rw [yank_plain (.inl (.inl ha)) (.inl rfl) (by simp) (by simp), if_neg (by omega)] at hB4 ⊢
    exact ⟨rfl, _, hB4, by simp [Reg.put, Reg.wr], (e2.trans e3).step u4 hM⟩
  rintro _ w3 ⟨rfl, b3, hB3, hb3, e3⟩
  refine sif_false (newO_r fun b9 w4 e4 n4 hb9 _ => ?_)
  have n4' : w4.heap[b9]? = some (.cells (iv [7]).toArray 3 (0, 0)) := n4
  have o4 : IntsO w4 w1.heap.size ⟨some (at0 b9), 1, 1⟩ [7] := ⟨rfl, Nat.le_refl _, .inr ⟨b9, 0, _, rfl, by have := e3.size; omega, n4', by simp, fun i v hv => by rw [Nat.zero_add]; simpa using hv⟩⟩
  have hB4 : BankIn w4 pb m (Sl.blk ⟨some (at0 b9), 1, 1⟩) b3 := hB3.updZ e4 id id (fun _ h => h.elim) fun k hk => .inr (by obtain ⟨p, hp, rfl⟩ := hk; cases hp; exact Nat.le_of_eq hb9.symm)
  refine join_r (fun s' w' => ∃ b want, IntsO w' w1.heap.size s'.1 want ∧ BankIn w' pb m s'.1.blk b ∧ b.held a1 = some (0, want) ∧ want.length ≤ 140000 ∧ Ext w1 w') ?_ ?_
  · refine sloop_r (fun s' w' => ∃ (n : Nat) (b : Reg.Bk) (want : List Int), n ≤ ss.length ∧ s'.2.1 = (n : Int) ∧ IntsO w' w1.heap.size s'.1 want ∧ BankIn w' pb m s'.1.blk b ∧ b.held a1 = some (0, want) ∧ 0 < want.length ∧ want.length ≤ 140000 ∧ Ext w1 w') (fun s' _ => (ss.length - s'.2.1).toNat) ⟨0, b3, [7], by omega, rfl, o4, hB4, hb3, by simp, by simp, e3.trans e4⟩ ?_
    rintro ⟨sw, _, ⟨⟩⟩ w5 ⟨n, b, want, hn', rfl, o5, hB5, hb5, hp5, hl5, e5⟩
    dsimp only at o5 hB5 ⊢
    have ht5 := ht.ext (e1.trans e5)
    have ho5 := o5.length
    refine sif_r (fun hc => ?_) (fun hc => ⟨b, want, o5, hB5, hb5, hl5, e5⟩)
    have hc : n < ss.length := by have := of_decide_eq_true hc; omega
    obtain ⟨x, hx⟩ : ∃ x, ss[n]? = some x := ⟨_, List.getElem?_eq_getElem hc⟩
    obtain ⟨l, hl⟩ : ∃ l, ls[n]? = some l := ⟨_, List.getElem?_eq_getElem (by omega)⟩
    obtain ⟨tx, hxl⟩ := ht5.txt n x l hx hl
    have hxn := tx.length
    have row : ∀ {w' : World} {K : Addr → Sl → World → Prop}, Ext w5 w' → (∀ p, K p x w') → ix a2.a a2.len (n : Int) (fun p => ld .sl (p.add (scaled (Int.toNat (n : Int)) 1)) (K p)) w' := fun e h => ix_ldX (c := .sl) (xs := ss) (x := x) (ht5.row.ext e) (by omega) (by simpa using hx) h
    have ewr : IntKind.wrap .i64 (((sw.len : Nat) : Int) + ((x.len : Nat) : Int)) = ((want.length + l.length : Nat) : Int) := by rw [IntWalk.i64_in _ ⟨by omega, by omega⟩]; omega
    refine row (Ext.refl w5) fun _ => ?_
    simp only [ewr]
    refine sif_r (fun hd => ?_) (fun hd => ?_)
    · have hd : want.length + l.length > 140000 := by have := of_decide_eq_true hd; omega
      refine row (Ext.refl w5) fun _ => clone_r tx (by omega) fun s6 w6 o6 e6 => ?_
      refine yank_call (r := (0, s6, ())) (hB5.ext e6) o6.in hxl (fun k hk => Nat.lt_of_lt_of_le (o5.in.blk_lt hk) e6.size) fun w7 hB7 u7 => ?_
      obtain ⟨h1, h2⟩ := (more_yank ha hb5 hp5 hl5).1 hd
      dsimp only at hB7 ⊢
      rw [h1]
      have o7 := (hB5.ext e6).own (o5.ext e6) u7
      have hg := get_held ha (.inl rfl) h2
      refine sif_true (holds_call hB7 o7.in.x (by rw [hg]; dsimp only; omega) fun w8 e8 => ?_)
      rw [hg, decide_eq_true rfl]
      exact hK w8 (e1.trans (((e5.trans e6).step u7 hM).trans e8))
    · have hd : ¬ want.length + l.length > 140000 := by have := of_decide_eq_false hd; omega
      refine join_r (fun s' w' => s' = (0, ()) ∧ ∃ b', BankIn w' pb m sw.blk b' ∧ b'.held a1 = some (0, want ++ l) ∧ IntsO w' w1.heap.size sw want ∧ Ext w1 w') ?_ ?_
      · refine chk_r (by decide) (sif_r (fun _ => ?_) (fun _ => ?_))
        · refine row (Ext.refl w5) fun _ => clone_r tx (by omega) fun s6 w6 o6 e6 => ?_
          refine yank_call (r := (0, s6, ())) (hB5.ext e6) o6.in hxl (fun k hk => Nat.lt_of_lt_of_le (o5.in.blk_lt hk) e6.size) fun w7 hB7 u7 => ?_
          obtain ⟨h1, h2⟩ := (more_yank ha hb5 hp5 hl5).2 hd
          dsimp only at hB7 ⊢
          rw [h1]
          exact ⟨rfl, _, hB7, h2, (hB5.ext e6).own (o5.ext e6) u7, (e5.trans e6).step u7 hM⟩
        · refine row (Ext.refl w5) fun _ => clone_r tx (by omega) fun s6 w6 o6 e6 => ?_
          refine delete_call (r := (0, s6, ())) (hB5.ext e6) o6.in hxl (fun k hk => Nat.lt_of_lt_of_le (o5.in.blk_lt hk) e6.size) fun w7 hB7 u7 => ?_
          obtain ⟨h1, h2⟩ := (more_del ha hb5 hp5 hl5).2 hd
          dsimp only at hB7 ⊢
          rw [h1]
          exact ⟨rfl, _, hB7, h2, (hB5.ext e6).own (o5.ext e6) u7, (e5.trans e6).step u7 hM⟩
      rintro _ w6 ⟨rfl, b6, hB6, hb6, o6, e6⟩
      have ht6 := ht.ext (e1.trans e6)
      refine sif_false (ix_ldX (c := .sl) (xs := ss) (x := x) ht6.row (by omega) (by simpa using hx) fun _ => ?_)
      refine app_r o6 (ht6.txt n x l hx hl).1 (by omega) e6.size fun s7 w7 o7 u7 hbk => ?_
      have en : IntKind.wrap .i64 ((n : Int) + 1) = ((n + 1 : Nat) : Int) := by rw [IntWalk.i64_in _ ⟨by omega, by omega⟩]; omega
      simp only [en]
      refine ⟨⟨n + 1, b6, want ++ l, hc, rfl, o7, ?_, hb6, by simp; omega, by simp; omega, e6.step u7 fun k hk => o6.blk_ge hk⟩, by omega⟩
      refine hB6.updZ u7 ?_ ?_ (fun k hk _ => .inr hk) hbk
      · exact fun hk => hB6.noblk o6.in (.inl rfl) hk
      · exact fun hk => hB6.noblk o6.in (.inr rfl) hk
  · rintro ⟨sw, ⟨⟩⟩ w5 ⟨b, want, o5, hB5, hb5, hl5, e5⟩
    dsimp only at o5 hB5 ⊢
    have hg := fun x hx => get_held (x := x) ha hx hb5
    refine holds_call hB5 o5.in.x (by rw [hg _ (.inl rfl)]; dsimp only; omega) fun w6 e6 => ?_
    rw [hg _ (.inl rfl), decide_eq_true rfl]
    refine sif_true (holds_call (hB5.ext e6) (o5.in.x.ext e6) (by rw [hg _ (.inr rfl)]; dsimp only; omega) fun w7 e7 => ?_)
    rw [hg _ (.inr rfl), decide_eq_true rfl]
    exact hK w7 (e1.trans (e5.trans (e6.trans e7)))
end
end Go.Proofs.Ytocdfkeflakemaa
