/- What RegisterLast answers: true. Conditions: the arguments lie as StepsIn and Txt say. -/
import Derived.Test.YtocdfkeflakemaaBnk
set_option linter.unusedSimpArgs false
set_option linter.unusedVariables false
namespace Go.Proofs.Ytocdfkeflakemaa
open Go Go.Vx
section
variable {w w' : World} {pb m : Nat} {b : Reg.Bk}

/-- a plain name: small letter, digit, the minus -/
abbrev Plain (d : Int) : Prop := (97 ≤ d ∧ d ≤ 122) ∨ (48 ≤ d ∧ d ≤ 57) ∨ d = 45
theorem fnd_plain {d : Int} (h : Plain d) : Reg.fnd d = ((d, false), true) := by
  unfold Reg.fnd
  by_cases h1 : (97 ≤ d ∧ d ≤ 122) ∨ (48 ≤ d ∧ d ≤ 57)
  · rw [if_pos h1]
  · have : d = 45 := by omega
    subst this
    decide
theorem rfs_plain {d k : Int} (h : Plain d) (hk : k = 0 ∨ k = 1) : Reg.rfs d k = ((d, false), 0) := by
  simp only [Reg.rfs, fnd_plain h]
  rw [if_neg (by simp), if_neg (by omega), if_neg (by omega)]
theorem rfs_none {d k : Int} (h : d = 0 ∨ d = 34) (hk : k = 0 ∨ k = 1) : Reg.rfs d k = ((34, false), 0) := by
  have : Reg.fnd d = ((34, false), true) := by rcases h with rfl | rfl <;> decide
  simp only [Reg.rfs, this]
  rw [if_neg (by simp), if_neg (by omega), if_neg (by omega)]
theorem wr_pos {k : Int} {l : List Int} (h : 0 < l.length) : 0 < (Reg.wr k l).length := by
  unfold Reg.wr; split
  · simp
  · exact h
/-- the ways meet at a truth value, in the same world -/
theorem join_b {P : Prop} {body : (Bool × Unit → World → Prop) → World → Prop} {rest : Bool × Unit → World → Prop} (hb : body (fun s' w' => w = w' ∧ (s'.1 = true ↔ P)) w) (hr : ∀ s, (s.1 = true ↔ P) → rest s w) : join body rest w :=
  join_r _ hb fun s _ ⟨e, h⟩ => by subst e; exact hr s h
theorem kp_plain {b : Reg.Bk} {d k : Int} {l : List Int} (h : 0 < l.length) (h2 : l.length ≤ 140000) : Reg.kp b (d, false) (k, l) = (⟨Reg.put b.held d (some (k, l)), d⟩, 0) := by
  have e : Reg.sto b.held (d, false) (k, l) = (Reg.put b.held d (some (k, l)), 0) := by
    have g : Reg.go b.held d (k, l) = (Reg.put b.held d (some (k, l)), 0) := by
      simp only [Reg.go]
      rw [if_neg (by omega), if_neg (by omega)]
    simp only [Reg.sto, Bool.false_eq_true, if_false]
    split <;> exact g
  simp only [Reg.kp, e, if_true]

theorem yank_plain {a k : Int} {l : List Int} (ha : Plain a ∨ a = 0 ∨ a = 34) (hk : k = 0 ∨ k = 1) (h : 0 < l.length) (h2 : l.length ≤ 139999) :
    Reg.yank b a k l = (⟨Reg.put b.held (if a = 0 ∨ a = 34 then 48 else a) (some (k, Reg.wr k l)), if a = 0 ∨ a = 34 then 48 else a⟩, 0) := by
  have h3 := wr_pos (k := k) h
  have h4 := wr_le k l
  by_cases hn : a = 0 ∨ a = 34
  · rw [if_pos hn]
    simp only [Reg.yank, rfs_none hn hk]
    rw [if_neg (by simp), if_neg (by omega)]
    exact kp_plain h3 (by omega)
  · rw [if_neg hn]
    have hp : Plain a := ha.resolve_right hn
    simp only [Reg.yank, rfs_plain hp hk]
    rw [if_neg (by simp), if_neg (by omega), if_neg (by omega)]
    exact kp_plain h3 (by omega)

theorem del_plain {a k : Int} {l : List Int} (ha : Plain a ∨ a = 0 ∨ a = 34) (hk : k = 0 ∨ k = 1) (h : 0 < l.length) (h2 : l.length ≤ 139999) :
    ∃ hh, Reg.del b a k l = (⟨Reg.put hh (if a = 0 ∨ a = 34 then (if k = 1 ∨ 10 ∈ l ∨ 13 ∈ l then 49 else 45) else a) (some (k, Reg.wr k l)), if a = 0 ∨ a = 34 then (if k = 1 ∨ 10 ∈ l ∨ 13 ∈ l then 49 else 45) else a⟩, 0) ∧
      (a = 0 ∨ a = 34 → (k = 1 ∨ 10 ∈ l ∨ 13 ∈ l) → hh = Reg.ring b.held) := by
  have h3 := wr_pos (k := k) h
  have h4 := wr_le k l
  by_cases hn : a = 0 ∨ a = 34
  · rw [if_pos hn]
    simp only [Reg.del, rfs_none hn hk]
    rw [if_neg (by simp), if_neg (by omega), if_neg (by simp)]
    by_cases hg : k = 1 ∨ 10 ∈ l ∨ 13 ∈ l
    · rw [if_pos hg, if_neg ?_, if_neg (by omega)]
      · exact ⟨Reg.ring b.held, kp_plain h3 (by omega), fun _ _ => rfl⟩
      · rintro ⟨h0, h1, h2⟩
        subst h0
        have e : Reg.wr 0 l = l := by simp [Reg.wr]
        rw [e] at h1 h2
        rcases hg with h | h | h
        · omega
        · exact h1 h
        · exact h2 h
    · rw [if_neg hg]
      have h0 : k = 0 := by rcases hk with h | h; exact h; exact absurd (.inl h) hg
      have e : Reg.wr k l = l := by simp [Reg.wr, h0]
      rw [if_pos ⟨h0, by rw [e]; exact fun h => hg (.inr (.inl h)), by rw [e]; exact fun h => hg (.inr (.inr h))⟩]
      exact ⟨b.held, kp_plain h3 (by omega), fun _ h => absurd h hg⟩
  · rw [if_neg hn]
    have hp : Plain a := ha.resolve_right hn
    simp only [Reg.del, rfs_plain hp hk]
    rw [if_neg (by simp), if_neg (by omega), if_pos (by omega)]
    exact ⟨b.held, kp_plain h3 (by omega), fun h => absurd h hn⟩

theorem get_put {hh : Int → Option (Int × List Int)} {d k x : Int} {l : List Int} (hd : Plain d) (hx : x = d ∨ x = 0 ∨ x = 34) : Reg.get ⟨Reg.put hh d (some (k, l)), d⟩ x = (k, l, 0) := by
  have hp : Reg.put hh d (some (k, l)) d = some (k, l) := by simp [Reg.put]
  rcases hx with rfl | hx
  · simp only [Reg.get, fnd_plain hd]
    rw [if_neg (by simp), if_neg (by omega), hp]
  · have : Reg.fnd x = ((34, false), true) := by rcases hx with rfl | rfl <;> decide
    simp only [Reg.get, this]
    rw [if_neg (by simp), if_pos (by trivial), hp]

theorem last_call {a0 : Sl} {xs : List (Cells.T c55)} {a1 a2 : Int} {a3 : Sl} {a4 : Bool} {l : List Int} {K : Bool → World → Prop} (hs : StepsIn w a0 xs) (ht : Txt w a3 l) (hl : l.length ≤ 2 ^ 44 - 512) (hK : ∀ w', Ext w w' → K true w') : F3 a0 a1 a2 a3 a4 K w := by
  unfold F3
  have hn := ht.length
  refine able_call fun w1 e1 => sif_false ?_
  refine join_b (P := Plain a1 ∨ a1 = 0 ∨ a1 = 34) ?_ fun s1 hs1 => ?_
  · repeat' (first | refine ⟨rfl, ?_⟩ | refine sif_r (fun h => ?_) (fun h => ?_))
    all_goals simp only [decide_eq_true_eq, decide_eq_false_iff_not, beq_iff_eq, bne_iff_ne, Bool.not_eq_true, beq_eq_false_iff_ne, bne_eq_false_iff_eq, ne_eq, Bool.false_eq_true, Bool.true_eq_false, false_iff, true_iff, Bool.not_eq_true', ge_iff_le, gt_iff_lt, Int.not_le, Int.not_lt, Decidable.not_not, reduceCtorEq] at *
    all_goals first | omega | (constructor <;> intro h9 <;> omega)
  refine join_b (P := ¬ s1.1 = true ∨ ¬ (a2 = 0 ∨ a2 = 1) ∨ l.length = 0 ∨ l.length > 100000) ?_ fun s2 hs2 => sif_r (fun hc => hK w1 e1) (fun hc => ?_)
  · clear hs1
    obtain ⟨v, ⟨⟩⟩ := s1
    cases v
    all_goals repeat' (first | refine ⟨rfl, ?_⟩ | refine sif_r (fun h => ?_) (fun h => ?_))
    all_goals simp only [decide_eq_true_eq, decide_eq_false_iff_not, beq_iff_eq, bne_iff_ne, Bool.not_eq_true, beq_eq_false_iff_ne, bne_eq_false_iff_eq, ne_eq, Bool.false_eq_true, Bool.true_eq_false, false_iff, true_iff, Bool.not_eq_true', ge_iff_le, gt_iff_lt, Int.not_le, Int.not_lt, Decidable.not_not, reduceCtorEq] at *
    all_goals first | omega | (constructor <;> intro h9 <;> omega) | (simp_all <;> (constructor <;> intro h9 <;> omega))
  have hc : ¬ (¬ s1.1 = true ∨ ¬ (a2 = 0 ∨ a2 = 1) ∨ l.length = 0 ∨ l.length > 100000) := fun h => by rw [hs2.2 h] at hc; cases hc
  have hV : Plain a1 ∨ a1 = 0 ∨ a1 = 34 := hs1.1 (Decidable.byContradiction fun h => hc (.inl h))
  have hk : a2 = 0 ∨ a2 = 1 := Decidable.byContradiction fun h => hc (.inr (.inl h))
  have hpos : 0 < l.length := Nat.pos_of_ne_zero fun h => hc (.inr (.inr (.inl h)))
  have hsm : l.length ≤ 100000 := Nat.le_of_not_lt fun h => hc (.inr (.inr (.inr h)))
  clear hc
  refine bank_call (Z := fun _ => False) (hs.ext e1) (fun _ h => h.elim) fun pb m b w2 hB2 e2 hpb hm => sif_false ?_
  have hM : ∀ k, BM pb m k → w1.heap.size ≤ k := by rintro k (rfl | rfl) <;> assumption
  refine clone_r (ht.ext (e1.trans e2)) (by omega) fun s3 w3 o3 e3 => ?_
  have e13 := e2.trans e3
  have S := (St.startM (BM pb m) w2 hB2.lt).ext e3
  refine S.newAgg rfl rfl rfl fun b8 w4 S e4 => ?_
  have e14 := e13.trans e4
  have ht4 := (ht.ext e1).ext e14
  have hB4 := hB2.ext (e3.trans e4)
  refine join_at (decide (a2 = 1 ∨ 10 ∈ l ∨ 13 ∈ l), ()) ?_ ?_
  · refine sloop_r (fun s' w' => w4 = w' ∧ ∃ n : Nat, n ≤ l.length ∧ s' = (decide (a2 = 1 ∨ 10 ∈ l.take n ∨ 13 ∈ l.take n), (n : Int), ())) (fun s' _ => (l.length - s'.2.1).toNat) ⟨rfl, 0, by omega, by rcases hk with rfl | rfl <;> rfl⟩ ?_
    rintro _ _ ⟨rfl, n, hn', rfl⟩
    dsimp only
    refine sif_r (fun hd => ?_) (fun hd => ?_)
    · have hd : n < l.length := by have := of_decide_eq_true hd; omega
      obtain ⟨u, hu⟩ : ∃ u, l[n]? = some u := ⟨_, List.getElem?_eq_getElem hd⟩
      have ew : IntKind.wrap .i64 ((n : Int) + 1) = ((n + 1 : Nat) : Int) := by rw [IntWalk.i64_in _ ⟨by omega, by omega⟩]; omega
      simp only [ew]
      have et : l.take (n + 1) = l.take n ++ [u] := by rw [List.take_add_one, hu]; rfl
      refine join_at (decide (a2 = 1 ∨ 10 ∈ l.take (n + 1) ∨ 13 ∈ l.take (n + 1)), ()) ?_ ⟨⟨rfl, n + 1, hd, rfl⟩, by omega⟩
      rw [et]
      refine sif_r (fun hg => ⟨tupb ?_, rfl⟩) (fun hg => ?_)
      · have hg := of_decide_eq_true hg
        simp only [decide_eq_true_eq, List.mem_append, true_iff]
        rcases hg with h | h | h
        · exact .inl h
        · exact .inr (.inl (.inl h))
        · exact .inr (.inr (.inl h))
      have hg := of_decide_eq_false hg
      refine ix_ldX (c := .int .i64) (xs := l) (x := u) ht4 (by omega) (by simpa using hu) fun p => sif_r (fun hi => ⟨tupb ?_, rfl⟩) (fun hi => ?_)
      · have hi : u = 10 := by simpa using hi
        simp [hi]
      refine ix_ldX (c := .int .i64) (xs := l) (x := u) ht4 (by omega) (by simpa using hu) fun p => ⟨tupb ?_, rfl⟩
      have hi : ¬ u = 10 := by simpa using hi
      simp only [beq_iff_eq, decide_eq_true_eq, List.mem_append, List.mem_singleton]
      constructor
      · intro h; exact .inr (.inr (.inr h.symm))
      · rintro (h | (h | h) | (h | h))
        · exact absurd (.inl h) hg
        · exact absurd (.inr (.inl h)) hg
        · exact absurd h.symm hi
        · exact absurd (.inr (.inr h)) hg
        · exact h.symm
    · have hd : n = l.length := by have := of_decide_eq_false hd; omega
      refine ⟨?_, rfl⟩
      rw [List.take_of_length_le (by omega)]
  refine join_r (fun s' w' => ∃ hh d, s' = (d, 0, ()) ∧ Plain d ∧ BankIn w' pb m (fun _ => False) ⟨Reg.put hh d (some (a2, Reg.wr a2 l)), d⟩ ∧ Ext w1 w') ?_ ?_
  · refine sif_r (fun hy => ?_) (fun hy => ?_)
    · refine S.lds 0 (a2, s3, ()) rfl (yank_call hB4 (o3.in.ext e4) hl (fun _ h => h.elim) fun w5 hB5 u5 => ?_)
      dsimp only at hB5 ⊢
      rw [yank_plain hV hk hpos (by omega)] at hB5 ⊢
      refine join_at (decide (a1 = 0 ∨ a1 = 34), ()) (sif_r (fun h => ⟨tupb (by simp at h; simp [h]), rfl⟩) (fun h => ⟨tupb (by simp at h; simp [h]), rfl⟩)) (sif_r (fun h => ?_) (fun h => ?_))
      · have h : a1 = 0 ∨ a1 = 34 := of_decide_eq_true h
        rw [if_pos h] at hB5
        exact ⟨_, 48, rfl, .inr (.inl (by decide)), hB5, e14.step u5 hM⟩
      · have h : ¬ (a1 = 0 ∨ a1 = 34) := of_decide_eq_false h
        rw [if_neg h] at hB5
        exact ⟨_, a1, rfl, hV.resolve_right h, hB5, e14.step u5 hM⟩
    · refine S.lds 0 (a2, s3, ()) rfl (delete_call hB4 (o3.in.ext e4) hl (fun _ h => h.elim) fun w5 hB5 u5 => ?_)
      dsimp only at hB5 ⊢
      obtain ⟨hh, he, _⟩ := del_plain (b := b) hV hk hpos (by omega)
      rw [he] at hB5 ⊢
      refine join_at (decide (a1 = 0 ∨ a1 = 34), ()) (sif_r (fun h => ⟨tupb (by simp at h; simp [h]), rfl⟩) (fun h => ⟨tupb (by simp at h; simp [h]), rfl⟩)) (sif_r (fun h => ?_) (fun h => ?_))
      · have h : a1 = 0 ∨ a1 = 34 := of_decide_eq_true h
        rw [if_pos h] at hB5
        refine sif_r (fun hg => ?_) (fun hg => ?_)
        · have hg : a2 = 1 ∨ 10 ∈ l ∨ 13 ∈ l := of_decide_eq_true hg
          rw [if_pos hg] at hB5
          exact ⟨_, 49, rfl, .inr (.inl (by decide)), hB5, e14.step u5 hM⟩
        · have hg : ¬ (a2 = 1 ∨ 10 ∈ l ∨ 13 ∈ l) := of_decide_eq_false hg
          rw [if_neg hg] at hB5
          exact ⟨_, 45, rfl, .inr (.inr rfl), hB5, e14.step u5 hM⟩
      · have h : ¬ (a1 = 0 ∨ a1 = 34) := of_decide_eq_false h
        rw [if_neg h] at hB5
        exact ⟨_, a1, rfl, hV.resolve_right h, hB5, e14.step u5 hM⟩
  rintro _ w5 ⟨hh, d, rfl, hd, hB5, e5⟩
  dsimp only
  have hw := wr_le a2 l
  refine kept_call ((ht.ext e1).ext e5) (by omega) fun s6 w6 o6 e6 => sif_true ?_
  have hget : ∀ x, x = d ∨ x = 0 ∨ x = 34 → Reg.get ⟨Reg.put hh d (some (a2, Reg.wr a2 l)), d⟩ x = (a2, Reg.wr a2 l, 0) := fun x hx => get_put hd hx
  have hold : ∀ {wa : World} {x : Int} {K' : Bool → World → Prop}, x = d ∨ x = 0 ∨ x = 34 → Ext w6 wa → (∀ w', Ext w6 w' → K' true w') → callT Try.prog 17 #[.pointer (some (at0 pb)), .int .i64 x, .int .i64 a2, .slice s6.a s6.len s6.cap] (.one (.one .bool)) K' wa := by
    intro wa x K' hx ea hK'
    refine holds_call ((hB5.ext e6).ext ea) (o6.in.x.ext ea) (by rw [hget x hx]; dsimp only; omega) fun w' e' => ?_
    rw [hget x hx, decide_eq_true rfl]
    exact hK' w' (ea.trans e')
  refine hold (.inl rfl) (Ext.refl w6) fun w7 e7 => sif_true (hold (.inr (.inl rfl)) e7 fun w8 e8 => sif_true (hold (.inr (.inr rfl)) e8 fun w9 e9 => hK w9 (e1.trans (e5.trans (e6.trans e9)))))
end
end Go.Proofs.Ytocdfkeflakemaa
