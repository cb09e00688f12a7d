/- What the law texts bank, broken and kept do. Conditions: the steps lie as StepsIn says. -/
import Derived.Test.YtocdfkeflakemaaLaw
set_option linter.unusedSimpArgs false
set_option linter.unusedVariables false
namespace Go.Proofs.Ytocdfkeflakemaa
open Go Go.Vx
section
variable {w w' : World} {pb m : Nat} {b : Reg.Bk} {Z : Nat → Prop}

/-- the steps of a script, as they lie -/
structure StepsIn (w : World) (s : Sl) (xs : List (Cells.T c55)) : Prop where
  row : SlX w s 5 (flat c55 xs)
  txt : ∀ (i : Nat) (x : Cells.T c55), xs[i]? = some x → ∃ l, Txt w x.2.2.2.2.1 l ∧ l.length ≤ 2 ^ 44 - 512
  few : xs.length ≤ 2 ^ 60
theorem StepsIn.ext {s : Sl} {xs : List (Cells.T c55)} (h : StepsIn w s xs) (e : Ext w w') : StepsIn w' s xs :=
  ⟨h.row.ext e, fun i x hx => let ⟨l, h1, h2⟩ := h.txt i x hx; ⟨l, h1.ext e, h2⟩, h.few⟩

/-- a plain fact of the banks that every writing call keeps -/
structure Keeps (I : Reg.Bk → Prop) : Prop where
  new : I ⟨fun _ => none, 0⟩
  yank : ∀ b a k l, I b → I (Reg.yank b a k l).1
  del : ∀ b a k l, I b → I (Reg.del b a k l).1
  set : ∀ b a l, I b → I (Reg.set b a l).1
theorem bank_callI {I : Reg.Bk → Prop} (hI : Keeps I) {s : Sl} {xs : List (Cells.T c55)} {K : Option Addr → World → Prop} (hs : StepsIn w s xs) (hZ : ∀ k, Z k → k < w.heap.size) (hK : ∀ pb m b w', BankIn w' pb m Z b → I b → Ext w w' → w.heap.size ≤ pb → w.heap.size ≤ m → K (some (at0 pb)) w') :
    callT Try.prog 13 #[.slice s.a s.len s.cap] (.one (.one .ptr)) K w := by
  refine F13_calls ?_
  unfold F13
  have hn : xs.length = s.len := hs.row.lenR (cs := c55) (by decide)
  have hfew := hs.few
  refine new_call (Z := Z) fun pb m w1 hB1 e1 h1 h2 => ?_
  have hM : ∀ k, BM pb m k → w.heap.size ≤ k := by rintro k (rfl | rfl) <;> assumption
  refine join_r (fun _ w' => ∃ b, (BankIn w' pb m Z b ∧ I b) ∧ Ext w w') ?_ (fun _ w' ⟨b, ⟨hB, hb⟩, e⟩ => hK pb m b w' hB hb e h1 h2)
  refine sloop_r (fun s w' => (∃ b, (BankIn w' pb m Z b ∧ I b) ∧ Ext w w') ∧ ∃ n : Nat, n ≤ xs.length ∧ s = ((n : Int), ())) (fun s' _ => (xs.length - s'.1).toNat) ⟨⟨_, ⟨hB1, hI.new⟩, e1⟩, 0, by omega, rfl⟩ ?_
  rintro _ w2 ⟨⟨b, ⟨hB2, hb2⟩, e2⟩, n, hn', rfl⟩
  dsimp only
  refine join_at (decide (n < xs.length), ()) (sif_r (fun _ => ⟨tupb (by simp; omega), rfl⟩) (fun h => by cases h)) (sif_r (fun hc => ?_) (fun _ => ⟨_, ⟨hB2, hb2⟩, e2⟩))
  have hc : n < xs.length := of_decide_eq_true hc
  have ew : IntKind.wrap .i64 ((n : Int) + 1) = ((n + 1 : Nat) : Int) := by rw [IntWalk.i64_in _ ⟨by omega, by omega⟩]; omega
  simp only [ew]
  obtain ⟨x, hx⟩ : ∃ x, xs[n]? = some x := ⟨_, List.getElem?_eq_getElem hc⟩
  obtain ⟨l, hl, hl'⟩ := hs.txt n x hx
  refine join_r (fun _ w' => ∃ b, (BankIn w' pb m Z b ∧ I b) ∧ Ext w w') ?_ (fun _ w' ⟨b, hB, e⟩ => ⟨⟨⟨b, hB, e⟩, n + 1, hc, rfl⟩, by omega⟩)
  refine ix_ldsX (cs := c55) (hs.row.ext e2) (by decide) (by omega) (by simpa using hx) fun p => ?_
  have S := St.startM (BM pb m) w2 hB2.lt
  refine S.newAgg rfl rfl rfl fun b12 w3 S e3 => ?_
  obtain ⟨x1, x2, x3, x4, x5, ⟨⟩⟩ := x
  dsimp only at hl
  refine S.ld 0 (x := x1) rfl rfl (sif_r (fun _ => ?_) (fun _ => sif_r (fun _ => ?_) (fun _ => sif_r (fun _ => ?_) (fun _ => ⟨b, ⟨hB2.ext e3, hb2⟩, e2.trans e3⟩))))
  · refine S.drew fun w4 S e4 _ => ?_
    refine S.ld 0 (x := x3) rfl rfl (S.ld 0 (x := x4) rfl rfl (S.ld 0 (x := x5) rfl rfl ?_))
    have e24 := e2.trans (e3.trans e4)
    refine clone_r (hl.ext e24) (by omega) fun s5 w5 o5 e5 => ?_
    have S := S.ext e5
    refine S.keep 0 rfl rfl (S.keep 0 rfl rfl ?_)
    refine yank_call (r := (x4, s5, ())) (hB2.ext (e3.trans (e4.trans e5))) o5.in hl' (fun k hk => Nat.lt_of_lt_of_le (hZ k hk) (e24.trans e5).size) fun w6 hB6 u6 => ⟨_, ⟨hB6, hI.yank _ _ _ _ hb2⟩, (e24.trans e5).step u6 hM⟩
  · refine S.drew fun w4 S e4 _ => ?_
    refine S.ld 0 (x := x3) rfl rfl (S.ld 0 (x := x4) rfl rfl (S.ld 0 (x := x5) rfl rfl ?_))
    have e24 := e2.trans (e3.trans e4)
    refine clone_r (hl.ext e24) (by omega) fun s5 w5 o5 e5 => ?_
    have S := S.ext e5
    refine S.keep 0 rfl rfl (S.keep 0 rfl rfl ?_)
    refine delete_call (r := (x4, s5, ())) (hB2.ext (e3.trans (e4.trans e5))) o5.in hl' (fun k hk => Nat.lt_of_lt_of_le (hZ k hk) (e24.trans e5).size) fun w6 hB6 u6 => ⟨_, ⟨hB6, hI.del _ _ _ _ hb2⟩, (e24.trans e5).step u6 hM⟩
  · refine S.drew fun w4 S e4 _ => ?_
    refine S.ld 0 (x := x3) rfl rfl (S.ld 0 (x := x5) rfl rfl ?_)
    have e24 := e2.trans (e3.trans e4)
    refine clone_r (hl.ext e24) (by omega) fun s5 w5 o5 e5 => ?_
    have S := S.ext e5
    refine S.keep 0 rfl rfl ?_
    refine set_call (hB2.ext (e3.trans (e4.trans e5))) o5.in hl' (fun k hk => Nat.lt_of_lt_of_le (hZ k hk) (e24.trans e5).size) fun w6 hB6 u6 => ⟨_, ⟨hB6, hI.set _ _ _ hb2⟩, (e24.trans e5).step u6 hM⟩
theorem bank_call {s : Sl} {xs : List (Cells.T c55)} {K : Option Addr → World → Prop} (hs : StepsIn w s xs) (hZ : ∀ k, Z k → k < w.heap.size) (hK : ∀ pb m b w', BankIn w' pb m Z b → Ext w w' → w.heap.size ≤ pb → w.heap.size ≤ m → K (some (at0 pb)) w') :
    callT Try.prog 13 #[.slice s.a s.len s.cap] (.one (.one .ptr)) K w :=
  bank_callI (I := fun _ => True) ⟨trivial, fun _ _ _ _ _ => trivial, fun _ _ _ _ _ => trivial, fun _ _ _ _ => trivial⟩ hs hZ fun pb m b w' h1 _ h2 h3 h4 => hK pb m b w' h1 h2 h3 h4

theorem broken_call {s : Sl} {l : List Int} {K : Bool → World → Prop} (hs : Txt w s l) (hl : l.length ≤ 2 ^ 60) (hK : K (decide (Reg.lb l ≠ [])) w) : callT Try.prog 36 #[.slice s.a s.len s.cap] (.one (.one .bool)) K w := by
  refine F36_calls ?_
  unfold F36
  have hn := hs.length
  have hlb : Reg.lb l ≠ [] ↔ 0 < l.length ∧ (l.getD (l.length - 1) 0 = 10 ∨ l.getD (l.length - 1) 0 = 13) := by
    unfold Reg.lb
    split
    · rename_i h
      exact ⟨fun _ => ⟨by omega, .inl h.2.2⟩, fun _ => by simp⟩
    · split <;> simp_all
  refine sif_r (fun hc => ?_) (fun hc => ?_)
  · have hc : 0 < l.length := by have := of_decide_eq_true hc; omega
    have hx : l[l.length - 1]? = some (l.getD (l.length - 1) 0) := by
      have h' : l.length - 1 < l.length := by omega
      simp [List.getD, List.getElem?_eq_getElem h']
    have e : IntKind.wrap .i64 (((s.len : Nat) : Int) - 1) = ((l.length - 1 : Nat) : Int) := by rw [IntWalk.i64_in _ ⟨by omega, by omega⟩]; omega
    simp only [e]
    refine ix_ldX (c := .int .i64) (xs := l) (x := l.getD (l.length - 1) 0) hs (by omega) (by simpa using hx) fun p => sif_r (fun hd => ?_) (fun hd => ?_)
    · have hd : l.getD (l.length - 1) 0 = 10 := by simpa using hd
      have : true = decide (Reg.lb l ≠ []) := by symm; rw [decide_eq_true_eq, hlb]; exact ⟨hc, .inl hd⟩
      rw [this]; exact hK
    · have hd : ¬ l.getD (l.length - 1) 0 = 10 := by simpa using hd
      refine ix_ldX (c := .int .i64) (xs := l) (x := l.getD (l.length - 1) 0) hs (by omega) (by simpa using hx) fun p => ?_
      have : (l.getD (l.length - 1) 0 == 13) = decide (Reg.lb l ≠ []) := by
        rw [Bool.eq_iff_iff, decide_eq_true_eq, hlb, beq_iff_eq]
        exact ⟨fun h => ⟨hc, .inr h⟩, fun h => h.2.resolve_left hd⟩
      rw [this]; exact hK
  · have hc : ¬ 0 < l.length := by have := of_decide_eq_false hc; omega
    have : false = decide (Reg.lb l ≠ []) := by symm; rw [decide_eq_false_iff_not, hlb]; exact fun h => hc h.1
    rw [this]; exact hK

theorem kept_call {a0 : Int} {s : Sl} {l : List Int} {K : Sl → World → Prop} (hs : Txt w s l) (hl : l.length ≤ 2 ^ 44) (h : ∀ s' w', IntsO w' w.heap.size s' (Reg.wr a0 l) → Ext w w' → K s' w') :
    callT Try.prog 16 #[.int .i64 a0, .slice s.a s.len s.cap] (.one (.one .sl)) K w := by
  refine F16_calls ?_
  unfold F16
  refine clone_r hs hl fun s1 w1 o1 e1 => ?_
  refine join_r (fun x w' => IntsO w' w.heap.size x.1 (Reg.wr a0 l) ∧ Ext w w') ?_ (fun x w' ⟨o, e⟩ => h _ w' o e)
  refine join_at (decide (a0 = 1 ∧ Reg.lb l = []), ()) ?_ (sif_r (fun hc => ?_) (fun hc => ?_))
  · refine sif_r (fun hc => broken_call (hs.ext e1) (by omega) ⟨tupb ?_, rfl⟩) (fun hc => ⟨tupb (by simp at hc; simp [hc]), rfl⟩)
    have hc : a0 = 1 := by simpa using hc
    simp [hc]
  · have hc : a0 = 1 ∧ Reg.lb l = [] := of_decide_eq_true hc
    refine newO_r fun b7 w2 e2 n2 hb7 _ => ?_
    have n2' : w2.heap[b7]? = some (.cells (iv [10]).toArray 3 (0, 0)) := n2
    have h10 : Ints w2 ⟨some (at0 b7), 1, 1⟩ [10] := box3 n2'
    refine app_r (x := ⟨some (at0 b7), 1, 1⟩) (o1.ext e2) h10.x (by simp only [List.length_cons, List.length_nil]; omega) (by have := e1.size; have := e2.size; omega) fun s3 w3 o3 u3 _ => ⟨?_, (e1.trans e2).step u3 fun k hk => o1.blk_ge hk⟩
    simp only [Reg.wr, if_pos hc]; exact o3
  · have hc : ¬ (a0 = 1 ∧ Reg.lb l = []) := of_decide_eq_false hc
    simp only [Reg.wr, if_neg hc]
    exact ⟨o1, e1⟩
end
end Go.Proofs.Ytocdfkeflakemaa
