/- What keep, refuse, Contains and New do. Conditions: texts below 2^44 letters. -/
import Derived.Test.YtocdfkeflakemaaStore
set_option linter.unusedSimpArgs false
set_option linter.unusedVariables false
namespace Go.Proofs.Ytocdfkeflakemaa
open Go Go.Vx
section
variable {w w' : World} {pb m : Nat} {b : Reg.Bk} {Z : Nat → Prop}

theorem keep_call {s : Int × Bool × Unit} {r : Int × Sl × Unit} {l : List Int} {K : Int → World → Prop} (hB : BankIn w pb m Z b) (hs : Ints w r.2.1 l) (hl : l.length ≤ 2 ^ 44) (hZ : ∀ k, Z k → k < w.heap.size) (hz : ∀ k, r.2.1.blk k → ¬ Z k)
    (hK : ∀ w', BankIn w' pb m Z (Reg.kp b (s.1, s.2.1) (r.1, l)).1 → Upd (BM pb m) w w' → K (Reg.kp b (s.1, s.2.1) (r.1, l)).2 w') :
    callT Try.prog 34 #[.pointer (some (at0 pb)), .agg (Cells.vals c64 s).toArray, .agg (Cells.vals c28 r).toArray] (.one (.one (.int .i64))) K w := by
  refine F34_calls ?_
  unfold F34
  have S := St.startM (BM pb m) w hB.lt
  refine S.newO fun b1 w1 S e1 => ?_
  refine S.newO fun b2 w2 S e2 => ?_
  have e := e1.trans e2
  refine S.lds 1 s rfl (S.lds 0 r rfl ?_)
  refine store_call (hB.ext e) (hs.ext e) hl (fun k hk => Nat.lt_of_lt_of_le (hZ k hk) e.size) hz fun w3 hB3 u3 => ?_
  have S := S.step u3 fun _ h => h
  generalize hx : Reg.sto b.held (s.1, s.2.1) (r.1, l) = x at hB3
  simp only [Reg.kp, hx] at hK
  refine join_id (sif_r (fun hc => ?_) (fun hc => ?_))
  · have hc : x.2 = 0 := by simpa using hc
    rw [if_pos hc] at hK
    refine S.ld 1 (x := s.1) rfl rfl (nn_some ?_)
    rw [addr_add]
    refine hB3.sett s.1 fun w4 hB4 u4 => ?_
    rw [hc]
    exact hK w4 hB4 (S.step u4 fun k h => .inl h).upd
  · have hc : ¬ x.2 = 0 := by simpa using hc
    rw [if_neg hc] at hK
    exact hK w3 hB3 S.upd

theorem refuse_call {a0 : Int} {r : Int × Sl × Unit} {K : ((Int × Bool × Unit) × Int × Unit) → World → Prop} (hK : ∀ w', Ext w w' → K (((Reg.rfs a0 r.1).1.1, (Reg.rfs a0 r.1).1.2, ()), (Reg.rfs a0 r.1).2, ()) w') :
    callT Try.prog 32 #[.int .i64 a0, .agg (Cells.vals c28 r).toArray] (.tup [(.agg c64), (.one (.int .i64))]) K w := by
  refine F32_calls ?_
  unfold F32
  have S := St.start w
  refine S.newO fun b1 w1 S e1 => ?_
  refine S.newO fun b2 w2 S e2 => ?_
  refine find_call fun w3 e3 => ?_
  have S := S.ext e3
  refine S.newAgg rfl rfl rfl fun b4 w4 S e4 => ?_
  obtain ⟨k, ap, ok, hf⟩ : ∃ k ap ok, Reg.fnd a0 = ((k, ap), ok) := ⟨_, _, _, rfl⟩
  simp only [Reg.rfs, hf] at hK ⊢
  rw [hf] at S
  dsimp only at S hK ⊢
  have out : ∀ {w5 : World} (e : Int), e = (if ok = false then 110 else if k = 46 ∨ k = 58 ∨ k = 47 then 111 else if r.1 ≠ 0 ∧ r.1 ≠ 1 then 1 else 0) → w5 = w4 →
      (lds c64 (at0 b4) fun x => aggSt (at0 b2) (.agg (Cells.vals c64 x).toArray) 2 <| lds c64 (at0 b2) fun x => K (x, e, ())) w5 := by
    rintro w5 e rfl rfl
    refine S.lds 0 (k, ap, ()) rfl (S.aggSt 1 rfl rfl rfl rfl fun w6 S6 u6 => S6.lds 1 (k, ap, ()) rfl (hK w6 S6.upd))
  refine sif_r (fun hc => ?_) (fun hc => ?_)
  · have hc : ok = false := by simpa using hc
    exact out 110 (by simp [hc]) rfl
  have hc : ok = true := by simpa using hc
  refine join_at (decide (k = 46 ∨ k = 58 ∨ k = 47), ()) ?_ (sif_r (fun hd => ?_) (fun hd => ?_))
  · refine S.ld 0 (x := k) rfl rfl (sif_r (fun h => ⟨tupb (by simp at h ⊢; simp [h]), rfl⟩) (fun h => S.ld 0 (x := k) rfl rfl (sif_r (fun h' => ⟨tupb (by simp at h' ⊢; simp [h']), rfl⟩) (fun h' => S.ld 0 (x := k) rfl rfl ⟨tupb (by simp at h h' ⊢; simp [h, h']), rfl⟩))))
  · have hd : k = 46 ∨ k = 58 ∨ k = 47 := by simpa using hd
    exact out 111 (by simp [hc, hd]) rfl
  have hd : ¬ (k = 46 ∨ k = 58 ∨ k = 47) := of_decide_eq_false hd
  refine join_at (decide (r.1 ≠ 0 ∧ r.1 ≠ 1), ()) ?_ (sif_r (fun he => ?_) (fun he => ?_))
  · refine S.ld 2 (x := r.1) rfl rfl (sif_r (fun h => S.ld 2 (x := r.1) rfl rfl ⟨tupb ?_, rfl⟩) (fun h => ⟨tupb ?_, rfl⟩))
    · simp at h ⊢; simp [h]
    · simp at h ⊢; simp [h]
  · have he : r.1 ≠ 0 ∧ r.1 ≠ 1 := of_decide_eq_true he
    exact out 1 (by simp only [hc, Bool.true_eq_false, if_false, if_neg hd, if_pos he]) rfl
  · have he : ¬ (r.1 ≠ 0 ∧ r.1 ≠ 1) := of_decide_eq_false he
    exact out 0 (by simp only [hc, Bool.true_eq_false, if_false, if_neg hd, if_neg he]) rfl

theorem contains_call {s : Sl} {l : List Int} {a : Int} {K : Bool → World → Prop} (hs : Ints w s l) (hl : l.length ≤ 2 ^ 60) (hK : K (decide (a ∈ l)) w) :
    callT Try.prog 35 #[.slice s.a s.len s.cap, .int .i64 a] (.one (.one .bool)) K w := by
  refine F35_calls ?_
  unfold F35
  have hn := hs.length
  refine F47_calls ?_
  unfold F47
  refine join_r (fun _ w' => w = w' ∧ a ∉ l) ?_ ?_
  · refine sloop_r (fun s' w' => w = w' ∧ ∃ n : Nat, n ≤ l.length ∧ s' = ((n : Int), ()) ∧ ∀ j, j < n → l[j]? ≠ some a) (fun s' _ => (l.length - s'.1).toNat) ⟨rfl, 0, by omega, rfl, fun j hj => by omega⟩ ?_
    rintro _ _ ⟨rfl, n, hn', rfl, hall⟩
    dsimp only
    refine sif_r (fun hc => ?_) (fun hc => ?_)
    · have hc : n < l.length := by have := of_decide_eq_true hc; omega
      obtain ⟨x, hx⟩ : ∃ x, l[n]? = some x := ⟨_, List.getElem?_eq_getElem hc⟩
      refine ix_ld (c := .int .i64) (xs := l) (x := x) hs (by omega) (by simpa using hx) fun p => ?_
      refine sif_r (fun hd => ?_) (fun hd => ?_)
      · have hd : a = x := by simpa using hd
        have hm : a ∈ l := by rw [hd]; exact List.mem_of_getElem? hx
        have : decide ((n : Int) ≥ 0) = decide (a ∈ l) := by simp [hm]
        rw [this]; exact hK
      · have hd : ¬ a = x := by simpa using hd
        have e : IntKind.wrap .i64 ((n : Int) + 1) = ((n + 1 : Nat) : Int) := by rw [IntWalk.i64_in _ ⟨by omega, by omega⟩]; omega
        simp only [e]
        refine ⟨⟨by trivial, n + 1, hc, rfl, fun j hj => ?_⟩, by omega⟩
        by_cases h : j = n
        · subst h; rw [hx]; intro h; cases h; exact hd rfl
        · exact hall j (by omega)
    · have hc : n = l.length := by have := of_decide_eq_false hc; omega
      refine ⟨rfl, fun hm => ?_⟩
      obtain ⟨j, hj⟩ := List.getElem?_of_mem hm
      exact hall j (by have := (List.getElem?_eq_some_iff.1 hj).1; omega) hj
  · rintro _ _ ⟨rfl, hnm⟩
    have : decide ((-1 : Int) ≥ 0) = decide (a ∈ l) := by simp [hnm]
    rw [this]; exact hK

theorem new_call {K : Option Addr → World → Prop} (hK : ∀ pb m w', BankIn w' pb m Z ⟨fun _ => none, 0⟩ → Ext w w' → w.heap.size ≤ pb → w.heap.size ≤ m → K (some (at0 pb)) w') : callT Try.prog 31 #[] (.one (.one .ptr)) K w := by
  refine F31_calls ?_
  unfold F31
  refine newO_r fun b1 w1 e1 n1 hb1 _ => newO_r fun b2 w2 e2 n2 hb2 _ => ?_
  refine hK b2 b1 w2 ⟨n2, [], MapI.made b1 (e2.ext_get n1), fun k => trivial⟩ (e1.trans e2) (by have := e1.size; omega) (by omega)
end
end Go.Proofs.Ytocdfkeflakemaa
