/- The document's own disk, as long as it is empty. Conditions: its box. -/
import Derived.Test.YtdabehgbhndimaaWsy
import Derived.Test.YtdabehgbhndimaaVxK
set_option linter.unusedSimpArgs false
set_option linter.unusedVariables false
namespace Go.Proofs.Ytdabehgbhndimaa
open Go Go.Vx Dsk
section
variable {w w' : World} {F : Nat → Prop} {r : Nat} {sp k : Int} {n : Nm}

theorem ref_isName {K : Bool → World → Prop} (hK : K (okName n) w) : callT Try.prog 66 #[.string n] (.one (.one .bool)) K w := by
  refine F66_calls ?_
  unfold F66
  refine join_at (decide (n.size = 0 ∨ 32 < n.size), ()) (sif_r (fun h => ⟨tupb ⟨fun _ => decide_eq_true (by have := of_decide_eq_true h; omega), fun _ => rfl⟩, rfl⟩) (fun h => ⟨tupb (by have := of_decide_eq_false h; rw [decide_eq_true_iff, decide_eq_true_iff]; omega), rfl⟩)) (sif_r (fun hc => ?_) (fun hc => ?_))
  · have hc : n.size = 0 ∨ 32 < n.size := of_decide_eq_true hc
    have e : okName n = false := by
      unfold okName
      rcases hc with h | h
      · simp [h]
      · have : ¬ n.size ≤ 32 := by omega
        simp [this]
    rw [← e]; exact hK
  have hc : ¬ (n.size = 0 ∨ 32 < n.size) := of_decide_eq_false hc
  have hlen : n.data.toList.length = n.size := by simp
  refine join_r (fun _ w' => w = w' ∧ n.data.toList.all okByte = true) ?_ ?_
  · refine sloop_r (fun s' w' => ∃ k : Nat, k ≤ n.size ∧ s' = ((k : Int), ()) ∧ w' = w ∧ ∀ b ∈ n.data.toList.take k, okByte b = true) (fun s' _ => (n.size - s'.1).toNat) ⟨0, by omega, rfl, rfl, fun b hb => by simp at hb⟩ ?_
    rintro _ _ ⟨k, hk, rfl, rfl, hall⟩
    dsimp only
    refine sif_r (fun hd => ?_) (fun hd => ?_)
    · have hd : k < n.size := by have := of_decide_eq_true hd; omega
      obtain ⟨b, hb⟩ : ∃ b, n.data.toList[k]? = some b := ⟨_, List.getElem?_eq_getElem (by omega)⟩
      have hb' : n.data[k]? = some b := by rw [← hb]; simp
      have hidx : n[(k : Int).toNat]? = some b := by
        rw [Int.toNat_natCast]
        exact hb'
      refine ⟨b, ⟨by omega, hidx⟩, ?_⟩
      have hdef : okByte b = true ↔ ((97 ≤ b.toNat ∧ b.toNat ≤ 122) ∨ (65 ≤ b.toNat ∧ b.toNat ≤ 90) ∨ (48 ≤ b.toNat ∧ b.toNat ≤ 57) ∨ b.toNat = 46 ∨ b.toNat = 95 ∨ b.toNat = 45 ∨ b.toNat = 126) := by unfold okByte; exact decide_eq_true_iff
      refine join_at (okByte b, ()) ?_ (sif_r (fun h => ?_) fun h => ?_)
      · repeat' (first | refine ⟨tupb ?_, rfl⟩ | refine sif_r (fun h => ?_) (fun h => ?_))
        all_goals (rw [hdef]; simp only [decide_eq_true_eq, decide_eq_false_iff_not, beq_iff_eq, beq_eq_false_iff_ne, ne_eq, ge_iff_le] at *; first | omega | (constructor <;> intro _ <;> first | omega | trivial))
      · have h : okByte b = false := by simpa using h
        have e : okName n = false := by
          unfold okName
          have : n.data.toList.all okByte = false := by
            rw [List.all_eq_false]
            exact ⟨b, List.mem_of_getElem? hb, by rw [h]; simp⟩
          rw [this]; simp
        rw [← e]; exact hK
      · have h : okByte b = true := by simpa using h
        rw [IntWalk.i64_in _ ⟨by omega, by omega⟩]
        refine ⟨⟨k + 1, hd, rfl, rfl, fun b' hb' => ?_⟩, by show ((n.size : Int) - ((k : Int) + 1)).toNat < ((n.size : Int) - (k : Int)).toNat; omega⟩
        rw [List.take_add_one, hb] at hb'
        rcases List.mem_append.1 hb' with h' | h'
        · exact hall b' h'
        · simp at h'; subst h'; exact h
    · have hd : ¬ k < n.size := by have := of_decide_eq_false hd; omega
      rw [List.take_of_length_le (by omega)] at hall
      exact ⟨rfl, List.all_eq_true.2 hall⟩
  · rintro _ _ ⟨rfl, hall⟩
    have e : okName n = true := by
      unfold okName
      rw [hall]
      have h1 : n.size ≠ 0 := fun h => hc (.inl h)
      have h2 : n.size ≤ 32 := by omega
      simp [h1, h2]
    rw [← e]; exact hK

abbrev rbox (sp k : Int) : Obj := .cells #[.int .i64 sp, .slice none 0 0, .slice none 0 0, .slice none 0 0, .bool false, .slice none 0 0, .int .i64 k] 84 (0, 0)
theorem ref_after (h : w.heap[r]? = some (rbox sp k)) {K : Sl → World → Prop} (hK : K ⟨none, 0, 0⟩ w) : callT Try.prog 70 #[.pointer (some (at0 r)), .int .i64 0] (.one (.one .sl)) K w := by
  refine F70_calls ?_
  unfold F70
  refine nn_some ?_
  rw [addr_add]
  refine ld_r h (x := ⟨none, 0, 0⟩) rfl (join_at (⟨none, 0, 0⟩, ()) ?_ hK)
  refine sloop_r (fun s W => s = (⟨none, 0, 0⟩, 0, ()) ∧ W = w) (fun _ _ => 0) ⟨rfl, rfl⟩ ?_
  rintro _ _ ⟨rfl, rfl⟩
  exact join_at (false, ()) (sif_false ⟨rfl, rfl⟩) (sif_false ⟨rfl, rfl⟩)
theorem ref_seen (h : w.heap[r]? = some (rbox sp k)) {K : Sl → World → Prop} (hK : K ⟨none, 0, 0⟩ w) : callT Try.prog 65 #[.pointer (some (at0 r))] (.one (.one .sl)) K w := by
  refine F65_calls ?_
  unfold F65
  refine nn_some ?_
  rw [addr_add]
  exact ld_r h (x := ⟨none, 0, 0⟩) rfl (ref_after h hK)
theorem ref_file (h : w.heap[r]? = some (rbox sp k)) {K : Int → World → Prop} (hK : K 0 w) : callT Try.prog 67 #[.pointer (some (at0 r)), .string n] (.one (.one (.int .i64))) K w := by
  refine F67_calls ?_
  unfold F67
  refine ref_seen h (join_at () ?_ hK)
  refine sloop_r (fun s W => s = (0, ()) ∧ W = w) (fun _ _ => 0) ⟨rfl, rfl⟩ ?_
  rintro _ _ ⟨rfl, rfl⟩
  exact sif_false ⟨rfl, rfl⟩
theorem ref_fault (h : w.heap[r]? = some (rbox sp k)) {j : Int} {K : (Int × Int × Int × Int × Sl × Unit) → World → Prop} (hK : ∀ w', Ext w w' → K (0, 0, 0, 0, ⟨none, 0, 0⟩, ()) w') : callT Try.prog 45 #[.pointer (some (at0 r)), .int .i64 j] (.one (.agg c74)) K w := by
  refine F45_calls ?_
  unfold F45
  refine newO_r fun b1 w1 e1 n1 hb1 _ => join_at () ?_ ?_
  · refine sloop_r (fun s W => s = (0, ()) ∧ W = w1) (fun _ _ => 0) ⟨rfl, rfl⟩ ?_
    rintro _ _ ⟨rfl, rfl⟩
    refine nn_some ?_
    rw [addr_add]
    exact ld_r (e1.ext_get h) (x := ⟨none, 0, 0⟩) rfl (sif_false ⟨rfl, rfl⟩)
  · refine aggSt_r n1 rfl rfl (by decide) fun w2 u2 n2 _ => ?_
    refine lds_r (cs := c74) (x := (0, 0, 0, 0, ⟨none, 0, 0⟩, ())) n2 (fun i v hv => ?_) (hK w2 (e1.step u2 fun k hk => by omega))
    match i, hv with
    | 0, hv => exact hv
    | 1, hv => exact hv
    | 2, hv => exact hv
    | 3, hv => exact hv
    | 4, hv => exact hv
theorem ref_words {kd : Int} {s : Nm} (hs : (kd = 3 ∧ s = ⟨#[115, 121, 110, 99]⟩) ∨ (kd = 6 ∧ s = ⟨#[114, 101, 109, 111, 118, 101]⟩)) {K : Nm → World → Prop} (hK : ∀ w', Ext w w' → K s w') : callT Try.prog 17 #[.int .i64 kd] (.one (.one .str)) K w := by
  refine F17_calls ?_
  unfold F17
  refine newO_r fun b1 w1 e1 n1 hb1 _ => aggSt_r n1 rfl rfl (by decide) fun w2 u2 n2 _ => ?_
  have e2 := e1.step u2 fun k hk => by omega
  rcases hs with ⟨rfl, rfl⟩ | ⟨rfl, rfl⟩
  · exact chk_r (by decide) (ld_r (b := b1) (off := 3) n2 (x := ⟨#[115, 121, 110, 99]⟩) rfl (hK w2 e2))
  · exact chk_r (by decide) (ld_r (b := b1) (off := 6) n2 (x := ⟨#[114, 101, 109, 111, 118, 101]⟩) rfl (hK w2 e2))
/-- what an own step answers -/
abbrev ansR (e k : Int) : (Int × Sl × Int × Int × Int × Int × Int × Unit) := (0, ⟨none, 0, 0⟩, 0, 0, 0, e, k, ())
abbrev errR (n : Nm) : Int := if okName n = false then 164 else 162
theorem ref_own (h : w.heap[r]? = some (rbox sp k)) {s : Nm} (hs : s = ⟨#[115, 121, 110, 99]⟩ ∨ s = ⟨#[114, 101, 109, 111, 118, 101]⟩) {K : (Int × Sl × Int × Int × Int × Int × Int × Unit) → World → Prop} (hK : ∀ w', Ext w w' → K (ansR (errR n) 0) w') :
    callT Try.prog 46 #[.pointer (some (at0 r)), .agg (Cells.vals c47 (s, n, ⟨#[]⟩, ⟨none, 0, 0⟩, ())).toArray] (.one (.agg c43)) K w := by
  refine F46_calls (a1 := (s, n, ⟨#[]⟩, ⟨none, 0, 0⟩, ())) ?_
  unfold F46
  refine newO_r fun b1 w1 e1 n1 hb1 _ => newO_r fun b2 w2 e2 n2 hb2 _ => ?_
  have e02 := e1.trans e2
  have h2 := e02.ext_get h
  have m1 := e2.ext_get n1
  have hz := lt_of_heap n1
  have fin : ∀ e : Int, e = errR n → aggSt (at0 b2) (.agg #[(.int .i64 (0 : Int)), (.slice none 0 0), (.int .i64 (0 : Int)), (.int .i64 (0 : Int)), (.int .i64 (0 : Int)), (.int .i64 e), (.int .i64 (0 : Int))]) 7 (lds c43 (at0 b2) K) w2 := fun e he => by
    subst he
    refine aggSt_r n2 rfl rfl (by decide) fun w3 u3 n3 _ => lds_r (cs := c43) (x := ansR (errR n) 0) n3 (fun i v hv => ?_) (hK w3 (e02.step u3 fun k hk => by have := e1.size; omega))
    match i, hv with
    | 0, hv => exact hv
    | 1, hv => exact hv
    | 2, hv => exact hv
    | 3, hv => exact hv
    | 4, hv => exact hv
    | 5, hv => exact hv
    | 6, hv => exact hv
  have hss : (ByteArray.toList s == ByteArray.toList ⟨#[115, 121, 110, 99, 100, 105, 114]⟩) = false := by
    rw [bytes_eq]; rcases hs with rfl | rfl <;> decide
  have hsr : (ByteArray.toList s == ByteArray.toList ⟨#[114, 101, 110, 97, 109, 101]⟩) = false := by
    rw [bytes_eq]; rcases hs with rfl | rfl <;> decide
  have hsm : (ByteArray.toList s == ByteArray.toList ⟨#[109, 97, 107, 101]⟩) = false := by
    rw [bytes_eq]; rcases hs with rfl | rfl <;> decide
  refine ld_r m1 (x := s) rfl ?_
  rw [hss]
  refine sif_false (join_at (okName n, ()) (ld_r m1 (off := 1) (x := n) rfl (ref_isName (sif_r (fun ho => ld_r m1 (x := s) rfl ?_) fun ho => ⟨by rw [ho], rfl⟩))) (sif_r (fun ho => fin 164 ?_) fun ho => ?_))
  · rw [hsr]; exact sif_true ⟨by rw [ho], rfl⟩
  · have ho : okName n = false := by simpa using ho
    unfold errR; rw [if_pos ho]
  · have ho : okName n = true := by simpa using ho
    refine ld_r m1 (off := 1) (x := n) rfl (ref_file h2 (ld_r m1 (x := s) rfl ?_))
    rw [hsm]
    exact sif_false (sif_true (fin 162 (by unfold errR; rw [if_neg (by rw [ho]; simp)])))
theorem ref_do (h : w.heap[r]? = some (rbox sp k)) (hk : 0 ≤ k ∧ k ≤ 2 ^ 60) {s : Nm} (hs : s = ⟨#[115, 121, 110, 99]⟩ ∨ s = ⟨#[114, 101, 109, 111, 118, 101]⟩) {K : (Int × Sl × Int × Int × Int × Int × Int × Unit) → World → Prop}
    (hK : ∀ w', Upd (fun j => j = r) w w' → w'.heap[r]? = some (rbox sp (k + 1)) → K (ansR (errR n) (k + 1)) w') :
    callT Try.prog 16 #[.pointer (some (at0 r)), .agg #[.string s, .string n, .string ⟨#[]⟩, .slice none 0 0]] (.one (.agg c43)) K w := by
  refine F16_calls (a1 := (s, n, ⟨#[]⟩, ⟨none, 0, 0⟩, ())) ?_
  unfold F16
  refine newO_r fun b1 w1 e1 n1 hb1 _ => newO_r fun b2 w2 e2 n2 hb2 _ => nn_some ?_
  have e02 := e1.trans e2
  have h2 := e02.ext_get h
  have hrl := lt_of_heap h
  have hs1 := e1.size
  have hs2 := e2.size
  rw [addr_add]
  refine ld_r h2 (x := false) rfl (sif_false (nn_some ?_))
  rw [addr_add]
  refine ld_r h2 (x := k) rfl (nn_some ?_)
  rw [addr_add, IntWalk.i64_in _ ⟨by omega, by omega⟩]
  refine stC_r h2 (Nat.lt_of_sub_eq_succ rfl) fun w3 u3 h3 hz3 => nn_some ?_
  have h3 : w3.heap[r]? = some (rbox sp (k + 1)) := h3
  rw [addr_add]
  refine ld_r h3 (x := k + 1) rfl (ref_fault h3 fun w4 e4 => ?_)
  have m1 := e4.ext_get (u3.get (e2.ext_get n1) (by omega))
  have m2 := e4.ext_get (u3.get n2 (by omega))
  have h4 := e4.ext_get h3
  have hs4 := e4.size
  refine (St.start w4).newAgg rfl rfl rfl fun b12 w5 S5 e5 => ?_
  refine S5.newAgg rfl rfl rfl fun b13 w6 S6 e6 => ?_
  have e46 := e5.trans e6
  have hs46 := e46.size
  have n12 := S6.at_ 1 rfl
  have n13 := S6.at_ 0 rfl
  have hb12 := S6.ge 1 rfl
  have hb13 := S6.ge 0 rfl
  have u06 : Upd (fun j => j = r) w w6 := ((Upd.of_ext e02).trans u3).trans (Upd.of_ext (e4.trans e46))
  refine join_r (fun _ W => W.heap[b13]? = some (.cells #[(.int .i64 (0 : Int)), (.slice none 0 0), (.int .i64 (0 : Int)), (.int .i64 (0 : Int)), (.int .i64 (0 : Int)), (.int .i64 (errR n)), (.int .i64 0)] 43 (0, 0)) ∧ Upd (fun j => j = b13) w6 W) ?_ ?_
  · refine ld_r n12 (off := 1) (x := 0) rfl (sif_true (lds_r (cs := c47) (x := (s, n, ⟨#[]⟩, ⟨none, 0, 0⟩, ())) (e46.ext_get m1) (fun i v hv => ?_) (ref_own (e46.ext_get h4) hs fun w7 e7 => ?_)))
    · match i, hv with
      | 0, hv => exact hv
      | 1, hv => exact hv
      | 2, hv => exact hv
      | 3, hv => exact hv
    · refine aggSt_r (e7.ext_get n13) rfl rfl (by decide) fun w8 u8 n8 _ => ⟨n8, (Upd.of_ext e7).trans u8⟩
  · rintro _ w7 ⟨n13, u7⟩
    have hz7 := u7.size
    refine stC_r n13 (Nat.lt_of_sub_eq_succ rfl) fun w8 u8 n8 _ => ?_
    have n8 : w8.heap[b13]? = some (.cells (Cells.vals c43 (ansR (errR n) (k + 1))).toArray 43 (0, 0)) := n8
    refine lds_r (cs := c43) (x := ansR (errR n) (k + 1)) n8 (fun i v hv => by rw [Nat.zero_add, List.getElem?_toArray]; exact hv) ?_
    have u78 : Upd (fun j => j = b13) w6 w8 := u7.trans u8
    have m2' := u78.get (e46.ext_get m2) (by have := lt_of_heap m2; omega)
    refine aggSt_r m2' rfl rfl (by decide) fun w9 u9 n9 _ => ?_
    have n9 : w9.heap[b2]? = some (.cells (Cells.vals c43 (ansR (errR n) (k + 1))).toArray 43 (0, 0)) := n9
    refine lds_r (cs := c43) (x := ansR (errR n) (k + 1)) n9 (fun i v hv => by rw [Nat.zero_add, List.getElem?_toArray]; exact hv) ?_
    · have h9 := u9.get (u78.get (e46.ext_get h4) (by have := lt_of_heap h4; omega)) (by omega)
      have hz3' := u3.size
      exact hK w9 ((u06.new u78 fun j hj e => by omega).new u9 fun j hj e => by omega) h9
end
end Go.Proofs.Ytdabehgbhndimaa
