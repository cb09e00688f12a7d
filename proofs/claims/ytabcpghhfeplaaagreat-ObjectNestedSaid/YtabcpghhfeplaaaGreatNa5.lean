/- The law holds for every input: it returns true, and each argument reads behind the call as it did. Conditions: those of the form alone. -/
import Derived.Test.YtabcpghhfeplaaaGreatNa4
set_option linter.unusedVariables false
set_option linter.unusedSimpArgs false
set_option linter.unusedSectionVars false
set_option linter.unusedSimpArgs false
set_option linter.unusedVariables false
set_option maxRecDepth 100000
namespace Go.Proofs.YtabcpghhfeplaaaGreat
open Go Go.Vx Cdc Trx
section
variable {w w' : World}
theorem bv_lit {b : Nat} {c : Array Value} {l : Bs} (h : w.heap[b]? = some (.cells c 5 (0, 0))) (hc : c.toList = bv l) : By w ⟨some (at0 b), l.length, l.length⟩ l := by
  have hs : c.size = l.length * 1 := by rw [← Array.length_toList, hc, List.length_map]; omega
  have := SlIn.of_box h (n := l.length) (sz := 1) hs
  rw [hc] at this
  exact this
theorem lit_byte {n : Int} {m : Nat} (hm : m < 256) (h : n = (m : Int)) : Value.int .u8 (IntKind.wrap .u8 n) = Value.int .u8 ((UInt8.ofNat m).toNat : Int) := by
  rw [h, byte_nat hm, wrap8 (by omega) (by omega)]
theorem eight_call {a : Int} (ha : Scalar a) {K : Sl → World → Prop} (hK : ∀ s w', By w' s (pt8 a) → Ext w w' → K s w') : callT Tryz.prog 118 #[.int .i64 a] (.one (.one .sl)) K w := by
  refine F118_calls ?_
  unfold F118
  obtain ⟨n, rfl⟩ : ∃ n : Nat, a = (n : Int) := Int.eq_ofNat_of_zero_le (by rcases ha with h | h <;> omega)
  have td : ∀ m : Nat, Int.tdiv (n : Int) ((m : Nat) : Int) = ((n / m : Nat) : Int) := fun m => by rw [Int.tdiv_eq_ediv_of_nonneg (by omega)]; rfl
  have tm : ∀ k m : Nat, Int.tmod (k : Int) ((m : Nat) : Int) = ((k % m : Nat) : Int) := fun k m => by rw [Int.tmod_eq_emod_of_nonneg (by omega)]; rfl
  have d64 := td 64; have d4096 := td 4096; have d262144 := td 262144
  have hn : n < 1114112 := by rcases ha with h | h <;> omega
  refine sif_r (fun h => ?_) (fun h => sif_r (fun h2 => ?_) (fun h2 => sif_r (fun h3 => ?_) (fun h3 => ?_)))
  · simp only [decide_eq_true_eq] at h
    refine newO_r fun b w1 e1 n1 _ _ => hK _ w1 ?_ e1
    have := bv_lit (l := pt8 (n : Int)) n1 (by rw [pt8_1 (by omega)]; show [_] = [_]; rw [lit_byte (m := n) (by omega) rfl])
    rw [pt8_1 (by omega)] at this ⊢
    exact this
  · simp only [decide_eq_true_eq, decide_eq_false_iff_not] at h h2
    refine chk_r (by decide) (chk_r (by decide) (newO_r fun b w1 e1 n1 _ _ => hK _ w1 ?_ e1))
    have := bv_lit (l := pt8 (n : Int)) n1 (by
      rw [pt8_2 (by omega) (by omega)]
      show [_, _] = [_, _]
      have e1 := td 64; have e2 := tm n 64
      simp only [Int.cast_ofNat_Int] at e1 e2
      rw [e1, e2, wrap64 (a := ((n / 64 : Nat) : Int)) (by omega) (by omega), wrap64 (by omega) (by omega), wrap64 (by omega) (by omega), lit_byte (m := 192 + n / 64) (by omega) (by omega), lit_byte (m := 128 + n % 64) (by omega) (by omega)])
    rw [pt8_2 (by omega) (by omega)] at this ⊢
    exact this
  · simp only [decide_eq_true_eq, decide_eq_false_iff_not] at h h2 h3
    refine chk_r (by decide) (chk_r (by decide) (chk_r (by decide) (chk_r (by decide) (newO_r fun b w1 e1 n1 _ _ => hK _ w1 ?_ e1))))
    have := bv_lit (l := pt8 (n : Int)) n1 (by
      rw [pt8_3 ha (by omega) (by omega)]
      show [_, _, _] = [_, _, _]
      have e1 := td 64; have e2 := tm n 64; have e3 := td 4096; have e4 := tm (n / 64) 64
      simp only [Int.cast_ofNat_Int] at e1 e2 e3 e4
      rw [e1, e2, e3, wrap64 (a := ((n / 64 : Nat) : Int)) (by omega) (by omega), wrap64 (a := ((n / 4096 : Nat) : Int)) (by omega) (by omega), e4, wrap64 (by omega) (by omega), wrap64 (by omega) (by omega), wrap64 (by omega) (by omega), lit_byte (m := 224 + n / 4096) (by omega) (by omega), lit_byte (m := 128 + n / 64 % 64) (by omega) (by omega), lit_byte (m := 128 + n % 64) (by omega) (by omega)])
    rw [pt8_3 ha (by omega) (by omega)] at this ⊢
    exact this
  · simp only [decide_eq_false_iff_not] at h h2 h3
    refine chk_r (by decide) (chk_r (by decide) (chk_r (by decide) (chk_r (by decide) (chk_r (by decide) (chk_r (by decide) (newO_r fun b w1 e1 n1 _ _ => hK _ w1 ?_ e1))))))
    have := bv_lit (l := pt8 (n : Int)) n1 (by
      rw [pt8_4 (by omega) (by omega)]
      show [_, _, _, _] = [_, _, _, _]
      have e1 := td 64; have e2 := tm n 64; have e3 := td 4096; have e4 := tm (n / 64) 64; have e5 := td 262144; have e6 := tm (n / 4096) 64
      simp only [Int.cast_ofNat_Int] at e1 e2 e3 e4 e5 e6
      rw [e1, e2, e3, e5, wrap64 (a := ((n / 64 : Nat) : Int)) (by omega) (by omega), wrap64 (a := ((n / 4096 : Nat) : Int)) (by omega) (by omega), wrap64 (a := ((n / 262144 : Nat) : Int)) (by omega) (by omega), e4, e6, wrap64 (by omega) (by omega), wrap64 (by omega) (by omega), wrap64 (by omega) (by omega), wrap64 (by omega) (by omega),
        lit_byte (m := 240 + n / 262144) (by omega) (by omega), lit_byte (m := 128 + n / 4096 % 64) (by omega) (by omega), lit_byte (m := 128 + n / 64 % 64) (by omega) (by omega), lit_byte (m := 128 + n % 64) (by omega) (by omega)])
    rw [pt8_4 (by omega) (by omega)] at this ⊢
    exact this
theorem begins_call {s t : Sl} {l m : Bs} {n : Nat} (hs : By w s l) (ht : By w t m) (hn : n ≤ l.length) (hl : l.length < 2 ^ 60) (hm : m.length < 2 ^ 60) {K : Bool → World → Prop} (hK : ∀ w', Ext w w' → K (decide ((l.drop n).take m.length = m)) w') :
    callT Tryz.prog 119 #[.slice s.a s.len s.cap, .int .i64 (n : Int), .slice t.a t.len t.cap] (.one (.one .bool)) K w := by
  refine F119_calls ?_
  unfold F119
  have h1 := hs.len; have h2 := ht.len
  rw [wrap64 (by omega) (by omega)]
  refine sif_r (fun h => ?_) (fun h => ?_)
  · simp only [decide_eq_true_eq, gt_iff_lt] at h
    have := hK w (Ext.refl w)
    rw [decide_eq_false] at this
    · exact this
    · intro hc
      have := congrArg List.length hc
      rw [List.length_take, List.length_drop] at this; omega
  simp only [decide_eq_false_iff_not, gt_iff_lt] at h
  refine join_r (fun _ w' => Ext w w' ∧ (l.drop n).take m.length = m) ?_ ?_
  · refine sloop_r (fun x w' => ∃ i : Nat, i ≤ m.length ∧ x = ((i : Int), ()) ∧ Ext w w' ∧ (l.drop n).take i = m.take i) (fun x _ => ((m.length : Int) - x.1).toNat) ⟨0, Nat.zero_le _, rfl, Ext.refl w, by simp⟩ ?_
    rintro _ w1 ⟨i, hi, rfl, e1, heq⟩
    refine sif_r (fun hc => ?_) (fun hc => ?_)
    · simp only [decide_eq_true_eq] at hc
      have him : i < m.length := by omega
      have hil : n + i < l.length := by omega
      have ew : IntKind.wrap .i64 ((n : Int) + (i : Int)) = ((n + i : Nat) : Int) := by rw [wrap64 (by omega) (by omega)]; omega
      rw [ew]
      refine drew_r fun w2 e2 _ => ix_by (hs.ext (e1.trans e2)) (by omega) (b := l[n + i]) (by rw [Int.toNat_natCast]; simp [hil]) fun p => ix_by (ht.ext (e1.trans e2)) (by omega) (b := m[i]) (by rw [Int.toNat_natCast]; simp [him]) fun q => ?_
      have g1 : (l.drop n)[i]? = some l[n + i] := by rw [List.getElem?_drop]; simp [hil]
      refine sif_r (fun hne => ?_) (fun hne => ?_)
      · simp only [bne_iff_ne] at hne
        have := hK w2 (e1.trans e2)
        rw [decide_eq_false] at this
        · exact this
        · intro hc2
          have h5 : ((l.drop n).take m.length)[i]? = m[i]? := by rw [hc2]
          rw [List.getElem?_take, if_pos him, g1, List.getElem?_eq_getElem him] at h5
          exact hne (by rw [Option.some.inj h5])
      · have hne' : ((l[n + i].toNat : Int) != (m[i].toNat : Int)) = false := hne
        simp only [bne_eq_false_iff_eq] at hne'
        have hbe : l[n + i] = m[i] := UInt8.toNat_inj.1 (by omega)
        have ew2 : IntKind.wrap .i64 ((i : Int) + 1) = ((i + 1 : Nat) : Int) := by rw [wrap64 (by omega) (by omega)]; omega
        refine ⟨⟨i + 1, by omega, by rw [ew2], e1.trans e2, ?_⟩, ?_⟩
        · rw [List.take_add_one, List.take_add_one, heq, g1, List.getElem?_eq_getElem him, hbe]
        · dsimp only
          rw [ew2]; omega
    · simp only [decide_eq_false_iff_not] at hc
      have : i = m.length := by omega
      subst this
      exact ⟨e1, by rw [heq, List.take_length]⟩
  · rintro _ w1 ⟨e1, heq⟩
    have := hK w1 e1
    rwa [decide_eq_true heq] at this
theorem goOn_bound : ∀ (l : Bs) (a : Int), l.length ≤ 3 → -1000 ≤ a → a ≤ 1000 → -1000000000 ≤ goOn a l ∧ goOn a l ≤ 1000000000 := by
  intro l a hl h0 h1
  match l, hl with
  | [], _ => exact ⟨by show -1000000000 ≤ a; omega, by show a ≤ 1000000000; omega⟩
  | [x], _ => have := x.toNat_lt; exact ⟨by show _ ≤ a * 64 + (x.toNat : Int) - 128; omega, by show a * 64 + (x.toNat : Int) - 128 ≤ _; omega⟩
  | [x, y], _ => have := x.toNat_lt; have := y.toNat_lt; exact ⟨by show _ ≤ (a * 64 + (x.toNat : Int) - 128) * 64 + (y.toNat : Int) - 128; omega, by show (a * 64 + (x.toNat : Int) - 128) * 64 + (y.toNat : Int) - 128 ≤ _; omega⟩
  | [x, y, z], _ => have := x.toNat_lt; have := y.toNat_lt; have := z.toNat_lt; exact ⟨by show _ ≤ ((a * 64 + (x.toNat : Int) - 128) * 64 + (y.toNat : Int) - 128) * 64 + (z.toNat : Int) - 128; omega, by show ((a * 64 + (x.toNat : Int) - 128) * 64 + (y.toNat : Int) - 128) * 64 + (z.toNat : Int) - 128 ≤ _; omega⟩
theorem goOn_snoc (a : Int) (l : Bs) (x : UInt8) : goOn a (l ++ [x]) = goOn a l * 64 + (x.toNat : Int) - 128 := by simp [goOn]
theorem meant_call {s : Sl} {b : UInt8} {l r : Bs} {n m : Nat} (hs : By w s l) (hl : l.length < 2 ^ 60) (hr : l.drop n = b :: r) (hm0 : 1 ≤ m) (hm4 : m ≤ 4) (hm : n + m ≤ l.length) {K : Int → World → Prop} (hK : ∀ w', Ext w w' → K (meantP m (b :: r)) w') :
    callT Tryz.prog 116 #[.slice s.a s.len s.cap, .int .i64 (n : Int), .int .i64 (m : Int)] (.one (.one (.int .i64))) K w := by
  refine F116_calls ?_
  unfold F116
  have h1 := hs.len
  have hb := b.toNat_lt
  have hnl : n < l.length := by omega
  have hrl : r.length = l.length - n - 1 := by
    have := congrArg List.length hr
    rw [List.length_drop, List.length_cons] at this; omega
  have g0 : l[n]? = some b := by
    have := congrArg (fun x => x[0]?) hr
    simp only [List.getElem?_drop, List.getElem?_cons_zero, Nat.add_zero] at this
    exact this
  have gi : ∀ i, l[n + (i + 1)]? = r[i]? := fun i => by
    have := congrArg (fun x => x[i + 1]?) hr
    simp only [List.getElem?_drop, List.getElem?_cons_succ] at this
    exact this
  refine (St.start w).newAgg rfl rfl rfl fun b1 w1 S1 e1 => S1.drew fun w2 S2 e2 _ => ix_by (hs.ext S2.upd) (by omega) (b := b) (by rw [Int.toNat_natCast]; exact g0) fun p => chk_r (by omega) ?_
  rw [addr_add, scaled_eq, Int.toNat_natCast]
  have hlead : (#[(.int .i64 (0 : Int)), (.int .i64 (0 : Int)), (.int .i64 (192 : Int)), (.int .i64 (224 : Int)), (.int .i64 (240 : Int))] : Array Value)[0 + m * 1]? = some (.int .i64 (leadN m)) := by
    match m, hm0, hm4 with
    | 1, _, _ => rfl
    | 2, _, _ => rfl
    | 3, _, _ => rfl
    | 4, _, _ => rfl
  have hlb : 0 ≤ leadN m ∧ leadN m ≤ 240 := by unfold leadN; repeat' split
                                               all_goals omega
  refine ld_r (S2.at_ 0 rfl) (x := leadN m) hlead ?_
  rw [wrap64 (a := (b.toNat : Int)) (by omega) (by omega), wrap64 (a := (b.toNat : Int) - leadN m) (by omega) (by omega)]
  refine join_r (fun x w' => x = (meantP m (b :: r), ()) ∧ Ext w w') ?_ ?_
  · refine sloop_r (fun x w' => ∃ i : Nat, 1 ≤ i ∧ i ≤ m ∧ x = (goOn ((b.toNat : Int) - leadN m) (r.take (i - 1)), (i : Int), ()) ∧ Ext w w') (fun x _ => ((m : Int) - x.2.1).toNat) ⟨1, by omega, by omega, rfl, S2.upd⟩ ?_
    rintro _ w3 ⟨i, hi1, him, rfl, e3⟩
    refine sif_r (fun hc => ?_) (fun hc => ?_)
    · simp only [decide_eq_true_eq] at hc
      have ew : IntKind.wrap .i64 ((n : Int) + (i : Int)) = ((n + i : Nat) : Int) := by rw [wrap64 (by omega) (by omega)]; omega
      rw [ew]
      have hil : n + i < l.length := by omega
      refine ix_by (hs.ext e3) (by omega) (b := l[n + i]) (by rw [Int.toNat_natCast]; simp [hil]) fun q => ?_
      have hxb := l[n + i].toNat_lt
      have hg : r[i - 1]? = some l[n + i] := by
        rw [← gi (i - 1), show n + (i - 1 + 1) = n + i by omega]; simp [hil]
      have hbd := goOn_bound (r.take (i - 1)) ((b.toNat : Int) - leadN m) (by rw [List.length_take]; omega) (by omega) (by omega)
      have hsn : goOn ((b.toNat : Int) - leadN m) (r.take (i + 1 - 1)) = goOn ((b.toNat : Int) - leadN m) (r.take (i - 1)) * 64 + (l[n + i].toNat : Int) - 128 := by
        rw [show i + 1 - 1 = (i - 1) + 1 by omega, List.take_add_one, hg]
        exact goOn_snoc _ _ _
      have ew2 : IntKind.wrap .i64 ((i : Int) + 1) = ((i + 1 : Nat) : Int) := by rw [wrap64 (by omega) (by omega)]; omega
      rw [wrap64 (a := goOn ((b.toNat : Int) - leadN m) (r.take (i - 1)) * 64) (by omega) (by omega), wrap64 (a := (l[n + i].toNat : Int)) (by omega) (by omega), wrap64 (a := goOn ((b.toNat : Int) - leadN m) (r.take (i - 1)) * 64 + (l[n + i].toNat : Int)) (by omega) (by omega), wrap64 (a := goOn ((b.toNat : Int) - leadN m) (r.take (i - 1)) * 64 + (l[n + i].toNat : Int) - 128) (by omega) (by omega), ew2]
      refine ⟨⟨i + 1, by omega, by omega, ?_, e3⟩, ?_⟩
      · rw [hsn]
      · dsimp only; omega
    · simp only [decide_eq_false_iff_not] at hc
      have : i = m := by omega
      subst this
      exact ⟨rfl, e3⟩
  · rintro _ w3 ⟨rfl, e3⟩
    exact hK w3 e3
theorem eightAt_call {s : Sl} {l : Bs} {n : Nat} (hs : By w s l) (hl : l.length < 2 ^ 60) (hn : n < l.length) {K : Int × Int × Unit → World → Prop} (hK : ∀ w', Ext w w' → K ((nx8 (l.drop n)).1, ((nx8 (l.drop n)).2 : Nat), ()) w') :
    callT Tryz.prog 83 #[.slice s.a s.len s.cap, .int .i64 (n : Int)] (.tup [(.one (.int .i64)), (.one (.int .i64))]) K w := by
  refine F83_calls ?_
  unfold F83
  have h1 := hs.len
  obtain ⟨b, r, hr⟩ : ∃ b r, l.drop n = b :: r := ⟨_, _, List.drop_eq_getElem_cons hn⟩
  have hb := b.toNat_lt
  have hrl : r.length = l.length - n - 1 := by
    have := congrArg List.length hr
    rw [List.length_drop, List.length_cons] at this; omega
  have g0 : l[n]? = some b := by
    have := congrArg (fun x => x[0]?) hr
    simp only [List.getElem?_drop, List.getElem?_cons_zero, Nat.add_zero] at this
    exact this
  rw [hr] at hK
  have hsz := nx8_size b r
  refine join_r (fun _ w' => Ext w w' ∧ ¬ 0 ≤ (nx8 (b :: r)).1) ?_ ?_
  · refine sloop_r (fun x w' => ∃ i : Nat, 1 ≤ i ∧ i ≤ 5 ∧ x = ((i : Int), ()) ∧ Ext w w' ∧ (0 ≤ (nx8 (b :: r)).1 → i ≤ (nx8 (b :: r)).2)) (fun x _ => ((5 : Int) - x.1).toNat) ⟨1, by omega, by omega, rfl, Ext.refl w, fun _ => hsz.1⟩ ?_
    rintro _ w1 ⟨i, hi1, hi5, rfl, e1, hno⟩
    refine join_r (fun x w' => x = (decide (i ≤ 4 ∧ n + i ≤ l.length), ()) ∧ w1 = w') ?_ ?_
    · refine sif_r (fun h => ⟨tupb ?_, rfl⟩) (fun h => ⟨tupb ?_, rfl⟩)
      · simp only [decide_eq_true_eq] at h ⊢
        rw [wrap64 (by omega) (by omega)]; omega
      · simp only [decide_eq_false_iff_not, decide_eq_true_eq] at h ⊢
        exact ⟨(fun h => by cases h), fun h => by omega⟩
    rintro _ w2 ⟨rfl, rfl⟩
    refine sif_r (fun h => ?_) (fun h => ?_)
    · simp only [decide_eq_true_eq] at h
      have ew : IntKind.wrap .i64 ((i : Int) + 1) = ((i + 1 : Nat) : Int) := by rw [wrap64 (by omega) (by omega)]; omega
      refine join_r (fun _ w' => Ext w w' ∧ ¬ Hit (b :: r) i) ?_ ?_
      · refine meant_call (hs.ext e1) hl hr hi1 h.1 h.2 fun w3 e3 => ?_
        refine rscalar_call (fun hS => sif_r (fun h => by cases h) (fun _ => ?_)) (fun hS => sif_r (fun _ => ⟨e1.trans e3, fun hh => hS hh.1⟩) (fun h => by cases h))
        refine eight_call hS fun t w4 ht e4 => ?_
        have hpl : (pt8 (meantP i (b :: r))).length ≤ 4 := by
          have hne : sz8 (meantP i (b :: r)) ≠ 0 ∧ sz8 (meantP i (b :: r)) ≤ 4 := by
            unfold sz8
            rw [if_neg (by rcases hS with h | h <;> omega)]
            repeat' split
            all_goals decide
          have := pt_len .u8 _ hne.1
          show (pt .u8 _).length ≤ 4
          rw [this]; exact hne.2
        refine begins_call (hs.ext ((e1.trans e3).trans e4)) ht (by omega) hl (by omega) fun w5 e5 => ?_
        rw [hr]
        have htl := ht.len
        have e15 := ((e1.trans e3).trans e4).trans e5
        refine join_r (fun x w' => (x.1 = true ↔ Hit (b :: r) i) ∧ w5 = w') ?_ ?_
        · refine sif_r (fun h => ⟨?_, rfl⟩) (fun h => ⟨?_, rfl⟩)
          · simp only [beq_iff_eq] at h
            simp only [decide_eq_true_eq]
            exact ⟨fun hh => ⟨hS, hh, by omega⟩, fun hh => hh.2.1⟩
          · simp only [beq_eq_false_iff_ne] at h
            exact ⟨(fun h => by cases h), fun hh => by have := hh.2.2; omega⟩
        rintro ⟨x, _⟩ w6 ⟨hx, rfl⟩
        refine sif_r (fun hh => ?_) (fun hh => ⟨e15, fun hit => by have h1 := hx.2 hit; have h2 : x = false := hh; rw [h2] at h1; cases h1⟩)
        have hit := hx.1 hh
        have := hK w5 e15
        rw [hit_nx hit] at this
        exact this
      · rintro _ w3 ⟨e3, hno2⟩
        refine ⟨⟨i + 1, by omega, by omega, by rw [ew], e3, fun h0 => ?_⟩, ?_⟩
        · have := hno h0
          rcases Nat.lt_or_ge i (nx8 (b :: r)).2 with h2 | h2
          · omega
          · have : i = (nx8 (b :: r)).2 := by omega
            subst this
            exact absurd (nx_hit h0).1 hno2
        · dsimp only
          rw [ew]; omega
    · simp only [decide_eq_false_iff_not] at h
      refine ⟨e1, fun h0 => h ?_⟩
      have h2 := hno h0
      have h3 := hsz.2.1
      rw [List.length_cons] at h3
      omega
  · rintro _ w1 ⟨e1, hneg⟩
    refine ix_by (hs.ext e1) (by omega) (b := b) (by rw [Int.toNat_natCast]; exact g0) fun p => ?_
    have := hK w1 e1
    rw [nx_neg hneg] at this
    rw [wrap64 (a := (b.toNat : Int)) (by omega) (by omega), wrap64 (by omega) (by omega)]
    exact this
theorem rat_call {e : Enc} {s : Sl} {l : Bs} {n : Nat} (hs : By w s l) (hl : l.length < 2 ^ 59) (hn : n < l.length) {K : Int × Int × Unit → World → Prop} (hK : ∀ w', Ext w w' → K ((nx e (l.drop n)).1, ((nx e (l.drop n)).2 : Nat), ()) w') :
    callT Tryz.prog 62 #[.int .i64 e.num, .slice s.a s.len s.cap, .int .i64 (n : Int)] (.tup [(.one (.int .i64)), (.one (.int .i64))]) K w := by
  refine F62_calls ?_
  unfold F62
  have h1 := hs.len
  obtain ⟨b, r, hr⟩ : ∃ b r, l.drop n = b :: r := ⟨_, _, List.drop_eq_getElem_cons hn⟩
  have hb := b.toNat_lt
  have g0 : l[n]? = some b := by
    have := congrArg (fun x => x[0]?) hr
    simp only [List.getElem?_drop, List.getElem?_cons_zero, Nat.add_zero] at this
    exact this
  have six : ∀ be : Bool, e.num = (if be then 3 else 2) → nx e = nx16 be →
      callT Tryz.prog 84 #[.int .i64 e.num, .slice s.a s.len s.cap, .int .i64 (n : Int)] (.one (.one (.int .i64))) (fun (x4 : Int) => sif (decide (x4 < (0 : Int))) (
        ix s.a s.len (n : Int) fun p5 =>
        ld (.int .u8) (p5.add (scaled (Int.toNat (n : Int)) 1)) fun (x6 : Int) =>
        K ((IntKind.wrap .i64 ((-1 : Int) - (IntKind.wrap .i64 x6))), (1 : Int), ())) (
        callT Tryz.prog 84 #[(.int .i64 e.num), (.slice s.a s.len s.cap), (.int .i64 (IntKind.wrap .i64 ((n : Int) + (2 : Int))))] (.one (.one (.int .i64))) fun (x7 : Int) =>
        join (S := Bool × Unit) (fun J8 =>
          sif (decide (x4 ≥ (55296 : Int))) (
            sif (decide (x4 < (56320 : Int))) (
              sif (decide (x7 ≥ (56320 : Int))) (
                J8 ((decide (x7 < (57344 : Int))), ())) (
                J8 (false, ()))) (
              J8 (false, ()))) (
            J8 (false, ()))) fun (s9 : Bool × Unit) =>
        sif s9.1 (
          K ((IntKind.wrap .i64 ((IntKind.wrap .i64 ((IntKind.wrap .i64 ((65536 : Int) + (IntKind.wrap .i64 ((IntKind.wrap .i64 (x4 - (55296 : Int))) * (1024 : Int))))) + x7)) - (56320 : Int))), (4 : Int), ())) (
          K (x4, (2 : Int), ())))) w := by
    intro be hbe hnx
    rw [hbe]
    rw [hnx] at hK
    refine runit_call hs (by omega) (by omega) fun w1 e1 => ?_
    rw [hr] at hK ⊢
    have e2 : IntKind.wrap .i64 ((n : Int) + 2) = ((n + 2 : Nat) : Int) := by rw [wrap64 (by omega) (by omega)]; omega
    rw [e2]
    cases r with
    | nil =>
      refine sif_r (fun _ => ?_) (fun h => by cases h)
      refine ix_by (hs.ext e1) (by omega) (b := b) (by rw [Int.toNat_natCast]; exact g0) fun p => ?_
      rw [wrap64 (a := (b.toNat : Int)) (by omega) (by omega), wrap64 (by omega) (by omega)]
      exact hK w1 e1
    | cons c r' =>
      have hc := c.toNat_lt
      have hu : un be b c < 65536 := by unfold un; split <;> omega
      have hx4 : unI be (b :: c :: r') = ((un be b c : Nat) : Int) := rfl
      refine sif_r (fun h => by simp only [decide_eq_true_eq] at h; omega) (fun _ => ?_)
      refine runit_call (hs.ext e1) (by omega) (by omega) fun w2 e3 => ?_
      have e12 := e1.trans e3
      have hd2 : l.drop (n + 2) = r' := by
        have := congrArg (List.drop 2) hr
        rw [List.drop_drop] at this
        simpa using this
      rw [hd2]
      refine join_r (fun x w' => (x.1 = true ↔ (un be b c / 1024 = 54 ∧ ∃ d f r'', r' = d :: f :: r'' ∧ un be d f / 1024 = 55)) ∧ w2 = w') ?_ ?_
      · have key : ∀ x7, x7 = unI be r' → ((56320 ≤ x7 ∧ x7 < 57344) ↔ ∃ d f r'', r' = d :: f :: r'' ∧ un be d f / 1024 = 55) := by
          rintro x7 rfl
          match r' with
          | [] => exact ⟨fun h => by have h' : (56320 : Int) ≤ -1 := h.1; omega, by rintro ⟨d, f, r'', h, _⟩; cases h⟩
          | [d] => exact ⟨fun h => by have h' : (56320 : Int) ≤ -1 := h.1; omega, by rintro ⟨d, f, r'', h, _⟩; cases h⟩
          | d :: f :: r'' =>
            show ((56320 : Int) ≤ ((un be d f : Nat) : Int) ∧ ((un be d f : Nat) : Int) < 57344) ↔ _
            constructor
            · intro h; exact ⟨d, f, r'', rfl, by omega⟩
            · rintro ⟨d', f', r3, h, hu⟩; cases h; omega
        have key' := key _ rfl
        refine sif_r (fun h => sif_r (fun h2 => sif_r (fun h3 => ⟨?_, rfl⟩) (fun h3 => ⟨?_, rfl⟩)) (fun h2 => ⟨?_, rfl⟩)) (fun h => ⟨?_, rfl⟩)
        all_goals (try simp only [decide_eq_true_eq, decide_eq_false_iff_not, ge_iff_le] at h)
        all_goals (try simp only [decide_eq_true_eq, decide_eq_false_iff_not, ge_iff_le] at h2)
        all_goals (try simp only [decide_eq_true_eq, decide_eq_false_iff_not, ge_iff_le] at h3)
        all_goals (try simp only [decide_eq_true_eq])
        all_goals have hx4 : unI be (b :: c :: r') = ((un be b c : Nat) : Int) := rfl
        · rw [← key']
          constructor
          · intro h4; exact ⟨by clear key key'; omega, h3, h4⟩
          · intro h4; exact h4.2.2
        · rw [← key']
          exact ⟨(fun h => by cases h), fun h4 => absurd h4.2.1 h3⟩
        · exact ⟨(fun h => by cases h), fun h4 => by have := h4.1; clear key key' h4; omega⟩
        · exact ⟨(fun h => by cases h), fun h4 => by have := h4.1; clear key key' h4; omega⟩
      rintro ⟨x, _⟩ w3 ⟨hx, rfl⟩
      refine sif_r (fun h => ?_) (fun h => ?_)
      · obtain ⟨h54, d, f, r'', rfl, h55⟩ := hx.1 h
        have hd := d.toNat_lt; have hf := f.toNat_lt
        have hv : un be d f < 65536 := by unfold un; split <;> omega
        have := hK w2 e12
        show K ((IntKind.wrap .i64 ((IntKind.wrap .i64 ((IntKind.wrap .i64 ((65536 : Int) + (IntKind.wrap .i64 ((IntKind.wrap .i64 (((un be b c : Nat) : Int) - (55296 : Int))) * (1024 : Int))))) + ((un be d f : Nat) : Int))) - (56320 : Int))), (4 : Int), ()) w2
        rw [wrap64 (a := ((un be b c : Nat) : Int) - 55296) (by omega) (by omega), wrap64 (a := (((un be b c : Nat) : Int) - 55296) * 1024) (by omega) (by omega), wrap64 (a := (65536 : Int) + _) (by omega) (by omega), wrap64 (a := (65536 : Int) + _ + _) (by omega) (by omega), wrap64 (by omega) (by omega)]
        have e4 : nx16 be (b :: c :: d :: f :: r'') = (65536 + ((un be b c % 1024 * 1024 + un be d f % 1024 : Nat) : Int), 4) := by
          simp only [nx16]; rw [if_pos h54, if_pos h55]
        rw [e4] at this
        have e5 : (65536 : Int) + (((un be b c : Nat) : Int) - 55296) * 1024 + ((un be d f : Nat) : Int) - 56320 = 65536 + ((un be b c % 1024 * 1024 + un be d f % 1024 : Nat) : Int) := by omega
        rw [e5]
        exact this
      · have h : ¬ (un be b c / 1024 = 54 ∧ ∃ d f r'', r' = d :: f :: r'' ∧ un be d f / 1024 = 55) := fun hh => by have h1 := hx.2 hh; have h2 : x = false := h; rw [h2] at h1; cases h1
        have := hK w2 e12
        have e4 : nx16 be (b :: c :: r') = (((un be b c : Nat) : Int), 2) := by
          simp only [nx16]
          split
          · rename_i h54
            split
            · rename_i d f r''
              rw [if_neg (fun h55 => h ⟨h54, _, _, _, rfl, h55⟩)]
            · rfl
          · rfl
        rw [e4] at this
        exact this
  cases e with
  | u8 =>
    refine sif_r (fun _ => ?_) (fun h => by cases h)
    exact eightAt_call hs (by omega) hn fun w1 e1 => hK w1 e1
  | le => exact sif_r (fun h => by cases h) (fun _ => sif_r (fun h => by cases h) (fun _ => six false rfl rfl))
  | be => exact sif_r (fun h => by cases h) (fun _ => sif_r (fun h => by cases h) (fun _ => six true rfl rfl))
  | l1 =>
    refine sif_r (fun h => by cases h) (fun _ => sif_r (fun _ => ?_) (fun h => by cases h))
    refine ix_by hs (by omega) (b := b) (by rw [Int.toNat_natCast]; exact g0) fun p => ?_
    rw [wrap64 (a := (b.toNat : Int)) (by omega) (by omega)]
    have := hK w (Ext.refl w)
    rw [hr] at this
    exact this
theorem decode_call {e : Enc} {s : Sl} {l : Bs} (hs : By w s l) (hl : l.length < 2 ^ 40) {K : Sl × Int × Unit → World → Prop} (hK : ∀ s' w', SlOwn w' w.heap.size s' 3 1 (iv (atoms (ats e l))) → Ext w w' → K (s', 0, ()) w') :
    callT Tryz.prog 34 #[.int .i64 e.num, .slice s.a s.len s.cap] (.tup [(.one .sl), (.one (.int .i64))]) K w := by
  refine F34_calls ?_
  unfold F34
  have h1 := hs.len
  refine known_call (sif_r (fun h => by cases h) (fun _ => ?_))
  refine join_r (fun x w' => SlOwn w' w.heap.size x.1 3 1 (iv (atoms (ats e l))) ∧ Ext w w') ?_ (fun x w' h => hK _ _ h.1 h.2)
  refine sloop_r (fun x w' => ∃ j, j ≤ (ats e l).length ∧ x.2 = (((szs ((ats e l).take j) : Nat) : Int), ()) ∧ SlOwn w' w.heap.size x.1 3 1 (iv (atoms ((ats e l).take j))) ∧ Ext w w') (fun x _ => ((l.length : Int) - x.2.1).toNat) ⟨0, Nat.zero_le _, rfl, SlOwn.nil _ _ _ _, Ext.refl w⟩ ?_
  rintro ⟨r, _⟩ w1 ⟨j, hj, rfl, ho, e1⟩
  have hsj : szs ((ats e l).take j) ≤ l.length := pos_le j
  have hol := ho.len1
  dsimp only at ho hol ⊢
  rw [List.length_map, List.length_map, List.length_take] at hol
  refine sif_r (fun hc => ?_) (fun hc => ?_)
  · simp only [decide_eq_true_eq] at hc
    obtain ⟨a, m, hqa, hnx, htk, hss, hm1, hsl⟩ := pos_step (e := e) (l := l) (j := j) (by omega)
    have hql : j < (ats e l).length := (List.getElem?_eq_some_iff.1 hqa).1
    refine rat_call (hs.ext e1) (by omega) (by omega) fun w2 e2 => ?_
    rw [hnx]
    refine newO_r fun b w3 e3 n3 hb3 hz3 => ?_
    have hal := szs_ge (ats_posd e l)
    rw [szs_all] at hal
    refine append_rx eInts eInts.ts_ (x := ⟨some (at0 b), 1, 1⟩) (ho.ext (e2.trans e3)) (iv_box n3) (fun v hv => by rw [List.mem_singleton.1 hv]; rfl) (by
      show (r.len + 1 + (r.len + 1) / 4 + 512) * 8 ≤ 2 ^ 48
      omega) (by have := e1.size; have := e2.size; omega) fun s' w4 o4 l4 u4 b4 => ?_
    have e4 : iv (atoms ((ats e l).take j)) ++ [.int .i64 a] = iv (atoms ((ats e l).take (j + 1))) := by rw [htk]; simp
    rw [e4] at o4
    have ew : IntKind.wrap .i64 (((szs ((ats e l).take j) : Nat) : Int) + (m : Int)) = ((szs ((ats e l).take (j + 1)) : Nat) : Int) := by rw [wrap64 (by omega) (by omega)]; omega
    refine ⟨⟨j + 1, by omega, by dsimp only; rw [ew], o4, ((e1.trans e2).trans e3).step u4 fun k hk => ho.blk_ge hk⟩, ?_⟩
    dsimp only
    rw [ew]; omega
  · simp only [decide_eq_false_iff_not] at hc
    have := pos_end (e := e) (l := l) (j := j) (by omega)
    rw [this] at ho
    exact ⟨ho, e1⟩
end
end Go.Proofs.YtabcpghhfeplaaaGreat
set_option linter.unusedSimpArgs false
set_option linter.unusedVariables false
set_option maxRecDepth 100000
set_option linter.unusedVariables false
namespace Go.Proofs.YtabcpghhfeplaaaGreat
open Go Go.Vx
noncomputable def F3 (a0 : (Int × Sl × Unit)) (a1 : Int) (a2 : Int) (a3 : Int) (K : Bool → World → Prop) : World → Prop :=
 newO (.cells #[(.int .i64 a0.1), (.slice a0.2.1.a a0.2.1.len a0.2.1.cap)] 24) fun b1 =>
 lds c24 (at0 b1) fun (x2 : (Int × Sl × Unit)) =>
 callT Tryz.prog 16 #[(.agg (Cells.vals c24 x2).toArray)] (.tup [(.agg c28), (.one .bool)]) fun (x3 : ((Option Addr × Sl × Unit) × Bool × Unit)) =>
 newO (.cells #[(.pointer none), (.slice none 0 0)] 28) fun b4 =>
 aggSt (at0 b4) (.agg (Cells.vals c28 x3.1).toArray) 2 <|
 join (S := Bool × Unit) (fun J5 =>
 sif (!x3.2.1) (
 J5 (true, ())) (
 callT Tryz.prog 17 #[(.int .i64 (3 : Int))] (.one (.one .bool)) fun (x7 : Bool) =>
 J5 ((!x7), ()))) fun (s6 : Bool × Unit) =>
 sif s6.1 (
 K false) (
 newO (.cells #[(.int .i64 (40 : Int)), (.int .i64 (91 : Int)), (.int .i64 (123 : Int)), (.int .i64 (60 : Int))] 3) fun b8 =>
 callT Tryz.prog 18 #[(.int .i64 a2), (.int .i64 (3 : Int))] (.one (.one (.int .i64))) fun (x9 : Int) =>
 ix (some (at0 b8)) 4 x9 fun p10 =>
 ld (.int .i64) (p10.add (scaled (Int.toNat x9) 1)) fun (x11 : Int) =>
 callT Tryz.prog 18 #[(.int .i64 a3), (.int .i64 (3 : Int))] (.one (.one (.int .i64))) fun (x12 : Int) =>
 ld (.sl) (⟨b4, 1, none⟩ : Addr) fun (x13 : Sl) =>
 callT Tryz.prog 18 #[(.int .i64 a1), (.int .i64 ((x13.len : Nat) : Int))] (.one (.one (.int .i64))) fun (x14 : Int) =>
 ld (.ptr) (at0 b4) fun (x15 : Option Addr) =>
 callT Tryz.prog 19 #[(.pointer x15), (.int .i64 x14), (.agg #[(.int .i64 (68 : Int)), (.int .i64 (IntKind.wrap .i64 ((2 : Int) + x12))), (.int .i64 x11)])] (.tup [(.agg c34), (.one (.int .i64))]) fun (x16 : ((Int × Int × Int × Unit) × Int × Unit)) =>
 newO (.cells #[(.int .i64 (0 : Int)), (.int .i64 (0 : Int)), (.int .i64 (0 : Int))] 34) fun b17 =>
 aggSt (at0 b17) (.agg (Cells.vals c34 x16.1).toArray) 3 <|
 sif (x16.2.1 != (0 : Int)) (
 K (x16.2.1 == (90 : Int))) (
 ld (.ptr) (at0 b4) fun (x18 : Option Addr) =>
 callT Tryz.prog 19 #[(.pointer x18), (.int .i64 x14), (.agg #[(.int .i64 (68 : Int)), (.int .i64 (IntKind.wrap .i64 ((IntKind.wrap .i64 ((2 : Int) + x12)) - (1 : Int)))), (.int .i64 x11)])] (.tup [(.agg c34), (.one (.int .i64))]) fun (x19 : ((Int × Int × Int × Unit) × Int × Unit)) =>
 newO (.cells #[(.int .i64 (0 : Int)), (.int .i64 (0 : Int)), (.int .i64 (0 : Int))] 34) fun b20 =>
 aggSt (at0 b20) (.agg (Cells.vals c34 x19.1).toArray) 3 <|
 drew <|
 sif (x19.2.1 == (0 : Int)) (
 ld (.int .i64) (at0 b17) fun (x21 : Int) =>
 ld (.int .i64) (at0 b20) fun (x22 : Int) =>
 sif (decide (x21 < x22)) (
 ld (.int .i64) (⟨b20, 1, none⟩ : Addr) fun (x23 : Int) =>
 ld (.int .i64) (⟨b17, 1, none⟩ : Addr) fun (x24 : Int) =>
 sif (decide (x23 < x24)) (
 ld (.int .i64) (at0 b20) fun (x25 : Int) =>
 sif (decide (x25 ≤ x14)) (
 ld (.int .i64) (⟨b20, 1, none⟩ : Addr) fun (x26 : Int) =>
 sif (decide (x14 < x26)) (
 ld (.int .i64) (⟨b17, 1, none⟩ : Addr) fun (x27 : Int) =>
 ld (.sl) (⟨b4, 1, none⟩ : Addr) fun (x28 : Sl) =>
 sif (decide (x27 ≤ ((x28.len : Nat) : Int))) (
 ld (.int .i64) (at0 b17) fun (x29 : Int) =>
 sif (decide (x29 ≥ (0 : Int))) (
 ld (.sl) (⟨b4, 1, none⟩ : Addr) fun (x30 : Sl) =>
 ld (.int .i64) (at0 b17) fun (x31 : Int) =>
 ix x30.a x30.len x31 fun p32 =>
 ld (.int .i64) (p32.add (scaled (Int.toNat x31) 1)) fun (x33 : Int) =>
 sif (x33 == x11) (
 ld (.sl) (⟨b4, 1, none⟩ : Addr) fun (x34 : Sl) =>
 ld (.int .i64) (at0 b20) fun (x35 : Int) =>
 ix x34.a x34.len x35 fun p36 =>
 ld (.int .i64) (p36.add (scaled (Int.toNat x35) 1)) fun (x37 : Int) =>
 sif (x37 == x11) (
 ld (.sl) (⟨b4, 1, none⟩ : Addr) fun (x38 : Sl) =>
 ld (.int .i64) (⟨b20, 1, none⟩ : Addr) fun (x39 : Int) =>
 ix x38.a x38.len (IntKind.wrap .i64 (x39 - (1 : Int))) fun p40 =>
 ld (.int .i64) (p40.add (scaled (Int.toNat (IntKind.wrap .i64 (x39 - (1 : Int)))) 1)) fun (x41 : Int) =>
 ld (.sl) (⟨b4, 1, none⟩ : Addr) fun (x42 : Sl) =>
 ld (.int .i64) (⟨b17, 1, none⟩ : Addr) fun (x43 : Int) =>
 ix x42.a x42.len (IntKind.wrap .i64 (x43 - (1 : Int))) fun p44 =>
 ld (.int .i64) (p44.add (scaled (Int.toNat (IntKind.wrap .i64 (x43 - (1 : Int)))) 1)) fun (x45 : Int) =>
 K (x41 == x45)) (
 K false)) (
 K false)) (
 K false)) (
 K false)) (
 K false)) (
 K false)) (
 K false)) (
 K false)) (
 K false)))
noncomputable def h3 : Hint := (.seq none (.region [] (.ops 2 .done)) (.seq none (.region [] (.ops 8 .done)) (.seq none (.seq (some (132120576, [(26, (.one .bool))])) (.region [] (.ops 3 (.split 23 (.skips 2 (.ops 1 .done)) (.ops 3 .done)))) (.cond none (.seq none (.region [] (.ops 1 .done)) .leaf) .leaf)) (.seq none (.region [] (.ops 2 .done)) (.seq none (.region [] (.ops 6 .done)) (.seq none (.region [] (.ops 4 .done)) (.seq none (.region [] (.ops 6 .done)) (.seq none (.region [] (.ops 13 .done)) (.seq none (.seq none (.region [] (.ops 2 .done)) (.cond none (.seq none (.region [] (.ops 3 .done)) .leaf) .leaf)) (.seq none (.region [] (.ops 14 .done)) (.seq none (.region [0, 1, 2, 3, 4, 5, 6, 7, 8, 9, 10, 11, 12, 13, 14, 15, 16, 17, 18, 19, 20, 21, 22, 23, 24, 25, 26, 27, 28, 29, 30, 31, 32, 33, 34, 35, 36, 37, 38, 39, 40, 41, 42, 43, 44, 45, 46, 47, 48, 49, 50, 51, 52, 53, 54, 55, 56, 57, 58, 59, 60, 61, 62, 63, 64, 65, 66, 67, 68, 69, 70, 71, 72, 73, 74, 75, 76, 77, 78] (.ops 3 (.split 68 (.ops 7 (.split 75 (.ops 7 (.split 82 (.ops 6 (.split 88 (.ops 6 (.split 94 (.ops 8 (.split 102 (.ops 5 (.split 107 (.ops 10 (.split 117 (.ops 10 (.split 127 (.ops 17 .done) (.skips 15 (.ops 2 .done)))) (.skips 8 (.ops 2 (.skips 15 (.ops 2 .done)))))) (.skips 8 (.ops 2 (.skips 8 (.ops 2 (.skips 15 (.ops 2 .done)))))))) (.skips 3 (.ops 2 (.skips 8 (.ops 2 (.skips 8 (.ops 2 (.skips 15 (.ops 2 .done)))))))))) (.skips 6 (.ops 2 (.skips 3 (.ops 2 (.skips 8 (.ops 2 (.skips 8 (.ops 2 (.skips 15 (.ops 2 .done)))))))))))) (.skips 4 (.ops 2 (.skips 6 (.ops 2 (.skips 3 (.ops 2 (.skips 8 (.ops 2 (.skips 8 (.ops 2 (.skips 15 (.ops 2 .done)))))))))))))) (.skips 4 (.ops 2 (.skips 4 (.ops 2 (.skips 6 (.ops 2 (.skips 3 (.ops 2 (.skips 8 (.ops 2 (.skips 8 (.ops 2 (.skips 15 (.ops 2 .done)))))))))))))))) (.skips 5 (.ops 2 (.skips 4 (.ops 2 (.skips 4 (.ops 2 (.skips 6 (.ops 2 (.skips 3 (.ops 2 (.skips 8 (.ops 2 (.skips 8 (.ops 2 (.skips 15 (.ops 2 .done)))))))))))))))))) (.skips 5 (.ops 2 (.skips 5 (.ops 2 (.skips 4 (.ops 2 (.skips 4 (.ops 2 (.skips 6 (.ops 2 (.skips 3 (.ops 2 (.skips 8 (.ops 2 (.skips 8 (.ops 2 (.skips 15 (.ops 2 .done))))))))))))))))))))) .leaf)))))))))))
theorem F3_tie (a0 : (Int × Sl × Unit)) (a1 : Int) (a2 : Int) (a3 : Int) (K : Bool → World → Prop) : vcgF tab Tryz.prog Tryz.f3 h3 [(.agg (Cells.vals c24 a0).toArray), (.int .i64 a1), (.int .i64 a2), (.int .i64 a3)] (.one (.one .bool)) K = F3 a0 a1 a2 a3 K := by kernel_rfl
theorem F3_calls {a0 : (Int × Sl × Unit)} {a1 : Int} {a2 : Int} {a3 : Int} {K : Bool → World → Prop} {w : World} (h : F3 a0 a1 a2 a3 K w) : callT Tryz.prog 3 #[(.agg (Cells.vals c24 a0).toArray), (.int .i64 a1), (.int .i64 a2), (.int .i64 a3)] (.one (.one .bool)) K w :=
  vcgF_sound tabOk Tryz.func3 h3 [(.agg (Cells.vals c24 a0).toArray), (.int .i64 a1), (.int .i64 a2), (.int .i64 a3)] (.one (.one .bool)) K w (Eq.mpr (congrFun (F3_tie a0 a1 a2 a3 K) w) h)
noncomputable def h4 : Hint := (.seq none (.region [] (.ops 2 .done)) (.seq none (.region [] (.ops 8 .done)) (.seq none (.seq (some (66060288, [(25, (.one .bool))])) (.region [] (.ops 3 (.split 22 (.skips 2 (.ops 1 .done)) (.ops 3 .done)))) (.cond none (.seq none (.region [] (.ops 1 .done)) .leaf) .leaf)) (.seq (some (11972621413014756705924586149611790497021399324983184, [])) (.seq none (.region [] (.ops 1 .done)) (.block (.loop 11972621413014756705924586149611790497021399324983184 [(7, (.one (.int .i64)))] (.seq none (.seq (some (17112760320, [(33, (.one .bool))])) (.region [] (.ops 5 (.split 30 (.ops 3 .done) (.skips 2 (.ops 1 .done))))) (.cond none .leaf .leaf)) (.seq none (.block (.seq none (.region [] (.ops 6 .done)) (.seq (some (72056494526301696, [(9, (.one .addr)), (10, (.one (.int .i64)))])) (.region [0, 1, 2, 3, 4, 5, 9, 10, 6, 7, 8, 11, 12, 13, 14, 15, 17, 18] (.float [16] (.ops 8 (.alt none (.plain (.ops 10 .done)) (.ops 4 (.alt none (.plain (.ops 6 .done)) (.ops 4 (.alt none (.plain (.ops 2 .done)) .stop)))))))) (.seq (some (4722294425275607291904, [(11, (.one .addr)), (12, (.one (.int .i64)))])) (.region [0, 1, 2, 3, 4, 5, 9, 10, 6, 7, 8, 11, 12, 13, 14, 15, 17, 18] (.float [16] (.ops 8 (.alt none (.plain (.ops 10 .done)) (.ops 4 (.alt none (.plain (.ops 6 .done)) (.ops 4 (.alt none (.plain (.ops 2 .done)) .stop)))))))) (.seq none (.seq (some (324518553653704360300286375362560, [(107, (.one .bool))])) (.region [] (.ops 4 (.split 75 (.skips 3 (.ops 2 (.skips 12 (.ops 2 (.skips 12 (.ops 1 .done)))))) (.ops 5 (.split 80 (.skips 12 (.ops 2 (.skips 12 (.ops 1 .done)))) (.ops 3 (.split 83 (.ops 4 (.split 87 (.skips 3 (.ops 4 (.skips 12 (.ops 1 .done)))) (.ops 7 (.split 94 (.skips 12 (.ops 1 .done)) (.ops 3 (.split 97 (.ops 4 (.split 101 (.skips 3 (.ops 3 .done)) (.ops 6 .done))) (.skips 8 (.ops 2 .done)))))))) (.skips 8 (.ops 6 (.split 97 (.ops 4 (.split 101 (.skips 3 (.ops 3 .done)) (.ops 6 .done))) (.skips 8 (.ops 2 .done)))))))))))) (.cond none (.seq none (.region [] (.ops 1 .done)) .leaf) .leaf)) (.seq none (.seq (some (340282042402384805036647824275747635200, [(127, (.one .bool))])) (.region [] (.ops 3 (.split 110 (.ops 3 (.split 113 (.skips 5 (.ops 2 (.skips 5 (.ops 2 .done)))) (.ops 7 (.split 120 (.skips 5 (.ops 2 .done)) (.ops 7 .done))))) (.skips 16 (.ops 1 .done))))) (.cond none (.seq none (.region [] (.ops 1 .done)) .leaf) .leaf)) (.seq none (.region [] (.ops 18 .done)) (.seq (some (11972621401864384106659274578843931360697218639069184, [(172, (.one .bool))])) (.region [0, 1, 2, 3, 4, 5, 6, 7, 8, 9, 10, 11, 12, 13, 14, 15, 16, 17, 18, 19, 20, 21, 22, 23, 25, 26, 24, 27, 28, 29] (.ops 4 (.split 146 (.skips 12 (.ops 2 (.skips 11 (.ops 1 .done)))) (.ops 3 (.split 149 (.ops 4 (.split 153 (.skips 3 (.ops 4 (.skips 11 (.ops 1 .done)))) (.ops 7 (.split 160 (.skips 11 (.ops 1 .done)) (.ops 12 .done))))) (.skips 8 (.ops 15 .done))))))) (.cond none (.seq none (.region [] (.ops 1 .done)) .leaf) .leaf))))))))) (.region [] (.ops 3 .done))))))) (.seq none (.region [] (.ops 1 .done)) .leaf)))))
noncomputable def h5 : Hint := (.seq none (.region [] (.ops 2 .done)) (.seq none (.region [] (.ops 8 .done)) (.seq none (.seq (some (536346624, [(28, (.one .bool))])) (.region [] (.ops 3 (.split 21 (.skips 2 (.ops 2 (.skips 2 (.ops 1 .done)))) (.ops 4 (.split 25 (.skips 2 (.ops 1 .done)) (.ops 3 .done)))))) (.cond none (.seq none (.region [] (.ops 1 .done)) .leaf) .leaf)) (.seq none (.region [] (.ops 6 .done)) (.seq none (.region [] (.ops 1 .done)) (.seq (some (120259084800, [(9, (.one (.int .i64)))])) (.seq none (.region [] (.ops 3 .done)) (.cond none (.region [] (.ops 1 .done)) .leaf)) (.seq (some (962072674816, [(9, (.one (.int .i64)))])) (.seq none (.region [] (.ops 3 .done)) (.cond none (.region [] (.ops 1 .done)) .leaf)) (.seq none (.region [] (.ops 12 .done)) (.seq none (.seq none (.region [] (.ops 2 .done)) (.cond none (.seq none (.region [] (.ops 3 .done)) .leaf) .leaf)) (.seq none (.seq none (.region [] (.ops 3 .done)) (.cond none (.seq none (.region [] (.ops 1 .done)) .leaf) .leaf)) (.seq none (.region [] (.ops 8 .done)) (.seq (some (151106504079791792070720, [])) (.seq none (.region [] (.ops 3 .done)) (.block (.loop 151078833963681227743296 [(13, (.one (.int .i64)))] (.seq none (.seq none (.region [] (.ops 4 .done)) (.cond none .leaf .leaf)) (.seq none (.block (.seq none (.region [] (.ops 5 .done)) (.cond none (.seq none (.region [] (.ops 1 .done)) .leaf) .leaf))) (.region [] (.ops 4 .done))))))) (.seq none (.region [] (.ops 6 (.split 82 (.skips 6 (.ops 2 .done)) (.ops 8 .done)))) .leaf)))))))))))))
noncomputable def h6 : Hint := (.seq none (.region [] (.ops 3 .done)) (.seq none (.region [] (.ops 5 .done)) .leaf))
noncomputable def h7 : Hint := (.seq none (.region [] (.ops 3 .done)) (.seq none (.region [] (.ops 5 .done)) .leaf))
noncomputable def h8 : Hint := (.seq none (.region [] (.ops 3 .done)) (.seq none (.region [] (.ops 5 .done)) .leaf))
noncomputable def h9 : Hint := (.seq none (.region [] (.ops 3 .done)) (.seq none (.region [] (.ops 5 .done)) .leaf))
noncomputable def h10 : Hint := (.seq none (.region [] (.ops 3 .done)) (.seq none (.region [] (.ops 5 .done)) .leaf))
noncomputable def h12 : Hint := (.seq none (.region [] (.ops 1 .done)) (.seq none (.region [] (.ops 3 .done)) (.seq none (.region [] (.ops 3 .done)) (.seq none (.region [] (.ops 2 .done)) (.seq (some (562948879704064, [(13, (.one .sl))])) (.seq none (.region [] (.ops 1 .done)) (.block (.loop 562948879704064 [(13, (.one .sl)), (14, (.one (.int .i64)))] (.seq none (.seq (some (273804165120, [(37, (.one .bool))])) (.region [] (.ops 5 (.split 34 (.ops 3 .done) (.skips 2 (.ops 1 .done))))) (.cond none .leaf .leaf)) (.seq none (.block (.region [] (.ops 10 .done))) (.region [] (.ops 3 .done))))))) (.seq none (.region [] (.ops 5 .done)) (.seq none (.region [] (.ops 16 .done)) (.seq none (.seq none (.region [] (.ops 2 .done)) (.cond none (.seq none (.region [] (.ops 1 .done)) .leaf) .leaf)) (.seq none (.region [] (.ops 5 .done)) (.seq none (.region [] (.ops 5 .done)) (.seq none (.region [] (.ops 8 .done)) (.seq none (.region [] (.ops 11 .done)) (.seq none (.seq none (.region [] (.ops 6 .done)) (.cond none (.seq none (.region [] (.ops 1 .done)) .leaf) .leaf)) (.seq none (.region [] (.ops 2 .done)) (.seq (some (9824292151768777861599458230272, [(23, (.one (.int .i64)))])) (.seq none (.region [] (.ops 2 .done)) (.cond none (.region [] (.ops 4 .done)) .leaf)) (.seq none (.region [] (.ops 10 .done)) (.seq none (.seq none (.region [] (.ops 8 .done)) (.cond none (.seq none (.region [] (.ops 1 .done)) .leaf) .leaf)) (.seq none (.region [] (.ops 2 .done)) (.seq (some (19938419936773738093557105904221945856, [(24, (.one (.int .i64)))])) (.seq none (.region [] (.ops 2 .done)) (.cond none (.region [] (.ops 3 .done)) .leaf)) (.seq none (.region [] (.ops 10 .done)) (.seq none (.seq none (.region [] (.ops 6 .done)) (.cond none (.seq none (.region [] (.ops 1 .done)) .leaf) .leaf)) (.seq none (.seq none (.region [] (.ops 2 .done)) (.cond none (.seq none (.region [] (.ops 1 .done)) .leaf) .leaf)) (.seq none (.region [] (.ops 11 .done)) (.seq none (.seq none (.region [] (.ops 7 .done)) (.cond none (.seq none (.region [] (.ops 1 .done)) .leaf) .leaf)) (.seq none (.region [] (.ops 11 .done)) (.seq none (.region [] (.ops 7 .done)) .leaf))))))))))))))))))))))))))
noncomputable def h13 : Hint := (.seq none (.region [] (.ops 1 .done)) (.seq none (.region [] (.ops 2 .done)) (.seq none (.region [] (.ops 6 .done)) (.seq none (.region [] (.ops 3 .done)) (.seq none (.region [] (.ops 1 .done)) (.seq (some (18446744056529911808, [(15, (.one .sl))])) (.seq none (.region [] (.ops 1 .done)) (.block (.loop 18446744056529911808 [(15, (.one .sl)), (16, (.one (.int .i64)))] (.seq none (.seq (some (4380866641920, [(41, (.one .bool))])) (.region [] (.ops 5 (.split 38 (.ops 3 .done) (.skips 2 (.ops 1 .done))))) (.cond none .leaf .leaf)) (.seq none (.block (.seq none (.region [] (.ops 7 .done)) (.seq (some (1151795604700037120, [(15, (.one .sl))])) (.seq (some (142989288169013248, [(56, (.one .bool))])) (.region [] (.ops 4 (.split 53 (.skips 2 (.ops 1 .done)) (.ops 3 .done)))) (.cond none (.region [] (.ops 4 .done)) .leaf)) (.region [] (.ops 5 .done))))) (.region [] (.ops 3 .done))))))) (.seq none (.region [] (.ops 5 .done)) (.seq none (.region [] (.ops 17 .done)) (.seq none (.seq none (.region [] (.ops 2 .done)) (.cond none (.seq none (.region [] (.ops 1 .done)) .leaf) .leaf)) (.seq none (.region [] (.ops 5 .done)) (.seq none (.region [] (.ops 6 .done)) (.seq none (.region [] (.ops 11 .done)) (.seq none (.region [] (.ops 12 .done)) (.seq none (.seq none (.region [] (.ops 8 .done)) (.cond none (.seq none (.region [] (.ops 1 .done)) .leaf) .leaf)) (.seq none (.region [] (.ops 11 .done)) (.seq none (.seq none (.region [] (.ops 6 .done)) (.cond none (.seq none (.region [] (.ops 1 .done)) .leaf) .leaf)) (.seq none (.region [] (.ops 11 .done)) (.seq none (.seq none (.region [] (.ops 7 .done)) (.cond none (.seq none (.region [] (.ops 1 .done)) .leaf) .leaf)) (.seq none (.region [] (.ops 12 .done)) (.seq none (.region [] (.ops 3 .done)) .leaf))))))))))))))))))))
noncomputable def F16 (a0 : (Int × Sl × Unit)) (K : ((Option Addr × Sl × Unit) × Bool × Unit) → World → Prop) : World → Prop :=
 newO (.cells #[(.int .i64 a0.1), (.slice a0.2.1.a a0.2.1.len a0.2.1.cap)] 24) fun b1 =>
 newO (.cells #[(.pointer none), (.slice none 0 0)] 28) fun b2 =>
 ld (.int .i64) (at0 b1) fun (x3 : Int) =>
 join (S := Sl × Unit) (fun J4 =>
 sloop (S := Sl × Int × Unit) (fun (s6 : Sl × Int × Unit) again7 =>
 join (S := Bool × Unit) (fun J8 =>
 ld (.sl) (⟨b1, 1, none⟩ : Addr) fun (x10 : Sl) =>
 sif (decide (s6.2.1 < ((x10.len : Nat) : Int))) (
 J8 ((decide (s6.2.1 < (50000 : Int))), ())) (
 J8 (false, ()))) fun (s9 : Bool × Unit) =>
 sif s9.1 (
 ld (.sl) (⟨b1, 1, none⟩ : Addr) fun (x11 : Sl) =>
 ix x11.a x11.len s6.2.1 fun p12 =>
 ld (.int .u8) (p12.add (scaled (Int.toNat s6.2.1) 1)) fun (x13 : Int) =>
 newO (.cells #[(.int .u8 x13)] 5) fun b14 =>
 rawT Tryz.prog (.one (.one .sl)) (Builtin.append_ #[22, 22] 22 #[(.slice s6.1.a s6.1.len s6.1.cap), (.slice (some (at0 b14)) 1 1)]) fun (x15 : Sl) =>
 again7 (x15, (IntKind.wrap .i64 (s6.2.1 + (1 : Int))), ())) (
 J4 (s6.1, ()))) (⟨none, 0, 0⟩, (0 : Int), ())) fun (s5 : Sl × Unit) =>
 callT Tryz.prog 34 #[(.int .i64 (IntKind.wrap .i64 ((1 : Int) + (IntKind.wrap .i64 ((BitVec.toNat (BitVec.ofInt (IntKind.bits .i64) x3 &&& BitVec.ofInt (IntKind.bits .i64) (3 : Int)) : Nat) : Int))))), (.slice s5.1.a s5.1.len s5.1.cap)] (.tup [(.one .sl), (.one (.int .i64))]) fun (x16 : (Sl × Int × Unit)) =>
 callT Tryz.prog 35 #[(.int .i64 (IntKind.wrap .i64 ((1 : Int) + (IntKind.wrap .i64 ((BitVec.toNat (BitVec.ofInt (IntKind.bits .i64) x3 &&& BitVec.ofInt (IntKind.bits .i64) (3 : Int)) : Nat) : Int))))), (.slice s5.1.a s5.1.len s5.1.cap), (.int .i64 (65536 : Int))] (.tup [(.one .ptr), (.one (.int .i64))]) fun (x17 : (Option Addr × Int × Unit)) =>
 join (S := Bool × Unit) (fun J18 =>
 sif (Option.isNone x17.1) (
 J18 (true, ())) (
 J18 ((x17.2.1 != (0 : Int)), ()))) fun (s19 : Bool × Unit) =>
 sif s19.1 (
 aggSt (at0 b2) (.agg #[(.pointer none), (.slice none 0 0)]) 2 <|
 lds c28 (at0 b2) fun (x20 : (Option Addr × Sl × Unit)) =>
 K (x20, false, ())) (
 callT Tryz.prog 36 #[(.pointer x17.1), (.slice x16.1.a x16.1.len x16.1.cap)] (.one (.one .bool)) fun (x21 : Bool) =>
 aggSt (at0 b2) (.agg #[(.pointer x17.1), (.slice x16.1.a x16.1.len x16.1.cap)]) 2 <|
 lds c28 (at0 b2) fun (x22 : (Option Addr × Sl × Unit)) =>
 K (x22, x21, ()))
noncomputable def h16 : Hint := (.seq none (.region [] (.ops 3 .done)) (.seq none (.region [] (.ops 5 .done)) (.seq none (.region [] (.ops 1 .done)) (.seq (some (17179836512, [(5, (.one .sl))])) (.seq none (.region [] (.ops 1 .done)) (.block (.loop 17179836512 [(5, (.one .sl)), (6, (.one (.int .i64)))] (.seq none (.seq (some (16744448, [(23, (.one .bool))])) (.region [] (.ops 6 (.split 20 (.ops 3 .done) (.skips 2 (.ops 1 .done))))) (.cond none .leaf .leaf)) (.seq none (.block (.region [] (.ops 9 .done))) (.region [] (.ops 3 .done))))))) (.seq none (.region [] (.ops 8 .done)) (.seq none (.region [] (.ops 8 .done)) (.seq none (.seq (some (4433230883192832, [(51, (.one .bool))])) (.region [] (.ops 3 (.split 48 (.skips 2 (.ops 1 .done)) (.ops 3 .done)))) (.cond none (.seq none (.region [] (.ops 3 .done)) .leaf) .leaf)) (.seq none (.region [] (.ops 8 .done)) .leaf))))))))
theorem F16_tie (a0 : (Int × Sl × Unit)) (K : ((Option Addr × Sl × Unit) × Bool × Unit) → World → Prop) : vcgF tab Tryz.prog Tryz.f16 h16 [(.agg (Cells.vals c24 a0).toArray)] (.tup [(.agg c28), (.one .bool)]) K = F16 a0 K := by kernel_rfl
theorem F16_calls {a0 : (Int × Sl × Unit)} {K : ((Option Addr × Sl × Unit) × Bool × Unit) → World → Prop} {w : World} (h : F16 a0 K w) : callT Tryz.prog 16 #[(.agg (Cells.vals c24 a0).toArray)] (.tup [(.agg c28), (.one .bool)]) K w :=
  vcgF_sound tabOk Tryz.func16 h16 [(.agg (Cells.vals c24 a0).toArray)] (.tup [(.agg c28), (.one .bool)]) K w (Eq.mpr (congrFun (F16_tie a0 K) w) h)
noncomputable def F17 (a0 : Int) (K : Bool → World → Prop) : World → Prop :=
 newO (.cells #[(.int .u8 (40 : Int)), (.int .u8 (34 : Int)), (.int .u8 (120 : Int)), (.int .u8 (34 : Int)), (.int .u8 (41 : Int))] 5) fun b1 =>
 rawT Tryz.prog (.one (.one .sl)) (convert 22 22 (.slice (some (at0 b1)) 5 5)) fun x2 =>
 callT Tryz.prog 16 #[(.agg #[(.int .i64 (0 : Int)), (.slice x2.a x2.len x2.cap)])] (.tup [(.agg c28), (.one .bool)]) fun (x3 : ((Option Addr × Sl × Unit) × Bool × Unit)) =>
 newO (.cells #[(.pointer none), (.slice none 0 0)] 28) fun b4 =>
 aggSt (at0 b4) (.agg (Cells.vals c28 x3.1).toArray) 2 <|
 sif (!x3.2.1) (
 K false) (
 newO (.cells #[(.int .i64 (0 : Int)), (.int .i64 (0 : Int)), (.int .i64 (0 : Int))] 34) fun b5 =>
 join (S := Int × Unit) (fun J6 =>
 sif (a0 == (1 : Int)) (
 ld (.ptr) (at0 b4) fun (x8 : Option Addr) =>
 callT Tryz.prog 29 #[(.pointer x8), (.int .i64 (2 : Int)), (.agg #[(.int .i64 (61 : Int)), (.int .i64 (0 : Int)), (.int .i64 (0 : Int))])] (.tup [(.agg c34), (.one (.int .i64))]) fun (x9 : ((Int × Int × Int × Unit) × Int × Unit)) =>
 aggSt (at0 b5) (.agg (Cells.vals c34 x9.1).toArray) 3 <|
 J6 (x9.2.1, ())) (
 sif (a0 == (2 : Int)) (
 ld (.ptr) (at0 b4) fun (x10 : Option Addr) =>
 callT Tryz.prog 31 #[(.pointer x10), (.int .i64 (2 : Int)), (.agg #[(.int .i64 (65 : Int)), (.int .i64 (0 : Int)), (.int .i64 (34 : Int))])] (.tup [(.agg c34), (.one (.int .i64))]) fun (x11 : ((Int × Int × Int × Unit) × Int × Unit)) =>
 aggSt (at0 b5) (.agg (Cells.vals c34 x11.1).toArray) 3 <|
 J6 (x11.2.1, ())) (
 sif (a0 == (3 : Int)) (
 ld (.ptr) (at0 b4) fun (x12 : Option Addr) =>
 callT Tryz.prog 19 #[(.pointer x12), (.int .i64 (2 : Int)), (.agg #[(.int .i64 (67 : Int)), (.int .i64 (0 : Int)), (.int .i64 (40 : Int))])] (.tup [(.agg c34), (.one (.int .i64))]) fun (x13 : ((Int × Int × Int × Unit) × Int × Unit)) =>
 aggSt (at0 b5) (.agg (Cells.vals c34 x13.1).toArray) 3 <|
 sif (x13.2.1 == (0 : Int)) (
 ld (.int .i64) (at0 b5) fun (x14 : Int) =>
 sif (x14 == (1 : Int)) (
 ld (.int .i64) (⟨b5, 1, none⟩ : Addr) fun (x15 : Int) =>
 K (x15 == (4 : Int))) (
 K false)) (
 K false)) (
 sif (a0 == (4 : Int)) (
 ld (.ptr) (at0 b4) fun (x16 : Option Addr) =>
 callT Tryz.prog 33 #[(.pointer x16), (.int .i64 (2 : Int)), (.agg #[(.int .i64 (69 : Int)), (.int .i64 (0 : Int)), (.int .i64 (0 : Int))])] (.tup [(.agg c34), (.one (.int .i64))]) fun (x17 : ((Int × Int × Int × Unit) × Int × Unit)) =>
 aggSt (at0 b5) (.agg (Cells.vals c34 x17.1).toArray) 3 <|
 sif (x17.2.1 == (0 : Int)) (
 ld (.int .i64) (⟨b5, 2, none⟩ : Addr) fun (x18 : Int) =>
 sif (x18 == (1 : Int)) (
 ld (.int .i64) (⟨b5, 1, none⟩ : Addr) fun (x19 : Int) =>
 K (x19 == (5 : Int))) (
 K false)) (
 K false)) (
 sif (a0 == (5 : Int)) (
 ld (.ptr) (at0 b4) fun (x20 : Option Addr) =>
 callT Tryz.prog 20 #[(.pointer x20), (.int .i64 (2 : Int)), (.agg #[(.int .i64 (61 : Int)), (.int .i64 (0 : Int)), (.int .i64 (0 : Int))])] (.tup [(.agg c34), (.one (.int .i64))]) fun (x21 : ((Int × Int × Int × Unit) × Int × Unit)) =>
 aggSt (at0 b5) (.agg (Cells.vals c34 x21.1).toArray) 3 <|
 J6 (x21.2.1, ())) (
 J6 ((0 : Int), ()))))))) fun (s7 : Int × Unit) =>
 sif (s7.1 == (0 : Int)) (
 ld (.int .i64) (at0 b5) fun (x22 : Int) =>
 sif (x22 == (2 : Int)) (
 ld (.int .i64) (⟨b5, 1, none⟩ : Addr) fun (x23 : Int) =>
 sif (x23 == (3 : Int)) (
 ld (.int .i64) (⟨b5, 2, none⟩ : Addr) fun (x24 : Int) =>
 K (x24 == (0 : Int))) (
 K false)) (
 K false)) (
 K false))
noncomputable def h17 : Hint := (.seq none (.region [] (.ops 1 .done)) (.seq none (.region [] (.ops 10 .done)) (.seq none (.seq none (.region [] (.ops 2 .done)) (.cond none (.seq none (.region [] (.ops 1 .done)) .leaf) .leaf)) (.seq none (.region [] (.ops 1 .done)) (.seq none (.region [] (.ops 1 .done)) (.seq (some (77371252455336267181129796, [(6, (.one (.int .i64)))])) (.seq none (.region [] (.ops 1 .done)) (.block (.seq none (.region [] (.ops 2 .done)) (.cond none (.region [] (.ops 9 .done)) (.seq none (.region [] (.ops 2 .done)) (.cond none (.region [] (.ops 9 .done)) (.seq none (.region [] (.ops 2 .done)) (.cond none (.seq none (.region [] (.ops 9 .done)) (.seq none (.region [] (.ops 3 (.split 46 (.ops 5 (.split 51 (.ops 5 .done) (.skips 3 (.ops 2 .done)))) (.skips 3 (.ops 2 (.skips 3 (.ops 2 .done))))))) .leaf)) (.seq none (.region [] (.ops 2 .done)) (.cond none (.seq none (.region [] (.ops 9 .done)) (.seq none (.region [] (.ops 3 (.split 67 (.ops 5 (.split 72 (.ops 5 .done) (.skips 3 (.ops 2 .done)))) (.skips 3 (.ops 2 (.skips 3 (.ops 2 .done))))))) .leaf)) (.seq none (.region [] (.ops 2 .done)) (.cond none (.region [] (.ops 9 .done)) .leaf)))))))))))) (.seq none (.region [] (.ops 3 (.split 88 (.ops 5 (.split 93 (.ops 5 (.split 98 (.ops 5 .done) (.skips 3 (.ops 2 .done)))) (.skips 3 (.ops 2 (.skips 3 (.ops 2 .done)))))) (.skips 3 (.ops 2 (.skips 3 (.ops 2 (.skips 3 (.ops 2 .done))))))))) .leaf)))))))
theorem F17_tie (a0 : Int) (K : Bool → World → Prop) : vcgF tab Tryz.prog Tryz.f17 h17 [(.int .i64 a0)] (.one (.one .bool)) K = F17 a0 K := by kernel_rfl
theorem F17_calls {a0 : Int} {K : Bool → World → Prop} {w : World} (h : F17 a0 K w) : callT Tryz.prog 17 #[(.int .i64 a0)] (.one (.one .bool)) K w :=
  vcgF_sound tabOk Tryz.func17 h17 [(.int .i64 a0)] (.one (.one .bool)) K w (Eq.mpr (congrFun (F17_tie a0 K) w) h)
noncomputable def F18 (a0 : Int) (a1 : Int) (K : Int → World → Prop) : World → Prop :=
 join (S := Int × Unit) (fun J1 =>
 sif (decide (a0 < (0 : Int))) (
 J1 ((IntKind.wrap .i64 (0 - (IntKind.wrap .i64 (a0 + (1 : Int))))), ())) (
 J1 (a0, ()))) fun (s2 : Int × Unit) =>
 chk ((IntKind.wrap .i64 (a1 + (1 : Int))) ≠ 0) <|
 K (Int.tmod s2.1 (IntKind.wrap .i64 (a1 + (1 : Int))))
noncomputable def h18 : Hint := (.seq none (.region [] (.ops 1 .done)) (.seq (some (993, [(0, (.one (.int .i64)))])) (.seq none (.region [] (.ops 2 .done)) (.cond none (.region [] (.ops 4 .done)) .leaf)) (.seq none (.region [] (.ops 5 .done)) .leaf)))
theorem F18_tie (a0 : Int) (a1 : Int) (K : Int → World → Prop) : vcgF tab Tryz.prog Tryz.f18 h18 [(.int .i64 a0), (.int .i64 a1)] (.one (.one (.int .i64))) K = F18 a0 a1 K := by kernel_rfl
theorem F18_calls {a0 : Int} {a1 : Int} {K : Int → World → Prop} {w : World} (h : F18 a0 a1 K w) : callT Tryz.prog 18 #[(.int .i64 a0), (.int .i64 a1)] (.one (.one (.int .i64))) K w :=
  vcgF_sound tabOk Tryz.func18 h18 [(.int .i64 a0), (.int .i64 a1)] (.one (.one (.int .i64))) K w (Eq.mpr (congrFun (F18_tie a0 a1 K) w) h)
noncomputable def F36 (a0 : Option Addr) (a1 : Sl) (K : Bool → World → Prop) : World → Prop :=
 join (S := Unit) (fun J1 =>
 sloop (S := Int × Int × Unit) (fun (s3 : Int × Int × Unit) again4 =>
 sif (decide (s3.2.1 < ((a1.len : Nat) : Int))) (
 join (S := Int × Unit) (fun J5 =>
 join (S := Bool × Unit) (fun J7 =>
 ix a1.a a1.len s3.2.1 fun p9 =>
 ld (.int .i64) (p9.add (scaled (Int.toNat s3.2.1) 1)) fun (x10 : Int) =>
 sif (x10 == (10 : Int)) (
 J7 (true, ())) (
 ix a1.a a1.len s3.2.1 fun p11 =>
 ld (.int .i64) (p11.add (scaled (Int.toNat s3.2.1) 1)) fun (x12 : Int) =>
 sif (x12 == (13 : Int)) (
 sif ((IntKind.wrap .i64 (s3.2.1 + (1 : Int))) == ((a1.len : Nat) : Int)) (
 J7 (true, ())) (
 ix a1.a a1.len (IntKind.wrap .i64 (s3.2.1 + (1 : Int))) fun p13 =>
 ld (.int .i64) (p13.add (scaled (Int.toNat (IntKind.wrap .i64 (s3.2.1 + (1 : Int)))) 1)) fun (x14 : Int) =>
 J7 ((x14 != (10 : Int)), ()))) (
 J7 (false, ())))) fun (s8 : Bool × Unit) =>
 sif s8.1 (
 join (S := Bool × Unit) (fun J15 =>
 callT Tryz.prog 66 #[(.pointer a0), (.int .i64 (IntKind.wrap .i64 (s3.2.1 + (1 : Int))))] (.one (.one (.int .i64))) fun (x17 : Int) =>
 sif (x17 != (IntKind.wrap .i64 (s3.1 + (1 : Int)))) (
 J15 (true, ())) (
 callT Tryz.prog 67 #[(.pointer a0), (.int .i64 (IntKind.wrap .i64 (s3.1 + (1 : Int))))] (.one (.one (.int .i64))) fun (x18 : Int) =>
 J15 ((x18 != (IntKind.wrap .i64 (s3.2.1 + (1 : Int)))), ()))) fun (s16 : Bool × Unit) =>
 sif s16.1 (
 K false) (
 J5 ((IntKind.wrap .i64 (s3.1 + (1 : Int))), ()))) (
 J5 (s3.1, ()))) fun (s6 : Int × Unit) =>
 again4 (s6.1, (IntKind.wrap .i64 (s3.2.1 + (1 : Int))), ())) (
 J1 ())) ((0 : Int), (0 : Int), ())) fun (s2 : Unit) =>
 K true
noncomputable def h36 : Hint := (.seq none (.region [] (.ops 1 .done)) (.seq none (.region [] (.ops 1 .done)) (.seq (some (72057594037927920, [])) (.seq none (.region [] (.ops 1 .done)) (.block (.loop 72057594037927920 [(5, (.one (.int .i64))), (6, (.one (.int .i64)))] (.seq none (.seq none (.region [] (.ops 4 .done)) (.cond none .leaf .leaf)) (.seq (some (72057594037919792, [(5, (.one (.int .i64)))])) (.block (.seq (some (1099511619584, [(39, (.one .bool))])) (.region [] (.ops 6 (.split 18 (.skips 20 (.ops 1 .done)) (.ops 6 (.split 24 (.ops 6 (.split 30 (.skips 6 (.ops 3 .done)) (.ops 9 .done))) (.skips 13 (.ops 2 .done))))))) (.cond none (.seq none (.region [] (.ops 3 .done)) (.seq (some (72053195991416832, [(55, (.one .bool))])) (.region [] (.ops 7 (.split 48 (.skips 6 (.ops 1 .done)) (.ops 7 .done)))) (.cond none (.seq none (.region [] (.ops 1 .done)) .leaf) .leaf))) .leaf))) (.region [] (.ops 3 .done))))))) (.seq none (.region [] (.ops 1 .done)) .leaf))))
theorem F36_tie (a0 : Option Addr) (a1 : Sl) (K : Bool → World → Prop) : vcgF tab Tryz.prog Tryz.f36 h36 [(.pointer a0), (.slice a1.a a1.len a1.cap)] (.one (.one .bool)) K = F36 a0 a1 K := by kernel_rfl
theorem F36_calls {a0 : Option Addr} {a1 : Sl} {K : Bool → World → Prop} {w : World} (h : F36 a0 a1 K w) : callT Tryz.prog 36 #[(.pointer a0), (.slice a1.a a1.len a1.cap)] (.one (.one .bool)) K w :=
  vcgF_sound tabOk Tryz.func36 h36 [(.pointer a0), (.slice a1.a a1.len a1.cap)] (.one (.one .bool)) K w (Eq.mpr (congrFun (F36_tie a0 a1 K) w) h)
end Go.Proofs.YtabcpghhfeplaaaGreat
set_option linter.unusedSimpArgs false
set_option linter.unusedVariables false
set_option maxRecDepth 100000
namespace Go.Proofs.YtabcpghhfeplaaaGreat
open Go Go.Vx Cdc Trx Gly Clu Lns Obx
section
variable {w w' : World} {S : Nat → Prop} {p : Nat} {e : Enc} {lim na : Nat} {O : Nat → Prop} {M : Parts}
abbrev In64 (x : Int) : Prop := -(2 ^ 63) ≤ x ∧ x < 2 ^ 63
def within (x : Int) (n : Nat) : Nat := (if x < 0 then -(x + 1) else x).toNat % (n + 1)
theorem within_le (x : Int) (n : Nat) : within x n ≤ n := by have := Nat.mod_lt (if x < 0 then -(x + 1) else x).toNat (show 0 < n + 1 by omega); unfold within; omega
theorem within_call {x : Int} {n : Nat} (hx : In64 x) (hn : n < 2 ^ 62) {K : Int → World → Prop} (hK : K ((within x n : Nat) : Int) w) : callT Tryz.prog 18 #[.int .i64 x, .int .i64 (n : Int)] (.one (.one (.int .i64))) K w := by
  refine F18_calls ?_
  unfold F18
  have ew : IntKind.wrap .i64 ((n : Int) + 1) = ((n + 1 : Nat) : Int) := by rw [wrap64 (by omega) (by omega)]; omega
  rw [ew]
  refine join_r (fun y W => y = ((((if x < 0 then -(x + 1) else x).toNat : Nat) : Int), ()) ∧ w = W) ?_ ?_
  · refine sif_r (fun h => ⟨?_, rfl⟩) (fun h => ⟨?_, rfl⟩)
    · simp only [decide_eq_true_eq] at h
      rw [if_pos h, wrap64 (a := x + 1) (by omega) (by omega), wrap64 (by omega) (by omega)]
      congr 1; omega
    · simp only [decide_eq_false_iff_not] at h
      rw [if_neg h]
      congr 1; omega
  rintro _ _ ⟨rfl, rfl⟩
  refine chk_r (by omega) ?_
  rw [Int.tmod_eq_emod_of_nonneg (by omega)]
  exact hK
theorem sk_isb {A : List Int} {i : Nat} (h : isb A i = true) : sk A (nb A i + 1) = some (i + 1) := by
  have hi := isb_lt h
  have hn : nb A (i + 1) = nb A i + 1 := by rw [nb_succ, h]; rfl
  have hle : nb A i + 1 ≤ brs A := by rw [← hn, brs_nb]; exact nb_mono A _ _ (by omega)
  obtain ⟨m, hm⟩ := sk_ok hle
  obtain ⟨_, _, h3, h4⟩ := sk_get hm
  rw [hm]
  have h1 : ¬ i + 1 < m := fun hc => by have := h4 _ hc; omega
  have h2 : ¬ m < i + 1 := fun hc => by have := nb_mono A m i (by omega); omega
  congr 1; omega
theorem lined_call {s : Sl} {t : TypeId} (h : Txt w p e lim na O M) (hs : SlIn w s t 1 (iv (atoms (aOf e M)))) {K : Bool → World → Prop} (hK : ∀ w', Ext w w' → K true w') :
    callT Tryz.prog 36 #[.pointer (some (at0 p)), .slice s.a s.len s.cap] (.one (.one .bool)) K w := by
  refine F36_calls ?_
  unfold F36
  have few := h.few; have lims := h.lims
  have hal := hal e M
  generalize hA : atoms (aOf e M) = A at *
  have hlen : A.length = s.len := by have := hs.len1; rwa [List.length_map] at this
  refine join_r (fun _ W => Ext w W) ?_ (fun _ W h => hK W h)
  refine sloop_r (fun x W => ∃ i : Nat, i ≤ A.length ∧ x = (((nb A i : Nat) : Int), (i : Int), ()) ∧ Ext w W) (fun x _ => ((A.length : Int) - x.2.1).toNat) ⟨0, Nat.zero_le _, by rw [nb_zero]; rfl, Ext.refl w⟩ ?_
  rintro _ W ⟨i, hi, rfl, e1⟩
  refine sif_r (fun hc => ?_) (fun _ => e1)
  simp only [decide_eq_true_eq] at hc
  have hil : i < A.length := by omega
  obtain ⟨a, ha⟩ : ∃ a, A[i]? = some a := ⟨_, List.getElem?_eq_getElem hil⟩
  have hnl := nb_le A i
  have ew : IntKind.wrap .i64 ((i : Int) + 1) = ((i + 1 : Nat) : Int) := by rw [wrap64 (by omega) (by omega)]; omega
  have ewn : IntKind.wrap .i64 (((nb A i : Nat) : Int) + 1) = ((nb A i + 1 : Nat) : Int) := by rw [wrap64 (by omega) (by omega)]; omega
  rw [ew, ewn]
  have hs1 := hs.ext e1
  have rd : ∀ {K : Addr → Int → World → Prop}, (∀ p, K p a W) → ix s.a s.len (i : Int) (fun p => ld (.int .i64) (p.add (scaled (Int.toNat (i : Int)) 1)) (K p)) W := fun hk => ix_ld (c := .int .i64) (xs := A) hs1 (by omega) (x := a) (by rw [Int.toNat_natCast]; exact ha) hk
  refine join_r (fun x W' => x = (((nb A (i + 1) : Nat) : Int), ()) ∧ Ext w W') ?_ ?_
  · refine join_r (fun x W' => x = (isb A i, ()) ∧ W = W') ?_ ?_
    · refine rd fun p1 => sif_r (fun h10 => ⟨tupb ?_, rfl⟩) (fun h10 => rd fun p2 => sif_r (fun h13 => sif_r (fun he => ⟨tupb ?_, rfl⟩) (fun he => ?_)) (fun h13 => ⟨tupb ?_, rfl⟩))
      all_goals simp only [beq_iff_eq, beq_eq_false_iff_ne, ne_eq, true_iff, Bool.false_eq_true, false_iff] at *
      · exact (isb_iff ha).2 (.inl h10)
      · exact (isb_iff ha).2 (.inr ⟨h13, by rw [List.getElem?_eq_none (by omega)]; intro h; cases h⟩)
      · obtain ⟨b, hb⟩ : ∃ b, A[i + 1]? = some b := ⟨_, List.getElem?_eq_getElem (by omega)⟩
        refine ix_ld (c := .int .i64) (xs := A) hs1 (by omega) (x := b) (by rw [Int.toNat_natCast]; exact hb) fun p3 => ⟨tupb ?_, rfl⟩
        rw [isb_iff ha, hb, bne_iff_ne, ne_eq, ne_eq, Option.some.injEq]
        exact ⟨fun h => .inr ⟨h13, h⟩, fun h => h.elim (fun h => absurd h h10) fun h => h.2⟩
      · rw [isb_iff ha]
        exact fun h => h.elim h10 fun h => h13 h.1
    rintro _ _ ⟨rfl, rfl⟩
    refine sif_r (fun hb => ?_) (fun hb => ?_)
    · have hb : isb A i = true := hb
      have hn : nb A (i + 1) = nb A i + 1 := by rw [nb_succ, hb]; rfl
      refine join_r (fun x W' => x = (false, ()) ∧ Ext w W') ?_ ?_
      · refine breaks_call (h.ext e1) fun w2 e2 => ?_
        rw [hA, Int.toNat_natCast, hn]
        refine sif_r (fun h => by simp at h) (fun _ => seek_call (h.ext (e1.trans e2)) fun w3 e3 => ⟨?_, (e1.trans e2).trans e3⟩)
        rw [hA, skI_nat, sk_isb hb]
        refine tupb ?_
        simp
      rintro _ w4 ⟨rfl, e4⟩
      refine sif_false ⟨?_, e4⟩
      rw [hn]
    · have hb : isb A i = false := hb
      have hn : nb A (i + 1) = nb A i := by rw [nb_succ, hb]; rfl
      exact ⟨by rw [hn], e1⟩
  · rintro _ W' ⟨rfl, e2⟩
    exact ⟨⟨i + 1, by omega, rfl, e2⟩, by dsimp only; omega⟩
theorem enc_of (x : Int) : ∃ e : Enc, IntKind.wrap .i64 ((1 : Int) + (IntKind.wrap .i64 ((BitVec.toNat (BitVec.ofInt (IntKind.bits .i64) x &&& BitVec.ofInt (IntKind.bits .i64) (3 : Int)) : Nat) : Int))) = e.num := by
  have h : BitVec.toNat (BitVec.ofInt (IntKind.bits .i64) x &&& BitVec.ofInt (IntKind.bits .i64) (3 : Int)) ≤ 3 := by
    rw [BitVec.toNat_and]
    exact Nat.le_trans Nat.and_le_right (by decide)
  generalize BitVec.toNat (BitVec.ofInt (IntKind.bits .i64) x &&& BitVec.ofInt (IntKind.bits .i64) (3 : Int)) = n at h
  match n, h with
  | 0, _ => exact ⟨.u8, by decide⟩
  | 1, _ => exact ⟨.le, by decide⟩
  | 2, _ => exact ⟨.be, by decide⟩
  | 3, _ => exact ⟨.l1, by decide⟩
theorem ix_byX {s : Sl} {l : Bs} {n : Int} {K : Addr → Int → World → Prop} (h : SlX w s 1 (bv l)) (h0 : 0 ≤ n) {b : UInt8} (hb : l[n.toNat]? = some b) (hK : ∀ p, K p (b.toNat : Int) w) :
    ix s.a s.len n (fun p => ld (.int .u8) (p.add (scaled (Int.toNat n) 1)) (K p)) w := by
  rw [bv_map] at h
  exact ix_ldX (c := .int .u8) (xs := l.map fun b => (b.toNat : Int)) h h0 (x := (b.toNat : Int)) (by rw [List.getElem?_map, hb]; rfl) hK
abbrev stT (enc : Int) (s : Sl) : Cells.T c24 := (enc, s, ())
structure Bth (w : World) (N p : Nat) (e : Enc) (O : Nat → Prop) (M : Parts) (s : Sl) : Prop where
  txt : Txt w p e 65536 0 O M
  lst : SlOwn w N s 3 1 (iv (atoms (aOf e M)))
  new : ∀ k, O k → N ≤ k
theorem opened_call {enc : Int} {s : Sl} {l : Bs} (hs : SlX w s 1 (bv l)) (hl : l.length < 2 ^ 60) {K : (Option Addr × Sl × Unit) × Bool × Unit → World → Prop}
    (hK : ∀ p e O M s' w', Bth w' w.heap.size p e O M s' → Ext w w' → (l.length ≤ 50000 → aOf e M = ats e l) → IntKind.wrap .i64 ((1 : Int) + (IntKind.wrap .i64 ((BitVec.toNat (BitVec.ofInt (IntKind.bits .i64) enc &&& BitVec.ofInt (IntKind.bits .i64) (3 : Int)) : Nat) : Int))) = e.num → K ((some (at0 p), s', ()), true, ()) w') :
    callT Tryz.prog 16 #[.agg (Cells.vals c24 (stT enc s)).toArray] (.tup [(.agg c28), (.one .bool)]) K w := by
  refine F16_calls (a0 := stT enc s) ?_
  unfold F16
  have hlen : l.length = s.len := by have := hs.len1; rwa [List.length_map] at this
  let Z : Obj := .cells #[.pointer none, .slice none 0 0] 28 (0, 0)
  let Q : Obj := .cells (Cells.vals c24 (stT enc s)).toArray 24 (0, 0)
  refine (St.start w).newO fun b1 w1 S1 e1 => S1.newO fun b2 w2 S2 e2 => ?_
  have S2 : St (fun _ => False) w w2 [(b2, Z), (b1, Q)] := S2
  refine S2.ld 1 rfl (x := enc) rfl ?_
  refine join_r (fun x W => ∃ m, m = min l.length 50000 ∧ SlOwn W w.heap.size x.1 5 1 (bv (l.take m)) ∧ St (fun _ => False) w W [(b2, Z), (b1, Q)]) ?_ ?_
  · refine sloop_r (fun x W => ∃ i : Nat, i ≤ l.length ∧ i ≤ 50000 ∧ x.2 = ((i : Int), ()) ∧ SlOwn W w2.heap.size x.1 5 1 (bv (l.take i)) ∧ St (fun _ => False) w W [(b2, Z), (b1, Q)] ∧ w2.heap.size ≤ W.heap.size) (fun x _ => ((l.length : Int) - x.2.1).toNat) ⟨0, Nat.zero_le _, Nat.zero_le _, rfl, SlOwn.nil _ _ _ _, S2, Nat.le_refl _⟩ ?_
    rintro ⟨r, _⟩ W ⟨i, hi, hi2, rfl, hr, SW, hW⟩
    dsimp only at hr ⊢
    have hrl := hr.len1
    rw [List.length_map, List.length_take] at hrl
    refine join_r (fun x W' => x = (decide (i < l.length ∧ i < 50000), ()) ∧ W = W') ?_ ?_
    · refine SW.ld 1 rfl (x := s) rfl (sif_r (fun h => ⟨tupb ?_, rfl⟩) (fun h => ⟨tupb ?_, rfl⟩))
      all_goals simp only [decide_eq_true_eq, decide_eq_false_iff_not, Bool.false_eq_true, false_iff] at *
      all_goals omega
    rintro _ _ ⟨rfl, rfl⟩
    refine sif_r (fun hc => ?_) (fun hc => ?_)
    · simp only [decide_eq_true_eq] at hc
      obtain ⟨b, hb⟩ : ∃ b, l[i]? = some b := ⟨_, List.getElem?_eq_getElem hc.1⟩
      have hsW : SlX W s 1 (bv l) := hs.ext SW.upd
      refine SW.ld 1 rfl (x := s) rfl (ix_byX hsW (by omega) (b := b) (by rw [Int.toNat_natCast]; exact hb) fun q => newO_r fun b14 w4 e4 n4 hb4 _ => ?_)
      have hbox : SlX w4 ⟨some (at0 b14), 1, 1⟩ 1 (bv [b]) := (SlIn.of_box n4 (n := 1) (sz := 1) rfl).x
      refine append_rx EBy EBy.ts_ (x := ⟨some (at0 b14), 1, 1⟩) (hr.ext e4) hbox (bv_one [b]) (by
        show (r.len + 1 + (r.len + 1) / 4 + 512) * 1 ≤ 2 ^ 48
        omega) (by have := e4.size; omega) fun r' w5 o5 l5 u5 k5 => ?_
      have ew : IntKind.wrap .i64 ((i : Int) + 1) = ((i + 1 : Nat) : Int) := by rw [wrap64 (by omega) (by omega)]; omega
      rw [ew]
      have e5 : bv (l.take i) ++ bv [b] = bv (l.take (i + 1)) := by rw [List.take_add_one, hb]; simp [bv]
      rw [e5] at o5
      refine ⟨⟨i + 1, by omega, by omega, rfl, o5, (SW.ext e4).fresh u5 (fun k hk => .inr ?_) (fun x hx hk => ?_), ?_⟩, by omega⟩
      · have := hr.blk_ge hk; have := S2.upd.size; omega
      · have h1 := hr.blk_ge hk
        have h2 := S2.lt x hx
        omega
      · have := e4.size; have := u5.size; omega
    · simp only [decide_eq_false_iff_not] at hc
      exact ⟨i, by omega, hr.mono S2.upd.size, SW⟩
  rintro ⟨d, _⟩ w3 ⟨m, hm, hd, S3⟩
  dsimp only at hd ⊢
  obtain ⟨e, he⟩ := enc_of enc
  rw [he]
  have hml : (l.take m).length ≤ 50000 := by rw [List.length_take]; omega
  refine decode_call (e := e) hd.in (by omega) fun a w4 o4 e4 => ?_
  refine open_call (e := e) (lim := 65536) (hd.in.ext e4) (by omega) (by decide) fun p O M w5 tx hM hB e5 hO => ?_
  have S5 := (S3.ext e4).ext e5
  have o5 := o4.ext e5
  rw [← hM] at o5
  refine join_r (fun x W => x = (false, ()) ∧ w5 = W) (sif_r (fun h => by simp at h) (fun _ => ⟨rfl, rfl⟩)) ?_
  rintro _ _ ⟨rfl, rfl⟩
  refine sif_false (lined_call tx o5.in fun w6 e6 => ?_)
  have S6 := S5.ext e6
  have h3 := S3.upd.size
  have h4 := e4.size
  refine S6.aggSt 0 rfl rfl rfl rfl fun w7 S7 u7 => S7.lds 0 (some (at0 p), a, ()) rfl (hK p e O M a w7 ⟨?_, ?_, fun k hk => ?_⟩ S7.upd (fun hlen => ?_) he)
  · refine (tx.ext e6).upd u7 (fun k hk hS => ?_) (NoTy.box (S6.at_ 0 rfl) (by decide))
    have := hO k hk
    have hb2 := S5.lt _ List.mem_cons_self
    have hb2' := S3.lt _ List.mem_cons_self
    simp only at hb2'
    omega
  · exact ((o5.ext e6).mono h3).box (S6.at_ 0 rfl) (by decide) u7
  · have := hO k hk; omega
  · rw [hM, List.take_of_length_le (by omega)]
end
end Go.Proofs.YtabcpghhfeplaaaGreat
set_option linter.unusedSimpArgs false
set_option linter.unusedVariables false
set_option maxRecDepth 100000
namespace Go.Proofs.YtabcpghhfeplaaaGreat
open Trx Gly Clu Lns Obx
namespace Obx
theorem is_iff {c : Cel} {a : Int} : c.is a = true ↔ c.alone = true ∧ c.atom = a := by unfold Cel.is; rw [Bool.and_eq_true, beq_iff_eq]
theorem cel_is {A : List Int} {m : Nat} {c : Cel} {a : Int} (h : (cels A 0)[m]? = some c) (hi : c.is a = true) : A[c.from_]? = some a ∧ c.to_ = c.from_ + 1 := by
  obtain ⟨i, j, _, _, h1, h2, h3, h4, _, _, h5, _, h6⟩ := (cels_ok h).ex
  obtain ⟨g1, g2⟩ := is_iff.1 hi
  have := h6.1 g1
  rw [h3, h4, Nat.zero_add, Nat.zero_add, h5, g2]
  exact ⟨rfl, this⟩
theorem pick_some {C : List Cel} {m n : Option Nat} {c d : Cel} (h : pick C m n = some (c, d)) : ∃ i j, m = some i ∧ n = some j ∧ C[i]? = some c ∧ C[j]? = some d := by
  cases m with
  | none => simp [pick] at h
  | some i =>
    cases n with
    | none => simp [pick] at h
    | some j =>
      unfold pick at h
      cases h1 : C[i]? with
      | none => simp [h1] at h
      | some x =>
        cases h2 : C[j]? with
        | none => simp [h1, h2] at h
        | some y =>
          simp only [h1, h2, Option.some.injEq, Prod.mk.injEq] at h
          obtain ⟨rfl, rfl⟩ := h
          exact ⟨i, j, rfl, rfl, h1, h2⟩
theorem brackets_nested {A : List Int} {at_ arg shut : Int} {k : Nat} {c d : Cel} (hk : 1 ≤ k) (h0 : 0 ≤ at_) (h : bracketsP (cels A 0) at_ arg shut (k + 1) = some (c, d)) :
    ∃ c' d', bracketsP (cels A 0) at_ arg shut k = some (c', d') ∧ c.from_ < c'.from_ ∧ d'.to_ < d.to_ ∧ (c'.from_ : Int) ≤ at_ ∧ at_ < (d'.to_ : Int) ∧ d.to_ ≤ A.length ∧
      A[c.from_]? = some arg ∧ A[c'.from_]? = some arg ∧ A[d.to_ - 1]? = some shut ∧ A[d'.to_ - 1]? = some shut := by
  unfold bracketsP at h ⊢
  dsimp only at h ⊢
  split at h
  · cases h
  rename_i hn
  rw [if_neg (by omega)]
  have hfl := firstI_le (cels A 0) at_
  obtain ⟨x, hx⟩ : ∃ x, (cels A 0)[firstI (cels A 0) at_]? = some x := ⟨_, List.getElem?_eq_getElem (by omega)⟩
  have hxat := firstI_spec.2 x hx
  rw [hx] at h ⊢
  simp only [Option.map_some, Option.getD_some] at h ⊢
  obtain ⟨i, j, h1, h2, hc, hd⟩ := pick_some h
  obtain ⟨i', g1, r1⟩ := nthL_less (walkI_sorted false (cels A 0).length _) hk h1
  obtain ⟨j', g2, r2⟩ := nthL_less (walkI_sorted true (cels A 0).length _) hk h2
  obtain ⟨m1, _, k1, a1⟩ := nthL_mem h1
  obtain ⟨m2, _, k2, a2⟩ := nthL_mem h2
  obtain ⟨n1, c', k3, a3⟩ := nthL_mem g1
  obtain ⟨n2, d', k4, a4⟩ := nthL_mem g2
  rw [hc] at k1; cases k1
  rw [hd] at k2; cases k2
  refine ⟨c', d', ?_, ?_⟩
  · rw [g1, g2]; unfold pick; dsimp only; rw [k3, k4]
  have w1 := walkI_mem n1
  have w2 := walkI_mem n2
  simp only [Bool.false_eq_true, if_false] at w1
  simp only [if_true] at w2
  have r1 : i < i' := r1
  have r2 : j' < j := r2
  have hxf : (x.from_ : Int) ≤ at_ := by
    rcases Nat.eq_zero_or_pos (firstI (cels A 0) at_) with hz | hz
    · rw [hz] at hx
      have := cels_first hx; omega
    · obtain ⟨y, hy⟩ : ∃ y, (cels A 0)[firstI (cels A 0) at_ - 1]? = some y := ⟨_, List.getElem?_eq_getElem (by omega)⟩
      have hyat := (firstI_spec (at_ := at_)).1 _ y (by omega) hy
      have := cels_next (m := firstI (cels A 0) at_ - 1) hy (by rw [show firstI (cels A 0) at_ - 1 + 1 = firstI (cels A 0) at_ by omega]; exact hx)
      omega
  have hi' : i' ≤ firstI (cels A 0) at_ := by split at w1 <;> omega
  have hj' : firstI (cels A 0) at_ ≤ j' := by split at w2 <;> omega
  have e1 : (c'.from_ : Int) ≤ at_ := by
    by_cases he : i' = firstI (cels A 0) at_
    · subst he; rw [hx] at k3; cases k3; exact hxf
    · have := cels_lt (show i' < firstI (cels A 0) at_ by omega) k3 hx; omega
  have e2 : at_ < (d'.to_ : Int) := by
    by_cases he : j' = firstI (cels A 0) at_
    · subst he; rw [hx] at k4; cases k4; exact hxat
    · have := cels_lt (show firstI (cels A 0) at_ < j' by omega) hx k4; omega
  have l1 := cels_lt r1 hc k3
  have l2 := cels_lt r2 k4 hd
  obtain ⟨q1, q2⟩ := cel_is hc a1
  obtain ⟨q3, q4⟩ := cel_is k3 a3
  obtain ⟨q5, q6⟩ := cel_is hd a2
  obtain ⟨q7, q8⟩ := cel_is k4 a4
  refine ⟨l1.2.1, l2.2.2, e1, e2, ?_, q1, q3, ?_, ?_⟩
  · have := (List.getElem?_eq_some_iff.1 q5).1; omega
  · rw [q6, Nat.add_sub_cancel]; exact q5
  · rw [q8, Nat.add_sub_cancel]; exact q7
end Obx
end Go.Proofs.YtabcpghhfeplaaaGreat
set_option linter.unusedSimpArgs false
set_option linter.unusedVariables false
set_option maxRecDepth 100000
namespace Go.Proofs.YtabcpghhfeplaaaGreat
open Go Go.Vx Cdc Trx Gly Clu Lns Obx
section
variable {w w' : World} {S : Nat → Prop} {p : Nat} {e : Enc} {lim na : Nat} {O : Nat → Prop} {M : Parts}
abbrev exB : Bs := [40, 34, 120, 34, 41]
abbrev exA : List Int := [40, 34, 120, 34, 41]
theorem ats_ex : atoms (ats .u8 exB) = exA := by
  have one : ∀ (b : UInt8) (r : Bs), b.toNat < 128 → ats .u8 (b :: r) = ((b.toNat : Int), 1) :: ats .u8 r := by
    intro b r hb
    have h1 : nx .u8 (b :: r) = ((b.toNat : Int), 1) := by
      have hbn : bnds b.toNat = (1, 0, 0) := by unfold bnds; rw [if_pos hb]
      have hr : rowOf (b :: r) = (1, 1) := by simp only [rowOf, hbn]; rw [if_pos (by decide)]
      show nx8 (b :: r) = _
      simp only [nx8, hr]
      rw [if_neg (by decide)]
      rfl
    rw [ats_cons .u8 (by simp), h1]; rfl
  rw [one _ _ (by decide), one _ _ (by decide), one _ _ (by decide), one _ _ (by decide), one _ _ (by decide), ats_nil]
  rfl
theorem litBytes {b n : Nat} {l : Bs} {c : Array Value} {K : Sl → World → Prop} (hb : w.heap[b]? = some (.cells c 5 (0, 0))) (hc : c.toList = bv l) (hn : n = l.length) (hw : ∀ w', SlX w' ⟨some (at0 b), n, n⟩ 1 (bv l) → Upd (fun k => k = b) w w' → K ⟨some (at0 b), n, n⟩ w') :
    rawT Tryz.prog (.one (.one .sl)) (convert 22 22 (.slice (some (at0 b)) n n)) K w := by
  subst hn
  refine lit_r i22_ok.und i5_ok.und hb fun w' fr hb' u => hw w' ?_ u
  have hs : c.size = l.length * 1 := by rw [← Array.length_toList, hc, List.length_map]; omega
  have := SlIn.of_box hb' (n := l.length) (sz := 1) hs
  rw [hc] at this
  exact this.x
theorem ex_blocks : blocksP exA 2 67 0 40 = ((1, 4, 0), 0) := by kernel_rfl
theorem fixed3_call {K : Bool → World → Prop} (hK : ∀ w', Ext w w' → K true w') : callT Tryz.prog 17 #[.int .i64 3] (.one (.one .bool)) K w := by
  refine F17_calls ?_
  unfold F17
  refine newO_r fun b1 w1 e1 n1 hb1 _ => litBytes (l := exB) n1 rfl rfl fun w2 hs u2 => ?_
  have e2 : Ext w w2 := e1.step u2 fun k hk => by omega
  refine opened_call (enc := 0) hs (by decide) fun p e O M s w3 hB e3 hM he => ?_
  have hen : e = .u8 := by
    have : (1 : Int) = e.num := he
    cases e <;> first | rfl | (exact absurd this (by decide))
  subst hen
  have hA : atoms (aOf .u8 M) = exA := by rw [hM (by decide), ats_ex]
  refine (St.start w3).newO' fun b4 w4 S4 e4 hb4 => S4.aggSt 0 rfl rfl rfl rfl fun w5 S5 u5 => ?_
  refine sif_false (S5.newO fun b5 w6 S6 e6 => join_r (fun _ _ => False) ?_ (fun _ _ h => h.elim))
  refine sif_false (sif_false (sif_true (S6.ld 1 rfl (x := some (at0 p)) rfl ?_)))
  refine blocks_call (kind := 67) (count := 0) (arg := 40) (hB.txt.ext S6.upd) (by decide) fun w7 e7 => ?_
  rw [hA, ex_blocks]
  refine (S6.ext e7).aggSt 0 rfl rfl rfl rfl fun w8 S8 u8 => ?_
  exact sif_true (S8.ld 0 rfl (x := (1 : Int)) rfl (sif_true (S8.ld 0 rfl (x := (4 : Int)) rfl (hK w8 ((e2.trans e3).trans S8.upd)))))
theorem nested_walk {enc at_ arg k : Int} {s : Sl} {l : Bs} (hs : SlX w s 1 (bv l)) (hl : l.length < 2 ^ 60) (h1 : In64 at_) (h2 : In64 arg) (h3 : In64 k) {K : Bool → World → Prop} (hK : ∀ w', Ext w w' → K true w') :
    callT Tryz.prog 3 #[.agg (Cells.vals c24 (stT enc s)).toArray, .int .i64 at_, .int .i64 arg, .int .i64 k] (.one (.one .bool)) K w := by
  refine F3_calls (a0 := stT enc s) ?_
  unfold F3
  refine (St.start w).newO fun b1 w1 S1 e1 => S1.lds 0 (stT enc s) rfl (opened_call (hs.ext e1) hl fun p e O M sa w2 hB e2 _ _ => ?_)
  have h0 := hB.txt; have lims := h0.lims; have few := h0.few
  have hal := hal e M
  generalize hA : atoms (aOf e M) = A at *
  have lst := hB.lst
  rw [hA] at lst
  have hsl : A.length = sa.len := by have := lst.len1; rwa [List.length_map] at this
  refine (S1.ext e2).newO' fun b4 w3 S3 e3 hb4 => S3.aggSt 0 rfl rfl rfl rfl fun w4 S4 u4 => ?_
  have x4 : Ext w2 w4 := e3.step u4 fun k hk => by omega
  refine join_r (fun x W => x = (false, ()) ∧ St (fun _ => False) w W [(b4, .cells #[.pointer (some (at0 p)), .slice sa.a sa.len sa.cap] 28 (0, 0)), (b1, .cells (Cells.vals c24 (stT enc s)).toArray 24 (0, 0))] ∧ Ext w2 W) (sif_false (fixed3_call fun w5 e5 => ⟨rfl, S4.ext e5, x4.trans e5⟩)) ?_
  rintro _ w5 ⟨rfl, S5, x5⟩
  refine sif_false (S5.newO fun b8 w6 S6 e6 => ?_)
  have x6 := x5.trans e6
  refine within_call (n := 3) h2 (by decide) ?_
  obtain ⟨ar, shut, har, hf⟩ : ∃ ar shut, ([40, 91, 123, 60] : List Int)[within arg 3]? = some ar ∧ fellow ar = some shut := by
    have := within_le arg 3
    match within arg 3, this with
    | 0, _ => exact ⟨_, _, rfl, rfl⟩
    | 1, _ => exact ⟨_, _, rfl, rfl⟩
    | 2, _ => exact ⟨_, _, rfl, rfl⟩
    | 3, _ => exact ⟨_, _, rfl, rfl⟩
  have hbox : SlIn w6 ⟨some (at0 b8), 4, 4⟩ 3 1 (iv [40, 91, 123, 60]) := SlIn.of_box (S6.at_ 0 rfl) (n := 4) (sz := 1) rfl
  refine ix_ld (c := .int .i64) (xs := [40, 91, 123, 60]) hbox (by omega) (x := ar) (by rw [Int.toNat_natCast]; exact har) fun q => ?_
  refine within_call (n := 3) h3 (by decide) (S6.ld 1 rfl (x := sa) rfl ?_)
  have hwk := within_le k 3
  generalize within k 3 = kk at *
  rw [← hsl]
  refine within_call (n := A.length) h1 (by omega) (S6.ld 1 rfl (x := some (at0 p)) rfl ?_)
  have hwa := within_le at_ A.length
  generalize within at_ A.length = ap at *
  have ew : IntKind.wrap .i64 ((2 : Int) + (kk : Int)) = ((kk + 1 + 1 : Nat) : Int) := by rw [wrap64 (by omega) (by omega)]; omega
  have ew1 : IntKind.wrap .i64 (((kk + 1 + 1 : Nat) : Int) - 1) = ((kk + 1 : Nat) : Int) := by rw [wrap64 (by omega) (by omega)]; omega
  rw [ew, ew1]
  have bp : ∀ q : Nat, 1 ≤ q → blocksP A (ap : Int) 68 (q : Int) ar = match bracketsP (cels A 0) (ap : Int) ar shut q with | none => ((0, 0, 0), 90) | some (c, d) => ((c.from_, d.to_, 0), 0) := by
    intro q hq
    have hck : checked A.length (ap : Int) 68 (q : Int) 67 68 = 0 := by unfold checked; rw [if_neg (by omega), if_neg (by omega)]
    have ht : times (q : Int) = q := by unfold times; omega
    unfold blocksP
    rw [hck, hf, ht]
    simp only [if_neg (by decide : ¬ (0 : Int) = 1), if_neg (by decide : ¬ (0 : Int) ≠ 0)]
    cases bracketsP (cels A 0) (ap : Int) ar shut q with
    | none => rfl
    | some cd => rfl
  refine blocks_call (kind := 68) (count := ((kk + 1 + 1 : Nat) : Int)) (arg := ar) (h0.ext x6) (by omega) fun w7 e7 => ?_
  rw [hA, bp _ (by omega)]
  have S7 := S6.ext e7
  have x7 := x6.trans e7
  cases hb : bracketsP (cels A 0) (ap : Int) ar shut (kk + 1 + 1) with
  | none =>
    refine S7.newO fun b17 w8 S8 e8 => S8.aggSt 0 rfl rfl rfl rfl fun w9 S9 u9 => ?_
    exact sif_true (hK w9 S9.upd)
  | some cd =>
    obtain ⟨c, d⟩ := cd
    obtain ⟨c', d', hb', f1, f2, f3, f4, f5, f6, f7, f8, f9⟩ := brackets_nested (by omega) (by omega) hb
    refine S7.newO' fun b17 w8 S8 e8 hb17 => S8.aggSt 0 rfl rfl rfl rfl fun w9 S9 u9 => ?_
    have x9 : Ext w2 w9 := (x7.trans e8).step u9 fun k hk => by have := x7.size; omega
    refine sif_false (S9.ld 2 rfl (x := some (at0 p)) rfl ?_)
    refine blocks_call (kind := 68) (count := ((kk + 1 : Nat) : Int)) (arg := ar) (h0.ext x9) (by omega) fun w10 e10 => ?_
    rw [hA, bp _ (by omega), hb']
    have x10 := x9.trans e10
    refine (S9.ext e10).newO' fun b20 w11 S11 e11 hb20 => S11.aggSt 0 rfl rfl rfl rfl fun w12 S12 u12 => S12.drew fun w13 S13 e13 _ => ?_
    have x13 : Ext w2 w13 := ((x10.trans e11).step u12 fun k hk => by have := x10.size; omega).trans e13
    have lst13 := lst.ext x13
    have g : ∀ {K : Bool → World → Prop} {b : Bool}, b = true → K true w13 → K b w13 := fun h hk => by subst h; exact hk
    have ei : IntKind.wrap .i64 ((d'.to_ : Int) - 1) = ((d'.to_ - 1 : Nat) : Int) := by rw [wrap64 (by omega) (by omega)]; omega
    have eo : IntKind.wrap .i64 ((d.to_ : Int) - 1) = ((d.to_ - 1 : Nat) : Int) := by rw [wrap64 (by omega) (by omega)]; omega
    have rd : ∀ {n : Nat} {a : Int} {K : Addr → Int → World → Prop}, A[n]? = some a → (∀ p, K p a w13) → ix sa.a sa.len (n : Int) (fun p => ld (.int .i64) (p.add (scaled (Int.toNat (n : Int)) 1)) (K p)) w13 := fun ha hk => ix_ld (c := .int .i64) (xs := A) lst13.in (by omega) (by rw [Int.toNat_natCast]; exact ha) hk
    have tr : ∀ {b : Bool} {X Y : World → Prop}, b = true → X w13 → sif b X Y w13 := fun hb hx => by subst hb; exact sif_true hx
    refine sif_true (S13.ld 1 rfl (x := (c.from_ : Int)) rfl (S13.ld 0 rfl (x := (c'.from_ : Int)) rfl (tr (decide_eq_true (by omega)) ?_)))
    refine S13.ld 0 rfl (x := (d'.to_ : Int)) rfl (S13.ld 1 rfl (x := (d.to_ : Int)) rfl (tr (decide_eq_true (by omega)) ?_))
    refine S13.ld 0 rfl (x := (c'.from_ : Int)) rfl (tr (decide_eq_true (by omega)) (S13.ld 0 rfl (x := (d'.to_ : Int)) rfl (tr (decide_eq_true (by omega)) ?_)))
    refine S13.ld 1 rfl (x := (d.to_ : Int)) rfl (S13.ld 3 rfl (x := sa) rfl (tr (decide_eq_true (by omega)) (S13.ld 1 rfl (x := (c.from_ : Int)) rfl (tr (decide_eq_true (by omega)) ?_))))
    refine S13.ld 3 rfl (x := sa) rfl (S13.ld 1 rfl (x := (c.from_ : Int)) rfl (rd f6 fun q1 => tr (by rw [beq_iff_eq]) ?_))
    refine S13.ld 3 rfl (x := sa) rfl (S13.ld 0 rfl (x := (c'.from_ : Int)) rfl (rd f7 fun q2 => tr (by rw [beq_iff_eq]) ?_))
    refine S13.ld 3 rfl (x := sa) rfl (S13.ld 0 rfl (x := (d'.to_ : Int)) rfl ?_)
    rw [ei]
    refine rd f9 fun q3 => S13.ld 3 rfl (x := sa) rfl (S13.ld 1 rfl (x := (d.to_ : Int)) rfl ?_)
    rw [eo]
    refine rd f8 fun q4 => ?_
    have := hK w13 S13.upd
    rwa [show (shut == shut) = true by rw [beq_iff_eq]]
end
end Go.Proofs.YtabcpghhfeplaaaGreat
set_option linter.unusedSimpArgs false
set_option linter.unusedVariables false
set_option maxRecDepth 100000
namespace Go.Proofs.YtabcpghhfeplaaaGreat
open Go Go.Vx Go.ChangeShapes Go.WideShapes Go.RowKit Cdc
theorem Tryz.own : ownKnob Tryz.prog.godebug = none := by kernel_rfl
theorem Tryz.laidOut : laidOutB Tryz.prog = true := by kernel_rfl
theorem ui : Tryz.prog.underlying 3 = some (.int .i64) := i3_ok.und
theorem ub : Tryz.prog.underlying 5 = some (.int .u8) := i5_ok.und
theorem u4 : Tryz.prog.underlying 4 = some .bool := i4_ok.und
theorem uBytes : Tryz.prog.underlying 22 = some (.slice 5) := i22_ok.und
theorem ci : Tryz.prog.cellsOf 3 = 1 := by kernel_rfl
theorem cby : Tryz.prog.cellsOf 5 = 1 := by kernel_rfl
theorem bby : Tryz.prog.bytesOf 5 = 1 := by kernel_rfl
theorem cbs : Tryz.prog.cellsOf 22 = 1 := by kernel_rfl
theorem cstart : Tryz.prog.cellsOf 24 = 2 := by kernel_rfl
theorem sStart : ∃ fs : Array Field, Tryz.prog.underlying 24 = some (.struct fs) ∧ fs.toList.map (fun f => (f.type, f.offset)) = [(3, 0), (22, 1)] := ⟨_, i24_ok.und, rfl⟩
theorem rows_of2 {cs : List Cell} {β : Type} {Q : Cells.T cs → β → Prop} : ∀ (rows : List (List Value)), (∀ r ∈ rows, ∃ x y, r = Cells.vals cs x ∧ Q x y) → ∃ (xs : List (Cells.T cs)) (ys : List β), rows.flatten = flat cs xs ∧ xs.length = rows.length ∧ xs.length = ys.length ∧ ∀ (i : Nat) x y, xs[i]? = some x → ys[i]? = some y → Q x y
  | [], _ => ⟨[], [], rfl, rfl, rfl, fun i x y hx => by simp at hx⟩
  | r :: rs, h => by
    obtain ⟨x, y, hx, hq⟩ := h r List.mem_cons_self
    obtain ⟨xs, ys, h1, h2, h3, h4⟩ := rows_of2 rs fun r' hr' => h r' (List.mem_cons_of_mem _ hr')
    refine ⟨x :: xs, y :: ys, ?_, by simp [h2], by simp [h3], fun i x' y' hx' hy' => ?_⟩
    · rw [List.flatten_cons, h1, hx]; rfl
    · match i with
      | 0 => cases hx'; cases hy'; exact hq
      | i + 1 => exact h4 i x' y' (by simpa using hx') (by simpa using hy')
structure LOp where
  who : Int
  kind : Int
  at_ : Int
  move : Int
  count : Int
  arg : Int
  put : List Int
structure LOp.In (w : World) (y : Cells.T c43) (o : LOp) : Prop where
  who : y.1 = o.who
  kind : y.2.1 = o.kind
  at_ : y.2.2.1 = o.at_
  move : y.2.2.2.1 = o.move
  count : y.2.2.2.2.1 = o.count
  arg : y.2.2.2.2.2.1 = o.arg
  put : SlX w y.2.2.2.2.2.2.1 1 (iv o.put)
  i1 : In64 o.who ∧ In64 o.kind ∧ In64 o.at_ ∧ In64 o.move ∧ In64 o.count ∧ In64 o.arg
  i2 : ∀ n ∈ o.put, In64 n
  len : o.put.length ≤ 2 ^ 44
  lt : ∀ k, y.2.2.2.2.2.2.1.blk k → y.2.2.2.2.2.2.1.len = 0 ∨ k < w.heap.size
structure LOp.All (w : World) (s : Sl) (ys : List (Cells.T c43)) (os : List LOp) : Prop where
  row : SlX w s 7 (flat c43 ys)
  len : ys.length = os.length
  few : os.length ≤ 2 ^ 42
  each : ∀ (i : Nat) y o, ys[i]? = some y → os[i]? = some o → o.In w y
theorem wf64 {n : Int} (h : (Lit.int .i64 n).wf = true) : In64 n := by
  have h1 : IntKind.min .i64 = -9223372036854775808 := rfl
  have h2 : IntKind.max .i64 = 9223372036854775807 := rfl
  simp [Lit.wf, h1, h2] at h
  unfold In64
  omega
section
variable {H : Type} {enc : TypeId × Value → H} {W : World} {base fuel : Nat} {held : Bool}
theorem open_fields {t : TypeId} {fs : Array Field} {L : List (TypeId × Nat)} {cs : List Value} {x : DataW H × List MemPlace} (hu : Tryz.prog.underlying t = some (.struct fs)) (hfs : fs.toList.map (fun f => (f.type, f.offset)) = L)
    (h : DataW.trod enc Tryz.prog W base (fun _ => true) held fuel t cs = some x) (hw : ∀ n ∈ x.1.weights Tryz.prog t, n ≤ reachBytes) :
    ∃ n, ∀ (i : Nat) (t' o : Nat), L[i]? = some (t', o) → ∃ y, DataW.trod enc Tryz.prog W base (fun _ => true) held n t' ((cs.drop o).take (Tryz.prog.cellsOf t')) = some y ∧ ∀ k ∈ y.1.weights Tryz.prog t', k ≤ reachBytes := by
  obtain ⟨xs, n, _, rfl, _, hxl, hall⟩ := DataW.trod_struct hu h
  refine ⟨n, fun i t' o hi => ?_⟩
  rw [← hfs, List.getElem?_map] at hi
  obtain ⟨f, hf, he⟩ := Option.map_eq_some_iff.1 hi
  cases he
  have hf' : fs[i]? = some f := by simpa using hf
  have h1 := hall i f hf'
  have hil : i < xs.length := by rw [hxl]; exact (Array.getElem?_eq_some_iff.1 hf').1
  rw [List.getElem?_eq_getElem hil] at h1
  refine ⟨xs[i], h1, fun k hk => hw k ?_⟩
  simp only [DataW.weights, hu]
  exact DataW.weights_mem_each (j := i) (t := f.type) (d := xs[i].1) (by rw [List.getElem?_map, hf]; rfl) (by rw [List.getElem?_map, List.getElem?_eq_getElem hil]; rfl) k hk
theorem open_u8 {cs : List Value} {x : DataW H × List MemPlace} (h : DataW.trod enc Tryz.prog W base (fun _ => true) held fuel 5 cs = some x) : ∃ b : UInt8, cs = [.int .u8 (b.toNat : Int)] := by
  have : ∃ n, cs = [.int .u8 n] ∧ (Lit.int .u8 n).wf = true := by
    cases fuel with
    | zero => simp [DataW.trod] at h
    | succ m =>
      unfold DataW.trod at h
      rw [ub] at h
      split at h <;> simp_all
  obtain ⟨n, rfl, hn⟩ := this
  have hr : 0 ≤ n ∧ n < 256 := by
    have h1 : IntKind.min .u8 = 0 := rfl
    have h2 : IntKind.max .u8 = 255 := rfl
    simp [Lit.wf, h1, h2] at hn
    omega
  refine ⟨UInt8.ofNat n.toNat, ?_⟩
  have : (UInt8.ofNat n.toNat).toNat = n.toNat := by
    rw [UInt8.toNat_ofNat']
    exact Nat.mod_eq_of_lt (by omega)
  rw [this]
  congr 2
  omega
theorem open_bytes {cs : List Value} {x : DataW H × List MemPlace} (h : DataW.trod enc Tryz.prog W base (fun _ => true) held fuel 22 cs = some x) (hw : ∀ n ∈ x.1.weights Tryz.prog 22, n ≤ reachBytes) :
    ∃ (s : Sl) (l : List UInt8), cs = [.slice s.a s.len s.cap] ∧ SlX W s 1 (bv l) ∧ l.length ≤ 2 ^ 47 := by
  obtain ⟨s, rows, rfl, hs, hl, hby, hr⟩ := open_rows uBytes cby (by decide) h hw
  obtain ⟨xs, ls, h1, h2, h3, h4⟩ := rows_of2 (cs := [.int .u8]) (β := UInt8) (Q := fun x y => x.1 = (y.toNat : Int)) rows (fun r hr' => by
    obtain ⟨_, n, y, hy, _⟩ := hr r hr'
    obtain ⟨b, rfl⟩ := open_u8 hy
    exact ⟨((b.toNat : Int), ()), b, rfl, rfl⟩)
  refine ⟨s, ls, rfl, ?_, ?_⟩
  · rw [h1] at hs
    have e : flat [.int .u8] xs = bv ls := by
      clear h1 h2 hs
      induction xs generalizing ls with
      | nil =>
        cases ls with
        | nil => rfl
        | cons y r => simp at h3
      | cons x r ih =>
        cases ls with
        | nil => simp at h3
        | cons y q =>
          have h0 := h4 0 x y rfl rfl
          have := ih q (by simpa using h3) fun i x' y' hx hy => h4 (i + 1) x' y' (by simpa using hx) (by simpa using hy)
          simp only [flat, List.flatMap_cons] at this ⊢
          rw [this]
          obtain ⟨n, ⟨⟩⟩ := x
          dsimp only at h0
          subst h0
          rfl
    rw [e] at hs; exact hs
  · rw [← h3, h2, hl]
    rw [bby] at hby
    unfold reachBytes at hby
    omega
theorem open_start {cs : List Value} {x : DataW H × List MemPlace} (hl : cs.length = 2) (h : DataW.trod enc Tryz.prog W base (fun _ => true) held fuel 24 cs = some x) (hw : ∀ n ∈ x.1.weights Tryz.prog 24, n ≤ reachBytes) :
    ∃ (c : Int) (s : Sl) (l : List UInt8), cs = Cells.vals c24 (stT c s) ∧ SlX W s 1 (bv l) ∧ l.length ≤ 2 ^ 47 := by
  obtain ⟨fs, hu, hfs⟩ := sStart
  obtain ⟨n, hall⟩ := open_fields hu hfs h hw
  obtain ⟨v0, v1, rfl⟩ : ∃ v0 v1, cs = [v0, v1] := by
    match cs, hl with
    | [v0, v1], _ => exact ⟨v0, v1, rfl⟩
  obtain ⟨y0, h0, _⟩ := hall 0 _ _ rfl
  obtain ⟨y1, h1, hw1⟩ := hall 1 _ _ rfl
  rw [ci] at h0
  rw [cbs] at h1
  obtain ⟨n0, e0, _⟩ := open_i64 ui h0
  obtain ⟨s, l, e1, g1, g2⟩ := open_bytes h1 hw1
  simp at e0 e1
  subst e0 e1
  exact ⟨n0, s, l, rfl, g1, g2⟩
theorem SlX.lt {w : World} {s : Sl} {sz : Nat} {us : List Value} (h : SlX w s sz us) : ∀ k, s.blk k → s.len = 0 ∨ k < w.heap.size := by
  intro k hk
  rcases h.at_ with ⟨h, _⟩ | ⟨t, h⟩
  · exact .inl h
  · exact .inr (h.blk_lt hk)
end
theorem trodAll_get {H : Type} {enc : TypeId × Value → H} {P : Program} {w : World} {base : Nat} {spare : Nat → Bool} {held : Bool} : ∀ {ts : List TypeId} {vs : List Value} {ds : List (DataW H)} {ps : List MemPlace}, DataW.TrodAll enc P w base spare held ts vs ds ps →
    vs.length = ts.length ∧ ds.length = ts.length ∧ ∀ (j : Nat) t v d, ts[j]? = some t → vs[j]? = some v → ds[j]? = some d → ∃ p, DataW.Trod enc P w base spare held t v d p
  | [], [], [], _, _ => ⟨rfl, rfl, fun j t v d h => by simp at h⟩
  | t :: ts, v :: vs, d :: ds, ps, ⟨p, q, h1, h2, e⟩ => by
    obtain ⟨a, b, c⟩ := trodAll_get h2
    refine ⟨by simp [a], by simp [b], fun j t' v' d' ht hv hd => ?_⟩
    match j with
    | 0 => cases ht; cases hv; cases hd; exact ⟨p, h1⟩
    | j + 1 => exact c j t' v' d' (by simpa using ht) (by simpa using hv) (by simpa using hd)
  | [], _ :: _, _, _, h => h.elim
  | [], [], _ :: _, _, h => h.elim
  | _ :: _, [], _, _, h => h.elim
  | _ :: _, _ :: _, [], _, h => h.elim
theorem list_4 {α : Type} (l : List α) (h : l.length = 4) : ∃ v0 v1 v2 v3, l = [v0, v1, v2, v3] := by
  match l, h with
  | [v0, v1, v2, v3], _ => exact ⟨v0, v1, v2, v3, rfl⟩
theorem weigh {H : Type} {ts : List TypeId} {ds : List (DataW H)} (h : (DataW.weightsEach Tryz.prog ts ds).all (· ≤ reachBytes) = true) (j : Nat) {t : TypeId} {d : DataW H} (ht : ts[j]? = some t) (hd : ds[j]? = some d) : ∀ n ∈ d.weights Tryz.prog t, n ≤ reachBytes := by
  intro n hn
  have := List.all_eq_true.1 h _ (DataW.weights_mem_each ht hd n hn)
  simpa using this
section
variable {H : Type} {enc : TypeId × Value → H} {W : World} {base : Nat}
theorem arg_int {v : Value} {d : DataW H} {p : List MemPlace} (hv : Value.okWide Tryz.prog W .any base 3 v) (h : DataW.Trod enc Tryz.prog W 0 (fun _ => true) true 3 v d p) (hw : ∀ n ∈ d.weights Tryz.prog 3, n ≤ reachBytes) : ∃ n, v = .int .i64 n ∧ In64 n := by
  obtain ⟨n, rfl⟩ := okWide_int ui hv
  obtain ⟨f, hf⟩ := h
  obtain ⟨m, e, hm⟩ := open_i64 ui hf
  have : n = m := by simpa [Value.cells] using e
  subst this
  exact ⟨n, rfl, wf64 hm⟩
theorem arg_start {v : Value} {d : DataW H} {p : List MemPlace} (hv : Value.okWide Tryz.prog W .any base 24 v) (h : DataW.Trod enc Tryz.prog W 0 (fun _ => true) true 24 v d p) (hw : ∀ n ∈ d.weights Tryz.prog 24, n ≤ reachBytes) :
    ∃ (c : Int) (s : Sl) (l : List UInt8), v = .agg (Cells.vals c24 (stT c s)).toArray ∧ SlX W s 1 (bv l) ∧ l.length ≤ 2 ^ 47 := by
  obtain ⟨fs, hu, _⟩ := sStart
  obtain ⟨cs, rfl, hsz⟩ := okWide_struct hu hv
  obtain ⟨n, hn⟩ := h
  rw [cstart] at hsz
  obtain ⟨c, s, l, e, h1, h2⟩ := open_start (cs := cs.toList) (by simpa using hsz) (by simpa [Value.cells] using hn) hw
  exact ⟨c, s, l, by rw [← e], h1, h2⟩
end
theorem tsize : 200 ≤ Tryz.prog.types.size := of_decide_eq_true (by kernel_rfl)
theorem recInt : Tryz.prog.readableRec 3 = true := by kernel_rfl
theorem recInts : Tryz.prog.readableRec 26 = true := by kernel_rfl
theorem recOps : Tryz.prog.readableRec 41 = true := by kernel_rfl
theorem recStart : Tryz.prog.readableRec 24 = true := by kernel_rfl
theorem recs {t : TypeId} (h : t = 3 ∨ t = 26 ∨ t = 41 ∨ t = 24) : Tryz.prog.readableRec t = true ∧ t < Tryz.prog.types.size := by
  have := tsize
  rcases h with rfl | rfl | rfl | rfl
  · exact ⟨recInt, Nat.lt_of_lt_of_le (by decide) this⟩
  · exact ⟨recInts, Nat.lt_of_lt_of_le (by decide) this⟩
  · exact ⟨recOps, Nat.lt_of_lt_of_le (by decide) this⟩
  · exact ⟨recStart, Nat.lt_of_lt_of_le (by decide) this⟩
end Go.Proofs.YtabcpghhfeplaaaGreat
set_option linter.unusedSimpArgs false
set_option linter.unusedVariables false
namespace Go.Proofs.YtabcpghhfeplaaaGreat
open Go Go.Vx Go.ChangeShapes Go.WideShapes Go.RowKit
set_option maxRecDepth 100000 in
theorem objectNested_lifted (os : Os) (started : os.Started) (H : Type) (enc : TypeId × Value → H) :
    ReturnsInHanded {} Tryz.checked os 3 .any (Rows.objectNestedSpec.pre6 enc Tryz.prog Tryz.f3 Rows.objectNestedRow.domain false) (Rows.objectNestedSpec.post enc Tryz.prog Tryz.f3 false true false false) := by
  refine returnsInHanded_of_change_sized (C := Tryz.checked) Tryz.own started (by kernel_rfl) Tryz.func3
    (ChangeSpec.witness6 (enc := enc) (C := Tryz.checked) false ⟨#[], #[.agg #[.int .i64 0, .slice none 0 0], .int .i64 0, .int .i64 0, .int .i64 0], []⟩ 8 (by kernel_rfl) (by kernel_rfl) (by kernel_rfl) (by kernel_rfl)) ?_
  intro W base args ds gs before hval0 hW _ hwt0 _
  have hval : ∀ (j : Nat) t v, Tryz.f3.params[j]? = some t → args[j]? = some v → Value.okWide Tryz.prog W .any base t v := hval0
  have hwt : (DataW.weightsEach Tryz.prog (Tryz.f3.params.toList ++ []) (ds ++ gs)).all (· ≤ reachBytes) = true := hwt0
  have hW' := hW
  obtain ⟨p, q, hA0, hV, rfl, hfz, hnd⟩ := hW
  have hA : DataW.TrodAll enc Tryz.prog W 0 (fun _ => true) true Tryz.f3.params.toList args.toList ds p := hA0
  clear hA0 hval0 hwt0
  rw [Tryz.params3] at hA hval hwt
  obtain ⟨rfl, rfl⟩ := trodVars_none hV
  obtain ⟨hn1, hn2, hT⟩ := trodAll_get hA
  obtain ⟨v0, v1, v2, v3, hv⟩ := list_4 args.toList hn1
  obtain rfl : args = #[v0, v1, v2, v3] := by cases args; simp_all
  obtain ⟨d0, d1, d2, d3, rfl⟩ := list_4 ds hn2
  obtain ⟨p0, q0⟩ := hT 0 24 v0 d0 rfl rfl rfl
  obtain ⟨c0, s0, l0, rfl, h0, n0⟩ := arg_start (hval 0 24 v0 rfl rfl) q0 (weigh hwt 0 rfl rfl)
  obtain ⟨p1, q1⟩ := hT 1 3 v1 d1 rfl rfl rfl
  obtain ⟨a1, rfl, i1⟩ := arg_int (hval 1 3 v1 rfl rfl) q1 (weigh hwt 1 rfl rfl)
  obtain ⟨p2, q2⟩ := hT 2 3 v2 d2 rfl rfl rfl
  obtain ⟨a2, rfl, i2⟩ := arg_int (hval 2 3 v2 rfl rfl) q2 (weigh hwt 2 rfl rfl)
  obtain ⟨p3, q3⟩ := hT 3 3 v3 d3 rfl rfl rfl
  obtain ⟨a3, rfl, i3⟩ := arg_int (hval 3 3 v3 rfl rfl) q3 (weigh hwt 3 rfl rfl)
  have walk := nested_walk (enc := c0) h0 (by omega) i1 i2 i3 (K := fun r w' => r = true ∧ Ext W w') fun w' e => ⟨rfl, e⟩
  refine walk.mono fun e W' ⟨x, he, hx, hext⟩ => ⟨.bool true, ?_, ?_⟩
  · subst hx; exact he
  · exact post_same hW' rfl rfl u4 rfl Tryz.laidOut (fun t ht => by
      rw [Tryz.params3] at ht
      have ht : t ∈ [24, 3, 3, 3] := ht
      simp only [List.mem_cons, List.not_mem_nil, or_false] at ht
      rcases ht with rfl | rfl | rfl | rfl <;> exact recs (by simp)) hext
theorem objectNested_holds : Rows.ObjectNestedSaid :=
  OpenClaim.holds_of_wide 3 Tryz.f3 rfl rfl rfl rfl rfl rfl rfl ⟨rfl, rfl, rfl, rfl, rfl⟩ rfl rfl rfl rfl rfl (by kernel_rfl) Tryz.func3 (by kernel_rfl)
    (of_decide_eq_true (by kernel_rfl)) (by unfold Func.isWrapper; rw [if_neg (by decide +kernel)]; exact ⟨rfl, rfl⟩)
    (fun os started H enc _ => objectNested_lifted os started H enc)
end Go.Proofs.YtabcpghhfeplaaaGreat
