/- YtabcpghhfeplaaaGreatSa5: parts of the proof, put together by program. -/
import Derived.Test.YtabcpghhfeplaaaGreatSa4
set_option linter.unusedVariables false
set_option linter.unusedSimpArgs false
set_option linter.unusedSectionVars false
set_option linter.unusedSimpArgs false
set_option linter.unusedVariables false
set_option maxRecDepth 100000
namespace Go.Proofs.YtabcpghhfeplaaaGreat
open Go Go.Vx Cdc Trx Gly Clu Lns Obx
section
variable {w w' : World} {S : Nat → Prop} {p : Nat} {e : Enc} {lim na : Nat} {O : Nat → Prop} {M : Parts}
theorem sub_all (A : List Int) : sub A 0 (A.length : Int) = A := by unfold sub; simp
theorem blocks_call {at_ kind count arg : Int} (h : Txt w p e lim na O M) (hcn : count < 2 ^ 63) {K : Cells.T c34 × Int × Unit → World → Prop} (hK : ∀ w', Ext w w' → K (spT (blocksP (atoms (aOf e M)) at_ kind count arg).1, (blocksP (atoms (aOf e M)) at_ kind count arg).2, ()) w') :
    callT Tryz.prog 19 #[.pointer (some (at0 p)), .int .i64 at_, .agg (Cells.vals c39 (mvT kind count arg)).toArray] (.tup [(.agg c34), (.one (.int .i64))]) K w := by
  refine F19_calls (a2 := mvT kind count arg) ?_
  unfold F19
  have few := h.few; have lims := h.lims
  have hal := hal e M
  generalize hA : atoms (aOf e M) = A at *
  unfold blocksP at hK
  rw [hal] at hK
  let Mv : Obj := .cells (Cells.vals c39 (mvT kind count arg)).toArray 39 (0, 0)
  let Z : Obj := .cells #[.int .i64 0, .int .i64 0, .int .i64 0] 34 (0, 0)
  refine (St.start w).newO fun b1 w1 S1 e1 => S1.newO fun b2 w2 S2 e2 => ?_
  have S2 : St (fun _ => False) w w2 [(b2, Z), (b1, Mv)] := S2
  have fin : ∀ {W : World} {s : Int × Int × Int} {n : Int}, St (fun _ => False) w W [(b2, Z), (b1, Mv)] → (∀ w', Ext w w' → K (spT s, n, ()) w') → aggSt (at0 b2) (.agg #[.int .i64 s.1, .int .i64 s.2.1, .int .i64 s.2.2]) 3 (lds c34 (at0 b2) fun x => K (x, n, ())) W := fun {W s n} SW hk =>
    SW.aggSt 0 rfl rfl rfl rfl fun w1 S1 _ => S1.lds 0 (spT s) rfl (hk w1 S1.upd)
  refine S2.lds 1 (mvT kind count arg) rfl (checked_call (h.ext S2.upd) fun w3 e3 => ?_)
  have S3 := S2.ext e3
  refine S3.ld 1 rfl (x := arg) rfl (fellow_call fun w4 e4 => ?_)
  have S4 := S3.ext e4
  generalize hck : checked (aOf e M).length at_ kind count 67 68 = ck at *
  refine join_r (fun x W => x = (decide (ck = 1 ∨ fellow arg = none), ()) ∧ w4 = W) ?_ ?_
  · refine sif_r (fun h => ⟨tupb ?_, rfl⟩) (fun h => ⟨tupb ?_, rfl⟩)
    · simp only [beq_iff_eq, decide_eq_true_eq, true_iff] at *; exact .inl h
    · simp only [beq_eq_false_iff_ne, decide_eq_true_eq, ne_eq] at *
      cases fellow arg <;> simp [h]
  rintro _ _ ⟨rfl, rfl⟩
  refine sif_r (fun hc => ?_) (fun hc => ?_)
  · simp only [decide_eq_true_eq] at hc
    refine fin (s := (0, 0, 0)) (n := 1) S4 fun w' x => ?_
    have := hK w' x
    by_cases h1 : ck = 1
    · rw [if_pos h1] at this; exact this
    · rw [if_neg h1, hc.resolve_left h1] at this; exact this
  simp only [decide_eq_false_iff_not, not_or] at hc
  obtain ⟨shut, hsh⟩ : ∃ shut, fellow arg = some shut := by
    cases hf : fellow arg with
    | none => exact absurd hf hc.2
    | some s => exact ⟨s, rfl⟩
  rw [if_neg hc.1, hsh] at hK
  rw [hsh]
  simp only [Option.getD_some, Option.isSome_some]
  dsimp only at hK
  refine sif_r (fun h0 => ?_) (fun h0 => ?_)
  · simp only [bne_iff_ne, ne_eq] at h0
    rw [if_pos h0] at hK
    exact fin (s := (0, 0, 0)) (n := ck) S4 hK
  simp only [bne_eq_false_iff_eq] at h0
  rw [if_neg (by rw [h0]; decide)] at hK
  refine len_call (h.ext S4.upd) fun w5 e5 => atoms_call (h.ext (S4.ext e5).upd) fun s w6 o6 e6 => ?_
  rw [hA, ← hal, sub_all] at o6
  refine cells_call (off := 0) o6.in (by omega) (by decide) fun sc w7 o7 e7 _ => ?_
  have S7 := ((S4.ext e5).ext e6).ext e7
  have hCle : (cels A 0).length ≤ A.length := cels_le A 0
  have hcel : ∀ {m : Nat} {c : Cel}, (cels A 0)[m]? = some c → c.from_ ≤ A.length := fun hc => by
    obtain ⟨i, j, _, _, h1, h2, h3, _⟩ := (cels_ok hc).ex
    omega
  generalize hC : cels A 0 = C at *
  have hlen := o7.lenC
  unfold bracketsP at hK
  refine join_r (fun x W => x = (((firstI C at_ : Nat) : Int), ()) ∧ w7 = W) ?_ ?_
  · refine sloop_r (fun x W => ∃ i : Nat, i ≤ C.length ∧ x = ((i : Int), ()) ∧ w7 = W ∧ ∀ (j : Nat) (c : Cel), j < i → C[j]? = some c → (c.to_ : Int) ≤ at_) (fun x _ => ((C.length : Int) - x.1).toNat) ⟨0, Nat.zero_le _, rfl, rfl, fun j c hj => absurd hj (Nat.not_lt_zero _)⟩ ?_
    rintro _ _ ⟨i, hi, rfl, rfl, hlo⟩
    by_cases hil : i < C.length
    · obtain ⟨c, hc'⟩ : ∃ c, C[i]? = some c := ⟨_, List.getElem?_eq_getElem hil⟩
      refine join_r (fun x W => x = (decide ((c.to_ : Int) ≤ at_), ()) ∧ w7 = W) ?_ ?_
      · exact sif_r (fun h => ix_celF (k := .int .i64) o7 hc' (y := (c.to_ : Int)) rfl fun q => ⟨tupb (by simp only [decide_eq_true_eq, ge_iff_le]), rfl⟩) (fun h => by simp only [decide_eq_false_iff_not] at h; omega)
      rintro _ _ ⟨rfl, rfl⟩
      refine sif_r (fun hg => ?_) (fun hg => ?_)
      · simp only [decide_eq_true_eq] at hg
        have ew : IntKind.wrap .i64 ((i : Int) + 1) = ((i + 1 : Nat) : Int) := by rw [wrap64 (by omega) (by omega)]; omega
        rw [ew]
        refine ⟨⟨i + 1, by omega, rfl, rfl, fun j d hj hd => ?_⟩, by omega⟩
        by_cases hji : j = i
        · subst hji; rw [hc'] at hd; cases hd; exact hg
        · exact hlo j d (by omega) hd
      · simp only [decide_eq_false_iff_not] at hg
        refine ⟨?_, rfl⟩
        rw [firstI_eq hi hlo fun d hd => by rw [hc'] at hd; cases hd; omega]
    · refine join_r (fun x W => x = (false, ()) ∧ w7 = W) (sif_r (fun h => by simp only [decide_eq_true_eq] at h; omega) (fun _ => ⟨rfl, rfl⟩)) ?_
      rintro _ _ ⟨rfl, rfl⟩
      refine sif_false ⟨?_, rfl⟩
      have : i = C.length := by omega
      rw [firstI_eq hi hlo fun d hd => by rw [this, List.getElem?_eq_none (Nat.le_refl _)] at hd; cases hd]
  rintro _ _ ⟨rfl, rfl⟩
  have hfl := firstI_le C at_
  generalize hi : firstI C at_ = i at *
  refine join_r (fun x W => x = (decide (i = C.length ∨ C.length < times count), ()) ∧ St (fun _ => False) w W [(b2, Z), (b1, Mv)] ∧ Ext w7 W) ?_ ?_
  · refine sif_r (fun h => ⟨tupb ?_, S7, Ext.refl _⟩) (fun h => S7.lds 1 (mvT kind count arg) rfl (times_call hcn fun w8 e8 => ⟨tupb ?_, S7.ext e8, e8⟩))
    all_goals simp only [beq_iff_eq, beq_eq_false_iff_ne, ne_eq, decide_eq_true_eq, true_iff, gt_iff_lt] at *
    all_goals omega
  rintro _ w8 ⟨rfl, S8, e8⟩
  refine sif_r (fun hb => ?_) (fun hb => ?_)
  · simp only [decide_eq_true_eq] at hb
    rw [if_pos hb] at hK
    exact fin (s := (0, 0, 0)) (n := 90) S8 hK
  simp only [decide_eq_false_iff_not] at hb
  rw [if_neg hb] at hK
  have ht1 : 1 ≤ times count := by unfold times; omega
  obtain ⟨c, hc'⟩ : ∃ c, C[i]? = some c := ⟨_, List.getElem?_eq_getElem (by omega)⟩
  rw [hc'] at hK
  have ewp : IntKind.wrap .i64 ((i : Int) + 1) = (i : Int) + 1 := wrap64 (by omega) (by omega)
  have ewm : IntKind.wrap .i64 ((i : Int) - 1) = (i : Int) - 1 := wrap64 (by omega) (by omega)
  simp only [Option.map_some, Option.getD_some] at hK
  refine join_r (fun x W => x = ((if c.is arg then (i : Int) else (i : Int) - 1), (if c.is arg then (i : Int) + 1 else (i : Int)), ()) ∧ St (fun _ => False) w W [(b2, Z), (b1, Mv)] ∧ Ext w7 W) ?_ ?_
  · refine S8.drew fun w9 S9 e9 _ => ix_cel (o7.ext (e8.trans e9)) hc' fun q => S9.ld 1 rfl (x := arg) rfl (is_call fun w10 e10 => ?_)
    rw [ewp, ewm]
    refine sif_r (fun h => ⟨?_, S9.ext e10, (e8.trans e9).trans e10⟩) (fun h => ⟨?_, S9.ext e10, (e8.trans e9).trans e10⟩)
    · rw [h, if_pos rfl, if_pos rfl]
    · rw [h, if_neg (by decide), if_neg (by decide)]
  rintro _ w9 ⟨rfl, S9, e9⟩
  dsimp only
  refine S9.drew fun w10 S10 e10 _ => S10.ld 1 rfl (x := arg) rfl (S10.lds 1 (mvT kind count arg) rfl (times_call hcn fun w11 e11 => ?_))
  have S11 := S10.ext e11
  have x11 := (e9.trans e10).trans e11
  have hl1 : -1 ≤ (if c.is arg then (i : Int) else (i : Int) - 1) ∧ (if c.is arg then (i : Int) else (i : Int) - 1) < C.length := by split <;> omega
  have hr1 : 0 ≤ (if c.is arg then (i : Int) + 1 else (i : Int)) ∧ (if c.is arg then (i : Int) + 1 else (i : Int)) ≤ C.length := by split <;> omega
  refine S11.keep 1 rfl (v := .int .i64 arg) rfl ?_
  refine nth_call (k := times count) false (o7.ext x11) (by omega) hl1.1 (by omega) (fun h => by cases h) (fun _ => hl1.2) ht1 (by omega) fun w12 e12 => ?_
  have S12 := S11.ext e12
  refine S12.drew fun w13 S13 e13 _ => S13.ld 1 rfl (x := arg) rfl (S13.lds 1 (mvT kind count arg) rfl (times_call hcn fun w14 e14 => ?_))
  have S14 := S13.ext e14
  have x14 := ((x11.trans e12).trans e13).trans e14
  refine S14.keep 1 rfl (v := .int .i64 arg) rfl ?_
  refine nth_call (k := times count) true (o7.ext x14) (by omega) (by omega) hr1.2 (fun _ => hr1.1) (fun h => by cases h) ht1 (by omega) fun w15 e15 => ?_
  have S15 := S14.ext e15
  have x15 := x14.trans e15
  generalize hn1 : nthL C arg shut (walkI false C.length (if c.is arg then (i : Int) else (i : Int) - 1)) (times count) 0 = n1 at *
  generalize hn2 : nthL C shut arg (walkI true C.length (if c.is arg then (i : Int) + 1 else (i : Int))) (times count) 0 = n2 at *
  refine join_r (fun x W => x = (decide (n1 = none ∨ n2 = none), ()) ∧ w15 = W) ?_ ?_
  · cases n1 with
    | none => exact sif_r (fun h => ⟨tupb (by simp), rfl⟩) (fun h => by simp [oI] at h)
    | some j1 =>
      refine sif_r (fun h => absurd (of_decide_eq_true h) (Int.not_lt.2 (Int.natCast_nonneg j1))) (fun h => ⟨?_, rfl⟩)
      cases n2 with
      | none => exact tupb (by simp [oI])
      | some j2 =>
        refine tupb ?_
        simp only [decide_eq_true_eq, reduceCtorEq, or_self, iff_false, oI, Int.not_lt]
        exact fun h => absurd (of_decide_eq_true h) (Int.not_lt.2 (Int.natCast_nonneg j2))
  rintro _ _ ⟨rfl, rfl⟩
  refine sif_r (fun hd => ?_) (fun hd => ?_)
  · simp only [decide_eq_true_eq] at hd
    have e0 : pick C n1 n2 = none := by
      rcases hd with rfl | rfl
      · rfl
      · cases n1 <;> rfl
    rw [e0] at hK
    exact fin (s := (0, 0, 0)) (n := 90) S15 hK
  simp only [decide_eq_false_iff_not, not_or] at hd
  obtain ⟨j1, rfl⟩ : ∃ j, n1 = some j := by cases n1 with
    | none => exact absurd rfl hd.1
    | some j => exact ⟨j, rfl⟩
  obtain ⟨j2, rfl⟩ : ∃ j, n2 = some j := by cases n2 with
    | none => exact absurd rfl hd.2
    | some j => exact ⟨j, rfl⟩
  obtain ⟨_, c1, hc1, _⟩ := nthL_mem hn1
  obtain ⟨_, c2, hc2, _⟩ := nthL_mem hn2
  have e0 : pick C (some j1) (some j2) = some (c1, c2) := by unfold pick; dsimp only; rw [hc1, hc2]
  rw [e0] at hK
  dsimp only [oI] at hK ⊢
  refine S15.ld 1 rfl (x := kind) rfl (sif_r (fun hk => ?_) (fun hk => ?_))
  · simp only [beq_iff_eq] at hk
    rw [if_pos hk] at hK
    refine S15.drew fun w16 S16 e16 _ => ix_cel (o7.ext (x15.trans e16)) hc1 fun q1 => ix_cel (o7.ext (x15.trans e16)) hc2 fun q2 => ?_
    refine hollow_call (one := c1) (two := c2) (h.ext S16.upd) (by rw [hA]; exact hcel hc1) (by rw [hA]; exact hcel hc2) fun w17 e17 => ?_
    rw [hA]
    exact fin (s := Obx.hollow A c1 c2) (n := 0) (S16.ext e17) hK
  · simp only [beq_eq_false_iff_ne, ne_eq] at hk
    rw [if_neg hk] at hK
    refine S15.drew fun w16 S16 e16 _ => ix_celF0 (k := .int .i64) (o7.ext (x15.trans e16)) hc1 (y := (c1.from_ : Int)) rfl fun q1 => ix_celF (k := .int .i64) (o7.ext (x15.trans e16)) hc2 (y := (c2.to_ : Int)) rfl fun q2 => ?_
    exact fin (s := (c1.from_, c2.to_, 0)) (n := 0) S16 hK
end
end Go.Proofs.YtabcpghhfeplaaaGreat
set_option linter.unusedSimpArgs false
set_option linter.unusedVariables false
set_option maxRecDepth 100000
namespace Go.Proofs.YtabcpghhfeplaaaGreat
open Go Go.Vx Cdc
section
variable {w w' : World}
theorem known_call {e : Enc} {K : Bool → World → Prop} (hK : K true w) : callT Tryz.prog 61 #[.int .i64 e.num] (.one (.one .bool)) K w := by
  refine F61_calls ?_
  unfold F61
  cases e <;> exact sif_r (fun _ => hK) (fun h => by cases h)
theorem rscalar_call {a : Int} {K : Bool → World → Prop} (h1 : Scalar a → K true w) (h2 : ¬ Scalar a → K false w) : callT Tryz.prog 117 #[.int .i64 a] (.one (.one .bool)) K w := by
  refine F117_calls ?_
  unfold F117
  unfold Scalar at h1 h2
  refine sif_r (fun h => sif_r (fun h' => ?_) (fun h' => sif_r (fun h'' => ?_) (fun h'' => ?_))) (fun h => sif_r (fun h'' => ?_) (fun h'' => ?_))
  all_goals simp only [decide_eq_true_eq, decide_eq_false_iff_not, gt_iff_lt, ge_iff_le] at *
  · exact h1 (by omega)
  · by_cases hc : a ≤ 1114111
    · rw [decide_eq_true hc]; exact h1 (by omega)
    · rw [decide_eq_false hc]; exact h2 (by omega)
  · exact h2 (by omega)
  · by_cases hc : a ≤ 1114111
    · rw [decide_eq_true hc]; exact h1 (by omega)
    · rw [decide_eq_false hc]; exact h2 (by omega)
  · exact h2 (by omega)
def unI (be : Bool) : Bs → Int
  | a :: b :: _ => ((un be a b : Nat) : Int)
  | _ => -1
theorem runit_call {s : Sl} {l : Bs} {n : Nat} {be : Bool} (hB : By w s l) (hn : n < 2 ^ 60) (hl : l.length < 2 ^ 60) {K : Int → World → Prop} (hK : ∀ w', Ext w w' → K (unI be (l.drop n)) w') :
    callT Tryz.prog 84 #[.int .i64 (if be then 3 else 2), .slice s.a s.len s.cap, .int .i64 (n : Int)] (.one (.one (.int .i64))) K w := by
  refine F84_calls ?_
  unfold F84
  have hlen := hB.len
  have e2 : IntKind.wrap .i64 ((n : Int) + 2) = (n : Int) + 2 := wrap64 (by omega) (by omega)
  have e1 : IntKind.wrap .i64 ((n : Int) + 1) = ((n + 1 : Nat) : Int) := by rw [wrap64 (by omega) (by omega)]; omega
  rw [e2, e1]
  refine sif_r (fun h => ?_) (fun h => ?_)
  · simp only [decide_eq_true_eq, gt_iff_lt] at h
    have := hK w (Ext.refl w)
    have hd : (l.drop n).length < 2 := by rw [List.length_drop]; omega
    match hdd : l.drop n, hd with
    | [], _ => rw [hdd] at this; exact this
    | [_], _ => rw [hdd] at this; exact this
    | _ :: _ :: _, hd => simp at hd; omega
  · simp only [decide_eq_false_iff_not, gt_iff_lt] at h
    have h0 : n < l.length := by omega
    have h1 : n + 1 < l.length := by omega
    have hd : l.drop n = l[n] :: l[n + 1] :: l.drop (n + 2) := by
      rw [List.drop_eq_getElem_cons h0, List.drop_eq_getElem_cons h1]
    have ha := l[n].toNat_lt
    have hb := l[n + 1].toNat_lt
    rw [hd] at hK
    have g0 : l[(n : Int).toNat]? = some l[n] := by rw [Int.toNat_natCast]; simp [h0]
    have g1 : l[((n + 1 : Nat) : Int).toNat]? = some l[n + 1] := by rw [Int.toNat_natCast]; simp [h1]
    cases be with
    | false =>
      refine sif_r (fun _ => drew_r fun w1 e3 _ => ?_) (fun h => by cases h)
      have hB1 : By w1 s l := hB.ext e3
      refine ix_by hB1 (by omega) g0 fun p => ix_by hB1 (by omega) g1 fun p => ?_
      rw [wrap64 (a := (l[n].toNat : Int)) (by omega) (by omega), wrap64 (a := (l[n + 1].toNat : Int)) (by omega) (by omega), wrap64 (a := 256 * (l[n + 1].toNat : Int)) (by omega) (by omega), wrap64 (by omega) (by omega)]
      have : (l[n].toNat : Int) + 256 * (l[n + 1].toNat : Int) = unI false (l[n] :: l[n + 1] :: l.drop (n + 2)) := by
        show _ = ((l[n].toNat + l[n + 1].toNat * 256 : Nat) : Int); omega
      rw [this]; exact hK w1 e3
    | true =>
      refine sif_r (fun h => by cases h) (fun _ => drew_r fun w1 e3 _ => ?_)
      have hB1 : By w1 s l := hB.ext e3
      refine ix_by hB1 (by omega) g0 fun p => ix_by hB1 (by omega) g1 fun p => ?_
      rw [wrap64 (a := (l[n].toNat : Int)) (by omega) (by omega), wrap64 (a := (l[n + 1].toNat : Int)) (by omega) (by omega), wrap64 (a := 256 * (l[n].toNat : Int)) (by omega) (by omega), wrap64 (by omega) (by omega)]
      have : 256 * (l[n].toNat : Int) + (l[n + 1].toNat : Int) = unI true (l[n] :: l[n + 1] :: l.drop (n + 2)) := by
        show _ = ((l[n + 1].toNat + l[n].toNat * 256 : Nat) : Int); omega
      rw [this]; exact hK w1 e3
end
end Go.Proofs.YtabcpghhfeplaaaGreat
set_option linter.unusedSimpArgs false
set_option linter.unusedVariables false
namespace Go.Proofs.YtabcpghhfeplaaaGreat
namespace Cdc
theorem ofNat_toNat (b : UInt8) : UInt8.ofNat b.toNat = b := by
  apply UInt8.toNat_inj.1
  rw [UInt8.toNat_ofNat']
  have := b.toNat_lt
  omega
theorem byte_of {n : Nat} {b : UInt8} (h : n = b.toNat) : UInt8.ofNat n = b := by rw [h, ofNat_toNat]
theorem sz8_nat {n : Nat} (h : Scalar (n : Int)) : sz8 (n : Int) = if n < 128 then 1 else if n < 2048 then 2 else if n < 65536 then 3 else 4 := by
  unfold sz8
  rw [if_neg (by rcases h with h | h <;> omega)]
  repeat' split
  all_goals first | rfl | omega
theorem pt8_1 {n : Nat} (h : n < 128) : pt8 (n : Int) = [UInt8.ofNat n] := by
  have hs : sz8 (n : Int) = 1 := by rw [sz8_nat (.inl (by omega)), if_pos h]
  unfold pt8
  rw [if_neg (by omega), if_pos hs, Int.toNat_natCast]
theorem pt8_2 {n : Nat} (h0 : 128 ≤ n) (h : n < 2048) : pt8 (n : Int) = [UInt8.ofNat (192 + n / 64), UInt8.ofNat (128 + n % 64)] := by
  have hs : sz8 (n : Int) = 2 := by rw [sz8_nat (.inl (by omega)), if_neg (by omega), if_pos h]
  unfold pt8
  rw [if_neg (by omega), hs, if_neg (by decide), Int.toNat_natCast]
  show [UInt8.ofNat (192 + n / 64), UInt8.ofNat (128 + n / 1 % 64)] = _
  rw [Nat.div_one]
theorem pt8_3 {n : Nat} (hs : Scalar (n : Int)) (h0 : 2048 ≤ n) (h : n < 65536) : pt8 (n : Int) = [UInt8.ofNat (224 + n / 4096), UInt8.ofNat (128 + n / 64 % 64), UInt8.ofNat (128 + n % 64)] := by
  have hs : sz8 (n : Int) = 3 := by rw [sz8_nat hs, if_neg (by omega), if_neg (by omega), if_pos h]
  unfold pt8
  rw [if_neg (by omega), hs, if_neg (by decide), Int.toNat_natCast]
  show [UInt8.ofNat (224 + n / 4096), UInt8.ofNat (128 + n / 64 % 64), UInt8.ofNat (128 + n / 1 % 64)] = _
  rw [Nat.div_one]
theorem pt8_4 {n : Nat} (h0 : 65536 ≤ n) (h : n < 1114112) : pt8 (n : Int) = [UInt8.ofNat (240 + n / 262144), UInt8.ofNat (128 + n / 4096 % 64), UInt8.ofNat (128 + n / 64 % 64), UInt8.ofNat (128 + n % 64)] := by
  have hs : sz8 (n : Int) = 4 := by rw [sz8_nat (.inr (by omega)), if_neg (by omega), if_neg (by omega), if_neg (by omega)]
  unfold pt8
  rw [if_neg (by omega), hs, if_neg (by decide), Int.toNat_natCast]
  show [UInt8.ofNat (240 + n / 262144), UInt8.ofNat (128 + n / 4096 % 64), UInt8.ofNat (128 + n / 64 % 64), UInt8.ofNat (128 + n / 1 % 64)] = _
  rw [Nat.div_one]
theorem cont_iff (c : UInt8) : cont c = true ↔ 128 ≤ c.toNat ∧ c.toNat < 192 := by
  unfold cont; simp; omega
theorem nx8_back {b : UInt8} {r : Bs} (h : 0 ≤ (nx8 (b :: r)).1) : Scalar (nx8 (b :: r)).1 ∧ pt8 (nx8 (b :: r)).1 = (b :: r).take (nx8 (b :: r)).2 ∧ sz8 (nx8 (b :: r)).1 = (nx8 (b :: r)).2 := by
  have hb := b.toNat_lt
  have h2 := rowOf_bnds b r
  simp only [nx8] at h ⊢
  by_cases hc : (rowOf (b :: r)).2 = 0 ∨ (rowOf (b :: r)).1 < (rowOf (b :: r)).2
  · rw [if_pos hc] at h
    have : (0 : Int) ≤ -1 - (b.toNat : Int) := h
    omega
  rw [if_neg hc] at h ⊢
  obtain ⟨hn0, hle⟩ : ¬ (rowOf (b :: r)).2 = 0 ∧ ¬ (rowOf (b :: r)).1 < (rowOf (b :: r)).2 := ⟨fun h => hc (.inl h), fun h => hc (.inr h)⟩
  clear hc
  have two : ∀ {lo hi k : Nat}, bnds b.toNat = (k + 2, lo, hi) → ∃ c r', r = c :: r' ∧ lo ≤ c.toNat ∧ c.toNat ≤ hi ∧ k ≤ more k r' ∧ (rowOf (b :: r)).2 = k + 2 := by
    intro lo hi k hk
    rw [h2, hk] at hle
    cases r with
    | nil =>
      have e : rowOf [b] = (1, k + 2) := by simp only [rowOf, hk]; rw [if_neg (by omega)]
      rw [e] at hle; simp at hle
    | cons c r' =>
      have e : rowOf (b :: c :: r') = if c.toNat < lo ∨ hi < c.toNat then (1, k + 2) else (2 + more k r', k + 2) := by simp only [rowOf, hk]; rw [if_neg (by omega)]; rfl
      rw [e] at hle
      dsimp only at hle
      by_cases hcc : c.toNat < lo ∨ hi < c.toNat
      · rw [if_pos hcc] at hle; simp at hle
      · rw [if_neg hcc] at hle
        simp only at hle
        exact ⟨c, r', rfl, by omega, by omega, by omega, by rw [h2, hk]⟩
  have more1 : ∀ {r : Bs}, 1 ≤ more 1 r → ∃ d r', r = d :: r' ∧ 128 ≤ d.toNat ∧ d.toNat < 192 := by
    intro r hr
    cases r with
    | nil => simp [more] at hr
    | cons d r' =>
      by_cases hd : cont d = true
      · exact ⟨d, r', rfl, (cont_iff d).1 hd⟩
      · simp [more, hd] at hr
  have more2 : ∀ {r : Bs}, 2 ≤ more 2 r → ∃ d e r', r = d :: e :: r' ∧ 128 ≤ d.toNat ∧ d.toNat < 192 ∧ 128 ≤ e.toNat ∧ e.toNat < 192 := by
    intro r hr
    cases r with
    | nil => simp [more] at hr
    | cons d r' =>
      by_cases hd : cont d = true
      · have hr' : 1 ≤ more 1 r' := by
          have e2 : more 2 (d :: r') = more 1 r' + 1 := by show (if cont d then more 1 r' + 1 else 0) = _; rw [if_pos hd]
          omega
        obtain ⟨e, r'', rfl, h1⟩ := more1 hr'
        exact ⟨d, e, r'', rfl, ((cont_iff d).1 hd).1, ((cont_iff d).1 hd).2, h1⟩
      · simp [more, hd] at hr
  have fin2 : ∀ {lo hi : Nat}, bnds b.toNat = (2, lo, hi) → 194 ≤ b.toNat → b.toNat < 224 → 128 ≤ lo → hi ≤ 191 →
      Scalar ((rest (lead (rowOf (b :: r)).2 b.toNat) (r.take ((rowOf (b :: r)).2 - 1)) : Nat) : Int) ∧ pt8 ((rest (lead (rowOf (b :: r)).2 b.toNat) (r.take ((rowOf (b :: r)).2 - 1)) : Nat) : Int) = (b :: r).take (rowOf (b :: r)).2 ∧ sz8 ((rest (lead (rowOf (b :: r)).2 b.toNat) (r.take ((rowOf (b :: r)).2 - 1)) : Nat) : Int) = (rowOf (b :: r)).2 := by
    intro lo hi hk g1 g2 g3 g4
    obtain ⟨c, r', rfl, c1, c2, _, hn⟩ := two (k := 0) hk
    rw [hn]
    show Scalar (((b.toNat % 32 * 64 + c.toNat % 64 : Nat)) : Int) ∧ pt8 (((b.toNat % 32 * 64 + c.toNat % 64 : Nat)) : Int) = [b, c] ∧ sz8 (((b.toNat % 32 * 64 + c.toNat % 64 : Nat)) : Int) = 2
    have hS : Scalar (((b.toNat % 32 * 64 + c.toNat % 64 : Nat)) : Int) := .inl (by omega)
    refine ⟨hS, ?_, ?_⟩
    · rw [pt8_2 (by omega) (by omega), byte_of (b := b) (by omega), byte_of (b := c) (by omega)]
    · rw [sz8_nat hS, if_neg (by omega), if_pos (by omega)]
  have fin3 : ∀ {lo hi : Nat}, bnds b.toNat = (3, lo, hi) → 224 ≤ b.toNat → b.toNat < 240 → 128 ≤ lo → hi ≤ 191 → (b.toNat = 224 → 160 ≤ lo) → (b.toNat = 237 → hi ≤ 159) →
      Scalar ((rest (lead (rowOf (b :: r)).2 b.toNat) (r.take ((rowOf (b :: r)).2 - 1)) : Nat) : Int) ∧ pt8 ((rest (lead (rowOf (b :: r)).2 b.toNat) (r.take ((rowOf (b :: r)).2 - 1)) : Nat) : Int) = (b :: r).take (rowOf (b :: r)).2 ∧ sz8 ((rest (lead (rowOf (b :: r)).2 b.toNat) (r.take ((rowOf (b :: r)).2 - 1)) : Nat) : Int) = (rowOf (b :: r)).2 := by
    intro lo hi hk g1 g2 g3 g4 g5 g6
    obtain ⟨c, r', rfl, c1, c2, hm, hn⟩ := two (k := 1) hk
    obtain ⟨d, r'', rfl, d1, d2⟩ := more1 hm
    rw [hn]
    show Scalar ((((b.toNat % 16 * 64 + c.toNat % 64) * 64 + d.toNat % 64 : Nat)) : Int) ∧ pt8 ((((b.toNat % 16 * 64 + c.toNat % 64) * 64 + d.toNat % 64 : Nat)) : Int) = [b, c, d] ∧ sz8 ((((b.toNat % 16 * 64 + c.toNat % 64) * 64 + d.toNat % 64 : Nat)) : Int) = 3
    have hS : Scalar ((((b.toNat % 16 * 64 + c.toNat % 64) * 64 + d.toNat % 64 : Nat)) : Int) := by
      unfold Scalar
      by_cases h7 : b.toNat = 237
      · have := g6 h7; omega
      · omega
    have hlow : 2048 ≤ (b.toNat % 16 * 64 + c.toNat % 64) * 64 + d.toNat % 64 := by
      by_cases h4 : b.toNat = 224
      · have := g5 h4; omega
      · omega
    refine ⟨hS, ?_, ?_⟩
    · rw [pt8_3 hS hlow (by omega), byte_of (b := b) (by omega), byte_of (b := c) (by omega), byte_of (b := d) (by omega)]
    · rw [sz8_nat hS, if_neg (by omega), if_neg (by omega), if_pos (by omega)]
  have fin4 : ∀ {lo hi : Nat}, bnds b.toNat = (4, lo, hi) → 240 ≤ b.toNat → b.toNat < 245 → 128 ≤ lo → hi ≤ 191 → (b.toNat = 240 → 144 ≤ lo) → (b.toNat = 244 → hi ≤ 143) →
      Scalar ((rest (lead (rowOf (b :: r)).2 b.toNat) (r.take ((rowOf (b :: r)).2 - 1)) : Nat) : Int) ∧ pt8 ((rest (lead (rowOf (b :: r)).2 b.toNat) (r.take ((rowOf (b :: r)).2 - 1)) : Nat) : Int) = (b :: r).take (rowOf (b :: r)).2 ∧ sz8 ((rest (lead (rowOf (b :: r)).2 b.toNat) (r.take ((rowOf (b :: r)).2 - 1)) : Nat) : Int) = (rowOf (b :: r)).2 := by
    intro lo hi hk g1 g2 g3 g4 g5 g6
    obtain ⟨c, r', rfl, c1, c2, hm, hn⟩ := two (k := 2) hk
    obtain ⟨d, e, r'', rfl, d1, d2, e1, e2⟩ := more2 hm
    rw [hn]
    show Scalar (((((b.toNat % 8 * 64 + c.toNat % 64) * 64 + d.toNat % 64) * 64 + e.toNat % 64 : Nat)) : Int) ∧ pt8 (((((b.toNat % 8 * 64 + c.toNat % 64) * 64 + d.toNat % 64) * 64 + e.toNat % 64 : Nat)) : Int) = [b, c, d, e] ∧ sz8 (((((b.toNat % 8 * 64 + c.toNat % 64) * 64 + d.toNat % 64) * 64 + e.toNat % 64 : Nat)) : Int) = 4
    have hlow : 65536 ≤ ((b.toNat % 8 * 64 + c.toNat % 64) * 64 + d.toNat % 64) * 64 + e.toNat % 64 := by
      by_cases h4 : b.toNat = 240
      · have := g5 h4; omega
      · omega
    have hhigh : ((b.toNat % 8 * 64 + c.toNat % 64) * 64 + d.toNat % 64) * 64 + e.toNat % 64 < 1114112 := by
      by_cases h4 : b.toNat = 244
      · have := g6 h4; omega
      · omega
    have hS : Scalar (((((b.toNat % 8 * 64 + c.toNat % 64) * 64 + d.toNat % 64) * 64 + e.toNat % 64 : Nat)) : Int) := .inr (by omega)
    refine ⟨hS, ?_, ?_⟩
    · rw [pt8_4 hlow hhigh, byte_of (b := b) (by omega), byte_of (b := c) (by omega), byte_of (b := d) (by omega), byte_of (b := e) (by omega)]
    · rw [sz8_nat hS, if_neg (by omega), if_neg (by omega), if_neg (by omega)]
  by_cases k1 : b.toNat < 128
  · have hk : bnds b.toNat = (1, 0, 0) := by unfold bnds; rw [if_pos k1]
    have hn : (rowOf (b :: r)).2 = 1 := by rw [h2, hk]
    rw [hn]
    show Scalar ((b.toNat : Nat) : Int) ∧ pt8 ((b.toNat : Nat) : Int) = [b] ∧ sz8 ((b.toNat : Nat) : Int) = 1
    have hS : Scalar ((b.toNat : Nat) : Int) := .inl (by omega)
    exact ⟨hS, by rw [pt8_1 k1, ofNat_toNat], by rw [sz8_nat hS, if_pos k1]⟩
  by_cases k2 : b.toNat < 194
  · exact absurd (by rw [h2]; unfold bnds; rw [if_neg k1, if_pos k2]) hn0
  by_cases k3 : b.toNat < 224
  · exact fin2 (lo := 128) (hi := 191) (by unfold bnds; rw [if_neg k1, if_neg k2, if_pos k3]) (by omega) k3 (by omega) (by omega)
  by_cases k4 : b.toNat = 224
  · exact fin3 (lo := 160) (hi := 191) (by unfold bnds; rw [if_neg k1, if_neg k2, if_neg k3, if_pos k4]) (by omega) (by omega) (by omega) (by omega) (fun _ => by omega) (fun h => by omega)
  by_cases k5 : b.toNat = 237
  · exact fin3 (lo := 128) (hi := 159) (by unfold bnds; rw [if_neg k1, if_neg k2, if_neg k3, if_neg k4, if_pos k5]) (by omega) (by omega) (by omega) (by omega) (fun h => by omega) (fun _ => by omega)
  by_cases k6 : b.toNat < 240
  · exact fin3 (lo := 128) (hi := 191) (by unfold bnds; rw [if_neg k1, if_neg k2, if_neg k3, if_neg k4, if_neg k5, if_pos k6]) (by omega) (by omega) (by omega) (by omega) (fun h => by omega) (fun h => by omega)
  by_cases k7 : b.toNat = 240
  · exact fin4 (lo := 144) (hi := 191) (by unfold bnds; rw [if_neg k1, if_neg k2, if_neg k3, if_neg k4, if_neg k5, if_neg k6, if_pos k7]) (by omega) (by omega) (by omega) (by omega) (fun _ => by omega) (fun h => by omega)
  by_cases k8 : b.toNat < 244
  · exact fin4 (lo := 128) (hi := 191) (by unfold bnds; rw [if_neg k1, if_neg k2, if_neg k3, if_neg k4, if_neg k5, if_neg k6, if_neg k7, if_pos k8]) (by omega) (by omega) (by omega) (by omega) (fun h => by omega) (fun h => by omega)
  by_cases k9 : b.toNat = 244
  · exact fin4 (lo := 128) (hi := 143) (by unfold bnds; rw [if_neg k1, if_neg k2, if_neg k3, if_neg k4, if_neg k5, if_neg k6, if_neg k7, if_neg k8, if_pos k9]) (by omega) (by omega) (by omega) (by omega) (fun h => by omega) (fun _ => by omega)
  · exact absurd (by rw [h2]; unfold bnds; rw [if_neg k1, if_neg k2, if_neg k3, if_neg k4, if_neg k5, if_neg k6, if_neg k7, if_neg k8, if_neg k9]) hn0
def leadN (n : Nat) : Int := if n = 2 then 192 else if n = 3 then 224 else if n = 4 then 240 else 0
def goOn (a : Int) (l : Bs) : Int := l.foldl (fun a c => a * 64 + (c.toNat : Int) - 128) a
def meantP (n : Nat) : Bs → Int
  | [] => 0
  | b :: r => goOn ((b.toNat : Int) - leadN n) (r.take (n - 1))
theorem meant_pt {a : Int} (h : Scalar a) (r : Bs) : meantP (sz8 a) (pt8 a ++ r) = a := by
  obtain ⟨n, rfl⟩ : ∃ n : Nat, a = (n : Int) := Int.eq_ofNat_of_zero_le (by rcases h with h | h <;> omega)
  have hs := sz8_nat h
  by_cases k1 : n < 128
  · rw [if_pos k1] at hs
    rw [hs, pt8_1 k1]
    show goOn (((UInt8.ofNat n).toNat : Int) - 0) [] = _
    rw [byte_nat (by omega)]; show ((n : Int) - 0) = n; omega
  by_cases k2 : n < 2048
  · rw [if_neg k1, if_pos k2] at hs
    rw [hs, pt8_2 (by omega) k2]
    show (((UInt8.ofNat (192 + n / 64)).toNat : Int) - 192) * 64 + ((UInt8.ofNat (128 + n % 64)).toNat : Int) - 128 = _
    rw [byte_nat (by omega), byte_nat (by omega)]; omega
  by_cases k3 : n < 65536
  · rw [if_neg k1, if_neg k2, if_pos k3] at hs
    rw [hs, pt8_3 h (by omega) k3]
    show ((((UInt8.ofNat (224 + n / 4096)).toNat : Int) - 224) * 64 + ((UInt8.ofNat (128 + n / 64 % 64)).toNat : Int) - 128) * 64 + ((UInt8.ofNat (128 + n % 64)).toNat : Int) - 128 = _
    rw [byte_nat (by omega), byte_nat (by omega), byte_nat (by omega)]; omega
  · rw [if_neg k1, if_neg k2, if_neg k3] at hs
    have h' : n < 1114112 := by rcases h with h | h <;> omega
    rw [hs, pt8_4 (by omega) h']
    show (((((UInt8.ofNat (240 + n / 262144)).toNat : Int) - 240) * 64 + ((UInt8.ofNat (128 + n / 4096 % 64)).toNat : Int) - 128) * 64 + ((UInt8.ofNat (128 + n / 64 % 64)).toNat : Int) - 128) * 64 + ((UInt8.ofNat (128 + n % 64)).toNat : Int) - 128 = _
    rw [byte_nat (by omega), byte_nat (by omega), byte_nat (by omega), byte_nat (by omega)]; omega
def Hit (r : Bs) (n : Nat) : Prop := Scalar (meantP n r) ∧ r.take (pt8 (meantP n r)).length = pt8 (meantP n r) ∧ (pt8 (meantP n r)).length = n
theorem hit_nx {r : Bs} {n : Nat} (h : Hit r n) : nx8 r = (meantP n r, n) := by
  obtain ⟨h1, h2, h3⟩ := h
  have e : r = pt8 (meantP n r) ++ r.drop (pt8 (meantP n r)).length := by
    conv => lhs; rw [← List.take_append_drop (pt8 (meantP n r)).length r, h2]
  have := nx8_pt h1 (r.drop (pt8 (meantP n r)).length)
  rw [← e] at this
  have hl : (pt8 (meantP n r)).length = sz8 (meantP n r) := pt_len .u8 _ (fun h0 => by
    have h4 : sz8 (meantP n r) ≠ 0 := by
      unfold sz8
      rw [if_neg (by rcases h1 with h | h <;> omega)]
      repeat' split
      all_goals decide
    exact h4 h0)
  rw [this, ← hl, h3]
theorem nx_hit {b : UInt8} {r : Bs} (h : 0 ≤ (nx8 (b :: r)).1) : Hit (b :: r) (nx8 (b :: r)).2 ∧ meantP (nx8 (b :: r)).2 (b :: r) = (nx8 (b :: r)).1 := by
  obtain ⟨h1, h2, h3⟩ := nx8_back h
  have hsz := nx8_size b r
  have hl : (pt8 (nx8 (b :: r)).1).length = (nx8 (b :: r)).2 := by rw [h2, List.length_take]; omega
  have hm : meantP (nx8 (b :: r)).2 (b :: r) = (nx8 (b :: r)).1 := by
    have := meant_pt h1 ((b :: r).drop (nx8 (b :: r)).2)
    rw [h2, List.take_append_drop, h3] at this
    exact this
  refine ⟨⟨?_, ?_, ?_⟩, hm⟩
  · rw [hm]; exact h1
  · rw [hm, hl]; exact h2.symm
  · rw [hm, hl]
theorem nx_neg {b : UInt8} {r : Bs} (h : ¬ 0 ≤ (nx8 (b :: r)).1) : nx8 (b :: r) = (-1 - (b.toNat : Int), 1) := by
  simp only [nx8] at h ⊢
  split at h
  · rename_i hc; rw [if_pos hc]
  · exact absurd (Int.natCast_nonneg _) h
end Cdc
end Go.Proofs.YtabcpghhfeplaaaGreat
set_option linter.unusedSimpArgs false
set_option linter.unusedVariables false
set_option maxRecDepth 100000
namespace Go.Proofs.YtabcpghhfeplaaaGreat
open Go Go.Vx Cdc Trx
section
variable {w w' : World} {S : Nat → Prop} {p : Nat} {e : Enc} {lim na : Nat} {O : Nat → Prop} {M : Parts}
theorem eParts : ElemOk Tryz.prog 108 112 7 64 := ElemOk.of (z := .agg #[.slice none 0 0, .int .i64 0, .int .i64 0, .int .i64 0, .int .i64 0, .bool false, .bool false]) i108_ok i112_ok rfl rfl rfl (by decide)
def bOf (M : Parts) : Bs := M.flatMap fun x => x.2
theorem bOf_app (M N : Parts) : bOf (M ++ N) = bOf M ++ bOf N := by simp [bOf]
theorem Pc_one (x : Pc) : ∀ v ∈ flat c112 [pcT x], isOne v = true := by
  intro v hv
  rw [flat_one] at hv
  have : v ∈ (Cells.vals c112 (pcT x)) := hv
  revert this
  show v ∈ [_, _, _, _, _, _, _] → _
  intro h
  simp only [List.mem_cons, List.not_mem_nil, or_false] at h
  rcases h with rfl | rfl | rfl | rfl | rfl | rfl | rfl <;> rfl
set_option maxHeartbeats 1000000 in
theorem open_call {s : Sl} {l : Bs} (hB : By w s l) (hl : l.length ≤ lim) (hlim : lim ≤ 65536) {K : Option Addr × Int × Unit → World → Prop}
    (hK : ∀ p O M w', Txt w' p e lim 0 O M → aOf e M = ats e l → bOf M = l → Ext w w' → (∀ k, O k → w.heap.size ≤ k) → K (some (at0 p), 0, ()) w') :
    callT Tryz.prog 35 #[.int .i64 e.num, .slice s.a s.len s.cap, .int .i64 (lim : Int)] (.tup [(.one .ptr), (.one (.int .i64))]) K w := by
  refine F35_calls ?_
  unfold F35
  have hlen := hB.len
  have hen : 1 ≤ e.num ∧ e.num ≤ 4 := by cases e <;> decide
  refine join_r (fun x w' => x = (false, ()) ∧ w = w') (sif_r (fun h => ?_) (fun h => ⟨by rw [decide_eq_false (by omega)], rfl⟩)) ?_
  · simp only [decide_eq_true_eq] at h; omega
  rintro _ _ ⟨rfl, rfl⟩
  refine sif_false (join_r (fun x w' => x = (false, ()) ∧ w = w') (sif_r (fun h => ?_) (fun h => ⟨by rw [decide_eq_false (by omega)], rfl⟩)) ?_)
  · simp only [decide_eq_true_eq] at h; omega
  rintro _ _ ⟨rfl, rfl⟩
  refine sif_false (sif_r (fun h => ?_) (fun _ => ?_))
  · simp only [decide_eq_true_eq, gt_iff_lt] at h; omega
  refine makeSlice_r EBy.ts_ i5_ok (z := .int .u8 0) rfl rfl (by omega) (by show ((s.len : Nat) : Int) * 1 ≤ 2 ^ 48; omega) (by omega) fun b w1 c n1 hc1 _ e1 hb1 => ?_
  rw [Int.toNat_natCast] at hc1 ⊢
  have hc1' : c.size = s.len := by rw [hc1]; show s.len * 1 = _; omega
  refine copy_r (off := 0) EBy.ts_ i5_ok.run_size n1 (by rw [List.length_map]; omega) (hB.ext e1).x (Nat.le_refl _) (bv_one l) fun w2 n2 u2 _ => ?_
  rw [setRow_whole (bv l) c (by rw [List.length_map]; omega)] at n2
  have e2 : Ext w w2 := e1.step u2 fun k hk => by omega
  have hL : By w2 ⟨some (at0 b), s.len, s.len⟩ l := by
    have := SlIn.of_box n2 (n := s.len) (sz := 1) (by simp; omega)
    simpa using this
  refine (St.start w2).newO fun b7 w3 S3 e3 => ?_
  have hb7 := S3.ge 0 rfl
  let Zt : Option Addr → Obj := fun q => .cells #[.int .i64 e.num, .int .i64 (lim : Int), .pointer q, .slice none 0 0] 107 (0, 0)
  let Lp : Nat → Sl → World → Prop := fun j r W => ∃ (its : List Pc) (M : Parts), St (fun _ => False) w2 W [(b7, Zt none)] ∧ SlOwn W w3.heap.size r 112 7 (flat c112 (its.map pcT)) ∧ Its W e its M ∧ aOf e M = (ats e l).take j ∧ bOf M = l.take (szs ((ats e l).take j)) ∧
    (∀ x ∈ its, ∀ k, x.bytes.blk k → k = b) ∧ By W ⟨some (at0 b), s.len, s.len⟩ l ∧ its.length ≤ j ∧ w3.heap.size ≤ W.heap.size
  have hne : ∀ {r : Sl} {its : List Pc} {W : World}, SlOwn W w3.heap.size r 112 7 (flat c112 (its.map pcT)) → its.length = r.len := fun ho => by
    have := SlOwn.lenR (cs := c112) ho (by decide)
    rwa [List.length_map] at this
  refine join_r (fun x W => ∃ j, Lp j x.1 W ∧ (ats e l).take j = ats e l) ?_ ?_
  · refine sloop_r (fun x W => ∃ j, j ≤ (ats e l).length ∧ x.2 = (((szs ((ats e l).take j) : Nat) : Int), ()) ∧ Lp j x.1 W) (fun x _ => ((l.length : Int) - x.2.1).toNat) ⟨0, Nat.zero_le _, rfl, [], [], S3, SlOwn.nil _ _ _ _, trivial, rfl, rfl, (fun _ h => by cases h), hL.ext e3, Nat.le_refl _, Nat.le_refl _⟩ ?_
    rintro ⟨r, _⟩ W4 ⟨j, hj, rfl, its, M, S4, ho, hi, ha, hb, hk, hL4, hil, hW4⟩
    have hsj : szs ((ats e l).take j) ≤ l.length := pos_le j
    dsimp only at ho ⊢
    refine sif_r (fun hc => ?_) (fun hc => ?_)
    · simp only [decide_eq_true_eq] at hc
      have hc' : szs ((ats e l).take j) < l.length := by omega
      refine join_r (fun x W => ∃ q, 1 ≤ q ∧ j + q ≤ (ats e l).length ∧ x = (((szs ((ats e l).take (j + q)) : Nat) : Int), ()) ∧ Ext W4 W) ?_ ?_
      · refine sloop_r (fun x W => ∃ q, j + q ≤ (ats e l).length ∧ q ≤ 128 ∧ x = (((szs ((ats e l).take (j + q)) : Nat) : Int), (q : Int), ()) ∧ Ext W4 W) (fun x _ => ((l.length : Int) - x.1).toNat) ⟨0, by omega, by omega, rfl, Ext.refl W4⟩ ?_
        rintro _ W5 ⟨q, hq, hq2, rfl, x5⟩
        have hsq : szs ((ats e l).take (j + q)) ≤ l.length := pos_le _
        refine join_r (fun x W => x = (decide (szs ((ats e l).take (j + q)) < l.length ∧ q < 128), ()) ∧ W5 = W) ?_ ?_
        · refine sif_r (fun h => ⟨tupb ?_, rfl⟩) (fun h => ⟨tupb ?_, rfl⟩)
          · simp only [decide_eq_true_eq] at h ⊢; omega
          · simp only [decide_eq_false_iff_not, decide_eq_true_eq] at h ⊢
            exact ⟨(fun h => by cases h), fun h => by omega⟩
        rintro _ W6 ⟨rfl, rfl⟩
        refine sif_r (fun h => ?_) (fun h => ?_)
        · simp only [decide_eq_true_eq] at h
          obtain ⟨a, m, hqa, hnx, htk, hss, hm1, hsl⟩ := pos_step (e := e) (l := l) (j := j + q) h.1
          have hql : j + q < (ats e l).length := (List.getElem?_eq_some_iff.1 hqa).1
          refine next_call (hL4.ext x5) h.1 fun W7 x7 => ?_
          rw [hnx]
          have ewa : IntKind.wrap .i64 (((szs ((ats e l).take (j + q)) : Nat) : Int) + (m : Int)) = ((szs ((ats e l).take (j + q + 1)) : Nat) : Int) := by rw [wrap64 (by omega) (by omega)]; omega
          have ewb : IntKind.wrap .i64 ((q : Int) + 1) = ((q + 1 : Nat) : Int) := by rw [wrap64 (by omega) (by omega)]; omega
          refine ⟨⟨q + 1, by omega, by omega, by dsimp only; rw [ewa, ewb]; rfl, x5.trans x7⟩, ?_⟩
          dsimp only
          rw [ewa]; omega
        · refine ⟨q, ?_, hq, rfl, x5⟩
          rcases Nat.eq_zero_or_pos q with h0 | h0
          · subst h0
            have h' : ¬ (szs ((ats e l).take (j + 0)) < l.length ∧ 0 < 128) := fun hh => by rw [decide_eq_true hh] at h; cases h
            exact absurd ⟨hc', by decide⟩ h'
          · exact h0
      · rintro _ W5 ⟨q, hq1, hjq, rfl, x5⟩
        have S5 := S4.ext x5
        have hsq : szs ((ats e l).take (j + q)) ≤ l.length := pos_le _
        have hadd : szs ((ats e l).take (j + q)) = szs ((ats e l).take j) + szs (((ats e l).drop j).take q) := by rw [List.take_add, szs_append]
        have hpq := ((ats_posd e l).drop j).take q
        have hqpos : 1 ≤ szs (((ats e l).drop j).take q) := by
          have := szs_ge hpq
          rw [List.length_take, List.length_drop] at this; omega
        obtain ⟨pb, hpb⟩ : ∃ pb : Bs, pb = (l.drop (szs ((ats e l).take j))).take (szs (((ats e l).drop j).take q)) := ⟨_, rfl⟩
        have hpa : ats e pb = ((ats e l).drop j).take q := by
          have h1 := (ats_cut e j l).2
          have h2 := (ats_cut e q (l.drop (szs ((ats e l).take j)))).1
          rw [h1] at h2
          rw [hpb]; exact h2
        have hpl : pb.length = szs (((ats e l).drop j).take q) := by rw [← hpa, szs_all]
        have hL5 := hL4.ext x5
        have hcut := By.cut hL5 (l := ((szs ((ats e l).take j) : Nat) : Int)) (h := ((szs ((ats e l).take (j + q)) : Nat) : Int)) (m := ((szs ((ats e l).take (j + q)) : Nat) : Int)) (by omega) (by omega) (by show _ ≤ ((s.len : Nat) : Int); omega) (by omega) (by show _ ≤ ((s.len : Nat) : Int); omega)
        have hcb : (l.drop ((szs ((ats e l).take j) : Nat) : Int).toNat).take (((szs ((ats e l).take (j + q)) : Nat) : Int).toNat - ((szs ((ats e l).take j) : Nat) : Int).toNat) = pb := by
          rw [hpb, Int.toNat_natCast, Int.toNat_natCast, hadd, Nat.add_sub_cancel_left]
        rw [hcb] at hcut
        refine chk_r (by omega) (newpart_call hcut (by omega) fun W6 x6 => ?_)
        have S6 := S5.ext x6
        refine S6.newO fun b21 W7 S7 x7 => ?_
        have x47 := (x5.trans x6).trans x7
        have hrl := hne ho
        have hi7 : Its W7 e its M := hi.ext x47
        have hx : PcIn W7 e (mkPc e (Sl.cut (some (at0 b)) ((szs ((ats e l).take j) : Nat) : Int) ((szs ((ats e l).take (j + q)) : Nat) : Int) ((szs ((ats e l).take (j + q)) : Nat) : Int) 1) ((szs ((ats e l).take j) : Nat) : Int) pb) (((szs ((ats e l).take j) : Nat) : Int), pb) :=
          ⟨hcut.ext (x6.trans x7), rfl, rfl, fun h0 => by have h0' : pb = [] := h0; rw [h0'] at hpl; simp at hpl; omega, by show -1 ≤ ((szs ((ats e l).take j) : Nat) : Int); omega, by show ((szs ((ats e l).take j) : Nat) : Int) + (pb.length : Int) ≤ 2 ^ 40; omega⟩
        generalize hpc : mkPc e (Sl.cut (some (at0 b)) ((szs ((ats e l).take j) : Nat) : Int) ((szs ((ats e l).take (j + q)) : Nat) : Int) ((szs ((ats e l).take (j + q)) : Nat) : Int) 1) ((szs ((ats e l).take j) : Nat) : Int) pb = xp at *
        have hxb : ∀ k, xp.bytes.blk k → k = b := by
          rw [← hpc]
          rintro k hk
          obtain ⟨pp, hp1, hp2⟩ := cut_blk (s := ⟨some (at0 b), s.len, s.len⟩) hk
          cases hp1; exact hp2.symm
        have hbox : SlX W7 ⟨some (at0 b21), 1, 1⟩ 7 (flat c112 [pcT xp]) := by
          have := SlIn.of_box (S7.at_ 0 rfl) (n := 1) (sz := 7) rfl
          exact this.x
        refine append_rx eParts eParts.ts_ (x := ⟨some (at0 b21), 1, 1⟩) (ho.ext x47) hbox (Pc_one xp) (by
          show (r.len + 1 + (r.len + 1) / 4 + 512) * 64 ≤ 2 ^ 48
          have := szs_ge (ats_posd e l)
          rw [szs_all] at this
          omega) (by have := x47.size; omega) fun r' W8 o8 l8 u8 k8 => ?_
        have hty : ∀ {t' : TypeId}, 112 ≠ t' → NoTy W7 r.blk t' := fun ht => NoTy.blk (ho.ext x47).in ht
        have st8 : St (fun _ => False) w2 W8 [(b7, Zt none)] := by
          refine S7.tail.fresh u8 (fun k hk => .inr ?_) (fun x hx hk => ?_)
          · have := ho.blk_ge hk; have := e3.size; omega
          · rw [List.mem_singleton.1 hx] at hk
            exact hty (by decide) _ hk _ _ (S7.at_ 1 rfl)
        have e8 : flat c112 (its.map pcT) ++ flat c112 [pcT xp] = flat c112 ((its ++ [xp]).map pcT) := by rw [List.map_append, flat_append]; rfl
        rw [e8] at o8
        have hi8 : Its W8 e (its ++ [xp]) (M ++ [(((szs ((ats e l).take j) : Nat) : Int), pb)]) := by
          have h9 : Its W7 e (its ++ [xp]) (M ++ [(((szs ((ats e l).take j) : Nat) : Int), pb)]) := hi7.app ⟨hx, trivial⟩
          refine h9.upd u8 fun x hx k hk hS => ?_
          obtain ⟨y, hy⟩ : ∃ y, PcIn W7 e x y := by
            obtain ⟨n, hn⟩ := List.getElem?_of_mem hx
            obtain ⟨y, _, hy⟩ := h9.get n hn
            exact ⟨y, hy⟩
          obtain ⟨c2, fr2, hc2⟩ := hy.by_.blk_cells hk
          exact hty (t' := 5) (by decide) k hS _ _ hc2
        refine ⟨⟨j + q, hjq, rfl, its ++ [xp], M ++ [_], st8, o8, hi8, ?_, ?_, ?_, ?_, ?_, ?_⟩, ?_⟩
        · rw [aOf_app, ha, List.take_add]
          show _ ++ aOf e [_] = _
          simp only [aOf, List.flatMap_cons, List.flatMap_nil, List.append_nil]
          rw [hpa]
        · rw [bOf_app, hb, hadd, List.take_add]
          show _ ++ bOf [_] = _
          simp only [bOf, List.flatMap_cons, List.flatMap_nil, List.append_nil]
          rw [hpb]
        · intro x hx k hkk
          rcases List.mem_append.1 hx with hx | hx
          · exact hk x hx k hkk
          · rw [List.mem_singleton.1 hx] at hkk; exact hxb k hkk
        · exact SlIn.ty (hL5.ext (x6.trans x7)) u8 (hty (by decide))
        · rw [List.length_append]; simp; omega
        · have := u8.size; have := x47.size; omega
        · dsimp only
          omega
    · simp only [decide_eq_false_iff_not] at hc
      have := pos_end (e := e) (l := l) (j := j) (by omega)
      exact ⟨j, ⟨its, M, S4, ho, hi, ha, hb, hk, hL4, hil, hW4⟩, this⟩
  · rintro ⟨r, _⟩ W4 ⟨j, ⟨its, M, S4, ho, hi, ha, hb, hk, hL4, hil, hW4⟩, hj⟩
    rw [hj] at ha hb
    have hM : szs (aOf e M) = l.length := by rw [ha, szs_all]
    have hfine := hi.fine (by omega)
    refine treeOf_call (l := its) ho.in hfine fun t W5 ht hti x5 => nn_some ?_
    have S5 := S4.ext x5
    rw [addr_add]
    refine aggSt_r (S5.at_ 0 rfl) rfl rfl (by show 0 + 2 + 1 ≤ 4; decide) fun W6 u56 n6' z6 => ?_
    have n6 : W6.heap[b7]? = some (Zt t.ptr) := n6'
    have hb0 : w.heap.size ≤ b := by omega
    have hb0' : w.heap.size ≤ b7 := by have := e2.size; omega
    have e06 : Ext w W6 := (e2.trans S5.upd).step u56 fun k hk => by omega
    refine hK b7 (fun k => k = b ∨ k = b7) M W6 ⟨⟨t, ⟨none, 0, 0⟩, [], n6, ?_, ?_, SlOwn.nil _ _ _ _, ?_, ?_, ?_, Nat.le_refl _⟩, hlim, by omega, .inr rfl, ?_⟩ ha (by rw [hb, szs_all]; exact List.take_length) e06 (by rintro k (rfl | rfl) <;> assumption)
    · exact ht.ty u56 (NoTy.box (S5.at_ 0 rfl) (by decide))
    · rw [hti]
      refine (hi.ext x5).upd u56 fun x hx k hkk he => ?_
      have := hk x hx k hkk
      have hbl := lt_of_heap n2
      omega
    · rintro x hx k hkk ⟨q, hq, _⟩; cases hq
    · intro x hx k hkk
      rw [hti] at hx
      exact .inl (hk x hx k hkk)
    · rintro k ⟨q, hq, _⟩; cases hq
    · have hbl := lt_of_heap n2
      have h7 := lt_of_heap n6
      have := S5.upd.size
      rintro k (rfl | rfl) <;> omega
end
end Go.Proofs.YtabcpghhfeplaaaGreat
set_option linter.unusedSimpArgs false
set_option linter.unusedVariables false
set_option maxRecDepth 100000
namespace Go.Proofs.YtabcpghhfeplaaaGreat
open Go Go.Vx Cdc Trx
section
variable {w w' : World}
theorem bv_lit {b : Nat} {c : Array Value} {l : Bs} (h : w.heap[b]? = some (.cells c 5 (0, 0))) (hc : c.toList = bv l) : By w ⟨some (at0 b), l.length, l.length⟩ l := by
  have hs : c.size = l.length * 1 := by rw [← Array.length_toList, hc, List.length_map]; omega
  have := SlIn.of_box h (n := l.length) (sz := 1) hs
  rw [hc] at this
  exact this
theorem lit_byte {n : Int} {m : Nat} (hm : m < 256) (h : n = (m : Int)) : Value.int .u8 (IntKind.wrap .u8 n) = Value.int .u8 ((UInt8.ofNat m).toNat : Int) := by
  rw [h, byte_nat hm, wrap8 (by omega) (by omega)]
theorem eight_call {a : Int} (ha : Scalar a) {K : Sl → World → Prop} (hK : ∀ s w', By w' s (pt8 a) → Ext w w' → K s w') : callT Tryz.prog 118 #[.int .i64 a] (.one (.one .sl)) K w := by
  refine F118_calls ?_
  unfold F118
  obtain ⟨n, rfl⟩ : ∃ n : Nat, a = (n : Int) := Int.eq_ofNat_of_zero_le (by rcases ha with h | h <;> omega)
  have td : ∀ m : Nat, Int.tdiv (n : Int) ((m : Nat) : Int) = ((n / m : Nat) : Int) := fun m => by rw [Int.tdiv_eq_ediv_of_nonneg (by omega)]; rfl
  have tm : ∀ k m : Nat, Int.tmod (k : Int) ((m : Nat) : Int) = ((k % m : Nat) : Int) := fun k m => by rw [Int.tmod_eq_emod_of_nonneg (by omega)]; rfl
  have d64 := td 64; have d4096 := td 4096; have d262144 := td 262144
  have hn : n < 1114112 := by rcases ha with h | h <;> omega
  refine sif_r (fun h => ?_) (fun h => sif_r (fun h2 => ?_) (fun h2 => sif_r (fun h3 => ?_) (fun h3 => ?_)))
  · simp only [decide_eq_true_eq] at h
    refine newO_r fun b w1 e1 n1 _ _ => hK _ w1 ?_ e1
    have := bv_lit (l := pt8 (n : Int)) n1 (by rw [pt8_1 (by omega)]; show [_] = [_]; rw [lit_byte (m := n) (by omega) rfl])
    rw [pt8_1 (by omega)] at this ⊢
    exact this
  · simp only [decide_eq_true_eq, decide_eq_false_iff_not] at h h2
    refine chk_r (by decide) (chk_r (by decide) (newO_r fun b w1 e1 n1 _ _ => hK _ w1 ?_ e1))
    have := bv_lit (l := pt8 (n : Int)) n1 (by
      rw [pt8_2 (by omega) (by omega)]
      show [_, _] = [_, _]
      have e1 := td 64; have e2 := tm n 64
      simp only [Int.cast_ofNat_Int] at e1 e2
      rw [e1, e2, wrap64 (a := ((n / 64 : Nat) : Int)) (by omega) (by omega), wrap64 (by omega) (by omega), wrap64 (by omega) (by omega), lit_byte (m := 192 + n / 64) (by omega) (by omega), lit_byte (m := 128 + n % 64) (by omega) (by omega)])
    rw [pt8_2 (by omega) (by omega)] at this ⊢
    exact this
  · simp only [decide_eq_true_eq, decide_eq_false_iff_not] at h h2 h3
    refine chk_r (by decide) (chk_r (by decide) (chk_r (by decide) (chk_r (by decide) (newO_r fun b w1 e1 n1 _ _ => hK _ w1 ?_ e1))))
    have := bv_lit (l := pt8 (n : Int)) n1 (by
      rw [pt8_3 ha (by omega) (by omega)]
      show [_, _, _] = [_, _, _]
      have e1 := td 64; have e2 := tm n 64; have e3 := td 4096; have e4 := tm (n / 64) 64
      simp only [Int.cast_ofNat_Int] at e1 e2 e3 e4
      rw [e1, e2, e3, wrap64 (a := ((n / 64 : Nat) : Int)) (by omega) (by omega), wrap64 (a := ((n / 4096 : Nat) : Int)) (by omega) (by omega), e4, wrap64 (by omega) (by omega), wrap64 (by omega) (by omega), wrap64 (by omega) (by omega), lit_byte (m := 224 + n / 4096) (by omega) (by omega), lit_byte (m := 128 + n / 64 % 64) (by omega) (by omega), lit_byte (m := 128 + n % 64) (by omega) (by omega)])
    rw [pt8_3 ha (by omega) (by omega)] at this ⊢
    exact this
  · simp only [decide_eq_false_iff_not] at h h2 h3
    refine chk_r (by decide) (chk_r (by decide) (chk_r (by decide) (chk_r (by decide) (chk_r (by decide) (chk_r (by decide) (newO_r fun b w1 e1 n1 _ _ => hK _ w1 ?_ e1))))))
    have := bv_lit (l := pt8 (n : Int)) n1 (by
      rw [pt8_4 (by omega) (by omega)]
      show [_, _, _, _] = [_, _, _, _]
      have e1 := td 64; have e2 := tm n 64; have e3 := td 4096; have e4 := tm (n / 64) 64; have e5 := td 262144; have e6 := tm (n / 4096) 64
      simp only [Int.cast_ofNat_Int] at e1 e2 e3 e4 e5 e6
      rw [e1, e2, e3, e5, wrap64 (a := ((n / 64 : Nat) : Int)) (by omega) (by omega), wrap64 (a := ((n / 4096 : Nat) : Int)) (by omega) (by omega), wrap64 (a := ((n / 262144 : Nat) : Int)) (by omega) (by omega), e4, e6, wrap64 (by omega) (by omega), wrap64 (by omega) (by omega), wrap64 (by omega) (by omega), wrap64 (by omega) (by omega),
        lit_byte (m := 240 + n / 262144) (by omega) (by omega), lit_byte (m := 128 + n / 4096 % 64) (by omega) (by omega), lit_byte (m := 128 + n / 64 % 64) (by omega) (by omega), lit_byte (m := 128 + n % 64) (by omega) (by omega)])
    rw [pt8_4 (by omega) (by omega)] at this ⊢
    exact this
theorem begins_call {s t : Sl} {l m : Bs} {n : Nat} (hs : By w s l) (ht : By w t m) (hn : n ≤ l.length) (hl : l.length < 2 ^ 60) (hm : m.length < 2 ^ 60) {K : Bool → World → Prop} (hK : ∀ w', Ext w w' → K (decide ((l.drop n).take m.length = m)) w') :
    callT Tryz.prog 119 #[.slice s.a s.len s.cap, .int .i64 (n : Int), .slice t.a t.len t.cap] (.one (.one .bool)) K w := by
  refine F119_calls ?_
  unfold F119
  have h1 := hs.len; have h2 := ht.len
  rw [wrap64 (by omega) (by omega)]
  refine sif_r (fun h => ?_) (fun h => ?_)
  · simp only [decide_eq_true_eq, gt_iff_lt] at h
    have := hK w (Ext.refl w)
    rw [decide_eq_false] at this
    · exact this
    · intro hc
      have := congrArg List.length hc
      rw [List.length_take, List.length_drop] at this; omega
  simp only [decide_eq_false_iff_not, gt_iff_lt] at h
  refine join_r (fun _ w' => Ext w w' ∧ (l.drop n).take m.length = m) ?_ ?_
  · refine sloop_r (fun x w' => ∃ i : Nat, i ≤ m.length ∧ x = ((i : Int), ()) ∧ Ext w w' ∧ (l.drop n).take i = m.take i) (fun x _ => ((m.length : Int) - x.1).toNat) ⟨0, Nat.zero_le _, rfl, Ext.refl w, by simp⟩ ?_
    rintro _ w1 ⟨i, hi, rfl, e1, heq⟩
    refine sif_r (fun hc => ?_) (fun hc => ?_)
    · simp only [decide_eq_true_eq] at hc
      have him : i < m.length := by omega
      have hil : n + i < l.length := by omega
      have ew : IntKind.wrap .i64 ((n : Int) + (i : Int)) = ((n + i : Nat) : Int) := by rw [wrap64 (by omega) (by omega)]; omega
      rw [ew]
      refine drew_r fun w2 e2 _ => ix_by (hs.ext (e1.trans e2)) (by omega) (b := l[n + i]) (by rw [Int.toNat_natCast]; simp [hil]) fun p => ix_by (ht.ext (e1.trans e2)) (by omega) (b := m[i]) (by rw [Int.toNat_natCast]; simp [him]) fun q => ?_
      have g1 : (l.drop n)[i]? = some l[n + i] := by rw [List.getElem?_drop]; simp [hil]
      refine sif_r (fun hne => ?_) (fun hne => ?_)
      · simp only [bne_iff_ne] at hne
        have := hK w2 (e1.trans e2)
        rw [decide_eq_false] at this
        · exact this
        · intro hc2
          have h5 : ((l.drop n).take m.length)[i]? = m[i]? := by rw [hc2]
          rw [List.getElem?_take, if_pos him, g1, List.getElem?_eq_getElem him] at h5
          exact hne (by rw [Option.some.inj h5])
      · have hne' : ((l[n + i].toNat : Int) != (m[i].toNat : Int)) = false := hne
        simp only [bne_eq_false_iff_eq] at hne'
        have hbe : l[n + i] = m[i] := UInt8.toNat_inj.1 (by omega)
        have ew2 : IntKind.wrap .i64 ((i : Int) + 1) = ((i + 1 : Nat) : Int) := by rw [wrap64 (by omega) (by omega)]; omega
        refine ⟨⟨i + 1, by omega, by rw [ew2], e1.trans e2, ?_⟩, ?_⟩
        · rw [List.take_add_one, List.take_add_one, heq, g1, List.getElem?_eq_getElem him, hbe]
        · dsimp only
          rw [ew2]; omega
    · simp only [decide_eq_false_iff_not] at hc
      have : i = m.length := by omega
      subst this
      exact ⟨e1, by rw [heq, List.take_length]⟩
  · rintro _ w1 ⟨e1, heq⟩
    have := hK w1 e1
    rwa [decide_eq_true heq] at this
theorem goOn_bound : ∀ (l : Bs) (a : Int), l.length ≤ 3 → -1000 ≤ a → a ≤ 1000 → -1000000000 ≤ goOn a l ∧ goOn a l ≤ 1000000000 := by
  intro l a hl h0 h1
  match l, hl with
  | [], _ => exact ⟨by show -1000000000 ≤ a; omega, by show a ≤ 1000000000; omega⟩
  | [x], _ => have := x.toNat_lt; exact ⟨by show _ ≤ a * 64 + (x.toNat : Int) - 128; omega, by show a * 64 + (x.toNat : Int) - 128 ≤ _; omega⟩
  | [x, y], _ => have := x.toNat_lt; have := y.toNat_lt; exact ⟨by show _ ≤ (a * 64 + (x.toNat : Int) - 128) * 64 + (y.toNat : Int) - 128; omega, by show (a * 64 + (x.toNat : Int) - 128) * 64 + (y.toNat : Int) - 128 ≤ _; omega⟩
  | [x, y, z], _ => have := x.toNat_lt; have := y.toNat_lt; have := z.toNat_lt; exact ⟨by show _ ≤ ((a * 64 + (x.toNat : Int) - 128) * 64 + (y.toNat : Int) - 128) * 64 + (z.toNat : Int) - 128; omega, by show ((a * 64 + (x.toNat : Int) - 128) * 64 + (y.toNat : Int) - 128) * 64 + (z.toNat : Int) - 128 ≤ _; omega⟩
theorem goOn_snoc (a : Int) (l : Bs) (x : UInt8) : goOn a (l ++ [x]) = goOn a l * 64 + (x.toNat : Int) - 128 := by simp [goOn]
theorem meant_call {s : Sl} {b : UInt8} {l r : Bs} {n m : Nat} (hs : By w s l) (hl : l.length < 2 ^ 60) (hr : l.drop n = b :: r) (hm0 : 1 ≤ m) (hm4 : m ≤ 4) (hm : n + m ≤ l.length) {K : Int → World → Prop} (hK : ∀ w', Ext w w' → K (meantP m (b :: r)) w') :
    callT Tryz.prog 116 #[.slice s.a s.len s.cap, .int .i64 (n : Int), .int .i64 (m : Int)] (.one (.one (.int .i64))) K w := by
  refine F116_calls ?_
  unfold F116
  have h1 := hs.len
  have hb := b.toNat_lt
  have hnl : n < l.length := by omega
  have hrl : r.length = l.length - n - 1 := by
    have := congrArg List.length hr
    rw [List.length_drop, List.length_cons] at this; omega
  have g0 : l[n]? = some b := by
    have := congrArg (fun x => x[0]?) hr
    simp only [List.getElem?_drop, List.getElem?_cons_zero, Nat.add_zero] at this
    exact this
  have gi : ∀ i, l[n + (i + 1)]? = r[i]? := fun i => by
    have := congrArg (fun x => x[i + 1]?) hr
    simp only [List.getElem?_drop, List.getElem?_cons_succ] at this
    exact this
  refine (St.start w).newAgg rfl rfl rfl fun b1 w1 S1 e1 => S1.drew fun w2 S2 e2 _ => ix_by (hs.ext S2.upd) (by omega) (b := b) (by rw [Int.toNat_natCast]; exact g0) fun p => chk_r (by omega) ?_
  rw [addr_add, scaled_eq, Int.toNat_natCast]
  have hlead : (#[(.int .i64 (0 : Int)), (.int .i64 (0 : Int)), (.int .i64 (192 : Int)), (.int .i64 (224 : Int)), (.int .i64 (240 : Int))] : Array Value)[0 + m * 1]? = some (.int .i64 (leadN m)) := by
    match m, hm0, hm4 with
    | 1, _, _ => rfl
    | 2, _, _ => rfl
    | 3, _, _ => rfl
    | 4, _, _ => rfl
  have hlb : 0 ≤ leadN m ∧ leadN m ≤ 240 := by unfold leadN; repeat' split
                                               all_goals omega
  refine ld_r (S2.at_ 0 rfl) (x := leadN m) hlead ?_
  rw [wrap64 (a := (b.toNat : Int)) (by omega) (by omega), wrap64 (a := (b.toNat : Int) - leadN m) (by omega) (by omega)]
  refine join_r (fun x w' => x = (meantP m (b :: r), ()) ∧ Ext w w') ?_ ?_
  · refine sloop_r (fun x w' => ∃ i : Nat, 1 ≤ i ∧ i ≤ m ∧ x = (goOn ((b.toNat : Int) - leadN m) (r.take (i - 1)), (i : Int), ()) ∧ Ext w w') (fun x _ => ((m : Int) - x.2.1).toNat) ⟨1, by omega, by omega, rfl, S2.upd⟩ ?_
    rintro _ w3 ⟨i, hi1, him, rfl, e3⟩
    refine sif_r (fun hc => ?_) (fun hc => ?_)
    · simp only [decide_eq_true_eq] at hc
      have ew : IntKind.wrap .i64 ((n : Int) + (i : Int)) = ((n + i : Nat) : Int) := by rw [wrap64 (by omega) (by omega)]; omega
      rw [ew]
      have hil : n + i < l.length := by omega
      refine ix_by (hs.ext e3) (by omega) (b := l[n + i]) (by rw [Int.toNat_natCast]; simp [hil]) fun q => ?_
      have hxb := l[n + i].toNat_lt
      have hg : r[i - 1]? = some l[n + i] := by
        rw [← gi (i - 1), show n + (i - 1 + 1) = n + i by omega]; simp [hil]
      have hbd := goOn_bound (r.take (i - 1)) ((b.toNat : Int) - leadN m) (by rw [List.length_take]; omega) (by omega) (by omega)
      have hsn : goOn ((b.toNat : Int) - leadN m) (r.take (i + 1 - 1)) = goOn ((b.toNat : Int) - leadN m) (r.take (i - 1)) * 64 + (l[n + i].toNat : Int) - 128 := by
        rw [show i + 1 - 1 = (i - 1) + 1 by omega, List.take_add_one, hg]
        exact goOn_snoc _ _ _
      have ew2 : IntKind.wrap .i64 ((i : Int) + 1) = ((i + 1 : Nat) : Int) := by rw [wrap64 (by omega) (by omega)]; omega
      rw [wrap64 (a := goOn ((b.toNat : Int) - leadN m) (r.take (i - 1)) * 64) (by omega) (by omega), wrap64 (a := (l[n + i].toNat : Int)) (by omega) (by omega), wrap64 (a := goOn ((b.toNat : Int) - leadN m) (r.take (i - 1)) * 64 + (l[n + i].toNat : Int)) (by omega) (by omega), wrap64 (a := goOn ((b.toNat : Int) - leadN m) (r.take (i - 1)) * 64 + (l[n + i].toNat : Int) - 128) (by omega) (by omega), ew2]
      refine ⟨⟨i + 1, by omega, by omega, ?_, e3⟩, ?_⟩
      · rw [hsn]
      · dsimp only; omega
    · simp only [decide_eq_false_iff_not] at hc
      have : i = m := by omega
      subst this
      exact ⟨rfl, e3⟩
  · rintro _ w3 ⟨rfl, e3⟩
    exact hK w3 e3
theorem eightAt_call {s : Sl} {l : Bs} {n : Nat} (hs : By w s l) (hl : l.length < 2 ^ 60) (hn : n < l.length) {K : Int × Int × Unit → World → Prop} (hK : ∀ w', Ext w w' → K ((nx8 (l.drop n)).1, ((nx8 (l.drop n)).2 : Nat), ()) w') :
    callT Tryz.prog 83 #[.slice s.a s.len s.cap, .int .i64 (n : Int)] (.tup [(.one (.int .i64)), (.one (.int .i64))]) K w := by
  refine F83_calls ?_
  unfold F83
  have h1 := hs.len
  obtain ⟨b, r, hr⟩ : ∃ b r, l.drop n = b :: r := ⟨_, _, List.drop_eq_getElem_cons hn⟩
  have hb := b.toNat_lt
  have hrl : r.length = l.length - n - 1 := by
    have := congrArg List.length hr
    rw [List.length_drop, List.length_cons] at this; omega
  have g0 : l[n]? = some b := by
    have := congrArg (fun x => x[0]?) hr
    simp only [List.getElem?_drop, List.getElem?_cons_zero, Nat.add_zero] at this
    exact this
  rw [hr] at hK
  have hsz := nx8_size b r
  refine join_r (fun _ w' => Ext w w' ∧ ¬ 0 ≤ (nx8 (b :: r)).1) ?_ ?_
  · refine sloop_r (fun x w' => ∃ i : Nat, 1 ≤ i ∧ i ≤ 5 ∧ x = ((i : Int), ()) ∧ Ext w w' ∧ (0 ≤ (nx8 (b :: r)).1 → i ≤ (nx8 (b :: r)).2)) (fun x _ => ((5 : Int) - x.1).toNat) ⟨1, by omega, by omega, rfl, Ext.refl w, fun _ => hsz.1⟩ ?_
    rintro _ w1 ⟨i, hi1, hi5, rfl, e1, hno⟩
    refine join_r (fun x w' => x = (decide (i ≤ 4 ∧ n + i ≤ l.length), ()) ∧ w1 = w') ?_ ?_
    · refine sif_r (fun h => ⟨tupb ?_, rfl⟩) (fun h => ⟨tupb ?_, rfl⟩)
      · simp only [decide_eq_true_eq] at h ⊢
        rw [wrap64 (by omega) (by omega)]; omega
      · simp only [decide_eq_false_iff_not, decide_eq_true_eq] at h ⊢
        exact ⟨(fun h => by cases h), fun h => by omega⟩
    rintro _ w2 ⟨rfl, rfl⟩
    refine sif_r (fun h => ?_) (fun h => ?_)
    · simp only [decide_eq_true_eq] at h
      have ew : IntKind.wrap .i64 ((i : Int) + 1) = ((i + 1 : Nat) : Int) := by rw [wrap64 (by omega) (by omega)]; omega
      refine join_r (fun _ w' => Ext w w' ∧ ¬ Hit (b :: r) i) ?_ ?_
      · refine meant_call (hs.ext e1) hl hr hi1 h.1 h.2 fun w3 e3 => ?_
        refine rscalar_call (fun hS => sif_r (fun h => by cases h) (fun _ => ?_)) (fun hS => sif_r (fun _ => ⟨e1.trans e3, fun hh => hS hh.1⟩) (fun h => by cases h))
        refine eight_call hS fun t w4 ht e4 => ?_
        have hpl : (pt8 (meantP i (b :: r))).length ≤ 4 := by
          have hne : sz8 (meantP i (b :: r)) ≠ 0 ∧ sz8 (meantP i (b :: r)) ≤ 4 := by
            unfold sz8
            rw [if_neg (by rcases hS with h | h <;> omega)]
            repeat' split
            all_goals decide
          have := pt_len .u8 _ hne.1
          show (pt .u8 _).length ≤ 4
          rw [this]; exact hne.2
        refine begins_call (hs.ext ((e1.trans e3).trans e4)) ht (by omega) hl (by omega) fun w5 e5 => ?_
        rw [hr]
        have htl := ht.len
        have e15 := ((e1.trans e3).trans e4).trans e5
        refine join_r (fun x w' => (x.1 = true ↔ Hit (b :: r) i) ∧ w5 = w') ?_ ?_
        · refine sif_r (fun h => ⟨?_, rfl⟩) (fun h => ⟨?_, rfl⟩)
          · simp only [beq_iff_eq] at h
            simp only [decide_eq_true_eq]
            exact ⟨fun hh => ⟨hS, hh, by omega⟩, fun hh => hh.2.1⟩
          · simp only [beq_eq_false_iff_ne] at h
            exact ⟨(fun h => by cases h), fun hh => by have := hh.2.2; omega⟩
        rintro ⟨x, _⟩ w6 ⟨hx, rfl⟩
        refine sif_r (fun hh => ?_) (fun hh => ⟨e15, fun hit => by have h1 := hx.2 hit; have h2 : x = false := hh; rw [h2] at h1; cases h1⟩)
        have hit := hx.1 hh
        have := hK w5 e15
        rw [hit_nx hit] at this
        exact this
      · rintro _ w3 ⟨e3, hno2⟩
        refine ⟨⟨i + 1, by omega, by omega, by rw [ew], e3, fun h0 => ?_⟩, ?_⟩
        · have := hno h0
          rcases Nat.lt_or_ge i (nx8 (b :: r)).2 with h2 | h2
          · omega
          · have : i = (nx8 (b :: r)).2 := by omega
            subst this
            exact absurd (nx_hit h0).1 hno2
        · dsimp only
          rw [ew]; omega
    · simp only [decide_eq_false_iff_not] at h
      refine ⟨e1, fun h0 => h ?_⟩
      have h2 := hno h0
      have h3 := hsz.2.1
      rw [List.length_cons] at h3
      omega
  · rintro _ w1 ⟨e1, hneg⟩
    refine ix_by (hs.ext e1) (by omega) (b := b) (by rw [Int.toNat_natCast]; exact g0) fun p => ?_
    have := hK w1 e1
    rw [nx_neg hneg] at this
    rw [wrap64 (a := (b.toNat : Int)) (by omega) (by omega), wrap64 (by omega) (by omega)]
    exact this
theorem rat_call {e : Enc} {s : Sl} {l : Bs} {n : Nat} (hs : By w s l) (hl : l.length < 2 ^ 59) (hn : n < l.length) {K : Int × Int × Unit → World → Prop} (hK : ∀ w', Ext w w' → K ((nx e (l.drop n)).1, ((nx e (l.drop n)).2 : Nat), ()) w') :
    callT Tryz.prog 62 #[.int .i64 e.num, .slice s.a s.len s.cap, .int .i64 (n : Int)] (.tup [(.one (.int .i64)), (.one (.int .i64))]) K w := by
  refine F62_calls ?_
  unfold F62
  have h1 := hs.len
  obtain ⟨b, r, hr⟩ : ∃ b r, l.drop n = b :: r := ⟨_, _, List.drop_eq_getElem_cons hn⟩
  have hb := b.toNat_lt
  have g0 : l[n]? = some b := by
    have := congrArg (fun x => x[0]?) hr
    simp only [List.getElem?_drop, List.getElem?_cons_zero, Nat.add_zero] at this
    exact this
  have six : ∀ be : Bool, e.num = (if be then 3 else 2) → nx e = nx16 be →
      callT Tryz.prog 84 #[.int .i64 e.num, .slice s.a s.len s.cap, .int .i64 (n : Int)] (.one (.one (.int .i64))) (fun (x4 : Int) => sif (decide (x4 < (0 : Int))) (
        ix s.a s.len (n : Int) fun p5 =>
        ld (.int .u8) (p5.add (scaled (Int.toNat (n : Int)) 1)) fun (x6 : Int) =>
        K ((IntKind.wrap .i64 ((-1 : Int) - (IntKind.wrap .i64 x6))), (1 : Int), ())) (
        callT Tryz.prog 84 #[(.int .i64 e.num), (.slice s.a s.len s.cap), (.int .i64 (IntKind.wrap .i64 ((n : Int) + (2 : Int))))] (.one (.one (.int .i64))) fun (x7 : Int) =>
        join (S := Bool × Unit) (fun J8 =>
          sif (decide (x4 ≥ (55296 : Int))) (
            sif (decide (x4 < (56320 : Int))) (
              sif (decide (x7 ≥ (56320 : Int))) (
                J8 ((decide (x7 < (57344 : Int))), ())) (
                J8 (false, ()))) (
              J8 (false, ()))) (
            J8 (false, ()))) fun (s9 : Bool × Unit) =>
        sif s9.1 (
          K ((IntKind.wrap .i64 ((IntKind.wrap .i64 ((IntKind.wrap .i64 ((65536 : Int) + (IntKind.wrap .i64 ((IntKind.wrap .i64 (x4 - (55296 : Int))) * (1024 : Int))))) + x7)) - (56320 : Int))), (4 : Int), ())) (
          K (x4, (2 : Int), ())))) w := by
    intro be hbe hnx
    rw [hbe]
    rw [hnx] at hK
    refine runit_call hs (by omega) (by omega) fun w1 e1 => ?_
    rw [hr] at hK ⊢
    have e2 : IntKind.wrap .i64 ((n : Int) + 2) = ((n + 2 : Nat) : Int) := by rw [wrap64 (by omega) (by omega)]; omega
    rw [e2]
    cases r with
    | nil =>
      refine sif_r (fun _ => ?_) (fun h => by cases h)
      refine ix_by (hs.ext e1) (by omega) (b := b) (by rw [Int.toNat_natCast]; exact g0) fun p => ?_
      rw [wrap64 (a := (b.toNat : Int)) (by omega) (by omega), wrap64 (by omega) (by omega)]
      exact hK w1 e1
    | cons c r' =>
      have hc := c.toNat_lt
      have hu : un be b c < 65536 := by unfold un; split <;> omega
      have hx4 : unI be (b :: c :: r') = ((un be b c : Nat) : Int) := rfl
      refine sif_r (fun h => by simp only [decide_eq_true_eq] at h; omega) (fun _ => ?_)
      refine runit_call (hs.ext e1) (by omega) (by omega) fun w2 e3 => ?_
      have e12 := e1.trans e3
      have hd2 : l.drop (n + 2) = r' := by
        have := congrArg (List.drop 2) hr
        rw [List.drop_drop] at this
        simpa using this
      rw [hd2]
      refine join_r (fun x w' => (x.1 = true ↔ (un be b c / 1024 = 54 ∧ ∃ d f r'', r' = d :: f :: r'' ∧ un be d f / 1024 = 55)) ∧ w2 = w') ?_ ?_
      · have key : ∀ x7, x7 = unI be r' → ((56320 ≤ x7 ∧ x7 < 57344) ↔ ∃ d f r'', r' = d :: f :: r'' ∧ un be d f / 1024 = 55) := by
          rintro x7 rfl
          match r' with
          | [] => exact ⟨fun h => by have h' : (56320 : Int) ≤ -1 := h.1; omega, by rintro ⟨d, f, r'', h, _⟩; cases h⟩
          | [d] => exact ⟨fun h => by have h' : (56320 : Int) ≤ -1 := h.1; omega, by rintro ⟨d, f, r'', h, _⟩; cases h⟩
          | d :: f :: r'' =>
            show ((56320 : Int) ≤ ((un be d f : Nat) : Int) ∧ ((un be d f : Nat) : Int) < 57344) ↔ _
            constructor
            · intro h; exact ⟨d, f, r'', rfl, by omega⟩
            · rintro ⟨d', f', r3, h, hu⟩; cases h; omega
        have key' := key _ rfl
        refine sif_r (fun h => sif_r (fun h2 => sif_r (fun h3 => ⟨?_, rfl⟩) (fun h3 => ⟨?_, rfl⟩)) (fun h2 => ⟨?_, rfl⟩)) (fun h => ⟨?_, rfl⟩)
        all_goals (try simp only [decide_eq_true_eq, decide_eq_false_iff_not, ge_iff_le] at h)
        all_goals (try simp only [decide_eq_true_eq, decide_eq_false_iff_not, ge_iff_le] at h2)
        all_goals (try simp only [decide_eq_true_eq, decide_eq_false_iff_not, ge_iff_le] at h3)
        all_goals (try simp only [decide_eq_true_eq])
        all_goals have hx4 : unI be (b :: c :: r') = ((un be b c : Nat) : Int) := rfl
        · rw [← key']
          constructor
          · intro h4; exact ⟨by clear key key'; omega, h3, h4⟩
          · intro h4; exact h4.2.2
        · rw [← key']
          exact ⟨(fun h => by cases h), fun h4 => absurd h4.2.1 h3⟩
        · exact ⟨(fun h => by cases h), fun h4 => by have := h4.1; clear key key' h4; omega⟩
        · exact ⟨(fun h => by cases h), fun h4 => by have := h4.1; clear key key' h4; omega⟩
      rintro ⟨x, _⟩ w3 ⟨hx, rfl⟩
      refine sif_r (fun h => ?_) (fun h => ?_)
      · obtain ⟨h54, d, f, r'', rfl, h55⟩ := hx.1 h
        have hd := d.toNat_lt; have hf := f.toNat_lt
        have hv : un be d f < 65536 := by unfold un; split <;> omega
        have := hK w2 e12
        show K ((IntKind.wrap .i64 ((IntKind.wrap .i64 ((IntKind.wrap .i64 ((65536 : Int) + (IntKind.wrap .i64 ((IntKind.wrap .i64 (((un be b c : Nat) : Int) - (55296 : Int))) * (1024 : Int))))) + ((un be d f : Nat) : Int))) - (56320 : Int))), (4 : Int), ()) w2
        rw [wrap64 (a := ((un be b c : Nat) : Int) - 55296) (by omega) (by omega), wrap64 (a := (((un be b c : Nat) : Int) - 55296) * 1024) (by omega) (by omega), wrap64 (a := (65536 : Int) + _) (by omega) (by omega), wrap64 (a := (65536 : Int) + _ + _) (by omega) (by omega), wrap64 (by omega) (by omega)]
        have e4 : nx16 be (b :: c :: d :: f :: r'') = (65536 + ((un be b c % 1024 * 1024 + un be d f % 1024 : Nat) : Int), 4) := by
          simp only [nx16]; rw [if_pos h54, if_pos h55]
        rw [e4] at this
        have e5 : (65536 : Int) + (((un be b c : Nat) : Int) - 55296) * 1024 + ((un be d f : Nat) : Int) - 56320 = 65536 + ((un be b c % 1024 * 1024 + un be d f % 1024 : Nat) : Int) := by omega
        rw [e5]
        exact this
      · have h : ¬ (un be b c / 1024 = 54 ∧ ∃ d f r'', r' = d :: f :: r'' ∧ un be d f / 1024 = 55) := fun hh => by have h1 := hx.2 hh; have h2 : x = false := h; rw [h2] at h1; cases h1
        have := hK w2 e12
        have e4 : nx16 be (b :: c :: r') = (((un be b c : Nat) : Int), 2) := by
          simp only [nx16]
          split
          · rename_i h54
            split
            · rename_i d f r''
              rw [if_neg (fun h55 => h ⟨h54, _, _, _, rfl, h55⟩)]
            · rfl
          · rfl
        rw [e4] at this
        exact this
  cases e with
  | u8 =>
    refine sif_r (fun _ => ?_) (fun h => by cases h)
    exact eightAt_call hs (by omega) hn fun w1 e1 => hK w1 e1
  | le => exact sif_r (fun h => by cases h) (fun _ => sif_r (fun h => by cases h) (fun _ => six false rfl rfl))
  | be => exact sif_r (fun h => by cases h) (fun _ => sif_r (fun h => by cases h) (fun _ => six true rfl rfl))
  | l1 =>
    refine sif_r (fun h => by cases h) (fun _ => sif_r (fun _ => ?_) (fun h => by cases h))
    refine ix_by hs (by omega) (b := b) (by rw [Int.toNat_natCast]; exact g0) fun p => ?_
    rw [wrap64 (a := (b.toNat : Int)) (by omega) (by omega)]
    have := hK w (Ext.refl w)
    rw [hr] at this
    exact this
theorem decode_call {e : Enc} {s : Sl} {l : Bs} (hs : By w s l) (hl : l.length < 2 ^ 40) {K : Sl × Int × Unit → World → Prop} (hK : ∀ s' w', SlOwn w' w.heap.size s' 3 1 (iv (atoms (ats e l))) → Ext w w' → K (s', 0, ()) w') :
    callT Tryz.prog 34 #[.int .i64 e.num, .slice s.a s.len s.cap] (.tup [(.one .sl), (.one (.int .i64))]) K w := by
  refine F34_calls ?_
  unfold F34
  have h1 := hs.len
  refine known_call (sif_r (fun h => by cases h) (fun _ => ?_))
  refine join_r (fun x w' => SlOwn w' w.heap.size x.1 3 1 (iv (atoms (ats e l))) ∧ Ext w w') ?_ (fun x w' h => hK _ _ h.1 h.2)
  refine sloop_r (fun x w' => ∃ j, j ≤ (ats e l).length ∧ x.2 = (((szs ((ats e l).take j) : Nat) : Int), ()) ∧ SlOwn w' w.heap.size x.1 3 1 (iv (atoms ((ats e l).take j))) ∧ Ext w w') (fun x _ => ((l.length : Int) - x.2.1).toNat) ⟨0, Nat.zero_le _, rfl, SlOwn.nil _ _ _ _, Ext.refl w⟩ ?_
  rintro ⟨r, _⟩ w1 ⟨j, hj, rfl, ho, e1⟩
  have hsj : szs ((ats e l).take j) ≤ l.length := pos_le j
  have hol := ho.len1
  dsimp only at ho hol ⊢
  rw [List.length_map, List.length_map, List.length_take] at hol
  refine sif_r (fun hc => ?_) (fun hc => ?_)
  · simp only [decide_eq_true_eq] at hc
    obtain ⟨a, m, hqa, hnx, htk, hss, hm1, hsl⟩ := pos_step (e := e) (l := l) (j := j) (by omega)
    have hql : j < (ats e l).length := (List.getElem?_eq_some_iff.1 hqa).1
    refine rat_call (hs.ext e1) (by omega) (by omega) fun w2 e2 => ?_
    rw [hnx]
    refine newO_r fun b w3 e3 n3 hb3 hz3 => ?_
    have hal := szs_ge (ats_posd e l)
    rw [szs_all] at hal
    refine append_rx eInts eInts.ts_ (x := ⟨some (at0 b), 1, 1⟩) (ho.ext (e2.trans e3)) (iv_box n3) (fun v hv => by rw [List.mem_singleton.1 hv]; rfl) (by
      show (r.len + 1 + (r.len + 1) / 4 + 512) * 8 ≤ 2 ^ 48
      omega) (by have := e1.size; have := e2.size; omega) fun s' w4 o4 l4 u4 b4 => ?_
    have e4 : iv (atoms ((ats e l).take j)) ++ [.int .i64 a] = iv (atoms ((ats e l).take (j + 1))) := by rw [htk]; simp
    rw [e4] at o4
    have ew : IntKind.wrap .i64 (((szs ((ats e l).take j) : Nat) : Int) + (m : Int)) = ((szs ((ats e l).take (j + 1)) : Nat) : Int) := by rw [wrap64 (by omega) (by omega)]; omega
    refine ⟨⟨j + 1, by omega, by dsimp only; rw [ew], o4, ((e1.trans e2).trans e3).step u4 fun k hk => ho.blk_ge hk⟩, ?_⟩
    dsimp only
    rw [ew]; omega
  · simp only [decide_eq_false_iff_not] at hc
    have := pos_end (e := e) (l := l) (j := j) (by omega)
    rw [this] at ho
    exact ⟨ho, e1⟩
end
end Go.Proofs.YtabcpghhfeplaaaGreat
set_option linter.unusedSimpArgs false
set_option linter.unusedVariables false
set_option maxRecDepth 100000
set_option linter.unusedVariables false
namespace Go.Proofs.YtabcpghhfeplaaaGreat
open Go Go.Vx
noncomputable def h3 : Hint := (.seq none (.region [] (.ops 2 .done)) (.seq none (.region [] (.ops 8 .done)) (.seq none (.seq (some (132120576, [(26, (.one .bool))])) (.region [] (.ops 3 (.split 23 (.skips 2 (.ops 1 .done)) (.ops 3 .done)))) (.cond none (.seq none (.region [] (.ops 1 .done)) .leaf) .leaf)) (.seq none (.region [] (.ops 2 .done)) (.seq none (.region [] (.ops 6 .done)) (.seq none (.region [] (.ops 4 .done)) (.seq none (.region [] (.ops 6 .done)) (.seq none (.region [] (.ops 13 .done)) (.seq none (.seq none (.region [] (.ops 2 .done)) (.cond none (.seq none (.region [] (.ops 3 .done)) .leaf) .leaf)) (.seq none (.region [] (.ops 14 .done)) (.seq none (.region [0, 1, 2, 3, 4, 5, 6, 7, 8, 9, 10, 11, 12, 13, 14, 15, 16, 17, 18, 19, 20, 21, 22, 23, 24, 25, 26, 27, 28, 29, 30, 31, 32, 33, 34, 35, 36, 37, 38, 39, 40, 41, 42, 43, 44, 45, 46, 47, 48, 49, 50, 51, 52, 53, 54, 55, 56, 57, 58, 59, 60, 61, 62, 63, 64, 65, 66, 67, 68, 69, 70, 71, 72, 73, 74, 75, 76, 77, 78] (.ops 3 (.split 68 (.ops 7 (.split 75 (.ops 7 (.split 82 (.ops 6 (.split 88 (.ops 6 (.split 94 (.ops 8 (.split 102 (.ops 5 (.split 107 (.ops 10 (.split 117 (.ops 10 (.split 127 (.ops 17 .done) (.skips 15 (.ops 2 .done)))) (.skips 8 (.ops 2 (.skips 15 (.ops 2 .done)))))) (.skips 8 (.ops 2 (.skips 8 (.ops 2 (.skips 15 (.ops 2 .done)))))))) (.skips 3 (.ops 2 (.skips 8 (.ops 2 (.skips 8 (.ops 2 (.skips 15 (.ops 2 .done)))))))))) (.skips 6 (.ops 2 (.skips 3 (.ops 2 (.skips 8 (.ops 2 (.skips 8 (.ops 2 (.skips 15 (.ops 2 .done)))))))))))) (.skips 4 (.ops 2 (.skips 6 (.ops 2 (.skips 3 (.ops 2 (.skips 8 (.ops 2 (.skips 8 (.ops 2 (.skips 15 (.ops 2 .done)))))))))))))) (.skips 4 (.ops 2 (.skips 4 (.ops 2 (.skips 6 (.ops 2 (.skips 3 (.ops 2 (.skips 8 (.ops 2 (.skips 8 (.ops 2 (.skips 15 (.ops 2 .done)))))))))))))))) (.skips 5 (.ops 2 (.skips 4 (.ops 2 (.skips 4 (.ops 2 (.skips 6 (.ops 2 (.skips 3 (.ops 2 (.skips 8 (.ops 2 (.skips 8 (.ops 2 (.skips 15 (.ops 2 .done)))))))))))))))))) (.skips 5 (.ops 2 (.skips 5 (.ops 2 (.skips 4 (.ops 2 (.skips 4 (.ops 2 (.skips 6 (.ops 2 (.skips 3 (.ops 2 (.skips 8 (.ops 2 (.skips 8 (.ops 2 (.skips 15 (.ops 2 .done))))))))))))))))))))) .leaf)))))))))))
noncomputable def h4 : Hint := (.seq none (.region [] (.ops 2 .done)) (.seq none (.region [] (.ops 8 .done)) (.seq none (.seq (some (66060288, [(25, (.one .bool))])) (.region [] (.ops 3 (.split 22 (.skips 2 (.ops 1 .done)) (.ops 3 .done)))) (.cond none (.seq none (.region [] (.ops 1 .done)) .leaf) .leaf)) (.seq (some (11972621413014756705924586149611790497021399324983184, [])) (.seq none (.region [] (.ops 1 .done)) (.block (.loop 11972621413014756705924586149611790497021399324983184 [(7, (.one (.int .i64)))] (.seq none (.seq (some (17112760320, [(33, (.one .bool))])) (.region [] (.ops 5 (.split 30 (.ops 3 .done) (.skips 2 (.ops 1 .done))))) (.cond none .leaf .leaf)) (.seq none (.block (.seq none (.region [] (.ops 6 .done)) (.seq (some (72056494526301696, [(9, (.one .addr)), (10, (.one (.int .i64)))])) (.region [0, 1, 2, 3, 4, 5, 9, 10, 6, 7, 8, 11, 12, 13, 14, 15, 17, 18] (.float [16] (.ops 8 (.alt none (.plain (.ops 10 .done)) (.ops 4 (.alt none (.plain (.ops 6 .done)) (.ops 4 (.alt none (.plain (.ops 2 .done)) .stop)))))))) (.seq (some (4722294425275607291904, [(11, (.one .addr)), (12, (.one (.int .i64)))])) (.region [0, 1, 2, 3, 4, 5, 9, 10, 6, 7, 8, 11, 12, 13, 14, 15, 17, 18] (.float [16] (.ops 8 (.alt none (.plain (.ops 10 .done)) (.ops 4 (.alt none (.plain (.ops 6 .done)) (.ops 4 (.alt none (.plain (.ops 2 .done)) .stop)))))))) (.seq none (.seq (some (324518553653704360300286375362560, [(107, (.one .bool))])) (.region [] (.ops 4 (.split 75 (.skips 3 (.ops 2 (.skips 12 (.ops 2 (.skips 12 (.ops 1 .done)))))) (.ops 5 (.split 80 (.skips 12 (.ops 2 (.skips 12 (.ops 1 .done)))) (.ops 3 (.split 83 (.ops 4 (.split 87 (.skips 3 (.ops 4 (.skips 12 (.ops 1 .done)))) (.ops 7 (.split 94 (.skips 12 (.ops 1 .done)) (.ops 3 (.split 97 (.ops 4 (.split 101 (.skips 3 (.ops 3 .done)) (.ops 6 .done))) (.skips 8 (.ops 2 .done)))))))) (.skips 8 (.ops 6 (.split 97 (.ops 4 (.split 101 (.skips 3 (.ops 3 .done)) (.ops 6 .done))) (.skips 8 (.ops 2 .done)))))))))))) (.cond none (.seq none (.region [] (.ops 1 .done)) .leaf) .leaf)) (.seq none (.seq (some (340282042402384805036647824275747635200, [(127, (.one .bool))])) (.region [] (.ops 3 (.split 110 (.ops 3 (.split 113 (.skips 5 (.ops 2 (.skips 5 (.ops 2 .done)))) (.ops 7 (.split 120 (.skips 5 (.ops 2 .done)) (.ops 7 .done))))) (.skips 16 (.ops 1 .done))))) (.cond none (.seq none (.region [] (.ops 1 .done)) .leaf) .leaf)) (.seq none (.region [] (.ops 18 .done)) (.seq (some (11972621401864384106659274578843931360697218639069184, [(172, (.one .bool))])) (.region [0, 1, 2, 3, 4, 5, 6, 7, 8, 9, 10, 11, 12, 13, 14, 15, 16, 17, 18, 19, 20, 21, 22, 23, 25, 26, 24, 27, 28, 29] (.ops 4 (.split 146 (.skips 12 (.ops 2 (.skips 11 (.ops 1 .done)))) (.ops 3 (.split 149 (.ops 4 (.split 153 (.skips 3 (.ops 4 (.skips 11 (.ops 1 .done)))) (.ops 7 (.split 160 (.skips 11 (.ops 1 .done)) (.ops 12 .done))))) (.skips 8 (.ops 15 .done))))))) (.cond none (.seq none (.region [] (.ops 1 .done)) .leaf) .leaf))))))))) (.region [] (.ops 3 .done))))))) (.seq none (.region [] (.ops 1 .done)) .leaf)))))
noncomputable def F5 (a0 : (Int × Sl × Unit)) (a1 : Int) (a2 : Int) (K : Bool → World → Prop) : World → Prop :=
 newO (.cells #[(.int .i64 a0.1), (.slice a0.2.1.a a0.2.1.len a0.2.1.cap)] 24) fun b1 =>
 lds c24 (at0 b1) fun (x2 : (Int × Sl × Unit)) =>
 callT Tryz.prog 16 #[(.agg (Cells.vals c24 x2).toArray)] (.tup [(.agg c28), (.one .bool)]) fun (x3 : ((Option Addr × Sl × Unit) × Bool × Unit)) =>
 newO (.cells #[(.pointer none), (.slice none 0 0)] 28) fun b4 =>
 aggSt (at0 b4) (.agg (Cells.vals c28 x3.1).toArray) 2 <|
 join (S := Bool × Unit) (fun J5 =>
 sif (!x3.2.1) (
 J5 (true, ())) (
 callT Tryz.prog 17 #[(.int .i64 (1 : Int))] (.one (.one .bool)) fun (x7 : Bool) =>
 sif (!x7) (
 J5 (true, ())) (
 callT Tryz.prog 17 #[(.int .i64 (4 : Int))] (.one (.one .bool)) fun (x8 : Bool) =>
 J5 ((!x8), ())))) fun (s6 : Bool × Unit) =>
 sif s6.1 (
 K false) (
 ld (.sl) (⟨b4, 1, none⟩ : Addr) fun (x9 : Sl) =>
 callT Tryz.prog 18 #[(.int .i64 a1), (.int .i64 ((x9.len : Nat) : Int))] (.one (.one (.int .i64))) fun (x10 : Int) =>
 join (S := Int × Unit) (fun J11 =>
 chk ((3 : Int) ≠ 0) <|
 sif ((Int.tmod a2 (3 : Int)) == (1 : Int)) (
 J11 ((63 : Int), ())) (
 J11 ((61 : Int), ()))) fun (s12 : Int × Unit) =>
 join (S := Int × Unit) (fun J13 =>
 chk ((3 : Int) ≠ 0) <|
 sif ((Int.tmod a2 (3 : Int)) == (2 : Int)) (
 J13 ((69 : Int), ())) (
 J13 (s12.1, ()))) fun (s14 : Int × Unit) =>
 ld (.ptr) (at0 b4) fun (x15 : Option Addr) =>
 callT Tryz.prog 20 #[(.pointer x15), (.int .i64 x10), (.agg #[(.int .i64 s14.1), (.int .i64 (0 : Int)), (.int .i64 (0 : Int))])] (.tup [(.agg c34), (.one (.int .i64))]) fun (x16 : ((Int × Int × Int × Unit) × Int × Unit)) =>
 newO (.cells #[(.int .i64 (0 : Int)), (.int .i64 (0 : Int)), (.int .i64 (0 : Int))] 34) fun b17 =>
 aggSt (at0 b17) (.agg (Cells.vals c34 x16.1).toArray) 3 <|
 sif (x16.2.1 != (0 : Int)) (
 K (x16.2.1 == (90 : Int))) (
 lds c34 (at0 b17) fun (x18 : (Int × Int × Int × Unit)) =>
 callT Tryz.prog 21 #[(.pointer (some (at0 b4))), (.agg (Cells.vals c34 x18).toArray)] (.one (.one .bool)) fun (x19 : Bool) =>
 sif (!x19) (
 K false) (
 ld (.int .i64) (⟨b17, 1, none⟩ : Addr) fun (x20 : Int) =>
 ld (.int .i64) (at0 b17) fun (x21 : Int) =>
 chk ((60 : Int) ≠ 0) <|
 join (S := Unit) (fun J22 =>
 ld (.int .i64) (at0 b17) fun (x24 : Int) =>
 sloop (S := Int × Unit) (fun (s25 : Int × Unit) again26 =>
 ld (.int .i64) (⟨b17, 1, none⟩ : Addr) fun (x27 : Int) =>
 sif (decide (s25.1 < x27)) (
 lds c34 (at0 b17) fun (x28 : (Int × Int × Int × Unit)) =>
 callT Tryz.prog 24 #[(.pointer (some (at0 b4))), (.int .i64 s25.1), (.int .i64 s14.1), (.agg (Cells.vals c34 x28).toArray)] (.one (.one .bool)) fun (x29 : Bool) =>
 sif (!x29) (
 K false) (
 again26 ((IntKind.wrap .i64 (s25.1 + (IntKind.wrap .i64 ((1 : Int) + (IntKind.wrap .i64 (Int.tdiv (IntKind.wrap .i64 (x20 - x21)) (60 : Int))))))), ()))) (
 J22 ())) (x24, ())) fun (s23 : Unit) =>
 ld (.int .i64) (at0 b17) fun (x30 : Int) =>
 ld (.int .i64) (⟨b17, 1, none⟩ : Addr) fun (x31 : Int) =>
 sif (x30 == x31) (
 K true) (
 ld (.int .i64) (⟨b17, 1, none⟩ : Addr) fun (x32 : Int) =>
 lds c34 (at0 b17) fun (x33 : (Int × Int × Int × Unit)) =>
 callT Tryz.prog 24 #[(.pointer (some (at0 b4))), (.int .i64 (IntKind.wrap .i64 (x32 - (1 : Int)))), (.int .i64 s14.1), (.agg (Cells.vals c34 x33).toArray)] (.one (.one .bool)) fun (x34 : Bool) =>
 K x34))))
noncomputable def h5 : Hint := (.seq none (.region [] (.ops 2 .done)) (.seq none (.region [] (.ops 8 .done)) (.seq none (.seq (some (536346624, [(28, (.one .bool))])) (.region [] (.ops 3 (.split 21 (.skips 2 (.ops 2 (.skips 2 (.ops 1 .done)))) (.ops 4 (.split 25 (.skips 2 (.ops 1 .done)) (.ops 3 .done)))))) (.cond none (.seq none (.region [] (.ops 1 .done)) .leaf) .leaf)) (.seq none (.region [] (.ops 6 .done)) (.seq none (.region [] (.ops 1 .done)) (.seq (some (120259084800, [(9, (.one (.int .i64)))])) (.seq none (.region [] (.ops 3 .done)) (.cond none (.region [] (.ops 1 .done)) .leaf)) (.seq (some (962072674816, [(9, (.one (.int .i64)))])) (.seq none (.region [] (.ops 3 .done)) (.cond none (.region [] (.ops 1 .done)) .leaf)) (.seq none (.region [] (.ops 12 .done)) (.seq none (.seq none (.region [] (.ops 2 .done)) (.cond none (.seq none (.region [] (.ops 3 .done)) .leaf) .leaf)) (.seq none (.seq none (.region [] (.ops 3 .done)) (.cond none (.seq none (.region [] (.ops 1 .done)) .leaf) .leaf)) (.seq none (.region [] (.ops 8 .done)) (.seq (some (151106504079791792070720, [])) (.seq none (.region [] (.ops 3 .done)) (.block (.loop 151078833963681227743296 [(13, (.one (.int .i64)))] (.seq none (.seq none (.region [] (.ops 4 .done)) (.cond none .leaf .leaf)) (.seq none (.block (.seq none (.region [] (.ops 5 .done)) (.cond none (.seq none (.region [] (.ops 1 .done)) .leaf) .leaf))) (.region [] (.ops 4 .done))))))) (.seq none (.region [] (.ops 6 (.split 82 (.skips 6 (.ops 2 .done)) (.ops 8 .done)))) .leaf)))))))))))))
theorem F5_tie (a0 : (Int × Sl × Unit)) (a1 : Int) (a2 : Int) (K : Bool → World → Prop) : vcgF tab Tryz.prog Tryz.f5 h5 [(.agg (Cells.vals c24 a0).toArray), (.int .i64 a1), (.int .i64 a2)] (.one (.one .bool)) K = F5 a0 a1 a2 K := by kernel_rfl
theorem F5_calls {a0 : (Int × Sl × Unit)} {a1 : Int} {a2 : Int} {K : Bool → World → Prop} {w : World} (h : F5 a0 a1 a2 K w) : callT Tryz.prog 5 #[(.agg (Cells.vals c24 a0).toArray), (.int .i64 a1), (.int .i64 a2)] (.one (.one .bool)) K w :=
  vcgF_sound tabOk Tryz.func5 h5 [(.agg (Cells.vals c24 a0).toArray), (.int .i64 a1), (.int .i64 a2)] (.one (.one .bool)) K w (Eq.mpr (congrFun (F5_tie a0 a1 a2 K) w) h)
noncomputable def h6 : Hint := (.seq none (.region [] (.ops 3 .done)) (.seq none (.region [] (.ops 5 .done)) .leaf))
noncomputable def h7 : Hint := (.seq none (.region [] (.ops 3 .done)) (.seq none (.region [] (.ops 5 .done)) .leaf))
noncomputable def h8 : Hint := (.seq none (.region [] (.ops 3 .done)) (.seq none (.region [] (.ops 5 .done)) .leaf))
noncomputable def h9 : Hint := (.seq none (.region [] (.ops 3 .done)) (.seq none (.region [] (.ops 5 .done)) .leaf))
noncomputable def h10 : Hint := (.seq none (.region [] (.ops 3 .done)) (.seq none (.region [] (.ops 5 .done)) .leaf))
noncomputable def h12 : Hint := (.seq none (.region [] (.ops 1 .done)) (.seq none (.region [] (.ops 3 .done)) (.seq none (.region [] (.ops 3 .done)) (.seq none (.region [] (.ops 2 .done)) (.seq (some (562948879704064, [(13, (.one .sl))])) (.seq none (.region [] (.ops 1 .done)) (.block (.loop 562948879704064 [(13, (.one .sl)), (14, (.one (.int .i64)))] (.seq none (.seq (some (273804165120, [(37, (.one .bool))])) (.region [] (.ops 5 (.split 34 (.ops 3 .done) (.skips 2 (.ops 1 .done))))) (.cond none .leaf .leaf)) (.seq none (.block (.region [] (.ops 10 .done))) (.region [] (.ops 3 .done))))))) (.seq none (.region [] (.ops 5 .done)) (.seq none (.region [] (.ops 16 .done)) (.seq none (.seq none (.region [] (.ops 2 .done)) (.cond none (.seq none (.region [] (.ops 1 .done)) .leaf) .leaf)) (.seq none (.region [] (.ops 5 .done)) (.seq none (.region [] (.ops 5 .done)) (.seq none (.region [] (.ops 8 .done)) (.seq none (.region [] (.ops 11 .done)) (.seq none (.seq none (.region [] (.ops 6 .done)) (.cond none (.seq none (.region [] (.ops 1 .done)) .leaf) .leaf)) (.seq none (.region [] (.ops 2 .done)) (.seq (some (9824292151768777861599458230272, [(23, (.one (.int .i64)))])) (.seq none (.region [] (.ops 2 .done)) (.cond none (.region [] (.ops 4 .done)) .leaf)) (.seq none (.region [] (.ops 10 .done)) (.seq none (.seq none (.region [] (.ops 8 .done)) (.cond none (.seq none (.region [] (.ops 1 .done)) .leaf) .leaf)) (.seq none (.region [] (.ops 2 .done)) (.seq (some (19938419936773738093557105904221945856, [(24, (.one (.int .i64)))])) (.seq none (.region [] (.ops 2 .done)) (.cond none (.region [] (.ops 3 .done)) .leaf)) (.seq none (.region [] (.ops 10 .done)) (.seq none (.seq none (.region [] (.ops 6 .done)) (.cond none (.seq none (.region [] (.ops 1 .done)) .leaf) .leaf)) (.seq none (.seq none (.region [] (.ops 2 .done)) (.cond none (.seq none (.region [] (.ops 1 .done)) .leaf) .leaf)) (.seq none (.region [] (.ops 11 .done)) (.seq none (.seq none (.region [] (.ops 7 .done)) (.cond none (.seq none (.region [] (.ops 1 .done)) .leaf) .leaf)) (.seq none (.region [] (.ops 11 .done)) (.seq none (.region [] (.ops 7 .done)) .leaf))))))))))))))))))))))))))
noncomputable def h13 : Hint := (.seq none (.region [] (.ops 1 .done)) (.seq none (.region [] (.ops 2 .done)) (.seq none (.region [] (.ops 6 .done)) (.seq none (.region [] (.ops 3 .done)) (.seq none (.region [] (.ops 1 .done)) (.seq (some (18446744056529911808, [(15, (.one .sl))])) (.seq none (.region [] (.ops 1 .done)) (.block (.loop 18446744056529911808 [(15, (.one .sl)), (16, (.one (.int .i64)))] (.seq none (.seq (some (4380866641920, [(41, (.one .bool))])) (.region [] (.ops 5 (.split 38 (.ops 3 .done) (.skips 2 (.ops 1 .done))))) (.cond none .leaf .leaf)) (.seq none (.block (.seq none (.region [] (.ops 7 .done)) (.seq (some (1151795604700037120, [(15, (.one .sl))])) (.seq (some (142989288169013248, [(56, (.one .bool))])) (.region [] (.ops 4 (.split 53 (.skips 2 (.ops 1 .done)) (.ops 3 .done)))) (.cond none (.region [] (.ops 4 .done)) .leaf)) (.region [] (.ops 5 .done))))) (.region [] (.ops 3 .done))))))) (.seq none (.region [] (.ops 5 .done)) (.seq none (.region [] (.ops 17 .done)) (.seq none (.seq none (.region [] (.ops 2 .done)) (.cond none (.seq none (.region [] (.ops 1 .done)) .leaf) .leaf)) (.seq none (.region [] (.ops 5 .done)) (.seq none (.region [] (.ops 6 .done)) (.seq none (.region [] (.ops 11 .done)) (.seq none (.region [] (.ops 12 .done)) (.seq none (.seq none (.region [] (.ops 8 .done)) (.cond none (.seq none (.region [] (.ops 1 .done)) .leaf) .leaf)) (.seq none (.region [] (.ops 11 .done)) (.seq none (.seq none (.region [] (.ops 6 .done)) (.cond none (.seq none (.region [] (.ops 1 .done)) .leaf) .leaf)) (.seq none (.region [] (.ops 11 .done)) (.seq none (.seq none (.region [] (.ops 7 .done)) (.cond none (.seq none (.region [] (.ops 1 .done)) .leaf) .leaf)) (.seq none (.region [] (.ops 12 .done)) (.seq none (.region [] (.ops 3 .done)) .leaf))))))))))))))))))))
noncomputable def h14 : Hint := (.seq none (.region [] (.ops 1 .done)) (.seq none (.region [] (.ops 2 .done)) (.seq none (.region [] (.ops 6 .done)) (.seq none (.region [] (.ops 3 .done)) (.seq (some (412316991488, [(17, (.one (.int .i64)))])) (.seq none (.region [] (.ops 2 .done)) (.cond none (.region [] (.ops 1 .done)) .leaf)) (.seq none (.region [] (.ops 4 .done)) (.seq none (.region [] (.ops 6 .done)) (.seq none (.region [] (.ops 2 .done)) (.seq (some (75557863444439347494912, [(18, (.one .sl))])) (.seq none (.region [] (.ops 1 .done)) (.block (.loop 75557863444439347494912 [(18, (.one .sl)), (19, (.one (.int .i64)))] (.seq none (.seq (some (71776119061217280, [(55, (.one .bool))])) (.region [] (.ops 5 (.split 52 (.ops 3 .done) (.skips 2 (.ops 1 .done))))) (.cond none .leaf .leaf)) (.seq (some (75557575495538171969536, [(18, (.one .sl))])) (.block (.seq none (.region [] (.ops 10 .done)) (.seq none (.region [] (.ops 6 .done)) (.cond none (.region [] (.ops 4 .done)) .leaf)))) (.region [] (.ops 3 .done))))))) (.seq none (.region [] (.ops 4 .done)) (.seq none (.region [] (.ops 3 .done)) (.seq none (.region [] (.ops 18 .done)) (.seq none (.seq none (.region [] (.ops 2 .done)) (.cond none (.seq none (.region [] (.ops 1 .done)) .leaf) .leaf)) (.seq none (.region [] (.ops 11 .done)) (.seq none (.region [] (.ops 7 .done)) (.seq none (.region [] (.ops 10 .done)) (.seq none (.region [] (.ops 13 .done)) (.seq none (.seq none (.region [] (.ops 6 .done)) (.cond none (.seq none (.region [] (.ops 1 .done)) .leaf) .leaf)) (.seq none (.region [] (.ops 12 .done)) (.seq none (.seq none (.region [] (.ops 8 .done)) (.cond none (.seq none (.region [] (.ops 1 .done)) .leaf) .leaf)) (.seq none (.region [] (.ops 16 .done)) (.seq none (.seq none (.region [] (.ops 2 .done)) (.cond none (.seq none (.region [] (.ops 1 .done)) .leaf) .leaf)) (.seq none (.region [] (.ops 12 .done)) (.seq none (.region [] (.ops 3 .done)) .leaf))))))))))))))))))))))))
noncomputable def F16 (a0 : (Int × Sl × Unit)) (K : ((Option Addr × Sl × Unit) × Bool × Unit) → World → Prop) : World → Prop :=
 newO (.cells #[(.int .i64 a0.1), (.slice a0.2.1.a a0.2.1.len a0.2.1.cap)] 24) fun b1 =>
 newO (.cells #[(.pointer none), (.slice none 0 0)] 28) fun b2 =>
 ld (.int .i64) (at0 b1) fun (x3 : Int) =>
 join (S := Sl × Unit) (fun J4 =>
 sloop (S := Sl × Int × Unit) (fun (s6 : Sl × Int × Unit) again7 =>
 join (S := Bool × Unit) (fun J8 =>
 ld (.sl) (⟨b1, 1, none⟩ : Addr) fun (x10 : Sl) =>
 sif (decide (s6.2.1 < ((x10.len : Nat) : Int))) (
 J8 ((decide (s6.2.1 < (50000 : Int))), ())) (
 J8 (false, ()))) fun (s9 : Bool × Unit) =>
 sif s9.1 (
 ld (.sl) (⟨b1, 1, none⟩ : Addr) fun (x11 : Sl) =>
 ix x11.a x11.len s6.2.1 fun p12 =>
 ld (.int .u8) (p12.add (scaled (Int.toNat s6.2.1) 1)) fun (x13 : Int) =>
 newO (.cells #[(.int .u8 x13)] 5) fun b14 =>
 rawT Tryz.prog (.one (.one .sl)) (Builtin.append_ #[22, 22] 22 #[(.slice s6.1.a s6.1.len s6.1.cap), (.slice (some (at0 b14)) 1 1)]) fun (x15 : Sl) =>
 again7 (x15, (IntKind.wrap .i64 (s6.2.1 + (1 : Int))), ())) (
 J4 (s6.1, ()))) (⟨none, 0, 0⟩, (0 : Int), ())) fun (s5 : Sl × Unit) =>
 callT Tryz.prog 34 #[(.int .i64 (IntKind.wrap .i64 ((1 : Int) + (IntKind.wrap .i64 ((BitVec.toNat (BitVec.ofInt (IntKind.bits .i64) x3 &&& BitVec.ofInt (IntKind.bits .i64) (3 : Int)) : Nat) : Int))))), (.slice s5.1.a s5.1.len s5.1.cap)] (.tup [(.one .sl), (.one (.int .i64))]) fun (x16 : (Sl × Int × Unit)) =>
 callT Tryz.prog 35 #[(.int .i64 (IntKind.wrap .i64 ((1 : Int) + (IntKind.wrap .i64 ((BitVec.toNat (BitVec.ofInt (IntKind.bits .i64) x3 &&& BitVec.ofInt (IntKind.bits .i64) (3 : Int)) : Nat) : Int))))), (.slice s5.1.a s5.1.len s5.1.cap), (.int .i64 (65536 : Int))] (.tup [(.one .ptr), (.one (.int .i64))]) fun (x17 : (Option Addr × Int × Unit)) =>
 join (S := Bool × Unit) (fun J18 =>
 sif (Option.isNone x17.1) (
 J18 (true, ())) (
 J18 ((x17.2.1 != (0 : Int)), ()))) fun (s19 : Bool × Unit) =>
 sif s19.1 (
 aggSt (at0 b2) (.agg #[(.pointer none), (.slice none 0 0)]) 2 <|
 lds c28 (at0 b2) fun (x20 : (Option Addr × Sl × Unit)) =>
 K (x20, false, ())) (
 callT Tryz.prog 36 #[(.pointer x17.1), (.slice x16.1.a x16.1.len x16.1.cap)] (.one (.one .bool)) fun (x21 : Bool) =>
 aggSt (at0 b2) (.agg #[(.pointer x17.1), (.slice x16.1.a x16.1.len x16.1.cap)]) 2 <|
 lds c28 (at0 b2) fun (x22 : (Option Addr × Sl × Unit)) =>
 K (x22, x21, ()))
noncomputable def h16 : Hint := (.seq none (.region [] (.ops 3 .done)) (.seq none (.region [] (.ops 5 .done)) (.seq none (.region [] (.ops 1 .done)) (.seq (some (17179836512, [(5, (.one .sl))])) (.seq none (.region [] (.ops 1 .done)) (.block (.loop 17179836512 [(5, (.one .sl)), (6, (.one (.int .i64)))] (.seq none (.seq (some (16744448, [(23, (.one .bool))])) (.region [] (.ops 6 (.split 20 (.ops 3 .done) (.skips 2 (.ops 1 .done))))) (.cond none .leaf .leaf)) (.seq none (.block (.region [] (.ops 9 .done))) (.region [] (.ops 3 .done))))))) (.seq none (.region [] (.ops 8 .done)) (.seq none (.region [] (.ops 8 .done)) (.seq none (.seq (some (4433230883192832, [(51, (.one .bool))])) (.region [] (.ops 3 (.split 48 (.skips 2 (.ops 1 .done)) (.ops 3 .done)))) (.cond none (.seq none (.region [] (.ops 3 .done)) .leaf) .leaf)) (.seq none (.region [] (.ops 8 .done)) .leaf))))))))
theorem F16_tie (a0 : (Int × Sl × Unit)) (K : ((Option Addr × Sl × Unit) × Bool × Unit) → World → Prop) : vcgF tab Tryz.prog Tryz.f16 h16 [(.agg (Cells.vals c24 a0).toArray)] (.tup [(.agg c28), (.one .bool)]) K = F16 a0 K := by kernel_rfl
theorem F16_calls {a0 : (Int × Sl × Unit)} {K : ((Option Addr × Sl × Unit) × Bool × Unit) → World → Prop} {w : World} (h : F16 a0 K w) : callT Tryz.prog 16 #[(.agg (Cells.vals c24 a0).toArray)] (.tup [(.agg c28), (.one .bool)]) K w :=
  vcgF_sound tabOk Tryz.func16 h16 [(.agg (Cells.vals c24 a0).toArray)] (.tup [(.agg c28), (.one .bool)]) K w (Eq.mpr (congrFun (F16_tie a0 K) w) h)
noncomputable def F17 (a0 : Int) (K : Bool → World → Prop) : World → Prop :=
 newO (.cells #[(.int .u8 (40 : Int)), (.int .u8 (34 : Int)), (.int .u8 (120 : Int)), (.int .u8 (34 : Int)), (.int .u8 (41 : Int))] 5) fun b1 =>
 rawT Tryz.prog (.one (.one .sl)) (convert 22 22 (.slice (some (at0 b1)) 5 5)) fun x2 =>
 callT Tryz.prog 16 #[(.agg #[(.int .i64 (0 : Int)), (.slice x2.a x2.len x2.cap)])] (.tup [(.agg c28), (.one .bool)]) fun (x3 : ((Option Addr × Sl × Unit) × Bool × Unit)) =>
 newO (.cells #[(.pointer none), (.slice none 0 0)] 28) fun b4 =>
 aggSt (at0 b4) (.agg (Cells.vals c28 x3.1).toArray) 2 <|
 sif (!x3.2.1) (
 K false) (
 newO (.cells #[(.int .i64 (0 : Int)), (.int .i64 (0 : Int)), (.int .i64 (0 : Int))] 34) fun b5 =>
 join (S := Int × Unit) (fun J6 =>
 sif (a0 == (1 : Int)) (
 ld (.ptr) (at0 b4) fun (x8 : Option Addr) =>
 callT Tryz.prog 29 #[(.pointer x8), (.int .i64 (2 : Int)), (.agg #[(.int .i64 (61 : Int)), (.int .i64 (0 : Int)), (.int .i64 (0 : Int))])] (.tup [(.agg c34), (.one (.int .i64))]) fun (x9 : ((Int × Int × Int × Unit) × Int × Unit)) =>
 aggSt (at0 b5) (.agg (Cells.vals c34 x9.1).toArray) 3 <|
 J6 (x9.2.1, ())) (
 sif (a0 == (2 : Int)) (
 ld (.ptr) (at0 b4) fun (x10 : Option Addr) =>
 callT Tryz.prog 31 #[(.pointer x10), (.int .i64 (2 : Int)), (.agg #[(.int .i64 (65 : Int)), (.int .i64 (0 : Int)), (.int .i64 (34 : Int))])] (.tup [(.agg c34), (.one (.int .i64))]) fun (x11 : ((Int × Int × Int × Unit) × Int × Unit)) =>
 aggSt (at0 b5) (.agg (Cells.vals c34 x11.1).toArray) 3 <|
 J6 (x11.2.1, ())) (
 sif (a0 == (3 : Int)) (
 ld (.ptr) (at0 b4) fun (x12 : Option Addr) =>
 callT Tryz.prog 19 #[(.pointer x12), (.int .i64 (2 : Int)), (.agg #[(.int .i64 (67 : Int)), (.int .i64 (0 : Int)), (.int .i64 (40 : Int))])] (.tup [(.agg c34), (.one (.int .i64))]) fun (x13 : ((Int × Int × Int × Unit) × Int × Unit)) =>
 aggSt (at0 b5) (.agg (Cells.vals c34 x13.1).toArray) 3 <|
 sif (x13.2.1 == (0 : Int)) (
 ld (.int .i64) (at0 b5) fun (x14 : Int) =>
 sif (x14 == (1 : Int)) (
 ld (.int .i64) (⟨b5, 1, none⟩ : Addr) fun (x15 : Int) =>
 K (x15 == (4 : Int))) (
 K false)) (
 K false)) (
 sif (a0 == (4 : Int)) (
 ld (.ptr) (at0 b4) fun (x16 : Option Addr) =>
 callT Tryz.prog 33 #[(.pointer x16), (.int .i64 (2 : Int)), (.agg #[(.int .i64 (69 : Int)), (.int .i64 (0 : Int)), (.int .i64 (0 : Int))])] (.tup [(.agg c34), (.one (.int .i64))]) fun (x17 : ((Int × Int × Int × Unit) × Int × Unit)) =>
 aggSt (at0 b5) (.agg (Cells.vals c34 x17.1).toArray) 3 <|
 sif (x17.2.1 == (0 : Int)) (
 ld (.int .i64) (⟨b5, 2, none⟩ : Addr) fun (x18 : Int) =>
 sif (x18 == (1 : Int)) (
 ld (.int .i64) (⟨b5, 1, none⟩ : Addr) fun (x19 : Int) =>
 K (x19 == (5 : Int))) (
 K false)) (
 K false)) (
 sif (a0 == (5 : Int)) (
 ld (.ptr) (at0 b4) fun (x20 : Option Addr) =>
 callT Tryz.prog 20 #[(.pointer x20), (.int .i64 (2 : Int)), (.agg #[(.int .i64 (61 : Int)), (.int .i64 (0 : Int)), (.int .i64 (0 : Int))])] (.tup [(.agg c34), (.one (.int .i64))]) fun (x21 : ((Int × Int × Int × Unit) × Int × Unit)) =>
 aggSt (at0 b5) (.agg (Cells.vals c34 x21.1).toArray) 3 <|
 J6 (x21.2.1, ())) (
 J6 ((0 : Int), ()))))))) fun (s7 : Int × Unit) =>
 sif (s7.1 == (0 : Int)) (
 ld (.int .i64) (at0 b5) fun (x22 : Int) =>
 sif (x22 == (2 : Int)) (
 ld (.int .i64) (⟨b5, 1, none⟩ : Addr) fun (x23 : Int) =>
 sif (x23 == (3 : Int)) (
 ld (.int .i64) (⟨b5, 2, none⟩ : Addr) fun (x24 : Int) =>
 K (x24 == (0 : Int))) (
 K false)) (
 K false)) (
 K false))
noncomputable def h17 : Hint := (.seq none (.region [] (.ops 1 .done)) (.seq none (.region [] (.ops 10 .done)) (.seq none (.seq none (.region [] (.ops 2 .done)) (.cond none (.seq none (.region [] (.ops 1 .done)) .leaf) .leaf)) (.seq none (.region [] (.ops 1 .done)) (.seq none (.region [] (.ops 1 .done)) (.seq (some (77371252455336267181129796, [(6, (.one (.int .i64)))])) (.seq none (.region [] (.ops 1 .done)) (.block (.seq none (.region [] (.ops 2 .done)) (.cond none (.region [] (.ops 9 .done)) (.seq none (.region [] (.ops 2 .done)) (.cond none (.region [] (.ops 9 .done)) (.seq none (.region [] (.ops 2 .done)) (.cond none (.seq none (.region [] (.ops 9 .done)) (.seq none (.region [] (.ops 3 (.split 46 (.ops 5 (.split 51 (.ops 5 .done) (.skips 3 (.ops 2 .done)))) (.skips 3 (.ops 2 (.skips 3 (.ops 2 .done))))))) .leaf)) (.seq none (.region [] (.ops 2 .done)) (.cond none (.seq none (.region [] (.ops 9 .done)) (.seq none (.region [] (.ops 3 (.split 67 (.ops 5 (.split 72 (.ops 5 .done) (.skips 3 (.ops 2 .done)))) (.skips 3 (.ops 2 (.skips 3 (.ops 2 .done))))))) .leaf)) (.seq none (.region [] (.ops 2 .done)) (.cond none (.region [] (.ops 9 .done)) .leaf)))))))))))) (.seq none (.region [] (.ops 3 (.split 88 (.ops 5 (.split 93 (.ops 5 (.split 98 (.ops 5 .done) (.skips 3 (.ops 2 .done)))) (.skips 3 (.ops 2 (.skips 3 (.ops 2 .done)))))) (.skips 3 (.ops 2 (.skips 3 (.ops 2 (.skips 3 (.ops 2 .done))))))))) .leaf)))))))
theorem F17_tie (a0 : Int) (K : Bool → World → Prop) : vcgF tab Tryz.prog Tryz.f17 h17 [(.int .i64 a0)] (.one (.one .bool)) K = F17 a0 K := by kernel_rfl
theorem F17_calls {a0 : Int} {K : Bool → World → Prop} {w : World} (h : F17 a0 K w) : callT Tryz.prog 17 #[(.int .i64 a0)] (.one (.one .bool)) K w :=
  vcgF_sound tabOk Tryz.func17 h17 [(.int .i64 a0)] (.one (.one .bool)) K w (Eq.mpr (congrFun (F17_tie a0 K) w) h)
noncomputable def F18 (a0 : Int) (a1 : Int) (K : Int → World → Prop) : World → Prop :=
 join (S := Int × Unit) (fun J1 =>
 sif (decide (a0 < (0 : Int))) (
 J1 ((IntKind.wrap .i64 (0 - (IntKind.wrap .i64 (a0 + (1 : Int))))), ())) (
 J1 (a0, ()))) fun (s2 : Int × Unit) =>
 chk ((IntKind.wrap .i64 (a1 + (1 : Int))) ≠ 0) <|
 K (Int.tmod s2.1 (IntKind.wrap .i64 (a1 + (1 : Int))))
noncomputable def h18 : Hint := (.seq none (.region [] (.ops 1 .done)) (.seq (some (993, [(0, (.one (.int .i64)))])) (.seq none (.region [] (.ops 2 .done)) (.cond none (.region [] (.ops 4 .done)) .leaf)) (.seq none (.region [] (.ops 5 .done)) .leaf)))
theorem F18_tie (a0 : Int) (a1 : Int) (K : Int → World → Prop) : vcgF tab Tryz.prog Tryz.f18 h18 [(.int .i64 a0), (.int .i64 a1)] (.one (.one (.int .i64))) K = F18 a0 a1 K := by kernel_rfl
theorem F18_calls {a0 : Int} {a1 : Int} {K : Int → World → Prop} {w : World} (h : F18 a0 a1 K w) : callT Tryz.prog 18 #[(.int .i64 a0), (.int .i64 a1)] (.one (.one (.int .i64))) K w :=
  vcgF_sound tabOk Tryz.func18 h18 [(.int .i64 a0), (.int .i64 a1)] (.one (.one (.int .i64))) K w (Eq.mpr (congrFun (F18_tie a0 a1 K) w) h)
noncomputable def F21 (a0 : Option Addr) (a1 : (Int × Int × Int × Unit)) (K : Bool → World → Prop) : World → Prop :=
 newO (.cells #[(.int .i64 a1.1), (.int .i64 a1.2.1), (.int .i64 a1.2.2.1)] 34) fun b1 =>
 drew <|
 ld (.int .i64) (at0 b1) fun (x2 : Int) =>
 sif (decide (x2 ≥ (0 : Int))) (
 ld (.int .i64) (at0 b1) fun (x3 : Int) =>
 ld (.int .i64) (⟨b1, 1, none⟩ : Addr) fun (x4 : Int) =>
 sif (decide (x3 ≤ x4)) (
 ld (.int .i64) (⟨b1, 1, none⟩ : Addr) fun (x5 : Int) =>
 nn a0 fun p6 =>
 ld (.sl) (p6.add 1) fun (x7 : Sl) =>
 sif (decide (x5 ≤ ((x7.len : Nat) : Int))) (
 nn a0 fun p8 =>
 ld (.sl) (p8.add 1) fun (x9 : Sl) =>
 ld (.int .i64) (at0 b1) fun (x10 : Int) =>
 callT Tryz.prog 46 #[(.slice x9.a x9.len x9.cap)] (.one (.one .sl)) fun (x11 : Sl) =>
 keep (fun w => w.cell? (at0 b1) = some (Cell.val (.int .i64) x10)) <|
 callT Tryz.prog 45 #[(.slice x11.a x11.len x11.cap), (.int .i64 x10)] (.one (.one .bool)) fun (x12 : Bool) =>
 sif x12 (
 nn a0 fun p13 =>
 ld (.sl) (p13.add 1) fun (x14 : Sl) =>
 ld (.int .i64) (⟨b1, 1, none⟩ : Addr) fun (x15 : Int) =>
 callT Tryz.prog 46 #[(.slice x14.a x14.len x14.cap)] (.one (.one .sl)) fun (x16 : Sl) =>
 keep (fun w => w.cell? (⟨b1, 1, none⟩ : Addr) = some (Cell.val (.int .i64) x15)) <|
 callT Tryz.prog 45 #[(.slice x16.a x16.len x16.cap), (.int .i64 x15)] (.one (.one .bool)) fun (x17 : Bool) =>
 K x17) (
 K false)) (
 K false)) (
 K false)) (
 K false)
noncomputable def h21 : Hint := (.seq none (.region [] (.ops 2 .done)) (.seq none (.region [0, 1, 2, 3, 4, 5, 6, 7, 8, 9, 10, 11, 12, 13, 14, 15, 16, 17, 18, 19, 20, 21, 22, 23, 24, 26, 27, 25, 28, 29, 30, 31, 32, 33, 34, 36, 37, 35, 38, 39, 40] (.ops 4 (.split 8 (.ops 7 (.split 15 (.ops 10 (.split 25 (.ops 10 (.split 35 (.ops 10 .done) (.skips 8 (.ops 2 .done)))) (.skips 8 (.ops 2 (.skips 8 (.ops 2 .done)))))) (.skips 8 (.ops 2 (.skips 8 (.ops 2 (.skips 8 (.ops 2 .done)))))))) (.skips 5 (.ops 2 (.skips 8 (.ops 2 (.skips 8 (.ops 2 (.skips 8 (.ops 2 .done))))))))))) .leaf))
theorem F21_tie (a0 : Option Addr) (a1 : (Int × Int × Int × Unit)) (K : Bool → World → Prop) : vcgF tab Tryz.prog Tryz.f21 h21 [(.pointer a0), (.agg (Cells.vals c34 a1).toArray)] (.one (.one .bool)) K = F21 a0 a1 K := by kernel_rfl
theorem F21_calls {a0 : Option Addr} {a1 : (Int × Int × Int × Unit)} {K : Bool → World → Prop} {w : World} (h : F21 a0 a1 K w) : callT Tryz.prog 21 #[(.pointer a0), (.agg (Cells.vals c34 a1).toArray)] (.one (.one .bool)) K w :=
  vcgF_sound tabOk Tryz.func21 h21 [(.pointer a0), (.agg (Cells.vals c34 a1).toArray)] (.one (.one .bool)) K w (Eq.mpr (congrFun (F21_tie a0 a1 K) w) h)
noncomputable def F24 (a0 : Option Addr) (a1 : Int) (a2 : Int) (a3 : (Int × Int × Int × Unit)) (K : Bool → World → Prop) : World → Prop :=
 newO (.cells #[(.int .i64 a3.1), (.int .i64 a3.2.1), (.int .i64 a3.2.2.1)] 34) fun b1 =>
 nn a0 fun p2 =>
 ld (.ptr) p2 fun (x3 : Option Addr) =>
 callT Tryz.prog 20 #[(.pointer x3), (.int .i64 a1), (.agg #[(.int .i64 a2), (.int .i64 (0 : Int)), (.int .i64 (0 : Int))])] (.tup [(.agg c34), (.one (.int .i64))]) fun (x4 : ((Int × Int × Int × Unit) × Int × Unit)) =>
 newO (.cells #[(.int .i64 (0 : Int)), (.int .i64 (0 : Int)), (.int .i64 (0 : Int))] 34) fun b5 =>
 aggSt (at0 b5) (.agg (Cells.vals c34 x4.1).toArray) 3 <|
 lds c34 (at0 b5) fun (x6 : (Int × Int × Int × Unit)) =>
 ld (.int .i64) (at0 b1) fun (x7 : Int) =>
 ld (.int .i64) (⟨b1, 1, none⟩ : Addr) fun (x8 : Int) =>
 ld (.int .i64) (⟨b1, 2, none⟩ : Addr) fun (x9 : Int) =>
 callT Tryz.prog 30 #[(.agg (Cells.vals c34 x6).toArray), (.int .i64 x4.2.1), (.int .i64 x7), (.int .i64 x8), (.int .i64 x9)] (.one (.one .bool)) fun (x10 : Bool) =>
 K x10
noncomputable def h24 : Hint := (.seq none (.region [] (.ops 2 .done)) (.seq none (.region [] (.ops 14 .done)) (.seq none (.region [] (.ops 10 .done)) .leaf)))
theorem F24_tie (a0 : Option Addr) (a1 : Int) (a2 : Int) (a3 : (Int × Int × Int × Unit)) (K : Bool → World → Prop) : vcgF tab Tryz.prog Tryz.f24 h24 [(.pointer a0), (.int .i64 a1), (.int .i64 a2), (.agg (Cells.vals c34 a3).toArray)] (.one (.one .bool)) K = F24 a0 a1 a2 a3 K := by kernel_rfl
theorem F24_calls {a0 : Option Addr} {a1 : Int} {a2 : Int} {a3 : (Int × Int × Int × Unit)} {K : Bool → World → Prop} {w : World} (h : F24 a0 a1 a2 a3 K w) : callT Tryz.prog 24 #[(.pointer a0), (.int .i64 a1), (.int .i64 a2), (.agg (Cells.vals c34 a3).toArray)] (.one (.one .bool)) K w :=
  vcgF_sound tabOk Tryz.func24 h24 [(.pointer a0), (.int .i64 a1), (.int .i64 a2), (.agg (Cells.vals c34 a3).toArray)] (.one (.one .bool)) K w (Eq.mpr (congrFun (F24_tie a0 a1 a2 a3 K) w) h)
noncomputable def F30 (a0 : (Int × Int × Int × Unit)) (a1 : Int) (a2 : Int) (a3 : Int) (a4 : Int) (K : Bool → World → Prop) : World → Prop :=
 newO (.cells #[(.int .i64 a0.1), (.int .i64 a0.2.1), (.int .i64 a0.2.2.1)] 34) fun b1 =>
 sif (a1 == (0 : Int)) (
 ld (.int .i64) (at0 b1) fun (x2 : Int) =>
 sif (x2 == a2) (
 ld (.int .i64) (⟨b1, 1, none⟩ : Addr) fun (x3 : Int) =>
 sif (x3 == a3) (
 ld (.int .i64) (⟨b1, 2, none⟩ : Addr) fun (x4 : Int) =>
 K (x4 == a4)) (
 K false)) (
 K false)) (
 K false)
noncomputable def h30 : Hint := (.seq none (.region [] (.ops 2 .done)) (.seq none (.region [] (.ops 3 (.split 13 (.ops 6 (.split 19 (.ops 6 (.split 25 (.ops 6 .done) (.skips 4 (.ops 2 .done)))) (.skips 4 (.ops 2 (.skips 4 (.ops 2 .done)))))) (.skips 4 (.ops 2 (.skips 4 (.ops 2 (.skips 4 (.ops 2 .done))))))))) .leaf))
theorem F30_tie (a0 : (Int × Int × Int × Unit)) (a1 : Int) (a2 : Int) (a3 : Int) (a4 : Int) (K : Bool → World → Prop) : vcgF tab Tryz.prog Tryz.f30 h30 [(.agg (Cells.vals c34 a0).toArray), (.int .i64 a1), (.int .i64 a2), (.int .i64 a3), (.int .i64 a4)] (.one (.one .bool)) K = F30 a0 a1 a2 a3 a4 K := by kernel_rfl
theorem F30_calls {a0 : (Int × Int × Int × Unit)} {a1 : Int} {a2 : Int} {a3 : Int} {a4 : Int} {K : Bool → World → Prop} {w : World} (h : F30 a0 a1 a2 a3 a4 K w) : callT Tryz.prog 30 #[(.agg (Cells.vals c34 a0).toArray), (.int .i64 a1), (.int .i64 a2), (.int .i64 a3), (.int .i64 a4)] (.one (.one .bool)) K w :=
  vcgF_sound tabOk Tryz.func30 h30 [(.agg (Cells.vals c34 a0).toArray), (.int .i64 a1), (.int .i64 a2), (.int .i64 a3), (.int .i64 a4)] (.one (.one .bool)) K w (Eq.mpr (congrFun (F30_tie a0 a1 a2 a3 a4 K) w) h)
noncomputable def h32 : Hint := (.seq none (.region [] (.ops 1 .done)) (.seq none (.region [] (.ops 3 .done)) (.seq (some (4193888, [(5, (.one .sl))])) (.seq none (.region [] (.ops 1 .done)) (.block (.loop 4193888 [(5, (.one .sl)), (6, (.one (.int .i64)))] (.seq none (.seq none (.region [] (.ops 4 .done)) (.cond none .leaf .leaf)) (.seq none (.block (.region [] (.ops 8 .done))) (.region [] (.ops 3 .done))))))) (.seq none (.region [] (.ops 2 .done)) .leaf))))
noncomputable def F36 (a0 : Option Addr) (a1 : Sl) (K : Bool → World → Prop) : World → Prop :=
 join (S := Unit) (fun J1 =>
 sloop (S := Int × Int × Unit) (fun (s3 : Int × Int × Unit) again4 =>
 sif (decide (s3.2.1 < ((a1.len : Nat) : Int))) (
 join (S := Int × Unit) (fun J5 =>
 join (S := Bool × Unit) (fun J7 =>
 ix a1.a a1.len s3.2.1 fun p9 =>
 ld (.int .i64) (p9.add (scaled (Int.toNat s3.2.1) 1)) fun (x10 : Int) =>
 sif (x10 == (10 : Int)) (
 J7 (true, ())) (
 ix a1.a a1.len s3.2.1 fun p11 =>
 ld (.int .i64) (p11.add (scaled (Int.toNat s3.2.1) 1)) fun (x12 : Int) =>
 sif (x12 == (13 : Int)) (
 sif ((IntKind.wrap .i64 (s3.2.1 + (1 : Int))) == ((a1.len : Nat) : Int)) (
 J7 (true, ())) (
 ix a1.a a1.len (IntKind.wrap .i64 (s3.2.1 + (1 : Int))) fun p13 =>
 ld (.int .i64) (p13.add (scaled (Int.toNat (IntKind.wrap .i64 (s3.2.1 + (1 : Int)))) 1)) fun (x14 : Int) =>
 J7 ((x14 != (10 : Int)), ()))) (
 J7 (false, ())))) fun (s8 : Bool × Unit) =>
 sif s8.1 (
 join (S := Bool × Unit) (fun J15 =>
 callT Tryz.prog 66 #[(.pointer a0), (.int .i64 (IntKind.wrap .i64 (s3.2.1 + (1 : Int))))] (.one (.one (.int .i64))) fun (x17 : Int) =>
 sif (x17 != (IntKind.wrap .i64 (s3.1 + (1 : Int)))) (
 J15 (true, ())) (
 callT Tryz.prog 67 #[(.pointer a0), (.int .i64 (IntKind.wrap .i64 (s3.1 + (1 : Int))))] (.one (.one (.int .i64))) fun (x18 : Int) =>
 J15 ((x18 != (IntKind.wrap .i64 (s3.2.1 + (1 : Int)))), ()))) fun (s16 : Bool × Unit) =>
 sif s16.1 (
 K false) (
 J5 ((IntKind.wrap .i64 (s3.1 + (1 : Int))), ()))) (
 J5 (s3.1, ()))) fun (s6 : Int × Unit) =>
 again4 (s6.1, (IntKind.wrap .i64 (s3.2.1 + (1 : Int))), ())) (
 J1 ())) ((0 : Int), (0 : Int), ())) fun (s2 : Unit) =>
 K true
noncomputable def h36 : Hint := (.seq none (.region [] (.ops 1 .done)) (.seq none (.region [] (.ops 1 .done)) (.seq (some (72057594037927920, [])) (.seq none (.region [] (.ops 1 .done)) (.block (.loop 72057594037927920 [(5, (.one (.int .i64))), (6, (.one (.int .i64)))] (.seq none (.seq none (.region [] (.ops 4 .done)) (.cond none .leaf .leaf)) (.seq (some (72057594037919792, [(5, (.one (.int .i64)))])) (.block (.seq (some (1099511619584, [(39, (.one .bool))])) (.region [] (.ops 6 (.split 18 (.skips 20 (.ops 1 .done)) (.ops 6 (.split 24 (.ops 6 (.split 30 (.skips 6 (.ops 3 .done)) (.ops 9 .done))) (.skips 13 (.ops 2 .done))))))) (.cond none (.seq none (.region [] (.ops 3 .done)) (.seq (some (72053195991416832, [(55, (.one .bool))])) (.region [] (.ops 7 (.split 48 (.skips 6 (.ops 1 .done)) (.ops 7 .done)))) (.cond none (.seq none (.region [] (.ops 1 .done)) .leaf) .leaf))) .leaf))) (.region [] (.ops 3 .done))))))) (.seq none (.region [] (.ops 1 .done)) .leaf))))
theorem F36_tie (a0 : Option Addr) (a1 : Sl) (K : Bool → World → Prop) : vcgF tab Tryz.prog Tryz.f36 h36 [(.pointer a0), (.slice a1.a a1.len a1.cap)] (.one (.one .bool)) K = F36 a0 a1 K := by kernel_rfl
theorem F36_calls {a0 : Option Addr} {a1 : Sl} {K : Bool → World → Prop} {w : World} (h : F36 a0 a1 K w) : callT Tryz.prog 36 #[(.pointer a0), (.slice a1.a a1.len a1.cap)] (.one (.one .bool)) K w :=
  vcgF_sound tabOk Tryz.func36 h36 [(.pointer a0), (.slice a1.a a1.len a1.cap)] (.one (.one .bool)) K w (Eq.mpr (congrFun (F36_tie a0 a1 K) w) h)
noncomputable def F46 (a0 : Sl) (K : Sl → World → Prop) : World → Prop :=
 join (S := Sl × Unit) (fun J1 =>
 sloop (S := Sl × Int × Unit) (fun (s3 : Sl × Int × Unit) again4 =>
 sif (decide (s3.2.1 < ((a0.len : Nat) : Int))) (
 ix a0.a a0.len s3.2.1 fun p5 =>
 ld (.int .i64) (p5.add (scaled (Int.toNat s3.2.1) 1)) fun (x6 : Int) =>
 newO (.cells #[(.int .i64 x6)] 3) fun b7 =>
 rawT Tryz.prog (.one (.one .sl)) (Builtin.append_ #[26, 26] 26 #[(.slice s3.1.a s3.1.len s3.1.cap), (.slice (some (at0 b7)) 1 1)]) fun (x8 : Sl) =>
 again4 (x8, (IntKind.wrap .i64 (s3.2.1 + (1 : Int))), ())) (
 J1 (s3.1, ()))) (⟨none, 0, 0⟩, (0 : Int), ())) fun (s2 : Sl × Unit) =>
 K s2.1
noncomputable def h46 : Hint := (.seq none (.region [] (.ops 1 .done)) (.seq none (.region [] (.ops 1 .done)) (.seq (some (262136, [(3, (.one .sl))])) (.seq none (.region [] (.ops 1 .done)) (.block (.loop 262136 [(3, (.one .sl)), (4, (.one (.int .i64)))] (.seq none (.seq none (.region [] (.ops 4 .done)) (.cond none .leaf .leaf)) (.seq none (.block (.region [] (.ops 8 .done))) (.region [] (.ops 3 .done))))))) (.seq none (.region [] (.ops 2 .done)) .leaf))))
theorem F46_tie (a0 : Sl) (K : Sl → World → Prop) : vcgF tab Tryz.prog Tryz.f46 h46 [(.slice a0.a a0.len a0.cap)] (.one (.one .sl)) K = F46 a0 K := by kernel_rfl
theorem F46_calls {a0 : Sl} {K : Sl → World → Prop} {w : World} (h : F46 a0 K w) : callT Tryz.prog 46 #[(.slice a0.a a0.len a0.cap)] (.one (.one .sl)) K w :=
  vcgF_sound tabOk Tryz.func46 h46 [(.slice a0.a a0.len a0.cap)] (.one (.one .sl)) K w (Eq.mpr (congrFun (F46_tie a0 K) w) h)
end Go.Proofs.YtabcpghhfeplaaaGreat
set_option linter.unusedSimpArgs false
set_option linter.unusedVariables false
set_option maxRecDepth 100000
namespace Go.Proofs.YtabcpghhfeplaaaGreat
open Go Go.Vx Cdc Trx Gly Clu Lns Obx
section
variable {w w' : World} {S : Nat → Prop} {p : Nat} {e : Enc} {lim na : Nat} {O : Nat → Prop} {M : Parts}
abbrev In64 (x : Int) : Prop := -(2 ^ 63) ≤ x ∧ x < 2 ^ 63
def within (x : Int) (n : Nat) : Nat := (if x < 0 then -(x + 1) else x).toNat % (n + 1)
theorem within_le (x : Int) (n : Nat) : within x n ≤ n := by have := Nat.mod_lt (if x < 0 then -(x + 1) else x).toNat (show 0 < n + 1 by omega); unfold within; omega
theorem within_call {x : Int} {n : Nat} (hx : In64 x) (hn : n < 2 ^ 62) {K : Int → World → Prop} (hK : K ((within x n : Nat) : Int) w) : callT Tryz.prog 18 #[.int .i64 x, .int .i64 (n : Int)] (.one (.one (.int .i64))) K w := by
  refine F18_calls ?_
  unfold F18
  have ew : IntKind.wrap .i64 ((n : Int) + 1) = ((n + 1 : Nat) : Int) := by rw [wrap64 (by omega) (by omega)]; omega
  rw [ew]
  refine join_r (fun y W => y = ((((if x < 0 then -(x + 1) else x).toNat : Nat) : Int), ()) ∧ w = W) ?_ ?_
  · refine sif_r (fun h => ⟨?_, rfl⟩) (fun h => ⟨?_, rfl⟩)
    · simp only [decide_eq_true_eq] at h
      rw [if_pos h, wrap64 (a := x + 1) (by omega) (by omega), wrap64 (by omega) (by omega)]
      congr 1; omega
    · simp only [decide_eq_false_iff_not] at h
      rw [if_neg h]
      congr 1; omega
  rintro _ _ ⟨rfl, rfl⟩
  refine chk_r (by omega) ?_
  rw [Int.tmod_eq_emod_of_nonneg (by omega)]
  exact hK
theorem sk_isb {A : List Int} {i : Nat} (h : isb A i = true) : sk A (nb A i + 1) = some (i + 1) := by
  have hi := isb_lt h
  have hn : nb A (i + 1) = nb A i + 1 := by rw [nb_succ, h]; rfl
  have hle : nb A i + 1 ≤ brs A := by rw [← hn, brs_nb]; exact nb_mono A _ _ (by omega)
  obtain ⟨m, hm⟩ := sk_ok hle
  obtain ⟨_, _, h3, h4⟩ := sk_get hm
  rw [hm]
  have h1 : ¬ i + 1 < m := fun hc => by have := h4 _ hc; omega
  have h2 : ¬ m < i + 1 := fun hc => by have := nb_mono A m i (by omega); omega
  congr 1; omega
theorem lined_call {s : Sl} {t : TypeId} (h : Txt w p e lim na O M) (hs : SlIn w s t 1 (iv (atoms (aOf e M)))) {K : Bool → World → Prop} (hK : ∀ w', Ext w w' → K true w') :
    callT Tryz.prog 36 #[.pointer (some (at0 p)), .slice s.a s.len s.cap] (.one (.one .bool)) K w := by
  refine F36_calls ?_
  unfold F36
  have few := h.few; have lims := h.lims
  have hal := hal e M
  generalize hA : atoms (aOf e M) = A at *
  have hlen : A.length = s.len := by have := hs.len1; rwa [List.length_map] at this
  refine join_r (fun _ W => Ext w W) ?_ (fun _ W h => hK W h)
  refine sloop_r (fun x W => ∃ i : Nat, i ≤ A.length ∧ x = (((nb A i : Nat) : Int), (i : Int), ()) ∧ Ext w W) (fun x _ => ((A.length : Int) - x.2.1).toNat) ⟨0, Nat.zero_le _, by rw [nb_zero]; rfl, Ext.refl w⟩ ?_
  rintro _ W ⟨i, hi, rfl, e1⟩
  refine sif_r (fun hc => ?_) (fun _ => e1)
  simp only [decide_eq_true_eq] at hc
  have hil : i < A.length := by omega
  obtain ⟨a, ha⟩ : ∃ a, A[i]? = some a := ⟨_, List.getElem?_eq_getElem hil⟩
  have hnl := nb_le A i
  have ew : IntKind.wrap .i64 ((i : Int) + 1) = ((i + 1 : Nat) : Int) := by rw [wrap64 (by omega) (by omega)]; omega
  have ewn : IntKind.wrap .i64 (((nb A i : Nat) : Int) + 1) = ((nb A i + 1 : Nat) : Int) := by rw [wrap64 (by omega) (by omega)]; omega
  rw [ew, ewn]
  have hs1 := hs.ext e1
  have rd : ∀ {K : Addr → Int → World → Prop}, (∀ p, K p a W) → ix s.a s.len (i : Int) (fun p => ld (.int .i64) (p.add (scaled (Int.toNat (i : Int)) 1)) (K p)) W := fun hk => ix_ld (c := .int .i64) (xs := A) hs1 (by omega) (x := a) (by rw [Int.toNat_natCast]; exact ha) hk
  refine join_r (fun x W' => x = (((nb A (i + 1) : Nat) : Int), ()) ∧ Ext w W') ?_ ?_
  · refine join_r (fun x W' => x = (isb A i, ()) ∧ W = W') ?_ ?_
    · refine rd fun p1 => sif_r (fun h10 => ⟨tupb ?_, rfl⟩) (fun h10 => rd fun p2 => sif_r (fun h13 => sif_r (fun he => ⟨tupb ?_, rfl⟩) (fun he => ?_)) (fun h13 => ⟨tupb ?_, rfl⟩))
      all_goals simp only [beq_iff_eq, beq_eq_false_iff_ne, ne_eq, true_iff, Bool.false_eq_true, false_iff] at *
      · exact (isb_iff ha).2 (.inl h10)
      · exact (isb_iff ha).2 (.inr ⟨h13, by rw [List.getElem?_eq_none (by omega)]; intro h; cases h⟩)
      · obtain ⟨b, hb⟩ : ∃ b, A[i + 1]? = some b := ⟨_, List.getElem?_eq_getElem (by omega)⟩
        refine ix_ld (c := .int .i64) (xs := A) hs1 (by omega) (x := b) (by rw [Int.toNat_natCast]; exact hb) fun p3 => ⟨tupb ?_, rfl⟩
        rw [isb_iff ha, hb, bne_iff_ne, ne_eq, ne_eq, Option.some.injEq]
        exact ⟨fun h => .inr ⟨h13, h⟩, fun h => h.elim (fun h => absurd h h10) fun h => h.2⟩
      · rw [isb_iff ha]
        exact fun h => h.elim h10 fun h => h13 h.1
    rintro _ _ ⟨rfl, rfl⟩
    refine sif_r (fun hb => ?_) (fun hb => ?_)
    · have hb : isb A i = true := hb
      have hn : nb A (i + 1) = nb A i + 1 := by rw [nb_succ, hb]; rfl
      refine join_r (fun x W' => x = (false, ()) ∧ Ext w W') ?_ ?_
      · refine breaks_call (h.ext e1) fun w2 e2 => ?_
        rw [hA, Int.toNat_natCast, hn]
        refine sif_r (fun h => by simp at h) (fun _ => seek_call (h.ext (e1.trans e2)) fun w3 e3 => ⟨?_, (e1.trans e2).trans e3⟩)
        rw [hA, skI_nat, sk_isb hb]
        refine tupb ?_
        simp
      rintro _ w4 ⟨rfl, e4⟩
      refine sif_false ⟨?_, e4⟩
      rw [hn]
    · have hb : isb A i = false := hb
      have hn : nb A (i + 1) = nb A i := by rw [nb_succ, hb]; rfl
      exact ⟨by rw [hn], e1⟩
  · rintro _ W' ⟨rfl, e2⟩
    exact ⟨⟨i + 1, by omega, rfl, e2⟩, by dsimp only; omega⟩
theorem enc_of (x : Int) : ∃ e : Enc, IntKind.wrap .i64 ((1 : Int) + (IntKind.wrap .i64 ((BitVec.toNat (BitVec.ofInt (IntKind.bits .i64) x &&& BitVec.ofInt (IntKind.bits .i64) (3 : Int)) : Nat) : Int))) = e.num := by
  have h : BitVec.toNat (BitVec.ofInt (IntKind.bits .i64) x &&& BitVec.ofInt (IntKind.bits .i64) (3 : Int)) ≤ 3 := by
    rw [BitVec.toNat_and]
    exact Nat.le_trans Nat.and_le_right (by decide)
  generalize BitVec.toNat (BitVec.ofInt (IntKind.bits .i64) x &&& BitVec.ofInt (IntKind.bits .i64) (3 : Int)) = n at h
  match n, h with
  | 0, _ => exact ⟨.u8, by decide⟩
  | 1, _ => exact ⟨.le, by decide⟩
  | 2, _ => exact ⟨.be, by decide⟩
  | 3, _ => exact ⟨.l1, by decide⟩
theorem ix_byX {s : Sl} {l : Bs} {n : Int} {K : Addr → Int → World → Prop} (h : SlX w s 1 (bv l)) (h0 : 0 ≤ n) {b : UInt8} (hb : l[n.toNat]? = some b) (hK : ∀ p, K p (b.toNat : Int) w) :
    ix s.a s.len n (fun p => ld (.int .u8) (p.add (scaled (Int.toNat n) 1)) (K p)) w := by
  rw [bv_map] at h
  exact ix_ldX (c := .int .u8) (xs := l.map fun b => (b.toNat : Int)) h h0 (x := (b.toNat : Int)) (by rw [List.getElem?_map, hb]; rfl) hK
abbrev stT (enc : Int) (s : Sl) : Cells.T c24 := (enc, s, ())
structure Bth (w : World) (N p : Nat) (e : Enc) (O : Nat → Prop) (M : Parts) (s : Sl) : Prop where
  txt : Txt w p e 65536 0 O M
  lst : SlOwn w N s 3 1 (iv (atoms (aOf e M)))
  new : ∀ k, O k → N ≤ k
theorem opened_call {enc : Int} {s : Sl} {l : Bs} (hs : SlX w s 1 (bv l)) (hl : l.length < 2 ^ 60) {K : (Option Addr × Sl × Unit) × Bool × Unit → World → Prop}
    (hK : ∀ p e O M s' w', Bth w' w.heap.size p e O M s' → Ext w w' → (l.length ≤ 50000 → aOf e M = ats e l) → IntKind.wrap .i64 ((1 : Int) + (IntKind.wrap .i64 ((BitVec.toNat (BitVec.ofInt (IntKind.bits .i64) enc &&& BitVec.ofInt (IntKind.bits .i64) (3 : Int)) : Nat) : Int))) = e.num → K ((some (at0 p), s', ()), true, ()) w') :
    callT Tryz.prog 16 #[.agg (Cells.vals c24 (stT enc s)).toArray] (.tup [(.agg c28), (.one .bool)]) K w := by
  refine F16_calls (a0 := stT enc s) ?_
  unfold F16
  have hlen : l.length = s.len := by have := hs.len1; rwa [List.length_map] at this
  let Z : Obj := .cells #[.pointer none, .slice none 0 0] 28 (0, 0)
  let Q : Obj := .cells (Cells.vals c24 (stT enc s)).toArray 24 (0, 0)
  refine (St.start w).newO fun b1 w1 S1 e1 => S1.newO fun b2 w2 S2 e2 => ?_
  have S2 : St (fun _ => False) w w2 [(b2, Z), (b1, Q)] := S2
  refine S2.ld 1 rfl (x := enc) rfl ?_
  refine join_r (fun x W => ∃ m, m = min l.length 50000 ∧ SlOwn W w.heap.size x.1 5 1 (bv (l.take m)) ∧ St (fun _ => False) w W [(b2, Z), (b1, Q)]) ?_ ?_
  · refine sloop_r (fun x W => ∃ i : Nat, i ≤ l.length ∧ i ≤ 50000 ∧ x.2 = ((i : Int), ()) ∧ SlOwn W w2.heap.size x.1 5 1 (bv (l.take i)) ∧ St (fun _ => False) w W [(b2, Z), (b1, Q)] ∧ w2.heap.size ≤ W.heap.size) (fun x _ => ((l.length : Int) - x.2.1).toNat) ⟨0, Nat.zero_le _, Nat.zero_le _, rfl, SlOwn.nil _ _ _ _, S2, Nat.le_refl _⟩ ?_
    rintro ⟨r, _⟩ W ⟨i, hi, hi2, rfl, hr, SW, hW⟩
    dsimp only at hr ⊢
    have hrl := hr.len1
    rw [List.length_map, List.length_take] at hrl
    refine join_r (fun x W' => x = (decide (i < l.length ∧ i < 50000), ()) ∧ W = W') ?_ ?_
    · refine SW.ld 1 rfl (x := s) rfl (sif_r (fun h => ⟨tupb ?_, rfl⟩) (fun h => ⟨tupb ?_, rfl⟩))
      all_goals simp only [decide_eq_true_eq, decide_eq_false_iff_not, Bool.false_eq_true, false_iff] at *
      all_goals omega
    rintro _ _ ⟨rfl, rfl⟩
    refine sif_r (fun hc => ?_) (fun hc => ?_)
    · simp only [decide_eq_true_eq] at hc
      obtain ⟨b, hb⟩ : ∃ b, l[i]? = some b := ⟨_, List.getElem?_eq_getElem hc.1⟩
      have hsW : SlX W s 1 (bv l) := hs.ext SW.upd
      refine SW.ld 1 rfl (x := s) rfl (ix_byX hsW (by omega) (b := b) (by rw [Int.toNat_natCast]; exact hb) fun q => newO_r fun b14 w4 e4 n4 hb4 _ => ?_)
      have hbox : SlX w4 ⟨some (at0 b14), 1, 1⟩ 1 (bv [b]) := (SlIn.of_box n4 (n := 1) (sz := 1) rfl).x
      refine append_rx EBy EBy.ts_ (x := ⟨some (at0 b14), 1, 1⟩) (hr.ext e4) hbox (bv_one [b]) (by
        show (r.len + 1 + (r.len + 1) / 4 + 512) * 1 ≤ 2 ^ 48
        omega) (by have := e4.size; omega) fun r' w5 o5 l5 u5 k5 => ?_
      have ew : IntKind.wrap .i64 ((i : Int) + 1) = ((i + 1 : Nat) : Int) := by rw [wrap64 (by omega) (by omega)]; omega
      rw [ew]
      have e5 : bv (l.take i) ++ bv [b] = bv (l.take (i + 1)) := by rw [List.take_add_one, hb]; simp [bv]
      rw [e5] at o5
      refine ⟨⟨i + 1, by omega, by omega, rfl, o5, (SW.ext e4).fresh u5 (fun k hk => .inr ?_) (fun x hx hk => ?_), ?_⟩, by omega⟩
      · have := hr.blk_ge hk; have := S2.upd.size; omega
      · have h1 := hr.blk_ge hk
        have h2 := S2.lt x hx
        omega
      · have := e4.size; have := u5.size; omega
    · simp only [decide_eq_false_iff_not] at hc
      exact ⟨i, by omega, hr.mono S2.upd.size, SW⟩
  rintro ⟨d, _⟩ w3 ⟨m, hm, hd, S3⟩
  dsimp only at hd ⊢
  obtain ⟨e, he⟩ := enc_of enc
  rw [he]
  have hml : (l.take m).length ≤ 50000 := by rw [List.length_take]; omega
  refine decode_call (e := e) hd.in (by omega) fun a w4 o4 e4 => ?_
  refine open_call (e := e) (lim := 65536) (hd.in.ext e4) (by omega) (by decide) fun p O M w5 tx hM hB e5 hO => ?_
  have S5 := (S3.ext e4).ext e5
  have o5 := o4.ext e5
  rw [← hM] at o5
  refine join_r (fun x W => x = (false, ()) ∧ w5 = W) (sif_r (fun h => by simp at h) (fun _ => ⟨rfl, rfl⟩)) ?_
  rintro _ _ ⟨rfl, rfl⟩
  refine sif_false (lined_call tx o5.in fun w6 e6 => ?_)
  have S6 := S5.ext e6
  have h3 := S3.upd.size
  have h4 := e4.size
  refine S6.aggSt 0 rfl rfl rfl rfl fun w7 S7 u7 => S7.lds 0 (some (at0 p), a, ()) rfl (hK p e O M a w7 ⟨?_, ?_, fun k hk => ?_⟩ S7.upd (fun hlen => ?_) he)
  · refine (tx.ext e6).upd u7 (fun k hk hS => ?_) (NoTy.box (S6.at_ 0 rfl) (by decide))
    have := hO k hk
    have hb2 := S5.lt _ List.mem_cons_self
    have hb2' := S3.lt _ List.mem_cons_self
    simp only at hb2'
    omega
  · exact ((o5.ext e6).mono h3).box (S6.at_ 0 rfl) (by decide) u7
  · have := hO k hk; omega
  · rw [hM, List.take_of_length_le (by omega)]
end
end Go.Proofs.YtabcpghhfeplaaaGreat
set_option linter.unusedSimpArgs false
set_option linter.unusedVariables false
set_option maxRecDepth 100000
namespace Go.Proofs.YtabcpghhfeplaaaGreat
open Trx Gly Clu Lns Obx
namespace Obx
theorem pick_some {C : List Cel} {m n : Option Nat} {c d : Cel} (h : pick C m n = some (c, d)) : ∃ i j, m = some i ∧ n = some j ∧ C[i]? = some c ∧ C[j]? = some d := by
  cases m with
  | none => simp [pick] at h
  | some i =>
    cases n with
    | none => simp [pick] at h
    | some j =>
      unfold pick at h
      cases h1 : C[i]? with
      | none => simp [h1] at h
      | some x =>
        cases h2 : C[j]? with
        | none => simp [h1, h2] at h
        | some y =>
          simp only [h1, h2, Option.some.injEq, Prod.mk.injEq] at h
          obtain ⟨rfl, rfl⟩ := h
          exact ⟨i, j, rfl, rfl, h1, h2⟩
end Obx
end Go.Proofs.YtabcpghhfeplaaaGreat
set_option linter.unusedSimpArgs false
set_option linter.unusedVariables false
set_option maxRecDepth 100000
namespace Go.Proofs.YtabcpghhfeplaaaGreat
open Go Go.Vx Cdc Trx Gly Clu Lns Obx
section
variable {w w' : World} {S : Nat → Prop} {p : Nat} {e : Enc} {lim na : Nat} {O : Nat → Prop} {M : Parts}
abbrev exB : Bs := [40, 34, 120, 34, 41]
abbrev exA : List Int := [40, 34, 120, 34, 41]
theorem ats_ex : atoms (ats .u8 exB) = exA := by
  have one : ∀ (b : UInt8) (r : Bs), b.toNat < 128 → ats .u8 (b :: r) = ((b.toNat : Int), 1) :: ats .u8 r := by
    intro b r hb
    have h1 : nx .u8 (b :: r) = ((b.toNat : Int), 1) := by
      have hbn : bnds b.toNat = (1, 0, 0) := by unfold bnds; rw [if_pos hb]
      have hr : rowOf (b :: r) = (1, 1) := by simp only [rowOf, hbn]; rw [if_pos (by decide)]
      show nx8 (b :: r) = _
      simp only [nx8, hr]
      rw [if_neg (by decide)]
      rfl
    rw [ats_cons .u8 (by simp), h1]; rfl
  rw [one _ _ (by decide), one _ _ (by decide), one _ _ (by decide), one _ _ (by decide), one _ _ (by decide), ats_nil]
  rfl
theorem litBytes {b n : Nat} {l : Bs} {c : Array Value} {K : Sl → World → Prop} (hb : w.heap[b]? = some (.cells c 5 (0, 0))) (hc : c.toList = bv l) (hn : n = l.length) (hw : ∀ w', SlX w' ⟨some (at0 b), n, n⟩ 1 (bv l) → Upd (fun k => k = b) w w' → K ⟨some (at0 b), n, n⟩ w') :
    rawT Tryz.prog (.one (.one .sl)) (convert 22 22 (.slice (some (at0 b)) n n)) K w := by
  subst hn
  refine lit_r i22_ok.und i5_ok.und hb fun w' fr hb' u => hw w' ?_ u
  have hs : c.size = l.length * 1 := by rw [← Array.length_toList, hc, List.length_map]; omega
  have := SlIn.of_box hb' (n := l.length) (sz := 1) hs
  rw [hc] at this
  exact this.x
end
end Go.Proofs.YtabcpghhfeplaaaGreat
set_option linter.unusedSimpArgs false
set_option linter.unusedVariables false
set_option maxRecDepth 100000
namespace Go.Proofs.YtabcpghhfeplaaaGreat
open Go Go.Vx Gly Clu
namespace Clu
noncomputable def snapN (A : List Int) : Nat → Nat
  | 0 => 0
  | n + 1 => if bk A (n + 1) then n + 1 else snapN A n
theorem snapN_le (A : List Int) : ∀ n, snapN A n ≤ n
  | 0 => Nat.le_refl _
  | n + 1 => by rw [snapN]; have := snapN_le A n; split <;> omega
theorem snapN_bk (A : List Int) : ∀ n, bk A (snapN A n) = true
  | 0 => bk_zero A
  | n + 1 => by
    rw [snapN]
    split
    · rename_i h; exact h
    · exact snapN_bk A n
theorem snapN_no (A : List Int) : ∀ n k, snapN A n < k → k ≤ n → bk A k = false
  | 0, k, h1, h2 => by omega
  | n + 1, k, h1, h2 => by
    rw [snapN] at h1
    split at h1
    · omega
    · rename_i h
      by_cases hk : k = n + 1
      · rw [hk]; simpa using h
      · exact snapN_no A n k h1 (by omega)
theorem snapN_eq {A : List Int} {n k : Nat} (h1 : k ≤ n) (hb : bk A k = true) (hn : ∀ q, k < q → q ≤ n → bk A q = false) : snapN A n = k := by
  rcases Nat.lt_trichotomy (snapN A n) k with h | h | h
  · rw [snapN_no A n k h h1] at hb; cases hb
  · exact h
  · have := hn _ h (snapN_le A n)
    rw [snapN_bk] at this; cases this
theorem snapN_self {A : List Int} {n : Nat} : snapN A n = n ↔ bk A n = true :=
  ⟨fun h => by have := snapN_bk A n; rwa [h] at this, fun h => snapN_eq (Nat.le_refl _) h fun q h1 h2 => by omega⟩
end Clu
section
variable {w w' : World}
theorem safe_call {A : List Int} {s : Sl} {t : TypeId} {n : Nat} (hs : SlIn w s t 1 (iv A)) (hl : A.length < 2 ^ 40) (hn : n < 2 ^ 60) {K : Int → World → Prop} (hK : ∀ (k : Nat) w', bk A k = true → (k = 0 ∨ k < min n A.length) → Ext w w' → K (k : Int) w') :
    callT Tryz.prog 98 #[.slice s.a s.len s.cap, .int .i64 (n : Int)] (.one (.one (.int .i64))) K w := by
  refine F98_calls ?_
  unfold F98
  have hlen : A.length = s.len := by have := hs.len1; rwa [List.length_map] at this
  have em : (if ((s.len : Nat) : Int) < (n : Int) then ((s.len : Nat) : Int) else (n : Int)) = ((min n A.length : Nat) : Int) := by split <;> omega
  rw [em, wrap64 (by omega) (by omega)]
  refine join_r (fun _ W => Ext w W) ?_ (fun _ W h => hK 0 W (bk_zero A) (.inl rfl) h)
  refine sloop_r (fun x W => ∃ k : Int, x = (k, ()) ∧ -1 ≤ k ∧ k < ((min n A.length : Nat) : Int) ∧ Ext w W) (fun x _ => (x.1 + 1).toNat) ⟨_, rfl, by omega, by omega, Ext.refl w⟩ ?_
  rintro _ W ⟨k, rfl, h1, h2, eW⟩
  refine sif_r (fun hc => ?_) (fun _ => eW)
  simp only [decide_eq_true_eq, gt_iff_lt] at hc
  obtain ⟨m, rfl⟩ : ∃ m : Nat, k = ((m + 1 : Nat) : Int) := ⟨(k - 1).toNat, by omega⟩
  have ew : IntKind.wrap .i64 (((m + 1 : Nat) : Int) - 1) = (m : Int) := by rw [wrap64 (by omega) (by omega)]; omega
  dsimp only
  rw [ew]
  have ha : A[m]? = some A[m] := List.getElem?_eq_getElem (by omega)
  have hb : A[m + 1]? = some A[m + 1] := List.getElem?_eq_getElem (by omega)
  refine drew_r fun w2 e2 _ => ?_
  have s2 := hs.ext (eW.trans e2)
  refine ix_ld (c := .int .i64) (xs := A) s2 (by omega) (x := A[m]) (by rw [Int.toNat_natCast]; exact ha) fun p1 => ix_ldE (c := .int .i64) (xs := A) s2 (by omega) (x := A[m + 1]) (by rw [Int.toNat_natCast]; exact hb) fun p2 k2 => ?_
  refine class_call fun w3 e3 => keep_r (k2 w3 e3) (class_call fun w4 e4 => ?_)
  have e14 := ((eW.trans e2).trans e3).trans e4
  refine join_r (fun x W' => x = (parted (cls A[m]) (cls A[m + 1]), ()) ∧ w4 = W') ?_ ?_
  · have both : ∀ {J : Bool × Unit → World → Prop}, (apart (cls A[m]) || apart (cls A[m + 1])) = true → J (parted (cls A[m]) (cls A[m + 1]), ()) w4 → sif ((((cls A[m] : Nat) : Int)) == 1) (J ((!((((cls A[m + 1] : Nat) : Int)) == 2)), ())) (J (true, ())) w4 := by
      intro J hp hj
      unfold parted at hj
      rw [hp, Bool.true_and] at hj
      have c1 : ((((cls A[m] : Nat) : Int)) == 1) = (cls A[m] == 1) := by rw [Bool.eq_iff_iff, beq_iff_eq, beq_iff_eq]; omega
      have c2 : ((((cls A[m + 1] : Nat) : Int)) == 2) = (cls A[m + 1] == 2) := by rw [Bool.eq_iff_iff, beq_iff_eq, beq_iff_eq]; omega
      rw [c1, c2]
      refine sif_r (fun h => ?_) (fun h => ?_)
      · rw [h, Bool.true_and] at hj; exact hj
      · rw [h, Bool.false_and] at hj; exact hj
    refine apart_call (sif_r (fun h => ?_) (fun h => apart_call (sif_r (fun h2 => ?_) (fun h2 => ⟨?_, rfl⟩))))
    · exact both (J := fun x W' => x = (parted (cls A[m]) (cls A[m + 1]), ()) ∧ w4 = W') (by rw [h]; rfl) ⟨rfl, rfl⟩
    · exact both (J := fun x W' => x = (parted (cls A[m]) (cls A[m + 1]), ()) ∧ w4 = W') (by rw [h2, Bool.or_true]) ⟨rfl, rfl⟩
    · unfold parted
      rw [h, h2]; rfl
  rintro _ _ ⟨rfl, rfl⟩
  refine sif_r (fun hp => ?_) (fun hp => ?_)
  · exact hK (m + 1) w4 (bk_parted ha hb hp) (.inr (by omega)) e14
  · exact ⟨⟨(m : Int), rfl, by omega, by omega, e14⟩, by omega⟩
theorem snap_call {A : List Int} {s : Sl} {t : TypeId} {at_ : Int} (hs : SlIn w s t 1 (iv A)) (hl : A.length < 2 ^ 40) {K : Int → World → Prop} (hK : ∀ w', Ext w w' → K ((snapN A (min at_.toNat A.length) : Nat) : Int) w') :
    callT Tryz.prog 72 #[.slice s.a s.len s.cap, .int .i64 at_] (.one (.one (.int .i64))) K w := by
  refine F72_calls ?_
  unfold F72
  have hlen : A.length = s.len := by have := hs.len1; rwa [List.length_map] at this
  refine (St.start w).newO fun b1 w1 S1 e1 => ?_
  have S1 : St (fun _ => False) w w1 [(b1, .cells #[.int .i64 at_] 3 (0, 0))] := S1
  refine join_r (fun x W => x = (decide (at_ ≤ 0 ∨ (A.length : Int) ≤ at_), ()) ∧ w1 = W) ?_ ?_
  · refine S1.ld 0 rfl (x := at_) rfl (sif_r (fun h => ⟨tupb ?_, rfl⟩) (fun h => S1.ld 0 rfl (x := at_) rfl ⟨tupb ?_, rfl⟩))
    all_goals simp only [decide_eq_true_eq, decide_eq_false_iff_not, true_iff, ge_iff_le] at *
    all_goals omega
  rintro _ _ ⟨rfl, rfl⟩
  refine sif_r (fun h => ?_) (fun h => ?_)
  · simp only [decide_eq_true_eq] at h
    refine S1.ld 0 rfl (x := at_) rfl ?_
    have := hK w1 e1
    have e : (if ((s.len : Nat) : Int) < (if (0 : Int) > at_ then (0 : Int) else at_) then ((s.len : Nat) : Int) else (if (0 : Int) > at_ then (0 : Int) else at_)) = ((snapN A (min at_.toNat A.length) : Nat) : Int) := by
      by_cases h0 : at_ ≤ 0
      · have e0 : min at_.toNat A.length = 0 := by omega
        have e1 : snapN A 0 = 0 := rfl
        rw [e0, e1]
        by_cases h1 : (0 : Int) > at_
        · rw [if_pos h1, if_neg (by omega)]; rfl
        · rw [if_neg h1, if_neg (by omega)]; omega
      · have e0 : min at_.toNat A.length = A.length := by omega
        rw [e0, snapN_self.2 (bk_len A), if_neg (show ¬ (0 : Int) > at_ by omega)]
        split <;> omega
    rw [e]; exact this
  simp only [decide_eq_false_iff_not] at h
  obtain ⟨n, rfl⟩ : ∃ n : Nat, at_ = (n : Int) := ⟨at_.toNat, by omega⟩
  rw [Int.toNat_natCast, Nat.min_eq_left (by omega)] at hK
  refine S1.ld 0 rfl (x := (n : Int)) rfl (safe_call (hs.ext e1) hl (by omega) fun k0 w2 hb0 hk0 e2 => ?_)
  have S2 := S1.ext e2
  refine S2.newO' fun b9 w3 S3 e3 hb9 => S3.stC 0 rfl Nat.one_pos fun w4 S4 u4 => ?_
  have S4 : St (fun _ => False) w w4 [(b9, .cells #[.int .i64 (k0 : Int)] 3 (0, 0)), (b1, .cells #[.int .i64 (n : Int)] 3 (0, 0))] := S4
  refine S4.ld 0 rfl (x := (k0 : Int)) rfl ?_
  have hb9' := S4.ge 0 rfl
  have sb : ∀ k, s.blk k → k < w.heap.size := fun k hk => hs.blk_lt hk
  have s4 : SlIn w4 s t 1 (iv A) := hs.ext S4.upd
  refine cwalk_call (A := A) (s := s) (t := t) hb0 (by omega) (fun i W => i ≤ n ∧ St (fun _ => False) w W [(b9, .cells #[.int .i64 (i : Int)] 3 (0, 0)), (b1, .cells #[.int .i64 (n : Int)] 3 (0, 0))] ∧ bk A i = true)
    (fun W => St (fun _ => False) w W [(b9, .cells #[.int .i64 ((snapN A n : Nat) : Int)] 3 (0, 0)), (b1, .cells #[.int .i64 (n : Int)] 3 (0, 0))]) ?_ ?_ ?_ ⟨by omega, S4, hb0⟩ ?_
  · rintro k W ⟨_, SW, _⟩
    exact hs.ext SW.upd
  · rintro k W W' ⟨h1, SW, h3⟩ x
    exact ⟨h1, SW.ext x, h3⟩
  · rintro i j W K' ⟨hi, SW, hbi⟩ hij hbj hno hK'
    refine func_x (caps := #[.pointer (some (at0 b1)), .pointer (some (at0 b9))]) (by kernel_rfl) ?_
    refine F99_calls ?_
    unfold F99
    refine join_r (fun _ W' => St (fun _ => False) w W' [(b9, .cells #[.int .i64 ((if j ≤ n then j else i : Nat) : Int)] 3 (0, 0)), (b1, .cells #[.int .i64 (n : Int)] 3 (0, 0))]) ?_ ?_
    · refine SW.ld 1 rfl (x := (n : Int)) rfl (sif_r (fun hc => ?_) (fun hc => ?_))
      · simp only [decide_eq_true_eq] at hc
        rw [if_pos (by omega)]
        exact SW.stC 0 rfl Nat.one_pos fun W' SW' _ => SW'
      · simp only [decide_eq_false_iff_not] at hc
        rw [if_neg (by omega)]
        exact SW
    rintro _ W' SW'
    refine SW'.ld 1 rfl (x := (n : Int)) rfl (hK' _ W' (fun hc => ?_) (fun hc => ?_))
    · simp only [decide_eq_true_eq] at hc
      rw [if_pos (by omega)] at SW'
      exact ⟨by omega, SW', hbj⟩
    · simp only [decide_eq_false_iff_not] at hc
      by_cases hjn : j ≤ n
      · rw [if_pos hjn] at SW'
        have : snapN A n = j := snapN_eq hjn hbj fun q h1 h2 => by omega
        rw [this]; exact SW'
      · rw [if_neg hjn] at SW'
        have : snapN A n = i := snapN_eq hi hbi fun q h1 h2 => hno q h1 (by omega)
        rw [this]; exact SW'
  · rintro W (⟨h1, _⟩ | SW)
    · omega
    · exact SW.ld 0 rfl (x := ((snapN A n : Nat) : Int)) rfl (hK W SW.upd)
theorem isbreak_call {A : List Int} {s : Sl} {t : TypeId} {at_ : Int} (hs : SlIn w s t 1 (iv A)) (hl : A.length < 2 ^ 40) {K : Bool → World → Prop} (hK : ∀ w', Ext w w' → K (decide (0 ≤ at_ ∧ at_ ≤ (A.length : Int)) && bk A at_.toNat) w') :
    callT Tryz.prog 45 #[.slice s.a s.len s.cap, .int .i64 at_] (.one (.one .bool)) K w := by
  refine F45_calls ?_
  unfold F45
  have hlen : A.length = s.len := by have := hs.len1; rwa [List.length_map] at this
  refine sif_r (fun h1 => sif_r (fun h2 => ?_) (fun h2 => ?_)) (fun h1 => ?_)
  · simp only [decide_eq_true_eq, ge_iff_le] at h1 h2
    refine snap_call hs hl fun w1 e1 => ?_
    have := hK w1 e1
    rw [decide_eq_true ⟨h1, by omega⟩, Bool.true_and] at this
    obtain ⟨n, rfl⟩ : ∃ n : Nat, at_ = (n : Int) := ⟨at_.toNat, by omega⟩
    rw [Int.toNat_natCast] at this ⊢
    have e0 : min n A.length = n := by omega
    rw [e0]
    have e : ((((snapN A n : Nat) : Int)) == (n : Int)) = bk A n := by
      rw [Bool.eq_iff_iff, beq_iff_eq, ← snapN_self]; omega
    rw [e]; exact this
  · simp only [decide_eq_false_iff_not] at h2
    have := hK w (Ext.refl w)
    rw [decide_eq_false (by omega), Bool.false_and] at this
    exact this
  · simp only [decide_eq_false_iff_not, ge_iff_le] at h1
    have := hK w (Ext.refl w)
    rw [decide_eq_false (by omega), Bool.false_and] at this
    exact this
end
end Go.Proofs.YtabcpghhfeplaaaGreat
set_option linter.unusedSimpArgs false
set_option linter.unusedVariables false
set_option maxRecDepth 100000
namespace Go.Proofs.YtabcpghhfeplaaaGreat
open Trx Gly Clu Lns Obx
namespace Obx
def endP (L : List Nat) (i : Nat) : Nat := i + 1 + ((L.drop (i + 1)).takeWhile fun s => s == L.getD i 0).length
def beginP (L : List Nat) : Nat → Nat
  | 0 => 0
  | i + 1 => if L.getD i 0 = L.getD (i + 1) 0 then beginP L i else i + 1
def innerGo (L : List Nat) : Nat → Nat → Option Nat
  | _, 0 => none
  | j, 1 => if j < L.length then some (endP L j) else none
  | j, k + 2 => if j < L.length then innerGo L (endP L j) (k + 1) else none
def innerP (L : List Nat) (i k : Nat) : Option (Nat × Nat) := (innerGo L i k).map fun j => (beginP L i, j)
def overP (L : List Nat) (j : Nat) : Nat := if j < L.length ∧ L.getD j 0 = 0 then endP L j else j
def aroundGo (L : List Nat) : Nat → Nat → Option Nat
  | _, 0 => none
  | j, 1 => if overP L j < L.length then some (endP L (overP L j)) else none
  | j, k + 2 => if overP L j < L.length then aroundGo L (endP L (overP L j)) (k + 1) else none
def aroundP (L : List Nat) (i k : Nat) : Option (Nat × Nat) := (aroundGo L i k).map fun j =>
  if L.getD i 0 = 0 then (beginP L i, j) else if j < L.length ∧ L.getD j 0 = 0 then (beginP L i, endP L j)
  else if 0 < beginP L i ∧ L.getD (beginP L i - 1) 0 = 0 then (beginP L (beginP L i - 1), j) else (beginP L i, j)
theorem endP_gt (L : List Nat) (i : Nat) : i < endP L i := by unfold endP; omega
theorem endP_le {L : List Nat} {i : Nat} (h : i < L.length) : endP L i ≤ L.length := by
  unfold endP
  have := (List.takeWhile_sublist (fun s => s == L.getD i 0) (l := L.drop (i + 1))).length_le
  rw [List.length_drop] at this
  omega
theorem tw_mem {α : Type} {p : α → Bool} : ∀ {l : List α} {x : α}, x ∈ l.takeWhile p → p x = true
  | [], _, h => by simp at h
  | y :: r, x, h => by
    rw [List.takeWhile_cons] at h
    split at h
    · rename_i hy
      rcases List.mem_cons.1 h with rfl | h
      · exact hy
      · exact tw_mem h
    · cases h
theorem endP_same {L : List Nat} {i j : Nat} (h1 : i < j) (h2 : j < endP L i) (hj : j < L.length) : L.getD j 0 = L.getD i 0 := by
  unfold endP at h2
  have hlt : j - (i + 1) < ((L.drop (i + 1)).takeWhile fun s => s == L.getD i 0).length := by omega
  have hm := List.getElem_mem hlt
  have ht := tw_mem hm
  have hp : ((L.drop (i + 1)).takeWhile fun s => s == L.getD i 0) <+: L.drop (i + 1) := List.takeWhile_prefix _
  have he := hp.getElem hlt
  rw [he, List.getElem_drop] at ht
  have : i + 1 + (j - (i + 1)) = j := by omega
  simp only [this, beq_iff_eq] at ht
  rw [List.getD_eq_getElem?_getD, List.getElem?_eq_getElem hj]
  exact ht
theorem endP_stop {L : List Nat} {i : Nat} (h : endP L i < L.length) : L.getD (endP L i) 0 ≠ L.getD i 0 := by
  unfold endP at h ⊢
  generalize hn : ((L.drop (i + 1)).takeWhile fun s => s == L.getD i 0).length = n at *
  have hlt : n < (L.drop (i + 1)).length := by rw [List.length_drop]; omega
  have key : ∀ (p : Nat → Bool) (l : List Nat) (h : (l.takeWhile p).length < l.length), p l[(l.takeWhile p).length] = false := by
    intro p l
    induction l with
    | nil => intro h; simp at h
    | cons x r ih =>
      intro h
      cases hx : p x with
      | false => simp [List.takeWhile_cons, hx]
      | true =>
        simp only [List.takeWhile_cons, hx, if_true, List.length_cons] at h ⊢
        simpa using ih (by omega)
  have := key (fun s => s == L.getD i 0) (L.drop (i + 1)) (by rw [hn]; exact hlt)
  simp only [hn, List.getElem_drop, beq_eq_false_iff_ne] at this
  rw [List.getD_eq_getElem?_getD, List.getElem?_eq_getElem (by omega)]
  exact this
theorem endP_eq {L : List Nat} {i e : Nat} (h1 : i < e) (h2 : e ≤ L.length) (hs : ∀ j, i < j → j < e → L.getD j 0 = L.getD i 0) (ht : e < L.length → L.getD e 0 ≠ L.getD i 0) : endP L i = e := by
  have hle := endP_le (L := L) (i := i) (by omega)
  have hgt := endP_gt L i
  rcases Nat.lt_trichotomy (endP L i) e with h | h | h
  · exact absurd (hs _ hgt h) (endP_stop (by omega))
  · exact h
  · exact absurd (endP_same h1 h (by omega)) (ht (by omega))
theorem beginP_le (L : List Nat) : ∀ i, beginP L i ≤ i
  | 0 => Nat.le_refl _
  | i + 1 => by rw [beginP]; have := beginP_le L i; split <;> omega
theorem beginP_same (L : List Nat) : ∀ i j, beginP L i ≤ j → j ≤ i → L.getD j 0 = L.getD i 0
  | 0, j, _, h => by have : j = 0 := by omega
                     rw [this]
  | i + 1, j, h1, h2 => by
    rw [beginP] at h1
    split at h1
    · rename_i he
      by_cases hj : j = i + 1
      · rw [hj]
      · rw [beginP_same L i j h1 (by omega), he]
    · have : j = i + 1 := by omega
      rw [this]
theorem beginP_stop (L : List Nat) : ∀ i, 0 < beginP L i → L.getD (beginP L i - 1) 0 ≠ L.getD (beginP L i) 0
  | 0, h => absurd h (Nat.lt_irrefl _)
  | i + 1, h => by
    rw [beginP] at h ⊢
    split
    · rename_i he; rw [if_pos he] at h; exact beginP_stop L i h
    · rename_i he; rw [Nat.add_sub_cancel]; exact he
theorem innerGo_le {L : List Nat} : ∀ {k j t : Nat}, innerGo L j k = some t → j < t ∧ t ≤ L.length
  | 0, _, _, h => by simp [innerGo] at h
  | 1, j, t, h => by
    rw [innerGo] at h
    split at h
    · cases h; exact ⟨endP_gt L j, endP_le ‹_›⟩
    · cases h
  | k + 2, j, t, h => by
    rw [innerGo] at h
    split at h
    · have := innerGo_le h; have := endP_gt L j; omega
    · cases h
theorem overP_ge (L : List Nat) (j : Nat) : j ≤ overP L j := by unfold overP; split; exact Nat.le_of_lt (endP_gt L j); omega
theorem aroundGo_le {L : List Nat} : ∀ {k j t : Nat}, aroundGo L j k = some t → j < t ∧ t ≤ L.length
  | 0, _, _, h => by simp [aroundGo] at h
  | 1, j, t, h => by
    rw [aroundGo] at h
    split at h
    · cases h; have := overP_ge L j; have := endP_gt L (overP L j); exact ⟨by omega, endP_le ‹_›⟩
    · cases h
  | k + 2, j, t, h => by
    rw [aroundGo] at h
    split at h
    · have := aroundGo_le h; have := overP_ge L j; have := endP_gt L (overP L j); omega
    · cases h
theorem innerP_le {L : List Nat} {i k f t : Nat} (h : innerP L i k = some (f, t)) : f ≤ i ∧ i < t ∧ t ≤ L.length := by
  unfold innerP at h
  obtain ⟨j, hj, he⟩ := Option.map_eq_some_iff.1 h
  cases he
  have := innerGo_le hj; have := beginP_le L i; omega
theorem aroundP_le {L : List Nat} {i k f t : Nat} (h : aroundP L i k = some (f, t)) : f ≤ i ∧ i < t ∧ t ≤ L.length := by
  unfold aroundP at h
  obtain ⟨j, hj, he⟩ := Option.map_eq_some_iff.1 h
  have := aroundGo_le hj; have := beginP_le L i
  split at he
  · cases he; omega
  · split at he
    · cases he
      rename_i h2
      have := endP_gt L j; have := endP_le h2.1; omega
    · split at he
      · cases he
        have := beginP_le L (beginP L i - 1); omega
      · cases he; omega
noncomputable def lineP (A : List Int) (at_ : Int) : Ln := (lnAt A (nb A at_.toNat)).getD ⟨0, 0, 0, 0⟩
noncomputable def lineC (A : List Int) (l : Ln) : List Cel := cels ((A.drop l.from_).take (l.to_ - l.from_)) l.from_
noncomputable def hereI (C : List Cel) (at_ : Int) : Nat := if firstI C at_ < C.length then firstI C at_ else C.length - 1
noncomputable def sortsW (C : List Cel) (big : Bool) : List Nat := C.map fun c => if big ∧ c.kind ≠ 0 then 2 else c.kind
noncomputable def pickP (out : Bool) (L : List Nat) (i k : Nat) : Option (Nat × Nat) := if out then aroundP L i k else innerP L i k
noncomputable def wordsP (A : List Int) (at_ kind count : Int) : (Int × Int × Int) × Int :=
  if checked A.length at_ kind count 61 64 ≠ 0 then ((0, 0, 0), checked A.length at_ kind count 61 64) else
  let C := lineC A (lineP A at_)
  if C.length = 0 then ((0, 0, 0), 90) else
  match pickP (decide (kind = 62 ∨ kind = 64)) (sortsW C (decide (kind = 63 ∨ kind = 64))) (hereI C at_) (times count) with
  | none => ((0, 0, 0), 90)
  | some (f, t) => ((((C[f]?.map (·.from_)).getD 0 : Nat), ((C[t - 1]?.map (·.to_)).getD 0 : Nat), 0), 0)
def pairL (q : Int) (i : Nat) : List Cel → Nat → Option Nat → Nat → Option (Nat × Nat)
  | [], _, _, _ => none
  | c :: r, j, o, s => let s' := if c.is 92 then s + 1 else 0
    if (c.is q && s % 2 == 0) = false then pairL q i r (j + 1) o s' else
    match o with
    | none => pairL q i r (j + 1) (some j) s'
    | some k => if i ≤ j then some (k, j) else pairL q i r (j + 1) none s'
def blanksUp (C : List Cel) (j : Nat) : Nat := j + ((C.drop j).takeWhile fun c => c.kind == 0).length
def blanksDown (C : List Cel) : Nat → Nat
  | 0 => 0
  | j + 1 => if (C[j]?.map (·.kind)) = some 0 then blanksDown C j else j + 1
noncomputable def quotesP (A : List Int) (at_ kind count arg : Int) : (Int × Int × Int) × Int :=
  if checked A.length at_ kind count 65 66 = 1 ∨ (arg ≠ 34 ∧ arg ≠ 39 ∧ arg ≠ 96) then ((0, 0, 0), 1) else
  if checked A.length at_ kind count 65 66 ≠ 0 then ((0, 0, 0), checked A.length at_ kind count 65 66) else
  let C := lineC A (lineP A at_)
  match pairL arg (hereI C at_) C 0 none 0 with
  | none => ((0, 0, 0), 90)
  | some (one, two) =>
    if kind = 65 ∧ count < 2 then ((((C[one]?.map (·.to_)).getD 0 : Nat), ((C[two]?.map (·.from_)).getD 0 : Nat), 0), 0) else
    let t := if kind = 66 then blanksUp C (two + 1) else two + 1
    let f := if kind = 66 ∧ t = two + 1 then blanksDown C one else one
    ((((C[f]?.map (·.from_)).getD 0 : Nat), ((C[t - 1]?.map (·.to_)).getD 0 : Nat), 0), 0)
def lnAll (A : List Int) : List Ln := (List.range (lnN A)).map fun i => (lnAt A i).getD ⟨0, 0, 0, 0⟩
noncomputable def sortLn (A : List Int) (l : Ln) : Nat := if (cels ((A.drop l.from_).take (l.to_ - l.from_)) 0).any (fun c => c.kind != 0) then 1 else 0
noncomputable def sortsP (A : List Int) : List Nat := (lnAll A).map (sortLn A)
noncomputable def parasP (A : List Int) (at_ kind count : Int) : (Int × Int × Int) × Int :=
  if checked A.length at_ kind count 69 70 ≠ 0 then ((0, 0, 0), checked A.length at_ kind count 69 70) else
  if lnN A ≤ nb A at_.toNat then ((0, 0, 0), 90) else
  match pickP (decide (kind = 70)) (sortsP A) (nb A at_.toNat) (times count) with
  | none => ((0, 0, 0), 90)
  | some (f, t) => (((((lnAll A)[f]?.map (·.from_)).getD 0 : Nat), (((lnAll A)[t - 1]?.map (·.next)).getD 0 : Nat), 1), 0)
noncomputable def takeP (A : List Int) (at_ kind count arg : Int) : (Int × Int × Int) × Int :=
  if kind ≤ 64 then wordsP A at_ kind count else if kind ≤ 66 then quotesP A at_ kind count arg else if kind ≤ 68 then blocksP A at_ kind count arg else parasP A at_ kind count
end Obx
end Go.Proofs.YtabcpghhfeplaaaGreat
set_option linter.unusedSimpArgs false
set_option linter.unusedVariables false
set_option maxRecDepth 100000
namespace Go.Proofs.YtabcpghhfeplaaaGreat
open Trx Gly Clu Lns Obx
namespace Obx
structure Good (A : List Int) (s : Int × Int × Int) : Prop where
  lo : 0 ≤ s.1
  le : s.1 ≤ s.2.1
  hi : s.2.1 ≤ A.length
  b1 : bk A s.1.toNat = true
  b2 : bk A s.2.1.toNat = true
theorem good_zero (A : List Int) : Good A (0, 0, 0) := ⟨by decide, by decide, Int.natCast_nonneg _, bk_zero A, bk_zero A⟩
theorem good_nat {A : List Int} {i j : Nat} {k : Int} (h : i ≤ j) (hj : j ≤ A.length) (b1 : bk A i = true) (b2 : bk A j = true) : Good A ((i : Int), (j : Int), k) :=
  ⟨Int.natCast_nonneg _, by show (i : Int) ≤ (j : Int); omega, by show (j : Int) ≤ (A.length : Int); omega, b1, b2⟩
structure LcOk (A : List Int) (l : Ln) (c : Cel) : Prop where
  lo : l.from_ ≤ c.from_
  lt : c.from_ < c.to_
  hi : c.to_ ≤ l.to_
  b1 : bk A c.from_ = true
  b2 : bk A c.to_ = true
theorem lineC_ok {A : List Int} {i : Nat} {l : Ln} (h : lnAt A i = some l) {m : Nat} {c : Cel} (hc : (lineC A l)[m]? = some c) : LcOk A l c := by
  have ok := ln_ok h
  have ft := ok.ft; have tn := ok.tn; have nl := ok.nl
  have bf := bk_from h
  have bt := bk_to h
  obtain ⟨x, y, _, _, h1, h2, h3, h4, g1, g2, _⟩ := (cels_ok hc).ex
  rw [List.length_take, List.length_drop] at h2
  have hb : bk (A.drop l.from_) (l.to_ - l.from_) = true := by
    rw [bk_drop bf _ (by omega), show l.from_ + (l.to_ - l.from_) = l.to_ by omega]; exact bt
  have key : ∀ k, k ≤ l.to_ - l.from_ → bk ((A.drop l.from_).take (l.to_ - l.from_)) k = bk A (l.from_ + k) := fun k hk => by
    rw [bk_take hb hk, bk_drop bf _ (by omega)]
  rw [key x (by omega)] at g1
  rw [key y (by omega)] at g2
  exact ⟨by omega, by omega, by omega, by rw [h3]; exact g1, by rw [h4]; exact g2⟩
theorem cels_mono {A : List Int} {off m n : Nat} {c d : Cel} (h : (cels A off)[m]? = some c) (h' : (cels A off)[n]? = some d) (hmn : m ≤ n) : c.from_ ≤ d.from_ ∧ c.to_ ≤ d.to_ := by
  rcases Nat.lt_or_ge m n with hlt | hge
  · have := cels_lt hlt h h'; omega
  · have : m = n := by omega
    subst this
    rw [h] at h'; cases h'
    exact ⟨Nat.le_refl _, Nat.le_refl _⟩
theorem lineP_at {A : List Int} {at_ : Int} (h0 : 0 ≤ at_) (h1 : at_ ≤ A.length) : lnAt A (nb A at_.toNat) = some (lineP A at_) := by
  obtain ⟨l, hl, _⟩ := ln_of A (show at_.toNat ≤ A.length by omega)
  unfold lineP
  rw [hl]; rfl
theorem checked_zero {n : Nat} {at_ kind count lo hi : Int} (h : checked n at_ kind count lo hi = 0) : lo ≤ kind ∧ kind ≤ hi ∧ 0 ≤ count ∧ 0 ≤ at_ ∧ at_ ≤ n := by
  unfold checked at h
  split at h
  · omega
  · split at h <;> omega
theorem sortsW_len (C : List Cel) (big : Bool) : (sortsW C big).length = C.length := List.length_map _
theorem words_cases (A : List Int) (at_ kind count : Int) : ((wordsP A at_ kind count).1 = (0, 0, 0) ∧ (wordsP A at_ kind count).2 ≠ 0) ∨ ∃ f t c d, checked A.length at_ kind count 61 64 = 0 ∧ (lineC A (lineP A at_)).length ≠ 0 ∧
    pickP (decide (kind = 62 ∨ kind = 64)) (sortsW (lineC A (lineP A at_)) (decide (kind = 63 ∨ kind = 64))) (hereI (lineC A (lineP A at_)) at_) (times count) = some (f, t) ∧
    (lineC A (lineP A at_))[f]? = some c ∧ (lineC A (lineP A at_))[t - 1]? = some d ∧ f ≤ hereI (lineC A (lineP A at_)) at_ ∧ hereI (lineC A (lineP A at_)) at_ < t ∧ t ≤ (lineC A (lineP A at_)).length ∧ wordsP A at_ kind count = (((c.from_ : Int), (d.to_ : Int), 0), 0) := by
  unfold wordsP
  by_cases hc : checked A.length at_ kind count 61 64 = 0
  · rw [if_neg (by rw [hc]; decide)]
    dsimp only
    by_cases hz : (lineC A (lineP A at_)).length = 0
    · rw [if_pos hz]; exact .inl ⟨rfl, show (90 : Int) ≠ 0 by decide⟩
    · rw [if_neg hz]
      cases hp : pickP (decide (kind = 62 ∨ kind = 64)) (sortsW (lineC A (lineP A at_)) (decide (kind = 63 ∨ kind = 64))) (hereI (lineC A (lineP A at_)) at_) (times count) with
      | none => exact .inl ⟨rfl, show (90 : Int) ≠ 0 by decide⟩
      | some ft =>
        obtain ⟨f, t⟩ := ft
        have hb : f ≤ hereI (lineC A (lineP A at_)) at_ ∧ hereI (lineC A (lineP A at_)) at_ < t ∧ t ≤ (sortsW (lineC A (lineP A at_)) (decide (kind = 63 ∨ kind = 64))).length := by
          unfold pickP at hp
          split at hp
          · exact aroundP_le hp
          · exact innerP_le hp
        rw [sortsW_len] at hb
        obtain ⟨c, hcc⟩ : ∃ c, (lineC A (lineP A at_))[f]? = some c := ⟨_, List.getElem?_eq_getElem (by omega)⟩
        obtain ⟨d, hd⟩ : ∃ d, (lineC A (lineP A at_))[t - 1]? = some d := ⟨_, List.getElem?_eq_getElem (by omega)⟩
        refine .inr ⟨f, t, c, d, hc, hz, rfl, hcc, hd, hb.1, hb.2.1, hb.2.2, ?_⟩
        dsimp only
        rw [hcc, hd]; rfl
  · rw [if_pos hc]; exact .inl ⟨rfl, hc⟩
theorem words_good (A : List Int) (at_ kind count : Int) : Good A (wordsP A at_ kind count).1 := by
  rcases words_cases A at_ kind count with ⟨h, _⟩ | ⟨f, t, c, d, hc, hz, hp, hcc, hd, h1, h2, h3, he⟩
  · rw [h]; exact good_zero A
  · rw [he]
    obtain ⟨_, _, _, g1, g2⟩ := checked_zero hc
    have hl := lineP_at g1 g2
    have ok := ln_ok hl
    have o1 := lineC_ok hl hcc
    have o2 := lineC_ok hl hd
    have := (cels_mono hcc hd (by omega)).2
    have := ok.tn; have := ok.nl; have := o1.lt; have := o2.hi
    exact good_nat (by omega) (by omega) o1.b1 o2.b2
theorem quotes_cases (A : List Int) (at_ kind count arg : Int) : ((quotesP A at_ kind count arg).1 = (0, 0, 0) ∧ (quotesP A at_ kind count arg).2 ≠ 0) ∨ ∃ one two c d, checked A.length at_ kind count 65 66 = 0 ∧ (arg = 34 ∨ arg = 39 ∨ arg = 96) ∧ pairL arg (hereI (lineC A (lineP A at_)) at_) (lineC A (lineP A at_)) 0 none 0 = some (one, two) ∧ one < two ∧ two < (lineC A (lineP A at_)).length ∧
    (lineC A (lineP A at_))[one]? = some c ∧ (lineC A (lineP A at_))[two]? = some d ∧
    ((kind = 65 ∧ count < 2 ∧ quotesP A at_ kind count arg = (((c.to_ : Int), (d.from_ : Int), 0), 0)) ∨ (¬ (kind = 65 ∧ count < 2) ∧ ∃ f t c' d', f ≤ one ∧ two < t ∧ t ≤ (lineC A (lineP A at_)).length ∧ (lineC A (lineP A at_))[f]? = some c' ∧ (lineC A (lineP A at_))[t - 1]? = some d' ∧
      quotesP A at_ kind count arg = (((c'.from_ : Int), (d'.to_ : Int), 0), 0))) := by
  unfold quotesP
  by_cases h1 : checked A.length at_ kind count 65 66 = 1 ∨ (arg ≠ 34 ∧ arg ≠ 39 ∧ arg ≠ 96)
  · rw [if_pos h1]; exact .inl ⟨rfl, show (1 : Int) ≠ 0 by decide⟩
  rw [if_neg h1]
  by_cases hc : checked A.length at_ kind count 65 66 = 0
  · rw [if_neg (by rw [hc]; decide)]
    dsimp only
    cases hp : pairL arg (hereI (lineC A (lineP A at_)) at_) (lineC A (lineP A at_)) 0 none 0 with
    | none => exact .inl ⟨rfl, show (90 : Int) ≠ 0 by decide⟩
    | some ot =>
      obtain ⟨one, two⟩ := ot
      have hle : one < two ∧ two < (lineC A (lineP A at_)).length := by
        have key : ∀ (C : List Cel) (j : Nat) (o : Option Nat) (s x y : Nat), (∀ k, o = some k → k < j) → pairL arg (hereI (lineC A (lineP A at_)) at_) C j o s = some (x, y) → x < y ∧ y < j + C.length := by
          intro C
          induction C with
          | nil => intro j o s x y _ h; simp [pairL] at h
          | cons c r ih =>
            intro j o s x y ho h
            have e : pairL arg (hereI (lineC A (lineP A at_)) at_) (c :: r) j o s = if (c.is arg && s % 2 == 0) = false then pairL arg (hereI (lineC A (lineP A at_)) at_) r (j + 1) o (if c.is 92 then s + 1 else 0) else
                match o with
                | none => pairL arg (hereI (lineC A (lineP A at_)) at_) r (j + 1) (some j) (if c.is 92 then s + 1 else 0)
                | some k => if hereI (lineC A (lineP A at_)) at_ ≤ j then some (k, j) else pairL arg (hereI (lineC A (lineP A at_)) at_) r (j + 1) none (if c.is 92 then s + 1 else 0) := by cases o <;> rfl
            rw [e] at h
            rw [List.length_cons]
            split at h
            · have := ih (j + 1) o _ x y (fun k hk => by have := ho k hk; omega) h; omega
            · cases o with
              | none => have := ih (j + 1) (some j) _ x y (fun k hk => by cases hk; omega) h; omega
              | some k =>
                simp only at h
                split at h
                · cases h; have := ho _ rfl; omega
                · have := ih (j + 1) none _ x y (fun k hk => by cases hk) h; omega
        have := key _ 0 none 0 one two (fun _ h => by cases h) hp
        omega
      obtain ⟨c, hcc⟩ : ∃ c, (lineC A (lineP A at_))[one]? = some c := ⟨_, List.getElem?_eq_getElem (by omega)⟩
      obtain ⟨d, hd⟩ : ∃ d, (lineC A (lineP A at_))[two]? = some d := ⟨_, List.getElem?_eq_getElem (by omega)⟩
      refine .inr ⟨one, two, c, d, hc, by omega, rfl, hle.1, hle.2, hcc, hd, ?_⟩
      dsimp only
      by_cases hk : kind = 65 ∧ count < 2
      · rw [if_pos hk, hcc, hd]; exact .inl ⟨hk.1, hk.2, rfl⟩
      · rw [if_neg hk]
        generalize lineC A (lineP A at_) = C at *
        obtain ⟨t, ht⟩ : ∃ t, t = if kind = 66 then blanksUp C (two + 1) else two + 1 := ⟨_, rfl⟩
        obtain ⟨f, hf⟩ : ∃ f, f = if kind = 66 ∧ t = two + 1 then blanksDown C one else one := ⟨_, rfl⟩
        rw [← ht, ← hf]
        have hbl : blanksUp C (two + 1) ≤ C.length := by
          unfold blanksUp
          have := (List.takeWhile_sublist (fun c : Cel => c.kind == 0) (l := C.drop (two + 1))).length_le
          rw [List.length_drop] at this; omega
        have hbg : two + 1 ≤ blanksUp C (two + 1) := by unfold blanksUp; omega
        have hdl : ∀ j, blanksDown C j ≤ j := by
          intro j
          induction j with
          | zero => exact Nat.le_refl _
          | succ j ih => rw [blanksDown]; split <;> omega
        have h1' := hdl one
        have htb : two + 1 ≤ t ∧ t ≤ C.length := by rw [ht]; split <;> omega
        have hfb : f ≤ one := by rw [hf]; split <;> omega
        obtain ⟨c', hc'⟩ : ∃ c, C[f]? = some c := ⟨_, List.getElem?_eq_getElem (by omega)⟩
        obtain ⟨d', hd'⟩ : ∃ c, C[t - 1]? = some c := ⟨_, List.getElem?_eq_getElem (by omega)⟩
        refine .inr ⟨hk, f, t, c', d', hfb, by omega, htb.2, hc', hd', ?_⟩
        rw [hc', hd']; rfl
  · rw [if_pos hc]; exact .inl ⟨rfl, hc⟩
theorem quotes_good (A : List Int) (at_ kind count arg : Int) : Good A (quotesP A at_ kind count arg).1 := by
  rcases quotes_cases A at_ kind count arg with ⟨h, _⟩ | ⟨one, two, c, d, hc, _, hp, hot, htl, hcc, hd, hh⟩
  · rw [h]; exact good_zero A
  obtain ⟨_, _, _, g1, g2⟩ := checked_zero hc
  have hl := lineP_at g1 g2
  have ok := ln_ok hl
  have tn := ok.tn; have nl := ok.nl
  rcases hh with ⟨_, _, he⟩ | ⟨_, f, t, c', d', hf, ht, htl, hc', hd', he⟩
  · rw [he]
    have o1 := lineC_ok hl hcc
    have o2 := lineC_ok hl hd
    have := (cels_lt hot hcc hd).1
    have := o2.hi; have := o2.lt
    exact good_nat (by omega) (by omega) o1.b2 o2.b1
  · rw [he]
    have o1 := lineC_ok hl hc'
    have o2 := lineC_ok hl hd'
    have := (cels_mono hc' hd' (by omega)).2
    have := o1.lt; have := o2.hi
    exact good_nat (by omega) (by omega) o1.b1 o2.b2
theorem brackets_ok {A : List Int} {at_ arg shut : Int} {k : Nat} {c d : Cel} (h : bracketsP (cels A 0) at_ arg shut k = some (c, d)) : ∃ m n : Nat, m < n ∧ (cels A 0)[m]? = some c ∧ (cels A 0)[n]? = some d ∧ c.is arg = true := by
  unfold bracketsP at h
  dsimp only at h
  split at h
  · cases h
  obtain ⟨i, j, h1, h2, hc, hd⟩ := pick_some h
  obtain ⟨m1, c1, k1, a1⟩ := nthL_mem h1
  obtain ⟨m2, _⟩ := nthL_mem h2
  have w1 := walkI_mem m1
  have w2 := walkI_mem m2
  simp only [Bool.false_eq_true, if_false] at w1
  simp only [if_true] at w2
  rw [hc] at k1; cases k1
  refine ⟨i, j, ?_, hc, hd, a1⟩
  split at w1 <;> split at w2 <;> omega
theorem hollow_ok {A : List Int} {m n : Nat} {c d : Cel} (hmn : m < n) (hc : (cels A 0)[m]? = some c) (hd : (cels A 0)[n]? = some d) : ∃ (i j : Nat) (k : Int), Obx.hollow A c d = ((i : Int), (j : Int), k) ∧ c.from_ ≤ i ∧ i ≤ j ∧ j ≤ d.to_ ∧ bk A i = true ∧ bk A j = true := by
  obtain ⟨x, y, _, _, h1, h2, h3, h4, g1, g2, _⟩ := (cels_ok hc).ex
  obtain ⟨x', y', _, _, h1', h2', h3', h4', g1', g2', _⟩ := (cels_ok hd).ex
  rw [Nat.zero_add] at h3 h4 h3' h4'
  have hlt := cels_lt hmn hc hd
  rw [← h3] at g1; rw [← h4] at g2; rw [← h3'] at g1'; rw [← h4'] at g2'
  have la := lineP_at (A := A) (at_ := (c.from_ : Int)) (by omega) (by omega)
  have lb := lineP_at (A := A) (at_ := (d.from_ : Int)) (by omega) (by omega)
  rw [Int.toNat_natCast] at la lb
  obtain ⟨l1, hl1, f1, _⟩ := ln_of A (show c.from_ ≤ A.length by omega)
  obtain ⟨l2, hl2, f2, _⟩ := ln_of A (show d.from_ ≤ A.length by omega)
  rw [la] at hl1; cases hl1
  rw [lb] at hl2; cases hl2
  unfold Obx.hollow
  rw [la, lb]
  simp only [Option.getD_some]
  have oka := ln_ok la
  have okb := ln_ok lb
  split
  · exact ⟨c.to_, d.from_, 0, rfl, by omega, by omega, by omega, g2, g1'⟩
  · rename_i hne
    simp only [not_or, ne_eq, Decidable.not_not] at hne
    split
    · exact ⟨c.to_, d.from_, 0, rfl, by omega, by omega, by omega, g2, g1'⟩
    · split
      · exact ⟨c.to_, c.to_, 0, rfl, by omega, by omega, by omega, g2, g2⟩
      · have hn : nb A c.from_ ≠ nb A d.from_ := fun he => hne.2 (by rw [he, lb] at la; exact (Option.some.inj la).symm)
        have hmono := nb_mono A c.from_ d.from_ (by omega)
        obtain ⟨l', hl'⟩ := lnAt_ok (A := A) (i := nb A c.from_ + 1) (by have := (lnAt_some lb).1; omega)
        obtain ⟨_, s1⟩ := lnAt_some hl'
        obtain ⟨_, s2⟩ := lnAt_some lb
        obtain ⟨e1, e2, _⟩ := oka.brk _ s1
        have hle : l'.from_ ≤ (lineP A (d.from_ : Int)).from_ := by
          by_cases he : nb A c.from_ + 1 = nb A d.from_
          · rw [he, s2] at s1
            have := Option.some.inj s1; omega
          · have := sk_lt s1 s2 (by omega); omega
        have := oka.tn
        refine ⟨(lineP A (c.from_ : Int)).next, (lineP A (d.from_ : Int)).from_, 1, rfl, by omega, by omega, by omega, ?_, bk_from lb⟩
        rw [e1]; exact bk_from hl'
theorem blocks_cases (A : List Int) (at_ kind count arg : Int) : ((blocksP A at_ kind count arg).1 = (0, 0, 0) ∧ (blocksP A at_ kind count arg).2 ≠ 0) ∨ ∃ shut c d, checked A.length at_ kind count 67 68 = 0 ∧ fellow arg = some shut ∧ bracketsP (cels A 0) at_ arg shut (times count) = some (c, d) ∧
    blocksP A at_ kind count arg = (if kind = 67 then (Obx.hollow A c d, 0) else (((c.from_ : Int), (d.to_ : Int), 0), 0)) := by
  unfold blocksP
  by_cases h1 : checked A.length at_ kind count 67 68 = 1
  · rw [if_pos h1]; exact .inl ⟨rfl, show (1 : Int) ≠ 0 by decide⟩
  rw [if_neg h1]
  cases hf : fellow arg with
  | none => exact .inl ⟨rfl, show (1 : Int) ≠ 0 by decide⟩
  | some shut =>
    dsimp only
    by_cases hc : checked A.length at_ kind count 67 68 = 0
    · rw [if_neg (by rw [hc]; decide)]
      cases hb : bracketsP (cels A 0) at_ arg shut (times count) with
      | none => exact .inl ⟨rfl, show (90 : Int) ≠ 0 by decide⟩
      | some cd => exact .inr ⟨shut, cd.1, cd.2, hc, rfl, hb, rfl⟩
    · rw [if_pos hc]; exact .inl ⟨rfl, hc⟩
theorem blocks_good (A : List Int) (at_ kind count arg : Int) : Good A (blocksP A at_ kind count arg).1 := by
  rcases blocks_cases A at_ kind count arg with ⟨h, _⟩ | ⟨shut, c, d, hc, hf, hb, he⟩
  · rw [h]; exact good_zero A
  obtain ⟨m, n, hmn, hcc, hd, _⟩ := brackets_ok hb
  obtain ⟨x, y, _, _, h1, h2, h3, h4, g1, g2, _⟩ := (cels_ok hcc).ex
  obtain ⟨x', y', _, _, h1', h2', h3', h4', g1', g2', _⟩ := (cels_ok hd).ex
  rw [Nat.zero_add] at h3 h4 h3' h4'
  rw [← h3] at g1; rw [← h4'] at g2'
  have hlt := cels_lt hmn hcc hd
  rw [he]
  split
  · obtain ⟨i, j, k, e, q1, q2, q3, q4, q5⟩ := hollow_ok hmn hcc hd
    rw [e]
    exact good_nat q2 (by omega) q4 q5
  · exact good_nat (by omega) (by omega) g1 g2'
theorem lnAll_len (A : List Int) : (lnAll A).length = lnN A ∧ (sortsP A).length = lnN A := by unfold sortsP lnAll; simp
theorem lnAll_at {A : List Int} {j : Nat} {l : Ln} (h : (lnAll A)[j]? = some l) : j < lnN A ∧ lnAt A j = some l := by
  have hj := (List.getElem?_eq_some_iff.1 h).1
  rw [(lnAll_len A).1] at hj
  refine ⟨hj, ?_⟩
  have hle : j ≤ brs A := by unfold lnN at hj; split at hj <;> omega
  obtain ⟨l', hl'⟩ := lnAt_ok hle
  unfold lnAll at h
  rw [List.getElem?_map, List.getElem?_range hj, Option.map_some, hl'] at h
  rw [hl']; exact h
theorem ln_next_bk {A : List Int} {i : Nat} {l : Ln} (h : lnAt A i = some l) : bk A l.next = true := by
  have ok := ln_ok h
  cases hx : sk A (i + 1) with
  | none => rw [(ok.tail hx).2.2]; exact bk_len A
  | some x =>
    obtain ⟨l', hl'⟩ := lnAt_ok (sk_get hx).1
    have := (lnAt_some hl').2
    rw [hx] at this
    rw [(ok.brk x hx).1, Option.some.inj this]
    exact bk_from hl'
theorem ln_lt {A : List Int} {i j : Nat} {l m : Ln} (h : lnAt A i = some l) (h' : lnAt A j = some m) (hij : i < j) : l.next ≤ m.from_ ∧ l.from_ ≤ m.from_ ∧ l.next ≤ m.next := by
  have ok := ln_ok h
  have ok' := ln_ok h'
  obtain ⟨hb, hs⟩ := lnAt_some h'
  obtain ⟨l', hl'⟩ := lnAt_ok (A := A) (i := i + 1) (by omega)
  obtain ⟨_, s1⟩ := lnAt_some hl'
  have e1 := (ok.brk _ s1).1
  have hle : l'.from_ ≤ m.from_ := by
    by_cases he : i + 1 = j
    · rw [he, hs] at s1
      have := Option.some.inj s1; omega
    · have := sk_lt s1 hs (by omega); omega
  have := ok.ft; have := ok.tn; have := ok'.ft; have := ok'.tn
  omega
theorem ln_mono {A : List Int} {i j : Nat} {l m : Ln} (h : lnAt A i = some l) (h' : lnAt A j = some m) (hij : i ≤ j) : l.from_ ≤ m.from_ ∧ l.next ≤ m.next := by
  rcases Nat.lt_or_ge i j with hlt | hge
  · have := ln_lt h h' hlt; omega
  · have : i = j := by omega
    subst this
    rw [h] at h'; cases h'
    exact ⟨Nat.le_refl _, Nat.le_refl _⟩
theorem paras_cases (A : List Int) (at_ kind count : Int) : ((parasP A at_ kind count).1 = (0, 0, 0) ∧ (parasP A at_ kind count).2 ≠ 0) ∨ ∃ f t c d, checked A.length at_ kind count 69 70 = 0 ∧ nb A at_.toNat < lnN A ∧
    pickP (decide (kind = 70)) (sortsP A) (nb A at_.toNat) (times count) = some (f, t) ∧
    lnAt A f = some c ∧ lnAt A (t - 1) = some d ∧ f ≤ nb A at_.toNat ∧ nb A at_.toNat < t ∧ t ≤ lnN A ∧ parasP A at_ kind count = (((c.from_ : Int), (d.next : Int), 1), 0) := by
  unfold parasP
  by_cases hc : checked A.length at_ kind count 69 70 = 0
  · rw [if_neg (by rw [hc]; decide)]
    by_cases hz : lnN A ≤ nb A at_.toNat
    · rw [if_pos hz]; exact .inl ⟨rfl, show (90 : Int) ≠ 0 by decide⟩
    · rw [if_neg hz]
      cases hp : pickP (decide (kind = 70)) (sortsP A) (nb A at_.toNat) (times count) with
      | none => exact .inl ⟨rfl, show (90 : Int) ≠ 0 by decide⟩
      | some ft =>
        obtain ⟨f, t⟩ := ft
        obtain ⟨e1, e2⟩ := lnAll_len A
        have hb : f ≤ nb A at_.toNat ∧ nb A at_.toNat < t ∧ t ≤ (sortsP A).length := by
          unfold pickP at hp
          split at hp
          · exact aroundP_le hp
          · exact innerP_le hp
        rw [e2] at hb
        obtain ⟨c, hcc⟩ : ∃ c, (lnAll A)[f]? = some c := ⟨_, List.getElem?_eq_getElem (by omega)⟩
        obtain ⟨d, hd⟩ : ∃ d, (lnAll A)[t - 1]? = some d := ⟨_, List.getElem?_eq_getElem (by omega)⟩
        refine .inr ⟨f, t, c, d, hc, by omega, rfl, (lnAll_at hcc).2, (lnAll_at hd).2, hb.1, hb.2.1, hb.2.2, ?_⟩
        dsimp only
        rw [hcc, hd]; rfl
  · rw [if_pos hc]; exact .inl ⟨rfl, hc⟩
theorem paras_good (A : List Int) (at_ kind count : Int) : Good A (parasP A at_ kind count).1 := by
  rcases paras_cases A at_ kind count with ⟨h, _⟩ | ⟨f, t, c, d, hc, hz, hp, hcc, hd, h1, h2, h3, he⟩
  · rw [h]; exact good_zero A
  · rw [he]
    have o1 := ln_ok hcc
    have o2 := ln_ok hd
    have := ln_mono hcc hd (by omega)
    have := o1.ft; have := o1.tn; have := o2.nl
    exact good_nat (by omega) (by omega) (bk_from hcc) (ln_next_bk hd)
theorem take_good (A : List Int) (at_ kind count arg : Int) : Good A (takeP A at_ kind count arg).1 := by
  unfold takeP
  split
  · exact words_good A at_ kind count
  · split
    · exact quotes_good A at_ kind count arg
    · split
      · exact blocks_good A at_ kind count arg
      · exact paras_good A at_ kind count
theorem inner_one {L : List Nat} {i : Nat} (h : i < L.length) : innerP L i 1 = some (beginP L i, endP L i) := by unfold innerP; rw [innerGo, if_pos h]; rfl
theorem times_zero : times 0 = 1 := by decide
end Obx
end Go.Proofs.YtabcpghhfeplaaaGreat
set_option linter.unusedSimpArgs false
set_option linter.unusedVariables false
set_option maxRecDepth 100000
namespace Go.Proofs.YtabcpghhfeplaaaGreat
open Trx Gly Clu Lns Obx
namespace Obx
theorem run_same {L : List Nat} {i j : Nat} (hi : i < L.length) (h1 : beginP L i ≤ j) (h2 : j < endP L i) : L.getD j 0 = L.getD i 0 := by
  have := endP_le hi
  by_cases hj : j ≤ i
  · exact beginP_same L i j h1 hj
  · exact endP_same (by omega) h2 (by omega)
theorem begin_found {L : List Nat} {i b : Nat} (h1 : b ≤ i) (hs : ∀ j, b ≤ j → j ≤ i → L.getD j 0 = L.getD i 0) (ht : 0 < b → L.getD (b - 1) 0 ≠ L.getD b 0) : beginP L i = b := by
  have hle := beginP_le L i
  rcases Nat.lt_trichotomy (beginP L i) b with h | h | h
  · have := ht (by omega)
    rw [beginP_same L i (b - 1) (by omega) (by omega), hs b (Nat.le_refl _) h1] at this
    exact absurd rfl this
  · exact h
  · have := beginP_stop L i (by omega)
    rw [hs _ (by omega) (by omega), hs _ (by omega) hle] at this
    exact absurd rfl this
theorem run_eq {L : List Nat} {i j : Nat} (hi : i < L.length) (h1 : beginP L i ≤ j) (h2 : j < endP L i) : beginP L j = beginP L i ∧ endP L j = endP L i := by
  have hle := endP_le hi
  have hj := run_same hi h1 h2
  have hbi := beginP_le L i
  have hei := endP_gt L i
  constructor
  · refine begin_found h1 (fun k q1 q2 => ?_) (fun hb => beginP_stop L i hb)
    rw [run_same hi q1 (by omega), hj]
  · refine endP_eq h2 hle (fun k q1 q2 => ?_) (fun ht => ?_)
    · rw [run_same hi (by omega) q2, hj]
    · rw [hj]; exact endP_stop ht
theorem here_in {A : List Int} {off f t : Nat} {c d : Cel} {p : Int} (hc : (cels A off)[f]? = some c) (hd : (cels A off)[t]? = some d) (h1 : (c.from_ : Int) ≤ p) (h2 : p < d.to_) : f ≤ hereI (cels A off) p ∧ hereI (cels A off) p ≤ t := by
  obtain ⟨s1, s2⟩ := firstI_spec (C := cels A off) (at_ := p)
  have hl := (List.getElem?_eq_some_iff.1 hd).1
  have e2 : firstI (cels A off) p ≤ t := by
    rcases Nat.lt_or_ge t (firstI (cels A off) p) with h | h
    · have := s1 t d h hd; omega
    · exact h
  have e1 : f ≤ firstI (cels A off) p := by
    rcases Nat.lt_or_ge (firstI (cels A off) p) f with h | h
    · obtain ⟨x, hx⟩ : ∃ x, (cels A off)[firstI (cels A off) p]? = some x := ⟨_, List.getElem?_eq_getElem (by omega)⟩
      have := s2 x hx
      have := (cels_lt h hx hc).1
      omega
    · exact h
  unfold hereI
  rw [if_pos (by omega)]
  exact ⟨e1, e2⟩
theorem same_words {A : List Int} {at_ k p : Int} (hk : k = 61 ∨ k = 63) (h0 : (wordsP A at_ k 0).2 = 0) (h1 : (wordsP A at_ k 0).1.1 ≤ p) (h2 : p < (wordsP A at_ k 0).1.2.1) : wordsP A p k 0 = wordsP A at_ k 0 := by
  rcases words_cases A at_ k 0 with ⟨_, h'⟩ | ⟨f, t, c, d, hc, hz, hp, hcc, hd, q1, q2, q3, he⟩
  · exact absurd h0 h'
  have hi : decide (k = 62 ∨ k = 64) = false := by rcases hk with rfl | rfl <;> rfl
  rw [he] at h1 h2
  replace h1 : (c.from_ : Int) ≤ p := h1
  replace h2 : p < (d.to_ : Int) := h2
  obtain ⟨_, _, _, g1, g2⟩ := checked_zero hc
  have hl := lineP_at g1 g2
  have ok := ln_ok hl
  have o1 := lineC_ok hl hcc
  have o2 := lineC_ok hl hd
  have tn := ok.tn; have nl := ok.nl
  have := o1.lo; have := o2.hi
  have hcp : checked A.length p k 0 61 64 = 0 := by unfold checked; rw [if_neg (by omega), if_neg (by omega)]
  have hnb : nb A p.toNat = nb A at_.toNat := ok.nbf _ (by omega) (by omega)
  have hlp : lineP A p = lineP A at_ := by unfold lineP; rw [hnb]
  rw [hi, times_zero] at hp
  have hil : hereI (lineC A (lineP A at_)) at_ < (sortsW (lineC A (lineP A at_)) (decide (k = 63 ∨ k = 64))).length := by rw [sortsW_len]; omega
  have hp2 : innerP (sortsW (lineC A (lineP A at_)) (decide (k = 63 ∨ k = 64))) (hereI (lineC A (lineP A at_)) at_) 1 = some (f, t) := hp
  rw [inner_one hil] at hp2
  cases hp2
  obtain ⟨r1, r2⟩ := here_in (p := p) hcc hd h1 h2
  obtain ⟨x1, x2⟩ := run_eq (j := hereI (lineC A (lineP A at_)) p) hil r1 (by show hereI (lineC A (lineP A at_)) p < _; unfold lineC at *; omega)
  have hip : hereI (lineC A (lineP A at_)) p < (sortsW (lineC A (lineP A at_)) (decide (k = 63 ∨ k = 64))).length := by
    have := endP_le hil
    have : hereI (lineC A (lineP A at_)) p ≤ endP (sortsW (lineC A (lineP A at_)) (decide (k = 63 ∨ k = 64))) (hereI (lineC A (lineP A at_)) at_) - 1 := r2
    omega
  have hin := inner_one hip
  rw [x1, x2] at hin
  rw [he]
  unfold wordsP
  rw [if_neg (by rw [hcp]; decide), hlp]
  dsimp only
  rw [if_neg hz, hi, times_zero]
  have : pickP false (sortsW (lineC A (lineP A at_)) (decide (k = 63 ∨ k = 64))) (hereI (lineC A (lineP A at_)) p) 1 = _ := hin
  rw [this]
  dsimp only
  rw [hcc, hd]
  rfl
theorem same_paras {A : List Int} {at_ p : Int} (h0 : (parasP A at_ 69 0).2 = 0) (h1 : (parasP A at_ 69 0).1.1 ≤ p) (h2 : p < (parasP A at_ 69 0).1.2.1) : parasP A p 69 0 = parasP A at_ 69 0 := by
  rcases paras_cases A at_ 69 0 with ⟨_, h'⟩ | ⟨f, t, c, d, hc, hz, hp, hcc, hd, q1, q2, q3, he⟩
  · exact absurd h0 h'
  rw [he] at h1 h2
  replace h1 : (c.from_ : Int) ≤ p := h1
  replace h2 : p < (d.next : Int) := h2
  obtain ⟨_, _, _, g1, g2⟩ := checked_zero hc
  have ok1 := ln_ok hcc
  have ok2 := ln_ok hd
  have nl := ok2.nl
  have hcp : checked A.length p 69 0 69 70 = 0 := by unfold checked; rw [if_neg (by omega), if_neg (by omega)]
  have hlo : f ≤ nb A p.toNat := by
    have := nb_mono A c.from_ p.toNat (by omega)
    rw [ok1.nbF] at this; exact this
  have hft : f ≤ t - 1 := by omega
  have hhi : nb A p.toNat ≤ t - 1 := by
    by_cases hq : d.from_ ≤ p.toNat
    · have := ok2.nbf p.toNat hq (by omega); omega
    · have := nb_mono A p.toNat d.from_ (by omega)
      rw [ok2.nbF] at this; exact this
  obtain ⟨e1, e2⟩ := lnAll_len A
  have hil : nb A at_.toNat < (sortsP A).length := by omega
  have hp2 : innerP (sortsP A) (nb A at_.toNat) 1 = some (f, t) := hp
  rw [inner_one hil] at hp2
  cases hp2
  obtain ⟨x1, x2⟩ := run_eq (j := nb A p.toNat) hil hlo (by omega)
  have hip : nb A p.toNat < (sortsP A).length := by omega
  have hin := inner_one hip
  rw [x1, x2] at hin
  have ec : (lnAll A)[beginP (sortsP A) (nb A at_.toNat)]? = some c := by
    have hj : beginP (sortsP A) (nb A at_.toNat) < lnN A := by omega
    unfold lnAll
    rw [List.getElem?_map, List.getElem?_range hj, Option.map_some, hcc]; rfl
  have ed : (lnAll A)[endP (sortsP A) (nb A at_.toNat) - 1]? = some d := by
    have hj : endP (sortsP A) (nb A at_.toNat) - 1 < lnN A := by omega
    unfold lnAll
    rw [List.getElem?_map, List.getElem?_range hj, Option.map_some, hd]; rfl
  rw [he]
  unfold parasP
  rw [if_neg (by rw [hcp]; decide), if_neg (by omega)]
  have : pickP (decide ((69 : Int) = 70)) (sortsP A) (nb A p.toNat) (times 0) = _ := hin
  rw [this]
  dsimp only
  rw [ec, ed]
  rfl
theorem take_same {A : List Int} {at_ k p : Int} (hk : k = 61 ∨ k = 63 ∨ k = 69) (h0 : (takeP A at_ k 0 0).2 = 0) (h1 : (takeP A at_ k 0 0).1.1 ≤ p) (h2 : p < (takeP A at_ k 0 0).1.2.1) : takeP A p k 0 0 = takeP A at_ k 0 0 := by
  rcases hk with rfl | rfl | rfl
  · exact same_words (.inl rfl) h0 h1 h2
  · exact same_words (.inr rfl) h0 h1 h2
  · exact same_paras h0 h1 h2
theorem take_90 {A : List Int} {at_ k : Int} (hk : k = 61 ∨ k = 63 ∨ k = 69) (g1 : 0 ≤ at_) (g2 : at_ ≤ A.length) : (takeP A at_ k 0 0).2 = 0 ∨ (takeP A at_ k 0 0).2 = 90 := by
  have words : (k = 61 ∨ k = 63) → (wordsP A at_ k 0).2 = 0 ∨ (wordsP A at_ k 0).2 = 90 := by
    intro hk
    have hc : checked A.length at_ k 0 61 64 = 0 := by unfold checked; rw [if_neg (by omega), if_neg (by omega)]
    unfold wordsP
    rw [if_neg (by rw [hc]; decide)]
    dsimp only
    split
    · exact .inr rfl
    · split
      · exact .inr rfl
      · exact .inl rfl
  rcases hk with rfl | rfl | rfl
  · exact words (.inl rfl)
  · exact words (.inr rfl)
  · have hc : checked A.length at_ 69 0 69 70 = 0 := by unfold checked; rw [if_neg (by omega), if_neg (by omega)]
    show (parasP A at_ 69 0).2 = 0 ∨ (parasP A at_ 69 0).2 = 90
    unfold parasP
    rw [if_neg (by rw [hc]; decide)]
    split
    · exact .inr rfl
    · split
      · exact .inr rfl
      · exact .inl rfl
end Obx
end Go.Proofs.YtabcpghhfeplaaaGreat
set_option linter.unusedSimpArgs false
set_option linter.unusedVariables false
set_option maxRecDepth 100000
namespace Go.Proofs.YtabcpghhfeplaaaGreat
open Go Go.Vx Cdc Trx Gly Clu Lns Obx
section
variable {w w' : World} {S : Nat → Prop} {p : Nat} {e : Enc} {lim na : Nat} {O : Nat → Prop} {M : Parts}
theorem func_m {g : FuncId} {a : Value} {args : Array Value} {t : RTy} {K : t.T → World → Prop} (hf : ((Tryz.prog.funcs[g]?).map fun fn => (fn.body.isNone, fn.name == "runtime.NumGoroutine")) = some (false, false)) (h : callT Tryz.prog g (#[a] ++ args) t K w) :
    callX Tryz.prog (do let d ← Deferred.ofValue (.func (.func g) #[a] #[]) args; invoke d.target d.args : Sem Next) t K w := by
  refine .inl ⟨g, #[a] ++ args, ?_, h⟩
  have := run_callFunc (P := Tryz.prog) (f := g) (args := #[a] ++ args) hf w
  simp only [Deferred.ofValue, pure_bind, invoke]
  have e : (#[a] ++ args ++ #[] : Array Value) = #[a] ++ args := by simp
  first
    | exact this
    | (rw [e]; exact this)
def SortX (w : World) (f : Value) (L : List Nat) : Prop := ∀ (W : World) (i s : Nat) (K : Int → World → Prop), Ext w W → L[i]? = some s → (∀ W', Ext W W' → K (s : Int) W') →
  callX Tryz.prog (do let d ← Deferred.ofValue f #[.int .i64 (i : Int)]; invoke d.target d.args : Sem Next) (.one (.one (.int .i64))) K W
theorem SortX.ext {f : Value} {L : List Nat} (h : SortX w f L) (x : Ext w w') : SortX w' f L := fun W i s K e hs hK => h W i s K (x.trans e) hs hK
abbrev rowT (n : Nat) (f : Value) : Cells.T c89 := ((n : Int), f, ())
theorem get_of {L : List Nat} {j : Nat} (h : j < L.length) : L[j]? = some (L.getD j 0) := by rw [List.getD_eq_getElem?_getD, List.getElem?_eq_getElem h]; rfl
theorem rend_call {L : List Nat} {f : Value} {i : Nat} (hf : SortX w f L) (h1 : isOne f = true) (hi : i < L.length) (hl : L.length < 2 ^ 60) {K : Int → World → Prop} (hK : ∀ w', Ext w w' → K ((endP L i : Nat) : Int) w') :
    callT Tryz.prog 79 #[.agg (Cells.vals c89 (rowT L.length f)).toArray, .int .i64 (i : Int)] (.one (.one (.int .i64))) K w := by
  refine F79_calls (a0 := rowT L.length f) ?_
  unfold F79
  refine (St.start w).newO fun b w1 S1 e1 => ?_
  let Q : Obj := .cells #[.int .i64 ((L.length : Nat) : Int), f] 89 (0, 0)
  have S1 : St (fun _ => False) w w1 [(b, Q)] := S1
  have ew : IntKind.wrap .i64 ((i : Int) + 1) = ((i + 1 : Nat) : Int) := by rw [wrap64 (by omega) (by omega)]; omega
  rw [ew]
  refine join_r (fun x W => x = (((endP L i : Nat) : Int), ()) ∧ Ext w W) ?_ (fun x W h => by obtain ⟨rfl, h⟩ := h; exact hK W h)
  refine sloop_r (fun x W => ∃ j : Nat, i < j ∧ j ≤ L.length ∧ x = ((j : Int), ()) ∧ St (fun _ => False) w W [(b, Q)] ∧ ∀ q, i < q → q < j → L.getD q 0 = L.getD i 0) (fun x _ => ((L.length : Int) - x.1).toNat) ⟨i + 1, by omega, by omega, rfl, S1, fun q h1 h2 => by omega⟩ ?_
  rintro _ W ⟨j, hij, hjl, rfl, SW, hs⟩
  refine join_r (fun x W' => x = (decide (j < L.length ∧ L.getD j 0 = L.getD i 0), ()) ∧ St (fun _ => False) w W' [(b, Q)]) ?_ ?_
  · refine SW.drew fun w2 S2 e2 _ => S2.ld 0 rfl (x := ((L.length : Nat) : Int)) rfl (sif_r (fun h => ?_) (fun h => ⟨tupb ?_, S2⟩))
    · simp only [decide_eq_true_eq] at h
      refine S2.ld 0 rfl (c := .any) (x := f) rfl (S2.ld 0 rfl (c := .any) (x := f) rfl ?_)
      refine hf _ j _ _ S2.upd (get_of (by omega)) fun w3 e3 => (S2.ext e3).keep 0 rfl (v := f) rfl ?_
      refine hf _ i _ _ (S2.ext e3).upd (get_of hi) fun w4 e4 => ⟨tupb ?_, (S2.ext e3).ext e4⟩
      simp only [beq_iff_eq, decide_eq_true_eq]
      omega
    · simp only [decide_eq_false_iff_not] at h
      simp only [Bool.false_eq_true, decide_eq_true_eq, false_iff]
      omega
  rintro _ w2 ⟨rfl, S2⟩
  refine sif_r (fun h => ?_) (fun h => ?_)
  · simp only [decide_eq_true_eq] at h
    have ew : IntKind.wrap .i64 ((j : Int) + 1) = ((j + 1 : Nat) : Int) := by rw [wrap64 (by omega) (by omega)]; omega
    rw [ew]
    refine ⟨⟨j + 1, by omega, by omega, rfl, S2, fun q h1 h2 => ?_⟩, by omega⟩
    by_cases hq : q = j
    · rw [hq]; exact h.2
    · exact hs q h1 (by omega)
  · simp only [decide_eq_false_iff_not] at h
    refine ⟨?_, S2.upd⟩
    rw [endP_eq hij hjl hs fun h2 h3 => h ⟨h2, h3⟩]
theorem rbegin_call {L : List Nat} {f : Value} {i : Nat} (hf : SortX w f L) (h1 : isOne f = true) (hi : i < L.length) (hl : L.length < 2 ^ 60) {K : Int → World → Prop} (hK : ∀ w', Ext w w' → K ((beginP L i : Nat) : Int) w') {n : Nat} :
    callT Tryz.prog 80 #[.agg (Cells.vals c89 (rowT n f)).toArray, .int .i64 (i : Int)] (.one (.one (.int .i64))) K w := by
  refine F80_calls (a0 := rowT n f) ?_
  unfold F80
  refine (St.start w).newO fun b w1 S1 e1 => ?_
  let Q : Obj := .cells #[.int .i64 (n : Int), f] 89 (0, 0)
  have S1 : St (fun _ => False) w w1 [(b, Q)] := S1
  refine join_r (fun x W => x = (((beginP L i : Nat) : Int), ()) ∧ Ext w W) ?_ (fun x W h => by obtain ⟨rfl, h⟩ := h; exact hK W h)
  refine sloop_r (fun x W => ∃ j : Nat, j ≤ i ∧ x = ((j : Int), ()) ∧ St (fun _ => False) w W [(b, Q)] ∧ beginP L j = beginP L i) (fun x _ => x.1.toNat) ⟨i, Nat.le_refl _, rfl, S1, rfl⟩ ?_
  rintro _ W ⟨j, hji, rfl, SW, hb⟩
  refine join_r (fun x W' => x = (decide (0 < j ∧ L.getD (j - 1) 0 = L.getD j 0), ()) ∧ St (fun _ => False) w W' [(b, Q)]) ?_ ?_
  · refine SW.drew fun w2 S2 e2 _ => sif_r (fun h => ?_) (fun h => ⟨tupb ?_, S2⟩)
    · simp only [decide_eq_true_eq, gt_iff_lt] at h
      have ew : IntKind.wrap .i64 ((j : Int) - 1) = ((j - 1 : Nat) : Int) := by rw [wrap64 (by omega) (by omega)]; omega
      rw [ew]
      refine S2.ld 0 rfl (c := .any) (x := f) rfl (S2.ld 0 rfl (c := .any) (x := f) rfl ?_)
      refine hf _ (j - 1) _ _ S2.upd (get_of (by omega)) fun w3 e3 => (S2.ext e3).keep 0 rfl (v := f) rfl ?_
      refine hf _ j _ _ (S2.ext e3).upd (get_of (by omega)) fun w4 e4 => ⟨tupb ?_, (S2.ext e3).ext e4⟩
      simp only [beq_iff_eq, decide_eq_true_eq]
      omega
    · simp only [decide_eq_false_iff_not, gt_iff_lt] at h
      simp only [Bool.false_eq_true, decide_eq_true_eq, false_iff]
      omega
  rintro _ w2 ⟨rfl, S2⟩
  refine sif_r (fun h => ?_) (fun h => ?_)
  · simp only [decide_eq_true_eq] at h
    have ew : IntKind.wrap .i64 ((j : Int) - 1) = ((j - 1 : Nat) : Int) := by rw [wrap64 (by omega) (by omega)]; omega
    rw [ew]
    refine ⟨⟨j - 1, by omega, rfl, S2, ?_⟩, by dsimp only; omega⟩
    rw [← hb]
    obtain ⟨m, rfl⟩ : ∃ m, j = m + 1 := ⟨j - 1, by omega⟩
    rw [Nat.add_sub_cancel] at h ⊢
    rw [beginP, if_pos h.2]
  · simp only [decide_eq_false_iff_not] at h
    refine ⟨?_, S2.upd⟩
    rw [← hb]
    cases j with
    | zero => rfl
    | succ m =>
      rw [Nat.add_sub_cancel] at h
      rw [beginP, if_neg fun hc => h ⟨by omega, hc⟩]
theorem innerGo_step (L : List Nat) (j m : Nat) : innerGo L j (m + 1) = if j < L.length then (if m = 0 then some (endP L j) else innerGo L (endP L j) m) else none := by
  cases m with
  | zero => simp [innerGo]
  | succ m => rw [innerGo]; simp
theorem aroundGo_step (L : List Nat) (j m : Nat) : aroundGo L j (m + 1) = if overP L j < L.length then (if m = 0 then some (endP L (overP L j)) else aroundGo L (endP L (overP L j)) m) else none := by
  cases m with
  | zero => simp [aroundGo]
  | succ m => rw [aroundGo]; simp
def pickV (r : Option (Nat × Nat)) : Int × Int × Bool × Unit := match r with
  | some (f, t) => ((f : Int), (t : Int), true, ())
  | none => (0, 0, false, ())
theorem inner_call {L : List Nat} {f : Value} {i k : Nat} (hf : SortX w f L) (h1 : isOne f = true) (hi : i < L.length) (hl : L.length < 2 ^ 60) (hk1 : 1 ≤ k) (hk : (k : Int) < 2 ^ 63) {K : Int × Int × Bool × Unit → World → Prop} (hK : ∀ w', Ext w w' → K (pickV (innerP L i k)) w') :
    callT Tryz.prog 53 #[.agg (Cells.vals c89 (rowT L.length f)).toArray, .int .i64 (i : Int), .int .i64 (k : Int)] (.tup [(.one (.int .i64)), (.one (.int .i64)), (.one .bool)]) K w := by
  refine F53_calls (a0 := rowT L.length f) ?_
  unfold F53
  unfold innerP at hK
  refine (St.start w).newO fun b w1 S1 e1 => ?_
  let Q : Obj := .cells #[.int .i64 ((L.length : Nat) : Int), f] 89 (0, 0)
  have S1 : St (fun _ => False) w w1 [(b, Q)] := S1
  refine join_r (fun x W => ∃ j : Nat, innerGo L i k = some j ∧ x = ((j : Int), ()) ∧ St (fun _ => False) w W [(b, Q)]) ?_ ?_
  · refine sloop_r (fun x W => ∃ j q : Nat, q ≤ k ∧ x = ((j : Int), (q : Int), ()) ∧ St (fun _ => False) w W [(b, Q)] ∧ j ≤ L.length ∧ (q < k → innerGo L i k = innerGo L j (k - q)) ∧ (q = k → innerGo L i k = some j)) (fun x _ => ((L.length : Int) - x.1).toNat) ⟨i, 0, Nat.zero_le _, rfl, S1, by omega, fun _ => rfl, fun h => by omega⟩ ?_
    rintro _ W ⟨j, q, hq, rfl, SW, hj, hlt, heq⟩
    refine sif_r (fun hc => ?_) (fun hc => ?_)
    · simp only [decide_eq_true_eq] at hc
      have hg := hlt (by omega)
      obtain ⟨m, hm⟩ : ∃ m, k - q = m + 1 := ⟨k - q - 1, by omega⟩
      rw [hm, innerGo_step] at hg
      refine SW.ld 0 rfl (x := ((L.length : Nat) : Int)) rfl (sif_r (fun hn => ?_) (fun hn => ?_))
      · simp only [decide_eq_true_eq, ge_iff_le] at hn
        rw [if_neg (by omega)] at hg
        have := hK W SW.upd
        rw [hg] at this
        exact this
      · simp only [decide_eq_false_iff_not, ge_iff_le] at hn
        rw [if_pos (by omega)] at hg
        refine SW.lds 0 (rowT L.length f) rfl (rend_call (hf.ext SW.upd) h1 (by omega) hl fun w2 e2 => ?_)
        have ew : IntKind.wrap .i64 ((q : Int) + 1) = ((q + 1 : Nat) : Int) := by rw [wrap64 (by omega) (by omega)]; omega
        rw [ew]
        have hgt := endP_gt L j
        have hle := endP_le (L := L) (i := j) (by omega)
        refine ⟨⟨endP L j, q + 1, by omega, rfl, SW.ext e2, hle, fun h => ?_, fun h => ?_⟩, by dsimp only; omega⟩
        · rw [if_neg (by omega)] at hg
          rw [hg]; congr 1; omega
        · rw [if_pos (by omega)] at hg
          exact hg
    · simp only [decide_eq_false_iff_not] at hc
      exact ⟨j, heq (by omega), rfl, SW⟩
  · rintro _ W ⟨j, hj, rfl, SW⟩
    refine SW.lds 0 (rowT L.length f) rfl (rbegin_call (hf.ext SW.upd) h1 hi hl fun w2 e2 => ?_)
    have := hK w2 (SW.ext e2).upd
    rw [hj] at this
    exact this
theorem around_call {L : List Nat} {f : Value} {i k : Nat} (hf : SortX w f L) (h1 : isOne f = true) (hi : i < L.length) (hl : L.length < 2 ^ 60) (hk1 : 1 ≤ k) (hk : (k : Int) < 2 ^ 63) {K : Int × Int × Bool × Unit → World → Prop} (hK : ∀ w', Ext w w' → K (pickV (aroundP L i k)) w') :
    callT Tryz.prog 54 #[.agg (Cells.vals c89 (rowT L.length f)).toArray, .int .i64 (i : Int), .int .i64 (k : Int)] (.tup [(.one (.int .i64)), (.one (.int .i64)), (.one .bool)]) K w := by
  refine F54_calls (a0 := rowT L.length f) ?_
  unfold F54
  unfold aroundP at hK
  refine (St.start w).newO fun b w1 S1 e1 => ?_
  let Q : Obj := .cells #[.int .i64 ((L.length : Nat) : Int), f] 89 (0, 0)
  have S1 : St (fun _ => False) w w1 [(b, Q)] := S1
  refine S1.ld 0 rfl (c := .any) (x := f) rfl (hf _ i _ _ S1.upd (get_of hi) fun w2 e2 => ?_)
  have S2 := S1.ext e2
  refine S2.lds 0 (rowT L.length f) rfl (rbegin_call (hf.ext S2.upd) h1 hi hl fun w3 e3 => ?_)
  have S3 := S2.ext e3
  have hbl := beginP_le L i
  have plain : ∀ {W : World} {j : Nat} {J : Bool × Unit → World → Prop}, St (fun _ => False) w W [(b, Q)] → (∀ W', St (fun _ => False) w W' [(b, Q)] → J (decide (j < L.length ∧ L.getD j 0 = 0), ()) W') →
      ld (.int .i64) (at0 b) (fun x14 => sif (decide ((j : Int) < x14)) (ld .any (⟨b, 1, none⟩ : Addr) fun x15 => callX Tryz.prog (do let d ← Deferred.ofValue x15 #[.int .i64 (j : Int)]; invoke d.target d.args : Sem Next) (.one (.one (.int .i64))) fun x16 => J ((x16 == (0 : Int)), ())) (J (false, ()))) W := by
    intro W j J SW hJ
    refine SW.ld 0 rfl (x := ((L.length : Nat) : Int)) rfl (sif_r (fun h => ?_) (fun h => ?_))
    · simp only [decide_eq_true_eq] at h
      refine SW.ld 0 rfl (c := .any) (x := f) rfl (hf _ j _ _ SW.upd (get_of (by omega)) fun w4 e4 => ?_)
      have := hJ w4 (SW.ext e4)
      have e : (((L.getD j 0 : Nat) : Int) == 0) = decide (j < L.length ∧ L.getD j 0 = 0) := by rw [Bool.eq_iff_iff, beq_iff_eq, decide_eq_true_eq]; omega
      show J ((((L.getD j 0 : Nat) : Int) == 0), ()) w4
      rw [e]; exact this
    · simp only [decide_eq_false_iff_not] at h
      have := hJ W SW
      rw [decide_eq_false (by omega)] at this
      exact this
  refine join_r (fun x W => ∃ j : Nat, aroundGo L i k = some j ∧ j ≤ L.length ∧ x = ((j : Int), ()) ∧ St (fun _ => False) w W [(b, Q)]) ?_ ?_
  · refine sloop_r (fun x W => ∃ j q : Nat, q ≤ k ∧ x = ((j : Int), (q : Int), ()) ∧ St (fun _ => False) w W [(b, Q)] ∧ j ≤ L.length ∧ (q < k → aroundGo L i k = aroundGo L j (k - q)) ∧ (q = k → aroundGo L i k = some j)) (fun x _ => ((L.length : Int) - x.1).toNat) ⟨i, 0, Nat.zero_le _, rfl, S3, by omega, fun _ => rfl, fun h => by omega⟩ ?_
    rintro _ W ⟨j, q, hq, rfl, SW, hj, hlt, heq⟩
    refine sif_r (fun hc => ?_) (fun hc => ?_)
    · simp only [decide_eq_true_eq] at hc
      have hg := hlt (by omega)
      obtain ⟨m, hm⟩ : ∃ m, k - q = m + 1 := ⟨k - q - 1, by omega⟩
      rw [hm, aroundGo_step] at hg
      have hov := overP_ge L j
      have hol : overP L j ≤ L.length := by
        unfold overP
        split
        · exact endP_le (by omega)
        · exact hj
      refine join_r (fun x W' => x = (((overP L j : Nat) : Int), ()) ∧ St (fun _ => False) w W' [(b, Q)]) ?_ ?_
      · refine join_r (fun x W' => x = (decide (j < L.length ∧ L.getD j 0 = 0), ()) ∧ St (fun _ => False) w W' [(b, Q)]) ?_ ?_
        · exact plain (j := j) (J := fun x W' => x = (decide (j < L.length ∧ L.getD j 0 = 0), ()) ∧ St (fun _ => False) w W' [(b, Q)]) SW fun W' SW' => ⟨rfl, SW'⟩
        rintro _ W1 ⟨rfl, SW1⟩
        refine sif_r (fun h => ?_) (fun h => ?_)
        · simp only [decide_eq_true_eq] at h
          refine SW1.lds 0 (rowT L.length f) rfl (rend_call (hf.ext SW1.upd) h1 h.1 hl fun w5 e5 => ⟨?_, SW1.ext e5⟩)
          unfold overP; rw [if_pos h]
        · simp only [decide_eq_false_iff_not] at h
          refine ⟨?_, SW1⟩
          unfold overP; rw [if_neg h]
      rintro _ W1 ⟨rfl, SW1⟩
      generalize overP L j = jo at *
      refine SW1.ld 0 rfl (x := ((L.length : Nat) : Int)) rfl (sif_r (fun hn => ?_) (fun hn => ?_))
      · simp only [decide_eq_true_eq, ge_iff_le] at hn
        rw [if_neg (by omega)] at hg
        have := hK W1 SW1.upd
        rw [hg] at this
        exact this
      · simp only [decide_eq_false_iff_not, ge_iff_le] at hn
        rw [if_pos (by omega)] at hg
        refine SW1.lds 0 (rowT L.length f) rfl (rend_call (hf.ext SW1.upd) h1 (by omega) hl fun w2 e2 => ?_)
        have ew : IntKind.wrap .i64 ((q : Int) + 1) = ((q + 1 : Nat) : Int) := by rw [wrap64 (by omega) (by omega)]; omega
        rw [ew]
        have hgt := endP_gt L jo
        have hle := endP_le (L := L) (i := jo) (by omega)
        refine ⟨⟨endP L jo, q + 1, by omega, rfl, SW1.ext e2, hle, fun h => ?_, fun h => ?_⟩, by dsimp only; omega⟩
        · rw [if_neg (by omega)] at hg
          rw [hg]; congr 1; omega
        · rw [if_pos (by omega)] at hg
          exact hg
    · simp only [decide_eq_false_iff_not] at hc
      exact ⟨j, heq (by omega), hj, rfl, SW⟩
  · rintro _ W ⟨j, hj, hjl, rfl, SW⟩
    have hK' : ∀ w', Ext w w' → K (pickV (some (if L.getD i 0 = 0 then (beginP L i, j) else if j < L.length ∧ L.getD j 0 = 0 then (beginP L i, endP L j)
      else if 0 < beginP L i ∧ L.getD (beginP L i - 1) 0 = 0 then (beginP L (beginP L i - 1), j) else (beginP L i, j)))) w' := fun w' x => by
      have := hK w' x
      rw [hj] at this
      exact this
    refine join_r (fun x W' => ∃ f' t', x = (((f' : Nat) : Int), ((t' : Nat) : Int), ()) ∧ St (fun _ => False) w W' [(b, Q)] ∧ (if L.getD i 0 = 0 then (beginP L i, j) else if j < L.length ∧ L.getD j 0 = 0 then (beginP L i, endP L j)
      else if 0 < beginP L i ∧ L.getD (beginP L i - 1) 0 = 0 then (beginP L (beginP L i - 1), j) else (beginP L i, j)) = (f', t')) ?_ ?_
    · refine sif_r (fun h => ?_) (fun h => ?_)
      · have h : (((L.getD i 0 : Nat) : Int) == 0) = true := h
        simp only [beq_iff_eq] at h
        exact ⟨beginP L i, j, rfl, SW, by rw [if_pos (by omega)]⟩
      have h : (((L.getD i 0 : Nat) : Int) == 0) = false := h
      simp only [beq_eq_false_iff_ne, ne_eq] at h
      rw [if_neg (by omega)]
      refine join_r (fun x W' => x = (decide (j < L.length ∧ L.getD j 0 = 0), ()) ∧ St (fun _ => False) w W' [(b, Q)]) ?_ ?_
      · exact plain (j := j) (J := fun x W' => x = (decide (j < L.length ∧ L.getD j 0 = 0), ()) ∧ St (fun _ => False) w W' [(b, Q)]) SW fun W' SW' => ⟨rfl, SW'⟩
      rintro _ W1 ⟨rfl, SW1⟩
      refine sif_r (fun h2 => ?_) (fun h2 => ?_)
      · simp only [decide_eq_true_eq] at h2
        refine SW1.lds 0 (rowT L.length f) rfl (rend_call (hf.ext SW1.upd) h1 h2.1 hl fun w5 e5 => ⟨beginP L i, endP L j, rfl, SW1.ext e5, by rw [if_pos h2]⟩)
      simp only [decide_eq_false_iff_not] at h2
      rw [if_neg h2]
      refine join_r (fun x W' => x = (decide (0 < beginP L i ∧ L.getD (beginP L i - 1) 0 = 0), ()) ∧ St (fun _ => False) w W' [(b, Q)]) ?_ ?_
      · refine sif_r (fun h3 => ?_) (fun h3 => ⟨tupb ?_, SW1⟩)
        · simp only [decide_eq_true_eq, gt_iff_lt] at h3
          have ew : IntKind.wrap .i64 (((beginP L i : Nat) : Int) - 1) = ((beginP L i - 1 : Nat) : Int) := by rw [wrap64 (by omega) (by omega)]; omega
          rw [ew]
          refine SW1.ld 0 rfl (c := .any) (x := f) rfl (hf _ (beginP L i - 1) _ _ SW1.upd (get_of (by omega)) fun w5 e5 => ⟨tupb ?_, SW1.ext e5⟩)
          simp only [beq_iff_eq, decide_eq_true_eq]; omega
        · simp only [decide_eq_false_iff_not, gt_iff_lt] at h3
          simp only [Bool.false_eq_true, decide_eq_true_eq, false_iff]; omega
      rintro _ W2 ⟨rfl, SW2⟩
      refine sif_r (fun h3 => ?_) (fun h3 => ?_)
      · simp only [decide_eq_true_eq] at h3
        have ew : IntKind.wrap .i64 (((beginP L i : Nat) : Int) - 1) = ((beginP L i - 1 : Nat) : Int) := by rw [wrap64 (by omega) (by omega)]; omega
        rw [ew]
        refine SW2.lds 0 (rowT L.length f) rfl (rbegin_call (hf.ext SW2.upd) h1 (by omega) hl fun w6 e6 => ⟨beginP L (beginP L i - 1), j, rfl, SW2.ext e6, by rw [if_pos h3]⟩)
      · simp only [decide_eq_false_iff_not] at h3
        exact ⟨beginP L i, j, rfl, SW2, by rw [if_neg h3]⟩
    · rintro _ W1 ⟨f', t', rfl, SW1, he⟩
      have := hK' W1 SW1.upd
      rw [he] at this
      exact this
end
end Go.Proofs.YtabcpghhfeplaaaGreat
set_option linter.unusedSimpArgs false
set_option linter.unusedVariables false
set_option maxRecDepth 100000
namespace Go.Proofs.YtabcpghhfeplaaaGreat
open Go Go.Vx Cdc Trx Gly Clu Lns Obx
section
variable {w w' : World} {S : Nat → Prop} {p : Nat} {e : Enc} {lim na : Nat} {O : Nat → Prop} {M : Parts}
theorem line_ok (A : List Int) {at_ : Nat} (h : at_ ≤ A.length) : lnAt A (nb A at_) = some (lineP A (at_ : Int)) ∧ LnOk A (nb A at_) (lineP A (at_ : Int)) := by
  obtain ⟨l, hl, _⟩ := ln_of A h
  have e : lineP A (at_ : Int) = l := by unfold lineP; rw [Int.toNat_natCast, hl]; rfl
  rw [e]
  exact ⟨hl, ln_ok hl⟩
theorem sub_nat (A : List Int) (i j : Nat) : sub A (i : Int) (j : Int) = (A.drop i).take (j - i) := by unfold sub; simp
noncomputable def hereV (C : List Cel) (at_ : Int) : Int := if C.length = 0 then -1 else ((hereI C at_ : Nat) : Int)
theorem here_call {at_ : Nat} (h : Txt w p e lim na O M) (hat : at_ ≤ (atoms (aOf e M)).length) {K : Sl × Int × Unit → World → Prop}
    (hK : ∀ s w', CelIn w' s (lineC (atoms (aOf e M)) (lineP (atoms (aOf e M)) at_)) → Ext w w' → K (s, hereV (lineC (atoms (aOf e M)) (lineP (atoms (aOf e M)) at_)) at_, ()) w') :
    callT Tryz.prog 51 #[.pointer (some (at0 p)), .int .i64 (at_ : Int)] (.tup [(.one .sl), (.one (.int .i64))]) K w := by
  refine F51_calls ?_
  unfold F51
  have few := h.few; have lims := h.lims
  have hal := hal e M
  refine line_call h hat fun w1 e1 => ?_
  generalize hA : atoms (aOf e M) = A at *
  have hlp : (lnAt A (nb A at_)).getD ⟨0, 0, 0, 0⟩ = lineP A (at_ : Int) := by unfold lineP; rw [Int.toNat_natCast]
  rw [hlp]
  obtain ⟨_, hok⟩ := line_ok A hat
  have ft := hok.ft; have tn := hok.tn; have nl := hok.nl
  generalize lineP A (at_ : Int) = l at *
  refine (St.start w1).newO fun b3 w2 S2 e2 => S2.aggSt 0 rfl rfl rfl rfl fun w3 S3 u3 => S3.drew fun w4 S4 e4 _ => ?_
  refine S4.ld 0 rfl (x := (l.from_ : Int)) rfl (S4.ld 0 rfl (x := (l.to_ : Int)) rfl (S4.ld 0 rfl (x := (l.from_ : Int)) rfl ?_))
  refine atoms_call (h.ext (e1.trans S4.upd)) fun s w5 o5 e5 => ?_
  rw [hA, sub_nat] at o5
  have S5 := S4.ext e5
  refine S5.keep 0 rfl (v := .int .i64 (l.from_ : Int)) rfl ?_
  refine cells_call o5.in (by rw [List.length_take, List.length_drop]; omega) (by omega) fun s2 w6 o6 e6 _ => ?_
  have x6 : Ext w w6 := e1.trans (S5.ext e6).upd
  have hcl := cels_le ((A.drop l.from_).take (l.to_ - l.from_)) l.from_
  rw [List.length_take, List.length_drop] at hcl
  change CelIn w6 s2 (lineC A l) at o6
  have hCl : (lineC A l).length ≤ A.length := by show (cels _ _).length ≤ _; omega
  generalize lineC A l = C at *
  have hlen := o6.lenC
  unfold hereV hereI at hK
  refine join_r (fun _ W => Ext w6 W ∧ firstI C at_ = C.length) ?_ ?_
  · refine sloop_r (fun x W => ∃ i : Nat, i ≤ C.length ∧ x = ((i : Int), ()) ∧ Ext w6 W ∧ ∀ (j : Nat) (c : Cel), j < i → C[j]? = some c → (c.to_ : Int) ≤ at_) (fun x _ => ((C.length : Int) - x.1).toNat) ⟨0, Nat.zero_le _, rfl, Ext.refl _, fun j c hj => absurd hj (Nat.not_lt_zero _)⟩ ?_
    rintro _ W ⟨i, hi, rfl, eW, hlo⟩
    refine sif_r (fun hc => ?_) (fun hc => ?_)
    · simp only [decide_eq_true_eq] at hc
      obtain ⟨c, hc'⟩ : ∃ c, C[i]? = some c := ⟨_, List.getElem?_eq_getElem (by omega)⟩
      refine ix_cel (o6.ext eW) hc' fun q => (St.start W).newO fun b w7 S7 e7 => S7.aggSt 0 rfl rfl rfl rfl fun w8 S8 u8 => S8.ld 0 rfl (x := (c.to_ : Int)) rfl (sif_r (fun hg => ?_) (fun hg => ?_))
      · simp only [decide_eq_true_eq] at hg
        have hf : firstI C at_ = i := firstI_eq hi hlo fun d hd => by rw [hc'] at hd; cases hd; exact hg
        have := hK s2 w8 (o6.ext (eW.trans S8.upd)) (x6.trans (eW.trans S8.upd))
        rw [if_neg (by omega), hf, if_pos (by omega)] at this
        exact this
      · simp only [decide_eq_false_iff_not] at hg
        have ew : IntKind.wrap .i64 ((i : Int) + 1) = ((i + 1 : Nat) : Int) := by rw [wrap64 (by omega) (by omega)]; omega
        rw [ew]
        refine ⟨⟨i + 1, by omega, rfl, eW.trans S8.upd, fun j d hj hd => ?_⟩, by omega⟩
        by_cases hji : j = i
        · subst hji; rw [hc'] at hd; cases hd; omega
        · exact hlo j d (by omega) hd
    · simp only [decide_eq_false_iff_not] at hc
      have : i = C.length := by omega
      refine ⟨eW, ?_⟩
      rw [firstI_eq hi hlo fun d hd => by rw [this, List.getElem?_eq_none (Nat.le_refl _)] at hd; cases hd]
      exact this
  · rintro _ W ⟨eW, hf⟩
    have := hK s2 W (o6.ext eW) (x6.trans eW)
    rw [hf, if_neg (Nat.lt_irrefl _)] at this
    have ew : IntKind.wrap .i64 (((s2.len : Nat) : Int) - 1) = (if C.length = 0 then -1 else ((C.length - 1 : Nat) : Int)) := by rw [wrap64 (by omega) (by omega)]; split <;> omega
    rw [ew]; exact this
theorem sorts_len (C : List Cel) (big : Bool) : (sortsW C big).length = C.length := List.length_map _
theorem sortX_words {C : List Cel} {big : Bool} {s : Sl} {b7 b : Nat} (hC : CelIn w s C) (h7 : w.heap[b7]? = some (.cells #[.slice s.a s.len s.cap] 68 (0, 0))) (hb : w.heap[b]? = some (.cells #[.bool big] 4 (0, 0))) :
    SortX w (.func (.func 52) #[] #[.pointer (some (at0 b)), .pointer (some (at0 b7))]) (sortsW C big) := by
  intro W i so K e hs hK
  unfold sortsW at hs
  rw [List.getElem?_map] at hs
  obtain ⟨c, hc, hso⟩ := Option.map_eq_some_iff.1 hs
  refine func_x (caps := #[.pointer (some (at0 b)), .pointer (some (at0 b7))]) (by kernel_rfl) ?_
  refine F52_calls ?_
  unfold F52
  refine join_r (fun x W' => x = (decide (big = true ∧ c.kind ≠ 0), ()) ∧ W = W') ?_ ?_
  · refine ld_r (e.ext_get hb) (x := big) rfl (sif_r (fun h => ld_r (e.ext_get h7) (x := s) rfl (ix_celF (k := .int .i64) (hC.ext e) hc (y := (c.kind : Int)) rfl fun q => ⟨tupb ?_, rfl⟩)) (fun h => ⟨tupb ?_, rfl⟩))
    · simp only [bne_iff_ne, ne_eq, decide_eq_true_eq, h, true_and]; omega
    · simp [h]
  rintro _ _ ⟨rfl, rfl⟩
  refine sif_r (fun h => ?_) (fun h => ?_)
  · simp only [decide_eq_true_eq] at h
    rw [if_pos h] at hso
    subst hso
    exact hK W (Ext.refl W)
  · simp only [decide_eq_false_iff_not] at h
    rw [if_neg h] at hso
    subst hso
    exact ld_r (e.ext_get h7) (x := s) rfl (ix_celF (k := .int .i64) (hC.ext e) hc (y := (c.kind : Int)) rfl fun q => hK W (Ext.refl W))
theorem times_pos (count : Int) : 1 ≤ times count := by unfold times; omega
theorem times_lt {count : Int} (h : count < 2 ^ 63) : ((times count : Nat) : Int) < 2 ^ 63 := by unfold times; omega
theorem words_call {at_ kind count arg : Int} (h : Txt w p e lim na O M) (hcn : count < 2 ^ 63) {K : Cells.T c34 × Int × Unit → World → Prop} (hK : ∀ w', Ext w w' → K (spT (wordsP (atoms (aOf e M)) at_ kind count).1, (wordsP (atoms (aOf e M)) at_ kind count).2, ()) w') :
    callT Tryz.prog 29 #[.pointer (some (at0 p)), .int .i64 at_, .agg (Cells.vals c39 (mvT kind count arg)).toArray] (.tup [(.agg c34), (.one (.int .i64))]) K w := by
  refine F29_calls (a2 := mvT kind count arg) ?_
  unfold F29
  have few := h.few; have lims := h.lims
  have hal := hal e M
  have here := fun (w0 : World) (h0 : Txt w0 p e lim na O M) (a : Nat) (ha : a ≤ (atoms (aOf e M)).length) => @here_call w0 p e lim na O M a h0 ha
  generalize hA : atoms (aOf e M) = A at *
  unfold wordsP at hK
  rw [hal] at hK
  let Mv : Obj := .cells (Cells.vals c39 (mvT kind count arg)).toArray 39 (0, 0)
  let Z : Obj := .cells #[.int .i64 0, .int .i64 0, .int .i64 0] 34 (0, 0)
  refine (St.start w).newO fun b1 w1 S1 e1 => S1.newO fun b2 w2 S2 e2 => ?_
  have S2 : St (fun _ => False) w w2 [(b2, Z), (b1, Mv)] := S2
  refine S2.lds 1 (mvT kind count arg) rfl (checked_call (h.ext S2.upd) fun w3 e3 => ?_)
  have S3 := S2.ext e3
  generalize hck : checked (aOf e M).length at_ kind count 61 64 = ck at *
  refine sif_r (fun h0 => ?_) (fun h0 => ?_)
  · simp only [bne_iff_ne, ne_eq] at h0
    rw [if_pos h0] at hK
    exact S3.aggSt 0 rfl rfl rfl rfl fun w4 S4 _ => S4.lds 0 (spT (0, 0, 0)) rfl (hK w4 S4.upd)
  simp only [bne_eq_false_iff_eq] at h0
  rw [if_neg (by rw [h0]; decide)] at hK
  have hat : 0 ≤ at_ ∧ at_ ≤ ((aOf e M).length : Int) := by
    unfold checked at hck
    split at hck
    · omega
    · split at hck <;> omega
  obtain ⟨a, rfl⟩ : ∃ a : Nat, at_ = (a : Int) := ⟨at_.toNat, by omega⟩
  refine here w3 (h.ext S3.upd) a (by omega) fun s w4 hC e4 => ?_
  have S4 := S3.ext e4
  dsimp only at hK
  have hCle : (lineC A (lineP A (a : Int))).length ≤ A.length := by
    have := cels_le ((A.drop (lineP A (a : Int)).from_).take ((lineP A (a : Int)).to_ - (lineP A (a : Int)).from_)) (lineP A (a : Int)).from_
    rw [List.length_take, List.length_drop] at this
    show (cels _ _).length ≤ _
    omega
  generalize lineC A (lineP A (a : Int)) = C at *
  refine S4.newO fun b7 w5 S5 e5 => S5.stC 0 rfl Nat.one_pos fun w6 S6 u6 => ?_
  let B7 : Obj := .cells #[.slice s.a s.len s.cap] 68 (0, 0)
  have S6 : St (fun _ => False) w w6 [(b7, B7), (b2, Z), (b1, Mv)] := S6
  have hC6 : CelIn w6 s C := SlIn.box (hC.ext e5) (S5.at_ 0 rfl) (by decide) u6
  unfold hereV
  dsimp only
  by_cases hz : C.length = 0
  · rw [if_pos hz] at hK
    rw [if_pos hz]
    refine sif_r (fun _ => S6.aggSt 1 rfl rfl rfl rfl fun w7 S7 _ => S7.lds 1 (spT (0, 0, 0)) rfl (hK w7 S7.upd)) (fun h => by simp at h)
  rw [if_neg hz] at hK
  rw [if_neg hz]
  have hh : hereI C (a : Int) < C.length := by unfold hereI; split <;> omega
  generalize hereI C (a : Int) = i at *
  refine sif_r (fun h => absurd (of_decide_eq_true h) (by omega)) (fun _ => ?_)
  refine join_r (fun x W => ∃ b, x = (at0 b, ()) ∧ St (fun _ => False) w W [(b, .cells #[.bool (decide (kind = 63 ∨ kind = 64))] 4 (0, 0)), (b7, B7), (b2, Z), (b1, Mv)] ∧ Ext w6 W) ?_ ?_
  · refine S6.ld 2 rfl (x := kind) rfl (sif_r (fun h => ?_) (fun h => ?_))
    · simp only [beq_iff_eq] at h
      refine S6.newO' fun b w7 S7 e7 hb => S7.stC 0 rfl Nat.one_pos fun w8 S8 u8 => ⟨b, rfl, ?_, e7.step u8 fun k hk => by omega⟩
      rw [decide_eq_true (.inl h)]; exact S8
    · simp only [beq_eq_false_iff_ne, ne_eq] at h
      refine S6.ld 2 rfl (x := kind) rfl (S6.newO' fun b w7 S7 e7 hb => S7.stC 0 rfl Nat.one_pos fun w8 S8 u8 => ⟨b, rfl, ?_, e7.step u8 fun k hk => by omega⟩)
      have e : (kind == 64) = decide (kind = 63 ∨ kind = 64) := by rw [Bool.eq_iff_iff, beq_iff_eq, decide_eq_true_eq]; omega
      rw [← e]; exact S8
  rintro _ w7 ⟨b, rfl, S7, e7⟩
  generalize decide (kind = 63 ∨ kind = 64) = big at *
  have hC7 := hC6.ext e7
  have hlen := CelIn.lenC hC7
  have hsl := sorts_len C big
  refine S7.ld 1 rfl (x := s) rfl (S7.newO fun b16 w8 S8 e8 => S8.aggSt 0 rfl rfl rfl rfl fun w9 S9 u9 => ?_)
  have hC9 : CelIn w9 s C := SlIn.box (hC7.ext e8) (S8.at_ 0 rfl) (by decide) u9
  rw [← hlen, ← hsl] at S9
  have hf : SortX w9 (.func (.func 52) #[] #[.pointer (some (at0 b)), .pointer (some (at0 b7))]) (sortsW C big) := sortX_words hC9 (S9.at_ 2 rfl) (S9.at_ 1 rfl)
  let F : Value := .func (.func 52) #[] #[.pointer (some (at0 b)), .pointer (some (at0 b7))]
  refine S9.lds 0 (rowT (sortsW C big).length F) rfl ?_
  let R : Value := .agg (Cells.vals c89 (rowT (sortsW C big).length F)).toArray
  refine join_r (fun x W => x = ((if kind = 62 ∨ kind = 64 then (.func (.func 54) #[R] #[] : Value) else .func (.func 53) #[R] #[]), ()) ∧ w9 = W) ?_ ?_
  · refine join_r (fun x W => x = (decide (kind = 62 ∨ kind = 64), ()) ∧ w9 = W) ?_ ?_
    · refine S9.ld 4 rfl (x := kind) rfl (sif_r (fun h => ⟨tupb ?_, rfl⟩) (fun h => S9.ld 4 rfl (x := kind) rfl ⟨tupb ?_, rfl⟩))
      all_goals simp only [beq_iff_eq, beq_eq_false_iff_ne, ne_eq, decide_eq_true_eq, true_iff] at *
      all_goals omega
    rintro _ _ ⟨rfl, rfl⟩
    refine sif_r (fun h => ?_) (fun h => ?_)
    · simp only [decide_eq_true_eq] at h
      rw [if_pos h]
      exact S9.lds 0 (rowT (sortsW C big).length F) rfl ⟨rfl, rfl⟩
    · simp only [decide_eq_false_iff_not] at h
      rw [if_neg h]
      exact ⟨rfl, rfl⟩
  rintro _ _ ⟨rfl, rfl⟩
  refine S9.lds 4 (mvT kind count arg) rfl (times_call hcn fun w10 e10 => ?_)
  have S10 := S9.ext e10
  have tp := times_pos count
  have tl := times_lt hcn
  have fin : ∀ W, Ext w10 W → (fun (x27 : Int × Int × Bool × Unit) => sif (!x27.2.2.1) (aggSt (at0 b2) (.agg #[.int .i64 0, .int .i64 0, .int .i64 0]) 3 (lds c34 (at0 b2) fun x28 => K (x28, 90, ())))
      (drew (ld .sl (at0 b7) fun x29 => ix x29.a x29.len x27.1 fun p30 => ld (.int .i64) (p30.add (scaled (Int.toNat x27.1) 5)) fun x31 => ld .sl (at0 b7) fun x32 => ix x32.a x32.len (IntKind.wrap .i64 (x27.2.1 - 1)) fun p33 => ld (.int .i64) ((p33.add (scaled (Int.toNat (IntKind.wrap .i64 (x27.2.1 - 1))) 5)).add 1) fun x34 =>
        aggSt (at0 b2) (.agg #[.int .i64 x31, .int .i64 x34, .int .i64 0]) 3 (lds c34 (at0 b2) fun x35 => K (x35, 0, ()))))) (pickV (pickP (decide (kind = 62 ∨ kind = 64)) (sortsW C big) i (times count))) W := by
    intro W eW
    have SW := S10.ext eW
    cases hp : pickP (decide (kind = 62 ∨ kind = 64)) (sortsW C big) i (times count) with
    | none =>
      rw [hp] at hK
      exact sif_true (SW.aggSt 3 rfl rfl rfl rfl fun w12 S12 _ => S12.lds 3 (spT (0, 0, 0)) rfl (hK w12 S12.upd))
    | some ft =>
      obtain ⟨f, t⟩ := ft
      rw [hp] at hK
      have hb : f ≤ i ∧ i < t ∧ t ≤ (sortsW C big).length := by
        unfold pickP at hp
        split at hp
        · exact aroundP_le hp
        · exact innerP_le hp
      obtain ⟨c, hc⟩ : ∃ c, C[f]? = some c := ⟨_, List.getElem?_eq_getElem (by omega)⟩
      obtain ⟨d, hd⟩ : ∃ d, C[t - 1]? = some d := ⟨_, List.getElem?_eq_getElem (by omega)⟩
      dsimp only at hK
      rw [hc, hd] at hK
      simp only [Option.map_some, Option.getD_some] at hK
      have ew : IntKind.wrap .i64 ((t : Int) - 1) = ((t - 1 : Nat) : Int) := by rw [wrap64 (by omega) (by omega)]; omega
      refine sif_false (SW.drew fun w12 S12 e12 _ => ?_)
      have hC12 := hC9.ext (e10.trans (eW.trans e12))
      dsimp only [pickV]
      rw [ew]
      refine S12.ld 2 rfl (x := s) rfl (ix_celF0 (k := .int .i64) hC12 hc (y := (c.from_ : Int)) rfl fun q1 => S12.ld 2 rfl (x := s) rfl (ix_celF (k := .int .i64) hC12 hd (y := (d.to_ : Int)) rfl fun q2 => ?_))
      exact S12.aggSt 3 rfl rfl rfl rfl fun w13 S13 _ => S13.lds 3 (spT (c.from_, d.to_, 0)) rfl (hK w13 S13.upd)
  have hil : i < (sortsW C big).length := by omega
  have hll : (sortsW C big).length < 2 ^ 60 := by omega
  by_cases hk : kind = 62 ∨ kind = 64
  · rw [if_pos hk]
    have fin' := fin
    rw [decide_eq_true hk] at fin'
    exact func_m (a := R) (by kernel_rfl) (around_call (hf.ext e10) rfl hil hll tp tl fin')
  · rw [if_neg hk]
    have fin' := fin
    rw [decide_eq_false hk] at fin'
    exact func_m (a := R) (by kernel_rfl) (inner_call (hf.ext e10) rfl hil hll tp tl fin')
end
end Go.Proofs.YtabcpghhfeplaaaGreat
set_option linter.unusedSimpArgs false
set_option linter.unusedVariables false
set_option maxRecDepth 100000
namespace Go.Proofs.YtabcpghhfeplaaaGreat
open Go Go.Vx Cdc Trx Gly Clu Lns Obx
section
variable {w w' : World} {S : Nat → Prop} {p : Nat} {e : Enc} {lim na : Nat} {O : Nat → Prop} {M : Parts}
theorem pairL_cons (q : Int) (i : Nat) (c : Cel) (r : List Cel) (j : Nat) (o : Option Nat) (s : Nat) : pairL q i (c :: r) j o s = if (c.is q && s % 2 == 0) = false then pairL q i r (j + 1) o (if c.is 92 then s + 1 else 0) else
    match o with
    | none => pairL q i r (j + 1) (some j) (if c.is 92 then s + 1 else 0)
    | some k => if i ≤ j then some (k, j) else pairL q i r (j + 1) none (if c.is 92 then s + 1 else 0) := by
  cases o <;> rfl
theorem pairL_le {q : Int} {i : Nat} : ∀ {C : List Cel} {j : Nat} {o : Option Nat} {s x y : Nat}, (∀ k, o = some k → k < j) → pairL q i C j o s = some (x, y) → x < y ∧ y < j + C.length ∧ i ≤ y
  | [], _, _, _, _, _, _, h => by simp [pairL] at h
  | c :: r, j, o, s, x, y, ho, h => by
    rw [pairL_cons] at h
    rw [List.length_cons]
    split at h
    · have := pairL_le (C := r) (j := j + 1) (fun k hk => by have := ho k hk; omega) h; omega
    · cases o with
      | none => have := pairL_le (C := r) (j := j + 1) (fun k hk => by cases hk; omega) h; omega
      | some k =>
        simp only at h
        split at h
        · cases h; have := ho _ rfl; omega
        · have := pairL_le (C := r) (j := j + 1) (fun k hk => by cases hk) h; omega
theorem pair_call {C : List Cel} {s : Sl} {i : Nat} {iv q : Int} (hs : CelIn w s C) (hl : C.length < 2 ^ 60) (hi : C.length ≠ 0 → iv = (i : Int)) {K : Int × Int × Bool × Unit → World → Prop} (hK : ∀ w', Ext w w' → K (pickV (pairL q i C 0 none 0)) w') :
    callT Tryz.prog 55 #[.slice s.a s.len s.cap, .int .i64 iv, .int .i64 q] (.tup [(.one (.int .i64)), (.one (.int .i64)), (.one .bool)]) K w := by
  refine F55_calls ?_
  unfold F55
  have hlen := CelIn.lenC hs
  refine join_r (fun _ W => Ext w W ∧ pairL q i C 0 none 0 = none) ?_ (fun _ W h => by have := hK W h.1; rwa [h.2] at this)
  refine sloop_r (fun x W => ∃ (j : Nat) (o : Option Nat) (sl : Nat), j ≤ C.length ∧ sl ≤ j ∧ (∀ k, o = some k → k < j) ∧ x = (oI o, (sl : Int), (j : Int), ()) ∧ Ext w W ∧ pairL q i C 0 none 0 = pairL q i (C.drop j) j o sl) (fun x _ => ((C.length : Int) - x.2.2.1).toNat)
    ⟨0, none, 0, Nat.zero_le _, Nat.le_refl _, (fun _ h => by cases h), rfl, Ext.refl w, rfl⟩ ?_
  rintro _ W ⟨j, o, sl, hj, hsl, ho, rfl, eW, heq⟩
  dsimp only
  refine sif_r (fun hc => ?_) (fun hc => ?_)
  · simp only [decide_eq_true_eq] at hc
    have hjl : j < C.length := by omega
    obtain ⟨c, hc'⟩ : ∃ c, C[j]? = some c := ⟨_, List.getElem?_eq_getElem hjl⟩
    have hd : C.drop j = c :: C.drop (j + 1) := by
      rw [List.drop_eq_getElem_cons hjl]
      rw [List.getElem?_eq_getElem hjl] at hc'
      rw [Option.some.inj hc']
    rw [hd, pairL_cons] at heq
    refine join_r (fun x W' => ∃ (o' : Option Nat) (sl' : Nat), sl' ≤ j + 1 ∧ (∀ k, o' = some k → k < j + 1) ∧ x = (oI o', (sl' : Int), ()) ∧ Ext w W' ∧ pairL q i C 0 none 0 = pairL q i (C.drop (j + 1)) (j + 1) o' sl') ?_ ?_
    · refine ix_cel (hs.ext eW) hc' fun qq => (St.start W).newO fun b w2 S2 e2 => S2.aggSt 0 rfl rfl rfl rfl fun w3 S3 u3 => ?_
      refine join_r (fun x W' => x = (c.is q && sl % 2 == 0, ()) ∧ St (fun _ => False) W W' [(b, .cells (Cells.vals c72 (celT c)).toArray 72 (0, 0))]) ?_ ?_
      · refine S3.lds 0 (celT c) rfl (is_call fun w4 e4 => sif_r (fun h => chk_r (by decide) ⟨tupb ?_, S3.ext e4⟩) (fun h => ⟨tupb ?_, S3.ext e4⟩))
        · have h : c.is q = true := h
          rw [Int.tmod_eq_emod_of_nonneg (by omega), h, Bool.true_and, beq_iff_eq, beq_iff_eq]; omega
        · have h : c.is q = false := h
          rw [h, Bool.false_and]
      rintro _ w4 ⟨rfl, S4⟩
      refine join_r (fun x W' => x = (((if c.is 92 then sl + 1 else 0 : Nat) : Int), ()) ∧ Ext w W') ?_ ?_
      · refine S4.lds 0 (celT c) rfl (is_call fun w5 e5 => sif_r (fun h => ⟨?_, eW.trans (S4.ext e5).upd⟩) (fun h => ⟨?_, eW.trans (S4.ext e5).upd⟩))
        · simp only [Bool.not_eq_true'] at h
          rw [if_neg (by rw [h]; decide)]; rfl
        · simp only [Bool.not_eq_false'] at h
          rw [if_pos h, wrap64 (by omega) (by omega)]; rfl
      rintro _ w5 ⟨rfl, e5⟩
      have hsl' : (if c.is 92 then sl + 1 else 0) ≤ j + 1 := by split <;> omega
      generalize (if c.is 92 then sl + 1 else 0) = sl' at *
      refine sif_r (fun hm => ?_) (fun hm => ?_)
      · simp only [Bool.not_eq_true'] at hm
        rw [if_pos hm] at heq
        exact ⟨o, sl', hsl', fun k hk => by have := ho k hk; omega, rfl, e5, heq⟩
      simp only [Bool.not_eq_false'] at hm
      rw [if_neg (by rw [hm]; decide)] at heq
      cases o with
      | none =>
        refine sif_true ?_
        exact ⟨some j, sl', hsl', (fun k hk => by cases hk; omega), rfl, e5, heq⟩
      | some k =>
        refine sif_r (fun h => absurd (of_decide_eq_true h) (Int.not_lt.2 (Int.natCast_nonneg k))) (fun _ => ?_)
        have hiv := hi (by omega)
        refine sif_r (fun hge => ?_) (fun hge => ?_)
        · simp only [decide_eq_true_eq, ge_iff_le] at hge
          simp only [if_pos (show i ≤ j by omega)] at heq
          have := hK w5 e5
          rw [heq] at this
          exact this
        · simp only [decide_eq_false_iff_not, ge_iff_le] at hge
          simp only [if_neg (show ¬ i ≤ j by omega)] at heq
          exact ⟨none, sl', hsl', (fun k hk => by cases hk), rfl, e5, heq⟩
    · rintro _ W' ⟨o', sl', h1, h2, rfl, e', heq'⟩
      have ew : IntKind.wrap .i64 ((j : Int) + 1) = ((j + 1 : Nat) : Int) := by rw [wrap64 (by omega) (by omega)]; omega
      rw [ew]
      exact ⟨⟨j + 1, o', sl', by omega, h1, h2, rfl, e', heq'⟩, by omega⟩
  · simp only [decide_eq_false_iff_not] at hc
    have : C.drop j = [] := List.drop_eq_nil_of_le (by omega)
    rw [this] at heq
    exact ⟨eW, heq⟩
theorem blanksUp_ge (C : List Cel) (j : Nat) : j ≤ blanksUp C j := by unfold blanksUp; omega
theorem blanksUp_le {C : List Cel} {j : Nat} (h : j ≤ C.length) : blanksUp C j ≤ C.length := by
  unfold blanksUp
  have := (List.takeWhile_sublist (fun c : Cel => c.kind == 0) (l := C.drop j)).length_le
  rw [List.length_drop] at this; omega
theorem blanksUp_step {C : List Cel} {j : Nat} {c : Cel} (h : C[j]? = some c) : blanksUp C j = if c.kind = 0 then blanksUp C (j + 1) else j := by
  have hj := (List.getElem?_eq_some_iff.1 h).1
  have hd : C.drop j = c :: C.drop (j + 1) := by
    rw [List.drop_eq_getElem_cons hj]
    rw [List.getElem?_eq_getElem hj] at h
    rw [Option.some.inj h]
  unfold blanksUp
  rw [hd, List.takeWhile_cons]
  by_cases hk : c.kind = 0
  · have : (c.kind == 0) = true := by rw [beq_iff_eq]; exact hk
    rw [this, if_pos rfl, if_pos hk, List.length_cons]; omega
  · have : (c.kind == 0) = false := by rw [beq_eq_false_iff_ne]; exact hk
    rw [this, if_neg (by decide), if_neg hk]; rfl
theorem blanksUp_end {C : List Cel} {j : Nat} (h : C.length ≤ j) : blanksUp C j = j := by
  unfold blanksUp
  rw [List.drop_eq_nil_of_le h]; rfl
theorem blanksDown_le (C : List Cel) : ∀ j, blanksDown C j ≤ j
  | 0 => Nat.le_refl _
  | j + 1 => by rw [blanksDown]; have := blanksDown_le C j; split <;> omega
def blankAt (C : List Cel) (j : Int) : Bool := decide (0 ≤ j) && (C[j.toNat]?.map (·.kind)) == some 0
theorem blank_x {C : List Cel} {s : Sl} {b : Nat} {j : Int} (hC : CelIn w s C) (hb : w.heap[b]? = some (.cells #[.slice s.a s.len s.cap] 68 (0, 0))) {K : Bool → World → Prop} (hK : K (blankAt C j) w) :
    callX Tryz.prog (do let d ← Deferred.ofValue (.func (.func 56) #[] #[.pointer (some (at0 b))]) #[.int .i64 j]; invoke d.target d.args : Sem Next) (.one (.one .bool)) K w := by
  refine func_x (caps := #[.pointer (some (at0 b))]) (by kernel_rfl) ?_
  refine F56_calls ?_
  unfold F56
  have hlen := CelIn.lenC hC
  unfold blankAt at hK
  refine sif_r (fun h => ?_) (fun h => ?_)
  · simp only [decide_eq_true_eq, ge_iff_le] at h
    rw [decide_eq_true h, Bool.true_and] at hK
    obtain ⟨n, rfl⟩ : ∃ n : Nat, j = (n : Int) := ⟨j.toNat, by omega⟩
    rw [Int.toNat_natCast] at hK
    refine ld_r hb (x := s) rfl (sif_r (fun h2 => ?_) (fun h2 => ?_))
    · simp only [decide_eq_true_eq] at h2
      obtain ⟨c, hc⟩ : ∃ c, C[n]? = some c := ⟨_, List.getElem?_eq_getElem (by omega)⟩
      rw [hc] at hK
      refine ld_r hb (x := s) rfl (ix_celF (k := .int .i64) hC hc (y := (c.kind : Int)) rfl fun q => ?_)
      have e : (((c.kind : Nat) : Int) == 0) = (Option.map (fun c : Cel => c.kind) (some c) == some 0) := by
        rw [Bool.eq_iff_iff, beq_iff_eq, beq_iff_eq, Option.map_some, Option.some.injEq]; omega
      rw [e]; exact hK
    · simp only [decide_eq_false_iff_not] at h2
      rw [List.getElem?_eq_none (by omega)] at hK
      exact hK
  · simp only [decide_eq_false_iff_not, ge_iff_le] at h
    rw [decide_eq_false h, Bool.false_and] at hK
    exact hK
theorem quotes_call {at_ kind count arg : Int} (h : Txt w p e lim na O M) (hcn : count < 2 ^ 63) {K : Cells.T c34 × Int × Unit → World → Prop} (hK : ∀ w', Ext w w' → K (spT (quotesP (atoms (aOf e M)) at_ kind count arg).1, (quotesP (atoms (aOf e M)) at_ kind count arg).2, ()) w') :
    callT Tryz.prog 31 #[.pointer (some (at0 p)), .int .i64 at_, .agg (Cells.vals c39 (mvT kind count arg)).toArray] (.tup [(.agg c34), (.one (.int .i64))]) K w := by
  refine F31_calls (a2 := mvT kind count arg) ?_
  unfold F31
  have few := h.few; have lims := h.lims
  have hal := hal e M
  have here := fun (w0 : World) (h0 : Txt w0 p e lim na O M) (a : Nat) (ha : a ≤ (atoms (aOf e M)).length) => @here_call w0 p e lim na O M a h0 ha
  generalize hA : atoms (aOf e M) = A at *
  unfold quotesP at hK
  rw [hal] at hK
  let Mv : Obj := .cells (Cells.vals c39 (mvT kind count arg)).toArray 39 (0, 0)
  let Z : Obj := .cells #[.int .i64 0, .int .i64 0, .int .i64 0] 34 (0, 0)
  refine (St.start w).newO fun b1 w1 S1 e1 => S1.newO fun b2 w2 S2 e2 => ?_
  have S2 : St (fun _ => False) w w2 [(b2, Z), (b1, Mv)] := S2
  refine S2.lds 1 (mvT kind count arg) rfl (checked_call (h.ext S2.upd) fun w3 e3 => ?_)
  have S3 := S2.ext e3
  generalize hck : checked (aOf e M).length at_ kind count 65 66 = ck at *
  refine join_r (fun x W => x = (decide (ck = 1 ∨ (arg ≠ 34 ∧ arg ≠ 39 ∧ arg ≠ 96)), ()) ∧ w3 = W) ?_ ?_
  · refine sif_r (fun h1 => ⟨tupb ?_, rfl⟩) (fun h1 => S3.ld 1 rfl (x := arg) rfl (sif_r (fun h2 => S3.ld 1 rfl (x := arg) rfl (sif_r (fun h3 => S3.ld 1 rfl (x := arg) rfl ⟨tupb ?_, rfl⟩) (fun h3 => ⟨tupb ?_, rfl⟩))) (fun h2 => ⟨tupb ?_, rfl⟩)))
    all_goals simp only [beq_iff_eq, beq_eq_false_iff_ne, bne_iff_ne, bne_eq_false_iff_eq, ne_eq, decide_eq_true_eq, true_iff, Bool.false_eq_true, false_iff] at *
    all_goals omega
  rintro _ _ ⟨rfl, rfl⟩
  refine sif_r (fun h1 => ?_) (fun h1 => ?_)
  · simp only [decide_eq_true_eq] at h1
    rw [if_pos h1] at hK
    exact S3.aggSt 0 rfl rfl rfl rfl fun w4 S4 _ => S4.lds 0 (spT (0, 0, 0)) rfl (hK w4 S4.upd)
  simp only [decide_eq_false_iff_not] at h1
  rw [if_neg h1] at hK
  refine sif_r (fun h0 => ?_) (fun h0 => ?_)
  · simp only [bne_iff_ne, ne_eq] at h0
    rw [if_pos h0] at hK
    exact S3.aggSt 0 rfl rfl rfl rfl fun w4 S4 _ => S4.lds 0 (spT (0, 0, 0)) rfl (hK w4 S4.upd)
  simp only [bne_eq_false_iff_eq] at h0
  rw [if_neg (by rw [h0]; decide)] at hK
  have hat : 0 ≤ at_ ∧ at_ ≤ ((aOf e M).length : Int) := by
    unfold checked at hck
    split at hck
    · omega
    · split at hck <;> omega
  obtain ⟨a, rfl⟩ : ∃ a : Nat, at_ = (a : Int) := ⟨at_.toNat, by omega⟩
  refine here w3 (h.ext S3.upd) a (by omega) fun s w4 hC e4 => ?_
  have S4 := S3.ext e4
  dsimp only at hK ⊢
  have hCle : (lineC A (lineP A (a : Int))).length ≤ A.length := by
    have := cels_le ((A.drop (lineP A (a : Int)).from_).take ((lineP A (a : Int)).to_ - (lineP A (a : Int)).from_)) (lineP A (a : Int)).from_
    rw [List.length_take, List.length_drop] at this
    show (cels _ _).length ≤ _
    omega
  generalize lineC A (lineP A (a : Int)) = C at *
  refine S4.newO fun b7 w5 S5 e5 => S5.stC 0 rfl Nat.one_pos fun w6 S6 u6 => ?_
  let B7 : Obj := .cells #[.slice s.a s.len s.cap] 68 (0, 0)
  have S6 : St (fun _ => False) w w6 [(b7, B7), (b2, Z), (b1, Mv)] := S6
  have hC6 : CelIn w6 s C := SlIn.box (hC.ext e5) (S5.at_ 0 rfl) (by decide) u6
  have hlen := CelIn.lenC hC6
  refine S6.ld 0 rfl (x := s) rfl (S6.ld 2 rfl (x := arg) rfl ?_)
  refine pair_call (i := hereI C (a : Int)) hC6 (by omega) (fun hz => by unfold hereV; rw [if_neg hz]) fun w7 e7 => ?_
  have S7 := S6.ext e7
  have hC7 := hC6.ext e7
  cases hp : pairL arg (hereI C (a : Int)) C 0 none 0 with
  | none =>
    rw [hp] at hK
    exact sif_true (S7.aggSt 1 rfl rfl rfl rfl fun w8 S8 _ => S8.lds 1 (spT (0, 0, 0)) rfl (hK w8 S8.upd))
  | some ot =>
    obtain ⟨one, two⟩ := ot
    rw [hp] at hK
    obtain ⟨hot, htl, _⟩ := pairL_le (fun _ h => by cases h) hp
    rw [Nat.zero_add] at htl
    obtain ⟨c1, hc1⟩ : ∃ c, C[one]? = some c := ⟨_, List.getElem?_eq_getElem (by omega)⟩
    obtain ⟨c2, hc2⟩ : ∃ c, C[two]? = some c := ⟨_, List.getElem?_eq_getElem (by omega)⟩
    refine sif_false ?_
    dsimp only [pickV] at hK ⊢
    refine join_r (fun x W => x = (decide (kind = 65 ∧ count < 2), ()) ∧ w7 = W) ?_ ?_
    · refine S7.ld 2 rfl (x := kind) rfl (sif_r (fun h => S7.ld 2 rfl (x := count) rfl ⟨tupb ?_, rfl⟩) (fun h => ⟨tupb ?_, rfl⟩))
      all_goals simp only [beq_iff_eq, beq_eq_false_iff_ne, ne_eq, decide_eq_true_eq, Bool.false_eq_true, false_iff] at *
      all_goals omega
    rintro _ _ ⟨rfl, rfl⟩
    refine sif_r (fun h2 => ?_) (fun h2 => ?_)
    · simp only [decide_eq_true_eq] at h2
      rw [if_pos h2, hc1, hc2] at hK
      simp only [Option.map_some, Option.getD_some] at hK
      refine S7.drew fun w8 S8 e8 _ => S8.ld 0 rfl (x := s) rfl (ix_celF (k := .int .i64) (hC7.ext e8) hc1 (y := (c1.to_ : Int)) rfl fun q1 => S8.ld 0 rfl (x := s) rfl (ix_celF0 (k := .int .i64) (hC7.ext e8) hc2 (y := (c2.from_ : Int)) rfl fun q2 => ?_))
      exact S8.aggSt 1 rfl rfl rfl rfl fun w9 S9 _ => S9.lds 1 (spT (c1.to_, c2.from_, 0)) rfl (hK w9 S9.upd)
    simp only [decide_eq_false_iff_not] at h2
    rw [if_neg h2] at hK
    have ew2 : IntKind.wrap .i64 ((two : Int) + 1) = ((two + 1 : Nat) : Int) := by rw [wrap64 (by omega) (by omega)]; omega
    rw [ew2]
    have hbl := blanksUp_le (C := C) (j := two + 1) (by omega)
    have hbg := blanksUp_ge C (two + 1)
    have hdl := blanksDown_le C one
    obtain ⟨t, ht⟩ : ∃ t, t = if kind = 66 then blanksUp C (two + 1) else two + 1 := ⟨_, rfl⟩
    obtain ⟨f, hf⟩ : ∃ f, f = if kind = 66 ∧ t = two + 1 then blanksDown C one else one := ⟨_, rfl⟩
    rw [← ht, ← hf] at hK
    have htb : two + 1 ≤ t ∧ t ≤ C.length := by rw [ht]; split <;> omega
    have hfb : f ≤ one := by rw [hf]; split <;> omega
    refine join_r (fun x W => x = ((f : Int), (t : Int), ()) ∧ w7 = W) ?_ ?_
    · refine S7.ld 2 rfl (x := kind) rfl (sif_r (fun hk => ?_) (fun hk => ?_))
      · simp only [beq_iff_eq] at hk
        rw [if_pos hk] at ht
        have hf' : f = if t = two + 1 then blanksDown C one else one := by rw [hf]; by_cases ht2 : t = two + 1 <;> simp [hk, ht2]
        refine join_r (fun x W => x = ((t : Int), ()) ∧ w7 = W) ?_ ?_
        · refine sloop_r (fun x W => ∃ j : Nat, j ≤ C.length ∧ x = ((j : Int), ()) ∧ w7 = W ∧ blanksUp C j = blanksUp C (two + 1)) (fun x _ => ((C.length : Int) - x.1).toNat) ⟨two + 1, by omega, rfl, rfl, rfl⟩ ?_
          rintro _ _ ⟨j, hj, rfl, rfl, hbj⟩
          refine blank_x hC7 (S7.at_ 0 rfl) ?_
          refine sif_r (fun hb => ?_) (fun hb => ?_)
          · unfold blankAt at hb
            simp only [Bool.and_eq_true, Int.toNat_natCast, beq_iff_eq] at hb
            obtain ⟨c, hc, hck⟩ := Option.map_eq_some_iff.1 hb.2
            have hjl := (List.getElem?_eq_some_iff.1 hc).1
            have ew : IntKind.wrap .i64 ((j : Int) + 1) = ((j + 1 : Nat) : Int) := by rw [wrap64 (by omega) (by omega)]; omega
            dsimp only
            rw [ew]
            refine ⟨⟨j + 1, by omega, rfl, rfl, ?_⟩, by omega⟩
            rw [← hbj, blanksUp_step hc, if_pos hck]
          · unfold blankAt at hb
            refine ⟨?_, rfl⟩
            rw [ht, ← hbj]
            by_cases hjl : j < C.length
            · obtain ⟨c, hc⟩ : ∃ c, C[j]? = some c := ⟨_, List.getElem?_eq_getElem hjl⟩
              rw [blanksUp_step hc, if_neg]
              intro hck
              rw [Int.toNat_natCast, hc, decide_eq_true (by omega)] at hb
              simp [hck] at hb
            · rw [blanksUp_end (by omega)]
        rintro _ _ ⟨rfl, rfl⟩
        refine sloop_r (fun x W => ∃ j : Nat, j ≤ one ∧ x = ((j : Int), ()) ∧ w7 = W ∧ (if t = two + 1 then blanksDown C j else j) = f) (fun x _ => x.1.toNat) ⟨one, Nat.le_refl _, rfl, rfl, hf'.symm⟩ ?_
        rintro _ _ ⟨j, hj, rfl, rfl, hfj⟩
        refine join_r (fun x W => x = (decide (t = two + 1) && blankAt C ((j : Int) - 1), ()) ∧ w7 = W) ?_ ?_
        · refine sif_r (fun h3 => ?_) (fun h3 => ?_)
          · simp only [beq_iff_eq] at h3
            have ew : IntKind.wrap .i64 ((j : Int) - 1) = (j : Int) - 1 := wrap64 (by omega) (by omega)
            dsimp only
            rw [ew]
            refine blank_x hC7 (S7.at_ 0 rfl) ⟨?_, rfl⟩
            rw [decide_eq_true (by omega), Bool.true_and]
          · simp only [beq_eq_false_iff_ne, ne_eq] at h3
            refine ⟨?_, rfl⟩
            rw [decide_eq_false (by omega), Bool.false_and]
        rintro _ _ ⟨rfl, rfl⟩
        refine sif_r (fun h3 => ?_) (fun h3 => ?_)
        · simp only [Bool.and_eq_true, decide_eq_true_eq] at h3
          obtain ⟨h31, h32⟩ := h3
          unfold blankAt at h32
          simp only [Bool.and_eq_true, decide_eq_true_eq, beq_iff_eq] at h32
          obtain ⟨m, rfl⟩ : ∃ m, j = m + 1 := ⟨j - 1, by omega⟩
          have em : (((m + 1 : Nat) : Int) - 1).toNat = m := by omega
          rw [em] at h32
          have ew : IntKind.wrap .i64 (((m + 1 : Nat) : Int) - 1) = (m : Int) := by rw [wrap64 (by omega) (by omega)]; omega
          dsimp only
          rw [ew]
          refine ⟨⟨m, by omega, rfl, rfl, ?_⟩, by omega⟩
          rw [← hfj, if_pos h31, if_pos h31, blanksDown, if_pos h32.2]
        · refine ⟨?_, rfl⟩
          have : f = j := by
            rw [← hfj]
            by_cases ht2 : t = two + 1
            · rw [if_pos ht2]
              rw [decide_eq_true ht2, Bool.true_and] at h3
              cases j with
              | zero => rfl
              | succ m =>
                have em : (((m + 1 : Nat) : Int) - 1).toNat = m := by omega
                unfold blankAt at h3
                rw [em, decide_eq_true (by omega), Bool.true_and, beq_eq_false_iff_ne] at h3
                rw [blanksDown, if_neg h3]
            · rw [if_neg ht2]
          rw [this]
      · simp only [beq_eq_false_iff_ne, ne_eq] at hk
        rw [if_neg hk] at ht
        rw [if_neg (fun h => hk h.1)] at hf
        rw [ht, hf]
        exact ⟨rfl, rfl⟩
    rintro _ _ ⟨rfl, rfl⟩
    obtain ⟨cf, hcf⟩ : ∃ c, C[f]? = some c := ⟨_, List.getElem?_eq_getElem (by omega)⟩
    obtain ⟨ct, hct⟩ : ∃ c, C[t - 1]? = some c := ⟨_, List.getElem?_eq_getElem (by omega)⟩
    rw [hcf, hct] at hK
    simp only [Option.map_some, Option.getD_some] at hK
    have ewt : IntKind.wrap .i64 ((t : Int) - 1) = ((t - 1 : Nat) : Int) := by rw [wrap64 (by omega) (by omega)]; omega
    dsimp only
    rw [ewt]
    refine S7.drew fun w8 S8 e8 _ => S8.ld 0 rfl (x := s) rfl (ix_celF0 (k := .int .i64) (hC7.ext e8) hcf (y := (cf.from_ : Int)) rfl fun q1 => S8.ld 0 rfl (x := s) rfl (ix_celF (k := .int .i64) (hC7.ext e8) hct (y := (ct.to_ : Int)) rfl fun q2 => ?_))
    exact S8.aggSt 1 rfl rfl rfl rfl fun w9 S9 _ => S9.lds 1 (spT (cf.from_, ct.to_, 0)) rfl (hK w9 S9.upd)
end
end Go.Proofs.YtabcpghhfeplaaaGreat
set_option linter.unusedSimpArgs false
set_option linter.unusedVariables false
set_option maxRecDepth 100000
namespace Go.Proofs.YtabcpghhfeplaaaGreat
open Go Go.Vx Cdc Trx Gly Clu Lns Obx
section
variable {w w' : World} {S : Nat → Prop} {p : Nat} {e : Enc} {lim na : Nat} {O : Nat → Prop} {M : Parts}
theorem yield_xs {l : Nat} {vs : List Value} {R : Bool → World → Prop} (h : yieldX Tryz.prog l vs R w) :
    callX Tryz.prog (do let d ← Deferred.ofValue (.func (.yield l) #[] #[]) vs.toArray; invoke d.target d.args : Sem Next) (.one (.one .bool)) R w := by
  obtain ⟨f, tmps, assign, body, h1, h2⟩ := h
  refine .inr (.inr ⟨l, f, tmps, assign, body, ?_, h2⟩)
  simp only [Deferred.ofValue, pure_bind, invoke, Array.empty_append]
  exact h1
theorem not_tail {A : List Int} {i : Nat} {l : Ln} (h : lnAt A i = some l) (hi : i < lnN A) (h0 : 0 < i) : l ≠ ⟨l.from_, l.from_, l.from_, 0⟩ := by
  intro he
  have ok := ln_ok h
  obtain ⟨hb, hf⟩ := lnAt_some h
  cases hx : sk A (i + 1) with
  | some x =>
    obtain ⟨e1, e2, _⟩ := ok.brk x hx
    have e3 := congrArg Ln.next he
    simp only at e3
    have := ok.ft
    omega
  | none =>
    obtain ⟨e1, e2, e3⟩ := ok.tail hx
    have e4 := congrArg Ln.to_ he
    simp only at e4
    have hbi : i = brs A := by
      rcases Nat.lt_or_ge i (brs A) with h1 | h1
      · obtain ⟨m, hm⟩ := sk_ok (A := A) (k := i + 1) (by omega)
        rw [hm] at hx; cases hx
      · omega
    have hne : ended A = false := by
      unfold lnN at hi
      cases hc : ended A with
      | false => rfl
      | true => rw [hc] at hi; simp at hi; omega
    unfold ended at hne
    rw [← hbi, hf, ← e4, e2] at hne
    have hl : A.length = 0 := by
      simp at hne; exact congrArg List.length hne
    have hb0 : brs A = 0 := by
      have := List.length_eq_zero_iff.1 hl
      rw [this]; rfl
    omega
theorem tail_at {A : List Int} : lnAt A (lnN A) = none ∨ ∃ l, lnAt A (lnN A) = some l ∧ 0 < lnN A ∧ l = ⟨l.from_, l.from_, l.from_, 0⟩ := by
  cases hc : ended A with
  | false =>
    left
    have : lnN A = brs A + 1 := by unfold lnN; rw [hc]; simp
    unfold lnAt
    rw [this, sk_none A (brs A + 1) (by omega)]
  | true =>
    right
    have hn : lnN A = brs A := by unfold lnN; rw [hc]; simp
    unfold ended at hc
    simp only [Bool.and_eq_true, decide_eq_true_eq, beq_iff_eq] at hc
    have hs : sk A (brs A + 1) = none := sk_none A (brs A + 1) (by omega)
    refine ⟨⟨A.length, A.length, A.length, 0⟩, ?_, ?_, rfl⟩
    · unfold lnAt
      rw [hn, hc.2]
      simp only [hs]
    · rw [hn]
      rcases Nat.eq_zero_or_pos (brs A) with hz | hz
      · rw [hz, sk_zero] at hc
        have := Option.some.inj hc.2
        omega
      · exact hz
theorem all_range {b1 : Nat} {vals : Int × Cells.T c100 × Unit → List Value} {body : Nat → (LoopState → Option Code → Loop) → (Bool → World → Prop) → Int × Cells.T c100 × Unit → World → Prop} {aft' : Nat → Option Code → World → Prop}
    (hv : ∀ s, vals s = [.int .i64 s.1, .agg (Cells.vals c100 s.2.1).toArray]) (Inv : Nat → World → Prop)
    (hT : ∀ j W, Inv j W → Txt W p e lim na O M ∧ W.heap[b1]? = some (.cells #[.pointer (some (at0 p))] 25 (0, 0)) ∧ W.heap[w.heap.size]? = some (.deferred (some [])))
    (hx : ∀ j W W', Inv j W → Ext W W' → Inv j W')
    (h0 : ∀ W, Ext w W → W.heap[w.heap.size]? = some (.deferred (some [])) → w.heap.size + 2 ≤ W.heap.size → Inv 0 W)
    (hb : ∀ (rc : LoopState → Option Code → Loop) (j : Nat) l R W, j < lnN (atoms (aOf e M)) → lnAt (atoms (aOf e M)) j = some l → Inv j W → W.heap[w.heap.size + 1]? = some (.loop (rc .ready none)) →
      (∀ W', Inv (j + 1) W' → W'.heap[w.heap.size + 1]? = some (.loop (rc .ready none)) → R true W') → body (w.heap.size + 1) rc R ((j : Int), lnT l, ()) W)
    (he : ∀ W W', Inv (lnN (atoms (aOf e M))) W → W'.heap[w.heap.size]? = some (.deferred (some [])) → Upd (fun k => k = w.heap.size + 1) W W' → (∀ o, W.heap[w.heap.size + 1]? = some o → ∃ lo, o = .loop lo) → aft' w.heap.size none W') :
    rangeE Tryz.prog vals (.func (.func 82) #[] #[.pointer (some (at0 b1))]) body aft' w := by
  intro rc hyield
  have e0 : Ext w (w.alloc (.deferred (some []))) := Ext.alloc w _
  generalize hW0 : w.alloc (.deferred (some [])) = W0 at *
  have d0 : W0.heap[w.heap.size]? = some (.deferred (some [])) := by rw [← hW0]; exact heap_alloc w _
  have z0 : W0.heap.size = w.heap.size + 1 := by rw [← hW0]; simp
  have e1 : Ext W0 (W0.alloc (.loop (rc .ready none))) := Ext.alloc W0 _
  have l1 : (W0.alloc (.loop (rc .ready none))).heap[w.heap.size + 1]? = some (.loop (rc .ready none)) := by rw [← z0]; exact heap_alloc W0 _
  have z1 : (W0.alloc (.loop (rc .ready none))).heap.size = w.heap.size + 2 := by simp [z0]
  generalize hW1 : W0.alloc (.loop (rc .ready none)) = W1 at *
  refine ⟨82, #[.func (.yield (w.heap.size + 1)) #[] #[], .pointer (some (at0 b1))], ?_, ?_⟩
  · simp only [Deferred.ofValue, pure_bind, invoke]
    exact run_callFunc (P := Tryz.prog) (f := 82) (by kernel_rfl) W1
  have e01 := e0.trans e1
  have i1 := h0 W1 e01 (e1.ext_get d0) (by omega)
  have fin : ∀ W, Inv (lnN (atoms (aOf e M))) W → W.heap[w.heap.size + 1]? = some (.loop (rc .ready none)) →
      ∃ st pe, W.heap[w.heap.size + 1]? = some (.loop (rc st pe)) ∧ st ≠ .busy ∧ aft' w.heap.size pe (W.putObj (w.heap.size + 1) (.loop (rc .exhausted pe))) := by
    intro W hI hl
    obtain ⟨u, _⟩ := upd_putObj (o' := .loop (rc .exhausted none)) hl
    exact ⟨.ready, none, hl, by decide, he W _ hI (u.get (hT _ _ hI).2.2 (by omega)) u fun o ho => by rw [hl] at ho; cases ho; exact ⟨_, rfl⟩⟩
  have hT1 := hT _ _ i1
  have few := hT1.1.few; have lims := hT1.1.lims
  have hal := hal e M
  have hbrs : brs (atoms (aOf e M)) ≤ (atoms (aOf e M)).length := by rw [brs_nb]; exact nb_le _ _
  have hnl : lnN (atoms (aOf e M)) ≤ (atoms (aOf e M)).length + 1 := by unfold lnN; split <;> omega
  refine F82_calls ?_
  unfold F82
  refine sloop_r (fun x W => ∃ i : Nat, i ≤ lnN (atoms (aOf e M)) ∧ x = ((i : Int), ()) ∧ Inv i W ∧ W.heap[w.heap.size + 1]? = some (.loop (rc .ready none))) (fun x _ => (((lnN (atoms (aOf e M)) : Nat) : Int) - x.1).toNat) ⟨0, Nat.zero_le _, rfl, i1, l1⟩ ?_
  rintro _ W ⟨i, hi, rfl, hI, hl⟩
  obtain ⟨tx, h1, hd⟩ := hT _ _ hI
  refine ld_r h1 (x := some (at0 p)) rfl (lat_call tx (by omega) fun w2 e2 => ?_)
  rw [lnI_nat]
  cases hla : lnAt (atoms (aOf e M)) i with
  | none =>
    have hin : i = lnN (atoms (aOf e M)) := by
      rcases Nat.lt_or_ge i (lnN (atoms (aOf e M))) with h | h
      · exfalso
        have : i ≤ brs (atoms (aOf e M)) := by unfold lnN at h; split at h <;> omega
        obtain ⟨l, hl⟩ := lnAt_ok this
        rw [hl] at hla; cases hla
      · omega
    refine (St.start w2).newO fun b5 w3 S3 e3 => S3.aggSt 0 rfl rfl rfl rfl fun w4 S4 u4 => ?_
    refine S4.ld 0 rfl (x := (0 : Int)) rfl (S4.ld 0 rfl (x := (0 : Int)) rfl (S4.ld 0 rfl (x := (0 : Int)) rfl (S4.newO fun b9 w5 S5 e5 => S5.aggSt 0 rfl rfl rfl rfl fun w6 S6 u6 => ?_)))
    have e6 : Ext W w6 := e2.trans S6.upd
    refine join_r (fun x W' => x = (true, ()) ∧ w6 = W') (sif_true ⟨rfl, rfl⟩) ?_
    rintro _ _ ⟨rfl, rfl⟩
    subst hin
    exact sif_true (fin w6 (hx _ _ _ hI e6) (e6.ext_get hl))
  | some l =>
    refine (St.start w2).newO fun b5 w3 S3 e3 => S3.aggSt 0 rfl rfl rfl rfl fun w4 S4 u4 => ?_
    refine S4.ld 0 rfl (x := (l.from_ : Int)) rfl (S4.ld 0 rfl (x := (l.from_ : Int)) rfl (S4.ld 0 rfl (x := (l.from_ : Int)) rfl (S4.newO fun b9 w5 S5 e5 => S5.aggSt 0 rfl rfl rfl rfl fun w6 S6 u6 => ?_)))
    have e6 : Ext W w6 := e2.trans S6.upd
    have i6 := hx _ _ _ hI e6
    have l6 := e6.ext_get hl
    have S6' : St (fun _ => False) w2 w6 [(b9, .cells (Cells.vals c100 (lnT ⟨l.from_, l.from_, l.from_, 0⟩)).toArray 100 (0, 0)), (b5, .cells (Cells.vals c100 (lnT l)).toArray 100 (0, 0))] := S6
    refine join_r (fun x W' => (x = (false, ()) ∧ i < lnN (atoms (aOf e M)) ∧ Inv (i + 1) W' ∧ W'.heap[w.heap.size + 1]? = some (.loop (rc .ready none))) ∨ (x = (true, ()) ∧ i = lnN (atoms (aOf e M)) ∧ w6 = W')) ?_ ?_
    · refine sif_false ?_
      have yld : i < lnN (atoms (aOf e M)) → ∀ {J : Bool → World → Prop}, (∀ W', Inv (i + 1) W' → W'.heap[w.heap.size + 1]? = some (.loop (rc .ready none)) → J true W') →
          callX Tryz.prog (do let d ← Deferred.ofValue (.func (.yield (w.heap.size + 1)) #[] #[]) #[.int .i64 (i : Int), .agg (Cells.vals c100 (lnT l)).toArray]; invoke d.target d.args : Sem Next) (.one (.one .bool)) J w6 := by
        intro hlt J hJ
        have := hyield J ((i : Int), lnT l, ()) w6 l6 (hb rc i l J w6 hlt hla i6 l6 hJ)
        rw [hv] at this
        exact yield_xs this
      refine sif_r (fun h => ?_) (fun h => ?_)
      · simp only [decide_eq_true_eq, gt_iff_lt] at h
        refine S6'.lds 1 (lnT l) rfl (S6'.lds 0 (lnT ⟨l.from_, l.from_, l.from_, 0⟩) rfl (lnEql_r ?_))
        by_cases hlt : i < lnN (atoms (aOf e M))
        · rw [decide_eq_false (not_tail hla hlt (by omega))]
          refine sif_false (S6'.lds 1 (lnT l) rfl (yld hlt fun W' i' l' => .inl ⟨rfl, hlt, i', l'⟩))
        · have hin : i = lnN (atoms (aOf e M)) := by omega
          rcases tail_at (A := atoms (aOf e M)) with ht | ⟨l', ht, _, he'⟩
          · rw [hin, ht] at hla; cases hla
          · rw [hin, ht] at hla; cases hla
            rw [decide_eq_true he']
            exact sif_true (.inr ⟨rfl, hin, rfl⟩)
      · simp only [decide_eq_false_iff_not, gt_iff_lt] at h
        have hlt : i < lnN (atoms (aOf e M)) := by
          rcases Nat.lt_or_ge i (lnN (atoms (aOf e M))) with h2 | h2
          · exact h2
          · exfalso
            have hin : i = lnN (atoms (aOf e M)) := by omega
            rcases tail_at (A := atoms (aOf e M)) with ht | ⟨l', ht, h3, _⟩
            · rw [hin, ht] at hla; cases hla
            · omega
        exact S6'.lds 1 (lnT l) rfl (yld hlt fun W' i' l' => .inl ⟨rfl, hlt, i', l'⟩)
    · rintro _ W' (⟨rfl, hlt, i', l'⟩ | ⟨rfl, hin, rfl⟩)
      · have ew : IntKind.wrap .i64 ((i : Int) + 1) = ((i + 1 : Nat) : Int) := by rw [wrap64 (by omega) (by omega)]; omega
        dsimp only
        rw [ew]
        exact sif_false ⟨⟨i + 1, by omega, rfl, i', l'⟩, by omega⟩
      · subst hin
        exact sif_true (fin w6 i6 l6)
end
end Go.Proofs.YtabcpghhfeplaaaGreat
