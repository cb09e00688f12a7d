/- YtolhlldgnfbemaaGreatMSp5: parts of the proof, put together by program. -/
import Derived.Test.YtolhlldgnfbemaaGreatMSp4
set_option linter.unusedVariables false
set_option linter.unusedSimpArgs false
set_option linter.unusedSectionVars false
set_option maxRecDepth 100000
namespace Go.Proofs.YtolhlldgnfbemaaGreat
open Trx Gly Clu Lns Obx
namespace Mot
variable {A : List Int}
theorem pos_of {p : Nat × Nat} {past : Bool} (h1 : On A p) (h3 : past = false → Plc A p) : posP A (offP A p : Int) past = p := by
 have hb := lnN_bounds A
 have hc : clampP A (offP A p : Int) past = offP A p := Stand.clamp ⟨p, h1, rfl, h3⟩
 have hr : rowI A (offP A p : Int) past = p.1 := by
  unfold rowI offP
  rw [ofI_place h1.row]
  cases past with
  | true => rfl
  | false => rw [if_neg (by decide)]; have := (h3 rfl).row; omega
 unfold posP
 rw [hc, hr]
 unfold offP
 rw [col_place h1.row h1.col]
noncomputable def mostR (A : List Int) (i : Nat) (past : Bool) : Nat := if past then (rowC A i).length else (rowC A i).length - 1
theorem pos_most (A : List Int) (x : Int) (past : Bool) : (posP A x past).2 ≤ mostR A (posP A x past).1 past ∧ mostR A (posP A x past).1 past ≤ (rowC A (posP A x past).1).length := by
 obtain ⟨h1, _, h3⟩ := pos_is A x past
 unfold mostR
 cases past with
 | true => exact ⟨h1.col, Nat.le_refl _⟩
 | false => have := (h3 rfl).col; rw [if_neg (by decide)]; omega
theorem chars_one (A : List Int) (x count arg : Int) (past : Bool) : charsP A x 1 count arg past = if (posP A x past).2 = 0 then noP 80 else landP A (offP A ((posP A x past).1, (posP A x past).2 - kOf count)) 0 := by
 have e : charsP A x 1 count arg past = if firstI (rowC A (rowI A (clampP A x past : Int) past)) (clampP A x past : Int) = 0 then noP 80 else landP A (placeR A (rowI A (clampP A x past : Int) past) (((firstI (rowC A (rowI A (clampP A x past : Int) past)) (clampP A x past : Int) : Nat) : Int) - kOf count)) 0 := by
  unfold charsP
  try dsimp only
  rw [if_pos rfl]
 rw [e, clamp_row]
 unfold posP
 try dsimp only
 split
 ·rfl
 ·congr 1
  unfold offP
  try dsimp only
  generalize firstI (rowC A (rowI A x past)) (clampP A x past : Int) = c
  rcases Nat.le_total c (kOf count) with u | u
  ·rw [placeR_neg (by omega), placeR_neg (c := ((c - kOf count : Nat) : Int)) (by omega)]
  ·congr 1; omega
theorem chars_two (A : List Int) (x count arg : Int) (past : Bool) : charsP A x 2 count arg past = if (posP A x past).2 = mostR A (posP A x past).1 past then noP 80 else landP A (offP A ((posP A x past).1, min ((posP A x past).2 + kOf count) (mostR A (posP A x past).1 past))) 0 := by
 have e : charsP A x 2 count arg past = if firstI (rowC A (rowI A (clampP A x past : Int) past)) (clampP A x past : Int) = mostR A (rowI A (clampP A x past : Int) past) past then noP 80 else landP A (placeR A (rowI A (clampP A x past : Int) past) (min (((firstI (rowC A (rowI A (clampP A x past : Int) past)) (clampP A x past : Int) : Nat) : Int) + kOf count) (mostR A (rowI A (clampP A x past : Int) past) past))) 0 := by
  unfold charsP
  try dsimp only
  rw [if_neg (by decide), if_pos rfl]; rfl
 rw [e, clamp_row]
 unfold posP
 try dsimp only
 split
 ·rfl
 ·congr 1
  unfold offP
  try dsimp only
  congr 1; omega
end Mot
namespace Mot
variable {A : List Int}
structure SpanOk (A : List Int) (f t : Nat) (kind : Int) : Prop where
 le : f ≤ t
 len : t ≤ A.length
 zero : kind = 0 → Stand A f true ∧ Stand A t true
 lines : kind ≠ 0 → f = (rowL A (nb A f)).from_ ∧ (t = A.length ∨ t = (rowL A (nb A t)).from_)
theorem Stand.len {n : Nat} {past : Bool} (h : Stand A n past) : n ≤ A.length := by
 obtain ⟨p, h1, rfl, _⟩ := h
 exact place_le h1.row _
theorem Stand.row {n : Nat} {past : Bool} (h : Stand A n past) : nb A n ≤ brs A ∧ (rowL A (nb A n)).from_ ≤ n ∧ n ≤ (rowL A (nb A n)).to_ := by
 obtain ⟨p, h1, rfl, _⟩ := h
 unfold offP
 rw [of_place h1.row]
 exact ⟨h1.row, placeR_in h1.row _⟩
theorem stand_min {a b : Nat} (ha : Stand A a true) (hb : Stand A b true) : Stand A (min a b) true := by
 rcases Nat.le_total a b with h | h
 ·rw [Nat.min_eq_left h]; exact ha
 ·rw [Nat.min_eq_right h]; exact hb
theorem stand_max {a b : Nat} (ha : Stand A a true) (hb : Stand A b true) : Stand A (max a b) true := by
 rcases Nat.le_total a b with h | h
 ·rw [Nat.max_eq_right h]; exact hb
 ·rw [Nat.max_eq_left h]; exact ha
theorem nb_row {i : Nat} (h : i ≤ brs A) : nb A (rowL A i).from_ = i := by
 have := of_place h 0
 rwa [placeR_zero h] at this
theorem nb_up {a b : Nat} (hab : a ≤ b) (hb : b ≤ A.length) : nb A a ≤ nb A b := by
 by_cases h : a = b
 ·rw [h]; exact Nat.le_refl _
 ·exact nb_mono A a b (by omega)
theorem next_is {i : Nat} (h : i ≤ brs A) : (rowL A i).next ≤ A.length ∧ ((rowL A i).next = A.length ∨ (rowL A i).next = (rowL A (nb A (rowL A i).next)).from_) := by
 have ok := row_ok h
 refine ⟨ok.nl, ?_⟩
 cases hx : sk A (i + 1) with
 | none => exact .inl (ok.tail hx).2.2
 | some x =>
  right
  have hi : i + 1 ≤ brs A := by
   rcases Nat.lt_or_ge (brs A) (i + 1) with u | u
   ·exfalso
    exact sk_lt hx u
   ·exact u
  have h2 := (lnAt_some (rowL_at hi)).2
  rw [hx] at h2
  have e1 := Option.some.inj h2
  have e2 := (ok.brk x hx).1
  rw [e2, e1, nb_row hi]
where
  sk_lt {A : List Int} {k x : Nat} (hx : sk A k = some x) (h : brs A < k) : False := by
    have := sk_none A k h
    rw [this] at hx; cases hx
theorem between_sym (A : List Int) (a b kind : Int) : betweenP A a b kind = betweenP A b a kind := by
 unfold betweenP
 rw [Nat.min_comm (clampP A a true), Nat.max_comm (clampP A a true)]
theorem between_is (A : List Int) (a b : Int) {kind : Int} (hk : 0 ≤ kind ∧ kind ≤ 2) : ∃ f t : Nat, betweenP A a b kind = (((f : Int), (t : Int), if kind = 2 then 1 else 0), 0) ∧ SpanOk A f t (if kind = 2 then 1 else 0) := by
 have sa := stand_clamp A a true
 have sb := stand_clamp A b true
 have slo := stand_min sa sb
 have shi := stand_max sa sb
 have hle : min (clampP A a true) (clampP A b true) ≤ max (clampP A a true) (clampP A b true) := by omega
 unfold betweenP
 dsimp only
 generalize min (clampP A a true) (clampP A b true) = lo at *
 generalize max (clampP A a true) (clampP A b true) = hi at *
 have hof : ofI A (hi : Int) = nb A hi := by unfold ofI; rw [inT_of shi.len]
 rw [hof]
 obtain ⟨r1, r2, r3⟩ := shi.row
 rcases (by omega : kind = 0 ∨ kind = 1 ∨ kind = 2) with rfl | rfl | rfl
 ·show ∃ f t : Nat, _ = (((f : Int), (t : Int), (0 : Int)), (0 : Int)) ∧ SpanOk A f t 0
  rw [if_pos rfl]
  split
  ·rename_i h
   refine ⟨lo, _, rfl, ⟨by omega, ?_, fun _ => ⟨slo, ?_⟩, fun hc => absurd rfl hc⟩⟩
   ·have ok := row_ok (A := A) (i := nb A hi - 1) (by omega)
    have := ok.tn; have := ok.nl; have := slo.len
    omega
   ·have h1 := stand_place (A := A) (i := nb A hi - 1) (by omega) ((rowC A (nb A hi - 1)).length : Int)
    rw [placeR_ge (by omega)] at h1
    exact stand_max h1 slo
  ·exact ⟨lo, hi, rfl, ⟨hle, shi.len, fun _ => ⟨slo, shi⟩, fun hc => absurd rfl hc⟩⟩
 ·show ∃ f t : Nat, _ = (((f : Int), (t : Int), (0 : Int)), (0 : Int)) ∧ SpanOk A f t 0
  rw [if_neg (by decide), if_pos rfl]
  refine ⟨lo, _, rfl, ?_⟩
  split
  ·rename_i h
   obtain ⟨f1, f2⟩ := first_in r1 r2 h
   have hst := stand_place (A := A) r1 (((firstI (rowC A (nb A hi)) (hi : Int) : Nat) : Int) + 1)
   refine ⟨?_, hst.len, fun _ => ⟨slo, hst⟩, fun hc => absurd rfl hc⟩
   obtain ⟨⟨i, c⟩, o1, o2, _⟩ := shi
   have hc := o1.col
   have ho : hi = placeR A i (c : Int) := o2.symm
   have hi' : nb A hi = i := by rw [ho]; exact of_place o1.row _
   have hcol : firstI (rowC A (nb A hi)) (hi : Int) = c := by rw [hi', ho]; exact col_place o1.row hc
   rw [hcol, hi'] at f1
   have := placeR_mono (A := A) (i := i) o1.row (c := c) (d := c + 1) (by omega) (by omega)
   rw [hcol, hi', show ((c : Int) + 1) = ((c + 1 : Nat) : Int) by omega]
   omega
  ·exact ⟨hle, shi.len, fun _ => ⟨slo, shi⟩, fun hc => absurd rfl hc⟩
 ·show ∃ f t : Nat, _ = (((f : Int), (t : Int), (1 : Int)), (0 : Int)) ∧ SpanOk A f t 1
  rw [if_neg (by decide), if_neg (by decide), if_pos rfl]
  have l1 := rowI_lt A (lo : Int)
  have l2 := rowI_lt A (hi : Int)
  have hb := lnN_bounds A
  obtain ⟨n1, n2⟩ := next_is (A := A) (i := rowI A (hi : Int) false) (by omega)
  refine ⟨_, _, rfl, ⟨?_, n1, fun hc => absurd hc (by decide), fun _ => ⟨?_, n2⟩⟩⟩
  ·have hle2 : rowI A (lo : Int) false ≤ rowI A (hi : Int) false := by
    unfold rowI ofI
    rw [if_neg (by decide), if_neg (by decide), inT_of slo.len, inT_of shi.len]
    have := nb_up hle shi.len
    omega
   have ok2 := row_ok (A := A) (i := rowI A (hi : Int) false) (by omega)
   have := ok2.ft; have := ok2.tn
   rcases Nat.lt_or_ge (rowI A (lo : Int) false) (rowI A (hi : Int) false) with u | u
   ·have := row_next (A := A) u (by omega)
    have ok1 := row_ok (A := A) (i := rowI A (lo : Int) false) (by omega)
    have := ok1.ft; have := ok1.tn
    omega
   ·rw [show rowI A (lo : Int) false = rowI A (hi : Int) false by omega]; omega
  ·rw [nb_row (by omega)]
theorem lands_go (A : List Int) (s kind count arg : Int) : ∃ past, Lands A past (goP A s kind count arg) := by
 unfold goP
 split
 ·exact ⟨_, lands_chars A _ _ _ _ _⟩
 split
 ·exact ⟨_, lands_rows A _ _ _ _⟩
 split
 ·exact ⟨_, lands_rows A _ _ _ _⟩
 split
 ·exact ⟨_, lands_words A _ _ _ _⟩
 split
 ·exact ⟨_, lands_paras A _ _ _⟩
 ·exact ⟨false, lands_no A false (by decide)⟩
theorem passed_is (A : List Int) {s : Nat} (hs : Stand A s true) (big : Bool) (k : Nat) : s ≤ passedP A s big k ∧ Stand A (passedP A s big k) true := by
 unfold passedP
 cases h : ((((marksP A (begB A big)).filter fun x => decide (s + 1 ≤ x)).take (k - 1)).getLast?) with
 | none => exact ⟨Nat.le_refl _, hs⟩
 | some m =>
  have hm := List.mem_of_mem_take (List.mem_of_getLast? h)
  rw [List.mem_filter, decide_eq_true_eq] at hm
  exact ⟨by show s ≤ m; omega, stand_mark hm.1 true⟩
theorem reach_is (A : List Int) (x kind count arg : Int) : ((reachP A x kind count arg).2 = 0 → ∃ f t : Nat, ∃ k : Int, reachP A x kind count arg = (((f : Int), (t : Int), k), 0) ∧ SpanOk A f t k) ∧ ((reachP A x kind count arg).2 ≠ 0 → (reachP A x kind count arg).1 = (0, 0, 0)) := by
 obtain ⟨past, hl⟩ := lands_go A (clampP A x false : Int) kind count arg
 have ss := stand_past (stand_clamp A x false)
 obtain ⟨p1, p2⟩ := passed_is A ss (decide (kind = 25)) (kOf count)
 unfold reachP
 dsimp only
 generalize goP A (clampP A x false : Int) kind count arg = l at hl ⊢
 generalize clampP A x false = s at *
 split
 ·rename_i h
  exact ⟨fun hc => absurd hc h, fun _ => rfl⟩
 rename_i h
 have h : l.2 = 0 := by omega
 obtain ⟨n, e1, hn, k1, k2⟩ := hl.1 h
 split
 ·refine ⟨fun _ => ⟨s, _, 0, rfl, ?_⟩, fun hc => absurd rfl hc⟩
  have hof : ofI A (passedP A s (decide (kind = 25)) (kOf count) : Int) = nb A (passedP A s (decide (kind = 25)) (kOf count)) := by unfold ofI; rw [inT_of p2.len]
  rw [hof]
  obtain ⟨r1, r2, r3⟩ := p2.row
  have hst := stand_place (A := A) r1 ((rowC A (nb A (passedP A s (decide (kind = 25)) (kOf count)))).length : Int)
  rw [placeR_ge (by omega)] at hst
  exact ⟨by omega, hst.len, fun _ => ⟨ss, hst⟩, fun hc => absurd rfl hc⟩
 ·obtain ⟨f, t, e, ok⟩ := between_is A (s : Int) l.1.1 (kind := l.1.2.1) ⟨k1, k2⟩
  rw [e]
  exact ⟨fun _ => ⟨f, t, _, rfl, ok⟩, fun hc => absurd rfl hc⟩
theorem reach_w (A : List Int) (x arg : Int) : reachP A x 21 0 arg = noP 80 ∨ ∃ t : Nat, reachP A x 21 0 arg = ((((clampP A x false : Nat) : Int), (t : Int), 0), 0) ∧ t ≤ (rowL A (nb A (clampP A x false))).to_ := by
 have sf := stand_clamp A x false
 have ss := stand_past sf
 have hcl : clampP A (clampP A x false : Int) true = clampP A x false := ss.clamp
 unfold reachP
 dsimp only
 have e : goP A (clampP A x false : Int) 21 0 arg = wordsM A (clampP A x false : Int) 21 0 true := by
  unfold goP
  rw [if_neg (by decide), if_neg (by decide), if_neg (by decide), if_pos (by decide)]
 rw [e]
 have e2 : wordsM A (clampP A x false : Int) 21 0 true = (if (afterL (marksP A (begB A false)) (clampP A x false + 1) 1).getD (rowL A (lnN A - 1)).to_ ≤ clampP A x false then noP 80 else landP A ((afterL (marksP A (begB A false)) (clampP A x false + 1) 1).getD (rowL A (lnN A - 1)).to_) 0) := by
  unfold wordsM
  dsimp only
  rw [if_pos (.inl rfl), hcl, if_pos rfl]
  rfl
 have hb := lnN_bounds A
 have hto : Stand A ((afterL (marksP A (begB A false)) (clampP A x false + 1) 1).getD (rowL A (lnN A - 1)).to_) true := by
  cases ha : afterL (marksP A (begB A false)) (clampP A x false + 1) 1 with
  | none =>
   have := stand_place (A := A) (i := lnN A - 1) (by omega) ((rowC A (lnN A - 1)).length : Int)
   rwa [placeR_ge (by omega)] at this
  | some m => exact stand_mark (after_mem ha) true
 rw [e2]
 generalize (afterL (marksP A (begB A false)) (clampP A x false + 1) 1).getD (rowL A (lnN A - 1)).to_ = to at *
 generalize clampP A x false = s at *
 obtain ⟨s1, s2, s3⟩ := ss.row
 obtain ⟨t1, t2, t3⟩ := hto.row
 have hos : ofI A (s : Int) = nb A s := by unfold ofI; rw [inT_of ss.len]
 have hot : ofI A (to : Int) = nb A to := by unfold ofI; rw [inT_of hto.len]
 by_cases h : to ≤ s
 ·rw [if_pos h]; exact .inl (if_pos (by decide))
 ·rw [if_neg h, if_neg (show ¬ (landP A to 0).2 ≠ 0 from fun hc => hc rfl)]
  right
  have hp : passedP A s (decide ((21 : Int) = 25)) (kOf 0) = s := by
   have : kOf 0 - 1 = 0 := rfl
   unfold passedP
   rw [this, List.take_zero]; rfl
  have hl : (landP A to 0).1.1 = (to : Int) := rfl
  rw [hp, hl, hos, hot]
  by_cases hr : nb A s < nb A to
  ·rw [if_pos ⟨.inl rfl, hr⟩]
   exact ⟨_, rfl, Nat.le_refl _⟩
  ·rw [if_neg (fun hc => hr hc.2)]
   have hup := nb_up (A := A) (a := s) (b := to) (by omega) hto.len
   have heq : nb A to = nb A s := by omega
   refine ⟨to, ?_, by rw [← heq]; exact t3⟩
   show betweenP A (s : Int) (to : Int) 0 = _
   unfold betweenP
   dsimp only
   rw [hcl, hto.clamp, Nat.min_eq_left (by omega), Nat.max_eq_right (by omega), hot, heq, if_pos rfl, if_neg (by omega)]
end Mot
namespace Mot
variable {A : List Int} {i : Nat}
noncomputable def rowB (A : List Int) (i : Nat) : List Int := (A.drop (rowL A i).from_).take ((rowL A i).to_ - (rowL A i).from_)
noncomputable def bndR (A : List Int) (i j : Nat) : Nat := placeR A i (j : Int) - (rowL A i).from_
theorem rowB_length (h : i ≤ brs A) : (rowB A i).length = (rowL A i).to_ - (rowL A i).from_ := rowB_len h
theorem rowC_cuts (A : List Int) (i : Nat) : (rowC A i).length + 1 = (cuts (rowB A i)).length := by
 have h1 : (rowC A i).length = (cuts (rowB A i)).length - 1 := cels_len _ _
 have h2 := cuts_pos (rowB A i)
 omega
theorem row_cuts (h : i ≤ brs A) : cuts (rowB A i) = (List.range ((rowC A i).length + 1)).map (bndR A i) := by
 have hn := rowC_cuts A i
 refine List.ext_getElem? fun j => ?_
 rw [List.getElem?_map]
 rcases Nat.lt_or_ge j (rowC A i).length with hj | hj
 ·obtain ⟨c, hc⟩ := cel_get hj
  obtain ⟨ci, cj, g1, _, q⟩ := lineC_at (row_ok h).ft (by have := (row_ok h).tn; have := (row_ok h).nl; omega) hc
  have g1 : (cuts (rowB A i))[j]? = some ci := g1
  rw [g1, List.getElem?_range (by omega)]
  show some ci = some (bndR A i j)
  unfold bndR
  rw [placeR_lt hj, frm_of hc, q.from_]
  congr 1; omega
 ·rcases Nat.lt_or_ge (rowC A i).length j with u | u
  ·rw [List.getElem?_eq_none (by omega), List.getElem?_eq_none (by rw [List.length_range]; omega)]; rfl
  ·have hjn : j = (rowC A i).length := by omega
   have hl := cuts_last (rowB A i)
   rw [← hn, Nat.add_sub_cancel] at hl
   rw [hjn, hl, List.getElem?_range (by omega)]
   show some _ = some (bndR A i _)
   unfold bndR
   rw [placeR_ge (by omega), rowB_length h]
theorem bnd_lt (h : i ≤ brs A) {c d : Nat} (hcd : c < d) (hd : d ≤ (rowC A i).length) : bndR A i c < bndR A i d := by
 have := placeR_mono h hcd hd
 have := (placeR_in h (c : Int)).1
 unfold bndR; omega
theorem bnd_place (h : i ≤ brs A) (c : Nat) : (rowL A i).from_ + bndR A i c = placeR A i (c : Int) := by
 have := (placeR_in h (c : Int)).1
 unfold bndR; omega
theorem bnd_bk (h : i ≤ brs A) {c : Nat} (hc : c ≤ (rowC A i).length) : bk (rowB A i) (bndR A i c) = true := by
 rw [← mem_cuts, row_cuts h]
 exact List.mem_map.2 ⟨c, List.mem_range.2 (by omega), rfl⟩
theorem bnd_atom (h : i ≤ brs A) {j : Nat} (hj : j < (rowC A i).length) : (rowB A i)[bndR A i j]? = ((rowC A i)[j]?).map (·.atom) := by
 obtain ⟨c, hc⟩ := cel_get hj
 obtain ⟨ci, cj, _, _, q⟩ := lineC_at (row_ok h).ft (by have := (row_ok h).tn; have := (row_ok h).nl; omega) hc
 have h1 := q.from_; have h2 := q.to_; have h3 := q.lt; have h4 := q.le
 have hb : bndR A i j = ci := by
  unfold bndR
  rw [placeR_lt hj, frm_of hc]; omega
 rw [hb, hc]
 unfold rowB
 rw [List.getElem?_take, if_pos (by omega), List.getElem?_drop, ← h1]
 exact q.atom
end Mot
namespace Mot
variable {A : List Int}
theorem chars_seek (A : List Int) (x count arg : Int) (past : Bool) :
  charsP A x 7 count arg past = (match seekL (rowC A (posP A x past).1) arg (upL (rowC A (posP A x past).1).length (posP A x past).2) (kOf count) with | none => noP 80 | some j => landP A (placeR A (posP A x past).1 (j : Int)) 1) ∧
  charsP A x 9 count arg past = (match seekL (rowC A (posP A x past).1) arg (upL (rowC A (posP A x past).1).length (posP A x past).2) (kOf count) with | none => noP 80 | some j => landP A (placeR A (posP A x past).1 ((j : Int) - 1)) 1) ∧
  charsP A x 8 count arg past = (match seekL (rowC A (posP A x past).1) arg (downL (posP A x past).2) (kOf count) with | none => noP 80 | some j => landP A (placeR A (posP A x past).1 (j : Int)) 0) ∧
  charsP A x 10 count arg past = (match seekL (rowC A (posP A x past).1) arg (downL (posP A x past).2) (kOf count) with | none => noP 80 | some j => landP A (placeR A (posP A x past).1 ((j : Int) + 1)) 0) := by
 have hr := clamp_row A x past
 refine ⟨?_, ?_, ?_, ?_⟩
 ·unfold charsP posP
  dsimp only
  rw [hr, if_neg (by decide), if_neg (by decide), if_neg (by decide), if_neg (by decide), if_neg (by decide), if_neg (by decide), if_pos (by decide)]
  all_goals (cases seekL (rowC A (rowI A x past)) arg (upL (rowC A (rowI A x past)).length (firstI (rowC A (rowI A x past)) (clampP A x past : Int))) (kOf count) <;> rfl)
 ·unfold charsP posP
  dsimp only
  rw [hr, if_neg (by decide), if_neg (by decide), if_neg (by decide), if_neg (by decide), if_neg (by decide), if_neg (by decide), if_pos (by decide)]
  all_goals (cases seekL (rowC A (rowI A x past)) arg (upL (rowC A (rowI A x past)).length (firstI (rowC A (rowI A x past)) (clampP A x past : Int))) (kOf count) <;> rfl)
 ·unfold charsP posP
  dsimp only
  rw [hr, if_neg (by decide), if_neg (by decide), if_neg (by decide), if_neg (by decide), if_neg (by decide), if_neg (by decide), if_neg (by decide), if_pos (by decide)]
  all_goals (cases seekL (rowC A (rowI A x past)) arg (downL (firstI (rowC A (rowI A x past)) (clampP A x past : Int))) (kOf count) <;> rfl)
 ·unfold charsP posP
  dsimp only
  rw [hr, if_neg (by decide), if_neg (by decide), if_neg (by decide), if_neg (by decide), if_neg (by decide), if_neg (by decide), if_neg (by decide), if_pos (by decide)]
  all_goals (cases seekL (rowC A (rowI A x past)) arg (downL (firstI (rowC A (rowI A x past)) (clampP A x past : Int))) (kOf count) <;> rfl)
end Mot
namespace Mot
variable {A : List Int} {p q : Nat × Nat}
noncomputable def foreW (A : List Int) (f : Nat × Nat → Bool) (p : Nat × Nat) (k : Nat) : Option (Nat × Nat) := ((aft A p).filter f)[k - 1]?
noncomputable def backW (A : List Int) (f : Nat × Nat → Bool) (p : Nat × Nat) (k : Nat) : Option (Nat × Nat) := ((bef A p).filter f)[k - 1]?
theorem foreW_none {f : Nat × Nat → Bool} {k : Nat} (h : nextW A p = none) : foreW A f p k = none := by unfold foreW; rw [aft_none h]; rfl
theorem foreW_no {f : Nat × Nat → Bool} {k : Nat} (h : nextW A p = some q) (hf : f q = false) : foreW A f p k = foreW A f q k := by
 unfold foreW; rw [aft_some h, List.filter_cons_of_neg (by rw [hf]; decide)]
theorem foreW_one {f : Nat × Nat → Bool} (h : nextW A p = some q) (hf : f q = true) : foreW A f p 1 = some q := by
 unfold foreW; rw [aft_some h, List.filter_cons_of_pos hf]; rfl
theorem foreW_more {f : Nat × Nat → Bool} {k : Nat} (h : nextW A p = some q) (hf : f q = true) (hk : 1 ≤ k) : foreW A f p (k + 1) = foreW A f q k := by
 unfold foreW; rw [aft_some h, List.filter_cons_of_pos hf]
 obtain ⟨j, rfl⟩ : ∃ j, k = j + 1 := ⟨k - 1, by omega⟩
 rfl
theorem backW_none {f : Nat × Nat → Bool} {k : Nat} (h : prevW A p = none) : backW A f p k = none := by unfold backW; rw [bef_none h]; rfl
theorem backW_no {f : Nat × Nat → Bool} {k : Nat} (h : prevW A p = some q) (hf : f q = false) : backW A f p k = backW A f q k := by
 unfold backW; rw [bef_some h, List.filter_cons_of_neg (by rw [hf]; decide)]
theorem backW_one {f : Nat × Nat → Bool} (h : prevW A p = some q) (hf : f q = true) : backW A f p 1 = some q := by
 unfold backW; rw [bef_some h, List.filter_cons_of_pos hf]; rfl
theorem backW_more {f : Nat × Nat → Bool} {k : Nat} (h : prevW A p = some q) (hf : f q = true) (hk : 1 ≤ k) : backW A f p (k + 1) = backW A f q k := by
 unfold backW; rw [bef_some h, List.filter_cons_of_pos hf]
 obtain ⟨j, rfl⟩ : ∃ j, k = j + 1 := ⟨k - 1, by omega⟩
 rfl
noncomputable def brkF (A : List Int) (p : Nat × Nat) : Option Bk := (brkP A p).map fun b => (p, b)
theorem brks_eq (A : List Int) : brksP A = (allP A).filterMap (brkF A) := rfl
noncomputable def aftB (A : List Int) (p : Nat × Nat) : List Bk := (aft A p).filterMap (brkF A)
noncomputable def befB (A : List Int) (p : Nat × Nat) : List Bk := (bef A p).filterMap (brkF A)
theorem brks_at (h : Plc A p) : brksP A = (befB A p).reverse ++ (p :: aft A p).filterMap (brkF A) := by
 rw [brks_eq, all_split h, List.filterMap_append, List.filterMap_reverse]; rfl
noncomputable def headB (A : List Int) (i : Nat) (p : Nat × Nat) : Option Bk := match ((p :: aft A p).filterMap (brkF A)).head? with
 | none => none
 | some q => if q.1.1 = i then some q else none
theorem headB_here {b : Nat} (h : brkP A p = some b) : headB A p.1 p = some (p, b) := by
 have e : brkF A p = some (p, b) := by unfold brkF; rw [h]; rfl
 unfold headB
 rw [List.filterMap_cons_some e]
 exact if_pos rfl
theorem headB_none {i : Nat} (h : brkP A p = none) (hn : nextW A p = none) : headB A i p = none := by
 have e : brkF A p = none := by unfold brkF; rw [h]; rfl
 unfold headB
 rw [List.filterMap_cons_none e, aft_none hn]; rfl
theorem headB_next {i : Nat} (h : brkP A p = none) (hn : nextW A p = some q) : headB A i p = headB A i q := by
 have e : brkF A p = none := by unfold brkF; rw [h]; rfl
 unfold headB
 rw [List.filterMap_cons_none e, aft_some hn]
theorem brkF_row {x : Bk} {r : Nat × Nat} (h : brkF A r = some x) : x.1 = r := by
 unfold brkF at h
 obtain ⟨b, _, rfl⟩ := Option.map_eq_some_iff.1 h
 rfl
theorem headB_other {i : Nat} (h : i < p.1) : headB A i p = none := by
 unfold headB
 split
 ·rfl
 ·rename_i x hx
  have hm := List.mem_of_mem_head? hx
  obtain ⟨r, hr, he⟩ := List.mem_filterMap.1 hm
  have e := brkF_row he
  refine if_neg ?_
  rw [e]
  rcases List.mem_cons.1 hr with rfl | hr
  ·omega
  ·rcases mem_aft.1 hr with ⟨h1, _⟩ | ⟨h1, _⟩ <;> omega
theorem shut_fore_none {own d : Nat} (h : nextW A p = none) : shutL own (aftB A p) d = none := by unfold aftB; rw [aft_none h]; rfl
theorem shut_fore_skip {own d : Nat} (h : nextW A p = some q) (hb : brkP A q = none) : shutL own (aftB A p) d = shutL own (aftB A q) d := by
 have e : brkF A q = none := by unfold brkF; rw [hb]; rfl
 unfold aftB; rw [aft_some h, List.filterMap_cons_none e]
theorem shut_fore_some {own d b : Nat} (h : nextW A p = some q) (hb : brkP A q = some b) : shutL own (aftB A p) d = if b % 3 ≠ own % 3 then shutL own (aftB A q) d else if b = own then shutL own (aftB A q) (d + 1) else if d = 1 then some q else shutL own (aftB A q) (d - 1) := by
 have e : brkF A q = some (q, b) := by unfold brkF; rw [hb]; rfl
 unfold aftB; rw [aft_some h, List.filterMap_cons_some e, shutL]
theorem shut_back_none {own d : Nat} (h : prevW A p = none) : shutL own (befB A p) d = none := by unfold befB; rw [bef_none h]; rfl
theorem shut_back_skip {own d : Nat} (h : prevW A p = some q) (hb : brkP A q = none) : shutL own (befB A p) d = shutL own (befB A q) d := by
 have e : brkF A q = none := by unfold brkF; rw [hb]; rfl
 unfold befB; rw [bef_some h, List.filterMap_cons_none e]
theorem shut_back_some {own d b : Nat} (h : prevW A p = some q) (hb : brkP A q = some b) : shutL own (befB A p) d = if b % 3 ≠ own % 3 then shutL own (befB A q) d else if b = own then shutL own (befB A q) (d + 1) else if d = 1 then some q else shutL own (befB A q) (d - 1) := by
 have e : brkF A q = some (q, b) := by unfold brkF; rw [hb]; rfl
 unfold befB; rw [bef_some h, List.filterMap_cons_some e, shutL]
theorem drop_at {α : Type} : ∀ (l : List α) {x : α} {r : List α}, (l ++ x :: r).drop (l.length + 1) = r
 | [], _, _ => rfl
 | _ :: l, _, _ => drop_at l
theorem match_walk (h : Plc A p) : matchP A (offP A p) p.1 = (headB A p.1 p).bind fun q => (shutL q.2 (if q.2 < 3 then aftB A q.1 else befB A q.1) 1).map (offP A) := by
 have hl1 : ∀ y ∈ (befB A p).reverse, (fun q : Bk => q.1.1 == p.1 && decide (offP A p ≤ offP A q.1)) y = false := fun y hy => by
  rw [List.mem_reverse] at hy
  obtain ⟨r, hr, he⟩ := List.mem_filterMap.1 hy
  have := bef_off h.on hr
  dsimp only
  rw [brkF_row he, Bool.and_eq_false_iff, decide_eq_false_iff_not]
  exact .inr (by omega)
 have hge : ∀ y ∈ (p :: aft A p).filterMap (brkF A), offP A p ≤ offP A y.1 ∧ p.1 ≤ y.1.1 := fun y hy => by
  obtain ⟨r, hr, he⟩ := List.mem_filterMap.1 hy
  rw [brkF_row he]
  rcases List.mem_cons.1 hr with rfl | hr
  ·exact ⟨Nat.le_refl _, Nat.le_refl _⟩
  ·refine ⟨Nat.le_of_lt (aft_off h.on hr), ?_⟩
   rcases mem_aft.1 hr with ⟨h1, _⟩ | ⟨h1, _⟩ <;> omega
 have none_of : ∀ {m : Option Nat}, (brksP A).findIdx? (fun q => q.1.1 == p.1 && decide (offP A p ≤ offP A q.1)) = none → matchP A (offP A p) p.1 = none := fun {m} hh => by unfold matchP; rw [hh]
 cases hL : (p :: aft A p).filterMap (brkF A) with
 | nil =>
  have hh : headB A p.1 p = none := by unfold headB; rw [hL]; rfl
  rw [hh]
  refine none_of (m := none) ?_
  rw [brks_at h, hL, List.append_nil, List.findIdx?_eq_none_iff]
  exact hl1
 | cons q r =>
  have hqm : q ∈ (p :: aft A p).filterMap (brkF A) := by rw [hL]; exact List.mem_cons_self
  obtain ⟨g1, g2⟩ := hge q hqm
  have hB : brksP A = (befB A p).reverse ++ q :: r := by rw [brks_at h, hL]
  by_cases hq : q.1.1 = p.1
  ·have hh : headB A p.1 p = some q := by unfold headB; rw [hL]; exact if_pos hq
   rw [hh]
   have hf : (brksP A).findIdx? (fun q => q.1.1 == p.1 && decide (offP A p ≤ offP A q.1)) = some (befB A p).reverse.length := by
    rw [hB]
    exact find_at _ hl1 (by rw [hq, decide_eq_true g1]; simp)
   have hmem : q ∈ brksP A := by rw [hB]; exact List.mem_append_right _ List.mem_cons_self
   obtain ⟨hpl, hbk⟩ := mem_brks hmem
   have eq1 : brkF A q.1 = some q := by unfold brkF; rw [hbk]; rfl
   have hB2 : brksP A = (befB A q.1).reverse ++ q :: aftB A q.1 := by rw [brks_at hpl, List.filterMap_cons_some eq1]; rfl
   have hlen : (befB A p).reverse.length = (befB A q.1).reverse.length := by
    have a1 := (find_own hB).1
    have a2 := (find_own hB2).1
    rw [a1] at a2
    exact Option.some.inj a2
   obtain ⟨s1, s2⟩ := List.append_inj (hB.symm.trans hB2) hlen
   have s3 : r = aftB A q.1 := (List.cons.inj s2).2
   unfold matchP
   rw [hf]
   dsimp only
   have hget : (brksP A)[(befB A p).reverse.length]? = some q := by rw [hB]; simp
   rw [hget, Option.bind_some]
   dsimp only
   have hd : (brksP A).drop ((befB A p).reverse.length + 1) = aftB A q.1 := by rw [hB, ← s3]; exact drop_at _
   have ht : ((brksP A).take (befB A p).reverse.length).reverse = befB A q.1 := by rw [hB, List.take_left, s1, List.reverse_reverse]
   rw [hd, ht]
  ·have hh : headB A p.1 p = none := by unfold headB; rw [hL]; exact if_neg hq
   rw [hh]
   refine none_of (m := none) ?_
   rw [hB, List.findIdx?_eq_none_iff]
   intro y hy
   rcases List.mem_append.1 hy with hy | hy
   ·exact hl1 y hy
   ·have hyr : y.1.1 ≠ p.1 := by
     rcases List.mem_cons.1 hy with rfl | hyr
     ·exact hq
     ·intro he
      have hr := brks_rise A
      rw [hB, List.pairwise_append] at hr
      have h1 := (List.pairwise_cons.1 hr.2.1).1 y hyr
      have hmq : q ∈ brksP A := by rw [hB]; exact List.mem_append_right _ List.mem_cons_self
      have hmy : y ∈ brksP A := by rw [hB]; exact List.mem_append_right _ hy
      have := off_lt_rows (mem_brks hmy).1.on (mem_brks hmq).1.on (by omega)
      omega
    rw [Bool.and_eq_false_iff, beq_eq_false_iff_ne]
    exact .inl hyr
def upF (f : Nat → Bool) (j n k : Nat) : Option Nat := ((List.range' j (n - j)).filter f)[k - 1]?
def dnF (f : Nat → Bool) (j k : Nat) : Option Nat := ((List.range j).reverse.filter f)[k - 1]?
theorem upF_none {f : Nat → Bool} {j n k : Nat} (h : n ≤ j) : upF f j n k = none := by unfold upF; rw [show n - j = 0 by omega]; rfl
theorem up_cons {j n : Nat} (h : j < n) : List.range' j (n - j) = j :: List.range' (j + 1) (n - (j + 1)) := by
 obtain ⟨m, hm⟩ : ∃ m, n - j = m + 1 := ⟨n - j - 1, by omega⟩
 rw [hm, List.range'_succ, show n - (j + 1) = m by omega]
theorem upF_no {f : Nat → Bool} {j n k : Nat} (h : j < n) (hf : f j = false) : upF f j n k = upF f (j + 1) n k := by
 unfold upF; rw [up_cons h, List.filter_cons_of_neg (by rw [hf]; decide)]
theorem upF_one {f : Nat → Bool} {j n : Nat} (h : j < n) (hf : f j = true) : upF f j n 1 = some j := by
 unfold upF; rw [up_cons h, List.filter_cons_of_pos hf]; rfl
theorem upF_more {f : Nat → Bool} {j n k : Nat} (h : j < n) (hf : f j = true) (hk : 1 ≤ k) : upF f j n (k + 1) = upF f (j + 1) n k := by
 unfold upF; rw [up_cons h, List.filter_cons_of_pos hf]
 obtain ⟨i, rfl⟩ : ∃ i, k = i + 1 := ⟨k - 1, by omega⟩
 rfl
theorem dnF_no {f : Nat → Bool} {j k : Nat} (hf : f j = false) : dnF f (j + 1) k = dnF f j k := by
 unfold dnF; rw [List.range_succ, List.reverse_append, List.reverse_singleton, List.singleton_append, List.filter_cons_of_neg (by rw [hf]; decide)]
theorem dnF_one {f : Nat → Bool} {j : Nat} (hf : f j = true) : dnF f (j + 1) 1 = some j := by
 unfold dnF; rw [List.range_succ, List.reverse_append, List.reverse_singleton, List.singleton_append, List.filter_cons_of_pos hf]; rfl
theorem dnF_more {f : Nat → Bool} {j k : Nat} (hf : f j = true) (hk : 1 ≤ k) : dnF f (j + 1) (k + 1) = dnF f j k := by
 unfold dnF; rw [List.range_succ, List.reverse_append, List.reverse_singleton, List.singleton_append, List.filter_cons_of_pos hf]
 obtain ⟨i, rfl⟩ : ∃ i, k = i + 1 := ⟨k - 1, by omega⟩
 rfl
theorem sign_at {i c : Nat} {x : Cel} (hx : (rowC A i)[c]? = some x) (hk : x.kind ≠ 0) (h0 : ∀ (j : Nat) y, j < c → (rowC A i)[j]? = some y → y.kind = 0) : signR A i = c := by
 have hl := (List.getElem?_eq_some_iff.1 hx).1
 have e : (rowC A i).findIdx (fun c => c.kind != 0) = c := by
  rw [List.findIdx_eq hl]
  refine ⟨?_, fun j hj => ?_⟩
  ·rw [List.getElem?_eq_getElem hl] at hx
   rw [Option.some.inj hx]; simpa using hk
  ·have := h0 j _ hj (List.getElem?_eq_getElem (by omega))
   simpa using this
 unfold signR
 rw [e, if_pos hl]
theorem sign_none {i : Nat} (h0 : ∀ (j : Nat) y, (rowC A i)[j]? = some y → y.kind = 0) : signR A i = (rowC A i).length - 1 := by
 have e : (rowC A i).findIdx (fun c => c.kind != 0) = (rowC A i).length := by
  rw [List.findIdx_eq_length]
  intro c hc
  obtain ⟨j, hj⟩ := List.getElem?_of_mem hc
  have := h0 j c hj
  simpa using this
 unfold signR
 rw [e, if_neg (Nat.lt_irrefl _)]
theorem blank_is (A : List Int) (i : Nat) : blankR A i = ((rowC A i).length == 0 || kindB (rowC A i) (signR A i) true == 0) := by
 by_cases h0 : ∀ (j : Nat) y, (rowC A i)[j]? = some y → y.kind = 0
 ·have hb : blankR A i = true := by
   unfold blankR
   rw [List.all_eq_true]
   intro c hc
   obtain ⟨j, hj⟩ := List.getElem?_of_mem hc
   rw [h0 j c hj]; rfl
  rw [hb, sign_none h0]
  rcases Nat.eq_zero_or_pos (rowC A i).length with u | u
  ·rw [u]; rfl
  ·obtain ⟨c, hc⟩ := cel_get (C := rowC A i) (j := (rowC A i).length - 1) (by omega)
   unfold kindB
   rw [hc, if_pos rfl]
   show true = (_ || min c.kind 1 == 0)
   rw [h0 _ c hc]; simp
 ·have hex : ∃ (c : Nat) (x : Cel), (rowC A i)[c]? = some x ∧ x.kind ≠ 0 := Classical.byContradiction fun hn => h0 fun j y hy => Classical.byContradiction fun hk => hn ⟨j, y, hy, hk⟩
  have hf : (rowC A i).findIdx (fun c => c.kind != 0) < (rowC A i).length := by
   obtain ⟨c, x, hx, hk⟩ := hex
   rw [List.findIdx_lt_length]
   exact ⟨x, List.mem_of_getElem? hx, by simpa using hk⟩
  have hs : signR A i = (rowC A i).findIdx (fun c => c.kind != 0) := by unfold signR; rw [if_pos hf]
  have hk := List.findIdx_getElem (w := hf)
  have hb : blankR A i = false := by
   unfold blankR
   rw [List.all_eq_false]
   exact ⟨_, List.getElem_mem hf, by simpa using hk⟩
  rw [hb, hs]
  unfold kindB
  rw [List.getElem?_eq_getElem hf, if_pos rfl]
  have hk2 : ((rowC A i)[(rowC A i).findIdx fun c => c.kind != 0]'hf).kind ≠ 0 := by simpa using hk
  have hn0 : (rowC A i).length ≠ 0 := by omega
  show false = (_ || min _ 1 == 0)
  symm
  rw [Bool.or_eq_false_iff, beq_eq_false_iff_ne, beq_eq_false_iff_ne]
  refine ⟨hn0, ?_⟩
  show min ((rowC A i)[(rowC A i).findIdx fun c => c.kind != 0]'hf).kind 1 ≠ 0
  omega
end Mot
end Go.Proofs.YtolhlldgnfbemaaGreat
namespace Go.Proofs.YtolhlldgnfbemaaGreat
open Go Go.Vx Cdc Trx
section
variable {w w' : World} {S : Nat → Prop} {p : Nat} {e : Enc} {lim na : Nat} {O : Nat → Prop} {M : Parts}
theorem sub_one (A : List Int) (n : Nat) : sub A (n : Int) ((n : Int) + 1) = (A.drop n).take 1 := by
 unfold sub
 have : ((n : Int) + 1).toNat - (n : Int).toNat = 1 := by omega
 rw [this, Int.toNat_natCast]
theorem take_one {A : List Int} {n : Nat} {a : Int} (h : A[n]? = some a) : (A.drop n).take 1 = [a] := by
 rw [List.take_one, List.head?_drop, h]; rfl
theorem take_none {A : List Int} {n : Nat} (h : A[n]? = none) : (A.drop n).take 1 = [] := by
 rw [List.take_one, List.head?_drop, h]; rfl
theorem last_take {A : List Int} {n : Nat} (h0 : 0 < n) (h : n ≤ A.length) : (A.take n).getLast? = A[n - 1]? := by
 rw [List.getLast?_eq_getElem?, List.length_take, List.getElem?_take]
 have : min n A.length = n := by omega
 rw [this, if_pos (by omega)]
theorem atoms_take (l : As) (n : Nat) : atoms (l.take n) = (atoms l).take n := by simp [atoms]
theorem cr_split {L : As} (h : Posd L) {n : Nat} (h0 : 0 < n) (hn : n ≤ L.length) : split13 (atoms L) n = ((msr (L.take n)).cr && ((atoms L)[n]? == some 10)) := by
 have hl : (atoms L).length = L.length := List.length_map _
 rw [msr_cr (h.take n), atoms_take, last_take h0 (by omega)]
 unfold split13
 rw [decide_eq_true h0]
 rfl
theorem breaks_call {at_ : Int} (h : Txt w p e lim na O M) {K : Int → World → Prop} (hK : ∀ w', Ext w w' → K ((nb (atoms (aOf e M)) at_.toNat : Nat) : Int) w') :
  callT Tryz.prog 50 #[.pointer (some (at0 p)), .int .i64 at_] (.one (.one (.int .i64))) K w := by
 refine F50_calls ?_
 unfold F50
 have few := h.few; have lims := h.lims
 have hal : (atoms (aOf e M)).length = (aOf e M).length := List.length_map _
 have hpos := aOf_posd e M
 refine sif_r (fun hc => ?_) (fun hc => ?_)
 ·simp only [decide_eq_true_eq] at hc
  have e0 : at_.toNat = 0 := by omega
  have := hK w (Ext.refl w)
  rw [e0, nb_zero] at this
  exact this
 simp only [decide_eq_false_iff_not] at hc
 obtain ⟨n, rfl⟩ : ∃ n : Nat, at_ = (n : Int) := ⟨at_.toNat, by omega⟩
 rw [Int.toNat_natCast] at hK
 refine len_call h fun w1 e1 => sif_r (fun hg => ?_) (fun hg => ?_)
 ·simp only [decide_eq_true_eq, ge_iff_le] at hg
  obtain ⟨t, ht, hi, hf, rd⟩ := h.tree
  refine rd e1 (tsum_call (ht.ext e1) fun w2 e2 => ?_)
  have := hK w2 (e1.trans e2)
  rw [nb_ge _ _ (by omega), ← msr_breaks hpos, ← hi.tot] at this
  exact this
 simp only [decide_eq_false_iff_not, ge_iff_le] at hg
 have hb : (msr ((aOf e M).take n)).breaks = nb (atoms (aOf e M)) n + (if split13 (atoms (aOf e M)) n then 1 else 0) := by rw [msr_breaks (hpos.take n), atoms_take, brs_take]
 have hsp := cr_split hpos (n := n) (by omega) (by omega)
 have hnl := nb_le (atoms (aOf e M)) n
 refine ahead_call (h.ext e1) (by omega) fun w2 e2 => (St.start w2).newO fun b w3 S3 e3 => S3.aggSt 0 rfl rfl rfl rfl fun w4 S4 u4 => ?_
 have e04 := (e1.trans e2).trans S4.upd
 refine join_r (fun x w' => x = (split13 (atoms (aOf e M)) n, ()) ∧ St (fun _ => False) w2 w' [(b, .cells (Cells.vals c91 (smT (msr ((aOf e M).take n)))).toArray 91 (0, 0))]) ?_ ?_
 ·refine S4.ld 0 rfl (x := (msr ((aOf e M).take n)).cr) rfl (sif_r (fun hr => ?_) (fun hr => ?_))
  ·have ew : IntKind.wrap .i64 ((n : Int) + 1) = (n : Int) + 1 := wrap64 (by omega) (by omega)
   rw [ew]
   refine atoms_call (h.ext e04) fun s w5 o5 e5 => ?_
   obtain ⟨a, ha⟩ : ∃ a, (atoms (aOf e M))[n]? = some a := ⟨_, List.getElem?_eq_getElem (by omega)⟩
   rw [sub_one, take_one ha] at o5
   refine ix_ld (c := .int .i64) (xs := [a]) o5.in (by decide) (x := a) rfl fun p => ⟨?_, S4.ext e5⟩
   rw [hsp, hr, ha]
   rfl
  ·refine ⟨?_, S4⟩
   rw [hsp, hr]; rfl
 ·rintro _ w5 ⟨rfl, S5⟩
  have e05 := (e1.trans e2).trans S5.upd
  refine sif_r (fun hr => S5.ld 0 rfl (x := (((msr ((aOf e M).take n)).breaks : Nat) : Int)) rfl ?_) (fun hr => S5.ld 0 rfl (x := (((msr ((aOf e M).take n)).breaks : Nat) : Int)) rfl ?_)
  ·have hr' : split13 (atoms (aOf e M)) n = true := hr
   rw [hb, hr', wrap64 (by simp only [if_true]; omega) (by simp only [if_true]; omega)]
   have : ((nb (atoms (aOf e M)) n + (if true = true then 1 else 0) : Nat) : Int) - 1 = ((nb (atoms (aOf e M)) n : Nat) : Int) := by simp
   rw [this]; exact hK w5 e05
  ·have hr' : split13 (atoms (aOf e M)) n = false := hr
   rw [hb, hr']
   exact hK w5 e05
theorem least (P : Nat → Prop) [DecidablePred P] : ∀ n, P n → ∃ j, j ≤ n ∧ P j ∧ ∀ i, i < j → ¬ P i := by
 intro n
 induction n using Nat.strongRecOn with
 | ind n ih =>
  intro hn
  by_cases h : ∃ i, i < n ∧ P i
  ·obtain ⟨i, hi, hp⟩ := h
   obtain ⟨j, h1, h2, h3⟩ := ih i hi hp
   exact ⟨j, by omega, h2, h3⟩
  ·exact ⟨n, Nat.le_refl _, hn, fun i hi hp => h ⟨i, hi, hp⟩⟩
theorem brk_mono {l m : As} (h : Posd l) (h' : Posd m) : (msr l).breaks ≤ (msr (l ++ m)).breaks := by
 rw [msr_append h h']
 exact keyOf_mono (k := 1) (msr_ok h) (msr_ok h')
theorem brk_take_mono {L : As} (h : Posd L) {i j : Nat} (hij : i ≤ j) : (msr (L.take i)).breaks ≤ (msr (L.take j)).breaks := by
 obtain ⟨d, rfl⟩ : ∃ d, j = i + d := ⟨j - i, by omega⟩
 rw [List.take_add]
 exact brk_mono (h.take i) ((h.drop i).take d)
def skI (A : List Int) (k : Int) : Int := if k < 0 then -1 else match sk A k.toNat with | some m => (m : Int) | none => -1
set_option maxHeartbeats 1000000 in
theorem seek_call {k : Int} (h : Txt w p e lim na O M) {K : Int → World → Prop} (hK : ∀ w', Ext w w' → K (skI (atoms (aOf e M)) k) w') :
  callT Tryz.prog 66 #[.pointer (some (at0 p)), .int .i64 k] (.one (.one (.int .i64))) K w := by
 refine F66_calls ?_
 unfold F66
 have few := h.few; have lims := h.lims; have hsz := h.sz
 have hal : (atoms (aOf e M)).length = (aOf e M).length := List.length_map _
 have hpos := aOf_posd e M
 obtain ⟨t, ht, hi, hf, rd⟩ := h.tree
 refine sif_r (fun hc => ?_) (fun hc => ?_)
 ·simp only [beq_iff_eq] at hc
  subst hc
  have := hK w (Ext.refl w)
  unfold skI at this
  have e0 : sk (atoms (aOf e M)) 0 = some 0 := by cases atoms (aOf e M) <;> rfl
  rw [if_neg (by decide), show (0 : Int).toNat = 0 by rfl, e0] at this
  exact this
 simp only [beq_eq_false_iff_ne] at hc
 have htb : (tot t.items).breaks = brs (atoms (aOf e M)) := by rw [hi.tot, msr_breaks hpos]
 refine join_r (fun x w' => x = (decide (k < 0) || decide (((brs (atoms (aOf e M)) : Nat) : Int) < k), ()) ∧ Ext w w') ?_ ?_
 ·refine sif_r (fun hn => ⟨by rw [hn]; rfl, Ext.refl w⟩) (fun hn => rd (Ext.refl w) (tsum_call ht fun w1 e1 => ⟨?_, e1⟩))
  rw [hn, Bool.false_or, ← htb]; rfl
 rintro _ w1 ⟨rfl, e1⟩
 refine sif_r (fun hb => ?_) (fun hb => ?_)
 ·have := hK w1 e1
  simp only [Bool.or_eq_true, decide_eq_true_eq] at hb
  unfold skI at this
  by_cases hn : k < 0
  ·rw [if_pos hn] at this; exact this
  ·rw [if_neg hn, sk_none _ _ (by omega)] at this; exact this
 simp only [Bool.or_eq_false_iff, decide_eq_false_iff_not] at hb
 obtain ⟨n, rfl⟩ : ∃ n : Nat, k = (n : Int) := ⟨k.toNat, by omega⟩
 have hn1 : 1 ≤ n := by omega
 have hnb : n ≤ brs (atoms (aOf e M)) := by omega
 have il := hi.len; have fl := hf.few
 have kk : ∀ j, keyOf 1 (tot (t.items.take j)) = (msr (aOf e (M.take j))).breaks := fun j => by
  have := (hi.take j).tot
  show (tot (t.items.take j)).breaks = _
  rw [this]
 obtain ⟨j, hjl, hj1, hj0⟩ := least (fun j => n ≤ keyOf 1 (tot (t.items.take j))) t.items.length (by
  show n ≤ keyOf 1 (tot (t.items.take t.items.length))
  rw [kk, il, List.take_length, msr_breaks hpos]; exact hnb)
 obtain ⟨i, rfl⟩ : ∃ i, j = i + 1 := by
  cases j with
  | zero =>
   have hj1' : n ≤ keyOf 1 (tot (t.items.take 0)) := hj1
   rw [kk, List.take_zero, msr_breaks (aOf_posd e _)] at hj1'
   exact absurd hj1' (by simp [aOf, brs]; omega)
  | succ i => exact ⟨i, rfl⟩
 have hfind : findI 1 n t.items = i + 1 := findI_eq hjl hj1 fun j hj => by have := hj0 j hj; omega
 have hlow : (msr (aOf e (M.take i))).breaks < n := by have := hj0 i (by omega); simp only [kk] at this; omega
 have hhigh : n ≤ (msr (aOf e (M.take (i + 1)))).breaks := by have h2 : n ≤ keyOf 1 (tot (t.items.take (i + 1))) := hj1; rw [kk] at h2; exact h2
 obtain ⟨x, hx⟩ : ∃ x, t.items[i]? = some x := ⟨_, List.getElem?_eq_getElem (by omega)⟩
 obtain ⟨y, hy, hp⟩ := hi.get i hx
 have hM1 : aOf e (M.take (i + 1)) = aOf e (M.take i) ++ ats e y.2 := by
  rw [List.take_add_one, hy, aOf_app]
  show _ ++ aOf e [y] = _
  simp [aOf]
 have hMA : aOf e M = aOf e (M.take (i + 1)) ++ aOf e (M.drop (i + 1)) := by rw [← aOf_app, List.take_append_drop]
 have htkq : ∀ q, q ≤ (ats e y.2).length → (aOf e M).take ((aOf e (M.take i)).length + q) = aOf e (M.take i) ++ (ats e y.2).take q := fun q hq => by
  rw [hMA, hM1, List.append_assoc, List.take_length_add_append, List.take_append_of_le_length hq]
 have hpi := aOf_posd e (M.take i)
 have hpy := ats_posd e y.2
 have hszs : szs (aOf e (M.take i)) + y.2.length ≤ 1048576 := by
  have := congrArg szs hMA
  rw [szs_append, hM1, szs_append, szs_all] at this; omega
 refine rd e1 (find_call (k := 1) (n := n) (by decide) (by omega) (ht.ext e1) hf fun w2 e2 => ?_)
 have ew : IntKind.wrap .i64 (((i + 1 : Nat) : Int) - 1) = (i : Int) := by rw [wrap64 (by omega) (by omega)]; omega
 rw [hfind, ew]
 have e12 := e1.trans e2
 refine rd e12 (upto_call (ht.ext e12) hf (by omega) fun w3 e3 => ?_)
 have e13 := e12.trans e3
 have etk : tot (t.items.take i) = msr (aOf e (M.take i)) := (hi.take i).tot
 rw [etk]
 refine (St.start w3).newO fun b12 w4 S4 e4 => S4.aggSt 0 rfl rfl rfl rfl fun w5 S5 u5 => ?_
 refine rd (e13.trans S5.upd) (at_call (ht.ext (e13.trans S5.upd)) hf (by omega) fun w6 e6 => ?_)
 have e0 : atI t.items i = (x, true) := by unfold atI; rw [hx]
 rw [e0]
 refine (S5.ext e6).newO fun b16 w7 S7 e7 => S7.aggSt 0 rfl rfl rfl rfl fun w8 S8 u8 => ?_
 let Ls : Nat → List (Nat × Obj) := fun q => [(b16, .cells (Cells.vals c93 (pcT x)).toArray 93 (0, 0)), (b12, .cells (Cells.vals c91 (smT (msr (aOf e (M.take i) ++ (ats e y.2).take q)))).toArray 91 (0, 0))]
 have S8' : St (fun _ => False) w3 w8 (Ls 0) := by show St _ _ _ [_, _]; rw [List.take_zero, List.append_nil]; exact S8
 refine join_r (fun _ w' => ∃ q, q ≤ (ats e y.2).length ∧ n ≤ (msr (aOf e (M.take i) ++ (ats e y.2).take q)).breaks ∧ (∀ j, j < (aOf e (M.take i)).length + q → (msr ((aOf e M).take j)).breaks < n) ∧ St (fun _ => False) w3 w' (Ls q)) ?_ ?_
 ·refine sloop_r (fun s w' => ∃ q, q ≤ (ats e y.2).length ∧ s = (((szs ((ats e y.2).take q) : Nat) : Int), ()) ∧ (∀ j, j < (aOf e (M.take i)).length + q → (msr ((aOf e M).take j)).breaks < n) ∧ St (fun _ => False) w3 w' (Ls q)) (fun s _ => ((y.2.length : Int) - s.1).toNat) ⟨0, Nat.zero_le _, rfl, fun j hj => ?_, S8'⟩ ?_
  ·have h1 := brk_take_mono hpos (i := j) (j := (aOf e (M.take i)).length + 0) (by omega)
   rw [htkq 0 (Nat.zero_le _), List.take_zero, List.append_nil] at h1
   omega
  rintro _ w9 ⟨q, hq, rfl, hlt, S9⟩
  have hbl := hp.by_.len
  have hsy : szs ((ats e y.2).take q) ≤ y.2.length := pos_le q
  refine join_r (fun s w' => s = (decide (szs ((ats e y.2).take q) < y.2.length) && decide ((msr (aOf e (M.take i) ++ (ats e y.2).take q)).breaks < n), ()) ∧ w9 = w') ?_ ?_
  ·refine S9.ld 0 rfl (x := x.bytes) rfl (sif_r (fun hc => S9.ld 1 rfl (x := (((msr (aOf e (M.take i) ++ (ats e y.2).take q)).breaks : Nat) : Int)) rfl ⟨tupb ?_, rfl⟩) (fun hc => ⟨tupb ?_, rfl⟩))
   ·simp only [decide_eq_true_eq, Bool.and_eq_true] at hc ⊢; omega
   ·simp only [decide_eq_false_iff_not, Bool.and_eq_true, decide_eq_true_eq] at hc ⊢
    constructor
    ·intro h; cases h
    ·intro h; omega
  rintro _ w10 ⟨rfl, rfl⟩
  refine sif_r (fun hc => ?_) (fun hc => ?_)
  ·simp only [Bool.and_eq_true, decide_eq_true_eq] at hc
   obtain ⟨a, m, hqa, hnx, htk, hss, hm1, hsl⟩ := pos_step (e := e) (l := y.2) (j := q) hc.1
   have hql : q < (ats e y.2).length := (List.getElem?_eq_some_iff.1 hqa).1
   refine S9.drew fun w11 S11 e11 _ => ((h.ext e13).ext S11.upd).enc (S11.ld 0 rfl (x := x.bytes) rfl (next_call ((hp.by_.ext e13).ext S11.upd) hc.1 fun w12 e12 => ?_))
   rw [hnx]
   have S12 := S11.ext e12
   have pq := hpi.app (hpy.take q)
   refine S12.drew fun w13 S13 e13' _ => S13.lds 1 (smT _) rfl (single_call fun w14 e14 => ?_)
   have S14 := S13.ext e14
   refine S14.keeps 1 rfl (add_call (msr_ok pq) (one1_ok a hm1) ?_ fun w15 e15 => ?_)
   ·rw [msr_bytes pq, szs_append]
    show szs (aOf e (M.take i)) + szs ((ats e y.2).take q) + m < 2 ^ 60
    omega
   have S15 := S14.ext e15
   rw [← msr_snoc pq hm1, List.append_assoc, ← htk]
   refine S15.aggSt 1 rfl rfl rfl rfl fun w16 S16 u16 => ?_
   have ewa : IntKind.wrap .i64 (((szs ((ats e y.2).take q) : Nat) : Int) + (m : Int)) = ((szs ((ats e y.2).take (q + 1)) : Nat) : Int) := by
    rw [wrap64 (by omega) (by omega)]; omega
   refine ⟨⟨q + 1, by omega, by dsimp only; rw [ewa], fun j hj => ?_, S16⟩, ?_⟩
   ·by_cases hjq : j < (aOf e (M.take i)).length + q
    ·exact hlt j hjq
    ·have : j = (aOf e (M.take i)).length + q := by omega
     subst this
     rw [htkq q (by omega)]; exact hc.2
   ·dsimp only
    rw [ewa]; omega
  ·refine ⟨q, hq, ?_, hlt, S9⟩
   by_cases hb : (msr (aOf e (M.take i) ++ (ats e y.2).take q)).breaks < n
   ·have hnl : ¬ szs ((ats e y.2).take q) < y.2.length := fun h2 => by simp [h2, hb] at hc
    rw [pos_end hnl, ← hM1]; exact hhigh
   ·omega
 ·rintro _ w9 ⟨q, hq, hge, hlt, S9⟩
  have hatoms : (msr (aOf e (M.take i) ++ (ats e y.2).take q)).atoms = (aOf e (M.take i)).length + q := by
   rw [msr_atoms (hpi.app (hpy.take q)), List.length_append, List.length_take]; omega
  have htk := htkq q hq
  have hmle : (aOf e (M.take i)).length + q ≤ (aOf e M).length := by
   have := congrArg List.length hMA
   rw [List.length_append, hM1, List.length_append] at this; omega
  rw [← htk] at hge hatoms
  have S9' : St (fun _ => False) w3 w9 [(b16, .cells (Cells.vals c93 (pcT x)).toArray 93 (0, 0)), (b12, .cells (Cells.vals c91 (smT (msr ((aOf e M).take ((aOf e (M.take i)).length + q))))).toArray 91 (0, 0))] := by rw [htk]; exact S9
  generalize hm : (aOf e (M.take i)).length + q = m at *
  have hm0 : 0 < m := by
   rcases Nat.eq_zero_or_pos m with h0 | h0
   ·subst h0; rw [List.take_zero] at hge
    have : (msr []).breaks = 0 := rfl
    omega
   ·exact h0
  have hres : sk (atoms (aOf e M)) n = some (if split13 (atoms (aOf e M)) m then m + 1 else m) := by
   refine sk_of _ n m hn1 (by omega) ?_ fun j hj => ?_
   ·rw [← atoms_take, ← msr_breaks (hpos.take m)]; exact hge
   ·rw [← atoms_take, ← msr_breaks (hpos.take j)]; exact hlt j hj
  have hsp := cr_split hpos (n := m) hm0 (by omega)
  have hres2 : skI (atoms (aOf e M)) (n : Int) = if split13 (atoms (aOf e M)) m then (m : Int) + 1 else (m : Int) := by
   unfold skI
   rw [if_neg (by omega), Int.toNat_natCast, hres]
   dsimp only
   split <;> omega
  rw [hres2] at hK
  have ea : ∀ {P : Int → World → Prop} {W : World}, P (m : Int) W → P (((msr ((aOf e M).take m)).atoms : Nat) : Int) W := by
   intro P W hP; rw [hatoms]; exact hP
  refine S9'.ld 1 rfl (x := (((msr ((aOf e M).take m)).atoms : Nat) : Int)) rfl (S9'.ld 1 rfl (x := (((msr ((aOf e M).take m)).atoms : Nat) : Int)) rfl ?_)
  rw [hatoms]
  have ew1 : IntKind.wrap .i64 ((m : Int) + 1) = (m : Int) + 1 := wrap64 (by omega) (by omega)
  rw [ew1]
  refine atoms_call ((h.ext e13).ext S9'.upd) fun s w10 o10 e10 => ?_
  have S10 := S9'.ext e10
  rw [sub_one] at o10
  refine join_r (fun x w' => x = (split13 (atoms (aOf e M)) m, ()) ∧ w10 = w') ?_ ?_
  ·refine S10.ld 1 rfl (x := (msr ((aOf e M).take m)).cr) rfl (sif_r (fun hr => ?_) (fun hr => ?_))
   ·rw [hsp, hr, Bool.true_and]
    cases ha : (atoms (aOf e M))[m]? with
    | none =>
     rw [take_none ha] at o10
     have hl := o10.len1
     refine sif_r (fun hc => ?_) (fun hc => ⟨rfl, rfl⟩)
     simp only [beq_iff_eq] at hc
     simp at hl; omega
    | some a =>
     rw [take_one ha] at o10
     have hl := o10.len1
     refine sif_r (fun hc => ix_ld (c := .int .i64) (xs := [a]) o10.in (by decide) (x := a) rfl fun p => ⟨rfl, rfl⟩) (fun hc => ?_)
     simp only [beq_eq_false_iff_ne] at hc
     simp at hl; omega
   ·rw [hsp, hr]; exact ⟨rfl, rfl⟩
  rintro _ w11 ⟨rfl, rfl⟩
  have e0 := (e13.trans S10.upd)
  refine sif_r (fun hr => S10.ld 1 rfl (x := (((msr ((aOf e M).take m)).atoms : Nat) : Int)) rfl ?_) (fun hr => S10.ld 1 rfl (x := (((msr ((aOf e M).take m)).atoms : Nat) : Int)) rfl ?_)
  ·rw [hatoms, ew1]
   have := hK w10 e0
   rw [if_pos hr] at this
   exact this
  ·rw [hatoms]
   have := hK w10 e0
   have hr' : split13 (atoms (aOf e M)) m = false := hr
   rw [if_neg (by rw [hr']; decide)] at this
   exact this
end
end Go.Proofs.YtolhlldgnfbemaaGreat
namespace Go.Proofs.YtolhlldgnfbemaaGreat
open Go Go.Vx
noncomputable def F12 (a0 : Option Addr) (a1 : Int) (a2 : Bool) (K : Int → World → Prop) : World → Prop :=
 callT Tryz.prog 36 #[(.pointer a0), (.int .i64 a1), (.bool a2)] (.one (.agg c72)) fun (x1 : (Int × Int × Int × Int × Int × Sl × Sl × Unit)) =>
 newO (.cells #[(.int .i64 (0 : Int)), (.int .i64 (0 : Int)), (.int .i64 (0 : Int)), (.int .i64 (0 : Int)), (.int .i64 (0 : Int)), (.slice none 0 0), (.slice none 0 0)] 72) fun b2 =>
 aggSt (at0 b2) (.agg (Cells.vals c72 x1).toArray) 7 <|
 callT Tryz.prog 37 #[(.pointer a0)] (.one (.one (.int .i64))) fun (x3 : Int) =>
 ld (.int .i64) (⟨b2, 1, none⟩ : Addr) fun (x4 : Int) =>
 sif (decide ((if x3 < (if (0 : Int) > a1 then (0 : Int) else a1) then x3 else (if (0 : Int) > a1 then (0 : Int) else a1)) ≥ x4)) (
 sif a2 (
 ld (.int .i64) (⟨b2, 1, none⟩ : Addr) fun (x5 : Int) =>
 K x5) (
 drew <|
 lds c72 (at0 b2) fun (x6 : (Int × Int × Int × Int × Int × Sl × Sl × Unit)) =>
 lds c72 (at0 b2) fun (x7 : (Int × Int × Int × Int × Int × Sl × Sl × Unit)) =>
 callT Tryz.prog 39 #[(.agg (Cells.vals c72 x7).toArray)] (.one (.one (.int .i64))) fun (x8 : Int) =>
 keep (fun w => cellsAt w (at0 b2) 0 (Cells.vals c72 x6)) <|
 callT Tryz.prog 38 #[(.agg (Cells.vals c72 x6).toArray), (.int .i64 (IntKind.wrap .i64 (x8 - (1 : Int))))] (.one (.one (.int .i64))) fun (x9 : Int) =>
 K x9)) (
 drew <|
 lds c72 (at0 b2) fun (x10 : (Int × Int × Int × Int × Int × Sl × Sl × Unit)) =>
 lds c72 (at0 b2) fun (x11 : (Int × Int × Int × Int × Int × Sl × Sl × Unit)) =>
 callT Tryz.prog 40 #[(.agg (Cells.vals c72 x11).toArray), (.int .i64 (if x3 < (if (0 : Int) > a1 then (0 : Int) else a1) then x3 else (if (0 : Int) > a1 then (0 : Int) else a1)))] (.one (.one (.int .i64))) fun (x12 : Int) =>
 keep (fun w => cellsAt w (at0 b2) 0 (Cells.vals c72 x10)) <|
 callT Tryz.prog 38 #[(.agg (Cells.vals c72 x10).toArray), (.int .i64 x12)] (.one (.one (.int .i64))) fun (x13 : Int) =>
 K x13)
noncomputable def h12 : Hint := (hS (hR 1) (hS (hR 6) (hS (hR 6) (hS (hS (hR 5) (hC (hS (hS (hR 1) (hC (hS (hR 4) hL) hL)) (hS (.region [0, 1, 2, 3, 4, 5] (hO 6)) hL)) hL)) (hS (.region [0, 1, 2, 3, 4, 5] (hO 6)) hL)))))
theorem F12_calls {a0 : Option Addr} {a1 : Int} {a2 : Bool} {K : Int → World → Prop} {w : World} (h : F12 a0 a1 a2 K w) : callT Tryz.prog 12 #[(.pointer a0), (.int .i64 a1), (.bool a2)] (.one (.one (.int .i64))) K w := tied tabOk Tryz.func12 h12 [(.pointer a0), (.int .i64 a1), (.bool a2)] h
noncomputable def F16 (a0 : Option Addr) (a1 : Int) (a2 : (Int × Int × Int × Unit)) (a3 : Bool) (K : ((Int × Int × Int × Unit) × Int × Unit) → World → Prop) : World → Prop :=
 newO (.cells #[(.int .i64 a2.1), (.int .i64 a2.2.1), (.int .i64 a2.2.2.1)] 31) fun b1 =>
 newO (.cells #[(.int .i64 (0 : Int)), (.int .i64 (0 : Int)), (.int .i64 (0 : Int))] 43) fun b2 =>
 lds c31 (at0 b1) fun (x3 : (Int × Int × Int × Unit)) =>
 callT Tryz.prog 45 #[(.func (.func 46) #[] #[]), (.pointer a0), (.int .i64 a1), (.int .i64 (0 : Int)), (.agg (Cells.vals c31 x3).toArray), (.bool a3)] (.tup [(.agg c43), (.one (.int .i64))]) fun (x4 : ((Int × Int × Int × Unit) × Int × Unit)) =>
 aggSt (at0 b2) (.agg (Cells.vals c43 x4.1).toArray) 3 <|
 lds c43 (at0 b2) fun (x5 : (Int × Int × Int × Unit)) =>
 K (x5, x4.2.1, ())
noncomputable def h16 : Hint := (hS (hR 3) (hS (hR 9) hL))
theorem F16_calls {a0 : Option Addr} {a1 : Int} {a2 : (Int × Int × Int × Unit)} {a3 : Bool} {K : ((Int × Int × Int × Unit) × Int × Unit) → World → Prop} {w : World} (h : F16 a0 a1 a2 a3 K w) : callT Tryz.prog 16 #[(.pointer a0), (.int .i64 a1), (.agg (Cells.vals c31 a2).toArray), (.bool a3)] (.tup [(.agg c43), (.one (.int .i64))]) K w := tied tabOk Tryz.func16 h16 [(.pointer a0), (.int .i64 a1), (.agg (Cells.vals c31 a2).toArray), (.bool a3)] h
noncomputable def F19 (a0 : Option Addr) (K : Int → World → Prop) : World → Prop :=
 callT Tryz.prog 37 #[(.pointer a0)] (.one (.one (.int .i64))) fun (x1 : Int) =>
 callT Tryz.prog 50 #[(.pointer a0), (.int .i64 x1)] (.one (.one (.int .i64))) fun (x2 : Int) =>
 join (S := Int × Unit) (fun J3 =>
 callT Tryz.prog 51 #[(.pointer a0)] (.one (.one .bool)) fun (x5 : Bool) =>
 sif (!x5) (
 J3 ((IntKind.wrap .i64 (x2 + (1 : Int))), ())) (
 J3 (x2, ()))) fun (s4 : Int × Unit) =>
 K s4.1
noncomputable def h19 : Hint := (hS (hR 1) (hS (hR 5) (hJ (7944, [(3, tI)]) (hS (hR 3) (hC (hR 3) hL)) (hS (hR 2) hL))))
theorem F19_calls {a0 : Option Addr} {K : Int → World → Prop} {w : World} (h : F19 a0 K w) : callT Tryz.prog 19 #[(.pointer a0)] (.one (.one (.int .i64))) K w := tied tabOk Tryz.func19 h19 [(.pointer a0)] h
noncomputable def F20 (a0 : Option Addr) (a1 : Int) (K : Int → World → Prop) : World → Prop :=
 callT Tryz.prog 37 #[(.pointer a0)] (.one (.one (.int .i64))) fun (x1 : Int) =>
 callT Tryz.prog 50 #[(.pointer a0), (.int .i64 (if x1 < (if (0 : Int) > a1 then (0 : Int) else a1) then x1 else (if (0 : Int) > a1 then (0 : Int) else a1)))] (.one (.one (.int .i64))) fun (x2 : Int) =>
 K x2
noncomputable def h20 : Hint := (hS (hR 1) (hS (hR 8) hL))
theorem F20_calls {a0 : Option Addr} {a1 : Int} {K : Int → World → Prop} {w : World} (h : F20 a0 a1 K w) : callT Tryz.prog 20 #[(.pointer a0), (.int .i64 a1)] (.one (.one (.int .i64))) K w := tied tabOk Tryz.func20 h20 [(.pointer a0), (.int .i64 a1)] h
noncomputable def F21 (a0 : Option Addr) (a1 : Int) (K : Int → World → Prop) : World → Prop :=
 callT Tryz.prog 36 #[(.pointer a0), (.int .i64 a1), (.bool true)] (.one (.agg c72)) fun (x1 : (Int × Int × Int × Int × Int × Sl × Sl × Unit)) =>
 newO (.cells #[(.int .i64 (0 : Int)), (.int .i64 (0 : Int)), (.int .i64 (0 : Int)), (.int .i64 (0 : Int)), (.int .i64 (0 : Int)), (.slice none 0 0), (.slice none 0 0)] 72) fun b2 =>
 aggSt (at0 b2) (.agg (Cells.vals c72 x1).toArray) 7 <|
 lds c72 (at0 b2) fun (x3 : (Int × Int × Int × Int × Int × Sl × Sl × Unit)) =>
 callT Tryz.prog 40 #[(.agg (Cells.vals c72 x3).toArray), (.int .i64 a1)] (.one (.one (.int .i64))) fun (x4 : Int) =>
 K x4
noncomputable def h21 : Hint := (hS (hR 1) (hS (hR 5) (hS (hR 4) hL)))
theorem F21_calls {a0 : Option Addr} {a1 : Int} {K : Int → World → Prop} {w : World} (h : F21 a0 a1 K w) : callT Tryz.prog 21 #[(.pointer a0), (.int .i64 a1)] (.one (.one (.int .i64))) K w := tied tabOk Tryz.func21 h21 [(.pointer a0), (.int .i64 a1)] h
noncomputable def F22 (a0 : Option Addr) (a1 : Int) (a2 : Int) (a3 : (Int × Int × Int × Unit)) (K : ((Int × Int × Int × Unit) × Int × Unit) → World → Prop) : World → Prop :=
 newO (.cells #[(.int .i64 a3.1), (.int .i64 a3.2.1), (.int .i64 a3.2.2.1)] 31) fun b1 =>
 newO (.cells #[(.int .i64 (0 : Int)), (.int .i64 (0 : Int)), (.int .i64 (0 : Int))] 43) fun b2 =>
 lds c31 (at0 b1) fun (x3 : (Int × Int × Int × Unit)) =>
 callT Tryz.prog 45 #[(.func (.func 52) #[] #[]), (.pointer a0), (.int .i64 a1), (.int .i64 a2), (.agg (Cells.vals c31 x3).toArray), (.bool false)] (.tup [(.agg c43), (.one (.int .i64))]) fun (x4 : ((Int × Int × Int × Unit) × Int × Unit)) =>
 aggSt (at0 b2) (.agg (Cells.vals c43 x4.1).toArray) 3 <|
 lds c43 (at0 b2) fun (x5 : (Int × Int × Int × Unit)) =>
 K (x5, x4.2.1, ())
noncomputable def h22 : Hint := (hS (hR 3) (hS (hR 9) hL))
theorem F22_calls {a0 : Option Addr} {a1 : Int} {a2 : Int} {a3 : (Int × Int × Int × Unit)} {K : ((Int × Int × Int × Unit) × Int × Unit) → World → Prop} {w : World} (h : F22 a0 a1 a2 a3 K w) : callT Tryz.prog 22 #[(.pointer a0), (.int .i64 a1), (.int .i64 a2), (.agg (Cells.vals c31 a3).toArray)] (.tup [(.agg c43), (.one (.int .i64))]) K w := tied tabOk Tryz.func22 h22 [(.pointer a0), (.int .i64 a1), (.int .i64 a2), (.agg (Cells.vals c31 a3).toArray)] h
noncomputable def F24 (a0 : Option Addr) (a1 : Int) (a2 : (Int × Int × Int × Unit)) (K : ((Int × Int × Int × Unit) × Int × Unit) → World → Prop) : World → Prop :=
 newO (.cells #[(.int .i64 a2.1), (.int .i64 a2.2.1), (.int .i64 a2.2.2.1)] 31) fun b1 =>
 newO (.cells #[(.int .i64 (0 : Int)), (.int .i64 (0 : Int)), (.int .i64 (0 : Int))] 43) fun b2 =>
 lds c31 (at0 b1) fun (x3 : (Int × Int × Int × Unit)) =>
 callT Tryz.prog 45 #[(.func (.func 56) #[] #[]), (.pointer a0), (.int .i64 a1), (.int .i64 (0 : Int)), (.agg (Cells.vals c31 x3).toArray), (.bool false)] (.tup [(.agg c43), (.one (.int .i64))]) fun (x4 : ((Int × Int × Int × Unit) × Int × Unit)) =>
 aggSt (at0 b2) (.agg (Cells.vals c43 x4.1).toArray) 3 <|
 lds c43 (at0 b2) fun (x5 : (Int × Int × Int × Unit)) =>
 K (x5, x4.2.1, ())
noncomputable def h24 : Hint := (hS (hR 3) (hS (hR 8) hL))
theorem F24_calls {a0 : Option Addr} {a1 : Int} {a2 : (Int × Int × Int × Unit)} {K : ((Int × Int × Int × Unit) × Int × Unit) → World → Prop} {w : World} (h : F24 a0 a1 a2 K w) : callT Tryz.prog 24 #[(.pointer a0), (.int .i64 a1), (.agg (Cells.vals c31 a2).toArray)] (.tup [(.agg c43), (.one (.int .i64))]) K w := tied tabOk Tryz.func24 h24 [(.pointer a0), (.int .i64 a1), (.agg (Cells.vals c31 a2).toArray)] h
noncomputable def F29 (a0 : Option Addr) (a1 : Int) (a2 : Int) (a3 : Bool) (K : Int → World → Prop) : World → Prop :=
 callT Tryz.prog 19 #[(.pointer a0)] (.one (.one (.int .i64))) fun (x1 : Int) =>
 callT Tryz.prog 61 #[(.pointer a0), (.int .i64 (if (IntKind.wrap .i64 (x1 - (1 : Int))) < (if (0 : Int) > a1 then (0 : Int) else a1) then (IntKind.wrap .i64 (x1 - (1 : Int))) else (if (0 : Int) > a1 then (0 : Int) else a1)))] (.one (.agg c72)) fun (x2 : (Int × Int × Int × Int × Int × Sl × Sl × Unit)) =>
 newO (.cells #[(.int .i64 (0 : Int)), (.int .i64 (0 : Int)), (.int .i64 (0 : Int)), (.int .i64 (0 : Int)), (.int .i64 (0 : Int)), (.slice none 0 0), (.slice none 0 0)] 72) fun b3 =>
 aggSt (at0 b3) (.agg (Cells.vals c72 x2).toArray) 7 <|
 join (S := Int × Unit) (fun J4 =>
 lds c72 (at0 b3) fun (x6 : (Int × Int × Int × Int × Int × Sl × Sl × Unit)) =>
 callT Tryz.prog 39 #[(.agg (Cells.vals c72 x6).toArray)] (.one (.one (.int .i64))) fun (x7 : Int) =>
 join (S := Bool × Unit) (fun J8 =>
 sif (decide (a2 ≥ x7)) (
 J8 ((!a3), ())) (
 J8 (false, ()))) fun (s9 : Bool × Unit) =>
 sif s9.1 (
 J4 ((IntKind.wrap .i64 (x7 - (1 : Int))), ())) (
 J4 (a2, ()))) fun (s5 : Int × Unit) =>
 lds c72 (at0 b3) fun (x10 : (Int × Int × Int × Int × Int × Sl × Sl × Unit)) =>
 callT Tryz.prog 38 #[(.agg (Cells.vals c72 x10).toArray), (.int .i64 s5.1)] (.one (.one (.int .i64))) fun (x11 : Int) =>
 K x11
noncomputable def h29 : Hint := (hS (hR 1) (hS (hR 10) (hJ (1073218564, [(2, tI)]) (hS (hR 3) (hJ (266338304, [(27, tB)]) (.region [] (.ops 4 (.split 24 (hO 3) (.skips 2 (hO 1))))) (hC (hR 3) hL))) (hS (hR 4) hL))))
theorem F29_calls {a0 : Option Addr} {a1 : Int} {a2 : Int} {a3 : Bool} {K : Int → World → Prop} {w : World} (h : F29 a0 a1 a2 a3 K w) : callT Tryz.prog 29 #[(.pointer a0), (.int .i64 a1), (.int .i64 a2), (.bool a3)] (.one (.one (.int .i64))) K w := tied tabOk Tryz.func29 h29 [(.pointer a0), (.int .i64 a1), (.int .i64 a2), (.bool a3)] h
noncomputable def F30 (a0 : Option Addr) (a1 : Int) (a2 : Int) (a3 : Int) (K : ((Int × Int × Int × Unit) × Int × Unit) → World → Prop) : World → Prop :=
 newO (.cells #[(.int .i64 (0 : Int)), (.int .i64 (0 : Int)), (.int .i64 (0 : Int))] 62) fun b1 =>
 callT Tryz.prog 12 #[(.pointer a0), (.int .i64 a1), (.bool true)] (.one (.one (.int .i64))) fun (x2 : Int) =>
 callT Tryz.prog 12 #[(.pointer a0), (.int .i64 a2), (.bool true)] (.one (.one (.int .i64))) fun (x3 : Int) =>
 callT Tryz.prog 36 #[(.pointer a0), (.int .i64 (if x3 > x2 then x3 else x2)), (.bool true)] (.one (.agg c72)) fun (x4 : (Int × Int × Int × Int × Int × Sl × Sl × Unit)) =>
 newO (.cells #[(.int .i64 (0 : Int)), (.int .i64 (0 : Int)), (.int .i64 (0 : Int)), (.int .i64 (0 : Int)), (.int .i64 (0 : Int)), (.slice none 0 0), (.slice none 0 0)] 72) fun b5 =>
 aggSt (at0 b5) (.agg (Cells.vals c72 x4).toArray) 7 <|
 sif (a3 == (0 : Int)) (
 join (S := Int × Unit) (fun J6 =>
 join (S := Bool × Unit) (fun J8 =>
 ld (.int .i64) (at0 b5) fun (x10 : Int) =>
 sif ((if x3 > x2 then x3 else x2) == x10) (
 sif (decide ((if x3 < x2 then x3 else x2) < (if x3 > x2 then x3 else x2))) (
 ld (.int .i64) (⟨b5, 4, none⟩ : Addr) fun (x11 : Int) =>
 J8 ((decide (x11 > (0 : Int))), ())) (
 J8 (false, ()))) (
 J8 (false, ()))) fun (s9 : Bool × Unit) =>
 sif s9.1 (
 ld (.int .i64) (⟨b5, 4, none⟩ : Addr) fun (x12 : Int) =>
 callT Tryz.prog 41 #[(.pointer a0), (.int .i64 (IntKind.wrap .i64 (x12 - (1 : Int))))] (.tup [(.agg c36), (.one (.int .i64))]) fun (x13 : ((Int × Int × Int × Int × Unit) × Int × Unit)) =>
 newO (.cells #[(.int .i64 (0 : Int)), (.int .i64 (0 : Int)), (.int .i64 (0 : Int)), (.int .i64 (0 : Int))] 36) fun b14 =>
 aggSt (at0 b14) (.agg (Cells.vals c36 x13.1).toArray) 4 <|
 ld (.int .i64) (⟨b14, 1, none⟩ : Addr) fun (x15 : Int) =>
 J6 ((if (if x3 < x2 then x3 else x2) > x15 then (if x3 < x2 then x3 else x2) else x15), ())) (
 J6 ((if x3 > x2 then x3 else x2), ()))) fun (s7 : Int × Unit) =>
 aggSt (at0 b1) (.agg #[(.int .i64 (if x3 < x2 then x3 else x2)), (.int .i64 s7.1), (.int .i64 (0 : Int))]) 3 <|
 lds c62 (at0 b1) fun (x16 : (Int × Int × Int × Unit)) =>
 K (x16, (0 : Int), ())) (
 sif (a3 == (1 : Int)) (
 join (S := Int × Unit) (fun J17 =>
 ld (.int .i64) (⟨b5, 1, none⟩ : Addr) fun (x19 : Int) =>
 sif (decide ((if x3 > x2 then x3 else x2) < x19)) (
 drew <|
 lds c72 (at0 b5) fun (x20 : (Int × Int × Int × Int × Int × Sl × Sl × Unit)) =>
 lds c72 (at0 b5) fun (x21 : (Int × Int × Int × Int × Int × Sl × Sl × Unit)) =>
 callT Tryz.prog 40 #[(.agg (Cells.vals c72 x21).toArray), (.int .i64 (if x3 > x2 then x3 else x2))] (.one (.one (.int .i64))) fun (x22 : Int) =>
 keep (fun w => cellsAt w (at0 b5) 0 (Cells.vals c72 x20)) <|
 callT Tryz.prog 38 #[(.agg (Cells.vals c72 x20).toArray), (.int .i64 (IntKind.wrap .i64 (x22 + (1 : Int))))] (.one (.one (.int .i64))) fun (x23 : Int) =>
 J17 (x23, ())) (
 J17 ((if x3 > x2 then x3 else x2), ()))) fun (s18 : Int × Unit) =>
 aggSt (at0 b1) (.agg #[(.int .i64 (if x3 < x2 then x3 else x2)), (.int .i64 s18.1), (.int .i64 (0 : Int))]) 3 <|
 lds c62 (at0 b1) fun (x24 : (Int × Int × Int × Unit)) =>
 K (x24, (0 : Int), ())) (
 sif (a3 == (2 : Int)) (
 callT Tryz.prog 36 #[(.pointer a0), (.int .i64 (if x3 < x2 then x3 else x2)), (.bool false)] (.one (.agg c72)) fun (x25 : (Int × Int × Int × Int × Int × Sl × Sl × Unit)) =>
 callT Tryz.prog 36 #[(.pointer a0), (.int .i64 (if x3 > x2 then x3 else x2)), (.bool false)] (.one (.agg c72)) fun (x26 : (Int × Int × Int × Int × Int × Sl × Sl × Unit)) =>
 newO (.cells #[(.int .i64 (0 : Int)), (.int .i64 (0 : Int)), (.int .i64 (0 : Int)), (.int .i64 (0 : Int)), (.int .i64 (0 : Int)), (.slice none 0 0), (.slice none 0 0)] 72) fun b27 =>
 newO (.cells #[(.int .i64 (0 : Int)), (.int .i64 (0 : Int)), (.int .i64 (0 : Int)), (.int .i64 (0 : Int)), (.int .i64 (0 : Int)), (.slice none 0 0), (.slice none 0 0)] 72) fun b28 =>
 aggSt (at0 b27) (.agg (Cells.vals c72 x25).toArray) 7 <|
 aggSt (at0 b28) (.agg (Cells.vals c72 x26).toArray) 7 <|
 ld (.int .i64) (at0 b27) fun (x29 : Int) =>
 ld (.int .i64) (⟨b28, 2, none⟩ : Addr) fun (x30 : Int) =>
 aggSt (at0 b1) (.agg #[(.int .i64 x29), (.int .i64 x30), (.int .i64 (1 : Int))]) 3 <|
 lds c62 (at0 b1) fun (x31 : (Int × Int × Int × Unit)) =>
 K (x31, (0 : Int), ())) (
 aggSt (at0 b1) (.agg #[(.int .i64 (0 : Int)), (.int .i64 (0 : Int)), (.int .i64 (0 : Int))]) 3 <|
 lds c62 (at0 b1) fun (x32 : (Int × Int × Int × Unit)) =>
 K (x32, (1 : Int), ()))))
noncomputable def h30 : Hint := (hS (hR 2) (hS (hR 8) (hS (hR 8) (hS (hR 5) (hS (hS (hR 1) (.block (hS (hR 2) (hC (hJ (4611685984067676160, [(11, tI)]) (hJ (1125865547104256, [(49, tB)]) (.region [] (.ops 6 (.split 40 (.ops 5 (.split 45 (hO 4) (.skips 3 (hO 1)))) (.skips 3 (.ops 2 (.skips 3 (hO 1))))))) (hC (hS (hR 11) (hR 5)) hL)) (hS (hR 5) hL)) (hS (hR 2) (hC (hJ (302083880951067617265664, [(11, tI)]) (hS (hR 5) (hC (.region [0, 1, 2, 3, 4, 5, 6] (hO 7)) hL)) (hS (hR 5) hL)) (hS (hR 2) (hC (hS (hR 10) (hS (hR 9) hL)) hL)))))))) (hS (hR 3) hL))))))
theorem F30_calls {a0 : Option Addr} {a1 : Int} {a2 : Int} {a3 : Int} {K : ((Int × Int × Int × Unit) × Int × Unit) → World → Prop} {w : World} (h : F30 a0 a1 a2 a3 K w) : callT Tryz.prog 30 #[(.pointer a0), (.int .i64 a1), (.int .i64 a2), (.int .i64 a3)] (.tup [(.agg c62), (.one (.int .i64))]) K w := tied tabOk Tryz.func30 h30 [(.pointer a0), (.int .i64 a1), (.int .i64 a2), (.int .i64 a3)] h
noncomputable def F32 (a0 : Option Addr) (a1 : Int) (a2 : (Int × Int × Int × Unit)) (K : ((Int × Int × Int × Unit) × Int × Unit) → World → Prop) : World → Prop :=
 newO (.cells #[(.int .i64 a2.1), (.int .i64 a2.2.1), (.int .i64 a2.2.2.1)] 31) fun b1 =>
 newO (.cells #[(.int .i64 (0 : Int)), (.int .i64 (0 : Int)), (.int .i64 (0 : Int))] 62) fun b2 =>
 callT Tryz.prog 12 #[(.pointer a0), (.int .i64 a1), (.bool false)] (.one (.one (.int .i64))) fun (x3 : Int) =>
 newO (.cells #[(.int .i64 (0 : Int)), (.int .i64 (0 : Int)), (.int .i64 (0 : Int))] 43) fun b4 =>
 join (S := Int × Unit) (fun J5 =>
 ld (.int .i64) (at0 b1) fun (x7 : Int) =>
 join (S := Bool × Unit) (fun J8 =>
 sif (decide (x7 ≥ (1 : Int))) (
 J8 ((decide (x7 ≤ (10 : Int))), ())) (
 J8 (false, ()))) fun (s9 : Bool × Unit) =>
 sif s9.1 (
 lds c31 (at0 b1) fun (x10 : (Int × Int × Int × Unit)) =>
 callT Tryz.prog 16 #[(.pointer a0), (.int .i64 x3), (.agg (Cells.vals c31 x10).toArray), (.bool true)] (.tup [(.agg c43), (.one (.int .i64))]) fun (x11 : ((Int × Int × Int × Unit) × Int × Unit)) =>
 aggSt (at0 b4) (.agg (Cells.vals c43 x11.1).toArray) 3 <|
 J5 (x11.2.1, ())) (
 join (S := Bool × Unit) (fun J12 =>
 sif (decide (x7 ≥ (11 : Int))) (
 J12 ((decide (x7 ≤ (18 : Int))), ())) (
 J12 (false, ()))) fun (s13 : Bool × Unit) =>
 sif s13.1 (
 drew <|
 lds c31 (at0 b1) fun (x14 : (Int × Int × Int × Unit)) =>
 callT Tryz.prog 21 #[(.pointer a0), (.int .i64 x3)] (.one (.one (.int .i64))) fun (x15 : Int) =>
 keep (fun w => cellsAt w (at0 b1) 0 (Cells.vals c31 x14)) <|
 callT Tryz.prog 22 #[(.pointer a0), (.int .i64 x3), (.int .i64 x15), (.agg (Cells.vals c31 x14).toArray)] (.tup [(.agg c43), (.one (.int .i64))]) fun (x16 : ((Int × Int × Int × Unit) × Int × Unit)) =>
 aggSt (at0 b4) (.agg (Cells.vals c43 x16.1).toArray) 3 <|
 J5 (x16.2.1, ())) (
 sif (x7 == (60 : Int)) (
 stC (at0 b1) (.int .i64 (15 : Int)) <|
 lds c31 (at0 b1) fun (x17 : (Int × Int × Int × Unit)) =>
 callT Tryz.prog 22 #[(.pointer a0), (.int .i64 x3), (.int .i64 (0 : Int)), (.agg (Cells.vals c31 x17).toArray)] (.tup [(.agg c43), (.one (.int .i64))]) fun (x18 : ((Int × Int × Int × Unit) × Int × Unit)) =>
 aggSt (at0 b4) (.agg (Cells.vals c43 x18.1).toArray) 3 <|
 J5 (x18.2.1, ())) (
 join (S := Bool × Unit) (fun J19 =>
 sif (decide (x7 ≥ (21 : Int))) (
 J19 ((decide (x7 ≤ (30 : Int))), ())) (
 J19 (false, ()))) fun (s20 : Bool × Unit) =>
 sif s20.1 (
 lds c31 (at0 b1) fun (x21 : (Int × Int × Int × Unit)) =>
 callT Tryz.prog 59 #[(.pointer a0), (.int .i64 x3), (.agg (Cells.vals c31 x21).toArray), (.bool true)] (.tup [(.agg c43), (.one (.int .i64))]) fun (x22 : ((Int × Int × Int × Unit) × Int × Unit)) =>
 aggSt (at0 b4) (.agg (Cells.vals c43 x22.1).toArray) 3 <|
 J5 (x22.2.1, ())) (
 join (S := Bool × Unit) (fun J23 =>
 sif (decide (x7 ≥ (31 : Int))) (
 J23 ((decide (x7 ≤ (33 : Int))), ())) (
 J23 (false, ()))) fun (s24 : Bool × Unit) =>
 sif s24.1 (
 lds c31 (at0 b1) fun (x25 : (Int × Int × Int × Unit)) =>
 callT Tryz.prog 24 #[(.pointer a0), (.int .i64 x3), (.agg (Cells.vals c31 x25).toArray)] (.tup [(.agg c43), (.one (.int .i64))]) fun (x26 : ((Int × Int × Int × Unit) × Int × Unit)) =>
 aggSt (at0 b4) (.agg (Cells.vals c43 x26.1).toArray) 3 <|
 J5 (x26.2.1, ())) (
 J5 ((1 : Int), ()))))))) fun (s6 : Int × Unit) =>
 sif (s6.1 != (0 : Int)) (
 aggSt (at0 b2) (.agg #[(.int .i64 (0 : Int)), (.int .i64 (0 : Int)), (.int .i64 (0 : Int))]) 3 <|
 lds c62 (at0 b2) fun (x27 : (Int × Int × Int × Unit)) =>
 K (x27, s6.1, ())) (
 join (S := Unit) (fun J28 =>
 join (S := Bool × Unit) (fun J30 =>
 ld (.int .i64) (at0 b1) fun (x32 : Int) =>
 sif (x32 == (21 : Int)) (
 J30 (true, ())) (
 ld (.int .i64) (at0 b1) fun (x33 : Int) =>
 J30 ((x33 == (25 : Int)), ()))) fun (s31 : Bool × Unit) =>
 sif s31.1 (
 ld (.int .i64) (at0 b4) fun (x34 : Int) =>
 lds c31 (at0 b1) fun (x35 : (Int × Int × Int × Unit)) =>
 callT Tryz.prog 62 #[(.pointer a0), (.int .i64 x3), (.int .i64 x34), (.agg (Cells.vals c31 x35).toArray)] (.tup [(.one (.int .i64)), (.one .bool)]) fun (x36 : (Int × Bool × Unit)) =>
 sif x36.2.1 (
 aggSt (at0 b2) (.agg #[(.int .i64 x3), (.int .i64 x36.1), (.int .i64 (0 : Int))]) 3 <|
 lds c62 (at0 b2) fun (x37 : (Int × Int × Int × Unit)) =>
 K (x37, (0 : Int), ())) (
 J28 ())) (
 J28 ())) fun (s29 : Unit) =>
 ld (.int .i64) (at0 b4) fun (x38 : Int) =>
 ld (.int .i64) (⟨b4, 1, none⟩ : Addr) fun (x39 : Int) =>
 callT Tryz.prog 30 #[(.pointer a0), (.int .i64 x3), (.int .i64 x38), (.int .i64 x39)] (.tup [(.agg c62), (.one (.int .i64))]) fun (x40 : ((Int × Int × Int × Unit) × Int × Unit)) =>
 aggSt (at0 b2) (.agg (Cells.vals c62 x40.1).toArray) 3 <|
 lds c62 (at0 b2) fun (x41 : (Int × Int × Int × Unit)) =>
 K (x41, x40.2.1, ()))
noncomputable def h32 : Hint := (hS (hR 3) (hS (hR 4) (hS (hR 1) (hS (hR 1) (hJ (618970019642690137449434112, [(10, tI)]) (hS (hR 3) (.block (hJ (66584576, [(19, tB)]) (.region [] (.ops 3 (.split 22 (hO 4) (.skips 2 (hO 2))))) (hC (hR 9) (hJ (1090921693184, [(33, tB)]) (.region [] (.ops 3 (.split 36 (hO 4) (.skips 2 (hO 2))))) (hC (.region [0, 1, 2, 3, 5, 4, 6, 7, 8, 9, 10, 11] (hO 12)) (hS (hR 3) (hC (hS (hR 2) (hR 9)) (hJ (292842062170139131904, [(61, tB)]) (.region [] (.ops 3 (.split 64 (hO 4) (.skips 2 (hO 2))))) (hC (hR 9) (hJ (4797924346595559537115136, [(75, tB)]) (.region [] (.ops 3 (.split 78 (hO 4) (.skips 2 (hO 2))))) (hC (hR 9) (hR 1))))))))))))) (hS (hS (hR 2) (hC (hS (hR 4) hL) hL)) (hJ (20769177530618996231079786123899008, []) (hJ (2525397680142175760794213416960, [(100, tB)]) (.region [] (.ops 4 (.split 96 (.skips 3 (hO 1)) (hO 4)))) (hC (hS (hR 11) (hS (hR 1) (hC (hS (hR 5) hL) hL))) hL)) (hS (hR 11) hL))))))))
theorem F32_calls {a0 : Option Addr} {a1 : Int} {a2 : (Int × Int × Int × Unit)} {K : ((Int × Int × Int × Unit) × Int × Unit) → World → Prop} {w : World} (h : F32 a0 a1 a2 K w) : callT Tryz.prog 32 #[(.pointer a0), (.int .i64 a1), (.agg (Cells.vals c31 a2).toArray)] (.tup [(.agg c62), (.one (.int .i64))]) K w := tied tabOk Tryz.func32 h32 [(.pointer a0), (.int .i64 a1), (.agg (Cells.vals c31 a2).toArray)] h
noncomputable def F36 (a0 : Option Addr) (a1 : Int) (a2 : Bool) (K : (Int × Int × Int × Int × Int × Sl × Sl × Unit) → World → Prop) : World → Prop :=
 newO (.cells #[(.int .i64 (0 : Int)), (.int .i64 (0 : Int)), (.int .i64 (0 : Int)), (.int .i64 (0 : Int)), (.int .i64 (0 : Int)), (.slice none 0 0), (.slice none 0 0)] 72) fun b1 =>
 callT Tryz.prog 20 #[(.pointer a0), (.int .i64 a1)] (.one (.one (.int .i64))) fun (x2 : Int) =>
 join (S := Int × Unit) (fun J3 =>
 sif (!a2) (
 callT Tryz.prog 19 #[(.pointer a0)] (.one (.one (.int .i64))) fun (x5 : Int) =>
 J3 ((if (IntKind.wrap .i64 (x5 - (1 : Int))) < x2 then (IntKind.wrap .i64 (x5 - (1 : Int))) else x2), ())) (
 J3 (x2, ()))) fun (s4 : Int × Unit) =>
 callT Tryz.prog 61 #[(.pointer a0), (.int .i64 s4.1)] (.one (.agg c72)) fun (x6 : (Int × Int × Int × Int × Int × Sl × Sl × Unit)) =>
 aggSt (at0 b1) (.agg (Cells.vals c72 x6).toArray) 7 <|
 lds c72 (at0 b1) fun (x7 : (Int × Int × Int × Int × Int × Sl × Sl × Unit)) =>
 K x7
noncomputable def h36 : Hint := (hS (hR 1) (hS (hR 4) (hJ (260224, [(7, tI)]) (hS (hR 2) (hC (hR 6) hL)) (hS (hR 4) hL))))
theorem F36_calls {a0 : Option Addr} {a1 : Int} {a2 : Bool} {K : (Int × Int × Int × Int × Int × Sl × Sl × Unit) → World → Prop} {w : World} (h : F36 a0 a1 a2 K w) : callT Tryz.prog 36 #[(.pointer a0), (.int .i64 a1), (.bool a2)] (.one (.agg c72)) K w := tied tabOk Tryz.func36 h36 [(.pointer a0), (.int .i64 a1), (.bool a2)] h
noncomputable def F38 (a0 : (Int × Int × Int × Int × Int × Sl × Sl × Unit)) (a1 : Int) (K : Int → World → Prop) : World → Prop :=
 newO (.cells #[(.int .i64 a0.1), (.int .i64 a0.2.1), (.int .i64 a0.2.2.1), (.int .i64 a0.2.2.2.1), (.int .i64 a0.2.2.2.2.1), (.slice a0.2.2.2.2.2.1.a a0.2.2.2.2.2.1.len a0.2.2.2.2.2.1.cap), (.slice a0.2.2.2.2.2.2.1.a a0.2.2.2.2.2.2.1.len a0.2.2.2.2.2.2.1.cap)] 72) fun b1 =>
 drew <|
 ld (.int .i64) (at0 b1) fun (x2 : Int) =>
 ld (.sl) (⟨b1, 6, none⟩ : Addr) fun (x3 : Sl) =>
 lds c72 (at0 b1) fun (x4 : (Int × Int × Int × Int × Int × Sl × Sl × Unit)) =>
 callT Tryz.prog 39 #[(.agg (Cells.vals c72 x4).toArray)] (.one (.one (.int .i64))) fun (x5 : Int) =>
 keep (fun w => w.cell? (⟨b1, 6, none⟩ : Addr) = some (Cell.val (.sl) x3)) <|
 keep (fun w => w.cell? (at0 b1) = some (Cell.val (.int .i64) x2)) <|
 ix x3.a x3.len (if x5 < (if (0 : Int) > a1 then (0 : Int) else a1) then x5 else (if (0 : Int) > a1 then (0 : Int) else a1)) fun p6 =>
 ld (.int .i64) (p6.add (scaled (Int.toNat (if x5 < (if (0 : Int) > a1 then (0 : Int) else a1) then x5 else (if (0 : Int) > a1 then (0 : Int) else a1))) 1)) fun (x7 : Int) =>
 K (IntKind.wrap .i64 (x2 + x7))
noncomputable def h38 : Hint := (hS (hR 2) (hS (.region [0, 1, 2, 3, 4, 5, 6, 7, 8, 9, 10, 11, 12, 13] (hO 14)) hL))
theorem F38_calls {a0 : (Int × Int × Int × Int × Int × Sl × Sl × Unit)} {a1 : Int} {K : Int → World → Prop} {w : World} (h : F38 a0 a1 K w) : callT Tryz.prog 38 #[(.agg (Cells.vals c72 a0).toArray), (.int .i64 a1)] (.one (.one (.int .i64))) K w := tied tabOk Tryz.func38 h38 [(.agg (Cells.vals c72 a0).toArray), (.int .i64 a1)] h
noncomputable def F39 (a0 : (Int × Int × Int × Int × Int × Sl × Sl × Unit)) (K : Int → World → Prop) : World → Prop :=
 newO (.cells #[(.int .i64 a0.1), (.int .i64 a0.2.1), (.int .i64 a0.2.2.1), (.int .i64 a0.2.2.2.1), (.int .i64 a0.2.2.2.2.1), (.slice a0.2.2.2.2.2.1.a a0.2.2.2.2.2.1.len a0.2.2.2.2.2.1.cap), (.slice a0.2.2.2.2.2.2.1.a a0.2.2.2.2.2.2.1.len a0.2.2.2.2.2.2.1.cap)] 72) fun b1 =>
 ld (.sl) (⟨b1, 6, none⟩ : Addr) fun (x2 : Sl) =>
 K (IntKind.wrap .i64 (((x2.len : Nat) : Int) - (1 : Int)))
noncomputable def h39 : Hint := (hS (hR 2) (hS (hR 5) hL))
theorem F39_calls {a0 : (Int × Int × Int × Int × Int × Sl × Sl × Unit)} {K : Int → World → Prop} {w : World} (h : F39 a0 K w) : callT Tryz.prog 39 #[(.agg (Cells.vals c72 a0).toArray)] (.one (.one (.int .i64))) K w := tied tabOk Tryz.func39 h39 [(.agg (Cells.vals c72 a0).toArray)] h
noncomputable def F40 (a0 : (Int × Int × Int × Int × Int × Sl × Sl × Unit)) (a1 : Int) (K : Int → World → Prop) : World → Prop :=
 newO (.cells #[(.int .i64 a0.1), (.int .i64 a0.2.1), (.int .i64 a0.2.2.1), (.int .i64 a0.2.2.2.1), (.int .i64 a0.2.2.2.2.1), (.slice a0.2.2.2.2.2.1.a a0.2.2.2.2.2.1.len a0.2.2.2.2.2.1.cap), (.slice a0.2.2.2.2.2.2.1.a a0.2.2.2.2.2.2.1.len a0.2.2.2.2.2.2.1.cap)] 72) fun b1 =>
 lds c72 (at0 b1) fun (x2 : (Int × Int × Int × Int × Int × Sl × Sl × Unit)) =>
 callT Tryz.prog 39 #[(.agg (Cells.vals c72 x2).toArray)] (.one (.one (.int .i64))) fun (x3 : Int) =>
 join (S := Int × Unit) (fun J4 =>
 sloop (S := Int × Int × Unit) (fun (s6 : Int × Int × Unit) again7 =>
 sif (decide (s6.1 < s6.2.1)) (
 chk ((2 : Int) ≠ 0) <|
 drew <|
 ld (.int .i64) (at0 b1) fun (x8 : Int) =>
 ld (.sl) (⟨b1, 6, none⟩ : Addr) fun (x9 : Sl) =>
 ix x9.a x9.len (IntKind.wrap .i64 (Int.tdiv (IntKind.wrap .i64 ((IntKind.wrap .i64 (s6.1 + s6.2.1)) + (1 : Int))) (2 : Int))) fun p10 =>
 ld (.int .i64) (p10.add (scaled (Int.toNat (IntKind.wrap .i64 (Int.tdiv (IntKind.wrap .i64 ((IntKind.wrap .i64 (s6.1 + s6.2.1)) + (1 : Int))) (2 : Int)))) 1)) fun (x11 : Int) =>
 sif (decide ((IntKind.wrap .i64 (x8 + x11)) ≤ a1)) (
 again7 ((IntKind.wrap .i64 (Int.tdiv (IntKind.wrap .i64 ((IntKind.wrap .i64 (s6.1 + s6.2.1)) + (1 : Int))) (2 : Int))), s6.2.1, ())) (
 again7 (s6.1, (IntKind.wrap .i64 ((IntKind.wrap .i64 (Int.tdiv (IntKind.wrap .i64 ((IntKind.wrap .i64 (s6.1 + s6.2.1)) + (1 : Int))) (2 : Int))) - (1 : Int))), ()))) (
 J4 (s6.1, ()))) ((0 : Int), x3, ())) fun (s5 : Int × Unit) =>
 K s5.1
noncomputable def h40 : Hint := (hS (hR 2) (hS (hR 4) (hJ (4294966496, [(5, tI)]) (.block (.loop 4294966496 [(5, tI), (6, tI)] (hS (hS (hR 3) (hC hL hL)) (.block (hS (hR 6) (hS (.region [0, 1, 2, 3, 4, 5, 6, 7, 8, 9, 10] (hO 11)) (hC (hR 2) (hR 3)))))))) (hS (hR 2) hL))))
theorem F40_calls {a0 : (Int × Int × Int × Int × Int × Sl × Sl × Unit)} {a1 : Int} {K : Int → World → Prop} {w : World} (h : F40 a0 a1 K w) : callT Tryz.prog 40 #[(.agg (Cells.vals c72 a0).toArray), (.int .i64 a1)] (.one (.one (.int .i64))) K w := tied tabOk Tryz.func40 h40 [(.agg (Cells.vals c72 a0).toArray), (.int .i64 a1)] h
noncomputable def F41 (a0 : Option Addr) (a1 : Int) (K : ((Int × Int × Int × Int × Unit) × Int × Unit) → World → Prop) : World → Prop :=
 newO (.cells #[(.int .i64 (0 : Int)), (.int .i64 (0 : Int)), (.int .i64 (0 : Int)), (.int .i64 (0 : Int))] 36) fun b1 =>
 sif (decide (a1 < (0 : Int))) (
 aggSt (at0 b1) (.agg #[(.int .i64 (0 : Int)), (.int .i64 (0 : Int)), (.int .i64 (0 : Int)), (.int .i64 (0 : Int))]) 4 <|
 lds c36 (at0 b1) fun (x2 : (Int × Int × Int × Int × Unit)) =>
 K (x2, (2 : Int), ())) (
 callT Tryz.prog 66 #[(.pointer a0), (.int .i64 a1)] (.one (.one (.int .i64))) fun (x3 : Int) =>
 sif (decide (x3 < (0 : Int))) (
 aggSt (at0 b1) (.agg #[(.int .i64 (0 : Int)), (.int .i64 (0 : Int)), (.int .i64 (0 : Int)), (.int .i64 (0 : Int))]) 4 <|
 lds c36 (at0 b1) fun (x4 : (Int × Int × Int × Int × Unit)) =>
 K (x4, (2 : Int), ())) (
 callT Tryz.prog 37 #[(.pointer a0)] (.one (.one (.int .i64))) fun (x5 : Int) =>
 callT Tryz.prog 50 #[(.pointer a0), (.int .i64 x5)] (.one (.one (.int .i64))) fun (x6 : Int) =>
 sif (decide (a1 < x6)) (
 callT Tryz.prog 66 #[(.pointer a0), (.int .i64 (IntKind.wrap .i64 (a1 + (1 : Int))))] (.one (.one (.int .i64))) fun (x7 : Int) =>
 callT Tryz.prog 67 #[(.pointer a0), (.int .i64 x3), (.int .i64 x7)] (.one (.agg c36)) fun (x8 : (Int × Int × Int × Int × Unit)) =>
 aggSt (at0 b1) (.agg (Cells.vals c36 x8).toArray) 4 <|
 lds c36 (at0 b1) fun (x9 : (Int × Int × Int × Int × Unit)) =>
 K (x9, (0 : Int), ())) (
 callT Tryz.prog 37 #[(.pointer a0)] (.one (.one (.int .i64))) fun (x10 : Int) =>
 callT Tryz.prog 37 #[(.pointer a0)] (.one (.one (.int .i64))) fun (x11 : Int) =>
 aggSt (at0 b1) (.agg #[(.int .i64 x3), (.int .i64 x10), (.int .i64 x11), (.int .i64 (0 : Int))]) 4 <|
 lds c36 (at0 b1) fun (x12 : (Int × Int × Int × Int × Unit)) =>
 K (x12, (0 : Int), ()))))
noncomputable def h41 : Hint := (hS (hR 2) (hS (hS (hR 2) (hC (hS (hR 3) hL) hL)) (hS (hR 4) (hS (hS (hR 2) (hC (hS (hR 3) hL) hL)) (hS (hS (hR 6) (hC (hS (hR 9) hL) hL)) (hS (hR 8) hL))))))
theorem F41_calls {a0 : Option Addr} {a1 : Int} {K : ((Int × Int × Int × Int × Unit) × Int × Unit) → World → Prop} {w : World} (h : F41 a0 a1 K w) : callT Tryz.prog 41 #[(.pointer a0), (.int .i64 a1)] (.tup [(.agg c36), (.one (.int .i64))]) K w := tied tabOk Tryz.func41 h41 [(.pointer a0), (.int .i64 a1)] h
noncomputable def F45 (a0 : Value) (a1 : Option Addr) (a2 : Int) (a3 : Int) (a4 : (Int × Int × Int × Unit)) (a5 : Bool) (K : ((Int × Int × Int × Unit) × Int × Unit) → World → Prop) : World → Prop :=
 newO (.cells #[(.int .i64 a4.1), (.int .i64 a4.2.1), (.int .i64 a4.2.2.1)] 31) fun b1 =>
 newO (.cells #[(.int .i64 (0 : Int)), (.int .i64 (0 : Int)), (.int .i64 (0 : Int))] 43) fun b2 =>
 ld (.int .i64) (at0 b1) fun (x3 : Int) =>
 callX Tryz.prog (do let d ← Deferred.ofValue a0 #[(.int .i64 x3)]; invoke d.target d.args : Sem Next) (.one (.one .any)) fun (x4 : Value) =>
 rdB Tryz.prog (do eqGuard .eql 111 (Operand.tmp 21) (Operand.const Value.nilFunc) x4 .nilFunc; binOp .eql 111 x4 .nilFunc : Sem Value) fun r5 =>
 sif r5 (
 aggSt (at0 b2) (.agg #[(.int .i64 (0 : Int)), (.int .i64 (0 : Int)), (.int .i64 (0 : Int))]) 3 <|
 lds c43 (at0 b2) fun (x6 : (Int × Int × Int × Unit)) =>
 K (x6, (1 : Int), ())) (
 callT Tryz.prog 12 #[(.pointer a1), (.int .i64 a2), (.bool a5)] (.one (.one (.int .i64))) fun (x7 : Int) =>
 drew <|
 ld (.int .i64) (⟨b1, 2, none⟩ : Addr) fun (x8 : Int) =>
 callT Tryz.prog 36 #[(.pointer a1), (.int .i64 x7), (.bool a5)] (.one (.agg c72)) fun (x9 : (Int × Int × Int × Int × Int × Sl × Sl × Unit)) =>
 keep (fun w => w.cell? (⟨b1, 2, none⟩ : Addr) = some (Cell.val (.int .i64) x8)) <|
 newO (.cells (Value.cells (.agg #[(.pointer a1), (.int .i64 x7), (.int .i64 (0 : Int)), (.int .i64 (1 : Int)), (.bool false), (.int .i64 x8), (.int .i64 (if (0 : Int) > a3 then (0 : Int) else a3)), (.bool a5), (.bool false), (.int .i64 x9.1), (.int .i64 x9.2.1), (.int .i64 x9.2.2.1), (.int .i64 x9.2.2.2.1), (.int .i64 x9.2.2.2.2.1), (.slice x9.2.2.2.2.2.1.a x9.2.2.2.2.2.1.len x9.2.2.2.2.2.1.cap), (.slice x9.2.2.2.2.2.2.1.a x9.2.2.2.2.2.2.1.len x9.2.2.2.2.2.2.1.cap)])) 114) fun b10 =>
 nn (some (at0 b10)) fun p11 =>
 lds c72 (p11.add 9) fun (x12 : (Int × Int × Int × Int × Int × Sl × Sl × Unit)) =>
 callT Tryz.prog 40 #[(.agg (Cells.vals c72 x12).toArray), (.int .i64 x7)] (.one (.one (.int .i64))) fun (x13 : Int) =>
 nn (some (at0 b10)) fun p14 =>
 stC (p14.add 2) (.int .i64 x13) <|
 join (S := Unit) (fun J15 =>
 ld (.int .i64) (at0 b1) fun (x17 : Int) =>
 sif (decide (x17 ≥ (25 : Int))) (
 ld (.int .i64) (at0 b1) fun (x18 : Int) =>
 sif (decide (x18 ≤ (28 : Int))) (
 nn (some (at0 b10)) fun p19 =>
 stC (p19.add 8) (.bool true) <|
 J15 ()) (
 ld (.int .i64) (at0 b1) fun (x20 : Int) =>
 nn (some (at0 b10)) fun p21 =>
 stC (p21.add 8) (.bool (x20 == (30 : Int))) <|
 J15 ())) (
 ld (.int .i64) (at0 b1) fun (x22 : Int) =>
 nn (some (at0 b10)) fun p23 =>
 stC (p23.add 8) (.bool (x22 == (30 : Int))) <|
 J15 ())) fun (s16 : Unit) =>
 join (S := Unit) (fun J24 =>
 ld (.int .i64) (⟨b1, 1, none⟩ : Addr) fun (x26 : Int) =>
 sif (decide (x26 > (0 : Int))) (
 ld (.int .i64) (⟨b1, 1, none⟩ : Addr) fun (x27 : Int) =>
 nn (some (at0 b10)) fun p28 =>
 stC (p28.add 3) (.int .i64 (if (9999 : Int) < x27 then (9999 : Int) else x27)) <|
 nn (some (at0 b10)) fun p29 =>
 stC (p29.add 4) (.bool true) <|
 J24 ()) (
 J24 ())) fun (s25 : Unit) =>
 callX Tryz.prog (do let d ← Deferred.ofValue x4 #[(.pointer (some (at0 b10)))]; invoke d.target d.args : Sem Next) (.tup [(.agg c43), (.one (.int .i64))]) fun (x30 : ((Int × Int × Int × Unit) × Int × Unit)) =>
 aggSt (at0 b2) (.agg (Cells.vals c43 x30.1).toArray) 3 <|
 lds c43 (at0 b2) fun (x31 : (Int × Int × Int × Unit)) =>
 K (x31, x30.2.1, ()))
noncomputable def h45 : Hint := (hS (hR 3) (hS (hR 5) (hS (hS (hR 2) (hC (hS (hR 3) hL) hL)) (hS (hR 5) (hS (.region [0, 1, 2, 3, 4, 5, 6, 7, 8, 9, 10, 11, 12, 13] (hO 14)) (hS (hR 10) (hJ (73785850394931363840, []) (.region [] (.ops 5 (.split 54 (.ops 5 (.split 59 (.skips 3 (hO 4)) (hO 7))) (.skips 3 (hO 9))))) (hJ (302157667927362455470080, []) (hS (hR 3) (hC (hR 11) hL)) (hS (hR 7) hL)))))))))
theorem F45_calls {a0 : Value} {a1 : Option Addr} {a2 : Int} {a3 : Int} {a4 : (Int × Int × Int × Unit)} {a5 : Bool} {K : ((Int × Int × Int × Unit) × Int × Unit) → World → Prop} {w : World} (h : F45 a0 a1 a2 a3 a4 a5 K w) : callT Tryz.prog 45 #[a0, (.pointer a1), (.int .i64 a2), (.int .i64 a3), (.agg (Cells.vals c31 a4).toArray), (.bool a5)] (.tup [(.agg c43), (.one (.int .i64))]) K w := tied tabOk Tryz.func45 h45 [a0, (.pointer a1), (.int .i64 a2), (.int .i64 a3), (.agg (Cells.vals c31 a4).toArray), (.bool a5)] h
noncomputable def F46 (a0 : Int) (K : Value → World → Prop) : World → Prop :=
 sif (a0 == (1 : Int)) (
 K (.func (.func 70) #[] #[])) (
 sif (a0 == (2 : Int)) (
 K (.func (.func 71) #[] #[])) (
 sif (a0 == (3 : Int)) (
 K (.func (.func 72) #[] #[])) (
 sif (a0 == (4 : Int)) (
 K (.func (.func 73) #[] #[])) (
 sif (a0 == (5 : Int)) (
 K (.func (.func 74) #[] #[])) (
 sif (a0 == (6 : Int)) (
 K (.func (.func 75) #[] #[])) (
 sif (a0 == (7 : Int)) (
 K (.func (.func 76) #[] #[])) (
 sif (a0 == (8 : Int)) (
 K (.func (.func 77) #[] #[])) (
 sif (a0 == (9 : Int)) (
 K (.func (.func 78) #[] #[])) (
 sif (a0 == (10 : Int)) (
 K (.func (.func 79) #[] #[])) (
 K .nilFunc))))))))))
noncomputable def h46 : Hint := (hS (hR 1) (hS (hS (hR 1) (.block (hS (hR 2) (hC (hS (hR 1) hL) (hS (hR 2) (hC (hS (hR 1) hL) (hS (hR 2) (hC (hS (hR 1) hL) (hS (hR 2) (hC (hS (hR 1) hL) (hS (hR 2) (hC (hS (hR 1) hL) (hS (hR 2) (hC (hS (hR 1) hL) (hS (hR 2) (hC (hS (hR 1) hL) (hS (hR 2) (hC (hS (hR 1) hL) (hS (hR 2) (hC (hS (hR 1) hL) (hS (hR 2) (hC (hS (hR 1) hL) hL)))))))))))))))))))))) (hS (hR 1) hL)))
theorem F46_calls {a0 : Int} {K : Value → World → Prop} {w : World} (h : F46 a0 K w) : callT Tryz.prog 46 #[(.int .i64 a0)] (.one (.one .any)) K w := tied tabOk Tryz.func46 h46 [(.int .i64 a0)] h
noncomputable def F51 (a0 : Option Addr) (K : Bool → World → Prop) : World → Prop :=
 callT Tryz.prog 37 #[(.pointer a0)] (.one (.one (.int .i64))) fun (x1 : Int) =>
 sif (decide (x1 > (0 : Int))) (
 callT Tryz.prog 50 #[(.pointer a0), (.int .i64 x1)] (.one (.one (.int .i64))) fun (x2 : Int) =>
 callT Tryz.prog 66 #[(.pointer a0), (.int .i64 x2)] (.one (.one (.int .i64))) fun (x3 : Int) =>
 K (x3 == x1)) (
 K false)
noncomputable def h51 : Hint := (hS (hR 1) (hS (hR 3) (hS (.region [] (.ops 3 (.split 8 (hO 9) (.skips 7 (hO 2))))) hL)))
theorem F51_calls {a0 : Option Addr} {K : Bool → World → Prop} {w : World} (h : F51 a0 K w) : callT Tryz.prog 51 #[(.pointer a0)] (.one (.one .bool)) K w := tied tabOk Tryz.func51 h51 [(.pointer a0)] h
noncomputable def F52 (a0 : Int) (K : Value → World → Prop) : World → Prop :=
 sif (a0 == (11 : Int)) (
 K (.func (.func 84) #[] #[])) (
 sif (a0 == (12 : Int)) (
 K (.func (.func 85) #[] #[])) (
 sif (a0 == (13 : Int)) (
 K (.func (.func 86) #[] #[])) (
 sif (a0 == (14 : Int)) (
 K (.func (.func 87) #[] #[])) (
 sif (a0 == (15 : Int)) (
 K (.func (.func 88) #[] #[])) (
 sif (a0 == (16 : Int)) (
 K (.func (.func 89) #[] #[])) (
 sif (a0 == (17 : Int)) (
 K (.func (.func 90) #[] #[])) (
 sif (a0 == (18 : Int)) (
 K (.func (.func 91) #[] #[])) (
 K .nilFunc))))))))
noncomputable def h52 : Hint := (hS (hR 1) (hS (hS (hR 1) (.block (hS (hR 2) (hC (hS (hR 1) hL) (hS (hR 2) (hC (hS (hR 1) hL) (hS (hR 2) (hC (hS (hR 1) hL) (hS (hR 2) (hC (hS (hR 1) hL) (hS (hR 2) (hC (hS (hR 1) hL) (hS (hR 2) (hC (hS (hR 1) hL) (hS (hR 2) (hC (hS (hR 1) hL) (hS (hR 2) (hC (hS (hR 1) hL) hL)))))))))))))))))) (hS (hR 1) hL)))
theorem F52_calls {a0 : Int} {K : Value → World → Prop} {w : World} (h : F52 a0 K w) : callT Tryz.prog 52 #[(.int .i64 a0)] (.one (.one .any)) K w := tied tabOk Tryz.func52 h52 [(.int .i64 a0)] h
noncomputable def F56 (a0 : Int) (K : Value → World → Prop) : World → Prop :=
 sif (a0 == (31 : Int)) (
 K (.func (.func 96) #[] #[])) (
 sif (a0 == (32 : Int)) (
 K (.func (.func 97) #[] #[])) (
 sif (a0 == (33 : Int)) (
 K (.func (.func 98) #[] #[])) (
 K .nilFunc)))
noncomputable def h56 : Hint := (hS (hR 1) (hS (hS (hR 1) (.block (hS (hR 2) (hC (hS (hR 1) hL) (hS (hR 2) (hC (hS (hR 1) hL) (hS (hR 2) (hC (hS (hR 1) hL) hL)))))))) (hS (hR 1) hL)))
theorem F56_calls {a0 : Int} {K : Value → World → Prop} {w : World} (h : F56 a0 K w) : callT Tryz.prog 56 #[(.int .i64 a0)] (.one (.one .any)) K w := tied tabOk Tryz.func56 h56 [(.int .i64 a0)] h
noncomputable def F59 (a0 : Option Addr) (a1 : Int) (a2 : (Int × Int × Int × Unit)) (a3 : Bool) (K : ((Int × Int × Int × Unit) × Int × Unit) → World → Prop) : World → Prop :=
 newO (.cells #[(.int .i64 a2.1), (.int .i64 a2.2.1), (.int .i64 a2.2.2.1)] 31) fun b1 =>
 newO (.cells #[(.int .i64 (0 : Int)), (.int .i64 (0 : Int)), (.int .i64 (0 : Int))] 43) fun b2 =>
 lds c31 (at0 b1) fun (x3 : (Int × Int × Int × Unit)) =>
 callT Tryz.prog 45 #[(.func (.func 101) #[] #[]), (.pointer a0), (.int .i64 a1), (.int .i64 (0 : Int)), (.agg (Cells.vals c31 x3).toArray), (.bool a3)] (.tup [(.agg c43), (.one (.int .i64))]) fun (x4 : ((Int × Int × Int × Unit) × Int × Unit)) =>
 aggSt (at0 b2) (.agg (Cells.vals c43 x4.1).toArray) 3 <|
 lds c43 (at0 b2) fun (x5 : (Int × Int × Int × Unit)) =>
 K (x5, x4.2.1, ())
noncomputable def h59 : Hint := (hS (hR 3) (hS (hR 9) hL))
theorem F59_calls {a0 : Option Addr} {a1 : Int} {a2 : (Int × Int × Int × Unit)} {a3 : Bool} {K : ((Int × Int × Int × Unit) × Int × Unit) → World → Prop} {w : World} (h : F59 a0 a1 a2 a3 K w) : callT Tryz.prog 59 #[(.pointer a0), (.int .i64 a1), (.agg (Cells.vals c31 a2).toArray), (.bool a3)] (.tup [(.agg c43), (.one (.int .i64))]) K w := tied tabOk Tryz.func59 h59 [(.pointer a0), (.int .i64 a1), (.agg (Cells.vals c31 a2).toArray), (.bool a3)] h
noncomputable def F61 (a0 : Option Addr) (a1 : Int) (K : (Int × Int × Int × Int × Int × Sl × Sl × Unit) → World → Prop) : World → Prop :=
 newO (.cells #[(.int .i64 (0 : Int)), (.int .i64 (0 : Int)), (.int .i64 (0 : Int)), (.int .i64 (0 : Int)), (.int .i64 (0 : Int)), (.slice none 0 0), (.slice none 0 0)] 72) fun b1 =>
 callT Tryz.prog 41 #[(.pointer a0), (.int .i64 a1)] (.tup [(.agg c36), (.one (.int .i64))]) fun (x2 : ((Int × Int × Int × Int × Unit) × Int × Unit)) =>
 newO (.cells #[(.int .i64 (0 : Int)), (.int .i64 (0 : Int)), (.int .i64 (0 : Int)), (.int .i64 (0 : Int))] 36) fun b3 =>
 aggSt (at0 b3) (.agg (Cells.vals c36 x2.1).toArray) 4 <|
 join (S := Addr × Unit) (fun J4 =>
 drew <|
 lds c36 (at0 b3) fun (x6 : (Int × Int × Int × Int × Unit)) =>
 ld (.int .i64) (at0 b3) fun (x7 : Int) =>
 ld (.int .i64) (⟨b3, 1, none⟩ : Addr) fun (x8 : Int) =>
 both (
 newO (.cells #[(.int .i64 (0 : Int)), (.int .i64 (0 : Int)), (.int .i64 (0 : Int)), (.int .i64 (0 : Int)), (.int .i64 (0 : Int)), (.slice none 0 0), (.slice none 0 0)] 72) fun b9 =>
 keep (fun w => w.cell? (⟨b3, 1, none⟩ : Addr) = some (Cell.val (.int .i64) x8)) <|
 keep (fun w => w.cell? (at0 b3) = some (Cell.val (.int .i64) x7)) <|
 keep (fun w => cellsAt w (at0 b3) 0 (Cells.vals c36 x6)) <|
 callT Tryz.prog 25 #[(.pointer a0), (.int .i64 x7), (.int .i64 x8)] (.one (.one .sl)) fun (x10 : Sl) =>
 keep (fun w => cellsAt w (at0 b3) 0 (Cells.vals c36 x6)) <|
 aggSt (at0 b9) (.agg #[(.int .i64 x6.1), (.int .i64 x6.2.1), (.int .i64 x6.2.2.1), (.int .i64 x6.2.2.2.1), (.int .i64 a1), (.slice x10.a x10.len x10.cap), (.slice none 0 0)]) 7 <|
 J4 ((at0 b9), ())) <|
 callT Tryz.prog 25 #[(.pointer a0), (.int .i64 x7), (.int .i64 x8)] (.one (.one .sl)) fun (x11 : Sl) =>
 keep (fun w => cellsAt w (at0 b3) 0 (Cells.vals c36 x6)) <|
 both (
 newO (.cells #[(.int .i64 (0 : Int)), (.int .i64 (0 : Int)), (.int .i64 (0 : Int)), (.int .i64 (0 : Int)), (.int .i64 (0 : Int)), (.slice none 0 0), (.slice none 0 0)] 72) fun b12 =>
 keep (fun w => w.cell? (⟨b3, 1, none⟩ : Addr) = some (Cell.val (.int .i64) x8)) <|
 keep (fun w => w.cell? (at0 b3) = some (Cell.val (.int .i64) x7)) <|
 keep (fun w => cellsAt w (at0 b3) 0 (Cells.vals c36 x6)) <|
 aggSt (at0 b12) (.agg #[(.int .i64 x6.1), (.int .i64 x6.2.1), (.int .i64 x6.2.2.1), (.int .i64 x6.2.2.2.1), (.int .i64 a1), (.slice x11.a x11.len x11.cap), (.slice none 0 0)]) 7 <|
 J4 ((at0 b12), ())) <|
 nothing) fun (s5 : Addr × Unit) =>
 ld (.sl) (s5.1.add 5) fun (x13 : Sl) =>
 callT Tryz.prog 17 #[(.slice x13.a x13.len x13.cap)] (.one (.one .sl)) fun (x14 : Sl) =>
 stC (s5.1.add 6) (.slice x14.a x14.len x14.cap) <|
 lds c72 s5.1 fun (x15 : (Int × Int × Int × Int × Int × Sl × Sl × Unit)) =>
 aggSt (at0 b1) (.agg (Cells.vals c72 x15).toArray) 7 <|
 lds c72 (at0 b1) fun (x16 : (Int × Int × Int × Int × Int × Sl × Sl × Unit)) =>
 K x16
noncomputable def h61 : Hint := (hS (hR 1) (hS (hR 9) (hJ (8372352, [(7, (.one .addr))]) (.region [0, 1, 2, 3, 4, 5, 6, 7, 8, 10] (.float [9] (.ops 7 (.alt none (.plain (hO 3)) (.ops 2 (.alt none (.plain (hO 1)) .stop)))))) (hS (hR 5) (hS (hR 2) hL)))))
theorem F61_calls {a0 : Option Addr} {a1 : Int} {K : (Int × Int × Int × Int × Int × Sl × Sl × Unit) → World → Prop} {w : World} (h : F61 a0 a1 K w) : callT Tryz.prog 61 #[(.pointer a0), (.int .i64 a1)] (.one (.agg c72)) K w := tied tabOk Tryz.func61 h61 [(.pointer a0), (.int .i64 a1)] h
noncomputable def F62 (a0 : Option Addr) (a1 : Int) (a2 : Int) (a3 : (Int × Int × Int × Unit)) (K : (Int × Bool × Unit) → World → Prop) : World → Prop :=
 newO (.cells #[(.int .i64 a3.1), (.int .i64 a3.2.1), (.int .i64 a3.2.2.1)] 31) fun b1 =>
 ld (.int .i64) (at0 b1) fun (x2 : Int) =>
 callT Tryz.prog 102 #[(.pointer a0), (.int .i64 a1), (.bool true), (.bool (x2 == (25 : Int)))] (.one (.one .ptr)) fun (x3 : Option Addr) =>
 join (S := Int × Unit) (fun J4 =>
 ld (.int .i64) (⟨b1, 1, none⟩ : Addr) fun (x6 : Int) =>
 sloop (S := Int × Int × Unit) (fun (s7 : Int × Int × Unit) again8 =>
 join (S := Bool × Unit) (fun J9 =>
 sif (decide (s7.2.1 > (0 : Int))) (
 callT Tryz.prog 103 #[(.pointer x3)] (.one (.one .bool)) fun (x11 : Bool) =>
 J9 (x11, ())) (
 J9 (false, ()))) fun (s10 : Bool × Unit) =>
 sif s10.1 (
 callT Tryz.prog 104 #[(.pointer x3)] (.one (.one .bool)) fun (x12 : Bool) =>
 sif x12 (
 callT Tryz.prog 105 #[(.pointer x3)] (.one (.one (.int .i64))) fun (x13 : Int) =>
 again8 (x13, (IntKind.wrap .i64 (s7.2.1 - (1 : Int))), ())) (
 again8 (s7.1, s7.2.1, ()))) (
 J4 (s7.1, ()))) (a1, (IntKind.wrap .i64 ((if (9999 : Int) < (if (1 : Int) > x6 then (1 : Int) else x6) then (9999 : Int) else (if (1 : Int) > x6 then (1 : Int) else x6)) - (1 : Int))), ())) fun (s5 : Int × Unit) =>
 callT Tryz.prog 36 #[(.pointer a0), (.int .i64 s5.1), (.bool true)] (.one (.agg c72)) fun (x14 : (Int × Int × Int × Int × Int × Sl × Sl × Unit)) =>
 newO (.cells #[(.int .i64 (0 : Int)), (.int .i64 (0 : Int)), (.int .i64 (0 : Int)), (.int .i64 (0 : Int)), (.int .i64 (0 : Int)), (.slice none 0 0), (.slice none 0 0)] 72) fun b15 =>
 aggSt (at0 b15) (.agg (Cells.vals c72 x14).toArray) 7 <|
 drew <|
 ld (.int .i64) (⟨b15, 1, none⟩ : Addr) fun (x16 : Int) =>
 ld (.int .i64) (⟨b15, 4, none⟩ : Addr) fun (x17 : Int) =>
 callT Tryz.prog 20 #[(.pointer a0), (.int .i64 a2)] (.one (.one (.int .i64))) fun (x18 : Int) =>
 keep (fun w => w.cell? (⟨b15, 4, none⟩ : Addr) = some (Cell.val (.int .i64) x17)) <|
 keep (fun w => w.cell? (⟨b15, 1, none⟩ : Addr) = some (Cell.val (.int .i64) x16)) <|
 K (x16, (decide (x18 > x17)), ())
noncomputable def h62 : Hint := (hS (hR 3) (hS (hR 7) (hS (hR 2) (hJ (274875815936, [(11, tI)]) (hS (hR 6) (.block (.loop 274810804224 [(11, tI), (12, tI)] (hS (hJ (4227858432, [(31, tB)]) (.region [] (.ops 3 (.split 28 (hO 3) (.skips 2 (hO 1))))) (hC hL hL)) (.block (hS (hR 2) (hC (hS (hR 3) (hR 3)) hL))))))) (hS (hR 5) (hS (.region [0, 1, 2, 3, 4, 6, 7, 5, 8, 9, 10] (hO 11)) hL))))))
theorem F62_calls {a0 : Option Addr} {a1 : Int} {a2 : Int} {a3 : (Int × Int × Int × Unit)} {K : (Int × Bool × Unit) → World → Prop} {w : World} (h : F62 a0 a1 a2 a3 K w) : callT Tryz.prog 62 #[(.pointer a0), (.int .i64 a1), (.int .i64 a2), (.agg (Cells.vals c31 a3).toArray)] (.tup [(.one (.int .i64)), (.one .bool)]) K w := tied tabOk Tryz.func62 h62 [(.pointer a0), (.int .i64 a1), (.int .i64 a2), (.agg (Cells.vals c31 a3).toArray)] h
noncomputable def F67 (a0 : Option Addr) (a1 : Int) (a2 : Int) (K : (Int × Int × Int × Int × Unit) → World → Prop) : World → Prop :=
 newO (.cells #[(.int .i64 (0 : Int)), (.int .i64 (0 : Int)), (.int .i64 (0 : Int)), (.int .i64 (0 : Int))] 36) fun b1 =>
 callT Tryz.prog 25 #[(.pointer a0), (.int .i64 (if (IntKind.wrap .i64 (a2 - (2 : Int))) > a1 then (IntKind.wrap .i64 (a2 - (2 : Int))) else a1)), (.int .i64 a2)] (.one (.one .sl)) fun (x2 : Sl) =>
 ix x2.a x2.len (IntKind.wrap .i64 (((x2.len : Nat) : Int) - (1 : Int))) fun p3 =>
 ld (.int .i64) (p3.add (scaled (Int.toNat (IntKind.wrap .i64 (((x2.len : Nat) : Int) - (1 : Int)))) 1)) fun (x4 : Int) =>
 sif (x4 == (13 : Int)) (
 aggSt (at0 b1) (.agg #[(.int .i64 a1), (.int .i64 (IntKind.wrap .i64 (a2 - (1 : Int)))), (.int .i64 a2), (.int .i64 (3 : Int))]) 4 <|
 lds c36 (at0 b1) fun (x5 : (Int × Int × Int × Int × Unit)) =>
 K x5) (
 join (S := Bool × Unit) (fun J6 =>
 sif (decide ((IntKind.wrap .i64 (((x2.len : Nat) : Int) - (1 : Int))) > (0 : Int))) (
 ix x2.a x2.len (IntKind.wrap .i64 ((IntKind.wrap .i64 (((x2.len : Nat) : Int) - (1 : Int))) - (1 : Int))) fun p8 =>
 ld (.int .i64) (p8.add (scaled (Int.toNat (IntKind.wrap .i64 ((IntKind.wrap .i64 (((x2.len : Nat) : Int) - (1 : Int))) - (1 : Int)))) 1)) fun (x9 : Int) =>
 J6 ((x9 == (13 : Int)), ())) (
 J6 (false, ()))) fun (s7 : Bool × Unit) =>
 sif s7.1 (
 aggSt (at0 b1) (.agg #[(.int .i64 a1), (.int .i64 (IntKind.wrap .i64 (a2 - (2 : Int)))), (.int .i64 a2), (.int .i64 (2 : Int))]) 4 <|
 lds c36 (at0 b1) fun (x10 : (Int × Int × Int × Int × Unit)) =>
 K x10) (
 aggSt (at0 b1) (.agg #[(.int .i64 a1), (.int .i64 (IntKind.wrap .i64 (a2 - (1 : Int)))), (.int .i64 a2), (.int .i64 (1 : Int))]) 4 <|
 lds c36 (at0 b1) fun (x11 : (Int × Int × Int × Int × Unit)) =>
 K x11))
noncomputable def h67 : Hint := (hS (hR 1) (hS (hR 8) (hS (hR 4) (hS (.block (hS (hR 6) (hC (hS (hR 6) hL) (hJ (2197949513728, [(30, tB)]) (.region [] (.ops 3 (.split 33 (hO 8) (.skips 6 (hO 2))))) (hC (hS (hR 6) hL) hL))))) (hS (hR 6) hL)))))
theorem F67_calls {a0 : Option Addr} {a1 : Int} {a2 : Int} {K : (Int × Int × Int × Int × Unit) → World → Prop} {w : World} (h : F67 a0 a1 a2 K w) : callT Tryz.prog 67 #[(.pointer a0), (.int .i64 a1), (.int .i64 a2)] (.one (.agg c36)) K w := tied tabOk Tryz.func67 h67 [(.pointer a0), (.int .i64 a1), (.int .i64 a2)] h
noncomputable def F70 (a0 : Option Addr) (K : ((Int × Int × Int × Unit) × Int × Unit) → World → Prop) : World → Prop :=
 newO (.cells #[(.int .i64 (0 : Int)), (.int .i64 (0 : Int)), (.int .i64 (0 : Int))] 43) fun b1 =>
 nn a0 fun p2 =>
 ld (.int .i64) (p2.add 2) fun (x3 : Int) =>
 sif (x3 == (0 : Int)) (
 callT Tryz.prog 120 #[] (.tup [(.agg c43), (.one (.int .i64))]) fun (x4 : ((Int × Int × Int × Unit) × Int × Unit)) =>
 aggSt (at0 b1) (.agg (Cells.vals c43 x4.1).toArray) 3 <|
 lds c43 (at0 b1) fun (x5 : (Int × Int × Int × Unit)) =>
 K (x5, x4.2.1, ())) (
 drew <|
 nn a0 fun p6 =>
 lds c72 (p6.add 9) fun (x7 : (Int × Int × Int × Int × Int × Sl × Sl × Unit)) =>
 nn a0 fun p8 =>
 ld (.int .i64) (p8.add 2) fun (x9 : Int) =>
 nn a0 fun p10 =>
 ld (.int .i64) (p10.add 3) fun (x11 : Int) =>
 callT Tryz.prog 38 #[(.agg (Cells.vals c72 x7).toArray), (.int .i64 (IntKind.wrap .i64 (x9 - x11)))] (.one (.one (.int .i64))) fun (x12 : Int) =>
 callT Tryz.prog 121 #[(.pointer a0), (.int .i64 x12), (.int .i64 (0 : Int))] (.tup [(.agg c43), (.one (.int .i64))]) fun (x13 : ((Int × Int × Int × Unit) × Int × Unit)) =>
 aggSt (at0 b1) (.agg (Cells.vals c43 x13.1).toArray) 3 <|
 lds c43 (at0 b1) fun (x14 : (Int × Int × Int × Unit)) =>
 K (x14, x13.2.1, ()))
noncomputable def h70 : Hint := (hS (hR 2) (hS (hS (hR 5) (hC (hS (hR 5) hL) hL)) (hS (.region [0, 1, 2, 3, 4, 5, 6, 7, 8, 9, 10, 11, 12, 13, 14, 15, 16, 17, 18, 19] (hO 20)) hL)))
theorem F70_calls {a0 : Option Addr} {K : ((Int × Int × Int × Unit) × Int × Unit) → World → Prop} {w : World} (h : F70 a0 K w) : callT Tryz.prog 70 #[(.pointer a0)] (.tup [(.agg c43), (.one (.int .i64))]) K w := tied tabOk Tryz.func70 h70 [(.pointer a0)] h
noncomputable def F71 (a0 : Option Addr) (K : ((Int × Int × Int × Unit) × Int × Unit) → World → Prop) : World → Prop :=
 newO (.cells #[(.int .i64 (0 : Int)), (.int .i64 (0 : Int)), (.int .i64 (0 : Int))] 43) fun b1 =>
 drew <|
 nn a0 fun p2 =>
 ld (.int .i64) (p2.add 2) fun (x3 : Int) =>
 callT Tryz.prog 122 #[(.pointer a0)] (.one (.one (.int .i64))) fun (x4 : Int) =>
 keep (fun w => w.cell? (p2.add 2) = some (Cell.val (.int .i64) x3)) <|
 sif (x3 == x4) (
 callT Tryz.prog 120 #[] (.tup [(.agg c43), (.one (.int .i64))]) fun (x5 : ((Int × Int × Int × Unit) × Int × Unit)) =>
 aggSt (at0 b1) (.agg (Cells.vals c43 x5.1).toArray) 3 <|
 lds c43 (at0 b1) fun (x6 : (Int × Int × Int × Unit)) =>
 K (x6, x5.2.1, ())) (
 drew <|
 nn a0 fun p7 =>
 lds c72 (p7.add 9) fun (x8 : (Int × Int × Int × Int × Int × Sl × Sl × Unit)) =>
 nn a0 fun p9 =>
 ld (.int .i64) (p9.add 2) fun (x10 : Int) =>
 nn a0 fun p11 =>
 ld (.int .i64) (p11.add 3) fun (x12 : Int) =>
 callT Tryz.prog 122 #[(.pointer a0)] (.one (.one (.int .i64))) fun (x13 : Int) =>
 keep (fun w => w.cell? (p11.add 3) = some (Cell.val (.int .i64) x12)) <|
 keep (fun w => w.cell? (p9.add 2) = some (Cell.val (.int .i64) x10)) <|
 keep (fun w => cellsAt w (p7.add 9) 0 (Cells.vals c72 x8)) <|
 callT Tryz.prog 38 #[(.agg (Cells.vals c72 x8).toArray), (.int .i64 (if x13 < (IntKind.wrap .i64 (x10 + x12)) then x13 else (IntKind.wrap .i64 (x10 + x12))))] (.one (.one (.int .i64))) fun (x14 : Int) =>
 callT Tryz.prog 121 #[(.pointer a0), (.int .i64 x14), (.int .i64 (0 : Int))] (.tup [(.agg c43), (.one (.int .i64))]) fun (x15 : ((Int × Int × Int × Unit) × Int × Unit)) =>
 aggSt (at0 b1) (.agg (Cells.vals c43 x15.1).toArray) 3 <|
 lds c43 (at0 b1) fun (x16 : (Int × Int × Int × Unit)) =>
 K (x16, x15.2.1, ()))
noncomputable def h71 : Hint := (hS (hR 2) (hS (hS (.region [0, 1, 2, 3, 4, 5, 6] (hO 7)) (hC (hS (hR 5) hL) hL)) (hS (.region [0, 1, 2, 3, 4, 5, 6, 7, 8, 9, 10, 11, 12, 13, 14, 15, 16, 17, 18, 19, 20, 21, 22] (hO 23)) hL)))
theorem F71_calls {a0 : Option Addr} {K : ((Int × Int × Int × Unit) × Int × Unit) → World → Prop} {w : World} (h : F71 a0 K w) : callT Tryz.prog 71 #[(.pointer a0)] (.tup [(.agg c43), (.one (.int .i64))]) K w := tied tabOk Tryz.func71 h71 [(.pointer a0)] h
noncomputable def F72 (a0 : Option Addr) (K : ((Int × Int × Int × Unit) × Int × Unit) → World → Prop) : World → Prop :=
 newO (.cells #[(.int .i64 (0 : Int)), (.int .i64 (0 : Int)), (.int .i64 (0 : Int))] 43) fun b1 =>
 nn a0 fun p2 =>
 ld (.int .i64) (p2.add 9) fun (x3 : Int) =>
 callT Tryz.prog 121 #[(.pointer a0), (.int .i64 x3), (.int .i64 (0 : Int))] (.tup [(.agg c43), (.one (.int .i64))]) fun (x4 : ((Int × Int × Int × Unit) × Int × Unit)) =>
 aggSt (at0 b1) (.agg (Cells.vals c43 x4.1).toArray) 3 <|
 lds c43 (at0 b1) fun (x5 : (Int × Int × Int × Unit)) =>
 K (x5, x4.2.1, ())
noncomputable def h72 : Hint := (hS (hR 2) (hS (hR 12) hL))
theorem F72_calls {a0 : Option Addr} {K : ((Int × Int × Int × Unit) × Int × Unit) → World → Prop} {w : World} (h : F72 a0 K w) : callT Tryz.prog 72 #[(.pointer a0)] (.tup [(.agg c43), (.one (.int .i64))]) K w := tied tabOk Tryz.func72 h72 [(.pointer a0)] h
noncomputable def F73 (a0 : Option Addr) (K : ((Int × Int × Int × Unit) × Int × Unit) → World → Prop) : World → Prop :=
 newO (.cells #[(.int .i64 (0 : Int)), (.int .i64 (0 : Int)), (.int .i64 (0 : Int))] 43) fun b1 =>
 drew <|
 nn a0 fun p2 =>
 lds c72 (p2.add 9) fun (x3 : (Int × Int × Int × Int × Int × Sl × Sl × Unit)) =>
 nn a0 fun p4 =>
 lds c72 (p4.add 9) fun (x5 : (Int × Int × Int × Int × Int × Sl × Sl × Unit)) =>
 callT Tryz.prog 123 #[(.agg (Cells.vals c72 x5).toArray)] (.one (.one (.int .i64))) fun (x6 : Int) =>
 keep (fun w => cellsAt w (p2.add 9) 0 (Cells.vals c72 x3)) <|
 callT Tryz.prog 38 #[(.agg (Cells.vals c72 x3).toArray), (.int .i64 x6)] (.one (.one (.int .i64))) fun (x7 : Int) =>
 callT Tryz.prog 121 #[(.pointer a0), (.int .i64 x7), (.int .i64 (0 : Int))] (.tup [(.agg c43), (.one (.int .i64))]) fun (x8 : ((Int × Int × Int × Unit) × Int × Unit)) =>
 aggSt (at0 b1) (.agg (Cells.vals c43 x8.1).toArray) 3 <|
 lds c43 (at0 b1) fun (x9 : (Int × Int × Int × Unit)) =>
 K (x9, x8.2.1, ())
noncomputable def h73 : Hint := (hS (hR 2) (hS (.region [0, 1, 2, 3, 4, 5, 6, 7, 8, 9, 10, 11, 12, 13, 14, 15] (hO 16)) hL))
theorem F73_calls {a0 : Option Addr} {K : ((Int × Int × Int × Unit) × Int × Unit) → World → Prop} {w : World} (h : F73 a0 K w) : callT Tryz.prog 73 #[(.pointer a0)] (.tup [(.agg c43), (.one (.int .i64))]) K w := tied tabOk Tryz.func73 h73 [(.pointer a0)] h
noncomputable def F74 (a0 : Option Addr) (K : ((Int × Int × Int × Unit) × Int × Unit) → World → Prop) : World → Prop :=
 newO (.cells #[(.int .i64 (0 : Int)), (.int .i64 (0 : Int)), (.int .i64 (0 : Int))] 43) fun b1 =>
 nn a0 fun p2 =>
 lds c72 (p2.add 9) fun (x3 : (Int × Int × Int × Int × Int × Sl × Sl × Unit)) =>
 newO (.cells #[(.int .i64 (0 : Int)), (.int .i64 (0 : Int)), (.int .i64 (0 : Int)), (.int .i64 (0 : Int)), (.int .i64 (0 : Int)), (.slice none 0 0), (.slice none 0 0)] 72) fun b4 =>
 aggSt (at0 b4) (.agg (Cells.vals c72 x3).toArray) 7 <|
 join (S := Unit) (fun J5 =>
 nn a0 fun p7 =>
 ld (.ptr) p7 fun (x8 : Option Addr) =>
 callT Tryz.prog 19 #[(.pointer x8)] (.one (.one (.int .i64))) fun (x9 : Int) =>
 join (S := Bool × Unit) (fun J10 =>
 ld (.int .i64) (⟨b4, 4, none⟩ : Addr) fun (x12 : Int) =>
 sif (decide (x12 < (IntKind.wrap .i64 (x9 - (1 : Int))))) (
 nn a0 fun p13 =>
 ld (.int .i64) (p13.add 3) fun (x14 : Int) =>
 J10 ((decide (x14 > (1 : Int))), ())) (
 J10 (false, ()))) fun (s11 : Bool × Unit) =>
 sif s11.1 (
 drew <|
 nn a0 fun p15 =>
 ld (.ptr) p15 fun (x16 : Option Addr) =>
 ld (.int .i64) (⟨b4, 4, none⟩ : Addr) fun (x17 : Int) =>
 nn a0 fun p18 =>
 ld (.int .i64) (p18.add 3) fun (x19 : Int) =>
 callT Tryz.prog 61 #[(.pointer x16), (.int .i64 (if (IntKind.wrap .i64 (x9 - (1 : Int))) < (IntKind.wrap .i64 ((IntKind.wrap .i64 (x17 + x19)) - (1 : Int))) then (IntKind.wrap .i64 (x9 - (1 : Int))) else (IntKind.wrap .i64 ((IntKind.wrap .i64 (x17 + x19)) - (1 : Int)))))] (.one (.agg c72)) fun (x20 : (Int × Int × Int × Int × Int × Sl × Sl × Unit)) =>
 aggSt (at0 b4) (.agg (Cells.vals c72 x20).toArray) 7 <|
 J5 ()) (
 J5 ())) fun (s6 : Unit) =>
 drew <|
 lds c72 (at0 b4) fun (x21 : (Int × Int × Int × Int × Int × Sl × Sl × Unit)) =>
 lds c72 (at0 b4) fun (x22 : (Int × Int × Int × Int × Int × Sl × Sl × Unit)) =>
 callT Tryz.prog 39 #[(.agg (Cells.vals c72 x22).toArray)] (.one (.one (.int .i64))) fun (x23 : Int) =>
 keep (fun w => cellsAt w (at0 b4) 0 (Cells.vals c72 x21)) <|
 callT Tryz.prog 38 #[(.agg (Cells.vals c72 x21).toArray), (.int .i64 (IntKind.wrap .i64 (x23 - (1 : Int))))] (.one (.one (.int .i64))) fun (x24 : Int) =>
 aggSt (at0 b1) (.agg #[(.int .i64 x24), (.int .i64 (1 : Int)), (.int .i64 (100000 : Int))]) 3 <|
 lds c43 (at0 b1) fun (x25 : (Int × Int × Int × Unit)) =>
 K (x25, (0 : Int), ())
noncomputable def h74 : Hint := (hS (hR 2) (hS (hR 6) (hJ (4398046510112, []) (hS (hR 7) (hJ (134152192, [(26, tB)]) (.region [] (.ops 5 (.split 20 (hO 6) (.skips 5 (hO 1))))) (hC (.region [0, 1, 2, 3, 4, 5, 6, 7, 8, 9, 10, 11, 12, 13, 14, 15] (hO 16)) hL))) (hS (.region [0, 1, 2, 3, 4, 5, 6, 7] (hO 8)) hL))))
theorem F74_calls {a0 : Option Addr} {K : ((Int × Int × Int × Unit) × Int × Unit) → World → Prop} {w : World} (h : F74 a0 K w) : callT Tryz.prog 74 #[(.pointer a0)] (.tup [(.agg c43), (.one (.int .i64))]) K w := tied tabOk Tryz.func74 h74 [(.pointer a0)] h
noncomputable def F75 (a0 : Option Addr) (K : ((Int × Int × Int × Unit) × Int × Unit) → World → Prop) : World → Prop :=
 newO (.cells #[(.int .i64 (0 : Int)), (.int .i64 (0 : Int)), (.int .i64 (0 : Int))] 43) fun b1 =>
 drew <|
 nn a0 fun p2 =>
 lds c72 (p2.add 9) fun (x3 : (Int × Int × Int × Int × Int × Sl × Sl × Unit)) =>
 nn a0 fun p4 =>
 ld (.int .i64) (p4.add 3) fun (x5 : Int) =>
 callT Tryz.prog 122 #[(.pointer a0)] (.one (.one (.int .i64))) fun (x6 : Int) =>
 keep (fun w => w.cell? (p4.add 3) = some (Cell.val (.int .i64) x5)) <|
 keep (fun w => cellsAt w (p2.add 9) 0 (Cells.vals c72 x3)) <|
 callT Tryz.prog 38 #[(.agg (Cells.vals c72 x3).toArray), (.int .i64 (if x6 < (IntKind.wrap .i64 (x5 - (1 : Int))) then x6 else (IntKind.wrap .i64 (x5 - (1 : Int)))))] (.one (.one (.int .i64))) fun (x7 : Int) =>
 callT Tryz.prog 121 #[(.pointer a0), (.int .i64 x7), (.int .i64 (0 : Int))] (.tup [(.agg c43), (.one (.int .i64))]) fun (x8 : ((Int × Int × Int × Unit) × Int × Unit)) =>
 aggSt (at0 b1) (.agg (Cells.vals c43 x8.1).toArray) 3 <|
 lds c43 (at0 b1) fun (x9 : (Int × Int × Int × Unit)) =>
 K (x9, x8.2.1, ())
noncomputable def h75 : Hint := (hS (hR 2) (hS (.region [0, 1, 2, 3, 4, 5, 6, 7, 8, 9, 10, 11, 12, 13, 14, 15, 16, 17, 18] (hO 19)) hL))
theorem F75_calls {a0 : Option Addr} {K : ((Int × Int × Int × Unit) × Int × Unit) → World → Prop} {w : World} (h : F75 a0 K w) : callT Tryz.prog 75 #[(.pointer a0)] (.tup [(.agg c43), (.one (.int .i64))]) K w := tied tabOk Tryz.func75 h75 [(.pointer a0)] h
noncomputable def F76 (a0 : Option Addr) (K : ((Int × Int × Int × Unit) × Int × Unit) → World → Prop) : World → Prop :=
 newO (.cells #[(.int .i64 (0 : Int)), (.int .i64 (0 : Int)), (.int .i64 (0 : Int))] 43) fun b1 =>
 callT Tryz.prog 124 #[(.pointer a0), (.int .i64 (1 : Int)), (.int .i64 (0 : Int)), (.int .i64 (1 : Int))] (.tup [(.agg c43), (.one (.int .i64))]) fun (x2 : ((Int × Int × Int × Unit) × Int × Unit)) =>
 aggSt (at0 b1) (.agg (Cells.vals c43 x2.1).toArray) 3 <|
 lds c43 (at0 b1) fun (x3 : (Int × Int × Int × Unit)) =>
 K (x3, x2.2.1, ())
noncomputable def h76 : Hint := (hS (hR 2) (hS (hR 6) hL))
theorem F76_calls {a0 : Option Addr} {K : ((Int × Int × Int × Unit) × Int × Unit) → World → Prop} {w : World} (h : F76 a0 K w) : callT Tryz.prog 76 #[(.pointer a0)] (.tup [(.agg c43), (.one (.int .i64))]) K w := tied tabOk Tryz.func76 h76 [(.pointer a0)] h
noncomputable def F77 (a0 : Option Addr) (K : ((Int × Int × Int × Unit) × Int × Unit) → World → Prop) : World → Prop :=
 newO (.cells #[(.int .i64 (0 : Int)), (.int .i64 (0 : Int)), (.int .i64 (0 : Int))] 43) fun b1 =>
 callT Tryz.prog 124 #[(.pointer a0), (.int .i64 (-1 : Int)), (.int .i64 (0 : Int)), (.int .i64 (0 : Int))] (.tup [(.agg c43), (.one (.int .i64))]) fun (x2 : ((Int × Int × Int × Unit) × Int × Unit)) =>
 aggSt (at0 b1) (.agg (Cells.vals c43 x2.1).toArray) 3 <|
 lds c43 (at0 b1) fun (x3 : (Int × Int × Int × Unit)) =>
 K (x3, x2.2.1, ())
noncomputable def h77 : Hint := (hS (hR 2) (hS (hR 6) hL))
theorem F77_calls {a0 : Option Addr} {K : ((Int × Int × Int × Unit) × Int × Unit) → World → Prop} {w : World} (h : F77 a0 K w) : callT Tryz.prog 77 #[(.pointer a0)] (.tup [(.agg c43), (.one (.int .i64))]) K w := tied tabOk Tryz.func77 h77 [(.pointer a0)] h
noncomputable def F78 (a0 : Option Addr) (K : ((Int × Int × Int × Unit) × Int × Unit) → World → Prop) : World → Prop :=
 newO (.cells #[(.int .i64 (0 : Int)), (.int .i64 (0 : Int)), (.int .i64 (0 : Int))] 43) fun b1 =>
 callT Tryz.prog 124 #[(.pointer a0), (.int .i64 (1 : Int)), (.int .i64 (-1 : Int)), (.int .i64 (1 : Int))] (.tup [(.agg c43), (.one (.int .i64))]) fun (x2 : ((Int × Int × Int × Unit) × Int × Unit)) =>
 aggSt (at0 b1) (.agg (Cells.vals c43 x2.1).toArray) 3 <|
 lds c43 (at0 b1) fun (x3 : (Int × Int × Int × Unit)) =>
 K (x3, x2.2.1, ())
noncomputable def h78 : Hint := (hS (hR 2) (hS (hR 6) hL))
theorem F78_calls {a0 : Option Addr} {K : ((Int × Int × Int × Unit) × Int × Unit) → World → Prop} {w : World} (h : F78 a0 K w) : callT Tryz.prog 78 #[(.pointer a0)] (.tup [(.agg c43), (.one (.int .i64))]) K w := tied tabOk Tryz.func78 h78 [(.pointer a0)] h
noncomputable def F79 (a0 : Option Addr) (K : ((Int × Int × Int × Unit) × Int × Unit) → World → Prop) : World → Prop :=
 newO (.cells #[(.int .i64 (0 : Int)), (.int .i64 (0 : Int)), (.int .i64 (0 : Int))] 43) fun b1 =>
 callT Tryz.prog 124 #[(.pointer a0), (.int .i64 (-1 : Int)), (.int .i64 (1 : Int)), (.int .i64 (0 : Int))] (.tup [(.agg c43), (.one (.int .i64))]) fun (x2 : ((Int × Int × Int × Unit) × Int × Unit)) =>
 aggSt (at0 b1) (.agg (Cells.vals c43 x2.1).toArray) 3 <|
 lds c43 (at0 b1) fun (x3 : (Int × Int × Int × Unit)) =>
 K (x3, x2.2.1, ())
noncomputable def h79 : Hint := (hS (hR 2) (hS (hR 6) hL))
theorem F79_calls {a0 : Option Addr} {K : ((Int × Int × Int × Unit) × Int × Unit) → World → Prop} {w : World} (h : F79 a0 K w) : callT Tryz.prog 79 #[(.pointer a0)] (.tup [(.agg c43), (.one (.int .i64))]) K w := tied tabOk Tryz.func79 h79 [(.pointer a0)] h
noncomputable def F84 (a0 : Option Addr) (K : ((Int × Int × Int × Unit) × Int × Unit) → World → Prop) : World → Prop :=
 newO (.cells #[(.int .i64 (0 : Int)), (.int .i64 (0 : Int)), (.int .i64 (0 : Int))] 43) fun b1 =>
 callT Tryz.prog 126 #[(.pointer a0)] (.one (.one .bool)) fun (x2 : Bool) =>
 sif x2 (
 callT Tryz.prog 120 #[] (.tup [(.agg c43), (.one (.int .i64))]) fun (x3 : ((Int × Int × Int × Unit) × Int × Unit)) =>
 aggSt (at0 b1) (.agg (Cells.vals c43 x3.1).toArray) 3 <|
 lds c43 (at0 b1) fun (x4 : (Int × Int × Int × Unit)) =>
 K (x4, x3.2.1, ())) (
 drew <|
 nn a0 fun p5 =>
 ld (.int .i64) ((p5.add 9).add 4) fun (x6 : Int) =>
 nn a0 fun p7 =>
 ld (.int .i64) (p7.add 3) fun (x8 : Int) =>
 callT Tryz.prog 127 #[(.pointer a0), (.int .i64 (IntKind.wrap .i64 (x6 + x8)))] (.tup [(.agg c43), (.one (.int .i64))]) fun (x9 : ((Int × Int × Int × Unit) × Int × Unit)) =>
 aggSt (at0 b1) (.agg (Cells.vals c43 x9.1).toArray) 3 <|
 lds c43 (at0 b1) fun (x10 : (Int × Int × Int × Unit)) =>
 K (x10, x9.2.1, ()))
noncomputable def h84 : Hint := (hS (hR 2) (hS (hS (hR 2) (hC (hS (hR 5) hL) hL)) (hS (.region [0, 1, 2, 3, 4, 5, 6, 7, 8, 9, 10, 11, 12, 13, 14, 15] (hO 16)) hL)))
theorem F84_calls {a0 : Option Addr} {K : ((Int × Int × Int × Unit) × Int × Unit) → World → Prop} {w : World} (h : F84 a0 K w) : callT Tryz.prog 84 #[(.pointer a0)] (.tup [(.agg c43), (.one (.int .i64))]) K w := tied tabOk Tryz.func84 h84 [(.pointer a0)] h
noncomputable def F85 (a0 : Option Addr) (K : ((Int × Int × Int × Unit) × Int × Unit) → World → Prop) : World → Prop :=
 newO (.cells #[(.int .i64 (0 : Int)), (.int .i64 (0 : Int)), (.int .i64 (0 : Int))] 43) fun b1 =>
 nn a0 fun p2 =>
 ld (.int .i64) ((p2.add 9).add 4) fun (x3 : Int) =>
 sif (x3 == (0 : Int)) (
 callT Tryz.prog 120 #[] (.tup [(.agg c43), (.one (.int .i64))]) fun (x4 : ((Int × Int × Int × Unit) × Int × Unit)) =>
 aggSt (at0 b1) (.agg (Cells.vals c43 x4.1).toArray) 3 <|
 lds c43 (at0 b1) fun (x5 : (Int × Int × Int × Unit)) =>
 K (x5, x4.2.1, ())) (
 drew <|
 nn a0 fun p6 =>
 ld (.int .i64) ((p6.add 9).add 4) fun (x7 : Int) =>
 nn a0 fun p8 =>
 ld (.int .i64) (p8.add 3) fun (x9 : Int) =>
 callT Tryz.prog 127 #[(.pointer a0), (.int .i64 (IntKind.wrap .i64 (x7 - x9)))] (.tup [(.agg c43), (.one (.int .i64))]) fun (x10 : ((Int × Int × Int × Unit) × Int × Unit)) =>
 aggSt (at0 b1) (.agg (Cells.vals c43 x10.1).toArray) 3 <|
 lds c43 (at0 b1) fun (x11 : (Int × Int × Int × Unit)) =>
 K (x11, x10.2.1, ()))
noncomputable def h85 : Hint := (hS (hR 2) (hS (hS (hR 6) (hC (hS (hR 5) hL) hL)) (hS (.region [0, 1, 2, 3, 4, 5, 6, 7, 8, 9, 10, 11, 12, 13, 14, 15] (hO 16)) hL)))
theorem F85_calls {a0 : Option Addr} {K : ((Int × Int × Int × Unit) × Int × Unit) → World → Prop} {w : World} (h : F85 a0 K w) : callT Tryz.prog 85 #[(.pointer a0)] (.tup [(.agg c43), (.one (.int .i64))]) K w := tied tabOk Tryz.func85 h85 [(.pointer a0)] h
noncomputable def F86 (a0 : Option Addr) (K : ((Int × Int × Int × Unit) × Int × Unit) → World → Prop) : World → Prop :=
 newO (.cells #[(.int .i64 (0 : Int)), (.int .i64 (0 : Int)), (.int .i64 (0 : Int))] 43) fun b1 =>
 callT Tryz.prog 126 #[(.pointer a0)] (.one (.one .bool)) fun (x2 : Bool) =>
 sif x2 (
 callT Tryz.prog 120 #[] (.tup [(.agg c43), (.one (.int .i64))]) fun (x3 : ((Int × Int × Int × Unit) × Int × Unit)) =>
 aggSt (at0 b1) (.agg (Cells.vals c43 x3.1).toArray) 3 <|
 lds c43 (at0 b1) fun (x4 : (Int × Int × Int × Unit)) =>
 K (x4, x3.2.1, ())) (
 drew <|
 nn a0 fun p5 =>
 ld (.int .i64) ((p5.add 9).add 4) fun (x6 : Int) =>
 nn a0 fun p7 =>
 ld (.int .i64) (p7.add 3) fun (x8 : Int) =>
 callT Tryz.prog 128 #[(.pointer a0), (.int .i64 (IntKind.wrap .i64 (x6 + x8)))] (.tup [(.agg c43), (.one (.int .i64))]) fun (x9 : ((Int × Int × Int × Unit) × Int × Unit)) =>
 aggSt (at0 b1) (.agg (Cells.vals c43 x9.1).toArray) 3 <|
 lds c43 (at0 b1) fun (x10 : (Int × Int × Int × Unit)) =>
 K (x10, x9.2.1, ()))
noncomputable def h86 : Hint := (hS (hR 2) (hS (hS (hR 2) (hC (hS (hR 5) hL) hL)) (hS (.region [0, 1, 2, 3, 4, 5, 6, 7, 8, 9, 10, 11, 12, 13, 14, 15] (hO 16)) hL)))
theorem F86_calls {a0 : Option Addr} {K : ((Int × Int × Int × Unit) × Int × Unit) → World → Prop} {w : World} (h : F86 a0 K w) : callT Tryz.prog 86 #[(.pointer a0)] (.tup [(.agg c43), (.one (.int .i64))]) K w := tied tabOk Tryz.func86 h86 [(.pointer a0)] h
noncomputable def F87 (a0 : Option Addr) (K : ((Int × Int × Int × Unit) × Int × Unit) → World → Prop) : World → Prop :=
 newO (.cells #[(.int .i64 (0 : Int)), (.int .i64 (0 : Int)), (.int .i64 (0 : Int))] 43) fun b1 =>
 nn a0 fun p2 =>
 ld (.int .i64) ((p2.add 9).add 4) fun (x3 : Int) =>
 sif (x3 == (0 : Int)) (
 callT Tryz.prog 120 #[] (.tup [(.agg c43), (.one (.int .i64))]) fun (x4 : ((Int × Int × Int × Unit) × Int × Unit)) =>
 aggSt (at0 b1) (.agg (Cells.vals c43 x4.1).toArray) 3 <|
 lds c43 (at0 b1) fun (x5 : (Int × Int × Int × Unit)) =>
 K (x5, x4.2.1, ())) (
 drew <|
 nn a0 fun p6 =>
 ld (.int .i64) ((p6.add 9).add 4) fun (x7 : Int) =>
 nn a0 fun p8 =>
 ld (.int .i64) (p8.add 3) fun (x9 : Int) =>
 callT Tryz.prog 128 #[(.pointer a0), (.int .i64 (IntKind.wrap .i64 (x7 - x9)))] (.tup [(.agg c43), (.one (.int .i64))]) fun (x10 : ((Int × Int × Int × Unit) × Int × Unit)) =>
 aggSt (at0 b1) (.agg (Cells.vals c43 x10.1).toArray) 3 <|
 lds c43 (at0 b1) fun (x11 : (Int × Int × Int × Unit)) =>
 K (x11, x10.2.1, ()))
noncomputable def h87 : Hint := (hS (hR 2) (hS (hS (hR 6) (hC (hS (hR 5) hL) hL)) (hS (.region [0, 1, 2, 3, 4, 5, 6, 7, 8, 9, 10, 11, 12, 13, 14, 15] (hO 16)) hL)))
theorem F87_calls {a0 : Option Addr} {K : ((Int × Int × Int × Unit) × Int × Unit) → World → Prop} {w : World} (h : F87 a0 K w) : callT Tryz.prog 87 #[(.pointer a0)] (.tup [(.agg c43), (.one (.int .i64))]) K w := tied tabOk Tryz.func87 h87 [(.pointer a0)] h
noncomputable def F88 (a0 : Option Addr) (K : ((Int × Int × Int × Unit) × Int × Unit) → World → Prop) : World → Prop :=
 newO (.cells #[(.int .i64 (0 : Int)), (.int .i64 (0 : Int)), (.int .i64 (0 : Int))] 43) fun b1 =>
 drew <|
 nn a0 fun p2 =>
 ld (.int .i64) ((p2.add 9).add 4) fun (x3 : Int) =>
 nn a0 fun p4 =>
 ld (.int .i64) (p4.add 3) fun (x5 : Int) =>
 callT Tryz.prog 128 #[(.pointer a0), (.int .i64 (IntKind.wrap .i64 ((IntKind.wrap .i64 (x3 + x5)) - (1 : Int))))] (.tup [(.agg c43), (.one (.int .i64))]) fun (x6 : ((Int × Int × Int × Unit) × Int × Unit)) =>
 aggSt (at0 b1) (.agg (Cells.vals c43 x6.1).toArray) 3 <|
 lds c43 (at0 b1) fun (x7 : (Int × Int × Int × Unit)) =>
 K (x7, x6.2.1, ())
noncomputable def h88 : Hint := (hS (hR 2) (hS (.region [0, 1, 2, 3, 4, 5, 6, 7, 8, 9, 10, 11, 12, 13, 14, 15, 16] (hO 17)) hL))
theorem F88_calls {a0 : Option Addr} {K : ((Int × Int × Int × Unit) × Int × Unit) → World → Prop} {w : World} (h : F88 a0 K w) : callT Tryz.prog 88 #[(.pointer a0)] (.tup [(.agg c43), (.one (.int .i64))]) K w := tied tabOk Tryz.func88 h88 [(.pointer a0)] h
noncomputable def F89 (a0 : Option Addr) (K : ((Int × Int × Int × Unit) × Int × Unit) → World → Prop) : World → Prop :=
 newO (.cells #[(.int .i64 (0 : Int)), (.int .i64 (0 : Int)), (.int .i64 (0 : Int))] 43) fun b1 =>
 nn a0 fun p2 =>
 ld (.bool) (p2.add 4) fun (x3 : Bool) =>
 sif (!x3) (
 nn a0 fun p4 =>
 ld (.ptr) p4 fun (x5 : Option Addr) =>
 callT Tryz.prog 19 #[(.pointer x5)] (.one (.one (.int .i64))) fun (x6 : Int) =>
 callT Tryz.prog 128 #[(.pointer a0), (.int .i64 x6)] (.tup [(.agg c43), (.one (.int .i64))]) fun (x7 : ((Int × Int × Int × Unit) × Int × Unit)) =>
 aggSt (at0 b1) (.agg (Cells.vals c43 x7.1).toArray) 3 <|
 lds c43 (at0 b1) fun (x8 : (Int × Int × Int × Unit)) =>
 K (x8, x7.2.1, ())) (
 nn a0 fun p9 =>
 ld (.int .i64) (p9.add 3) fun (x10 : Int) =>
 callT Tryz.prog 128 #[(.pointer a0), (.int .i64 (IntKind.wrap .i64 (x10 - (1 : Int))))] (.tup [(.agg c43), (.one (.int .i64))]) fun (x11 : ((Int × Int × Int × Unit) × Int × Unit)) =>
 aggSt (at0 b1) (.agg (Cells.vals c43 x11.1).toArray) 3 <|
 lds c43 (at0 b1) fun (x12 : (Int × Int × Int × Unit)) =>
 K (x12, x11.2.1, ()))
noncomputable def h89 : Hint := (hS (hR 2) (hS (hS (hR 5) (hC (hS (hR 11) hL) hL)) (hS (hR 11) hL)))
theorem F89_calls {a0 : Option Addr} {K : ((Int × Int × Int × Unit) × Int × Unit) → World → Prop} {w : World} (h : F89 a0 K w) : callT Tryz.prog 89 #[(.pointer a0)] (.tup [(.agg c43), (.one (.int .i64))]) K w := tied tabOk Tryz.func89 h89 [(.pointer a0)] h
noncomputable def F90 (a0 : Option Addr) (K : ((Int × Int × Int × Unit) × Int × Unit) → World → Prop) : World → Prop :=
 newO (.cells #[(.int .i64 (0 : Int)), (.int .i64 (0 : Int)), (.int .i64 (0 : Int))] 43) fun b1 =>
 nn a0 fun p2 =>
 ld (.int .i64) (p2.add 3) fun (x3 : Int) =>
 callT Tryz.prog 128 #[(.pointer a0), (.int .i64 (IntKind.wrap .i64 (x3 - (1 : Int))))] (.tup [(.agg c43), (.one (.int .i64))]) fun (x4 : ((Int × Int × Int × Unit) × Int × Unit)) =>
 aggSt (at0 b1) (.agg (Cells.vals c43 x4.1).toArray) 3 <|
 lds c43 (at0 b1) fun (x5 : (Int × Int × Int × Unit)) =>
 K (x5, x4.2.1, ())
noncomputable def h90 : Hint := (hS (hR 2) (hS (hR 11) hL))
theorem F90_calls {a0 : Option Addr} {K : ((Int × Int × Int × Unit) × Int × Unit) → World → Prop} {w : World} (h : F90 a0 K w) : callT Tryz.prog 90 #[(.pointer a0)] (.tup [(.agg c43), (.one (.int .i64))]) K w := tied tabOk Tryz.func90 h90 [(.pointer a0)] h
noncomputable def F91 (a0 : Option Addr) (K : ((Int × Int × Int × Unit) × Int × Unit) → World → Prop) : World → Prop :=
 newO (.cells #[(.int .i64 (0 : Int)), (.int .i64 (0 : Int)), (.int .i64 (0 : Int))] 43) fun b1 =>
 join (S := Bool × Unit) (fun J2 =>
 nn a0 fun p4 =>
 ld (.bool) (p4.add 4) fun (x5 : Bool) =>
 sif (!x5) (
 J2 (true, ())) (
 nn a0 fun p6 =>
 ld (.int .i64) (p6.add 3) fun (x7 : Int) =>
 J2 ((decide (x7 > (100 : Int))), ()))) fun (s3 : Bool × Unit) =>
 sif s3.1 (
 callT Tryz.prog 120 #[] (.tup [(.agg c43), (.one (.int .i64))]) fun (x8 : ((Int × Int × Int × Unit) × Int × Unit)) =>
 aggSt (at0 b1) (.agg (Cells.vals c43 x8.1).toArray) 3 <|
 lds c43 (at0 b1) fun (x9 : (Int × Int × Int × Unit)) =>
 K (x9, x8.2.1, ())) (
 drew <|
 nn a0 fun p10 =>
 ld (.int .i64) (p10.add 3) fun (x11 : Int) =>
 nn a0 fun p12 =>
 ld (.ptr) p12 fun (x13 : Option Addr) =>
 callT Tryz.prog 19 #[(.pointer x13)] (.one (.one (.int .i64))) fun (x14 : Int) =>
 keep (fun w => w.cell? (p10.add 3) = some (Cell.val (.int .i64) x11)) <|
 chk ((100 : Int) ≠ 0) <|
 callT Tryz.prog 128 #[(.pointer a0), (.int .i64 (IntKind.wrap .i64 ((IntKind.wrap .i64 (Int.tdiv (IntKind.wrap .i64 ((IntKind.wrap .i64 (x11 * x14)) + (99 : Int))) (100 : Int))) - (1 : Int))))] (.tup [(.agg c43), (.one (.int .i64))]) fun (x15 : ((Int × Int × Int × Unit) × Int × Unit)) =>
 aggSt (at0 b1) (.agg (Cells.vals c43 x15.1).toArray) 3 <|
 lds c43 (at0 b1) fun (x16 : (Int × Int × Int × Unit)) =>
 K (x16, x15.2.1, ()))
noncomputable def h91 : Hint := (hS (hR 2) (hS (hJ (65520, [(15, tB)]) (.region [] (.ops 6 (.split 9 (.skips 5 (hO 1)) (hO 6)))) (hC (hS (hR 5) hL) hL)) (hS (.region [0, 1, 2, 3, 4, 5, 6, 7, 8, 9, 10, 11, 12, 13, 14, 15, 16, 17, 18] (hO 19)) hL)))
theorem F91_calls {a0 : Option Addr} {K : ((Int × Int × Int × Unit) × Int × Unit) → World → Prop} {w : World} (h : F91 a0 K w) : callT Tryz.prog 91 #[(.pointer a0)] (.tup [(.agg c43), (.one (.int .i64))]) K w := tied tabOk Tryz.func91 h91 [(.pointer a0)] h
noncomputable def F96 (a0 : Option Addr) (K : ((Int × Int × Int × Unit) × Int × Unit) → World → Prop) : World → Prop :=
 newO (.cells #[(.int .i64 (0 : Int)), (.int .i64 (0 : Int)), (.int .i64 (0 : Int))] 43) fun b1 =>
 drew <|
 nn a0 fun p2 =>
 lds c72 (p2.add 9) fun (x3 : (Int × Int × Int × Int × Int × Sl × Sl × Unit)) =>
 nn a0 fun p4 =>
 ld (.ptr) p4 fun (x5 : Option Addr) =>
 callT Tryz.prog 130 #[(.agg (Cells.vals c72 x3).toArray)] (.one (.one .bool)) fun (x6 : Bool) =>
 keep (fun w => w.cell? p4 = some (Cell.val (.ptr) x5)) <|
 callT Tryz.prog 19 #[(.pointer x5)] (.one (.one (.int .i64))) fun (x7 : Int) =>
 nn a0 fun p8 =>
 ld (.int .i64) (p8.add 3) fun (x9 : Int) =>
 join (S := Unit) (fun J10 =>
 nn a0 fun p12 =>
 ld (.int .i64) ((p12.add 9).add 4) fun (x13 : Int) =>
 sloop (S := Bool × Int × Int × Unit) (fun (s14 : Bool × Int × Int × Unit) again15 =>
 sif (decide (s14.2.2.1 ≤ (IntKind.wrap .i64 (x7 - (1 : Int))))) (
 nn a0 fun p16 =>
 ld (.ptr) p16 fun (x17 : Option Addr) =>
 callT Tryz.prog 61 #[(.pointer x17), (.int .i64 s14.2.2.1)] (.one (.agg c72)) fun (x18 : (Int × Int × Int × Int × Int × Sl × Sl × Unit)) =>
 newO (.cells #[(.int .i64 (0 : Int)), (.int .i64 (0 : Int)), (.int .i64 (0 : Int)), (.int .i64 (0 : Int)), (.int .i64 (0 : Int)), (.slice none 0 0), (.slice none 0 0)] 72) fun b19 =>
 aggSt (at0 b19) (.agg (Cells.vals c72 x18).toArray) 7 <|
 lds c72 (at0 b19) fun (x20 : (Int × Int × Int × Int × Int × Sl × Sl × Unit)) =>
 callT Tryz.prog 130 #[(.agg (Cells.vals c72 x20).toArray)] (.one (.one .bool)) fun (x21 : Bool) =>
 join (S := Int × Unit) (fun J22 =>
 join (S := Bool × Unit) (fun J24 =>
 sif x21 (
 J24 ((!s14.1), ())) (
 J24 (false, ()))) fun (s25 : Bool × Unit) =>
 sif s25.1 (
 sif ((IntKind.wrap .i64 (s14.2.1 - (1 : Int))) == (0 : Int)) (
 ld (.int .i64) (at0 b19) fun (x26 : Int) =>
 callT Tryz.prog 121 #[(.pointer a0), (.int .i64 x26), (.int .i64 (0 : Int))] (.tup [(.agg c43), (.one (.int .i64))]) fun (x27 : ((Int × Int × Int × Unit) × Int × Unit)) =>
 aggSt (at0 b1) (.agg (Cells.vals c43 x27.1).toArray) 3 <|
 lds c43 (at0 b1) fun (x28 : (Int × Int × Int × Unit)) =>
 K (x28, x27.2.1, ())) (
 J22 ((IntKind.wrap .i64 (s14.2.1 - (1 : Int))), ()))) (
 J22 (s14.2.1, ()))) fun (s23 : Int × Unit) =>
 again15 (x21, s23.1, (IntKind.wrap .i64 (s14.2.2.1 + (1 : Int))), ())) (
 J10 ())) (x6, x9, (IntKind.wrap .i64 (x13 + (1 : Int))), ())) fun (s11 : Unit) =>
 callT Tryz.prog 131 #[(.pointer a0)] (.one (.one (.int .i64))) fun (x29 : Int) =>
 nn a0 fun p30 =>
 ld (.int .i64) (p30.add 1) fun (x31 : Int) =>
 sif (x29 != x31) (
 callT Tryz.prog 121 #[(.pointer a0), (.int .i64 x29), (.int .i64 (1 : Int))] (.tup [(.agg c43), (.one (.int .i64))]) fun (x32 : ((Int × Int × Int × Unit) × Int × Unit)) =>
 aggSt (at0 b1) (.agg (Cells.vals c43 x32.1).toArray) 3 <|
 lds c43 (at0 b1) fun (x33 : (Int × Int × Int × Unit)) =>
 K (x33, x32.2.1, ())) (
 callT Tryz.prog 120 #[] (.tup [(.agg c43), (.one (.int .i64))]) fun (x34 : ((Int × Int × Int × Unit) × Int × Unit)) =>
 aggSt (at0 b1) (.agg (Cells.vals c43 x34.1).toArray) 3 <|
 lds c43 (at0 b1) fun (x35 : (Int × Int × Int × Unit)) =>
 K (x35, x34.2.1, ()))
noncomputable def h96 : Hint := (hS (hR 2) (hS (.region [0, 1, 2, 3, 5, 6, 7, 8, 4, 9, 10, 11, 12] (hO 13)) (hS (hR 5) (hJ (4611686018360280024, []) (hS (hR 7) (.block (.loop 4611686014132421592 [(4, tB), (6, tI), (7, tI)] (hS (hS (hR 3) (hC hL hL)) (hS (.block (hS (hR 8) (hS (hR 3) (hJ (2305807824841605192, [(6, tI)]) (hJ (1090715534753792, [(49, tB)]) (.region [] (.ops 2 (.split 46 (hO 3) (.skips 2 (hO 1))))) (hC (hS (hR 3) (hS (hR 2) (hC (hS (hR 9) hL) hL))) hL)) (hR 2))))) (hR 3)))))) (hS (hS (hR 3) (hS (hR 6) (hC (hS (hR 7) hL) hL))) (hS (hR 5) hL))))))
theorem F96_calls {a0 : Option Addr} {K : ((Int × Int × Int × Unit) × Int × Unit) → World → Prop} {w : World} (h : F96 a0 K w) : callT Tryz.prog 96 #[(.pointer a0)] (.tup [(.agg c43), (.one (.int .i64))]) K w := tied tabOk Tryz.func96 h96 [(.pointer a0)] h
noncomputable def F97 (a0 : Option Addr) (K : ((Int × Int × Int × Unit) × Int × Unit) → World → Prop) : World → Prop :=
 newO (.cells #[(.int .i64 (0 : Int)), (.int .i64 (0 : Int)), (.int .i64 (0 : Int))] 43) fun b1 =>
 nn a0 fun p2 =>
 lds c72 (p2.add 9) fun (x3 : (Int × Int × Int × Int × Int × Sl × Sl × Unit)) =>
 callT Tryz.prog 130 #[(.agg (Cells.vals c72 x3).toArray)] (.one (.one .bool)) fun (x4 : Bool) =>
 nn a0 fun p5 =>
 ld (.int .i64) (p5.add 3) fun (x6 : Int) =>
 join (S := Unit) (fun J7 =>
 nn a0 fun p9 =>
 ld (.int .i64) ((p9.add 9).add 4) fun (x10 : Int) =>
 sloop (S := Bool × Int × Int × Unit) (fun (s11 : Bool × Int × Int × Unit) again12 =>
 sif (decide (s11.2.2.1 ≥ (0 : Int))) (
 nn a0 fun p13 =>
 ld (.ptr) p13 fun (x14 : Option Addr) =>
 callT Tryz.prog 61 #[(.pointer x14), (.int .i64 s11.2.2.1)] (.one (.agg c72)) fun (x15 : (Int × Int × Int × Int × Int × Sl × Sl × Unit)) =>
 newO (.cells #[(.int .i64 (0 : Int)), (.int .i64 (0 : Int)), (.int .i64 (0 : Int)), (.int .i64 (0 : Int)), (.int .i64 (0 : Int)), (.slice none 0 0), (.slice none 0 0)] 72) fun b16 =>
 aggSt (at0 b16) (.agg (Cells.vals c72 x15).toArray) 7 <|
 lds c72 (at0 b16) fun (x17 : (Int × Int × Int × Int × Int × Sl × Sl × Unit)) =>
 callT Tryz.prog 130 #[(.agg (Cells.vals c72 x17).toArray)] (.one (.one .bool)) fun (x18 : Bool) =>
 join (S := Int × Unit) (fun J19 =>
 join (S := Bool × Unit) (fun J21 =>
 sif x18 (
 J21 ((!s11.1), ())) (
 J21 (false, ()))) fun (s22 : Bool × Unit) =>
 sif s22.1 (
 sif ((IntKind.wrap .i64 (s11.2.1 - (1 : Int))) == (0 : Int)) (
 ld (.int .i64) (at0 b16) fun (x23 : Int) =>
 callT Tryz.prog 121 #[(.pointer a0), (.int .i64 x23), (.int .i64 (0 : Int))] (.tup [(.agg c43), (.one (.int .i64))]) fun (x24 : ((Int × Int × Int × Unit) × Int × Unit)) =>
 aggSt (at0 b1) (.agg (Cells.vals c43 x24.1).toArray) 3 <|
 lds c43 (at0 b1) fun (x25 : (Int × Int × Int × Unit)) =>
 K (x25, x24.2.1, ())) (
 J19 ((IntKind.wrap .i64 (s11.2.1 - (1 : Int))), ()))) (
 J19 (s11.2.1, ()))) fun (s20 : Int × Unit) =>
 again12 (x18, s20.1, (IntKind.wrap .i64 (s11.2.2.1 - (1 : Int))), ())) (
 J7 ())) (x4, x6, (IntKind.wrap .i64 (x10 - (1 : Int))), ())) fun (s8 : Unit) =>
 nn a0 fun p26 =>
 ld (.int .i64) (p26.add 1) fun (x27 : Int) =>
 sif (x27 == (0 : Int)) (
 callT Tryz.prog 120 #[] (.tup [(.agg c43), (.one (.int .i64))]) fun (x28 : ((Int × Int × Int × Unit) × Int × Unit)) =>
 aggSt (at0 b1) (.agg (Cells.vals c43 x28.1).toArray) 3 <|
 lds c43 (at0 b1) fun (x29 : (Int × Int × Int × Unit)) =>
 K (x29, x28.2.1, ())) (
 callT Tryz.prog 121 #[(.pointer a0), (.int .i64 (0 : Int)), (.int .i64 (0 : Int))] (.tup [(.agg c43), (.one (.int .i64))]) fun (x30 : ((Int × Int × Int × Unit) × Int × Unit)) =>
 aggSt (at0 b1) (.agg (Cells.vals c43 x30.1).toArray) 3 <|
 lds c43 (at0 b1) fun (x31 : (Int × Int × Int × Unit)) =>
 K (x31, x30.2.1, ()))
noncomputable def h97 : Hint := (hS (hR 2) (hS (hR 6) (hS (hR 5) (hJ (9007199254479352, []) (hS (hR 7) (.block (.loop 9007199237964280 [(4, tB), (5, tI), (6, tI)] (hS (hS (hR 2) (hC hL hL)) (hS (.block (hS (hR 8) (hS (hR 3) (hJ (4503530907893800, [(5, tI)]) (hJ (2130303778816, [(40, tB)]) (.region [] (.ops 2 (.split 37 (hO 3) (.skips 2 (hO 1))))) (hC (hS (hR 3) (hS (hR 2) (hC (hS (hR 9) hL) hL))) hL)) (hR 2))))) (hR 3)))))) (hS (hS (hR 5) (hC (hS (hR 5) hL) hL)) (hS (hR 6) hL))))))
theorem F97_calls {a0 : Option Addr} {K : ((Int × Int × Int × Unit) × Int × Unit) → World → Prop} {w : World} (h : F97 a0 K w) : callT Tryz.prog 97 #[(.pointer a0)] (.tup [(.agg c43), (.one (.int .i64))]) K w := tied tabOk Tryz.func97 h97 [(.pointer a0)] h
noncomputable def F98 (a0 : Option Addr) (K : ((Int × Int × Int × Unit) × Int × Unit) → World → Prop) : World → Prop :=
 newO (.cells #[(.int .i64 (0 : Int)), (.int .i64 (0 : Int)), (.int .i64 (0 : Int))] 43) fun b1 =>
 callT Tryz.prog 132 #[(.pointer a0)] (.one (.one .ptr)) fun (x2 : Option Addr) =>
 nn x2 fun p3 =>
 ld (.int .i64) ((p3.add 1).add 4) fun (x4 : Int) =>
 join (S := Unit) (fun J5 =>
 sloop (S := Unit) (fun (s7 : Unit) again8 =>
 callT Tryz.prog 133 #[(.pointer x2)] (.one (.one (.int .i64))) fun (x9 : Int) =>
 sif (decide (x9 < (0 : Int))) (
 join (S := Bool × Unit) (fun J10 =>
 callT Tryz.prog 103 #[(.pointer x2)] (.one (.one .bool)) fun (x12 : Bool) =>
 sif (!x12) (
 J10 (true, ())) (
 nn x2 fun p13 =>
 ld (.int .i64) ((p13.add 1).add 4) fun (x14 : Int) =>
 J10 ((x14 != x4), ()))) fun (s11 : Bool × Unit) =>
 sif s11.1 (
 callT Tryz.prog 120 #[] (.tup [(.agg c43), (.one (.int .i64))]) fun (x15 : ((Int × Int × Int × Unit) × Int × Unit)) =>
 aggSt (at0 b1) (.agg (Cells.vals c43 x15.1).toArray) 3 <|
 lds c43 (at0 b1) fun (x16 : (Int × Int × Int × Unit)) =>
 K (x16, x15.2.1, ())) (
 again8 ())) (
 J5 ())) ()) fun (s6 : Unit) =>
 callT Tryz.prog 133 #[(.pointer x2)] (.one (.one (.int .i64))) fun (x17 : Int) =>
 join (S := Value × Unit) (fun J18 =>
 sif (decide (x17 ≥ (3 : Int))) (
 J18 ((.func (Fn.func 134) #[(.pointer x2)] #[]), ())) (
 J18 ((.func (Fn.func 103) #[(.pointer x2)] #[]), ()))) fun (s19 : Value × Unit) =>
 join (S := Int × Unit) (fun J20 =>
 sloop (S := Int × Unit) (fun (s22 : Int × Unit) again23 =>
 callX Tryz.prog (do let d ← Deferred.ofValue s19.1 #[]; invoke d.target d.args : Sem Next) (.one (.one .bool)) fun (x24 : Bool) =>
 sif x24 (
 callT Tryz.prog 133 #[(.pointer x2)] (.one (.one (.int .i64))) fun (x25 : Int) =>
 join (S := Bool × Unit) (fun J26 =>
 sif (decide (x25 < (0 : Int))) (
 J26 (true, ())) (
 chk ((3 : Int) ≠ 0) <|
 chk ((3 : Int) ≠ 0) <|
 J26 (((Int.tmod x25 (3 : Int)) != (Int.tmod x17 (3 : Int))), ()))) fun (s27 : Bool × Unit) =>
 sif s27.1 (
 again23 (s22.1, ())) (
 sif (x25 == x17) (
 again23 ((IntKind.wrap .i64 (s22.1 + (1 : Int))), ())) (
 sif ((IntKind.wrap .i64 (s22.1 - (1 : Int))) == (0 : Int)) (
 J20 ((IntKind.wrap .i64 (s22.1 - (1 : Int))), ())) (
 again23 ((IntKind.wrap .i64 (s22.1 - (1 : Int))), ()))))) (
 J20 (s22.1, ()))) ((1 : Int), ())) fun (s21 : Int × Unit) =>
 sif (decide (s21.1 > (0 : Int))) (
 callT Tryz.prog 120 #[] (.tup [(.agg c43), (.one (.int .i64))]) fun (x28 : ((Int × Int × Int × Unit) × Int × Unit)) =>
 aggSt (at0 b1) (.agg (Cells.vals c43 x28.1).toArray) 3 <|
 lds c43 (at0 b1) fun (x29 : (Int × Int × Int × Unit)) =>
 K (x29, x28.2.1, ())) (
 callT Tryz.prog 105 #[(.pointer x2)] (.one (.one (.int .i64))) fun (x30 : Int) =>
 callT Tryz.prog 121 #[(.pointer a0), (.int .i64 x30), (.int .i64 (1 : Int))] (.tup [(.agg c43), (.one (.int .i64))]) fun (x31 : ((Int × Int × Int × Unit) × Int × Unit)) =>
 aggSt (at0 b1) (.agg (Cells.vals c43 x31.1).toArray) 3 <|
 lds c43 (at0 b1) fun (x32 : (Int × Int × Int × Unit)) =>
 K (x32, x31.2.1, ()))
noncomputable def h98 : Hint := (hS (hR 2) (.scope (hS (hR 3) (hS (hR 6) (hJ (34359607304, []) (.block (.loop 34359607304 [] (hS (hS (hR 3) (hC hL hL)) (.block (hJ (4293918720, [(31, tB)]) (.region [] (.ops 4 (.split 23 (.skips 7 (hO 1)) (hO 8)))) (hC (hS (hR 5) hL) hL)))))) (hS (hR 3) (hS (hR 3) (hJ (8246337208448, [(7, (.one .any))]) (hS (hR 2) (hC (hR 3) hL)) (hS (hR 1) (hS hL (hJ (147573943793583391488, [(8, tI)]) (.block (.loop 147573943793583391488 [(8, tI)] (hS (hS (hR 2) (hC hL hL)) (.block (hS (hR 3) (hS (.block (hJ (143974450587500544, [(47, tB)]) (.region [] (.ops 3 (.split 50 (.skips 5 (hO 2)) (hO 7)))) (hC hL (hS (hR 4) (hC (hS (hR 3) hL) hL))))) (hS (hR 3) (hS (hR 2) (hC hL hL))))))))) (hS (hS (hR 2) (hC (hS (hR 5) hL) hL)) (hS (hR 8) hL)))))))))))))
theorem F98_calls {a0 : Option Addr} {K : ((Int × Int × Int × Unit) × Int × Unit) → World → Prop} {w : World} (h : F98 a0 K w) : callT Tryz.prog 98 #[(.pointer a0)] (.tup [(.agg c43), (.one (.int .i64))]) K w := tied tabOk Tryz.func98 h98 [(.pointer a0)] h
noncomputable def F101 (a0 : Int) (K : Value → World → Prop) : World → Prop :=
 join (S := Bool × Unit) (fun J1 =>
 sif (a0 == (21 : Int)) (
 J1 ((a0 == (21 : Int)), ())) (
 J1 ((a0 == (25 : Int)), ()))) fun (s2 : Bool × Unit) =>
 sif s2.1 (
 K (.func (.func 138) #[] #[])) (
 join (S := Bool × Unit) (fun J3 =>
 sif (a0 == (22 : Int)) (
 J3 ((a0 == (22 : Int)), ())) (
 J3 ((a0 == (26 : Int)), ()))) fun (s4 : Bool × Unit) =>
 sif s4.1 (
 K (.func (.func 139) #[] #[])) (
 join (S := Bool × Unit) (fun J5 =>
 sif (a0 == (23 : Int)) (
 J5 ((a0 == (23 : Int)), ())) (
 J5 ((a0 == (27 : Int)), ()))) fun (s6 : Bool × Unit) =>
 sif s6.1 (
 K (.func (.func 140) #[] #[])) (
 join (S := Bool × Unit) (fun J7 =>
 sif (a0 == (24 : Int)) (
 J7 ((a0 == (24 : Int)), ())) (
 J7 ((a0 == (28 : Int)), ()))) fun (s8 : Bool × Unit) =>
 sif s8.1 (
 K (.func (.func 141) #[] #[])) (
 join (S := Bool × Unit) (fun J9 =>
 sif (a0 == (29 : Int)) (
 J9 ((a0 == (29 : Int)), ())) (
 J9 ((a0 == (30 : Int)), ()))) fun (s10 : Bool × Unit) =>
 sif s10.1 (
 K (.func (.func 142) #[] #[])) (
 K .nilFunc)))))
noncomputable def h101 : Hint := (hS (hR 1) (hS (hS (hR 1) (.block (hJ (112, [(4, tB)]) (hS (hR 2) (hC hL (hR 2))) (hC (hS (hR 1) hL) (hJ (896, [(7, tB)]) (hS (hR 2) (hC hL (hR 2))) (hC (hS (hR 1) hL) (hJ (7168, [(10, tB)]) (hS (hR 2) (hC hL (hR 2))) (hC (hS (hR 1) hL) (hJ (57344, [(13, tB)]) (hS (hR 2) (hC hL (hR 2))) (hC (hS (hR 1) hL) (hJ (458752, [(16, tB)]) (hS (hR 2) (hC hL (hR 2))) (hC (hS (hR 1) hL) hL)))))))))))) (hS (hR 1) hL)))
theorem F101_calls {a0 : Int} {K : Value → World → Prop} {w : World} (h : F101 a0 K w) : callT Tryz.prog 101 #[(.int .i64 a0)] (.one (.one .any)) K w := tied tabOk Tryz.func101 h101 [(.int .i64 a0)] h
noncomputable def F102 (a0 : Option Addr) (a1 : Int) (a2 : Bool) (a3 : Bool) (K : Option Addr → World → Prop) : World → Prop :=
 callT Tryz.prog 36 #[(.pointer a0), (.int .i64 a1), (.bool a2)] (.one (.agg c72)) fun (x1 : (Int × Int × Int × Int × Int × Sl × Sl × Unit)) =>
 newO (.cells #[(.int .i64 (0 : Int)), (.int .i64 (0 : Int)), (.int .i64 (0 : Int)), (.int .i64 (0 : Int)), (.int .i64 (0 : Int)), (.slice none 0 0), (.slice none 0 0)] 72) fun b2 =>
 aggSt (at0 b2) (.agg (Cells.vals c72 x1).toArray) 7 <|
 drew <|
 lds c72 (at0 b2) fun (x3 : (Int × Int × Int × Int × Int × Sl × Sl × Unit)) =>
 lds c72 (at0 b2) fun (x4 : (Int × Int × Int × Int × Int × Sl × Sl × Unit)) =>
 callT Tryz.prog 40 #[(.agg (Cells.vals c72 x4).toArray), (.int .i64 a1)] (.one (.one (.int .i64))) fun (x5 : Int) =>
 keep (fun w => cellsAt w (at0 b2) 0 (Cells.vals c72 x3)) <|
 callT Tryz.prog 19 #[(.pointer a0)] (.one (.one (.int .i64))) fun (x6 : Int) =>
 keep (fun w => cellsAt w (at0 b2) 0 (Cells.vals c72 x3)) <|
 newO (.cells (Value.cells (.agg #[(.pointer a0), (.int .i64 x3.1), (.int .i64 x3.2.1), (.int .i64 x3.2.2.1), (.int .i64 x3.2.2.2.1), (.int .i64 x3.2.2.2.2.1), (.slice x3.2.2.2.2.2.1.a x3.2.2.2.2.2.1.len x3.2.2.2.2.2.1.cap), (.slice x3.2.2.2.2.2.2.1.a x3.2.2.2.2.2.2.1.len x3.2.2.2.2.2.2.1.cap), (.int .i64 x5), (.int .i64 (IntKind.wrap .i64 (x6 - (1 : Int)))), (.bool a3)])) 153) fun b7 =>
 K (some (at0 b7))
noncomputable def h102 : Hint := (hS (hR 1) (hS (hR 6) (hS (.region [0, 1, 2, 3, 5, 8, 4, 6, 7, 9, 10, 11] (hO 12)) hL)))
theorem F102_calls {a0 : Option Addr} {a1 : Int} {a2 : Bool} {a3 : Bool} {K : Option Addr → World → Prop} {w : World} (h : F102 a0 a1 a2 a3 K w) : callT Tryz.prog 102 #[(.pointer a0), (.int .i64 a1), (.bool a2), (.bool a3)] (.one (.one .ptr)) K w := tied tabOk Tryz.func102 h102 [(.pointer a0), (.int .i64 a1), (.bool a2), (.bool a3)] h
noncomputable def F103 (a0 : Option Addr) (K : Bool → World → Prop) : World → Prop :=
 drew <|
 nn a0 fun p1 =>
 ld (.int .i64) (p1.add 8) fun (x2 : Int) =>
 nn a0 fun p3 =>
 lds c72 (p3.add 1) fun (x4 : (Int × Int × Int × Int × Int × Sl × Sl × Unit)) =>
 callT Tryz.prog 39 #[(.agg (Cells.vals c72 x4).toArray)] (.one (.one (.int .i64))) fun (x5 : Int) =>
 keep (fun w => w.cell? (p1.add 8) = some (Cell.val (.int .i64) x2)) <|
 sif (decide ((IntKind.wrap .i64 (x2 + (1 : Int))) < x5)) (
 nn a0 fun p6 =>
 ld (.int .i64) (p6.add 8) fun (x7 : Int) =>
 nn a0 fun p8 =>
 stC (p8.add 8) (.int .i64 (IntKind.wrap .i64 (x7 + (1 : Int)))) <|
 K true) (
 drew <|
 nn a0 fun p9 =>
 ld (.int .i64) ((p9.add 1).add 4) fun (x10 : Int) =>
 nn a0 fun p11 =>
 ld (.int .i64) (p11.add 9) fun (x12 : Int) =>
 sif (decide (x10 ≥ x12)) (
 K false) (
 drew <|
 nn a0 fun p13 =>
 ld (.ptr) p13 fun (x14 : Option Addr) =>
 nn a0 fun p15 =>
 ld (.int .i64) ((p15.add 1).add 4) fun (x16 : Int) =>
 callT Tryz.prog 61 #[(.pointer x14), (.int .i64 (IntKind.wrap .i64 (x16 + (1 : Int))))] (.one (.agg c72)) fun (x17 : (Int × Int × Int × Int × Int × Sl × Sl × Unit)) =>
 nn a0 fun p18 =>
 aggSt (p18.add 1) (.agg (Cells.vals c72 x17).toArray) 7 <|
 nn a0 fun p19 =>
 stC (p19.add 8) (.int .i64 (0 : Int)) <|
 K true))
noncomputable def h103 : Hint := (hS (hR 1) (hS (hS (.region [0, 1, 2, 3, 4, 5, 6, 7, 8, 9, 10] (hO 11)) (hC (hS (hR 8) (hS (hR 1) hL)) hL)) (hS (hS (.region [0, 1, 2, 3, 4, 5, 6, 7, 8, 9] (hO 10)) (hC (hS (hR 1) hL) hL)) (hS (.region [0, 1, 2, 3, 4, 5, 6, 7, 8, 9, 10, 11, 12, 13, 14, 15, 16, 17, 18] (hO 19)) (hS (hR 1) hL)))))
theorem F103_calls {a0 : Option Addr} {K : Bool → World → Prop} {w : World} (h : F103 a0 K w) : callT Tryz.prog 103 #[(.pointer a0)] (.one (.one .bool)) K w := tied tabOk Tryz.func103 h103 [(.pointer a0)] h
noncomputable def F104 (a0 : Option Addr) (K : Bool → World → Prop) : World → Prop :=
 callT Tryz.prog 143 #[(.pointer a0)] (.one (.one .bool)) fun (x1 : Bool) =>
 sif x1 (
 drew <|
 nn a0 fun p2 =>
 ld (.int .i64) ((p2.add 1).add 4) fun (x3 : Int) =>
 nn a0 fun p4 =>
 ld (.int .i64) (p4.add 9) fun (x5 : Int) =>
 K (decide (x3 ≤ x5))) (
 drew <|
 nn a0 fun p6 =>
 lds c72 (p6.add 1) fun (x7 : (Int × Int × Int × Int × Int × Sl × Sl × Unit)) =>
 nn a0 fun p8 =>
 ld (.int .i64) (p8.add 8) fun (x9 : Int) =>
 nn a0 fun p10 =>
 ld (.bool) (p10.add 10) fun (x11 : Bool) =>
 callT Tryz.prog 144 #[(.agg (Cells.vals c72 x7).toArray), (.int .i64 x9), (.bool x11)] (.one (.one (.int .i64))) fun (x12 : Int) =>
 drew <|
 sif (x12 != (0 : Int)) (
 nn a0 fun p13 =>
 ld (.int .i64) (p13.add 8) fun (x14 : Int) =>
 sif (x14 == (0 : Int)) (
 K true) (
 nn a0 fun p15 =>
 lds c72 (p15.add 1) fun (x16 : (Int × Int × Int × Int × Int × Sl × Sl × Unit)) =>
 nn a0 fun p17 =>
 ld (.int .i64) (p17.add 8) fun (x18 : Int) =>
 nn a0 fun p19 =>
 ld (.bool) (p19.add 10) fun (x20 : Bool) =>
 callT Tryz.prog 144 #[(.agg (Cells.vals c72 x16).toArray), (.int .i64 (IntKind.wrap .i64 (x18 - (1 : Int)))), (.bool x20)] (.one (.one (.int .i64))) fun (x21 : Int) =>
 K (x21 != x12))) (
 K false))
noncomputable def h104 : Hint := (hS (hR 1) (hS (hS (hR 2) (hC (hS (.region [0, 1, 2, 3, 4, 5, 6, 7, 8, 9, 10] (hO 11)) hL) hL)) (hS (.region [0, 1, 2, 3, 4, 5, 6, 7, 8, 9, 10, 11, 12, 13] (hO 14)) (hS (.region [0, 1, 2, 3, 4, 5, 6, 7, 8, 9, 10, 11, 12, 13, 14, 15, 16, 17, 18, 19, 20, 21, 23, 22, 24, 25, 26, 27] (.ops 3 (.split 31 (.ops 6 (.split 37 (.skips 16 (hO 3)) (hO 19))) (.skips 23 (hO 2))))) hL))))
theorem F104_calls {a0 : Option Addr} {K : Bool → World → Prop} {w : World} (h : F104 a0 K w) : callT Tryz.prog 104 #[(.pointer a0)] (.one (.one .bool)) K w := tied tabOk Tryz.func104 h104 [(.pointer a0)] h
noncomputable def F105 (a0 : Option Addr) (K : Int → World → Prop) : World → Prop :=
 drew <|
 nn a0 fun p1 =>
 lds c72 (p1.add 1) fun (x2 : (Int × Int × Int × Int × Int × Sl × Sl × Unit)) =>
 nn a0 fun p3 =>
 ld (.int .i64) (p3.add 8) fun (x4 : Int) =>
 callT Tryz.prog 38 #[(.agg (Cells.vals c72 x2).toArray), (.int .i64 x4)] (.one (.one (.int .i64))) fun (x5 : Int) =>
 K x5
noncomputable def h105 : Hint := (hS (hR 1) (hS (.region [0, 1, 2, 3, 4, 5, 6, 7, 8, 9] (hO 10)) hL))
theorem F105_calls {a0 : Option Addr} {K : Int → World → Prop} {w : World} (h : F105 a0 K w) : callT Tryz.prog 105 #[(.pointer a0)] (.one (.one (.int .i64))) K w := tied tabOk Tryz.func105 h105 [(.pointer a0)] h
noncomputable def F120  (K : ((Int × Int × Int × Unit) × Int × Unit) → World → Prop) : World → Prop :=
 newO (.cells #[(.int .i64 (0 : Int)), (.int .i64 (0 : Int)), (.int .i64 (0 : Int))] 43) fun b1 =>
 aggSt (at0 b1) (.agg #[(.int .i64 (0 : Int)), (.int .i64 (0 : Int)), (.int .i64 (0 : Int))]) 3 <|
 lds c43 (at0 b1) fun (x2 : (Int × Int × Int × Unit)) =>
 K (x2, (80 : Int), ())
noncomputable def h120 : Hint := (hS (hR 2) (hS (hR 3) hL))
theorem F120_calls {K : ((Int × Int × Int × Unit) × Int × Unit) → World → Prop} {w : World} (h : F120  K w) : callT Tryz.prog 120 #[] (.tup [(.agg c43), (.one (.int .i64))]) K w := tied tabOk Tryz.func120 h120 [] h
noncomputable def F121 (a0 : Option Addr) (a1 : Int) (a2 : Int) (K : ((Int × Int × Int × Unit) × Int × Unit) → World → Prop) : World → Prop :=
 newO (.cells #[(.int .i64 (0 : Int)), (.int .i64 (0 : Int)), (.int .i64 (0 : Int))] 43) fun b1 =>
 nn a0 fun p2 =>
 ld (.ptr) p2 fun (x3 : Option Addr) =>
 callT Tryz.prog 21 #[(.pointer x3), (.int .i64 a1)] (.one (.one (.int .i64))) fun (x4 : Int) =>
 aggSt (at0 b1) (.agg #[(.int .i64 a1), (.int .i64 a2), (.int .i64 x4)]) 3 <|
 lds c43 (at0 b1) fun (x5 : (Int × Int × Int × Unit)) =>
 K (x5, (0 : Int), ())
noncomputable def h121 : Hint := (hS (hR 2) (hS (hR 11) hL))
theorem F121_calls {a0 : Option Addr} {a1 : Int} {a2 : Int} {K : ((Int × Int × Int × Unit) × Int × Unit) → World → Prop} {w : World} (h : F121 a0 a1 a2 K w) : callT Tryz.prog 121 #[(.pointer a0), (.int .i64 a1), (.int .i64 a2)] (.tup [(.agg c43), (.one (.int .i64))]) K w := tied tabOk Tryz.func121 h121 [(.pointer a0), (.int .i64 a1), (.int .i64 a2)] h
noncomputable def F122 (a0 : Option Addr) (K : Int → World → Prop) : World → Prop :=
 nn a0 fun p1 =>
 ld (.bool) (p1.add 7) fun (x2 : Bool) =>
 sif x2 (
 nn a0 fun p3 =>
 lds c72 (p3.add 9) fun (x4 : (Int × Int × Int × Int × Int × Sl × Sl × Unit)) =>
 callT Tryz.prog 39 #[(.agg (Cells.vals c72 x4).toArray)] (.one (.one (.int .i64))) fun (x5 : Int) =>
 K x5) (
 nn a0 fun p6 =>
 lds c72 (p6.add 9) fun (x7 : (Int × Int × Int × Int × Int × Sl × Sl × Unit)) =>
 callT Tryz.prog 39 #[(.agg (Cells.vals c72 x7).toArray)] (.one (.one (.int .i64))) fun (x8 : Int) =>
 K (if (0 : Int) > (IntKind.wrap .i64 (x8 - (1 : Int))) then (0 : Int) else (IntKind.wrap .i64 (x8 - (1 : Int)))))
noncomputable def h122 : Hint := (hS (hR 1) (hS (hS (hR 4) (hC (hS (hR 6) hL) hL)) (hS (hR 8) hL)))
theorem F122_calls {a0 : Option Addr} {K : Int → World → Prop} {w : World} (h : F122 a0 K w) : callT Tryz.prog 122 #[(.pointer a0)] (.one (.one (.int .i64))) K w := tied tabOk Tryz.func122 h122 [(.pointer a0)] h
noncomputable def F123 (a0 : (Int × Int × Int × Int × Int × Sl × Sl × Unit)) (K : Int → World → Prop) : World → Prop :=
 newO (.cells #[(.int .i64 a0.1), (.int .i64 a0.2.1), (.int .i64 a0.2.2.1), (.int .i64 a0.2.2.2.1), (.int .i64 a0.2.2.2.2.1), (.slice a0.2.2.2.2.2.1.a a0.2.2.2.2.2.1.len a0.2.2.2.2.2.1.cap), (.slice a0.2.2.2.2.2.2.1.a a0.2.2.2.2.2.2.1.len a0.2.2.2.2.2.2.1.cap)] 72) fun b1 =>
 join (S := Unit) (fun J2 =>
 lds c72 (at0 b1) fun (x4 : (Int × Int × Int × Int × Int × Sl × Sl × Unit)) =>
 callT Tryz.prog 39 #[(.agg (Cells.vals c72 x4).toArray)] (.one (.one (.int .i64))) fun (x5 : Int) =>
 sloop (S := Int × Unit) (fun (s6 : Int × Unit) again7 =>
 sif (decide (s6.1 < x5)) (
 lds c72 (at0 b1) fun (x8 : (Int × Int × Int × Int × Int × Sl × Sl × Unit)) =>
 callT Tryz.prog 144 #[(.agg (Cells.vals c72 x8).toArray), (.int .i64 s6.1), (.bool true)] (.one (.one (.int .i64))) fun (x9 : Int) =>
 sif (x9 != (0 : Int)) (
 K s6.1) (
 again7 ((IntKind.wrap .i64 (s6.1 + (1 : Int))), ()))) (
 J2 ())) ((0 : Int), ())) fun (s3 : Unit) =>
 lds c72 (at0 b1) fun (x10 : (Int × Int × Int × Int × Int × Sl × Sl × Unit)) =>
 callT Tryz.prog 39 #[(.agg (Cells.vals c72 x10).toArray)] (.one (.one (.int .i64))) fun (x11 : Int) =>
 K (if (0 : Int) > (IntKind.wrap .i64 (x11 - (1 : Int))) then (0 : Int) else (IntKind.wrap .i64 (x11 - (1 : Int))))
noncomputable def h123 : Hint := (hS (hR 2) (hJ (32764, []) (hS (hR 3) (.block (.loop 32716 [(6, tI)] (hS (hR 1) (hS (hC hL hL) (hS (.block (hS (hR 2) (hS (hR 4) (hC (hS (hR 2) hL) hL)))) (hR 2))))))) (hS (hR 5) hL)))
theorem F123_calls {a0 : (Int × Int × Int × Int × Int × Sl × Sl × Unit)} {K : Int → World → Prop} {w : World} (h : F123 a0 K w) : callT Tryz.prog 123 #[(.agg (Cells.vals c72 a0).toArray)] (.one (.one (.int .i64))) K w := tied tabOk Tryz.func123 h123 [(.agg (Cells.vals c72 a0).toArray)] h
noncomputable def F124 (a0 : Option Addr) (a1 : Int) (a2 : Int) (a3 : Int) (K : ((Int × Int × Int × Unit) × Int × Unit) → World → Prop) : World → Prop :=
 newO (.cells #[(.int .i64 (0 : Int)), (.int .i64 (0 : Int)), (.int .i64 (0 : Int))] 43) fun b1 =>
 callT Tryz.prog 151 #[(.pointer a0), (.int .i64 a1)] (.one (.one (.int .i64))) fun (x2 : Int) =>
 sif (decide (x2 < (0 : Int))) (
 callT Tryz.prog 120 #[] (.tup [(.agg c43), (.one (.int .i64))]) fun (x3 : ((Int × Int × Int × Unit) × Int × Unit)) =>
 aggSt (at0 b1) (.agg (Cells.vals c43 x3.1).toArray) 3 <|
 lds c43 (at0 b1) fun (x4 : (Int × Int × Int × Unit)) =>
 K (x4, x3.2.1, ())) (
 nn a0 fun p5 =>
 lds c72 (p5.add 9) fun (x6 : (Int × Int × Int × Int × Int × Sl × Sl × Unit)) =>
 callT Tryz.prog 38 #[(.agg (Cells.vals c72 x6).toArray), (.int .i64 (IntKind.wrap .i64 (x2 + a2)))] (.one (.one (.int .i64))) fun (x7 : Int) =>
 callT Tryz.prog 121 #[(.pointer a0), (.int .i64 x7), (.int .i64 a3)] (.tup [(.agg c43), (.one (.int .i64))]) fun (x8 : ((Int × Int × Int × Unit) × Int × Unit)) =>
 aggSt (at0 b1) (.agg (Cells.vals c43 x8.1).toArray) 3 <|
 lds c43 (at0 b1) fun (x9 : (Int × Int × Int × Unit)) =>
 K (x9, x8.2.1, ()))
noncomputable def h124 : Hint := (hS (hR 2) (hS (hR 4) (hS (hS (hR 2) (hC (hS (hR 5) hL) hL)) (hS (hR 15) hL))))
theorem F124_calls {a0 : Option Addr} {a1 : Int} {a2 : Int} {a3 : Int} {K : ((Int × Int × Int × Unit) × Int × Unit) → World → Prop} {w : World} (h : F124 a0 a1 a2 a3 K w) : callT Tryz.prog 124 #[(.pointer a0), (.int .i64 a1), (.int .i64 a2), (.int .i64 a3)] (.tup [(.agg c43), (.one (.int .i64))]) K w := tied tabOk Tryz.func124 h124 [(.pointer a0), (.int .i64 a1), (.int .i64 a2), (.int .i64 a3)] h
noncomputable def F126 (a0 : Option Addr) (K : Bool → World → Prop) : World → Prop :=
 drew <|
 nn a0 fun p1 =>
 ld (.int .i64) ((p1.add 9).add 4) fun (x2 : Int) =>
 nn a0 fun p3 =>
 ld (.ptr) p3 fun (x4 : Option Addr) =>
 callT Tryz.prog 19 #[(.pointer x4)] (.one (.one (.int .i64))) fun (x5 : Int) =>
 keep (fun w => w.cell? ((p1.add 9).add 4) = some (Cell.val (.int .i64) x2)) <|
 K (x2 == (IntKind.wrap .i64 (x5 - (1 : Int))))
noncomputable def h126 : Hint := (hS (hR 1) (hS (.region [0, 1, 2, 3, 4, 5, 6, 7, 8, 9, 10, 11, 12] (hO 13)) hL))
theorem F126_calls {a0 : Option Addr} {K : Bool → World → Prop} {w : World} (h : F126 a0 K w) : callT Tryz.prog 126 #[(.pointer a0)] (.one (.one .bool)) K w := tied tabOk Tryz.func126 h126 [(.pointer a0)] h
noncomputable def F127 (a0 : Option Addr) (a1 : Int) (K : ((Int × Int × Int × Unit) × Int × Unit) → World → Prop) : World → Prop :=
 newO (.cells #[(.int .i64 (0 : Int)), (.int .i64 (0 : Int)), (.int .i64 (0 : Int))] 43) fun b1 =>
 drew <|
 nn a0 fun p2 =>
 ld (.ptr) p2 fun (x3 : Option Addr) =>
 nn a0 fun p4 =>
 ld (.int .i64) (p4.add 6) fun (x5 : Int) =>
 nn a0 fun p6 =>
 ld (.int .i64) (p6.add 6) fun (x7 : Int) =>
 callT Tryz.prog 29 #[(.pointer x3), (.int .i64 a1), (.int .i64 x5), (.bool false)] (.one (.one (.int .i64))) fun (x8 : Int) =>
 keep (fun w => w.cell? (p6.add 6) = some (Cell.val (.int .i64) x7)) <|
 aggSt (at0 b1) (.agg #[(.int .i64 x8), (.int .i64 (2 : Int)), (.int .i64 x7)]) 3 <|
 lds c43 (at0 b1) fun (x9 : (Int × Int × Int × Unit)) =>
 K (x9, (0 : Int), ())
noncomputable def h127 : Hint := (hS (hR 2) (hS (.region [0, 1, 2, 3, 4, 5, 6, 7, 8, 10, 11, 12, 13, 9, 14, 15, 16] (hO 17)) hL))
theorem F127_calls {a0 : Option Addr} {a1 : Int} {K : ((Int × Int × Int × Unit) × Int × Unit) → World → Prop} {w : World} (h : F127 a0 a1 K w) : callT Tryz.prog 127 #[(.pointer a0), (.int .i64 a1)] (.tup [(.agg c43), (.one (.int .i64))]) K w := tied tabOk Tryz.func127 h127 [(.pointer a0), (.int .i64 a1)] h
noncomputable def F128 (a0 : Option Addr) (a1 : Int) (K : ((Int × Int × Int × Unit) × Int × Unit) → World → Prop) : World → Prop :=
 newO (.cells #[(.int .i64 (0 : Int)), (.int .i64 (0 : Int)), (.int .i64 (0 : Int))] 43) fun b1 =>
 join (S := Addr × Unit) (fun J2 =>
 drew <|
 nn a0 fun p4 =>
 ld (.ptr) p4 fun (x5 : Option Addr) =>
 nn a0 fun p6 =>
 ld (.ptr) p6 fun (x7 : Option Addr) =>
 both (
 newO (.cells #[(.int .i64 (0 : Int)), (.int .i64 (0 : Int)), (.int .i64 (0 : Int)), (.int .i64 (0 : Int)), (.int .i64 (0 : Int)), (.slice none 0 0), (.slice none 0 0)] 72) fun b8 =>
 keep (fun w => w.cell? p6 = some (Cell.val (.ptr) x7)) <|
 keep (fun w => w.cell? p4 = some (Cell.val (.ptr) x5)) <|
 callT Tryz.prog 19 #[(.pointer x7)] (.one (.one (.int .i64))) fun (x9 : Int) =>
 keep (fun w => w.cell? p4 = some (Cell.val (.ptr) x5)) <|
 callT Tryz.prog 61 #[(.pointer x5), (.int .i64 (if (0 : Int) > (if (IntKind.wrap .i64 (x9 - (1 : Int))) < a1 then (IntKind.wrap .i64 (x9 - (1 : Int))) else a1) then (0 : Int) else (if (IntKind.wrap .i64 (x9 - (1 : Int))) < a1 then (IntKind.wrap .i64 (x9 - (1 : Int))) else a1)))] (.one (.agg c72)) fun (x10 : (Int × Int × Int × Int × Int × Sl × Sl × Unit)) =>
 aggSt (at0 b8) (.agg (Cells.vals c72 x10).toArray) 7 <|
 J2 ((at0 b8), ())) <|
 callT Tryz.prog 19 #[(.pointer x7)] (.one (.one (.int .i64))) fun (x11 : Int) =>
 keep (fun w => w.cell? p4 = some (Cell.val (.ptr) x5)) <|
 both (
 newO (.cells #[(.int .i64 (0 : Int)), (.int .i64 (0 : Int)), (.int .i64 (0 : Int)), (.int .i64 (0 : Int)), (.int .i64 (0 : Int)), (.slice none 0 0), (.slice none 0 0)] 72) fun b12 =>
 keep (fun w => w.cell? p6 = some (Cell.val (.ptr) x7)) <|
 keep (fun w => w.cell? p4 = some (Cell.val (.ptr) x5)) <|
 callT Tryz.prog 61 #[(.pointer x5), (.int .i64 (if (0 : Int) > (if (IntKind.wrap .i64 (x11 - (1 : Int))) < a1 then (IntKind.wrap .i64 (x11 - (1 : Int))) else a1) then (0 : Int) else (if (IntKind.wrap .i64 (x11 - (1 : Int))) < a1 then (IntKind.wrap .i64 (x11 - (1 : Int))) else a1)))] (.one (.agg c72)) fun (x13 : (Int × Int × Int × Int × Int × Sl × Sl × Unit)) =>
 aggSt (at0 b12) (.agg (Cells.vals c72 x13).toArray) 7 <|
 J2 ((at0 b12), ())) <|
 callT Tryz.prog 61 #[(.pointer x5), (.int .i64 (if (0 : Int) > (if (IntKind.wrap .i64 (x11 - (1 : Int))) < a1 then (IntKind.wrap .i64 (x11 - (1 : Int))) else a1) then (0 : Int) else (if (IntKind.wrap .i64 (x11 - (1 : Int))) < a1 then (IntKind.wrap .i64 (x11 - (1 : Int))) else a1)))] (.one (.agg c72)) fun (x14 : (Int × Int × Int × Int × Int × Sl × Sl × Unit)) =>
 both (
 newO (.cells #[(.int .i64 (0 : Int)), (.int .i64 (0 : Int)), (.int .i64 (0 : Int)), (.int .i64 (0 : Int)), (.int .i64 (0 : Int)), (.slice none 0 0), (.slice none 0 0)] 72) fun b15 =>
 keep (fun w => w.cell? p6 = some (Cell.val (.ptr) x7)) <|
 keep (fun w => w.cell? p4 = some (Cell.val (.ptr) x5)) <|
 aggSt (at0 b15) (.agg (Cells.vals c72 x14).toArray) 7 <|
 J2 ((at0 b15), ())) <|
 nothing) fun (s3 : Addr × Unit) =>
 drew <|
 lds c72 s3.1 fun (x16 : (Int × Int × Int × Int × Int × Sl × Sl × Unit)) =>
 lds c72 s3.1 fun (x17 : (Int × Int × Int × Int × Int × Sl × Sl × Unit)) =>
 callT Tryz.prog 123 #[(.agg (Cells.vals c72 x17).toArray)] (.one (.one (.int .i64))) fun (x18 : Int) =>
 keep (fun w => cellsAt w s3.1 0 (Cells.vals c72 x16)) <|
 callT Tryz.prog 38 #[(.agg (Cells.vals c72 x16).toArray), (.int .i64 x18)] (.one (.one (.int .i64))) fun (x19 : Int) =>
 callT Tryz.prog 121 #[(.pointer a0), (.int .i64 x19), (.int .i64 (2 : Int))] (.tup [(.agg c43), (.one (.int .i64))]) fun (x20 : ((Int × Int × Int × Unit) × Int × Unit)) =>
 aggSt (at0 b1) (.agg (Cells.vals c43 x20.1).toArray) 3 <|
 lds c43 (at0 b1) fun (x21 : (Int × Int × Int × Unit)) =>
 K (x21, x20.2.1, ())
noncomputable def h128 : Hint := (hS (hR 2) (hJ (2097088, [(6, (.one .addr))]) (.region [0, 1, 2, 3, 4, 5, 6, 7, 8, 9, 10, 11, 12, 13, 15] (.float [14] (.ops 9 (.alt none (.plain (hO 6)) (.ops 4 (.alt none (.plain (hO 2)) (.ops 1 (.alt none (.plain (hO 1)) .stop)))))))) (hS (.region [0, 1, 2, 3, 4, 5, 6, 7, 8, 9] (hO 10)) hL)))
theorem F128_calls {a0 : Option Addr} {a1 : Int} {K : ((Int × Int × Int × Unit) × Int × Unit) → World → Prop} {w : World} (h : F128 a0 a1 K w) : callT Tryz.prog 128 #[(.pointer a0), (.int .i64 a1)] (.tup [(.agg c43), (.one (.int .i64))]) K w := tied tabOk Tryz.func128 h128 [(.pointer a0), (.int .i64 a1)] h
noncomputable def F130 (a0 : (Int × Int × Int × Int × Int × Sl × Sl × Unit)) (K : Bool → World → Prop) : World → Prop :=
 newO (.cells #[(.int .i64 a0.1), (.int .i64 a0.2.1), (.int .i64 a0.2.2.1), (.int .i64 a0.2.2.2.1), (.int .i64 a0.2.2.2.2.1), (.slice a0.2.2.2.2.2.1.a a0.2.2.2.2.2.1.len a0.2.2.2.2.2.1.cap), (.slice a0.2.2.2.2.2.2.1.a a0.2.2.2.2.2.2.1.len a0.2.2.2.2.2.2.1.cap)] 72) fun b1 =>
 lds c72 (at0 b1) fun (x2 : (Int × Int × Int × Int × Int × Sl × Sl × Unit)) =>
 callT Tryz.prog 39 #[(.agg (Cells.vals c72 x2).toArray)] (.one (.one (.int .i64))) fun (x3 : Int) =>
 drew <|
 sif (x3 == (0 : Int)) (
 K true) (
 lds c72 (at0 b1) fun (x4 : (Int × Int × Int × Int × Int × Sl × Sl × Unit)) =>
 lds c72 (at0 b1) fun (x5 : (Int × Int × Int × Int × Int × Sl × Sl × Unit)) =>
 callT Tryz.prog 123 #[(.agg (Cells.vals c72 x5).toArray)] (.one (.one (.int .i64))) fun (x6 : Int) =>
 keep (fun w => cellsAt w (at0 b1) 0 (Cells.vals c72 x4)) <|
 callT Tryz.prog 144 #[(.agg (Cells.vals c72 x4).toArray), (.int .i64 x6), (.bool true)] (.one (.one (.int .i64))) fun (x7 : Int) =>
 K (x7 == (0 : Int)))
noncomputable def h130 : Hint := (hS (hR 2) (hS (hR 3) (hS (.region [0, 1, 2, 3, 4, 5, 6, 7, 8, 9] (.ops 3 (.split 8 (.skips 5 (hO 2)) (hO 7)))) hL)))
theorem F130_calls {a0 : (Int × Int × Int × Int × Int × Sl × Sl × Unit)} {K : Bool → World → Prop} {w : World} (h : F130 a0 K w) : callT Tryz.prog 130 #[(.agg (Cells.vals c72 a0).toArray)] (.one (.one .bool)) K w := tied tabOk Tryz.func130 h130 [(.agg (Cells.vals c72 a0).toArray)] h
noncomputable def F131 (a0 : Option Addr) (K : Int → World → Prop) : World → Prop :=
 drew <|
 nn a0 fun p1 =>
 ld (.ptr) p1 fun (x2 : Option Addr) =>
 nn a0 fun p3 =>
 ld (.ptr) p3 fun (x4 : Option Addr) =>
 callT Tryz.prog 37 #[(.pointer x4)] (.one (.one (.int .i64))) fun (x5 : Int) =>
 keep (fun w => w.cell? p1 = some (Cell.val (.ptr) x2)) <|
 callT Tryz.prog 12 #[(.pointer x2), (.int .i64 x5), (.bool false)] (.one (.one (.int .i64))) fun (x6 : Int) =>
 K x6
noncomputable def h131 : Hint := (hS (hR 1) (hS (.region [0, 1, 2, 3, 4, 5, 6, 7, 8, 9, 10] (hO 11)) hL))
theorem F131_calls {a0 : Option Addr} {K : Int → World → Prop} {w : World} (h : F131 a0 K w) : callT Tryz.prog 131 #[(.pointer a0)] (.one (.one (.int .i64))) K w := tied tabOk Tryz.func131 h131 [(.pointer a0)] h
noncomputable def F132 (a0 : Option Addr) (K : Option Addr → World → Prop) : World → Prop :=
 drew <|
 nn a0 fun p1 =>
 ld (.ptr) p1 fun (x2 : Option Addr) =>
 nn a0 fun p3 =>
 ld (.int .i64) (p3.add 1) fun (x4 : Int) =>
 nn a0 fun p5 =>
 ld (.bool) (p5.add 7) fun (x6 : Bool) =>
 nn a0 fun p7 =>
 ld (.bool) (p7.add 8) fun (x8 : Bool) =>
 callT Tryz.prog 102 #[(.pointer x2), (.int .i64 x4), (.bool x6), (.bool x8)] (.one (.one .ptr)) fun (x9 : Option Addr) =>
 K x9
noncomputable def h132 : Hint := (hS (hR 1) (hS (.region [0, 1, 2, 3, 4, 5, 6, 7, 8, 9, 10, 11, 12, 13, 14, 15, 16, 17] (hO 18)) hL))
theorem F132_calls {a0 : Option Addr} {K : Option Addr → World → Prop} {w : World} (h : F132 a0 K w) : callT Tryz.prog 132 #[(.pointer a0)] (.one (.one .ptr)) K w := tied tabOk Tryz.func132 h132 [(.pointer a0)] h
noncomputable def F133 (a0 : Option Addr) (K : Int → World → Prop) : World → Prop :=
 join (S := Bool × Unit) (fun J1 =>
 drew <|
 nn a0 fun p3 =>
 ld (.int .i64) (p3.add 8) fun (x4 : Int) =>
 nn a0 fun p5 =>
 lds c72 (p5.add 1) fun (x6 : (Int × Int × Int × Int × Int × Sl × Sl × Unit)) =>
 callT Tryz.prog 39 #[(.agg (Cells.vals c72 x6).toArray)] (.one (.one (.int .i64))) fun (x7 : Int) =>
 keep (fun w => w.cell? (p3.add 8) = some (Cell.val (.int .i64) x4)) <|
 sif (decide (x4 ≥ x7)) (
 J1 (true, ())) (
 nn a0 fun p8 =>
 ld (.sl) ((p8.add 1).add 6) fun (x9 : Sl) =>
 nn a0 fun p10 =>
 ld (.int .i64) (p10.add 8) fun (x11 : Int) =>
 ix x9.a x9.len (IntKind.wrap .i64 (x11 + (1 : Int))) fun p12 =>
 ld (.int .i64) (p12.add (scaled (Int.toNat (IntKind.wrap .i64 (x11 + (1 : Int)))) 1)) fun (x13 : Int) =>
 nn a0 fun p14 =>
 ld (.sl) ((p14.add 1).add 6) fun (x15 : Sl) =>
 nn a0 fun p16 =>
 ld (.int .i64) (p16.add 8) fun (x17 : Int) =>
 ix x15.a x15.len x17 fun p18 =>
 ld (.int .i64) (p18.add (scaled (Int.toNat x17) 1)) fun (x19 : Int) =>
 J1 ((decide ((IntKind.wrap .i64 (x13 - x19)) > (1 : Int))), ()))) fun (s2 : Bool × Unit) =>
 sif s2.1 (
 K (-1 : Int)) (
 join (S := Unit) (fun J20 =>
 sloop (S := Int × Unit) (fun (s22 : Int × Unit) again23 =>
 sif (decide (s22.1 < (6 : Int))) (
 drew <|
 nn a0 fun p24 =>
 lds c72 (p24.add 1) fun (x25 : (Int × Int × Int × Int × Int × Sl × Sl × Unit)) =>
 nn a0 fun p26 =>
 ld (.int .i64) (p26.add 8) fun (x27 : Int) =>
 sidx ({ data := #[40, 91, 123, 41, 93, 125] }) s22.1 fun b28 =>
 callT Tryz.prog 153 #[(.agg (Cells.vals c72 x25).toArray), (.int .i64 x27)] (.one (.one (.int .i64))) fun (x29 : Int) =>
 sif (x29 == (IntKind.wrap .i64 ((b28.toNat : Nat) : Int))) (
 K s22.1) (
 again23 ((IntKind.wrap .i64 (s22.1 + (1 : Int))), ()))) (
 J20 ())) ((0 : Int), ())) fun (s21 : Unit) =>
 K (-1 : Int))
noncomputable def h133 : Hint := (hS (hR 1) (hS (hJ (2199023255536, [(40, tB)]) (.region [0, 1, 2, 3, 4, 5, 6, 7, 8, 9, 10, 11, 12, 13, 14, 15, 16, 17, 18, 19, 20, 21, 22, 23, 24, 25, 26, 27, 28, 29, 30, 31, 32, 33, 34, 35, 36] (.ops 11 (.split 14 (.skips 25 (hO 1)) (hO 26)))) (hC (hS (hR 1) hL) hL)) (hJ (576458553280167948, []) (hS (hR 1) (.block (.loop 576458553280167948 [(41, tI)] (hS (hR 1) (hS (hC hL hL) (hS (.block (hS (hR 2) (hS (.region [0, 1, 2, 3, 4, 5, 6, 7, 9, 10, 11, 8, 12] (hO 13)) (hC (hS (hR 2) hL) hL)))) (hR 2))))))) (hS (hR 1) hL))))
theorem F133_calls {a0 : Option Addr} {K : Int → World → Prop} {w : World} (h : F133 a0 K w) : callT Tryz.prog 133 #[(.pointer a0)] (.one (.one (.int .i64))) K w := tied tabOk Tryz.func133 h133 [(.pointer a0)] h
noncomputable def F134 (a0 : Option Addr) (K : Bool → World → Prop) : World → Prop :=
 nn a0 fun p1 =>
 ld (.int .i64) (p1.add 8) fun (x2 : Int) =>
 sif (decide (x2 > (0 : Int))) (
 nn a0 fun p3 =>
 ld (.int .i64) (p3.add 8) fun (x4 : Int) =>
 nn a0 fun p5 =>
 stC (p5.add 8) (.int .i64 (IntKind.wrap .i64 (x4 - (1 : Int)))) <|
 K true) (
 nn a0 fun p6 =>
 ld (.int .i64) ((p6.add 1).add 4) fun (x7 : Int) =>
 sif (x7 == (0 : Int)) (
 K false) (
 drew <|
 nn a0 fun p8 =>
 ld (.ptr) p8 fun (x9 : Option Addr) =>
 nn a0 fun p10 =>
 ld (.int .i64) ((p10.add 1).add 4) fun (x11 : Int) =>
 callT Tryz.prog 61 #[(.pointer x9), (.int .i64 (IntKind.wrap .i64 (x11 - (1 : Int))))] (.one (.agg c72)) fun (x12 : (Int × Int × Int × Int × Int × Sl × Sl × Unit)) =>
 nn a0 fun p13 =>
 aggSt (p13.add 1) (.agg (Cells.vals c72 x12).toArray) 7 <|
 nn a0 fun p14 =>
 lds c72 (p14.add 1) fun (x15 : (Int × Int × Int × Int × Int × Sl × Sl × Unit)) =>
 callT Tryz.prog 39 #[(.agg (Cells.vals c72 x15).toArray)] (.one (.one (.int .i64))) fun (x16 : Int) =>
 nn a0 fun p17 =>
 stC (p17.add 8) (.int .i64 (if (0 : Int) > (IntKind.wrap .i64 (x16 - (1 : Int))) then (0 : Int) else (IntKind.wrap .i64 (x16 - (1 : Int))))) <|
 K true))
noncomputable def h134 : Hint := (hS (hR 1) (hS (hS (hR 5) (hC (hS (hR 8) (hS (hR 1) hL)) hL)) (hS (hS (hR 6) (hC (hS (hR 1) hL) hL)) (hS (.region [0, 1, 2, 3, 4, 5, 6, 7, 8, 9, 10, 11, 12, 13, 14] (hO 15)) (hS (hR 11) (hS (hR 1) hL))))))
theorem F134_calls {a0 : Option Addr} {K : Bool → World → Prop} {w : World} (h : F134 a0 K w) : callT Tryz.prog 134 #[(.pointer a0)] (.one (.one .bool)) K w := tied tabOk Tryz.func134 h134 [(.pointer a0)] h
noncomputable def F138 (a0 : Option Addr) (K : ((Int × Int × Int × Unit) × Int × Unit) → World → Prop) : World → Prop :=
 newO (.cells #[(.int .i64 (0 : Int)), (.int .i64 (0 : Int)), (.int .i64 (0 : Int))] 43) fun b1 =>
 callT Tryz.prog 132 #[(.pointer a0)] (.one (.one .ptr)) fun (x2 : Option Addr) =>
 join (S := Int × Unit) (fun J3 =>
 callT Tryz.prog 154 #[(.pointer a0), (.pointer x2), (.func (.func 104) #[] #[])] (.one (.one .bool)) fun (x5 : Bool) =>
 sif x5 (
 callT Tryz.prog 105 #[(.pointer x2)] (.one (.one (.int .i64))) fun (x6 : Int) =>
 J3 (x6, ())) (
 callT Tryz.prog 131 #[(.pointer a0)] (.one (.one (.int .i64))) fun (x7 : Int) =>
 nn a0 fun p8 =>
 ld (.bool) (p8.add 7) fun (x9 : Bool) =>
 sif x9 (
 drew <|
 nn a0 fun p10 =>
 ld (.ptr) p10 fun (x11 : Option Addr) =>
 nn a0 fun p12 =>
 ld (.ptr) p12 fun (x13 : Option Addr) =>
 callT Tryz.prog 19 #[(.pointer x13)] (.one (.one (.int .i64))) fun (x14 : Int) =>
 keep (fun w => w.cell? p10 = some (Cell.val (.ptr) x11)) <|
 callT Tryz.prog 61 #[(.pointer x11), (.int .i64 (IntKind.wrap .i64 (x14 - (1 : Int))))] (.one (.agg c72)) fun (x15 : (Int × Int × Int × Int × Int × Sl × Sl × Unit)) =>
 J3 (x15.2.1, ())) (
 J3 (x7, ())))) fun (s4 : Int × Unit) =>
 nn a0 fun p16 =>
 ld (.int .i64) (p16.add 1) fun (x17 : Int) =>
 sif (decide (s4.1 ≤ x17)) (
 callT Tryz.prog 120 #[] (.tup [(.agg c43), (.one (.int .i64))]) fun (x18 : ((Int × Int × Int × Unit) × Int × Unit)) =>
 aggSt (at0 b1) (.agg (Cells.vals c43 x18.1).toArray) 3 <|
 lds c43 (at0 b1) fun (x19 : (Int × Int × Int × Unit)) =>
 K (x19, x18.2.1, ())) (
 callT Tryz.prog 121 #[(.pointer a0), (.int .i64 s4.1), (.int .i64 (0 : Int))] (.tup [(.agg c43), (.one (.int .i64))]) fun (x20 : ((Int × Int × Int × Unit) × Int × Unit)) =>
 aggSt (at0 b1) (.agg (Cells.vals c43 x20.1).toArray) 3 <|
 lds c43 (at0 b1) fun (x21 : (Int × Int × Int × Unit)) =>
 K (x21, x20.2.1, ()))
noncomputable def h138 : Hint := (hS (hR 2) (hS (hR 3) (hS (hR 1) (hJ (4294967072, [(5, tI)]) (hS (hR 3) (hC (hR 3) (hS (hR 3) (hS (hR 4) (hC (.region [0, 1, 2, 3, 4, 5, 6, 7, 8, 9, 10, 11, 12, 13] (hO 14)) hL))))) (hS (hS (hR 6) (hC (hS (hR 5) hL) hL)) (hS (hR 7) hL))))))
theorem F138_calls {a0 : Option Addr} {K : ((Int × Int × Int × Unit) × Int × Unit) → World → Prop} {w : World} (h : F138 a0 K w) : callT Tryz.prog 138 #[(.pointer a0)] (.tup [(.agg c43), (.one (.int .i64))]) K w := tied tabOk Tryz.func138 h138 [(.pointer a0)] h
noncomputable def F139 (a0 : Option Addr) (K : ((Int × Int × Int × Unit) × Int × Unit) → World → Prop) : World → Prop :=
 newO (.cells #[(.int .i64 (0 : Int)), (.int .i64 (0 : Int)), (.int .i64 (0 : Int))] 43) fun b1 =>
 callT Tryz.prog 132 #[(.pointer a0)] (.one (.one .ptr)) fun (x2 : Option Addr) =>
 nn a0 fun p3 =>
 ld (.int .i64) (p3.add 1) fun (x4 : Int) =>
 sif (x4 == (0 : Int)) (
 callT Tryz.prog 120 #[] (.tup [(.agg c43), (.one (.int .i64))]) fun (x5 : ((Int × Int × Int × Unit) × Int × Unit)) =>
 aggSt (at0 b1) (.agg (Cells.vals c43 x5.1).toArray) 3 <|
 lds c43 (at0 b1) fun (x6 : (Int × Int × Int × Unit)) =>
 K (x6, x5.2.1, ())) (
 callT Tryz.prog 155 #[(.pointer a0), (.pointer x2), (.func (.func 104) #[] #[])] (.one (.one .bool)) fun (x7 : Bool) =>
 sif (!x7) (
 callT Tryz.prog 121 #[(.pointer a0), (.int .i64 (0 : Int)), (.int .i64 (0 : Int))] (.tup [(.agg c43), (.one (.int .i64))]) fun (x8 : ((Int × Int × Int × Unit) × Int × Unit)) =>
 aggSt (at0 b1) (.agg (Cells.vals c43 x8.1).toArray) 3 <|
 lds c43 (at0 b1) fun (x9 : (Int × Int × Int × Unit)) =>
 K (x9, x8.2.1, ())) (
 callT Tryz.prog 105 #[(.pointer x2)] (.one (.one (.int .i64))) fun (x10 : Int) =>
 callT Tryz.prog 121 #[(.pointer a0), (.int .i64 x10), (.int .i64 (0 : Int))] (.tup [(.agg c43), (.one (.int .i64))]) fun (x11 : ((Int × Int × Int × Unit) × Int × Unit)) =>
 aggSt (at0 b1) (.agg (Cells.vals c43 x11.1).toArray) 3 <|
 lds c43 (at0 b1) fun (x12 : (Int × Int × Int × Unit)) =>
 K (x12, x11.2.1, ())))
noncomputable def h139 : Hint := (hS (hR 2) (hS (hR 3) (hS (hS (hR 5) (hC (hS (hR 5) hL) hL)) (hS (hS (hR 4) (hC (hS (hR 6) hL) hL)) (hS (hR 8) hL)))))
theorem F139_calls {a0 : Option Addr} {K : ((Int × Int × Int × Unit) × Int × Unit) → World → Prop} {w : World} (h : F139 a0 K w) : callT Tryz.prog 139 #[(.pointer a0)] (.tup [(.agg c43), (.one (.int .i64))]) K w := tied tabOk Tryz.func139 h139 [(.pointer a0)] h
noncomputable def F140 (a0 : Option Addr) (K : ((Int × Int × Int × Unit) × Int × Unit) → World → Prop) : World → Prop :=
 newO (.cells #[(.int .i64 (0 : Int)), (.int .i64 (0 : Int)), (.int .i64 (0 : Int))] 43) fun b1 =>
 callT Tryz.prog 132 #[(.pointer a0)] (.one (.one .ptr)) fun (x2 : Option Addr) =>
 join (S := Int × Unit) (fun J3 =>
 callT Tryz.prog 154 #[(.pointer a0), (.pointer x2), (.func (.func 156) #[] #[])] (.one (.one .bool)) fun (x5 : Bool) =>
 sif x5 (
 callT Tryz.prog 105 #[(.pointer x2)] (.one (.one (.int .i64))) fun (x6 : Int) =>
 J3 (x6, ())) (
 callT Tryz.prog 131 #[(.pointer a0)] (.one (.one (.int .i64))) fun (x7 : Int) =>
 J3 (x7, ()))) fun (s4 : Int × Unit) =>
 nn a0 fun p8 =>
 ld (.int .i64) (p8.add 1) fun (x9 : Int) =>
 sif (decide (s4.1 ≤ x9)) (
 callT Tryz.prog 120 #[] (.tup [(.agg c43), (.one (.int .i64))]) fun (x10 : ((Int × Int × Int × Unit) × Int × Unit)) =>
 aggSt (at0 b1) (.agg (Cells.vals c43 x10.1).toArray) 3 <|
 lds c43 (at0 b1) fun (x11 : (Int × Int × Int × Unit)) =>
 K (x11, x10.2.1, ())) (
 callT Tryz.prog 121 #[(.pointer a0), (.int .i64 s4.1), (.int .i64 (1 : Int))] (.tup [(.agg c43), (.one (.int .i64))]) fun (x12 : ((Int × Int × Int × Unit) × Int × Unit)) =>
 aggSt (at0 b1) (.agg (Cells.vals c43 x12.1).toArray) 3 <|
 lds c43 (at0 b1) fun (x13 : (Int × Int × Int × Unit)) =>
 K (x13, x12.2.1, ()))
noncomputable def h140 : Hint := (hS (hR 2) (hS (hR 3) (hS (hR 1) (hJ (32544, [(5, tI)]) (hS (hR 3) (hC (hR 3) (hR 3))) (hS (hS (hR 6) (hC (hS (hR 5) hL) hL)) (hS (hR 7) hL))))))
theorem F140_calls {a0 : Option Addr} {K : ((Int × Int × Int × Unit) × Int × Unit) → World → Prop} {w : World} (h : F140 a0 K w) : callT Tryz.prog 140 #[(.pointer a0)] (.tup [(.agg c43), (.one (.int .i64))]) K w := tied tabOk Tryz.func140 h140 [(.pointer a0)] h
noncomputable def F141 (a0 : Option Addr) (K : ((Int × Int × Int × Unit) × Int × Unit) → World → Prop) : World → Prop :=
 newO (.cells #[(.int .i64 (0 : Int)), (.int .i64 (0 : Int)), (.int .i64 (0 : Int))] 43) fun b1 =>
 callT Tryz.prog 132 #[(.pointer a0)] (.one (.one .ptr)) fun (x2 : Option Addr) =>
 nn a0 fun p3 =>
 ld (.int .i64) (p3.add 1) fun (x4 : Int) =>
 sif (x4 == (0 : Int)) (
 callT Tryz.prog 120 #[] (.tup [(.agg c43), (.one (.int .i64))]) fun (x5 : ((Int × Int × Int × Unit) × Int × Unit)) =>
 aggSt (at0 b1) (.agg (Cells.vals c43 x5.1).toArray) 3 <|
 lds c43 (at0 b1) fun (x6 : (Int × Int × Int × Unit)) =>
 K (x6, x5.2.1, ())) (
 callT Tryz.prog 155 #[(.pointer a0), (.pointer x2), (.func (.func 157) #[] #[])] (.one (.one .bool)) fun (x7 : Bool) =>
 sif (!x7) (
 callT Tryz.prog 121 #[(.pointer a0), (.int .i64 (0 : Int)), (.int .i64 (1 : Int))] (.tup [(.agg c43), (.one (.int .i64))]) fun (x8 : ((Int × Int × Int × Unit) × Int × Unit)) =>
 aggSt (at0 b1) (.agg (Cells.vals c43 x8.1).toArray) 3 <|
 lds c43 (at0 b1) fun (x9 : (Int × Int × Int × Unit)) =>
 K (x9, x8.2.1, ())) (
 callT Tryz.prog 105 #[(.pointer x2)] (.one (.one (.int .i64))) fun (x10 : Int) =>
 callT Tryz.prog 121 #[(.pointer a0), (.int .i64 x10), (.int .i64 (1 : Int))] (.tup [(.agg c43), (.one (.int .i64))]) fun (x11 : ((Int × Int × Int × Unit) × Int × Unit)) =>
 aggSt (at0 b1) (.agg (Cells.vals c43 x11.1).toArray) 3 <|
 lds c43 (at0 b1) fun (x12 : (Int × Int × Int × Unit)) =>
 K (x12, x11.2.1, ())))
noncomputable def h141 : Hint := (hS (hR 2) (hS (hR 3) (hS (hS (hR 5) (hC (hS (hR 5) hL) hL)) (hS (hS (hR 4) (hC (hS (hR 6) hL) hL)) (hS (hR 8) hL)))))
theorem F141_calls {a0 : Option Addr} {K : ((Int × Int × Int × Unit) × Int × Unit) → World → Prop} {w : World} (h : F141 a0 K w) : callT Tryz.prog 141 #[(.pointer a0)] (.tup [(.agg c43), (.one (.int .i64))]) K w := tied tabOk Tryz.func141 h141 [(.pointer a0)] h
noncomputable def F142 (a0 : Option Addr) (K : ((Int × Int × Int × Unit) × Int × Unit) → World → Prop) : World → Prop :=
 newO (.cells #[(.int .i64 (0 : Int)), (.int .i64 (0 : Int)), (.int .i64 (0 : Int))] 43) fun b1 =>
 callT Tryz.prog 132 #[(.pointer a0)] (.one (.one .ptr)) fun (x2 : Option Addr) =>
 join (S := Unit) (fun J3 =>
 callT Tryz.prog 156 #[(.pointer x2)] (.one (.one .bool)) fun (x5 : Bool) =>
 sif x5 (
 nn a0 fun p6 =>
 ld (.int .i64) (p6.add 3) fun (x7 : Int) =>
 nn a0 fun p8 =>
 stC (p8.add 3) (.int .i64 (IntKind.wrap .i64 (x7 - (1 : Int)))) <|
 J3 ()) (
 J3 ())) fun (s4 : Unit) =>
 callT Tryz.prog 154 #[(.pointer a0), (.pointer x2), (.func (.func 156) #[] #[])] (.one (.one .bool)) fun (x9 : Bool) =>
 sif x9 (
 callT Tryz.prog 105 #[(.pointer x2)] (.one (.one (.int .i64))) fun (x10 : Int) =>
 callT Tryz.prog 121 #[(.pointer a0), (.int .i64 x10), (.int .i64 (1 : Int))] (.tup [(.agg c43), (.one (.int .i64))]) fun (x11 : ((Int × Int × Int × Unit) × Int × Unit)) =>
 aggSt (at0 b1) (.agg (Cells.vals c43 x11.1).toArray) 3 <|
 lds c43 (at0 b1) fun (x12 : (Int × Int × Int × Unit)) =>
 K (x12, x11.2.1, ())) (
 drew <|
 nn a0 fun p13 =>
 ld (.int .i64) (p13.add 1) fun (x14 : Int) =>
 callT Tryz.prog 131 #[(.pointer a0)] (.one (.one (.int .i64))) fun (x15 : Int) =>
 keep (fun w => w.cell? (p13.add 1) = some (Cell.val (.int .i64) x14)) <|
 callT Tryz.prog 121 #[(.pointer a0), (.int .i64 (if x14 > x15 then x14 else x15)), (.int .i64 (1 : Int))] (.tup [(.agg c43), (.one (.int .i64))]) fun (x16 : ((Int × Int × Int × Unit) × Int × Unit)) =>
 aggSt (at0 b1) (.agg (Cells.vals c43 x16.1).toArray) 3 <|
 lds c43 (at0 b1) fun (x17 : (Int × Int × Int × Unit)) =>
 K (x17, x16.2.1, ()))
noncomputable def h142 : Hint := (hS (hR 2) (hS (hR 3) (hJ (65408, []) (hS (hR 2) (hC (hR 8) hL)) (hS (hS (hR 3) (hC (hS (hR 8) hL) hL)) (hS (.region [0, 1, 3, 4, 5, 6, 2, 7, 8, 9, 10, 11, 12] (hO 13)) hL)))))
theorem F142_calls {a0 : Option Addr} {K : ((Int × Int × Int × Unit) × Int × Unit) → World → Prop} {w : World} (h : F142 a0 K w) : callT Tryz.prog 142 #[(.pointer a0)] (.tup [(.agg c43), (.one (.int .i64))]) K w := tied tabOk Tryz.func142 h142 [(.pointer a0)] h
noncomputable def F143 (a0 : Option Addr) (K : Bool → World → Prop) : World → Prop :=
 nn a0 fun p1 =>
 lds c72 (p1.add 1) fun (x2 : (Int × Int × Int × Int × Int × Sl × Sl × Unit)) =>
 callT Tryz.prog 39 #[(.agg (Cells.vals c72 x2).toArray)] (.one (.one (.int .i64))) fun (x3 : Int) =>
 K (x3 == (0 : Int))
noncomputable def h143 : Hint := (hS (hR 1) (hS (hR 7) hL))
theorem F143_calls {a0 : Option Addr} {K : Bool → World → Prop} {w : World} (h : F143 a0 K w) : callT Tryz.prog 143 #[(.pointer a0)] (.one (.one .bool)) K w := tied tabOk Tryz.func143 h143 [(.pointer a0)] h
noncomputable def F144 (a0 : (Int × Int × Int × Int × Int × Sl × Sl × Unit)) (a1 : Int) (a2 : Bool) (K : Int → World → Prop) : World → Prop :=
 newO (.cells #[(.int .i64 a0.1), (.int .i64 a0.2.1), (.int .i64 a0.2.2.1), (.int .i64 a0.2.2.2.1), (.int .i64 a0.2.2.2.2.1), (.slice a0.2.2.2.2.2.1.a a0.2.2.2.2.2.1.len a0.2.2.2.2.2.1.cap), (.slice a0.2.2.2.2.2.2.1.a a0.2.2.2.2.2.2.1.len a0.2.2.2.2.2.2.1.cap)] 72) fun b1 =>
 lds c72 (at0 b1) fun (x2 : (Int × Int × Int × Int × Int × Sl × Sl × Unit)) =>
 callT Tryz.prog 153 #[(.agg (Cells.vals c72 x2).toArray), (.int .i64 a1)] (.one (.one (.int .i64))) fun (x3 : Int) =>
 callT Tryz.prog 158 #[(.int .i64 x3)] (.one (.one (.int .i64))) fun (x4 : Int) =>
 sif a2 (
 K (if (1 : Int) < x4 then (1 : Int) else x4)) (
 K x4)
noncomputable def h144 : Hint := (hS (hR 2) (hS (hR 5) (hS (hS (hR 1) (hC (hS (hR 3) hL) hL)) (hS (hR 2) hL))))
theorem F144_calls {a0 : (Int × Int × Int × Int × Int × Sl × Sl × Unit)} {a1 : Int} {a2 : Bool} {K : Int → World → Prop} {w : World} (h : F144 a0 a1 a2 K w) : callT Tryz.prog 144 #[(.agg (Cells.vals c72 a0).toArray), (.int .i64 a1), (.bool a2)] (.one (.one (.int .i64))) K w := tied tabOk Tryz.func144 h144 [(.agg (Cells.vals c72 a0).toArray), (.int .i64 a1), (.bool a2)] h
noncomputable def F151 (a0 : Option Addr) (a1 : Int) (K : Int → World → Prop) : World → Prop :=
 nn a0 fun p1 =>
 ld (.int .i64) (p1.add 3) fun (x2 : Int) =>
 join (S := Unit) (fun J3 =>
 nn a0 fun p5 =>
 ld (.int .i64) (p5.add 2) fun (x6 : Int) =>
 sloop (S := Int × Int × Unit) (fun (s7 : Int × Int × Unit) again8 =>
 join (S := Bool × Unit) (fun J9 =>
 sif (decide (s7.2.1 ≥ (0 : Int))) (
 nn a0 fun p11 =>
 lds c72 (p11.add 9) fun (x12 : (Int × Int × Int × Int × Int × Sl × Sl × Unit)) =>
 callT Tryz.prog 39 #[(.agg (Cells.vals c72 x12).toArray)] (.one (.one (.int .i64))) fun (x13 : Int) =>
 J9 ((decide (s7.2.1 < x13)), ())) (
 J9 (false, ()))) fun (s10 : Bool × Unit) =>
 sif s10.1 (
 join (S := Int × Unit) (fun J14 =>
 drew <|
 nn a0 fun p16 =>
 lds c72 (p16.add 9) fun (x17 : (Int × Int × Int × Int × Int × Sl × Sl × Unit)) =>
 nn a0 fun p18 =>
 ld (.int .i64) (p18.add 5) fun (x19 : Int) =>
 callT Tryz.prog 153 #[(.agg (Cells.vals c72 x17).toArray), (.int .i64 s7.2.1)] (.one (.one (.int .i64))) fun (x20 : Int) =>
 keep (fun w => w.cell? (p18.add 5) = some (Cell.val (.int .i64) x19)) <|
 sif (x20 != x19) (
 J14 (s7.1, ())) (
 sif ((IntKind.wrap .i64 (s7.1 - (1 : Int))) == (0 : Int)) (
 K s7.2.1) (
 J14 ((IntKind.wrap .i64 (s7.1 - (1 : Int))), ())))) fun (s15 : Int × Unit) =>
 again8 (s15.1, (IntKind.wrap .i64 (s7.2.1 + a1)), ())) (
 J3 ())) (x2, (IntKind.wrap .i64 (x6 + a1)), ())) fun (s4 : Unit) =>
 K (-1 : Int)
noncomputable def h151 : Hint := (hS (hR 1) (hS (hR 5) (hJ (140737488353392, []) (hS (hR 7) (.block (.loop 140737488224368 [(5, tI), (6, tI)] (hS (hJ (268304384, [(27, tB)]) (.region [] (.ops 3 (.split 19 (hO 8) (.skips 7 (hO 1))))) (hC hL hL)) (hJ (140735340871728, [(5, tI)]) (.block (hS (hS (.region [0, 1, 2, 3, 4, 6, 7, 8, 9, 5, 10] (hO 11)) (hC hL hL)) (hS (hR 3) (hS (hR 2) (hC (hS (hR 2) hL) hL))))) (hR 4)))))) (hS (hR 1) hL))))
theorem F151_calls {a0 : Option Addr} {a1 : Int} {K : Int → World → Prop} {w : World} (h : F151 a0 a1 K w) : callT Tryz.prog 151 #[(.pointer a0), (.int .i64 a1)] (.one (.one (.int .i64))) K w := tied tabOk Tryz.func151 h151 [(.pointer a0), (.int .i64 a1)] h
noncomputable def F153 (a0 : (Int × Int × Int × Int × Int × Sl × Sl × Unit)) (a1 : Int) (K : Int → World → Prop) : World → Prop :=
 newO (.cells #[(.int .i64 a0.1), (.int .i64 a0.2.1), (.int .i64 a0.2.2.1), (.int .i64 a0.2.2.2.1), (.int .i64 a0.2.2.2.2.1), (.slice a0.2.2.2.2.2.1.a a0.2.2.2.2.2.1.len a0.2.2.2.2.2.1.cap), (.slice a0.2.2.2.2.2.2.1.a a0.2.2.2.2.2.2.1.len a0.2.2.2.2.2.2.1.cap)] 72) fun b1 =>
 drew <|
 ld (.sl) (⟨b1, 5, none⟩ : Addr) fun (x2 : Sl) =>
 ld (.sl) (⟨b1, 6, none⟩ : Addr) fun (x3 : Sl) =>
 ix x3.a x3.len a1 fun p4 =>
 ld (.int .i64) (p4.add (scaled (Int.toNat a1) 1)) fun (x5 : Int) =>
 ix x2.a x2.len x5 fun p6 =>
 ld (.int .i64) (p6.add (scaled (Int.toNat x5) 1)) fun (x7 : Int) =>
 K x7
noncomputable def h153 : Hint := (hS (hR 2) (hS (.region [0, 1, 2, 3, 4, 5, 6, 7, 8, 9] (hO 10)) hL))
theorem F153_calls {a0 : (Int × Int × Int × Int × Int × Sl × Sl × Unit)} {a1 : Int} {K : Int → World → Prop} {w : World} (h : F153 a0 a1 K w) : callT Tryz.prog 153 #[(.agg (Cells.vals c72 a0).toArray), (.int .i64 a1)] (.one (.one (.int .i64))) K w := tied tabOk Tryz.func153 h153 [(.agg (Cells.vals c72 a0).toArray), (.int .i64 a1)] h
noncomputable def F154 (a0 : Option Addr) (a1 : Option Addr) (a2 : Value) (K : Bool → World → Prop) : World → Prop :=
 join (S := Unit) (fun J1 =>
 nn a0 fun p3 =>
 ld (.int .i64) (p3.add 3) fun (x4 : Int) =>
 sloop (S := Int × Unit) (fun (s5 : Int × Unit) again6 =>
 sif (decide (s5.1 > (0 : Int))) (
 callT Tryz.prog 103 #[(.pointer a1)] (.one (.one .bool)) fun (x7 : Bool) =>
 sif (!x7) (
 K false) (
 callX Tryz.prog (do let d ← Deferred.ofValue a2 #[(.pointer a1)]; invoke d.target d.args : Sem Next) (.one (.one .bool)) fun (x8 : Bool) =>
 sif x8 (
 again6 ((IntKind.wrap .i64 (s5.1 - (1 : Int))), ())) (
 again6 (s5.1, ())))) (
 J1 ())) (x4, ())) fun (s2 : Unit) =>
 K true
noncomputable def h154 : Hint := (hS (hR 1) (hJ (4194240, []) (hS (hR 5) (.block (.loop 4190400 [(7, tI)] (hS (hS (hR 2) (hC hL hL)) (.block (hS (hS (hR 3) (hC (hS (hR 1) hL) hL)) (hS (hR 3) (hC (hR 3) hL)))))))) (hS (hR 1) hL)))
theorem F154_calls {a0 : Option Addr} {a1 : Option Addr} {a2 : Value} {K : Bool → World → Prop} {w : World} (h : F154 a0 a1 a2 K w) : callT Tryz.prog 154 #[(.pointer a0), (.pointer a1), a2] (.one (.one .bool)) K w := tied tabOk Tryz.func154 h154 [(.pointer a0), (.pointer a1), a2] h
noncomputable def F155 (a0 : Option Addr) (a1 : Option Addr) (a2 : Value) (K : Bool → World → Prop) : World → Prop :=
 join (S := Unit) (fun J1 =>
 nn a0 fun p3 =>
 ld (.int .i64) (p3.add 3) fun (x4 : Int) =>
 sloop (S := Int × Unit) (fun (s5 : Int × Unit) again6 =>
 sif (decide (s5.1 > (0 : Int))) (
 callT Tryz.prog 134 #[(.pointer a1)] (.one (.one .bool)) fun (x7 : Bool) =>
 sif (!x7) (
 K false) (
 callX Tryz.prog (do let d ← Deferred.ofValue a2 #[(.pointer a1)]; invoke d.target d.args : Sem Next) (.one (.one .bool)) fun (x8 : Bool) =>
 sif x8 (
 again6 ((IntKind.wrap .i64 (s5.1 - (1 : Int))), ())) (
 again6 (s5.1, ())))) (
 J1 ())) (x4, ())) fun (s2 : Unit) =>
 K true
noncomputable def h155 : Hint := (hS (hR 1) (hJ (4194240, []) (hS (hR 5) (.block (.loop 4190400 [(7, tI)] (hS (hS (hR 2) (hC hL hL)) (.block (hS (hS (hR 3) (hC (hS (hR 1) hL) hL)) (hS (hR 3) (hC (hR 3) hL)))))))) (hS (hR 1) hL)))
theorem F155_calls {a0 : Option Addr} {a1 : Option Addr} {a2 : Value} {K : Bool → World → Prop} {w : World} (h : F155 a0 a1 a2 K w) : callT Tryz.prog 155 #[(.pointer a0), (.pointer a1), a2] (.one (.one .bool)) K w := tied tabOk Tryz.func155 h155 [(.pointer a0), (.pointer a1), a2] h
noncomputable def F156 (a0 : Option Addr) (K : Bool → World → Prop) : World → Prop :=
 callT Tryz.prog 143 #[(.pointer a0)] (.one (.one .bool)) fun (x1 : Bool) =>
 sif (!x1) (
 callT Tryz.prog 157 #[(.pointer a0)] (.one (.one .bool)) fun (x2 : Bool) =>
 K x2) (
 K false)
noncomputable def h156 : Hint := (hS (hR 1) (hS (.region [] (.ops 4 (.split 6 (hO 4) (.skips 2 (hO 2))))) hL))
theorem F156_calls {a0 : Option Addr} {K : Bool → World → Prop} {w : World} (h : F156 a0 K w) : callT Tryz.prog 156 #[(.pointer a0)] (.one (.one .bool)) K w := tied tabOk Tryz.func156 h156 [(.pointer a0)] h
noncomputable def F157 (a0 : Option Addr) (K : Bool → World → Prop) : World → Prop :=
 callT Tryz.prog 143 #[(.pointer a0)] (.one (.one .bool)) fun (x1 : Bool) =>
 sif x1 (
 drew <|
 nn a0 fun p2 =>
 ld (.int .i64) ((p2.add 1).add 4) fun (x3 : Int) =>
 nn a0 fun p4 =>
 ld (.int .i64) (p4.add 9) fun (x5 : Int) =>
 K (decide (x3 ≤ x5))) (
 drew <|
 nn a0 fun p6 =>
 ld (.int .i64) (p6.add 8) fun (x7 : Int) =>
 nn a0 fun p8 =>
 lds c72 (p8.add 1) fun (x9 : (Int × Int × Int × Int × Int × Sl × Sl × Unit)) =>
 callT Tryz.prog 39 #[(.agg (Cells.vals c72 x9).toArray)] (.one (.one (.int .i64))) fun (x10 : Int) =>
 keep (fun w => w.cell? (p6.add 8) = some (Cell.val (.int .i64) x7)) <|
 sif (decide (x7 ≥ x10)) (
 K false) (
 drew <|
 nn a0 fun p11 =>
 lds c72 (p11.add 1) fun (x12 : (Int × Int × Int × Int × Int × Sl × Sl × Unit)) =>
 nn a0 fun p13 =>
 ld (.int .i64) (p13.add 8) fun (x14 : Int) =>
 nn a0 fun p15 =>
 ld (.bool) (p15.add 10) fun (x16 : Bool) =>
 callT Tryz.prog 144 #[(.agg (Cells.vals c72 x12).toArray), (.int .i64 x14), (.bool x16)] (.one (.one (.int .i64))) fun (x17 : Int) =>
 drew <|
 sif (x17 != (0 : Int)) (
 nn a0 fun p18 =>
 ld (.int .i64) (p18.add 8) fun (x19 : Int) =>
 nn a0 fun p20 =>
 lds c72 (p20.add 1) fun (x21 : (Int × Int × Int × Int × Int × Sl × Sl × Unit)) =>
 callT Tryz.prog 39 #[(.agg (Cells.vals c72 x21).toArray)] (.one (.one (.int .i64))) fun (x22 : Int) =>
 keep (fun w => w.cell? (p18.add 8) = some (Cell.val (.int .i64) x19)) <|
 sif ((IntKind.wrap .i64 (x19 + (1 : Int))) == x22) (
 K true) (
 nn a0 fun p23 =>
 lds c72 (p23.add 1) fun (x24 : (Int × Int × Int × Int × Int × Sl × Sl × Unit)) =>
 nn a0 fun p25 =>
 ld (.int .i64) (p25.add 8) fun (x26 : Int) =>
 nn a0 fun p27 =>
 ld (.bool) (p27.add 10) fun (x28 : Bool) =>
 callT Tryz.prog 144 #[(.agg (Cells.vals c72 x24).toArray), (.int .i64 (IntKind.wrap .i64 (x26 + (1 : Int)))), (.bool x28)] (.one (.one (.int .i64))) fun (x29 : Int) =>
 K (x29 != x17))) (
 K false)))
noncomputable def h157 : Hint := (hS (hR 1) (hS (hS (hR 2) (hC (hS (.region [0, 1, 2, 3, 4, 5, 6, 7, 8, 9, 10] (hO 11)) hL) hL)) (hS (hS (.region [0, 1, 2, 3, 4, 5, 6, 7, 8, 9] (hO 10)) (hC (hS (hR 1) hL) hL)) (hS (.region [0, 1, 2, 3, 4, 5, 6, 7, 8, 9, 10, 11, 12, 13] (hO 14)) (hS (.region [0, 1, 2, 3, 4, 5, 6, 7, 8, 9, 10, 11, 12, 13, 14, 15, 16, 17, 18, 19, 20, 21, 22, 23, 24, 25, 26, 27, 29, 28, 30, 31, 32, 33] (.ops 3 (.split 41 (.ops 12 (.split 53 (.skips 16 (hO 3)) (hO 19))) (.skips 29 (hO 2))))) hL)))))
theorem F157_calls {a0 : Option Addr} {K : Bool → World → Prop} {w : World} (h : F157 a0 K w) : callT Tryz.prog 157 #[(.pointer a0)] (.one (.one .bool)) K w := tied tabOk Tryz.func157 h157 [(.pointer a0)] h
end Go.Proofs.YtolhlldgnfbemaaGreat
namespace Go.Proofs.YtolhlldgnfbemaaGreat
open Go Go.Vx Cdc Trx Lns
section
variable {w w' : World} {S : Nat → Prop} {p : Nat} {e : Enc} {lim na : Nat} {O : Nat → Prop} {M : Parts}
abbrev lnT (l : Ln) : Cells.T c36 := ((l.from_ : Int), (l.to_ : Int), (l.next : Int), (l.kind : Int), ())
theorem hal (e : Enc) (M : Parts) : (atoms (aOf e M)).length = (aOf e M).length := List.length_map _
theorem skI_nat (A : List Int) (k : Nat) : skI A (k : Int) = match sk A k with | some m => (m : Int) | none => -1 := by
 unfold skI
 rw [if_neg (by omega), Int.toNat_natCast]
 all_goals (cases sk A k <;> rfl)
theorem closed_call (h : Txt w p e lim na O M) {f x : Nat} (hfx : f < x) (hx : x ≤ (atoms (aOf e M)).length) {K : Cells.T c36 → World → Prop} (hK : ∀ w', Ext w w' → K (lnT (lnC (atoms (aOf e M)) f x)) w') :
  callT Tryz.prog 67 #[.pointer (some (at0 p)), .int .i64 (f : Int), .int .i64 (x : Int)] (.one (.agg c36)) K w := by
 refine F67_calls ?_
 unfold F67
 have few := h.few; have lims := h.lims
 generalize hA : atoms (aOf e M) = A at *
 have hAl : A.length = (aOf e M).length := by rw [← hA]; exact hal e M
 refine (St.start w).newO fun b1 w1 S1 e1 => ?_
 have ew : IntKind.wrap .i64 ((x : Int) - 2) = (x : Int) - 2 := wrap64 (by omega) (by omega)
 rw [ew]
 obtain ⟨g, hg⟩ : ∃ g : Nat, g = max f (x - 2) := ⟨_, rfl⟩
 have eg : (if (x : Int) - 2 > (f : Int) then (x : Int) - 2 else (f : Int)) = (g : Int) := by split <;> omega
 rw [eg]
 refine atoms_call (h.ext e1) fun s w2 o2 e2 => ?_
 rw [hA] at o2
 have hsub : sub A (g : Int) (x : Int) = (A.drop g).take (x - g) := by unfold sub; simp
 rw [hsub] at o2
 have hl := o2.len1
 rw [List.length_map, List.length_take, List.length_drop] at hl
 have hsl : s.len = x - g := by omega
 have get : ∀ i, i < x - g → ((A.drop g).take (x - g))[i]? = A[g + i]? := fun i hi => by rw [List.getElem?_take, if_pos hi, List.getElem?_drop]
 have ew1 : IntKind.wrap .i64 (((s.len : Nat) : Int) - 1) = ((x - g - 1 : Nat) : Int) := by rw [wrap64 (by omega) (by omega)]; omega
 rw [ew1]
 have S2 := S1.ext e2
 obtain ⟨a, ha⟩ : ∃ a, A[x - 1]? = some a := ⟨_, List.getElem?_eq_getElem (by omega)⟩
 have ex1 : IntKind.wrap .i64 ((x : Int) - 1) = ((x - 1 : Nat) : Int) := by rw [wrap64 (by omega) (by omega)]; omega
 have fin : ∀ {l : Ln} {W : World}, St (fun _ => False) w W [(b1, .cells #[.int .i64 0, .int .i64 0, .int .i64 0, .int .i64 0] 36 (0, 0))] → lnC A f x = l →
   aggSt (at0 b1) (.agg (Cells.vals c36 (lnT l)).toArray) 4 (lds c36 (at0 b1) fun x => K x) W := by
  intro l W SW el
  exact SW.aggSt 0 rfl rfl rfl rfl fun w3 S3 _ => S3.lds 0 (lnT l) rfl (by subst el; exact hK w3 S3.upd)
 refine ix_ld (c := .int .i64) (xs := (A.drop g).take (x - g)) o2.in (by omega) (x := a) (by rw [Int.toNat_natCast, get _ (by omega), ← ha]; congr 1; omega) fun q => sif_r (fun hc => ?_) (fun hc => ?_)
 ·simp only [beq_iff_eq] at hc
  rw [ex1]
  exact fin (l := ⟨f, x - 1, x, 3⟩) S2 (by unfold lnC; rw [if_pos (by rw [ha, hc])])
 ·simp only [beq_eq_false_iff_ne] at hc
  have h13 : ¬ A[x - 1]? = some 13 := by rw [ha]; exact fun h => hc (Option.some.inj h)
  refine join_r (fun y W => y = (decide (f + 1 < x ∧ A[x - 2]? = some 13), ()) ∧ w2 = W) ?_ ?_
  ·refine sif_r (fun hd => ?_) (fun hd => ?_)
   ·simp only [decide_eq_true_eq, gt_iff_lt] at hd
    have ew2 : IntKind.wrap .i64 (((x - g - 1 : Nat) : Int) - 1) = ((x - g - 2 : Nat) : Int) := by rw [wrap64 (by omega) (by omega)]; omega
    rw [ew2]
    obtain ⟨b, hb⟩ : ∃ b, A[x - 2]? = some b := ⟨_, List.getElem?_eq_getElem (by omega)⟩
    refine ix_ld (c := .int .i64) (xs := (A.drop g).take (x - g)) o2.in (by omega) (x := b) (by rw [Int.toNat_natCast, get _ (by omega), ← hb]; congr 1; omega) fun q2 => ⟨tupb ?_, rfl⟩
    simp only [beq_iff_eq, decide_eq_true_eq, hb, Option.some.injEq]
    omega
   ·simp only [decide_eq_false_iff_not, gt_iff_lt] at hd
    refine ⟨tupb ?_, rfl⟩
    simp only [Bool.false_eq_true, decide_eq_true_eq, false_iff]
    omega
  rintro _ _ ⟨rfl, rfl⟩
  refine sif_r (fun hd => ?_) (fun hd => ?_)
  ·simp only [decide_eq_true_eq] at hd
   have ew3 : (x : Int) - 2 = ((x - 2 : Nat) : Int) := by omega
   rw [ew3]
   exact fin (l := ⟨f, x - 2, x, 2⟩) S2 (by unfold lnC; rw [if_neg h13, if_pos hd])
  ·simp only [decide_eq_false_iff_not] at hd
   rw [ex1]
   exact fin (l := ⟨f, x - 1, x, 1⟩) S2 (by unfold lnC; rw [if_neg h13, if_neg hd])
def atRes (r : Option Ln) : Cells.T c36 × Int × Unit := match r with
 | some l => (lnT l, 0, ())
 | none => (lnT ⟨0, 0, 0, 0⟩, 2, ())
theorem lat_call {i : Int} (h : Txt w p e lim na O M) (hi : i < 2 ^ 62) {K : Cells.T c36 × Int × Unit → World → Prop} (hK : ∀ w', Ext w w' → K (atRes (lnI (atoms (aOf e M)) i)) w') :
  callT Tryz.prog 41 #[.pointer (some (at0 p)), .int .i64 i] (.tup [(.agg c36), (.one (.int .i64))]) K w := by
 refine F41_calls ?_
 unfold F41
 have few := h.few; have lims := h.lims
 have hal := hal e M
 refine (St.start w).newO fun b1 w1 S1 e1 => ?_
 refine sif_r (fun hc => ?_) (fun hc => ?_)
 ·simp only [decide_eq_true_eq] at hc
  refine S1.aggSt 0 rfl rfl rfl rfl fun w2 S2 _ => S2.lds 0 (lnT ⟨0, 0, 0, 0⟩) rfl ?_
  have := hK w2 S2.upd
  unfold lnI at this
  rw [if_pos hc] at this
  exact this
 simp only [decide_eq_false_iff_not] at hc
 obtain ⟨n, rfl⟩ : ∃ n : Nat, i = (n : Int) := ⟨i.toNat, by omega⟩
 unfold lnI at hK
 rw [if_neg hc, Int.toNat_natCast] at hK
 refine seek_call (h.ext e1) fun w2 e2 => ?_
 have S2 := S1.ext e2
 rw [skI_nat]
 cases hf : sk (atoms (aOf e M)) n with
 | none =>
  refine sif_r (fun _ => ?_) (fun h => by simp at h)
  refine S2.aggSt 0 rfl rfl rfl rfl fun w3 S3 _ => S3.lds 0 (lnT ⟨0, 0, 0, 0⟩) rfl ?_
  have := hK w3 S3.upd
  unfold lnAt at this
  rw [hf] at this
  exact this
 | some f =>
  refine sif_r (fun h => by simp at h; omega) (fun _ => ?_)
  obtain ⟨hnb, hfl, hnf, _⟩ := sk_get hf
  refine len_call (h.ext S2.upd) fun w3 e3 => breaks_call (h.ext (S2.ext e3).upd) fun w4 e4 => ?_
  have S4 := (S2.ext e3).ext e4
  rw [Int.toNat_natCast, ← hal, ← brs_nb]
  refine sif_r (fun hlt => ?_) (fun hlt => ?_)
  ·simp only [decide_eq_true_eq] at hlt
   have ew : IntKind.wrap .i64 ((n : Int) + 1) = ((n + 1 : Nat) : Int) := by rw [wrap64 (by omega) (by omega)]; omega
   rw [ew]
   refine seek_call (h.ext S4.upd) fun w5 e5 => ?_
   have S5 := S4.ext e5
   rw [skI_nat]
   obtain ⟨x, hx⟩ := sk_ok (A := atoms (aOf e M)) (k := n + 1) (by omega)
   obtain ⟨_, hxl, _, _⟩ := sk_get hx
   rw [hx]
   refine closed_call (h.ext S5.upd) (sk_lt hf hx (by omega)) hxl fun w6 e6 => (S5.ext e6).aggSt 0 rfl rfl rfl rfl fun w7 S7 _ => S7.lds 0 (lnT _) rfl ?_
   have := hK w7 S7.upd
   unfold lnAt at this
   rw [hf] at this
   simp only [hx] at this
   exact this
  ·simp only [decide_eq_false_iff_not] at hlt
   refine len_call (h.ext S4.upd) fun w5 e5 => len_call (h.ext (S4.ext e5).upd) fun w6 e6 => ((S4.ext e5).ext e6).aggSt 0 rfl rfl rfl rfl fun w7 S7 _ => S7.lds 0 (lnT ⟨f, (aOf e M).length, (aOf e M).length, 0⟩) rfl ?_
   have := hK w7 S7.upd
   unfold lnAt at this
   rw [hf] at this
   simp only [sk_none (atoms (aOf e M)) (n + 1) (by omega)] at this
   rw [hal] at this
   exact this
theorem lof_call {at_ : Int} (h : Txt w p e lim na O M) {K : Int → World → Prop} (hK : ∀ w', Ext w w' → K ((nb (atoms (aOf e M)) at_.toNat : Nat) : Int) w') :
  callT Tryz.prog 20 #[.pointer (some (at0 p)), .int .i64 at_] (.one (.one (.int .i64))) K w := by
 refine F20_calls ?_
 unfold F20
 have hal := hal e M
 refine len_call h fun w1 e1 => breaks_call (h.ext e1) fun w2 e2 => ?_
 have := hK w2 (e1.trans e2)
 have e : nb (atoms (aOf e M)) (if (((aOf e M).length : Nat) : Int) < (if (0 : Int) > at_ then (0 : Int) else at_) then (((aOf e M).length : Nat) : Int) else (if (0 : Int) > at_ then (0 : Int) else at_)).toNat = nb (atoms (aOf e M)) at_.toNat := by
  by_cases h0 : (0 : Int) > at_
  ·rw [if_pos h0, if_neg (by omega)]
   have : at_.toNat = (0 : Int).toNat := by omega
   rw [this]
  ·rw [if_neg h0]
   split
   ·rw [Int.toNat_natCast, nb_ge _ _ (by omega), nb_ge _ _ (by omega)]
   ·rfl
 rw [e]; exact this
theorem lended_call (h : Txt w p e lim na O M) {K : Bool → World → Prop} (hK : ∀ w', Ext w w' → K (ended (atoms (aOf e M))) w') :
  callT Tryz.prog 51 #[.pointer (some (at0 p))] (.one (.one .bool)) K w := by
 refine F51_calls ?_
 unfold F51
 have hal := hal e M
 unfold ended at hK
 refine len_call h fun w1 e1 => sif_r (fun hc => ?_) (fun hc => ?_)
 ·simp only [decide_eq_true_eq, gt_iff_lt] at hc
  refine breaks_call (h.ext e1) fun w2 e2 => seek_call (h.ext (e1.trans e2)) fun w3 e3 => ?_
  have := hK w3 ((e1.trans e2).trans e3)
  rw [Int.toNat_natCast, ← hal, ← brs_nb, skI_nat]
  rw [decide_eq_true (by omega), Bool.true_and] at this
  cases hs : sk (atoms (aOf e M)) (brs (atoms (aOf e M))) with
  | none =>
   rw [hs] at this
   have e1 : ((-1 : Int) == (((atoms (aOf e M)).length : Nat) : Int)) = false := by rw [beq_eq_false_iff_ne]; omega
   show K ((-1 : Int) == _) w3
   rw [e1]; exact this
  | some m =>
   rw [hs] at this
   have e1 : ((m : Int) == (((atoms (aOf e M)).length : Nat) : Int)) = (some m == some (atoms (aOf e M)).length) := by rw [Bool.eq_iff_iff, beq_iff_eq, beq_iff_eq, Option.some.injEq]; omega
   show K ((m : Int) == _) w3
   rw [e1]; exact this
 ·simp only [decide_eq_false_iff_not, gt_iff_lt] at hc
  have := hK w1 e1
  rw [decide_eq_false (by omega), Bool.false_and] at this
  exact this
theorem lcount_call (h : Txt w p e lim na O M) {K : Int → World → Prop} (hK : ∀ w', Ext w w' → K ((lnN (atoms (aOf e M)) : Nat) : Int) w') :
  callT Tryz.prog 19 #[.pointer (some (at0 p))] (.one (.one (.int .i64))) K w := by
 refine F19_calls ?_
 unfold F19
 have few := h.few; have lims := h.lims
 have hal := hal e M
 have hb : brs (atoms (aOf e M)) ≤ (atoms (aOf e M)).length := by rw [brs_nb]; exact nb_le _ _
 refine len_call h fun w1 e1 => breaks_call (h.ext e1) fun w2 e2 => ?_
 rw [Int.toNat_natCast, ← hal, ← brs_nb]
 refine join_r (fun x W => x = (((lnN (atoms (aOf e M)) : Nat) : Int), ()) ∧ Ext w W) ?_ (fun x W hx => by obtain ⟨rfl, hx⟩ := hx; exact hK W hx)
 refine lended_call (h.ext (e1.trans e2)) fun w3 e3 => ?_
 have e03 := (e1.trans e2).trans e3
 refine sif_r (fun hc => ⟨?_, e03⟩) (fun hc => ⟨?_, e03⟩)
 ·simp only [Bool.not_eq_true'] at hc
  unfold lnN
  rw [hc, wrap64 (by omega) (by omega)]
  simp
 ·simp only [Bool.not_eq_false'] at hc
  unfold lnN
  rw [hc]
  simp
end
end Go.Proofs.YtolhlldgnfbemaaGreat
namespace Go.Proofs.YtolhlldgnfbemaaGreat
open Go Go.Vx Cdc Trx Gly Clu Lns Obx
namespace Mot
variable {A : List Int} {i : Nat}
noncomputable def bndL (A : List Int) (i : Nat) : List Int := (List.range ((rowC A i).length + 1)).map fun j => (bndR A i j : Int)
theorem nv_bnd (h : i ≤ brs A) : nv (cuts (rowB A i)) = iv (bndL A i) := by
 rw [row_cuts h]
 unfold bndL
 simp only [List.map_map]
 rfl
theorem bndL_len (A : List Int) (i : Nat) : (bndL A i).length = (rowC A i).length + 1 := by unfold bndL; simp
theorem bndL_at {j : Nat} (h : j ≤ (rowC A i).length) : (bndL A i)[j]? = some (bndR A i j : Int) := by
 unfold bndL
 rw [List.getElem?_map, List.getElem?_range (by omega)]; rfl
theorem place_min (h : i ≤ brs A) (c : Int) : placeR A i c = (rowL A i).from_ + bndR A i (min c.toNat (rowC A i).length) := by
 rw [bnd_place h]
 rcases Nat.lt_or_ge c.toNat (rowC A i).length with u | u
 ·rw [Nat.min_eq_left (by omega)]
  unfold placeR
  rw [Int.toNat_natCast]
 ·rw [Nat.min_eq_right u, placeR_ge u, placeR_ge (by omega)]
theorem cel_to (h : i ≤ brs A) {j : Nat} {c : Cel} (hc : (rowC A i)[j]? = some c) : c.to_ = placeR A i ((j + 1 : Nat) : Int) := by
 have hl := (List.getElem?_eq_some_iff.1 hc).1
 rcases Nat.lt_or_ge (j + 1) (rowC A i).length with u | u
 ·obtain ⟨d, hd⟩ := cel_get u
  rw [placeR_lt u, frm_of hd]
  exact (rowC_chain A i).next j c d hc hd
 ·rw [placeR_ge (by omega)]
  exact rowC_last h hc (by omega)
theorem place_mono (h : i ≤ brs A) {c d : Nat} (hcd : c ≤ d) (hd : d ≤ (rowC A i).length) : placeR A i (c : Int) ≤ placeR A i (d : Int) := by
 rcases Nat.lt_or_ge c d with u | u
 ·exact Nat.le_of_lt (placeR_mono h u hd)
 ·rw [show c = d by omega]; exact Nat.le_refl _
theorem row_cel (h : i ≤ brs A) {j : Nat} {c : Cel} (hc : (rowC A i)[j]? = some c) : (rowB A i)[bndR A i j]? = some c.atom ∧ c.kind = wrd c.atom := by
 have hl := (List.getElem?_eq_some_iff.1 hc).1
 obtain ⟨_, _, _, _, q⟩ := lineC_at (row_ok h).ft (by have := (row_ok h).tn; have := (row_ok h).nl; omega) hc
 exact ⟨by rw [bnd_atom h hl, hc]; rfl, q.kind⟩
end Mot
open Mot
abbrev RwT := Cells.T c72
structure RowIs (w : World) (A : List Int) (i : Nat) (r : RwT) : Prop where
 row : i ≤ brs A
 len : A.length ≤ 1048576
 f : r.1 = ((rowL A i).from_ : Int)
 t : r.2.1 = ((rowL A i).to_ : Int)
 n : r.2.2.1 = ((rowL A i).next : Int)
 num : r.2.2.2.2.1 = (i : Int)
 atoms : SlIn w r.2.2.2.2.2.1 3 1 (iv (rowB A i))
 starts : SlIn w r.2.2.2.2.2.2.1 3 1 (iv (bndL A i))
abbrev rwO (r : RwT) : Obj := .cells #[.int .i64 r.1, .int .i64 r.2.1, .int .i64 r.2.2.1, .int .i64 r.2.2.2.1, .int .i64 r.2.2.2.2.1, .slice r.2.2.2.2.2.1.a r.2.2.2.2.2.1.len r.2.2.2.2.2.1.cap, .slice r.2.2.2.2.2.2.1.a r.2.2.2.2.2.2.1.len r.2.2.2.2.2.2.1.cap] 72 (0, 0)
abbrev rwZ : Obj := .cells #[.int .i64 0, .int .i64 0, .int .i64 0, .int .i64 0, .int .i64 0, .slice none 0 0, .slice none 0 0] 72 (0, 0)
section
variable {w w' : World} {A : List Int} {i : Nat} {r : RwT}
theorem RowIs.ext (h : RowIs w A i r) (e : Ext w w') : RowIs w' A i r := ⟨h.row, h.len, h.f, h.t, h.n, h.num, h.atoms.ext e, h.starts.ext e⟩
theorem RowIs.slen (h : RowIs w A i r) : r.2.2.2.2.2.2.1.len = (rowC A i).length + 1 := by
 have := h.starts.len1
 rw [List.length_map, bndL_len] at this
 exact this.symm
theorem RowIs.few (h : RowIs w A i r) : (rowC A i).length ≤ 1048576 ∧ (rowL A i).to_ ≤ 1048576 ∧ (rowL A i).from_ ≤ 1048576 ∧ (rowL A i).next ≤ 1048576 := by
 have h1 := rowC_len h.row
 have ok := row_ok h.row
 have := ok.tn; have := ok.nl; have := ok.ft; have := h.len
 omega
theorem clus_call (h : RowIs w A i r) {K : Int → World → Prop} (hK : ∀ w', Ext w w' → K ((rowC A i).length : Int) w') :
  callT Tryz.prog 39 #[.agg (Cells.vals c72 r).toArray] (.one (.one (.int .i64))) K w := by
 refine F39_calls (a0 := r) ?_
 unfold F39
 have hl := h.slen; have fw := h.few
 refine (St.start w).newO fun b1 w1 S1 e1 => S1.ld 0 rfl (x := r.2.2.2.2.2.2.1) rfl ?_
 rw [hl, wrap64 (by omega) (by omega)]
 have := hK w1 e1
 rw [show (((rowC A i).length + 1 : Nat) : Int) - 1 = ((rowC A i).length : Int) by omega]
 exact this
theorem mplace_call (h : RowIs w A i r) {c : Int} {K : Int → World → Prop} (hK : ∀ w', Ext w w' → K (placeR A i c : Int) w') :
  callT Tryz.prog 38 #[.agg (Cells.vals c72 r).toArray, .int .i64 c] (.one (.one (.int .i64))) K w := by
 refine F38_calls (a0 := r) ?_
 unfold F38
 have hl := h.slen; have fw := h.few
 refine (St.start w).newO fun b1 w1 S1 e1 => S1.drew fun w2 S2 e2 _ => S2.ld 0 rfl (x := r.1) rfl (S2.ld 0 rfl (x := r.2.2.2.2.2.2.1) rfl (S2.lds 0 r rfl ?_))
 refine clus_call (h.ext S2.upd) fun w3 e3 => ?_
 have S3 := S2.ext e3
 refine S3.keep 0 rfl (v := .slice r.2.2.2.2.2.2.1.a r.2.2.2.2.2.2.1.len r.2.2.2.2.2.2.1.cap) rfl (S3.keep 0 rfl (v := .int .i64 r.1) rfl ?_)
 have em : (if (((rowC A i).length : Nat) : Int) < (if (0 : Int) > c then (0 : Int) else c) then (((rowC A i).length : Nat) : Int) else (if (0 : Int) > c then (0 : Int) else c)) = ((min c.toNat (rowC A i).length : Nat) : Int) := by
  split <;> split at * <;> omega
 rw [em]
 refine ix_ld (c := .int .i64) (xs := bndL A i) (h.ext S3.upd).starts (by omega) (x := (bndR A i (min c.toNat (rowC A i).length) : Int)) (by rw [Int.toNat_natCast]; exact bndL_at (by omega)) fun p => ?_
 have hp := place_min h.row c
 have hle := place_le h.row c
 have hA := h.len
 rw [h.f, wrap64 (by omega) (by omega)]
 have := hK w3 S3.upd
 rw [hp] at this
 rw [show (((rowL A i).from_ : Nat) : Int) + ((bndR A i (min c.toNat (rowC A i).length) : Nat) : Int) = (((rowL A i).from_ + bndR A i (min c.toNat (rowC A i).length) : Nat) : Int) by omega]
 exact this
theorem mcol_call (h : RowIs w A i r) {n : Int} {K : Int → World → Prop} (hK : ∀ w', Ext w w' → K (firstI (rowC A i) n : Int) w') :
  callT Tryz.prog 40 #[.agg (Cells.vals c72 r).toArray, .int .i64 n] (.one (.one (.int .i64))) K w := by
 refine F40_calls (a0 := r) ?_
 unfold F40
 have hl := h.slen; have fw := h.few; have hA := h.len
 refine (St.start w).newO fun b1 w1 S1 e1 => S1.lds 0 r rfl (clus_call (h.ext e1) fun w2 e2 => ?_)
 have S2 := S1.ext e2
 have S2 : St (fun _ => False) w w2 [(b1, rwO r)] := S2
 refine join_r (fun x W => x = ((firstI (rowC A i) n : Int), ()) ∧ Ext w W) ?_ (fun x W hx => by rw [hx.1]; exact hK W hx.2)
 refine sloop_r (fun x W => ∃ lo hi : Nat, x = ((lo : Int), (hi : Int), ()) ∧ lo ≤ hi ∧ hi ≤ (rowC A i).length ∧ (lo = 0 ∨ (placeR A i (lo : Int) : Int) ≤ n) ∧ (∀ j : Nat, hi < j → j ≤ (rowC A i).length → n < (placeR A i (j : Int) : Int)) ∧ St (fun _ => False) w W [(b1, rwO r)]) (fun x _ => (x.2.1 - x.1).toNat) ⟨0, (rowC A i).length, rfl, Nat.zero_le _, Nat.le_refl _, .inl rfl, fun j h1 h2 => by omega, S2⟩ ?_
 rintro _ W ⟨lo, hi, rfl, h1, h2, h3, h4, SW⟩
 dsimp only
 refine sif_r (fun hc => ?_) (fun hc => ?_)
 ·simp only [decide_eq_true_eq] at hc
  obtain ⟨m, hm⟩ : ∃ m : Nat, m = (lo + hi + 1) / 2 := ⟨_, rfl⟩
  have ew1 : IntKind.wrap .i64 ((lo : Int) + (hi : Int)) = (lo : Int) + hi := wrap64 (by omega) (by omega)
  have ew2 : IntKind.wrap .i64 ((lo : Int) + (hi : Int) + 1) = (lo : Int) + hi + 1 := wrap64 (by omega) (by omega)
  have ed : Int.tdiv ((lo : Int) + (hi : Int) + 1) 2 = (m : Int) := by rw [Int.tdiv_eq_ediv_of_nonneg (by omega)]; omega
  have ew3 : IntKind.wrap .i64 (m : Int) = (m : Int) := wrap64 (by omega) (by omega)
  have ew4 : IntKind.wrap .i64 ((m : Int) - 1) = ((m - 1 : Nat) : Int) := by rw [wrap64 (by omega) (by omega)]; omega
  rw [ew1, ew2, ed, ew3, ew4]
  refine chk_r (by decide) (SW.drew fun w3 S3 e3 _ => S3.ld 0 rfl (x := r.1) rfl (S3.ld 0 rfl (x := r.2.2.2.2.2.2.1) rfl ?_))
  refine ix_ld (c := .int .i64) (xs := bndL A i) (h.ext S3.upd).starts (by omega) (x := (bndR A i m : Int)) (by rw [Int.toNat_natCast]; exact bndL_at (by omega)) fun p => ?_
  have hp := bnd_place h.row m
  have hle := place_le h.row (m : Int)
  rw [h.f, wrap64 (by omega) (by omega), show (((rowL A i).from_ : Nat) : Int) + ((bndR A i m : Nat) : Int) = (placeR A i (m : Int) : Int) by omega]
  refine sif_r (fun hg => ?_) (fun hg => ?_)
  ·simp only [decide_eq_true_eq] at hg
   exact ⟨⟨m, hi, rfl, by omega, h2, .inr hg, h4, S3⟩, by omega⟩
  ·simp only [decide_eq_false_iff_not] at hg
   refine ⟨⟨lo, m - 1, rfl, by omega, by omega, h3, fun j j1 j2 => ?_, S3⟩, by omega⟩
   have := place_mono h.row (c := m) (d := j) (by omega) j2
   omega
 ·simp only [decide_eq_false_iff_not] at hc
  obtain rfl : lo = hi := by omega
  refine ⟨?_, SW.upd⟩
  rw [firstI_eq h2 (fun j c hj hc' => ?_) (fun c hc' => ?_)]
  ·rw [cel_to h.row hc']
   have := place_mono h.row (c := j + 1) (d := lo) (by omega) h2
   rcases h3 with rfl | h3
   ·omega
   ·omega
  ·have hl2 := (List.getElem?_eq_some_iff.1 hc').1
   rw [cel_to h.row hc']
   exact h4 (lo + 1) (by omega) (by omega)
theorem mfirst_call (h : RowIs w A i r) {j : Nat} {c : Cel} (hc : (rowC A i)[j]? = some c) {K : Int → World → Prop} (hK : ∀ w', Ext w w' → K c.atom w') :
  callT Tryz.prog 153 #[.agg (Cells.vals c72 r).toArray, .int .i64 (j : Int)] (.one (.one (.int .i64))) K w := by
 refine F153_calls (a0 := r) ?_
 unfold F153
 have hl := h.slen; have fw := h.few
 have hj := (List.getElem?_eq_some_iff.1 hc).1
 refine (St.start w).newO fun b1 w1 S1 e1 => S1.drew fun w2 S2 e2 _ => S2.ld 0 rfl (x := r.2.2.2.2.2.1) rfl (S2.ld 0 rfl (x := r.2.2.2.2.2.2.1) rfl ?_)
 have h2 := h.ext S2.upd
 refine ix_ld (c := .int .i64) (xs := bndL A i) h2.starts (by omega) (x := (bndR A i j : Int)) (by rw [Int.toNat_natCast]; exact bndL_at (by omega)) fun p => ?_
 exact ix_ld (c := .int .i64) (xs := rowB A i) h2.atoms (by omega) (x := c.atom) (by rw [Int.toNat_natCast]; exact (row_cel h.row hc).1) fun q => hK w2 S2.upd
theorem mkind_call (h : RowIs w A i r) {j : Nat} (hj : j < (rowC A i).length) {big : Bool} {K : Int → World → Prop} (hK : ∀ w', Ext w w' → K (kindB (rowC A i) j big : Int) w') :
  callT Tryz.prog 144 #[.agg (Cells.vals c72 r).toArray, .int .i64 (j : Int), .bool big] (.one (.one (.int .i64))) K w := by
 refine F144_calls (a0 := r) ?_
 unfold F144
 obtain ⟨c, hc⟩ := cel_get hj
 refine (St.start w).newO fun b1 w1 S1 e1 => S1.lds 0 r rfl (mfirst_call (h.ext e1) hc fun w2 e2 => word_call fun w3 e3 => ?_)
 have e13 := (e1.trans e2).trans e3
 have hk := (row_cel h.row hc).2
 unfold kindB at hK
 rw [hc] at hK
 refine sif_r (fun hb => ?_) (fun hb => ?_)
 ·have := hK w3 e13
  rw [if_pos hb] at this
  have e : (if (1 : Int) < ((wrd c.atom : Nat) : Int) then (1 : Int) else ((wrd c.atom : Nat) : Int)) = ((min c.kind 1 : Nat) : Int) := by rw [hk]; split <;> omega
  rw [e]; exact this
 ·have := hK w3 e13
  rw [if_neg (by rw [hb]; decide)] at this
  rw [← hk]; exact this
theorem msign_call (h : RowIs w A i r) {K : Int → World → Prop} (hK : ∀ w', Ext w w' → K (signR A i : Int) w') :
  callT Tryz.prog 123 #[.agg (Cells.vals c72 r).toArray] (.one (.one (.int .i64))) K w := by
 refine F123_calls (a0 := r) ?_
 unfold F123
 have fw := h.few
 refine (St.start w).newO fun b1 w1 S1 e1 => ?_
 have S1 : St (fun _ => False) w w1 [(b1, rwO r)] := S1
 refine join_r (fun _ W => (∀ (j : Nat) y, (rowC A i)[j]? = some y → y.kind = 0) ∧ St (fun _ => False) w W [(b1, rwO r)]) ?_ ?_
 ·refine S1.lds 0 r rfl (clus_call (h.ext e1) fun w2 e2 => ?_)
  refine sloop_r (fun x W => ∃ c : Nat, x = ((c : Int), ()) ∧ c ≤ (rowC A i).length ∧ (∀ (j : Nat) y, j < c → (rowC A i)[j]? = some y → y.kind = 0) ∧ St (fun _ => False) w W [(b1, rwO r)]) (fun x _ => (((rowC A i).length : Int) - x.1).toNat) ⟨0, rfl, Nat.zero_le _, fun j y hj => by omega, S1.ext e2⟩ ?_
  rintro _ W ⟨c, rfl, h1, h2, SW⟩
  dsimp only
  refine sif_r (fun hc => ?_) (fun hc => ?_)
  ·simp only [decide_eq_true_eq] at hc
   have ew : IntKind.wrap .i64 ((c : Int) + 1) = ((c + 1 : Nat) : Int) := by rw [wrap64 (by omega) (by omega)]; omega
   rw [ew]
   obtain ⟨x, hx⟩ := cel_get (C := rowC A i) (j := c) (by omega)
   refine SW.lds 0 r rfl (mkind_call (h.ext SW.upd) (j := c) (by omega) fun w3 e3 => ?_)
   have hkb : kindB (rowC A i) c true = min x.kind 1 := by unfold kindB; rw [if_pos rfl, hx]; rfl
   rw [hkb]
   refine sif_r (fun hg => ?_) (fun hg => ?_)
   ·simp only [bne_iff_ne, ne_eq] at hg
    have := hK w3 (SW.ext e3).upd
    rw [sign_at hx (by omega) h2] at this
    exact this
   ·simp only [bne_eq_false_iff_eq] at hg
    refine ⟨⟨c + 1, rfl, by omega, fun j y hj hy => ?_, SW.ext e3⟩, by omega⟩
    by_cases hjc : j = c
    ·subst hjc; rw [hx] at hy; cases hy; omega
    ·exact h2 j y (by omega) hy
  ·simp only [decide_eq_false_iff_not] at hc
   exact ⟨fun j y hy => h2 j y (by have := (List.getElem?_eq_some_iff.1 hy).1; omega) hy, SW⟩
 rintro _ W ⟨h0, SW⟩
 refine SW.lds 0 r rfl (clus_call (h.ext SW.upd) fun w3 e3 => ?_)
 have := hK w3 (SW.ext e3).upd
 rw [sign_none h0] at this
 rw [wrap64 (by omega) (by omega)]
 have e : (if (0 : Int) > (((rowC A i).length : Nat) : Int) - 1 then (0 : Int) else (((rowC A i).length : Nat) : Int) - 1) = (((rowC A i).length - 1 : Nat) : Int) := by split <;> omega
 rw [e]; exact this
theorem mblank_call (h : RowIs w A i r) {K : Bool → World → Prop} (hK : ∀ w', Ext w w' → K (blankR A i) w') :
  callT Tryz.prog 130 #[.agg (Cells.vals c72 r).toArray] (.one (.one .bool)) K w := by
 refine F130_calls (a0 := r) ?_
 unfold F130
 have hbl := blank_is A i
 refine (St.start w).newO fun b1 w1 S1 e1 => ?_
 have S1 : St (fun _ => False) w w1 [(b1, rwO r)] := S1
 refine S1.lds 0 r rfl (clus_call (h.ext e1) fun w2 e2 => (S1.ext e2).drew fun w3 S3 e3 _ => ?_)
 refine sif_r (fun hc => ?_) (fun hc => ?_)
 ·simp only [beq_iff_eq] at hc
  have := hK w3 S3.upd
  rw [hbl, show (rowC A i).length = 0 by omega] at this
  exact this
 ·simp only [beq_eq_false_iff_ne, ne_eq] at hc
  refine S3.lds 0 r rfl (S3.lds 0 r rfl (msign_call (h.ext S3.upd) fun w4 e4 => ?_))
  have S4 := S3.ext e4
  have hs := signR_le A i
  refine S4.keeps 0 (x := r) rfl (mkind_call (h.ext S4.upd) (j := signR A i) (by omega) fun w5 e5 => ?_)
  have := hK w5 (S4.ext e5).upd
  rw [hbl] at this
  have e : ((rowC A i).length == 0 || kindB (rowC A i) (signR A i) true == 0) = (((kindB (rowC A i) (signR A i) true : Nat) : Int) == 0) := by
   have : ((rowC A i).length == 0) = false := by rw [beq_eq_false_iff_ne]; omega
   rw [this, Bool.false_or, Bool.eq_iff_iff, beq_iff_eq, beq_iff_eq]; omega
  rw [e] at this; exact this
end
end Go.Proofs.YtolhlldgnfbemaaGreat
namespace Go.Proofs.YtolhlldgnfbemaaGreat
open Go Go.Vx Cdc Trx Gly Clu Lns Obx Mot
section
variable {w w' : World} {p : Nat} {e : Enc} {lim na : Nat} {O : Nat → Prop} {M : Parts} {A : List Int}
structure TxA (w : World) (p : Nat) (A : List Int) : Prop where
 ex : ∃ e lim na O M, Txt w p e lim na O M ∧ atoms (aOf e M) = A
theorem TxA.ext (h : TxA w p A) (x : Ext w w') : TxA w' p A := by
 obtain ⟨e, lim, na, O, M, h1, h2⟩ := h.ex
 exact ⟨e, lim, na, O, M, h1.ext x, h2⟩
theorem TxA.len (h : TxA w p A) : A.length ≤ 1048576 := by
 obtain ⟨e, lim, na, O, M, h1, rfl⟩ := h.ex
 rw [hal]; exact h1.few
theorem TxA.at_ (h : TxA w p A) {i : Nat} (hi : i ≤ brs A) {K : Cells.T c36 × Int × Unit → World → Prop} (hK : ∀ w', Ext w w' → K (lnT (rowL A i), 0, ()) w') :
  callT Tryz.prog 41 #[.pointer (some (at0 p)), .int .i64 (i : Int)] (.tup [(.agg c36), (.one (.int .i64))]) K w := by
 have hA := h.len; have hb := brs_le A
 obtain ⟨e, lim, na, O, M, h1, rfl⟩ := h.ex
 refine lat_call h1 (by omega) fun w' x => ?_
 have := hK w' x
 unfold lnI
 rw [if_neg (by omega), Int.toNat_natCast, rowL_at hi]
 exact this
theorem TxA.atoms (h : TxA w p A) {f t : Int} {K : Sl → World → Prop} (hK : ∀ s w', SlOwn w' w.heap.size s 3 1 (iv (sub A f t)) → Ext w w' → K s w') :
  callT Tryz.prog 25 #[.pointer (some (at0 p)), .int .i64 f, .int .i64 t] (.one (.one .sl)) K w := by
 obtain ⟨e, lim, na, O, M, h1, rfl⟩ := h.ex
 exact atoms_call h1 hK
theorem TxA.of (h : TxA w p A) {x : Int} {K : Int → World → Prop} (hK : ∀ w', Ext w w' → K (ofI A x : Int) w') :
  callT Tryz.prog 20 #[.pointer (some (at0 p)), .int .i64 x] (.one (.one (.int .i64))) K w := by
 obtain ⟨e, lim, na, O, M, h1, rfl⟩ := h.ex
 refine lof_call h1 fun w' x' => ?_
 have := hK w' x'
 unfold ofI inT at this
 have e1 : nb (Trx.atoms (aOf e M)) x.toNat = nb (Trx.atoms (aOf e M)) (min (max x 0) ((Trx.atoms (aOf e M)).length : Int)).toNat := by
  rcases Nat.lt_or_ge x.toNat (Trx.atoms (aOf e M)).length with u | u
  ·congr 1; omega
  ·rw [nb_ge _ _ u, show (min (max x 0) ((Trx.atoms (aOf e M)).length : Int)).toNat = (Trx.atoms (aOf e M)).length by omega, brs_nb]
 rw [e1]; exact this
theorem TxA.count (h : TxA w p A) {K : Int → World → Prop} (hK : ∀ w', Ext w w' → K (lnN A : Int) w') :
  callT Tryz.prog 19 #[.pointer (some (at0 p))] (.one (.one (.int .i64))) K w := by
 obtain ⟨e, lim, na, O, M, h1, rfl⟩ := h.ex
 exact lcount_call h1 hK
theorem TxA.tlen (h : TxA w p A) {K : Int → World → Prop} (hK : ∀ w', Ext w w' → K (A.length : Int) w') :
  callT Tryz.prog 37 #[.pointer (some (at0 p))] (.one (.one (.int .i64))) K w := by
 obtain ⟨e, lim, na, O, M, h1, rfl⟩ := h.ex
 refine len_call h1 fun w' x => ?_
 have := hK w' x
 rw [hal] at this; exact this
theorem sub_row (A : List Int) (i : Nat) : sub A ((rowL A i).from_ : Int) ((rowL A i).to_ : Int) = rowB A i := by unfold sub rowB; simp
theorem nrow_call (h : TxA w p A) {i : Nat} (hi : i ≤ brs A) {K : RwT → World → Prop} (hK : ∀ r w', RowIs w' A i r → Ext w w' → K r w') :
  callT Tryz.prog 61 #[.pointer (some (at0 p)), .int .i64 (i : Int)] (.one (.agg c72)) K w := by
 refine F61_calls ?_
 unfold F61
 have hA := h.len
 let rw1 (sa ss : Sl) : RwT := (((rowL A i).from_ : Int), ((rowL A i).to_ : Int), ((rowL A i).next : Int), ((rowL A i).kind : Int), (i : Int), sa, ss, ())
 let lnO : Obj := .cells #[.int .i64 ((rowL A i).from_ : Int), .int .i64 ((rowL A i).to_ : Int), .int .i64 ((rowL A i).next : Int), .int .i64 ((rowL A i).kind : Int)] 36 (0, 0)
 refine (St.start w).newO fun b1 w1 S1 e1 => h.ext e1 |>.at_ hi fun w2 e2 => (S1.ext e2).newO fun b3 w3 S3 e3 => S3.aggSt 0 rfl rfl rfl rfl fun w4 S4 u4 => ?_
 have S4 : St (fun _ => False) w w4 [(b3, lnO), (b1, rwZ)] := S4
 refine join_r (fun x W => ∃ b sa, x = (at0 b, ()) ∧ St (fun _ => False) w W [(b, rwO (rw1 sa ⟨none, 0, 0⟩)), (b3, lnO), (b1, rwZ)] ∧ SlOwn W w.heap.size sa 3 1 (iv (rowB A i))) ?_ ?_
 ·refine S4.drew fun w5 S5 e5 _ => S5.lds 0 (lnT (rowL A i)) rfl (S5.ld 0 rfl (x := ((rowL A i).from_ : Int)) rfl (S5.ld 0 rfl (x := ((rowL A i).to_ : Int)) rfl ?_))
  refine ⟨?_, ?_⟩
  ·refine S5.newO fun b9 w6 S6 e6 => ?_
   refine S6.keep 1 rfl (v := .int .i64 ((rowL A i).to_ : Int)) rfl (S6.keep 1 rfl (v := .int .i64 ((rowL A i).from_ : Int)) rfl (S6.keeps 1 (x := lnT (rowL A i)) rfl ?_))
   refine (h.ext S6.upd).atoms fun sa w7 o7 e7 => ?_
   rw [sub_row] at o7
   have S7 := S6.ext e7
   have o7 := o7.mono S6.upd.size
   refine S7.keeps 1 (x := lnT (rowL A i)) rfl (S7.aggSt 0 rfl rfl rfl rfl fun w8 S8 u8 => ?_)
   exact ⟨b9, sa, rfl, S8, o7.box (S7.at_ 0 rfl) (by decide) u8⟩
  ·refine (h.ext S5.upd).atoms fun sa w6 o6 e6 => ?_
   rw [sub_row] at o6
   have S6 := S5.ext e6
   have o6 := o6.mono S5.upd.size
   refine S6.keeps 0 (x := lnT (rowL A i)) rfl ⟨?_, trivial⟩
   refine S6.newO fun b12 w7 S7 e7 => ?_
   refine S7.keep 1 rfl (v := .int .i64 ((rowL A i).to_ : Int)) rfl (S7.keep 1 rfl (v := .int .i64 ((rowL A i).from_ : Int)) rfl (S7.keeps 1 (x := lnT (rowL A i)) rfl (S7.aggSt 0 rfl rfl rfl rfl fun w8 S8 u8 => ?_)))
   exact ⟨b12, sa, rfl, S8, (o6.ext e7).box (S7.at_ 0 rfl) (by decide) u8⟩
 rintro _ W ⟨b, sa, rfl, SW, oa⟩
 refine SW.ld (off := 5) 0 rfl (x := sa) rfl ?_
 refine cbreaks_call oa.in (by rw [rowB_length hi]; have := (row_ok hi).tn; have := (row_ok hi).nl; omega) fun ss w2 o2 e2 => ?_
 rw [nv_bnd hi] at o2
 have S2 := SW.ext e2
 have o2 := o2.mono SW.upd.size
 refine S2.stC (off := 6) 0 rfl (by show 6 < 7; decide) fun w3 S3 u3 => ?_
 have S3 : St (fun _ => False) w w3 [(b, rwO (rw1 sa ss)), (b3, lnO), (b1, rwZ)] := S3
 have oa3 := (oa.ext e2).box (S2.at_ 0 rfl) (by decide) u3
 have os3 := o2.box (S2.at_ 0 rfl) (by decide) u3
 refine S3.lds 0 (rw1 sa ss) rfl (S3.aggSt 2 rfl rfl rfl rfl fun w4 S4 u4 => ?_)
 have oa4 := oa3.box (S3.at_ 2 rfl) (by decide) u4
 have os4 := os3.box (S3.at_ 2 rfl) (by decide) u4
 refine S4.lds 2 (rw1 sa ss) rfl (hK _ w4 ?_ S4.upd)
 exact ⟨hi, hA, rfl, rfl, rfl, rfl, oa4.in, os4.in⟩
theorem rowat_call (h : TxA w p A) {x : Int} {tail : Bool} {K : RwT → World → Prop} (hK : ∀ r w', RowIs w' A (rowI A x tail) r → Ext w w' → K r w') :
  callT Tryz.prog 36 #[.pointer (some (at0 p)), .int .i64 x, .bool tail] (.one (.agg c72)) K w := by
 refine F36_calls ?_
 unfold F36
 have hA := h.len; have hb := lnN_bounds A; have hbl := brs_le A; have hof := ofI_le A x
 refine (St.start w).newO fun b1 w1 S1 e1 => (h.ext e1).of fun w2 e2 => ?_
 have S2 := S1.ext e2
 have S2 : St (fun _ => False) w w2 [(b1, rwZ)] := S2
 refine join_r (fun y W => y = ((rowI A x tail : Int), ()) ∧ St (fun _ => False) w W [(b1, rwZ)]) ?_ ?_
 ·refine sif_r (fun hc => ?_) (fun hc => ?_)
  ·have ht : tail = false := by simpa using hc
   subst ht
   refine (h.ext S2.upd).count fun w3 e3 => ⟨?_, S2.ext e3⟩
   have ew : IntKind.wrap .i64 ((lnN A : Int) - 1) = ((lnN A - 1 : Nat) : Int) := by rw [wrap64 (by omega) (by omega)]; omega
   rw [ew]
   show _ = (((min (ofI A x) (lnN A - 1) : Nat) : Int), ())
   congr 1
   split <;> omega
  ·have ht : tail = true := by simpa using hc
   subst ht
   exact ⟨by unfold rowI; rw [if_pos rfl], S2⟩
 rintro _ W ⟨rfl, SW⟩
 refine nrow_call (h.ext SW.upd) (rowI_le A x tail) fun r w3 hr e3 => (SW.ext e3).aggSt 0 rfl rfl rfl rfl fun w4 S4 u4 => ?_
 have S4 : St (fun _ => False) w w4 [(b1, rwO r)] := S4
 refine S4.lds 0 r rfl (hK r w4 ⟨hr.row, hr.len, hr.f, hr.t, hr.n, hr.num, ?_, ?_⟩ S4.upd)
 ·exact hr.atoms.box ((SW.ext e3).at_ 0 rfl) (by decide) u4
 ·exact hr.starts.box ((SW.ext e3).at_ 0 rfl) (by decide) u4
theorem RowIs.box {i b : Nat} {c : Array Value} {fr : Nat × Nat} {t : TypeId} {r : RwT} (h : RowIs w A i r) (hb : w.heap[b]? = some (.cells c t fr)) (ht : 3 ≠ t) (u : Upd (fun k => k = b) w w') : RowIs w' A i r :=
 ⟨h.row, h.len, h.f, h.t, h.n, h.num, h.atoms.box hb ht u, h.starts.box hb ht u⟩
theorem mclamp_call (h : TxA w p A) {x : Int} {past : Bool} {K : Int → World → Prop} (hK : ∀ w', Ext w w' → K (clampP A x past : Int) w') :
  callT Tryz.prog 12 #[.pointer (some (at0 p)), .int .i64 x, .bool past] (.one (.one (.int .i64))) K w := by
 refine F12_calls ?_
 unfold F12
 have hA := h.len
 refine rowat_call h fun r w1 hr e1 => ?_
 refine (St.start w).ext e1 |>.newO fun b2 w2 S2 e2 => S2.aggSt 0 rfl rfl rfl rfl fun w3 S3 u3 => ?_
 have S3 : St (fun _ => False) w w3 [(b2, rwO r)] := S3
 have hr := (hr.ext e2).box (S2.at_ 0 rfl) (by decide) u3
 have fw := hr.few
 refine (h.ext S3.upd).tlen fun w4 e4 => ?_
 have S4 := S3.ext e4
 have hr := hr.ext e4
 refine S4.ld (off := 1) 0 rfl (x := r.2.1) rfl ?_
 have ein : (if ((A.length : Nat) : Int) < (if (0 : Int) > x then (0 : Int) else x) then ((A.length : Nat) : Int) else (if (0 : Int) > x then (0 : Int) else x)) = (inT A x : Int) := by
  unfold inT
  split <;> split at * <;> omega
 rw [ein, hr.t]
 unfold clampP at hK
 refine sif_r (fun hc => ?_) (fun hc => ?_)
 ·simp only [decide_eq_true_eq, ge_iff_le] at hc
  rw [if_pos (by omega)] at hK
  refine sif_r (fun hp => ?_) (fun hp => ?_)
  ·subst hp
   rw [if_pos rfl] at hK
   refine S4.ld (off := 1) 0 rfl (x := r.2.1) rfl ?_
   rw [hr.t]; exact hK w4 S4.upd
  ·subst hp
   rw [if_neg (by decide)] at hK
   refine S4.drew fun w5 S5 e5 _ => S5.lds 0 r rfl (S5.lds 0 r rfl (clus_call (hr.ext e5) fun w6 e6 => ?_))
   have S6 := S5.ext e6
   rw [wrap64 (by omega) (by omega)]
   exact S6.keeps 0 (x := r) rfl (mplace_call ((hr.ext e5).ext e6) fun w7 e7 => hK w7 (S6.ext e7).upd)
 ·simp only [decide_eq_false_iff_not, ge_iff_le] at hc
  rw [if_neg (by omega)] at hK
  refine S4.drew fun w5 S5 e5 _ => S5.lds 0 r rfl (S5.lds 0 r rfl (mcol_call (hr.ext e5) fun w6 e6 => ?_))
  have S6 := S5.ext e6
  exact S6.keeps 0 (x := r) rfl (mplace_call ((hr.ext e5).ext e6) fun w7 e7 => hK w7 (S6.ext e7).upd)
theorem mplaceP_call (h : TxA w p A) {line col : Int} {past : Bool} {K : Int → World → Prop} (hK : ∀ w', Ext w w' → K (placeP A line col past : Int) w') :
  callT Tryz.prog 29 #[.pointer (some (at0 p)), .int .i64 line, .int .i64 col, .bool past] (.one (.one (.int .i64))) K w := by
 refine F29_calls ?_
 unfold F29
 have hA := h.len; have hb := lnN_bounds A; have hbl := brs_le A
 refine h.count fun w0 e0 => ?_
 have ew : IntKind.wrap .i64 ((lnN A : Int) - 1) = (lnN A : Int) - 1 := wrap64 (by omega) (by omega)
 rw [ew]
 have el : (if (lnN A : Int) - 1 < (if (0 : Int) > line then (0 : Int) else line) then (lnN A : Int) - 1 else (if (0 : Int) > line then (0 : Int) else line)) = (lineI A line : Int) := by
  unfold lineI
  split <;> split at * <;> omega
 rw [el]
 refine nrow_call (h.ext e0) (lineI_le A line).2 fun r w1 hr e1 => ?_
 refine (St.start w).ext (e0.trans e1) |>.newO fun b2 w2 S2 e2 => S2.aggSt 0 rfl rfl rfl rfl fun w3 S3 u3 => ?_
 have S3 : St (fun _ => False) w w3 [(b2, rwO r)] := S3
 have hr := (hr.ext e2).box (S2.at_ 0 rfl) (by decide) u3
 have fw := hr.few
 unfold placeP at hK
 refine join_r (fun y W => y = ((if ((rowC A (lineI A line)).length : Int) ≤ col ∧ past = false then ((rowC A (lineI A line)).length : Int) - 1 else col), ()) ∧ Ext w3 W) ?_ ?_
 ·refine S3.lds 0 r rfl (clus_call hr fun w4 e4 => ?_)
  rw [wrap64 (by omega) (by omega)]
  refine join_r (fun y W => y = (decide (((rowC A (lineI A line)).length : Int) ≤ col ∧ past = false), ()) ∧ w4 = W) ?_ ?_
  ·refine sif_r (fun hc => ⟨tupb ?_, rfl⟩) (fun hc => ⟨tupb ?_, rfl⟩)
   ·simp only [decide_eq_true_eq, ge_iff_le] at hc
    cases past <;> simp [hc]
   ·simp only [decide_eq_false_iff_not, ge_iff_le] at hc
    simp [hc]
  rintro _ _ ⟨rfl, rfl⟩
  refine sif_r (fun hc => ⟨?_, e4⟩) (fun hc => ⟨?_, e4⟩)
  ·rw [if_pos (of_decide_eq_true hc)]
  ·rw [if_neg (of_decide_eq_false hc)]
 rintro _ w4 ⟨rfl, e4⟩
 have S4 := S3.ext e4
 exact S4.lds 0 r rfl (mplace_call (hr.ext e4) fun w5 e5 => hK w5 (S4.ext e5).upd)
theorem mcolumn_call (h : TxA w p A) {x : Int} {K : Int → World → Prop} (hK : ∀ w', Ext w w' → K (columnP A x : Int) w') :
  callT Tryz.prog 21 #[.pointer (some (at0 p)), .int .i64 x] (.one (.one (.int .i64))) K w := by
 refine F21_calls ?_
 unfold F21
 refine rowat_call h fun r w1 hr e1 => ?_
 refine (St.start w).ext e1 |>.newO fun b2 w2 S2 e2 => S2.aggSt 0 rfl rfl rfl rfl fun w3 S3 u3 => ?_
 have S3 : St (fun _ => False) w w3 [(b2, rwO r)] := S3
 have hr := (hr.ext e2).box (S2.at_ 0 rfl) (by decide) u3
 exact S3.lds 0 r rfl (mcol_call hr fun w4 e4 => hK w4 (S3.ext e4).upd)
end
end Go.Proofs.YtolhlldgnfbemaaGreat
