/- The law holds for every input: it returns true, and each argument reads behind the call as it did. Conditions: those of the form alone. -/
import Derived.Test.YtolhlldgnfbemaaGreatMFo5
set_option linter.unusedVariables false
set_option linter.unusedSimpArgs false
set_option linter.unusedSectionVars false
set_option maxRecDepth 100000
namespace Go.Proofs.YtolhlldgnfbemaaGreat
open Go Go.Vx Cdc Trx
namespace Cdc
structure LEd where
 f : Int
 t : Int
 put : List Int
theorem sz_le (e : Enc) (v : Int) : sz e v ≤ 4 := by
 cases e with
 | u8 => show sz8 v ≤ 4; unfold sz8; (repeat' split) <;> omega
 | le => show sz16 v ≤ 4; unfold sz16; (repeat' split) <;> omega
 | be => show sz16 v ≤ 4; unfold sz16; (repeat' split) <;> omega
 | l1 => show sz1 v ≤ 4; unfold sz1; (repeat' split) <;> omega
end Cdc
def rngs (n : Int) : Int → List LEd → Bool
 | _, [] => true
 | a, x :: r => decide (a ≤ x.f ∧ x.f ≤ x.t ∧ x.t ≤ n) && rngs n x.t r
def fitsB (e : Enc) (es : List LEd) : Bool := es.all fun x => x.put.all fun a => sz e a != 0
def putsz (e : Enc) : List LEd → Nat
 | [] => 0
 | x :: r => szs (prs e x.put) + putsz e r
def goneE (A : As) : List LEd → Nat
 | [] => 0
 | x :: r => (szs (A.take x.t.toNat) - szs (A.take x.f.toNat)) + goneE A r
def refuseP (e : Enc) (lim : Nat) (A : As) (es : List LEd) : Int :=
 if 70000 < es.length then 3 else if rngs A.length 0 es = false then 2 else if fitsB e es = false then 11 else if lim + goneE A es < szs A + putsz e es then 50 else 0
def applyE (e : Enc) (A : As) : List LEd → As
 | [] => A
 | x :: r => (applyE e A r).take x.f.toNat ++ prs e x.put ++ (applyE e A r).drop x.t.toNat
theorem putsz_app (e : Enc) : ∀ (l m : List LEd), putsz e (l ++ m) = putsz e l + putsz e m
 | [], m => by simp [putsz]
 | x :: l, m => by rw [List.cons_append, putsz, putsz, putsz_app e l m]; omega
theorem goneE_app (A : As) : ∀ (l m : List LEd), goneE A (l ++ m) = goneE A l + goneE A m
 | [], m => by simp [goneE]
 | x :: l, m => by rw [List.cons_append, goneE, goneE, goneE_app A l m]; omega
theorem fitsB_app (e : Enc) (l m : List LEd) : fitsB e (l ++ m) = (fitsB e l && fitsB e m) := by unfold fitsB; rw [List.all_append]
theorem szs_take_le (A : As) {i j : Nat} (h : i ≤ j) : szs (A.take i) ≤ szs (A.take j) := by
 have : A.take j = A.take i ++ (A.take j).drop i := by
  conv => lhs; rw [← List.take_append_drop i (A.take j)]
  rw [List.take_take, Nat.min_eq_left h]
 rw [this, szs_append]; omega
theorem szs_all_le (A : As) (i : Nat) : szs (A.take i) ≤ szs A := by
 conv => rhs; rw [← List.take_append_drop i A]
 rw [szs_append]; omega
theorem rngs_get {n : Int} : ∀ {es : List LEd} {a : Int} {i : Nat} {x : LEd}, rngs n a es = true → es[i]? = some x → (if i = 0 then a else ((es[i - 1]?).map (·.t)).getD 0) ≤ x.f ∧ a ≤ x.f ∧ x.f ≤ x.t ∧ x.t ≤ n ∧ rngs n x.t (es.drop (i + 1)) = true
 | [], a, i, x, _, hx => by simp at hx
 | y :: r, a, 0, x, h, hx => by
  simp at hx; subst hx
  rw [rngs, Bool.and_eq_true, decide_eq_true_eq] at h
  exact ⟨h.1.1, h.1.1, h.1.2.1, h.1.2.2, h.2⟩
 | y :: r, a, i + 1, x, h, hx => by
  rw [rngs, Bool.and_eq_true, decide_eq_true_eq] at h
  have hx' : r[i]? = some x := by simpa using hx
  obtain ⟨g1, g2, g3, g4, g5⟩ := rngs_get h.2 hx'
  refine ⟨?_, by omega, g3, g4, g5⟩
  rw [if_neg (by omega)]
  cases i with
  | zero => simpa using g1
  | succ i =>
   rw [if_neg (by omega)] at g1
   simpa using g1
theorem apply_head {e : Enc} {A : As} : ∀ {es : List LEd} {a : Int}, 0 ≤ a → a ≤ A.length → rngs A.length a es = true → a.toNat ≤ (applyE e A es).length ∧ (applyE e A es).take a.toNat = A.take a.toNat
 | [], a, h0, h1, _ => ⟨by rw [applyE]; omega, rfl⟩
 | x :: r, a, h0, h1, h => by
  rw [rngs, Bool.and_eq_true, decide_eq_true_eq] at h
  obtain ⟨⟨g1, g2, g3⟩, g4⟩ := h
  obtain ⟨i1, i2⟩ := apply_head (e := e) (A := A) (a := x.t) (by omega) g3 g4
  have hB : (applyE e A r).take x.f.toNat = A.take x.f.toNat := by
   have := congrArg (List.take x.f.toNat) i2
   rw [List.take_take, List.take_take, Nat.min_eq_left (by omega)] at this
   exact this
  rw [applyE, hB]
  have hl : (A.take x.f.toNat).length = x.f.toNat := by rw [List.length_take]; omega
  constructor
  ·rw [List.length_append, List.length_append, hl]; omega
  ·rw [List.append_assoc, List.take_append_of_le_length (by rw [hl]; omega), List.take_take, Nat.min_eq_left (by omega)]
theorem gone_le {A : As} : ∀ {es : List LEd} {a : Int}, 0 ≤ a → rngs A.length a es = true → goneE A es + szs (A.take a.toNat) ≤ szs A
 | [], a, _, _ => by rw [goneE]; have := szs_all_le A a.toNat; omega
 | x :: r, a, h0, h => by
  rw [rngs, Bool.and_eq_true, decide_eq_true_eq] at h
  obtain ⟨⟨g1, g2, g3⟩, g4⟩ := h
  have ih := gone_le (A := A) (a := x.t) (by omega) g4
  have h1 := szs_take_le A (i := a.toNat) (j := x.f.toNat) (by omega)
  have h2 := szs_take_le A (i := x.f.toNat) (j := x.t.toNat) (by omega)
  rw [goneE]; omega
theorem apply_szs {e : Enc} {A : As} : ∀ {es : List LEd} {a : Int}, 0 ≤ a → a ≤ A.length → rngs A.length a es = true → szs (applyE e A es) + goneE A es = szs A + putsz e es
 | [], a, _, _, _ => by rw [applyE, goneE, putsz]
 | x :: r, a, h0, h1, h => by
  rw [rngs, Bool.and_eq_true, decide_eq_true_eq] at h
  obtain ⟨⟨g1, g2, g3⟩, g4⟩ := h
  have ih := apply_szs (e := e) (A := A) (a := x.t) (by omega) g3 g4
  obtain ⟨i1, i2⟩ := apply_head (e := e) (A := A) (a := x.t) (by omega) g3 g4
  have hB : (applyE e A r).take x.f.toNat = A.take x.f.toNat := by
   have := congrArg (List.take x.f.toNat) i2
   rw [List.take_take, List.take_take, Nat.min_eq_left (by omega)] at this
   exact this
  have h3 : szs (applyE e A r) = szs (A.take x.t.toNat) + szs ((applyE e A r).drop x.t.toNat) := by
   conv => lhs; rw [← List.take_append_drop x.t.toNat (applyE e A r)]
   rw [szs_append, i2]
  have h2 := szs_take_le A (i := x.f.toNat) (j := x.t.toNat) (by omega)
  rw [applyE, szs_append, szs_append, hB, goneE, putsz]
  omega
section
variable {w w' W W' : World} {S : Nat → Prop} {p : Nat} {e : Enc} {lim na : Nat} {O : Nat → Prop} {M : Parts}
structure EdIn (w : World) (s : Sl) (ty : TypeId) (ys : List (Cells.T c103)) (es : List LEd) : Prop where
 row : SlIn w s ty 3 (flat c103 ys)
 len : ys.length = es.length
 each : ∀ (i : Nat) y x, ys[i]? = some y → es[i]? = some x → y.1 = x.f ∧ y.2.1 = x.t ∧ (∃ t, SlIn w y.2.2.1 t 1 (iv x.put)) ∧ x.put.length ≤ 2 ^ 44
theorem puts_le (e : Enc) : ∀ (l : List LEd), (∀ x ∈ l, x.put.length ≤ 2 ^ 44) → putsz e l ≤ 70368744177664 * l.length
 | [], _ => by simp [putsz]
 | x :: l, h => by
  have ih := puts_le e l fun y hy => h y (List.mem_cons_of_mem _ hy)
  have h1 := h x List.mem_cons_self
  have h2 : ∀ m : List Int, szs (prs e m) ≤ 4 * m.length := by
   intro m
   induction m with
   | nil => exact Nat.le_refl _
   | cons a m ih =>
    show Cdc.szs ((a, sz e a) :: prs e m) ≤ _
    rw [szs_cons, List.length_cons]
    have := sz_le e a
    show sz e a + _ ≤ _
    omega
  have := h2 x.put
  rw [putsz, List.length_cons]; omega
abbrev edO (f t : Int) (s : Sl) : Obj := .cells #[.int .i64 f, .int .i64 t, .slice s.a s.len s.cap] 103 (0, 0)
set_option maxHeartbeats 1000000 in
theorem refuseG_call {s : Sl} {ty : TypeId} {ys : List (Cells.T c103)} {es : List LEd} (h : Txt w p e lim na O M) (hE : EdIn w s ty ys es) {K : Int → World → Prop} (hK : ∀ w', Ext w w' → K (refuseP e lim (aOf e M) es) w') :
  callT Tryz.prog 63 #[.pointer (some (at0 p)), .slice s.a s.len s.cap] (.one (.one (.int .i64))) K w := by
 refine F63_calls ?_
 unfold F63
 have few := h.few; have lims := h.lims; have hsz := h.sz
 have hyl : ys.length = s.len := SlIn.lenR (cs := c103) hE.row (by decide)
 have hel := hE.len
 obtain ⟨A, hA⟩ : ∃ A, A = aOf e M := ⟨_, rfl⟩
 rw [← hA] at few hsz
 have small : ∀ x ∈ es, x.put.length ≤ 2 ^ 44 := fun x hx => by
  obtain ⟨i, hi⟩ := List.getElem?_of_mem hx
  obtain ⟨y, hy⟩ : ∃ y, ys[i]? = some y := ⟨_, List.getElem?_eq_getElem (by have := (List.getElem?_eq_some_iff.1 hi).1; omega)⟩
  exact (hE.each i y x hy hi).2.2.2
 unfold refuseP at hK
 rw [← hA] at hK
 refine sif_r (fun hc => ?_) (fun hc => ?_)
 ·simp only [decide_eq_true_eq, gt_iff_lt] at hc
  have := hK w (Ext.refl w)
  rw [if_pos (by omega)] at this
  exact this
 simp only [decide_eq_false_iff_not, gt_iff_lt] at hc
 rw [if_neg (by omega)] at hK
 have few2 : es.length ≤ 70000 := by omega
 have rdE : ∀ {V : World} {K : Addr → Cells.T c103 → World → Prop} {i : Nat} {y : Cells.T c103}, Ext w V → ys[i]? = some y → (∀ q, K q y V) → ix s.a s.len (i : Int) (fun q => lds c103 (q.add (scaled (Int.toNat (i : Int)) 3)) (K q)) V := fun x hy hk => ix_lds (cs := c103) (xs := ys) (hE.row.ext x) (by decide) (by omega) (by rw [Int.toNat_natCast]; exact hy) hk
 have get : ∀ i, i < es.length → ∃ y x, ys[i]? = some y ∧ es[i]? = some x := fun i hi => ⟨_, _, List.getElem?_eq_getElem (by omega), List.getElem?_eq_getElem hi⟩
 have ewi : ∀ i : Nat, i < es.length → IntKind.wrap .i64 ((i : Int) + 1) = ((i + 1 : Nat) : Int) := fun i hi => by rw [wrap64 (by omega) (by omega)]; omega
 refine len_call h fun w1 e1 => ?_
 have hlA : ((aOf e M).length : Int) = (A.length : Int) := by rw [hA]
 rw [hlA]
 refine join_r (fun _ W => rngs A.length 0 es = true ∧ Ext w W) ?_ ?_
 ·refine sloop_r (fun x W => ∃ i : Nat, x.2 = ((i : Int), ()) ∧ i ≤ es.length ∧ rngs A.length 0 es = rngs A.length x.1 (es.drop i) ∧ Ext w W) (fun x _ => ((es.length : Int) - x.2.1).toNat) ⟨0, rfl, Nat.zero_le _, rfl, e1⟩ ?_
  rintro ⟨a, _⟩ W ⟨i, rfl, hi, hr, eW⟩
  dsimp only at hr ⊢
  refine sif_r (fun hc => ?_) (fun hc => ?_)
  ·simp only [decide_eq_true_eq] at hc
   obtain ⟨y, x, hy, hx⟩ := get i (by omega)
   obtain ⟨y1, y2, _⟩ := hE.each i y x hy hx
   rw [ewi i (by omega)]
   have hd : es.drop i = x :: es.drop (i + 1) := by
    have hl := (List.getElem?_eq_some_iff.1 hx).1
    rw [List.drop_eq_getElem_cons hl]
    rw [List.getElem?_eq_getElem hl] at hx
    cases hx; rfl
   rw [hd, rngs] at hr
   refine rdE eW hy fun q => (St.start W).newO fun b8 w2 S2 e2 => S2.aggSt 0 rfl rfl rfl rfl fun w3 S3 u3 => ?_
   have S3 : St (fun _ => False) W w3 [(b8, edO y.1 y.2.1 y.2.2.1)] := S3
   rw [y1, y2] at S3
   refine join_r (fun z W' => z = (!decide (a ≤ x.f ∧ x.f ≤ x.t ∧ x.t ≤ (A.length : Int)), ()) ∧ w3 = W') ?_ ?_
   ·refine S3.ld 0 rfl (x := x.f) rfl (sif_r (fun g1 => ⟨tupb ?_, rfl⟩) (fun g1 => S3.ld 0 rfl (x := x.t) rfl (S3.ld 0 rfl (x := x.f) rfl (sif_r (fun g2 => ⟨tupb ?_, rfl⟩) (fun g2 => S3.ld 0 rfl (x := x.t) rfl ⟨tupb ?_, rfl⟩)))))
    all_goals simp only [Bool.not_eq_true', decide_eq_true_eq, decide_eq_false_iff_not, true_iff, gt_iff_lt] at *
    all_goals omega
   rintro _ _ ⟨rfl, rfl⟩
   have x3 := eW.trans S3.upd
   refine sif_r (fun hb => ?_) (fun hb => ?_)
   ·have hb : decide (a ≤ x.f ∧ x.f ≤ x.t ∧ x.t ≤ (A.length : Int)) = false := by
     cases hd : decide (a ≤ x.f ∧ x.f ≤ x.t ∧ x.t ≤ (A.length : Int)) with
     | false => rfl
     | true => rw [hd] at hb; exact absurd hb (by decide)
    rw [hb, Bool.false_and] at hr
    have := hK w3 x3
    rw [if_pos hr] at this
    exact this
   ·have hb : decide (a ≤ x.f ∧ x.f ≤ x.t ∧ x.t ≤ (A.length : Int)) = true := by simpa using hb
    rw [hb, Bool.true_and] at hr
    exact S3.ld 0 rfl (x := x.t) rfl ⟨⟨i + 1, rfl, by omega, hr, x3⟩, by omega⟩
  ·simp only [decide_eq_false_iff_not] at hc
   refine ⟨?_, eW⟩
   rw [hr, List.drop_eq_nil_of_le (by omega)]; rfl
 rintro _ w2 ⟨hr, e2⟩
 rw [if_neg (by rw [hr]; decide)] at hK
 refine sizeB_call (h.ext e2) fun w3 e3 => ?_
 have x3 := e2.trans e3
 have hsA : (szs (aOf e M) : Int) = (szs A : Int) := by rw [hA]
 rw [hsA]
 have tk1 : ∀ {i : Nat} {x : LEd}, es[i]? = some x → es.take (i + 1) = es.take i ++ [x] := fun hx => by rw [List.take_add_one, hx]; rfl
 have pl : ∀ i, i ≤ es.length → putsz e (es.take i) ≤ 70368744177664 * i := fun i hi => by
  have := puts_le e (es.take i) fun x hx => small x (List.mem_of_mem_take hx)
  rw [List.length_take, Nat.min_eq_left hi] at this; exact this
 refine join_r (fun x W => x = (((szs A + putsz e es : Nat) : Int), ()) ∧ fitsB e es = true ∧ Ext w W) ?_ ?_
 ·refine sloop_r (fun x W => ∃ i : Nat, x = (((szs A + putsz e (es.take i) : Nat) : Int), (i : Int), ()) ∧ i ≤ es.length ∧ fitsB e (es.take i) = true ∧ Ext w W) (fun x _ => ((es.length : Int) - x.2.1).toNat) ⟨0, rfl, Nat.zero_le _, rfl, x3⟩ ?_
  rintro _ W ⟨i, rfl, hi, hf, eW⟩
  dsimp only
  refine sif_r (fun hc => ?_) (fun hc => ?_)
  ·simp only [decide_eq_true_eq] at hc
   obtain ⟨y, x, hy, hx⟩ := get i (by omega)
   obtain ⟨_, _, ⟨tp, hput⟩, hpl⟩ := hE.each i y x hy hx
   have hpl2 : x.put.length = y.2.2.1.len := by have := hput.len1; rwa [List.length_map] at this
   have p1 := pl i hi
   rw [ewi i (by omega)]
   have hst : putsz e (es.take (i + 1)) = putsz e (es.take i) + szs (prs e x.put) := by rw [tk1 hx, putsz_app]; simp [putsz]
   have hsm : ∀ j, szs (prs e (x.put.take j)) ≤ 70368744177664 := fun j => by
    have h1 := szs_prs_le e x.put j
    have h2 := puts_le e [x] fun z hz => by rw [List.mem_singleton.1 hz]; exact hpl
    simp [putsz] at h2
    omega
   refine join_r (fun z W' => z = (((szs A + putsz e (es.take (i + 1)) : Nat) : Int), ()) ∧ fitsB e (es.take (i + 1)) = true ∧ Ext w W') ?_ (fun z W' hz => ⟨⟨i + 1, by rw [hz.1], by omega, hz.2.1, hz.2.2⟩, by omega⟩)
   refine rdE eW hy fun q => (St.start W).newO fun b8 w4 S4 e4 => S4.aggSt 0 rfl rfl rfl rfl fun w5 S5 u5 => S5.ld 0 rfl (x := y.2.2.1) rfl ?_
   refine sloop_r (fun z V => ∃ j : Nat, z = (((szs A + putsz e (es.take i) + szs (prs e (x.put.take j)) : Nat) : Int), (j : Int), ()) ∧ j ≤ x.put.length ∧ (x.put.take j).all (fun a => sz e a != 0) = true ∧ Ext w V) (fun z _ => ((x.put.length : Int) - z.2.1).toNat) ⟨0, by simp [prs, szs_nil], Nat.zero_le _, rfl, eW.trans S5.upd⟩ ?_
   rintro _ V ⟨j, rfl, hj, hall, eV⟩
   dsimp only
   refine sif_r (fun hc => ?_) (fun hc => ?_)
   ·simp only [decide_eq_true_eq] at hc
    obtain ⟨v, hv⟩ : ∃ v, x.put[j]? = some v := ⟨_, List.getElem?_eq_getElem (by omega)⟩
    have ewj : IntKind.wrap .i64 ((j : Int) + 1) = ((j + 1 : Nat) : Int) := by rw [wrap64 (by omega) (by omega)]; omega
    have hstep := szs_prs_take e x.put hv
    have h4 := hsm j
    have h5 := sz_le e v
    refine ix_ld (c := .int .i64) (xs := x.put) (hput.ext eV) (by omega) (x := v) (by rw [Int.toNat_natCast]; exact hv) fun q2 => (h.ext eV).enc (size_call fun w6 e6 => ?_)
    refine sif_r (fun hc => ?_) (fun hc => ?_)
    ·simp only [beq_iff_eq] at hc
     have hno : fitsB e es = false := by
      unfold fitsB
      rw [Bool.eq_false_iff]
      intro hall
      have h1 := List.all_eq_true.1 hall x (List.mem_of_getElem? hx)
      have h2 := List.all_eq_true.1 h1 v (List.mem_of_getElem? hv)
      simp at h2; omega
     have := hK w6 (eV.trans e6)
     rw [if_pos hno] at this
     exact this
    ·simp only [beq_eq_false_iff_ne, ne_eq] at hc
     have ewb : IntKind.wrap .i64 (((szs A + putsz e (es.take i) + szs (prs e (x.put.take j)) : Nat) : Int) + ((sz e v : Nat) : Int)) = ((szs A + putsz e (es.take i) + szs (prs e (x.put.take (j + 1))) : Nat) : Int) := by rw [wrap64 (by omega) (by omega)]; omega
     rw [ewj, ewb]
     refine ⟨⟨j + 1, rfl, by omega, ?_, eV.trans e6⟩, by omega⟩
     rw [List.take_add_one, hv, List.all_append, hall]
     simp; omega
   ·simp only [decide_eq_false_iff_not] at hc
    have hjl : j = x.put.length := by omega
    subst hjl
    rw [List.take_length] at hall
    refine ⟨?_, ?_, eV⟩
    ·rw [List.take_length, hst]; congr 2; omega
    ·rw [tk1 hx, fitsB_app, hf, Bool.true_and]
     unfold fitsB
     simp only [List.all_cons, List.all_nil, Bool.and_true]
     exact hall
  ·simp only [decide_eq_false_iff_not] at hc
   have : es.take i = es := List.take_of_length_le (by omega)
   rw [this] at hf ⊢
   exact ⟨rfl, hf, eW⟩
 rintro _ w4 ⟨rfl, hf, e4⟩
 rw [if_neg (by rw [hf]; decide)] at hK
 have pa := pl es.length (Nat.le_refl _)
 rw [List.take_length] at pa
 have gl := gone_le (A := A) (es := es) (a := 0) (Int.le_refl _) hr
 have g_take : ∀ i, goneE A (es.take i) ≤ goneE A es := fun i => by
  conv => rhs; rw [← List.take_append_drop i es]
  rw [goneE_app]; omega
 refine join_r (fun x W => x = (((szs A + putsz e es - goneE A es : Nat) : Int), ()) ∧ Ext w W) ?_ ?_
 ·refine sloop_r (fun x W => ∃ i : Nat, x = (((szs A + putsz e es - goneE A (es.take i) : Nat) : Int), (i : Int), ()) ∧ i ≤ es.length ∧ Ext w W) (fun x _ => ((es.length : Int) - x.2.1).toNat) ⟨0, rfl, Nat.zero_le _, e4⟩ ?_
  rintro _ W ⟨i, rfl, hi, eW⟩
  dsimp only
  refine sif_r (fun hc => ?_) (fun hc => ?_)
  ·simp only [decide_eq_true_eq] at hc
   obtain ⟨y, x, hy, hx⟩ := get i (by omega)
   obtain ⟨y1, y2, _⟩ := hE.each i y x hy hx
   obtain ⟨_, r2, r3, r4, _⟩ := rngs_get hr hx
   obtain ⟨f, hf'⟩ : ∃ f : Nat, x.f = (f : Int) := ⟨x.f.toNat, by omega⟩
   obtain ⟨t, ht'⟩ : ∃ t : Nat, x.t = (t : Int) := ⟨x.t.toNat, by omega⟩
   have hst : goneE A (es.take (i + 1)) = goneE A (es.take i) + (szs (A.take t) - szs (A.take f)) := by
    rw [tk1 hx, goneE_app]
    simp only [goneE, hf', ht', Int.toNat_natCast]; omega
   have gt := g_take (i + 1)
   have gt0 := g_take i
   have sft := szs_take_le A (i := f) (j := t) (by omega)
   have sta := szs_all_le A t
   rw [ewi i (by omega)]
   refine join_r (fun z W' => z = (((szs A + putsz e es - goneE A (es.take (i + 1)) : Nat) : Int), ()) ∧ Ext w W') ?_ (fun z W' hz => ⟨⟨i + 1, by rw [hz.1], by omega, hz.2⟩, by omega⟩)
   refine rdE eW hy fun q => (St.start W).newO fun b8 w5 S5 e5 => S5.aggSt 0 rfl rfl rfl rfl fun w6 S6 u6 => ?_
   have S6 : St (fun _ => False) W w6 [(b8, edO y.1 y.2.1 y.2.2.1)] := S6
   rw [y1, y2, hf', ht'] at S6
   refine S6.ld 0 rfl (x := (t : Int)) rfl (S6.ld 0 rfl (x := (f : Int)) rfl ?_)
   refine sif_r (fun hc => ?_) (fun hc => ?_)
   ·refine S6.drew fun w7 S7 e7 _ => S7.ld 0 rfl (x := (t : Int)) rfl (S7.ld 0 rfl (x := (f : Int)) rfl ?_)
    refine ahead_call (h.ext (eW.trans S7.upd)) (by rw [← hA]; omega) fun w8 e8 => ?_
    have S8 := S7.ext e8
    refine S8.keep 0 rfl (v := .int .i64 (f : Int)) rfl (ahead_call (h.ext (eW.trans S8.upd)) (by rw [← hA]; omega) fun w9 e9 => ?_)
    rw [← hA]
    have q1 : (smT (msr (A.take t))).2.1 = ((szs (A.take t) : Nat) : Int) := by show (((msr _).bytes : Nat) : Int) = _; rw [msr_bytes (by rw [hA]; exact (aOf_posd e M).take t)]
    have q2 : (smT (msr (A.take f))).2.1 = ((szs (A.take f) : Nat) : Int) := by show (((msr _).bytes : Nat) : Int) = _; rw [msr_bytes (by rw [hA]; exact (aOf_posd e M).take f)]
    rw [q1, q2]
    refine ⟨?_, eW.trans (S8.ext e9).upd⟩
    rw [wrap64 (a := ((szs (A.take t) : Nat) : Int) - ((szs (A.take f) : Nat) : Int)) (by omega) (by omega), wrap64 (by omega) (by omega)]
    congr 1; omega
   ·simp only [decide_eq_false_iff_not, gt_iff_lt] at hc
    have : f = t := by omega
    subst this
    refine ⟨?_, eW.trans S6.upd⟩
    congr 2; omega
  ·simp only [decide_eq_false_iff_not] at hc
   have : es.take i = es := List.take_of_length_le (by omega)
   rw [this]
   exact ⟨rfl, eW⟩
 rintro _ w5 ⟨rfl, e5⟩
 simp only [nn_eqT, addr_add]
 refine ld_of (x := (lim : Int)) (h.ext e5).lim_ (sif_r (fun hc => ?_) (fun hc => ?_))
 ·simp only [decide_eq_true_eq, gt_iff_lt] at hc
  have := hK w5 e5
  rw [if_pos (by omega)] at this
  exact this
 ·simp only [decide_eq_false_iff_not, gt_iff_lt] at hc
  have := hK w5 e5
  rw [if_neg (by omega)] at this
  exact this
set_option maxHeartbeats 1000000 in
theorem changeG_call {s : Sl} {ty : TypeId} {ys : List (Cells.T c103)} {es : List LEd} (h : Txt w p e lim na O M) (hE : EdIn w s ty ys es) (hs1 : szs (aOf e M) ≤ lim) (hsep : ∀ k, s.blk k → ¬ O k) (hsp : ∀ (i : Nat) y, ys[i]? = some y → ∀ k, y.2.2.1.blk k → ¬ O k) (hna : na + 200000 < 2 ^ 40) {K : Int → World → Prop}
  (hno : ∀ c w', c ≠ 0 → refuseP e lim (aOf e M) es = c → Ext w w' → K c w')
  (hyes : refuseP e lim (aOf e M) es = 0 → ∀ O' M' w', Txt w' p e lim (na + putsz e es) O' M' → aOf e M' = applyE e (aOf e M) es → szs (aOf e M') ≤ lim → Upd (Wr w O) w w' → (∀ k, O k → O' k) → (∀ k, O' k → O k ∨ w.heap.size ≤ k) → K 0 w') :
  callT Tryz.prog 34 #[.pointer (some (at0 p)), .slice s.a s.len s.cap] (.one (.one (.int .i64))) K w := by
 refine F34_calls ?_
 unfold F34
 have lims := h.lims; have hsz := h.sz
 have hyl : ys.length = s.len := SlIn.lenR (cs := c103) hE.row (by decide)
 have hel := hE.len
 refine refuseG_call h hE fun w1 e1 => ?_
 refine sif_r (fun hc => hno _ w1 (by simpa using hc) rfl e1) (fun hc => ?_)
 have h0 : refuseP e lim (aOf e M) es = 0 := by simpa using hc
 have yes := hyes h0
 obtain ⟨A, hA⟩ : ∃ A, A = aOf e M := ⟨_, rfl⟩
 rw [← hA] at h0 yes hs1
 unfold refuseP at h0
 split at h0
 ·cases h0
 rename_i few2
 split at h0
 ·cases h0
 rename_i hr
 split at h0
 ·cases h0
 rename_i hf
 split at h0
 ·cases h0
 rename_i hroom
 have hr : rngs A.length 0 es = true := by simpa using hr
 have hf : fitsB e es = true := by simpa using hf
 have gl := gone_le (A := A) (es := es) (a := 0) (Int.le_refl _) hr
 have fin := apply_szs (e := e) (A := A) (es := es) (a := 0) (Int.le_refl _) (by omega) hr
 have pd : ∀ m, putsz e (es.drop m) ≤ putsz e es := fun m => by
  conv => rhs; rw [← List.take_append_drop m es]
  rw [putsz_app]; omega
 have ew0 : IntKind.wrap .i64 ((s.len : Int) - 1) = (es.length : Int) - 1 := by rw [wrap64 (by omega) (by omega)]; omega
 rw [ew0]
 have hlow := h.own
 refine join_r (fun _ W => ∃ O' M', Txt W p e lim (na + putsz e es) O' M' ∧ aOf e M' = applyE e A es ∧ Upd (Wr w O) w W ∧ (∀ k, O k → O' k) ∧ (∀ k, O' k → O k ∨ w.heap.size ≤ k)) ?_ (fun _ W ⟨O', M', g1, g2, g3, g4, g5⟩ => yes O' M' W g1 g2 (by rw [g2]; omega) g3 g4 g5)
 refine sloop_r (fun x W => ∃ j : Nat, x = ((j : Int) - 1, ()) ∧ j ≤ es.length ∧ ∃ O' M', Txt W p e lim (na + putsz e (es.drop j)) O' M' ∧ aOf e M' = applyE e A (es.drop j) ∧ Upd (Wr w O) w W ∧ (∀ k, O k → O' k) ∧ (∀ k, O' k → O k ∨ w.heap.size ≤ k)) (fun x _ => (x.1 + 1).toNat) ⟨es.length, rfl, Nat.le_refl _, O, M, by rw [List.drop_length]; exact h.ext e1, by rw [List.drop_length, applyE, hA], Upd.of_ext e1, fun k hk => hk, fun k hk => .inl hk⟩ ?_
 rintro _ W ⟨j, rfl, hj, O', M', tx, ha, u, o1, o2⟩
 dsimp only
 refine sif_r (fun hc => ?_) (fun hc => ?_)
 ·simp only [decide_eq_true_eq, ge_iff_le] at hc
  obtain ⟨m, rfl⟩ : ∃ m, j = m + 1 := ⟨j - 1, by omega⟩
  obtain ⟨x, hx⟩ : ∃ x, es[m]? = some x := ⟨_, List.getElem?_eq_getElem (by omega)⟩
  obtain ⟨y, hy⟩ : ∃ y, ys[m]? = some y := ⟨_, List.getElem?_eq_getElem (by omega)⟩
  obtain ⟨y1, y2, ⟨tp, hput⟩, hpl⟩ := hE.each m y x hy hx
  obtain ⟨_, r2, r3, r4, r5⟩ := rngs_get hr hx
  obtain ⟨f, hf'⟩ : ∃ f : Nat, x.f = (f : Int) := ⟨x.f.toNat, by omega⟩
  obtain ⟨t, ht'⟩ : ∃ t : Nat, x.t = (t : Int) := ⟨x.t.toNat, by omega⟩
  have hpl2 : x.put.length = y.2.2.1.len := by have := hput.len1; rwa [List.length_map] at this
  have hd : es.drop m = x :: es.drop (m + 1) := by
   have hl := (List.getElem?_eq_some_iff.1 hx).1
   rw [List.drop_eq_getElem_cons hl]
   rw [List.getElem?_eq_getElem hl] at hx
   cases hx; rfl
  have rm : rngs A.length x.f (es.drop m) = true := by
   rw [hd, rngs, Bool.and_eq_true, decide_eq_true_eq]
   exact ⟨⟨Int.le_refl _, r3, r4⟩, r5⟩
  have ap := apply_szs (e := e) (A := A) (es := es.drop m) (a := x.f) (by omega) (by omega) rm
  have hd1 := apply_head (e := e) (A := A) (es := es.drop (m + 1)) (a := x.t) (by omega) r4 r5
  have ape : applyE e A (es.drop m) = (applyE e A (es.drop (m + 1))).take f ++ prs e x.put ++ (applyE e A (es.drop (m + 1))).drop t := by
   rw [hd, applyE, hf', ht', Int.toNat_natCast, Int.toNat_natCast]
  have pe : putsz e (es.drop m) = putsz e (es.drop (m + 1)) + szs (prs e x.put) := by rw [hd, putsz]; omega
  have p1 := pd m
  have p2 := pd (m + 1)
  have fit : Fits e x.put := fun a ha => by
   have h1 := List.all_eq_true.1 hf x (List.mem_of_getElem? hx)
   have h2 := List.all_eq_true.1 h1 a ha
   simpa using h2
  have hbl := bts_len fit
  have hput2 : x.put.length ≤ szs (prs e x.put) := by
   have : (prs e x.put).length ≤ szs (prs e x.put) := szs_ge fun z hz => by
    obtain ⟨a, ha, rfl⟩ := List.mem_map.1 hz
    have := fit a ha
    show 1 ≤ sz e a
    omega
   unfold prs at this ⊢
   rwa [List.length_map] at this
  have em : ((m + 1 : Nat) : Int) - 1 = (m : Int) := by omega
  rw [em]
  have ewm : IntKind.wrap .i64 ((m : Int) - 1) = (m : Int) - 1 := by rw [wrap64 (by omega) (by omega)]
  rw [ewm]
  have rowW := hE.row.upd u fun k hk hq => hsep k hk hq.1
  have putW := hput.upd u fun k hk hq => hsp m y hy k hk hq.1
  refine join_r (fun _ W' => ∃ O' M', Txt W' p e lim (na + putsz e (es.drop m)) O' M' ∧ aOf e M' = applyE e A (es.drop m) ∧ Upd (Wr w O) w W' ∧ (∀ k, O k → O' k) ∧ (∀ k, O' k → O k ∨ w.heap.size ≤ k)) ?_ (fun _ W' hW => ⟨⟨m, rfl, by omega, hW⟩, by omega⟩)
  refine ix_lds (cs := c103) (xs := ys) rowW (by decide) (by omega) (x := y) (by rw [Int.toNat_natCast]; exact hy) fun q => (St.start W).newO fun b8 w2 S2 e2 => S2.aggSt 0 rfl rfl rfl rfl fun w3 S3 u3 => ?_
  have S3 : St (fun _ => False) W w3 [(b8, edO y.1 y.2.1 y.2.2.1)] := S3
  rw [y1, y2, hf', ht'] at S3
  refine join_r (fun z W' => z = (decide (f < t ∨ 0 < x.put.length), ()) ∧ w3 = W') ?_ ?_
  ·refine S3.ld 0 rfl (x := (f : Int)) rfl (S3.ld 0 rfl (x := (t : Int)) rfl (sif_r (fun hc => ⟨tupb ?_, rfl⟩) (fun hc => S3.ld 0 rfl (x := y.2.2.1) rfl ⟨tupb ?_, rfl⟩)))
   all_goals simp only [decide_eq_true_eq, decide_eq_false_iff_not, true_iff, gt_iff_lt] at *
   all_goals omega
  rintro _ _ ⟨rfl, rfl⟩
  have x3 := S3.upd
  have u3' := u.trans (Upd.of_ext x3)
  refine sif_r (fun hc => ?_) (fun hc => ?_)
  ·refine S3.ld 0 rfl (x := (f : Int)) rfl (S3.ld 0 rfl (x := (t : Int)) rfl (S3.ld 0 rfl (x := y.2.2.1) rfl ?_))
   refine treplace_call (tx.ext x3) (by omega) (by rw [ha]; omega) (putW.ext x3) (fun k hk hO => ?_) fit (by omega) (by omega) (by rw [ha, ← ape]; omega) fun O2 M2 w4 tx4 ea u4 g1 g2 => ?_
   ·rcases o2 k hO with hh | hh
    ·exact hsp m y hy k hk hh
    ·have := hput.blk_lt hk; omega
   ·refine ⟨O2, M2, ?_, by rw [ea, ha, ape], ?_, fun k hk => g1 k (o1 k hk), fun k hk => ?_⟩
    ·rw [pe, ← hbl, ← Nat.add_assoc]; exact tx4
    ·refine Upd.new u3' u4 fun k hk hq => ⟨(o2 k hq.1).elim id fun hh => by omega, fun c fr hn => ?_⟩
     exact hq.2 c fr (u3'.get hn fun hw => hw.2 c fr hn)
    ·rcases g2 k hk with hh | hh
     ·exact o2 k hh
     ·have := u3'.size; exact .inr (by omega)
  ·simp only [decide_eq_false_iff_not, not_or] at hc
   obtain rfl : f = t := by omega
   have hp0 : x.put = [] := List.length_eq_zero_iff.1 (by omega)
   refine ⟨O', M', ?_, ?_, u3', o1, o2⟩
   ·rw [pe, hp0]; exact tx.ext x3
   ·rw [ha, ape, hp0]; simp [prs]
 ·simp only [decide_eq_false_iff_not, ge_iff_le] at hc
  obtain rfl : j = 0 := by omega
  exact ⟨O', M', tx, ha, u, o1, o2⟩
end
end Go.Proofs.YtolhlldgnfbemaaGreat
namespace Go.Proofs.YtolhlldgnfbemaaGreat
open Go Go.Vx Go.ChangeShapes Go.WideShapes Go.RowKit Cdc
theorem Tryz.own : ownKnob Tryz.prog.godebug = none := by kernel_rfl
theorem Tryz.laidOut : laidOutB Tryz.prog = true := by kernel_rfl
theorem ui : Tryz.prog.underlying 3 = some (.int .i64) := i3_ok.und
theorem ub : Tryz.prog.underlying 5 = some (.int .u8) := i5_ok.und
theorem u4 : Tryz.prog.underlying 4 = some .bool := i4_ok.und
theorem uInts : Tryz.prog.underlying 37 = some (.slice 3) := i37_ok.und
theorem uBytes : Tryz.prog.underlying 22 = some (.slice 5) := i22_ok.und
theorem uEdits : Tryz.prog.underlying 69 = some (.slice 103) := by kernel_rfl
theorem uEditss : Tryz.prog.underlying 23 = some (.slice 69) := by kernel_rfl
theorem uAsks : Tryz.prog.underlying 24 = some (.slice 33) := by kernel_rfl
theorem ci : Tryz.prog.cellsOf 3 = 1 := by kernel_rfl
theorem cby : Tryz.prog.cellsOf 5 = 1 := by kernel_rfl
theorem bby : Tryz.prog.bytesOf 5 = 1 := by kernel_rfl
theorem cbo : Tryz.prog.cellsOf 4 = 1 := by kernel_rfl
theorem cbs : Tryz.prog.cellsOf 22 = 1 := by kernel_rfl
theorem cis : Tryz.prog.cellsOf 37 = 1 := by kernel_rfl
theorem ced : Tryz.prog.cellsOf 103 = 3 := by kernel_rfl
theorem ceds : Tryz.prog.cellsOf 69 = 1 := by kernel_rfl
theorem cess : Tryz.prog.cellsOf 23 = 1 := by kernel_rfl
theorem cas : Tryz.prog.cellsOf 24 = 1 := by kernel_rfl
theorem cask : Tryz.prog.cellsOf 33 = 7 := by kernel_rfl
theorem cmv : Tryz.prog.cellsOf 31 = 3 := by kernel_rfl
theorem clook : Tryz.prog.cellsOf 26 = 4 := by kernel_rfl
theorem sEdit : ∃ fs : Array Field, Tryz.prog.underlying 103 = some (.struct fs) ∧ fs.toList.map (fun f => (f.type, f.offset)) = [(3, 0), (3, 1), (37, 2)] := ⟨_, i103_ok.und, rfl⟩
theorem sMove : ∃ fs : Array Field, Tryz.prog.underlying 31 = some (.struct fs) ∧ fs.toList.map (fun f => (f.type, f.offset)) = [(3, 0), (3, 1), (3, 2)] := ⟨_, i31_ok.und, rfl⟩
theorem sAsk : ∃ fs : Array Field, Tryz.prog.underlying 33 = some (.struct fs) ∧ fs.toList.map (fun f => (f.type, f.offset)) = [(3, 0), (3, 1), (3, 2), (31, 3), (4, 6)] := ⟨_, i33_ok.und, rfl⟩
theorem sLook : ∃ fs : Array Field, Tryz.prog.underlying 26 = some (.struct fs) ∧ fs.toList.map (fun f => (f.type, f.offset)) = [(3, 0), (22, 1), (23, 2), (24, 3)] := ⟨_, i26_ok.und, rfl⟩
theorem rows_of2 {cs : List Cell} {β : Type} {Q : Cells.T cs → β → Prop} : ∀ (rows : List (List Value)), (∀ r ∈ rows, ∃ x y, r = Cells.vals cs x ∧ Q x y) → ∃ (xs : List (Cells.T cs)) (ys : List β), rows.flatten = flat cs xs ∧ xs.length = rows.length ∧ xs.length = ys.length ∧ ∀ (i : Nat) x y, xs[i]? = some x → ys[i]? = some y → Q x y
 | [], _ => ⟨[], [], rfl, rfl, rfl, fun i x y hx => by simp at hx⟩
 | r :: rs, h => by
  obtain ⟨x, y, hx, hq⟩ := h r List.mem_cons_self
  obtain ⟨xs, ys, h1, h2, h3, h4⟩ := rows_of2 rs fun r' hr' => h r' (List.mem_cons_of_mem _ hr')
  refine ⟨x :: xs, y :: ys, ?_, by simp [h2], by simp [h3], fun i x' y' hx' hy' => ?_⟩
  ·rw [List.flatten_cons, h1, hx]; rfl
  ·match i with
   | 0 => cases hx'; cases hy'; exact hq
   | i + 1 => exact h4 i x' y' (by simpa using hx') (by simpa using hy')
abbrev In64 (x : Int) : Prop := -(2 ^ 63) ≤ x ∧ x < 2 ^ 63
theorem wf64 {n : Int} (h : (Lit.int .i64 n).wf = true) : In64 n := by
 have h1 : IntKind.min .i64 = -9223372036854775808 := rfl
 have h2 : IntKind.max .i64 = 9223372036854775807 := rfl
 simp [Lit.wf, h1, h2] at h
 unfold In64
 omega
section
variable {H : Type} {enc : TypeId × Value → H} {W : World} {base fuel : Nat} {held : Bool}
abbrev bulk (d : DataW H) : Nat := Rows.uptoBulk d
theorem bulk_one (d : DataW H) : 1 ≤ bulk d := by
 unfold bulk
 cases d with
 | lit l => cases l <;> simp [Rows.uptoBulk]
 | nil => simp [Rows.uptoBulk]
 | ptr d => simp [Rows.uptoBulk]
 | slice elems spare => simp [Rows.uptoBulk]
 | agg parts => simp [Rows.uptoBulk]
 | iface t d => simp [Rows.uptoBulk]
 | map entries => simp [Rows.uptoBulk]
 | held h => simp [Rows.uptoBulk]
theorem bulk_part {d : DataW H} {l : List (DataW H)} (h : d ∈ l) : bulk d ≤ Rows.uptoBulkAll l := by
 induction l with
 | nil => cases h
 | cons x r ih =>
  simp only [Rows.uptoBulkAll]
  cases List.mem_cons.1 h with
  | inl e => subst e; show Rows.uptoBulk d ≤ _; omega
  | inr e => have := ih e; show Rows.uptoBulk d ≤ _; have : Rows.uptoBulk d ≤ Rows.uptoBulkAll r := this; omega
theorem bulk_len (l : List (DataW H)) : l.length ≤ Rows.uptoBulkAll l := by
 induction l with
 | nil => simp [Rows.uptoBulkAll]
 | cons x r ih => have := bulk_one x; unfold bulk at this; simp only [Rows.uptoBulkAll, List.length_cons]; omega
theorem open_rowsB {t e : TypeId} {sz : Nat} {cs : List Value} {x : DataW H × List MemPlace} (ht : Tryz.prog.underlying t = some (.slice e)) (hsz : Tryz.prog.cellsOf e = sz) (hpos : 0 < sz)
  (h : DataW.trod enc Tryz.prog W base (fun _ => true) held fuel t cs = some x) (hw : ∀ n ∈ x.1.weights Tryz.prog t, n ≤ reachBytes) :
  ∃ (s : Sl) (rows : List (List Value)), cs = [.slice s.a s.len s.cap] ∧ SlX W s sz rows.flatten ∧ rows.length = s.len ∧ s.len ≤ bulk x.1 ∧
   ∀ r ∈ rows, r.length = sz ∧ ∃ n y, DataW.trod enc Tryz.prog W base (fun _ => true) held n e r = some y ∧ (∀ k ∈ y.1.weights Tryz.prog e, k ≤ reachBytes) ∧ bulk y.1 ≤ bulk x.1 := by
 obtain ⟨s, rows, h1, h2, h3, h4, h6, h5⟩ := open_rowsM ht hsz hpos h hw
 refine ⟨s, rows, h1, h2, h3, ?_, fun r hr => ?_⟩
 ·rcases h6 with h6 | ⟨els, rst, hx, hl⟩
  ·omega
  ·have := bulk_len els
   rw [hx]
   show _ ≤ Rows.uptoBulk (.slice els rst)
   simp only [Rows.uptoBulk]; omega
 ·obtain ⟨a, n, y, b, c, els, rst, hx, hm⟩ := h5 r hr
  refine ⟨a, n, y, b, c, ?_⟩
  have := bulk_part hm
  rw [hx]
  show _ ≤ Rows.uptoBulk (.slice els rst)
  simp only [Rows.uptoBulk]; omega
theorem open_fields {t : TypeId} {fs : Array Field} {L : List (TypeId × Nat)} {cs : List Value} {x : DataW H × List MemPlace} (hu : Tryz.prog.underlying t = some (.struct fs)) (hfs : fs.toList.map (fun f => (f.type, f.offset)) = L)
  (h : DataW.trod enc Tryz.prog W base (fun _ => true) held fuel t cs = some x) (hw : ∀ n ∈ x.1.weights Tryz.prog t, n ≤ reachBytes) :
  ∃ n, ∀ (i : Nat) (t' o : Nat), L[i]? = some (t', o) → ∃ y, DataW.trod enc Tryz.prog W base (fun _ => true) held n t' ((cs.drop o).take (Tryz.prog.cellsOf t')) = some y ∧ (∀ k ∈ y.1.weights Tryz.prog t', k ≤ reachBytes) ∧ bulk y.1 ≤ bulk x.1 := by
 obtain ⟨xs, n, _, rfl, _, hxl, hall⟩ := DataW.trod_struct hu h
 refine ⟨n, fun i t' o hi => ?_⟩
 rw [← hfs, List.getElem?_map] at hi
 obtain ⟨f, hf, he⟩ := Option.map_eq_some_iff.1 hi
 cases he
 have hf' : fs[i]? = some f := by simpa using hf
 have h1 := hall i f hf'
 have hil : i < xs.length := by rw [hxl]; exact (Array.getElem?_eq_some_iff.1 hf').1
 rw [List.getElem?_eq_getElem hil] at h1
 refine ⟨xs[i], h1, fun k hk => hw k ?_, ?_⟩
 ·simp only [DataW.weights, hu]
  exact DataW.weights_mem_each (j := i) (t := f.type) (d := xs[i].1) (by rw [List.getElem?_map, hf]; rfl) (by rw [List.getElem?_map, List.getElem?_eq_getElem hil]; rfl) k hk
 ·have hm : xs[i].1 ∈ xs.map (·.1) := List.mem_map.2 ⟨xs[i], List.getElem_mem hil, rfl⟩
  have := bulk_part hm
  show _ ≤ Rows.uptoBulk (.agg (xs.map (·.1)))
  simp only [Rows.uptoBulk]; omega
theorem open_u8 {cs : List Value} {x : DataW H × List MemPlace} (h : DataW.trod enc Tryz.prog W base (fun _ => true) held fuel 5 cs = some x) : ∃ b : UInt8, cs = [.int .u8 (b.toNat : Int)] := by
 have : ∃ n, cs = [.int .u8 n] ∧ (Lit.int .u8 n).wf = true := by
  cases fuel with
  | zero => simp [DataW.trod] at h
  | succ m =>
   unfold DataW.trod at h
   rw [ub] at h
   split at h <;> simp_all
 obtain ⟨n, rfl, hn⟩ := this
 have hr : 0 ≤ n ∧ n < 256 := by
  have h1 : IntKind.min .u8 = 0 := rfl
  have h2 : IntKind.max .u8 = 255 := rfl
  simp [Lit.wf, h1, h2] at hn
  omega
 refine ⟨UInt8.ofNat n.toNat, ?_⟩
 have : (UInt8.ofNat n.toNat).toNat = n.toNat := by
  rw [UInt8.toNat_ofNat']
  exact Nat.mod_eq_of_lt (by omega)
 rw [this]
 congr 2
 omega
theorem open_ints {cs : List Value} {x : DataW H × List MemPlace} (h : DataW.trod enc Tryz.prog W base (fun _ => true) held fuel 37 cs = some x) (hw : ∀ n ∈ x.1.weights Tryz.prog 37, n ≤ reachBytes) :
  ∃ (s : Sl) (l : List Int), cs = [.slice s.a s.len s.cap] ∧ SlX W s 1 (iv l) ∧ l.length ≤ bulk x.1 ∧ ∀ n ∈ l, In64 n := by
 obtain ⟨s, rows, rfl, hs, hl, hby, hr⟩ := open_rowsB uInts ci (by decide) h hw
 obtain ⟨xs, h1, h2, h3⟩ := rows_of (cs := [.int .i64]) (Q := fun x => (Lit.int .i64 x.1).wf = true) rows (fun r hr' => by
  obtain ⟨_, n, y, hy, _⟩ := hr r hr'
  obtain ⟨k, rfl, hk⟩ := open_i64 ui hy
  exact ⟨(k, ()), rfl, hk⟩)
 refine ⟨s, xs.map (·.1), rfl, ?_, by rw [List.length_map, h2, hl]; exact hby, ?_⟩
 ·rw [h1] at hs
  have e : flat [.int .i64] xs = (xs.map (·.1)).map (Value.int .i64) := by
   simp only [flat, List.map_map, List.flatMap_def]
   clear h1 h2 h3 hs
   induction xs with
   | nil => rfl
   | cons x r ih => simp only [List.map_cons, List.flatten_cons, ih]; rfl
  rw [e] at hs; exact hs
 ·intro n hn
  obtain ⟨x, hx, rfl⟩ := List.mem_map.1 hn
  exact wf64 (h3 x hx)
theorem open_bytes {cs : List Value} {x : DataW H × List MemPlace} (h : DataW.trod enc Tryz.prog W base (fun _ => true) held fuel 22 cs = some x) (hw : ∀ n ∈ x.1.weights Tryz.prog 22, n ≤ reachBytes) :
  ∃ (s : Sl) (l : List UInt8), cs = [.slice s.a s.len s.cap] ∧ SlX W s 1 (bv l) ∧ l.length ≤ 2 ^ 47 := by
 obtain ⟨s, rows, rfl, hs, hl, hby, hr⟩ := open_rows uBytes cby (by decide) h hw
 obtain ⟨xs, ls, h1, h2, h3, h4⟩ := rows_of2 (cs := [.int .u8]) (β := UInt8) (Q := fun x y => x.1 = (y.toNat : Int)) rows (fun r hr' => by
  obtain ⟨_, n, y, hy, _⟩ := hr r hr'
  obtain ⟨b, rfl⟩ := open_u8 hy
  exact ⟨((b.toNat : Int), ()), b, rfl, rfl⟩)
 refine ⟨s, ls, rfl, ?_, ?_⟩
 ·rw [h1] at hs
  have e : flat [.int .u8] xs = bv ls := by
   clear h1 h2 hs
   induction xs generalizing ls with
   | nil =>
    cases ls with
    | nil => rfl
    | cons y r => simp at h3
   | cons x r ih =>
    cases ls with
    | nil => simp at h3
    | cons y q =>
     have h0 := h4 0 x y rfl rfl
     have := ih q (by simpa using h3) fun i x' y' hx hy => h4 (i + 1) x' y' (by simpa using hx) (by simpa using hy)
     simp only [flat, List.flatMap_cons] at this ⊢
     rw [this]
     obtain ⟨n, ⟨⟩⟩ := x
     dsimp only at h0
     subst h0
     rfl
  rw [e] at hs; exact hs
 ·rw [← h3, h2, hl]
  rw [bby] at hby
  unfold reachBytes at hby
  omega
theorem open_bool {cs : List Value} {x : DataW H × List MemPlace} (h : DataW.trod enc Tryz.prog W base (fun _ => true) held fuel 4 cs = some x) : ∃ b, cs = [.bool b] := by
 cases fuel with
 | zero => simp [DataW.trod] at h
 | succ m =>
  unfold DataW.trod at h
  rw [u4] at h
  split at h <;> simp_all
structure EdX (w : World) (s : Sl) (es : List LEd) : Prop where
 ex : ∃ ys : List (Cells.T c103), SlX w s 3 (flat c103 ys) ∧ ys.length = es.length ∧ ∀ (i : Nat) y x, ys[i]? = some y → es[i]? = some x → y.1 = x.f ∧ y.2.1 = x.t ∧ SlX w y.2.2.1 1 (iv x.put) ∧ x.put.length ≤ 1048576
 few : es.length ≤ 1048576
structure EdsX (w : World) (s : Sl) (L : List (List LEd)) : Prop where
 ex : ∃ ys : List Sl, SlX w s 1 (ys.map fun y => .slice y.a y.len y.cap) ∧ ys.length = L.length ∧ ∀ (i : Nat) y es, ys[i]? = some y → L[i]? = some es → EdX w y es
 few : L.length ≤ 1048576
structure LAsk where
 kind : Int
 at_ : Int
 b : Int
 mkd : Int
 count : Int
 arg : Int
 past : Bool
abbrev askT (a : LAsk) : Cells.T c33 := (a.kind, a.at_, a.b, a.mkd, a.count, a.arg, a.past, ())
structure AsksX (w : World) (s : Sl) (L : List LAsk) : Prop where
 row : SlX w s 7 (flat c33 (L.map askT))
 few : L.length ≤ 1048576
 i64 : ∀ a ∈ L, In64 a.kind ∧ In64 a.at_ ∧ In64 a.b ∧ In64 a.mkd ∧ In64 a.count ∧ In64 a.arg
structure LookX (w : World) (y : Cells.T c26) (enc : Int) (l : List UInt8) (L : List (List LEd)) (al : List LAsk) : Prop where
 e : y.1 = enc
 i64 : In64 enc
 bytes : SlX w y.2.1 1 (bv l)
 blen : l.length ≤ 2 ^ 47
 edits : EdsX w y.2.2.1 L
 asks : AsksX w y.2.2.2.1 al
theorem open_edit {cs : List Value} {x : DataW H × List MemPlace} (hl : cs.length = 3) (h : DataW.trod enc Tryz.prog W base (fun _ => true) held fuel 103 cs = some x) (hw : ∀ n ∈ x.1.weights Tryz.prog 103, n ≤ reachBytes) (hb : bulk x.1 ≤ 1048576) :
  ∃ (y : Cells.T c103) (o : LEd), cs = Cells.vals c103 y ∧ (y.1 = o.f ∧ y.2.1 = o.t ∧ SlX W y.2.2.1 1 (iv o.put) ∧ o.put.length ≤ 1048576) := by
 obtain ⟨fs, hu, hfs⟩ := sEdit
 obtain ⟨n, hall⟩ := open_fields hu hfs h hw
 obtain ⟨v0, v1, v2, rfl⟩ : ∃ v0 v1 v2, cs = [v0, v1, v2] := by
  match cs, hl with
  | [v0, v1, v2], _ => exact ⟨v0, v1, v2, rfl⟩
 obtain ⟨y0, h0, _⟩ := hall 0 _ _ rfl
 obtain ⟨y1, h1, _⟩ := hall 1 _ _ rfl
 obtain ⟨y2, h2, hw2, hb2⟩ := hall 2 _ _ rfl
 rw [ci] at h0 h1
 rw [cis] at h2
 obtain ⟨n0, e0, i0⟩ := open_i64 ui h0
 obtain ⟨n1, e1, i1⟩ := open_i64 ui h1
 obtain ⟨s2, l2, e2, g2, k2, _⟩ := open_ints h2 hw2
 simp at e0 e1 e2
 subst e0 e1 e2
 exact ⟨(n0, n1, s2, ()), ⟨n0, n1, l2⟩, rfl, rfl, rfl, g2, by dsimp only; omega⟩
theorem open_edits {cs : List Value} {x : DataW H × List MemPlace} (h : DataW.trod enc Tryz.prog W base (fun _ => true) held fuel 69 cs = some x) (hw : ∀ n ∈ x.1.weights Tryz.prog 69, n ≤ reachBytes) (hb : bulk x.1 ≤ 1048576) :
  ∃ (s : Sl) (es : List LEd), cs = [.slice s.a s.len s.cap] ∧ EdX W s es := by
 obtain ⟨s, rows, rfl, hs, hl, hby, hr⟩ := open_rowsB uEdits ced (by decide) h hw
 obtain ⟨xs, ls, h1, h2, h3, h4⟩ := rows_of2 (cs := c103) (β := LEd) (Q := fun y o => y.1 = o.f ∧ y.2.1 = o.t ∧ SlX W y.2.2.1 1 (iv o.put) ∧ o.put.length ≤ 1048576) rows (fun r hr' => by
  obtain ⟨hrl, n, y, hy, hwy, hby⟩ := hr r hr'
  exact open_edit hrl hy hwy (by omega))
 rw [h1] at hs
 exact ⟨s, ls, rfl, ⟨xs, hs, h3, h4⟩, by omega⟩
theorem open_editss {cs : List Value} {x : DataW H × List MemPlace} (h : DataW.trod enc Tryz.prog W base (fun _ => true) held fuel 23 cs = some x) (hw : ∀ n ∈ x.1.weights Tryz.prog 23, n ≤ reachBytes) (hb : bulk x.1 ≤ 1048576) :
  ∃ (s : Sl) (L : List (List LEd)), cs = [.slice s.a s.len s.cap] ∧ EdsX W s L := by
 obtain ⟨s, rows, rfl, hs, hl, hby, hr⟩ := open_rowsB uEditss ceds (by decide) h hw
 obtain ⟨xs, ls, h1, h2, h3, h4⟩ := rows_of2 (cs := [.sl]) (β := List LEd) (Q := fun y o => EdX W y.1 o) rows (fun r hr' => by
  obtain ⟨hrl, n, y, hy, hwy, hby⟩ := hr r hr'
  obtain ⟨s', es, rfl, he⟩ := open_edits hy hwy (by omega)
  exact ⟨(s', ()), es, rfl, he⟩)
 rw [h1] at hs
 have e : flat [.sl] xs = (xs.map (·.1)).map fun y => .slice y.a y.len y.cap := by
  simp only [flat, List.map_map, List.flatMap_def]
  clear h1 h2 h3 h4 hs
  induction xs with
  | nil => rfl
  | cons x r ih => simp only [List.map_cons, List.flatten_cons, ih]; rfl
 rw [e] at hs
 refine ⟨s, ls, rfl, ⟨xs.map (·.1), hs, by rw [List.length_map]; exact h3, fun i y es hy he => ?_⟩, by omega⟩
 rw [List.getElem?_map] at hy
 obtain ⟨z, hz, rfl⟩ := Option.map_eq_some_iff.1 hy
 exact h4 i z es hz he
theorem open_ask {cs : List Value} {x : DataW H × List MemPlace} (hl : cs.length = 7) (h : DataW.trod enc Tryz.prog W base (fun _ => true) held fuel 33 cs = some x) (hw : ∀ n ∈ x.1.weights Tryz.prog 33, n ≤ reachBytes) :
  ∃ (y : Cells.T c33) (o : LAsk), cs = Cells.vals c33 y ∧ (y = askT o ∧ In64 o.kind ∧ In64 o.at_ ∧ In64 o.b ∧ In64 o.mkd ∧ In64 o.count ∧ In64 o.arg) := by
 obtain ⟨fs, hu, hfs⟩ := sAsk
 obtain ⟨n, hall⟩ := open_fields hu hfs h hw
 obtain ⟨v0, v1, v2, v3, v4, v5, v6, rfl⟩ : ∃ v0 v1 v2 v3 v4 v5 v6, cs = [v0, v1, v2, v3, v4, v5, v6] := by
  match cs, hl with
  | [v0, v1, v2, v3, v4, v5, v6], _ => exact ⟨v0, v1, v2, v3, v4, v5, v6, rfl⟩
 obtain ⟨y0, h0, _⟩ := hall 0 _ _ rfl
 obtain ⟨y1, h1, _⟩ := hall 1 _ _ rfl
 obtain ⟨y2, h2, _⟩ := hall 2 _ _ rfl
 obtain ⟨y3, h3, hw3, _⟩ := hall 3 _ _ rfl
 obtain ⟨y4, h4, _⟩ := hall 4 _ _ rfl
 rw [ci] at h0 h1 h2
 rw [cmv] at h3
 rw [cbo] at h4
 obtain ⟨fs', hu', hfs'⟩ := sMove
 obtain ⟨n', hall'⟩ := open_fields hu' hfs' h3 hw3
 obtain ⟨z0, k0, _⟩ := hall' 0 _ _ rfl
 obtain ⟨z1, k1, _⟩ := hall' 1 _ _ rfl
 obtain ⟨z2, k2, _⟩ := hall' 2 _ _ rfl
 rw [ci] at k0 k1 k2
 obtain ⟨n0, e0, i0⟩ := open_i64 ui h0
 obtain ⟨n1, e1, i1⟩ := open_i64 ui h1
 obtain ⟨n2, e2, i2⟩ := open_i64 ui h2
 obtain ⟨n3, e3, i3⟩ := open_i64 ui k0
 obtain ⟨n4, e4, i4⟩ := open_i64 ui k1
 obtain ⟨n5, e5, i5⟩ := open_i64 ui k2
 obtain ⟨b6, e6⟩ := open_bool h4
 simp at e0 e1 e2 e3 e4 e5 e6
 subst e0 e1 e2 e3 e4 e5 e6
 exact ⟨_, ⟨n0, n1, n2, n3, n4, n5, b6⟩, rfl, rfl, wf64 i0, wf64 i1, wf64 i2, wf64 i3, wf64 i4, wf64 i5⟩
theorem open_asks {cs : List Value} {x : DataW H × List MemPlace} (h : DataW.trod enc Tryz.prog W base (fun _ => true) held fuel 24 cs = some x) (hw : ∀ n ∈ x.1.weights Tryz.prog 24, n ≤ reachBytes) (hb : bulk x.1 ≤ 1048576) :
  ∃ (s : Sl) (L : List LAsk), cs = [.slice s.a s.len s.cap] ∧ AsksX W s L := by
 obtain ⟨s, rows, rfl, hs, hl, hby, hr⟩ := open_rowsB uAsks cask (by decide) h hw
 obtain ⟨xs, ls, h1, h2, h3, h4⟩ := rows_of2 (cs := c33) (β := LAsk) (Q := fun y o => y = askT o ∧ In64 o.kind ∧ In64 o.at_ ∧ In64 o.b ∧ In64 o.mkd ∧ In64 o.count ∧ In64 o.arg) rows (fun r hr' => by
  obtain ⟨hrl, n, y, hy, hwy, hby⟩ := hr r hr'
  exact open_ask hrl hy hwy)
 have e : xs = ls.map askT := by
  refine List.ext_getElem? fun i => ?_
  rw [List.getElem?_map]
  rcases Nat.lt_or_ge i xs.length with u | u
  ·have a1 : xs[i]? = some xs[i] := List.getElem?_eq_getElem u
   have a2 : ls[i]? = some ls[i] := List.getElem?_eq_getElem (by omega)
   rw [a1, a2, (h4 i _ _ a1 a2).1]; rfl
  ·rw [List.getElem?_eq_none u, List.getElem?_eq_none (by omega)]; rfl
 rw [h1, e] at hs
 refine ⟨s, ls, rfl, hs, by omega, fun a ha => ?_⟩
 obtain ⟨i, hi⟩ := List.getElem?_of_mem ha
 have hil := (List.getElem?_eq_some_iff.1 hi).1
 exact (h4 i _ _ (List.getElem?_eq_getElem (by omega)) hi).2
theorem open_look {cs : List Value} {x : DataW H × List MemPlace} (hl : cs.length = 4) (h : DataW.trod enc Tryz.prog W base (fun _ => true) held fuel 26 cs = some x) (hw : ∀ n ∈ x.1.weights Tryz.prog 26, n ≤ reachBytes) (hb : bulk x.1 ≤ 1048576) :
  ∃ (y : Cells.T c26) (c : Int) (l : List UInt8) (L : List (List LEd)) (al : List LAsk), cs = Cells.vals c26 y ∧ LookX W y c l L al := by
 obtain ⟨fs, hu, hfs⟩ := sLook
 obtain ⟨n, hall⟩ := open_fields hu hfs h hw
 obtain ⟨v0, v1, v2, v3, rfl⟩ : ∃ v0 v1 v2 v3, cs = [v0, v1, v2, v3] := by
  match cs, hl with
  | [v0, v1, v2, v3], _ => exact ⟨v0, v1, v2, v3, rfl⟩
 obtain ⟨y0, h0, _⟩ := hall 0 _ _ rfl
 obtain ⟨y1, h1, hw1, hb1⟩ := hall 1 _ _ rfl
 obtain ⟨y2, h2, hw2, hb2⟩ := hall 2 _ _ rfl
 obtain ⟨y3, h3, hw3, hb3⟩ := hall 3 _ _ rfl
 rw [ci] at h0
 rw [cbs] at h1
 rw [cess] at h2
 rw [cas] at h3
 obtain ⟨n0, e0, i0⟩ := open_i64 ui h0
 obtain ⟨s1, l1, e1, g1, k1⟩ := open_bytes h1 hw1
 obtain ⟨s2, L2, e2, g2⟩ := open_editss h2 hw2 (by omega)
 obtain ⟨s3, L3, e3, g3⟩ := open_asks h3 hw3 (by omega)
 simp at e0 e1 e2 e3
 subst e0 e1 e2 e3
 exact ⟨(n0, s1, s2, s3, ()), n0, l1, L2, L3, rfl, ⟨rfl, wf64 i0, g1, k1, g2, g3⟩⟩
end
theorem trodAll_get {H : Type} {enc : TypeId × Value → H} {P : Program} {w : World} {base : Nat} {spare : Nat → Bool} {held : Bool} : ∀ {ts : List TypeId} {vs : List Value} {ds : List (DataW H)} {ps : List MemPlace}, DataW.TrodAll enc P w base spare held ts vs ds ps →
  vs.length = ts.length ∧ ds.length = ts.length ∧ ∀ (j : Nat) t v d, ts[j]? = some t → vs[j]? = some v → ds[j]? = some d → ∃ p, DataW.Trod enc P w base spare held t v d p
 | [], [], [], _, _ => ⟨rfl, rfl, fun j t v d h => by simp at h⟩
 | t :: ts, v :: vs, d :: ds, ps, ⟨p, q, h1, h2, e⟩ => by
  obtain ⟨a, b, c⟩ := trodAll_get h2
  refine ⟨by simp [a], by simp [b], fun j t' v' d' ht hv hd => ?_⟩
  match j with
  | 0 => cases ht; cases hv; cases hd; exact ⟨p, h1⟩
  | j + 1 => exact c j t' v' d' (by simpa using ht) (by simpa using hv) (by simpa using hd)
 | [], _ :: _, _, _, h => h.elim
 | [], [], _ :: _, _, h => h.elim
 | _ :: _, [], _, _, h => h.elim
 | _ :: _, _ :: _, [], _, h => h.elim
theorem list_1 {α : Type} (l : List α) (h : l.length = 1) : ∃ v0, l = [v0] := by
 match l, h with
 | [v0], _ => exact ⟨v0, rfl⟩
theorem weigh {H : Type} {ts : List TypeId} {ds : List (DataW H)} (h : (DataW.weightsEach Tryz.prog ts ds).all (· ≤ reachBytes) = true) (j : Nat) {t : TypeId} {d : DataW H} (ht : ts[j]? = some t) (hd : ds[j]? = some d) : ∀ n ∈ d.weights Tryz.prog t, n ≤ reachBytes := by
 intro n hn
 have := List.all_eq_true.1 h _ (DataW.weights_mem_each ht hd n hn)
 simpa using this
section
variable {H : Type} {enc : TypeId × Value → H} {W : World} {base : Nat}
theorem arg_look {v : Value} {d : DataW H} {p : List MemPlace} (hv : Value.okWide Tryz.prog W .any base 26 v) (h : DataW.Trod enc Tryz.prog W 0 (fun _ => true) true 26 v d p) (hw : ∀ n ∈ d.weights Tryz.prog 26, n ≤ reachBytes) (hb : bulk d ≤ 1048576) :
  ∃ (y : Cells.T c26) (c : Int) (l : List UInt8) (L : List (List LEd)) (al : List LAsk), v = .agg (Cells.vals c26 y).toArray ∧ LookX W y c l L al := by
 obtain ⟨fs, hu, _⟩ := sLook
 obtain ⟨cs, rfl, hsz⟩ := okWide_struct hu hv
 obtain ⟨n, hn⟩ := h
 rw [clook] at hsz
 obtain ⟨y, c, l, L, al, e, h1⟩ := open_look (cs := cs.toList) (by simpa using hsz) (by simpa [Value.cells] using hn) hw hb
 exact ⟨y, c, l, L, al, by rw [← e], h1⟩
end
theorem tsize : 150 ≤ Tryz.prog.types.size := of_decide_eq_true (by kernel_rfl)
theorem recLook : Tryz.prog.readableRec 26 = true := by kernel_rfl
theorem recs {t : TypeId} (h : t = 26) : Tryz.prog.readableRec t = true ∧ t < Tryz.prog.types.size := by
 have := tsize
 subst h
 exact ⟨recLook, Nat.lt_of_lt_of_le (by decide) this⟩
end Go.Proofs.YtolhlldgnfbemaaGreat
namespace Go.Proofs.YtolhlldgnfbemaaGreat
open Go Go.Vx
noncomputable def F4 (a0 : (Int × Sl × Sl × Sl × Unit)) (K : Bool → World → Prop) : World → Prop :=
 newO (.cells #[(.int .i64 a0.1), (.slice a0.2.1.a a0.2.1.len a0.2.1.cap), (.slice a0.2.2.1.a a0.2.2.1.len a0.2.2.1.cap), (.slice a0.2.2.2.1.a a0.2.2.2.1.len a0.2.2.2.1.cap)] 26) fun b1 =>
 lds c26 (at0 b1) fun (x2 : (Int × Sl × Sl × Sl × Unit)) =>
 callT Tryz.prog 11 #[(.agg (Cells.vals c26 x2).toArray)] (.tup [(.one .ptr), (.one .bool)]) fun (x3 : (Option Addr × Bool × Unit)) =>
 join (S := Bool × Unit) (fun J4 =>
 sif (!x3.2.1) (
 J4 (true, ())) (
 J4 ((Option.isNone x3.1), ()))) fun (s5 : Bool × Unit) =>
 sif s5.1 (
 K x3.2.1) (
 join (S := Unit) (fun J6 =>
 sloop (S := Int × Unit) (fun (s8 : Int × Unit) again9 =>
 ld (.sl) (⟨b1, 3, none⟩ : Addr) fun (x10 : Sl) =>
 sif (decide (s8.1 < ((x10.len : Nat) : Int))) (
 ld (.sl) (⟨b1, 3, none⟩ : Addr) fun (x11 : Sl) =>
 ix x11.a x11.len s8.1 fun p12 =>
 lds c33 (p12.add (scaled (Int.toNat s8.1) 7)) fun (x13 : (Int × Int × Int × Int × Int × Int × Bool × Unit)) =>
 newO (.cells #[(.int .i64 (0 : Int)), (.int .i64 (0 : Int)), (.int .i64 (0 : Int)), (.int .i64 (0 : Int)), (.int .i64 (0 : Int)), (.int .i64 (0 : Int)), (.bool false)] 33) fun b14 =>
 aggSt (at0 b14) (.agg (Cells.vals c33 x13).toArray) 7 <|
 ld (.int .i64) (⟨b14, 1, none⟩ : Addr) fun (x15 : Int) =>
 ld (.bool) (⟨b14, 6, none⟩ : Addr) fun (x16 : Bool) =>
 callT Tryz.prog 12 #[(.pointer x3.1), (.int .i64 x15), (.bool x16)] (.one (.one (.int .i64))) fun (x17 : Int) =>
 callT Tryz.prog 13 #[(.pointer x3.1), (.int .i64 x17)] (.tup [(.agg c36), (.one .sl), (.one .bool)]) fun (x18 : ((Int × Int × Int × Int × Unit) × Sl × Bool × Unit)) =>
 newO (.cells #[(.int .i64 (0 : Int)), (.int .i64 (0 : Int)), (.int .i64 (0 : Int)), (.int .i64 (0 : Int))] 36) fun b19 =>
 aggSt (at0 b19) (.agg (Cells.vals c36 x18.1).toArray) 4 <|
 sif (!x18.2.2.1) (
 K false) (
 ld (.int .i64) ((⟨b14, 3, none⟩ : Addr).add 1) fun (x20 : Int) =>
 callT Tryz.prog 17 #[(.slice x18.2.1.a x18.2.1.len x18.2.1.cap)] (.one (.one .sl)) fun (x21 : Sl) =>
 join (S := Int × Unit) (fun J22 =>
 sloop (S := Int × Int × Int × Unit) (fun (s24 : Int × Int × Int × Unit) again25 =>
 sif (decide (s24.2.2.1 < ((x21.len : Nat) : Int))) (
 join (S := Int × Int × Unit) (fun J26 =>
 join (S := Bool × Unit) (fun J28 =>
 drew <|
 ix x21.a x21.len s24.2.2.1 fun p30 =>
 ld (.int .i64) (p30.add (scaled (Int.toNat s24.2.2.1) 1)) fun (x31 : Int) =>
 ld (.int .i64) (at0 b19) fun (x32 : Int) =>
 sif (decide (x31 > (IntKind.wrap .i64 (x17 - x32)))) (
 ix x21.a x21.len s24.2.2.1 fun p33 =>
 ld (.int .i64) (p33.add (scaled (Int.toNat s24.2.2.1) 1)) fun (x34 : Int) =>
 sif (decide (x34 < ((x18.2.1.len : Nat) : Int))) (
 ix x21.a x21.len s24.2.2.1 fun p35 =>
 ld (.int .i64) (p35.add (scaled (Int.toNat s24.2.2.1) 1)) fun (x36 : Int) =>
 ix x18.2.1.a x18.2.1.len x36 fun p37 =>
 ld (.int .i64) (p37.add (scaled (Int.toNat x36) 1)) fun (x38 : Int) =>
 ld (.int .i64) ((⟨b14, 3, none⟩ : Addr).add 2) fun (x39 : Int) =>
 J28 ((x38 == x39), ())) (
 J28 (false, ()))) (
 J28 (false, ()))) fun (s29 : Bool × Unit) =>
 sif s29.1 (
 sif ((IntKind.wrap .i64 (s24.2.1 + (1 : Int))) == (if (9999 : Int) < (if (1 : Int) > x20 then (1 : Int) else x20) then (9999 : Int) else (if (1 : Int) > x20 then (1 : Int) else x20))) (
 ix x21.a x21.len s24.2.2.1 fun p40 =>
 ld (.int .i64) (p40.add (scaled (Int.toNat s24.2.2.1) 1)) fun (x41 : Int) =>
 J26 (x41, (IntKind.wrap .i64 (s24.2.1 + (1 : Int))), ())) (
 J26 (s24.1, (IntKind.wrap .i64 (s24.2.1 + (1 : Int))), ()))) (
 J26 (s24.1, s24.2.1, ()))) fun (s27 : Int × Int × Unit) =>
 again25 (s27.1, s27.2.1, (IntKind.wrap .i64 (s24.2.2.1 + (1 : Int))), ())) (
 J22 (s24.1, ()))) ((-1 : Int), (0 : Int), (0 : Int), ())) fun (s23 : Int × Unit) =>
 join (S := Int × Unit) (fun J42 =>
 sloop (S := Int × Int × Int × Unit) (fun (s44 : Int × Int × Int × Unit) again45 =>
 sif (decide (s44.2.2.1 ≥ (0 : Int))) (
 join (S := Int × Int × Unit) (fun J46 =>
 join (S := Bool × Unit) (fun J48 =>
 drew <|
 ix x21.a x21.len s44.2.2.1 fun p50 =>
 ld (.int .i64) (p50.add (scaled (Int.toNat s44.2.2.1) 1)) fun (x51 : Int) =>
 ld (.int .i64) (at0 b19) fun (x52 : Int) =>
 sif (decide (x51 < (IntKind.wrap .i64 (x17 - x52)))) (
 ix x21.a x21.len s44.2.2.1 fun p53 =>
 ld (.int .i64) (p53.add (scaled (Int.toNat s44.2.2.1) 1)) fun (x54 : Int) =>
 sif (decide (x54 ≥ (0 : Int))) (
 ix x21.a x21.len s44.2.2.1 fun p55 =>
 ld (.int .i64) (p55.add (scaled (Int.toNat s44.2.2.1) 1)) fun (x56 : Int) =>
 ix x18.2.1.a x18.2.1.len x56 fun p57 =>
 ld (.int .i64) (p57.add (scaled (Int.toNat x56) 1)) fun (x58 : Int) =>
 ld (.int .i64) ((⟨b14, 3, none⟩ : Addr).add 2) fun (x59 : Int) =>
 J48 ((x58 == x59), ())) (
 J48 (false, ()))) (
 J48 (false, ()))) fun (s49 : Bool × Unit) =>
 sif s49.1 (
 sif ((IntKind.wrap .i64 (s44.2.1 + (1 : Int))) == (if (9999 : Int) < (if (1 : Int) > x20 then (1 : Int) else x20) then (9999 : Int) else (if (1 : Int) > x20 then (1 : Int) else x20))) (
 ix x21.a x21.len s44.2.2.1 fun p60 =>
 ld (.int .i64) (p60.add (scaled (Int.toNat s44.2.2.1) 1)) fun (x61 : Int) =>
 J46 (x61, (IntKind.wrap .i64 (s44.2.1 + (1 : Int))), ())) (
 J46 (s44.1, (IntKind.wrap .i64 (s44.2.1 + (1 : Int))), ()))) (
 J46 (s44.1, s44.2.1, ()))) fun (s47 : Int × Int × Unit) =>
 again45 (s47.1, s47.2.1, (IntKind.wrap .i64 (s44.2.2.1 - (1 : Int))), ())) (
 J42 (s44.1, ()))) ((-1 : Int), (0 : Int), (IntKind.wrap .i64 (((x21.len : Nat) : Int) - (1 : Int))), ())) fun (s43 : Int × Unit) =>
 join (S := Bool × Unit) (fun J62 =>
 lds c33 (at0 b14) fun (x64 : (Int × Int × Int × Int × Int × Int × Bool × Unit)) =>
 lds c36 (at0 b19) fun (x65 : (Int × Int × Int × Int × Unit)) =>
 callT Tryz.prog 18 #[(.pointer x3.1), (.agg (Cells.vals c33 x64).toArray), (.int .i64 (7 : Int)), (.agg (Cells.vals c36 x65).toArray), (.int .i64 s23.1), (.int .i64 (0 : Int))] (.one (.one .bool)) fun (x66 : Bool) =>
 sif (!x66) (
 J62 (true, ())) (
 lds c33 (at0 b14) fun (x67 : (Int × Int × Int × Int × Int × Int × Bool × Unit)) =>
 lds c36 (at0 b19) fun (x68 : (Int × Int × Int × Int × Unit)) =>
 callT Tryz.prog 18 #[(.pointer x3.1), (.agg (Cells.vals c33 x67).toArray), (.int .i64 (8 : Int)), (.agg (Cells.vals c36 x68).toArray), (.int .i64 s43.1), (.int .i64 (0 : Int))] (.one (.one .bool)) fun (x69 : Bool) =>
 J62 ((!x69), ()))) fun (s63 : Bool × Unit) =>
 sif s63.1 (
 K false) (
 join (S := Bool × Unit) (fun J70 =>
 lds c33 (at0 b14) fun (x72 : (Int × Int × Int × Int × Int × Int × Bool × Unit)) =>
 lds c36 (at0 b19) fun (x73 : (Int × Int × Int × Int × Unit)) =>
 callT Tryz.prog 18 #[(.pointer x3.1), (.agg (Cells.vals c33 x72).toArray), (.int .i64 (9 : Int)), (.agg (Cells.vals c36 x73).toArray), (.int .i64 s23.1), (.int .i64 (-1 : Int))] (.one (.one .bool)) fun (x74 : Bool) =>
 sif (!x74) (
 J70 (true, ())) (
 lds c33 (at0 b14) fun (x75 : (Int × Int × Int × Int × Int × Int × Bool × Unit)) =>
 lds c36 (at0 b19) fun (x76 : (Int × Int × Int × Int × Unit)) =>
 callT Tryz.prog 18 #[(.pointer x3.1), (.agg (Cells.vals c33 x75).toArray), (.int .i64 (10 : Int)), (.agg (Cells.vals c36 x76).toArray), (.int .i64 s43.1), (.int .i64 (1 : Int))] (.one (.one .bool)) fun (x77 : Bool) =>
 J70 ((!x77), ()))) fun (s71 : Bool × Unit) =>
 sif s71.1 (
 K false) (
 again9 ((IntKind.wrap .i64 (s8.1 + (1 : Int))), ()))))) (
 J6 ())) ((0 : Int), ())) fun (s7 : Unit) =>
 K true)
noncomputable def h4 : Hint := (hS (hR 2) (hS (hR 7) (hS (hJ (1056964608, [(29, tB)]) (.region [] (.ops 3 (.split 26 (.skips 2 (hO 1)) (hO 3)))) (hC (hS (hR 2) hL) hL)) (hJ (24519928653854221733733552434404946937899825952790675428, []) (hS (hR 1) (.block (.loop 24519928653854221733733552434404946937899825952790675428 [(5, tI)] (hS (hS (hR 5) (hC hL hL)) (hS (.block (hS (hR 7) (hS (hR 7) (hS (hR 11) (hS (hS (hR 2) (hC (hS (hR 1) hL) hL)) (hS (hR 6) (hS (hR 3) (hS (hR 2) (hS (hR 2) (hJ (2596148429267376920777100745687040, [(14, tI)]) (hS (hR 1) (.block (.loop 2596148429267376920777100745687040 [(14, tI), (15, tI), (17, tI)] (hS (hS (hR 4) (hC hL hL)) (hJ (2596148429265052631023813342052352, [(14, tI), (15, tI)]) (.block (hJ (5070602398551734364551990214656, [(101, tB)]) (.region [0, 1, 2, 3, 4, 5, 6, 7, 8, 9, 10, 11, 12, 13, 14, 15, 16, 17, 18, 19, 20, 21, 22, 23, 24, 25, 26, 27, 28, 29, 30] (.ops 10 (.split 80 (.ops 9 (.split 89 (hO 12) (.skips 11 (hO 1)))) (.skips 7 (.ops 2 (.skips 11 (hO 1))))))) (hC (hS (hR 3) (hS (hR 3) (hC (hR 5) hL))) hL))) (hR 3)))))) (hJ (91343852333178836239301034630953423480331509760, [(13, tI)]) (hS (hR 4) (.block (.loop 91343852333160663200296162734253566743179239424 [(13, tI), (16, tI), (18, tI)] (hS (hS (hR 2) (hC hL hL)) (hJ (91343852332849125388784073076541736963425771520, [(13, tI), (16, tI)]) (.block (hJ (178405961255937986186056777955235126977757184, [(146, tB)]) (.region [0, 1, 2, 3, 4, 5, 6, 7, 8, 9, 10, 11, 12, 13, 14, 15, 16, 17, 18, 19, 20, 21, 22, 23, 24, 25, 26, 27, 28] (.ops 10 (.split 127 (.ops 7 (.split 134 (hO 12) (.skips 11 (hO 1)))) (.skips 5 (.ops 2 (.skips 11 (hO 1))))))) (hC (hS (hR 3) (hS (hR 3) (hC (hR 5) hL))) hL))) (hR 3)))))) (hS (hJ (1496486332774511406808185538399429044438946428223488, [(169, tB)]) (.region [] (.ops 7 (.split 162 (.skips 6 (hO 1)) (hO 7)))) (hC (hS (hR 1) hL) hL)) (hJ (24518432076177594889145311861136245464087698280013627392, [(183, tB)]) (.region [] (.ops 7 (.split 176 (.skips 6 (hO 1)) (hO 7)))) (hC (hS (hR 1) hL) hL)))))))))))))) (hR 3)))))) (hS (hR 1) hL)))))
theorem F4_calls {a0 : (Int × Sl × Sl × Sl × Unit)} {K : Bool → World → Prop} {w : World} (h : F4 a0 K w) : callT Tryz.prog 4 #[(.agg (Cells.vals c26 a0).toArray)] (.one (.one .bool)) K w := tied tabOk Tryz.func4 h4 [(.agg (Cells.vals c26 a0).toArray)] h
noncomputable def F11 (a0 : (Int × Sl × Sl × Sl × Unit)) (K : (Option Addr × Bool × Unit) → World → Prop) : World → Prop :=
 newO (.cells #[(.int .i64 a0.1), (.slice a0.2.1.a a0.2.1.len a0.2.1.cap), (.slice a0.2.2.1.a a0.2.2.1.len a0.2.2.1.cap), (.slice a0.2.2.2.1.a a0.2.2.2.1.len a0.2.2.2.1.cap)] 26) fun b1 =>
 callT Tryz.prog 33 #[] (.one (.one .bool)) fun (x2 : Bool) =>
 sif (!x2) (
 K (none, false, ())) (
 join (S := Bool × Unit) (fun J3 =>
 ld (.int .i64) (at0 b1) fun (x5 : Int) =>
 sif (decide (x5 < (1 : Int))) (
 J3 (true, ())) (
 ld (.int .i64) (at0 b1) fun (x6 : Int) =>
 sif (decide (x6 > (4 : Int))) (
 J3 (true, ())) (
 ld (.sl) (⟨b1, 1, none⟩ : Addr) fun (x7 : Sl) =>
 J3 ((decide (((x7.len : Nat) : Int) > (65536 : Int))), ())))) fun (s4 : Bool × Unit) =>
 sif s4.1 (
 K (none, true, ())) (
 drew <|
 ld (.int .i64) (at0 b1) fun (x8 : Int) =>
 ld (.sl) (⟨b1, 1, none⟩ : Addr) fun (x9 : Sl) =>
 rawT Tryz.prog (.one (.one .sl)) (Builtin.append_ #[22, 22] 22 #[(.slice none 0 0), (.slice x9.a x9.len x9.cap)]) fun (x10 : Sl) =>
 keep (fun w => w.cell? (at0 b1) = some (Cell.val (.int .i64) x8)) <|
 callT Tryz.prog 23 #[(.int .i64 x8), (.slice x10.a x10.len x10.cap), (.int .i64 (65536 : Int))] (.tup [(.one .ptr), (.one (.int .i64))]) fun (x11 : (Option Addr × Int × Unit)) =>
 join (S := Bool × Unit) (fun J12 =>
 sif (Option.isNone x11.1) (
 J12 (true, ())) (
 J12 ((x11.2.1 != (0 : Int)), ()))) fun (s13 : Bool × Unit) =>
 sif s13.1 (
 K (none, false, ())) (
 join (S := Unit) (fun J14 =>
 sloop (S := Int × Unit) (fun (s16 : Int × Unit) again17 =>
 ld (.sl) (⟨b1, 2, none⟩ : Addr) fun (x18 : Sl) =>
 sif (decide (s16.1 < ((x18.len : Nat) : Int))) (
 ld (.sl) (⟨b1, 2, none⟩ : Addr) fun (x19 : Sl) =>
 ix x19.a x19.len s16.1 fun p20 =>
 ld (.sl) (p20.add (scaled (Int.toNat s16.1) 1)) fun (x21 : Sl) =>
 callT Tryz.prog 35 #[(.slice x21.a x21.len x21.cap)] (.one (.one .sl)) fun (x22 : Sl) =>
 callT Tryz.prog 34 #[(.pointer x11.1), (.slice x22.a x22.len x22.cap)] (.one (.one (.int .i64))) fun (x23 : Int) =>
 again17 ((IntKind.wrap .i64 (s16.1 + (1 : Int))), ())) (
 J14 ())) ((0 : Int), ())) fun (s15 : Unit) =>
 K (x11.1, true, ()))))
noncomputable def h11 : Hint := (hS (hR 3) (hS (hS (hR 2) (hC (hS (hR 2) hL) hL)) (hS (hJ (8388096, [(22, tB)]) (.region [] (.ops 4 (.split 12 (.skips 3 (.ops 2 (.skips 4 (hO 1)))) (.ops 5 (.split 17 (.skips 4 (hO 1)) (hO 5)))))) (hC (hS (hR 2) hL) hL)) (hS (.region [0, 1, 2, 3, 4, 5, 6, 7, 8, 9, 10] (hO 11)) (hS (hJ (270582939648, [(37, tB)]) (.region [] (.ops 3 (.split 34 (.skips 2 (hO 1)) (hO 3)))) (hC (hS (hR 2) hL) hL)) (hJ (9006924376834112, []) (hS (hR 1) (.block (.loop 9006924376834112 [(6, tI)] (hS (hS (hR 5) (hC hL hL)) (hS (.block (hR 8)) (hR 3)))))) (hS (hR 3) hL)))))))
theorem F11_calls {a0 : (Int × Sl × Sl × Sl × Unit)} {K : (Option Addr × Bool × Unit) → World → Prop} {w : World} (h : F11 a0 K w) : callT Tryz.prog 11 #[(.agg (Cells.vals c26 a0).toArray)] (.tup [(.one .ptr), (.one .bool)]) K w := tied tabOk Tryz.func11 h11 [(.agg (Cells.vals c26 a0).toArray)] h
noncomputable def F13 (a0 : Option Addr) (a1 : Int) (K : ((Int × Int × Int × Int × Unit) × Sl × Bool × Unit) → World → Prop) : World → Prop :=
 newO (.cells #[(.int .i64 (0 : Int)), (.int .i64 (0 : Int)), (.int .i64 (0 : Int)), (.int .i64 (0 : Int))] 36) fun b1 =>
 callT Tryz.prog 20 #[(.pointer a0), (.int .i64 a1)] (.one (.one (.int .i64))) fun (x2 : Int) =>
 callT Tryz.prog 41 #[(.pointer a0), (.int .i64 x2)] (.tup [(.agg c36), (.one (.int .i64))]) fun (x3 : ((Int × Int × Int × Int × Unit) × Int × Unit)) =>
 newO (.cells #[(.int .i64 (0 : Int)), (.int .i64 (0 : Int)), (.int .i64 (0 : Int)), (.int .i64 (0 : Int))] 36) fun b4 =>
 aggSt (at0 b4) (.agg (Cells.vals c36 x3.1).toArray) 4 <|
 join (S := Bool × Unit) (fun J5 =>
 drew <|
 sif (x3.2.1 != (0 : Int)) (
 J5 (true, ())) (
 ld (.int .i64) (at0 b4) fun (x7 : Int) =>
 sif (decide (x7 < (0 : Int))) (
 J5 (true, ())) (
 ld (.int .i64) (⟨b4, 1, none⟩ : Addr) fun (x8 : Int) =>
 ld (.int .i64) (at0 b4) fun (x9 : Int) =>
 sif (decide (x8 < x9)) (
 J5 (true, ())) (
 ld (.int .i64) (⟨b4, 2, none⟩ : Addr) fun (x10 : Int) =>
 ld (.int .i64) (⟨b4, 1, none⟩ : Addr) fun (x11 : Int) =>
 sif (decide (x10 < x11)) (
 J5 (true, ())) (
 ld (.int .i64) (⟨b4, 2, none⟩ : Addr) fun (x12 : Int) =>
 callT Tryz.prog 37 #[(.pointer a0)] (.one (.one (.int .i64))) fun (x13 : Int) =>
 keep (fun w => w.cell? (⟨b4, 2, none⟩ : Addr) = some (Cell.val (.int .i64) x12)) <|
 J5 ((decide (x12 > x13)), ())))))) fun (s6 : Bool × Unit) =>
 sif s6.1 (
 lds c36 (at0 b4) fun (x14 : (Int × Int × Int × Int × Unit)) =>
 aggSt (at0 b1) (.agg (Cells.vals c36 x14).toArray) 4 <|
 lds c36 (at0 b1) fun (x15 : (Int × Int × Int × Int × Unit)) =>
 K (x15, ⟨none, 0, 0⟩, false, ())) (
 ld (.int .i64) (at0 b4) fun (x16 : Int) =>
 ld (.int .i64) (⟨b4, 1, none⟩ : Addr) fun (x17 : Int) =>
 callT Tryz.prog 25 #[(.pointer a0), (.int .i64 x16), (.int .i64 x17)] (.one (.one .sl)) fun (x18 : Sl) =>
 drew <|
 lds c36 (at0 b4) fun (x19 : (Int × Int × Int × Int × Unit)) =>
 ld (.int .i64) (⟨b4, 1, none⟩ : Addr) fun (x20 : Int) =>
 ld (.int .i64) (at0 b4) fun (x21 : Int) =>
 aggSt (at0 b1) (.agg (Cells.vals c36 x19).toArray) 4 <|
 keep (fun w => w.cell? (at0 b4) = some (Cell.val (.int .i64) x21)) <|
 keep (fun w => w.cell? (⟨b4, 1, none⟩ : Addr) = some (Cell.val (.int .i64) x20)) <|
 lds c36 (at0 b1) fun (x22 : (Int × Int × Int × Int × Unit)) =>
 K (x22, x18, (((x18.len : Nat) : Int) == (IntKind.wrap .i64 (x20 - x21))), ()))
noncomputable def h13 : Hint := (hS (hR 3) (hS (hR 11) (hS (hJ (70368743915520, [(45, tB)]) (.region [0, 1, 2, 3, 4, 5, 6, 7, 8, 9, 10, 11, 12, 13, 14, 15, 16, 17, 18, 19, 20, 21, 22, 23, 24, 25, 26, 27] (.ops 3 (.split 20 (.skips 3 (.ops 2 (.skips 5 (.ops 2 (.skips 5 (.ops 2 (.skips 5 (hO 1)))))))) (.ops 5 (.split 25 (.skips 5 (.ops 2 (.skips 5 (.ops 2 (.skips 5 (hO 1)))))) (.ops 7 (.split 32 (.skips 5 (.ops 2 (.skips 5 (hO 1)))) (.ops 7 (.split 39 (.skips 5 (hO 1)) (hO 6)))))))))) (hC (hS (hR 4) hL) hL)) (hS (hR 7) (hS (.region [0, 1, 2, 3, 4, 5, 6, 7, 8, 9, 10, 11, 12] (hO 13)) hL)))))
theorem F13_calls {a0 : Option Addr} {a1 : Int} {K : ((Int × Int × Int × Int × Unit) × Sl × Bool × Unit) → World → Prop} {w : World} (h : F13 a0 a1 K w) : callT Tryz.prog 13 #[(.pointer a0), (.int .i64 a1)] (.tup [(.agg c36), (.one .sl), (.one .bool)]) K w := tied tabOk Tryz.func13 h13 [(.pointer a0), (.int .i64 a1)] h
noncomputable def F18 (a0 : Option Addr) (a1 : (Int × Int × Int × Int × Int × Int × Bool × Unit)) (a2 : Int) (a3 : (Int × Int × Int × Int × Unit)) (a4 : Int) (a5 : Int) (K : Bool → World → Prop) : World → Prop :=
 newO (.cells #[(.int .i64 a1.1), (.int .i64 a1.2.1), (.int .i64 a1.2.2.1), (.int .i64 a1.2.2.2.1), (.int .i64 a1.2.2.2.2.1), (.int .i64 a1.2.2.2.2.2.1), (.bool a1.2.2.2.2.2.2.1)] 33) fun b1 =>
 newO (.cells #[(.int .i64 a3.1), (.int .i64 a3.2.1), (.int .i64 a3.2.2.1), (.int .i64 a3.2.2.2.1)] 36) fun b2 =>
 ld (.int .i64) (⟨b1, 1, none⟩ : Addr) fun (x3 : Int) =>
 ld (.int .i64) ((⟨b1, 3, none⟩ : Addr).add 1) fun (x4 : Int) =>
 ld (.int .i64) ((⟨b1, 3, none⟩ : Addr).add 2) fun (x5 : Int) =>
 ld (.bool) (⟨b1, 6, none⟩ : Addr) fun (x6 : Bool) =>
 callT Tryz.prog 16 #[(.pointer a0), (.int .i64 x3), (.agg #[(.int .i64 a2), (.int .i64 x4), (.int .i64 x5)]), (.bool x6)] (.tup [(.agg c43), (.one (.int .i64))]) fun (x7 : ((Int × Int × Int × Unit) × Int × Unit)) =>
 newO (.cells #[(.int .i64 (0 : Int)), (.int .i64 (0 : Int)), (.int .i64 (0 : Int))] 43) fun b8 =>
 aggSt (at0 b8) (.agg (Cells.vals c43 x7.1).toArray) 3 <|
 sif (decide (a4 < (0 : Int))) (
 K (x7.2.1 == (80 : Int))) (
 ld (.int .i64) (at0 b2) fun (x9 : Int) =>
 ld (.int .i64) (⟨b2, 1, none⟩ : Addr) fun (x10 : Int) =>
 callT Tryz.prog 25 #[(.pointer a0), (.int .i64 x9), (.int .i64 x10)] (.one (.one .sl)) fun (x11 : Sl) =>
 join (S := Int × Unit) (fun J12 =>
 sif (decide (a5 < (0 : Int))) (
 callT Tryz.prog 48 #[(.slice x11.a x11.len x11.cap), (.int .i64 a4)] (.one (.one (.int .i64))) fun (x14 : Int) =>
 J12 (x14, ())) (
 J12 (a4, ()))) fun (s13 : Int × Unit) =>
 join (S := Int × Unit) (fun J15 =>
 sif (decide (a5 > (0 : Int))) (
 callT Tryz.prog 49 #[(.slice x11.a x11.len x11.cap), (.int .i64 s13.1)] (.one (.one (.int .i64))) fun (x17 : Int) =>
 J15 (x17, ())) (
 J15 (s13.1, ()))) fun (s16 : Int × Unit) =>
 sif (x7.2.1 == (0 : Int)) (
 ld (.int .i64) (at0 b8) fun (x18 : Int) =>
 ld (.int .i64) (at0 b2) fun (x19 : Int) =>
 K (x18 == (IntKind.wrap .i64 (x19 + s16.1)))) (
 K false))
noncomputable def h18 : Hint := (hS (hR 3) (hS (hR 20) (hS (hS (hR 2) (hC (hS (hR 3) hL) hL)) (hS (hR 7) (hJ (272678883688464, [(4, tI)]) (hS (hR 2) (hC (hR 4) hL)) (hJ (8725724278030352, [(4, tI)]) (hS (hR 2) (hC (hR 4) hL)) (hS (.region [] (.ops 3 (.split 55 (hO 9) (.skips 7 (hO 2))))) hL)))))))
theorem F18_calls {a0 : Option Addr} {a1 : (Int × Int × Int × Int × Int × Int × Bool × Unit)} {a2 : Int} {a3 : (Int × Int × Int × Int × Unit)} {a4 : Int} {a5 : Int} {K : Bool → World → Prop} {w : World} (h : F18 a0 a1 a2 a3 a4 a5 K w) : callT Tryz.prog 18 #[(.pointer a0), (.agg (Cells.vals c33 a1).toArray), (.int .i64 a2), (.agg (Cells.vals c36 a3).toArray), (.int .i64 a4), (.int .i64 a5)] (.one (.one .bool)) K w := tied tabOk Tryz.func18 h18 [(.pointer a0), (.agg (Cells.vals c33 a1).toArray), (.int .i64 a2), (.agg (Cells.vals c36 a3).toArray), (.int .i64 a4), (.int .i64 a5)] h
noncomputable def F33  (K : Bool → World → Prop) : World → Prop :=
 newO (.cells #[(.int .u8 (97 : Int)), (.int .u8 (98 : Int)), (.int .u8 (99 : Int))] 5) fun b1 =>
 callT Tryz.prog 23 #[(.int .i64 (1 : Int)), (.slice (some (at0 b1)) 3 3), (.int .i64 (9 : Int))] (.tup [(.one .ptr), (.one (.int .i64))]) fun (x2 : (Option Addr × Int × Unit)) =>
 join (S := Bool × Unit) (fun J3 =>
 sif (Option.isNone x2.1) (
 J3 (true, ())) (
 J3 ((x2.2.1 != (0 : Int)), ()))) fun (s4 : Bool × Unit) =>
 sif s4.1 (
 K false) (
 callT Tryz.prog 16 #[(.pointer x2.1), (.int .i64 (0 : Int)), (.agg #[(.int .i64 (2 : Int)), (.int .i64 (0 : Int)), (.int .i64 (0 : Int))]), (.bool false)] (.tup [(.agg c43), (.one (.int .i64))]) fun (x5 : ((Int × Int × Int × Unit) × Int × Unit)) =>
 newO (.cells #[(.int .i64 (0 : Int)), (.int .i64 (0 : Int)), (.int .i64 (0 : Int))] 43) fun b6 =>
 aggSt (at0 b6) (.agg (Cells.vals c43 x5.1).toArray) 3 <|
 sif (x5.2.1 == (0 : Int)) (
 ld (.int .i64) (at0 b6) fun (x7 : Int) =>
 K (x7 == (1 : Int))) (
 K false))
noncomputable def h33 : Hint := (hS (hR 1) (hS (hR 7) (hS (hJ (64512, [(15, tB)]) (.region [] (.ops 3 (.split 12 (.skips 2 (hO 1)) (hO 3)))) (hC (hS (hR 1) hL) hL)) (hS (hR 9) (hS (.region [] (.ops 3 (.split 24 (hO 5) (.skips 3 (hO 2))))) hL)))))
theorem F33_calls {K : Bool → World → Prop} {w : World} (h : F33  K w) : callT Tryz.prog 33 #[] (.one (.one .bool)) K w := tied tabOk Tryz.func33 h33 [] h
noncomputable def F35 (a0 : Sl) (K : Sl → World → Prop) : World → Prop :=
 join (S := Sl × Unit) (fun J1 =>
 sloop (S := Sl × Int × Unit) (fun (s3 : Sl × Int × Unit) again4 =>
 sif (decide (s3.2.1 < ((a0.len : Nat) : Int))) (
 drew <|
 ix a0.a a0.len s3.2.1 fun p5 =>
 ld (.int .i64) (p5.add (scaled (Int.toNat s3.2.1) 3)) fun (x6 : Int) =>
 ix a0.a a0.len s3.2.1 fun p7 =>
 ld (.int .i64) ((p7.add (scaled (Int.toNat s3.2.1) 3)).add 1) fun (x8 : Int) =>
 ix a0.a a0.len s3.2.1 fun p9 =>
 ld (.sl) ((p9.add (scaled (Int.toNat s3.2.1) 3)).add 2) fun (x10 : Sl) =>
 rawT Tryz.prog (.one (.one .sl)) (Builtin.append_ #[37, 37] 37 #[(.slice none 0 0), (.slice x10.a x10.len x10.cap)]) fun (x11 : Sl) =>
 keep (fun w => w.cell? ((p7.add (scaled (Int.toNat s3.2.1) 3)).add 1) = some (Cell.val (.int .i64) x8)) <|
 keep (fun w => w.cell? (p5.add (scaled (Int.toNat s3.2.1) 3)) = some (Cell.val (.int .i64) x6)) <|
 newO (.cells #[(.int .i64 x6), (.int .i64 x8), (.slice x11.a x11.len x11.cap)] 103) fun b12 =>
 rawT Tryz.prog (.one (.one .sl)) (Builtin.append_ #[69, 69] 69 #[(.slice s3.1.a s3.1.len s3.1.cap), (.slice (some (at0 b12)) 1 1)]) fun (x13 : Sl) =>
 again4 (x13, (IntKind.wrap .i64 (s3.2.1 + (1 : Int))), ())) (
 J1 (s3.1, ()))) (⟨none, 0, 0⟩, (0 : Int), ())) fun (s2 : Sl × Unit) =>
 K s2.1
noncomputable def h35 : Hint := (hS (hR 1) (hS (hR 1) (hJ (2147483640, [(3, tS)]) (hS (hR 1) (.block (.loop 2147483640 [(3, tS), (4, tI)] (hS (hS (hR 4) (hC hL hL)) (hS (.block (.region [0, 1, 2, 3, 4, 5, 6, 7, 8, 9, 10, 11, 12, 13, 14, 15, 16, 17, 18, 19, 20] (hO 21))) (hR 3)))))) (hS (hR 2) hL))))
theorem F35_calls {a0 : Sl} {K : Sl → World → Prop} {w : World} (h : F35 a0 K w) : callT Tryz.prog 35 #[(.slice a0.a a0.len a0.cap)] (.one (.one .sl)) K w := tied tabOk Tryz.func35 h35 [(.slice a0.a a0.len a0.cap)] h
end Go.Proofs.YtolhlldgnfbemaaGreat
namespace Go.Proofs.YtolhlldgnfbemaaGreat
open Go Go.Vx Cdc Trx Gly Clu Lns Obx Mot
theorem eEdits : ElemOk Tryz.prog 69 103 3 40 := ElemOk.of (z := .agg #[.int .i64 0, .int .i64 0, .slice none 0 0]) i69_ok i103_ok rfl rfl rfl (by decide)
section
variable {w w' : World}
theorem able_call {K : Bool → World → Prop} (hK : ∀ w', Ext w w' → K true w') : callT Tryz.prog 33 #[] (.one (.one .bool)) K w := by
 refine F33_calls ?_
 unfold F33
 refine (St.start w).newO fun b1 w1 S1 e1 => ?_
 have hB : By w1 ⟨some (at0 b1), 3, 3⟩ [97, 98, 99] := SlIn.of_box (S1.at_ 0 rfl) (n := 3) (sz := 1) rfl
 refine open_call (e := .u8) (lim := 9) hB (by decide) (by decide) fun p O M w2 tx hA _ e2 _ => ?_
 have hA : atoms (aOf .u8 M) = [97, 98, 99] := by rw [hA]; kernel_rfl
 have ta : TxA w2 p [97, 98, 99] := ⟨_, _, _, _, _, tx, hA⟩
 refine join_r (fun x W => x = (false, ()) ∧ w2 = W) (sif_false ⟨rfl, rfl⟩) ?_
 rintro _ _ ⟨rfl, rfl⟩
 refine sif_false (mchars_call (kind := 2) (count := 0) (arg := 0) (x := 0) ta fun w3 e3 => ?_)
 rw [able_is]
 refine ((S1.ext e2).ext e3).newO fun b6 w4 S4 e4 => S4.aggSt 0 rfl rfl rfl rfl fun w5 S5 _ => ?_
 exact sif_true (S5.ld (off := 0) 0 rfl (x := 1) rfl (hK w5 S5.upd))
theorem ix_fX {c : Cell} {cs : List Cell} {s : Sl} {xs : List (Cells.T cs)} {n : Int} {j : Nat} {K : Addr → c.T → World → Prop} (h : SlX w s cs.length (flat cs xs)) (h0 : 0 ≤ n) {x : Cells.T cs} {y : c.T} (hx : xs[n.toNat]? = some x) (hy : (Cells.vals cs x)[j]? = some (c.val y))
  (hK : ∀ p, (∀ w', Ext w w' → w'.cell? ((p.add (scaled (Int.toNat n) cs.length)).add j) = some (c.val y)) → K p y w) :
  ix s.a s.len n (fun p => ld c ((p.add (scaled (Int.toNat n) cs.length)).add j) (K p)) w := by
 have hlt := (List.getElem?_eq_some_iff.1 hx).1
 have hjl : j < cs.length := by
  have := (List.getElem?_eq_some_iff.1 hy).1
  rwa [vals_len] at this
 have hl := h.lenR (by omega)
 obtain ⟨t, h⟩ := h.in_of (by omega)
 refine h.ix h0 (by omega) (by omega) fun b off ha hv => ?_
 have hc : w.cell? (((⟨b, off, none⟩ : Addr).add (scaled (Int.toNat n) cs.length)).add j) = some (c.val y) := by
  rw [addr_add, addr_add]
  have := hv j (c.val y) (by rw [flat_get cs xs _ j x hx hjl]; exact hy)
  simpa [scaled_eq] using this
 exact ld_of (x := y) hc (hK _ fun w' x' => cell_ext hc x')
theorem ix_fX0 {c : Cell} {cs : List Cell} {s : Sl} {xs : List (Cells.T cs)} {n : Int} {K : Addr → c.T → World → Prop} (h : SlX w s cs.length (flat cs xs)) (h0 : 0 ≤ n) {x : Cells.T cs} {y : c.T} (hx : xs[n.toNat]? = some x) (hy : (Cells.vals cs x)[0]? = some (c.val y))
  (hK : ∀ p, (∀ w', Ext w w' → w'.cell? (p.add (scaled (Int.toNat n) cs.length)) = some (c.val y)) → K p y w) :
  ix s.a s.len n (fun p => ld c (p.add (scaled (Int.toNat n) cs.length)) (K p)) w := by
 have hlt := (List.getElem?_eq_some_iff.1 hx).1
 have hjl : 0 < cs.length := by
  have := (List.getElem?_eq_some_iff.1 hy).1
  rwa [vals_len] at this
 have hl := h.lenR (by omega)
 obtain ⟨t, h⟩ := h.in_of (by omega)
 refine h.ix h0 (by omega) (by omega) fun b off ha hv => ?_
 have hc : w.cell? ((⟨b, off, none⟩ : Addr).add (scaled (Int.toNat n) cs.length)) = some (c.val y) := by
  rw [addr_add]
  have := hv 0 (c.val y) (by rw [flat_get cs xs _ 0 x hx hjl]; exact hy)
  simpa [scaled_eq] using this
 exact ld_of (x := y) hc (hK _ fun w' x' => cell_ext hc x')
set_option maxHeartbeats 400000 in
theorem own_call {s : Sl} {es : List LEd} (h : EdX w s es) {K : Sl → World → Prop} (hK : ∀ r ys w', EdIn w' r 103 ys es → (∀ k, r.blk k → w.heap.size ≤ k) → (∀ (i : Nat) y, ys[i]? = some y → ∀ k, y.2.2.1.blk k → w.heap.size ≤ k) → Ext w w' → K r w') :
  callT Tryz.prog 35 #[.slice s.a s.len s.cap] (.one (.one .sl)) K w := by
 refine F35_calls ?_
 unfold F35
 obtain ⟨ys0, hs, hyl, hy0⟩ := h.ex
 have few := h.few
 have hsl : ys0.length = s.len := SlX.lenR (cs := c103) hs (by decide)
 refine join_r (fun x W => ∃ ys, SlOwn W w.heap.size x.1 103 3 (flat c103 ys) ∧ ys.length = es.length ∧ (∀ (i : Nat) y z, ys[i]? = some y → es[i]? = some z → y.1 = z.f ∧ y.2.1 = z.t ∧ SlOwn W w.heap.size y.2.2.1 3 1 (iv z.put) ∧ z.put.length ≤ 1048576) ∧ Ext w W) ?_ ?_
 ·refine sloop_r (fun x W => ∃ (i : Nat) (ys : List (Cells.T c103)), i ≤ es.length ∧ x.2 = ((i : Int), ()) ∧ SlOwn W w.heap.size x.1 103 3 (flat c103 ys) ∧ ys.length = i ∧ (∀ (j : Nat) y z, ys[j]? = some y → es[j]? = some z → y.1 = z.f ∧ y.2.1 = z.t ∧ SlOwn W w.heap.size y.2.2.1 3 1 (iv z.put) ∧ z.put.length ≤ 1048576) ∧ Ext w W) (fun x _ => ((es.length : Int) - x.2.1).toNat) ⟨0, [], Nat.zero_le _, rfl, SlOwn.nil _ _ _ _, rfl, fun j y z hy => by simp at hy, Ext.refl w⟩ ?_
  rintro ⟨r, _⟩ W ⟨i, ys, hi, rfl, hr, hl, hys, eW⟩
  dsimp only at hr ⊢
  have hrl : ys.length = r.len := SlOwn.lenR (cs := c103) hr (by decide)
  refine sif_r (fun hc => ?_) (fun hc => ?_)
  ·simp only [decide_eq_true_eq] at hc
   obtain ⟨y, hy⟩ : ∃ y, ys0[i]? = some y := ⟨_, List.getElem?_eq_getElem (by omega)⟩
   obtain ⟨z, hz⟩ : ∃ z, es[i]? = some z := ⟨_, List.getElem?_eq_getElem (by omega)⟩
   obtain ⟨y1, y2, y3, y4⟩ := hy0 i y z hy hz
   have ew : IntKind.wrap .i64 ((i : Int) + 1) = ((i + 1 : Nat) : Int) := by rw [wrap64 (by omega) (by omega)]; omega
   rw [ew]
   refine drew_r fun w2 e2 _ => ?_
   have x2 := eW.trans e2
   have hyn : ys0[((i : Int)).toNat]? = some y := by rw [Int.toNat_natCast]; exact hy
   have hs2 := hs.ext x2
   refine ix_fX0 (c := .int .i64) (cs := c103) (xs := ys0) (y := y.1) hs2 (Int.natCast_nonneg i) hyn rfl fun q1 k1 => ?_
   refine ix_fX (c := .int .i64) (cs := c103) (xs := ys0) (j := 1) (y := y.2.1) hs2 (Int.natCast_nonneg i) hyn rfl fun q2 k2 => ?_
   refine ix_fX (c := .sl) (cs := c103) (xs := ys0) (j := 2) (y := y.2.2.1) hs2 (Int.natCast_nonneg i) hyn rfl fun q3 k3 => ?_
   have hpl : z.put.length = y.2.2.1.len := by have := y3.len1; rwa [List.length_map] at this
   refine append_rx eInts eInts.ts_ (B := w.heap.size) (s := ⟨none, 0, 0⟩) (x := y.2.2.1) (vs := []) (us := iv z.put) (SlOwn.nil w2 w.heap.size 3 1) (y3.ext x2) (fun v hv => by obtain ⟨n, _, rfl⟩ := List.mem_map.1 hv; rfl) (by
    show (0 + y.2.2.1.len + (0 + y.2.2.1.len) / 4 + 512) * 8 ≤ 2 ^ 48
    omega) (by have := x2.size; omega) fun s3 w3 o3 l3 u3 b3 => ?_
   have e3 : Ext w2 w3 := (Ext.refl w2).step u3 fun k hk => by obtain ⟨_, hp, _⟩ := hk; cases hp
   have x3 := x2.trans e3
   rw [List.nil_append] at o3
   refine keep_r (k2 w3 e3) (keep_r (k1 w3 e3) (newO_r fun b12 w4 e4 n4 hb4 _ => ?_))
   have x4 := x3.trans e4
   have hbox : SlX w4 ⟨some (at0 b12), 1, 1⟩ 3 (flat c103 [(y.1, y.2.1, s3, ())]) := (SlIn.of_box n4 (n := 1) (sz := 3) rfl).x
   refine append_rx eEdits eEdits.ts_ (x := ⟨some (at0 b12), 1, 1⟩) (hr.ext ((e2.trans e3).trans e4)) hbox (fun v hv => by
    have hv : v ∈ [Value.int .i64 y.1, .int .i64 y.2.1, .slice s3.a s3.len s3.cap] := hv
    simp only [List.mem_cons, List.not_mem_nil, or_false] at hv
    rcases hv with rfl | rfl | rfl <;> rfl) (by
    show (r.len + 1 + (r.len + 1) / 4 + 512) * 40 ≤ 2 ^ 48
    omega) (by have := x4.size; omega) fun r' w5 o5 l5 u5 b5 => ?_
   have x5 : Ext w w5 := x4.step u5 fun k hk => hr.blk_ge hk
   have ef : flat c103 ys ++ flat c103 [(y.1, y.2.1, s3, ())] = flat c103 (ys ++ [(y.1, y.2.1, s3, ())]) := by simp [flat]
   rw [ef] at o5
   have ne : ∀ {sl : Sl} {v : List Int} {V : World}, SlOwn V w.heap.size sl 3 1 (iv v) → Ext V w4 → SlOwn w5 w.heap.size sl 3 1 (iv v) := fun ho e => (ho.ext e).ty (t := 3) u5 (fun k hk c fr hn => by
    obtain ⟨c', fr', hc'⟩ := (hr.ext ((e2.trans e3).trans e4)).in.blk_cells hk
    rw [hn] at hc'
    cases hc')
   refine ⟨⟨i + 1, ys ++ [(y.1, y.2.1, s3, ())], by omega, rfl, o5, by simp [hl], fun j y' z' hy' hz' => ?_, x5⟩, by (try dsimp only); omega⟩
   by_cases hj : j < ys.length
   ·rw [List.getElem?_append_left hj] at hy'
    obtain ⟨g1, g2, g3, g4⟩ := hys j y' z' hy' hz'
    exact ⟨g1, g2, ne g3 ((e2.trans e3).trans e4), g4⟩
   ·have hje : j = i := by
     have := (List.getElem?_eq_some_iff.1 hy').1
     simp at this; omega
    subst hje
    rw [← hl, List.getElem?_concat_length] at hy'
    cases hy'
    rw [hz] at hz'; cases hz'
    exact ⟨y1, y2, ne o3 e4, y4⟩
  ·simp only [decide_eq_false_iff_not] at hc
   obtain rfl : i = es.length := by omega
   exact ⟨ys, hr, hl, hys, eW⟩
 rintro ⟨r, _⟩ W ⟨ys, hr, hl, hys, eW⟩
 refine hK r ys W ⟨hr.in, hl, fun i y z hy hz => ?_⟩ (fun k hk => hr.blk_ge hk) (fun i y hy k hk => ?_) eW
 ·obtain ⟨g1, g2, g3, g4⟩ := hys i y z hy hz
  exact ⟨g1, g2, ⟨_, g3.in⟩, by omega⟩
 ·obtain ⟨z, hz⟩ : ∃ z, es[i]? = some z := ⟨_, List.getElem?_eq_getElem (by have := (List.getElem?_eq_some_iff.1 hy).1; omega)⟩
  exact (hys i y z hy hz).2.2.1.blk_ge hk
abbrev lkO (y : Cells.T c26) : Obj := .cells #[.int .i64 y.1, .slice y.2.1.a y.2.1.len y.2.1.cap, .slice y.2.2.1.a y.2.2.1.len y.2.2.1.cap, .slice y.2.2.2.1.a y.2.2.2.1.len y.2.2.2.1.cap] 26 (0, 0)
theorem EdX.ext {s : Sl} {es : List LEd} (h : EdX w s es) (e : Ext w w') : EdX w' s es := by
 obtain ⟨ys, h1, h2, h3⟩ := h.ex
 exact ⟨⟨ys, h1.ext e, h2, fun i y x hy hx => by obtain ⟨a, b, c, d⟩ := h3 i y x hy hx; exact ⟨a, b, c.ext e, d⟩⟩, h.few⟩
theorem refuse_put {e : Enc} {lim : Nat} {A : As} {es : List LEd} (h : refuseP e lim A es = 0) : putsz e es ≤ lim := by
 unfold refuseP at h
 split at h
 ·cases h
 split at h
 ·cases h
 rename_i hr
 split at h
 ·cases h
 split at h
 ·cases h
 have gl := gone_le (A := A) (es := es) (a := 0) (Int.le_refl _) (by simpa using hr)
 omega
theorem enc_num {c : Int} (h : 1 ≤ c ∧ c ≤ 4) : ∃ e : Enc, e.num = c := by
 rcases (by omega : c = 1 ∨ c = 2 ∨ c = 3 ∨ c = 4) with rfl | rfl | rfl | rfl
 ·exact ⟨.u8, rfl⟩
 ·exact ⟨.le, rfl⟩
 ·exact ⟨.be, rfl⟩
 ·exact ⟨.l1, rfl⟩
set_option maxHeartbeats 1000000 in
theorem ltext_call {y : Cells.T c26} {c : Int} {l : List UInt8} {L : List (List LEd)} {al : List LAsk} (h : LookX w y c l L al) {K : Option Addr × Bool × Unit → World → Prop} (hN : ∀ w', Ext w w' → K (none, true, ()) w')
  (hS : ∀ p A w', TxA w' p A → Ext w w' → K (some (at0 p), true, ()) w') :
  callT Tryz.prog 11 #[.agg (Cells.vals c26 y).toArray] (.tup [(.one .ptr), (.one .bool)]) K w := by
 refine F11_calls (a0 := y) ?_
 unfold F11
 have hbl : l.length = y.2.1.len := by have := h.bytes.len1; rwa [List.length_map] at this
 obtain ⟨ys, hys, hyl, hye⟩ := h.edits.ex
 have few := h.edits.few
 have hsl : ys.length = y.2.2.1.len := by have := hys.len1; rwa [List.length_map] at this
 refine (St.start w).newO fun b1 w1 S1 e1 => able_call fun w2 e2 => sif_false ?_
 have S2 := S1.ext e2
 have S2 : St (fun _ => False) w w2 [(b1, lkO y)] := S2
 refine join_r (fun x W => x = (decide (¬ (1 ≤ c ∧ c ≤ 4 ∧ l.length ≤ 65536)), ()) ∧ w2 = W) ?_ ?_
 ·refine S2.ld (off := 0) 0 rfl (x := c) (congrArg (fun (n : Int) => some (Value.int .i64 n)) h.e) (sif_r (fun hc => ⟨tupb ?_, rfl⟩) (fun hc => S2.ld (off := 0) 0 rfl (x := c) (congrArg (fun (n : Int) => some (Value.int .i64 n)) h.e) (sif_r (fun hc2 => ⟨tupb ?_, rfl⟩) (fun hc2 => S2.ld (off := 1) 0 rfl (x := y.2.1) rfl ⟨tupb ?_, rfl⟩))))
  all_goals simp only [decide_eq_true_eq, decide_eq_false_iff_not, true_iff, gt_iff_lt] at *
  all_goals omega
 rintro _ _ ⟨rfl, rfl⟩
 refine sif_r (fun hc => hN w2 S2.upd) (fun hc => ?_)
 have hc := Classical.byContradiction (fun hn => (of_decide_eq_false hc) hn)
 obtain ⟨e, hen⟩ := enc_num (c := c) ⟨hc.1, hc.2.1⟩
 refine S2.drew fun w3 S3 e3 _ => S3.ld (off := 0) 0 rfl (x := c) (congrArg (fun (n : Int) => some (Value.int .i64 n)) h.e) (S3.ld (off := 1) 0 rfl (x := y.2.1) rfl ?_)
 refine app_by (s := ⟨none, 0, 0⟩) (l := []) (m := l) (B := w.heap.size) (SlOwn.nil w3 w.heap.size 5 1) (h.bytes.ext S3.upd) (by
  show 0 + y.2.1.len + (0 + y.2.1.len) / 4 + 512 ≤ 2 ^ 48
  omega) S3.upd.size fun s4 w4 o4 l4 u4 b4 _ => ?_
 have e4 : Ext w3 w4 := (Ext.refl w3).step u4 fun k hk => by obtain ⟨_, hp, _⟩ := hk; cases hp
 have S4 := S3.ext e4
 rw [List.nil_append] at o4
 refine S4.keep (off := 0) 0 rfl (v := .int .i64 c) (congrArg (fun (n : Int) => some (Value.int .i64 n)) h.e) ?_
 rw [← hen]
 have hB4 : By w4 s4 l := o4.in
 refine open_call (e := e) (lim := 65536) hB4 hc.2.2 (Nat.le_refl _) fun p O M w5 tx hA _ e5 hnew => ?_
 have S5 := S4.ext e5
 refine join_r (fun x W => x = (false, ()) ∧ w5 = W) (sif_false ⟨rfl, rfl⟩) ?_
 rintro _ _ ⟨rfl, rfl⟩
 refine sif_false ?_
 have hb1 : b1 < w4.heap.size := lt_of_heap (S4.at_ 0 rfl)
 have hw4 : w.heap.size ≤ w4.heap.size := S4.upd.size
 refine join_r (fun _ W => ∃ O M na, Txt W p e 65536 na O M ∧ St (fun _ => False) w W [(b1, lkO y)]) ?_ (fun _ W ⟨O, M, na, t, S⟩ => hS p _ W ⟨_, _, _, _, _, t, rfl⟩ S.upd)
 refine sloop_r (fun x W => ∃ (i : Nat) (O : Nat → Prop) (M : Parts) (na : Nat), x = ((i : Int), ()) ∧ i ≤ L.length ∧ Txt W p e 65536 na O M ∧ na ≤ 65536 * i ∧ szs (aOf e M) ≤ 65536 ∧ (∀ k, O k → w4.heap.size ≤ k) ∧ St (fun _ => False) w W [(b1, lkO y)]) (fun x _ => ((L.length : Int) - x.1).toNat) ⟨0, O, M, 0, rfl, Nat.zero_le _, tx, Nat.zero_le _, ?_, hnew, S5⟩ ?_
 ·rw [hA, szs_all]; exact hc.2.2
 rintro _ W ⟨i, O, M, na, rfl, hi, t, hna, hsz, hO, SW⟩
 dsimp only
 refine SW.ld (off := 2) 0 rfl (x := y.2.2.1) rfl (sif_r (fun hc => ?_) (fun hc => ?_))
 ·simp only [decide_eq_true_eq] at hc
  have ew : IntKind.wrap .i64 ((i : Int) + 1) = ((i + 1 : Nat) : Int) := by rw [wrap64 (by omega) (by omega)]; omega
  rw [ew]
  obtain ⟨q, hq⟩ : ∃ q, ys[i]? = some q := ⟨_, List.getElem?_eq_getElem (by omega)⟩
  obtain ⟨es, hes⟩ : ∃ es, L[i]? = some es := ⟨_, List.getElem?_eq_getElem (by omega)⟩
  refine SW.ld (off := 2) 0 rfl (x := y.2.2.1) rfl (ix_ldX (c := .sl) (xs := ys) (hys.ext SW.upd) (Int.natCast_nonneg i) (x := q) (by rw [Int.toNat_natCast]; exact hq) fun p1 => ?_)
  refine own_call ((hye i q es hq hes).ext SW.upd) fun r zs w6 hE hr hz e6 => ?_
  have t6 := t.ext e6
  have S6 := SW.ext e6
  refine changeG_call t6 hE hsz (fun k hk hOk => ?_) (fun j z hj k hk hOk => ?_) (by omega) (fun cc w7 _ _ e7 => ⟨⟨i + 1, O, M, na, rfl, by omega, t6.ext e7, by omega, hsz, hO, S6.ext e7⟩, by omega⟩) fun h0 O' M' w7 t7 _ hs7 u7 _ o2 => ?_
  ·have := hr k hk; have := t.own k hOk; omega
  ·have := hz j z hj k hk; have := t.own k hOk; omega
  ·have hp := refuse_put h0
   refine ⟨⟨i + 1, O', M', _, rfl, by omega, t7, by omega, hs7, fun k hk => ?_, S6.fresh u7 (fun k hk => .inr (by have := hO k hk.1; omega)) (fun z hz hk => ?_)⟩, by omega⟩
   ·rcases o2 k hk with hh | hh
    ·exact hO k hh
    ·have := e6.size; have := SW.upd.size
     have h9 : w4.heap.size ≤ W.heap.size := by
      have := hO p t.op
      have := t.own p t.op
      omega
     omega
   ·rw [List.mem_singleton.1 hz] at hk
    have := hO _ hk.1
    dsimp only at this
    omega
 ·simp only [decide_eq_false_iff_not] at hc
  exact ⟨O, M, na, t, SW⟩
end
section
variable {w w' : World} {p : Nat} {A : List Int}
abbrev lnO (l : Ln) : Obj := .cells #[.int .i64 (l.from_ : Int), .int .i64 (l.to_ : Int), .int .i64 (l.next : Int), .int .i64 (l.kind : Int)] 36 (0, 0)
abbrev lnZ : Obj := .cells #[.int .i64 0, .int .i64 0, .int .i64 0, .int .i64 0] 36 (0, 0)
theorem lline_call (h : TxA w p A) {n : Int} {K : Cells.T c36 × Sl × Bool × Unit → World → Prop} (hK : ∀ s w', SlIn w' s 3 1 (iv (rowB A (ofI A n))) → Ext w w' → K (lnT (rowL A (ofI A n)), s, true, ()) w') :
  callT Tryz.prog 13 #[.pointer (some (at0 p)), .int .i64 n] (.tup [(.agg c36), (.one .sl), (.one .bool)]) K w := by
 refine F13_calls ?_
 unfold F13
 have hi := ofI_le A n
 have ok := row_ok hi
 have hA := h.len
 have ft := ok.ft; have tn := ok.tn; have nl := ok.nl
 generalize hI : ofI A n = i at *
 refine (St.start w).newO fun b1 w1 S1 e1 => (h.ext e1).of fun w2 e2 => ?_
 rw [hI]
 refine ((h.ext e1).ext e2).at_ hi fun w3 e3 => ?_
 refine ((S1.ext e2).ext e3).newO fun b4 w4 S4 e4 => S4.aggSt 0 rfl rfl rfl rfl fun w5 S5 u5 => ?_
 have S5 : St (fun _ => False) w w5 [(b4, lnO (rowL A i)), (b1, lnZ)] := S5
 refine join_r (fun y W => y = (false, ()) ∧ St (fun _ => False) w W [(b4, lnO (rowL A i)), (b1, lnZ)]) ?_ ?_
 ·refine S5.drew fun w6 S6 e6 _ => sif_false (S6.ld (off := 0) 0 rfl (x := ((rowL A i).from_ : Int)) rfl (sif_r (fun hc => by simp only [decide_eq_true_eq] at hc; omega) (fun _ => ?_)))
  refine S6.ld (off := 1) 0 rfl (x := ((rowL A i).to_ : Int)) rfl (S6.ld (off := 0) 0 rfl (x := ((rowL A i).from_ : Int)) rfl (sif_r (fun hc => by simp only [decide_eq_true_eq] at hc; omega) (fun _ => ?_)))
  refine S6.ld (off := 2) 0 rfl (x := ((rowL A i).next : Int)) rfl (S6.ld (off := 1) 0 rfl (x := ((rowL A i).to_ : Int)) rfl (sif_r (fun hc => by simp only [decide_eq_true_eq] at hc; omega) (fun _ => ?_)))
  refine S6.ld (off := 2) 0 rfl (x := ((rowL A i).next : Int)) rfl ((h.ext S6.upd).tlen fun w7 e7 => (S6.ext e7).keep (off := 2) 0 rfl (v := .int .i64 ((rowL A i).next : Int)) rfl ⟨tupb ?_, S6.ext e7⟩)
  simp only [decide_eq_true_eq, gt_iff_lt, Bool.false_eq_true, iff_false]; omega
 rintro _ W ⟨rfl, SW⟩
 refine sif_false (SW.ld (off := 0) 0 rfl (x := ((rowL A i).from_ : Int)) rfl (SW.ld (off := 1) 0 rfl (x := ((rowL A i).to_ : Int)) rfl ((h.ext SW.upd).atoms fun s w6 o6 e6 => ?_)))
 rw [sub_row] at o6
 have S6 := SW.ext e6
 have hsl : s.len = (rowL A i).to_ - (rowL A i).from_ := by
  have := o6.len1
  rw [List.length_map, rowB_length hi] at this
  exact this.symm
 refine S6.drew fun w7 S7 e7 _ => S7.lds 0 (lnT (rowL A i)) rfl (S7.ld (off := 1) 0 rfl (x := ((rowL A i).to_ : Int)) rfl (S7.ld (off := 0) 0 rfl (x := ((rowL A i).from_ : Int)) rfl (S7.aggSt 1 rfl rfl rfl rfl fun w8 S8 u8 => ?_)))
 refine S8.keep (off := 0) 0 rfl (v := .int .i64 ((rowL A i).from_ : Int)) rfl (S8.keep (off := 1) 0 rfl (v := .int .i64 ((rowL A i).to_ : Int)) rfl (S8.lds 1 (lnT (rowL A i)) rfl ?_))
 have e9 : (((s.len : Nat) : Int) == IntKind.wrap .i64 (((rowL A i).to_ : Int) - ((rowL A i).from_ : Int))) = true := by
  rw [wrap64 (by omega) (by omega), beq_iff_eq]; omega
 rw [e9]
 exact hK s w8 ((o6.ext e7).box (S7.at_ 1 rfl) (by decide) u8).in S8.upd
abbrev askO (a : LAsk) : Obj := .cells #[.int .i64 a.kind, .int .i64 a.at_, .int .i64 a.b, .int .i64 a.mkd, .int .i64 a.count, .int .i64 a.arg, .bool a.past] 33 (0, 0)
end
theorem kif (c : Int) : (if (9999 : Int) < (if (1 : Int) > c then (1 : Int) else c) then (9999 : Int) else (if (1 : Int) > c then (1 : Int) else c)) = min (max c 1) 9999 := by
 split <;> split at * <;> omega
section
variable {w w' : World} {p : Nat} {A : List Int} {y : Cells.T c26} {c : Int} {l : List UInt8} {L : List (List LEd)} {al : List LAsk}
theorem LookX.ask (h : LookX w y c l L al) {W : World} (x : Ext w W) {i : Nat} {a : LAsk} (ha : al[i]? = some a) {K : Addr → Cells.T c33 → World → Prop} (hK : ∀ q, K q (askT a) W) :
  ix y.2.2.2.1.a y.2.2.2.1.len (i : Int) (fun q => lds c33 (q.add (scaled (Int.toNat (i : Int)) 7)) (K q)) W :=
 ix_ldsX (cs := c33) (xs := al.map askT) (h.asks.row.ext x) (by decide) (Int.natCast_nonneg i) (by rw [Int.toNat_natCast, List.getElem?_map, ha]; rfl) hK
theorem LookX.alen (h : LookX w y c l L al) : al.length = y.2.2.2.1.len := by
 have := SlX.lenR (cs := c33) h.asks.row (by decide)
 rwa [List.length_map] at this
theorem law_r {W0 : World} {x3 : Option Addr × Bool × Unit} {K : Bool → World → Prop} {R : World → Prop} (hx : x3 = (none, true, ()) ∨ ∃ p, x3 = (some (at0 p), true, ()) ∧ R W0)
  (hN : K true W0) : join (S := Bool × Unit) (fun J4 => sif (!x3.2.1) (J4 (true, ())) (J4 ((Option.isNone x3.1), ()))) (fun s5 => sif s5.1 (K x3.2.1) R) W0 := by
 rcases hx with rfl | ⟨p, rfl, hR⟩
 ·exact join_r (fun s W => s = (true, ()) ∧ W0 = W) (sif_false ⟨rfl, rfl⟩) (by rintro _ _ ⟨rfl, rfl⟩; exact sif_true hN)
 ·exact join_r (fun s W => s = (false, ()) ∧ W0 = W) (sif_false ⟨rfl, rfl⟩) (by rintro _ _ ⟨rfl, rfl⟩; exact sif_false hR)
theorem cur_line (A : List Int) (x : Int) (past : Bool) : nb A (clampP A x past) ≤ brs A ∧ ofI A (clampP A x past : Int) = nb A (clampP A x past) ∧ (rowL A (nb A (clampP A x past))).from_ ≤ clampP A x past ∧ clampP A x past ≤ (rowL A (nb A (clampP A x past))).to_ ∧ clampP A x past ≤ A.length := by
 have hs := stand_clamp A x past
 obtain ⟨h1, h2, h3⟩ := hs.row
 exact ⟨h1, by unfold ofI; rw [inT_of hs.len], h2, h3, hs.len⟩
end
section
variable {w w' : World} {p : Nat} {A : List Int} {y : Cells.T c26} {c : Int} {l : List UInt8} {L : List (List LEd)} {al : List LAsk}
theorem LookX.ext {W : World} (h : LookX w y c l L al) (e : Ext w W) : LookX W y c l L al :=
 ⟨h.e, h.i64, h.bytes.ext e, h.blen, ⟨by obtain ⟨ys, g1, g2, g3⟩ := h.edits.ex; exact ⟨ys, g1.ext e, g2, fun i q es hq he => (g3 i q es hq he).ext e⟩, h.edits.few⟩, ⟨h.asks.row.ext e, h.asks.few, h.asks.i64⟩⟩
end
section
variable {w w' : World} {p : Nat} {A : List Int} {y : Cells.T c26} {c : Int} {l : List UInt8} {L : List (List LEd)} {al : List LAsk}
abbrev lfO (l : Ld) : Obj := .cells #[.int .i64 l.1.1, .int .i64 l.1.2.1, .int .i64 l.1.2.2] 43 (0, 0)
theorem kOf_is (c : Int) : (kOf c : Int) = min (max c 1) 9999 := by unfold kOf; split <;> omega
theorem cuts_le {L : List Int} {b : Nat} (h : b ∈ cuts L) : b ≤ L.length := by
 unfold cuts cutsTo at h
 have := List.mem_range.1 (List.mem_filter.1 h).1
 omega
def cntF (D : List Nat) (P : Nat → Bool) (j : Nat) : Nat := ((D.take j).filter P).length
def fndF (D : List Nat) (P : Nat → Bool) (k j : Nat) : Int := match ((D.take j).filter P)[k - 1]? with | none => -1 | some b => (b : Int)
theorem fnd_step {D : List Nat} {P : Nat → Bool} {k j b : Nat} (hb : D[j]? = some b) (hk : 1 ≤ k) :
  cntF D P (j + 1) = (if P b then cntF D P j + 1 else cntF D P j) ∧ fndF D P k (j + 1) = (if P b = true ∧ cntF D P j + 1 = k then (b : Int) else fndF D P k j) := by
 have hlt := (List.getElem?_eq_some_iff.1 hb).1
 have hg := (List.getElem?_eq_some_iff.1 hb).2
 unfold cntF fndF
 rw [List.take_succ_eq_append_getElem hlt, hg, List.filter_append]
 by_cases hp : P b = true
 ·rw [List.filter_cons_of_pos hp, if_pos hp, List.filter_nil]
  refine ⟨by simp, ?_⟩
  by_cases hc : ((D.take j).filter P).length + 1 = k
  ·rw [if_pos ⟨hp, hc⟩, show k - 1 = ((D.take j).filter P).length by omega, List.getElem?_concat_length]
  ·rw [if_neg (fun hh => hc hh.2)]
   by_cases hlt2 : k - 1 < ((D.take j).filter P).length
   ·rw [List.getElem?_append_left hlt2]
   ·rw [List.getElem?_eq_none (by simp; omega), List.getElem?_eq_none (by omega)]
 ·rw [List.filter_cons_of_neg hp, if_neg hp, List.filter_nil, List.append_nil, if_neg (fun hh => hp hh.1)]
  exact ⟨rfl, rfl⟩
theorem fnd_all (D : List Nat) (P : Nat → Bool) (k : Nat) : fndF D P k D.length = (match (D.filter P)[k - 1]? with | none => -1 | some b => (b : Int)) := by unfold fndF; rw [List.take_length]
theorem cnt_le (D : List Nat) (P : Nat → Bool) (j : Nat) : cntF D P j ≤ j := by
 unfold cntF
 have := List.length_filter_le P (D.take j)
 rw [List.length_take] at this
 omega
def LandsAs (A : List Int) (i : Nat) (step at_ : Int) (l : Ld) : Prop := (at_ = -1 ∧ l = noP 80) ∨ ∃ (b b' : Nat) (k : Int), at_ = (b : Int) ∧ b ≤ (rowB A i).length ∧ b' ≤ (rowB A i).length ∧ ((step = 0 ∧ b' = b) ∨ (step = -1 ∧ PrevB (rowB A i) b b') ∨ (step = 1 ∧ NextB (rowB A i) b b')) ∧ l = landP A ((rowL A i).from_ + b') k
set_option maxHeartbeats 1000000 in
theorem llands_call (h : TxA w p A) {a : LAsk} {kind step at_ : Int} {i : Nat} (hi : i ≤ brs A) (hl : LandsAs A i step at_ (charsP A a.at_ kind a.count a.arg a.past)) {K : Bool → World → Prop} (hK : ∀ w', Ext w w' → K true w') :
  callT Tryz.prog 18 #[.pointer (some (at0 p)), .agg (Cells.vals c33 (askT a)).toArray, .int .i64 kind, .agg (Cells.vals c36 (lnT (rowL A i))).toArray, .int .i64 at_, .int .i64 step] (.one (.one .bool)) K w := by
 refine F18_calls (a1 := askT a) (a3 := lnT (rowL A i)) ?_
 unfold F18
 have hA := h.len
 have ok := row_ok hi
 have tn := ok.tn; have nl := ok.nl; have ft := ok.ft
 have hrl := rowB_length hi
 refine (St.start w).newO fun b1 w1 S1 e1 => S1.newO fun b2 w2 S2 e2 => ?_
 have S2 : St (fun _ => False) w w2 [(b2, lnO (rowL A i)), (b1, askO a)] := S2
 refine S2.ld (off := 1) 1 rfl (x := a.at_) rfl (S2.ld (off := 4) 1 rfl (x := a.count) rfl (S2.ld (off := 5) 1 rfl (x := a.arg) rfl (S2.ld (off := 6) 1 rfl (x := a.past) rfl (mchars_call (h.ext S2.upd) fun w3 e3 => ?_))))
 obtain ⟨l, hl'⟩ : ∃ l, charsP A a.at_ kind a.count a.arg a.past = l := ⟨_, rfl⟩
 rw [hl'] at hl
 rw [hl']
 refine (S2.ext e3).newAgg rfl rfl rfl fun b8 w4 S4 _ => ?_
 have S4 : St (fun _ => False) w w4 [(b8, lfO l), (b2, lnO (rowL A i)), (b1, askO a)] := S4
 rcases hl with ⟨rfl, rfl⟩ | ⟨b, b', k, rfl, hb, hb', hst, rfl⟩
 ·exact sif_true (hK w4 S4.upd)
 refine sif_r (fun hn => by simp only [decide_eq_true_eq] at hn; omega) (fun _ => ?_)
 refine S4.ld (off := 0) 1 rfl (x := ((rowL A i).from_ : Int)) rfl (S4.ld (off := 1) 1 rfl (x := ((rowL A i).to_ : Int)) rfl ((h.ext S4.upd).atoms fun s w5 o5 e5 => ?_))
 rw [sub_row] at o5
 have S5 := S4.ext e5
 have fin : ∀ {V : World}, St (fun _ => False) w V [(b8, lfO (landP A ((rowL A i).from_ + b') k)), (b2, lnO (rowL A i)), (b1, askO a)] → Go.Vx.ld (.int .i64) (at0 b8) (fun x18 => Go.Vx.ld (.int .i64) (at0 b2) fun x19 => K (x18 == IntKind.wrap .i64 (x19 + (b' : Int)))) V := fun {V} SV => by
  refine SV.ld (off := 0) 0 rfl (x := (((rowL A i).from_ + b' : Nat) : Int)) rfl (SV.ld (off := 0) 1 rfl (x := ((rowL A i).from_ : Int)) rfl ?_)
  have e : ((((rowL A i).from_ + b' : Nat) : Int) == IntKind.wrap .i64 (((rowL A i).from_ : Int) + (b' : Int))) = true := by rw [wrap64 (by omega) (by omega), beq_iff_eq]; omega
  rw [e]; exact hK V SV.upd
 rcases hst with ⟨rfl, rfl⟩ | ⟨rfl, hp⟩ | ⟨rfl, hp⟩
 ·refine join_r (fun x V => x = ((b' : Int), ()) ∧ w5 = V) (sif_false ⟨rfl, rfl⟩) ?_
  rintro _ _ ⟨rfl, rfl⟩
  refine join_r (fun x V => x = ((b' : Int), ()) ∧ w5 = V) (sif_false ⟨rfl, rfl⟩) ?_
  rintro _ _ ⟨rfl, rfl⟩
  exact sif_true (fin S5)
 ·have hlt := hp.lt
  refine join_r (fun x V => x = ((b' : Int), ()) ∧ St (fun _ => False) w V [(b8, lfO (landP A ((rowL A i).from_ + b') k)), (b2, lnO (rowL A i)), (b1, askO a)]) (sif_true (cprev_call o5.in (by omega) (by omega) (by omega) fun q w6 q1 q2 q3 e6 => ⟨?_, S5.ext e6⟩)) ?_
  ·have : q = b' := by
    rcases Nat.lt_trichotomy q b' with u | u | u
    ·have := q3 b' u hlt; rw [hp.bk] at this; cases this
    ·exact u
    ·have := hp.no q u q2; rw [q1] at this; cases this
   rw [this]
  rintro _ V ⟨rfl, SV⟩
  refine join_r (fun x U => x = ((b' : Int), ()) ∧ V = U) (sif_false ⟨rfl, rfl⟩) ?_
  rintro _ _ ⟨rfl, rfl⟩
  exact sif_true (fin SV)
 ·have hlt := hp.lt
  refine join_r (fun x V => x = ((b : Int), ()) ∧ w5 = V) (sif_false ⟨rfl, rfl⟩) ?_
  rintro _ _ ⟨rfl, rfl⟩
  refine join_r (fun x V => x = ((b' : Int), ()) ∧ St (fun _ => False) w V [(b8, lfO (landP A ((rowL A i).from_ + b') k)), (b2, lnO (rowL A i)), (b1, askO a)]) (sif_true (cnext_call o5.in (by omega) (by omega) fun q w6 q1 q2 q3 e6 => ⟨?_, S5.ext e6⟩)) ?_
  ·have : q = b' := by
    rcases Nat.lt_trichotomy q b' with u | u | u
    ·have := hp.no q q2 u; rw [q1] at this; cases this
    ·exact u
    ·have := q3 b' hlt u; rw [hp.bk] at this; cases this
   rw [this]
  rintro _ V ⟨rfl, SV⟩
  exact sif_true (fin SV)
set_option maxHeartbeats 2000000 in
theorem found_walk (h : LookX w y c l L al) {K : Bool → World → Prop} (hK : ∀ w', Ext w w' → K true w') :
  callT Tryz.prog 4 #[.agg (Cells.vals c26 y).toArray] (.one (.one .bool)) K w := by
 refine F4_calls (a0 := y) ?_
 unfold F4
 have hal := h.alen
 have hfew := h.asks.few
 refine (St.start w).newO fun b1 w1 S1 e1 => ?_
 have S1 : St (fun _ => False) w w1 [(b1, lkO y)] := S1
 refine S1.lds 0 y rfl (ltext_call (h := h.ext e1) (fun w2 e2 => law_r (.inl rfl) (hK w2 (S1.ext e2).upd)) fun p A w2 tx2 e2 => law_r (.inr ⟨p, rfl, ?_⟩) (hK w2 (S1.ext e2).upd))
 have S2 := S1.ext e2
 refine join_r (fun _ W => Ext w W) ?_ (fun _ W hW => hK W hW)
 refine sloop_r (fun x W => ∃ i : Nat, x = ((i : Int), ()) ∧ i ≤ al.length ∧ TxA W p A ∧ St (fun _ => False) w W [(b1, lkO y)]) (fun x _ => ((al.length : Int) - x.1).toNat) ⟨0, rfl, Nat.zero_le _, tx2, S2⟩ ?_
 rintro _ W ⟨i, rfl, hi, tx, SW⟩
 dsimp only
 refine SW.ld (off := 3) 0 rfl (x := y.2.2.2.1) rfl (sif_r (fun hc => ?_) (fun hc => SW.upd))
 simp only [decide_eq_true_eq] at hc
 obtain ⟨a, ha⟩ : ∃ a, al[i]? = some a := ⟨_, List.getElem?_eq_getElem (by omega)⟩
 have ewi : IntKind.wrap .i64 ((i : Int) + 1) = ((i + 1 : Nat) : Int) := by rw [wrap64 (by omega) (by omega)]; omega
 rw [ewi]
 refine SW.ld (off := 3) 0 rfl (x := y.2.2.2.1) rfl (h.ask SW.upd ha fun q1 => ?_)
 refine (St.start W).newAgg rfl rfl rfl fun bA w4 T4 _ => ?_
 have T4 : St (fun _ => False) W w4 [(bA, askO a)] := T4
 refine T4.ld (off := 1) 0 rfl (x := a.at_) rfl (T4.ld (off := 6) 0 rfl (x := a.past) rfl (mclamp_call (tx.ext T4.upd) fun w5 e5 => ?_))
 have T5 := T4.ext e5
 obtain ⟨k1, k2, k3, k4, k5⟩ := cur_line A a.at_ a.past
 refine lline_call (tx.ext T5.upd) fun s w6 o6 e6 => ?_
 rw [k2] at o6
 rw [k2]
 obtain ⟨j, hj⟩ : ∃ j, nb A (clampP A a.at_ a.past) = j := ⟨_, rfl⟩
 have fore := found_fore A a.at_ a.count a.arg a.past hj rfl
 have back := found_back A a.at_ a.count a.arg a.past hj rfl
 rw [hj] at o6 k1 k3 k4
 rw [hj]
 have hA := tx.len
 have ok := row_ok k1
 have tn := ok.tn; have nl := ok.nl
 have hrl := rowB_length k1
 refine (T5.ext e6).newAgg rfl rfl rfl fun b19 w7 T7 e7 => ?_
 have T7 : St (fun _ => False) W w7 [(b19, lnO (rowL A j)), (bA, askO a)] := T7
 have o7 := o6.ext e7
 obtain ⟨s0, hs0⟩ : ∃ s0, clampP A a.at_ a.past = s0 := ⟨_, rfl⟩
 rw [hs0] at k3 k4 k5 fore back
 rw [hs0]
 obtain ⟨kk, hkk⟩ : ∃ kk, kOf a.count = kk := ⟨_, rfl⟩
 have hk1 : 1 ≤ kk ∧ kk ≤ 9999 := by have := kOf_is a.count; omega
 rw [hkk] at fore back
 refine sif_false (T7.ld (off := 4) 1 rfl (x := a.count) rfl (cbreaks_call o7 (by omega) fun sB w8 o8 e8 => ?_))
 have T8 := T7.ext e8
 rw [kif, ← kOf_is, hkk]
 have ow : IntKind.wrap .i64 ((s0 : Int) - ((rowL A j).from_ : Int)) = ((s0 - (rowL A j).from_ : Nat) : Int) := by rw [wrap64 (by omega) (by omega)]; omega
 obtain ⟨r0, hr0⟩ : ∃ r0, s0 - (rowL A j).from_ = r0 := ⟨_, rfl⟩
 rw [hr0] at ow fore back
 have nvi : nv (cuts (rowB A j)) = ((cuts (rowB A j)).map fun (n : Nat) => (n : Int)).map (Cell.int .i64).val := by rw [List.map_map]; rfl
 rw [nvi] at o8
 have hbl := o8.len1
 rw [List.length_map, List.length_map] at hbl
 have hsl := o7.len1
 rw [List.length_map] at hsl
 have hcl' : (cuts (rowB A j)).length ≤ (rowB A j).length + 1 := cutsTo_len _ _
 have hcm : ∀ {n b : Nat}, (cuts (rowB A j))[n]? = some b → b ≤ (rowB A j).length := fun hb => cuts_le (List.mem_of_getElem? hb)
 obtain ⟨C, hC⟩ : ∃ C, cuts (rowB A j) = C := ⟨_, rfl⟩
 unfold behindB at fore
 unfold aheadB at back
 rw [hC] at hbl o8 fore back hcl' hcm
 obtain ⟨R, hR⟩ : ∃ R, rowB A j = R := ⟨_, rfl⟩
 rw [hR] at o7 hrl hsl hcm hcl'
 obtain ⟨P, hP⟩ : ∃ P : Nat → Bool, (fun b => decide (r0 < b) && (decide (b < R.length) && decide (R[b]? = some a.arg))) = P := ⟨_, rfl⟩
 obtain ⟨Q, hQ⟩ : ∃ Q : Nat → Bool, (fun b => decide (b < r0) && decide (R[b]? = some a.arg)) = Q := ⟨_, rfl⟩
 rw [hR] at fore back
 rw [hP] at fore
 rw [hQ] at back
 have o9 := o7.ext e8
 refine join_r (fun x V => x = (fndF C P kk C.length, ()) ∧ Ext w8 V ∧ St (fun _ => False) W V [(b19, lnO (rowL A j)), (bA, askO a)]) ?_ ?_
 ·refine sloop_r (fun x V => ∃ n : Nat, n ≤ C.length ∧ x = (fndF C P kk n, (cntF C P n : Int), (n : Int), ()) ∧ Ext w8 V ∧ St (fun _ => False) W V [(b19, lnO (rowL A j)), (bA, askO a)]) (fun x _ => ((C.length : Int) - x.2.2.1).toNat) ⟨0, Nat.zero_le _, rfl, Ext.refl _, T8⟩ ?_
  rintro _ V ⟨n, hn, rfl, xV, SV⟩
  dsimp only
  refine sif_r (fun hc => ?_) (fun hc => ?_)
  ·simp only [decide_eq_true_eq] at hc
   obtain ⟨b, hb⟩ : ∃ b, C[n]? = some b := ⟨_, List.getElem?_eq_getElem (by omega)⟩
   have hbm := hcm hb
   have m1 : (C.map fun (n : Nat) => (n : Int))[(n : Int).toNat]? = some (b : Int) := by rw [Int.toNat_natCast, List.getElem?_map, hb]; rfl
   obtain ⟨f1, f2⟩ := fnd_step (P := P) hb hk1.1
   have hcn := cnt_le C P n
   have ew1 : IntKind.wrap .i64 ((n : Int) + 1) = ((n + 1 : Nat) : Int) := by rw [wrap64 (by omega) (by omega)]; omega
   have ew2 : IntKind.wrap .i64 ((cntF C P n : Int) + 1) = ((cntF C P n + 1 : Nat) : Int) := by rw [wrap64 (by omega) (by omega)]; omega
   refine join_r (fun x U => x = (fndF C P kk (n + 1), (cntF C P (n + 1) : Int), ()) ∧ Ext w8 U ∧ St (fun _ => False) W U [(b19, lnO (rowL A j)), (bA, askO a)]) ?_ ?_
   ·refine join_r (fun x U => x = (P b, ()) ∧ Ext w8 U ∧ St (fun _ => False) W U [(b19, lnO (rowL A j)), (bA, askO a)]) ?_ ?_
    ·refine SV.drew fun w9 T9 e9 _ => ?_
     have x9 := xV.trans e9
     refine ix_ld (xs := C.map fun (n : Nat) => (n : Int)) (o8.ext x9).in (Int.natCast_nonneg n) m1 fun p1 => T9.ld (off := 0) 0 rfl (x := ((rowL A j).from_ : Int)) rfl ?_
     rw [ow]
     refine sif_r (fun h1 => ix_ld (xs := C.map fun (n : Nat) => (n : Int)) (o8.ext x9).in (Int.natCast_nonneg n) m1 fun p2 => sif_r (fun h2 => ix_ld (xs := C.map fun (n : Nat) => (n : Int)) (o8.ext x9).in (Int.natCast_nonneg n) m1 fun p3 => ?_) (fun h2 => ⟨tupb ?_, x9, T9⟩)) (fun h1 => ⟨tupb ?_, x9, T9⟩)
     ·simp only [decide_eq_true_eq, gt_iff_lt] at h1 h2
      obtain ⟨v, hv⟩ : ∃ v, R[b]? = some v := ⟨_, List.getElem?_eq_getElem (by omega)⟩
      refine ix_ld (c := .int .i64) (xs := R) (o9.ext x9) (Int.natCast_nonneg b) (by rw [Int.toNat_natCast]; exact hv) fun p4 => T9.ld (off := 5) 1 rfl (x := a.arg) rfl ⟨tupb ?_, x9, T9⟩
      rw [← hP]
      simp only [beq_iff_eq, Bool.and_eq_true, decide_eq_true_eq, hv, Option.some.injEq]
      exact ⟨fun hh => ⟨by omega, by omega, hh⟩, fun hh => hh.2.2⟩
     ·simp only [decide_eq_false_iff_not] at h2
      rw [← hP]
      simp only [Bool.false_eq_true, Bool.and_eq_true, decide_eq_true_eq, false_iff]
      intro hh; exact h2 (by omega)
     ·simp only [decide_eq_false_iff_not, gt_iff_lt] at h1
      rw [← hP]
      simp only [Bool.false_eq_true, Bool.and_eq_true, decide_eq_true_eq, false_iff]
      intro hh; exact h1 (by omega)
    rintro _ U ⟨rfl, xU, SU⟩
    rw [ew2]
    refine sif_r (fun hp => ?_) (fun hp => ?_)
    ·have hp : P b = true := hp
     rw [if_pos hp] at f1
     refine sif_r (fun hk => ?_) (fun hk => ?_)
     ·have hk : cntF C P n + 1 = kk := by simp only [beq_iff_eq] at hk; omega
      rw [if_pos ⟨hp, hk⟩] at f2
      refine ix_ld (xs := C.map fun (n : Nat) => (n : Int)) (o8.ext xU).in (Int.natCast_nonneg n) m1 fun p5 => ⟨?_, xU, SU⟩
      rw [f1, f2]
     ·have hk : ¬ cntF C P n + 1 = kk := by simp only [beq_eq_false_iff_ne, ne_eq] at hk; omega
      rw [if_neg (fun hh => hk hh.2)] at f2
      exact ⟨by rw [f1, f2], xU, SU⟩
    ·have hp : ¬ P b = true := fun hh => by rw [show P b = false from hp] at hh; cases hh
     rw [if_neg hp] at f1
     rw [if_neg (fun hh => hp hh.1)] at f2
     exact ⟨by rw [f1, f2], xU, SU⟩
   rintro _ U ⟨rfl, xU, SU⟩
   rw [ew1]
   exact ⟨⟨n + 1, by omega, rfl, xU, SU⟩, by omega⟩
  ·simp only [decide_eq_false_iff_not] at hc
   obtain rfl : n = C.length := by omega
   exact ⟨rfl, xV, SV⟩
 rintro _ w9 ⟨rfl, x9, T9⟩
 have hD1 : C.reverse.length = C.length := List.length_reverse
 have ewl : IntKind.wrap .i64 (((sB.len : Nat) : Int) - 1) = (C.length : Int) - 1 := by rw [wrap64 (by omega) (by omega)]; omega
 rw [ewl]
 refine join_r (fun x V => x = (fndF C.reverse Q kk C.length, ()) ∧ Ext w8 V ∧ St (fun _ => False) W V [(b19, lnO (rowL A j)), (bA, askO a)]) ?_ ?_
 ·refine sloop_r (fun x V => ∃ n : Nat, n ≤ C.length ∧ x = (fndF C.reverse Q kk n, (cntF C.reverse Q n : Int), (C.length : Int) - 1 - (n : Int), ()) ∧ Ext w8 V ∧ St (fun _ => False) W V [(b19, lnO (rowL A j)), (bA, askO a)]) (fun x _ => (x.2.2.1 + 1).toNat) ⟨0, Nat.zero_le _, by simp [fndF, cntF], x9, T9⟩ ?_
  rintro _ V ⟨n, hn, rfl, xV, SV⟩
  dsimp only
  refine sif_r (fun hc => ?_) (fun hc => ?_)
  ·simp only [decide_eq_true_eq, ge_iff_le] at hc
   obtain ⟨m, hm⟩ : ∃ m : Nat, (C.length : Int) - 1 - (n : Int) = (m : Int) := ⟨C.length - 1 - n, by omega⟩
   obtain ⟨b, hb⟩ : ∃ b, C[m]? = some b := ⟨_, List.getElem?_eq_getElem (by omega)⟩
   have hbr : C.reverse[n]? = some b := by rw [List.getElem?_reverse (by omega), show C.length - 1 - n = m by omega]; exact hb
   rw [hm]
   have hbm := hcm hb
   have m1 : (C.map fun (n : Nat) => (n : Int))[(m : Int).toNat]? = some (b : Int) := by rw [Int.toNat_natCast, List.getElem?_map, hb]; rfl
   obtain ⟨f1, f2⟩ := fnd_step (P := Q) hbr hk1.1
   have hcn := cnt_le C.reverse Q n
   have ew1 : IntKind.wrap .i64 ((m : Int) - 1) = (C.length : Int) - 1 - ((n + 1 : Nat) : Int) := by rw [wrap64 (by omega) (by omega)]; omega
   have ew2 : IntKind.wrap .i64 ((cntF C.reverse Q n : Int) + 1) = ((cntF C.reverse Q n + 1 : Nat) : Int) := by rw [wrap64 (by omega) (by omega)]; omega
   refine join_r (fun x U => x = (fndF C.reverse Q kk (n + 1), (cntF C.reverse Q (n + 1) : Int), ()) ∧ Ext w8 U ∧ St (fun _ => False) W U [(b19, lnO (rowL A j)), (bA, askO a)]) ?_ ?_
   ·refine join_r (fun x U => x = (Q b, ()) ∧ Ext w8 U ∧ St (fun _ => False) W U [(b19, lnO (rowL A j)), (bA, askO a)]) ?_ ?_
    ·refine SV.drew fun w10 T10 e10 _ => ?_
     have x10 := xV.trans e10
     refine ix_ld (xs := C.map fun (n : Nat) => (n : Int)) (o8.ext x10).in (Int.natCast_nonneg m) m1 fun p1 => T10.ld (off := 0) 0 rfl (x := ((rowL A j).from_ : Int)) rfl ?_
     rw [ow]
     refine sif_r (fun h1 => ix_ld (xs := C.map fun (n : Nat) => (n : Int)) (o8.ext x10).in (Int.natCast_nonneg m) m1 fun p2 => sif_r (fun h2 => ix_ld (xs := C.map fun (n : Nat) => (n : Int)) (o8.ext x10).in (Int.natCast_nonneg m) m1 fun p3 => ?_) (fun h2 => by simp only [decide_eq_false_iff_not, ge_iff_le] at h2; omega)) (fun h1 => ⟨tupb ?_, x10, T10⟩)
     ·simp only [decide_eq_true_eq, ge_iff_le] at h1 h2
      obtain ⟨v, hv⟩ : ∃ v, R[b]? = some v := ⟨_, List.getElem?_eq_getElem (by omega)⟩
      refine ix_ld (c := .int .i64) (xs := R) (o9.ext x10) (Int.natCast_nonneg b) (by rw [Int.toNat_natCast]; exact hv) fun p4 => T10.ld (off := 5) 1 rfl (x := a.arg) rfl ⟨tupb ?_, x10, T10⟩
      rw [← hQ]
      simp only [beq_iff_eq, Bool.and_eq_true, decide_eq_true_eq, hv, Option.some.injEq]
      exact ⟨fun hh => ⟨by omega, hh⟩, fun hh => hh.2⟩
     ·simp only [decide_eq_false_iff_not] at h1
      rw [← hQ]
      simp only [Bool.false_eq_true, Bool.and_eq_true, decide_eq_true_eq, false_iff]
      intro hh; exact h1 (by omega)
    rintro _ U ⟨rfl, xU, SU⟩
    rw [ew2]
    refine sif_r (fun hp => ?_) (fun hp => ?_)
    ·have hp : Q b = true := hp
     rw [if_pos hp] at f1
     refine sif_r (fun hk => ?_) (fun hk => ?_)
     ·have hk : cntF C.reverse Q n + 1 = kk := by simp only [beq_iff_eq] at hk; omega
      rw [if_pos ⟨hp, hk⟩] at f2
      refine ix_ld (xs := C.map fun (n : Nat) => (n : Int)) (o8.ext xU).in (Int.natCast_nonneg m) m1 fun p5 => ⟨?_, xU, SU⟩
      rw [f1, f2]
     ·have hk : ¬ cntF C.reverse Q n + 1 = kk := by simp only [beq_eq_false_iff_ne, ne_eq] at hk; omega
      rw [if_neg (fun hh => hk hh.2)] at f2
      exact ⟨by rw [f1, f2], xU, SU⟩
    ·have hp : ¬ Q b = true := fun hh => by rw [show Q b = false from hp] at hh; cases hh
     rw [if_neg hp] at f1
     rw [if_neg (fun hh => hp hh.1)] at f2
     exact ⟨by rw [f1, f2], xU, SU⟩
   rintro _ U ⟨rfl, xU, SU⟩
   rw [ew1]
   exact ⟨⟨n + 1, by omega, rfl, xU, SU⟩, by omega⟩
  ·simp only [decide_eq_false_iff_not, ge_iff_le] at hc
   obtain rfl : n = C.length := by omega
   exact ⟨rfl, xV, SV⟩
 rintro _ w10 ⟨rfl, x10, T10⟩
 have fa1 := fnd_all C P kk
 have fa2 := fnd_all C.reverse Q kk
 rw [hD1] at fa2
 rw [fa1, fa2]
 have mem1 : ∀ {b : Nat}, (C.filter P)[kk - 1]? = some b → b ≤ R.length := fun {b} hb => by
  have := List.mem_filter.1 (List.mem_of_getElem? hb)
  rw [← hC] at this
  have := cuts_le this.1
  rw [hR] at this; exact this
 have mem2 : ∀ {b : Nat}, (C.reverse.filter Q)[kk - 1]? = some b → b ≤ R.length := fun {b} hb => by
  have := (List.mem_filter.1 (List.mem_of_getElem? hb)).1
  rw [List.mem_reverse, ← hC] at this
  have := cuts_le this
  rw [hR] at this; exact this
 obtain ⟨F1, hF1⟩ : ∃ F1 : Int, (match (C.filter P)[kk - 1]? with | none => -1 | some b => (b : Int)) = F1 := ⟨_, rfl⟩
 obtain ⟨F2, hF2⟩ : ∃ F2 : Int, (match (C.reverse.filter Q)[kk - 1]? with | none => -1 | some b => (b : Int)) = F2 := ⟨_, rfl⟩
 rw [hF1, hF2]
 have L7 : LandsAs A j 0 F1 (charsP A a.at_ 7 a.count a.arg a.past) ∧ LandsAs A j (-1) F1 (charsP A a.at_ 9 a.count a.arg a.past) := by
  subst hF1
  cases hb : (C.filter P)[kk - 1]? with
  | none => exact ⟨.inl ⟨rfl, (fore.1 hb).1⟩, .inl ⟨rfl, (fore.1 hb).2⟩⟩
  | some b =>
   obtain ⟨g1, b', g2, g3⟩ := fore.2 b hb
   have := mem1 hb
   have := g2.lt
   exact ⟨.inr ⟨b, b, 1, rfl, by rw [hR]; omega, by rw [hR]; omega, .inl ⟨rfl, rfl⟩, g1⟩, .inr ⟨b, b', 1, rfl, by rw [hR]; omega, by rw [hR]; omega, .inr (.inl ⟨rfl, by rw [hR]; exact g2⟩), g3⟩⟩
 have L8 : LandsAs A j 0 F2 (charsP A a.at_ 8 a.count a.arg a.past) ∧ LandsAs A j 1 F2 (charsP A a.at_ 10 a.count a.arg a.past) := by
  subst hF2
  cases hb : (C.reverse.filter Q)[kk - 1]? with
  | none => exact ⟨.inl ⟨rfl, (back.1 hb).1⟩, .inl ⟨rfl, (back.1 hb).2⟩⟩
  | some b =>
   obtain ⟨g1, b', g2, g3⟩ := back.2 b hb
   have := mem2 hb
   have := g2.lt
   have := bk_le g2.bk
   exact ⟨.inr ⟨b, b, 0, rfl, by rw [hR]; omega, by rw [hR]; omega, .inl ⟨rfl, rfl⟩, g1⟩, .inr ⟨b, b', 0, rfl, by rw [hR]; omega, by rw [hR]; omega, .inr (.inr ⟨rfl, by rw [hR]; exact g2⟩), g3⟩⟩
 refine join_r (fun x V => x = (false, ()) ∧ St (fun _ => False) W V [(b19, lnO (rowL A j)), (bA, askO a)]) ?_ ?_
 ·refine T10.lds 1 (askT a) rfl (T10.lds 0 (lnT (rowL A j)) rfl (llands_call (tx.ext T10.upd) k1 L7.1 fun w11 e11 => sif_false ?_))
  have T11 := T10.ext e11
  exact T11.lds 1 (askT a) rfl (T11.lds 0 (lnT (rowL A j)) rfl (llands_call (tx.ext T11.upd) k1 L8.1 fun w12 e12 => ⟨rfl, T11.ext e12⟩))
 rintro _ w12 ⟨rfl, T12⟩
 refine sif_false (join_r (fun x V => x = (false, ()) ∧ St (fun _ => False) W V [(b19, lnO (rowL A j)), (bA, askO a)]) ?_ ?_)
 ·refine T12.lds 1 (askT a) rfl (T12.lds 0 (lnT (rowL A j)) rfl (llands_call (tx.ext T12.upd) k1 L7.2 fun w11 e11 => sif_false ?_))
  have T11 := T12.ext e11
  exact T11.lds 1 (askT a) rfl (T11.lds 0 (lnT (rowL A j)) rfl (llands_call (tx.ext T11.upd) k1 L8.2 fun w12 e12 => ⟨rfl, T11.ext e12⟩))
 rintro _ w13 ⟨rfl, T13⟩
 refine sif_false ?_
 exact ⟨⟨i + 1, rfl, by omega, tx.ext T13.upd, SW.ext T13.upd⟩, by omega⟩
end
end Go.Proofs.YtolhlldgnfbemaaGreat
namespace Go.Proofs.YtolhlldgnfbemaaGreat
open Go Go.Vx Go.ChangeShapes Go.WideShapes Go.RowKit
set_option maxRecDepth 100000 in
theorem motionFound_lifted (os : Os) (started : os.Started) (H : Type) (enc : TypeId × Value → H) (F : Stop.Interp) :
  ReturnsInHanded {} Tryz.checked os 4 .any ((Rows.OpenSpec.upto Rows.motionFoundSpec).pre6 enc Tryz.prog Tryz.f4 Rows.motionFoundUptoRow.domain false) (((Rows.OpenSpec.upto Rows.motionFoundSpec).at F).post enc Tryz.prog Tryz.f4 false true false false) := by
 refine returnsInHanded_of_cond_sized (C := Tryz.checked) (s := Rows.OpenSpec.upto Rows.motionFoundSpec) (k := Rows.uptoSmall) rfl Tryz.own started (by kernel_rfl) Tryz.func4
  (OpenSpec.witness (enc := enc) (C := Tryz.checked) (s := Rows.OpenSpec.upto Rows.motionFoundSpec) (k := Rows.uptoSmall) rfl false ⟨#[], #[.agg #[.int .i64 0, .slice none 0 0, .slice none 0 0, .slice none 0 0]], []⟩ 8 (by kernel_rfl) (by kernel_rfl) (by kernel_rfl)
   (x := ([.agg [.lit (.int .i64 0), .nil, .nil, .nil]], [], [])) (by kernel_rfl) rfl (by kernel_rfl)) ?_
 intro W base args ds gs before hval0 hW _ hk hwt0 _
 have hval : ∀ (j : Nat) t v, Tryz.f4.params[j]? = some t → args[j]? = some v → Value.okWide Tryz.prog W .any base t v := hval0
 have hwt : (DataW.weightsEach Tryz.prog (Tryz.f4.params.toList ++ []) (ds ++ gs)).all (· ≤ reachBytes) = true := hwt0
 have hW' := hW
 obtain ⟨p, q, hA0, hV, rfl, hfz, hnd⟩ := hW
 have hA : DataW.TrodAll enc Tryz.prog W 0 (fun _ => true) true Tryz.f4.params.toList args.toList ds p := hA0
 clear hA0 hval0 hwt0
 rw [Tryz.params4] at hA hval hwt
 obtain ⟨rfl, rfl⟩ := trodVars_none hV
 obtain ⟨hn1, hn2, hT⟩ := trodAll_get hA
 obtain ⟨v0, hv⟩ := list_1 args.toList hn1
 obtain rfl : args = #[v0] := by cases args; simp_all
 obtain ⟨d0, rfl⟩ := list_1 ds hn2
 have hbulk : bulk d0 ≤ 1048576 := by
  have h : Rows.uptoBulkAll ([d0] ++ []) ≤ 1048576 := of_decide_eq_true hk
  simp only [List.append_nil, Rows.uptoBulkAll] at h
  show Rows.uptoBulk d0 ≤ _
  omega
 obtain ⟨p0, q0⟩ := hT 0 26 v0 d0 rfl rfl rfl
 obtain ⟨y, c, l, L, al, rfl, hL⟩ := arg_look (hval 0 26 v0 rfl rfl) q0 (weigh hwt 0 rfl rfl) hbulk
 have walk := found_walk hL (K := fun r w' => r = true ∧ Ext W w') fun w' e => ⟨rfl, e⟩
 refine walk.mono fun e W' ⟨x, he, hx, hext⟩ => ⟨.bool true, ?_, ?_⟩
 ·subst hx; exact he
 ·exact post_same (s := Rows.motionFoundSpec) hW' rfl rfl u4 rfl Tryz.laidOut (fun t ht => by
   rw [Tryz.params4] at ht
   have ht : t ∈ [26] := ht
   simp only [List.mem_cons, List.not_mem_nil, or_false] at ht
   exact recs ht) hext
theorem motionFound_holds : Rows.MotionFoundUptoSaid :=
 OpenClaim.holds_of_cond 4 Tryz.f4 rfl rfl rfl rfl rfl rfl rfl ⟨rfl, rfl, rfl, rfl, rfl⟩ rfl rfl rfl rfl rfl (by kernel_rfl) Tryz.func4 (by kernel_rfl)
  (of_decide_eq_true (by kernel_rfl)) (by unfold Func.isWrapper; rw [if_neg (by decide +kernel)]; exact ⟨rfl, rfl⟩)
  (fun os started H enc _ F => motionFound_lifted os started H enc F)
end Go.Proofs.YtolhlldgnfbemaaGreat
