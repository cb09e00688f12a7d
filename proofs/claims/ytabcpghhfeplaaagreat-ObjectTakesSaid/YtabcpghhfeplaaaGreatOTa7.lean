/- The law holds for every input: it returns true, and each argument reads behind the call as it did. Conditions: those of the form alone. -/
import Derived.Test.YtabcpghhfeplaaaGreatOTa6
set_option linter.unusedVariables false
set_option linter.unusedSimpArgs false
set_option linter.unusedSectionVars false
noncomputable section
set_option maxRecDepth 100000
namespace Go.Proofs.YtabcpghhfeplaaaGreat
open Go Go.Vx Gly Clu Rgl Lns Trx Obx
section
variable {w w' : World}
theorem Bp5 {cs : List Cell} (hc : 0 < cs.length) {xs : List (Cells.T cs)} {n j : Nat} {x x' : Cells.T cs} {v : Value} (hx : xs[n]? = some x) (hj : j < cs.length) (hv : Cells.vals cs x' = (Cells.vals cs x).set j v) : flat cs (xs.set n x') = (flat cs xs).set (n * cs.length + j) v := by
 have hn := (List.getElem?_eq_some_iff.1 hx).1
 apply List.ext_getElem?
 intro i
 have hq : i = (i / cs.length) * cs.length + i % cs.length := by have := Nat.div_add_mod i cs.length; rw [Nat.mul_comm] at this; omega
 have hr : i % cs.length < cs.length := Nat.mod_lt _ hc
 by_cases hlt : i / cs.length < xs.length
 ·by_cases he : i / cs.length = n
  ·have hset : (xs.set n x')[i / cs.length]? = some x' := by rw [he, List.getElem?_set_self hn]
   rw [List.getElem?_set]
   have l1 : (flat cs (xs.set n x'))[i]? = (Cells.vals cs x')[i % cs.length]? := by conv => lhs; rw [hq]; rw [flat_get cs _ _ _ x' hset hr]
   have l2 : (flat cs xs)[i]? = (Cells.vals cs x)[i % cs.length]? := by conv => lhs; rw [hq]; rw [flat_get cs _ _ _ x (by rw [he]; exact hx) hr]
   rw [l1, hv, List.getElem?_set]
   rw [he] at hq
   have fl := Lh cs xs
   by_cases hji : j = i % cs.length
   ·have hm := Nat.mul_le_mul_right cs.length (show n + 1 <= xs.length by omega)
    rw [Nat.succ_mul] at hm
    rw [if_pos hji, if_pos (by rw [Fj]; omega), if_pos (show n * cs.length + j = i by omega), if_pos (by omega)]
   ·rw [if_neg hji, if_neg (by omega), l2]
  ·have hset : (xs.set n x')[i / cs.length]? = xs[i / cs.length]? := by rw [List.getElem?_set, if_neg (λ h => he h.symm)]
   obtain ⟨y, hy⟩ : ∃ y, xs[i / cs.length]? = some y := ⟨_, List.getElem?_eq_getElem hlt⟩
   have l1 : (flat cs (xs.set n x'))[i]? = (Cells.vals cs y)[i % cs.length]? := by conv => lhs; rw [hq]; rw [flat_get cs _ _ _ y (by rw [hset]; exact hy) hr]
   have l2 : (flat cs xs)[i]? = (Cells.vals cs y)[i % cs.length]? := by conv => lhs; rw [hq]; rw [flat_get cs _ _ _ y hy hr]
   rw [List.getElem?_set, if_neg ?_, l1, l2]
   intro h
   apply he
   rw [← h, Nat.mul_comm, Nat.mul_add_div hc, Nat.div_eq_of_lt hj, Nat.add_zero]
 ·have fl := Lh cs xs
  have fl2 := Lh cs (xs.set n x')
  rw [List.length_set] at fl2
  have hge := Nat.mul_le_mul_right cs.length (show xs.length <= i / cs.length by omega)
  rw [List.getElem?_eq_none (by omega), List.getElem?_eq_none (by rw [List.length_set]; omega)]
theorem Ca3 {c : Cell} {cs : List Cell} {s : Sl} {t : TypeId} {B : Nat} {xs : List (Cells.T cs)} {n : Int} {j : Nat} {x x' : Cells.T cs} {y : c.T} {K : World -> Prop} (h : Ah w B s t cs.length (flat cs xs)) (h0 : 0 <= n) (hx : xs[n.toNat]? = some x) (hj : j < cs.length) (hv : Cells.vals cs x' = (Cells.vals cs x).set j (c.val y))
  (hK : ∀ w', Ah w' B s t cs.length (flat cs (xs.set n.toNat x')) -> Upd s.blk w w' -> w'.heap.size = w.heap.size -> K w') : ix s.a s.len n (λ p => stC ((p.add (scaled n.toNat cs.length)).add j) (c.val y) K) w := by
 have hlt := (List.getElem?_eq_some_iff.1 hx).1
 have hl := h.Jq (by omega)
 have hle := h.le
 have fl := Lh cs xs
 have hm := Nat.mul_le_mul_right cs.length (show n.toNat + 1 <= s.cap by omega)
 rw [Nat.succ_mul] at hm
 have hm2 := Nat.mul_le_mul_right cs.length (show n.toNat + 1 <= xs.length by omega)
 rw [Nat.succ_mul] at hm2
 rcases h.at_ with ⟨ha, hc⟩ | ⟨b, off, ce, ha, hB, hb, hcap, hvv⟩
 ·omega
 ·refine ⟨⟨b, off, none⟩, ⟨ha, h0, by omega⟩, ?_⟩
  dsimp only
  rw [addr_add, addr_add, Ei]
  refine Jl hb (by omega) λ w1 u1 n1 hz => hK w1 ⟨by rw [Lh, List.length_set, hl], h.le, .inr ⟨b, off, _, ha, hB, n1, by simpa using hcap, λ i v hi => ?_⟩⟩ (u1.mono λ k _ hk => ⟨_, ha, hk.symm⟩) hz
  rw [Bp5 (by omega) hx hj hv, List.getElem?_set] at hi
  by_cases hin : n.toNat * cs.length + j = i
  ·rw [if_pos hin, if_pos (by omega)] at hi
   rw [Array.getElem?_setIfInBounds, if_pos (by omega), if_pos (by omega)]
   exact hi
  ·rw [if_neg hin] at hi
   rw [Array.getElem?_setIfInBounds, if_neg (by omega)]
   exact hvv i v hi
end
section
variable {w w' : World} {A : List Int} {s : Sl} {t : TypeId}
theorem eR9 : He Tryz.prog 172 180 3 24 := He.of (z := .agg #[.int .i64 0, .int .i64 0, .int .i64 0]) Cf6 Cf4 rfl rfl rfl (by decide)
theorem Bz2 (x : Cells.T Jt) : ∀ v ∈ flat Jt [x], Dx v = true := by
 intro v hv
 rw [Qj] at hv
 have h : v ∈ [_, _, _] := hv
 simp only [List.mem_cons, List.not_mem_nil, or_false] at h
 rcases h with rfl | rfl | rfl <;> rfl
theorem Bx2 {r : Sl} {L : List (Cells.T Jt)} {x : Cells.T Jt} {b N : Nat} {K : Sl -> Wp} (hr : Ah w N r 180 3 (flat Jt L)) (hb : w.heap[b]? = some (.cells #[.int .i64 x.1, .int .i64 x.2.1, .int .i64 x.2.2.1] 180 (0, 0))) (hl : L.length < 2 ^ 40) (hN : N <= w.heap.size)
  (hK : ∀ r' w', Ah w' N r' 180 3 (flat Jt (L ++ [x])) -> Upd r.blk w w' -> K r' w') :
  Df Tryz.prog (.one (.one .sl)) (Builtin.append_ #[172, 172] 172 #[.slice r.a r.len r.cap, .slice (some (at0 b)) 1 1]) K w := by
 have hrl := Ah.Jq (cs := Jt) hr (by decide)
 have hbox : SlX w ⟨some (at0 b), 1, 1⟩ 3 (flat Jt [x]) := (Aq.Hr hb (n := 1) (sz := 3) rfl).x
 refine Du eR9 eR9.ts_ (x := ⟨some (at0 b), 1, 1⟩) hr hbox (Bz2 x) (by
  show (r.len + 1 + (r.len + 1) / 4 + 512) * 24 <= 2 ^ 48
  omega) hN λ r' w' o l' u k => hK r' w' ?_ u
 rw [Gq]; exact o
theorem Nv (S : List Nat) : ∀ i, (Dh S i).length <= i
 | 0 => Nat.le_refl _
 | i + 1 => by
  have ih := Nv S i
  rw [Dh]
  unfold Al2
  split
  ·rename_i r hr
   have hp : 0 < (Dh S i).length := by
    cases h : Dh S i with
    | nil => rw [h] at hr; cases hr
    | cons a b => simp
   split
   ·rw [List.length_append, List.length_dropLast, List.length_singleton]; omega
   ·rw [List.length_append, List.length_singleton]; omega
  ·simp
end
namespace Obx
theorem Bk0 {R : List Rw} {r : Rw} {j s : Nat} (h : R.getLast? = some r) (hs : r.s = s) : Al2 R j s = R.dropLast ++ [⟨r.b, j + 1, s⟩] := by unfold Al2; rw [h]; exact if_pos hs
theorem Ba2 {R : List Rw} {j s : Nat} (h : ∀ r, R.getLast? = some r -> r.s ≠ s) : Al2 R j s = R ++ [⟨j, j + 1, s⟩] := by
 unfold Al2
 cases hr : R.getLast? with
 | none =>
  have : R = [] := by simpa using hr
  rw [this]; rfl
 | some r => exact if_neg (h r hr)
theorem Bm1 {α : Type} {l : List α} {x : α} (h : l ≠ []) : l.set (l.length - 1) x = l.dropLast ++ [x] := by
 conv => lhs; rw [← List.dropLast_concat_getLast h]
 rw [List.length_append, List.length_singleton, Nat.add_sub_cancel, List.set_append_right _ _ (Nat.le_refl _), Nat.sub_self]; rfl
end Obx
section
variable {w w' : World} {A : List Int} {s : Sl} {t : TypeId}
abbrev Hy (w : World) (N : Nat) (s : Sl) (F G : Rw -> Nat) (R : List Rw) : Prop := Ah w N s 180 3 (flat Jt (R.map (rwT F G)))
theorem Hy.len {w : World} {N : Nat} {s : Sl} {F G : Rw -> Nat} {R : List Rw} (h : Hy w N s F G R) : R.length = s.len := by have := Ah.Jq (cs := Jt) h (by decide); rwa [List.length_map] at this
theorem Be1 {N : Nat} {r : Sl} {F G : Rw -> Nat} {R : List Rw} {q : Rw} {j : Nat} {v : Nat} {K : World -> Prop} (hr : Hy w N r F G R) (hq : R.getLast? = some q) (hv : v = G ⟨q.b, j + 1, q.s⟩) (hF : F ⟨q.b, j + 1, q.s⟩ = F q)
  (hl : R.length < 2 ^ 40) (hK : ∀ w', Hy w' N r F G (Al2 R j q.s) -> Upd r.blk w w' -> K w') :
  ix r.a r.len (W64 ((r.len : Int) - 1)) (λ p => stC ((p.add (scaled (Int.toNat (W64 ((r.len : Int) - 1))) 3)).add 1) (.int .i64 (v : Int)) K) w := by
 have hne : R ≠ [] := by rintro rfl; simp at hq
 have hpos := List.length_pos_iff.2 hne
 have hlen := Hy.len hr
 have ew : W64 ((r.len : Int) - 1) = ((R.length - 1 : Nat) : Int) := by rw [wrap64 (by omega) (by omega)]; omega
 rw [ew]
 have hq2 : R[R.length - 1]? = some q := by rw [← List.getLast?_eq_getElem?]; exact hq
 refine Ca3 (c := .int .i64) (cs := Jt) (xs := R.map (rwT F G)) (j := 1) (x := rwT F G q) (x' := rwT F G ⟨q.b, j + 1, q.s⟩) (y := (v : Int)) hr (by omega) (by rw [Int.toNat_natCast, List.getElem?_map, hq2]; rfl) (by decide) ?_ λ w' o u _ => hK w' ?_ u
 ·have e : rwT F G ⟨q.b, j + 1, q.s⟩ = ((F q : Int), (v : Int), (q.s : Int), ()) := by
   show (((F _ : Nat) : Int), ((G _ : Nat) : Int), _, ()) = _
   rw [hF, ← hv]
  rw [e]; rfl
 ·rw [Bk0 hq rfl]
  rw [Int.toNat_natCast] at o
  have e : (R.map (rwT F G)).set (R.length - 1) (rwT F G ⟨q.b, j + 1, q.s⟩) = (R.dropLast ++ [(⟨q.b, j + 1, q.s⟩ : Rw)]).map (rwT F G) := by
   rw [← List.map_set, Bm1 hne]
  rw [e] at o
  exact o
theorem As9 {N : Nat} {r : Sl} {F G : Rw -> Nat} {R : List Rw} {j s : Nat} {b : Nat} {K : Sl -> Wp} (hr : Hy w N r F G R) (hb : w.heap[b]? = some (.cells #[.int .i64 ((F ⟨j, j + 1, s⟩ : Nat) : Int), .int .i64 ((G ⟨j, j + 1, s⟩ : Nat) : Int), .int .i64 (s : Int)] 180 (0, 0)))
  (hne : ∀ q, R.getLast? = some q -> q.s ≠ s) (hl : R.length < 2 ^ 40) (hN : N <= w.heap.size) (hK : ∀ r' w', Hy w' N r' F G (Al2 R j s) -> Upd r.blk w w' -> K r' w') :
  Df Tryz.prog (.one (.one .sl)) (Builtin.append_ #[172, 172] 172 #[.slice r.a r.len r.cap, .slice (some (at0 b)) 1 1]) K w := by
 refine Bx2 (x := rwT F G ⟨j, j + 1, s⟩) hr hb (by rw [List.length_map]; exact hl) hN λ r' w' o u => hK r' w' ?_ u
 rw [Ba2 hne, Hy, List.map_append]
 exact o
theorem Af3 {N : Nat} {r : Sl} {F G : Rw -> Nat} {R : List Rw} {s : Nat} {J : Bool × Unit -> Wp} (hr : Hy w N r F G R) (hl : R.length < 2 ^ 40) (h1 : ∀ q, R.getLast? = some q -> q.s = s -> J (true, ()) w) (h2 : (∀ q, R.getLast? = some q -> q.s ≠ s) -> J (false, ()) w) :
  sif (decide (((r.len : Nat) : Int) > (0 : Int))) (ix r.a r.len (W64 (((r.len : Nat) : Int) - (1 : Int))) λ p => ld (.int .i64) ((p.add (scaled (Int.toNat (W64 (((r.len : Nat) : Int) - (1 : Int)))) 3)).add 2) λ (x : Int) => J ((x == (s : Int)), ())) (J (false, ())) w := by
 have hlen := Hy.len hr
 refine Aa (λ hc => ?_) (λ hc => ?_)
 ·simp only [decide_eq_true_eq, gt_iff_lt] at hc
  obtain ⟨q, hq⟩ : ∃ q, R[R.length - 1]? = some q := ⟨_, List.getElem?_eq_getElem (by omega)⟩
  have hq2 : R.getLast? = some q := by rw [List.getLast?_eq_getElem?]; exact hq
  have ew : W64 ((r.len : Int) - 1) = ((R.length - 1 : Nat) : Int) := by rw [wrap64 (by omega) (by omega)]; omega
  rw [ew]
  refine Us hr.in hq λ p => ?_
  by_cases he : q.s = s
  ·rw [show ((q.s : Int) == (s : Int)) = true by simp [he]]
   exact h1 q hq2 he
  ·rw [show ((q.s : Int) == (s : Int)) = false by simp; omega]
   refine h2 λ x hx => ?_
   rw [hq2] at hx; cases hx; exact he
 ·simp only [decide_eq_false_iff_not, gt_iff_lt] at hc
  refine h2 λ x hx => ?_
  have : R = [] := List.length_eq_zero_iff.1 (by omega)
  rw [this] at hx; simp at hx
theorem Bv7 {B : List Int} {off i ci cj : Nat} (h1 : (cuts B)[i]? = some ci) (h2 : (cuts B)[i + 1]? = some cj) : (Bg B off)[i]? = some (Yo B off ci cj) := Zr B off _ _ _ _ h1 h2
set_option maxHeartbeats 1000000 in
theorem Ro (hs : Aq w s t 1 (iv A)) (hl : A.length < 2 ^ 39) {l : Ln} (h1 : l.from_ <= l.to_) (h2 : l.to_ <= A.length) {big : Bool} {K : Sl -> Wp}
  (hK : ∀ s' w', Hy w' w.heap.size s' (Vt (Bv A l)) (toC (Bv A l)) (Dh (Cc (Bv A l) big) (Bv A l).length) -> Ext w w' -> K s' w') :
  Ac Tryz.prog 126 #[s.v, .agg (Cells.vals Dj (lnR l)).toArray, .bool big] rS K w := by
 refine Cx9 ?_
 unfold F126
 have hlen : A.length = s.len := by have := hs.len1; rwa [List.length_map] at this
 obtain ⟨B, hB⟩ : ∃ B, B = (A.drop l.from_).take (l.to_ - l.from_) := ⟨_, rfl⟩
 have hC : Bv A l = Bg B l.from_ := by unfold Bv; rw [← hB]
 have hBl : B.length = l.to_ - l.from_ := by rw [hB, List.length_take, List.length_drop]; omega
 rw [hC] at hK
 refine (St.start w).Af λ b1 w1 S1 e1 => S1.ld 0 rfl (x := (l.from_ : Int)) rfl (S1.ld 0 rfl (x := (l.to_ : Int)) rfl ?_)
 refine Xl (hs.ext e1) (by omega) (by omega) (by omega) (by have := hs.le; omega) (by omega) λ y hy hyl _ _ => ?_
 have hy : Aq w1 y t 1 (iv B) := by
  rw [Nat.mul_one, Nat.mul_one, Int.toNat_natCast, Int.toNat_natCast, ← List.map_drop, ← List.map_take, ← hB] at hy
  exact hy
 refine Nb hy (by omega) λ c w2 oc e2 => ?_
 have S2 := S1.ext e2
 have hcl : (cuts B).length = c.len := by have := oc.len1; rwa [List.length_map] at this
 have hn : (Bg B l.from_).length = (cuts B).length - 1 := Js B l.from_
 have hcp := Lj B
 have hnl := Gx B l.from_
 obtain ⟨C, hCd⟩ : ∃ C, C = Bg B l.from_ := ⟨_, rfl⟩
 rw [← hCd] at hK hn hnl
 refine Ae (λ x W => Hy W w2.heap.size x.1 (Vt C) (toC C) (Dh (Cc C big) C.length) /\ Ext w2 W) ?_ (λ x W h => hK _ _ (h.1.mono (by have := e1.size; have := e2.size; omega)) ((e1.trans e2).trans h.2))
 refine Am (λ x W => ∃ i : Nat, i <= C.length /\ x.2 = ((i : Int), ()) /\ Hy W w2.heap.size x.1 (Vt C) (toC C) (Dh (Cc C big) i) /\ Ext w2 W) (λ x _ => ((C.length : Int) - x.2.1).toNat) ⟨0, Nat.zero_le _, rfl, Ah.nil _ _ _ _, Ext.refl w2⟩ ?_
 rintro ⟨r, _⟩ W ⟨i, hi, rfl, hr, eW⟩
 dsimp only at hr ⊢
 have ew : W64 ((i : Int) + 1) = ((i + 1 : Nat) : Int) := by rw [wrap64 (by omega) (by omega)]; omega
 rw [ew]
 have xW : Ext w W := (e1.trans e2).trans eW
 refine Aa (λ hc => ?_) (λ hc => ?_)
 ·simp only [decide_eq_true_eq] at hc
  obtain ⟨ci, hci⟩ : ∃ x, (cuts B)[i]? = some x := ⟨_, List.getElem?_eq_getElem (by omega)⟩
  obtain ⟨cj, hcj⟩ : ∃ x, (cuts B)[i + 1]? = some x := ⟨_, List.getElem?_eq_getElem (by omega)⟩
  have hlt := Yj (Nat.lt_succ_self i) hci hcj
  have hcj2 := Ag4 (Yk hcj)
  have hcel : C[i]? = some (Yo B l.from_ ci cj) := by rw [hCd]; exact Bv7 hci hcj
  obtain ⟨a, ha⟩ : ∃ a, B[ci]? = some a := ⟨_, List.getElem?_eq_getElem (by omega)⟩
  have hkind : (Yo B l.from_ ci cj).kind = wrd a := by unfold Yo; rw [ha]; rfl
  have hrow : (Dh (Cc C big) i).length < 2 ^ 40 := by have := Nv (Cc C big) i; omega
  have hsort : (Cc C big).getD i 0 = if big /\ wrd a ≠ 0 then 2 else wrd a := by
   refine Ye ?_
   unfold Cc
   rw [List.getElem?_map, hcel, Option.map_some, hkind]
  obtain ⟨sv, hsv⟩ : ∃ sv, sv = (if big /\ wrd a ≠ 0 then 2 else wrd a) := ⟨_, rfl⟩
  rw [← hsv] at hsort
  have rdC : ∀ {V : World} {K : Addr -> Int -> Wp} {j v : Nat}, Ext w2 V -> (cuts B)[j]? = some v -> (∀ q, K q (v : Int) V) -> ix c.a c.len (j : Int) (λ q => ld (.int .i64) (q.add (scaled (Int.toNat (j : Int)) 1)) (K q)) V := λ x hv hk => by
   refine Iu (c := .int .i64) (xs := (cuts B).map λ (n : Nat) => (n : Int)) (t := 3) ?_ (by omega) (by rw [Int.toNat_natCast, List.getElem?_map, hv]; rfl) hk
   have := (oc.ext x).in
   rw [List.map_map]; exact this
  refine Ae (λ x W' => Hy W' w2.heap.size x.1 (Vt C) (toC C) (Dh (Cc C big) (i + 1)) /\ Ext w2 W') ?_ (λ x W' h => ⟨⟨i + 1, by omega, rfl, h.1, h.2⟩, by omega⟩)
  rw [Dh, hsort]
  refine rdC eW hci λ q => rdA (hy.ext (e2.trans eW)) ha λ q2 => V8 ?_
  rw [← hsv]
  have hto : toC C ⟨i, i + 1, sv⟩ = l.from_ + cj := by unfold toC; rw [Nat.add_sub_cancel, hcel]; rfl
  have hfrom : Vt C ⟨i, i + 1, sv⟩ = l.from_ + ci := by unfold Vt; rw [hcel]; rfl
  have ew1 : W64 ((l.from_ : Int) + (cj : Int)) = ((l.from_ + cj : Nat) : Int) := by rw [wrap64 (by omega) (by omega)]; omega
  have ew2 : W64 ((l.from_ : Int) + (ci : Int)) = ((l.from_ + ci : Nat) : Int) := by rw [wrap64 (by omega) (by omega)]; omega
  obtain ⟨J, hJ⟩ : ∃ J : Bool × Unit -> World -> Prop, J = λ x W' => ((x = (true, ()) /\ ∃ q, (Dh (Cc C big) i).getLast? = some q /\ q.s = sv) \/ (x = (false, ()) /\ ∀ q, (Dh (Cc C big) i).getLast? = some q -> q.s ≠ sv)) /\ W = W' := ⟨_, rfl⟩
  refine Ae J ?_ ?_
  ·exact Af3 (J := J) hr hrow (λ q h1 h2 => by rw [hJ]; exact ⟨.inl ⟨rfl, q, h1, h2⟩, rfl⟩) (λ h => by rw [hJ]; exact ⟨.inr ⟨rfl, h⟩, rfl⟩)
  rw [hJ]
  have S3 := S2.ext eW
  rintro _ _ ⟨⟨rfl, q, hq, rfl⟩ | ⟨rfl, hq⟩, rfl⟩
  ·refine Cm (S3.drew λ w4 S4 e4 _ => S4.ld 0 rfl (x := (l.from_ : Int)) rfl (rdC (eW.trans e4) hcj λ q2 => ?_))
   rw [ew1]
   refine Be1 (hr.ext e4) hq (by unfold toC; rw [Nat.add_sub_cancel, hcel]; rfl) (by unfold Vt; rfl) hrow λ w5 o5 u5 => ⟨o5, (eW.trans e4).step u5 λ k hk => hr.Di hk⟩
  ·refine Au (S3.drew λ w4 S4 e4 _ => S4.ld 0 rfl (x := (l.from_ : Int)) rfl (rdC (eW.trans e4) hci λ q2 => S4.ld 0 rfl (x := (l.from_ : Int)) rfl (rdC (eW.trans e4) hcj λ q3 => ?_)))
   rw [ew1, ew2]
   refine Bo λ b8 w5 e5 n5 _ _ => ?_
   refine As9 (j := i) (s := sv) ((hr.ext e4).ext e5) (by rw [hto, hfrom]; exact n5) hq hrow (by have := eW.size; have := e4.size; have := e5.size; omega) λ r' w6 o6 u6 => ⟨o6, ((eW.trans e4).trans e5).step u6 λ k hk => hr.Di hk⟩
 ·simp only [decide_eq_false_iff_not] at hc
  have : i = C.length := by omega
  subst this
  exact ⟨hr, eW⟩
end
namespace Obx
theorem Ad5 {S : List Nat} {R : List Rw} (h : Jg S S.length R) {m i k : Nat} {r : Rw} (hr : R[m]? = some r) (h1 : r.b <= i) (h2 : i < r.e) (hk : 1 <= k) (out : Bool) :
  Vm out S i k = (if out then Ih R m k else if k <= R.length - m then some (m, m + k - 1) else none).bind λ x => D6 R x.1 x.2 := by
 obtain ⟨k, rfl⟩ : ∃ n, k = n + 1 := ⟨k - 1, by omega⟩
 unfold Vm
 cases out with
 | true => rw [if_pos rfl, if_pos rfl]; exact As3 h hr h1 h2 k
 | false =>
  rw [if_neg (by decide), if_neg (by decide), Ax9 h hr h1 h2]
  by_cases hc : k + 1 <= R.length - m
  ·rw [if_pos hc]; rfl
  ·rw [if_neg hc]
   unfold D6
   rw [List.getElem?_eq_none (show R.length <= m + k by omega)]
   cases R[m]? <;> rfl
theorem Ab0 {R : List Rw} {m k a z : Nat} (hm : m < R.length) (h : Ih R m k = some (a, z)) : a < R.length /\ z < R.length := by
 unfold Ih at h
 obtain ⟨l, hl, he⟩ := Option.map_eq_some_iff.1 h
 have hb := Un hl
 rw [List.length_drop] at hb
 split at he
 ·cases he; omega
 ·split at he
  ·rename_i h1
   cases he
   unfold Hf at h1
   obtain ⟨x, hx, _⟩ := Option.map_eq_some_iff.1 h1
   have := (List.getElem?_eq_some_iff.1 hx).1
   omega
  ·split at he
   ·cases he; omega
   ·cases he; omega
end Obx
section
variable {w w' : World} {A : List Int} {s : Sl} {t : TypeId}
abbrev spR (x y k : Int) : Cells.T Az := (x, y, k, ())
theorem Et {b1 : Nat} {w0 V : World} {ls : List (Nat × Obj)} {o : Array Value} (i : Nat) {f : Int} {K : Cells.T Az × Int × Unit -> Wp} (S : St (λ _ => False) w0 V ls) (hi : ls[i]? = some (b1, .cells o 149 (0, 0))) (ho : o.size = 3) (x y k : Int) (hk : ∀ w', Ext w0 w' -> K (spR x y k, f, ()) w') :
   Ad (at0 b1) (.agg #[(.int .i64 x), (.int .i64 y), (.int .i64 k)]) 3 (lds Az (at0 b1) λ x => K (x, f, ())) V := by
 refine S.Ad i hi rfl ho rfl λ w3 S3 u3 => S3.lds i (t := 149) (fr := (0, 0)) (spR x y k) ?_ (hk w3 S3.upd)
 rw [List.getElem?_set]
 have := (List.getElem?_eq_some_iff.1 hi).1
 rw [if_pos rfl, if_pos this]; rfl
theorem Bb3 {F G : Rw -> Nat} {R : List Rw} (hs : Al4 w s t F G R) {i : Nat} {r : Rw} (hr : R[i]? = some r) {K : Addr -> Int -> Wp} (hK : ∀ q, K q (F r : Int) w) :
  ix s.a s.len (i : Int) (λ q => ld (.int .i64) (q.add (scaled (Int.toNat (i : Int)) 3)) (K q)) w :=
 Uy (c := .int .i64) (cs := Jt) (xs := R.map (rwT F G)) hs (by omega) (x := rwT F G r) (y := (F r : Int)) (by rw [Int.toNat_natCast, List.getElem?_map, hr]; rfl) rfl hK
theorem Bx1 {F G : Rw -> Nat} {R : List Rw} (hs : Al4 w s t F G R) {i : Nat} {r : Rw} (hr : R[i]? = some r) {K : Addr -> Int -> Wp} (hK : ∀ q, K q (G r : Int) w) :
  ix s.a s.len (i : Int) (λ q => ld (.int .i64) ((q.add (scaled (Int.toNat (i : Int)) 3)).add 1) (K q)) w :=
 Tv (c := .int .i64) (cs := Jt) (xs := R.map (rwT F G)) (j := 1) hs (by omega) (x := rwT F G r) (y := (G r : Int)) (by rw [Int.toNat_natCast, List.getElem?_map, hr]; rfl) rfl hK
theorem Ao9 {A : List Int} {at_ : Int} (h : ¬ (at_ < 0 \/ (A.length : Int) < at_)) : Bw7 A (nb A at_.toNat) (Ep A at_) := by
 have := (Xy A (at_ := at_.toNat) (by omega)).2
 rwa [show ((at_.toNat : Nat) : Int) = at_ by omega] at this
theorem An6 {a b c : Bool} {rest : Bool × Unit -> Wp} (h : rest ((a || b || c), ()) w) : join (S := Bool × Unit) (λ J => sif a (J (true, ())) (sif b (J (true, ())) (J (c, ())))) rest w := by
 refine Jb ((a || b || c), ()) (Aa (λ h1 => ⟨Aj ?_, rfl⟩) (λ h1 => Aa (λ h2 => ⟨Aj ?_, rfl⟩) (λ h2 => ⟨Aj ?_, rfl⟩))) h
 all_goals simp_all
theorem Xv {a b : Bool} {rest : Bool × Unit -> Wp} (h : rest ((a || b), ()) w) : join (S := Bool × Unit) (λ J => sif a (J (true, ())) (J (b, ()))) rest w := by
 refine Jb ((a || b), ()) (Aa (λ h1 => ⟨Aj ?_, rfl⟩) (λ h1 => ⟨Aj ?_, rfl⟩)) h
 all_goals simp_all
theorem Rf {n : Nat} {at_ kind count lo hi : Int} : checked n at_ kind count lo hi = if (decide (kind < lo) || decide (kind > hi) || decide (count < 0)) = true then 1 else if (decide (at_ < 0) || decide (at_ > (n : Int))) = true then 2 else 0 := by
 unfold checked
 simp only [Bool.or_eq_true, decide_eq_true_eq, gt_iff_lt, or_assoc]
set_option maxHeartbeats 1000000 in
theorem Am5 {at_ kind count : Int} (hs : Aq w s t 1 (iv A)) (hl : A.length < 2 ^ 39) (hcn : count < 2 ^ 63) {K : Cells.T Az × Int × Unit -> Wp}
  (hK : ∀ w', Ext w w' -> K (spR (Lr A at_ kind count).1.1 (Lr A at_ kind count).1.2.1 (Lr A at_ kind count).1.2.2, (Lr A at_ kind count).2, ()) w') :
  Ac Tryz.prog 104 #[s.v, .int .i64 at_, .int .i64 kind, .int .i64 count] (.tup [(.agg Az), (.one (.int .i64))]) K w := by
 refine Da1 ?_
 unfold F104
 have hlen : A.length = s.len := by have := hs.len1; rwa [List.length_map] at this
 have hchk := Rf (n := A.length) (at_ := at_) (kind := kind) (count := count) (lo := 61) (hi := 64)
 refine (St.start w).Af λ b1 w1 S1 e1 => ?_
 refine An6 ?_
 refine Aa (λ h1 => ?_) (λ h1 => ?_)
 ·have h1 : (decide (kind < 61) || decide (kind > 64) || decide (count < 0)) = true := h1
  rw [if_pos h1] at hchk
  refine Et 0 S1 rfl rfl _ _ _ λ w' x => ?_
  have := hK w' x
  unfold Lr at this
  rw [hchk, if_pos (by decide)] at this
  exact this
 have h1 : (decide (kind < 61) || decide (kind > 64) || decide (count < 0)) = false := h1
 rw [if_neg (by rw [h1]; decide)] at hchk
 refine Xv ?_
 refine Aa (λ h2 => ?_) (λ h2 => ?_)
 ·have h2 : (decide (at_ < 0) || decide (at_ > (A.length : Int))) = true := by rw [hlen]; exact h2
  rw [if_pos h2] at hchk
  refine Et 0 S1 rfl rfl _ _ _ λ w' x => ?_
  have := hK w' x
  unfold Lr at this
  rw [hchk, if_pos (by decide)] at this
  exact this
 have h2 : (decide (at_ < 0) || decide (at_ > (A.length : Int))) = false := by rw [hlen]; exact h2
 rw [if_neg (by rw [h2]; decide)] at hchk
 have hat : ¬ (at_ < 0 \/ (A.length : Int) < at_) := by simpa using h2
 obtain ⟨n, rfl⟩ : ∃ n : Nat, at_ = (n : Int) := ⟨at_.toNat, by omega⟩
 have hnl : n <= A.length := by omega
 have hcount : 0 <= count := by simp at h1; omega
 have okl := Ao9 hat
 have hft := okl.ft; have htn := okl.tn; have hnl2 := okl.nl
 unfold Lr at hK
 rw [hchk, if_neg (by decide)] at hK
 dsimp only at hK
 obtain ⟨l, hld⟩ : ∃ l, l = Ep A (n : Int) := ⟨_, rfl⟩
 obtain ⟨big, hbig⟩ : ∃ big : Bool, big = decide (kind = 63 \/ kind = 64) := ⟨_, rfl⟩
 obtain ⟨C, hC⟩ : ∃ C, C = Bv A l := ⟨_, rfl⟩
 have hCc : C = Bg ((A.drop l.from_).take (l.to_ - l.from_)) l.from_ := hC
 rw [← hld, ← hbig, ← hC] at hK
 rw [← hld] at hft htn hnl2
 have hcle : C.length <= A.length := by
  have := Gx ((A.drop l.from_).take (l.to_ - l.from_)) l.from_
  rw [← hCc, List.length_take, List.length_drop] at this; omega
 refine Ae (λ x W => Hy W w1.heap.size x.1 (Vt C) (toC C) (Dh (Cc C big) C.length) /\ Ext w1 W) ?_ ?_
 ·refine Qs (hs.ext e1) hl hnl λ w2 e2 => ?_
  rw [← hld]
  have go : ∀ bg : Bool, bg = big -> Ac Tryz.prog 126 #[s.v, .agg (Cells.vals Dj (lnR l)).toArray, .bool bg] rS (λ x W => Hy W w1.heap.size x (Vt C) (toC C) (Dh (Cc C big) C.length) /\ Ext w1 W) w2 := λ bg hbg => by
   rw [hbg]
   refine Ro (hs.ext (e1.trans e2)) hl hft (by omega) λ r w3 o3 e3 => ?_
   rw [← hC] at o3
   exact ⟨o3.mono e2.size, e2.trans e3⟩
  refine Aa (λ h3 => ?_) (λ h3 => ?_)
  ·simp only [beq_iff_eq] at h3
   exact go true (by rw [hbig]; simp [h3])
  ·simp only [beq_eq_false_iff_ne, ne_eq] at h3
   exact go (kind == 64) (by rw [hbig, Bool.eq_iff_iff]; simp [h3])
 rintro ⟨r, _⟩ w2 ⟨o2, e2⟩
 dsimp only at o2 ⊢
 have S2 := S1.ext e2
 have R := Qa (Cc C big) C.length
 have hSl := Ws C big
 obtain ⟨R, hR⟩ : ∃ R, R = Dh (Cc C big) C.length := ⟨_, rfl⟩
 have ok : Jg (Cc C big) (Cc C big).length R := by rw [hR, hSl]; exact Qa _ _
 have hRl : R.length <= C.length := by rw [hR]; exact Nv _ _
 rw [← hR] at o2
 have hrl := Hy.len o2
 refine Aa (λ h3 => ?_) (λ h3 => ?_)
 ·simp only [beq_iff_eq] at h3
  have h0 : C.length = 0 := by rw [← hSl]; exact ok.none_ (List.length_eq_zero_iff.1 (by omega))
  refine Et 0 S2 rfl rfl _ _ _ λ w' x => ?_
  have := hK w' x
  rw [if_pos h0] at this
  exact this
 simp only [beq_eq_false_iff_ne, ne_eq] at h3
 have h0 : C.length ≠ 0 := λ hc => by omega
 rw [if_neg h0] at hK
 refine E8 o2.in (by omega) (by omega) λ m q hq hlo hhi => ?_
 have hm := (List.getElem?_eq_some_iff.1 hq).1
 have hwh : q.b <= Jr C (n : Int) /\ Jr C (n : Int) < q.e := by
  rw [hCc] at ok hlo hhi ⊢
  exact At8 (Ws _ _) ok hq hlo hhi
 have htp := Pq count
 have htl := Sm hcn
 rw [Ad5 ok hq hwh.1 hwh.2 htp] at hK
 refine Ld hcount (F5 o2.in (by omega) hm ⟨by omega, htl⟩ ?_)
 obtain ⟨out, hout⟩ : ∃ out : Bool, out = decide (kind = 62 \/ kind = 64) := ⟨_, rfl⟩
 rw [← hout] at hK
 refine Ae (λ x W => (match (if out then Ih R m (times count) else if times count <= R.length - m then some (m, m + times count - 1) else none) with | some y => x = ((y.1 : Int), (y.2 : Int), ()) | none => x.2.1 = -1) /\ w2 = W) ?_ ?_
 ·refine Jb (out, ()) ?_ ?_
  ·refine Aa (λ h4 => ⟨Aj ?_, rfl⟩) (λ h4 => ⟨Aj ?_, rfl⟩)
   ·simp only [beq_iff_eq] at h4
    rw [hout]; simp [h4]
   ·simp only [beq_eq_false_iff_ne, ne_eq] at h4
    rw [hout]; simp [h4]
  refine Aa (λ h4 => ?_) (λ h4 => ?_)
  ·have h4 : out = true := h4
   refine Ld hcount (Xr o2.in (by omega) hm ⟨htp, by omega⟩ ?_)
   rw [if_pos h4]
   cases Ih R m (times count) with
   | none => exact ⟨rfl, rfl⟩
   | some y => exact ⟨rfl, rfl⟩
  ·have h4 : out = false := h4
   rw [if_neg (by rw [h4]; decide)]
   by_cases hc : times count <= R.length - m
   ·rw [if_pos hc, if_pos (by omega)]
    refine ⟨?_, rfl⟩
    dsimp only
    rw [show ((m + times count - 1 : Nat) : Int) = (m : Int) + ((times count : Nat) : Int) - 1 by omega]
   ·rw [if_neg hc, if_neg (by omega)]
    exact ⟨rfl, rfl⟩
 rintro ⟨xf, xt, _⟩ _ ⟨hx, rfl⟩
 cases hp : (if out then Ih R m (times count) else if times count <= R.length - m then some (m, m + times count - 1) else none) with
 | none =>
  rw [hp] at hx hK
  dsimp only at hx
  subst hx
  refine Cm (Et 0 S2 rfl rfl _ _ _ λ w' x => hK w' x)
 | some y =>
  obtain ⟨a, z⟩ := y
  rw [hp] at hx hK
  dsimp only at hx
  cases hx
  have hlt : a < R.length /\ z < R.length := by
   by_cases h4 : out = true
   ·rw [if_pos h4] at hp; exact Ab0 hm hp
   ·rw [if_neg h4] at hp
    split at hp
    ·cases hp; omega
    ·cases hp
  obtain ⟨x, hx⟩ : ∃ x, R[a]? = some x := ⟨_, List.getElem?_eq_getElem hlt.1⟩
  obtain ⟨y, hy⟩ : ∃ x, R[z]? = some x := ⟨_, List.getElem?_eq_getElem hlt.2⟩
  rw [Option.bind_some, Jc hx hy] at hK
  refine Aa (λ hc => ?_) (λ _ => ?_)
  ·simp only [decide_eq_true_eq] at hc; omega
  refine S2.drew λ w3 S3 e3 _ => Bb3 (o2.ext e3).in hx λ q1 => Bx1 (o2.ext e3).in hy λ q2 => ?_
  refine S3.Ad 0 rfl rfl rfl rfl λ w4 S4 u4 => S4.lds 0 (spR (Vt C x) (toC C y) 0) rfl (hK w4 S4.upd)
end
end Go.Proofs.YtabcpghhfeplaaaGreat
namespace Go.Proofs.YtabcpghhfeplaaaGreat
open Trx Gly Clu Lns Obx
namespace Obx
variable {C : List Cel} {o s : Int}
def Jk (C : List Cel) (o s : Int) : Nat -> List Nat
 | 0 => []
 | j + 1 => match C[j]? with
  | none => Jk C o s j
  | some c => if c.is o then j :: Jk C o s j else if c.is s then (Jk C o s j).tail else Jk C o s j
def O1 (j : Nat) : List Nat -> List (Nat × Nat)
 | [] => []
 | x :: _ => [(x, j)]
def Iy (C : List Cel) (o s : Int) : Nat -> List (Nat × Nat)
 | 0 => []
 | j + 1 => match C[j]? with
  | none => Iy C o s j
  | some c => if c.is o then Iy C o s j else if c.is s then Iy C o s j ++ O1 j (Jk C o s j) else Iy C o s j
def Yz (o s : Int) : List Cel -> Nat -> List Nat -> List (Nat × Nat)
 | [], _, _ => []
 | c :: r, j, st => if c.is o then Yz o s r (j + 1) (j :: st) else if c.is s then O1 j st ++ Yz o s r (j + 1) st.tail else Yz o s r (j + 1) st
theorem Ca5 {c : Cel} (h : c.is o = true) (hos : o ≠ s) : c.is s = false := by
 unfold Cel.is at *
 rw [Bool.and_eq_true] at h
 have h1 : c.atom = o := by simpa using h.2
 rw [h1]
 rw [Bool.and_eq_false_iff]; right
 simpa using hos
theorem Ul : ∀ (j x : Nat), x ∈ Jk C o s j -> x < j /\ ∃ c, C[x]? = some c /\ c.is o = true
 | 0, x, h => by simp [Jk] at h
 | j + 1, x, h => by
  rw [Jk] at h
  split at h
  ·have := Ul j x h; exact ⟨by omega, this.2⟩
  ·rename_i c hc
   split at h
   ·rename_i ho
    rcases List.mem_cons.1 h with rfl | h
    ·exact ⟨Nat.lt_succ_self _, c, hc, ho⟩
    ·have := Ul j x h; exact ⟨by omega, this.2⟩
   ·split at h
    ·have := Ul j x (List.mem_of_mem_tail h); exact ⟨by omega, this.2⟩
    ·have := Ul j x h; exact ⟨by omega, this.2⟩
theorem Q9 : ∀ (j : Nat) (x : Nat × Nat), x ∈ Iy C o s j -> x.2 < j /\ x.1 < x.2 /\ (∃ c, C[x.1]? = some c /\ c.is o = true) /\ ∃ c, C[x.2]? = some c /\ c.is o = false /\ c.is s = true
 | 0, x, h => by simp [Iy] at h
 | j + 1, x, h => by
  have up : x ∈ Iy C o s j -> x.2 < j + 1 /\ x.1 < x.2 /\ (∃ c, C[x.1]? = some c /\ c.is o = true) /\ ∃ c, C[x.2]? = some c /\ c.is o = false /\ c.is s = true := λ h => by
   have := Q9 j x h; exact ⟨by omega, this.2⟩
  rw [Iy] at h
  split at h
  ·exact up h
  ·rename_i c hc
   split at h
   ·exact up h
   ·rename_i ho
    split at h
    ·rename_i hs
     rcases List.mem_append.1 h with h | h
     ·exact up h
     ·cases hy : Jk C o s j with
      | nil => rw [hy] at h; simp [O1] at h
      | cons y r =>
       rw [hy, O1, List.mem_singleton] at h; subst h
       have := Ul j y (by rw [hy]; exact List.mem_cons_self)
       exact ⟨Nat.lt_succ_self _, this.1, this.2, c, hc, by simpa using ho, hs⟩
    ·exact up h
theorem V7 : ∀ j, j <= C.length -> Iy C o s j ++ Yz o s (C.drop j) j (Jk C o s j) = Yz o s C 0 []
 | 0, _ => by simp [Iy, Jk]
 | j + 1, h => by
  rw [← V7 j (by omega)]
  obtain ⟨c, hc⟩ : ∃ c, C[j]? = some c := ⟨_, List.getElem?_eq_getElem (by omega)⟩
  rw [drop_at hc, Iy, Jk, Yz, hc]
  dsimp only
  by_cases h1 : c.is o = true
  ·rw [if_pos h1, if_pos h1, if_pos h1]
  ·rw [if_neg h1, if_neg h1, if_neg h1]
   by_cases h2 : c.is s = true
   ·rw [if_pos h2, if_pos h2, if_pos h2]
    rw [List.append_assoc]
   ·rw [if_neg h2, if_neg h2, if_neg h2]
theorem Br2 {j : Nat} (h : j <= C.length) : Iy C o s C.length = Iy C o s j ++ Yz o s (C.drop j) j (Jk C o s j) := by
 rw [V7 j h, ← V7 C.length (Nat.le_refl _), List.drop_length]; simp [Yz]
theorem Ae4 (hos : o ≠ s) : ∀ (j k d : Nat), j <= C.length -> 1 <= k -> Io C o s (List.range j).reverse k d = (Jk C o s j)[k - 1 + d]?
 | 0, k, d, _, _ => by simp [Io, Jk]
 | j + 1, k, d, h, hk => by
  obtain ⟨c, hc⟩ : ∃ c, C[j]? = some c := ⟨_, List.getElem?_eq_getElem (by omega)⟩
  have ih := λ k d hk => Ae4 hos j k d (by omega) hk
  rw [List.range_succ, List.reverse_append]
  show Io C o s (j :: (List.range j).reverse) k d = _
  rw [Io, hc, Jk, hc]
  dsimp only
  by_cases h1 : c.is o = true
  ·rw [if_neg (by rw [Ca5 h1 hos]; decide), if_neg (by rw [h1]; decide), if_pos h1]
   by_cases hd : 0 < d
   ·rw [if_pos hd, ih k (d - 1) hk, show k - 1 + d = (k - 1 + (d - 1)) + 1 by omega, List.getElem?_cons_succ]
   ·rw [if_neg hd]
    obtain rfl : d = 0 := by omega
    by_cases hk1 : k = 1
    ·rw [if_pos hk1, hk1]; rfl
    ·rw [if_neg hk1, ih (k - 1) 0 (by omega), show k - 1 + 0 = (k - 1 - 1 + 0) + 1 by omega, List.getElem?_cons_succ]
     rfl
  ·rw [if_neg h1]
   by_cases h2 : c.is s = true
   ·rw [if_pos h2, if_pos h2, ih k (d + 1) hk, List.getElem?_tail, show k - 1 + (d + 1) = k - 1 + d + 1 by omega]
   ·rw [if_neg h2, if_pos (by simpa using h1), if_neg h2, ih k d hk]
def inB (i : Nat) (x : Nat × Nat) : Bool := decide (x.1 <= i) && decide (i <= x.2)
theorem Ao0 (hos : o ≠ s) {i : Nat} : ∀ (r : List Cel) (j : Nat) (L st : List Nat) (k : Nat), C.drop j = r -> i <= j -> (∀ c, C[i]? = some c -> c.is o = true -> i < j) -> (∀ x ∈ L, i < x) -> (∀ x ∈ st, x <= i) -> 1 <= k ->
  ((Yz o s r j (L ++ st)).filter (inB i))[k - 1]? = (Io C s o (List.range' j r.length) k L.length).bind λ c => (st[k - 1]?).map λ x => (x, c)
 | [], j, L, st, k, _, _, _, _, _, _ => by simp [Yz, Io]
 | c :: r, j, L, st, k, hr, hij, hop, hL, hst, hk => by
  have hc : C[j]? = some c := by
   have : (C.drop j)[0]? = some c := by rw [hr]; rfl
   rw [List.getElem?_drop] at this; exact this
  have hr' : C.drop (j + 1) = r := by rw [← List.drop_drop, hr]; rfl
  have ih := λ L st k h1 h2 h3 => Ao0 (i := i) hos r (j + 1) L st k hr' (by omega) (λ _ _ _ => by omega) h1 h2 h3
  rw [List.length_cons, List.range'_succ, Yz, Io, hc]
  dsimp only
  by_cases h1 : c.is o = true
  ·rw [if_pos h1, if_pos h1]
   have hij' : i < j := by
    rcases Nat.lt_or_ge i j with q | q
    ·exact q
    ·have e : i = j := by omega
     subst e; exact hop c hc h1
   have := ih (j :: L) st k (λ x hx => by rcases List.mem_cons.1 hx with rfl | hx; exact hij'; exact hL x hx) hst hk
   rw [List.cons_append] at this
   exact this
  ·rw [if_neg h1, if_neg h1]
   by_cases h2 : c.is s = true
   ·rw [if_pos h2, if_neg (by rw [h2]; decide)]
    cases L with
    | cons x L =>
     have hx : inB i (x, j) = false := by
      have := hL x List.mem_cons_self
      unfold inB
      simp; omega
     rw [List.cons_append, O1, List.tail_cons, List.singleton_append, List.filter_cons_of_neg (by rw [hx]; decide), if_pos (by simp), List.length_cons, Nat.add_sub_cancel]
     exact ih L st k (λ y hy => hL y (List.mem_cons_of_mem _ hy)) hst hk
    | nil =>
     rw [if_neg (by simp)]
     cases st with
     | nil =>
      have e := λ k hk => ih [] [] k (λ _ h => by simp at h) (λ _ h => by simp at h) hk
      show ((Yz o s r (j + 1) ([] ++ [])).filter (inB i))[k - 1]? = _
      rw [e k hk]
      simp
     | cons x st =>
      have hx : inB i (x, j) = true := by
       have := hst x List.mem_cons_self
       unfold inB
       simp; omega
      show (((x, j) :: Yz o s r (j + 1) st).filter (inB i))[k - 1]? = _
      rw [List.filter_cons_of_pos hx]
      by_cases hk1 : k = 1
      ·subst hk1; simp
      ·rw [if_neg hk1]
       have := ih [] st (k - 1) (λ _ h => by simp at h) (λ y hy => hst y (List.mem_cons_of_mem _ hy)) (by omega)
       rw [List.nil_append] at this
       obtain ⟨n, rfl⟩ : ∃ n, k = n + 2 := ⟨k - 2, by omega⟩
       exact this
   ·rw [if_neg h2, if_pos (by simpa using h2)]
    exact ih L st k hL hst hk
theorem Ak9 (hos : o ≠ s) {at_ : Int} {k : Nat} (hk : 1 <= k) : Ve C at_ o s k = ((Iy C o s C.length).filter (inB (Ef C at_)))[k - 1]?.bind λ x => pick C (some x.1) (some x.2) := by
 have hle := Ql C at_
 unfold Ve
 dsimp only
 generalize Ef C at_ = i at *
 by_cases hg : i = C.length \/ C.length < k
 ·rw [if_pos hg]
  rcases hg with rfl | hg
  ·have : (Iy C o s C.length).filter (inB C.length) = [] := by
    rw [List.filter_eq_nil_iff]
    intro x hx hc
    have := (Q9 _ x hx).1
    unfold inB at hc
    simp at hc; omega
   rw [this]; rfl
  ·have h1 : ∀ j, (Iy C o s j).length <= j := by
    intro j
    induction j with
    | zero => simp [Iy]
    | succ j ih =>
     rw [Iy]
     split
     ·omega
     ·split
      ·omega
      ·split
       ·rw [List.length_append]
        have : (O1 j (Jk C o s j)).length <= 1 := by cases Jk C o s j <;> simp [O1]
        omega
       ·omega
   have := h1 C.length
   have := List.length_filter_le (inB i) (Iy C o s C.length)
   rw [List.getElem?_eq_none (by omega)]; rfl
 rw [if_neg hg]
 have hi : i < C.length := by omega
 obtain ⟨c, hc⟩ : ∃ c, C[i]? = some c := ⟨_, List.getElem?_eq_getElem hi⟩
 rw [hc]
 simp only [Option.map_some, Option.getD_some]
 obtain ⟨j, hj⟩ : ∃ j, j = if c.is o = true then i + 1 else i := ⟨_, rfl⟩
 have e1 : Gf false C.length (if c.is o = true then (i : Int) else (i : Int) - 1) = (List.range j).reverse := by
  unfold Gf
  rw [hj, if_neg (by decide)]
  by_cases ho : c.is o = true
  ·rw [if_pos ho, if_pos ho]; rfl
  ·rw [if_neg ho, if_neg ho]
   rw [show ((i : Int) - 1 + 1).toNat = i by omega]
 have e2 : Gf true C.length (if c.is o = true then (i : Int) + 1 else (i : Int)) = List.range' j (C.drop j).length := by
  unfold Gf
  rw [hj, List.length_drop, if_pos rfl]
  by_cases ho : c.is o = true
  ·rw [if_pos ho, if_pos ho]; rfl
  ·rw [if_neg ho, if_neg ho]; rfl
 have hjl : j <= C.length := by rw [hj]; split <;> omega
 have hij : i <= j := by rw [hj]; split <;> omega
 rw [e1, e2, Ae4 hos j k 0 hjl hk, Nat.add_zero, Br2 hjl, List.filter_append]
 have e3 : (Iy C o s j).filter (inB i) = [] := by
  rw [List.filter_eq_nil_iff]
  intro x hx hcc
  obtain ⟨h1, _, _, d, hd, h4, _⟩ := Q9 _ x hx
  unfold inB at hcc
  simp at hcc
  rw [hj] at h1
  split at h1
  ·rename_i ho
   have : x.2 = i := by omega
   rw [this, hc] at hd
   cases hd
   rw [ho] at h4; cases h4
  ·omega
 rw [e3, List.nil_append]
 have := Ao0 (C := C) hos (i := i) (C.drop j) j [] (Jk C o s j) k rfl hij (λ d hd ho => by
  rw [hc] at hd; cases hd
  rw [hj, if_pos ho]; omega) (λ _ h => by simp at h) (λ x hx => by
  obtain ⟨h1, d, hd, ho⟩ := Ul _ x hx
  rw [hj] at h1
  split at h1
  ·omega
  ·omega) hk
 rw [List.nil_append] at this
 rw [this]
 show pick C _ (Io C s o (List.range' j (C.drop j).length) k 0) = ((Io C s o (List.range' j (C.drop j).length) k 0).bind _).bind _
 cases hn : Io C s o (List.range' j (C.drop j).length) k 0 with
 | none => cases (Jk C o s j)[k - 1]? <;> rfl
 | some y => cases (Jk C o s j)[k - 1]? <;> rfl
theorem Be0 {A : List Int} {off : Nat} {at_ : Int} (h0 : (off : Int) <= at_) {j : Nat} {c : Cel} (hc : (Bg A off)[j]? = some c) : ((c.from_ : Int) <= at_ ↔ j <= Ef (Bg A off) at_) /\ (c.to_ = c.from_ + 1 -> (at_ <= (c.from_ : Int) ↔ Ef (Bg A off) at_ <= j)) := by
 obtain ⟨s1, s2⟩ := Ua (C := Bg A off) (at_ := at_)
 have hle := Ql (Bg A off) at_
 have hjl := (List.getElem?_eq_some_iff.1 hc).1
 generalize Ef (Bg A off) at_ = i at *
 have own : ∀ d, (Bg A off)[i]? = some d -> (d.from_ : Int) <= at_ := λ d hd => by
  cases hii : i with
  | zero => rw [hii] at hd; have := Az1 hd; omega
  | succ n =>
   obtain ⟨e, he⟩ : ∃ e, (Bg A off)[n]? = some e := ⟨_, List.getElem?_eq_getElem (by omega)⟩
   have := s1 n e (by omega) he
   rw [hii] at hd
   have := Ag2 he hd
   omega
 refine ⟨⟨λ h => ?_, λ h => ?_⟩, λ ha => ⟨λ h => ?_, λ h => ?_⟩⟩
 ·rcases Nat.lt_or_ge i j with q | q
  ·obtain ⟨d, hd⟩ : ∃ e, (Bg A off)[i]? = some e := ⟨_, List.getElem?_eq_getElem (by omega)⟩
   have := s2 d hd
   have := (Q8 q hd hc).1
   omega
  ·exact q
 ·rcases Nat.lt_or_ge j i with q | q
  ·have := s1 j c q hc
   obtain ⟨a, b, _, _, hab, _, hf, ht, _⟩ := (Ig hc).ex
   omega
  ·have e : j = i := by omega
   subst e; exact own c hc
 ·rcases Nat.lt_or_ge j i with q | q
  ·have := s1 j c q hc
   omega
  ·exact q
 ·obtain ⟨d, hd⟩ : ∃ e, (Bg A off)[i]? = some e := ⟨_, List.getElem?_eq_getElem (by omega)⟩
  have := s2 d hd
  rcases Nat.lt_or_ge i j with q | q
  ·have := (Q8 q hd hc).1
   omega
  ·have e : i = j := by omega
   subst e
   rw [hc] at hd; cases hd
   omega
end Obx
namespace Obx
variable {C : List Cel} {q : Int}
def Vr (q : Int) : List Cel -> Nat -> Nat -> List Nat
 | [], _, _ => []
 | c :: r, j, s => if (c.is q && s % 2 == 0) = true then j :: Vr q r (j + 1) (if c.is 92 then s + 1 else 0) else Vr q r (j + 1) (if c.is 92 then s + 1 else 0)
def Rq (i : Nat) : List Nat -> Option (Nat × Nat)
 | a :: b :: r => if i <= b then some (a, b) else Rq i r
 | _ => none
theorem Ti {i : Nat} : ∀ (C : List Cel) (j s : Nat), Ij q i C j none s = Rq i (Vr q C j s) /\ ∀ k, Ij q i C j (some k) s = Rq i (k :: Vr q C j s)
 | [], j, s => ⟨rfl, λ _ => rfl⟩
 | c :: r, j, s => by
  rw [Nz, Vr]
  by_cases h : (c.is q && s % 2 == 0) = true
  ·rw [if_neg (by rw [h]; decide), if_pos h]
   obtain ⟨i1, i2⟩ := Ti (i := i) r (j + 1) (if c.is 92 then s + 1 else 0)
   refine ⟨i2 j, λ k => ?_⟩
   rw [Nz, if_neg (by rw [h]; decide)]
   dsimp only
   rw [Rq, i1]
  ·rw [if_pos (by simpa using h), if_neg h]
   obtain ⟨i1, i2⟩ := Ti (i := i) r (j + 1) (if c.is 92 then s + 1 else 0)
   refine ⟨i1, λ k => ?_⟩
   rw [Nz, if_pos (by simpa using h)]
   exact i2 k
def slB (C : List Cel) : Nat -> Nat
 | 0 => 0
 | j + 1 => match C[j]? with
  | none => slB C j
  | some c => if c.is 92 then slB C j + 1 else 0
def mkB (C : List Cel) (q : Int) : Nat -> List Nat
 | 0 => []
 | j + 1 => match C[j]? with
  | none => mkB C q j
  | some c => if (c.is q && slB C j % 2 == 0) = true then mkB C q j ++ [j] else mkB C q j
theorem Bl8 : ∀ j, slB C j <= j
 | 0 => Nat.le_refl _
 | j + 1 => by
  have := Bl8 j
  rw [slB]
  split
  ·omega
  ·split <;> omega
theorem Bc3 : ∀ j, j <= C.length -> mkB C q j ++ Vr q (C.drop j) j (slB C j) = Vr q C 0 0
 | 0, _ => by simp [mkB, slB]
 | j + 1, h => by
  rw [← Bc3 j (by omega)]
  obtain ⟨c, hc⟩ : ∃ c, C[j]? = some c := ⟨_, List.getElem?_eq_getElem (by omega)⟩
  rw [drop_at hc, mkB, slB, Vr, hc]
  dsimp only
  by_cases h1 : (c.is q && slB C j % 2 == 0) = true
  ·rw [if_pos h1, if_pos h1]; simp
  ·rw [if_neg h1, if_neg h1]
theorem Bt7 : Vr q C 0 0 = mkB C q C.length := by
 rw [← Bc3 C.length (Nat.le_refl _), List.drop_length]; simp [Vr]
theorem Bn9 : ∀ (j x : Nat), x ∈ mkB C q j -> x < j /\ ∃ c, C[x]? = some c /\ c.is q = true
 | 0, x, h => by simp [mkB] at h
 | j + 1, x, h => by
  have up : x ∈ mkB C q j -> x < j + 1 /\ ∃ c, C[x]? = some c /\ c.is q = true := λ h => by
   have := Bn9 j x h; exact ⟨by omega, this.2⟩
  rw [mkB] at h
  split at h
  ·exact up h
  ·rename_i c hc
   split at h
   ·rename_i ho
    rcases List.mem_append.1 h with h | h
    ·exact up h
    ·rw [List.mem_singleton] at h; subst h
     rw [Bool.and_eq_true] at ho
     exact ⟨Nat.lt_succ_self _, c, hc, ho.1⟩
   ·exact up h
theorem Xb : ∀ j, (mkB C q j).length <= j
 | 0 => Nat.le_refl _
 | j + 1 => by
  have := Xb j
  rw [mkB]
  split
  ·omega
  ·split
   ·rw [List.length_append, List.length_singleton]; omega
   ·omega
theorem Bb9 (i : Nat) : Ij q i C 0 none 0 = Rq i (mkB C q C.length) := by rw [(Ti C 0 0).1, Bt7]
theorem Aw4 {i : Nat} {M : List Nat} {n a b : Nat} (ha : M[n]? = some a) (hb : M[n + 1]? = some b) : Rq i (M.drop n) = if i <= b then some (a, b) else Rq i (M.drop (n + 2)) := by
 rw [drop_at ha, drop_at hb, Rq]
theorem Bg3 {i : Nat} {L : List Nat} (h : L.length <= 1) : Rq i L = none := by
 match L, h with
 | [], _ => rfl
 | [_], _ => rfl
 | _ :: _ :: _, h => simp at h
theorem Bh2 {A : List Int} {off : Nat} {at_ : Int} (h0 : (off : Int) <= at_) {j : Nat} {c : Cel} (hc : (Bg A off)[j]? = some c) (h1 : c.to_ = c.from_ + 1) {z : Cel} (hz : (Bg A off)[(Bg A off).length - 1]? = some z) :
  ((c.from_ : Int) < (if ((off + A.length : Nat) : Int) <= at_ then (z.from_ : Int) else at_)) ↔ j < Jr (Bg A off) at_ := by
 obtain ⟨s1, s2⟩ := Ua (C := Bg A off) (at_ := at_)
 have hle := Ql (Bg A off) at_
 have hjl := (List.getElem?_eq_some_iff.1 hc).1
 have hzt := Bj4 hz (by omega)
 unfold Jr
 by_cases h : ((off + A.length : Nat) : Int) <= at_
 ·rw [if_pos h]
  have hf : ¬ Ef (Bg A off) at_ < (Bg A off).length := λ hf => by
   obtain ⟨d, hd⟩ : ∃ e, (Bg A off)[Ef (Bg A off) at_]? = some e := ⟨_, List.getElem?_eq_getElem hf⟩
   have := s2 d hd
   obtain ⟨i, k, _, _, _, hk, _, ht, _⟩ := (Ig hd).ex
   omega
  rw [if_neg hf]
  constructor
  ·intro q
   rcases Nat.lt_or_ge j ((Bg A off).length - 1) with u | u
   ·exact u
   ·have e : j = (Bg A off).length - 1 := by omega
    rw [e, hz] at hc; cases hc; omega
  ·intro q
   have := (Q8 q hc hz).2.1
   omega
 ·rw [if_neg h]
  have hf : Ef (Bg A off) at_ < (Bg A off).length := by
   rcases Nat.lt_or_ge (Ef (Bg A off) at_) (Bg A off).length with u | u
   ·exact u
   ·have := s1 ((Bg A off).length - 1) z (by omega) hz
    omega
  rw [if_pos hf]
  have := (Be0 h0 hc).2 h1
  omega
theorem Ry {C : List Cel} {j : Nat} {c : Cel} (h : C[j]? = some c) : Bh C (j + 1) = if c.kind = 0 then Bh C j else j + 1 := by
 rw [Bh, h]
 by_cases hk : c.kind = 0
 ·rw [if_pos hk, if_pos (by rw [Option.map_some, hk])]
 ·rw [if_neg hk, if_neg (by rw [Option.map_some]; exact λ q => hk (Option.some.inj q))]
end Obx
namespace Obx
def frm (C : List Cel) (j : Nat) : Nat := (C[j]?.map (·.from_)).getD 0
def too (C : List Cel) (j : Nat) : Nat := (C[j]?.map (·.to_)).getD 0
theorem Kt {C : List Cel} {j : Nat} {c : Cel} (h : C[j]? = some c) : frm C j = c.from_ := by unfold frm; rw [h]; rfl
theorem Yx {C : List Cel} {j : Nat} {c : Cel} (h : C[j]? = some c) : too C j = c.to_ := by unfold too; rw [h]; rfl
structure Cp5 (A : List Int) (l : Ln) (c : Cel) (ci cj : Nat) : Prop where
 from_ : c.from_ = l.from_ + ci
 to_ : c.to_ = l.from_ + cj
 lt : ci < cj
 le : c.to_ <= l.to_
 atom : A[c.from_]? = some c.atom
 kind : c.kind = wrd c.atom
 alone : c.alone = decide (c.to_ = c.from_ + 1)
theorem Xz {A : List Int} {l : Ln} (h1 : l.from_ <= l.to_) (h2 : l.to_ <= A.length) {i : Nat} {c : Cel} (hc : (Bv A l)[i]? = some c) : ∃ ci cj, (cuts ((A.drop l.from_).take (l.to_ - l.from_)))[i]? = some ci /\ (cuts ((A.drop l.from_).take (l.to_ - l.from_)))[i + 1]? = some cj /\ Cp5 A l c ci cj := by
 obtain ⟨ci, cj, g1, g2, g3, g4, g5, g6, _, _, g9, g10, g11⟩ := (Ig hc).ex
 rw [List.length_take, List.length_drop] at g4
 refine ⟨ci, cj, g1, g2, g5, g6, g3, by omega, ?_, g10, ?_⟩
 ·rw [List.getElem?_take, if_pos (by omega), List.getElem?_drop] at g9
  rw [g5]; exact g9
 ·rw [Bool.eq_iff_iff, g11]; simp; omega
end Obx
namespace Obx
structure Chain (C : List Cel) : Prop where
 pos : ∀ (i : Nat) c, C[i]? = some c -> c.from_ < c.to_
 next : ∀ (i : Nat) c d, C[i]? = some c -> C[i + 1]? = some d -> c.to_ = d.from_
theorem Chain.mono {C : List Cel} (h : Chain C) : ∀ (d i : Nat) c e, C[i]? = some c -> C[i + 1 + d]? = some e -> c.to_ <= e.from_
 | 0, i, c, e, h1, h2 => Nat.le_of_eq (h.next i c e h1 h2)
 | d + 1, i, c, e, h1, h2 => by
  obtain ⟨x, hx⟩ : ∃ x, C[i + 1]? = some x := ⟨_, List.getElem?_eq_getElem (by have := (List.getElem?_eq_some_iff.1 h2).1; omega)⟩
  have e1 := h.next i c x h1 hx
  have := h.mono d (i + 1) x e hx (by rw [show i + 1 + 1 + d = i + 1 + (d + 1) by omega]; exact h2)
  have := h.pos _ x hx
  omega
theorem Chain.lt {C : List Cel} (h : Chain C) {i j : Nat} {c e : Cel} (hij : i < j) (h1 : C[i]? = some c) (h2 : C[j]? = some e) : c.to_ <= e.from_ := h.mono (j - i - 1) i c e h1 (by rw [show i + 1 + (j - i - 1) = j by omega]; exact h2)
theorem Aa6 (A : List Int) (off : Nat) : Chain (Bg A off) := ⟨λ i c h => by obtain ⟨a, b, _, _, g, _, g1, g2, _⟩ := (Ig h).ex; omega, λ i c d h h' => Ag2 h h'⟩
end Obx
end Go.Proofs.YtabcpghhfeplaaaGreat
namespace Go.Proofs.YtabcpghhfeplaaaGreat
open Go Go.Vx Gly Clu Rgl Lns Trx Obx
section
variable {w w' : World} {A : List Int} {s : Sl} {t : TypeId}
theorem Vg {c : Sl} {L : List Nat} (h : Aq w c t 1 (nv L)) {j v : Nat} (hv : L[j]? = some v) {K : Addr -> Int -> Wp} (hK : ∀ q, K q (v : Int) w) : ix c.a c.len (j : Int) (λ q => ld (.int .i64) (q.add (scaled (Int.toNat (j : Int)) 1)) (K q)) w := by
 refine Iu (c := .int .i64) (xs := L.map λ (n : Nat) => (n : Int)) (t := t) ?_ (by omega) (by rw [Int.toNat_natCast, List.getElem?_map, hv]; rfl) hK
 rw [List.map_map]; exact h
theorem Aq.Ap1 {c : Sl} {L : List Nat} (h : Aq w c t 1 (nv L)) : L.length = c.len := by have := h.len1; rwa [List.length_map] at this
theorem nvi (l : List Nat) : nv l = iv (l.map λ (n : Nat) => (n : Int)) := by show l.map _ = (l.map _).map _; rw [List.map_map]; rfl
theorem Bx3 {r : Sl} {L : List Nat} {v b N : Nat} {K : Sl -> Wp} (hr : Ah w N r 3 1 (nv L)) (hb : w.heap[b]? = some (.cells #[.int .i64 (v : Int)] 3 (0, 0))) (hl : L.length < 2 ^ 40) (hN : N <= w.heap.size)
  (hK : ∀ r' w', Ah w' N r' 3 1 (nv (L ++ [v])) -> Upd r.blk w w' -> K r' w') :
  Df Tryz.prog (.one (.one .sl)) (Builtin.append_ #[26, 26] 26 #[.slice r.a r.len r.cap, .slice (some (at0 b)) 1 1]) K w := by
 rw [nvi] at hr
 refine push hr hb (by rw [List.length_map]; exact hl) hN λ r' w' o u => hK r' w' ?_ u
 rw [nvi, List.map_append]; exact o
theorem Xp {c : Cel} (hs : Aq w s t 1 (iv A)) (ha : A[c.from_]? = some c.atom) (hl : A.length < 2 ^ 40) (h1 : c.alone = decide (c.to_ = c.from_ + 1)) {q : Int} {K : Bool -> Wp} (h : K (c.is q) w) :
  Ac Tryz.prog 153 #[s.v, .int .i64 (c.from_ : Int), .int .i64 (c.to_ : Int), .int .i64 q] rB K w := by
 refine Cv3 ?_
 unfold F153
 have hlt := (List.getElem?_eq_some_iff.1 ha).1
 have ew : W64 ((c.from_ : Int) + 1) = ((c.from_ + 1 : Nat) : Int) := by rw [wrap64 (by omega) (by omega)]; omega
 rw [ew]
 unfold Cel.is at h
 refine Aa (λ h2 => ?_) (λ h2 => ?_)
 ·simp only [beq_iff_eq] at h2
  rw [h1, decide_eq_true (show c.to_ = c.from_ + 1 by omega), Bool.true_and] at h
  exact rdA hs ha λ _ => h
 ·simp only [beq_eq_false_iff_ne, ne_eq] at h2
  rw [h1, decide_eq_false (show ¬ c.to_ = c.from_ + 1 by omega), Bool.false_and] at h
  exact h
set_option maxHeartbeats 1000000 in
theorem Am9 {l : Ln} {c : Sl} {t' : TypeId} {q : Int} (hs : Aq w s t 1 (iv A)) (hl : A.length < 2 ^ 39) (h1 : l.from_ <= l.to_) (h2 : l.to_ <= A.length) (hc : Aq w c t' 1 (nv (cuts ((A.drop l.from_).take (l.to_ - l.from_)))))
  {K : Sl -> Wp} (hK : ∀ s' w', Ah w' w.heap.size s' 3 1 (nv ((mkB (Bv A l) q (Bv A l).length).map (frm (Bv A l)))) -> Ext w w' -> K s' w') :
  Ac Tryz.prog 133 #[s.v, .agg (Cells.vals Dj (lnR l)).toArray, c.v, .int .i64 q] rS K w := by
 refine Cx2 ?_
 unfold F133
 have hn : (Bv A l).length = (cuts ((A.drop l.from_).take (l.to_ - l.from_))).length - 1 := Js _ _
 have hcp := Lj ((A.drop l.from_).take (l.to_ - l.from_))
 have hcl := Aq.Ap1 hc
 have hnl := Gx ((A.drop l.from_).take (l.to_ - l.from_)) l.from_
 rw [List.length_take, List.length_drop] at hnl
 have cat := λ i c => Xz (A := A) (l := l) h1 h2 (i := i) (c := c)
 have hnl : (Bv A l).length <= A.length := by unfold Bv; omega
 generalize Bv A l = C at *
 refine (St.start w).Af λ b1 w1 S1 e1 => ?_
 refine Ae (λ x W => Ah W w1.heap.size x.1 3 1 (nv ((mkB C q C.length).map (frm C))) /\ Ext w1 W) ?_ (λ x W h => hK _ _ (h.1.mono e1.size) (e1.trans h.2))
 refine Am (λ x W => ∃ i : Nat, i <= C.length /\ x.2 = ((slB C i : Int), (i : Int), ()) /\ Ah W w1.heap.size x.1 3 1 (nv ((mkB C q i).map (frm C))) /\ Ext w1 W) (λ x _ => ((C.length : Int) - x.2.2.1).toNat) ⟨0, Nat.zero_le _, rfl, Ah.nil _ _ _ _, Ext.refl w1⟩ ?_
 rintro ⟨r, _⟩ W ⟨i, hi, rfl, hr, eW⟩
 dsimp only at hr ⊢
 have hsl := Bl8 (C := C) i
 have ew : W64 ((i : Int) + 1) = ((i + 1 : Nat) : Int) := by rw [wrap64 (by omega) (by omega)]; omega
 rw [ew]
 refine Aa (λ hc1 => ?_) (λ hc1 => ?_)
 ·simp only [decide_eq_true_eq] at hc1
  obtain ⟨x, hx⟩ : ∃ x, C[i]? = some x := ⟨_, List.getElem?_eq_getElem (by omega)⟩
  obtain ⟨ci, cj, hci, hcj, q1⟩ := cat i x hx
  have f1 := q1.from_; have f2 := q1.to_; have f3 := q1.le; have f4 := q1.lt
  have ew1 : W64 ((l.from_ : Int) + (ci : Int)) = (x.from_ : Int) := by rw [wrap64 (by omega) (by omega)]; omega
  have ew2 : W64 ((l.from_ : Int) + (cj : Int)) = (x.to_ : Int) := by rw [wrap64 (by omega) (by omega)]; omega
  have ew3 : W64 ((slB C i : Int) + 1) = ((slB C i + 1 : Nat) : Int) := by rw [wrap64 (by omega) (by omega)]; omega
  refine Ae (λ y W' => Ah W' w1.heap.size y.1 3 1 (nv ((mkB C q (i + 1)).map (frm C))) /\ y.2 = ((slB C (i + 1) : Int), ()) /\ Ext w1 W') ?_ (λ y W' h => ?_)
  ·refine (S1.ext eW).drew λ w2 S2 e2 _ => S2.ld 0 rfl (x := (l.from_ : Int)) rfl (Vg (hc.ext S2.upd) hci λ _ => ?_)
   refine S2.drew λ w3 S3 e3 _ => S3.ld 0 rfl (x := (l.from_ : Int)) rfl (Vg (hc.ext S3.upd) hcj λ _ => ?_)
   rw [ew1, ew2, ew3]
   have x3 := (eW.trans e2).trans e3
   refine Ae (λ y W' => Ah W' w1.heap.size y.1 3 1 (nv ((mkB C q (i + 1)).map (frm C))) /\ Ext w1 W') ?_ ?_
   ·refine Ae (λ y W' => y = ((x.is q && slB C i % 2 == 0), ()) /\ w3 = W') ?_ ?_
    ·refine Xp (hs.ext S3.upd) q1.atom (by omega) q1.alone ?_
     refine Aa (λ h3 => ?_) (λ h3 => ?_)
     ·rw [h3, Bool.true_and]
      refine Ci (by decide) ⟨Aj ?_, rfl⟩
      rw [Int.tmod_eq_emod_of_nonneg (by omega)]
      simp only [beq_iff_eq]; omega
     ·rw [h3, Bool.false_and]; exact ⟨rfl, rfl⟩
    rintro _ _ ⟨rfl, rfl⟩
    rw [mkB, hx]
    dsimp only
    refine Aa (λ h3 => ?_) (λ h3 => ?_)
    ·have h3 : (x.is q && slB C i % 2 == 0) = true := h3
     rw [if_pos h3]
     have hml := Xb (C := C) (q := q) i
     refine Bo λ b8 w4 e4 n4 _ _ => Bx3 ((hr.ext (e2.trans e3)).ext e4) n4 (by rw [List.length_map]; omega) (by have := x3.size; have := e4.size; omega) λ r' w5 o5 u5 => ?_
     refine ⟨?_, (x3.trans e4).step u5 λ k hk => hr.Di hk⟩
     rw [List.map_append, List.map_singleton, Kt hx]; exact o5
    ·have h3 : (x.is q && slB C i % 2 == 0) = false := h3
     rw [if_neg (by rw [h3]; decide)]
     exact ⟨hr.ext (e2.trans e3), x3⟩
   ·rintro ⟨r', _⟩ W' ⟨hr', x'⟩
    refine Xp (hs.ext (e1.trans x')) q1.atom (by omega) q1.alone ?_
    refine Aa (λ h3 => ⟨hr', ?_, x'⟩) (λ h3 => ⟨hr', ?_, x'⟩)
    ·rw [slB, hx]; dsimp only; rw [if_pos h3]
    ·rw [slB, hx]; dsimp only; rw [if_neg (by rw [h3]; decide)]; rfl
  ·obtain ⟨g1, g2, g3⟩ := h
   rw [show y = (y.1, y.2) from rfl, g2]
   exact ⟨⟨i + 1, by omega, rfl, g1, g3⟩, by omega⟩
 ·simp only [decide_eq_false_iff_not] at hc1
  have : i = C.length := by omega
  subst this
  exact ⟨hr, eW⟩
end
section
variable {w w' : World} {A : List Int} {s : Sl} {t : TypeId}
theorem Sz {a : Int} {K : Int -> Wp} (h : K ((wrd a : Nat) : Int) w) : Ac Tryz.prog 149 #[.int .i64 a, .bool false] rI K w := by
 refine V8 ?_
 rw [if_neg (λ q => by cases q.1)]; exact h
set_option maxHeartbeats 1000000 in
theorem Ab7 {l : Ln} {c : Sl} {t' : TypeId} {one two : Nat} {x y : Cel} (hs : Aq w s t 1 (iv A)) (hl : A.length < 2 ^ 39) (h1 : l.from_ <= l.to_) (h2 : l.to_ <= A.length) (hc : Aq w c t' 1 (nv (cuts ((A.drop l.from_).take (l.to_ - l.from_)))))
  (hx : (Bv A l)[one]? = some x) (hy : (Bv A l)[two]? = some y) (hxy : one < two) {K : Cells.T Az -> Wp}
  (hK : ∀ w', Ext w w' -> K (spR ((frm (Bv A l) (if Bq (Bv A l) (two + 1) = two + 1 then Bh (Bv A l) one else one) : Nat)) ((too (Bv A l) (Bq (Bv A l) (two + 1) - 1) : Nat)) 0) w') :
  Ac Tryz.prog 134 #[s.v, .agg (Cells.vals Dj (lnR l)).toArray, c.v, .int .i64 (x.from_ : Int), .int .i64 (y.to_ : Int)] (.one (.agg Az)) K w := by
 refine Cx1 ?_
 unfold F134
 have hn : (Bv A l).length = (cuts ((A.drop l.from_).take (l.to_ - l.from_))).length - 1 := Js _ _
 have hcp := Lj ((A.drop l.from_).take (l.to_ - l.from_))
 have hcl := Aq.Ap1 hc
 have hnl := Gx ((A.drop l.from_).take (l.to_ - l.from_)) l.from_
 rw [List.length_take, List.length_drop] at hnl
 have cat := λ i c => Xz (A := A) (l := l) h1 h2 (i := i) (c := c)
 have hnl : (Bv A l).length <= A.length := by unfold Bv; omega
 have ch : Chain (Bv A l) := Aa6 _ _
 generalize Bv A l = C at *
 have hyl := (List.getElem?_eq_some_iff.1 hy).1
 have get : ∀ i, i < C.length -> ∃ z, C[i]? = some z := λ i hi => ⟨_, List.getElem?_eq_getElem hi⟩
 have small : ∀ (i : Nat) z, C[i]? = some z -> z.to_ <= A.length := λ i z hz => by obtain ⟨_, _, _, _, g⟩ := cat i z hz; have := g.le; omega
 refine (St.start w).Af λ b1 w1 S1 e1 => S1.Af λ b2 w2 S2 e2 => ?_
 refine Ae (λ z W => z = ((too C (Bq C (two + 1) - 1) : Int), ()) /\ Ext w2 W) ?_ ?_
 ·refine Am (λ z W => ∃ i e : Nat, z = ((too C (e - 1) : Int), (i : Int), ()) /\ i <= C.length /\ two + 1 <= e /\ e <= C.length /\ Bq C e = Bq C (two + 1) /\ (i <= e \/ Bq C e = e) /\ Ext w2 W) (λ z _ => ((C.length : Int) - z.2.1).toNat) ⟨0, two + 1, by rw [Nat.add_sub_cancel, Yx hy]; rfl, Nat.zero_le _, Nat.le_refl _, hyl, rfl, .inl (Nat.zero_le _), Ext.refl w2⟩ ?_
  rintro _ W ⟨i, e, rfl, hi, he1, he2, he3, he4, eW⟩
  dsimp only
  have ew : W64 ((i : Int) + 1) = ((i + 1 : Nat) : Int) := by rw [wrap64 (by omega) (by omega)]; omega
  rw [ew]
  obtain ⟨p, hp⟩ := get (e - 1) (by omega)
  rw [Yx hp]
  refine Aa (λ hc1 => ?_) (λ hc1 => ?_)
  ·simp only [decide_eq_true_eq] at hc1
   obtain ⟨z, hz⟩ := get i (by omega)
   obtain ⟨ci, cj, hci, hcj, q1⟩ := cat i z hz
   have f1 := q1.from_; have f2 := q1.to_; have f3 := q1.le; have f4 := q1.lt
   have ew1 : W64 ((l.from_ : Int) + (ci : Int)) = (z.from_ : Int) := by rw [wrap64 (by omega) (by omega)]; omega
   have ew2 : W64 ((l.from_ : Int) + (cj : Int)) = (z.to_ : Int) := by rw [wrap64 (by omega) (by omega)]; omega
   have hie : p.to_ = z.from_ ↔ i = e := by
    rcases Nat.lt_trichotomy i e with q | q | q
    ·have : z.to_ <= p.to_ := by
      by_cases hh : i = e - 1
      ·rw [hh, hp] at hz; cases hz; exact Nat.le_refl _
      ·have := ch.lt (show i < e - 1 by omega) hz hp
       have := ch.pos _ p hp; omega
     have := ch.pos _ z hz; omega
    ·have := ch.next (e - 1) p z hp (by rw [show e - 1 + 1 = i by omega]; exact hz)
     omega
    ·obtain ⟨u, hu⟩ := get e (by omega)
     have g1 := ch.next (e - 1) p u hp (by rw [show e - 1 + 1 = e by omega]; exact hu)
     have g2 := ch.lt q hu hz
     have g3 := ch.pos _ u hu
     omega
   refine Ae (λ v W' => ∃ e' : Nat, v = ((too C (e' - 1) : Int), ()) /\ two + 1 <= e' /\ e' <= C.length /\ Bq C e' = Bq C (two + 1) /\ (i + 1 <= e' \/ Bq C e' = e') /\ Ext w2 W') ?_ (λ v W' ⟨e', g1, g2, g3, g4, g5, g6⟩ => ⟨⟨i + 1, e', by rw [g1], by omega, g2, g3, g4, g5, g6⟩, by omega⟩)
   refine Ae (λ v W' => v = (decide (i = e /\ z.kind = 0), ()) /\ Ext W W') ?_ ?_
   ·refine (S2.ext eW).drew λ w3 S3 e3 _ => S3.ld 1 rfl (x := (l.from_ : Int)) rfl (Vg (hc.ext S3.upd) hci λ _ => ?_)
    rw [ew1]
    refine Aa (λ h3 => ?_) (λ h3 => ?_)
    ·simp only [beq_iff_eq] at h3
     have hpz : p.to_ = z.from_ := by omega
     rw [hpz]
     refine rdA (hs.ext S3.upd) q1.atom λ _ => Sz ⟨Aj ?_, e3⟩
     rw [← q1.kind]
     simp only [beq_iff_eq, decide_eq_true_eq]
     have := hie.1 hpz
     omega
    ·simp only [beq_eq_false_iff_ne, ne_eq] at h3
     refine ⟨Aj ?_, e3⟩
     have : ¬ i = e := λ hh => h3 (by have := hie.2 hh; omega)
     simp [this]
   rintro _ W' ⟨rfl, eW'⟩
   have xW' := eW.trans eW'
   refine Aa (λ h3 => ?_) (λ h3 => ?_)
   ·simp only [decide_eq_true_eq] at h3
    obtain ⟨rfl, hk⟩ := h3
    have hst := Lc hz
    rw [if_pos hk] at hst
    refine (S2.ext xW').drew λ w3 S3 e3 _ => S3.ld 1 rfl (x := (l.from_ : Int)) rfl (Vg (hc.ext S3.upd) hcj λ _ => ?_)
    rw [ew2]
    exact ⟨i + 1, by rw [Nat.add_sub_cancel, Yx hz], by omega, by omega, by rw [← hst]; exact he3, .inl (Nat.le_refl _), xW'.trans e3⟩
   ·simp only [decide_eq_false_iff_not] at h3
    refine ⟨e, by rw [Yx hp], he1, he2, he3, ?_, xW'⟩
    rcases he4 with q | q
    ·by_cases hh : i = e
     ·right
      subst hh
      have hst := Lc hz
      rw [if_neg (λ hk => h3 ⟨rfl, hk⟩)] at hst
      exact hst
     ·left; omega
    ·right; exact q
  ·simp only [decide_eq_false_iff_not] at hc1
   obtain rfl : i = C.length := by omega
   refine ⟨?_, eW⟩
   have : Bq C (two + 1) = e := by
    rw [← he3]
    rcases he4 with q | q
    ·rw [Yr q]
    ·exact q
   rw [this, Yx hp]
 rintro _ W ⟨rfl, eW⟩
 obtain ⟨u, hu⟩ : ∃ u, u = Bq C (two + 1) := ⟨_, rfl⟩
 have hu1 := I9 C (two + 1)
 have hu2 := I8 (C := C) (j := two + 1) (by omega)
 rw [← hu] at hK hu1 hu2 ⊢
 obtain ⟨p, hp⟩ := get (u - 1) (by omega)
 have hgt : y.to_ < p.to_ ↔ u ≠ two + 1 := by
  constructor
  ·rintro q rfl
   rw [Nat.add_sub_cancel, hy] at hp; cases hp; omega
  ·intro q
   have := ch.lt (show two < u - 1 by omega) hy hp
   have := ch.pos _ p hp; omega
 rw [Yx hp] at hK ⊢
 have S3 := S2.ext eW
 refine Aa (λ h3 => ?_) (λ h3 => ?_)
 ·simp only [decide_eq_true_eq, gt_iff_lt] at h3
  rw [if_neg (hgt.1 (by omega)), Kt hx] at hK
  exact S3.Ad 0 rfl rfl rfl rfl λ w4 S4 u4 => S4.lds 0 (spR (x.from_ : Int) (p.to_ : Int) 0) rfl (hK w4 S4.upd)
 simp only [decide_eq_false_iff_not, gt_iff_lt] at h3
 have hue : u = two + 1 := Classical.byContradiction λ hh => h3 (by have := hgt.2 hh; omega)
 rw [if_pos hue] at hK
 have hpy : p = y := by rw [hue, Nat.add_sub_cancel, hy] at hp; cases hp; rfl
 subst hpy
 have ew0 : W64 ((c.len : Int) - 2) = (C.length : Int) - 1 := by rw [wrap64 (by omega) (by omega)]; omega
 rw [ew0]
 refine Ae (λ z W' => z = ((frm C (Bh C one) : Int), ()) /\ Ext w2 W') ?_ ?_
 ·refine Am (λ z W => ∃ (i : Int) (f : Nat), z = ((frm C f : Int), i, ()) /\ -1 <= i /\ i < C.length /\ f <= one /\ Bh C f = Bh C one /\ ((f : Int) <= i + 1 \/ Bh C f = f) /\ Ext w2 W) (λ z _ => (z.2.1 + 1).toNat) ⟨(C.length : Int) - 1, one, by rw [Kt hx], by omega, by omega, Nat.le_refl _, rfl, .inl (by omega), eW⟩ ?_
  rintro _ W ⟨i, f, rfl, hi1, hi2, hf, hf2, hf3, eW⟩
  dsimp only
  obtain ⟨p, hp⟩ := get f (by omega)
  rw [Kt hp]
  refine Aa (λ hc1 => ?_) (λ hc1 => ?_)
  ·simp only [decide_eq_true_eq] at hc1
   obtain ⟨n, rfl⟩ : ∃ n : Nat, i = (n : Int) := ⟨i.toNat, by omega⟩
   obtain ⟨z, hz⟩ := get n (by omega)
   obtain ⟨ci, cj, hci, hcj, q1⟩ := cat n z hz
   have f1 := q1.from_; have f2 := q1.to_; have f3 := q1.le; have f4 := q1.lt
   have ew : W64 ((n : Int) + 1) = ((n + 1 : Nat) : Int) := by rw [wrap64 (by omega) (by omega)]; omega
   have ewm : W64 ((n : Int) - 1) = (n : Int) - 1 := by rw [wrap64 (by omega) (by omega)]
   have ew1 : W64 ((l.from_ : Int) + (ci : Int)) = (z.from_ : Int) := by rw [wrap64 (by omega) (by omega)]; omega
   have ew2 : W64 ((l.from_ : Int) + (cj : Int)) = (z.to_ : Int) := by rw [wrap64 (by omega) (by omega)]; omega
   rw [ew, ewm]
   have hie : z.to_ = p.from_ ↔ n + 1 = f := by
    rcases Nat.lt_trichotomy (n + 1) f with q | q | q
    ·obtain ⟨v, hv⟩ := get (n + 1) (by omega)
     have g1 := ch.next n z v hz hv
     have g2 := ch.lt q hv hp
     have g3 := ch.pos _ v hv
     omega
    ·have := ch.next n z p hz (by rw [q]; exact hp)
     omega
    ·have : p.from_ <= z.from_ := by
      by_cases hh : n = f
      ·rw [hh, hp] at hz; cases hz; exact Nat.le_refl _
      ·have := ch.lt (show f < n by omega) hp hz
       have := ch.pos _ p hp; omega
     have := ch.pos _ z hz; omega
   refine Ae (λ v W' => ∃ f' : Nat, v = ((frm C f' : Int), ()) /\ f' <= one /\ Bh C f' = Bh C one /\ (f' <= n \/ Bh C f' = f') /\ Ext w2 W') ?_ (λ v W' ⟨f', g1, g2, g3, g4, g5⟩ => ⟨⟨(n : Int) - 1, f', by rw [g1], by omega, by omega, g2, g3, by omega, g5⟩, by omega⟩)
   refine Ae (λ v W' => v = (decide (n + 1 = f /\ z.kind = 0), ()) /\ Ext W W') ?_ ?_
   ·refine (S2.ext eW).drew λ w3 S3 e3 _ => S3.ld 1 rfl (x := (l.from_ : Int)) rfl (Vg (hc.ext S3.upd) hcj λ _ => ?_)
    rw [ew2]
    refine Aa (λ h3 => ?_) (λ h3 => ?_)
    ·simp only [beq_iff_eq] at h3
     refine S3.ld 1 rfl (x := (l.from_ : Int)) rfl (Vg (hc.ext S3.upd) hci λ _ => ?_)
     rw [ew1]
     refine rdA (hs.ext S3.upd) q1.atom λ _ => Sz ⟨Aj ?_, e3⟩
     rw [← q1.kind]
     simp only [beq_iff_eq, decide_eq_true_eq]
     have := hie.1 (by omega)
     omega
    ·simp only [beq_eq_false_iff_ne, ne_eq] at h3
     refine ⟨Aj ?_, e3⟩
     have : ¬ n + 1 = f := λ hh => h3 (by have := hie.2 hh; omega)
     simp [this]
   rintro _ W' ⟨rfl, eW'⟩
   have xW' := eW.trans eW'
   refine Aa (λ h3 => ?_) (λ h3 => ?_)
   ·simp only [decide_eq_true_eq] at h3
    obtain ⟨rfl, hk⟩ := h3
    have hst := Ry hz
    rw [if_pos hk] at hst
    refine (S2.ext xW').drew λ w3 S3 e3 _ => S3.ld 1 rfl (x := (l.from_ : Int)) rfl (Vg (hc.ext S3.upd) hci λ _ => ?_)
    rw [ew1]
    exact ⟨n, by rw [Kt hz], by omega, by rw [← hst]; exact hf2, .inl (Nat.le_refl _), xW'.trans e3⟩
   ·simp only [decide_eq_false_iff_not] at h3
    refine ⟨f, by rw [Kt hp], hf, hf2, ?_, xW'⟩
    rcases hf3 with q | q
    ·by_cases hh : n + 1 = f
     ·right
      subst hh
      have hst := Ry hz
      rw [if_neg (λ hk => h3 ⟨rfl, hk⟩)] at hst
      exact hst
     ·left; omega
    ·right; exact q
  ·simp only [decide_eq_false_iff_not] at hc1
   refine ⟨?_, eW⟩
   have : Bh C one = f := by
    rw [← hf2]
    rcases hf3 with q | q
    ·have : f = 0 := by omega
     rw [this]; rfl
    ·exact q
   rw [this, Kt hp]
 rintro _ W' ⟨rfl, eW'⟩
 have S4 := S2.ext eW'
 exact S4.Ad 0 rfl rfl rfl rfl λ w5 S5 u5 => S5.lds 0 (spR ((frm C (Bh C one) : Nat) : Int) (p.to_ : Int) 0) rfl (hK w5 S5.upd)
end
section
variable {w w' : World} {A : List Int} {s : Sl} {t : TypeId}
theorem Bl5 {y : Sl} {l : Ln} (h1 : l.from_ <= l.to_) (hy : Aq w y t 1 (((iv A).drop (((l.from_ : Nat) : Int).toNat * 1)).take ((((l.to_ : Nat) : Int).toNat - ((l.from_ : Nat) : Int).toNat) * 1))) : Aq w y t 1 (iv ((A.drop l.from_).take (l.to_ - l.from_))) := by
 rw [Nat.mul_one, Nat.mul_one, Int.toNat_natCast, Int.toNat_natCast, ← List.map_drop, ← List.map_take] at hy
 exact hy
set_option maxHeartbeats 2000000 in
theorem Ai2 {at_ kind count arg : Int} (hs : Aq w s t 1 (iv A)) (hl : A.length < 2 ^ 39) {K : Cells.T Az × Int × Unit -> Wp}
  (hK : ∀ w', Ext w w' -> K (spR (Jo A at_ kind count arg).1.1 (Jo A at_ kind count arg).1.2.1 (Jo A at_ kind count arg).1.2.2, (Jo A at_ kind count arg).2, ()) w') :
  Ac Tryz.prog 106 #[s.v, .int .i64 at_, .int .i64 kind, .int .i64 count, .int .i64 arg] (.tup [(.agg Az), (.one (.int .i64))]) K w := by
 refine Cz9 ?_
 unfold F106
 have hlen : A.length = s.len := by have := hs.len1; rwa [List.length_map] at this
 have hchk := Rf (n := A.length) (at_ := at_) (kind := kind) (count := count) (lo := 65) (hi := 66)
 refine (St.start w).Af λ b1 w1 S1 e1 => ?_
 refine Jb ((decide (kind < 65) || decide (kind > 66) || decide (count < 0) || decide (arg ≠ 34 /\ arg ≠ 39 /\ arg ≠ 96)), ()) ?_ ?_
 ·refine Aa (λ g1 => ⟨Aj ?_, rfl⟩) (λ g1 => Aa (λ g2 => ⟨Aj ?_, rfl⟩) (λ g2 => Aa (λ g3 => ⟨Aj ?_, rfl⟩) (λ g3 => Aa (λ g4 => Aa (λ g5 => ⟨Aj ?_, rfl⟩) (λ g5 => ⟨Aj ?_, rfl⟩)) (λ g4 => ⟨Aj ?_, rfl⟩))))
  all_goals simp only [Bool.or_eq_true, decide_eq_true_eq, decide_eq_false_iff_not, bne_iff_ne, ne_eq, bne_eq_false_iff_eq, true_iff, Bool.false_eq_true, false_iff, gt_iff_lt] at *
  all_goals omega
 refine Aa (λ h1 => ?_) (λ h1 => ?_)
 ·have h1 : (decide (kind < 65) || decide (kind > 66) || decide (count < 0) || decide (arg ≠ 34 /\ arg ≠ 39 /\ arg ≠ 96)) = true := h1
  refine Et 0 S1 rfl rfl _ _ _ λ w' x => ?_
  have := hK w' x
  unfold Jo at this
  rw [if_pos ?_] at this
  ·exact this
  ·rw [Bool.or_eq_true] at h1
   rcases h1 with h1 | h1
   ·left; rw [hchk, if_pos h1]
   ·right; exact of_decide_eq_true h1
 have h1 : (decide (kind < 65) || decide (kind > 66) || decide (count < 0) || decide (arg ≠ 34 /\ arg ≠ 39 /\ arg ≠ 96)) = false := h1
 rw [Bool.or_eq_false_iff] at h1
 rw [if_neg (by rw [h1.1]; decide)] at hchk
 have h1b := of_decide_eq_false h1.2
 refine Xv ?_
 refine Aa (λ h2 => ?_) (λ h2 => ?_)
 ·have h2 : (decide (at_ < 0) || decide (at_ > (A.length : Int))) = true := by rw [hlen]; exact h2
  rw [if_pos h2] at hchk
  refine Et 0 S1 rfl rfl _ _ _ λ w' x => ?_
  have := hK w' x
  unfold Jo at this
  rw [hchk, if_neg (by rintro (q | q); cases q; exact h1b q), if_pos (by decide)] at this
  exact this
 have h2 : (decide (at_ < 0) || decide (at_ > (A.length : Int))) = false := by rw [hlen]; exact h2
 rw [if_neg (by rw [h2]; decide)] at hchk
 have hat : ¬ (at_ < 0 \/ (A.length : Int) < at_) := by simpa using h2
 obtain ⟨n, rfl⟩ : ∃ n : Nat, at_ = (n : Int) := ⟨at_.toNat, by omega⟩
 have hnl : n <= A.length := by omega
 have hcount : 0 <= count := by have := h1.1; simp at this; omega
 have hkind : kind = 65 \/ kind = 66 := by have := h1.1; simp at this; omega
 have okl := Ao9 hat
 have hft := okl.ft; have htn := okl.tn; have hnl2 := okl.nl
 unfold Jo at hK
 rw [hchk, if_neg (by rintro (q | q); cases q; exact h1b q), if_neg (by decide)] at hK
 dsimp only at hK
 have hln := (Y7 A hnl)
 obtain ⟨l, hld⟩ : ∃ l, l = Ep A (n : Int) := ⟨_, rfl⟩
 have hlf : l.from_ <= n := by
  have h3 := (Xy A hnl).1
  rw [← hld] at h3
  obtain ⟨l', g1, g2, _⟩ := hln
  rw [h3] at g1; cases g1; exact g2
 rw [← hld] at hK hft htn hnl2
 refine Qs (hs.ext e1) hl hnl λ w2 e2 => ?_
 rw [← hld]
 have S2 := S1.ext e2
 refine S2.Af λ b3 w3 S3 e3 => S3.Ad 0 rfl rfl rfl rfl λ w4 S4 u4 => S4.ld 0 rfl (x := (l.from_ : Int)) rfl (S4.ld 0 rfl (x := (l.to_ : Int)) rfl ?_)
 refine Xl (hs.ext S4.upd) (by omega) (by omega) (by omega) (by have := hs.le; omega) (by omega) λ y hy _ _ _ => ?_
 have hy := Bl5 hft hy
 have hBl : ((A.drop l.from_).take (l.to_ - l.from_)).length = l.to_ - l.from_ := by rw [List.length_take, List.length_drop]; omega
 refine Nb hy (by omega) λ c w5 oc e5 => ?_
 have S5 := S4.ext e5
 refine S5.lds 0 (lnR l) rfl ?_
 refine Am9 (hs.ext S5.upd) hl hft (by omega) oc.in λ m w6 om e6 => ?_
 have S6 := S5.ext e6
 have oc6 := (oc.ext e6).in
 have hn : (Bv A l).length = (cuts ((A.drop l.from_).take (l.to_ - l.from_))).length - 1 := Js _ _
 have hcp := Lj ((A.drop l.from_).take (l.to_ - l.from_))
 have hcl := Aq.Ap1 oc6
 have hml := Aq.Ap1 om.in
 rw [List.length_map] at hml
 have cat := λ i c => Xz (A := A) (l := l) hft (by omega) (i := i) (c := c)
 have ch : Chain (Bv A l) := Aa6 _ _
 have hCl := Gx ((A.drop l.from_).take (l.to_ - l.from_)) l.from_
 have mh := λ (j : Nat) (c : Cel) (hc : (Bv A l)[j]? = some c) (h1 : c.to_ = c.from_ + 1) (z : Cel) (hz : (Bv A l)[(Bv A l).length - 1]? = some z) => Bh2 (A := (A.drop l.from_).take (l.to_ - l.from_)) (off := l.from_) (at_ := (n : Int)) (by omega) hc h1 hz
 have wid := λ (V : World) (one two : Nat) (x y : Cel) => Ab7 (w := V) (A := A) (s := s) (t := t) (l := l) (c := c) (t' := 3) (one := one) (two := two) (x := x) (y := y)
 have hCl : (Bv A l).length <= A.length := by unfold Bv; omega
 have hhere : Jr (Bv A l) (n : Int) = Jr (Bg ((A.drop l.from_).take (l.to_ - l.from_)) l.from_) (n : Int) := rfl
 rw [hBl, show l.from_ + (l.to_ - l.from_) = l.to_ by omega, ← hhere] at mh
 rw [Bb9] at hK
 obtain ⟨C, hC⟩ : ∃ C, C = Bv A l := ⟨_, rfl⟩
 rw [← hC] at hK mh hhere om cat ch hml hn hCl wid
 obtain ⟨M, hM⟩ : ∃ M, M = mkB C arg C.length := ⟨_, rfl⟩
 have hMl := Xb (C := C) (q := arg) C.length
 have hMm := Bn9 (C := C) (q := arg) C.length
 rw [← hM] at hK om hml hMl hMm
 obtain ⟨H, hH⟩ : ∃ H, H = Jr C (n : Int) := ⟨_, rfl⟩
 rw [← hH] at hK mh
 refine Ae (λ x W => (∀ z, C[C.length - 1]? = some z -> x = ((if (l.to_ : Int) <= (n : Int) then (z.from_ : Int) else (n : Int)), ())) /\ Ext w6 W) ?_ ?_
 ·refine Ae (λ x W => x = (decide (l.to_ <= n /\ 0 < C.length), ()) /\ w6 = W) ?_ ?_
  ·refine S6.ld 0 rfl (x := (l.to_ : Int)) rfl (Aa (λ h3 => ⟨Aj ?_, rfl⟩) (λ h3 => ⟨Aj ?_, rfl⟩))
   all_goals simp only [decide_eq_true_eq, decide_eq_false_iff_not, Bool.false_eq_true, false_iff, gt_iff_lt, ge_iff_le] at *
   all_goals omega
  rintro _ _ ⟨rfl, rfl⟩
  refine Aa (λ h3 => ?_) (λ h3 => ?_)
  ·simp only [decide_eq_true_eq] at h3
   obtain ⟨z, hz⟩ : ∃ z, C[C.length - 1]? = some z := ⟨_, List.getElem?_eq_getElem (by omega)⟩
   obtain ⟨ci, cj, hci, hcj, q1⟩ := cat _ z hz
   have f1 := q1.from_; have f2 := q1.to_; have f3 := q1.le; have f4 := q1.lt
   have ew0 : W64 ((c.len : Int) - 2) = ((C.length - 1 : Nat) : Int) := by rw [wrap64 (by omega) (by omega)]; omega
   rw [ew0]
   refine S6.drew λ w7 S7 e7 _ => S7.ld 0 rfl (x := (l.from_ : Int)) rfl (Vg (oc6.ext e7) hci λ _ => ?_)
   have ew1 : W64 ((l.from_ : Int) + (ci : Int)) = (z.from_ : Int) := by rw [wrap64 (by omega) (by omega)]; omega
   rw [ew1]
   refine ⟨λ z' hz' => ?_, e7⟩
   rw [hz] at hz'; cases hz'
   rw [if_pos (by omega)]
  ·simp only [decide_eq_false_iff_not] at h3
   refine ⟨λ z hz => ?_, Ext.refl _⟩
   have := (List.getElem?_eq_some_iff.1 hz).1
   rw [if_neg (by omega)]
 rintro ⟨cell, _⟩ w7 ⟨hcell, e7⟩
 have S7 := S6.ext e7
 have om7 := (om.ext e7).in
 have oc7 := oc6.ext e7
 dsimp only
 refine Ae (λ _ W => w7 = W /\ Rq H M = none) ?_ ?_
 ·refine Am (λ x W => ∃ i : Nat, x = ((i : Int), ()) /\ w7 = W /\ i <= M.length + 1 /\ Rq H M = Rq H (M.drop i)) (λ x _ => ((M.length : Int) + 2 - x.1).toNat) ⟨0, rfl, rfl, Nat.zero_le _, rfl⟩ ?_
  rintro _ _ ⟨i, rfl, rfl, hi, hp⟩
  dsimp only
  have ew : W64 ((i : Int) + 1) = ((i + 1 : Nat) : Int) := by rw [wrap64 (by omega) (by omega)]; omega
  have ew2 : W64 ((i : Int) + 2) = ((i + 2 : Nat) : Int) := by rw [wrap64 (by omega) (by omega)]; omega
  rw [ew, ew2]
  refine Aa (λ hc => ?_) (λ hc => ?_)
  ·simp only [decide_eq_true_eq] at hc
   obtain ⟨a, ha⟩ : ∃ a, M[i]? = some a := ⟨_, List.getElem?_eq_getElem (by omega)⟩
   obtain ⟨b, hb⟩ : ∃ a, M[i + 1]? = some a := ⟨_, List.getElem?_eq_getElem (by omega)⟩
   obtain ⟨x, hx, hxq⟩ := (hMm a (List.mem_of_getElem? ha)).2
   obtain ⟨y, hy, hyq⟩ := (hMm b (List.mem_of_getElem? hb)).2
   obtain ⟨_, _, _, _, qx⟩ := cat a x hx
   obtain ⟨_, _, _, _, qy⟩ := cat b y hy
   have xa : x.to_ = x.from_ + 1 := by
    unfold Cel.is at hxq
    rw [Bool.and_eq_true, qx.alone] at hxq
    exact of_decide_eq_true hxq.1
   have ya : y.to_ = y.from_ + 1 := by
    unfold Cel.is at hyq
    rw [Bool.and_eq_true, qy.alone] at hyq
    exact of_decide_eq_true hyq.1
   have hbl := (List.getElem?_eq_some_iff.1 hy).1
   obtain ⟨z, hz⟩ : ∃ z, C[C.length - 1]? = some z := ⟨_, List.getElem?_eq_getElem (by omega)⟩
   have hmh := mh b y hy ya z hz
   have hcell := hcell z hz
   have hcell : cell = (if (l.to_ : Int) <= (n : Int) then (z.from_ : Int) else (n : Int)) := congrArg Prod.fst hcell
   rw [← hcell] at hmh
   have rb : ∀ {V : World} {K : Addr -> Int -> Wp}, Ext w7 V -> (∀ q, K q (y.from_ : Int) V) -> ix m.a m.len ((i + 1 : Nat) : Int) (λ q => ld (.int .i64) (q.add (scaled (Int.toNat ((i + 1 : Nat) : Int)) 1)) (K q)) V := λ x hk => Vg (om7.ext x) (by rw [List.getElem?_map, hb, Option.map_some, Kt hy]) hk
   have ra : ∀ {V : World} {K : Addr -> Int -> Wp}, Ext w7 V -> (∀ q, K q (x.from_ : Int) V) -> ix m.a m.len (i : Int) (λ q => ld (.int .i64) (q.add (scaled (Int.toNat (i : Int)) 1)) (K q)) V := λ x' hk => Vg (om7.ext x') (by rw [List.getElem?_map, ha, Option.map_some, Kt hx]) hk
   have hpd := Aw4 (i := H) ha hb
   rw [hpd] at hp
   refine rb (Ext.refl _) λ _ => ?_
   refine Aa (λ h3 => ?_) (λ h3 => ?_)
   ·simp only [decide_eq_true_eq] at h3
    have := hmh.1 h3
    rw [if_neg (by omega)] at hp
    exact ⟨⟨i + 2, rfl, rfl, by omega, hp⟩, by omega⟩
   ·simp only [decide_eq_false_iff_not] at h3
    have hHb : H <= b := by
     rcases Nat.lt_or_ge b H with q | q
     ·exact absurd (hmh.2 q) h3
     ·exact q
    rw [if_pos hHb] at hp
    rw [hp] at hK
    dsimp only at hK
    have hyl : y.from_ + 1 <= A.length := by have := qy.le; omega
    have hxl : x.from_ + 1 <= A.length := by have := qx.le; omega
    have ewy : W64 ((y.from_ : Int) + 1) = (y.to_ : Int) := by rw [wrap64 (by omega) (by omega)]; omega
    have ewx : W64 ((x.from_ : Int) + 1) = (x.to_ : Int) := by rw [wrap64 (by omega) (by omega)]; omega
    have hab : a < b := by
     have h5 : Ij arg H C 0 none 0 = some (a, b) := by rw [Bb9, ← hM]; exact hp
     have := Tj (i := H) (C := C) (j := 0) (o := none) (s := 0) (λ _ hk => by cases hk) h5
     exact this.1
    refine Aa (λ h4 => ?_) (λ h4 => ?_)
    ·simp only [beq_iff_eq] at h4
     rw [if_neg (λ q => by omega)] at hK
     refine S7.drew λ w8 S8 e8 _ => S8.lds 0 (lnR l) rfl (ra e8 λ _ => rb e8 λ _ => ?_)
     rw [ewy]
     refine wid w8 a b x y (hs.ext S8.upd) hl hft (by omega) (oc7.ext e8) hx hy hab λ w9 e9 => ?_
     have S9 := S8.ext e9
     refine S9.Ad 1 rfl rfl rfl rfl λ w10 S10 u10 => S10.lds 1 (spR _ _ 0) rfl ?_
     have hk := hK w10 S10.upd
     have e1' : (if kind = 66 then Bq C (b + 1) else b + 1) = Bq C (b + 1) := if_pos h4
     have e2' : (if kind = 66 /\ Bq C (b + 1) = b + 1 then Bh C a else a) = if Bq C (b + 1) = b + 1 then Bh C a else a := by simp [h4]
     rw [e1', e2'] at hk
     exact hk
    ·simp only [beq_eq_false_iff_ne, ne_eq] at h4
     have hk65 : kind = 65 := by omega
     refine Aa (λ h5 => ?_) (λ h5 => ?_)
     ·simp only [decide_eq_true_eq, gt_iff_lt] at h5
      rw [if_neg (λ q => by omega)] at hK
      refine S7.drew λ w8 S8 e8 _ => ra e8 λ _ => rb e8 λ _ => ?_
      rw [ewy]
      refine Et 1 S8 rfl rfl _ _ _ λ w9 x9 => ?_
      have hk := hK w9 x9
      have e1' : (if kind = 66 then Bq C (b + 1) else b + 1) = b + 1 := if_neg h4
      have e2' : (if kind = 66 /\ b + 1 = b + 1 then Bh C a else a) = a := if_neg (λ q => h4 q.1)
      rw [e1', e2', Nat.add_sub_cancel, hx, hy] at hk
      exact hk
     ·simp only [decide_eq_false_iff_not, gt_iff_lt] at h5
      rw [if_pos ⟨hk65, by omega⟩, hx, hy] at hK
      refine S7.drew λ w8 S8 e8 _ => ra e8 λ _ => rb e8 λ _ => ?_
      rw [ewx]
      exact Et 1 S8 rfl rfl _ _ _ λ w9 x9 => hK w9 x9
  ·simp only [decide_eq_false_iff_not] at hc
   refine ⟨rfl, ?_⟩
   rw [hp]
   exact Bg3 (by rw [List.length_drop]; omega)
 ·rintro _ _ ⟨rfl, hp⟩
  rw [hp] at hK
  exact Et 1 S7 rfl rfl _ _ _ λ w9 x9 => hK w9 x9
end
section
variable {w w' : World} {A : List Int} {s : Sl} {t : TypeId}
theorem Xq {a : Int} {K : Int -> Wp} (h : K ((fellow a).getD 0) w) : Ac Tryz.prog 135 #[.int .i64 a] rI K w := by
 refine Cx0 ?_
 unfold F135
 unfold fellow at h
 refine Aa (λ h1 => ?_) (λ h1 => ?_)
 ·simp only [beq_iff_eq] at h1
  rw [if_pos h1] at h; exact h
 simp only [beq_eq_false_iff_ne, ne_eq] at h1
 rw [if_neg h1] at h
 refine Jb (decide (a = 91 \/ a = 123 \/ a = 60), ()) (Aa (λ h2 => ⟨Aj ?_, rfl⟩) (λ h2 => Aa (λ h3 => ⟨Aj ?_, rfl⟩) (λ h3 => ⟨Aj ?_, rfl⟩))) ?_
 ·simp only [beq_iff_eq] at h2; simp [h2]
 ·simp only [beq_iff_eq] at h3; simp [h3]
 ·simp only [beq_eq_false_iff_ne, ne_eq] at h2 h3; simp [h2, h3]
 refine Aa (λ h2 => ?_) (λ h2 => ?_)
 ·simp only [decide_eq_true_eq] at h2
  rcases h2 with rfl | rfl | rfl <;> exact h
 ·simp only [decide_eq_false_iff_not, not_or] at h2
  rw [if_neg h2.1, if_neg h2.2.1, if_neg h2.2.2] at h; exact h
theorem Ae1 {N M : Nat} {r q : Sl} {t t' : TypeId} {sz sz' : Nat} {vs us : List Value} (h : Ah w N r t sz vs) (h' : Ah w M q t' sz' us) (ht : t ≠ t') : ∀ k, q.blk k -> ¬ r.blk k := by
 rintro k ⟨p, hp, rfl⟩ ⟨p', hp', he⟩
 rcases h.at_ with ⟨ha, _⟩ | ⟨b, off, c, ha, _, hb, _⟩
 ·rw [ha] at hp'; cases hp'
 ·rcases h'.at_ with ⟨ha', _⟩ | ⟨b', off', c', ha', _, hb', _⟩
  ·rw [ha'] at hp; cases hp
  ·rw [ha] at hp'; cases hp'
   rw [ha'] at hp; cases hp
   dsimp only at he
   rw [he] at hb
   rw [hb] at hb'
   cases hb'
   exact ht rfl
theorem Bd7 {A : List Int} {i : Nat} {c : Cel} (hc : (Bg A 0)[i]? = some c) : (cuts A)[i]? = some c.from_ /\ (cuts A)[i + 1]? = some c.to_ /\ A[c.from_]? = some c.atom /\ c.kind = wrd c.atom /\ c.alone = decide (c.to_ = c.from_ + 1) /\ c.to_ <= A.length /\ c.from_ < c.to_ := by
 obtain ⟨ci, cj, g1, g2, g3, g4, g5, g6, _, _, g9, g10, g11⟩ := (Ig hc).ex
 rw [Nat.zero_add] at g5 g6
 rw [g5, g6]
 refine ⟨g1, g2, g9, g10, ?_, g4, g3⟩
 rw [Bool.eq_iff_iff, g11]; simp
abbrev bkT (C : List Cel) (x : Nat × Nat) : Cells.T Jt := ((frm C x.1 : Int), (frm C x.2 : Int), 0, ())
theorem Cc7 {c : Sl} {L : List Nat} (h : Aq w c t 1 (nv L)) {j v : Nat} (hv : L[j]? = some v) {K : Addr -> Int -> Wp} (hK : ∀ q, (∀ w', Ext w w' -> w'.cell? (q.add (scaled (Int.toNat (j : Int)) 1)) = some (.int .i64 (v : Int))) -> K q (v : Int) w) : ix c.a c.len (j : Int) (λ q => ld (.int .i64) (q.add (scaled (Int.toNat (j : Int)) 1)) (K q)) w := by
 have hlt := (List.getElem?_eq_some_iff.1 hv).1
 have hl := Aq.Ap1 h
 have hv2 : (nv L)[j]? = some (.int .i64 (v : Int)) := by rw [List.getElem?_map, hv]; rfl
 have key : ∀ {w' : World}, Aq w' c t 1 (nv L) -> ∀ b off, c.a = some ⟨b, off, none⟩ -> w'.cell? ((⟨b, off, none⟩ : Addr).add (scaled (Int.toNat (j : Int)) 1)) = some (.int .i64 (v : Int)) := by
  intro w' h' b off ha
  rcases h'.at_ with ⟨hn, _⟩ | ⟨b', off', ce, fr, ha', hb, _, hx⟩
  ·rw [hn] at ha; cases ha
  ·rw [ha'] at ha; cases ha
   rw [addr_add]
   refine cell_of hb ?_
   rw [Ei, Int.toNat_natCast, Nat.mul_one]
   exact hx j _ hv2
 refine h.ix (by omega) (by omega) (by decide) λ b off ha _ => ⟨(v : Int), key h b off ha, hK _ λ w' e => key (h.ext e) b off ha⟩
set_option maxHeartbeats 1000000 in
theorem Av6 {o sh : Int} (hs : Aq w s t 1 (iv A)) (hl : A.length < 2 ^ 39) (hf : fellow o = some sh) (hos : o ≠ sh)
  {K : Sl -> Wp} (hK : ∀ s' w', Ah w' w.heap.size s' 180 3 (flat Jt ((Iy (Bg A 0) o sh (Bg A 0).length).map (bkT (Bg A 0)))) -> Ext w w' -> K s' w') :
  Ac Tryz.prog 136 #[s.v, .int .i64 o] rS K w := by
 refine Cw9 ?_
 unfold F136
 have hn : (Bg A 0).length = (cuts A).length - 1 := Js _ _
 have hcp := Lj A
 have hnl := Gx A 0
 have cat := λ i c => Bd7 (A := A) (i := i) (c := c)
 generalize Bg A 0 = C at *
 refine Nb hs (by omega) λ c w1 oc e1 => ?_
 have hc := oc.in
 have hcl := Aq.Ap1 hc
 refine Ae (λ x W => Ah W w1.heap.size x.1 180 3 (flat Jt ((Iy C o sh C.length).map (bkT C))) /\ Ext w1 W) ?_ (λ x W h => hK _ _ (h.1.mono e1.size) (e1.trans h.2))
 refine Am (λ x W => ∃ i : Nat, i <= C.length /\ x.2.2 = ((i : Int), ()) /\ Ah W w1.heap.size x.1 180 3 (flat Jt ((Iy C o sh i).map (bkT C))) /\ Ah W w1.heap.size x.2.1 3 1 (nv (((Jk C o sh i).reverse).map (frm C))) /\ (Iy C o sh i).length <= i /\ (Jk C o sh i).length <= i /\ Ext w1 W) (λ x _ => ((C.length : Int) - x.2.2.1).toNat) ⟨0, Nat.zero_le _, rfl, Ah.nil _ _ _ _, Ah.nil _ _ _ _, Nat.le_refl _, Nat.le_refl _, Ext.refl w1⟩ ?_
 rintro ⟨r, kp, _⟩ W ⟨i, hi, rfl, hr, hk, hbl, hsl, eW⟩
 dsimp only at hr hk ⊢
 have hrl := Ah.Jq (cs := Jt) hr (by decide)
 have hkl := Aq.Ap1 hk.in
 rw [List.length_map] at hrl
 rw [List.length_map, List.length_reverse] at hkl
 have ew : W64 ((i : Int) + 1) = ((i + 1 : Nat) : Int) := by rw [wrap64 (by omega) (by omega)]; omega
 rw [ew]
 refine Aa (λ hc1 => ?_) (λ hc1 => ?_)
 ·simp only [decide_eq_true_eq] at hc1
  obtain ⟨x, hx⟩ : ∃ x, C[i]? = some x := ⟨_, List.getElem?_eq_getElem (by omega)⟩
  obtain ⟨q1, q2, q3, q4, q5, q6, q7⟩ := cat i x hx
  refine Ae (λ y W' => Ah W' w1.heap.size y.1 180 3 (flat Jt ((Iy C o sh (i + 1)).map (bkT C))) /\ Ah W' w1.heap.size y.2.1 3 1 (nv (((Jk C o sh (i + 1)).reverse).map (frm C))) /\ (Iy C o sh (i + 1)).length <= i + 1 /\ (Jk C o sh (i + 1)).length <= i + 1 /\ Ext w1 W') ?_ (λ y W' h => ⟨⟨i + 1, by omega, rfl, h.1, h.2.1, h.2.2.1, h.2.2.2.1, h.2.2.2.2⟩, by omega⟩)
  rw [Iy, Jk, hx]
  dsimp only
  refine Fg λ w2 e2 _ => Vg (hc.ext (eW.trans e2)) q1 λ _ => Vg (hc.ext (eW.trans e2)) q2 λ _ => ?_
  refine Xp (hs.ext (e1.trans (eW.trans e2))) q3 (by omega) q5 ?_
  refine Aa (λ h3 => ?_) (λ h3 => ?_)
  ·rw [if_pos h3, if_pos h3]
   refine Vg (hc.ext (eW.trans e2)) q1 λ _ => Bo λ b8 w4 e4 n4 _ _ => ?_
   have x4 := (eW.trans e2).trans e4
   refine Bx3 (((hk.ext e2)).ext e4) n4 (by rw [List.length_map, List.length_reverse]; omega) (by have := x4.size; omega) λ r' w5 o5 u5 => ?_
   refine ⟨(hr.ext (e2.trans e4)).upd u5 λ k _ => Ae1 (hk.ext (e2.trans e4)) (hr.ext (e2.trans e4)) (by decide) k, ?_, by omega, by rw [List.length_cons]; omega, x4.step u5 λ k h => hk.Di h⟩
   rw [List.reverse_cons, List.map_append, List.map_singleton, Kt hx]; exact o5
  ·have h3' : ¬ x.is o = true := by rw [h3]; decide
   rw [if_neg h3', if_neg h3']
   refine Ae (λ y W' => y = ((x.is sh && decide (0 < (Jk C o sh i).length)), ()) /\ Ext w2 W') ?_ ?_
   ·refine Fg λ w3 e3 _ => Cc7 (hc.ext ((eW.trans e2).trans e3)) q1 λ _ k1 => Cc7 (hc.ext ((eW.trans e2).trans e3)) q2 λ _ k2 => ?_
    refine Xq (Ar (k2 _ (Ext.refl _)) (Ar (k1 _ (Ext.refl _)) ?_))
    rw [hf, Option.getD_some]
    refine Xp (hs.ext (e1.trans ((eW.trans e2).trans e3))) q3 (by omega) q5 ?_
    refine Aa (λ h4 => ?_) (λ h4 => ?_)
    ·rw [h4, Bool.true_and]
     refine ⟨Aj ?_, e3⟩
     simp only [decide_eq_true_eq]; omega
    ·rw [h4, Bool.false_and]; exact ⟨rfl, e3⟩
   rintro _ w3 ⟨rfl, e3⟩
   have x3 := (eW.trans e2).trans e3
   have hr3 := hr.ext (e2.trans e3)
   have hk3 := hk.ext (e2.trans e3)
   cases hsh : x.is sh with
   | false =>
    rw [Bool.false_and]
    refine Au ?_
    rw [if_neg (by decide), if_neg (by decide)]
    exact ⟨hr3, hk3, by omega, by omega, x3⟩
   | true =>
    rw [Bool.true_and, if_pos rfl, if_pos rfl]
    cases hst : Jk C o sh i with
    | nil =>
     rw [hst] at hk3
     refine Au ?_
     rw [O1, List.append_nil]
     exact ⟨hr3, hk3, by omega, by simp, x3⟩
    | cons a st =>
     rw [hst] at hk3 hkl hsl
     rw [List.length_cons] at hkl hsl
     refine Aa (λ _ => ?_) (λ hc => ?_)
     ·have ewk : W64 ((kp.len : Int) - 1) = ((st.length : Nat) : Int) := by rw [wrap64 (by omega) (by omega)]; omega
      rw [ewk]
      have hget : (((a :: st).reverse).map (frm C))[st.length]? = some (frm C a) := by
       rw [List.reverse_cons, List.map_append, List.map_singleton, List.getElem?_append_right (by simp)]
       simp
      refine Fg λ w4 e4 _ => Vg (hk3.ext e4).in hget λ _ => Vg (hc.ext (x3.trans e4)) q1 λ _ => Bo λ b8 w5 e5 n5 _ _ => ?_
      have x5 := (x3.trans e4).trans e5
      have hr5 := (hr3.ext e4).ext e5
      have hk5 := (hk3.ext e4).ext e5
      refine Bx2 (x := bkT C (a, i)) hr5 (by rw [n5]; show _ = some (Obj.cells #[_, .int .i64 ((frm C i : Nat) : Int), _] _ _); rw [Kt hx]) (by rw [List.length_map]; omega) (by have := x5.size; omega) λ r' w6 o6 u6 => ?_
      have hk6 := hk5.upd u6 λ k _ => Ae1 hr5 hk5 (by decide) k
      refine By4 hk6 (by omega) (by omega) (by omega) (by have := hk6.le; omega) (by omega) λ y hy _ _ _ => ?_
      refine ⟨?_, ?_, ?_, by rw [List.tail_cons]; omega, x5.step u6 λ k h => hr5.Di h⟩
      ·rw [O1, List.map_append, List.map_singleton]; exact o6
      ·rw [List.tail_cons]
       have e0 : (List.map (λ (n : Nat) => Value.int .i64 (n : Int)) (((a :: st).reverse).map (frm C))).take st.length = nv ((st.reverse).map (frm C)) := by
        rw [List.reverse_cons, List.map_append, List.map_append, List.take_append_of_le_length (by simp), List.take_of_length_le (by simp)]
       rw [Int.toNat_natCast, Nat.mul_one] at hy
       rw [← e0]
       exact hy
      ·rw [O1, List.length_append, List.length_singleton]; omega
     ·simp at hc
 ·simp only [decide_eq_false_iff_not] at hc1
  have : i = C.length := by omega
  subst this
  exact ⟨hr, eW⟩
end
namespace Obx
theorem Bh4 {A : List Int} {i j : Nat} {a b : Ln} (h1 : Eb A i = some a) (h2 : Eb A j = some b) : a.from_ = b.from_ ↔ a = b := by
 refine ⟨λ h => ?_, λ h => by rw [h]⟩
 have e1 := (Oo h1).nbF
 have e2 := (Oo h2).nbF
 rw [h] at e1
 rw [e1] at e2
 subst e2
 rw [h1] at h2; exact Option.some.inj h2
theorem Ay5 {o sh : Int} (h : fellow o = some sh) : o ≠ sh := by
 unfold fellow at h
 split at h
 ·cases h; omega
 ·split at h
  ·cases h; omega
  ·split at h
   ·cases h; omega
   ·split at h
    ·cases h; omega
    ·cases h
end Obx
section
variable {w w' : World} {A : List Int} {s : Sl} {t : TypeId}
set_option maxHeartbeats 1000000 in
theorem Ai4 {c d : Cel} (hs : Aq w s t 1 (iv A)) (hl : A.length < 2 ^ 39) (hc : c.to_ = c.from_ + 1) (hcl : c.to_ <= A.length) (hdl : d.from_ <= A.length) (hcd : c.from_ <= d.from_) {K : Cells.T Az -> Wp}
  (hK : ∀ w', Ext w w' -> K (spR (Obx.Tz A c d).1 (Obx.Tz A c d).2.1 (Obx.Tz A c d).2.2) w') :
  Ac Tryz.prog 137 #[s.v, .int .i64 (c.from_ : Int), .int .i64 (d.from_ : Int)] (.one (.agg Az)) K w := by
 refine Cw8 ?_
 unfold F137
 have hlen : A.length = s.len := by have := hs.len1; rwa [List.length_map] at this
 obtain ⟨a, ha⟩ : ∃ a, a = Ep A (c.from_ : Int) := ⟨_, rfl⟩
 obtain ⟨b, hb⟩ : ∃ b, b = Ep A (d.from_ : Int) := ⟨_, rfl⟩
 have la := (Xy A (at_ := c.from_) (by omega)).1
 have lb := (Xy A hdl).1
 rw [← ha] at la
 rw [← hb] at lb
 have hbf : b.from_ <= d.from_ := by
  obtain ⟨l', g1, g2, _⟩ := Y7 A hdl
  rw [lb] at g1; cases g1; exact g2
 have okb := Oo lb
 have hab := Bh4 la lb
 unfold Obx.Tz at hK
 have ea : (Eb A (nb A c.from_)).getD ⟨0, 0, 0, 0⟩ = a := by rw [la]; rfl
 have eb : (Eb A (nb A d.from_)).getD ⟨0, 0, 0, 0⟩ = b := by rw [lb]; rfl
 rw [ea, eb] at hK
 dsimp only at hK
 have ew1 : W64 ((c.from_ : Int) + 1) = (c.to_ : Int) := by rw [wrap64 (by omega) (by omega)]; omega
 rw [ew1]
 refine (St.start w).Af λ b1 w1 S1 e1 => Qs (hs.ext e1) hl (by omega) λ w2 e2 => ?_
 rw [← ha]
 have S2 := S1.ext e2
 refine S2.Af λ b3 w3 S3 e3 => S3.Ad 0 rfl rfl rfl rfl λ w4 S4 u4 => Qs (hs.ext S4.upd) hl hdl λ w5 e5 => ?_
 rw [← hb]
 have S5 := S4.ext e5
 refine S5.Af λ b6 w6 S6 e6 => S6.Ad 0 rfl rfl rfl rfl λ w7 S7 u7 => ?_
 have sp : ∀ {V : World} {x y k : Int}, St (λ _ => False) w V [(b6, .cells (Cells.vals Dj (lnR b)).toArray 174 (0, 0)), (b3, .cells (Cells.vals Dj (lnR a)).toArray 174 (0, 0)), (b1, .cells #[.int .i64 0, .int .i64 0, .int .i64 0] 149 (0, 0))] -> (∀ w', Ext w w' -> K (spR x y k) w') ->
   Ad (at0 b1) (.agg #[(.int .i64 x), (.int .i64 y), (.int .i64 k)]) 3 (lds Az (at0 b1) K) V := λ S hk =>
  S.Ad 2 rfl rfl rfl rfl λ w3 S3 u3 => S3.lds 2 (t := 149) (fr := (0, 0)) (spR _ _ _) rfl (hk w3 S3.upd)
 have S7' : St (λ _ => False) w w7 [(b6, .cells (Cells.vals Dj (lnR b)).toArray 174 (0, 0)), (b3, .cells (Cells.vals Dj (lnR a)).toArray 174 (0, 0)), (b1, .cells #[.int .i64 0, .int .i64 0, .int .i64 0] 149 (0, 0))] := S7
 refine Jb (decide (a.to_ ≠ c.to_ \/ a = b), ()) ?_ ?_
 ·refine S7'.ld 1 rfl (x := (a.to_ : Int)) rfl (Aa (λ h1 => ⟨Aj ?_, rfl⟩) (λ h1 => S7'.ld 0 rfl (x := (b.from_ : Int)) rfl (S7'.ld 1 rfl (x := (a.from_ : Int)) rfl ⟨Aj ?_, rfl⟩)))
  ·simp only [bne_iff_ne, ne_eq] at h1
   have : a.to_ ≠ c.to_ := λ h => h1 (by rw [h])
   simp [this]
  ·simp only [bne_eq_false_iff_eq] at h1
   have h1 : a.to_ = c.to_ := by omega
   simp only [beq_iff_eq, decide_eq_true_eq, h1, ne_eq, not_true_eq_false, false_or]
   rw [← hab]; omega
 refine Aa (λ h1 => ?_) (λ h1 => ?_)
 ·simp only [decide_eq_true_eq] at h1
  rw [if_pos h1] at hK
  exact sp S7' hK
 simp only [decide_eq_false_iff_not] at h1
 rw [if_neg h1] at hK
 refine S7'.ld 0 rfl (x := (b.from_ : Int)) rfl ?_
 refine Xl (hs.ext S7'.upd) (by omega) (by omega) (by omega) (by have := hs.le; omega) (by omega) λ y hy _ _ _ => ?_
 have hy := Bl5 (l := ⟨b.from_, d.from_, 0, 0⟩) hbf hy
 have cat := λ i x => Xz (A := A) (l := ⟨b.from_, d.from_, 0, 0⟩) hbf hdl (i := i) (c := x)
 have hn : (Bv A ⟨b.from_, d.from_, 0, 0⟩).length = (cuts ((A.drop b.from_).take (d.from_ - b.from_))).length - 1 := Js _ _
 have hcp := Lj ((A.drop b.from_).take (d.from_ - b.from_))
 have hCl := Gx ((A.drop b.from_).take (d.from_ - b.from_)) b.from_
 rw [List.length_take, List.length_drop] at hCl
 refine Nb hy (by rw [List.length_take, List.length_drop]; omega) λ cu w8 oc e8 => ?_
 have hcl2 := Aq.Ap1 oc.in
 have S8 := S7'.ext e8
 have hC : Bg ((A.drop b.from_).take (d.from_ - b.from_)) b.from_ = Bv A ⟨b.from_, d.from_, 0, 0⟩ := rfl
 rw [hC] at hK hCl
 dsimp only at hn hcp hcl2 cat
 generalize Bv A ⟨b.from_, d.from_, 0, 0⟩ = C at *
 refine Ae (λ _ W => C.any (λ c => c.kind != 0) = false /\ Ext w8 W) ?_ ?_
 ·refine Am (λ x W => ∃ i : Nat, x = ((i : Int), ()) /\ i <= C.length /\ (∀ (j : Nat) z, j < i -> C[j]? = some z -> z.kind = 0) /\ Ext w8 W) (λ x _ => ((C.length : Int) - x.1).toNat) ⟨0, rfl, Nat.zero_le _, (λ j z hj => by omega), Ext.refl w8⟩ ?_
  rintro _ W ⟨i, rfl, hi, hall, eW⟩
  dsimp only
  have ew : W64 ((i : Int) + 1) = ((i + 1 : Nat) : Int) := by rw [wrap64 (by omega) (by omega)]; omega
  rw [ew]
  refine Aa (λ hc1 => ?_) (λ hc1 => ?_)
  ·simp only [decide_eq_true_eq] at hc1
   obtain ⟨z, hz⟩ : ∃ z, C[i]? = some z := ⟨_, List.getElem?_eq_getElem (by omega)⟩
   obtain ⟨ci, cj, hci, hcj, q1⟩ := cat i z hz
   have f1 := q1.from_; have f2 := q1.to_; have f3 := q1.le; have f4 := q1.lt
   dsimp only at f1 f2 f3
   have ew2 : W64 ((b.from_ : Int) + (ci : Int)) = (z.from_ : Int) := by rw [wrap64 (by omega) (by omega)]; omega
   refine (S8.ext eW).drew λ w9 S9 e9 _ => S9.ld 0 rfl (x := (b.from_ : Int)) rfl (Vg (oc.in.ext (eW.trans e9)) hci λ _ => ?_)
   rw [ew2]
   refine rdA (hs.ext S9.upd) q1.atom λ _ => Sz ?_
   rw [← q1.kind]
   refine Aa (λ h3 => ?_) (λ h3 => ?_)
   ·simp only [bne_iff_ne, ne_eq] at h3
    rw [if_pos (List.any_eq_true.2 ⟨z, List.mem_of_getElem? hz, by simp; omega⟩)] at hK
    exact sp S9 hK
   ·simp only [bne_eq_false_iff_eq] at h3
    refine ⟨⟨i + 1, rfl, by omega, λ j x hj hx => ?_, eW.trans e9⟩, by omega⟩
    by_cases hji : j = i
    ·subst hji; rw [hz] at hx; cases hx; omega
    ·exact hall j x (by omega) hx
  ·simp only [decide_eq_false_iff_not] at hc1
   refine ⟨?_, eW⟩
   rw [List.any_eq_false]
   intro x hx
   obtain ⟨j, hj⟩ := List.getElem?_of_mem hx
   have := hall j x (by have := (List.getElem?_eq_some_iff.1 hj).1; omega) hj
   simp [this]
 rintro _ W ⟨hany, eW⟩
 rw [if_neg (by rw [hany]; decide)] at hK
 have S9 := S8.ext eW
 refine S9.ld 1 rfl (x := (a.next : Int)) rfl (S9.ld 0 rfl (x := (b.from_ : Int)) rfl (Aa (λ h3 => ?_) (λ h3 => ?_)))
 ·simp only [beq_iff_eq] at h3
  rw [if_pos (by omega)] at hK
  exact sp S9 hK
 ·simp only [beq_eq_false_iff_ne, ne_eq] at h3
  rw [if_neg (by omega)] at hK
  exact S9.ld 1 rfl (x := (a.next : Int)) rfl (S9.ld 0 rfl (x := (b.from_ : Int)) rfl (sp S9 hK))
set_option maxHeartbeats 2000000 in
theorem Aj0 {at_ kind count arg : Int} (hs : Aq w s t 1 (iv A)) (hl : A.length < 2 ^ 39) (hcn : count < 2 ^ 63) {K : Cells.T Az × Int × Unit -> Wp}
  (hK : ∀ w', Ext w w' -> K (spR (La A at_ kind count arg).1.1 (La A at_ kind count arg).1.2.1 (La A at_ kind count arg).1.2.2, (La A at_ kind count arg).2, ()) w') :
  Ac Tryz.prog 107 #[s.v, .int .i64 at_, .int .i64 kind, .int .i64 count, .int .i64 arg] (.tup [(.agg Az), (.one (.int .i64))]) K w := by
 refine Cz8 ?_
 unfold F107
 have hlen : A.length = s.len := by have := hs.len1; rwa [List.length_map] at this
 have hchk := Rf (n := A.length) (at_ := at_) (kind := kind) (count := count) (lo := 67) (hi := 68)
 refine (St.start w).Af λ b1 w1 S1 e1 => ?_
 have nz : ((fellow arg).getD 0 == 0) = (fellow arg).isNone := by
  cases hf : fellow arg with
  | none => rfl
  | some sh =>
   have : sh ≠ 0 := by
    unfold fellow at hf
    split at hf
    ·cases hf; decide
    ·split at hf
     ·cases hf; decide
     ·split at hf
      ·cases hf; decide
      ·split at hf
       ·cases hf; decide
       ·cases hf
   simpa using this
 refine Jb ((decide (kind < 67) || decide (kind > 68) || decide (count < 0) || (fellow arg).isNone), ()) ?_ ?_
 ·refine Aa (λ g1 => ⟨Aj ?_, rfl⟩) (λ g1 => Aa (λ g2 => ⟨Aj ?_, rfl⟩) (λ g2 => Aa (λ g3 => ⟨Aj ?_, rfl⟩) (λ g3 => Xq ⟨Aj ?_, rfl⟩)))
  ·rw [g1]; simp
  ·rw [g2]; simp
  ·rw [g3]; simp
  ·rw [g1, g2, g3, nz]; simp
 refine Aa (λ h1 => ?_) (λ h1 => ?_)
 ·have h1 : (decide (kind < 67) || decide (kind > 68) || decide (count < 0) || (fellow arg).isNone) = true := h1
  refine Et 0 S1 rfl rfl _ _ _ λ w' x => ?_
  have := hK w' x
  unfold La at this
  rw [Bool.or_eq_true] at h1
  rcases h1 with h1 | h1
  ·rw [hchk, if_pos h1, if_pos rfl] at this
   exact this
  ·rw [Option.isNone_iff_eq_none] at h1
   rw [h1] at this
   dsimp only at this
   have e : (if checked A.length at_ kind count 67 68 = 1 then (((0, 0, 0), 1) : (Int × Int × Int) × Int) else ((0, 0, 0), 1)) = ((0, 0, 0), 1) := by split <;> rfl
   rw [e] at this
   exact this
 have h1 : (decide (kind < 67) || decide (kind > 68) || decide (count < 0) || (fellow arg).isNone) = false := h1
 rw [Bool.or_eq_false_iff] at h1
 rw [if_neg (by rw [h1.1]; decide)] at hchk
 obtain ⟨sh, hf⟩ : ∃ sh, fellow arg = some sh := by
  cases hf : fellow arg with
  | none => rw [hf] at h1; cases h1.2
  | some sh => exact ⟨sh, rfl⟩
 unfold La at hK
 rw [hf] at hK
 dsimp only at hK
 refine Xv ?_
 refine Aa (λ h2 => ?_) (λ h2 => ?_)
 ·have h2 : (decide (at_ < 0) || decide (at_ > (A.length : Int))) = true := by rw [hlen]; exact h2
  rw [if_pos h2] at hchk
  refine Et 0 S1 rfl rfl _ _ _ λ w' x => ?_
  have := hK w' x
  rw [hchk, if_neg (by decide), if_pos (by decide)] at this
  exact this
 have h2 : (decide (at_ < 0) || decide (at_ > (A.length : Int))) = false := by rw [hlen]; exact h2
 rw [if_neg (by rw [h2]; decide)] at hchk
 have hat : ¬ (at_ < 0 \/ (A.length : Int) < at_) := by simpa using h2
 have hcount : 0 <= count := by have := h1.1; simp at this; omega
 have hkind : kind = 67 \/ kind = 68 := by have := h1.1; simp at this; omega
 rw [hchk, if_neg (by decide), if_neg (by decide)] at hK
 have hos := Ay5 hf
 have htp := Pq count
 have htl := Sm hcn
 rw [Ak9 hos htp] at hK
 refine Ld hcount (Av6 (hs.ext e1) hl hf hos λ r w2 o2 e2 => ?_)
 have S2 := S1.ext e2
 have hrl := Ah.Jq (cs := Jt) o2 (by decide)
 rw [List.length_map] at hrl
 have cat := λ i c => Bd7 (A := A) (i := i) (c := c)
 have mem := Q9 (C := Bg A 0) (o := arg) (s := sh) (Bg A 0).length
 have hlong : (Iy (Bg A 0) arg sh (Bg A 0).length).length <= (Bg A 0).length := by
  have : ∀ j, (Iy (Bg A 0) arg sh j).length <= j := by
   intro j
   induction j with
   | zero => simp [Iy]
   | succ j ih =>
    rw [Iy]
    split
    ·omega
    ·split
     ·omega
     ·split
      ·rw [List.length_append]
       have : (O1 j (Jk (Bg A 0) arg sh j)).length <= 1 := by cases Jk (Bg A 0) arg sh j <;> simp [O1]
       omega
      ·omega
  exact this _
 have hCl := Gx A 0
 have fr := λ (j : Nat) (c : Cel) (hc : (Bg A 0)[j]? = some c) => Be0 (A := A) (off := 0) (at_ := at_) (by omega) hc
 generalize Bg A 0 = C at *
 generalize Ef C at_ = i0 at *
 generalize Iy C arg sh C.length = L at *
 obtain ⟨k0, hk0⟩ : ∃ k0, k0 = times count := ⟨_, rfl⟩
 rw [← hk0] at hK htp htl ⊢
 refine Ae (λ _ W => w2 = W /\ (L.filter (inB i0))[k0 - 1]? = none) ?_ ?_
 ·refine Am (λ x W => ∃ i k : Nat, x = ((k : Int), (i : Int), ()) /\ w2 = W /\ i <= L.length /\ 1 <= k /\ k <= k0 /\ (L.filter (inB i0))[k0 - 1]? = ((L.drop i).filter (inB i0))[k - 1]?) (λ x _ => ((L.length : Int) - x.2.1).toNat) ⟨0, k0, rfl, rfl, Nat.zero_le _, htp, Nat.le_refl _, rfl⟩ ?_
  rintro _ _ ⟨i, k, rfl, rfl, hi, hk1, hk2, he⟩
  dsimp only
  have ew : W64 ((i : Int) + 1) = ((i + 1 : Nat) : Int) := by rw [wrap64 (by omega) (by omega)]; omega
  have ewk : W64 ((k : Int) - 1) = ((k - 1 : Nat) : Int) := by rw [wrap64 (by omega) (by omega)]; omega
  rw [ew, ewk]
  refine Aa (λ hc => ?_) (λ hc => ?_)
  ·simp only [decide_eq_true_eq] at hc
   obtain ⟨x, hx⟩ : ∃ x, L[i]? = some x := ⟨_, List.getElem?_eq_getElem (by omega)⟩
   obtain ⟨m1, m2, ⟨c, hcx, hco⟩, d, hdx, _, hds⟩ := mem x (List.mem_of_getElem? hx)
   obtain ⟨_, _, _, _, ca, cl, clt⟩ := cat _ c hcx
   obtain ⟨_, _, _, _, da, dl, dlt⟩ := cat _ d hdx
   have hca : c.to_ = c.from_ + 1 := by
    unfold Cel.is at hco
    rw [Bool.and_eq_true, ca] at hco
    exact of_decide_eq_true hco.1
   have hda : d.to_ = d.from_ + 1 := by
    unfold Cel.is at hds
    rw [Bool.and_eq_true, da] at hds
    exact of_decide_eq_true hds.1
   have g1 := (fr _ c hcx).1
   have g2 := (fr _ d hdx).2 hda
   have rf : ∀ {V : World} {K : Addr -> Int -> Wp}, Ext w2 V -> (∀ q, K q (c.from_ : Int) V) -> ix r.a r.len (i : Int) (λ q => ld (.int .i64) (q.add (scaled (Int.toNat (i : Int)) 3)) (K q)) V := λ e hk => Uy (c := .int .i64) (cs := Jt) (xs := L.map (bkT C)) (o2.ext e).in (by omega) (x := bkT C x) (y := (c.from_ : Int)) (by rw [Int.toNat_natCast, List.getElem?_map, hx]; rfl) (by show some (Value.int .i64 ((frm C x.1 : Nat) : Int)) = _; rw [Kt hcx]; rfl) hk
   have rt : ∀ {V : World} {K : Addr -> Int -> Wp}, Ext w2 V -> (∀ q, K q (d.from_ : Int) V) -> ix r.a r.len (i : Int) (λ q => ld (.int .i64) ((q.add (scaled (Int.toNat (i : Int)) 3)).add 1) (K q)) V := λ e hk => Tv (c := .int .i64) (cs := Jt) (xs := L.map (bkT C)) (j := 1) (o2.ext e).in (by omega) (x := bkT C x) (y := (d.from_ : Int)) (by rw [Int.toNat_natCast, List.getElem?_map, hx]; rfl) (by show some (Value.int .i64 ((frm C x.2 : Nat) : Int)) = _; rw [Kt hdx]; rfl) hk
   rw [drop_at hx] at he
   have hin : inB i0 x = (decide ((c.from_ : Int) <= at_) && decide (at_ <= (d.from_ : Int))) := by
    unfold inB
    rw [Bool.eq_iff_iff]
    simp only [Bool.and_eq_true, decide_eq_true_eq]
    rw [g1, g2]
   refine Ae (λ y W => ∃ k' : Nat, y = ((k' : Int), ()) /\ w2 = W /\ 1 <= k' /\ k' <= k0 /\ (L.filter (inB i0))[k0 - 1]? = ((L.drop (i + 1)).filter (inB i0))[k' - 1]?) ?_ ?_
   ·refine Jb (!inB i0 x, ()) ?_ ?_
    ·refine rf (Ext.refl _) λ _ => Aa (λ h3 => ⟨Aj ?_, rfl⟩) (λ h3 => rt (Ext.refl _) λ _ => ⟨Aj ?_, rfl⟩)
     ·rw [hin]
      simp only [decide_eq_true_eq] at h3
      simp; omega
     ·rw [hin]
      simp only [decide_eq_false_iff_not] at h3
      simp; omega
    refine Aa (λ h3 => ?_) (λ h3 => ?_)
    ·have h3 : inB i0 x = false := by simpa using h3
     rw [List.filter_cons_of_neg (by rw [h3]; decide)] at he
     exact ⟨k, rfl, rfl, hk1, hk2, he⟩
    ·have h3 : inB i0 x = true := by simpa using h3
     rw [List.filter_cons_of_pos h3] at he
     refine Aa (λ h4 => ?_) (λ h4 => ?_)
     ·simp only [decide_eq_true_eq] at h4
      refine ⟨k - 1, rfl, rfl, by omega, by omega, ?_⟩
      rw [he, show k - 1 = (k - 1 - 1) + 1 by omega, List.getElem?_cons_succ]
      rfl
     ·simp only [decide_eq_false_iff_not, gt_iff_lt] at h4
      have hk : k = 1 := by omega
      rw [hk] at he
      have he : (L.filter (inB i0))[k0 - 1]? = some x := he
      rw [he, Option.bind_some] at hK
      have hp : pick C (some x.1) (some x.2) = some (c, d) := by simp only [pick, hcx, hdx]
      rw [hp] at hK
      dsimp only at hK
      have ewd : W64 ((d.from_ : Int) + 1) = (d.to_ : Int) := by rw [wrap64 (by omega) (by omega)]; omega
      refine Aa (λ h5 => ?_) (λ h5 => ?_)
      ·simp only [beq_iff_eq] at h5
       rw [if_neg (by omega)] at hK
       refine S2.drew λ w3 S3 e3 _ => rf e3 λ _ => rt e3 λ _ => ?_
       rw [ewd]
       exact Et 0 S3 rfl rfl _ _ _ λ w9 x9 => hK w9 x9
      ·simp only [beq_eq_false_iff_ne, ne_eq] at h5
       rw [if_pos (by omega)] at hK
       refine S2.drew λ w3 S3 e3 _ => rf e3 λ _ => rt e3 λ _ => ?_
       refine Ai4 (hs.ext S3.upd) hl hca (by omega) (by omega) ?_ λ w4 e4 => ?_
       ·rw [hin] at h3
        simp at h3
        omega
       have S4 := S3.ext e4
       exact S4.Ad 0 rfl rfl rfl rfl λ w5 S5 u5 => S5.lds 0 (spR _ _ _) rfl (hK w5 S5.upd)
   ·rintro _ _ ⟨k', rfl, rfl, q1, q2, q3⟩
    exact ⟨⟨i + 1, k', rfl, rfl, by omega, q1, q2, q3⟩, by omega⟩
  ·simp only [decide_eq_false_iff_not] at hc
   refine ⟨rfl, ?_⟩
   rw [he, List.drop_eq_nil_of_le (by omega)]; rfl
 ·rintro _ _ ⟨rfl, he⟩
  rw [he] at hK
  exact Et 0 S2 rfl rfl _ _ _ λ w9 x9 => hK w9 x9
end
end Go.Proofs.YtabcpghhfeplaaaGreat
namespace Go.Proofs.YtabcpghhfeplaaaGreat
open Trx Gly Clu Lns Obx
namespace Obx
theorem Aa7 (A : List Int) (f g : Nat) : ∀ L : List Nat, (Ue A f L).map (·.kind) = (Ue A g L).map (·.kind)
 | [] => rfl
 | [_] => rfl
 | i :: j :: r => by rw [Ue, Ue, List.map_cons, List.map_cons, Aa7 A f g (j :: r)]; rfl
theorem Bj5 (A : List Int) (f g : Nat) : (Bg A f).map (·.kind) = (Bg A g).map (·.kind) := Aa7 A f g _
theorem Ah6 (C : List Cel) : Cc C false = C.map (·.kind) := by
 unfold Cc
 exact List.map_congr_left λ c _ => by simp
theorem Av3 {S : List Nat} {R : List Rw} (h : Jg S S.length R) : (R.length = 0 \/ (R.length = 1 /\ ∃ r, R[0]? = some r /\ r.s = 0)) ↔ ∀ s ∈ S, s = 0 := by
 constructor
 ·rintro (h0 | ⟨h1, r, hr, hs⟩) s hm
  ·have := h.none_ (List.length_eq_zero_iff.1 h0)
   rw [List.length_eq_zero_iff.1 this] at hm; cases hm
  ·obtain ⟨j, hj⟩ := List.getElem?_of_mem hm
   have hjl := (List.getElem?_eq_some_iff.1 hj).1
   have e1 := h.last r (Ir hr (by omega))
   have e0 := h.head r hr
   have := (h.row 0 r hr).2.2 j (by omega) (by omega)
   rw [Ye hj] at this
   omega
 ·intro ha
  rcases Nat.lt_or_ge R.length 2 with q | q
  ·by_cases h0 : R.length = 0
   ·exact .inl h0
   ·right
    obtain ⟨r, hr⟩ : ∃ r, R[0]? = some r := ⟨_, List.getElem?_eq_getElem (by omega)⟩
    refine ⟨by omega, r, hr, ?_⟩
    obtain ⟨g1, g2, g3⟩ := h.row 0 r hr
    obtain ⟨s, hs⟩ : ∃ s, S[r.b]? = some s := ⟨_, List.getElem?_eq_getElem (by omega)⟩
    have := g3 r.b (Nat.le_refl _) g1
    rw [Ye hs, ha s (List.mem_of_getElem? hs)] at this
    exact this.symm
  ·exfalso
   obtain ⟨r, hr⟩ : ∃ r, R[0]? = some r := ⟨_, List.getElem?_eq_getElem (by omega)⟩
   obtain ⟨t, ht⟩ : ∃ r, R[1]? = some r := ⟨_, List.getElem?_eq_getElem (by omega)⟩
   have hz : ∀ (m : Nat) r, R[m]? = some r -> r.s = 0 := λ m r hr => by
    obtain ⟨g1, g2, g3⟩ := h.row m r hr
    obtain ⟨s, hs⟩ : ∃ s, S[r.b]? = some s := ⟨_, List.getElem?_eq_getElem (by omega)⟩
    have := g3 r.b (Nat.le_refl _) g1
    rw [Ye hs, ha s (List.mem_of_getElem? hs)] at this
    exact this.symm
   exact (h.next 0 r t hr ht).2 (by rw [hz 0 r hr, hz 1 t ht])
theorem Ah7 (A : List Int) (l : Ln) : Nu A l = if ∀ s ∈ Cc (Bv A l) false, s = 0 then 0 else 1 := by
 unfold Nu
 rw [Ah6]
 unfold Bv
 rw [Bj5 _ l.from_ 0]
 generalize Bg ((A.drop l.from_).take (l.to_ - l.from_)) 0 = C
 by_cases h : ∀ s ∈ C.map (·.kind), s = 0
 ·rw [if_pos h, if_neg]
  intro hc
  obtain ⟨c, hc, hk⟩ := List.any_eq_true.1 hc
  have := h c.kind (List.mem_map_of_mem hc)
  simp [this] at hk
 ·rw [if_neg h, if_pos]
  rw [List.any_eq_true]
  apply Classical.byContradiction
  intro hn
  apply h
  intro s hs
  obtain ⟨c, hc, rfl⟩ := List.mem_map.1 hs
  apply Classical.byContradiction
  intro hk
  exact hn ⟨c, hc, by simpa using hk⟩
def Aa0 (L : List Ln) (r : Rw) : Nat := (L[r.b]?.map (·.from_)).getD 0
def nextL (L : List Ln) (r : Rw) : Nat := (L[r.e - 1]?.map (·.next)).getD 0
theorem Ao8 {A : List Int} {j : Nat} (hj : j < lnN A) : ∃ l, Eb A j = some l /\ (Ej A)[j]? = some l := by
 have hb : j <= brs A := by unfold lnN at hj; split at hj <;> omega
 obtain ⟨l, hl⟩ := Ux hb
 refine ⟨l, hl, ?_⟩
 unfold Ej
 rw [List.getElem?_map, List.getElem?_range hj, Option.map_some, hl]; rfl
theorem Af2 {A : List Int} {i : Nat} {l m : Ln} (h1 : Eb A i = some l) (h2 : Eb A (i + 1) = some m) : l.next = m.from_ := by
 have ok := Oo h1
 have hs := (Ie h2).2
 exact (ok.brk _ hs).1
theorem Zg {A : List Int} : ∀ (d i : Nat) (l m : Ln), Eb A i = some l -> Eb A (i + 1 + d) = some m -> l.next <= m.from_
 | 0, i, l, m, h1, h2 => Nat.le_of_eq (Af2 h1 h2)
 | d + 1, i, l, m, h1, h2 => by
  have hb := (Ie h2).1
  obtain ⟨x, hx⟩ := Ux (A := A) (i := i + 1) (by omega)
  have e := Af2 h1 hx
  have := Zg d (i + 1) x m hx (by rw [show i + 1 + 1 + d = i + 1 + (d + 1) by omega]; exact h2)
  have hx2 := (Oo hx).ft
  have hx3 := (Oo hx).tn
  omega
theorem At7 {A : List Int} {R : List Rw} (h : Jg (Bl A) (Bl A).length R) {at_ : Nat} (hat : at_ <= A.length) (hn : nb A at_ < lnN A) {m : Nat} {r : Rw} (hr : R[m]? = some r)
  (h1 : ∀ (j : Nat) q, j < m -> R[j]? = some q -> (nextL (Ej A) q : Int) <= (at_ : Int)) (h2 : (at_ : Int) < (nextL (Ej A) r : Int) \/ m + 1 = R.length) : r.b <= nb A at_ /\ nb A at_ < r.e := by
 have hS : (Bl A).length = lnN A := (Wu A).1
 obtain ⟨g1, g2, _⟩ := h.row m r hr
 obtain ⟨l, hl, hlf, hln⟩ := Y7 A hat
 have nx : ∀ (q : Rw), q.b < q.e -> q.e <= lnN A -> ∃ y, Eb A (q.e - 1) = some y /\ nextL (Ej A) q = y.next := λ q q1 q2 => by
  obtain ⟨y, hy, hy2⟩ := Ao8 (A := A) (j := q.e - 1) (by omega)
  exact ⟨y, hy, by unfold nextL; rw [hy2]; rfl⟩
 constructor
 ·rcases Nat.lt_or_ge (nb A at_) r.b with q | q
  ·exfalso
   cases m with
   | zero => have := h.head r hr; omega
   | succ m =>
    obtain ⟨p, hp⟩ : ∃ p, R[m]? = some p := ⟨_, List.getElem?_eq_getElem (by have := (List.getElem?_eq_some_iff.1 hr).1; omega)⟩
    have e1 := (h.next m p r hp hr).1
    obtain ⟨p1, p2, _⟩ := h.row m p hp
    obtain ⟨y, hy, hy2⟩ := nx p p1 (by omega)
    have h3 := h1 m p (by omega) hp
    rw [hy2] at h3
    have hyb := (Ie hy).1
    obtain ⟨z, hz⟩ : ∃ z, Eb A r.b = some z := by
     have hb : r.b <= brs A := by have : r.b < lnN A := (by omega); unfold lnN at this; split at this <;> omega
     exact Ux hb
    rcases hln with u | ⟨u, _⟩
    ·by_cases he : p.e - 1 = nb A at_
     ·rw [he, hl] at hy; cases hy; omega
     ·have hm := Zg (p.e - 1 - (nb A at_ + 1)) (nb A at_) l y hl (by rw [show nb A at_ + 1 + (p.e - 1 - (nb A at_ + 1)) = p.e - 1 by omega]; exact hy)
      have := (Oo hy).ft
      have := (Oo hy).tn
      omega
    ·have hzb := (Ie hz).1
     obtain ⟨x, hx⟩ := U9 (A := A) (k := nb A at_ + 1) (by omega)
     rw [hx] at u; cases u
  ·exact q
 ·rcases h2 with q | q
  ·rcases Nat.lt_or_ge (nb A at_) r.e with u | u
   ·exact u
   ·obtain ⟨y, hy, hy2⟩ := nx r g1 (by omega)
    rw [hy2] at q
    have hm := Zg (nb A at_ - r.e) (r.e - 1) y l hy (by rw [show r.e - 1 + 1 + (nb A at_ - r.e) = nb A at_ by omega]; exact hl)
    omega
  ·have := h.last r (Ir hr (by omega)); omega
end Obx
end Go.Proofs.YtabcpghhfeplaaaGreat
namespace Go.Proofs.YtabcpghhfeplaaaGreat
open Go Go.Vx Gly Clu Rgl Lns Trx Obx
section
variable {w w' : World} {A : List Int} {s : Sl} {t : TypeId}
theorem Av7 {i : Nat} {l : Ln} (hs : Aq w s t 1 (iv A)) (hl : A.length < 2 ^ 39) (hi : Eb A i = some l) {K : Bool -> Wp} (hK : ∀ w', Ext w w' -> K (decide (Nu A l = 0)) w') :
  Ac Tryz.prog 155 #[s.v, .agg (Cells.vals Dj (lnR l)).toArray] rB K w := by
 refine Cv1 ?_
 unfold F155
 have ok := Oo hi
 have h1 := ok.ft; have h2 := ok.tn; have h3 := ok.nl
 refine (St.start w).Af λ b1 w1 S1 e1 => S1.lds 0 (lnR l) rfl ?_
 refine Ro (hs.ext e1) hl h1 (by omega) λ r w2 o2 e2 => ?_
 have hrl := Hy.len o2
 have okR : Jg (Cc (Bv A l) false) (Cc (Bv A l) false).length (Dh (Cc (Bv A l) false) (Bv A l).length) := by
  rw [Ws]; exact Qa _ _
 have pl := Av3 okR
 have hsl := Ah7 A l
 generalize Dh (Cc (Bv A l) false) (Bv A l).length = R at *
 have x2 := hK w2 (e1.trans e2)
 have hd : decide (Nu A l = 0) = decide (R.length = 0 \/ (R.length = 1 /\ ∃ r, R[0]? = some r /\ r.s = 0)) := by
  rw [decide_eq_decide, pl, hsl]
  constructor
  ·intro h
   split at h
   ·rename_i h'; exact h'
   ·cases h
  ·intro h; rw [if_pos h]
 rw [hd] at x2
 refine Aa (λ g1 => ?_) (λ g1 => ?_)
 ·simp only [beq_iff_eq] at g1
  rw [decide_eq_true (.inl (by omega))] at x2; exact x2
 simp only [beq_eq_false_iff_ne, ne_eq] at g1
 refine Aa (λ g2 => ?_) (λ g2 => ?_)
 ·simp only [beq_iff_eq] at g2
  obtain ⟨q, hq⟩ : ∃ q, R[0]? = some q := ⟨_, List.getElem?_eq_getElem (by omega)⟩
  refine Us (i := 0) o2.in hq λ p => ?_
  have : decide (R.length = 0 \/ (R.length = 1 /\ ∃ r, R[0]? = some r /\ r.s = 0)) = ((q.s : Int) == 0) := by
   rw [Bool.eq_iff_iff]
   simp only [decide_eq_true_eq, beq_iff_eq]
   constructor
   ·rintro (h | ⟨_, r, hr, hz⟩)
    ·omega
    ·rw [hq] at hr; cases hr; omega
   ·intro h
    exact .inr ⟨by omega, q, hq, by omega⟩
  rw [this] at x2; exact x2
 ·simp only [beq_eq_false_iff_ne, ne_eq] at g2
  rw [decide_eq_false (by rintro (h | h) <;> omega)] at x2; exact x2
set_option maxHeartbeats 1000000 in
theorem V9 (hs : Aq w s t 1 (iv A)) (hl : A.length < 2 ^ 39) {K : Sl -> Wp}
  (hK : ∀ s' w', Hy w' w.heap.size s' (Aa0 (Ej A)) (nextL (Ej A)) (Dh (Bl A) (lnN A)) -> Ext w w' -> K s' w') :
  Ac Tryz.prog 140 #[s.v] rS K w := by
 refine Cw5 ?_
 unfold F140
 refine Uu hs hl λ r6 w1 o1 e1 => ?_
 dsimp only
 have hbr : brs A <= A.length := by rw [Gz]; exact Tq _ _
 have hN : lnN A <= brs A + 1 := by unfold lnN; split <;> omega
 have hF := P8 A
 refine Ae (λ x W => Hy W w1.heap.size x.1 (Aa0 (Ej A)) (nextL (Ej A)) (Dh (Bl A) (lnN A)) /\ Ext w1 W) ?_ (λ x W h => hK _ _ (h.1.mono e1.size) (e1.trans h.2))
 refine Am (λ x W => ∃ i : Nat, i <= lnN A /\ x.2 = ((i : Int), ()) /\ Hy W w1.heap.size x.1 (Aa0 (Ej A)) (nextL (Ej A)) (Dh (Bl A) i) /\ Ext w1 W) (λ x _ => ((lnN A : Int) - x.2.1).toNat) ⟨0, Nat.zero_le _, rfl, Ah.nil _ _ _ _, Ext.refl w1⟩ ?_
 rintro ⟨r, _⟩ W ⟨i, hi, rfl, hr, eW⟩
 dsimp only at hr ⊢
 have ew : W64 ((i : Int) + 1) = ((i + 1 : Nat) : Int) := by rw [wrap64 (by omega) (by omega)]; omega
 rw [ew]
 refine Aa (λ hc => ?_) (λ hc => ?_)
 ·simp only [decide_eq_true_eq] at hc
  obtain ⟨l, h1, h2⟩ := Bc6 (A := A) (i := i) (by omega)
  obtain ⟨l', h3, h4⟩ := Ao8 (A := A) (j := i) (by omega)
  rw [h1] at h3; cases h3
  have hrow : (Dh (Bl A) i).length < 2 ^ 40 := by have := Nv (Bl A) i; omega
  obtain ⟨sv, hsv⟩ : ∃ sv, sv = Nu A l := ⟨_, rfl⟩
  have hsort : (Bl A).getD i 0 = sv := by
   refine Ye ?_
   unfold Bl
   rw [List.getElem?_map, h4, hsv]; rfl
  have hs1 : sv = 0 \/ sv = 1 := by rw [hsv]; unfold Nu; split <;> simp
  have rdl : ∀ {V : World} {K : Addr -> Cells.T Dj -> Wp}, Ext w1 V -> (∀ q, K q (lnR l) V) -> ix r6.a r6.len (i : Int) (λ q => lds Dj (q.add (scaled (Int.toNat (i : Int)) 4)) (K q)) V := λ e hk => Zk (cs := Dj) (xs := (lnF A).map lnR) (o1.ext e).in (by decide) (by omega) (x := lnR l) (by rw [Int.toNat_natCast, List.getElem?_map, h2]; rfl) hk
  have rdn : ∀ {V : World} {K : Addr -> Int -> Wp}, Ext w1 V -> (∀ q, K q (l.next : Int) V) -> ix r6.a r6.len (i : Int) (λ q => ld (.int .i64) ((q.add (scaled (Int.toNat (i : Int)) 4)).add 2) (K q)) V := λ e hk => Tv (c := .int .i64) (cs := Dj) (xs := (lnF A).map lnR) (j := 2) (o1.ext e).in (by omega) (x := lnR l) (y := (l.next : Int)) (by rw [Int.toNat_natCast, List.getElem?_map, h2]; rfl) rfl hk
  have rdf : ∀ {V : World} {K : Addr -> Int -> Wp}, Ext w1 V -> (∀ q, K q (l.from_ : Int) V) -> ix r6.a r6.len (i : Int) (λ q => ld (.int .i64) (q.add (scaled (Int.toNat (i : Int)) 4)) (K q)) V := λ e hk => Uy (c := .int .i64) (cs := Dj) (xs := (lnF A).map lnR) (o1.ext e).in (by omega) (x := lnR l) (y := (l.from_ : Int)) (by rw [Int.toNat_natCast, List.getElem?_map, h2]; rfl) rfl hk
  refine Ae (λ x W' => Hy W' w1.heap.size x.1 (Aa0 (Ej A)) (nextL (Ej A)) (Dh (Bl A) (i + 1)) /\ Ext w1 W') ?_ (λ x W' h => ⟨⟨i + 1, by omega, rfl, h.1, h.2⟩, by omega⟩)
  rw [Dh, hsort]
  refine Ae (λ x W' => x = ((sv : Int), ()) /\ Ext W W') ?_ ?_
  ·refine rdl eW λ q => Av7 (hs.ext (e1.trans eW)) hl h1 λ w2 e2 => ?_
   rw [← hsv]
   refine Aa (λ g => ⟨?_, e2⟩) (λ g => ⟨?_, e2⟩)
   ·simp only [decide_eq_true_eq] at g; rw [g]; rfl
   ·simp only [decide_eq_false_iff_not] at g
    rw [show sv = 1 by omega]; rfl
  rintro _ W1 ⟨rfl, eW1⟩
  have hr1 := hr.ext eW1
  have x1 := eW.trans eW1
  dsimp only
  obtain ⟨J, hJ⟩ : ∃ J : Bool × Unit -> World -> Prop, J = λ x W' => ((x = (true, ()) /\ ∃ q, (Dh (Bl A) i).getLast? = some q /\ q.s = sv) \/ (x = (false, ()) /\ ∀ q, (Dh (Bl A) i).getLast? = some q -> q.s ≠ sv)) /\ W1 = W' := ⟨_, rfl⟩
  refine Ae J ?_ ?_
  ·exact Af3 (J := J) hr1 hrow (λ q h1 h2 => by rw [hJ]; exact ⟨.inl ⟨rfl, q, h1, h2⟩, rfl⟩) (λ h => by rw [hJ]; exact ⟨.inr ⟨rfl, h⟩, rfl⟩)
  rw [hJ]
  have hto : nextL (Ej A) ⟨i, i + 1, sv⟩ = l.next := by unfold nextL; rw [Nat.add_sub_cancel, h4]; rfl
  have hfrom : Aa0 (Ej A) ⟨i, i + 1, sv⟩ = l.from_ := by unfold Aa0; rw [h4]; rfl
  rintro _ _ ⟨⟨rfl, q, hq, hqs⟩ | ⟨rfl, hq⟩, rfl⟩
  ·refine Cm (rdn x1 λ _ => ?_)
   rw [← hqs]
   refine Be1 hr1 hq (by unfold nextL; rw [Nat.add_sub_cancel, h4]; rfl) (by unfold Aa0; rfl) hrow λ w5 o5 u5 => ⟨o5, x1.step u5 λ k hk => hr.Di hk⟩
  ·refine Au (Fg λ w4 e4 _ => rdf (x1.trans e4) λ _ => rdn (x1.trans e4) λ _ => ?_)
   refine Bo λ b8 w5 e5 n5 _ _ => ?_
   refine As9 (j := i) (s := sv) ((hr1.ext e4).ext e5) (by rw [hto, hfrom]; exact n5) hq hrow (by have := x1.size; have := e4.size; have := e5.size; omega) λ r' w6 o6 u6 => ⟨o6, ((x1.trans e4).trans e5).step u6 λ k hk => hr.Di hk⟩
 ·simp only [decide_eq_false_iff_not] at hc
  have : i = lnN A := by omega
  subst this
  exact ⟨hr, eW⟩
set_option maxHeartbeats 1000000 in
theorem Am8 {at_ kind count : Int} (hs : Aq w s t 1 (iv A)) (hl : A.length < 2 ^ 39) (hcn : count < 2 ^ 63) {K : Cells.T Az × Int × Unit -> Wp}
  (hK : ∀ w', Ext w w' -> K (spR (Md A at_ kind count).1.1 (Md A at_ kind count).1.2.1 (Md A at_ kind count).1.2.2, (Md A at_ kind count).2, ()) w') :
  Ac Tryz.prog 108 #[s.v, .int .i64 at_, .int .i64 kind, .int .i64 count] (.tup [(.agg Az), (.one (.int .i64))]) K w := by
 refine Cz7 ?_
 unfold F108
 have hlen : A.length = s.len := by have := hs.len1; rwa [List.length_map] at this
 have hchk := Rf (n := A.length) (at_ := at_) (kind := kind) (count := count) (lo := 69) (hi := 70)
 refine (St.start w).Af λ b1 w1 S1 e1 => ?_
 refine An6 ?_
 refine Aa (λ h1 => ?_) (λ h1 => ?_)
 ·have h1 : (decide (kind < 69) || decide (kind > 70) || decide (count < 0)) = true := h1
  rw [if_pos h1] at hchk
  refine Et 0 S1 rfl rfl _ _ _ λ w' x => ?_
  have := hK w' x
  unfold Md at this
  rw [hchk, if_pos (by decide)] at this
  exact this
 have h1 : (decide (kind < 69) || decide (kind > 70) || decide (count < 0)) = false := h1
 rw [if_neg (by rw [h1]; decide)] at hchk
 refine Xv ?_
 refine Aa (λ h2 => ?_) (λ h2 => ?_)
 ·have h2 : (decide (at_ < 0) || decide (at_ > (A.length : Int))) = true := by rw [hlen]; exact h2
  rw [if_pos h2] at hchk
  refine Et 0 S1 rfl rfl _ _ _ λ w' x => ?_
  have := hK w' x
  unfold Md at this
  rw [hchk, if_pos (by decide)] at this
  exact this
 have h2 : (decide (at_ < 0) || decide (at_ > (A.length : Int))) = false := by rw [hlen]; exact h2
 rw [if_neg (by rw [h2]; decide)] at hchk
 have hat : ¬ (at_ < 0 \/ (A.length : Int) < at_) := by simpa using h2
 obtain ⟨n, rfl⟩ : ∃ n : Nat, at_ = (n : Int) := ⟨at_.toNat, by omega⟩
 have hnl : n <= A.length := by omega
 have hcount : 0 <= count := by simp at h1; omega
 have hkind : kind = 69 \/ kind = 70 := by simp at h1; omega
 unfold Md at hK
 rw [hchk, if_neg (by decide), Int.toNat_natCast] at hK
 have hbr : brs A <= A.length := by rw [Gz]; exact Tq _ _
 have hN : lnN A <= brs A + 1 := by unfold lnN; split <;> omega
 refine Ad9 (hs.ext e1) hl hnl λ w2 e2 => Aj1 (hs.ext (e1.trans e2)) hl λ w3 e3 => ?_
 have S3 := (S1.ext e2).ext e3
 refine Aa (λ h3 => ?_) (λ h3 => ?_)
 ·simp only [decide_eq_true_eq, ge_iff_le] at h3
  rw [if_pos (by omega)] at hK
  exact Et 0 S3 rfl rfl _ _ _ λ w9 x9 => hK w9 x9
 simp only [decide_eq_false_iff_not, ge_iff_le] at h3
 rw [if_neg (by omega)] at hK
 refine V9 (hs.ext S3.upd) hl λ r w4 o4 e4 => ?_
 have S4 := S3.ext e4
 have hSl : (Bl A).length = lnN A := (Wu A).1
 obtain ⟨R, hR⟩ : ∃ R, R = Dh (Bl A) (lnN A) := ⟨_, rfl⟩
 have ok : Jg (Bl A) (Bl A).length R := by rw [hR, hSl]; exact Qa _ _
 have hRl : R.length <= lnN A := by rw [hR]; exact Nv _ _
 rw [← hR] at o4
 have hrl := Hy.len o4
 have h0 : R.length ≠ 0 := λ hc => by have := ok.none_ (List.length_eq_zero_iff.1 hc); omega
 refine E8 o4.in (by omega) (by omega) λ m q hq hlo hhi => ?_
 have hm := (List.getElem?_eq_some_iff.1 hq).1
 have hwh := At7 ok hnl (by omega) hq hlo hhi
 have htp := Pq count
 have htl := Sm hcn
 rw [Ad5 ok hq hwh.1 hwh.2 htp] at hK
 refine Ld hcount (F5 o4.in (by omega) hm ⟨by omega, htl⟩ ?_)
 obtain ⟨out, hout⟩ : ∃ out : Bool, out = decide (kind = 70) := ⟨_, rfl⟩
 rw [← hout] at hK
 refine Ae (λ x W => (match (if out then Ih R m (times count) else if times count <= R.length - m then some (m, m + times count - 1) else none) with | some y => x = ((y.1 : Int), (y.2 : Int), ()) | none => x.2.1 = -1) /\ w4 = W) ?_ ?_
 ·refine Aa (λ h4 => ?_) (λ h4 => ?_)
  ·simp only [beq_iff_eq] at h4
   have h4 : out = true := by rw [hout]; simp [h4]
   refine Ld hcount (Xr o4.in (by omega) hm ⟨htp, by omega⟩ ?_)
   rw [if_pos h4]
   cases Ih R m (times count) with
   | none => exact ⟨rfl, rfl⟩
   | some y => exact ⟨rfl, rfl⟩
  ·simp only [beq_eq_false_iff_ne, ne_eq] at h4
   have h4 : out = false := by rw [hout]; simp [h4]
   rw [if_neg (by rw [h4]; decide)]
   by_cases hc : times count <= R.length - m
   ·rw [if_pos hc, if_pos (by omega)]
    refine ⟨?_, rfl⟩
    dsimp only
    rw [show ((m + times count - 1 : Nat) : Int) = (m : Int) + ((times count : Nat) : Int) - 1 by omega]
   ·rw [if_neg hc, if_neg (by omega)]
    exact ⟨rfl, rfl⟩
 rintro ⟨xf, xt, _⟩ _ ⟨hx, rfl⟩
 cases hp : (if out then Ih R m (times count) else if times count <= R.length - m then some (m, m + times count - 1) else none) with
 | none =>
  rw [hp] at hx hK
  dsimp only at hx
  subst hx
  refine Cm (Et 0 S4 rfl rfl _ _ _ λ w' x => hK w' x)
 | some y =>
  obtain ⟨a, z⟩ := y
  rw [hp] at hx hK
  dsimp only at hx
  cases hx
  have hlt : a < R.length /\ z < R.length := by
   by_cases h4 : out = true
   ·rw [if_pos h4] at hp; exact Ab0 hm hp
   ·rw [if_neg h4] at hp
    split at hp
    ·cases hp; omega
    ·cases hp
  obtain ⟨x, hx⟩ : ∃ x, R[a]? = some x := ⟨_, List.getElem?_eq_getElem hlt.1⟩
  obtain ⟨y, hy⟩ : ∃ x, R[z]? = some x := ⟨_, List.getElem?_eq_getElem hlt.2⟩
  rw [Option.bind_some, Jc hx hy] at hK
  refine Aa (λ hc => ?_) (λ _ => ?_)
  ·simp only [decide_eq_true_eq] at hc; omega
  refine S4.drew λ w5 S5 e5 _ => Bb3 (o4.ext e5).in hx λ q1 => Bx1 (o4.ext e5).in hy λ q2 => ?_
  exact Et 0 S5 rfl rfl _ _ _ λ w9 x9 => hK w9 x9
set_option maxHeartbeats 1000000 in
theorem Av2 {at_ kind count arg : Int} (hs : Aq w s t 1 (iv A)) (hl : A.length < 2 ^ 39) (hcn : count < 2 ^ 63) {K : Cells.T Az × Int × Unit -> Wp}
  (hK : ∀ w', Ext w w' -> K (spR (Px A at_ kind count arg).1.1 (Px A at_ kind count arg).1.2.1 (Px A at_ kind count arg).1.2.2, (Px A at_ kind count arg).2, ()) w') :
  Ac Tryz.prog 109 #[s.v, .int .i64 at_, .int .i64 kind, .int .i64 count, .int .i64 arg] (.tup [(.agg Az), (.one (.int .i64))]) K w := by
 refine Cz6 ?_
 unfold F109
 refine (St.start w).Af λ b1 w1 S1 e1 => ?_
 have bad : (kind < 61 \/ 70 < kind) -> Px A at_ kind count arg = ((0, 0, 0), 1) := λ h => by
  unfold Px
  rcases h with h | h
  ·rw [if_pos (by omega)]
   unfold Lr
   have : checked A.length at_ kind count 61 64 = 1 := if_pos (.inl h)
   rw [this, if_pos (by decide)]
  ·rw [if_neg (by omega), if_neg (by omega), if_neg (by omega)]
   unfold Md
   have : checked A.length at_ kind count 69 70 = 1 := if_pos (.inr (.inl h))
   rw [this, if_pos (by decide)]
 have fin : ∀ {V : World} {x : (Int × Int × Int) × Int}, Ext w1 V -> Px A at_ kind count arg = x -> Ad (at0 b1) (.agg (Cells.vals Az (spR x.1.1 x.1.2.1 x.1.2.2)).toArray) 3 (lds Az (at0 b1) λ y => K (y, x.2, ())) V := λ e hx => by
  have S := S1.ext e
  refine S.Ad 0 rfl rfl rfl rfl λ w5 S5 u5 => S5.lds 0 (spR _ _ _) rfl ?_
  have := hK w5 S5.upd
  rw [hx] at this
  exact this
 unfold Px at fin
 refine Jb (decide (61 <= kind /\ kind <= 64), ()) (Aa (λ g1 => ⟨Aj ?_, rfl⟩) (λ g1 => Aa (λ g2 => ⟨Aj ?_, rfl⟩) (λ g2 => Aa (λ g3 => ⟨Aj ?_, rfl⟩) (λ g3 => ⟨Aj ?_, rfl⟩)))) ?_
 iterate 4 (simp only [beq_iff_eq, beq_eq_false_iff_ne, ne_eq, decide_eq_true_eq] at *; omega)
 refine Aa (λ h1 => ?_) (λ h1 => ?_)
 ·simp only [decide_eq_true_eq] at h1
  exact Am5 (hs.ext e1) hl hcn λ w2 e2 => fin e2 (if_pos h1.2)
 simp only [decide_eq_false_iff_not] at h1
 refine Jb (decide (65 <= kind /\ kind <= 66), ()) (Aa (λ g1 => ⟨Aj ?_, rfl⟩) (λ g1 => ⟨Aj ?_, rfl⟩)) ?_
 iterate 2 (simp only [beq_iff_eq, beq_eq_false_iff_ne, ne_eq, decide_eq_true_eq] at *; omega)
 refine Aa (λ h2 => ?_) (λ h2 => ?_)
 ·simp only [decide_eq_true_eq] at h2
  exact Ai2 (hs.ext e1) hl λ w2 e2 => fin e2 (by rw [if_neg (by omega), if_pos h2.2])
 simp only [decide_eq_false_iff_not] at h2
 refine Jb (decide (67 <= kind /\ kind <= 68), ()) (Aa (λ g1 => ⟨Aj ?_, rfl⟩) (λ g1 => ⟨Aj ?_, rfl⟩)) ?_
 iterate 2 (simp only [beq_iff_eq, beq_eq_false_iff_ne, ne_eq, decide_eq_true_eq] at *; omega)
 refine Aa (λ h3 => ?_) (λ h3 => ?_)
 ·simp only [decide_eq_true_eq] at h3
  exact Aj0 (hs.ext e1) hl hcn λ w2 e2 => fin e2 (by rw [if_neg (by omega), if_neg (by omega), if_pos h3.2])
 simp only [decide_eq_false_iff_not] at h3
 refine Jb (decide (69 <= kind /\ kind <= 70), ()) (Aa (λ g1 => ⟨Aj ?_, rfl⟩) (λ g1 => ⟨Aj ?_, rfl⟩)) ?_
 iterate 2 (simp only [beq_iff_eq, beq_eq_false_iff_ne, ne_eq, decide_eq_true_eq] at *; omega)
 refine Aa (λ h4 => ?_) (λ h4 => ?_)
 ·simp only [decide_eq_true_eq] at h4
  exact Am8 (hs.ext e1) hl hcn λ w2 e2 => fin e2 (by rw [if_neg (by omega), if_neg (by omega), if_neg (by omega)])
 simp only [decide_eq_false_iff_not] at h4
 have hb := bad (by omega)
 refine Et 0 S1 rfl rfl _ _ _ λ w9 x9 => ?_
 have := hK w9 x9
 rw [hb] at this
 exact this
end
end Go.Proofs.YtabcpghhfeplaaaGreat
namespace Go.Proofs.YtabcpghhfeplaaaGreat
open Go Go.Vx Cdc Gly Clu Rgl Lns Trx Obx
section
variable {w w' W : World} {S : Nat -> Prop} {p : Nat} {e : Enc} {lim na : Nat} {O : Nat -> Prop} {M : Parts} {s : Sl} {A : List Int}
theorem Be9 {x y z f : Int} {K : Bool -> Wp} (hK : ∀ w', Ext w w' -> K true w') : Ac Tryz.prog 105 #[.agg (Cells.vals c34 (spT (x, y, z))).toArray, .int .i64 f, .agg (Cells.vals Az (spR x y z)).toArray, .int .i64 f] rB K w := by
 refine Da0 (a0 := spT (x, y, z)) (a2 := spR x y z) ?_
 unfold F105
 have eq : ∀ {a : Int} {X Y : World -> Prop} {V : World}, X V -> sif (a == a) X Y V := λ h => Aa (λ _ => h) (λ hc => by simp at hc)
 refine (St.start w).Af λ b1 w1 S1 e1 => S1.Af λ b2 w2 S2 e2 => ?_
 refine S2.ld 1 rfl (x := x) rfl (S2.ld 0 rfl (x := x) rfl (eq ?_))
 refine S2.ld 1 rfl (x := y) rfl (S2.ld 0 rfl (x := y) rfl (eq ?_))
 refine S2.ld 1 rfl (x := z) rfl (S2.ld 0 rfl (x := z) rfl (eq ?_))
 rw [show (f == f) = true by simp]
 exact hK w2 S2.upd
abbrev Au4 (s : Int × Int × Int) : Obj := .cells #[.int .i64 s.1, .int .i64 s.2.1, .int .i64 s.2.2] 149 (0, 0)
abbrev mvO (k c a : Int) : Obj := .cells #[.int .i64 k, .int .i64 c, .int .i64 a] 39 (0, 0)
theorem Cc9 {f : FuncId} {X : (Int × Int × Int) × Int} {b1 b5 bb : Nat} {o : Cells.T c43} {w0 : World} {J : Addr × Int × Unit -> Wp} (S1 : St (λ _ => False) w0 W [(b5, mvO o.2.2.2.1 o.2.2.2.2.1 o.2.2.2.2.2.1), (b1, opO o)]) (hb : w0.heap[bb]? = some (Qo p s))
  (call : ∀ {V : World} {K : Cells.T c34 × Int × Unit -> Wp}, Ext w0 V -> (∀ V', Ext V V' -> K (spT X.1, X.2, ()) V') -> Ac Tryz.prog f #[.pointer (some (at0 p)), .int .i64 o.2.2.1, .agg (Cells.vals c39 (mvT o.2.2.2.1 o.2.2.2.2.1 o.2.2.2.2.2.1)).toArray] (.tup [(.agg c34), (.one (.int .i64))]) K V)
  (hJ : ∀ b W', St (λ _ => False) w0 W' [(b, D7 X.1), (b5, mvO o.2.2.2.1 o.2.2.2.2.1 o.2.2.2.2.2.1), (b1, opO o)] -> J (at0 b, X.2, ()) W') :
  (drew <|
   nn (some (at0 bb)) λ p9 =>
   ld (.ptr) p9 λ (x10 : Option Addr) =>
   ld (.int .i64) (⟨b1, 2, none⟩ : Addr) λ (x11 : Int) =>
   lds c39 (at0 b5) λ (x12 : (Int × Int × Int × Unit)) =>
   both (
    Af (.cells #[(.int .i64 (0 : Int)), (.int .i64 (0 : Int)), (.int .i64 (0 : Int))] 34) λ b13 =>
    keep (λ w => Ak w (at0 b5) 0 (Cells.vals c39 x12)) <|
    keep (λ w => w.cell? (⟨b1, 2, none⟩ : Addr) = some (Cell.val (.int .i64) x11)) <|
    keep (λ w => w.cell? p9 = some (Cell.val (.ptr) x10)) <|
    Ac Tryz.prog f #[(.pointer x10), (.int .i64 x11), (.agg (Cells.vals c39 x12).toArray)] (.tup [(.agg c34), (.one (.int .i64))]) λ (x14 : ((Int × Int × Int × Unit) × Int × Unit)) =>
    Ad (at0 b13) (.agg (Cells.vals c34 x14.1).toArray) 3 <|
    J ((at0 b13), x14.2.1, ())) <|
   Ac Tryz.prog f #[(.pointer x10), (.int .i64 x11), (.agg (Cells.vals c39 x12).toArray)] (.tup [(.agg c34), (.one (.int .i64))]) λ (x15 : ((Int × Int × Int × Unit) × Int × Unit)) =>
   both (
    Af (.cells #[(.int .i64 (0 : Int)), (.int .i64 (0 : Int)), (.int .i64 (0 : Int))] 34) λ b16 =>
    keep (λ w => Ak w (at0 b5) 0 (Cells.vals c39 x12)) <|
    keep (λ w => w.cell? (⟨b1, 2, none⟩ : Addr) = some (Cell.val (.int .i64) x11)) <|
    keep (λ w => w.cell? p9 = some (Cell.val (.ptr) x10)) <|
    Ad (at0 b16) (.agg (Cells.vals c34 x15.1).toArray) 3 <|
    J ((at0 b16), x15.2.1, ())) <|
   nothing) W := by
 have kp : ∀ {V : World} {ls : List (Nat × Obj)} {K : World -> Prop}, St (λ _ => False) w0 V ls -> K V -> keep (λ w => w.cell? (at0 bb) = some (Cell.val (.ptr) (some (at0 p)))) K V := λ S h => Ar (cell_of (S.upd.ext_get hb) rfl) h
 refine S1.drew λ w2 S2 e2 _ => Dv (Dt (x := some (at0 p)) (S2.upd.ext_get hb) rfl (S2.ld 1 rfl (x := o.2.2.1) rfl (S2.lds 0 (mvT o.2.2.2.1 o.2.2.2.2.1 o.2.2.2.2.2.1) rfl ⟨?_, ?_⟩)))
 ·refine S2.Af λ b w3 S3 e3 => S3.keeps 1 (x := mvT o.2.2.2.1 o.2.2.2.2.1 o.2.2.2.2.2.1) rfl (S3.keep 2 rfl (v := .int .i64 o.2.2.1) rfl (kp S3 ?_))
  exact call S3.upd λ w4 e4 => (S3.ext e4).Ad 0 rfl rfl rfl rfl λ w5 S5 u5 => hJ b w5 S5
 ·refine call S2.upd λ w4 e4 => ⟨?_, trivial⟩
  refine (S2.ext e4).Af λ b w3 S3 e3 => S3.keeps 1 (x := mvT o.2.2.2.1 o.2.2.2.2.1 o.2.2.2.2.2.1) rfl (S3.keep 2 rfl (v := .int .i64 o.2.2.1) rfl (kp S3 ?_))
  exact S3.Ad 0 rfl rfl rfl rfl λ w5 S5 u5 => hJ b w5 S5
theorem Cb0 {f : FuncId} {X : (Int × Int × Int) × Int} {b1 b5 bb bs : Nat} {o : Cells.T c43} {y : Int × Int × Int} {w0 : World} {J : Addr × Int × Unit -> Wp} (S1 : St (λ _ => False) w0 W [(bs, D7 y), (b5, mvO o.2.2.2.1 o.2.2.2.2.1 o.2.2.2.2.2.1), (b1, opO o)]) (hb : w0.heap[bb]? = some (Qo p s))
  (call : ∀ {V : World} {K : Cells.T Az × Int × Unit -> Wp}, Ext w0 V -> (∀ V', Ext V V' -> K (spR X.1.1 X.1.2.1 X.1.2.2, X.2, ()) V') -> Ac Tryz.prog f #[s.v, .int .i64 o.2.2.1, .int .i64 o.2.2.2.1, .int .i64 o.2.2.2.2.1, .int .i64 o.2.2.2.2.2.1] (.tup [(.agg Az), (.one (.int .i64))]) K V)
  (hJ : ∀ b W', St (λ _ => False) w0 W' [(b, Au4 X.1), (bs, D7 y), (b5, mvO o.2.2.2.1 o.2.2.2.2.1 o.2.2.2.2.2.1), (b1, opO o)] -> J (at0 b, X.2, ()) W') :
  (drew <|
   nn (some (at0 bb)) λ p19 =>
   ld (.sl) (p19.add 1) λ (x20 : Sl) =>
   ld (.int .i64) (⟨b1, 2, none⟩ : Addr) λ (x21 : Int) =>
   ld (.int .i64) (⟨b1, 3, none⟩ : Addr) λ (x22 : Int) =>
   ld (.int .i64) (⟨b1, 4, none⟩ : Addr) λ (x23 : Int) =>
   ld (.int .i64) (⟨b1, 5, none⟩ : Addr) λ (x24 : Int) =>
   both (
    Af (.cells #[(.int .i64 (0 : Int)), (.int .i64 (0 : Int)), (.int .i64 (0 : Int))] 149) λ b24 =>
    keep (λ w => w.cell? (⟨b1, 5, none⟩ : Addr) = some (Cell.val (.int .i64) x24)) <|
    keep (λ w => w.cell? (⟨b1, 4, none⟩ : Addr) = some (Cell.val (.int .i64) x23)) <|
    keep (λ w => w.cell? (⟨b1, 3, none⟩ : Addr) = some (Cell.val (.int .i64) x22)) <|
    keep (λ w => w.cell? (⟨b1, 2, none⟩ : Addr) = some (Cell.val (.int .i64) x21)) <|
    keep (λ w => w.cell? (p19.add 1) = some (Cell.val (.sl) x20)) <|
    Ac Tryz.prog f #[x20.v, (.int .i64 x21), (.int .i64 x22), (.int .i64 x23), (.int .i64 x24)] (.tup [(.agg Az), (.one (.int .i64))]) λ (x25 : ((Int × Int × Int × Unit) × Int × Unit)) =>
    Ad (at0 b24) (.agg (Cells.vals Az x25.1).toArray) 3 <|
    J ((at0 b24), x25.2.1, ())) <|
   Ac Tryz.prog f #[x20.v, (.int .i64 x21), (.int .i64 x22), (.int .i64 x23), (.int .i64 x24)] (.tup [(.agg Az), (.one (.int .i64))]) λ (x26 : ((Int × Int × Int × Unit) × Int × Unit)) =>
   both (
    Af (.cells #[(.int .i64 (0 : Int)), (.int .i64 (0 : Int)), (.int .i64 (0 : Int))] 149) λ b27 =>
    keep (λ w => w.cell? (⟨b1, 5, none⟩ : Addr) = some (Cell.val (.int .i64) x24)) <|
    keep (λ w => w.cell? (⟨b1, 4, none⟩ : Addr) = some (Cell.val (.int .i64) x23)) <|
    keep (λ w => w.cell? (⟨b1, 3, none⟩ : Addr) = some (Cell.val (.int .i64) x22)) <|
    keep (λ w => w.cell? (⟨b1, 2, none⟩ : Addr) = some (Cell.val (.int .i64) x21)) <|
    keep (λ w => w.cell? (p19.add 1) = some (Cell.val (.sl) x20)) <|
    Ad (at0 b27) (.agg (Cells.vals Az x26.1).toArray) 3 <|
    J ((at0 b27), x26.2.1, ())) <|
   nothing) W := by
 have kp : ∀ {V : World} {ls : List (Nat × Obj)} {K : World -> Prop}, St (λ _ => False) w0 V ls -> K V -> keep (λ w => w.cell? ((at0 bb).add 1) = some (Cell.val (.sl) s)) K V := λ S h => Ar (by rw [addr_add]; exact cell_of (S.upd.ext_get hb) rfl) h
 refine S1.drew λ w2 S2 e2 _ => Dv ?_
 rw [addr_add]
 refine Dt (x := s) (S2.upd.ext_get hb) rfl (S2.ld 2 rfl (x := o.2.2.1) rfl (S2.ld 2 rfl (x := o.2.2.2.1) rfl (S2.ld 2 rfl (x := o.2.2.2.2.1) rfl (S2.ld 2 rfl (x := o.2.2.2.2.2.1) rfl (⟨?_, ?_⟩)))))
 ·refine S2.Af λ b w3 S3 e3 => S3.keep 3 rfl (v := .int .i64 o.2.2.2.2.2.1) rfl (S3.keep 3 rfl (v := .int .i64 o.2.2.2.2.1) rfl (S3.keep 3 rfl (v := .int .i64 o.2.2.2.1) rfl (S3.keep 3 rfl (v := .int .i64 o.2.2.1) rfl (kp S3 ?_))))
  exact call S3.upd λ w4 e4 => (S3.ext e4).Ad 0 rfl rfl rfl rfl λ w5 S5 u5 => hJ b w5 S5
 ·refine call S2.upd λ w4 e4 => ⟨?_, trivial⟩
  refine (S2.ext e4).Af λ b w3 S3 e3 => S3.keep 3 rfl (v := .int .i64 o.2.2.2.2.2.1) rfl (S3.keep 3 rfl (v := .int .i64 o.2.2.2.2.1) rfl (S3.keep 3 rfl (v := .int .i64 o.2.2.2.1) rfl (S3.keep 3 rfl (v := .int .i64 o.2.2.1) rfl (kp S3 ?_))))
  exact S3.Ad 0 rfl rfl rfl rfl λ w5 S5 u5 => hJ b w5 S5
set_option maxHeartbeats 1000000 in
theorem As2 {bb : Nat} {o : Cells.T c43} (h : Txt w p e lim na O M) (hs : Aq w s 3 1 (iv (atoms (aOf e M)))) (hb : w.heap[bb]? = some (Qo p s)) (hc : o.2.2.2.2.1 < 2 ^ 63) (hk : o.2.1 = 5) {K : Bool -> Wp} (hK : ∀ w', Ext w w' -> K true w') :
  Ac Tryz.prog 76 #[.pointer (some (at0 bb)), .agg (Cells.vals c43 o).toArray] rB K w := by
 refine A76 ?_
 unfold F76
 have few := h.few; have lims := h.lims
 have hal := hal e M
 have hl : (atoms (aOf e M)).length < 2 ^ 39 := by omega
 refine (St.start w).Af λ b1 w1 S1 e1 => ?_
 have S1 : St (λ _ => False) w w1 [(b1, opO o)] := S1
 refine S1.ld 0 rfl (x := o.2.2.2.1) rfl (S1.ld 0 rfl (x := o.2.2.2.2.1) rfl (S1.ld 0 rfl (x := o.2.2.2.2.2.1) rfl (S1.Af λ b5 w2 S2 e2 => S2.Ad 0 rfl rfl rfl rfl λ w3 S3 u3 => ?_)))
 have S3 : St (λ _ => False) w w3 [(b5, mvO o.2.2.2.1 o.2.2.2.2.1 o.2.2.2.2.2.1), (b1, opO o)] := S3
 refine S3.ld 1 rfl (x := o.2.1) rfl ?_
 have fin : ∀ {V : World} {b b' : Nat} {X : (Int × Int × Int) × Int}, St (λ _ => False) w V [(b', Au4 X.1), (b, D7 X.1), (b5, mvO o.2.2.2.1 o.2.2.2.2.1 o.2.2.2.2.2.1), (b1, opO o)] ->
   lds c34 (at0 b) (λ x28 => lds Az (at0 b') λ x29 => Ac Tryz.prog 105 #[(.agg (Cells.vals c34 x28).toArray), (.int .i64 X.2), (.agg (Cells.vals Az x29).toArray), (.int .i64 X.2)] rB λ (x30 : Bool) => K x30) V := λ S =>
  S.lds 1 (spT _) rfl (S.lds 0 (spR _ _ _) rfl (Be9 λ w9 e9 => hK w9 (S.ext e9).upd))
 refine Aa (λ g => by simp only [beq_iff_eq] at g; exact absurd (g.symm.trans hk) (by decide)) (λ _ => ?_)
 refine Aa (λ g => by simp only [beq_iff_eq] at g; exact absurd (g.symm.trans hk) (by decide)) (λ _ => ?_)
 refine Aa (λ g => by simp only [beq_iff_eq] at g; exact absurd (g.symm.trans hk) (by decide)) (λ _ => ?_)
 refine Aa (λ g => by simp only [beq_iff_eq] at g; exact absurd (g.symm.trans hk) (by decide)) (λ _ => ?_)
 refine Aa (λ _ => ?_) (λ g => by simp only [beq_eq_false_iff_ne, ne_eq] at g; exact absurd hk g)
 obtain ⟨X, hX⟩ : ∃ X, X = Px (atoms (aOf e M)) o.2.2.1 o.2.2.2.1 o.2.2.2.2.1 o.2.2.2.2.2.1 := ⟨_, rfl⟩
 obtain ⟨J, hJ⟩ : ∃ J : Addr × Int × Unit -> World -> Prop, J = λ x W => ∃ b, x = (at0 b, X.2, ()) /\ St (λ _ => False) w W [(b, D7 X.1), (b5, mvO o.2.2.2.1 o.2.2.2.2.1 o.2.2.2.2.2.1), (b1, opO o)] := ⟨_, rfl⟩
 refine Ae J ?_ ?_
 ·refine Cc9 (f := 20) (X := X) (o := o) (J := J) S3 hb (λ x hk => ?_) (λ b W' S => by rw [hJ]; exact ⟨b, rfl, S⟩)
  rw [hX] at hk
  exact Ad0 (kind := o.2.2.2.1) (h.ext x) hc hk
 rw [hJ]
 rintro _ w4 ⟨b, rfl, S4⟩
 obtain ⟨L, hL⟩ : ∃ L : Addr × Int × Unit -> World -> Prop, L = λ x W => ∃ b', x = (at0 b', X.2, ()) /\ St (λ _ => False) w W [(b', Au4 X.1), (b, D7 X.1), (b5, mvO o.2.2.2.1 o.2.2.2.2.1 o.2.2.2.2.2.1), (b1, opO o)] := ⟨_, rfl⟩
 refine Ae L ?_ ?_
 ·refine Cb0 (f := 109) (X := X) (o := o) (J := L) S4 hb (λ x hk => ?_) (λ b W' S => by rw [hL]; exact ⟨b, rfl, S⟩)
  rw [hX] at hk
  exact Av2 (hs.ext x) hl hc hk
 rw [hL]
 rintro _ w5 ⟨b', rfl, S5⟩
 exact fin S5
structure Asks (lo hi : Int) : Prop where
 fix : ∀ {w : World} {K : Bool -> Wp}, (∀ w', Ext w w' -> K true w') -> Ac Tryz.prog 17 #[.int .i64 lo] rB K w
 ask : ∀ {w : World} {p : Nat} {e : Enc} {lim na : Nat} {O : Nat -> Prop} {M : Parts} {s : Sl} {bb : Nat} {o : Cells.T c43}, Txt w p e lim na O M -> Aq w s 3 1 (iv (atoms (aOf e M))) -> w.heap[bb]? = some (Qo p s) -> o.2.2.2.2.1 < 2 ^ 63 -> lo <= o.2.1 /\ o.2.1 <= hi -> ∀ {K : Bool -> Wp}, (∀ w', Ext w w' -> K true w') ->
  Ac Tryz.prog 76 #[.pointer (some (at0 bb)), .agg (Cells.vals c43 o).toArray] rB K w
theorem Cf1 : Asks 5 5 := ⟨Aq0, λ h hs hb hc hk => As2 h hs hb hc (Int.le_antisymm hk.2 hk.1)⟩
end
section
variable {w w' W : World} {p b N na : Nat} {e : Enc} {O : Nat -> Prop} {M : Parts} {s : Sl} {A : List Int}
structure Hs (w : World) (N b p : Nat) (e : Enc) (na : Nat) (O : Nat -> Prop) (M : Parts) (s : Sl) : Prop where
 txt : Txt w p e 65536 na O M
 lst : Ah w N s 3 1 (iv (atoms (aOf e M)))
 box : w.heap[b]? = some (Qo p s)
 new : ∀ k, O k -> N <= k
 newb : N <= b
 nob : ¬ O b
 nol : ∀ k, s.blk k -> ¬ O k
theorem Hs.lt (h : Hs w N b p e na O M s) : ∀ k, (O k \/ s.blk k \/ k = b) -> k < w.heap.size := λ k hk => by
 rcases hk with hk | hk | rfl
 ·exact h.txt.own k hk
 ·exact h.lst.in.Og hk
 ·exact lt_of_heap h.box
theorem Hs.upd {S : Nat -> Prop} (h : Hs w N b p e na O M s) (u : Upd S w w') (hS : ∀ k, (O k \/ s.blk k \/ k = b) -> ¬ S k) (hN : Eh w S 144) : Hs w' N b p e na O M s :=
 ⟨h.txt.upd u (λ k hk => hS k (.inl hk)) hN, h.lst.upd u λ k _ hk => hS k (.inr (.inl hk)), u.get h.box (hS b (.inr (.inr rfl))), h.new, h.newb, h.nob, h.nol⟩
theorem Hs.ext (h : Hs w N b p e na O M s) (x : Ext w w') : Hs w' N b p e na O M s := h.upd x (λ _ _ => id) (Y4 _ _)
theorem Txt.more (h : Txt w p e 65536 na O M) {na' : Nat} (hn : na <= na') : Txt w p e 65536 na' O M := by
 obtain ⟨t, a, ab, h1, h2, h3, h4, h5, h6, h7, h8⟩ := h.ex
 exact ⟨⟨t, a, ab, h1, h2, h3, h4, h5, h6, h7, Nat.le_trans h8 hn⟩, h.lims, h.sz, h.op, h.own⟩
theorem Ah5 {f t : Nat} {s sp : Sl} {put : List Int} (hs : Aq w s 3 1 (iv A)) (hp : Aq w sp 3 1 (iv put)) (hA : A.length < 2 ^ 37) (hpl : put.length < 2 ^ 37) (hf : f <= A.length) (ht : t <= A.length) {K : Sl -> Wp} (hK : ∀ r w', Ah w' w.heap.size r 3 1 (iv (A.take f ++ put ++ A.drop t)) -> Ext w w' -> K r w') :
  Ac Tryz.prog 103 #[s.v, .int .i64 (f : Int), .int .i64 (t : Int), sp.v] rS K w := by
 refine Da2 ?_
 unfold F103
 have hlen : A.length = s.len := by have := hs.len1; rwa [List.length_map] at this
 have hcap := hs.le
 refine Xl hs (by omega) (by omega) (by omega) (by omega) (by omega) λ x hx _ _ _ => ?_
 have hx : Aq w x 3 1 (iv (A.take f)) := by
  rw [Nat.mul_one, Nat.mul_one, Int.toNat_natCast] at hx
  simpa [List.map_take] using hx
 refine G9 hx hp (by rw [List.length_take]; omega) (by omega) λ r w1 o1 e1 => ?_
 refine Xl (hs.ext e1) (by omega) (by omega) (by omega) (by omega) (by omega) λ y hy _ _ _ => ?_
 have hy : Aq w1 y 3 1 (iv (A.drop t)) := by
  rw [Nat.mul_one, Nat.mul_one, Int.toNat_natCast, Int.toNat_natCast, List.take_of_length_le (by rw [List.length_drop, List.length_map]; omega), ← List.map_drop] at hy
  exact hy
 refine G9 o1.in hy (by rw [List.length_append, List.length_take]; omega) (by rw [List.length_drop]; omega) λ r' w2 o2 e2 => hK r' w2 (o2.mono e1.size) (e1.trans e2)
abbrev Ed (w : World) (O : Nat -> Prop) (b : Nat) (k : Nat) : Prop := Wr w O k \/ k = b
set_option maxHeartbeats 1000000 in
theorem Aq7 {x n : Int} {sp : Sl} {put : List Int} (h : Hs w N b p e na O M s) (hsp : SlX w sp 1 (iv put)) (hpl : put.length < 2 ^ 60) (hx : In64 x) (hn : In64 n) (hroom : szs (aOf e M) + 64 <= 65536) (hna : na + 64 < 2 ^ 40) (hN : N <= w.heap.size) {K : Bool -> Wp}
  (hK : ∀ O' M' s' w', Hs w' N b p e (na + 64) O' M' s' -> szs (aOf e M') <= szs (aOf e M) + 64 -> Upd (Ed w O b) w w' -> (∀ k, O' k -> O k \/ w.heap.size <= k) -> (∀ k, s'.blk k -> w.heap.size <= k) -> K true w') :
  Ac Tryz.prog 75 #[.pointer (some (at0 b)), .int .i64 x, .int .i64 n, sp.v] rB K w := by
 refine A75 ?_
 unfold F75
 have few := h.txt.few
 have hal := hal e M
 obtain ⟨A, hA⟩ : ∃ A, A = atoms (aOf e M) := ⟨_, rfl⟩
 have lst := h.lst
 rw [← hA] at hal lst
 have hlen : A.length = s.len := by have := lst.len1; rwa [List.length_map] at this
 have bx : ∀ {V : World}, Ext w V -> V.heap[b]? = some (Qo p s) := λ e => e.ext_get h.box
 obtain ⟨f, hf⟩ : ∃ f, f = within x A.length := ⟨_, rfl⟩
 obtain ⟨g, hg⟩ : ∃ g, g = within n (A.length - f) := ⟨_, rfl⟩
 have hfl : f <= A.length := by rw [hf]; exact Ac7 _ _
 have hgl : g <= A.length - f := by rw [hg]; exact Ac7 _ _
 refine Dv ?_
 rw [addr_add]
 refine Dt (x := s) (bx (Ext.refl w)) rfl ?_
 rw [← hlen]
 refine Zy (n := A.length) hx (by omega) ?_
 rw [← hf]
 refine Dv (Dt (x := s) (bx (Ext.refl w)) rfl ?_)
 rw [← hlen, show W64 ((A.length : Int) - (f : Int)) = ((A.length - f : Nat) : Int) by rw [wrap64 (by omega) (by omega)]; omega]
 refine Zy (n := A.length - f) hn (by omega) ?_
 rw [← hg]
 obtain ⟨q, hq⟩ : ∃ q, q = Zc put := ⟨_, rfl⟩
 have hasc : Asc q := by rw [hq]; exact Aw1 put
 have hql : q.length <= 16 := by rw [hq]; exact Aw0 put
 have hszs := Asc.szs (e := e) hasc
 have hfit := (hasc.fit e).fits
 have hbl := Ak8 hfit
 refine Av9 hsp hpl λ r w1 o1 e1 => ?_
 rw [← hq] at o1
 have ewt : W64 ((f : Int) + (g : Int)) = ((f + g : Nat) : Int) := by rw [wrap64 (by omega) (by omega)]; omega
 rw [ewt]
 refine Fg λ w2 e2 _ => Dv (Dt (x := some (at0 p)) (bx (e1.trans e2)) rfl ?_)
 refine I5 (o1.in.ext e2) (by omega) λ r2 w3 o3 e3 => ?_
 have x3 := (e1.trans e2).trans e3
 refine Ar (cell_of (bx x3) rfl) (Bo λ b11 w4 e4 n4 hb4 _ => ?_)
 have x4 := x3.trans e4
 refine Ar (cell_of (bx x4) rfl) ?_
 have tx4 := h.txt.ext x4
 have hroom' : szs ((aOf e M).take f ++ prs e q ++ (aOf e M).drop (f + g)) <= szs (aOf e M) + 64 := by
  rw [Ba, Ba]
  have h1 : szs (aOf e M) = szs ((aOf e M).take (f + g)) + szs ((aOf e M).drop (f + g)) := by conv => lhs; rw [← List.take_append_drop (f + g) (aOf e M)]; rw [Ba]
  have h2 : szs ((aOf e M).take f) <= szs ((aOf e M).take (f + g)) := by
   have : (aOf e M).take (f + g) = (aOf e M).take f ++ ((aOf e M).take (f + g)).drop f := by
    conv => lhs; rw [← List.take_append_drop f ((aOf e M).take (f + g))]
    rw [List.take_take, Nat.min_eq_left (by omega)]
   rw [this, Ba]; omega
  omega
 refine Ar5 (f := f) (t := f + g) (s := ⟨some (at0 b11), 1, 1⟩) (sp := r2) (put := q) tx4 (by omega) (by omega) (Ce3 n4) (λ k hk hO => ?_) (o3.in.ext e4) (λ k hk hO => ?_) hfit (by omega) (by omega) (by omega) λ O' M' w5 tx5 ea u5 g1 g2 => ?_
 ·obtain ⟨z, hz, rfl⟩ := hk
  cases hz
  have h1 : b11 < w.heap.size := h.txt.own _ hO
  have := x3.size
  omega
 ·have := o3.Di hk
  have := h.txt.own _ hO
  have := (e1.trans e2).size
  omega
 have z4 := x4.size
 have u5' : Upd (Wr w O) w w5 := Upd.new (Upd.Hq x4) u5 λ k _ hq => ⟨hq.1, λ c fr hc => hq.2 c fr (x4.ext_get hc)⟩
 have lst5 : Ah w5 N s 3 1 (iv A) := lst.upd u5' λ k _ hk hO => h.nol k hk hO.1
 have box5 : w5.heap[b]? = some (Qo p s) := u5'.get h.box λ hO => h.nob hO.1
 have r5 : Aq w5 r 3 1 (iv q) := ((o1.in.ext e2).ext e3).ext e4 |>.upd u5 λ k hk hO => by
  have := o1.Di hk
  have := h.txt.own _ hO.1
  omega
 refine Au (Dv (Dt (x := s) box5 rfl ?_))
 refine Ah5 lst5.in r5 (by omega) (by omega) hfl (by omega) λ r6 w6 o6 e6 => Dv ?_
 rw [addr_add]
 have box6 := e6.ext_get box5
 refine Jl box6 (by show 1 < 2; decide) λ w7 u7 n7 _ => ?_
 have hbl5 := lt_of_heap box5
 have nO' : ¬ O' b := λ hO => (g2 b hO).elim (λ hh => h.nob hh) λ hh => by have := lt_of_heap h.box; omega
 have ea' : atoms (aOf e M') = A.take f ++ q ++ A.drop (f + g) := by
  rw [ea, hA]
  unfold atoms
  rw [List.map_append, List.map_append, List.map_take, List.map_drop]
  congr 2
  exact Bj8 e q
 have z5 := u5.size
 have hr6 : ∀ k, r6.blk k -> w5.heap.size <= k := λ k hk => o6.Di hk
 refine hK O' M' r6 w7 ⟨?_, ?_, ?_, ?_, h.newb, nO', ?_⟩ (by rw [ea]; exact hroom') ?_ ?_ ?_
 ·exact ((tx5.ext e6).upd u7 (λ k hk he => nO' (he ▸ hk)) (Eh.box box6 (by decide))).more (by omega)
 ·rw [ea']
  exact (o6.mono (by omega)).box box6 (by decide) u7
 ·rw [n7]; rfl
 ·exact λ k hk => (g2 k hk).elim (h.new k) λ hh => by omega
 ·intro k hk hO
  have h1 := hr6 k hk
  have h2 := tx5.own k hO
  omega
 ·refine Upd.new (u5'.mono λ k _ hk => .inl hk) ((Upd.Hq e6).trans u7) λ k _ hk => .inr hk
 ·exact λ k hk => (g2 k hk).imp id λ hh => by omega
 ·exact λ k hk => by have := hr6 k hk; omega
end
section
variable {w w' W : World} {p b N na : Nat} {e : Enc} {O : Nat -> Prop} {M : Parts} {s : Sl} {A : List Int}
set_option maxHeartbeats 1000000 in
theorem An4 {y : Cells.T c43} {o : LOp} {lo hi : Int} (ask : Asks lo hi) (h : Hs w N b p e na O M s) (hy : o.In w y) (hroom : szs (aOf e M) + 64 <= 65536) (hna : na + 64 < 2 ^ 40) (hN : N <= w.heap.size) {K : Bool -> Wp}
  (hK : ∀ O' M' s' w', Hs w' N b p e (na + 64) O' M' s' -> szs (aOf e M') <= szs (aOf e M) + 64 -> Upd (Ed w O b) w w' -> (∀ k, O' k -> O k \/ w.heap.size <= k) -> (∀ k, s'.blk k -> s.blk k \/ w.heap.size <= k) -> K true w') :
  Ac Tryz.prog 49 #[.pointer (some (at0 b)), .agg (Cells.vals c43 y).toArray, .int .i64 lo, .int .i64 hi] rB K w := by
 refine A49 (a1 := y) ?_
 unfold F49
 have hput := hy.put; have hl := hy.len
 obtain ⟨_, _, ia, _, ic, _⟩ := hy.i1
 rw [← hy.at_] at ia
 rw [← hy.count] at ic
 have still : ∀ w', Ext w w' -> K true w' := λ w' x => hK O M s w' ⟨(h.ext x).txt.more (by omega), (h.ext x).lst, (h.ext x).box, h.new, h.newb, h.nob, h.nol⟩ (by omega) (Upd.Hq x) (λ k hk => .inl hk) λ k hk => .inl hk
 refine (St.start w).Af λ b1 w1 S1 e1 => ?_
 have S1 : St (λ _ => False) w w1 [(b1, opO y)] := S1
 refine S1.ld 0 rfl (x := y.2.1) rfl ?_
 refine Aa (λ _ => ?_) (λ _ => ?_)
 ·refine S1.ld 0 rfl (x := y.2.2.1) rfl (S1.ld 0 rfl (x := y.2.2.2.2.1) rfl (S1.ld 0 rfl (x := y.2.2.2.2.2.2.1) rfl ?_))
  have z1 := e1.size
  refine Aq7 (h.ext e1) (hput.ext e1) (by omega) ia ic hroom hna (by omega) λ O' M' s' w2 h2 g1 u2 g2 g3 => hK O' M' s' w2 h2 g1 ?_ (λ k hk => (g2 k hk).imp id λ hh => by omega) (λ k hk => .inr (by have := g3 k hk; omega))
  exact Upd.new (Upd.Hq e1) u2 λ k hk hq => hq.imp (λ hq => ⟨hq.1, λ c fr hc => hq.2 c fr (e1.ext_get hc)⟩) id
 ·refine Ae (λ x W => (x.1 = false -> lo <= y.2.1 /\ y.2.1 <= hi) /\ w1 = W) (S1.ld 0 rfl (x := y.2.1) rfl (Aa (λ _ => ⟨λ h => (by cases h), rfl⟩) (λ g => S1.ld 0 rfl (x := y.2.1) rfl ⟨λ g2 => ?_, rfl⟩))) ?_
  ·have g := of_decide_eq_false g
   have g2 := of_decide_eq_false g2
   exact ⟨Int.not_lt.1 g, Int.not_lt.1 g2⟩
  rintro ⟨bb, _⟩ _ ⟨hk, rfl⟩
  refine Aa (λ _ => still w1 e1) (λ g => ?_)
  refine S1.lds 0 y rfl ?_
  exact ask.ask (o := y) (h.txt.ext e1) (h.lst.ext e1).in (e1.ext_get h.box) ic.2 (hk g) λ w2 e2 => still w2 (e1.trans e2)
def Apt (O : Nat -> Prop) (s : Sl) (b : Nat) (O' : Nat -> Prop) (s' : Sl) (b' : Nat) : Prop := ∀ k, (O k \/ s.blk k \/ k = b) -> ¬ (O' k \/ s'.blk k \/ k = b')
theorem Apt.symm {O O' : Nat -> Prop} {s s' : Sl} {b b' : Nat} (h : Apt O s b O' s' b') : Apt O' s' b' O s b := λ k h1 h2 => h k h2 h1
structure Two (w : World) (N i b b' p p' : Nat) (e e' : Enc) : Prop where
 ex : ∃ O M s O' M' s', Hs w N b p e (64 * i) O M s /\ Hs w N b' p' e' (64 * i) O' M' s' /\ szs (aOf e M) <= 50000 + 64 * i /\ szs (aOf e' M') <= 50000 + 64 * i /\ Apt O s b O' s' b'
theorem Two.swap {i b b' p p' : Nat} {e e' : Enc} (h : Two w N i b b' p p' e e') : Two w N i b' b p' p e' e := by
 obtain ⟨O, M, s, O', M', s', h1, h2, h3, h4, h5⟩ := h.ex
 exact ⟨O', M', s', O, M, s, h2, h1, h4, h3, h5.symm⟩
theorem Two.step {i b' p' : Nat} {e' : Enc} {y : Cells.T c43} {o : LOp} {lo hi : Int} (ask : Asks lo hi) (h : Two w N i b b' p p' e e') (hi2 : i < 200) (hy : o.In w y) (hN : N <= w.heap.size) {K : Bool -> Wp}
  (hK : ∀ w' (S : Nat -> Prop), Two w' N (i + 1) b b' p p' e e' -> Upd S w w' -> (∀ k, S k -> N <= k) -> K true w') :
  Ac Tryz.prog 49 #[.pointer (some (at0 b)), .agg (Cells.vals c43 y).toArray, .int .i64 lo, .int .i64 hi] rB K w := by
 obtain ⟨O, M, s, O', M', s', h1, h2, h3, h4, h5⟩ := h.ex
 refine An4 ask h1 hy (by omega) (by omega) hN λ Q L r w2 g1 g2 u2 g3 g4 => hK w2 (Ed w O b) ⟨Q, L, r, O', M', s', g1, ?_, by omega, by omega, ?_⟩ u2 λ k hk => ?_
 ·have := h2.upd u2 (λ k hk hE => h5.symm k hk (by rcases hE with hE | hE; exact .inl hE.1; exact .inr (.inr hE))) (λ k hk => by
   rcases hk with hk | rfl
   ·exact hk.2
   ·exact Eh.box h1.box (by decide) k rfl)
  exact ⟨this.txt.more (by omega), this.lst, this.box, this.new, this.newb, this.nob, this.nol⟩
 ·intro k hk hk'
  have hlt := h2.lt k hk'
  rcases hk with hk | hk | rfl
  ·rcases g3 k hk with q | q
   ·exact h5 k (.inl q) hk'
   ·omega
  ·rcases g4 k hk with q | q
   ·exact h5 k (.inr (.inl q)) hk'
   ·omega
  ·exact h5 k (.inr (.inr rfl)) hk'
 ·rcases hk with hk | rfl
  ·exact h1.new k hk.1
  ·exact h1.newb
set_option maxHeartbeats 1000000 in
theorem Bm2 {c0 c1 lo hi : Int} {s0 s1 so : Sl} {l0 l1 : Bs} {ys : List (Cells.T c43)} {os : List LOp} (hs0 : SlX w s0 1 (bv l0)) (hl0 : l0.length < 2 ^ 60) (hs1 : SlX w s1 1 (bv l1)) (hl1 : l1.length < 2 ^ 60) (ho : LOp.All w so ys os) (ask : Asks lo hi) {K : Bool -> Wp} (hK : ∀ w', Ext w w' -> K true w') :
  Ac Tryz.prog 25 #[.agg (Cells.vals c24 (stT c0 s0)).toArray, .agg (Cells.vals c24 (stT c1 s1)).toArray, so.v, .int .i64 lo, .int .i64 hi] rB K w := by
 refine A25 (a0 := stT c0 s0) (a1 := stT c1 s1) ?_
 unfold F25
 refine (St.start w).Af λ b1 w1 S1 e1 => S1.Af λ b2 w2 S2 e2 => S2.lds 1 (stT c0 s0) rfl ?_
 refine Qu (hs0.ext S2.upd) hl0 λ p e O M sa w3 hB e3 hM _ nl => ?_
 have S3 := S2.ext e3
 refine (St.start w3).Rt λ b5 w4 T4 e4 hb5 => T4.Ad 0 rfl rfl rfl rfl λ w5 T5 u5 => Au ?_
 have T5 : St (λ _ => False) w3 w5 [(b5, Qo p sa)] := T5
 have S5 := S3.ext T5.upd
 refine S5.lds 0 (stT c1 s1) rfl ?_
 refine Qu (hs1.ext S5.upd) hl1 λ p' e' O' M' sb w6 hB' e6 hM' _ nl' => ?_
 have S6 := S5.ext e6
 refine (St.start w6).Rt λ b8 w7 T7 e7 hb8 => T7.Ad 0 rfl rfl rfl rfl λ w8 T8 u8 => ?_
 have T8 : St (λ _ => False) w6 w8 [(b8, Qo p' sb)] := T8
 have S8 := S6.ext T8.upd
 refine Ae (λ x W => x = (false, ()) /\ Ext w8 W) (Au (ask.fix λ w9 e9 => ⟨rfl, e9⟩)) ?_
 rintro _ w9 ⟨rfl, e9⟩
 refine Au ?_
 have S9 := S8.ext e9
 have x39 : Ext w3 w9 := ((T5.upd.trans e6).trans T8.upd).trans e9
 have x69 : Ext w6 w9 := T8.upd.trans e9
 have z2 := S2.upd.size; have z3 := e3.size; have z5 := T5.upd.size; have z6 := e6.size; have z8 := T8.upd.size; have z9 := e9.size
 have g5 : w5.heap[b5]? = some (Qo p sa) := T5.at_ 0 rfl
 have g8 : w8.heap[b8]? = some (Qo p' sb) := T8.at_ 0 rfl
 have n5 := lt_of_heap g5
 have n8 := lt_of_heap g8
 have m3 : ∀ k, (O k \/ sa.blk k) -> k < w3.heap.size := λ k hk => hk.elim (hB.txt.own k) λ hk => hB.lst.in.Og hk
 have m6 : ∀ k, (O' k \/ sb.blk k) -> k < w6.heap.size /\ w5.heap.size <= k := λ k hk => hk.elim (λ hk => ⟨hB'.txt.own k hk, hB'.new k hk⟩) λ hk => ⟨hB'.lst.in.Og hk, hB'.lst.Di hk⟩
 have sz0 : szs (aOf e M) <= 50000 := by rw [hM, Gg, List.length_take]; omega
 have sz1 : szs (aOf e' M') <= 50000 := by rw [hM', Gg, List.length_take]; omega
 have start : Two w9 w.heap.size 0 b5 b8 p p' e e' := by
  refine ⟨O, M, sa, O', M', sb, ⟨(hB.txt.ext x39).more (by omega), (hB.lst.ext x39).mono z2, ((e6.trans T8.upd).trans e9).ext_get g5, λ k hk => Nat.le_trans z2 (hB.new k hk), by omega, λ hk => by have := m3 b5 (.inl hk); omega, nl⟩, ⟨(hB'.txt.ext x69).more (by omega), (hB'.lst.ext x69).mono (by omega), e9.ext_get g8, λ k hk => by have := (m6 k (.inl hk)).2; omega, by omega, λ hk => by have := (m6 b8 (.inl hk)).1; omega, nl'⟩, by omega, by omega, ?_⟩
  ·intro k hk hk'
   have h1 : k < w5.heap.size := by
    rcases hk with hk | hk | rfl
    ·have := m3 k (.inl hk); omega
    ·have := m3 k (.inr hk); omega
    ·exact n5
   rcases hk' with hk' | hk' | rfl
   ·have := (m6 k (.inl hk')).2; omega
   ·have := (m6 k (.inr hk')).2; omega
   ·omega
 have hrow : ys.length = so.len := SlX.Jq (cs := c43) ho.row (by decide)
 have hlen := ho.len
 have hfew := ho.few
 refine Ae (λ _ W => Ext w W) ?_ (λ _ W x => hK W x)
 refine Am (λ x W => ∃ i : Nat, x = ((i : Int), ()) /\ i <= so.len /\ i <= 200 /\ Two W w.heap.size i b5 b8 p p' e e' /\ Ext w W) (λ x _ => ((so.len : Int) - x.1).toNat) ⟨0, rfl, Nat.zero_le _, by omega, start, S9.upd⟩ ?_
 rintro _ W ⟨i, rfl, hi, hi2, two, xW⟩
 dsimp only
 refine Ae (λ x W' => x = (decide (i < so.len /\ i < 200), ()) /\ W = W') ?_ ?_
 ·refine Aa (λ h => ⟨Aj ?_, rfl⟩) (λ h => ⟨Aj ?_, rfl⟩)
  all_goals simp only [decide_eq_true_eq, decide_eq_false_iff_not, Bool.false_eq_true, false_iff] at *
  all_goals omega
 rintro _ _ ⟨rfl, rfl⟩
 refine Aa (λ hc => ?_) (λ _ => xW)
 simp only [decide_eq_true_eq] at hc
 obtain ⟨y, hy⟩ : ∃ y, ys[i]? = some y := ⟨_, List.getElem?_eq_getElem (by omega)⟩
 obtain ⟨o, ho'⟩ : ∃ o, os[i]? = some o := ⟨_, List.getElem?_eq_getElem (by omega)⟩
 have hop := ho.each i y o hy ho'
 have hop : o.In W y := ⟨hop.who, hop.kind, hop.at_, hop.move, hop.count, hop.arg, hop.put.ext xW, hop.i1, hop.i2, hop.len, λ k hk => (hop.lt k hk).imp id λ hh => by have := xW.size; omega⟩
 have ew : W64 ((i : Int) + 1) = ((i + 1 : Nat) : Int) := by rw [wrap64 (by omega) (by omega)]; omega
 rw [ew]
 obtain ⟨ty, hty⟩ := (ho.row.ext xW).Bx8 (by omega)
 have rdy : ∀ {K : Addr -> Cells.T c43 -> Wp}, (∀ q, K q y W) -> ix so.a so.len (i : Int) (λ q => lds c43 (q.add (scaled (Int.toNat (i : Int)) 7)) (K q)) W := λ hk => Zk (cs := c43) (xs := ys) hty (by decide) (by omega) (x := y) (by rw [Int.toNat_natCast]; exact hy) hk
 refine Ae (λ x W' => x = (true, ()) /\ Two W' w.heap.size (i + 1) b5 b8 p p' e e' /\ Ext w W') ?_ ?_
 ·refine Uy (c := .int .i64) (cs := c43) (xs := ys) hty (by omega) (x := y) (y := y.1) (by rw [Int.toNat_natCast]; exact hy) rfl λ q => ?_
  refine Aa (λ _ => ?_) (λ _ => ?_)
  ·exact rdy λ q => two.step ask (by omega) hop xW.size λ w' S t u hS => ⟨rfl, t, xW.step u hS⟩
  ·exact rdy λ q => two.swap.step ask (by omega) hop xW.size λ w' S t u hS => ⟨rfl, t.swap, xW.step u hS⟩
 rintro _ W' ⟨rfl, two', xW'⟩
 exact Au ⟨⟨i + 1, rfl, by omega, by omega, two', xW'⟩, by omega⟩
end
section
variable {w : World}
theorem An8 {c0 c1 : Int} {s0 s1 so : Sl} {l0 l1 : Bs} {ys : List (Cells.T c43)} {os : List LOp} (hs0 : SlX w s0 1 (bv l0)) (hl0 : l0.length < 2 ^ 60) (hs1 : SlX w s1 1 (bv l1)) (hl1 : l1.length < 2 ^ 60) (ho : LOp.All w so ys os) {K : Bool -> Wp} (hK : ∀ w', Ext w w' -> K true w') :
  Ac Tryz.prog 10 #[.agg (Cells.vals c24 (stT c0 s0)).toArray, .agg (Cells.vals c24 (stT c1 s1)).toArray, so.v] rB K w := by
 refine A10 (a0 := stT c0 s0) (a1 := stT c1 s1) ?_
 unfold F10
 refine (St.start w).Af λ b1 w1 S1 e1 => S1.Af λ b2 w2 S2 e2 => S2.lds 1 (stT c0 s0) rfl (S2.lds 0 (stT c1 s1) rfl ?_)
 have ho2 : LOp.All w2 so ys os := ⟨ho.row.ext S2.upd, ho.len, ho.few, λ i y o hy h' => by
  have h := ho.each i y o hy h'
  exact ⟨h.who, h.kind, h.at_, h.move, h.count, h.arg, h.put.ext S2.upd, h.i1, h.i2, h.len, λ k hk => (h.lt k hk).imp id λ hh => by have := S2.upd.size; omega⟩⟩
 exact Bm2 (hs0.ext S2.upd) hl0 (hs1.ext S2.upd) hl1 ho2 Cf1 λ w' e => hK w' (S2.upd.trans e)
end
end Go.Proofs.YtabcpghhfeplaaaGreat
namespace Go.Proofs.YtabcpghhfeplaaaGreat
open Go Go.Vx Go.ChangeShapes Go.WideShapes Go.RowKit
set_option maxRecDepth 100000 in
theorem Wx (os : Os) (started : os.Started) (H : Type) (enc : TypeId × Value -> H) :
  ReturnsInHanded {} Tryz.checked os 10 .any (Rows.objectTakesSpec.pre6 enc Tryz.prog Tryz.f10 Rows.objectTakesRow.domain false) (Rows.objectTakesSpec.post enc Tryz.prog Tryz.f10 false true false false) := by
 refine returnsInHanded_of_change_sized (C := Tryz.checked) Tryz.own started (by kernel_rfl) Tryz.func10
  (ChangeSpec.witness6 (enc := enc) (C := Tryz.checked) false ⟨#[], #[.agg #[.int .i64 0, .slice none 0 0], .agg #[.int .i64 0, .slice none 0 0], .slice none 0 0], []⟩ 8 (by kernel_rfl) (by kernel_rfl) (by kernel_rfl) (by kernel_rfl)) ?_
 intro W base args ds gs before hval0 hW _ hwt0 _
 have hval : ∀ (j : Nat) t v, Tryz.f10.params[j]? = some t -> args[j]? = some v -> Value.okWide Tryz.prog W .any base t v := hval0
 have hwt : (DataW.weightsEach Tryz.prog (Tryz.f10.params.toList ++ []) (ds ++ gs)).all (· <= reachBytes) = true := hwt0
 have hW' := hW
 obtain ⟨p, q, hA0, hV, rfl, hfz, hnd⟩ := hW
 have hA : DataW.TrodAll enc Tryz.prog W 0 (λ _ => true) true Tryz.f10.params.toList args.toList ds p := hA0
 clear hA0 hval0 hwt0
 rw [Tryz.params10] at hA hval hwt
 obtain ⟨rfl, rfl⟩ := trodVars_none hV
 obtain ⟨hn1, hn2, hT⟩ := D5 hA
 obtain ⟨v0, v1, v2, hv⟩ := Bo3 args.toList hn1
 obtain rfl : args = #[v0, v1, v2] := by cases args; simp_all
 obtain ⟨d0, d1, d2, rfl⟩ := Bo3 ds hn2
 obtain ⟨p0, q0⟩ := hT 0 24 v0 d0 rfl rfl rfl
 obtain ⟨c0, s0, l0, rfl, h0, n0⟩ := Ag5 (hval 0 24 v0 rfl rfl) q0 (weigh hwt 0 rfl rfl)
 obtain ⟨p1, q1⟩ := hT 1 24 v1 d1 rfl rfl rfl
 obtain ⟨c1, s1, l1, rfl, h1, n1⟩ := Ag5 (hval 1 24 v1 rfl rfl) q1 (weigh hwt 1 rfl rfl)
 obtain ⟨p2, q2⟩ := hT 2 41 v2 d2 rfl rfl rfl
 obtain ⟨s2, y2, o2, rfl, h2⟩ := Bw5 (hval 2 41 v2 rfl rfl) q2 (weigh hwt 2 rfl rfl)
 have walk := An8 (c0 := c0) (c1 := c1) h0 (by omega) h1 (by omega) h2 (K := λ r w' => r = true /\ Ext W w') λ w' e => ⟨rfl, e⟩
 refine walk.mono λ e W' ⟨x, he, hx, hext⟩ => ⟨.bool true, ?_, ?_⟩
 ·subst hx; exact he
 ·exact Bg1 hW' rfl rfl u4 rfl Tryz.laidOut (λ t ht => by
   rw [Tryz.params10] at ht
   have ht : t ∈ [24, 24, 41] := ht
   simp only [List.mem_cons, List.not_mem_nil, or_false] at ht
   rcases ht with rfl | rfl | rfl <;> exact recs (by simp)) hext
theorem objectTakes_holds : Rows.ObjectTakesSaid :=
 OpenClaim.holds_of_wide 10 Tryz.f10 rfl rfl rfl rfl rfl rfl rfl ⟨rfl, rfl, rfl, rfl, rfl⟩ rfl rfl rfl rfl rfl (by kernel_rfl) Tryz.func10 (by kernel_rfl)
  (of_decide_eq_true (by kernel_rfl)) (by unfold Func.isWrapper; rw [if_neg (by decide +kernel)]; exact ⟨rfl, rfl⟩)
  (λ os started H enc _ => Wx os started H enc)
end Go.Proofs.YtabcpghhfeplaaaGreat
