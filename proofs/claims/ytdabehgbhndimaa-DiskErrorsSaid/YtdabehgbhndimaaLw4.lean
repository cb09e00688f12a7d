/- The laws' used and same. Conditions: pictures in memory. -/
import Derived.Test.YtdabehgbhndimaaLw3
import Derived.ChangeKeysEq
set_option linter.unusedSimpArgs false
set_option linter.unusedVariables false
namespace Go.Proofs.Ytdabehgbhndimaa
open Go Go.Vx Dsk
section
variable {w w' : World} {S P P' F F' : Nat → Prop} {d : Nat} {D : Dk} {N : Nat}

theorem stamp_same {a : Cells.T c68} {o1 o2 : Operand} {K : Bool → World → Prop} (hK : K false w) : rdB Try.prog (do eqGuard .neq 68 o1 o2 (.agg (Cells.vals c68 a).toArray) (.agg (Cells.vals c68 a).toArray); binOp .neq 68 (.agg (Cells.vals c68 a).toArray) (.agg (Cells.vals c68 a).toArray) : Sem Value) K w := by
  have hm : Try.prog.eqGuardType Try.prog.depth 68 = false := by kernel_rfl
  have hu : Try.prog.underlying 68 = some (.array 3 3) := i68_ok.und
  have ui : Try.prog.underlying 3 = some (.int .i64) := i3_ok.und
  obtain ⟨j, hj, hs, _⟩ := (i3_ok).infoX
  have hc : Try.prog.cellsOf 3 = 1 := by kernel_rfl
  have he : (Op.equalIn 10000 68 (.agg (Cells.vals c68 a).toArray) (.agg (Cells.vals c68 a).toArray)).run Try.prog w = .ok true w := by
    rw [run_equalIn_array w 9999 _ _ hu hj, hc]
    obtain ⟨x, y, z, ⟨⟩⟩ := a
    simp [Op.eqItems, List.range_succ, part, Cells.vals, Cell.val, sizeOf, run_typeInfo w hj, hs, run_equalIn_int w _ _ _ _ _ _ ui]
  refine ⟨false, ?_, hK⟩
  simp only [Sem.run_bind, run_eqGuard_agg w _ _ _ _ _ _ hm, Result.andThen_ok]
  simp [binOp, Op.equal, Op.maxDepth, he]

theorem shot_cells {sh : Sl × Sl × Sl × Unit} : Cells.vals c65 sh = [sv sh.1, sv sh.2.1, sv sh.2.2.1] := rfl

/-- a cell of a row of texts -/
theorem str_ix {B : Nat} {s : Sl} {l : List Nm} (h : SlOwn w B s 9 1 (l.map Value.string)) {j : Nat} {x : Nm} (hx : l[j]? = some x) {K : Nm → World → Prop} (hK : K x w) :
    ix s.a s.len (j : Int) (fun p => ld (.str) (p.add (scaled (Int.toNat (j : Int)) 1)) K) w := by
  have hl := h.len1
  rw [List.length_map] at hl
  have hj := (List.getElem?_eq_some_iff.1 hx).1
  refine h.in.ix (by omega) (by omega) (by decide) fun b off _ hat => ⟨x, ?_, hK⟩
  have h0 := hat 0 (.string x) (by rw [Int.toNat_natCast, Nat.mul_one, Nat.add_zero, List.getElem?_map, hx]; rfl)
  simp only [addr_add, scaled, Nat.mul_one]
  rw [Nat.mul_one, Nat.add_zero] at h0
  exact h0

def sizes (l : List Nm) : Int := sumZ (l.map fun t => (t.size : Int))
theorem used_call {B : Nat} {sh : Sl × Sl × Sl × Unit} {ns ts : List Nm} {st : List (Cells.T c68)} (h : ShotIn w B F sh ns ts st) (hl : ts.length ≤ 2 ^ 20) (hb : ∀ t ∈ ts, t.size ≤ 2 ^ 30) {K : Int → World → Prop} (hK : ∀ w', Ext w w' → K (sizes ts) w') :
    callT Try.prog 30 #[.agg (Cells.vals c65 sh).toArray] (.one (.one (.int .i64))) K w := by
  refine F30_calls (a0 := sh) ?_
  unfold F30
  refine newO_r fun b1 w1 e1 n1 hb1 _ => ?_
  have ht := h.t.ext e1
  have hlt := ht.len1
  rw [List.length_map] at hlt
  refine join_r (fun x W => x = (sizes ts, ()) ∧ Ext w W) ?_ ?_
  · refine sloop_r (fun s W => ∃ j : Nat, s = (sizes (ts.take j), (j : Int), ()) ∧ j ≤ ts.length ∧ W = w1) (fun s _ => ts.length - s.2.1.toNat) ⟨0, rfl, Nat.zero_le _, rfl⟩ ?_
    rintro _ W ⟨j, rfl, hj, rfl⟩
    dsimp only
    refine ld_r n1 (off := 1) (x := sh.2.1) rfl (sif_r (fun h => ?_) fun h => ?_)
    · have h : j < ts.length := by have := of_decide_eq_true h; omega
      obtain ⟨t, htj⟩ : ∃ t, ts[j]? = some t := ⟨_, List.getElem?_eq_getElem h⟩
      have hsz := hb t (List.mem_of_getElem? htj)
      refine ld_r n1 (off := 1) (x := sh.2.1) rfl (str_ix ht htj ?_)
      have hj1 : sizes (ts.take (j + 1)) = sizes (ts.take j) + (t.size : Int) := by
        unfold sizes
        rw [List.take_add_one, htj, Option.toList_some, List.map_append, sumZ_append]
        simp [sumZ]
      have hb0 : 0 ≤ sizes (ts.take j) := sumZ_nonneg fun x hx => by
        obtain ⟨y, _, rfl⟩ := List.mem_map.1 hx; omega
      have hb2 : sizes (ts.take j) ≤ (2 ^ 20 : Int) * 2 ^ 30 := by
        have := sumZ_le (l := (ts.take j).map fun t => (t.size : Int)) (B := 2 ^ 30) fun x hx => by
          obtain ⟨y, hy, rfl⟩ := List.mem_map.1 hx
          have := hb y (List.mem_of_mem_take hy); omega
        rw [List.length_map, List.length_take] at this
        have h2 : ((min j ts.length : Nat) : Int) * 2 ^ 30 ≤ 2 ^ 20 * 2 ^ 30 := Int.mul_le_mul_of_nonneg_right (by omega) (by decide)
        unfold sizes
        omega
      rw [IntWalk.i64_in _ ⟨by omega, by omega⟩, IntWalk.i64_in _ ⟨by omega, by omega⟩]
      exact ⟨⟨j + 1, by rw [hj1]; rfl, h, rfl⟩, by show ts.length - (j + 1) < ts.length - j; omega⟩
    · have h : ¬ j < ts.length := by have := of_decide_eq_false h; omega
      rw [List.take_of_length_le (by omega)]
      exact ⟨rfl, e1⟩
  · rintro _ W ⟨rfl, e⟩
    exact hK W e

theorem same_call {B B' : Nat} {sh sh' : Sl × Sl × Sl × Unit} {ns ts : List Nm} {st : List (Cells.T c68)} (h : ShotIn w B F sh ns ts st) (h' : ShotIn w B' F' sh' ns ts st) (hl : ns.length ≤ 2 ^ 20) (ht : ts.length = ns.length) (hs : st.length = ns.length) {K : Bool → World → Prop} (hK : ∀ w', Ext w w' → K true w') :
    callT Try.prog 31 #[.agg (Cells.vals c65 sh).toArray, .agg (Cells.vals c65 sh').toArray] (.one (.one .bool)) K w := by
  refine F31_calls (a0 := sh) (a1 := sh') ?_
  unfold F31
  refine newO_r fun b1 w1 e1 n1 hb1 _ => newO_r fun b2 w2 e2 n2 hb2 _ => ?_
  have e02 := e1.trans e2
  have n1 := e2.ext_get n1
  have g1 := h.n.len1
  have g2 := h'.n.len1
  rw [List.length_map] at g1 g2
  refine ld_r n1 (off := 0) (x := sh.1) rfl (ld_r n2 (off := 0) (x := sh'.1) rfl (sif_r (fun hh => ?_) fun _ => ?_))
  · simp at hh; omega
  refine join_r (fun _ W => Ext w W) ?_ fun _ W e => hK W e
  refine sloop_r (fun s W => ∃ j : Nat, s = ((j : Int), ()) ∧ j ≤ ns.length ∧ Ext w2 W) (fun s _ => ns.length - s.1.toNat) ⟨0, rfl, Nat.zero_le _, Ext.refl _⟩ ?_
  rintro _ W ⟨j, rfl, hj, eW⟩
  dsimp only
  refine ld_r (eW.ext_get n1) (off := 0) (x := sh.1) rfl (sif_r (fun hh => ?_) fun _ => e02.trans eW)
  have hh : j < ns.length := by have := of_decide_eq_true hh; omega
  obtain ⟨n, hn⟩ : ∃ n, ns[j]? = some n := ⟨_, List.getElem?_eq_getElem hh⟩
  obtain ⟨t, htj⟩ : ∃ t, ts[j]? = some t := ⟨_, List.getElem?_eq_getElem (by omega)⟩
  obtain ⟨x, hxj⟩ : ∃ x, st[j]? = some x := ⟨_, List.getElem?_eq_getElem (by omega)⟩
  refine join_r (fun x W' => x = (false, ()) ∧ Ext w2 W') (drew_r fun W1 e1' _ => ?_) ?_
  · have eA := eW.trans e1'
    have eB := e02.trans eA
    have n1 := eA.ext_get n1
    have n2 := eA.ext_get n2
    refine ld_r n1 (off := 0) (x := sh.1) rfl (str_ix (h.n.ext eB) hn (ld_r n2 (off := 0) (x := sh'.1) rfl (str_ix (h'.n.ext eB) hn (sif_r (fun hh => by simp at hh) fun _ => ?_))))
    refine ld_r n1 (off := 1) (x := sh.2.1) rfl (str_ix (h.t.ext eB) htj (ld_r n2 (off := 1) (x := sh'.2.1) rfl (str_ix (h'.t.ext eB) htj (sif_r (fun hh => by simp at hh) fun _ => ?_))))
    refine ld_r n1 (off := 2) (x := sh.2.2.1) rfl (ix_lds (cs := c68) (h.s.ext eB).in (by decide) (by omega) (by simpa using hxj) fun _ => ?_)
    refine ld_r n2 (off := 2) (x := sh'.2.2.1) rfl (ix_lds (cs := c68) (h'.s.ext eB).in (by decide) (by omega) (by simpa using hxj) fun _ => ?_)
    exact stamp_same ⟨rfl, eA⟩
  · rintro _ W' ⟨rfl, e⟩
    rw [IntWalk.i64_in _ ⟨by omega, by omega⟩]
    exact sif_false ⟨⟨j + 1, rfl, hh, e⟩, by show ns.length - (j + 1) < ns.length - j; omega⟩
end
end Go.Proofs.Ytdabehgbhndimaa
