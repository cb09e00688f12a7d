/- What grown and whole do: lists that hold a mark alone. Conditions: lists below 140000 letters. -/
import Derived.Test.YtocdfkeflakemaaAll
import Derived.Test.YtocdfkeflakemaaVxG
set_option linter.unusedSimpArgs false
set_option linter.unusedVariables false
namespace Go.Proofs.Ytocdfkeflakemaa
open Go Go.Vx
section
variable {w w' : World}

theorem u34' : Try.prog.underlying 34 = some (.slice 23) := i34_ok.und
theorem rep1 (m : Int) (n : Nat) : iv (List.replicate n m) = List.replicate n (Value.int .i64 m) := by simp [iv]
theorem box_rep {b n : Nat} {m : Int} (hb : w.heap[b]? = some (.cells (List.replicate n (Value.int .i64 m)).toArray 3 (0, 0))) : AllV w 3 (.int .i64 m) ⟨some (at0 b), n, n⟩ := by
  have h : w.heap[b]? = some (.cells (iv (List.replicate n m)).toArray 3 (0, 0)) := by rw [rep1]; exact hb
  have h2 := box3 h
  rw [List.length_replicate] at h2
  show SlIn w _ 3 1 (List.replicate n (Value.int .i64 m))
  rw [← rep1]; exact h2

/-- four rows of marks -/
structure Grown (w w' : World) (x s : Sl) (m : Int) (ys : List Sl) : Prop where
  row : SlIn w' s 23 1 (ys.map sv)
  four : ys.length = 4
  all : ∀ y ∈ ys, AllV w' 3 (.int .i64 m) y ∧ (∀ k, y.blk k → x.blk k ∨ w.heap.size ≤ k) ∧ y.len ≤ 140200
  new : ∀ k, s.blk k → w.heap.size ≤ k
  upd : Upd x.blk w w'

theorem grown_call {x : Sl} {l : List Int} {m : Int} {B : Nat} {K : Sl → World → Prop} (o : IntsO w B x l) (hl : l.length ≤ 140000) (hB : B ≤ w.heap.size) (hK : ∀ s ys w', Grown w w' x s m ys → K s w') :
    callT Try.prog 28 #[.slice x.a x.len x.cap, .int .i64 m] (.one (.one .sl)) K w := by
  refine F28_calls ?_
  unfold F28
  have hn := o.length
  refine join_r (fun _ w' => IntsO w' B x (List.replicate l.length m) ∧ Upd x.blk w w') ?_ ?_
  · refine sloop_r (fun s' w' => ∃ (n : Nat) (l' : List Int), n ≤ l.length ∧ s' = ((n : Int), ()) ∧ IntsO w' B x l' ∧ l'.length = l.length ∧ (∀ j, j < n → l'[j]? = some m) ∧ Upd x.blk w w') (fun s' _ => (l.length - s'.1).toNat) ⟨0, l, by omega, rfl, o, rfl, (fun j hj => by omega), Upd.refl _ _⟩ ?_
    rintro _ w1 ⟨n, l1, hn1, rfl, o1, hl1, hm1, u1⟩
    dsimp only
    have en : IntKind.wrap .i64 ((n : Int) + 1) = ((n + 1 : Nat) : Int) := by rw [IntWalk.i64_in _ ⟨by omega, by omega⟩]; omega
    simp only [en]
    refine sif_r (fun hc => ?_) (fun hc => ?_)
    · have hc : n < l.length := by have := of_decide_eq_true hc; omega
      refine ix_st (c := .int .i64) (xs := l1) (x := m) o1 (by omega) (by omega) fun w2 o2 u2 _ => ⟨⟨n + 1, _, hc, rfl, o2, by simp [hl1], fun j hj => ?_, u1.trans u2⟩, by omega⟩
      rw [List.getElem?_set, Int.toNat_natCast]
      by_cases hjn : n = j
      · rw [if_pos hjn, if_pos (by omega)]
      · rw [if_neg hjn]; exact hm1 j (by omega)
    · have hc : n = l.length := by have := of_decide_eq_false hc; omega
      have e : l1 = List.replicate l.length m := by
        apply List.ext_getElem?
        intro j
        by_cases hj : j < l.length
        · rw [hm1 j (by omega)]; simp [hj]
        · rw [List.getElem?_eq_none (by omega), List.getElem?_eq_none (by simp; omega)]
      rw [← e]; exact ⟨o1, u1⟩
  rintro _ w1 ⟨o1, u1⟩
  have ox1 : SlOwn w1 B x 3 1 (List.replicate x.len (.int .i64 m)) := by rw [← rep1, ← hn]; exact o1
  refine newO_r fun b6 w2 e2 n2 hb6 _ => ?_
  have h6 : AllV w2 3 (.int .i64 m) ⟨some (at0 b6), 3, 3⟩ := box_rep n2
  have hs1 := u1.size
  have hs2 := e2.size
  refine append_all (x := ⟨some (at0 b6), 3, 3⟩) E23 u23 (ox1.ext e2) h6.x rfl (by dsimp only; omega) (by omega) fun x7 w3 o7 hl7 u3 hb7 _ hst => ?_
  have ox3 := hst x B (ox1.ext e2)
  have u13 : Upd x.blk w w3 := (u1.trans (Upd.of_ext e2)).trans u3
  dsimp only at hl7
  have hs3 := u13.size
  refine join_r (fun s' w' => SlOwn w' B s'.1 3 1 (List.replicate s'.1.len (.int .i64 m)) ∧ SlOwn w' B x 3 1 (List.replicate x.len (.int .i64 m)) ∧ s'.1.len = x.len + 103 ∧ Upd x.blk w w' ∧ ∀ k, s'.1.blk k → x.blk k ∨ w.heap.size ≤ k) ?_ ?_
  · refine sloop_r (fun s' w' => ∃ n : Nat, n ≤ 100 ∧ s'.2 = ((n : Int), ()) ∧ SlOwn w' B s'.1 3 1 (List.replicate s'.1.len (.int .i64 m)) ∧ SlOwn w' B x 3 1 (List.replicate x.len (.int .i64 m)) ∧ s'.1.len = x.len + 3 + n ∧ Upd x.blk w w' ∧ ∀ k, s'.1.blk k → x.blk k ∨ w.heap.size ≤ k) (fun s' _ => (100 - s'.2.1).toNat)
      ⟨0, by omega, rfl, o7, ox3, by dsimp only; omega, u13, fun k hk => (hb7 k hk).imp id fun h => by omega⟩ ?_
    rintro ⟨f, _⟩ w4 ⟨n, hn4, rfl, of, ox, hlf, u4, hbf⟩
    dsimp only at of hlf hbf ⊢
    have hs4 := u4.size
    have en : IntKind.wrap .i64 ((n : Int) + 1) = ((n + 1 : Nat) : Int) := by rw [IntWalk.i64_in _ ⟨by omega, by omega⟩]; omega
    simp only [en]
    refine sif_r (fun hc => ?_) (fun hc => ?_)
    · have hc : n < 100 := by have := of_decide_eq_true hc; omega
      refine newO_r fun b12 w5 e5 n5 _ _ => ?_
      have h12 : AllV w5 3 (.int .i64 m) ⟨some (at0 b12), 1, 1⟩ := box_rep n5
      have hs5 := e5.size
      refine append_all (x := ⟨some (at0 b12), 1, 1⟩) E23 u23 (of.ext e5) h12.x rfl (by dsimp only; omega) (by omega) fun x13 w6 o13 hl13 u6 hb13 _ hst => ?_
      dsimp only at hl13
      exact ⟨⟨n + 1, hc, rfl, o13, hst x B (ox.ext e5), by omega, (u4.trans (Upd.of_ext e5)).new u6 fun k hk h => (hbf k h).resolve_right (by omega), fun k hk => (hb13 k hk).elim (hbf k) fun h => .inr (by omega)⟩, by omega⟩
    · have hc : n = 100 := by have := of_decide_eq_false hc; omega
      subst hc
      exact ⟨of, ox, by omega, u4, hbf⟩
  rintro ⟨f, ⟨⟩⟩ w4 ⟨of, ox, hlf, u4, hbf⟩
  dsimp only at of hlf hbf ⊢
  have hs4 := u4.size
  refine newO_r fun b14 w5 e5 n5 _ _ => ?_
  have h14 : AllV w5 3 (.int .i64 m) ⟨some (at0 b14), 1, 1⟩ := box_rep n5
  have hs5 := e5.size
  refine append_all (x := ⟨some (at0 b14), 1, 1⟩) E23 u23 (ox.ext e5) h14.x rfl (by dsimp only; omega) (by omega) fun x15 w6 o15 hl15 u6 hb15 ha6 hst6 => ?_
  have hs6 := u6.size
  refine newO_r fun b16 w7 e7 n7 _ _ => ?_
  have h16 : AllV w7 3 (.int .i64 m) ⟨some (at0 b16), 2, 2⟩ := box_rep n7
  have hs7 := e7.size
  refine append_all (x := ⟨some (at0 b16), 2, 2⟩) E23 u23 ((hst6 x B (ox.ext e5)).ext e7) h16.x rfl (by dsimp only; omega) (by omega) fun x17 w8 o17 hl17 u8 hb17 ha8 hst8 => ?_
  have hs8 := u8.size
  dsimp only at hl15 hl17
  refine newO_r fun b18 w9 e9 n9 hb18 _ => ?_
  have u9 : Upd x.blk w w9 := ((((u4.trans (Upd.of_ext e5)).trans u6).trans (Upd.of_ext e7)).trans u8).trans (Upd.of_ext e9)
  have n9' : w9.heap[b18]? = some (.cells ([x, x15, x17, f].map sv).toArray 23 (0, 0)) := n9
  refine hK _ [x, x15, x17, f] w9 ⟨?_, rfl, ?_, ?_, u9⟩
  · have := SlIn.of_box (sz := 1) (n := 4) n9' rfl
    simpa using this
  · intro y hy
    simp only [List.mem_cons, List.not_mem_nil, or_false] at hy
    rcases hy with rfl | rfl | rfl | rfl
    · exact ⟨(hst8 y B ((hst6 y B (ox.ext e5)).ext e7)).in.ext e9, fun k hk => .inl hk, by omega⟩
    · exact ⟨(ha8 y (o15.in.ext e7)).ext e9, fun k hk => (hb15 k hk).imp id fun h => by omega, by omega⟩
    · exact ⟨o17.in.ext e9, fun k hk => (hb17 k hk).imp id fun h => by omega, by omega⟩
    · exact ⟨(ha8 y ((ha6 y (of.in.ext e5)).ext e7)).ext e9, hbf, by omega⟩
  · rintro k ⟨q, hq, rfl⟩
    cases hq
    show w.heap.size ≤ b18
    omega

theorem whole_call {B : Nat} {sh mk : Sl} {vs : List Sl} {ms : List Int} {K : Bool → World → Prop} (row : SlOwn w B sh 23 1 (vs.map sv)) (mks : IntsO w B mk ms) (lv : vs.length = ms.length) (hfew : vs.length ≤ 2 ^ 60)
    (vt : ∀ (i : Nat) (x : Sl) (m : Int), vs[i]? = some x → ms[i]? = some m → AllV w 3 (.int .i64 m) x ∧ x.len ≤ 2 ^ 60) (hK : ∀ w', Ext w w' → K true w') :
    callT Try.prog 29 #[.slice sh.a sh.len sh.cap, .slice mk.a mk.len mk.cap] (.one (.one .bool)) K w := by
  refine F29_calls ?_
  unfold F29
  have hn : vs.length = sh.len := by have := row.len1; rwa [List.length_map] at this
  refine join_r (fun _ w' => Ext w w') ?_ (fun _ w' e => hK w' e)
  refine sloop_r (fun s' w' => ∃ n : Nat, n ≤ vs.length ∧ s' = ((n : Int), ()) ∧ Ext w w') (fun s' _ => (vs.length - s'.1).toNat) ⟨0, by omega, rfl, Ext.refl w⟩ ?_
  rintro _ w1 ⟨n, hn1, rfl, e1⟩
  dsimp only
  have en : IntKind.wrap .i64 ((n : Int) + 1) = ((n + 1 : Nat) : Int) := by rw [IntWalk.i64_in _ ⟨by omega, by omega⟩]; omega
  simp only [en]
  refine sif_r (fun hc => ?_) (fun hc => e1)
  have hc : n < vs.length := by have := of_decide_eq_true hc; omega
  obtain ⟨x, hx⟩ : ∃ x, vs[n]? = some x := ⟨_, List.getElem?_eq_getElem hc⟩
  obtain ⟨m, hm⟩ : ∃ m, ms[n]? = some m := ⟨_, List.getElem?_eq_getElem (by omega)⟩
  obtain ⟨ha, hxl⟩ := vt n x m hx hm
  refine join_r (fun _ w' => Ext w w') ?_ (fun _ w' e => ⟨⟨n + 1, hc, rfl, e⟩, by omega⟩)
  refine sloop_r (fun s' w' => ∃ j : Nat, j ≤ x.len ∧ s' = ((j : Int), ()) ∧ Ext w w') (fun s' _ => (x.len - s'.1).toNat) ⟨0, by omega, rfl, e1⟩ ?_
  rintro _ w2 ⟨j, hj, rfl, e2⟩
  dsimp only
  have ej : IntKind.wrap .i64 ((j : Int) + 1) = ((j + 1 : Nat) : Int) := by rw [IntWalk.i64_in _ ⟨by omega, by omega⟩]; omega
  simp only [ej]
  refine ix_ld (c := .sl) (xs := vs) (x := x) (row.in.ext e2) (by omega) (by simpa using hx) fun _ => sif_r (fun hd => ?_) (fun hd => e2)
  have hd : j < x.len := by have := of_decide_eq_true hd; omega
  refine drew_r fun w3 e3 _ => ?_
  have e23 := e2.trans e3
  refine ix_ld (c := .sl) (xs := vs) (x := x) (row.in.ext e23) (by omega) (by simpa using hx) fun _ => ?_
  have hax : Ints w3 x (List.replicate x.len m) := by unfold Ints; rw [rep1]; exact ha.ext e23
  refine ix_ld (c := .int .i64) (xs := List.replicate x.len m) (x := m) hax (by omega) (by rw [Int.toNat_natCast]; simp [hd]) fun _ => ?_
  refine ix_ld (c := .int .i64) (xs := ms) (x := m) (mks.in.ext e23) (by omega) (by simpa using hm) fun _ => ?_
  refine sif_r (fun h => by simp at h) (fun _ => ⟨⟨j + 1, hd, rfl, e23⟩, by omega⟩)
end
end Go.Proofs.Ytocdfkeflakemaa
