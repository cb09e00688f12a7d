/- What RegisterApart asks of the two banks, and where it stands. Conditions: none beyond the banks. -/
import Derived.Test.YtocdfkeflakemaaTag
set_option linter.unusedSimpArgs false
set_option linter.unusedVariables false
namespace Go.Proofs.Ytocdfkeflakemaa
open Go Go.Vx
section
variable {w w' : World} {pb mb pc mc : Nat} {bb bc : Reg.Bk} {Zb Zc : Nat → Prop}

theorem asked1_r {b18 : Nat} {y : Cells.T c55} {K : Nat → Nat → World → Prop} (n18 : w.heap[b18]? = some (.cells (Cells.vals c55 y).toArray 55 (0, 0))) (hB : BankIn w pb mb Zb bb) (hC : BankIn w pc mc Zc bc)
    (hK : ∀ b49 b52 r q n1 k1 k2 w', w'.heap[b49]? = some (.cells #[.int .i64 k1, sv r] 28 (0, 0)) → w'.heap[b52]? = some (.cells #[.int .i64 k2, sv q] 28 (0, 0)) → IntsO w' w.heap.size r (Reg.get bb y.2.2.1).2.1 → (∀ k, r.blk k → k < n1) → IntsO w' n1 q (Reg.get bc y.2.2.1).2.1 → w.heap.size ≤ n1 → n1 ≤ w'.heap.size → Ext w w' → K b49 b52 w') :
    (ld (.int .i64) (⟨b18, 2, none⟩ : Addr) fun (x67 : Int) =>
      callT Try.prog 21 #[.pointer (some (at0 pb)), .int .i64 x67] (.tup [(.agg c28), (.one (.int .i64))]) fun (x68 : ((Int × Sl × Unit) × Int × Unit)) =>
      newO (.cells #[.int .i64 (0 : Int), .slice none 0 0] 28) fun b69 =>
      aggSt (at0 b69) (.agg (Cells.vals c28 x68.1).toArray) 2 <|
      ld (.int .i64) (⟨b18, 2, none⟩ : Addr) fun (x70 : Int) =>
      callT Try.prog 21 #[.pointer (some (at0 pc)), .int .i64 x70] (.tup [(.agg c28), (.one (.int .i64))]) fun (x71 : ((Int × Sl × Unit) × Int × Unit)) =>
      newO (.cells #[.int .i64 (0 : Int), .slice none 0 0] 28) fun b72 =>
      aggSt (at0 b72) (.agg (Cells.vals c28 x71.1).toArray) 2 (K b69 b72)) w := by
  obtain ⟨y0, y1, nm, y3, y4, ⟨⟩⟩ := y
  dsimp only at hK
  refine ld_r n18 (x := nm) rfl ?_
  refine get_call hB fun r w1 o1 e1 => ?_
  have S := (St.start w).ext e1
  refine S.newAgg rfl rfl rfl fun b49 w2 S e2 => ?_
  have e12 := e1.trans e2
  refine ld_r (e12.ext_get n18) (x := nm) rfl ?_
  refine get_call (hC.ext e12) fun q w3 o3 e3 => ?_
  have S := S.ext e3
  refine S.newAgg rfl rfl rfl fun b52 w4 S e4 => ?_
  have e24 := e3.trans e4
  exact hK b49 b52 r q w2.heap.size _ _ w4 (S.at_ 1 rfl) (S.at_ 0 rfl) (o1.ext (e2.trans e24)) (fun k hk => (o1.ext e2).in.blk_lt hk) (o3.ext e4) e12.size e24.size (e12.trans e24)

/-- four lists, each in blocks of its own -/
structure Four (w w' : World) (b57 : Nat) (ys : List Sl) (l4 : List (List Int)) (N : Nat → Nat) : Prop where
  box : w'.heap[b57]? = some (.cells (ys.map sv).toArray 23 (0, 0))
  at_ : N 3 ≤ b57
  ly : ys.length = 4
  ll : l4.length = 4
  own : ∀ (j : Nat) (y : Sl) (l : List Int), ys[j]? = some y → l4[j]? = some l → IntsO w' w.heap.size y l ∧ l.length ≤ 140000 ∧ ∀ k, y.blk k → N j ≤ k ∧ k < N (j + 1)
  n0 : w.heap.size ≤ N 0
  n1 : N 0 ≤ N 1
  n2 : N 1 ≤ N 2
  n3 : N 2 ≤ N 3
  n4 : N 4 ≤ w'.heap.size

theorem asked2_r {b49 b52 n1 : Nat} {w0 : World} {r q : Sl} {k1 k2 nm : Int} {K : Nat → World → Prop} (e0 : Ext w0 w) (m1 : w.heap[b49]? = some (.cells #[.int .i64 k1, sv r] 28 (0, 0))) (m2 : w.heap[b52]? = some (.cells #[.int .i64 k2, sv q] 28 (0, 0)))
    (or_ : IntsO w w0.heap.size r (Reg.get bb nm).2.1) (hr : ∀ k, r.blk k → k < n1) (oq : IntsO w n1 q (Reg.get bc nm).2.1) (hn1 : w0.heap.size ≤ n1) (hn2 : n1 ≤ w.heap.size)
    (hB : BankIn w pb mb Zb bb) (okb : BkOk bb) (hC : BankIn w pc mc Zc bc) (okc : BkOk bc)
    (hK : ∀ b57 ys l4 N w', Four w0 w' b57 ys l4 N → Ext w w' → K b57 w') :
    (drew <| ld (.sl) (⟨b49, 1, none⟩ : Addr) fun (x75 : Sl) =>
      ld (.sl) (⟨b52, 1, none⟩ : Addr) fun (x76 : Sl) =>
      callT Try.prog 27 #[.pointer (some (at0 pc))] (.one (.one .sl)) fun (x77 : Sl) =>
      keep (fun w => w.cell? (⟨b52, 1, none⟩ : Addr) = some (Cell.val (.sl) x76)) <|
      keep (fun w => w.cell? (⟨b49, 1, none⟩ : Addr) = some (Cell.val (.sl) x75)) <|
      callT Try.prog 27 #[.pointer (some (at0 pb))] (.one (.one .sl)) fun (x78 : Sl) =>
      keep (fun w => w.cell? (⟨b52, 1, none⟩ : Addr) = some (Cell.val (.sl) x76)) <|
      keep (fun w => w.cell? (⟨b49, 1, none⟩ : Addr) = some (Cell.val (.sl) x75)) <|
      newO (.cells #[.slice x75.a x75.len x75.cap, .slice x76.a x76.len x76.cap, .slice x77.a x77.len x77.cap, .slice x78.a x78.len x78.cap] 23) K) w := by
  refine drew_r fun w1 e1 _ => ld_r (e1.ext_get m1) (x := r) rfl (ld_r (e1.ext_get m2) (x := q) rfl ?_)
  have gl1 := get_len hB nm
  have gl2 := get_len hC nm
  refine names_call (hC.ext e1) okc fun s3 w2 o3 e2 => ?_
  have e12 := e1.trans e2
  refine keep_r (cell_of (e12.ext_get m2) rfl) (keep_r (cell_of (e12.ext_get m1) rfl) ?_)
  refine names_call (hB.ext e12) okb fun s4 w3 o4 e3 => ?_
  have e13 := e12.trans e3
  refine keep_r (cell_of (e13.ext_get m2) rfl) (keep_r (cell_of (e13.ext_get m1) rfl) ?_)
  refine newO_r fun b5 w4 e4 n5 hb5 _ => ?_
  have e14 := e13.trans e4
  have hz1 := e1.size
  have hz2 := e2.size
  have hz3 := e3.size
  have hz4 := e4.size
  have hz0 := e0.size
  refine hK b5 [r, q, s3, s4] [(Reg.get bb nm).2.1, (Reg.get bc nm).2.1, nms bc 128, nms bb 128] (fun j => match j with | 0 => w0.heap.size | 1 => n1 | 2 => w1.heap.size | 3 => w2.heap.size | _ => w3.heap.size) w4 ⟨n5, (show w2.heap.size ≤ b5 by omega), rfl, rfl, ?_, Nat.le_refl _, hn1, (show n1 ≤ w1.heap.size by omega), hz2, hz4⟩ e14
  intro j y l hy hl
  match j with
  | 0 =>
    cases hy; cases hl
    exact ⟨or_.ext e14, gl1, fun k hk => ⟨or_.blk_ge hk, hr k hk⟩⟩
  | 1 =>
    cases hy; cases hl
    exact ⟨(oq.mono hn1).ext e14, gl2, fun k hk => ⟨oq.blk_ge hk, (oq.ext e1).in.blk_lt hk⟩⟩
  | 2 =>
    cases hy; cases hl
    exact ⟨(o3.mono (by omega)).ext (e3.trans e4), Nat.le_trans (nms_len bc 128) (by decide), fun k hk => ⟨o3.blk_ge hk, o3.in.blk_lt hk⟩⟩
  | 3 =>
    cases hy; cases hl
    exact ⟨(o4.mono (by omega)).ext e4, Nat.le_trans (nms_len bb 128) (by decide), fun k hk => ⟨o4.blk_ge hk, o4.in.blk_lt hk⟩⟩
  | j + 4 => simp at hy

/-- tags for the four -/
theorem Four.tags {b57 : Nat} {ys : List Sl} {l4 : List (List Int)} {N : Nat → Nat} (h : Four w w' b57 ys l4 N) (tag T : Nat → Nat) : ∃ tag4 : Nat → Nat, (∀ k, k < w.heap.size → tag4 k = tag k) ∧ tag4 b57 = T 3 ∧ ∀ j y, ys[j]? = some y → Tg w' tag4 y (T j) := by
  have h0 := h.n0
  have h1 := h.n1
  have h2 := h.n2
  have h3 := h.n3
  have h4 := h.n4
  have h5 := h.at_
  refine ⟨fun k => if N 3 ≤ k then T 3 else if N 2 ≤ k then T 2 else if N 1 ≤ k then T 1 else if N 0 ≤ k then T 0 else tag k, fun k hk => ?_, ?_, fun j y hy k hk => ?_⟩
  · dsimp only
    rw [if_neg (by omega), if_neg (by omega), if_neg (by omega), if_neg (by omega)]
  · dsimp only
    rw [if_pos h5]
  · have hj : j < 4 := by have := (List.getElem?_eq_some_iff.1 hy).1; have := h.ly; omega
    obtain ⟨l, hl⟩ : ∃ l, l4[j]? = some l := ⟨_, List.getElem?_eq_getElem (by have := h.ll; omega)⟩
    obtain ⟨o, _, hb⟩ := h.own j y l hy hl
    obtain ⟨g1, g2⟩ := hb k hk
    refine ⟨?_, o.in.blk_lt hk⟩
    dsimp only
    match j, hj with
    | 0, _ =>
      have g2 : k < N 1 := g2
      rw [if_neg (by omega), if_neg (by omega), if_neg (by omega), if_pos (by omega)]
    | 1, _ =>
      have g2 : k < N 2 := g2
      rw [if_neg (by omega), if_neg (by omega), if_pos (by omega)]
    | 2, _ =>
      have g2 : k < N 3 := g2
      rw [if_neg (by omega), if_pos (by omega)]
    | 3, _ =>
      have g2 : k < N 4 := g2
      rw [if_pos (by omega)]

theorem ShownIn.old {S : Nat → Prop} {B : Nat} {s e : Sl} {xs : List (Cells.T c28)} {b : Reg.Bk} {n : Nat} (h : ShownIn w B s e xs b n) (u : Upd S w w') (hS : ∀ k, S k → k < w.heap.size → k < B) : ShownIn w' B s e xs b n := by
  have go : ∀ {y : Sl} {t sz : Nat} {vs : List Value}, SlOwn w B y t sz vs → SlOwn w' B y t sz vs := fun o => o.upd u fun k hk hb hSk => by
    have := hS k hSk (SlOwn.blk_lt o hb); omega
  exact ⟨go h.row, h.len, go h.err, fun i x hx => let ⟨a, c, d⟩ := h.txt i x hx; ⟨a, go c, d⟩⟩

theorem BankIn.beside {pb mb pc mc : Nat} {bb bc : Reg.Bk} (h : BankIn w pb mb Zb bb) (hC : BankIn w pc mc Zc bc) (h1 : pb ≠ pc) (h2 : mb ≠ mc) (u : Upd (BM pc mc) w w') : BankIn w' pb mb Zb bb := by
  have hm := hC.map_at
  have hm' := h.map_at
  obtain ⟨es, c, hm⟩ := hm
  obtain ⟨es', c', hm'⟩ := hm'
  refine h.upd u ?_ ?_ fun k hk _ => .inl fun c t fr hc => ?_
  · rintro (e | e)
    · exact h1 e
    · have := h.box; rw [e, hm] at this; cases this
  · rintro (e | e)
    · rw [e, hC.box] at hm'; cases hm'
    · exact h2 e
  · intro ht; subst ht
    exact hC.noTy (by decide) k hk _ _ hc

/-- where RegisterApart stands between two steps -/
structure ApO (w2 w : World) (pc mc : Nat) (tag : Nat → Nat) (sh mk q t : Sl) (vs : List Sl) (ms : List Int) (qs ws : List Sl) (ls : List (List Int)) (i : Nat) (bc : Reg.Bk) : Prop where
  I : ApI w2.heap.size w tag sh mk q t vs ms qs ws ls 0 (4 * i)
  U : Upd (BM pc mc) w2 w
  lo : ∀ k, k < w2.heap.size → tag k = 0
  hi : ∀ k, w.heap.size ≤ k → tag k = 0
  C : BankIn w pc mc (fun k => tag k ≠ 0) bc
  ok : BkOk bc
  nv : vs.length = 16 * i
  nq : qs.length = 8 * i
  plt : pc < w2.heap.size
  mlt : mc < w2.heap.size
section
variable {w2 : World} {tag tag' : Nat → Nat} {sh mk q t : Sl} {vs : List Sl} {ms : List Int} {qs ws : List Sl} {ls : List (List Int)} {i : Nat}
theorem ApO.ext (h : ApO w2 w pc mc tag sh mk q t vs ms qs ws ls i bc) (e : Ext w w') : ApO w2 w' pc mc tag sh mk q t vs ms qs ws ls i bc :=
  ⟨h.I.stays (bad := fun _ => False) (Stays.ext e) (fun _ h => h.elim), h.U.trans (Upd.of_ext e), h.lo, fun k hk => h.hi k (Nat.le_trans e.size hk), h.C.ext e, h.ok, h.nv, h.nq, h.plt, h.mlt⟩
theorem ApO.bank {bc' : Reg.Bk} (h : ApO w2 w pc mc tag sh mk q t vs ms qs ws ls i bc) (u : Upd (BM pc mc) w w') (hC : BankIn w' pc mc (fun k => tag k ≠ 0) bc') (ok : BkOk bc') : ApO w2 w' pc mc tag sh mk q t vs ms qs ws ls i bc' :=
  ⟨h.I.stays (bad := fun t => t = 0) (Stays.of u fun k hk _ => by rcases hk with rfl | rfl; exact h.lo _ h.plt; exact h.lo _ h.mlt) (fun _ h => h), h.U.trans u, h.lo, fun k hk => h.hi k (Nat.le_trans u.size hk), hC, ok, h.nv, h.nq, h.plt, h.mlt⟩
theorem ApO.hZ (h : ApO w2 w pc mc tag sh mk q t vs ms qs ws ls i bc) : ∀ k, tag k ≠ 0 → k < w.heap.size := fun k hk => Nat.lt_of_not_le fun hh => hk (h.hi k hh)
/-- the banks behind a step that turns tagged blocks alone -/
theorem ApO.bankS (h : ApO w2 w pc mc tag sh mk q t vs ms qs ws ls i bc) (s : Stays w tag w' tag' (fun t => t ≠ 0)) : BankIn w' pc mc (fun k => tag' k ≠ 0) bc ∧ Upd (BM pc mc) w2 w' ∧ ∀ k, k < w2.heap.size → tag' k = 0 := by
  have hs := h.U.size
  refine ⟨h.C.updZ s.upd (fun e => e (h.lo _ h.plt)) (fun e => e (h.lo _ h.mlt)) (fun k hk _ => .inr hk) fun k hk => ?_, h.U.new s.upd fun k hk hb => absurd (h.lo k hk) hb, fun k hk => by rw [s.tag k (by omega)]; exact h.lo k hk⟩
  by_cases hl : k < w.heap.size
  · rw [s.tag k hl] at hk; exact .inl hk
  · exact .inr (by omega)
end
end
end Go.Proofs.Ytocdfkeflakemaa
