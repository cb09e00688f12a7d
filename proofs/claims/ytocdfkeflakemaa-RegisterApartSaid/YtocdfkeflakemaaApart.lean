/- RegisterApart answers true. Conditions: the arguments lie as StepsIn says. -/
import Derived.Test.YtocdfkeflakemaaApt
set_option linter.unusedSimpArgs false
set_option linter.unusedVariables false
namespace Go.Proofs.Ytocdfkeflakemaa
open Go Go.Vx
section
variable {w : World}

/-- a row of slices is read at a place -/
theorem box_ix {b57 j : Nat} {ys : List Sl} {y : Sl} {K : Addr → Sl → World → Prop} (hb : w.heap[b57]? = some (.cells (ys.map sv).toArray 23 (0, 0))) (h4 : ys.length = 4) (hy : ys[j]? = some y) (hK : ∀ p, K p y w) :
    ix (some (at0 b57)) 4 (j : Int) (fun p => ld .sl (p.add (scaled (Int.toNat (j : Int)) 1)) (K p)) w := by
  have h := SlIn.of_box (sz := 1) (n := 4) hb (by simp [h4])
  have h' : SlIn w ⟨some (at0 b57), 4, 4⟩ 23 1 (ys.map sv) := by simpa using h
  exact ix_ld (c := .sl) (s := ⟨some (at0 b57), 4, 4⟩) (xs := ys) (x := y) h' (by omega) (by simpa using hy) hK

theorem apart_call {a0 a1 : Sl} {xs0 xs1 : List (Cells.T c55)} {K : Bool → World → Prop} (hs0 : StepsIn w a0 xs0) (hs1 : StepsIn w a1 xs1) (hK : ∀ w', Ext w w' → K true w') : F11 a0 a1 K w := by
  unfold F11
  have hn1 : xs1.length = a1.len := hs1.row.lenR (cs := c55) (by decide)
  have hfew := hs1.few
  refine able_call fun w1 e1 => sif_false ?_
  refine bank_callI (Z := fun _ => False) keepOk (hs0.ext e1) (fun _ h => h.elim) fun pb mb bb wb hBb okb eb hpb hmb => sif_false ?_
  refine shown_call hBb fun sx ex xs w3 hsh3 e3 => ?_
  have hsh3 := hsh3.mono (Nat.zero_le _)
  have hB3 := hBb.ext e3
  refine copy_call hB3 (fun _ h => h.elim) fun pc mc w4 hC4 e4 hpc hmc => ?_
  refine copy_call (hB3.ext e4) (fun _ h => h.elim) fun pd md w5 hD5 e5 hpd hmd => ?_
  have e15 : Ext w w5 := e1.trans (eb.trans (e3.trans (e4.trans e5)))
  have hb1 := hB3.lt pb (.inl rfl)
  have hb2 := hB3.lt mb (.inr rfl)
  have hc1 := hC4.lt pc (.inl rfl)
  have hc2 := hC4.lt mc (.inr rfl)
  have hsz4 := e4.size
  have hsz5 := e5.size
  refine join_r (fun s' w' => s' = (false, ()) ∧ Ext w5 w') ?_ ?_
  · refine sif_false (sif_false (sameShown_call (hC4.ext e5) (hsh3.ext (e4.trans e5)) (fun _ => rfl) fun w6 e6 => sif_false (sameShown_call (hD5.ext e6) (hsh3.ext (e4.trans (e5.trans e6))) (fun _ => rfl) fun w7 e7 => ⟨rfl, e6.trans e7⟩)))
  rintro _ w2 ⟨rfl, e52⟩
  refine sif_false ?_
  -- from here on the blocks that are there stay, but for the first copy's
  have ew2 : Ext w w2 := e15.trans e52
  have hB2 : BankIn w2 pb mb (fun _ => False) bb := hB3.ext (e4.trans (e5.trans e52))
  have hC2 : BankIn w2 pc mc (fun _ => False) bb := hC4.ext (e5.trans e52)
  have hD2 : BankIn w2 pd md (fun _ => False) bb := hD5.ext e52
  have hsh2 : ShownIn w2 0 sx ex xs bb 132 := hsh3.ext (e4.trans (e5.trans e52))
  have hplt := hC2.lt pc (.inl rfl)
  have hmlt := hC2.lt mc (.inr rfl)
  have hgp : ∀ k, BM pc mc k → w.heap.size ≤ k := by
    have s1 := e1.size
    have s2 := eb.size
    have s3 := e3.size
    rintro k (rfl | rfl) <;> omega
  have bAt : ∀ {W : World}, Upd (BM pc mc) w2 W → BankIn W pb mb (fun _ => False) bb := fun u => hB2.beside hC2 (by omega) (by omega) u
  have dAt : ∀ {W : World}, Upd (BM pc mc) w2 W → BankIn W pd md (fun _ => False) bb := fun u => hD2.beside hC2 (by omega) (by omega) u
  have sAt : ∀ {W : World}, Upd (BM pc mc) w2 W → ShownIn W 0 sx ex xs bb 132 := fun u => hsh2.ty u (hC2.noTy (by decide)) (hC2.noTy (by decide))
  have eAt : ∀ {W : World}, Upd (BM pc mc) w2 W → Ext w W := fun u => ew2.step u hgp
  clear hsh3 hB3 hC4 hD5 hBb e15 e52 e5 e4 e3 eb e1
  -- the steps
  refine join_r (fun s' w' => ∃ (i : Nat) (tag : Nat → Nat) (vs : List Sl) (ms : List Int) (qs ws : List Sl) (ls : List (List Int)) (bc : Reg.Bk), i ≤ 30 ∧ ApO w2 w' pc mc tag s'.1 s'.2.1 s'.2.2.1 s'.2.2.2.1 vs ms qs ws ls i bc) ?_ ?_
  · refine sloop_r (fun s' w' => ∃ (i : Nat) (tag : Nat → Nat) (vs : List Sl) (ms : List Int) (qs ws : List Sl) (ls : List (List Int)) (bc : Reg.Bk), i ≤ 30 ∧ s'.2.2.2.2 = ((i : Int), ()) ∧ ApO w2 w' pc mc tag s'.1 s'.2.1 s'.2.2.1 s'.2.2.2.1 vs ms qs ws ls i bc) (fun s' _ => (30 - s'.2.2.2.2.1).toNat)
      ⟨0, fun _ => 0, [], [], [], [], [], bb, by omega, rfl, ⟨⟨SlOwn.nil _ _ _ _, Tg.nil, SlOwn.nil _ _ _ _, Tg.nil, SlOwn.nil _ _ _ _, Tg.nil, SlOwn.nil _ _ _ _, Tg.nil, rfl, rfl, rfl, (fun i x m h => by simp at h), (fun i x l _ h => by simp at h), (fun i x l h => by simp at h), (fun i l h => by simp at h)⟩, Upd.refl _ _, (fun _ _ => rfl), (fun _ _ => rfl), hC2.updZ (Ext.refl _) id id (fun _ h => h.elim) (fun k h => absurd rfl h), okb, rfl, rfl, hplt, hmlt⟩⟩ ?_
    rintro ⟨sh, mk, q, t, _⟩ w6 ⟨i, tag, vs, ms, qs, ws, ls, bc, hi, rfl, A⟩
    dsimp only at A ⊢
    have ei : IntKind.wrap .i64 ((i : Int) + 1) = ((i + 1 : Nat) : Int) := by rw [IntWalk.i64_in _ ⟨by omega, by omega⟩]; omega
    simp only [ei]
    refine join_at (decide (i < xs1.length ∧ i < 30), ()) (sif_r (fun h => ⟨tupb (by simp at h ⊢; omega), rfl⟩) (fun h => ⟨tupb (by simp at h ⊢; omega), rfl⟩)) (sif_r (fun hc => ?_) (fun _ => ⟨i, tag, vs, ms, qs, ws, ls, bc, hi, A⟩))
    have hc : i < xs1.length ∧ i < 30 := of_decide_eq_true hc
    obtain ⟨y, hy⟩ : ∃ y, xs1[i]? = some y := ⟨_, List.getElem?_eq_getElem hc.1⟩
    obtain ⟨l, hl, hl'⟩ := hs1.txt i y hy
    have e6 := eAt A.U
    refine ix_ldsX (cs := c55) (hs1.row.ext e6) (by decide) (by omega) (by simpa using hy) fun _ => ?_
    refine (St.start w6).newAgg rfl rfl rfl fun b18 w7 S e7 => ?_
    have n7 : w7.heap[b18]? = some (.cells (Cells.vals c55 y).toArray 55 (0, 0)) := S.at_ 0 rfl
    have hb18 : w6.heap.size ≤ b18 := S.ge 0 rfl
    have A7 := A.ext e7
    have t18 : tag b18 = 0 := A.hi _ hb18
    clear S
    -- the step is taken by the first copy
    refine join_r (fun _ w' => ∃ bc', ApO w2 w' pc mc tag sh mk q t vs ms qs ws ls i bc' ∧ w'.heap[b18]? = some (.cells (Cells.vals c55 y).toArray 55 (0, 0))) ?_ ?_
    · have hAt : ∀ {W : World}, Ext w7 W → Txt W y.2.2.2.2.1 l := fun e => hl.ext (e6.trans (e7.trans e))
      clear hy
      obtain ⟨y0, y1, nm, so, s5, ⟨⟩⟩ := y
      dsimp only at hAt
      have fin : ∀ {W W' : World} {bc' : Reg.Bk}, Ext w7 W → Upd (BM pc mc) W W' → BankIn W' pc mc (fun k => tag k ≠ 0) bc' → BkOk bc' → ∃ bc', ApO w2 W' pc mc tag sh mk q t vs ms qs ws ls i bc' ∧ W'.heap[b18]? = some (.cells (Cells.vals c55 (y0, y1, nm, so, s5, ())).toArray 55 (0, 0)) := fun e u hC ok =>
        ⟨_, (A7.ext e).bank u hC ok, u.get (e.ext_get n7) fun hk => (A7.ext e).C.noTy (t := 55) (by decide) _ hk _ _ (e.ext_get n7)⟩
      refine ld_r n7 (x := y0) rfl (sif_r (fun _ => ?_) (fun _ => sif_r (fun _ => ?_) (fun _ => sif_r (fun _ => ?_) (fun _ => ⟨bc, A7, n7⟩))))
      · refine drew_r fun w8 e8 _ => ?_
        have n8 := e8.ext_get n7
        refine ld_r n8 (x := nm) rfl (ld_r n8 (x := so) rfl (ld_r n8 (x := s5) rfl ?_))
        refine clone_r (hAt e8) (by omega) fun s9 w9 o9 e9 => ?_
        have e79 := e8.trans e9
        have n9 := e79.ext_get n7
        refine keep_r (cell_of n9 rfl) (keep_r (cell_of n9 rfl) ?_)
        exact yank_call (r := (so, s9, ())) (A7.ext e79).C o9.in hl' (A7.ext e79).hZ fun w10 hC10 u10 => fin e79 u10 hC10 (keepOk.yank _ _ _ _ A.ok)
      · refine drew_r fun w8 e8 _ => ?_
        have n8 := e8.ext_get n7
        refine ld_r n8 (x := nm) rfl (ld_r n8 (x := so) rfl (ld_r n8 (x := s5) rfl ?_))
        refine clone_r (hAt e8) (by omega) fun s9 w9 o9 e9 => ?_
        have e79 := e8.trans e9
        have n9 := e79.ext_get n7
        refine keep_r (cell_of n9 rfl) (keep_r (cell_of n9 rfl) ?_)
        exact delete_call (r := (so, s9, ())) (A7.ext e79).C o9.in hl' (A7.ext e79).hZ fun w10 hC10 u10 => fin e79 u10 hC10 (keepOk.del _ _ _ _ A.ok)
      · refine drew_r fun w8 e8 _ => ?_
        have n8 := e8.ext_get n7
        refine ld_r n8 (x := nm) rfl (ld_r n8 (x := s5) rfl ?_)
        refine clone_r (hAt e8) (by omega) fun s9 w9 o9 e9 => ?_
        have e79 := e8.trans e9
        have n9 := e79.ext_get n7
        refine keep_r (cell_of n9 rfl) ?_
        exact set_call (A7.ext e79).C o9.in hl' (A7.ext e79).hZ fun w10 hC10 u10 => fin e79 u10 hC10 (keepOk.set _ _ _ A.ok)
    rintro _ w8 ⟨bc8, A8, n8⟩
    clear A7 n7 A e6 hl hl' hy
    -- the first bank and the second copy show what they showed
    refine join_r (fun s' w' => s' = (false, ()) ∧ Ext w8 w') ?_ ?_
    · refine sameShown_call (bAt A8.U) (sAt A8.U) (fun _ => rfl) fun w9 e9 => sif_false ?_
      have u9 := A8.U.trans (Upd.of_ext e9)
      exact sameShown_call (dAt u9) (sAt u9) (fun _ => rfl) fun w10 e10 => ⟨rfl, e9.trans e10⟩
    rintro _ w9 ⟨rfl, e9⟩
    refine sif_false ?_
    have A9 := A8.ext e9
    have n9 := e9.ext_get n8
    refine shown_call A9.C fun sm sf xm w10 hm10 e10 => ?_
    have A10 := A9.ext e10
    have n10 := e10.ext_get n9
    have hsB : w2.heap.size ≤ w10.heap.size := A10.U.size
    have hsm : ∀ {W : World} {tag' : Nat → Nat}, Stays w10 tag W tag' (fun t => t ≠ 0) → ShownIn W w9.heap.size sm sf xm bc8 132 := fun st => hm10.old st.upd fun k hk _ => A9.hZ k hk
    have h18 : ∀ {W : World} {tag' : Nat → Nat}, Stays w10 tag W tag' (fun t => t ≠ 0) → W.heap[b18]? = some (.cells (Cells.vals c55 y).toArray 55 (0, 0)) := fun st => st.upd.get n10 fun h => h t18
    -- what is asked twice and left
    refine join_r (fun s' w' => ∃ (tag' : Nat → Nat) (qs' ws' : List Sl) (ls' : List (List Int)), ApI w2.heap.size w' tag' sh mk s'.1 s'.2.1 vs ms qs' ws' ls' 0 (4 * i) ∧ Stays w10 tag w' tag' (fun t => t ≠ 0) ∧ qs'.length = 8 * i + 8) ?_ ?_
    · refine sloop_r (fun s' w' => ∃ (k : Nat) (tag' : Nat → Nat) (qs' ws' : List Sl) (ls' : List (List Int)), k ≤ 2 ∧ s'.2.2 = ((k : Int), ()) ∧ ApI w2.heap.size w' tag' sh mk s'.1 s'.2.1 vs ms qs' ws' ls' 0 (4 * i) ∧ Stays w10 tag w' tag' (fun t => t ≠ 0) ∧ qs'.length = 8 * i + 4 * k) (fun s' _ => (2 - s'.2.2.1).toNat) ⟨0, tag, qs, ws, ls, by omega, rfl, A10.I, Stays.ext (Ext.refl _), A10.nq⟩ ?_
      rintro ⟨q1, t1, _⟩ w11 ⟨k, tag1, qs1, ws1, ls1, hk, rfl, I1, st1, hq1⟩
      dsimp only at I1 ⊢
      have ek : IntKind.wrap .i64 ((k : Int) + 1) = ((k + 1 : Nat) : Int) := by rw [IntWalk.i64_in _ ⟨by omega, by omega⟩]; omega
      simp only [ek]
      refine sif_r (fun hd => ?_) (fun hd => ⟨tag1, qs1, ws1, ls1, I1, st1, by have := of_decide_eq_false hd; omega⟩)
      have hd : k < 2 := by have := of_decide_eq_true hd; omega
      refine join_r (fun s' w' => ∃ (tag' : Nat → Nat) (qs' ws' : List Sl) (ls' : List (List Int)), ApI w2.heap.size w' tag' sh mk s'.1 s'.2.1 vs ms qs' ws' ls' 0 (4 * i) ∧ Stays w10 tag w' tag' (fun t => t ≠ 0) ∧ qs'.length = 8 * i + 4 * (k + 1)) ?_ (fun s' w' ⟨tag', qs', ws', ls', g1, g2, g3⟩ => ⟨⟨k + 1, tag', qs', ws', ls', hd, rfl, g1, g2, g3⟩, by omega⟩)
      obtain ⟨C1, U1, lo1⟩ := A10.bankS st1
      have hs1 := st1.upd.size
      refine asked1_r (h18 st1) (bAt U1) C1 fun b49 b52 r qq n1 k1 k2 w12 m1 m2 o_r hr o_q hn1 hn2 e12 => ?_
      refine asked2_r e12 m1 m2 o_r hr o_q hn1 hn2 (bAt (U1.trans (Upd.of_ext e12))) okb (C1.ext e12) A8.ok fun b57 ys l4 N w13 F e13 => ?_
      have hs13 := (e12.trans e13).size
      obtain ⟨tag4, ht4, ht57, hty⟩ := F.tags tag1 (fun j => 2 * (qs1.length + j) + 10)
      have I4 := I1.stays (bad := fun _ => False) ⟨Upd.of_ext (e12.trans e13), ht4⟩ (fun _ h => h.elim)
      have st4 : Stays w10 tag w13 tag4 (fun t => t ≠ 0) := st1.trans ⟨Upd.of_ext (e12.trans e13), ht4⟩
      have hF1 := F.ly
      have hF2 := F.ll
      refine sloop_r (fun s' w' => ∃ (j : Nat) (tag' : Nat → Nat) (ws' : List Sl), j ≤ 4 ∧ s'.2.2 = ((j : Int), ()) ∧ ApI w2.heap.size w' tag' sh mk s'.1 s'.2.1 vs ms (qs1 ++ ys.take j) ws' (ls1 ++ l4.take j) 0 (4 * i) ∧ Stays w13 tag4 w' tag' (fun t => t = 3 ∨ t = 4)) (fun s' _ => (4 - s'.2.2.1).toNat) ⟨0, tag4, ws1, by omega, rfl, by simpa using I4, Stays.ext (Ext.refl _)⟩ ?_
      rintro ⟨q5, t5, _⟩ w14 ⟨j, tag5, ws5, hj, rfl, I5, st5⟩
      dsimp only at I5 ⊢
      have ej : IntKind.wrap .i64 ((j : Int) + 1) = ((j + 1 : Nat) : Int) := by rw [IntWalk.i64_in _ ⟨by omega, by omega⟩]; omega
      simp only [ej]
      have hs14 := st5.upd.size
      refine sif_r (fun hg => ?_) (fun hg => ?_)
      · have hg : j < 4 := by have := of_decide_eq_true hg; omega
        obtain ⟨z, hz⟩ : ∃ z, ys[j]? = some z := ⟨_, List.getElem?_eq_getElem (by omega)⟩
        obtain ⟨lz, hlz⟩ : ∃ z, l4[j]? = some z := ⟨_, List.getElem?_eq_getElem (by omega)⟩
        refine box_ix (st5.upd.get F.box (by rw [ht57]; omega)) F.ly hz fun _ => ?_
        obtain ⟨oz, hzl, _⟩ := F.own j z lz hz hlz
        have gz := hty j z hz
        have hlen : (qs1 ++ ys.take j).length = qs1.length + j := by rw [List.length_append, List.length_take]; omega
        refine I5.quiet ((st5.own gz (by omega) oz).mono (by omega)) (by rw [hlen]; exact st5.tg gz) (Nat.zero_le _) hzl (by omega) (by omega) fun q6 t6 y6 w15 tag6 I6 st6 => ⟨⟨j + 1, tag6, ws5 ++ [y6], hg, rfl, ?_, st5.trans st6⟩, by omega⟩
        have e1 : ys.take (j + 1) = ys.take j ++ [z] := by rw [List.take_add_one, hz]; rfl
        have e2 : l4.take (j + 1) = l4.take j ++ [lz] := by rw [List.take_add_one, hlz]; rfl
        rw [e1, e2, ← List.append_assoc, ← List.append_assoc]
        exact I6
      · have hg : j = 4 := by have := of_decide_eq_false hg; omega
        subst hg
        rw [List.take_of_length_le (by omega), List.take_of_length_le (by omega)] at I5
        exact ⟨tag5, _, ws5, _, I5, st4.trans (st5.mono fun t h => by omega), by rw [List.length_append]; omega⟩
    rintro ⟨q1, t1, ⟨⟩⟩ w11 ⟨tag1, qs1, ws1, ls1, I1, st1, hq1⟩
    dsimp only at I1 ⊢
    -- what goes onto the shelf
    obtain ⟨C1, U1, lo1⟩ := A10.bankS st1
    have hs1 := st1.upd.size
    refine asked1_r (h18 st1) (bAt U1) C1 fun b49 b52 r qq n1 k1 k2 w12 m1 m2 o_r hr o_q hn1 hn2 e12 => ?_
    refine join_r (fun s' w' => ∃ (tag' : Nat → Nat) (vs' : List Sl) (ms' : List Int), ApI w2.heap.size w' tag' s'.1 s'.2.1 q1 t1 vs' ms' qs1 ws1 ls1 0 (4 * i + 4) ∧ Stays w10 tag w' tag' (fun t => t ≠ 0) ∧ vs'.length = 16 * i + 16) ?_ ?_
    · refine asked2_r e12 m1 m2 o_r hr o_q hn1 hn2 (bAt (U1.trans (Upd.of_ext e12))) okb (C1.ext e12) A8.ok fun b57 ys l4 N w13 F e13 => ?_
      have hs13 := (e12.trans e13).size
      obtain ⟨tag4, ht4, ht57, hty⟩ := F.tags tag1 (fun j => 2 * (4 * i + j) + 11)
      have I4 := I1.stays (bad := fun _ => False) ⟨Upd.of_ext (e12.trans e13), ht4⟩ (fun _ h => h.elim)
      have st4 : Stays w10 tag w13 tag4 (fun t => t ≠ 0) := st1.trans ⟨Upd.of_ext (e12.trans e13), ht4⟩
      have hF1 := F.ly
      have hF2 := F.ll
      have hv0 := A10.nv
      refine sloop_r (fun s' w' => ∃ (j : Nat) (tag' : Nat → Nat) (vs' : List Sl) (ms' : List Int), j ≤ 4 ∧ s'.2.2 = ((j : Int), ()) ∧ ApI w2.heap.size w' tag' s'.1 s'.2.1 q1 t1 vs' ms' qs1 ws1 ls1 0 (4 * i + j) ∧ Stays w13 tag4 w' tag' (fun t => t = 1 ∨ t = 2 ∨ (11 + 8 * i ≤ t ∧ t < 2 * (4 * i + j) + 11)) ∧ vs'.length = 16 * i + 4 * j) (fun s' _ => (4 - s'.2.2.1).toNat) ⟨0, tag4, vs, ms, by omega, rfl, I4, Stays.ext (Ext.refl _), hv0⟩ ?_
      rintro ⟨sh5, mk5, _⟩ w14 ⟨j, tag5, vs5, ms5, hj, rfl, I5, st5, hv5⟩
      dsimp only at I5 ⊢
      have ej : IntKind.wrap .i64 ((j : Int) + 1) = ((j + 1 : Nat) : Int) := by rw [IntWalk.i64_in _ ⟨by omega, by omega⟩]; omega
      simp only [ej]
      have hs14 := st5.upd.size
      refine sif_r (fun hg => ?_) (fun hg => ?_)
      · have hg : j < 4 := by have := of_decide_eq_true hg; omega
        obtain ⟨z, hz⟩ : ∃ z, ys[j]? = some z := ⟨_, List.getElem?_eq_getElem (by omega)⟩
        obtain ⟨lz, hlz⟩ : ∃ z, l4[j]? = some z := ⟨_, List.getElem?_eq_getElem (by omega)⟩
        refine box_ix (st5.upd.get F.box (by rw [ht57]; omega)) F.ly hz fun _ => ?_
        obtain ⟨oz, hzl, _⟩ := F.own j z lz hz hlz
        have gz := hty j z hz
        refine I5.shelf (tx := 2 * (4 * i + j) + 11) (n' := 0) (v' := 4 * i + (j + 1)) ((st5.own gz (by omega) oz).mono (by omega)) (st5.tg gz) (.inl ⟨rfl, rfl, by omega⟩) hzl (by omega) (by omega) fun sh6 mk6 ys6 w15 tag6 I6 hy6 st6 => ⟨⟨j + 1, tag6, _, _, hg, rfl, I6, (st5.mono fun t h => by omega).trans (st6.mono fun t h => by omega), by rw [List.length_append, hy6]; omega⟩, by omega⟩
      · have hg : j = 4 := by have := of_decide_eq_false hg; omega
        subst hg
        exact ⟨tag5, vs5, ms5, I5, st4.trans (st5.mono fun t h => by omega), by omega⟩
    rintro ⟨sh2, mk2, ⟨⟩⟩ w13 ⟨tag2, vs2, ms2, I2, st2, hv2⟩
    dsimp only at I2 ⊢
    obtain ⟨C2, U2, lo2⟩ := A10.bankS st2
    refine join_r (fun s' w' => s' = (false, ()) ∧ Ext w13 w') ?_ ?_
    · refine sameShown_call C2 (hsm st2) (fun _ => rfl) fun w14 e14 => sif_false ?_
      have u14 := U2.trans (Upd.of_ext e14)
      refine sameShown_call (bAt u14) (sAt u14) (fun _ => rfl) fun w15 e15 => sif_false ?_
      have e135 := e14.trans e15
      refine whole_call (I2.row.ext e135) (I2.mks.ext e135) I2.lv (by omega) (fun i x m hx hm => let ⟨a, _, d⟩ := I2.vt i x m hx hm; ⟨a.ext e135, d⟩) fun w16 e16 => ⟨rfl, e135.trans e16⟩
    rintro _ w14 ⟨rfl, e14⟩
    have st14 : Stays w13 tag2 w14 (rtg tag2 w13.heap.size 0) (fun _ => False) := Stays.re (Stays.ext e14) (Nat.le_refl _)
    have st15 := st2.trans (st14.mono fun _ h => h.elim)
    obtain ⟨C3, U3, lo3⟩ := A10.bankS st15
    refine sif_false ⟨⟨i + 1, _, vs2, ms2, qs1, ws1, ls1, bc8, hc.2, rfl, I2.stays st14 (fun _ h => h.elim), U3, lo3, fun k hk => rtg_ge (Nat.le_trans e14.size hk), C3, A8.ok, by omega, by omega, hplt, hmlt⟩, by omega⟩
  -- behind the steps
  rintro ⟨sh, mk, q, t, ⟨⟩⟩ w6 ⟨i, tag, vs, ms, qs, ws, ls, bc, hi, A⟩
  dsimp only at A ⊢
  have hql := A.I.qr.len1
  have hwl := A.I.wr.len1
  rw [List.length_map] at hql hwl
  have hlq := A.I.lq
  have hlw := A.I.lw
  have hnq := A.nq
  have hnv := A.nv
  refine join_r (fun _ w' => Ext w6 w') ?_ ?_
  · refine sloop_r (fun s' w' => ∃ n : Nat, n ≤ qs.length ∧ s' = ((n : Int), ()) ∧ Ext w6 w') (fun s' _ => (qs.length - s'.1).toNat) ⟨0, by omega, rfl, Ext.refl _⟩ ?_
    rintro _ w7 ⟨n, hn, rfl, e7⟩
    dsimp only
    have en : IntKind.wrap .i64 ((n : Int) + 1) = ((n + 1 : Nat) : Int) := by rw [IntWalk.i64_in _ ⟨by omega, by omega⟩]; omega
    simp only [en]
    refine sif_r (fun hc => ?_) (fun _ => e7)
    have hc : n < qs.length := by have := of_decide_eq_true hc; omega
    refine drew_r fun w8 e8 _ => ?_
    have e68 := e7.trans e8
    obtain ⟨x, hx⟩ : ∃ x, qs[n]? = some x := ⟨_, List.getElem?_eq_getElem hc⟩
    obtain ⟨z, hz⟩ : ∃ x, ws[n]? = some x := ⟨_, List.getElem?_eq_getElem (by omega)⟩
    obtain ⟨l, hl⟩ : ∃ x, ls[n]? = some x := ⟨_, List.getElem?_eq_getElem (by omega)⟩
    refine ix_ld (c := .sl) (xs := qs) (x := x) (A.I.qr.in.ext e68) (by omega) (by simpa using hx) fun _ => ?_
    refine ix_ld (c := .sl) (xs := ws) (x := z) (A.I.wr.in.ext e68) (by omega) (by simpa using hz) fun _ => ?_
    have h1 := (A.I.qt n x l (Nat.zero_le _) hx hl).1
    have h2 := (A.I.wt n z l hz hl).1
    have h3 := A.I.lim n l hl
    refine sameInts_call (h1.in.ext e68).x (h2.ext e68).x (by omega) fun w9 e9 => ?_
    rw [decide_eq_true rfl]
    exact sif_false ⟨⟨n + 1, hc, rfl, e68.trans e9⟩, by omega⟩
  rintro _ w7 e7
  have A7 := A.ext e7
  refine join_r (fun s' w' => ∃ (tag' : Nat → Nat) (vs' : List Sl) (ms' : List Int) (n : Nat), ApI w2.heap.size w' tag' s'.1 s'.2.1 q t vs' ms' qs ws ls n (4 * i) ∧ Stays w7 tag w' tag' (fun t => t ≠ 0) ∧ vs'.length ≤ 4000) ?_ ?_
  · refine sloop_r (fun s' w' => ∃ (n : Nat) (tag' : Nat → Nat) (vs' : List Sl) (ms' : List Int), n ≤ qs.length ∧ s'.2.2 = ((n : Int), ()) ∧ ApI w2.heap.size w' tag' s'.1 s'.2.1 q t vs' ms' qs ws ls n (4 * i) ∧ Stays w7 tag w' tag' (fun t => t ≠ 0) ∧ vs'.length = 16 * i + 4 * n) (fun s' _ => (qs.length - s'.2.2.1).toNat) ⟨0, tag, vs, ms, by omega, rfl, A7.I, Stays.ext (Ext.refl _), hnv⟩ ?_
    rintro ⟨sh5, mk5, _⟩ w8 ⟨n, tag5, vs5, ms5, hn, rfl, I5, st5, hv5⟩
    dsimp only at I5 ⊢
    have en : IntKind.wrap .i64 ((n : Int) + 1) = ((n + 1 : Nat) : Int) := by rw [IntWalk.i64_in _ ⟨by omega, by omega⟩]; omega
    simp only [en]
    refine sif_r (fun hc => ?_) (fun _ => ⟨tag5, vs5, ms5, n, I5, st5, by omega⟩)
    have hc : n < qs.length := by have := of_decide_eq_true hc; omega
    obtain ⟨x, hx⟩ : ∃ x, qs[n]? = some x := ⟨_, List.getElem?_eq_getElem hc⟩
    obtain ⟨l, hl⟩ : ∃ x, ls[n]? = some x := ⟨_, List.getElem?_eq_getElem (by omega)⟩
    refine ix_ld (c := .sl) (xs := qs) (x := x) I5.qr.in (by omega) (by simpa using hx) fun _ => ?_
    obtain ⟨o1, g1⟩ := I5.qt n x l (Nat.le_refl _) hx hl
    have h3 := I5.lim n l hl
    have hsz1 := A7.U.size
    have hsz2 := st5.upd.size
    exact I5.shelf (tx := 2 * n + 10) (n' := n + 1) (v' := 4 * i) o1 g1 (.inr ⟨rfl, rfl, rfl⟩) h3 (by omega) (by omega) fun sh6 mk6 ys6 w15 tag6 I6 hy6 st6 => ⟨⟨n + 1, tag6, _, _, hc, rfl, I6, st5.trans (st6.mono fun t h => by omega), by rw [List.length_append, hy6]; omega⟩, by omega⟩
  rintro ⟨sh2, mk2, ⟨⟩⟩ w8 ⟨tag2, vs2, ms2, n, I2, st2, hv2⟩
  dsimp only at I2 ⊢
  obtain ⟨_, U2, _⟩ := A7.bankS st2
  refine whole_call I2.row I2.mks I2.lv (by omega) (fun i x m hx hm => let ⟨a, _, d⟩ := I2.vt i x m hx hm; ⟨a, d⟩) fun w9 e9 => sif_true ?_
  have u9 := U2.trans (Upd.of_ext e9)
  refine sameShown_call (bAt u9) (sAt u9) (fun _ => rfl) fun w10 e10 => sif_true ?_
  have u10 := u9.trans (Upd.of_ext e10)
  exact sameShown_call (dAt u10) (sAt u10) (fun _ => rfl) fun w11 e11 => hK w11 (eAt (u10.trans (Upd.of_ext e11)))
end
end Go.Proofs.Ytocdfkeflakemaa
