/- The law holds for every input: it returns true, and each argument reads behind the call as it did. Conditions: those of the form alone. -/
import Derived.Test.YtolhlldgnfbemaaGreatMSt4
set_option linter.unusedVariables false
set_option linter.unusedSimpArgs false
set_option linter.unusedSectionVars false
set_option maxRecDepth 100000
namespace Go.Proofs.YtolhlldgnfbemaaGreat
open Go Go.Vx Cdc Trx
section
variable {w w' W W' : World} {S : Nat → Prop} {p : Nat} {e : Enc} {lim na : Nat} {O : Nat → Prop} {M : Parts}
theorem nn_eqT {a : Addr} {K : Addr → World → Prop} : nn (some a) K = K a := funext fun _ => propext nn_some_iff
abbrev txO (e : Enc) (lim : Nat) (tp : Option Addr) (a : Sl) : Obj := .cells #[.int .i64 e.num, .int .i64 (lim : Int), .pointer tp, .slice a.a a.len a.cap] 86 (0, 0)
abbrev frLs (p b1 b2 b6 b7 : Nat) (ps : Sl) (f n : Nat) : List (Nat × Obj) := [(b7, .cells #[.int .i64 (n : Int)] 3 (0, 0)), (b6, .cells #[.int .i64 (f : Int)] 3 (0, 0)), (b2, .cells #[.slice ps.a ps.len ps.cap] 87 (0, 0)), (b1, .cells #[.pointer (some (at0 p))] 27 (0, 0))]
structure FrI (w W : World) (p : Nat) (e : Enc) (lim : Nat) (tp : Option Addr) (a0 : Sl) (b1 b2 b6 b7 : Nat) (a ps : Sl) (ab cb : Bs) (pl : List Pc) (M' : Parts) (n : Nat) : Prop where
 st : St (fun k => k = p ∨ a0.blk k) w W (frLs p b1 b2 b6 b7 ps (ab.length - cb.length) n)
 tx : W.heap[p]? = some (txO e lim tp a)
 own : SlOwn W 0 a 5 1 (bv ab)
 suf : ∃ x, ab = x ++ cb
 row : SlOwn W w.heap.size ps 93 7 (flat c93 (pl.map pcT))
 its : Its W e pl M'
 tops : ∀ x ∈ pl, ∀ k, x.bytes.blk k → a.blk k → top x.bytes ≤ top a
 pblk : ∀ x ∈ pl, ∀ k, x.bytes.blk k → a0.blk k ∨ w.heap.size ≤ k
 ablk : ∀ k, a.blk k → a0.blk k ∨ w.heap.size ≤ k
 old : Old w W a0 a
 cnt : pl.length + cb.length ≤ ab.length
variable {tp : Option Addr} {a0 a ps : Sl} {b1 b2 b6 b7 n : Nat} {ab cb : Bs} {pl : List Pc} {M' : Parts}
theorem FrI.ext (h : FrI w W p e lim tp a0 b1 b2 b6 b7 a ps ab cb pl M' n) (x : Ext W W') : FrI w W' p e lim tp a0 b1 b2 b6 b7 a ps ab cb pl M' n :=
 ⟨h.st.ext x, x.ext_get h.tx, h.own.ext x, h.suf, h.row.ext x, h.its.ext x, h.tops, h.pblk, h.ablk, h.old.ty x (no_ext _ _), h.cnt⟩
set_option maxHeartbeats 1000000 in
theorem shut_x {K : Unit → World → Prop} (h : FrI w W p e lim tp a0 b1 b2 b6 b7 a ps ab cb pl M' n) (hab : ab.length < 2 ^ 40)
  (hK : ∀ ps' pl' M'' n' W', FrI w W' p e lim tp a0 b1 b2 b6 b7 a ps' ab [] pl' M'' n' → aOf e M'' = aOf e M' ++ ats e cb → n' ≤ n → W.heap.size ≤ W'.heap.size → K () W') :
  callX Tryz.prog (do let d ← Deferred.ofValue (.func (.func 145) #[] #[.pointer (some (at0 b1)), .pointer (some (at0 b6)), .pointer (some (at0 b2)), .pointer (some (at0 b7))]) #[]; invoke d.target d.args : Sem Next) (.tup []) K W := by
 refine func_x (caps := #[.pointer (some (at0 b1)), .pointer (some (at0 b6)), .pointer (some (at0 b2)), .pointer (some (at0 b7))]) (by kernel_rfl) ?_
 refine F145_calls ?_
 unfold F145
 have hlen : ab.length = a.len := by have := h.own.len1; rwa [List.length_map] at this
 have hcl : cb.length ≤ ab.length := by obtain ⟨x, hx⟩ := h.suf; rw [hx]; simp
 have S0 := h.st
 refine S0.ld 3 rfl (x := some (at0 p)) rfl ?_
 simp only [nn_eqT, addr_add]
 refine ld_r h.tx (x := a) rfl (S0.ld 1 rfl (x := ((ab.length - cb.length : Nat) : Int)) rfl (sif_r (fun hc => ?_) (fun hc => ?_)))
 ·simp only [decide_eq_true_eq, gt_iff_lt] at hc
  have hcb : 0 < cb.length := by omega
  refine S0.drew fun W1 S1 e1 _ => ?_
  have h1 := h.ext e1
  refine S1.ld 2 rfl (x := ps) rfl (S1.ld 3 rfl (x := some (at0 p)) rfl ?_)
  simp only [nn_eqT, addr_add]
  refine ld_r h1.tx (x := e.num) rfl (S1.ld 3 rfl (x := some (at0 p)) rfl ?_)
  simp only [nn_eqT, addr_add]
  refine ld_r h1.tx (x := a) rfl (S1.ld 1 rfl (x := ((ab.length - cb.length : Nat) : Int)) rfl ?_)
  have hcap := h.own.in.le
  refine chk_r (by omega) ?_
  have hB1 : By W1 a ab := h1.own.in
  have c1 := hB1.cut (l := ((ab.length - cb.length : Nat) : Int)) (h := (a.len : Int)) (m := (a.len : Int)) (by omega) (by omega) (by omega) (by omega) (by omega)
  have d1 : (ab.drop ((ab.length - cb.length : Nat) : Int).toNat).take ((a.len : Int).toNat - ((ab.length - cb.length : Nat) : Int).toNat) = cb := by
   obtain ⟨x, hx⟩ := h.suf
   rw [Int.toNat_natCast, Int.toNat_natCast, List.take_of_length_le (by rw [List.length_drop]; omega)]
   have : ab.length - cb.length = x.length := by rw [hx]; simp
   rw [this, hx, List.drop_left]
  rw [d1] at c1
  have ct := cut_top hB1 (l := ((ab.length - cb.length : Nat) : Int)) (h := (a.len : Int)) (m := (a.len : Int)) (by omega) (by omega) (by omega)
  have cbk := fun k => cut_blk (s := a) (l := ((ab.length - cb.length : Nat) : Int)) (h := (a.len : Int)) (m := (a.len : Int)) (k := k)
  generalize Sl.cut a.a ((ab.length - cb.length : Nat) : Int) (a.len : Int) (a.len : Int) 1 = y at *
  refine newpart_call c1 (by omega) fun W2 e2 => ?_
  have h2 := h1.ext e2
  have S2 := h2.st
  refine S2.keep 2 rfl (v := .slice ps.a ps.len ps.cap) rfl ?_
  refine newO_r fun b15 W3 e3 n3 hb15 hz3 => ?_
  have h3 := h2.ext e3
  have S3 := h3.st
  refine S3.keep 2 rfl (v := .slice ps.a ps.len ps.cap) rfl ?_
  have hbox : SlX W3 ⟨some (at0 b15), 1, 1⟩ 7 (flat c93 [pcT (mkPc e y (-1) cb)]) := (SlIn.of_box n3 (n := 1) (sz := 7) rfl).x
  have hrl := SlOwn.lenR (cs := c93) h3.row (by decide)
  rw [List.length_map] at hrl
  have hcnt := h.cnt
  refine append_rx eParts eParts.ts_ (x := ⟨some (at0 b15), 1, 1⟩) h3.row hbox (Pc_one _) (by
   show (ps.len + 1 + (ps.len + 1) / 4 + 512) * 64 ≤ 2 ^ 48
   omega) (by have := S3.upd.size; omega) fun ps' W4 o4 l4 u4 k4 => ?_
  have nb4 : NoTy W3 ps.blk 5 := NoTy.blk h3.row.in (by decide)
  have nt4 : NoTy W3 ps.blk 86 := NoTy.blk h3.row.in (by decide)
  have e4 : flat c93 (pl.map pcT) ++ flat c93 [pcT (mkPc e y (-1) cb)] = flat c93 ((pl ++ [mkPc e y (-1) cb]).map pcT) := by rw [List.map_append, flat_append]; rfl
  rw [e4] at o4
  have tx4 : W4.heap[p]? = some (txO e lim tp a) := u4.get h3.tx fun hk => nt4 _ hk _ _ h3.tx
  have own4 := h3.own.ty u4 nb4
  have st4 : St (fun k => k = p ∨ a0.blk k) w W4 (frLs p b1 b2 b6 b7 ps (ab.length - cb.length) n) := S3.fresh u4 (fun k hk => .inr (h3.row.blk_ge hk)) (fun x hx hk => by
   obtain ⟨c, fr, hc'⟩ := h3.row.in.blk_cells hk
   have hl := (S3.loc x hx).1
   rw [hc'] at hl
   simp only [frLs, List.mem_cons, List.not_mem_nil, or_false] at hx
   rcases hx with rfl | rfl | rfl | rfl <;> cases hl)
  have its4 : Its W4 e (pl ++ [mkPc e y (-1) cb]) (M' ++ [(-1, cb)]) := by
   refine Its.app (h3.its.ty u4 nb4) ⟨⟨?_, rfl, rfl, ?_, Int.le_refl _, ?_⟩, trivial⟩
   ·exact ((c1.ext e2).ext e3).ty u4 nb4
   ·intro hn
    replace hn : cb = [] := hn
    rw [hn] at hcb; simp at hcb
   ·show (-1 : Int) + (cb.length : Int) ≤ 2 ^ 40; omega
  have old4 := h3.old.ty u4 nb4
  refine st4.stC 2 rfl (by show 0 < 1; decide) fun W5 S5 u5 => S5.stC 1 rfl (by show 0 < 1; decide) fun W6 S6 u6 => S6.stC 0 rfl (by show 0 < 1; decide) fun W7 S7 u7 => ?_
  have g2 : W4.heap[b2]? = some (.cells #[.slice ps.a ps.len ps.cap] 87 (0, 0)) := st4.at_ 2 rfl
  have g6 : W5.heap[b6]? = some (.cells #[.int .i64 ((ab.length - cb.length : Nat) : Int)] 3 (0, 0)) := S5.at_ 1 rfl
  have g7 : W6.heap[b7]? = some (.cells #[.int .i64 (n : Int)] 3 (0, 0)) := S6.at_ 0 rfl
  have tx5 : W5.heap[p]? = some (txO e lim tp a) := u5.get tx4 (fun hk => NoTy.box g2 (by decide) _ hk _ _ tx4)
  have tx6 : W6.heap[p]? = some (txO e lim tp a) := u6.get tx5 (fun hk => NoTy.box g6 (by decide) _ hk _ _ tx5)
  have tx7 : W7.heap[p]? = some (txO e lim tp a) := u7.get tx6 (fun hk => NoTy.box g7 (by decide) _ hk _ _ tx6)
  have hts : ∀ x ∈ pl ++ [mkPc e y (-1) cb], ∀ k, x.bytes.blk k → a.blk k → top x.bytes ≤ top a := by
   intro x hx
   rcases List.mem_append.1 hx with hx | hx
   ·exact h.tops x hx
   ·rw [List.mem_singleton.1 hx]; intro k _ _; exact ct
  have hpb : ∀ x ∈ pl ++ [mkPc e y (-1) cb], ∀ k, x.bytes.blk k → a0.blk k ∨ w.heap.size ≤ k := by
   intro x hx
   rcases List.mem_append.1 hx with hx | hx
   ·exact h.pblk x hx
   ·rw [List.mem_singleton.1 hx]; intro k hk; exact h.ablk k (cbk k hk)
  refine hK ps' (pl ++ [mkPc e y (-1) cb]) (M' ++ [(-1, cb)]) 0 W7 ⟨?_, tx7, ?_, ⟨ab, by simp⟩, ?_, ?_, hts, hpb, h.ablk, ?_, ?_⟩ ?_ (Nat.zero_le _) ?_
  ·have e0 : ((a.len : Nat) : Int) = ((ab.length - ([] : Bs).length : Nat) : Int) := by simp; omega
   rw [e0] at S7
   exact S7
  ·exact ((own4.box g2 (by decide) u5).box g6 (by decide) u6).box g7 (by decide) u7
  ·exact ((o4.box g2 (by decide) u5).box g6 (by decide) u6).box g7 (by decide) u7
  ·exact ((its4.ty u5 (NoTy.box g2 (by decide))).ty u6 (NoTy.box g6 (by decide))).ty u7 (NoTy.box g7 (by decide))
  ·exact ((old4.ty u5 (NoTy.box g2 (by decide))).ty u6 (NoTy.box g6 (by decide))).ty u7 (NoTy.box g7 (by decide))
  ·simp; omega
  ·rw [aOf_app]; simp [aOf]
  ·have := e1.size; have := e2.size; have := e3.size; have := u4.size; have := u5.size; have := u6.size; have := u7.size; omega
 ·simp only [decide_eq_false_iff_not, gt_iff_lt] at hc
  have hcb : cb = [] := List.length_eq_zero_iff.1 (by omega)
  subst hcb
  exact hK ps pl M' n W h (by rw [ats_nil, List.append_nil]) (Nat.le_refl _) (Nat.le_refl _)
theorem Old.trans {w W W' : World} {a0 a a' : Sl} (h : Old w W a0 a) (h' : Old W W' a a') : Old w W' a0 a' := fun y b hy ht => h' y b (h y b hy ht).1 (h y b hy ht).2
set_option maxHeartbeats 1000000 in
theorem fresh_call {s : Sl} {t : TypeId} {put : List Int} (hs : SlIn w s t 1 (iv put)) (hsep : ∀ k, s.blk k → k ≠ p ∧ ¬ a0.blk k) (hfit : Fits e put) (tx : w.heap[p]? = some (txO e lim tp a0)) (own : SlOwn w 0 a0 5 1 (bv ab)) (hab : ab.length + (bts e put).length < 2 ^ 40) (hput : put.length < 2 ^ 40) {K : Sl → World → Prop}
  (hK : ∀ ps a pl M' W, W.heap[p]? = some (txO e lim tp a) → SlOwn W 0 a 5 1 (bv (ab ++ bts e put)) → SlOwn W w.heap.size ps 93 7 (flat c93 (pl.map pcT)) → Its W e pl M' → aOf e M' = prs e put → (∀ x ∈ pl, ∀ k, x.bytes.blk k → a.blk k → top x.bytes ≤ top a) →
   (∀ x ∈ pl, ∀ k, x.bytes.blk k → a0.blk k ∨ w.heap.size ≤ k) → (∀ k, a.blk k → a0.blk k ∨ w.heap.size ≤ k) → Old w W a0 a → Upd (fun k => k = p ∨ a0.blk k) w W → pl.length ≤ ab.length + (bts e put).length → K ps W) :
  callT Tryz.prog 110 #[.pointer (some (at0 p)), .slice s.a s.len s.cap] (.one (.one .sl)) K w := by
 refine F110_calls ?_
 unfold F110
 have hlen : put.length = s.len := by have := hs.len1; rwa [List.length_map] at this
 have hal : ab.length = a0.len := by have := own.len1; rwa [List.length_map] at this
 have hpw := lt_of_heap tx
 refine (St.startM (fun k => k = p ∨ a0.blk k) w (fun k hk => hk.elim (fun h => h ▸ hpw) fun h => own.in.blk_lt h)).newO fun b1 w1 S1 e1 => S1.newO fun b2 w2 S2 e2 => S2.ld 1 rfl (x := some (at0 p)) rfl ?_
 simp only [nn_eqT, addr_add]
 have x2 := e1.trans e2
 refine ld_r (x2.ext_get tx) (x := a0) rfl (S2.newO fun b6 w3 S3 e3 => S3.stC 0 rfl (by show 0 < 1; decide) fun w4 S4 u4 => S4.newO fun b7 w5 S5 e5 => S5.stC 0 rfl (by show 0 < 1; decide) fun w6 S6 u6 => ?_)
 have g6 : w3.heap[b6]? = some (.cells #[.int .i64 0] 3 (0, 0)) := S3.at_ 0 rfl
 have g7 : w5.heap[b7]? = some (.cells #[.int .i64 0] 3 (0, 0)) := S5.at_ 0 rfl
 have x3 := x2.trans e3
 have F0 : FrI w w6 p e lim tp a0 b1 b2 b6 b7 a0 ⟨none, 0, 0⟩ ab [] [] [] 0 := by
  refine ⟨?_, ?_, ?_, ⟨ab, by simp⟩, SlOwn.nil _ _ _ _, trivial, (fun x hx => by cases hx), (fun x hx => by cases hx), fun k hk => .inl hk, ?_, by simp⟩
  ·have e0 : ((a0.len : Nat) : Int) = ((ab.length - ([] : Bs).length : Nat) : Int) := by simp; omega
   rw [e0] at S6
   exact S6
  ·have t3 := x3.ext_get tx
   have t4 : w4.heap[p]? = some (txO e lim tp a0) := u4.get t3 (fun hk => NoTy.box g6 (by decide) _ hk _ _ t3)
   have t5 := e5.ext_get t4
   exact u6.get t5 (fun hk => NoTy.box g7 (by decide) _ hk _ _ t5)
  ·exact (((own.ext x3).box g6 (by decide) u4).ext e5).box g7 (by decide) u6
  ·exact ((((Old.refl w a0).ty x3 (no_ext _ _)).ty u4 (NoTy.box g6 (by decide))).ty e5 (no_ext _ _)).ty u6 (NoTy.box g7 (by decide))
 clear S1 S2 S3 S4 S5 S6
 have tkl : ∀ i j : Nat, j ≤ i → (bts e ((put.take i).drop j)).length ≤ (bts e put).length := by
  intro i j _
  have : put = put.take i ++ put.drop i := (List.take_append_drop i put).symm
  have h2 : put.take i = (put.take i).take j ++ (put.take i).drop j := (List.take_append_drop j _).symm
  have h3 : (bts e put).length = (bts e (put.take i)).length + (bts e (put.drop i)).length := by conv => lhs; rw [this]; rw [bts_app, List.length_append]
  have h4 : (bts e (put.take i)).length = (bts e ((put.take i).take j)).length + (bts e ((put.take i).drop j)).length := by conv => lhs; rw [h2]; rw [bts_app, List.length_append]
  omega
 have abl : ∀ i, (ab ++ bts e (put.take i)).length < 2 ^ 40 := fun i => by have := tkl i 0 (Nat.zero_le _); rw [List.length_append]; simp only [List.drop_zero] at this; omega
 have fit2 : ∀ i j, Fits e ((put.take i).drop j) := fun i j x hx => hfit x (List.mem_of_mem_take (List.mem_of_mem_drop hx))
 have glue : ∀ i j, Run ((put.take i).drop j) → prs e ((put.take i).take j) ++ ats e (bts e ((put.take i).drop j)) = prs e (put.take i) := fun i j hr => by
  rw [ats_run (fit2 i j) hr]; unfold prs; rw [← List.map_append, List.take_append_drop]
 have shut : ∀ {a ps i j pl M' n} {W : World} {K : Unit → World → Prop}, Run ((put.take i).drop j) → j ≤ i → FrI w W p e lim tp a0 b1 b2 b6 b7 a ps (ab ++ bts e (put.take i)) (bts e ((put.take i).drop j)) pl M' n → aOf e M' = prs e ((put.take i).take j) → (∀ ps' pl' M'' n' W', FrI w W' p e lim tp a0 b1 b2 b6 b7 a ps' (ab ++ bts e (put.take i)) [] pl' M'' n' → aOf e M'' = prs e (put.take i) → n' ≤ n → K () W') →
   callX Tryz.prog (do let d ← Deferred.ofValue (.func (.func 145) #[] #[.pointer (some (at0 b1)), .pointer (some (at0 b6)), .pointer (some (at0 b2)), .pointer (some (at0 b7))]) #[]; invoke d.target d.args : Sem Next) (.tup []) K W := by
  intro a ps i j pl M' n W K hr hj F hM hK
  exact shut_x F (abl i) fun ps' pl' M'' n' W' F' hM' hn _ => hK ps' pl' M'' n' W' F' (by rw [hM', hM, glue _ _ hr]) hn
 refine join_r (fun _ W => ∃ a ps pl M' n j, j ≤ put.length ∧ (∀ x ∈ (put.take put.length).drop j, Scalar x) ∧ FrI w W p e lim tp a0 b1 b2 b6 b7 a ps (ab ++ bts e (put.take put.length)) (bts e ((put.take put.length).drop j)) pl M' n ∧ aOf e M' = prs e ((put.take put.length).take j)) ?_ ?_
 ·refine sloop_r (fun x W => ∃ a ps pl M' n i j, x = (((i : Nat) : Int), ()) ∧ i ≤ put.length ∧ j ≤ i ∧ n ≤ i ∧ (∀ x ∈ (put.take i).drop j, Scalar x) ∧ FrI w W p e lim tp a0 b1 b2 b6 b7 a ps (ab ++ bts e (put.take i)) (bts e ((put.take i).drop j)) pl M' n ∧ aOf e M' = prs e ((put.take i).take j)) (fun x _ => ((put.length : Int) - x.1).toNat) ⟨a0, ⟨none, 0, 0⟩, [], [], 0, 0, 0, rfl, Nat.zero_le _, Nat.le_refl _, Nat.le_refl _, (fun x hx => by simp at hx), by simpa [bts] using F0, by simp [aOf, prs]⟩ ?_
  rintro _ W ⟨a, ps, pl, M', n, i, j, rfl, hi, hj, hn, hsc, F, hM⟩
  refine sif_r (fun hc => ?_) (fun hc => ?_)
  ·simp only [decide_eq_true_eq] at hc
   obtain ⟨v, hv⟩ : ∃ v, put[i]? = some v := ⟨_, List.getElem?_eq_getElem (by omega)⟩
   have hf := hfit v (List.mem_of_getElem? hv)
   have ew : IntKind.wrap .i64 ((i : Int) + 1) = ((i + 1 : Nat) : Int) := by rw [wrap64 (by omega) (by omega)]; omega
   dsimp only
   rw [ew]
   refine join_r (fun _ W => ∃ a ps pl M' n j, j ≤ i + 1 ∧ n ≤ i + 1 ∧ (∀ x ∈ (put.take (i + 1)).drop j, Scalar x) ∧ FrI w W p e lim tp a0 b1 b2 b6 b7 a ps (ab ++ bts e (put.take (i + 1))) (bts e ((put.take (i + 1)).drop j)) pl M' n ∧ aOf e M' = prs e ((put.take (i + 1)).take j)) ?_ ?_
   ·have hsW : SlIn W s t 1 (iv put) := hs.upd F.st.upd fun k hk hSk => by
     have := hsep k hk
     rcases hSk with h | h
     ·exact this.1 h
     ·exact this.2 h
    refine ix_ld (c := .int .i64) (xs := put) hsW (by omega) (x := v) (by rw [Int.toNat_natCast]; exact hv) fun q => ?_
    have hsv := scalar_iff hf
    obtain ⟨sc, hsc'⟩ : ∃ sc : Bool, sc = decide (0 ≤ v ∧ (v < 55296 ∨ 57343 < v)) := ⟨_, rfl⟩
    have hsv : sc = true ↔ Scalar v := by rw [hsc', hsv, decide_eq_true_eq]
    refine join_r (fun x W' => x = (sc, ()) ∧ W = W') ?_ ?_
    ·refine sif_r (fun h1 => sif_r (fun h2 => ⟨tupb ?_, rfl⟩) (fun h2 => ⟨tupb ?_, rfl⟩)) (fun h1 => ⟨tupb ?_, rfl⟩)
     all_goals simp only [hsc', decide_eq_true_eq, decide_eq_false_iff_not, gt_iff_lt, ge_iff_le, true_iff, Bool.false_eq_true, false_iff] at *
     all_goals omega
    rintro _ _ ⟨rfl, rfl⟩
    refine join_r (fun _ W => ∃ ps pl M' n j, j ≤ i ∧ n ≤ i ∧ (∀ x ∈ (put.take i).drop j, Scalar x) ∧ (sc = false → j = i) ∧ FrI w W p e lim tp a0 b1 b2 b6 b7 a ps (ab ++ bts e (put.take i)) (bts e ((put.take i).drop j)) pl M' n ∧ aOf e M' = prs e ((put.take i).take j)) ?_ ?_
    ·refine join_r (fun x W' => x = ((!sc || decide (n = 128)), ()) ∧ W = W') ?_ ?_
     ·refine sif_r (fun h1 => ⟨tupb ?_, rfl⟩) (fun h1 => F.st.ld 0 rfl (x := (n : Int)) rfl ⟨tupb ?_, rfl⟩)
      ·have h1 : (!sc) = true := h1
       rw [h1]; simp
      ·have h1 : (!sc) = false := h1
       rw [h1, Bool.false_or]
       simp only [beq_iff_eq, decide_eq_true_eq]; omega
     rintro _ _ ⟨rfl, rfl⟩
     have nil_ : (put.take i).drop i = [] := List.drop_eq_nil_of_le (by rw [List.length_take]; omega)
     refine sif_r (fun _ => shut (.inl hsc) hj F hM fun ps' pl' M'' n' W' F' hM' hn' => ⟨ps', pl', M'', n', i, Nat.le_refl _, by omega, ?_, (fun _ => rfl), ?_, ?_⟩) (fun hb => ⟨ps, pl, M', n, j, hj, hn, hsc, (fun h => ?_), F, hM⟩)
     ·rw [nil_]; intro x hx; cases hx
     ·rw [nil_]; exact F'
     ·rw [hM', List.take_take, Nat.min_self]
     ·have hb : (!sc || decide (n = 128)) = false := hb
      rw [h] at hb; simp at hb
    clear F hM hn hj hsc ps pl M' n j
    rintro _ W1 ⟨ps, pl, M', n, j, hj, hn, hsc, hji, F, hM⟩
    refine F.st.ld 3 rfl (x := some (at0 p)) rfl ?_
    simp only [nn_eqT, addr_add]
    refine ld_r F.tx (x := e.num) rfl (newO_r fun b27 W2 e2' n2 hb27 _ => ?_)
    have F2 := F.ext e2'
    have hbox : SlIn W2 ⟨some (at0 b27), 1, 1⟩ 3 1 [.int .i64 v] := SlIn.of_box n2 (n := 1) (sz := 1) rfl
    refine enc1_call (s := ⟨some (at0 b27), 1, 1⟩) (t := 3) (e := e) (a := v) hf hbox fun s28 W3 o28 e3' => ?_
    have F3 := F2.ext e3'
    have S3 := F3.st
    show drew _ W3
    refine S3.drew fun W4 S4 e4' _ => ?_
    have F4 := F3.ext e4'
    have o28 := o28.ext e4'
    refine F4.st.ld 3 rfl (x := some (at0 p)) rfl (F4.st.ld 3 rfl (x := some (at0 p)) rfl ?_)
    simp only [nn_eqT, addr_add]
    have tkv : put.take (i + 1) = put.take i ++ [v] := by rw [List.take_add_one, hv]; rfl
    have ptl : (bts e (put.take i)).length + (pt e v).length ≤ (bts e put).length := by
     have := tkl (i + 1) 0 (Nat.zero_le _)
     rw [List.drop_zero, tkv, bts_app, List.length_append] at this
     simpa [bts] using this
    have s28l : (pt e v).length = s28.len := by have := o28.len1; rwa [List.length_map] at this
    have al4 : (ab ++ bts e (put.take i)).length = a.len := by have := F4.own.len1; rwa [List.length_map] at this
    have al4' := al4
    rw [List.length_append] at al4'
    refine ld_r F4.tx (x := a) rfl (app_by F4.own o28.in.x (by omega) (Nat.zero_le _) fun a' W5 o5 l5 u5 k5 old5 => ?_)
    have nb5 : ∀ t, t ≠ 5 → NoTy W4 a.blk t := fun t ht => NoTy.blk F4.own.in (fun h => ht h.symm)
    have tx5 : W5.heap[p]? = some (txO e lim tp a) := u5.get F4.tx fun hk => nb5 86 (by decide) _ hk _ _ F4.tx
    have st5 : St (fun k => k = p ∨ a0.blk k) w W5 (frLs p b1 b2 b6 b7 ps ((ab ++ bts e (put.take i)).length - (bts e ((put.take i).drop j)).length) n) := F4.st.fresh u5 (fun k hk => (F4.ablk k hk).imp .inr id) (fun x hx hk => by
     obtain ⟨c, fr, hc'⟩ := F4.own.in.blk_cells hk
     have hl := (F4.st.loc x hx).1
     rw [hc'] at hl
     simp only [frLs, List.mem_cons, List.not_mem_nil, or_false] at hx
     rcases hx with rfl | rfl | rfl | rfl <;> cases hl)
    have row5 := F4.row.ty u5 (nb5 93 (by decide))
    have its5 : Its W5 e pl M' := F4.its.to fun x hx b hb => (old5 x.bytes b hb (F4.tops x hx)).1
    have tops5 : ∀ x ∈ pl, ∀ k, x.bytes.blk k → a'.blk k → top x.bytes ≤ top a' := fun x hx => by
     obtain ⟨b, hb⟩ := F4.its.by_ x hx
     exact (old5 x.bytes b hb (F4.tops x hx)).2
    have oldT : Old w W5 a0 a' := F4.old.trans old5
    refine st5.keep 3 rfl (v := .pointer (some (at0 p))) rfl ?_
    refine stC_r tx5 (by show 3 < 4; decide) fun W6 u6 n6 _ => ?_
    have n6 : W6.heap[p]? = some (txO e lim tp a') := n6
    have nt6 : ∀ t, t ≠ 86 → NoTy W5 (fun k => k = p) t := fun t ht => NoTy.box tx5 (fun h => ht h.symm)
    have st6 : St (fun k => k = p ∨ a0.blk k) w W6 (frLs p b1 b2 b6 b7 ps ((ab ++ bts e (put.take i)).length - (bts e ((put.take i).drop j)).length) n) := st5.step u6 fun k hk => .inl hk
    refine st6.ld 0 rfl (x := (n : Int)) rfl (st6.stC 0 rfl (by show 0 < 1; decide) fun W7 S7 u7 => ?_)
    have g7' : W6.heap[b7]? = some (.cells #[.int .i64 (n : Int)] 3 (0, 0)) := st6.at_ 0 rfl
    have ewn : IntKind.wrap .i64 ((n : Int) + 1) = ((n + 1 : Nat) : Int) := by rw [wrap64 (by omega) (by omega)]; omega
    rw [ewn] at S7
    have cbe : bts e ((put.take (i + 1)).drop j) = bts e ((put.take i).drop j) ++ pt e v := by
     rw [tkv, List.drop_append_of_le_length (by rw [List.length_take]; omega), bts_app]; simp [bts]
    have abe : ab ++ bts e (put.take (i + 1)) = ab ++ bts e (put.take i) ++ pt e v := by rw [tkv, bts_app, List.append_assoc]; simp [bts]
    have F7 : FrI w W7 p e lim tp a0 b1 b2 b6 b7 a' ps (ab ++ bts e (put.take (i + 1))) (bts e ((put.take (i + 1)).drop j)) pl M' (n + 1) := by
     rw [cbe, abe]
     refine ⟨?_, ?_, ?_, ?_, ?_, ?_, tops5, F4.pblk, ?_, ?_, ?_⟩
     ·rw [@List.length_append _ (ab ++ bts e (put.take i)), @List.length_append _ (bts e ((put.take i).drop j)), Nat.add_sub_add_right]
      exact S7
     ·exact u7.get n6 (fun hk => NoTy.box g7' (by decide) _ hk _ _ n6)
     ·exact (o5.ty u6 (nt6 _ (by decide))).box g7' (by decide) u7
     ·obtain ⟨x, hx⟩ := F4.suf
      exact ⟨x, by rw [hx, List.append_assoc]⟩
     ·exact (row5.ty u6 (nt6 _ (by decide))).box g7' (by decide) u7
     ·exact (its5.ty u6 (nt6 _ (by decide))).ty u7 (NoTy.box g7' (by decide))
     ·intro k hk
      rcases k5 k hk with h | h
      ·exact F4.ablk k h
      ·have := F4.st.upd.size; exact .inr (by omega)
     ·exact (oldT.ty u6 (nt6 _ (by decide))).ty u7 (NoTy.box g7' (by decide))
     ·have := F4.cnt
      rw [@List.length_append _ (ab ++ bts e (put.take i)), @List.length_append _ (bts e ((put.take i).drop j))]
      omega
    have seg : (put.take (i + 1)).drop j = (put.take i).drop j ++ [v] := by rw [tkv, List.drop_append_of_le_length (by rw [List.length_take]; omega)]
    have hM7 : aOf e M' = prs e ((put.take (i + 1)).take j) := by rw [hM, tkv, List.take_append_of_le_length (by rw [List.length_take]; omega)]
    refine sif_r (fun hb => ?_) (fun hb => ⟨a', ps, pl, M', n + 1, j, by omega, by omega, ?_, F7, hM7⟩)
    ·have hb : sc = false := by simpa using hb
     have hr : Run ((put.take (i + 1)).drop j) := .inr ⟨v, by rw [seg, hji hb, List.drop_eq_nil_of_le (by rw [List.length_take]; omega)]; rfl⟩
     have nil_ : (put.take (i + 1)).drop (i + 1) = [] := List.drop_eq_nil_of_le (by rw [List.length_take]; omega)
     refine shut hr (by omega) F7 hM7 fun ps' pl' M'' n' W' F' hM' hn' => ⟨a', ps', pl', M'', n', i + 1, Nat.le_refl _, by omega, ?_, ?_, ?_⟩
     ·rw [nil_]; intro x hx; cases hx
     ·rw [nil_]; exact F'
     ·rw [hM', List.take_take, Nat.min_self]
    ·have hb : sc = true := by simpa using hb
     rw [seg]
     intro x hx
     rcases List.mem_append.1 hx with hx | hx
     ·exact hsc x hx
     ·rw [List.mem_singleton.1 hx]; exact hsv.1 hb
   ·rintro _ W' ⟨a, ps, pl, M', n, j, hj, hn, hsc, F, hM⟩
    exact ⟨⟨a, ps, pl, M', n, i + 1, j, rfl, by omega, by omega, hn, hsc, F, hM⟩, by omega⟩
  ·simp only [decide_eq_false_iff_not] at hc
   have : i = put.length := by omega
   subst this
   exact ⟨a, ps, pl, M', n, j, hj, hsc, F, hM⟩
 ·rintro _ W ⟨a, ps, pl, M', n, j, hj, hsc, F, hM⟩
  refine shut (.inl hsc) hj F hM fun ps' pl' M'' n' W' F' hM' _ => ?_
  have hcnt := F'.cnt
  rw [List.take_length] at F' hM' hcnt
  refine F'.st.ld 2 rfl (x := ps') rfl (hK ps' a pl' M'' W' F'.tx F'.own F'.row F'.its hM' F'.tops F'.pblk F'.ablk F'.old F'.st.upd ?_)
  rw [List.length_append] at hcnt
  simpa using hcnt
end
section
variable {w w' W W' : World} {S : Nat → Prop} {p : Nat} {e : Enc} {lim na : Nat} {O : Nat → Prop} {M : Parts} {tp : Option Addr} {a0 a : Sl}
def hdA (e : Enc) (M : Parts) (i n : Nat) : As := match M[i]? with | some x => (ats e x.2).take n | none => []
def tlA (e : Enc) (M : Parts) (i n : Nat) : As := match M[i]? with | some x => (ats e x.2).drop n | none => []
theorem hdA_some {e : Enc} {M : Parts} {i n : Nat} {x : Int × Bs} (h : M[i]? = some x) : hdA e M i n = (ats e x.2).take n := by unfold hdA; rw [h]
theorem tlA_some {e : Enc} {M : Parts} {i n : Nat} {x : Int × Bs} (h : M[i]? = some x) : tlA e M i n = (ats e x.2).drop n := by unfold tlA; rw [h]
theorem hdA_none {e : Enc} {M : Parts} {i n : Nat} (h : M[i]? = none) : hdA e M i n = [] := by unfold hdA; rw [h]
theorem tlA_none {e : Enc} {M : Parts} {i n : Nat} (h : M[i]? = none) : tlA e M i n = [] := by unfold tlA; rw [h]
theorem hd_spot {e : Enc} {M : Parts} {at_ i n : Nat} (h : Spot e M at_ i n) : (aOf e M).take at_ = aOf e (M.take i) ++ hdA e M i n := by rw [take_spot h]; unfold hdA; cases M[i]? <;> rfl
theorem drop_spot {e : Enc} {M : Parts} {at_ i n : Nat} (h : Spot e M at_ i n) : (aOf e M).drop at_ = tlA e M i n ++ aOf e (M.drop (i + 1)) := by
 rcases h with ⟨rfl, rfl, rfl⟩ | ⟨x, hx, h1, h2, rfl⟩
 ·cases M with
  | nil => simp [aOf, tlA]
  | cons x M => simp [aOf, tlA]
 ·rw [tlA_some hx]
  have hil := (List.getElem?_eq_some_iff.1 hx).1
  have hd : M = M.take i ++ x :: M.drop (i + 1) := by
   have := List.drop_eq_getElem_cons hil
   have hx' : M[i] = x := by rw [List.getElem?_eq_getElem hil] at hx; exact Option.some.inj hx
   rw [hx'] at this
   rw [← this, List.take_append_drop]
  have : aOf e M = aOf e (M.take i) ++ (ats e x.2 ++ aOf e (M.drop (i + 1))) := by
   conv => lhs; rw [hd]
   rw [aOf_app, aOf_cons]
  rw [this, List.drop_length_add_append, List.drop_append_of_le_length h2]
theorem spot_le {e : Enc} {M : Parts} {f t i n j m : Nat} (h1 : Spot e M f i n) (h2 : Spot e M t j m) (hft : f ≤ t) : i ≤ j := by
 have mono : ∀ a b : Nat, a ≤ b → (aOf e (M.take a)).length ≤ (aOf e (M.take b)).length := by
  intro a b hab
  have : M.take b = M.take a ++ (M.take b).drop a := by
   conv => lhs; rw [← List.take_append_drop a (M.take b)]
   rw [List.take_take, Nat.min_eq_left hab]
  rw [this, aOf_app, List.length_append]; omega
 rcases h1 with ⟨_, rfl, _⟩ | ⟨x, hx, g1, g2, g3⟩
 ·exact Nat.zero_le _
 rcases Nat.lt_or_ge j i with hlt | hge
 ·exfalso
  rcases h2 with ⟨h, _, _⟩ | ⟨y, hy, k1, k2, k3⟩
  ·omega
  ·have hjl := (List.getElem?_eq_some_iff.1 hy).1
   have e1 : (aOf e (M.take (j + 1))).length = (aOf e (M.take j)).length + (ats e y.2).length := by
    have hy' : M[j] = y := by rw [List.getElem?_eq_getElem hjl] at hy; exact Option.some.inj hy
    rw [List.take_add_one, hy, Option.toList_some, aOf_app, List.length_append]
    simp [aOf]
   have := mono (j + 1) i (by omega)
   omega
 ·exact hge
theorem szs_ge_take {l : As} (h : Posd l) {n : Nat} (hn : n ≤ l.length) : n ≤ szs (l.take n) := by
 have := szs_ge (h.take n)
 rw [List.length_take] at this; omega
theorem head_in {x : Pc} {y : Int × Bs} {n : Nat} (hp : PcIn w e x y) (h1 : 1 ≤ n) (hn : n ≤ (ats e y.2).length) : PcIn w e (headPc e x y.2 n) (y.1, y.2.take (cutAt e y.2 n)) := by
 have hcl := cutAt_le e y.2 n
 have hlen := hp.by_.len
 have hcap := SlIn.le hp.by_
 have c1 := hp.by_.cut (l := 0) (h := (cutAt e y.2 n : Int)) (m := (cutAt e y.2 n : Int)) (by omega) (by omega) (by omega) (by omega) (by omega)
 have d1 : (y.2.drop (0 : Int).toNat).take ((cutAt e y.2 n : Int).toNat - (0 : Int).toNat) = y.2.take (cutAt e y.2 n) := by simp
 rw [d1] at c1
 have hge : n ≤ cutAt e y.2 n := szs_ge_take (ats_posd e y.2) hn
 refine ⟨c1, rfl, hp.tag, fun hc => ?_, hp.lo, ?_⟩
 ·have := congrArg List.length hc
  rw [List.length_take, List.length_nil] at this
  omega
 ·have := hp.hi
  show y.1 + ((y.2.take _).length : Int) ≤ _
  rw [List.length_take]; omega
theorem rest_in {x : Pc} {y : Int × Bs} {n : Nat} (hp : PcIn w e x y) (hn : n < (ats e y.2).length) : PcIn w e (restPc e x y.2 n) (restTag y.1 (cutAt e y.2 n), y.2.drop (cutAt e y.2 n)) := by
 have hcl := cutAt_le e y.2 n
 have hlen := hp.by_.len
 have hcap := SlIn.le hp.by_
 have c2 := hp.by_.cut (l := (cutAt e y.2 n : Int)) (h := (x.bytes.len : Int)) (m := (x.bytes.cap : Int)) (by omega) (by omega) (by omega) (by omega) (by omega)
 have d2 : (y.2.drop (cutAt e y.2 n : Int).toNat).take ((x.bytes.len : Int).toNat - (cutAt e y.2 n : Int).toNat) = y.2.drop (cutAt e y.2 n) := by
  rw [Int.toNat_natCast, Int.toNat_natCast]
  exact List.take_of_length_le (by rw [List.length_drop]; omega)
 rw [d2] at c2
 have hlt : cutAt e y.2 n < y.2.length := by
  have h1 := szs_append ((ats e y.2).take n) ((ats e y.2).drop n)
  rw [List.take_append_drop, szs_all] at h1
  have h2 := szs_ge ((ats_posd e y.2).drop n)
  rw [List.length_drop] at h2
  unfold cutAt; omega
 have hlo := hp.lo; have hhi := hp.hi
 refine ⟨c2, rfl, by show restTag x.tag _ = restTag y.1 _; rw [hp.tag], fun hc => ?_, ?_, ?_⟩
 ·have := congrArg List.length hc
  rw [List.length_drop, List.length_nil] at this
  omega
 ·show -1 ≤ restTag y.1 _
  unfold restTag; split <;> omega
 ·show restTag y.1 _ + ((y.2.drop _).length : Int) ≤ _
  rw [List.length_drop]
  unfold restTag; split <;> omega
theorem Pcs_one (l : List Pc) : ∀ v ∈ flat c93 (l.map pcT), isOne v = true := by
 intro v hv
 unfold flat at hv
 obtain ⟨x, hx, hv⟩ := List.mem_flatMap.1 hv
 obtain ⟨y, _, rfl⟩ := List.mem_map.1 hx
 exact Pc_one y v (by rw [flat_one]; exact hv)
theorem rdTree (tx : W.heap[p]? = some (txO e lim tp a)) {K : Addr → Cells.T c84 → World → Prop} (hK : K (at0 p) (tp, ()) W) : nn (some (at0 p)) (fun q => lds c84 (q.add 2) (K q)) W := by
 refine nn_some ?_
 rw [addr_add]
 refine lds_r tx (x := (tp, ())) (fun i v hv => ?_) hK
 match i, hv with
 | 0, hv => exact hv
 | i + 1, hv => cases hv
abbrev Wr (w : World) (O : Nat → Prop) (k : Nat) : Prop := O k ∧ ∀ c fr, w.heap[k]? ≠ some (.cells c 139 fr)
set_option maxHeartbeats 2000000 in
theorem treplace_call {from_ to_ : Nat} {s : Sl} {t : TypeId} {put : List Int} (h : Txt w p e lim na O M) (hft : from_ ≤ to_) (hto : to_ ≤ (aOf e M).length) (hs : SlIn w s t 1 (iv put)) (hsep : ∀ k, s.blk k → ¬ O k) (hfit : Fits e put) (hna : na + (bts e put).length < 2 ^ 40) (hput : put.length < 2 ^ 40)
  (hroom : szs ((aOf e M).take from_ ++ prs e put ++ (aOf e M).drop to_) ≤ 1048576) {K : Unit → World → Prop}
  (hK : ∀ O' M' w', Txt w' p e lim (na + (bts e put).length) O' M' → aOf e M' = (aOf e M).take from_ ++ prs e put ++ (aOf e M).drop to_ → Upd (Wr w O) w w' → (∀ k, O k → O' k) → (∀ k, O' k → O k ∨ w.heap.size ≤ k) → K () w') :
  callT Tryz.prog 64 #[.pointer (some (at0 p)), .int .i64 (from_ : Int), .int .i64 (to_ : Int), .slice s.a s.len s.cap] (.tup []) K w := by
 refine F64_calls ?_
 unfold F64
 obtain ⟨tr, a0, ab, tx, ht, hi, own, tops, pO, aO, hla⟩ := h.ex
 have few := h.few; have lims := h.lims; have hsz := h.sz
 have il := hi.len
 have hf : Fine tr.items := hi.fine (by omega)
 have fl := hf.few
 have hal : ab.length = a0.len := by have := own.len1; rwa [List.length_map] at this
 refine tfind_call h (by omega) fun i n w1 hs1 hil1 e1 => ?_
 refine tfind_call (h.ext e1) (by omega) fun j m w2 hs2 hil2 e2 => ?_
 rw [Int.toNat_natCast] at hs1 hs2
 have x2 := e1.trans e2
 have hij := spot_le hs1 hs2 hft
 have pcs : ∀ {i : Nat} {x : Pc}, tr.items[i]? = some x → ∃ y, M[i]? = some y ∧ PcIn w e x y ∧ y.2.length ≤ 1048576 := by
  intro i x hx
  obtain ⟨y, hy, hp⟩ := hi.get i hx
  refine ⟨y, hy, hp, ?_⟩
  have h2 : szs (aOf e M) = szs (aOf e (M.take i)) + (y.2.length + szs (aOf e (M.drop (i + 1)))) := by
   have hil := (List.getElem?_eq_some_iff.1 hy).1
   have hd := List.drop_eq_getElem_cons hil
   have hx' : M[i] = y := by rw [List.getElem?_eq_getElem hil] at hy; exact Option.some.inj hy
   rw [hx'] at hd
   conv => lhs; rw [← List.take_append_drop i M, hd]
   rw [aOf_app, aOf_cons, szs_append, szs_append, szs_all]
  omega
 have spn : ∀ {at_ i n : Nat} {y : Int × Bs}, at_ ≤ (aOf e M).length → Spot e M at_ i n → M[i]? = some y → n ≤ (ats e y.2).length ∧ n < 2 ^ 30 := by
  intro at_ i n y hle hs hy
  rcases hs with ⟨_, _, rfl⟩ | ⟨x, hx, h1, h2, h3⟩
  ·exact ⟨Nat.zero_le _, by decide⟩
  ·rw [hy] at hx; cases hx
   exact ⟨h2, by omega⟩
 refine join_r (fun x W => ∃ plL ML, SlOwn W w2.heap.size x.1 93 7 (flat c93 (plL.map pcT)) ∧ Its w e plL ML ∧ aOf e ML = hdA e M i n ∧ (∀ x ∈ plL, ∀ k, x.bytes.blk k → O k) ∧ (∀ x ∈ plL, ∀ k, x.bytes.blk k → a0.blk k → top x.bytes ≤ top a0) ∧ plL.length ≤ 1 ∧ Ext w2 W) ?_ ?_
 ·refine rdTree (x2.ext_get tx) (at_call (ht.ext x2) hf (by omega) fun w3 e3 => ?_)
  refine (St.start w3).newO fun b8 w4 S4 e4 => S4.aggSt 0 rfl rfl rfl rfl fun w5 S5 u5 => ?_
  cases hx : tr.items[i]? with
  | none =>
   have hM : M[i]? = none := List.getElem?_eq_none (by have := List.getElem?_eq_none_iff.1 hx; omega)
   have e0 : atI tr.items i = (Pc.zero, false) := by unfold atI; rw [hx]
   rw [e0, hdA_none hM]
   refine join_r (fun x W => x = (false, ()) ∧ w5 = W) (sif_false ⟨rfl, rfl⟩) ?_
   rintro _ _ ⟨rfl, rfl⟩
   exact sif_false ⟨[], [], SlOwn.nil _ _ _ _, trivial, rfl, (fun x hx => by cases hx), (fun x hx => by cases hx), Nat.zero_le _, e3.trans S5.upd⟩
  | some x =>
   have e0 : atI tr.items i = (x, true) := by unfold atI; rw [hx]
   rw [e0] at S5 ⊢
   obtain ⟨y, hy, hp, hyl⟩ := pcs hx
   have hn := spn (by omega) hs1 hy
   rw [hdA_some hy]
   refine join_r (fun x W => x = (decide (0 < n), ()) ∧ w5 = W) (sif_true ⟨tupb ?_, rfl⟩) ?_
   ·simp only [decide_eq_true_eq, gt_iff_lt]; omega
   rintro _ _ ⟨rfl, rfl⟩
   refine sif_r (fun hn0 => ?_) (fun hn0 => ?_)
   ·simp only [decide_eq_true_eq] at hn0
    have hlo := hp.lo; have hhi := hp.hi
    have hE : ∀ {V : World}, Ext w3 V → V.cell? (at0 p) = some (.int .i64 e.num) := fun x => cell_of (x.ext_get ((x2.trans e3).ext_get tx)) rfl
    have byB : By w3 x.bytes y.2 := hp.by_.ext (x2.trans e3)
    have S := S5
    refine join_r (fun s W => ∃ b, s.1 = at0 b ∧ W.heap[b]? = some (.cells (Cells.vals c93 (pcT (headPc e x y.2 n))).toArray 93 (0, 0)) ∧ Ext w3 W) ?_ ?_
    ·refine S.drew fun w9 S e9 _ => S.lds 0 (pcT x) rfl ?_
     simp only [nn_eqT]
     refine ld_r (S.upd.ext_get ((x2.trans e3).ext_get tx)) (x := e.num) rfl ?_
     exact ⟨S.newO fun b18 wx S ex => keep_r (hE S.upd) (S.keeps 1 rfl (⟨S.newO fun b19 wx S ex => keep_r (hE S.upd) (S.keeps 2 rfl (pcut_call (byB.ext S.upd) (by omega) (by rw [hp.tag]; omega) (by omega) fun wx ex => (fun S => S.aggSt 1 rfl rfl rfl rfl fun wx S ux => S.aggSt 0 rfl rfl rfl rfl fun wx S ux => ⟨b18, rfl, S.at_ 1 rfl, S.upd⟩) (S.ext ex))), pcut_call (byB.ext S.upd) (by omega) (by rw [hp.tag]; omega) (by omega) fun wx ex => (fun S => ⟨S.newO fun b22 wx S ex => keep_r (hE S.upd) (S.keeps 2 rfl (S.aggSt 1 rfl rfl rfl rfl fun wx S ux => S.aggSt 0 rfl rfl rfl rfl fun wx S ux => ⟨b18, rfl, S.at_ 1 rfl, S.upd⟩)), trivial⟩) (S.ext ex)⟩)), ⟨S.newO fun b23 wx S ex => keep_r (hE S.upd) (S.keeps 1 rfl (⟨S.newO fun b24 wx S ex => keep_r (hE S.upd) (S.keeps 2 rfl (pcut_call (byB.ext S.upd) (by omega) (by rw [hp.tag]; omega) (by omega) fun wx ex => (fun S => S.aggSt 0 rfl rfl rfl rfl fun wx S ux => S.aggSt 1 rfl rfl rfl rfl fun wx S ux => ⟨b24, rfl, S.at_ 0 rfl, S.upd⟩) (S.ext ex))), pcut_call (byB.ext S.upd) (by omega) (by rw [hp.tag]; omega) (by omega) fun wx ex => (fun S => ⟨S.newO fun b27 wx S ex => keep_r (hE S.upd) (S.keeps 2 rfl (S.aggSt 0 rfl rfl rfl rfl fun wx S ux => S.aggSt 1 rfl rfl rfl rfl fun wx S ux => ⟨b27, rfl, S.at_ 0 rfl, S.upd⟩)), trivial⟩) (S.ext ex)⟩)), pcut_call (byB.ext S.upd) (by omega) (by rw [hp.tag]; omega) (by omega) fun wx ex => (fun S => ⟨S.newO fun b29 wx S ex => keep_r (hE S.upd) (S.keeps 1 rfl (⟨S.newO fun b30 wx S ex => keep_r (hE S.upd) (S.keeps 2 rfl (S.aggSt 1 rfl rfl rfl rfl fun wx S ux => S.aggSt 0 rfl rfl rfl rfl fun wx S ux => ⟨b29, rfl, S.at_ 1 rfl, S.upd⟩)), trivial⟩)), ⟨S.newO fun b31 wx S ex => keep_r (hE S.upd) (S.keeps 1 rfl (⟨S.newO fun b32 wx S ex => keep_r (hE S.upd) (S.keeps 2 rfl (S.aggSt 0 rfl rfl rfl rfl fun wx S ux => S.aggSt 1 rfl rfl rfl rfl fun wx S ux => ⟨b32, rfl, S.at_ 0 rfl, S.upd⟩)), trivial⟩)), trivial⟩⟩) (S.ext ex)⟩⟩
    ·rintro ⟨_, _⟩ w9 ⟨b, rfl, hb, e9⟩
     dsimp only
     refine lds_r hb (x := pcT (headPc e x y.2 n)) (fun j v hv => by rw [Nat.zero_add, List.getElem?_toArray]; exact hv) (newO_r fun b32 w10 e10 n10 _ _ => ?_)
     have hbox : SlX w10 ⟨some (at0 b32), 1, 1⟩ 7 (flat c93 [pcT (headPc e x y.2 n)]) := (SlIn.of_box n10 (n := 1) (sz := 7) rfl).x
     have x10 := (e3.trans e9).trans e10
     refine append_rx eParts eParts.ts_ (s := ⟨none, 0, 0⟩) (x := ⟨some (at0 b32), 1, 1⟩) (SlOwn.nil w10 w2.heap.size _ _) hbox (Pc_one _) (by dsimp only; omega) (by have := x10.size; omega) fun ps' W4 o4 l4 u4 k4 => ?_
     refine ⟨[headPc e x y.2 n], [(y.1, y.2.take (cutAt e y.2 n))], o4, ⟨head_in hp hn0 hn.1, trivial⟩, ?_, ?_, ?_, Nat.le_refl _, x10.step u4 fun k hk => ?_⟩
     ·show ats e (y.2.take (cutAt e y.2 n)) ++ [] = _
      rw [List.append_nil]; unfold cutAt
      rw [(ats_cut e n y.2).1]
     ·intro z hz k hk
      rw [List.mem_singleton.1 hz] at hk
      exact pO x (List.mem_of_getElem? hx) k (cut_blk hk)
     ·intro z hz k hk hk'
      rw [List.mem_singleton.1 hz] at hk ⊢
      have hcl := cutAt_le e y.2 n
      have hlen := hp.by_.len
      exact Nat.le_trans (cut_top hp.by_ (l := 0) (h := (cutAt e y.2 n : Int)) (by omega) (by omega) (by omega)) (tops x (List.mem_of_getElem? hx) k (cut_blk hk) hk')
     ·obtain ⟨q, hq, _⟩ := hk; cases hq
   ·simp only [decide_eq_false_iff_not] at hn0
    obtain rfl : n = 0 := by omega
    exact ⟨[], [], SlOwn.nil _ _ _ _, trivial, rfl, (fun x hx => by cases hx), (fun x hx => by cases hx), Nat.zero_le _, e3.trans S5.upd⟩
 rintro ⟨psL, _⟩ w3 ⟨plL, ML, rowL, itsL, hML, oL, topL, lenL, e3⟩
 dsimp only at rowL ⊢
 have x3 := x2.trans e3
 have tk1 := hd_spot hs1
 rw [← hML] at tk1
 have tk2 := drop_spot hs2
 refine fresh_call (hs.ext x3) (fun k hk => ⟨fun hc => hsep k hk (hc ▸ h.op), fun hc => hsep k hk (aO k hc)⟩) hfit (x3.ext_get tx) (own.ext x3) (by omega) hput fun psF a plF MF w4 tx4 own4 rowF itsF hMF topF blkF blkA old4 u4 cntF => ?_
 have nt4 : ∀ t, t ≠ 86 → t ≠ 5 → NoTy w3 (fun k => k = p ∨ a0.blk k) t := by
  rintro t h1 h2 k (rfl | hk) c fr hc
  ·rw [x3.ext_get tx] at hc; cases hc; exact h1 rfl
  ·obtain ⟨c', fr', hc'⟩ := (own.ext x3).in.blk_cells hk
   rw [hc] at hc'; cases hc'; exact h2 rfl
 have rowL4 := rowL.ty u4 (nt4 _ (by decide) (by decide))
 have ht4 : tr.In w4 := (ht.ext x3).ty u4 (nt4 _ (by decide) (by decide))
 have o4 : Old w w4 a0 a := fun y b hy htp => old4 y b (hy.ext x3) htp
 have lL := SlOwn.lenR (cs := c93) rowL (by decide)
 have lF := SlOwn.lenR (cs := c93) rowF (by decide)
 rw [List.length_map] at lL lF
 have z2 := e3.size
 have z4 := u4.size
 refine append_rx eParts eParts.ts_ rowL4 rowF.in.x (Pcs_one _) (by
  show (psL.len + psF.len + (psL.len + psF.len) / 4 + 512) * 64 ≤ 2 ^ 48
  omega) (by omega) fun psA w5 rowA lA u5 kA => ?_
 rw [← flat_append, ← List.map_append] at rowA
 have nt5 : ∀ t, t ≠ 93 → NoTy w4 psL.blk t := fun t ht => NoTy.blk rowL4.in (fun h => ht h.symm)
 have tx5 : w5.heap[p]? = some (txO e lim tr.ptr a) := u5.get tx4 fun hk => nt5 86 (by decide) _ hk _ _ tx4
 have own5 := own4.ty u5 (nt5 _ (by decide))
 have itsF5 := itsF.ty u5 (nt5 _ (by decide))
 have ht5 : tr.In w5 := ht4.ty u5 (nt5 _ (by decide))
 have o5 := o4.ty u5 (nt5 _ (by decide))
 have z5 := u5.size
 refine join_r (fun x W => ∃ plR MR, SlOwn W w2.heap.size x.1 93 7 (flat c93 ((plL ++ plF ++ plR).map pcT)) ∧ Its w e plR MR ∧ aOf e MR = tlA e M j m ∧ (∀ x ∈ plR, ∀ k, x.bytes.blk k → O k) ∧ (∀ x ∈ plR, ∀ k, x.bytes.blk k → a0.blk k → top x.bytes ≤ top a0) ∧ Upd psA.blk w5 W) ?_ ?_
 ·refine rdTree tx5 (at_call ht5 hf (by omega) fun w6 e6 => ?_)
  refine (St.start w6).newO fun b41 w7 S7 e7 => S7.aggSt 0 rfl rfl rfl rfl fun w8 S8 u8 => ?_
  cases hx : tr.items[j]? with
  | none =>
   have hM : M[j]? = none := List.getElem?_eq_none (by have := List.getElem?_eq_none_iff.1 hx; omega)
   have e0 : atI tr.items j = (Pc.zero, false) := by unfold atI; rw [hx]
   rw [e0, tlA_none hM]
   refine sif_false ⟨[], [], ?_, trivial, rfl, (fun x hx => by cases hx), (fun x hx => by cases hx), Upd.of_ext (e6.trans S8.upd)⟩
   rw [List.append_nil]
   exact rowA.ext (e6.trans S8.upd)
  | some x =>
   have e0 : atI tr.items j = (x, true) := by unfold atI; rw [hx]
   rw [e0] at S8 ⊢
   obtain ⟨y, hy, hp, hyl⟩ := pcs hx
   have hn := spn hto hs2 hy
   rw [tlA_some hy]
   refine sif_true ?_
   have hlo := hp.lo; have hhi := hp.hi
   have tx6 := e6.ext_get tx5
   have hE : ∀ {V : World}, Ext w6 V → V.cell? (at0 p) = some (.int .i64 e.num) := fun x => cell_of (x.ext_get tx6) rfl
   have byB : By w6 x.bytes y.2 := ((o5 x.bytes y.2 hp.by_ (tops x (List.mem_of_getElem? hx))).1).ext e6
   have S := S8
   refine join_r (fun s W => ∃ b, s.1 = at0 b ∧ W.heap[b]? = some (.cells (Cells.vals c93 (pcT (restPc e x y.2 m))).toArray 93 (0, 0)) ∧ Ext w6 W) ?_ ?_
   ·refine S.drew fun w9 S e9 _ => S.lds 0 (pcT x) rfl ?_
    simp only [nn_eqT]
    refine ld_r (S.upd.ext_get tx6) (x := e.num) rfl ?_
    exact ⟨S.newO fun b18 wx S ex => keep_r (hE S.upd) (S.keeps 1 rfl (⟨S.newO fun b19 wx S ex => keep_r (hE S.upd) (S.keeps 2 rfl (pcut_call (byB.ext S.upd) (by omega) (by rw [hp.tag]; omega) (by omega) fun wx ex => (fun S => S.aggSt 1 rfl rfl rfl rfl fun wx S ux => S.aggSt 0 rfl rfl rfl rfl fun wx S ux => ⟨b19, rfl, S.at_ 0 rfl, S.upd⟩) (S.ext ex))), pcut_call (byB.ext S.upd) (by omega) (by rw [hp.tag]; omega) (by omega) fun wx ex => (fun S => ⟨S.newO fun b22 wx S ex => keep_r (hE S.upd) (S.keeps 2 rfl (S.aggSt 1 rfl rfl rfl rfl fun wx S ux => S.aggSt 0 rfl rfl rfl rfl fun wx S ux => ⟨b22, rfl, S.at_ 0 rfl, S.upd⟩)), trivial⟩) (S.ext ex)⟩)), ⟨S.newO fun b23 wx S ex => keep_r (hE S.upd) (S.keeps 1 rfl (⟨S.newO fun b24 wx S ex => keep_r (hE S.upd) (S.keeps 2 rfl (pcut_call (byB.ext S.upd) (by omega) (by rw [hp.tag]; omega) (by omega) fun wx ex => (fun S => S.aggSt 0 rfl rfl rfl rfl fun wx S ux => S.aggSt 1 rfl rfl rfl rfl fun wx S ux => ⟨b23, rfl, S.at_ 1 rfl, S.upd⟩) (S.ext ex))), pcut_call (byB.ext S.upd) (by omega) (by rw [hp.tag]; omega) (by omega) fun wx ex => (fun S => ⟨S.newO fun b27 wx S ex => keep_r (hE S.upd) (S.keeps 2 rfl (S.aggSt 0 rfl rfl rfl rfl fun wx S ux => S.aggSt 1 rfl rfl rfl rfl fun wx S ux => ⟨b23, rfl, S.at_ 1 rfl, S.upd⟩)), trivial⟩) (S.ext ex)⟩)), pcut_call (byB.ext S.upd) (by omega) (by rw [hp.tag]; omega) (by omega) fun wx ex => (fun S => ⟨S.newO fun b29 wx S ex => keep_r (hE S.upd) (S.keeps 1 rfl (⟨S.newO fun b30 wx S ex => keep_r (hE S.upd) (S.keeps 2 rfl (S.aggSt 1 rfl rfl rfl rfl fun wx S ux => S.aggSt 0 rfl rfl rfl rfl fun wx S ux => ⟨b30, rfl, S.at_ 0 rfl, S.upd⟩)), trivial⟩)), ⟨S.newO fun b31 wx S ex => keep_r (hE S.upd) (S.keeps 1 rfl (⟨S.newO fun b32 wx S ex => keep_r (hE S.upd) (S.keeps 2 rfl (S.aggSt 0 rfl rfl rfl rfl fun wx S ux => S.aggSt 1 rfl rfl rfl rfl fun wx S ux => ⟨b31, rfl, S.at_ 1 rfl, S.upd⟩)), trivial⟩)), trivial⟩⟩) (S.ext ex)⟩⟩
   ·rintro ⟨_, _⟩ w9 ⟨b, rfl, hb, e9⟩
    dsimp only
    simp only [addr_add]
    have hat : (restPc e x y.2 m).sm.atoms = (ats e y.2).length - m := by
     show (msr (ats e (y.2.drop (cutAt e y.2 m)))).atoms = _
     rw [msr_atoms (ats_posd e _)]
     unfold cutAt
     rw [(ats_cut e m y.2).2, List.length_drop]
    refine ld_r hb (x := (((restPc e x y.2 m).sm.atoms : Nat) : Int)) rfl (sif_r (fun h0 => ?_) (fun h0 => ?_))
    ·simp only [decide_eq_true_eq, gt_iff_lt] at h0
     refine lds_r hb (x := pcT (restPc e x y.2 m)) (fun j v hv => by rw [Nat.zero_add, List.getElem?_toArray]; exact hv) (newO_r fun b32 w10 e10 n10 _ _ => ?_)
     have hbox : SlX w10 ⟨some (at0 b32), 1, 1⟩ 7 (flat c93 [pcT (restPc e x y.2 m)]) := (SlIn.of_box n10 (n := 1) (sz := 7) rfl).x
     have x10 := (e6.trans e9).trans e10
     refine append_rx eParts eParts.ts_ (x := ⟨some (at0 b32), 1, 1⟩) (rowA.ext x10) hbox (Pc_one _) (by
      show (psA.len + 1 + (psA.len + 1) / 4 + 512) * 64 ≤ 2 ^ 48
      omega) (by have := x10.size; omega) fun ps' W4 o4' l4 u4' k4 => ?_
     have ef : flat c93 ((plL ++ plF).map pcT) ++ flat c93 [pcT (restPc e x y.2 m)] = flat c93 ((plL ++ plF ++ [restPc e x y.2 m]).map pcT) := by rw [List.map_append (l₁ := plL ++ plF), flat_append]; rfl
     rw [ef] at o4'
     refine ⟨[restPc e x y.2 m], [(restTag y.1 (cutAt e y.2 m), y.2.drop (cutAt e y.2 m))], o4', ⟨rest_in hp (by omega), trivial⟩, ?_, ?_, ?_, (Upd.of_ext x10).trans u4'⟩
     ·show ats e (y.2.drop (cutAt e y.2 m)) ++ [] = _
      rw [List.append_nil]; unfold cutAt
      rw [(ats_cut e m y.2).2]
     ·intro z hz k hk
      rw [List.mem_singleton.1 hz] at hk
      exact pO x (List.mem_of_getElem? hx) k (cut_blk hk)
     ·intro z hz k hk hk'
      rw [List.mem_singleton.1 hz] at hk ⊢
      have hcl := cutAt_le e y.2 m
      have hlen := hp.by_.len
      exact Nat.le_trans (cut_top hp.by_ (l := (cutAt e y.2 m : Int)) (h := (x.bytes.len : Int)) (by omega) (by omega) (by omega)) (tops x (List.mem_of_getElem? hx) k (cut_blk hk) hk')
    ·simp only [decide_eq_false_iff_not, gt_iff_lt] at h0
     refine ⟨[], [], ?_, trivial, ?_, (fun x hx => by cases hx), (fun x hx => by cases hx), Upd.of_ext (e6.trans e9)⟩
     ·rw [List.append_nil]; exact rowA.ext (e6.trans e9)
     ·show [] = (ats e y.2).drop m
      rw [List.drop_eq_nil_of_le (by omega)]
 rintro ⟨psR, _⟩ w6 ⟨plR, MR, rowR, itsR, hMR, oR, topR, u6⟩
 dsimp only at rowR ⊢
 rw [← hMR] at tk2
 have nt6 : ∀ t, t ≠ 93 → NoTy w5 psA.blk t := fun t ht => NoTy.blk rowA.in (fun h => ht h.symm)
 have tx6 : w6.heap[p]? = some (txO e lim tr.ptr a) := u6.get tx5 fun hk => nt6 86 (by decide) _ hk _ _ tx5
 have own6 := own5.ty u6 (nt6 _ (by decide))
 have itsF6 := itsF5.ty u6 (nt6 _ (by decide))
 have ht6 : tr.In w6 := ht5.ty u6 (nt6 _ (by decide))
 have o6 := o5.ty u6 (nt6 _ (by decide))
 refine drew_r fun w7 e7 _ => rdTree (e7.ext_get tx6) (rdTree (e7.ext_get tx6) (tsize_call (ht6.ext e7) fun w8 e8 => ?_))
 have x8 := e7.trans e8
 have tx8 := x8.ext_get tx6
 refine keep_r ?_ ?_
 ·rw [addr_add]
  refine cellsAt_of _ 0 fun q v hv => cell_of tx8 ?_
  match q, hv with
  | 0, hv => exact hv
  | q + 1, hv => cases hv
 have emin : (if ((tr.items.length : Nat) : Int) < IntKind.wrap .i64 ((j : Int) + 1) then ((tr.items.length : Nat) : Int) else IntKind.wrap .i64 ((j : Int) + 1)) = ((min (j + 1) tr.items.length : Nat) : Int) := by
  rw [wrap64 (by omega) (by omega)]
  split <;> omega
 rw [emin]
 have old_its : ∀ {l : List Pc} {N : Parts}, Its w e l N → (∀ x ∈ l, ∀ k, x.bytes.blk k → a0.blk k → top x.bytes ≤ top a0) → Its w6 e l N := fun hl htp => hl.to fun x hx b hb => (o6 x.bytes b hb (htp x hx)).1
 have its_all : Its w6 e (tr.items.take i ++ (plL ++ plF ++ plR) ++ tr.items.drop (min (j + 1) tr.items.length)) (M.take i ++ (ML ++ MF ++ MR) ++ M.drop (min (j + 1) tr.items.length)) :=
  Its.app (Its.app (old_its (hi.take i) fun x hx => tops x (List.mem_of_mem_take hx)) (Its.app (Its.app (old_its itsL topL) itsF6) (old_its itsR topR))) (old_its (hi.drop _) fun x hx => tops x (List.mem_of_mem_drop hx))
 have ed : M.drop (min (j + 1) tr.items.length) = M.drop (j + 1) := by
  by_cases hc : j + 1 ≤ tr.items.length
  ·rw [Nat.min_eq_left hc]
  ·rw [List.drop_eq_nil_of_le (by omega), List.drop_eq_nil_of_le (by omega)]
 have ea : aOf e (M.take i ++ (ML ++ MF ++ MR) ++ M.drop (min (j + 1) tr.items.length)) = (aOf e M).take from_ ++ prs e put ++ (aOf e M).drop to_ := by
  rw [ed, aOf_app, aOf_app, aOf_app, aOf_app, tk1, tk2, hMF]
  simp only [List.append_assoc]
 have hsA : szs (aOf e (M.take i ++ (ML ++ MF ++ MR) ++ M.drop (min (j + 1) tr.items.length))) < 2 ^ 59 := by rw [ea]; omega
 have hFine := its_all.fine hsA
 have hjl : min (j + 1) tr.items.length ≤ tr.items.length := Nat.min_le_right _ _
 have hi_le : i ≤ min (j + 1) tr.items.length := by
  rcases hs1 with ⟨_, rfl, _⟩ | ⟨x, hx, _⟩
  ·exact Nat.zero_le _
  ·have := (List.getElem?_eq_some_iff.1 hx).1; omega
 refine replace_call (t := tr) (n := i) (m := min (j + 1) tr.items.length) (l := plL ++ plF ++ plR) (ht6.ext x8) (rowR.in.ext x8) hf hFine.left.right hi_le hjl hFine fun t' w9 ht' hti e9 => ?_
 have x9 := x8.trans e9
 have tx9 := x9.ext_get tx6
 simp only [nn_eqT, addr_add]
 refine aggSt_r tx9 rfl rfl (by show 0 + 2 + 1 ≤ 4; decide) fun w10 u10 n10 _ => ?_
 have n10 : w10.heap[p]? = some (txO e lim t'.ptr a) := n10
 have nt10 : ∀ t, t ≠ 86 → NoTy w9 (fun k => k = p) t := fun t ht => NoTy.box tx9 (fun h => ht h.symm)
 have ht10 : t'.In w10 := ht'.ty u10 (nt10 _ (by decide))
 have o10 : Old w w10 a0 a := (o6.ty x9 (no_ext _ _)).ty u10 (nt10 _ (by decide))
 have uA : Upd (Wr w O) w w10 := by
  have hp' : Wr w O p := ⟨h.op, NoTy.box tx (by decide) p rfl⟩
  have v3 : Upd (Wr w O) w w3 := Upd.of_ext x3
  have v4 : Upd (Wr w O) w w4 := v3.trans (u4.mono fun k _ hk => hk.elim (fun h => h ▸ hp') fun h => ⟨aO k h, NoTy.blk own.in (by decide) k h⟩)
  have v5 : Upd (Wr w O) w w5 := v4.new u5 fun k hk hS => by have := rowL4.blk_ge hS; have := x2.size; omega
  have v6 : Upd (Wr w O) w w6 := v5.new u6 fun k hk hS => by have := rowA.blk_ge hS; have := x2.size; omega
  exact (v6.trans (Upd.of_ext x9)).trans (u10.mono fun k _ hk => hk ▸ hp')
 have hsz10 := uA.size
 have own10 := (own6.ext x9).ty u10 (nt10 _ (by decide))
 have hlA : (ab ++ bts e put).length = a.len := by have := own10.len1; rwa [List.length_map] at this
 rw [List.length_append] at hlA
 refine hK (fun k => O k ∨ (w.heap.size ≤ k ∧ k < w10.heap.size)) (M.take i ++ (ML ++ MF ++ MR) ++ M.drop (min (j + 1) tr.items.length)) w10 ⟨⟨t', a, ab ++ bts e put, n10, ht10, ?_, own10, ?_, ?_, ?_, by omega⟩, lims, by rw [ea]; exact hroom, .inl h.op, ?_⟩ ea uA (fun k hk => .inl hk) (fun k hk => hk.imp id fun h => h.1)
 ·rw [hti]
  exact (its_all.ext x9).ty u10 (nt10 _ (by decide))
 ·rw [hti]
  have oldT : ∀ x : Pc, (∃ b, By w x.bytes b) → (∀ k, x.bytes.blk k → a0.blk k → top x.bytes ≤ top a0) → ∀ k, x.bytes.blk k → a.blk k → top x.bytes ≤ top a := fun x ⟨b, hb⟩ htp => (o10 x.bytes b hb htp).2
  intro x hx
  rcases List.mem_append.1 hx with hx | hx
  ·rcases List.mem_append.1 hx with hx | hx
   ·exact oldT x (hi.by_ x (List.mem_of_mem_take hx)) (tops x (List.mem_of_mem_take hx))
   ·rcases List.mem_append.1 hx with hx | hx
    ·rcases List.mem_append.1 hx with hx | hx
     ·exact oldT x (itsL.by_ x hx) (topL x hx)
     ·exact topF x hx
    ·exact oldT x (itsR.by_ x hx) (topR x hx)
  ·exact oldT x (hi.by_ x (List.mem_of_mem_drop hx)) (tops x (List.mem_of_mem_drop hx))
 ·rw [hti]
  intro x hx k hk
  have new : w3.heap.size ≤ k → (∃ b, By w10 x.bytes b) → O k ∨ (w.heap.size ≤ k ∧ k < w10.heap.size) := fun h1 ⟨b, hb⟩ => .inr ⟨by have := x3.size; omega, hb.blk_lt hk⟩
  rcases List.mem_append.1 hx with hx | hx
  ·rcases List.mem_append.1 hx with hx | hx
   ·exact .inl (pO x (List.mem_of_mem_take hx) k hk)
   ·rcases List.mem_append.1 hx with hx | hx
    ·rcases List.mem_append.1 hx with hx | hx
     ·exact .inl (oL x hx k hk)
     ·rcases blkF x hx k hk with h1 | h1
      ·exact .inl (aO k h1)
      ·exact new h1 (((itsF6.ext x9).ty u10 (nt10 _ (by decide))).by_ x hx)
    ·exact .inl (oR x hx k hk)
  ·exact .inl (pO x (List.mem_of_mem_drop hx) k hk)
 ·intro k hk
  rcases blkA k hk with h1 | h1
  ·exact .inl (aO k h1)
  ·exact .inr ⟨by have := x3.size; omega, own10.in.blk_lt hk⟩
 ·intro k hk
  rcases hk with hk | hk
  ·have := h.own k hk; omega
  ·exact hk.2
end
section
variable {w w' W W' : World} {S : Nat → Prop} {p : Nat} {e : Enc} {lim na : Nat} {O : Nat → Prop} {M : Parts} {tp : Option Addr} {a0 a : Sl}
theorem Txt.lim_ (h : Txt w p e lim na O M) : w.cell? ⟨p, 1, none⟩ = some (.int .i64 (lim : Int)) := by
 obtain ⟨t, a, ab, h1, _⟩ := h.ex
 exact cell_of h1 rfl
theorem szs_prs_take (e : Enc) (l : List Int) {i : Nat} {v : Int} (hv : l[i]? = some v) : szs (prs e (l.take (i + 1))) = szs (prs e (l.take i)) + sz e v := by
 rw [List.take_add_one, hv]
 simp [prs, szs_append, szs_cons, szs_nil]
theorem szs_prs_le (e : Enc) (l : List Int) (i : Nat) : szs (prs e (l.take i)) ≤ szs (prs e l) := by
 have : prs e l = prs e (l.take i) ++ prs e (l.drop i) := by unfold prs; rw [← List.map_append, List.take_append_drop]
 rw [this, szs_append]; omega
end
namespace Cdc
structure LEd where
 f : Int
 t : Int
 put : List Int
theorem sz_le (e : Enc) (v : Int) : sz e v ≤ 4 := by
 cases e with
 | u8 => show sz8 v ≤ 4; unfold sz8; (repeat' split) <;> omega
 | le => show sz16 v ≤ 4; unfold sz16; (repeat' split) <;> omega
 | be => show sz16 v ≤ 4; unfold sz16; (repeat' split) <;> omega
 | l1 => show sz1 v ≤ 4; unfold sz1; (repeat' split) <;> omega
end Cdc
def rngs (n : Int) : Int → List LEd → Bool
 | _, [] => true
 | a, x :: r => decide (a ≤ x.f ∧ x.f ≤ x.t ∧ x.t ≤ n) && rngs n x.t r
def fitsB (e : Enc) (es : List LEd) : Bool := es.all fun x => x.put.all fun a => sz e a != 0
def putsz (e : Enc) : List LEd → Nat
 | [] => 0
 | x :: r => szs (prs e x.put) + putsz e r
def goneE (A : As) : List LEd → Nat
 | [] => 0
 | x :: r => (szs (A.take x.t.toNat) - szs (A.take x.f.toNat)) + goneE A r
def refuseP (e : Enc) (lim : Nat) (A : As) (es : List LEd) : Int :=
 if 70000 < es.length then 3 else if rngs A.length 0 es = false then 2 else if fitsB e es = false then 11 else if lim + goneE A es < szs A + putsz e es then 50 else 0
def applyE (e : Enc) (A : As) : List LEd → As
 | [] => A
 | x :: r => (applyE e A r).take x.f.toNat ++ prs e x.put ++ (applyE e A r).drop x.t.toNat
theorem putsz_app (e : Enc) : ∀ (l m : List LEd), putsz e (l ++ m) = putsz e l + putsz e m
 | [], m => by simp [putsz]
 | x :: l, m => by rw [List.cons_append, putsz, putsz, putsz_app e l m]; omega
theorem goneE_app (A : As) : ∀ (l m : List LEd), goneE A (l ++ m) = goneE A l + goneE A m
 | [], m => by simp [goneE]
 | x :: l, m => by rw [List.cons_append, goneE, goneE, goneE_app A l m]; omega
theorem fitsB_app (e : Enc) (l m : List LEd) : fitsB e (l ++ m) = (fitsB e l && fitsB e m) := by unfold fitsB; rw [List.all_append]
theorem szs_take_le (A : As) {i j : Nat} (h : i ≤ j) : szs (A.take i) ≤ szs (A.take j) := by
 have : A.take j = A.take i ++ (A.take j).drop i := by
  conv => lhs; rw [← List.take_append_drop i (A.take j)]
  rw [List.take_take, Nat.min_eq_left h]
 rw [this, szs_append]; omega
theorem szs_all_le (A : As) (i : Nat) : szs (A.take i) ≤ szs A := by
 conv => rhs; rw [← List.take_append_drop i A]
 rw [szs_append]; omega
theorem rngs_get {n : Int} : ∀ {es : List LEd} {a : Int} {i : Nat} {x : LEd}, rngs n a es = true → es[i]? = some x → (if i = 0 then a else ((es[i - 1]?).map (·.t)).getD 0) ≤ x.f ∧ a ≤ x.f ∧ x.f ≤ x.t ∧ x.t ≤ n ∧ rngs n x.t (es.drop (i + 1)) = true
 | [], a, i, x, _, hx => by simp at hx
 | y :: r, a, 0, x, h, hx => by
  simp at hx; subst hx
  rw [rngs, Bool.and_eq_true, decide_eq_true_eq] at h
  exact ⟨h.1.1, h.1.1, h.1.2.1, h.1.2.2, h.2⟩
 | y :: r, a, i + 1, x, h, hx => by
  rw [rngs, Bool.and_eq_true, decide_eq_true_eq] at h
  have hx' : r[i]? = some x := by simpa using hx
  obtain ⟨g1, g2, g3, g4, g5⟩ := rngs_get h.2 hx'
  refine ⟨?_, by omega, g3, g4, g5⟩
  rw [if_neg (by omega)]
  cases i with
  | zero => simpa using g1
  | succ i =>
   rw [if_neg (by omega)] at g1
   simpa using g1
theorem apply_head {e : Enc} {A : As} : ∀ {es : List LEd} {a : Int}, 0 ≤ a → a ≤ A.length → rngs A.length a es = true → a.toNat ≤ (applyE e A es).length ∧ (applyE e A es).take a.toNat = A.take a.toNat
 | [], a, h0, h1, _ => ⟨by rw [applyE]; omega, rfl⟩
 | x :: r, a, h0, h1, h => by
  rw [rngs, Bool.and_eq_true, decide_eq_true_eq] at h
  obtain ⟨⟨g1, g2, g3⟩, g4⟩ := h
  obtain ⟨i1, i2⟩ := apply_head (e := e) (A := A) (a := x.t) (by omega) g3 g4
  have hB : (applyE e A r).take x.f.toNat = A.take x.f.toNat := by
   have := congrArg (List.take x.f.toNat) i2
   rw [List.take_take, List.take_take, Nat.min_eq_left (by omega)] at this
   exact this
  rw [applyE, hB]
  have hl : (A.take x.f.toNat).length = x.f.toNat := by rw [List.length_take]; omega
  constructor
  ·rw [List.length_append, List.length_append, hl]; omega
  ·rw [List.append_assoc, List.take_append_of_le_length (by rw [hl]; omega), List.take_take, Nat.min_eq_left (by omega)]
theorem gone_le {A : As} : ∀ {es : List LEd} {a : Int}, 0 ≤ a → rngs A.length a es = true → goneE A es + szs (A.take a.toNat) ≤ szs A
 | [], a, _, _ => by rw [goneE]; have := szs_all_le A a.toNat; omega
 | x :: r, a, h0, h => by
  rw [rngs, Bool.and_eq_true, decide_eq_true_eq] at h
  obtain ⟨⟨g1, g2, g3⟩, g4⟩ := h
  have ih := gone_le (A := A) (a := x.t) (by omega) g4
  have h1 := szs_take_le A (i := a.toNat) (j := x.f.toNat) (by omega)
  have h2 := szs_take_le A (i := x.f.toNat) (j := x.t.toNat) (by omega)
  rw [goneE]; omega
theorem apply_szs {e : Enc} {A : As} : ∀ {es : List LEd} {a : Int}, 0 ≤ a → a ≤ A.length → rngs A.length a es = true → szs (applyE e A es) + goneE A es = szs A + putsz e es
 | [], a, _, _, _ => by rw [applyE, goneE, putsz]
 | x :: r, a, h0, h1, h => by
  rw [rngs, Bool.and_eq_true, decide_eq_true_eq] at h
  obtain ⟨⟨g1, g2, g3⟩, g4⟩ := h
  have ih := apply_szs (e := e) (A := A) (a := x.t) (by omega) g3 g4
  obtain ⟨i1, i2⟩ := apply_head (e := e) (A := A) (a := x.t) (by omega) g3 g4
  have hB : (applyE e A r).take x.f.toNat = A.take x.f.toNat := by
   have := congrArg (List.take x.f.toNat) i2
   rw [List.take_take, List.take_take, Nat.min_eq_left (by omega)] at this
   exact this
  have h3 : szs (applyE e A r) = szs (A.take x.t.toNat) + szs ((applyE e A r).drop x.t.toNat) := by
   conv => lhs; rw [← List.take_append_drop x.t.toNat (applyE e A r)]
   rw [szs_append, i2]
  have h2 := szs_take_le A (i := x.f.toNat) (j := x.t.toNat) (by omega)
  rw [applyE, szs_append, szs_append, hB, goneE, putsz]
  omega
section
variable {w w' W W' : World} {S : Nat → Prop} {p : Nat} {e : Enc} {lim na : Nat} {O : Nat → Prop} {M : Parts}
structure EdIn (w : World) (s : Sl) (ty : TypeId) (ys : List (Cells.T c103)) (es : List LEd) : Prop where
 row : SlIn w s ty 3 (flat c103 ys)
 len : ys.length = es.length
 each : ∀ (i : Nat) y x, ys[i]? = some y → es[i]? = some x → y.1 = x.f ∧ y.2.1 = x.t ∧ (∃ t, SlIn w y.2.2.1 t 1 (iv x.put)) ∧ x.put.length ≤ 2 ^ 44
theorem puts_le (e : Enc) : ∀ (l : List LEd), (∀ x ∈ l, x.put.length ≤ 2 ^ 44) → putsz e l ≤ 70368744177664 * l.length
 | [], _ => by simp [putsz]
 | x :: l, h => by
  have ih := puts_le e l fun y hy => h y (List.mem_cons_of_mem _ hy)
  have h1 := h x List.mem_cons_self
  have h2 : ∀ m : List Int, szs (prs e m) ≤ 4 * m.length := by
   intro m
   induction m with
   | nil => exact Nat.le_refl _
   | cons a m ih =>
    show Cdc.szs ((a, sz e a) :: prs e m) ≤ _
    rw [szs_cons, List.length_cons]
    have := sz_le e a
    show sz e a + _ ≤ _
    omega
  have := h2 x.put
  rw [putsz, List.length_cons]; omega
abbrev edO (f t : Int) (s : Sl) : Obj := .cells #[.int .i64 f, .int .i64 t, .slice s.a s.len s.cap] 103 (0, 0)
set_option maxHeartbeats 1000000 in
theorem refuseG_call {s : Sl} {ty : TypeId} {ys : List (Cells.T c103)} {es : List LEd} (h : Txt w p e lim na O M) (hE : EdIn w s ty ys es) {K : Int → World → Prop} (hK : ∀ w', Ext w w' → K (refuseP e lim (aOf e M) es) w') :
  callT Tryz.prog 63 #[.pointer (some (at0 p)), .slice s.a s.len s.cap] (.one (.one (.int .i64))) K w := by
 refine F63_calls ?_
 unfold F63
 have few := h.few; have lims := h.lims; have hsz := h.sz
 have hyl : ys.length = s.len := SlIn.lenR (cs := c103) hE.row (by decide)
 have hel := hE.len
 obtain ⟨A, hA⟩ : ∃ A, A = aOf e M := ⟨_, rfl⟩
 rw [← hA] at few hsz
 have small : ∀ x ∈ es, x.put.length ≤ 2 ^ 44 := fun x hx => by
  obtain ⟨i, hi⟩ := List.getElem?_of_mem hx
  obtain ⟨y, hy⟩ : ∃ y, ys[i]? = some y := ⟨_, List.getElem?_eq_getElem (by have := (List.getElem?_eq_some_iff.1 hi).1; omega)⟩
  exact (hE.each i y x hy hi).2.2.2
 unfold refuseP at hK
 rw [← hA] at hK
 refine sif_r (fun hc => ?_) (fun hc => ?_)
 ·simp only [decide_eq_true_eq, gt_iff_lt] at hc
  have := hK w (Ext.refl w)
  rw [if_pos (by omega)] at this
  exact this
 simp only [decide_eq_false_iff_not, gt_iff_lt] at hc
 rw [if_neg (by omega)] at hK
 have few2 : es.length ≤ 70000 := by omega
 have rdE : ∀ {V : World} {K : Addr → Cells.T c103 → World → Prop} {i : Nat} {y : Cells.T c103}, Ext w V → ys[i]? = some y → (∀ q, K q y V) → ix s.a s.len (i : Int) (fun q => lds c103 (q.add (scaled (Int.toNat (i : Int)) 3)) (K q)) V := fun x hy hk => ix_lds (cs := c103) (xs := ys) (hE.row.ext x) (by decide) (by omega) (by rw [Int.toNat_natCast]; exact hy) hk
 have get : ∀ i, i < es.length → ∃ y x, ys[i]? = some y ∧ es[i]? = some x := fun i hi => ⟨_, _, List.getElem?_eq_getElem (by omega), List.getElem?_eq_getElem hi⟩
 have ewi : ∀ i : Nat, i < es.length → IntKind.wrap .i64 ((i : Int) + 1) = ((i + 1 : Nat) : Int) := fun i hi => by rw [wrap64 (by omega) (by omega)]; omega
 refine len_call h fun w1 e1 => ?_
 have hlA : ((aOf e M).length : Int) = (A.length : Int) := by rw [hA]
 rw [hlA]
 refine join_r (fun _ W => rngs A.length 0 es = true ∧ Ext w W) ?_ ?_
 ·refine sloop_r (fun x W => ∃ i : Nat, x.2 = ((i : Int), ()) ∧ i ≤ es.length ∧ rngs A.length 0 es = rngs A.length x.1 (es.drop i) ∧ Ext w W) (fun x _ => ((es.length : Int) - x.2.1).toNat) ⟨0, rfl, Nat.zero_le _, rfl, e1⟩ ?_
  rintro ⟨a, _⟩ W ⟨i, rfl, hi, hr, eW⟩
  dsimp only at hr ⊢
  refine sif_r (fun hc => ?_) (fun hc => ?_)
  ·simp only [decide_eq_true_eq] at hc
   obtain ⟨y, x, hy, hx⟩ := get i (by omega)
   obtain ⟨y1, y2, _⟩ := hE.each i y x hy hx
   rw [ewi i (by omega)]
   have hd : es.drop i = x :: es.drop (i + 1) := by
    have hl := (List.getElem?_eq_some_iff.1 hx).1
    rw [List.drop_eq_getElem_cons hl]
    rw [List.getElem?_eq_getElem hl] at hx
    cases hx; rfl
   rw [hd, rngs] at hr
   refine rdE eW hy fun q => (St.start W).newO fun b8 w2 S2 e2 => S2.aggSt 0 rfl rfl rfl rfl fun w3 S3 u3 => ?_
   have S3 : St (fun _ => False) W w3 [(b8, edO y.1 y.2.1 y.2.2.1)] := S3
   rw [y1, y2] at S3
   refine join_r (fun z W' => z = (!decide (a ≤ x.f ∧ x.f ≤ x.t ∧ x.t ≤ (A.length : Int)), ()) ∧ w3 = W') ?_ ?_
   ·refine S3.ld 0 rfl (x := x.f) rfl (sif_r (fun g1 => ⟨tupb ?_, rfl⟩) (fun g1 => S3.ld 0 rfl (x := x.t) rfl (S3.ld 0 rfl (x := x.f) rfl (sif_r (fun g2 => ⟨tupb ?_, rfl⟩) (fun g2 => S3.ld 0 rfl (x := x.t) rfl ⟨tupb ?_, rfl⟩)))))
    all_goals simp only [Bool.not_eq_true', decide_eq_true_eq, decide_eq_false_iff_not, true_iff, gt_iff_lt] at *
    all_goals omega
   rintro _ _ ⟨rfl, rfl⟩
   have x3 := eW.trans S3.upd
   refine sif_r (fun hb => ?_) (fun hb => ?_)
   ·have hb : decide (a ≤ x.f ∧ x.f ≤ x.t ∧ x.t ≤ (A.length : Int)) = false := by
     cases hd : decide (a ≤ x.f ∧ x.f ≤ x.t ∧ x.t ≤ (A.length : Int)) with
     | false => rfl
     | true => rw [hd] at hb; exact absurd hb (by decide)
    rw [hb, Bool.false_and] at hr
    have := hK w3 x3
    rw [if_pos hr] at this
    exact this
   ·have hb : decide (a ≤ x.f ∧ x.f ≤ x.t ∧ x.t ≤ (A.length : Int)) = true := by simpa using hb
    rw [hb, Bool.true_and] at hr
    exact S3.ld 0 rfl (x := x.t) rfl ⟨⟨i + 1, rfl, by omega, hr, x3⟩, by omega⟩
  ·simp only [decide_eq_false_iff_not] at hc
   refine ⟨?_, eW⟩
   rw [hr, List.drop_eq_nil_of_le (by omega)]; rfl
 rintro _ w2 ⟨hr, e2⟩
 rw [if_neg (by rw [hr]; decide)] at hK
 refine sizeB_call (h.ext e2) fun w3 e3 => ?_
 have x3 := e2.trans e3
 have hsA : (szs (aOf e M) : Int) = (szs A : Int) := by rw [hA]
 rw [hsA]
 have tk1 : ∀ {i : Nat} {x : LEd}, es[i]? = some x → es.take (i + 1) = es.take i ++ [x] := fun hx => by rw [List.take_add_one, hx]; rfl
 have pl : ∀ i, i ≤ es.length → putsz e (es.take i) ≤ 70368744177664 * i := fun i hi => by
  have := puts_le e (es.take i) fun x hx => small x (List.mem_of_mem_take hx)
  rw [List.length_take, Nat.min_eq_left hi] at this; exact this
 refine join_r (fun x W => x = (((szs A + putsz e es : Nat) : Int), ()) ∧ fitsB e es = true ∧ Ext w W) ?_ ?_
 ·refine sloop_r (fun x W => ∃ i : Nat, x = (((szs A + putsz e (es.take i) : Nat) : Int), (i : Int), ()) ∧ i ≤ es.length ∧ fitsB e (es.take i) = true ∧ Ext w W) (fun x _ => ((es.length : Int) - x.2.1).toNat) ⟨0, rfl, Nat.zero_le _, rfl, x3⟩ ?_
  rintro _ W ⟨i, rfl, hi, hf, eW⟩
  dsimp only
  refine sif_r (fun hc => ?_) (fun hc => ?_)
  ·simp only [decide_eq_true_eq] at hc
   obtain ⟨y, x, hy, hx⟩ := get i (by omega)
   obtain ⟨_, _, ⟨tp, hput⟩, hpl⟩ := hE.each i y x hy hx
   have hpl2 : x.put.length = y.2.2.1.len := by have := hput.len1; rwa [List.length_map] at this
   have p1 := pl i hi
   rw [ewi i (by omega)]
   have hst : putsz e (es.take (i + 1)) = putsz e (es.take i) + szs (prs e x.put) := by rw [tk1 hx, putsz_app]; simp [putsz]
   have hsm : ∀ j, szs (prs e (x.put.take j)) ≤ 70368744177664 := fun j => by
    have h1 := szs_prs_le e x.put j
    have h2 := puts_le e [x] fun z hz => by rw [List.mem_singleton.1 hz]; exact hpl
    simp [putsz] at h2
    omega
   refine join_r (fun z W' => z = (((szs A + putsz e (es.take (i + 1)) : Nat) : Int), ()) ∧ fitsB e (es.take (i + 1)) = true ∧ Ext w W') ?_ (fun z W' hz => ⟨⟨i + 1, by rw [hz.1], by omega, hz.2.1, hz.2.2⟩, by omega⟩)
   refine rdE eW hy fun q => (St.start W).newO fun b8 w4 S4 e4 => S4.aggSt 0 rfl rfl rfl rfl fun w5 S5 u5 => S5.ld 0 rfl (x := y.2.2.1) rfl ?_
   refine sloop_r (fun z V => ∃ j : Nat, z = (((szs A + putsz e (es.take i) + szs (prs e (x.put.take j)) : Nat) : Int), (j : Int), ()) ∧ j ≤ x.put.length ∧ (x.put.take j).all (fun a => sz e a != 0) = true ∧ Ext w V) (fun z _ => ((x.put.length : Int) - z.2.1).toNat) ⟨0, by simp [prs, szs_nil], Nat.zero_le _, rfl, eW.trans S5.upd⟩ ?_
   rintro _ V ⟨j, rfl, hj, hall, eV⟩
   dsimp only
   refine sif_r (fun hc => ?_) (fun hc => ?_)
   ·simp only [decide_eq_true_eq] at hc
    obtain ⟨v, hv⟩ : ∃ v, x.put[j]? = some v := ⟨_, List.getElem?_eq_getElem (by omega)⟩
    have ewj : IntKind.wrap .i64 ((j : Int) + 1) = ((j + 1 : Nat) : Int) := by rw [wrap64 (by omega) (by omega)]; omega
    have hstep := szs_prs_take e x.put hv
    have h4 := hsm j
    have h5 := sz_le e v
    refine ix_ld (c := .int .i64) (xs := x.put) (hput.ext eV) (by omega) (x := v) (by rw [Int.toNat_natCast]; exact hv) fun q2 => (h.ext eV).enc (size_call fun w6 e6 => ?_)
    refine sif_r (fun hc => ?_) (fun hc => ?_)
    ·simp only [beq_iff_eq] at hc
     have hno : fitsB e es = false := by
      unfold fitsB
      rw [Bool.eq_false_iff]
      intro hall
      have h1 := List.all_eq_true.1 hall x (List.mem_of_getElem? hx)
      have h2 := List.all_eq_true.1 h1 v (List.mem_of_getElem? hv)
      simp at h2; omega
     have := hK w6 (eV.trans e6)
     rw [if_pos hno] at this
     exact this
    ·simp only [beq_eq_false_iff_ne, ne_eq] at hc
     have ewb : IntKind.wrap .i64 (((szs A + putsz e (es.take i) + szs (prs e (x.put.take j)) : Nat) : Int) + ((sz e v : Nat) : Int)) = ((szs A + putsz e (es.take i) + szs (prs e (x.put.take (j + 1))) : Nat) : Int) := by rw [wrap64 (by omega) (by omega)]; omega
     rw [ewj, ewb]
     refine ⟨⟨j + 1, rfl, by omega, ?_, eV.trans e6⟩, by omega⟩
     rw [List.take_add_one, hv, List.all_append, hall]
     simp; omega
   ·simp only [decide_eq_false_iff_not] at hc
    have hjl : j = x.put.length := by omega
    subst hjl
    rw [List.take_length] at hall
    refine ⟨?_, ?_, eV⟩
    ·rw [List.take_length, hst]; congr 2; omega
    ·rw [tk1 hx, fitsB_app, hf, Bool.true_and]
     unfold fitsB
     simp only [List.all_cons, List.all_nil, Bool.and_true]
     exact hall
  ·simp only [decide_eq_false_iff_not] at hc
   have : es.take i = es := List.take_of_length_le (by omega)
   rw [this] at hf ⊢
   exact ⟨rfl, hf, eW⟩
 rintro _ w4 ⟨rfl, hf, e4⟩
 rw [if_neg (by rw [hf]; decide)] at hK
 have pa := pl es.length (Nat.le_refl _)
 rw [List.take_length] at pa
 have gl := gone_le (A := A) (es := es) (a := 0) (Int.le_refl _) hr
 have g_take : ∀ i, goneE A (es.take i) ≤ goneE A es := fun i => by
  conv => rhs; rw [← List.take_append_drop i es]
  rw [goneE_app]; omega
 refine join_r (fun x W => x = (((szs A + putsz e es - goneE A es : Nat) : Int), ()) ∧ Ext w W) ?_ ?_
 ·refine sloop_r (fun x W => ∃ i : Nat, x = (((szs A + putsz e es - goneE A (es.take i) : Nat) : Int), (i : Int), ()) ∧ i ≤ es.length ∧ Ext w W) (fun x _ => ((es.length : Int) - x.2.1).toNat) ⟨0, rfl, Nat.zero_le _, e4⟩ ?_
  rintro _ W ⟨i, rfl, hi, eW⟩
  dsimp only
  refine sif_r (fun hc => ?_) (fun hc => ?_)
  ·simp only [decide_eq_true_eq] at hc
   obtain ⟨y, x, hy, hx⟩ := get i (by omega)
   obtain ⟨y1, y2, _⟩ := hE.each i y x hy hx
   obtain ⟨_, r2, r3, r4, _⟩ := rngs_get hr hx
   obtain ⟨f, hf'⟩ : ∃ f : Nat, x.f = (f : Int) := ⟨x.f.toNat, by omega⟩
   obtain ⟨t, ht'⟩ : ∃ t : Nat, x.t = (t : Int) := ⟨x.t.toNat, by omega⟩
   have hst : goneE A (es.take (i + 1)) = goneE A (es.take i) + (szs (A.take t) - szs (A.take f)) := by
    rw [tk1 hx, goneE_app]
    simp only [goneE, hf', ht', Int.toNat_natCast]; omega
   have gt := g_take (i + 1)
   have gt0 := g_take i
   have sft := szs_take_le A (i := f) (j := t) (by omega)
   have sta := szs_all_le A t
   rw [ewi i (by omega)]
   refine join_r (fun z W' => z = (((szs A + putsz e es - goneE A (es.take (i + 1)) : Nat) : Int), ()) ∧ Ext w W') ?_ (fun z W' hz => ⟨⟨i + 1, by rw [hz.1], by omega, hz.2⟩, by omega⟩)
   refine rdE eW hy fun q => (St.start W).newO fun b8 w5 S5 e5 => S5.aggSt 0 rfl rfl rfl rfl fun w6 S6 u6 => ?_
   have S6 : St (fun _ => False) W w6 [(b8, edO y.1 y.2.1 y.2.2.1)] := S6
   rw [y1, y2, hf', ht'] at S6
   refine S6.ld 0 rfl (x := (t : Int)) rfl (S6.ld 0 rfl (x := (f : Int)) rfl ?_)
   refine sif_r (fun hc => ?_) (fun hc => ?_)
   ·refine S6.drew fun w7 S7 e7 _ => S7.ld 0 rfl (x := (t : Int)) rfl (S7.ld 0 rfl (x := (f : Int)) rfl ?_)
    refine ahead_call (h.ext (eW.trans S7.upd)) (by rw [← hA]; omega) fun w8 e8 => ?_
    have S8 := S7.ext e8
    refine S8.keep 0 rfl (v := .int .i64 (f : Int)) rfl (ahead_call (h.ext (eW.trans S8.upd)) (by rw [← hA]; omega) fun w9 e9 => ?_)
    rw [← hA]
    have q1 : (smT (msr (A.take t))).2.1 = ((szs (A.take t) : Nat) : Int) := by show (((msr _).bytes : Nat) : Int) = _; rw [msr_bytes (by rw [hA]; exact (aOf_posd e M).take t)]
    have q2 : (smT (msr (A.take f))).2.1 = ((szs (A.take f) : Nat) : Int) := by show (((msr _).bytes : Nat) : Int) = _; rw [msr_bytes (by rw [hA]; exact (aOf_posd e M).take f)]
    rw [q1, q2]
    refine ⟨?_, eW.trans (S8.ext e9).upd⟩
    rw [wrap64 (a := ((szs (A.take t) : Nat) : Int) - ((szs (A.take f) : Nat) : Int)) (by omega) (by omega), wrap64 (by omega) (by omega)]
    congr 1; omega
   ·simp only [decide_eq_false_iff_not, gt_iff_lt] at hc
    have : f = t := by omega
    subst this
    refine ⟨?_, eW.trans S6.upd⟩
    congr 2; omega
  ·simp only [decide_eq_false_iff_not] at hc
   have : es.take i = es := List.take_of_length_le (by omega)
   rw [this]
   exact ⟨rfl, eW⟩
 rintro _ w5 ⟨rfl, e5⟩
 simp only [nn_eqT, addr_add]
 refine ld_of (x := (lim : Int)) (h.ext e5).lim_ (sif_r (fun hc => ?_) (fun hc => ?_))
 ·simp only [decide_eq_true_eq, gt_iff_lt] at hc
  have := hK w5 e5
  rw [if_pos (by omega)] at this
  exact this
 ·simp only [decide_eq_false_iff_not, gt_iff_lt] at hc
  have := hK w5 e5
  rw [if_neg (by omega)] at this
  exact this
set_option maxHeartbeats 1000000 in
theorem changeG_call {s : Sl} {ty : TypeId} {ys : List (Cells.T c103)} {es : List LEd} (h : Txt w p e lim na O M) (hE : EdIn w s ty ys es) (hs1 : szs (aOf e M) ≤ lim) (hsep : ∀ k, s.blk k → ¬ O k) (hsp : ∀ (i : Nat) y, ys[i]? = some y → ∀ k, y.2.2.1.blk k → ¬ O k) (hna : na + 200000 < 2 ^ 40) {K : Int → World → Prop}
  (hno : ∀ c w', c ≠ 0 → refuseP e lim (aOf e M) es = c → Ext w w' → K c w')
  (hyes : refuseP e lim (aOf e M) es = 0 → ∀ O' M' w', Txt w' p e lim (na + putsz e es) O' M' → aOf e M' = applyE e (aOf e M) es → szs (aOf e M') ≤ lim → Upd (Wr w O) w w' → (∀ k, O k → O' k) → (∀ k, O' k → O k ∨ w.heap.size ≤ k) → K 0 w') :
  callT Tryz.prog 34 #[.pointer (some (at0 p)), .slice s.a s.len s.cap] (.one (.one (.int .i64))) K w := by
 refine F34_calls ?_
 unfold F34
 have lims := h.lims; have hsz := h.sz
 have hyl : ys.length = s.len := SlIn.lenR (cs := c103) hE.row (by decide)
 have hel := hE.len
 refine refuseG_call h hE fun w1 e1 => ?_
 refine sif_r (fun hc => hno _ w1 (by simpa using hc) rfl e1) (fun hc => ?_)
 have h0 : refuseP e lim (aOf e M) es = 0 := by simpa using hc
 have yes := hyes h0
 obtain ⟨A, hA⟩ : ∃ A, A = aOf e M := ⟨_, rfl⟩
 rw [← hA] at h0 yes hs1
 unfold refuseP at h0
 split at h0
 ·cases h0
 rename_i few2
 split at h0
 ·cases h0
 rename_i hr
 split at h0
 ·cases h0
 rename_i hf
 split at h0
 ·cases h0
 rename_i hroom
 have hr : rngs A.length 0 es = true := by simpa using hr
 have hf : fitsB e es = true := by simpa using hf
 have gl := gone_le (A := A) (es := es) (a := 0) (Int.le_refl _) hr
 have fin := apply_szs (e := e) (A := A) (es := es) (a := 0) (Int.le_refl _) (by omega) hr
 have pd : ∀ m, putsz e (es.drop m) ≤ putsz e es := fun m => by
  conv => rhs; rw [← List.take_append_drop m es]
  rw [putsz_app]; omega
 have ew0 : IntKind.wrap .i64 ((s.len : Int) - 1) = (es.length : Int) - 1 := by rw [wrap64 (by omega) (by omega)]; omega
 rw [ew0]
 have hlow := h.own
 refine join_r (fun _ W => ∃ O' M', Txt W p e lim (na + putsz e es) O' M' ∧ aOf e M' = applyE e A es ∧ Upd (Wr w O) w W ∧ (∀ k, O k → O' k) ∧ (∀ k, O' k → O k ∨ w.heap.size ≤ k)) ?_ (fun _ W ⟨O', M', g1, g2, g3, g4, g5⟩ => yes O' M' W g1 g2 (by rw [g2]; omega) g3 g4 g5)
 refine sloop_r (fun x W => ∃ j : Nat, x = ((j : Int) - 1, ()) ∧ j ≤ es.length ∧ ∃ O' M', Txt W p e lim (na + putsz e (es.drop j)) O' M' ∧ aOf e M' = applyE e A (es.drop j) ∧ Upd (Wr w O) w W ∧ (∀ k, O k → O' k) ∧ (∀ k, O' k → O k ∨ w.heap.size ≤ k)) (fun x _ => (x.1 + 1).toNat) ⟨es.length, rfl, Nat.le_refl _, O, M, by rw [List.drop_length]; exact h.ext e1, by rw [List.drop_length, applyE, hA], Upd.of_ext e1, fun k hk => hk, fun k hk => .inl hk⟩ ?_
 rintro _ W ⟨j, rfl, hj, O', M', tx, ha, u, o1, o2⟩
 dsimp only
 refine sif_r (fun hc => ?_) (fun hc => ?_)
 ·simp only [decide_eq_true_eq, ge_iff_le] at hc
  obtain ⟨m, rfl⟩ : ∃ m, j = m + 1 := ⟨j - 1, by omega⟩
  obtain ⟨x, hx⟩ : ∃ x, es[m]? = some x := ⟨_, List.getElem?_eq_getElem (by omega)⟩
  obtain ⟨y, hy⟩ : ∃ y, ys[m]? = some y := ⟨_, List.getElem?_eq_getElem (by omega)⟩
  obtain ⟨y1, y2, ⟨tp, hput⟩, hpl⟩ := hE.each m y x hy hx
  obtain ⟨_, r2, r3, r4, r5⟩ := rngs_get hr hx
  obtain ⟨f, hf'⟩ : ∃ f : Nat, x.f = (f : Int) := ⟨x.f.toNat, by omega⟩
  obtain ⟨t, ht'⟩ : ∃ t : Nat, x.t = (t : Int) := ⟨x.t.toNat, by omega⟩
  have hpl2 : x.put.length = y.2.2.1.len := by have := hput.len1; rwa [List.length_map] at this
  have hd : es.drop m = x :: es.drop (m + 1) := by
   have hl := (List.getElem?_eq_some_iff.1 hx).1
   rw [List.drop_eq_getElem_cons hl]
   rw [List.getElem?_eq_getElem hl] at hx
   cases hx; rfl
  have rm : rngs A.length x.f (es.drop m) = true := by
   rw [hd, rngs, Bool.and_eq_true, decide_eq_true_eq]
   exact ⟨⟨Int.le_refl _, r3, r4⟩, r5⟩
  have ap := apply_szs (e := e) (A := A) (es := es.drop m) (a := x.f) (by omega) (by omega) rm
  have hd1 := apply_head (e := e) (A := A) (es := es.drop (m + 1)) (a := x.t) (by omega) r4 r5
  have ape : applyE e A (es.drop m) = (applyE e A (es.drop (m + 1))).take f ++ prs e x.put ++ (applyE e A (es.drop (m + 1))).drop t := by
   rw [hd, applyE, hf', ht', Int.toNat_natCast, Int.toNat_natCast]
  have pe : putsz e (es.drop m) = putsz e (es.drop (m + 1)) + szs (prs e x.put) := by rw [hd, putsz]; omega
  have p1 := pd m
  have p2 := pd (m + 1)
  have fit : Fits e x.put := fun a ha => by
   have h1 := List.all_eq_true.1 hf x (List.mem_of_getElem? hx)
   have h2 := List.all_eq_true.1 h1 a ha
   simpa using h2
  have hbl := bts_len fit
  have hput2 : x.put.length ≤ szs (prs e x.put) := by
   have : (prs e x.put).length ≤ szs (prs e x.put) := szs_ge fun z hz => by
    obtain ⟨a, ha, rfl⟩ := List.mem_map.1 hz
    have := fit a ha
    show 1 ≤ sz e a
    omega
   unfold prs at this ⊢
   rwa [List.length_map] at this
  have em : ((m + 1 : Nat) : Int) - 1 = (m : Int) := by omega
  rw [em]
  have ewm : IntKind.wrap .i64 ((m : Int) - 1) = (m : Int) - 1 := by rw [wrap64 (by omega) (by omega)]
  rw [ewm]
  have rowW := hE.row.upd u fun k hk hq => hsep k hk hq.1
  have putW := hput.upd u fun k hk hq => hsp m y hy k hk hq.1
  refine join_r (fun _ W' => ∃ O' M', Txt W' p e lim (na + putsz e (es.drop m)) O' M' ∧ aOf e M' = applyE e A (es.drop m) ∧ Upd (Wr w O) w W' ∧ (∀ k, O k → O' k) ∧ (∀ k, O' k → O k ∨ w.heap.size ≤ k)) ?_ (fun _ W' hW => ⟨⟨m, rfl, by omega, hW⟩, by omega⟩)
  refine ix_lds (cs := c103) (xs := ys) rowW (by decide) (by omega) (x := y) (by rw [Int.toNat_natCast]; exact hy) fun q => (St.start W).newO fun b8 w2 S2 e2 => S2.aggSt 0 rfl rfl rfl rfl fun w3 S3 u3 => ?_
  have S3 : St (fun _ => False) W w3 [(b8, edO y.1 y.2.1 y.2.2.1)] := S3
  rw [y1, y2, hf', ht'] at S3
  refine join_r (fun z W' => z = (decide (f < t ∨ 0 < x.put.length), ()) ∧ w3 = W') ?_ ?_
  ·refine S3.ld 0 rfl (x := (f : Int)) rfl (S3.ld 0 rfl (x := (t : Int)) rfl (sif_r (fun hc => ⟨tupb ?_, rfl⟩) (fun hc => S3.ld 0 rfl (x := y.2.2.1) rfl ⟨tupb ?_, rfl⟩)))
   all_goals simp only [decide_eq_true_eq, decide_eq_false_iff_not, true_iff, gt_iff_lt] at *
   all_goals omega
  rintro _ _ ⟨rfl, rfl⟩
  have x3 := S3.upd
  have u3' := u.trans (Upd.of_ext x3)
  refine sif_r (fun hc => ?_) (fun hc => ?_)
  ·refine S3.ld 0 rfl (x := (f : Int)) rfl (S3.ld 0 rfl (x := (t : Int)) rfl (S3.ld 0 rfl (x := y.2.2.1) rfl ?_))
   refine treplace_call (tx.ext x3) (by omega) (by rw [ha]; omega) (putW.ext x3) (fun k hk hO => ?_) fit (by omega) (by omega) (by rw [ha, ← ape]; omega) fun O2 M2 w4 tx4 ea u4 g1 g2 => ?_
   ·rcases o2 k hO with hh | hh
    ·exact hsp m y hy k hk hh
    ·have := hput.blk_lt hk; omega
   ·refine ⟨O2, M2, ?_, by rw [ea, ha, ape], ?_, fun k hk => g1 k (o1 k hk), fun k hk => ?_⟩
    ·rw [pe, ← hbl, ← Nat.add_assoc]; exact tx4
    ·refine Upd.new u3' u4 fun k hk hq => ⟨(o2 k hq.1).elim id fun hh => by omega, fun c fr hn => ?_⟩
     exact hq.2 c fr (u3'.get hn fun hw => hw.2 c fr hn)
    ·rcases g2 k hk with hh | hh
     ·exact o2 k hh
     ·have := u3'.size; exact .inr (by omega)
  ·simp only [decide_eq_false_iff_not, not_or] at hc
   obtain rfl : f = t := by omega
   have hp0 : x.put = [] := List.length_eq_zero_iff.1 (by omega)
   refine ⟨O', M', ?_, ?_, u3', o1, o2⟩
   ·rw [pe, hp0]; exact tx.ext x3
   ·rw [ha, ape, hp0]; simp [prs]
 ·simp only [decide_eq_false_iff_not, ge_iff_le] at hc
  obtain rfl : j = 0 := by omega
  exact ⟨O', M', tx, ha, u, o1, o2⟩
end
end Go.Proofs.YtolhlldgnfbemaaGreat
namespace Go.Proofs.YtolhlldgnfbemaaGreat
open Go Go.Vx Go.ChangeShapes Go.WideShapes Go.RowKit Cdc
theorem Tryz.own : ownKnob Tryz.prog.godebug = none := by kernel_rfl
theorem Tryz.laidOut : laidOutB Tryz.prog = true := by kernel_rfl
theorem ui : Tryz.prog.underlying 3 = some (.int .i64) := i3_ok.und
theorem ub : Tryz.prog.underlying 5 = some (.int .u8) := i5_ok.und
theorem u4 : Tryz.prog.underlying 4 = some .bool := i4_ok.und
theorem uInts : Tryz.prog.underlying 37 = some (.slice 3) := i37_ok.und
theorem uBytes : Tryz.prog.underlying 22 = some (.slice 5) := i22_ok.und
theorem uEdits : Tryz.prog.underlying 69 = some (.slice 103) := by kernel_rfl
theorem uEditss : Tryz.prog.underlying 23 = some (.slice 69) := by kernel_rfl
theorem uAsks : Tryz.prog.underlying 24 = some (.slice 33) := by kernel_rfl
theorem ci : Tryz.prog.cellsOf 3 = 1 := by kernel_rfl
theorem cby : Tryz.prog.cellsOf 5 = 1 := by kernel_rfl
theorem bby : Tryz.prog.bytesOf 5 = 1 := by kernel_rfl
theorem cbo : Tryz.prog.cellsOf 4 = 1 := by kernel_rfl
theorem cbs : Tryz.prog.cellsOf 22 = 1 := by kernel_rfl
theorem cis : Tryz.prog.cellsOf 37 = 1 := by kernel_rfl
theorem ced : Tryz.prog.cellsOf 103 = 3 := by kernel_rfl
theorem ceds : Tryz.prog.cellsOf 69 = 1 := by kernel_rfl
theorem cess : Tryz.prog.cellsOf 23 = 1 := by kernel_rfl
theorem cas : Tryz.prog.cellsOf 24 = 1 := by kernel_rfl
theorem cask : Tryz.prog.cellsOf 33 = 7 := by kernel_rfl
theorem cmv : Tryz.prog.cellsOf 31 = 3 := by kernel_rfl
theorem clook : Tryz.prog.cellsOf 26 = 4 := by kernel_rfl
theorem sEdit : ∃ fs : Array Field, Tryz.prog.underlying 103 = some (.struct fs) ∧ fs.toList.map (fun f => (f.type, f.offset)) = [(3, 0), (3, 1), (37, 2)] := ⟨_, i103_ok.und, rfl⟩
theorem sMove : ∃ fs : Array Field, Tryz.prog.underlying 31 = some (.struct fs) ∧ fs.toList.map (fun f => (f.type, f.offset)) = [(3, 0), (3, 1), (3, 2)] := ⟨_, i31_ok.und, rfl⟩
theorem sAsk : ∃ fs : Array Field, Tryz.prog.underlying 33 = some (.struct fs) ∧ fs.toList.map (fun f => (f.type, f.offset)) = [(3, 0), (3, 1), (3, 2), (31, 3), (4, 6)] := ⟨_, i33_ok.und, rfl⟩
theorem sLook : ∃ fs : Array Field, Tryz.prog.underlying 26 = some (.struct fs) ∧ fs.toList.map (fun f => (f.type, f.offset)) = [(3, 0), (22, 1), (23, 2), (24, 3)] := ⟨_, i26_ok.und, rfl⟩
theorem rows_of2 {cs : List Cell} {β : Type} {Q : Cells.T cs → β → Prop} : ∀ (rows : List (List Value)), (∀ r ∈ rows, ∃ x y, r = Cells.vals cs x ∧ Q x y) → ∃ (xs : List (Cells.T cs)) (ys : List β), rows.flatten = flat cs xs ∧ xs.length = rows.length ∧ xs.length = ys.length ∧ ∀ (i : Nat) x y, xs[i]? = some x → ys[i]? = some y → Q x y
 | [], _ => ⟨[], [], rfl, rfl, rfl, fun i x y hx => by simp at hx⟩
 | r :: rs, h => by
  obtain ⟨x, y, hx, hq⟩ := h r List.mem_cons_self
  obtain ⟨xs, ys, h1, h2, h3, h4⟩ := rows_of2 rs fun r' hr' => h r' (List.mem_cons_of_mem _ hr')
  refine ⟨x :: xs, y :: ys, ?_, by simp [h2], by simp [h3], fun i x' y' hx' hy' => ?_⟩
  ·rw [List.flatten_cons, h1, hx]; rfl
  ·match i with
   | 0 => cases hx'; cases hy'; exact hq
   | i + 1 => exact h4 i x' y' (by simpa using hx') (by simpa using hy')
abbrev In64 (x : Int) : Prop := -(2 ^ 63) ≤ x ∧ x < 2 ^ 63
theorem wf64 {n : Int} (h : (Lit.int .i64 n).wf = true) : In64 n := by
 have h1 : IntKind.min .i64 = -9223372036854775808 := rfl
 have h2 : IntKind.max .i64 = 9223372036854775807 := rfl
 simp [Lit.wf, h1, h2] at h
 unfold In64
 omega
section
variable {H : Type} {enc : TypeId × Value → H} {W : World} {base fuel : Nat} {held : Bool}
abbrev bulk (d : DataW H) : Nat := Rows.uptoBulk d
theorem bulk_one (d : DataW H) : 1 ≤ bulk d := by
 unfold bulk
 cases d with
 | lit l => cases l <;> simp [Rows.uptoBulk]
 | nil => simp [Rows.uptoBulk]
 | ptr d => simp [Rows.uptoBulk]
 | slice elems spare => simp [Rows.uptoBulk]
 | agg parts => simp [Rows.uptoBulk]
 | iface t d => simp [Rows.uptoBulk]
 | map entries => simp [Rows.uptoBulk]
 | held h => simp [Rows.uptoBulk]
theorem bulk_part {d : DataW H} {l : List (DataW H)} (h : d ∈ l) : bulk d ≤ Rows.uptoBulkAll l := by
 induction l with
 | nil => cases h
 | cons x r ih =>
  simp only [Rows.uptoBulkAll]
  cases List.mem_cons.1 h with
  | inl e => subst e; show Rows.uptoBulk d ≤ _; omega
  | inr e => have := ih e; show Rows.uptoBulk d ≤ _; have : Rows.uptoBulk d ≤ Rows.uptoBulkAll r := this; omega
theorem bulk_len (l : List (DataW H)) : l.length ≤ Rows.uptoBulkAll l := by
 induction l with
 | nil => simp [Rows.uptoBulkAll]
 | cons x r ih => have := bulk_one x; unfold bulk at this; simp only [Rows.uptoBulkAll, List.length_cons]; omega
theorem open_rowsB {t e : TypeId} {sz : Nat} {cs : List Value} {x : DataW H × List MemPlace} (ht : Tryz.prog.underlying t = some (.slice e)) (hsz : Tryz.prog.cellsOf e = sz) (hpos : 0 < sz)
  (h : DataW.trod enc Tryz.prog W base (fun _ => true) held fuel t cs = some x) (hw : ∀ n ∈ x.1.weights Tryz.prog t, n ≤ reachBytes) :
  ∃ (s : Sl) (rows : List (List Value)), cs = [.slice s.a s.len s.cap] ∧ SlX W s sz rows.flatten ∧ rows.length = s.len ∧ s.len ≤ bulk x.1 ∧
   ∀ r ∈ rows, r.length = sz ∧ ∃ n y, DataW.trod enc Tryz.prog W base (fun _ => true) held n e r = some y ∧ (∀ k ∈ y.1.weights Tryz.prog e, k ≤ reachBytes) ∧ bulk y.1 ≤ bulk x.1 := by
 obtain ⟨s, rows, h1, h2, h3, h4, h6, h5⟩ := open_rowsM ht hsz hpos h hw
 refine ⟨s, rows, h1, h2, h3, ?_, fun r hr => ?_⟩
 ·rcases h6 with h6 | ⟨els, rst, hx, hl⟩
  ·omega
  ·have := bulk_len els
   rw [hx]
   show _ ≤ Rows.uptoBulk (.slice els rst)
   simp only [Rows.uptoBulk]; omega
 ·obtain ⟨a, n, y, b, c, els, rst, hx, hm⟩ := h5 r hr
  refine ⟨a, n, y, b, c, ?_⟩
  have := bulk_part hm
  rw [hx]
  show _ ≤ Rows.uptoBulk (.slice els rst)
  simp only [Rows.uptoBulk]; omega
theorem open_fields {t : TypeId} {fs : Array Field} {L : List (TypeId × Nat)} {cs : List Value} {x : DataW H × List MemPlace} (hu : Tryz.prog.underlying t = some (.struct fs)) (hfs : fs.toList.map (fun f => (f.type, f.offset)) = L)
  (h : DataW.trod enc Tryz.prog W base (fun _ => true) held fuel t cs = some x) (hw : ∀ n ∈ x.1.weights Tryz.prog t, n ≤ reachBytes) :
  ∃ n, ∀ (i : Nat) (t' o : Nat), L[i]? = some (t', o) → ∃ y, DataW.trod enc Tryz.prog W base (fun _ => true) held n t' ((cs.drop o).take (Tryz.prog.cellsOf t')) = some y ∧ (∀ k ∈ y.1.weights Tryz.prog t', k ≤ reachBytes) ∧ bulk y.1 ≤ bulk x.1 := by
 obtain ⟨xs, n, _, rfl, _, hxl, hall⟩ := DataW.trod_struct hu h
 refine ⟨n, fun i t' o hi => ?_⟩
 rw [← hfs, List.getElem?_map] at hi
 obtain ⟨f, hf, he⟩ := Option.map_eq_some_iff.1 hi
 cases he
 have hf' : fs[i]? = some f := by simpa using hf
 have h1 := hall i f hf'
 have hil : i < xs.length := by rw [hxl]; exact (Array.getElem?_eq_some_iff.1 hf').1
 rw [List.getElem?_eq_getElem hil] at h1
 refine ⟨xs[i], h1, fun k hk => hw k ?_, ?_⟩
 ·simp only [DataW.weights, hu]
  exact DataW.weights_mem_each (j := i) (t := f.type) (d := xs[i].1) (by rw [List.getElem?_map, hf]; rfl) (by rw [List.getElem?_map, List.getElem?_eq_getElem hil]; rfl) k hk
 ·have hm : xs[i].1 ∈ xs.map (·.1) := List.mem_map.2 ⟨xs[i], List.getElem_mem hil, rfl⟩
  have := bulk_part hm
  show _ ≤ Rows.uptoBulk (.agg (xs.map (·.1)))
  simp only [Rows.uptoBulk]; omega
theorem open_u8 {cs : List Value} {x : DataW H × List MemPlace} (h : DataW.trod enc Tryz.prog W base (fun _ => true) held fuel 5 cs = some x) : ∃ b : UInt8, cs = [.int .u8 (b.toNat : Int)] := by
 have : ∃ n, cs = [.int .u8 n] ∧ (Lit.int .u8 n).wf = true := by
  cases fuel with
  | zero => simp [DataW.trod] at h
  | succ m =>
   unfold DataW.trod at h
   rw [ub] at h
   split at h <;> simp_all
 obtain ⟨n, rfl, hn⟩ := this
 have hr : 0 ≤ n ∧ n < 256 := by
  have h1 : IntKind.min .u8 = 0 := rfl
  have h2 : IntKind.max .u8 = 255 := rfl
  simp [Lit.wf, h1, h2] at hn
  omega
 refine ⟨UInt8.ofNat n.toNat, ?_⟩
 have : (UInt8.ofNat n.toNat).toNat = n.toNat := by
  rw [UInt8.toNat_ofNat']
  exact Nat.mod_eq_of_lt (by omega)
 rw [this]
 congr 2
 omega
theorem open_ints {cs : List Value} {x : DataW H × List MemPlace} (h : DataW.trod enc Tryz.prog W base (fun _ => true) held fuel 37 cs = some x) (hw : ∀ n ∈ x.1.weights Tryz.prog 37, n ≤ reachBytes) :
  ∃ (s : Sl) (l : List Int), cs = [.slice s.a s.len s.cap] ∧ SlX W s 1 (iv l) ∧ l.length ≤ bulk x.1 ∧ ∀ n ∈ l, In64 n := by
 obtain ⟨s, rows, rfl, hs, hl, hby, hr⟩ := open_rowsB uInts ci (by decide) h hw
 obtain ⟨xs, h1, h2, h3⟩ := rows_of (cs := [.int .i64]) (Q := fun x => (Lit.int .i64 x.1).wf = true) rows (fun r hr' => by
  obtain ⟨_, n, y, hy, _⟩ := hr r hr'
  obtain ⟨k, rfl, hk⟩ := open_i64 ui hy
  exact ⟨(k, ()), rfl, hk⟩)
 refine ⟨s, xs.map (·.1), rfl, ?_, by rw [List.length_map, h2, hl]; exact hby, ?_⟩
 ·rw [h1] at hs
  have e : flat [.int .i64] xs = (xs.map (·.1)).map (Value.int .i64) := by
   simp only [flat, List.map_map, List.flatMap_def]
   clear h1 h2 h3 hs
   induction xs with
   | nil => rfl
   | cons x r ih => simp only [List.map_cons, List.flatten_cons, ih]; rfl
  rw [e] at hs; exact hs
 ·intro n hn
  obtain ⟨x, hx, rfl⟩ := List.mem_map.1 hn
  exact wf64 (h3 x hx)
theorem open_bytes {cs : List Value} {x : DataW H × List MemPlace} (h : DataW.trod enc Tryz.prog W base (fun _ => true) held fuel 22 cs = some x) (hw : ∀ n ∈ x.1.weights Tryz.prog 22, n ≤ reachBytes) :
  ∃ (s : Sl) (l : List UInt8), cs = [.slice s.a s.len s.cap] ∧ SlX W s 1 (bv l) ∧ l.length ≤ 2 ^ 47 := by
 obtain ⟨s, rows, rfl, hs, hl, hby, hr⟩ := open_rows uBytes cby (by decide) h hw
 obtain ⟨xs, ls, h1, h2, h3, h4⟩ := rows_of2 (cs := [.int .u8]) (β := UInt8) (Q := fun x y => x.1 = (y.toNat : Int)) rows (fun r hr' => by
  obtain ⟨_, n, y, hy, _⟩ := hr r hr'
  obtain ⟨b, rfl⟩ := open_u8 hy
  exact ⟨((b.toNat : Int), ()), b, rfl, rfl⟩)
 refine ⟨s, ls, rfl, ?_, ?_⟩
 ·rw [h1] at hs
  have e : flat [.int .u8] xs = bv ls := by
   clear h1 h2 hs
   induction xs generalizing ls with
   | nil =>
    cases ls with
    | nil => rfl
    | cons y r => simp at h3
   | cons x r ih =>
    cases ls with
    | nil => simp at h3
    | cons y q =>
     have h0 := h4 0 x y rfl rfl
     have := ih q (by simpa using h3) fun i x' y' hx hy => h4 (i + 1) x' y' (by simpa using hx) (by simpa using hy)
     simp only [flat, List.flatMap_cons] at this ⊢
     rw [this]
     obtain ⟨n, ⟨⟩⟩ := x
     dsimp only at h0
     subst h0
     rfl
  rw [e] at hs; exact hs
 ·rw [← h3, h2, hl]
  rw [bby] at hby
  unfold reachBytes at hby
  omega
theorem open_bool {cs : List Value} {x : DataW H × List MemPlace} (h : DataW.trod enc Tryz.prog W base (fun _ => true) held fuel 4 cs = some x) : ∃ b, cs = [.bool b] := by
 cases fuel with
 | zero => simp [DataW.trod] at h
 | succ m =>
  unfold DataW.trod at h
  rw [u4] at h
  split at h <;> simp_all
structure EdX (w : World) (s : Sl) (es : List LEd) : Prop where
 ex : ∃ ys : List (Cells.T c103), SlX w s 3 (flat c103 ys) ∧ ys.length = es.length ∧ ∀ (i : Nat) y x, ys[i]? = some y → es[i]? = some x → y.1 = x.f ∧ y.2.1 = x.t ∧ SlX w y.2.2.1 1 (iv x.put) ∧ x.put.length ≤ 1048576
 few : es.length ≤ 1048576
structure EdsX (w : World) (s : Sl) (L : List (List LEd)) : Prop where
 ex : ∃ ys : List Sl, SlX w s 1 (ys.map fun y => .slice y.a y.len y.cap) ∧ ys.length = L.length ∧ ∀ (i : Nat) y es, ys[i]? = some y → L[i]? = some es → EdX w y es
 few : L.length ≤ 1048576
structure LAsk where
 kind : Int
 at_ : Int
 b : Int
 mkd : Int
 count : Int
 arg : Int
 past : Bool
abbrev askT (a : LAsk) : Cells.T c33 := (a.kind, a.at_, a.b, a.mkd, a.count, a.arg, a.past, ())
structure AsksX (w : World) (s : Sl) (L : List LAsk) : Prop where
 row : SlX w s 7 (flat c33 (L.map askT))
 few : L.length ≤ 1048576
 i64 : ∀ a ∈ L, In64 a.kind ∧ In64 a.at_ ∧ In64 a.b ∧ In64 a.mkd ∧ In64 a.count ∧ In64 a.arg
structure LookX (w : World) (y : Cells.T c26) (enc : Int) (l : List UInt8) (L : List (List LEd)) (al : List LAsk) : Prop where
 e : y.1 = enc
 i64 : In64 enc
 bytes : SlX w y.2.1 1 (bv l)
 blen : l.length ≤ 2 ^ 47
 edits : EdsX w y.2.2.1 L
 asks : AsksX w y.2.2.2.1 al
theorem open_edit {cs : List Value} {x : DataW H × List MemPlace} (hl : cs.length = 3) (h : DataW.trod enc Tryz.prog W base (fun _ => true) held fuel 103 cs = some x) (hw : ∀ n ∈ x.1.weights Tryz.prog 103, n ≤ reachBytes) (hb : bulk x.1 ≤ 1048576) :
  ∃ (y : Cells.T c103) (o : LEd), cs = Cells.vals c103 y ∧ (y.1 = o.f ∧ y.2.1 = o.t ∧ SlX W y.2.2.1 1 (iv o.put) ∧ o.put.length ≤ 1048576) := by
 obtain ⟨fs, hu, hfs⟩ := sEdit
 obtain ⟨n, hall⟩ := open_fields hu hfs h hw
 obtain ⟨v0, v1, v2, rfl⟩ : ∃ v0 v1 v2, cs = [v0, v1, v2] := by
  match cs, hl with
  | [v0, v1, v2], _ => exact ⟨v0, v1, v2, rfl⟩
 obtain ⟨y0, h0, _⟩ := hall 0 _ _ rfl
 obtain ⟨y1, h1, _⟩ := hall 1 _ _ rfl
 obtain ⟨y2, h2, hw2, hb2⟩ := hall 2 _ _ rfl
 rw [ci] at h0 h1
 rw [cis] at h2
 obtain ⟨n0, e0, i0⟩ := open_i64 ui h0
 obtain ⟨n1, e1, i1⟩ := open_i64 ui h1
 obtain ⟨s2, l2, e2, g2, k2, _⟩ := open_ints h2 hw2
 simp at e0 e1 e2
 subst e0 e1 e2
 exact ⟨(n0, n1, s2, ()), ⟨n0, n1, l2⟩, rfl, rfl, rfl, g2, by dsimp only; omega⟩
theorem open_edits {cs : List Value} {x : DataW H × List MemPlace} (h : DataW.trod enc Tryz.prog W base (fun _ => true) held fuel 69 cs = some x) (hw : ∀ n ∈ x.1.weights Tryz.prog 69, n ≤ reachBytes) (hb : bulk x.1 ≤ 1048576) :
  ∃ (s : Sl) (es : List LEd), cs = [.slice s.a s.len s.cap] ∧ EdX W s es := by
 obtain ⟨s, rows, rfl, hs, hl, hby, hr⟩ := open_rowsB uEdits ced (by decide) h hw
 obtain ⟨xs, ls, h1, h2, h3, h4⟩ := rows_of2 (cs := c103) (β := LEd) (Q := fun y o => y.1 = o.f ∧ y.2.1 = o.t ∧ SlX W y.2.2.1 1 (iv o.put) ∧ o.put.length ≤ 1048576) rows (fun r hr' => by
  obtain ⟨hrl, n, y, hy, hwy, hby⟩ := hr r hr'
  exact open_edit hrl hy hwy (by omega))
 rw [h1] at hs
 exact ⟨s, ls, rfl, ⟨xs, hs, h3, h4⟩, by omega⟩
theorem open_editss {cs : List Value} {x : DataW H × List MemPlace} (h : DataW.trod enc Tryz.prog W base (fun _ => true) held fuel 23 cs = some x) (hw : ∀ n ∈ x.1.weights Tryz.prog 23, n ≤ reachBytes) (hb : bulk x.1 ≤ 1048576) :
  ∃ (s : Sl) (L : List (List LEd)), cs = [.slice s.a s.len s.cap] ∧ EdsX W s L := by
 obtain ⟨s, rows, rfl, hs, hl, hby, hr⟩ := open_rowsB uEditss ceds (by decide) h hw
 obtain ⟨xs, ls, h1, h2, h3, h4⟩ := rows_of2 (cs := [.sl]) (β := List LEd) (Q := fun y o => EdX W y.1 o) rows (fun r hr' => by
  obtain ⟨hrl, n, y, hy, hwy, hby⟩ := hr r hr'
  obtain ⟨s', es, rfl, he⟩ := open_edits hy hwy (by omega)
  exact ⟨(s', ()), es, rfl, he⟩)
 rw [h1] at hs
 have e : flat [.sl] xs = (xs.map (·.1)).map fun y => .slice y.a y.len y.cap := by
  simp only [flat, List.map_map, List.flatMap_def]
  clear h1 h2 h3 h4 hs
  induction xs with
  | nil => rfl
  | cons x r ih => simp only [List.map_cons, List.flatten_cons, ih]; rfl
 rw [e] at hs
 refine ⟨s, ls, rfl, ⟨xs.map (·.1), hs, by rw [List.length_map]; exact h3, fun i y es hy he => ?_⟩, by omega⟩
 rw [List.getElem?_map] at hy
 obtain ⟨z, hz, rfl⟩ := Option.map_eq_some_iff.1 hy
 exact h4 i z es hz he
theorem open_ask {cs : List Value} {x : DataW H × List MemPlace} (hl : cs.length = 7) (h : DataW.trod enc Tryz.prog W base (fun _ => true) held fuel 33 cs = some x) (hw : ∀ n ∈ x.1.weights Tryz.prog 33, n ≤ reachBytes) :
  ∃ (y : Cells.T c33) (o : LAsk), cs = Cells.vals c33 y ∧ (y = askT o ∧ In64 o.kind ∧ In64 o.at_ ∧ In64 o.b ∧ In64 o.mkd ∧ In64 o.count ∧ In64 o.arg) := by
 obtain ⟨fs, hu, hfs⟩ := sAsk
 obtain ⟨n, hall⟩ := open_fields hu hfs h hw
 obtain ⟨v0, v1, v2, v3, v4, v5, v6, rfl⟩ : ∃ v0 v1 v2 v3 v4 v5 v6, cs = [v0, v1, v2, v3, v4, v5, v6] := by
  match cs, hl with
  | [v0, v1, v2, v3, v4, v5, v6], _ => exact ⟨v0, v1, v2, v3, v4, v5, v6, rfl⟩
 obtain ⟨y0, h0, _⟩ := hall 0 _ _ rfl
 obtain ⟨y1, h1, _⟩ := hall 1 _ _ rfl
 obtain ⟨y2, h2, _⟩ := hall 2 _ _ rfl
 obtain ⟨y3, h3, hw3, _⟩ := hall 3 _ _ rfl
 obtain ⟨y4, h4, _⟩ := hall 4 _ _ rfl
 rw [ci] at h0 h1 h2
 rw [cmv] at h3
 rw [cbo] at h4
 obtain ⟨fs', hu', hfs'⟩ := sMove
 obtain ⟨n', hall'⟩ := open_fields hu' hfs' h3 hw3
 obtain ⟨z0, k0, _⟩ := hall' 0 _ _ rfl
 obtain ⟨z1, k1, _⟩ := hall' 1 _ _ rfl
 obtain ⟨z2, k2, _⟩ := hall' 2 _ _ rfl
 rw [ci] at k0 k1 k2
 obtain ⟨n0, e0, i0⟩ := open_i64 ui h0
 obtain ⟨n1, e1, i1⟩ := open_i64 ui h1
 obtain ⟨n2, e2, i2⟩ := open_i64 ui h2
 obtain ⟨n3, e3, i3⟩ := open_i64 ui k0
 obtain ⟨n4, e4, i4⟩ := open_i64 ui k1
 obtain ⟨n5, e5, i5⟩ := open_i64 ui k2
 obtain ⟨b6, e6⟩ := open_bool h4
 simp at e0 e1 e2 e3 e4 e5 e6
 subst e0 e1 e2 e3 e4 e5 e6
 exact ⟨_, ⟨n0, n1, n2, n3, n4, n5, b6⟩, rfl, rfl, wf64 i0, wf64 i1, wf64 i2, wf64 i3, wf64 i4, wf64 i5⟩
theorem open_asks {cs : List Value} {x : DataW H × List MemPlace} (h : DataW.trod enc Tryz.prog W base (fun _ => true) held fuel 24 cs = some x) (hw : ∀ n ∈ x.1.weights Tryz.prog 24, n ≤ reachBytes) (hb : bulk x.1 ≤ 1048576) :
  ∃ (s : Sl) (L : List LAsk), cs = [.slice s.a s.len s.cap] ∧ AsksX W s L := by
 obtain ⟨s, rows, rfl, hs, hl, hby, hr⟩ := open_rowsB uAsks cask (by decide) h hw
 obtain ⟨xs, ls, h1, h2, h3, h4⟩ := rows_of2 (cs := c33) (β := LAsk) (Q := fun y o => y = askT o ∧ In64 o.kind ∧ In64 o.at_ ∧ In64 o.b ∧ In64 o.mkd ∧ In64 o.count ∧ In64 o.arg) rows (fun r hr' => by
  obtain ⟨hrl, n, y, hy, hwy, hby⟩ := hr r hr'
  exact open_ask hrl hy hwy)
 have e : xs = ls.map askT := by
  refine List.ext_getElem? fun i => ?_
  rw [List.getElem?_map]
  rcases Nat.lt_or_ge i xs.length with u | u
  ·have a1 : xs[i]? = some xs[i] := List.getElem?_eq_getElem u
   have a2 : ls[i]? = some ls[i] := List.getElem?_eq_getElem (by omega)
   rw [a1, a2, (h4 i _ _ a1 a2).1]; rfl
  ·rw [List.getElem?_eq_none u, List.getElem?_eq_none (by omega)]; rfl
 rw [h1, e] at hs
 refine ⟨s, ls, rfl, hs, by omega, fun a ha => ?_⟩
 obtain ⟨i, hi⟩ := List.getElem?_of_mem ha
 have hil := (List.getElem?_eq_some_iff.1 hi).1
 exact (h4 i _ _ (List.getElem?_eq_getElem (by omega)) hi).2
theorem open_look {cs : List Value} {x : DataW H × List MemPlace} (hl : cs.length = 4) (h : DataW.trod enc Tryz.prog W base (fun _ => true) held fuel 26 cs = some x) (hw : ∀ n ∈ x.1.weights Tryz.prog 26, n ≤ reachBytes) (hb : bulk x.1 ≤ 1048576) :
  ∃ (y : Cells.T c26) (c : Int) (l : List UInt8) (L : List (List LEd)) (al : List LAsk), cs = Cells.vals c26 y ∧ LookX W y c l L al := by
 obtain ⟨fs, hu, hfs⟩ := sLook
 obtain ⟨n, hall⟩ := open_fields hu hfs h hw
 obtain ⟨v0, v1, v2, v3, rfl⟩ : ∃ v0 v1 v2 v3, cs = [v0, v1, v2, v3] := by
  match cs, hl with
  | [v0, v1, v2, v3], _ => exact ⟨v0, v1, v2, v3, rfl⟩
 obtain ⟨y0, h0, _⟩ := hall 0 _ _ rfl
 obtain ⟨y1, h1, hw1, hb1⟩ := hall 1 _ _ rfl
 obtain ⟨y2, h2, hw2, hb2⟩ := hall 2 _ _ rfl
 obtain ⟨y3, h3, hw3, hb3⟩ := hall 3 _ _ rfl
 rw [ci] at h0
 rw [cbs] at h1
 rw [cess] at h2
 rw [cas] at h3
 obtain ⟨n0, e0, i0⟩ := open_i64 ui h0
 obtain ⟨s1, l1, e1, g1, k1⟩ := open_bytes h1 hw1
 obtain ⟨s2, L2, e2, g2⟩ := open_editss h2 hw2 (by omega)
 obtain ⟨s3, L3, e3, g3⟩ := open_asks h3 hw3 (by omega)
 simp at e0 e1 e2 e3
 subst e0 e1 e2 e3
 exact ⟨(n0, s1, s2, s3, ()), n0, l1, L2, L3, rfl, ⟨rfl, wf64 i0, g1, k1, g2, g3⟩⟩
end
theorem trodAll_get {H : Type} {enc : TypeId × Value → H} {P : Program} {w : World} {base : Nat} {spare : Nat → Bool} {held : Bool} : ∀ {ts : List TypeId} {vs : List Value} {ds : List (DataW H)} {ps : List MemPlace}, DataW.TrodAll enc P w base spare held ts vs ds ps →
  vs.length = ts.length ∧ ds.length = ts.length ∧ ∀ (j : Nat) t v d, ts[j]? = some t → vs[j]? = some v → ds[j]? = some d → ∃ p, DataW.Trod enc P w base spare held t v d p
 | [], [], [], _, _ => ⟨rfl, rfl, fun j t v d h => by simp at h⟩
 | t :: ts, v :: vs, d :: ds, ps, ⟨p, q, h1, h2, e⟩ => by
  obtain ⟨a, b, c⟩ := trodAll_get h2
  refine ⟨by simp [a], by simp [b], fun j t' v' d' ht hv hd => ?_⟩
  match j with
  | 0 => cases ht; cases hv; cases hd; exact ⟨p, h1⟩
  | j + 1 => exact c j t' v' d' (by simpa using ht) (by simpa using hv) (by simpa using hd)
 | [], _ :: _, _, _, h => h.elim
 | [], [], _ :: _, _, h => h.elim
 | _ :: _, [], _, _, h => h.elim
 | _ :: _, _ :: _, [], _, h => h.elim
theorem list_1 {α : Type} (l : List α) (h : l.length = 1) : ∃ v0, l = [v0] := by
 match l, h with
 | [v0], _ => exact ⟨v0, rfl⟩
theorem weigh {H : Type} {ts : List TypeId} {ds : List (DataW H)} (h : (DataW.weightsEach Tryz.prog ts ds).all (· ≤ reachBytes) = true) (j : Nat) {t : TypeId} {d : DataW H} (ht : ts[j]? = some t) (hd : ds[j]? = some d) : ∀ n ∈ d.weights Tryz.prog t, n ≤ reachBytes := by
 intro n hn
 have := List.all_eq_true.1 h _ (DataW.weights_mem_each ht hd n hn)
 simpa using this
section
variable {H : Type} {enc : TypeId × Value → H} {W : World} {base : Nat}
theorem arg_look {v : Value} {d : DataW H} {p : List MemPlace} (hv : Value.okWide Tryz.prog W .any base 26 v) (h : DataW.Trod enc Tryz.prog W 0 (fun _ => true) true 26 v d p) (hw : ∀ n ∈ d.weights Tryz.prog 26, n ≤ reachBytes) (hb : bulk d ≤ 1048576) :
  ∃ (y : Cells.T c26) (c : Int) (l : List UInt8) (L : List (List LEd)) (al : List LAsk), v = .agg (Cells.vals c26 y).toArray ∧ LookX W y c l L al := by
 obtain ⟨fs, hu, _⟩ := sLook
 obtain ⟨cs, rfl, hsz⟩ := okWide_struct hu hv
 obtain ⟨n, hn⟩ := h
 rw [clook] at hsz
 obtain ⟨y, c, l, L, al, e, h1⟩ := open_look (cs := cs.toList) (by simpa using hsz) (by simpa [Value.cells] using hn) hw hb
 exact ⟨y, c, l, L, al, by rw [← e], h1⟩
end
theorem tsize : 150 ≤ Tryz.prog.types.size := of_decide_eq_true (by kernel_rfl)
theorem recLook : Tryz.prog.readableRec 26 = true := by kernel_rfl
theorem recs {t : TypeId} (h : t = 26) : Tryz.prog.readableRec t = true ∧ t < Tryz.prog.types.size := by
 have := tsize
 subst h
 exact ⟨recLook, Nat.lt_of_lt_of_le (by decide) this⟩
end Go.Proofs.YtolhlldgnfbemaaGreat
namespace Go.Proofs.YtolhlldgnfbemaaGreat
open Go Go.Vx
noncomputable def F3 (a0 : (Int × Sl × Sl × Sl × Unit)) (K : Bool → World → Prop) : World → Prop :=
 newO (.cells #[(.int .i64 a0.1), (.slice a0.2.1.a a0.2.1.len a0.2.1.cap), (.slice a0.2.2.1.a a0.2.2.1.len a0.2.2.1.cap), (.slice a0.2.2.2.1.a a0.2.2.2.1.len a0.2.2.2.1.cap)] 26) fun b1 =>
 lds c26 (at0 b1) fun (x2 : (Int × Sl × Sl × Sl × Unit)) =>
 callT Tryz.prog 11 #[(.agg (Cells.vals c26 x2).toArray)] (.tup [(.one .ptr), (.one .bool)]) fun (x3 : (Option Addr × Bool × Unit)) =>
 join (S := Bool × Unit) (fun J4 =>
 sif (!x3.2.1) (
 J4 (true, ())) (
 J4 ((Option.isNone x3.1), ()))) fun (s5 : Bool × Unit) =>
 sif s5.1 (
 K x3.2.1) (
 join (S := Unit) (fun J6 =>
 sloop (S := Int × Unit) (fun (s8 : Int × Unit) again9 =>
 ld (.sl) (⟨b1, 3, none⟩ : Addr) fun (x10 : Sl) =>
 sif (decide (s8.1 < ((x10.len : Nat) : Int))) (
 ld (.sl) (⟨b1, 3, none⟩ : Addr) fun (x11 : Sl) =>
 ix x11.a x11.len s8.1 fun p12 =>
 lds c33 (p12.add (scaled (Int.toNat s8.1) 7)) fun (x13 : (Int × Int × Int × Int × Int × Int × Bool × Unit)) =>
 newO (.cells #[(.int .i64 (0 : Int)), (.int .i64 (0 : Int)), (.int .i64 (0 : Int)), (.int .i64 (0 : Int)), (.int .i64 (0 : Int)), (.int .i64 (0 : Int)), (.bool false)] 33) fun b14 =>
 aggSt (at0 b14) (.agg (Cells.vals c33 x13).toArray) 7 <|
 ld (.int .i64) (⟨b14, 1, none⟩ : Addr) fun (x15 : Int) =>
 ld (.bool) (⟨b14, 6, none⟩ : Addr) fun (x16 : Bool) =>
 callT Tryz.prog 12 #[(.pointer x3.1), (.int .i64 x15), (.bool x16)] (.one (.one (.int .i64))) fun (x17 : Int) =>
 callT Tryz.prog 13 #[(.pointer x3.1), (.int .i64 x17)] (.tup [(.agg c36), (.one .sl), (.one .bool)]) fun (x18 : ((Int × Int × Int × Int × Unit) × Sl × Bool × Unit)) =>
 newO (.cells #[(.int .i64 (0 : Int)), (.int .i64 (0 : Int)), (.int .i64 (0 : Int)), (.int .i64 (0 : Int))] 36) fun b19 =>
 aggSt (at0 b19) (.agg (Cells.vals c36 x18.1).toArray) 4 <|
 sif (!x18.2.2.1) (
 K false) (
 callT Tryz.prog 14 #[(.slice x18.2.1.a x18.2.1.len x18.2.1.cap)] (.one (.one (.int .i64))) fun (x20 : Int) =>
 join (S := Int × Unit) (fun J21 =>
 join (S := Bool × Unit) (fun J23 =>
 ld (.bool) (⟨b14, 6, none⟩ : Addr) fun (x25 : Bool) =>
 sif (!x25) (
 J23 ((decide (x20 > (0 : Int))), ())) (
 J23 (false, ()))) fun (s24 : Bool × Unit) =>
 sif s24.1 (
 J21 ((IntKind.wrap .i64 (x20 - (1 : Int))), ())) (
 J21 (x20, ()))) fun (s22 : Int × Unit) =>
 ld (.int .i64) (at0 b19) fun (x26 : Int) =>
 callT Tryz.prog 15 #[(.slice x18.2.1.a x18.2.1.len x18.2.1.cap), (.int .i64 (IntKind.wrap .i64 (x17 - x26)))] (.one (.one (.int .i64))) fun (x27 : Int) =>
 ld (.int .i64) ((⟨b14, 3, none⟩ : Addr).add 1) fun (x28 : Int) =>
 ld (.int .i64) (⟨b14, 1, none⟩ : Addr) fun (x29 : Int) =>
 ld (.int .i64) ((⟨b14, 3, none⟩ : Addr).add 1) fun (x30 : Int) =>
 ld (.bool) (⟨b14, 6, none⟩ : Addr) fun (x31 : Bool) =>
 callT Tryz.prog 16 #[(.pointer x3.1), (.int .i64 x29), (.agg #[(.int .i64 (2 : Int)), (.int .i64 x30), (.int .i64 (0 : Int))]), (.bool x31)] (.tup [(.agg c43), (.one (.int .i64))]) fun (x32 : ((Int × Int × Int × Unit) × Int × Unit)) =>
 newO (.cells #[(.int .i64 (0 : Int)), (.int .i64 (0 : Int)), (.int .i64 (0 : Int))] 43) fun b33 =>
 aggSt (at0 b33) (.agg (Cells.vals c43 x32.1).toArray) 3 <|
 join (S := Bool × Unit) (fun J34 =>
 rdB Tryz.prog (do eqGuard .neq 4 (Operand.tmp 91) (Operand.tmp 94) (.bool (x32.2.1 == (80 : Int))) (.bool (decide (x27 ≥ s22.1))); binOp .neq 4 (.bool (x32.2.1 == (80 : Int))) (.bool (decide (x27 ≥ s22.1))) : Sem Value) fun r36 =>
 sif r36 (
 J34 (true, ())) (
 sif (x32.2.1 != (80 : Int)) (
 J34 ((x32.2.1 != (0 : Int)), ())) (
 J34 (false, ())))) fun (s35 : Bool × Unit) =>
 sif s35.1 (
 K false) (
 join (S := Bool × Unit) (fun J37 =>
 sif (x32.2.1 == (0 : Int)) (
 ld (.int .i64) (at0 b33) fun (x39 : Int) =>
 ld (.int .i64) (at0 b19) fun (x40 : Int) =>
 callT Tryz.prog 15 #[(.slice x18.2.1.a x18.2.1.len x18.2.1.cap), (.int .i64 (IntKind.wrap .i64 (x39 - x40)))] (.one (.one (.int .i64))) fun (x41 : Int) =>
 sif (x41 != (if s22.1 < (IntKind.wrap .i64 (x27 + (if (9999 : Int) < (if (1 : Int) > x28 then (1 : Int) else x28) then (9999 : Int) else (if (1 : Int) > x28 then (1 : Int) else x28)))) then s22.1 else (IntKind.wrap .i64 (x27 + (if (9999 : Int) < (if (1 : Int) > x28 then (1 : Int) else x28) then (9999 : Int) else (if (1 : Int) > x28 then (1 : Int) else x28)))))) (
 J37 (true, ())) (
 ld (.int .i64) (at0 b33) fun (x42 : Int) =>
 sif (decide (x42 ≤ x17)) (
 J37 (true, ())) (
 ld (.int .i64) (at0 b33) fun (x43 : Int) =>
 ld (.int .i64) (⟨b19, 1, none⟩ : Addr) fun (x44 : Int) =>
 J37 ((decide (x43 > x44)), ())))) (
 J37 (false, ()))) fun (s38 : Bool × Unit) =>
 sif s38.1 (
 K false) (
 ld (.int .i64) (⟨b14, 1, none⟩ : Addr) fun (x45 : Int) =>
 ld (.int .i64) ((⟨b14, 3, none⟩ : Addr).add 1) fun (x46 : Int) =>
 ld (.bool) (⟨b14, 6, none⟩ : Addr) fun (x47 : Bool) =>
 callT Tryz.prog 16 #[(.pointer x3.1), (.int .i64 x45), (.agg #[(.int .i64 (1 : Int)), (.int .i64 x46), (.int .i64 (0 : Int))]), (.bool x47)] (.tup [(.agg c43), (.one (.int .i64))]) fun (x48 : ((Int × Int × Int × Unit) × Int × Unit)) =>
 aggSt (at0 b33) (.agg (Cells.vals c43 x48.1).toArray) 3 <|
 join (S := Bool × Unit) (fun J49 =>
 rdB Tryz.prog (do eqGuard .neq 4 (Operand.tmp 148) (Operand.tmp 150) (.bool (x48.2.1 == (80 : Int))) (.bool (x27 == (0 : Int))); binOp .neq 4 (.bool (x48.2.1 == (80 : Int))) (.bool (x27 == (0 : Int))) : Sem Value) fun r51 =>
 sif r51 (
 J49 (true, ())) (
 sif (x48.2.1 != (80 : Int)) (
 J49 ((x48.2.1 != (0 : Int)), ())) (
 J49 (false, ())))) fun (s50 : Bool × Unit) =>
 sif s50.1 (
 K false) (
 join (S := Bool × Unit) (fun J52 =>
 sif (x48.2.1 == (0 : Int)) (
 ld (.int .i64) (at0 b33) fun (x54 : Int) =>
 ld (.int .i64) (at0 b19) fun (x55 : Int) =>
 callT Tryz.prog 15 #[(.slice x18.2.1.a x18.2.1.len x18.2.1.cap), (.int .i64 (IntKind.wrap .i64 (x54 - x55)))] (.one (.one (.int .i64))) fun (x56 : Int) =>
 sif (x56 != (if (0 : Int) > (IntKind.wrap .i64 (x27 - (if (9999 : Int) < (if (1 : Int) > x28 then (1 : Int) else x28) then (9999 : Int) else (if (1 : Int) > x28 then (1 : Int) else x28)))) then (0 : Int) else (IntKind.wrap .i64 (x27 - (if (9999 : Int) < (if (1 : Int) > x28 then (1 : Int) else x28) then (9999 : Int) else (if (1 : Int) > x28 then (1 : Int) else x28)))))) (
 J52 (true, ())) (
 ld (.int .i64) (at0 b33) fun (x57 : Int) =>
 sif (decide (x57 ≥ x17)) (
 J52 (true, ())) (
 ld (.int .i64) (at0 b33) fun (x58 : Int) =>
 ld (.int .i64) (at0 b19) fun (x59 : Int) =>
 J52 ((decide (x58 < x59)), ())))) (
 J52 (false, ()))) fun (s53 : Bool × Unit) =>
 sif s53.1 (
 K false) (
 again9 ((IntKind.wrap .i64 (s8.1 + (1 : Int))), ()))))))) (
 J6 ())) ((0 : Int), ())) fun (s7 : Unit) =>
 K true)
noncomputable def h3 : Hint := (hS (hR 2) (hS (hR 7) (hS (hJ (132120576, [(26, tB)]) (.region [] (.ops 3 (.split 23 (.skips 2 (hO 1)) (hO 3)))) (hC (hS (hR 2) hL) hL)) (hJ (784637716923335095479473677900958302012794430557735944164, []) (hS (hR 1) (.block (.loop 784637716923335095479473677900958302012794430557735944164 [(5, tI)] (hS (hS (hR 5) (hC hL hL)) (hS (.block (hS (hR 7) (hS (hR 7) (hS (hR 11) (hS (hS (hR 2) (hC (hS (hR 1) hL) hL)) (hS (hR 3) (hJ (73642861106762352640, [(11, tI)]) (hJ (18302628885633695744, [(63, tB)]) (.region [] (.ops 4 (.split 60 (hO 3) (.skips 2 (hO 1))))) (hC (hR 3) hL)) (hS (hR 7) (hS (hR 6) (hS (hR 16) (hS (hJ (20281171663612385043672352161792, [(103, tB)]) (.region [] (.ops 7 (.split 96 (.skips 6 (hO 1)) (.ops 3 (.split 99 (hO 4) (.skips 2 (hO 2))))))) (hC (hS (hR 1) hL) hL)) (hS (hJ (21778071462657652058004304451685914247168, [(133, tB)]) (.region [] (.ops 3 (.split 106 (.ops 14 (.split 120 (.skips 4 (.ops 2 (.skips 5 (hO 2)))) (.ops 6 (.split 126 (.skips 5 (hO 2)) (hO 7))))) (.skips 26 (hO 1))))) (hC (hS (hR 1) hL) hL)) (hS (hR 15) (hS (hJ (1461323231369314673218552546970101832763884699648, [(159, tB)]) (.region [] (.ops 6 (.split 152 (.skips 6 (hO 1)) (.ops 3 (.split 155 (hO 4) (.skips 2 (hO 2))))))) (hC (hS (hR 1) hL) hL)) (hJ (784637715461833458148570759697273469296511410902071771136, [(188, tB)]) (.region [] (.ops 3 (.split 162 (.ops 13 (.split 175 (.skips 4 (.ops 2 (.skips 5 (hO 2)))) (.ops 6 (.split 181 (.skips 5 (hO 2)) (hO 7))))) (.skips 25 (hO 1))))) (hC (hS (hR 1) hL) hL)))))))))))))))) (hR 3)))))) (hS (hR 1) hL)))))
theorem F3_calls {a0 : (Int × Sl × Sl × Sl × Unit)} {K : Bool → World → Prop} {w : World} (h : F3 a0 K w) : callT Tryz.prog 3 #[(.agg (Cells.vals c26 a0).toArray)] (.one (.one .bool)) K w := tied tabOk Tryz.func3 h3 [(.agg (Cells.vals c26 a0).toArray)] h
noncomputable def F11 (a0 : (Int × Sl × Sl × Sl × Unit)) (K : (Option Addr × Bool × Unit) → World → Prop) : World → Prop :=
 newO (.cells #[(.int .i64 a0.1), (.slice a0.2.1.a a0.2.1.len a0.2.1.cap), (.slice a0.2.2.1.a a0.2.2.1.len a0.2.2.1.cap), (.slice a0.2.2.2.1.a a0.2.2.2.1.len a0.2.2.2.1.cap)] 26) fun b1 =>
 callT Tryz.prog 33 #[] (.one (.one .bool)) fun (x2 : Bool) =>
 sif (!x2) (
 K (none, false, ())) (
 join (S := Bool × Unit) (fun J3 =>
 ld (.int .i64) (at0 b1) fun (x5 : Int) =>
 sif (decide (x5 < (1 : Int))) (
 J3 (true, ())) (
 ld (.int .i64) (at0 b1) fun (x6 : Int) =>
 sif (decide (x6 > (4 : Int))) (
 J3 (true, ())) (
 ld (.sl) (⟨b1, 1, none⟩ : Addr) fun (x7 : Sl) =>
 J3 ((decide (((x7.len : Nat) : Int) > (65536 : Int))), ())))) fun (s4 : Bool × Unit) =>
 sif s4.1 (
 K (none, true, ())) (
 drew <|
 ld (.int .i64) (at0 b1) fun (x8 : Int) =>
 ld (.sl) (⟨b1, 1, none⟩ : Addr) fun (x9 : Sl) =>
 rawT Tryz.prog (.one (.one .sl)) (Builtin.append_ #[22, 22] 22 #[(.slice none 0 0), (.slice x9.a x9.len x9.cap)]) fun (x10 : Sl) =>
 keep (fun w => w.cell? (at0 b1) = some (Cell.val (.int .i64) x8)) <|
 callT Tryz.prog 23 #[(.int .i64 x8), (.slice x10.a x10.len x10.cap), (.int .i64 (65536 : Int))] (.tup [(.one .ptr), (.one (.int .i64))]) fun (x11 : (Option Addr × Int × Unit)) =>
 join (S := Bool × Unit) (fun J12 =>
 sif (Option.isNone x11.1) (
 J12 (true, ())) (
 J12 ((x11.2.1 != (0 : Int)), ()))) fun (s13 : Bool × Unit) =>
 sif s13.1 (
 K (none, false, ())) (
 join (S := Unit) (fun J14 =>
 sloop (S := Int × Unit) (fun (s16 : Int × Unit) again17 =>
 ld (.sl) (⟨b1, 2, none⟩ : Addr) fun (x18 : Sl) =>
 sif (decide (s16.1 < ((x18.len : Nat) : Int))) (
 ld (.sl) (⟨b1, 2, none⟩ : Addr) fun (x19 : Sl) =>
 ix x19.a x19.len s16.1 fun p20 =>
 ld (.sl) (p20.add (scaled (Int.toNat s16.1) 1)) fun (x21 : Sl) =>
 callT Tryz.prog 35 #[(.slice x21.a x21.len x21.cap)] (.one (.one .sl)) fun (x22 : Sl) =>
 callT Tryz.prog 34 #[(.pointer x11.1), (.slice x22.a x22.len x22.cap)] (.one (.one (.int .i64))) fun (x23 : Int) =>
 again17 ((IntKind.wrap .i64 (s16.1 + (1 : Int))), ())) (
 J14 ())) ((0 : Int), ())) fun (s15 : Unit) =>
 K (x11.1, true, ()))))
noncomputable def h11 : Hint := (hS (hR 3) (hS (hS (hR 2) (hC (hS (hR 2) hL) hL)) (hS (hJ (8388096, [(22, tB)]) (.region [] (.ops 4 (.split 12 (.skips 3 (.ops 2 (.skips 4 (hO 1)))) (.ops 5 (.split 17 (.skips 4 (hO 1)) (hO 5)))))) (hC (hS (hR 2) hL) hL)) (hS (.region [0, 1, 2, 3, 4, 5, 6, 7, 8, 9, 10] (hO 11)) (hS (hJ (270582939648, [(37, tB)]) (.region [] (.ops 3 (.split 34 (.skips 2 (hO 1)) (hO 3)))) (hC (hS (hR 2) hL) hL)) (hJ (9006924376834112, []) (hS (hR 1) (.block (.loop 9006924376834112 [(6, tI)] (hS (hS (hR 5) (hC hL hL)) (hS (.block (hR 8)) (hR 3)))))) (hS (hR 3) hL)))))))
theorem F11_calls {a0 : (Int × Sl × Sl × Sl × Unit)} {K : (Option Addr × Bool × Unit) → World → Prop} {w : World} (h : F11 a0 K w) : callT Tryz.prog 11 #[(.agg (Cells.vals c26 a0).toArray)] (.tup [(.one .ptr), (.one .bool)]) K w := tied tabOk Tryz.func11 h11 [(.agg (Cells.vals c26 a0).toArray)] h
noncomputable def F13 (a0 : Option Addr) (a1 : Int) (K : ((Int × Int × Int × Int × Unit) × Sl × Bool × Unit) → World → Prop) : World → Prop :=
 newO (.cells #[(.int .i64 (0 : Int)), (.int .i64 (0 : Int)), (.int .i64 (0 : Int)), (.int .i64 (0 : Int))] 36) fun b1 =>
 callT Tryz.prog 20 #[(.pointer a0), (.int .i64 a1)] (.one (.one (.int .i64))) fun (x2 : Int) =>
 callT Tryz.prog 41 #[(.pointer a0), (.int .i64 x2)] (.tup [(.agg c36), (.one (.int .i64))]) fun (x3 : ((Int × Int × Int × Int × Unit) × Int × Unit)) =>
 newO (.cells #[(.int .i64 (0 : Int)), (.int .i64 (0 : Int)), (.int .i64 (0 : Int)), (.int .i64 (0 : Int))] 36) fun b4 =>
 aggSt (at0 b4) (.agg (Cells.vals c36 x3.1).toArray) 4 <|
 join (S := Bool × Unit) (fun J5 =>
 drew <|
 sif (x3.2.1 != (0 : Int)) (
 J5 (true, ())) (
 ld (.int .i64) (at0 b4) fun (x7 : Int) =>
 sif (decide (x7 < (0 : Int))) (
 J5 (true, ())) (
 ld (.int .i64) (⟨b4, 1, none⟩ : Addr) fun (x8 : Int) =>
 ld (.int .i64) (at0 b4) fun (x9 : Int) =>
 sif (decide (x8 < x9)) (
 J5 (true, ())) (
 ld (.int .i64) (⟨b4, 2, none⟩ : Addr) fun (x10 : Int) =>
 ld (.int .i64) (⟨b4, 1, none⟩ : Addr) fun (x11 : Int) =>
 sif (decide (x10 < x11)) (
 J5 (true, ())) (
 ld (.int .i64) (⟨b4, 2, none⟩ : Addr) fun (x12 : Int) =>
 callT Tryz.prog 37 #[(.pointer a0)] (.one (.one (.int .i64))) fun (x13 : Int) =>
 keep (fun w => w.cell? (⟨b4, 2, none⟩ : Addr) = some (Cell.val (.int .i64) x12)) <|
 J5 ((decide (x12 > x13)), ())))))) fun (s6 : Bool × Unit) =>
 sif s6.1 (
 lds c36 (at0 b4) fun (x14 : (Int × Int × Int × Int × Unit)) =>
 aggSt (at0 b1) (.agg (Cells.vals c36 x14).toArray) 4 <|
 lds c36 (at0 b1) fun (x15 : (Int × Int × Int × Int × Unit)) =>
 K (x15, ⟨none, 0, 0⟩, false, ())) (
 ld (.int .i64) (at0 b4) fun (x16 : Int) =>
 ld (.int .i64) (⟨b4, 1, none⟩ : Addr) fun (x17 : Int) =>
 callT Tryz.prog 25 #[(.pointer a0), (.int .i64 x16), (.int .i64 x17)] (.one (.one .sl)) fun (x18 : Sl) =>
 drew <|
 lds c36 (at0 b4) fun (x19 : (Int × Int × Int × Int × Unit)) =>
 ld (.int .i64) (⟨b4, 1, none⟩ : Addr) fun (x20 : Int) =>
 ld (.int .i64) (at0 b4) fun (x21 : Int) =>
 aggSt (at0 b1) (.agg (Cells.vals c36 x19).toArray) 4 <|
 keep (fun w => w.cell? (at0 b4) = some (Cell.val (.int .i64) x21)) <|
 keep (fun w => w.cell? (⟨b4, 1, none⟩ : Addr) = some (Cell.val (.int .i64) x20)) <|
 lds c36 (at0 b1) fun (x22 : (Int × Int × Int × Int × Unit)) =>
 K (x22, x18, (((x18.len : Nat) : Int) == (IntKind.wrap .i64 (x20 - x21))), ()))
noncomputable def h13 : Hint := (hS (hR 3) (hS (hR 11) (hS (hJ (70368743915520, [(45, tB)]) (.region [0, 1, 2, 3, 4, 5, 6, 7, 8, 9, 10, 11, 12, 13, 14, 15, 16, 17, 18, 19, 20, 21, 22, 23, 24, 25, 26, 27] (.ops 3 (.split 20 (.skips 3 (.ops 2 (.skips 5 (.ops 2 (.skips 5 (.ops 2 (.skips 5 (hO 1)))))))) (.ops 5 (.split 25 (.skips 5 (.ops 2 (.skips 5 (.ops 2 (.skips 5 (hO 1)))))) (.ops 7 (.split 32 (.skips 5 (.ops 2 (.skips 5 (hO 1)))) (.ops 7 (.split 39 (.skips 5 (hO 1)) (hO 6)))))))))) (hC (hS (hR 4) hL) hL)) (hS (hR 7) (hS (.region [0, 1, 2, 3, 4, 5, 6, 7, 8, 9, 10, 11, 12] (hO 13)) hL)))))
theorem F13_calls {a0 : Option Addr} {a1 : Int} {K : ((Int × Int × Int × Int × Unit) × Sl × Bool × Unit) → World → Prop} {w : World} (h : F13 a0 a1 K w) : callT Tryz.prog 13 #[(.pointer a0), (.int .i64 a1)] (.tup [(.agg c36), (.one .sl), (.one .bool)]) K w := tied tabOk Tryz.func13 h13 [(.pointer a0), (.int .i64 a1)] h
noncomputable def F33  (K : Bool → World → Prop) : World → Prop :=
 newO (.cells #[(.int .u8 (97 : Int)), (.int .u8 (98 : Int)), (.int .u8 (99 : Int))] 5) fun b1 =>
 callT Tryz.prog 23 #[(.int .i64 (1 : Int)), (.slice (some (at0 b1)) 3 3), (.int .i64 (9 : Int))] (.tup [(.one .ptr), (.one (.int .i64))]) fun (x2 : (Option Addr × Int × Unit)) =>
 join (S := Bool × Unit) (fun J3 =>
 sif (Option.isNone x2.1) (
 J3 (true, ())) (
 J3 ((x2.2.1 != (0 : Int)), ()))) fun (s4 : Bool × Unit) =>
 sif s4.1 (
 K false) (
 callT Tryz.prog 16 #[(.pointer x2.1), (.int .i64 (0 : Int)), (.agg #[(.int .i64 (2 : Int)), (.int .i64 (0 : Int)), (.int .i64 (0 : Int))]), (.bool false)] (.tup [(.agg c43), (.one (.int .i64))]) fun (x5 : ((Int × Int × Int × Unit) × Int × Unit)) =>
 newO (.cells #[(.int .i64 (0 : Int)), (.int .i64 (0 : Int)), (.int .i64 (0 : Int))] 43) fun b6 =>
 aggSt (at0 b6) (.agg (Cells.vals c43 x5.1).toArray) 3 <|
 sif (x5.2.1 == (0 : Int)) (
 ld (.int .i64) (at0 b6) fun (x7 : Int) =>
 K (x7 == (1 : Int))) (
 K false))
noncomputable def h33 : Hint := (hS (hR 1) (hS (hR 7) (hS (hJ (64512, [(15, tB)]) (.region [] (.ops 3 (.split 12 (.skips 2 (hO 1)) (hO 3)))) (hC (hS (hR 1) hL) hL)) (hS (hR 9) (hS (.region [] (.ops 3 (.split 24 (hO 5) (.skips 3 (hO 2))))) hL)))))
theorem F33_calls {K : Bool → World → Prop} {w : World} (h : F33  K w) : callT Tryz.prog 33 #[] (.one (.one .bool)) K w := tied tabOk Tryz.func33 h33 [] h
noncomputable def F35 (a0 : Sl) (K : Sl → World → Prop) : World → Prop :=
 join (S := Sl × Unit) (fun J1 =>
 sloop (S := Sl × Int × Unit) (fun (s3 : Sl × Int × Unit) again4 =>
 sif (decide (s3.2.1 < ((a0.len : Nat) : Int))) (
 drew <|
 ix a0.a a0.len s3.2.1 fun p5 =>
 ld (.int .i64) (p5.add (scaled (Int.toNat s3.2.1) 3)) fun (x6 : Int) =>
 ix a0.a a0.len s3.2.1 fun p7 =>
 ld (.int .i64) ((p7.add (scaled (Int.toNat s3.2.1) 3)).add 1) fun (x8 : Int) =>
 ix a0.a a0.len s3.2.1 fun p9 =>
 ld (.sl) ((p9.add (scaled (Int.toNat s3.2.1) 3)).add 2) fun (x10 : Sl) =>
 rawT Tryz.prog (.one (.one .sl)) (Builtin.append_ #[37, 37] 37 #[(.slice none 0 0), (.slice x10.a x10.len x10.cap)]) fun (x11 : Sl) =>
 keep (fun w => w.cell? ((p7.add (scaled (Int.toNat s3.2.1) 3)).add 1) = some (Cell.val (.int .i64) x8)) <|
 keep (fun w => w.cell? (p5.add (scaled (Int.toNat s3.2.1) 3)) = some (Cell.val (.int .i64) x6)) <|
 newO (.cells #[(.int .i64 x6), (.int .i64 x8), (.slice x11.a x11.len x11.cap)] 103) fun b12 =>
 rawT Tryz.prog (.one (.one .sl)) (Builtin.append_ #[69, 69] 69 #[(.slice s3.1.a s3.1.len s3.1.cap), (.slice (some (at0 b12)) 1 1)]) fun (x13 : Sl) =>
 again4 (x13, (IntKind.wrap .i64 (s3.2.1 + (1 : Int))), ())) (
 J1 (s3.1, ()))) (⟨none, 0, 0⟩, (0 : Int), ())) fun (s2 : Sl × Unit) =>
 K s2.1
noncomputable def h35 : Hint := (hS (hR 1) (hS (hR 1) (hJ (2147483640, [(3, tS)]) (hS (hR 1) (.block (.loop 2147483640 [(3, tS), (4, tI)] (hS (hS (hR 4) (hC hL hL)) (hS (.block (.region [0, 1, 2, 3, 4, 5, 6, 7, 8, 9, 10, 11, 12, 13, 14, 15, 16, 17, 18, 19, 20] (hO 21))) (hR 3)))))) (hS (hR 2) hL))))
theorem F35_calls {a0 : Sl} {K : Sl → World → Prop} {w : World} (h : F35 a0 K w) : callT Tryz.prog 35 #[(.slice a0.a a0.len a0.cap)] (.one (.one .sl)) K w := tied tabOk Tryz.func35 h35 [(.slice a0.a a0.len a0.cap)] h
end Go.Proofs.YtolhlldgnfbemaaGreat
namespace Go.Proofs.YtolhlldgnfbemaaGreat
open Go Go.Vx Cdc Trx Gly Clu Lns Obx Mot
theorem eEdits : ElemOk Tryz.prog 69 103 3 40 := ElemOk.of (z := .agg #[.int .i64 0, .int .i64 0, .slice none 0 0]) i69_ok i103_ok rfl rfl rfl (by decide)
section
variable {w w' : World}
theorem able_call {K : Bool → World → Prop} (hK : ∀ w', Ext w w' → K true w') : callT Tryz.prog 33 #[] (.one (.one .bool)) K w := by
 refine F33_calls ?_
 unfold F33
 refine (St.start w).newO fun b1 w1 S1 e1 => ?_
 have hB : By w1 ⟨some (at0 b1), 3, 3⟩ [97, 98, 99] := SlIn.of_box (S1.at_ 0 rfl) (n := 3) (sz := 1) rfl
 refine open_call (e := .u8) (lim := 9) hB (by decide) (by decide) fun p O M w2 tx hA _ e2 _ => ?_
 have hA : atoms (aOf .u8 M) = [97, 98, 99] := by rw [hA]; kernel_rfl
 have ta : TxA w2 p [97, 98, 99] := ⟨_, _, _, _, _, tx, hA⟩
 refine join_r (fun x W => x = (false, ()) ∧ w2 = W) (sif_false ⟨rfl, rfl⟩) ?_
 rintro _ _ ⟨rfl, rfl⟩
 refine sif_false (mchars_call (kind := 2) (count := 0) (arg := 0) (x := 0) ta fun w3 e3 => ?_)
 rw [able_is]
 refine ((S1.ext e2).ext e3).newO fun b6 w4 S4 e4 => S4.aggSt 0 rfl rfl rfl rfl fun w5 S5 _ => ?_
 exact sif_true (S5.ld (off := 0) 0 rfl (x := 1) rfl (hK w5 S5.upd))
theorem ix_fX {c : Cell} {cs : List Cell} {s : Sl} {xs : List (Cells.T cs)} {n : Int} {j : Nat} {K : Addr → c.T → World → Prop} (h : SlX w s cs.length (flat cs xs)) (h0 : 0 ≤ n) {x : Cells.T cs} {y : c.T} (hx : xs[n.toNat]? = some x) (hy : (Cells.vals cs x)[j]? = some (c.val y))
  (hK : ∀ p, (∀ w', Ext w w' → w'.cell? ((p.add (scaled (Int.toNat n) cs.length)).add j) = some (c.val y)) → K p y w) :
  ix s.a s.len n (fun p => ld c ((p.add (scaled (Int.toNat n) cs.length)).add j) (K p)) w := by
 have hlt := (List.getElem?_eq_some_iff.1 hx).1
 have hjl : j < cs.length := by
  have := (List.getElem?_eq_some_iff.1 hy).1
  rwa [vals_len] at this
 have hl := h.lenR (by omega)
 obtain ⟨t, h⟩ := h.in_of (by omega)
 refine h.ix h0 (by omega) (by omega) fun b off ha hv => ?_
 have hc : w.cell? (((⟨b, off, none⟩ : Addr).add (scaled (Int.toNat n) cs.length)).add j) = some (c.val y) := by
  rw [addr_add, addr_add]
  have := hv j (c.val y) (by rw [flat_get cs xs _ j x hx hjl]; exact hy)
  simpa [scaled_eq] using this
 exact ld_of (x := y) hc (hK _ fun w' x' => cell_ext hc x')
theorem ix_fX0 {c : Cell} {cs : List Cell} {s : Sl} {xs : List (Cells.T cs)} {n : Int} {K : Addr → c.T → World → Prop} (h : SlX w s cs.length (flat cs xs)) (h0 : 0 ≤ n) {x : Cells.T cs} {y : c.T} (hx : xs[n.toNat]? = some x) (hy : (Cells.vals cs x)[0]? = some (c.val y))
  (hK : ∀ p, (∀ w', Ext w w' → w'.cell? (p.add (scaled (Int.toNat n) cs.length)) = some (c.val y)) → K p y w) :
  ix s.a s.len n (fun p => ld c (p.add (scaled (Int.toNat n) cs.length)) (K p)) w := by
 have hlt := (List.getElem?_eq_some_iff.1 hx).1
 have hjl : 0 < cs.length := by
  have := (List.getElem?_eq_some_iff.1 hy).1
  rwa [vals_len] at this
 have hl := h.lenR (by omega)
 obtain ⟨t, h⟩ := h.in_of (by omega)
 refine h.ix h0 (by omega) (by omega) fun b off ha hv => ?_
 have hc : w.cell? ((⟨b, off, none⟩ : Addr).add (scaled (Int.toNat n) cs.length)) = some (c.val y) := by
  rw [addr_add]
  have := hv 0 (c.val y) (by rw [flat_get cs xs _ 0 x hx hjl]; exact hy)
  simpa [scaled_eq] using this
 exact ld_of (x := y) hc (hK _ fun w' x' => cell_ext hc x')
set_option maxHeartbeats 400000 in
theorem own_call {s : Sl} {es : List LEd} (h : EdX w s es) {K : Sl → World → Prop} (hK : ∀ r ys w', EdIn w' r 103 ys es → (∀ k, r.blk k → w.heap.size ≤ k) → (∀ (i : Nat) y, ys[i]? = some y → ∀ k, y.2.2.1.blk k → w.heap.size ≤ k) → Ext w w' → K r w') :
  callT Tryz.prog 35 #[.slice s.a s.len s.cap] (.one (.one .sl)) K w := by
 refine F35_calls ?_
 unfold F35
 obtain ⟨ys0, hs, hyl, hy0⟩ := h.ex
 have few := h.few
 have hsl : ys0.length = s.len := SlX.lenR (cs := c103) hs (by decide)
 refine join_r (fun x W => ∃ ys, SlOwn W w.heap.size x.1 103 3 (flat c103 ys) ∧ ys.length = es.length ∧ (∀ (i : Nat) y z, ys[i]? = some y → es[i]? = some z → y.1 = z.f ∧ y.2.1 = z.t ∧ SlOwn W w.heap.size y.2.2.1 3 1 (iv z.put) ∧ z.put.length ≤ 1048576) ∧ Ext w W) ?_ ?_
 ·refine sloop_r (fun x W => ∃ (i : Nat) (ys : List (Cells.T c103)), i ≤ es.length ∧ x.2 = ((i : Int), ()) ∧ SlOwn W w.heap.size x.1 103 3 (flat c103 ys) ∧ ys.length = i ∧ (∀ (j : Nat) y z, ys[j]? = some y → es[j]? = some z → y.1 = z.f ∧ y.2.1 = z.t ∧ SlOwn W w.heap.size y.2.2.1 3 1 (iv z.put) ∧ z.put.length ≤ 1048576) ∧ Ext w W) (fun x _ => ((es.length : Int) - x.2.1).toNat) ⟨0, [], Nat.zero_le _, rfl, SlOwn.nil _ _ _ _, rfl, fun j y z hy => by simp at hy, Ext.refl w⟩ ?_
  rintro ⟨r, _⟩ W ⟨i, ys, hi, rfl, hr, hl, hys, eW⟩
  dsimp only at hr ⊢
  have hrl : ys.length = r.len := SlOwn.lenR (cs := c103) hr (by decide)
  refine sif_r (fun hc => ?_) (fun hc => ?_)
  ·simp only [decide_eq_true_eq] at hc
   obtain ⟨y, hy⟩ : ∃ y, ys0[i]? = some y := ⟨_, List.getElem?_eq_getElem (by omega)⟩
   obtain ⟨z, hz⟩ : ∃ z, es[i]? = some z := ⟨_, List.getElem?_eq_getElem (by omega)⟩
   obtain ⟨y1, y2, y3, y4⟩ := hy0 i y z hy hz
   have ew : IntKind.wrap .i64 ((i : Int) + 1) = ((i + 1 : Nat) : Int) := by rw [wrap64 (by omega) (by omega)]; omega
   rw [ew]
   refine drew_r fun w2 e2 _ => ?_
   have x2 := eW.trans e2
   have hyn : ys0[((i : Int)).toNat]? = some y := by rw [Int.toNat_natCast]; exact hy
   have hs2 := hs.ext x2
   refine ix_fX0 (c := .int .i64) (cs := c103) (xs := ys0) (y := y.1) hs2 (Int.natCast_nonneg i) hyn rfl fun q1 k1 => ?_
   refine ix_fX (c := .int .i64) (cs := c103) (xs := ys0) (j := 1) (y := y.2.1) hs2 (Int.natCast_nonneg i) hyn rfl fun q2 k2 => ?_
   refine ix_fX (c := .sl) (cs := c103) (xs := ys0) (j := 2) (y := y.2.2.1) hs2 (Int.natCast_nonneg i) hyn rfl fun q3 k3 => ?_
   have hpl : z.put.length = y.2.2.1.len := by have := y3.len1; rwa [List.length_map] at this
   refine append_rx eInts eInts.ts_ (B := w.heap.size) (s := ⟨none, 0, 0⟩) (x := y.2.2.1) (vs := []) (us := iv z.put) (SlOwn.nil w2 w.heap.size 3 1) (y3.ext x2) (fun v hv => by obtain ⟨n, _, rfl⟩ := List.mem_map.1 hv; rfl) (by
    show (0 + y.2.2.1.len + (0 + y.2.2.1.len) / 4 + 512) * 8 ≤ 2 ^ 48
    omega) (by have := x2.size; omega) fun s3 w3 o3 l3 u3 b3 => ?_
   have e3 : Ext w2 w3 := (Ext.refl w2).step u3 fun k hk => by obtain ⟨_, hp, _⟩ := hk; cases hp
   have x3 := x2.trans e3
   rw [List.nil_append] at o3
   refine keep_r (k2 w3 e3) (keep_r (k1 w3 e3) (newO_r fun b12 w4 e4 n4 hb4 _ => ?_))
   have x4 := x3.trans e4
   have hbox : SlX w4 ⟨some (at0 b12), 1, 1⟩ 3 (flat c103 [(y.1, y.2.1, s3, ())]) := (SlIn.of_box n4 (n := 1) (sz := 3) rfl).x
   refine append_rx eEdits eEdits.ts_ (x := ⟨some (at0 b12), 1, 1⟩) (hr.ext ((e2.trans e3).trans e4)) hbox (fun v hv => by
    have hv : v ∈ [Value.int .i64 y.1, .int .i64 y.2.1, .slice s3.a s3.len s3.cap] := hv
    simp only [List.mem_cons, List.not_mem_nil, or_false] at hv
    rcases hv with rfl | rfl | rfl <;> rfl) (by
    show (r.len + 1 + (r.len + 1) / 4 + 512) * 40 ≤ 2 ^ 48
    omega) (by have := x4.size; omega) fun r' w5 o5 l5 u5 b5 => ?_
   have x5 : Ext w w5 := x4.step u5 fun k hk => hr.blk_ge hk
   have ef : flat c103 ys ++ flat c103 [(y.1, y.2.1, s3, ())] = flat c103 (ys ++ [(y.1, y.2.1, s3, ())]) := by simp [flat]
   rw [ef] at o5
   have ne : ∀ {sl : Sl} {v : List Int} {V : World}, SlOwn V w.heap.size sl 3 1 (iv v) → Ext V w4 → SlOwn w5 w.heap.size sl 3 1 (iv v) := fun ho e => (ho.ext e).ty (t := 3) u5 (fun k hk c fr hn => by
    obtain ⟨c', fr', hc'⟩ := (hr.ext ((e2.trans e3).trans e4)).in.blk_cells hk
    rw [hn] at hc'
    cases hc')
   refine ⟨⟨i + 1, ys ++ [(y.1, y.2.1, s3, ())], by omega, rfl, o5, by simp [hl], fun j y' z' hy' hz' => ?_, x5⟩, by (try dsimp only); omega⟩
   by_cases hj : j < ys.length
   ·rw [List.getElem?_append_left hj] at hy'
    obtain ⟨g1, g2, g3, g4⟩ := hys j y' z' hy' hz'
    exact ⟨g1, g2, ne g3 ((e2.trans e3).trans e4), g4⟩
   ·have hje : j = i := by
     have := (List.getElem?_eq_some_iff.1 hy').1
     simp at this; omega
    subst hje
    rw [← hl, List.getElem?_concat_length] at hy'
    cases hy'
    rw [hz] at hz'; cases hz'
    exact ⟨y1, y2, ne o3 e4, y4⟩
  ·simp only [decide_eq_false_iff_not] at hc
   obtain rfl : i = es.length := by omega
   exact ⟨ys, hr, hl, hys, eW⟩
 rintro ⟨r, _⟩ W ⟨ys, hr, hl, hys, eW⟩
 refine hK r ys W ⟨hr.in, hl, fun i y z hy hz => ?_⟩ (fun k hk => hr.blk_ge hk) (fun i y hy k hk => ?_) eW
 ·obtain ⟨g1, g2, g3, g4⟩ := hys i y z hy hz
  exact ⟨g1, g2, ⟨_, g3.in⟩, by omega⟩
 ·obtain ⟨z, hz⟩ : ∃ z, es[i]? = some z := ⟨_, List.getElem?_eq_getElem (by have := (List.getElem?_eq_some_iff.1 hy).1; omega)⟩
  exact (hys i y z hy hz).2.2.1.blk_ge hk
abbrev lkO (y : Cells.T c26) : Obj := .cells #[.int .i64 y.1, .slice y.2.1.a y.2.1.len y.2.1.cap, .slice y.2.2.1.a y.2.2.1.len y.2.2.1.cap, .slice y.2.2.2.1.a y.2.2.2.1.len y.2.2.2.1.cap] 26 (0, 0)
theorem EdX.ext {s : Sl} {es : List LEd} (h : EdX w s es) (e : Ext w w') : EdX w' s es := by
 obtain ⟨ys, h1, h2, h3⟩ := h.ex
 exact ⟨⟨ys, h1.ext e, h2, fun i y x hy hx => by obtain ⟨a, b, c, d⟩ := h3 i y x hy hx; exact ⟨a, b, c.ext e, d⟩⟩, h.few⟩
theorem refuse_put {e : Enc} {lim : Nat} {A : As} {es : List LEd} (h : refuseP e lim A es = 0) : putsz e es ≤ lim := by
 unfold refuseP at h
 split at h
 ·cases h
 split at h
 ·cases h
 rename_i hr
 split at h
 ·cases h
 split at h
 ·cases h
 have gl := gone_le (A := A) (es := es) (a := 0) (Int.le_refl _) (by simpa using hr)
 omega
theorem enc_num {c : Int} (h : 1 ≤ c ∧ c ≤ 4) : ∃ e : Enc, e.num = c := by
 rcases (by omega : c = 1 ∨ c = 2 ∨ c = 3 ∨ c = 4) with rfl | rfl | rfl | rfl
 ·exact ⟨.u8, rfl⟩
 ·exact ⟨.le, rfl⟩
 ·exact ⟨.be, rfl⟩
 ·exact ⟨.l1, rfl⟩
set_option maxHeartbeats 1000000 in
theorem ltext_call {y : Cells.T c26} {c : Int} {l : List UInt8} {L : List (List LEd)} {al : List LAsk} (h : LookX w y c l L al) {K : Option Addr × Bool × Unit → World → Prop} (hN : ∀ w', Ext w w' → K (none, true, ()) w')
  (hS : ∀ p A w', TxA w' p A → Ext w w' → K (some (at0 p), true, ()) w') :
  callT Tryz.prog 11 #[.agg (Cells.vals c26 y).toArray] (.tup [(.one .ptr), (.one .bool)]) K w := by
 refine F11_calls (a0 := y) ?_
 unfold F11
 have hbl : l.length = y.2.1.len := by have := h.bytes.len1; rwa [List.length_map] at this
 obtain ⟨ys, hys, hyl, hye⟩ := h.edits.ex
 have few := h.edits.few
 have hsl : ys.length = y.2.2.1.len := by have := hys.len1; rwa [List.length_map] at this
 refine (St.start w).newO fun b1 w1 S1 e1 => able_call fun w2 e2 => sif_false ?_
 have S2 := S1.ext e2
 have S2 : St (fun _ => False) w w2 [(b1, lkO y)] := S2
 refine join_r (fun x W => x = (decide (¬ (1 ≤ c ∧ c ≤ 4 ∧ l.length ≤ 65536)), ()) ∧ w2 = W) ?_ ?_
 ·refine S2.ld (off := 0) 0 rfl (x := c) (congrArg (fun (n : Int) => some (Value.int .i64 n)) h.e) (sif_r (fun hc => ⟨tupb ?_, rfl⟩) (fun hc => S2.ld (off := 0) 0 rfl (x := c) (congrArg (fun (n : Int) => some (Value.int .i64 n)) h.e) (sif_r (fun hc2 => ⟨tupb ?_, rfl⟩) (fun hc2 => S2.ld (off := 1) 0 rfl (x := y.2.1) rfl ⟨tupb ?_, rfl⟩))))
  all_goals simp only [decide_eq_true_eq, decide_eq_false_iff_not, true_iff, gt_iff_lt] at *
  all_goals omega
 rintro _ _ ⟨rfl, rfl⟩
 refine sif_r (fun hc => hN w2 S2.upd) (fun hc => ?_)
 have hc := Classical.byContradiction (fun hn => (of_decide_eq_false hc) hn)
 obtain ⟨e, hen⟩ := enc_num (c := c) ⟨hc.1, hc.2.1⟩
 refine S2.drew fun w3 S3 e3 _ => S3.ld (off := 0) 0 rfl (x := c) (congrArg (fun (n : Int) => some (Value.int .i64 n)) h.e) (S3.ld (off := 1) 0 rfl (x := y.2.1) rfl ?_)
 refine app_by (s := ⟨none, 0, 0⟩) (l := []) (m := l) (B := w.heap.size) (SlOwn.nil w3 w.heap.size 5 1) (h.bytes.ext S3.upd) (by
  show 0 + y.2.1.len + (0 + y.2.1.len) / 4 + 512 ≤ 2 ^ 48
  omega) S3.upd.size fun s4 w4 o4 l4 u4 b4 _ => ?_
 have e4 : Ext w3 w4 := (Ext.refl w3).step u4 fun k hk => by obtain ⟨_, hp, _⟩ := hk; cases hp
 have S4 := S3.ext e4
 rw [List.nil_append] at o4
 refine S4.keep (off := 0) 0 rfl (v := .int .i64 c) (congrArg (fun (n : Int) => some (Value.int .i64 n)) h.e) ?_
 rw [← hen]
 have hB4 : By w4 s4 l := o4.in
 refine open_call (e := e) (lim := 65536) hB4 hc.2.2 (Nat.le_refl _) fun p O M w5 tx hA _ e5 hnew => ?_
 have S5 := S4.ext e5
 refine join_r (fun x W => x = (false, ()) ∧ w5 = W) (sif_false ⟨rfl, rfl⟩) ?_
 rintro _ _ ⟨rfl, rfl⟩
 refine sif_false ?_
 have hb1 : b1 < w4.heap.size := lt_of_heap (S4.at_ 0 rfl)
 have hw4 : w.heap.size ≤ w4.heap.size := S4.upd.size
 refine join_r (fun _ W => ∃ O M na, Txt W p e 65536 na O M ∧ St (fun _ => False) w W [(b1, lkO y)]) ?_ (fun _ W ⟨O, M, na, t, S⟩ => hS p _ W ⟨_, _, _, _, _, t, rfl⟩ S.upd)
 refine sloop_r (fun x W => ∃ (i : Nat) (O : Nat → Prop) (M : Parts) (na : Nat), x = ((i : Int), ()) ∧ i ≤ L.length ∧ Txt W p e 65536 na O M ∧ na ≤ 65536 * i ∧ szs (aOf e M) ≤ 65536 ∧ (∀ k, O k → w4.heap.size ≤ k) ∧ St (fun _ => False) w W [(b1, lkO y)]) (fun x _ => ((L.length : Int) - x.1).toNat) ⟨0, O, M, 0, rfl, Nat.zero_le _, tx, Nat.zero_le _, ?_, hnew, S5⟩ ?_
 ·rw [hA, szs_all]; exact hc.2.2
 rintro _ W ⟨i, O, M, na, rfl, hi, t, hna, hsz, hO, SW⟩
 dsimp only
 refine SW.ld (off := 2) 0 rfl (x := y.2.2.1) rfl (sif_r (fun hc => ?_) (fun hc => ?_))
 ·simp only [decide_eq_true_eq] at hc
  have ew : IntKind.wrap .i64 ((i : Int) + 1) = ((i + 1 : Nat) : Int) := by rw [wrap64 (by omega) (by omega)]; omega
  rw [ew]
  obtain ⟨q, hq⟩ : ∃ q, ys[i]? = some q := ⟨_, List.getElem?_eq_getElem (by omega)⟩
  obtain ⟨es, hes⟩ : ∃ es, L[i]? = some es := ⟨_, List.getElem?_eq_getElem (by omega)⟩
  refine SW.ld (off := 2) 0 rfl (x := y.2.2.1) rfl (ix_ldX (c := .sl) (xs := ys) (hys.ext SW.upd) (Int.natCast_nonneg i) (x := q) (by rw [Int.toNat_natCast]; exact hq) fun p1 => ?_)
  refine own_call ((hye i q es hq hes).ext SW.upd) fun r zs w6 hE hr hz e6 => ?_
  have t6 := t.ext e6
  have S6 := SW.ext e6
  refine changeG_call t6 hE hsz (fun k hk hOk => ?_) (fun j z hj k hk hOk => ?_) (by omega) (fun cc w7 _ _ e7 => ⟨⟨i + 1, O, M, na, rfl, by omega, t6.ext e7, by omega, hsz, hO, S6.ext e7⟩, by omega⟩) fun h0 O' M' w7 t7 _ hs7 u7 _ o2 => ?_
  ·have := hr k hk; have := t.own k hOk; omega
  ·have := hz j z hj k hk; have := t.own k hOk; omega
  ·have hp := refuse_put h0
   refine ⟨⟨i + 1, O', M', _, rfl, by omega, t7, by omega, hs7, fun k hk => ?_, S6.fresh u7 (fun k hk => .inr (by have := hO k hk.1; omega)) (fun z hz hk => ?_)⟩, by omega⟩
   ·rcases o2 k hk with hh | hh
    ·exact hO k hh
    ·have := e6.size; have := SW.upd.size
     have h9 : w4.heap.size ≤ W.heap.size := by
      have := hO p t.op
      have := t.own p t.op
      omega
     omega
   ·rw [List.mem_singleton.1 hz] at hk
    have := hO _ hk.1
    dsimp only at this
    omega
 ·simp only [decide_eq_false_iff_not] at hc
  exact ⟨O, M, na, t, SW⟩
end
section
variable {w w' : World} {p : Nat} {A : List Int}
abbrev lnO (l : Ln) : Obj := .cells #[.int .i64 (l.from_ : Int), .int .i64 (l.to_ : Int), .int .i64 (l.next : Int), .int .i64 (l.kind : Int)] 36 (0, 0)
abbrev lnZ : Obj := .cells #[.int .i64 0, .int .i64 0, .int .i64 0, .int .i64 0] 36 (0, 0)
theorem lline_call (h : TxA w p A) {n : Int} {K : Cells.T c36 × Sl × Bool × Unit → World → Prop} (hK : ∀ s w', SlIn w' s 3 1 (iv (rowB A (ofI A n))) → Ext w w' → K (lnT (rowL A (ofI A n)), s, true, ()) w') :
  callT Tryz.prog 13 #[.pointer (some (at0 p)), .int .i64 n] (.tup [(.agg c36), (.one .sl), (.one .bool)]) K w := by
 refine F13_calls ?_
 unfold F13
 have hi := ofI_le A n
 have ok := row_ok hi
 have hA := h.len
 have ft := ok.ft; have tn := ok.tn; have nl := ok.nl
 generalize hI : ofI A n = i at *
 refine (St.start w).newO fun b1 w1 S1 e1 => (h.ext e1).of fun w2 e2 => ?_
 rw [hI]
 refine ((h.ext e1).ext e2).at_ hi fun w3 e3 => ?_
 refine ((S1.ext e2).ext e3).newO fun b4 w4 S4 e4 => S4.aggSt 0 rfl rfl rfl rfl fun w5 S5 u5 => ?_
 have S5 : St (fun _ => False) w w5 [(b4, lnO (rowL A i)), (b1, lnZ)] := S5
 refine join_r (fun y W => y = (false, ()) ∧ St (fun _ => False) w W [(b4, lnO (rowL A i)), (b1, lnZ)]) ?_ ?_
 ·refine S5.drew fun w6 S6 e6 _ => sif_false (S6.ld (off := 0) 0 rfl (x := ((rowL A i).from_ : Int)) rfl (sif_r (fun hc => by simp only [decide_eq_true_eq] at hc; omega) (fun _ => ?_)))
  refine S6.ld (off := 1) 0 rfl (x := ((rowL A i).to_ : Int)) rfl (S6.ld (off := 0) 0 rfl (x := ((rowL A i).from_ : Int)) rfl (sif_r (fun hc => by simp only [decide_eq_true_eq] at hc; omega) (fun _ => ?_)))
  refine S6.ld (off := 2) 0 rfl (x := ((rowL A i).next : Int)) rfl (S6.ld (off := 1) 0 rfl (x := ((rowL A i).to_ : Int)) rfl (sif_r (fun hc => by simp only [decide_eq_true_eq] at hc; omega) (fun _ => ?_)))
  refine S6.ld (off := 2) 0 rfl (x := ((rowL A i).next : Int)) rfl ((h.ext S6.upd).tlen fun w7 e7 => (S6.ext e7).keep (off := 2) 0 rfl (v := .int .i64 ((rowL A i).next : Int)) rfl ⟨tupb ?_, S6.ext e7⟩)
  simp only [decide_eq_true_eq, gt_iff_lt, Bool.false_eq_true, iff_false]; omega
 rintro _ W ⟨rfl, SW⟩
 refine sif_false (SW.ld (off := 0) 0 rfl (x := ((rowL A i).from_ : Int)) rfl (SW.ld (off := 1) 0 rfl (x := ((rowL A i).to_ : Int)) rfl ((h.ext SW.upd).atoms fun s w6 o6 e6 => ?_)))
 rw [sub_row] at o6
 have S6 := SW.ext e6
 have hsl : s.len = (rowL A i).to_ - (rowL A i).from_ := by
  have := o6.len1
  rw [List.length_map, rowB_length hi] at this
  exact this.symm
 refine S6.drew fun w7 S7 e7 _ => S7.lds 0 (lnT (rowL A i)) rfl (S7.ld (off := 1) 0 rfl (x := ((rowL A i).to_ : Int)) rfl (S7.ld (off := 0) 0 rfl (x := ((rowL A i).from_ : Int)) rfl (S7.aggSt 1 rfl rfl rfl rfl fun w8 S8 u8 => ?_)))
 refine S8.keep (off := 0) 0 rfl (v := .int .i64 ((rowL A i).from_ : Int)) rfl (S8.keep (off := 1) 0 rfl (v := .int .i64 ((rowL A i).to_ : Int)) rfl (S8.lds 1 (lnT (rowL A i)) rfl ?_))
 have e9 : (((s.len : Nat) : Int) == IntKind.wrap .i64 (((rowL A i).to_ : Int) - ((rowL A i).from_ : Int))) = true := by
  rw [wrap64 (by omega) (by omega), beq_iff_eq]; omega
 rw [e9]
 exact hK s w8 ((o6.ext e7).box (S7.at_ 1 rfl) (by decide) u8).in S8.upd
abbrev askO (a : LAsk) : Obj := .cells #[.int .i64 a.kind, .int .i64 a.at_, .int .i64 a.b, .int .i64 a.mkd, .int .i64 a.count, .int .i64 a.arg, .bool a.past] 33 (0, 0)
end
theorem kif (c : Int) : (if (9999 : Int) < (if (1 : Int) > c then (1 : Int) else c) then (9999 : Int) else (if (1 : Int) > c then (1 : Int) else c)) = min (max c 1) 9999 := by
 split <;> split at * <;> omega
section
variable {w w' : World} {p : Nat} {A : List Int} {y : Cells.T c26} {c : Int} {l : List UInt8} {L : List (List LEd)} {al : List LAsk}
theorem LookX.ask (h : LookX w y c l L al) {W : World} (x : Ext w W) {i : Nat} {a : LAsk} (ha : al[i]? = some a) {K : Addr → Cells.T c33 → World → Prop} (hK : ∀ q, K q (askT a) W) :
  ix y.2.2.2.1.a y.2.2.2.1.len (i : Int) (fun q => lds c33 (q.add (scaled (Int.toNat (i : Int)) 7)) (K q)) W :=
 ix_ldsX (cs := c33) (xs := al.map askT) (h.asks.row.ext x) (by decide) (Int.natCast_nonneg i) (by rw [Int.toNat_natCast, List.getElem?_map, ha]; rfl) hK
theorem LookX.alen (h : LookX w y c l L al) : al.length = y.2.2.2.1.len := by
 have := SlX.lenR (cs := c33) h.asks.row (by decide)
 rwa [List.length_map] at this
theorem law_r {W0 : World} {x3 : Option Addr × Bool × Unit} {K : Bool → World → Prop} {R : World → Prop} (hx : x3 = (none, true, ()) ∨ ∃ p, x3 = (some (at0 p), true, ()) ∧ R W0)
  (hN : K true W0) : join (S := Bool × Unit) (fun J4 => sif (!x3.2.1) (J4 (true, ())) (J4 ((Option.isNone x3.1), ()))) (fun s5 => sif s5.1 (K x3.2.1) R) W0 := by
 rcases hx with rfl | ⟨p, rfl, hR⟩
 ·exact join_r (fun s W => s = (true, ()) ∧ W0 = W) (sif_false ⟨rfl, rfl⟩) (by rintro _ _ ⟨rfl, rfl⟩; exact sif_true hN)
 ·exact join_r (fun s W => s = (false, ()) ∧ W0 = W) (sif_false ⟨rfl, rfl⟩) (by rintro _ _ ⟨rfl, rfl⟩; exact sif_false hR)
theorem row_count (A : List Int) (i : Nat) : (cuts (rowB A i)).length - 1 = (rowC A i).length := by have := rowC_cuts A i; omega
theorem col_is {i n : Nat} (h : i ≤ brs A) (h1 : (rowL A i).from_ ≤ n) (h2 : n ≤ (rowL A i).to_) : (cutsTo (rowB A i) (n - (rowL A i).from_)).length - 1 = firstI (rowC A i) (n : Int) := by rw [col_any h h1 h2]; omega
theorem cur_line (A : List Int) (x : Int) (past : Bool) : nb A (clampP A x past) ≤ brs A ∧ ofI A (clampP A x past : Int) = nb A (clampP A x past) ∧ (rowL A (nb A (clampP A x past))).from_ ≤ clampP A x past ∧ clampP A x past ≤ (rowL A (nb A (clampP A x past))).to_ ∧ clampP A x past ≤ A.length := by
 have hs := stand_clamp A x past
 obtain ⟨h1, h2, h3⟩ := hs.row
 exact ⟨h1, by unfold ofI; rw [inT_of hs.len], h2, h3, hs.len⟩
set_option maxHeartbeats 2000000 in
theorem steps_walk (h : LookX w y c l L al) {K : Bool → World → Prop} (hK : ∀ w', Ext w w' → K true w') :
  callT Tryz.prog 3 #[.agg (Cells.vals c26 y).toArray] (.one (.one .bool)) K w := by
 refine F3_calls (a0 := y) ?_
 unfold F3
 have hal := h.alen
 have hfew := h.asks.few
 refine (St.start w).newO fun b1 w1 S1 e1 => ?_
 have S1 : St (fun _ => False) w w1 [(b1, lkO y)] := S1
 refine S1.lds 0 y rfl (ltext_call (h := ⟨h.e, h.i64, h.bytes.ext e1, h.blen, ⟨by obtain ⟨ys, g1, g2, g3⟩ := h.edits.ex; exact ⟨ys, g1.ext e1, g2, fun i q es hq he => (g3 i q es hq he).ext e1⟩, h.edits.few⟩, ⟨h.asks.row.ext e1, h.asks.few, h.asks.i64⟩⟩) (fun w2 e2 => law_r (.inl rfl) (hK w2 (S1.ext e2).upd)) fun p A w2 tx2 e2 => law_r (.inr ⟨p, rfl, ?_⟩) (hK w2 (S1.ext e2).upd))
 have S2 := S1.ext e2
 refine join_r (fun _ W => Ext w W) ?_ (fun _ W hW => hK W hW)
 refine sloop_r (fun x W => ∃ i : Nat, x = ((i : Int), ()) ∧ i ≤ al.length ∧ TxA W p A ∧ St (fun _ => False) w W [(b1, lkO y)]) (fun x _ => ((al.length : Int) - x.1).toNat) ⟨0, rfl, Nat.zero_le _, tx2, S2⟩ ?_
 rintro _ W ⟨i, rfl, hi, tx, SW⟩
 dsimp only
 refine SW.ld (off := 3) 0 rfl (x := y.2.2.2.1) rfl (sif_r (fun hc => ?_) (fun hc => SW.upd))
 simp only [decide_eq_true_eq] at hc
 obtain ⟨a, ha⟩ : ∃ a, al[i]? = some a := ⟨_, List.getElem?_eq_getElem (by omega)⟩
 have ewi : IntKind.wrap .i64 ((i : Int) + 1) = ((i + 1 : Nat) : Int) := by rw [wrap64 (by omega) (by omega)]; omega
 rw [ewi]
 refine SW.ld (off := 3) 0 rfl (x := y.2.2.2.1) rfl (h.ask SW.upd ha fun q1 => ?_)
 refine (St.start W).newAgg rfl rfl rfl fun b14 w4 T4 _ => ?_
 have T4 : St (fun _ => False) W w4 [(b14, askO a)] := T4
 refine T4.ld (off := 1) 0 rfl (x := a.at_) rfl (T4.ld (off := 6) 0 rfl (x := a.past) rfl (mclamp_call (tx.ext T4.upd) fun w5 e5 => ?_))
 have T5 := T4.ext e5
 obtain ⟨k1, k2, k3, k4, k5⟩ := cur_line A a.at_ a.past
 refine lline_call (tx.ext T5.upd) fun s w6 o6 e6 => ?_
 rw [k2] at o6
 rw [k2]
 obtain ⟨j, hj⟩ : ∃ j, nb A (clampP A a.at_ a.past) = j := ⟨_, rfl⟩
 rw [hj] at o6 k1 k3 k4
 rw [hj]
 have hA := tx.len
 have ok := row_ok k1
 have tn := ok.tn; have nl := ok.nl
 have hrl := rowB_length k1
 have hcl := rowC_len k1
 refine (T5.ext e6).newO fun b19 w7 T7 e7 => T7.aggSt 0 rfl rfl rfl rfl fun w8 T8 u8 => ?_
 have T8 : St (fun _ => False) W w8 [(b19, lnO (rowL A j)), (b14, askO a)] := T8
 have o8 := (o6.ext e7).box (T7.at_ 0 rfl) (by decide) u8
 refine sif_false (ccount_call o8 (by omega) fun w9 e9 => ?_)
 rw [row_count]
 have T9 := T8.ext e9
 obtain ⟨n, hn⟩ : ∃ n, (rowC A j).length = n := ⟨_, rfl⟩
 rw [hn] at hcl
 rw [hn]
 obtain ⟨most, hm⟩ : ∃ most, (if a.past = false ∧ 0 < n then n - 1 else n) = most := ⟨_, rfl⟩
 refine join_r (fun x V => x = ((most : Int), ()) ∧ w9 = V) ?_ ?_
 ·refine join_r (fun x V => x = (decide (a.past = false ∧ 0 < n), ()) ∧ w9 = V) ?_ ?_
  ·refine T9.ld (off := 6) 1 rfl (x := a.past) rfl (sif_r (fun hp => ⟨tupb ?_, rfl⟩) (fun hp => ⟨tupb ?_, rfl⟩))
   ·have : a.past = false := by simpa using hp
    simp [this]
   ·have : a.past = true := by simpa using hp
    simp [this]
  rintro _ _ ⟨rfl, rfl⟩
  refine sif_r (fun hp => ⟨?_, rfl⟩) (fun hp => ⟨?_, rfl⟩)
  ·have hp := of_decide_eq_true hp
   rw [if_pos hp] at hm
   rw [wrap64 (by omega) (by omega), ← hm]
   congr 1; omega
  ·rw [if_neg (of_decide_eq_false hp)] at hm
   rw [hm]
 rintro _ _ ⟨rfl, rfl⟩
 refine T9.ld (off := 0) 0 rfl (x := ((rowL A j).from_ : Int)) rfl ?_
 have hkN : ∀ {r : Nat}, (rowL A j).from_ ≤ r → r ≤ (rowL A j).to_ → IntKind.wrap .i64 ((r : Int) - ((rowL A j).from_ : Int)) = ((r - (rowL A j).from_ : Nat) : Int) := fun h1 h2 => by rw [wrap64 (by omega) (by omega)]; omega
 rw [hkN k3 k4]
 refine ccolumn_call (o8.ext e9) (by omega) (by omega) fun w10 e10 => ?_
 rw [col_is k1 k3 k4]
 have T10 := T9.ext e10
 obtain ⟨cc, hcc⟩ : ∃ cc, firstI (rowC A j) (clampP A a.at_ a.past : Int) = cc := ⟨_, rfl⟩
 rw [hcc]
 obtain ⟨_, _, _, q4, q5, _, _⟩ := cur_is A a.at_ a.past hj hn hcc hm
 obtain ⟨r1, r2⟩ := right_is A a.at_ a.count 0 a.past hj hn hcc hm
 obtain ⟨g1, g2⟩ := left_is A a.at_ a.count 0 a.past hj hn hcc hm
 refine T10.ld (off := 4) 1 rfl (x := a.count) rfl (T10.ld (off := 1) 1 rfl (x := a.at_) rfl (T10.ld (off := 4) 1 rfl (x := a.count) rfl (T10.ld (off := 6) 1 rfl (x := a.past) rfl ?_)))
 rw [kif]
 obtain ⟨kk, hkk⟩ : ∃ kk : Int, min (max a.count 1) 9999 = kk := ⟨_, rfl⟩
 rw [hkk] at r2 g2
 rw [hkk]
 have hk1 : 1 ≤ kk ∧ kk ≤ 9999 := by omega
 have hRf : ∀ lr, charsP A a.at_ 2 a.count 0 a.past = lr → (lr = noP 80 ∧ most ≤ cc) ∨ ∃ r : Nat, lr = landP A r 0 ∧ (firstI (rowC A j) (r : Int) : Int) = min ((cc : Int) + kk) most ∧ clampP A a.at_ a.past < r ∧ r ≤ (rowL A j).to_ ∧ cc < most := fun lr hlr => by
  rw [hlr] at r1 r2
  by_cases u : cc < most
  ·obtain ⟨r, h1, h2, h3, h4⟩ := r2 u
   exact .inr ⟨r, h1, h2, h3, h4, u⟩
  ·exact .inl ⟨r1 (Nat.le_of_not_lt u), Nat.le_of_not_lt u⟩
 have hGf : ∀ ll, charsP A a.at_ 1 a.count 0 a.past = ll → (ll = noP 80 ∧ cc = 0) ∨ ∃ r : Nat, ll = landP A r 0 ∧ (firstI (rowC A j) (r : Int) : Int) = max ((cc : Int) - kk) 0 ∧ r < clampP A a.at_ a.past ∧ (rowL A j).from_ ≤ r ∧ 0 < cc := fun ll hll => by
  rw [hll] at g1 g2
  rcases Nat.eq_zero_or_pos cc with u | u
  ·exact .inl ⟨g1 u, u⟩
  ·obtain ⟨r, h1, h2, h3, h4⟩ := g2 u
   exact .inr ⟨r, h1, h2, h3, h4, u⟩
 clear r1 r2 g1 g2 hkk hm
 refine mchars_call (kind := 2) (count := a.count) (arg := 0) (tx.ext T10.upd) fun w11 e11 => ?_
 obtain ⟨lr, hlr⟩ : ∃ lr, charsP A a.at_ 2 a.count 0 a.past = lr := ⟨_, rfl⟩
 rw [hlr]
 have T11 := T10.ext e11
 refine T11.newO fun b33 w12 T12 e12 => T12.aggSt 0 rfl rfl rfl rfl fun w13 T13 u13 => ?_
 have T13 : St (fun _ => False) W w13 [(b33, .cells #[.int .i64 lr.1.1, .int .i64 lr.1.2.1, .int .i64 lr.1.2.2] 43 (0, 0)), (b19, lnO (rowL A j)), (b14, askO a)] := T13
 have o13 : SlIn w13 s 3 1 (iv (rowB A j)) := ((((o8.ext e9).ext e10).ext e11).ext e12).box (T12.at_ 0 rfl) (by decide) u13
 refine join_r (fun x V => x = (false, ()) ∧ w13 = V) ?_ ?_
 ·refine rdB_neqb u4 ?_
  rcases hRf lr hlr with ⟨rfl, hm1⟩ | ⟨r, rfl, h2, h3, h4, h5⟩
  ·have e : (((ldT (noP 80)).2.1 == (80 : Int)) != decide ((cc : Int) ≥ (most : Int))) = false := by
    rw [decide_eq_true (by omega)]; rfl
   rw [e]
   exact sif_false (sif_false ⟨rfl, rfl⟩)
  ·have e : (((ldT (landP A r 0)).2.1 == (80 : Int)) != decide ((cc : Int) ≥ (most : Int))) = false := by
    rw [decide_eq_false (by omega)]; rfl
   rw [e]
   exact sif_false (sif_true ⟨rfl, rfl⟩)
 rintro _ _ ⟨rfl, rfl⟩
 refine sif_false (join_r (fun x V => x = (false, ()) ∧ Ext w13 V) ?_ ?_)
 ·rcases hRf lr hlr with ⟨rfl, hm1⟩ | ⟨r, rfl, h2, h3, h4, h5⟩
  ·exact sif_false ⟨rfl, Ext.refl _⟩
  ·refine sif_true (T13.ld (off := 0) 0 rfl (x := (r : Int)) rfl (T13.ld (off := 0) 1 rfl (x := ((rowL A j).from_ : Int)) rfl ?_))
   rw [hkN (by omega) h4]
   refine ccolumn_call o13 (by omega) (by omega) fun w14 e14 => ?_
   rw [col_is k1 (by omega) h4, h2]
   have T14 := T13.ext e14
   rw [wrap64 (by omega) (by omega)]
   have em : (if (most : Int) < (cc : Int) + kk then (most : Int) else (cc : Int) + kk) = min ((cc : Int) + kk) most := by split <;> omega
   rw [em, bne_self_eq_false]
   refine sif_false (T14.ld (off := 0) 0 rfl (x := (r : Int)) rfl (sif_r (fun hg => by simp only [decide_eq_true_eq] at hg; omega) (fun _ => ?_)))
   refine T14.ld (off := 0) 0 rfl (x := (r : Int)) rfl (T14.ld (off := 1) 1 rfl (x := ((rowL A j).to_ : Int)) rfl ⟨tupb ?_, e14⟩)
   simp only [decide_eq_true_eq, gt_iff_lt, Bool.false_eq_true, iff_false]; omega
 rintro _ w14 ⟨rfl, e14⟩
 have T14 := T13.ext e14
 refine sif_false (T14.ld (off := 1) 2 rfl (x := a.at_) rfl (T14.ld (off := 4) 2 rfl (x := a.count) rfl (T14.ld (off := 6) 2 rfl (x := a.past) rfl ?_)))
 refine mchars_call (kind := 1) (count := a.count) (arg := 0) (tx.ext T14.upd) fun w15 e15 => ?_
 obtain ⟨ll, hll⟩ : ∃ ll, charsP A a.at_ 1 a.count 0 a.past = ll := ⟨_, rfl⟩
 rw [hll]
 have T15 := T14.ext e15
 refine T15.aggSt 0 rfl rfl rfl rfl fun w16 T16 u16 => ?_
 have T16 : St (fun _ => False) W w16 [(b33, .cells #[.int .i64 ll.1.1, .int .i64 ll.1.2.1, .int .i64 ll.1.2.2] 43 (0, 0)), (b19, lnO (rowL A j)), (b14, askO a)] := T16
 have o16 : SlIn w16 s 3 1 (iv (rowB A j)) := ((o13.ext e14).ext e15).box (T15.at_ 0 rfl) (by decide) u16
 refine join_r (fun x V => x = (false, ()) ∧ w16 = V) ?_ ?_
 ·refine rdB_neqb u4 ?_
  rcases hGf ll hll with ⟨rfl, hm1⟩ | ⟨r, rfl, h2, h3, h4, h5⟩
  ·have e : (((ldT (noP 80)).2.1 == (80 : Int)) != ((cc : Int) == (0 : Int))) = false := by
    rw [show ((cc : Int) == (0 : Int)) = true by rw [beq_iff_eq]; omega]; rfl
   rw [e]
   exact sif_false (sif_false ⟨rfl, rfl⟩)
  ·have e : (((ldT (landP A r 0)).2.1 == (80 : Int)) != ((cc : Int) == (0 : Int))) = false := by
    rw [show ((cc : Int) == (0 : Int)) = false by rw [beq_eq_false_iff_ne]; omega]; rfl
   rw [e]
   exact sif_false (sif_true ⟨rfl, rfl⟩)
 rintro _ _ ⟨rfl, rfl⟩
 refine sif_false (join_r (fun x V => x = (false, ()) ∧ Ext w16 V) ?_ ?_)
 ·rcases hGf ll hll with ⟨rfl, hm1⟩ | ⟨r, rfl, h2, h3, h4, h5⟩
  ·exact sif_false ⟨rfl, Ext.refl _⟩
  ·refine sif_true (T16.ld (off := 0) 0 rfl (x := (r : Int)) rfl (T16.ld (off := 0) 1 rfl (x := ((rowL A j).from_ : Int)) rfl ?_))
   rw [hkN h4 (by omega)]
   refine ccolumn_call o16 (by omega) (by omega) fun w17 e17 => ?_
   rw [col_is k1 h4 (by omega), h2]
   have T17 := T16.ext e17
   rw [wrap64 (by omega) (by omega)]
   have em : (if (0 : Int) > (cc : Int) - kk then (0 : Int) else (cc : Int) - kk) = max ((cc : Int) - kk) 0 := by split <;> omega
   rw [em, bne_self_eq_false]
   refine sif_false (T17.ld (off := 0) 0 rfl (x := (r : Int)) rfl (sif_r (fun hg => by simp only [decide_eq_true_eq, ge_iff_le] at hg; omega) (fun _ => ?_)))
   refine T17.ld (off := 0) 0 rfl (x := (r : Int)) rfl (T17.ld (off := 0) 1 rfl (x := ((rowL A j).from_ : Int)) rfl ⟨tupb ?_, e17⟩)
   simp only [decide_eq_true_eq, Bool.false_eq_true, iff_false]; omega
 rintro _ w17 ⟨rfl, e17⟩
 have x17 := (T16.ext e17).upd
 exact sif_false ⟨⟨i + 1, rfl, by omega, tx.ext x17, SW.ext x17⟩, by omega⟩
end
end Go.Proofs.YtolhlldgnfbemaaGreat
namespace Go.Proofs.YtolhlldgnfbemaaGreat
open Go Go.Vx Go.ChangeShapes Go.WideShapes Go.RowKit
set_option maxRecDepth 100000 in
theorem motionSteps_lifted (os : Os) (started : os.Started) (H : Type) (enc : TypeId × Value → H) (F : Stop.Interp) :
  ReturnsInHanded {} Tryz.checked os 3 .any ((Rows.OpenSpec.upto Rows.motionStepsSpec).pre6 enc Tryz.prog Tryz.f3 Rows.motionStepsUptoRow.domain false) (((Rows.OpenSpec.upto Rows.motionStepsSpec).at F).post enc Tryz.prog Tryz.f3 false true false false) := by
 refine returnsInHanded_of_cond_sized (C := Tryz.checked) (s := Rows.OpenSpec.upto Rows.motionStepsSpec) (k := Rows.uptoSmall) rfl Tryz.own started (by kernel_rfl) Tryz.func3
  (OpenSpec.witness (enc := enc) (C := Tryz.checked) (s := Rows.OpenSpec.upto Rows.motionStepsSpec) (k := Rows.uptoSmall) rfl false ⟨#[], #[.agg #[.int .i64 0, .slice none 0 0, .slice none 0 0, .slice none 0 0]], []⟩ 8 (by kernel_rfl) (by kernel_rfl) (by kernel_rfl)
   (x := ([.agg [.lit (.int .i64 0), .nil, .nil, .nil]], [], [])) (by kernel_rfl) rfl (by kernel_rfl)) ?_
 intro W base args ds gs before hval0 hW _ hk hwt0 _
 have hval : ∀ (j : Nat) t v, Tryz.f3.params[j]? = some t → args[j]? = some v → Value.okWide Tryz.prog W .any base t v := hval0
 have hwt : (DataW.weightsEach Tryz.prog (Tryz.f3.params.toList ++ []) (ds ++ gs)).all (· ≤ reachBytes) = true := hwt0
 have hW' := hW
 obtain ⟨p, q, hA0, hV, rfl, hfz, hnd⟩ := hW
 have hA : DataW.TrodAll enc Tryz.prog W 0 (fun _ => true) true Tryz.f3.params.toList args.toList ds p := hA0
 clear hA0 hval0 hwt0
 rw [Tryz.params3] at hA hval hwt
 obtain ⟨rfl, rfl⟩ := trodVars_none hV
 obtain ⟨hn1, hn2, hT⟩ := trodAll_get hA
 obtain ⟨v0, hv⟩ := list_1 args.toList hn1
 obtain rfl : args = #[v0] := by cases args; simp_all
 obtain ⟨d0, rfl⟩ := list_1 ds hn2
 have hbulk : bulk d0 ≤ 1048576 := by
  have h : Rows.uptoBulkAll ([d0] ++ []) ≤ 1048576 := of_decide_eq_true hk
  simp only [List.append_nil, Rows.uptoBulkAll] at h
  show Rows.uptoBulk d0 ≤ _
  omega
 obtain ⟨p0, q0⟩ := hT 0 26 v0 d0 rfl rfl rfl
 obtain ⟨y, c, l, L, al, rfl, hL⟩ := arg_look (hval 0 26 v0 rfl rfl) q0 (weigh hwt 0 rfl rfl) hbulk
 have walk := steps_walk hL (K := fun r w' => r = true ∧ Ext W w') fun w' e => ⟨rfl, e⟩
 refine walk.mono fun e W' ⟨x, he, hx, hext⟩ => ⟨.bool true, ?_, ?_⟩
 ·subst hx; exact he
 ·exact post_same (s := Rows.motionStepsSpec) hW' rfl rfl u4 rfl Tryz.laidOut (fun t ht => by
   rw [Tryz.params3] at ht
   have ht : t ∈ [26] := ht
   simp only [List.mem_cons, List.not_mem_nil, or_false] at ht
   exact recs ht) hext
theorem motionSteps_holds : Rows.MotionStepsUptoSaid :=
 OpenClaim.holds_of_cond 3 Tryz.f3 rfl rfl rfl rfl rfl rfl rfl ⟨rfl, rfl, rfl, rfl, rfl⟩ rfl rfl rfl rfl rfl (by kernel_rfl) Tryz.func3 (by kernel_rfl)
  (of_decide_eq_true (by kernel_rfl)) (by unfold Func.isWrapper; rw [if_neg (by decide +kernel)]; exact ⟨rfl, rfl⟩)
  (fun os started H enc _ F => motionSteps_lifted os started H enc F)
end Go.Proofs.YtolhlldgnfbemaaGreat
