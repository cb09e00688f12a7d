/- YtolhlldgnfbemaaGreatDoorXPa4: parts of the proof, put together by program. -/
import Derived.Test.YtolhlldgnfbemaaGreatDoorXPa3
set_option linter.unusedVariables false
set_option linter.unusedSimpArgs false
set_option linter.unusedSectionVars false
noncomputable section
set_option maxRecDepth 100000
namespace Go.Proofs.YtolhlldgnfbemaaGreatDoor
open Go Go.Vx Cdc Trx
section
variable {w w' W W' : World} {S : Nat -> Prop} {p : Nat} {e : Enc} {lim na : Nat} {O : Nat -> Prop} {M : Parts}
theorem Qe {a : Addr} {K : Addr -> Wp} : nn (some a) K = K a := funext λ _ => propext H7
abbrev txO (e : Enc) (lim : Nat) (tp : Option Addr) (a : Sl) : Obj := .cells #[.int .i64 e.num, .int .i64 (lim : Int), .pointer tp, .slice a.a a.len a.cap] 106 (0, 0)
abbrev Bp5 (p b1 b2 b6 b7 : Nat) (ps : Sl) (f n : Nat) : List (Nat × Obj) := [(b7, .cells #[.int .i64 (n : Int)] 3 (0, 0)), (b6, .cells #[.int .i64 (f : Int)] 3 (0, 0)), (b2, .cells #[.slice ps.a ps.len ps.cap] 107 (0, 0)), (b1, .cells #[.pointer (some (at0 p))] 29 (0, 0))]
structure FrI (w W : World) (p : Nat) (e : Enc) (lim : Nat) (tp : Option Addr) (a0 : Sl) (b1 b2 b6 b7 : Nat) (a ps : Sl) (ab cb : Bs) (pl : List Pc) (M' : Parts) (n : Nat) : Prop where
 st : St (λ k => k = p \/ a0.blk k) w W (Bp5 p b1 b2 b6 b7 ps (ab.length - cb.length) n)
 tx : W.heap[p]? = some (txO e lim tp a)
 own : Ap W 0 a 5 1 (bv ab)
 suf : ∃ x, ab = x ++ cb
 row : Ap W w.heap.size ps 111 7 (flat Ah (pl.map pcT))
 its : Its W e pl M'
 tops : ∀ x ∈ pl, ∀ k, x.bytes.blk k -> a.blk k -> top x.bytes <= top a
 pblk : ∀ x ∈ pl, ∀ k, x.bytes.blk k -> a0.blk k \/ w.heap.size <= k
 ablk : ∀ k, a.blk k -> a0.blk k \/ w.heap.size <= k
 old : Old w W a0 a
 cnt : pl.length + cb.length <= ab.length
variable {tp : Option Addr} {a0 a ps : Sl} {b1 b2 b6 b7 n : Nat} {ab cb : Bs} {pl : List Pc} {M' : Parts}
theorem FrI.ext (h : FrI w W p e lim tp a0 b1 b2 b6 b7 a ps ab cb pl M' n) (x : Ext W W') : FrI w W' p e lim tp a0 b1 b2 b6 b7 a ps ab cb pl M' n :=
 ⟨h.st.ext x, x.ext_get h.tx, h.own.ext x, h.suf, h.row.ext x, h.its.ext x, h.tops, h.pblk, h.ablk, h.old.ty x (Al6 _ _), h.cnt⟩
set_option maxHeartbeats 1000000 in
theorem Cm0 {K : Unit -> Wp} (h : FrI w W p e lim tp a0 b1 b2 b6 b7 a ps ab cb pl M' n) (hab : ab.length < 2 ^ 40)
  (hK : ∀ ps' pl' M'' n' W', FrI w W' p e lim tp a0 b1 b2 b6 b7 a ps' ab [] pl' M'' n' -> aOf e M'' = aOf e M' ++ ats e cb -> n' <= n -> W.heap.size <= W'.heap.size -> K () W') :
  Cb Tryz.prog (do let d ← Deferred.ofValue (.func (.func 118) #[] #[.pointer (some (at0 b1)), .pointer (some (at0 b6)), .pointer (some (at0 b2)), .pointer (some (at0 b7))]) #[]; invoke d.target d.args : Sem Next) (.tup []) K W := by
 refine func_x (caps := #[.pointer (some (at0 b1)), .pointer (some (at0 b6)), .pointer (some (at0 b2)), .pointer (some (at0 b7))]) (by kernel_rfl) ?_
 refine Dr9 ?_
 unfold F118
 have hlen : ab.length = a.len := by have := h.own.len1; rwa [List.length_map] at this
 have hcl : cb.length <= ab.length := by obtain ⟨x, hx⟩ := h.suf; rw [hx]; simp
 have S0 := h.st
 refine S0.ld 3 rfl (x := some (at0 p)) rfl ?_
 simp only [Qe, addr_add]
 refine Cc h.tx (x := a) rfl (S0.ld 1 rfl (x := ((ab.length - cb.length : Nat) : Int)) rfl (Ac (λ hc => ?_) (λ hc => ?_)))
 ·simp only [decide_eq_true_eq, gt_iff_lt] at hc
  have hcb : 0 < cb.length := by omega
  refine S0.drew λ W1 S1 e1 _ => ?_
  have h1 := h.ext e1
  refine S1.ld 2 rfl (x := ps) rfl (S1.ld 3 rfl (x := some (at0 p)) rfl ?_)
  simp only [Qe, addr_add]
  refine Cc h1.tx (x := e.num) rfl (S1.ld 3 rfl (x := some (at0 p)) rfl ?_)
  simp only [Qe, addr_add]
  refine Cc h1.tx (x := a) rfl (S1.ld 1 rfl (x := ((ab.length - cb.length : Nat) : Int)) rfl ?_)
  have hcap := h.own.in.le
  refine Bq (by omega) ?_
  have hB1 : By W1 a ab := h1.own.in
  have c1 := hB1.cut (l := ((ab.length - cb.length : Nat) : Int)) (h := (a.len : Int)) (m := (a.len : Int)) (by omega) (by omega) (by omega) (by omega) (by omega)
  have d1 : (ab.drop ((ab.length - cb.length : Nat) : Int).toNat).take ((a.len : Int).toNat - ((ab.length - cb.length : Nat) : Int).toNat) = cb := by
   obtain ⟨x, hx⟩ := h.suf
   rw [Int.toNat_natCast, Int.toNat_natCast, List.take_of_length_le (by rw [List.length_drop]; omega)]
   have : ab.length - cb.length = x.length := by rw [hx]; simp
   rw [this, hx, List.drop_left]
  rw [d1] at c1
  have ct := An3 hB1 (l := ((ab.length - cb.length : Nat) : Int)) (h := (a.len : Int)) (m := (a.len : Int)) (by omega) (by omega) (by omega)
  have cbk := λ k => Vp (s := a) (l := ((ab.length - cb.length : Nat) : Int)) (h := (a.len : Int)) (m := (a.len : Int)) (k := k)
  generalize Sl.cut a.a ((ab.length - cb.length : Nat) : Int) (a.len : Int) (a.len : Int) 1 = y at *
  refine Nl c1 (by omega) λ W2 e2 => ?_
  have h2 := h1.ext e2
  have S2 := h2.st
  refine S2.keep 2 rfl (v := .slice ps.a ps.len ps.cap) rfl ?_
  refine Cm λ b15 W3 e3 n3 hb15 hz3 => ?_
  have h3 := h2.ext e3
  have S3 := h3.st
  refine S3.keep 2 rfl (v := .slice ps.a ps.len ps.cap) rfl ?_
  have hbox : SlX W3 ⟨some (at0 b15), 1, 1⟩ 7 (flat Ah [pcT (Xh e y (-1) cb)]) := (Bh.Iw n3 (n := 1) (sz := 7) rfl).x
  have hrl := Ap.Jt (cs := Ah) h3.row (by decide)
  rw [List.length_map] at hrl
  have hcnt := h.cnt
  refine Ej Qj Qj.ts_ (x := ⟨some (at0 b15), 1, 1⟩) h3.row hbox (Ad0 _) (by
   show (ps.len + 1 + (ps.len + 1) / 4 + 512) * 64 <= 2 ^ 48
   omega) (by have := S3.upd.size; omega) λ ps' W4 o4 l4 u4 k4 => ?_
  have nb4 : Fb W3 ps.blk 5 := Fb.blk h3.row.in (by decide)
  have nt4 : Fb W3 ps.blk 106 := Fb.blk h3.row.in (by decide)
  have e4 : flat Ah (pl.map pcT) ++ flat Ah [pcT (Xh e y (-1) cb)] = flat Ah ((pl ++ [Xh e y (-1) cb]).map pcT) := by rw [List.map_append, Js]; rfl
  rw [e4] at o4
  have tx4 : W4.heap[p]? = some (txO e lim tp a) := u4.get h3.tx λ hk => nt4 _ hk _ _ h3.tx
  have own4 := h3.own.ty u4 nb4
  have st4 : St (λ k => k = p \/ a0.blk k) w W4 (Bp5 p b1 b2 b6 b7 ps (ab.length - cb.length) n) := S3.fresh u4 (λ k hk => .inr (h3.row.Ew hk)) (λ x hx hk => by
   obtain ⟨c, fr, hc'⟩ := h3.row.in.Ep hk
   have hl := (S3.loc x hx).1
   rw [hc'] at hl
   simp only [Bp5, List.mem_cons, List.not_mem_nil, or_false] at hx
   rcases hx with rfl | rfl | rfl | rfl <;> cases hl)
  have its4 : Its W4 e (pl ++ [Xh e y (-1) cb]) (M' ++ [(-1, cb)]) := by
   refine Its.app (h3.its.ty u4 nb4) ⟨⟨?_, rfl, rfl, ?_, Int.le_refl _, ?_⟩, trivial⟩
   ·exact ((c1.ext e2).ext e3).ty u4 nb4
   ·intro hn
    replace hn : cb = [] := hn
    rw [hn] at hcb; simp at hcb
   ·show (-1 : Int) + (cb.length : Int) <= 2 ^ 40; omega
  have old4 := h3.old.ty u4 nb4
  refine st4.stC 2 rfl (by show 0 < 1; decide) λ W5 S5 u5 => S5.stC 1 rfl (by show 0 < 1; decide) λ W6 S6 u6 => S6.stC 0 rfl (by show 0 < 1; decide) λ W7 S7 u7 => ?_
  have g2 : W4.heap[b2]? = some (.cells #[.slice ps.a ps.len ps.cap] 107 (0, 0)) := st4.at_ 2 rfl
  have g6 : W5.heap[b6]? = some (.cells #[.int .i64 ((ab.length - cb.length : Nat) : Int)] 3 (0, 0)) := S5.at_ 1 rfl
  have g7 : W6.heap[b7]? = some (.cells #[.int .i64 (n : Int)] 3 (0, 0)) := S6.at_ 0 rfl
  have tx5 : W5.heap[p]? = some (txO e lim tp a) := u5.get tx4 (λ hk => Fb.box g2 (by decide) _ hk _ _ tx4)
  have tx6 : W6.heap[p]? = some (txO e lim tp a) := u6.get tx5 (λ hk => Fb.box g6 (by decide) _ hk _ _ tx5)
  have tx7 : W7.heap[p]? = some (txO e lim tp a) := u7.get tx6 (λ hk => Fb.box g7 (by decide) _ hk _ _ tx6)
  have hts : ∀ x ∈ pl ++ [Xh e y (-1) cb], ∀ k, x.bytes.blk k -> a.blk k -> top x.bytes <= top a := by
   intro x hx
   rcases List.mem_append.1 hx with hx | hx
   ·exact h.tops x hx
   ·rw [List.mem_singleton.1 hx]; intro k _ _; exact ct
  have hpb : ∀ x ∈ pl ++ [Xh e y (-1) cb], ∀ k, x.bytes.blk k -> a0.blk k \/ w.heap.size <= k := by
   intro x hx
   rcases List.mem_append.1 hx with hx | hx
   ·exact h.pblk x hx
   ·rw [List.mem_singleton.1 hx]; intro k hk; exact h.ablk k (cbk k hk)
  refine hK ps' (pl ++ [Xh e y (-1) cb]) (M' ++ [(-1, cb)]) 0 W7 ⟨?_, tx7, ?_, ⟨ab, by simp⟩, ?_, ?_, hts, hpb, h.ablk, ?_, ?_⟩ ?_ (Nat.zero_le _) ?_
  ·have e0 : ((a.len : Nat) : Int) = ((ab.length - ([] : Bs).length : Nat) : Int) := by simp; omega
   rw [e0] at S7
   exact S7
  ·exact ((own4.box g2 (by decide) u5).box g6 (by decide) u6).box g7 (by decide) u7
  ·exact ((o4.box g2 (by decide) u5).box g6 (by decide) u6).box g7 (by decide) u7
  ·exact ((its4.ty u5 (Fb.box g2 (by decide))).ty u6 (Fb.box g6 (by decide))).ty u7 (Fb.box g7 (by decide))
  ·exact ((old4.ty u5 (Fb.box g2 (by decide))).ty u6 (Fb.box g6 (by decide))).ty u7 (Fb.box g7 (by decide))
  ·simp; omega
  ·rw [Fq]; simp [aOf]
  ·have := e1.size; have := e2.size; have := e3.size; have := u4.size; have := u5.size; have := u6.size; have := u7.size; omega
 ·simp only [decide_eq_false_iff_not, gt_iff_lt] at hc
  have hcb : cb = [] := List.length_eq_zero_iff.1 (by omega)
  subst hcb
  exact hK ps pl M' n W h (by rw [Ir, List.append_nil]) (Nat.le_refl _) (Nat.le_refl _)
theorem Old.trans {w W W' : World} {a0 a a' : Sl} (h : Old w W a0 a) (h' : Old W W' a a') : Old w W' a0 a' := λ y b hy ht => h' y b (h y b hy ht).1 (h y b hy ht).2
set_option maxHeartbeats 1000000 in
theorem Bd3 {s : Sl} {t : TypeId} {put : List Int} (hs : Bh w s t 1 (iv put)) (hsep : ∀ k, s.blk k -> k ≠ p /\ ¬ a0.blk k) (hfit : Fits e put) (tx : w.heap[p]? = some (txO e lim tp a0)) (own : Ap w 0 a0 5 1 (bv ab)) (hab : ab.length + (bts e put).length < 2 ^ 40) (hput : put.length < 2 ^ 40) {K : Sl -> Wp}
  (hK : ∀ ps a pl M' W, W.heap[p]? = some (txO e lim tp a) -> Ap W 0 a 5 1 (bv (ab ++ bts e put)) -> Ap W w.heap.size ps 111 7 (flat Ah (pl.map pcT)) -> Its W e pl M' -> aOf e M' = prs e put -> (∀ x ∈ pl, ∀ k, x.bytes.blk k -> a.blk k -> top x.bytes <= top a) ->
   (∀ x ∈ pl, ∀ k, x.bytes.blk k -> a0.blk k \/ w.heap.size <= k) -> (∀ k, a.blk k -> a0.blk k \/ w.heap.size <= k) -> Old w W a0 a -> Upd (λ k => k = p \/ a0.blk k) w W -> pl.length <= ab.length + (bts e put).length -> K ps W) :
  Aa Tryz.prog 70 #[.pointer (some (at0 p)), s.v] rS K w := by
 refine A70 ?_
 unfold F70
 have hlen : put.length = s.len := by have := hs.len1; rwa [List.length_map] at this
 have hal : ab.length = a0.len := by have := own.len1; rwa [List.length_map] at this
 have hpw := lt_of_heap tx
 refine (St.Cl7 (λ k => k = p \/ a0.blk k) w (λ k hk => hk.elim (λ h => h ▸ hpw) λ h => own.in.Me h)).Af λ b1 w1 S1 e1 => S1.Af λ b2 w2 S2 e2 => S2.ld 1 rfl (x := some (at0 p)) rfl ?_
 simp only [Qe, addr_add]
 have x2 := e1.trans e2
 refine Cc (x2.ext_get tx) (x := a0) rfl (S2.Af λ b6 w3 S3 e3 => S3.stC 0 rfl (by show 0 < 1; decide) λ w4 S4 u4 => S4.Af λ b7 w5 S5 e5 => S5.stC 0 rfl (by show 0 < 1; decide) λ w6 S6 u6 => ?_)
 have g6 : w3.heap[b6]? = some (.cells #[.int .i64 0] 3 (0, 0)) := S3.at_ 0 rfl
 have g7 : w5.heap[b7]? = some (.cells #[.int .i64 0] 3 (0, 0)) := S5.at_ 0 rfl
 have x3 := x2.trans e3
 have F0 : FrI w w6 p e lim tp a0 b1 b2 b6 b7 a0 ⟨none, 0, 0⟩ ab [] [] [] 0 := by
  refine ⟨?_, ?_, ?_, ⟨ab, by simp⟩, Ap.nil _ _ _ _, trivial, (λ x hx => by cases hx), (λ x hx => by cases hx), λ k hk => .inl hk, ?_, by simp⟩
  ·have e0 : ((a0.len : Nat) : Int) = ((ab.length - ([] : Bs).length : Nat) : Int) := by simp; omega
   rw [e0] at S6
   exact S6
  ·have t3 := x3.ext_get tx
   have t4 : w4.heap[p]? = some (txO e lim tp a0) := u4.get t3 (λ hk => Fb.box g6 (by decide) _ hk _ _ t3)
   have t5 := e5.ext_get t4
   exact u6.get t5 (λ hk => Fb.box g7 (by decide) _ hk _ _ t5)
  ·exact (((own.ext x3).box g6 (by decide) u4).ext e5).box g7 (by decide) u6
  ·exact ((((Old.refl w a0).ty x3 (Al6 _ _)).ty u4 (Fb.box g6 (by decide))).ty e5 (Al6 _ _)).ty u6 (Fb.box g7 (by decide))
 clear S1 S2 S3 S4 S5 S6
 have tkl : ∀ i j : Nat, j <= i -> (bts e ((put.take i).drop j)).length <= (bts e put).length := by
  intro i j _
  have : put = put.take i ++ put.drop i := (List.take_append_drop i put).symm
  have h2 : put.take i = (put.take i).take j ++ (put.take i).drop j := (List.take_append_drop j _).symm
  have h3 : (bts e put).length = (bts e (put.take i)).length + (bts e (put.drop i)).length := by conv => lhs; rw [this]; rw [Yt, List.length_append]
  have h4 : (bts e (put.take i)).length = (bts e ((put.take i).take j)).length + (bts e ((put.take i).drop j)).length := by conv => lhs; rw [h2]; rw [Yt, List.length_append]
  omega
 have abl : ∀ i, (ab ++ bts e (put.take i)).length < 2 ^ 40 := λ i => by have := tkl i 0 (Nat.zero_le _); rw [List.length_append]; simp only [List.drop_zero] at this; omega
 have fit2 : ∀ i j, Fits e ((put.take i).drop j) := λ i j x hx => hfit x (List.mem_of_mem_take (List.mem_of_mem_drop hx))
 have glue : ∀ i j, Run ((put.take i).drop j) -> prs e ((put.take i).take j) ++ ats e (bts e ((put.take i).drop j)) = prs e (put.take i) := λ i j hr => by
  rw [Ci9 (fit2 i j) hr]; unfold prs; rw [← List.map_append, List.take_append_drop]
 have shut : ∀ {a ps i j pl M' n} {W : World} {K : Unit -> Wp}, Run ((put.take i).drop j) -> j <= i -> FrI w W p e lim tp a0 b1 b2 b6 b7 a ps (ab ++ bts e (put.take i)) (bts e ((put.take i).drop j)) pl M' n -> aOf e M' = prs e ((put.take i).take j) -> (∀ ps' pl' M'' n' W', FrI w W' p e lim tp a0 b1 b2 b6 b7 a ps' (ab ++ bts e (put.take i)) [] pl' M'' n' -> aOf e M'' = prs e (put.take i) -> n' <= n -> K () W') ->
   Cb Tryz.prog (do let d ← Deferred.ofValue (.func (.func 118) #[] #[.pointer (some (at0 b1)), .pointer (some (at0 b6)), .pointer (some (at0 b2)), .pointer (some (at0 b7))]) #[]; invoke d.target d.args : Sem Next) (.tup []) K W := by
  intro a ps i j pl M' n W K hr hj F hM hK
  exact Cm0 F (abl i) λ ps' pl' M'' n' W' F' hM' hn _ => hK ps' pl' M'' n' W' F' (by rw [hM', hM, glue _ _ hr]) hn
 refine Ad (λ _ W => ∃ a ps pl M' n j, j <= put.length /\ (∀ x ∈ (put.take put.length).drop j, Scalar x) /\ FrI w W p e lim tp a0 b1 b2 b6 b7 a ps (ab ++ bts e (put.take put.length)) (bts e ((put.take put.length).drop j)) pl M' n /\ aOf e M' = prs e ((put.take put.length).take j)) ?_ ?_
 ·refine Ar (λ x W => ∃ a ps pl M' n i j, x = (((i : Nat) : Int), ()) /\ i <= put.length /\ j <= i /\ n <= i /\ (∀ x ∈ (put.take i).drop j, Scalar x) /\ FrI w W p e lim tp a0 b1 b2 b6 b7 a ps (ab ++ bts e (put.take i)) (bts e ((put.take i).drop j)) pl M' n /\ aOf e M' = prs e ((put.take i).take j)) (λ x _ => ((put.length : Int) - x.1).toNat) ⟨a0, ⟨none, 0, 0⟩, [], [], 0, 0, 0, rfl, Nat.zero_le _, Nat.le_refl _, Nat.le_refl _, (λ x hx => by simp at hx), by simpa [bts] using F0, by simp [aOf, prs]⟩ ?_
  rintro _ W ⟨a, ps, pl, M', n, i, j, rfl, hi, hj, hn, hsc, F, hM⟩
  refine Ac (λ hc => ?_) (λ hc => ?_)
  ·simp only [decide_eq_true_eq] at hc
   obtain ⟨v, hv⟩ : ∃ v, put[i]? = some v := ⟨_, List.getElem?_eq_getElem (by omega)⟩
   have hf := hfit v (List.mem_of_getElem? hv)
   have ew : W64 ((i : Int) + 1) = ((i + 1 : Nat) : Int) := by rw [wrap64 (by omega) (by omega)]; omega
   dsimp only
   rw [ew]
   refine Ad (λ _ W => ∃ a ps pl M' n j, j <= i + 1 /\ n <= i + 1 /\ (∀ x ∈ (put.take (i + 1)).drop j, Scalar x) /\ FrI w W p e lim tp a0 b1 b2 b6 b7 a ps (ab ++ bts e (put.take (i + 1))) (bts e ((put.take (i + 1)).drop j)) pl M' n /\ aOf e M' = prs e ((put.take (i + 1)).take j)) ?_ ?_
   ·have hsW : Bh W s t 1 (iv put) := hs.upd F.st.upd λ k hk hSk => by
     have := hsep k hk
     rcases hSk with h | h
     ·exact this.1 h
     ·exact this.2 h
    refine Gl (c := .int .i64) (xs := put) hsW (by omega) (x := v) (by rw [Int.toNat_natCast]; exact hv) λ q => ?_
    have hsv := Az7 hf
    obtain ⟨sc, hsc'⟩ : ∃ sc : Bool, sc = decide (0 <= v /\ (v < 55296 \/ 57343 < v)) := ⟨_, rfl⟩
    have hsv : sc = true ↔ Scalar v := by rw [hsc', hsv, decide_eq_true_eq]
    refine Ad (λ x W' => x = (sc, ()) /\ W = W') ?_ ?_
    ·refine Ac (λ h1 => Ac (λ h2 => ⟨Az ?_, rfl⟩) (λ h2 => ⟨Az ?_, rfl⟩)) (λ h1 => ⟨Az ?_, rfl⟩)
     all_goals simp only [hsc', decide_eq_true_eq, decide_eq_false_iff_not, gt_iff_lt, ge_iff_le, true_iff, Bool.false_eq_true, false_iff] at *
     all_goals omega
    rintro _ _ ⟨rfl, rfl⟩
    refine Ad (λ _ W => ∃ ps pl M' n j, j <= i /\ n <= i /\ (∀ x ∈ (put.take i).drop j, Scalar x) /\ (sc = false -> j = i) /\ FrI w W p e lim tp a0 b1 b2 b6 b7 a ps (ab ++ bts e (put.take i)) (bts e ((put.take i).drop j)) pl M' n /\ aOf e M' = prs e ((put.take i).take j)) ?_ ?_
    ·refine Ad (λ x W' => x = ((!sc || decide (n = 128)), ()) /\ W = W') ?_ ?_
     ·refine Ac (λ h1 => ⟨Az ?_, rfl⟩) (λ h1 => F.st.ld 0 rfl (x := (n : Int)) rfl ⟨Az ?_, rfl⟩)
      ·have h1 : (!sc) = true := h1
       rw [h1]; simp
      ·have h1 : (!sc) = false := h1
       rw [h1, Bool.false_or]
       simp only [beq_iff_eq, decide_eq_true_eq]; omega
     rintro _ _ ⟨rfl, rfl⟩
     have nil_ : (put.take i).drop i = [] := List.drop_eq_nil_of_le (by rw [List.length_take]; omega)
     refine Ac (λ _ => shut (.inl hsc) hj F hM λ ps' pl' M'' n' W' F' hM' hn' => ⟨ps', pl', M'', n', i, Nat.le_refl _, by omega, ?_, (λ _ => rfl), ?_, ?_⟩) (λ hb => ⟨ps, pl, M', n, j, hj, hn, hsc, (λ h => ?_), F, hM⟩)
     ·rw [nil_]; intro x hx; cases hx
     ·rw [nil_]; exact F'
     ·rw [hM', List.take_take, Nat.min_self]
     ·have hb : (!sc || decide (n = 128)) = false := hb
      rw [h] at hb; simp at hb
    clear F hM hn hj hsc ps pl M' n j
    rintro _ W1 ⟨ps, pl, M', n, j, hj, hn, hsc, hji, F, hM⟩
    refine F.st.ld 3 rfl (x := some (at0 p)) rfl ?_
    simp only [Qe, addr_add]
    refine Cc F.tx (x := e.num) rfl (Cm λ b27 W2 e2' n2 hb27 _ => ?_)
    have F2 := F.ext e2'
    have hbox : Bh W2 ⟨some (at0 b27), 1, 1⟩ 3 1 [.int .i64 v] := Bh.Iw n2 (n := 1) (sz := 1) rfl
    refine Bp9 (s := ⟨some (at0 b27), 1, 1⟩) (t := 3) (e := e) (a := v) hf hbox λ s28 W3 o28 e3' => ?_
    have F3 := F2.ext e3'
    have S3 := F3.st
    show drew _ W3
    refine S3.drew λ W4 S4 e4' _ => ?_
    have F4 := F3.ext e4'
    have o28 := o28.ext e4'
    refine F4.st.ld 3 rfl (x := some (at0 p)) rfl (F4.st.ld 3 rfl (x := some (at0 p)) rfl ?_)
    simp only [Qe, addr_add]
    have tkv : put.take (i + 1) = put.take i ++ [v] := by rw [List.take_add_one, hv]; rfl
    have ptl : (bts e (put.take i)).length + (pt e v).length <= (bts e put).length := by
     have := tkl (i + 1) 0 (Nat.zero_le _)
     rw [List.drop_zero, tkv, Yt, List.length_append] at this
     simpa [bts] using this
    have s28l : (pt e v).length = s28.len := by have := o28.len1; rwa [List.length_map] at this
    have al4 : (ab ++ bts e (put.take i)).length = a.len := by have := F4.own.len1; rwa [List.length_map] at this
    have al4' := al4
    rw [List.length_append] at al4'
    refine Cc F4.tx (x := a) rfl (Cb9 F4.own o28.in.x (by omega) (Nat.zero_le _) λ a' W5 o5 l5 u5 k5 old5 => ?_)
    have nb5 : ∀ t, t ≠ 5 -> Fb W4 a.blk t := λ t ht => Fb.blk F4.own.in (λ h => ht h.symm)
    have tx5 : W5.heap[p]? = some (txO e lim tp a) := u5.get F4.tx λ hk => nb5 106 (by decide) _ hk _ _ F4.tx
    have st5 : St (λ k => k = p \/ a0.blk k) w W5 (Bp5 p b1 b2 b6 b7 ps ((ab ++ bts e (put.take i)).length - (bts e ((put.take i).drop j)).length) n) := F4.st.fresh u5 (λ k hk => (F4.ablk k hk).imp .inr id) (λ x hx hk => by
     obtain ⟨c, fr, hc'⟩ := F4.own.in.Ep hk
     have hl := (F4.st.loc x hx).1
     rw [hc'] at hl
     simp only [Bp5, List.mem_cons, List.not_mem_nil, or_false] at hx
     rcases hx with rfl | rfl | rfl | rfl <;> cases hl)
    have row5 := F4.row.ty u5 (nb5 111 (by decide))
    have its5 : Its W5 e pl M' := F4.its.to λ x hx b hb => (old5 x.bytes b hb (F4.tops x hx)).1
    have tops5 : ∀ x ∈ pl, ∀ k, x.bytes.blk k -> a'.blk k -> top x.bytes <= top a' := λ x hx => by
     obtain ⟨b, hb⟩ := F4.its.by_ x hx
     exact (old5 x.bytes b hb (F4.tops x hx)).2
    have oldT : Old w W5 a0 a' := F4.old.trans old5
    refine st5.keep 3 rfl (v := .pointer (some (at0 p))) rfl ?_
    refine Jq tx5 (by show 3 < 4; decide) λ W6 u6 n6 _ => ?_
    have n6 : W6.heap[p]? = some (txO e lim tp a') := n6
    have nt6 : ∀ t, t ≠ 106 -> Fb W5 (λ k => k = p) t := λ t ht => Fb.box tx5 (λ h => ht h.symm)
    have st6 : St (λ k => k = p \/ a0.blk k) w W6 (Bp5 p b1 b2 b6 b7 ps ((ab ++ bts e (put.take i)).length - (bts e ((put.take i).drop j)).length) n) := st5.step u6 λ k hk => .inl hk
    refine st6.ld 0 rfl (x := (n : Int)) rfl (st6.stC 0 rfl (by show 0 < 1; decide) λ W7 S7 u7 => ?_)
    have g7' : W6.heap[b7]? = some (.cells #[.int .i64 (n : Int)] 3 (0, 0)) := st6.at_ 0 rfl
    have ewn : W64 ((n : Int) + 1) = ((n + 1 : Nat) : Int) := by rw [wrap64 (by omega) (by omega)]; omega
    rw [ewn] at S7
    have cbe : bts e ((put.take (i + 1)).drop j) = bts e ((put.take i).drop j) ++ pt e v := by
     rw [tkv, List.drop_append_of_le_length (by rw [List.length_take]; omega), Yt]; simp [bts]
    have abe : ab ++ bts e (put.take (i + 1)) = ab ++ bts e (put.take i) ++ pt e v := by rw [tkv, Yt, List.append_assoc]; simp [bts]
    have F7 : FrI w W7 p e lim tp a0 b1 b2 b6 b7 a' ps (ab ++ bts e (put.take (i + 1))) (bts e ((put.take (i + 1)).drop j)) pl M' (n + 1) := by
     rw [cbe, abe]
     refine ⟨?_, ?_, ?_, ?_, ?_, ?_, tops5, F4.pblk, ?_, ?_, ?_⟩
     ·rw [@List.length_append _ (ab ++ bts e (put.take i)), @List.length_append _ (bts e ((put.take i).drop j)), Nat.add_sub_add_right]
      exact S7
     ·exact u7.get n6 (λ hk => Fb.box g7' (by decide) _ hk _ _ n6)
     ·exact (o5.ty u6 (nt6 _ (by decide))).box g7' (by decide) u7
     ·obtain ⟨x, hx⟩ := F4.suf
      exact ⟨x, by rw [hx, List.append_assoc]⟩
     ·exact (row5.ty u6 (nt6 _ (by decide))).box g7' (by decide) u7
     ·exact (its5.ty u6 (nt6 _ (by decide))).ty u7 (Fb.box g7' (by decide))
     ·intro k hk
      rcases k5 k hk with h | h
      ·exact F4.ablk k h
      ·have := F4.st.upd.size; exact .inr (by omega)
     ·exact (oldT.ty u6 (nt6 _ (by decide))).ty u7 (Fb.box g7' (by decide))
     ·have := F4.cnt
      rw [@List.length_append _ (ab ++ bts e (put.take i)), @List.length_append _ (bts e ((put.take i).drop j))]
      omega
    have seg : (put.take (i + 1)).drop j = (put.take i).drop j ++ [v] := by rw [tkv, List.drop_append_of_le_length (by rw [List.length_take]; omega)]
    have hM7 : aOf e M' = prs e ((put.take (i + 1)).take j) := by rw [hM, tkv, List.take_append_of_le_length (by rw [List.length_take]; omega)]
    refine Ac (λ hb => ?_) (λ hb => ⟨a', ps, pl, M', n + 1, j, by omega, by omega, ?_, F7, hM7⟩)
    ·have hb : sc = false := by simpa using hb
     have hr : Run ((put.take (i + 1)).drop j) := .inr ⟨v, by rw [seg, hji hb, List.drop_eq_nil_of_le (by rw [List.length_take]; omega)]; rfl⟩
     have nil_ : (put.take (i + 1)).drop (i + 1) = [] := List.drop_eq_nil_of_le (by rw [List.length_take]; omega)
     refine shut hr (by omega) F7 hM7 λ ps' pl' M'' n' W' F' hM' hn' => ⟨a', ps', pl', M'', n', i + 1, Nat.le_refl _, by omega, ?_, ?_, ?_⟩
     ·rw [nil_]; intro x hx; cases hx
     ·rw [nil_]; exact F'
     ·rw [hM', List.take_take, Nat.min_self]
    ·have hb : sc = true := by simpa using hb
     rw [seg]
     intro x hx
     rcases List.mem_append.1 hx with hx | hx
     ·exact hsc x hx
     ·rw [List.mem_singleton.1 hx]; exact hsv.1 hb
   ·rintro _ W' ⟨a, ps, pl, M', n, j, hj, hn, hsc, F, hM⟩
    exact ⟨⟨a, ps, pl, M', n, i + 1, j, rfl, by omega, by omega, hn, hsc, F, hM⟩, by omega⟩
  ·simp only [decide_eq_false_iff_not] at hc
   have : i = put.length := by omega
   subst this
   exact ⟨a, ps, pl, M', n, j, hj, hsc, F, hM⟩
 ·rintro _ W ⟨a, ps, pl, M', n, j, hj, hsc, F, hM⟩
  refine shut (.inl hsc) hj F hM λ ps' pl' M'' n' W' F' hM' _ => ?_
  have hcnt := F'.cnt
  rw [List.take_length] at F' hM' hcnt
  refine F'.st.ld 2 rfl (x := ps') rfl (hK ps' a pl' M'' W' F'.tx F'.own F'.row F'.its hM' F'.tops F'.pblk F'.ablk F'.old F'.st.upd ?_)
  rw [List.length_append] at hcnt
  simpa using hcnt
end
section
variable {w w' W W' : World} {S : Nat -> Prop} {p : Nat} {e : Enc} {lim na : Nat} {O : Nat -> Prop} {M : Parts} {tp : Option Addr} {a0 a : Sl}
def hdA (e : Enc) (M : Parts) (i n : Nat) : As := match M[i]? with | some x => (ats e x.2).take n | none => []
def tlA (e : Enc) (M : Parts) (i n : Nat) : As := match M[i]? with | some x => (ats e x.2).drop n | none => []
theorem Bx5 {e : Enc} {M : Parts} {i n : Nat} {x : Int × Bs} (h : M[i]? = some x) : hdA e M i n = (ats e x.2).take n := by unfold hdA; rw [h]
theorem Ap7 {e : Enc} {M : Parts} {i n : Nat} {x : Int × Bs} (h : M[i]? = some x) : tlA e M i n = (ats e x.2).drop n := by unfold tlA; rw [h]
theorem Bx6 {e : Enc} {M : Parts} {i n : Nat} (h : M[i]? = none) : hdA e M i n = [] := by unfold hdA; rw [h]
theorem Bs4 {e : Enc} {M : Parts} {i n : Nat} (h : M[i]? = none) : tlA e M i n = [] := by unfold tlA; rw [h]
theorem Cg1 {e : Enc} {M : Parts} {at_ i n : Nat} (h : Ax5 e M at_ i n) : (aOf e M).take at_ = aOf e (M.take i) ++ hdA e M i n := by rw [Ae5 h]; unfold hdA; cases M[i]? <;> rfl
theorem Bq1 {e : Enc} {M : Parts} {at_ i n : Nat} (h : Ax5 e M at_ i n) : (aOf e M).drop at_ = tlA e M i n ++ aOf e (M.drop (i + 1)) := by
 rcases h with ⟨rfl, rfl, rfl⟩ | ⟨x, hx, h1, h2, rfl⟩
 ·cases M with
  | nil => simp [aOf, tlA]
  | cons x M => simp [aOf, tlA]
 ·rw [Ap7 hx]
  have hil := (List.getElem?_eq_some_iff.1 hx).1
  have hd : M = M.take i ++ x :: M.drop (i + 1) := by
   have := List.drop_eq_getElem_cons hil
   have hx' : M[i] = x := by rw [List.getElem?_eq_getElem hil] at hx; exact Option.some.inj hx
   rw [hx'] at this
   rw [← this, List.take_append_drop]
  have : aOf e M = aOf e (M.take i) ++ (ats e x.2 ++ aOf e (M.drop (i + 1))) := by
   conv => lhs; rw [hd]
   rw [Fq, Gu]
  rw [this, List.drop_length_add_append, List.drop_append_of_le_length h2]
theorem Cd4 {e : Enc} {M : Parts} {f t i n j m : Nat} (h1 : Ax5 e M f i n) (h2 : Ax5 e M t j m) (hft : f <= t) : i <= j := by
 have mono : ∀ a b : Nat, a <= b -> (aOf e (M.take a)).length <= (aOf e (M.take b)).length := by
  intro a b hab
  have : M.take b = M.take a ++ (M.take b).drop a := by
   conv => lhs; rw [← List.take_append_drop a (M.take b)]
   rw [List.take_take, Nat.min_eq_left hab]
  rw [this, Fq, List.length_append]; omega
 rcases h1 with ⟨_, rfl, _⟩ | ⟨x, hx, g1, g2, g3⟩
 ·exact Nat.zero_le _
 rcases Nat.lt_or_ge j i with hlt | hge
 ·exfalso
  rcases h2 with ⟨h, _, _⟩ | ⟨y, hy, k1, k2, k3⟩
  ·omega
  ·have hjl := (List.getElem?_eq_some_iff.1 hy).1
   have e1 : (aOf e (M.take (j + 1))).length = (aOf e (M.take j)).length + (ats e y.2).length := by
    have hy' : M[j] = y := by rw [List.getElem?_eq_getElem hjl] at hy; exact Option.some.inj hy
    rw [List.take_add_one, hy, Option.toList_some, Fq, List.length_append]
    simp [aOf]
   have := mono (j + 1) i (by omega)
   omega
 ·exact hge
theorem Ap9 {l : As} (h : Jg l) {n : Nat} (hn : n <= l.length) : n <= szs (l.take n) := by
 have := Ro (h.take n)
 rw [List.length_take] at this; omega
theorem Cg0 {x : Pc} {y : Int × Bs} {n : Nat} (hp : O4 w e x y) (h1 : 1 <= n) (hn : n <= (ats e y.2).length) : O4 w e (Qi e x y.2 n) (y.1, y.2.take (cutAt e y.2 n)) := by
 have hcl := Ur e y.2 n
 have hlen := hp.by_.len
 have hcap := Bh.le hp.by_
 have c1 := hp.by_.cut (l := 0) (h := (cutAt e y.2 n : Int)) (m := (cutAt e y.2 n : Int)) (by omega) (by omega) (by omega) (by omega) (by omega)
 have d1 : (y.2.drop (0 : Int).toNat).take ((cutAt e y.2 n : Int).toNat - (0 : Int).toNat) = y.2.take (cutAt e y.2 n) := by simp
 rw [d1] at c1
 have hge : n <= cutAt e y.2 n := Ap9 (Fa e y.2) hn
 refine ⟨c1, rfl, hp.tag, λ hc => ?_, hp.lo, ?_⟩
 ·have := congrArg List.length hc
  rw [List.length_take, List.length_nil] at this
  omega
 ·have := hp.hi
  show y.1 + ((y.2.take _).length : Int) <= _
  rw [List.length_take]; omega
theorem Ce4 {x : Pc} {y : Int × Bs} {n : Nat} (hp : O4 w e x y) (hn : n < (ats e y.2).length) : O4 w e (Oc e x y.2 n) (Dw y.1 (cutAt e y.2 n), y.2.drop (cutAt e y.2 n)) := by
 have hcl := Ur e y.2 n
 have hlen := hp.by_.len
 have hcap := Bh.le hp.by_
 have c2 := hp.by_.cut (l := (cutAt e y.2 n : Int)) (h := (x.bytes.len : Int)) (m := (x.bytes.cap : Int)) (by omega) (by omega) (by omega) (by omega) (by omega)
 have d2 : (y.2.drop (cutAt e y.2 n : Int).toNat).take ((x.bytes.len : Int).toNat - (cutAt e y.2 n : Int).toNat) = y.2.drop (cutAt e y.2 n) := by
  rw [Int.toNat_natCast, Int.toNat_natCast]
  exact List.take_of_length_le (by rw [List.length_drop]; omega)
 rw [d2] at c2
 have hlt : cutAt e y.2 n < y.2.length := by
  have h1 := Bj ((ats e y.2).take n) ((ats e y.2).drop n)
  rw [List.take_append_drop, He] at h1
  have h2 := Ro ((Fa e y.2).drop n)
  rw [List.length_drop] at h2
  unfold cutAt; omega
 have hlo := hp.lo; have hhi := hp.hi
 refine ⟨c2, rfl, by show Dw x.tag _ = Dw y.1 _; rw [hp.tag], λ hc => ?_, ?_, ?_⟩
 ·have := congrArg List.length hc
  rw [List.length_drop, List.length_nil] at this
  omega
 ·show -1 <= Dw y.1 _
  unfold Dw; split <;> omega
 ·show Dw y.1 _ + ((y.2.drop _).length : Int) <= _
  rw [List.length_drop]
  unfold Dw; split <;> omega
theorem Cj3 (l : List Pc) : ∀ v ∈ flat Ah (l.map pcT), Ez v = true := by
 intro v hv
 unfold flat at hv
 obtain ⟨x, hx, hv⟩ := List.mem_flatMap.1 hv
 obtain ⟨y, _, rfl⟩ := List.mem_map.1 hx
 exact Ad0 y v (by rw [Yj]; exact hv)
theorem Ak8 (tx : W.heap[p]? = some (txO e lim tp a)) {K : Addr -> Cells.T Dn -> Wp} (hK : K (at0 p) (tp, ()) W) : nn (some (at0 p)) (λ q => lds Dn (q.add 2) (K q)) W := by
 refine Aj ?_
 rw [addr_add]
 refine Nb tx (x := (tp, ())) (λ i v hv => ?_) hK
 match i, hv with
 | 0, hv => exact hv
 | i + 1, hv => cases hv
abbrev Wr (w : World) (O : Nat -> Prop) (k : Nat) : Prop := O k /\ ∀ c fr, w.heap[k]? ≠ some (.cells c 162 fr)
set_option maxHeartbeats 2000000 in
theorem Ad2 {from_ to_ : Nat} {s : Sl} {t : TypeId} {put : List Int} (h : Txt w p e lim na O M) (hft : from_ <= to_) (hto : to_ <= (aOf e M).length) (hs : Bh w s t 1 (iv put)) (hsep : ∀ k, s.blk k -> ¬ O k) (hfit : Fits e put) (hna : na + (bts e put).length < 2 ^ 40) (hput : put.length < 2 ^ 40)
  (hroom : szs ((aOf e M).take from_ ++ prs e put ++ (aOf e M).drop to_) <= 1048576) {K : Unit -> Wp}
  (hK : ∀ O' M' w', Txt w' p e lim (na + (bts e put).length) O' M' -> aOf e M' = (aOf e M).take from_ ++ prs e put ++ (aOf e M).drop to_ -> Upd (Wr w O) w w' -> (∀ k, O k -> O' k) -> (∀ k, O' k -> O k \/ w.heap.size <= k) -> K () w') :
  Aa Tryz.prog 27 #[.pointer (some (at0 p)), .int .i64 (from_ : Int), .int .i64 (to_ : Int), s.v] (.tup []) K w := by
 refine A27 ?_
 unfold F27
 obtain ⟨tr, a0, ab, tx, ht, hi, own, tops, pO, aO, hla⟩ := h.ex
 have few := h.few; have lims := h.lims; have hsz := h.sz
 have il := hi.len
 have hf : Fine tr.items := hi.fine (by omega)
 have fl := hf.few
 have hal : ab.length = a0.len := by have := own.len1; rwa [List.length_map] at this
 refine Rn h (by omega) λ i n w1 hs1 hil1 e1 => ?_
 refine Rn (h.ext e1) (by omega) λ j m w2 hs2 hil2 e2 => ?_
 rw [Int.toNat_natCast] at hs1 hs2
 have x2 := e1.trans e2
 have hij := Cd4 hs1 hs2 hft
 have pcs : ∀ {i : Nat} {x : Pc}, tr.items[i]? = some x -> ∃ y, M[i]? = some y /\ O4 w e x y /\ y.2.length <= 1048576 := by
  intro i x hx
  obtain ⟨y, hy, hp⟩ := hi.get i hx
  refine ⟨y, hy, hp, ?_⟩
  have h2 : szs (aOf e M) = szs (aOf e (M.take i)) + (y.2.length + szs (aOf e (M.drop (i + 1)))) := by
   have hil := (List.getElem?_eq_some_iff.1 hy).1
   have hd := List.drop_eq_getElem_cons hil
   have hx' : M[i] = y := by rw [List.getElem?_eq_getElem hil] at hy; exact Option.some.inj hy
   rw [hx'] at hd
   conv => lhs; rw [← List.take_append_drop i M, hd]
   rw [Fq, Gu, Bj, Bj, He]
  omega
 have spn : ∀ {at_ i n : Nat} {y : Int × Bs}, at_ <= (aOf e M).length -> Ax5 e M at_ i n -> M[i]? = some y -> n <= (ats e y.2).length /\ n < 2 ^ 30 := by
  intro at_ i n y hle hs hy
  rcases hs with ⟨_, _, rfl⟩ | ⟨x, hx, h1, h2, h3⟩
  ·exact ⟨Nat.zero_le _, by decide⟩
  ·rw [hy] at hx; cases hx
   exact ⟨h2, by omega⟩
 refine Ad (λ x W => ∃ plL ML, Ap W w2.heap.size x.1 111 7 (flat Ah (plL.map pcT)) /\ Its w e plL ML /\ aOf e ML = hdA e M i n /\ (∀ x ∈ plL, ∀ k, x.bytes.blk k -> O k) /\ (∀ x ∈ plL, ∀ k, x.bytes.blk k -> a0.blk k -> top x.bytes <= top a0) /\ plL.length <= 1 /\ Ext w2 W) ?_ ?_
 ·refine Ak8 (x2.ext_get tx) (U0 (ht.ext x2) hf (by omega) λ w3 e3 => ?_)
  refine (St.start w3).Af λ b8 w4 S4 e4 => S4.Ae 0 rfl rfl rfl rfl λ w5 S5 u5 => ?_
  cases hx : tr.items[i]? with
  | none =>
   have hM : M[i]? = none := List.getElem?_eq_none (by have := List.getElem?_eq_none_iff.1 hx; omega)
   have e0 : atI tr.items i = (Pc.zero, false) := by unfold atI; rw [hx]
   rw [e0, Bx6 hM]
   refine Ad (λ x W => x = (false, ()) /\ w5 = W) (Am ⟨rfl, rfl⟩) ?_
   rintro _ _ ⟨rfl, rfl⟩
   exact Am ⟨[], [], Ap.nil _ _ _ _, trivial, rfl, (λ x hx => by cases hx), (λ x hx => by cases hx), Nat.zero_le _, e3.trans S5.upd⟩
  | some x =>
   have e0 : atI tr.items i = (x, true) := by unfold atI; rw [hx]
   rw [e0] at S5 ⊢
   obtain ⟨y, hy, hp, hyl⟩ := pcs hx
   have hn := spn (by omega) hs1 hy
   rw [Bx5 hy]
   refine Ad (λ x W => x = (decide (0 < n), ()) /\ w5 = W) (Bo ⟨Az ?_, rfl⟩) ?_
   ·simp only [decide_eq_true_eq, gt_iff_lt]; omega
   rintro _ _ ⟨rfl, rfl⟩
   refine Ac (λ hn0 => ?_) (λ hn0 => ?_)
   ·simp only [decide_eq_true_eq] at hn0
    have hlo := hp.lo; have hhi := hp.hi
    have hE : ∀ {V : World}, Ext w3 V -> V.cell? (at0 p) = some (.int .i64 e.num) := λ x => cell_of (x.ext_get ((x2.trans e3).ext_get tx)) rfl
    have byB : By w3 x.bytes y.2 := hp.by_.ext (x2.trans e3)
    have S := S5
    refine Ad (λ s W => ∃ b, s.1 = at0 b /\ W.heap[b]? = some (.cells (Cells.vals Ah (pcT (Qi e x y.2 n))).toArray 111 (0, 0)) /\ Ext w3 W) ?_ ?_
    ·refine S.drew λ w9 S e9 _ => S.lds 0 (pcT x) rfl ?_
     simp only [Qe]
     refine Cc (S.upd.ext_get ((x2.trans e3).ext_get tx)) (x := e.num) rfl ?_
     exact ⟨S.Af λ b18 wx S ex => Au (hE S.upd) (S.keeps 1 rfl (⟨S.Af λ b19 wx S ex => Au (hE S.upd) (S.keeps 2 rfl (Ei (byB.ext S.upd) (by omega) (by rw [hp.tag]; omega) (by omega) λ wx ex => (λ S => S.Ae 1 rfl rfl rfl rfl λ wx S ux => S.Ae 0 rfl rfl rfl rfl λ wx S ux => ⟨b18, rfl, S.at_ 1 rfl, S.upd⟩) (S.ext ex))), Ei (byB.ext S.upd) (by omega) (by rw [hp.tag]; omega) (by omega) λ wx ex => (λ S => ⟨S.Af λ b22 wx S ex => Au (hE S.upd) (S.keeps 2 rfl (S.Ae 1 rfl rfl rfl rfl λ wx S ux => S.Ae 0 rfl rfl rfl rfl λ wx S ux => ⟨b18, rfl, S.at_ 1 rfl, S.upd⟩)), trivial⟩) (S.ext ex)⟩)), ⟨S.Af λ b23 wx S ex => Au (hE S.upd) (S.keeps 1 rfl (⟨S.Af λ b24 wx S ex => Au (hE S.upd) (S.keeps 2 rfl (Ei (byB.ext S.upd) (by omega) (by rw [hp.tag]; omega) (by omega) λ wx ex => (λ S => S.Ae 0 rfl rfl rfl rfl λ wx S ux => S.Ae 1 rfl rfl rfl rfl λ wx S ux => ⟨b24, rfl, S.at_ 0 rfl, S.upd⟩) (S.ext ex))), Ei (byB.ext S.upd) (by omega) (by rw [hp.tag]; omega) (by omega) λ wx ex => (λ S => ⟨S.Af λ b27 wx S ex => Au (hE S.upd) (S.keeps 2 rfl (S.Ae 0 rfl rfl rfl rfl λ wx S ux => S.Ae 1 rfl rfl rfl rfl λ wx S ux => ⟨b27, rfl, S.at_ 0 rfl, S.upd⟩)), trivial⟩) (S.ext ex)⟩)), Ei (byB.ext S.upd) (by omega) (by rw [hp.tag]; omega) (by omega) λ wx ex => (λ S => ⟨S.Af λ b29 wx S ex => Au (hE S.upd) (S.keeps 1 rfl (⟨S.Af λ b30 wx S ex => Au (hE S.upd) (S.keeps 2 rfl (S.Ae 1 rfl rfl rfl rfl λ wx S ux => S.Ae 0 rfl rfl rfl rfl λ wx S ux => ⟨b29, rfl, S.at_ 1 rfl, S.upd⟩)), trivial⟩)), ⟨S.Af λ b31 wx S ex => Au (hE S.upd) (S.keeps 1 rfl (⟨S.Af λ b32 wx S ex => Au (hE S.upd) (S.keeps 2 rfl (S.Ae 0 rfl rfl rfl rfl λ wx S ux => S.Ae 1 rfl rfl rfl rfl λ wx S ux => ⟨b32, rfl, S.at_ 0 rfl, S.upd⟩)), trivial⟩)), trivial⟩⟩) (S.ext ex)⟩⟩
    ·rintro ⟨_, _⟩ w9 ⟨b, rfl, hb, e9⟩
     dsimp only
     refine Nb hb (x := pcT (Qi e x y.2 n)) (λ j v hv => by rw [Nat.zero_add, List.getElem?_toArray]; exact hv) (Cm λ b32 w10 e10 n10 _ _ => ?_)
     have hbox : SlX w10 ⟨some (at0 b32), 1, 1⟩ 7 (flat Ah [pcT (Qi e x y.2 n)]) := (Bh.Iw n10 (n := 1) (sz := 7) rfl).x
     have x10 := (e3.trans e9).trans e10
     refine Ej Qj Qj.ts_ (s := ⟨none, 0, 0⟩) (x := ⟨some (at0 b32), 1, 1⟩) (Ap.nil w10 w2.heap.size _ _) hbox (Ad0 _) (by dsimp only; omega) (by have := x10.size; omega) λ ps' W4 o4 l4 u4 k4 => ?_
     refine ⟨[Qi e x y.2 n], [(y.1, y.2.take (cutAt e y.2 n))], o4, ⟨Cg0 hp hn0 hn.1, trivial⟩, ?_, ?_, ?_, Nat.le_refl _, x10.step u4 λ k hk => ?_⟩
     ·show ats e (y.2.take (cutAt e y.2 n)) ++ [] = _
      rw [List.append_nil]; unfold cutAt
      rw [(Tf e n y.2).1]
     ·intro z hz k hk
      rw [List.mem_singleton.1 hz] at hk
      exact pO x (List.mem_of_getElem? hx) k (Vp hk)
     ·intro z hz k hk hk'
      rw [List.mem_singleton.1 hz] at hk ⊢
      have hcl := Ur e y.2 n
      have hlen := hp.by_.len
      exact Nat.le_trans (An3 hp.by_ (l := 0) (h := (cutAt e y.2 n : Int)) (by omega) (by omega) (by omega)) (tops x (List.mem_of_getElem? hx) k (Vp hk) hk')
     ·obtain ⟨q, hq, _⟩ := hk; cases hq
   ·simp only [decide_eq_false_iff_not] at hn0
    obtain rfl : n = 0 := by omega
    exact ⟨[], [], Ap.nil _ _ _ _, trivial, rfl, (λ x hx => by cases hx), (λ x hx => by cases hx), Nat.zero_le _, e3.trans S5.upd⟩
 rintro ⟨psL, _⟩ w3 ⟨plL, ML, Aw, itsL, hML, oL, topL, lenL, e3⟩
 dsimp only at Aw ⊢
 have x3 := x2.trans e3
 have tk1 := Cg1 hs1
 rw [← hML] at tk1
 have tk2 := Bq1 hs2
 refine Bd3 (hs.ext x3) (λ k hk => ⟨λ hc => hsep k hk (hc ▸ h.op), λ hc => hsep k hk (aO k hc)⟩) hfit (x3.ext_get tx) (own.ext x3) (by omega) hput λ psF a plF MF w4 tx4 own4 rowF itsF hMF topF blkF blkA old4 u4 cntF => ?_
 have nt4 : ∀ t, t ≠ 106 -> t ≠ 5 -> Fb w3 (λ k => k = p \/ a0.blk k) t := by
  rintro t h1 h2 k (rfl | hk) c fr hc
  ·rw [x3.ext_get tx] at hc; cases hc; exact h1 rfl
  ·obtain ⟨c', fr', hc'⟩ := (own.ext x3).in.Ep hk
   rw [hc] at hc'; cases hc'; exact h2 rfl
 have rowL4 := Aw.ty u4 (nt4 _ (by decide) (by decide))
 have ht4 : tr.In w4 := (ht.ext x3).ty u4 (nt4 _ (by decide) (by decide))
 have o4 : Old w w4 a0 a := λ y b hy htp => old4 y b (hy.ext x3) htp
 have lL := Ap.Jt (cs := Ah) Aw (by decide)
 have lF := Ap.Jt (cs := Ah) rowF (by decide)
 rw [List.length_map] at lL lF
 have z2 := e3.size
 have z4 := u4.size
 refine Ej Qj Qj.ts_ rowL4 rowF.in.x (Cj3 _) (by
  show (psL.len + psF.len + (psL.len + psF.len) / 4 + 512) * 64 <= 2 ^ 48
  omega) (by omega) λ psA w5 rowA lA u5 kA => ?_
 rw [← Js, ← List.map_append] at rowA
 have nt5 : ∀ t, t ≠ 111 -> Fb w4 psL.blk t := λ t ht => Fb.blk rowL4.in (λ h => ht h.symm)
 have tx5 : w5.heap[p]? = some (txO e lim tr.ptr a) := u5.get tx4 λ hk => nt5 106 (by decide) _ hk _ _ tx4
 have own5 := own4.ty u5 (nt5 _ (by decide))
 have itsF5 := itsF.ty u5 (nt5 _ (by decide))
 have ht5 : tr.In w5 := ht4.ty u5 (nt5 _ (by decide))
 have o5 := o4.ty u5 (nt5 _ (by decide))
 have z5 := u5.size
 refine Ad (λ x W => ∃ plR MR, Ap W w2.heap.size x.1 111 7 (flat Ah ((plL ++ plF ++ plR).map pcT)) /\ Its w e plR MR /\ aOf e MR = tlA e M j m /\ (∀ x ∈ plR, ∀ k, x.bytes.blk k -> O k) /\ (∀ x ∈ plR, ∀ k, x.bytes.blk k -> a0.blk k -> top x.bytes <= top a0) /\ Upd psA.blk w5 W) ?_ ?_
 ·refine Ak8 tx5 (U0 ht5 hf (by omega) λ w6 e6 => ?_)
  refine (St.start w6).Af λ b41 w7 S7 e7 => S7.Ae 0 rfl rfl rfl rfl λ w8 S8 u8 => ?_
  cases hx : tr.items[j]? with
  | none =>
   have hM : M[j]? = none := List.getElem?_eq_none (by have := List.getElem?_eq_none_iff.1 hx; omega)
   have e0 : atI tr.items j = (Pc.zero, false) := by unfold atI; rw [hx]
   rw [e0, Bs4 hM]
   refine Am ⟨[], [], ?_, trivial, rfl, (λ x hx => by cases hx), (λ x hx => by cases hx), Upd.Et (e6.trans S8.upd)⟩
   rw [List.append_nil]
   exact rowA.ext (e6.trans S8.upd)
  | some x =>
   have e0 : atI tr.items j = (x, true) := by unfold atI; rw [hx]
   rw [e0] at S8 ⊢
   obtain ⟨y, hy, hp, hyl⟩ := pcs hx
   have hn := spn hto hs2 hy
   rw [Ap7 hy]
   refine Bo ?_
   have hlo := hp.lo; have hhi := hp.hi
   have tx6 := e6.ext_get tx5
   have hE : ∀ {V : World}, Ext w6 V -> V.cell? (at0 p) = some (.int .i64 e.num) := λ x => cell_of (x.ext_get tx6) rfl
   have byB : By w6 x.bytes y.2 := ((o5 x.bytes y.2 hp.by_ (tops x (List.mem_of_getElem? hx))).1).ext e6
   have S := S8
   refine Ad (λ s W => ∃ b, s.1 = at0 b /\ W.heap[b]? = some (.cells (Cells.vals Ah (pcT (Oc e x y.2 m))).toArray 111 (0, 0)) /\ Ext w6 W) ?_ ?_
   ·refine S.drew λ w9 S e9 _ => S.lds 0 (pcT x) rfl ?_
    simp only [Qe]
    refine Cc (S.upd.ext_get tx6) (x := e.num) rfl ?_
    exact ⟨S.Af λ b18 wx S ex => Au (hE S.upd) (S.keeps 1 rfl (⟨S.Af λ b19 wx S ex => Au (hE S.upd) (S.keeps 2 rfl (Ei (byB.ext S.upd) (by omega) (by rw [hp.tag]; omega) (by omega) λ wx ex => (λ S => S.Ae 1 rfl rfl rfl rfl λ wx S ux => S.Ae 0 rfl rfl rfl rfl λ wx S ux => ⟨b19, rfl, S.at_ 0 rfl, S.upd⟩) (S.ext ex))), Ei (byB.ext S.upd) (by omega) (by rw [hp.tag]; omega) (by omega) λ wx ex => (λ S => ⟨S.Af λ b22 wx S ex => Au (hE S.upd) (S.keeps 2 rfl (S.Ae 1 rfl rfl rfl rfl λ wx S ux => S.Ae 0 rfl rfl rfl rfl λ wx S ux => ⟨b22, rfl, S.at_ 0 rfl, S.upd⟩)), trivial⟩) (S.ext ex)⟩)), ⟨S.Af λ b23 wx S ex => Au (hE S.upd) (S.keeps 1 rfl (⟨S.Af λ b24 wx S ex => Au (hE S.upd) (S.keeps 2 rfl (Ei (byB.ext S.upd) (by omega) (by rw [hp.tag]; omega) (by omega) λ wx ex => (λ S => S.Ae 0 rfl rfl rfl rfl λ wx S ux => S.Ae 1 rfl rfl rfl rfl λ wx S ux => ⟨b23, rfl, S.at_ 1 rfl, S.upd⟩) (S.ext ex))), Ei (byB.ext S.upd) (by omega) (by rw [hp.tag]; omega) (by omega) λ wx ex => (λ S => ⟨S.Af λ b27 wx S ex => Au (hE S.upd) (S.keeps 2 rfl (S.Ae 0 rfl rfl rfl rfl λ wx S ux => S.Ae 1 rfl rfl rfl rfl λ wx S ux => ⟨b23, rfl, S.at_ 1 rfl, S.upd⟩)), trivial⟩) (S.ext ex)⟩)), Ei (byB.ext S.upd) (by omega) (by rw [hp.tag]; omega) (by omega) λ wx ex => (λ S => ⟨S.Af λ b29 wx S ex => Au (hE S.upd) (S.keeps 1 rfl (⟨S.Af λ b30 wx S ex => Au (hE S.upd) (S.keeps 2 rfl (S.Ae 1 rfl rfl rfl rfl λ wx S ux => S.Ae 0 rfl rfl rfl rfl λ wx S ux => ⟨b30, rfl, S.at_ 0 rfl, S.upd⟩)), trivial⟩)), ⟨S.Af λ b31 wx S ex => Au (hE S.upd) (S.keeps 1 rfl (⟨S.Af λ b32 wx S ex => Au (hE S.upd) (S.keeps 2 rfl (S.Ae 0 rfl rfl rfl rfl λ wx S ux => S.Ae 1 rfl rfl rfl rfl λ wx S ux => ⟨b31, rfl, S.at_ 1 rfl, S.upd⟩)), trivial⟩)), trivial⟩⟩) (S.ext ex)⟩⟩
   ·rintro ⟨_, _⟩ w9 ⟨b, rfl, hb, e9⟩
    dsimp only
    simp only [addr_add]
    have hat : (Oc e x y.2 m).sm.atoms = (ats e y.2).length - m := by
     show (msr (ats e (y.2.drop (cutAt e y.2 m)))).atoms = _
     rw [Kw (Fa e _)]
     unfold cutAt
     rw [(Tf e m y.2).2, List.length_drop]
    refine Cc hb (x := (((Oc e x y.2 m).sm.atoms : Nat) : Int)) rfl (Ac (λ h0 => ?_) (λ h0 => ?_))
    ·simp only [decide_eq_true_eq, gt_iff_lt] at h0
     refine Nb hb (x := pcT (Oc e x y.2 m)) (λ j v hv => by rw [Nat.zero_add, List.getElem?_toArray]; exact hv) (Cm λ b32 w10 e10 n10 _ _ => ?_)
     have hbox : SlX w10 ⟨some (at0 b32), 1, 1⟩ 7 (flat Ah [pcT (Oc e x y.2 m)]) := (Bh.Iw n10 (n := 1) (sz := 7) rfl).x
     have x10 := (e6.trans e9).trans e10
     refine Ej Qj Qj.ts_ (x := ⟨some (at0 b32), 1, 1⟩) (rowA.ext x10) hbox (Ad0 _) (by
      show (psA.len + 1 + (psA.len + 1) / 4 + 512) * 64 <= 2 ^ 48
      omega) (by have := x10.size; omega) λ ps' W4 o4' l4 u4' k4 => ?_
     have ef : flat Ah ((plL ++ plF).map pcT) ++ flat Ah [pcT (Oc e x y.2 m)] = flat Ah ((plL ++ plF ++ [Oc e x y.2 m]).map pcT) := by rw [List.map_append (l₁ := plL ++ plF), Js]; rfl
     rw [ef] at o4'
     refine ⟨[Oc e x y.2 m], [(Dw y.1 (cutAt e y.2 m), y.2.drop (cutAt e y.2 m))], o4', ⟨Ce4 hp (by omega), trivial⟩, ?_, ?_, ?_, (Upd.Et x10).trans u4'⟩
     ·show ats e (y.2.drop (cutAt e y.2 m)) ++ [] = _
      rw [List.append_nil]; unfold cutAt
      rw [(Tf e m y.2).2]
     ·intro z hz k hk
      rw [List.mem_singleton.1 hz] at hk
      exact pO x (List.mem_of_getElem? hx) k (Vp hk)
     ·intro z hz k hk hk'
      rw [List.mem_singleton.1 hz] at hk ⊢
      have hcl := Ur e y.2 m
      have hlen := hp.by_.len
      exact Nat.le_trans (An3 hp.by_ (l := (cutAt e y.2 m : Int)) (h := (x.bytes.len : Int)) (by omega) (by omega) (by omega)) (tops x (List.mem_of_getElem? hx) k (Vp hk) hk')
    ·simp only [decide_eq_false_iff_not, gt_iff_lt] at h0
     refine ⟨[], [], ?_, trivial, ?_, (λ x hx => by cases hx), (λ x hx => by cases hx), Upd.Et (e6.trans e9)⟩
     ·rw [List.append_nil]; exact rowA.ext (e6.trans e9)
     ·show [] = (ats e y.2).drop m
      rw [List.drop_eq_nil_of_le (by omega)]
 rintro ⟨psR, _⟩ w6 ⟨plR, MR, rowR, itsR, hMR, oR, topR, u6⟩
 dsimp only at rowR ⊢
 rw [← hMR] at tk2
 have nt6 : ∀ t, t ≠ 111 -> Fb w5 psA.blk t := λ t ht => Fb.blk rowA.in (λ h => ht h.symm)
 have tx6 : w6.heap[p]? = some (txO e lim tr.ptr a) := u6.get tx5 λ hk => nt6 106 (by decide) _ hk _ _ tx5
 have own6 := own5.ty u6 (nt6 _ (by decide))
 have itsF6 := itsF5.ty u6 (nt6 _ (by decide))
 have ht6 : tr.In w6 := ht5.ty u6 (nt6 _ (by decide))
 have o6 := o5.ty u6 (nt6 _ (by decide))
 refine Di λ w7 e7 _ => Ak8 (e7.ext_get tx6) (Ak8 (e7.ext_get tx6) (Xd (ht6.ext e7) λ w8 e8 => ?_))
 have x8 := e7.trans e8
 have tx8 := x8.ext_get tx6
 refine Au ?_ ?_
 ·rw [addr_add]
  refine Eu _ 0 λ q v hv => cell_of tx8 ?_
  match q, hv with
  | 0, hv => exact hv
  | q + 1, hv => cases hv
 have emin : (if ((tr.items.length : Nat) : Int) < W64 ((j : Int) + 1) then ((tr.items.length : Nat) : Int) else W64 ((j : Int) + 1)) = ((min (j + 1) tr.items.length : Nat) : Int) := by
  rw [wrap64 (by omega) (by omega)]
  split <;> omega
 rw [emin]
 have old_its : ∀ {l : List Pc} {N : Parts}, Its w e l N -> (∀ x ∈ l, ∀ k, x.bytes.blk k -> a0.blk k -> top x.bytes <= top a0) -> Its w6 e l N := λ hl htp => hl.to λ x hx b hb => (o6 x.bytes b hb (htp x hx)).1
 have its_all : Its w6 e (tr.items.take i ++ (plL ++ plF ++ plR) ++ tr.items.drop (min (j + 1) tr.items.length)) (M.take i ++ (ML ++ MF ++ MR) ++ M.drop (min (j + 1) tr.items.length)) :=
  Its.app (Its.app (old_its (hi.take i) λ x hx => tops x (List.mem_of_mem_take hx)) (Its.app (Its.app (old_its itsL topL) itsF6) (old_its itsR topR))) (old_its (hi.drop _) λ x hx => tops x (List.mem_of_mem_drop hx))
 have ed : M.drop (min (j + 1) tr.items.length) = M.drop (j + 1) := by
  by_cases hc : j + 1 <= tr.items.length
  ·rw [Nat.min_eq_left hc]
  ·rw [List.drop_eq_nil_of_le (by omega), List.drop_eq_nil_of_le (by omega)]
 have ea : aOf e (M.take i ++ (ML ++ MF ++ MR) ++ M.drop (min (j + 1) tr.items.length)) = (aOf e M).take from_ ++ prs e put ++ (aOf e M).drop to_ := by
  rw [ed, Fq, Fq, Fq, Fq, tk1, tk2, hMF]
  simp only [List.append_assoc]
 have hsA : szs (aOf e (M.take i ++ (ML ++ MF ++ MR) ++ M.drop (min (j + 1) tr.items.length))) < 2 ^ 59 := by rw [ea]; omega
 have hFine := its_all.fine hsA
 have hjl : min (j + 1) tr.items.length <= tr.items.length := Nat.min_le_right _ _
 have hi_le : i <= min (j + 1) tr.items.length := by
  rcases hs1 with ⟨_, rfl, _⟩ | ⟨x, hx, _⟩
  ·exact Nat.zero_le _
  ·have := (List.getElem?_eq_some_iff.1 hx).1; omega
 refine Ak5 (t := tr) (n := i) (m := min (j + 1) tr.items.length) (l := plL ++ plF ++ plR) (ht6.ext x8) (rowR.in.ext x8) hf hFine.left.right hi_le hjl hFine λ t' w9 ht' hti e9 => ?_
 have x9 := x8.trans e9
 have tx9 := x9.ext_get tx6
 simp only [Qe, addr_add]
 refine Vu tx9 rfl rfl (by show 0 + 2 + 1 <= 4; decide) λ w10 u10 n10 _ => ?_
 have n10 : w10.heap[p]? = some (txO e lim t'.ptr a) := n10
 have nt10 : ∀ t, t ≠ 106 -> Fb w9 (λ k => k = p) t := λ t ht => Fb.box tx9 (λ h => ht h.symm)
 have ht10 : t'.In w10 := ht'.ty u10 (nt10 _ (by decide))
 have o10 : Old w w10 a0 a := (o6.ty x9 (Al6 _ _)).ty u10 (nt10 _ (by decide))
 have uA : Upd (Wr w O) w w10 := by
  have hp' : Wr w O p := ⟨h.op, Fb.box tx (by decide) p rfl⟩
  have v3 : Upd (Wr w O) w w3 := Upd.Et x3
  have v4 : Upd (Wr w O) w w4 := v3.trans (u4.mono λ k _ hk => hk.elim (λ h => h ▸ hp') λ h => ⟨aO k h, Fb.blk own.in (by decide) k h⟩)
  have v5 : Upd (Wr w O) w w5 := v4.new u5 λ k hk hS => by have := rowL4.Ew hS; have := x2.size; omega
  have v6 : Upd (Wr w O) w w6 := v5.new u6 λ k hk hS => by have := rowA.Ew hS; have := x2.size; omega
  exact (v6.trans (Upd.Et x9)).trans (u10.mono λ k _ hk => hk ▸ hp')
 have hsz10 := uA.size
 have own10 := (own6.ext x9).ty u10 (nt10 _ (by decide))
 have hlA : (ab ++ bts e put).length = a.len := by have := own10.len1; rwa [List.length_map] at this
 rw [List.length_append] at hlA
 refine hK (λ k => O k \/ (w.heap.size <= k /\ k < w10.heap.size)) (M.take i ++ (ML ++ MF ++ MR) ++ M.drop (min (j + 1) tr.items.length)) w10 ⟨⟨t', a, ab ++ bts e put, n10, ht10, ?_, own10, ?_, ?_, ?_, by omega⟩, lims, by rw [ea]; exact hroom, .inl h.op, ?_⟩ ea uA (λ k hk => .inl hk) (λ k hk => hk.imp id λ h => h.1)
 ·rw [hti]
  exact (its_all.ext x9).ty u10 (nt10 _ (by decide))
 ·rw [hti]
  have oldT : ∀ x : Pc, (∃ b, By w x.bytes b) -> (∀ k, x.bytes.blk k -> a0.blk k -> top x.bytes <= top a0) -> ∀ k, x.bytes.blk k -> a.blk k -> top x.bytes <= top a := λ x ⟨b, hb⟩ htp => (o10 x.bytes b hb htp).2
  intro x hx
  rcases List.mem_append.1 hx with hx | hx
  ·rcases List.mem_append.1 hx with hx | hx
   ·exact oldT x (hi.by_ x (List.mem_of_mem_take hx)) (tops x (List.mem_of_mem_take hx))
   ·rcases List.mem_append.1 hx with hx | hx
    ·rcases List.mem_append.1 hx with hx | hx
     ·exact oldT x (itsL.by_ x hx) (topL x hx)
     ·exact topF x hx
    ·exact oldT x (itsR.by_ x hx) (topR x hx)
  ·exact oldT x (hi.by_ x (List.mem_of_mem_drop hx)) (tops x (List.mem_of_mem_drop hx))
 ·rw [hti]
  intro x hx k hk
  have new : w3.heap.size <= k -> (∃ b, By w10 x.bytes b) -> O k \/ (w.heap.size <= k /\ k < w10.heap.size) := λ h1 ⟨b, hb⟩ => .inr ⟨by have := x3.size; omega, hb.Me hk⟩
  rcases List.mem_append.1 hx with hx | hx
  ·rcases List.mem_append.1 hx with hx | hx
   ·exact .inl (pO x (List.mem_of_mem_take hx) k hk)
   ·rcases List.mem_append.1 hx with hx | hx
    ·rcases List.mem_append.1 hx with hx | hx
     ·exact .inl (oL x hx k hk)
     ·rcases blkF x hx k hk with h1 | h1
      ·exact .inl (aO k h1)
      ·exact new h1 (((itsF6.ext x9).ty u10 (nt10 _ (by decide))).by_ x hx)
    ·exact .inl (oR x hx k hk)
  ·exact .inl (pO x (List.mem_of_mem_drop hx) k hk)
 ·intro k hk
  rcases blkA k hk with h1 | h1
  ·exact .inl (aO k h1)
  ·exact .inr ⟨by have := x3.size; omega, own10.in.Me hk⟩
 ·intro k hk
  rcases hk with hk | hk
  ·have := h.own k hk; omega
  ·exact hk.2
end
section
variable {w w' W W' : World} {S : Nat -> Prop} {p : Nat} {e : Enc} {lim na : Nat} {O : Nat -> Prop} {M : Parts} {tp : Option Addr} {a0 a : Sl}
theorem Txt.Cv6 (h : Txt w p e lim na O M) : w.cell? ⟨p, 1, none⟩ = some (.int .i64 (lim : Int)) := by
 obtain ⟨t, a, ab, h1, _⟩ := h.ex
 exact cell_of h1 rfl
theorem Aj6 (e : Enc) (l : List Int) {i : Nat} {v : Int} (hv : l[i]? = some v) : szs (prs e (l.take (i + 1))) = szs (prs e (l.take i)) + sz e v := by
 rw [List.take_add_one, hv]
 simp [prs, Bj, Ia, O6]
theorem Ay7 (e : Enc) (l : List Int) (i : Nat) : szs (prs e (l.take i)) <= szs (prs e l) := by
 have : prs e l = prs e (l.take i) ++ prs e (l.drop i) := by unfold prs; rw [← List.map_append, List.take_append_drop]
 rw [this, Bj]; omega
end
namespace Cdc
structure LEd where
 f : Int
 t : Int
 put : List Int
theorem Aq0 (e : Enc) (v : Int) : sz e v <= 4 := by
 cases e with
 | u8 => show sz8 v <= 4; unfold sz8; (repeat' split) <;> omega
 | le => show Hf v <= 4; unfold Hf; (repeat' split) <;> omega
 | be => show Hf v <= 4; unfold Hf; (repeat' split) <;> omega
 | l1 => show sz1 v <= 4; unfold sz1; (repeat' split) <;> omega
end Cdc
def Hq (n : Int) : Int -> List LEd -> Bool
 | _, [] => true
 | a, x :: r => decide (a <= x.f /\ x.f <= x.t /\ x.t <= n) && Hq n x.t r
def Hw (e : Enc) (es : List LEd) : Bool := es.all λ x => x.put.all λ a => sz e a != 0
def Ce (e : Enc) : List LEd -> Nat
 | [] => 0
 | x :: r => szs (prs e x.put) + Ce e r
def Ig (A : As) : List LEd -> Nat
 | [] => 0
 | x :: r => (szs (A.take x.t.toNat) - szs (A.take x.f.toNat)) + Ig A r
def Ij (e : Enc) (lim : Nat) (A : As) (es : List LEd) : Int :=
 if 70000 < es.length then 3 else if Hq A.length 0 es = false then 2 else if Hw e es = false then 11 else if lim + Ig A es < szs A + Ce e es then 50 else 0
def Df (e : Enc) (A : As) : List LEd -> As
 | [] => A
 | x :: r => (Df e A r).take x.f.toNat ++ prs e x.put ++ (Df e A r).drop x.t.toNat
theorem Qq (e : Enc) : ∀ (l m : List LEd), Ce e (l ++ m) = Ce e l + Ce e m
 | [], m => by simp [Ce]
 | x :: l, m => by rw [List.cons_append, Ce, Ce, Qq e l m]; omega
theorem Zv (A : As) : ∀ (l m : List LEd), Ig A (l ++ m) = Ig A l + Ig A m
 | [], m => by simp [Ig]
 | x :: l, m => by rw [List.cons_append, Ig, Ig, Zv A l m]; omega
theorem Ah7 (e : Enc) (l m : List LEd) : Hw e (l ++ m) = (Hw e l && Hw e m) := by unfold Hw; rw [List.all_append]
theorem Ot (A : As) {i j : Nat} (h : i <= j) : szs (A.take i) <= szs (A.take j) := by
 have : A.take j = A.take i ++ (A.take j).drop i := by
  conv => lhs; rw [← List.take_append_drop i (A.take j)]
  rw [List.take_take, Nat.min_eq_left h]
 rw [this, Bj]; omega
theorem Rq (A : As) (i : Nat) : szs (A.take i) <= szs A := by
 conv => rhs; rw [← List.take_append_drop i A]
 rw [Bj]; omega
theorem Xx {n : Int} : ∀ {es : List LEd} {a : Int} {i : Nat} {x : LEd}, Hq n a es = true -> es[i]? = some x -> (if i = 0 then a else ((es[i - 1]?).map (·.t)).getD 0) <= x.f /\ a <= x.f /\ x.f <= x.t /\ x.t <= n /\ Hq n x.t (es.drop (i + 1)) = true
 | [], a, i, x, _, hx => by simp at hx
 | y :: r, a, 0, x, h, hx => by
  simp at hx; subst hx
  rw [Hq, Bool.and_eq_true, decide_eq_true_eq] at h
  exact ⟨h.1.1, h.1.1, h.1.2.1, h.1.2.2, h.2⟩
 | y :: r, a, i + 1, x, h, hx => by
  rw [Hq, Bool.and_eq_true, decide_eq_true_eq] at h
  have hx' : r[i]? = some x := by simpa using hx
  obtain ⟨g1, g2, g3, g4, g5⟩ := Xx h.2 hx'
  refine ⟨?_, by omega, g3, g4, g5⟩
  rw [if_neg (by omega)]
  cases i with
  | zero => simpa using g1
  | succ i =>
   rw [if_neg (by omega)] at g1
   simpa using g1
theorem Xl {e : Enc} {A : As} : ∀ {es : List LEd} {a : Int}, 0 <= a -> a <= A.length -> Hq A.length a es = true -> a.toNat <= (Df e A es).length /\ (Df e A es).take a.toNat = A.take a.toNat
 | [], a, h0, h1, _ => ⟨by rw [Df]; omega, rfl⟩
 | x :: r, a, h0, h1, h => by
  rw [Hq, Bool.and_eq_true, decide_eq_true_eq] at h
  obtain ⟨⟨g1, g2, g3⟩, g4⟩ := h
  obtain ⟨i1, i2⟩ := Xl (e := e) (A := A) (a := x.t) (by omega) g3 g4
  have hB : (Df e A r).take x.f.toNat = A.take x.f.toNat := by
   have := congrArg (List.take x.f.toNat) i2
   rw [List.take_take, List.take_take, Nat.min_eq_left (by omega)] at this
   exact this
  rw [Df, hB]
  have hl : (A.take x.f.toNat).length = x.f.toNat := by rw [List.length_take]; omega
  constructor
  ·rw [List.length_append, List.length_append, hl]; omega
  ·rw [List.append_assoc, List.take_append_of_le_length (by rw [hl]; omega), List.take_take, Nat.min_eq_left (by omega)]
theorem Yi {A : As} : ∀ {es : List LEd} {a : Int}, 0 <= a -> Hq A.length a es = true -> Ig A es + szs (A.take a.toNat) <= szs A
 | [], a, _, _ => by rw [Ig]; have := Rq A a.toNat; omega
 | x :: r, a, h0, h => by
  rw [Hq, Bool.and_eq_true, decide_eq_true_eq] at h
  obtain ⟨⟨g1, g2, g3⟩, g4⟩ := h
  have ih := Yi (A := A) (a := x.t) (by omega) g4
  have h1 := Ot A (i := a.toNat) (j := x.f.toNat) (by omega)
  have h2 := Ot A (i := x.f.toNat) (j := x.t.toNat) (by omega)
  rw [Ig]; omega
theorem Vt {e : Enc} {A : As} : ∀ {es : List LEd} {a : Int}, 0 <= a -> a <= A.length -> Hq A.length a es = true -> szs (Df e A es) + Ig A es = szs A + Ce e es
 | [], a, _, _, _ => by rw [Df, Ig, Ce]
 | x :: r, a, h0, h1, h => by
  rw [Hq, Bool.and_eq_true, decide_eq_true_eq] at h
  obtain ⟨⟨g1, g2, g3⟩, g4⟩ := h
  have ih := Vt (e := e) (A := A) (a := x.t) (by omega) g3 g4
  obtain ⟨i1, i2⟩ := Xl (e := e) (A := A) (a := x.t) (by omega) g3 g4
  have hB : (Df e A r).take x.f.toNat = A.take x.f.toNat := by
   have := congrArg (List.take x.f.toNat) i2
   rw [List.take_take, List.take_take, Nat.min_eq_left (by omega)] at this
   exact this
  have h3 : szs (Df e A r) = szs (A.take x.t.toNat) + szs ((Df e A r).drop x.t.toNat) := by
   conv => lhs; rw [← List.take_append_drop x.t.toNat (Df e A r)]
   rw [Bj, i2]
  have h2 := Ot A (i := x.f.toNat) (j := x.t.toNat) (by omega)
  rw [Df, Bj, Bj, hB, Ig, Ce]
  omega
section
variable {w w' W W' : World} {S : Nat -> Prop} {p : Nat} {e : Enc} {lim na : Nat} {O : Nat -> Prop} {M : Parts}
structure Cp5 (w : World) (s : Sl) (ty : TypeId) (ys : List (Cells.T c65)) (es : List LEd) : Prop where
 row : Bh w s ty 3 (flat c65 ys)
 len : ys.length = es.length
 each : ∀ (i : Nat) y x, ys[i]? = some y -> es[i]? = some x -> y.1 = x.f /\ y.2.1 = x.t /\ (∃ t, Bh w y.2.2.1 t 1 (iv x.put)) /\ x.put.length <= 2 ^ 44
theorem Al1 (e : Enc) : ∀ (l : List LEd), (∀ x ∈ l, x.put.length <= 2 ^ 44) -> Ce e l <= 70368744177664 * l.length
 | [], _ => by simp [Ce]
 | x :: l, h => by
  have ih := Al1 e l λ y hy => h y (List.mem_cons_of_mem _ hy)
  have h1 := h x List.mem_cons_self
  have h2 : ∀ m : List Int, szs (prs e m) <= 4 * m.length := by
   intro m
   induction m with
   | nil => exact Nat.le_refl _
   | cons a m ih =>
    show Cdc.szs ((a, sz e a) :: prs e m) <= _
    rw [Ia, List.length_cons]
    have := Aq0 e a
    show sz e a + _ <= _
    omega
  have := h2 x.put
  rw [Ce, List.length_cons]; omega
abbrev edO (f t : Int) (s : Sl) : Obj := .cells #[.int .i64 f, .int .i64 t, .slice s.a s.len s.cap] 65 (0, 0)
set_option maxHeartbeats 1000000 in
theorem Ak7 {s : Sl} {ty : TypeId} {ys : List (Cells.T c65)} {es : List LEd} (h : Txt w p e lim na O M) (hE : Cp5 w s ty ys es) {K : Int -> Wp} (hK : ∀ w', Ext w w' -> K (Ij e lim (aOf e M) es) w') :
  Aa Tryz.prog 26 #[.pointer (some (at0 p)), s.v] rI K w := by
 refine A26 ?_
 unfold F26
 have few := h.few; have lims := h.lims; have hsz := h.sz
 have hyl : ys.length = s.len := Bh.Jt (cs := c65) hE.row (by decide)
 have hel := hE.len
 obtain ⟨A, hA⟩ : ∃ A, A = aOf e M := ⟨_, rfl⟩
 rw [← hA] at few hsz
 have small : ∀ x ∈ es, x.put.length <= 2 ^ 44 := λ x hx => by
  obtain ⟨i, hi⟩ := List.getElem?_of_mem hx
  obtain ⟨y, hy⟩ : ∃ y, ys[i]? = some y := ⟨_, List.getElem?_eq_getElem (by have := (List.getElem?_eq_some_iff.1 hi).1; omega)⟩
  exact (hE.each i y x hy hi).2.2.2
 unfold Ij at hK
 rw [← hA] at hK
 refine Ac (λ hc => ?_) (λ hc => ?_)
 ·simp only [decide_eq_true_eq, gt_iff_lt] at hc
  have := hK w (Ext.refl w)
  rw [if_pos (by omega)] at this
  exact this
 simp only [decide_eq_false_iff_not, gt_iff_lt] at hc
 rw [if_neg (by omega)] at hK
 have few2 : es.length <= 70000 := by omega
 have rdE : ∀ {V : World} {K : Addr -> Cells.T c65 -> Wp} {i : Nat} {y : Cells.T c65}, Ext w V -> ys[i]? = some y -> (∀ q, K q y V) -> ix s.a s.len (i : Int) (λ q => lds c65 (q.add (scaled (Int.toNat (i : Int)) 3)) (K q)) V := λ x hy hk => Si (cs := c65) (xs := ys) (hE.row.ext x) (by decide) (by omega) (by rw [Int.toNat_natCast]; exact hy) hk
 have get : ∀ i, i < es.length -> ∃ y x, ys[i]? = some y /\ es[i]? = some x := λ i hi => ⟨_, _, List.getElem?_eq_getElem (by omega), List.getElem?_eq_getElem hi⟩
 have ewi : ∀ i : Nat, i < es.length -> W64 ((i : Int) + 1) = ((i + 1 : Nat) : Int) := λ i hi => by rw [wrap64 (by omega) (by omega)]; omega
 refine Je h λ w1 e1 => ?_
 have hlA : ((aOf e M).length : Int) = (A.length : Int) := by rw [hA]
 rw [hlA]
 refine Ad (λ _ W => Hq A.length 0 es = true /\ Ext w W) ?_ ?_
 ·refine Ar (λ x W => ∃ i : Nat, x.2 = ((i : Int), ()) /\ i <= es.length /\ Hq A.length 0 es = Hq A.length x.1 (es.drop i) /\ Ext w W) (λ x _ => ((es.length : Int) - x.2.1).toNat) ⟨0, rfl, Nat.zero_le _, rfl, e1⟩ ?_
  rintro ⟨a, _⟩ W ⟨i, rfl, hi, hr, eW⟩
  dsimp only at hr ⊢
  refine Ac (λ hc => ?_) (λ hc => ?_)
  ·simp only [decide_eq_true_eq] at hc
   obtain ⟨y, x, hy, hx⟩ := get i (by omega)
   obtain ⟨y1, y2, _⟩ := hE.each i y x hy hx
   rw [ewi i (by omega)]
   have hd : es.drop i = x :: es.drop (i + 1) := by
    have hl := (List.getElem?_eq_some_iff.1 hx).1
    rw [List.drop_eq_getElem_cons hl]
    rw [List.getElem?_eq_getElem hl] at hx
    cases hx; rfl
   rw [hd, Hq] at hr
   refine rdE eW hy λ q => (St.start W).Af λ b8 w2 S2 e2 => S2.Ae 0 rfl rfl rfl rfl λ w3 S3 u3 => ?_
   have S3 : St (λ _ => False) W w3 [(b8, edO y.1 y.2.1 y.2.2.1)] := S3
   rw [y1, y2] at S3
   refine Ad (λ z W' => z = (!decide (a <= x.f /\ x.f <= x.t /\ x.t <= (A.length : Int)), ()) /\ w3 = W') ?_ ?_
   ·refine S3.ld 0 rfl (x := x.f) rfl (Ac (λ g1 => ⟨Az ?_, rfl⟩) (λ g1 => S3.ld 0 rfl (x := x.t) rfl (S3.ld 0 rfl (x := x.f) rfl (Ac (λ g2 => ⟨Az ?_, rfl⟩) (λ g2 => S3.ld 0 rfl (x := x.t) rfl ⟨Az ?_, rfl⟩)))))
    all_goals simp only [Bool.not_eq_true', decide_eq_true_eq, decide_eq_false_iff_not, true_iff, gt_iff_lt] at *
    all_goals omega
   rintro _ _ ⟨rfl, rfl⟩
   have x3 := eW.trans S3.upd
   refine Ac (λ hb => ?_) (λ hb => ?_)
   ·have hb : decide (a <= x.f /\ x.f <= x.t /\ x.t <= (A.length : Int)) = false := by
     cases hd : decide (a <= x.f /\ x.f <= x.t /\ x.t <= (A.length : Int)) with
     | false => rfl
     | true => rw [hd] at hb; exact absurd hb (by decide)
    rw [hb, Bool.false_and] at hr
    have := hK w3 x3
    rw [if_pos hr] at this
    exact this
   ·have hb : decide (a <= x.f /\ x.f <= x.t /\ x.t <= (A.length : Int)) = true := by simpa using hb
    rw [hb, Bool.true_and] at hr
    exact S3.ld 0 rfl (x := x.t) rfl ⟨⟨i + 1, rfl, by omega, hr, x3⟩, by omega⟩
  ·simp only [decide_eq_false_iff_not] at hc
   refine ⟨?_, eW⟩
   rw [hr, List.drop_eq_nil_of_le (by omega)]; rfl
 rintro _ w2 ⟨hr, e2⟩
 rw [if_neg (by rw [hr]; decide)] at hK
 refine Az2 (h.ext e2) λ w3 e3 => ?_
 have x3 := e2.trans e3
 have hsA : (szs (aOf e M) : Int) = (szs A : Int) := by rw [hA]
 rw [hsA]
 have tk1 : ∀ {i : Nat} {x : LEd}, es[i]? = some x -> es.take (i + 1) = es.take i ++ [x] := λ hx => by rw [List.take_add_one, hx]; rfl
 have pl : ∀ i, i <= es.length -> Ce e (es.take i) <= 70368744177664 * i := λ i hi => by
  have := Al1 e (es.take i) λ x hx => small x (List.mem_of_mem_take hx)
  rw [List.length_take, Nat.min_eq_left hi] at this; exact this
 refine Ad (λ x W => x = (((szs A + Ce e es : Nat) : Int), ()) /\ Hw e es = true /\ Ext w W) ?_ ?_
 ·refine Ar (λ x W => ∃ i : Nat, x = (((szs A + Ce e (es.take i) : Nat) : Int), (i : Int), ()) /\ i <= es.length /\ Hw e (es.take i) = true /\ Ext w W) (λ x _ => ((es.length : Int) - x.2.1).toNat) ⟨0, rfl, Nat.zero_le _, rfl, x3⟩ ?_
  rintro _ W ⟨i, rfl, hi, hf, eW⟩
  dsimp only
  refine Ac (λ hc => ?_) (λ hc => ?_)
  ·simp only [decide_eq_true_eq] at hc
   obtain ⟨y, x, hy, hx⟩ := get i (by omega)
   obtain ⟨_, _, ⟨tp, hput⟩, hpl⟩ := hE.each i y x hy hx
   have hpl2 : x.put.length = y.2.2.1.len := by have := hput.len1; rwa [List.length_map] at this
   have p1 := pl i hi
   rw [ewi i (by omega)]
   have hst : Ce e (es.take (i + 1)) = Ce e (es.take i) + szs (prs e x.put) := by rw [tk1 hx, Qq]; simp [Ce]
   have hsm : ∀ j, szs (prs e (x.put.take j)) <= 70368744177664 := λ j => by
    have h1 := Ay7 e x.put j
    have h2 := Al1 e [x] λ z hz => by rw [List.mem_singleton.1 hz]; exact hpl
    simp [Ce] at h2
    omega
   refine Ad (λ z W' => z = (((szs A + Ce e (es.take (i + 1)) : Nat) : Int), ()) /\ Hw e (es.take (i + 1)) = true /\ Ext w W') ?_ (λ z W' hz => ⟨⟨i + 1, by rw [hz.1], by omega, hz.2.1, hz.2.2⟩, by omega⟩)
   refine rdE eW hy λ q => (St.start W).Af λ b8 w4 S4 e4 => S4.Ae 0 rfl rfl rfl rfl λ w5 S5 u5 => S5.ld 0 rfl (x := y.2.2.1) rfl ?_
   refine Ar (λ z V => ∃ j : Nat, z = (((szs A + Ce e (es.take i) + szs (prs e (x.put.take j)) : Nat) : Int), (j : Int), ()) /\ j <= x.put.length /\ (x.put.take j).all (λ a => sz e a != 0) = true /\ Ext w V) (λ z _ => ((x.put.length : Int) - z.2.1).toNat) ⟨0, by simp [prs, O6], Nat.zero_le _, rfl, eW.trans S5.upd⟩ ?_
   rintro _ V ⟨j, rfl, hj, hall, eV⟩
   dsimp only
   refine Ac (λ hc => ?_) (λ hc => ?_)
   ·simp only [decide_eq_true_eq] at hc
    obtain ⟨v, hv⟩ : ∃ v, x.put[j]? = some v := ⟨_, List.getElem?_eq_getElem (by omega)⟩
    have ewj : W64 ((j : Int) + 1) = ((j + 1 : Nat) : Int) := by rw [wrap64 (by omega) (by omega)]; omega
    have hstep := Aj6 e x.put hv
    have h4 := hsm j
    have h5 := Aq0 e v
    refine Gl (c := .int .i64) (xs := x.put) (hput.ext eV) (by omega) (x := v) (by rw [Int.toNat_natCast]; exact hv) λ q2 => (h.ext eV).enc (Bm1 λ w6 e6 => ?_)
    refine Ac (λ hc => ?_) (λ hc => ?_)
    ·simp only [beq_iff_eq] at hc
     have hno : Hw e es = false := by
      unfold Hw
      rw [Bool.eq_false_iff]
      intro hall
      have h1 := List.all_eq_true.1 hall x (List.mem_of_getElem? hx)
      have h2 := List.all_eq_true.1 h1 v (List.mem_of_getElem? hv)
      simp at h2; omega
     have := hK w6 (eV.trans e6)
     rw [if_pos hno] at this
     exact this
    ·simp only [beq_eq_false_iff_ne, ne_eq] at hc
     have ewb : W64 (((szs A + Ce e (es.take i) + szs (prs e (x.put.take j)) : Nat) : Int) + ((sz e v : Nat) : Int)) = ((szs A + Ce e (es.take i) + szs (prs e (x.put.take (j + 1))) : Nat) : Int) := by rw [wrap64 (by omega) (by omega)]; omega
     rw [ewj, ewb]
     refine ⟨⟨j + 1, rfl, by omega, ?_, eV.trans e6⟩, by omega⟩
     rw [List.take_add_one, hv, List.all_append, hall]
     simp; omega
   ·simp only [decide_eq_false_iff_not] at hc
    have hjl : j = x.put.length := by omega
    subst hjl
    rw [List.take_length] at hall
    refine ⟨?_, ?_, eV⟩
    ·rw [List.take_length, hst]; congr 2; omega
    ·rw [tk1 hx, Ah7, hf, Bool.true_and]
     unfold Hw
     simp only [List.all_cons, List.all_nil, Bool.and_true]
     exact hall
  ·simp only [decide_eq_false_iff_not] at hc
   have : es.take i = es := List.take_of_length_le (by omega)
   rw [this] at hf ⊢
   exact ⟨rfl, hf, eW⟩
 rintro _ w4 ⟨rfl, hf, e4⟩
 rw [if_neg (by rw [hf]; decide)] at hK
 have pa := pl es.length (Nat.le_refl _)
 rw [List.take_length] at pa
 have gl := Yi (A := A) (es := es) (a := 0) (Int.le_refl _) hr
 have g_take : ∀ i, Ig A (es.take i) <= Ig A es := λ i => by
  conv => rhs; rw [← List.take_append_drop i es]
  rw [Zv]; omega
 refine Ad (λ x W => x = (((szs A + Ce e es - Ig A es : Nat) : Int), ()) /\ Ext w W) ?_ ?_
 ·refine Ar (λ x W => ∃ i : Nat, x = (((szs A + Ce e es - Ig A (es.take i) : Nat) : Int), (i : Int), ()) /\ i <= es.length /\ Ext w W) (λ x _ => ((es.length : Int) - x.2.1).toNat) ⟨0, rfl, Nat.zero_le _, e4⟩ ?_
  rintro _ W ⟨i, rfl, hi, eW⟩
  dsimp only
  refine Ac (λ hc => ?_) (λ hc => ?_)
  ·simp only [decide_eq_true_eq] at hc
   obtain ⟨y, x, hy, hx⟩ := get i (by omega)
   obtain ⟨y1, y2, _⟩ := hE.each i y x hy hx
   obtain ⟨_, r2, r3, r4, _⟩ := Xx hr hx
   obtain ⟨f, hf'⟩ : ∃ f : Nat, x.f = (f : Int) := ⟨x.f.toNat, by omega⟩
   obtain ⟨t, ht'⟩ : ∃ t : Nat, x.t = (t : Int) := ⟨x.t.toNat, by omega⟩
   have hst : Ig A (es.take (i + 1)) = Ig A (es.take i) + (szs (A.take t) - szs (A.take f)) := by
    rw [tk1 hx, Zv]
    simp only [Ig, hf', ht', Int.toNat_natCast]; omega
   have gt := g_take (i + 1)
   have gt0 := g_take i
   have sft := Ot A (i := f) (j := t) (by omega)
   have sta := Rq A t
   rw [ewi i (by omega)]
   refine Ad (λ z W' => z = (((szs A + Ce e es - Ig A (es.take (i + 1)) : Nat) : Int), ()) /\ Ext w W') ?_ (λ z W' hz => ⟨⟨i + 1, by rw [hz.1], by omega, hz.2⟩, by omega⟩)
   refine rdE eW hy λ q => (St.start W).Af λ b8 w5 S5 e5 => S5.Ae 0 rfl rfl rfl rfl λ w6 S6 u6 => ?_
   have S6 : St (λ _ => False) W w6 [(b8, edO y.1 y.2.1 y.2.2.1)] := S6
   rw [y1, y2, hf', ht'] at S6
   refine S6.ld 0 rfl (x := (t : Int)) rfl (S6.ld 0 rfl (x := (f : Int)) rfl ?_)
   refine Ac (λ hc => ?_) (λ hc => ?_)
   ·refine S6.drew λ w7 S7 e7 _ => S7.ld 0 rfl (x := (t : Int)) rfl (S7.ld 0 rfl (x := (f : Int)) rfl ?_)
    refine Xm (h.ext (eW.trans S7.upd)) (by rw [← hA]; omega) λ w8 e8 => ?_
    have S8 := S7.ext e8
    refine S8.keep 0 rfl (v := .int .i64 (f : Int)) rfl (Xm (h.ext (eW.trans S8.upd)) (by rw [← hA]; omega) λ w9 e9 => ?_)
    rw [← hA]
    have q1 : (smT (msr (A.take t))).2.1 = ((szs (A.take t) : Nat) : Int) := by show (((msr _).bytes : Nat) : Int) = _; rw [Ip (by rw [hA]; exact (Gm e M).take t)]
    have q2 : (smT (msr (A.take f))).2.1 = ((szs (A.take f) : Nat) : Int) := by show (((msr _).bytes : Nat) : Int) = _; rw [Ip (by rw [hA]; exact (Gm e M).take f)]
    rw [q1, q2]
    refine ⟨?_, eW.trans (S8.ext e9).upd⟩
    rw [wrap64 (a := ((szs (A.take t) : Nat) : Int) - ((szs (A.take f) : Nat) : Int)) (by omega) (by omega), wrap64 (by omega) (by omega)]
    congr 1; omega
   ·simp only [decide_eq_false_iff_not, gt_iff_lt] at hc
    have : f = t := by omega
    subst this
    refine ⟨?_, eW.trans S6.upd⟩
    congr 2; omega
  ·simp only [decide_eq_false_iff_not] at hc
   have : es.take i = es := List.take_of_length_le (by omega)
   rw [this]
   exact ⟨rfl, eW⟩
 rintro _ w5 ⟨rfl, e5⟩
 simp only [Qe, addr_add]
 refine Wu (x := (lim : Int)) (h.ext e5).Cv6 (Ac (λ hc => ?_) (λ hc => ?_))
 ·simp only [decide_eq_true_eq, gt_iff_lt] at hc
  have := hK w5 e5
  rw [if_pos (by omega)] at this
  exact this
 ·simp only [decide_eq_false_iff_not, gt_iff_lt] at hc
  have := hK w5 e5
  rw [if_neg (by omega)] at this
  exact this
set_option maxHeartbeats 1000000 in
theorem An7 {s : Sl} {ty : TypeId} {ys : List (Cells.T c65)} {es : List LEd} (h : Txt w p e lim na O M) (hE : Cp5 w s ty ys es) (hs1 : szs (aOf e M) <= lim) (hsep : ∀ k, s.blk k -> ¬ O k) (hsp : ∀ (i : Nat) y, ys[i]? = some y -> ∀ k, y.2.2.1.blk k -> ¬ O k) (hna : na + 200000 < 2 ^ 40) {K : Int -> Wp}
  (hno : ∀ c w', c ≠ 0 -> Ij e lim (aOf e M) es = c -> Ext w w' -> K c w')
  (hyes : Ij e lim (aOf e M) es = 0 -> ∀ O' M' w', Txt w' p e lim (na + Ce e es) O' M' -> aOf e M' = Df e (aOf e M) es -> szs (aOf e M') <= lim -> Upd (Wr w O) w w' -> (∀ k, O k -> O' k) -> (∀ k, O' k -> O k \/ w.heap.size <= k) -> K 0 w') :
  Aa Tryz.prog 14 #[.pointer (some (at0 p)), s.v] rI K w := by
 refine A14 ?_
 unfold F14
 have lims := h.lims; have hsz := h.sz
 have hyl : ys.length = s.len := Bh.Jt (cs := c65) hE.row (by decide)
 have hel := hE.len
 refine Ak7 h hE λ w1 e1 => ?_
 refine Ac (λ hc => hno _ w1 (by simpa using hc) rfl e1) (λ hc => ?_)
 have h0 : Ij e lim (aOf e M) es = 0 := by simpa using hc
 have yes := hyes h0
 obtain ⟨A, hA⟩ : ∃ A, A = aOf e M := ⟨_, rfl⟩
 rw [← hA] at h0 yes hs1
 unfold Ij at h0
 split at h0
 ·cases h0
 rename_i few2
 split at h0
 ·cases h0
 rename_i hr
 split at h0
 ·cases h0
 rename_i hf
 split at h0
 ·cases h0
 rename_i hroom
 have hr : Hq A.length 0 es = true := by simpa using hr
 have hf : Hw e es = true := by simpa using hf
 have gl := Yi (A := A) (es := es) (a := 0) (Int.le_refl _) hr
 have fin := Vt (e := e) (A := A) (es := es) (a := 0) (Int.le_refl _) (by omega) hr
 have pd : ∀ m, Ce e (es.drop m) <= Ce e es := λ m => by
  conv => rhs; rw [← List.take_append_drop m es]
  rw [Qq]; omega
 have ew0 : W64 ((s.len : Int) - 1) = (es.length : Int) - 1 := by rw [wrap64 (by omega) (by omega)]; omega
 rw [ew0]
 have hlow := h.own
 refine Ad (λ _ W => ∃ O' M', Txt W p e lim (na + Ce e es) O' M' /\ aOf e M' = Df e A es /\ Upd (Wr w O) w W /\ (∀ k, O k -> O' k) /\ (∀ k, O' k -> O k \/ w.heap.size <= k)) ?_ (λ _ W ⟨O', M', g1, g2, g3, g4, g5⟩ => yes O' M' W g1 g2 (by rw [g2]; omega) g3 g4 g5)
 refine Ar (λ x W => ∃ j : Nat, x = ((j : Int) - 1, ()) /\ j <= es.length /\ ∃ O' M', Txt W p e lim (na + Ce e (es.drop j)) O' M' /\ aOf e M' = Df e A (es.drop j) /\ Upd (Wr w O) w W /\ (∀ k, O k -> O' k) /\ (∀ k, O' k -> O k \/ w.heap.size <= k)) (λ x _ => (x.1 + 1).toNat) ⟨es.length, rfl, Nat.le_refl _, O, M, by rw [List.drop_length]; exact h.ext e1, by rw [List.drop_length, Df, hA], Upd.Et e1, λ k hk => hk, λ k hk => .inl hk⟩ ?_
 rintro _ W ⟨j, rfl, hj, O', M', tx, ha, u, o1, o2⟩
 dsimp only
 refine Ac (λ hc => ?_) (λ hc => ?_)
 ·simp only [decide_eq_true_eq, ge_iff_le] at hc
  obtain ⟨m, rfl⟩ : ∃ m, j = m + 1 := ⟨j - 1, by omega⟩
  obtain ⟨x, hx⟩ : ∃ x, es[m]? = some x := ⟨_, List.getElem?_eq_getElem (by omega)⟩
  obtain ⟨y, hy⟩ : ∃ y, ys[m]? = some y := ⟨_, List.getElem?_eq_getElem (by omega)⟩
  obtain ⟨y1, y2, ⟨tp, hput⟩, hpl⟩ := hE.each m y x hy hx
  obtain ⟨_, r2, r3, r4, r5⟩ := Xx hr hx
  obtain ⟨f, hf'⟩ : ∃ f : Nat, x.f = (f : Int) := ⟨x.f.toNat, by omega⟩
  obtain ⟨t, ht'⟩ : ∃ t : Nat, x.t = (t : Int) := ⟨x.t.toNat, by omega⟩
  have hpl2 : x.put.length = y.2.2.1.len := by have := hput.len1; rwa [List.length_map] at this
  have hd : es.drop m = x :: es.drop (m + 1) := by
   have hl := (List.getElem?_eq_some_iff.1 hx).1
   rw [List.drop_eq_getElem_cons hl]
   rw [List.getElem?_eq_getElem hl] at hx
   cases hx; rfl
  have rm : Hq A.length x.f (es.drop m) = true := by
   rw [hd, Hq, Bool.and_eq_true, decide_eq_true_eq]
   exact ⟨⟨Int.le_refl _, r3, r4⟩, r5⟩
  have ap := Vt (e := e) (A := A) (es := es.drop m) (a := x.f) (by omega) (by omega) rm
  have hd1 := Xl (e := e) (A := A) (es := es.drop (m + 1)) (a := x.t) (by omega) r4 r5
  have ape : Df e A (es.drop m) = (Df e A (es.drop (m + 1))).take f ++ prs e x.put ++ (Df e A (es.drop (m + 1))).drop t := by
   rw [hd, Df, hf', ht', Int.toNat_natCast, Int.toNat_natCast]
  have pe : Ce e (es.drop m) = Ce e (es.drop (m + 1)) + szs (prs e x.put) := by rw [hd, Ce]; omega
  have p1 := pd m
  have p2 := pd (m + 1)
  have fit : Fits e x.put := λ a ha => by
   have h1 := List.all_eq_true.1 hf x (List.mem_of_getElem? hx)
   have h2 := List.all_eq_true.1 h1 a ha
   simpa using h2
  have hbl := Bk3 fit
  have hput2 : x.put.length <= szs (prs e x.put) := by
   have : (prs e x.put).length <= szs (prs e x.put) := Ro λ z hz => by
    obtain ⟨a, ha, rfl⟩ := List.mem_map.1 hz
    have := fit a ha
    show 1 <= sz e a
    omega
   unfold prs at this ⊢
   rwa [List.length_map] at this
  have em : ((m + 1 : Nat) : Int) - 1 = (m : Int) := by omega
  rw [em]
  have ewm : W64 ((m : Int) - 1) = (m : Int) - 1 := by rw [wrap64 (by omega) (by omega)]
  rw [ewm]
  have rowW := hE.row.upd u λ k hk hq => hsep k hk hq.1
  have putW := hput.upd u λ k hk hq => hsp m y hy k hk hq.1
  refine Ad (λ _ W' => ∃ O' M', Txt W' p e lim (na + Ce e (es.drop m)) O' M' /\ aOf e M' = Df e A (es.drop m) /\ Upd (Wr w O) w W' /\ (∀ k, O k -> O' k) /\ (∀ k, O' k -> O k \/ w.heap.size <= k)) ?_ (λ _ W' hW => ⟨⟨m, rfl, by omega, hW⟩, by omega⟩)
  refine Si (cs := c65) (xs := ys) rowW (by decide) (by omega) (x := y) (by rw [Int.toNat_natCast]; exact hy) λ q => (St.start W).Af λ b8 w2 S2 e2 => S2.Ae 0 rfl rfl rfl rfl λ w3 S3 u3 => ?_
  have S3 : St (λ _ => False) W w3 [(b8, edO y.1 y.2.1 y.2.2.1)] := S3
  rw [y1, y2, hf', ht'] at S3
  refine Ad (λ z W' => z = (decide (f < t \/ 0 < x.put.length), ()) /\ w3 = W') ?_ ?_
  ·refine S3.ld 0 rfl (x := (f : Int)) rfl (S3.ld 0 rfl (x := (t : Int)) rfl (Ac (λ hc => ⟨Az ?_, rfl⟩) (λ hc => S3.ld 0 rfl (x := y.2.2.1) rfl ⟨Az ?_, rfl⟩)))
   all_goals simp only [decide_eq_true_eq, decide_eq_false_iff_not, true_iff, gt_iff_lt] at *
   all_goals omega
  rintro _ _ ⟨rfl, rfl⟩
  have x3 := S3.upd
  have u3' := u.trans (Upd.Et x3)
  refine Ac (λ hc => ?_) (λ hc => ?_)
  ·refine S3.ld 0 rfl (x := (f : Int)) rfl (S3.ld 0 rfl (x := (t : Int)) rfl (S3.ld 0 rfl (x := y.2.2.1) rfl ?_))
   refine Ad2 (tx.ext x3) (by omega) (by rw [ha]; omega) (putW.ext x3) (λ k hk hO => ?_) fit (by omega) (by omega) (by rw [ha, ← ape]; omega) λ O2 M2 w4 tx4 ea u4 g1 g2 => ?_
   ·rcases o2 k hO with hh | hh
    ·exact hsp m y hy k hk hh
    ·have := hput.Me hk; omega
   ·refine ⟨O2, M2, ?_, by rw [ea, ha, ape], ?_, λ k hk => g1 k (o1 k hk), λ k hk => ?_⟩
    ·rw [pe, ← hbl, ← Nat.add_assoc]; exact tx4
    ·refine Upd.new u3' u4 λ k hk hq => ⟨(o2 k hq.1).elim id λ hh => by omega, λ c fr hn => ?_⟩
     exact hq.2 c fr (u3'.get hn λ hw => hw.2 c fr hn)
    ·rcases g2 k hk with hh | hh
     ·exact o2 k hh
     ·have := u3'.size; exact .inr (by omega)
  ·simp only [decide_eq_false_iff_not, not_or] at hc
   obtain rfl : f = t := by omega
   have hp0 : x.put = [] := List.length_eq_zero_iff.1 (by omega)
   refine ⟨O', M', ?_, ?_, u3', o1, o2⟩
   ·rw [pe, hp0]; exact tx.ext x3
   ·rw [ha, ape, hp0]; simp [prs]
 ·simp only [decide_eq_false_iff_not, ge_iff_le] at hc
  obtain rfl : j = 0 := by omega
  exact ⟨O', M', tx, ha, u, o1, o2⟩
end
end Go.Proofs.YtolhlldgnfbemaaGreatDoor
namespace Go.Vx
open Go Go.ChangeShapes
theorem cell_spot {w : World} {a : Addr} {v : Value} (h : w.cell? a = some v) : a.spot = none /\ ∃ c t fr, w.heap[a.block]? = some (.cells c t fr) /\ c[a.off]? = some v := by
 unfold World.cell? at h
 split at h
 ·rename_i c t fr hh
  split at h
  ·cases h
  ·rename_i hs
   exact ⟨by cases hsp : a.spot with | none => rfl | some _ => rw [hsp] at hs; exact absurd rfl hs, c, t, fr, hh, h⟩
 ·cases h
theorem Ax4 (a : Addr) (n : Nat) (h : a.spot = none) : a.add n = ⟨a.block, a.off + n, none⟩ := by
 obtain ⟨b, o, s⟩ := a
 simp only at h
 subst h
 exact addr_add b o n
theorem Ri {w : World} {base : Nat} {a : Addr} {n : Nat} {r : List Value} (h : w.cells? base a n = some r) : r.length = n /\ ∀ j, j < n -> w.cell? (a.add j) = r[j]? := by
 unfold World.cells? at h
 split at h
 ·have hl := mapM_some_length h
  rw [List.length_range] at hl
  refine ⟨hl, λ j hj => ?_⟩
  exact mapM_some_get h j j (by simp [hj])
 ·cases h
section
variable {H : Type} {enc : TypeId × Value -> H} {P : Program} {W : World} {base fuel : Nat} {held : Bool}
theorem F8 {e : TypeId} {d : DataW H} {n : Nat} (hn : n ∈ d.weights P e) : ∀ l : List (DataW H), d ∈ l -> n ∈ DataW.weightsAll P e l
 | [], h => by cases h
 | x :: r, h => by
  simp only [DataW.weightsAll, List.mem_append]
  rcases List.mem_cons.1 h with rfl | h
  ·exact .inl hn
  ·exact .inr (F8 hn r h)
theorem Y6 {t e : TypeId} {sz : Nat} {cs : List Value} {x : DataW H × List MemPlace} (ht : P.underlying t = some (.slice e)) (hsz : P.cellsOf e = sz) (hpos : 0 < sz)
  (h : DataW.trod enc P W base (λ _ => true) held fuel t cs = some x) (hw : ∀ n ∈ x.1.weights P t, n <= reachBytes) :
  ∃ (s : Sl) (rows : List (List Value)), cs = [.slice s.a s.len s.cap] /\ SlX W s sz rows.flatten /\ rows.length = s.len /\ s.len * P.bytesOf e <= reachBytes /\ (s.len = 0 \/ ∃ els rst, x.1 = .slice els rst /\ els.length = s.len) /\
   ∀ r ∈ rows, r.length = sz /\ ∃ n y, DataW.trod enc P W base (λ _ => true) held n e r = some y /\ (∀ k ∈ y.1.weights P e, k <= reachBytes) /\ ∃ els rst, x.1 = .slice els rst /\ y.1 ∈ els := by
 rcases DataW.trod_slice ht h with ⟨rfl, rfl⟩ | ⟨a, len, cap, elems, rest, n, _, rfl, rfl, hb, hl, hm, hlen, hel, hsp, _⟩
 ·exact ⟨⟨none, 0, 0⟩, [], rfl, ⟨.inl ⟨rfl, rfl⟩⟩, rfl, by simp, .inl rfl, λ r hr => by cases hr⟩
 obtain ⟨hrl, hre⟩ := hsp rfl
 subst hsz
 have each : ∀ i, i < len -> ∃ r y, W.cells? base (a.add (i * P.cellsOf e)) (P.cellsOf e) = some r /\ elems[i]? = some y /\ DataW.trod enc P W base (λ _ => true) held n e r = some y := by
  intro i hi
  have h1 := hel i hi
  rw [List.getElem?_eq_getElem (by omega)] at h1
  obtain ⟨r, h2, h3⟩ := Option.bind_eq_some_iff.1 h1
  exact ⟨r, _, h2, List.getElem?_eq_getElem (by omega), h3⟩
 have wn : (elems.length + rest.length) * P.bytesOf e <= reachBytes := by
  have := hw ((elems.length + rest.length) * P.bytesOf e) (by simp [DataW.weights, ht])
  exact this
 refine ⟨⟨some a, len, cap⟩, (List.range len).map λ i => (W.cells? base (a.add (i * P.cellsOf e)) (P.cellsOf e)).getD [], rfl, ?_, by simp, ?_, .inr ⟨_, _, rfl, by simp [hlen]⟩, ?_⟩
 ·by_cases h0 : len = 0
  ·subst h0; exact ⟨.inl ⟨rfl, rfl⟩⟩
  have last : ∃ v, W.cell? ((a.add ((cap - 1) * P.cellsOf e)).add (P.cellsOf e - 1)) = some v := by
   have fin : ∀ r, W.cells? base (a.add ((cap - 1) * P.cellsOf e)) (P.cellsOf e) = some r -> ∃ v, W.cell? ((a.add ((cap - 1) * P.cellsOf e)).add (P.cellsOf e - 1)) = some v := by
    intro r hr
    obtain ⟨g1, g2⟩ := Ri hr
    rw [g2 _ (by omega)]
    exact ⟨_, List.getElem?_eq_getElem (by omega)⟩
   by_cases hcl : cap - 1 < len
   ·obtain ⟨r, _, h1, _⟩ := each (cap - 1) hcl
    exact fin r h1
   ·have h1 := hre (cap - 1 - len) (by omega)
    rw [show len + (cap - 1 - len) = cap - 1 by omega] at h1
    rw [List.getElem?_eq_getElem (by omega)] at h1
    obtain ⟨r, h2, _⟩ := Option.bind_eq_some_iff.1 h1
    exact fin r h2
  obtain ⟨v, hv⟩ := last
  have hspot : a.spot = none := by
   obtain ⟨r, _, h1, _⟩ := each 0 (by omega)
   obtain ⟨g1, g2⟩ := Ri h1
   have h2 := g2 0 (by omega)
   rw [Nat.zero_mul, List.getElem?_eq_getElem (by omega)] at h2
   exact (cell_spot h2).1
  rw [Ax4 a _ hspot, addr_add] at hv
  obtain ⟨_, c, tt, fr, hh, hc⟩ := cell_spot hv
  simp only at hh hc
  have hlast := (Array.getElem?_eq_some_iff.1 hc).1
  have hcap : (cap - 1) * P.cellsOf e + P.cellsOf e = cap * P.cellsOf e := by rw [← Nat.succ_mul]; congr 1; omega
  have rowlen : ∀ i, i < len -> ((W.cells? base (a.add (i * P.cellsOf e)) (P.cellsOf e)).getD []).length = P.cellsOf e := by
   intro i hi
   obtain ⟨r, _, h1, _⟩ := each i hi
   rw [h1]; exact (Ri h1).1
  refine ⟨.inr ⟨tt, ?_, hl, .inr ⟨a.block, a.off, c, fr, ?_, hh, by simp only; omega, ?_⟩⟩⟩
  ·have key : ∀ (k : Nat), k <= len -> (((List.range k).map λ i => (W.cells? base (a.add (i * P.cellsOf e)) (P.cellsOf e)).getD []).flatten).length = k * P.cellsOf e := by
    intro k
    induction k with
    | zero => intro _; simp
    | succ k ih =>
     intro hk
     rw [List.range_succ, List.map_append, List.flatten_append, List.length_append, ih (by omega), Nat.succ_mul]
     simp [rowlen k (by omega)]
   exact key len (Nat.le_refl _)
  ·obtain ⟨b, o, s⟩ := a
   simp only at hspot
   subst hspot
   rfl
  ·have key : ∀ (k : Nat), k <= len -> ∀ i v, (((List.range k).map λ i => (W.cells? base (a.add (i * P.cellsOf e)) (P.cellsOf e)).getD []).flatten)[i]? = some v -> c[a.off + i]? = some v := by
    intro k
    induction k with
    | zero => intro _ i v hi; simp at hi
    | succ k ih =>
     intro hk i v hi
     have hkl : (((List.range k).map λ i => (W.cells? base (a.add (i * P.cellsOf e)) (P.cellsOf e)).getD []).flatten).length = k * P.cellsOf e := by
      have key2 : ∀ (k : Nat), k <= len -> (((List.range k).map λ i => (W.cells? base (a.add (i * P.cellsOf e)) (P.cellsOf e)).getD []).flatten).length = k * P.cellsOf e := by
       intro k
       induction k with
       | zero => intro _; simp
       | succ k ih =>
        intro hk
        rw [List.range_succ, List.map_append, List.flatten_append, List.length_append, ih (by omega), Nat.succ_mul]
        simp [rowlen k (by omega)]
      exact key2 k (by omega)
     rw [List.range_succ, List.map_append, List.flatten_append] at hi
     by_cases hik : i < k * P.cellsOf e
     ·rw [List.getElem?_append_left (by omega)] at hi
      exact ih (by omega) i v hi
     ·rw [List.getElem?_append_right (by omega), hkl] at hi
      simp only [List.map_cons, List.map_nil, List.flatten_cons, List.flatten_nil, List.append_nil] at hi
      obtain ⟨r, _, h1, _⟩ := each k (by omega)
      rw [h1] at hi
      simp only [Option.getD_some] at hi
      obtain ⟨g1, g2⟩ := Ri h1
      have hj := (List.getElem?_eq_some_iff.1 hi).1
      have := g2 (i - k * P.cellsOf e) (by omega)
      rw [hi, Ax4 a _ hspot, addr_add] at this
      obtain ⟨_, c', t', fr', hh', hc'⟩ := cell_spot this
      simp only at hh' hc'
      rw [hh] at hh'
      cases hh'
      rw [show a.off + i = a.off + k * P.cellsOf e + (i - k * P.cellsOf e) by omega]
      exact hc'
   exact key len (Nat.le_refl _)
 ·have : len * P.bytesOf e <= (elems.length + rest.length) * P.bytesOf e := Nat.mul_le_mul_right _ (by omega)
  exact Nat.le_trans this wn
 ·intro r hr
  obtain ⟨i, hi, rfl⟩ := List.mem_map.1 hr
  have hi := List.mem_range.1 hi
  obtain ⟨r, y, h1, h2, h3⟩ := each i hi
  rw [h1]
  refine ⟨(Ri h1).1, n, y, h3, λ k hk => hw k ?_, _, _, rfl, List.mem_map.2 ⟨y, List.mem_of_getElem? h2, rfl⟩⟩
  simp only [DataW.weights, ht, List.mem_cons, List.mem_append]
  exact .inr (.inl (F8 hk _ (List.mem_map.2 ⟨y, List.mem_of_getElem? h2, rfl⟩)))
theorem Bn7 {t e : TypeId} {sz : Nat} {cs : List Value} {x : DataW H × List MemPlace} (ht : P.underlying t = some (.slice e)) (hsz : P.cellsOf e = sz) (hpos : 0 < sz)
  (h : DataW.trod enc P W base (λ _ => true) held fuel t cs = some x) (hw : ∀ n ∈ x.1.weights P t, n <= reachBytes) :
  ∃ (s : Sl) (rows : List (List Value)), cs = [.slice s.a s.len s.cap] /\ SlX W s sz rows.flatten /\ rows.length = s.len /\ s.len * P.bytesOf e <= reachBytes /\
   ∀ r ∈ rows, r.length = sz /\ ∃ n y, DataW.trod enc P W base (λ _ => true) held n e r = some y /\ ∀ k ∈ y.1.weights P e, k <= reachBytes := by
 obtain ⟨s, rows, h1, h2, h3, h4, _, h5⟩ := Y6 ht hsz hpos h hw
 exact ⟨s, rows, h1, h2, h3, h4, λ r hr => by obtain ⟨a, n, y, b, c, _⟩ := h5 r hr; exact ⟨a, n, y, b, c⟩⟩
theorem Iz {t : TypeId} {cs : List Value} {x : DataW H × List MemPlace} (ht : P.underlying t = some (.int .i64)) (h : DataW.trod enc P W base (λ _ => true) held fuel t cs = some x) : ∃ n, cs = [.int .i64 n] /\ (Lit.int .i64 n).wf = true := by
 cases fuel with
 | zero => simp [DataW.trod] at h
 | succ m =>
  unfold DataW.trod at h
  rw [ht] at h
  split at h <;> simp_all
theorem Bg8 {cs : List Cell} {Q : Cells.T cs -> Prop} : ∀ (rows : List (List Value)), (∀ r ∈ rows, ∃ x, r = Cells.vals cs x /\ Q x) -> ∃ xs : List (Cells.T cs), rows.flatten = flat cs xs /\ xs.length = rows.length /\ ∀ x ∈ xs, Q x
 | [], _ => ⟨[], rfl, rfl, λ x hx => by cases hx⟩
 | r :: rs, h => by
  obtain ⟨x, hx, hq⟩ := h r List.mem_cons_self
  obtain ⟨xs, h1, h2, h3⟩ := Bg8 rs λ r' hr' => h r' (List.mem_cons_of_mem _ hr')
  refine ⟨x :: xs, ?_, by simp [h2], λ y hy => ?_⟩
  ·rw [List.flatten_cons, h1, hx]; rfl
  ·rcases List.mem_cons.1 hy with rfl | hy
   ·exact hq
   ·exact h3 y hy
end
end Go.Vx
namespace Go.Vx
open Go Go.ChangeShapes Go.RowKit
section
variable {H : Type} {enc : TypeId × Value -> H} {P : Program} {W W' : World}
theorem Ext.below (e : Ext W W') : Below W.heap.size W W' := ⟨e.os, e.tape, e.output, e.size, λ k hk => e.at_ k hk id⟩
theorem Ae8 (hl : laidOutB P = true) {sp : Nat -> Bool} : ∀ {ts : List TypeId} {vs : List Value} {ds : List (DataW H)} {ps : List MemPlace}, (∀ t ∈ ts, P.readableRec t = true /\ t < P.types.size) ->
  DataW.TrodAll enc P W 0 (λ _ => true) true ts vs ds ps -> (∀ p ∈ ps, W.sameAt W' p) -> (∀ p ∈ ps, sp p.block = true) -> DataW.TrodAll enc P W' 0 sp true ts vs ds ps
 | [], [], [], _, _, h, _, _ => h
 | t :: ts, v :: vs, d :: ds, ps, hr, ⟨p, q, h1, h2, e⟩, hs, hsp => by
  subst e
  exact ⟨p, q, WideElems.Trod_stays hl (hr t List.mem_cons_self).1 (hr t List.mem_cons_self).2 h1 (λ x hx => hs x (List.mem_append_left _ hx)) (λ x hx => hsp x (List.mem_append_left _ hx)),
   Ae8 hl (λ t' ht' => hr t' (List.mem_cons_of_mem _ ht')) h2 (λ x hx => hs x (List.mem_append_right _ hx)) (λ x hx => hsp x (List.mem_append_right _ hx)), rfl⟩
 | [], _ :: _, _, _, _, h, _, _ => h.elim
 | [], [], _ :: _, _, _, h, _, _ => h.elim
 | _ :: _, [], _, _, _, h, _, _ => h.elim
 | _ :: _, _ :: _, [], _, _, h, _, _ => h.elim
theorem Bn2 {f : Func} {s : ChangeSpec} {apart fresh handsOn again : Bool} {args : Array Value} {ds gs : List (DataW H)} {before : List MemPlace} {tb : TypeId}
  (hW : DataW.Whole enc P f.params.toList s.vars apart W args.toList ds gs before) (hv : s.vars = []) (hr : f.resultTypes = #[tb]) (hb : P.underlying tb = some .bool)
  (hs : s.fn H (ds ++ gs) = { results := [.lit (.bool true)], args := ds }) (hl : laidOutB P = true) (hrd : ∀ t ∈ f.params.toList, P.readableRec t = true /\ t < P.types.size)
  (e : Ext W W') : s.post enc P f apart fresh handsOn again W args (.bool true) W' := by
 have hlt := hW.lt
 have hW0 := hW
 obtain ⟨pa, pv, hA, hV, rfl, hz, hn⟩ := hW
 have hBl := e.below
 have hsame : ∀ p ∈ pa ++ pv, W.sameAt W' p := λ p hp => hBl.same (hlt p hp)
 have hold : ∀ p ∈ pa ++ pv, (λ b => decide (b < W.heap.size)) p.block = true := λ p hp => by simpa using hlt p hp
 have hres : ∀ (b : Nat) (sp : Nat -> Bool) (hd : Bool), DataW.TrodAll enc P W' b sp hd f.resultTypes.toList ((Value.bool true).resultList f.resultTypes.size) (s.fn H (ds ++ gs)).results [] := by
  intro b sp hd
  rw [hs, hr]
  exact trodAll_mk1 ⟨1, by simp [DataW.trod, hb, Value.cells]⟩
 have hargs : ∀ sp : Nat -> Bool, (∀ p ∈ pa, sp p.block = true) -> DataW.TrodAll enc P W' 0 sp true f.params.toList args.toList (s.fn H (ds ++ gs)).args pa := by
  intro sp hsp
  rw [hs]
  exact Ae8 hl hrd hA (λ p hp => hsame p (List.mem_append_left _ hp)) hsp
 have hgs : gs = [] /\ pv = [] := by
  rw [hv] at hV
  exact trodVars_none hV
 obtain ⟨rfl, rfl⟩ := hgs
 have hvars : ∀ sp : Nat -> Bool, DataW.TrodVars enc P W' sp s.vars (s.fn H (ds ++ [])).vars [] := by
  intro sp
  rw [hs, hv]
  exact rfl
 have hall : ∀ p ∈ ([] ++ pa) ++ [], p ∈ pa ++ [] := λ p hp => by simpa using hp
 refine ⟨ds, [], pa ++ [], [], pa, [], hW0, hres _ _ _, hargs _ (λ p hp => hold p (List.mem_append_left _ hp)), hvars _, hBl.frame _, λ _ => ⟨ok_one hr rfl (okWide_bool_mk hb true), [.lit (.bool true)] ++ ds, [], ([] ++ pa) ++ [], ?_, λ p hp _ => hall p hp⟩⟩
 have h1 := trodAll_append (hargs (λ _ => true) (λ _ _ => rfl)) (hres 0 (λ _ => true) true)
 rw [hs] at h1
 have h2 := hvars (λ _ => true)
 rw [hs] at h2
 refine ⟨[] ++ pa, [], h1, h2, rfl, ?_, λ ha => ?_⟩
 ·intro b off hp
  have hp' := hall _ hp
  have hb' := hlt _ hp'
  rw [hBl.frozen (p := ⟨b, off, none⟩) hb']
  exact hz b off hp'
 ·have := hn ha
  simpa using this
end
end Go.Vx
namespace Go.Proofs.YtolhlldgnfbemaaGreatDoor
open Go Go.Vx Go.ChangeShapes Go.WideShapes Go.RowKit Cdc
theorem Tryz.own : ownKnob Tryz.prog.godebug = none := by kernel_rfl
theorem Tryz.laidOut : laidOutB Tryz.prog = true := by kernel_rfl
theorem ui : Tryz.prog.underlying 3 = some (.int .i64) := C3.und
theorem ub : Tryz.prog.underlying 5 = some (.int .u8) := C5.und
theorem u4 : Tryz.prog.underlying 4 = some .bool := C4.und
theorem Cp8 : Tryz.prog.underlying 43 = some (.slice 3) := C43.und
theorem Cl4 : Tryz.prog.underlying 22 = some (.slice 5) := C22.und
theorem Cl3 : Tryz.prog.underlying 39 = some (.slice 65) := by kernel_rfl
theorem Cc9 : Tryz.prog.underlying 23 = some (.slice 39) := by kernel_rfl
theorem Cp9 : Tryz.prog.underlying 24 = some (.slice 50) := by kernel_rfl
theorem ci : Tryz.prog.cellsOf 3 = 1 := by kernel_rfl
theorem cby : Tryz.prog.cellsOf 5 = 1 := by kernel_rfl
theorem bby : Tryz.prog.bytesOf 5 = 1 := by kernel_rfl
theorem cbo : Tryz.prog.cellsOf 4 = 1 := by kernel_rfl
theorem cbs : Tryz.prog.cellsOf 22 = 1 := by kernel_rfl
theorem cis : Tryz.prog.cellsOf 43 = 1 := by kernel_rfl
theorem ced : Tryz.prog.cellsOf 65 = 3 := by kernel_rfl
theorem Df9 : Tryz.prog.cellsOf 39 = 1 := by kernel_rfl
theorem Df8 : Tryz.prog.cellsOf 23 = 1 := by kernel_rfl
theorem cas : Tryz.prog.cellsOf 24 = 1 := by kernel_rfl
theorem Dg0 : Tryz.prog.cellsOf 50 = 7 := by kernel_rfl
theorem cmv : Tryz.prog.cellsOf 48 = 3 := by kernel_rfl
theorem Cs8 : Tryz.prog.cellsOf 26 = 4 := by kernel_rfl
theorem Cq6 : ∃ fs : Array Field, Tryz.prog.underlying 65 = some (.struct fs) /\ fs.toList.map (λ f => (f.type, f.offset)) = [(3, 0), (3, 1), (43, 2)] := ⟨_, C65.und, rfl⟩
theorem Cq5 : ∃ fs : Array Field, Tryz.prog.underlying 48 = some (.struct fs) /\ fs.toList.map (λ f => (f.type, f.offset)) = [(3, 0), (3, 1), (3, 2)] := ⟨_, C48.und, rfl⟩
theorem Cv3 : ∃ fs : Array Field, Tryz.prog.underlying 50 = some (.struct fs) /\ fs.toList.map (λ f => (f.type, f.offset)) = [(3, 0), (3, 1), (3, 2), (48, 3), (4, 6)] := ⟨_, C50.und, rfl⟩
theorem Cj8 : ∃ fs : Array Field, Tryz.prog.underlying 26 = some (.struct fs) /\ fs.toList.map (λ f => (f.type, f.offset)) = [(3, 0), (22, 1), (23, 2), (24, 3)] := ⟨_, C26.und, rfl⟩
theorem Ue {cs : List Cell} {β : Type} {Q : Cells.T cs -> β -> Prop} : ∀ (rows : List (List Value)), (∀ r ∈ rows, ∃ x y, r = Cells.vals cs x /\ Q x y) -> ∃ (xs : List (Cells.T cs)) (ys : List β), rows.flatten = flat cs xs /\ xs.length = rows.length /\ xs.length = ys.length /\ ∀ (i : Nat) x y, xs[i]? = some x -> ys[i]? = some y -> Q x y
 | [], _ => ⟨[], [], rfl, rfl, rfl, λ i x y hx => by simp at hx⟩
 | r :: rs, h => by
  obtain ⟨x, y, hx, hq⟩ := h r List.mem_cons_self
  obtain ⟨xs, ys, h1, h2, h3, h4⟩ := Ue rs λ r' hr' => h r' (List.mem_cons_of_mem _ hr')
  refine ⟨x :: xs, y :: ys, ?_, by simp [h2], by simp [h3], λ i x' y' hx' hy' => ?_⟩
  ·rw [List.flatten_cons, h1, hx]; rfl
  ·match i with
   | 0 => cases hx'; cases hy'; exact hq
   | i + 1 => exact h4 i x' y' (by simpa using hx') (by simpa using hy')
abbrev In64 (x : Int) : Prop := -(2 ^ 63) <= x /\ x < 2 ^ 63
theorem wf64 {n : Int} (h : (Lit.int .i64 n).wf = true) : In64 n := by
 have h1 : IntKind.min .i64 = -9223372036854775808 := rfl
 have h2 : IntKind.max .i64 = 9223372036854775807 := rfl
 simp [Lit.wf, h1, h2] at h
 unfold In64
 omega
section
variable {H : Type} {enc : TypeId × Value -> H} {W : World} {base fuel : Nat} {held : Bool}
abbrev bulk (d : DataW H) : Nat := Rows.uptoBulk d
theorem Ca0 (d : DataW H) : 1 <= bulk d := by
 unfold bulk
 cases d with
 | lit l => cases l <;> simp [Rows.uptoBulk]
 | nil => simp [Rows.uptoBulk]
 | ptr d => simp [Rows.uptoBulk]
 | slice elems spare => simp [Rows.uptoBulk]
 | agg parts => simp [Rows.uptoBulk]
 | iface t d => simp [Rows.uptoBulk]
 | map entries => simp [Rows.uptoBulk]
 | held h => simp [Rows.uptoBulk]
theorem Ai2 {d : DataW H} {l : List (DataW H)} (h : d ∈ l) : bulk d <= Rows.uptoBulkAll l := by
 induction l with
 | nil => cases h
 | cons x r ih =>
  simp only [Rows.uptoBulkAll]
  cases List.mem_cons.1 h with
  | inl e => subst e; show Rows.uptoBulk d <= _; omega
  | inr e => have := ih e; show Rows.uptoBulk d <= _; have : Rows.uptoBulk d <= Rows.uptoBulkAll r := this; omega
theorem Ca1 (l : List (DataW H)) : l.length <= Rows.uptoBulkAll l := by
 induction l with
 | nil => simp [Rows.uptoBulkAll]
 | cons x r ih => have := Ca0 x; unfold bulk at this; simp only [Rows.uptoBulkAll, List.length_cons]; omega
theorem Rx {t e : TypeId} {sz : Nat} {cs : List Value} {x : DataW H × List MemPlace} (ht : Tryz.prog.underlying t = some (.slice e)) (hsz : Tryz.prog.cellsOf e = sz) (hpos : 0 < sz)
  (h : DataW.trod enc Tryz.prog W base (λ _ => true) held fuel t cs = some x) (hw : ∀ n ∈ x.1.weights Tryz.prog t, n <= reachBytes) :
  ∃ (s : Sl) (rows : List (List Value)), cs = [.slice s.a s.len s.cap] /\ SlX W s sz rows.flatten /\ rows.length = s.len /\ s.len <= bulk x.1 /\
   ∀ r ∈ rows, r.length = sz /\ ∃ n y, DataW.trod enc Tryz.prog W base (λ _ => true) held n e r = some y /\ (∀ k ∈ y.1.weights Tryz.prog e, k <= reachBytes) /\ bulk y.1 <= bulk x.1 := by
 obtain ⟨s, rows, h1, h2, h3, h4, h6, h5⟩ := Y6 ht hsz hpos h hw
 refine ⟨s, rows, h1, h2, h3, ?_, λ r hr => ?_⟩
 ·rcases h6 with h6 | ⟨els, rst, hx, hl⟩
  ·omega
  ·have := Ca1 els
   rw [hx]
   show _ <= Rows.uptoBulk (.slice els rst)
   simp only [Rows.uptoBulk]; omega
 ·obtain ⟨a, n, y, b, c, els, rst, hx, hm⟩ := h5 r hr
  refine ⟨a, n, y, b, c, ?_⟩
  have := Ai2 hm
  rw [hx]
  show _ <= Rows.uptoBulk (.slice els rst)
  simp only [Rows.uptoBulk]; omega
theorem Oz {t : TypeId} {fs : Array Field} {L : List (TypeId × Nat)} {cs : List Value} {x : DataW H × List MemPlace} (hu : Tryz.prog.underlying t = some (.struct fs)) (hfs : fs.toList.map (λ f => (f.type, f.offset)) = L)
  (h : DataW.trod enc Tryz.prog W base (λ _ => true) held fuel t cs = some x) (hw : ∀ n ∈ x.1.weights Tryz.prog t, n <= reachBytes) :
  ∃ n, ∀ (i : Nat) (t' o : Nat), L[i]? = some (t', o) -> ∃ y, DataW.trod enc Tryz.prog W base (λ _ => true) held n t' ((cs.drop o).take (Tryz.prog.cellsOf t')) = some y /\ (∀ k ∈ y.1.weights Tryz.prog t', k <= reachBytes) /\ bulk y.1 <= bulk x.1 := by
 obtain ⟨xs, n, _, rfl, _, hxl, hall⟩ := DataW.trod_struct hu h
 refine ⟨n, λ i t' o hi => ?_⟩
 rw [← hfs, List.getElem?_map] at hi
 obtain ⟨f, hf, he⟩ := Option.map_eq_some_iff.1 hi
 cases he
 have hf' : fs[i]? = some f := by simpa using hf
 have h1 := hall i f hf'
 have hil : i < xs.length := by rw [hxl]; exact (Array.getElem?_eq_some_iff.1 hf').1
 rw [List.getElem?_eq_getElem hil] at h1
 refine ⟨xs[i], h1, λ k hk => hw k ?_, ?_⟩
 ·simp only [DataW.weights, hu]
  exact DataW.weights_mem_each (j := i) (t := f.type) (d := xs[i].1) (by rw [List.getElem?_map, hf]; rfl) (by rw [List.getElem?_map, List.getElem?_eq_getElem hil]; rfl) k hk
 ·have hm : xs[i].1 ∈ xs.map (·.1) := List.mem_map.2 ⟨xs[i], List.getElem_mem hil, rfl⟩
  have := Ai2 hm
  show _ <= Rows.uptoBulk (.agg (xs.map (·.1)))
  simp only [Rows.uptoBulk]; omega
theorem Ce7 {cs : List Value} {x : DataW H × List MemPlace} (h : DataW.trod enc Tryz.prog W base (λ _ => true) held fuel 5 cs = some x) : ∃ b : UInt8, cs = [.int .u8 (b.toNat : Int)] := by
 have : ∃ n, cs = [.int .u8 n] /\ (Lit.int .u8 n).wf = true := by
  cases fuel with
  | zero => simp [DataW.trod] at h
  | succ m =>
   unfold DataW.trod at h
   rw [ub] at h
   split at h <;> simp_all
 obtain ⟨n, rfl, hn⟩ := this
 have hr : 0 <= n /\ n < 256 := by
  have h1 : IntKind.min .u8 = 0 := rfl
  have h2 : IntKind.max .u8 = 255 := rfl
  simp [Lit.wf, h1, h2] at hn
  omega
 refine ⟨UInt8.ofNat n.toNat, ?_⟩
 have : (UInt8.ofNat n.toNat).toNat = n.toNat := by
  rw [UInt8.toNat_ofNat']
  exact Nat.mod_eq_of_lt (by omega)
 rw [this]
 congr 2
 omega
theorem open_ints {cs : List Value} {x : DataW H × List MemPlace} (h : DataW.trod enc Tryz.prog W base (λ _ => true) held fuel 43 cs = some x) (hw : ∀ n ∈ x.1.weights Tryz.prog 43, n <= reachBytes) :
  ∃ (s : Sl) (l : List Int), cs = [.slice s.a s.len s.cap] /\ SlX W s 1 (iv l) /\ l.length <= bulk x.1 /\ ∀ n ∈ l, In64 n := by
 obtain ⟨s, rows, rfl, hs, hl, hby, hr⟩ := Rx Cp8 ci (by decide) h hw
 obtain ⟨xs, h1, h2, h3⟩ := Bg8 (cs := [.int .i64]) (Q := λ x => (Lit.int .i64 x.1).wf = true) rows (λ r hr' => by
  obtain ⟨_, n, y, hy, _⟩ := hr r hr'
  obtain ⟨k, rfl, hk⟩ := Iz ui hy
  exact ⟨(k, ()), rfl, hk⟩)
 refine ⟨s, xs.map (·.1), rfl, ?_, by rw [List.length_map, h2, hl]; exact hby, ?_⟩
 ·rw [h1] at hs
  have e : flat [.int .i64] xs = (xs.map (·.1)).map (Value.int .i64) := by
   simp only [flat, List.map_map, List.flatMap_def]
   clear h1 h2 h3 hs
   induction xs with
   | nil => rfl
   | cons x r ih => simp only [List.map_cons, List.flatten_cons, ih]; rfl
  rw [e] at hs; exact hs
 ·intro n hn
  obtain ⟨x, hx, rfl⟩ := List.mem_map.1 hn
  exact wf64 (h3 x hx)
theorem open_bytes {cs : List Value} {x : DataW H × List MemPlace} (h : DataW.trod enc Tryz.prog W base (λ _ => true) held fuel 22 cs = some x) (hw : ∀ n ∈ x.1.weights Tryz.prog 22, n <= reachBytes) :
  ∃ (s : Sl) (l : List UInt8), cs = [.slice s.a s.len s.cap] /\ SlX W s 1 (bv l) /\ l.length <= 2 ^ 47 := by
 obtain ⟨s, rows, rfl, hs, hl, hby, hr⟩ := Bn7 Cl4 cby (by decide) h hw
 obtain ⟨xs, ls, h1, h2, h3, h4⟩ := Ue (cs := [.int .u8]) (β := UInt8) (Q := λ x y => x.1 = (y.toNat : Int)) rows (λ r hr' => by
  obtain ⟨_, n, y, hy, _⟩ := hr r hr'
  obtain ⟨b, rfl⟩ := Ce7 hy
  exact ⟨((b.toNat : Int), ()), b, rfl, rfl⟩)
 refine ⟨s, ls, rfl, ?_, ?_⟩
 ·rw [h1] at hs
  have e : flat [.int .u8] xs = bv ls := by
   clear h1 h2 hs
   induction xs generalizing ls with
   | nil =>
    cases ls with
    | nil => rfl
    | cons y r => simp at h3
   | cons x r ih =>
    cases ls with
    | nil => simp at h3
    | cons y q =>
     have h0 := h4 0 x y rfl rfl
     have := ih q (by simpa using h3) λ i x' y' hx hy => h4 (i + 1) x' y' (by simpa using hx) (by simpa using hy)
     simp only [flat, List.flatMap_cons] at this ⊢
     rw [this]
     obtain ⟨n, ⟨⟩⟩ := x
     dsimp only at h0
     subst h0
     rfl
  rw [e] at hs; exact hs
 ·rw [← h3, h2, hl]
  rw [bby] at hby
  unfold reachBytes at hby
  omega
theorem open_bool {cs : List Value} {x : DataW H × List MemPlace} (h : DataW.trod enc Tryz.prog W base (λ _ => true) held fuel 4 cs = some x) : ∃ b, cs = [.bool b] := by
 cases fuel with
 | zero => simp [DataW.trod] at h
 | succ m =>
  unfold DataW.trod at h
  rw [u4] at h
  split at h <;> simp_all
structure EdX (w : World) (s : Sl) (es : List LEd) : Prop where
 ex : ∃ ys : List (Cells.T c65), SlX w s 3 (flat c65 ys) /\ ys.length = es.length /\ ∀ (i : Nat) y x, ys[i]? = some y -> es[i]? = some x -> y.1 = x.f /\ y.2.1 = x.t /\ SlX w y.2.2.1 1 (iv x.put) /\ x.put.length <= 1048576
 few : es.length <= 1048576
structure Ct8 (w : World) (s : Sl) (L : List (List LEd)) : Prop where
 ex : ∃ ys : List Sl, SlX w s 1 (ys.map λ y => .slice y.a y.len y.cap) /\ ys.length = L.length /\ ∀ (i : Nat) y es, ys[i]? = some y -> L[i]? = some es -> EdX w y es
 few : L.length <= 1048576
structure Ua where
 kind : Int
 at_ : Int
 b : Int
 mkd : Int
 count : Int
 arg : Int
 past : Bool
abbrev Ao4 (a : Ua) : Cells.T c50 := (a.kind, a.at_, a.b, a.mkd, a.count, a.arg, a.past, ())
structure Ck9 (w : World) (s : Sl) (L : List Ua) : Prop where
 row : SlX w s 7 (flat c50 (L.map Ao4))
 few : L.length <= 1048576
 i64 : ∀ a ∈ L, In64 a.kind /\ In64 a.at_ /\ In64 a.b /\ In64 a.mkd /\ In64 a.count /\ In64 a.arg
structure Tt (w : World) (y : Cells.T c26) (enc : Int) (l : List UInt8) (L : List (List LEd)) (al : List Ua) : Prop where
 e : y.1 = enc
 i64 : In64 enc
 bytes : SlX w y.2.1 1 (bv l)
 blen : l.length <= 2 ^ 47
 edits : Ct8 w y.2.2.1 L
 asks : Ck9 w y.2.2.2.1 al
theorem Bn9 {cs : List Value} {x : DataW H × List MemPlace} (hl : cs.length = 3) (h : DataW.trod enc Tryz.prog W base (λ _ => true) held fuel 65 cs = some x) (hw : ∀ n ∈ x.1.weights Tryz.prog 65, n <= reachBytes) (hb : bulk x.1 <= 1048576) :
  ∃ (y : Cells.T c65) (o : LEd), cs = Cells.vals c65 y /\ (y.1 = o.f /\ y.2.1 = o.t /\ SlX W y.2.2.1 1 (iv o.put) /\ o.put.length <= 1048576) := by
 obtain ⟨fs, hu, hfs⟩ := Cq6
 obtain ⟨n, hall⟩ := Oz hu hfs h hw
 obtain ⟨v0, v1, v2, rfl⟩ : ∃ v0 v1 v2, cs = [v0, v1, v2] := by
  match cs, hl with
  | [v0, v1, v2], _ => exact ⟨v0, v1, v2, rfl⟩
 obtain ⟨y0, h0, _⟩ := hall 0 _ _ rfl
 obtain ⟨y1, h1, _⟩ := hall 1 _ _ rfl
 obtain ⟨y2, h2, hw2, hb2⟩ := hall 2 _ _ rfl
 rw [ci] at h0 h1
 rw [cis] at h2
 obtain ⟨n0, e0, i0⟩ := Iz ui h0
 obtain ⟨n1, e1, i1⟩ := Iz ui h1
 obtain ⟨s2, l2, e2, g2, k2, _⟩ := open_ints h2 hw2
 simp at e0 e1 e2
 subst e0 e1 e2
 exact ⟨(n0, n1, s2, ()), ⟨n0, n1, l2⟩, rfl, rfl, rfl, g2, by dsimp only; omega⟩
theorem Bb4 {cs : List Value} {x : DataW H × List MemPlace} (h : DataW.trod enc Tryz.prog W base (λ _ => true) held fuel 39 cs = some x) (hw : ∀ n ∈ x.1.weights Tryz.prog 39, n <= reachBytes) (hb : bulk x.1 <= 1048576) :
  ∃ (s : Sl) (es : List LEd), cs = [.slice s.a s.len s.cap] /\ EdX W s es := by
 obtain ⟨s, rows, rfl, hs, hl, hby, hr⟩ := Rx Cl3 ced (by decide) h hw
 obtain ⟨xs, ls, h1, h2, h3, h4⟩ := Ue (cs := c65) (β := LEd) (Q := λ y o => y.1 = o.f /\ y.2.1 = o.t /\ SlX W y.2.2.1 1 (iv o.put) /\ o.put.length <= 1048576) rows (λ r hr' => by
  obtain ⟨hrl, n, y, hy, hwy, hby⟩ := hr r hr'
  exact Bn9 hrl hy hwy (by omega))
 rw [h1] at hs
 exact ⟨s, ls, rfl, ⟨xs, hs, h3, h4⟩, by omega⟩
theorem Ar7 {cs : List Value} {x : DataW H × List MemPlace} (h : DataW.trod enc Tryz.prog W base (λ _ => true) held fuel 23 cs = some x) (hw : ∀ n ∈ x.1.weights Tryz.prog 23, n <= reachBytes) (hb : bulk x.1 <= 1048576) :
  ∃ (s : Sl) (L : List (List LEd)), cs = [.slice s.a s.len s.cap] /\ Ct8 W s L := by
 obtain ⟨s, rows, rfl, hs, hl, hby, hr⟩ := Rx Cc9 Df9 (by decide) h hw
 obtain ⟨xs, ls, h1, h2, h3, h4⟩ := Ue (cs := [.sl]) (β := List LEd) (Q := λ y o => EdX W y.1 o) rows (λ r hr' => by
  obtain ⟨hrl, n, y, hy, hwy, hby⟩ := hr r hr'
  obtain ⟨s', es, rfl, he⟩ := Bb4 hy hwy (by omega)
  exact ⟨(s', ()), es, rfl, he⟩)
 rw [h1] at hs
 have e : flat [.sl] xs = (xs.map (·.1)).map λ y => .slice y.a y.len y.cap := by
  simp only [flat, List.map_map, List.flatMap_def]
  clear h1 h2 h3 h4 hs
  induction xs with
  | nil => rfl
  | cons x r ih => simp only [List.map_cons, List.flatten_cons, ih]; rfl
 rw [e] at hs
 refine ⟨s, ls, rfl, ⟨xs.map (·.1), hs, by rw [List.length_map]; exact h3, λ i y es hy he => ?_⟩, by omega⟩
 rw [List.getElem?_map] at hy
 obtain ⟨z, hz, rfl⟩ := Option.map_eq_some_iff.1 hy
 exact h4 i z es hz he
theorem Bu9 {cs : List Value} {x : DataW H × List MemPlace} (hl : cs.length = 7) (h : DataW.trod enc Tryz.prog W base (λ _ => true) held fuel 50 cs = some x) (hw : ∀ n ∈ x.1.weights Tryz.prog 50, n <= reachBytes) :
  ∃ (y : Cells.T c50) (o : Ua), cs = Cells.vals c50 y /\ (y = Ao4 o /\ In64 o.kind /\ In64 o.at_ /\ In64 o.b /\ In64 o.mkd /\ In64 o.count /\ In64 o.arg) := by
 obtain ⟨fs, hu, hfs⟩ := Cv3
 obtain ⟨n, hall⟩ := Oz hu hfs h hw
 obtain ⟨v0, v1, v2, v3, v4, v5, v6, rfl⟩ : ∃ v0 v1 v2 v3 v4 v5 v6, cs = [v0, v1, v2, v3, v4, v5, v6] := by
  match cs, hl with
  | [v0, v1, v2, v3, v4, v5, v6], _ => exact ⟨v0, v1, v2, v3, v4, v5, v6, rfl⟩
 obtain ⟨y0, h0, _⟩ := hall 0 _ _ rfl
 obtain ⟨y1, h1, _⟩ := hall 1 _ _ rfl
 obtain ⟨y2, h2, _⟩ := hall 2 _ _ rfl
 obtain ⟨y3, h3, hw3, _⟩ := hall 3 _ _ rfl
 obtain ⟨y4, h4, _⟩ := hall 4 _ _ rfl
 rw [ci] at h0 h1 h2
 rw [cmv] at h3
 rw [cbo] at h4
 obtain ⟨fs', hu', hfs'⟩ := Cq5
 obtain ⟨n', hall'⟩ := Oz hu' hfs' h3 hw3
 obtain ⟨z0, k0, _⟩ := hall' 0 _ _ rfl
 obtain ⟨z1, k1, _⟩ := hall' 1 _ _ rfl
 obtain ⟨z2, k2, _⟩ := hall' 2 _ _ rfl
 rw [ci] at k0 k1 k2
 obtain ⟨n0, e0, i0⟩ := Iz ui h0
 obtain ⟨n1, e1, i1⟩ := Iz ui h1
 obtain ⟨n2, e2, i2⟩ := Iz ui h2
 obtain ⟨n3, e3, i3⟩ := Iz ui k0
 obtain ⟨n4, e4, i4⟩ := Iz ui k1
 obtain ⟨n5, e5, i5⟩ := Iz ui k2
 obtain ⟨b6, e6⟩ := open_bool h4
 simp at e0 e1 e2 e3 e4 e5 e6
 subst e0 e1 e2 e3 e4 e5 e6
 exact ⟨_, ⟨n0, n1, n2, n3, n4, n5, b6⟩, rfl, rfl, wf64 i0, wf64 i1, wf64 i2, wf64 i3, wf64 i4, wf64 i5⟩
theorem Bo0 {cs : List Value} {x : DataW H × List MemPlace} (h : DataW.trod enc Tryz.prog W base (λ _ => true) held fuel 24 cs = some x) (hw : ∀ n ∈ x.1.weights Tryz.prog 24, n <= reachBytes) (hb : bulk x.1 <= 1048576) :
  ∃ (s : Sl) (L : List Ua), cs = [.slice s.a s.len s.cap] /\ Ck9 W s L := by
 obtain ⟨s, rows, rfl, hs, hl, hby, hr⟩ := Rx Cp9 Dg0 (by decide) h hw
 obtain ⟨xs, ls, h1, h2, h3, h4⟩ := Ue (cs := c50) (β := Ua) (Q := λ y o => y = Ao4 o /\ In64 o.kind /\ In64 o.at_ /\ In64 o.b /\ In64 o.mkd /\ In64 o.count /\ In64 o.arg) rows (λ r hr' => by
  obtain ⟨hrl, n, y, hy, hwy, hby⟩ := hr r hr'
  exact Bu9 hrl hy hwy)
 have e : xs = ls.map Ao4 := by
  refine List.ext_getElem? λ i => ?_
  rw [List.getElem?_map]
  rcases Nat.lt_or_ge i xs.length with u | u
  ·have a1 : xs[i]? = some xs[i] := List.getElem?_eq_getElem u
   have a2 : ls[i]? = some ls[i] := List.getElem?_eq_getElem (by omega)
   rw [a1, a2, (h4 i _ _ a1 a2).1]; rfl
  ·rw [List.getElem?_eq_none u, List.getElem?_eq_none (by omega)]; rfl
 rw [h1, e] at hs
 refine ⟨s, ls, rfl, hs, by omega, λ a ha => ?_⟩
 obtain ⟨i, hi⟩ := List.getElem?_of_mem ha
 have hil := (List.getElem?_eq_some_iff.1 hi).1
 exact (h4 i _ _ (List.getElem?_eq_getElem (by omega)) hi).2
theorem Bn8 {cs : List Value} {x : DataW H × List MemPlace} (hl : cs.length = 4) (h : DataW.trod enc Tryz.prog W base (λ _ => true) held fuel 26 cs = some x) (hw : ∀ n ∈ x.1.weights Tryz.prog 26, n <= reachBytes) (hb : bulk x.1 <= 1048576) :
  ∃ (y : Cells.T c26) (c : Int) (l : List UInt8) (L : List (List LEd)) (al : List Ua), cs = Cells.vals c26 y /\ Tt W y c l L al := by
 obtain ⟨fs, hu, hfs⟩ := Cj8
 obtain ⟨n, hall⟩ := Oz hu hfs h hw
 obtain ⟨v0, v1, v2, v3, rfl⟩ : ∃ v0 v1 v2 v3, cs = [v0, v1, v2, v3] := by
  match cs, hl with
  | [v0, v1, v2, v3], _ => exact ⟨v0, v1, v2, v3, rfl⟩
 obtain ⟨y0, h0, _⟩ := hall 0 _ _ rfl
 obtain ⟨y1, h1, hw1, hb1⟩ := hall 1 _ _ rfl
 obtain ⟨y2, h2, hw2, hb2⟩ := hall 2 _ _ rfl
 obtain ⟨y3, h3, hw3, hb3⟩ := hall 3 _ _ rfl
 rw [ci] at h0
 rw [cbs] at h1
 rw [Df8] at h2
 rw [cas] at h3
 obtain ⟨n0, e0, i0⟩ := Iz ui h0
 obtain ⟨s1, l1, e1, g1, k1⟩ := open_bytes h1 hw1
 obtain ⟨s2, L2, e2, g2⟩ := Ar7 h2 hw2 (by omega)
 obtain ⟨s3, L3, e3, g3⟩ := Bo0 h3 hw3 (by omega)
 simp at e0 e1 e2 e3
 subst e0 e1 e2 e3
 exact ⟨(n0, s1, s2, s3, ()), n0, l1, L2, L3, rfl, ⟨rfl, wf64 i0, g1, k1, g2, g3⟩⟩
end
theorem G5 {H : Type} {enc : TypeId × Value -> H} {P : Program} {w : World} {base : Nat} {spare : Nat -> Bool} {held : Bool} : ∀ {ts : List TypeId} {vs : List Value} {ds : List (DataW H)} {ps : List MemPlace}, DataW.TrodAll enc P w base spare held ts vs ds ps ->
  vs.length = ts.length /\ ds.length = ts.length /\ ∀ (j : Nat) t v d, ts[j]? = some t -> vs[j]? = some v -> ds[j]? = some d -> ∃ p, DataW.Trod enc P w base spare held t v d p
 | [], [], [], _, _ => ⟨rfl, rfl, λ j t v d h => by simp at h⟩
 | t :: ts, v :: vs, d :: ds, ps, ⟨p, q, h1, h2, e⟩ => by
  obtain ⟨a, b, c⟩ := G5 h2
  refine ⟨by simp [a], by simp [b], λ j t' v' d' ht hv hd => ?_⟩
  match j with
  | 0 => cases ht; cases hv; cases hd; exact ⟨p, h1⟩
  | j + 1 => exact c j t' v' d' (by simpa using ht) (by simpa using hv) (by simpa using hd)
 | [], _ :: _, _, _, h => h.elim
 | [], [], _ :: _, _, h => h.elim
 | _ :: _, [], _, _, h => h.elim
 | _ :: _, _ :: _, [], _, h => h.elim
theorem Bw5 {α : Type} (l : List α) (h : l.length = 1) : ∃ v0, l = [v0] := by
 match l, h with
 | [v0], _ => exact ⟨v0, rfl⟩
theorem weigh {H : Type} {ts : List TypeId} {ds : List (DataW H)} (h : (DataW.weightsEach Tryz.prog ts ds).all (· <= reachBytes) = true) (j : Nat) {t : TypeId} {d : DataW H} (ht : ts[j]? = some t) (hd : ds[j]? = some d) : ∀ n ∈ d.weights Tryz.prog t, n <= reachBytes := by
 intro n hn
 have := List.all_eq_true.1 h _ (DataW.weights_mem_each ht hd n hn)
 simpa using this
section
variable {H : Type} {enc : TypeId × Value -> H} {W : World} {base : Nat}
theorem Cb8 {v : Value} {d : DataW H} {p : List MemPlace} (hv : Value.okWide Tryz.prog W .any base 26 v) (h : DataW.Trod enc Tryz.prog W 0 (λ _ => true) true 26 v d p) (hw : ∀ n ∈ d.weights Tryz.prog 26, n <= reachBytes) (hb : bulk d <= 1048576) :
  ∃ (y : Cells.T c26) (c : Int) (l : List UInt8) (L : List (List LEd)) (al : List Ua), v = .agg (Cells.vals c26 y).toArray /\ Tt W y c l L al := by
 obtain ⟨fs, hu, _⟩ := Cj8
 obtain ⟨cs, rfl, hsz⟩ := okWide_struct hu hv
 obtain ⟨n, hn⟩ := h
 rw [Cs8] at hsz
 obtain ⟨y, c, l, L, al, e, h1⟩ := Bn8 (cs := cs.toList) (by simpa using hsz) (by simpa [Value.cells] using hn) hw hb
 exact ⟨y, c, l, L, al, by rw [← e], h1⟩
end
theorem Cq0 : 150 <= Tryz.prog.types.size := of_decide_eq_true (by kernel_rfl)
theorem Ce6 : Tryz.prog.readableRec 26 = true := by kernel_rfl
theorem recs {t : TypeId} (h : t = 26) : Tryz.prog.readableRec t = true /\ t < Tryz.prog.types.size := by
 have := Cq0
 subst h
 exact ⟨Ce6, Nat.lt_of_lt_of_le (by decide) this⟩
end Go.Proofs.YtolhlldgnfbemaaGreatDoor
namespace Go.Proofs.YtolhlldgnfbemaaGreatDoor
open Go Go.Vx Cdc
section
variable {w w' : World}
theorem Sz {s : Sl} {l : Bs} {ty : TypeId} (h : Bh w s ty 1 (bv l)) : l.length = s.len := by have := h.len1; rwa [List.length_map] at this
theorem Oj {s : Sl} {l : Bs} {ty : TypeId} {n : Int} {K : Addr -> Int -> Wp} (h : Bh w s ty 1 (bv l)) (h0 : 0 <= n) {b : UInt8} (hb : l[n.toNat]? = some b) (hK : ∀ p, K p (b.toNat : Int) w) :
  ix s.a s.len n (λ p => ld (.int .u8) (p.add (scaled (Int.toNat n) 1)) (K p)) w := by
 have h' : Bh w s ty 1 ((l.map λ b => (b.toNat : Int)).map (Cell.int .u8).val) := by rw [← Bz9]; exact h
 exact Gl h' h0 (x := (b.toNat : Int)) (by rw [List.getElem?_map, hb]; rfl) hK
theorem Cd5 {s : Sl} {l : Bs} {ty : TypeId} {a b m : Int} {K : Sl -> Wp} (hs : Bh w s ty 1 (bv l)) (h0 : 0 <= a) (h1 : a <= b) (h2 : b <= s.len) (h3 : b <= m) (h4 : m <= s.cap)
  (hK : ∀ s', Bh w s' ty 1 (bv ((l.drop a.toNat).take (b.toNat - a.toNat))) -> s'.len = b.toNat - a.toNat -> (∀ k, s'.blk k -> s.blk k) -> K s' w) : slc s.a a b m s.cap 1 K w :=
 Aq4 hs h0 h1 h2 h3 h4 λ s' hs' hl _ hb => hK s' (by
  rw [Nat.mul_one, Nat.mul_one, Bk1, Bk0] at hs'; exact hs') hl hb
theorem Bc4 {e : Enc} {K : Bool -> Wp} (hK : K true w) : Aa Tryz.prog 57 #[.int .i64 e.num] rB K w := by
 refine A57 ?_
 unfold F57
 cases e <;> exact Ac (λ _ => hK) (λ h => by cases h)
theorem Xu {a : Int} {K : Bool -> Wp} (h1 : Scalar a -> K true w) (h2 : ¬ Scalar a -> K false w) : Aa Tryz.prog 122 #[.int .i64 a] rB K w := by
 refine Dr6 ?_
 unfold F122
 unfold Scalar at h1 h2
 refine Ac (λ h => Ac (λ h' => ?_) (λ h' => Ac (λ h'' => ?_) (λ h'' => ?_))) (λ h => Ac (λ h'' => ?_) (λ h'' => ?_))
 all_goals simp only [decide_eq_true_eq, decide_eq_false_iff_not, gt_iff_lt, ge_iff_le] at *
 ·exact h1 (by omega)
 ·by_cases hc : a <= 1114111
  ·rw [decide_eq_true hc]; exact h1 (by omega)
  ·rw [decide_eq_false hc]; exact h2 (by omega)
 ·exact h2 (by omega)
 ·by_cases hc : a <= 1114111
  ·rw [decide_eq_true hc]; exact h1 (by omega)
  ·rw [decide_eq_false hc]; exact h2 (by omega)
 ·exact h2 (by omega)
def unI (be : Bool) : Bs -> Int
 | a :: b :: _ => ((un be a b : Nat) : Int)
 | _ => -1
theorem V9 {s : Sl} {l : Bs} {n : Nat} {be : Bool} {ty : TypeId} (hB : Bh w s ty 1 (bv l)) (hn : n < 2 ^ 60) (hl : l.length < 2 ^ 60) {K : Int -> Wp} (hK : ∀ w', Ext w w' -> K (unI be (l.drop n)) w') :
  Aa Tryz.prog 112 #[.int .i64 (if be then 3 else 2), s.v, .int .i64 (n : Int)] rI K w := by
 refine Ds4 ?_
 unfold F112
 have hlen := Sz hB
 have e2 : W64 ((n : Int) + 2) = (n : Int) + 2 := wrap64 (by omega) (by omega)
 have e1 : W64 ((n : Int) + 1) = ((n + 1 : Nat) : Int) := by rw [wrap64 (by omega) (by omega)]; omega
 rw [e2, e1]
 refine Ac (λ h => ?_) (λ h => ?_)
 ·simp only [decide_eq_true_eq, gt_iff_lt] at h
  have := hK w (Ext.refl w)
  have hd : (l.drop n).length < 2 := by rw [List.length_drop]; omega
  match hdd : l.drop n, hd with
  | [], _ => rw [hdd] at this; exact this
  | [_], _ => rw [hdd] at this; exact this
  | _ :: _ :: _, hd => simp at hd; omega
 ·simp only [decide_eq_false_iff_not, gt_iff_lt] at h
  have h0 : n < l.length := by omega
  have h1 : n + 1 < l.length := by omega
  have hd : l.drop n = l[n] :: l[n + 1] :: l.drop (n + 2) := by
   rw [List.drop_eq_getElem_cons h0, List.drop_eq_getElem_cons h1]
  have ha := l[n].toNat_lt
  have hb := l[n + 1].toNat_lt
  rw [hd] at hK
  have g0 : l[(n : Int).toNat]? = some l[n] := by rw [Int.toNat_natCast]; simp [h0]
  have g1 : l[((n + 1 : Nat) : Int).toNat]? = some l[n + 1] := by rw [Int.toNat_natCast]; simp [h1]
  cases be with
  | false =>
   refine Ac (λ _ => Di λ w1 e3 _ => ?_) (λ h => by cases h)
   have hB1 : Bh w1 s ty 1 (bv l) := hB.ext e3
   refine Oj hB1 (by omega) g0 λ p => Oj hB1 (by omega) g1 λ p => ?_
   rw [wrap64 (a := (l[n].toNat : Int)) (by omega) (by omega), wrap64 (a := (l[n + 1].toNat : Int)) (by omega) (by omega), wrap64 (a := 256 * (l[n + 1].toNat : Int)) (by omega) (by omega), wrap64 (by omega) (by omega)]
   have : (l[n].toNat : Int) + 256 * (l[n + 1].toNat : Int) = unI false (l[n] :: l[n + 1] :: l.drop (n + 2)) := by
    show _ = ((l[n].toNat + l[n + 1].toNat * 256 : Nat) : Int); omega
   rw [this]; exact hK w1 e3
  | true =>
   refine Ac (λ h => by cases h) (λ _ => Di λ w1 e3 _ => ?_)
   have hB1 : Bh w1 s ty 1 (bv l) := hB.ext e3
   refine Oj hB1 (by omega) g0 λ p => Oj hB1 (by omega) g1 λ p => ?_
   rw [wrap64 (a := (l[n].toNat : Int)) (by omega) (by omega), wrap64 (a := (l[n + 1].toNat : Int)) (by omega) (by omega), wrap64 (a := 256 * (l[n].toNat : Int)) (by omega) (by omega), wrap64 (by omega) (by omega)]
   have : 256 * (l[n].toNat : Int) + (l[n + 1].toNat : Int) = unI true (l[n] :: l[n + 1] :: l.drop (n + 2)) := by
    show _ = ((l[n + 1].toNat + l[n].toNat * 256 : Nat) : Int); omega
   rw [this]; exact hK w1 e3
end
end Go.Proofs.YtolhlldgnfbemaaGreatDoor
namespace Go.Proofs.YtolhlldgnfbemaaGreatDoor
namespace Cdc
theorem ofNat_toNat (b : UInt8) : UInt8.ofNat b.toNat = b := by
 apply UInt8.toNat_inj.1
 rw [UInt8.toNat_ofNat']
 have := b.toNat_lt
 omega
theorem byte_of {n : Nat} {b : UInt8} (h : n = b.toNat) : UInt8.ofNat n = b := by rw [h, ofNat_toNat]
theorem Nc {n : Nat} (h : Scalar (n : Int)) : sz8 (n : Int) = if n < 128 then 1 else if n < 2048 then 2 else if n < 65536 then 3 else 4 := by
 unfold sz8
 rw [if_neg (by rcases h with h | h <;> omega)]
 repeat' split
 all_goals first | rfl | omega
theorem Bh6 {n : Nat} (h : n < 128) : pt8 (n : Int) = [UInt8.ofNat n] := by
 have hs : sz8 (n : Int) = 1 := by rw [Nc (.inl (by omega)), if_pos h]
 unfold pt8
 rw [if_neg (by omega), if_pos hs, Int.toNat_natCast]
theorem Bh5 {n : Nat} (h0 : 128 <= n) (h : n < 2048) : pt8 (n : Int) = [UInt8.ofNat (192 + n / 64), UInt8.ofNat (128 + n % 64)] := by
 have hs : sz8 (n : Int) = 2 := by rw [Nc (.inl (by omega)), if_neg (by omega), if_pos h]
 unfold pt8
 rw [if_neg (by omega), hs, if_neg (by decide), Int.toNat_natCast]
 show [UInt8.ofNat (192 + n / 64), UInt8.ofNat (128 + n / 1 % 64)] = _
 rw [Nat.div_one]
theorem Bh4 {n : Nat} (hs : Scalar (n : Int)) (h0 : 2048 <= n) (h : n < 65536) : pt8 (n : Int) = [UInt8.ofNat (224 + n / 4096), UInt8.ofNat (128 + n / 64 % 64), UInt8.ofNat (128 + n % 64)] := by
 have hs : sz8 (n : Int) = 3 := by rw [Nc hs, if_neg (by omega), if_neg (by omega), if_pos h]
 unfold pt8
 rw [if_neg (by omega), hs, if_neg (by decide), Int.toNat_natCast]
 show [UInt8.ofNat (224 + n / 4096), UInt8.ofNat (128 + n / 64 % 64), UInt8.ofNat (128 + n / 1 % 64)] = _
 rw [Nat.div_one]
theorem Bh3 {n : Nat} (h0 : 65536 <= n) (h : n < 1114112) : pt8 (n : Int) = [UInt8.ofNat (240 + n / 262144), UInt8.ofNat (128 + n / 4096 % 64), UInt8.ofNat (128 + n / 64 % 64), UInt8.ofNat (128 + n % 64)] := by
 have hs : sz8 (n : Int) = 4 := by rw [Nc (.inr (by omega)), if_neg (by omega), if_neg (by omega), if_neg (by omega)]
 unfold pt8
 rw [if_neg (by omega), hs, if_neg (by decide), Int.toNat_natCast]
 show [UInt8.ofNat (240 + n / 262144), UInt8.ofNat (128 + n / 4096 % 64), UInt8.ofNat (128 + n / 64 % 64), UInt8.ofNat (128 + n / 1 % 64)] = _
 rw [Nat.div_one]
theorem Ab6 (c : UInt8) : cont c = true ↔ 128 <= c.toNat /\ c.toNat < 192 := by
 unfold cont; simp; omega
theorem As0 {b : UInt8} {r : Bs} (h : 0 <= (nx8 (b :: r)).1) : Scalar (nx8 (b :: r)).1 /\ pt8 (nx8 (b :: r)).1 = (b :: r).take (nx8 (b :: r)).2 /\ sz8 (nx8 (b :: r)).1 = (nx8 (b :: r)).2 := by
 have hb := b.toNat_lt
 have h2 := Kr b r
 simp only [nx8] at h ⊢
 by_cases hc : (rowOf (b :: r)).2 = 0 \/ (rowOf (b :: r)).1 < (rowOf (b :: r)).2
 ·rw [if_pos hc] at h
  have : (0 : Int) <= -1 - (b.toNat : Int) := h
  omega
 rw [if_neg hc] at h ⊢
 obtain ⟨hn0, hle⟩ : ¬ (rowOf (b :: r)).2 = 0 /\ ¬ (rowOf (b :: r)).1 < (rowOf (b :: r)).2 := ⟨λ h => hc (.inl h), λ h => hc (.inr h)⟩
 clear hc
 have two : ∀ {lo hi k : Nat}, Em b.toNat = (k + 2, lo, hi) -> ∃ c r', r = c :: r' /\ lo <= c.toNat /\ c.toNat <= hi /\ k <= more k r' /\ (rowOf (b :: r)).2 = k + 2 := by
  intro lo hi k hk
  rw [h2, hk] at hle
  cases r with
  | nil =>
   have e : rowOf [b] = (1, k + 2) := by simp only [rowOf, hk]; rw [if_neg (by omega)]
   rw [e] at hle; simp at hle
  | cons c r' =>
   have e : rowOf (b :: c :: r') = if c.toNat < lo \/ hi < c.toNat then (1, k + 2) else (2 + more k r', k + 2) := by simp only [rowOf, hk]; rw [if_neg (by omega)]; rfl
   rw [e] at hle
   dsimp only at hle
   by_cases hcc : c.toNat < lo \/ hi < c.toNat
   ·rw [if_pos hcc] at hle; simp at hle
   ·rw [if_neg hcc] at hle
    simp only at hle
    exact ⟨c, r', rfl, by omega, by omega, by omega, by rw [h2, hk]⟩
 have more1 : ∀ {r : Bs}, 1 <= more 1 r -> ∃ d r', r = d :: r' /\ 128 <= d.toNat /\ d.toNat < 192 := by
  intro r hr
  cases r with
  | nil => simp [more] at hr
  | cons d r' =>
   by_cases hd : cont d = true
   ·exact ⟨d, r', rfl, (Ab6 d).1 hd⟩
   ·simp [more, hd] at hr
 have more2 : ∀ {r : Bs}, 2 <= more 2 r -> ∃ d e r', r = d :: e :: r' /\ 128 <= d.toNat /\ d.toNat < 192 /\ 128 <= e.toNat /\ e.toNat < 192 := by
  intro r hr
  cases r with
  | nil => simp [more] at hr
  | cons d r' =>
   by_cases hd : cont d = true
   ·have hr' : 1 <= more 1 r' := by
     have e2 : more 2 (d :: r') = more 1 r' + 1 := by show (if cont d then more 1 r' + 1 else 0) = _; rw [if_pos hd]
     omega
    obtain ⟨e, r'', rfl, h1⟩ := more1 hr'
    exact ⟨d, e, r'', rfl, ((Ab6 d).1 hd).1, ((Ab6 d).1 hd).2, h1⟩
   ·simp [more, hd] at hr
 have fin2 : ∀ {lo hi : Nat}, Em b.toNat = (2, lo, hi) -> 194 <= b.toNat -> b.toNat < 224 -> 128 <= lo -> hi <= 191 ->
   Scalar ((rest (lead (rowOf (b :: r)).2 b.toNat) (r.take ((rowOf (b :: r)).2 - 1)) : Nat) : Int) /\ pt8 ((rest (lead (rowOf (b :: r)).2 b.toNat) (r.take ((rowOf (b :: r)).2 - 1)) : Nat) : Int) = (b :: r).take (rowOf (b :: r)).2 /\ sz8 ((rest (lead (rowOf (b :: r)).2 b.toNat) (r.take ((rowOf (b :: r)).2 - 1)) : Nat) : Int) = (rowOf (b :: r)).2 := by
  intro lo hi hk g1 g2 g3 g4
  obtain ⟨c, r', rfl, c1, c2, _, hn⟩ := two (k := 0) hk
  rw [hn]
  show Scalar (((b.toNat % 32 * 64 + c.toNat % 64 : Nat)) : Int) /\ pt8 (((b.toNat % 32 * 64 + c.toNat % 64 : Nat)) : Int) = [b, c] /\ sz8 (((b.toNat % 32 * 64 + c.toNat % 64 : Nat)) : Int) = 2
  have hS : Scalar (((b.toNat % 32 * 64 + c.toNat % 64 : Nat)) : Int) := .inl (by omega)
  refine ⟨hS, ?_, ?_⟩
  ·rw [Bh5 (by omega) (by omega), byte_of (b := b) (by omega), byte_of (b := c) (by omega)]
  ·rw [Nc hS, if_neg (by omega), if_pos (by omega)]
 have fin3 : ∀ {lo hi : Nat}, Em b.toNat = (3, lo, hi) -> 224 <= b.toNat -> b.toNat < 240 -> 128 <= lo -> hi <= 191 -> (b.toNat = 224 -> 160 <= lo) -> (b.toNat = 237 -> hi <= 159) ->
   Scalar ((rest (lead (rowOf (b :: r)).2 b.toNat) (r.take ((rowOf (b :: r)).2 - 1)) : Nat) : Int) /\ pt8 ((rest (lead (rowOf (b :: r)).2 b.toNat) (r.take ((rowOf (b :: r)).2 - 1)) : Nat) : Int) = (b :: r).take (rowOf (b :: r)).2 /\ sz8 ((rest (lead (rowOf (b :: r)).2 b.toNat) (r.take ((rowOf (b :: r)).2 - 1)) : Nat) : Int) = (rowOf (b :: r)).2 := by
  intro lo hi hk g1 g2 g3 g4 g5 g6
  obtain ⟨c, r', rfl, c1, c2, hm, hn⟩ := two (k := 1) hk
  obtain ⟨d, r'', rfl, d1, d2⟩ := more1 hm
  rw [hn]
  show Scalar ((((b.toNat % 16 * 64 + c.toNat % 64) * 64 + d.toNat % 64 : Nat)) : Int) /\ pt8 ((((b.toNat % 16 * 64 + c.toNat % 64) * 64 + d.toNat % 64 : Nat)) : Int) = [b, c, d] /\ sz8 ((((b.toNat % 16 * 64 + c.toNat % 64) * 64 + d.toNat % 64 : Nat)) : Int) = 3
  have hS : Scalar ((((b.toNat % 16 * 64 + c.toNat % 64) * 64 + d.toNat % 64 : Nat)) : Int) := by
   unfold Scalar
   by_cases h7 : b.toNat = 237
   ·have := g6 h7; omega
   ·omega
  have hlow : 2048 <= (b.toNat % 16 * 64 + c.toNat % 64) * 64 + d.toNat % 64 := by
   by_cases h4 : b.toNat = 224
   ·have := g5 h4; omega
   ·omega
  refine ⟨hS, ?_, ?_⟩
  ·rw [Bh4 hS hlow (by omega), byte_of (b := b) (by omega), byte_of (b := c) (by omega), byte_of (b := d) (by omega)]
  ·rw [Nc hS, if_neg (by omega), if_neg (by omega), if_pos (by omega)]
 have fin4 : ∀ {lo hi : Nat}, Em b.toNat = (4, lo, hi) -> 240 <= b.toNat -> b.toNat < 245 -> 128 <= lo -> hi <= 191 -> (b.toNat = 240 -> 144 <= lo) -> (b.toNat = 244 -> hi <= 143) ->
   Scalar ((rest (lead (rowOf (b :: r)).2 b.toNat) (r.take ((rowOf (b :: r)).2 - 1)) : Nat) : Int) /\ pt8 ((rest (lead (rowOf (b :: r)).2 b.toNat) (r.take ((rowOf (b :: r)).2 - 1)) : Nat) : Int) = (b :: r).take (rowOf (b :: r)).2 /\ sz8 ((rest (lead (rowOf (b :: r)).2 b.toNat) (r.take ((rowOf (b :: r)).2 - 1)) : Nat) : Int) = (rowOf (b :: r)).2 := by
  intro lo hi hk g1 g2 g3 g4 g5 g6
  obtain ⟨c, r', rfl, c1, c2, hm, hn⟩ := two (k := 2) hk
  obtain ⟨d, e, r'', rfl, d1, d2, e1, e2⟩ := more2 hm
  rw [hn]
  show Scalar (((((b.toNat % 8 * 64 + c.toNat % 64) * 64 + d.toNat % 64) * 64 + e.toNat % 64 : Nat)) : Int) /\ pt8 (((((b.toNat % 8 * 64 + c.toNat % 64) * 64 + d.toNat % 64) * 64 + e.toNat % 64 : Nat)) : Int) = [b, c, d, e] /\ sz8 (((((b.toNat % 8 * 64 + c.toNat % 64) * 64 + d.toNat % 64) * 64 + e.toNat % 64 : Nat)) : Int) = 4
  have hlow : 65536 <= ((b.toNat % 8 * 64 + c.toNat % 64) * 64 + d.toNat % 64) * 64 + e.toNat % 64 := by
   by_cases h4 : b.toNat = 240
   ·have := g5 h4; omega
   ·omega
  have hhigh : ((b.toNat % 8 * 64 + c.toNat % 64) * 64 + d.toNat % 64) * 64 + e.toNat % 64 < 1114112 := by
   by_cases h4 : b.toNat = 244
   ·have := g6 h4; omega
   ·omega
  have hS : Scalar (((((b.toNat % 8 * 64 + c.toNat % 64) * 64 + d.toNat % 64) * 64 + e.toNat % 64 : Nat)) : Int) := .inr (by omega)
  refine ⟨hS, ?_, ?_⟩
  ·rw [Bh3 hlow hhigh, byte_of (b := b) (by omega), byte_of (b := c) (by omega), byte_of (b := d) (by omega), byte_of (b := e) (by omega)]
  ·rw [Nc hS, if_neg (by omega), if_neg (by omega), if_neg (by omega)]
 by_cases k1 : b.toNat < 128
 ·have hk : Em b.toNat = (1, 0, 0) := by unfold Em; rw [if_pos k1]
  have hn : (rowOf (b :: r)).2 = 1 := by rw [h2, hk]
  rw [hn]
  show Scalar ((b.toNat : Nat) : Int) /\ pt8 ((b.toNat : Nat) : Int) = [b] /\ sz8 ((b.toNat : Nat) : Int) = 1
  have hS : Scalar ((b.toNat : Nat) : Int) := .inl (by omega)
  exact ⟨hS, by rw [Bh6 k1, ofNat_toNat], by rw [Nc hS, if_pos k1]⟩
 by_cases k2 : b.toNat < 194
 ·exact absurd (by rw [h2]; unfold Em; rw [if_neg k1, if_pos k2]) hn0
 by_cases k3 : b.toNat < 224
 ·exact fin2 (lo := 128) (hi := 191) (by unfold Em; rw [if_neg k1, if_neg k2, if_pos k3]) (by omega) k3 (by omega) (by omega)
 by_cases k4 : b.toNat = 224
 ·exact fin3 (lo := 160) (hi := 191) (by unfold Em; rw [if_neg k1, if_neg k2, if_neg k3, if_pos k4]) (by omega) (by omega) (by omega) (by omega) (λ _ => by omega) (λ h => by omega)
 by_cases k5 : b.toNat = 237
 ·exact fin3 (lo := 128) (hi := 159) (by unfold Em; rw [if_neg k1, if_neg k2, if_neg k3, if_neg k4, if_pos k5]) (by omega) (by omega) (by omega) (by omega) (λ h => by omega) (λ _ => by omega)
 by_cases k6 : b.toNat < 240
 ·exact fin3 (lo := 128) (hi := 191) (by unfold Em; rw [if_neg k1, if_neg k2, if_neg k3, if_neg k4, if_neg k5, if_pos k6]) (by omega) (by omega) (by omega) (by omega) (λ h => by omega) (λ h => by omega)
 by_cases k7 : b.toNat = 240
 ·exact fin4 (lo := 144) (hi := 191) (by unfold Em; rw [if_neg k1, if_neg k2, if_neg k3, if_neg k4, if_neg k5, if_neg k6, if_pos k7]) (by omega) (by omega) (by omega) (by omega) (λ _ => by omega) (λ h => by omega)
 by_cases k8 : b.toNat < 244
 ·exact fin4 (lo := 128) (hi := 191) (by unfold Em; rw [if_neg k1, if_neg k2, if_neg k3, if_neg k4, if_neg k5, if_neg k6, if_neg k7, if_pos k8]) (by omega) (by omega) (by omega) (by omega) (λ h => by omega) (λ h => by omega)
 by_cases k9 : b.toNat = 244
 ·exact fin4 (lo := 128) (hi := 143) (by unfold Em; rw [if_neg k1, if_neg k2, if_neg k3, if_neg k4, if_neg k5, if_neg k6, if_neg k7, if_neg k8, if_pos k9]) (by omega) (by omega) (by omega) (by omega) (λ h => by omega) (λ _ => by omega)
 ·exact absurd (by rw [h2]; unfold Em; rw [if_neg k1, if_neg k2, if_neg k3, if_neg k4, if_neg k5, if_neg k6, if_neg k7, if_neg k8, if_neg k9]) hn0
def Pm (n : Nat) : Int := if n = 2 then 192 else if n = 3 then 224 else if n = 4 then 240 else 0
def Zw (a : Int) (l : Bs) : Int := l.foldl (λ a c => a * 64 + (c.toNat : Int) - 128) a
def Gs (n : Nat) : Bs -> Int
 | [] => 0
 | b :: r => Zw ((b.toNat : Int) - Pm n) (r.take (n - 1))
theorem Bv8 {a : Int} (h : Scalar a) (r : Bs) : Gs (sz8 a) (pt8 a ++ r) = a := by
 obtain ⟨n, rfl⟩ : ∃ n : Nat, a = (n : Int) := Int.eq_ofNat_of_zero_le (by rcases h with h | h <;> omega)
 have hs := Nc h
 by_cases k1 : n < 128
 ·rw [if_pos k1] at hs
  rw [hs, Bh6 k1]
  show Zw (((UInt8.ofNat n).toNat : Int) - 0) [] = _
  rw [Bv (by omega)]; show ((n : Int) - 0) = n; omega
 by_cases k2 : n < 2048
 ·rw [if_neg k1, if_pos k2] at hs
  rw [hs, Bh5 (by omega) k2]
  show (((UInt8.ofNat (192 + n / 64)).toNat : Int) - 192) * 64 + ((UInt8.ofNat (128 + n % 64)).toNat : Int) - 128 = _
  rw [Bv (by omega), Bv (by omega)]; omega
 by_cases k3 : n < 65536
 ·rw [if_neg k1, if_neg k2, if_pos k3] at hs
  rw [hs, Bh4 h (by omega) k3]
  show ((((UInt8.ofNat (224 + n / 4096)).toNat : Int) - 224) * 64 + ((UInt8.ofNat (128 + n / 64 % 64)).toNat : Int) - 128) * 64 + ((UInt8.ofNat (128 + n % 64)).toNat : Int) - 128 = _
  rw [Bv (by omega), Bv (by omega), Bv (by omega)]; omega
 ·rw [if_neg k1, if_neg k2, if_neg k3] at hs
  have h' : n < 1114112 := by rcases h with h | h <;> omega
  rw [hs, Bh3 (by omega) h']
  show (((((UInt8.ofNat (240 + n / 262144)).toNat : Int) - 240) * 64 + ((UInt8.ofNat (128 + n / 4096 % 64)).toNat : Int) - 128) * 64 + ((UInt8.ofNat (128 + n / 64 % 64)).toNat : Int) - 128) * 64 + ((UInt8.ofNat (128 + n % 64)).toNat : Int) - 128 = _
  rw [Bv (by omega), Bv (by omega), Bv (by omega), Bv (by omega)]; omega
def Hit (r : Bs) (n : Nat) : Prop := Scalar (Gs n r) /\ r.take (pt8 (Gs n r)).length = pt8 (Gs n r) /\ (pt8 (Gs n r)).length = n
theorem Co2 {r : Bs} {n : Nat} (h : Hit r n) : nx8 r = (Gs n r, n) := by
 obtain ⟨h1, h2, h3⟩ := h
 have e : r = pt8 (Gs n r) ++ r.drop (pt8 (Gs n r)).length := by
  conv => lhs; rw [← List.take_append_drop (pt8 (Gs n r)).length r, h2]
 have := Bv3 h1 (r.drop (pt8 (Gs n r)).length)
 rw [← e] at this
 have hl : (pt8 (Gs n r)).length = sz8 (Gs n r) := Zh .u8 _ (λ h0 => by
  have h4 : sz8 (Gs n r) ≠ 0 := by
   unfold sz8
   rw [if_neg (by rcases h1 with h | h <;> omega)]
   repeat' split
   all_goals decide
  exact h4 h0)
 rw [this, ← hl, h3]
theorem Cn0 {b : UInt8} {r : Bs} (h : 0 <= (nx8 (b :: r)).1) : Hit (b :: r) (nx8 (b :: r)).2 /\ Gs (nx8 (b :: r)).2 (b :: r) = (nx8 (b :: r)).1 := by
 obtain ⟨h1, h2, h3⟩ := As0 h
 have hsz := Y7 b r
 have hl : (pt8 (nx8 (b :: r)).1).length = (nx8 (b :: r)).2 := by rw [h2, List.length_take]; omega
 have hm : Gs (nx8 (b :: r)).2 (b :: r) = (nx8 (b :: r)).1 := by
  have := Bv8 h1 ((b :: r).drop (nx8 (b :: r)).2)
  rw [h2, List.take_append_drop, h3] at this
  exact this
 refine ⟨⟨?_, ?_, ?_⟩, hm⟩
 ·rw [hm]; exact h1
 ·rw [hm, hl]; exact h2.symm
 ·rw [hm, hl]
theorem Bv1 {b : UInt8} {r : Bs} (h : ¬ 0 <= (nx8 (b :: r)).1) : nx8 (b :: r) = (-1 - (b.toNat : Int), 1) := by
 simp only [nx8] at h ⊢
 split at h
 ·rename_i hc; rw [if_pos hc]
 ·exact absurd (Int.natCast_nonneg _) h
end Cdc
end Go.Proofs.YtolhlldgnfbemaaGreatDoor
namespace Go.Proofs.YtolhlldgnfbemaaGreatDoor
open Go Go.Vx Cdc Trx
section
variable {w w' : World}
theorem An9 {b : Nat} {c : Array Value} {l : Bs} (h : w.heap[b]? = some (.cells c 5 (0, 0))) (hc : c.toList = bv l) : By w ⟨some (at0 b), l.length, l.length⟩ l := by
 have hs : c.size = l.length * 1 := by rw [← Array.length_toList, hc, List.length_map]; omega
 have := Bh.Iw h (n := l.length) (sz := 1) hs
 rw [hc] at this
 exact this
theorem Jd {n : Int} {m : Nat} (hm : m < 256) (h : n = (m : Int)) : Value.int .u8 (IntKind.wrap .u8 n) = Value.int .u8 ((UInt8.ofNat m).toNat : Int) := by
 rw [h, Bv hm, Wi (by omega) (by omega)]
theorem Ab1 {a : Int} (ha : Scalar a) {K : Sl -> Wp} (hK : ∀ s w', By w' s (pt8 a) -> Ext w w' -> K s w') : Aa Tryz.prog 123 #[.int .i64 a] rS K w := by
 refine Dr5 ?_
 unfold F123
 obtain ⟨n, rfl⟩ : ∃ n : Nat, a = (n : Int) := Int.eq_ofNat_of_zero_le (by rcases ha with h | h <;> omega)
 have td : ∀ m : Nat, Int.tdiv (n : Int) ((m : Nat) : Int) = ((n / m : Nat) : Int) := λ m => by rw [Int.tdiv_eq_ediv_of_nonneg (by omega)]; rfl
 have tm : ∀ k m : Nat, Int.tmod (k : Int) ((m : Nat) : Int) = ((k % m : Nat) : Int) := λ k m => by rw [Int.tmod_eq_emod_of_nonneg (by omega)]; rfl
 have d64 := td 64; have d4096 := td 4096; have d262144 := td 262144
 have hn : n < 1114112 := by rcases ha with h | h <;> omega
 refine Ac (λ h => ?_) (λ h => Ac (λ h2 => ?_) (λ h2 => Ac (λ h3 => ?_) (λ h3 => ?_)))
 ·simp only [decide_eq_true_eq] at h
  refine Cm λ b w1 e1 n1 _ _ => hK _ w1 ?_ e1
  have := An9 (l := pt8 (n : Int)) n1 (by rw [Bh6 (by omega)]; show [_] = [_]; rw [Jd (m := n) (by omega) rfl])
  rw [Bh6 (by omega)] at this ⊢
  exact this
 ·simp only [decide_eq_true_eq, decide_eq_false_iff_not] at h h2
  refine Bq (by decide) (Bq (by decide) (Cm λ b w1 e1 n1 _ _ => hK _ w1 ?_ e1))
  have := An9 (l := pt8 (n : Int)) n1 (by
   rw [Bh5 (by omega) (by omega)]
   show [_, _] = [_, _]
   have e1 := td 64; have e2 := tm n 64
   simp only [Int.cast_ofNat_Int] at e1 e2
   rw [e1, e2, wrap64 (a := ((n / 64 : Nat) : Int)) (by omega) (by omega), wrap64 (by omega) (by omega), wrap64 (by omega) (by omega), Jd (m := 192 + n / 64) (by omega) (by omega), Jd (m := 128 + n % 64) (by omega) (by omega)])
  rw [Bh5 (by omega) (by omega)] at this ⊢
  exact this
 ·simp only [decide_eq_true_eq, decide_eq_false_iff_not] at h h2 h3
  refine Bq (by decide) (Bq (by decide) (Bq (by decide) (Bq (by decide) (Cm λ b w1 e1 n1 _ _ => hK _ w1 ?_ e1))))
  have := An9 (l := pt8 (n : Int)) n1 (by
   rw [Bh4 ha (by omega) (by omega)]
   show [_, _, _] = [_, _, _]
   have e1 := td 64; have e2 := tm n 64; have e3 := td 4096; have e4 := tm (n / 64) 64
   simp only [Int.cast_ofNat_Int] at e1 e2 e3 e4
   rw [e1, e2, e3, wrap64 (a := ((n / 64 : Nat) : Int)) (by omega) (by omega), wrap64 (a := ((n / 4096 : Nat) : Int)) (by omega) (by omega), e4, wrap64 (by omega) (by omega), wrap64 (by omega) (by omega), wrap64 (by omega) (by omega), Jd (m := 224 + n / 4096) (by omega) (by omega), Jd (m := 128 + n / 64 % 64) (by omega) (by omega), Jd (m := 128 + n % 64) (by omega) (by omega)])
  rw [Bh4 ha (by omega) (by omega)] at this ⊢
  exact this
 ·simp only [decide_eq_false_iff_not] at h h2 h3
  refine Bq (by decide) (Bq (by decide) (Bq (by decide) (Bq (by decide) (Bq (by decide) (Bq (by decide) (Cm λ b w1 e1 n1 _ _ => hK _ w1 ?_ e1))))))
  have := An9 (l := pt8 (n : Int)) n1 (by
   rw [Bh3 (by omega) (by omega)]
   show [_, _, _, _] = [_, _, _, _]
   have e1 := td 64; have e2 := tm n 64; have e3 := td 4096; have e4 := tm (n / 64) 64; have e5 := td 262144; have e6 := tm (n / 4096) 64
   simp only [Int.cast_ofNat_Int] at e1 e2 e3 e4 e5 e6
   rw [e1, e2, e3, e5, wrap64 (a := ((n / 64 : Nat) : Int)) (by omega) (by omega), wrap64 (a := ((n / 4096 : Nat) : Int)) (by omega) (by omega), wrap64 (a := ((n / 262144 : Nat) : Int)) (by omega) (by omega), e4, e6, wrap64 (by omega) (by omega), wrap64 (by omega) (by omega), wrap64 (by omega) (by omega), wrap64 (by omega) (by omega),
    Jd (m := 240 + n / 262144) (by omega) (by omega), Jd (m := 128 + n / 4096 % 64) (by omega) (by omega), Jd (m := 128 + n / 64 % 64) (by omega) (by omega), Jd (m := 128 + n % 64) (by omega) (by omega)])
  rw [Bh3 (by omega) (by omega)] at this ⊢
  exact this
theorem Aw5 {s t : Sl} {l m : Bs} {n : Nat} {ty : TypeId} (hs : Bh w s ty 1 (bv l)) (ht : By w t m) (hn : n <= l.length) (hl : l.length < 2 ^ 60) (hm : m.length < 2 ^ 60) {K : Bool -> Wp} (hK : ∀ w', Ext w w' -> K (decide ((l.drop n).take m.length = m)) w') :
  Aa Tryz.prog 169 #[s.v, .int .i64 (n : Int), t.v] rB K w := by
 refine Do3 ?_
 unfold F169
 have h1 := Sz hs; have h2 := Sz ht
 rw [wrap64 (by omega) (by omega)]
 refine Ac (λ h => ?_) (λ h => ?_)
 ·simp only [decide_eq_true_eq, gt_iff_lt] at h
  have := hK w (Ext.refl w)
  rw [decide_eq_false] at this
  ·exact this
  ·intro hc
   have := congrArg List.length hc
   rw [List.length_take, List.length_drop] at this; omega
 simp only [decide_eq_false_iff_not, gt_iff_lt] at h
 refine Ad (λ _ w' => Ext w w' /\ (l.drop n).take m.length = m) ?_ ?_
 ·refine Ar (λ x w' => ∃ i : Nat, i <= m.length /\ x = ((i : Int), ()) /\ Ext w w' /\ (l.drop n).take i = m.take i) (λ x _ => ((m.length : Int) - x.1).toNat) ⟨0, Nat.zero_le _, rfl, Ext.refl w, by simp⟩ ?_
  rintro _ w1 ⟨i, hi, rfl, e1, heq⟩
  refine Ac (λ hc => ?_) (λ hc => ?_)
  ·simp only [decide_eq_true_eq] at hc
   have him : i < m.length := by omega
   have hil : n + i < l.length := by omega
   have ew : W64 ((n : Int) + (i : Int)) = ((n + i : Nat) : Int) := by rw [wrap64 (by omega) (by omega)]; omega
   rw [ew]
   refine Di λ w2 e2 _ => Oj (hs.ext (e1.trans e2)) (by omega) (b := l[n + i]) (by rw [Int.toNat_natCast]; simp [hil]) λ p => Oj (ht.ext (e1.trans e2)) (by omega) (b := m[i]) (by rw [Int.toNat_natCast]; simp [him]) λ q => ?_
   have g1 : (l.drop n)[i]? = some l[n + i] := by rw [List.getElem?_drop]; simp [hil]
   refine Ac (λ hne => ?_) (λ hne => ?_)
   ·simp only [bne_iff_ne] at hne
    have := hK w2 (e1.trans e2)
    rw [decide_eq_false] at this
    ·exact this
    ·intro hc2
     have h5 : ((l.drop n).take m.length)[i]? = m[i]? := by rw [hc2]
     rw [List.getElem?_take, if_pos him, g1, List.getElem?_eq_getElem him] at h5
     exact hne (by rw [Option.some.inj h5])
   ·have hne' : ((l[n + i].toNat : Int) != (m[i].toNat : Int)) = false := hne
    simp only [bne_eq_false_iff_eq] at hne'
    have hbe : l[n + i] = m[i] := UInt8.toNat_inj.1 (by omega)
    have ew2 : W64 ((i : Int) + 1) = ((i + 1 : Nat) : Int) := by rw [wrap64 (by omega) (by omega)]; omega
    refine ⟨⟨i + 1, by omega, by rw [ew2], e1.trans e2, ?_⟩, ?_⟩
    ·rw [List.take_add_one, List.take_add_one, heq, g1, List.getElem?_eq_getElem him, hbe]
    ·dsimp only
     rw [ew2]; omega
  ·simp only [decide_eq_false_iff_not] at hc
   have : i = m.length := by omega
   subst this
   exact ⟨e1, by rw [heq, List.take_length]⟩
 ·rintro _ w1 ⟨e1, heq⟩
  have := hK w1 e1
  rwa [decide_eq_true heq] at this
theorem Bd2 : ∀ (l : Bs) (a : Int), l.length <= 3 -> -1000 <= a -> a <= 1000 -> -1000000000 <= Zw a l /\ Zw a l <= 1000000000 := by
 intro l a hl h0 h1
 match l, hl with
 | [], _ => exact ⟨by show -1000000000 <= a; omega, by show a <= 1000000000; omega⟩
 | [x], _ => have := x.toNat_lt; exact ⟨by show _ <= a * 64 + (x.toNat : Int) - 128; omega, by show a * 64 + (x.toNat : Int) - 128 <= _; omega⟩
 | [x, y], _ => have := x.toNat_lt; have := y.toNat_lt; exact ⟨by show _ <= (a * 64 + (x.toNat : Int) - 128) * 64 + (y.toNat : Int) - 128; omega, by show (a * 64 + (x.toNat : Int) - 128) * 64 + (y.toNat : Int) - 128 <= _; omega⟩
 | [x, y, z], _ => have := x.toNat_lt; have := y.toNat_lt; have := z.toNat_lt; exact ⟨by show _ <= ((a * 64 + (x.toNat : Int) - 128) * 64 + (y.toNat : Int) - 128) * 64 + (z.toNat : Int) - 128; omega, by show ((a * 64 + (x.toNat : Int) - 128) * 64 + (y.toNat : Int) - 128) * 64 + (z.toNat : Int) - 128 <= _; omega⟩
theorem Bp1 (a : Int) (l : Bs) (x : UInt8) : Zw a (l ++ [x]) = Zw a l * 64 + (x.toNat : Int) - 128 := by simp [Zw]
theorem Bb9 {s : Sl} {b : UInt8} {l r : Bs} {n m : Nat} {ty : TypeId} (hs : Bh w s ty 1 (bv l)) (hl : l.length < 2 ^ 60) (hr : l.drop n = b :: r) (hm0 : 1 <= m) (hm4 : m <= 4) (hm : n + m <= l.length) {K : Int -> Wp} (hK : ∀ w', Ext w w' -> K (Gs m (b :: r)) w') :
  Aa Tryz.prog 168 #[s.v, .int .i64 (n : Int), .int .i64 (m : Int)] rI K w := by
 refine Do4 ?_
 unfold F168
 have h1 := Sz hs
 have hb := b.toNat_lt
 have hnl : n < l.length := by omega
 have hrl : r.length = l.length - n - 1 := by
  have := congrArg List.length hr
  rw [List.length_drop, List.length_cons] at this; omega
 have g0 : l[n]? = some b := by
  have := congrArg (λ x => x[0]?) hr
  simp only [List.getElem?_drop, List.getElem?_cons_zero, Nat.add_zero] at this
  exact this
 have gi : ∀ i, l[n + (i + 1)]? = r[i]? := λ i => by
  have := congrArg (λ x => x[i + 1]?) hr
  simp only [List.getElem?_drop, List.getElem?_cons_succ] at this
  exact this
 refine (St.start w).Ku rfl rfl rfl λ b1 w1 S1 e1 => S1.drew λ w2 S2 e2 _ => Oj (hs.ext S2.upd) (by omega) (b := b) (by rw [Int.toNat_natCast]; exact g0) λ p => Bq (by omega) ?_
 rw [addr_add, Dx, Int.toNat_natCast]
 have hlead : (#[(.int .i64 (0 : Int)), (.int .i64 (0 : Int)), (.int .i64 (192 : Int)), (.int .i64 (224 : Int)), (.int .i64 (240 : Int))] : Array Value)[0 + m * 1]? = some (.int .i64 (Pm m)) := by
  match m, hm0, hm4 with
  | 1, _, _ => rfl
  | 2, _, _ => rfl
  | 3, _, _ => rfl
  | 4, _, _ => rfl
 have hlb : 0 <= Pm m /\ Pm m <= 240 := by unfold Pm; (repeat' split) <;> omega
 refine Cc (S2.at_ 0 rfl) (x := Pm m) hlead ?_
 rw [wrap64 (a := (b.toNat : Int)) (by omega) (by omega), wrap64 (a := (b.toNat : Int) - Pm m) (by omega) (by omega)]
 refine Ad (λ x w' => x = (Gs m (b :: r), ()) /\ Ext w w') ?_ ?_
 ·refine Ar (λ x w' => ∃ i : Nat, 1 <= i /\ i <= m /\ x = (Zw ((b.toNat : Int) - Pm m) (r.take (i - 1)), (i : Int), ()) /\ Ext w w') (λ x _ => ((m : Int) - x.2.1).toNat) ⟨1, by omega, by omega, rfl, S2.upd⟩ ?_
  rintro _ w3 ⟨i, hi1, him, rfl, e3⟩
  refine Ac (λ hc => ?_) (λ hc => ?_)
  ·simp only [decide_eq_true_eq] at hc
   have ew : W64 ((n : Int) + (i : Int)) = ((n + i : Nat) : Int) := by rw [wrap64 (by omega) (by omega)]; omega
   rw [ew]
   have hil : n + i < l.length := by omega
   refine Oj (hs.ext e3) (by omega) (b := l[n + i]) (by rw [Int.toNat_natCast]; simp [hil]) λ q => ?_
   have hxb := l[n + i].toNat_lt
   have hg : r[i - 1]? = some l[n + i] := by
    rw [← gi (i - 1), show n + (i - 1 + 1) = n + i by omega]; simp [hil]
   have hbd := Bd2 (r.take (i - 1)) ((b.toNat : Int) - Pm m) (by rw [List.length_take]; omega) (by omega) (by omega)
   have hsn : Zw ((b.toNat : Int) - Pm m) (r.take (i + 1 - 1)) = Zw ((b.toNat : Int) - Pm m) (r.take (i - 1)) * 64 + (l[n + i].toNat : Int) - 128 := by
    rw [show i + 1 - 1 = (i - 1) + 1 by omega, List.take_add_one, hg]
    exact Bp1 _ _ _
   have ew2 : W64 ((i : Int) + 1) = ((i + 1 : Nat) : Int) := by rw [wrap64 (by omega) (by omega)]; omega
   rw [wrap64 (a := Zw ((b.toNat : Int) - Pm m) (r.take (i - 1)) * 64) (by omega) (by omega), wrap64 (a := (l[n + i].toNat : Int)) (by omega) (by omega), wrap64 (a := Zw ((b.toNat : Int) - Pm m) (r.take (i - 1)) * 64 + (l[n + i].toNat : Int)) (by omega) (by omega), wrap64 (a := Zw ((b.toNat : Int) - Pm m) (r.take (i - 1)) * 64 + (l[n + i].toNat : Int) - 128) (by omega) (by omega), ew2]
   refine ⟨⟨i + 1, by omega, by omega, ?_, e3⟩, ?_⟩
   ·rw [hsn]
   ·dsimp only; omega
  ·simp only [decide_eq_false_iff_not] at hc
   have : i = m := by omega
   subst this
   exact ⟨rfl, e3⟩
 ·rintro _ w3 ⟨rfl, e3⟩
  exact hK w3 e3
theorem An1 {s : Sl} {l : Bs} {n : Nat} {ty : TypeId} (hs : Bh w s ty 1 (bv l)) (hl : l.length < 2 ^ 60) (hn : n < l.length) {K : Int × Int × Unit -> Wp} (hK : ∀ w', Ext w w' -> K ((nx8 (l.drop n)).1, ((nx8 (l.drop n)).2 : Nat), ()) w') :
  Aa Tryz.prog 111 #[s.v, .int .i64 (n : Int)] (.tup [(.one (.int .i64)), (.one (.int .i64))]) K w := by
 refine Ds5 ?_
 unfold F111
 have h1 := Sz hs
 obtain ⟨b, r, hr⟩ : ∃ b r, l.drop n = b :: r := ⟨_, _, List.drop_eq_getElem_cons hn⟩
 have hb := b.toNat_lt
 have hrl : r.length = l.length - n - 1 := by
  have := congrArg List.length hr
  rw [List.length_drop, List.length_cons] at this; omega
 have g0 : l[n]? = some b := by
  have := congrArg (λ x => x[0]?) hr
  simp only [List.getElem?_drop, List.getElem?_cons_zero, Nat.add_zero] at this
  exact this
 rw [hr] at hK
 have hsz := Y7 b r
 refine Ad (λ _ w' => Ext w w' /\ ¬ 0 <= (nx8 (b :: r)).1) ?_ ?_
 ·refine Ar (λ x w' => ∃ i : Nat, 1 <= i /\ i <= 5 /\ x = ((i : Int), ()) /\ Ext w w' /\ (0 <= (nx8 (b :: r)).1 -> i <= (nx8 (b :: r)).2)) (λ x _ => ((5 : Int) - x.1).toNat) ⟨1, by omega, by omega, rfl, Ext.refl w, λ _ => hsz.1⟩ ?_
  rintro _ w1 ⟨i, hi1, hi5, rfl, e1, hno⟩
  refine Ad (λ x w' => x = (decide (i <= 4 /\ n + i <= l.length), ()) /\ w1 = w') ?_ ?_
  ·refine Ac (λ h => ⟨Az ?_, rfl⟩) (λ h => ⟨Az ?_, rfl⟩)
   ·simp only [decide_eq_true_eq] at h ⊢
    rw [wrap64 (by omega) (by omega)]; omega
   ·simp only [decide_eq_false_iff_not, decide_eq_true_eq] at h ⊢
    exact ⟨(λ h => by cases h), λ h => by omega⟩
  rintro _ w2 ⟨rfl, rfl⟩
  refine Ac (λ h => ?_) (λ h => ?_)
  ·simp only [decide_eq_true_eq] at h
   have ew : W64 ((i : Int) + 1) = ((i + 1 : Nat) : Int) := by rw [wrap64 (by omega) (by omega)]; omega
   refine Ad (λ _ w' => Ext w w' /\ ¬ Hit (b :: r) i) ?_ ?_
   ·refine Bb9 (hs.ext e1) hl hr hi1 h.1 h.2 λ w3 e3 => ?_
    refine Xu (λ hS => Ac (λ h => by cases h) (λ _ => ?_)) (λ hS => Ac (λ _ => ⟨e1.trans e3, λ hh => hS hh.1⟩) (λ h => by cases h))
    refine Ab1 hS λ t w4 ht e4 => ?_
    have hpl : (pt8 (Gs i (b :: r))).length <= 4 := by
     have hne : sz8 (Gs i (b :: r)) ≠ 0 /\ sz8 (Gs i (b :: r)) <= 4 := by
      unfold sz8
      rw [if_neg (by rcases hS with h | h <;> omega)]
      repeat' split
      all_goals decide
     have := Zh .u8 _ hne.1
     show (pt .u8 _).length <= 4
     rw [this]; exact hne.2
    refine Aw5 (hs.ext ((e1.trans e3).trans e4)) ht (by omega) hl (by omega) λ w5 e5 => ?_
    rw [hr]
    have htl := Sz ht
    have e15 := ((e1.trans e3).trans e4).trans e5
    refine Ad (λ x w' => (x.1 = true ↔ Hit (b :: r) i) /\ w5 = w') ?_ ?_
    ·refine Ac (λ h => ⟨?_, rfl⟩) (λ h => ⟨?_, rfl⟩)
     ·simp only [beq_iff_eq] at h
      simp only [decide_eq_true_eq]
      exact ⟨λ hh => ⟨hS, hh, by omega⟩, λ hh => hh.2.1⟩
     ·simp only [beq_eq_false_iff_ne] at h
      exact ⟨(λ h => by cases h), λ hh => by have := hh.2.2; omega⟩
    rintro ⟨x, _⟩ w6 ⟨hx, rfl⟩
    refine Ac (λ hh => ?_) (λ hh => ⟨e15, λ hit => by have h1 := hx.2 hit; have h2 : x = false := hh; rw [h2] at h1; cases h1⟩)
    have hit := hx.1 hh
    have := hK w5 e15
    rw [Co2 hit] at this
    exact this
   ·rintro _ w3 ⟨e3, hno2⟩
    refine ⟨⟨i + 1, by omega, by omega, by rw [ew], e3, λ h0 => ?_⟩, ?_⟩
    ·have := hno h0
     rcases Nat.lt_or_ge i (nx8 (b :: r)).2 with h2 | h2
     ·omega
     ·have : i = (nx8 (b :: r)).2 := by omega
      subst this
      exact absurd (Cn0 h0).1 hno2
    ·dsimp only
     rw [ew]; omega
  ·simp only [decide_eq_false_iff_not] at h
   refine ⟨e1, λ h0 => h ?_⟩
   have h2 := hno h0
   have h3 := hsz.2.1
   rw [List.length_cons] at h3
   omega
 ·rintro _ w1 ⟨e1, hneg⟩
  refine Oj (hs.ext e1) (by omega) (b := b) (by rw [Int.toNat_natCast]; exact g0) λ p => ?_
  have := hK w1 e1
  rw [Bv1 hneg] at this
  rw [wrap64 (a := (b.toNat : Int)) (by omega) (by omega), wrap64 (by omega) (by omega)]
  exact this
theorem Bt8 {e : Enc} {s : Sl} {l : Bs} {n : Nat} {ty : TypeId} (hs : Bh w s ty 1 (bv l)) (hl : l.length < 2 ^ 59) (hn : n < l.length) {K : Int × Int × Unit -> Wp} (hK : ∀ w', Ext w w' -> K ((nx e (l.drop n)).1, ((nx e (l.drop n)).2 : Nat), ()) w') :
  Aa Tryz.prog 58 #[.int .i64 e.num, s.v, .int .i64 (n : Int)] (.tup [(.one (.int .i64)), (.one (.int .i64))]) K w := by
 refine A58 ?_
 unfold F58
 have h1 := Sz hs
 obtain ⟨b, r, hr⟩ : ∃ b r, l.drop n = b :: r := ⟨_, _, List.drop_eq_getElem_cons hn⟩
 have hb := b.toNat_lt
 have g0 : l[n]? = some b := by
  have := congrArg (λ x => x[0]?) hr
  simp only [List.getElem?_drop, List.getElem?_cons_zero, Nat.add_zero] at this
  exact this
 have six : ∀ be : Bool, e.num = (if be then 3 else 2) -> nx e = Ic be ->
   Aa Tryz.prog 112 #[.int .i64 e.num, s.v, .int .i64 (n : Int)] rI (λ (x4 : Int) => sif (decide (x4 < (0 : Int))) (
    ix s.a s.len (n : Int) λ p5 =>
    ld (.int .u8) (p5.add (scaled (Int.toNat (n : Int)) 1)) λ (x6 : Int) =>
    K ((W64 ((-1 : Int) - (W64 x6))), (1 : Int), ())) (
    Aa Tryz.prog 112 #[(.int .i64 e.num), s.v, (.int .i64 (W64 ((n : Int) + (2 : Int))))] rI λ (x7 : Int) =>
    join (S := Bool × Unit) (λ J8 =>
     sif (decide (x4 >= (55296 : Int))) (
      sif (decide (x4 < (56320 : Int))) (
       sif (decide (x7 >= (56320 : Int))) (
        J8 ((decide (x7 < (57344 : Int))), ())) (
        J8 (false, ()))) (
       J8 (false, ()))) (
      J8 (false, ()))) λ (s9 : Bool × Unit) =>
    sif s9.1 (
     K ((W64 ((W64 ((W64 ((65536 : Int) + (W64 ((W64 (x4 - (55296 : Int))) * (1024 : Int))))) + x7)) - (56320 : Int))), (4 : Int), ())) (
     K (x4, (2 : Int), ())))) w := by
  intro be hbe hnx
  rw [hbe]
  rw [hnx] at hK
  refine V9 hs (by omega) (by omega) λ w1 e1 => ?_
  rw [hr] at hK ⊢
  have e2 : W64 ((n : Int) + 2) = ((n + 2 : Nat) : Int) := by rw [wrap64 (by omega) (by omega)]; omega
  rw [e2]
  cases r with
  | nil =>
   refine Ac (λ _ => ?_) (λ h => by cases h)
   refine Oj (hs.ext e1) (by omega) (b := b) (by rw [Int.toNat_natCast]; exact g0) λ p => ?_
   rw [wrap64 (a := (b.toNat : Int)) (by omega) (by omega), wrap64 (by omega) (by omega)]
   exact hK w1 e1
  | cons c r' =>
   have hc := c.toNat_lt
   have hu : un be b c < 65536 := by unfold un; split <;> omega
   have hx4 : unI be (b :: c :: r') = ((un be b c : Nat) : Int) := rfl
   refine Ac (λ h => by simp only [decide_eq_true_eq] at h; omega) (λ _ => ?_)
   refine V9 (hs.ext e1) (by omega) (by omega) λ w2 e3 => ?_
   have e12 := e1.trans e3
   have hd2 : l.drop (n + 2) = r' := by
    have := congrArg (List.drop 2) hr
    rw [List.drop_drop] at this
    simpa using this
   rw [hd2]
   refine Ad (λ x w' => (x.1 = true ↔ (un be b c / 1024 = 54 /\ ∃ d f r'', r' = d :: f :: r'' /\ un be d f / 1024 = 55)) /\ w2 = w') ?_ ?_
   ·have key : ∀ x7, x7 = unI be r' -> ((56320 <= x7 /\ x7 < 57344) ↔ ∃ d f r'', r' = d :: f :: r'' /\ un be d f / 1024 = 55) := by
     rintro x7 rfl
     match r' with
     | [] => exact ⟨λ h => by have h' : (56320 : Int) <= -1 := h.1; omega, by rintro ⟨d, f, r'', h, _⟩; cases h⟩
     | [d] => exact ⟨λ h => by have h' : (56320 : Int) <= -1 := h.1; omega, by rintro ⟨d, f, r'', h, _⟩; cases h⟩
     | d :: f :: r'' =>
      show ((56320 : Int) <= ((un be d f : Nat) : Int) /\ ((un be d f : Nat) : Int) < 57344) ↔ _
      constructor
      ·intro h; exact ⟨d, f, r'', rfl, by omega⟩
      ·rintro ⟨d', f', r3, h, hu⟩; cases h; omega
    have key' := key _ rfl
    refine Ac (λ h => Ac (λ h2 => Ac (λ h3 => ⟨?_, rfl⟩) (λ h3 => ⟨?_, rfl⟩)) (λ h2 => ⟨?_, rfl⟩)) (λ h => ⟨?_, rfl⟩)
    all_goals (try simp only [decide_eq_true_eq, decide_eq_false_iff_not, ge_iff_le] at h)
    all_goals (try simp only [decide_eq_true_eq, decide_eq_false_iff_not, ge_iff_le] at h2)
    all_goals (try simp only [decide_eq_true_eq, decide_eq_false_iff_not, ge_iff_le] at h3)
    all_goals (try simp only [decide_eq_true_eq])
    all_goals have hx4 : unI be (b :: c :: r') = ((un be b c : Nat) : Int) := rfl
    ·rw [← key']
     constructor
     ·intro h4; exact ⟨by clear key key'; omega, h3, h4⟩
     ·intro h4; exact h4.2.2
    ·rw [← key']
     exact ⟨(λ h => by cases h), λ h4 => absurd h4.2.1 h3⟩
    ·exact ⟨(λ h => by cases h), λ h4 => by have := h4.1; clear key key' h4; omega⟩
    ·exact ⟨(λ h => by cases h), λ h4 => by have := h4.1; clear key key' h4; omega⟩
   rintro ⟨x, _⟩ w3 ⟨hx, rfl⟩
   refine Ac (λ h => ?_) (λ h => ?_)
   ·obtain ⟨h54, d, f, r'', rfl, h55⟩ := hx.1 h
    have hd := d.toNat_lt; have hf := f.toNat_lt
    have hv : un be d f < 65536 := by unfold un; split <;> omega
    have := hK w2 e12
    show K ((W64 ((W64 ((W64 ((65536 : Int) + (W64 ((W64 (((un be b c : Nat) : Int) - (55296 : Int))) * (1024 : Int))))) + ((un be d f : Nat) : Int))) - (56320 : Int))), (4 : Int), ()) w2
    rw [wrap64 (a := ((un be b c : Nat) : Int) - 55296) (by omega) (by omega), wrap64 (a := (((un be b c : Nat) : Int) - 55296) * 1024) (by omega) (by omega), wrap64 (a := (65536 : Int) + _) (by omega) (by omega), wrap64 (a := (65536 : Int) + _ + _) (by omega) (by omega), wrap64 (by omega) (by omega)]
    have e4 : Ic be (b :: c :: d :: f :: r'') = (65536 + ((un be b c % 1024 * 1024 + un be d f % 1024 : Nat) : Int), 4) := by
     simp only [Ic]; rw [if_pos h54, if_pos h55]
    rw [e4] at this
    have e5 : (65536 : Int) + (((un be b c : Nat) : Int) - 55296) * 1024 + ((un be d f : Nat) : Int) - 56320 = 65536 + ((un be b c % 1024 * 1024 + un be d f % 1024 : Nat) : Int) := by omega
    rw [e5]
    exact this
   ·have h : ¬ (un be b c / 1024 = 54 /\ ∃ d f r'', r' = d :: f :: r'' /\ un be d f / 1024 = 55) := λ hh => by have h1 := hx.2 hh; have h2 : x = false := h; rw [h2] at h1; cases h1
    have := hK w2 e12
    have e4 : Ic be (b :: c :: r') = (((un be b c : Nat) : Int), 2) := by
     simp only [Ic]
     split
     ·rename_i h54
      split
      ·rename_i d f r''
       rw [if_neg (λ h55 => h ⟨h54, _, _, _, rfl, h55⟩)]
      ·rfl
     ·rfl
    rw [e4] at this
    exact this
 cases e with
 | u8 =>
  refine Ac (λ _ => ?_) (λ h => by cases h)
  exact An1 hs (by omega) hn λ w1 e1 => hK w1 e1
 | le => exact Ac (λ h => by cases h) (λ _ => Ac (λ h => by cases h) (λ _ => six false rfl rfl))
 | be => exact Ac (λ h => by cases h) (λ _ => Ac (λ h => by cases h) (λ _ => six true rfl rfl))
 | l1 =>
  refine Ac (λ h => by cases h) (λ _ => Ac (λ _ => ?_) (λ h => by cases h))
  refine Oj hs (by omega) (b := b) (by rw [Int.toNat_natCast]; exact g0) λ p => ?_
  rw [wrap64 (a := (b.toNat : Int)) (by omega) (by omega)]
  have := hK w (Ext.refl w)
  rw [hr] at this
  exact this
end
namespace Cdc
theorem Cn1 (b : UInt8) (r : Bs) : (nx8 (b :: r)).2 = sz8 (nx8 (b :: r)).1 := by
 by_cases h : 0 <= (nx8 (b :: r)).1
 ·exact (As0 h).2.2.symm
 ·have hb := b.toNat_lt
  have h128 : 128 <= b.toNat := by
   rcases Nat.lt_or_ge b.toNat 128 with u | u
   ·exfalso
    apply h
    have hr : (rowOf (b :: r)) = (1, 1) := by
     have : Em b.toNat = (1, 0, 0) \/ (Em b.toNat).1 = 1 := by
      right
      unfold Em
      rw [if_pos (by omega)]
     have h1 : (Em b.toNat).1 = 1 := by rcases this with h | h; rw [h]; exact h
     unfold rowOf
     dsimp only
     rw [h1, if_pos (by decide)]
    unfold nx8
    dsimp only
    rw [hr, if_neg (by decide)]
    exact Int.natCast_nonneg _
   ·exact u
  rw [Bv1 h]
  show 1 = sz8 _
  unfold sz8
  rw [if_neg (by omega), if_pos (by omega)]
theorem Bh8 (be : Bool) (b : UInt8) (r : Bs) : (Ic be (b :: r)).2 = Hf (Ic be (b :: r)).1 := by
 have hb := b.toNat_lt
 cases r with
 | nil =>
  show 1 = Hf (-1 - (b.toNat : Int))
  unfold Hf
  rw [if_neg (by omega), if_pos (by omega)]
 | cons c r =>
  have hc := c.toNat_lt
  have hu : un be b c < 65536 := by unfold un; split <;> omega
  have two : 2 = Hf ((un be b c : Nat) : Int) := by
   unfold Hf
   rw [if_neg (by omega), if_neg (by omega), if_pos (by omega)]
  unfold Ic
  dsimp only
  by_cases h1 : un be b c / 1024 = 54
  ·rw [if_pos h1]
   cases r with
   | nil => exact two
   | cons d r =>
    cases r with
    | nil => exact two
    | cons e r =>
     dsimp only
     by_cases h2 : un be d e / 1024 = 55
     ·rw [if_pos h2]
      show 4 = Hf _
      unfold Hf
      rw [if_neg (by omega), if_neg (by omega), if_neg (by omega)]
     ·rw [if_neg h2]; exact two
  ·rw [if_neg h1]; exact two
theorem Cr2 (e : Enc) {l : Bs} (h : l ≠ []) : (nx e l).2 = sz e (nx e l).1 := by
 obtain ⟨b, r, rfl⟩ : ∃ b r, l = b :: r := by
  cases l with
  | nil => exact absurd rfl h
  | cons b r => exact ⟨b, r, rfl⟩
 cases e with
 | u8 => exact Cn1 b r
 | le => exact Bh8 false b r
 | be => exact Bh8 true b r
 | l1 =>
  have hb := b.toNat_lt
  show 1 = sz1 ((b.toNat : Nat) : Int)
  unfold sz1
  rw [if_neg (by omega)]
def OkA (e : Enc) (A : As) : Prop := ∀ x ∈ A, x.2 = sz e x.1
theorem OkA.prs {e : Enc} {A : As} (h : OkA e A) : A = prs e (atoms A) := by
 induction A with
 | nil => rfl
 | cons x A ih =>
  show x :: A = (x.1, sz e x.1) :: _
  rw [← h x List.mem_cons_self]
  congr 1
  exact ih λ y hy => h y (List.mem_cons_of_mem _ hy)
theorem Ba8 (e : Enc) (l : List Int) : OkA e (prs e l) := by
 intro x hx
 obtain ⟨a, _, rfl⟩ := List.mem_map.1 hx
 rfl
theorem Bf5 (e : Enc) : ∀ (n : Nat) (l : Bs), l.length <= n -> OkA e (ats e l)
 | 0, l, h => by
  have : l = [] := List.length_eq_zero_iff.1 (by omega)
  subst this
  rw [Ir]
  intro x hx; cases hx
 | n + 1, l, h => by
  by_cases hl : l = []
  ·subst hl
   rw [Ir]
   intro x hx; cases hx
  ·rw [Jy e hl]
   have h1 := Rz e hl
   intro x hx
   rcases List.mem_cons.1 hx with rfl | hx
   ·exact Cr2 e hl
   ·exact Bf5 e n _ (by rw [List.length_drop]; omega) x hx
theorem Ac7 {e : Enc} {A : As} (h : OkA e A) : ∀ es : List LEd, OkA e (Df e A es)
 | [] => h
 | x :: r => by
  have ih := Ac7 h r
  intro y hy
  rw [Df, List.mem_append, List.mem_append] at hy
  rcases hy with (hy | hy) | hy
  ·exact ih y (List.mem_of_mem_take hy)
  ·exact Ba8 e _ y hy
  ·exact ih y (List.mem_of_mem_drop hy)
end Cdc
section
variable {w w' : World}
theorem Ba2 {e : Enc} {s : Sl} {l : Bs} {n : Nat} {ty : TypeId} (hs : Bh w s ty 1 (bv l)) (hl : l.length < 2 ^ 59) (hn : n < l.length) {K : Int × Int × Unit -> Wp} (hK : ∀ w', Ext w w' -> K ((nx e (l.drop n)).1, ((nx e (l.drop n)).2 : Nat), ()) w') :
  Aa Tryz.prog 21 #[.int .i64 e.num, s.v, .int .i64 (n : Int)] (.tup [(.one (.int .i64)), (.one (.int .i64))]) K w := by
 refine A21 ?_
 unfold F21
 have h1 := hs.len1
 rw [List.length_map] at h1
 have hcap := hs.le
 refine Bc4 (e := e) ?_
 refine Ad (λ x W => x = (false, ()) /\ w = W) (Am (Ac (λ hc => by simp only [decide_eq_true_eq] at hc; omega) (λ _ => ⟨Az ?_, rfl⟩))) ?_
 ·simp only [decide_eq_true_eq, ge_iff_le, Bool.false_eq_true, iff_false]; omega
 rintro _ _ ⟨rfl, rfl⟩
 refine Am (Cd5 hs (by omega) (by omega) (by omega) (by omega) (by omega) λ s' hs' hl' _ => ?_)
 have e1 : (l.drop ((n : Int)).toNat).take (((s.len : Nat) : Int).toNat - ((n : Int)).toNat) = l.drop n := by
  rw [Int.toNat_natCast, Int.toNat_natCast, List.take_of_length_le (by rw [List.length_drop]; omega)]
 rw [e1] at hs'
 refine Bt8 (n := 0) hs' (by rw [List.length_drop]; omega) (by rw [List.length_drop]; omega) λ w1 x1 => ?_
 rw [List.drop_zero]
 exact hK w1 x1
theorem X7 {e : Enc} {a : Int} {K : Bool -> Wp} (hK : K (sz e a != 0) w) : Aa Tryz.prog 73 #[.int .i64 e.num, .int .i64 a] rB K w := by
 refine A73 ?_
 unfold F73
 have key : ∀ b : Bool, (b = true ↔ sz e a ≠ 0) -> K b w := λ b hb => by
  have : b = (sz e a != 0) := by rw [Bool.eq_iff_iff, bne_iff_ne]; exact hb
  rw [this]; exact hK
 cases e with
 | u8 =>
  have k8 : sz .u8 a ≠ 0 ↔ Scalar a \/ (a <= -129 /\ -256 <= a) := by
   show sz8 a ≠ 0 ↔ _
   unfold sz8 Scalar
   split
   ·constructor
    ·intro h; exact absurd rfl h
    ·intro h; omega
   ·constructor
    ·intro _; omega
    ·intro _; split <;> (try split) <;> (try split) <;> omega
  refine Bo (Xu (λ hs => Bo (key _ ?_)) (λ hs => Am (Ac (λ h1 => key _ ?_) (λ h1 => key _ ?_))))
  ·rw [k8]; exact ⟨λ _ => .inl hs, λ _ => rfl⟩
  ·simp only [decide_eq_true_eq] at h1
   rw [k8]
   simp only [decide_eq_true_eq, ge_iff_le]
   exact ⟨λ h => .inr ⟨h1, h⟩, λ h => by rcases h with h | h; exact absurd h hs; exact h.2⟩
  ·simp only [decide_eq_false_iff_not] at h1
   rw [k8]
   simp only [Bool.false_eq_true, false_iff]
   intro h
   rcases h with h | h
   ·exact hs h
   ·exact h1 h.1
 | le =>
  have k16 : sz .le a ≠ 0 ↔ -256 <= a /\ a <= 1114111 := by
   show Hf a ≠ 0 ↔ _
   unfold Hf; (repeat' split) <;> omega
  refine Am (Ad (λ x W => x = (true, ()) /\ w = W) (Bo ⟨rfl, rfl⟩) ?_)
  rintro _ _ ⟨rfl, rfl⟩
  refine Bo (Ac (λ h1 => key _ ?_) (λ h1 => key _ ?_))
  ·simp only [decide_eq_true_eq, ge_iff_le] at h1
   rw [k16, decide_eq_true_eq]; exact ⟨λ h => ⟨h1, h⟩, λ h => h.2⟩
  ·simp only [decide_eq_false_iff_not, ge_iff_le] at h1
   rw [k16]; simp only [Bool.false_eq_true, false_iff]; exact λ h => h1 h.1
 | be =>
  have k16 : sz .be a ≠ 0 ↔ -256 <= a /\ a <= 1114111 := by
   show Hf a ≠ 0 ↔ _
   unfold Hf; (repeat' split) <;> omega
  refine Am (Ad (λ x W => x = (true, ()) /\ w = W) (Am ⟨rfl, rfl⟩) ?_)
  rintro _ _ ⟨rfl, rfl⟩
  refine Bo (Ac (λ h1 => key _ ?_) (λ h1 => key _ ?_))
  ·simp only [decide_eq_true_eq, ge_iff_le] at h1
   rw [k16, decide_eq_true_eq]; exact ⟨λ h => ⟨h1, h⟩, λ h => h.2⟩
  ·simp only [decide_eq_false_iff_not, ge_iff_le] at h1
   rw [k16]; simp only [Bool.false_eq_true, false_iff]; exact λ h => h1 h.1
 | l1 =>
  have k1 : sz .l1 a ≠ 0 ↔ 0 <= a /\ a <= 255 := by
   show sz1 a ≠ 0 ↔ _
   unfold sz1; (repeat' split) <;> omega
  refine Am (Ad (λ x W => x = (false, ()) /\ w = W) (Am ⟨rfl, rfl⟩) ?_)
  rintro _ _ ⟨rfl, rfl⟩
  refine Am (Bo (Ac (λ h1 => key _ ?_) (λ h1 => key _ ?_)))
  ·simp only [decide_eq_true_eq, ge_iff_le] at h1
   rw [k1, decide_eq_true_eq]; exact ⟨λ h => ⟨h1, h⟩, λ h => h.2⟩
  ·simp only [decide_eq_false_iff_not, ge_iff_le] at h1
   rw [k1]; simp only [Bool.false_eq_true, false_iff]; exact λ h => h1 h.1
theorem two_bytes {b : Nat} {x y : Int} {w : World} (h : w.heap[b]? = some (.cells #[.int .u8 (IntKind.wrap .u8 x), .int .u8 (IntKind.wrap .u8 y)] 5 (0, 0))) : Bh w ⟨some (at0 b), 2, 2⟩ 5 1 ([IntKind.wrap .u8 x, IntKind.wrap .u8 y].map (Cell.int .u8).val) := Bh.Iw h (n := 2) (sz := 1) rfl
theorem Xf {e : Int} {u : Int} {K : Sl -> Wp} (hK : ∀ s x y w', s.len = 2 -> Bh w' s 5 1 ([x, y].map (Cell.int .u8).val) -> Ext w w' -> K s w') : Aa Tryz.prog 124 #[.int .i64 e, .int .i64 u] rS K w := by
 refine Dr4 ?_
 unfold F124
 refine Ac (λ _ => Bq (by decide) (Bq (by decide) (Cm λ b w1 e1 n1 _ _ => hK _ _ _ w1 rfl (two_bytes n1) e1))) (λ _ => Bq (by decide) (Bq (by decide) (Cm λ b w1 e1 n1 _ _ => hK _ _ _ w1 rfl (two_bytes n1) e1)))
theorem X0 {e : Enc} {a : Int} {K : Int -> Wp} (hK : ∀ w', Ext w w' -> K (sz e a : Int) w') : Aa Tryz.prog 29 #[.int .i64 e.num, .int .i64 a] rI K w := by
 refine A29 ?_
 unfold F29
 refine X7 ?_
 by_cases h0 : sz e a = 0
 ·rw [h0]
  refine Bo ?_
  have := hK w (Ext.refl w)
  rw [h0] at this; exact this
 have hne : (sz e a != 0) = true := by rw [bne_iff_ne]; exact h0
 rw [hne]
 refine Am ?_
 refine A74 ?_
 unfold F74
 have fin : ∀ (s : Sl) (w1 : World), s.len = sz e a -> Ext w w1 -> K ((s.len : Nat) : Int) w1 := λ s w1 hl x => by rw [hl]; exact hK w1 x
 refine Ac (λ h => Cm λ b w1 e1 n1 _ _ => fin _ w1 ?_ e1) (λ h => ?_)
 ·simp only [decide_eq_true_eq] at h
  show 1 = _
  cases e with
  | u8 => show 1 = sz8 a; have h0 : sz8 a ≠ 0 := h0; unfold sz8 at h0 ⊢; split at h0; exact absurd rfl h0; rename_i hh; rw [if_neg hh, if_pos (by omega)]
  | le => show 1 = Hf a; have h0 : Hf a ≠ 0 := h0; unfold Hf at h0 ⊢; split at h0; exact absurd rfl h0; rename_i hh; rw [if_neg hh, if_pos (by omega)]
  | be => show 1 = Hf a; have h0 : Hf a ≠ 0 := h0; unfold Hf at h0 ⊢; split at h0; exact absurd rfl h0; rename_i hh; rw [if_neg hh, if_pos (by omega)]
  | l1 => have h0 : sz1 a ≠ 0 := h0; unfold sz1 at h0; rw [if_pos (by omega)] at h0; exact absurd rfl h0
 simp only [decide_eq_false_iff_not] at h
 have six : ∀ be : Bool, sz e a = Hf a ->
   sif (decide (a >= (65536 : Int))) (
     chk ((1024 : Int) ≠ 0) <|
     Aa Tryz.prog 124 #[(.int .i64 e.num), (.int .i64 (W64 ((55296 : Int) + (W64 (Int.tdiv (W64 (a - (65536 : Int))) (1024 : Int))))))] rS λ (x4 : Sl) =>
     chk ((1024 : Int) ≠ 0) <|
     Aa Tryz.prog 124 #[(.int .i64 e.num), (.int .i64 (W64 ((56320 : Int) + (Int.tmod a (1024 : Int)))))] rS λ (x5 : Sl) =>
     drew <|
     ix x4.a x4.len (0 : Int) λ p6 =>
     ld (.int .u8) (p6.add (scaled (Int.toNat (0 : Int)) 1)) λ (x7 : Int) =>
     ix x4.a x4.len (1 : Int) λ p8 =>
     ld (.int .u8) (p8.add (scaled (Int.toNat (1 : Int)) 1)) λ (x9 : Int) =>
     ix x5.a x5.len (0 : Int) λ p10 =>
     ld (.int .u8) (p10.add (scaled (Int.toNat (0 : Int)) 1)) λ (x11 : Int) =>
     ix x5.a x5.len (1 : Int) λ p12 =>
     ld (.int .u8) (p12.add (scaled (Int.toNat (1 : Int)) 1)) λ (x13 : Int) =>
     Af (.cells #[(.int .u8 x7), (.int .u8 x9), (.int .u8 x11), (.int .u8 x13)] 5) λ b14 =>
     K (((⟨(some (at0 b14)), 4, 4⟩ : Sl).len : Nat) : Int)) (
     Aa Tryz.prog 124 #[(.int .i64 e.num), (.int .i64 a)] rS λ (x15 : Sl) =>
     K ((x15.len : Nat) : Int)) w := by
  intro be hsz
  have h6 : Hf a ≠ 0 := by rw [← hsz]; exact h0
  refine Ac (λ hc => ?_) (λ hc => Xf λ s x y w1 hl _ e1 => fin s w1 ?_ e1)
  ·simp only [decide_eq_true_eq, ge_iff_le] at hc
   refine Bq (by decide) (Xf λ s4 x4 y4 w1 hl4 h4 e1 => Bq (by decide) (Xf λ s5 x5 y5 w2 hl5 h5 e2 => Di λ w3 e3 _ => ?_))
   have h4' := (h4.ext e2).ext e3
   have h5' := h5.ext e3
   refine Gl (c := .int .u8) (xs := [x4, y4]) h4' (Int.le_refl 0) rfl λ p6 => Gl (c := .int .u8) (xs := [x4, y4]) h4' (by decide) rfl λ p8 => Gl (c := .int .u8) (xs := [x5, y5]) h5' (Int.le_refl 0) rfl λ p10 => Gl (c := .int .u8) (xs := [x5, y5]) h5' (by decide) rfl λ p12 => Cm λ b w4 e4 n4 _ _ => fin ⟨some (at0 b), 4, 4⟩ w4 ?_ (((e1.trans e2).trans e3).trans e4)
   show 4 = _
   rw [hsz]
   unfold Hf at h6 ⊢
   split at h6
   ·exact absurd rfl h6
   ·rename_i hh; rw [if_neg hh, if_neg (by omega), if_neg (by omega)]
  ·simp only [decide_eq_false_iff_not, ge_iff_le] at hc
   rw [hl, hsz]
   unfold Hf at h6 ⊢
   split at h6
   ·exact absurd rfl h6
   ·rename_i hh; rw [if_neg hh, if_neg (by omega), if_pos (by omega)]
 cases e with
 | u8 =>
  have h8 : sz8 a ≠ 0 := h0
  have hsc : Scalar a := by
   unfold sz8 at h8
   split at h8
   ·exact absurd rfl h8
   ·unfold Scalar; omega
  refine Bo (Ab1 hsc λ s w1 hs e1 => fin s w1 ?_ e1)
  have := hs.len1
  rw [List.length_map] at this
  rw [← this]
  exact Zh .u8 a h0
 | le => exact Am (Am (six false rfl))
 | be => exact Am (Am (six true rfl))
 | l1 =>
  refine Am (Bo (Cm λ b w1 e1 n1 _ _ => fin _ w1 ?_ e1))
  show 1 = sz1 a
  have h1 : sz1 a ≠ 0 := h0
  unfold sz1 at h1 ⊢
  split at h1
  ·exact absurd rfl h1
  ·rename_i hh; rw [if_neg hh]
end
section
variable {w w' : World}
theorem push {r : Sl} {l : List Int} {v : Int} {b N : Nat} {K : Sl -> Wp} (hr : Ap w N r 3 1 (iv l)) (hb : w.heap[b]? = some (.cells #[.int .i64 v] 3 (0, 0))) (hl : l.length < 2 ^ 40) (hN : N <= w.heap.size)
  (hK : ∀ r' w', Ap w' N r' 3 1 (iv (l ++ [v])) -> Upd r.blk w w' -> K r' w') :
  Dz Tryz.prog (.one (.one .sl)) (Builtin.append_ #[43, 43] 43 #[.slice r.a r.len r.cap, .slice (some (at0 b)) 1 1]) K w := by
 have hrl := hr.len1
 rw [List.length_map] at hrl
 refine Ej Xa Xa.ts_ (x := ⟨some (at0 b), 1, 1⟩) hr (Am6 hb) (λ v hv => by rw [List.mem_singleton.1 hv]; rfl) (by
  show (r.len + 1 + (r.len + 1) / 4 + 512) * 8 <= 2 ^ 48
  omega) hN λ r' w' o l' u k => hK r' w' ?_ u
 have : iv (l ++ [v]) = iv l ++ [.int .i64 v] := by simp
 rw [this]; exact o
end
end Go.Proofs.YtolhlldgnfbemaaGreatDoor
namespace Go.Proofs.YtolhlldgnfbemaaGreatDoor
open Go Go.Vx
def F12 (a0 : Int) (a1 : Sl) (a2 : Int) (K : (Option Addr × Int × Unit) -> Wp) : Wp := jB (λ J1 => sif (decide (a0 < 1)) ( J1 (true, ())) ( J1 ((decide (a0 > 4)), ()))) λ s2 => sif s2.1 ( K (none, 10, ())) ( jB (λ J3 => sif (decide (a2 < 0)) ( J3 (true, ())) ( J3 ((decide (a2 > 65536)), ()))) λ s4 => sif s4.1 ( K (none, 1, ())) ( sif (decide (((a1.len : Nat) : Int) > a2)) ( K (none, 50, ())) ( Af (.cells #[(vI a0), (vI a2), (.slice none 0 0), (.slice none 0 0), (.slice none 0 0)] 46) λ b5 => jU (λ J6 => sI (λ s8 again9 => sif (decide (s8.1 < ((a1.len : Nat) : Int))) ( Aa Tryz.prog 21 #[(vI a0), a1.v, (vI s8.1)] (.tup [(.one cI), (.one cI)]) λ (x10 : (Int × Int × Unit)) => sif (decide (x10.2.1 < 1)) ( J6 ()) ( nn (some (at0 b5)) λ p11 => ld (.sl) (p11.add 2) λ (x12 : Sl) => Af (.cells #[(vI x10.1)] 3) λ b13 => Dz Tryz.prog rS (Builtin.append_ #[43, 43] 43 #[x12.v, (.slice (some (at0 b13)) 1 1)]) λ (x14 : Sl) => nn (some (at0 b5)) λ p15 => stC (p15.add 2) x14.v <| nn (some (at0 b5)) λ p16 => ld (.sl) (p16.add 3) λ (x17 : Sl) => Af (.cells #[(vI s8.1)] 3) λ b18 => Dz Tryz.prog rS (Builtin.append_ #[43, 43] 43 #[x17.v, (.slice (some (at0 b18)) 1 1)]) λ (x19 : Sl) => nn (some (at0 b5)) λ p20 => stC (p20.add 3) x19.v <| again9 ((W64 (s8.1 + x10.2.1)), ()))) ( J6 ())) (0, ())) λ s7 => K ((some (at0 b5)), 0, ()))))
def h12 : Hint := (hS (hR 2) (hS (hJ (258048, [(17, tB)]) (.region [] (.ops 3 (.split 14 (.skips 2 (hO 1)) (hO 3)))) (hC (hS (hR 2) hL) hL)) (hS (hJ (0xfc0000, [(23, tB)]) (.region [] (.ops 3 (.split 20 (.skips 2 (hO 1)) (hO 3)))) (hC (hS (hR 2) hL) hL)) (hS (hS (hR 4) (hC (hS (hR 2) hL) hL)) (hS (hR 5) (hS (hR 1) (hJ (0xfffffffff00000e00, []) (.block (.loop 0xfffffffff00000e00 [(9, tI)] (hS (hS (hR 4) (hC hL hL)) (.block (hS (hR 9) (hS (hS (hR 2) (hC hL hL)) (hS (hR 11) (hS (hR 11) (hR 4))))))))) (hS (hR 3) hL))))))))
theorem A12 {a0 : Int} {a1 : Sl} {a2 : Int} {K : (Option Addr × Int × Unit) -> Wp} {w : World} (h : F12 a0 a1 a2 K w) : Aa Tryz.prog 12 #[(vI a0), a1.v, (vI a2)] (.tup [(.one .ptr), (.one cI)]) K w := tied Ai Tryz.func12 h12 _ h
def F16 (a0 : Option Addr) (a1 : Sl) (K : Int -> Wp) : Wp := cN 28 #[(.pointer a0), a1.v] λ x1 => sif (x1 != 0) ( K x1) ( jU (λ J2 => sN (λ s4 again5 => sif (decide (s4.2.1 < ((a1.len : Nat) : Int))) ( jI (λ J6 => sN (λ s8 again9 => ixf (.sl) a1 s4.2.1 3 2 λ (x11 : Sl) => sif (decide (s8.2.1 < ((x11.len : Nat) : Int))) ( drew <| nn a0 λ p12 => lI p12 λ x13 => ixf (.sl) a1 s4.2.1 3 2 λ (x15 : Sl) => ixI x15 s8.2.1 1 λ x17 => cN 29 #[(vI x13), (vI x17)] λ x18 => nn a0 λ p19 => ld cI (p19.add 1) λ (x20 : Int) => sif (decide ((W64 (s8.1 + x18)) > x20)) ( K 50) ( again9 ((W64 (s8.1 + x18)), (W64 (s8.2.1 + 1)), ()))) ( J6 (s8.1, ()))) (s4.1, 0, ())) λ s7 => again5 (s7.1, (W64 (s4.2.1 + 1)), ())) ( J2 ())) (0, 0, ())) λ s3 => drew <| nn a0 λ p21 => lI p21 λ x22 => nn a0 λ p23 => ld cI (p23.add 1) λ (x24 : Int) => Af (.cells #[(vI x22), (vI x24), (.slice none 0 0), (.slice none 0 0), (.slice none 0 0)] 46) λ b25 => jU (λ J26 => Ho (S := Int × Int × Int × Unit) (λ s28 again29 => nn a0 λ p30 => ld (.sl) (p30.add 2) λ (x31 : Sl) => sif (decide (s28.2.2.1 <= ((x31.len : Nat) : Int))) ( jN (λ J32 => jN (λ J34 => sN (λ s36 again37 => jB (λ J38 => sif (decide (s36.1 < ((a1.len : Nat) : Int))) ( ixI a1 s36.1 3 λ x41 => J38 ((x41 == s28.2.2.1), ())) ( J38 (false, ()))) λ s39 => sif s39.1 ( jU (λ J42 => sI (λ s44 again45 => ixf (.sl) a1 s36.1 3 2 λ (x47 : Sl) => sif (decide (s44.1 < ((x47.len : Nat) : Int))) ( drew <| nn (some (at0 b25)) λ p48 => ld (.sl) (p48.add 2) λ (x49 : Sl) => ixf (.sl) a1 s36.1 3 2 λ (x51 : Sl) => ixI x51 s44.1 1 λ x53 => Af (.cells #[(vI x53)] 3) λ b54 => keep (λ w => w.cell? (p48.add 2) = some (Cell.val (.sl) x49)) <| Dz Tryz.prog rS (Builtin.append_ #[43, 43] 43 #[x49.v, (.slice (some (at0 b54)) 1 1)]) λ (x55 : Sl) => nn (some (at0 b25)) λ p56 => stC (p56.add 2) x55.v <| nn (some (at0 b25)) λ p57 => ld (.sl) (p57.add 3) λ (x58 : Sl) => Af (.cells #[(vI (-1))] 3) λ b59 => Dz Tryz.prog rS (Builtin.append_ #[43, 43] 43 #[x58.v, (.slice (some (at0 b59)) 1 1)]) λ (x60 : Sl) => nn (some (at0 b25)) λ p61 => stC (p61.add 3) x60.v <| again45 ((W64 (s44.1 + 1)), ())) ( J42 ())) (0, ())) λ s43 => ixf cI a1 s36.1 3 1 λ (x63 : Int) => again37 ((W64 (s36.1 + 1)), x63, ())) ( J34 (s36.1, s36.2.1, ()))) (s28.1, s28.2.1, ())) λ s35 => jB (λ J64 => nn a0 λ p66 => ld (.sl) (p66.add 2) λ (x67 : Sl) => sif (decide (s28.2.2.1 < ((x67.len : Nat) : Int))) ( J64 ((decide (s28.2.2.1 >= s35.2.1)), ())) ( J64 (false, ()))) λ s65 => sif s65.1 ( drew <| nn (some (at0 b25)) λ p68 => ld (.sl) (p68.add 2) λ (x69 : Sl) => nn a0 λ p70 => ld (.sl) (p70.add 2) λ (x71 : Sl) => ixI x71 s28.2.2.1 1 λ x73 => Af (.cells #[(vI x73)] 3) λ b74 => keep (λ w => w.cell? (p68.add 2) = some (Cell.val (.sl) x69)) <| Dz Tryz.prog rS (Builtin.append_ #[43, 43] 43 #[x69.v, (.slice (some (at0 b74)) 1 1)]) λ (x75 : Sl) => nn (some (at0 b25)) λ p76 => stC (p76.add 2) x75.v <| drew <| nn (some (at0 b25)) λ p77 => ld (.sl) (p77.add 3) λ (x78 : Sl) => nn a0 λ p79 => ld (.sl) (p79.add 3) λ (x80 : Sl) => ixI x80 s28.2.2.1 1 λ x82 => Af (.cells #[(vI x82)] 3) λ b83 => keep (λ w => w.cell? (p77.add 3) = some (Cell.val (.sl) x78)) <| Dz Tryz.prog rS (Builtin.append_ #[43, 43] 43 #[x78.v, (.slice (some (at0 b83)) 1 1)]) λ (x84 : Sl) => nn (some (at0 b25)) λ p85 => stC (p85.add 3) x84.v <| J32 (s35.1, s35.2.1, ())) ( J32 (s35.1, s35.2.1, ()))) λ s33 => again29 (s33.1, s33.2.1, (W64 (s28.2.2.1 + 1)), ())) ( J26 ())) (0, 0, 0, ())) λ s27 => drew <| nn a0 λ p86 => ld cI (p86.add 1) λ (x87 : Int) => cN 30 #[(.pointer (some (at0 b25)))] λ x88 => keep (λ w => w.cell? (p86.add 1) = some (Cell.val cI x87)) <| sif (decide (x88 > x87)) ( K 50) ( nn (some (at0 b25)) λ p89 => ld (.sl) (p89.add 2) λ (x90 : Sl) => nn a0 λ p91 => stC (p91.add 2) x90.v <| nn (some (at0 b25)) λ p92 => ld (.sl) (p92.add 3) λ (x93 : Sl) => nn a0 λ p94 => stC (p94.add 3) x93.v <| K 0))
def h16 : Hint := (hS (hR 1) (hS (hR 4) (hS (hS (hR 2) (hC (hS (hR 2) hL) hL)) (hS (hR 1) (hJ (0x1fffffffff001d0, []) (hS (hR 1) (.block (.loop 0x1fffffffff001d0 [(6, tI), (7, tI)] (hS (hS (hR 4) (hC hL hL)) (hJ (0x1fffffffc000150, [(6, tI)]) (.block (hS (hR 1) (.block (.loop 0x1fffffffc000150 [(6, tI), (8, tI)] (hS (hS (hR 8) (hC hL hL)) (hS (.block (hS (.region (lR 16) (hO 16)) (hS (hR 6) (hC (hS (hR 1) hL) hL)))) (hR 3))))))) (hR 3)))))) (hS (.region (lR 11) (hO 11)) (hS (hR 1) (hS (hR 1) (hJ ((mR [(10, 14), (67, 176)]), []) (hS (hR 1) (.block (.loop (mR [(10, 14), (67, 176)]) [(10, tI), (11, tI), (12, tI)] (hS (hS (hR 7) (hC hL hL)) (hJ ((mR [(10, 12), (13, 14), (76, 176)]), [(10, tI), (11, tI)]) (.block (hJ (0xffffffffffffff0000000000000002c00, [(10, tI), (11, tI)]) (.block (.loop 0xffffffffffffff0000000000000002c00 [(10, tI), (11, tI)] (hS (hJ ((mR [(76, 89)]), [(88, tB)]) (.region [] (.ops 5 (.split 80 (hO 8) (.skips 7 (hO 1))))) (hC hL hL)) (.block (hJ ((mR [(13, 14), (89, 125)]), []) (hS (hR 1) (.block (.loop (mR [(13, 14), (89, 125)]) [(13, tI)] (hS (hS (hR 8) (hC hL hL)) (hS (.block (hS (.region (lR 18) (hO 18)) (hR 10))) (hR 3)))))) (hS (hR 6) (hR 3))))))) (hJ ((mR [(132, 144)]), [(143, tB)]) (.region [] (.ops 8 (.split 139 (hO 4) (.skips 3 (hO 1))))) (hC (hS (.region (lR 17) (hO 17)) (.region (lR 17) (hO 17))) hL)))) (hR 3)))))) (hS (hS (.region [0, 2, 3, 4, 5, 1, 6] (hO 7)) (hC (hS (hR 1) hL) hL)) (hS (hR 8) (hS (hR 8) (hS (hR 1) hL)))))))))))))
theorem A16 {a0 : Option Addr} {a1 : Sl} {K : Int -> Wp} {w : World} (h : F16 a0 a1 K w) : Aa Tryz.prog 16 #[(.pointer a0), a1.v] rI K w := tied Ai Tryz.func16 h16 _ h
def F17 (a0 : Sl) (K : Option Addr -> Wp) : Wp := Af (.cells #[a0.v, (.slice none 0 0), (vI 0), (.slice none 0 0)] 63) λ b1 => Aa Tryz.prog 31 #[a0.v] (.tup [(.one .sl), (.one cI)]) λ (x2 : (Sl × Int × Unit)) => nn (some (at0 b1)) λ p3 => stC (p3.add 1) x2.1.v <| nn (some (at0 b1)) λ p4 => stC (p4.add 2) (vI x2.2.1) <| jU (λ J5 => sI (λ s7 again8 => nn (some (at0 b1)) λ p9 => ld (.sl) (p9.add 1) λ (x10 : Sl) => sif (decide (s7.1 < ((x10.len : Nat) : Int))) ( nn (some (at0 b1)) λ p11 => ld (.sl) (p11.add 1) λ (x12 : Sl) => ixs c71 x12 s7.1 4 λ (x14 : I4) => Af (.cells #[(vI 0), (vI 0), (vI 0), (vI 0)] 71) λ b15 => Ae (at0 b15) (vA c71 x14) 4 <| lI (at0 b15) λ x16 => lI (ad b15 1) λ x17 => slc a0.a x16 x17 ((a0.cap : Nat) : Int) a0.cap 1 λ x18 => cS 32 #[x18.v] λ x19 => jS (λ J20 => Ho (S := Sl × Int × Unit) (λ s22 again23 => sif (decide ((W64 (s22.2.1 + 1)) < ((x19.len : Nat) : Int))) ( ixI x19 s22.2.1 1 λ x25 => ixI x18 x25 1 λ x27 => drew <| lI (at0 b15) λ x28 => ix x19.a x19.len s22.2.1 λ p29 => ld cI (p29.add (scaled (Int.toNat s22.2.1) 1)) λ (x30 : Int) => lI (at0 b15) λ x31 => ix x19.a x19.len (W64 (s22.2.1 + 1)) λ p32 => ld cI (p32.add (scaled (Int.toNat (W64 (s22.2.1 + 1))) 1)) λ (x33 : Int) => ix x19.a x19.len (W64 (s22.2.1 + 1)) λ p34 => ld cI (p34.add (scaled (Int.toNat (W64 (s22.2.1 + 1))) 1)) λ (x35 : Int) => ix x19.a x19.len s22.2.1 λ p36 => ld cI (p36.add (scaled (Int.toNat s22.2.1) 1)) λ (x37 : Int) => cN 33 #[(vI x27)] λ x38 => keep (λ w => w.cell? (p36.add (scaled (Int.toNat s22.2.1) 1)) = some (Cell.val cI x37)) <| keep (λ w => w.cell? (p34.add (scaled (Int.toNat (W64 (s22.2.1 + 1))) 1)) = some (Cell.val cI x35)) <| keep (λ w => w.cell? (p32.add (scaled (Int.toNat (W64 (s22.2.1 + 1))) 1)) = some (Cell.val cI x33)) <| keep (λ w => w.cell? (at0 b15) = some (Cell.val cI x31)) <| keep (λ w => w.cell? (p29.add (scaled (Int.toNat s22.2.1) 1)) = some (Cell.val cI x30)) <| keep (λ w => w.cell? (at0 b15) = some (Cell.val cI x28)) <| Af (.cells #[(vI (W64 (x28 + x30))), (vI (W64 (x31 + x33))), (vI x27), (.bool ((W64 (x35 - x37)) == 1)), (vI x38)] 76) λ b39 => Dz Tryz.prog rS (Builtin.append_ #[73, 73] 73 #[s22.1.v, (.slice (some (at0 b39)) 1 1)]) λ (x40 : Sl) => again23 (x40, (W64 (s22.2.1 + 1)), ())) ( J20 (s22.1, ()))) (⟨none, 0, 0⟩, 0, ())) λ s21 => nn (some (at0 b1)) λ p41 => ld (.sl) (p41.add 3) λ (x42 : Sl) => Af (.cells #[s21.1.v] 73) λ b43 => Dz Tryz.prog rS (Builtin.append_ #[61, 61] 61 #[x42.v, (.slice (some (at0 b43)) 1 1)]) λ (x44 : Sl) => nn (some (at0 b1)) λ p45 => stC (p45.add 3) x44.v <| again8 ((W64 (s7.1 + 1)), ())) ( J5 ())) (0, ())) λ s6 => K (some (at0 b1))
def h17 : Hint := (hS (hR 1) (hS (hR 4) (hS (hR 13) (hJ ((mR [(4, 11), (25, 106)]), []) (hS (hR 1) (.block (.loop (mR [(4, 11), (25, 106)]) [(4, tI)] (hS (hS (hR 7) (hC hL hL)) (hS (.block (hS (hR 9) (hS (hR 7) (hS (hR 3) (hS (hR 1) (hJ ((mR [(8, 11), (49, 96)]), [(8, tS)]) (hS (hR 1) (.block (.loop (mR [(8, 11), (49, 96)]) [(8, tS), (9, tI)] (hS (hS (hR 5) (hC hL hL)) (hS (.block (hS (hR 8) (.region (lR 34) (hO 34)))) (hR 3)))))) (hR 11))))))) (hR 3)))))) (hS (hR 2) hL)))))
theorem A17 {a0 : Sl} {K : Option Addr -> Wp} {w : World} (h : F17 a0 K w) : Aa Tryz.prog 17 #[a0.v] rP K w := tied Ai Tryz.func17 h17 _ h
def F28 (a0 : Option Addr) (a1 : Sl) (K : Int -> Wp) : Wp := sif (decide (((a1.len : Nat) : Int) > 70000)) ( K 3) ( jU (λ J1 => sN (λ s3 again4 => sif (decide (s3.2.1 < ((a1.len : Nat) : Int))) ( ixs c65 a1 s3.2.1 3 λ (x6 : (Int × Int × Sl × Unit)) => Af (.cells #[(vI 0), (vI 0), (.slice none 0 0)] 65) λ b7 => Ae (at0 b7) (vA c65 x6) 3 <| jB (λ J8 => drew <| lI (at0 b7) λ x10 => sif (decide (x10 < s3.1)) ( J8 (true, ())) ( lI (ad b7 1) λ x11 => lI (at0 b7) λ x12 => sif (decide (x11 < x12)) ( J8 (true, ())) ( lI (ad b7 1) λ x13 => nn a0 λ p14 => ld (.sl) (p14.add 2) λ (x15 : Sl) => J8 ((decide (x13 > ((x15.len : Nat) : Int))), ())))) λ s9 => sif s9.1 ( K 2) ( lI (ad b7 1) λ x16 => again4 (x16, (W64 (s3.2.1 + 1)), ()))) ( J1 ())) (0, 0, ())) λ s2 => jU (λ J17 => sI (λ s19 again20 => sif (decide (s19.1 < ((a1.len : Nat) : Int))) ( jU (λ J21 => sI (λ s23 again24 => ixf (.sl) a1 s19.1 3 2 λ (x26 : Sl) => sif (decide (s23.1 < ((x26.len : Nat) : Int))) ( drew <| nn a0 λ p27 => lI p27 λ x28 => ixf (.sl) a1 s19.1 3 2 λ (x30 : Sl) => ixI x30 s23.1 1 λ x32 => cB 73 #[(vI x28), (vI x32)] λ x33 => sif (!x33) ( K 11) ( again24 ((W64 (s23.1 + 1)), ()))) ( J21 ())) (0, ())) λ s22 => again20 ((W64 (s19.1 + 1)), ())) ( J17 ())) (0, ())) λ s18 => K 0)
def h28 : Hint := (hS (hR 1) (hS (hS (hR 3) (hC (hS (hR 1) hL) hL)) (hS (hR 1) (hJ (0x3fffffffe0f0, []) (hS (hR 1) (.block (.loop 0x3fffffffe0f0 [(5, tI), (6, tI)] (hS (hS (hR 4) (hC hL hL)) (hS (.block (hS (hR 6) (hS (hJ (0xfffff800000, [(43, tB)]) (.region (lR 21) (.ops 5 (.split 27 (.skips 5 (.ops 2 (.skips 8 (hO 1)))) (.ops 7 (.split 34 (.skips 8 (hO 1)) (hO 9)))))) (hC (hS (hR 1) hL) hL)) (hR 3)))) (hR 3)))))) (hJ (0xfffffffc00000000310, []) (hS (hR 1) (.block (.loop 0xfffffffc00000000310 [(8, tI)] (hS (hS (hR 4) (hC hL hL)) (hJ (0xffffff0000000000210, []) (.block (hS (hR 1) (.block (.loop 0xffffff0000000000210 [(9, tI)] (hS (hS (hR 8) (hC hL hL)) (hS (.block (hS (.region (lR 14) (hO 14)) (hC (hS (hR 1) hL) hL))) (hR 3))))))) (hR 3)))))) (hS (hR 1) hL))))))
theorem A28 {a0 : Option Addr} {a1 : Sl} {K : Int -> Wp} {w : World} (h : F28 a0 a1 K w) : Aa Tryz.prog 28 #[(.pointer a0), a1.v] rI K w := tied Ai Tryz.func28 h28 _ h
def F30 (a0 : Option Addr) (K : Int -> Wp) : Wp := jI (λ J1 => sN (λ s3 again4 => nn a0 λ p5 => ld (.sl) (p5.add 2) λ (x6 : Sl) => sif (decide (s3.2.1 < ((x6.len : Nat) : Int))) ( drew <| nn a0 λ p7 => lI p7 λ x8 => nn a0 λ p9 => ld (.sl) (p9.add 2) λ (x10 : Sl) => ixI x10 s3.2.1 1 λ x12 => cN 29 #[(vI x8), (vI x12)] λ x13 => again4 ((W64 (s3.1 + x13)), (W64 (s3.2.1 + 1)), ())) ( J1 (s3.1, ()))) (0, 0, ())) λ s2 => K s2.1
def h30 : Hint := (hS (hR 1) (hS (hR 1) (hJ (0xffffff8, [(3, tI)]) (hS (hR 1) (.block (.loop 0xffffff8 [(3, tI), (4, tI)] (hS (hS (hR 7) (hC hL hL)) (hS (.block (.region (lR 15) (hO 15))) (hR 3)))))) (hS (hR 2) hL))))
theorem A30 {a0 : Option Addr} {K : Int -> Wp} {w : World} (h : F30 a0 K w) : Aa Tryz.prog 30 #[(.pointer a0)] rI K w := tied Ai Tryz.func30 h30 _ h
def F31 (a0 : Sl) (K : (Sl × Int × Unit) -> Wp) : Wp := join (S := Sl × Int × Unit) (λ J1 => Ho (S := Sl × Int × Int × Unit) (λ s3 again4 => sif (decide (s3.2.2.1 < ((a0.len : Nat) : Int))) ( join (S := Sl × Int × Int × Unit) (λ J5 => ixI a0 s3.2.2.1 1 λ x8 => sif (x8 == 10) ( Af (.cells #[(vI s3.2.1), (vI s3.2.2.1), (vI (W64 (s3.2.2.1 + 1))), (vI 1)] 71) λ b9 => Dz Tryz.prog rS (Builtin.append_ #[60, 60] 60 #[s3.1.v, (.slice (some (at0 b9)) 1 1)]) λ (x10 : Sl) => J5 (x10, (W64 (s3.2.2.1 + 1)), s3.2.2.1, ())) ( jB (λ J11 => ixI a0 s3.2.2.1 1 λ x14 => sif (x14 == 13) ( sif (decide ((W64 (s3.2.2.1 + 1)) < ((a0.len : Nat) : Int))) ( ixI a0 (W64 (s3.2.2.1 + 1)) 1 λ x16 => J11 ((x16 == 10), ())) ( J11 (false, ()))) ( J11 (false, ()))) λ s12 => sif s12.1 ( Af (.cells #[(vI s3.2.1), (vI s3.2.2.1), (vI (W64 (s3.2.2.1 + 2))), (vI 2)] 71) λ b17 => Dz Tryz.prog rS (Builtin.append_ #[60, 60] 60 #[s3.1.v, (.slice (some (at0 b17)) 1 1)]) λ (x18 : Sl) => J5 (x18, (W64 (s3.2.2.1 + 2)), (W64 (s3.2.2.1 + 1)), ())) ( ixI a0 s3.2.2.1 1 λ x20 => sif (x20 == 13) ( Af (.cells #[(vI s3.2.1), (vI s3.2.2.1), (vI (W64 (s3.2.2.1 + 1))), (vI 3)] 71) λ b21 => Dz Tryz.prog rS (Builtin.append_ #[60, 60] 60 #[s3.1.v, (.slice (some (at0 b21)) 1 1)]) λ (x22 : Sl) => J5 (x22, (W64 (s3.2.2.1 + 1)), s3.2.2.1, ())) ( J5 (s3.1, s3.2.1, s3.2.2.1, ()))))) λ s6 => again4 (s6.1, s6.2.1, (W64 (s6.2.2.1 + 1)), ())) ( J1 (s3.1, s3.2.1, ()))) (⟨none, 0, 0⟩, 0, 0, ())) λ s2 => Af (.cells #[(vI s2.2.1), (vI ((a0.len : Nat) : Int)), (vI ((a0.len : Nat) : Int)), (vI 0)] 71) λ b23 => Dz Tryz.prog rS (Builtin.append_ #[60, 60] 60 #[s2.1.v, (.slice (some (at0 b23)) 1 1)]) λ (x24 : Sl) => jI (λ J25 => jB (λ J27 => sif (((a0.len : Nat) : Int) == 0) ( J27 (true, ())) ( J27 ((decide (s2.2.1 < ((a0.len : Nat) : Int))), ()))) λ s28 => sif s28.1 ( J25 (((x24.len : Nat) : Int), ())) ( J25 (((s2.1.len : Nat) : Int), ()))) λ s26 => K (x24, s26.1, ())
def h31 : Hint := (hS (hR 2) (hS (hR 1) (hS (hR 1) (hJ (0xfffffffffffffffff70, [(4, tS), (5, tI)]) (hS (hR 1) (.block (.loop 0xfffffffffffffffff70 [(4, tS), (5, tI), (6, tI)] (hS (hS (hR 4) (hC hL hL)) (hJ (0xfffffffffffffffc070, [(4, tS), (5, tI), (6, tI)]) (.block (hS (hR 5) (hC (hS (hR 9) (hR 3)) (hJ ((mR [(29, 49)]), [(48, tB)]) (.region [] (.ops 6 (.split 34 (.ops 7 (.split 41 (hO 7) (.skips 6 (hO 1)))) (.skips 5 (.ops 2 (.skips 6 (hO 1))))))) (hC (hS (hR 9) (hS (hR 3) (hR 3))) (hS (hR 5) (hC (hS (hR 9) (hR 3)) hL))))))) (hR 3)))))) (hS (hR 3) (hS (hR 10) (hJ ((mR [(7, 8), (87, 98)]), [(7, tI)]) (hJ ((mR [(87, 96)]), [(95, tB)]) (.region [] (.ops 4 (.split 90 (.skips 4 (hO 1)) (hO 5)))) (hC (hR 3) hL)) (hS (hR 4) hL))))))))
theorem A31 {a0 : Sl} {K : (Sl × Int × Unit) -> Wp} {w : World} (h : F31 a0 K w) : Aa Tryz.prog 31 #[a0.v] (.tup [(.one .sl), (.one cI)]) K w := tied Ai Tryz.func31 h31 _ h
def F32 (a0 : Sl) (K : Sl -> Wp) : Wp := jS (λ J1 => Ho (S := Sl × Int × Unit) (λ s3 again4 => sif (decide (s3.2.1 <= ((a0.len : Nat) : Int))) ( jS (λ J5 => cB 75 #[a0.v, (vI s3.2.1)] λ x7 => sif x7 ( Af (.cells #[(vI s3.2.1)] 3) λ b8 => Dz Tryz.prog rS (Builtin.append_ #[43, 43] 43 #[s3.1.v, (.slice (some (at0 b8)) 1 1)]) λ (x9 : Sl) => J5 (x9, ())) ( J5 (s3.1, ()))) λ s6 => again4 (s6.1, (W64 (s3.2.1 + 1)), ())) ( J1 (s3.1, ()))) (⟨none, 0, 0⟩, 0, ())) λ s2 => K s2.1
def h32 : Hint := (hS (hR 1) (hS (hR 1) (hJ (0xffff8, [(3, tS)]) (hS (hR 1) (.block (.loop 0xffff8 [(3, tS), (4, tI)] (hS (hS (hR 4) (hC hL hL)) (hJ (0xff028, [(3, tS)]) (.block (hS (hR 4) (hS (hR 1) (hC (hR 5) hL)))) (hR 3)))))) (hS (hR 2) hL))))
theorem A32 {a0 : Sl} {K : Sl -> Wp} {w : World} (h : F32 a0 K w) : Aa Tryz.prog 32 #[a0.v] rS K w := tied Ai Tryz.func32 h32 _ h
def F35 (a0 : Option Addr) (a1 : Int) (a2 : Bool) (K : Int -> Wp) : Wp := cN 82 #[(.pointer a0), (vI a1)] λ x1 => cN 83 #[(.pointer a0), (vI x1)] λ x2 => jI (λ J3 => sif (!a2) ( cN 84 #[(.pointer a0), (vI x1)] λ x5 => J3 (x5, ())) ( J3 (x2, ()))) λ s4 => nn a0 λ p6 => ld (.sl) (p6.add 1) λ (x7 : Sl) => ixf cI x7 s4.1 4 1 λ (x9 : Int) => sif (decide (x1 >= x9)) ( sif a2 ( nn a0 λ p10 => ld (.sl) (p10.add 1) λ (x11 : Sl) => ixf cI x11 s4.1 4 1 λ (x13 : Int) => K x13) ( cN 85 #[(.pointer a0), (vI s4.1)] λ x14 => K x14)) ( nn a0 λ p15 => ld (.sl) (p15.add 1) λ (x16 : Sl) => ixI x16 s4.1 4 λ x18 => nn a0 λ p19 => ld (.sl) (p19.add 3) λ (x20 : Sl) => ixl (.sl) x20 s4.1 1 λ (x22 : Sl) => jI (λ J23 => sN (λ s25 again26 => sif (decide (s25.2.1 < ((x22.len : Nat) : Int))) ( jI (λ J27 => ixI x22 s25.2.1 5 λ x30 => sif (decide (x30 <= x1)) ( ixI x22 s25.2.1 5 λ x32 => J27 (x32, ())) ( J27 (s25.1, ()))) λ s28 => again26 (s28.1, (W64 (s25.2.1 + 1)), ())) ( J23 (s25.1, ()))) (x18, 0, ())) λ s24 => K s24.1)
def h35 : Hint := (hS (hR 1) (hS (hR 4) (hS (hR 4) (hJ (4063360, [(7, tI)]) (hS (hR 2) (hC (hR 4) hL)) (hS (hS (hR 10) (hC (hS (hS (hR 1) (hC (hS (hR 9) hL) hL)) (hS (hR 4) hL)) hL)) (hS (hR 9) (hS (hR 8) (hJ (0x1ffff800000000000500, [(8, tI)]) (hS (hR 1) (.block (.loop 0x1ffff800000000000500 [(8, tI), (10, tI)] (hS (hS (hR 4) (hC hL hL)) (hJ (0x1ffe0000000000000100, [(8, tI)]) (.block (hS (hR 7) (hC (hR 6) hL))) (hR 3)))))) (hS (hR 2) hL)))))))))
theorem A35 {a0 : Option Addr} {a1 : Int} {a2 : Bool} {K : Int -> Wp} {w : World} (h : F35 a0 a1 a2 K w) : Aa Tryz.prog 35 #[(.pointer a0), (vI a1), (.bool a2)] rI K w := tied Ai Tryz.func35 h35 _ h
def F39 (a0 : Option Addr) (a1 : Int) (K : Int -> Wp) : Wp := cN 82 #[(.pointer a0), (vI a1)] λ x1 => drew <| nn a0 λ p2 => ld (.sl) (p2.add 3) λ (x3 : Sl) => cN 83 #[(.pointer a0), (vI x1)] λ x4 => keep (λ w => w.cell? (p2.add 3) = some (Cell.val (.sl) x3)) <| ixl (.sl) x3 x4 1 λ (x6 : Sl) => jI (λ J7 => sN (λ s9 again10 => sif (decide (s9.2.1 < ((x6.len : Nat) : Int))) ( jI (λ J11 => ixf cI x6 s9.2.1 5 1 λ (x14 : Int) => sif (decide (x14 <= x1)) ( J11 ((W64 (s9.1 + 1)), ())) ( J11 (s9.1, ()))) λ s12 => again10 (s12.1, (W64 (s9.2.1 + 1)), ())) ( J7 (s9.1, ()))) (0, 0, ())) λ s8 => K s8.1
def h39 : Hint := (hS (hR 1) (hS (hR 4) (hS (.region (lR 10) (hO 10)) (hS (hR 1) (hJ (0x7fff000c0, [(6, tI)]) (hS (hR 1) (.block (.loop 0x7fff000c0 [(6, tI), (7, tI)] (hS (hS (hR 4) (hC hL hL)) (hJ (0x7fc000040, [(6, tI)]) (.block (hS (hR 7) (hC (hR 3) hL))) (hR 3)))))) (hS (hR 2) hL))))))
theorem A39 {a0 : Option Addr} {a1 : Int} {K : Int -> Wp} {w : World} (h : F39 a0 a1 K w) : Aa Tryz.prog 39 #[(.pointer a0), (vI a1)] rI K w := tied Ai Tryz.func39 h39 _ h
def F48 (a0 : Option Addr) (a1 : Int) (a2 : I3) (K : (I3 × Int × Unit) -> Wp) : Wp := Af (.cells #[(vI a2.1), (vI a2.2.1), (vI a2.2.2.1)] 48) λ b1 => Af (.cells #[(vI 0), (vI 0), (vI 0)] 83) λ b2 => cN 35 #[(.pointer a0), (vI a1), (.bool false)] λ x3 => cN 83 #[(.pointer a0), (vI x3)] λ x4 => lds c48 (at0 b1) λ (x5 : I3) => Aa Tryz.prog 91 #[(vA c48 x5)] (.tup [(.one cI), (.one .bool)]) λ (x6 : (Int × Bool × Unit)) => jN (λ J7 => lI (at0 b1) λ x9 => sif (x9 == 31) ( jN (λ J10 => Ho (S := Int × Int × Int × Unit) (λ s12 again13 => jB (λ J14 => nn a0 λ p16 => ld cI (p16.add 2) λ (x17 : Int) => sif (decide (s12.2.2.1 < x17)) ( J14 ((decide (s12.1 > 0)), ())) ( J14 (false, ()))) λ s15 => sif s15.1 ( jN (λ J18 => jB (λ J20 => cB 102 #[(.pointer a0), (vI s12.2.2.1)] λ x22 => sif x22 ( cB 102 #[(.pointer a0), (vI (W64 (s12.2.2.1 - 1)))] λ x23 => J20 ((!x23), ())) ( J20 (false, ()))) λ s21 => sif s21.1 ( nn a0 λ p24 => ld (.sl) (p24.add 1) λ (x25 : Sl) => ixI x25 s12.2.2.1 4 λ x27 => J18 ((W64 (s12.1 - 1)), x27, ())) ( J18 (s12.1, s12.2.1, ()))) λ s19 => again13 (s19.1, s19.2.1, (W64 (s12.2.2.1 + 1)), ())) ( J10 (s12.1, s12.2.1, ()))) (x6.1, (-1), (W64 (x4 + 1)), ())) λ s11 => sif (decide (s11.1 > 0)) ( nn a0 λ p28 => ld cI (p28.add 2) λ (x29 : Int) => cN 85 #[(.pointer a0), (vI (W64 (x29 - 1)))] λ x30 => J7 (x30, 1, ())) ( J7 (s11.2.1, 0, ()))) ( sif (x9 == 32) ( jN (λ J31 => Ho (S := Int × Int × Int × Unit) (λ s33 again34 => jB (λ J35 => sif (decide (s33.2.2.1 >= 0)) ( J35 ((decide (s33.1 > 0)), ())) ( J35 (false, ()))) λ s36 => sif s36.1 ( jN (λ J37 => jB (λ J39 => cB 102 #[(.pointer a0), (vI s33.2.2.1)] λ x41 => sif x41 ( cB 102 #[(.pointer a0), (vI (W64 (s33.2.2.1 + 1)))] λ x42 => J39 ((!x42), ())) ( J39 (false, ()))) λ s40 => sif s40.1 ( nn a0 λ p43 => ld (.sl) (p43.add 1) λ (x44 : Sl) => ixI x44 s33.2.2.1 4 λ x46 => J37 ((W64 (s33.1 - 1)), x46, ())) ( J37 (s33.1, s33.2.1, ()))) λ s38 => again34 (s38.1, s38.2.1, (W64 (s33.2.2.1 - 1)), ())) ( J31 (s33.1, s33.2.1, ()))) (x6.1, (-1), (W64 (x4 - 1)), ())) λ s32 => sif (decide (s32.1 > 0)) ( J7 (0, 0, ())) ( J7 (s32.2.1, 0, ()))) ( sif (x9 == 33) ( cN 103 #[(.pointer a0), (vI x3)] λ x47 => sif (decide (x47 < 0)) ( Aa Tryz.prog 92 #[(vI 80)] (.tup [(.agg c83), (.one cI)]) λ (x48 : (I3 × Int × Unit)) => Ae (at0 b2) (vA c83 x48.1) 3 <| lds c83 (at0 b2) λ (x49 : I3) => K (x49, x48.2.1, ())) ( Aa Tryz.prog 93 #[(.pointer a0), (vI x47), (vI 1)] (.tup [(.agg c83), (.one cI)]) λ (x50 : (I3 × Int × Unit)) => Ae (at0 b2) (vA c83 x50.1) 3 <| lds c83 (at0 b2) λ (x51 : I3) => K (x51, x50.2.1, ()))) ( Aa Tryz.prog 92 #[(vI 1)] (.tup [(.agg c83), (.one cI)]) λ (x52 : (I3 × Int × Unit)) => Ae (at0 b2) (vA c83 x52.1) 3 <| lds c83 (at0 b2) λ (x53 : I3) => K (x53, x52.2.1, ()))))) λ s8 => sif (s8.1 == x3) ( Aa Tryz.prog 92 #[(vI 80)] (.tup [(.agg c83), (.one cI)]) λ (x54 : (I3 × Int × Unit)) => Ae (at0 b2) (vA c83 x54.1) 3 <| lds c83 (at0 b2) λ (x55 : I3) => K (x55, x54.2.1, ())) ( Aa Tryz.prog 93 #[(.pointer a0), (vI s8.1), (vI s8.2.1)] (.tup [(.agg c83), (.one cI)]) λ (x56 : (I3 × Int × Unit)) => Ae (at0 b2) (vA c83 x56.1) 3 <| lds c83 (at0 b2) λ (x57 : I3) => K (x57, x56.2.1, ()))
def h48 : Hint := (hS (hR 3) (hS (hR 4) (hS (hR 4) (hS (hR 7) (hS (hR 1) (hS (hR 1) (hJ (0x3ffffffffffffffffffffffff800f480, [(12, tI), (13, tI)]) (hS (hR 2) (.block (hS (hR 2) (hC (hJ (0xffffffffc00005400, [(10, tI), (12, tI)]) (hS (hR 3) (.block (.loop 0xffffffff000005400 [(10, tI), (12, tI), (14, tI)] (hS (hJ (0x3ff000000000, [(45, tB)]) (.region [] (.ops 7 (.split 42 (hO 3) (.skips 2 (hO 1))))) (hC hL hL)) (hJ (0xfffff000000001400, [(10, tI), (12, tI)]) (.block (hJ ((mR [(48, 58)]), [(57, tB)]) (.region [] (.ops 4 (.split 51 (hO 6) (.skips 5 (hO 1))))) (hC (hS (hR 3) (hR 9)) hL))) (hR 3)))))) (hS (hR 2) (hC (hS (hR 8) (hR 1)) hL))) (hS (hR 2) (hC (hJ (0x1fffffff80000000000000009400, [(10, tI), (12, tI)]) (hS (hR 3) (.block (.loop 0x1ffffffe00000000000000009400 [(10, tI), (12, tI), (15, tI)] (hS (hJ ((mR [(81, 87)]), [(86, tB)]) (.region [] (.ops 3 (.split 83 (hO 3) (.skips 2 (hO 1))))) (hC hL hL)) (hJ (0x1ffffe0000000000000000001400, [(10, tI), (12, tI)]) (.block (hJ ((mR [(89, 99)]), [(98, tB)]) (.region [] (.ops 4 (.split 92 (hO 6) (.skips 5 (hO 1))))) (hC (hS (hR 3) (hR 9)) hL))) (hR 3)))))) (hS (hR 2) (hC (hR 1) hL))) (hS (hR 2) (hC (hS (hR 4) (hS (hS (hR 2) (hC (hS (hR 5) hL) hL)) (hS (hR 7) hL))) (hS (hR 5) hL))))))))) (hS (hS (hR 3) (hC (hS (hR 5) hL) hL)) (hS (hR 8) hL)))))))))
theorem A48 {a0 : Option Addr} {a1 : Int} {a2 : I3} {K : (I3 × Int × Unit) -> Wp} {w : World} (h : F48 a0 a1 a2 K w) : Aa Tryz.prog 48 #[(.pointer a0), (vI a1), (vA c48 a2)] (.tup [(.agg c83), (.one cI)]) K w := tied Ai Tryz.func48 h48 _ h
def F75 (a0 : Sl) (a1 : Int) (K : Bool -> Wp) : Wp := jB (λ J1 => sif (decide (a1 < 0)) ( J1 (true, ())) ( J1 ((decide (a1 > ((a0.len : Nat) : Int))), ()))) λ s2 => sif s2.1 ( K false) ( jB (λ J3 => sif (a1 == 0) ( J3 (true, ())) ( J3 ((a1 == ((a0.len : Nat) : Int)), ()))) λ s4 => sif s4.1 ( K true) ( ixI a0 (W64 (a1 - 1)) 1 λ x6 => cN 125 #[(vI x6)] λ x7 => ixI a0 a1 1 λ x9 => cN 125 #[(vI x9)] λ x10 => jB (λ J11 => sif (x7 == 1) ( J11 ((x10 == 2), ())) ( J11 (false, ()))) λ s12 => sif s12.1 ( K false) ( jB (λ J13 => sif (x7 == 1) ( J13 (true, ())) ( sif (x7 == 2) ( J13 (true, ())) ( sif (x7 == 3) ( J13 (true, ())) ( sif (x10 == 1) ( J13 (true, ())) ( sif (x10 == 2) ( J13 (true, ())) ( J13 ((x10 == 3), ()))))))) λ s14 => sif s14.1 ( K true) ( cB 126 #[(vI x7), (vI x10)] λ x15 => jB (λ J16 => sif x15 ( J16 (true, ())) ( sif (x10 == 4) ( J16 (true, ())) ( sif (x10 == 5) ( J16 (true, ())) ( sif (x10 == 8) ( J16 (true, ())) ( J16 ((x7 == 7), ())))))) λ s17 => sif s17.1 ( K false) ( cB 127 #[a0.v, (vI a1)] λ x18 => cB 128 #[a0.v, (vI a1)] λ x19 => cB 129 #[a0.v, (vI a1)] λ x20 => sif (!x18) ( sif (!x19) ( K (!x20)) ( K false)) ( K false))))))
def h75 : Hint := (hS (hR 1) (hS (hJ (522240, [(18, tB)]) (.region [] (.ops 3 (.split 13 (.skips 4 (hO 1)) (hO 5)))) (hC (hS (hR 1) hL) hL)) (hS (hJ (0x7f80000, [(26, tB)]) (.region [] (.ops 3 (.split 21 (.skips 4 (hO 1)) (hO 5)))) (hC (hS (hR 1) hL) hL)) (hS (hR 7) (hS (hR 6) (hS (hJ (0xfc000000000, [(43, tB)]) (.region [] (.ops 3 (.split 40 (hO 3) (.skips 2 (hO 1))))) (hC (hS (hR 1) hL) hL)) (hS (hJ ((mR [(44, 66)]), [(65, tB)]) (.region [] (.ops 3 (.split 46 (.skips 2 (.ops 2 (.skips 2 (.ops 2 (.skips 2 (.ops 2 (.skips 2 (.ops 2 (.skips 2 (hO 1)))))))))) (.ops 4 (.split 50 (.skips 2 (.ops 2 (.skips 2 (.ops 2 (.skips 2 (.ops 2 (.skips 2 (hO 1)))))))) (.ops 4 (.split 54 (.skips 2 (.ops 2 (.skips 2 (.ops 2 (.skips 2 (hO 1)))))) (.ops 4 (.split 58 (.skips 2 (.ops 2 (.skips 2 (hO 1)))) (.ops 4 (.split 62 (.skips 2 (hO 1)) (hO 3)))))))))))) (hC (hS (hR 1) hL) hL)) (hS (hR 4) (hS (hJ ((mR [(69, 86)]), [(85, tB)]) (.region [] (.ops 2 (.split 70 (.skips 2 (.ops 2 (.skips 2 (.ops 2 (.skips 2 (.ops 2 (.skips 2 (hO 1)))))))) (.ops 4 (.split 74 (.skips 2 (.ops 2 (.skips 2 (.ops 2 (.skips 2 (hO 1)))))) (.ops 4 (.split 78 (.skips 2 (.ops 2 (.skips 2 (hO 1)))) (.ops 4 (.split 82 (.skips 2 (hO 1)) (hO 3)))))))))) (hC (hS (hR 1) hL) hL)) (hS (hR 4) (hS (hR 4) (hS (hR 4) (hS (.region [] (.ops 3 (.split 97 (.ops 4 (.split 101 (hO 4) (.skips 2 (hO 2)))) (.skips 2 (.ops 2 (.skips 2 (hO 2))))))) hL)))))))))))))
theorem A75 {a0 : Sl} {a1 : Int} {K : Bool -> Wp} {w : World} (h : F75 a0 a1 K w) : Aa Tryz.prog 75 #[a0.v, (vI a1)] rB K w := tied Ai Tryz.func75 h75 _ h
def F82 (a0 : Option Addr) (a1 : Int) (K : Int -> Wp) : Wp := sif (decide (a1 < 0)) ( K 0) ( nn a0 λ p1 => ld (.sl) p1 λ (x2 : Sl) => sif (decide (a1 > ((x2.len : Nat) : Int))) ( nn a0 λ p3 => ld (.sl) p3 λ (x4 : Sl) => K ((x4.len : Nat) : Int)) ( K a1))
def h82 : Hint := (hS (hR 1) (hS (hS (hR 2) (hC (hS (hR 1) hL) hL)) (hS (hS (hR 7) (hC (hS (hR 6) hL) hL)) (hS (hR 2) hL))))
theorem A82 {a0 : Option Addr} {a1 : Int} {K : Int -> Wp} {w : World} (h : F82 a0 a1 K w) : Aa Tryz.prog 82 #[(.pointer a0), (vI a1)] rI K w := tied Ai Tryz.func82 h82 _ h
def F83 (a0 : Option Addr) (a1 : Int) (K : Int -> Wp) : Wp := jU (λ J1 => sI (λ s3 again4 => nn a0 λ p5 => ld (.sl) (p5.add 1) λ (x6 : Sl) => sif (decide (s3.1 < ((x6.len : Nat) : Int))) ( nn a0 λ p7 => ld (.sl) (p7.add 1) λ (x8 : Sl) => ixf cI x8 s3.1 4 2 λ (x10 : Int) => sif (decide (a1 < x10)) ( K s3.1) ( again4 ((W64 (s3.1 + 1)), ()))) ( J1 ())) (0, ())) λ s2 => nn a0 λ p11 => ld (.sl) (p11.add 1) λ (x12 : Sl) => K (W64 (((x12.len : Nat) : Int) - 1))
def h83 : Hint := (hS (hR 1) (hJ (67108848, []) (hS (hR 1) (.block (.loop 67108848 [(5, tI)] (hS (hS (hR 7) (hC hL hL)) (hS (.block (hS (hR 10) (hC (hS (hR 2) hL) hL))) (hR 3)))))) (hS (hR 7) hL)))
theorem A83 {a0 : Option Addr} {a1 : Int} {K : Int -> Wp} {w : World} (h : F83 a0 a1 K w) : Aa Tryz.prog 83 #[(.pointer a0), (vI a1)] rI K w := tied Ai Tryz.func83 h83 _ h
def F84 (a0 : Option Addr) (a1 : Int) (K : Int -> Wp) : Wp := cN 83 #[(.pointer a0), (vI a1)] λ x1 => nn a0 λ p2 => ld cI (p2.add 2) λ (x3 : Int) => sif (decide (x1 >= x3)) ( nn a0 λ p4 => ld cI (p4.add 2) λ (x5 : Int) => K (W64 (x5 - 1))) ( K x1)
def h84 : Hint := (hS (hR 1) (hS (hR 4) (hS (hS (hR 6) (hC (hS (hR 6) hL) hL)) (hS (hR 2) hL))))
theorem A84 {a0 : Option Addr} {a1 : Int} {K : Int -> Wp} {w : World} (h : F84 a0 a1 K w) : Aa Tryz.prog 84 #[(.pointer a0), (vI a1)] rI K w := tied Ai Tryz.func84 h84 _ h
def F85 (a0 : Option Addr) (a1 : Int) (K : Int -> Wp) : Wp := nn a0 λ p1 => ld (.sl) (p1.add 3) λ (x2 : Sl) => ixl (.sl) x2 a1 1 λ (x4 : Sl) => sif (((x4.len : Nat) : Int) == 0) ( nn a0 λ p5 => ld (.sl) (p5.add 1) λ (x6 : Sl) => ixI x6 a1 4 λ x8 => K x8) ( ixI x4 (W64 (((x4.len : Nat) : Int) - 1)) 5 λ x10 => K x10)
def h85 : Hint := (hS (hR 1) (hS (hR 8) (hS (hS (hR 3) (hC (hS (hR 9) hL) hL)) (hS (hR 8) hL))))
theorem A85 {a0 : Option Addr} {a1 : Int} {K : Int -> Wp} {w : World} (h : F85 a0 a1 K w) : Aa Tryz.prog 85 #[(.pointer a0), (vI a1)] rI K w := tied Ai Tryz.func85 h85 _ h
def F91 (a0 : I3) (K : (Int × Bool × Unit) -> Wp) : Wp := Af (.cells #[(vI a0.1), (vI a0.2.1), (vI a0.2.2.1)] 48) λ b1 => lI (ad b1 1) λ x2 => sif (decide (x2 < 1)) ( K (1, false, ())) ( lI (ad b1 1) λ x3 => sif (decide (x3 > 9999)) ( K (9999, true, ())) ( lI (ad b1 1) λ x4 => K (x4, true, ())))
def h91 : Hint := (hS (hR 3) (hS (hS (hR 3) (hC (hS (hR 2) hL) hL)) (hS (hS (hR 3) (hC (hS (hR 2) hL) hL)) (hS (hR 4) hL))))
theorem A91 {a0 : I3} {K : (Int × Bool × Unit) -> Wp} {w : World} (h : F91 a0 K w) : Aa Tryz.prog 91 #[(vA c48 a0)] (.tup [(.one cI), (.one .bool)]) K w := tied Ai Tryz.func91 h91 _ h
def F92 (a0 : Int) (K : (I3 × Int × Unit) -> Wp) : Wp := Af (.cells #[(vI 0), (vI 0), (vI 0)] 83) λ b1 => Ae (at0 b1) (.agg #[(vI 0), (vI 0), (vI 0)]) 3 <| lds c83 (at0 b1) λ (x2 : I3) => K (x2, a0, ())
def h92 : Hint := (hS (hR 2) (hS (hR 4) hL))
theorem A92 {a0 : Int} {K : (I3 × Int × Unit) -> Wp} {w : World} (h : F92 a0 K w) : Aa Tryz.prog 92 #[(vI a0)] (.tup [(.agg c83), (.one cI)]) K w := tied Ai Tryz.func92 h92 _ h
def F93 (a0 : Option Addr) (a1 : Int) (a2 : Int) (K : (I3 × Int × Unit) -> Wp) : Wp := Af (.cells #[(vI 0), (vI 0), (vI 0)] 83) λ b1 => cN 39 #[(.pointer a0), (vI a1)] λ x2 => Ae (at0 b1) (.agg #[(vI a1), (vI a2), (vI x2)]) 3 <| lds c83 (at0 b1) λ (x3 : I3) => K (x3, 0, ())
def h93 : Hint := (hS (hR 2) (hS (hR 8) hL))
theorem A93 {a0 : Option Addr} {a1 : Int} {a2 : Int} {K : (I3 × Int × Unit) -> Wp} {w : World} (h : F93 a0 a1 a2 K w) : Aa Tryz.prog 93 #[(.pointer a0), (vI a1), (vI a2)] (.tup [(.agg c83), (.one cI)]) K w := tied Ai Tryz.func93 h93 _ h
def F102 (a0 : Option Addr) (a1 : Int) (K : Bool -> Wp) : Wp := nn a0 λ p1 => ld (.sl) (p1.add 3) λ (x2 : Sl) => ixl (.sl) x2 a1 1 λ (x4 : Sl) => jU (λ J5 => sI (λ s7 again8 => sif (decide (s7.1 < ((x4.len : Nat) : Int))) ( ixf cI x4 s7.1 5 4 λ (x10 : Int) => sif (x10 != 0) ( K false) ( again8 ((W64 (s7.1 + 1)), ()))) ( J5 ())) (0, ())) λ s6 => K true
def Df1 : Hint := (hS (hR 1) (hS (hR 8) (hJ (67092560, []) (hS (hR 1) (.block (.loop 67092560 [(6, tI)] (hS (hS (hR 4) (hC hL hL)) (hS (.block (hS (hR 6) (hC (hS (hR 1) hL) hL))) (hR 3)))))) (hS (hR 1) hL))))
theorem Dt1 {a0 : Option Addr} {a1 : Int} {K : Bool -> Wp} {w : World} (h : F102 a0 a1 K w) : Aa Tryz.prog 102 #[(.pointer a0), (vI a1)] rB K w := tied Ai Tryz.func102 Df1 _ h
def F103 (a0 : Option Addr) (a1 : Int) (K : Int -> Wp) : Wp := join (S := Addr × Unit) (λ J1 => drew <| nn a0 λ p3 => ld (.sl) (p3.add 1) λ (x4 : Sl) => both ( Af (.cells #[(vI 0), (vI 0), (vI 0), (vI 0)] 71) λ b5 => keep (λ w => w.cell? (p3.add 1) = some (Cell.val (.sl) x4)) <| cN 83 #[(.pointer a0), (vI a1)] λ x6 => keep (λ w => w.cell? (p3.add 1) = some (Cell.val (.sl) x4)) <| ixs c71 x4 x6 4 λ (x8 : I4) => Ae (at0 b5) (vA c71 x8) 4 <| J1 ((at0 b5), ())) <| cN 83 #[(.pointer a0), (vI a1)] λ x9 => keep (λ w => w.cell? (p3.add 1) = some (Cell.val (.sl) x4)) <| ix x4.a x4.len x9 λ p10 => lds c71 (p10.add (scaled (Int.toNat x9) 4)) λ (x11 : I4) => both ( Af (.cells #[(vI 0), (vI 0), (vI 0), (vI 0)] 71) λ b12 => keep (λ w => Ak w (p10.add (scaled (Int.toNat x9) 4)) 0 (Cells.vals c71 x11)) <| keep (λ w => w.cell? (p3.add 1) = some (Cell.val (.sl) x4)) <| Ae (at0 b12) (vA c71 x11) 4 <| J1 ((at0 b12), ())) <| nothing) λ s2 => join (S := Sl × Int × Unit) (λ J13 => Ho (S := Sl × Int × Int × Unit) (λ s15 again16 => nn a0 λ p17 => ld cI (p17.add 2) λ (x18 : Int) => sif (decide (s15.2.2.1 < x18)) ( join (S := Sl × Int × Unit) (λ J19 => Ho (S := Sl × Int × Int × Unit) (λ s21 again22 => nn a0 λ p23 => ld (.sl) (p23.add 3) λ (x24 : Sl) => ixl (.sl) x24 s15.2.2.1 1 λ (x26 : Sl) => sif (decide (s21.2.2.1 < ((x26.len : Nat) : Int))) ( join (S := Sl × Int × Unit) (λ J27 => nn a0 λ p29 => ld (.sl) (p29.add 3) λ (x30 : Sl) => ixl (.sl) x30 s15.2.2.1 1 λ (x32 : Sl) => ixs c76 x32 s21.2.2.1 5 λ (x34 : (Int × Int × Int × Bool × Int × Unit)) => Af (.cells #[(vI 0), (vI 0), (vI 0), (.bool false), (vI 0)] 76) λ b35 => Ae (at0 b35) (vA c76 x34) 5 <| lds c76 (at0 b35) λ (x36 : (Int × Int × Int × Bool × Int × Unit)) => cN 160 #[(vA c76 x36)] λ x37 => sif (decide (x37 < 0)) ( J27 (s21.1, s21.2.1, ())) ( jI (λ J38 => jB (λ J40 => sif (decide (s21.2.1 < 0)) ( lI (at0 b35) λ x42 => sif (decide (x42 >= a1)) ( lI (at0 b35) λ x43 => ld cI (s2.1.add 1) λ (x44 : Int) => J40 ((decide (x43 < x44)), ())) ( J40 (false, ()))) ( J40 (false, ()))) λ s41 => sif s41.1 ( J38 (((s21.1.len : Nat) : Int), ())) ( J38 (s21.2.1, ()))) λ s39 => lds c76 (at0 b35) λ (x45 : (Int × Int × Int × Bool × Int × Unit)) => Af (.cells #[(vI x45.1), (vI x45.2.1), (vI x45.2.2.1), (.bool x45.2.2.2.1), (vI x45.2.2.2.2.1)] 76) λ b46 => Dz Tryz.prog rS (Builtin.append_ #[73, 73] 73 #[s21.1.v, (.slice (some (at0 b46)) 1 1)]) λ (x47 : Sl) => J27 (x47, s39.1, ()))) λ s28 => again22 (s28.1, s28.2.1, (W64 (s21.2.2.1 + 1)), ())) ( J19 (s21.1, s21.2.1, ()))) (s15.1, s15.2.1, 0, ())) λ s20 => again16 (s20.1, s20.2.1, (W64 (s15.2.2.1 + 1)), ())) ( J13 (s15.1, s15.2.1, ()))) (⟨none, 0, 0⟩, (-1), 0, ())) λ s14 => sif (decide (s14.2.1 < 0)) ( K (-1)) ( ixs c76 s14.1 s14.2.1 5 λ (x49 : (Int × Int × Int × Bool × Int × Unit)) => cN 160 #[(vA c76 x49)] λ x50 => jI (λ J51 => sif (decide (x50 >= 3)) ( J51 ((-1), ())) ( J51 (1, ()))) λ s52 => jU (λ J53 => sN (λ s55 again56 => jB (λ J57 => sif (decide (s55.2.1 >= 0)) ( J57 ((decide (s55.2.1 < ((s14.1.len : Nat) : Int))), ())) ( J57 (false, ()))) λ s58 => sif s58.1 ( jI (λ J59 => ixs c76 s14.1 s55.2.1 5 λ (x62 : (Int × Int × Int × Bool × Int × Unit)) => cN 160 #[(vA c76 x62)] λ x63 => sif (x63 == x50) ( J59 ((W64 (s55.1 + 1)), ())) ( ixs c76 s14.1 s55.2.1 5 λ (x65 : (Int × Int × Int × Bool × Int × Unit)) => cN 160 #[(vA c76 x65)] λ x66 => chk ((3 : Int) ≠ 0) <| chk ((3 : Int) ≠ 0) <| sif ((Int.tmod x66 3) == (Int.tmod x50 3)) ( J59 ((W64 (s55.1 - 1)), ())) ( J59 (s55.1, ())))) λ s60 => sif (s60.1 == 0) ( ixI s14.1 s55.2.1 5 λ x68 => K x68) ( again56 (s60.1, (W64 (s55.2.1 + s52.1)), ()))) ( J53 ())) (0, s14.2.1, ())) λ s54 => K (-1))
def Df0 : Hint := (hS (hR 1) (hS (hR 1) (hS (hR 1) (hJ (0xff8080, [(7, (.one .addr))]) (.region [0, 1, 2, 3, 4, 5, 6, 7, 8, 10] (.float [9] (.ops 6 (.alt none (.plain (hO 4)) (.ops 3 (.alt none (.plain (hO 1)) .stop)))))) (hJ (0x3fffffffffffff000760, [(5, tS), (6, tI)]) (hS (hR 1) (.block (.loop 0x3fffffffffffff000760 [(5, tS), (6, tI), (8, tI)] (hS (hS (hR 6) (hC hL hL)) (hJ (0x3fffffffffff00000660, [(5, tS), (6, tI)]) (.block (hS (hR 1) (.block (.loop 0x3fffffffffff00000660 [(5, tS), (6, tI), (9, tI)] (hS (hS (hR 10) (hC hL hL)) (hJ (0x3ffffffff00000000460, [(5, tS), (6, tI)]) (.block (hS (hR 12) (hS (hS (hR 3) (hC hL hL)) (hJ (0x3fffe00000000000040, [(6, tI)]) (hJ ((mR [(57, 72)]), [(71, tB)]) (.region [] (.ops 3 (.split 59 (.ops 6 (.split 65 (hO 6) (.skips 5 (hO 1)))) (.skips 4 (.ops 2 (.skips 5 (hO 1))))))) (hC (hR 3) hL)) (hR 5))))) (hR 3))))))) (hR 3)))))) (hS (hS (hR 2) (hC (hS (hR 1) hL) hL)) (hS (hR 6) (hS (hR 1) (hJ (0x6000000000000000001000, [(12, tI)]) (hS (hR 2) (hC (hR 1) hL)) (hS (hR 1) (hJ ((mR [(4, 5), (13, 15), (87, 126)]), []) (hS (hR 2) (.block (.loop (mR [(4, 5), (13, 15), (88, 126)]) [(13, tI), (14, tI)] (hS (hJ ((mR [(88, 96)]), [(95, tB)]) (.region [] (.ops 3 (.split 90 (hO 5) (.skips 4 (hO 1))))) (hC hL hL)) (hS (.block (hJ ((mR [(13, 14), (99, 119)]), [(13, tI)]) (hS (hR 7) (hC (hR 3) (hS (hR 9) (hC (hR 3) hL)))) (hS (hR 2) (hC (hS (hR 6) hL) hL)))) (hR 4)))))) (hS (hR 1) hL))))))))))))
theorem Dt0 {a0 : Option Addr} {a1 : Int} {K : Int -> Wp} {w : World} (h : F103 a0 a1 K w) : Aa Tryz.prog 103 #[(.pointer a0), (vI a1)] rI K w := tied Ai Tryz.func103 Df0 _ h
def F126 (a0 : Int) (a1 : Int) (K : Bool -> Wp) : Wp := jB (λ J1 => sif (a0 == 9) ( sif (a1 == 9) ( J1 (true, ())) ( sif (a1 == 10) ( J1 (true, ())) ( sif (a1 == 12) ( J1 (true, ())) ( J1 ((a1 == 13), ()))))) ( J1 (false, ()))) λ s2 => sif s2.1 ( K true) ( jB (λ J3 => sif (a0 == 12) ( sif (a1 == 10) ( J3 (true, ())) ( J3 ((a1 == 11), ()))) ( sif (a0 == 10) ( sif (a1 == 10) ( J3 (true, ())) ( J3 ((a1 == 11), ()))) ( J3 (false, ())))) λ s4 => sif s4.1 ( K true) ( sif (a0 == 13) ( K (a1 == 11)) ( sif (a0 == 11) ( K (a1 == 11)) ( K false))))
def Dd3 : Hint := (hS (hR 1) (hS (hJ (8388576, [(22, tB)]) (.region [] (.ops 3 (.split 7 (.ops 3 (.split 10 (.skips 2 (.ops 2 (.skips 2 (.ops 2 (.skips 2 (hO 2)))))) (.ops 4 (.split 14 (.skips 2 (.ops 2 (.skips 2 (hO 2)))) (.ops 4 (.split 18 (.skips 2 (hO 2)) (hO 4))))))) (.skips 14 (hO 1))))) (hC (hS (hR 1) hL) hL)) (hS (hJ (0x1fff800000, [(36, tB)]) (.region [] (.ops 3 (.split 25 (.skips 2 (.ops 5 (.split 32 (.skips 2 (hO 2)) (hO 4)))) (.ops 4 (.split 29 (.ops 3 (.split 32 (.skips 2 (hO 2)) (hO 4))) (.skips 6 (hO 1))))))) (hC (hS (hR 1) hL) hL)) (hS (.region [] (.ops 3 (.split 39 (.skips 2 (hO 6)) (.ops 4 (.split 43 (hO 4) (.skips 2 (hO 2))))))) hL))))
theorem Dr2 {a0 : Int} {a1 : Int} {K : Bool -> Wp} {w : World} (h : F126 a0 a1 K w) : Aa Tryz.prog 126 #[(vI a0), (vI a1)] rB K w := tied Ai Tryz.func126 Dd3 _ h
def F127 (a0 : Sl) (a1 : Int) (K : Bool -> Wp) : Wp := ixI a0 a1 1 λ x2 => cN 176 #[(vI x2)] λ x3 => sif (x3 != 1) ( K false) ( jU (λ J4 => sN (λ s6 again7 => sif (decide (s6.2.1 >= 0)) ( ixI a0 s6.2.1 1 λ x9 => cN 176 #[(vI x9)] λ x10 => jI (λ J11 => sif (x10 == 3) ( J11 ((W64 (s6.1 + 1)), ())) ( J11 (s6.1, ()))) λ s12 => jB (λ J13 => sif (x10 != 3) ( J13 ((x10 != 2), ())) ( J13 (false, ()))) λ s14 => sif s14.1 ( sif (decide (s12.1 > 0)) ( K (x10 == 1)) ( K false)) ( again7 (s12.1, (W64 (s6.2.1 - 1)), ()))) ( J4 ())) (0, (W64 (a1 - 1)), ())) λ s5 => K false)
def h127 : Hint := (hS (hR 1) (hS (hS (hR 6) (hC (hS (hR 1) hL) hL)) (hS (hR 1) (hJ (0x1ffffffc0f0, []) (hS (hR 3) (.block (.loop 0x1ffffff00f0 [(5, tI), (6, tI)] (hS (hS (hR 2) (hC hL hL)) (hS (.block (hS (hR 6) (hJ (503316512, [(5, tI)]) (hS (hR 2) (hC (hR 3) hL)) (hJ (0x7e0000000, [(34, tB)]) (.region [] (.ops 3 (.split 31 (hO 3) (.skips 2 (hO 1))))) (hC (hS (.region [] (.ops 3 (.split 37 (hO 4) (.skips 2 (hO 2))))) hL) hL))))) (hR 3)))))) (hS (hR 1) hL)))))
theorem Dr1 {a0 : Sl} {a1 : Int} {K : Bool -> Wp} {w : World} (h : F127 a0 a1 K w) : Aa Tryz.prog 127 #[a0.v, (vI a1)] rB K w := tied Ai Tryz.func127 h127 _ h
def F128 (a0 : Sl) (a1 : Int) (K : Bool -> Wp) : Wp := jB (λ J1 => ixI a0 a1 1 λ x4 => cN 125 #[(vI x4)] λ x5 => sif (x5 != 14) ( J1 (true, ())) ( ixI a0 (W64 (a1 - 1)) 1 λ x7 => cN 125 #[(vI x7)] λ x8 => J1 ((x8 != 5), ()))) λ s2 => sif s2.1 ( K false) ( jU (λ J9 => sI (λ s11 again12 => sif (decide (s11.1 >= 0)) ( ixI a0 s11.1 1 λ x14 => cN 125 #[(vI x14)] λ x15 => sif (x15 != 4) ( K (x15 == 14)) ( again12 ((W64 (s11.1 - 1)), ()))) ( J9 ())) ((W64 (a1 - 2)), ())) λ s10 => K false)
def h128 : Hint := (hS (hR 1) (hS (hJ (4194176, [(21, tB)]) (.region [] (.ops 7 (.split 13 (.skips 7 (hO 1)) (hO 8)))) (hC (hS (hR 1) hL) hL)) (hJ (0x1fffc00070, []) (hS (hR 3) (.block (.loop 0x1fff000070 [(5, tI)] (hS (hS (hR 2) (hC hL hL)) (hS (.block (hS (hR 6) (hS (hR 2) (hC (hS (hR 3) hL) hL)))) (hR 3)))))) (hS (hR 1) hL))))
theorem Dr0 {a0 : Sl} {a1 : Int} {K : Bool -> Wp} {w : World} (h : F128 a0 a1 K w) : Aa Tryz.prog 128 #[a0.v, (vI a1)] rB K w := tied Ai Tryz.func128 h128 _ h
def F129 (a0 : Sl) (a1 : Int) (K : Bool -> Wp) : Wp := ixI a0 a1 1 λ x2 => cN 125 #[(vI x2)] λ x3 => sif (x3 != 6) ( K false) ( jI (λ J4 => sN (λ s6 again7 => sif (decide (s6.2.1 >= 0)) ( ixI a0 s6.2.1 1 λ x9 => cN 125 #[(vI x9)] λ x10 => sif (x10 != 6) ( J4 (s6.1, ())) ( again7 ((W64 (s6.1 + 1)), (W64 (s6.2.1 - 1)), ()))) ( J4 (s6.1, ()))) (0, (W64 (a1 - 1)), ())) λ s5 => chk ((2 : Int) ≠ 0) <| K ((Int.tmod s5.1 2) == 1))
def Dd2 : Hint := (hS (hR 1) (hS (hS (hR 6) (hC (hS (hR 1) hL) hL)) (hS (hR 1) (hJ (536854752, [(5, tI)]) (hS (hR 3) (.block (.loop 536805600 [(5, tI), (6, tI)] (hS (hS (hR 2) (hC hL hL)) (hS (.block (hS (hR 6) (hS (hS (hR 2) (hC hL hL)) (hR 3)))) (hR 3)))))) (hS (hR 4) hL)))))
theorem Dq9 {a0 : Sl} {a1 : Int} {K : Bool -> Wp} {w : World} (h : F129 a0 a1 K w) : Aa Tryz.prog 129 #[a0.v, (vI a1)] rB K w := tied Ai Tryz.func129 Dd2 _ h
def F160 (a0 : (Int × Int × Int × Bool × Int × Unit)) (K : Int -> Wp) : Wp := Af (.cells #[(vI a0.1), (vI a0.2.1), (vI a0.2.2.1), (.bool a0.2.2.2.1), (vI a0.2.2.2.2.1)] 76) λ b1 => jU (λ J2 => sI (λ s4 again5 => sif (decide (s4.1 < 6)) ( jB (λ J6 => drew <| ld (.bool) (ad b1 3) λ (x8 : Bool) => sif x8 ( lI (ad b1 2) λ x9 => chk (0 <= s4.1 /\ s4.1 < ((6 : Nat) : Int)) <| ld cI ((at0 0).add (scaled (Int.toNat s4.1) 1)) λ (x10 : Int) => J6 ((x9 == x10), ())) ( J6 (false, ()))) λ s7 => sif s7.1 ( K s4.1) ( again5 ((W64 (s4.1 + 1)), ()))) ( J2 ())) (0, ())) λ s3 => K (-1)
def Db4 : Hint := (hS (hR 2) (hJ (524284, []) (hS (hR 1) (.block (.loop 524284 [(3, tI)] (hS (hS (hR 2) (hC hL hL)) (hS (.block (hJ (261888, [(17, tB)]) (.region (lR 10) (.ops 3 (.split 10 (hO 7) (.skips 6 (hO 1))))) (hC (hS (hR 2) hL) hL))) (hR 3)))))) (hS (hR 1) hL)))
theorem Dp1 {a0 : (Int × Int × Int × Bool × Int × Unit)} {K : Int -> Wp} {w : World} (h : F160 a0 K w) : Aa Tryz.prog 160 #[(vA c76 a0)] rI K w := tied Ai Tryz.func160 Db4 _ h
end Go.Proofs.YtolhlldgnfbemaaGreatDoor
