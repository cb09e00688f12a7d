/- The law holds for every input: it returns true, and each argument reads behind the call as it did. Conditions: those of the form alone. -/
import Derived.Test.YtabcpghhfeplaaaGreatOBl5
set_option linter.unusedVariables false
set_option linter.unusedSimpArgs false
set_option linter.unusedSectionVars false
set_option maxRecDepth 100000
namespace Go.Proofs.YtabcpghhfeplaaaGreat
open Go Go.Vx Cdc Trx
section
variable {w w' W W' : World} {S : Nat → Prop} {p : Nat} {e : Enc} {lim na : Nat} {O : Nat → Prop} {M : Parts} {tp : Option Addr} {a0 a : Sl}
def hdA (e : Enc) (M : Parts) (i n : Nat) : As := match M[i]? with | some x => (ats e x.2).take n | none => []
def tlA (e : Enc) (M : Parts) (i n : Nat) : As := match M[i]? with | some x => (ats e x.2).drop n | none => []
theorem hdA_some {e : Enc} {M : Parts} {i n : Nat} {x : Int × Bs} (h : M[i]? = some x) : hdA e M i n = (ats e x.2).take n := by unfold hdA; rw [h]
theorem tlA_some {e : Enc} {M : Parts} {i n : Nat} {x : Int × Bs} (h : M[i]? = some x) : tlA e M i n = (ats e x.2).drop n := by unfold tlA; rw [h]
theorem hdA_none {e : Enc} {M : Parts} {i n : Nat} (h : M[i]? = none) : hdA e M i n = [] := by unfold hdA; rw [h]
theorem tlA_none {e : Enc} {M : Parts} {i n : Nat} (h : M[i]? = none) : tlA e M i n = [] := by unfold tlA; rw [h]
theorem hd_spot {e : Enc} {M : Parts} {at_ i n : Nat} (h : Spot e M at_ i n) : (aOf e M).take at_ = aOf e (M.take i) ++ hdA e M i n := by rw [take_spot h]; unfold hdA; cases M[i]? <;> rfl
theorem drop_spot {e : Enc} {M : Parts} {at_ i n : Nat} (h : Spot e M at_ i n) : (aOf e M).drop at_ = tlA e M i n ++ aOf e (M.drop (i + 1)) := by
 rcases h with ⟨rfl, rfl, rfl⟩ | ⟨x, hx, h1, h2, rfl⟩
 ·cases M with
  | nil => simp [aOf, tlA]
  | cons x M => simp [aOf, tlA]
 ·rw [tlA_some hx]
  have hil := (List.getElem?_eq_some_iff.1 hx).1
  have hd : M = M.take i ++ x :: M.drop (i + 1) := by
   have := List.drop_eq_getElem_cons hil
   have hx' : M[i] = x := by rw [List.getElem?_eq_getElem hil] at hx; exact Option.some.inj hx
   rw [hx'] at this
   rw [← this, List.take_append_drop]
  have : aOf e M = aOf e (M.take i) ++ (ats e x.2 ++ aOf e (M.drop (i + 1))) := by
   conv => lhs; rw [hd]
   rw [aOf_app, aOf_cons]
  rw [this, List.drop_length_add_append, List.drop_append_of_le_length h2]
theorem spot_le {e : Enc} {M : Parts} {f t i n j m : Nat} (h1 : Spot e M f i n) (h2 : Spot e M t j m) (hft : f ≤ t) : i ≤ j := by
 have mono : ∀ a b : Nat, a ≤ b → (aOf e (M.take a)).length ≤ (aOf e (M.take b)).length := by
  intro a b hab
  have : M.take b = M.take a ++ (M.take b).drop a := by
   conv => lhs; rw [← List.take_append_drop a (M.take b)]
   rw [List.take_take, Nat.min_eq_left hab]
  rw [this, aOf_app, List.length_append]; omega
 rcases h1 with ⟨_, rfl, _⟩ | ⟨x, hx, g1, g2, g3⟩
 ·exact Nat.zero_le _
 rcases Nat.lt_or_ge j i with hlt | hge
 ·exfalso
  rcases h2 with ⟨h, _, _⟩ | ⟨y, hy, k1, k2, k3⟩
  ·omega
  ·have hjl := (List.getElem?_eq_some_iff.1 hy).1
   have e1 : (aOf e (M.take (j + 1))).length = (aOf e (M.take j)).length + (ats e y.2).length := by
    have hy' : M[j] = y := by rw [List.getElem?_eq_getElem hjl] at hy; exact Option.some.inj hy
    rw [List.take_add_one, hy, Option.toList_some, aOf_app, List.length_append]
    simp [aOf]
   have := mono (j + 1) i (by omega)
   omega
 ·exact hge
theorem szs_ge_take {l : As} (h : Posd l) {n : Nat} (hn : n ≤ l.length) : n ≤ szs (l.take n) := by
 have := szs_ge (h.take n)
 rw [List.length_take] at this; omega
theorem head_in {x : Pc} {y : Int × Bs} {n : Nat} (hp : PcIn w e x y) (h1 : 1 ≤ n) (hn : n ≤ (ats e y.2).length) : PcIn w e (headPc e x y.2 n) (y.1, y.2.take (cutAt e y.2 n)) := by
 have hcl := cutAt_le e y.2 n
 have hlen := hp.by_.len
 have hcap := SlIn.le hp.by_
 have c1 := hp.by_.cut (l := 0) (h := (cutAt e y.2 n : Int)) (m := (cutAt e y.2 n : Int)) (by omega) (by omega) (by omega) (by omega) (by omega)
 have d1 : (y.2.drop (0 : Int).toNat).take ((cutAt e y.2 n : Int).toNat - (0 : Int).toNat) = y.2.take (cutAt e y.2 n) := by simp
 rw [d1] at c1
 have hge : n ≤ cutAt e y.2 n := szs_ge_take (ats_posd e y.2) hn
 refine ⟨c1, rfl, hp.tag, fun hc => ?_, hp.lo, ?_⟩
 ·have := congrArg List.length hc
  rw [List.length_take, List.length_nil] at this
  omega
 ·have := hp.hi
  show y.1 + ((y.2.take _).length : Int) ≤ _
  rw [List.length_take]; omega
theorem rest_in {x : Pc} {y : Int × Bs} {n : Nat} (hp : PcIn w e x y) (hn : n < (ats e y.2).length) : PcIn w e (restPc e x y.2 n) (restTag y.1 (cutAt e y.2 n), y.2.drop (cutAt e y.2 n)) := by
 have hcl := cutAt_le e y.2 n
 have hlen := hp.by_.len
 have hcap := SlIn.le hp.by_
 have c2 := hp.by_.cut (l := (cutAt e y.2 n : Int)) (h := (x.bytes.len : Int)) (m := (x.bytes.cap : Int)) (by omega) (by omega) (by omega) (by omega) (by omega)
 have d2 : (y.2.drop (cutAt e y.2 n : Int).toNat).take ((x.bytes.len : Int).toNat - (cutAt e y.2 n : Int).toNat) = y.2.drop (cutAt e y.2 n) := by
  rw [Int.toNat_natCast, Int.toNat_natCast]
  exact List.take_of_length_le (by rw [List.length_drop]; omega)
 rw [d2] at c2
 have hlt : cutAt e y.2 n < y.2.length := by
  have h1 := szs_append ((ats e y.2).take n) ((ats e y.2).drop n)
  rw [List.take_append_drop, szs_all] at h1
  have h2 := szs_ge ((ats_posd e y.2).drop n)
  rw [List.length_drop] at h2
  unfold cutAt; omega
 have hlo := hp.lo; have hhi := hp.hi
 refine ⟨c2, rfl, by show restTag x.tag _ = restTag y.1 _; rw [hp.tag], fun hc => ?_, ?_, ?_⟩
 ·have := congrArg List.length hc
  rw [List.length_drop, List.length_nil] at this
  omega
 ·show -1 ≤ restTag y.1 _
  unfold restTag; split <;> omega
 ·show restTag y.1 _ + ((y.2.drop _).length : Int) ≤ _
  rw [List.length_drop]
  unfold restTag; split <;> omega
theorem Pcs_one (l : List Pc) : ∀ v ∈ flat c112 (l.map pcT), isOne v = true := by
 intro v hv
 unfold flat at hv
 obtain ⟨x, hx, hv⟩ := List.mem_flatMap.1 hv
 obtain ⟨y, _, rfl⟩ := List.mem_map.1 hx
 exact Pc_one y v (by rw [flat_one]; exact hv)
theorem rdTree (tx : W.heap[p]? = some (txO e lim tp a)) {K : Addr → Cells.T c105 → World → Prop} (hK : K (at0 p) (tp, ()) W) : nn (some (at0 p)) (fun q => lds c105 (q.add 2) (K q)) W := by
 refine nn_some ?_
 rw [addr_add]
 refine lds_r tx (x := (tp, ())) (fun i v hv => ?_) hK
 match i, hv with
 | 0, hv => exact hv
 | i + 1, hv => cases hv
abbrev Wr (w : World) (O : Nat → Prop) (k : Nat) : Prop := O k ∧ ∀ c fr, w.heap[k]? ≠ some (.cells c 144 fr)
set_option maxHeartbeats 2000000 in
theorem treplace_call {from_ to_ : Nat} {s : Sl} {t : TypeId} {put : List Int} (h : Txt w p e lim na O M) (hft : from_ ≤ to_) (hto : to_ ≤ (aOf e M).length) (hs : SlIn w s t 1 (iv put)) (hsep : ∀ k, s.blk k → ¬ O k) (hfit : Fit e put) (hna : na + (bts e put).length < 2 ^ 40) (hput : put.length < 2 ^ 40)
  (hroom : szs ((aOf e M).take from_ ++ prs e put ++ (aOf e M).drop to_) ≤ lim) {K : Unit → World → Prop}
  (hK : ∀ O' M' w', Txt w' p e lim (na + (bts e put).length) O' M' → aOf e M' = (aOf e M).take from_ ++ prs e put ++ (aOf e M).drop to_ → Upd (Wr w O) w w' → (∀ k, O k → O' k) → (∀ k, O' k → O k ∨ w.heap.size ≤ k) → K () w') :
  callT Tryz.prog 78 #[.pointer (some (at0 p)), .int .i64 (from_ : Int), .int .i64 (to_ : Int), .slice s.a s.len s.cap] (.tup []) K w := by
 refine F78_calls ?_
 unfold F78
 obtain ⟨tr, a0, ab, tx, ht, hi, own, tops, pO, aO, hla⟩ := h.ex
 have few := h.few; have lims := h.lims; have hsz := h.sz
 have il := hi.len
 have hf : Fine tr.items := hi.fine (by omega)
 have fl := hf.few
 have hal : ab.length = a0.len := by have := own.len1; rwa [List.length_map] at this
 refine tfind_call h (by omega) fun i n w1 hs1 hil1 e1 => ?_
 refine tfind_call (h.ext e1) (by omega) fun j m w2 hs2 hil2 e2 => ?_
 rw [Int.toNat_natCast] at hs1 hs2
 have x2 := e1.trans e2
 have hij := spot_le hs1 hs2 hft
 have pcs : ∀ {i : Nat} {x : Pc}, tr.items[i]? = some x → ∃ y, M[i]? = some y ∧ PcIn w e x y ∧ y.2.length ≤ lim := by
  intro i x hx
  obtain ⟨y, hy, hp⟩ := hi.get i hx
  refine ⟨y, hy, hp, ?_⟩
  have h2 : szs (aOf e M) = szs (aOf e (M.take i)) + (y.2.length + szs (aOf e (M.drop (i + 1)))) := by
   have hil := (List.getElem?_eq_some_iff.1 hy).1
   have hd := List.drop_eq_getElem_cons hil
   have hx' : M[i] = y := by rw [List.getElem?_eq_getElem hil] at hy; exact Option.some.inj hy
   rw [hx'] at hd
   conv => lhs; rw [← List.take_append_drop i M, hd]
   rw [aOf_app, aOf_cons, szs_append, szs_append, szs_all]
  omega
 have spn : ∀ {at_ i n : Nat} {y : Int × Bs}, at_ ≤ (aOf e M).length → Spot e M at_ i n → M[i]? = some y → n ≤ (ats e y.2).length ∧ n < 2 ^ 30 := by
  intro at_ i n y hle hs hy
  rcases hs with ⟨_, _, rfl⟩ | ⟨x, hx, h1, h2, h3⟩
  ·exact ⟨Nat.zero_le _, by decide⟩
  ·rw [hy] at hx; cases hx
   exact ⟨h2, by omega⟩
 refine join_r (fun x W => ∃ plL ML, SlOwn W w2.heap.size x.1 112 7 (flat c112 (plL.map pcT)) ∧ Its w e plL ML ∧ aOf e ML = hdA e M i n ∧ (∀ x ∈ plL, ∀ k, x.bytes.blk k → O k) ∧ (∀ x ∈ plL, ∀ k, x.bytes.blk k → a0.blk k → top x.bytes ≤ top a0) ∧ plL.length ≤ 1 ∧ Ext w2 W) ?_ ?_
 ·refine rdTree (x2.ext_get tx) (at_call (ht.ext x2) hf (by omega) fun w3 e3 => ?_)
  refine (St.start w3).newO fun b8 w4 S4 e4 => S4.aggSt 0 rfl rfl rfl rfl fun w5 S5 u5 => ?_
  cases hx : tr.items[i]? with
  | none =>
   have hM : M[i]? = none := List.getElem?_eq_none (by have := List.getElem?_eq_none_iff.1 hx; omega)
   have e0 : atI tr.items i = (Pc.zero, false) := by unfold atI; rw [hx]
   rw [e0, hdA_none hM]
   refine join_r (fun x W => x = (false, ()) ∧ w5 = W) (sif_false ⟨rfl, rfl⟩) ?_
   rintro _ _ ⟨rfl, rfl⟩
   exact sif_false ⟨[], [], SlOwn.nil _ _ _ _, trivial, rfl, (fun x hx => by cases hx), (fun x hx => by cases hx), Nat.zero_le _, e3.trans S5.upd⟩
  | some x =>
   have e0 : atI tr.items i = (x, true) := by unfold atI; rw [hx]
   rw [e0] at S5 ⊢
   obtain ⟨y, hy, hp, hyl⟩ := pcs hx
   have hn := spn (by omega) hs1 hy
   rw [hdA_some hy]
   refine join_r (fun x W => x = (decide (0 < n), ()) ∧ w5 = W) (sif_true ⟨tupb ?_, rfl⟩) ?_
   ·simp only [decide_eq_true_eq, gt_iff_lt]; omega
   rintro _ _ ⟨rfl, rfl⟩
   refine sif_r (fun hn0 => ?_) (fun hn0 => ?_)
   ·simp only [decide_eq_true_eq] at hn0
    have hlo := hp.lo; have hhi := hp.hi
    have hE : ∀ {V : World}, Ext w3 V → V.cell? (at0 p) = some (.int .i64 e.num) := fun x => cell_of (x.ext_get ((x2.trans e3).ext_get tx)) rfl
    have byB : By w3 x.bytes y.2 := hp.by_.ext (x2.trans e3)
    have S := S5
    refine join_r (fun s W => ∃ b, s.1 = at0 b ∧ W.heap[b]? = some (.cells (Cells.vals c112 (pcT (headPc e x y.2 n))).toArray 112 (0, 0)) ∧ Ext w3 W) ?_ ?_
    ·refine S.drew fun w9 S e9 _ => S.lds 0 (pcT x) rfl ?_
     simp only [nn_eqT]
     refine ld_r (S.upd.ext_get ((x2.trans e3).ext_get tx)) (x := e.num) rfl ?_
     exact ⟨S.newO fun b18 wx S ex => keep_r (hE S.upd) (S.keeps 1 rfl (⟨S.newO fun b19 wx S ex => keep_r (hE S.upd) (S.keeps 2 rfl (pcut_call (byB.ext S.upd) (by omega) (by rw [hp.tag]; omega) (by omega) fun wx ex => (fun S => S.aggSt 1 rfl rfl rfl rfl fun wx S ux => S.aggSt 0 rfl rfl rfl rfl fun wx S ux => ⟨b18, rfl, S.at_ 1 rfl, S.upd⟩) (S.ext ex))), pcut_call (byB.ext S.upd) (by omega) (by rw [hp.tag]; omega) (by omega) fun wx ex => (fun S => ⟨S.newO fun b22 wx S ex => keep_r (hE S.upd) (S.keeps 2 rfl (S.aggSt 1 rfl rfl rfl rfl fun wx S ux => S.aggSt 0 rfl rfl rfl rfl fun wx S ux => ⟨b18, rfl, S.at_ 1 rfl, S.upd⟩)), trivial⟩) (S.ext ex)⟩)), ⟨S.newO fun b23 wx S ex => keep_r (hE S.upd) (S.keeps 1 rfl (⟨S.newO fun b24 wx S ex => keep_r (hE S.upd) (S.keeps 2 rfl (pcut_call (byB.ext S.upd) (by omega) (by rw [hp.tag]; omega) (by omega) fun wx ex => (fun S => S.aggSt 0 rfl rfl rfl rfl fun wx S ux => S.aggSt 1 rfl rfl rfl rfl fun wx S ux => ⟨b24, rfl, S.at_ 0 rfl, S.upd⟩) (S.ext ex))), pcut_call (byB.ext S.upd) (by omega) (by rw [hp.tag]; omega) (by omega) fun wx ex => (fun S => ⟨S.newO fun b27 wx S ex => keep_r (hE S.upd) (S.keeps 2 rfl (S.aggSt 0 rfl rfl rfl rfl fun wx S ux => S.aggSt 1 rfl rfl rfl rfl fun wx S ux => ⟨b27, rfl, S.at_ 0 rfl, S.upd⟩)), trivial⟩) (S.ext ex)⟩)), pcut_call (byB.ext S.upd) (by omega) (by rw [hp.tag]; omega) (by omega) fun wx ex => (fun S => ⟨S.newO fun b29 wx S ex => keep_r (hE S.upd) (S.keeps 1 rfl (⟨S.newO fun b30 wx S ex => keep_r (hE S.upd) (S.keeps 2 rfl (S.aggSt 1 rfl rfl rfl rfl fun wx S ux => S.aggSt 0 rfl rfl rfl rfl fun wx S ux => ⟨b29, rfl, S.at_ 1 rfl, S.upd⟩)), trivial⟩)), ⟨S.newO fun b31 wx S ex => keep_r (hE S.upd) (S.keeps 1 rfl (⟨S.newO fun b32 wx S ex => keep_r (hE S.upd) (S.keeps 2 rfl (S.aggSt 0 rfl rfl rfl rfl fun wx S ux => S.aggSt 1 rfl rfl rfl rfl fun wx S ux => ⟨b32, rfl, S.at_ 0 rfl, S.upd⟩)), trivial⟩)), trivial⟩⟩) (S.ext ex)⟩⟩
    ·rintro ⟨_, _⟩ w9 ⟨b, rfl, hb, e9⟩
     dsimp only
     refine lds_r hb (x := pcT (headPc e x y.2 n)) (fun j v hv => by rw [Nat.zero_add, List.getElem?_toArray]; exact hv) (newO_r fun b32 w10 e10 n10 _ _ => ?_)
     have hbox : SlX w10 ⟨some (at0 b32), 1, 1⟩ 7 (flat c112 [pcT (headPc e x y.2 n)]) := (SlIn.of_box n10 (n := 1) (sz := 7) rfl).x
     have x10 := (e3.trans e9).trans e10
     refine append_rx eParts eParts.ts_ (s := ⟨none, 0, 0⟩) (x := ⟨some (at0 b32), 1, 1⟩) (SlOwn.nil w10 w2.heap.size _ _) hbox (Pc_one _) (by dsimp only; omega) (by have := x10.size; omega) fun ps' W4 o4 l4 u4 k4 => ?_
     refine ⟨[headPc e x y.2 n], [(y.1, y.2.take (cutAt e y.2 n))], o4, ⟨head_in hp hn0 hn.1, trivial⟩, ?_, ?_, ?_, Nat.le_refl _, x10.step u4 fun k hk => ?_⟩
     ·show ats e (y.2.take (cutAt e y.2 n)) ++ [] = _
      rw [List.append_nil]; unfold cutAt
      rw [(ats_cut e n y.2).1]
     ·intro z hz k hk
      rw [List.mem_singleton.1 hz] at hk
      exact pO x (List.mem_of_getElem? hx) k (cut_blk hk)
     ·intro z hz k hk hk'
      rw [List.mem_singleton.1 hz] at hk ⊢
      have hcl := cutAt_le e y.2 n
      have hlen := hp.by_.len
      exact Nat.le_trans (cut_top hp.by_ (l := 0) (h := (cutAt e y.2 n : Int)) (by omega) (by omega) (by omega)) (tops x (List.mem_of_getElem? hx) k (cut_blk hk) hk')
     ·obtain ⟨q, hq, _⟩ := hk; cases hq
   ·simp only [decide_eq_false_iff_not] at hn0
    obtain rfl : n = 0 := by omega
    exact ⟨[], [], SlOwn.nil _ _ _ _, trivial, rfl, (fun x hx => by cases hx), (fun x hx => by cases hx), Nat.zero_le _, e3.trans S5.upd⟩
 rintro ⟨psL, _⟩ w3 ⟨plL, ML, rowL, itsL, hML, oL, topL, lenL, e3⟩
 dsimp only at rowL ⊢
 have x3 := x2.trans e3
 have tk1 := hd_spot hs1
 rw [← hML] at tk1
 have tk2 := drop_spot hs2
 refine fresh_call (hs.ext x3) (fun k hk => ⟨fun hc => hsep k hk (hc ▸ h.op), fun hc => hsep k hk (aO k hc)⟩) hfit (x3.ext_get tx) (own.ext x3) (by omega) hput fun psF a plF MF w4 tx4 own4 rowF itsF hMF topF blkF blkA old4 u4 cntF => ?_
 have nt4 : ∀ t, t ≠ 107 → t ≠ 5 → NoTy w3 (fun k => k = p ∨ a0.blk k) t := by
  rintro t h1 h2 k (rfl | hk) c fr hc
  ·rw [x3.ext_get tx] at hc; cases hc; exact h1 rfl
  ·obtain ⟨c', fr', hc'⟩ := (own.ext x3).in.blk_cells hk
   rw [hc] at hc'; cases hc'; exact h2 rfl
 have rowL4 := rowL.ty u4 (nt4 _ (by decide) (by decide))
 have ht4 : tr.In w4 := (ht.ext x3).ty u4 (nt4 _ (by decide) (by decide))
 have o4 : Old w w4 a0 a := fun y b hy htp => old4 y b (hy.ext x3) htp
 have lL := SlOwn.lenR (cs := c112) rowL (by decide)
 have lF := SlOwn.lenR (cs := c112) rowF (by decide)
 rw [List.length_map] at lL lF
 have z2 := e3.size
 have z4 := u4.size
 refine append_rx eParts eParts.ts_ rowL4 rowF.in.x (Pcs_one _) (by
  show (psL.len + psF.len + (psL.len + psF.len) / 4 + 512) * 64 ≤ 2 ^ 48
  omega) (by omega) fun psA w5 rowA lA u5 kA => ?_
 rw [← flat_append, ← List.map_append] at rowA
 have nt5 : ∀ t, t ≠ 112 → NoTy w4 psL.blk t := fun t ht => NoTy.blk rowL4.in (fun h => ht h.symm)
 have tx5 : w5.heap[p]? = some (txO e lim tr.ptr a) := u5.get tx4 fun hk => nt5 107 (by decide) _ hk _ _ tx4
 have own5 := own4.ty u5 (nt5 _ (by decide))
 have itsF5 := itsF.ty u5 (nt5 _ (by decide))
 have ht5 : tr.In w5 := ht4.ty u5 (nt5 _ (by decide))
 have o5 := o4.ty u5 (nt5 _ (by decide))
 have z5 := u5.size
 refine join_r (fun x W => ∃ plR MR, SlOwn W w2.heap.size x.1 112 7 (flat c112 ((plL ++ plF ++ plR).map pcT)) ∧ Its w e plR MR ∧ aOf e MR = tlA e M j m ∧ (∀ x ∈ plR, ∀ k, x.bytes.blk k → O k) ∧ (∀ x ∈ plR, ∀ k, x.bytes.blk k → a0.blk k → top x.bytes ≤ top a0) ∧ Upd psA.blk w5 W) ?_ ?_
 ·refine rdTree tx5 (at_call ht5 hf (by omega) fun w6 e6 => ?_)
  refine (St.start w6).newO fun b41 w7 S7 e7 => S7.aggSt 0 rfl rfl rfl rfl fun w8 S8 u8 => ?_
  cases hx : tr.items[j]? with
  | none =>
   have hM : M[j]? = none := List.getElem?_eq_none (by have := List.getElem?_eq_none_iff.1 hx; omega)
   have e0 : atI tr.items j = (Pc.zero, false) := by unfold atI; rw [hx]
   rw [e0, tlA_none hM]
   refine sif_false ⟨[], [], ?_, trivial, rfl, (fun x hx => by cases hx), (fun x hx => by cases hx), Upd.of_ext (e6.trans S8.upd)⟩
   rw [List.append_nil]
   exact rowA.ext (e6.trans S8.upd)
  | some x =>
   have e0 : atI tr.items j = (x, true) := by unfold atI; rw [hx]
   rw [e0] at S8 ⊢
   obtain ⟨y, hy, hp, hyl⟩ := pcs hx
   have hn := spn hto hs2 hy
   rw [tlA_some hy]
   refine sif_true ?_
   have hlo := hp.lo; have hhi := hp.hi
   have tx6 := e6.ext_get tx5
   have hE : ∀ {V : World}, Ext w6 V → V.cell? (at0 p) = some (.int .i64 e.num) := fun x => cell_of (x.ext_get tx6) rfl
   have byB : By w6 x.bytes y.2 := ((o5 x.bytes y.2 hp.by_ (tops x (List.mem_of_getElem? hx))).1).ext e6
   have S := S8
   refine join_r (fun s W => ∃ b, s.1 = at0 b ∧ W.heap[b]? = some (.cells (Cells.vals c112 (pcT (restPc e x y.2 m))).toArray 112 (0, 0)) ∧ Ext w6 W) ?_ ?_
   ·refine S.drew fun w9 S e9 _ => S.lds 0 (pcT x) rfl ?_
    simp only [nn_eqT]
    refine ld_r (S.upd.ext_get tx6) (x := e.num) rfl ?_
    exact ⟨S.newO fun b18 wx S ex => keep_r (hE S.upd) (S.keeps 1 rfl (⟨S.newO fun b19 wx S ex => keep_r (hE S.upd) (S.keeps 2 rfl (pcut_call (byB.ext S.upd) (by omega) (by rw [hp.tag]; omega) (by omega) fun wx ex => (fun S => S.aggSt 1 rfl rfl rfl rfl fun wx S ux => S.aggSt 0 rfl rfl rfl rfl fun wx S ux => ⟨b19, rfl, S.at_ 0 rfl, S.upd⟩) (S.ext ex))), pcut_call (byB.ext S.upd) (by omega) (by rw [hp.tag]; omega) (by omega) fun wx ex => (fun S => ⟨S.newO fun b22 wx S ex => keep_r (hE S.upd) (S.keeps 2 rfl (S.aggSt 1 rfl rfl rfl rfl fun wx S ux => S.aggSt 0 rfl rfl rfl rfl fun wx S ux => ⟨b22, rfl, S.at_ 0 rfl, S.upd⟩)), trivial⟩) (S.ext ex)⟩)), ⟨S.newO fun b23 wx S ex => keep_r (hE S.upd) (S.keeps 1 rfl (⟨S.newO fun b24 wx S ex => keep_r (hE S.upd) (S.keeps 2 rfl (pcut_call (byB.ext S.upd) (by omega) (by rw [hp.tag]; omega) (by omega) fun wx ex => (fun S => S.aggSt 0 rfl rfl rfl rfl fun wx S ux => S.aggSt 1 rfl rfl rfl rfl fun wx S ux => ⟨b23, rfl, S.at_ 1 rfl, S.upd⟩) (S.ext ex))), pcut_call (byB.ext S.upd) (by omega) (by rw [hp.tag]; omega) (by omega) fun wx ex => (fun S => ⟨S.newO fun b27 wx S ex => keep_r (hE S.upd) (S.keeps 2 rfl (S.aggSt 0 rfl rfl rfl rfl fun wx S ux => S.aggSt 1 rfl rfl rfl rfl fun wx S ux => ⟨b23, rfl, S.at_ 1 rfl, S.upd⟩)), trivial⟩) (S.ext ex)⟩)), pcut_call (byB.ext S.upd) (by omega) (by rw [hp.tag]; omega) (by omega) fun wx ex => (fun S => ⟨S.newO fun b29 wx S ex => keep_r (hE S.upd) (S.keeps 1 rfl (⟨S.newO fun b30 wx S ex => keep_r (hE S.upd) (S.keeps 2 rfl (S.aggSt 1 rfl rfl rfl rfl fun wx S ux => S.aggSt 0 rfl rfl rfl rfl fun wx S ux => ⟨b30, rfl, S.at_ 0 rfl, S.upd⟩)), trivial⟩)), ⟨S.newO fun b31 wx S ex => keep_r (hE S.upd) (S.keeps 1 rfl (⟨S.newO fun b32 wx S ex => keep_r (hE S.upd) (S.keeps 2 rfl (S.aggSt 0 rfl rfl rfl rfl fun wx S ux => S.aggSt 1 rfl rfl rfl rfl fun wx S ux => ⟨b31, rfl, S.at_ 1 rfl, S.upd⟩)), trivial⟩)), trivial⟩⟩) (S.ext ex)⟩⟩
   ·rintro ⟨_, _⟩ w9 ⟨b, rfl, hb, e9⟩
    dsimp only
    simp only [addr_add]
    have hat : (restPc e x y.2 m).sm.atoms = (ats e y.2).length - m := by
     show (msr (ats e (y.2.drop (cutAt e y.2 m)))).atoms = _
     rw [msr_atoms (ats_posd e _)]
     unfold cutAt
     rw [(ats_cut e m y.2).2, List.length_drop]
    refine ld_r hb (x := (((restPc e x y.2 m).sm.atoms : Nat) : Int)) rfl (sif_r (fun h0 => ?_) (fun h0 => ?_))
    ·simp only [decide_eq_true_eq, gt_iff_lt] at h0
     refine lds_r hb (x := pcT (restPc e x y.2 m)) (fun j v hv => by rw [Nat.zero_add, List.getElem?_toArray]; exact hv) (newO_r fun b32 w10 e10 n10 _ _ => ?_)
     have hbox : SlX w10 ⟨some (at0 b32), 1, 1⟩ 7 (flat c112 [pcT (restPc e x y.2 m)]) := (SlIn.of_box n10 (n := 1) (sz := 7) rfl).x
     have x10 := (e6.trans e9).trans e10
     refine append_rx eParts eParts.ts_ (x := ⟨some (at0 b32), 1, 1⟩) (rowA.ext x10) hbox (Pc_one _) (by
      show (psA.len + 1 + (psA.len + 1) / 4 + 512) * 64 ≤ 2 ^ 48
      omega) (by have := x10.size; omega) fun ps' W4 o4' l4 u4' k4 => ?_
     have ef : flat c112 ((plL ++ plF).map pcT) ++ flat c112 [pcT (restPc e x y.2 m)] = flat c112 ((plL ++ plF ++ [restPc e x y.2 m]).map pcT) := by rw [List.map_append (l₁ := plL ++ plF), flat_append]; rfl
     rw [ef] at o4'
     refine ⟨[restPc e x y.2 m], [(restTag y.1 (cutAt e y.2 m), y.2.drop (cutAt e y.2 m))], o4', ⟨rest_in hp (by omega), trivial⟩, ?_, ?_, ?_, (Upd.of_ext x10).trans u4'⟩
     ·show ats e (y.2.drop (cutAt e y.2 m)) ++ [] = _
      rw [List.append_nil]; unfold cutAt
      rw [(ats_cut e m y.2).2]
     ·intro z hz k hk
      rw [List.mem_singleton.1 hz] at hk
      exact pO x (List.mem_of_getElem? hx) k (cut_blk hk)
     ·intro z hz k hk hk'
      rw [List.mem_singleton.1 hz] at hk ⊢
      have hcl := cutAt_le e y.2 m
      have hlen := hp.by_.len
      exact Nat.le_trans (cut_top hp.by_ (l := (cutAt e y.2 m : Int)) (h := (x.bytes.len : Int)) (by omega) (by omega) (by omega)) (tops x (List.mem_of_getElem? hx) k (cut_blk hk) hk')
    ·simp only [decide_eq_false_iff_not, gt_iff_lt] at h0
     refine ⟨[], [], ?_, trivial, ?_, (fun x hx => by cases hx), (fun x hx => by cases hx), Upd.of_ext (e6.trans e9)⟩
     ·rw [List.append_nil]; exact rowA.ext (e6.trans e9)
     ·show [] = (ats e y.2).drop m
      rw [List.drop_eq_nil_of_le (by omega)]
 rintro ⟨psR, _⟩ w6 ⟨plR, MR, rowR, itsR, hMR, oR, topR, u6⟩
 dsimp only at rowR ⊢
 rw [← hMR] at tk2
 have nt6 : ∀ t, t ≠ 112 → NoTy w5 psA.blk t := fun t ht => NoTy.blk rowA.in (fun h => ht h.symm)
 have tx6 : w6.heap[p]? = some (txO e lim tr.ptr a) := u6.get tx5 fun hk => nt6 107 (by decide) _ hk _ _ tx5
 have own6 := own5.ty u6 (nt6 _ (by decide))
 have itsF6 := itsF5.ty u6 (nt6 _ (by decide))
 have ht6 : tr.In w6 := ht5.ty u6 (nt6 _ (by decide))
 have o6 := o5.ty u6 (nt6 _ (by decide))
 refine drew_r fun w7 e7 _ => rdTree (e7.ext_get tx6) (rdTree (e7.ext_get tx6) (tsize_call (ht6.ext e7) fun w8 e8 => ?_))
 have x8 := e7.trans e8
 have tx8 := x8.ext_get tx6
 refine keep_r ?_ ?_
 ·rw [addr_add]
  refine cellsAt_of _ 0 fun q v hv => cell_of tx8 ?_
  match q, hv with
  | 0, hv => exact hv
  | q + 1, hv => cases hv
 have emin : (if ((tr.items.length : Nat) : Int) < IntKind.wrap .i64 ((j : Int) + 1) then ((tr.items.length : Nat) : Int) else IntKind.wrap .i64 ((j : Int) + 1)) = ((min (j + 1) tr.items.length : Nat) : Int) := by
  rw [wrap64 (by omega) (by omega)]
  split <;> omega
 rw [emin]
 have old_its : ∀ {l : List Pc} {N : Parts}, Its w e l N → (∀ x ∈ l, ∀ k, x.bytes.blk k → a0.blk k → top x.bytes ≤ top a0) → Its w6 e l N := fun hl htp => hl.to fun x hx b hb => (o6 x.bytes b hb (htp x hx)).1
 have its_all : Its w6 e (tr.items.take i ++ (plL ++ plF ++ plR) ++ tr.items.drop (min (j + 1) tr.items.length)) (M.take i ++ (ML ++ MF ++ MR) ++ M.drop (min (j + 1) tr.items.length)) :=
  Its.app (Its.app (old_its (hi.take i) fun x hx => tops x (List.mem_of_mem_take hx)) (Its.app (Its.app (old_its itsL topL) itsF6) (old_its itsR topR))) (old_its (hi.drop _) fun x hx => tops x (List.mem_of_mem_drop hx))
 have ed : M.drop (min (j + 1) tr.items.length) = M.drop (j + 1) := by
  by_cases hc : j + 1 ≤ tr.items.length
  ·rw [Nat.min_eq_left hc]
  ·rw [List.drop_eq_nil_of_le (by omega), List.drop_eq_nil_of_le (by omega)]
 have ea : aOf e (M.take i ++ (ML ++ MF ++ MR) ++ M.drop (min (j + 1) tr.items.length)) = (aOf e M).take from_ ++ prs e put ++ (aOf e M).drop to_ := by
  rw [ed, aOf_app, aOf_app, aOf_app, aOf_app, tk1, tk2, hMF]
  simp only [List.append_assoc]
 have hsA : szs (aOf e (M.take i ++ (ML ++ MF ++ MR) ++ M.drop (min (j + 1) tr.items.length))) < 2 ^ 59 := by rw [ea]; omega
 have hFine := its_all.fine hsA
 have hjl : min (j + 1) tr.items.length ≤ tr.items.length := Nat.min_le_right _ _
 have hi_le : i ≤ min (j + 1) tr.items.length := by
  rcases hs1 with ⟨_, rfl, _⟩ | ⟨x, hx, _⟩
  ·exact Nat.zero_le _
  ·have := (List.getElem?_eq_some_iff.1 hx).1; omega
 refine replace_call (t := tr) (n := i) (m := min (j + 1) tr.items.length) (l := plL ++ plF ++ plR) (ht6.ext x8) (rowR.in.ext x8) hf hFine.left.right hi_le hjl hFine fun t' w9 ht' hti e9 => ?_
 have x9 := x8.trans e9
 have tx9 := x9.ext_get tx6
 simp only [nn_eqT, addr_add]
 refine aggSt_r tx9 rfl rfl (by show 0 + 2 + 1 ≤ 4; decide) fun w10 u10 n10 _ => ?_
 have n10 : w10.heap[p]? = some (txO e lim t'.ptr a) := n10
 have nt10 : ∀ t, t ≠ 107 → NoTy w9 (fun k => k = p) t := fun t ht => NoTy.box tx9 (fun h => ht h.symm)
 have ht10 : t'.In w10 := ht'.ty u10 (nt10 _ (by decide))
 have o10 : Old w w10 a0 a := (o6.ty x9 (no_ext _ _)).ty u10 (nt10 _ (by decide))
 have uA : Upd (Wr w O) w w10 := by
  have hp' : Wr w O p := ⟨h.op, NoTy.box tx (by decide) p rfl⟩
  have v3 : Upd (Wr w O) w w3 := Upd.of_ext x3
  have v4 : Upd (Wr w O) w w4 := v3.trans (u4.mono fun k _ hk => hk.elim (fun h => h ▸ hp') fun h => ⟨aO k h, NoTy.blk own.in (by decide) k h⟩)
  have v5 : Upd (Wr w O) w w5 := v4.new u5 fun k hk hS => by have := rowL4.blk_ge hS; have := x2.size; omega
  have v6 : Upd (Wr w O) w w6 := v5.new u6 fun k hk hS => by have := rowA.blk_ge hS; have := x2.size; omega
  exact (v6.trans (Upd.of_ext x9)).trans (u10.mono fun k _ hk => hk ▸ hp')
 have hsz10 := uA.size
 have own10 := (own6.ext x9).ty u10 (nt10 _ (by decide))
 have hlA : (ab ++ bts e put).length = a.len := by have := own10.len1; rwa [List.length_map] at this
 rw [List.length_append] at hlA
 refine hK (fun k => O k ∨ (w.heap.size ≤ k ∧ k < w10.heap.size)) (M.take i ++ (ML ++ MF ++ MR) ++ M.drop (min (j + 1) tr.items.length)) w10 ⟨⟨t', a, ab ++ bts e put, n10, ht10, ?_, own10, ?_, ?_, ?_, by omega⟩, lims, by rw [ea]; exact hroom, .inl h.op, ?_⟩ ea uA (fun k hk => .inl hk) (fun k hk => hk.imp id fun h => h.1)
 ·rw [hti]
  exact (its_all.ext x9).ty u10 (nt10 _ (by decide))
 ·rw [hti]
  have oldT : ∀ x : Pc, (∃ b, By w x.bytes b) → (∀ k, x.bytes.blk k → a0.blk k → top x.bytes ≤ top a0) → ∀ k, x.bytes.blk k → a.blk k → top x.bytes ≤ top a := fun x ⟨b, hb⟩ htp => (o10 x.bytes b hb htp).2
  intro x hx
  rcases List.mem_append.1 hx with hx | hx
  ·rcases List.mem_append.1 hx with hx | hx
   ·exact oldT x (hi.by_ x (List.mem_of_mem_take hx)) (tops x (List.mem_of_mem_take hx))
   ·rcases List.mem_append.1 hx with hx | hx
    ·rcases List.mem_append.1 hx with hx | hx
     ·exact oldT x (itsL.by_ x hx) (topL x hx)
     ·exact topF x hx
    ·exact oldT x (itsR.by_ x hx) (topR x hx)
  ·exact oldT x (hi.by_ x (List.mem_of_mem_drop hx)) (tops x (List.mem_of_mem_drop hx))
 ·rw [hti]
  intro x hx k hk
  have new : w3.heap.size ≤ k → (∃ b, By w10 x.bytes b) → O k ∨ (w.heap.size ≤ k ∧ k < w10.heap.size) := fun h1 ⟨b, hb⟩ => .inr ⟨by have := x3.size; omega, hb.blk_lt hk⟩
  rcases List.mem_append.1 hx with hx | hx
  ·rcases List.mem_append.1 hx with hx | hx
   ·exact .inl (pO x (List.mem_of_mem_take hx) k hk)
   ·rcases List.mem_append.1 hx with hx | hx
    ·rcases List.mem_append.1 hx with hx | hx
     ·exact .inl (oL x hx k hk)
     ·rcases blkF x hx k hk with h1 | h1
      ·exact .inl (aO k h1)
      ·exact new h1 (((itsF6.ext x9).ty u10 (nt10 _ (by decide))).by_ x hx)
    ·exact .inl (oR x hx k hk)
  ·exact .inl (pO x (List.mem_of_mem_drop hx) k hk)
 ·intro k hk
  rcases blkA k hk with h1 | h1
  ·exact .inl (aO k h1)
  ·exact .inr ⟨by have := x3.size; omega, own10.in.blk_lt hk⟩
 ·intro k hk
  rcases hk with hk | hk
  ·have := h.own k hk; omega
  ·exact hk.2
end
section
variable {w w' W W' : World} {S : Nat → Prop} {p : Nat} {e : Enc} {lim na : Nat} {O : Nat → Prop} {M : Parts} {tp : Option Addr} {a0 a : Sl}
abbrev edT (f t : Nat) (s : Sl) : Cells.T c83 := ((f : Int), (t : Int), s, ())
theorem Txt.lim_ (h : Txt w p e lim na O M) : w.cell? ⟨p, 1, none⟩ = some (.int .i64 (lim : Int)) := by
 obtain ⟨t, a, ab, h1, _⟩ := h.ex
 exact cell_of h1 rfl
theorem szs_prs_take (e : Enc) (l : List Int) {i : Nat} {v : Int} (hv : l[i]? = some v) : szs (prs e (l.take (i + 1))) = szs (prs e (l.take i)) + sz e v := by
 rw [List.take_add_one, hv]
 simp [prs, szs_append, szs_cons, szs_nil]
theorem szs_prs_le (e : Enc) (l : List Int) (i : Nat) : szs (prs e (l.take i)) ≤ szs (prs e l) := by
 have : prs e l = prs e (l.take i) ++ prs e (l.drop i) := by unfold prs; rw [← List.map_append, List.take_append_drop]
 rw [this, szs_append]; omega
theorem refuse_call {f t : Nat} {s sp : Sl} {ty ty' : TypeId} {put : List Int} (h : Txt w p e lim na O M) (hft : f ≤ t) (hto : t ≤ (aOf e M).length) (hs : SlIn w s ty 3 (flat c83 [edT f t sp])) (hp : SlIn w sp ty' 1 (iv put)) (hfit : Fit e put) (hput : put.length < 2 ^ 40) (hb : (bts e put).length < 2 ^ 40)
  (hroom : szs ((aOf e M).take f ++ prs e put ++ (aOf e M).drop t) ≤ lim) {K : Int → World → Prop} (hK : ∀ w', Ext w w' → K 0 w') :
  callT Tryz.prog 77 #[.pointer (some (at0 p)), .slice s.a s.len s.cap] (.one (.one (.int .i64))) K w := by
 refine F77_calls ?_
 unfold F77
 have few := h.few; have lims := h.lims; have hsz := h.sz
 have hl1 : 1 = s.len := by have := SlIn.lenR (cs := c83) (xs := [edT f t sp]) hs (by decide); simpa using this
 have hpl : put.length = sp.len := by have := hp.len1; rwa [List.length_map] at this
 have ht13 : szs (aOf e M) = szs ((aOf e M).take t) + szs ((aOf e M).drop t) := by conv => lhs; rw [← List.take_append_drop t (aOf e M)]; rw [szs_append]
 have htf : szs ((aOf e M).take f) ≤ szs ((aOf e M).take t) := by
  have h2 : (aOf e M).take t = (aOf e M).take f ++ ((aOf e M).take t).drop f := by
   conv => lhs; rw [← List.take_append_drop f ((aOf e M).take t)]
   rw [List.take_take, Nat.min_eq_left hft]
  rw [h2, szs_append]; omega
 rw [szs_append, szs_append] at hroom
 have hbl := bts_len hfit
 refine sif_r (fun hc => ?_) (fun _ => ?_)
 ·simp only [decide_eq_true_eq, gt_iff_lt] at hc; omega
 have rdE : ∀ {V : World} {K : Addr → Cells.T c83 → World → Prop}, Ext w V → (∀ q, K q (edT f t sp) V) → ix s.a s.len ((0 : Nat) : Int) (fun q => lds c83 (q.add (scaled (Int.toNat ((0 : Nat) : Int)) 3)) (K q)) V := fun x hk => ix_lds (cs := c83) (xs := [edT f t sp]) (hs.ext x) (by decide) (by decide) rfl hk
 have ew1 : IntKind.wrap .i64 (((0 : Nat) : Int) + 1) = ((1 : Nat) : Int) := by decide
 refine len_call h fun w1 e1 => ?_
 refine join_r (fun _ W => Ext w W) ?_ ?_
 ·refine sloop_r (fun x W => ((x = (0, ((0 : Nat) : Int), ())) ∨ x.2.1 = ((1 : Nat) : Int)) ∧ Ext w W) (fun x _ => (1 - x.2.1).toNat) ⟨.inl rfl, e1⟩ ?_
  rintro x W ⟨rfl | hx, eW⟩
  ·refine sif_r (fun _ => ?_) (fun hc => ?_)
   ·refine rdE eW fun q => (St.start W).newO fun b8 w2 S2 e2 => S2.aggSt 0 rfl rfl rfl rfl fun w3 S3 u3 => ?_
    refine join_r (fun x W' => x = (false, ()) ∧ w3 = W') ?_ ?_
    ·refine S3.ld 0 rfl (x := (f : Int)) rfl (sif_r (fun hc => ?_) (fun _ => S3.ld 0 rfl (x := (t : Int)) rfl (S3.ld 0 rfl (x := (f : Int)) rfl (sif_r (fun hc => ?_) (fun _ => S3.ld 0 rfl (x := (t : Int)) rfl ⟨tupb ?_, rfl⟩)))))
     ·simp only [decide_eq_true_eq] at hc; omega
     ·simp only [decide_eq_true_eq] at hc; omega
     ·simp only [decide_eq_true_eq, gt_iff_lt, Bool.false_eq_true, iff_false]; omega
    rintro _ _ ⟨rfl, rfl⟩
    refine sif_false (S3.ld 0 rfl (x := (t : Int)) rfl ⟨⟨.inr ?_, eW.trans S3.upd⟩, ?_⟩)
    ·exact ew1
    ·show (1 - IntKind.wrap .i64 (((0 : Nat) : Int) + 1)).toNat < (1 - ((0 : Nat) : Int)).toNat
     rw [ew1]; decide
   ·exact eW
  ·refine sif_r (fun hc => ?_) (fun _ => eW)
   simp only [decide_eq_true_eq] at hc; omega
 rintro _ w2 e2
 refine sizeB_call (h.ext e2) fun w3 e3 => ?_
 have x3 := e2.trans e3
 obtain ⟨B0, hB0⟩ : ∃ B0, B0 = szs (aOf e M) := ⟨_, rfl⟩
 rw [← hB0]
 refine join_r (fun x W => x = (((B0 + (bts e put).length : Nat) : Int), ()) ∧ Ext w W) ?_ ?_
 ·refine sloop_r (fun x W => ((x = ((B0 : Int), ((0 : Nat) : Int), ())) ∨ x = (((B0 + (bts e put).length : Nat) : Int), ((1 : Nat) : Int), ())) ∧ Ext w W) (fun x _ => (1 - x.2.1).toNat) ⟨.inl rfl, x3⟩ ?_
  rintro _ W ⟨rfl | rfl, eW⟩
  ·refine sif_r (fun _ => ?_) (fun hc => ?_)
   ·refine join_r (fun x W => x = (((B0 + (bts e put).length : Nat) : Int), ()) ∧ Ext w W) ?_ ?_
    ·refine rdE eW fun q => (St.start W).newO fun b8 w4 S4 e4 => S4.aggSt 0 rfl rfl rfl rfl fun w5 S5 u5 => S5.ld 0 rfl (x := sp) rfl ?_
     refine sloop_r (fun x V => (∃ i : Nat, i ≤ put.length ∧ x = (((B0 + szs (prs e (put.take i)) : Nat) : Int), (i : Int), ())) ∧ Ext w V) (fun x _ => ((put.length : Int) - x.2.1).toNat) ⟨⟨0, Nat.zero_le _, by simp [prs, szs_nil]⟩, eW.trans S5.upd⟩ ?_
     rintro _ V ⟨⟨i, hi, rfl⟩, eV⟩
     refine sif_r (fun hc => ?_) (fun hc => ?_)
     ·simp only [decide_eq_true_eq] at hc
      obtain ⟨v, hv⟩ : ∃ v, put[i]? = some v := ⟨_, List.getElem?_eq_getElem (by omega)⟩
      have hf := hfit v (List.mem_of_getElem? hv)
      dsimp only
      refine ix_ld (c := .int .i64) (xs := put) (hp.ext eV) (by omega) (x := v) (by rw [Int.toNat_natCast]; exact hv) fun q2 => (h.ext eV).enc (size_call fun w6 e6 => ?_)
      refine sif_r (fun hc => ?_) (fun _ => ?_)
      ·simp only [beq_iff_eq] at hc; have := hf.2; omega
      have hstep := szs_prs_take e put hv
      have hle := szs_prs_le e put (i + 1)
      have ewi : IntKind.wrap .i64 ((i : Int) + 1) = ((i + 1 : Nat) : Int) := by rw [wrap64 (by omega) (by omega)]; omega
      have ewb : IntKind.wrap .i64 (((B0 + szs (prs e (put.take i)) : Nat) : Int) + ((sz e v : Nat) : Int)) = ((B0 + szs (prs e (put.take (i + 1))) : Nat) : Int) := by rw [wrap64 (by omega) (by omega)]; omega
      rw [ewi, ewb]
      exact ⟨⟨⟨i + 1, by omega, rfl⟩, eV.trans e6⟩, by omega⟩
     ·simp only [decide_eq_false_iff_not] at hc
      have : i = put.length := by omega
      subst this
      rw [List.take_length, ← hbl]
      exact ⟨rfl, eV⟩
    rintro _ V ⟨rfl, eV⟩
    refine ⟨⟨.inr ?_, eV⟩, ?_⟩
    ·rw [ew1]
    ·show (1 - IntKind.wrap .i64 (((0 : Nat) : Int) + 1)).toNat < (1 - ((0 : Nat) : Int)).toNat
     rw [ew1]; decide
   ·simp only [decide_eq_false_iff_not] at hc; omega
  ·refine sif_r (fun hc => ?_) (fun _ => ⟨rfl, eW⟩)
   simp only [decide_eq_true_eq] at hc; omega
 rintro _ w4 ⟨rfl, e4⟩
 obtain ⟨T, hT⟩ : ∃ T, T = szs ((aOf e M).take f) + (bts e put).length + szs ((aOf e M).drop t) := ⟨_, rfl⟩
 refine join_r (fun x W => x = ((T : Int), ()) ∧ Ext w W) ?_ ?_
 ·refine sloop_r (fun x W => ((x = (((B0 + (bts e put).length : Nat) : Int), ((0 : Nat) : Int), ())) ∨ x = ((T : Int), ((1 : Nat) : Int), ())) ∧ Ext w W) (fun x _ => (1 - x.2.1).toNat) ⟨.inl rfl, e4⟩ ?_
  rintro _ W ⟨rfl | rfl, eW⟩
  ·refine sif_r (fun _ => ?_) (fun hc => ?_)
   ·refine join_r (fun x W => x = ((T : Int), ()) ∧ Ext w W) ?_ ?_
    ·refine rdE eW fun q => (St.start W).newO fun b8 w5 S5 e5 => S5.aggSt 0 rfl rfl rfl rfl fun w6 S6 u6 => S6.ld 0 rfl (x := (t : Int)) rfl (S6.ld 0 rfl (x := (f : Int)) rfl ?_)
     refine sif_r (fun hc => ?_) (fun hc => ?_)
     ·refine S6.drew fun w7 S7 e7 _ => S7.ld 0 rfl (x := (t : Int)) rfl (S7.ld 0 rfl (x := (f : Int)) rfl ?_)
      refine ahead_call (h.ext (eW.trans S7.upd)) hto fun w8 e8 => ?_
      have S8 := S7.ext e8
      refine S8.keep 0 rfl (v := .int .i64 (f : Int)) rfl (ahead_call (h.ext (eW.trans S8.upd)) (by omega) fun w9 e9 => ?_)
      have q1 : (smT (msr ((aOf e M).take t))).2.1 = ((szs ((aOf e M).take t) : Nat) : Int) := by show (((msr _).bytes : Nat) : Int) = _; rw [msr_bytes ((aOf_posd e M).take t)]
      have q2 : (smT (msr ((aOf e M).take f))).2.1 = ((szs ((aOf e M).take f) : Nat) : Int) := by show (((msr _).bytes : Nat) : Int) = _; rw [msr_bytes ((aOf_posd e M).take f)]
      rw [q1, q2]
      refine ⟨?_, eW.trans (S8.ext e9).upd⟩
      dsimp only
      rw [wrap64 (a := ((szs ((aOf e M).take t) : Nat) : Int) - ((szs ((aOf e M).take f) : Nat) : Int)) (by omega) (by omega), wrap64 (by omega) (by omega)]
      congr 1; omega
     ·simp only [decide_eq_false_iff_not, gt_iff_lt] at hc
      have : f = t := by omega
      subst this
      refine ⟨?_, eW.trans S6.upd⟩
      dsimp only
      congr 1; omega
    rintro _ V ⟨rfl, eV⟩
    refine ⟨⟨.inr ?_, eV⟩, ?_⟩
    ·rw [ew1]
    ·show (1 - IntKind.wrap .i64 (((0 : Nat) : Int) + 1)).toNat < (1 - ((0 : Nat) : Int)).toNat
     rw [ew1]; decide
   ·simp only [decide_eq_false_iff_not] at hc; omega
  ·refine sif_r (fun hc => ?_) (fun _ => ⟨rfl, eW⟩)
   simp only [decide_eq_true_eq] at hc; omega
 rintro _ w5 ⟨rfl, e5⟩
 simp only [nn_eqT, addr_add]
 refine ld_of (x := (lim : Int)) (h.ext e5).lim_ (sif_r (fun hc => ?_) (fun _ => hK w5 e5))
 simp only [decide_eq_true_eq, gt_iff_lt] at hc; omega
theorem change_call {f t : Nat} {s sp : Sl} {ty ty' : TypeId} {put : List Int} (h : Txt w p e lim na O M) (hft : f ≤ t) (hto : t ≤ (aOf e M).length) (hs : SlIn w s ty 3 (flat c83 [edT f t sp])) (hsep : ∀ k, s.blk k → ¬ O k) (hp : SlIn w sp ty' 1 (iv put)) (hsp : ∀ k, sp.blk k → ¬ O k) (hfit : Fit e put) (hput : put.length < 2 ^ 40) (hna : na + (bts e put).length < 2 ^ 40)
  (hroom : szs ((aOf e M).take f ++ prs e put ++ (aOf e M).drop t) ≤ lim) {K : Int → World → Prop}
  (hK : ∀ O' M' w', Txt w' p e lim (na + (bts e put).length) O' M' → aOf e M' = (aOf e M).take f ++ prs e put ++ (aOf e M).drop t → Upd (Wr w O) w w' → (∀ k, O k → O' k) → (∀ k, O' k → O k ∨ w.heap.size ≤ k) → K 0 w') :
  callT Tryz.prog 50 #[.pointer (some (at0 p)), .slice s.a s.len s.cap] (.one (.one (.int .i64))) K w := by
 refine F50_calls ?_
 unfold F50
 have hl1 : 1 = s.len := by have := SlIn.lenR (cs := c83) (xs := [edT f t sp]) hs (by decide); simpa using this
 have hpl : put.length = sp.len := by have := hp.len1; rwa [List.length_map] at this
 refine refuse_call h hft hto hs hp hfit hput (by omega) hroom fun w1 e1 => sif_false ?_
 have ew0 : IntKind.wrap .i64 (((s.len : Nat) : Int) - 1) = 0 := by rw [← hl1]; decide
 rw [ew0]
 refine join_r (fun _ W => ∃ O' M', Txt W p e lim (na + (bts e put).length) O' M' ∧ aOf e M' = (aOf e M).take f ++ prs e put ++ (aOf e M).drop t ∧ Upd (Wr w O) w W ∧ (∀ k, O k → O' k) ∧ (∀ k, O' k → O k ∨ w.heap.size ≤ k)) ?_ (fun _ W ⟨O', M', g1, g2, g3, g4, g5⟩ => hK O' M' W g1 g2 g3 g4 g5)
 refine sloop_r (fun x W => (x = (((0 : Nat) : Int), ()) ∧ Ext w W) ∨ (x = (-1, ()) ∧ ∃ O' M', Txt W p e lim (na + (bts e put).length) O' M' ∧ aOf e M' = (aOf e M).take f ++ prs e put ++ (aOf e M).drop t ∧ Upd (Wr w O) w W ∧ (∀ k, O k → O' k) ∧ (∀ k, O' k → O k ∨ w.heap.size ≤ k))) (fun x _ => (x.1 + 1).toNat) (.inl ⟨rfl, e1⟩) ?_
 rintro _ W (⟨rfl, eW⟩ | ⟨rfl, hR⟩)
 ·refine sif_r (fun _ => ?_) (fun hc => ?_)
  ·refine join_r (fun _ W => ∃ O' M', Txt W p e lim (na + (bts e put).length) O' M' ∧ aOf e M' = (aOf e M).take f ++ prs e put ++ (aOf e M).drop t ∧ Upd (Wr w O) w W ∧ (∀ k, O k → O' k) ∧ (∀ k, O' k → O k ∨ w.heap.size ≤ k)) ?_ ?_
   ·refine ix_lds (cs := c83) (xs := [edT f t sp]) (hs.ext eW) (by decide) (by decide) (x := edT f t sp) rfl fun q => (St.start W).newO fun b8 w2 S2 e2 => S2.aggSt 0 rfl rfl rfl rfl fun w3 S3 u3 => ?_
    refine join_r (fun x W' => x = (decide (f < t ∨ 0 < put.length), ()) ∧ w3 = W') ?_ ?_
    ·refine S3.ld 0 rfl (x := (f : Int)) rfl (S3.ld 0 rfl (x := (t : Int)) rfl (sif_r (fun hc => ⟨tupb ?_, rfl⟩) (fun hc => S3.ld 0 rfl (x := sp) rfl ⟨tupb ?_, rfl⟩)))
     all_goals simp only [decide_eq_true_eq, decide_eq_false_iff_not, true_iff, gt_iff_lt] at *
     all_goals omega
    rintro _ _ ⟨rfl, rfl⟩
    have x3 := eW.trans S3.upd
    refine sif_r (fun hc => ?_) (fun hc => ?_)
    ·refine S3.ld 0 rfl (x := (f : Int)) rfl (S3.ld 0 rfl (x := (t : Int)) rfl (S3.ld 0 rfl (x := sp) rfl ?_))
     refine treplace_call (h.ext x3) hft hto (hp.ext x3) hsp hfit hna hput hroom fun O' M' w4 tx4 ea u4 o1 o2 => ?_
     exact ⟨O', M', tx4, ea, Upd.new (Upd.of_ext x3) u4 (fun k hk hq => ⟨hq.1, fun c fr hc => hq.2 c fr (x3.ext_get hc)⟩), o1, fun k hk => (o2 k hk).imp id fun h => by have := x3.size; omega⟩
    ·simp only [decide_eq_false_iff_not, not_or] at hc
     obtain rfl : f = t := by omega
     obtain rfl : put = [] := List.length_eq_zero_iff.1 (by omega)
     exact ⟨O, M, h.ext x3, by simp [prs], Upd.of_ext x3, fun k hk => hk, fun k hk => .inl hk⟩
   ·rintro _ W' hR
    exact ⟨.inr ⟨rfl, hR⟩, by show (IntKind.wrap .i64 (((0 : Nat) : Int) - 1) + 1).toNat < (((0 : Nat) : Int) + 1).toNat; decide⟩
  ·simp only [decide_eq_false_iff_not] at hc; omega
 ·exact sif_false hR
end
end Go.Proofs.YtabcpghhfeplaaaGreat
namespace Go.Proofs.YtabcpghhfeplaaaGreat
open Go Go.Vx Cdc Trx Gly Clu Lns Obx
section
variable {w w' : World} {S : Nat → Prop} {p : Nat} {e : Enc} {lim na : Nat} {O : Nat → Prop} {M : Parts}
def Asc (l : List Int) : Prop := ∀ v ∈ l, 0 ≤ v ∧ v < 128
theorem Asc.fit {l : List Int} (h : Asc l) (e : Enc) : Fit e l := by
 intro v hv
 obtain ⟨h1, h2⟩ := h v hv
 refine ⟨.inl ⟨h1, by omega⟩, ?_⟩
 cases e with
 | u8 => show sz8 v ≠ 0; unfold sz8; split <;> (try split) <;> (try split) <;> (try split) <;> (try split) <;> omega
 | le => show sz16 v ≠ 0; unfold sz16; split <;> (try split) <;> (try split) <;> (try split) <;> (try split) <;> omega
 | be => show sz16 v ≠ 0; unfold sz16; split <;> (try split) <;> (try split) <;> (try split) <;> (try split) <;> omega
 | l1 => show sz1 v ≠ 0; unfold sz1; split <;> (try split) <;> (try split) <;> (try split) <;> (try split) <;> omega
theorem Asc.sz {v : Int} (h : 0 ≤ v ∧ v < 128) (e : Enc) : sz e v ≤ 4 := by
 cases e with
 | u8 => show sz8 v ≤ 4; unfold sz8; split <;> (try split) <;> (try split) <;> (try split) <;> (try split) <;> omega
 | le => show sz16 v ≤ 4; unfold sz16; split <;> (try split) <;> (try split) <;> (try split) <;> (try split) <;> omega
 | be => show sz16 v ≤ 4; unfold sz16; split <;> (try split) <;> (try split) <;> (try split) <;> (try split) <;> omega
 | l1 => show sz1 v ≤ 4; unfold sz1; split <;> (try split) <;> (try split) <;> (try split) <;> (try split) <;> omega
theorem Asc.szs {e : Enc} : ∀ {l : List Int}, Asc l → szs (prs e l) ≤ 4 * l.length
 | [], _ => Nat.le_refl _
 | a :: l, h => by
  have h1 := Asc.sz (h a List.mem_cons_self) e
  have h2 := Asc.szs (e := e) (l := l) fun x hx => h x (List.mem_cons_of_mem _ hx)
  show Cdc.szs ((a, Cdc.sz e a) :: prs e l) ≤ _
  rw [szs_cons, List.length_cons]
  show Cdc.sz e a + _ ≤ _
  omega
theorem push {r : Sl} {l : List Int} {v : Int} {b N : Nat} {K : Sl → World → Prop} (hr : SlOwn w N r 3 1 (iv l)) (hb : w.heap[b]? = some (.cells #[.int .i64 v] 3 (0, 0))) (hl : l.length < 2 ^ 40) (hN : N ≤ w.heap.size)
  (hK : ∀ r' w', SlOwn w' N r' 3 1 (iv (l ++ [v])) → Upd r.blk w w' → K r' w') :
  rawT Tryz.prog (.one (.one .sl)) (Builtin.append_ #[26, 26] 26 #[.slice r.a r.len r.cap, .slice (some (at0 b)) 1 1]) K w := by
 have hrl := hr.len1
 rw [List.length_map] at hrl
 refine append_rx eInts eInts.ts_ (x := ⟨some (at0 b), 1, 1⟩) hr (iv_box hb) (fun v hv => by rw [List.mem_singleton.1 hv]; rfl) (by
  show (r.len + 1 + (r.len + 1) / 4 + 512) * 8 ≤ 2 ^ 48
  omega) hN fun r' w' o l' u k => hK r' w' ?_ u
 have : iv (l ++ [v]) = iv l ++ [.int .i64 v] := by simp
 rw [this]; exact o
theorem joined_call {A B : List Int} {s s' : Sl} {t t' : TypeId} (hs : SlIn w s t 1 (iv A)) (hs' : SlIn w s' t' 1 (iv B)) (hA : A.length < 2 ^ 39) (hB : B.length < 2 ^ 39) {K : Sl → World → Prop} (hK : ∀ r w', SlOwn w' w.heap.size r 3 1 (iv (A ++ B)) → Ext w w' → K r w') :
  callT Tryz.prog 32 #[.slice s.a s.len s.cap, .slice s'.a s'.len s'.cap] (.one (.one .sl)) K w := by
 refine F32_calls ?_
 unfold F32
 have hlen : B.length = s'.len := by have := hs'.len1; rwa [List.length_map] at this
 refine copied_call hs (by omega) fun r1 w1 o1 e1 => ?_
 refine join_r (fun x W => SlOwn W w.heap.size x.1 3 1 (iv (A ++ B)) ∧ Ext w W) ?_ (fun x W h => hK _ _ h.1 h.2)
 refine sloop_r (fun x W => ∃ i : Nat, i ≤ B.length ∧ x.2 = ((i : Int), ()) ∧ SlOwn W w.heap.size x.1 3 1 (iv (A ++ B.take i)) ∧ Ext w W) (fun x _ => ((B.length : Int) - x.2.1).toNat) ⟨0, Nat.zero_le _, rfl, by rw [List.take_zero, List.append_nil]; exact o1, e1⟩ ?_
 rintro ⟨r, _⟩ W ⟨i, hi, rfl, hr, eW⟩
 dsimp only at hr ⊢
 refine sif_r (fun hc => ?_) (fun hc => ?_)
 ·simp only [decide_eq_true_eq] at hc
  obtain ⟨a, ha⟩ : ∃ a, B[i]? = some a := ⟨_, List.getElem?_eq_getElem (by omega)⟩
  have ew : IntKind.wrap .i64 ((i : Int) + 1) = ((i + 1 : Nat) : Int) := by rw [wrap64 (by omega) (by omega)]; omega
  rw [ew]
  refine ix_ld (c := .int .i64) (xs := B) (hs'.ext eW) (by omega) (x := a) (by rw [Int.toNat_natCast]; exact ha) fun q => newO_r fun b7 w4 e4 n4 hb4 _ => ?_
  refine push (hr.ext e4) n4 (by rw [List.length_append, List.length_take]; omega) (by have := eW.size; have := e4.size; omega) fun r' w5 o5 u5 => ?_
  rw [List.append_assoc, show B.take i ++ [a] = B.take (i + 1) by rw [List.take_add_one, ha]; rfl] at o5
  exact ⟨⟨i + 1, by omega, rfl, o5, (eW.trans e4).step u5 fun k hk => hr.blk_ge hk⟩, by omega⟩
 ·simp only [decide_eq_false_iff_not] at hc
  rw [List.take_of_length_le (by omega)] at hr
  exact ⟨hr, eW⟩
def plain1 (x : Int) : Int := if x = 10 ∨ x = 13 then x else 32 + ((BitVec.ofInt 64 x &&& BitVec.ofInt 64 95).toNat : Int)
def plainL (l : List Int) : List Int := (l.take 16).map plain1
theorem plain1_asc (x : Int) : 0 ≤ plain1 x ∧ plain1 x < 128 := by
 unfold plain1
 split
 ·omega
 ·have : (BitVec.ofInt 64 x &&& BitVec.ofInt 64 95).toNat ≤ 95 := by
   rw [BitVec.toNat_and]
   exact Nat.le_trans Nat.and_le_right (by decide)
  omega
theorem plainL_asc (l : List Int) : Asc (plainL l) := by
 intro v hv
 obtain ⟨x, _, rfl⟩ := List.mem_map.1 hv
 exact plain1_asc x
theorem plainL_len (l : List Int) : (plainL l).length ≤ 16 := by unfold plainL; rw [List.length_map, List.length_take]; omega
theorem plain_call {s : Sl} {l : List Int} (hs : SlX w s 1 (iv l)) (hl : l.length < 2 ^ 60) {K : Sl → World → Prop} (hK : ∀ r w', SlOwn w' w.heap.size r 3 1 (iv (plainL l)) → Ext w w' → K r w') :
  callT Tryz.prog 26 #[.slice s.a s.len s.cap] (.one (.one .sl)) K w := by
 refine F26_calls ?_
 unfold F26
 have hlen : l.length = s.len := by have := hs.len1; rwa [List.length_map] at this
 refine join_r (fun x W => SlOwn W w.heap.size x.1 3 1 (iv (plainL l)) ∧ Ext w W) ?_ (fun x W h => hK _ _ h.1 h.2)
 refine sloop_r (fun x W => ∃ i : Nat, i ≤ l.length ∧ i ≤ 16 ∧ x.2 = ((i : Int), ()) ∧ SlOwn W w.heap.size x.1 3 1 (iv ((l.take i).map plain1)) ∧ Ext w W) (fun x _ => ((16 : Int) - x.2.1).toNat) ⟨0, Nat.zero_le _, Nat.zero_le _, rfl, SlOwn.nil _ _ _ _, Ext.refl w⟩ ?_
 rintro ⟨r, _⟩ W ⟨i, hi, hi2, rfl, hr, eW⟩
 dsimp only at hr ⊢
 refine join_r (fun x W' => x = (decide (i < l.length ∧ i < 16), ()) ∧ W = W') ?_ ?_
 ·refine sif_r (fun h => ⟨tupb ?_, rfl⟩) (fun h => ⟨tupb ?_, rfl⟩)
  all_goals simp only [decide_eq_true_eq, decide_eq_false_iff_not, Bool.false_eq_true, false_iff] at *
  all_goals omega
 rintro _ _ ⟨rfl, rfl⟩
 refine sif_r (fun hc => ?_) (fun hc => ?_)
 ·simp only [decide_eq_true_eq] at hc
  obtain ⟨a, ha⟩ : ∃ a, l[i]? = some a := ⟨_, List.getElem?_eq_getElem hc.1⟩
  have ew : IntKind.wrap .i64 ((i : Int) + 1) = ((i + 1 : Nat) : Int) := by rw [wrap64 (by omega) (by omega)]; omega
  rw [ew]
  refine ix_ldX (c := .int .i64) (xs := l) (hs.ext eW) (by omega) (x := a) (by rw [Int.toNat_natCast]; exact ha) fun q => ?_
  refine join_r (fun x W' => x = (plain1 a, ()) ∧ W = W') ?_ ?_
  ·refine join_r (fun x W' => x = (decide (¬ (a = 10 ∨ a = 13)), ()) ∧ W = W') ?_ ?_
   ·refine sif_r (fun h => ⟨tupb ?_, rfl⟩) (fun h => ⟨tupb ?_, rfl⟩)
    ·simp only [bne_iff_ne, ne_eq, decide_eq_true_eq] at *; omega
    ·simp only [bne_eq_false_iff_eq, Bool.false_eq_true, decide_eq_true_eq, false_iff] at *; omega
   rintro _ _ ⟨rfl, rfl⟩
   have hr95 : (BitVec.ofInt 64 a &&& BitVec.ofInt 64 95).toNat ≤ 95 := by
    rw [BitVec.toNat_and]
    exact Nat.le_trans Nat.and_le_right (by decide)
   refine sif_r (fun h => ⟨?_, rfl⟩) (fun h => ⟨?_, rfl⟩)
   ·simp only [decide_eq_true_eq] at h
    unfold plain1
    rw [if_neg h]
    show (IntKind.wrap .i64 (32 + IntKind.wrap .i64 ((BitVec.ofInt 64 a &&& BitVec.ofInt 64 95).toNat : Int)), ()) = _
    rw [wrap64 (a := ((BitVec.ofInt 64 a &&& BitVec.ofInt 64 95).toNat : Int)) (by omega) (by omega), wrap64 (by omega) (by omega)]
   ·simp only [decide_eq_false_iff_not, Decidable.not_not] at h
    unfold plain1
    rw [if_pos h]
  rintro _ _ ⟨rfl, rfl⟩
  refine newO_r fun b7 w4 e4 n4 hb4 _ => push (hr.ext e4) n4 (by rw [List.length_map, List.length_take]; omega) (by have := eW.size; have := e4.size; omega) fun r' w5 o5 u5 => ?_
  have e5 : (l.take i).map plain1 ++ [plain1 a] = (l.take (i + 1)).map plain1 := by rw [List.take_add_one, ha]; simp
  rw [e5] at o5
  exact ⟨⟨i + 1, by omega, by omega, rfl, o5, (eW.trans e4).step u5 fun k hk => hr.blk_ge hk⟩, by omega⟩
 ·simp only [decide_eq_false_iff_not] at hc
  have : l.take i = l.take 16 := by
   by_cases h : i = 16
   ·rw [h]
   ·rw [List.take_of_length_le (by omega), List.take_of_length_le (by omega)]
  rw [this] at hr
  exact ⟨hr, eW⟩
theorem eEdit {f t : Nat} {b : Nat} {s : Sl} (h : w.heap[b]? = some (.cells #[.int .i64 (f : Int), .int .i64 (t : Int), .slice s.a s.len s.cap] 83 (0, 0))) : SlIn w ⟨some (at0 b), 1, 1⟩ 83 3 (flat c83 [edT f t s]) := SlIn.of_box h (n := 1) (sz := 3) rfl
end
end Go.Proofs.YtabcpghhfeplaaaGreat
namespace Go.Proofs.YtabcpghhfeplaaaGreat
open Trx Gly Clu Lns Obx
namespace Obx
theorem sk_brk {A : List Int} {i : Nat} (h : isb A i = true) : sk A (nb A i + 1) = some (i + 1) ∧ nb A (i + 1) = nb A i + 1 := by
 have hi := isb_lt h
 have hn : nb A (i + 1) = nb A i + 1 := by rw [nb_succ, h]; rfl
 have hle : nb A i + 1 ≤ brs A := by rw [← hn, brs_nb]; exact nb_mono A _ _ (by omega)
 obtain ⟨m, hm⟩ := sk_ok hle
 obtain ⟨_, _, h3, h4⟩ := sk_get hm
 rw [hm]
 have h1 : ¬ i + 1 < m := fun hc => by have := h4 _ hc; omega
 have h2 : ¬ m < i + 1 := fun hc => by have := nb_mono A m i (by omega); omega
 exact ⟨by congr 1; omega, hn⟩
end Obx
end Go.Proofs.YtabcpghhfeplaaaGreat
namespace Go.Proofs.YtabcpghhfeplaaaGreat
open Go Go.Vx Gly Clu Rgl Lns Trx Obx
section
variable {w w' : World} {A : List Int} {s : Sl} {t : TypeId}
theorem rbreaks_call (hs : SlIn w s t 1 (iv A)) (hl : A.length < 2 ^ 40) {K : Sl → World → Prop} (hK : ∀ s' w', SlOwn w' w.heap.size s' 3 1 (nv (cuts A)) → Ext w w' → K s' w') :
  callT Tryz.prog 132 #[.slice s.a s.len s.cap] (.one (.one .sl)) K w := by
 refine F132_calls ?_
 unfold F132
 have hlen : A.length = s.len := by have := hs.len1; rwa [List.length_map] at this
 have nvi : ∀ l : List Nat, nv l = iv (l.map fun (n : Nat) => (n : Int)) := fun l => by show l.map _ = (l.map _).map _; rw [List.map_map]; rfl
 have full : (List.range (A.length + 1)).filter (bk A) = cuts A := rfl
 refine join_r (fun x W => SlOwn W w.heap.size x.1 3 1 (nv (cuts A)) ∧ Ext w W) ?_ (fun x W h => hK _ _ h.1 h.2)
 refine sloop_r (fun x W => ∃ i : Nat, i ≤ A.length + 1 ∧ x.2 = ((i : Int), ()) ∧ SlOwn W w.heap.size x.1 3 1 (nv ((List.range i).filter (bk A))) ∧ Ext w W) (fun x _ => ((A.length : Int) + 1 - x.2.1).toNat) ⟨0, Nat.zero_le _, rfl, SlOwn.nil _ _ _ _, Ext.refl w⟩ ?_
 rintro ⟨r, _⟩ W ⟨i, hi, rfl, hr, eW⟩
 dsimp only at hr ⊢
 refine sif_r (fun hc => ?_) (fun hc => ?_)
 ·simp only [decide_eq_true_eq] at hc
  have ew : IntKind.wrap .i64 ((i : Int) + 1) = ((i + 1 : Nat) : Int) := by rw [wrap64 (by omega) (by omega)]; omega
  rw [ew]
  have fl : ((List.range i).filter (bk A)).length ≤ i := by have := List.length_filter_le (bk A) (List.range i); rwa [List.length_range] at this
  refine join_r (fun x W' => SlOwn W' w.heap.size x.1 3 1 (nv ((List.range (i + 1)).filter (bk A))) ∧ Ext w W') ?_ (fun x W' h => ⟨⟨i + 1, by omega, rfl, h.1, h.2⟩, by omega⟩)
  refine risbreak_call (hs.ext eW) hl (by omega) ?_
  rw [List.range_succ, List.filter_append]
  refine sif_r (fun hb => ?_) (fun hb => ?_)
  ·rw [List.filter_cons_of_pos hb]
   rw [nvi] at hr
   refine newO_r fun b8 w4 e4 n4 hb4 _ => push (hr.ext e4) n4 (by rw [List.length_map]; omega) (by have := eW.size; have := e4.size; omega) fun r' w5 o5 u5 => ?_
   refine ⟨?_, (eW.trans e4).step u5 fun k hk => hr.blk_ge hk⟩
   rw [nvi, List.map_append]
   exact o5
  ·rw [List.filter_cons_of_neg (by rw [hb]; decide)]
   rw [show ([] : List Nat).filter (bk A) = [] from rfl, List.append_nil]
   exact ⟨hr, eW⟩
 ·simp only [decide_eq_false_iff_not] at hc
  have : i = A.length + 1 := by omega
  subst this
  rw [full] at hr
  exact ⟨hr, eW⟩
def lnF (A : List Int) : List Ln := (List.range (brs A + 1)).map fun i => (lnAt A i).getD ⟨0, 0, 0, 0⟩
theorem lnF_len (A : List Int) : (lnF A).length = brs A + 1 := by unfold lnF; simp
theorem lnF_at {A : List Int} {i : Nat} {l : Ln} (h : lnAt A i = some l) : (lnF A)[i]? = some l := by
 have := (lnAt_some h).1
 unfold lnF
 rw [List.getElem?_map, List.getElem?_range (by omega), Option.map_some, h]; rfl
abbrev lnR (l : Ln) : Cells.T c174 := ((l.from_ : Int), (l.to_ : Int), (l.next : Int), (l.kind : Int), ())
theorem eR6 : ElemOk Tryz.prog 199 174 4 32 := ElemOk.of (z := .agg #[.int .i64 0, .int .i64 0, .int .i64 0, .int .i64 0]) i199_ok i174_ok rfl rfl rfl (by decide)
theorem r6_one (l : Ln) : ∀ v ∈ flat c174 [lnR l], isOne v = true := by
 intro v hv
 rw [flat_one] at hv
 have h : v ∈ [_, _, _, _] := hv
 simp only [List.mem_cons, List.not_mem_nil, or_false] at h
 rcases h with rfl | rfl | rfl | rfl <;> rfl
theorem pushR {r : Sl} {L : List Ln} {l : Ln} {b N : Nat} {K : Sl → World → Prop} (hr : SlOwn w N r 174 4 (flat c174 (L.map lnR))) (hb : w.heap[b]? = some (.cells #[.int .i64 (l.from_ : Int), .int .i64 (l.to_ : Int), .int .i64 (l.next : Int), .int .i64 (l.kind : Int)] 174 (0, 0))) (hl : L.length < 2 ^ 40) (hN : N ≤ w.heap.size)
  (hK : ∀ r' w', SlOwn w' N r' 174 4 (flat c174 ((L ++ [l]).map lnR)) → r'.len = L.length + 1 → Upd r.blk w w' → K r' w') :
  rawT Tryz.prog (.one (.one .sl)) (Builtin.append_ #[199, 199] 199 #[.slice r.a r.len r.cap, .slice (some (at0 b)) 1 1]) K w := by
 have hrl := SlOwn.lenR (cs := c174) hr (by decide)
 rw [List.length_map] at hrl
 have hbox : SlX w ⟨some (at0 b), 1, 1⟩ 4 (flat c174 [lnR l]) := (SlIn.of_box hb (n := 1) (sz := 4) rfl).x
 refine append_rx eR6 eR6.ts_ (x := ⟨some (at0 b), 1, 1⟩) hr hbox (r6_one l) (by
  show (r.len + 1 + (r.len + 1) / 4 + 512) * 32 ≤ 2 ^ 48
  omega) hN fun r' w' o l' u k => hK r' w' ?_ (by rw [l', hrl]) u
 rw [List.map_append, flat_append]; exact o
set_option maxHeartbeats 1000000 in
theorem rall_call (hs : SlIn w s t 1 (iv A)) (hl : A.length < 2 ^ 39) {K : Sl × Int × Unit → World → Prop} (hK : ∀ s' w', SlOwn w' w.heap.size s' 174 4 (flat c174 ((lnF A).map lnR)) → Ext w w' → K (s', ((lnN A : Nat) : Int), ()) w') :
  callT Tryz.prog 154 #[.slice s.a s.len s.cap] (.tup [(.one .sl), (.one (.int .i64))]) K w := by
 refine F154_calls ?_
 unfold F154
 have hlen : A.length = s.len := by have := hs.len1; rwa [List.length_map] at this
 have hbr : brs A ≤ A.length := by rw [brs_nb]; exact nb_le _ _
 have hF := lnF_len A
 have grow : ∀ {i m : Nat} {l : Ln}, i = m → lnAt A i = some l → (lnF A).take (m + 1) = (lnF A).take m ++ [l] := fun {i m l} e h => by
  subst e; rw [List.take_add_one, lnF_at h]; rfl
 refine join_r (fun x W => ∃ f : Nat, SlOwn W w.heap.size x.1 174 4 (flat c174 (((lnF A).take (brs A)).map lnR)) ∧ x.2 = ((f : Int), ()) ∧ sk A (brs A) = some f ∧ Ext w W) ?_ ?_
 ·refine sloop_r (fun x W => ∃ i f : Nat, i ≤ A.length ∧ x.2 = ((f : Int), (i : Int), ()) ∧ sk A (nb A i) = some f ∧ f ≤ i ∧ (f < i → A[i]? = some 10 → A[i - 1]? ≠ some 13) ∧ SlOwn W w.heap.size x.1 174 4 (flat c174 (((lnF A).take (nb A i)).map lnR)) ∧ Ext w W) (fun x _ => ((A.length : Int) - x.2.2.1).toNat) ⟨0, 0, Nat.zero_le _, rfl, by rw [nb_zero, sk_zero], Nat.le_refl _, (fun h => by omega), by rw [nb_zero]; exact SlOwn.nil _ _ _ _, Ext.refl w⟩ ?_
  rintro ⟨r, _⟩ W ⟨i, f, hi, rfl, hsk, hfi, hmid, hr, eW⟩
  dsimp only at hr ⊢
  have hnb : nb A i ≤ brs A := by rw [brs_nb]; exact nb_mono A _ _ hi
  have tkl : ((lnF A).take (nb A i)).length < 2 ^ 40 := by rw [List.length_take]; omega
  refine sif_r (fun hc => ?_) (fun hc => ?_)
  ·simp only [decide_eq_true_eq] at hc
   have hil : i < A.length := by omega
   obtain ⟨v, hv⟩ : ∃ v, A[i]? = some v := ⟨_, List.getElem?_eq_getElem hil⟩
   have hsW := hs.ext eW
   have ew1 : IntKind.wrap .i64 ((i : Int) + 1) = ((i + 1 : Nat) : Int) := by rw [wrap64 (by omega) (by omega)]; omega
   have ew2 : IntKind.wrap .i64 ((i : Int) + 2) = ((i + 2 : Nat) : Int) := by rw [wrap64 (by omega) (by omega)]; omega
   have ewk : ∀ k : Nat, k ≤ A.length → IntKind.wrap .i64 ((k : Int) + 1) = ((k + 1 : Nat) : Int) := fun k hk => by rw [wrap64 (by omega) (by omega)]; omega
   rw [ew1, ew2]
   refine join_r (fun x W' => ∃ j f : Nat, i ≤ j ∧ j < A.length ∧ x.2 = ((f : Int), (j : Int), ()) ∧ sk A (nb A (j + 1)) = some f ∧ f ≤ j + 1 ∧ (f < j + 1 → A[j + 1]? = some 10 → A[j]? ≠ some 13) ∧ SlOwn W' w.heap.size x.1 174 4 (flat c174 (((lnF A).take (nb A (j + 1))).map lnR)) ∧ Ext w W') ?_ ?_
   ·refine rdA hsW hv fun q => sif_r (fun h10 => ?_) (fun h10 => ?_)
    ·simp only [beq_iff_eq] at h10
     subst h10
     obtain ⟨g1, g2⟩ := sk_brk ((isb_iff hv).2 (.inl rfl))
     have hln : lnAt A (nb A i) = some ⟨f, i, i + 1, 1⟩ := by
      unfold lnAt
      rw [hsk, g1]
      simp only [lnC, Nat.add_sub_cancel, hv, Option.some.injEq]
      rw [if_neg (by decide)]
      rw [if_neg (fun h => hmid (by omega) hv (by have := h.2; rwa [show i + 1 - 2 = i - 1 by omega] at this))]
     refine newO_r fun b9 w4 e4 n4 hb4 _ => pushR (l := ⟨f, i, i + 1, 1⟩) (hr.ext e4) n4 tkl (by have := eW.size; have := e4.size; omega) fun r' w5 o5 _ u5 => ?_
     rw [← grow rfl hln] at o5
     refine ⟨i, i + 1, Nat.le_refl _, hil, rfl, by rw [g2]; exact g1, Nat.le_refl _, (fun h => by omega), by rw [g2]; exact o5, (eW.trans e4).step u5 fun k hk => hr.blk_ge hk⟩
    ·simp only [beq_eq_false_iff_ne, ne_eq] at h10
     refine join_r (fun x W' => x = (decide (v = 13 ∧ A[i + 1]? = some 10), ()) ∧ W = W') ?_ ?_
     ·refine rdA hsW hv fun q => sif_r (fun h13 => ?_) (fun h13 => ⟨tupb ?_, rfl⟩)
      ·simp only [beq_iff_eq] at h13
       refine sif_r (fun hlt => ?_) (fun hlt => ⟨tupb ?_, rfl⟩)
       ·simp only [decide_eq_true_eq] at hlt
        obtain ⟨u, hu⟩ : ∃ u, A[i + 1]? = some u := ⟨_, List.getElem?_eq_getElem (by omega)⟩
        refine rdA hsW hu fun q => ⟨tupb ?_, rfl⟩
        rw [hu]
        simp [h13]
       ·simp only [decide_eq_false_iff_not] at hlt
        rw [List.getElem?_eq_none (by omega)]; simp
      ·simp only [beq_eq_false_iff_ne, ne_eq] at h13
       simp [h13]
     rintro _ _ ⟨rfl, rfl⟩
     refine sif_r (fun hcl => ?_) (fun hcl => ?_)
     ·simp only [decide_eq_true_eq] at hcl
      obtain ⟨rfl, hu⟩ := hcl
      have hil2 := (List.getElem?_eq_some_iff.1 hu).1
      have hno : isb A i = false := by
       cases hb : isb A i with
       | false => rfl
       | true =>
        rcases (isb_iff hv).1 hb with h | h
        ·exact absurd h h10
        ·exact absurd hu h.2
      have hn1 : nb A (i + 1) = nb A i := by rw [nb_succ, hno]; simp
      obtain ⟨g1, g2⟩ := sk_brk ((isb_iff hu).2 (.inl rfl))
      rw [hn1] at g1 g2
      have hln : lnAt A (nb A i) = some ⟨f, i, i + 2, 2⟩ := by
       unfold lnAt
       rw [hsk, g1]
       simp only [lnC, Option.some.injEq]
       rw [show i + 1 + 1 - 1 = i + 1 by omega, hu, if_neg (by decide), show i + 1 + 1 - 2 = i by omega, if_pos ⟨by omega, hv⟩]
      refine newO_r fun b9 w4 e4 n4 hb4 _ => pushR (l := ⟨f, i, i + 2, 2⟩) (hr.ext e4) n4 tkl (by have := eW.size; have := e4.size; omega) fun r' w5 o5 _ u5 => ?_
      rw [← grow rfl hln] at o5
      refine ⟨i + 1, i + 2, by omega, hil2, rfl, by rw [g2]; exact g1, Nat.le_refl _, (fun h => by omega), by rw [g2]; exact o5, (eW.trans e4).step u5 fun k hk => hr.blk_ge hk⟩
     ·simp only [decide_eq_false_iff_not] at hcl
      refine rdA hsW hv fun q => sif_r (fun h13 => ?_) (fun h13 => ?_)
      ·simp only [beq_iff_eq] at h13
       subst h13
       have hu : A[i + 1]? ≠ some 10 := fun h => hcl ⟨rfl, h⟩
       obtain ⟨g1, g2⟩ := sk_brk ((isb_iff hv).2 (.inr ⟨rfl, hu⟩))
       have hln : lnAt A (nb A i) = some ⟨f, i, i + 1, 3⟩ := by
        unfold lnAt
        rw [hsk, g1]
        simp only [lnC, Nat.add_sub_cancel, hv, Option.some.injEq]
        rw [if_pos trivial]
       refine newO_r fun b9 w4 e4 n4 hb4 _ => pushR (l := ⟨f, i, i + 1, 3⟩) (hr.ext e4) n4 tkl (by have := eW.size; have := e4.size; omega) fun r' w5 o5 _ u5 => ?_
       rw [← grow rfl hln] at o5
       refine ⟨i, i + 1, Nat.le_refl _, hil, rfl, by rw [g2]; exact g1, Nat.le_refl _, (fun h => by omega), by rw [g2]; exact o5, (eW.trans e4).step u5 fun k hk => hr.blk_ge hk⟩
      ·simp only [beq_eq_false_iff_ne, ne_eq] at h13
       have hno : isb A i = false := by
        cases hb : isb A i with
        | false => rfl
        | true =>
         rcases (isb_iff hv).1 hb with h | h
         ·exact absurd h h10
         ·exact absurd h.1 h13
       have hn1 : nb A (i + 1) = nb A i := by rw [nb_succ, hno]; simp
       refine ⟨i, f, Nat.le_refl _, hil, rfl, by rw [hn1]; exact hsk, by omega, (fun _ _ h => by rw [hv] at h; cases h; exact h13 rfl), by rw [hn1]; exact hr, eW⟩
   ·rintro ⟨r', _⟩ W' ⟨j, f', hij, hjl, rfl, g1, g2, g3, g4, g5⟩
    dsimp only at g4 ⊢
    rw [ewk j (by omega)]
    exact ⟨⟨j + 1, f', by omega, rfl, g1, g2, (by rw [Nat.add_sub_cancel]; exact g3), g4, g5⟩, by omega⟩
  ·simp only [decide_eq_false_iff_not] at hc
   obtain rfl : i = A.length := by omega
   rw [← brs_nb] at hsk hr
   exact ⟨f, hr, rfl, hsk, eW⟩
 ·rintro ⟨r, _⟩ W ⟨f, hr, rfl, hsk, eW⟩
  dsimp only at hr ⊢
  have hrl := SlOwn.lenR (cs := c174) hr (by decide)
  rw [List.length_map, List.length_take] at hrl
  have hfl := (sk_get hsk).2.1
  have hln : lnAt A (brs A) = some ⟨f, A.length, A.length, 0⟩ := by
   unfold lnAt
   rw [hsk, sk_none A _ (by omega)]
  rw [← hlen]
  refine newO_r fun b23 w4 e4 n4 hb4 _ => pushR (l := ⟨f, A.length, A.length, 0⟩) (hr.ext e4) n4 (by rw [List.length_take]; omega) (by have := eW.size; have := e4.size; omega) fun r' w5 o5 l5 u5 => ?_
  rw [← grow rfl hln, List.take_of_length_le (by omega)] at o5
  rw [List.length_take] at l5
  have x5 : Ext w w5 := (eW.trans e4).step u5 fun k hk => hr.blk_ge hk
  have hN : lnN A = if A.length = 0 ∨ f < A.length then brs A + 1 else brs A := by
   unfold lnN ended
   rw [hsk]
   by_cases h0 : A.length = 0 ∨ f < A.length
   ·rw [if_pos h0]
    have : (decide (0 < A.length) && (some f == some A.length)) = false := by
     rw [Bool.eq_false_iff]; intro h; simp at h; omega
    rw [this]; simp
   ·rw [if_neg h0]
    have : (decide (0 < A.length) && (some f == some A.length)) = true := by simp; omega
    rw [this]; simp
  refine join_r (fun x W' => x = (((lnN A : Nat) : Int), ()) ∧ w5 = W') ?_ ?_
  ·refine join_r (fun x W' => x = (decide (A.length = 0 ∨ f < A.length), ()) ∧ w5 = W') (sif_r (fun h0 => ⟨tupb ?_, rfl⟩) (fun h0 => ⟨tupb ?_, rfl⟩)) ?_
   ·simp only [beq_iff_eq, decide_eq_true_eq, true_iff] at *; omega
   ·simp only [beq_eq_false_iff_ne, ne_eq, decide_eq_true_eq] at *; omega
   rintro _ _ ⟨rfl, rfl⟩
   refine sif_r (fun h0 => ⟨?_, rfl⟩) (fun h0 => ⟨?_, rfl⟩)
   ·simp only [decide_eq_true_eq] at h0
    rw [hN, if_pos h0, l5]; congr 1; omega
   ·simp only [decide_eq_false_iff_not] at h0
    rw [hN, if_neg h0, ← hrl]; congr 1; omega
  rintro _ _ ⟨rfl, rfl⟩
  exact hK r' w5 o5 x5
end
section
variable {w w' : World} {A : List Int} {s : Sl} {t : TypeId}
theorem lnF_get {A : List Int} {i : Nat} (h : i ≤ brs A) : ∃ l, lnAt A i = some l ∧ (lnF A)[i]? = some l := by
 obtain ⟨l, hl⟩ := lnAt_ok h
 exact ⟨l, hl, lnF_at hl⟩
theorem r6of_call (hs : SlIn w s t 1 (iv A)) (hl : A.length < 2 ^ 39) {at_ : Nat} (hat : at_ ≤ A.length) {K : Int → World → Prop} (hK : ∀ w', Ext w w' → K ((nb A at_ : Nat) : Int) w') :
  callT Tryz.prog 138 #[.slice s.a s.len s.cap, .int .i64 (at_ : Int)] (.one (.one (.int .i64))) K w := by
 refine F138_calls ?_
 unfold F138
 have hbr : brs A ≤ A.length := by rw [brs_nb]; exact nb_le _ _
 have hn : nb A at_ ≤ brs A := by rw [brs_nb]; exact nb_mono A _ _ hat
 refine rall_call hs hl fun r w1 o1 e1 => ?_
 dsimp only
 have hrl := SlOwn.lenR (cs := c174) o1 (by decide)
 rw [List.length_map, lnF_len] at hrl
 refine join_r (fun _ W => w1 = W ∧ nb A at_ = brs A) ?_ ?_
 ·refine sloop_r (fun x W => ∃ i : Nat, x = ((i : Int), ()) ∧ w1 = W ∧ i ≤ brs A + 1 ∧ (i ≤ nb A at_ ∨ (at_ = A.length ∧ nb A at_ = brs A))) (fun x _ => ((brs A + 1 : Nat) - x.1).toNat) ⟨0, rfl, rfl, by omega, .inl (Nat.zero_le _)⟩ ?_
  rintro _ _ ⟨i, rfl, rfl, hi, hin⟩
  dsimp only
  refine sif_r (fun hc => ?_) (fun hc => ?_)
  ·simp only [decide_eq_true_eq] at hc
   obtain ⟨l, h1, h2⟩ := lnF_get (A := A) (i := i) (by omega)
   have ok := ln_ok h1
   have ew : IntKind.wrap .i64 ((i : Int) + 1) = ((i + 1 : Nat) : Int) := by rw [wrap64 (by omega) (by omega)]; omega
   rw [ew]
   refine ix_ldf (c := .int .i64) (cs := c174) (xs := (lnF A).map lnR) (j := 2) o1.in (by omega) (x := lnR l) (y := (l.next : Int)) (by rw [Int.toNat_natCast, List.getElem?_map, h2]; rfl) rfl fun q => ?_
   refine sif_r (fun hlt => ?_) (fun hlt => ?_)
   ·simp only [decide_eq_true_eq] at hlt
    have hnl := ok.nl
    have hle : i ≤ nb A at_ := by rcases hin with h | h <;> omega
    have : nb A at_ ≤ i := by
     by_cases hq : l.from_ ≤ at_
     ·have := ok.nbf at_ hq (by omega); omega
     ·have := nb_mono A at_ l.from_ (by omega)
      rw [ok.nbF] at this; exact this
    rw [show i = nb A at_ by omega]
    exact hK w1 e1
   ·simp only [decide_eq_false_iff_not] at hlt
    refine ⟨⟨i + 1, rfl, rfl, by omega, ?_⟩, by omega⟩
    rcases Nat.lt_or_ge i (nb A at_) with h | h
    ·exact .inl h
    ·right
     cases hx : sk A (i + 1) with
     | none =>
      obtain ⟨_, _, h3⟩ := ok.tail hx
      have : nb A A.length = nb A at_ := by rw [show at_ = A.length by omega]
      exact ⟨by omega, by rw [brs_nb]; exact this.symm⟩
     | some x =>
      obtain ⟨g1, _, _, g4⟩ := ok.brk x hx
      have := nb_mono A x at_ (by omega)
      rcases hin with q | q
      ·omega
      ·exact q
  ·simp only [decide_eq_false_iff_not] at hc
   refine ⟨rfl, ?_⟩
   rcases hin with h | h
   ·omega
   ·exact h.2
 ·rintro _ _ ⟨rfl, hb⟩
  have ew : IntKind.wrap .i64 ((r.len : Int) - 1) = ((nb A at_ : Nat) : Int) := by rw [wrap64 (by omega) (by omega)]; omega
  rw [ew]
  exact hK w1 e1
theorem r6at_call (hs : SlIn w s t 1 (iv A)) (hl : A.length < 2 ^ 39) {i : Nat} {l : Ln} (hi : lnAt A i = some l) {K : Cells.T c174 × Int × Unit → World → Prop} (hK : ∀ w', Ext w w' → K (lnR l, 0, ()) w') :
  callT Tryz.prog 150 #[.slice s.a s.len s.cap, .int .i64 (i : Int)] (.tup [(.agg c174), (.one (.int .i64))]) K w := by
 refine F150_calls ?_
 unfold F150
 have hib := (lnAt_some hi).1
 refine (St.start w).newO fun b1 w1 S1 e1 => rall_call (hs.ext e1) hl fun r w2 o2 e2 => ?_
 dsimp only
 have S2 := S1.ext e2
 have hrl := SlOwn.lenR (cs := c174) o2 (by decide)
 rw [List.length_map, lnF_len] at hrl
 refine join_r (fun x W => x = (false, ()) ∧ w2 = W) (sif_r (fun hc => ?_) (fun hc => ⟨tupb ?_, rfl⟩)) ?_
 ·simp only [decide_eq_true_eq] at hc; omega
 ·simp only [decide_eq_true_eq, ge_iff_le, Bool.false_eq_true, iff_false]; omega
 rintro _ _ ⟨rfl, rfl⟩
 refine sif_false ?_
 refine ix_lds (cs := c174) (xs := (lnF A).map lnR) o2.in (by decide) (by omega) (x := lnR l) (by rw [Int.toNat_natCast, List.getElem?_map, lnF_at hi]; rfl) fun q => ?_
 exact S2.aggSt 0 rfl rfl rfl rfl fun w3 S3 u3 => S3.lds 0 (lnR l) rfl (hK w3 S3.upd)
theorem rline_call (hs : SlIn w s t 1 (iv A)) (hl : A.length < 2 ^ 39) {at_ : Nat} (hat : at_ ≤ A.length) {K : Cells.T c174 → World → Prop} (hK : ∀ w', Ext w w' → K (lnR (lineP A (at_ : Int))) w') :
  callT Tryz.prog 127 #[.slice s.a s.len s.cap, .int .i64 (at_ : Int)] (.one (.agg c174)) K w := by
 refine F127_calls ?_
 unfold F127
 have hli := lineP_at (A := A) (at_ := (at_ : Int)) (by omega) (by omega)
 rw [Int.toNat_natCast] at hli
 refine (St.start w).newO fun b1 w1 S1 e1 => r6of_call (hs.ext e1) hl hat fun w2 e2 => ?_
 have S2 := S1.ext e2
 refine r6at_call (hs.ext S2.upd) hl hli fun w3 e3 => ?_
 have S3 := S2.ext e3
 refine S3.newO fun b4 w4 S4 e4 => S4.aggSt 0 rfl rfl rfl rfl fun w5 S5 u5 => S5.lds 0 (lnR (lineP A (at_ : Int))) rfl ?_
 exact S5.aggSt 1 rfl rfl rfl rfl fun w6 S6 u6 => S6.lds 1 (lnR (lineP A (at_ : Int))) rfl (hK w6 S6.upd)
end
end Go.Proofs.YtabcpghhfeplaaaGreat
namespace Go.Proofs.YtabcpghhfeplaaaGreat
open Trx Gly Clu Lns Obx
namespace Obx
structure Rw where
 b : Nat
 e : Nat
 s : Nat
end Obx
namespace Obx
variable {S : List Nat} {R : List Rw}
theorem drop_at {α : Type} {R : List α} {m : Nat} {r : α} (h : R[m]? = some r) : R.drop m = r :: R.drop (m + 1) := by
 have hl := (List.getElem?_eq_some_iff.1 h).1
 rw [List.drop_eq_getElem_cons hl]
 rw [List.getElem?_eq_getElem hl] at h
 cases h; rfl
end Obx
end Go.Proofs.YtabcpghhfeplaaaGreat
namespace Go.Proofs.YtabcpghhfeplaaaGreat
open Go Go.Vx Gly Clu Rgl Lns Trx Obx
section
variable {w w' : World} {s : Sl} {t : TypeId} {R : List Rw} {F G : Rw → Nat}
theorem rsort_call {a : Int} {big : Bool} {K : Int → World → Prop} (h : K (((if big ∧ wrd a ≠ 0 then 2 else wrd a : Nat)) : Int) w) : callT Tryz.prog 149 #[.int .i64 a, .bool big] (.one (.one (.int .i64))) K w := by
 refine F149_calls ?_
 unfold F149
 refine rword_call ?_
 refine join_r (fun x W => x = (decide (big = true ∧ wrd a ≠ 0), ()) ∧ w = W) (sif_r (fun h1 => ⟨tupb ?_, rfl⟩) (fun h1 => ⟨tupb ?_, rfl⟩)) ?_
 ·simp only [bne_iff_ne, ne_eq, decide_eq_true_eq, h1, true_and]; omega
 ·simp [h1]
 rintro _ _ ⟨rfl, rfl⟩
 refine sif_r (fun h1 => ?_) (fun h1 => ?_)
 ·simp only [decide_eq_true_eq] at h1
  rw [if_pos h1] at h; exact h
 ·simp only [decide_eq_false_iff_not] at h1
  rw [if_neg h1] at h; exact h
theorem rtimes_call {c : Int} (hc : 0 ≤ c) {K : Int → World → Prop} (h : K ((times c : Nat) : Int) w) : callT Tryz.prog 130 #[.int .i64 c] (.one (.one (.int .i64))) K w := by
 refine F130_calls ?_
 unfold F130
 refine sif_r (fun h1 => ?_) (fun h1 => ?_)
 ·simp only [beq_iff_eq] at h1
  have : ((times c : Nat) : Int) = 1 := by unfold times; omega
  rw [this] at h; exact h
 ·simp only [beq_eq_false_iff_ne, ne_eq] at h1
  have : ((times c : Nat) : Int) = c := by unfold times; omega
  rw [this] at h; exact h
end
section
variable {w w' : World} {A : List Int} {s : Sl} {t : TypeId}
theorem eR9 : ElemOk Tryz.prog 172 180 3 24 := ElemOk.of (z := .agg #[.int .i64 0, .int .i64 0, .int .i64 0]) i172_ok i180_ok rfl rfl rfl (by decide)
theorem r9_one (x : Cells.T c180) : ∀ v ∈ flat c180 [x], isOne v = true := by
 intro v hv
 rw [flat_one] at hv
 have h : v ∈ [_, _, _] := hv
 simp only [List.mem_cons, List.not_mem_nil, or_false] at h
 rcases h with rfl | rfl | rfl <;> rfl
theorem pushW {r : Sl} {L : List (Cells.T c180)} {x : Cells.T c180} {b N : Nat} {K : Sl → World → Prop} (hr : SlOwn w N r 180 3 (flat c180 L)) (hb : w.heap[b]? = some (.cells #[.int .i64 x.1, .int .i64 x.2.1, .int .i64 x.2.2.1] 180 (0, 0))) (hl : L.length < 2 ^ 40) (hN : N ≤ w.heap.size)
  (hK : ∀ r' w', SlOwn w' N r' 180 3 (flat c180 (L ++ [x])) → Upd r.blk w w' → K r' w') :
  rawT Tryz.prog (.one (.one .sl)) (Builtin.append_ #[172, 172] 172 #[.slice r.a r.len r.cap, .slice (some (at0 b)) 1 1]) K w := by
 have hrl := SlOwn.lenR (cs := c180) hr (by decide)
 have hbox : SlX w ⟨some (at0 b), 1, 1⟩ 3 (flat c180 [x]) := (SlIn.of_box hb (n := 1) (sz := 3) rfl).x
 refine append_rx eR9 eR9.ts_ (x := ⟨some (at0 b), 1, 1⟩) hr hbox (r9_one x) (by
  show (r.len + 1 + (r.len + 1) / 4 + 512) * 24 ≤ 2 ^ 48
  omega) hN fun r' w' o l' u k => hK r' w' ?_ u
 rw [flat_append]; exact o
end
namespace Obx
end Obx
section
variable {w w' : World} {A : List Int} {s : Sl} {t : TypeId}
abbrev spR (x y k : Int) : Cells.T c149 := (x, y, k, ())
theorem none_sp {b1 : Nat} {w0 V : World} {ls : List (Nat × Obj)} {o : Array Value} (i : Nat) {f : Int} {K : Cells.T c149 × Int × Unit → World → Prop} (S : St (fun _ => False) w0 V ls) (hi : ls[i]? = some (b1, .cells o 149 (0, 0))) (ho : o.size = 3) (x y k : Int) (hk : ∀ w', Ext w0 w' → K (spR x y k, f, ()) w') :
   aggSt (at0 b1) (.agg #[(.int .i64 x), (.int .i64 y), (.int .i64 k)]) 3 (lds c149 (at0 b1) fun x => K (x, f, ())) V := by
 refine S.aggSt i hi rfl ho rfl fun w3 S3 u3 => S3.lds i (t := 149) (fr := (0, 0)) (spR x y k) ?_ (hk w3 S3.upd)
 rw [List.getElem?_set]
 have := (List.getElem?_eq_some_iff.1 hi).1
 rw [if_pos rfl, if_pos this]; rfl
theorem or2_join {a b : Bool} {rest : Bool × Unit → World → Prop} (h : rest ((a || b), ()) w) : join (S := Bool × Unit) (fun J => sif a (J (true, ())) (J (b, ()))) rest w := by
 refine join_at ((a || b), ()) (sif_r (fun h1 => ⟨tupb ?_, rfl⟩) (fun h1 => ⟨tupb ?_, rfl⟩)) h
 all_goals simp_all
theorem checked_is {n : Nat} {at_ kind count lo hi : Int} : checked n at_ kind count lo hi = if (decide (kind < lo) || decide (kind > hi) || decide (count < 0)) = true then 1 else if (decide (at_ < 0) || decide (at_ > (n : Int))) = true then 2 else 0 := by
 unfold checked
 simp only [Bool.or_eq_true, decide_eq_true_eq, gt_iff_lt, or_assoc]
end
end Go.Proofs.YtabcpghhfeplaaaGreat
namespace Go.Proofs.YtabcpghhfeplaaaGreat
open Trx Gly Clu Lns Obx
namespace Obx
variable {C : List Cel} {o s : Int}
def stkB (C : List Cel) (o s : Int) : Nat → List Nat
 | 0 => []
 | j + 1 => match C[j]? with
  | none => stkB C o s j
  | some c => if c.is o then j :: stkB C o s j else if c.is s then (stkB C o s j).tail else stkB C o s j
def popB (j : Nat) : List Nat → List (Nat × Nat)
 | [] => []
 | x :: _ => [(x, j)]
def blkB (C : List Cel) (o s : Int) : Nat → List (Nat × Nat)
 | 0 => []
 | j + 1 => match C[j]? with
  | none => blkB C o s j
  | some c => if c.is o then blkB C o s j else if c.is s then blkB C o s j ++ popB j (stkB C o s j) else blkB C o s j
def runB (o s : Int) : List Cel → Nat → List Nat → List (Nat × Nat)
 | [], _, _ => []
 | c :: r, j, st => if c.is o then runB o s r (j + 1) (j :: st) else if c.is s then popB j st ++ runB o s r (j + 1) st.tail else runB o s r (j + 1) st
theorem is_not {c : Cel} (h : c.is o = true) (hos : o ≠ s) : c.is s = false := by
 unfold Cel.is at *
 rw [Bool.and_eq_true] at h
 have h1 : c.atom = o := by simpa using h.2
 rw [h1]
 rw [Bool.and_eq_false_iff]; right
 simpa using hos
theorem stkB_lt : ∀ (j x : Nat), x ∈ stkB C o s j → x < j ∧ ∃ c, C[x]? = some c ∧ c.is o = true
 | 0, x, h => by simp [stkB] at h
 | j + 1, x, h => by
  rw [stkB] at h
  split at h
  ·have := stkB_lt j x h; exact ⟨by omega, this.2⟩
  ·rename_i c hc
   split at h
   ·rename_i ho
    rcases List.mem_cons.1 h with rfl | h
    ·exact ⟨Nat.lt_succ_self _, c, hc, ho⟩
    ·have := stkB_lt j x h; exact ⟨by omega, this.2⟩
   ·split at h
    ·have := stkB_lt j x (List.mem_of_mem_tail h); exact ⟨by omega, this.2⟩
    ·have := stkB_lt j x h; exact ⟨by omega, this.2⟩
theorem blkB_lt : ∀ (j : Nat) (x : Nat × Nat), x ∈ blkB C o s j → x.2 < j ∧ x.1 < x.2 ∧ (∃ c, C[x.1]? = some c ∧ c.is o = true) ∧ ∃ c, C[x.2]? = some c ∧ c.is o = false ∧ c.is s = true
 | 0, x, h => by simp [blkB] at h
 | j + 1, x, h => by
  have up : x ∈ blkB C o s j → x.2 < j + 1 ∧ x.1 < x.2 ∧ (∃ c, C[x.1]? = some c ∧ c.is o = true) ∧ ∃ c, C[x.2]? = some c ∧ c.is o = false ∧ c.is s = true := fun h => by
   have := blkB_lt j x h; exact ⟨by omega, this.2⟩
  rw [blkB] at h
  split at h
  ·exact up h
  ·rename_i c hc
   split at h
   ·exact up h
   ·rename_i ho
    split at h
    ·rename_i hs
     rcases List.mem_append.1 h with h | h
     ·exact up h
     ·cases hy : stkB C o s j with
      | nil => rw [hy] at h; simp [popB] at h
      | cons y r =>
       rw [hy, popB, List.mem_singleton] at h; subst h
       have := stkB_lt j y (by rw [hy]; exact List.mem_cons_self)
       exact ⟨Nat.lt_succ_self _, this.1, this.2, c, hc, by simpa using ho, hs⟩
    ·exact up h
theorem runB_all : ∀ j, j ≤ C.length → blkB C o s j ++ runB o s (C.drop j) j (stkB C o s j) = runB o s C 0 []
 | 0, _ => by simp [blkB, stkB]
 | j + 1, h => by
  rw [← runB_all j (by omega)]
  obtain ⟨c, hc⟩ : ∃ c, C[j]? = some c := ⟨_, List.getElem?_eq_getElem (by omega)⟩
  rw [drop_at hc, blkB, stkB, runB, hc]
  dsimp only
  by_cases h1 : c.is o = true
  ·rw [if_pos h1, if_pos h1, if_pos h1]
  ·rw [if_neg h1, if_neg h1, if_neg h1]
   by_cases h2 : c.is s = true
   ·rw [if_pos h2, if_pos h2, if_pos h2]
    rw [List.append_assoc]
   ·rw [if_neg h2, if_neg h2, if_neg h2]
theorem blkB_run {j : Nat} (h : j ≤ C.length) : blkB C o s C.length = blkB C o s j ++ runB o s (C.drop j) j (stkB C o s j) := by
 rw [runB_all j h, ← runB_all C.length (Nat.le_refl _), List.drop_length]; simp [runB]
theorem nthL_down (hos : o ≠ s) : ∀ (j k d : Nat), j ≤ C.length → 1 ≤ k → nthL C o s (List.range j).reverse k d = (stkB C o s j)[k - 1 + d]?
 | 0, k, d, _, _ => by simp [nthL, stkB]
 | j + 1, k, d, h, hk => by
  obtain ⟨c, hc⟩ : ∃ c, C[j]? = some c := ⟨_, List.getElem?_eq_getElem (by omega)⟩
  have ih := fun k d hk => nthL_down hos j k d (by omega) hk
  rw [List.range_succ, List.reverse_append]
  show nthL C o s (j :: (List.range j).reverse) k d = _
  rw [nthL, hc, stkB, hc]
  dsimp only
  by_cases h1 : c.is o = true
  ·rw [if_neg (by rw [is_not h1 hos]; decide), if_neg (by rw [h1]; decide), if_pos h1]
   by_cases hd : 0 < d
   ·rw [if_pos hd, ih k (d - 1) hk, show k - 1 + d = (k - 1 + (d - 1)) + 1 by omega, List.getElem?_cons_succ]
   ·rw [if_neg hd]
    obtain rfl : d = 0 := by omega
    by_cases hk1 : k = 1
    ·rw [if_pos hk1, hk1]; rfl
    ·rw [if_neg hk1, ih (k - 1) 0 (by omega), show k - 1 + 0 = (k - 1 - 1 + 0) + 1 by omega, List.getElem?_cons_succ]
     rfl
  ·rw [if_neg h1]
   by_cases h2 : c.is s = true
   ·rw [if_pos h2, if_pos h2, ih k (d + 1) hk, List.getElem?_tail, show k - 1 + (d + 1) = k - 1 + d + 1 by omega]
   ·rw [if_neg h2, if_pos (by simpa using h1), if_neg h2, ih k d hk]
def inB (i : Nat) (x : Nat × Nat) : Bool := decide (x.1 ≤ i) && decide (i ≤ x.2)
theorem nthL_run (hos : o ≠ s) {i : Nat} : ∀ (r : List Cel) (j : Nat) (L st : List Nat) (k : Nat), C.drop j = r → i ≤ j → (∀ c, C[i]? = some c → c.is o = true → i < j) → (∀ x ∈ L, i < x) → (∀ x ∈ st, x ≤ i) → 1 ≤ k →
  ((runB o s r j (L ++ st)).filter (inB i))[k - 1]? = (nthL C s o (List.range' j r.length) k L.length).bind fun c => (st[k - 1]?).map fun x => (x, c)
 | [], j, L, st, k, _, _, _, _, _, _ => by simp [runB, nthL]
 | c :: r, j, L, st, k, hr, hij, hop, hL, hst, hk => by
  have hc : C[j]? = some c := by
   have : (C.drop j)[0]? = some c := by rw [hr]; rfl
   rw [List.getElem?_drop] at this; exact this
  have hr' : C.drop (j + 1) = r := by rw [← List.drop_drop, hr]; rfl
  have ih := fun L st k h1 h2 h3 => nthL_run (i := i) hos r (j + 1) L st k hr' (by omega) (fun _ _ _ => by omega) h1 h2 h3
  rw [List.length_cons, List.range'_succ, runB, nthL, hc]
  dsimp only
  by_cases h1 : c.is o = true
  ·rw [if_pos h1, if_pos h1]
   have hij' : i < j := by
    rcases Nat.lt_or_ge i j with q | q
    ·exact q
    ·have e : i = j := by omega
     subst e; exact hop c hc h1
   have := ih (j :: L) st k (fun x hx => by rcases List.mem_cons.1 hx with rfl | hx; exact hij'; exact hL x hx) hst hk
   rw [List.cons_append] at this
   exact this
  ·rw [if_neg h1, if_neg h1]
   by_cases h2 : c.is s = true
   ·rw [if_pos h2, if_neg (by rw [h2]; decide)]
    cases L with
    | cons x L =>
     have hx : inB i (x, j) = false := by
      have := hL x List.mem_cons_self
      unfold inB
      simp; omega
     rw [List.cons_append, popB, List.tail_cons, List.singleton_append, List.filter_cons_of_neg (by rw [hx]; decide), if_pos (by simp), List.length_cons, Nat.add_sub_cancel]
     exact ih L st k (fun y hy => hL y (List.mem_cons_of_mem _ hy)) hst hk
    | nil =>
     rw [if_neg (by simp)]
     cases st with
     | nil =>
      have e := fun k hk => ih [] [] k (fun _ h => by simp at h) (fun _ h => by simp at h) hk
      show ((runB o s r (j + 1) ([] ++ [])).filter (inB i))[k - 1]? = _
      rw [e k hk]
      simp
     | cons x st =>
      have hx : inB i (x, j) = true := by
       have := hst x List.mem_cons_self
       unfold inB
       simp; omega
      show (((x, j) :: runB o s r (j + 1) st).filter (inB i))[k - 1]? = _
      rw [List.filter_cons_of_pos hx]
      by_cases hk1 : k = 1
      ·subst hk1; simp
      ·rw [if_neg hk1]
       have := ih [] st (k - 1) (fun _ h => by simp at h) (fun y hy => hst y (List.mem_cons_of_mem _ hy)) (by omega)
       rw [List.nil_append] at this
       obtain ⟨n, rfl⟩ : ∃ n, k = n + 2 := ⟨k - 2, by omega⟩
       exact this
   ·rw [if_neg h2, if_pos (by simpa using h2)]
    exact ih L st k hL hst hk
theorem brackets_blk (hos : o ≠ s) {at_ : Int} {k : Nat} (hk : 1 ≤ k) : bracketsP C at_ o s k = ((blkB C o s C.length).filter (inB (firstI C at_)))[k - 1]?.bind fun x => pick C (some x.1) (some x.2) := by
 have hle := firstI_le C at_
 unfold bracketsP
 dsimp only
 generalize firstI C at_ = i at *
 by_cases hg : i = C.length ∨ C.length < k
 ·rw [if_pos hg]
  rcases hg with rfl | hg
  ·have : (blkB C o s C.length).filter (inB C.length) = [] := by
    rw [List.filter_eq_nil_iff]
    intro x hx hc
    have := (blkB_lt _ x hx).1
    unfold inB at hc
    simp at hc; omega
   rw [this]; rfl
  ·have h1 : ∀ j, (blkB C o s j).length ≤ j := by
    intro j
    induction j with
    | zero => simp [blkB]
    | succ j ih =>
     rw [blkB]
     split
     ·omega
     ·split
      ·omega
      ·split
       ·rw [List.length_append]
        have : (popB j (stkB C o s j)).length ≤ 1 := by cases stkB C o s j <;> simp [popB]
        omega
       ·omega
   have := h1 C.length
   have := List.length_filter_le (inB i) (blkB C o s C.length)
   rw [List.getElem?_eq_none (by omega)]; rfl
 rw [if_neg hg]
 have hi : i < C.length := by omega
 obtain ⟨c, hc⟩ : ∃ c, C[i]? = some c := ⟨_, List.getElem?_eq_getElem hi⟩
 rw [hc]
 simp only [Option.map_some, Option.getD_some]
 obtain ⟨j, hj⟩ : ∃ j, j = if c.is o = true then i + 1 else i := ⟨_, rfl⟩
 have e1 : walkI false C.length (if c.is o = true then (i : Int) else (i : Int) - 1) = (List.range j).reverse := by
  unfold walkI
  rw [hj, if_neg (by decide)]
  by_cases ho : c.is o = true
  ·rw [if_pos ho, if_pos ho]; rfl
  ·rw [if_neg ho, if_neg ho]
   rw [show ((i : Int) - 1 + 1).toNat = i by omega]
 have e2 : walkI true C.length (if c.is o = true then (i : Int) + 1 else (i : Int)) = List.range' j (C.drop j).length := by
  unfold walkI
  rw [hj, List.length_drop, if_pos rfl]
  by_cases ho : c.is o = true
  ·rw [if_pos ho, if_pos ho]; rfl
  ·rw [if_neg ho, if_neg ho]; rfl
 have hjl : j ≤ C.length := by rw [hj]; split <;> omega
 have hij : i ≤ j := by rw [hj]; split <;> omega
 rw [e1, e2, nthL_down hos j k 0 hjl hk, Nat.add_zero, blkB_run hjl, List.filter_append]
 have e3 : (blkB C o s j).filter (inB i) = [] := by
  rw [List.filter_eq_nil_iff]
  intro x hx hcc
  obtain ⟨h1, _, _, d, hd, h4, _⟩ := blkB_lt _ x hx
  unfold inB at hcc
  simp at hcc
  rw [hj] at h1
  split at h1
  ·rename_i ho
   have : x.2 = i := by omega
   rw [this, hc] at hd
   cases hd
   rw [ho] at h4; cases h4
  ·omega
 rw [e3, List.nil_append]
 have := nthL_run (C := C) hos (i := i) (C.drop j) j [] (stkB C o s j) k rfl hij (fun d hd ho => by
  rw [hc] at hd; cases hd
  rw [hj, if_pos ho]; omega) (fun _ h => by simp at h) (fun x hx => by
  obtain ⟨h1, d, hd, ho⟩ := stkB_lt _ x hx
  rw [hj] at h1
  split at h1
  ·omega
  ·omega) hk
 rw [List.nil_append] at this
 rw [this]
 show pick C _ (nthL C s o (List.range' j (C.drop j).length) k 0) = ((nthL C s o (List.range' j (C.drop j).length) k 0).bind _).bind _
 cases hn : nthL C s o (List.range' j (C.drop j).length) k 0 with
 | none => cases (stkB C o s j)[k - 1]? <;> rfl
 | some y => cases (stkB C o s j)[k - 1]? <;> rfl
theorem at_from {A : List Int} {off : Nat} {at_ : Int} (h0 : (off : Int) ≤ at_) {j : Nat} {c : Cel} (hc : (cels A off)[j]? = some c) : ((c.from_ : Int) ≤ at_ ↔ j ≤ firstI (cels A off) at_) ∧ (c.to_ = c.from_ + 1 → (at_ ≤ (c.from_ : Int) ↔ firstI (cels A off) at_ ≤ j)) := by
 obtain ⟨s1, s2⟩ := firstI_spec (C := cels A off) (at_ := at_)
 have hle := firstI_le (cels A off) at_
 have hjl := (List.getElem?_eq_some_iff.1 hc).1
 generalize firstI (cels A off) at_ = i at *
 have own : ∀ d, (cels A off)[i]? = some d → (d.from_ : Int) ≤ at_ := fun d hd => by
  cases hii : i with
  | zero => rw [hii] at hd; have := cels_first hd; omega
  | succ n =>
   obtain ⟨e, he⟩ : ∃ e, (cels A off)[n]? = some e := ⟨_, List.getElem?_eq_getElem (by omega)⟩
   have := s1 n e (by omega) he
   rw [hii] at hd
   have := cels_next he hd
   omega
 refine ⟨⟨fun h => ?_, fun h => ?_⟩, fun ha => ⟨fun h => ?_, fun h => ?_⟩⟩
 ·rcases Nat.lt_or_ge i j with q | q
  ·obtain ⟨d, hd⟩ : ∃ e, (cels A off)[i]? = some e := ⟨_, List.getElem?_eq_getElem (by omega)⟩
   have := s2 d hd
   have := (cels_lt q hd hc).1
   omega
  ·exact q
 ·rcases Nat.lt_or_ge j i with q | q
  ·have := s1 j c q hc
   obtain ⟨a, b, _, _, hab, _, hf, ht, _⟩ := (cels_ok hc).ex
   omega
  ·have e : j = i := by omega
   subst e; exact own c hc
 ·rcases Nat.lt_or_ge j i with q | q
  ·have := s1 j c q hc
   omega
  ·exact q
 ·obtain ⟨d, hd⟩ : ∃ e, (cels A off)[i]? = some e := ⟨_, List.getElem?_eq_getElem (by omega)⟩
  have := s2 d hd
  rcases Nat.lt_or_ge i j with q | q
  ·have := (cels_lt q hd hc).1
   omega
  ·have e : i = j := by omega
   subst e
   rw [hc] at hd; cases hd
   omega
end Obx
end Go.Proofs.YtabcpghhfeplaaaGreat
namespace Go.Proofs.YtabcpghhfeplaaaGreat
open Go Go.Vx Gly Clu Rgl Lns Trx Obx
namespace Obx
def frm (C : List Cel) (j : Nat) : Nat := (C[j]?.map (·.from_)).getD 0
theorem frm_of {C : List Cel} {j : Nat} {c : Cel} (h : C[j]? = some c) : frm C j = c.from_ := by unfold frm; rw [h]; rfl
structure CelA (A : List Int) (l : Ln) (c : Cel) (ci cj : Nat) : Prop where
 from_ : c.from_ = l.from_ + ci
 to_ : c.to_ = l.from_ + cj
 lt : ci < cj
 le : c.to_ ≤ l.to_
 atom : A[c.from_]? = some c.atom
 kind : c.kind = wrd c.atom
 alone : c.alone = decide (c.to_ = c.from_ + 1)
theorem lineC_at {A : List Int} {l : Ln} (h1 : l.from_ ≤ l.to_) (h2 : l.to_ ≤ A.length) {i : Nat} {c : Cel} (hc : (lineC A l)[i]? = some c) : ∃ ci cj, (cuts ((A.drop l.from_).take (l.to_ - l.from_)))[i]? = some ci ∧ (cuts ((A.drop l.from_).take (l.to_ - l.from_)))[i + 1]? = some cj ∧ CelA A l c ci cj := by
 obtain ⟨ci, cj, g1, g2, g3, g4, g5, g6, _, _, g9, g10, g11⟩ := (cels_ok hc).ex
 rw [List.length_take, List.length_drop] at g4
 refine ⟨ci, cj, g1, g2, g5, g6, g3, by omega, ?_, g10, ?_⟩
 ·rw [List.getElem?_take, if_pos (by omega), List.getElem?_drop] at g9
  rw [g5]; exact g9
 ·rw [Bool.eq_iff_iff, g11]; simp; omega
end Obx
section
variable {w w' : World} {A : List Int} {s : Sl} {t : TypeId}
theorem rdNv {c : Sl} {L : List Nat} (h : SlIn w c t 1 (nv L)) {j v : Nat} (hv : L[j]? = some v) {K : Addr → Int → World → Prop} (hK : ∀ q, K q (v : Int) w) : ix c.a c.len (j : Int) (fun q => ld (.int .i64) (q.add (scaled (Int.toNat (j : Int)) 1)) (K q)) w := by
 refine ix_ld (c := .int .i64) (xs := L.map fun (n : Nat) => (n : Int)) (t := t) ?_ (by omega) (by rw [Int.toNat_natCast, List.getElem?_map, hv]; rfl) hK
 rw [List.map_map]; exact h
theorem SlIn.lenN {c : Sl} {L : List Nat} (h : SlIn w c t 1 (nv L)) : L.length = c.len := by have := h.len1; rwa [List.length_map] at this
theorem nvi (l : List Nat) : nv l = iv (l.map fun (n : Nat) => (n : Int)) := by show l.map _ = (l.map _).map _; rw [List.map_map]; rfl
theorem pushN {r : Sl} {L : List Nat} {v b N : Nat} {K : Sl → World → Prop} (hr : SlOwn w N r 3 1 (nv L)) (hb : w.heap[b]? = some (.cells #[.int .i64 (v : Int)] 3 (0, 0))) (hl : L.length < 2 ^ 40) (hN : N ≤ w.heap.size)
  (hK : ∀ r' w', SlOwn w' N r' 3 1 (nv (L ++ [v])) → Upd r.blk w w' → K r' w') :
  rawT Tryz.prog (.one (.one .sl)) (Builtin.append_ #[26, 26] 26 #[.slice r.a r.len r.cap, .slice (some (at0 b)) 1 1]) K w := by
 rw [nvi] at hr
 refine push hr hb (by rw [List.length_map]; exact hl) hN fun r' w' o u => hK r' w' ?_ u
 rw [nvi, List.map_append]; exact o
theorem ris_call {c : Cel} (hs : SlIn w s t 1 (iv A)) (ha : A[c.from_]? = some c.atom) (hl : A.length < 2 ^ 40) (h1 : c.alone = decide (c.to_ = c.from_ + 1)) {q : Int} {K : Bool → World → Prop} (h : K (c.is q) w) :
  callT Tryz.prog 153 #[.slice s.a s.len s.cap, .int .i64 (c.from_ : Int), .int .i64 (c.to_ : Int), .int .i64 q] (.one (.one .bool)) K w := by
 refine F153_calls ?_
 unfold F153
 have hlt := (List.getElem?_eq_some_iff.1 ha).1
 have ew : IntKind.wrap .i64 ((c.from_ : Int) + 1) = ((c.from_ + 1 : Nat) : Int) := by rw [wrap64 (by omega) (by omega)]; omega
 rw [ew]
 unfold Cel.is at h
 refine sif_r (fun h2 => ?_) (fun h2 => ?_)
 ·simp only [beq_iff_eq] at h2
  rw [h1, decide_eq_true (show c.to_ = c.from_ + 1 by omega), Bool.true_and] at h
  exact rdA hs ha fun _ => h
 ·simp only [beq_eq_false_iff_ne, ne_eq] at h2
  rw [h1, decide_eq_false (show ¬ c.to_ = c.from_ + 1 by omega), Bool.false_and] at h
  exact h
end
namespace Obx
end Obx
section
variable {w w' : World} {A : List Int} {s : Sl} {t : TypeId}
theorem rsort0_call {a : Int} {K : Int → World → Prop} (h : K ((wrd a : Nat) : Int) w) : callT Tryz.prog 149 #[.int .i64 a, .bool false] (.one (.one (.int .i64))) K w := by
 refine rsort_call ?_
 rw [if_neg (fun q => by cases q.1)]; exact h
end
section
variable {w w' : World} {A : List Int} {s : Sl} {t : TypeId}
theorem sub_in {y : Sl} {l : Ln} (h1 : l.from_ ≤ l.to_) (hy : SlIn w y t 1 (((iv A).drop (((l.from_ : Nat) : Int).toNat * 1)).take ((((l.to_ : Nat) : Int).toNat - ((l.from_ : Nat) : Int).toNat) * 1))) : SlIn w y t 1 (iv ((A.drop l.from_).take (l.to_ - l.from_))) := by
 rw [Nat.mul_one, Nat.mul_one, Int.toNat_natCast, Int.toNat_natCast, ← List.map_drop, ← List.map_take] at hy
 exact hy
end
section
variable {w w' : World} {A : List Int} {s : Sl} {t : TypeId}
theorem rfellow_call {a : Int} {K : Int → World → Prop} (h : K ((fellow a).getD 0) w) : callT Tryz.prog 135 #[.int .i64 a] (.one (.one (.int .i64))) K w := by
 refine F135_calls ?_
 unfold F135
 unfold fellow at h
 refine sif_r (fun h1 => ?_) (fun h1 => ?_)
 ·simp only [beq_iff_eq] at h1
  rw [if_pos h1] at h; exact h
 simp only [beq_eq_false_iff_ne, ne_eq] at h1
 rw [if_neg h1] at h
 refine join_at (decide (a = 91 ∨ a = 123 ∨ a = 60), ()) (sif_r (fun h2 => ⟨tupb ?_, rfl⟩) (fun h2 => sif_r (fun h3 => ⟨tupb ?_, rfl⟩) (fun h3 => ⟨tupb ?_, rfl⟩))) ?_
 ·simp only [beq_iff_eq] at h2; simp [h2]
 ·simp only [beq_iff_eq] at h3; simp [h3]
 ·simp only [beq_eq_false_iff_ne, ne_eq] at h2 h3; simp [h2, h3]
 refine sif_r (fun h2 => ?_) (fun h2 => ?_)
 ·simp only [decide_eq_true_eq] at h2
  rcases h2 with rfl | rfl | rfl <;> exact h
 ·simp only [decide_eq_false_iff_not, not_or] at h2
  rw [if_neg h2.1, if_neg h2.2.1, if_neg h2.2.2] at h; exact h
theorem own_apart {N M : Nat} {r q : Sl} {t t' : TypeId} {sz sz' : Nat} {vs us : List Value} (h : SlOwn w N r t sz vs) (h' : SlOwn w M q t' sz' us) (ht : t ≠ t') : ∀ k, q.blk k → ¬ r.blk k := by
 rintro k ⟨p, hp, rfl⟩ ⟨p', hp', he⟩
 rcases h.at_ with ⟨ha, _⟩ | ⟨b, off, c, ha, _, hb, _⟩
 ·rw [ha] at hp'; cases hp'
 ·rcases h'.at_ with ⟨ha', _⟩ | ⟨b', off', c', ha', _, hb', _⟩
  ·rw [ha'] at hp; cases hp
  ·rw [ha] at hp'; cases hp'
   rw [ha'] at hp; cases hp
   dsimp only at he
   rw [he] at hb
   rw [hb] at hb'
   cases hb'
   exact ht rfl
theorem cel0_at {A : List Int} {i : Nat} {c : Cel} (hc : (cels A 0)[i]? = some c) : (cuts A)[i]? = some c.from_ ∧ (cuts A)[i + 1]? = some c.to_ ∧ A[c.from_]? = some c.atom ∧ c.kind = wrd c.atom ∧ c.alone = decide (c.to_ = c.from_ + 1) ∧ c.to_ ≤ A.length ∧ c.from_ < c.to_ := by
 obtain ⟨ci, cj, g1, g2, g3, g4, g5, g6, _, _, g9, g10, g11⟩ := (cels_ok hc).ex
 rw [Nat.zero_add] at g5 g6
 rw [g5, g6]
 refine ⟨g1, g2, g9, g10, ?_, g4, g3⟩
 rw [Bool.eq_iff_iff, g11]; simp
abbrev bkT (C : List Cel) (x : Nat × Nat) : Cells.T c180 := ((frm C x.1 : Int), (frm C x.2 : Int), 0, ())
theorem rdNk {c : Sl} {L : List Nat} (h : SlIn w c t 1 (nv L)) {j v : Nat} (hv : L[j]? = some v) {K : Addr → Int → World → Prop} (hK : ∀ q, (∀ w', Ext w w' → w'.cell? (q.add (scaled (Int.toNat (j : Int)) 1)) = some (.int .i64 (v : Int))) → K q (v : Int) w) : ix c.a c.len (j : Int) (fun q => ld (.int .i64) (q.add (scaled (Int.toNat (j : Int)) 1)) (K q)) w := by
 have hlt := (List.getElem?_eq_some_iff.1 hv).1
 have hl := SlIn.lenN h
 have hv2 : (nv L)[j]? = some (.int .i64 (v : Int)) := by rw [List.getElem?_map, hv]; rfl
 have key : ∀ {w' : World}, SlIn w' c t 1 (nv L) → ∀ b off, c.a = some ⟨b, off, none⟩ → w'.cell? ((⟨b, off, none⟩ : Addr).add (scaled (Int.toNat (j : Int)) 1)) = some (.int .i64 (v : Int)) := by
  intro w' h' b off ha
  rcases h'.at_ with ⟨hn, _⟩ | ⟨b', off', ce, fr, ha', hb, _, hx⟩
  ·rw [hn] at ha; cases ha
  ·rw [ha'] at ha; cases ha
   rw [addr_add]
   refine cell_of hb ?_
   rw [scaled_eq, Int.toNat_natCast, Nat.mul_one]
   exact hx j _ hv2
 refine h.ix (by omega) (by omega) (by decide) fun b off ha _ => ⟨(v : Int), key h b off ha, hK _ fun w' e => key (h.ext e) b off ha⟩
set_option maxHeartbeats 1000000 in
theorem rblks_call {o sh : Int} (hs : SlIn w s t 1 (iv A)) (hl : A.length < 2 ^ 39) (hf : fellow o = some sh) (hos : o ≠ sh)
  {K : Sl → World → Prop} (hK : ∀ s' w', SlOwn w' w.heap.size s' 180 3 (flat c180 ((blkB (cels A 0) o sh (cels A 0).length).map (bkT (cels A 0)))) → Ext w w' → K s' w') :
  callT Tryz.prog 136 #[.slice s.a s.len s.cap, .int .i64 o] (.one (.one .sl)) K w := by
 refine F136_calls ?_
 unfold F136
 have hn : (cels A 0).length = (cuts A).length - 1 := cels_len _ _
 have hcp := cuts_pos A
 have hnl := cels_le A 0
 have cat := fun i c => cel0_at (A := A) (i := i) (c := c)
 generalize cels A 0 = C at *
 refine rbreaks_call hs (by omega) fun c w1 oc e1 => ?_
 have hc := oc.in
 have hcl := SlIn.lenN hc
 refine join_r (fun x W => SlOwn W w1.heap.size x.1 180 3 (flat c180 ((blkB C o sh C.length).map (bkT C))) ∧ Ext w1 W) ?_ (fun x W h => hK _ _ (h.1.mono e1.size) (e1.trans h.2))
 refine sloop_r (fun x W => ∃ i : Nat, i ≤ C.length ∧ x.2.2 = ((i : Int), ()) ∧ SlOwn W w1.heap.size x.1 180 3 (flat c180 ((blkB C o sh i).map (bkT C))) ∧ SlOwn W w1.heap.size x.2.1 3 1 (nv (((stkB C o sh i).reverse).map (frm C))) ∧ (blkB C o sh i).length ≤ i ∧ (stkB C o sh i).length ≤ i ∧ Ext w1 W) (fun x _ => ((C.length : Int) - x.2.2.1).toNat) ⟨0, Nat.zero_le _, rfl, SlOwn.nil _ _ _ _, SlOwn.nil _ _ _ _, Nat.le_refl _, Nat.le_refl _, Ext.refl w1⟩ ?_
 rintro ⟨r, kp, _⟩ W ⟨i, hi, rfl, hr, hk, hbl, hsl, eW⟩
 dsimp only at hr hk ⊢
 have hrl := SlOwn.lenR (cs := c180) hr (by decide)
 have hkl := SlIn.lenN hk.in
 rw [List.length_map] at hrl
 rw [List.length_map, List.length_reverse] at hkl
 have ew : IntKind.wrap .i64 ((i : Int) + 1) = ((i + 1 : Nat) : Int) := by rw [wrap64 (by omega) (by omega)]; omega
 rw [ew]
 refine sif_r (fun hc1 => ?_) (fun hc1 => ?_)
 ·simp only [decide_eq_true_eq] at hc1
  obtain ⟨x, hx⟩ : ∃ x, C[i]? = some x := ⟨_, List.getElem?_eq_getElem (by omega)⟩
  obtain ⟨q1, q2, q3, q4, q5, q6, q7⟩ := cat i x hx
  refine join_r (fun y W' => SlOwn W' w1.heap.size y.1 180 3 (flat c180 ((blkB C o sh (i + 1)).map (bkT C))) ∧ SlOwn W' w1.heap.size y.2.1 3 1 (nv (((stkB C o sh (i + 1)).reverse).map (frm C))) ∧ (blkB C o sh (i + 1)).length ≤ i + 1 ∧ (stkB C o sh (i + 1)).length ≤ i + 1 ∧ Ext w1 W') ?_ (fun y W' h => ⟨⟨i + 1, by omega, rfl, h.1, h.2.1, h.2.2.1, h.2.2.2.1, h.2.2.2.2⟩, by omega⟩)
  rw [blkB, stkB, hx]
  dsimp only
  refine drew_r fun w2 e2 _ => rdNv (hc.ext (eW.trans e2)) q1 fun _ => rdNv (hc.ext (eW.trans e2)) q2 fun _ => ?_
  refine ris_call (hs.ext (e1.trans (eW.trans e2))) q3 (by omega) q5 ?_
  refine sif_r (fun h3 => ?_) (fun h3 => ?_)
  ·rw [if_pos h3, if_pos h3]
   refine rdNv (hc.ext (eW.trans e2)) q1 fun _ => newO_r fun b8 w4 e4 n4 _ _ => ?_
   have x4 := (eW.trans e2).trans e4
   refine pushN (((hk.ext e2)).ext e4) n4 (by rw [List.length_map, List.length_reverse]; omega) (by have := x4.size; omega) fun r' w5 o5 u5 => ?_
   refine ⟨(hr.ext (e2.trans e4)).upd u5 fun k _ => own_apart (hk.ext (e2.trans e4)) (hr.ext (e2.trans e4)) (by decide) k, ?_, by omega, by rw [List.length_cons]; omega, x4.step u5 fun k h => hk.blk_ge h⟩
   rw [List.reverse_cons, List.map_append, List.map_singleton, frm_of hx]; exact o5
  ·have h3' : ¬ x.is o = true := by rw [h3]; decide
   rw [if_neg h3', if_neg h3']
   refine join_r (fun y W' => y = ((x.is sh && decide (0 < (stkB C o sh i).length)), ()) ∧ Ext w2 W') ?_ ?_
   ·refine drew_r fun w3 e3 _ => rdNk (hc.ext ((eW.trans e2).trans e3)) q1 fun _ k1 => rdNk (hc.ext ((eW.trans e2).trans e3)) q2 fun _ k2 => ?_
    refine rfellow_call (keep_r (k2 _ (Ext.refl _)) (keep_r (k1 _ (Ext.refl _)) ?_))
    rw [hf, Option.getD_some]
    refine ris_call (hs.ext (e1.trans ((eW.trans e2).trans e3))) q3 (by omega) q5 ?_
    refine sif_r (fun h4 => ?_) (fun h4 => ?_)
    ·rw [h4, Bool.true_and]
     refine ⟨tupb ?_, e3⟩
     simp only [decide_eq_true_eq]; omega
    ·rw [h4, Bool.false_and]; exact ⟨rfl, e3⟩
   rintro _ w3 ⟨rfl, e3⟩
   have x3 := (eW.trans e2).trans e3
   have hr3 := hr.ext (e2.trans e3)
   have hk3 := hk.ext (e2.trans e3)
   cases hsh : x.is sh with
   | false =>
    rw [Bool.false_and]
    refine sif_false ?_
    rw [if_neg (by decide), if_neg (by decide)]
    exact ⟨hr3, hk3, by omega, by omega, x3⟩
   | true =>
    rw [Bool.true_and, if_pos rfl, if_pos rfl]
    cases hst : stkB C o sh i with
    | nil =>
     rw [hst] at hk3
     refine sif_false ?_
     rw [popB, List.append_nil]
     exact ⟨hr3, hk3, by omega, by simp, x3⟩
    | cons a st =>
     rw [hst] at hk3 hkl hsl
     rw [List.length_cons] at hkl hsl
     refine sif_r (fun _ => ?_) (fun hc => ?_)
     ·have ewk : IntKind.wrap .i64 ((kp.len : Int) - 1) = ((st.length : Nat) : Int) := by rw [wrap64 (by omega) (by omega)]; omega
      rw [ewk]
      have hget : (((a :: st).reverse).map (frm C))[st.length]? = some (frm C a) := by
       rw [List.reverse_cons, List.map_append, List.map_singleton, List.getElem?_append_right (by simp)]
       simp
      refine drew_r fun w4 e4 _ => rdNv (hk3.ext e4).in hget fun _ => rdNv (hc.ext (x3.trans e4)) q1 fun _ => newO_r fun b8 w5 e5 n5 _ _ => ?_
      have x5 := (x3.trans e4).trans e5
      have hr5 := (hr3.ext e4).ext e5
      have hk5 := (hk3.ext e4).ext e5
      refine pushW (x := bkT C (a, i)) hr5 (by rw [n5]; show _ = some (Obj.cells #[_, .int .i64 ((frm C i : Nat) : Int), _] _ _); rw [frm_of hx]) (by rw [List.length_map]; omega) (by have := x5.size; omega) fun r' w6 o6 u6 => ?_
      have hk6 := hk5.upd u6 fun k _ => own_apart hr5 hk5 (by decide) k
      refine slc_ro hk6 (by omega) (by omega) (by omega) (by have := hk6.le; omega) (by omega) fun y hy _ _ _ => ?_
      refine ⟨?_, ?_, ?_, by rw [List.tail_cons]; omega, x5.step u6 fun k h => hr5.blk_ge h⟩
      ·rw [popB, List.map_append, List.map_singleton]; exact o6
      ·rw [List.tail_cons]
       have e0 : (List.map (fun (n : Nat) => Value.int .i64 (n : Int)) (((a :: st).reverse).map (frm C))).take st.length = nv ((st.reverse).map (frm C)) := by
        rw [List.reverse_cons, List.map_append, List.map_append, List.take_append_of_le_length (by simp), List.take_of_length_le (by simp)]
       rw [Int.toNat_natCast, Nat.mul_one] at hy
       rw [← e0]
       exact hy
      ·rw [popB, List.length_append, List.length_singleton]; omega
     ·simp at hc
 ·simp only [decide_eq_false_iff_not] at hc1
  have : i = C.length := by omega
  subst this
  exact ⟨hr, eW⟩
end
namespace Obx
theorem line_same {A : List Int} {i j : Nat} {a b : Ln} (h1 : lnAt A i = some a) (h2 : lnAt A j = some b) : a.from_ = b.from_ ↔ a = b := by
 refine ⟨fun h => ?_, fun h => by rw [h]⟩
 have e1 := (ln_ok h1).nbF
 have e2 := (ln_ok h2).nbF
 rw [h] at e1
 rw [e1] at e2
 subst e2
 rw [h1] at h2; exact Option.some.inj h2
theorem fellow_not {o sh : Int} (h : fellow o = some sh) : o ≠ sh := by
 unfold fellow at h
 split at h
 ·cases h; omega
 ·split at h
  ·cases h; omega
  ·split at h
   ·cases h; omega
   ·split at h
    ·cases h; omega
    ·cases h
end Obx
section
variable {w w' : World} {A : List Int} {s : Sl} {t : TypeId}
set_option maxHeartbeats 1000000 in
theorem rhollow_call {c d : Cel} (hs : SlIn w s t 1 (iv A)) (hl : A.length < 2 ^ 39) (hc : c.to_ = c.from_ + 1) (hcl : c.to_ ≤ A.length) (hdl : d.from_ ≤ A.length) (hcd : c.from_ ≤ d.from_) {K : Cells.T c149 → World → Prop}
  (hK : ∀ w', Ext w w' → K (spR (Obx.hollow A c d).1 (Obx.hollow A c d).2.1 (Obx.hollow A c d).2.2) w') :
  callT Tryz.prog 137 #[.slice s.a s.len s.cap, .int .i64 (c.from_ : Int), .int .i64 (d.from_ : Int)] (.one (.agg c149)) K w := by
 refine F137_calls ?_
 unfold F137
 have hlen : A.length = s.len := by have := hs.len1; rwa [List.length_map] at this
 obtain ⟨a, ha⟩ : ∃ a, a = lineP A (c.from_ : Int) := ⟨_, rfl⟩
 obtain ⟨b, hb⟩ : ∃ b, b = lineP A (d.from_ : Int) := ⟨_, rfl⟩
 have la := (line_ok A (at_ := c.from_) (by omega)).1
 have lb := (line_ok A hdl).1
 rw [← ha] at la
 rw [← hb] at lb
 have hbf : b.from_ ≤ d.from_ := by
  obtain ⟨l', g1, g2, _⟩ := ln_of A hdl
  rw [lb] at g1; cases g1; exact g2
 have okb := ln_ok lb
 have hab := line_same la lb
 unfold Obx.hollow at hK
 have ea : (lnAt A (nb A c.from_)).getD ⟨0, 0, 0, 0⟩ = a := by rw [la]; rfl
 have eb : (lnAt A (nb A d.from_)).getD ⟨0, 0, 0, 0⟩ = b := by rw [lb]; rfl
 rw [ea, eb] at hK
 dsimp only at hK
 have ew1 : IntKind.wrap .i64 ((c.from_ : Int) + 1) = (c.to_ : Int) := by rw [wrap64 (by omega) (by omega)]; omega
 rw [ew1]
 refine (St.start w).newO fun b1 w1 S1 e1 => rline_call (hs.ext e1) hl (by omega) fun w2 e2 => ?_
 rw [← ha]
 have S2 := S1.ext e2
 refine S2.newO fun b3 w3 S3 e3 => S3.aggSt 0 rfl rfl rfl rfl fun w4 S4 u4 => rline_call (hs.ext S4.upd) hl hdl fun w5 e5 => ?_
 rw [← hb]
 have S5 := S4.ext e5
 refine S5.newO fun b6 w6 S6 e6 => S6.aggSt 0 rfl rfl rfl rfl fun w7 S7 u7 => ?_
 have sp : ∀ {V : World} {x y k : Int}, St (fun _ => False) w V [(b6, .cells (Cells.vals c174 (lnR b)).toArray 174 (0, 0)), (b3, .cells (Cells.vals c174 (lnR a)).toArray 174 (0, 0)), (b1, .cells #[.int .i64 0, .int .i64 0, .int .i64 0] 149 (0, 0))] → (∀ w', Ext w w' → K (spR x y k) w') →
   aggSt (at0 b1) (.agg #[(.int .i64 x), (.int .i64 y), (.int .i64 k)]) 3 (lds c149 (at0 b1) K) V := fun S hk =>
  S.aggSt 2 rfl rfl rfl rfl fun w3 S3 u3 => S3.lds 2 (t := 149) (fr := (0, 0)) (spR _ _ _) rfl (hk w3 S3.upd)
 have S7' : St (fun _ => False) w w7 [(b6, .cells (Cells.vals c174 (lnR b)).toArray 174 (0, 0)), (b3, .cells (Cells.vals c174 (lnR a)).toArray 174 (0, 0)), (b1, .cells #[.int .i64 0, .int .i64 0, .int .i64 0] 149 (0, 0))] := S7
 refine join_at (decide (a.to_ ≠ c.to_ ∨ a = b), ()) ?_ ?_
 ·refine S7'.ld 1 rfl (x := (a.to_ : Int)) rfl (sif_r (fun h1 => ⟨tupb ?_, rfl⟩) (fun h1 => S7'.ld 0 rfl (x := (b.from_ : Int)) rfl (S7'.ld 1 rfl (x := (a.from_ : Int)) rfl ⟨tupb ?_, rfl⟩)))
  ·simp only [bne_iff_ne, ne_eq] at h1
   have : a.to_ ≠ c.to_ := fun h => h1 (by rw [h])
   simp [this]
  ·simp only [bne_eq_false_iff_eq] at h1
   have h1 : a.to_ = c.to_ := by omega
   simp only [beq_iff_eq, decide_eq_true_eq, h1, ne_eq, not_true_eq_false, false_or]
   rw [← hab]; omega
 refine sif_r (fun h1 => ?_) (fun h1 => ?_)
 ·simp only [decide_eq_true_eq] at h1
  rw [if_pos h1] at hK
  exact sp S7' hK
 simp only [decide_eq_false_iff_not] at h1
 rw [if_neg h1] at hK
 refine S7'.ld 0 rfl (x := (b.from_ : Int)) rfl ?_
 refine slc_r (hs.ext S7'.upd) (by omega) (by omega) (by omega) (by have := hs.le; omega) (by omega) fun y hy _ _ _ => ?_
 have hy := sub_in (l := ⟨b.from_, d.from_, 0, 0⟩) hbf hy
 have cat := fun i x => lineC_at (A := A) (l := ⟨b.from_, d.from_, 0, 0⟩) hbf hdl (i := i) (c := x)
 have hn : (lineC A ⟨b.from_, d.from_, 0, 0⟩).length = (cuts ((A.drop b.from_).take (d.from_ - b.from_))).length - 1 := cels_len _ _
 have hcp := cuts_pos ((A.drop b.from_).take (d.from_ - b.from_))
 have hCl := cels_le ((A.drop b.from_).take (d.from_ - b.from_)) b.from_
 rw [List.length_take, List.length_drop] at hCl
 refine rbreaks_call hy (by rw [List.length_take, List.length_drop]; omega) fun cu w8 oc e8 => ?_
 have hcl2 := SlIn.lenN oc.in
 have S8 := S7'.ext e8
 have hC : cels ((A.drop b.from_).take (d.from_ - b.from_)) b.from_ = lineC A ⟨b.from_, d.from_, 0, 0⟩ := rfl
 rw [hC] at hK hCl
 dsimp only at hn hcp hcl2 cat
 generalize lineC A ⟨b.from_, d.from_, 0, 0⟩ = C at *
 refine join_r (fun _ W => C.any (fun c => c.kind != 0) = false ∧ Ext w8 W) ?_ ?_
 ·refine sloop_r (fun x W => ∃ i : Nat, x = ((i : Int), ()) ∧ i ≤ C.length ∧ (∀ (j : Nat) z, j < i → C[j]? = some z → z.kind = 0) ∧ Ext w8 W) (fun x _ => ((C.length : Int) - x.1).toNat) ⟨0, rfl, Nat.zero_le _, (fun j z hj => by omega), Ext.refl w8⟩ ?_
  rintro _ W ⟨i, rfl, hi, hall, eW⟩
  dsimp only
  have ew : IntKind.wrap .i64 ((i : Int) + 1) = ((i + 1 : Nat) : Int) := by rw [wrap64 (by omega) (by omega)]; omega
  rw [ew]
  refine sif_r (fun hc1 => ?_) (fun hc1 => ?_)
  ·simp only [decide_eq_true_eq] at hc1
   obtain ⟨z, hz⟩ : ∃ z, C[i]? = some z := ⟨_, List.getElem?_eq_getElem (by omega)⟩
   obtain ⟨ci, cj, hci, hcj, q1⟩ := cat i z hz
   have f1 := q1.from_; have f2 := q1.to_; have f3 := q1.le; have f4 := q1.lt
   dsimp only at f1 f2 f3
   have ew2 : IntKind.wrap .i64 ((b.from_ : Int) + (ci : Int)) = (z.from_ : Int) := by rw [wrap64 (by omega) (by omega)]; omega
   refine (S8.ext eW).drew fun w9 S9 e9 _ => S9.ld 0 rfl (x := (b.from_ : Int)) rfl (rdNv (oc.in.ext (eW.trans e9)) hci fun _ => ?_)
   rw [ew2]
   refine rdA (hs.ext S9.upd) q1.atom fun _ => rsort0_call ?_
   rw [← q1.kind]
   refine sif_r (fun h3 => ?_) (fun h3 => ?_)
   ·simp only [bne_iff_ne, ne_eq] at h3
    rw [if_pos (List.any_eq_true.2 ⟨z, List.mem_of_getElem? hz, by simp; omega⟩)] at hK
    exact sp S9 hK
   ·simp only [bne_eq_false_iff_eq] at h3
    refine ⟨⟨i + 1, rfl, by omega, fun j x hj hx => ?_, eW.trans e9⟩, by omega⟩
    by_cases hji : j = i
    ·subst hji; rw [hz] at hx; cases hx; omega
    ·exact hall j x (by omega) hx
  ·simp only [decide_eq_false_iff_not] at hc1
   refine ⟨?_, eW⟩
   rw [List.any_eq_false]
   intro x hx
   obtain ⟨j, hj⟩ := List.getElem?_of_mem hx
   have := hall j x (by have := (List.getElem?_eq_some_iff.1 hj).1; omega) hj
   simp [this]
 rintro _ W ⟨hany, eW⟩
 rw [if_neg (by rw [hany]; decide)] at hK
 have S9 := S8.ext eW
 refine S9.ld 1 rfl (x := (a.next : Int)) rfl (S9.ld 0 rfl (x := (b.from_ : Int)) rfl (sif_r (fun h3 => ?_) (fun h3 => ?_)))
 ·simp only [beq_iff_eq] at h3
  rw [if_pos (by omega)] at hK
  exact sp S9 hK
 ·simp only [beq_eq_false_iff_ne, ne_eq] at h3
  rw [if_neg (by omega)] at hK
  exact S9.ld 1 rfl (x := (a.next : Int)) rfl (S9.ld 0 rfl (x := (b.from_ : Int)) rfl (sp S9 hK))
set_option maxHeartbeats 2000000 in
theorem rblocks_call {at_ kind count arg : Int} (hs : SlIn w s t 1 (iv A)) (hl : A.length < 2 ^ 39) (hcn : count < 2 ^ 63) {K : Cells.T c149 × Int × Unit → World → Prop}
  (hK : ∀ w', Ext w w' → K (spR (blocksP A at_ kind count arg).1.1 (blocksP A at_ kind count arg).1.2.1 (blocksP A at_ kind count arg).1.2.2, (blocksP A at_ kind count arg).2, ()) w') :
  callT Tryz.prog 107 #[.slice s.a s.len s.cap, .int .i64 at_, .int .i64 kind, .int .i64 count, .int .i64 arg] (.tup [(.agg c149), (.one (.int .i64))]) K w := by
 refine F107_calls ?_
 unfold F107
 have hlen : A.length = s.len := by have := hs.len1; rwa [List.length_map] at this
 have hchk := checked_is (n := A.length) (at_ := at_) (kind := kind) (count := count) (lo := 67) (hi := 68)
 refine (St.start w).newO fun b1 w1 S1 e1 => ?_
 have nz : ((fellow arg).getD 0 == 0) = (fellow arg).isNone := by
  cases hf : fellow arg with
  | none => rfl
  | some sh =>
   have : sh ≠ 0 := by
    unfold fellow at hf
    split at hf
    ·cases hf; decide
    ·split at hf
     ·cases hf; decide
     ·split at hf
      ·cases hf; decide
      ·split at hf
       ·cases hf; decide
       ·cases hf
   simpa using this
 refine join_at ((decide (kind < 67) || decide (kind > 68) || decide (count < 0) || (fellow arg).isNone), ()) ?_ ?_
 ·refine sif_r (fun g1 => ⟨tupb ?_, rfl⟩) (fun g1 => sif_r (fun g2 => ⟨tupb ?_, rfl⟩) (fun g2 => sif_r (fun g3 => ⟨tupb ?_, rfl⟩) (fun g3 => rfellow_call ⟨tupb ?_, rfl⟩)))
  ·rw [g1]; simp
  ·rw [g2]; simp
  ·rw [g3]; simp
  ·rw [g1, g2, g3, nz]; simp
 refine sif_r (fun h1 => ?_) (fun h1 => ?_)
 ·have h1 : (decide (kind < 67) || decide (kind > 68) || decide (count < 0) || (fellow arg).isNone) = true := h1
  refine none_sp 0 S1 rfl rfl _ _ _ fun w' x => ?_
  have := hK w' x
  unfold blocksP at this
  rw [Bool.or_eq_true] at h1
  rcases h1 with h1 | h1
  ·rw [hchk, if_pos h1, if_pos rfl] at this
   exact this
  ·rw [Option.isNone_iff_eq_none] at h1
   rw [h1] at this
   dsimp only at this
   have e : (if checked A.length at_ kind count 67 68 = 1 then (((0, 0, 0), 1) : (Int × Int × Int) × Int) else ((0, 0, 0), 1)) = ((0, 0, 0), 1) := by split <;> rfl
   rw [e] at this
   exact this
 have h1 : (decide (kind < 67) || decide (kind > 68) || decide (count < 0) || (fellow arg).isNone) = false := h1
 rw [Bool.or_eq_false_iff] at h1
 rw [if_neg (by rw [h1.1]; decide)] at hchk
 obtain ⟨sh, hf⟩ : ∃ sh, fellow arg = some sh := by
  cases hf : fellow arg with
  | none => rw [hf] at h1; cases h1.2
  | some sh => exact ⟨sh, rfl⟩
 unfold blocksP at hK
 rw [hf] at hK
 dsimp only at hK
 refine or2_join ?_
 refine sif_r (fun h2 => ?_) (fun h2 => ?_)
 ·have h2 : (decide (at_ < 0) || decide (at_ > (A.length : Int))) = true := by rw [hlen]; exact h2
  rw [if_pos h2] at hchk
  refine none_sp 0 S1 rfl rfl _ _ _ fun w' x => ?_
  have := hK w' x
  rw [hchk, if_neg (by decide), if_pos (by decide)] at this
  exact this
 have h2 : (decide (at_ < 0) || decide (at_ > (A.length : Int))) = false := by rw [hlen]; exact h2
 rw [if_neg (by rw [h2]; decide)] at hchk
 have hat : ¬ (at_ < 0 ∨ (A.length : Int) < at_) := by simpa using h2
 have hcount : 0 ≤ count := by have := h1.1; simp at this; omega
 have hkind : kind = 67 ∨ kind = 68 := by have := h1.1; simp at this; omega
 rw [hchk, if_neg (by decide), if_neg (by decide)] at hK
 have hos := fellow_not hf
 have htp := times_pos count
 have htl := times_lt hcn
 rw [brackets_blk hos htp] at hK
 refine rtimes_call hcount (rblks_call (hs.ext e1) hl hf hos fun r w2 o2 e2 => ?_)
 have S2 := S1.ext e2
 have hrl := SlOwn.lenR (cs := c180) o2 (by decide)
 rw [List.length_map] at hrl
 have cat := fun i c => cel0_at (A := A) (i := i) (c := c)
 have mem := blkB_lt (C := cels A 0) (o := arg) (s := sh) (cels A 0).length
 have hlong : (blkB (cels A 0) arg sh (cels A 0).length).length ≤ (cels A 0).length := by
  have : ∀ j, (blkB (cels A 0) arg sh j).length ≤ j := by
   intro j
   induction j with
   | zero => simp [blkB]
   | succ j ih =>
    rw [blkB]
    split
    ·omega
    ·split
     ·omega
     ·split
      ·rw [List.length_append]
       have : (popB j (stkB (cels A 0) arg sh j)).length ≤ 1 := by cases stkB (cels A 0) arg sh j <;> simp [popB]
       omega
      ·omega
  exact this _
 have hCl := cels_le A 0
 have fr := fun (j : Nat) (c : Cel) (hc : (cels A 0)[j]? = some c) => at_from (A := A) (off := 0) (at_ := at_) (by omega) hc
 generalize cels A 0 = C at *
 generalize firstI C at_ = i0 at *
 generalize blkB C arg sh C.length = L at *
 obtain ⟨k0, hk0⟩ : ∃ k0, k0 = times count := ⟨_, rfl⟩
 rw [← hk0] at hK htp htl ⊢
 refine join_r (fun _ W => w2 = W ∧ (L.filter (inB i0))[k0 - 1]? = none) ?_ ?_
 ·refine sloop_r (fun x W => ∃ i k : Nat, x = ((k : Int), (i : Int), ()) ∧ w2 = W ∧ i ≤ L.length ∧ 1 ≤ k ∧ k ≤ k0 ∧ (L.filter (inB i0))[k0 - 1]? = ((L.drop i).filter (inB i0))[k - 1]?) (fun x _ => ((L.length : Int) - x.2.1).toNat) ⟨0, k0, rfl, rfl, Nat.zero_le _, htp, Nat.le_refl _, rfl⟩ ?_
  rintro _ _ ⟨i, k, rfl, rfl, hi, hk1, hk2, he⟩
  dsimp only
  have ew : IntKind.wrap .i64 ((i : Int) + 1) = ((i + 1 : Nat) : Int) := by rw [wrap64 (by omega) (by omega)]; omega
  have ewk : IntKind.wrap .i64 ((k : Int) - 1) = ((k - 1 : Nat) : Int) := by rw [wrap64 (by omega) (by omega)]; omega
  rw [ew, ewk]
  refine sif_r (fun hc => ?_) (fun hc => ?_)
  ·simp only [decide_eq_true_eq] at hc
   obtain ⟨x, hx⟩ : ∃ x, L[i]? = some x := ⟨_, List.getElem?_eq_getElem (by omega)⟩
   obtain ⟨m1, m2, ⟨c, hcx, hco⟩, d, hdx, _, hds⟩ := mem x (List.mem_of_getElem? hx)
   obtain ⟨_, _, _, _, ca, cl, clt⟩ := cat _ c hcx
   obtain ⟨_, _, _, _, da, dl, dlt⟩ := cat _ d hdx
   have hca : c.to_ = c.from_ + 1 := by
    unfold Cel.is at hco
    rw [Bool.and_eq_true, ca] at hco
    exact of_decide_eq_true hco.1
   have hda : d.to_ = d.from_ + 1 := by
    unfold Cel.is at hds
    rw [Bool.and_eq_true, da] at hds
    exact of_decide_eq_true hds.1
   have g1 := (fr _ c hcx).1
   have g2 := (fr _ d hdx).2 hda
   have rf : ∀ {V : World} {K : Addr → Int → World → Prop}, Ext w2 V → (∀ q, K q (c.from_ : Int) V) → ix r.a r.len (i : Int) (fun q => ld (.int .i64) (q.add (scaled (Int.toNat (i : Int)) 3)) (K q)) V := fun e hk => ix_ldf0 (c := .int .i64) (cs := c180) (xs := L.map (bkT C)) (o2.ext e).in (by omega) (x := bkT C x) (y := (c.from_ : Int)) (by rw [Int.toNat_natCast, List.getElem?_map, hx]; rfl) (by show some (Value.int .i64 ((frm C x.1 : Nat) : Int)) = _; rw [frm_of hcx]; rfl) hk
   have rt : ∀ {V : World} {K : Addr → Int → World → Prop}, Ext w2 V → (∀ q, K q (d.from_ : Int) V) → ix r.a r.len (i : Int) (fun q => ld (.int .i64) ((q.add (scaled (Int.toNat (i : Int)) 3)).add 1) (K q)) V := fun e hk => ix_ldf (c := .int .i64) (cs := c180) (xs := L.map (bkT C)) (j := 1) (o2.ext e).in (by omega) (x := bkT C x) (y := (d.from_ : Int)) (by rw [Int.toNat_natCast, List.getElem?_map, hx]; rfl) (by show some (Value.int .i64 ((frm C x.2 : Nat) : Int)) = _; rw [frm_of hdx]; rfl) hk
   rw [drop_at hx] at he
   have hin : inB i0 x = (decide ((c.from_ : Int) ≤ at_) && decide (at_ ≤ (d.from_ : Int))) := by
    unfold inB
    rw [Bool.eq_iff_iff]
    simp only [Bool.and_eq_true, decide_eq_true_eq]
    rw [g1, g2]
   refine join_r (fun y W => ∃ k' : Nat, y = ((k' : Int), ()) ∧ w2 = W ∧ 1 ≤ k' ∧ k' ≤ k0 ∧ (L.filter (inB i0))[k0 - 1]? = ((L.drop (i + 1)).filter (inB i0))[k' - 1]?) ?_ ?_
   ·refine join_at (!inB i0 x, ()) ?_ ?_
    ·refine rf (Ext.refl _) fun _ => sif_r (fun h3 => ⟨tupb ?_, rfl⟩) (fun h3 => rt (Ext.refl _) fun _ => ⟨tupb ?_, rfl⟩)
     ·rw [hin]
      simp only [decide_eq_true_eq] at h3
      simp; omega
     ·rw [hin]
      simp only [decide_eq_false_iff_not] at h3
      simp; omega
    refine sif_r (fun h3 => ?_) (fun h3 => ?_)
    ·have h3 : inB i0 x = false := by simpa using h3
     rw [List.filter_cons_of_neg (by rw [h3]; decide)] at he
     exact ⟨k, rfl, rfl, hk1, hk2, he⟩
    ·have h3 : inB i0 x = true := by simpa using h3
     rw [List.filter_cons_of_pos h3] at he
     refine sif_r (fun h4 => ?_) (fun h4 => ?_)
     ·simp only [decide_eq_true_eq] at h4
      refine ⟨k - 1, rfl, rfl, by omega, by omega, ?_⟩
      rw [he, show k - 1 = (k - 1 - 1) + 1 by omega, List.getElem?_cons_succ]
      rfl
     ·simp only [decide_eq_false_iff_not, gt_iff_lt] at h4
      have hk : k = 1 := by omega
      rw [hk] at he
      have he : (L.filter (inB i0))[k0 - 1]? = some x := he
      rw [he, Option.bind_some] at hK
      have hp : pick C (some x.1) (some x.2) = some (c, d) := by simp only [pick, hcx, hdx]
      rw [hp] at hK
      dsimp only at hK
      have ewd : IntKind.wrap .i64 ((d.from_ : Int) + 1) = (d.to_ : Int) := by rw [wrap64 (by omega) (by omega)]; omega
      refine sif_r (fun h5 => ?_) (fun h5 => ?_)
      ·simp only [beq_iff_eq] at h5
       rw [if_neg (by omega)] at hK
       refine S2.drew fun w3 S3 e3 _ => rf e3 fun _ => rt e3 fun _ => ?_
       rw [ewd]
       exact none_sp 0 S3 rfl rfl _ _ _ fun w9 x9 => hK w9 x9
      ·simp only [beq_eq_false_iff_ne, ne_eq] at h5
       rw [if_pos (by omega)] at hK
       refine S2.drew fun w3 S3 e3 _ => rf e3 fun _ => rt e3 fun _ => ?_
       refine rhollow_call (hs.ext S3.upd) hl hca (by omega) (by omega) ?_ fun w4 e4 => ?_
       ·rw [hin] at h3
        simp at h3
        omega
       have S4 := S3.ext e4
       exact S4.aggSt 0 rfl rfl rfl rfl fun w5 S5 u5 => S5.lds 0 (spR _ _ _) rfl (hK w5 S5.upd)
   ·rintro _ _ ⟨k', rfl, rfl, q1, q2, q3⟩
    exact ⟨⟨i + 1, k', rfl, rfl, by omega, q1, q2, q3⟩, by omega⟩
  ·simp only [decide_eq_false_iff_not] at hc
   refine ⟨rfl, ?_⟩
   rw [he, List.drop_eq_nil_of_le (by omega)]; rfl
 ·rintro _ _ ⟨rfl, he⟩
  rw [he] at hK
  exact none_sp 0 S2 rfl rfl _ _ _ fun w9 x9 => hK w9 x9
end
end Go.Proofs.YtabcpghhfeplaaaGreat
namespace Go.Proofs.YtabcpghhfeplaaaGreat
open Go Go.Vx Cdc Gly Clu Rgl Lns Trx Obx
section
variable {w w' W : World} {S : Nat → Prop} {p : Nat} {e : Enc} {lim na : Nat} {O : Nat → Prop} {M : Parts} {s : Sl} {A : List Int}
theorem told_call {x y z f : Int} {K : Bool → World → Prop} (hK : ∀ w', Ext w w' → K true w') : callT Tryz.prog 105 #[.agg (Cells.vals c34 (spT (x, y, z))).toArray, .int .i64 f, .agg (Cells.vals c149 (spR x y z)).toArray, .int .i64 f] (.one (.one .bool)) K w := by
 refine F105_calls (a0 := spT (x, y, z)) (a2 := spR x y z) ?_
 unfold F105
 have eq : ∀ {a : Int} {X Y : World → Prop} {V : World}, X V → sif (a == a) X Y V := fun h => sif_r (fun _ => h) (fun hc => by simp at hc)
 refine (St.start w).newO fun b1 w1 S1 e1 => S1.newO fun b2 w2 S2 e2 => ?_
 refine S2.ld 1 rfl (x := x) rfl (S2.ld 0 rfl (x := x) rfl (eq ?_))
 refine S2.ld 1 rfl (x := y) rfl (S2.ld 0 rfl (x := y) rfl (eq ?_))
 refine S2.ld 1 rfl (x := z) rfl (S2.ld 0 rfl (x := z) rfl (eq ?_))
 rw [show (f == f) = true by simp]
 exact hK w2 S2.upd
abbrev spanR9 (s : Int × Int × Int) : Obj := .cells #[.int .i64 s.1, .int .i64 s.2.1, .int .i64 s.2.2] 149 (0, 0)
abbrev mvO (k c a : Int) : Obj := .cells #[.int .i64 k, .int .i64 c, .int .i64 a] 39 (0, 0)
theorem pside {f : FuncId} {X : (Int × Int × Int) × Int} {b1 b5 bb : Nat} {o : Cells.T c43} {w0 : World} {J : Addr × Int × Unit → World → Prop} (S1 : St (fun _ => False) w0 W [(b5, mvO o.2.2.2.1 o.2.2.2.2.1 o.2.2.2.2.2.1), (b1, opO o)]) (hb : w0.heap[bb]? = some (bothO p s))
  (call : ∀ {V : World} {K : Cells.T c34 × Int × Unit → World → Prop}, Ext w0 V → (∀ V', Ext V V' → K (spT X.1, X.2, ()) V') → callT Tryz.prog f #[.pointer (some (at0 p)), .int .i64 o.2.2.1, .agg (Cells.vals c39 (mvT o.2.2.2.1 o.2.2.2.2.1 o.2.2.2.2.2.1)).toArray] (.tup [(.agg c34), (.one (.int .i64))]) K V)
  (hJ : ∀ b W', St (fun _ => False) w0 W' [(b, spanO X.1), (b5, mvO o.2.2.2.1 o.2.2.2.2.1 o.2.2.2.2.2.1), (b1, opO o)] → J (at0 b, X.2, ()) W') :
  (drew <|
   nn (some (at0 bb)) fun p9 =>
   ld (.ptr) p9 fun (x10 : Option Addr) =>
   ld (.int .i64) (⟨b1, 2, none⟩ : Addr) fun (x11 : Int) =>
   lds c39 (at0 b5) fun (x12 : (Int × Int × Int × Unit)) =>
   both (
    newO (.cells #[(.int .i64 (0 : Int)), (.int .i64 (0 : Int)), (.int .i64 (0 : Int))] 34) fun b13 =>
    keep (fun w => cellsAt w (at0 b5) 0 (Cells.vals c39 x12)) <|
    keep (fun w => w.cell? (⟨b1, 2, none⟩ : Addr) = some (Cell.val (.int .i64) x11)) <|
    keep (fun w => w.cell? p9 = some (Cell.val (.ptr) x10)) <|
    callT Tryz.prog f #[(.pointer x10), (.int .i64 x11), (.agg (Cells.vals c39 x12).toArray)] (.tup [(.agg c34), (.one (.int .i64))]) fun (x14 : ((Int × Int × Int × Unit) × Int × Unit)) =>
    aggSt (at0 b13) (.agg (Cells.vals c34 x14.1).toArray) 3 <|
    J ((at0 b13), x14.2.1, ())) <|
   callT Tryz.prog f #[(.pointer x10), (.int .i64 x11), (.agg (Cells.vals c39 x12).toArray)] (.tup [(.agg c34), (.one (.int .i64))]) fun (x15 : ((Int × Int × Int × Unit) × Int × Unit)) =>
   both (
    newO (.cells #[(.int .i64 (0 : Int)), (.int .i64 (0 : Int)), (.int .i64 (0 : Int))] 34) fun b16 =>
    keep (fun w => cellsAt w (at0 b5) 0 (Cells.vals c39 x12)) <|
    keep (fun w => w.cell? (⟨b1, 2, none⟩ : Addr) = some (Cell.val (.int .i64) x11)) <|
    keep (fun w => w.cell? p9 = some (Cell.val (.ptr) x10)) <|
    aggSt (at0 b16) (.agg (Cells.vals c34 x15.1).toArray) 3 <|
    J ((at0 b16), x15.2.1, ())) <|
   nothing) W := by
 have kp : ∀ {V : World} {ls : List (Nat × Obj)} {K : World → Prop}, St (fun _ => False) w0 V ls → K V → keep (fun w => w.cell? (at0 bb) = some (Cell.val (.ptr) (some (at0 p)))) K V := fun S h => keep_r (cell_of (S.upd.ext_get hb) rfl) h
 refine S1.drew fun w2 S2 e2 _ => nn_some (ld_r (x := some (at0 p)) (S2.upd.ext_get hb) rfl (S2.ld 1 rfl (x := o.2.2.1) rfl (S2.lds 0 (mvT o.2.2.2.1 o.2.2.2.2.1 o.2.2.2.2.2.1) rfl ⟨?_, ?_⟩)))
 ·refine S2.newO fun b w3 S3 e3 => S3.keeps 1 (x := mvT o.2.2.2.1 o.2.2.2.2.1 o.2.2.2.2.2.1) rfl (S3.keep 2 rfl (v := .int .i64 o.2.2.1) rfl (kp S3 ?_))
  exact call S3.upd fun w4 e4 => (S3.ext e4).aggSt 0 rfl rfl rfl rfl fun w5 S5 u5 => hJ b w5 S5
 ·refine call S2.upd fun w4 e4 => ⟨?_, trivial⟩
  refine (S2.ext e4).newO fun b w3 S3 e3 => S3.keeps 1 (x := mvT o.2.2.2.1 o.2.2.2.2.1 o.2.2.2.2.2.1) rfl (S3.keep 2 rfl (v := .int .i64 o.2.2.1) rfl (kp S3 ?_))
  exact S3.aggSt 0 rfl rfl rfl rfl fun w5 S5 u5 => hJ b w5 S5
theorem dside4 {f : FuncId} {X : (Int × Int × Int) × Int} {b1 b5 bb bs : Nat} {o : Cells.T c43} {y : Int × Int × Int} {w0 : World} {J : Addr × Int × Unit → World → Prop} (S1 : St (fun _ => False) w0 W [(bs, spanO y), (b5, mvO o.2.2.2.1 o.2.2.2.2.1 o.2.2.2.2.2.1), (b1, opO o)]) (hb : w0.heap[bb]? = some (bothO p s))
  (call : ∀ {V : World} {K : Cells.T c149 × Int × Unit → World → Prop}, Ext w0 V → (∀ V', Ext V V' → K (spR X.1.1 X.1.2.1 X.1.2.2, X.2, ()) V') → callT Tryz.prog f #[.slice s.a s.len s.cap, .int .i64 o.2.2.1, .int .i64 o.2.2.2.1, .int .i64 o.2.2.2.2.1, .int .i64 o.2.2.2.2.2.1] (.tup [(.agg c149), (.one (.int .i64))]) K V)
  (hJ : ∀ b W', St (fun _ => False) w0 W' [(b, spanR9 X.1), (bs, spanO y), (b5, mvO o.2.2.2.1 o.2.2.2.2.1 o.2.2.2.2.2.1), (b1, opO o)] → J (at0 b, X.2, ()) W') :
  (drew <|
   nn (some (at0 bb)) fun p19 =>
   ld (.sl) (p19.add 1) fun (x20 : Sl) =>
   ld (.int .i64) (⟨b1, 2, none⟩ : Addr) fun (x21 : Int) =>
   ld (.int .i64) (⟨b1, 3, none⟩ : Addr) fun (x22 : Int) =>
   ld (.int .i64) (⟨b1, 4, none⟩ : Addr) fun (x23 : Int) =>
   ld (.int .i64) (⟨b1, 5, none⟩ : Addr) fun (x24 : Int) =>
   both (
    newO (.cells #[(.int .i64 (0 : Int)), (.int .i64 (0 : Int)), (.int .i64 (0 : Int))] 149) fun b24 =>
    keep (fun w => w.cell? (⟨b1, 5, none⟩ : Addr) = some (Cell.val (.int .i64) x24)) <|
    keep (fun w => w.cell? (⟨b1, 4, none⟩ : Addr) = some (Cell.val (.int .i64) x23)) <|
    keep (fun w => w.cell? (⟨b1, 3, none⟩ : Addr) = some (Cell.val (.int .i64) x22)) <|
    keep (fun w => w.cell? (⟨b1, 2, none⟩ : Addr) = some (Cell.val (.int .i64) x21)) <|
    keep (fun w => w.cell? (p19.add 1) = some (Cell.val (.sl) x20)) <|
    callT Tryz.prog f #[(.slice x20.a x20.len x20.cap), (.int .i64 x21), (.int .i64 x22), (.int .i64 x23), (.int .i64 x24)] (.tup [(.agg c149), (.one (.int .i64))]) fun (x25 : ((Int × Int × Int × Unit) × Int × Unit)) =>
    aggSt (at0 b24) (.agg (Cells.vals c149 x25.1).toArray) 3 <|
    J ((at0 b24), x25.2.1, ())) <|
   callT Tryz.prog f #[(.slice x20.a x20.len x20.cap), (.int .i64 x21), (.int .i64 x22), (.int .i64 x23), (.int .i64 x24)] (.tup [(.agg c149), (.one (.int .i64))]) fun (x26 : ((Int × Int × Int × Unit) × Int × Unit)) =>
   both (
    newO (.cells #[(.int .i64 (0 : Int)), (.int .i64 (0 : Int)), (.int .i64 (0 : Int))] 149) fun b27 =>
    keep (fun w => w.cell? (⟨b1, 5, none⟩ : Addr) = some (Cell.val (.int .i64) x24)) <|
    keep (fun w => w.cell? (⟨b1, 4, none⟩ : Addr) = some (Cell.val (.int .i64) x23)) <|
    keep (fun w => w.cell? (⟨b1, 3, none⟩ : Addr) = some (Cell.val (.int .i64) x22)) <|
    keep (fun w => w.cell? (⟨b1, 2, none⟩ : Addr) = some (Cell.val (.int .i64) x21)) <|
    keep (fun w => w.cell? (p19.add 1) = some (Cell.val (.sl) x20)) <|
    aggSt (at0 b27) (.agg (Cells.vals c149 x26.1).toArray) 3 <|
    J ((at0 b27), x26.2.1, ())) <|
   nothing) W := by
 have kp : ∀ {V : World} {ls : List (Nat × Obj)} {K : World → Prop}, St (fun _ => False) w0 V ls → K V → keep (fun w => w.cell? ((at0 bb).add 1) = some (Cell.val (.sl) s)) K V := fun S h => keep_r (by rw [addr_add]; exact cell_of (S.upd.ext_get hb) rfl) h
 refine S1.drew fun w2 S2 e2 _ => nn_some ?_
 rw [addr_add]
 refine ld_r (x := s) (S2.upd.ext_get hb) rfl (S2.ld 2 rfl (x := o.2.2.1) rfl (S2.ld 2 rfl (x := o.2.2.2.1) rfl (S2.ld 2 rfl (x := o.2.2.2.2.1) rfl (S2.ld 2 rfl (x := o.2.2.2.2.2.1) rfl (⟨?_, ?_⟩)))))
 ·refine S2.newO fun b w3 S3 e3 => S3.keep 3 rfl (v := .int .i64 o.2.2.2.2.2.1) rfl (S3.keep 3 rfl (v := .int .i64 o.2.2.2.2.1) rfl (S3.keep 3 rfl (v := .int .i64 o.2.2.2.1) rfl (S3.keep 3 rfl (v := .int .i64 o.2.2.1) rfl (kp S3 ?_))))
  exact call S3.upd fun w4 e4 => (S3.ext e4).aggSt 0 rfl rfl rfl rfl fun w5 S5 u5 => hJ b w5 S5
 ·refine call S2.upd fun w4 e4 => ⟨?_, trivial⟩
  refine (S2.ext e4).newO fun b w3 S3 e3 => S3.keep 3 rfl (v := .int .i64 o.2.2.2.2.2.1) rfl (S3.keep 3 rfl (v := .int .i64 o.2.2.2.2.1) rfl (S3.keep 3 rfl (v := .int .i64 o.2.2.2.1) rfl (S3.keep 3 rfl (v := .int .i64 o.2.2.1) rfl (kp S3 ?_))))
  exact S3.aggSt 0 rfl rfl rfl rfl fun w5 S5 u5 => hJ b w5 S5
set_option maxHeartbeats 1000000 in
theorem asked3_call {bb : Nat} {o : Cells.T c43} (h : Txt w p e lim na O M) (hs : SlIn w s 3 1 (iv (atoms (aOf e M)))) (hb : w.heap[bb]? = some (bothO p s)) (hc : o.2.2.2.2.1 < 2 ^ 63) (hk : o.2.1 = 3) {K : Bool → World → Prop} (hK : ∀ w', Ext w w' → K true w') :
  callT Tryz.prog 76 #[.pointer (some (at0 bb)), .agg (Cells.vals c43 o).toArray] (.one (.one .bool)) K w := by
 refine F76_calls ?_
 unfold F76
 have few := h.few; have lims := h.lims
 have hal := hal e M
 have hl : (atoms (aOf e M)).length < 2 ^ 39 := by omega
 refine (St.start w).newO fun b1 w1 S1 e1 => ?_
 have S1 : St (fun _ => False) w w1 [(b1, opO o)] := S1
 refine S1.ld 0 rfl (x := o.2.2.2.1) rfl (S1.ld 0 rfl (x := o.2.2.2.2.1) rfl (S1.ld 0 rfl (x := o.2.2.2.2.2.1) rfl (S1.newO fun b5 w2 S2 e2 => S2.aggSt 0 rfl rfl rfl rfl fun w3 S3 u3 => ?_)))
 have S3 : St (fun _ => False) w w3 [(b5, mvO o.2.2.2.1 o.2.2.2.2.1 o.2.2.2.2.2.1), (b1, opO o)] := S3
 refine S3.ld 1 rfl (x := o.2.1) rfl ?_
 have fin : ∀ {V : World} {b b' : Nat} {X : (Int × Int × Int) × Int}, St (fun _ => False) w V [(b', spanR9 X.1), (b, spanO X.1), (b5, mvO o.2.2.2.1 o.2.2.2.2.1 o.2.2.2.2.2.1), (b1, opO o)] →
   lds c34 (at0 b) (fun x28 => lds c149 (at0 b') fun x29 => callT Tryz.prog 105 #[(.agg (Cells.vals c34 x28).toArray), (.int .i64 X.2), (.agg (Cells.vals c149 x29).toArray), (.int .i64 X.2)] (.one (.one .bool)) fun (x30 : Bool) => K x30) V := fun S =>
  S.lds 1 (spT _) rfl (S.lds 0 (spR _ _ _) rfl (told_call fun w9 e9 => hK w9 (S.ext e9).upd))
 refine sif_r (fun g => by simp only [beq_iff_eq] at g; exact absurd (g.symm.trans hk) (by decide)) (fun _ => ?_)
 refine sif_r (fun g => by simp only [beq_iff_eq] at g; exact absurd (g.symm.trans hk) (by decide)) (fun _ => ?_)
 refine sif_r (fun _ => ?_) (fun g => by simp only [beq_eq_false_iff_ne, ne_eq] at g; exact absurd hk g)
 obtain ⟨X, hX⟩ : ∃ X, X = blocksP (atoms (aOf e M)) o.2.2.1 o.2.2.2.1 o.2.2.2.2.1 o.2.2.2.2.2.1 := ⟨_, rfl⟩
 obtain ⟨J, hJ⟩ : ∃ J : Addr × Int × Unit → World → Prop, J = fun x W => ∃ b, x = (at0 b, X.2, ()) ∧ St (fun _ => False) w W [(b, spanO X.1), (b5, mvO o.2.2.2.1 o.2.2.2.2.1 o.2.2.2.2.2.1), (b1, opO o)] := ⟨_, rfl⟩
 refine join_r J ?_ ?_
 ·refine pside (f := 19) (X := X) (o := o) (J := J) S3 hb (fun x hk => ?_) (fun b W' S => by rw [hJ]; exact ⟨b, rfl, S⟩)
  rw [hX] at hk
  exact blocks_call (kind := o.2.2.2.1) (h.ext x) hc hk
 rw [hJ]
 rintro _ w4 ⟨b, rfl, S4⟩
 obtain ⟨L, hL⟩ : ∃ L : Addr × Int × Unit → World → Prop, L = fun x W => ∃ b', x = (at0 b', X.2, ()) ∧ St (fun _ => False) w W [(b', spanR9 X.1), (b, spanO X.1), (b5, mvO o.2.2.2.1 o.2.2.2.2.1 o.2.2.2.2.2.1), (b1, opO o)] := ⟨_, rfl⟩
 refine join_r L ?_ ?_
 ·refine dside4 (f := 107) (X := X) (o := o) (J := L) S4 hb (fun x hk => ?_) (fun b W' S => by rw [hL]; exact ⟨b, rfl, S⟩)
  rw [hX] at hk
  exact rblocks_call (hs.ext x) hl hc hk
 rw [hL]
 rintro _ w5 ⟨b', rfl, S5⟩
 exact fin S5
structure Asks (lo hi : Int) : Prop where
 fix : ∀ {w : World} {K : Bool → World → Prop}, (∀ w', Ext w w' → K true w') → callT Tryz.prog 17 #[.int .i64 lo] (.one (.one .bool)) K w
 ask : ∀ {w : World} {p : Nat} {e : Enc} {lim na : Nat} {O : Nat → Prop} {M : Parts} {s : Sl} {bb : Nat} {o : Cells.T c43}, Txt w p e lim na O M → SlIn w s 3 1 (iv (atoms (aOf e M))) → w.heap[bb]? = some (bothO p s) → o.2.2.2.2.1 < 2 ^ 63 → lo ≤ o.2.1 ∧ o.2.1 ≤ hi → ∀ {K : Bool → World → Prop}, (∀ w', Ext w w' → K true w') →
  callT Tryz.prog 76 #[.pointer (some (at0 bb)), .agg (Cells.vals c43 o).toArray] (.one (.one .bool)) K w
theorem asks3 : Asks 3 3 := ⟨fixed3_call, fun h hs hb hc hk => asked3_call h hs hb hc (Int.le_antisymm hk.2 hk.1)⟩
end
section
variable {w w' W : World} {p b N na : Nat} {e : Enc} {O : Nat → Prop} {M : Parts} {s : Sl} {A : List Int}
structure Hs (w : World) (N b p : Nat) (e : Enc) (na : Nat) (O : Nat → Prop) (M : Parts) (s : Sl) : Prop where
 txt : Txt w p e 65536 na O M
 lst : SlOwn w N s 3 1 (iv (atoms (aOf e M)))
 box : w.heap[b]? = some (bothO p s)
 new : ∀ k, O k → N ≤ k
 newb : N ≤ b
 nob : ¬ O b
 nol : ∀ k, s.blk k → ¬ O k
theorem Hs.lt (h : Hs w N b p e na O M s) : ∀ k, (O k ∨ s.blk k ∨ k = b) → k < w.heap.size := fun k hk => by
 rcases hk with hk | hk | rfl
 ·exact h.txt.own k hk
 ·exact h.lst.in.blk_lt hk
 ·exact lt_of_heap h.box
theorem Hs.upd {S : Nat → Prop} (h : Hs w N b p e na O M s) (u : Upd S w w') (hS : ∀ k, (O k ∨ s.blk k ∨ k = b) → ¬ S k) (hN : NoTy w S 144) : Hs w' N b p e na O M s :=
 ⟨h.txt.upd u (fun k hk => hS k (.inl hk)) hN, h.lst.upd u fun k _ hk => hS k (.inr (.inl hk)), u.get h.box (hS b (.inr (.inr rfl))), h.new, h.newb, h.nob, h.nol⟩
theorem Hs.ext (h : Hs w N b p e na O M s) (x : Ext w w') : Hs w' N b p e na O M s := h.upd x (fun _ _ => id) (no_ext _ _)
theorem Txt.more (h : Txt w p e 65536 na O M) {na' : Nat} (hn : na ≤ na') : Txt w p e 65536 na' O M := by
 obtain ⟨t, a, ab, h1, h2, h3, h4, h5, h6, h7, h8⟩ := h.ex
 exact ⟨⟨t, a, ab, h1, h2, h3, h4, h5, h6, h7, Nat.le_trans h8 hn⟩, h.lims, h.sz, h.op, h.own⟩
theorem spliced_call {f t : Nat} {s sp : Sl} {put : List Int} (hs : SlIn w s 3 1 (iv A)) (hp : SlIn w sp 3 1 (iv put)) (hA : A.length < 2 ^ 37) (hpl : put.length < 2 ^ 37) (hf : f ≤ A.length) (ht : t ≤ A.length) {K : Sl → World → Prop} (hK : ∀ r w', SlOwn w' w.heap.size r 3 1 (iv (A.take f ++ put ++ A.drop t)) → Ext w w' → K r w') :
  callT Tryz.prog 103 #[.slice s.a s.len s.cap, .int .i64 (f : Int), .int .i64 (t : Int), .slice sp.a sp.len sp.cap] (.one (.one .sl)) K w := by
 refine F103_calls ?_
 unfold F103
 have hlen : A.length = s.len := by have := hs.len1; rwa [List.length_map] at this
 have hcap := hs.le
 refine slc_r hs (by omega) (by omega) (by omega) (by omega) (by omega) fun x hx _ _ _ => ?_
 have hx : SlIn w x 3 1 (iv (A.take f)) := by
  rw [Nat.mul_one, Nat.mul_one, Int.toNat_natCast] at hx
  simpa [List.map_take] using hx
 refine joined_call hx hp (by rw [List.length_take]; omega) (by omega) fun r w1 o1 e1 => ?_
 refine slc_r (hs.ext e1) (by omega) (by omega) (by omega) (by omega) (by omega) fun y hy _ _ _ => ?_
 have hy : SlIn w1 y 3 1 (iv (A.drop t)) := by
  rw [Nat.mul_one, Nat.mul_one, Int.toNat_natCast, Int.toNat_natCast, List.take_of_length_le (by rw [List.length_drop, List.length_map]; omega), ← List.map_drop] at hy
  exact hy
 refine joined_call o1.in hy (by rw [List.length_append, List.length_take]; omega) (by rw [List.length_drop]; omega) fun r' w2 o2 e2 => hK r' w2 (o2.mono e1.size) (e1.trans e2)
abbrev Ed (w : World) (O : Nat → Prop) (b : Nat) (k : Nat) : Prop := Wr w O k ∨ k = b
set_option maxHeartbeats 1000000 in
theorem edited_call {x n : Int} {sp : Sl} {put : List Int} (h : Hs w N b p e na O M s) (hsp : SlX w sp 1 (iv put)) (hpl : put.length < 2 ^ 60) (hx : In64 x) (hn : In64 n) (hroom : szs (aOf e M) + 64 ≤ 65536) (hna : na + 64 < 2 ^ 40) (hN : N ≤ w.heap.size) {K : Bool → World → Prop}
  (hK : ∀ O' M' s' w', Hs w' N b p e (na + 64) O' M' s' → szs (aOf e M') ≤ szs (aOf e M) + 64 → Upd (Ed w O b) w w' → (∀ k, O' k → O k ∨ w.heap.size ≤ k) → (∀ k, s'.blk k → w.heap.size ≤ k) → K true w') :
  callT Tryz.prog 75 #[.pointer (some (at0 b)), .int .i64 x, .int .i64 n, .slice sp.a sp.len sp.cap] (.one (.one .bool)) K w := by
 refine F75_calls ?_
 unfold F75
 have few := h.txt.few
 have hal := hal e M
 obtain ⟨A, hA⟩ : ∃ A, A = atoms (aOf e M) := ⟨_, rfl⟩
 have lst := h.lst
 rw [← hA] at hal lst
 have hlen : A.length = s.len := by have := lst.len1; rwa [List.length_map] at this
 have bx : ∀ {V : World}, Ext w V → V.heap[b]? = some (bothO p s) := fun e => e.ext_get h.box
 obtain ⟨f, hf⟩ : ∃ f, f = within x A.length := ⟨_, rfl⟩
 obtain ⟨g, hg⟩ : ∃ g, g = within n (A.length - f) := ⟨_, rfl⟩
 have hfl : f ≤ A.length := by rw [hf]; exact within_le _ _
 have hgl : g ≤ A.length - f := by rw [hg]; exact within_le _ _
 refine nn_some ?_
 rw [addr_add]
 refine ld_r (x := s) (bx (Ext.refl w)) rfl ?_
 rw [← hlen]
 refine within_call (n := A.length) hx (by omega) ?_
 rw [← hf]
 refine nn_some (ld_r (x := s) (bx (Ext.refl w)) rfl ?_)
 rw [← hlen, show IntKind.wrap .i64 ((A.length : Int) - (f : Int)) = ((A.length - f : Nat) : Int) by rw [wrap64 (by omega) (by omega)]; omega]
 refine within_call (n := A.length - f) hn (by omega) ?_
 rw [← hg]
 obtain ⟨q, hq⟩ : ∃ q, q = plainL put := ⟨_, rfl⟩
 have hasc : Asc q := by rw [hq]; exact plainL_asc put
 have hql : q.length ≤ 16 := by rw [hq]; exact plainL_len put
 have hszs := Asc.szs (e := e) hasc
 have hfit := hasc.fit e
 have hbl := bts_len hfit
 refine plain_call hsp hpl fun r w1 o1 e1 => ?_
 rw [← hq] at o1
 have ewt : IntKind.wrap .i64 ((f : Int) + (g : Int)) = ((f + g : Nat) : Int) := by rw [wrap64 (by omega) (by omega)]; omega
 rw [ewt]
 refine drew_r fun w2 e2 _ => nn_some (ld_r (x := some (at0 p)) (bx (e1.trans e2)) rfl ?_)
 refine copied_call (o1.in.ext e2) (by omega) fun r2 w3 o3 e3 => ?_
 have x3 := (e1.trans e2).trans e3
 refine keep_r (cell_of (bx x3) rfl) (newO_r fun b11 w4 e4 n4 hb4 _ => ?_)
 have x4 := x3.trans e4
 refine keep_r (cell_of (bx x4) rfl) ?_
 have tx4 := h.txt.ext x4
 have hroom' : szs ((aOf e M).take f ++ prs e q ++ (aOf e M).drop (f + g)) ≤ szs (aOf e M) + 64 := by
  rw [szs_append, szs_append]
  have h1 : szs (aOf e M) = szs ((aOf e M).take (f + g)) + szs ((aOf e M).drop (f + g)) := by conv => lhs; rw [← List.take_append_drop (f + g) (aOf e M)]; rw [szs_append]
  have h2 : szs ((aOf e M).take f) ≤ szs ((aOf e M).take (f + g)) := by
   have : (aOf e M).take (f + g) = (aOf e M).take f ++ ((aOf e M).take (f + g)).drop f := by
    conv => lhs; rw [← List.take_append_drop f ((aOf e M).take (f + g))]
    rw [List.take_take, Nat.min_eq_left (by omega)]
   rw [this, szs_append]; omega
  omega
 refine change_call (f := f) (t := f + g) (s := ⟨some (at0 b11), 1, 1⟩) (sp := r2) (put := q) tx4 (by omega) (by omega) (eEdit n4) (fun k hk hO => ?_) (o3.in.ext e4) (fun k hk hO => ?_) hfit (by omega) (by omega) (by omega) fun O' M' w5 tx5 ea u5 g1 g2 => ?_
 ·obtain ⟨z, hz, rfl⟩ := hk
  cases hz
  have h1 : b11 < w.heap.size := h.txt.own _ hO
  have := x3.size
  omega
 ·have := o3.blk_ge hk
  have := h.txt.own _ hO
  have := (e1.trans e2).size
  omega
 have z4 := x4.size
 have u5' : Upd (Wr w O) w w5 := Upd.new (Upd.of_ext x4) u5 fun k _ hq => ⟨hq.1, fun c fr hc => hq.2 c fr (x4.ext_get hc)⟩
 have lst5 : SlOwn w5 N s 3 1 (iv A) := lst.upd u5' fun k _ hk hO => h.nol k hk hO.1
 have box5 : w5.heap[b]? = some (bothO p s) := u5'.get h.box fun hO => h.nob hO.1
 have r5 : SlIn w5 r 3 1 (iv q) := ((o1.in.ext e2).ext e3).ext e4 |>.upd u5 fun k hk hO => by
  have := o1.blk_ge hk
  have := h.txt.own _ hO.1
  omega
 refine sif_false (nn_some (ld_r (x := s) box5 rfl ?_))
 refine spliced_call lst5.in r5 (by omega) (by omega) hfl (by omega) fun r6 w6 o6 e6 => nn_some ?_
 rw [addr_add]
 have box6 := e6.ext_get box5
 refine stC_r box6 (by show 1 < 2; decide) fun w7 u7 n7 _ => ?_
 have hbl5 := lt_of_heap box5
 have nO' : ¬ O' b := fun hO => (g2 b hO).elim (fun hh => h.nob hh) fun hh => by have := lt_of_heap h.box; omega
 have ea' : atoms (aOf e M') = A.take f ++ q ++ A.drop (f + g) := by
  rw [ea, hA]
  unfold atoms
  rw [List.map_append, List.map_append, List.map_take, List.map_drop]
  congr 2
  exact atoms_prs e q
 have z5 := u5.size
 have hr6 : ∀ k, r6.blk k → w5.heap.size ≤ k := fun k hk => o6.blk_ge hk
 refine hK O' M' r6 w7 ⟨?_, ?_, ?_, ?_, h.newb, nO', ?_⟩ (by rw [ea]; exact hroom') ?_ ?_ ?_
 ·exact ((tx5.ext e6).upd u7 (fun k hk he => nO' (he ▸ hk)) (NoTy.box box6 (by decide))).more (by omega)
 ·rw [ea']
  exact (o6.mono (by omega)).box box6 (by decide) u7
 ·rw [n7]; rfl
 ·exact fun k hk => (g2 k hk).elim (h.new k) fun hh => by omega
 ·intro k hk hO
  have h1 := hr6 k hk
  have h2 := tx5.own k hO
  omega
 ·refine Upd.new (u5'.mono fun k _ hk => .inl hk) ((Upd.of_ext e6).trans u7) fun k _ hk => .inr hk
 ·exact fun k hk => (g2 k hk).imp id fun hh => by omega
 ·exact fun k hk => by have := hr6 k hk; omega
end
section
variable {w w' W : World} {p b N na : Nat} {e : Enc} {O : Nat → Prop} {M : Parts} {s : Sl} {A : List Int}
set_option maxHeartbeats 1000000 in
theorem played_call {y : Cells.T c43} {o : LOp} {lo hi : Int} (ask : Asks lo hi) (h : Hs w N b p e na O M s) (hy : o.In w y) (hroom : szs (aOf e M) + 64 ≤ 65536) (hna : na + 64 < 2 ^ 40) (hN : N ≤ w.heap.size) {K : Bool → World → Prop}
  (hK : ∀ O' M' s' w', Hs w' N b p e (na + 64) O' M' s' → szs (aOf e M') ≤ szs (aOf e M) + 64 → Upd (Ed w O b) w w' → (∀ k, O' k → O k ∨ w.heap.size ≤ k) → (∀ k, s'.blk k → s.blk k ∨ w.heap.size ≤ k) → K true w') :
  callT Tryz.prog 49 #[.pointer (some (at0 b)), .agg (Cells.vals c43 y).toArray, .int .i64 lo, .int .i64 hi] (.one (.one .bool)) K w := by
 refine F49_calls (a1 := y) ?_
 unfold F49
 have hput := hy.put; have hl := hy.len
 obtain ⟨_, _, ia, _, ic, _⟩ := hy.i1
 rw [← hy.at_] at ia
 rw [← hy.count] at ic
 have still : ∀ w', Ext w w' → K true w' := fun w' x => hK O M s w' ⟨(h.ext x).txt.more (by omega), (h.ext x).lst, (h.ext x).box, h.new, h.newb, h.nob, h.nol⟩ (by omega) (Upd.of_ext x) (fun k hk => .inl hk) fun k hk => .inl hk
 refine (St.start w).newO fun b1 w1 S1 e1 => ?_
 have S1 : St (fun _ => False) w w1 [(b1, opO y)] := S1
 refine S1.ld 0 rfl (x := y.2.1) rfl ?_
 refine sif_r (fun _ => ?_) (fun _ => ?_)
 ·refine S1.ld 0 rfl (x := y.2.2.1) rfl (S1.ld 0 rfl (x := y.2.2.2.2.1) rfl (S1.ld 0 rfl (x := y.2.2.2.2.2.2.1) rfl ?_))
  have z1 := e1.size
  refine edited_call (h.ext e1) (hput.ext e1) (by omega) ia ic hroom hna (by omega) fun O' M' s' w2 h2 g1 u2 g2 g3 => hK O' M' s' w2 h2 g1 ?_ (fun k hk => (g2 k hk).imp id fun hh => by omega) (fun k hk => .inr (by have := g3 k hk; omega))
  exact Upd.new (Upd.of_ext e1) u2 fun k hk hq => hq.imp (fun hq => ⟨hq.1, fun c fr hc => hq.2 c fr (e1.ext_get hc)⟩) id
 ·refine join_r (fun x W => (x.1 = false → lo ≤ y.2.1 ∧ y.2.1 ≤ hi) ∧ w1 = W) (S1.ld 0 rfl (x := y.2.1) rfl (sif_r (fun _ => ⟨fun h => (by cases h), rfl⟩) (fun g => S1.ld 0 rfl (x := y.2.1) rfl ⟨fun g2 => ?_, rfl⟩))) ?_
  ·have g := of_decide_eq_false g
   have g2 := of_decide_eq_false g2
   exact ⟨Int.not_lt.1 g, Int.not_lt.1 g2⟩
  rintro ⟨bb, _⟩ _ ⟨hk, rfl⟩
  refine sif_r (fun _ => still w1 e1) (fun g => ?_)
  refine S1.lds 0 y rfl ?_
  exact ask.ask (o := y) (h.txt.ext e1) (h.lst.ext e1).in (e1.ext_get h.box) ic.2 (hk g) fun w2 e2 => still w2 (e1.trans e2)
def Apt (O : Nat → Prop) (s : Sl) (b : Nat) (O' : Nat → Prop) (s' : Sl) (b' : Nat) : Prop := ∀ k, (O k ∨ s.blk k ∨ k = b) → ¬ (O' k ∨ s'.blk k ∨ k = b')
theorem Apt.symm {O O' : Nat → Prop} {s s' : Sl} {b b' : Nat} (h : Apt O s b O' s' b') : Apt O' s' b' O s b := fun k h1 h2 => h k h2 h1
structure Two (w : World) (N i b b' p p' : Nat) (e e' : Enc) : Prop where
 ex : ∃ O M s O' M' s', Hs w N b p e (64 * i) O M s ∧ Hs w N b' p' e' (64 * i) O' M' s' ∧ szs (aOf e M) ≤ 50000 + 64 * i ∧ szs (aOf e' M') ≤ 50000 + 64 * i ∧ Apt O s b O' s' b'
theorem Two.swap {i b b' p p' : Nat} {e e' : Enc} (h : Two w N i b b' p p' e e') : Two w N i b' b p' p e' e := by
 obtain ⟨O, M, s, O', M', s', h1, h2, h3, h4, h5⟩ := h.ex
 exact ⟨O', M', s', O, M, s, h2, h1, h4, h3, h5.symm⟩
theorem Two.step {i b' p' : Nat} {e' : Enc} {y : Cells.T c43} {o : LOp} {lo hi : Int} (ask : Asks lo hi) (h : Two w N i b b' p p' e e') (hi2 : i < 200) (hy : o.In w y) (hN : N ≤ w.heap.size) {K : Bool → World → Prop}
  (hK : ∀ w' (S : Nat → Prop), Two w' N (i + 1) b b' p p' e e' → Upd S w w' → (∀ k, S k → N ≤ k) → K true w') :
  callT Tryz.prog 49 #[.pointer (some (at0 b)), .agg (Cells.vals c43 y).toArray, .int .i64 lo, .int .i64 hi] (.one (.one .bool)) K w := by
 obtain ⟨O, M, s, O', M', s', h1, h2, h3, h4, h5⟩ := h.ex
 refine played_call ask h1 hy (by omega) (by omega) hN fun Q L r w2 g1 g2 u2 g3 g4 => hK w2 (Ed w O b) ⟨Q, L, r, O', M', s', g1, ?_, by omega, by omega, ?_⟩ u2 fun k hk => ?_
 ·have := h2.upd u2 (fun k hk hE => h5.symm k hk (by rcases hE with hE | hE; exact .inl hE.1; exact .inr (.inr hE))) (fun k hk => by
   rcases hk with hk | rfl
   ·exact hk.2
   ·exact NoTy.box h1.box (by decide) k rfl)
  exact ⟨this.txt.more (by omega), this.lst, this.box, this.new, this.newb, this.nob, this.nol⟩
 ·intro k hk hk'
  have hlt := h2.lt k hk'
  rcases hk with hk | hk | rfl
  ·rcases g3 k hk with q | q
   ·exact h5 k (.inl q) hk'
   ·omega
  ·rcases g4 k hk with q | q
   ·exact h5 k (.inr (.inl q)) hk'
   ·omega
  ·exact h5 k (.inr (.inr rfl)) hk'
 ·rcases hk with hk | rfl
  ·exact h1.new k hk.1
  ·exact h1.newb
set_option maxHeartbeats 1000000 in
theorem run_call {c0 c1 lo hi : Int} {s0 s1 so : Sl} {l0 l1 : Bs} {ys : List (Cells.T c43)} {os : List LOp} (hs0 : SlX w s0 1 (bv l0)) (hl0 : l0.length < 2 ^ 60) (hs1 : SlX w s1 1 (bv l1)) (hl1 : l1.length < 2 ^ 60) (ho : LOp.All w so ys os) (ask : Asks lo hi) {K : Bool → World → Prop} (hK : ∀ w', Ext w w' → K true w') :
  callT Tryz.prog 25 #[.agg (Cells.vals c24 (stT c0 s0)).toArray, .agg (Cells.vals c24 (stT c1 s1)).toArray, .slice so.a so.len so.cap, .int .i64 lo, .int .i64 hi] (.one (.one .bool)) K w := by
 refine F25_calls (a0 := stT c0 s0) (a1 := stT c1 s1) ?_
 unfold F25
 refine (St.start w).newO fun b1 w1 S1 e1 => S1.newO fun b2 w2 S2 e2 => S2.lds 1 (stT c0 s0) rfl ?_
 refine opened_callT (hs0.ext S2.upd) hl0 fun p e O M sa w3 hB e3 hM _ nl => ?_
 have S3 := S2.ext e3
 refine (St.start w3).newO' fun b5 w4 T4 e4 hb5 => T4.aggSt 0 rfl rfl rfl rfl fun w5 T5 u5 => sif_false ?_
 have T5 : St (fun _ => False) w3 w5 [(b5, bothO p sa)] := T5
 have S5 := S3.ext T5.upd
 refine S5.lds 0 (stT c1 s1) rfl ?_
 refine opened_callT (hs1.ext S5.upd) hl1 fun p' e' O' M' sb w6 hB' e6 hM' _ nl' => ?_
 have S6 := S5.ext e6
 refine (St.start w6).newO' fun b8 w7 T7 e7 hb8 => T7.aggSt 0 rfl rfl rfl rfl fun w8 T8 u8 => ?_
 have T8 : St (fun _ => False) w6 w8 [(b8, bothO p' sb)] := T8
 have S8 := S6.ext T8.upd
 refine join_r (fun x W => x = (false, ()) ∧ Ext w8 W) (sif_false (ask.fix fun w9 e9 => ⟨rfl, e9⟩)) ?_
 rintro _ w9 ⟨rfl, e9⟩
 refine sif_false ?_
 have S9 := S8.ext e9
 have x39 : Ext w3 w9 := ((T5.upd.trans e6).trans T8.upd).trans e9
 have x69 : Ext w6 w9 := T8.upd.trans e9
 have z2 := S2.upd.size; have z3 := e3.size; have z5 := T5.upd.size; have z6 := e6.size; have z8 := T8.upd.size; have z9 := e9.size
 have g5 : w5.heap[b5]? = some (bothO p sa) := T5.at_ 0 rfl
 have g8 : w8.heap[b8]? = some (bothO p' sb) := T8.at_ 0 rfl
 have n5 := lt_of_heap g5
 have n8 := lt_of_heap g8
 have m3 : ∀ k, (O k ∨ sa.blk k) → k < w3.heap.size := fun k hk => hk.elim (hB.txt.own k) fun hk => hB.lst.in.blk_lt hk
 have m6 : ∀ k, (O' k ∨ sb.blk k) → k < w6.heap.size ∧ w5.heap.size ≤ k := fun k hk => hk.elim (fun hk => ⟨hB'.txt.own k hk, hB'.new k hk⟩) fun hk => ⟨hB'.lst.in.blk_lt hk, hB'.lst.blk_ge hk⟩
 have sz0 : szs (aOf e M) ≤ 50000 := by rw [hM, szs_all, List.length_take]; omega
 have sz1 : szs (aOf e' M') ≤ 50000 := by rw [hM', szs_all, List.length_take]; omega
 have start : Two w9 w.heap.size 0 b5 b8 p p' e e' := by
  refine ⟨O, M, sa, O', M', sb, ⟨(hB.txt.ext x39).more (by omega), (hB.lst.ext x39).mono z2, ((e6.trans T8.upd).trans e9).ext_get g5, fun k hk => Nat.le_trans z2 (hB.new k hk), by omega, fun hk => by have := m3 b5 (.inl hk); omega, nl⟩, ⟨(hB'.txt.ext x69).more (by omega), (hB'.lst.ext x69).mono (by omega), e9.ext_get g8, fun k hk => by have := (m6 k (.inl hk)).2; omega, by omega, fun hk => by have := (m6 b8 (.inl hk)).1; omega, nl'⟩, by omega, by omega, ?_⟩
  ·intro k hk hk'
   have h1 : k < w5.heap.size := by
    rcases hk with hk | hk | rfl
    ·have := m3 k (.inl hk); omega
    ·have := m3 k (.inr hk); omega
    ·exact n5
   rcases hk' with hk' | hk' | rfl
   ·have := (m6 k (.inl hk')).2; omega
   ·have := (m6 k (.inr hk')).2; omega
   ·omega
 have hrow : ys.length = so.len := SlX.lenR (cs := c43) ho.row (by decide)
 have hlen := ho.len
 have hfew := ho.few
 refine join_r (fun _ W => Ext w W) ?_ (fun _ W x => hK W x)
 refine sloop_r (fun x W => ∃ i : Nat, x = ((i : Int), ()) ∧ i ≤ so.len ∧ i ≤ 200 ∧ Two W w.heap.size i b5 b8 p p' e e' ∧ Ext w W) (fun x _ => ((so.len : Int) - x.1).toNat) ⟨0, rfl, Nat.zero_le _, by omega, start, S9.upd⟩ ?_
 rintro _ W ⟨i, rfl, hi, hi2, two, xW⟩
 dsimp only
 refine join_r (fun x W' => x = (decide (i < so.len ∧ i < 200), ()) ∧ W = W') ?_ ?_
 ·refine sif_r (fun h => ⟨tupb ?_, rfl⟩) (fun h => ⟨tupb ?_, rfl⟩)
  all_goals simp only [decide_eq_true_eq, decide_eq_false_iff_not, Bool.false_eq_true, false_iff] at *
  all_goals omega
 rintro _ _ ⟨rfl, rfl⟩
 refine sif_r (fun hc => ?_) (fun _ => xW)
 simp only [decide_eq_true_eq] at hc
 obtain ⟨y, hy⟩ : ∃ y, ys[i]? = some y := ⟨_, List.getElem?_eq_getElem (by omega)⟩
 obtain ⟨o, ho'⟩ : ∃ o, os[i]? = some o := ⟨_, List.getElem?_eq_getElem (by omega)⟩
 have hop := ho.each i y o hy ho'
 have hop : o.In W y := ⟨hop.who, hop.kind, hop.at_, hop.move, hop.count, hop.arg, hop.put.ext xW, hop.i1, hop.i2, hop.len, fun k hk => (hop.lt k hk).imp id fun hh => by have := xW.size; omega⟩
 have ew : IntKind.wrap .i64 ((i : Int) + 1) = ((i + 1 : Nat) : Int) := by rw [wrap64 (by omega) (by omega)]; omega
 rw [ew]
 obtain ⟨ty, hty⟩ := (ho.row.ext xW).in_of (by omega)
 have rdy : ∀ {K : Addr → Cells.T c43 → World → Prop}, (∀ q, K q y W) → ix so.a so.len (i : Int) (fun q => lds c43 (q.add (scaled (Int.toNat (i : Int)) 7)) (K q)) W := fun hk => ix_lds (cs := c43) (xs := ys) hty (by decide) (by omega) (x := y) (by rw [Int.toNat_natCast]; exact hy) hk
 refine join_r (fun x W' => x = (true, ()) ∧ Two W' w.heap.size (i + 1) b5 b8 p p' e e' ∧ Ext w W') ?_ ?_
 ·refine ix_ldf0 (c := .int .i64) (cs := c43) (xs := ys) hty (by omega) (x := y) (y := y.1) (by rw [Int.toNat_natCast]; exact hy) rfl fun q => ?_
  refine sif_r (fun _ => ?_) (fun _ => ?_)
  ·exact rdy fun q => two.step ask (by omega) hop xW.size fun w' S t u hS => ⟨rfl, t, xW.step u hS⟩
  ·exact rdy fun q => two.swap.step ask (by omega) hop xW.size fun w' S t u hS => ⟨rfl, t.swap, xW.step u hS⟩
 rintro _ W' ⟨rfl, two', xW'⟩
 exact sif_false ⟨⟨i + 1, rfl, by omega, by omega, two', xW'⟩, by omega⟩
end
section
variable {w : World}
theorem oBlocks_walk {c0 c1 : Int} {s0 s1 so : Sl} {l0 l1 : Bs} {ys : List (Cells.T c43)} {os : List LOp} (hs0 : SlX w s0 1 (bv l0)) (hl0 : l0.length < 2 ^ 60) (hs1 : SlX w s1 1 (bv l1)) (hl1 : l1.length < 2 ^ 60) (ho : LOp.All w so ys os) {K : Bool → World → Prop} (hK : ∀ w', Ext w w' → K true w') :
  callT Tryz.prog 8 #[.agg (Cells.vals c24 (stT c0 s0)).toArray, .agg (Cells.vals c24 (stT c1 s1)).toArray, .slice so.a so.len so.cap] (.one (.one .bool)) K w := by
 refine F8_calls (a0 := stT c0 s0) (a1 := stT c1 s1) ?_
 unfold F8
 refine (St.start w).newO fun b1 w1 S1 e1 => S1.newO fun b2 w2 S2 e2 => S2.lds 1 (stT c0 s0) rfl (S2.lds 0 (stT c1 s1) rfl ?_)
 have ho2 : LOp.All w2 so ys os := ⟨ho.row.ext S2.upd, ho.len, ho.few, fun i y o hy h' => by
  have h := ho.each i y o hy h'
  exact ⟨h.who, h.kind, h.at_, h.move, h.count, h.arg, h.put.ext S2.upd, h.i1, h.i2, h.len, fun k hk => (h.lt k hk).imp id fun hh => by have := S2.upd.size; omega⟩⟩
 exact run_call (hs0.ext S2.upd) hl0 (hs1.ext S2.upd) hl1 ho2 asks3 fun w' e => hK w' (S2.upd.trans e)
end
end Go.Proofs.YtabcpghhfeplaaaGreat
namespace Go.Proofs.YtabcpghhfeplaaaGreat
open Go Go.Vx Go.ChangeShapes Go.WideShapes Go.RowKit
set_option maxRecDepth 100000 in
theorem objectBlocks_lifted (os : Os) (started : os.Started) (H : Type) (enc : TypeId × Value → H) :
  ReturnsInHanded {} Tryz.checked os 8 .any (Rows.objectBlocksSpec.pre6 enc Tryz.prog Tryz.f8 Rows.objectBlocksRow.domain false) (Rows.objectBlocksSpec.post enc Tryz.prog Tryz.f8 false true false false) := by
 refine returnsInHanded_of_change_sized (C := Tryz.checked) Tryz.own started (by kernel_rfl) Tryz.func8
  (ChangeSpec.witness6 (enc := enc) (C := Tryz.checked) false ⟨#[], #[.agg #[.int .i64 0, .slice none 0 0], .agg #[.int .i64 0, .slice none 0 0], .slice none 0 0], []⟩ 8 (by kernel_rfl) (by kernel_rfl) (by kernel_rfl) (by kernel_rfl)) ?_
 intro W base args ds gs before hval0 hW _ hwt0 _
 have hval : ∀ (j : Nat) t v, Tryz.f8.params[j]? = some t → args[j]? = some v → Value.okWide Tryz.prog W .any base t v := hval0
 have hwt : (DataW.weightsEach Tryz.prog (Tryz.f8.params.toList ++ []) (ds ++ gs)).all (· ≤ reachBytes) = true := hwt0
 have hW' := hW
 obtain ⟨p, q, hA0, hV, rfl, hfz, hnd⟩ := hW
 have hA : DataW.TrodAll enc Tryz.prog W 0 (fun _ => true) true Tryz.f8.params.toList args.toList ds p := hA0
 clear hA0 hval0 hwt0
 rw [Tryz.params8] at hA hval hwt
 obtain ⟨rfl, rfl⟩ := trodVars_none hV
 obtain ⟨hn1, hn2, hT⟩ := trodAll_get hA
 obtain ⟨v0, v1, v2, hv⟩ := list_3 args.toList hn1
 obtain rfl : args = #[v0, v1, v2] := by cases args; simp_all
 obtain ⟨d0, d1, d2, rfl⟩ := list_3 ds hn2
 obtain ⟨p0, q0⟩ := hT 0 24 v0 d0 rfl rfl rfl
 obtain ⟨c0, s0, l0, rfl, h0, n0⟩ := arg_start (hval 0 24 v0 rfl rfl) q0 (weigh hwt 0 rfl rfl)
 obtain ⟨p1, q1⟩ := hT 1 24 v1 d1 rfl rfl rfl
 obtain ⟨c1, s1, l1, rfl, h1, n1⟩ := arg_start (hval 1 24 v1 rfl rfl) q1 (weigh hwt 1 rfl rfl)
 obtain ⟨p2, q2⟩ := hT 2 41 v2 d2 rfl rfl rfl
 obtain ⟨s2, y2, o2, rfl, h2⟩ := arg_ops (hval 2 41 v2 rfl rfl) q2 (weigh hwt 2 rfl rfl)
 have walk := oBlocks_walk (c0 := c0) (c1 := c1) h0 (by omega) h1 (by omega) h2 (K := fun r w' => r = true ∧ Ext W w') fun w' e => ⟨rfl, e⟩
 refine walk.mono fun e W' ⟨x, he, hx, hext⟩ => ⟨.bool true, ?_, ?_⟩
 ·subst hx; exact he
 ·exact post_same hW' rfl rfl u4 rfl Tryz.laidOut (fun t ht => by
   rw [Tryz.params8] at ht
   have ht : t ∈ [24, 24, 41] := ht
   simp only [List.mem_cons, List.not_mem_nil, or_false] at ht
   rcases ht with rfl | rfl | rfl <;> exact recs (by simp)) hext
theorem objectBlocks_holds : Rows.ObjectBlocksSaid :=
 OpenClaim.holds_of_wide 8 Tryz.f8 rfl rfl rfl rfl rfl rfl rfl ⟨rfl, rfl, rfl, rfl, rfl⟩ rfl rfl rfl rfl rfl (by kernel_rfl) Tryz.func8 (by kernel_rfl)
  (of_decide_eq_true (by kernel_rfl)) (by unfold Func.isWrapper; rw [if_neg (by decide +kernel)]; exact ⟨rfl, rfl⟩)
  (fun os started H enc _ => objectBlocks_lifted os started H enc)
end Go.Proofs.YtabcpghhfeplaaaGreat
