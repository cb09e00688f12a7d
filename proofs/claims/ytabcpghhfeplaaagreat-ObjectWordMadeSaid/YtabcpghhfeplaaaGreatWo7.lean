/- The law holds for every input: it returns true, and each argument reads behind the call as it did. Conditions: those of the form alone. -/
import Derived.Test.YtabcpghhfeplaaaGreatWo6
set_option linter.unusedVariables false
set_option linter.unusedSimpArgs false
set_option linter.unusedSectionVars false
set_option linter.unusedSimpArgs false
set_option linter.unusedVariables false
set_option maxRecDepth 100000
namespace Go.Proofs.YtabcpghhfeplaaaGreat
open Go Go.Vx Cdc Trx
section
variable {w w' W W' : World} {S : Nat → Prop} {p : Nat} {e : Enc} {lim na : Nat} {O : Nat → Prop} {M : Parts} {tp : Option Addr} {a0 a : Sl}
def hdA (e : Enc) (M : Parts) (i n : Nat) : As := match M[i]? with | some x => (ats e x.2).take n | none => []
def tlA (e : Enc) (M : Parts) (i n : Nat) : As := match M[i]? with | some x => (ats e x.2).drop n | none => []
theorem hdA_some {e : Enc} {M : Parts} {i n : Nat} {x : Int × Bs} (h : M[i]? = some x) : hdA e M i n = (ats e x.2).take n := by unfold hdA; rw [h]
theorem tlA_some {e : Enc} {M : Parts} {i n : Nat} {x : Int × Bs} (h : M[i]? = some x) : tlA e M i n = (ats e x.2).drop n := by unfold tlA; rw [h]
theorem hdA_none {e : Enc} {M : Parts} {i n : Nat} (h : M[i]? = none) : hdA e M i n = [] := by unfold hdA; rw [h]
theorem tlA_none {e : Enc} {M : Parts} {i n : Nat} (h : M[i]? = none) : tlA e M i n = [] := by unfold tlA; rw [h]
theorem hd_spot {e : Enc} {M : Parts} {at_ i n : Nat} (h : Spot e M at_ i n) : (aOf e M).take at_ = aOf e (M.take i) ++ hdA e M i n := by rw [take_spot h]; unfold hdA; cases M[i]? <;> rfl
theorem drop_spot {e : Enc} {M : Parts} {at_ i n : Nat} (h : Spot e M at_ i n) : (aOf e M).drop at_ = tlA e M i n ++ aOf e (M.drop (i + 1)) := by
  rcases h with ⟨rfl, rfl, rfl⟩ | ⟨x, hx, h1, h2, rfl⟩
  · cases M with
    | nil => simp [aOf, tlA]
    | cons x M => simp [aOf, tlA]
  · rw [tlA_some hx]
    have hil := (List.getElem?_eq_some_iff.1 hx).1
    have hd : M = M.take i ++ x :: M.drop (i + 1) := by
      have := List.drop_eq_getElem_cons hil
      have hx' : M[i] = x := by rw [List.getElem?_eq_getElem hil] at hx; exact Option.some.inj hx
      rw [hx'] at this
      rw [← this, List.take_append_drop]
    have : aOf e M = aOf e (M.take i) ++ (ats e x.2 ++ aOf e (M.drop (i + 1))) := by
      conv => lhs; rw [hd]
      rw [aOf_app, aOf_cons]
    rw [this, List.drop_length_add_append, List.drop_append_of_le_length h2]
theorem spot_le {e : Enc} {M : Parts} {f t i n j m : Nat} (h1 : Spot e M f i n) (h2 : Spot e M t j m) (hft : f ≤ t) : i ≤ j := by
  have mono : ∀ a b : Nat, a ≤ b → (aOf e (M.take a)).length ≤ (aOf e (M.take b)).length := by
    intro a b hab
    have : M.take b = M.take a ++ (M.take b).drop a := by
      conv => lhs; rw [← List.take_append_drop a (M.take b)]
      rw [List.take_take, Nat.min_eq_left hab]
    rw [this, aOf_app, List.length_append]; omega
  rcases h1 with ⟨_, rfl, _⟩ | ⟨x, hx, g1, g2, g3⟩
  · exact Nat.zero_le _
  rcases Nat.lt_or_ge j i with hlt | hge
  · exfalso
    rcases h2 with ⟨h, _, _⟩ | ⟨y, hy, k1, k2, k3⟩
    · omega
    · have hjl := (List.getElem?_eq_some_iff.1 hy).1
      have e1 : (aOf e (M.take (j + 1))).length = (aOf e (M.take j)).length + (ats e y.2).length := by
        have hy' : M[j] = y := by rw [List.getElem?_eq_getElem hjl] at hy; exact Option.some.inj hy
        rw [List.take_add_one, hy, Option.toList_some, aOf_app, List.length_append]
        simp [aOf]
      have := mono (j + 1) i (by omega)
      omega
  · exact hge
theorem szs_ge_take {l : As} (h : Posd l) {n : Nat} (hn : n ≤ l.length) : n ≤ szs (l.take n) := by
  have := szs_ge (h.take n)
  rw [List.length_take] at this; omega
theorem head_in {x : Pc} {y : Int × Bs} {n : Nat} (hp : PcIn w e x y) (h1 : 1 ≤ n) (hn : n ≤ (ats e y.2).length) : PcIn w e (headPc e x y.2 n) (y.1, y.2.take (cutAt e y.2 n)) := by
  have hcl := cutAt_le e y.2 n
  have hlen := hp.by_.len
  have hcap := SlIn.le hp.by_
  have c1 := hp.by_.cut (l := 0) (h := (cutAt e y.2 n : Int)) (m := (cutAt e y.2 n : Int)) (by omega) (by omega) (by omega) (by omega) (by omega)
  have d1 : (y.2.drop (0 : Int).toNat).take ((cutAt e y.2 n : Int).toNat - (0 : Int).toNat) = y.2.take (cutAt e y.2 n) := by simp
  rw [d1] at c1
  have hge : n ≤ cutAt e y.2 n := szs_ge_take (ats_posd e y.2) hn
  refine ⟨c1, rfl, hp.tag, fun hc => ?_, hp.lo, ?_⟩
  · have := congrArg List.length hc
    rw [List.length_take, List.length_nil] at this
    omega
  · have := hp.hi
    show y.1 + ((y.2.take _).length : Int) ≤ _
    rw [List.length_take]; omega
theorem rest_in {x : Pc} {y : Int × Bs} {n : Nat} (hp : PcIn w e x y) (hn : n < (ats e y.2).length) : PcIn w e (restPc e x y.2 n) (restTag y.1 (cutAt e y.2 n), y.2.drop (cutAt e y.2 n)) := by
  have hcl := cutAt_le e y.2 n
  have hlen := hp.by_.len
  have hcap := SlIn.le hp.by_
  have c2 := hp.by_.cut (l := (cutAt e y.2 n : Int)) (h := (x.bytes.len : Int)) (m := (x.bytes.cap : Int)) (by omega) (by omega) (by omega) (by omega) (by omega)
  have d2 : (y.2.drop (cutAt e y.2 n : Int).toNat).take ((x.bytes.len : Int).toNat - (cutAt e y.2 n : Int).toNat) = y.2.drop (cutAt e y.2 n) := by
    rw [Int.toNat_natCast, Int.toNat_natCast]
    exact List.take_of_length_le (by rw [List.length_drop]; omega)
  rw [d2] at c2
  have hlt : cutAt e y.2 n < y.2.length := by
    have h1 := szs_append ((ats e y.2).take n) ((ats e y.2).drop n)
    rw [List.take_append_drop, szs_all] at h1
    have h2 := szs_ge ((ats_posd e y.2).drop n)
    rw [List.length_drop] at h2
    unfold cutAt; omega
  have hlo := hp.lo; have hhi := hp.hi
  refine ⟨c2, rfl, by show restTag x.tag _ = restTag y.1 _; rw [hp.tag], fun hc => ?_, ?_, ?_⟩
  · have := congrArg List.length hc
    rw [List.length_drop, List.length_nil] at this
    omega
  · show -1 ≤ restTag y.1 _
    unfold restTag; split <;> omega
  · show restTag y.1 _ + ((y.2.drop _).length : Int) ≤ _
    rw [List.length_drop]
    unfold restTag; split <;> omega
theorem Pcs_one (l : List Pc) : ∀ v ∈ flat c112 (l.map pcT), isOne v = true := by
  intro v hv
  unfold flat at hv
  obtain ⟨x, hx, hv⟩ := List.mem_flatMap.1 hv
  obtain ⟨y, _, rfl⟩ := List.mem_map.1 hx
  exact Pc_one y v (by rw [flat_one]; exact hv)
theorem rdTree (tx : W.heap[p]? = some (txO e lim tp a)) {K : Addr → Cells.T c105 → World → Prop} (hK : K (at0 p) (tp, ()) W) : nn (some (at0 p)) (fun q => lds c105 (q.add 2) (K q)) W := by
  refine nn_some ?_
  rw [addr_add]
  refine lds_r tx (x := (tp, ())) (fun i v hv => ?_) hK
  match i, hv with
  | 0, hv => exact hv
  | i + 1, hv => cases hv
set_option maxHeartbeats 2000000 in
theorem treplace_call {from_ to_ : Nat} {s : Sl} {t : TypeId} {put : List Int} (h : Txt w p e lim na O M) (hft : from_ ≤ to_) (hto : to_ ≤ (aOf e M).length) (hs : SlIn w s t 1 (iv put)) (hsep : ∀ k, s.blk k → ¬ O k) (hfit : Fit e put) (hna : na + (bts e put).length < 2 ^ 40) (hput : put.length < 2 ^ 40)
    (hroom : szs ((aOf e M).take from_ ++ prs e put ++ (aOf e M).drop to_) ≤ lim) {K : Unit → World → Prop}
    (hK : ∀ O' M' w', Txt w' p e lim (na + (bts e put).length) O' M' → aOf e M' = (aOf e M).take from_ ++ prs e put ++ (aOf e M).drop to_ → Upd O w w' → (∀ k, O k → O' k) → (∀ k, O' k → O k ∨ w.heap.size ≤ k) → K () w') :
    callT Tryz.prog 78 #[.pointer (some (at0 p)), .int .i64 (from_ : Int), .int .i64 (to_ : Int), .slice s.a s.len s.cap] (.tup []) K w := by
  refine F78_calls ?_
  unfold F78
  obtain ⟨tr, a0, ab, tx, ht, hi, own, tops, pO, aO, hla⟩ := h.ex
  have few := h.few; have lims := h.lims; have hsz := h.sz
  have il := hi.len
  have hf : Fine tr.items := hi.fine (by omega)
  have fl := hf.few
  have hal : ab.length = a0.len := by have := own.len1; rwa [List.length_map] at this
  refine tfind_call h (by omega) fun i n w1 hs1 hil1 e1 => ?_
  refine tfind_call (h.ext e1) (by omega) fun j m w2 hs2 hil2 e2 => ?_
  rw [Int.toNat_natCast] at hs1 hs2
  have x2 := e1.trans e2
  have hij := spot_le hs1 hs2 hft
  have pcs : ∀ {i : Nat} {x : Pc}, tr.items[i]? = some x → ∃ y, M[i]? = some y ∧ PcIn w e x y ∧ y.2.length ≤ lim := by
    intro i x hx
    obtain ⟨y, hy, hp⟩ := hi.get i hx
    refine ⟨y, hy, hp, ?_⟩
    have h2 : szs (aOf e M) = szs (aOf e (M.take i)) + (y.2.length + szs (aOf e (M.drop (i + 1)))) := by
      have hil := (List.getElem?_eq_some_iff.1 hy).1
      have hd := List.drop_eq_getElem_cons hil
      have hx' : M[i] = y := by rw [List.getElem?_eq_getElem hil] at hy; exact Option.some.inj hy
      rw [hx'] at hd
      conv => lhs; rw [← List.take_append_drop i M, hd]
      rw [aOf_app, aOf_cons, szs_append, szs_append, szs_all]
    omega
  have spn : ∀ {at_ i n : Nat} {y : Int × Bs}, at_ ≤ (aOf e M).length → Spot e M at_ i n → M[i]? = some y → n ≤ (ats e y.2).length ∧ n < 2 ^ 30 := by
    intro at_ i n y hle hs hy
    rcases hs with ⟨_, _, rfl⟩ | ⟨x, hx, h1, h2, h3⟩
    · exact ⟨Nat.zero_le _, by decide⟩
    · rw [hy] at hx; cases hx
      exact ⟨h2, by omega⟩
  refine join_r (fun x W => ∃ plL ML, SlOwn W w2.heap.size x.1 112 7 (flat c112 (plL.map pcT)) ∧ Its w e plL ML ∧ aOf e ML = hdA e M i n ∧ (∀ x ∈ plL, ∀ k, x.bytes.blk k → O k) ∧ (∀ x ∈ plL, ∀ k, x.bytes.blk k → a0.blk k → top x.bytes ≤ top a0) ∧ plL.length ≤ 1 ∧ Ext w2 W) ?_ ?_
  · refine rdTree (x2.ext_get tx) (at_call (ht.ext x2) hf (by omega) fun w3 e3 => ?_)
    refine (St.start w3).newO fun b8 w4 S4 e4 => S4.aggSt 0 rfl rfl rfl rfl fun w5 S5 u5 => ?_
    cases hx : tr.items[i]? with
    | none =>
      have hM : M[i]? = none := List.getElem?_eq_none (by have := List.getElem?_eq_none_iff.1 hx; omega)
      have e0 : atI tr.items i = (Pc.zero, false) := by unfold atI; rw [hx]
      rw [e0, hdA_none hM]
      refine join_r (fun x W => x = (false, ()) ∧ w5 = W) (sif_false ⟨rfl, rfl⟩) ?_
      rintro _ _ ⟨rfl, rfl⟩
      exact sif_false ⟨[], [], SlOwn.nil _ _ _ _, trivial, rfl, (fun x hx => by cases hx), (fun x hx => by cases hx), Nat.zero_le _, e3.trans S5.upd⟩
    | some x =>
      have e0 : atI tr.items i = (x, true) := by unfold atI; rw [hx]
      rw [e0] at S5 ⊢
      obtain ⟨y, hy, hp, hyl⟩ := pcs hx
      have hn := spn (by omega) hs1 hy
      rw [hdA_some hy]
      refine join_r (fun x W => x = (decide (0 < n), ()) ∧ w5 = W) (sif_true ⟨tupb ?_, rfl⟩) ?_
      · simp only [decide_eq_true_eq, gt_iff_lt]; omega
      rintro _ _ ⟨rfl, rfl⟩
      refine sif_r (fun hn0 => ?_) (fun hn0 => ?_)
      · simp only [decide_eq_true_eq] at hn0
        have hlo := hp.lo; have hhi := hp.hi
        have hE : ∀ {V : World}, Ext w3 V → V.cell? (at0 p) = some (.int .i64 e.num) := fun x => cell_of (x.ext_get ((x2.trans e3).ext_get tx)) rfl
        have byB : By w3 x.bytes y.2 := hp.by_.ext (x2.trans e3)
        have S := S5
        refine join_r (fun s W => ∃ b, s.1 = at0 b ∧ W.heap[b]? = some (.cells (Cells.vals c112 (pcT (headPc e x y.2 n))).toArray 112 (0, 0)) ∧ Ext w3 W) ?_ ?_
        · refine S.drew fun w9 S e9 _ => S.lds 0 (pcT x) rfl ?_
          simp only [nn_eqT]
          refine ld_r (S.upd.ext_get ((x2.trans e3).ext_get tx)) (x := e.num) rfl ?_
          exact ⟨S.newO fun b18 wx S ex => keep_r (hE S.upd) (S.keeps 1 rfl (⟨S.newO fun b19 wx S ex => keep_r (hE S.upd) (S.keeps 2 rfl (pcut_call (byB.ext S.upd) (by omega) (by rw [hp.tag]; omega) (by omega) fun wx ex => (fun S => S.aggSt 1 rfl rfl rfl rfl fun wx S ux => S.aggSt 0 rfl rfl rfl rfl fun wx S ux => ⟨b18, rfl, S.at_ 1 rfl, S.upd⟩) (S.ext ex))), pcut_call (byB.ext S.upd) (by omega) (by rw [hp.tag]; omega) (by omega) fun wx ex => (fun S => ⟨S.newO fun b22 wx S ex => keep_r (hE S.upd) (S.keeps 2 rfl (S.aggSt 1 rfl rfl rfl rfl fun wx S ux => S.aggSt 0 rfl rfl rfl rfl fun wx S ux => ⟨b18, rfl, S.at_ 1 rfl, S.upd⟩)), trivial⟩) (S.ext ex)⟩)), ⟨S.newO fun b23 wx S ex => keep_r (hE S.upd) (S.keeps 1 rfl (⟨S.newO fun b24 wx S ex => keep_r (hE S.upd) (S.keeps 2 rfl (pcut_call (byB.ext S.upd) (by omega) (by rw [hp.tag]; omega) (by omega) fun wx ex => (fun S => S.aggSt 0 rfl rfl rfl rfl fun wx S ux => S.aggSt 1 rfl rfl rfl rfl fun wx S ux => ⟨b24, rfl, S.at_ 0 rfl, S.upd⟩) (S.ext ex))), pcut_call (byB.ext S.upd) (by omega) (by rw [hp.tag]; omega) (by omega) fun wx ex => (fun S => ⟨S.newO fun b27 wx S ex => keep_r (hE S.upd) (S.keeps 2 rfl (S.aggSt 0 rfl rfl rfl rfl fun wx S ux => S.aggSt 1 rfl rfl rfl rfl fun wx S ux => ⟨b27, rfl, S.at_ 0 rfl, S.upd⟩)), trivial⟩) (S.ext ex)⟩)), pcut_call (byB.ext S.upd) (by omega) (by rw [hp.tag]; omega) (by omega) fun wx ex => (fun S => ⟨S.newO fun b29 wx S ex => keep_r (hE S.upd) (S.keeps 1 rfl (⟨S.newO fun b30 wx S ex => keep_r (hE S.upd) (S.keeps 2 rfl (S.aggSt 1 rfl rfl rfl rfl fun wx S ux => S.aggSt 0 rfl rfl rfl rfl fun wx S ux => ⟨b29, rfl, S.at_ 1 rfl, S.upd⟩)), trivial⟩)), ⟨S.newO fun b31 wx S ex => keep_r (hE S.upd) (S.keeps 1 rfl (⟨S.newO fun b32 wx S ex => keep_r (hE S.upd) (S.keeps 2 rfl (S.aggSt 0 rfl rfl rfl rfl fun wx S ux => S.aggSt 1 rfl rfl rfl rfl fun wx S ux => ⟨b32, rfl, S.at_ 0 rfl, S.upd⟩)), trivial⟩)), trivial⟩⟩) (S.ext ex)⟩⟩
        · rintro ⟨_, _⟩ w9 ⟨b, rfl, hb, e9⟩
          dsimp only
          refine lds_r hb (x := pcT (headPc e x y.2 n)) (fun j v hv => by rw [Nat.zero_add, List.getElem?_toArray]; exact hv) (newO_r fun b32 w10 e10 n10 _ _ => ?_)
          have hbox : SlX w10 ⟨some (at0 b32), 1, 1⟩ 7 (flat c112 [pcT (headPc e x y.2 n)]) := (SlIn.of_box n10 (n := 1) (sz := 7) rfl).x
          have x10 := (e3.trans e9).trans e10
          refine append_rx eParts eParts.ts_ (s := ⟨none, 0, 0⟩) (x := ⟨some (at0 b32), 1, 1⟩) (SlOwn.nil w10 w2.heap.size _ _) hbox (Pc_one _) (by dsimp only; omega) (by have := x10.size; omega) fun ps' W4 o4 l4 u4 k4 => ?_
          refine ⟨[headPc e x y.2 n], [(y.1, y.2.take (cutAt e y.2 n))], o4, ⟨head_in hp hn0 hn.1, trivial⟩, ?_, ?_, ?_, Nat.le_refl _, x10.step u4 fun k hk => ?_⟩
          · show ats e (y.2.take (cutAt e y.2 n)) ++ [] = _
            rw [List.append_nil]; unfold cutAt
            rw [(ats_cut e n y.2).1]
          · intro z hz k hk
            rw [List.mem_singleton.1 hz] at hk
            exact pO x (List.mem_of_getElem? hx) k (cut_blk hk)
          · intro z hz k hk hk'
            rw [List.mem_singleton.1 hz] at hk ⊢
            have hcl := cutAt_le e y.2 n
            have hlen := hp.by_.len
            exact Nat.le_trans (cut_top hp.by_ (l := 0) (h := (cutAt e y.2 n : Int)) (by omega) (by omega) (by omega)) (tops x (List.mem_of_getElem? hx) k (cut_blk hk) hk')
          · obtain ⟨q, hq, _⟩ := hk; cases hq
      · simp only [decide_eq_false_iff_not] at hn0
        obtain rfl : n = 0 := by omega
        exact ⟨[], [], SlOwn.nil _ _ _ _, trivial, rfl, (fun x hx => by cases hx), (fun x hx => by cases hx), Nat.zero_le _, e3.trans S5.upd⟩
  rintro ⟨psL, _⟩ w3 ⟨plL, ML, rowL, itsL, hML, oL, topL, lenL, e3⟩
  dsimp only at rowL ⊢
  have x3 := x2.trans e3
  have tk1 := hd_spot hs1
  rw [← hML] at tk1
  have tk2 := drop_spot hs2
  refine fresh_call (hs.ext x3) (fun k hk => ⟨fun hc => hsep k hk (hc ▸ h.op), fun hc => hsep k hk (aO k hc)⟩) hfit (x3.ext_get tx) (own.ext x3) (by omega) hput fun psF a plF MF w4 tx4 own4 rowF itsF hMF topF blkF blkA old4 u4 cntF => ?_
  have nt4 : ∀ t, t ≠ 107 → t ≠ 5 → NoTy w3 (fun k => k = p ∨ a0.blk k) t := by
    rintro t h1 h2 k (rfl | hk) c fr hc
    · rw [x3.ext_get tx] at hc; cases hc; exact h1 rfl
    · obtain ⟨c', fr', hc'⟩ := (own.ext x3).in.blk_cells hk
      rw [hc] at hc'; cases hc'; exact h2 rfl
  have rowL4 := rowL.ty u4 (nt4 _ (by decide) (by decide))
  have ht4 : tr.In w4 := (ht.ext x3).ty u4 (nt4 _ (by decide) (by decide))
  have o4 : Old w w4 a0 a := fun y b hy htp => old4 y b (hy.ext x3) htp
  have lL := SlOwn.lenR (cs := c112) rowL (by decide)
  have lF := SlOwn.lenR (cs := c112) rowF (by decide)
  rw [List.length_map] at lL lF
  have z2 := e3.size
  have z4 := u4.size
  refine append_rx eParts eParts.ts_ rowL4 rowF.in.x (Pcs_one _) (by
    show (psL.len + psF.len + (psL.len + psF.len) / 4 + 512) * 64 ≤ 2 ^ 48
    omega) (by omega) fun psA w5 rowA lA u5 kA => ?_
  rw [← flat_append, ← List.map_append] at rowA
  have nt5 : ∀ t, t ≠ 112 → NoTy w4 psL.blk t := fun t ht => NoTy.blk rowL4.in (fun h => ht h.symm)
  have tx5 : w5.heap[p]? = some (txO e lim tr.ptr a) := u5.get tx4 fun hk => nt5 107 (by decide) _ hk _ _ tx4
  have own5 := own4.ty u5 (nt5 _ (by decide))
  have itsF5 := itsF.ty u5 (nt5 _ (by decide))
  have ht5 : tr.In w5 := ht4.ty u5 (nt5 _ (by decide))
  have o5 := o4.ty u5 (nt5 _ (by decide))
  have z5 := u5.size
  refine join_r (fun x W => ∃ plR MR, SlOwn W w2.heap.size x.1 112 7 (flat c112 ((plL ++ plF ++ plR).map pcT)) ∧ Its w e plR MR ∧ aOf e MR = tlA e M j m ∧ (∀ x ∈ plR, ∀ k, x.bytes.blk k → O k) ∧ (∀ x ∈ plR, ∀ k, x.bytes.blk k → a0.blk k → top x.bytes ≤ top a0) ∧ Upd psA.blk w5 W) ?_ ?_
  · refine rdTree tx5 (at_call ht5 hf (by omega) fun w6 e6 => ?_)
    refine (St.start w6).newO fun b41 w7 S7 e7 => S7.aggSt 0 rfl rfl rfl rfl fun w8 S8 u8 => ?_
    cases hx : tr.items[j]? with
    | none =>
      have hM : M[j]? = none := List.getElem?_eq_none (by have := List.getElem?_eq_none_iff.1 hx; omega)
      have e0 : atI tr.items j = (Pc.zero, false) := by unfold atI; rw [hx]
      rw [e0, tlA_none hM]
      refine sif_false ⟨[], [], ?_, trivial, rfl, (fun x hx => by cases hx), (fun x hx => by cases hx), Upd.of_ext (e6.trans S8.upd)⟩
      rw [List.append_nil]
      exact rowA.ext (e6.trans S8.upd)
    | some x =>
      have e0 : atI tr.items j = (x, true) := by unfold atI; rw [hx]
      rw [e0] at S8 ⊢
      obtain ⟨y, hy, hp, hyl⟩ := pcs hx
      have hn := spn hto hs2 hy
      rw [tlA_some hy]
      refine sif_true ?_
      have hlo := hp.lo; have hhi := hp.hi
      have tx6 := e6.ext_get tx5
      have hE : ∀ {V : World}, Ext w6 V → V.cell? (at0 p) = some (.int .i64 e.num) := fun x => cell_of (x.ext_get tx6) rfl
      have byB : By w6 x.bytes y.2 := ((o5 x.bytes y.2 hp.by_ (tops x (List.mem_of_getElem? hx))).1).ext e6
      have S := S8
      refine join_r (fun s W => ∃ b, s.1 = at0 b ∧ W.heap[b]? = some (.cells (Cells.vals c112 (pcT (restPc e x y.2 m))).toArray 112 (0, 0)) ∧ Ext w6 W) ?_ ?_
      · refine S.drew fun w9 S e9 _ => S.lds 0 (pcT x) rfl ?_
        simp only [nn_eqT]
        refine ld_r (S.upd.ext_get tx6) (x := e.num) rfl ?_
        exact ⟨S.newO fun b18 wx S ex => keep_r (hE S.upd) (S.keeps 1 rfl (⟨S.newO fun b19 wx S ex => keep_r (hE S.upd) (S.keeps 2 rfl (pcut_call (byB.ext S.upd) (by omega) (by rw [hp.tag]; omega) (by omega) fun wx ex => (fun S => S.aggSt 1 rfl rfl rfl rfl fun wx S ux => S.aggSt 0 rfl rfl rfl rfl fun wx S ux => ⟨b19, rfl, S.at_ 0 rfl, S.upd⟩) (S.ext ex))), pcut_call (byB.ext S.upd) (by omega) (by rw [hp.tag]; omega) (by omega) fun wx ex => (fun S => ⟨S.newO fun b22 wx S ex => keep_r (hE S.upd) (S.keeps 2 rfl (S.aggSt 1 rfl rfl rfl rfl fun wx S ux => S.aggSt 0 rfl rfl rfl rfl fun wx S ux => ⟨b22, rfl, S.at_ 0 rfl, S.upd⟩)), trivial⟩) (S.ext ex)⟩)), ⟨S.newO fun b23 wx S ex => keep_r (hE S.upd) (S.keeps 1 rfl (⟨S.newO fun b24 wx S ex => keep_r (hE S.upd) (S.keeps 2 rfl (pcut_call (byB.ext S.upd) (by omega) (by rw [hp.tag]; omega) (by omega) fun wx ex => (fun S => S.aggSt 0 rfl rfl rfl rfl fun wx S ux => S.aggSt 1 rfl rfl rfl rfl fun wx S ux => ⟨b23, rfl, S.at_ 1 rfl, S.upd⟩) (S.ext ex))), pcut_call (byB.ext S.upd) (by omega) (by rw [hp.tag]; omega) (by omega) fun wx ex => (fun S => ⟨S.newO fun b27 wx S ex => keep_r (hE S.upd) (S.keeps 2 rfl (S.aggSt 0 rfl rfl rfl rfl fun wx S ux => S.aggSt 1 rfl rfl rfl rfl fun wx S ux => ⟨b23, rfl, S.at_ 1 rfl, S.upd⟩)), trivial⟩) (S.ext ex)⟩)), pcut_call (byB.ext S.upd) (by omega) (by rw [hp.tag]; omega) (by omega) fun wx ex => (fun S => ⟨S.newO fun b29 wx S ex => keep_r (hE S.upd) (S.keeps 1 rfl (⟨S.newO fun b30 wx S ex => keep_r (hE S.upd) (S.keeps 2 rfl (S.aggSt 1 rfl rfl rfl rfl fun wx S ux => S.aggSt 0 rfl rfl rfl rfl fun wx S ux => ⟨b30, rfl, S.at_ 0 rfl, S.upd⟩)), trivial⟩)), ⟨S.newO fun b31 wx S ex => keep_r (hE S.upd) (S.keeps 1 rfl (⟨S.newO fun b32 wx S ex => keep_r (hE S.upd) (S.keeps 2 rfl (S.aggSt 0 rfl rfl rfl rfl fun wx S ux => S.aggSt 1 rfl rfl rfl rfl fun wx S ux => ⟨b31, rfl, S.at_ 1 rfl, S.upd⟩)), trivial⟩)), trivial⟩⟩) (S.ext ex)⟩⟩
      · rintro ⟨_, _⟩ w9 ⟨b, rfl, hb, e9⟩
        dsimp only
        simp only [addr_add]
        have hat : (restPc e x y.2 m).sm.atoms = (ats e y.2).length - m := by
          show (msr (ats e (y.2.drop (cutAt e y.2 m)))).atoms = _
          rw [msr_atoms (ats_posd e _)]
          unfold cutAt
          rw [(ats_cut e m y.2).2, List.length_drop]
        refine ld_r hb (x := (((restPc e x y.2 m).sm.atoms : Nat) : Int)) rfl (sif_r (fun h0 => ?_) (fun h0 => ?_))
        · simp only [decide_eq_true_eq, gt_iff_lt] at h0
          refine lds_r hb (x := pcT (restPc e x y.2 m)) (fun j v hv => by rw [Nat.zero_add, List.getElem?_toArray]; exact hv) (newO_r fun b32 w10 e10 n10 _ _ => ?_)
          have hbox : SlX w10 ⟨some (at0 b32), 1, 1⟩ 7 (flat c112 [pcT (restPc e x y.2 m)]) := (SlIn.of_box n10 (n := 1) (sz := 7) rfl).x
          have x10 := (e6.trans e9).trans e10
          refine append_rx eParts eParts.ts_ (x := ⟨some (at0 b32), 1, 1⟩) (rowA.ext x10) hbox (Pc_one _) (by
            show (psA.len + 1 + (psA.len + 1) / 4 + 512) * 64 ≤ 2 ^ 48
            omega) (by have := x10.size; omega) fun ps' W4 o4' l4 u4' k4 => ?_
          have ef : flat c112 ((plL ++ plF).map pcT) ++ flat c112 [pcT (restPc e x y.2 m)] = flat c112 ((plL ++ plF ++ [restPc e x y.2 m]).map pcT) := by rw [List.map_append (l₁ := plL ++ plF), flat_append]; rfl
          rw [ef] at o4'
          refine ⟨[restPc e x y.2 m], [(restTag y.1 (cutAt e y.2 m), y.2.drop (cutAt e y.2 m))], o4', ⟨rest_in hp (by omega), trivial⟩, ?_, ?_, ?_, (Upd.of_ext x10).trans u4'⟩
          · show ats e (y.2.drop (cutAt e y.2 m)) ++ [] = _
            rw [List.append_nil]; unfold cutAt
            rw [(ats_cut e m y.2).2]
          · intro z hz k hk
            rw [List.mem_singleton.1 hz] at hk
            exact pO x (List.mem_of_getElem? hx) k (cut_blk hk)
          · intro z hz k hk hk'
            rw [List.mem_singleton.1 hz] at hk ⊢
            have hcl := cutAt_le e y.2 m
            have hlen := hp.by_.len
            exact Nat.le_trans (cut_top hp.by_ (l := (cutAt e y.2 m : Int)) (h := (x.bytes.len : Int)) (by omega) (by omega) (by omega)) (tops x (List.mem_of_getElem? hx) k (cut_blk hk) hk')
        · simp only [decide_eq_false_iff_not, gt_iff_lt] at h0
          refine ⟨[], [], ?_, trivial, ?_, (fun x hx => by cases hx), (fun x hx => by cases hx), Upd.of_ext (e6.trans e9)⟩
          · rw [List.append_nil]; exact rowA.ext (e6.trans e9)
          · show [] = (ats e y.2).drop m
            rw [List.drop_eq_nil_of_le (by omega)]
  rintro ⟨psR, _⟩ w6 ⟨plR, MR, rowR, itsR, hMR, oR, topR, u6⟩
  dsimp only at rowR ⊢
  rw [← hMR] at tk2
  have nt6 : ∀ t, t ≠ 112 → NoTy w5 psA.blk t := fun t ht => NoTy.blk rowA.in (fun h => ht h.symm)
  have tx6 : w6.heap[p]? = some (txO e lim tr.ptr a) := u6.get tx5 fun hk => nt6 107 (by decide) _ hk _ _ tx5
  have own6 := own5.ty u6 (nt6 _ (by decide))
  have itsF6 := itsF5.ty u6 (nt6 _ (by decide))
  have ht6 : tr.In w6 := ht5.ty u6 (nt6 _ (by decide))
  have o6 := o5.ty u6 (nt6 _ (by decide))
  refine drew_r fun w7 e7 _ => rdTree (e7.ext_get tx6) (rdTree (e7.ext_get tx6) (tsize_call (ht6.ext e7) fun w8 e8 => ?_))
  have x8 := e7.trans e8
  have tx8 := x8.ext_get tx6
  refine keep_r ?_ ?_
  · rw [addr_add]
    refine cellsAt_of _ 0 fun q v hv => cell_of tx8 ?_
    match q, hv with
    | 0, hv => exact hv
    | q + 1, hv => cases hv
  have emin : (if ((tr.items.length : Nat) : Int) < IntKind.wrap .i64 ((j : Int) + 1) then ((tr.items.length : Nat) : Int) else IntKind.wrap .i64 ((j : Int) + 1)) = ((min (j + 1) tr.items.length : Nat) : Int) := by
    rw [wrap64 (by omega) (by omega)]
    split <;> omega
  rw [emin]
  have old_its : ∀ {l : List Pc} {N : Parts}, Its w e l N → (∀ x ∈ l, ∀ k, x.bytes.blk k → a0.blk k → top x.bytes ≤ top a0) → Its w6 e l N := fun hl htp => hl.to fun x hx b hb => (o6 x.bytes b hb (htp x hx)).1
  have its_all : Its w6 e (tr.items.take i ++ (plL ++ plF ++ plR) ++ tr.items.drop (min (j + 1) tr.items.length)) (M.take i ++ (ML ++ MF ++ MR) ++ M.drop (min (j + 1) tr.items.length)) :=
    Its.app (Its.app (old_its (hi.take i) fun x hx => tops x (List.mem_of_mem_take hx)) (Its.app (Its.app (old_its itsL topL) itsF6) (old_its itsR topR))) (old_its (hi.drop _) fun x hx => tops x (List.mem_of_mem_drop hx))
  have ed : M.drop (min (j + 1) tr.items.length) = M.drop (j + 1) := by
    by_cases hc : j + 1 ≤ tr.items.length
    · rw [Nat.min_eq_left hc]
    · rw [List.drop_eq_nil_of_le (by omega), List.drop_eq_nil_of_le (by omega)]
  have ea : aOf e (M.take i ++ (ML ++ MF ++ MR) ++ M.drop (min (j + 1) tr.items.length)) = (aOf e M).take from_ ++ prs e put ++ (aOf e M).drop to_ := by
    rw [ed, aOf_app, aOf_app, aOf_app, aOf_app, tk1, tk2, hMF]
    simp only [List.append_assoc]
  have hsA : szs (aOf e (M.take i ++ (ML ++ MF ++ MR) ++ M.drop (min (j + 1) tr.items.length))) < 2 ^ 59 := by rw [ea]; omega
  have hFine := its_all.fine hsA
  have hjl : min (j + 1) tr.items.length ≤ tr.items.length := Nat.min_le_right _ _
  have hi_le : i ≤ min (j + 1) tr.items.length := by
    rcases hs1 with ⟨_, rfl, _⟩ | ⟨x, hx, _⟩
    · exact Nat.zero_le _
    · have := (List.getElem?_eq_some_iff.1 hx).1; omega
  refine replace_call (t := tr) (n := i) (m := min (j + 1) tr.items.length) (l := plL ++ plF ++ plR) (ht6.ext x8) (rowR.in.ext x8) hf hFine.left.right hi_le hjl hFine fun t' w9 ht' hti e9 => ?_
  have x9 := x8.trans e9
  have tx9 := x9.ext_get tx6
  simp only [nn_eqT, addr_add]
  refine aggSt_r tx9 rfl rfl (by show 0 + 2 + 1 ≤ 4; decide) fun w10 u10 n10 _ => ?_
  have n10 : w10.heap[p]? = some (txO e lim t'.ptr a) := n10
  have nt10 : ∀ t, t ≠ 107 → NoTy w9 (fun k => k = p) t := fun t ht => NoTy.box tx9 (fun h => ht h.symm)
  have ht10 : t'.In w10 := ht'.ty u10 (nt10 _ (by decide))
  have o10 : Old w w10 a0 a := (o6.ty x9 (no_ext _ _)).ty u10 (nt10 _ (by decide))
  have uA : Upd O w w10 := by
    have hp' := h.op
    have v3 : Upd O w w3 := Upd.of_ext x3
    have v4 : Upd O w w4 := v3.trans (u4.mono fun k _ hk => hk.elim (fun h => h ▸ hp') fun h => aO k h)
    have v5 : Upd O w w5 := v4.new u5 fun k hk hS => by have := rowL4.blk_ge hS; have := x2.size; omega
    have v6 : Upd O w w6 := v5.new u6 fun k hk hS => by have := rowA.blk_ge hS; have := x2.size; omega
    exact (v6.trans (Upd.of_ext x9)).trans (u10.mono fun k _ hk => hk ▸ hp')
  have hsz10 := uA.size
  have own10 := (own6.ext x9).ty u10 (nt10 _ (by decide))
  have hlA : (ab ++ bts e put).length = a.len := by have := own10.len1; rwa [List.length_map] at this
  rw [List.length_append] at hlA
  refine hK (fun k => O k ∨ (w.heap.size ≤ k ∧ k < w10.heap.size)) (M.take i ++ (ML ++ MF ++ MR) ++ M.drop (min (j + 1) tr.items.length)) w10 ⟨⟨t', a, ab ++ bts e put, n10, ht10, ?_, own10, ?_, ?_, ?_, by omega⟩, lims, by rw [ea]; exact hroom, .inl h.op, ?_⟩ ea uA (fun k hk => .inl hk) (fun k hk => hk.imp id fun h => h.1)
  · rw [hti]
    exact (its_all.ext x9).ty u10 (nt10 _ (by decide))
  · rw [hti]
    have oldT : ∀ x : Pc, (∃ b, By w x.bytes b) → (∀ k, x.bytes.blk k → a0.blk k → top x.bytes ≤ top a0) → ∀ k, x.bytes.blk k → a.blk k → top x.bytes ≤ top a := fun x ⟨b, hb⟩ htp => (o10 x.bytes b hb htp).2
    intro x hx
    rcases List.mem_append.1 hx with hx | hx
    · rcases List.mem_append.1 hx with hx | hx
      · exact oldT x (hi.by_ x (List.mem_of_mem_take hx)) (tops x (List.mem_of_mem_take hx))
      · rcases List.mem_append.1 hx with hx | hx
        · rcases List.mem_append.1 hx with hx | hx
          · exact oldT x (itsL.by_ x hx) (topL x hx)
          · exact topF x hx
        · exact oldT x (itsR.by_ x hx) (topR x hx)
    · exact oldT x (hi.by_ x (List.mem_of_mem_drop hx)) (tops x (List.mem_of_mem_drop hx))
  · rw [hti]
    intro x hx k hk
    have new : w3.heap.size ≤ k → (∃ b, By w10 x.bytes b) → O k ∨ (w.heap.size ≤ k ∧ k < w10.heap.size) := fun h1 ⟨b, hb⟩ => .inr ⟨by have := x3.size; omega, hb.blk_lt hk⟩
    rcases List.mem_append.1 hx with hx | hx
    · rcases List.mem_append.1 hx with hx | hx
      · exact .inl (pO x (List.mem_of_mem_take hx) k hk)
      · rcases List.mem_append.1 hx with hx | hx
        · rcases List.mem_append.1 hx with hx | hx
          · exact .inl (oL x hx k hk)
          · rcases blkF x hx k hk with h1 | h1
            · exact .inl (aO k h1)
            · exact new h1 (((itsF6.ext x9).ty u10 (nt10 _ (by decide))).by_ x hx)
        · exact .inl (oR x hx k hk)
    · exact .inl (pO x (List.mem_of_mem_drop hx) k hk)
  · intro k hk
    rcases blkA k hk with h1 | h1
    · exact .inl (aO k h1)
    · exact .inr ⟨by have := x3.size; omega, own10.in.blk_lt hk⟩
  · intro k hk
    rcases hk with hk | hk
    · have := h.own k hk; omega
    · exact hk.2
end
end Go.Proofs.YtabcpghhfeplaaaGreat
set_option linter.unusedSimpArgs false
set_option linter.unusedVariables false
set_option maxRecDepth 100000
namespace Go.Proofs.YtabcpghhfeplaaaGreat
open Go Go.Vx Cdc Trx
section
variable {w w' W W' : World} {S : Nat → Prop} {p : Nat} {e : Enc} {lim na : Nat} {O : Nat → Prop} {M : Parts} {tp : Option Addr} {a0 a : Sl}
abbrev edT (f t : Nat) (s : Sl) : Cells.T c83 := ((f : Int), (t : Int), s, ())
theorem Txt.lim_ (h : Txt w p e lim na O M) : w.cell? ⟨p, 1, none⟩ = some (.int .i64 (lim : Int)) := by
  obtain ⟨t, a, ab, h1, _⟩ := h.ex
  exact cell_of h1 rfl
theorem szs_prs_take (e : Enc) (l : List Int) {i : Nat} {v : Int} (hv : l[i]? = some v) : szs (prs e (l.take (i + 1))) = szs (prs e (l.take i)) + sz e v := by
  rw [List.take_add_one, hv]
  simp [prs, szs_append, szs_cons, szs_nil]
theorem szs_prs_le (e : Enc) (l : List Int) (i : Nat) : szs (prs e (l.take i)) ≤ szs (prs e l) := by
  have : prs e l = prs e (l.take i) ++ prs e (l.drop i) := by unfold prs; rw [← List.map_append, List.take_append_drop]
  rw [this, szs_append]; omega
theorem refuse_call {f t : Nat} {s sp : Sl} {ty ty' : TypeId} {put : List Int} (h : Txt w p e lim na O M) (hft : f ≤ t) (hto : t ≤ (aOf e M).length) (hs : SlIn w s ty 3 (flat c83 [edT f t sp])) (hp : SlIn w sp ty' 1 (iv put)) (hfit : Fit e put) (hput : put.length < 2 ^ 40) (hb : (bts e put).length < 2 ^ 40)
    (hroom : szs ((aOf e M).take f ++ prs e put ++ (aOf e M).drop t) ≤ lim) {K : Int → World → Prop} (hK : ∀ w', Ext w w' → K 0 w') :
    callT Tryz.prog 77 #[.pointer (some (at0 p)), .slice s.a s.len s.cap] (.one (.one (.int .i64))) K w := by
  refine F77_calls ?_
  unfold F77
  have few := h.few; have lims := h.lims; have hsz := h.sz
  have hl1 : 1 = s.len := by have := SlIn.lenR (cs := c83) (xs := [edT f t sp]) hs (by decide); simpa using this
  have hpl : put.length = sp.len := by have := hp.len1; rwa [List.length_map] at this
  have ht13 : szs (aOf e M) = szs ((aOf e M).take t) + szs ((aOf e M).drop t) := by conv => lhs; rw [← List.take_append_drop t (aOf e M)]; rw [szs_append]
  have htf : szs ((aOf e M).take f) ≤ szs ((aOf e M).take t) := by
    have h2 : (aOf e M).take t = (aOf e M).take f ++ ((aOf e M).take t).drop f := by
      conv => lhs; rw [← List.take_append_drop f ((aOf e M).take t)]
      rw [List.take_take, Nat.min_eq_left hft]
    rw [h2, szs_append]; omega
  rw [szs_append, szs_append] at hroom
  have hbl := bts_len hfit
  refine sif_r (fun hc => ?_) (fun _ => ?_)
  · simp only [decide_eq_true_eq, gt_iff_lt] at hc; omega
  have rdE : ∀ {V : World} {K : Addr → Cells.T c83 → World → Prop}, Ext w V → (∀ q, K q (edT f t sp) V) → ix s.a s.len ((0 : Nat) : Int) (fun q => lds c83 (q.add (scaled (Int.toNat ((0 : Nat) : Int)) 3)) (K q)) V := fun x hk => ix_lds (cs := c83) (xs := [edT f t sp]) (hs.ext x) (by decide) (by decide) rfl hk
  have ew1 : IntKind.wrap .i64 (((0 : Nat) : Int) + 1) = ((1 : Nat) : Int) := by decide
  refine len_call h fun w1 e1 => ?_
  refine join_r (fun _ W => Ext w W) ?_ ?_
  · refine sloop_r (fun x W => ((x = (0, ((0 : Nat) : Int), ())) ∨ x.2.1 = ((1 : Nat) : Int)) ∧ Ext w W) (fun x _ => (1 - x.2.1).toNat) ⟨.inl rfl, e1⟩ ?_
    rintro x W ⟨rfl | hx, eW⟩
    · refine sif_r (fun _ => ?_) (fun hc => ?_)
      · refine rdE eW fun q => (St.start W).newO fun b8 w2 S2 e2 => S2.aggSt 0 rfl rfl rfl rfl fun w3 S3 u3 => ?_
        refine join_r (fun x W' => x = (false, ()) ∧ w3 = W') ?_ ?_
        · refine S3.ld 0 rfl (x := (f : Int)) rfl (sif_r (fun hc => ?_) (fun _ => S3.ld 0 rfl (x := (t : Int)) rfl (S3.ld 0 rfl (x := (f : Int)) rfl (sif_r (fun hc => ?_) (fun _ => S3.ld 0 rfl (x := (t : Int)) rfl ⟨tupb ?_, rfl⟩)))))
          · simp only [decide_eq_true_eq] at hc; omega
          · simp only [decide_eq_true_eq] at hc; omega
          · simp only [decide_eq_true_eq, gt_iff_lt, Bool.false_eq_true, iff_false]; omega
        rintro _ _ ⟨rfl, rfl⟩
        refine sif_false (S3.ld 0 rfl (x := (t : Int)) rfl ⟨⟨.inr ?_, eW.trans S3.upd⟩, ?_⟩)
        · exact ew1
        · show (1 - IntKind.wrap .i64 (((0 : Nat) : Int) + 1)).toNat < (1 - ((0 : Nat) : Int)).toNat
          rw [ew1]; decide
      · exact eW
    · refine sif_r (fun hc => ?_) (fun _ => eW)
      simp only [decide_eq_true_eq] at hc; omega
  rintro _ w2 e2
  refine sizeB_call (h.ext e2) fun w3 e3 => ?_
  have x3 := e2.trans e3
  obtain ⟨B0, hB0⟩ : ∃ B0, B0 = szs (aOf e M) := ⟨_, rfl⟩
  rw [← hB0]
  refine join_r (fun x W => x = (((B0 + (bts e put).length : Nat) : Int), ()) ∧ Ext w W) ?_ ?_
  · refine sloop_r (fun x W => ((x = ((B0 : Int), ((0 : Nat) : Int), ())) ∨ x = (((B0 + (bts e put).length : Nat) : Int), ((1 : Nat) : Int), ())) ∧ Ext w W) (fun x _ => (1 - x.2.1).toNat) ⟨.inl rfl, x3⟩ ?_
    rintro _ W ⟨rfl | rfl, eW⟩
    · refine sif_r (fun _ => ?_) (fun hc => ?_)
      · refine join_r (fun x W => x = (((B0 + (bts e put).length : Nat) : Int), ()) ∧ Ext w W) ?_ ?_
        · refine rdE eW fun q => (St.start W).newO fun b8 w4 S4 e4 => S4.aggSt 0 rfl rfl rfl rfl fun w5 S5 u5 => S5.ld 0 rfl (x := sp) rfl ?_
          refine sloop_r (fun x V => (∃ i : Nat, i ≤ put.length ∧ x = (((B0 + szs (prs e (put.take i)) : Nat) : Int), (i : Int), ())) ∧ Ext w V) (fun x _ => ((put.length : Int) - x.2.1).toNat) ⟨⟨0, Nat.zero_le _, by simp [prs, szs_nil]⟩, eW.trans S5.upd⟩ ?_
          rintro _ V ⟨⟨i, hi, rfl⟩, eV⟩
          refine sif_r (fun hc => ?_) (fun hc => ?_)
          · simp only [decide_eq_true_eq] at hc
            obtain ⟨v, hv⟩ : ∃ v, put[i]? = some v := ⟨_, List.getElem?_eq_getElem (by omega)⟩
            have hf := hfit v (List.mem_of_getElem? hv)
            dsimp only
            refine ix_ld (c := .int .i64) (xs := put) (hp.ext eV) (by omega) (x := v) (by rw [Int.toNat_natCast]; exact hv) fun q2 => (h.ext eV).enc (size_call fun w6 e6 => ?_)
            refine sif_r (fun hc => ?_) (fun _ => ?_)
            · simp only [beq_iff_eq] at hc; have := hf.2; omega
            have hstep := szs_prs_take e put hv
            have hle := szs_prs_le e put (i + 1)
            have ewi : IntKind.wrap .i64 ((i : Int) + 1) = ((i + 1 : Nat) : Int) := by rw [wrap64 (by omega) (by omega)]; omega
            have ewb : IntKind.wrap .i64 (((B0 + szs (prs e (put.take i)) : Nat) : Int) + ((sz e v : Nat) : Int)) = ((B0 + szs (prs e (put.take (i + 1))) : Nat) : Int) := by rw [wrap64 (by omega) (by omega)]; omega
            rw [ewi, ewb]
            exact ⟨⟨⟨i + 1, by omega, rfl⟩, eV.trans e6⟩, by omega⟩
          · simp only [decide_eq_false_iff_not] at hc
            have : i = put.length := by omega
            subst this
            rw [List.take_length, ← hbl]
            exact ⟨rfl, eV⟩
        rintro _ V ⟨rfl, eV⟩
        refine ⟨⟨.inr ?_, eV⟩, ?_⟩
        · rw [ew1]
        · show (1 - IntKind.wrap .i64 (((0 : Nat) : Int) + 1)).toNat < (1 - ((0 : Nat) : Int)).toNat
          rw [ew1]; decide
      · simp only [decide_eq_false_iff_not] at hc; omega
    · refine sif_r (fun hc => ?_) (fun _ => ⟨rfl, eW⟩)
      simp only [decide_eq_true_eq] at hc; omega
  rintro _ w4 ⟨rfl, e4⟩
  obtain ⟨T, hT⟩ : ∃ T, T = szs ((aOf e M).take f) + (bts e put).length + szs ((aOf e M).drop t) := ⟨_, rfl⟩
  refine join_r (fun x W => x = ((T : Int), ()) ∧ Ext w W) ?_ ?_
  · refine sloop_r (fun x W => ((x = (((B0 + (bts e put).length : Nat) : Int), ((0 : Nat) : Int), ())) ∨ x = ((T : Int), ((1 : Nat) : Int), ())) ∧ Ext w W) (fun x _ => (1 - x.2.1).toNat) ⟨.inl rfl, e4⟩ ?_
    rintro _ W ⟨rfl | rfl, eW⟩
    · refine sif_r (fun _ => ?_) (fun hc => ?_)
      · refine join_r (fun x W => x = ((T : Int), ()) ∧ Ext w W) ?_ ?_
        · refine rdE eW fun q => (St.start W).newO fun b8 w5 S5 e5 => S5.aggSt 0 rfl rfl rfl rfl fun w6 S6 u6 => S6.ld 0 rfl (x := (t : Int)) rfl (S6.ld 0 rfl (x := (f : Int)) rfl ?_)
          refine sif_r (fun hc => ?_) (fun hc => ?_)
          · refine S6.drew fun w7 S7 e7 _ => S7.ld 0 rfl (x := (t : Int)) rfl (S7.ld 0 rfl (x := (f : Int)) rfl ?_)
            refine ahead_call (h.ext (eW.trans S7.upd)) hto fun w8 e8 => ?_
            have S8 := S7.ext e8
            refine S8.keep 0 rfl (v := .int .i64 (f : Int)) rfl (ahead_call (h.ext (eW.trans S8.upd)) (by omega) fun w9 e9 => ?_)
            have q1 : (smT (msr ((aOf e M).take t))).2.1 = ((szs ((aOf e M).take t) : Nat) : Int) := by show (((msr _).bytes : Nat) : Int) = _; rw [msr_bytes ((aOf_posd e M).take t)]
            have q2 : (smT (msr ((aOf e M).take f))).2.1 = ((szs ((aOf e M).take f) : Nat) : Int) := by show (((msr _).bytes : Nat) : Int) = _; rw [msr_bytes ((aOf_posd e M).take f)]
            rw [q1, q2]
            refine ⟨?_, eW.trans (S8.ext e9).upd⟩
            dsimp only
            rw [wrap64 (a := ((szs ((aOf e M).take t) : Nat) : Int) - ((szs ((aOf e M).take f) : Nat) : Int)) (by omega) (by omega), wrap64 (by omega) (by omega)]
            congr 1; omega
          · simp only [decide_eq_false_iff_not, gt_iff_lt] at hc
            have : f = t := by omega
            subst this
            refine ⟨?_, eW.trans S6.upd⟩
            dsimp only
            congr 1; omega
        rintro _ V ⟨rfl, eV⟩
        refine ⟨⟨.inr ?_, eV⟩, ?_⟩
        · rw [ew1]
        · show (1 - IntKind.wrap .i64 (((0 : Nat) : Int) + 1)).toNat < (1 - ((0 : Nat) : Int)).toNat
          rw [ew1]; decide
      · simp only [decide_eq_false_iff_not] at hc; omega
    · refine sif_r (fun hc => ?_) (fun _ => ⟨rfl, eW⟩)
      simp only [decide_eq_true_eq] at hc; omega
  rintro _ w5 ⟨rfl, e5⟩
  simp only [nn_eqT, addr_add]
  refine ld_of (x := (lim : Int)) (h.ext e5).lim_ (sif_r (fun hc => ?_) (fun _ => hK w5 e5))
  simp only [decide_eq_true_eq, gt_iff_lt] at hc; omega
theorem change_call {f t : Nat} {s sp : Sl} {ty ty' : TypeId} {put : List Int} (h : Txt w p e lim na O M) (hft : f ≤ t) (hto : t ≤ (aOf e M).length) (hs : SlIn w s ty 3 (flat c83 [edT f t sp])) (hsep : ∀ k, s.blk k → ¬ O k) (hp : SlIn w sp ty' 1 (iv put)) (hsp : ∀ k, sp.blk k → ¬ O k) (hfit : Fit e put) (hput : put.length < 2 ^ 40) (hna : na + (bts e put).length < 2 ^ 40)
    (hroom : szs ((aOf e M).take f ++ prs e put ++ (aOf e M).drop t) ≤ lim) {K : Int → World → Prop}
    (hK : ∀ O' M' w', Txt w' p e lim (na + (bts e put).length) O' M' → aOf e M' = (aOf e M).take f ++ prs e put ++ (aOf e M).drop t → Upd O w w' → (∀ k, O k → O' k) → (∀ k, O' k → O k ∨ w.heap.size ≤ k) → K 0 w') :
    callT Tryz.prog 50 #[.pointer (some (at0 p)), .slice s.a s.len s.cap] (.one (.one (.int .i64))) K w := by
  refine F50_calls ?_
  unfold F50
  have hl1 : 1 = s.len := by have := SlIn.lenR (cs := c83) (xs := [edT f t sp]) hs (by decide); simpa using this
  have hpl : put.length = sp.len := by have := hp.len1; rwa [List.length_map] at this
  refine refuse_call h hft hto hs hp hfit hput (by omega) hroom fun w1 e1 => sif_false ?_
  have ew0 : IntKind.wrap .i64 (((s.len : Nat) : Int) - 1) = 0 := by rw [← hl1]; decide
  rw [ew0]
  refine join_r (fun _ W => ∃ O' M', Txt W p e lim (na + (bts e put).length) O' M' ∧ aOf e M' = (aOf e M).take f ++ prs e put ++ (aOf e M).drop t ∧ Upd O w W ∧ (∀ k, O k → O' k) ∧ (∀ k, O' k → O k ∨ w.heap.size ≤ k)) ?_ (fun _ W ⟨O', M', g1, g2, g3, g4, g5⟩ => hK O' M' W g1 g2 g3 g4 g5)
  refine sloop_r (fun x W => (x = (((0 : Nat) : Int), ()) ∧ Ext w W) ∨ (x = (-1, ()) ∧ ∃ O' M', Txt W p e lim (na + (bts e put).length) O' M' ∧ aOf e M' = (aOf e M).take f ++ prs e put ++ (aOf e M).drop t ∧ Upd O w W ∧ (∀ k, O k → O' k) ∧ (∀ k, O' k → O k ∨ w.heap.size ≤ k))) (fun x _ => (x.1 + 1).toNat) (.inl ⟨rfl, e1⟩) ?_
  rintro _ W (⟨rfl, eW⟩ | ⟨rfl, hR⟩)
  · refine sif_r (fun _ => ?_) (fun hc => ?_)
    · refine join_r (fun _ W => ∃ O' M', Txt W p e lim (na + (bts e put).length) O' M' ∧ aOf e M' = (aOf e M).take f ++ prs e put ++ (aOf e M).drop t ∧ Upd O w W ∧ (∀ k, O k → O' k) ∧ (∀ k, O' k → O k ∨ w.heap.size ≤ k)) ?_ ?_
      · refine ix_lds (cs := c83) (xs := [edT f t sp]) (hs.ext eW) (by decide) (by decide) (x := edT f t sp) rfl fun q => (St.start W).newO fun b8 w2 S2 e2 => S2.aggSt 0 rfl rfl rfl rfl fun w3 S3 u3 => ?_
        refine join_r (fun x W' => x = (decide (f < t ∨ 0 < put.length), ()) ∧ w3 = W') ?_ ?_
        · refine S3.ld 0 rfl (x := (f : Int)) rfl (S3.ld 0 rfl (x := (t : Int)) rfl (sif_r (fun hc => ⟨tupb ?_, rfl⟩) (fun hc => S3.ld 0 rfl (x := sp) rfl ⟨tupb ?_, rfl⟩)))
          all_goals simp only [decide_eq_true_eq, decide_eq_false_iff_not, true_iff, gt_iff_lt] at *
          all_goals omega
        rintro _ _ ⟨rfl, rfl⟩
        have x3 := eW.trans S3.upd
        refine sif_r (fun hc => ?_) (fun hc => ?_)
        · refine S3.ld 0 rfl (x := (f : Int)) rfl (S3.ld 0 rfl (x := (t : Int)) rfl (S3.ld 0 rfl (x := sp) rfl ?_))
          refine treplace_call (h.ext x3) hft hto (hp.ext x3) hsp hfit hna hput hroom fun O' M' w4 tx4 ea u4 o1 o2 => ?_
          exact ⟨O', M', tx4, ea, (Upd.of_ext x3).trans u4, o1, fun k hk => (o2 k hk).imp id fun h => by have := x3.size; omega⟩
        · simp only [decide_eq_false_iff_not, not_or] at hc
          obtain rfl : f = t := by omega
          obtain rfl : put = [] := List.length_eq_zero_iff.1 (by omega)
          exact ⟨O, M, h.ext x3, by simp [prs], Upd.of_ext x3, fun k hk => hk, fun k hk => .inl hk⟩
      · rintro _ W' hR
        exact ⟨.inr ⟨rfl, hR⟩, by show (IntKind.wrap .i64 (((0 : Nat) : Int) - 1) + 1).toNat < (((0 : Nat) : Int) + 1).toNat; decide⟩
    · simp only [decide_eq_false_iff_not] at hc; omega
  · exact sif_false hR
end
end Go.Proofs.YtabcpghhfeplaaaGreat
set_option linter.unusedSimpArgs false
set_option linter.unusedVariables false
set_option maxRecDepth 100000
namespace Go.Proofs.YtabcpghhfeplaaaGreat
open Go Go.Vx Cdc Trx Gly Clu Lns Obx
section
variable {w w' : World} {S : Nat → Prop} {p : Nat} {e : Enc} {lim na : Nat} {O : Nat → Prop} {M : Parts}
def Asc (l : List Int) : Prop := ∀ v ∈ l, 0 ≤ v ∧ v < 128
theorem Asc.app {l m : List Int} (h : Asc l) (h' : Asc m) : Asc (l ++ m) := fun v hv => (List.mem_append.1 hv).elim (h v) (h' v)
theorem Asc.fit {l : List Int} (h : Asc l) (e : Enc) : Fit e l := by
  intro v hv
  obtain ⟨h1, h2⟩ := h v hv
  refine ⟨.inl ⟨h1, by omega⟩, ?_⟩
  cases e with
  | u8 => show sz8 v ≠ 0; unfold sz8; split <;> (try split) <;> (try split) <;> (try split) <;> (try split) <;> omega
  | le => show sz16 v ≠ 0; unfold sz16; split <;> (try split) <;> (try split) <;> (try split) <;> (try split) <;> omega
  | be => show sz16 v ≠ 0; unfold sz16; split <;> (try split) <;> (try split) <;> (try split) <;> (try split) <;> omega
  | l1 => show sz1 v ≠ 0; unfold sz1; split <;> (try split) <;> (try split) <;> (try split) <;> (try split) <;> omega
theorem Asc.sz {v : Int} (h : 0 ≤ v ∧ v < 128) (e : Enc) : sz e v ≤ 4 := by
  cases e with
  | u8 => show sz8 v ≤ 4; unfold sz8; split <;> (try split) <;> (try split) <;> (try split) <;> (try split) <;> omega
  | le => show sz16 v ≤ 4; unfold sz16; split <;> (try split) <;> (try split) <;> (try split) <;> (try split) <;> omega
  | be => show sz16 v ≤ 4; unfold sz16; split <;> (try split) <;> (try split) <;> (try split) <;> (try split) <;> omega
  | l1 => show sz1 v ≤ 4; unfold sz1; split <;> (try split) <;> (try split) <;> (try split) <;> (try split) <;> omega
theorem Asc.szs {e : Enc} : ∀ {l : List Int}, Asc l → szs (prs e l) ≤ 4 * l.length
  | [], _ => Nat.le_refl _
  | a :: l, h => by
    have h1 := Asc.sz (h a List.mem_cons_self) e
    have h2 := Asc.szs (e := e) (l := l) fun x hx => h x (List.mem_cons_of_mem _ hx)
    show Cdc.szs ((a, Cdc.sz e a) :: prs e l) ≤ _
    rw [szs_cons, List.length_cons]
    show Cdc.sz e a + _ ≤ _
    omega
theorem push {r : Sl} {l : List Int} {v : Int} {b N : Nat} {K : Sl → World → Prop} (hr : SlOwn w N r 3 1 (iv l)) (hb : w.heap[b]? = some (.cells #[.int .i64 v] 3 (0, 0))) (hl : l.length < 2 ^ 40) (hN : N ≤ w.heap.size)
    (hK : ∀ r' w', SlOwn w' N r' 3 1 (iv (l ++ [v])) → Upd r.blk w w' → K r' w') :
    rawT Tryz.prog (.one (.one .sl)) (Builtin.append_ #[26, 26] 26 #[.slice r.a r.len r.cap, .slice (some (at0 b)) 1 1]) K w := by
  have hrl := hr.len1
  rw [List.length_map] at hrl
  refine append_rx eInts eInts.ts_ (x := ⟨some (at0 b), 1, 1⟩) hr (iv_box hb) (fun v hv => by rw [List.mem_singleton.1 hv]; rfl) (by
    show (r.len + 1 + (r.len + 1) / 4 + 512) * 8 ≤ 2 ^ 48
    omega) hN fun r' w' o l' u k => hK r' w' ?_ u
  have : iv (l ++ [v]) = iv l ++ [.int .i64 v] := by simp
  rw [this]; exact o
theorem many_call {n : Nat} {v : Int} (hn : n < 2 ^ 40) {K : Sl → World → Prop} (hK : ∀ s' w', SlOwn w' w.heap.size s' 3 1 (iv (List.replicate n v)) → Ext w w' → K s' w') :
    callT Tryz.prog 28 #[.int .i64 (n : Int), .int .i64 v] (.one (.one .sl)) K w := by
  refine F28_calls ?_
  unfold F28
  refine join_r (fun x W => SlOwn W w.heap.size x.1 3 1 (iv (List.replicate n v)) ∧ Ext w W) ?_ (fun x W h => hK _ _ h.1 h.2)
  refine sloop_r (fun x W => ∃ i : Nat, i ≤ n ∧ x.2 = ((i : Int), ()) ∧ SlOwn W w.heap.size x.1 3 1 (iv (List.replicate i v)) ∧ Ext w W) (fun x _ => ((n : Int) - x.2.1).toNat) ⟨0, Nat.zero_le _, rfl, SlOwn.nil _ _ _ _, Ext.refl w⟩ ?_
  rintro ⟨r, _⟩ W ⟨i, hi, rfl, hr, eW⟩
  dsimp only at hr ⊢
  refine sif_r (fun hc => ?_) (fun hc => ?_)
  · simp only [decide_eq_true_eq] at hc
    have ew : IntKind.wrap .i64 ((i : Int) + 1) = ((i + 1 : Nat) : Int) := by rw [wrap64 (by omega) (by omega)]; omega
    rw [ew]
    refine newO_r fun b7 w4 e4 n4 hb4 _ => push (hr.ext e4) n4 (by rw [List.length_replicate]; omega) (by have := eW.size; have := e4.size; omega) fun r' w5 o5 u5 => ?_
    rw [← List.replicate_succ'] at o5
    exact ⟨⟨i + 1, by omega, rfl, o5, (eW.trans e4).step u5 fun k hk => hr.blk_ge hk⟩, by omega⟩
  · simp only [decide_eq_false_iff_not] at hc
    have : i = n := by omega
    subst this
    exact ⟨hr, eW⟩
theorem joined_call {A B : List Int} {s s' : Sl} {t t' : TypeId} (hs : SlIn w s t 1 (iv A)) (hs' : SlIn w s' t' 1 (iv B)) (hA : A.length < 2 ^ 39) (hB : B.length < 2 ^ 39) {K : Sl → World → Prop} (hK : ∀ r w', SlOwn w' w.heap.size r 3 1 (iv (A ++ B)) → Ext w w' → K r w') :
    callT Tryz.prog 32 #[.slice s.a s.len s.cap, .slice s'.a s'.len s'.cap] (.one (.one .sl)) K w := by
  refine F32_calls ?_
  unfold F32
  have hlen : B.length = s'.len := by have := hs'.len1; rwa [List.length_map] at this
  refine copied_call hs (by omega) fun r1 w1 o1 e1 => ?_
  refine join_r (fun x W => SlOwn W w.heap.size x.1 3 1 (iv (A ++ B)) ∧ Ext w W) ?_ (fun x W h => hK _ _ h.1 h.2)
  refine sloop_r (fun x W => ∃ i : Nat, i ≤ B.length ∧ x.2 = ((i : Int), ()) ∧ SlOwn W w.heap.size x.1 3 1 (iv (A ++ B.take i)) ∧ Ext w W) (fun x _ => ((B.length : Int) - x.2.1).toNat) ⟨0, Nat.zero_le _, rfl, by rw [List.take_zero, List.append_nil]; exact o1, e1⟩ ?_
  rintro ⟨r, _⟩ W ⟨i, hi, rfl, hr, eW⟩
  dsimp only at hr ⊢
  refine sif_r (fun hc => ?_) (fun hc => ?_)
  · simp only [decide_eq_true_eq] at hc
    obtain ⟨a, ha⟩ : ∃ a, B[i]? = some a := ⟨_, List.getElem?_eq_getElem (by omega)⟩
    have ew : IntKind.wrap .i64 ((i : Int) + 1) = ((i + 1 : Nat) : Int) := by rw [wrap64 (by omega) (by omega)]; omega
    rw [ew]
    refine ix_ld (c := .int .i64) (xs := B) (hs'.ext eW) (by omega) (x := a) (by rw [Int.toNat_natCast]; exact ha) fun q => newO_r fun b7 w4 e4 n4 hb4 _ => ?_
    refine push (hr.ext e4) n4 (by rw [List.length_append, List.length_take]; omega) (by have := eW.size; have := e4.size; omega) fun r' w5 o5 u5 => ?_
    rw [List.append_assoc, show B.take i ++ [a] = B.take (i + 1) by rw [List.take_add_one, ha]; rfl] at o5
    exact ⟨⟨i + 1, by omega, rfl, o5, (eW.trans e4).step u5 fun k hk => hr.blk_ge hk⟩, by omega⟩
  · simp only [decide_eq_false_iff_not] at hc
    rw [List.take_of_length_le (by omega)] at hr
    exact ⟨hr, eW⟩
def plain1 (x : Int) : Int := if x = 10 ∨ x = 13 then x else 32 + ((BitVec.ofInt 64 x &&& BitVec.ofInt 64 95).toNat : Int)
def plainL (l : List Int) : List Int := (l.take 16).map plain1
theorem plain1_asc (x : Int) : 0 ≤ plain1 x ∧ plain1 x < 128 := by
  unfold plain1
  split
  · omega
  · have : (BitVec.ofInt 64 x &&& BitVec.ofInt 64 95).toNat ≤ 95 := by
      rw [BitVec.toNat_and]
      exact Nat.le_trans Nat.and_le_right (by decide)
    omega
theorem plainL_asc (l : List Int) : Asc (plainL l) := by
  intro v hv
  obtain ⟨x, _, rfl⟩ := List.mem_map.1 hv
  exact plain1_asc x
theorem plainL_len (l : List Int) : (plainL l).length ≤ 16 := by unfold plainL; rw [List.length_map, List.length_take]; omega
theorem plain_call {s : Sl} {l : List Int} (hs : SlX w s 1 (iv l)) (hl : l.length < 2 ^ 60) {K : Sl → World → Prop} (hK : ∀ r w', SlOwn w' w.heap.size r 3 1 (iv (plainL l)) → Ext w w' → K r w') :
    callT Tryz.prog 26 #[.slice s.a s.len s.cap] (.one (.one .sl)) K w := by
  refine F26_calls ?_
  unfold F26
  have hlen : l.length = s.len := by have := hs.len1; rwa [List.length_map] at this
  refine join_r (fun x W => SlOwn W w.heap.size x.1 3 1 (iv (plainL l)) ∧ Ext w W) ?_ (fun x W h => hK _ _ h.1 h.2)
  refine sloop_r (fun x W => ∃ i : Nat, i ≤ l.length ∧ i ≤ 16 ∧ x.2 = ((i : Int), ()) ∧ SlOwn W w.heap.size x.1 3 1 (iv ((l.take i).map plain1)) ∧ Ext w W) (fun x _ => ((16 : Int) - x.2.1).toNat) ⟨0, Nat.zero_le _, Nat.zero_le _, rfl, SlOwn.nil _ _ _ _, Ext.refl w⟩ ?_
  rintro ⟨r, _⟩ W ⟨i, hi, hi2, rfl, hr, eW⟩
  dsimp only at hr ⊢
  refine join_r (fun x W' => x = (decide (i < l.length ∧ i < 16), ()) ∧ W = W') ?_ ?_
  · refine sif_r (fun h => ⟨tupb ?_, rfl⟩) (fun h => ⟨tupb ?_, rfl⟩)
    all_goals simp only [decide_eq_true_eq, decide_eq_false_iff_not, Bool.false_eq_true, false_iff] at *
    all_goals omega
  rintro _ _ ⟨rfl, rfl⟩
  refine sif_r (fun hc => ?_) (fun hc => ?_)
  · simp only [decide_eq_true_eq] at hc
    obtain ⟨a, ha⟩ : ∃ a, l[i]? = some a := ⟨_, List.getElem?_eq_getElem hc.1⟩
    have ew : IntKind.wrap .i64 ((i : Int) + 1) = ((i + 1 : Nat) : Int) := by rw [wrap64 (by omega) (by omega)]; omega
    rw [ew]
    refine ix_ldX (c := .int .i64) (xs := l) (hs.ext eW) (by omega) (x := a) (by rw [Int.toNat_natCast]; exact ha) fun q => ?_
    refine join_r (fun x W' => x = (plain1 a, ()) ∧ W = W') ?_ ?_
    · refine join_r (fun x W' => x = (decide (¬ (a = 10 ∨ a = 13)), ()) ∧ W = W') ?_ ?_
      · refine sif_r (fun h => ⟨tupb ?_, rfl⟩) (fun h => ⟨tupb ?_, rfl⟩)
        · simp only [bne_iff_ne, ne_eq, decide_eq_true_eq] at *; omega
        · simp only [bne_eq_false_iff_eq, Bool.false_eq_true, decide_eq_true_eq, false_iff] at *; omega
      rintro _ _ ⟨rfl, rfl⟩
      have hr95 : (BitVec.ofInt 64 a &&& BitVec.ofInt 64 95).toNat ≤ 95 := by
        rw [BitVec.toNat_and]
        exact Nat.le_trans Nat.and_le_right (by decide)
      refine sif_r (fun h => ⟨?_, rfl⟩) (fun h => ⟨?_, rfl⟩)
      · simp only [decide_eq_true_eq] at h
        unfold plain1
        rw [if_neg h]
        show (IntKind.wrap .i64 (32 + IntKind.wrap .i64 ((BitVec.ofInt 64 a &&& BitVec.ofInt 64 95).toNat : Int)), ()) = _
        rw [wrap64 (a := ((BitVec.ofInt 64 a &&& BitVec.ofInt 64 95).toNat : Int)) (by omega) (by omega), wrap64 (by omega) (by omega)]
      · simp only [decide_eq_false_iff_not, Decidable.not_not] at h
        unfold plain1
        rw [if_pos h]
    rintro _ _ ⟨rfl, rfl⟩
    refine newO_r fun b7 w4 e4 n4 hb4 _ => push (hr.ext e4) n4 (by rw [List.length_map, List.length_take]; omega) (by have := eW.size; have := e4.size; omega) fun r' w5 o5 u5 => ?_
    have e5 : (l.take i).map plain1 ++ [plain1 a] = (l.take (i + 1)).map plain1 := by rw [List.take_add_one, ha]; simp
    rw [e5] at o5
    exact ⟨⟨i + 1, by omega, by omega, rfl, o5, (eW.trans e4).step u5 fun k hk => hr.blk_ge hk⟩, by omega⟩
  · simp only [decide_eq_false_iff_not] at hc
    have : l.take i = l.take 16 := by
      by_cases h : i = 16
      · rw [h]
      · rw [List.take_of_length_le (by omega), List.take_of_length_le (by omega)]
    rw [this] at hr
    exact ⟨hr, eW⟩
structure Btn (w : World) (N p : Nat) (e : Enc) (na : Nat) (O : Nat → Prop) (M : Parts) (s : Sl) : Prop where
  txt : Txt w p e 65536 na O M
  lst : SlOwn w N s 3 1 (iv (atoms (aOf e M)))
  new : ∀ k, O k → N ≤ k
theorem eEdit {f t : Nat} {b : Nat} {s : Sl} (h : w.heap[b]? = some (.cells #[.int .i64 (f : Int), .int .i64 (t : Int), .slice s.a s.len s.cap] 83 (0, 0))) : SlIn w ⟨some (at0 b), 1, 1⟩ 83 3 (flat c83 [edT f t s]) := SlIn.of_box h (n := 1) (sz := 3) rfl
set_option maxHeartbeats 1000000 in
theorem laid_call {enc : Int} {s : Sl} {t : TypeId} {ss : List Sl} {ps : List (List Int)} (hs : SlIn w s t 1 (ss.map Cell.sl.val)) (hl : ss.length = ps.length) (hp : ∀ (i : Nat) x l, ss[i]? = some x → ps[i]? = some l → ∃ t, SlIn w x t 1 (iv l)) (ha : ∀ l ∈ ps, Asc l) (hsz : ps.flatten.length ≤ 10000) (hfew : ss.length < 2 ^ 40)
    {K : (Option Addr × Sl × Unit) × Bool × Unit → World → Prop} (hK : ∀ p e O M na s' w', Btn w' w.heap.size p e na O M s' → atoms (aOf e M) = ps.flatten → Ext w w' → K ((some (at0 p), s', ()), true, ()) w') :
    callT Tryz.prog 27 #[.int .i64 enc, .slice s.a s.len s.cap] (.tup [(.agg c28), (.one .bool)]) K w := by
  refine F27_calls ?_
  unfold F27
  have hslen : ss.length = s.len := by have := hs.len1; rwa [List.length_map] at this
  refine (St.start w).newO' fun b1 w1 S1 e1 hb1 => ?_
  refine opened_call (enc := enc) (s := ⟨none, 0, 0⟩) (l := []) (SlIn.nil w1 5 1).x (by decide) fun p e O M sa w2 hB e2 hM _ => ?_
  have hM0 : aOf e M = [] := by rw [hM (by decide), ats_nil]
  have hown := hB.txt.own
  have hnew := hB.new
  have hb1' := S1.lt _ List.mem_cons_self
  refine (St.start w2).newO' fun b3 w3 S3 e3 hb3 => S3.aggSt 0 rfl rfl rfl rfl fun w4 S4 u4 => sif_false ?_
  have S4 : St (fun _ => False) w2 w4 [(b3, bothO p sa)] := S4
  have fl : ∀ i, (ps.take i).flatten.length ≤ ps.flatten.length := fun i => by
    have : ps.flatten = (ps.take i).flatten ++ (ps.drop i).flatten := by rw [← List.flatten_append, List.take_append_drop]
    rw [this, List.length_append]; omega
  refine join_r (fun x W => SlOwn W w2.heap.size x.1 3 1 (iv ps.flatten) ∧ St (fun _ => False) w2 W [(b3, bothO p sa)]) ?_ ?_
  · refine sloop_r (fun x W => ∃ i : Nat, i ≤ ss.length ∧ x.2 = ((i : Int), ()) ∧ SlOwn W w2.heap.size x.1 3 1 (iv (ps.take i).flatten) ∧ St (fun _ => False) w2 W [(b3, bothO p sa)]) (fun x _ => ((ss.length : Int) - x.2.1).toNat) ⟨0, Nat.zero_le _, rfl, SlOwn.nil _ _ _ _, S4⟩ ?_
    rintro ⟨r, _⟩ W ⟨i, hi, rfl, hr, SW⟩
    dsimp only at hr ⊢
    refine sif_r (fun hc => ?_) (fun hc => ?_)
    · simp only [decide_eq_true_eq] at hc
      obtain ⟨x, hx⟩ : ∃ x, ss[i]? = some x := ⟨_, List.getElem?_eq_getElem (by omega)⟩
      obtain ⟨l, hli⟩ : ∃ l, ps[i]? = some l := ⟨_, List.getElem?_eq_getElem (by omega)⟩
      obtain ⟨tx, hxl⟩ := hp i x l hx hli
      have ew : IntKind.wrap .i64 ((i : Int) + 1) = ((i + 1 : Nat) : Int) := by rw [wrap64 (by omega) (by omega)]; omega
      rw [ew]
      have xW : Ext w W := (e1.trans e2).trans SW.upd
      have h1 := fl i
      have e5 : (ps.take i).flatten ++ l = (ps.take (i + 1)).flatten := by rw [List.take_add_one, hli]; simp
      have h2 := fl (i + 1)
      rw [← e5, List.length_append] at h2
      refine ix_ld (c := .sl) (xs := ss) (hs.ext xW) (by omega) (x := x) (by rw [Int.toNat_natCast]; exact hx) fun q => ?_
      refine joined_call hr.in (hxl.ext xW) (by omega) (by omega) fun r' W5 o5 e5' => ?_
      rw [e5] at o5
      exact ⟨⟨i + 1, by omega, rfl, o5.mono SW.upd.size, SW.ext e5'⟩, by omega⟩
    · simp only [decide_eq_false_iff_not] at hc
      rw [List.take_of_length_le (by omega)] at hr
      exact ⟨hr, SW⟩
  rintro ⟨r, _⟩ w5 ⟨hr, S5⟩
  dsimp only at hr ⊢
  have hasc : Asc ps.flatten := fun v hv => by
    obtain ⟨l, hl, hvl⟩ := List.mem_flatten.1 hv
    exact ha l hl v hvl
  have hszs := Asc.szs (e := e) hasc
  have hfit := hasc.fit e
  have hbl := bts_len hfit
  refine S5.drew fun w6 S6 e6 _ => S6.ld 0 rfl (x := some (at0 p)) rfl ?_
  refine copied_call (hr.in.ext e6) (by omega) fun r2 w7 o7 e7 => ?_
  have S7 := S6.ext e7
  refine S7.keep 0 rfl (v := .pointer (some (at0 p))) rfl (newO_r fun b15 w8 e8 n8 hb15 _ => ?_)
  have S8 := S7.ext e8
  refine S8.keep 0 rfl (v := .pointer (some (at0 p))) rfl ?_
  have z7 := S6.upd.size
  have z8 := S7.upd.size
  refine change_call (f := 0) (t := 0) (s := ⟨some (at0 b15), 1, 1⟩) (sp := r2) (put := ps.flatten) (hB.txt.ext S8.upd) (Nat.le_refl _) (Nat.zero_le _) (eEdit n8) (fun k hk hO => ?_) (o7.in.ext e8) (fun k hk hO => ?_) hfit (by omega) (by omega) (by rw [hM0]; simpa using (by omega : szs (prs e ps.flatten) ≤ 65536)) fun O' M' w9 tx9 ea u9 o1 o2 => ?_
  · obtain ⟨q, hq, rfl⟩ := hk
    cases hq
    have : b15 < w2.heap.size := hown _ hO
    omega
  · have := o7.blk_ge hk
    have := hown _ hO
    omega
  have SO : St O w2 w8 [(b3, bothO p sa)] := ⟨Upd.of_ext S8.upd, hown, S8.loc, S8.nd⟩
  have S9 := SO.step u9 fun k hk => hk
  have r9 : SlOwn w9 w2.heap.size r 3 1 (iv ps.flatten) := (((hr.ext e6).ext e7).ext e8).upd u9 fun k _ hk hO => by
    have := hr.blk_ge hk
    have := hown _ hO
    omega
  refine S9.stC 0 rfl (by show 1 < 2; decide) fun w10 S10 u10 => ?_
  have S10 : St O w2 w10 [(b3, bothO p r)] := S10
  have g3 : w9.heap[b3]? = some (bothO p sa) := S9.at_ 0 rfl
  have hb3l : b3 < w8.heap.size := S8.lt _ List.mem_cons_self
  have nO3 : ¬ O' b3 := fun h => (o2 b3 h).elim (fun h => by have := hown _ h; omega) fun h => by omega
  have tx10 := tx9.upd u10 (fun k hk he => nO3 (he ▸ hk)) (NoTy.box g3 (by decide))
  have r10 := r9.box g3 (by decide) u10
  refine S10.lds 0 (some (at0 p), r, ()) rfl ?_
  have v1 : St (fun _ => False) w w10 [(b1, .cells #[.pointer none, .slice none 0 0] 28 (0, 0))] := (S1.ext e2).fresh S10.upd (fun k hk => .inr (by have := hnew k hk; have := e1.size; omega)) (fun x hx hO => by
    rw [List.mem_singleton.1 hx] at hO
    have := hnew _ hO
    dsimp only at *
    omega)
  refine v1.aggSt 0 rfl rfl rfl rfl fun w11 v2 u11 => v2.lds 0 (some (at0 p), r, ()) rfl ?_
  have nO1 : ¬ O' b1 := fun h => (o2 b1 h).elim (fun h => by have := hnew _ h; dsimp only at *; omega) fun h => by have := S8.upd.size; have := e2.size; dsimp only at *; omega
  have g1 : w10.heap[b1]? = some (.cells #[.pointer none, .slice none 0 0] 28 (0, 0)) := v1.at_ 0 rfl
  have tx11 := tx10.upd u11 (fun k hk he => nO1 (he ▸ hk)) (NoTy.box g1 (by decide))
  have ea' : atoms (aOf e M') = ps.flatten := by
    rw [ea, hM0]
    simp [atoms_prs]
  have zz := e1.size
  have zz2 := e2.size
  refine hK p e O' M' _ r w11 ⟨tx11, ?_, fun k hk => ?_⟩ ea' v2.upd
  · rw [ea']; exact (r10.box g1 (by decide) u11).mono (by omega)
  · rcases o2 k hk with h | h
    · have := hnew k h; omega
    · omega
end
end Go.Proofs.YtabcpghhfeplaaaGreat
set_option linter.unusedSimpArgs false
set_option linter.unusedVariables false
set_option maxRecDepth 100000
namespace Go.Proofs.YtabcpghhfeplaaaGreat
open Cdc Gly Clu Lns Obx
namespace Obx
def cls7 (n : Nat) : Nat := if n = 13 then 1 else if n = 10 then 2 else if n < 32 ∨ n = 127 then 3 else 0
def wrd7 (n : Nat) : Nat := if (9 ≤ n ∧ n ≤ 13) ∨ n = 32 then 0 else if (48 ≤ n ∧ n ≤ 57) ∨ (65 ≤ n ∧ n ≤ 90) ∨ n = 95 ∨ (97 ≤ n ∧ n ≤ 122) then 2 else 1
theorem table7 : ((List.range 128).all fun n => cls (n : Int) == cls7 n && cnj (n : Int) == 0 && wrd (n : Int) == wrd7 n) = true := by kernel_rfl
theorem asc_of {v : Int} (h : 0 ≤ v ∧ v < 128) : cls v = cls7 v.toNat ∧ cnj v = 0 ∧ wrd v = wrd7 v.toNat := by
  have h1 := List.all_eq_true.1 table7 v.toNat (List.mem_range.2 (by omega))
  have e : ((v.toNat : Nat) : Int) = v := by omega
  rw [e] at h1
  simp only [Bool.and_eq_true, beq_iff_eq] at h1
  exact ⟨h1.1.1, h1.1.2, h1.2⟩
theorem cls7_le (n : Nat) : cls7 n ≤ 3 := by unfold cls7; split <;> (try split) <;> (try split) <;> omega
def Asc7 (l : List Int) : Prop := ∀ v ∈ l, 0 ≤ v ∧ v < 128
theorem joins7 {s : Sc} {a : Int} (ha : 0 ≤ a ∧ a < 128) (hs : s.last ≤ 3) : joins s (cls a) (cnj a) = decide (s.last = 1 ∧ a = 10) := by
  obtain ⟨h1, h2, _⟩ := asc_of ha
  have h3 := cls7_le a.toNat
  rw [h1, h2]
  have h10 : cls7 a.toNat = 2 ↔ a = 10 := by unfold cls7; split <;> (try split) <;> (try split) <;> omega
  unfold joins
  by_cases hc : s.last = 1 ∧ cls7 a.toNat = 2
  · rw [if_pos hc, decide_eq_true ⟨hc.1, h10.1 hc.2⟩]
  · rw [if_neg hc, decide_eq_false (fun h => hc ⟨h.1, h10.2 h.2⟩)]
    split
    · rfl
    · rename_i hap
      simp only [not_or, apart, decide_eq_true_eq] at hap
      have e0 : s.last = 0 := by omega
      have e1 : cls7 a.toNat = 0 := by omega
      rw [e0, e1]
      rfl
theorem last7 {A : List Int} (h : Asc7 A) : ∀ k, (sc (A.take k)).last ≤ 3
  | 0 => by simp [sc, Sc.zero]
  | k + 1 => by
    by_cases hk : k < A.length
    · rw [List.take_add_one, List.getElem?_eq_getElem hk]
      show (sc (A.take k ++ [A[k]])).last ≤ 3
      rw [sc_snoc, last_stp, (asc_of (h _ (List.getElem_mem hk))).1]
      exact cls7_le _
    · have := last7 h k
      rwa [List.take_of_length_le (by omega)] at this ⊢
theorem bk7 {A : List Int} (h : Asc7 A) {k : Nat} (hk : k ≤ A.length) : bk A k = !(decide (0 < k) && (A[k - 1]? == some 13) && (A[k]? == some 10)) := by
  cases k with
  | zero => rw [bk_zero]; rfl
  | succ k =>
    by_cases he : k + 1 = A.length
    · rw [he, bk_len, List.getElem?_eq_none (Nat.le_refl A.length)]
      simp
    · have ha : A[k + 1]? = some A[k + 1] := List.getElem?_eq_getElem (by omega)
      have hb : A[k]? = some A[k] := List.getElem?_eq_getElem (by omega)
      rw [bk_at ha (by omega), joins7 (h _ (List.getElem_mem _)) (last7 h _)]
      have hl : (sc (A.take (k + 1))).last = cls7 (A[k]).toNat := by
        rw [List.take_add_one, hb]
        show (sc (A.take k ++ [A[k]])).last = _
        rw [sc_snoc, last_stp, (asc_of (h _ (List.getElem_mem _))).1]
      have h13 : cls7 (A[k]).toNat = 1 ↔ A[k] = 13 := by
        have := h A[k] (List.getElem_mem _)
        unfold cls7; split <;> (try split) <;> (try split) <;> omega
      rw [hl, ha, Nat.add_sub_cancel, hb]
      rw [Bool.eq_iff_iff]
      simp [h13]
def NoCL (A : List Int) : Prop := ∀ k : Nat, A[k]? = some 13 → A[k + 1]? ≠ some 10
theorem bk7_all {A : List Int} (h : Asc7 A) (hn : NoCL A) {k : Nat} (hk : k ≤ A.length) : bk A k = true := by
  rw [bk7 h hk]
  cases k with
  | zero => rfl
  | succ k =>
    rw [Nat.add_sub_cancel]
    cases h1 : (A[k]? == some 13) with
    | false => simp
    | true =>
      have := hn k (by simpa using h1)
      simp [this]
theorem cuts7 {A : List Int} (h : Asc7 A) (hn : NoCL A) : cuts A = List.range (A.length + 1) := by
  unfold cuts cutsTo
  rw [List.filter_eq_self]
  intro k hk
  exact bk7_all h hn (by have := List.mem_range.1 hk; omega)
theorem cels7 {A : List Int} (h : Asc7 A) (hn : NoCL A) (off : Nat) {k : Nat} {a : Int} (ha : A[k]? = some a) : (cels A off)[k]? = some ⟨off + k, off + k + 1, wrd7 a.toNat, true, a⟩ := by
  have hk := (List.getElem?_eq_some_iff.1 ha).1
  have hlen : (cels A off).length = A.length := by rw [cels_len, cuts7 h hn, List.length_range, Nat.add_sub_cancel]
  obtain ⟨c, hc⟩ : ∃ c, (cels A off)[k]? = some c := ⟨_, List.getElem?_eq_getElem (by omega)⟩
  obtain ⟨i, j, h1, h2, h3, h4, h5, h6, _, _, h7, h8, h9⟩ := (cels_ok hc).ex
  rw [cuts7 h hn] at h1 h2
  rw [List.getElem?_range (by omega)] at h1
  rw [List.getElem?_range (by omega)] at h2
  cases h1; cases h2
  rw [ha] at h7
  cases h7
  obtain ⟨_, _, hw⟩ := asc_of (h _ (List.mem_of_getElem? ha))
  rw [hc]
  obtain ⟨cf, ct, ck, ca, cat⟩ := c
  dsimp only at *
  have : ca = true := h9.2 rfl
  subst h5 h6 this
  rw [h8, hw]
  rfl
theorem cels7_len {A : List Int} (h : Asc7 A) (hn : NoCL A) (off : Nat) : (cels A off).length = A.length := by rw [cels_len, cuts7 h hn, List.length_range, Nat.add_sub_cancel]
end Obx
end Go.Proofs.YtabcpghhfeplaaaGreat
set_option linter.unusedSimpArgs false
set_option linter.unusedVariables false
set_option maxRecDepth 100000
namespace Go.Proofs.YtabcpghhfeplaaaGreat
open Trx Gly Clu Lns Obx
namespace Obx
def NoBrk (L : List Int) : Prop := ∀ v ∈ L, v ≠ 10 ∧ v ≠ 13
theorem NoBrk.cl {L : List Int} (h : NoBrk L) : NoCL L := fun k hk => absurd rfl (h 13 (List.mem_of_getElem? hk)).2
theorem nb_stay {A : List Int} {m : Nat} (h : ∀ k a, m ≤ k → A[k]? = some a → a ≠ 10 ∧ a ≠ 13) : ∀ d, nb A (m + d) = nb A m
  | 0 => rfl
  | d + 1 => by
    rw [show m + (d + 1) = (m + d) + 1 by omega, nb_succ, nb_stay h d]
    have : isb A (m + d) = false := by
      cases hb : isb A (m + d) with
      | false => rfl
      | true =>
        have hlt := isb_lt hb
        have ha : A[m + d]? = some A[m + d] := List.getElem?_eq_getElem hlt
        have := h _ _ (by omega) ha
        rcases (isb_iff ha).1 hb with h1 | h1
        · exact absurd h1 this.1
        · exact absurd h1.1 this.2
    rw [this]; simp
theorem sk_brk {A : List Int} {i : Nat} (h : isb A i = true) : sk A (nb A i + 1) = some (i + 1) ∧ nb A (i + 1) = nb A i + 1 := by
  have hi := isb_lt h
  have hn : nb A (i + 1) = nb A i + 1 := by rw [nb_succ, h]; rfl
  have hle : nb A i + 1 ≤ brs A := by rw [← hn, brs_nb]; exact nb_mono A _ _ (by omega)
  obtain ⟨m, hm⟩ := sk_ok hle
  obtain ⟨_, _, h3, h4⟩ := sk_get hm
  rw [hm]
  have h1 : ¬ i + 1 < m := fun hc => by have := h4 _ hc; omega
  have h2 : ¬ m < i + 1 := fun hc => by have := nb_mono A m i (by omega); omega
  exact ⟨by congr 1; omega, hn⟩
theorem last_line {H L : List Int} (hL : NoBrk L) {p : Nat} (h1 : H.length + 1 ≤ p) (h2 : p ≤ H.length + 1 + L.length) : lineP (H ++ 10 :: L) (p : Int) = ⟨H.length + 1, H.length + 1 + L.length, H.length + 1 + L.length, 0⟩ := by
  obtain ⟨A, hA⟩ : ∃ A, A = H ++ 10 :: L := ⟨_, rfl⟩
  rw [← hA]
  have hlen : A.length = H.length + 1 + L.length := by rw [hA]; simp; omega
  have h10 : A[H.length]? = some 10 := by rw [hA, List.getElem?_append_right (Nat.le_refl _)]; simp
  have hrest : ∀ k a, H.length + 1 ≤ k → A[k]? = some a → a ≠ 10 ∧ a ≠ 13 := by
    intro k a hk ha
    rw [hA, List.getElem?_append_right (by omega)] at ha
    obtain ⟨d, hd⟩ : ∃ d, k - H.length = d + 1 := ⟨k - H.length - 1, by omega⟩
    rw [hd, List.getElem?_cons_succ] at ha
    exact hL a (List.mem_of_getElem? ha)
  obtain ⟨s1, s2⟩ := sk_brk ((isb_iff h10).2 (.inl rfl))
  have st := nb_stay hrest
  have e1 : nb A p = nb A (H.length + 1) := by
    have := st (p - (H.length + 1)); rwa [show H.length + 1 + (p - (H.length + 1)) = p by omega] at this
  have e2 : brs A = nb A (H.length + 1) := by
    rw [brs_nb]
    have := st (A.length - (H.length + 1)); rwa [show H.length + 1 + (A.length - (H.length + 1)) = A.length by omega] at this
  unfold lineP lnAt
  rw [Int.toNat_natCast, e1, s2, s1, sk_none A _ (by omega)]
  simp only [Option.getD_some]
  rw [hlen]
theorem last_cells {H L : List Int} : lineC (H ++ 10 :: L) ⟨H.length + 1, H.length + 1 + L.length, H.length + 1 + L.length, 0⟩ = cels L (H.length + 1) := by
  unfold lineC
  have : ((H ++ 10 :: L).drop (H.length + 1)).take (H.length + 1 + L.length - (H.length + 1)) = L := by
    rw [show H ++ 10 :: L = (H ++ [10]) ++ L by simp, show H.length + 1 = (H ++ [10]).length by simp, List.drop_left, Nat.add_sub_cancel_left, List.take_length]
  dsimp only
  rw [this]
def sorts7 (L : List Int) (big : Bool) : List Nat := L.map fun v => if big ∧ wrd7 v.toNat ≠ 0 then 2 else wrd7 v.toNat
theorem sorts7_eq {L : List Int} (h : Asc7 L) (hn : NoCL L) (off : Nat) (big : Bool) : sortsW (cels L off) big = sorts7 L big := by
  unfold sortsW sorts7
  apply List.ext_getElem?
  intro k
  rw [List.getElem?_map, List.getElem?_map]
  by_cases hk : k < L.length
  · rw [cels7 h hn off (List.getElem?_eq_getElem hk), List.getElem?_eq_getElem hk]; rfl
  · rw [List.getElem?_eq_none (by rw [cels7_len h hn]; omega), List.getElem?_eq_none (by omega)]; rfl
theorem here7 {L : List Int} (h : Asc7 L) (hn : NoCL L) {off i : Nat} (hi : i < L.length) : hereI (cels L off) ((off + i : Nat) : Int) = i := by
  have hf : firstI (cels L off) ((off + i : Nat) : Int) = i := by
    refine firstI_eq (by rw [cels7_len h hn]; omega) (fun j c hj hc => ?_) (fun c hc => ?_)
    · rw [cels7 h hn off (List.getElem?_eq_getElem (show j < L.length by omega))] at hc
      cases hc; dsimp only; omega
    · rw [cels7 h hn off (List.getElem?_eq_getElem hi)] at hc
      cases hc; dsimp only; omega
  unfold hereI
  rw [hf, if_pos (by rw [cels7_len h hn]; omega)]
theorem words_last {H L : List Int} (hL : NoBrk L) (ha : Asc7 L) {i : Nat} (hi : i < L.length) {kind count : Int} (hk : 61 ≤ kind ∧ kind ≤ 64) (hc : 0 ≤ count) {f t : Nat} (hp : pickP (decide (kind = 62 ∨ kind = 64)) (sorts7 L (decide (kind = 63 ∨ kind = 64))) i (times count) = some (f, t)) :
    wordsP (H ++ 10 :: L) ((H.length + 1 + i : Nat) : Int) kind count = ((((H.length + 1 + f : Nat) : Int), ((H.length + 1 + t : Nat) : Int), 0), 0) := by
  have hlen : (H ++ 10 :: L).length = H.length + 1 + L.length := by simp; omega
  have hck : checked (H ++ 10 :: L).length ((H.length + 1 + i : Nat) : Int) kind count 61 64 = 0 := by unfold checked; rw [if_neg (by omega), if_neg (by omega)]
  have hl := last_line (H := H) hL (p := H.length + 1 + i) (by omega) (by omega)
  have hb : f ≤ i ∧ i < t ∧ t ≤ (sorts7 L (decide (kind = 63 ∨ kind = 64))).length := by
    unfold pickP at hp
    split at hp
    · exact aroundP_le hp
    · exact innerP_le hp
  have hsl : (sorts7 L (decide (kind = 63 ∨ kind = 64))).length = L.length := List.length_map _
  unfold wordsP
  rw [if_neg (by rw [hck]; decide), hl, last_cells]
  dsimp only
  rw [if_neg (by rw [cels7_len ha hL.cl]; omega), sorts7_eq ha hL.cl, here7 ha hL.cl hi, hp]
  dsimp only
  rw [cels7 ha hL.cl _ (List.getElem?_eq_getElem (show f < L.length by omega)), cels7 ha hL.cl _ (List.getElem?_eq_getElem (show t - 1 < L.length by omega))]
  simp only [Option.map_some, Option.getD_some]
  congr 4
  omega
theorem run_mid {X Y : List Nat} {n v i : Nat} (hX : ∀ x, X.getLast? = some x → x ≠ v) (hY : ∀ y, Y.head? = some y → y ≠ v) (h1 : X.length ≤ i) (h2 : i < X.length + n) :
    beginP (X ++ List.replicate n v ++ Y) i = X.length ∧ endP (X ++ List.replicate n v ++ Y) i = X.length + n := by
  obtain ⟨S, hS⟩ : ∃ S, S = X ++ List.replicate n v ++ Y := ⟨_, rfl⟩
  rw [← hS]
  have hl : S.length = X.length + n + Y.length := by rw [hS]; simp; omega
  have mid : ∀ j, X.length ≤ j → j < X.length + n → S.getD j 0 = v := by
    intro j q1 q2
    rw [List.getD_eq_getElem?_getD, hS, List.getElem?_append_left (by simp; omega), List.getElem?_append_right q1, List.getElem?_replicate, if_pos (by omega)]; rfl
  constructor
  · refine begin_found h1 (fun j q1 q2 => by rw [mid j q1 (by omega), mid i h1 h2]) (fun h0 => ?_)
    rw [mid X.length (Nat.le_refl _) (by omega), List.getD_eq_getElem?_getD, hS, List.append_assoc, List.getElem?_append_left (by omega)]
    have : X.getLast? = some (X[X.length - 1]) := by rw [List.getLast?_eq_getElem?, List.getElem?_eq_getElem (by omega)]
    have := hX _ this
    rw [List.getElem?_eq_getElem (by omega)]
    exact this
  · refine endP_eq h2 (by omega) (fun j q1 q2 => by rw [mid j (by omega) q2, mid i h1 h2]) (fun h0 => ?_)
    rw [mid i h1 h2, List.getD_eq_getElem?_getD, hS, List.getElem?_append_right (by simp)]
    have e : X.length + n - (X ++ List.replicate n v).length = 0 := by simp
    rw [e]
    cases Y with
    | nil => rw [hS] at h0; simp at h0
    | cons y r => exact hY y rfl
theorem mid_at {X Y : List Nat} {n v i : Nat} (h1 : X.length ≤ i) (h2 : i < X.length + n) : (X ++ List.replicate n v ++ Y).getD i 0 = v := by
  rw [List.getD_eq_getElem?_getD, List.getElem?_append_left (by simp; omega), List.getElem?_append_right h1, List.getElem?_replicate, if_pos (by omega)]; rfl
def rowW (a n b v : Nat) : List Nat := List.replicate a 0 ++ List.replicate n 2 ++ (List.replicate b 0 ++ [v])
theorem rowW_len (a n b v : Nat) : (rowW a n b v).length = a + n + b + 1 := by unfold rowW; simp; omega
theorem last_rep {a v x : Nat} (h : (List.replicate a v).getLast? = some x) : x = v := by
  have := List.mem_of_getLast? h
  exact (List.mem_replicate.1 this).2
theorem rowW_word {a n b i : Nat} (v : Nat) (hv : v = 1 ∨ (v = 2 ∧ 0 < b)) (h1 : a ≤ i) (h2 : i < a + n) : beginP (rowW a n b v) i = a ∧ endP (rowW a n b v) i = a + n := by
  have := run_mid (X := List.replicate a 0) (Y := List.replicate b 0 ++ [v]) (n := n) (v := 2) (i := i) (fun x hx => by rw [last_rep hx]; decide) (fun y hy => by
    cases b with
    | zero => simp at hy; omega
    | succ b => simp [List.replicate_succ] at hy; omega) (by simpa using h1) (by simpa using h2)
  simpa [rowW] using this
theorem rowW_big {a n i : Nat} (h1 : a ≤ i) (h2 : i < a + n) : beginP (rowW a n 0 2) i = a ∧ endP (rowW a n 0 2) i = a + n + 1 := by
  have := run_mid (X := List.replicate a 0) (Y := []) (n := n + 1) (v := 2) (i := i) (fun x hx => by rw [last_rep hx]; decide) (fun y hy => by cases hy) (by simpa using h1) (by simp; omega)
  have e : List.replicate a 0 ++ List.replicate (n + 1) 2 ++ [] = rowW a n 0 2 := by unfold rowW; rw [List.replicate_succ']; simp
  rw [e] at this
  simp only [List.length_replicate] at this
  exact ⟨this.1, by rw [this.2]; omega⟩
theorem rowW_blank {a n b i : Nat} (v : Nat) (hn : 0 < n) (h2 : i < a) : beginP (rowW a n b v) i = 0 ∧ endP (rowW a n b v) i = a := by
  have := run_mid (X := []) (Y := List.replicate n 2 ++ (List.replicate b 0 ++ [v])) (n := a) (v := 0) (i := i) (fun x hx => by cases hx) (fun y hy => by
    cases n with
    | zero => omega
    | succ n => simp [List.replicate_succ] at hy; omega) (Nat.zero_le _) (by simpa using h2)
  simpa [rowW, List.append_assoc] using this
theorem rowW_tail {a n b i : Nat} (hn : 0 < n) (h1 : a + n ≤ i) (h2 : i < a + n + b) : beginP (rowW a n b 1) i = a + n ∧ endP (rowW a n b 1) i = a + n + b := by
  have := run_mid (X := List.replicate a 0 ++ List.replicate n 2) (Y := [1]) (n := b) (v := 0) (i := i) (fun x hx => by
    cases n with
    | zero => omega
    | succ n => rw [List.replicate_succ', ← List.append_assoc, List.getLast?_concat] at hx; cases hx; decide) (fun y hy => by simp at hy; omega) (by simpa using h1) (by simpa using h2)
  simpa [rowW, List.append_assoc] using this
theorem rowW_at2 {a n b v i : Nat} (h1 : a ≤ i) (h2 : i < a + n) : (rowW a n b v).getD i 0 = 2 := by
  have := mid_at (X := List.replicate a 0) (Y := List.replicate b 0 ++ [v]) (n := n) (v := 2) (i := i) (by simpa using h1) (by simpa using h2)
  simpa [rowW] using this
theorem rowW_at0 {a n b v i : Nat} (h2 : i < a) : (rowW a n b v).getD i 0 = 0 := by
  have := mid_at (X := []) (Y := List.replicate n 2 ++ (List.replicate b 0 ++ [v])) (n := a) (v := 0) (i := i) (Nat.zero_le _) (by simpa using h2)
  simpa [rowW, List.append_assoc] using this
theorem rowW_atT {a n b v i : Nat} (h1 : a + n ≤ i) (h2 : i < a + n + b) : (rowW a n b v).getD i 0 = 0 := by
  have := mid_at (X := List.replicate a 0 ++ List.replicate n 2) (Y := [v]) (n := b) (v := 0) (i := i) (by simpa using h1) (by simpa using h2)
  simpa [rowW, List.append_assoc] using this
theorem rowW_atV {a n b v : Nat} : (rowW a n b v).getD (a + n + b) 0 = v := by
  have := mid_at (X := List.replicate a 0 ++ List.replicate n 2 ++ List.replicate b 0) (Y := []) (n := 1) (v := v) (i := a + n + b) (by simp; omega) (by simp; omega)
  simpa [rowW, List.append_assoc] using this
theorem pick_iw {a n b i : Nat} (h1 : a ≤ i) (h2 : i < a + n) : pickP false (rowW a n b 1) i 1 = some (a, a + n) := by
  have hl := rowW_len a n b 1
  obtain ⟨e1, e2⟩ := rowW_word (b := b) 1 (.inl rfl) h1 h2
  show innerP _ i 1 = _
  rw [inner_one (by omega), e1, e2]
theorem pick_aw {a n b i : Nat} (h1 : a ≤ i) (h2 : i < a + n) : pickP true (rowW a n b 1) i 1 = some (if b = 0 then 0 else a, a + n + b) := by
  have hl := rowW_len a n b 1
  obtain ⟨e1, e2⟩ := rowW_word (b := b) 1 (.inl rfl) h1 h2
  have hat := rowW_at2 (b := b) (v := 1) h1 h2
  have ho : overP (rowW a n b 1) i = i := by unfold overP; rw [if_neg (by rw [hat]; omega)]
  show aroundP _ i 1 = _
  unfold aroundP
  rw [aroundGo, ho, if_pos (by omega), e2]
  simp only [Option.map_some, hat, e1]
  rw [if_neg (by decide)]
  by_cases hb : b = 0
  · subst hb
    have hv := rowW_atV (a := a) (n := n) (b := 0) (v := 1)
    rw [Nat.add_zero] at hv ⊢
    rw [if_neg (by rw [hv]; omega)]
    by_cases ha : a = 0
    · subst ha
      rw [if_neg (by omega)]; rfl
    · rw [if_pos ⟨by omega, rowW_at0 (by omega)⟩, (rowW_blank 1 (by omega) (by omega)).1]; rfl
  · rw [if_pos ⟨by omega, rowW_atT (by omega) (by omega)⟩, (rowW_tail (by omega) (by omega) (by omega)).2, if_neg hb]
theorem pick_iW {a n b i : Nat} (h1 : a ≤ i) (h2 : i < a + n) : pickP false (rowW a n b 2) i 1 = some (a, if b = 0 then a + n + 1 else a + n) := by
  have hl := rowW_len a n b 2
  show innerP _ i 1 = _
  rw [inner_one (by omega)]
  by_cases hb : b = 0
  · subst hb
    obtain ⟨e1, e2⟩ := rowW_big h1 h2
    rw [e1, e2]; rfl
  · obtain ⟨e1, e2⟩ := rowW_word (b := b) 2 (.inr ⟨rfl, by omega⟩) h1 h2
    rw [e1, e2, if_neg hb]
theorem pick_ib {a n b i : Nat} (hn : 0 < n) (h2 : i < a) : pickP false (rowW a n b 1) i 1 = some (0, a) := by
  have hl := rowW_len a n b 1
  obtain ⟨e1, e2⟩ := rowW_blank (b := b) 1 hn h2
  show innerP _ i 1 = _
  rw [inner_one (by omega), e1, e2]
theorem pick_ab {a n b : Nat} (hn : 0 < n) (ha : 0 < a) : pickP true (rowW a n b 1) 0 1 = some (0, a + n) := by
  have hl := rowW_len a n b 1
  obtain ⟨e1, e2⟩ := rowW_blank (b := b) 1 hn ha
  have hat := rowW_at0 (n := n) (b := b) (v := 1) ha
  have ho : overP (rowW a n b 1) 0 = a := by unfold overP; rw [if_pos ⟨by omega, hat⟩, e2]
  show aroundP _ 0 1 = _
  unfold aroundP
  rw [aroundGo, ho, if_pos (by omega), (rowW_word (b := b) (i := a) 1 (.inl rfl) (Nat.le_refl _) (by omega)).2]
  simp only [Option.map_some, hat, e1]
  rfl
def lineW (a b : Nat) (word : List Int) : List Int := List.replicate a 32 ++ word ++ (List.replicate b 9 ++ [46])
theorem lineW_sorts {a b : Nat} {word : List Int} (hw : ∀ v ∈ word, 97 ≤ v ∧ v ≤ 122) (big : Bool) : sorts7 (lineW a b word) big = rowW a word.length b (if big then 2 else 1) := by
  have e : word.map (fun v : Int => if big ∧ wrd7 v.toNat ≠ 0 then 2 else wrd7 v.toNat) = List.replicate word.length 2 := by
    rw [List.eq_replicate_iff]
    refine ⟨List.length_map _, fun x hx => ?_⟩
    obtain ⟨v, hv, rfl⟩ := List.mem_map.1 hx
    have h := hw v hv
    have : wrd7 v.toNat = 2 := by unfold wrd7; rw [if_neg (by omega), if_pos (by omega)]
    rw [this]; split <;> rfl
  unfold sorts7 lineW rowW
  rw [List.map_append, List.map_append, List.map_append, List.map_replicate, List.map_replicate, e]
  cases big <;> rfl
theorem lineW_ok {a b : Nat} {word : List Int} (hw : ∀ v ∈ word, 97 ≤ v ∧ v ≤ 122) : NoBrk (lineW a b word) ∧ Asc7 (lineW a b word) := by
  have : ∀ v ∈ lineW a b word, v = 32 ∨ (97 ≤ v ∧ v ≤ 122) ∨ v = 9 ∨ v = 46 := by
    intro v hv
    unfold lineW at hv
    simp only [List.mem_append, List.mem_replicate, List.mem_singleton] at hv
    rcases hv with (⟨_, h⟩ | h) | ⟨_, h⟩ | h
    · exact .inl h
    · exact .inr (.inl (hw v h))
    · exact .inr (.inr (.inl h))
    · exact .inr (.inr (.inr h))
  exact ⟨fun v hv => by have := this v hv; omega, fun v hv => by have := this v hv; omega⟩
theorem lineW_len (a b : Nat) (word : List Int) : (lineW a b word).length = a + word.length + b + 1 := by unfold lineW; simp; omega
end Obx
end Go.Proofs.YtabcpghhfeplaaaGreat
set_option linter.unusedSimpArgs false
set_option linter.unusedVariables false
set_option maxRecDepth 100000
namespace Go.Proofs.YtabcpghhfeplaaaGreat
open Go Go.Vx Cdc Trx Gly Clu Lns Obx
section
variable {w w' : World} {S : Nat → Prop} {p : Nat} {e : Enc} {lim na : Nat} {O : Nat → Prop} {M : Parts}
theorem spans_eq {sp : Int × Int × Int} {f t k : Int} (h : sp = (f, t, k)) {K : Bool → World → Prop} (hK : ∀ w', Ext w w' → K true w') :
    callT Tryz.prog 30 #[.agg (Cells.vals c34 (spT sp)).toArray, .int .i64 0, .int .i64 f, .int .i64 t, .int .i64 k] (.one (.one .bool)) K w := by
  subst h
  exact spans_call (sp := (f, t, k)) hK
def letr (v : Int) : Int := 97 + (within v 25 : Nat)
theorem letr_in (v : Int) : 97 ≤ letr v ∧ letr v ≤ 122 := by unfold letr; have := within_le v 25; omega
def wordOf (l : List Int) : List Int := 97 :: (l.take 16).map letr
theorem wordOf_in (l : List Int) : ∀ v ∈ wordOf l, 97 ≤ v ∧ v ≤ 122 := by
  intro v hv
  rcases List.mem_cons.1 hv with rfl | hv
  · omega
  · obtain ⟨x, _, rfl⟩ := List.mem_map.1 hv; exact letr_in x
theorem wordOf_len (l : List Int) : 0 < (wordOf l).length ∧ (wordOf l).length ≤ 17 := by unfold wordOf; rw [List.length_cons, List.length_map, List.length_take]; omega
theorem own_box {b N : Nat} {v : Int} (h : w.heap[b]? = some (.cells #[.int .i64 v] 3 (0, 0))) (hN : N ≤ b) : SlOwn w N ⟨some (at0 b), 1, 1⟩ 3 1 (iv [v]) :=
  ⟨by simp, Nat.le_refl _, .inr ⟨b, 0, _, rfl, hN, h, by show 0 + 1 * 1 ≤ 1; omega, fun i u hu => by rw [Nat.zero_add]; simpa using hu⟩⟩
set_option maxHeartbeats 1000000 in
theorem wordMade_walk {enc ah be at_ : Int} {s1 s2 : Sl} {pre ls : List Int} (h1 : SlX w s1 1 (iv pre)) (n1 : pre.length < 2 ^ 60) (h2 : SlX w s2 1 (iv ls)) (n2 : ls.length < 2 ^ 60) (j2 : ∀ n ∈ ls, In64 n) (ia : In64 ah) (ib : In64 be) (ip : In64 at_) {K : Bool → World → Prop} (hK : ∀ w', Ext w w' → K true w') :
    callT Tryz.prog 12 #[.int .i64 enc, .slice s1.a s1.len s1.cap, .int .i64 ah, .slice s2.a s2.len s2.cap, .int .i64 be, .int .i64 at_] (.one (.one .bool)) K w := by
  refine F12_calls ?_
  unfold F12
  have hl2 : ls.length = s2.len := by have := h2.len1; rwa [List.length_map] at this
  refine within_call (n := 5) ia (by decide) (within_call (n := 5) ib (by decide) ?_)
  have ha5 := within_le ah 5
  have hb5 := within_le be 5
  generalize within ah 5 = a at *
  generalize within be 5 = b at *
  refine newO_r fun b3 w1 e1 n3 hb3 _ => ?_
  refine join_r (fun x W => SlOwn W w.heap.size x.1 3 1 (iv (wordOf ls)) ∧ Ext w W) ?_ ?_
  · refine sloop_r (fun x W => ∃ i : Nat, i ≤ ls.length ∧ i ≤ 16 ∧ x.2 = ((i : Int), ()) ∧ SlOwn W w.heap.size x.1 3 1 (iv (97 :: (ls.take i).map letr)) ∧ Ext w W) (fun x _ => ((16 : Int) - x.2.1).toNat) ⟨0, Nat.zero_le _, Nat.zero_le _, rfl, own_box n3 (by omega), e1⟩ ?_
    rintro ⟨r, _⟩ W ⟨i, hi, hi2, rfl, hr, eW⟩
    dsimp only at hr ⊢
    refine join_r (fun x W' => x = (decide (i < ls.length ∧ i < 16), ()) ∧ W = W') ?_ ?_
    · refine sif_r (fun h => ⟨tupb ?_, rfl⟩) (fun h => ⟨tupb ?_, rfl⟩)
      all_goals simp only [decide_eq_true_eq, decide_eq_false_iff_not, Bool.false_eq_true, false_iff] at *
      all_goals omega
    rintro _ _ ⟨rfl, rfl⟩
    refine sif_r (fun hc => ?_) (fun hc => ?_)
    · simp only [decide_eq_true_eq] at hc
      obtain ⟨v, hv⟩ : ∃ v, ls[i]? = some v := ⟨_, List.getElem?_eq_getElem hc.1⟩
      have ew : IntKind.wrap .i64 ((i : Int) + 1) = ((i + 1 : Nat) : Int) := by rw [wrap64 (by omega) (by omega)]; omega
      rw [ew]
      refine ix_ldX (c := .int .i64) (xs := ls) (h2.ext eW) (by omega) (x := v) (by rw [Int.toNat_natCast]; exact hv) fun q => ?_
      refine within_call (n := 25) (j2 v (List.mem_of_getElem? hv)) (by decide) ?_
      have ewl : IntKind.wrap .i64 ((97 : Int) + ((within v 25 : Nat) : Int)) = letr v := by have := within_le v 25; rw [wrap64 (by omega) (by omega)]; rfl
      rw [ewl]
      refine newO_r fun b7 w4 e4 n4 hb4 _ => push (hr.ext e4) n4 (by rw [List.length_cons, List.length_map, List.length_take]; omega) (by have := eW.size; have := e4.size; omega) fun r' w5 o5 u5 => ?_
      have e5 : (97 :: (ls.take i).map letr) ++ [letr v] = 97 :: (ls.take (i + 1)).map letr := by rw [List.take_add_one, hv]; simp
      rw [e5] at o5
      exact ⟨⟨i + 1, by omega, by omega, rfl, o5, (eW.trans e4).step u5 fun k hk => hr.blk_ge hk⟩, by omega⟩
    · simp only [decide_eq_false_iff_not] at hc
      have : ls.take i = ls.take 16 := by
        by_cases h : i = 16
        · rw [h]
        · rw [List.take_of_length_le (by omega), List.take_of_length_le (by omega)]
      rw [this] at hr
      exact ⟨hr, eW⟩
  rintro ⟨sw, _⟩ w2 ⟨ow, e2⟩
  dsimp only at ow ⊢
  obtain ⟨hw0, hw17⟩ := wordOf_len ls
  have hwin := wordOf_in ls
  have lw : (wordOf ls).length = sw.len := by have := ow.len1; rwa [List.length_map] at this
  generalize wordOf ls = word at *
  refine plain_call (h1.ext e2) n1 fun s15 w3 o15 e3 => ?_
  refine newO_r fun b16 w4 e4 n4 hb4 _ => push (o15.ext e4) n4 (by have := plainL_len pre; omega) (by have := e3.size; have := e4.size; omega) fun s17 w5 o17 u5 => ?_
  have hH := plainL_len pre
  have hHa := plainL_asc pre
  obtain ⟨H, hHd⟩ : ∃ H, H = plainL pre := ⟨_, rfl⟩
  rw [← hHd] at o17 hH hHa
  have l17 : H.length + 1 = s17.len := by have := o17.len1; rw [List.length_map, List.length_append] at this; simpa using this
  have e25 : Ext w2 w5 := (e3.trans e4).step u5 fun k hk => o15.blk_ge hk
  refine many_call (n := a) (v := 32) (by omega) fun s18 w6 o18 e6 => ?_
  refine many_call (n := b) (v := 9) (by omega) fun s19 w7 o19 e7 => ?_
  refine newO_r fun b20 w8 e8 n8 hb8 _ => newO_r fun b21 w9 e9 n9 hb9 _ => ?_
  have x79 := e8.trans e9
  have x59 := (e6.trans e7).trans x79
  have x29 := e25.trans x59
  have x09 := e2.trans x29
  have ok := lineW_ok (a := a) (b := b) hwin
  have hflat : ([H ++ [10], List.replicate a 32, word, List.replicate b 9, [46]] : List (List Int)).flatten = H ++ 10 :: lineW a b word := by unfold lineW; simp
  refine laid_call (enc := enc) (s := ⟨some (at0 b21), 5, 5⟩) (t := 26) (ss := [s17, s18, sw, s19, ⟨some (at0 b20), 1, 1⟩]) (ps := [H ++ [10], List.replicate a 32, word, List.replicate b 9, [46]]) (SlIn.of_box n9 (n := 5) (sz := 1) rfl) rfl (fun i x l hx hl => ?_) (fun l hl => ?_) (by
      rw [hflat]
      have := lineW_len a b word
      simp; omega) (by show 5 < 2 ^ 40; omega) fun p e O M na s' w10 hB hat e10 => ?_
  · match i, hx, hl with
    | 0, hx, hl => cases hx; cases hl; exact ⟨_, (o17.ext x59).in⟩
    | 1, hx, hl => cases hx; cases hl; exact ⟨_, (o18.ext (e7.trans x79)).in⟩
    | 2, hx, hl => cases hx; cases hl; exact ⟨_, (ow.ext x29).in⟩
    | 3, hx, hl => cases hx; cases hl; exact ⟨_, (o19.ext x79).in⟩
    | 4, hx, hl => cases hx; cases hl; exact ⟨3, SlIn.of_box (e9.ext_get n8) (n := 1) (sz := 1) rfl⟩
    | i + 5, hx, hl => simp at hx
  · simp only [List.mem_cons, List.not_mem_nil, or_false] at hl
    rcases hl with rfl | rfl | rfl | rfl | rfl
    · exact hHa.app (fun v hv => by rw [List.mem_singleton.1 hv]; omega)
    · intro v hv; rw [(List.mem_replicate.1 hv).2]; omega
    · intro v hv; have := hwin v hv; omega
    · intro v hv; rw [(List.mem_replicate.1 hv).2]; omega
    · intro v hv; rw [List.mem_singleton.1 hv]; omega
  rw [hflat] at hat
  have tx := hB.txt
  have x10 := x09.trans e10
  refine (St.start w10).newO fun b23 w11 S11 e11 => S11.aggSt 0 rfl rfl rfl rfl fun w12 S12 u12 => sif_false ?_
  have S12 : St (fun _ => False) w10 w12 [(b23, bothO p s')] := S12
  have ewl : IntKind.wrap .i64 ((sw.len : Int) - 1) = ((word.length - 1 : Nat) : Int) := by rw [wrap64 (by omega) (by omega)]; omega
  rw [ewl]
  refine within_call (n := word.length - 1) ip (by omega) ?_
  have hi := within_le at_ (word.length - 1)
  generalize within at_ (word.length - 1) = ix at *
  have eF : IntKind.wrap .i64 ((s17.len : Int) + (a : Int)) = ((H.length + 1 + a : Nat) : Int) := by rw [wrap64 (by omega) (by omega)]; omega
  rw [eF]
  have eP : IntKind.wrap .i64 (((H.length + 1 + a : Nat) : Int) + (ix : Int)) = ((H.length + 1 + (a + ix) : Nat) : Int) := by rw [wrap64 (by omega) (by omega)]; omega
  have eT : IntKind.wrap .i64 (((H.length + 1 + a : Nat) : Int) + (sw.len : Int)) = ((H.length + 1 + (a + word.length) : Nat) : Int) := by rw [wrap64 (by omega) (by omega)]; omega
  have eTb : IntKind.wrap .i64 (((H.length + 1 + (a + word.length) : Nat) : Int) + (b : Int)) = ((H.length + 1 + (a + word.length + b) : Nat) : Int) := by rw [wrap64 (by omega) (by omega)]; omega
  have eT1 : IntKind.wrap .i64 (((H.length + 1 + (a + word.length) : Nat) : Int) + 1) = ((H.length + 1 + (a + word.length + 1) : Nat) : Int) := by rw [wrap64 (by omega) (by omega)]; omega
  have eFa : IntKind.wrap .i64 (((H.length + 1 + a : Nat) : Int) - (a : Int)) = ((H.length + 1 + 0 : Nat) : Int) := by rw [wrap64 (by omega) (by omega)]; omega
  rw [eP, eT, eTb, eT1, eFa]
  have hll := lineW_len a b word
  have words : ∀ {W : World} {kind count : Int} {i f t : Nat} {K : Cells.T c34 × Int × Unit → World → Prop} {ls : List (Nat × Obj)}, St (fun _ => False) w10 W ls → i < (lineW a b word).length → 61 ≤ kind ∧ kind ≤ 64 → 0 ≤ count → count < 2 → pickP (decide (kind = 62 ∨ kind = 64)) (sorts7 (lineW a b word) (decide (kind = 63 ∨ kind = 64))) i (times count) = some (f, t) →
      (∀ w', St (fun _ => False) w10 w' ls → K (spT (((H.length + 1 + f : Nat) : Int), ((H.length + 1 + t : Nat) : Int), 0), 0, ()) w') → callT Tryz.prog 29 #[.pointer (some (at0 p)), .int .i64 ((H.length + 1 + i : Nat) : Int), .agg #[.int .i64 kind, .int .i64 count, .int .i64 0]] (.tup [(.agg c34), (.one (.int .i64))]) K W := by
    intro W kind count i f t K ls SW hi hk hc hc2 hp hk'
    refine words_call (kind := kind) (count := count) (arg := 0) (tx.ext SW.upd) (by omega) fun w' e' => ?_
    rw [hat, words_last ok.1 ok.2 hi hk hc hp]
    exact hk' w' (SW.ext e')
  have hs1 := lineW_sorts (a := a) (b := b) hwin false
  have hs2 := lineW_sorts (a := a) (b := b) hwin true
  refine S12.ld 0 rfl (x := some (at0 p)) rfl (words S12 (i := a + ix) (f := a) (t := a + word.length) (by omega) (by decide) (by decide) (by decide) (by rw [show decide ((61 : Int) = 63 ∨ (61 : Int) = 64) = false from rfl, hs1]; exact pick_iw (by omega) (by omega)) fun w13 S13 => ?_)
  refine S13.newO fun b27 w14 S14 e14 => S14.aggSt 0 rfl rfl rfl rfl fun w15 S15 u15 => S15.lds 0 (spT (((H.length + 1 + a : Nat) : Int), ((H.length + 1 + (a + word.length) : Nat) : Int), 0)) rfl ?_
  refine spans_eq rfl fun w16 e16 => sif_false ?_
  have S16 := S15.ext e16
  refine join_r (fun x W => x = (((H.length + 1 + (if b = 0 then 0 else a) : Nat) : Int), ()) ∧ w16 = W) ?_ ?_
  · refine sif_r (fun hc => ⟨?_, rfl⟩) (fun hc => ⟨?_, rfl⟩)
    · simp only [beq_iff_eq] at hc
      rw [if_pos (by omega)]
    · simp only [beq_eq_false_iff_ne, ne_eq] at hc
      rw [if_neg (by omega)]
  rintro _ _ ⟨rfl, rfl⟩
  refine S16.ld 1 rfl (x := some (at0 p)) rfl (words S16 (i := a + ix) (f := if b = 0 then 0 else a) (t := a + word.length + b) (by omega) (by decide) (by decide) (by decide) (by rw [show decide ((62 : Int) = 63 ∨ (62 : Int) = 64) = false from rfl, hs1]; exact pick_aw (by omega) (by omega)) fun w17 S17 => ?_)
  refine S17.aggSt 0 rfl rfl rfl rfl fun w18 S18 u18 => S18.lds 0 (spT (((H.length + 1 + (if b = 0 then 0 else a) : Nat) : Int), ((H.length + 1 + (a + word.length + b) : Nat) : Int), 0)) rfl ?_
  refine spans_eq rfl fun w19 e19 => sif_false ?_
  have S19 := S18.ext e19
  refine join_r (fun x W => x = (((H.length + 1 + (if b = 0 then a + word.length + 1 else a + word.length) : Nat) : Int), ()) ∧ w19 = W) ?_ ?_
  · refine sif_r (fun hc => ⟨?_, rfl⟩) (fun hc => ⟨?_, rfl⟩)
    · simp only [beq_iff_eq] at hc
      rw [if_pos (by omega)]
    · simp only [beq_eq_false_iff_ne, ne_eq] at hc
      rw [if_neg (by omega)]
  rintro _ _ ⟨rfl, rfl⟩
  refine S19.ld 1 rfl (x := some (at0 p)) rfl ?_
  refine take_call (kind := 63) (count := 0) (arg := 0) (tx.ext S19.upd) (by decide) fun w20 e20 => ?_
  have htk : takeP (H ++ 10 :: lineW a b word) ((H.length + 1 + (a + ix) : Nat) : Int) 63 0 0 = ((((H.length + 1 + a : Nat) : Int), ((H.length + 1 + (if b = 0 then a + word.length + 1 else a + word.length) : Nat) : Int), 0), 0) := by
    show wordsP _ _ 63 0 = _
    exact words_last ok.1 ok.2 (by omega) (by decide) (by decide) (by rw [show decide ((63 : Int) = 63 ∨ (63 : Int) = 64) = true from rfl, hs2]; exact pick_iW (by omega) (by omega))
  rw [hat, htk]
  refine (S19.ext e20).aggSt 0 rfl rfl rfl rfl fun w21 S21 u21 => S21.lds 0 (spT (((H.length + 1 + a : Nat) : Int), ((H.length + 1 + (if b = 0 then a + word.length + 1 else a + word.length) : Nat) : Int), 0)) rfl ?_
  refine spans_eq rfl fun w22 e22 => sif_false ?_
  have S22 := S21.ext e22
  refine sif_r (fun _ => hK w22 (x10.trans S22.upd)) (fun ha0 => ?_)
  simp only [beq_eq_false_iff_ne, ne_eq] at ha0
  have ha : 0 < a := by omega
  have eF1 : IntKind.wrap .i64 (((H.length + 1 + a : Nat) : Int) - 1) = ((H.length + 1 + (a - 1) : Nat) : Int) := by rw [wrap64 (by omega) (by omega)]; omega
  have e17' : ((s17.len : Nat) : Int) = ((H.length + 1 + 0 : Nat) : Int) := by omega
  rw [eF1, e17']
  refine S22.ld 1 rfl (x := some (at0 p)) rfl (words S22 (i := a - 1) (f := 0) (t := a) (by omega) (by decide) (by decide) (by decide) (by rw [show decide ((61 : Int) = 63 ∨ (61 : Int) = 64) = false from rfl, hs1]; exact pick_ib hw0 (by omega)) fun w23 S23 => ?_)
  refine S23.aggSt 0 rfl rfl rfl rfl fun w24 S24 u24 => S24.lds 0 (spT (((H.length + 1 + 0 : Nat) : Int), ((H.length + 1 + a : Nat) : Int), 0)) rfl ?_
  refine spans_eq rfl fun w25 e25' => sif_false ?_
  have S25 := S24.ext e25'
  refine S25.ld 1 rfl (x := some (at0 p)) rfl (words S25 (i := 0) (f := 0) (t := a + word.length) (by omega) (by decide) (by decide) (by decide) (by rw [show decide ((62 : Int) = 63 ∨ (62 : Int) = 64) = false from rfl, hs1]; exact pick_ab hw0 ha) fun w26 S26 => ?_)
  refine S26.aggSt 0 rfl rfl rfl rfl fun w27 S27 u27 => S27.lds 0 (spT (((H.length + 1 + 0 : Nat) : Int), ((H.length + 1 + (a + word.length) : Nat) : Int), 0)) rfl ?_
  exact spans_eq rfl fun w28 e28 => hK w28 (x10.trans (S27.ext e28).upd)
end
end Go.Proofs.YtabcpghhfeplaaaGreat
set_option linter.unusedSimpArgs false
set_option linter.unusedVariables false
namespace Go.Proofs.YtabcpghhfeplaaaGreat
open Go Go.Vx Go.ChangeShapes Go.WideShapes Go.RowKit
set_option maxRecDepth 100000 in
theorem objectWordMade_lifted (os : Os) (started : os.Started) (H : Type) (enc : TypeId × Value → H) :
    ReturnsInHanded {} Tryz.checked os 12 .any (Rows.objectWordMadeSpec.pre6 enc Tryz.prog Tryz.f12 Rows.objectWordMadeRow.domain false) (Rows.objectWordMadeSpec.post enc Tryz.prog Tryz.f12 false true false false) := by
  refine returnsInHanded_of_change_sized (C := Tryz.checked) Tryz.own started (by kernel_rfl) Tryz.func12
    (ChangeSpec.witness6 (enc := enc) (C := Tryz.checked) false ⟨#[], #[.int .i64 0, .slice none 0 0, .int .i64 0, .slice none 0 0, .int .i64 0, .int .i64 0], []⟩ 8 (by kernel_rfl) (by kernel_rfl) (by kernel_rfl) (by kernel_rfl)) ?_
  intro W base args ds gs before hval0 hW _ hwt0 _
  have hval : ∀ (j : Nat) t v, Tryz.f12.params[j]? = some t → args[j]? = some v → Value.okWide Tryz.prog W .any base t v := hval0
  have hwt : (DataW.weightsEach Tryz.prog (Tryz.f12.params.toList ++ []) (ds ++ gs)).all (· ≤ reachBytes) = true := hwt0
  have hW' := hW
  obtain ⟨p, q, hA0, hV, rfl, hfz, hnd⟩ := hW
  have hA : DataW.TrodAll enc Tryz.prog W 0 (fun _ => true) true Tryz.f12.params.toList args.toList ds p := hA0
  clear hA0 hval0 hwt0
  rw [Tryz.params12] at hA hval hwt
  obtain ⟨rfl, rfl⟩ := trodVars_none hV
  obtain ⟨hn1, hn2, hT⟩ := trodAll_get hA
  obtain ⟨v0, v1, v2, v3, v4, v5, hv⟩ := list_6 args.toList hn1
  obtain rfl : args = #[v0, v1, v2, v3, v4, v5] := by cases args; simp_all
  obtain ⟨d0, d1, d2, d3, d4, d5, rfl⟩ := list_6 ds hn2
  obtain ⟨p0, q0⟩ := hT 0 3 v0 d0 rfl rfl rfl
  obtain ⟨a0, rfl, i0⟩ := arg_int (hval 0 3 v0 rfl rfl) q0 (weigh hwt 0 rfl rfl)
  obtain ⟨p1, q1⟩ := hT 1 26 v1 d1 rfl rfl rfl
  obtain ⟨s1, l1, rfl, h1, n1, j1⟩ := arg_ints (hval 1 26 v1 rfl rfl) q1 (weigh hwt 1 rfl rfl)
  obtain ⟨p2, q2⟩ := hT 2 3 v2 d2 rfl rfl rfl
  obtain ⟨a2, rfl, i2⟩ := arg_int (hval 2 3 v2 rfl rfl) q2 (weigh hwt 2 rfl rfl)
  obtain ⟨p3, q3⟩ := hT 3 26 v3 d3 rfl rfl rfl
  obtain ⟨s3, l3, rfl, h3, n3, j3⟩ := arg_ints (hval 3 26 v3 rfl rfl) q3 (weigh hwt 3 rfl rfl)
  obtain ⟨p4, q4⟩ := hT 4 3 v4 d4 rfl rfl rfl
  obtain ⟨a4, rfl, i4⟩ := arg_int (hval 4 3 v4 rfl rfl) q4 (weigh hwt 4 rfl rfl)
  obtain ⟨p5, q5⟩ := hT 5 3 v5 d5 rfl rfl rfl
  obtain ⟨a5, rfl, i5⟩ := arg_int (hval 5 3 v5 rfl rfl) q5 (weigh hwt 5 rfl rfl)
  have walk := wordMade_walk (enc := a0) h1 (by omega) h3 (by omega) j3 i2 i4 i5 (K := fun r w' => r = true ∧ Ext W w') fun w' e => ⟨rfl, e⟩
  refine walk.mono fun e W' ⟨x, he, hx, hext⟩ => ⟨.bool true, ?_, ?_⟩
  · subst hx; exact he
  · exact post_same hW' rfl rfl u4 rfl Tryz.laidOut (fun t ht => by
      rw [Tryz.params12] at ht
      have ht : t ∈ [3, 26, 3, 26, 3, 3] := ht
      simp only [List.mem_cons, List.not_mem_nil, or_false] at ht
      rcases ht with rfl | rfl | rfl | rfl | rfl | rfl <;> exact recs (by simp)) hext
theorem objectWordMade_holds : Rows.ObjectWordMadeSaid :=
  OpenClaim.holds_of_wide 12 Tryz.f12 rfl rfl rfl rfl rfl rfl rfl ⟨rfl, rfl, rfl, rfl, rfl⟩ rfl rfl rfl rfl rfl (by kernel_rfl) Tryz.func12 (by kernel_rfl)
    (of_decide_eq_true (by kernel_rfl)) (by unfold Func.isWrapper; rw [if_neg (by decide +kernel)]; exact ⟨rfl, rfl⟩)
    (fun os started H enc _ => objectWordMade_lifted os started H enc)
end Go.Proofs.YtabcpghhfeplaaaGreat
