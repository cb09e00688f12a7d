/- YtabcpghhfeplaaaGreatSa4: parts of the proof, put together by program. -/
import Derived.Test.YtabcpghhfeplaaaGreatSa3
set_option linter.unusedVariables false
set_option linter.unusedSimpArgs false
set_option linter.unusedSectionVars false
set_option linter.unusedSimpArgs false
set_option linter.unusedVariables false
set_option maxRecDepth 100000
namespace Go.Proofs.YtabcpghhfeplaaaGreat
open Go Go.Vx Cdc Trx
section
variable {w w' : World} {S : Nat → Prop}
def top (s : Sl) : Nat := match s.a with | some p => p.off + s.len | none => 0
theorem cut_blk {s : Sl} {l h m : Int} {k : Nat} (hk : (Sl.cut s.a l h m 1).blk k) : s.blk k := by
  obtain ⟨p, hp, rfl⟩ := hk
  have hp : (if m.toNat = l.toNat then s.a else s.a.map (·.add (scaled l.toNat 1))) = some p := hp
  split at hp
  · exact ⟨p, hp, rfl⟩
  · cases ha : s.a with
    | none => rw [ha] at hp; cases hp
    | some q =>
      rw [ha] at hp; cases hp
      exact ⟨q, ha, by unfold Addr.add; split <;> rfl⟩
theorem By.at0 {s : Sl} {l : Bs} (h : By w s l) {p : Addr} (hp : s.a = some p) : p.spot = none := by
  rcases h.at_ with ⟨hn, _⟩ | ⟨b, off, c, fr, ha, _⟩
  · rw [hn] at hp; cases hp
  · rw [ha] at hp; cases hp; rfl
theorem By.cut {s : Sl} {b : Bs} (hB : By w s b) {l h m : Int} (h0 : 0 ≤ l) (h1 : l ≤ h) (h2 : h ≤ s.len) (h3 : h ≤ m) (h4 : m ≤ s.cap) : By w (Sl.cut s.a l h m 1) ((b.drop l.toNat).take (h.toNat - l.toNat)) := by
  have := slc_by (K := fun s' w' => By w s' ((b.drop l.toNat).take (h.toNat - l.toNat))) hB h0 h1 h2 h3 h4 fun s' h _ _ => h
  obtain ⟨_, _, h⟩ := this
  exact h
def cutAt (e : Enc) (b : Bs) (n : Nat) : Nat := szs ((ats e b).take n)
theorem cutAt_le (e : Enc) (b : Bs) (n : Nat) : cutAt e b n ≤ b.length := pos_le n
def headPc (e : Enc) (x : Pc) (b : Bs) (n : Nat) : Pc := mkPc e (Sl.cut x.bytes.a 0 (cutAt e b n : Int) (cutAt e b n : Int) 1) x.tag (b.take (cutAt e b n))
def restTag (t : Int) (n : Nat) : Int := if 0 ≤ t then t + n else t
def restPc (e : Enc) (x : Pc) (b : Bs) (n : Nat) : Pc := mkPc e (Sl.cut x.bytes.a (cutAt e b n : Int) (x.bytes.len : Int) (x.bytes.cap : Int) 1) (restTag x.tag (cutAt e b n)) (b.drop (cutAt e b n))
theorem pcut_call {e : Enc} {x : Pc} {b : Bs} {n : Nat} (hB : By w x.bytes b) (hl : b.length < 2 ^ 59) (ht : -1 ≤ x.tag ∧ x.tag < 2 ^ 59) (hn : n < 2 ^ 62) {K : Cells.T c112 × Cells.T c112 × Unit → World → Prop}
    (hK : ∀ w', Ext w w' → K (pcT (headPc e x b n), pcT (restPc e x b n), ()) w') :
    callT Tryz.prog 112 #[pcV x, .int .i64 e.num, .int .i64 (n : Int)] (.tup [(.agg c112), (.agg c112)]) K w := by
  refine F112_calls (a0 := pcT x) ?_
  unfold F112
  have hlen := hB.len
  have hcap := hB.le
  let z : Obj := .cells #[(.slice none 0 0), (.int .i64 (0 : Int)), (.int .i64 (0 : Int)), (.int .i64 (0 : Int)), (.int .i64 (0 : Int)), (.bool false), (.bool false)] 112 (0, 0)
  let q : Obj := .cells (Cells.vals c112 (pcT x)).toArray 112 (0, 0)
  refine (St.start w).newO fun b1 w1 S1 e1 => S1.newO fun b2 w2 S2 e2 => S2.newO fun b3 w3 S3 e3 => ?_
  have hcl := cutAt_le e b n
  refine join_r (fun s w' => s = ((cutAt e b n : Int), ()) ∧ St (fun _ => False) w w' [(b3, z), (b2, z), (b1, q)]) ?_ ?_
  · refine sloop_r (fun s w' => ∃ j, j ≤ n ∧ s = (((n - j : Nat) : Int), (szs ((ats e b).take j) : Int), ()) ∧ St (fun _ => False) w w' [(b3, z), (b2, z), (b1, q)]) (fun s _ => s.1.toNat) ⟨0, Nat.zero_le _, rfl, S3⟩ ?_
    rintro _ w5 ⟨j, hj, rfl, S5⟩
    refine join_r (fun s w' => s = (decide (j < n) && decide (szs ((ats e b).take j) < b.length), ()) ∧ w5 = w') ?_ ?_
    · refine sif_r (fun h => S5.ld 2 rfl (x := x.bytes) rfl ⟨tupb ?_, rfl⟩) (fun h => ⟨tupb ?_, rfl⟩)
      · simp only [decide_eq_true_eq, gt_iff_lt, Bool.and_eq_true] at h ⊢; omega
      · simp only [decide_eq_false_iff_not, gt_iff_lt, Bool.and_eq_true, decide_eq_true_eq] at h ⊢
        constructor
        · intro h; cases h
        · intro h; omega
    rintro _ w6 ⟨rfl, rfl⟩
    refine sif_r (fun h => ?_) (fun h => ?_)
    · simp only [Bool.and_eq_true, decide_eq_true_eq] at h
      obtain ⟨a, m, ha, hm, htk, hs, h1, hle⟩ := pos_step (e := e) (l := b) (j := j) h.2
      refine S5.ld 2 rfl (x := x.bytes) rfl (next_call (hB.ext S5.upd) h.2 fun w7 e7 => ?_)
      rw [hm]
      have ew : IntKind.wrap .i64 ((szs ((ats e b).take j) : Int) + (m : Int)) = ((szs ((ats e b).take (j + 1)) : Nat) : Int) := by
        rw [wrap64 (by omega) (by omega)]; omega
      have ew2 : IntKind.wrap .i64 (((n - j : Nat) : Int) - 1) = ((n - (j + 1) : Nat) : Int) := by
        rw [wrap64 (by omega) (by omega)]; omega
      refine ⟨⟨j + 1, by omega, by dsimp only; rw [ew, ew2], S5.ext e7⟩, ?_⟩
      dsimp only
      rw [ew2]; omega
    · refine ⟨?_, S5⟩
      have : szs ((ats e b).take j) = cutAt e b n := by
        unfold cutAt
        by_cases hjn : j < n
        · have hnl : ¬ szs ((ats e b).take j) < b.length := fun hc => by simp [hjn, hc] at h
          have h1 := pos_end hnl
          have h2 : (ats e b).take n = ats e b := by
            refine List.take_of_length_le ?_
            have : (ats e b).length ≤ j := by
              have := congrArg List.length h1
              rw [List.length_take] at this; omega
            omega
          rw [h1, h2]
        · have : j = n := by omega
          rw [this]
      rw [this]
  · rintro _ w5 ⟨rfl, S5⟩
    refine S5.ld 2 rfl (x := x.tag) rfl ?_
    refine join_r (fun s w' => s = (restTag x.tag (cutAt e b n), ()) ∧ w5 = w') ?_ ?_
    · unfold restTag
      refine sif_r (fun h => ⟨?_, rfl⟩) (fun h => ⟨?_, rfl⟩)
      · simp only [decide_eq_true_eq, ge_iff_le] at h
        rw [if_pos h, wrap64 (by omega) (by omega)]
      · simp only [decide_eq_false_iff_not, ge_iff_le] at h
        rw [if_neg h]
    rintro _ w6 ⟨rfl, rfl⟩
    refine S5.drew fun w7 S7 e7 _ => S7.ld 2 rfl (x := x.bytes) rfl ?_
    have hB7 : By w7 x.bytes b := hB.ext S7.upd
    have c1 := hB7.cut (l := 0) (h := (cutAt e b n : Int)) (m := (cutAt e b n : Int)) (by omega) (by omega) (by omega) (by omega) (by omega)
    have c2 := hB7.cut (l := (cutAt e b n : Int)) (h := (x.bytes.len : Int)) (m := (x.bytes.cap : Int)) (by omega) (by omega) (by omega) (by omega) (by omega)
    have d1 : (b.drop (0 : Int).toNat).take ((cutAt e b n : Int).toNat - (0 : Int).toNat) = b.take (cutAt e b n) := by simp
    have d2 : (b.drop (cutAt e b n : Int).toNat).take ((x.bytes.len : Int).toNat - (cutAt e b n : Int).toNat) = b.drop (cutAt e b n) := by
      rw [Int.toNat_natCast, Int.toNat_natCast]
      exact List.take_of_length_le (by rw [List.length_drop]; omega)
    rw [d1] at c1
    rw [d2] at c2
    refine chk_r (by omega) (S7.ld 2 rfl (x := x.tag) rfl (S7.ld 2 rfl (x := x.bytes) rfl (chk_r (by omega) ?_)))
    refine newpart_call c1 (by rw [List.length_take]; omega) fun w8 e8 => ?_
    have S8 := S7.ext e8
    refine S8.keep 2 rfl (v := .slice x.bytes.a x.bytes.len x.bytes.cap) rfl ?_
    refine newpart_call (c2.ext e8) (by rw [List.length_drop]; omega) fun w9 e9 => ?_
    have S9 := S8.ext e9
    exact S9.aggSt 1 rfl rfl rfl rfl fun w10 S10 u10 => S10.aggSt 0 rfl rfl rfl rfl fun w11 S11 u11 => S11.lds 1 (pcT (headPc e x b n)) rfl (S11.lds 0 (pcT (restPc e x b n)) rfl (hK w11 S11.upd))
end
end Go.Proofs.YtabcpghhfeplaaaGreat
set_option linter.unusedSimpArgs false
set_option linter.unusedVariables false
set_option maxRecDepth 100000
namespace Go.Proofs.YtabcpghhfeplaaaGreat
open Go Go.Vx Cdc Trx
section
variable {w w' : World} {S : Nat → Prop}
abbrev Parts := List (Int × Bs)
def aOf (e : Enc) (M : Parts) : As := M.flatMap fun x => ats e x.2
theorem aOf_cons (e : Enc) (x : Int × Bs) (M : Parts) : aOf e (x :: M) = ats e x.2 ++ aOf e M := rfl
theorem aOf_app (e : Enc) (M N : Parts) : aOf e (M ++ N) = aOf e M ++ aOf e N := by simp [aOf]
theorem aOf_posd (e : Enc) (M : Parts) : Posd (aOf e M) := fun x hx => by
  obtain ⟨y, _, hy⟩ := List.mem_flatMap.1 hx
  exact ats_posd e _ x hy
structure PcIn (w : World) (e : Enc) (x : Pc) (y : Int × Bs) : Prop where
  by_ : By w x.bytes y.2
  sm : x.sm = msr (ats e y.2)
  tag : x.tag = y.1
  ne : y.2 ≠ []
  lo : -1 ≤ y.1
  hi : y.1 + y.2.length ≤ 2 ^ 40
def Its (w : World) (e : Enc) : List Pc → Parts → Prop
  | [], [] => True
  | x :: l, y :: M => PcIn w e x y ∧ Its w e l M
  | _, _ => False
theorem PcIn.upd {e : Enc} {x : Pc} {y : Int × Bs} (h : PcIn w e x y) (u : Upd S w w') (hS : ∀ k, x.bytes.blk k → ¬ S k) : PcIn w' e x y := ⟨h.by_.upd u hS, h.sm, h.tag, h.ne, h.lo, h.hi⟩
theorem Its.upd {e : Enc} : ∀ {l : List Pc} {M : Parts}, Its w e l M → Upd S w w' → (∀ x ∈ l, ∀ k, x.bytes.blk k → ¬ S k) → Its w' e l M
  | [], [], _, _, _ => trivial
  | x :: l, y :: M, h, u, hS => ⟨h.1.upd u (hS x List.mem_cons_self), h.2.upd u fun z hz => hS z (List.mem_cons_of_mem _ hz)⟩
theorem Its.ext {e : Enc} {l : List Pc} {M : Parts} (h : Its w e l M) (x : Ext w w') : Its w' e l M := h.upd x fun _ _ _ _ => id
theorem Its.len {e : Enc} : ∀ {l : List Pc} {M : Parts}, Its w e l M → l.length = M.length
  | [], [], _ => rfl
  | x :: l, y :: M, h => by simp [h.2.len]
theorem Its.app {e : Enc} : ∀ {l : List Pc} {M : Parts} {l' : List Pc} {M' : Parts}, Its w e l M → Its w e l' M' → Its w e (l ++ l') (M ++ M')
  | [], [], _, _, _, h => h
  | x :: l, y :: M, _, _, h, h' => ⟨h.1, h.2.app h'⟩
theorem Its.take {e : Enc} : ∀ {l : List Pc} {M : Parts} (n : Nat), Its w e l M → Its w e (l.take n) (M.take n)
  | [], [], n, _ => by simp [Its]
  | x :: l, y :: M, 0, _ => trivial
  | x :: l, y :: M, n + 1, h => ⟨h.1, h.2.take n⟩
theorem Its.drop {e : Enc} : ∀ {l : List Pc} {M : Parts} (n : Nat), Its w e l M → Its w e (l.drop n) (M.drop n)
  | [], [], n, _ => by simp [Its]
  | x :: l, y :: M, 0, h => h
  | x :: l, y :: M, n + 1, h => h.2.drop n
theorem Its.get {e : Enc} : ∀ {l : List Pc} {M : Parts} (n : Nat) {x : Pc}, Its w e l M → l[n]? = some x → ∃ y, M[n]? = some y ∧ PcIn w e x y
  | x :: l, y :: M, 0, z, h, hz => ⟨y, rfl, by cases hz; exact h.1⟩
  | x :: l, y :: M, n + 1, z, h, hz => h.2.get n (by simpa using hz)
theorem Its.ok {e : Enc} : ∀ {l : List Pc} {M : Parts}, Its w e l M → AllOk l
  | [], [], _ => fun _ h => by cases h
  | x :: l, y :: M, h => AllOk.cons (by rw [h.1.sm]; exact msr_ok (ats_posd e _)) h.2.ok
theorem Its.tot {e : Enc} : ∀ {l : List Pc} {M : Parts}, Its w e l M → tot l = msr (aOf e M)
  | [], [], _ => rfl
  | x :: l, y :: M, h => by
    show x.sm.add (Trx.tot l) = _
    rw [h.1.sm, h.2.tot, aOf_cons, msr_append (ats_posd e _) (aOf_posd e M)]
theorem Its.fine {e : Enc} {l : List Pc} {M : Parts} (h : Its w e l M) (hs : szs (aOf e M) < 2 ^ 59) : Fine l := by
  refine ⟨h.ok, ?_, by rw [h.tot, msr_bytes (aOf_posd e M)]; omega⟩
  have key : ∀ (l : List Pc) (M : Parts), Its w e l M → l.length ≤ szs (aOf e M) := by
    intro l
    induction l with
    | nil => intro M _; simp
    | cons x l ih =>
      intro M h
      cases M with
      | nil => exact h.elim
      | cons y M =>
        have h1 := ih M h.2
        have h2 := szs_all e y.2
        have h3 := List.length_pos_iff.2 h.1.ne
        rw [aOf_cons, szs_append, List.length_cons]; omega
  have := key l M h
  omega
structure Txt (w : World) (p : Nat) (e : Enc) (lim na : Nat) (O : Nat → Prop) (M : Parts) : Prop where
  ex : ∃ (t : Tr) (a : Sl) (ab : Bs), w.heap[p]? = some (.cells #[.int .i64 e.num, .int .i64 (lim : Int), .pointer t.ptr, .slice a.a a.len a.cap] 107 (0, 0)) ∧ t.In w ∧ Its w e t.items M ∧ SlOwn w 0 a 5 1 (bv ab) ∧
    (∀ x ∈ t.items, ∀ k, x.bytes.blk k → a.blk k → top x.bytes ≤ top a) ∧ (∀ x ∈ t.items, ∀ k, x.bytes.blk k → O k) ∧ (∀ k, a.blk k → O k) ∧ a.len ≤ na
  lims : lim ≤ 65536
  sz : szs (aOf e M) ≤ lim
  op : O p
  own : ∀ k, O k → k < w.heap.size
variable {p : Nat} {e : Enc} {lim na : Nat} {O : Nat → Prop} {M : Parts}
theorem Txt.upd (h : Txt w p e lim na O M) (u : Upd S w w') (hS : ∀ k, O k → ¬ S k) (hN : NoTy w S 144) : Txt w' p e lim na O M := by
  obtain ⟨t, a, ab, h1, h2, h3, h4, h5, h6, h7, h8⟩ := h.ex
  exact ⟨⟨t, a, ab, u.get h1 (hS p h.op), h2.ty u hN, h3.upd u fun x hx k hk => hS k (h6 x hx k hk), h4.upd u fun k _ hk => hS k (h7 k hk), h5, h6, h7, h8⟩, h.lims, h.sz, h.op, fun k hk => Nat.lt_of_lt_of_le (h.own k hk) u.size⟩
theorem Txt.ext (h : Txt w p e lim na O M) (x : Ext w w') : Txt w' p e lim na O M := h.upd x (fun _ _ => id) fun _ hk => hk.elim
theorem szs_ge : ∀ {l : As}, Posd l → l.length ≤ szs l
  | [], _ => Nat.zero_le _
  | x :: r, h => by rw [szs_cons, List.length_cons]; have := szs_ge h.tail; have := h x List.mem_cons_self; omega
theorem Txt.few (h : Txt w p e lim na O M) : (aOf e M).length ≤ lim := Nat.le_trans (szs_ge (aOf_posd e M)) h.sz
theorem Txt.tree2 (h : Txt w p e lim na O M) : ∃ t : Tr, t.In w ∧ Its w e t.items M ∧ Fine t.items ∧ (∀ {w'} {K : Addr → Cells.T c105 → World → Prop}, Ext w w' → K (at0 p) (t.ptr, ()) w' → nn (some (at0 p)) (fun q => lds c105 (q.add 2) (K q)) w') ∧ ∀ x ∈ t.items, ∀ k, x.bytes.blk k → O k := by
  obtain ⟨t, a, ab, h1, h2, h3, _, _, h6, _⟩ := h.ex
  refine ⟨t, h2, h3, h3.fine (by have := h.sz; have := h.lims; omega), fun {w'} {K} x hK => nn_some ?_, h6⟩
  rw [addr_add]
  refine lds_r (x.ext_get h1) (x := (t.ptr, ())) (fun i v hv => ?_) hK
  match i, hv with
  | 0, hv => exact hv
  | i + 1, hv => cases hv
theorem Txt.tree (h : Txt w p e lim na O M) : ∃ t : Tr, t.In w ∧ Its w e t.items M ∧ Fine t.items ∧ ∀ {w'} {K : Addr → Cells.T c105 → World → Prop}, Ext w w' → K (at0 p) (t.ptr, ()) w' → nn (some (at0 p)) (fun q => lds c105 (q.add 2) (K q)) w' := by
  obtain ⟨t, h1, h2, h3, h4, _⟩ := h.tree2
  exact ⟨t, h1, h2, h3, h4⟩
theorem Txt.enc (h : Txt w p e lim na O M) {K : Addr → Int → World → Prop} (hK : K (at0 p) e.num w) : nn (some (at0 p)) (fun q => ld (.int .i64) q (K q)) w := by
  obtain ⟨t, a, ab, h1, _⟩ := h.ex
  exact nn_some (ld_r h1 (x := e.num) rfl hK)
theorem len_call (h : Txt w p e lim na O M) {K : Int → World → Prop} (hK : ∀ w', Ext w w' → K (((aOf e M).length : Nat) : Int) w') :
    callT Tryz.prog 40 #[.pointer (some (at0 p))] (.one (.one (.int .i64))) K w := by
  refine F40_calls ?_
  unfold F40
  obtain ⟨t, ht, hi, hf, rd⟩ := h.tree
  refine rd (Ext.refl w) (tsum_call ht fun w1 e1 => ?_)
  have := hK w1 e1
  rw [← msr_atoms (aOf_posd e M), ← hi.tot] at this
  exact this
def Spot (e : Enc) (M : Parts) (at_ i n : Nat) : Prop := (at_ = 0 ∧ i = 0 ∧ n = 0) ∨ ∃ x, M[i]? = some x ∧ 1 ≤ n ∧ n ≤ (ats e x.2).length ∧ at_ = (aOf e (M.take i)).length + n
theorem spot_of (e : Enc) : ∀ (M : Parts) (at_ : Nat), 1 ≤ at_ → at_ ≤ (aOf e M).length → ∃ i n, i < M.length ∧ Spot e M at_ i n ∧ 1 ≤ n ∧ at_ = (aOf e (M.take i)).length + n ∧ at_ ≤ (aOf e (M.take (i + 1))).length ∧ ∀ j, j ≤ i → (aOf e (M.take j)).length < at_
  | [], at_, h1, h2 => by simp [aOf] at h2; omega
  | x :: M, at_, h1, h2 => by
    by_cases hle : at_ ≤ (ats e x.2).length
    · exact ⟨0, at_, by simp, .inr ⟨x, rfl, h1, hle, by simp [aOf]⟩, h1, by simp [aOf], by simpa [aOf] using hle, fun j hj => by
        have : j = 0 := by omega
        subst this; simp [aOf]; omega⟩
    · rw [aOf_cons, List.length_append] at h2
      obtain ⟨i, n, hi, hs, hn, he, hle2, hlow⟩ := spot_of e M (at_ - (ats e x.2).length) (by omega) (by omega)
      refine ⟨i + 1, n, by simpa using hi, ?_, hn, ?_, ?_, ?_⟩
      · rcases hs with ⟨h, _⟩ | ⟨y, hy, g1, g2, g3⟩
        · omega
        · exact .inr ⟨y, by simpa using hy, g1, g2, by rw [List.take_succ_cons, aOf_cons, List.length_append]; omega⟩
      · rw [List.take_succ_cons, aOf_cons, List.length_append]; omega
      · rw [List.take_succ_cons, aOf_cons, List.length_append]; omega
      · intro j hj
        cases j with
        | zero => simp [aOf]; omega
        | succ j => rw [List.take_succ_cons, aOf_cons, List.length_append]; have := hlow j (by omega); omega
theorem tfind_call {at_ : Int} (h : Txt w p e lim na O M) (hle : at_ ≤ ((aOf e M).length : Int)) {K : Int × Int × Unit → World → Prop}
    (hK : ∀ (i n : Nat) w', Spot e M at_.toNat i n → i ≤ M.length → Ext w w' → K ((i : Int), (n : Int), ()) w') : callT Tryz.prog 73 #[.pointer (some (at0 p)), .int .i64 at_] (.tup [(.one (.int .i64)), (.one (.int .i64))]) K w := by
  refine F73_calls ?_
  unfold F73
  have few := h.few; have lim := h.lims
  obtain ⟨t, ht, hi, hf, rd⟩ := h.tree
  refine sif_r (fun h => hK 0 0 w (.inl ⟨?_, rfl, rfl⟩) (Nat.zero_le _) (Ext.refl w)) (fun h => ?_)
  · simp only [decide_eq_true_eq] at h; omega
  simp only [decide_eq_false_iff_not] at h
  obtain ⟨m, rfl⟩ : ∃ m : Nat, at_ = (m : Int) := ⟨at_.toNat, by omega⟩
  obtain ⟨i, n, hil, hs, hn, he, hle2, hlow⟩ := spot_of e M m (by omega) (by omega)
  have hlen := hi.len
  have kk : ∀ j, keyOf 0 (tot (t.items.take j)) = (aOf e (M.take j)).length := fun j => by
    have := (hi.take j).tot
    show (tot (t.items.take j)).atoms = _
    rw [this, msr_atoms (aOf_posd e _)]
  have hfind : findI 0 m t.items = i + 1 := findI_eq (by omega) (by rw [kk]; exact hle2) fun j hj => by rw [kk]; exact hlow j (by omega)
  refine rd (Ext.refl w) (find_call (k := 0) (n := m) (by decide) (by omega) ht hf fun w1 e1 => ?_)
  have few2 := hf.few
  have ew : IntKind.wrap .i64 (((i + 1 : Nat) : Int) - 1) = (i : Int) := by rw [wrap64 (by omega) (by omega)]; omega
  rw [hfind, ew]
  refine rd e1 (upto_call (ht.ext e1) hf (by omega) fun w2 e2 => ?_)
  have ea : ((smT (tot (t.items.take i))).1) = (((aOf e (M.take i)).length : Nat) : Int) := by rw [← kk i]; rfl
  rw [ea]
  have ew2 : IntKind.wrap .i64 ((m : Int) - (((aOf e (M.take i)).length : Nat) : Int)) = (n : Int) := by rw [wrap64 (by omega) (by omega)]; omega
  rw [ew2]
  exact hK i n w2 (by simpa using hs) (by omega) (e1.trans e2)
theorem take_spot {e : Enc} {M : Parts} {at_ i n : Nat} (h : Spot e M at_ i n) : (aOf e M).take at_ = aOf e (M.take i) ++ (match M[i]? with | some x => (ats e x.2).take n | none => []) := by
  rcases h with ⟨rfl, rfl, rfl⟩ | ⟨x, hx, h1, h2, rfl⟩
  · cases M[0]? <;> simp [aOf]
  · rw [hx]
    have hil := (List.getElem?_eq_some_iff.1 hx).1
    have hd : M = M.take i ++ x :: M.drop (i + 1) := by
      have := List.drop_eq_getElem_cons hil
      have hx' : M[i] = x := by rw [List.getElem?_eq_getElem hil] at hx; exact Option.some.inj hx
      rw [hx'] at this
      rw [← this, List.take_append_drop]
    have : aOf e M = aOf e (M.take i) ++ (ats e x.2 ++ aOf e (M.drop (i + 1))) := by
      conv => lhs; rw [hd]
      rw [aOf_app, aOf_cons]
    rw [this, List.take_length_add_append, List.take_append_of_le_length h2]
end
end Go.Proofs.YtabcpghhfeplaaaGreat
set_option linter.unusedSimpArgs false
set_option linter.unusedVariables false
set_option maxRecDepth 100000
namespace Go.Proofs.YtabcpghhfeplaaaGreat
open Go Go.Vx Cdc Trx
section
variable {w w' : World} {S : Nat → Prop} {p : Nat} {e : Enc} {lim na : Nat} {O : Nat → Prop} {M : Parts}
theorem Txt.encCell (h : Txt w p e lim na O M) : w.cell? (at0 p) = some (.int .i64 e.num) := by
  obtain ⟨t, a, ab, h1, _⟩ := h.ex
  exact cell_of h1 rfl
theorem szs_le_at {l : As} (h : Posd l) (n : Nat) : szs (l.take n) ≤ szs l := by
  have := szs_append (l.take n) (l.drop n)
  rw [List.take_append_drop] at this; omega
theorem ahead_call {at_ : Nat} (h : Txt w p e lim na O M) (hle : at_ ≤ (aOf e M).length) {K : Cells.T c110 → World → Prop} (hK : ∀ w', Ext w w' → K (smT (msr ((aOf e M).take at_))) w') :
    callT Tryz.prog 89 #[.pointer (some (at0 p)), .int .i64 (at_ : Int)] (.one (.agg c110)) K w := by
  refine F89_calls ?_
  unfold F89
  have few := h.few; have lims := h.lims; have hsz := h.sz
  obtain ⟨t, ht, hi, hf, rd⟩ := h.tree
  let z1 : Nat → Nat × Obj := fun b => (b, .cells #[(.int .i64 (0 : Int)), (.int .i64 (0 : Int)), (.int .i64 (0 : Int)), (.bool false), (.bool false)] 110 (0, 0))
  refine (St.start w).newO fun b1 w1 S1 e1 => tfind_call (h.ext e1) (by omega) fun i n w2 hs hil e2 => ?_
  rw [Int.toNat_natCast] at hs
  have S2 := S1.ext e2
  have hn : n < 2 ^ 30 := by
    rcases hs with ⟨_, _, hn⟩ | ⟨x, hx, h1, h2, h3⟩
    · omega
    · omega
  have il := hi.len
  have fl := hf.few
  refine rd S2.upd (upto_call (ht.ext S2.upd) hf (by omega) fun w3 e3 => ?_)
  have etk : tot (t.items.take i) = msr (aOf e (M.take i)) := (hi.take i).tot
  rw [etk]
  refine (S2.ext e3).newO fun b6 w4 S4 e4 => S4.aggSt 0 rfl rfl rfl rfl fun w5 S5 u5 => ?_
  refine join_r (fun _ w' => St (fun _ => False) w w' [(b6, .cells (Cells.vals c110 (smT (msr ((aOf e M).take at_)))).toArray 110 (0, 0)), z1 b1]) ?_ ?_
  · refine rd S5.upd (at_call (ht.ext S5.upd) hf (by omega) fun w6 e6 => ?_)
    refine (S5.ext e6).newO fun b12 w7 S7 e7 => S7.aggSt 0 rfl rfl rfl rfl fun w8 S8 u8 => ?_
    have tk := take_spot hs
    cases hx : t.items[i]? with
    | none =>
      have hM : M[i]? = none := List.getElem?_eq_none (by have := List.getElem?_eq_none_iff.1 hx; omega)
      have e0 : atI t.items i = (Pc.zero, false) := by unfold atI; rw [hx]
      rw [e0] at S8 ⊢
      rw [hM] at tk
      refine sif_r (fun h => by cases h) (fun _ => ?_)
      rw [tk, List.append_nil]
      exact S8.tail
    | some x =>
      have e0 : atI t.items i = (x, true) := by unfold atI; rw [hx]
      rw [e0] at S8 ⊢
      obtain ⟨y, hy, hp⟩ := hi.get i hx
      rw [hy] at tk
      have hyl : y.2.length ≤ lim := by
        have h1 : y ∈ M := List.mem_of_getElem? hy
        have h2 : szs (aOf e M) = szs (aOf e (M.take i)) + (y.2.length + szs (aOf e (M.drop (i + 1)))) := by
          have hil := (List.getElem?_eq_some_iff.1 hy).1
          have hd := List.drop_eq_getElem_cons hil
          have hx' : M[i] = y := by rw [List.getElem?_eq_getElem hil] at hy; exact Option.some.inj hy
          rw [hx'] at hd
          conv => lhs; rw [← List.take_append_drop i M, hd]
          rw [aOf_app, aOf_cons, szs_append, szs_append, szs_all]
        omega
      have hlo := hp.lo; have hhi := hp.hi
      refine sif_r (fun _ => ?_) (fun h => by cases h)
      have hT := h
      have S := S8
      refine join_r (fun s W => ∃ b, s.1 = at0 b ∧ W.heap[b]? = some (.cells (Cells.vals c112 (pcT (headPc e x y.2 n))).toArray 112 (0, 0)) ∧ St (fun _ => False) w W [(b12, .cells (Cells.vals c112 (pcT x)).toArray 112 (0, 0)), (b6, .cells (Cells.vals c110 (smT (msr (aOf e (M.take i))))).toArray 110 (0, 0)), z1 b1]) ?_ ?_
      · refine S.drew fun w9 S e9 _ => S.lds 0 (pcT x) rfl ((hT.ext S.upd).enc ?_)
        exact ⟨S.newO fun b18 wx S ex => keep_r (hT.ext S.upd).encCell (S.keeps 1 rfl (⟨S.newO fun b19 wx S ex => keep_r (hT.ext S.upd).encCell (S.keeps 2 rfl (pcut_call (hp.by_.ext S.upd) (by omega) (by rw [hp.tag]; omega) (by omega) fun wx ex => (fun S => S.aggSt 1 rfl rfl rfl rfl fun wx S ux => S.aggSt 0 rfl rfl rfl rfl fun wx S ux => ⟨b18, rfl, S.at_ 1 rfl, S.tail.tail⟩) (S.ext ex))), pcut_call (hp.by_.ext S.upd) (by omega) (by rw [hp.tag]; omega) (by omega) fun wx ex => (fun S => ⟨S.newO fun b22 wx S ex => keep_r (hT.ext S.upd).encCell (S.keeps 2 rfl (S.aggSt 1 rfl rfl rfl rfl fun wx S ux => S.aggSt 0 rfl rfl rfl rfl fun wx S ux => ⟨b18, rfl, S.at_ 1 rfl, S.tail.tail⟩)), trivial⟩) (S.ext ex)⟩)), ⟨S.newO fun b23 wx S ex => keep_r (hT.ext S.upd).encCell (S.keeps 1 rfl (⟨S.newO fun b24 wx S ex => keep_r (hT.ext S.upd).encCell (S.keeps 2 rfl (pcut_call (hp.by_.ext S.upd) (by omega) (by rw [hp.tag]; omega) (by omega) fun wx ex => (fun S => S.aggSt 0 rfl rfl rfl rfl fun wx S ux => S.aggSt 1 rfl rfl rfl rfl fun wx S ux => ⟨b24, rfl, S.at_ 0 rfl, S.tail.tail⟩) (S.ext ex))), pcut_call (hp.by_.ext S.upd) (by omega) (by rw [hp.tag]; omega) (by omega) fun wx ex => (fun S => ⟨S.newO fun b27 wx S ex => keep_r (hT.ext S.upd).encCell (S.keeps 2 rfl (S.aggSt 0 rfl rfl rfl rfl fun wx S ux => S.aggSt 1 rfl rfl rfl rfl fun wx S ux => ⟨b27, rfl, S.at_ 0 rfl, S.tail.tail⟩)), trivial⟩) (S.ext ex)⟩)), pcut_call (hp.by_.ext S.upd) (by omega) (by rw [hp.tag]; omega) (by omega) fun wx ex => (fun S => ⟨S.newO fun b29 wx S ex => keep_r (hT.ext S.upd).encCell (S.keeps 1 rfl (⟨S.newO fun b30 wx S ex => keep_r (hT.ext S.upd).encCell (S.keeps 2 rfl (S.aggSt 1 rfl rfl rfl rfl fun wx S ux => S.aggSt 0 rfl rfl rfl rfl fun wx S ux => ⟨b29, rfl, S.at_ 1 rfl, S.tail.tail⟩)), trivial⟩)), ⟨S.newO fun b31 wx S ex => keep_r (hT.ext S.upd).encCell (S.keeps 1 rfl (⟨S.newO fun b32 wx S ex => keep_r (hT.ext S.upd).encCell (S.keeps 2 rfl (S.aggSt 0 rfl rfl rfl rfl fun wx S ux => S.aggSt 1 rfl rfl rfl rfl fun wx S ux => ⟨b32, rfl, S.at_ 0 rfl, S.tail.tail⟩)), trivial⟩)), trivial⟩⟩) (S.ext ex)⟩⟩
      · rintro ⟨_, _⟩ w9 ⟨b, rfl, hb, S9⟩
        refine S9.lds 1 (smT (msr (aOf e (M.take i)))) rfl ?_
        dsimp only
        rw [addr_add]
        refine lds_r hb (x := smT (headPc e x y.2 n).sm) (fun j v hv => ?_) ?_
        · match j, hv with
          | 0, hv => exact hv
          | 1, hv => exact hv
          | 2, hv => exact hv
          | 3, hv => exact hv
          | 4, hv => exact hv
          | j + 5, hv => cases hv
        have hsm : (headPc e x y.2 n).sm = msr ((ats e y.2).take n) := by
          show msr (ats e (y.2.take (cutAt e y.2 n))) = _
          unfold cutAt
          rw [(ats_cut e n y.2).1]
        rw [hsm]
        have p1 := aOf_posd e (M.take i)
        have p2 := (ats_posd e y.2).take n
        refine add_call (msr_ok p1) (msr_ok p2) ?_ fun w10 e10 => ?_
        · have h3 := szs_le_at (aOf_posd e M) at_
          rw [tk, szs_append] at h3
          rw [msr_bytes p1, msr_bytes p2]
          dsimp only at h3
          omega
        have S10 := S9.ext e10
        rw [← msr_append p1 p2]
        dsimp only at tk
        rw [← tk]
        exact S10.aggSt 1 rfl rfl rfl rfl fun w11 S11 u11 => S11.tail
  · intro _ w6 S6
    exact S6.lds 0 (smT _) rfl (S6.aggSt 1 rfl rfl rfl rfl fun w7 S7 u7 => S7.lds 1 (smT _) rfl (hK w7 S7.upd))
end
end Go.Proofs.YtabcpghhfeplaaaGreat
set_option linter.unusedSimpArgs false
set_option linter.unusedVariables false
set_option maxRecDepth 100000
namespace Go.Proofs.YtabcpghhfeplaaaGreat
open Go Go.Vx Cdc Trx
section
variable {w w' : World} {S : Nat → Prop} {p : Nat} {e : Enc} {lim na : Nat} {O : Nat → Prop} {M : Parts}
theorem Txt.stay (h : Txt w p e lim na O M) (u : Upd S w w') (hS : ∀ k, O k → ¬ S k) (s : Stay w w') : Txt w' p e lim na O M := by
  obtain ⟨t, a, ab, h1, h2, h3, h4, h5, h6, h7, h8⟩ := h.ex
  exact ⟨⟨t, a, ab, u.get h1 (hS p h.op), h2.stay s, h3.upd u fun x hx k hk => hS k (h6 x hx k hk), h4.upd u fun k _ hk => hS k (h7 k hk), h5, h6, h7, h8⟩, h.lims, h.sz, h.op, fun k hk => Nat.lt_of_lt_of_le (h.own k hk) u.size⟩
def tagsP : Int → As → List Int
  | _, [] => []
  | t, x :: r => t :: tagsP (restTag t x.2) r
def tOf (e : Enc) (M : Parts) : List Int := M.flatMap fun x => tagsP x.1 (ats e x.2)
theorem tagsP_len : ∀ (t : Int) (l : As), (tagsP t l).length = l.length
  | _, [] => rfl
  | t, x :: r => congrArg (· + 1) (tagsP_len _ r)
theorem restTag_add (t : Int) (n m : Nat) : restTag (restTag t n) m = restTag t (n + m) := by
  unfold restTag
  by_cases h : 0 ≤ t
  · simp only [if_pos h]; rw [if_pos (by omega)]; omega
  · simp only [if_neg h]
theorem restTag_zero (t : Int) : restTag t 0 = t := by unfold restTag; split <;> omega
theorem tagsP_get : ∀ (t : Int) (l : As) (q : Nat), q < l.length → (tagsP t l)[q]? = some (restTag t (szs (l.take q)))
  | _, [], q, h => absurd h (by simp)
  | t, x :: r, 0, _ => by show some t = _; rw [List.take_zero, szs_nil, restTag_zero]
  | t, x :: r, q + 1, h => by
    show (tagsP (restTag t x.2) r)[q]? = _
    rw [tagsP_get _ r q (by simpa using h), List.take_succ_cons, szs_cons, restTag_add]
theorem tOf_len (e : Enc) : ∀ M : Parts, (tOf e M).length = (aOf e M).length
  | [] => rfl
  | x :: M => by
    show (tagsP x.1 (ats e x.2) ++ tOf e M).length = (ats e x.2 ++ aOf e M).length
    rw [List.length_append, List.length_append, tagsP_len, tOf_len e M]
theorem tOf_app (e : Enc) (M N : Parts) : tOf e (M ++ N) = tOf e M ++ tOf e N := by simp [tOf]
theorem aOf_at {e : Enc} {M : Parts} {i q : Nat} {y : Int × Bs} (hy : M[i]? = some y) (hq : q < (ats e y.2).length) : (aOf e M)[(aOf e (M.take i)).length + q]? = (ats e y.2)[q]? ∧ (tOf e M)[(aOf e (M.take i)).length + q]? = some (restTag y.1 (szs ((ats e y.2).take q))) := by
  have hil := (List.getElem?_eq_some_iff.1 hy).1
  have hx' : M[i] = y := by rw [List.getElem?_eq_getElem hil] at hy; exact Option.some.inj hy
  have hd : M = M.take i ++ y :: M.drop (i + 1) := by
    have := List.drop_eq_getElem_cons hil
    rw [hx'] at this
    rw [← this, List.take_append_drop]
  have e1 : aOf e M = aOf e (M.take i) ++ (ats e y.2 ++ aOf e (M.drop (i + 1))) := by
    conv => lhs; rw [hd]
    rw [aOf_app, aOf_cons]
  have e2 : tOf e M = tOf e (M.take i) ++ (tagsP y.1 (ats e y.2) ++ tOf e (M.drop (i + 1))) := by
    conv => lhs; rw [hd]
    rw [tOf_app]; rfl
  constructor
  · rw [e1, List.getElem?_append_right (by omega), Nat.add_sub_cancel_left, List.getElem?_append_left hq]
  · rw [e2, ← tOf_len, List.getElem?_append_right (by omega), Nat.add_sub_cancel_left, List.getElem?_append_left (by rw [tagsP_len]; exact hq), tagsP_get _ _ _ hq]
theorem _root_.Go.Vx.Upd.get1 {b k : Nat} {o : Obj} (u : Upd (fun k => k = b) w w') (h : w.heap[k]? = some o) (hn : k ≠ b) : w'.heap[k]? = some o := u.get h hn
theorem fr_none {W : World} {b : Nat} {c : Array Value} {t : TypeId} (h : W.heap[b]? = some (.cells c t (0, 0))) (hp : prot (.cells c t (0, 0)) = false) {W' : World} (u : Upd (fun k => k = b) W W') : Stay W W' :=
  Stay.upd u fun k hk o ho => by subst hk; rw [h] at ho; cases ho; exact hp
abbrev Sees (w : World) (e : Enc) (M : Parts) (O U : Nat → Prop) (from_ cnt : Nat) (f : Value) (Inv : Nat → Nat → World → Prop) : Prop :=
  ∀ (N j : Nat) (a : Int) (tag : Int) (W : World) (K : Unit → World → Prop), w.heap.size ≤ N → N ≤ W.heap.size → j < cnt → (atoms (aOf e M))[from_ + j]? = some a → (tOf e M)[from_ + j]? = some tag → Inv N j W →
    (∀ W', Stay W W' → Upd (fun k => U k ∨ N ≤ k) W W' → Inv N (j + 1) W' → K () W') →
    callX Tryz.prog (do let d ← Deferred.ofValue f #[.int .i64 a, .int .i64 tag]; invoke d.target d.args : Sem Next) (.tup []) K W
structure WAt (w : World) (p : Nat) (e : Enc) (lim na : Nat) (O : Nat → Prop) (M : Parts) (its : List Pc) (b1 b2 b7 b8 N n cnt : Nat) (f : Value) (Inv : Nat → Nat → World → Prop) (c : Nat) (W : World) : Prop where
  inv : Inv N (c - n) W
  lt : c - n < cnt
  txt : Txt W p e lim na O M
  its : Its W e its M
  size : N ≤ W.heap.size
  h1 : W.heap[b1]? = some (.cells #[.pointer (some (at0 p))] 25 (0, 0))
  h2 : W.heap[b2]? = some (.cells #[f] 79 (0, 0))
  h7 : W.heap[b7]? = some (.cells #[.int .i64 ((n - c : Nat) : Int)] 3 (0, 0))
  h8 : W.heap[b8]? = some (.cells #[.int .i64 ((cnt - (c - n) : Nat) : Int)] 3 (0, 0))
set_option maxHeartbeats 1000000 in
theorem twalk_call {from_ to_ : Int} {f : Value} (h : Txt w p e lim na O M) (hf1 : isOne f = true) (U : Nat → Prop) (hU : ∀ k, U k → k < w.heap.size ∧ ¬ O k) (Inv : Nat → Nat → World → Prop)
    (h0 : ∀ N W, Ext w W → w.heap.size ≤ N → N ≤ W.heap.size → Inv N 0 W)
    (hs : ∀ (N j : Nat) (W W' : World) (S : Nat → Prop), w.heap.size ≤ N → N ≤ W.heap.size → Inv N j W → Upd S W W' → (∀ k, S k → w.heap.size ≤ k ∧ k < N) → Inv N j W')
    (hsee : Sees w e M O U from_.toNat (min to_.toNat (aOf e M).length - from_.toNat) f Inv) {K : Unit → World → Prop}
    (hK : ∀ N W', w.heap.size ≤ N → N ≤ W'.heap.size → Inv N (min to_.toNat (aOf e M).length - from_.toNat) W' → K () W') :
    callT Tryz.prog 47 #[.pointer (some (at0 p)), .int .i64 from_, .int .i64 to_, f] (.tup []) K w := by
  refine F47_calls ?_
  unfold F47
  have few := h.few; have lims := h.lims; have hsz := h.sz
  obtain ⟨t, ht, hi, hf, rd, hOt⟩ := h.tree2
  have il := hi.len; have fl := hf.few
  refine (St.start w).newO fun b1 w1 S1 e1 => chk_r (by show (isOne f && true) = true; rw [hf1]; rfl) (S1.newO fun b2 w2 S2 e2 => S2.ld 1 rfl (x := some (at0 p)) rfl (len_call (h.ext S2.upd) fun w3 e3 => ?_))
  have S3 := S2.ext e3
  have ef : (if (0 : Int) > from_ then 0 else from_) = ((from_.toNat : Nat) : Int) := by split <;> omega
  rw [ef]
  generalize hcnt : min to_.toNat (aOf e M).length - from_.toNat = cnt at *
  generalize hfr : from_.toNat = fr at *
  refine sif_r (fun hc => ?_) (fun hc => ?_)
  · have : cnt = 0 := by
      simp only [decide_eq_true_eq, ge_iff_le] at hc
      split at hc <;> omega
    subst this
    exact hK _ w3 (Nat.le_refl _) S3.upd.size (h0 _ w3 S3.upd (Nat.le_refl _) S3.upd.size)
  have hto : (if ((aOf e M).length : Int) < to_ then ((aOf e M).length : Int) else to_) = ((fr + cnt : Nat) : Int) := by
    simp only [decide_eq_false_iff_not, ge_iff_le] at hc
    split at hc
    · rename_i hh; rw [if_pos hh]; omega
    · rename_i hh; rw [if_neg hh]; omega
  rw [hto] at hc ⊢
  simp only [decide_eq_false_iff_not, ge_iff_le] at hc
  have hcl : fr + cnt ≤ (aOf e M).length := by omega
  refine S3.ld 1 rfl (x := some (at0 p)) rfl (tfind_call (h.ext S3.upd) (by omega) fun i n w4 hsp hil e4 => ?_)
  rw [Int.toNat_natCast] at hsp
  have S4 := S3.ext e4
  refine S4.newO fun b7 w5 S5 e5 => S5.stC 0 rfl (by decide) fun w6 S6 u6 => S6.newO fun b8 w7 S7 e7 => ?_
  have ew : IntKind.wrap .i64 (((fr + cnt : Nat) : Int) - ((fr : Nat) : Int)) = (cnt : Int) := by rw [wrap64 (by omega) (by omega)]; omega
  rw [ew]
  refine S7.stC 0 rfl (by decide) fun w8 S8 u8 => S8.ld 3 rfl (x := some (at0 p)) rfl (rd S8.upd ?_)
  refine F74_calls (a0 := (t.ptr, ())) ?_
  unfold F74
  refine S8.newO fun c1 w9 S9 e9 => S9.newO fun c2 w10 S10 e10 => ?_
  have hx10 := S10.upd
  have hsz10 := hx10.size
  have o7 := S10.ge 3 rfl
  have o8 := S10.ge 2 rfl
  have o7l := lt_of_heap (S10.at_ 3 rfl)
  have o8l := lt_of_heap (S10.at_ 2 rfl)
  have o1l := lt_of_heap (S10.at_ 5 rfl)
  have o2l := lt_of_heap (S10.at_ 4 rfl)
  have o1 := S10.ge 5 rfl
  have o2 := S10.ge 4 rfl
  have nd : [c2, c1, b8, b7, b2, b1].Nodup := S10.nd
  simp only [List.nodup_cons, List.mem_cons, List.not_mem_nil, or_false, not_or] at nd
  let cj : Nat → Nat := fun j => (aOf e ((M.drop i).take j)).length
  have hbase : fr = (aOf e (M.take i)).length + n := by
    rcases hsp with ⟨h1, h2, h3⟩ | ⟨x, hx, g1, g2, g3⟩
    · subst h2; subst h3; simpa [aOf] using h1
    · exact g3
  have hcj : ∀ j, (aOf e (M.take (i + j))).length = (aOf e (M.take i)).length + cj j := fun j => by
    show _ = _ + (aOf e ((M.drop i).take j)).length
    rw [← List.length_append, ← aOf_app, ← List.take_add]
  have hn : n < 2 ^ 30 := by omega
  have hcnt30 : cnt < 2 ^ 30 := by omega
  let N := w10.heap.size + 2
  let At := WAt w p e lim na O M t.items b1 b2 b7 b8 N n cnt f Inv
  have hO : ∀ k, O k → k < w.heap.size := h.own
  have atE : ∀ {c W W'}, At c W → Ext W W' → At c W' := fun {c W W'} a x => ⟨hs N _ W W' _ (by omega) a.size a.inv x (fun _ h => h.elim), a.lt, a.txt.ext x, a.its.ext x, Nat.le_trans a.size x.size, x.ext_get a.h1, x.ext_get a.h2, x.ext_get a.h7, x.ext_get a.h8⟩
  have atU : ∀ {c W W'} (k0 : Nat), At c W → w.heap.size ≤ k0 → k0 < N → k0 ≠ b1 → k0 ≠ b2 → k0 ≠ b7 → k0 ≠ b8 → Upd (fun k => k = k0) W W' → Stay W W' → At c W' := by
    intro c W W' k0 a g1 g2 n1 n2 n7 n8 u s
    exact ⟨hs N _ W W' _ (by omega) a.size a.inv u (fun k hk => by subst hk; exact ⟨g1, g2⟩), a.lt, a.txt.stay u (fun k hk e => by subst e; have := hO _ hk; omega) s, a.its.upd u (fun x hx k hk e => by subst e; have := hO _ (hOt x hx _ hk); omega),
      Nat.le_trans a.size u.size, u.get a.h1 (fun h => n1 h.symm), u.get a.h2 (fun h => n2 h.symm), u.get a.h7 (fun h => n7 h.symm), u.get a.h8 (fun h => n8 h.symm)⟩
  refine items_range (n := i) (fun _ => rfl) (S10.at_ 1 rfl) (S10.at_ 0 rfl) (ht.ext hx10) hf (by omega) (fun j W => At (cj j) W) (fun ec W => ec = .ret ∧ Inv N cnt W ∧ N ≤ W.heap.size) ?_ (fun j W W' => atE) ?_ ?_ ?_
  · intro W x hW
    have e0 : cj 0 = 0 := rfl
    refine ⟨?_, by rw [e0]; omega, h.ext (hx10.trans x), hi.ext (hx10.trans x), hW, x.ext_get (S10.at_ 5 rfl), x.ext_get (S10.at_ 4 rfl), ?_, ?_⟩
    · rw [e0, Nat.zero_sub]; exact h0 N W (hx10.trans x) (by omega) hW
    · rw [e0]; exact x.ext_get (S10.at_ 3 rfl)
    · rw [e0, Nat.zero_sub]; exact x.ext_get (S10.at_ 2 rfl)
  · intro rc j x R W hj ha hr hRt hRf
    have hxi : t.items[i + j]? = some x := by rw [List.getElem?_drop] at hj; exact hj
    obtain ⟨y, hy, hp⟩ := hi.get (i + j) hxi
    have hcn : cj (j + 1) = cj j + (ats e y.2).length := by
      have h1 := hcj (j + 1)
      rw [show i + (j + 1) = (i + j) + 1 by omega] at h1
      have h2 : M.take (i + j + 1) = M.take (i + j) ++ [y] := by rw [List.take_add_one, hy]; rfl
      rw [h2, aOf_app, List.length_append, hcj j] at h1
      have h3 : (aOf e [y]).length = (ats e y.2).length := by simp [aOf]
      omega
    have hyb : (aOf e (M.take (i + j))).length = (aOf e (M.take i)).length + cj j := hcj j
    have hyl : (aOf e (M.take i)).length + cj j + (ats e y.2).length ≤ (aOf e M).length ∧ y.2.length ≤ lim := by
      have h1 := hcj (j + 1)
      have h2 := congrArg List.length (aOf_app e (M.take (i + (j + 1))) (M.drop (i + (j + 1))))
      rw [List.take_append_drop, List.length_append] at h2
      refine ⟨by omega, ?_⟩
      have h3 : y ∈ M := List.mem_of_getElem? hy
      have h4 : ∀ (M : Parts), y ∈ M → y.2.length ≤ szs (aOf e M) := by
        intro M
        induction M with
        | nil => intro h; cases h
        | cons z M ih =>
          intro h
          rw [aOf_cons, szs_append, szs_all]
          rcases List.mem_cons.1 h with rfl | h
          · omega
          · have := ih h; omega
      have := h4 M h3
      omega
    have hlo := hp.lo; have hhi := hp.hi
    refine (St.start W).newAgg rfl rfl rfl fun b18 W1 T1 x1 => ⟨x1.ext_get hr, ?_⟩
    have o18 := T1.ge 0 rfl
    have a1 := atE ha x1
    have r1 := x1.ext_get hr
    have NW : N ≤ W.heap.size := ha.size
    have lN : w10.heap.size + 1 < N := by show _ < w10.heap.size + 2; omega
    have NN : w.heap.size ≤ N := by omega
    have b7N : b7 < N := by omega
    have b8N : b8 < N := by omega
    obtain ⟨u2, r2⟩ := upd_putObj (o' := .loop (rc .busy none)) r1
    have s2 : Stay W1 (W1.putObj (w10.heap.size + 1) (.loop (rc .busy none))) := Stay.upd u2 fun k hk o ho => by subst hk; rw [r1] at ho; cases ho; rfl
    have a2 := atU (w10.heap.size + 1) a1 (by omega) lN (by omega) (by omega) (by omega) (by omega) u2 s2
    have b2' := u2.get1 (T1.at_ 0 rfl) (by omega)
    have s02 := (Stay.ext x1).trans s2
    generalize W1.putObj (w10.heap.size + 1) (.loop (rc .busy none)) = W2 at *
    let Bd : Nat → World → Prop := fun q W' => At (cj j + q) W' ∧ Stay W W' ∧ W'.heap[w10.heap.size + 1]? = some (.loop (rc .busy none)) ∧ W'.heap[b18]? = some (.cells (Cells.vals c112 (pcT x)).toArray 112 (0, 0))
    have bdE : ∀ {q W' W''}, Bd q W' → Ext W' W'' → Bd q W'' := fun {q W' W''} b x => ⟨atE b.1 x, b.2.1.trans (Stay.ext x), x.ext_get b.2.2.1, x.ext_get b.2.2.2⟩
    refine sloop_r (fun s W' => ∃ q, q ≤ (ats e y.2).length ∧ s = (((szs ((ats e y.2).take q) : Nat) : Int), ()) ∧ Bd q W') (fun s _ => ((y.2.length : Int) - s.1).toNat) ⟨0, Nat.zero_le _, rfl, a2, s02, r2, b2'⟩ ?_
    rintro _ W3 ⟨q, hq, rfl, b3⟩
    have hbl := hp.by_.len
    refine ld_r b3.2.2.2 (x := x.bytes) rfl (sif_r (fun hlt => ?_) (fun hge => ?_))
    · simp only [decide_eq_true_eq] at hlt
      obtain ⟨a, m, hqa, hnx, htk, hss, hm1, hsl⟩ := pos_step (e := e) (l := y.2) (j := q) (by omega)
      have hql : q < (ats e y.2).length := (List.getElem?_eq_some_iff.1 hqa).1
      refine drew_r fun W4 x4 _ => ?_
      have b4 := bdE b3 x4
      have hsy : szs ((ats e y.2).take q) ≤ y.2.length := pos_le q
      have hB4 : By W4 x.bytes y.2 := by
        obtain ⟨y', hy', hp'⟩ := b4.1.its.get (i + j) hxi
        rw [hy] at hy'; cases hy'
        exact hp'.by_
      refine ld_r b4.1.h1 (x := some (at0 p)) rfl (b4.1.txt.enc (ld_r b4.2.2.2 (x := x.bytes) rfl (next_call hB4 (by omega) fun W5 x5 => ?_)))
      rw [hnx]
      have b5 := bdE b4 x5
      have ewa : IntKind.wrap .i64 (((szs ((ats e y.2).take q) : Nat) : Int) + (m : Int)) = ((szs ((ats e y.2).take (q + 1)) : Nat) : Int) := by
        rw [wrap64 (by omega) (by omega)]; omega
      refine join_r (fun _ W' => Bd (q + 1) W') ?_ ?_
      · refine ld_r b5.1.h7 (x := ((n - (cj j + q) : Nat) : Int)) rfl (sif_r (fun hg => ?_) (fun hg => ?_))
        · simp only [decide_eq_true_eq, gt_iff_lt] at hg
          refine ld_r b5.1.h7 (x := ((n - (cj j + q) : Nat) : Int)) rfl (stC_r b5.1.h7 Nat.one_pos fun W6 u6 g6 _ => ?_)
          have s6 : Stay W5 W6 := fr_none b5.1.h7 rfl u6
          have e6 : IntKind.wrap .i64 (((n - (cj j + q) : Nat) : Int) - 1) = ((n - (cj j + (q + 1)) : Nat) : Int) := by rw [wrap64 (by omega) (by omega)]; omega
          rw [e6] at g6
          have a5 := b5.1
          have ec : cj j + q - n = cj j + (q + 1) - n := by omega
          refine ⟨⟨?_, by have := a5.lt; omega, a5.txt.stay u6 (fun k hk e => by subst e; have := hO _ hk; omega) s6, a5.its.upd u6 (fun x hx k hk e => by subst e; have := hO _ (hOt x hx _ hk); omega), Nat.le_trans a5.size u6.size, u6.get1 a5.h1 (by omega), u6.get1 a5.h2 (by omega), g6, ?_⟩, b5.2.1.trans s6, u6.get1 b5.2.2.1 (by omega), u6.get1 b5.2.2.2 (by omega)⟩
          · rw [← ec]; exact hs N _ W5 W6 _ NN a5.size a5.inv u6 (fun k hk => by subst hk; exact ⟨o7, b7N⟩)
          · rw [← ec]; exact u6.get1 a5.h8 (by omega)
        · simp only [decide_eq_false_iff_not, gt_iff_lt] at hg
          have hnc : n ≤ cj j + q := by omega
          have hlt5 := b5.1.lt
          obtain ⟨ga, gt⟩ := aOf_at (e := e) hy hql
          have eix : (aOf e (M.take (i + j))).length + q = fr + (cj j + q - n) := by omega
          rw [eix] at ga gt
          have ga' : (atoms (aOf e M))[fr + (cj j + q - n)]? = some a := by
            show ((aOf e M).map (·.1))[_]? = _
            rw [List.getElem?_map, ga, hqa]; rfl
          let Td : World → Prop := fun W' => Inv N (cj j + q - n + 1) W' ∧ Txt W' p e lim na O M ∧ Its W' e t.items M ∧ N ≤ W'.heap.size ∧ W'.heap[b1]? = some (.cells #[.pointer (some (at0 p))] 25 (0, 0)) ∧ W'.heap[b2]? = some (.cells #[f] 79 (0, 0)) ∧
            W'.heap[b7]? = some (.cells #[.int .i64 ((n - (cj j + q) : Nat) : Int)] 3 (0, 0)) ∧ W'.heap[b8]? = some (.cells #[.int .i64 ((cnt - (cj j + q - n) : Nat) : Int)] 3 (0, 0)) ∧
            Stay W W' ∧ W'.heap[w10.heap.size + 1]? = some (.loop (rc .busy none)) ∧ W'.heap[b18]? = some (.cells (Cells.vals c112 (pcT x)).toArray 112 (0, 0))
          have told : ∀ W', Stay W5 W' → Upd (fun k => U k ∨ N ≤ k) W5 W' → Inv N (cj j + q - n + 1) W' → Td W' := by
            intro W' s u iv
            have own : ∀ k, O k → ¬ (U k ∨ N ≤ k) := fun k hk hh => hh.elim (fun hu => (hU k hu).2 hk) (fun hn => by have := hO k hk; omega)
            have mine : ∀ k, w.heap.size ≤ k → k < N → ¬ (U k ∨ N ≤ k) := fun k g1 g2 hh => hh.elim (fun hu => by have := (hU k hu).1; omega) (fun hn => by omega)
            have a5 := b5.1
            exact ⟨iv, a5.txt.stay u own s, a5.its.upd u (fun x hx k hk => own k (hOt x hx k hk)), Nat.le_trans a5.size u.size, u.get a5.h1 (mine _ o1 (by omega)), u.get a5.h2 (mine _ o2 (by omega)), u.get a5.h7 (mine _ o7 b7N), u.get a5.h8 (mine _ o8 b8N), b5.2.1.trans s, u.get b5.2.2.1 (mine _ (by omega) lN), s.at_ _ _ b5.2.2.2 rfl⟩
          refine join_r (fun _ W' => Td W') ?_ ?_
          · refine ld_r b5.2.2.2 (x := x.tag) rfl (sif_r (fun hneg => ?_) (fun hneg => ?_))
            · simp only [decide_eq_true_eq] at hneg
              have htag : restTag y.1 (szs ((ats e y.2).take q)) = -1 := by
                have := hp.tag
                unfold restTag; rw [if_neg (by omega)]; omega
              rw [htag] at gt
              exact ld_r b5.1.h2 (x := f) rfl (hsee N (cj j + q - n) a (-1) W5 _ NN b5.1.size hlt5 ga' gt b5.1.inv told)
            · simp only [decide_eq_false_iff_not] at hneg
              have htag : restTag y.1 (szs ((ats e y.2).take q)) = x.tag + ((szs ((ats e y.2).take q) : Nat) : Int) := by
                have := hp.tag
                unfold restTag; rw [if_pos (by omega)]; omega
              rw [htag] at gt
              refine ld_r b5.1.h2 (x := f) rfl (ld_r b5.2.2.2 (x := x.tag) rfl ?_)
              rw [wrap64 (by omega) (by have := hp.tag; omega)]
              exact hsee N (cj j + q - n) a _ W5 _ NN b5.1.size hlt5 ga' gt b5.1.inv told
          · rintro _ W6 ⟨iv, tx, is, sz, g1, g2, g7, g8, st, gl, g18⟩
            refine ld_r g8 (x := ((cnt - (cj j + q - n) : Nat) : Int)) rfl (stC_r g8 Nat.one_pos fun W7 u7 k7 z7 => ?_)
            have s7 : Stay W6 W7 := fr_none g8 rfl u7
            have e7 : IntKind.wrap .i64 (((cnt - (cj j + q - n) : Nat) : Int) - 1) = ((cnt - (cj j + (q + 1) - n) : Nat) : Int) := by rw [wrap64 (by omega) (by omega)]; omega
            rw [e7] at k7
            have ec : cj j + q - n + 1 = cj j + (q + 1) - n := by omega
            have iv7 : Inv N (cj j + (q + 1) - n) W7 := by
              rw [← ec]; exact hs N _ W6 W7 _ NN sz iv u7 (fun k hk => by subst hk; exact ⟨o8, b8N⟩)
            have en7 : n - (cj j + q) = n - (cj j + (q + 1)) := by omega
            rw [en7] at g7
            have st7 := st.trans s7
            have gl7 := u7.get1 gl (by omega)
            refine ld_r k7 (x := ((cnt - (cj j + (q + 1) - n) : Nat) : Int)) rfl (sif_r (fun hz => ?_) (fun hz => ?_))
            · simp only [beq_iff_eq] at hz
              obtain ⟨u8, r8⟩ := upd_putObj (o' := .loop (rc .done (some .ret))) gl7
              refine ⟨⟨_, _, gl7⟩, hRf .ret _ (st7.trans (Stay.upd u8 fun k hk o ho => by subst hk; rw [gl7] at ho; cases ho; rfl)) r8 ⟨rfl, ?_, ?_⟩⟩
              · have : cnt = cj j + (q + 1) - n := by omega
                conv => lhs; rw [this]
                exact hs N _ W7 _ _ NN (Nat.le_trans sz u7.size) iv7 u8 (fun k hk => by subst hk; exact ⟨by omega, lN⟩)
              · exact Nat.le_trans (Nat.le_trans sz u7.size) u8.size
            · simp only [beq_eq_false_iff_ne] at hz
              exact ⟨⟨iv7, by omega, tx.stay u7 (fun k hk e => by subst e; have := hO _ hk; omega) s7, is.upd u7 (fun x hx k hk e => by subst e; have := hO _ (hOt x hx _ hk); omega), Nat.le_trans sz u7.size, u7.get1 g1 (by omega), u7.get1 g2 (by omega), u7.get1 g7 (by omega), k7⟩, st7, gl7, u7.get1 g18 (by omega)⟩
      · intro _ W6 b6
        refine ⟨⟨q + 1, by omega, by dsimp only; rw [ewa], b6⟩, ?_⟩
        dsimp only
        rw [ewa]; omega
    · simp only [decide_eq_false_iff_not] at hge
      have hqe := pos_end (e := e) (l := y.2) (j := q) (by omega)
      have hql : q = (ats e y.2).length := by
        have := congrArg List.length hqe
        rw [List.length_take] at this; omega
      obtain ⟨u8, r8⟩ := upd_putObj (o' := .loop (rc .ready none)) b3.2.2.1
      have s8 : Stay W3 (W3.putObj (w10.heap.size + 1) (.loop (rc .ready none))) := Stay.upd u8 fun k hk o ho => by subst hk; rw [b3.2.2.1] at ho; cases ho; rfl
      refine ⟨⟨_, _, b3.2.2.1⟩, hRt _ (b3.2.1.trans s8) ?_ r8⟩
      rw [hcn, ← hql]
      exact atU (w10.heap.size + 1) b3.1 (by omega) lN (by omega) (by omega) (by omega) (by omega) u8 s8
  · intro W W' ha _ _
    exfalso
    have h1 := hcj (t.items.length - i)
    have h2 : M.take (i + (t.items.length - i)) = M := List.take_of_length_le (by omega)
    rw [h2] at h1
    have := ha.lt
    omega
  · rintro ec W W' ⟨rfl, iv, sz⟩ hD u
    obtain ⟨u2, _⟩ := upd_putObj (o' := .deferred none) hD
    refine ⟨hD, hK N _ (by omega) (Nat.le_trans (Nat.le_trans sz u.size) u2.size) ?_⟩
    have i1 := hs N _ W W' _ (by omega) sz iv u (fun k hk => by subst hk; exact ⟨by omega, by show _ < w10.heap.size + 2; omega⟩)
    exact hs N _ W' _ _ (by omega) (Nat.le_trans sz u.size) i1 u2 (fun k hk => by subst hk; exact ⟨by omega, by show _ < w10.heap.size + 2; omega⟩)
end
end Go.Proofs.YtabcpghhfeplaaaGreat
set_option linter.unusedSimpArgs false
set_option linter.unusedVariables false
set_option maxRecDepth 100000
namespace Go.Proofs.YtabcpghhfeplaaaGreat
open Go Go.Vx Cdc Trx
section
variable {w w' : World} {S : Nat → Prop} {p : Nat} {e : Enc} {lim na : Nat} {O : Nat → Prop} {M : Parts}
abbrev iv (l : List Int) : List Value := l.map (Value.int .i64)
def sub (A : List Int) (from_ to_ : Int) : List Int := (A.drop from_.toNat).take (to_.toNat - from_.toNat)
theorem sub_take (A : List Int) (from_ to_ : Int) : sub A from_ to_ = (A.drop from_.toNat).take (min to_.toNat A.length - from_.toNat) := by
  unfold sub
  rw [List.take_eq_take_iff, List.length_drop]; omega
theorem eInts : ElemOk Tryz.prog 26 3 1 8 := ElemOk.of (z := .int .i64 0) i26_ok i3_ok rfl rfl rfl (by decide)
theorem iv_box {b : Nat} {a : Int} (h : w.heap[b]? = some (.cells #[.int .i64 a] 3 (0, 0))) : SlX w ⟨some (at0 b), 1, 1⟩ 1 [.int .i64 a] := (SlIn.of_box h (n := 1) (sz := 1) rfl).x
theorem atoms_call {from_ to_ : Int} (h : Txt w p e lim na O M) {K : Sl → World → Prop} (hK : ∀ s w', SlOwn w' w.heap.size s 3 1 (iv (sub (atoms (aOf e M)) from_ to_)) → Ext w w' → K s w') :
    callT Tryz.prog 23 #[.pointer (some (at0 p)), .int .i64 from_, .int .i64 to_] (.one (.one .sl)) K w := by
  refine F23_calls ?_
  unfold F23
  have few := h.few; have lims := h.lims
  have hal : (atoms (aOf e M)).length = (aOf e M).length := List.length_map _
  rw [sub_take, hal] at hK
  generalize hcnt : min to_.toNat (aOf e M).length - from_.toNat = cnt at *
  have hcl : cnt ≤ 65536 := by omega
  refine newO_r fun b1 w1 e1 n1 hb1 hz1 => ?_
  have h1 := h.ext e1
  refine twalk_call h1 rfl (fun k => k = b1) (fun k hk => ⟨by omega, fun ho => by have := h.own k ho; omega⟩)
    (fun N j W => ∃ s, W.heap[b1]? = some (.cells #[.slice s.a s.len s.cap] 26 (0, 0)) ∧ SlOwn W N s 3 1 (iv (((atoms (aOf e M)).drop from_.toNat).take j)) ∧ Upd (fun k => k = b1) w1 W) ?_ ?_ ?_ ?_
  · intro N W x hN hW
    exact ⟨⟨none, 0, 0⟩, x.ext_get n1, by rw [List.take_zero]; exact SlOwn.nil W N _ _, x.mono fun _ _ h => h.elim⟩
  · rintro N j W W' S hN hW ⟨s, g1, g2, g3⟩ u hS
    refine ⟨s, u.get g1 (fun hb => by have := (hS _ hb).1; omega), g2.upd u (fun k hk _ hs => by have := (hS _ hs).2; omega), g3.new u fun k hk hs => by have := (hS _ hs).1; omega⟩
  · rintro N j a tag W K' hN hW hj ha _ ⟨s, g1, g2, g3⟩ hK'
    have g2l := g2.len1
    rw [List.length_map, List.length_take, List.length_drop] at g2l
    refine func_x (caps := #[.pointer (some (at0 b1))]) (by kernel_rfl) ?_
    refine F48_calls ?_
    unfold F48
    refine ld_r g1 (x := s) rfl (newO_r fun b2 w2 e2 n2 hb2 hz2 => ?_)
    refine append_rx eInts eInts.ts_ (x := ⟨some (at0 b2), 1, 1⟩) (g2.ext e2) (iv_box n2) (fun v hv => by rw [List.mem_singleton.1 hv]; rfl) (by
      show (s.len + 1 + (s.len + 1) / 4 + 512) * 8 ≤ 2 ^ 48
      omega) (by omega) fun s' w3 o3 l3 u3 b3 => ?_
    have k3 : ∀ k, s.blk k → N ≤ k := fun k hk => g2.blk_ge hk
    have g13 : w3.heap[b1]? = some (.cells #[.slice s.a s.len s.cap] 26 (0, 0)) := u3.get (e2.ext_get g1) (fun hb => by have := k3 _ hb; omega)
    refine stC_r g13 Nat.one_pos fun w4 u4 n4 _ => ?_
    have o4 : SlOwn w4 N s' 3 1 _ := o3.box g13 (by decide) u4
    have e4 : iv (((atoms (aOf e M)).drop from_.toNat).take j) ++ [.int .i64 a] = iv (((atoms (aOf e M)).drop from_.toNat).take (j + 1)) := by
      rw [List.take_add_one, List.getElem?_drop, ha]
      simp
    rw [e4] at o4
    have s3 : Stay w2 w3 := Stay.upd u3 fun k hk o ho => by
      obtain ⟨c, fr, hc⟩ := (g2.ext e2).in.blk_cells hk
      rw [ho] at hc; cases hc; rfl
    refine hK' w4 (((Stay.ext e2).trans s3).trans (fr_none g13 rfl u4)) ?_ ⟨s', n4, o4, ?_⟩
    · refine ((e2.mono fun _ _ h => h.elim).trans (u3.mono fun k _ hk => .inr (k3 k hk))).trans (u4.mono fun k _ hk => .inl hk)
    · exact (g3.new (e2.mono fun _ _ h => h.elim) (S' := fun _ => False) (fun _ _ h => h.elim)).new (u3.mono fun k _ hk => k3 k hk) (S' := fun k => N ≤ k) (fun k hk hn => by omega) |>.trans u4
  · rintro N W hN hW ⟨s, g1, g2, g3⟩
    rw [hcnt] at g2
    refine ld_r g1 (x := s) rfl (hK s W (g2.mono (by omega)) ?_)
    exact e1.step g3 fun k hk => by omega
end
end Go.Proofs.YtabcpghhfeplaaaGreat
set_option linter.unusedSimpArgs false
set_option linter.unusedVariables false
namespace Go.Vx
open Go Go.ChangeShapes
theorem cell_spot {w : World} {a : Addr} {v : Value} (h : w.cell? a = some v) : a.spot = none ∧ ∃ c t fr, w.heap[a.block]? = some (.cells c t fr) ∧ c[a.off]? = some v := by
  unfold World.cell? at h
  split at h
  · rename_i c t fr hh
    split at h
    · cases h
    · rename_i hs
      exact ⟨by cases hsp : a.spot with | none => rfl | some _ => rw [hsp] at hs; exact absurd rfl hs, c, t, fr, hh, h⟩
  · cases h
theorem add_spot (a : Addr) (n : Nat) (h : a.spot = none) : a.add n = ⟨a.block, a.off + n, none⟩ := by
  obtain ⟨b, o, s⟩ := a
  simp only at h
  subst h
  exact addr_add b o n
theorem cells_get {w : World} {base : Nat} {a : Addr} {n : Nat} {r : List Value} (h : w.cells? base a n = some r) : r.length = n ∧ ∀ j, j < n → w.cell? (a.add j) = r[j]? := by
  unfold World.cells? at h
  split at h
  · have hl := mapM_some_length h
    rw [List.length_range] at hl
    refine ⟨hl, fun j hj => ?_⟩
    exact mapM_some_get h j j (by simp [hj])
  · cases h
section
variable {H : Type} {enc : TypeId × Value → H} {P : Program} {W : World} {base fuel : Nat} {held : Bool}
theorem weights_all {e : TypeId} {d : DataW H} {n : Nat} (hn : n ∈ d.weights P e) : ∀ l : List (DataW H), d ∈ l → n ∈ DataW.weightsAll P e l
  | [], h => by cases h
  | x :: r, h => by
    simp only [DataW.weightsAll, List.mem_append]
    rcases List.mem_cons.1 h with rfl | h
    · exact .inl hn
    · exact .inr (weights_all hn r h)
theorem open_rows {t e : TypeId} {sz : Nat} {cs : List Value} {x : DataW H × List MemPlace} (ht : P.underlying t = some (.slice e)) (hsz : P.cellsOf e = sz) (hpos : 0 < sz)
    (h : DataW.trod enc P W base (fun _ => true) held fuel t cs = some x) (hw : ∀ n ∈ x.1.weights P t, n ≤ reachBytes) :
    ∃ (s : Sl) (rows : List (List Value)), cs = [.slice s.a s.len s.cap] ∧ SlX W s sz rows.flatten ∧ rows.length = s.len ∧ s.len * P.bytesOf e ≤ reachBytes ∧
      ∀ r ∈ rows, r.length = sz ∧ ∃ n y, DataW.trod enc P W base (fun _ => true) held n e r = some y ∧ ∀ k ∈ y.1.weights P e, k ≤ reachBytes := by
  rcases DataW.trod_slice ht h with ⟨rfl, rfl⟩ | ⟨a, len, cap, elems, rest, n, _, rfl, rfl, hb, hl, hm, hlen, hel, hsp, _⟩
  · exact ⟨⟨none, 0, 0⟩, [], rfl, ⟨.inl ⟨rfl, rfl⟩⟩, rfl, by simp, fun r hr => by cases hr⟩
  obtain ⟨hrl, hre⟩ := hsp rfl
  subst hsz
  have each : ∀ i, i < len → ∃ r y, W.cells? base (a.add (i * P.cellsOf e)) (P.cellsOf e) = some r ∧ elems[i]? = some y ∧ DataW.trod enc P W base (fun _ => true) held n e r = some y := by
    intro i hi
    have h1 := hel i hi
    rw [List.getElem?_eq_getElem (by omega)] at h1
    obtain ⟨r, h2, h3⟩ := Option.bind_eq_some_iff.1 h1
    exact ⟨r, _, h2, List.getElem?_eq_getElem (by omega), h3⟩
  have wn : (elems.length + rest.length) * P.bytesOf e ≤ reachBytes := by
    have := hw ((elems.length + rest.length) * P.bytesOf e) (by simp [DataW.weights, ht])
    exact this
  refine ⟨⟨some a, len, cap⟩, (List.range len).map fun i => (W.cells? base (a.add (i * P.cellsOf e)) (P.cellsOf e)).getD [], rfl, ?_, by simp, ?_, ?_⟩
  · by_cases h0 : len = 0
    · subst h0; exact ⟨.inl ⟨rfl, rfl⟩⟩
    have last : ∃ v, W.cell? ((a.add ((cap - 1) * P.cellsOf e)).add (P.cellsOf e - 1)) = some v := by
      have fin : ∀ r, W.cells? base (a.add ((cap - 1) * P.cellsOf e)) (P.cellsOf e) = some r → ∃ v, W.cell? ((a.add ((cap - 1) * P.cellsOf e)).add (P.cellsOf e - 1)) = some v := by
        intro r hr
        obtain ⟨g1, g2⟩ := cells_get hr
        rw [g2 _ (by omega)]
        exact ⟨_, List.getElem?_eq_getElem (by omega)⟩
      by_cases hcl : cap - 1 < len
      · obtain ⟨r, _, h1, _⟩ := each (cap - 1) hcl
        exact fin r h1
      · have h1 := hre (cap - 1 - len) (by omega)
        rw [show len + (cap - 1 - len) = cap - 1 by omega] at h1
        rw [List.getElem?_eq_getElem (by omega)] at h1
        obtain ⟨r, h2, _⟩ := Option.bind_eq_some_iff.1 h1
        exact fin r h2
    obtain ⟨v, hv⟩ := last
    have hspot : a.spot = none := by
      obtain ⟨r, _, h1, _⟩ := each 0 (by omega)
      obtain ⟨g1, g2⟩ := cells_get h1
      have h2 := g2 0 (by omega)
      rw [Nat.zero_mul, List.getElem?_eq_getElem (by omega)] at h2
      exact (cell_spot h2).1
    rw [add_spot a _ hspot, addr_add] at hv
    obtain ⟨_, c, tt, fr, hh, hc⟩ := cell_spot hv
    simp only at hh hc
    have hlast := (Array.getElem?_eq_some_iff.1 hc).1
    have hcap : (cap - 1) * P.cellsOf e + P.cellsOf e = cap * P.cellsOf e := by rw [← Nat.succ_mul]; congr 1; omega
    have rowlen : ∀ i, i < len → ((W.cells? base (a.add (i * P.cellsOf e)) (P.cellsOf e)).getD []).length = P.cellsOf e := by
      intro i hi
      obtain ⟨r, _, h1, _⟩ := each i hi
      rw [h1]; exact (cells_get h1).1
    refine ⟨.inr ⟨tt, ?_, hl, .inr ⟨a.block, a.off, c, fr, ?_, hh, by simp only; omega, ?_⟩⟩⟩
    · have key : ∀ (k : Nat), k ≤ len → (((List.range k).map fun i => (W.cells? base (a.add (i * P.cellsOf e)) (P.cellsOf e)).getD []).flatten).length = k * P.cellsOf e := by
        intro k
        induction k with
        | zero => intro _; simp
        | succ k ih =>
          intro hk
          rw [List.range_succ, List.map_append, List.flatten_append, List.length_append, ih (by omega), Nat.succ_mul]
          simp [rowlen k (by omega)]
      exact key len (Nat.le_refl _)
    · obtain ⟨b, o, s⟩ := a
      simp only at hspot
      subst hspot
      rfl
    · have key : ∀ (k : Nat), k ≤ len → ∀ i v, (((List.range k).map fun i => (W.cells? base (a.add (i * P.cellsOf e)) (P.cellsOf e)).getD []).flatten)[i]? = some v → c[a.off + i]? = some v := by
        intro k
        induction k with
        | zero => intro _ i v hi; simp at hi
        | succ k ih =>
          intro hk i v hi
          have hkl : (((List.range k).map fun i => (W.cells? base (a.add (i * P.cellsOf e)) (P.cellsOf e)).getD []).flatten).length = k * P.cellsOf e := by
            have key2 : ∀ (k : Nat), k ≤ len → (((List.range k).map fun i => (W.cells? base (a.add (i * P.cellsOf e)) (P.cellsOf e)).getD []).flatten).length = k * P.cellsOf e := by
              intro k
              induction k with
              | zero => intro _; simp
              | succ k ih =>
                intro hk
                rw [List.range_succ, List.map_append, List.flatten_append, List.length_append, ih (by omega), Nat.succ_mul]
                simp [rowlen k (by omega)]
            exact key2 k (by omega)
          rw [List.range_succ, List.map_append, List.flatten_append] at hi
          by_cases hik : i < k * P.cellsOf e
          · rw [List.getElem?_append_left (by omega)] at hi
            exact ih (by omega) i v hi
          · rw [List.getElem?_append_right (by omega), hkl] at hi
            simp only [List.map_cons, List.map_nil, List.flatten_cons, List.flatten_nil, List.append_nil] at hi
            obtain ⟨r, _, h1, _⟩ := each k (by omega)
            rw [h1] at hi
            simp only [Option.getD_some] at hi
            obtain ⟨g1, g2⟩ := cells_get h1
            have hj := (List.getElem?_eq_some_iff.1 hi).1
            have := g2 (i - k * P.cellsOf e) (by omega)
            rw [hi, add_spot a _ hspot, addr_add] at this
            obtain ⟨_, c', t', fr', hh', hc'⟩ := cell_spot this
            simp only at hh' hc'
            rw [hh] at hh'
            cases hh'
            rw [show a.off + i = a.off + k * P.cellsOf e + (i - k * P.cellsOf e) by omega]
            exact hc'
      exact key len (Nat.le_refl _)
  · have : len * P.bytesOf e ≤ (elems.length + rest.length) * P.bytesOf e := Nat.mul_le_mul_right _ (by omega)
    exact Nat.le_trans this wn
  · intro r hr
    obtain ⟨i, hi, rfl⟩ := List.mem_map.1 hr
    have hi := List.mem_range.1 hi
    obtain ⟨r, y, h1, h2, h3⟩ := each i hi
    rw [h1]
    refine ⟨(cells_get h1).1, n, y, h3, fun k hk => hw k ?_⟩
    simp only [DataW.weights, ht, List.mem_cons, List.mem_append]
    exact .inr (.inl (weights_all hk _ (List.mem_map.2 ⟨y, List.mem_of_getElem? h2, rfl⟩)))
theorem open_i64 {t : TypeId} {cs : List Value} {x : DataW H × List MemPlace} (ht : P.underlying t = some (.int .i64)) (h : DataW.trod enc P W base (fun _ => true) held fuel t cs = some x) : ∃ n, cs = [.int .i64 n] ∧ (Lit.int .i64 n).wf = true := by
  cases fuel with
  | zero => simp [DataW.trod] at h
  | succ m =>
    unfold DataW.trod at h
    rw [ht] at h
    split at h <;> simp_all
end
end Go.Vx
namespace Go.Vx
open Go Go.ChangeShapes Go.RowKit
section
variable {H : Type} {enc : TypeId × Value → H} {P : Program} {W W' : World}
theorem Ext.below (e : Ext W W') : Below W.heap.size W W' := ⟨e.os, e.tape, e.output, e.size, fun k hk => e.at_ k hk id⟩
theorem stays_all (hl : laidOutB P = true) {sp : Nat → Bool} : ∀ {ts : List TypeId} {vs : List Value} {ds : List (DataW H)} {ps : List MemPlace}, (∀ t ∈ ts, P.readableRec t = true ∧ t < P.types.size) →
    DataW.TrodAll enc P W 0 (fun _ => true) true ts vs ds ps → (∀ p ∈ ps, W.sameAt W' p) → (∀ p ∈ ps, sp p.block = true) → DataW.TrodAll enc P W' 0 sp true ts vs ds ps
  | [], [], [], _, _, h, _, _ => h
  | t :: ts, v :: vs, d :: ds, ps, hr, ⟨p, q, h1, h2, e⟩, hs, hsp => by
    subst e
    exact ⟨p, q, WideElems.Trod_stays hl (hr t List.mem_cons_self).1 (hr t List.mem_cons_self).2 h1 (fun x hx => hs x (List.mem_append_left _ hx)) (fun x hx => hsp x (List.mem_append_left _ hx)),
      stays_all hl (fun t' ht' => hr t' (List.mem_cons_of_mem _ ht')) h2 (fun x hx => hs x (List.mem_append_right _ hx)) (fun x hx => hsp x (List.mem_append_right _ hx)), rfl⟩
  | [], _ :: _, _, _, _, h, _, _ => h.elim
  | [], [], _ :: _, _, _, h, _, _ => h.elim
  | _ :: _, [], _, _, _, h, _, _ => h.elim
  | _ :: _, _ :: _, [], _, _, h, _, _ => h.elim
theorem post_same {f : Func} {s : ChangeSpec} {apart fresh handsOn again : Bool} {args : Array Value} {ds gs : List (DataW H)} {before : List MemPlace} {tb : TypeId}
    (hW : DataW.Whole enc P f.params.toList s.vars apart W args.toList ds gs before) (hv : s.vars = []) (hr : f.resultTypes = #[tb]) (hb : P.underlying tb = some .bool)
    (hs : s.fn H (ds ++ gs) = { results := [.lit (.bool true)], args := ds }) (hl : laidOutB P = true) (hrd : ∀ t ∈ f.params.toList, P.readableRec t = true ∧ t < P.types.size)
    (e : Ext W W') : s.post enc P f apart fresh handsOn again W args (.bool true) W' := by
  have hlt := hW.lt
  have hW0 := hW
  obtain ⟨pa, pv, hA, hV, rfl, hz, hn⟩ := hW
  have hBl := e.below
  have hsame : ∀ p ∈ pa ++ pv, W.sameAt W' p := fun p hp => hBl.same (hlt p hp)
  have hold : ∀ p ∈ pa ++ pv, (fun b => decide (b < W.heap.size)) p.block = true := fun p hp => by simpa using hlt p hp
  have hres : ∀ (b : Nat) (sp : Nat → Bool) (hd : Bool), DataW.TrodAll enc P W' b sp hd f.resultTypes.toList ((Value.bool true).resultList f.resultTypes.size) (s.fn H (ds ++ gs)).results [] := by
    intro b sp hd
    rw [hs, hr]
    exact trodAll_mk1 ⟨1, by simp [DataW.trod, hb, Value.cells]⟩
  have hargs : ∀ sp : Nat → Bool, (∀ p ∈ pa, sp p.block = true) → DataW.TrodAll enc P W' 0 sp true f.params.toList args.toList (s.fn H (ds ++ gs)).args pa := by
    intro sp hsp
    rw [hs]
    exact stays_all hl hrd hA (fun p hp => hsame p (List.mem_append_left _ hp)) hsp
  have hgs : gs = [] ∧ pv = [] := by
    rw [hv] at hV
    exact trodVars_none hV
  obtain ⟨rfl, rfl⟩ := hgs
  have hvars : ∀ sp : Nat → Bool, DataW.TrodVars enc P W' sp s.vars (s.fn H (ds ++ [])).vars [] := by
    intro sp
    rw [hs, hv]
    exact rfl
  have hall : ∀ p ∈ ([] ++ pa) ++ [], p ∈ pa ++ [] := fun p hp => by simpa using hp
  refine ⟨ds, [], pa ++ [], [], pa, [], hW0, hres _ _ _, hargs _ (fun p hp => hold p (List.mem_append_left _ hp)), hvars _, hBl.frame _, fun _ => ⟨ok_one hr rfl (okWide_bool_mk hb true), [.lit (.bool true)] ++ ds, [], ([] ++ pa) ++ [], ?_, fun p hp _ => hall p hp⟩⟩
  have h1 := trodAll_append (hargs (fun _ => true) (fun _ _ => rfl)) (hres 0 (fun _ => true) true)
  rw [hs] at h1
  have h2 := hvars (fun _ => true)
  rw [hs] at h2
  refine ⟨[] ++ pa, [], h1, h2, rfl, ?_, fun ha => ?_⟩
  · intro b off hp
    have hp' := hall _ hp
    have hb' := hlt _ hp'
    rw [hBl.frozen (p := ⟨b, off, none⟩) hb']
    exact hz b off hp'
  · have := hn ha
    simpa using this
end
end Go.Vx
set_option linter.unusedSimpArgs false
set_option linter.unusedVariables false
set_option maxRecDepth 100000
namespace Go.Proofs.YtabcpghhfeplaaaGreat
open Go Go.Vx Gly Clu
section
variable {w w' : World}
theorem cell_ext {a : Addr} {v : Value} (h : w.cell? a = some v) (x : Ext w w') : w'.cell? a = some v := by
  obtain ⟨hs, c, t, fr, hh, hc⟩ := cell_spot h
  obtain ⟨b, o, s⟩ := a
  simp only at hs hh hc
  subst hs
  exact cell_of (x.ext_get hh) hc
theorem ix_ldE {c : Cell} {s : Sl} {t : TypeId} {xs : List c.T} {n : Int} {K : Addr → c.T → World → Prop} (h : SlIn w s t 1 (xs.map c.val)) (h0 : 0 ≤ n) {x : c.T} (hx : xs[n.toNat]? = some x)
    (hK : ∀ p, (∀ w', Ext w w' → w'.cell? (p.add (scaled (Int.toNat n) 1)) = some (c.val x)) → K p x w) : ix s.a s.len n (fun p => ld c (p.add (scaled (Int.toNat n) 1)) (K p)) w := by
  have hlt := (List.getElem?_eq_some_iff.1 hx).1
  have hl := h.len
  rw [List.length_map, Nat.mul_one] at hl
  refine h.ix h0 (by omega) (by omega) fun b off ha hv => ?_
  have := hv 0 (c.val x) (by rw [Nat.mul_one, Nat.add_zero, List.getElem?_map, hx]; rfl)
  have hc : w.cell? ((⟨b, off, none⟩ : Addr).add (scaled (Int.toNat n) 1)) = some (c.val x) := by rw [addr_add]; simpa [scaled] using this
  exact ld_of (x := x) hc (hK _ fun w' x' => cell_ext hc x')
def scO (s : Sc) : Obj := .cells #[.int .i64 (s.last : Int), .int .i64 (s.flags : Int), .int .i64 (s.pict : Int), .int .i64 (s.conj : Int)] 169 (0, 0)
abbrev scT (s : Sc) : Cells.T c169 := ((s.last : Int), (s.flags : Int), (s.pict : Int), (s.conj : Int), ())
theorem nn_eq {a : Addr} {K : Addr → World → Prop} : nn (some a) K = K a := funext fun _ => propext nn_some_iff
theorem apart_call {c : Nat} {K : Bool → World → Prop} (hK : K (apart c) w) : callT Tryz.prog 125 #[.int .i64 (c : Int)] (.one (.one .bool)) K w := by
  refine F125_calls ?_
  unfold F125
  unfold apart at hK
  refine sif_r (fun h => ?_) (fun h => sif_r (fun h2 => ?_) (fun h2 => ?_))
  all_goals simp only [beq_iff_eq, beq_eq_false_iff_ne, ne_eq] at *
  · rw [decide_eq_true (by omega)] at hK; exact hK
  · rw [decide_eq_true (by omega)] at hK; exact hK
  · have : ((c : Int) == 3) = decide (c = 1 ∨ c = 2 ∨ c = 3) := by
      rw [Bool.eq_iff_iff, beq_iff_eq, decide_eq_true_eq]; omega
    rw [this]; exact hK
theorem hangul_call {l r : Nat} {K : Bool → World → Prop} (hK : K (hangul l r) w) : callT Tryz.prog 148 #[.int .i64 (l : Int), .int .i64 (r : Int)] (.one (.one .bool)) K w := by
  refine F148_calls ?_
  unfold F148
  unfold hangul at hK
  have fin : ∀ {b : Bool}, (b = true ↔ ((l = 9 ∧ (r = 9 ∨ r = 10 ∨ r = 12 ∨ r = 13)) ∨ ((l = 12 ∨ l = 10) ∧ (r = 10 ∨ r = 11)) ∨ ((l = 13 ∨ l = 11) ∧ r = 11))) → K b w := by
    intro b hb
    have : b = decide ((l = 9 ∧ (r = 9 ∨ r = 10 ∨ r = 12 ∨ r = 13)) ∨ ((l = 12 ∨ l = 10) ∧ (r = 10 ∨ r = 11)) ∨ ((l = 13 ∨ l = 11) ∧ r = 11)) := by rw [Bool.eq_iff_iff, hb, decide_eq_true_eq]
    rw [this]; exact hK
  refine join_r (fun _ w' => w = w' ∧ (r = 10 ∨ r = 11) ∧ ¬ (r = 10 ∧ l = 9)) ?_ ?_
  · refine join_r (fun x w' => x = (decide (r = 9 ∨ r = 12 ∨ r = 13), ()) ∧ w = w') ?_ ?_
    · refine sif_r (fun h => ⟨tupb ?_, rfl⟩) (fun h => sif_r (fun h2 => ⟨tupb ?_, rfl⟩) (fun h2 => ⟨tupb ?_, rfl⟩))
      all_goals simp only [beq_iff_eq, beq_eq_false_iff_ne, ne_eq, decide_eq_true_eq] at *
      all_goals omega
    rintro _ _ ⟨rfl, rfl⟩
    refine sif_r (fun h => fin ?_) (fun h => sif_r (fun h2 => sif_r (fun h3 => fin ?_) (fun h3 => ?_)) (fun h2 => sif_r (fun h3 => ?_) (fun h3 => fin ?_)))
    all_goals simp only [beq_iff_eq, beq_eq_false_iff_ne, ne_eq, decide_eq_true_eq, decide_eq_false_iff_not] at *
    · omega
    · simp only [true_iff]; omega
    · exact ⟨by trivial, by omega, by omega⟩
    · exact ⟨by trivial, by omega, by omega⟩
    · simp only [Bool.false_eq_true, false_iff]; omega
  · rintro _ _ ⟨rfl, h1, h2⟩
    refine join_r (fun x w' => x = (decide (l = 12 ∨ l = 10), ()) ∧ w = w') ?_ ?_
    · refine sif_r (fun h => ⟨tupb ?_, rfl⟩) (fun h => ⟨tupb ?_, rfl⟩)
      all_goals simp only [beq_iff_eq, beq_eq_false_iff_ne, ne_eq, decide_eq_true_eq, true_iff] at *
      all_goals omega
    rintro _ _ ⟨rfl, rfl⟩
    refine sif_r (fun h => fin ?_) (fun h => sif_r (fun h3 => sif_r (fun h4 => fin ?_) (fun h4 => fin ?_)) (fun h3 => fin ?_))
    all_goals simp only [beq_iff_eq, beq_eq_false_iff_ne, ne_eq, decide_eq_true_eq, decide_eq_false_iff_not, Bool.false_eq_true, false_iff, true_iff] at *
    all_goals omega
theorem note_call {b c p : Nat} {s : Sc} (h : w.heap[b]? = some (scO s)) (hf : s.flags < 2 ^ 60) {K : Unit → World → Prop} (hK : ∀ w', Upd (fun k => k = b) w w' → w'.heap[b]? = some (scO (s.note c p)) → K () w') :
    callT Tryz.prog 146 #[.pointer (some (at0 b)), .int .i64 (c : Int), .int .i64 (p : Int)] (.tup []) K w := by
  refine F146_calls ?_
  unfold F146
  simp only [nn_eq, addr_add]
  unfold scO at h
  refine stC_r h (by show _ < 4; decide) fun w1 u1 n1 _ => ?_
  let O : Nat → Nat → Nat → Nat → Obj := fun a f q j => .cells #[.int .i64 (a : Int), .int .i64 (f : Int), .int .i64 (q : Int), .int .i64 (j : Int)] 169 (0, 0)
  have n1 : w1.heap[b]? = some (O c s.flags s.pict s.conj) := n1
  refine join_r (fun _ W => Upd (fun k => k = b) w W ∧ W.heap[b]? = some (O c (s.note c p).flags s.pict s.conj)) ?_ ?_
  · refine sif_r (fun hc => ?_) (fun hc => ?_)
    · simp only [beq_iff_eq] at hc
      have hc : c = 6 := by omega
      refine ld_r n1 (x := (s.flags : Int)) rfl (stC_r n1 (by show _ < 4; decide) fun w2 u2 n2 _ => ⟨u1.trans u2, ?_⟩)
      have e : (s.note c p).flags = s.flags + 1 := by simp [Sc.note, hc]
      rw [e, n2, wrap64 (by omega) (by omega)]; rfl
    · simp only [beq_eq_false_iff_ne, ne_eq] at hc
      have hc : c ≠ 6 := by omega
      refine stC_r n1 (by show _ < 4; decide) fun w2 u2 n2 _ => ⟨u1.trans u2, ?_⟩
      have e : (s.note c p).flags = 0 := by simp [Sc.note, hc]
      rw [e, n2]; rfl
  rintro _ w2 ⟨u2, n2⟩
  refine join_r (fun _ W => Upd (fun k => k = b) w W ∧ W.heap[b]? = some (O c (s.note c p).flags (s.note c p).pict s.conj)) ?_ ?_
  · have hp : (s.note c p).pict = if c = 14 then 1 else if s.pict = 1 ∧ c = 5 then 2 else if s.pict = 1 ∧ c = 4 then s.pict else 0 := rfl
    refine sif_r (fun hc => ?_) (fun hc => ?_)
    · simp only [beq_iff_eq] at hc
      rw [hp, if_pos (by omega)]
      exact stC_r n2 (by show _ < 4; decide) fun w3 u3 n3 _ => ⟨u2.trans u3, n3⟩
    simp only [beq_eq_false_iff_ne, ne_eq] at hc
    rw [hp, if_neg (by omega)]
    refine join_r (fun x W => x = (decide (s.pict = 1 ∧ c = 5), ()) ∧ w2 = W) ?_ ?_
    · refine ld_r n2 (x := (s.pict : Int)) rfl (sif_r (fun h => ⟨tupb ?_, rfl⟩) (fun h => ⟨tupb ?_, rfl⟩))
      all_goals simp only [beq_iff_eq, beq_eq_false_iff_ne, ne_eq, decide_eq_true_eq, Bool.false_eq_true, false_iff] at *
      all_goals omega
    rintro _ _ ⟨rfl, rfl⟩
    refine sif_r (fun h => ?_) (fun h => ?_)
    · simp only [decide_eq_true_eq] at h
      rw [if_pos h]
      exact stC_r n2 (by show _ < 4; decide) fun w3 u3 n3 _ => ⟨u2.trans u3, n3⟩
    simp only [decide_eq_false_iff_not] at h
    rw [if_neg h]
    refine join_r (fun x W => x = (decide (s.pict = 1 ∧ c = 4), ()) ∧ w2 = W) ?_ ?_
    · refine ld_r n2 (x := (s.pict : Int)) rfl (sif_r (fun h => ⟨tupb ?_, rfl⟩) (fun h => ⟨tupb ?_, rfl⟩))
      all_goals simp only [beq_iff_eq, beq_eq_false_iff_ne, ne_eq, decide_eq_true_eq, Bool.false_eq_true, false_iff] at *
      all_goals omega
    rintro _ _ ⟨rfl, rfl⟩
    refine sif_r (fun h => ?_) (fun h => ?_)
    · simp only [decide_eq_true_eq] at h
      rw [if_pos h]
      exact ⟨u2, n2⟩
    · simp only [decide_eq_false_iff_not] at h
      rw [if_neg h]
      exact stC_r n2 (by show _ < 4; decide) fun w3 u3 n3 _ => ⟨u2.trans u3, n3⟩
  rintro _ w3 ⟨u3, n3⟩
  have hj : (s.note c p).conj = if p = 1 then 1 else if 0 < s.conj ∧ p = 3 then 2 else if 0 < s.conj ∧ p = 2 then s.conj else 0 := rfl
  have fin : ∀ {q : Nat} {W : World}, (s.note c p).conj = q → Upd (fun k => k = b) w W → W.heap[b]? = some (O c (s.note c p).flags (s.note c p).pict q) → K () W := fun e u n => hK _ u (by subst e; exact n)
  refine sif_r (fun hc => ?_) (fun hc => ?_)
  · simp only [beq_iff_eq] at hc
    exact stC_r n3 (by show _ < 4; decide) fun w4 u4 n4 _ => fin (q := 1) (by rw [hj, if_pos (by omega)]) (u3.trans u4) n4
  simp only [beq_eq_false_iff_ne, ne_eq] at hc
  rw [if_neg (by omega)] at hj
  refine join_r (fun x W => x = (decide (0 < s.conj ∧ p = 3), ()) ∧ w3 = W) ?_ ?_
  · refine ld_r n3 (x := (s.conj : Int)) rfl (sif_r (fun h => ⟨tupb ?_, rfl⟩) (fun h => ⟨tupb ?_, rfl⟩))
    all_goals simp only [beq_iff_eq, decide_eq_true_eq, decide_eq_false_iff_not, Bool.false_eq_true, false_iff, gt_iff_lt] at *
    all_goals omega
  rintro _ _ ⟨rfl, rfl⟩
  refine sif_r (fun h => ?_) (fun h => ?_)
  · simp only [decide_eq_true_eq] at h
    exact stC_r n3 (by show _ < 4; decide) fun w4 u4 n4 _ => fin (q := 2) (by rw [hj, if_pos h]) (u3.trans u4) n4
  simp only [decide_eq_false_iff_not] at h
  rw [if_neg h] at hj
  refine join_r (fun x W => x = (decide (0 < s.conj ∧ p = 2), ()) ∧ w3 = W) ?_ ?_
  · refine ld_r n3 (x := (s.conj : Int)) rfl (sif_r (fun h => ⟨tupb ?_, rfl⟩) (fun h => ⟨tupb ?_, rfl⟩))
    all_goals simp only [beq_iff_eq, decide_eq_true_eq, decide_eq_false_iff_not, Bool.false_eq_true, false_iff, gt_iff_lt] at *
    all_goals omega
  rintro _ _ ⟨rfl, rfl⟩
  refine sif_r (fun h => ?_) (fun h => ?_)
  · simp only [decide_eq_true_eq] at h
    exact fin (q := s.conj) (by rw [hj, if_pos h]) u3 n3
  · simp only [decide_eq_false_iff_not] at h
    exact stC_r n3 (by show _ < 4; decide) fun w4 u4 n4 _ => fin (q := 0) (by rw [hj, if_neg h]) (u3.trans u4) n4
theorem begin_call {a : Int} {K : Cells.T c169 → World → Prop} (hK : ∀ w', Ext w w' → K (scT (sc [a])) w') : callT Tryz.prog 121 #[.int .i64 a] (.one (.agg c169)) K w := by
  refine F121_calls ?_
  unfold F121
  refine (St.start w).newO fun b1 w1 S1 e1 => S1.newO' fun b2 w2 S2 e2 hb2 => class_call fun w3 e3 => conjunct_call fun w4 e4 => ?_
  have S4 := (S2.ext e3).ext e4
  refine note_call (s := Sc.zero) (S4.at_ 0 rfl) (by decide) fun w5 u5 n5 => ?_
  have S5 := set_loc S4 (i := 0) rfl u5 n5
  have e : Sc.zero.note (cls a) (cnj a) = sc [a] := (stp_zero a).symm
  rw [e] at S5
  refine S5.lds 0 (scT (sc [a])) rfl (S5.aggSt 1 rfl rfl rfl rfl fun w6 S6 _ => S6.lds 1 (scT (sc [a])) rfl (hK w6 S6.upd))
theorem takes_call {b : Nat} {s : Sc} {a : Int} (h : w.heap[b]? = some (scO s)) (hf : s.flags < 2 ^ 60) {K : Bool → World → Prop}
    (hK : ∀ w', Upd (fun k => k = b) w w' → w'.heap[b]? = some (scO (if joins s (cls a) (cnj a) then s.note (cls a) (cnj a) else s)) → K (joins s (cls a) (cnj a)) w') :
    callT Tryz.prog 122 #[.pointer (some (at0 b)), .int .i64 a] (.one (.one .bool)) K w := by
  refine F122_calls ?_
  unfold F122
  simp only [nn_eq, addr_add]
  refine class_call fun w1 e1 => conjunct_call fun w2 e2 => ?_
  have e12 := e1.trans e2
  have h2 := e12.ext_get h
  generalize hc : cls a = c at *
  generalize hp : cnj a = p at *
  refine join_r (fun x W => x = (joins s c p, ()) ∧ w2 = W) ?_ ?_
  · have hj : joins s c p = if s.last = 1 ∧ c = 2 then true else if apart s.last = true ∨ apart c = true then false else if c = 4 ∨ c = 5 ∨ c = 8 ∨ s.last = 7 then true else if hangul s.last c then true
      else if p = 1 ∧ s.conj = 2 then true else if c = 14 then s.pict == 2 else if c = 6 then s.flags % 2 == 1 else false := rfl
    unfold scO at h2
    have l0 : ∀ {K : Int → World → Prop}, K (s.last : Int) w2 → ld (.int .i64) (at0 b) K w2 := fun hk => ld_r h2 (x := (s.last : Int)) rfl hk
    refine join_r (fun x W => x = (decide (s.last = 1 ∧ c = 2), ()) ∧ w2 = W) ?_ ?_
    · refine l0 (sif_r (fun h => ⟨tupb ?_, rfl⟩) (fun h => ⟨tupb ?_, rfl⟩))
      all_goals simp only [beq_iff_eq, beq_eq_false_iff_ne, ne_eq, decide_eq_true_eq, Bool.false_eq_true, false_iff] at *
      all_goals omega
    rintro _ _ ⟨rfl, rfl⟩
    refine sif_r (fun h => ?_) (fun h => ?_)
    · simp only [decide_eq_true_eq] at h
      exact ⟨by rw [hj, if_pos h], rfl⟩
    simp only [decide_eq_false_iff_not] at h
    rw [if_neg h] at hj
    refine join_r (fun x W => x = (decide (apart s.last = true ∨ apart c = true), ()) ∧ w2 = W) ?_ ?_
    · refine l0 (apart_call (sif_r (fun h => ⟨tupb ?_, rfl⟩) (fun h => apart_call ⟨tupb ?_, rfl⟩)))
      all_goals simp only [decide_eq_true_eq] at *
      all_goals simp [h]
    rintro _ _ ⟨rfl, rfl⟩
    refine sif_r (fun h => ?_) (fun h => ?_)
    · simp only [decide_eq_true_eq] at h
      exact ⟨by rw [hj, if_pos h], rfl⟩
    simp only [decide_eq_false_iff_not] at h
    rw [if_neg h] at hj
    refine join_r (fun x W => x = (decide (c = 4 ∨ c = 5 ∨ c = 8 ∨ s.last = 7), ()) ∧ w2 = W) ?_ ?_
    · refine sif_r (fun h => ⟨tupb ?_, rfl⟩) (fun h1 => sif_r (fun h => ⟨tupb ?_, rfl⟩) (fun h3 => sif_r (fun h => ⟨tupb ?_, rfl⟩) (fun h4 => l0 ⟨tupb ?_, rfl⟩)))
      all_goals simp only [beq_iff_eq, beq_eq_false_iff_ne, ne_eq, decide_eq_true_eq] at *
      all_goals omega
    rintro _ _ ⟨rfl, rfl⟩
    refine sif_r (fun h => ?_) (fun h => ?_)
    · simp only [decide_eq_true_eq] at h
      exact ⟨by rw [hj, if_pos h], rfl⟩
    simp only [decide_eq_false_iff_not] at h
    rw [if_neg h] at hj
    refine l0 (hangul_call (sif_r (fun h => ?_) (fun h => ?_)))
    · exact ⟨by rw [hj, if_pos h], rfl⟩
    rw [if_neg (by rw [h]; decide)] at hj
    refine join_r (fun x W => x = (decide (p = 1 ∧ s.conj = 2), ()) ∧ w2 = W) ?_ ?_
    · refine sif_r (fun h => ld_r h2 (x := (s.conj : Int)) rfl ⟨tupb ?_, rfl⟩) (fun h => ⟨tupb ?_, rfl⟩)
      all_goals simp only [beq_iff_eq, beq_eq_false_iff_ne, ne_eq, decide_eq_true_eq, Bool.false_eq_true, false_iff] at *
      all_goals omega
    rintro _ _ ⟨rfl, rfl⟩
    refine sif_r (fun h => ?_) (fun h => ?_)
    · simp only [decide_eq_true_eq] at h
      exact ⟨by rw [hj, if_pos h], rfl⟩
    simp only [decide_eq_false_iff_not] at h
    rw [if_neg h] at hj
    refine sif_r (fun h => ?_) (fun h => ?_)
    · simp only [beq_iff_eq] at h
      rw [if_pos (by omega)] at hj
      refine ld_r h2 (x := (s.pict : Int)) rfl ⟨?_, rfl⟩
      rw [hj]
      exact tupb (by simp only [beq_iff_eq]; omega)
    simp only [beq_eq_false_iff_ne, ne_eq] at h
    rw [if_neg (by omega)] at hj
    refine sif_r (fun h => ?_) (fun h => ?_)
    · simp only [beq_iff_eq] at h
      rw [if_pos (by omega)] at hj
      refine ld_r h2 (x := (s.flags : Int)) rfl (chk_r (by decide) ⟨?_, rfl⟩)
      rw [hj, Int.tmod_eq_emod_of_nonneg (by omega)]
      exact tupb (by simp only [beq_iff_eq]; omega)
    · simp only [beq_eq_false_iff_ne, ne_eq] at h
      rw [if_neg (by omega)] at hj
      exact ⟨by rw [hj], rfl⟩
  rintro _ _ ⟨rfl, rfl⟩
  refine join_r (fun _ W => Upd (fun k => k = b) w W ∧ W.heap[b]? = some (scO (if joins s c p then s.note c p else s))) ?_ (fun _ W h => hK W h.1 h.2)
  refine sif_r (fun h => ?_) (fun h => ?_)
  · have h : joins s c p = true := h
    rw [if_pos h]
    exact note_call h2 hf fun w3 u3 n3 => ⟨(Upd.of_ext e12).trans u3, n3⟩
  · have h : joins s c p = false := h
    rw [if_neg (by rw [h]; decide)]
    exact ⟨Upd.of_ext e12, h2⟩
theorem cwalk_call {A : List Int} {s : Sl} {t : TypeId} {at_ : Nat} {y : Value} (hb : bk A at_ = true) (hl : A.length < 2 ^ 59) (Inv : Nat → World → Prop) (Brk : World → Prop)
    (hs : ∀ k W, Inv k W → SlIn W s t 1 (iv A)) (hx : ∀ k W W', Inv k W → Ext W W' → Inv k W')
    (hy : ∀ (i j : Nat) (W : World) (K : Bool → World → Prop), Inv i W → i < j → bk A j = true → (∀ k, i < k → k < j → bk A k = false) → (∀ c W', (c = true → Inv j W') → (c = false → Brk W') → K c W') →
      callX Tryz.prog (do let d ← Deferred.ofValue y #[.int .i64 (j : Int)]; invoke d.target d.args : Sem Next) (.one (.one .bool)) K W)
    (h0 : Inv at_ w) {K : Unit → World → Prop} (hK : ∀ W, Inv A.length W ∨ Brk W → K () W) :
    callT Tryz.prog 93 #[.slice s.a s.len s.cap, .int .i64 (at_ : Int), y] (.tup []) K w := by
  refine F93_calls ?_
  unfold F93
  have hlen : A.length = s.len := by have := (hs _ _ h0).len1; rwa [List.length_map] at this
  refine sloop_r (fun x W => ∃ i, i ≤ A.length ∧ x = ((i : Int), ()) ∧ bk A i = true ∧ Inv i W) (fun x _ => ((A.length : Int) - x.1).toNat) ⟨at_, bk_le hb, rfl, hb, h0⟩ ?_
  rintro _ W ⟨i, hi, rfl, hbi, hI⟩
  refine sif_r (fun hc => ?_) (fun hc => ?_)
  · simp only [decide_eq_true_eq] at hc
    have hil : i < A.length := by omega
    have ha : A[i]? = some A[i] := List.getElem?_eq_getElem hil
    refine ix_ld (c := .int .i64) (xs := A) (hs _ _ hI) (by omega) (x := A[i]) (by rw [Int.toNat_natCast]; exact ha) fun p => begin_call fun w1 e1 => ?_
    refine newO_r fun b w2 e2 n2 hb2 _ => aggSt_r n2 rfl rfl (by decide) fun w3 u3 n3 _ => ?_
    have e3 : Ext W w3 := (e1.trans e2).step u3 fun k hk => by have := e1.size; omega
    have n3 : w3.heap[b]? = some (scO (sc (A.take (i + 1)))) := by rw [sc_bk hbi ha]; exact n3
    have bW : W.heap.size ≤ b := by have := e1.size; omega
    have ew : IntKind.wrap .i64 ((i : Int) + 1) = ((i + 1 : Nat) : Int) := by rw [wrap64 (by omega) (by omega)]; omega
    rw [ew]
    refine join_r (fun _ W' => Inv i W' ∧ ∀ k, i < k → k < A.length → bk A k = false) ?_ ?_
    · refine sloop_r (fun x W' => ∃ k, i < k ∧ k ≤ A.length ∧ x = ((k : Int), ()) ∧ Ext W W' ∧ W'.heap[b]? = some (scO (sc (A.take k))) ∧ ∀ q, i < q → q < k → bk A q = false) (fun x _ => ((A.length : Int) - x.1).toNat) ⟨i + 1, by omega, by omega, rfl, e3, n3, fun q h1 h2 => by omega⟩ ?_
      rintro _ W4 ⟨k, hik, hkl, rfl, e4, n4, hno⟩
      refine sif_r (fun hc => ?_) (fun hc => ?_)
      · simp only [decide_eq_true_eq] at hc
        have hkl : k < A.length := by omega
        have hk : A[k]? = some A[k] := List.getElem?_eq_getElem hkl
        have hI4 := hx _ _ _ hI e4
        have hfl := flags_le (A.take k)
        rw [List.length_take] at hfl
        refine ix_ld (c := .int .i64) (xs := A) (hs _ _ hI4) (by omega) (x := A[k]) (by rw [Int.toNat_natCast]; exact hk) fun p => takes_call n4 (by omega) fun w5 u5 n5 => ?_
        have e5 : Ext W w5 := e4.step u5 fun q hq => by omega
        have hbk := bk_at hk (by omega)
        refine sif_r (fun hj => ?_) (fun hj => ?_)
        · have ew : IntKind.wrap .i64 ((k : Int) + 1) = ((k + 1 : Nat) : Int) := by rw [wrap64 (by omega) (by omega)]; omega
          rw [if_pos hj, ← stp_joins hj] at n5
          have e : sc (A.take (k + 1)) = stp (sc (A.take k)) A[k] := by rw [List.take_add_one, hk]; exact sc_snoc _ _
          rw [← e] at n5
          refine ⟨⟨k + 1, by omega, by omega, by rw [ew], e5, n5, fun q h1 h2 => ?_⟩, by rw [ew]; omega⟩
          by_cases hq : q = k
          · rw [hq, hbk, hj]; rfl
          · exact hno q h1 (by omega)
        · rw [hj] at hbk
          refine hy i k w5 _ (hx _ _ _ hI e5) hik hbk hno fun c W' h1 h2 => sif_r (fun hn => ?_) (fun hn => ?_)
          · have hc : c = false := by cases c <;> simp_all
            exact hK W' (.inr (h2 hc))
          · have hc : c = true := by cases c <;> simp_all
            exact ⟨⟨k, by omega, rfl, hbk, h1 hc⟩, by omega⟩
      · simp only [decide_eq_false_iff_not] at hc
        exact ⟨hx _ _ _ hI e4, fun q h1 h2 => hno q h1 (by omega)⟩
    · rintro _ W5 ⟨hI5, hno⟩
      rw [← hlen]
      exact hy i A.length W5 _ hI5 hil (bk_len A) hno fun c W' h1 h2 => hK W' (by cases c with
        | true => exact .inl (h1 rfl)
        | false => exact .inr (h2 rfl))
  · simp only [decide_eq_false_iff_not] at hc
    have : i = A.length := by omega
    subst this
    exact hK W (.inl hI)
abbrev nv (l : List Nat) : List Value := l.map fun (n : Nat) => Value.int .i64 (n : Int)
theorem cbreaks_call {A : List Int} {s : Sl} {t : TypeId} (hs : SlIn w s t 1 (iv A)) (hl : A.length < 2 ^ 40) {K : Sl → World → Prop} (hK : ∀ s' w', SlOwn w' w.heap.size s' 3 1 (nv (cuts A)) → Ext w w' → K s' w') :
    callT Tryz.prog 68 #[.slice s.a s.len s.cap] (.one (.one .sl)) K w := by
  refine F68_calls ?_
  unfold F68
  refine newO_r fun b1 w1 e1 n1 hb1 _ => newO_r fun b2 w2 e2 n2 hb2 _ => stC_r n2 Nat.one_pos fun w3 u3 n3 _ => ?_
  have e3 : Ext w w3 := (e1.trans e2).step u3 fun k hk => by have := e1.size; omega
  have hb12 : w.heap.size ≤ b2 := by have := e1.size; omega
  have hlt : b1 ≠ b2 := by have := lt_of_heap n1; omega
  have o3 : SlOwn w3 w.heap.size ⟨some (at0 b1), 1, 1⟩ 3 1 (nv [0]) := by
    refine ⟨rfl, Nat.le_refl _, .inr ⟨b1, 0, #[.int .i64 0], rfl, by omega, u3.get (e2.ext_get n1) hlt, by show 0 + 1 * 1 ≤ 1; decide, fun i v hv => ?_⟩⟩
    rw [Nat.zero_add]
    simpa using hv
  refine cwalk_call (A := A) (s := s) (t := t) (at_ := 0) (bk_zero A) (by omega) (fun k W => ∃ o, W.heap[b2]? = some (.cells #[.slice o.a o.len o.cap] 26 (0, 0)) ∧ SlOwn W w.heap.size o 3 1 (nv (cutsTo A k)) ∧ Ext w W ∧ k ≤ A.length) (fun _ => False) ?_ ?_ ?_ ?_ ?_
  · rintro k W ⟨o, _, _, e, _⟩
    exact hs.ext e
  · rintro k W W' ⟨o, h1, h2, h3, h4⟩ e
    exact ⟨o, e.ext_get h1, h2.ext e, h3.trans e, h4⟩
  · rintro i j W K' ⟨o, h1, h2, h3, h4⟩ hij hbj hno hK'
    have hol := h2.len1
    rw [List.length_map] at hol
    have hcl := cutsTo_len A i
    refine func_x (caps := #[.pointer (some (at0 b2))]) (by kernel_rfl) ?_
    refine F94_calls ?_
    unfold F94
    refine ld_r h1 (x := o) rfl (newO_r fun b4 w4 e4 n4 hb4 _ => ?_)
    refine append_rx eInts eInts.ts_ (x := ⟨some (at0 b4), 1, 1⟩) (h2.ext e4) (iv_box n4) (fun v hv => by rw [List.mem_singleton.1 hv]; rfl) (by
      show (o.len + 1 + (o.len + 1) / 4 + 512) * 8 ≤ 2 ^ 48
      omega) (by have := h3.size; have := e4.size; omega) fun o' w5 o5 l5 u5 k5 => ?_
    have n5 : w5.heap[b2]? = some (.cells #[.slice o.a o.len o.cap] 26 (0, 0)) := u5.get (e4.ext_get h1) fun hb => by
      obtain ⟨c, fr, hc⟩ := (h2.ext e4).in.blk_cells hb
      rw [e4.ext_get h1] at hc; cases hc
    refine stC_r n5 Nat.one_pos fun w6 u6 n6 _ => hK' true w6 (fun _ => ⟨o', n6, ?_, ?_, bk_le hbj⟩) (fun h => by cases h)
    · have := o5.box n5 (by decide) u6
      have e : nv (cutsTo A j) = nv (cutsTo A i) ++ [.int .i64 (j : Int)] := by rw [cutsTo_next hij hbj hno]; simp
      rw [e]; exact this
    · exact ((h3.trans e4).step u5 fun k hk => h2.blk_ge hk).step u6 fun k hk => by omega
  · refine ⟨⟨some (at0 b1), 1, 1⟩, n3, ?_, e3, Nat.zero_le _⟩
    rw [cutsTo_zero]
    exact o3
  · rintro W (⟨o, h1, h2, h3, h4⟩ | h)
    · exact ld_r h1 (x := o) rfl (hK o W h2 h3)
    · exact h.elim
end
end Go.Proofs.YtabcpghhfeplaaaGreat
set_option linter.unusedSimpArgs false
set_option linter.unusedVariables false
set_option maxRecDepth 100000
namespace Go.Proofs.YtabcpghhfeplaaaGreat
open Go Go.Vx Cdc Trx
section
variable {w w' : World} {S : Nat → Prop} {p : Nat} {e : Enc} {lim na : Nat} {O : Nat → Prop} {M : Parts}
theorem sub_one (A : List Int) (n : Nat) : sub A (n : Int) ((n : Int) + 1) = (A.drop n).take 1 := by
  unfold sub
  have : ((n : Int) + 1).toNat - (n : Int).toNat = 1 := by omega
  rw [this, Int.toNat_natCast]
theorem take_one {A : List Int} {n : Nat} {a : Int} (h : A[n]? = some a) : (A.drop n).take 1 = [a] := by
  rw [List.take_one, List.head?_drop, h]; rfl
theorem take_none {A : List Int} {n : Nat} (h : A[n]? = none) : (A.drop n).take 1 = [] := by
  rw [List.take_one, List.head?_drop, h]; rfl
theorem last_take {A : List Int} {n : Nat} (h0 : 0 < n) (h : n ≤ A.length) : (A.take n).getLast? = A[n - 1]? := by
  rw [List.getLast?_eq_getElem?, List.length_take, List.getElem?_take]
  have : min n A.length = n := by omega
  rw [this, if_pos (by omega)]
theorem atoms_take (l : As) (n : Nat) : atoms (l.take n) = (atoms l).take n := by simp [atoms]
theorem cr_split {L : As} (h : Posd L) {n : Nat} (h0 : 0 < n) (hn : n ≤ L.length) : split13 (atoms L) n = ((msr (L.take n)).cr && ((atoms L)[n]? == some 10)) := by
  have hl : (atoms L).length = L.length := List.length_map _
  rw [msr_cr (h.take n), atoms_take, last_take h0 (by omega)]
  unfold split13
  rw [decide_eq_true h0]
  rfl
theorem breaks_call {at_ : Int} (h : Txt w p e lim na O M) {K : Int → World → Prop} (hK : ∀ w', Ext w w' → K ((nb (atoms (aOf e M)) at_.toNat : Nat) : Int) w') :
    callT Tryz.prog 66 #[.pointer (some (at0 p)), .int .i64 at_] (.one (.one (.int .i64))) K w := by
  refine F66_calls ?_
  unfold F66
  have few := h.few; have lims := h.lims
  have hal : (atoms (aOf e M)).length = (aOf e M).length := List.length_map _
  have hpos := aOf_posd e M
  refine sif_r (fun hc => ?_) (fun hc => ?_)
  · simp only [decide_eq_true_eq] at hc
    have e0 : at_.toNat = 0 := by omega
    have := hK w (Ext.refl w)
    rw [e0, nb_zero] at this
    exact this
  simp only [decide_eq_false_iff_not] at hc
  obtain ⟨n, rfl⟩ : ∃ n : Nat, at_ = (n : Int) := ⟨at_.toNat, by omega⟩
  rw [Int.toNat_natCast] at hK
  refine len_call h fun w1 e1 => sif_r (fun hg => ?_) (fun hg => ?_)
  · simp only [decide_eq_true_eq, ge_iff_le] at hg
    obtain ⟨t, ht, hi, hf, rd⟩ := h.tree
    refine rd e1 (tsum_call (ht.ext e1) fun w2 e2 => ?_)
    have := hK w2 (e1.trans e2)
    rw [nb_ge _ _ (by omega), ← msr_breaks hpos, ← hi.tot] at this
    exact this
  simp only [decide_eq_false_iff_not, ge_iff_le] at hg
  have hb : (msr ((aOf e M).take n)).breaks = nb (atoms (aOf e M)) n + (if split13 (atoms (aOf e M)) n then 1 else 0) := by rw [msr_breaks (hpos.take n), atoms_take, brs_take]
  have hsp := cr_split hpos (n := n) (by omega) (by omega)
  have hnl := nb_le (atoms (aOf e M)) n
  refine ahead_call (h.ext e1) (by omega) fun w2 e2 => (St.start w2).newO fun b w3 S3 e3 => S3.aggSt 0 rfl rfl rfl rfl fun w4 S4 u4 => ?_
  have e04 := (e1.trans e2).trans S4.upd
  refine join_r (fun x w' => x = (split13 (atoms (aOf e M)) n, ()) ∧ St (fun _ => False) w2 w' [(b, .cells (Cells.vals c110 (smT (msr ((aOf e M).take n)))).toArray 110 (0, 0))]) ?_ ?_
  · refine S4.ld 0 rfl (x := (msr ((aOf e M).take n)).cr) rfl (sif_r (fun hr => ?_) (fun hr => ?_))
    · have ew : IntKind.wrap .i64 ((n : Int) + 1) = (n : Int) + 1 := wrap64 (by omega) (by omega)
      rw [ew]
      refine atoms_call (h.ext e04) fun s w5 o5 e5 => ?_
      obtain ⟨a, ha⟩ : ∃ a, (atoms (aOf e M))[n]? = some a := ⟨_, List.getElem?_eq_getElem (by omega)⟩
      rw [sub_one, take_one ha] at o5
      refine ix_ld (c := .int .i64) (xs := [a]) o5.in (by decide) (x := a) rfl fun p => ⟨?_, S4.ext e5⟩
      rw [hsp, hr, ha]
      rfl
    · refine ⟨?_, S4⟩
      rw [hsp, hr]; rfl
  · rintro _ w5 ⟨rfl, S5⟩
    have e05 := (e1.trans e2).trans S5.upd
    refine sif_r (fun hr => S5.ld 0 rfl (x := (((msr ((aOf e M).take n)).breaks : Nat) : Int)) rfl ?_) (fun hr => S5.ld 0 rfl (x := (((msr ((aOf e M).take n)).breaks : Nat) : Int)) rfl ?_)
    · have hr' : split13 (atoms (aOf e M)) n = true := hr
      rw [hb, hr', wrap64 (by simp only [if_true]; omega) (by simp only [if_true]; omega)]
      have : ((nb (atoms (aOf e M)) n + (if true = true then 1 else 0) : Nat) : Int) - 1 = ((nb (atoms (aOf e M)) n : Nat) : Int) := by simp
      rw [this]; exact hK w5 e05
    · have hr' : split13 (atoms (aOf e M)) n = false := hr
      rw [hb, hr']
      exact hK w5 e05
theorem least (P : Nat → Prop) [DecidablePred P] : ∀ n, P n → ∃ j, j ≤ n ∧ P j ∧ ∀ i, i < j → ¬ P i := by
  intro n
  induction n using Nat.strongRecOn with
  | ind n ih =>
    intro hn
    by_cases h : ∃ i, i < n ∧ P i
    · obtain ⟨i, hi, hp⟩ := h
      obtain ⟨j, h1, h2, h3⟩ := ih i hi hp
      exact ⟨j, by omega, h2, h3⟩
    · exact ⟨n, Nat.le_refl _, hn, fun i hi hp => h ⟨i, hi, hp⟩⟩
theorem brk_mono {l m : As} (h : Posd l) (h' : Posd m) : (msr l).breaks ≤ (msr (l ++ m)).breaks := by
  rw [msr_append h h']
  exact keyOf_mono (k := 1) (msr_ok h) (msr_ok h')
theorem brk_take_mono {L : As} (h : Posd L) {i j : Nat} (hij : i ≤ j) : (msr (L.take i)).breaks ≤ (msr (L.take j)).breaks := by
  obtain ⟨d, rfl⟩ : ∃ d, j = i + d := ⟨j - i, by omega⟩
  rw [List.take_add]
  exact brk_mono (h.take i) ((h.drop i).take d)
def skI (A : List Int) (k : Int) : Int := if k < 0 then -1 else match sk A k.toNat with | some m => (m : Int) | none => -1
set_option maxHeartbeats 1000000 in
theorem seek_call {k : Int} (h : Txt w p e lim na O M) {K : Int → World → Prop} (hK : ∀ w', Ext w w' → K (skI (atoms (aOf e M)) k) w') :
    callT Tryz.prog 67 #[.pointer (some (at0 p)), .int .i64 k] (.one (.one (.int .i64))) K w := by
  refine F67_calls ?_
  unfold F67
  have few := h.few; have lims := h.lims; have hsz := h.sz
  have hal : (atoms (aOf e M)).length = (aOf e M).length := List.length_map _
  have hpos := aOf_posd e M
  obtain ⟨t, ht, hi, hf, rd⟩ := h.tree
  refine sif_r (fun hc => ?_) (fun hc => ?_)
  · simp only [beq_iff_eq] at hc
    subst hc
    have := hK w (Ext.refl w)
    unfold skI at this
    have e0 : sk (atoms (aOf e M)) 0 = some 0 := by cases atoms (aOf e M) <;> rfl
    rw [if_neg (by decide), show (0 : Int).toNat = 0 by rfl, e0] at this
    exact this
  simp only [beq_eq_false_iff_ne] at hc
  have htb : (tot t.items).breaks = brs (atoms (aOf e M)) := by rw [hi.tot, msr_breaks hpos]
  refine join_r (fun x w' => x = (decide (k < 0) || decide (((brs (atoms (aOf e M)) : Nat) : Int) < k), ()) ∧ Ext w w') ?_ ?_
  · refine sif_r (fun hn => ⟨by rw [hn]; rfl, Ext.refl w⟩) (fun hn => rd (Ext.refl w) (tsum_call ht fun w1 e1 => ⟨?_, e1⟩))
    rw [hn, Bool.false_or, ← htb]; rfl
  rintro _ w1 ⟨rfl, e1⟩
  refine sif_r (fun hb => ?_) (fun hb => ?_)
  · have := hK w1 e1
    simp only [Bool.or_eq_true, decide_eq_true_eq] at hb
    unfold skI at this
    by_cases hn : k < 0
    · rw [if_pos hn] at this; exact this
    · rw [if_neg hn, sk_none _ _ (by omega)] at this; exact this
  simp only [Bool.or_eq_false_iff, decide_eq_false_iff_not] at hb
  obtain ⟨n, rfl⟩ : ∃ n : Nat, k = (n : Int) := ⟨k.toNat, by omega⟩
  have hn1 : 1 ≤ n := by omega
  have hnb : n ≤ brs (atoms (aOf e M)) := by omega
  have il := hi.len; have fl := hf.few
  have kk : ∀ j, keyOf 1 (tot (t.items.take j)) = (msr (aOf e (M.take j))).breaks := fun j => by
    have := (hi.take j).tot
    show (tot (t.items.take j)).breaks = _
    rw [this]
  obtain ⟨j, hjl, hj1, hj0⟩ := least (fun j => n ≤ keyOf 1 (tot (t.items.take j))) t.items.length (by
    show n ≤ keyOf 1 (tot (t.items.take t.items.length))
    rw [kk, il, List.take_length, msr_breaks hpos]; exact hnb)
  obtain ⟨i, rfl⟩ : ∃ i, j = i + 1 := by
    cases j with
    | zero =>
      have hj1' : n ≤ keyOf 1 (tot (t.items.take 0)) := hj1
      rw [kk, List.take_zero, msr_breaks (aOf_posd e _)] at hj1'
      exact absurd hj1' (by simp [aOf, brs]; omega)
    | succ i => exact ⟨i, rfl⟩
  have hfind : findI 1 n t.items = i + 1 := findI_eq hjl hj1 fun j hj => by have := hj0 j hj; omega
  have hlow : (msr (aOf e (M.take i))).breaks < n := by have := hj0 i (by omega); simp only [kk] at this; omega
  have hhigh : n ≤ (msr (aOf e (M.take (i + 1)))).breaks := by have h2 : n ≤ keyOf 1 (tot (t.items.take (i + 1))) := hj1; rw [kk] at h2; exact h2
  obtain ⟨x, hx⟩ : ∃ x, t.items[i]? = some x := ⟨_, List.getElem?_eq_getElem (by omega)⟩
  obtain ⟨y, hy, hp⟩ := hi.get i hx
  have hM1 : aOf e (M.take (i + 1)) = aOf e (M.take i) ++ ats e y.2 := by
    rw [List.take_add_one, hy, aOf_app]
    show _ ++ aOf e [y] = _
    simp [aOf]
  have hMA : aOf e M = aOf e (M.take (i + 1)) ++ aOf e (M.drop (i + 1)) := by rw [← aOf_app, List.take_append_drop]
  have htkq : ∀ q, q ≤ (ats e y.2).length → (aOf e M).take ((aOf e (M.take i)).length + q) = aOf e (M.take i) ++ (ats e y.2).take q := fun q hq => by
    rw [hMA, hM1, List.append_assoc, List.take_length_add_append, List.take_append_of_le_length hq]
  have hpi := aOf_posd e (M.take i)
  have hpy := ats_posd e y.2
  have hszs : szs (aOf e (M.take i)) + y.2.length ≤ lim := by
    have := congrArg szs hMA
    rw [szs_append, hM1, szs_append, szs_all] at this; omega
  refine rd e1 (find_call (k := 1) (n := n) (by decide) (by omega) (ht.ext e1) hf fun w2 e2 => ?_)
  have ew : IntKind.wrap .i64 (((i + 1 : Nat) : Int) - 1) = (i : Int) := by rw [wrap64 (by omega) (by omega)]; omega
  rw [hfind, ew]
  have e12 := e1.trans e2
  refine rd e12 (upto_call (ht.ext e12) hf (by omega) fun w3 e3 => ?_)
  have e13 := e12.trans e3
  have etk : tot (t.items.take i) = msr (aOf e (M.take i)) := (hi.take i).tot
  rw [etk]
  refine (St.start w3).newO fun b12 w4 S4 e4 => S4.aggSt 0 rfl rfl rfl rfl fun w5 S5 u5 => ?_
  refine rd (e13.trans S5.upd) (at_call (ht.ext (e13.trans S5.upd)) hf (by omega) fun w6 e6 => ?_)
  have e0 : atI t.items i = (x, true) := by unfold atI; rw [hx]
  rw [e0]
  refine (S5.ext e6).newO fun b16 w7 S7 e7 => S7.aggSt 0 rfl rfl rfl rfl fun w8 S8 u8 => ?_
  let Ls : Nat → List (Nat × Obj) := fun q => [(b16, .cells (Cells.vals c112 (pcT x)).toArray 112 (0, 0)), (b12, .cells (Cells.vals c110 (smT (msr (aOf e (M.take i) ++ (ats e y.2).take q)))).toArray 110 (0, 0))]
  have S8' : St (fun _ => False) w3 w8 (Ls 0) := by show St _ _ _ [_, _]; rw [List.take_zero, List.append_nil]; exact S8
  refine join_r (fun _ w' => ∃ q, q ≤ (ats e y.2).length ∧ n ≤ (msr (aOf e (M.take i) ++ (ats e y.2).take q)).breaks ∧ (∀ j, j < (aOf e (M.take i)).length + q → (msr ((aOf e M).take j)).breaks < n) ∧ St (fun _ => False) w3 w' (Ls q)) ?_ ?_
  · refine sloop_r (fun s w' => ∃ q, q ≤ (ats e y.2).length ∧ s = (((szs ((ats e y.2).take q) : Nat) : Int), ()) ∧ (∀ j, j < (aOf e (M.take i)).length + q → (msr ((aOf e M).take j)).breaks < n) ∧ St (fun _ => False) w3 w' (Ls q)) (fun s _ => ((y.2.length : Int) - s.1).toNat) ⟨0, Nat.zero_le _, rfl, fun j hj => ?_, S8'⟩ ?_
    · have h1 := brk_take_mono hpos (i := j) (j := (aOf e (M.take i)).length + 0) (by omega)
      rw [htkq 0 (Nat.zero_le _), List.take_zero, List.append_nil] at h1
      omega
    rintro _ w9 ⟨q, hq, rfl, hlt, S9⟩
    have hbl := hp.by_.len
    have hsy : szs ((ats e y.2).take q) ≤ y.2.length := pos_le q
    refine join_r (fun s w' => s = (decide (szs ((ats e y.2).take q) < y.2.length) && decide ((msr (aOf e (M.take i) ++ (ats e y.2).take q)).breaks < n), ()) ∧ w9 = w') ?_ ?_
    · refine S9.ld 0 rfl (x := x.bytes) rfl (sif_r (fun hc => S9.ld 1 rfl (x := (((msr (aOf e (M.take i) ++ (ats e y.2).take q)).breaks : Nat) : Int)) rfl ⟨tupb ?_, rfl⟩) (fun hc => ⟨tupb ?_, rfl⟩))
      · simp only [decide_eq_true_eq, Bool.and_eq_true] at hc ⊢; omega
      · simp only [decide_eq_false_iff_not, Bool.and_eq_true, decide_eq_true_eq] at hc ⊢
        constructor
        · intro h; cases h
        · intro h; omega
    rintro _ w10 ⟨rfl, rfl⟩
    refine sif_r (fun hc => ?_) (fun hc => ?_)
    · simp only [Bool.and_eq_true, decide_eq_true_eq] at hc
      obtain ⟨a, m, hqa, hnx, htk, hss, hm1, hsl⟩ := pos_step (e := e) (l := y.2) (j := q) hc.1
      have hql : q < (ats e y.2).length := (List.getElem?_eq_some_iff.1 hqa).1
      refine S9.drew fun w11 S11 e11 _ => ((h.ext e13).ext S11.upd).enc (S11.ld 0 rfl (x := x.bytes) rfl (next_call ((hp.by_.ext e13).ext S11.upd) hc.1 fun w12 e12 => ?_))
      rw [hnx]
      have S12 := S11.ext e12
      have pq := hpi.app (hpy.take q)
      refine S12.drew fun w13 S13 e13' _ => S13.lds 1 (smT _) rfl (single_call fun w14 e14 => ?_)
      have S14 := S13.ext e14
      refine S14.keeps 1 rfl (add_call (msr_ok pq) (one1_ok a hm1) ?_ fun w15 e15 => ?_)
      · rw [msr_bytes pq, szs_append]
        show szs (aOf e (M.take i)) + szs ((ats e y.2).take q) + m < 2 ^ 60
        omega
      have S15 := S14.ext e15
      rw [← msr_snoc pq hm1, List.append_assoc, ← htk]
      refine S15.aggSt 1 rfl rfl rfl rfl fun w16 S16 u16 => ?_
      have ewa : IntKind.wrap .i64 (((szs ((ats e y.2).take q) : Nat) : Int) + (m : Int)) = ((szs ((ats e y.2).take (q + 1)) : Nat) : Int) := by
        rw [wrap64 (by omega) (by omega)]; omega
      refine ⟨⟨q + 1, by omega, by dsimp only; rw [ewa], fun j hj => ?_, S16⟩, ?_⟩
      · by_cases hjq : j < (aOf e (M.take i)).length + q
        · exact hlt j hjq
        · have : j = (aOf e (M.take i)).length + q := by omega
          subst this
          rw [htkq q (by omega)]; exact hc.2
      · dsimp only
        rw [ewa]; omega
    · refine ⟨q, hq, ?_, hlt, S9⟩
      by_cases hb : (msr (aOf e (M.take i) ++ (ats e y.2).take q)).breaks < n
      · have hnl : ¬ szs ((ats e y.2).take q) < y.2.length := fun h2 => by simp [h2, hb] at hc
        rw [pos_end hnl, ← hM1]; exact hhigh
      · omega
  · rintro _ w9 ⟨q, hq, hge, hlt, S9⟩
    have hatoms : (msr (aOf e (M.take i) ++ (ats e y.2).take q)).atoms = (aOf e (M.take i)).length + q := by
      rw [msr_atoms (hpi.app (hpy.take q)), List.length_append, List.length_take]; omega
    have htk := htkq q hq
    have hmle : (aOf e (M.take i)).length + q ≤ (aOf e M).length := by
      have := congrArg List.length hMA
      rw [List.length_append, hM1, List.length_append] at this; omega
    rw [← htk] at hge hatoms
    have S9' : St (fun _ => False) w3 w9 [(b16, .cells (Cells.vals c112 (pcT x)).toArray 112 (0, 0)), (b12, .cells (Cells.vals c110 (smT (msr ((aOf e M).take ((aOf e (M.take i)).length + q))))).toArray 110 (0, 0))] := by rw [htk]; exact S9
    generalize hm : (aOf e (M.take i)).length + q = m at *
    have hm0 : 0 < m := by
      rcases Nat.eq_zero_or_pos m with h0 | h0
      · subst h0; rw [List.take_zero] at hge
        have : (msr []).breaks = 0 := rfl
        omega
      · exact h0
    have hres : sk (atoms (aOf e M)) n = some (if split13 (atoms (aOf e M)) m then m + 1 else m) := by
      refine sk_of _ n m hn1 (by omega) ?_ fun j hj => ?_
      · rw [← atoms_take, ← msr_breaks (hpos.take m)]; exact hge
      · rw [← atoms_take, ← msr_breaks (hpos.take j)]; exact hlt j hj
    have hsp := cr_split hpos (n := m) hm0 (by omega)
    have hres2 : skI (atoms (aOf e M)) (n : Int) = if split13 (atoms (aOf e M)) m then (m : Int) + 1 else (m : Int) := by
      unfold skI
      rw [if_neg (by omega), Int.toNat_natCast, hres]
      dsimp only
      split <;> omega
    rw [hres2] at hK
    have ea : ∀ {P : Int → World → Prop} {W : World}, P (m : Int) W → P (((msr ((aOf e M).take m)).atoms : Nat) : Int) W := by
      intro P W hP; rw [hatoms]; exact hP
    refine S9'.ld 1 rfl (x := (((msr ((aOf e M).take m)).atoms : Nat) : Int)) rfl (S9'.ld 1 rfl (x := (((msr ((aOf e M).take m)).atoms : Nat) : Int)) rfl ?_)
    rw [hatoms]
    have ew1 : IntKind.wrap .i64 ((m : Int) + 1) = (m : Int) + 1 := wrap64 (by omega) (by omega)
    rw [ew1]
    refine atoms_call ((h.ext e13).ext S9'.upd) fun s w10 o10 e10 => ?_
    have S10 := S9'.ext e10
    rw [sub_one] at o10
    refine join_r (fun x w' => x = (split13 (atoms (aOf e M)) m, ()) ∧ w10 = w') ?_ ?_
    · refine S10.ld 1 rfl (x := (msr ((aOf e M).take m)).cr) rfl (sif_r (fun hr => ?_) (fun hr => ?_))
      · rw [hsp, hr, Bool.true_and]
        cases ha : (atoms (aOf e M))[m]? with
        | none =>
          rw [take_none ha] at o10
          have hl := o10.len1
          refine sif_r (fun hc => ?_) (fun hc => ⟨rfl, rfl⟩)
          simp only [beq_iff_eq] at hc
          simp at hl; omega
        | some a =>
          rw [take_one ha] at o10
          have hl := o10.len1
          refine sif_r (fun hc => ix_ld (c := .int .i64) (xs := [a]) o10.in (by decide) (x := a) rfl fun p => ⟨rfl, rfl⟩) (fun hc => ?_)
          simp only [beq_eq_false_iff_ne] at hc
          simp at hl; omega
      · rw [hsp, hr]; exact ⟨rfl, rfl⟩
    rintro _ w11 ⟨rfl, rfl⟩
    have e0 := (e13.trans S10.upd)
    refine sif_r (fun hr => S10.ld 1 rfl (x := (((msr ((aOf e M).take m)).atoms : Nat) : Int)) rfl ?_) (fun hr => S10.ld 1 rfl (x := (((msr ((aOf e M).take m)).atoms : Nat) : Int)) rfl ?_)
    · rw [hatoms, ew1]
      have := hK w10 e0
      rw [if_pos hr] at this
      exact this
    · rw [hatoms]
      have := hK w10 e0
      have hr' : split13 (atoms (aOf e M)) m = false := hr
      rw [if_neg (by rw [hr']; decide)] at this
      exact this
end
end Go.Proofs.YtabcpghhfeplaaaGreat
set_option linter.unusedSimpArgs false
set_option linter.unusedVariables false
set_option maxRecDepth 100000
set_option linter.unusedVariables false
namespace Go.Proofs.YtabcpghhfeplaaaGreat
open Go Go.Vx
noncomputable def F19 (a0 : Option Addr) (a1 : Int) (a2 : (Int × Int × Int × Unit)) (K : ((Int × Int × Int × Unit) × Int × Unit) → World → Prop) : World → Prop :=
 newO (.cells #[(.int .i64 a2.1), (.int .i64 a2.2.1), (.int .i64 a2.2.2.1)] 39) fun b1 =>
 newO (.cells #[(.int .i64 (0 : Int)), (.int .i64 (0 : Int)), (.int .i64 (0 : Int))] 34) fun b2 =>
 lds c39 (at0 b1) fun (x3 : (Int × Int × Int × Unit)) =>
 callT Tryz.prog 37 #[(.pointer a0), (.int .i64 a1), (.agg (Cells.vals c39 x3).toArray), (.int .i64 (67 : Int)), (.int .i64 (68 : Int))] (.one (.one (.int .i64))) fun (x4 : Int) =>
 ld (.int .i64) (⟨b1, 2, none⟩ : Addr) fun (x5 : Int) =>
 callT Tryz.prog 38 #[(.int .i64 x5)] (.tup [(.one (.int .i64)), (.one .bool)]) fun (x6 : (Int × Bool × Unit)) =>
 join (S := Bool × Unit) (fun J7 =>
 sif (x4 == (1 : Int)) (
 J7 (true, ())) (
 J7 ((!x6.2.1), ()))) fun (s8 : Bool × Unit) =>
 sif s8.1 (
 aggSt (at0 b2) (.agg #[(.int .i64 (0 : Int)), (.int .i64 (0 : Int)), (.int .i64 (0 : Int))]) 3 <|
 lds c34 (at0 b2) fun (x9 : (Int × Int × Int × Unit)) =>
 K (x9, (1 : Int), ())) (
 sif (x4 != (0 : Int)) (
 aggSt (at0 b2) (.agg #[(.int .i64 (0 : Int)), (.int .i64 (0 : Int)), (.int .i64 (0 : Int))]) 3 <|
 lds c34 (at0 b2) fun (x10 : (Int × Int × Int × Unit)) =>
 K (x10, x4, ())) (
 callT Tryz.prog 40 #[(.pointer a0)] (.one (.one (.int .i64))) fun (x11 : Int) =>
 callT Tryz.prog 23 #[(.pointer a0), (.int .i64 (0 : Int)), (.int .i64 x11)] (.one (.one .sl)) fun (x12 : Sl) =>
 callT Tryz.prog 39 #[(.slice x12.a x12.len x12.cap), (.int .i64 (0 : Int))] (.one (.one .sl)) fun (x13 : Sl) =>
 join (S := Int × Unit) (fun J14 =>
 sloop (S := Int × Unit) (fun (s16 : Int × Unit) again17 =>
 join (S := Bool × Unit) (fun J18 =>
 sif (decide (s16.1 < ((x13.len : Nat) : Int))) (
 ix x13.a x13.len s16.1 fun p20 =>
 ld (.int .i64) ((p20.add (scaled (Int.toNat s16.1) 5)).add 1) fun (x21 : Int) =>
 J18 ((decide (a1 ≥ x21)), ())) (
 J18 (false, ()))) fun (s19 : Bool × Unit) =>
 sif s19.1 (
 again17 ((IntKind.wrap .i64 (s16.1 + (1 : Int))), ())) (
 J14 (s16.1, ()))) ((0 : Int), ())) fun (s15 : Int × Unit) =>
 join (S := Bool × Unit) (fun J22 =>
 sif (s15.1 == ((x13.len : Nat) : Int)) (
 J22 (true, ())) (
 lds c39 (at0 b1) fun (x24 : (Int × Int × Int × Unit)) =>
 callT Tryz.prog 41 #[(.agg (Cells.vals c39 x24).toArray)] (.one (.one (.int .i64))) fun (x25 : Int) =>
 J22 ((decide (x25 > ((x13.len : Nat) : Int))), ()))) fun (s23 : Bool × Unit) =>
 sif s23.1 (
 aggSt (at0 b2) (.agg #[(.int .i64 (0 : Int)), (.int .i64 (0 : Int)), (.int .i64 (0 : Int))]) 3 <|
 lds c34 (at0 b2) fun (x26 : (Int × Int × Int × Unit)) =>
 K (x26, (90 : Int), ())) (
 join (S := Int × Int × Unit) (fun J27 =>
 drew <|
 ix x13.a x13.len s15.1 fun p29 =>
 lds c72 (p29.add (scaled (Int.toNat s15.1) 5)) fun (x30 : (Int × Int × Int × Bool × Int × Unit)) =>
 ld (.int .i64) (⟨b1, 2, none⟩ : Addr) fun (x31 : Int) =>
 callT Tryz.prog 42 #[(.agg (Cells.vals c72 x30).toArray), (.int .i64 x31)] (.one (.one .bool)) fun (x32 : Bool) =>
 sif x32 (
 J27 (s15.1, (IntKind.wrap .i64 (s15.1 + (1 : Int))), ())) (
 J27 ((IntKind.wrap .i64 (s15.1 - (1 : Int))), s15.1, ()))) fun (s28 : Int × Int × Unit) =>
 drew <|
 ld (.int .i64) (⟨b1, 2, none⟩ : Addr) fun (x33 : Int) =>
 lds c39 (at0 b1) fun (x34 : (Int × Int × Int × Unit)) =>
 callT Tryz.prog 41 #[(.agg (Cells.vals c39 x34).toArray)] (.one (.one (.int .i64))) fun (x35 : Int) =>
 keep (fun w => w.cell? (⟨b1, 2, none⟩ : Addr) = some (Cell.val (.int .i64) x33)) <|
 callT Tryz.prog 43 #[(.slice x13.a x13.len x13.cap), (.int .i64 s28.1), (.int .i64 (-1 : Int)), (.int .i64 x33), (.int .i64 x6.1), (.int .i64 x35)] (.one (.one (.int .i64))) fun (x36 : Int) =>
 drew <|
 ld (.int .i64) (⟨b1, 2, none⟩ : Addr) fun (x37 : Int) =>
 lds c39 (at0 b1) fun (x38 : (Int × Int × Int × Unit)) =>
 callT Tryz.prog 41 #[(.agg (Cells.vals c39 x38).toArray)] (.one (.one (.int .i64))) fun (x39 : Int) =>
 keep (fun w => w.cell? (⟨b1, 2, none⟩ : Addr) = some (Cell.val (.int .i64) x37)) <|
 callT Tryz.prog 43 #[(.slice x13.a x13.len x13.cap), (.int .i64 s28.2.1), (.int .i64 (1 : Int)), (.int .i64 x6.1), (.int .i64 x37), (.int .i64 x39)] (.one (.one (.int .i64))) fun (x40 : Int) =>
 join (S := Bool × Unit) (fun J41 =>
 sif (decide (x36 < (0 : Int))) (
 J41 (true, ())) (
 J41 ((decide (x40 < (0 : Int))), ()))) fun (s42 : Bool × Unit) =>
 sif s42.1 (
 aggSt (at0 b2) (.agg #[(.int .i64 (0 : Int)), (.int .i64 (0 : Int)), (.int .i64 (0 : Int))]) 3 <|
 lds c34 (at0 b2) fun (x43 : (Int × Int × Int × Unit)) =>
 K (x43, (90 : Int), ())) (
 ld (.int .i64) (at0 b1) fun (x44 : Int) =>
 sif (x44 == (67 : Int)) (
 drew <|
 ix x13.a x13.len x36 fun p45 =>
 lds c72 (p45.add (scaled (Int.toNat x36) 5)) fun (x46 : (Int × Int × Int × Bool × Int × Unit)) =>
 ix x13.a x13.len x40 fun p47 =>
 lds c72 (p47.add (scaled (Int.toNat x40) 5)) fun (x48 : (Int × Int × Int × Bool × Int × Unit)) =>
 callT Tryz.prog 44 #[(.pointer a0), (.agg (Cells.vals c72 x46).toArray), (.agg (Cells.vals c72 x48).toArray)] (.one (.agg c34)) fun (x49 : (Int × Int × Int × Unit)) =>
 aggSt (at0 b2) (.agg (Cells.vals c34 x49).toArray) 3 <|
 lds c34 (at0 b2) fun (x50 : (Int × Int × Int × Unit)) =>
 K (x50, (0 : Int), ())) (
 drew <|
 ix x13.a x13.len x36 fun p51 =>
 ld (.int .i64) (p51.add (scaled (Int.toNat x36) 5)) fun (x52 : Int) =>
 ix x13.a x13.len x40 fun p53 =>
 ld (.int .i64) ((p53.add (scaled (Int.toNat x40) 5)).add 1) fun (x54 : Int) =>
 aggSt (at0 b2) (.agg #[(.int .i64 x52), (.int .i64 x54), (.int .i64 (0 : Int))]) 3 <|
 lds c34 (at0 b2) fun (x55 : (Int × Int × Int × Unit)) =>
 K (x55, (0 : Int), ()))))))
noncomputable def h19 : Hint := (.seq none (.region [] (.ops 3 .done)) (.seq none (.region [] (.ops 5 .done)) (.seq none (.region [] (.ops 8 .done)) (.seq none (.seq (some (8455716864, [(32, (.one .bool))])) (.region [] (.ops 3 (.split 29 (.skips 2 (.ops 1 .done)) (.ops 3 .done)))) (.cond none (.seq none (.region [] (.ops 3 .done)) .leaf) .leaf)) (.seq none (.seq none (.region [] (.ops 2 .done)) (.cond none (.seq none (.region [] (.ops 4 .done)) .leaf) .leaf)) (.seq none (.region [] (.ops 6 .done)) (.seq none (.region [] (.ops 1 .done)) (.seq (some (288221580058693632, [(12, (.one (.int .i64)))])) (.block (.loop 288221580058693632 [(12, (.one (.int .i64)))] (.seq none (.seq (some (72048797944905728, [(55, (.one .bool))])) (.region [] (.ops 5 (.split 47 (.ops 8 .done) (.skips 7 (.ops 1 .done))))) (.cond none .leaf .leaf)) (.block (.region [] (.ops 3 .done)))))) (.seq none (.seq (some (590007579982553939968, [(68, (.one .bool))])) (.region [] (.ops 5 (.split 62 (.skips 5 (.ops 1 .done)) (.ops 6 .done)))) (.cond none (.seq none (.region [] (.ops 3 .done)) .leaf) .leaf)) (.seq none (.region [] (.ops 6 .done)) (.seq (some (9652517090985554816819200, [(13, (.one (.int .i64))), (14, (.one (.int .i64)))])) (.seq none (.region [0, 1, 2, 3, 4, 5, 6] (.ops 7 .done)) (.cond none (.region [] (.ops 2 .done)) (.region [] (.ops 2 .done)))) (.seq none (.region [0, 1, 2, 3, 4, 5, 6, 7, 8] (.ops 9 .done)) (.seq none (.region [0, 1, 2, 3, 4, 5, 6, 7, 8] (.ops 9 .done)) (.seq none (.block (.seq (some (80495813114492566995040653541376, [(99, (.one .bool))])) (.region [] (.ops 3 (.split 102 (.skips 2 (.ops 2 .done)) (.ops 4 .done)))) (.cond none (.seq none (.region [] (.ops 3 .done)) .leaf) (.seq none (.region [] (.ops 4 .done)) (.cond none (.seq none (.region [0, 1, 2, 3, 4, 5, 6, 7, 8, 9, 10, 11] (.ops 12 .done)) .leaf) .leaf))))) (.seq none (.region [0, 1, 2, 3, 4, 5, 6, 7, 8, 9, 10, 11, 12] (.ops 13 .done)) .leaf)))))))))))))))
theorem F19_tie (a0 : Option Addr) (a1 : Int) (a2 : (Int × Int × Int × Unit)) (K : ((Int × Int × Int × Unit) × Int × Unit) → World → Prop) : vcgF tab Tryz.prog Tryz.f19 h19 [(.pointer a0), (.int .i64 a1), (.agg (Cells.vals c39 a2).toArray)] (.tup [(.agg c34), (.one (.int .i64))]) K = F19 a0 a1 a2 K := by kernel_rfl
theorem F19_calls {a0 : Option Addr} {a1 : Int} {a2 : (Int × Int × Int × Unit)} {K : ((Int × Int × Int × Unit) × Int × Unit) → World → Prop} {w : World} (h : F19 a0 a1 a2 K w) : callT Tryz.prog 19 #[(.pointer a0), (.int .i64 a1), (.agg (Cells.vals c39 a2).toArray)] (.tup [(.agg c34), (.one (.int .i64))]) K w :=
  vcgF_sound tabOk Tryz.func19 h19 [(.pointer a0), (.int .i64 a1), (.agg (Cells.vals c39 a2).toArray)] (.tup [(.agg c34), (.one (.int .i64))]) K w (Eq.mpr (congrFun (F19_tie a0 a1 a2 K) w) h)
noncomputable def F20 (a0 : Option Addr) (a1 : Int) (a2 : (Int × Int × Int × Unit)) (K : ((Int × Int × Int × Unit) × Int × Unit) → World → Prop) : World → Prop :=
 newO (.cells #[(.int .i64 a2.1), (.int .i64 a2.2.1), (.int .i64 a2.2.2.1)] 39) fun b1 =>
 newO (.cells #[(.int .i64 (0 : Int)), (.int .i64 (0 : Int)), (.int .i64 (0 : Int))] 34) fun b2 =>
 ld (.int .i64) (at0 b1) fun (x3 : Int) =>
 sif (decide (x3 ≤ (64 : Int))) (
 lds c39 (at0 b1) fun (x4 : (Int × Int × Int × Unit)) =>
 callT Tryz.prog 29 #[(.pointer a0), (.int .i64 a1), (.agg (Cells.vals c39 x4).toArray)] (.tup [(.agg c34), (.one (.int .i64))]) fun (x5 : ((Int × Int × Int × Unit) × Int × Unit)) =>
 aggSt (at0 b2) (.agg (Cells.vals c34 x5.1).toArray) 3 <|
 lds c34 (at0 b2) fun (x6 : (Int × Int × Int × Unit)) =>
 K (x6, x5.2.1, ())) (
 ld (.int .i64) (at0 b1) fun (x7 : Int) =>
 sif (decide (x7 ≤ (66 : Int))) (
 lds c39 (at0 b1) fun (x8 : (Int × Int × Int × Unit)) =>
 callT Tryz.prog 31 #[(.pointer a0), (.int .i64 a1), (.agg (Cells.vals c39 x8).toArray)] (.tup [(.agg c34), (.one (.int .i64))]) fun (x9 : ((Int × Int × Int × Unit) × Int × Unit)) =>
 aggSt (at0 b2) (.agg (Cells.vals c34 x9.1).toArray) 3 <|
 lds c34 (at0 b2) fun (x10 : (Int × Int × Int × Unit)) =>
 K (x10, x9.2.1, ())) (
 ld (.int .i64) (at0 b1) fun (x11 : Int) =>
 sif (decide (x11 ≤ (68 : Int))) (
 lds c39 (at0 b1) fun (x12 : (Int × Int × Int × Unit)) =>
 callT Tryz.prog 19 #[(.pointer a0), (.int .i64 a1), (.agg (Cells.vals c39 x12).toArray)] (.tup [(.agg c34), (.one (.int .i64))]) fun (x13 : ((Int × Int × Int × Unit) × Int × Unit)) =>
 aggSt (at0 b2) (.agg (Cells.vals c34 x13.1).toArray) 3 <|
 lds c34 (at0 b2) fun (x14 : (Int × Int × Int × Unit)) =>
 K (x14, x13.2.1, ())) (
 lds c39 (at0 b1) fun (x15 : (Int × Int × Int × Unit)) =>
 callT Tryz.prog 33 #[(.pointer a0), (.int .i64 a1), (.agg (Cells.vals c39 x15).toArray)] (.tup [(.agg c34), (.one (.int .i64))]) fun (x16 : ((Int × Int × Int × Unit) × Int × Unit)) =>
 aggSt (at0 b2) (.agg (Cells.vals c34 x16.1).toArray) 3 <|
 lds c34 (at0 b2) fun (x17 : (Int × Int × Int × Unit)) =>
 K (x17, x16.2.1, ()))))
noncomputable def h20 : Hint := (.seq none (.region [] (.ops 3 .done)) (.seq none (.block (.seq none (.region [] (.ops 4 .done)) (.cond none (.seq none (.region [] (.ops 8 .done)) .leaf) (.seq none (.region [] (.ops 4 .done)) (.cond none (.seq none (.region [] (.ops 8 .done)) .leaf) (.seq none (.region [] (.ops 4 .done)) (.cond none (.seq none (.region [] (.ops 8 .done)) .leaf) .leaf))))))) (.seq none (.region [] (.ops 8 .done)) .leaf)))
theorem F20_tie (a0 : Option Addr) (a1 : Int) (a2 : (Int × Int × Int × Unit)) (K : ((Int × Int × Int × Unit) × Int × Unit) → World → Prop) : vcgF tab Tryz.prog Tryz.f20 h20 [(.pointer a0), (.int .i64 a1), (.agg (Cells.vals c39 a2).toArray)] (.tup [(.agg c34), (.one (.int .i64))]) K = F20 a0 a1 a2 K := by kernel_rfl
theorem F20_calls {a0 : Option Addr} {a1 : Int} {a2 : (Int × Int × Int × Unit)} {K : ((Int × Int × Int × Unit) × Int × Unit) → World → Prop} {w : World} (h : F20 a0 a1 a2 K w) : callT Tryz.prog 20 #[(.pointer a0), (.int .i64 a1), (.agg (Cells.vals c39 a2).toArray)] (.tup [(.agg c34), (.one (.int .i64))]) K w :=
  vcgF_sound tabOk Tryz.func20 h20 [(.pointer a0), (.int .i64 a1), (.agg (Cells.vals c39 a2).toArray)] (.tup [(.agg c34), (.one (.int .i64))]) K w (Eq.mpr (congrFun (F20_tie a0 a1 a2 K) w) h)
noncomputable def F29 (a0 : Option Addr) (a1 : Int) (a2 : (Int × Int × Int × Unit)) (K : ((Int × Int × Int × Unit) × Int × Unit) → World → Prop) : World → Prop :=
 newO (.cells #[(.int .i64 a2.1), (.int .i64 a2.2.1), (.int .i64 a2.2.2.1)] 39) fun b1 =>
 newO (.cells #[(.int .i64 (0 : Int)), (.int .i64 (0 : Int)), (.int .i64 (0 : Int))] 34) fun b2 =>
 lds c39 (at0 b1) fun (x3 : (Int × Int × Int × Unit)) =>
 callT Tryz.prog 37 #[(.pointer a0), (.int .i64 a1), (.agg (Cells.vals c39 x3).toArray), (.int .i64 (61 : Int)), (.int .i64 (64 : Int))] (.one (.one (.int .i64))) fun (x4 : Int) =>
 sif (x4 != (0 : Int)) (
 aggSt (at0 b2) (.agg #[(.int .i64 (0 : Int)), (.int .i64 (0 : Int)), (.int .i64 (0 : Int))]) 3 <|
 lds c34 (at0 b2) fun (x5 : (Int × Int × Int × Unit)) =>
 K (x5, x4, ())) (
 callT Tryz.prog 51 #[(.pointer a0), (.int .i64 a1)] (.tup [(.one .sl), (.one (.int .i64))]) fun (x6 : (Sl × Int × Unit)) =>
 newO (.cells #[(.slice none 0 0)] 68) fun b7 =>
 stC (at0 b7) (.slice x6.1.a x6.1.len x6.1.cap) <|
 sif (decide (x6.2.1 < (0 : Int))) (
 aggSt (at0 b2) (.agg #[(.int .i64 (0 : Int)), (.int .i64 (0 : Int)), (.int .i64 (0 : Int))]) 3 <|
 lds c34 (at0 b2) fun (x8 : (Int × Int × Int × Unit)) =>
 K (x8, (90 : Int), ())) (
 join (S := Addr × Unit) (fun J9 =>
 ld (.int .i64) (at0 b1) fun (x11 : Int) =>
 sif (x11 == (63 : Int)) (
 newO (.cells #[(.bool false)] 4) fun b12 =>
 stC (at0 b12) (.bool true) <|
 J9 ((at0 b12), ())) (
 ld (.int .i64) (at0 b1) fun (x13 : Int) =>
 newO (.cells #[(.bool false)] 4) fun b14 =>
 stC (at0 b14) (.bool (x13 == (64 : Int))) <|
 J9 ((at0 b14), ()))) fun (s10 : Addr × Unit) =>
 ld (.sl) (at0 b7) fun (x15 : Sl) =>
 newO (.cells #[(.int .i64 (0 : Int)), .nilFunc] 89) fun b16 =>
 aggSt (at0 b16) (.agg #[(.int .i64 ((x15.len : Nat) : Int)), (.func (Fn.func 52) #[] #[(.pointer (some s10.1)), (.pointer (some (at0 b7)))])]) 2 <|
 lds c89 (at0 b16) fun (x17 : (Int × Value × Unit)) =>
 join (S := Value × Unit) (fun J18 =>
 join (S := Bool × Unit) (fun J20 =>
 ld (.int .i64) (at0 b1) fun (x22 : Int) =>
 sif (x22 == (62 : Int)) (
 J20 (true, ())) (
 ld (.int .i64) (at0 b1) fun (x23 : Int) =>
 J20 ((x23 == (64 : Int)), ()))) fun (s21 : Bool × Unit) =>
 sif s21.1 (
 lds c89 (at0 b16) fun (x24 : (Int × Value × Unit)) =>
 J18 ((.func (Fn.func 54) #[(.agg (Cells.vals c89 x24).toArray)] #[]), ())) (
 J18 ((.func (Fn.func 53) #[(.agg (Cells.vals c89 x17).toArray)] #[]), ()))) fun (s19 : Value × Unit) =>
 lds c39 (at0 b1) fun (x25 : (Int × Int × Int × Unit)) =>
 callT Tryz.prog 41 #[(.agg (Cells.vals c39 x25).toArray)] (.one (.one (.int .i64))) fun (x26 : Int) =>
 callX Tryz.prog (do let d ← Deferred.ofValue s19.1 #[(.int .i64 x6.2.1), (.int .i64 x26)]; invoke d.target d.args : Sem Next) (.tup [(.one (.int .i64)), (.one (.int .i64)), (.one .bool)]) fun (x27 : (Int × Int × Bool × Unit)) =>
 sif (!x27.2.2.1) (
 aggSt (at0 b2) (.agg #[(.int .i64 (0 : Int)), (.int .i64 (0 : Int)), (.int .i64 (0 : Int))]) 3 <|
 lds c34 (at0 b2) fun (x28 : (Int × Int × Int × Unit)) =>
 K (x28, (90 : Int), ())) (
 drew <|
 ld (.sl) (at0 b7) fun (x29 : Sl) =>
 ix x29.a x29.len x27.1 fun p30 =>
 ld (.int .i64) (p30.add (scaled (Int.toNat x27.1) 5)) fun (x31 : Int) =>
 ld (.sl) (at0 b7) fun (x32 : Sl) =>
 ix x32.a x32.len (IntKind.wrap .i64 (x27.2.1 - (1 : Int))) fun p33 =>
 ld (.int .i64) ((p33.add (scaled (Int.toNat (IntKind.wrap .i64 (x27.2.1 - (1 : Int)))) 5)).add 1) fun (x34 : Int) =>
 aggSt (at0 b2) (.agg #[(.int .i64 x31), (.int .i64 x34), (.int .i64 (0 : Int))]) 3 <|
 lds c34 (at0 b2) fun (x35 : (Int × Int × Int × Unit)) =>
 K (x35, (0 : Int), ()))))
noncomputable def h29 : Hint := (.seq none (.region [] (.ops 3 .done)) (.seq none (.seq none (.region [] (.ops 5 .done)) (.seq none (.region [] (.ops 2 .done)) (.cond none (.seq none (.region [] (.ops 4 .done)) .leaf) .leaf))) (.seq none (.region [] (.ops 9 .done)) (.seq none (.seq none (.region [] (.ops 2 .done)) (.cond none (.seq none (.region [] (.ops 3 .done)) .leaf) .leaf)) (.seq (some (4380866643968, [(11, (.one .addr))])) (.region [] (.ops 4 (.split 37 (.skips 3 (.ops 3 .done)) (.ops 6 .done)))) (.seq none (.region [] (.ops 6 .done)) (.seq none (.region [] (.ops 3 .done)) (.seq (some (287948901175009280, [(13, (.one .any))])) (.seq (some (71776119061217280, [(55, (.one .bool))])) (.region [] (.ops 4 (.split 51 (.skips 3 (.ops 1 .done)) (.ops 4 .done)))) (.cond none (.region [] (.ops 3 .done)) .leaf)) (.seq none (.region [] (.ops 12 .done)) (.seq none (.seq none (.region [] (.ops 2 .done)) (.cond none (.seq none (.region [] (.ops 3 .done)) .leaf) .leaf)) (.seq none (.region [0, 1, 2, 3, 4, 5, 6, 7, 8, 9, 10, 11, 12, 13] (.ops 14 .done)) .leaf)))))))))))
theorem F29_tie (a0 : Option Addr) (a1 : Int) (a2 : (Int × Int × Int × Unit)) (K : ((Int × Int × Int × Unit) × Int × Unit) → World → Prop) : vcgF tab Tryz.prog Tryz.f29 h29 [(.pointer a0), (.int .i64 a1), (.agg (Cells.vals c39 a2).toArray)] (.tup [(.agg c34), (.one (.int .i64))]) K = F29 a0 a1 a2 K := by kernel_rfl
theorem F29_calls {a0 : Option Addr} {a1 : Int} {a2 : (Int × Int × Int × Unit)} {K : ((Int × Int × Int × Unit) × Int × Unit) → World → Prop} {w : World} (h : F29 a0 a1 a2 K w) : callT Tryz.prog 29 #[(.pointer a0), (.int .i64 a1), (.agg (Cells.vals c39 a2).toArray)] (.tup [(.agg c34), (.one (.int .i64))]) K w :=
  vcgF_sound tabOk Tryz.func29 h29 [(.pointer a0), (.int .i64 a1), (.agg (Cells.vals c39 a2).toArray)] (.tup [(.agg c34), (.one (.int .i64))]) K w (Eq.mpr (congrFun (F29_tie a0 a1 a2 K) w) h)
noncomputable def F31 (a0 : Option Addr) (a1 : Int) (a2 : (Int × Int × Int × Unit)) (K : ((Int × Int × Int × Unit) × Int × Unit) → World → Prop) : World → Prop :=
 newO (.cells #[(.int .i64 a2.1), (.int .i64 a2.2.1), (.int .i64 a2.2.2.1)] 39) fun b1 =>
 newO (.cells #[(.int .i64 (0 : Int)), (.int .i64 (0 : Int)), (.int .i64 (0 : Int))] 34) fun b2 =>
 lds c39 (at0 b1) fun (x3 : (Int × Int × Int × Unit)) =>
 callT Tryz.prog 37 #[(.pointer a0), (.int .i64 a1), (.agg (Cells.vals c39 x3).toArray), (.int .i64 (65 : Int)), (.int .i64 (66 : Int))] (.one (.one (.int .i64))) fun (x4 : Int) =>
 join (S := Bool × Unit) (fun J5 =>
 sif (x4 == (1 : Int)) (
 J5 (true, ())) (
 ld (.int .i64) (⟨b1, 2, none⟩ : Addr) fun (x7 : Int) =>
 sif (x7 != (34 : Int)) (
 ld (.int .i64) (⟨b1, 2, none⟩ : Addr) fun (x8 : Int) =>
 sif (x8 != (39 : Int)) (
 ld (.int .i64) (⟨b1, 2, none⟩ : Addr) fun (x9 : Int) =>
 J5 ((x9 != (96 : Int)), ())) (
 J5 (false, ()))) (
 J5 (false, ())))) fun (s6 : Bool × Unit) =>
 sif s6.1 (
 aggSt (at0 b2) (.agg #[(.int .i64 (0 : Int)), (.int .i64 (0 : Int)), (.int .i64 (0 : Int))]) 3 <|
 lds c34 (at0 b2) fun (x10 : (Int × Int × Int × Unit)) =>
 K (x10, (1 : Int), ())) (
 sif (x4 != (0 : Int)) (
 aggSt (at0 b2) (.agg #[(.int .i64 (0 : Int)), (.int .i64 (0 : Int)), (.int .i64 (0 : Int))]) 3 <|
 lds c34 (at0 b2) fun (x11 : (Int × Int × Int × Unit)) =>
 K (x11, x4, ())) (
 callT Tryz.prog 51 #[(.pointer a0), (.int .i64 a1)] (.tup [(.one .sl), (.one (.int .i64))]) fun (x12 : (Sl × Int × Unit)) =>
 newO (.cells #[(.slice none 0 0)] 68) fun b13 =>
 stC (at0 b13) (.slice x12.1.a x12.1.len x12.1.cap) <|
 ld (.sl) (at0 b13) fun (x14 : Sl) =>
 ld (.int .i64) (⟨b1, 2, none⟩ : Addr) fun (x15 : Int) =>
 callT Tryz.prog 55 #[(.slice x14.a x14.len x14.cap), (.int .i64 x12.2.1), (.int .i64 x15)] (.tup [(.one (.int .i64)), (.one (.int .i64)), (.one .bool)]) fun (x16 : (Int × Int × Bool × Unit)) =>
 sif (!x16.2.2.1) (
 aggSt (at0 b2) (.agg #[(.int .i64 (0 : Int)), (.int .i64 (0 : Int)), (.int .i64 (0 : Int))]) 3 <|
 lds c34 (at0 b2) fun (x17 : (Int × Int × Int × Unit)) =>
 K (x17, (90 : Int), ())) (
 join (S := Bool × Unit) (fun J18 =>
 ld (.int .i64) (at0 b1) fun (x20 : Int) =>
 sif (x20 == (65 : Int)) (
 ld (.int .i64) (⟨b1, 1, none⟩ : Addr) fun (x21 : Int) =>
 J18 ((decide (x21 < (2 : Int))), ())) (
 J18 (false, ()))) fun (s19 : Bool × Unit) =>
 sif s19.1 (
 drew <|
 ld (.sl) (at0 b13) fun (x22 : Sl) =>
 ix x22.a x22.len x16.1 fun p23 =>
 ld (.int .i64) ((p23.add (scaled (Int.toNat x16.1) 5)).add 1) fun (x24 : Int) =>
 ld (.sl) (at0 b13) fun (x25 : Sl) =>
 ix x25.a x25.len x16.2.1 fun p26 =>
 ld (.int .i64) (p26.add (scaled (Int.toNat x16.2.1) 5)) fun (x27 : Int) =>
 aggSt (at0 b2) (.agg #[(.int .i64 x24), (.int .i64 x27), (.int .i64 (0 : Int))]) 3 <|
 lds c34 (at0 b2) fun (x28 : (Int × Int × Int × Unit)) =>
 K (x28, (0 : Int), ())) (
 join (S := Int × Int × Unit) (fun J29 =>
 ld (.int .i64) (at0 b1) fun (x31 : Int) =>
 sif (x31 == (66 : Int)) (
 join (S := Int × Unit) (fun J32 =>
 sloop (S := Int × Unit) (fun (s34 : Int × Unit) again35 =>
 callX Tryz.prog (do let d ← Deferred.ofValue (.func (Fn.func 56) #[] #[(.pointer (some (at0 b13)))]) #[(.int .i64 s34.1)]; invoke d.target d.args : Sem Next) (.one (.one .bool)) fun (x36 : Bool) =>
 sif x36 (
 again35 ((IntKind.wrap .i64 (s34.1 + (1 : Int))), ())) (
 J32 (s34.1, ()))) ((IntKind.wrap .i64 (x16.2.1 + (1 : Int))), ())) fun (s33 : Int × Unit) =>
 sloop (S := Int × Unit) (fun (s37 : Int × Unit) again38 =>
 join (S := Bool × Unit) (fun J39 =>
 sif (s33.1 == (IntKind.wrap .i64 (x16.2.1 + (1 : Int)))) (
 callX Tryz.prog (do let d ← Deferred.ofValue (.func (Fn.func 56) #[] #[(.pointer (some (at0 b13)))]) #[(.int .i64 (IntKind.wrap .i64 (s37.1 - (1 : Int))))]; invoke d.target d.args : Sem Next) (.one (.one .bool)) fun (x41 : Bool) =>
 J39 (x41, ())) (
 J39 (false, ()))) fun (s40 : Bool × Unit) =>
 sif s40.1 (
 again38 ((IntKind.wrap .i64 (s37.1 - (1 : Int))), ())) (
 J29 (s37.1, s33.1, ()))) (x16.1, ())) (
 J29 (x16.1, (IntKind.wrap .i64 (x16.2.1 + (1 : Int))), ()))) fun (s30 : Int × Int × Unit) =>
 drew <|
 ld (.sl) (at0 b13) fun (x42 : Sl) =>
 ix x42.a x42.len s30.1 fun p43 =>
 ld (.int .i64) (p43.add (scaled (Int.toNat s30.1) 5)) fun (x44 : Int) =>
 ld (.sl) (at0 b13) fun (x45 : Sl) =>
 ix x45.a x45.len (IntKind.wrap .i64 (s30.2.1 - (1 : Int))) fun p46 =>
 ld (.int .i64) ((p46.add (scaled (Int.toNat (IntKind.wrap .i64 (s30.2.1 - (1 : Int)))) 5)).add 1) fun (x47 : Int) =>
 aggSt (at0 b2) (.agg #[(.int .i64 x44), (.int .i64 x47), (.int .i64 (0 : Int))]) 3 <|
 lds c34 (at0 b2) fun (x48 : (Int × Int × Int × Unit)) =>
 K (x48, (0 : Int), ())))))
noncomputable def h31 : Hint := (.seq none (.region [] (.ops 3 .done)) (.seq none (.region [] (.ops 5 .done)) (.seq none (.seq (some (274875809792, [(37, (.one .bool))])) (.region [] (.ops 3 (.split 23 (.skips 13 (.ops 1 .done)) (.ops 4 (.split 27 (.ops 5 (.split 32 (.ops 5 .done) (.skips 3 (.ops 2 .done)))) (.skips 3 (.ops 2 (.skips 3 (.ops 2 .done))))))))) (.cond none (.seq none (.region [] (.ops 3 .done)) .leaf) .leaf)) (.seq none (.seq none (.region [] (.ops 2 .done)) (.cond none (.seq none (.region [] (.ops 4 .done)) .leaf) .leaf)) (.seq none (.region [] (.ops 9 .done)) (.seq none (.region [] (.ops 12 .done)) (.seq none (.seq none (.region [] (.ops 2 .done)) (.cond none (.seq none (.region [] (.ops 3 .done)) .leaf) .leaf)) (.seq none (.seq (some (587989967349491957760, [(68, (.one .bool))])) (.region [] (.ops 4 (.split 64 (.ops 4 .done) (.skips 3 (.ops 1 .done))))) (.cond none (.seq none (.region [0, 1, 2, 3, 4, 5, 6, 7, 8, 9, 10, 11, 12] (.ops 13 .done)) .leaf) .leaf)) (.seq none (.region [] (.ops 5 .done)) (.seq (some (20282399932245113506913853751296, [(14, (.one (.int .i64))), (15, (.one (.int .i64)))])) (.seq none (.region [] (.ops 3 .done)) (.cond none (.seq none (.region [] (.ops 2 .done)) (.seq (some (4797017652230848565234139136, [(15, (.one (.int .i64)))])) (.block (.loop 4797017652230848565234139136 [(15, (.one (.int .i64)))] (.seq none (.seq none (.region [] (.ops 3 .done)) (.cond none .leaf .leaf)) (.block (.region [] (.ops 3 .done)))))) (.block (.loop 20277457843494528902847654805504 [(14, (.one (.int .i64)))] (.seq none (.seq (some (5065650640755776084887216324608, [(101, (.one .bool))])) (.region [] (.ops 5 (.split 96 (.ops 5 .done) (.skips 4 (.ops 1 .done))))) (.cond none .leaf .leaf)) (.block (.region [] (.ops 3 .done)))))))) .leaf)) (.seq none (.region [0, 1, 2, 3, 4, 5, 6, 7, 8, 9, 10, 11, 12, 13] (.ops 14 .done)) .leaf)))))))))))
theorem F31_tie (a0 : Option Addr) (a1 : Int) (a2 : (Int × Int × Int × Unit)) (K : ((Int × Int × Int × Unit) × Int × Unit) → World → Prop) : vcgF tab Tryz.prog Tryz.f31 h31 [(.pointer a0), (.int .i64 a1), (.agg (Cells.vals c39 a2).toArray)] (.tup [(.agg c34), (.one (.int .i64))]) K = F31 a0 a1 a2 K := by kernel_rfl
theorem F31_calls {a0 : Option Addr} {a1 : Int} {a2 : (Int × Int × Int × Unit)} {K : ((Int × Int × Int × Unit) × Int × Unit) → World → Prop} {w : World} (h : F31 a0 a1 a2 K w) : callT Tryz.prog 31 #[(.pointer a0), (.int .i64 a1), (.agg (Cells.vals c39 a2).toArray)] (.tup [(.agg c34), (.one (.int .i64))]) K w :=
  vcgF_sound tabOk Tryz.func31 h31 [(.pointer a0), (.int .i64 a1), (.agg (Cells.vals c39 a2).toArray)] (.tup [(.agg c34), (.one (.int .i64))]) K w (Eq.mpr (congrFun (F31_tie a0 a1 a2 K) w) h)
noncomputable def F33 (a0 : Option Addr) (a1 : Int) (a2 : (Int × Int × Int × Unit)) (K : ((Int × Int × Int × Unit) × Int × Unit) → World → Prop) : World → Prop :=
 newO (.cells #[(.pointer a0)] 25) fun b1 =>
 newO (.cells #[(.int .i64 a2.1), (.int .i64 a2.2.1), (.int .i64 a2.2.2.1)] 39) fun b2 =>
 newO (.cells #[(.int .i64 (0 : Int)), (.int .i64 (0 : Int)), (.int .i64 (0 : Int))] 34) fun b3 =>
 ld (.ptr) (at0 b1) fun (x4 : Option Addr) =>
 lds c39 (at0 b2) fun (x5 : (Int × Int × Int × Unit)) =>
 callT Tryz.prog 37 #[(.pointer x4), (.int .i64 a1), (.agg (Cells.vals c39 x5).toArray), (.int .i64 (69 : Int)), (.int .i64 (70 : Int))] (.one (.one (.int .i64))) fun (x6 : Int) =>
 sif (x6 != (0 : Int)) (
 aggSt (at0 b3) (.agg #[(.int .i64 (0 : Int)), (.int .i64 (0 : Int)), (.int .i64 (0 : Int))]) 3 <|
 lds c34 (at0 b3) fun (x7 : (Int × Int × Int × Unit)) =>
 K (x7, x6, ())) (
 ld (.ptr) (at0 b1) fun (x8 : Option Addr) =>
 callT Tryz.prog 57 #[(.pointer x8), (.int .i64 a1)] (.one (.one (.int .i64))) fun (x9 : Int) =>
 ld (.ptr) (at0 b1) fun (x10 : Option Addr) =>
 callT Tryz.prog 58 #[(.pointer x10)] (.one (.one (.int .i64))) fun (x11 : Int) =>
 sif (decide (x9 ≥ x11)) (
 aggSt (at0 b3) (.agg #[(.int .i64 (0 : Int)), (.int .i64 (0 : Int)), (.int .i64 (0 : Int))]) 3 <|
 lds c34 (at0 b3) fun (x12 : (Int × Int × Int × Unit)) =>
 K (x12, (90 : Int), ())) (
 newO (.cells #[(.slice none 0 0)] 95) fun b13 =>
 newO (.cells #[(.slice none 0 0)] 26) fun b14 =>
 ld (.ptr) (at0 b1) fun (x15 : Option Addr) =>
 callT Tryz.prog 59 #[(.pointer x15)] (.one (.one .any)) fun (x16 : Value) =>
 rangeE (S := Int × (Int × Int × Int × Int × Unit) × Unit) Tryz.prog (Slots.vals [(40, (.one (.int .i64))), (41, (.agg c100))]) x16 (fun l17 rc18 R19 (s20 : Int × (Int × Int × Int × Int × Unit) × Unit) =>
 newO (.cells #[(.int .i64 (0 : Int)), (.int .i64 (0 : Int)), (.int .i64 (0 : Int)), (.int .i64 (0 : Int))] 100) fun b22 =>
 aggSt (at0 b22) (.agg (Cells.vals c100 s20.2.1).toArray) 4 <|
 begR l17 rc18 <|
 join (S := Int × Unit) (fun J23 =>
 ld (.ptr) (at0 b1) fun (x25 : Option Addr) =>
 ld (.int .i64) (at0 b22) fun (x26 : Int) =>
 ld (.int .i64) (⟨b22, 1, none⟩ : Addr) fun (x27 : Int) =>
 callT Tryz.prog 23 #[(.pointer x25), (.int .i64 x26), (.int .i64 x27)] (.one (.one .sl)) fun (x28 : Sl) =>
 callT Tryz.prog 39 #[(.slice x28.a x28.len x28.cap), (.int .i64 (0 : Int))] (.one (.one .sl)) fun (x29 : Sl) =>
 sloop (S := Int × Int × Unit) (fun (s30 : Int × Int × Unit) again31 =>
 sif (decide (s30.2.1 < ((x29.len : Nat) : Int))) (
 ix x29.a x29.len s30.2.1 fun p32 =>
 lds c72 (p32.add (scaled (Int.toNat s30.2.1) 5)) fun (x33 : (Int × Int × Int × Bool × Int × Unit)) =>
 newO (.cells #[(.int .i64 (0 : Int)), (.int .i64 (0 : Int)), (.int .i64 (0 : Int)), (.bool false), (.int .i64 (0 : Int))] 72) fun b34 =>
 aggSt (at0 b34) (.agg (Cells.vals c72 x33).toArray) 5 <|
 ld (.int .i64) (⟨b34, 2, none⟩ : Addr) fun (x35 : Int) =>
 sif (x35 != (0 : Int)) (
 J23 ((1 : Int), ())) (
 again31 (s30.1, (IntKind.wrap .i64 (s30.2.1 + (1 : Int))), ()))) (
 J23 (s30.1, ()))) ((0 : Int), (0 : Int), ())) fun (s24 : Int × Unit) =>
 drew <|
 ld (.sl) (at0 b13) fun (x36 : Sl) =>
 lds c100 (at0 b22) fun (x37 : (Int × Int × Int × Int × Unit)) =>
 ld (.sl) (at0 b14) fun (x38 : Sl) =>
 both (
 newO (.cells #[(.int .i64 s24.1)] 3) fun b39 =>
 keep (fun w => w.cell? (at0 b14) = some (Cell.val (.sl) x38)) <|
 keep (fun w => cellsAt w (at0 b22) 0 (Cells.vals c100 x37)) <|
 keep (fun w => w.cell? (at0 b13) = some (Cell.val (.sl) x36)) <|
 newO (.cells #[(.int .i64 x37.1), (.int .i64 x37.2.1), (.int .i64 x37.2.2.1), (.int .i64 x37.2.2.2.1)] 100) fun b40 =>
 keep (fun w => w.cell? (at0 b14) = some (Cell.val (.sl) x38)) <|
 keep (fun w => w.cell? (at0 b13) = some (Cell.val (.sl) x36)) <|
 rawT Tryz.prog (.one (.one .sl)) (Builtin.append_ #[95, 95] 95 #[(.slice x36.a x36.len x36.cap), (.slice (some (at0 b40)) 1 1)]) fun (x41 : Sl) =>
 keep (fun w => w.cell? (at0 b14) = some (Cell.val (.sl) x38)) <|
 rawT Tryz.prog (.one (.one .sl)) (Builtin.append_ #[26, 26] 26 #[(.slice x38.a x38.len x38.cap), (.slice (some (at0 b39)) 1 1)]) fun (x42 : Sl) =>
 stC (at0 b13) (.slice x41.a x41.len x41.cap) <|
 stC (at0 b14) (.slice x42.a x42.len x42.cap) <|
 endR l17 rc18 none R19) <|
 newO (.cells #[(.int .i64 x37.1), (.int .i64 x37.2.1), (.int .i64 x37.2.2.1), (.int .i64 x37.2.2.2.1)] 100) fun b43 =>
 keep (fun w => w.cell? (at0 b14) = some (Cell.val (.sl) x38)) <|
 keep (fun w => w.cell? (at0 b13) = some (Cell.val (.sl) x36)) <|
 both (
 newO (.cells #[(.int .i64 s24.1)] 3) fun b44 =>
 keep (fun w => w.cell? (at0 b14) = some (Cell.val (.sl) x38)) <|
 keep (fun w => cellsAt w (at0 b22) 0 (Cells.vals c100 x37)) <|
 keep (fun w => w.cell? (at0 b13) = some (Cell.val (.sl) x36)) <|
 rawT Tryz.prog (.one (.one .sl)) (Builtin.append_ #[95, 95] 95 #[(.slice x36.a x36.len x36.cap), (.slice (some (at0 b43)) 1 1)]) fun (x45 : Sl) =>
 keep (fun w => w.cell? (at0 b14) = some (Cell.val (.sl) x38)) <|
 rawT Tryz.prog (.one (.one .sl)) (Builtin.append_ #[26, 26] 26 #[(.slice x38.a x38.len x38.cap), (.slice (some (at0 b44)) 1 1)]) fun (x46 : Sl) =>
 stC (at0 b13) (.slice x45.a x45.len x45.cap) <|
 stC (at0 b14) (.slice x46.a x46.len x46.cap) <|
 endR l17 rc18 none R19) <|
 rawT Tryz.prog (.one (.one .sl)) (Builtin.append_ #[95, 95] 95 #[(.slice x36.a x36.len x36.cap), (.slice (some (at0 b43)) 1 1)]) fun (x47 : Sl) =>
 keep (fun w => w.cell? (at0 b14) = some (Cell.val (.sl) x38)) <|
 both (
 newO (.cells #[(.int .i64 s24.1)] 3) fun b48 =>
 keep (fun w => w.cell? (at0 b14) = some (Cell.val (.sl) x38)) <|
 keep (fun w => cellsAt w (at0 b22) 0 (Cells.vals c100 x37)) <|
 keep (fun w => w.cell? (at0 b13) = some (Cell.val (.sl) x36)) <|
 rawT Tryz.prog (.one (.one .sl)) (Builtin.append_ #[26, 26] 26 #[(.slice x38.a x38.len x38.cap), (.slice (some (at0 b48)) 1 1)]) fun (x49 : Sl) =>
 stC (at0 b13) (.slice x47.a x47.len x47.cap) <|
 stC (at0 b14) (.slice x49.a x49.len x49.cap) <|
 endR l17 rc18 none R19) <|
 nothing) fun D21 => aft (
 ld (.sl) (at0 b13) fun (x69 : Sl) =>
 newO (.cells #[(.int .i64 (0 : Int)), .nilFunc] 89) fun b70 =>
 aggSt (at0 b70) (.agg #[(.int .i64 ((x69.len : Nat) : Int)), (.func (Fn.func 60) #[] #[(.pointer (some (at0 b14)))])]) 2 <|
 lds c89 (at0 b70) fun (x71 : (Int × Value × Unit)) =>
 join (S := Value × Unit) (fun J72 =>
 ld (.int .i64) (at0 b2) fun (x74 : Int) =>
 sif (x74 == (70 : Int)) (
 lds c89 (at0 b70) fun (x75 : (Int × Value × Unit)) =>
 J72 ((.func (Fn.func 54) #[(.agg (Cells.vals c89 x75).toArray)] #[]), ())) (
 J72 ((.func (Fn.func 53) #[(.agg (Cells.vals c89 x71).toArray)] #[]), ()))) fun (s73 : Value × Unit) =>
 lds c39 (at0 b2) fun (x76 : (Int × Int × Int × Unit)) =>
 callT Tryz.prog 41 #[(.agg (Cells.vals c39 x76).toArray)] (.one (.one (.int .i64))) fun (x77 : Int) =>
 callX Tryz.prog (do let d ← Deferred.ofValue s73.1 #[(.int .i64 x9), (.int .i64 x77)]; invoke d.target d.args : Sem Next) (.tup [(.one (.int .i64)), (.one (.int .i64)), (.one .bool)]) fun (x78 : (Int × Int × Bool × Unit)) =>
 sif (!x78.2.2.1) (
 aggSt (at0 b3) (.agg #[(.int .i64 (0 : Int)), (.int .i64 (0 : Int)), (.int .i64 (0 : Int))]) 3 <|
 endM D21 <|
 lds c34 (at0 b3) fun (x79 : (Int × Int × Int × Unit)) =>
 K (x79, (90 : Int), ())) (
 drew <|
 ld (.sl) (at0 b13) fun (x80 : Sl) =>
 ix x80.a x80.len x78.1 fun p81 =>
 ld (.int .i64) (p81.add (scaled (Int.toNat x78.1) 4)) fun (x82 : Int) =>
 ld (.sl) (at0 b13) fun (x83 : Sl) =>
 ix x83.a x83.len (IntKind.wrap .i64 (x78.2.1 - (1 : Int))) fun p84 =>
 ld (.int .i64) ((p84.add (scaled (Int.toNat (IntKind.wrap .i64 (x78.2.1 - (1 : Int)))) 4)).add 2) fun (x85 : Int) =>
 aggSt (at0 b3) (.agg #[(.int .i64 x82), (.int .i64 x85), (.int .i64 (1 : Int))]) 3 <|
 endM D21 <|
 lds c34 (at0 b3) fun (x86 : (Int × Int × Int × Unit)) =>
 K (x86, (0 : Int), ()))) (fun i50 =>
 onE i50 0 (
 ld (.sl) (at0 b13) fun (x51 : Sl) =>
 newO (.cells #[(.int .i64 (0 : Int)), .nilFunc] 89) fun b52 =>
 aggSt (at0 b52) (.agg #[(.int .i64 ((x51.len : Nat) : Int)), (.func (Fn.func 60) #[] #[(.pointer (some (at0 b14)))])]) 2 <|
 lds c89 (at0 b52) fun (x53 : (Int × Value × Unit)) =>
 join (S := Value × Unit) (fun J54 =>
 ld (.int .i64) (at0 b2) fun (x56 : Int) =>
 sif (x56 == (70 : Int)) (
 lds c89 (at0 b52) fun (x57 : (Int × Value × Unit)) =>
 J54 ((.func (Fn.func 54) #[(.agg (Cells.vals c89 x57).toArray)] #[]), ())) (
 J54 ((.func (Fn.func 53) #[(.agg (Cells.vals c89 x53).toArray)] #[]), ()))) fun (s55 : Value × Unit) =>
 lds c39 (at0 b2) fun (x58 : (Int × Int × Int × Unit)) =>
 callT Tryz.prog 41 #[(.agg (Cells.vals c39 x58).toArray)] (.one (.one (.int .i64))) fun (x59 : Int) =>
 callX Tryz.prog (do let d ← Deferred.ofValue s55.1 #[(.int .i64 x9), (.int .i64 x59)]; invoke d.target d.args : Sem Next) (.tup [(.one (.int .i64)), (.one (.int .i64)), (.one .bool)]) fun (x60 : (Int × Int × Bool × Unit)) =>
 sif (!x60.2.2.1) (
 aggSt (at0 b3) (.agg #[(.int .i64 (0 : Int)), (.int .i64 (0 : Int)), (.int .i64 (0 : Int))]) 3 <|
 endM D21 <|
 lds c34 (at0 b3) fun (x61 : (Int × Int × Int × Unit)) =>
 K (x61, (90 : Int), ())) (
 drew <|
 ld (.sl) (at0 b13) fun (x62 : Sl) =>
 ix x62.a x62.len x60.1 fun p63 =>
 ld (.int .i64) (p63.add (scaled (Int.toNat x60.1) 4)) fun (x64 : Int) =>
 ld (.sl) (at0 b13) fun (x65 : Sl) =>
 ix x65.a x65.len (IntKind.wrap .i64 (x60.2.1 - (1 : Int))) fun p66 =>
 ld (.int .i64) ((p66.add (scaled (Int.toNat (IntKind.wrap .i64 (x60.2.1 - (1 : Int)))) 4)).add 2) fun (x67 : Int) =>
 aggSt (at0 b3) (.agg #[(.int .i64 x64), (.int .i64 x67), (.int .i64 (1 : Int))]) 3 <|
 endM D21 <|
 lds c34 (at0 b3) fun (x68 : (Int × Int × Int × Unit)) =>
 K (x68, (0 : Int), ()))) (
 fun _ => False)) (
 endM D21 <|
 lds c34 (at0 b3) fun (x87 : (Int × Int × Int × Unit)) =>
 K (x87, (0 : Int), ()))))
noncomputable def h33 : Hint := (.seq none (.region [] (.ops 4 .done)) (.seq none (.seq none (.region [] (.ops 5 .done)) (.seq none (.region [] (.ops 2 .done)) (.cond none (.seq none (.region [] (.ops 4 .done)) .leaf) .leaf))) (.seq none (.region [] (.ops 4 .done)) (.seq none (.seq none (.region [] (.ops 4 .done)) (.cond none (.seq none (.region [] (.ops 3 .done)) .leaf) .leaf)) (.seq none (.region [] (.ops 1 .done)) (.seq none (.region [] (.ops 1 .done)) (.seq none (.seq none (.region [] (.ops 2 .done)) (.block (.range [(40, (.one (.int .i64))), (41, (.agg c100))] (.region [] (.ops 2 .done)) (.block (.seq none (.region [] (.ops 1 .done)) (.seq (some (288225978105282560, [(14, (.one (.int .i64)))])) (.seq none (.region [] (.ops 9 .done)) (.block (.loop 287104476244951040 [(14, (.one (.int .i64))), (50, (.one (.int .i64)))] (.seq none (.region [] (.ops 1 .done)) (.seq none (.cond none .leaf .leaf) (.seq none (.block (.seq none (.region [] (.ops 4 .done)) (.seq none (.region [] (.ops 3 .done)) (.cond none (.seq none (.region [] (.ops 1 .done)) .leaf) .leaf)))) (.region [] (.ops 2 .done)))))))) (.region [0, 1, 4, 5, 2, 3, 7, 8, 9] (.float [6] (.ops 4 (.alt none (.plain (.ops 5 .done)) (.ops 1 (.alt none (.plain (.ops 4 .done)) (.ops 1 (.alt none (.plain (.ops 3 .done)) .stop)))))))))))))) (.seq none (.region [] (.ops 6 .done)) (.seq none (.region [] (.ops 3 .done)) (.seq (some (146393360968959001886720, [(18, (.one .any))])) (.seq none (.region [] (.ops 3 .done)) (.cond none (.region [] (.ops 3 .done)) .leaf)) (.seq none (.region [] (.ops 12 .done)) (.seq none (.seq none (.region [] (.ops 2 .done)) (.cond none (.seq none (.region [] (.ops 3 .done)) .leaf) .leaf)) (.seq none (.region [0, 1, 2, 3, 4, 5, 6, 7, 8, 9, 10, 11, 12, 13] (.ops 14 .done)) .leaf)))))))))))))
theorem F33_tie (a0 : Option Addr) (a1 : Int) (a2 : (Int × Int × Int × Unit)) (K : ((Int × Int × Int × Unit) × Int × Unit) → World → Prop) : vcgF tab Tryz.prog Tryz.f33 h33 [(.pointer a0), (.int .i64 a1), (.agg (Cells.vals c39 a2).toArray)] (.tup [(.agg c34), (.one (.int .i64))]) K = F33 a0 a1 a2 K := by kernel_rfl
theorem F33_calls {a0 : Option Addr} {a1 : Int} {a2 : (Int × Int × Int × Unit)} {K : ((Int × Int × Int × Unit) × Int × Unit) → World → Prop} {w : World} (h : F33 a0 a1 a2 K w) : callT Tryz.prog 33 #[(.pointer a0), (.int .i64 a1), (.agg (Cells.vals c39 a2).toArray)] (.tup [(.agg c34), (.one (.int .i64))]) K w :=
  vcgF_sound tabOk Tryz.func33 h33 [(.pointer a0), (.int .i64 a1), (.agg (Cells.vals c39 a2).toArray)] (.tup [(.agg c34), (.one (.int .i64))]) K w (Eq.mpr (congrFun (F33_tie a0 a1 a2 K) w) h)
noncomputable def F37 (a0 : Option Addr) (a1 : Int) (a2 : (Int × Int × Int × Unit)) (a3 : Int) (a4 : Int) (K : Int → World → Prop) : World → Prop :=
 newO (.cells #[(.int .i64 a2.1), (.int .i64 a2.2.1), (.int .i64 a2.2.2.1)] 39) fun b1 =>
 join (S := Bool × Unit) (fun J2 =>
 ld (.int .i64) (at0 b1) fun (x4 : Int) =>
 sif (decide (x4 < a3)) (
 J2 (true, ())) (
 ld (.int .i64) (at0 b1) fun (x5 : Int) =>
 sif (decide (x5 > a4)) (
 J2 (true, ())) (
 ld (.int .i64) (⟨b1, 1, none⟩ : Addr) fun (x6 : Int) =>
 J2 ((decide (x6 < (0 : Int))), ())))) fun (s3 : Bool × Unit) =>
 sif s3.1 (
 K (1 : Int)) (
 join (S := Bool × Unit) (fun J7 =>
 sif (decide (a1 < (0 : Int))) (
 J7 (true, ())) (
 callT Tryz.prog 40 #[(.pointer a0)] (.one (.one (.int .i64))) fun (x9 : Int) =>
 J7 ((decide (a1 > x9)), ()))) fun (s8 : Bool × Unit) =>
 sif s8.1 (
 K (2 : Int)) (
 K (0 : Int)))
noncomputable def h37 : Hint := (.seq none (.region [] (.ops 2 .done)) (.seq none (.block (.seq (some (134215680, [(11, (.one .bool))])) (.region [] (.ops 5 (.split 16 (.skips 4 (.ops 2 (.skips 3 (.ops 2 .done)))) (.ops 6 (.split 22 (.skips 3 (.ops 2 .done)) (.ops 5 .done)))))) (.cond none (.seq none (.region [] (.ops 1 .done)) .leaf) (.seq (some (68585259008, [(27, (.one .bool))])) (.region [] (.ops 3 (.split 30 (.skips 4 (.ops 2 .done)) (.ops 6 .done)))) (.cond none (.seq none (.region [] (.ops 1 .done)) .leaf) .leaf))))) (.seq none (.region [] (.ops 1 .done)) .leaf)))
theorem F37_tie (a0 : Option Addr) (a1 : Int) (a2 : (Int × Int × Int × Unit)) (a3 : Int) (a4 : Int) (K : Int → World → Prop) : vcgF tab Tryz.prog Tryz.f37 h37 [(.pointer a0), (.int .i64 a1), (.agg (Cells.vals c39 a2).toArray), (.int .i64 a3), (.int .i64 a4)] (.one (.one (.int .i64))) K = F37 a0 a1 a2 a3 a4 K := by kernel_rfl
theorem F37_calls {a0 : Option Addr} {a1 : Int} {a2 : (Int × Int × Int × Unit)} {a3 : Int} {a4 : Int} {K : Int → World → Prop} {w : World} (h : F37 a0 a1 a2 a3 a4 K w) : callT Tryz.prog 37 #[(.pointer a0), (.int .i64 a1), (.agg (Cells.vals c39 a2).toArray), (.int .i64 a3), (.int .i64 a4)] (.one (.one (.int .i64))) K w :=
  vcgF_sound tabOk Tryz.func37 h37 [(.pointer a0), (.int .i64 a1), (.agg (Cells.vals c39 a2).toArray), (.int .i64 a3), (.int .i64 a4)] (.one (.one (.int .i64))) K w (Eq.mpr (congrFun (F37_tie a0 a1 a2 a3 a4 K) w) h)
noncomputable def F38 (a0 : Int) (K : (Int × Bool × Unit) → World → Prop) : World → Prop :=
 newO (.map #[] 0) fun b1 =>
 rawU Tryz.prog (Instr.mapUpdate 115 (.map (some b1)) (.int .i64 (40 : Int)) (.int .i64 (41 : Int))) <|
 rawU Tryz.prog (Instr.mapUpdate 115 (.map (some b1)) (.int .i64 (91 : Int)) (.int .i64 (93 : Int))) <|
 rawU Tryz.prog (Instr.mapUpdate 115 (.map (some b1)) (.int .i64 (123 : Int)) (.int .i64 (125 : Int))) <|
 rawU Tryz.prog (Instr.mapUpdate 115 (.map (some b1)) (.int .i64 (60 : Int)) (.int .i64 (62 : Int))) <|
 rdT Tryz.prog (.tup [(.one (.int .i64)), (.one .bool)]) (Instr.lookup 115 (.map (some b1)) (.int .i64 a0) true) fun (x2 : (Int × Bool × Unit)) =>
 K (x2.1, x2.2.1, ())
noncomputable def h38 : Hint := (.seq none (.region [] (.ops 2 .done)) (.seq none (.region [] (.ops 13 .done)) (.seq none (.region [] (.ops 4 .done)) .leaf)))
theorem F38_tie (a0 : Int) (K : (Int × Bool × Unit) → World → Prop) : vcgF tab Tryz.prog Tryz.f38 h38 [(.int .i64 a0)] (.tup [(.one (.int .i64)), (.one .bool)]) K = F38 a0 K := by kernel_rfl
theorem F38_calls {a0 : Int} {K : (Int × Bool × Unit) → World → Prop} {w : World} (h : F38 a0 K w) : callT Tryz.prog 38 #[(.int .i64 a0)] (.tup [(.one (.int .i64)), (.one .bool)]) K w :=
  vcgF_sound tabOk Tryz.func38 h38 [(.int .i64 a0)] (.tup [(.one (.int .i64)), (.one .bool)]) K w (Eq.mpr (congrFun (F38_tie a0 K) w) h)
noncomputable def F39 (a0 : Sl) (a1 : Int) (K : Sl → World → Prop) : World → Prop :=
 callT Tryz.prog 68 #[(.slice a0.a a0.len a0.cap)] (.one (.one .sl)) fun (x1 : Sl) =>
 join (S := Sl × Unit) (fun J2 =>
 sloop (S := Sl × Int × Unit) (fun (s4 : Sl × Int × Unit) again5 =>
 sif (decide (s4.2.1 < (IntKind.wrap .i64 (((x1.len : Nat) : Int) - (1 : Int))))) (
 ix x1.a x1.len s4.2.1 fun p6 =>
 ld (.int .i64) (p6.add (scaled (Int.toNat s4.2.1) 1)) fun (x7 : Int) =>
 ix a0.a a0.len x7 fun p8 =>
 ld (.int .i64) (p8.add (scaled (Int.toNat x7) 1)) fun (x9 : Int) =>
 drew <|
 ix x1.a x1.len s4.2.1 fun p10 =>
 ld (.int .i64) (p10.add (scaled (Int.toNat s4.2.1) 1)) fun (x11 : Int) =>
 ix x1.a x1.len (IntKind.wrap .i64 (s4.2.1 + (1 : Int))) fun p12 =>
 ld (.int .i64) (p12.add (scaled (Int.toNat (IntKind.wrap .i64 (s4.2.1 + (1 : Int)))) 1)) fun (x13 : Int) =>
 ix x1.a x1.len (IntKind.wrap .i64 (s4.2.1 + (1 : Int))) fun p14 =>
 ld (.int .i64) (p14.add (scaled (Int.toNat (IntKind.wrap .i64 (s4.2.1 + (1 : Int)))) 1)) fun (x15 : Int) =>
 ix x1.a x1.len s4.2.1 fun p16 =>
 ld (.int .i64) (p16.add (scaled (Int.toNat s4.2.1) 1)) fun (x17 : Int) =>
 callT Tryz.prog 69 #[(.int .i64 x9)] (.one (.one (.int .i64))) fun (x18 : Int) =>
 keep (fun w => w.cell? (p16.add (scaled (Int.toNat s4.2.1) 1)) = some (Cell.val (.int .i64) x17)) <|
 keep (fun w => w.cell? (p14.add (scaled (Int.toNat (IntKind.wrap .i64 (s4.2.1 + (1 : Int)))) 1)) = some (Cell.val (.int .i64) x15)) <|
 keep (fun w => w.cell? (p12.add (scaled (Int.toNat (IntKind.wrap .i64 (s4.2.1 + (1 : Int)))) 1)) = some (Cell.val (.int .i64) x13)) <|
 keep (fun w => w.cell? (p10.add (scaled (Int.toNat s4.2.1) 1)) = some (Cell.val (.int .i64) x11)) <|
 newO (.cells #[(.int .i64 (IntKind.wrap .i64 (a1 + x11))), (.int .i64 (IntKind.wrap .i64 (a1 + x13))), (.int .i64 x18), (.bool (x15 == (IntKind.wrap .i64 (x17 + (1 : Int))))), (.int .i64 x9)] 72) fun b19 =>
 rawT Tryz.prog (.one (.one .sl)) (Builtin.append_ #[68, 68] 68 #[(.slice s4.1.a s4.1.len s4.1.cap), (.slice (some (at0 b19)) 1 1)]) fun (x20 : Sl) =>
 again5 (x20, (IntKind.wrap .i64 (s4.2.1 + (1 : Int))), ())) (
 J2 (s4.1, ()))) (⟨none, 0, 0⟩, (0 : Int), ())) fun (s3 : Sl × Unit) =>
 K s3.1
noncomputable def h39 : Hint := (.seq none (.region [] (.ops 1 .done)) (.seq none (.region [] (.ops 1 .done)) (.seq none (.region [] (.ops 3 .done)) (.seq (some (72057594037926304, [(5, (.one .sl))])) (.seq none (.region [] (.ops 4 .done)) (.block (.loop 72057594037911968 [(5, (.one .sl)), (14, (.one (.int .i64)))] (.seq none (.region [] (.ops 1 .done)) (.seq none (.cond none .leaf .leaf) (.seq none (.block (.seq none (.region [] (.ops 2 .done)) (.seq none (.region [] (.ops 8 .done)) (.region [0, 1, 2, 3, 4, 5, 6, 7, 8, 9, 10, 11, 12, 13, 14, 16, 17, 18, 19, 20, 21, 22, 23, 24, 25, 26, 27, 15, 28, 29, 30, 31] (.ops 32 .done))))) (.region [] (.ops 2 .done)))))))) (.seq none (.region [] (.ops 2 .done)) .leaf)))))
theorem F39_tie (a0 : Sl) (a1 : Int) (K : Sl → World → Prop) : vcgF tab Tryz.prog Tryz.f39 h39 [(.slice a0.a a0.len a0.cap), (.int .i64 a1)] (.one (.one .sl)) K = F39 a0 a1 K := by kernel_rfl
theorem F39_calls {a0 : Sl} {a1 : Int} {K : Sl → World → Prop} {w : World} (h : F39 a0 a1 K w) : callT Tryz.prog 39 #[(.slice a0.a a0.len a0.cap), (.int .i64 a1)] (.one (.one .sl)) K w :=
  vcgF_sound tabOk Tryz.func39 h39 [(.slice a0.a a0.len a0.cap), (.int .i64 a1)] (.one (.one .sl)) K w (Eq.mpr (congrFun (F39_tie a0 a1 K) w) h)
noncomputable def F41 (a0 : (Int × Int × Int × Unit)) (K : Int → World → Prop) : World → Prop :=
 newO (.cells #[(.int .i64 a0.1), (.int .i64 a0.2.1), (.int .i64 a0.2.2.1)] 39) fun b1 =>
 ld (.int .i64) (⟨b1, 1, none⟩ : Addr) fun (x2 : Int) =>
 K (if (1 : Int) > x2 then (1 : Int) else x2)
noncomputable def h41 : Hint := (.seq none (.region [] (.ops 2 .done)) (.seq none (.region [] (.ops 4 .done)) .leaf))
theorem F41_tie (a0 : (Int × Int × Int × Unit)) (K : Int → World → Prop) : vcgF tab Tryz.prog Tryz.f41 h41 [(.agg (Cells.vals c39 a0).toArray)] (.one (.one (.int .i64))) K = F41 a0 K := by kernel_rfl
theorem F41_calls {a0 : (Int × Int × Int × Unit)} {K : Int → World → Prop} {w : World} (h : F41 a0 K w) : callT Tryz.prog 41 #[(.agg (Cells.vals c39 a0).toArray)] (.one (.one (.int .i64))) K w :=
  vcgF_sound tabOk Tryz.func41 h41 [(.agg (Cells.vals c39 a0).toArray)] (.one (.one (.int .i64))) K w (Eq.mpr (congrFun (F41_tie a0 K) w) h)
noncomputable def F42 (a0 : (Int × Int × Int × Bool × Int × Unit)) (a1 : Int) (K : Bool → World → Prop) : World → Prop :=
 newO (.cells #[(.int .i64 a0.1), (.int .i64 a0.2.1), (.int .i64 a0.2.2.1), (.bool a0.2.2.2.1), (.int .i64 a0.2.2.2.2.1)] 72) fun b1 =>
 ld (.bool) (⟨b1, 3, none⟩ : Addr) fun (x2 : Bool) =>
 sif x2 (
 ld (.int .i64) (⟨b1, 4, none⟩ : Addr) fun (x3 : Int) =>
 K (x3 == a1)) (
 K false)
noncomputable def h42 : Hint := (.seq none (.region [] (.ops 2 .done)) (.seq none (.region [] (.ops 3 (.split 7 (.ops 6 .done) (.skips 4 (.ops 2 .done))))) .leaf))
theorem F42_tie (a0 : (Int × Int × Int × Bool × Int × Unit)) (a1 : Int) (K : Bool → World → Prop) : vcgF tab Tryz.prog Tryz.f42 h42 [(.agg (Cells.vals c72 a0).toArray), (.int .i64 a1)] (.one (.one .bool)) K = F42 a0 a1 K := by kernel_rfl
theorem F42_calls {a0 : (Int × Int × Int × Bool × Int × Unit)} {a1 : Int} {K : Bool → World → Prop} {w : World} (h : F42 a0 a1 K w) : callT Tryz.prog 42 #[(.agg (Cells.vals c72 a0).toArray), (.int .i64 a1)] (.one (.one .bool)) K w :=
  vcgF_sound tabOk Tryz.func42 h42 [(.agg (Cells.vals c72 a0).toArray), (.int .i64 a1)] (.one (.one .bool)) K w (Eq.mpr (congrFun (F42_tie a0 a1 K) w) h)
noncomputable def F43 (a0 : Sl) (a1 : Int) (a2 : Int) (a3 : Int) (a4 : Int) (a5 : Int) (K : Int → World → Prop) : World → Prop :=
 join (S := Unit) (fun J1 =>
 sloop (S := Int × Int × Int × Unit) (fun (s3 : Int × Int × Int × Unit) again4 =>
 join (S := Bool × Unit) (fun J5 =>
 sif (decide (s3.1 ≥ (0 : Int))) (
 J5 ((decide (s3.1 < ((a0.len : Nat) : Int))), ())) (
 J5 (false, ()))) fun (s6 : Bool × Unit) =>
 sif s6.1 (
 join (S := Int × Int × Unit) (fun J7 =>
 ix a0.a a0.len s3.1 fun p9 =>
 lds c72 (p9.add (scaled (Int.toNat s3.1) 5)) fun (x10 : (Int × Int × Int × Bool × Int × Unit)) =>
 callT Tryz.prog 42 #[(.agg (Cells.vals c72 x10).toArray), (.int .i64 a4)] (.one (.one .bool)) fun (x11 : Bool) =>
 sif x11 (
 J7 (s3.2.1, (IntKind.wrap .i64 (s3.2.2.1 + (1 : Int))), ())) (
 ix a0.a a0.len s3.1 fun p12 =>
 lds c72 (p12.add (scaled (Int.toNat s3.1) 5)) fun (x13 : (Int × Int × Int × Bool × Int × Unit)) =>
 callT Tryz.prog 42 #[(.agg (Cells.vals c72 x13).toArray), (.int .i64 a3)] (.one (.one .bool)) fun (x14 : Bool) =>
 sif (!x14) (
 J7 (s3.2.1, s3.2.2.1, ())) (
 sif (decide (s3.2.2.1 > (0 : Int))) (
 J7 (s3.2.1, (IntKind.wrap .i64 (s3.2.2.1 - (1 : Int))), ())) (
 sif ((IntKind.wrap .i64 (s3.2.1 - (1 : Int))) == (0 : Int)) (
 K s3.1) (
 J7 ((IntKind.wrap .i64 (s3.2.1 - (1 : Int))), s3.2.2.1, ())))))) fun (s8 : Int × Int × Unit) =>
 again4 ((IntKind.wrap .i64 (s3.1 + a2)), s8.1, s8.2.1, ())) (
 J1 ())) (a1, a5, (0 : Int), ())) fun (s2 : Unit) =>
 K (-1 : Int)
noncomputable def h43 : Hint := (.seq none (.region [] (.ops 1 .done)) (.seq none (.region [] (.ops 1 .done)) (.seq (some (4503599627366434, [])) (.block (.loop 4503599627366434 [(1, (.one (.int .i64))), (5, (.one (.int .i64))), (13, (.one (.int .i64)))] (.seq none (.seq (some (4177920, [(21, (.one .bool))])) (.region [] (.ops 3 (.split 16 (.ops 5 .done) (.skips 4 (.ops 1 .done))))) (.cond none .leaf .leaf)) (.seq (some (4503599593828384, [(5, (.one (.int .i64))), (13, (.one (.int .i64)))])) (.block (.block (.seq none (.region [] (.ops 7 .done)) (.cond none (.region [] (.ops 3 .done)) (.seq none (.region [] (.ops 8 .done)) (.cond none .leaf (.seq none (.region [] (.ops 3 .done)) (.cond none (.region [] (.ops 3 .done)) (.seq none (.region [] (.ops 3 .done)) (.seq none (.region [] (.ops 2 .done)) (.cond none (.seq none (.region [] (.ops 2 .done)) .leaf) .leaf))))))))))) (.region [] (.ops 4 .done)))))) (.seq none (.region [] (.ops 1 .done)) .leaf))))
theorem F43_tie (a0 : Sl) (a1 : Int) (a2 : Int) (a3 : Int) (a4 : Int) (a5 : Int) (K : Int → World → Prop) : vcgF tab Tryz.prog Tryz.f43 h43 [(.slice a0.a a0.len a0.cap), (.int .i64 a1), (.int .i64 a2), (.int .i64 a3), (.int .i64 a4), (.int .i64 a5)] (.one (.one (.int .i64))) K = F43 a0 a1 a2 a3 a4 a5 K := by kernel_rfl
theorem F43_calls {a0 : Sl} {a1 : Int} {a2 : Int} {a3 : Int} {a4 : Int} {a5 : Int} {K : Int → World → Prop} {w : World} (h : F43 a0 a1 a2 a3 a4 a5 K w) : callT Tryz.prog 43 #[(.slice a0.a a0.len a0.cap), (.int .i64 a1), (.int .i64 a2), (.int .i64 a3), (.int .i64 a4), (.int .i64 a5)] (.one (.one (.int .i64))) K w :=
  vcgF_sound tabOk Tryz.func43 h43 [(.slice a0.a a0.len a0.cap), (.int .i64 a1), (.int .i64 a2), (.int .i64 a3), (.int .i64 a4), (.int .i64 a5)] (.one (.one (.int .i64))) K w (Eq.mpr (congrFun (F43_tie a0 a1 a2 a3 a4 a5 K) w) h)
noncomputable def F44 (a0 : Option Addr) (a1 : (Int × Int × Int × Bool × Int × Unit)) (a2 : (Int × Int × Int × Bool × Int × Unit)) (K : (Int × Int × Int × Unit) → World → Prop) : World → Prop :=
 newO (.cells #[(.int .i64 a1.1), (.int .i64 a1.2.1), (.int .i64 a1.2.2.1), (.bool a1.2.2.2.1), (.int .i64 a1.2.2.2.2.1)] 72) fun b1 =>
 newO (.cells #[(.int .i64 a2.1), (.int .i64 a2.2.1), (.int .i64 a2.2.2.1), (.bool a2.2.2.2.1), (.int .i64 a2.2.2.2.2.1)] 72) fun b2 =>
 newO (.cells #[(.int .i64 (0 : Int)), (.int .i64 (0 : Int)), (.int .i64 (0 : Int))] 34) fun b3 =>
 ld (.int .i64) (⟨b1, 1, none⟩ : Addr) fun (x4 : Int) =>
 ld (.int .i64) (at0 b2) fun (x5 : Int) =>
 newO (.cells #[(.int .i64 (0 : Int)), (.int .i64 (0 : Int)), (.int .i64 (0 : Int))] 34) fun b6 =>
 aggSt (at0 b6) (.agg #[(.int .i64 x4), (.int .i64 x5), (.int .i64 (0 : Int))]) 3 <|
 ld (.int .i64) (at0 b1) fun (x7 : Int) =>
 callT Tryz.prog 57 #[(.pointer a0), (.int .i64 x7)] (.one (.one (.int .i64))) fun (x8 : Int) =>
 callT Tryz.prog 71 #[(.pointer a0), (.int .i64 x8)] (.tup [(.agg c100), (.one (.int .i64))]) fun (x9 : ((Int × Int × Int × Int × Unit) × Int × Unit)) =>
 newO (.cells #[(.int .i64 (0 : Int)), (.int .i64 (0 : Int)), (.int .i64 (0 : Int)), (.int .i64 (0 : Int))] 100) fun b10 =>
 aggSt (at0 b10) (.agg (Cells.vals c100 x9.1).toArray) 4 <|
 ld (.int .i64) (at0 b2) fun (x11 : Int) =>
 callT Tryz.prog 57 #[(.pointer a0), (.int .i64 x11)] (.one (.one (.int .i64))) fun (x12 : Int) =>
 callT Tryz.prog 71 #[(.pointer a0), (.int .i64 x12)] (.tup [(.agg c100), (.one (.int .i64))]) fun (x13 : ((Int × Int × Int × Int × Unit) × Int × Unit)) =>
 newO (.cells #[(.int .i64 (0 : Int)), (.int .i64 (0 : Int)), (.int .i64 (0 : Int)), (.int .i64 (0 : Int))] 100) fun b14 =>
 aggSt (at0 b14) (.agg (Cells.vals c100 x13.1).toArray) 4 <|
 join (S := Bool × Unit) (fun J15 =>
 ld (.int .i64) (⟨b10, 1, none⟩ : Addr) fun (x17 : Int) =>
 ld (.int .i64) (⟨b1, 1, none⟩ : Addr) fun (x18 : Int) =>
 sif (x17 != x18) (
 J15 (true, ())) (
 lds c100 (at0 b10) fun (x19 : (Int × Int × Int × Int × Unit)) =>
 lds c100 (at0 b14) fun (x20 : (Int × Int × Int × Int × Unit)) =>
 rdB Tryz.prog (do eqGuard .eql 100 (Operand.tmp 43) (Operand.tmp 44) (.agg (Cells.vals c100 x19).toArray) (.agg (Cells.vals c100 x20).toArray); binOp .eql 100 (.agg (Cells.vals c100 x19).toArray) (.agg (Cells.vals c100 x20).toArray) : Sem Value) fun r21 =>
 J15 (r21, ()))) fun (s16 : Bool × Unit) =>
 sif s16.1 (
 lds c34 (at0 b6) fun (x22 : (Int × Int × Int × Unit)) =>
 aggSt (at0 b3) (.agg (Cells.vals c34 x22).toArray) 3 <|
 lds c34 (at0 b3) fun (x23 : (Int × Int × Int × Unit)) =>
 K x23) (
 join (S := Unit) (fun J24 =>
 drew <|
 ld (.int .i64) (at0 b14) fun (x26 : Int) =>
 ld (.int .i64) (at0 b2) fun (x27 : Int) =>
 ld (.int .i64) (at0 b14) fun (x28 : Int) =>
 callT Tryz.prog 23 #[(.pointer a0), (.int .i64 x26), (.int .i64 x27)] (.one (.one .sl)) fun (x29 : Sl) =>
 keep (fun w => w.cell? (at0 b14) = some (Cell.val (.int .i64) x28)) <|
 callT Tryz.prog 39 #[(.slice x29.a x29.len x29.cap), (.int .i64 x28)] (.one (.one .sl)) fun (x30 : Sl) =>
 sloop (S := Int × Unit) (fun (s31 : Int × Unit) again32 =>
 sif (decide (s31.1 < ((x30.len : Nat) : Int))) (
 ix x30.a x30.len s31.1 fun p33 =>
 lds c72 (p33.add (scaled (Int.toNat s31.1) 5)) fun (x34 : (Int × Int × Int × Bool × Int × Unit)) =>
 newO (.cells #[(.int .i64 (0 : Int)), (.int .i64 (0 : Int)), (.int .i64 (0 : Int)), (.bool false), (.int .i64 (0 : Int))] 72) fun b35 =>
 aggSt (at0 b35) (.agg (Cells.vals c72 x34).toArray) 5 <|
 ld (.int .i64) (⟨b35, 2, none⟩ : Addr) fun (x36 : Int) =>
 sif (x36 != (0 : Int)) (
 lds c34 (at0 b6) fun (x37 : (Int × Int × Int × Unit)) =>
 aggSt (at0 b3) (.agg (Cells.vals c34 x37).toArray) 3 <|
 lds c34 (at0 b3) fun (x38 : (Int × Int × Int × Unit)) =>
 K x38) (
 again32 ((IntKind.wrap .i64 (s31.1 + (1 : Int))), ()))) (
 J24 ())) ((0 : Int), ())) fun (s25 : Unit) =>
 ld (.int .i64) (⟨b10, 2, none⟩ : Addr) fun (x39 : Int) =>
 ld (.int .i64) (at0 b14) fun (x40 : Int) =>
 sif (x39 == x40) (
 ld (.int .i64) (⟨b1, 1, none⟩ : Addr) fun (x41 : Int) =>
 ld (.int .i64) (⟨b1, 1, none⟩ : Addr) fun (x42 : Int) =>
 aggSt (at0 b3) (.agg #[(.int .i64 x41), (.int .i64 x42), (.int .i64 (0 : Int))]) 3 <|
 lds c34 (at0 b3) fun (x43 : (Int × Int × Int × Unit)) =>
 K x43) (
 ld (.int .i64) (⟨b10, 2, none⟩ : Addr) fun (x44 : Int) =>
 ld (.int .i64) (at0 b14) fun (x45 : Int) =>
 aggSt (at0 b3) (.agg #[(.int .i64 x44), (.int .i64 x45), (.int .i64 (1 : Int))]) 3 <|
 lds c34 (at0 b3) fun (x46 : (Int × Int × Int × Unit)) =>
 K x46))
noncomputable def h44 : Hint := (.seq none (.region [] (.ops 3 .done)) (.seq none (.region [] (.ops 7 .done)) (.seq none (.region [] (.ops 12 .done)) (.seq none (.region [] (.ops 12 .done)) (.seq none (.seq (some (140600049401856, [(46, (.one .bool))])) (.region [] (.ops 6 (.split 42 (.skips 3 (.ops 1 .done)) (.ops 4 .done)))) (.cond none (.seq none (.region [] (.ops 2 .done)) .leaf) .leaf)) (.seq (some (147573671114699710464, [])) (.seq none (.region [0, 1, 2, 3, 4, 6, 7, 10, 5, 8, 9] (.ops 11 .done)) (.block (.loop 147285722213524709376 [(58, (.one (.int .i64)))] (.seq none (.region [] (.ops 1 .done)) (.seq none (.cond none .leaf .leaf) (.seq none (.block (.seq none (.region [] (.ops 4 .done)) (.seq none (.region [] (.ops 3 .done)) (.cond none (.seq none (.region [] (.ops 2 .done)) .leaf) .leaf)))) (.region [] (.ops 2 .done)))))))) (.seq none (.seq none (.region [] (.ops 5 .done)) (.cond none (.seq none (.region [] (.ops 6 .done)) .leaf) .leaf)) (.seq none (.region [] (.ops 6 .done)) .leaf))))))))
theorem F44_tie (a0 : Option Addr) (a1 : (Int × Int × Int × Bool × Int × Unit)) (a2 : (Int × Int × Int × Bool × Int × Unit)) (K : (Int × Int × Int × Unit) → World → Prop) : vcgF tab Tryz.prog Tryz.f44 h44 [(.pointer a0), (.agg (Cells.vals c72 a1).toArray), (.agg (Cells.vals c72 a2).toArray)] (.one (.agg c34)) K = F44 a0 a1 a2 K := by kernel_rfl
theorem F44_calls {a0 : Option Addr} {a1 : (Int × Int × Int × Bool × Int × Unit)} {a2 : (Int × Int × Int × Bool × Int × Unit)} {K : (Int × Int × Int × Unit) → World → Prop} {w : World} (h : F44 a0 a1 a2 K w) : callT Tryz.prog 44 #[(.pointer a0), (.agg (Cells.vals c72 a1).toArray), (.agg (Cells.vals c72 a2).toArray)] (.one (.agg c34)) K w :=
  vcgF_sound tabOk Tryz.func44 h44 [(.pointer a0), (.agg (Cells.vals c72 a1).toArray), (.agg (Cells.vals c72 a2).toArray)] (.one (.agg c34)) K w (Eq.mpr (congrFun (F44_tie a0 a1 a2 K) w) h)
noncomputable def F51 (a0 : Option Addr) (a1 : Int) (K : (Sl × Int × Unit) → World → Prop) : World → Prop :=
 callT Tryz.prog 57 #[(.pointer a0), (.int .i64 a1)] (.one (.one (.int .i64))) fun (x1 : Int) =>
 callT Tryz.prog 71 #[(.pointer a0), (.int .i64 x1)] (.tup [(.agg c100), (.one (.int .i64))]) fun (x2 : ((Int × Int × Int × Int × Unit) × Int × Unit)) =>
 newO (.cells #[(.int .i64 (0 : Int)), (.int .i64 (0 : Int)), (.int .i64 (0 : Int)), (.int .i64 (0 : Int))] 100) fun b3 =>
 aggSt (at0 b3) (.agg (Cells.vals c100 x2.1).toArray) 4 <|
 drew <|
 ld (.int .i64) (at0 b3) fun (x4 : Int) =>
 ld (.int .i64) (⟨b3, 1, none⟩ : Addr) fun (x5 : Int) =>
 ld (.int .i64) (at0 b3) fun (x6 : Int) =>
 callT Tryz.prog 23 #[(.pointer a0), (.int .i64 x4), (.int .i64 x5)] (.one (.one .sl)) fun (x7 : Sl) =>
 keep (fun w => w.cell? (at0 b3) = some (Cell.val (.int .i64) x6)) <|
 callT Tryz.prog 39 #[(.slice x7.a x7.len x7.cap), (.int .i64 x6)] (.one (.one .sl)) fun (x8 : Sl) =>
 join (S := Unit) (fun J9 =>
 sloop (S := Int × Unit) (fun (s11 : Int × Unit) again12 =>
 sif (decide (s11.1 < ((x8.len : Nat) : Int))) (
 ix x8.a x8.len s11.1 fun p13 =>
 lds c72 (p13.add (scaled (Int.toNat s11.1) 5)) fun (x14 : (Int × Int × Int × Bool × Int × Unit)) =>
 newO (.cells #[(.int .i64 (0 : Int)), (.int .i64 (0 : Int)), (.int .i64 (0 : Int)), (.bool false), (.int .i64 (0 : Int))] 72) fun b15 =>
 aggSt (at0 b15) (.agg (Cells.vals c72 x14).toArray) 5 <|
 ld (.int .i64) (⟨b15, 1, none⟩ : Addr) fun (x16 : Int) =>
 sif (decide (a1 < x16)) (
 K (x8, s11.1, ())) (
 again12 ((IntKind.wrap .i64 (s11.1 + (1 : Int))), ()))) (
 J9 ())) ((0 : Int), ())) fun (s10 : Unit) =>
 K (x8, (IntKind.wrap .i64 (((x8.len : Nat) : Int) - (1 : Int))), ())
noncomputable def h51 : Hint := (.seq none (.region [] (.ops 2 .done)) (.seq none (.region [] (.ops 11 .done)) (.seq none (.region [0, 1, 2, 3, 4, 6, 7, 5, 8, 9] (.ops 10 .done)) (.seq (some (4397778077232, [])) (.seq none (.region [] (.ops 3 .done)) (.block (.loop 4396972770864 [(30, (.one (.int .i64)))] (.seq none (.region [] (.ops 1 .done)) (.seq none (.cond none .leaf .leaf) (.seq none (.block (.seq none (.region [] (.ops 6 .done)) (.seq none (.region [] (.ops 4 .done)) (.cond none (.seq none (.region [] (.ops 4 .done)) .leaf) .leaf)))) (.region [] (.ops 2 .done)))))))) (.seq none (.region [] (.ops 6 .done)) .leaf)))))
theorem F51_tie (a0 : Option Addr) (a1 : Int) (K : (Sl × Int × Unit) → World → Prop) : vcgF tab Tryz.prog Tryz.f51 h51 [(.pointer a0), (.int .i64 a1)] (.tup [(.one .sl), (.one (.int .i64))]) K = F51 a0 a1 K := by kernel_rfl
theorem F51_calls {a0 : Option Addr} {a1 : Int} {K : (Sl × Int × Unit) → World → Prop} {w : World} (h : F51 a0 a1 K w) : callT Tryz.prog 51 #[(.pointer a0), (.int .i64 a1)] (.tup [(.one .sl), (.one (.int .i64))]) K w :=
  vcgF_sound tabOk Tryz.func51 h51 [(.pointer a0), (.int .i64 a1)] (.tup [(.one .sl), (.one (.int .i64))]) K w (Eq.mpr (congrFun (F51_tie a0 a1 K) w) h)
noncomputable def F52 (a0 : Int) (v0 : Addr) (v1 : Addr) (K : Int → World → Prop) : World → Prop :=
 join (S := Bool × Unit) (fun J1 =>
 ld (.bool) v0 fun (x3 : Bool) =>
 sif x3 (
 ld (.sl) v1 fun (x4 : Sl) =>
 ix x4.a x4.len a0 fun p5 =>
 ld (.int .i64) ((p5.add (scaled (Int.toNat a0) 5)).add 2) fun (x6 : Int) =>
 J1 ((x6 != (0 : Int)), ())) (
 J1 (false, ()))) fun (s2 : Bool × Unit) =>
 sif s2.1 (
 K (2 : Int)) (
 ld (.sl) v1 fun (x7 : Sl) =>
 ix x7.a x7.len a0 fun p8 =>
 ld (.int .i64) ((p8.add (scaled (Int.toNat a0) 5)).add 2) fun (x9 : Int) =>
 K x9)
noncomputable def h52 : Hint := (.seq none (.region [] (.ops 1 .done)) (.seq none (.seq (some (16352, [(13, (.one .bool))])) (.region [] (.ops 2 (.split 6 (.ops 7 .done) (.skips 6 (.ops 1 .done))))) (.cond none (.seq none (.region [] (.ops 1 .done)) .leaf) .leaf)) (.seq none (.region [] (.ops 6 .done)) .leaf)))
theorem F52_tie (a0 : Int) (v0 : Addr) (v1 : Addr) (K : Int → World → Prop) : vcgF tab Tryz.prog Tryz.f52 h52 [(.int .i64 a0), (.pointer (some v0)), (.pointer (some v1))] (.one (.one (.int .i64))) K = F52 a0 v0 v1 K := by kernel_rfl
theorem F52_calls {a0 : Int} {v0 : Addr} {v1 : Addr} {K : Int → World → Prop} {w : World} (h : F52 a0 v0 v1 K w) : callT Tryz.prog 52 #[(.int .i64 a0), (.pointer (some v0)), (.pointer (some v1))] (.one (.one (.int .i64))) K w :=
  vcgF_sound tabOk Tryz.func52 h52 [(.int .i64 a0), (.pointer (some v0)), (.pointer (some v1))] (.one (.one (.int .i64))) K w (Eq.mpr (congrFun (F52_tie a0 v0 v1 K) w) h)
noncomputable def F53 (a0 : (Int × Value × Unit)) (a1 : Int) (a2 : Int) (K : (Int × Int × Bool × Unit) → World → Prop) : World → Prop :=
 newO (.cells #[(.int .i64 a0.1), a0.2.1] 89) fun b1 =>
 join (S := Int × Unit) (fun J2 =>
 sloop (S := Int × Int × Unit) (fun (s4 : Int × Int × Unit) again5 =>
 sif (decide (s4.2.1 < a2)) (
 ld (.int .i64) (at0 b1) fun (x6 : Int) =>
 sif (decide (s4.1 ≥ x6)) (
 K ((0 : Int), (0 : Int), false, ())) (
 lds c89 (at0 b1) fun (x7 : (Int × Value × Unit)) =>
 callT Tryz.prog 79 #[(.agg (Cells.vals c89 x7).toArray), (.int .i64 s4.1)] (.one (.one (.int .i64))) fun (x8 : Int) =>
 again5 (x8, (IntKind.wrap .i64 (s4.2.1 + (1 : Int))), ()))) (
 J2 (s4.1, ()))) (a1, (0 : Int), ())) fun (s3 : Int × Unit) =>
 lds c89 (at0 b1) fun (x9 : (Int × Value × Unit)) =>
 callT Tryz.prog 80 #[(.agg (Cells.vals c89 x9).toArray), (.int .i64 a1)] (.one (.one (.int .i64))) fun (x10 : Int) =>
 K (x10, s3.1, true, ())
noncomputable def h53 : Hint := (.seq none (.region [] (.ops 4 .done)) (.seq none (.region [] (.ops 2 .done)) (.seq (some (4193216, [(9, (.one (.int .i64)))])) (.seq none (.region [] (.ops 2 .done)) (.block (.loop 4191168 [(9, (.one (.int .i64))), (12, (.one (.int .i64)))] (.seq none (.region [] (.ops 1 .done)) (.seq none (.cond none .leaf .leaf) (.seq none (.block (.seq none (.seq none (.region [] (.ops 4 .done)) (.cond none (.seq none (.region [] (.ops 3 .done)) .leaf) .leaf)) (.region [] (.ops 4 .done)))) (.region [] (.ops 2 .done)))))))) (.seq none (.region [] (.ops 7 .done)) .leaf))))
theorem F53_tie (a0 : (Int × Value × Unit)) (a1 : Int) (a2 : Int) (K : (Int × Int × Bool × Unit) → World → Prop) : vcgF tab Tryz.prog Tryz.f53 h53 [(.agg (Cells.vals c89 a0).toArray), (.int .i64 a1), (.int .i64 a2)] (.tup [(.one (.int .i64)), (.one (.int .i64)), (.one .bool)]) K = F53 a0 a1 a2 K := by kernel_rfl
theorem F53_calls {a0 : (Int × Value × Unit)} {a1 : Int} {a2 : Int} {K : (Int × Int × Bool × Unit) → World → Prop} {w : World} (h : F53 a0 a1 a2 K w) : callT Tryz.prog 53 #[(.agg (Cells.vals c89 a0).toArray), (.int .i64 a1), (.int .i64 a2)] (.tup [(.one (.int .i64)), (.one (.int .i64)), (.one .bool)]) K w :=
  vcgF_sound tabOk Tryz.func53 h53 [(.agg (Cells.vals c89 a0).toArray), (.int .i64 a1), (.int .i64 a2)] (.tup [(.one (.int .i64)), (.one (.int .i64)), (.one .bool)]) K w (Eq.mpr (congrFun (F53_tie a0 a1 a2 K) w) h)
noncomputable def F54 (a0 : (Int × Value × Unit)) (a1 : Int) (a2 : Int) (K : (Int × Int × Bool × Unit) → World → Prop) : World → Prop :=
 newO (.cells #[(.int .i64 a0.1), a0.2.1] 89) fun b1 =>
 ld (.any) (⟨b1, 1, none⟩ : Addr) fun (x2 : Value) =>
 callX Tryz.prog (do let d ← Deferred.ofValue x2 #[(.int .i64 a1)]; invoke d.target d.args : Sem Next) (.one (.one (.int .i64))) fun (x3 : Int) =>
 lds c89 (at0 b1) fun (x4 : (Int × Value × Unit)) =>
 callT Tryz.prog 80 #[(.agg (Cells.vals c89 x4).toArray), (.int .i64 a1)] (.one (.one (.int .i64))) fun (x5 : Int) =>
 join (S := Int × Unit) (fun J6 =>
 sloop (S := Int × Int × Unit) (fun (s8 : Int × Int × Unit) again9 =>
 sif (decide (s8.2.1 < a2)) (
 join (S := Int × Unit) (fun J10 =>
 join (S := Bool × Unit) (fun J12 =>
 ld (.int .i64) (at0 b1) fun (x14 : Int) =>
 sif (decide (s8.1 < x14)) (
 ld (.any) (⟨b1, 1, none⟩ : Addr) fun (x15 : Value) =>
 callX Tryz.prog (do let d ← Deferred.ofValue x15 #[(.int .i64 s8.1)]; invoke d.target d.args : Sem Next) (.one (.one (.int .i64))) fun (x16 : Int) =>
 J12 ((x16 == (0 : Int)), ())) (
 J12 (false, ()))) fun (s13 : Bool × Unit) =>
 sif s13.1 (
 lds c89 (at0 b1) fun (x17 : (Int × Value × Unit)) =>
 callT Tryz.prog 79 #[(.agg (Cells.vals c89 x17).toArray), (.int .i64 s8.1)] (.one (.one (.int .i64))) fun (x18 : Int) =>
 J10 (x18, ())) (
 J10 (s8.1, ()))) fun (s11 : Int × Unit) =>
 ld (.int .i64) (at0 b1) fun (x19 : Int) =>
 sif (decide (s11.1 ≥ x19)) (
 K ((0 : Int), (0 : Int), false, ())) (
 lds c89 (at0 b1) fun (x20 : (Int × Value × Unit)) =>
 callT Tryz.prog 79 #[(.agg (Cells.vals c89 x20).toArray), (.int .i64 s11.1)] (.one (.one (.int .i64))) fun (x21 : Int) =>
 again9 (x21, (IntKind.wrap .i64 (s8.2.1 + (1 : Int))), ()))) (
 J6 (s8.1, ()))) (a1, (0 : Int), ())) fun (s7 : Int × Unit) =>
 join (S := Int × Int × Unit) (fun J22 =>
 sif (x3 == (0 : Int)) (
 J22 (x5, s7.1, ())) (
 join (S := Bool × Unit) (fun J24 =>
 ld (.int .i64) (at0 b1) fun (x26 : Int) =>
 sif (decide (s7.1 < x26)) (
 ld (.any) (⟨b1, 1, none⟩ : Addr) fun (x27 : Value) =>
 callX Tryz.prog (do let d ← Deferred.ofValue x27 #[(.int .i64 s7.1)]; invoke d.target d.args : Sem Next) (.one (.one (.int .i64))) fun (x28 : Int) =>
 J24 ((x28 == (0 : Int)), ())) (
 J24 (false, ()))) fun (s25 : Bool × Unit) =>
 sif s25.1 (
 lds c89 (at0 b1) fun (x29 : (Int × Value × Unit)) =>
 callT Tryz.prog 79 #[(.agg (Cells.vals c89 x29).toArray), (.int .i64 s7.1)] (.one (.one (.int .i64))) fun (x30 : Int) =>
 J22 (x5, x30, ())) (
 join (S := Bool × Unit) (fun J31 =>
 sif (decide (x5 > (0 : Int))) (
 ld (.any) (⟨b1, 1, none⟩ : Addr) fun (x33 : Value) =>
 callX Tryz.prog (do let d ← Deferred.ofValue x33 #[(.int .i64 (IntKind.wrap .i64 (x5 - (1 : Int))))]; invoke d.target d.args : Sem Next) (.one (.one (.int .i64))) fun (x34 : Int) =>
 J31 ((x34 == (0 : Int)), ())) (
 J31 (false, ()))) fun (s32 : Bool × Unit) =>
 sif s32.1 (
 lds c89 (at0 b1) fun (x35 : (Int × Value × Unit)) =>
 callT Tryz.prog 80 #[(.agg (Cells.vals c89 x35).toArray), (.int .i64 (IntKind.wrap .i64 (x5 - (1 : Int))))] (.one (.one (.int .i64))) fun (x36 : Int) =>
 J22 (x36, s7.1, ())) (
 J22 (x5, s7.1, ()))))) fun (s23 : Int × Int × Unit) =>
 K (s23.1, s23.2.1, true, ())
noncomputable def h54 : Hint := (.seq none (.region [] (.ops 4 .done)) (.seq none (.region [] (.ops 6 .done)) (.seq none (.region [] (.ops 6 .done)) (.seq (some (70368742083008, [(11, (.one (.int .i64)))])) (.seq none (.region [] (.ops 2 .done)) (.block (.loop 70368739985856 [(11, (.one (.int .i64))), (22, (.one (.int .i64)))] (.seq none (.region [] (.ops 1 .done)) (.seq none (.cond none .leaf .leaf) (.seq none (.block (.seq (some (274861131776, [(11, (.one (.int .i64)))])) (.seq (some (34342961152, [(34, (.one .bool))])) (.region [] (.ops 5 (.split 28 (.ops 6 .done) (.skips 5 (.ops 1 .done))))) (.cond none (.region [] (.ops 4 .done)) .leaf)) (.seq none (.seq none (.region [] (.ops 4 .done)) (.cond none (.seq none (.region [] (.ops 3 .done)) .leaf) .leaf)) (.region [] (.ops 4 .done))))) (.region [] (.ops 2 .done)))))))) (.seq (some (302231454833288549501952, [(10, (.one (.int .i64))), (11, (.one (.int .i64)))])) (.block (.seq none (.region [] (.ops 2 .done)) (.cond none .leaf (.seq (some (1152640029630136320, [(48, (.one .bool))])) (.region [] (.ops 5 (.split 53 (.ops 7 .done) (.skips 5 (.ops 2 .done))))) (.cond none (.region [] (.ops 4 .done)) (.seq (some (18880242559441726078976, [(63, (.one .bool))])) (.region [] (.ops 3 (.split 66 (.ops 8 .done) (.skips 6 (.ops 2 .done))))) (.cond none (.region [] (.ops 5 .done)) .leaf))))))) (.seq none (.region [] (.ops 5 .done)) .leaf))))))
theorem F54_tie (a0 : (Int × Value × Unit)) (a1 : Int) (a2 : Int) (K : (Int × Int × Bool × Unit) → World → Prop) : vcgF tab Tryz.prog Tryz.f54 h54 [(.agg (Cells.vals c89 a0).toArray), (.int .i64 a1), (.int .i64 a2)] (.tup [(.one (.int .i64)), (.one (.int .i64)), (.one .bool)]) K = F54 a0 a1 a2 K := by kernel_rfl
theorem F54_calls {a0 : (Int × Value × Unit)} {a1 : Int} {a2 : Int} {K : (Int × Int × Bool × Unit) → World → Prop} {w : World} (h : F54 a0 a1 a2 K w) : callT Tryz.prog 54 #[(.agg (Cells.vals c89 a0).toArray), (.int .i64 a1), (.int .i64 a2)] (.tup [(.one (.int .i64)), (.one (.int .i64)), (.one .bool)]) K w :=
  vcgF_sound tabOk Tryz.func54 h54 [(.agg (Cells.vals c89 a0).toArray), (.int .i64 a1), (.int .i64 a2)] (.tup [(.one (.int .i64)), (.one (.int .i64)), (.one .bool)]) K w (Eq.mpr (congrFun (F54_tie a0 a1 a2 K) w) h)
noncomputable def F55 (a0 : Sl) (a1 : Int) (a2 : Int) (K : (Int × Int × Bool × Unit) → World → Prop) : World → Prop :=
 join (S := Unit) (fun J1 =>
 sloop (S := Int × Int × Int × Unit) (fun (s3 : Int × Int × Int × Unit) again4 =>
 sif (decide (s3.2.2.1 < ((a0.len : Nat) : Int))) (
 join (S := Int × Int × Unit) (fun J5 =>
 ix a0.a a0.len s3.2.2.1 fun p7 =>
 lds c72 (p7.add (scaled (Int.toNat s3.2.2.1) 5)) fun (x8 : (Int × Int × Int × Bool × Int × Unit)) =>
 newO (.cells #[(.int .i64 (0 : Int)), (.int .i64 (0 : Int)), (.int .i64 (0 : Int)), (.bool false), (.int .i64 (0 : Int))] 72) fun b9 =>
 aggSt (at0 b9) (.agg (Cells.vals c72 x8).toArray) 5 <|
 join (S := Bool × Unit) (fun J10 =>
 lds c72 (at0 b9) fun (x12 : (Int × Int × Int × Bool × Int × Unit)) =>
 callT Tryz.prog 42 #[(.agg (Cells.vals c72 x12).toArray), (.int .i64 a2)] (.one (.one .bool)) fun (x13 : Bool) =>
 sif x13 (
 chk ((2 : Int) ≠ 0) <|
 J10 (((Int.tmod s3.2.1 (2 : Int)) == (0 : Int)), ())) (
 J10 (false, ()))) fun (s11 : Bool × Unit) =>
 join (S := Int × Unit) (fun J14 =>
 lds c72 (at0 b9) fun (x16 : (Int × Int × Int × Bool × Int × Unit)) =>
 callT Tryz.prog 42 #[(.agg (Cells.vals c72 x16).toArray), (.int .i64 (92 : Int))] (.one (.one .bool)) fun (x17 : Bool) =>
 sif (!x17) (
 J14 ((0 : Int), ())) (
 J14 ((IntKind.wrap .i64 (s3.2.1 + (1 : Int))), ()))) fun (s15 : Int × Unit) =>
 sif (!s11.1) (
 J5 (s3.1, s15.1, ())) (
 sif (decide (s3.1 < (0 : Int))) (
 J5 (s3.2.2.1, s15.1, ())) (
 sif (decide (s3.2.2.1 ≥ a1)) (
 K (s3.1, s3.2.2.1, true, ())) (
 J5 ((-1 : Int), s15.1, ()))))) fun (s6 : Int × Int × Unit) =>
 again4 (s6.1, s6.2.1, (IntKind.wrap .i64 (s3.2.2.1 + (1 : Int))), ())) (
 J1 ())) ((-1 : Int), (0 : Int), (0 : Int), ())) fun (s2 : Unit) =>
 K ((0 : Int), (0 : Int), false, ())
noncomputable def h55 : Hint := (.seq none (.region [] (.ops 3 .done)) (.seq none (.region [] (.ops 2 .done)) (.seq (some (281474976710592, [])) (.seq none (.region [] (.ops 3 .done)) (.block (.loop 281474976661440 [(9, (.one (.int .i64))), (10, (.one (.int .i64))), (16, (.one (.int .i64)))] (.seq none (.region [] (.ops 1 .done)) (.seq none (.cond none .leaf .leaf) (.seq (some (140737488109504, [(9, (.one (.int .i64))), (10, (.one (.int .i64)))])) (.block (.seq none (.region [] (.ops 6 .done)) (.seq (some (534781952, [(13, (.one .bool))])) (.region [] (.ops 4 (.split 24 (.ops 5 .done) (.skips 3 (.ops 2 .done))))) (.seq none (.region [] (.ops 3 .done)) (.seq (some (15032386560, [(10, (.one (.int .i64)))])) (.seq none (.region [] (.ops 3 .done)) (.cond none (.region [] (.ops 1 .done)) .leaf)) (.block (.seq none (.region [] (.ops 3 .done)) (.cond none .leaf (.seq none (.region [] (.ops 3 .done)) (.cond none (.region [] (.ops 2 .done)) (.seq none (.region [] (.ops 4 .done)) (.cond none (.seq none (.region [] (.ops 5 .done)) .leaf) (.region [] (.ops 1 .done)))))))))))))) (.region [] (.ops 2 .done)))))))) (.seq none (.region [] (.ops 3 .done)) .leaf))))
theorem F55_tie (a0 : Sl) (a1 : Int) (a2 : Int) (K : (Int × Int × Bool × Unit) → World → Prop) : vcgF tab Tryz.prog Tryz.f55 h55 [(.slice a0.a a0.len a0.cap), (.int .i64 a1), (.int .i64 a2)] (.tup [(.one (.int .i64)), (.one (.int .i64)), (.one .bool)]) K = F55 a0 a1 a2 K := by kernel_rfl
theorem F55_calls {a0 : Sl} {a1 : Int} {a2 : Int} {K : (Int × Int × Bool × Unit) → World → Prop} {w : World} (h : F55 a0 a1 a2 K w) : callT Tryz.prog 55 #[(.slice a0.a a0.len a0.cap), (.int .i64 a1), (.int .i64 a2)] (.tup [(.one (.int .i64)), (.one (.int .i64)), (.one .bool)]) K w :=
  vcgF_sound tabOk Tryz.func55 h55 [(.slice a0.a a0.len a0.cap), (.int .i64 a1), (.int .i64 a2)] (.tup [(.one (.int .i64)), (.one (.int .i64)), (.one .bool)]) K w (Eq.mpr (congrFun (F55_tie a0 a1 a2 K) w) h)
noncomputable def F56 (a0 : Int) (v0 : Addr) (K : Bool → World → Prop) : World → Prop :=
 sif (decide (a0 ≥ (0 : Int))) (
 ld (.sl) v0 fun (x1 : Sl) =>
 sif (decide (a0 < ((x1.len : Nat) : Int))) (
 ld (.sl) v0 fun (x2 : Sl) =>
 ix x2.a x2.len a0 fun p3 =>
 ld (.int .i64) ((p3.add (scaled (Int.toNat a0) 5)).add 2) fun (x4 : Int) =>
 K (x4 == (0 : Int))) (
 K false)) (
 K false)
noncomputable def h56 : Hint := (.seq none (.region [] (.ops 1 .done)) (.seq none (.region [] (.ops 3 (.split 6 (.ops 6 (.split 12 (.ops 8 .done) (.skips 6 (.ops 2 .done)))) (.skips 4 (.ops 2 (.skips 6 (.ops 2 .done))))))) .leaf))
theorem F56_tie (a0 : Int) (v0 : Addr) (K : Bool → World → Prop) : vcgF tab Tryz.prog Tryz.f56 h56 [(.int .i64 a0), (.pointer (some v0))] (.one (.one .bool)) K = F56 a0 v0 K := by kernel_rfl
theorem F56_calls {a0 : Int} {v0 : Addr} {K : Bool → World → Prop} {w : World} (h : F56 a0 v0 K w) : callT Tryz.prog 56 #[(.int .i64 a0), (.pointer (some v0))] (.one (.one .bool)) K w :=
  vcgF_sound tabOk Tryz.func56 h56 [(.int .i64 a0), (.pointer (some v0))] (.one (.one .bool)) K w (Eq.mpr (congrFun (F56_tie a0 v0 K) w) h)
noncomputable def F57 (a0 : Option Addr) (a1 : Int) (K : Int → World → Prop) : World → Prop :=
 callT Tryz.prog 40 #[(.pointer a0)] (.one (.one (.int .i64))) fun (x1 : Int) =>
 callT Tryz.prog 66 #[(.pointer a0), (.int .i64 (if x1 < (if (0 : Int) > a1 then (0 : Int) else a1) then x1 else (if (0 : Int) > a1 then (0 : Int) else a1)))] (.one (.one (.int .i64))) fun (x2 : Int) =>
 K x2
noncomputable def h57 : Hint := (.seq none (.region [] (.ops 1 .done)) (.seq none (.region [] (.ops 8 .done)) .leaf))
theorem F57_tie (a0 : Option Addr) (a1 : Int) (K : Int → World → Prop) : vcgF tab Tryz.prog Tryz.f57 h57 [(.pointer a0), (.int .i64 a1)] (.one (.one (.int .i64))) K = F57 a0 a1 K := by kernel_rfl
theorem F57_calls {a0 : Option Addr} {a1 : Int} {K : Int → World → Prop} {w : World} (h : F57 a0 a1 K w) : callT Tryz.prog 57 #[(.pointer a0), (.int .i64 a1)] (.one (.one (.int .i64))) K w :=
  vcgF_sound tabOk Tryz.func57 h57 [(.pointer a0), (.int .i64 a1)] (.one (.one (.int .i64))) K w (Eq.mpr (congrFun (F57_tie a0 a1 K) w) h)
noncomputable def F58 (a0 : Option Addr) (K : Int → World → Prop) : World → Prop :=
 callT Tryz.prog 40 #[(.pointer a0)] (.one (.one (.int .i64))) fun (x1 : Int) =>
 callT Tryz.prog 66 #[(.pointer a0), (.int .i64 x1)] (.one (.one (.int .i64))) fun (x2 : Int) =>
 join (S := Int × Unit) (fun J3 =>
 callT Tryz.prog 81 #[(.pointer a0)] (.one (.one .bool)) fun (x5 : Bool) =>
 sif (!x5) (
 J3 ((IntKind.wrap .i64 (x2 + (1 : Int))), ())) (
 J3 (x2, ()))) fun (s4 : Int × Unit) =>
 K s4.1
noncomputable def h58 : Hint := (.seq none (.region [] (.ops 1 .done)) (.seq none (.region [] (.ops 5 .done)) (.seq (some (7944, [(3, (.one (.int .i64)))])) (.seq none (.region [] (.ops 3 .done)) (.cond none (.region [] (.ops 3 .done)) .leaf)) (.seq none (.region [] (.ops 2 .done)) .leaf))))
theorem F58_tie (a0 : Option Addr) (K : Int → World → Prop) : vcgF tab Tryz.prog Tryz.f58 h58 [(.pointer a0)] (.one (.one (.int .i64))) K = F58 a0 K := by kernel_rfl
theorem F58_calls {a0 : Option Addr} {K : Int → World → Prop} {w : World} (h : F58 a0 K w) : callT Tryz.prog 58 #[(.pointer a0)] (.one (.one (.int .i64))) K w :=
  vcgF_sound tabOk Tryz.func58 h58 [(.pointer a0)] (.one (.one (.int .i64))) K w (Eq.mpr (congrFun (F58_tie a0 K) w) h)
noncomputable def F59 (a0 : Option Addr) (K : Value → World → Prop) : World → Prop :=
 newO (.cells #[(.pointer a0)] 25) fun b1 =>
 K (.func (Fn.func 82) #[] #[(.pointer (some (at0 b1)))])
noncomputable def h59 : Hint := (.seq none (.region [] (.ops 2 .done)) (.seq none (.region [] (.ops 2 .done)) .leaf))
theorem F59_tie (a0 : Option Addr) (K : Value → World → Prop) : vcgF tab Tryz.prog Tryz.f59 h59 [(.pointer a0)] (.one (.one .any)) K = F59 a0 K := by kernel_rfl
theorem F59_calls {a0 : Option Addr} {K : Value → World → Prop} {w : World} (h : F59 a0 K w) : callT Tryz.prog 59 #[(.pointer a0)] (.one (.one .any)) K w :=
  vcgF_sound tabOk Tryz.func59 h59 [(.pointer a0)] (.one (.one .any)) K w (Eq.mpr (congrFun (F59_tie a0 K) w) h)
noncomputable def F60 (a0 : Int) (v0 : Addr) (K : Int → World → Prop) : World → Prop :=
 ld (.sl) v0 fun (x1 : Sl) =>
 ix x1.a x1.len a0 fun p2 =>
 ld (.int .i64) (p2.add (scaled (Int.toNat a0) 1)) fun (x3 : Int) =>
 K x3
noncomputable def h60 : Hint := (.seq none (.region [] (.ops 1 .done)) (.seq none (.region [] (.ops 5 .done)) .leaf))
theorem F60_tie (a0 : Int) (v0 : Addr) (K : Int → World → Prop) : vcgF tab Tryz.prog Tryz.f60 h60 [(.int .i64 a0), (.pointer (some v0))] (.one (.one (.int .i64))) K = F60 a0 v0 K := by kernel_rfl
theorem F60_calls {a0 : Int} {v0 : Addr} {K : Int → World → Prop} {w : World} (h : F60 a0 v0 K w) : callT Tryz.prog 60 #[(.int .i64 a0), (.pointer (some v0))] (.one (.one (.int .i64))) K w :=
  vcgF_sound tabOk Tryz.func60 h60 [(.int .i64 a0), (.pointer (some v0))] (.one (.one (.int .i64))) K w (Eq.mpr (congrFun (F60_tie a0 v0 K) w) h)
noncomputable def F71 (a0 : Option Addr) (a1 : Int) (K : ((Int × Int × Int × Int × Unit) × Int × Unit) → World → Prop) : World → Prop :=
 newO (.cells #[(.int .i64 (0 : Int)), (.int .i64 (0 : Int)), (.int .i64 (0 : Int)), (.int .i64 (0 : Int))] 100) fun b1 =>
 sif (decide (a1 < (0 : Int))) (
 aggSt (at0 b1) (.agg #[(.int .i64 (0 : Int)), (.int .i64 (0 : Int)), (.int .i64 (0 : Int)), (.int .i64 (0 : Int))]) 4 <|
 lds c100 (at0 b1) fun (x2 : (Int × Int × Int × Int × Unit)) =>
 K (x2, (2 : Int), ())) (
 callT Tryz.prog 67 #[(.pointer a0), (.int .i64 a1)] (.one (.one (.int .i64))) fun (x3 : Int) =>
 sif (decide (x3 < (0 : Int))) (
 aggSt (at0 b1) (.agg #[(.int .i64 (0 : Int)), (.int .i64 (0 : Int)), (.int .i64 (0 : Int)), (.int .i64 (0 : Int))]) 4 <|
 lds c100 (at0 b1) fun (x4 : (Int × Int × Int × Int × Unit)) =>
 K (x4, (2 : Int), ())) (
 callT Tryz.prog 40 #[(.pointer a0)] (.one (.one (.int .i64))) fun (x5 : Int) =>
 callT Tryz.prog 66 #[(.pointer a0), (.int .i64 x5)] (.one (.one (.int .i64))) fun (x6 : Int) =>
 sif (decide (a1 < x6)) (
 callT Tryz.prog 67 #[(.pointer a0), (.int .i64 (IntKind.wrap .i64 (a1 + (1 : Int))))] (.one (.one (.int .i64))) fun (x7 : Int) =>
 callT Tryz.prog 97 #[(.pointer a0), (.int .i64 x3), (.int .i64 x7)] (.one (.agg c100)) fun (x8 : (Int × Int × Int × Int × Unit)) =>
 aggSt (at0 b1) (.agg (Cells.vals c100 x8).toArray) 4 <|
 lds c100 (at0 b1) fun (x9 : (Int × Int × Int × Int × Unit)) =>
 K (x9, (0 : Int), ())) (
 callT Tryz.prog 40 #[(.pointer a0)] (.one (.one (.int .i64))) fun (x10 : Int) =>
 callT Tryz.prog 40 #[(.pointer a0)] (.one (.one (.int .i64))) fun (x11 : Int) =>
 aggSt (at0 b1) (.agg #[(.int .i64 x3), (.int .i64 x10), (.int .i64 x11), (.int .i64 (0 : Int))]) 4 <|
 lds c100 (at0 b1) fun (x12 : (Int × Int × Int × Int × Unit)) =>
 K (x12, (0 : Int), ()))))
noncomputable def h71 : Hint := (.seq none (.region [] (.ops 2 .done)) (.seq none (.seq none (.region [] (.ops 2 .done)) (.cond none (.seq none (.region [] (.ops 3 .done)) .leaf) .leaf)) (.seq none (.region [] (.ops 4 .done)) (.seq none (.seq none (.region [] (.ops 2 .done)) (.cond none (.seq none (.region [] (.ops 3 .done)) .leaf) .leaf)) (.seq none (.seq none (.region [] (.ops 6 .done)) (.cond none (.seq none (.region [] (.ops 9 .done)) .leaf) .leaf)) (.seq none (.region [] (.ops 8 .done)) .leaf))))))
theorem F71_tie (a0 : Option Addr) (a1 : Int) (K : ((Int × Int × Int × Int × Unit) × Int × Unit) → World → Prop) : vcgF tab Tryz.prog Tryz.f71 h71 [(.pointer a0), (.int .i64 a1)] (.tup [(.agg c100), (.one (.int .i64))]) K = F71 a0 a1 K := by kernel_rfl
theorem F71_calls {a0 : Option Addr} {a1 : Int} {K : ((Int × Int × Int × Int × Unit) × Int × Unit) → World → Prop} {w : World} (h : F71 a0 a1 K w) : callT Tryz.prog 71 #[(.pointer a0), (.int .i64 a1)] (.tup [(.agg c100), (.one (.int .i64))]) K w :=
  vcgF_sound tabOk Tryz.func71 h71 [(.pointer a0), (.int .i64 a1)] (.tup [(.agg c100), (.one (.int .i64))]) K w (Eq.mpr (congrFun (F71_tie a0 a1 K) w) h)
noncomputable def F79 (a0 : (Int × Value × Unit)) (a1 : Int) (K : Int → World → Prop) : World → Prop :=
 newO (.cells #[(.int .i64 a0.1), a0.2.1] 89) fun b1 =>
 join (S := Int × Unit) (fun J2 =>
 sloop (S := Int × Unit) (fun (s4 : Int × Unit) again5 =>
 join (S := Bool × Unit) (fun J6 =>
 drew <|
 ld (.int .i64) (at0 b1) fun (x8 : Int) =>
 sif (decide (s4.1 < x8)) (
 ld (.any) (⟨b1, 1, none⟩ : Addr) fun (x9 : Value) =>
 ld (.any) (⟨b1, 1, none⟩ : Addr) fun (x10 : Value) =>
 callX Tryz.prog (do let d ← Deferred.ofValue x9 #[(.int .i64 s4.1)]; invoke d.target d.args : Sem Next) (.one (.one (.int .i64))) fun (x11 : Int) =>
 keep (fun w => w.cell? (⟨b1, 1, none⟩ : Addr) = some (Cell.val (.any) x10)) <|
 callX Tryz.prog (do let d ← Deferred.ofValue x10 #[(.int .i64 a1)]; invoke d.target d.args : Sem Next) (.one (.one (.int .i64))) fun (x12 : Int) =>
 J6 ((x11 == x12), ())) (
 J6 (false, ()))) fun (s7 : Bool × Unit) =>
 sif s7.1 (
 again5 ((IntKind.wrap .i64 (s4.1 + (1 : Int))), ())) (
 J2 (s4.1, ()))) ((IntKind.wrap .i64 (a1 + (1 : Int))), ())) fun (s3 : Int × Unit) =>
 K s3.1
noncomputable def h79 : Hint := (.seq none (.region [] (.ops 2 .done)) (.seq none (.region [] (.ops 3 .done)) (.seq (some (33554208, [(5, (.one (.int .i64)))])) (.block (.loop 33554208 [(5, (.one (.int .i64)))] (.seq none (.seq (some (8388352, [(22, (.one .bool))])) (.region [0, 1, 2, 3, 4, 5, 6, 7, 9, 10, 11, 8, 12, 13, 14] (.ops 5 (.split 12 (.ops 10 .done) (.skips 9 (.ops 1 .done))))) (.cond none .leaf .leaf)) (.block (.region [] (.ops 3 .done)))))) (.seq none (.region [] (.ops 2 .done)) .leaf))))
theorem F79_tie (a0 : (Int × Value × Unit)) (a1 : Int) (K : Int → World → Prop) : vcgF tab Tryz.prog Tryz.f79 h79 [(.agg (Cells.vals c89 a0).toArray), (.int .i64 a1)] (.one (.one (.int .i64))) K = F79 a0 a1 K := by kernel_rfl
theorem F79_calls {a0 : (Int × Value × Unit)} {a1 : Int} {K : Int → World → Prop} {w : World} (h : F79 a0 a1 K w) : callT Tryz.prog 79 #[(.agg (Cells.vals c89 a0).toArray), (.int .i64 a1)] (.one (.one (.int .i64))) K w :=
  vcgF_sound tabOk Tryz.func79 h79 [(.agg (Cells.vals c89 a0).toArray), (.int .i64 a1)] (.one (.one (.int .i64))) K w (Eq.mpr (congrFun (F79_tie a0 a1 K) w) h)
noncomputable def F80 (a0 : (Int × Value × Unit)) (a1 : Int) (K : Int → World → Prop) : World → Prop :=
 newO (.cells #[(.int .i64 a0.1), a0.2.1] 89) fun b1 =>
 join (S := Int × Unit) (fun J2 =>
 sloop (S := Int × Unit) (fun (s4 : Int × Unit) again5 =>
 join (S := Bool × Unit) (fun J6 =>
 drew <|
 sif (decide (s4.1 > (0 : Int))) (
 ld (.any) (⟨b1, 1, none⟩ : Addr) fun (x8 : Value) =>
 ld (.any) (⟨b1, 1, none⟩ : Addr) fun (x9 : Value) =>
 callX Tryz.prog (do let d ← Deferred.ofValue x8 #[(.int .i64 (IntKind.wrap .i64 (s4.1 - (1 : Int))))]; invoke d.target d.args : Sem Next) (.one (.one (.int .i64))) fun (x10 : Int) =>
 keep (fun w => w.cell? (⟨b1, 1, none⟩ : Addr) = some (Cell.val (.any) x9)) <|
 callX Tryz.prog (do let d ← Deferred.ofValue x9 #[(.int .i64 s4.1)]; invoke d.target d.args : Sem Next) (.one (.one (.int .i64))) fun (x11 : Int) =>
 J6 ((x10 == x11), ())) (
 J6 (false, ()))) fun (s7 : Bool × Unit) =>
 sif s7.1 (
 again5 ((IntKind.wrap .i64 (s4.1 - (1 : Int))), ())) (
 J2 (s4.1, ()))) (a1, ())) fun (s3 : Int × Unit) =>
 K s3.1
noncomputable def h80 : Hint := (.seq none (.region [] (.ops 2 .done)) (.seq (some (2097122, [(1, (.one (.int .i64)))])) (.block (.loop 2097122 [(1, (.one (.int .i64)))] (.seq none (.seq (some (524256, [(18, (.one .bool))])) (.region [0, 1, 2, 3, 4, 5, 6, 8, 9, 10, 7, 11, 12, 13] (.ops 3 (.split 7 (.ops 11 .done) (.skips 10 (.ops 1 .done))))) (.cond none .leaf .leaf)) (.block (.region [] (.ops 3 .done)))))) (.seq none (.region [] (.ops 2 .done)) .leaf)))
theorem F80_tie (a0 : (Int × Value × Unit)) (a1 : Int) (K : Int → World → Prop) : vcgF tab Tryz.prog Tryz.f80 h80 [(.agg (Cells.vals c89 a0).toArray), (.int .i64 a1)] (.one (.one (.int .i64))) K = F80 a0 a1 K := by kernel_rfl
theorem F80_calls {a0 : (Int × Value × Unit)} {a1 : Int} {K : Int → World → Prop} {w : World} (h : F80 a0 a1 K w) : callT Tryz.prog 80 #[(.agg (Cells.vals c89 a0).toArray), (.int .i64 a1)] (.one (.one (.int .i64))) K w :=
  vcgF_sound tabOk Tryz.func80 h80 [(.agg (Cells.vals c89 a0).toArray), (.int .i64 a1)] (.one (.one (.int .i64))) K w (Eq.mpr (congrFun (F80_tie a0 a1 K) w) h)
noncomputable def F81 (a0 : Option Addr) (K : Bool → World → Prop) : World → Prop :=
 callT Tryz.prog 40 #[(.pointer a0)] (.one (.one (.int .i64))) fun (x1 : Int) =>
 sif (decide (x1 > (0 : Int))) (
 callT Tryz.prog 66 #[(.pointer a0), (.int .i64 x1)] (.one (.one (.int .i64))) fun (x2 : Int) =>
 callT Tryz.prog 67 #[(.pointer a0), (.int .i64 x2)] (.one (.one (.int .i64))) fun (x3 : Int) =>
 K (x3 == x1)) (
 K false)
noncomputable def h81 : Hint := (.seq none (.region [] (.ops 1 .done)) (.seq none (.region [] (.ops 3 .done)) (.seq none (.region [] (.ops 3 (.split 8 (.ops 9 .done) (.skips 7 (.ops 2 .done))))) .leaf)))
theorem F81_tie (a0 : Option Addr) (K : Bool → World → Prop) : vcgF tab Tryz.prog Tryz.f81 h81 [(.pointer a0)] (.one (.one .bool)) K = F81 a0 K := by kernel_rfl
theorem F81_calls {a0 : Option Addr} {K : Bool → World → Prop} {w : World} (h : F81 a0 K w) : callT Tryz.prog 81 #[(.pointer a0)] (.one (.one .bool)) K w :=
  vcgF_sound tabOk Tryz.func81 h81 [(.pointer a0)] (.one (.one .bool)) K w (Eq.mpr (congrFun (F81_tie a0 K) w) h)
noncomputable def F82 (a0 : Value) (v0 : Addr) (K : Unit → World → Prop) : World → Prop :=
 sloop (S := Int × Unit) (fun (s1 : Int × Unit) again2 =>
 ld (.ptr) v0 fun (x3 : Option Addr) =>
 callT Tryz.prog 71 #[(.pointer x3), (.int .i64 s1.1)] (.tup [(.agg c100), (.one (.int .i64))]) fun (x4 : ((Int × Int × Int × Int × Unit) × Int × Unit)) =>
 newO (.cells #[(.int .i64 (0 : Int)), (.int .i64 (0 : Int)), (.int .i64 (0 : Int)), (.int .i64 (0 : Int))] 100) fun b5 =>
 aggSt (at0 b5) (.agg (Cells.vals c100 x4.1).toArray) 4 <|
 ld (.int .i64) (at0 b5) fun (x6 : Int) =>
 ld (.int .i64) (at0 b5) fun (x7 : Int) =>
 ld (.int .i64) (at0 b5) fun (x8 : Int) =>
 newO (.cells #[(.int .i64 (0 : Int)), (.int .i64 (0 : Int)), (.int .i64 (0 : Int)), (.int .i64 (0 : Int))] 100) fun b9 =>
 aggSt (at0 b9) (.agg #[(.int .i64 x6), (.int .i64 x7), (.int .i64 x8), (.int .i64 (0 : Int))]) 4 <|
 join (S := Bool × Unit) (fun J10 =>
 sif (x4.2.1 != (0 : Int)) (
 J10 (true, ())) (
 sif (decide (s1.1 > (0 : Int))) (
 lds c100 (at0 b5) fun (x12 : (Int × Int × Int × Int × Unit)) =>
 lds c100 (at0 b9) fun (x13 : (Int × Int × Int × Int × Unit)) =>
 rdB Tryz.prog (do eqGuard .eql 100 (Operand.tmp 28) (Operand.tmp 29) (.agg (Cells.vals c100 x12).toArray) (.agg (Cells.vals c100 x13).toArray); binOp .eql 100 (.agg (Cells.vals c100 x12).toArray) (.agg (Cells.vals c100 x13).toArray) : Sem Value) fun r14 =>
 sif r14 (
 J10 (true, ())) (
 lds c100 (at0 b5) fun (x15 : (Int × Int × Int × Int × Unit)) =>
 callX Tryz.prog (do let d ← Deferred.ofValue a0 #[(.int .i64 s1.1), (.agg (Cells.vals c100 x15).toArray)]; invoke d.target d.args : Sem Next) (.one (.one .bool)) fun (x16 : Bool) =>
 J10 ((!x16), ()))) (
 lds c100 (at0 b5) fun (x17 : (Int × Int × Int × Int × Unit)) =>
 callX Tryz.prog (do let d ← Deferred.ofValue a0 #[(.int .i64 s1.1), (.agg (Cells.vals c100 x17).toArray)]; invoke d.target d.args : Sem Next) (.one (.one .bool)) fun (x18 : Bool) =>
 J10 ((!x18), ())))) fun (s11 : Bool × Unit) =>
 sif s11.1 (
 K ()) (
 again2 ((IntKind.wrap .i64 (s1.1 + (1 : Int))), ()))) ((0 : Int), ())
noncomputable def h82 : Hint := (.seq none (.region [] (.ops 1 .done)) (.block (.loop 1099511627768 [(3, (.one (.int .i64)))] (.seq none (.block (.seq none (.region [] (.ops 9 .done)) (.seq none (.region [] (.ops 9 .done)) (.seq (some (1099507433472, [(39, (.one .bool))])) (.region [] (.ops 3 (.split 24 (.skips 7 (.ops 2 (.skips 5 (.ops 1 .done)))) (.ops 3 (.split 27 (.ops 6 (.split 33 (.skips 5 (.ops 1 .done)) (.ops 6 .done))) (.skips 3 (.ops 9 .done))))))) (.cond none .leaf .leaf))))) (.region [] (.ops 3 .done))))))
theorem F82_tie (a0 : Value) (v0 : Addr) (K : Unit → World → Prop) : vcgF tab Tryz.prog Tryz.f82 h82 [a0, (.pointer (some v0))] (.tup []) K = F82 a0 v0 K := by kernel_rfl
theorem F82_calls {a0 : Value} {v0 : Addr} {K : Unit → World → Prop} {w : World} (h : F82 a0 v0 K w) : callT Tryz.prog 82 #[a0, (.pointer (some v0))] (.tup []) K w :=
  vcgF_sound tabOk Tryz.func82 h82 [a0, (.pointer (some v0))] (.tup []) K w (Eq.mpr (congrFun (F82_tie a0 v0 K) w) h)
noncomputable def F97 (a0 : Option Addr) (a1 : Int) (a2 : Int) (K : (Int × Int × Int × Int × Unit) → World → Prop) : World → Prop :=
 newO (.cells #[(.int .i64 (0 : Int)), (.int .i64 (0 : Int)), (.int .i64 (0 : Int)), (.int .i64 (0 : Int))] 100) fun b1 =>
 callT Tryz.prog 23 #[(.pointer a0), (.int .i64 (if (IntKind.wrap .i64 (a2 - (2 : Int))) > a1 then (IntKind.wrap .i64 (a2 - (2 : Int))) else a1)), (.int .i64 a2)] (.one (.one .sl)) fun (x2 : Sl) =>
 ix x2.a x2.len (IntKind.wrap .i64 (((x2.len : Nat) : Int) - (1 : Int))) fun p3 =>
 ld (.int .i64) (p3.add (scaled (Int.toNat (IntKind.wrap .i64 (((x2.len : Nat) : Int) - (1 : Int)))) 1)) fun (x4 : Int) =>
 sif (x4 == (13 : Int)) (
 aggSt (at0 b1) (.agg #[(.int .i64 a1), (.int .i64 (IntKind.wrap .i64 (a2 - (1 : Int)))), (.int .i64 a2), (.int .i64 (3 : Int))]) 4 <|
 lds c100 (at0 b1) fun (x5 : (Int × Int × Int × Int × Unit)) =>
 K x5) (
 join (S := Bool × Unit) (fun J6 =>
 sif (decide ((IntKind.wrap .i64 (((x2.len : Nat) : Int) - (1 : Int))) > (0 : Int))) (
 ix x2.a x2.len (IntKind.wrap .i64 ((IntKind.wrap .i64 (((x2.len : Nat) : Int) - (1 : Int))) - (1 : Int))) fun p8 =>
 ld (.int .i64) (p8.add (scaled (Int.toNat (IntKind.wrap .i64 ((IntKind.wrap .i64 (((x2.len : Nat) : Int) - (1 : Int))) - (1 : Int)))) 1)) fun (x9 : Int) =>
 J6 ((x9 == (13 : Int)), ())) (
 J6 (false, ()))) fun (s7 : Bool × Unit) =>
 sif s7.1 (
 aggSt (at0 b1) (.agg #[(.int .i64 a1), (.int .i64 (IntKind.wrap .i64 (a2 - (2 : Int)))), (.int .i64 a2), (.int .i64 (2 : Int))]) 4 <|
 lds c100 (at0 b1) fun (x10 : (Int × Int × Int × Int × Unit)) =>
 K x10) (
 aggSt (at0 b1) (.agg #[(.int .i64 a1), (.int .i64 (IntKind.wrap .i64 (a2 - (1 : Int)))), (.int .i64 a2), (.int .i64 (1 : Int))]) 4 <|
 lds c100 (at0 b1) fun (x11 : (Int × Int × Int × Int × Unit)) =>
 K x11))
noncomputable def h97 : Hint := (.seq none (.region [] (.ops 1 .done)) (.seq none (.region [] (.ops 8 .done)) (.seq none (.region [] (.ops 4 .done)) (.seq none (.block (.seq none (.region [] (.ops 6 .done)) (.cond none (.seq none (.region [] (.ops 6 .done)) .leaf) (.seq (some (2197949513728, [(30, (.one .bool))])) (.region [] (.ops 3 (.split 33 (.ops 8 .done) (.skips 6 (.ops 2 .done))))) (.cond none (.seq none (.region [] (.ops 6 .done)) .leaf) .leaf))))) (.seq none (.region [] (.ops 6 .done)) .leaf)))))
theorem F97_tie (a0 : Option Addr) (a1 : Int) (a2 : Int) (K : (Int × Int × Int × Int × Unit) → World → Prop) : vcgF tab Tryz.prog Tryz.f97 h97 [(.pointer a0), (.int .i64 a1), (.int .i64 a2)] (.one (.agg c100)) K = F97 a0 a1 a2 K := by kernel_rfl
theorem F97_calls {a0 : Option Addr} {a1 : Int} {a2 : Int} {K : (Int × Int × Int × Int × Unit) → World → Prop} {w : World} (h : F97 a0 a1 a2 K w) : callT Tryz.prog 97 #[(.pointer a0), (.int .i64 a1), (.int .i64 a2)] (.one (.agg c100)) K w :=
  vcgF_sound tabOk Tryz.func97 h97 [(.pointer a0), (.int .i64 a1), (.int .i64 a2)] (.one (.agg c100)) K w (Eq.mpr (congrFun (F97_tie a0 a1 a2 K) w) h)
end Go.Proofs.YtabcpghhfeplaaaGreat
set_option linter.unusedSimpArgs false
set_option linter.unusedVariables false
set_option maxRecDepth 100000
namespace Go.Proofs.YtabcpghhfeplaaaGreat
open Go Go.Vx Cdc Trx Lns
section
variable {w w' : World} {S : Nat → Prop} {p : Nat} {e : Enc} {lim na : Nat} {O : Nat → Prop} {M : Parts}
abbrev lnT (l : Ln) : Cells.T c100 := ((l.from_ : Int), (l.to_ : Int), (l.next : Int), (l.kind : Int), ())
theorem hal (e : Enc) (M : Parts) : (atoms (aOf e M)).length = (aOf e M).length := List.length_map _
theorem skI_nat (A : List Int) (k : Nat) : skI A (k : Int) = match sk A k with | some m => (m : Int) | none => -1 := by
  unfold skI
  rw [if_neg (by omega), Int.toNat_natCast]
  all_goals (cases sk A k <;> rfl)
theorem closed_call (h : Txt w p e lim na O M) {f x : Nat} (hfx : f < x) (hx : x ≤ (atoms (aOf e M)).length) {K : Cells.T c100 → World → Prop} (hK : ∀ w', Ext w w' → K (lnT (lnC (atoms (aOf e M)) f x)) w') :
    callT Tryz.prog 97 #[.pointer (some (at0 p)), .int .i64 (f : Int), .int .i64 (x : Int)] (.one (.agg c100)) K w := by
  refine F97_calls ?_
  unfold F97
  have few := h.few; have lims := h.lims
  generalize hA : atoms (aOf e M) = A at *
  have hAl : A.length = (aOf e M).length := by rw [← hA]; exact hal e M
  refine (St.start w).newO fun b1 w1 S1 e1 => ?_
  have ew : IntKind.wrap .i64 ((x : Int) - 2) = (x : Int) - 2 := wrap64 (by omega) (by omega)
  rw [ew]
  obtain ⟨g, hg⟩ : ∃ g : Nat, g = max f (x - 2) := ⟨_, rfl⟩
  have eg : (if (x : Int) - 2 > (f : Int) then (x : Int) - 2 else (f : Int)) = (g : Int) := by split <;> omega
  rw [eg]
  refine atoms_call (h.ext e1) fun s w2 o2 e2 => ?_
  rw [hA] at o2
  have hsub : sub A (g : Int) (x : Int) = (A.drop g).take (x - g) := by unfold sub; simp
  rw [hsub] at o2
  have hl := o2.len1
  rw [List.length_map, List.length_take, List.length_drop] at hl
  have hsl : s.len = x - g := by omega
  have get : ∀ i, i < x - g → ((A.drop g).take (x - g))[i]? = A[g + i]? := fun i hi => by rw [List.getElem?_take, if_pos hi, List.getElem?_drop]
  have ew1 : IntKind.wrap .i64 (((s.len : Nat) : Int) - 1) = ((x - g - 1 : Nat) : Int) := by rw [wrap64 (by omega) (by omega)]; omega
  rw [ew1]
  have S2 := S1.ext e2
  obtain ⟨a, ha⟩ : ∃ a, A[x - 1]? = some a := ⟨_, List.getElem?_eq_getElem (by omega)⟩
  have ex1 : IntKind.wrap .i64 ((x : Int) - 1) = ((x - 1 : Nat) : Int) := by rw [wrap64 (by omega) (by omega)]; omega
  have fin : ∀ {l : Ln} {W : World}, St (fun _ => False) w W [(b1, .cells #[.int .i64 0, .int .i64 0, .int .i64 0, .int .i64 0] 100 (0, 0))] → lnC A f x = l →
      aggSt (at0 b1) (.agg (Cells.vals c100 (lnT l)).toArray) 4 (lds c100 (at0 b1) fun x => K x) W := by
    intro l W SW el
    exact SW.aggSt 0 rfl rfl rfl rfl fun w3 S3 _ => S3.lds 0 (lnT l) rfl (by subst el; exact hK w3 S3.upd)
  refine ix_ld (c := .int .i64) (xs := (A.drop g).take (x - g)) o2.in (by omega) (x := a) (by rw [Int.toNat_natCast, get _ (by omega), ← ha]; congr 1; omega) fun q => sif_r (fun hc => ?_) (fun hc => ?_)
  · simp only [beq_iff_eq] at hc
    rw [ex1]
    exact fin (l := ⟨f, x - 1, x, 3⟩) S2 (by unfold lnC; rw [if_pos (by rw [ha, hc])])
  · simp only [beq_eq_false_iff_ne] at hc
    have h13 : ¬ A[x - 1]? = some 13 := by rw [ha]; exact fun h => hc (Option.some.inj h)
    refine join_r (fun y W => y = (decide (f + 1 < x ∧ A[x - 2]? = some 13), ()) ∧ w2 = W) ?_ ?_
    · refine sif_r (fun hd => ?_) (fun hd => ?_)
      · simp only [decide_eq_true_eq, gt_iff_lt] at hd
        have ew2 : IntKind.wrap .i64 (((x - g - 1 : Nat) : Int) - 1) = ((x - g - 2 : Nat) : Int) := by rw [wrap64 (by omega) (by omega)]; omega
        rw [ew2]
        obtain ⟨b, hb⟩ : ∃ b, A[x - 2]? = some b := ⟨_, List.getElem?_eq_getElem (by omega)⟩
        refine ix_ld (c := .int .i64) (xs := (A.drop g).take (x - g)) o2.in (by omega) (x := b) (by rw [Int.toNat_natCast, get _ (by omega), ← hb]; congr 1; omega) fun q2 => ⟨tupb ?_, rfl⟩
        simp only [beq_iff_eq, decide_eq_true_eq, hb, Option.some.injEq]
        omega
      · simp only [decide_eq_false_iff_not, gt_iff_lt] at hd
        refine ⟨tupb ?_, rfl⟩
        simp only [Bool.false_eq_true, decide_eq_true_eq, false_iff]
        omega
    rintro _ _ ⟨rfl, rfl⟩
    refine sif_r (fun hd => ?_) (fun hd => ?_)
    · simp only [decide_eq_true_eq] at hd
      have ew3 : (x : Int) - 2 = ((x - 2 : Nat) : Int) := by omega
      rw [ew3]
      exact fin (l := ⟨f, x - 2, x, 2⟩) S2 (by unfold lnC; rw [if_neg h13, if_pos hd])
    · simp only [decide_eq_false_iff_not] at hd
      rw [ex1]
      exact fin (l := ⟨f, x - 1, x, 1⟩) S2 (by unfold lnC; rw [if_neg h13, if_neg hd])
def atRes (r : Option Ln) : Cells.T c100 × Int × Unit := match r with
  | some l => (lnT l, 0, ())
  | none => (lnT ⟨0, 0, 0, 0⟩, 2, ())
theorem lat_call {i : Int} (h : Txt w p e lim na O M) (hi : i < 2 ^ 62) {K : Cells.T c100 × Int × Unit → World → Prop} (hK : ∀ w', Ext w w' → K (atRes (lnI (atoms (aOf e M)) i)) w') :
    callT Tryz.prog 71 #[.pointer (some (at0 p)), .int .i64 i] (.tup [(.agg c100), (.one (.int .i64))]) K w := by
  refine F71_calls ?_
  unfold F71
  have few := h.few; have lims := h.lims
  have hal := hal e M
  refine (St.start w).newO fun b1 w1 S1 e1 => ?_
  refine sif_r (fun hc => ?_) (fun hc => ?_)
  · simp only [decide_eq_true_eq] at hc
    refine S1.aggSt 0 rfl rfl rfl rfl fun w2 S2 _ => S2.lds 0 (lnT ⟨0, 0, 0, 0⟩) rfl ?_
    have := hK w2 S2.upd
    unfold lnI at this
    rw [if_pos hc] at this
    exact this
  simp only [decide_eq_false_iff_not] at hc
  obtain ⟨n, rfl⟩ : ∃ n : Nat, i = (n : Int) := ⟨i.toNat, by omega⟩
  unfold lnI at hK
  rw [if_neg hc, Int.toNat_natCast] at hK
  refine seek_call (h.ext e1) fun w2 e2 => ?_
  have S2 := S1.ext e2
  rw [skI_nat]
  cases hf : sk (atoms (aOf e M)) n with
  | none =>
    refine sif_r (fun _ => ?_) (fun h => by simp at h)
    refine S2.aggSt 0 rfl rfl rfl rfl fun w3 S3 _ => S3.lds 0 (lnT ⟨0, 0, 0, 0⟩) rfl ?_
    have := hK w3 S3.upd
    unfold lnAt at this
    rw [hf] at this
    exact this
  | some f =>
    refine sif_r (fun h => by simp at h; omega) (fun _ => ?_)
    obtain ⟨hnb, hfl, hnf, _⟩ := sk_get hf
    refine len_call (h.ext S2.upd) fun w3 e3 => breaks_call (h.ext (S2.ext e3).upd) fun w4 e4 => ?_
    have S4 := (S2.ext e3).ext e4
    rw [Int.toNat_natCast, ← hal, ← brs_nb]
    refine sif_r (fun hlt => ?_) (fun hlt => ?_)
    · simp only [decide_eq_true_eq] at hlt
      have ew : IntKind.wrap .i64 ((n : Int) + 1) = ((n + 1 : Nat) : Int) := by rw [wrap64 (by omega) (by omega)]; omega
      rw [ew]
      refine seek_call (h.ext S4.upd) fun w5 e5 => ?_
      have S5 := S4.ext e5
      rw [skI_nat]
      obtain ⟨x, hx⟩ := sk_ok (A := atoms (aOf e M)) (k := n + 1) (by omega)
      obtain ⟨_, hxl, _, _⟩ := sk_get hx
      rw [hx]
      refine closed_call (h.ext S5.upd) (sk_lt hf hx (by omega)) hxl fun w6 e6 => (S5.ext e6).aggSt 0 rfl rfl rfl rfl fun w7 S7 _ => S7.lds 0 (lnT _) rfl ?_
      have := hK w7 S7.upd
      unfold lnAt at this
      rw [hf] at this
      simp only [hx] at this
      exact this
    · simp only [decide_eq_false_iff_not] at hlt
      refine len_call (h.ext S4.upd) fun w5 e5 => len_call (h.ext (S4.ext e5).upd) fun w6 e6 => ((S4.ext e5).ext e6).aggSt 0 rfl rfl rfl rfl fun w7 S7 _ => S7.lds 0 (lnT ⟨f, (aOf e M).length, (aOf e M).length, 0⟩) rfl ?_
      have := hK w7 S7.upd
      unfold lnAt at this
      rw [hf] at this
      simp only [sk_none (atoms (aOf e M)) (n + 1) (by omega)] at this
      rw [hal] at this
      exact this
theorem lof_call {at_ : Int} (h : Txt w p e lim na O M) {K : Int → World → Prop} (hK : ∀ w', Ext w w' → K ((nb (atoms (aOf e M)) at_.toNat : Nat) : Int) w') :
    callT Tryz.prog 57 #[.pointer (some (at0 p)), .int .i64 at_] (.one (.one (.int .i64))) K w := by
  refine F57_calls ?_
  unfold F57
  have hal := hal e M
  refine len_call h fun w1 e1 => breaks_call (h.ext e1) fun w2 e2 => ?_
  have := hK w2 (e1.trans e2)
  have e : nb (atoms (aOf e M)) (if (((aOf e M).length : Nat) : Int) < (if (0 : Int) > at_ then (0 : Int) else at_) then (((aOf e M).length : Nat) : Int) else (if (0 : Int) > at_ then (0 : Int) else at_)).toNat = nb (atoms (aOf e M)) at_.toNat := by
    by_cases h0 : (0 : Int) > at_
    · rw [if_pos h0, if_neg (by omega)]
      have : at_.toNat = (0 : Int).toNat := by omega
      rw [this]
    · rw [if_neg h0]
      split
      · rw [Int.toNat_natCast, nb_ge _ _ (by omega), nb_ge _ _ (by omega)]
      · rfl
  rw [e]; exact this
theorem lended_call (h : Txt w p e lim na O M) {K : Bool → World → Prop} (hK : ∀ w', Ext w w' → K (ended (atoms (aOf e M))) w') :
    callT Tryz.prog 81 #[.pointer (some (at0 p))] (.one (.one .bool)) K w := by
  refine F81_calls ?_
  unfold F81
  have hal := hal e M
  unfold ended at hK
  refine len_call h fun w1 e1 => sif_r (fun hc => ?_) (fun hc => ?_)
  · simp only [decide_eq_true_eq, gt_iff_lt] at hc
    refine breaks_call (h.ext e1) fun w2 e2 => seek_call (h.ext (e1.trans e2)) fun w3 e3 => ?_
    have := hK w3 ((e1.trans e2).trans e3)
    rw [Int.toNat_natCast, ← hal, ← brs_nb, skI_nat]
    rw [decide_eq_true (by omega), Bool.true_and] at this
    cases hs : sk (atoms (aOf e M)) (brs (atoms (aOf e M))) with
    | none =>
      rw [hs] at this
      have e1 : ((-1 : Int) == (((atoms (aOf e M)).length : Nat) : Int)) = false := by rw [beq_eq_false_iff_ne]; omega
      show K ((-1 : Int) == _) w3
      rw [e1]; exact this
    | some m =>
      rw [hs] at this
      have e1 : ((m : Int) == (((atoms (aOf e M)).length : Nat) : Int)) = (some m == some (atoms (aOf e M)).length) := by rw [Bool.eq_iff_iff, beq_iff_eq, beq_iff_eq, Option.some.injEq]; omega
      show K ((m : Int) == _) w3
      rw [e1]; exact this
  · simp only [decide_eq_false_iff_not, gt_iff_lt] at hc
    have := hK w1 e1
    rw [decide_eq_false (by omega), Bool.false_and] at this
    exact this
theorem lcount_call (h : Txt w p e lim na O M) {K : Int → World → Prop} (hK : ∀ w', Ext w w' → K ((lnN (atoms (aOf e M)) : Nat) : Int) w') :
    callT Tryz.prog 58 #[.pointer (some (at0 p))] (.one (.one (.int .i64))) K w := by
  refine F58_calls ?_
  unfold F58
  have few := h.few; have lims := h.lims
  have hal := hal e M
  have hb : brs (atoms (aOf e M)) ≤ (atoms (aOf e M)).length := by rw [brs_nb]; exact nb_le _ _
  refine len_call h fun w1 e1 => breaks_call (h.ext e1) fun w2 e2 => ?_
  rw [Int.toNat_natCast, ← hal, ← brs_nb]
  refine join_r (fun x W => x = (((lnN (atoms (aOf e M)) : Nat) : Int), ()) ∧ Ext w W) ?_ (fun x W hx => by obtain ⟨rfl, hx⟩ := hx; exact hK W hx)
  refine lended_call (h.ext (e1.trans e2)) fun w3 e3 => ?_
  have e03 := (e1.trans e2).trans e3
  refine sif_r (fun hc => ⟨?_, e03⟩) (fun hc => ⟨?_, e03⟩)
  · simp only [Bool.not_eq_true'] at hc
    unfold lnN
    rw [hc, wrap64 (by omega) (by omega)]
    simp
  · simp only [Bool.not_eq_false'] at hc
    unfold lnN
    rw [hc]
    simp
end
end Go.Proofs.YtabcpghhfeplaaaGreat
set_option linter.unusedSimpArgs false
set_option linter.unusedVariables false
set_option maxRecDepth 100000
namespace Go.Proofs.YtabcpghhfeplaaaGreat
open Go Go.Vx Cdc Trx Gly Clu Lns Obx
section
variable {w w' : World} {S : Nat → Prop} {p : Nat} {e : Enc} {lim na : Nat} {O : Nat → Prop} {M : Parts}
abbrev celT (c : Cel) : Cells.T c72 := ((c.from_ : Int), (c.to_ : Int), (c.kind : Int), c.alone, c.atom, ())
abbrev CelIn (w : World) (s : Sl) (C : List Cel) : Prop := SlIn w s 72 5 (flat c72 (C.map celT))
theorem CelIn.lenC {s : Sl} {C : List Cel} (h : CelIn w s C) : C.length = s.len := by
  have := SlIn.lenR (cs := c72) h (by decide)
  rwa [List.length_map] at this
theorem ix_cel {s : Sl} {C : List Cel} {i : Nat} {c : Cel} {K : Addr → Cells.T c72 → World → Prop} (h : CelIn w s C) (hc : C[i]? = some c) (hK : ∀ p, K p (celT c) w) :
    ix s.a s.len (i : Int) (fun p => lds c72 (p.add (scaled (Int.toNat (i : Int)) 5)) (K p)) w :=
  ix_lds (cs := c72) h (by decide) (by omega) (by rw [Int.toNat_natCast, List.getElem?_map, hc]; rfl) hK
theorem ix_celF {s : Sl} {C : List Cel} {i : Nat} {c : Cel} {k : Cell} {j : Nat} {y : k.T} {K : Addr → k.T → World → Prop} (h : CelIn w s C) (hc : C[i]? = some c) (hy : (Cells.vals c72 (celT c))[j]? = some (k.val y)) (hK : ∀ p, K p y w) :
    ix s.a s.len (i : Int) (fun p => ld k ((p.add (scaled (Int.toNat (i : Int)) 5)).add j) (K p)) w :=
  ix_ldf (cs := c72) h (by omega) (by rw [Int.toNat_natCast, List.getElem?_map, hc]; rfl) hy hK
theorem ix_celF0 {s : Sl} {C : List Cel} {i : Nat} {c : Cel} {k : Cell} {y : k.T} {K : Addr → k.T → World → Prop} (h : CelIn w s C) (hc : C[i]? = some c) (hy : (Cells.vals c72 (celT c))[0]? = some (k.val y)) (hK : ∀ p, K p y w) :
    ix s.a s.len (i : Int) (fun p => ld k (p.add (scaled (Int.toNat (i : Int)) 5)) (K p)) w :=
  ix_ldf0 (cs := c72) h (by omega) (by rw [Int.toNat_natCast, List.getElem?_map, hc]; rfl) hy hK
theorem eCells : ElemOk Tryz.prog 68 72 5 40 := ElemOk.of (z := .agg #[.int .i64 0, .int .i64 0, .int .i64 0, .bool false, .int .i64 0]) i68_ok i72_ok rfl rfl rfl (by decide)
theorem cel_one (c : Cel) : ∀ v ∈ flat c72 [celT c], isOne v = true := by
  intro v hv
  rw [flat_one] at hv
  have h : v ∈ [_, _, _, _, _] := hv
  simp only [List.mem_cons, List.not_mem_nil, or_false] at h
  rcases h with rfl | rfl | rfl | rfl | rfl <;> rfl
theorem is_call {c : Cel} {a : Int} {K : Bool → World → Prop} (hK : ∀ w', Ext w w' → K (c.is a) w') : callT Tryz.prog 42 #[.agg (Cells.vals c72 (celT c)).toArray, .int .i64 a] (.one (.one .bool)) K w := by
  refine F42_calls (a0 := celT c) ?_
  unfold F42
  refine (St.start w).newO fun b w1 S1 e1 => S1.ld 0 rfl (x := c.alone) rfl (sif_r (fun h => S1.ld 0 rfl (x := c.atom) rfl ?_) (fun h => ?_))
  · have := hK w1 e1
    unfold Cel.is at this
    rw [h, Bool.true_and] at this
    exact this
  · have := hK w1 e1
    unfold Cel.is at this
    rw [h, Bool.false_and] at this
    exact this
theorem cells_call {A : List Int} {s : Sl} {t : TypeId} {off : Nat} (hs : SlIn w s t 1 (iv A)) (hl : A.length < 2 ^ 40) (ho : off < 2 ^ 60) {K : Sl → World → Prop} (hK : ∀ s' w', CelIn w' s' (cels A off) → Ext w w' → (∀ k, s'.blk k → w.heap.size ≤ k) → K s' w') :
    callT Tryz.prog 39 #[.slice s.a s.len s.cap, .int .i64 (off : Int)] (.one (.one .sl)) K w := by
  refine F39_calls ?_
  unfold F39
  refine cbreaks_call hs hl fun b w1 o1 e1 => ?_
  have hbl := o1.len1
  rw [List.length_map] at hbl
  have hcp := cuts_pos A
  have hcl := cutsTo_len A A.length
  have hcl' : (cuts A).length ≤ A.length + 1 := hcl
  have ew : IntKind.wrap .i64 (((b.len : Nat) : Int) - 1) = (((cuts A).length - 1 : Nat) : Int) := by rw [wrap64 (by omega) (by omega)]; omega
  rw [ew]
  have nvi : nv (cuts A) = ((cuts A).map fun (n : Nat) => (n : Int)).map (Cell.int .i64).val := by rw [List.map_map]; rfl
  rw [nvi] at o1
  have hcels := cels_len A off
  refine join_r (fun x W => SlOwn W w1.heap.size x.1 72 5 (flat c72 ((cels A off).map celT)) ∧ Ext w W) ?_ (fun x W h => hK _ _ h.1.in h.2 (fun k hk => by have := h.1.blk_ge hk; have := e1.size; omega))
  refine sloop_r (fun x W => ∃ i, i ≤ (cels A off).length ∧ x.2 = ((i : Int), ()) ∧ SlOwn W w1.heap.size x.1 72 5 (flat c72 (((cels A off).take i).map celT)) ∧ Ext w1 W) (fun x _ => ((((cels A off).length : Nat) : Int) - x.2.1).toNat) ⟨0, Nat.zero_le _, rfl, SlOwn.nil _ _ _ _, Ext.refl _⟩ ?_
  rintro ⟨r, _⟩ W ⟨i, hi, rfl, hr, e2⟩
  dsimp only at hr ⊢
  have hrl : i = r.len := by
    have := SlOwn.lenR (cs := c72) hr (by decide)
    rw [List.length_map, List.length_take] at this; omega
  refine sif_r (fun hc => ?_) (fun hc => ?_)
  · simp only [decide_eq_true_eq] at hc
    obtain ⟨c, hc'⟩ : ∃ c, (cels A off)[i]? = some c := ⟨_, List.getElem?_eq_getElem (by omega)⟩
    obtain ⟨x, y, g1, g2, g3, g4, g5, g6, _, _, g7, g8, g9⟩ := (cels_ok hc').ex
    have o2 := o1.ext e2
    have m1 : ((cuts A).map fun (n : Nat) => (n : Int))[(i : Int).toNat]? = some (x : Int) := by rw [Int.toNat_natCast, List.getElem?_map, g1]; rfl
    have ew1 : IntKind.wrap .i64 ((i : Int) + 1) = ((i + 1 : Nat) : Int) := by rw [wrap64 (by omega) (by omega)]; omega
    have m2 : ((cuts A).map fun (n : Nat) => (n : Int))[((i + 1 : Nat) : Int).toNat]? = some (y : Int) := by rw [Int.toNat_natCast, List.getElem?_map, g2]; rfl
    rw [ew1]
    refine ix_ld (c := .int .i64) o2.in (by omega) m1 fun p1 => ix_ld (c := .int .i64) (xs := A) (hs.ext (e1.trans e2)) (by omega) (x := c.atom) (by rw [Int.toNat_natCast]; exact g7) fun p2 => drew_r fun w3 e3 _ => ?_
    have o3 := o2.ext e3
    refine ix_ldE (c := .int .i64) o3.in (by omega) m1 fun p3 k3 => ix_ldE (c := .int .i64) o3.in (by omega) m2 fun p4 k4 => ix_ldE (c := .int .i64) o3.in (by omega) m2 fun p5 k5 => ix_ldE (c := .int .i64) o3.in (by omega) m1 fun p6 k6 => ?_
    refine word_call fun w4 e4 => keep_r (k6 w4 e4) (keep_r (k5 w4 e4) (keep_r (k4 w4 e4) (keep_r (k3 w4 e4) ?_)))
    refine newO_r fun b5 w5 e5 n5 hb5 _ => ?_
    have e15 := ((e2.trans e3).trans e4).trans e5
    have ec : ∀ z : Nat, z ≤ A.length → IntKind.wrap .i64 ((off : Int) + (z : Int)) = ((off + z : Nat) : Int) := fun z hz => by rw [wrap64 (by omega) (by omega)]; omega
    have eb : ((y : Int) == IntKind.wrap .i64 ((x : Int) + 1)) = c.alone := by
      rw [wrap64 (by omega) (by omega), Bool.eq_iff_iff, beq_iff_eq, g9]; omega
    rw [ec x (by omega), ec y (by omega), eb, ← g5, ← g6, ← g8] at n5
    have hbox : SlX w5 ⟨some (at0 b5), 1, 1⟩ 5 (flat c72 [celT c]) := (SlIn.of_box n5 (n := 1) (sz := 5) rfl).x
    refine append_rx eCells eCells.ts_ (x := ⟨some (at0 b5), 1, 1⟩) (hr.ext ((e3.trans e4).trans e5)) hbox (cel_one c) (by
      show (r.len + 1 + (r.len + 1) / 4 + 512) * 40 ≤ 2 ^ 48
      have := cels_le A off
      omega) (by have := e15.size; omega) fun r' w6 o6 l6 u6 k6 => ?_
    have e6 : flat c72 (((cels A off).take i).map celT) ++ flat c72 [celT c] = flat c72 (((cels A off).take (i + 1)).map celT) := by
      rw [List.take_add_one, hc', List.map_append, flat_append]; rfl
    rw [e6] at o6
    exact ⟨⟨i + 1, by omega, rfl, o6, e15.step u6 fun k hk => hr.blk_ge hk⟩, by omega⟩
  · simp only [decide_eq_false_iff_not] at hc
    have : i = (cels A off).length := by omega
    subst this
    rw [List.take_length] at hr
    exact ⟨hr, e1.trans e2⟩
abbrev mvT (kind count arg : Int) : Cells.T c39 := (kind, count, arg, ())
theorem checked_call {at_ kind count arg lo hi : Int} (h : Txt w p e lim na O M) {K : Int → World → Prop} (hK : ∀ w', Ext w w' → K (checked (aOf e M).length at_ kind count lo hi) w') :
    callT Tryz.prog 37 #[.pointer (some (at0 p)), .int .i64 at_, .agg (Cells.vals c39 (mvT kind count arg)).toArray, .int .i64 lo, .int .i64 hi] (.one (.one (.int .i64))) K w := by
  refine F37_calls (a2 := mvT kind count arg) ?_
  unfold F37
  unfold checked at hK
  refine (St.start w).newO fun b w1 S1 e1 => ?_
  refine join_r (fun x W => x = (decide (kind < lo ∨ hi < kind ∨ count < 0), ()) ∧ w1 = W) ?_ ?_
  · refine S1.ld 0 rfl (x := kind) rfl (sif_r (fun h1 => ⟨tupb ?_, rfl⟩) (fun h1 => S1.ld 0 rfl (x := kind) rfl (sif_r (fun h2 => ⟨tupb ?_, rfl⟩) (fun h2 => S1.ld 0 rfl (x := count) rfl ⟨tupb ?_, rfl⟩))))
    all_goals simp only [decide_eq_true_eq, decide_eq_false_iff_not, true_iff, gt_iff_lt] at *
    all_goals omega
  rintro _ _ ⟨rfl, rfl⟩
  refine sif_r (fun h1 => ?_) (fun h1 => ?_)
  · simp only [decide_eq_true_eq] at h1
    have := hK w1 e1
    rwa [if_pos h1] at this
  simp only [decide_eq_false_iff_not] at h1
  rw [if_neg h1] at hK
  refine join_r (fun x W => x = (decide (at_ < 0 ∨ (((aOf e M).length : Nat) : Int) < at_), ()) ∧ Ext w W) ?_ ?_
  · refine sif_r (fun h2 => ⟨tupb ?_, e1⟩) (fun h2 => len_call (h.ext e1) fun w2 e2 => ⟨tupb ?_, e1.trans e2⟩)
    all_goals simp only [decide_eq_true_eq, decide_eq_false_iff_not, true_iff, gt_iff_lt] at *
    all_goals omega
  rintro _ w2 ⟨rfl, e2⟩
  refine sif_r (fun h2 => ?_) (fun h2 => ?_)
  · simp only [decide_eq_true_eq] at h2
    have := hK w2 e2
    rwa [if_pos h2] at this
  · simp only [decide_eq_false_iff_not] at h2
    have := hK w2 e2
    rwa [if_neg h2] at this
theorem times_call {kind count arg : Int} (hc : count < 2 ^ 63) {K : Int → World → Prop} (hK : ∀ w', Ext w w' → K ((times count : Nat) : Int) w') : callT Tryz.prog 41 #[.agg (Cells.vals c39 (mvT kind count arg)).toArray] (.one (.one (.int .i64))) K w := by
  refine F41_calls (a0 := mvT kind count arg) ?_
  unfold F41
  refine (St.start w).newO fun b w1 S1 e1 => S1.ld 0 rfl (x := count) rfl ?_
  have := hK w1 e1
  unfold times at this
  have e : (if (1 : Int) > count then (1 : Int) else count) = (((max count 1).toNat : Nat) : Int) := by split <;> omega
  rw [e]; exact this
theorem mapII : MapTy Tryz.prog 115 (.int .i64 0) := ⟨3, 3, by kernel_rfl, i3_ok.und, fun w => i3_ok.run_zero w rfl⟩
theorem upd_r {m : Nat} {es : List IEnt} (hm : MapI w m es) (k : Int) (v : Value) {K : World → Prop} (hK : ∀ es' w', MapI w' m es' → (∀ k', mget es' k' = if k' = k then some v else mget es k') → Upd (fun b => b = m) w w' → K w') :
    rawU Tryz.prog (Instr.mapUpdate 115 (.map (some m)) (.int .i64 k) v) K w := by
  obtain ⟨es', w', hr, hm', hg, u, _, _⟩ := update_run mapII hm k v
  exact ⟨w', hr, hK es' w' hm' hg u⟩
theorem fellow_call {a : Int} {K : Int × Bool × Unit → World → Prop} (hK : ∀ w', Ext w w' → K ((fellow a).getD 0, (fellow a).isSome, ()) w') : callT Tryz.prog 38 #[.int .i64 a] (.tup [(.one (.int .i64)), (.one .bool)]) K w := by
  refine F38_calls ?_
  unfold F38
  refine newO_r fun b w1 e1 n1 hb _ => ?_
  refine upd_r (MapI.made b n1) 40 _ fun es2 w2 m2 g2 u2 => upd_r m2 91 _ fun es3 w3 m3 g3 u3 => upd_r m3 123 _ fun es4 w4 m4 g4 u4 => upd_r m4 60 _ fun es5 w5 m5 g5 u5 => ?_
  have e5 : Ext w w5 := (((e1.step u2 fun k hk => by omega).step u3 fun k hk => by omega).step u4 fun k hk => by omega).step u5 fun k hk => by omega
  have hg : mget es5 a = (fellow a).map (Value.int .i64) := by
    rw [g5, g4, g3, g2]
    unfold fellow
    have h0 : mget [] a = none := rfl
    rw [h0]
    repeat' split
    all_goals first | rfl | omega
  have hl := lookup_run mapII m5 a
  rw [hg] at hl
  refine ⟨((fellow a).getD 0, (fellow a).isSome, ()), ?_, hK w5 e5⟩
  exact hl.trans (by cases fellow a <;> rfl)
def oI : Option Nat → Int
  | some j => (j : Int)
  | none => -1
theorem nth_call {C : List Cel} {s : Sl} {i : Int} {want other : Int} {k : Nat} (up : Bool) (hs : CelIn w s C) (hl : C.length < 2 ^ 40) (h1 : -1 ≤ i) (h2 : i ≤ C.length) (hu : up = true → 0 ≤ i) (hd : up = false → i < C.length) (hk : 1 ≤ k) (hk2 : k < 2 ^ 62) {K : Int → World → Prop}
    (hK : ∀ w', Ext w w' → K (oI (nthL C want other (walkI up C.length i) k 0)) w') :
    callT Tryz.prog 43 #[.slice s.a s.len s.cap, .int .i64 i, .int .i64 (if up then 1 else -1), .int .i64 want, .int .i64 other, .int .i64 (k : Int)] (.one (.one (.int .i64))) K w := by
  refine F43_calls ?_
  unfold F43
  have hlen := hs.lenC
  have step : ∀ {j : Nat}, j < C.length → walkI up C.length (j : Int) = j :: walkI up C.length ((j : Int) + (if up then 1 else -1)) := by
    intro j hj
    cases up with
    | true => exact walkI_up hj
    | false => exact walkI_down
  refine join_r (fun _ W => Ext w W ∧ nthL C want other (walkI up C.length i) k 0 = none) ?_ (fun _ W h => by have := hK W h.1; rwa [h.2] at this)
  refine sloop_r (fun x W => ∃ (j : Int) (q d : Nat), x = (j, (q : Int), (d : Int), ()) ∧ -1 ≤ j ∧ j ≤ C.length ∧ (up = true → 0 ≤ j) ∧ (up = false → j < C.length) ∧ 1 ≤ q ∧ q ≤ k ∧ d ≤ C.length ∧ ((up = true → d ≤ j) ∧ (up = false → d + j < C.length)) ∧ Ext w W ∧ nthL C want other (walkI up C.length i) k 0 = nthL C want other (walkI up C.length j) q d)
    (fun x _ => if up then ((C.length : Int) - x.1).toNat else (x.1 + 1).toNat) ⟨i, k, 0, rfl, h1, h2, hu, hd, hk, Nat.le_refl _, Nat.zero_le _, ⟨fun h => by have := hu h; omega, fun h => by have := hd h; omega⟩, Ext.refl w, rfl⟩ ?_
  rintro _ W ⟨j, q, d, rfl, g1, g2, gu, gd, hq, hqk, hdl, hdb, e1, heq⟩
  dsimp only
  refine join_r (fun x W' => x = (decide (0 ≤ j ∧ j < C.length), ()) ∧ W = W') ?_ ?_
  · refine sif_r (fun h => ⟨tupb ?_, rfl⟩) (fun h => ⟨tupb ?_, rfl⟩)
    all_goals simp only [decide_eq_true_eq, decide_eq_false_iff_not, ge_iff_le, Bool.false_eq_true, false_iff] at *
    all_goals omega
  rintro _ _ ⟨rfl, rfl⟩
  refine sif_r (fun h => ?_) (fun h => ?_)
  · simp only [decide_eq_true_eq] at h
    obtain ⟨m, rfl⟩ : ∃ m : Nat, j = (m : Int) := ⟨j.toNat, by omega⟩
    obtain ⟨c, hc⟩ : ∃ c, C[m]? = some c := ⟨_, List.getElem?_eq_getElem (by omega)⟩
    rw [step (by omega), nthL, hc] at heq
    simp only at heq
    have ews : IntKind.wrap .i64 ((m : Int) + (if up then 1 else -1)) = (m : Int) + (if up then 1 else -1) := by split <;> exact wrap64 (by omega) (by omega)
    have fin : ∀ {q' d' : Nat} {W' : World}, Ext w W' → 1 ≤ q' → q' ≤ k → d' ≤ d + 1 → nthL C want other (walkI up C.length i) k 0 = nthL C want other (walkI up C.length ((m : Int) + (if up then 1 else -1))) q' d' →
        (fun s' (w'' : World) => (∃ (j : Int) (q d : Nat), s' = (j, (q : Int), (d : Int), ()) ∧ -1 ≤ j ∧ j ≤ C.length ∧ (up = true → 0 ≤ j) ∧ (up = false → j < C.length) ∧ 1 ≤ q ∧ q ≤ k ∧ d ≤ C.length ∧ ((up = true → d ≤ j) ∧ (up = false → d + j < C.length)) ∧ Ext w w'' ∧ nthL C want other (walkI up C.length i) k 0 = nthL C want other (walkI up C.length j) q d) ∧
          (if up then ((C.length : Int) - s'.1).toNat else (s'.1 + 1).toNat) < (if up then ((C.length : Int) - ((m : Int), (q : Int), (d : Int), ()).1).toNat else (((m : Int), (q : Int), (d : Int), ()).1 + 1).toNat)) (IntKind.wrap .i64 ((m : Int) + (if up then 1 else -1)), (q' : Int), (d' : Int), ()) W' := by
      intro q' d' W' eW hq1 hq2 hd1 he
      rw [ews]
      refine ⟨⟨_, q', d', rfl, ?_, ?_, ?_, ?_, hq1, hq2, ?_, ?_, eW, he⟩, ?_⟩
      all_goals clear hK heq he step ews
      all_goals cases up
      all_goals simp at *
      all_goals omega
    refine join_r (fun x W' => ∃ q' d' : Nat, x = ((q' : Int), (d' : Int), ()) ∧ Ext w W' ∧ 1 ≤ q' ∧ q' ≤ k ∧ d' ≤ d + 1 ∧ nthL C want other (walkI up C.length i) k 0 = nthL C want other (walkI up C.length ((m : Int) + (if up then 1 else -1))) q' d') ?_ ?_
    · refine ix_cel (hs.ext e1) hc fun p1 => is_call fun w2 e2 => ?_
      have e12 := e1.trans e2
      refine sif_r (fun ho => ?_) (fun ho => ?_)
      · have ho : c.is other = true := ho
        rw [if_pos ho] at heq
        refine ⟨q, d + 1, ?_, e12, hq, hqk, Nat.le_refl _, heq⟩
        rw [wrap64 (by omega) (by omega)]; rfl
      have ho : c.is other = false := ho
      rw [if_neg (by rw [ho]; decide)] at heq
      refine ix_cel (hs.ext e12) hc fun p2 => is_call fun w3 e3 => ?_
      have e13 := e12.trans e3
      refine sif_r (fun hw => ?_) (fun hw => ?_)
      · simp only [Bool.not_eq_true'] at hw
        rw [if_pos hw] at heq
        exact ⟨q, d, rfl, e13, hq, hqk, by omega, heq⟩
      simp only [Bool.not_eq_false'] at hw
      rw [if_neg (by rw [hw]; decide)] at heq
      refine sif_r (fun h0 => ?_) (fun h0 => ?_)
      · simp only [decide_eq_true_eq, gt_iff_lt] at h0
        rw [if_pos (by omega)] at heq
        refine ⟨q, d - 1, ?_, e13, hq, hqk, by omega, heq⟩
        rw [wrap64 (by omega) (by omega)]
        congr 2; omega
      simp only [decide_eq_false_iff_not, gt_iff_lt] at h0
      rw [if_neg (by omega)] at heq
      have ewq : IntKind.wrap .i64 ((q : Int) - 1) = ((q - 1 : Nat) : Int) := by rw [wrap64 (by omega) (by omega)]; omega
      rw [ewq]
      refine sif_r (fun hz => ?_) (fun hz => ?_)
      · simp only [beq_iff_eq] at hz
        rw [if_pos (by omega)] at heq
        have := hK w3 e13
        rw [heq] at this
        exact this
      · simp only [beq_eq_false_iff_ne, ne_eq] at hz
        rw [if_neg (by omega)] at heq
        exact ⟨q - 1, d, rfl, e13, by omega, by omega, by omega, heq⟩
    · rintro _ w4 ⟨q', d', rfl, e4, f1, f2, f3, f4⟩
      exact fin e4 f1 f2 f3 f4
  · simp only [decide_eq_false_iff_not] at h
    rw [walkI_end up h g1 gu gd] at heq
    exact ⟨e1, heq⟩
end
end Go.Proofs.YtabcpghhfeplaaaGreat
set_option linter.unusedSimpArgs false
set_option linter.unusedVariables false
set_option maxRecDepth 100000
namespace Go.Proofs.YtabcpghhfeplaaaGreat
open Go Go.Vx Cdc Trx Gly Clu Lns Obx
section
variable {w w' : World} {S : Nat → Prop} {p : Nat} {e : Enc} {lim na : Nat} {O : Nat → Prop} {M : Parts}
theorem run_eqInt {n : Nat} {x y : Int} (w : World) : (Op.equalIn (n + 1) 3 (.int .i64 x) (.int .i64 y)).run Tryz.prog w = .ok (x == y) w := run_equalIn_int w n 3 .i64 .i64 x y i3_ok.und
theorem lnEql_r {a b : Ln} {o1 o2 : Operand} {K : Bool → World → Prop} (hK : K (decide (a = b)) w) :
    rdB Tryz.prog (do eqGuard .eql 100 o1 o2 (.agg (Cells.vals c100 (lnT a)).toArray) (.agg (Cells.vals c100 (lnT b)).toArray); binOp .eql 100 (.agg (Cells.vals c100 (lnT a)).toArray) (.agg (Cells.vals c100 (lnT b)).toArray) : Sem Value) K w := by
  refine ⟨decide (a = b), ?_, hK⟩
  have hg := run_eqGuard_agg (P := Tryz.prog) w .eql 100 o1 o2 (Cells.vals c100 (lnT a)).toArray (Cells.vals c100 (lnT b)).toArray (by kernel_rfl)
  have hq := run_eql_struct (P := Tryz.prog) w 100 (Cells.vals c100 (lnT a)).toArray (Cells.vals c100 (lnT b)).toArray
  have hs := run_equalIn_struct (P := Tryz.prog) w 9999 100 (Cells.vals c100 (lnT a)).toArray (Cells.vals c100 (lnT b)).toArray (by kernel_rfl) (by kernel_rfl)
  have hf : (Tryz.prog.fieldsOf 100).toList.map (fun f => (f.name, f.type, f.offset)) = [("From", 3, 0), ("To", 3, 1), ("Next", 3, 2), ("Break", 3, 3)] := by kernel_rfl
  have key : ∀ fs : List Field, fs.map (fun f => (f.name, f.type, f.offset)) = [("From", 3, 0), ("To", 3, 1), ("Next", 3, 2), ("Break", 3, 3)] → (Op.eqFields 9999 (Cells.vals c100 (lnT a)).toArray (Cells.vals c100 (lnT b)).toArray fs).run Tryz.prog w = .ok (decide (a = b)) w := by
    intro fs hfs
    have hl : fs.length = 4 := by simpa using congrArg List.length hfs
    obtain ⟨f1, f2, f3, f4, rfl⟩ : ∃ f1 f2 f3 f4, fs = [f1, f2, f3, f4] := by
      match fs, hl with
      | [f1, f2, f3, f4], _ => exact ⟨f1, f2, f3, f4, rfl⟩
    simp only [List.map_cons, List.map_nil, List.cons.injEq, Prod.mk.injEq, and_true] at hfs
    obtain ⟨⟨n1, t1, o1⟩, ⟨n2, t2, o2⟩, ⟨n3, t3, o3⟩, ⟨n4, t4, o4⟩⟩ := hfs
    have pt : ∀ (l : Ln) (i : Nat) (v : Int), (Cells.vals c100 (lnT l)).toArray[i]? = some (.int .i64 v) → (Go.part 3 (Cells.vals c100 (lnT l)).toArray i).run Tryz.prog w = .ok (.int .i64 v) w := by
      intro l i v hv
      have ha : (isAgg 3).run Tryz.prog w = .ok false w := i3_ok.run_isAgg w
      simp only [Go.part, Sem.run_bind, ha, Result.andThen_ok]
      simp [hv]
    have step : ∀ (f : Field) (fs : List Field) (x y : Nat), f.name ≠ "_" → f.type = 3 → (Cells.vals c100 (lnT a)).toArray[f.offset]? = some (.int .i64 (x : Int)) → (Cells.vals c100 (lnT b)).toArray[f.offset]? = some (.int .i64 (y : Int)) →
        (Op.eqFields 9999 (Cells.vals c100 (lnT a)).toArray (Cells.vals c100 (lnT b)).toArray (f :: fs)).run Tryz.prog w = if x = y then (Op.eqFields 9999 (Cells.vals c100 (lnT a)).toArray (Cells.vals c100 (lnT b)).toArray fs).run Tryz.prog w else .ok false w := by
      intro f fs x y hn ht hx hy
      rw [Op.eqFields, if_pos hn, ht]
      simp only [Sem.run_bind, pt a _ _ hx, pt b _ _ hy, Result.andThen_ok, run_eqInt (n := 9998)]
      by_cases hxy : x = y
      · rw [if_pos hxy, hxy]; simp
      · have : ((x : Int) == (y : Int)) = false := by rw [beq_eq_false_iff_ne]; omega
        rw [if_neg hxy, this]; rfl
    rw [step f1 _ a.from_ b.from_ (by rw [n1]; decide) t1 (by rw [o1]; rfl) (by rw [o1]; rfl), step f2 _ a.to_ b.to_ (by rw [n2]; decide) t2 (by rw [o2]; rfl) (by rw [o2]; rfl), step f3 _ a.next b.next (by rw [n3]; decide) t3 (by rw [o3]; rfl) (by rw [o3]; rfl), step f4 _ a.kind b.kind (by rw [n4]; decide) t4 (by rw [o4]; rfl) (by rw [o4]; rfl)]
    obtain ⟨x1, x2, x3, x4⟩ := a
    obtain ⟨y1, y2, y3, y4⟩ := b
    by_cases h1 : x1 = y1 <;> by_cases h2 : x2 = y2 <;> by_cases h3 : x3 = y3 <;> by_cases h4 : x4 = y4 <;> simp [h1, h2, h3, h4, Op.eqFields]
  rw [key _ hf] at hs
  simp only [Sem.run_bind, hg, Result.andThen_ok, hq, hs]
abbrev spT (s : Int × Int × Int) : Cells.T c34 := (s.1, s.2.1, s.2.2, ())
theorem lnI_nat (A : List Int) (n : Nat) : lnI A (n : Int) = lnAt A n := by unfold lnI; rw [if_neg (by omega), Int.toNat_natCast]
theorem line_call {at_ : Nat} (h : Txt w p e lim na O M) (hat : at_ ≤ (atoms (aOf e M)).length) {K : Cells.T c100 × Int × Unit → World → Prop} (hK : ∀ w', Ext w w' → K (lnT ((lnAt (atoms (aOf e M)) (nb (atoms (aOf e M)) at_)).getD ⟨0, 0, 0, 0⟩), 0, ()) w') :
    callT Tryz.prog 57 #[.pointer (some (at0 p)), .int .i64 (at_ : Int)] (.one (.one (.int .i64))) (fun i => callT Tryz.prog 71 #[.pointer (some (at0 p)), .int .i64 i] (.tup [(.agg c100), (.one (.int .i64))]) K) w := by
  have few := h.few; have lims := h.lims
  have hal := hal e M
  have hnl := nb_le (atoms (aOf e M)) at_
  refine lof_call h fun w1 e1 => lat_call (h.ext e1) (by rw [Int.toNat_natCast]; omega) fun w2 e2 => ?_
  rw [Int.toNat_natCast, lnI_nat]
  have := hK w2 (e1.trans e2)
  obtain ⟨l, hl, _⟩ := ln_of (atoms (aOf e M)) hat
  rw [hl] at this ⊢
  exact this
theorem hollow_call {one two : Cel} (h : Txt w p e lim na O M) (h1 : one.from_ ≤ (atoms (aOf e M)).length) (h2 : two.from_ ≤ (atoms (aOf e M)).length) {K : Cells.T c34 → World → Prop} (hK : ∀ w', Ext w w' → K (spT (Obx.hollow (atoms (aOf e M)) one two)) w') :
    callT Tryz.prog 44 #[.pointer (some (at0 p)), .agg (Cells.vals c72 (celT one)).toArray, .agg (Cells.vals c72 (celT two)).toArray] (.one (.agg c34)) K w := by
  refine F44_calls (a1 := celT one) (a2 := celT two) ?_
  unfold F44
  have few := h.few; have lims := h.lims
  have hal := hal e M
  generalize hA : atoms (aOf e M) = A at *
  unfold Obx.hollow at hK
  obtain ⟨a, ha⟩ : ∃ a, a = (lnAt A (nb A one.from_)).getD ⟨0, 0, 0, 0⟩ := ⟨_, rfl⟩
  obtain ⟨b, hb⟩ : ∃ b, b = (lnAt A (nb A two.from_)).getD ⟨0, 0, 0, 0⟩ := ⟨_, rfl⟩
  rw [← ha, ← hb] at hK
  dsimp only at hK
  have hbf : b.from_ ≤ two.from_ := by
    obtain ⟨l, hl, hf, _⟩ := ln_of A h2
    rw [hb, hl]; exact hf
  let z3 : Obj := .cells #[.int .i64 0, .int .i64 0, .int .i64 0] 34 (0, 0)
  let z4 : Obj := .cells #[.int .i64 0, .int .i64 0, .int .i64 0, .int .i64 0] 100 (0, 0)
  refine (St.start w).newO fun b1 w1 S1 e1 => S1.newO fun b2 w2 S2 e2 => S2.newO fun b3 w3 S3 e3 => ?_
  refine S3.ld 2 rfl (x := (one.to_ : Int)) rfl (S3.ld 1 rfl (x := (two.from_ : Int)) rfl (S3.newO fun b6 w6 S6 e6 => S6.aggSt 0 rfl rfl rfl rfl fun w7 S7 u7 => ?_))
  refine S7.ld 3 rfl (x := (one.from_ : Int)) rfl (line_call (h.ext S7.upd) (by rw [hA]; exact h1) fun w8 e8 => ?_)
  rw [hA, ← ha]
  refine (S7.ext e8).newO fun b10 w10 S10 e10 => S10.aggSt 0 rfl rfl rfl rfl fun w11 S11 u11 => ?_
  refine S11.ld 3 rfl (x := (two.from_ : Int)) rfl (line_call (h.ext S11.upd) (by rw [hA]; exact h2) fun w12 e12 => ?_)
  rw [hA, ← hb]
  refine (S11.ext e12).newO fun b14 w14 S14 e14 => S14.aggSt 0 rfl rfl rfl rfl fun w15 S15 u15 => ?_
  let Ls : List (Nat × Obj) := [(b14, .cells (Cells.vals c100 (lnT b)).toArray 100 (0, 0)), (b10, .cells (Cells.vals c100 (lnT a)).toArray 100 (0, 0)), (b6, .cells #[.int .i64 (one.to_ : Int), .int .i64 (two.from_ : Int), .int .i64 0] 34 (0, 0)), (b3, z3), (b2, .cells (Cells.vals c72 (celT two)).toArray 72 (0, 0)), (b1, .cells (Cells.vals c72 (celT one)).toArray 72 (0, 0))]
  have S15 : St (fun _ => False) w w15 Ls := S15
  have fin : ∀ {W : World} {s : Int × Int × Int}, St (fun _ => False) w W Ls → (∀ w', Ext w w' → K (spT s) w') → aggSt (at0 b3) (.agg #[.int .i64 s.1, .int .i64 s.2.1, .int .i64 s.2.2]) 3 (lds c34 (at0 b3) fun x => K x) W := fun {W s} SW hk =>
    SW.aggSt 3 rfl rfl rfl rfl fun w1 S1 _ => S1.lds 3 (spT s) rfl (hk w1 S1.upd)
  refine join_r (fun x W => x = (decide (a.to_ ≠ one.to_ ∨ a = b), ()) ∧ w15 = W) ?_ ?_
  · refine S15.ld 1 rfl (x := (a.to_ : Int)) rfl (S15.ld 5 rfl (x := (one.to_ : Int)) rfl (sif_r (fun h => ⟨tupb ?_, rfl⟩) (fun h => S15.lds 1 (lnT a) rfl (S15.lds 0 (lnT b) rfl (lnEql_r ⟨tupb ?_, rfl⟩)))))
    all_goals simp only [bne_iff_ne, bne_eq_false_iff_eq, decide_eq_true_eq, true_iff, ne_eq] at *
    · omega
    · have : a.to_ = one.to_ := by omega
      simp [this]
  rintro _ _ ⟨rfl, rfl⟩
  refine sif_r (fun h3 => ?_) (fun h3 => ?_)
  · simp only [decide_eq_true_eq] at h3
    rw [if_pos h3] at hK
    exact S15.lds 2 (spT (one.to_, two.from_, 0)) rfl (fin (s := (one.to_, two.from_, 0)) S15 hK)
  simp only [decide_eq_false_iff_not] at h3
  rw [if_neg h3] at hK
  refine join_r (fun _ W => St (fun _ => False) w W Ls ∧ (cels ((A.drop b.from_).take (two.from_ - b.from_)) b.from_).any (fun c => c.kind != 0) = false) ?_ ?_
  · refine S15.drew fun w16 S16 e16 _ => S16.ld 0 rfl (x := (b.from_ : Int)) rfl (S16.ld 4 rfl (x := (two.from_ : Int)) rfl (S16.ld 0 rfl (x := (b.from_ : Int)) rfl ?_))
    refine atoms_call (h.ext S16.upd) fun s w17 o17 e17 => ?_
    have hsub : sub A (b.from_ : Int) (two.from_ : Int) = (A.drop b.from_).take (two.from_ - b.from_) := by unfold sub; simp
    rw [hA, hsub] at o17
    have S17 := S16.ext e17
    refine S17.keep 0 rfl (v := .int .i64 (b.from_ : Int)) rfl ?_
    refine cells_call o17.in (by rw [List.length_take, List.length_drop]; omega) (by omega) fun s2 w18 o18 e18 _ => ?_
    have S18 := S17.ext e18
    generalize hC : cels ((A.drop b.from_).take (two.from_ - b.from_)) b.from_ = C at *
    have hCl := o18.lenC
    have hCb : C.length < 2 ^ 40 := by
      have := cels_le ((A.drop b.from_).take (two.from_ - b.from_)) b.from_
      rw [hC, List.length_take, List.length_drop] at this; omega
    refine sloop_r (fun x W => ∃ i : Nat, i ≤ C.length ∧ x = ((i : Int), ()) ∧ St (fun _ => False) w W Ls ∧ Ext w18 W ∧ (C.take i).any (fun c => c.kind != 0) = false) (fun x _ => ((C.length : Int) - x.1).toNat) ⟨0, Nat.zero_le _, rfl, S18, Ext.refl _, rfl⟩ ?_
    rintro _ W ⟨i, hi, rfl, SW, eW, hno⟩
    refine sif_r (fun hc => ?_) (fun hc => ?_)
    · simp only [decide_eq_true_eq] at hc
      obtain ⟨c, hc'⟩ : ∃ c, C[i]? = some c := ⟨_, List.getElem?_eq_getElem (by omega)⟩
      refine ix_cel (o18.ext eW) hc' fun q => SW.newO' fun b35 w20 S20 e20 hb35 => S20.aggSt 0 rfl rfl rfl rfl fun w21 S21 u21 => ?_
      refine S21.ld 0 rfl (x := (c.kind : Int)) rfl (sif_r (fun hk => ?_) (fun hk => ?_))
      · simp only [bne_iff_ne, ne_eq] at hk
        have hany : C.any (fun c => c.kind != 0) = true := by
          rw [List.any_eq_true]
          exact ⟨c, List.mem_of_getElem? hc', by rw [bne_iff_ne]; omega⟩
        rw [if_pos hany] at hK
        exact S21.lds 3 (spT (one.to_, two.from_, 0)) rfl (fin (s := (one.to_, two.from_, 0)) S21.tail hK)
      · simp only [bne_eq_false_iff_eq] at hk
        have ew : IntKind.wrap .i64 ((i : Int) + 1) = ((i + 1 : Nat) : Int) := by rw [wrap64 (by omega) (by omega)]; omega
        rw [ew]
        refine ⟨⟨i + 1, by omega, rfl, S21.tail, (eW.trans e20).step u21 (fun k hk => ?_), ?_⟩, by omega⟩
        · have := eW.size; omega
        · rw [List.take_add_one, hc', List.any_append, hno]
          have : c.kind = 0 := by omega
          simp [this]
    · simp only [decide_eq_false_iff_not] at hc
      have : i = C.length := by omega
      subst this
      rw [List.take_length] at hno
      exact ⟨SW, hno⟩
  rintro _ W ⟨SW, hno⟩
  rw [if_neg (by rw [hno]; decide)] at hK
  refine SW.ld 1 rfl (x := (a.next : Int)) rfl (SW.ld 0 rfl (x := (b.from_ : Int)) rfl (sif_r (fun h4 => ?_) (fun h4 => ?_)))
  · simp only [beq_iff_eq] at h4
    rw [if_pos (by omega)] at hK
    exact SW.ld 5 rfl (x := (one.to_ : Int)) rfl (SW.ld 5 rfl (x := (one.to_ : Int)) rfl (fin (s := (one.to_, one.to_, 0)) SW hK))
  · simp only [beq_eq_false_iff_ne, ne_eq] at h4
    rw [if_neg (by omega)] at hK
    exact SW.ld 1 rfl (x := (a.next : Int)) rfl (SW.ld 0 rfl (x := (b.from_ : Int)) rfl (fin (s := (a.next, b.from_, 1)) SW hK))
end
end Go.Proofs.YtabcpghhfeplaaaGreat
