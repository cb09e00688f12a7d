/- YtolhlldgnfbemaaGreatMSp4: parts of the proof, put together by program. -/
import Derived.Test.YtolhlldgnfbemaaGreatMSp3
set_option linter.unusedVariables false
set_option linter.unusedSimpArgs false
set_option linter.unusedSectionVars false
set_option maxRecDepth 100000
namespace Go.Proofs.YtolhlldgnfbemaaGreat
open Go Go.Vx Trx
section
variable {w w' : World} {S : Nat → Prop}
theorem flat_drop (cs : List Cell) : ∀ (xs : List (Cells.T cs)) (n : Nat), (flat cs xs).drop (n * cs.length) = flat cs (xs.drop n)
 | xs, 0 => by simp
 | [], n + 1 => by simp [flat]
 | x :: xs, n + 1 => by
  have e : flat cs (x :: xs) = Cells.vals cs x ++ flat cs xs := rfl
  rw [e, Nat.add_mul, Nat.one_mul, Nat.add_comm, ← List.drop_drop, ← vals_len cs x, List.drop_left, List.drop_succ_cons, vals_len cs x]
  exact flat_drop cs xs n
theorem flat_take (cs : List Cell) : ∀ (xs : List (Cells.T cs)) (n : Nat), (flat cs xs).take (n * cs.length) = flat cs (xs.take n)
 | xs, 0 => by simp [flat]
 | [], n + 1 => by simp [flat]
 | x :: xs, n + 1 => by
  have e : flat cs (x :: xs) = Cells.vals cs x ++ flat cs xs := rfl
  have e2 : flat cs ((x :: xs).take (n + 1)) = Cells.vals cs x ++ flat cs (xs.take n) := rfl
  rw [e, e2, Nat.add_mul, Nat.one_mul, Nat.add_comm, ← vals_len cs x, List.take_length_add_append, vals_len cs x, flat_take cs xs n]
abbrev Ps (w : World) (s : Sl) (l : List Pc) : Prop := SlIn w s 93 7 (flat c93 (l.map pcT))
theorem Ps.len {s : Sl} {l : List Pc} (h : Ps w s l) : l.length = s.len := by
 have := SlIn.lenR (cs := c93) h (by decide)
 rwa [List.length_map] at this
theorem slc_ps {s : Sl} {l : List Pc} {a b m : Int} {K : Sl → World → Prop} (hs : Ps w s l) (h0 : 0 ≤ a) (h1 : a ≤ b) (h2 : b ≤ s.len) (h3 : b ≤ m) (h4 : m ≤ s.cap)
  (hK : ∀ s', Ps w s' ((l.drop a.toNat).take (b.toNat - a.toNat)) → K s' w) : slc s.a a b m s.cap 7 K w :=
 slc_r hs h0 h1 h2 h3 h4 fun s' hs' _ _ _ => hK s' (by
  have e1 := flat_drop c93 (l.map pcT) a.toNat
  have e2 := flat_take c93 ((l.map pcT).drop a.toNat) (b.toNat - a.toNat)
  rw [show c93.length = 7 from rfl] at e1 e2
  rw [e1, e2, ← List.map_drop, ← List.map_take] at hs'
  exact hs')
theorem ix_ldsk {cs : List Cell} {s : Sl} {t : TypeId} {xs : List (Cells.T cs)} {n : Int} {K : Addr → Cells.T cs → World → Prop} (h : SlIn w s t cs.length (flat cs xs)) (hc : 0 < cs.length) (h0 : 0 ≤ n) {x : Cells.T cs} (hx : xs[n.toNat]? = some x)
  (hK : ∀ p, (∀ w', Ext w w' → cellsAt w' (p.add (scaled (Int.toNat n) cs.length)) 0 (Cells.vals cs x)) → K p x w) :
  ix s.a s.len n (fun p => lds cs (p.add (scaled (Int.toNat n) cs.length)) (K p)) w := by
 have hlt := (List.getElem?_eq_some_iff.1 hx).1
 have hl := h.lenR hc
 have key : ∀ {w' : World}, SlIn w' s t cs.length (flat cs xs) → ∀ b off, s.a = some ⟨b, off, none⟩ → cellsAt w' ((⟨b, off, none⟩ : Addr).add (scaled (Int.toNat n) cs.length)) 0 (Cells.vals cs x) := by
  intro w' h' b off ha
  rcases h'.at_ with ⟨hn, _⟩ | ⟨b', off', c, fr, ha', hb, _, hv⟩
  ·rw [hn] at ha; cases ha
  ·rw [ha'] at ha; cases ha
   rw [addr_add]
   refine cellsAt_of _ 0 fun j v hj => ?_
   have hjl : j < cs.length := by
    have := (List.getElem?_eq_some_iff.1 hj).1
    rwa [vals_len] at this
   have h2 := hv (n.toNat * cs.length + j) v (by rw [flat_get cs xs _ j x hx hjl]; exact hj)
   refine cell_of hb ?_
   rw [scaled_eq, show off + n.toNat * cs.length + (0 + j) = off + (n.toNat * cs.length + j) by omega]
   exact h2
 refine h.ix h0 (by omega) hc fun b off ha hv => ⟨x, key h b off ha, hK _ fun w' e => key (h.ext e) b off ha⟩
theorem build_call : ∀ (n : Nat) (l : List Pc) (s : Sl) (w : World), l.length ≤ n → Ps w s l → Fine l → ∀ {K : Option Addr → World → Prop}, GivesT w l K → callT Tryz.prog 95 #[.slice s.a s.len s.cap] (.one (.one .ptr)) K w := by
 intro n
 induction n with
 | zero =>
  intro l s w hn hs hf K hK
  obtain rfl : l = [] := List.length_eq_zero_iff.1 (by omega)
  have hl := hs.len
  refine F95_calls ?_
  unfold F95
  exact sif_r (fun _ => hK .nil w trivial rfl (Ext.refl w)) (fun h => by simp at hl; simp [← hl] at h)
 | succ n ih =>
  intro l s w hn hs hf K hK
  have hl := hs.len
  have hcap := hs.le
  have few := hf.few
  refine F95_calls ?_
  unfold F95
  refine sif_r (fun h => ?_) (fun h => chk_r (by decide) (drew_r fun w1 e1 _ => ?_))
  ·simp only [beq_iff_eq] at h
   obtain rfl : l = [] := List.length_eq_zero_iff.1 (by omega)
   exact hK .nil w trivial rfl (Ext.refl w)
  simp only [beq_eq_false_iff_ne] at h
  have hs1 : Ps w1 s l := hs.ext e1
  obtain ⟨k, hk⟩ : ∃ k, k = l.length / 2 := ⟨_, rfl⟩
  have ek : IntKind.wrap .i64 (Int.tdiv ((s.len : Nat) : Int) 2) = (k : Int) := by
   rw [Int.tdiv_eq_ediv_of_nonneg (by omega), wrap64 (by omega) (by omega)]; omega
  have ek1 : IntKind.wrap .i64 ((k : Int) + 1) = ((k + 1 : Nat) : Int) := by rw [wrap64 (by omega) (by omega)]; omega
  rw [ek, ek1]
  have hkl : k < l.length := by omega
  refine slc_ps hs1 (by decide) (by omega) (by omega) (by omega) (by omega) fun s1 h1 => ?_
  refine ix_ldsk (cs := c93) (xs := l.map pcT) hs1 (by decide) (by omega) (x := pcT l[k]) (by rw [Int.toNat_natCast, List.getElem?_map, List.getElem?_eq_getElem hkl]; rfl) fun p hp => ?_
  refine slc_ps hs1 (by omega) (by omega) (by omega) (by omega) (by omega) fun s2 h2 => ?_
  have t1 : (l.drop (0 : Int).toNat).take ((k : Int).toNat - (0 : Int).toNat) = l.take k := by simp
  have t2 : (l.drop ((k + 1 : Nat) : Int).toNat).take (((s.len : Nat) : Int).toNat - ((k + 1 : Nat) : Int).toNat) = l.drop (k + 1) := by
   rw [Int.toNat_natCast, Int.toNat_natCast]
   have : s.len - (k + 1) = (l.drop (k + 1)).length := by rw [List.length_drop]; omega
   rw [this, List.take_length]
  rw [t1] at h1
  rw [t2] at h2
  have eq : l.take k ++ l[k] :: l.drop (k + 1) = l := by rw [← List.drop_eq_getElem_cons hkl, List.take_append_drop]
  have hf' := eq.symm ▸ hf
  refine ih (l.take k) s1 w1 (by rw [List.length_take]; omega) h1 hf'.left fun a w2 ha hai e2 => keep_r (hp w2 e2) ?_
  refine ih (l.drop (k + 1)) s2 w2 (by rw [List.length_drop]; omega) (SlIn.ext h2 e2) (Fine.right (l := [l[k]]) hf'.right) fun b w3 hb hbi e3 => keep_r (hp w3 (e2.trans e3)) ?_
  exact node_gives (ha.ext e3) hb hf (by rw [hai, hbi, eq]) (hK.ext ((e1.trans e2).trans e3))
abbrev trV (t : Tr) : Value := .agg (Cells.vals c84 (t.ptr, ())).toArray
theorem treeOf_call {l : List Pc} {s : Sl} (hs : Ps w s l) (hf : Fine l) {K : Cells.T c84 → World → Prop} (hK : ∀ (t : Tr) (w' : World), t.In w' → t.items = l → Ext w w' → K (t.ptr, ()) w') :
  callT Tryz.prog 55 #[.slice s.a s.len s.cap] (.one (.agg c84)) K w := by
 refine F55_calls ?_
 unfold F55
 refine (St.start w).newO fun b1 w1 S1 e1 => build_call _ l s w1 (Nat.le_refl _) (SlIn.ext hs e1) hf fun t w2 ht hti e2 => ?_
 refine (S1.ext e2).aggSt 0 rfl rfl rfl rfl fun w3 S3 u3 => S3.lds 0 (t.ptr, ()) rfl (hK t w3 (ht.ty u3 ?_) hti S3.upd)
 rintro k rfl c fr hc
 have := (S1.ext e2).at_ 0 rfl
 rw [hc] at this; cases this
theorem tsize_call {t : Tr} (ht : t.In w) {K : Int → World → Prop} (hK : ∀ w', Ext w w' → K (t.items.length : Int) w') : callT Tryz.prog 112 #[trV t] (.one (.one (.int .i64))) K w := by
 refine F112_calls (a0 := (t.ptr, ())) ?_
 unfold F112
 refine (St.start w).newO fun b1 w1 S1 e1 => S1.ld 0 rfl (x := t.ptr) rfl (count_call (ht.ext e1) ?_)
 rw [← size_items]
 exact hK w1 e1
theorem tsum_call {t : Tr} (ht : t.In w) {K : Cells.T c91 → World → Prop} (hK : ∀ w', Ext w w' → K (smT (tot t.items)) w') : callT Tryz.prog 65 #[trV t] (.one (.agg c91)) K w := by
 refine F65_calls (a0 := (t.ptr, ())) ?_
 unfold F65
 refine (St.start w).newO fun b1 w1 S1 e1 => S1.newO fun b2 w2 S2 e2 => S2.ld 1 rfl (x := t.ptr) rfl ?_
 cases t with
 | nil =>
  refine sif_r (fun _ => S2.newO fun b3 w3 S3 e3 => S3.lds 0 (smT .zero) rfl (S3.aggSt 1 rfl rfl rfl rfl fun w4 S4 u4 => S4.lds 1 (smT .zero) rfl (hK w4 S4.upd))) (fun h => by cases h)
 | node b l x r =>
  refine sif_r (fun h => by cases h) (fun _ => S2.ld 1 rfl (x := (Tr.node b l x r).ptr) rfl (nd_sum (ht.ext S2.upd) ?_))
  exact S2.aggSt 0 rfl rfl rfl rfl fun w3 S3 u3 => S3.lds 0 (smT (tot (Tr.node b l x r).items)) rfl (hK w3 S3.upd)
theorem replace_call {t : Tr} {n m : Nat} {l : List Pc} {s : Sl} (ht : t.In w) (hs : Ps w s l) (hf : Fine t.items) (hfl : Fine l) (hnm : n ≤ m) (hm : m ≤ t.items.length) (hF : Fine (t.items.take n ++ l ++ t.items.drop m))
  {K : Cells.T c84 × Int × Unit → World → Prop} (hK : ∀ (t' : Tr) (w' : World), t'.In w' → t'.items = t.items.take n ++ l ++ t.items.drop m → Ext w w' → K ((t'.ptr, ()), 0, ()) w') :
  callT Tryz.prog 111 #[trV t, .int .i64 (n : Int), .int .i64 (m : Int), .slice s.a s.len s.cap] (.tup [(.agg c84), (.one (.int .i64))]) K w := by
 refine F111_calls (a0 := (t.ptr, ())) ?_
 unfold F111
 have few := hf.few
 refine (St.start w).newO fun b1 w1 S1 e1 => S1.newO fun b2 w2 S2 e2 => ?_
 refine join_r (fun x w' => x = (false, ()) ∧ Ext w2 w') (sif_r (fun h => ?_) (fun _ => sif_r (fun h => ?_) (fun _ => S2.lds 1 (t.ptr, ()) rfl (tsize_call (ht.ext S2.upd) fun w3 e3 => ⟨?_, e3⟩)))) ?_
 ·simp only [decide_eq_true_eq] at h; omega
 ·simp only [decide_eq_true_eq, gt_iff_lt] at h; omega
 ·rw [decide_eq_false (by omega)]
 rintro _ w3 ⟨rfl, e3⟩
 have S3 := S2.ext e3
 refine sif_r (fun h => by cases h) (fun _ => S3.ld 1 rfl (x := t.ptr) rfl ?_)
 refine cut_call t w3 n (ht.ext S3.upd) hf (by omega) fun a a' w4 ha _ hai _ e4 => ?_
 have S4 := S3.ext e4
 refine S4.ld 1 rfl (x := t.ptr) rfl (cut_call t w4 m (ht.ext S4.upd) hf (by omega) fun c' c w5 _ hc _ hci e5 => ?_)
 have S5 := S4.ext e5
 refine build_call _ l s w5 (Nat.le_refl _) (SlIn.ext hs S5.upd) hfl fun p w6 hp hpi e6 => ?_
 refine both_call ((ha.ext e5).ext e6) hp (by rw [hai, hpi]; exact hF.left) fun q w7 hq hqi e7 => ?_
 refine both_call hq ((hc.ext e6).ext e7) (by rw [hqi, hai, hpi, hci]; exact hF) fun t' w8 ht' hti e8 => ?_
 have S8 := S5.ext ((e6.trans e7).trans e8)
 refine S8.aggSt 0 rfl rfl rfl rfl fun w9 S9 u9 => S9.lds 0 (t'.ptr, ()) rfl (hK t' w9 (ht'.ty u9 ?_) (by rw [hti, hqi, hai, hpi, hci]) S9.upd)
 rintro k rfl c fr hc
 have := S8.at_ 0 rfl
 rw [hc] at this; cases this
end
section
variable {w w' : World} {S : Nat → Prop}
def szAt (w : World) : Option Addr → Nat
 | none => 0
 | some a => match w.cell? (a.add 9) with
  | some (.int _ n) => n.toNat
  | _ => 0
theorem szAt_eq {t : Tr} (h : t.In w) : szAt w t.ptr = t.size := by
 cases t with
 | nil => rfl
 | node b l x r =>
  have := nd_cell h (j := 9) (v := .int .i64 ((Tr.node b l x r).size : Int)) rfl
  show (match w.cell? ((at0 b).add 9) with | some (.int _ n) => n.toNat | _ => 0) = _
  rw [this]
  exact Int.toNat_natCast _
theorem Fine.part {a l b : List Pc} {L : List Pc} (h : Fine L) (e : L = a ++ (l ++ b)) : Fine l := (e ▸ h).mid
theorem upto_call {t : Tr} {n : Nat} (ht : t.In w) (hf : Fine t.items) (hn : n < 2 ^ 62) {K : Cells.T c91 → World → Prop} (hK : ∀ w', Ext w w' → K (smT (tot (t.items.take n))) w') :
  callT Tryz.prog 114 #[trV t, .int .i64 (n : Int)] (.one (.agg c91)) K w := by
 refine F114_calls (a0 := (t.ptr, ())) ?_
 unfold F114
 have few := hf.few
 refine (St.start w).newO fun b1 w1 S1 e1 => S1.newO fun b2 w2 S2 e2 => S2.newO fun b3 w3 S3 e3 => S3.lds 2 (t.ptr, ()) rfl (tsize_call (ht.ext S3.upd) fun w4 e4 => ?_)
 have S4 := S3.ext e4
 have e0 : (if ((t.items.length : Nat) : Int) < (n : Int) then ((t.items.length : Nat) : Int) else (n : Int)) = ((min n t.items.length : Nat) : Int) := by split <;> omega
 rw [e0]
 have tk : t.items.take n = t.items.take (min n t.items.length) := List.take_eq_take_iff.2 (by omega)
 rw [tk] at hK
 generalize hm : min n t.items.length = m at *
 have hml : m ≤ t.items.length := by omega
 let z2 : Nat × Obj := (b2, .cells #[(.int .i64 (0 : Int)), (.int .i64 (0 : Int)), (.int .i64 (0 : Int)), (.bool false), (.bool false)] 91 (0, 0))
 let z1 : Nat × Obj := (b1, .cells (Cells.vals c84 (t.ptr, ())).toArray 84 (0, 0))
 refine join_r (fun _ w' => St (fun _ => False) w w' [(b3, .cells (Cells.vals c91 (smT (tot (t.items.take m)))).toArray 91 (0, 0)), z2, z1]) ?_ ?_
 ·refine S4.ld 2 rfl (x := t.ptr) rfl ?_
  refine sloop_r (fun x w' => ∃ (i : Nat) (t' : Tr) (a : List Pc) (r : List Pc), x = ((i : Int), t'.ptr, ()) ∧ t'.In w ∧ t.items = a ++ (t'.items ++ r) ∧ i ≤ t'.items.length ∧ t.items.take m = a ++ t'.items.take i ∧
   St (fun _ => False) w w' [(b3, .cells (Cells.vals c91 (smT (tot a))).toArray 91 (0, 0)), z2, z1]) (fun x w' => szAt w' x.2.1) ⟨m, t, [], [], rfl, ht, by simp, hml, by simp, S4⟩ ?_
  rintro _ w5 ⟨i, t', a, r, rfl, htw, eq, hi, etk, S5⟩
  have ht' := htw.ext S5.upd
  have hfa := (eq ▸ hf.ok).left
  have hft : Fine t'.items := Fine.part hf eq
  have small := hf.small
  rw [eq, tot_app_bytes hfa (eq ▸ hf.ok).right, tot_app_bytes (eq ▸ hf.ok).right.left (eq ▸ hf.ok).right.right] at small
  refine join_r (fun x w' => x = (decide (0 < i), ()) ∧ w5 = w') ?_ ?_
  ·cases t' with
   | nil =>
    have : i = 0 := by simpa [Tr.items] using hi
    exact sif_r (fun h => by cases h) (fun _ => ⟨by rw [decide_eq_false (by omega)], rfl⟩)
   | node b l x rr =>
    refine sif_r (fun _ => ⟨tupb ?_, rfl⟩) (fun h => by cases h)
    simp only [decide_eq_true_eq, gt_iff_lt]; omega
  rintro _ w' ⟨rfl, rfl⟩
  refine sif_r (fun h => ?_) (fun h => ?_)
  ·simp only [decide_eq_true_eq] at h
   obtain ⟨b, l, x, rr, rfl⟩ : ∃ b l x rr, t' = .node b l x rr := by
    cases t' with
    | nil => simp [Tr.items] at hi; omega
    | node b l x rr => exact ⟨b, l, x, rr, rfl⟩
   have sl := size_items l
   have srr := size_items rr
   have hti : (Tr.node b l x rr).items = l.items ++ x :: rr.items := rfl
   have hlen : (Tr.node b l x rr).items.length = l.items.length + 1 + rr.items.length := by rw [hti]; simp; omega
   have few' := hft.few
   have okl : AllOk l.items := hft.ok.left
   have okx : x.sm.Ok := hft.ok.right.head
   have okr : AllOk rr.items := hft.ok.right.tail
   have sm2 : (tot (Tr.node b l x rr).items).bytes = (tot l.items).bytes + (x.sm.bytes + (tot rr.items).bytes) := by
    rw [hti, tot_app_bytes okl (AllOk.cons okx okr)]
    have ex : x :: rr.items = [x] ++ rr.items := rfl
    rw [ex, tot_app_bytes (AllOk.one okx) okr, tot_one okx]
   have okta := tot_ok hfa
   refine nd_left ht' (count_call ht'.2.1 (sif_r (fun h2 => ?_) (fun h2 => ?_)))
   ·simp only [decide_eq_true_eq] at h2
    refine nd_left ht' ⟨⟨i, l, a, x :: rr.items ++ r, rfl, htw.2.1, by rw [eq, hti]; simp, by omega, ?_, S5⟩, ?_⟩
    ·rw [etk, hti, List.take_append_of_le_length (by omega)]
    ·dsimp only
     rw [szAt_eq ht', szAt_eq ht'.2.1]
     show l.size < l.size + 1 + rr.size
     omega
   ·simp only [decide_eq_false_iff_not] at h2
    refine join_r (fun _ w' => St (fun _ => False) w w' [(b3, .cells (Cells.vals c91 (smT ((tot a).add (tot l.items)))).toArray 91 (0, 0)), z2, z1]) ?_ ?_
    ·refine nd_left ht' ?_
     cases l with
     | nil =>
      have e : (tot a).add (tot (Tr.nil).items) = tot a := Sums.add_zero okta
      rw [e]
      exact sif_r (fun h => by cases h) (fun _ => S5)
     | node bl ll lx lr =>
      refine sif_r (fun _ => S5.drew fun w6 S6 e6 _ => S6.lds 0 (smT (tot a)) rfl ?_) (fun h => by cases h)
      have ht6 := ht'.ext e6
      refine nd_left ht6 (nd_sum ht6.2.1 (add_x okta (tot_ok okl) (by omega) fun w7 e7 => ?_))
      exact (S6.ext e7).aggSt 0 rfl rfl rfl rfl fun w8 S8 u8 => S8
    ·intro _ w6 S6
     have okm := Sums.add_ok okta (tot_ok okl)
     have bm := (Sums.add_bytes _ _ okta (tot_ok okl)).1
     refine S6.drew fun w7 S7 e7 _ => S7.lds 0 (smT _) rfl (nd_item (htw.ext S7.upd) (measure_x fun w8 e8 => ?_))
     have S8 := S7.ext e8
     refine S8.keeps 0 rfl (add_x okm okx (by omega) fun w9 e9 => (S8.ext e9).aggSt 0 rfl rfl rfl rfl fun w10 S10 u10 => nd_right (htw.ext S10.upd) ?_)
     have ew : IntKind.wrap .i64 (IntKind.wrap .i64 ((i : Int) - (l.size : Int)) - 1) = ((i - l.items.length - 1 : Nat) : Int) := by
      rw [wrap64 (a := (i : Int) - (l.size : Int)) (by omega) (by omega), wrap64 (by omega) (by omega)]; omega
     rw [ew]
     have es : ((tot a).add (tot l.items)).add x.sm = tot (a ++ (l.items ++ [x])) := by
      rw [tot_append hfa (AllOk.append okl (AllOk.one okx)), tot_append okl (AllOk.one okx), tot_one okx, Sums.add_assoc okta (tot_ok okl) okx]
     rw [es] at S10
     refine ⟨⟨i - l.items.length - 1, rr, a ++ (l.items ++ [x]), r, rfl, htw.2.2, by rw [eq, hti]; simp, by omega, ?_, S10⟩, ?_⟩
     ·rw [etk, hti]
      obtain ⟨j, hj⟩ : ∃ j, i = l.items.length + (1 + j) := ⟨i - l.items.length - 1, by omega⟩
      have ej : i - l.items.length - 1 = j := by omega
      rw [ej, hj, List.take_length_add_append, Nat.add_comm 1 j, List.take_succ_cons]
      simp
     ·dsimp only
      rw [szAt_eq (htw.ext S10.upd).2.2, szAt_eq ht']
      show rr.size < l.size + 1 + rr.size
      omega
  ·simp only [decide_eq_false_iff_not] at h
   have : i = 0 := by omega
   subst this
   rw [etk]
   simpa using S5
 ·intro _ w5 S5
  exact S5.lds 0 (smT _) rfl (S5.aggSt 1 rfl rfl rfl rfl fun w6 S6 u6 => S6.lds 1 (smT _) rfl (hK w6 S6.upd))
def atI (l : List Pc) (n : Nat) : Pc × Bool := match l[n]? with | some x => (x, true) | none => (Pc.zero, false)
theorem at_call {t : Tr} {n : Nat} (ht : t.In w) (hf : Fine t.items) (hn : n < 2 ^ 62) {K : Cells.T c93 × Bool × Unit → World → Prop} (hK : ∀ w', Ext w w' → K (pcT (atI t.items n).1, (atI t.items n).2, ()) w') :
  callT Tryz.prog 108 #[trV t, .int .i64 (n : Int)] (.tup [(.agg c93), (.one .bool)]) K w := by
 refine F108_calls (a0 := (t.ptr, ())) ?_
 unfold F108
 refine (St.start w).newO fun b1 w1 S1 e1 => S1.newO fun b2 w2 S2 e2 => ?_
 let z2 : Nat × Obj := (b2, .cells (Cells.vals c93 (pcT Pc.zero)).toArray 93 (0, 0))
 let z1 : Nat × Obj := (b1, .cells (Cells.vals c84 (t.ptr, ())).toArray 84 (0, 0))
 refine join_r (fun _ w' => St (fun _ => False) w w' [z2, z1] ∧ t.items.length ≤ n) ?_ ?_
 ·refine S2.ld 1 rfl (x := t.ptr) rfl ?_
  refine sloop_r (fun x w' => ∃ (i : Nat) (t' : Tr) (a r : List Pc), x = ((i : Int), t'.ptr, ()) ∧ t'.In w ∧ Fine t'.items ∧ t.items = a ++ (t'.items ++ r) ∧ n = a.length + i ∧ (t'.items.length ≤ i → r = []) ∧
   St (fun _ => False) w w' [z2, z1]) (fun x w' => szAt w' x.2.1) ⟨n, t, [], [], rfl, ht, hf, by simp, by simp, fun _ => rfl, S2⟩ ?_
  rintro _ w5 ⟨i, t', a, r, rfl, htw, hft, eq, hi, hr, S5⟩
  have ht' := htw.ext S5.upd
  cases t' with
  | nil =>
   refine join_r (fun x w' => x = (false, ()) ∧ w5 = w') (sif_r (fun h => by cases h) (fun _ => ⟨rfl, rfl⟩)) ?_
   rintro _ w' ⟨rfl, rfl⟩
   refine sif_r (fun h => by cases h) (fun _ => ⟨S5, ?_⟩)
   have := hr (Nat.zero_le _)
   rw [eq, this]
   simp [Tr.items]; omega
  | node b l x rr =>
   refine join_r (fun x w' => x = (true, ()) ∧ w5 = w') (sif_r (fun _ => ⟨by rw [decide_eq_true (by omega)], rfl⟩) (fun h => by cases h)) ?_
   rintro _ w' ⟨rfl, rfl⟩
   have hti : (Tr.node b l x rr).items = l.items ++ x :: rr.items := rfl
   have sl := size_items l
   have few' := hft.few
   have hlen : (Tr.node b l x rr).items.length = l.items.length + 1 + rr.items.length := by rw [hti]; simp; omega
   have hfl : Fine l.items := hft.left
   have hfr : Fine rr.items := Fine.right (l := [x]) hft.right
   refine sif_r (fun _ => nd_left ht' (count_call ht'.2.1 (sif_r (fun h2 => ?_) (fun h2 => sif_r (fun h3 => ?_) (fun h3 => ?_))))) (fun h => by cases h)
   ·simp only [beq_iff_eq] at h2
    have hil : i = l.items.length := by omega
    refine nd_item ht' (S5.aggSt 0 rfl rfl rfl rfl fun w6 S6 u6 => S6.lds 0 (pcT x) rfl ?_)
    have e : atI t.items n = (x, true) := by
     unfold atI
     rw [eq, hi, hil, hti]
     have : (a ++ (l.items ++ x :: rr.items ++ r))[a.length + l.items.length]? = some x := by
      rw [List.getElem?_append_right (by omega), Nat.add_sub_cancel_left, List.append_assoc, List.getElem?_append_right (by omega), Nat.sub_self]; rfl
     rw [this]
    have := hK w6 S6.upd
    rw [e] at this
    exact this
   ·simp only [beq_eq_false_iff_ne] at h2
    simp only [decide_eq_true_eq] at h3
    refine nd_left ht' ⟨⟨i, l, a, x :: rr.items ++ r, rfl, htw.2.1, hfl, by rw [eq, hti]; simp, hi, fun h => by omega, S5⟩, ?_⟩
    dsimp only
    rw [szAt_eq ht', szAt_eq ht'.2.1]
    show l.size < l.size + 1 + rr.size
    omega
   ·simp only [beq_eq_false_iff_ne] at h2
    simp only [decide_eq_false_iff_not] at h3
    have ew : IntKind.wrap .i64 (IntKind.wrap .i64 ((i : Int) - (l.size : Int)) - 1) = ((i - l.items.length - 1 : Nat) : Int) := by
     rw [wrap64 (a := (i : Int) - (l.size : Int)) (by omega) (by omega), wrap64 (by omega) (by omega)]; omega
    rw [ew]
    refine nd_right ht' ⟨⟨i - l.items.length - 1, rr, a ++ (l.items ++ [x]), r, rfl, htw.2.2, hfr, by rw [eq, hti]; simp, by simp; omega, fun h => hr (by omega), S5⟩, ?_⟩
    dsimp only
    rw [szAt_eq ht', szAt_eq ht'.2.2]
    show rr.size < l.size + 1 + rr.size
    omega
 ·rintro _ w5 ⟨S5, hle⟩
  refine S5.newO fun b6 w6 S6 e6 => S6.lds 0 (pcT Pc.zero) rfl (S6.aggSt 1 rfl rfl rfl rfl fun w7 S7 u7 => S7.lds 1 (pcT Pc.zero) rfl ?_)
  have e : atI t.items n = (Pc.zero, false) := by unfold atI; rw [List.getElem?_eq_none hle]
  have := hK w7 S7.upd
  rw [e] at this
  exact this
def keyOf (k : Nat) (s : Sums) : Nat := if k = 0 then s.atoms else s.breaks
def findI (k n : Nat) (l : List Pc) : Nat := ((List.range (l.length + 1)).find? fun i => decide (n ≤ keyOf k (tot (l.take i)))).getD (l.length + 1)
theorem key_x' {s : Sums} {k : Nat} (hk : k < 2) {K : Int → World → Prop} (hK : ∀ w', Ext w w' → K ((keyOf k s : Nat) : Int) w') :
  callX Tryz.prog (invoke (.fn (.method "Key") #[]) (#[.iface 91 (smV s)] ++ #[.int .i64 (k : Int)])) (.one (.one (.int .i64))) K w :=
 key_x hk fun w' e => by
  have := hK w' e
  unfold keyOf at this
  split at this
  ·rename_i h; rw [if_pos h]; exact this
  ·rename_i h; rw [if_neg h]; exact this
theorem keyOf_mono {k : Nat} {a b : Sums} (ha : a.Ok) (hb : b.Ok) : keyOf k a ≤ keyOf k (a.add b) := by
 unfold keyOf Sums.add
 have h1 := ha.nil
 have h2 := hb.lf
 split
 ·split
  ·rename_i h; omega
  ·split
   ·exact Nat.le_refl _
   ·show a.atoms ≤ a.atoms + b.atoms; omega
 ·split
  ·rename_i h; rw [h1 h]; exact Nat.zero_le _
  ·split
   ·exact Nat.le_refl _
   ·show a.breaks ≤ a.breaks + b.breaks - _
    split
    ·rename_i h
     simp only [Bool.and_eq_true] at h
     have := h2 h.2; omega
    ·omega
theorem findI_eq {k n : Nat} {l : List Pc} {j : Nat} (hj : j ≤ l.length) (h1 : n ≤ keyOf k (tot (l.take j))) (h0 : ∀ i, i < j → keyOf k (tot (l.take i)) < n) : findI k n l = j := by
 unfold findI
 have : (List.range (l.length + 1)).find? (fun i => decide (n ≤ keyOf k (tot (l.take i)))) = some j := by
  rw [List.find?_range_eq_some]
  refine ⟨by simpa using h1, by simp; omega, fun i hi => ?_⟩
  have := h0 i hi
  simp; omega
 rw [this]; rfl
theorem findI_none {k n : Nat} {l : List Pc} (h0 : ∀ i, i ≤ l.length → keyOf k (tot (l.take i)) < n) : findI k n l = l.length + 1 := by
 unfold findI
 have : (List.range (l.length + 1)).find? (fun i => decide (n ≤ keyOf k (tot (l.take i)))) = none := by
  rw [List.find?_range_eq_none]
  intro i hi
  have := h0 i (by omega)
  simp; omega
 rw [this]; rfl
end
section
variable {w w' : World} {S : Nat → Prop}
theorem find_call {t : Tr} {k n : Nat} (hk : k < 2) (hn : 0 < n) (ht : t.In w) (hf : Fine t.items) {K : Int → World → Prop} (hK : ∀ w', Ext w w' → K ((findI k n t.items : Nat) : Int) w') :
  callT Tryz.prog 113 #[trV t, .int .i64 (k : Int), .int .i64 (n : Int)] (.one (.one (.int .i64))) K w := by
 refine F113_calls (a0 := (t.ptr, ())) ?_
 unfold F113
 have few := hf.few
 refine (St.start w).newO fun b1 w1 S1 e1 => sif_r (fun h => ?_) (fun _ => S1.newO fun b2 w2 S2 e2 => ?_)
 ·simp only [decide_eq_true_eq] at h; omega
 let z1 : Nat × Obj := (b1, .cells (Cells.vals c84 (t.ptr, ())).toArray 84 (0, 0))
 refine join_r (fun x w' => x = ((t.items.length : Int), ()) ∧ findI k n t.items = t.items.length + 1 ∧ Ext w w') ?_ ?_
 ·refine S2.ld 1 rfl (x := t.ptr) rfl ?_
  refine sloop_r (fun x w' => ∃ (t' : Tr) (a r : List Pc), x = ((a.length : Int), t'.ptr, ()) ∧ t'.In w ∧ t.items = a ++ (t'.items ++ r) ∧ (∀ i, i ≤ a.length → keyOf k (tot (t.items.take i)) < n) ∧ (r = [] ∨ n ≤ keyOf k (tot (a ++ t'.items))) ∧
   St (fun _ => False) w w' [(b2, .cells (Cells.vals c91 (smT (tot a))).toArray 91 (0, 0)), z1]) (fun x w' => szAt w' x.2.1) ⟨t, [], [], rfl, ht, by simp, fun i hi => ?_, .inl rfl, S2⟩ ?_
  ·have : i = 0 := by simpa using hi
   subst this
   unfold keyOf; split <;> exact hn
  rintro _ w5 ⟨t', a, r, rfl, htw, eq, hlow, hr, S5⟩
  have ht' := htw.ext S5.upd
  have hfa := (eq ▸ hf.ok).left
  have okta := tot_ok hfa
  cases t' with
  | nil =>
   refine sif_r (fun h => by cases h) (fun _ => ?_)
   have hr' : r = [] := by
    rcases hr with h | h
    ·exact h
    ·have := hlow a.length (Nat.le_refl _)
     rw [eq, List.take_left] at this
     simp only [Tr.items, List.append_nil] at h
     omega
   subst hr'
   have el : t.items = a := by rw [eq]; simp [Tr.items]
   refine ⟨by rw [el], ?_, S5.upd⟩
   exact findI_none fun i hi => hlow i (by rw [← el]; exact hi)
  | node b l x rr =>
   have hti : (Tr.node b l x rr).items = l.items ++ x :: rr.items := rfl
   have hft : Fine (Tr.node b l x rr).items := Fine.part hf eq
   have okl : AllOk l.items := hft.ok.left
   have okx : x.sm.Ok := hft.ok.right.head
   have okr : AllOk rr.items := hft.ok.right.tail
   have sl := size_items l
   have small := hf.small
   rw [eq, tot_app_bytes hfa (eq ▸ hf.ok).right, tot_app_bytes (eq ▸ hf.ok).right.left (eq ▸ hf.ok).right.right] at small
   have sm2 : (tot (Tr.node b l x rr).items).bytes = (tot l.items).bytes + (x.sm.bytes + (tot rr.items).bytes) := by
    rw [hti, tot_app_bytes okl (AllOk.cons okx okr)]
    have ex : x :: rr.items = [x] ++ rr.items := rfl
    rw [ex, tot_app_bytes (AllOk.one okx) okr, tot_one okx]
   have lens : t.items.length = a.length + (l.items.length + (1 + rr.items.length) + r.length) := by rw [eq, hti]; simp; omega
   have okm := Sums.add_ok okta (tot_ok okl)
   have bm := (Sums.add_bytes _ _ okta (tot_ok okl)).1
   have el : (tot a).add (tot l.items) = tot (a ++ l.items) := (tot_append hfa okl).symm
   refine sif_r (fun _ => S5.lds 0 (smT (tot a)) rfl (S5.newAgg rfl rfl rfl fun b9 w6 S6 e6 => ?_)) (fun h => by cases h)
   let z2 : Nat × Obj := (b2, .cells (Cells.vals c91 (smT (tot a))).toArray 91 (0, 0))
   refine join_r (fun _ w' => St (fun _ => False) w w' [(b9, .cells (Cells.vals c91 (smT ((tot a).add (tot l.items)))).toArray 91 (0, 0)), z2, z1]) ?_ ?_
   ·refine nd_left (htw.ext S6.upd) ?_
    cases l with
    | nil =>
     have e : (tot a).add (tot (Tr.nil).items) = tot a := Sums.add_zero okta
     rw [e]
     exact sif_r (fun h => by cases h) (fun _ => S6)
    | node bl ll lx lr =>
     refine sif_r (fun _ => S6.drew fun w7 S7 e7 _ => S7.lds 1 (smT (tot a)) rfl ?_) (fun h => by cases h)
     have ht7 := htw.ext S7.upd
     refine nd_left ht7 (nd_sum ht7.2.1 (add_x okta (tot_ok okl) (by omega) fun w8 e8 => ?_))
     exact (S7.ext e8).aggSt 0 rfl rfl rfl rfl fun w9 S9 u9 => S9
   ·intro _ w7 S7
    refine S7.lds 0 (smT _) rfl (key_x' hk fun w8 e8 => ?_)
    have S8 := S7.ext e8
    rw [el]
    refine sif_r (fun h => ?_) (fun h => ?_)
    ·simp only [decide_eq_true_eq, ge_iff_le] at h
     refine nd_left (htw.ext S8.upd) ⟨⟨l, a, x :: rr.items ++ r, rfl, htw.2.1, by rw [eq, hti]; simp, hlow, .inr (by omega), S8.tail⟩, ?_⟩
     dsimp only
     rw [szAt_eq (htw.ext S8.upd).2.1, szAt_eq ht']
     show l.size < l.size + 1 + rr.size
     omega
    ·simp only [decide_eq_false_iff_not, ge_iff_le] at h
     have hlt : keyOf k (tot (a ++ l.items)) < n := by omega
     have S8' := S8
     rw [el] at S8'
     refine nd_left (htw.ext S8.upd) (count_call (htw.ext S8.upd).2.1 (S8'.drew fun w9 S9 e9 _ => S9.lds 0 (smT _) rfl (nd_item (htw.ext S9.upd) (measure_x fun w10 e10 => ?_))))
     have S10 := S9.ext e10
     refine S10.keeps 0 rfl (add_x (el ▸ okm) okx (by rw [← el]; omega) fun w11 e11 => (S10.ext e11).aggSt 1 rfl rfl rfl rfl fun w12 S12 u12 => ?_)
     have es : (tot (a ++ l.items)).add x.sm = tot (a ++ (l.items ++ [x])) := by
      rw [← List.append_assoc, tot_append (AllOk.append hfa okl) (AllOk.one okx), tot_one okx]
     rw [es] at S12
     refine S12.lds 1 (smT _) rfl (key_x' hk fun w13 e13 => ?_)
     have S13 := S12.ext e13
     have ew : IntKind.wrap .i64 ((a.length : Int) + IntKind.wrap .i64 ((l.size : Int) + 1)) = ((a.length + l.items.length + 1 : Nat) : Int) := by
      rw [wrap64 (a := (l.size : Int) + 1) (by omega) (by omega), wrap64 (by omega) (by omega)]; omega
     rw [ew]
     have hlow2 : ∀ i, i ≤ a.length + l.items.length → keyOf k (tot (t.items.take i)) < n := by
      intro i hi
      by_cases h1 : i ≤ a.length
      ·exact hlow i h1
      ·obtain ⟨j, rfl⟩ : ∃ j, i = a.length + j := ⟨i - a.length, by omega⟩
       have e1 : t.items.take (a.length + j) = a ++ l.items.take j := by
        rw [eq, List.take_length_add_append, hti, List.append_assoc, List.take_append_of_le_length (by omega)]
       have e2 : a ++ l.items = (a ++ l.items.take j) ++ l.items.drop j := by simp
       have okt : AllOk (l.items.take j) := fun y hy => okl y (List.mem_of_mem_take hy)
       have okd : AllOk (l.items.drop j) := fun y hy => okl y (List.mem_of_mem_drop hy)
       rw [e1]
       rw [e2, tot_append (AllOk.append hfa okt) okd] at hlt
       exact Nat.lt_of_le_of_lt (keyOf_mono (tot_ok (AllOk.append hfa okt)) (tot_ok okd)) hlt
     have etk : t.items.take (a.length + l.items.length + 1) = a ++ (l.items ++ [x]) := by
      rw [eq, hti, Nat.add_assoc, List.take_length_add_append, List.append_assoc, List.take_length_add_append]
      rfl
     refine sif_r (fun h2 => ?_) (fun h2 => ?_)
     ·simp only [decide_eq_true_eq, ge_iff_le] at h2
      have := findI_eq (k := k) (n := n) (l := t.items) (j := a.length + l.items.length + 1) (by omega) (by rw [etk]; omega) fun i hi => hlow2 i (by omega)
      rw [← this]
      exact hK w13 S13.upd
     ·simp only [decide_eq_false_iff_not, ge_iff_le] at h2
      refine nd_right (htw.ext S13.upd) ⟨⟨rr, a ++ (l.items ++ [x]), r, by simp; omega, htw.2.2, by rw [eq, hti]; simp, fun i hi => ?_, ?_, S13.tail⟩, ?_⟩
      ·by_cases h1 : i ≤ a.length + l.items.length
       ·exact hlow2 i h1
       ·have : i = a.length + l.items.length + 1 := by simp at hi; omega
        rw [this, etk]; omega
      ·rcases hr with h | h
       ·exact .inl h
       ·refine .inr ?_
        have : a ++ (l.items ++ [x]) ++ rr.items = a ++ (Tr.node b l x rr).items := by rw [hti]; simp
        rw [this]; exact h
      ·dsimp only
       rw [szAt_eq (htw.ext S13.upd).2.2, szAt_eq ht']
       show rr.size < l.size + 1 + rr.size
       omega
 ·rintro _ w5 ⟨rfl, hfi, he⟩
  have ew : IntKind.wrap .i64 ((t.items.length : Int) + 1) = ((findI k n t.items : Nat) : Int) := by rw [hfi, wrap64 (by omega) (by omega)]; omega
  show K (IntKind.wrap .i64 ((t.items.length : Int) + 1)) w5
  rw [ew]
  exact hK w5 he
end
section
variable {w w' : World} {S : Nat → Prop}
theorem upd_putObj {m : Nat} {o o' : Obj} (hm : w.heap[m]? = some o) : Upd (fun k => k = m) w (w.putObj m o') ∧ (w.putObj m o').heap[m]? = some o' := upd_setObj hm
def prot : Obj → Bool
 | .cells _ t _ => t == 139 || (t == 154 || (t == 155 || t == 93))
 | .deferred _ => true
 | _ => false
structure Stay (W W' : World) : Prop where
 size : W.heap.size ≤ W'.heap.size
 at_ : ∀ (k : Nat) (o : Obj), W.heap[k]? = some o → prot o = true → W'.heap[k]? = some o
theorem Stay.refl (W : World) : Stay W W := ⟨Nat.le_refl _, fun _ _ h _ => h⟩
theorem Stay.trans {W W' W'' : World} (h : Stay W W') (h' : Stay W' W'') : Stay W W'' := ⟨Nat.le_trans h.size h'.size, fun k o ho hp => h'.at_ k o (h.at_ k o ho hp) hp⟩
theorem Stay.ext {W W' : World} (e : Ext W W') : Stay W W' := ⟨e.size, fun _ _ h _ => e.ext_get h⟩
theorem Stay.upd {W W' : World} (u : Upd S W W') (h : ∀ k, S k → ∀ o, W.heap[k]? = some o → prot o = false) : Stay W W' :=
 ⟨u.size, fun k o ho hp => u.get ho fun hk => by rw [h k hk o ho] at hp; cases hp⟩
theorem Trx.Tr.In.stay : ∀ {t : Tr}, t.In w → Stay w w' → t.In w'
 | .nil, _, _ => trivial
 | .node _ _ _ _, h, s => ⟨s.at_ _ _ h.1 rfl, h.2.1.stay s, h.2.2.stay s⟩
theorem yield_x {l : Nat} {v : Value} {R : Bool → World → Prop} (h : yieldX Tryz.prog l [v] R w) :
  callX Tryz.prog (do let d ← Deferred.ofValue (.func (.yield l) #[] #[]) #[v]; invoke d.target d.args : Sem Next) (.one (.one .bool)) R w := by
 obtain ⟨f, tmps, assign, body, h1, h2⟩ := h
 refine .inr (.inr ⟨l, f, tmps, assign, body, ?_, h2⟩)
 simp only [Deferred.ofValue, pure_bind, invoke]
 exact h1
structure ItE (l b1 b2 : Nat) (W : World) : Prop where
 y : W.heap[b1]? = some (.cells #[.func (.yield l) #[] #[]] 154 (0, 0))
 f : W.heap[b2]? = some (.cells #[.func (.func 136) #[] #[.pointer (some (at0 b2)), .pointer (some (at0 b1))]] 155 (0, 0))
theorem ItE.stay {l b1 b2 : Nat} (h : ItE l b1 b2 w) (s : Stay w w') : ItE l b1 b2 w' := ⟨s.at_ _ _ h.y rfl, s.at_ _ _ h.f rfl⟩
theorem items_walk {l b1 b2 : Nat} {rc : LoopState → Option Code → Loop} {its : List Pc} {Inv : Nat → World → Prop} {Brk : World → Prop}
  (hx : ∀ j W W', Inv j W → Ext W W' → Inv j W')
  (hy : ∀ (j : Nat) (x : Pc) (W : World) (K : Bool → World → Prop), its[j]? = some x → Inv j W → W.heap[l]? = some (.loop (rc .ready none)) →
   (∀ c W', Stay W W' → (c = true → Inv (j + 1) W' ∧ W'.heap[l]? = some (.loop (rc .ready none))) → (c = false → Brk W') → K c W') → yieldX Tryz.prog l [pcV x] K W) :
  ∀ (t : Tr) (m : Nat) (pre post : List Pc) (W : World) (K : Bool → World → Prop), t.In W → ItE l b1 b2 W → W.heap[l]? = some (.loop (rc .ready none)) → Fine t.items → m < 2 ^ 61 → its = pre ++ (t.items.drop m ++ post) → Inv pre.length W →
   (∀ c W', Stay W W' → (c = true → Inv (pre.length + (t.items.length - m)) W' ∧ W'.heap[l]? = some (.loop (rc .ready none))) → (c = false → Brk W') → K c W') →
   callT Tryz.prog 136 #[.pointer t.ptr, .int .i64 (m : Int), .pointer (some (at0 b2)), .pointer (some (at0 b1))] (.one (.one .bool)) K W := by
 intro t
 induction t with
 | nil =>
  intro m pre post W K _ hE hr _ _ hi hI hK
  refine F136_calls ?_
  unfold F136
  refine join_r (fun s W' => s = (true, ()) ∧ W = W') (sif_r (fun _ => ⟨rfl, rfl⟩) (fun h => by cases h)) ?_
  rintro _ _ ⟨rfl, rfl⟩
  exact sif_true (hK true W (Stay.refl W) (fun _ => ⟨by simpa [Tr.items] using hI, hr⟩) (fun h => by cases h))
 | node b lt x rt ihl ihr =>
  intro m pre post W K ht hE hr hf hm hi hI hK
  refine F136_calls ?_
  unfold F136
  have hti : (Tr.node b lt x rt).items = lt.items ++ x :: rt.items := rfl
  have hsz : (Tr.node b lt x rt).items.length = (Tr.node b lt x rt).size := size_items _
  have hsl := size_items lt
  have hlen : (Tr.node b lt x rt).items.length = lt.items.length + 1 + rt.items.length := by rw [hti]; simp; omega
  have few := hf.few
  have hfl : Fine lt.items := hf.left
  have hfr : Fine rt.items := by
   have h2 : Fine (x :: rt.items) := (hti ▸ hf).right
   have ex : x :: rt.items = [x] ++ rt.items := rfl
   exact (ex ▸ h2).right
  refine join_r (fun s W' => s = (decide ((m : Int) ≥ (((Tr.node b lt x rt).size : Nat) : Int)), ()) ∧ W = W') (sif_r (fun h => by cases h) (fun _ => nn_some (by rw [addr_add]; exact ld_r ht.1 (x := ((Tr.node b lt x rt).size : Int)) rfl ⟨rfl, rfl⟩))) ?_
  rintro _ _ ⟨rfl, rfl⟩
  refine sif_r (fun h => ?_) (fun h => ?_)
  ·simp only [decide_eq_true_eq, ge_iff_le] at h
   refine hK true W (Stay.refl W) (fun _ => ⟨?_, hr⟩) (fun h => by cases h)
   have : (Tr.node b lt x rt).items.length - m = 0 := by omega
   rw [this]; exact hI
  simp only [decide_eq_false_iff_not, ge_iff_le] at h
  refine nd_left ht (count_call ht.2.1 ?_)
  refine join_r (fun s W' => (s.1 = false → Stay W W' ∧ Inv (pre.length + (lt.items.length - m)) W' ∧ W'.heap[l]? = some (.loop (rc .ready none))) ∧ (s.1 = true → Stay W W' ∧ Brk W')) ?_ ?_
  ·refine drew_r fun W1 e1 _ => ?_
   have s1 := Stay.ext e1
   refine sif_r (fun h2 => ?_) (fun h2 => ?_)
   ·simp only [decide_eq_true_eq] at h2
    refine ld_r (hE.stay s1).f (x := (.func (.func 136) #[] #[.pointer (some (at0 b2)), .pointer (some (at0 b1))] : Value)) rfl ?_
    refine nd_left (ht.stay s1) (func_x (by kernel_rfl) ?_)
    refine ihl m pre (x :: rt.items ++ post) W1 _ (ht.2.1.stay s1) (hE.stay s1) (e1.ext_get hr) hfl hm ?_ (hx _ _ _ hI e1) ?_
    ·rw [hi, hti, List.drop_append_of_le_length (by omega)]; simp
    ·intro c W2 s2 ht2 hf2
     refine ⟨fun hc => ?_, fun hc => ?_⟩
     ·have hct : c = true := by simpa using hc
      obtain ⟨i2, r2⟩ := ht2 hct
      exact ⟨s1.trans s2, i2, r2⟩
     ·have hcf : c = false := by simpa using hc
      exact ⟨s1.trans s2, hf2 hcf⟩
   ·simp only [decide_eq_false_iff_not] at h2
    refine ⟨fun _ => ⟨s1, ?_, e1.ext_get hr⟩, fun h => by cases h⟩
    have : lt.items.length - m = 0 := by omega
    rw [this]; exact hx _ _ _ hI e1
  rintro ⟨sb, _⟩ W2 ⟨hA, hB⟩
  refine sif_r (fun e => ?_) (fun e => ?_)
  ·obtain ⟨s2, hb2⟩ := hB e
   exact hK false W2 s2 (fun h => by cases h) (fun _ => hb2)
  obtain ⟨s2, i2, r2⟩ := hA e
  refine join_r (fun s W' => (s.1 = false → Stay W W' ∧ Inv (pre.length + (lt.items.length - m) + (if m ≤ lt.items.length then 1 else 0)) W' ∧ W'.heap[l]? = some (.loop (rc .ready none))) ∧ (s.1 = true → Stay W W' ∧ Brk W')) ?_ ?_
  ·refine drew_r fun W3 e3 _ => ?_
   have s3 := s2.trans (Stay.ext e3)
   refine sif_r (fun h3 => ?_) (fun h3 => ?_)
   ·simp only [decide_eq_true_eq] at h3
    have hle : m ≤ lt.items.length := by omega
    refine ld_r (hE.stay s3).y (x := (.func (.yield l) #[] #[] : Value)) rfl ?_
    refine nd_item (ht.stay s3) (yield_x (hy (pre.length + (lt.items.length - m)) x W3 _ ?_ (hx _ _ _ i2 e3) (e3.ext_get r2) ?_))
    ·rw [hi, hti, List.drop_append_of_le_length hle, List.getElem?_append_right (by omega), List.append_assoc, List.getElem?_append_right (by rw [List.length_drop]; omega)]
     have : pre.length + (lt.items.length - m) - pre.length - (lt.items.drop m).length = 0 := by rw [List.length_drop]; omega
     rw [this]; rfl
    ·intro c W4 s4 ht4 hf4
     refine ⟨fun hc => ?_, fun hc => ?_⟩
     ·have hct : c = true := by simpa using hc
      obtain ⟨i4, r4⟩ := ht4 hct
      rw [if_pos hle]
      exact ⟨s3.trans s4, i4, r4⟩
     ·have hcf : c = false := by simpa using hc
      exact ⟨s3.trans s4, hf4 hcf⟩
   ·simp only [decide_eq_false_iff_not] at h3
    refine ⟨fun _ => ⟨s3, ?_, e3.ext_get r2⟩, fun h => by cases h⟩
    rw [if_neg (by omega)]; exact hx _ _ _ i2 e3
  rintro ⟨sb, _⟩ W4 ⟨hA, hB⟩
  refine sif_r (fun e => ?_) (fun e => ?_)
  ·obtain ⟨s4, hb4⟩ := hB e
   exact hK false W4 s4 (fun h => by cases h) (fun _ => hb4)
  obtain ⟨s4, i4, r4⟩ := hA e
  refine drew_r fun W5 e5 _ => ?_
  have s5 := s4.trans (Stay.ext e5)
  refine ld_r (hE.stay s5).f (x := (.func (.func 136) #[] #[.pointer (some (at0 b2)), .pointer (some (at0 b1))] : Value)) rfl ?_
  refine nd_right (ht.stay s5) (func_x (by kernel_rfl) ?_)
  have ew : (if IntKind.wrap .i64 (IntKind.wrap .i64 ((m : Int) - (lt.size : Int)) - 1) > 0 then IntKind.wrap .i64 (IntKind.wrap .i64 ((m : Int) - (lt.size : Int)) - 1) else 0) = ((m - lt.items.length - 1 : Nat) : Int) := by
   rw [wrap64 (a := (m : Int) - (lt.size : Int)) (by omega) (by omega), wrap64 (by omega) (by omega)]
   split <;> omega
  rw [ew]
  have fin : ∀ (pre' : List Pc), its = pre' ++ (rt.items.drop (m - lt.items.length - 1) ++ post) → pre'.length = pre.length + (lt.items.length - m) + (if m ≤ lt.items.length then 1 else 0) →
    callT Tryz.prog 136 #[.pointer rt.ptr, .int .i64 ((m - lt.items.length - 1 : Nat) : Int), .pointer (some (at0 b2)), .pointer (some (at0 b1))] (.one (.one .bool)) K W5 := by
   intro pre' hp hl
   refine ihr _ pre' post W5 K (ht.2.2.stay s5) (hE.stay s5) (e5.ext_get r4) hfr (by omega) hp (by rw [hl]; exact hx _ _ _ i4 e5) ?_
   intro c W6 s6 ht6 hf6
   refine hK c W6 (s5.trans s6) (fun hc => ?_) hf6
   have h6 := ht6 hc
   have el : pre'.length + (rt.items.length - (m - lt.items.length - 1)) = pre.length + ((Tr.node b lt x rt).items.length - m) := by
    rw [hl, hlen]; split <;> omega
   rw [el] at h6
   exact h6
  by_cases hle : m ≤ lt.items.length
  ·refine fin (pre ++ (lt.items.drop m ++ [x])) ?_ ?_
   ·rw [hi, hti, List.drop_append_of_le_length hle]
    have : m - lt.items.length - 1 = 0 := by omega
    rw [this]; simp
   ·rw [if_pos hle]; simp; omega
  ·refine fin pre ?_ ?_
   ·rw [hi, hti, List.drop_append]
    have e1 : lt.items.drop m = [] := List.drop_eq_nil_of_le (by omega)
    obtain ⟨q, hq⟩ : ∃ q, m - lt.items.length = q + 1 := ⟨m - lt.items.length - 1, by omega⟩
    rw [e1, hq]; simp
   ·rw [if_neg hle]; omega
theorem items_range {t : Tr} {n b1 b2 : Nat} {vals : Cells.T c93 × Unit → List Value} {body : Nat → (LoopState → Option Code → Loop) → (Bool → World → Prop) → Cells.T c93 × Unit → World → Prop} {aft' : Nat → Option Code → World → Prop}
  (hv : ∀ s, vals s = [.agg (Cells.vals c93 s.1).toArray]) (h1 : w.heap[b1]? = some (.cells #[.pointer t.ptr] 84 (0, 0))) (h2 : w.heap[b2]? = some (.cells #[.int .i64 (n : Int)] 3 (0, 0))) (ht : t.In w) (hf : Fine t.items) (hn : n < 2 ^ 61)
  (Inv : Nat → World → Prop) (Brk : Code → World → Prop) (h0 : ∀ W, Ext w W → w.heap.size + 2 ≤ W.heap.size → Inv 0 W) (hx : ∀ j W W', Inv j W → Ext W W' → Inv j W')
  (hb : ∀ (rc : LoopState → Option Code → Loop) j x R W, (t.items.drop n)[j]? = some x → Inv j W → W.heap[w.heap.size + 1]? = some (.loop (rc .ready none)) →
   (∀ W', Stay W W' → Inv (j + 1) W' → W'.heap[w.heap.size + 1]? = some (.loop (rc .ready none)) → R true W') → (∀ e W', Stay W W' → W'.heap[w.heap.size + 1]? = some (.loop (rc .done (some e))) → Brk e W' → R false W') → body (w.heap.size + 1) rc R (pcT x, ()) W)
  (he : ∀ W W', Inv (t.items.length - n) W → W'.heap[w.heap.size]? = some (.deferred (some [])) → Upd (fun k => k = w.heap.size + 1) W W' → aft' w.heap.size none W')
  (hk : ∀ e W W', Brk e W → W'.heap[w.heap.size]? = some (.deferred (some [])) → Upd (fun k => k = w.heap.size + 1) W W' → aft' w.heap.size (some e) W') :
  rangeE Tryz.prog vals (.func (.func 135) #[] #[.pointer (some (at0 b1)), .pointer (some (at0 b2))]) body aft' w := by
 intro rc hyield
 have e0 : Ext w (w.alloc (.deferred (some []))) := Ext.alloc w _
 generalize hW0 : w.alloc (.deferred (some [])) = W0 at *
 have d0 : W0.heap[w.heap.size]? = some (.deferred (some [])) := by rw [← hW0]; exact heap_alloc w _
 have z0 : W0.heap.size = w.heap.size + 1 := by rw [← hW0]; simp
 have e1 : Ext W0 (W0.alloc (.loop (rc .ready none))) := Ext.alloc W0 _
 have l1 : (W0.alloc (.loop (rc .ready none))).heap[w.heap.size + 1]? = some (.loop (rc .ready none)) := by rw [← z0]; exact heap_alloc W0 _
 have z1 : (W0.alloc (.loop (rc .ready none))).heap.size = w.heap.size + 2 := by simp [z0]
 generalize hW1 : W0.alloc (.loop (rc .ready none)) = W1 at *
 refine ⟨135, #[.func (.yield (w.heap.size + 1)) #[] #[], .pointer (some (at0 b1)), .pointer (some (at0 b2))], ?_, ?_⟩
 ·simp only [Deferred.ofValue, pure_bind, invoke]
  exact run_callFunc (P := Tryz.prog) (f := 135) (by kernel_rfl) W1
 have e01 := e0.trans e1
 refine F135_calls ?_
 unfold F135
 refine chk_r rfl ((St.start W1).newO fun c1 W2 S2 e2 => S2.newO fun c2 W3 S3 e3 => chk_r rfl (S3.stC 0 rfl (by decide) fun W4 S4 u4 => ?_))
 have e14 := S4.upd
 have hE : ItE (w.heap.size + 1) c1 c2 W4 := ⟨S4.at_ 1 rfl, S4.at_ 0 rfl⟩
 have ew4 := e01.trans e14
 refine S4.ld 0 rfl (x := (.func (.func 136) #[] #[.pointer (some (at0 c2)), .pointer (some (at0 c1))] : Value)) rfl (ld_r (ew4.ext_get h1) (x := t.ptr) rfl (ld_r (ew4.ext_get h2) (x := (n : Int)) rfl (func_x (by kernel_rfl) ?_)))
 have ew : (if (n : Int) > 0 then (n : Int) else 0) = (n : Int) := by split <;> omega
 rw [ew]
 refine items_walk (Inv := Inv) (Brk := fun W => ∃ e, W.heap[w.heap.size + 1]? = some (.loop (rc .done (some e))) ∧ Brk e W) (its := t.items.drop n) (rc := rc) hx ?_ t n [] [] W4 _ (ht.ext ew4) hE (e14.ext_get l1) hf hn (by simp) (h0 W4 ew4 (by have := e14.size; omega)) ?_
 ·intro j x W K hj hI hr hK
  have := hyield K (pcT x, ()) W hr (hb rc j x K W hj hI hr (fun W' s i r => hK true W' s (fun _ => ⟨i, r⟩) (fun h => by cases h)) (fun e W' s r b => hK false W' s (fun h => by cases h) (fun _ => ⟨e, r, b⟩)))
  rw [hv] at this
  exact this
 ·intro c W5 s5 ht5 hf5
  have d5 := s5.at_ _ _ (e14.ext_get (e1.ext_get d0)) rfl
  have fin : ∀ st pe, W5.heap[w.heap.size + 1]? = some (.loop (rc st pe)) → (W5.putObj (w.heap.size + 1) (.loop (rc .exhausted pe))).heap[w.heap.size]? = some (.deferred (some [])) ∧ Upd (fun k => k = w.heap.size + 1) W5 (W5.putObj (w.heap.size + 1) (.loop (rc .exhausted pe))) := by
   intro st pe h
   obtain ⟨u, _⟩ := upd_putObj (o' := .loop (rc .exhausted pe)) h
   exact ⟨u.get d5 (by omega), u⟩
  cases c with
  | true =>
   obtain ⟨i5, r5⟩ := ht5 rfl
   obtain ⟨d6, u6⟩ := fin _ _ r5
   refine ⟨.ready, none, r5, by decide, he W5 _ ?_ d6 u6⟩
   simpa using i5
  | false =>
   obtain ⟨e, r5, b5⟩ := hf5 rfl
   obtain ⟨d6, u6⟩ := fin _ _ r5
   exact ⟨.done, some e, r5, by decide, hk e W5 _ b5 d6 u6⟩
end
end Go.Proofs.YtolhlldgnfbemaaGreat
namespace Go.Proofs.YtolhlldgnfbemaaGreat
open Go Go.Vx Cdc
section
variable {w w' : World}
def lw (be : Bool) : Int := if be then 1 else 0
theorem unit_call {s : Sl} {be : Bool} {a b : UInt8} {r : Bs} (hB : By w s (a :: b :: r)) {K : Int → World → Prop} (hK : ∀ w', Ext w w' → K ((un be a b : Nat) : Int) w') :
  callT Tryz.prog 196 #[.agg #[.int .i64 (lw be)], .slice s.a s.len s.cap] (.one (.one (.int .i64))) K w := by
 refine F196_calls (a0 := (lw be, ())) ?_
 unfold F196
 have ha := a.toNat_lt
 have hb := b.toNat_lt
 refine newO_r fun b1 w1 e1 n1 _ _ => drew_r fun w2 e2 _ => ?_
 have n2 := e2.ext_get n1
 have hB2 : By w2 s (a :: b :: r) := hB.ext (e1.trans e2)
 refine ld_r n2 (x := lw be) rfl ?_
 have bits : ∀ x y : UInt8, IntKind.wrap .i64 ((BitVec.toNat (BitVec.ofInt (IntKind.bits .i64) (IntKind.wrap .i64 (x.toNat : Int)) ||| BitVec.ofInt (IntKind.bits .i64) (IntKind.wrap .i64 ((IntKind.wrap .i64 (y.toNat : Int)) * 2 ^ (min (Int.toNat (8 : Int)) (IntKind.bits .i64))))) : Nat) : Int) = ((x.toNat + y.toNat * 256 : Nat) : Int) := by
  intro x y
  have hx := x.toNat_lt
  have hy := y.toNat_lt
  have e : ((2 : Int) ^ (min (Int.toNat (8 : Int)) (IntKind.bits .i64))) = 2 ^ 8 := rfl
  rw [e, wrap64 (a := (x.toNat : Int)) (by omega) (by omega), wrap64 (a := (y.toNat : Int)) (by omega) (by omega), wrap64 (a := (y.toNat : Int) * 2 ^ 8) (by omega) (by omega)]
  have h := or_shift' (b := IntKind.bits .i64) (k := 8) (a := (y.toNat : Int)) (c := (x.toNat : Int)) (by omega) (by omega) (by omega) (by show _ < (2 : Int) ^ 64; omega)
  rw [h, wrap64 (by omega) (by omega)]
  omega
 cases be with
 | false =>
  have e0 : lw false = 0 := rfl
  have e1' : IntKind.wrap .i64 (1 - (0 : Int)) = 1 := by decide
  rw [e0] at n2 ⊢
  refine ix_by hB2 (by decide) (b := a) rfl fun p => ld_r n2 (x := (0 : Int)) rfl ?_
  rw [e1']
  refine ix_by hB2 (by decide) (b := b) rfl fun p => chk_r (by decide) ?_
  rw [bits]
  exact hK w2 (e1.trans e2)
 | true =>
  have e0 : lw true = 1 := rfl
  have e1' : IntKind.wrap .i64 (1 - (1 : Int)) = 0 := by decide
  rw [e0] at n2 ⊢
  refine ix_by hB2 (by decide) (b := b) rfl fun p => ld_r n2 (x := (1 : Int)) rfl ?_
  rw [e1']
  refine ix_by hB2 (by decide) (b := a) rfl fun p => chk_r (by decide) ?_
  rw [bits]
  exact hK w2 (e1.trans e2)
theorem high_call {u : Nat} (hu : u < 65536) {K : Bool → World → Prop} (hK : K (decide (u / 1024 = 54)) w) : callT Tryz.prog 197 #[.int .i64 (u : Int)] (.one (.one .bool)) K w := by
 refine F197_calls ?_
 unfold F197
 have h := and_hi (a := (u : Int)) (m := 1023) (by omega) (by omega) rfl
 have e : (((BitVec.toNat (BitVec.ofInt (IntKind.bits .i64) (u : Int) &&& ~~~(BitVec.ofInt (IntKind.bits .i64) (1023 : Int))) : Nat) : Int)) = (u : Int) / 1024 * 1024 := h
 rw [e, wrap64 (by omega) (by omega)]
 have : ((u : Int) / 1024 * 1024 == (55296 : Int)) = decide (u / 1024 = 54) := by
  rw [Bool.eq_iff_iff]; simp only [beq_iff_eq, decide_eq_true_eq]; omega
 rw [this]; exact hK
theorem low_call {u : Nat} (hu : u < 65536) {K : Bool → World → Prop} (hK : K (decide (u / 1024 = 55)) w) : callT Tryz.prog 198 #[.int .i64 (u : Int)] (.one (.one .bool)) K w := by
 refine F198_calls ?_
 unfold F198
 have h := and_hi (a := (u : Int)) (m := 1023) (by omega) (by omega) rfl
 have e : (((BitVec.toNat (BitVec.ofInt (IntKind.bits .i64) (u : Int) &&& ~~~(BitVec.ofInt (IntKind.bits .i64) (1023 : Int))) : Nat) : Int)) = (u : Int) / 1024 * 1024 := h
 rw [e, wrap64 (by omega) (by omega)]
 have : ((u : Int) / 1024 * 1024 == (56320 : Int)) = decide (u / 1024 = 55) := by
  rw [Bool.eq_iff_iff]; simp only [beq_iff_eq, decide_eq_true_eq]; omega
 rw [this]; exact hK
theorem un_lt (be : Bool) (a b : UInt8) : un be a b < 65536 := by
 have ha := a.toNat_lt
 have hb := b.toNat_lt
 unfold un; split <;> omega
theorem first16_call {s : Sl} {be : Bool} {b : UInt8} {r : Bs} (hB : By w s (b :: r)) {K : Int × Int × Unit → World → Prop} (hK : ∀ w', Ext w w' → K ((nx16 be (b :: r)).1, ((nx16 be (b :: r)).2 : Nat), ()) w') :
  callT Tryz.prog 191 #[.agg #[.int .i64 (lw be)], .slice s.a s.len s.cap] (.tup [(.one (.int .i64)), (.one (.int .i64))]) K w := by
 refine F191_calls (a0 := (lw be, ())) ?_
 unfold F191
 have hlen : r.length + 1 = s.len := hB.len
 have hcap := hB.le
 have hb := b.toNat_lt
 refine newO_r fun b1 w1 e1 n1 _ _ => ?_
 have hB1 : By w1 s (b :: r) := hB.ext e1
 cases r with
 | nil =>
  have hl : s.len = 1 := by simpa using hlen.symm
  refine sif_r (fun _ => ?_) (fun h => by simp [hl] at h)
  refine ix_by hB1 (by decide) (b := b) rfl fun p => ?_
  rw [wrap64 (a := (b.toNat : Int)) (by omega) (by omega), wrap64 (by omega) (by omega)]
  exact hK w1 e1
 | cons c r =>
  have hl2 : r.length + 2 = s.len := by simpa using hlen
  refine sif_r (fun h => ?_) (fun _ => ?_)
  ·simp only [beq_iff_eq] at h; omega
  refine lds_r n1 (x := (lw be, ())) (fun i v hv => by rw [Nat.zero_add, ← Array.getElem?_toList]; exact hv) (unit_call hB1 fun w2 e2 => ?_)
  have hB2 := hB1.ext e2
  have hu := un_lt be b c
  have n2 := e2.ext_get n1
  have short : ¬ (un be b c / 1024 = 54 ∧ ∃ d e r', r = d :: e :: r' ∧ un be d e / 1024 = 55) → nx16 be (b :: c :: r) = (((un be b c : Nat) : Int), 2) := by
   intro h
   simp only [nx16]
   split
   ·rename_i h1
    split
    ·rename_i d e r'
     split
     ·rename_i h2; exact absurd ⟨h1, d, e, r', rfl, h2⟩ h
     ·rfl
    ·rfl
   ·rfl
  refine join_r (fun _ w' => Ext w w' ∧ ¬ (un be b c / 1024 = 54 ∧ ∃ d e r', r = d :: e :: r' ∧ un be d e / 1024 = 55)) ?_ ?_
  ·refine join_r (fun x w' => x = (decide (un be b c / 1024 = 54 ∧ 4 ≤ s.len), ()) ∧ w2 = w') ?_ ?_
   ·refine high_call hu (sif_r (fun h => ?_) (fun h => ?_))
    ·simp only [decide_eq_true_eq] at h
     refine ⟨tupb ?_, rfl⟩
     simp only [decide_eq_true_eq]; omega
    ·simp only [decide_eq_false_iff_not] at h
     exact ⟨by rw [decide_eq_false (by omega)], rfl⟩
   ·rintro _ w' ⟨rfl, rfl⟩
    refine sif_r (fun h => ?_) (fun h => ?_)
    ·simp only [decide_eq_true_eq] at h
     obtain ⟨d, e, r', rfl⟩ : ∃ d e r', r = d :: e :: r' := by
      match r, hl2 with
      | [], hl2 => simp at hl2; omega
      | [_], hl2 => simp at hl2; omega
      | d :: e :: r', _ => exact ⟨d, e, r', rfl⟩
     refine drew_r fun w3 e3 _ => ?_
     have n3 := e3.ext_get n2
     have hB3 := hB2.ext e3
     refine lds_r n3 (x := (lw be, ())) (fun i v hv => by rw [Nat.zero_add, ← Array.getElem?_toList]; exact hv) ?_
     refine slc_by hB3 (by decide) (by omega) (by omega) (by omega) (by omega) fun s' hs' hl' _ => ?_
     have hR : ((b :: c :: d :: e :: r').drop (Int.toNat 2)).take (((s.len : Nat) : Int).toNat - Int.toNat 2) = d :: e :: r' := by
      have : ((s.len : Nat) : Int).toNat - Int.toNat 2 = (d :: e :: r').length := by simp at hl2 ⊢; omega
      rw [this]
      show (d :: e :: r').take _ = _
      rw [List.take_length]
     rw [hR] at hs'
     refine unit_call hs' fun w4 e4 => low_call (un_lt be d e) ?_
     have e04 := (e1.trans e2).trans (e3.trans e4)
     refine sif_r (fun h5 => chk_r (by decide) ?_) (fun h5 => ?_)
     ·simp only [decide_eq_true_eq] at h5
      have hv := un_lt be d e
      have g1 := and_lo (b := IntKind.bits .i64) (k := 10) (a := ((un be b c : Nat) : Int)) (m := 1023) (by omega) (by show _ < (2 : Int) ^ 64; omega) rfl (by decide)
      have g2 := and_lo (b := IntKind.bits .i64) (k := 10) (a := ((un be d e : Nat) : Int)) (m := 1023) (by omega) (by show _ < (2 : Int) ^ 64; omega) rfl (by decide)
      have ep : ((2 : Int) ^ (min (Int.toNat (10 : Int)) (IntKind.bits .i64))) = 2 ^ 10 := rfl
      rw [g1, g2, ep, wrap64 (a := ((un be b c : Nat) : Int) % 2 ^ 10) (by omega) (by omega), wrap64 (a := ((un be d e : Nat) : Int) % 2 ^ 10) (by omega) (by omega),
       wrap64 (a := ((un be b c : Nat) : Int) % 2 ^ 10 * 2 ^ 10) (by omega) (by omega), wrap64 (a := 65536 + ((un be b c : Nat) : Int) % 2 ^ 10 * 2 ^ 10) (by omega) (by omega), wrap64 (by omega) (by omega)]
      have := hK w4 e04
      simp only [nx16, if_pos h.1, if_pos h5] at this
      have e' : 65536 + ((un be b c : Nat) : Int) % 2 ^ 10 * 2 ^ 10 + ((un be d e : Nat) : Int) % 2 ^ 10 = 65536 + ((un be b c % 1024 * 1024 + un be d e % 1024 : Nat) : Int) := by omega
      rw [e']
      exact this
     ·simp only [decide_eq_false_iff_not] at h5
      refine ⟨e04, ?_⟩
      rintro ⟨_, d', e', r'', hr, h6⟩
      cases hr
      exact h5 h6
    ·simp only [decide_eq_false_iff_not] at h
     refine ⟨e1.trans e2, ?_⟩
     rintro ⟨h6, d', e', r'', rfl, _⟩
     simp at hl2
     omega
  ·rintro _ w' ⟨hw, hno⟩
   have := hK w' hw
   rw [short hno] at this
   exact this
theorem first1_call {s : Sl} {b : UInt8} {r : Bs} (hB : By w s (b :: r)) {K : Int × Int × Unit → World → Prop} (hK : ∀ w', Ext w w' → K ((nx1 (b :: r)).1, ((nx1 (b :: r)).2 : Nat), ()) w') :
  callT Tryz.prog 200 #[.agg #[], .slice s.a s.len s.cap] (.tup [(.one (.int .i64)), (.one (.int .i64))]) K w := by
 refine F200_calls (a0 := ()) ?_
 unfold F200
 have hb := b.toNat_lt
 refine newO_r fun _ w1 e1 _ _ _ => ?_
 have hB1 : By w1 s (b :: r) := hB.ext e1
 refine ix_by hB1 (by decide) (b := b) rfl fun p => ?_
 rw [wrap64 (by omega) (by omega)]
 exact hK w1 e1
def coder : Enc → Value
 | .u8 => .iface 146 (.agg #[])
 | .le => .iface 148 (.agg #[.int .i64 0])
 | .be => .iface 148 (.agg #[.int .i64 1])
 | .l1 => .iface 149 (.agg #[])
theorem of_call {e : Enc} {K : Value → World → Prop} (hK : K (coder e) w) : callT Tryz.prog 92 #[.int .i64 e.num] (.one (.one .any)) K w := by
 refine F92_calls ?_
 unfold F92
 cases e with
 | u8 => exact sif_r (fun _ => hK) (fun h => by cases h)
 | le => exact sif_r (fun h => by cases h) (fun _ => sif_r (fun _ => hK) (fun h => by cases h))
 | be => exact sif_r (fun h => by cases h) (fun _ => sif_r (fun h => by cases h) (fun _ => sif_r (fun _ => hK) (fun h => by cases h)))
 | l1 => exact sif_r (fun h => by cases h) (fun _ => sif_r (fun h => by cases h) (fun _ => sif_r (fun h => by cases h) (fun _ => sif_r (fun _ => hK) (fun h => by cases h))))
theorem coder_iface (e : Enc) : ∃ t v, coder e = .iface t v := by cases e <;> exact ⟨_, _, rfl⟩
theorem coder_ok (e : Enc) : methOk Tryz.prog (coder e) "copyist/codec.first" := by
 cases e
 ·exact ⟨_, _, rfl, fun w => by kernel_rfl⟩
 ·exact ⟨_, _, rfl, fun w => by kernel_rfl⟩
 ·exact ⟨_, _, rfl, fun w => by kernel_rfl⟩
 ·exact ⟨_, _, rfl, fun w => by kernel_rfl⟩
theorem first_x {e : Enc} {s : Sl} {l : Bs} (hB : By w s l) (hl : l ≠ []) {K : Int × Int × Unit → World → Prop} (hK : ∀ w', Ext w w' → K ((nx e l).1, ((nx e l).2 : Nat), ()) w') :
  callX Tryz.prog (invoke (.fn (.method "copyist/codec.first") #[]) (#[coder e] ++ #[.slice s.a s.len s.cap])) (.tup [(.one (.int .i64)), (.one (.int .i64))]) K w := by
 cases l with
 | nil => exact absurd rfl hl
 | cons b r =>
  cases e with
  | u8 => exact meth_x (f := 184) (v' := .agg #[]) (fun w => by kernel_rfl) (by kernel_rfl) (first8_call hB hK)
  | le => exact meth_x (f := 191) (v' := .agg #[.int .i64 (lw false)]) (fun w => by kernel_rfl) (by kernel_rfl) (first16_call hB hK)
  | be => exact meth_x (f := 191) (v' := .agg #[.int .i64 (lw true)]) (fun w => by kernel_rfl) (by kernel_rfl) (first16_call hB hK)
  | l1 => exact meth_x (f := 200) (v' := .agg #[]) (fun w => by kernel_rfl) (by kernel_rfl) (first1_call hB hK)
theorem next_call {e : Enc} {s : Sl} {l : Bs} (hB : By w s l) {n : Nat} (hn : n < l.length) {K : Int × Int × Unit → World → Prop} (hK : ∀ w', Ext w w' → K ((nx e (l.drop n)).1, ((nx e (l.drop n)).2 : Nat), ()) w') :
  callT Tryz.prog 53 #[.int .i64 e.num, .slice s.a s.len s.cap, .int .i64 (n : Int)] (.tup [(.one (.int .i64)), (.one (.int .i64))]) K w := by
 refine F53_calls ?_
 unfold F53
 have hlen := hB.len
 have hcap := hB.le
 refine of_call ?_
 refine join_r (fun x w' => x = (false, ()) ∧ w = w') ?_ ?_
 ·obtain ⟨t, v, hc⟩ := coder_iface e
  rw [hc]
  refine rdB_nil ?_ ⟨_, Tryz.underlying118⟩
  refine sif_r (fun h => by cases h) (fun _ => sif_r (fun h => ?_) (fun _ => ?_))
  ·simp only [decide_eq_true_eq] at h; omega
  ·exact ⟨by rw [decide_eq_false (by omega)], rfl⟩
 rintro _ w' ⟨rfl, rfl⟩
 refine sif_r (fun h => by cases h) (fun _ => drew_r fun w1 e1 _ => ?_)
 have hB1 := hB.ext e1
 refine slc_by hB1 (by omega) (by omega) (by omega) (by omega) (by omega) fun s' hs' hl' _ => chk_r (coder_ok e) ?_
 have hR : (l.drop (n : Int).toNat).take (((s.len : Nat) : Int).toNat - (n : Int).toNat) = l.drop n := by
  have : ((s.len : Nat) : Int).toNat - (n : Int).toNat = (l.drop n).length := by rw [List.length_drop]; omega
  rw [this, Int.toNat_natCast, List.take_length]
 rw [hR] at hs'
 refine first_x hs' (fun h => ?_) fun w2 e2 => hK w2 (e1.trans e2)
 have := congrArg List.length h
 rw [List.length_drop, List.length_nil] at this
 omega
end
section
variable {w w' : World}
theorem EBy : ElemOk Tryz.prog 22 5 1 1 := ElemOk.of (z := .int .u8 0) i22_ok i5_ok rfl rfl rfl (by decide)
theorem uBy : Tryz.prog.underlying 22 = some (.slice 5) := EBy.ts_
theorem size8_call {a : Int} {K : Int → World → Prop} (hK : ∀ w', Ext w w' → K ((sz8 a : Nat) : Int) w') : callT Tryz.prog 188 #[.agg #[], .int .i64 a] (.one (.one (.int .i64))) K w := by
 refine F188_calls (a0 := ()) ?_
 unfold F188
 refine newO_r fun _ w1 e1 _ _ _ => ?_
 refine join_r (fun x w' => x = (decide (a < -256 ∨ (-129 < a ∧ a < 0) ∨ 1114111 < a ∨ (55296 ≤ a ∧ a ≤ 57343)), ()) ∧ w1 = w') ?_ ?_
 ·repeat' refine sif_r (fun h => ?_) (fun h => ?_)
  all_goals simp only [decide_eq_true_eq, decide_eq_false_iff_not, gt_iff_lt, ge_iff_le] at *
  all_goals
   refine ⟨?_, trivial⟩
   first
    | (rw [decide_eq_true (by omega)]; done)
    | (rw [decide_eq_false (by omega)]; done)
    | (refine tupb ?_; simp only [decide_eq_true_eq]; omega)
 rintro _ w' ⟨rfl, rfl⟩
 replace hK := hK w1 e1
 unfold sz8 at hK
 refine sif_r (fun h => ?_) (fun h => ?_)
 ·simp only [decide_eq_true_eq] at h
  rw [if_pos h] at hK; exact hK
 ·simp only [decide_eq_false_iff_not] at h
  rw [if_neg h] at hK
  refine sif_r (fun h => ?_) (fun h => sif_r (fun h => ?_) (fun h => sif_r (fun h => ?_) (fun h => ?_)))
  all_goals simp only [decide_eq_true_eq, decide_eq_false_iff_not] at *
  ·rw [if_pos h] at hK; exact hK
  ·rw [if_neg (by omega), if_pos h] at hK; exact hK
  ·rw [if_neg (by omega), if_neg (by omega), if_pos h] at hK; exact hK
  ·rw [if_neg (by omega), if_neg (by omega), if_neg h] at hK; exact hK
theorem size16_call {be : Bool} {a : Int} {K : Int → World → Prop} (hK : ∀ w', Ext w w' → K ((sz16 a : Nat) : Int) w') : callT Tryz.prog 195 #[.agg #[.int .i64 (lw be)], .int .i64 a] (.one (.one (.int .i64))) K w := by
 refine F195_calls (a0 := (lw be, ())) ?_
 unfold F195
 refine newO_r fun _ w1 e1 _ _ _ => ?_
 refine join_r (fun x w' => x = (decide (a < -256 ∨ 1114111 < a), ()) ∧ w1 = w') ?_ ?_
 ·repeat' refine sif_r (fun h => ?_) (fun h => ?_)
  all_goals simp only [decide_eq_true_eq, decide_eq_false_iff_not, gt_iff_lt, ge_iff_le] at *
  all_goals
   refine ⟨?_, trivial⟩
   first
    | (rw [decide_eq_true (by omega)]; done)
    | (rw [decide_eq_false (by omega)]; done)
    | (refine tupb ?_; simp only [decide_eq_true_eq]; omega)
 rintro _ w' ⟨rfl, rfl⟩
 replace hK := hK w1 e1
 unfold sz16 at hK
 refine sif_r (fun h => ?_) (fun h => ?_)
 ·simp only [decide_eq_true_eq] at h
  rw [if_pos h] at hK; exact hK
 ·simp only [decide_eq_false_iff_not] at h
  rw [if_neg h] at hK
  refine sif_r (fun h => ?_) (fun h => sif_r (fun h => ?_) (fun h => ?_))
  all_goals simp only [decide_eq_true_eq, decide_eq_false_iff_not] at *
  ·rw [if_pos h] at hK; exact hK
  ·rw [if_neg (by omega), if_pos h] at hK; exact hK
  ·rw [if_neg (by omega), if_neg h] at hK; exact hK
theorem size1_call {a : Int} {K : Int → World → Prop} (hK : ∀ w', Ext w w' → K ((sz1 a : Nat) : Int) w') : callT Tryz.prog 204 #[.agg #[], .int .i64 a] (.one (.one (.int .i64))) K w := by
 refine F204_calls (a0 := ()) ?_
 unfold F204
 refine newO_r fun _ w1 e1 _ _ _ => ?_
 refine join_r (fun x w' => x = (decide (a < 0 ∨ 255 < a), ()) ∧ w1 = w') ?_ ?_
 ·repeat' refine sif_r (fun h => ?_) (fun h => ?_)
  all_goals simp only [decide_eq_true_eq, decide_eq_false_iff_not, gt_iff_lt, ge_iff_le] at *
  all_goals
   refine ⟨?_, trivial⟩
   first
    | (rw [decide_eq_true (by omega)]; done)
    | (rw [decide_eq_false (by omega)]; done)
    | (refine tupb ?_; simp only [decide_eq_true_eq]; omega)
 rintro _ w' ⟨rfl, rfl⟩
 replace hK := hK w1 e1
 unfold sz1 at hK
 refine sif_r (fun h => ?_) (fun h => ?_)
 ·simp only [decide_eq_true_eq] at h
  rw [if_pos h] at hK; exact hK
 ·simp only [decide_eq_false_iff_not] at h
  rw [if_neg h] at hK; exact hK
theorem size_x {e : Enc} {a : Int} {K : Int → World → Prop} (hK : ∀ w', Ext w w' → K ((sz e a : Nat) : Int) w') :
  callX Tryz.prog (invoke (.fn (.method "copyist/codec.size") #[]) (#[coder e] ++ #[.int .i64 a])) (.one (.one (.int .i64))) K w := by
 cases e with
 | u8 => exact meth_x (f := 188) (v' := .agg #[]) (fun w => by kernel_rfl) (by kernel_rfl) (size8_call hK)
 | le => exact meth_x (f := 195) (v' := .agg #[.int .i64 (lw false)]) (fun w => by kernel_rfl) (by kernel_rfl) (size16_call hK)
 | be => exact meth_x (f := 195) (v' := .agg #[.int .i64 (lw true)]) (fun w => by kernel_rfl) (by kernel_rfl) (size16_call hK)
 | l1 => exact meth_x (f := 204) (v' := .agg #[]) (fun w => by kernel_rfl) (by kernel_rfl) (size1_call hK)
theorem size_call {e : Enc} {a : Int} {K : Int → World → Prop} (hK : ∀ w', Ext w w' → K ((sz e a : Nat) : Int) w') : callT Tryz.prog 107 #[.int .i64 e.num, .int .i64 a] (.one (.one (.int .i64))) K w := by
 refine F107_calls ?_
 unfold F107
 refine of_call ?_
 have hx := size_x (w := w) (e := e) (a := a) hK
 obtain ⟨t, v, hc⟩ := coder_iface e
 rw [hc] at hx ⊢
 exact rdB_nil (sif_r (fun h => by cases h) fun _ => hx) ⟨_, Tryz.underlying118⟩
theorem app1 {B : Nat} {s : Sl} {l : Bs} {c : UInt8} {v : Int} {K : Sl → World → Prop} (hv : v = (c.toNat : Int)) (ho : SlOwn w B s 5 1 (bv l)) (hr : s.len < 2 ^ 44) (hB : B ≤ w.heap.size)
  (hK : ∀ s' w', SlOwn w' B s' 5 1 (bv (l ++ [c])) → s'.len = s.len + 1 → Upd s.blk w w' → (∀ k, s'.blk k → s.blk k ∨ w.heap.size ≤ k) → K s' w') :
  newO (.cells #[.int .u8 v] 5) (fun b => rawT Tryz.prog (.one (.one .sl)) (Builtin.append_ #[22, 22] 22 #[.slice s.a s.len s.cap, .slice (some (at0 b)) 1 1]) K) w := by
 subst hv
 refine newO_r fun b w1 e1 n1 _ _ => ?_
 refine append_r (x := ⟨some (at0 b), 1, 1⟩) EBy uBy (ho.ext e1) (SlIn.of_box (n := 1) (sz := 1) n1 rfl) (fun v hv => by simp at hv; subst hv; rfl) (by dsimp only; omega) (Nat.le_trans hB e1.size) fun s' w2 o2 hl u2 hb => ?_
 refine hK s' w2 ?_ hl ((Upd.of_ext e1).trans u2) fun k hk => (hb k hk).imp id (Nat.le_trans e1.size)
 simpa [bv] using o2
end
section
variable {w w' : World}
abbrev PutK (w : World) (B : Nat) (s : Sl) (l bs : Bs) (K : Sl → World → Prop) : Prop :=
 ∀ s' w', SlOwn w' B s' 5 1 (bv (l ++ bs)) → s'.len = s.len + bs.length → Upd s.blk w w' → (∀ k, s'.blk k → s.blk k ∨ w.heap.size ≤ k) → K s' w'
theorem PutK.then {B : Nat} {s s1 : Sl} {l b1 b2 : Bs} {w1 : World} {K : Sl → World → Prop} (hK : PutK w B s l (b1 ++ b2) K) (hl : s1.len = s.len + b1.length) (u : Upd s.blk w w1) (hb : ∀ k, s1.blk k → s.blk k ∨ w.heap.size ≤ k) :
  PutK w1 B s1 (l ++ b1) b2 K := fun s' w' ho hl' u' hb' =>
 hK s' w' (by rw [← List.append_assoc]; exact ho) (by rw [hl', hl, List.length_append]; omega) (u.new u' fun k hk h => (hb k h).resolve_right (by omega)) fun k hk => by
  rcases hb' k hk with h | h
  ·exact hb k h
  ·exact .inr (Nat.le_trans u.size h)
theorem PutK.ext {B : Nat} {s : Sl} {l bs : Bs} {w1 : World} {K : Sl → World → Prop} (hK : PutK w B s l bs K) (e : Ext w w1) : PutK w1 B s l bs K := fun s' w' ho hl' u' hb' =>
 hK s' w' ho hl' ((Upd.of_ext e).trans u') fun k hk => (hb' k hk).imp id (Nat.le_trans e.size)
theorem app1' {B : Nat} {s : Sl} {l : Bs} {c : UInt8} {v : Int} {K : Sl → World → Prop} (hv : v = (c.toNat : Int)) (ho : SlOwn w B s 5 1 (bv l)) (hr : s.len < 2 ^ 44) (hB : B ≤ w.heap.size) (hK : PutK w B s l [c] K) :
  newO (.cells #[.int .u8 v] 5) (fun b => rawT Tryz.prog (.one (.one .sl)) (Builtin.append_ #[22, 22] 22 #[.slice s.a s.len s.cap, .slice (some (at0 b)) 1 1]) K) w := app1 hv ho hr hB hK
theorem ofNat_nat (n : Nat) (h : n < 256) : ((UInt8.ofNat n).toNat : Int) = (n : Int) := by
 rw [UInt8.toNat_ofNat']; omega
theorem cont_put (a j : Nat) (hj : j ≤ 2) : IntKind.wrap .u8 ((BitVec.toNat (BitVec.ofInt (IntKind.bits .u8) (128 : Int) ||| BitVec.ofInt (IntKind.bits .u8) (IntKind.wrap .u8 ((BitVec.toNat (BitVec.ofInt (IntKind.bits .u8) (IntKind.wrap .u8 (Int.fdiv (a : Int) (2 ^ (min (Int.toNat (IntKind.wrap .i64 ((6 : Int) * (j : Int)))) (IntKind.bits .i64))))) &&& BitVec.ofInt (IntKind.bits .u8) (63 : Int)) : Nat) : Int))) : Nat) : Int) = ((UInt8.ofNat (128 + a / 64 ^ j % 64)).toNat : Int) := by
 have e : ((2 : Int) ^ (min (Int.toNat (IntKind.wrap .i64 ((6 : Int) * (j : Int)))) (IntKind.bits .i64))) = ((64 ^ j : Nat) : Int) := by
  match j, hj with
  | 0, _ => decide
  | 1, _ => decide
  | 2, _ => decide
 rw [e, Int.fdiv_eq_ediv_of_nonneg _ (Int.natCast_nonneg _), ← Int.natCast_ediv]
 generalize a / 64 ^ j = q
 rw [wrap8m (a := (q : Int))]
 have h1 := and_lo (b := IntKind.bits .u8) (k := 6) (a := (q : Int) % 256) (m := 63) (by omega) (by show _ < (2 : Int) ^ 8; omega) rfl (by decide)
 rw [h1, wrap8 (a := (q : Int) % 256 % 2 ^ 6) (by omega) (by omega)]
 have h2 := or_shift (b := IntKind.bits .u8) (k := 6) (a := 2) (c := (q : Int) % 256 % 2 ^ 6) (by omega) (by omega) (by omega) (by show _ < (2 : Int) ^ 8; omega)
 have e2 : (2 : Int) * 2 ^ 6 = 128 := by decide
 rw [e2] at h2
 rw [h2, wrap8 (by omega) (by omega), ofNat_nat _ (by omega)]
 omega
theorem head_put (a n : Nat) (hn : n = sz8 a) (h2 : 2 ≤ n) : ∃ x : Int, ([(0 : Int), 0, 192, 224, 240])[n]? = some x ∧ IntKind.wrap .u8 ((BitVec.toNat (BitVec.ofInt (IntKind.bits .u8) x ||| BitVec.ofInt (IntKind.bits .u8) (IntKind.wrap .u8 (Int.fdiv (a : Int) (2 ^ (min (Int.toNat (IntKind.wrap .i64 ((6 : Int) * (IntKind.wrap .i64 ((n : Int) - (1 : Int)))))) (IntKind.bits .i64)))))) : Nat) : Int) = ((UInt8.ofNat (mk8 n + a / 64 ^ (n - 1))).toNat : Int) := by
 have go : ∀ (k : Nat) (q m : Int), 0 ≤ q → q < 2 ^ k → 0 ≤ m → m * 2 ^ k + q < 256 → IntKind.wrap .u8 ((BitVec.toNat (BitVec.ofInt (IntKind.bits .u8) (m * 2 ^ k) ||| BitVec.ofInt (IntKind.bits .u8) (IntKind.wrap .u8 q)) : Nat) : Int) = m * 2 ^ k + q := by
  intro k q m h0 h1 hm h3
  have hp : (0 : Int) ≤ m * 2 ^ k := Int.mul_nonneg hm (Int.le_of_lt (Int.pow_pos (by decide)))
  rw [wrap8 (a := q) h0 (by omega), or_shift (b := IntKind.bits .u8) hm h0 h1 h3, wrap8 (by omega) h3]
 unfold sz8 at hn
 split at hn
 ·omega
 split at hn
 ·omega
 split at hn
 ·subst hn
  refine ⟨192, rfl, ?_⟩
  have e : ((2 : Int) ^ (min (Int.toNat (IntKind.wrap .i64 ((6 : Int) * (IntKind.wrap .i64 (((2 : Nat) : Int) - (1 : Int)))))) (IntKind.bits .i64))) = ((64 : Nat) : Int) := by decide
  rw [e, Int.fdiv_eq_ediv_of_nonneg _ (by omega)]
  have := go 5 ((a : Int) / ((64 : Nat) : Int)) 6 (by omega) (by omega) (by omega) (by omega)
  have e2 : (6 : Int) * 2 ^ 5 = 192 := by decide
  rw [e2] at this
  rw [this]
  have e3 : mk8 2 + a / 64 ^ (2 - 1) = 192 + a / 64 := rfl
  rw [e3, ofNat_nat _ (by omega)]
  omega
 split at hn
 ·subst hn
  refine ⟨224, rfl, ?_⟩
  have e : ((2 : Int) ^ (min (Int.toNat (IntKind.wrap .i64 ((6 : Int) * (IntKind.wrap .i64 (((3 : Nat) : Int) - (1 : Int)))))) (IntKind.bits .i64))) = ((4096 : Nat) : Int) := by decide
  rw [e, Int.fdiv_eq_ediv_of_nonneg _ (by omega)]
  have := go 4 ((a : Int) / ((4096 : Nat) : Int)) 14 (by omega) (by omega) (by omega) (by omega)
  have e2 : (14 : Int) * 2 ^ 4 = 224 := by decide
  rw [e2] at this
  rw [this]
  have e3 : mk8 3 + a / 64 ^ (3 - 1) = 224 + a / 4096 := rfl
  rw [e3, ofNat_nat _ (by omega)]
  omega
 ·subst hn
  refine ⟨240, rfl, ?_⟩
  have e : ((2 : Int) ^ (min (Int.toNat (IntKind.wrap .i64 ((6 : Int) * (IntKind.wrap .i64 (((4 : Nat) : Int) - (1 : Int)))))) (IntKind.bits .i64))) = ((262144 : Nat) : Int) := by decide
  rw [e, Int.fdiv_eq_ediv_of_nonneg _ (by omega)]
  have := go 3 ((a : Int) / ((262144 : Nat) : Int)) 30 (by omega) (by omega) (by omega) (by omega)
  have e2 : (30 : Int) * 2 ^ 3 = 240 := by decide
  rw [e2] at this
  rw [this]
  have e3 : mk8 4 + a / 64 ^ (4 - 1) = 240 + a / 262144 := rfl
  rw [e3, ofNat_nat _ (by omega)]
  omega
theorem cts_get : ∀ (m a k : Nat), k < m → (cts m a)[k]? = some (UInt8.ofNat (128 + a / 64 ^ (m - 1 - k) % 64))
 | 0, _, k, h => absurd h (by omega)
 | m + 1, a, 0, _ => rfl
 | m + 1, a, k + 1, h => by
  have e : m + 1 - 1 - (k + 1) = m - 1 - k := by omega
  rw [e]
  exact cts_get m a k (by omega)
theorem put8_call {B : Nat} {s : Sl} {l : Bs} {a : Int} {K : Sl → World → Prop} (hf : sz8 a ≠ 0) (ho : SlOwn w B s 5 1 (bv l)) (hr : s.len < 2 ^ 43) (hB : B ≤ w.heap.size) (hK : PutK w B s l (pt8 a) K) :
  callT Tryz.prog 187 #[.agg #[], .slice s.a s.len s.cap, .int .i64 a] (.one (.one .sl)) K w := by
 refine F187_calls (a0 := ()) ?_
 unfold F187
 refine newO_r fun b1 w1 e1 n1 _ _ => ?_
 refine lds_r n1 (x := ()) (fun i v hv => by cases hv) (size8_call fun w2 e2 => ?_)
 have e12 := e1.trans e2
 have ho2 := ho.ext e12
 have hB2 := Nat.le_trans hB e12.size
 have hK2 := hK.ext e12
 have hrng : -256 ≤ a ∧ (a ≤ -129 ∨ 0 ≤ a) ∧ a ≤ 1114111 := by
  simp only [sz8] at hf
  split at hf
  ·exact absurd rfl hf
  ·omega
 unfold pt8 at hK2
 refine sif_r (fun h => ?_) (fun h => ?_)
 ·simp only [decide_eq_true_eq] at h
  rw [if_pos h] at hK2
  refine app1' ?_ ho2 (by omega) hB2 hK2
  rw [wrap64 (by omega) (by omega), wrap8 (by omega) (by omega), ofNat_nat _ (by omega)]
  omega
 simp only [decide_eq_false_iff_not] at h
 rw [if_neg h] at hK2
 obtain ⟨n, rfl⟩ := Int.eq_ofNat_of_zero_le (Int.not_lt.1 h)
 refine sif_r (fun h1 => ?_) (fun h1 => ?_)
 ·simp only [beq_iff_eq] at h1
  have h1' : sz8 (n : Int) = 1 := by omega
  rw [if_pos h1'] at hK2
  refine app1' ?_ ho2 (by omega) hB2 hK2
  have : (n : Int) < 128 := by
   simp only [sz8] at h1'
   repeat' split at h1'
   all_goals first | omega | (cases h1')
  rw [wrap8 (by omega) (by omega), ofNat_nat _ (by omega)]
  omega
 simp only [beq_eq_false_iff_ne] at h1
 have h1' : sz8 (n : Int) ≠ 1 := by omega
 rw [if_neg h1'] at hK2
 have h4 : sz8 (n : Int) ≤ 4 := by unfold sz8; (repeat' split) <;> omega
 obtain ⟨x, hx, hhead⟩ := head_put n _ rfl (by omega)
 generalize hm : sz8 (n : Int) = m at *
 simp only [Int.toNat_natCast] at hK2
 refine (St.start w2).newAgg rfl rfl rfl fun b2 w3 S3 e3 => S3.drew fun w4 S4 e4 _ => ?_
 have e24 := e3.trans e4
 have eix : ((at0 b2).add (scaled (Int.toNat ((m : Nat) : Int)) 1)) = ⟨b2, m, none⟩ := by rw [Int.toNat_natCast, addr_add]; simp [scaled_eq]
 have hm24 : m = 2 ∨ m = 3 ∨ m = 4 := by omega
 have hw1 : IntKind.wrap .i64 (((m : Nat) : Int) - 1) = ((m - 1 : Nat) : Int) := by rw [wrap64 (by omega) (by omega)]; omega
 refine chk_r ⟨by omega, by omega⟩ ?_
 rw [eix]
 refine ld_r (S4.at_ 0 rfl) (x := x) ?_ (chk_r ?_ ?_)
 ·rcases hm24 with rfl | rfl | rfl <;> (cases hx; rfl)
 ·rw [hw1, wrap64 (by omega) (by omega)]; omega
 have ho4 := ho2.ext e24
 have hK4 := hK2.ext e24
 have hB4 := Nat.le_trans hB2 e24.size
 refine app1' hhead ho4 (by omega) hB4 fun s5 w5 o5 hl5 u5 hb5 => ?_
 have hK5 := PutK.then (b1 := [_]) hK4 hl5 u5 hb5
 have hB5 := Nat.le_trans hB4 u5.size
 have hcl := cts_len (m - 1) n
 have hl5' : s5.len = s.len + 1 := hl5
 refine join_r (fun x w' => K x.1 w') ?_ (fun _ _ h => h)
 refine sloop_r (fun x w' => ∃ k, k ≤ m - 1 ∧ x.2.1 = ((m : Nat) : Int) - 2 - (k : Int) ∧ x.1.len = s5.len + k ∧ B ≤ w'.heap.size ∧ SlOwn w' B x.1 5 1 (bv ((l ++ [UInt8.ofNat (mk8 m + n / 64 ^ (m - 1))]) ++ (cts (m - 1) n).take k)) ∧
  PutK w' B x.1 ((l ++ [UInt8.ofNat (mk8 m + n / 64 ^ (m - 1))]) ++ (cts (m - 1) n).take k) ((cts (m - 1) n).drop k) K) (fun x _ => (x.2.1 + 1).toNat) ⟨0, Nat.zero_le _, ?_, rfl, hB5, ?_, ?_⟩ ?_
 ·show IntKind.wrap .i64 (((m : Nat) : Int) - 2) = _
  rw [wrap64 (by omega) (by omega)]; omega
 ·simpa using o5
 ·simpa using hK5
 rintro ⟨s6, i, ⟨⟩⟩ w6 ⟨k, hk, hi, hl6, hB6, o6, hK6⟩
 dsimp only at hi hl6 o6 hK6 ⊢
 refine sif_r (fun h => ?_) (fun h => ?_)
 ·simp only [decide_eq_true_eq, ge_iff_le] at h
  have hkm : k < m - 1 := by omega
  obtain ⟨j, hj⟩ : ∃ j : Nat, j = m - 2 - k := ⟨_, rfl⟩
  have hij : i = (j : Int) := by omega
  rw [hij]
  have hj2 : j ≤ 2 := by omega
  refine chk_r ?_ ?_
  ·rw [wrap64 (by omega) (by omega)]; omega
  have hg := cts_get (m - 1) n k hkm
  have ej : m - 1 - 1 - k = j := by omega
  rw [ej] at hg
  have hdr : (cts (m - 1) n).drop k = UInt8.ofNat (128 + n / 64 ^ j % 64) :: (cts (m - 1) n).drop (k + 1) := by
   have hlt : k < (cts (m - 1) n).length := by omega
   rw [List.drop_eq_getElem_cons hlt]
   rw [List.getElem?_eq_getElem hlt] at hg
   rw [Option.some.inj hg]
  rw [hdr] at hK6
  have htk : (cts (m - 1) n).take (k + 1) = (cts (m - 1) n).take k ++ [UInt8.ofNat (128 + n / 64 ^ j % 64)] := by
   rw [List.take_add_one, hg]; rfl
  refine app1' (cont_put n j hj2) o6 (by omega) hB6 fun s7 w7 o7 hl7 u7 hb7 => ?_
  have hK7 := PutK.then (b1 := [_]) (b2 := (cts (m - 1) n).drop (k + 1)) hK6 hl7 u7 hb7
  rw [List.append_assoc, ← htk] at hK7 o7
  have hl7' : s7.len = s6.len + 1 := hl7
  have hwi : IntKind.wrap .i64 ((j : Int) - 1) = (j : Int) - 1 := wrap64 (by omega) (by omega)
  rw [hwi]
  exact ⟨⟨k + 1, by omega, by omega, by omega, Nat.le_trans hB6 u7.size, o7, hK7⟩, by omega⟩
 ·simp only [decide_eq_false_iff_not, ge_iff_le] at h
  have hkm : k = m - 1 := by omega
  have : (cts (m - 1) n).drop k = [] := List.drop_eq_nil_of_le (by omega)
  rw [this] at hK6
  exact hK6 s6 w6 (by simpa using o6) rfl (Upd.refl _ _) fun k hk => .inl hk
theorem half_call {B : Nat} {s : Sl} {l : Bs} {be : Bool} {u : Nat} {K : Sl → World → Prop} (hu : u < 65536) (ho : SlOwn w B s 5 1 (bv l)) (hr : s.len < 2 ^ 43) (hB : B ≤ w.heap.size) (hK : PutK w B s l (uni be u) K) :
  callT Tryz.prog 199 #[.agg #[.int .i64 (lw be)], .slice s.a s.len s.cap, .int .i64 (u : Int)] (.one (.one .sl)) K w := by
 refine F199_calls (a0 := (lw be, ())) ?_
 unfold F199
 refine (St.start w).newO fun b1 w1 S1 e1 => S1.newO fun b2 w2 S2 e2 => S2.drew fun w3 S3 e3 _ => ?_
 refine S3.ld 1 rfl (x := lw be) rfl (S3.ld 1 rfl (x := lw be) rfl (chk_r (by decide) ?_))
 have e13 := (e1.trans e2).trans e3
 have hsh : IntKind.wrap .u8 (Int.fdiv (u : Int) (2 ^ (min (Int.toNat (8 : Int)) (IntKind.bits .i64)))) = ((UInt8.ofNat (u / 256)).toNat : Int) := by
  have e : ((2 : Int) ^ (min (Int.toNat (8 : Int)) (IntKind.bits .i64))) = 256 := by decide
  rw [e, Int.fdiv_eq_ediv_of_nonneg _ (by decide), wrap8m, ofNat_nat _ (by omega)]
  omega
 have hlo : IntKind.wrap .u8 (u : Int) = ((UInt8.ofNat u).toNat : Int) := by
  rw [wrap8m, UInt8.toNat_ofNat']; omega
 rw [hsh, hlo]
 have fin : ∀ (x y : UInt8) (w5 : World), Ext w w5 → uni be u = [x, y] → w5.heap[b2]? = some (.cells #[.int .u8 (x.toNat : Int), .int .u8 (y.toNat : Int)] 190 (0, 0)) →
   slc (some (at0 b2)) 0 ((2 : Nat) : Int) ((2 : Nat) : Int) 2 1 (fun x5 => rawT Tryz.prog (.one (.one .sl)) (Builtin.append_ #[22, 22] 22 #[(.slice s.a s.len s.cap), (.slice x5.a x5.len x5.cap)]) K) w5 := by
  intro x y w5 e5 hxy n5
  refine slc_r (s := ⟨some (at0 b2), 2, 2⟩) (SlIn.of_box (n := 2) (sz := 1) n5 rfl) (by decide) (by decide) (Int.le_refl _) (Int.le_refl _) (Int.le_refl _) fun s6 h6 hl6 _ _ => ?_
  have hl6' : s6.len = 2 := hl6
  refine append_r EBy uBy (ho.ext e5) h6 (fun v hv => ?_) (by omega) (Nat.le_trans hB e5.size) fun s7 w7 o7 hl7 u7 hb7 => ?_
  ·have hv' := List.mem_of_mem_drop (List.mem_of_mem_take hv)
   simp at hv'
   rcases hv' with rfl | rfl <;> rfl
  ·have hK5 := hK.ext e5
   rw [hxy] at hK5
   refine hK5 s7 w7 ?_ (by rw [hl7, hl6']; rfl) u7 hb7
   simpa [bv] using o7
 cases be with
 | false =>
  have e0 : lw false = 0 := rfl
  rw [e0] at S3 ⊢
  have ew : IntKind.wrap .i64 ((1 : Int) - 0) = 1 := by decide
  rw [ew]
  refine chk_r (by decide) ?_
  have a0 : ((at0 b2).add (scaled (Int.toNat (0 : Int)) 1)) = ⟨b2, 0, none⟩ := by rw [addr_add]; rfl
  have a1 : ((at0 b2).add (scaled (Int.toNat (1 : Int)) 1)) = ⟨b2, 1, none⟩ := by rw [addr_add]; rfl
  rw [a0, a1]
  refine S3.stC 0 (off := 0) rfl (by decide) fun w4 S4 u4 => S4.keep 1 rfl rfl (chk_r (by decide) (S4.stC 0 (off := 1) rfl (by simp) fun w5 S5 u5 => ?_))
  exact fin _ _ w5 S5.upd rfl (S5.at_ 0 rfl)
 | true =>
  have e0 : lw true = 1 := rfl
  rw [e0] at S3 ⊢
  have ew : IntKind.wrap .i64 ((1 : Int) - 1) = 0 := by decide
  rw [ew]
  refine chk_r (by decide) ?_
  have a0 : ((at0 b2).add (scaled (Int.toNat (0 : Int)) 1)) = ⟨b2, 0, none⟩ := by rw [addr_add]; rfl
  have a1 : ((at0 b2).add (scaled (Int.toNat (1 : Int)) 1)) = ⟨b2, 1, none⟩ := by rw [addr_add]; rfl
  rw [a0, a1]
  refine S3.stC 0 (off := 1) rfl (by decide) fun w4 S4 u4 => S4.keep 1 rfl rfl (chk_r (by decide) (S4.stC 0 (off := 0) rfl (by simp) fun w5 S5 u5 => ?_))
  exact fin _ _ w5 S5.upd rfl (S5.at_ 0 rfl)
theorem neg_byte {a : Int} (h : a < 0) (h2 : -256 ≤ a) : IntKind.wrap .u8 (IntKind.wrap .i64 ((-1 : Int) - a)) = ((UInt8.ofNat (-1 - a).toNat).toNat : Int) := by
 rw [wrap64 (by omega) (by omega), wrap8 (by omega) (by omega), ofNat_nat _ (by omega)]
 omega
theorem put16_call {B : Nat} {s : Sl} {l : Bs} {be : Bool} {a : Int} {K : Sl → World → Prop} (hf : sz16 a ≠ 0) (ho : SlOwn w B s 5 1 (bv l)) (hr : s.len < 2 ^ 42) (hB : B ≤ w.heap.size) (hK : PutK w B s l (pt16 be a) K) :
  callT Tryz.prog 194 #[.agg #[.int .i64 (lw be)], .slice s.a s.len s.cap, .int .i64 a] (.one (.one .sl)) K w := by
 refine F194_calls (a0 := (lw be, ())) ?_
 unfold F194
 have hrng : -256 ≤ a ∧ a ≤ 1114111 := by
  simp only [sz16] at hf
  split at hf
  ·exact absurd rfl hf
  ·omega
 refine (St.start w).newO fun b1 w1 S1 e1 => ?_
 unfold pt16 at hK
 refine sif_r (fun h => ?_) (fun h => ?_)
 ·simp only [decide_eq_true_eq] at h
  rw [if_pos h] at hK
  exact app1' (neg_byte h hrng.1) (ho.ext e1) (by omega) (Nat.le_trans hB e1.size) (hK.ext e1)
 simp only [decide_eq_false_iff_not] at h
 rw [if_neg h] at hK
 obtain ⟨n, rfl⟩ := Int.eq_ofNat_of_zero_le (Int.not_lt.1 h)
 rw [Int.toNat_natCast] at hK
 refine sif_r (fun h1 => ?_) (fun h1 => ?_)
 ·simp only [decide_eq_true_eq] at h1
  rw [if_pos h1] at hK
  exact S1.lds 0 (lw be, ()) rfl (half_call (by omega) (ho.ext e1) (by omega) (Nat.le_trans hB e1.size) (hK.ext e1))
 simp only [decide_eq_false_iff_not] at h1
 rw [if_neg h1] at hK
 refine S1.drew fun w2 S2 e2 _ => S2.lds 0 (lw be, ()) rfl (S2.lds 0 (lw be, ()) rfl (chk_r (by decide) ?_))
 have e12 := e1.trans e2
 have b1e : IntKind.wrap .i64 ((BitVec.toNat (BitVec.ofInt (IntKind.bits .i64) (55296 : Int) ||| BitVec.ofInt (IntKind.bits .i64) (Int.fdiv (IntKind.wrap .i64 ((n : Int) - (65536 : Int))) (2 ^ (min (Int.toNat (10 : Int)) (IntKind.bits .i64))))) : Nat) : Int) = ((55296 + (n - 65536) / 1024 : Nat) : Int) := by
  have e : ((2 : Int) ^ (min (Int.toNat (10 : Int)) (IntKind.bits .i64))) = 1024 := by decide
  rw [e, wrap64 (a := (n : Int) - 65536) (by omega) (by omega), Int.fdiv_eq_ediv_of_nonneg _ (by decide)]
  have h2 := or_shift (b := IntKind.bits .i64) (k := 10) (a := 54) (c := ((n : Int) - 65536) / 1024) (by omega) (by omega) (by omega) (by show _ < (2 : Int) ^ 64; omega)
  have e2 : (54 : Int) * 2 ^ 10 = 55296 := by decide
  rw [e2] at h2
  rw [h2, wrap64 (by omega) (by omega)]
  omega
 have b2e : IntKind.wrap .i64 ((BitVec.toNat (BitVec.ofInt (IntKind.bits .i64) (56320 : Int) ||| BitVec.ofInt (IntKind.bits .i64) (IntKind.wrap .i64 ((BitVec.toNat (BitVec.ofInt (IntKind.bits .i64) (n : Int) &&& BitVec.ofInt (IntKind.bits .i64) (1023 : Int)) : Nat) : Int))) : Nat) : Int) = ((56320 + n % 1024 : Nat) : Int) := by
  have g1 := and_lo (b := IntKind.bits .i64) (k := 10) (a := (n : Int)) (m := 1023) (by omega) (by show _ < (2 : Int) ^ 64; omega) rfl (by decide)
  rw [g1, wrap64 (a := (n : Int) % 2 ^ 10) (by omega) (by omega)]
  have h2 := or_shift (b := IntKind.bits .i64) (k := 10) (a := 55) (c := (n : Int) % 2 ^ 10) (by omega) (by omega) (by omega) (by show _ < (2 : Int) ^ 64; omega)
  have e2 : (55 : Int) * 2 ^ 10 = 56320 := by decide
  rw [e2] at h2
  rw [h2, wrap64 (by omega) (by omega)]
  omega
 rw [b1e, b2e]
 have n2 := S2.at_ 0 rfl
 have hbo : B ≤ b1 ∨ True := .inr trivial
 refine half_call (by omega) (ho.ext e12) (by omega) (Nat.le_trans hB e12.size) fun s3 w3 o3 hl3 u3 hb3 => ?_
 have hnb : ¬ s.blk b1 := fun hk => by
  have := (ho.ext e12).in.blk_cells hk
  obtain ⟨c, fr, hc⟩ := this
  rw [n2] at hc; cases hc
 refine keep_r (cellsAt_of _ 0 fun j v hj => ?_) ?_
 ·rw [Nat.zero_add]
  exact cell_of (u3.get n2 hnb) (by rw [Nat.zero_add, ← Array.getElem?_toList]; exact hj)
 ·have hl3' : s3.len = s.len + 2 := by rw [hl3, uni_len]
  exact half_call (by omega) o3 (by omega) (Nat.le_trans (Nat.le_trans hB e12.size) u3.size) (PutK.then (hK.ext e12) hl3 u3 hb3)
theorem put1_call {B : Nat} {s : Sl} {l : Bs} {a : Int} {K : Sl → World → Prop} (hf : sz1 a ≠ 0) (ho : SlOwn w B s 5 1 (bv l)) (hr : s.len < 2 ^ 42) (hB : B ≤ w.heap.size) (hK : PutK w B s l (pt1 a) K) :
  callT Tryz.prog 203 #[.agg #[], .slice s.a s.len s.cap, .int .i64 a] (.one (.one .sl)) K w := by
 refine F203_calls (a0 := ()) ?_
 unfold F203
 have hrng : 0 ≤ a ∧ a ≤ 255 := by
  simp only [sz1] at hf
  split at hf
  ·exact absurd rfl hf
  ·omega
 refine newO_r fun b1 w1 e1 _ _ _ => app1' ?_ (ho.ext e1) (by omega) (Nat.le_trans hB e1.size) (hK.ext e1)
 rw [wrap8 (by omega) (by omega), ofNat_nat _ (by omega)]
 omega
theorem put_x {B : Nat} {s : Sl} {l : Bs} {e : Enc} {a : Int} {K : Sl → World → Prop} (hf : sz e a ≠ 0) (ho : SlOwn w B s 5 1 (bv l)) (hr : s.len < 2 ^ 42) (hB : B ≤ w.heap.size) (hK : PutK w B s l (pt e a) K) :
  callX Tryz.prog (invoke (.fn (.method "copyist/codec.put") #[]) (#[coder e] ++ #[.slice s.a s.len s.cap, .int .i64 a])) (.one (.one .sl)) K w := by
 cases e with
 | u8 => exact meth_x2 (f := 187) (v' := .agg #[]) (fun w => by kernel_rfl) (by kernel_rfl) (put8_call hf ho (by omega) hB hK)
 | le => exact meth_x2 (f := 194) (v' := .agg #[.int .i64 (lw false)]) (fun w => by kernel_rfl) (by kernel_rfl) (put16_call hf ho hr hB hK)
 | be => exact meth_x2 (f := 194) (v' := .agg #[.int .i64 (lw true)]) (fun w => by kernel_rfl) (by kernel_rfl) (put16_call hf ho hr hB hK)
 | l1 => exact meth_x2 (f := 203) (v' := .agg #[]) (fun w => by kernel_rfl) (by kernel_rfl) (put1_call hf ho hr hB hK)
theorem enc1_call {s : Sl} {t : TypeId} {e : Enc} {a : Int} {K : Sl × Int × Int × Unit → World → Prop} (hf : sz e a ≠ 0) (hs : SlIn w s t 1 [.int .i64 a])
  (hK : ∀ s' w', SlOwn w' w.heap.size s' 5 1 (bv (pt e a)) → Ext w w' → K (s', 0, 0, ()) w') :
  callT Tryz.prog 146 #[.int .i64 e.num, .slice s.a s.len s.cap] (.tup [(.one .sl), (.one (.int .i64)), (.one (.int .i64))]) K w := by
 refine F146_calls ?_
 unfold F146
 have hlen : s.len = 1 := by have := hs.len1; simpa using this.symm
 have hs' : SlIn w s t 1 ([a].map (Cell.int .i64).val) := hs
 refine of_call ?_
 have put : ∀ {w1 : World} {o : Sl} {K : Sl → World → Prop}, Ext w w1 → o = ⟨none, 0, 0⟩ → PutK w1 w.heap.size o [] (pt e a) K → callX Tryz.prog (invoke (.fn (.method "copyist/codec.put") #[]) (#[coder e] ++ #[.slice o.a o.len o.cap, .int .i64 a])) (.one (.one .sl)) K w1 := by
  rintro w1 o K e1 rfl hK
  exact put_x hf (SlOwn.nil _ _ _ _) (by show (0 : Nat) < 2 ^ 42; decide) e1.size hK
 have size : ∀ {w : World} {K : Int → World → Prop}, (∀ w', Ext w w' → K ((sz e a : Nat) : Int) w') → callX Tryz.prog (invoke (.fn (.method "copyist/codec.size") #[]) (#[coder e] ++ #[.int .i64 a])) (.one (.one (.int .i64))) K w := fun h => size_x h
 obtain ⟨ty, v, hc⟩ := coder_iface e
 rw [hc] at put size ⊢
 refine rdB_nil (sif_r (fun h => by cases h) fun _ => ?_) ⟨_, Tryz.underlying118⟩
 refine join_r (fun x w' => SlOwn w' w.heap.size x.1 5 1 (bv (pt e a)) ∧ Ext w w') ?_ fun x w' h => hK _ _ h.1 h.2
 refine sloop_r (fun x w' => (x = (⟨none, 0, 0⟩, 0, ()) ∧ w = w') ∨ (x.2.1 = 1 ∧ SlOwn w' w.heap.size x.1 5 1 (bv (pt e a)) ∧ Ext w w')) (fun x _ => (1 - x.2.1).toNat) (.inl ⟨rfl, rfl⟩) ?_
 rintro x w' (⟨rfl, rfl⟩ | ⟨hx, ho, hE⟩)
 ·refine sif_r (fun _ => ?_) (fun h => ?_)
  ·refine ix_ld hs' (by decide) (x := a) rfl fun p => size fun w1 e1 => sif_r (fun h => ?_) (fun _ => ?_)
   ·simp only [beq_iff_eq] at h; omega
   ·refine put e1 rfl fun s2 w2 o2 _ u2 _ => ⟨.inr ⟨by show IntKind.wrap .i64 (0 + 1) = 1; decide, by simpa using o2, e1.trans (u2.mono fun k _ hk => ?_)⟩, by show (1 - IntKind.wrap .i64 (0 + 1)).toNat < ((1 : Int) - 0).toNat; decide⟩
    obtain ⟨p, hp, _⟩ := hk
    cases hp
  ·simp only [decide_eq_false_iff_not] at h; omega
 ·refine sif_r (fun h => ?_) (fun _ => ⟨ho, hE⟩)
  simp only [decide_eq_true_eq] at h; omega
end
end Go.Proofs.YtolhlldgnfbemaaGreat
namespace Go.Proofs.YtolhlldgnfbemaaGreat
open Go Go.Vx Cdc Trx
section
variable {w w' : World} {S : Nat → Prop}
theorem single_call {a : Int} {n : Nat} {K : Cells.T c91 → World → Prop} (hK : ∀ w', Ext w w' → K (smT (one1 a n)) w') :
  callT Tryz.prog 94 #[.int .i64 a, .int .i64 (n : Int)] (.one (.agg c91)) K w := by
 refine F94_calls ?_
 unfold F94
 refine (St.start w).newO fun b1 w1 S1 e1 => S1.newO fun b2 w2 S2 e2 => S2.aggSt 0 rfl rfl rfl rfl fun w3 S3 u3 => ?_
 let z1 : Nat × Obj := (b1, .cells #[(.int .i64 (0 : Int)), (.int .i64 (0 : Int)), (.int .i64 (0 : Int)), (.bool false), (.bool false)] 91 (0, 0))
 refine join_r (fun _ w' => St (fun _ => False) w w' [(b2, .cells (Cells.vals c91 (smT (one1 a n))).toArray 91 (0, 0)), z1]) ?_ ?_
 ·refine join_r (fun x w' => x = ((a == 10 || a == 13), ()) ∧ w3 = w') (S3.ld 0 rfl (x := (a == 10)) rfl (sif_r (fun h => ⟨by rw [h]; rfl, rfl⟩) (fun h => S3.ld 0 rfl (x := (a == 13)) rfl ⟨by rw [h]; rfl, rfl⟩))) ?_
  rintro _ w' ⟨rfl, rfl⟩
  have e0 : (one1 a n).breaks = if (a == 10 || a == 13) = true then 1 else 0 := by
   show (if a = 10 ∨ a = 13 then 1 else 0) = _
   simp
  refine sif_r (fun h => S3.stC 0 rfl (by show 2 < 5; decide) fun w4 S4 u4 => ?_) (fun h => ?_)
  ·have : smT (one1 a n) = ((1 : Int), (n : Int), (1 : Int), (a == 10), (a == 13), ()) := by
    unfold smT; rw [e0, if_pos h]; rfl
   rw [this]; exact S4
  ·have : smT (one1 a n) = ((1 : Int), (n : Int), (0 : Int), (a == 10), (a == 13), ()) := by
    unfold smT
    have h' : (a == 10 || a == 13) = false := h
    rw [e0, h']; rfl
   rw [this]; exact S3
 ·intro _ w5 S5
  exact S5.lds 0 (smT (one1 a n)) rfl (S5.aggSt 1 rfl rfl rfl rfl fun w6 S6 u6 => S6.lds 1 (smT (one1 a n)) rfl (hK w6 S6.upd))
def mkPc (e : Enc) (s : Sl) (tag : Int) (l : Bs) : Pc := ⟨s, tag, msr (ats e l)⟩
theorem newpart_call {e : Enc} {s : Sl} {l : Bs} {tag : Int} (hB : By w s l) (hl : l.length < 2 ^ 59) {K : Cells.T c93 → World → Prop} (hK : ∀ w', Ext w w' → K (pcT (mkPc e s tag l)) w') :
  callT Tryz.prog 54 #[.int .i64 e.num, .slice s.a s.len s.cap, .int .i64 tag] (.one (.agg c93)) K w := by
 refine F54_calls ?_
 unfold F54
 have hlen := hB.len
 let z1 : Nat × Obj := (0, .cells #[(.slice none 0 0), (.int .i64 (0 : Int)), (.int .i64 (0 : Int)), (.int .i64 (0 : Int)), (.int .i64 (0 : Int)), (.bool false), (.bool false)] 93 (0, 0))
 refine (St.start w).newO fun b1 w1 S1 e1 => S1.newO fun b2 w2 S2 e2 => S2.aggSt 0 rfl rfl rfl rfl fun w3 S3 u3 => ?_
 refine join_r (fun _ w' => St (fun _ => False) w w' [(b2, .cells (Cells.vals c93 (pcT (mkPc e s tag l))).toArray 93 (0, 0)), (b1, z1.2)]) ?_ ?_
 ·refine sloop_r (fun x w' => ∃ j, x = ((szs ((ats e l).take j) : Int), ()) ∧ St (fun _ => False) w w' [(b2, .cells (Cells.vals c93 (pcT ⟨s, tag, msr ((ats e l).take j)⟩)).toArray 93 (0, 0)), (b1, z1.2)]) (fun x _ => ((l.length : Int) - x.1).toNat) ⟨0, rfl, S3⟩ ?_
  rintro _ w5 ⟨j, rfl, S5⟩
  have okj := msr_ok ((ats_posd e l).take j)
  have byj := msr_bytes ((ats_posd e l).take j)
  refine sif_r (fun h => ?_) (fun h => ?_)
  ·simp only [decide_eq_true_eq] at h
   obtain ⟨a, n, ha, hn, ht, hs, h1, hle⟩ := pos_step (e := e) (l := l) (j := j) (by omega)
   refine next_call (hB.ext S5.upd) (by omega) fun w6 e6 => ?_
   rw [hn]
   have S6 := S5.ext e6
   refine S6.drew fun w7 S7 e7 _ => ?_
   have h7 : ∀ {W : World} {t : Nat}, St (fun _ => False) w W [(b2, .cells (Cells.vals c93 (pcT ⟨s, tag, msr ((ats e l).take j)⟩)).toArray 93 (0, 0)), (b1, z1.2)] → ∀ i v, (Cells.vals c91 (smT (msr ((ats e l).take j))))[i]? = some v → ((Cells.vals c93 (pcT ⟨s, tag, msr ((ats e l).take j)⟩)).toArray)[2 + i]? = some v := by
    intro W t _ i v hv
    match i, hv with
    | 0, hv => exact hv
    | 1, hv => exact hv
    | 2, hv => exact hv
    | 3, hv => exact hv
    | 4, hv => exact hv
    | i + 5, hv => cases hv
   refine lds_r (S7.at_ 0 rfl) (x := smT (msr ((ats e l).take j))) (h7 (t := 0) S7) (single_call fun w8 e8 => ?_)
   have S8 := S7.ext e8
   refine keep_r ?_ (add_call okj (one1_ok a h1) (by rw [byj]; show szs ((ats e l).take j) + n < 2 ^ 60; omega) fun w9 e9 => ?_)
   ·exact cellsAt_of _ 0 fun i v hv => cell_of (S8.at_ 0 rfl) (by rw [Nat.zero_add]; exact h7 (t := 0) S8 i v hv)
   have S9 := S8.ext e9
   rw [← msr_snoc ((ats_posd e l).take j) h1, ← ht]
   refine S9.aggAt 0 rfl rfl rfl (by show 2 + 5 ≤ 7; decide) fun w10 S10 => ?_
   have ew : IntKind.wrap .i64 ((szs ((ats e l).take j) : Int) + (n : Int)) = ((szs ((ats e l).take (j + 1)) : Nat) : Int) := by
    rw [wrap64 (by omega) (by omega)]; omega
   refine ⟨⟨j + 1, by dsimp only; rw [ew], S10⟩, ?_⟩
   dsimp only
   rw [ew]; omega
  ·simp only [decide_eq_false_iff_not] at h
   rw [pos_end (e := e) (l := l) (j := j) (by omega)] at S5
   exact S5
 ·intro _ w5 S5
  exact S5.lds 0 (pcT (mkPc e s tag l)) rfl (S5.aggSt 1 rfl rfl rfl rfl fun w6 S6 u6 => S6.lds 1 (pcT (mkPc e s tag l)) rfl (hK w6 S6.upd))
end
section
variable {w w' : World} {S : Nat → Prop}
def top (s : Sl) : Nat := match s.a with | some p => p.off + s.len | none => 0
theorem cut_blk {s : Sl} {l h m : Int} {k : Nat} (hk : (Sl.cut s.a l h m 1).blk k) : s.blk k := by
 obtain ⟨p, hp, rfl⟩ := hk
 have hp : (if m.toNat = l.toNat then s.a else s.a.map (·.add (scaled l.toNat 1))) = some p := hp
 split at hp
 ·exact ⟨p, hp, rfl⟩
 ·cases ha : s.a with
  | none => rw [ha] at hp; cases hp
  | some q =>
   rw [ha] at hp; cases hp
   exact ⟨q, ha, by unfold Addr.add; split <;> rfl⟩
theorem By.at0 {s : Sl} {l : Bs} (h : By w s l) {p : Addr} (hp : s.a = some p) : p.spot = none := by
 rcases h.at_ with ⟨hn, _⟩ | ⟨b, off, c, fr, ha, _⟩
 ·rw [hn] at hp; cases hp
 ·rw [ha] at hp; cases hp; rfl
theorem cut_top {s : Sl} {b : Bs} (hB : By w s b) {l h m : Int} (h0 : 0 ≤ l) (h1 : l ≤ h) (h2 : h ≤ s.len) : top (Sl.cut s.a l h m 1) ≤ top s := by
 unfold top
 show (match (if m.toNat = l.toNat then s.a else s.a.map (·.add (scaled l.toNat 1))) with | some p => p.off + (h.toNat - l.toNat) | none => 0) ≤ _
 cases ha : s.a with
 | none => split <;> simp_all
 | some q =>
  have hs := hB.at0 ha
  split
  ·rename_i p hp
   split at hp
   ·cases hp
    show q.off + (h.toNat - l.toNat) ≤ q.off + s.len
    omega
   ·simp only [Option.map_some, Option.some.injEq] at hp
    subst hp
    obtain ⟨qb, qo, qs⟩ := q
    simp only at hs
    subst hs
    rw [scaled_eq, addr_add]
    show qo + l.toNat * 1 + (h.toNat - l.toNat) ≤ qo + s.len
    omega
  ·exact Nat.zero_le _
theorem By.cut {s : Sl} {b : Bs} (hB : By w s b) {l h m : Int} (h0 : 0 ≤ l) (h1 : l ≤ h) (h2 : h ≤ s.len) (h3 : h ≤ m) (h4 : m ≤ s.cap) : By w (Sl.cut s.a l h m 1) ((b.drop l.toNat).take (h.toNat - l.toNat)) := by
 have := slc_by (K := fun s' w' => By w s' ((b.drop l.toNat).take (h.toNat - l.toNat))) hB h0 h1 h2 h3 h4 fun s' h _ _ => h
 obtain ⟨_, _, h⟩ := this
 exact h
def cutAt (e : Enc) (b : Bs) (n : Nat) : Nat := szs ((ats e b).take n)
theorem cutAt_le (e : Enc) (b : Bs) (n : Nat) : cutAt e b n ≤ b.length := pos_le n
def headPc (e : Enc) (x : Pc) (b : Bs) (n : Nat) : Pc := mkPc e (Sl.cut x.bytes.a 0 (cutAt e b n : Int) (cutAt e b n : Int) 1) x.tag (b.take (cutAt e b n))
def restTag (t : Int) (n : Nat) : Int := if 0 ≤ t then t + n else t
def restPc (e : Enc) (x : Pc) (b : Bs) (n : Nat) : Pc := mkPc e (Sl.cut x.bytes.a (cutAt e b n : Int) (x.bytes.len : Int) (x.bytes.cap : Int) 1) (restTag x.tag (cutAt e b n)) (b.drop (cutAt e b n))
theorem pcut_call {e : Enc} {x : Pc} {b : Bs} {n : Nat} (hB : By w x.bytes b) (hl : b.length < 2 ^ 59) (ht : -1 ≤ x.tag ∧ x.tag < 2 ^ 59) (hn : n < 2 ^ 62) {K : Cells.T c93 × Cells.T c93 × Unit → World → Prop}
  (hK : ∀ w', Ext w w' → K (pcT (headPc e x b n), pcT (restPc e x b n), ()) w') :
  callT Tryz.prog 109 #[pcV x, .int .i64 e.num, .int .i64 (n : Int)] (.tup [(.agg c93), (.agg c93)]) K w := by
 refine F109_calls (a0 := pcT x) ?_
 unfold F109
 have hlen := hB.len
 have hcap := hB.le
 let z : Obj := .cells #[(.slice none 0 0), (.int .i64 (0 : Int)), (.int .i64 (0 : Int)), (.int .i64 (0 : Int)), (.int .i64 (0 : Int)), (.bool false), (.bool false)] 93 (0, 0)
 let q : Obj := .cells (Cells.vals c93 (pcT x)).toArray 93 (0, 0)
 refine (St.start w).newO fun b1 w1 S1 e1 => S1.newO fun b2 w2 S2 e2 => S2.newO fun b3 w3 S3 e3 => ?_
 have hcl := cutAt_le e b n
 refine join_r (fun s w' => s = ((cutAt e b n : Int), ()) ∧ St (fun _ => False) w w' [(b3, z), (b2, z), (b1, q)]) ?_ ?_
 ·refine sloop_r (fun s w' => ∃ j, j ≤ n ∧ s = (((n - j : Nat) : Int), (szs ((ats e b).take j) : Int), ()) ∧ St (fun _ => False) w w' [(b3, z), (b2, z), (b1, q)]) (fun s _ => s.1.toNat) ⟨0, Nat.zero_le _, rfl, S3⟩ ?_
  rintro _ w5 ⟨j, hj, rfl, S5⟩
  refine join_r (fun s w' => s = (decide (j < n) && decide (szs ((ats e b).take j) < b.length), ()) ∧ w5 = w') ?_ ?_
  ·refine sif_r (fun h => S5.ld 2 rfl (x := x.bytes) rfl ⟨tupb ?_, rfl⟩) (fun h => ⟨tupb ?_, rfl⟩)
   ·simp only [decide_eq_true_eq, gt_iff_lt, Bool.and_eq_true] at h ⊢; omega
   ·simp only [decide_eq_false_iff_not, gt_iff_lt, Bool.and_eq_true, decide_eq_true_eq] at h ⊢
    constructor
    ·intro h; cases h
    ·intro h; omega
  rintro _ w6 ⟨rfl, rfl⟩
  refine sif_r (fun h => ?_) (fun h => ?_)
  ·simp only [Bool.and_eq_true, decide_eq_true_eq] at h
   obtain ⟨a, m, ha, hm, htk, hs, h1, hle⟩ := pos_step (e := e) (l := b) (j := j) h.2
   refine S5.ld 2 rfl (x := x.bytes) rfl (next_call (hB.ext S5.upd) h.2 fun w7 e7 => ?_)
   rw [hm]
   have ew : IntKind.wrap .i64 ((szs ((ats e b).take j) : Int) + (m : Int)) = ((szs ((ats e b).take (j + 1)) : Nat) : Int) := by
    rw [wrap64 (by omega) (by omega)]; omega
   have ew2 : IntKind.wrap .i64 (((n - j : Nat) : Int) - 1) = ((n - (j + 1) : Nat) : Int) := by
    rw [wrap64 (by omega) (by omega)]; omega
   refine ⟨⟨j + 1, by omega, by dsimp only; rw [ew, ew2], S5.ext e7⟩, ?_⟩
   dsimp only
   rw [ew2]; omega
  ·refine ⟨?_, S5⟩
   have : szs ((ats e b).take j) = cutAt e b n := by
    unfold cutAt
    by_cases hjn : j < n
    ·have hnl : ¬ szs ((ats e b).take j) < b.length := fun hc => by simp [hjn, hc] at h
     have h1 := pos_end hnl
     have h2 : (ats e b).take n = ats e b := by
      refine List.take_of_length_le ?_
      have : (ats e b).length ≤ j := by
       have := congrArg List.length h1
       rw [List.length_take] at this; omega
      omega
     rw [h1, h2]
    ·have : j = n := by omega
     rw [this]
   rw [this]
 ·rintro _ w5 ⟨rfl, S5⟩
  refine S5.ld 2 rfl (x := x.tag) rfl ?_
  refine join_r (fun s w' => s = (restTag x.tag (cutAt e b n), ()) ∧ w5 = w') ?_ ?_
  ·unfold restTag
   refine sif_r (fun h => ⟨?_, rfl⟩) (fun h => ⟨?_, rfl⟩)
   ·simp only [decide_eq_true_eq, ge_iff_le] at h
    rw [if_pos h, wrap64 (by omega) (by omega)]
   ·simp only [decide_eq_false_iff_not, ge_iff_le] at h
    rw [if_neg h]
  rintro _ w6 ⟨rfl, rfl⟩
  refine S5.drew fun w7 S7 e7 _ => S7.ld 2 rfl (x := x.bytes) rfl ?_
  have hB7 : By w7 x.bytes b := hB.ext S7.upd
  have c1 := hB7.cut (l := 0) (h := (cutAt e b n : Int)) (m := (cutAt e b n : Int)) (by omega) (by omega) (by omega) (by omega) (by omega)
  have c2 := hB7.cut (l := (cutAt e b n : Int)) (h := (x.bytes.len : Int)) (m := (x.bytes.cap : Int)) (by omega) (by omega) (by omega) (by omega) (by omega)
  have d1 : (b.drop (0 : Int).toNat).take ((cutAt e b n : Int).toNat - (0 : Int).toNat) = b.take (cutAt e b n) := by simp
  have d2 : (b.drop (cutAt e b n : Int).toNat).take ((x.bytes.len : Int).toNat - (cutAt e b n : Int).toNat) = b.drop (cutAt e b n) := by
   rw [Int.toNat_natCast, Int.toNat_natCast]
   exact List.take_of_length_le (by rw [List.length_drop]; omega)
  rw [d1] at c1
  rw [d2] at c2
  refine chk_r (by omega) (S7.ld 2 rfl (x := x.tag) rfl (S7.ld 2 rfl (x := x.bytes) rfl (chk_r (by omega) ?_)))
  refine newpart_call c1 (by rw [List.length_take]; omega) fun w8 e8 => ?_
  have S8 := S7.ext e8
  refine S8.keep 2 rfl (v := .slice x.bytes.a x.bytes.len x.bytes.cap) rfl ?_
  refine newpart_call (c2.ext e8) (by rw [List.length_drop]; omega) fun w9 e9 => ?_
  have S9 := S8.ext e9
  exact S9.aggSt 1 rfl rfl rfl rfl fun w10 S10 u10 => S10.aggSt 0 rfl rfl rfl rfl fun w11 S11 u11 => S11.lds 1 (pcT (headPc e x b n)) rfl (S11.lds 0 (pcT (restPc e x b n)) rfl (hK w11 S11.upd))
end
section
variable {w w' : World} {S : Nat → Prop}
abbrev Parts := List (Int × Bs)
def aOf (e : Enc) (M : Parts) : As := M.flatMap fun x => ats e x.2
theorem aOf_cons (e : Enc) (x : Int × Bs) (M : Parts) : aOf e (x :: M) = ats e x.2 ++ aOf e M := rfl
theorem aOf_app (e : Enc) (M N : Parts) : aOf e (M ++ N) = aOf e M ++ aOf e N := by simp [aOf]
theorem aOf_posd (e : Enc) (M : Parts) : Posd (aOf e M) := fun x hx => by
 obtain ⟨y, _, hy⟩ := List.mem_flatMap.1 hx
 exact ats_posd e _ x hy
structure PcIn (w : World) (e : Enc) (x : Pc) (y : Int × Bs) : Prop where
 by_ : By w x.bytes y.2
 sm : x.sm = msr (ats e y.2)
 tag : x.tag = y.1
 ne : y.2 ≠ []
 lo : -1 ≤ y.1
 hi : y.1 + y.2.length ≤ 2 ^ 40
def Its (w : World) (e : Enc) : List Pc → Parts → Prop
 | [], [] => True
 | x :: l, y :: M => PcIn w e x y ∧ Its w e l M
 | _, _ => False
theorem PcIn.upd {e : Enc} {x : Pc} {y : Int × Bs} (h : PcIn w e x y) (u : Upd S w w') (hS : ∀ k, x.bytes.blk k → ¬ S k) : PcIn w' e x y := ⟨h.by_.upd u hS, h.sm, h.tag, h.ne, h.lo, h.hi⟩
theorem Its.upd {e : Enc} : ∀ {l : List Pc} {M : Parts}, Its w e l M → Upd S w w' → (∀ x ∈ l, ∀ k, x.bytes.blk k → ¬ S k) → Its w' e l M
 | [], [], _, _, _ => trivial
 | x :: l, y :: M, h, u, hS => ⟨h.1.upd u (hS x List.mem_cons_self), h.2.upd u fun z hz => hS z (List.mem_cons_of_mem _ hz)⟩
theorem Its.ext {e : Enc} {l : List Pc} {M : Parts} (h : Its w e l M) (x : Ext w w') : Its w' e l M := h.upd x fun _ _ _ _ => id
theorem Its.len {e : Enc} : ∀ {l : List Pc} {M : Parts}, Its w e l M → l.length = M.length
 | [], [], _ => rfl
 | x :: l, y :: M, h => by simp [h.2.len]
theorem Its.app {e : Enc} : ∀ {l : List Pc} {M : Parts} {l' : List Pc} {M' : Parts}, Its w e l M → Its w e l' M' → Its w e (l ++ l') (M ++ M')
 | [], [], _, _, _, h => h
 | x :: l, y :: M, _, _, h, h' => ⟨h.1, h.2.app h'⟩
theorem Its.take {e : Enc} : ∀ {l : List Pc} {M : Parts} (n : Nat), Its w e l M → Its w e (l.take n) (M.take n)
 | [], [], n, _ => by simp [Its]
 | x :: l, y :: M, 0, _ => trivial
 | x :: l, y :: M, n + 1, h => ⟨h.1, h.2.take n⟩
theorem Its.drop {e : Enc} : ∀ {l : List Pc} {M : Parts} (n : Nat), Its w e l M → Its w e (l.drop n) (M.drop n)
 | [], [], n, _ => by simp [Its]
 | x :: l, y :: M, 0, h => h
 | x :: l, y :: M, n + 1, h => h.2.drop n
theorem Its.get {e : Enc} : ∀ {l : List Pc} {M : Parts} (n : Nat) {x : Pc}, Its w e l M → l[n]? = some x → ∃ y, M[n]? = some y ∧ PcIn w e x y
 | x :: l, y :: M, 0, z, h, hz => ⟨y, rfl, by cases hz; exact h.1⟩
 | x :: l, y :: M, n + 1, z, h, hz => h.2.get n (by simpa using hz)
theorem Its.ok {e : Enc} : ∀ {l : List Pc} {M : Parts}, Its w e l M → AllOk l
 | [], [], _ => fun _ h => by cases h
 | x :: l, y :: M, h => AllOk.cons (by rw [h.1.sm]; exact msr_ok (ats_posd e _)) h.2.ok
theorem Its.tot {e : Enc} : ∀ {l : List Pc} {M : Parts}, Its w e l M → tot l = msr (aOf e M)
 | [], [], _ => rfl
 | x :: l, y :: M, h => by
  show x.sm.add (Trx.tot l) = _
  rw [h.1.sm, h.2.tot, aOf_cons, msr_append (ats_posd e _) (aOf_posd e M)]
theorem Its.fine {e : Enc} {l : List Pc} {M : Parts} (h : Its w e l M) (hs : szs (aOf e M) < 2 ^ 59) : Fine l := by
 refine ⟨h.ok, ?_, by rw [h.tot, msr_bytes (aOf_posd e M)]; omega⟩
 have key : ∀ (l : List Pc) (M : Parts), Its w e l M → l.length ≤ szs (aOf e M) := by
  intro l
  induction l with
  | nil => intro M _; simp
  | cons x l ih =>
   intro M h
   cases M with
   | nil => exact h.elim
   | cons y M =>
    have h1 := ih M h.2
    have h2 := szs_all e y.2
    have h3 := List.length_pos_iff.2 h.1.ne
    rw [aOf_cons, szs_append, List.length_cons]; omega
 have := key l M h
 omega
structure Txt (w : World) (p : Nat) (e : Enc) (lim na : Nat) (O : Nat → Prop) (M : Parts) : Prop where
 ex : ∃ (t : Tr) (a : Sl) (ab : Bs), w.heap[p]? = some (.cells #[.int .i64 e.num, .int .i64 (lim : Int), .pointer t.ptr, .slice a.a a.len a.cap] 86 (0, 0)) ∧ t.In w ∧ Its w e t.items M ∧ SlOwn w 0 a 5 1 (bv ab) ∧
  (∀ x ∈ t.items, ∀ k, x.bytes.blk k → a.blk k → top x.bytes ≤ top a) ∧ (∀ x ∈ t.items, ∀ k, x.bytes.blk k → O k) ∧ (∀ k, a.blk k → O k) ∧ a.len ≤ na
 lims : lim ≤ 65536
 sz : szs (aOf e M) ≤ 1048576
 op : O p
 own : ∀ k, O k → k < w.heap.size
variable {p : Nat} {e : Enc} {lim na : Nat} {O : Nat → Prop} {M : Parts}
theorem Txt.upd (h : Txt w p e lim na O M) (u : Upd S w w') (hS : ∀ k, O k → ¬ S k) (hN : NoTy w S 139) : Txt w' p e lim na O M := by
 obtain ⟨t, a, ab, h1, h2, h3, h4, h5, h6, h7, h8⟩ := h.ex
 exact ⟨⟨t, a, ab, u.get h1 (hS p h.op), h2.ty u hN, h3.upd u fun x hx k hk => hS k (h6 x hx k hk), h4.upd u fun k _ hk => hS k (h7 k hk), h5, h6, h7, h8⟩, h.lims, h.sz, h.op, fun k hk => Nat.lt_of_lt_of_le (h.own k hk) u.size⟩
theorem Txt.ext (h : Txt w p e lim na O M) (x : Ext w w') : Txt w' p e lim na O M := h.upd x (fun _ _ => id) fun _ hk => hk.elim
theorem szs_ge : ∀ {l : As}, Posd l → l.length ≤ szs l
 | [], _ => Nat.zero_le _
 | x :: r, h => by rw [szs_cons, List.length_cons]; have := szs_ge h.tail; have := h x List.mem_cons_self; omega
theorem Txt.few (h : Txt w p e lim na O M) : (aOf e M).length ≤ 1048576 := Nat.le_trans (szs_ge (aOf_posd e M)) h.sz
theorem Txt.tree2 (h : Txt w p e lim na O M) : ∃ t : Tr, t.In w ∧ Its w e t.items M ∧ Fine t.items ∧ (∀ {w'} {K : Addr → Cells.T c84 → World → Prop}, Ext w w' → K (at0 p) (t.ptr, ()) w' → nn (some (at0 p)) (fun q => lds c84 (q.add 2) (K q)) w') ∧ ∀ x ∈ t.items, ∀ k, x.bytes.blk k → O k := by
 obtain ⟨t, a, ab, h1, h2, h3, _, _, h6, _⟩ := h.ex
 refine ⟨t, h2, h3, h3.fine (by have := h.sz; have := h.lims; omega), fun {w'} {K} x hK => nn_some ?_, h6⟩
 rw [addr_add]
 refine lds_r (x.ext_get h1) (x := (t.ptr, ())) (fun i v hv => ?_) hK
 match i, hv with
 | 0, hv => exact hv
 | i + 1, hv => cases hv
theorem Txt.tree (h : Txt w p e lim na O M) : ∃ t : Tr, t.In w ∧ Its w e t.items M ∧ Fine t.items ∧ ∀ {w'} {K : Addr → Cells.T c84 → World → Prop}, Ext w w' → K (at0 p) (t.ptr, ()) w' → nn (some (at0 p)) (fun q => lds c84 (q.add 2) (K q)) w' := by
 obtain ⟨t, h1, h2, h3, h4, _⟩ := h.tree2
 exact ⟨t, h1, h2, h3, h4⟩
theorem Txt.enc (h : Txt w p e lim na O M) {K : Addr → Int → World → Prop} (hK : K (at0 p) e.num w) : nn (some (at0 p)) (fun q => ld (.int .i64) q (K q)) w := by
 obtain ⟨t, a, ab, h1, _⟩ := h.ex
 exact nn_some (ld_r h1 (x := e.num) rfl hK)
theorem len_call (h : Txt w p e lim na O M) {K : Int → World → Prop} (hK : ∀ w', Ext w w' → K (((aOf e M).length : Nat) : Int) w') :
  callT Tryz.prog 37 #[.pointer (some (at0 p))] (.one (.one (.int .i64))) K w := by
 refine F37_calls ?_
 unfold F37
 obtain ⟨t, ht, hi, hf, rd⟩ := h.tree
 refine rd (Ext.refl w) (tsum_call ht fun w1 e1 => ?_)
 have := hK w1 e1
 rw [← msr_atoms (aOf_posd e M), ← hi.tot] at this
 exact this
theorem sizeB_call (h : Txt w p e lim na O M) {K : Int → World → Prop} (hK : ∀ w', Ext w w' → K ((szs (aOf e M) : Nat) : Int) w') :
  callT Tryz.prog 106 #[.pointer (some (at0 p))] (.one (.one (.int .i64))) K w := by
 refine F106_calls ?_
 unfold F106
 obtain ⟨t, ht, hi, hf, rd⟩ := h.tree
 refine rd (Ext.refl w) (tsum_call ht fun w1 e1 => ?_)
 have := hK w1 e1
 rw [← msr_bytes (aOf_posd e M), ← hi.tot] at this
 exact this
def Spot (e : Enc) (M : Parts) (at_ i n : Nat) : Prop := (at_ = 0 ∧ i = 0 ∧ n = 0) ∨ ∃ x, M[i]? = some x ∧ 1 ≤ n ∧ n ≤ (ats e x.2).length ∧ at_ = (aOf e (M.take i)).length + n
theorem spot_of (e : Enc) : ∀ (M : Parts) (at_ : Nat), 1 ≤ at_ → at_ ≤ (aOf e M).length → ∃ i n, i < M.length ∧ Spot e M at_ i n ∧ 1 ≤ n ∧ at_ = (aOf e (M.take i)).length + n ∧ at_ ≤ (aOf e (M.take (i + 1))).length ∧ ∀ j, j ≤ i → (aOf e (M.take j)).length < at_
 | [], at_, h1, h2 => by simp [aOf] at h2; omega
 | x :: M, at_, h1, h2 => by
  by_cases hle : at_ ≤ (ats e x.2).length
  ·exact ⟨0, at_, by simp, .inr ⟨x, rfl, h1, hle, by simp [aOf]⟩, h1, by simp [aOf], by simpa [aOf] using hle, fun j hj => by
    have : j = 0 := by omega
    subst this; simp [aOf]; omega⟩
  ·rw [aOf_cons, List.length_append] at h2
   obtain ⟨i, n, hi, hs, hn, he, hle2, hlow⟩ := spot_of e M (at_ - (ats e x.2).length) (by omega) (by omega)
   refine ⟨i + 1, n, by simpa using hi, ?_, hn, ?_, ?_, ?_⟩
   ·rcases hs with ⟨h, _⟩ | ⟨y, hy, g1, g2, g3⟩
    ·omega
    ·exact .inr ⟨y, by simpa using hy, g1, g2, by rw [List.take_succ_cons, aOf_cons, List.length_append]; omega⟩
   ·rw [List.take_succ_cons, aOf_cons, List.length_append]; omega
   ·rw [List.take_succ_cons, aOf_cons, List.length_append]; omega
   ·intro j hj
    cases j with
    | zero => simp [aOf]; omega
    | succ j => rw [List.take_succ_cons, aOf_cons, List.length_append]; have := hlow j (by omega); omega
theorem tfind_call {at_ : Int} (h : Txt w p e lim na O M) (hle : at_ ≤ ((aOf e M).length : Int)) {K : Int × Int × Unit → World → Prop}
  (hK : ∀ (i n : Nat) w', Spot e M at_.toNat i n → i ≤ M.length → Ext w w' → K ((i : Int), (n : Int), ()) w') : callT Tryz.prog 99 #[.pointer (some (at0 p)), .int .i64 at_] (.tup [(.one (.int .i64)), (.one (.int .i64))]) K w := by
 refine F99_calls ?_
 unfold F99
 have few := h.few; have lim := h.lims
 obtain ⟨t, ht, hi, hf, rd⟩ := h.tree
 refine sif_r (fun h => hK 0 0 w (.inl ⟨?_, rfl, rfl⟩) (Nat.zero_le _) (Ext.refl w)) (fun h => ?_)
 ·simp only [decide_eq_true_eq] at h; omega
 simp only [decide_eq_false_iff_not] at h
 obtain ⟨m, rfl⟩ : ∃ m : Nat, at_ = (m : Int) := ⟨at_.toNat, by omega⟩
 obtain ⟨i, n, hil, hs, hn, he, hle2, hlow⟩ := spot_of e M m (by omega) (by omega)
 have hlen := hi.len
 have kk : ∀ j, keyOf 0 (tot (t.items.take j)) = (aOf e (M.take j)).length := fun j => by
  have := (hi.take j).tot
  show (tot (t.items.take j)).atoms = _
  rw [this, msr_atoms (aOf_posd e _)]
 have hfind : findI 0 m t.items = i + 1 := findI_eq (by omega) (by rw [kk]; exact hle2) fun j hj => by rw [kk]; exact hlow j (by omega)
 refine rd (Ext.refl w) (find_call (k := 0) (n := m) (by decide) (by omega) ht hf fun w1 e1 => ?_)
 have few2 := hf.few
 have ew : IntKind.wrap .i64 (((i + 1 : Nat) : Int) - 1) = (i : Int) := by rw [wrap64 (by omega) (by omega)]; omega
 rw [hfind, ew]
 refine rd e1 (upto_call (ht.ext e1) hf (by omega) fun w2 e2 => ?_)
 have ea : ((smT (tot (t.items.take i))).1) = (((aOf e (M.take i)).length : Nat) : Int) := by rw [← kk i]; rfl
 rw [ea]
 have ew2 : IntKind.wrap .i64 ((m : Int) - (((aOf e (M.take i)).length : Nat) : Int)) = (n : Int) := by rw [wrap64 (by omega) (by omega)]; omega
 rw [ew2]
 exact hK i n w2 (by simpa using hs) (by omega) (e1.trans e2)
theorem take_spot {e : Enc} {M : Parts} {at_ i n : Nat} (h : Spot e M at_ i n) : (aOf e M).take at_ = aOf e (M.take i) ++ (match M[i]? with | some x => (ats e x.2).take n | none => []) := by
 rcases h with ⟨rfl, rfl, rfl⟩ | ⟨x, hx, h1, h2, rfl⟩
 ·cases M[0]? <;> simp [aOf]
 ·rw [hx]
  have hil := (List.getElem?_eq_some_iff.1 hx).1
  have hd : M = M.take i ++ x :: M.drop (i + 1) := by
   have := List.drop_eq_getElem_cons hil
   have hx' : M[i] = x := by rw [List.getElem?_eq_getElem hil] at hx; exact Option.some.inj hx
   rw [hx'] at this
   rw [← this, List.take_append_drop]
  have : aOf e M = aOf e (M.take i) ++ (ats e x.2 ++ aOf e (M.drop (i + 1))) := by
   conv => lhs; rw [hd]
   rw [aOf_app, aOf_cons]
  rw [this, List.take_length_add_append, List.take_append_of_le_length h2]
end
section
variable {w w' : World} {S : Nat → Prop} {p : Nat} {e : Enc} {lim na : Nat} {O : Nat → Prop} {M : Parts}
theorem Txt.encCell (h : Txt w p e lim na O M) : w.cell? (at0 p) = some (.int .i64 e.num) := by
 obtain ⟨t, a, ab, h1, _⟩ := h.ex
 exact cell_of h1 rfl
theorem szs_le_at {l : As} (h : Posd l) (n : Nat) : szs (l.take n) ≤ szs l := by
 have := szs_append (l.take n) (l.drop n)
 rw [List.take_append_drop] at this; omega
theorem ahead_call {at_ : Nat} (h : Txt w p e lim na O M) (hle : at_ ≤ (aOf e M).length) {K : Cells.T c91 → World → Prop} (hK : ∀ w', Ext w w' → K (smT (msr ((aOf e M).take at_))) w') :
  callT Tryz.prog 83 #[.pointer (some (at0 p)), .int .i64 (at_ : Int)] (.one (.agg c91)) K w := by
 refine F83_calls ?_
 unfold F83
 have few := h.few; have lims := h.lims; have hsz := h.sz
 obtain ⟨t, ht, hi, hf, rd⟩ := h.tree
 let z1 : Nat → Nat × Obj := fun b => (b, .cells #[(.int .i64 (0 : Int)), (.int .i64 (0 : Int)), (.int .i64 (0 : Int)), (.bool false), (.bool false)] 91 (0, 0))
 refine (St.start w).newO fun b1 w1 S1 e1 => tfind_call (h.ext e1) (by omega) fun i n w2 hs hil e2 => ?_
 rw [Int.toNat_natCast] at hs
 have S2 := S1.ext e2
 have hn : n < 2 ^ 30 := by
  rcases hs with ⟨_, _, hn⟩ | ⟨x, hx, h1, h2, h3⟩
  ·omega
  ·omega
 have il := hi.len
 have fl := hf.few
 refine rd S2.upd (upto_call (ht.ext S2.upd) hf (by omega) fun w3 e3 => ?_)
 have etk : tot (t.items.take i) = msr (aOf e (M.take i)) := (hi.take i).tot
 rw [etk]
 refine (S2.ext e3).newO fun b6 w4 S4 e4 => S4.aggSt 0 rfl rfl rfl rfl fun w5 S5 u5 => ?_
 refine join_r (fun _ w' => St (fun _ => False) w w' [(b6, .cells (Cells.vals c91 (smT (msr ((aOf e M).take at_)))).toArray 91 (0, 0)), z1 b1]) ?_ ?_
 ·refine rd S5.upd (at_call (ht.ext S5.upd) hf (by omega) fun w6 e6 => ?_)
  refine (S5.ext e6).newO fun b12 w7 S7 e7 => S7.aggSt 0 rfl rfl rfl rfl fun w8 S8 u8 => ?_
  have tk := take_spot hs
  cases hx : t.items[i]? with
  | none =>
   have hM : M[i]? = none := List.getElem?_eq_none (by have := List.getElem?_eq_none_iff.1 hx; omega)
   have e0 : atI t.items i = (Pc.zero, false) := by unfold atI; rw [hx]
   rw [e0] at S8 ⊢
   rw [hM] at tk
   refine sif_r (fun h => by cases h) (fun _ => ?_)
   rw [tk, List.append_nil]
   exact S8.tail
  | some x =>
   have e0 : atI t.items i = (x, true) := by unfold atI; rw [hx]
   rw [e0] at S8 ⊢
   obtain ⟨y, hy, hp⟩ := hi.get i hx
   rw [hy] at tk
   have hyl : y.2.length ≤ 1048576 := by
    have h1 : y ∈ M := List.mem_of_getElem? hy
    have h2 : szs (aOf e M) = szs (aOf e (M.take i)) + (y.2.length + szs (aOf e (M.drop (i + 1)))) := by
     have hil := (List.getElem?_eq_some_iff.1 hy).1
     have hd := List.drop_eq_getElem_cons hil
     have hx' : M[i] = y := by rw [List.getElem?_eq_getElem hil] at hy; exact Option.some.inj hy
     rw [hx'] at hd
     conv => lhs; rw [← List.take_append_drop i M, hd]
     rw [aOf_app, aOf_cons, szs_append, szs_append, szs_all]
    omega
   have hlo := hp.lo; have hhi := hp.hi
   refine sif_r (fun _ => ?_) (fun h => by cases h)
   have hT := h
   have S := S8
   refine join_r (fun s W => ∃ b, s.1 = at0 b ∧ W.heap[b]? = some (.cells (Cells.vals c93 (pcT (headPc e x y.2 n))).toArray 93 (0, 0)) ∧ St (fun _ => False) w W [(b12, .cells (Cells.vals c93 (pcT x)).toArray 93 (0, 0)), (b6, .cells (Cells.vals c91 (smT (msr (aOf e (M.take i))))).toArray 91 (0, 0)), z1 b1]) ?_ ?_
   ·refine S.drew fun w9 S e9 _ => S.lds 0 (pcT x) rfl ((hT.ext S.upd).enc ?_)
    exact ⟨S.newO fun b18 wx S ex => keep_r (hT.ext S.upd).encCell (S.keeps 1 rfl (⟨S.newO fun b19 wx S ex => keep_r (hT.ext S.upd).encCell (S.keeps 2 rfl (pcut_call (hp.by_.ext S.upd) (by omega) (by rw [hp.tag]; omega) (by omega) fun wx ex => (fun S => S.aggSt 1 rfl rfl rfl rfl fun wx S ux => S.aggSt 0 rfl rfl rfl rfl fun wx S ux => ⟨b18, rfl, S.at_ 1 rfl, S.tail.tail⟩) (S.ext ex))), pcut_call (hp.by_.ext S.upd) (by omega) (by rw [hp.tag]; omega) (by omega) fun wx ex => (fun S => ⟨S.newO fun b22 wx S ex => keep_r (hT.ext S.upd).encCell (S.keeps 2 rfl (S.aggSt 1 rfl rfl rfl rfl fun wx S ux => S.aggSt 0 rfl rfl rfl rfl fun wx S ux => ⟨b18, rfl, S.at_ 1 rfl, S.tail.tail⟩)), trivial⟩) (S.ext ex)⟩)), ⟨S.newO fun b23 wx S ex => keep_r (hT.ext S.upd).encCell (S.keeps 1 rfl (⟨S.newO fun b24 wx S ex => keep_r (hT.ext S.upd).encCell (S.keeps 2 rfl (pcut_call (hp.by_.ext S.upd) (by omega) (by rw [hp.tag]; omega) (by omega) fun wx ex => (fun S => S.aggSt 0 rfl rfl rfl rfl fun wx S ux => S.aggSt 1 rfl rfl rfl rfl fun wx S ux => ⟨b24, rfl, S.at_ 0 rfl, S.tail.tail⟩) (S.ext ex))), pcut_call (hp.by_.ext S.upd) (by omega) (by rw [hp.tag]; omega) (by omega) fun wx ex => (fun S => ⟨S.newO fun b27 wx S ex => keep_r (hT.ext S.upd).encCell (S.keeps 2 rfl (S.aggSt 0 rfl rfl rfl rfl fun wx S ux => S.aggSt 1 rfl rfl rfl rfl fun wx S ux => ⟨b27, rfl, S.at_ 0 rfl, S.tail.tail⟩)), trivial⟩) (S.ext ex)⟩)), pcut_call (hp.by_.ext S.upd) (by omega) (by rw [hp.tag]; omega) (by omega) fun wx ex => (fun S => ⟨S.newO fun b29 wx S ex => keep_r (hT.ext S.upd).encCell (S.keeps 1 rfl (⟨S.newO fun b30 wx S ex => keep_r (hT.ext S.upd).encCell (S.keeps 2 rfl (S.aggSt 1 rfl rfl rfl rfl fun wx S ux => S.aggSt 0 rfl rfl rfl rfl fun wx S ux => ⟨b29, rfl, S.at_ 1 rfl, S.tail.tail⟩)), trivial⟩)), ⟨S.newO fun b31 wx S ex => keep_r (hT.ext S.upd).encCell (S.keeps 1 rfl (⟨S.newO fun b32 wx S ex => keep_r (hT.ext S.upd).encCell (S.keeps 2 rfl (S.aggSt 0 rfl rfl rfl rfl fun wx S ux => S.aggSt 1 rfl rfl rfl rfl fun wx S ux => ⟨b32, rfl, S.at_ 0 rfl, S.tail.tail⟩)), trivial⟩)), trivial⟩⟩) (S.ext ex)⟩⟩
   ·rintro ⟨_, _⟩ w9 ⟨b, rfl, hb, S9⟩
    refine S9.lds 1 (smT (msr (aOf e (M.take i)))) rfl ?_
    dsimp only
    rw [addr_add]
    refine lds_r hb (x := smT (headPc e x y.2 n).sm) (fun j v hv => ?_) ?_
    ·match j, hv with
     | 0, hv => exact hv
     | 1, hv => exact hv
     | 2, hv => exact hv
     | 3, hv => exact hv
     | 4, hv => exact hv
     | j + 5, hv => cases hv
    have hsm : (headPc e x y.2 n).sm = msr ((ats e y.2).take n) := by
     show msr (ats e (y.2.take (cutAt e y.2 n))) = _
     unfold cutAt
     rw [(ats_cut e n y.2).1]
    rw [hsm]
    have p1 := aOf_posd e (M.take i)
    have p2 := (ats_posd e y.2).take n
    refine add_call (msr_ok p1) (msr_ok p2) ?_ fun w10 e10 => ?_
    ·have h3 := szs_le_at (aOf_posd e M) at_
     rw [tk, szs_append] at h3
     rw [msr_bytes p1, msr_bytes p2]
     dsimp only at h3
     omega
    have S10 := S9.ext e10
    rw [← msr_append p1 p2]
    dsimp only at tk
    rw [← tk]
    exact S10.aggSt 1 rfl rfl rfl rfl fun w11 S11 u11 => S11.tail
 ·intro _ w6 S6
  exact S6.lds 0 (smT _) rfl (S6.aggSt 1 rfl rfl rfl rfl fun w7 S7 u7 => S7.lds 1 (smT _) rfl (hK w7 S7.upd))
end
section
variable {w w' : World} {S : Nat → Prop} {p : Nat} {e : Enc} {lim na : Nat} {O : Nat → Prop} {M : Parts}
theorem Txt.stay (h : Txt w p e lim na O M) (u : Upd S w w') (hS : ∀ k, O k → ¬ S k) (s : Stay w w') : Txt w' p e lim na O M := by
 obtain ⟨t, a, ab, h1, h2, h3, h4, h5, h6, h7, h8⟩ := h.ex
 exact ⟨⟨t, a, ab, u.get h1 (hS p h.op), h2.stay s, h3.upd u fun x hx k hk => hS k (h6 x hx k hk), h4.upd u fun k _ hk => hS k (h7 k hk), h5, h6, h7, h8⟩, h.lims, h.sz, h.op, fun k hk => Nat.lt_of_lt_of_le (h.own k hk) u.size⟩
def tagsP : Int → As → List Int
 | _, [] => []
 | t, x :: r => t :: tagsP (restTag t x.2) r
def tOf (e : Enc) (M : Parts) : List Int := M.flatMap fun x => tagsP x.1 (ats e x.2)
theorem tagsP_len : ∀ (t : Int) (l : As), (tagsP t l).length = l.length
 | _, [] => rfl
 | t, x :: r => congrArg (· + 1) (tagsP_len _ r)
theorem restTag_add (t : Int) (n m : Nat) : restTag (restTag t n) m = restTag t (n + m) := by
 unfold restTag
 by_cases h : 0 ≤ t
 ·simp only [if_pos h]; rw [if_pos (by omega)]; omega
 ·simp only [if_neg h]
theorem restTag_zero (t : Int) : restTag t 0 = t := by unfold restTag; split <;> omega
theorem tagsP_get : ∀ (t : Int) (l : As) (q : Nat), q < l.length → (tagsP t l)[q]? = some (restTag t (szs (l.take q)))
 | _, [], q, h => absurd h (by simp)
 | t, x :: r, 0, _ => by show some t = _; rw [List.take_zero, szs_nil, restTag_zero]
 | t, x :: r, q + 1, h => by
  show (tagsP (restTag t x.2) r)[q]? = _
  rw [tagsP_get _ r q (by simpa using h), List.take_succ_cons, szs_cons, restTag_add]
theorem tOf_len (e : Enc) : ∀ M : Parts, (tOf e M).length = (aOf e M).length
 | [] => rfl
 | x :: M => by
  show (tagsP x.1 (ats e x.2) ++ tOf e M).length = (ats e x.2 ++ aOf e M).length
  rw [List.length_append, List.length_append, tagsP_len, tOf_len e M]
theorem tOf_app (e : Enc) (M N : Parts) : tOf e (M ++ N) = tOf e M ++ tOf e N := by simp [tOf]
theorem aOf_at {e : Enc} {M : Parts} {i q : Nat} {y : Int × Bs} (hy : M[i]? = some y) (hq : q < (ats e y.2).length) : (aOf e M)[(aOf e (M.take i)).length + q]? = (ats e y.2)[q]? ∧ (tOf e M)[(aOf e (M.take i)).length + q]? = some (restTag y.1 (szs ((ats e y.2).take q))) := by
 have hil := (List.getElem?_eq_some_iff.1 hy).1
 have hx' : M[i] = y := by rw [List.getElem?_eq_getElem hil] at hy; exact Option.some.inj hy
 have hd : M = M.take i ++ y :: M.drop (i + 1) := by
  have := List.drop_eq_getElem_cons hil
  rw [hx'] at this
  rw [← this, List.take_append_drop]
 have e1 : aOf e M = aOf e (M.take i) ++ (ats e y.2 ++ aOf e (M.drop (i + 1))) := by
  conv => lhs; rw [hd]
  rw [aOf_app, aOf_cons]
 have e2 : tOf e M = tOf e (M.take i) ++ (tagsP y.1 (ats e y.2) ++ tOf e (M.drop (i + 1))) := by
  conv => lhs; rw [hd]
  rw [tOf_app]; rfl
 constructor
 ·rw [e1, List.getElem?_append_right (by omega), Nat.add_sub_cancel_left, List.getElem?_append_left hq]
 ·rw [e2, ← tOf_len, List.getElem?_append_right (by omega), Nat.add_sub_cancel_left, List.getElem?_append_left (by rw [tagsP_len]; exact hq), tagsP_get _ _ _ hq]
theorem _root_.Go.Vx.Upd.get1 {b k : Nat} {o : Obj} (u : Upd (fun k => k = b) w w') (h : w.heap[k]? = some o) (hn : k ≠ b) : w'.heap[k]? = some o := u.get h hn
theorem fr_none {W : World} {b : Nat} {c : Array Value} {t : TypeId} (h : W.heap[b]? = some (.cells c t (0, 0))) (hp : prot (.cells c t (0, 0)) = false) {W' : World} (u : Upd (fun k => k = b) W W') : Stay W W' :=
 Stay.upd u fun k hk o ho => by subst hk; rw [h] at ho; cases ho; exact hp
abbrev Sees (w : World) (e : Enc) (M : Parts) (O U : Nat → Prop) (from_ cnt : Nat) (f : Value) (Inv : Nat → Nat → World → Prop) : Prop :=
 ∀ (N j : Nat) (a : Int) (tag : Int) (W : World) (K : Unit → World → Prop), w.heap.size ≤ N → N ≤ W.heap.size → j < cnt → (atoms (aOf e M))[from_ + j]? = some a → (tOf e M)[from_ + j]? = some tag → Inv N j W →
  (∀ W', Stay W W' → Upd (fun k => U k ∨ N ≤ k) W W' → Inv N (j + 1) W' → K () W') →
  callX Tryz.prog (do let d ← Deferred.ofValue f #[.int .i64 a, .int .i64 tag]; invoke d.target d.args : Sem Next) (.tup []) K W
structure WAt (w : World) (p : Nat) (e : Enc) (lim na : Nat) (O : Nat → Prop) (M : Parts) (its : List Pc) (b1 b2 b7 b8 N n cnt : Nat) (f : Value) (Inv : Nat → Nat → World → Prop) (c : Nat) (W : World) : Prop where
 inv : Inv N (c - n) W
 lt : c - n < cnt
 txt : Txt W p e lim na O M
 its : Its W e its M
 size : N ≤ W.heap.size
 h1 : W.heap[b1]? = some (.cells #[.pointer (some (at0 p))] 27 (0, 0))
 h2 : W.heap[b2]? = some (.cells #[f] 97 (0, 0))
 h7 : W.heap[b7]? = some (.cells #[.int .i64 ((n - c : Nat) : Int)] 3 (0, 0))
 h8 : W.heap[b8]? = some (.cells #[.int .i64 ((cnt - (c - n) : Nat) : Int)] 3 (0, 0))
set_option maxHeartbeats 1000000 in
theorem twalk_call {from_ to_ : Int} {f : Value} (h : Txt w p e lim na O M) (hf1 : isOne f = true) (U : Nat → Prop) (hU : ∀ k, U k → k < w.heap.size ∧ ¬ O k) (Inv : Nat → Nat → World → Prop)
  (h0 : ∀ N W, Ext w W → w.heap.size ≤ N → N ≤ W.heap.size → Inv N 0 W)
  (hs : ∀ (N j : Nat) (W W' : World) (S : Nat → Prop), w.heap.size ≤ N → N ≤ W.heap.size → Inv N j W → Upd S W W' → (∀ k, S k → w.heap.size ≤ k ∧ k < N) → Inv N j W')
  (hsee : Sees w e M O U from_.toNat (min to_.toNat (aOf e M).length - from_.toNat) f Inv) {K : Unit → World → Prop}
  (hK : ∀ N W', w.heap.size ≤ N → N ≤ W'.heap.size → Inv N (min to_.toNat (aOf e M).length - from_.toNat) W' → K () W') :
  callT Tryz.prog 57 #[.pointer (some (at0 p)), .int .i64 from_, .int .i64 to_, f] (.tup []) K w := by
 refine F57_calls ?_
 unfold F57
 have few := h.few; have lims := h.lims; have hsz := h.sz
 obtain ⟨t, ht, hi, hf, rd, hOt⟩ := h.tree2
 have il := hi.len; have fl := hf.few
 refine (St.start w).newO fun b1 w1 S1 e1 => chk_r (by show (isOne f && true) = true; rw [hf1]; rfl) (S1.newO fun b2 w2 S2 e2 => S2.ld 1 rfl (x := some (at0 p)) rfl (len_call (h.ext S2.upd) fun w3 e3 => ?_))
 have S3 := S2.ext e3
 have ef : (if (0 : Int) > from_ then 0 else from_) = ((from_.toNat : Nat) : Int) := by split <;> omega
 rw [ef]
 generalize hcnt : min to_.toNat (aOf e M).length - from_.toNat = cnt at *
 generalize hfr : from_.toNat = fr at *
 refine sif_r (fun hc => ?_) (fun hc => ?_)
 ·have : cnt = 0 := by
   simp only [decide_eq_true_eq, ge_iff_le] at hc
   split at hc <;> omega
  subst this
  exact hK _ w3 (Nat.le_refl _) S3.upd.size (h0 _ w3 S3.upd (Nat.le_refl _) S3.upd.size)
 have hto : (if ((aOf e M).length : Int) < to_ then ((aOf e M).length : Int) else to_) = ((fr + cnt : Nat) : Int) := by
  simp only [decide_eq_false_iff_not, ge_iff_le] at hc
  split at hc
  ·rename_i hh; rw [if_pos hh]; omega
  ·rename_i hh; rw [if_neg hh]; omega
 rw [hto] at hc ⊢
 simp only [decide_eq_false_iff_not, ge_iff_le] at hc
 have hcl : fr + cnt ≤ (aOf e M).length := by omega
 refine S3.ld 1 rfl (x := some (at0 p)) rfl (tfind_call (h.ext S3.upd) (by omega) fun i n w4 hsp hil e4 => ?_)
 rw [Int.toNat_natCast] at hsp
 have S4 := S3.ext e4
 refine S4.newO fun b7 w5 S5 e5 => S5.stC 0 rfl (by decide) fun w6 S6 u6 => S6.newO fun b8 w7 S7 e7 => ?_
 have ew : IntKind.wrap .i64 (((fr + cnt : Nat) : Int) - ((fr : Nat) : Int)) = (cnt : Int) := by rw [wrap64 (by omega) (by omega)]; omega
 rw [ew]
 refine S7.stC 0 rfl (by decide) fun w8 S8 u8 => S8.ld 3 rfl (x := some (at0 p)) rfl (rd S8.upd ?_)
 refine F100_calls (a0 := (t.ptr, ())) ?_
 unfold F100
 refine S8.newO fun c1 w9 S9 e9 => S9.newO fun c2 w10 S10 e10 => ?_
 have hx10 := S10.upd
 have hsz10 := hx10.size
 have o7 := S10.ge 3 rfl
 have o8 := S10.ge 2 rfl
 have o7l := lt_of_heap (S10.at_ 3 rfl)
 have o8l := lt_of_heap (S10.at_ 2 rfl)
 have o1l := lt_of_heap (S10.at_ 5 rfl)
 have o2l := lt_of_heap (S10.at_ 4 rfl)
 have o1 := S10.ge 5 rfl
 have o2 := S10.ge 4 rfl
 have nd : [c2, c1, b8, b7, b2, b1].Nodup := S10.nd
 simp only [List.nodup_cons, List.mem_cons, List.not_mem_nil, or_false, not_or] at nd
 let cj : Nat → Nat := fun j => (aOf e ((M.drop i).take j)).length
 have hbase : fr = (aOf e (M.take i)).length + n := by
  rcases hsp with ⟨h1, h2, h3⟩ | ⟨x, hx, g1, g2, g3⟩
  ·subst h2; subst h3; simpa [aOf] using h1
  ·exact g3
 have hcj : ∀ j, (aOf e (M.take (i + j))).length = (aOf e (M.take i)).length + cj j := fun j => by
  show _ = _ + (aOf e ((M.drop i).take j)).length
  rw [← List.length_append, ← aOf_app, ← List.take_add]
 have hn : n < 2 ^ 30 := by omega
 have hcnt30 : cnt < 2 ^ 30 := by omega
 let N := w10.heap.size + 2
 let At := WAt w p e lim na O M t.items b1 b2 b7 b8 N n cnt f Inv
 have hO : ∀ k, O k → k < w.heap.size := h.own
 have atE : ∀ {c W W'}, At c W → Ext W W' → At c W' := fun {c W W'} a x => ⟨hs N _ W W' _ (by omega) a.size a.inv x (fun _ h => h.elim), a.lt, a.txt.ext x, a.its.ext x, Nat.le_trans a.size x.size, x.ext_get a.h1, x.ext_get a.h2, x.ext_get a.h7, x.ext_get a.h8⟩
 have atU : ∀ {c W W'} (k0 : Nat), At c W → w.heap.size ≤ k0 → k0 < N → k0 ≠ b1 → k0 ≠ b2 → k0 ≠ b7 → k0 ≠ b8 → Upd (fun k => k = k0) W W' → Stay W W' → At c W' := by
  intro c W W' k0 a g1 g2 n1 n2 n7 n8 u s
  exact ⟨hs N _ W W' _ (by omega) a.size a.inv u (fun k hk => by subst hk; exact ⟨g1, g2⟩), a.lt, a.txt.stay u (fun k hk e => by subst e; have := hO _ hk; omega) s, a.its.upd u (fun x hx k hk e => by subst e; have := hO _ (hOt x hx _ hk); omega),
   Nat.le_trans a.size u.size, u.get a.h1 (fun h => n1 h.symm), u.get a.h2 (fun h => n2 h.symm), u.get a.h7 (fun h => n7 h.symm), u.get a.h8 (fun h => n8 h.symm)⟩
 refine items_range (n := i) (fun _ => rfl) (S10.at_ 1 rfl) (S10.at_ 0 rfl) (ht.ext hx10) hf (by omega) (fun j W => At (cj j) W) (fun ec W => ec = .ret ∧ Inv N cnt W ∧ N ≤ W.heap.size) ?_ (fun j W W' => atE) ?_ ?_ ?_
 ·intro W x hW
  have e0 : cj 0 = 0 := rfl
  refine ⟨?_, by rw [e0]; omega, h.ext (hx10.trans x), hi.ext (hx10.trans x), hW, x.ext_get (S10.at_ 5 rfl), x.ext_get (S10.at_ 4 rfl), ?_, ?_⟩
  ·rw [e0, Nat.zero_sub]; exact h0 N W (hx10.trans x) (by omega) hW
  ·rw [e0]; exact x.ext_get (S10.at_ 3 rfl)
  ·rw [e0, Nat.zero_sub]; exact x.ext_get (S10.at_ 2 rfl)
 ·intro rc j x R W hj ha hr hRt hRf
  have hxi : t.items[i + j]? = some x := by rw [List.getElem?_drop] at hj; exact hj
  obtain ⟨y, hy, hp⟩ := hi.get (i + j) hxi
  have hcn : cj (j + 1) = cj j + (ats e y.2).length := by
   have h1 := hcj (j + 1)
   rw [show i + (j + 1) = (i + j) + 1 by omega] at h1
   have h2 : M.take (i + j + 1) = M.take (i + j) ++ [y] := by rw [List.take_add_one, hy]; rfl
   rw [h2, aOf_app, List.length_append, hcj j] at h1
   have h3 : (aOf e [y]).length = (ats e y.2).length := by simp [aOf]
   omega
  have hyb : (aOf e (M.take (i + j))).length = (aOf e (M.take i)).length + cj j := hcj j
  have hyl : (aOf e (M.take i)).length + cj j + (ats e y.2).length ≤ (aOf e M).length ∧ y.2.length ≤ 1048576 := by
   have h1 := hcj (j + 1)
   have h2 := congrArg List.length (aOf_app e (M.take (i + (j + 1))) (M.drop (i + (j + 1))))
   rw [List.take_append_drop, List.length_append] at h2
   refine ⟨by omega, ?_⟩
   have h3 : y ∈ M := List.mem_of_getElem? hy
   have h4 : ∀ (M : Parts), y ∈ M → y.2.length ≤ szs (aOf e M) := by
    intro M
    induction M with
    | nil => intro h; cases h
    | cons z M ih =>
     intro h
     rw [aOf_cons, szs_append, szs_all]
     rcases List.mem_cons.1 h with rfl | h
     ·omega
     ·have := ih h; omega
   have := h4 M h3
   omega
  have hlo := hp.lo; have hhi := hp.hi
  refine (St.start W).newAgg rfl rfl rfl fun b18 W1 T1 x1 => ⟨x1.ext_get hr, ?_⟩
  have o18 := T1.ge 0 rfl
  have a1 := atE ha x1
  have r1 := x1.ext_get hr
  have NW : N ≤ W.heap.size := ha.size
  have lN : w10.heap.size + 1 < N := by show _ < w10.heap.size + 2; omega
  have NN : w.heap.size ≤ N := by omega
  have b7N : b7 < N := by omega
  have b8N : b8 < N := by omega
  obtain ⟨u2, r2⟩ := upd_putObj (o' := .loop (rc .busy none)) r1
  have s2 : Stay W1 (W1.putObj (w10.heap.size + 1) (.loop (rc .busy none))) := Stay.upd u2 fun k hk o ho => by subst hk; rw [r1] at ho; cases ho; rfl
  have a2 := atU (w10.heap.size + 1) a1 (by omega) lN (by omega) (by omega) (by omega) (by omega) u2 s2
  have b2' := u2.get1 (T1.at_ 0 rfl) (by omega)
  have s02 := (Stay.ext x1).trans s2
  generalize W1.putObj (w10.heap.size + 1) (.loop (rc .busy none)) = W2 at *
  let Bd : Nat → World → Prop := fun q W' => At (cj j + q) W' ∧ Stay W W' ∧ W'.heap[w10.heap.size + 1]? = some (.loop (rc .busy none)) ∧ W'.heap[b18]? = some (.cells (Cells.vals c93 (pcT x)).toArray 93 (0, 0))
  have bdE : ∀ {q W' W''}, Bd q W' → Ext W' W'' → Bd q W'' := fun {q W' W''} b x => ⟨atE b.1 x, b.2.1.trans (Stay.ext x), x.ext_get b.2.2.1, x.ext_get b.2.2.2⟩
  refine sloop_r (fun s W' => ∃ q, q ≤ (ats e y.2).length ∧ s = (((szs ((ats e y.2).take q) : Nat) : Int), ()) ∧ Bd q W') (fun s _ => ((y.2.length : Int) - s.1).toNat) ⟨0, Nat.zero_le _, rfl, a2, s02, r2, b2'⟩ ?_
  rintro _ W3 ⟨q, hq, rfl, b3⟩
  have hbl := hp.by_.len
  refine ld_r b3.2.2.2 (x := x.bytes) rfl (sif_r (fun hlt => ?_) (fun hge => ?_))
  ·simp only [decide_eq_true_eq] at hlt
   obtain ⟨a, m, hqa, hnx, htk, hss, hm1, hsl⟩ := pos_step (e := e) (l := y.2) (j := q) (by omega)
   have hql : q < (ats e y.2).length := (List.getElem?_eq_some_iff.1 hqa).1
   refine drew_r fun W4 x4 _ => ?_
   have b4 := bdE b3 x4
   have hsy : szs ((ats e y.2).take q) ≤ y.2.length := pos_le q
   have hB4 : By W4 x.bytes y.2 := by
    obtain ⟨y', hy', hp'⟩ := b4.1.its.get (i + j) hxi
    rw [hy] at hy'; cases hy'
    exact hp'.by_
   refine ld_r b4.1.h1 (x := some (at0 p)) rfl (b4.1.txt.enc (ld_r b4.2.2.2 (x := x.bytes) rfl (next_call hB4 (by omega) fun W5 x5 => ?_)))
   rw [hnx]
   have b5 := bdE b4 x5
   have ewa : IntKind.wrap .i64 (((szs ((ats e y.2).take q) : Nat) : Int) + (m : Int)) = ((szs ((ats e y.2).take (q + 1)) : Nat) : Int) := by
    rw [wrap64 (by omega) (by omega)]; omega
   refine join_r (fun _ W' => Bd (q + 1) W') ?_ ?_
   ·refine ld_r b5.1.h7 (x := ((n - (cj j + q) : Nat) : Int)) rfl (sif_r (fun hg => ?_) (fun hg => ?_))
    ·simp only [decide_eq_true_eq, gt_iff_lt] at hg
     refine ld_r b5.1.h7 (x := ((n - (cj j + q) : Nat) : Int)) rfl (stC_r b5.1.h7 Nat.one_pos fun W6 u6 g6 _ => ?_)
     have s6 : Stay W5 W6 := fr_none b5.1.h7 rfl u6
     have e6 : IntKind.wrap .i64 (((n - (cj j + q) : Nat) : Int) - 1) = ((n - (cj j + (q + 1)) : Nat) : Int) := by rw [wrap64 (by omega) (by omega)]; omega
     rw [e6] at g6
     have a5 := b5.1
     have ec : cj j + q - n = cj j + (q + 1) - n := by omega
     refine ⟨⟨?_, by have := a5.lt; omega, a5.txt.stay u6 (fun k hk e => by subst e; have := hO _ hk; omega) s6, a5.its.upd u6 (fun x hx k hk e => by subst e; have := hO _ (hOt x hx _ hk); omega), Nat.le_trans a5.size u6.size, u6.get1 a5.h1 (by omega), u6.get1 a5.h2 (by omega), g6, ?_⟩, b5.2.1.trans s6, u6.get1 b5.2.2.1 (by omega), u6.get1 b5.2.2.2 (by omega)⟩
     ·rw [← ec]; exact hs N _ W5 W6 _ NN a5.size a5.inv u6 (fun k hk => by subst hk; exact ⟨o7, b7N⟩)
     ·rw [← ec]; exact u6.get1 a5.h8 (by omega)
    ·simp only [decide_eq_false_iff_not, gt_iff_lt] at hg
     have hnc : n ≤ cj j + q := by omega
     have hlt5 := b5.1.lt
     obtain ⟨ga, gt⟩ := aOf_at (e := e) hy hql
     have eix : (aOf e (M.take (i + j))).length + q = fr + (cj j + q - n) := by omega
     rw [eix] at ga gt
     have ga' : (atoms (aOf e M))[fr + (cj j + q - n)]? = some a := by
      show ((aOf e M).map (·.1))[_]? = _
      rw [List.getElem?_map, ga, hqa]; rfl
     let Td : World → Prop := fun W' => Inv N (cj j + q - n + 1) W' ∧ Txt W' p e lim na O M ∧ Its W' e t.items M ∧ N ≤ W'.heap.size ∧ W'.heap[b1]? = some (.cells #[.pointer (some (at0 p))] 27 (0, 0)) ∧ W'.heap[b2]? = some (.cells #[f] 97 (0, 0)) ∧
      W'.heap[b7]? = some (.cells #[.int .i64 ((n - (cj j + q) : Nat) : Int)] 3 (0, 0)) ∧ W'.heap[b8]? = some (.cells #[.int .i64 ((cnt - (cj j + q - n) : Nat) : Int)] 3 (0, 0)) ∧
      Stay W W' ∧ W'.heap[w10.heap.size + 1]? = some (.loop (rc .busy none)) ∧ W'.heap[b18]? = some (.cells (Cells.vals c93 (pcT x)).toArray 93 (0, 0))
     have told : ∀ W', Stay W5 W' → Upd (fun k => U k ∨ N ≤ k) W5 W' → Inv N (cj j + q - n + 1) W' → Td W' := by
      intro W' s u iv
      have own : ∀ k, O k → ¬ (U k ∨ N ≤ k) := fun k hk hh => hh.elim (fun hu => (hU k hu).2 hk) (fun hn => by have := hO k hk; omega)
      have mine : ∀ k, w.heap.size ≤ k → k < N → ¬ (U k ∨ N ≤ k) := fun k g1 g2 hh => hh.elim (fun hu => by have := (hU k hu).1; omega) (fun hn => by omega)
      have a5 := b5.1
      exact ⟨iv, a5.txt.stay u own s, a5.its.upd u (fun x hx k hk => own k (hOt x hx k hk)), Nat.le_trans a5.size u.size, u.get a5.h1 (mine _ o1 (by omega)), u.get a5.h2 (mine _ o2 (by omega)), u.get a5.h7 (mine _ o7 b7N), u.get a5.h8 (mine _ o8 b8N), b5.2.1.trans s, u.get b5.2.2.1 (mine _ (by omega) lN), s.at_ _ _ b5.2.2.2 rfl⟩
     refine join_r (fun _ W' => Td W') ?_ ?_
     ·refine ld_r b5.2.2.2 (x := x.tag) rfl (sif_r (fun hneg => ?_) (fun hneg => ?_))
      ·simp only [decide_eq_true_eq] at hneg
       have htag : restTag y.1 (szs ((ats e y.2).take q)) = -1 := by
        have := hp.tag
        unfold restTag; rw [if_neg (by omega)]; omega
       rw [htag] at gt
       exact ld_r b5.1.h2 (x := f) rfl (hsee N (cj j + q - n) a (-1) W5 _ NN b5.1.size hlt5 ga' gt b5.1.inv told)
      ·simp only [decide_eq_false_iff_not] at hneg
       have htag : restTag y.1 (szs ((ats e y.2).take q)) = x.tag + ((szs ((ats e y.2).take q) : Nat) : Int) := by
        have := hp.tag
        unfold restTag; rw [if_pos (by omega)]; omega
       rw [htag] at gt
       refine ld_r b5.1.h2 (x := f) rfl (ld_r b5.2.2.2 (x := x.tag) rfl ?_)
       rw [wrap64 (by omega) (by have := hp.tag; omega)]
       exact hsee N (cj j + q - n) a _ W5 _ NN b5.1.size hlt5 ga' gt b5.1.inv told
     ·rintro _ W6 ⟨iv, tx, is, sz, g1, g2, g7, g8, st, gl, g18⟩
      refine ld_r g8 (x := ((cnt - (cj j + q - n) : Nat) : Int)) rfl (stC_r g8 Nat.one_pos fun W7 u7 k7 z7 => ?_)
      have s7 : Stay W6 W7 := fr_none g8 rfl u7
      have e7 : IntKind.wrap .i64 (((cnt - (cj j + q - n) : Nat) : Int) - 1) = ((cnt - (cj j + (q + 1) - n) : Nat) : Int) := by rw [wrap64 (by omega) (by omega)]; omega
      rw [e7] at k7
      have ec : cj j + q - n + 1 = cj j + (q + 1) - n := by omega
      have iv7 : Inv N (cj j + (q + 1) - n) W7 := by
       rw [← ec]; exact hs N _ W6 W7 _ NN sz iv u7 (fun k hk => by subst hk; exact ⟨o8, b8N⟩)
      have en7 : n - (cj j + q) = n - (cj j + (q + 1)) := by omega
      rw [en7] at g7
      have st7 := st.trans s7
      have gl7 := u7.get1 gl (by omega)
      refine ld_r k7 (x := ((cnt - (cj j + (q + 1) - n) : Nat) : Int)) rfl (sif_r (fun hz => ?_) (fun hz => ?_))
      ·simp only [beq_iff_eq] at hz
       obtain ⟨u8, r8⟩ := upd_putObj (o' := .loop (rc .done (some .ret))) gl7
       refine ⟨⟨_, _, gl7⟩, hRf .ret _ (st7.trans (Stay.upd u8 fun k hk o ho => by subst hk; rw [gl7] at ho; cases ho; rfl)) r8 ⟨rfl, ?_, ?_⟩⟩
       ·have : cnt = cj j + (q + 1) - n := by omega
        conv => lhs; rw [this]
        exact hs N _ W7 _ _ NN (Nat.le_trans sz u7.size) iv7 u8 (fun k hk => by subst hk; exact ⟨by omega, lN⟩)
       ·exact Nat.le_trans (Nat.le_trans sz u7.size) u8.size
      ·simp only [beq_eq_false_iff_ne] at hz
       exact ⟨⟨iv7, by omega, tx.stay u7 (fun k hk e => by subst e; have := hO _ hk; omega) s7, is.upd u7 (fun x hx k hk e => by subst e; have := hO _ (hOt x hx _ hk); omega), Nat.le_trans sz u7.size, u7.get1 g1 (by omega), u7.get1 g2 (by omega), u7.get1 g7 (by omega), k7⟩, st7, gl7, u7.get1 g18 (by omega)⟩
   ·intro _ W6 b6
    refine ⟨⟨q + 1, by omega, by dsimp only; rw [ewa], b6⟩, ?_⟩
    dsimp only
    rw [ewa]; omega
  ·simp only [decide_eq_false_iff_not] at hge
   have hqe := pos_end (e := e) (l := y.2) (j := q) (by omega)
   have hql : q = (ats e y.2).length := by
    have := congrArg List.length hqe
    rw [List.length_take] at this; omega
   obtain ⟨u8, r8⟩ := upd_putObj (o' := .loop (rc .ready none)) b3.2.2.1
   have s8 : Stay W3 (W3.putObj (w10.heap.size + 1) (.loop (rc .ready none))) := Stay.upd u8 fun k hk o ho => by subst hk; rw [b3.2.2.1] at ho; cases ho; rfl
   refine ⟨⟨_, _, b3.2.2.1⟩, hRt _ (b3.2.1.trans s8) ?_ r8⟩
   rw [hcn, ← hql]
   exact atU (w10.heap.size + 1) b3.1 (by omega) lN (by omega) (by omega) (by omega) (by omega) u8 s8
 ·intro W W' ha _ _
  exfalso
  have h1 := hcj (t.items.length - i)
  have h2 : M.take (i + (t.items.length - i)) = M := List.take_of_length_le (by omega)
  rw [h2] at h1
  have := ha.lt
  omega
 ·rintro ec W W' ⟨rfl, iv, sz⟩ hD u
  obtain ⟨u2, _⟩ := upd_putObj (o' := .deferred none) hD
  refine ⟨hD, hK N _ (by omega) (Nat.le_trans (Nat.le_trans sz u.size) u2.size) ?_⟩
  have i1 := hs N _ W W' _ (by omega) sz iv u (fun k hk => by subst hk; exact ⟨by omega, by show _ < w10.heap.size + 2; omega⟩)
  exact hs N _ W' _ _ (by omega) (Nat.le_trans sz u.size) i1 u2 (fun k hk => by subst hk; exact ⟨by omega, by show _ < w10.heap.size + 2; omega⟩)
end
section
variable {w w' : World} {S : Nat → Prop} {p : Nat} {e : Enc} {lim na : Nat} {O : Nat → Prop} {M : Parts}
abbrev iv (l : List Int) : List Value := l.map (Value.int .i64)
def sub (A : List Int) (from_ to_ : Int) : List Int := (A.drop from_.toNat).take (to_.toNat - from_.toNat)
theorem sub_take (A : List Int) (from_ to_ : Int) : sub A from_ to_ = (A.drop from_.toNat).take (min to_.toNat A.length - from_.toNat) := by
 unfold sub
 rw [List.take_eq_take_iff, List.length_drop]; omega
theorem eInts : ElemOk Tryz.prog 37 3 1 8 := ElemOk.of (z := .int .i64 0) i37_ok i3_ok rfl rfl rfl (by decide)
theorem iv_box {b : Nat} {a : Int} (h : w.heap[b]? = some (.cells #[.int .i64 a] 3 (0, 0))) : SlX w ⟨some (at0 b), 1, 1⟩ 1 [.int .i64 a] := (SlIn.of_box h (n := 1) (sz := 1) rfl).x
theorem atoms_call {from_ to_ : Int} (h : Txt w p e lim na O M) {K : Sl → World → Prop} (hK : ∀ s w', SlOwn w' w.heap.size s 3 1 (iv (sub (atoms (aOf e M)) from_ to_)) → Ext w w' → K s w') :
  callT Tryz.prog 25 #[.pointer (some (at0 p)), .int .i64 from_, .int .i64 to_] (.one (.one .sl)) K w := by
 refine F25_calls ?_
 unfold F25
 have few := h.few; have lims := h.lims
 have hal : (atoms (aOf e M)).length = (aOf e M).length := List.length_map _
 rw [sub_take, hal] at hK
 generalize hcnt : min to_.toNat (aOf e M).length - from_.toNat = cnt at *
 have hcl : cnt ≤ 1048576 := by omega
 refine newO_r fun b1 w1 e1 n1 hb1 hz1 => ?_
 have h1 := h.ext e1
 refine twalk_call h1 rfl (fun k => k = b1) (fun k hk => ⟨by omega, fun ho => by have := h.own k ho; omega⟩)
  (fun N j W => ∃ s, W.heap[b1]? = some (.cells #[.slice s.a s.len s.cap] 37 (0, 0)) ∧ SlOwn W N s 3 1 (iv (((atoms (aOf e M)).drop from_.toNat).take j)) ∧ Upd (fun k => k = b1) w1 W) ?_ ?_ ?_ ?_
 ·intro N W x hN hW
  exact ⟨⟨none, 0, 0⟩, x.ext_get n1, by rw [List.take_zero]; exact SlOwn.nil W N _ _, x.mono fun _ _ h => h.elim⟩
 ·rintro N j W W' S hN hW ⟨s, g1, g2, g3⟩ u hS
  refine ⟨s, u.get g1 (fun hb => by have := (hS _ hb).1; omega), g2.upd u (fun k hk _ hs => by have := (hS _ hs).2; omega), g3.new u fun k hk hs => by have := (hS _ hs).1; omega⟩
 ·rintro N j a tag W K' hN hW hj ha _ ⟨s, g1, g2, g3⟩ hK'
  have g2l := g2.len1
  rw [List.length_map, List.length_take, List.length_drop] at g2l
  refine func_x (caps := #[.pointer (some (at0 b1))]) (by kernel_rfl) ?_
  refine F58_calls ?_
  unfold F58
  refine ld_r g1 (x := s) rfl (newO_r fun b2 w2 e2 n2 hb2 hz2 => ?_)
  refine append_rx eInts eInts.ts_ (x := ⟨some (at0 b2), 1, 1⟩) (g2.ext e2) (iv_box n2) (fun v hv => by rw [List.mem_singleton.1 hv]; rfl) (by
   show (s.len + 1 + (s.len + 1) / 4 + 512) * 8 ≤ 2 ^ 48
   omega) (by omega) fun s' w3 o3 l3 u3 b3 => ?_
  have k3 : ∀ k, s.blk k → N ≤ k := fun k hk => g2.blk_ge hk
  have g13 : w3.heap[b1]? = some (.cells #[.slice s.a s.len s.cap] 37 (0, 0)) := u3.get (e2.ext_get g1) (fun hb => by have := k3 _ hb; omega)
  refine stC_r g13 Nat.one_pos fun w4 u4 n4 _ => ?_
  have o4 : SlOwn w4 N s' 3 1 _ := o3.box g13 (by decide) u4
  have e4 : iv (((atoms (aOf e M)).drop from_.toNat).take j) ++ [.int .i64 a] = iv (((atoms (aOf e M)).drop from_.toNat).take (j + 1)) := by
   rw [List.take_add_one, List.getElem?_drop, ha]
   simp
  rw [e4] at o4
  have s3 : Stay w2 w3 := Stay.upd u3 fun k hk o ho => by
   obtain ⟨c, fr, hc⟩ := (g2.ext e2).in.blk_cells hk
   rw [ho] at hc; cases hc; rfl
  refine hK' w4 (((Stay.ext e2).trans s3).trans (fr_none g13 rfl u4)) ?_ ⟨s', n4, o4, ?_⟩
  ·refine ((e2.mono fun _ _ h => h.elim).trans (u3.mono fun k _ hk => .inr (k3 k hk))).trans (u4.mono fun k _ hk => .inl hk)
  ·exact (g3.new (e2.mono fun _ _ h => h.elim) (S' := fun _ => False) (fun _ _ h => h.elim)).new (u3.mono fun k _ hk => k3 k hk) (S' := fun k => N ≤ k) (fun k hk hn => by omega) |>.trans u4
 ·rintro N W hN hW ⟨s, g1, g2, g3⟩
  rw [hcnt] at g2
  refine ld_r g1 (x := s) rfl (hK s W (g2.mono (by omega)) ?_)
  exact e1.step g3 fun k hk => by omega
end
end Go.Proofs.YtolhlldgnfbemaaGreat
namespace Go.Vx
open Go Go.ChangeShapes
theorem cell_spot {w : World} {a : Addr} {v : Value} (h : w.cell? a = some v) : a.spot = none ∧ ∃ c t fr, w.heap[a.block]? = some (.cells c t fr) ∧ c[a.off]? = some v := by
 unfold World.cell? at h
 split at h
 ·rename_i c t fr hh
  split at h
  ·cases h
  ·rename_i hs
   exact ⟨by cases hsp : a.spot with | none => rfl | some _ => rw [hsp] at hs; exact absurd rfl hs, c, t, fr, hh, h⟩
 ·cases h
theorem add_spot (a : Addr) (n : Nat) (h : a.spot = none) : a.add n = ⟨a.block, a.off + n, none⟩ := by
 obtain ⟨b, o, s⟩ := a
 simp only at h
 subst h
 exact addr_add b o n
theorem cells_get {w : World} {base : Nat} {a : Addr} {n : Nat} {r : List Value} (h : w.cells? base a n = some r) : r.length = n ∧ ∀ j, j < n → w.cell? (a.add j) = r[j]? := by
 unfold World.cells? at h
 split at h
 ·have hl := mapM_some_length h
  rw [List.length_range] at hl
  refine ⟨hl, fun j hj => ?_⟩
  exact mapM_some_get h j j (by simp [hj])
 ·cases h
section
variable {H : Type} {enc : TypeId × Value → H} {P : Program} {W : World} {base fuel : Nat} {held : Bool}
theorem weights_all {e : TypeId} {d : DataW H} {n : Nat} (hn : n ∈ d.weights P e) : ∀ l : List (DataW H), d ∈ l → n ∈ DataW.weightsAll P e l
 | [], h => by cases h
 | x :: r, h => by
  simp only [DataW.weightsAll, List.mem_append]
  rcases List.mem_cons.1 h with rfl | h
  ·exact .inl hn
  ·exact .inr (weights_all hn r h)
theorem open_rowsM {t e : TypeId} {sz : Nat} {cs : List Value} {x : DataW H × List MemPlace} (ht : P.underlying t = some (.slice e)) (hsz : P.cellsOf e = sz) (hpos : 0 < sz)
  (h : DataW.trod enc P W base (fun _ => true) held fuel t cs = some x) (hw : ∀ n ∈ x.1.weights P t, n ≤ reachBytes) :
  ∃ (s : Sl) (rows : List (List Value)), cs = [.slice s.a s.len s.cap] ∧ SlX W s sz rows.flatten ∧ rows.length = s.len ∧ s.len * P.bytesOf e ≤ reachBytes ∧ (s.len = 0 ∨ ∃ els rst, x.1 = .slice els rst ∧ els.length = s.len) ∧
   ∀ r ∈ rows, r.length = sz ∧ ∃ n y, DataW.trod enc P W base (fun _ => true) held n e r = some y ∧ (∀ k ∈ y.1.weights P e, k ≤ reachBytes) ∧ ∃ els rst, x.1 = .slice els rst ∧ y.1 ∈ els := by
 rcases DataW.trod_slice ht h with ⟨rfl, rfl⟩ | ⟨a, len, cap, elems, rest, n, _, rfl, rfl, hb, hl, hm, hlen, hel, hsp, _⟩
 ·exact ⟨⟨none, 0, 0⟩, [], rfl, ⟨.inl ⟨rfl, rfl⟩⟩, rfl, by simp, .inl rfl, fun r hr => by cases hr⟩
 obtain ⟨hrl, hre⟩ := hsp rfl
 subst hsz
 have each : ∀ i, i < len → ∃ r y, W.cells? base (a.add (i * P.cellsOf e)) (P.cellsOf e) = some r ∧ elems[i]? = some y ∧ DataW.trod enc P W base (fun _ => true) held n e r = some y := by
  intro i hi
  have h1 := hel i hi
  rw [List.getElem?_eq_getElem (by omega)] at h1
  obtain ⟨r, h2, h3⟩ := Option.bind_eq_some_iff.1 h1
  exact ⟨r, _, h2, List.getElem?_eq_getElem (by omega), h3⟩
 have wn : (elems.length + rest.length) * P.bytesOf e ≤ reachBytes := by
  have := hw ((elems.length + rest.length) * P.bytesOf e) (by simp [DataW.weights, ht])
  exact this
 refine ⟨⟨some a, len, cap⟩, (List.range len).map fun i => (W.cells? base (a.add (i * P.cellsOf e)) (P.cellsOf e)).getD [], rfl, ?_, by simp, ?_, .inr ⟨_, _, rfl, by simp [hlen]⟩, ?_⟩
 ·by_cases h0 : len = 0
  ·subst h0; exact ⟨.inl ⟨rfl, rfl⟩⟩
  have last : ∃ v, W.cell? ((a.add ((cap - 1) * P.cellsOf e)).add (P.cellsOf e - 1)) = some v := by
   have fin : ∀ r, W.cells? base (a.add ((cap - 1) * P.cellsOf e)) (P.cellsOf e) = some r → ∃ v, W.cell? ((a.add ((cap - 1) * P.cellsOf e)).add (P.cellsOf e - 1)) = some v := by
    intro r hr
    obtain ⟨g1, g2⟩ := cells_get hr
    rw [g2 _ (by omega)]
    exact ⟨_, List.getElem?_eq_getElem (by omega)⟩
   by_cases hcl : cap - 1 < len
   ·obtain ⟨r, _, h1, _⟩ := each (cap - 1) hcl
    exact fin r h1
   ·have h1 := hre (cap - 1 - len) (by omega)
    rw [show len + (cap - 1 - len) = cap - 1 by omega] at h1
    rw [List.getElem?_eq_getElem (by omega)] at h1
    obtain ⟨r, h2, _⟩ := Option.bind_eq_some_iff.1 h1
    exact fin r h2
  obtain ⟨v, hv⟩ := last
  have hspot : a.spot = none := by
   obtain ⟨r, _, h1, _⟩ := each 0 (by omega)
   obtain ⟨g1, g2⟩ := cells_get h1
   have h2 := g2 0 (by omega)
   rw [Nat.zero_mul, List.getElem?_eq_getElem (by omega)] at h2
   exact (cell_spot h2).1
  rw [add_spot a _ hspot, addr_add] at hv
  obtain ⟨_, c, tt, fr, hh, hc⟩ := cell_spot hv
  simp only at hh hc
  have hlast := (Array.getElem?_eq_some_iff.1 hc).1
  have hcap : (cap - 1) * P.cellsOf e + P.cellsOf e = cap * P.cellsOf e := by rw [← Nat.succ_mul]; congr 1; omega
  have rowlen : ∀ i, i < len → ((W.cells? base (a.add (i * P.cellsOf e)) (P.cellsOf e)).getD []).length = P.cellsOf e := by
   intro i hi
   obtain ⟨r, _, h1, _⟩ := each i hi
   rw [h1]; exact (cells_get h1).1
  refine ⟨.inr ⟨tt, ?_, hl, .inr ⟨a.block, a.off, c, fr, ?_, hh, by simp only; omega, ?_⟩⟩⟩
  ·have key : ∀ (k : Nat), k ≤ len → (((List.range k).map fun i => (W.cells? base (a.add (i * P.cellsOf e)) (P.cellsOf e)).getD []).flatten).length = k * P.cellsOf e := by
    intro k
    induction k with
    | zero => intro _; simp
    | succ k ih =>
     intro hk
     rw [List.range_succ, List.map_append, List.flatten_append, List.length_append, ih (by omega), Nat.succ_mul]
     simp [rowlen k (by omega)]
   exact key len (Nat.le_refl _)
  ·obtain ⟨b, o, s⟩ := a
   simp only at hspot
   subst hspot
   rfl
  ·have key : ∀ (k : Nat), k ≤ len → ∀ i v, (((List.range k).map fun i => (W.cells? base (a.add (i * P.cellsOf e)) (P.cellsOf e)).getD []).flatten)[i]? = some v → c[a.off + i]? = some v := by
    intro k
    induction k with
    | zero => intro _ i v hi; simp at hi
    | succ k ih =>
     intro hk i v hi
     have hkl : (((List.range k).map fun i => (W.cells? base (a.add (i * P.cellsOf e)) (P.cellsOf e)).getD []).flatten).length = k * P.cellsOf e := by
      have key2 : ∀ (k : Nat), k ≤ len → (((List.range k).map fun i => (W.cells? base (a.add (i * P.cellsOf e)) (P.cellsOf e)).getD []).flatten).length = k * P.cellsOf e := by
       intro k
       induction k with
       | zero => intro _; simp
       | succ k ih =>
        intro hk
        rw [List.range_succ, List.map_append, List.flatten_append, List.length_append, ih (by omega), Nat.succ_mul]
        simp [rowlen k (by omega)]
      exact key2 k (by omega)
     rw [List.range_succ, List.map_append, List.flatten_append] at hi
     by_cases hik : i < k * P.cellsOf e
     ·rw [List.getElem?_append_left (by omega)] at hi
      exact ih (by omega) i v hi
     ·rw [List.getElem?_append_right (by omega), hkl] at hi
      simp only [List.map_cons, List.map_nil, List.flatten_cons, List.flatten_nil, List.append_nil] at hi
      obtain ⟨r, _, h1, _⟩ := each k (by omega)
      rw [h1] at hi
      simp only [Option.getD_some] at hi
      obtain ⟨g1, g2⟩ := cells_get h1
      have hj := (List.getElem?_eq_some_iff.1 hi).1
      have := g2 (i - k * P.cellsOf e) (by omega)
      rw [hi, add_spot a _ hspot, addr_add] at this
      obtain ⟨_, c', t', fr', hh', hc'⟩ := cell_spot this
      simp only at hh' hc'
      rw [hh] at hh'
      cases hh'
      rw [show a.off + i = a.off + k * P.cellsOf e + (i - k * P.cellsOf e) by omega]
      exact hc'
   exact key len (Nat.le_refl _)
 ·have : len * P.bytesOf e ≤ (elems.length + rest.length) * P.bytesOf e := Nat.mul_le_mul_right _ (by omega)
  exact Nat.le_trans this wn
 ·intro r hr
  obtain ⟨i, hi, rfl⟩ := List.mem_map.1 hr
  have hi := List.mem_range.1 hi
  obtain ⟨r, y, h1, h2, h3⟩ := each i hi
  rw [h1]
  refine ⟨(cells_get h1).1, n, y, h3, fun k hk => hw k ?_, _, _, rfl, List.mem_map.2 ⟨y, List.mem_of_getElem? h2, rfl⟩⟩
  simp only [DataW.weights, ht, List.mem_cons, List.mem_append]
  exact .inr (.inl (weights_all hk _ (List.mem_map.2 ⟨y, List.mem_of_getElem? h2, rfl⟩)))
theorem open_rows {t e : TypeId} {sz : Nat} {cs : List Value} {x : DataW H × List MemPlace} (ht : P.underlying t = some (.slice e)) (hsz : P.cellsOf e = sz) (hpos : 0 < sz)
  (h : DataW.trod enc P W base (fun _ => true) held fuel t cs = some x) (hw : ∀ n ∈ x.1.weights P t, n ≤ reachBytes) :
  ∃ (s : Sl) (rows : List (List Value)), cs = [.slice s.a s.len s.cap] ∧ SlX W s sz rows.flatten ∧ rows.length = s.len ∧ s.len * P.bytesOf e ≤ reachBytes ∧
   ∀ r ∈ rows, r.length = sz ∧ ∃ n y, DataW.trod enc P W base (fun _ => true) held n e r = some y ∧ ∀ k ∈ y.1.weights P e, k ≤ reachBytes := by
 obtain ⟨s, rows, h1, h2, h3, h4, _, h5⟩ := open_rowsM ht hsz hpos h hw
 exact ⟨s, rows, h1, h2, h3, h4, fun r hr => by obtain ⟨a, n, y, b, c, _⟩ := h5 r hr; exact ⟨a, n, y, b, c⟩⟩
theorem open_i64 {t : TypeId} {cs : List Value} {x : DataW H × List MemPlace} (ht : P.underlying t = some (.int .i64)) (h : DataW.trod enc P W base (fun _ => true) held fuel t cs = some x) : ∃ n, cs = [.int .i64 n] ∧ (Lit.int .i64 n).wf = true := by
 cases fuel with
 | zero => simp [DataW.trod] at h
 | succ m =>
  unfold DataW.trod at h
  rw [ht] at h
  split at h <;> simp_all
theorem rows_of {cs : List Cell} {Q : Cells.T cs → Prop} : ∀ (rows : List (List Value)), (∀ r ∈ rows, ∃ x, r = Cells.vals cs x ∧ Q x) → ∃ xs : List (Cells.T cs), rows.flatten = flat cs xs ∧ xs.length = rows.length ∧ ∀ x ∈ xs, Q x
 | [], _ => ⟨[], rfl, rfl, fun x hx => by cases hx⟩
 | r :: rs, h => by
  obtain ⟨x, hx, hq⟩ := h r List.mem_cons_self
  obtain ⟨xs, h1, h2, h3⟩ := rows_of rs fun r' hr' => h r' (List.mem_cons_of_mem _ hr')
  refine ⟨x :: xs, ?_, by simp [h2], fun y hy => ?_⟩
  ·rw [List.flatten_cons, h1, hx]; rfl
  ·rcases List.mem_cons.1 hy with rfl | hy
   ·exact hq
   ·exact h3 y hy
end
end Go.Vx
namespace Go.Vx
open Go Go.ChangeShapes Go.RowKit
section
variable {H : Type} {enc : TypeId × Value → H} {P : Program} {W W' : World}
theorem Ext.below (e : Ext W W') : Below W.heap.size W W' := ⟨e.os, e.tape, e.output, e.size, fun k hk => e.at_ k hk id⟩
theorem stays_all (hl : laidOutB P = true) {sp : Nat → Bool} : ∀ {ts : List TypeId} {vs : List Value} {ds : List (DataW H)} {ps : List MemPlace}, (∀ t ∈ ts, P.readableRec t = true ∧ t < P.types.size) →
  DataW.TrodAll enc P W 0 (fun _ => true) true ts vs ds ps → (∀ p ∈ ps, W.sameAt W' p) → (∀ p ∈ ps, sp p.block = true) → DataW.TrodAll enc P W' 0 sp true ts vs ds ps
 | [], [], [], _, _, h, _, _ => h
 | t :: ts, v :: vs, d :: ds, ps, hr, ⟨p, q, h1, h2, e⟩, hs, hsp => by
  subst e
  exact ⟨p, q, WideElems.Trod_stays hl (hr t List.mem_cons_self).1 (hr t List.mem_cons_self).2 h1 (fun x hx => hs x (List.mem_append_left _ hx)) (fun x hx => hsp x (List.mem_append_left _ hx)),
   stays_all hl (fun t' ht' => hr t' (List.mem_cons_of_mem _ ht')) h2 (fun x hx => hs x (List.mem_append_right _ hx)) (fun x hx => hsp x (List.mem_append_right _ hx)), rfl⟩
 | [], _ :: _, _, _, _, h, _, _ => h.elim
 | [], [], _ :: _, _, _, h, _, _ => h.elim
 | _ :: _, [], _, _, _, h, _, _ => h.elim
 | _ :: _, _ :: _, [], _, _, h, _, _ => h.elim
theorem post_same {f : Func} {s : ChangeSpec} {apart fresh handsOn again : Bool} {args : Array Value} {ds gs : List (DataW H)} {before : List MemPlace} {tb : TypeId}
  (hW : DataW.Whole enc P f.params.toList s.vars apart W args.toList ds gs before) (hv : s.vars = []) (hr : f.resultTypes = #[tb]) (hb : P.underlying tb = some .bool)
  (hs : s.fn H (ds ++ gs) = { results := [.lit (.bool true)], args := ds }) (hl : laidOutB P = true) (hrd : ∀ t ∈ f.params.toList, P.readableRec t = true ∧ t < P.types.size)
  (e : Ext W W') : s.post enc P f apart fresh handsOn again W args (.bool true) W' := by
 have hlt := hW.lt
 have hW0 := hW
 obtain ⟨pa, pv, hA, hV, rfl, hz, hn⟩ := hW
 have hBl := e.below
 have hsame : ∀ p ∈ pa ++ pv, W.sameAt W' p := fun p hp => hBl.same (hlt p hp)
 have hold : ∀ p ∈ pa ++ pv, (fun b => decide (b < W.heap.size)) p.block = true := fun p hp => by simpa using hlt p hp
 have hres : ∀ (b : Nat) (sp : Nat → Bool) (hd : Bool), DataW.TrodAll enc P W' b sp hd f.resultTypes.toList ((Value.bool true).resultList f.resultTypes.size) (s.fn H (ds ++ gs)).results [] := by
  intro b sp hd
  rw [hs, hr]
  exact trodAll_mk1 ⟨1, by simp [DataW.trod, hb, Value.cells]⟩
 have hargs : ∀ sp : Nat → Bool, (∀ p ∈ pa, sp p.block = true) → DataW.TrodAll enc P W' 0 sp true f.params.toList args.toList (s.fn H (ds ++ gs)).args pa := by
  intro sp hsp
  rw [hs]
  exact stays_all hl hrd hA (fun p hp => hsame p (List.mem_append_left _ hp)) hsp
 have hgs : gs = [] ∧ pv = [] := by
  rw [hv] at hV
  exact trodVars_none hV
 obtain ⟨rfl, rfl⟩ := hgs
 have hvars : ∀ sp : Nat → Bool, DataW.TrodVars enc P W' sp s.vars (s.fn H (ds ++ [])).vars [] := by
  intro sp
  rw [hs, hv]
  exact rfl
 have hall : ∀ p ∈ ([] ++ pa) ++ [], p ∈ pa ++ [] := fun p hp => by simpa using hp
 refine ⟨ds, [], pa ++ [], [], pa, [], hW0, hres _ _ _, hargs _ (fun p hp => hold p (List.mem_append_left _ hp)), hvars _, hBl.frame _, fun _ => ⟨ok_one hr rfl (okWide_bool_mk hb true), [.lit (.bool true)] ++ ds, [], ([] ++ pa) ++ [], ?_, fun p hp _ => hall p hp⟩⟩
 have h1 := trodAll_append (hargs (fun _ => true) (fun _ _ => rfl)) (hres 0 (fun _ => true) true)
 rw [hs] at h1
 have h2 := hvars (fun _ => true)
 rw [hs] at h2
 refine ⟨[] ++ pa, [], h1, h2, rfl, ?_, fun ha => ?_⟩
 ·intro b off hp
  have hp' := hall _ hp
  have hb' := hlt _ hp'
  rw [hBl.frozen (p := ⟨b, off, none⟩) hb']
  exact hz b off hp'
 ·have := hn ha
  simpa using this
end
end Go.Vx
namespace Go.Proofs.YtolhlldgnfbemaaGreat
open Go Go.Vx Gly Clu
section
variable {w w' : World}
theorem cell_ext {a : Addr} {v : Value} (h : w.cell? a = some v) (x : Ext w w') : w'.cell? a = some v := by
 obtain ⟨hs, c, t, fr, hh, hc⟩ := cell_spot h
 obtain ⟨b, o, s⟩ := a
 simp only at hs hh hc
 subst hs
 exact cell_of (x.ext_get hh) hc
theorem ix_ldE {c : Cell} {s : Sl} {t : TypeId} {xs : List c.T} {n : Int} {K : Addr → c.T → World → Prop} (h : SlIn w s t 1 (xs.map c.val)) (h0 : 0 ≤ n) {x : c.T} (hx : xs[n.toNat]? = some x)
  (hK : ∀ p, (∀ w', Ext w w' → w'.cell? (p.add (scaled (Int.toNat n) 1)) = some (c.val x)) → K p x w) : ix s.a s.len n (fun p => ld c (p.add (scaled (Int.toNat n) 1)) (K p)) w := by
 have hlt := (List.getElem?_eq_some_iff.1 hx).1
 have hl := h.len
 rw [List.length_map, Nat.mul_one] at hl
 refine h.ix h0 (by omega) (by omega) fun b off ha hv => ?_
 have := hv 0 (c.val x) (by rw [Nat.mul_one, Nat.add_zero, List.getElem?_map, hx]; rfl)
 have hc : w.cell? ((⟨b, off, none⟩ : Addr).add (scaled (Int.toNat n) 1)) = some (c.val x) := by rw [addr_add]; simpa [scaled] using this
 exact ld_of (x := x) hc (hK _ fun w' x' => cell_ext hc x')
def scO (s : Sc) : Obj := .cells #[.int .i64 (s.last : Int), .int .i64 (s.flags : Int), .int .i64 (s.pict : Int), .int .i64 (s.conj : Int)] 108 (0, 0)
abbrev scT (s : Sc) : Cells.T c108 := ((s.last : Int), (s.flags : Int), (s.pict : Int), (s.conj : Int), ())
theorem nn_eq {a : Addr} {K : Addr → World → Prop} : nn (some a) K = K a := funext fun _ => propext nn_some_iff
theorem apart_call {c : Nat} {K : Bool → World → Prop} (hK : K (apart c) w) : callT Tryz.prog 118 #[.int .i64 (c : Int)] (.one (.one .bool)) K w := by
 refine F118_calls ?_
 unfold F118
 unfold apart at hK
 refine sif_r (fun h => ?_) (fun h => sif_r (fun h2 => ?_) (fun h2 => ?_))
 all_goals simp only [beq_iff_eq, beq_eq_false_iff_ne, ne_eq] at *
 ·rw [decide_eq_true (by omega)] at hK; exact hK
 ·rw [decide_eq_true (by omega)] at hK; exact hK
 ·have : ((c : Int) == 3) = decide (c = 1 ∨ c = 2 ∨ c = 3) := by
   rw [Bool.eq_iff_iff, beq_iff_eq, decide_eq_true_eq]; omega
  rw [this]; exact hK
theorem hangul_call {l r : Nat} {K : Bool → World → Prop} (hK : K (hangul l r) w) : callT Tryz.prog 119 #[.int .i64 (l : Int), .int .i64 (r : Int)] (.one (.one .bool)) K w := by
 refine F119_calls ?_
 unfold F119
 unfold hangul at hK
 have fin : ∀ {b : Bool}, (b = true ↔ ((l = 9 ∧ (r = 9 ∨ r = 10 ∨ r = 12 ∨ r = 13)) ∨ ((l = 12 ∨ l = 10) ∧ (r = 10 ∨ r = 11)) ∨ ((l = 13 ∨ l = 11) ∧ r = 11))) → K b w := by
  intro b hb
  have : b = decide ((l = 9 ∧ (r = 9 ∨ r = 10 ∨ r = 12 ∨ r = 13)) ∨ ((l = 12 ∨ l = 10) ∧ (r = 10 ∨ r = 11)) ∨ ((l = 13 ∨ l = 11) ∧ r = 11)) := by rw [Bool.eq_iff_iff, hb, decide_eq_true_eq]
  rw [this]; exact hK
 refine join_r (fun _ w' => w = w' ∧ (r = 10 ∨ r = 11) ∧ ¬ (r = 10 ∧ l = 9)) ?_ ?_
 ·refine join_r (fun x w' => x = (decide (r = 9 ∨ r = 12 ∨ r = 13), ()) ∧ w = w') ?_ ?_
  ·refine sif_r (fun h => ⟨tupb ?_, rfl⟩) (fun h => sif_r (fun h2 => ⟨tupb ?_, rfl⟩) (fun h2 => ⟨tupb ?_, rfl⟩))
   all_goals simp only [beq_iff_eq, beq_eq_false_iff_ne, ne_eq, decide_eq_true_eq] at *
   all_goals omega
  rintro _ _ ⟨rfl, rfl⟩
  refine sif_r (fun h => fin ?_) (fun h => sif_r (fun h2 => sif_r (fun h3 => fin ?_) (fun h3 => ?_)) (fun h2 => sif_r (fun h3 => ?_) (fun h3 => fin ?_)))
  all_goals simp only [beq_iff_eq, beq_eq_false_iff_ne, ne_eq, decide_eq_true_eq, decide_eq_false_iff_not] at *
  ·omega
  ·simp only [true_iff]; omega
  ·exact ⟨by trivial, by omega, by omega⟩
  ·exact ⟨by trivial, by omega, by omega⟩
  ·simp only [Bool.false_eq_true, false_iff]; omega
 ·rintro _ _ ⟨rfl, h1, h2⟩
  refine join_r (fun x w' => x = (decide (l = 12 ∨ l = 10), ()) ∧ w = w') ?_ ?_
  ·refine sif_r (fun h => ⟨tupb ?_, rfl⟩) (fun h => ⟨tupb ?_, rfl⟩)
   all_goals simp only [beq_iff_eq, beq_eq_false_iff_ne, ne_eq, decide_eq_true_eq, true_iff] at *
   all_goals omega
  rintro _ _ ⟨rfl, rfl⟩
  refine sif_r (fun h => fin ?_) (fun h => sif_r (fun h3 => sif_r (fun h4 => fin ?_) (fun h4 => fin ?_)) (fun h3 => fin ?_))
  all_goals simp only [beq_iff_eq, beq_eq_false_iff_ne, ne_eq, decide_eq_true_eq, decide_eq_false_iff_not, Bool.false_eq_true, false_iff, true_iff] at *
  all_goals omega
theorem note_call {b c p : Nat} {s : Sc} (h : w.heap[b]? = some (scO s)) (hf : s.flags < 2 ^ 60) {K : Unit → World → Prop} (hK : ∀ w', Upd (fun k => k = b) w w' → w'.heap[b]? = some (scO (s.note c p)) → K () w') :
  callT Tryz.prog 115 #[.pointer (some (at0 b)), .int .i64 (c : Int), .int .i64 (p : Int)] (.tup []) K w := by
 refine F115_calls ?_
 unfold F115
 simp only [nn_eq, addr_add]
 unfold scO at h
 refine stC_r h (by show _ < 4; decide) fun w1 u1 n1 _ => ?_
 let O : Nat → Nat → Nat → Nat → Obj := fun a f q j => .cells #[.int .i64 (a : Int), .int .i64 (f : Int), .int .i64 (q : Int), .int .i64 (j : Int)] 108 (0, 0)
 have n1 : w1.heap[b]? = some (O c s.flags s.pict s.conj) := n1
 refine join_r (fun _ W => Upd (fun k => k = b) w W ∧ W.heap[b]? = some (O c (s.note c p).flags s.pict s.conj)) ?_ ?_
 ·refine sif_r (fun hc => ?_) (fun hc => ?_)
  ·simp only [beq_iff_eq] at hc
   have hc : c = 6 := by omega
   refine ld_r n1 (x := (s.flags : Int)) rfl (stC_r n1 (by show _ < 4; decide) fun w2 u2 n2 _ => ⟨u1.trans u2, ?_⟩)
   have e : (s.note c p).flags = s.flags + 1 := by simp [Sc.note, hc]
   rw [e, n2, wrap64 (by omega) (by omega)]; rfl
  ·simp only [beq_eq_false_iff_ne, ne_eq] at hc
   have hc : c ≠ 6 := by omega
   refine stC_r n1 (by show _ < 4; decide) fun w2 u2 n2 _ => ⟨u1.trans u2, ?_⟩
   have e : (s.note c p).flags = 0 := by simp [Sc.note, hc]
   rw [e, n2]; rfl
 rintro _ w2 ⟨u2, n2⟩
 refine join_r (fun _ W => Upd (fun k => k = b) w W ∧ W.heap[b]? = some (O c (s.note c p).flags (s.note c p).pict s.conj)) ?_ ?_
 ·have hp : (s.note c p).pict = if c = 14 then 1 else if s.pict = 1 ∧ c = 5 then 2 else if s.pict = 1 ∧ c = 4 then s.pict else 0 := rfl
  refine sif_r (fun hc => ?_) (fun hc => ?_)
  ·simp only [beq_iff_eq] at hc
   rw [hp, if_pos (by omega)]
   exact stC_r n2 (by show _ < 4; decide) fun w3 u3 n3 _ => ⟨u2.trans u3, n3⟩
  simp only [beq_eq_false_iff_ne, ne_eq] at hc
  rw [hp, if_neg (by omega)]
  refine join_r (fun x W => x = (decide (s.pict = 1 ∧ c = 5), ()) ∧ w2 = W) ?_ ?_
  ·refine ld_r n2 (x := (s.pict : Int)) rfl (sif_r (fun h => ⟨tupb ?_, rfl⟩) (fun h => ⟨tupb ?_, rfl⟩))
   all_goals simp only [beq_iff_eq, beq_eq_false_iff_ne, ne_eq, decide_eq_true_eq, Bool.false_eq_true, false_iff] at *
   all_goals omega
  rintro _ _ ⟨rfl, rfl⟩
  refine sif_r (fun h => ?_) (fun h => ?_)
  ·simp only [decide_eq_true_eq] at h
   rw [if_pos h]
   exact stC_r n2 (by show _ < 4; decide) fun w3 u3 n3 _ => ⟨u2.trans u3, n3⟩
  simp only [decide_eq_false_iff_not] at h
  rw [if_neg h]
  refine join_r (fun x W => x = (decide (s.pict = 1 ∧ c = 4), ()) ∧ w2 = W) ?_ ?_
  ·refine ld_r n2 (x := (s.pict : Int)) rfl (sif_r (fun h => ⟨tupb ?_, rfl⟩) (fun h => ⟨tupb ?_, rfl⟩))
   all_goals simp only [beq_iff_eq, beq_eq_false_iff_ne, ne_eq, decide_eq_true_eq, Bool.false_eq_true, false_iff] at *
   all_goals omega
  rintro _ _ ⟨rfl, rfl⟩
  refine sif_r (fun h => ?_) (fun h => ?_)
  ·simp only [decide_eq_true_eq] at h
   rw [if_pos h]
   exact ⟨u2, n2⟩
  ·simp only [decide_eq_false_iff_not] at h
   rw [if_neg h]
   exact stC_r n2 (by show _ < 4; decide) fun w3 u3 n3 _ => ⟨u2.trans u3, n3⟩
 rintro _ w3 ⟨u3, n3⟩
 have hj : (s.note c p).conj = if p = 1 then 1 else if 0 < s.conj ∧ p = 3 then 2 else if 0 < s.conj ∧ p = 2 then s.conj else 0 := rfl
 have fin : ∀ {q : Nat} {W : World}, (s.note c p).conj = q → Upd (fun k => k = b) w W → W.heap[b]? = some (O c (s.note c p).flags (s.note c p).pict q) → K () W := fun e u n => hK _ u (by subst e; exact n)
 refine sif_r (fun hc => ?_) (fun hc => ?_)
 ·simp only [beq_iff_eq] at hc
  exact stC_r n3 (by show _ < 4; decide) fun w4 u4 n4 _ => fin (q := 1) (by rw [hj, if_pos (by omega)]) (u3.trans u4) n4
 simp only [beq_eq_false_iff_ne, ne_eq] at hc
 rw [if_neg (by omega)] at hj
 refine join_r (fun x W => x = (decide (0 < s.conj ∧ p = 3), ()) ∧ w3 = W) ?_ ?_
 ·refine ld_r n3 (x := (s.conj : Int)) rfl (sif_r (fun h => ⟨tupb ?_, rfl⟩) (fun h => ⟨tupb ?_, rfl⟩))
  all_goals simp only [beq_iff_eq, decide_eq_true_eq, decide_eq_false_iff_not, Bool.false_eq_true, false_iff, gt_iff_lt] at *
  all_goals omega
 rintro _ _ ⟨rfl, rfl⟩
 refine sif_r (fun h => ?_) (fun h => ?_)
 ·simp only [decide_eq_true_eq] at h
  exact stC_r n3 (by show _ < 4; decide) fun w4 u4 n4 _ => fin (q := 2) (by rw [hj, if_pos h]) (u3.trans u4) n4
 simp only [decide_eq_false_iff_not] at h
 rw [if_neg h] at hj
 refine join_r (fun x W => x = (decide (0 < s.conj ∧ p = 2), ()) ∧ w3 = W) ?_ ?_
 ·refine ld_r n3 (x := (s.conj : Int)) rfl (sif_r (fun h => ⟨tupb ?_, rfl⟩) (fun h => ⟨tupb ?_, rfl⟩))
  all_goals simp only [beq_iff_eq, decide_eq_true_eq, decide_eq_false_iff_not, Bool.false_eq_true, false_iff, gt_iff_lt] at *
  all_goals omega
 rintro _ _ ⟨rfl, rfl⟩
 refine sif_r (fun h => ?_) (fun h => ?_)
 ·simp only [decide_eq_true_eq] at h
  exact fin (q := s.conj) (by rw [hj, if_pos h]) u3 n3
 ·simp only [decide_eq_false_iff_not] at h
  exact stC_r n3 (by show _ < 4; decide) fun w4 u4 n4 _ => fin (q := 0) (by rw [hj, if_neg h]) (u3.trans u4) n4
theorem begin_call {a : Int} {K : Cells.T c108 → World → Prop} (hK : ∀ w', Ext w w' → K (scT (sc [a])) w') : callT Tryz.prog 68 #[.int .i64 a] (.one (.agg c108)) K w := by
 refine F68_calls ?_
 unfold F68
 refine (St.start w).newO fun b1 w1 S1 e1 => S1.newO' fun b2 w2 S2 e2 hb2 => class_call fun w3 e3 => conjunct_call fun w4 e4 => ?_
 have S4 := (S2.ext e3).ext e4
 refine note_call (s := Sc.zero) (S4.at_ 0 rfl) (by decide) fun w5 u5 n5 => ?_
 have S5 := set_loc S4 (i := 0) rfl u5 n5
 have e : Sc.zero.note (cls a) (cnj a) = sc [a] := (stp_zero a).symm
 rw [e] at S5
 refine S5.lds 0 (scT (sc [a])) rfl (S5.aggSt 1 rfl rfl rfl rfl fun w6 S6 _ => S6.lds 1 (scT (sc [a])) rfl (hK w6 S6.upd))
theorem takes_call {b : Nat} {s : Sc} {a : Int} (h : w.heap[b]? = some (scO s)) (hf : s.flags < 2 ^ 60) {K : Bool → World → Prop}
  (hK : ∀ w', Upd (fun k => k = b) w w' → w'.heap[b]? = some (scO (if joins s (cls a) (cnj a) then s.note (cls a) (cnj a) else s)) → K (joins s (cls a) (cnj a)) w') :
  callT Tryz.prog 69 #[.pointer (some (at0 b)), .int .i64 a] (.one (.one .bool)) K w := by
 refine F69_calls ?_
 unfold F69
 simp only [nn_eq, addr_add]
 refine class_call fun w1 e1 => conjunct_call fun w2 e2 => ?_
 have e12 := e1.trans e2
 have h2 := e12.ext_get h
 generalize hc : cls a = c at *
 generalize hp : cnj a = p at *
 refine join_r (fun x W => x = (joins s c p, ()) ∧ w2 = W) ?_ ?_
 ·have hj : joins s c p = if s.last = 1 ∧ c = 2 then true else if apart s.last = true ∨ apart c = true then false else if c = 4 ∨ c = 5 ∨ c = 8 ∨ s.last = 7 then true else if hangul s.last c then true
   else if p = 1 ∧ s.conj = 2 then true else if c = 14 then s.pict == 2 else if c = 6 then s.flags % 2 == 1 else false := rfl
  unfold scO at h2
  have l0 : ∀ {K : Int → World → Prop}, K (s.last : Int) w2 → ld (.int .i64) (at0 b) K w2 := fun hk => ld_r h2 (x := (s.last : Int)) rfl hk
  refine join_r (fun x W => x = (decide (s.last = 1 ∧ c = 2), ()) ∧ w2 = W) ?_ ?_
  ·refine l0 (sif_r (fun h => ⟨tupb ?_, rfl⟩) (fun h => ⟨tupb ?_, rfl⟩))
   all_goals simp only [beq_iff_eq, beq_eq_false_iff_ne, ne_eq, decide_eq_true_eq, Bool.false_eq_true, false_iff] at *
   all_goals omega
  rintro _ _ ⟨rfl, rfl⟩
  refine sif_r (fun h => ?_) (fun h => ?_)
  ·simp only [decide_eq_true_eq] at h
   exact ⟨by rw [hj, if_pos h], rfl⟩
  simp only [decide_eq_false_iff_not] at h
  rw [if_neg h] at hj
  refine join_r (fun x W => x = (decide (apart s.last = true ∨ apart c = true), ()) ∧ w2 = W) ?_ ?_
  ·refine l0 (apart_call (sif_r (fun h => ⟨tupb ?_, rfl⟩) (fun h => apart_call ⟨tupb ?_, rfl⟩)))
   all_goals simp only [decide_eq_true_eq] at *
   all_goals simp [h]
  rintro _ _ ⟨rfl, rfl⟩
  refine sif_r (fun h => ?_) (fun h => ?_)
  ·simp only [decide_eq_true_eq] at h
   exact ⟨by rw [hj, if_pos h], rfl⟩
  simp only [decide_eq_false_iff_not] at h
  rw [if_neg h] at hj
  refine join_r (fun x W => x = (decide (c = 4 ∨ c = 5 ∨ c = 8 ∨ s.last = 7), ()) ∧ w2 = W) ?_ ?_
  ·refine sif_r (fun h => ⟨tupb ?_, rfl⟩) (fun h1 => sif_r (fun h => ⟨tupb ?_, rfl⟩) (fun h3 => sif_r (fun h => ⟨tupb ?_, rfl⟩) (fun h4 => l0 ⟨tupb ?_, rfl⟩)))
   all_goals simp only [beq_iff_eq, beq_eq_false_iff_ne, ne_eq, decide_eq_true_eq] at *
   all_goals omega
  rintro _ _ ⟨rfl, rfl⟩
  refine sif_r (fun h => ?_) (fun h => ?_)
  ·simp only [decide_eq_true_eq] at h
   exact ⟨by rw [hj, if_pos h], rfl⟩
  simp only [decide_eq_false_iff_not] at h
  rw [if_neg h] at hj
  refine l0 (hangul_call (sif_r (fun h => ?_) (fun h => ?_)))
  ·exact ⟨by rw [hj, if_pos h], rfl⟩
  rw [if_neg (by rw [h]; decide)] at hj
  refine join_r (fun x W => x = (decide (p = 1 ∧ s.conj = 2), ()) ∧ w2 = W) ?_ ?_
  ·refine sif_r (fun h => ld_r h2 (x := (s.conj : Int)) rfl ⟨tupb ?_, rfl⟩) (fun h => ⟨tupb ?_, rfl⟩)
   all_goals simp only [beq_iff_eq, beq_eq_false_iff_ne, ne_eq, decide_eq_true_eq, Bool.false_eq_true, false_iff] at *
   all_goals omega
  rintro _ _ ⟨rfl, rfl⟩
  refine sif_r (fun h => ?_) (fun h => ?_)
  ·simp only [decide_eq_true_eq] at h
   exact ⟨by rw [hj, if_pos h], rfl⟩
  simp only [decide_eq_false_iff_not] at h
  rw [if_neg h] at hj
  refine sif_r (fun h => ?_) (fun h => ?_)
  ·simp only [beq_iff_eq] at h
   rw [if_pos (by omega)] at hj
   refine ld_r h2 (x := (s.pict : Int)) rfl ⟨?_, rfl⟩
   rw [hj]
   exact tupb (by simp only [beq_iff_eq]; omega)
  simp only [beq_eq_false_iff_ne, ne_eq] at h
  rw [if_neg (by omega)] at hj
  refine sif_r (fun h => ?_) (fun h => ?_)
  ·simp only [beq_iff_eq] at h
   rw [if_pos (by omega)] at hj
   refine ld_r h2 (x := (s.flags : Int)) rfl (chk_r (by decide) ⟨?_, rfl⟩)
   rw [hj, Int.tmod_eq_emod_of_nonneg (by omega)]
   exact tupb (by simp only [beq_iff_eq]; omega)
  ·simp only [beq_eq_false_iff_ne, ne_eq] at h
   rw [if_neg (by omega)] at hj
   exact ⟨by rw [hj], rfl⟩
 rintro _ _ ⟨rfl, rfl⟩
 refine join_r (fun _ W => Upd (fun k => k = b) w W ∧ W.heap[b]? = some (scO (if joins s c p then s.note c p else s))) ?_ (fun _ W h => hK W h.1 h.2)
 refine sif_r (fun h => ?_) (fun h => ?_)
 ·have h : joins s c p = true := h
  rw [if_pos h]
  exact note_call h2 hf fun w3 u3 n3 => ⟨(Upd.of_ext e12).trans u3, n3⟩
 ·have h : joins s c p = false := h
  rw [if_neg (by rw [h]; decide)]
  exact ⟨Upd.of_ext e12, h2⟩
theorem cwalk_call {A : List Int} {s : Sl} {t : TypeId} {at_ : Nat} {y : Value} (hb : bk A at_ = true) (hl : A.length < 2 ^ 59) (Inv : Nat → World → Prop) (Brk : World → Prop)
  (hs : ∀ k W, Inv k W → SlIn W s t 1 (iv A)) (hx : ∀ k W W', Inv k W → Ext W W' → Inv k W')
  (hy : ∀ (i j : Nat) (W : World) (K : Bool → World → Prop), Inv i W → i < j → bk A j = true → (∀ k, i < k → k < j → bk A k = false) → (∀ c W', (c = true → Inv j W') → (c = false → Brk W') → K c W') →
   callX Tryz.prog (do let d ← Deferred.ofValue y #[.int .i64 (j : Int)]; invoke d.target d.args : Sem Next) (.one (.one .bool)) K W)
  (h0 : Inv at_ w) {K : Unit → World → Prop} (hK : ∀ W, Inv A.length W ∨ Brk W → K () W) :
  callT Tryz.prog 42 #[.slice s.a s.len s.cap, .int .i64 (at_ : Int), y] (.tup []) K w := by
 refine F42_calls ?_
 unfold F42
 have hlen : A.length = s.len := by have := (hs _ _ h0).len1; rwa [List.length_map] at this
 refine sloop_r (fun x W => ∃ i, i ≤ A.length ∧ x = ((i : Int), ()) ∧ bk A i = true ∧ Inv i W) (fun x _ => ((A.length : Int) - x.1).toNat) ⟨at_, bk_le hb, rfl, hb, h0⟩ ?_
 rintro _ W ⟨i, hi, rfl, hbi, hI⟩
 refine sif_r (fun hc => ?_) (fun hc => ?_)
 ·simp only [decide_eq_true_eq] at hc
  have hil : i < A.length := by omega
  have ha : A[i]? = some A[i] := List.getElem?_eq_getElem hil
  refine ix_ld (c := .int .i64) (xs := A) (hs _ _ hI) (by omega) (x := A[i]) (by rw [Int.toNat_natCast]; exact ha) fun p => begin_call fun w1 e1 => ?_
  refine newO_r fun b w2 e2 n2 hb2 _ => aggSt_r n2 rfl rfl (by decide) fun w3 u3 n3 _ => ?_
  have e3 : Ext W w3 := (e1.trans e2).step u3 fun k hk => by have := e1.size; omega
  have n3 : w3.heap[b]? = some (scO (sc (A.take (i + 1)))) := by rw [sc_bk hbi ha]; exact n3
  have bW : W.heap.size ≤ b := by have := e1.size; omega
  have ew : IntKind.wrap .i64 ((i : Int) + 1) = ((i + 1 : Nat) : Int) := by rw [wrap64 (by omega) (by omega)]; omega
  rw [ew]
  refine join_r (fun _ W' => Inv i W' ∧ ∀ k, i < k → k < A.length → bk A k = false) ?_ ?_
  ·refine sloop_r (fun x W' => ∃ k, i < k ∧ k ≤ A.length ∧ x = ((k : Int), ()) ∧ Ext W W' ∧ W'.heap[b]? = some (scO (sc (A.take k))) ∧ ∀ q, i < q → q < k → bk A q = false) (fun x _ => ((A.length : Int) - x.1).toNat) ⟨i + 1, by omega, by omega, rfl, e3, n3, fun q h1 h2 => by omega⟩ ?_
   rintro _ W4 ⟨k, hik, hkl, rfl, e4, n4, hno⟩
   refine sif_r (fun hc => ?_) (fun hc => ?_)
   ·simp only [decide_eq_true_eq] at hc
    have hkl : k < A.length := by omega
    have hk : A[k]? = some A[k] := List.getElem?_eq_getElem hkl
    have hI4 := hx _ _ _ hI e4
    have hfl := flags_le (A.take k)
    rw [List.length_take] at hfl
    refine ix_ld (c := .int .i64) (xs := A) (hs _ _ hI4) (by omega) (x := A[k]) (by rw [Int.toNat_natCast]; exact hk) fun p => takes_call n4 (by omega) fun w5 u5 n5 => ?_
    have e5 : Ext W w5 := e4.step u5 fun q hq => by omega
    have hbk := bk_at hk (by omega)
    refine sif_r (fun hj => ?_) (fun hj => ?_)
    ·have ew : IntKind.wrap .i64 ((k : Int) + 1) = ((k + 1 : Nat) : Int) := by rw [wrap64 (by omega) (by omega)]; omega
     rw [if_pos hj, ← stp_joins hj] at n5
     have e : sc (A.take (k + 1)) = stp (sc (A.take k)) A[k] := by rw [List.take_add_one, hk]; exact sc_snoc _ _
     rw [← e] at n5
     refine ⟨⟨k + 1, by omega, by omega, by rw [ew], e5, n5, fun q h1 h2 => ?_⟩, by rw [ew]; omega⟩
     by_cases hq : q = k
     ·rw [hq, hbk, hj]; rfl
     ·exact hno q h1 (by omega)
    ·rw [hj] at hbk
     refine hy i k w5 _ (hx _ _ _ hI e5) hik hbk hno fun c W' h1 h2 => sif_r (fun hn => ?_) (fun hn => ?_)
     ·have hc : c = false := by cases c <;> simp_all
      exact hK W' (.inr (h2 hc))
     ·have hc : c = true := by cases c <;> simp_all
      exact ⟨⟨k, by omega, rfl, hbk, h1 hc⟩, by omega⟩
   ·simp only [decide_eq_false_iff_not] at hc
    exact ⟨hx _ _ _ hI e4, fun q h1 h2 => hno q h1 (by omega)⟩
  ·rintro _ W5 ⟨hI5, hno⟩
   rw [← hlen]
   exact hy i A.length W5 _ hI5 hil (bk_len A) hno fun c W' h1 h2 => hK W' (by cases c with
    | true => exact .inl (h1 rfl)
    | false => exact .inr (h2 rfl))
 ·simp only [decide_eq_false_iff_not] at hc
  have : i = A.length := by omega
  subst this
  exact hK W (.inl hI)
abbrev nv (l : List Nat) : List Value := l.map fun (n : Nat) => Value.int .i64 (n : Int)
theorem cbreaks_call {A : List Int} {s : Sl} {t : TypeId} (hs : SlIn w s t 1 (iv A)) (hl : A.length < 2 ^ 40) {K : Sl → World → Prop} (hK : ∀ s' w', SlOwn w' w.heap.size s' 3 1 (nv (cuts A)) → Ext w w' → K s' w') :
  callT Tryz.prog 17 #[.slice s.a s.len s.cap] (.one (.one .sl)) K w := by
 refine F17_calls ?_
 unfold F17
 refine newO_r fun b1 w1 e1 n1 hb1 _ => newO_r fun b2 w2 e2 n2 hb2 _ => stC_r n2 Nat.one_pos fun w3 u3 n3 _ => ?_
 have e3 : Ext w w3 := (e1.trans e2).step u3 fun k hk => by have := e1.size; omega
 have hb12 : w.heap.size ≤ b2 := by have := e1.size; omega
 have hlt : b1 ≠ b2 := by have := lt_of_heap n1; omega
 have o3 : SlOwn w3 w.heap.size ⟨some (at0 b1), 1, 1⟩ 3 1 (nv [0]) := by
  refine ⟨rfl, Nat.le_refl _, .inr ⟨b1, 0, #[.int .i64 0], rfl, by omega, u3.get (e2.ext_get n1) hlt, by show 0 + 1 * 1 ≤ 1; decide, fun i v hv => ?_⟩⟩
  rw [Nat.zero_add]
  simpa using hv
 refine cwalk_call (A := A) (s := s) (t := t) (at_ := 0) (bk_zero A) (by omega) (fun k W => ∃ o, W.heap[b2]? = some (.cells #[.slice o.a o.len o.cap] 37 (0, 0)) ∧ SlOwn W w.heap.size o 3 1 (nv (cutsTo A k)) ∧ Ext w W ∧ k ≤ A.length) (fun _ => False) ?_ ?_ ?_ ?_ ?_
 ·rintro k W ⟨o, _, _, e, _⟩
  exact hs.ext e
 ·rintro k W W' ⟨o, h1, h2, h3, h4⟩ e
  exact ⟨o, e.ext_get h1, h2.ext e, h3.trans e, h4⟩
 ·rintro i j W K' ⟨o, h1, h2, h3, h4⟩ hij hbj hno hK'
  have hol := h2.len1
  rw [List.length_map] at hol
  have hcl := cutsTo_len A i
  refine func_x (caps := #[.pointer (some (at0 b2))]) (by kernel_rfl) ?_
  refine F47_calls ?_
  unfold F47
  refine ld_r h1 (x := o) rfl (newO_r fun b4 w4 e4 n4 hb4 _ => ?_)
  refine append_rx eInts eInts.ts_ (x := ⟨some (at0 b4), 1, 1⟩) (h2.ext e4) (iv_box n4) (fun v hv => by rw [List.mem_singleton.1 hv]; rfl) (by
   show (o.len + 1 + (o.len + 1) / 4 + 512) * 8 ≤ 2 ^ 48
   omega) (by have := h3.size; have := e4.size; omega) fun o' w5 o5 l5 u5 k5 => ?_
  have n5 : w5.heap[b2]? = some (.cells #[.slice o.a o.len o.cap] 37 (0, 0)) := u5.get (e4.ext_get h1) fun hb => by
   obtain ⟨c, fr, hc⟩ := (h2.ext e4).in.blk_cells hb
   rw [e4.ext_get h1] at hc; cases hc
  refine stC_r n5 Nat.one_pos fun w6 u6 n6 _ => hK' true w6 (fun _ => ⟨o', n6, ?_, ?_, bk_le hbj⟩) (fun h => by cases h)
  ·have := o5.box n5 (by decide) u6
   have e : nv (cutsTo A j) = nv (cutsTo A i) ++ [.int .i64 (j : Int)] := by rw [cutsTo_next hij hbj hno]; simp
   rw [e]; exact this
  ·exact ((h3.trans e4).step u5 fun k hk => h2.blk_ge hk).step u6 fun k hk => by omega
 ·refine ⟨⟨some (at0 b1), 1, 1⟩, n3, ?_, e3, Nat.zero_le _⟩
  rw [cutsTo_zero]
  exact o3
 ·rintro W (⟨o, h1, h2, h3, h4⟩ | h)
  ·exact ld_r h1 (x := o) rfl (hK o W h2 h3)
  ·exact h.elim
end
namespace Clu
noncomputable def snapN (A : List Int) : Nat → Nat
 | 0 => 0
 | n + 1 => if bk A (n + 1) then n + 1 else snapN A n
theorem snapN_le (A : List Int) : ∀ n, snapN A n ≤ n
 | 0 => Nat.le_refl _
 | n + 1 => by rw [snapN]; have := snapN_le A n; split <;> omega
theorem snapN_bk (A : List Int) : ∀ n, bk A (snapN A n) = true
 | 0 => bk_zero A
 | n + 1 => by
  rw [snapN]
  split
  ·rename_i h; exact h
  ·exact snapN_bk A n
theorem snapN_no (A : List Int) : ∀ n k, snapN A n < k → k ≤ n → bk A k = false
 | 0, k, h1, h2 => by omega
 | n + 1, k, h1, h2 => by
  rw [snapN] at h1
  split at h1
  ·omega
  ·rename_i h
   by_cases hk : k = n + 1
   ·rw [hk]; simpa using h
   ·exact snapN_no A n k h1 (by omega)
theorem snapN_eq {A : List Int} {n k : Nat} (h1 : k ≤ n) (hb : bk A k = true) (hn : ∀ q, k < q → q ≤ n → bk A q = false) : snapN A n = k := by
 rcases Nat.lt_trichotomy (snapN A n) k with h | h | h
 ·rw [snapN_no A n k h h1] at hb; cases hb
 ·exact h
 ·have := hn _ h (snapN_le A n)
  rw [snapN_bk] at this; cases this
theorem snapN_self {A : List Int} {n : Nat} : snapN A n = n ↔ bk A n = true :=
 ⟨fun h => by have := snapN_bk A n; rwa [h] at this, fun h => snapN_eq (Nat.le_refl _) h fun q h1 h2 => by omega⟩
end Clu
section
variable {w w' : World}
theorem safe_call {A : List Int} {s : Sl} {t : TypeId} {n : Nat} (hs : SlIn w s t 1 (iv A)) (hl : A.length < 2 ^ 40) (hn : n < 2 ^ 60) {K : Int → World → Prop} (hK : ∀ (k : Nat) w', bk A k = true → (k = 0 ∨ k < min n A.length) → Ext w w' → K (k : Int) w') :
  callT Tryz.prog 81 #[.slice s.a s.len s.cap, .int .i64 (n : Int)] (.one (.one (.int .i64))) K w := by
 refine F81_calls ?_
 unfold F81
 have hlen : A.length = s.len := by have := hs.len1; rwa [List.length_map] at this
 have em : (if ((s.len : Nat) : Int) < (n : Int) then ((s.len : Nat) : Int) else (n : Int)) = ((min n A.length : Nat) : Int) := by split <;> omega
 rw [em, wrap64 (by omega) (by omega)]
 refine join_r (fun _ W => Ext w W) ?_ (fun _ W h => hK 0 W (bk_zero A) (.inl rfl) h)
 refine sloop_r (fun x W => ∃ k : Int, x = (k, ()) ∧ -1 ≤ k ∧ k < ((min n A.length : Nat) : Int) ∧ Ext w W) (fun x _ => (x.1 + 1).toNat) ⟨_, rfl, by omega, by omega, Ext.refl w⟩ ?_
 rintro _ W ⟨k, rfl, h1, h2, eW⟩
 refine sif_r (fun hc => ?_) (fun _ => eW)
 simp only [decide_eq_true_eq, gt_iff_lt] at hc
 obtain ⟨m, rfl⟩ : ∃ m : Nat, k = ((m + 1 : Nat) : Int) := ⟨(k - 1).toNat, by omega⟩
 have ew : IntKind.wrap .i64 (((m + 1 : Nat) : Int) - 1) = (m : Int) := by rw [wrap64 (by omega) (by omega)]; omega
 dsimp only
 rw [ew]
 have ha : A[m]? = some A[m] := List.getElem?_eq_getElem (by omega)
 have hb : A[m + 1]? = some A[m + 1] := List.getElem?_eq_getElem (by omega)
 refine drew_r fun w2 e2 _ => ?_
 have s2 := hs.ext (eW.trans e2)
 refine ix_ld (c := .int .i64) (xs := A) s2 (by omega) (x := A[m]) (by rw [Int.toNat_natCast]; exact ha) fun p1 => ix_ldE (c := .int .i64) (xs := A) s2 (by omega) (x := A[m + 1]) (by rw [Int.toNat_natCast]; exact hb) fun p2 k2 => ?_
 refine class_call fun w3 e3 => keep_r (k2 w3 e3) (class_call fun w4 e4 => ?_)
 have e14 := ((eW.trans e2).trans e3).trans e4
 refine join_r (fun x W' => x = (parted (cls A[m]) (cls A[m + 1]), ()) ∧ w4 = W') ?_ ?_
 ·have both : ∀ {J : Bool × Unit → World → Prop}, (apart (cls A[m]) || apart (cls A[m + 1])) = true → J (parted (cls A[m]) (cls A[m + 1]), ()) w4 → sif ((((cls A[m] : Nat) : Int)) == 1) (J ((!((((cls A[m + 1] : Nat) : Int)) == 2)), ())) (J (true, ())) w4 := by
   intro J hp hj
   unfold parted at hj
   rw [hp, Bool.true_and] at hj
   have c1 : ((((cls A[m] : Nat) : Int)) == 1) = (cls A[m] == 1) := by rw [Bool.eq_iff_iff, beq_iff_eq, beq_iff_eq]; omega
   have c2 : ((((cls A[m + 1] : Nat) : Int)) == 2) = (cls A[m + 1] == 2) := by rw [Bool.eq_iff_iff, beq_iff_eq, beq_iff_eq]; omega
   rw [c1, c2]
   refine sif_r (fun h => ?_) (fun h => ?_)
   ·rw [h, Bool.true_and] at hj; exact hj
   ·rw [h, Bool.false_and] at hj; exact hj
  refine apart_call (sif_r (fun h => ?_) (fun h => apart_call (sif_r (fun h2 => ?_) (fun h2 => ⟨?_, rfl⟩))))
  ·exact both (J := fun x W' => x = (parted (cls A[m]) (cls A[m + 1]), ()) ∧ w4 = W') (by rw [h]; rfl) ⟨rfl, rfl⟩
  ·exact both (J := fun x W' => x = (parted (cls A[m]) (cls A[m + 1]), ()) ∧ w4 = W') (by rw [h2, Bool.or_true]) ⟨rfl, rfl⟩
  ·unfold parted
   rw [h, h2]; rfl
 rintro _ _ ⟨rfl, rfl⟩
 refine sif_r (fun hp => ?_) (fun hp => ?_)
 ·exact hK (m + 1) w4 (bk_parted ha hb hp) (.inr (by omega)) e14
 ·exact ⟨⟨(m : Int), rfl, by omega, by omega, e14⟩, by omega⟩
theorem snap_call {A : List Int} {s : Sl} {t : TypeId} {at_ : Int} (hs : SlIn w s t 1 (iv A)) (hl : A.length < 2 ^ 40) {K : Int → World → Prop} (hK : ∀ w', Ext w w' → K ((snapN A (min at_.toNat A.length) : Nat) : Int) w') :
  callT Tryz.prog 80 #[.slice s.a s.len s.cap, .int .i64 at_] (.one (.one (.int .i64))) K w := by
 refine F80_calls ?_
 unfold F80
 have hlen : A.length = s.len := by have := hs.len1; rwa [List.length_map] at this
 refine (St.start w).newO fun b1 w1 S1 e1 => ?_
 have S1 : St (fun _ => False) w w1 [(b1, .cells #[.int .i64 at_] 3 (0, 0))] := S1
 refine join_r (fun x W => x = (decide (at_ ≤ 0 ∨ (A.length : Int) ≤ at_), ()) ∧ w1 = W) ?_ ?_
 ·refine S1.ld 0 rfl (x := at_) rfl (sif_r (fun h => ⟨tupb ?_, rfl⟩) (fun h => S1.ld 0 rfl (x := at_) rfl ⟨tupb ?_, rfl⟩))
  all_goals simp only [decide_eq_true_eq, decide_eq_false_iff_not, true_iff, ge_iff_le] at *
  all_goals omega
 rintro _ _ ⟨rfl, rfl⟩
 refine sif_r (fun h => ?_) (fun h => ?_)
 ·simp only [decide_eq_true_eq] at h
  refine S1.ld 0 rfl (x := at_) rfl ?_
  have := hK w1 e1
  have e : (if ((s.len : Nat) : Int) < (if (0 : Int) > at_ then (0 : Int) else at_) then ((s.len : Nat) : Int) else (if (0 : Int) > at_ then (0 : Int) else at_)) = ((snapN A (min at_.toNat A.length) : Nat) : Int) := by
   by_cases h0 : at_ ≤ 0
   ·have e0 : min at_.toNat A.length = 0 := by omega
    have e1 : snapN A 0 = 0 := rfl
    rw [e0, e1]
    by_cases h1 : (0 : Int) > at_
    ·rw [if_pos h1, if_neg (by omega)]; rfl
    ·rw [if_neg h1, if_neg (by omega)]; omega
   ·have e0 : min at_.toNat A.length = A.length := by omega
    rw [e0, snapN_self.2 (bk_len A), if_neg (show ¬ (0 : Int) > at_ by omega)]
    split <;> omega
  rw [e]; exact this
 simp only [decide_eq_false_iff_not] at h
 obtain ⟨n, rfl⟩ : ∃ n : Nat, at_ = (n : Int) := ⟨at_.toNat, by omega⟩
 rw [Int.toNat_natCast, Nat.min_eq_left (by omega)] at hK
 refine S1.ld 0 rfl (x := (n : Int)) rfl (safe_call (hs.ext e1) hl (by omega) fun k0 w2 hb0 hk0 e2 => ?_)
 have S2 := S1.ext e2
 refine S2.newO' fun b9 w3 S3 e3 hb9 => S3.stC 0 rfl Nat.one_pos fun w4 S4 u4 => ?_
 have S4 : St (fun _ => False) w w4 [(b9, .cells #[.int .i64 (k0 : Int)] 3 (0, 0)), (b1, .cells #[.int .i64 (n : Int)] 3 (0, 0))] := S4
 refine S4.ld 0 rfl (x := (k0 : Int)) rfl ?_
 have hb9' := S4.ge 0 rfl
 have sb : ∀ k, s.blk k → k < w.heap.size := fun k hk => hs.blk_lt hk
 have s4 : SlIn w4 s t 1 (iv A) := hs.ext S4.upd
 refine cwalk_call (A := A) (s := s) (t := t) hb0 (by omega) (fun i W => i ≤ n ∧ St (fun _ => False) w W [(b9, .cells #[.int .i64 (i : Int)] 3 (0, 0)), (b1, .cells #[.int .i64 (n : Int)] 3 (0, 0))] ∧ bk A i = true)
  (fun W => St (fun _ => False) w W [(b9, .cells #[.int .i64 ((snapN A n : Nat) : Int)] 3 (0, 0)), (b1, .cells #[.int .i64 (n : Int)] 3 (0, 0))]) ?_ ?_ ?_ ⟨by omega, S4, hb0⟩ ?_
 ·rintro k W ⟨_, SW, _⟩
  exact hs.ext SW.upd
 ·rintro k W W' ⟨h1, SW, h3⟩ x
  exact ⟨h1, SW.ext x, h3⟩
 ·rintro i j W K' ⟨hi, SW, hbi⟩ hij hbj hno hK'
  refine func_x (caps := #[.pointer (some (at0 b1)), .pointer (some (at0 b9))]) (by kernel_rfl) ?_
  refine F125_calls ?_
  unfold F125
  refine join_r (fun _ W' => St (fun _ => False) w W' [(b9, .cells #[.int .i64 ((if j ≤ n then j else i : Nat) : Int)] 3 (0, 0)), (b1, .cells #[.int .i64 (n : Int)] 3 (0, 0))]) ?_ ?_
  ·refine SW.ld 1 rfl (x := (n : Int)) rfl (sif_r (fun hc => ?_) (fun hc => ?_))
   ·simp only [decide_eq_true_eq] at hc
    rw [if_pos (by omega)]
    exact SW.stC 0 rfl Nat.one_pos fun W' SW' _ => SW'
   ·simp only [decide_eq_false_iff_not] at hc
    rw [if_neg (by omega)]
    exact SW
  rintro _ W' SW'
  refine SW'.ld 1 rfl (x := (n : Int)) rfl (hK' _ W' (fun hc => ?_) (fun hc => ?_))
  ·simp only [decide_eq_true_eq] at hc
   rw [if_pos (by omega)] at SW'
   exact ⟨by omega, SW', hbj⟩
  ·simp only [decide_eq_false_iff_not] at hc
   by_cases hjn : j ≤ n
   ·rw [if_pos hjn] at SW'
    have : snapN A n = j := snapN_eq hjn hbj fun q h1 h2 => by omega
    rw [this]; exact SW'
   ·rw [if_neg hjn] at SW'
    have : snapN A n = i := snapN_eq hi hbi fun q h1 h2 => hno q h1 (by omega)
    rw [this]; exact SW'
 ·rintro W (⟨h1, _⟩ | SW)
  ·omega
  ·exact SW.ld 0 rfl (x := ((snapN A n : Nat) : Int)) rfl (hK W SW.upd)
theorem isbreak_call {A : List Int} {s : Sl} {t : TypeId} {at_ : Int} (hs : SlIn w s t 1 (iv A)) (hl : A.length < 2 ^ 40) {K : Bool → World → Prop} (hK : ∀ w', Ext w w' → K (decide (0 ≤ at_ ∧ at_ ≤ (A.length : Int)) && bk A at_.toNat) w') :
  callT Tryz.prog 60 #[.slice s.a s.len s.cap, .int .i64 at_] (.one (.one .bool)) K w := by
 refine F60_calls ?_
 unfold F60
 have hlen : A.length = s.len := by have := hs.len1; rwa [List.length_map] at this
 refine sif_r (fun h1 => sif_r (fun h2 => ?_) (fun h2 => ?_)) (fun h1 => ?_)
 ·simp only [decide_eq_true_eq, ge_iff_le] at h1 h2
  refine snap_call hs hl fun w1 e1 => ?_
  have := hK w1 e1
  rw [decide_eq_true ⟨h1, by omega⟩, Bool.true_and] at this
  obtain ⟨n, rfl⟩ : ∃ n : Nat, at_ = (n : Int) := ⟨at_.toNat, by omega⟩
  rw [Int.toNat_natCast] at this ⊢
  have e0 : min n A.length = n := by omega
  rw [e0]
  have e : ((((snapN A n : Nat) : Int)) == (n : Int)) = bk A n := by
   rw [Bool.eq_iff_iff, beq_iff_eq, ← snapN_self]; omega
  rw [e]; exact this
 ·simp only [decide_eq_false_iff_not] at h2
  have := hK w (Ext.refl w)
  rw [decide_eq_false (by omega), Bool.false_and] at this
  exact this
 ·simp only [decide_eq_false_iff_not, ge_iff_le] at h1
  have := hK w (Ext.refl w)
  rw [decide_eq_false (by omega), Bool.false_and] at this
  exact this
end
end Go.Proofs.YtolhlldgnfbemaaGreat
namespace Go.Proofs.YtolhlldgnfbemaaGreat
open Trx Gly Clu
namespace Lns
structure Ln where
 from_ : Nat
 to_ : Nat
 next : Nat
 kind : Nat
 deriving DecidableEq
def isb (A : List Int) (n : Nat) : Bool := match A[n]? with
 | some a => isE a (A.drop (n + 1))
 | none => false
theorem nb_succ : ∀ (A : List Int) (n : Nat), nb A (n + 1) = nb A n + (if isb A n then 1 else 0)
 | [], n => by cases n <;> simp [nb, isb]
 | a :: r, 0 => by simp [nb, nb_zero, isb]
 | a :: r, n + 1 => by
  have ih := nb_succ r n
  rw [nb, ih, nb]
  have : isb (a :: r) (n + 1) = isb r n := by simp [isb]
  rw [this]; omega
theorem isb_iff {A : List Int} {n : Nat} {a : Int} (h : A[n]? = some a) : isb A n = true ↔ a = 10 ∨ (a = 13 ∧ A[n + 1]? ≠ some 10) := by
 unfold isb
 rw [h]
 simp only [isE, Bool.or_eq_true, beq_iff_eq, Bool.and_eq_true, bne_iff_ne, ne_eq, List.head?_drop]
theorem sk_get {A : List Int} {k m : Nat} (h : sk A k = some m) : k ≤ brs A ∧ m ≤ A.length ∧ nb A m = k ∧ ∀ j, j < m → nb A j < k := by
 by_cases hk : k ≤ brs A
 ·obtain ⟨m', h1, h2, h3, h4⟩ := sk_some A k hk
  rw [h] at h1; cases h1
  exact ⟨hk, h2, h3, h4⟩
 ·rw [sk_none A k (by omega)] at h; cases h
theorem sk_ok {A : List Int} {k : Nat} (h : k ≤ brs A) : ∃ m, sk A k = some m := by
 obtain ⟨m, h1, _⟩ := sk_some A k h
 exact ⟨m, h1⟩
theorem sk_zero (A : List Int) : sk A 0 = some 0 := by cases A <;> rfl
theorem sk_lt {A : List Int} {i j m x : Nat} (h1 : sk A i = some m) (h2 : sk A j = some x) (hij : i < j) : m < x := by
 obtain ⟨_, _, g1, _⟩ := sk_get h1
 obtain ⟨_, _, g2, g3⟩ := sk_get h2
 rcases Nat.lt_or_ge m x with h | h
 ·exact h
 ·have := nb_mono A x m h; omega
theorem sk_end {A : List Int} {k m : Nat} (h : sk A (k + 1) = some m) : 0 < m ∧ isb A (m - 1) = true := by
 obtain ⟨_, _, h3, h4⟩ := sk_get h
 cases m with
 | zero => rw [nb_zero] at h3; omega
 | succ m =>
  refine ⟨by omega, ?_⟩
  have := h4 m (by omega)
  rw [nb_succ] at h3
  rw [Nat.add_sub_cancel]
  cases hb : isb A m with
  | true => rfl
  | false => rw [hb] at h3; simp at h3; omega
def lnC (A : List Int) (f x : Nat) : Ln := if A[x - 1]? = some 13 then ⟨f, x - 1, x, 3⟩ else if f + 1 < x ∧ A[x - 2]? = some 13 then ⟨f, x - 2, x, 2⟩ else ⟨f, x - 1, x, 1⟩
def lnAt (A : List Int) (i : Nat) : Option Ln := match sk A i with
 | none => none
 | some f => some (match sk A (i + 1) with | some x => lnC A f x | none => ⟨f, A.length, A.length, 0⟩)
def lnI (A : List Int) (i : Int) : Option Ln := if i < 0 then none else lnAt A i.toNat
def ended (A : List Int) : Bool := decide (0 < A.length) && sk A (brs A) == some A.length
def lnN (A : List Int) : Nat := brs A + (if ended A then 0 else 1)
theorem lnAt_some {A : List Int} {i : Nat} {l : Ln} (h : lnAt A i = some l) : i ≤ brs A ∧ sk A i = some l.from_ := by
 unfold lnAt at h
 split at h
 ·cases h
 ·rename_i f hf
  cases h
  refine ⟨(sk_get hf).1, ?_⟩
  split
  ·unfold lnC; split
   ·exact hf
   ·split <;> exact hf
  ·exact hf
theorem lnAt_ok {A : List Int} {i : Nat} (h : i ≤ brs A) : ∃ l, lnAt A i = some l := by
 obtain ⟨m, hm⟩ := sk_ok h
 unfold lnAt; rw [hm]; exact ⟨_, rfl⟩
structure LnOk (A : List Int) (i : Nat) (l : Ln) : Prop where
 ft : l.from_ ≤ l.to_
 tn : l.to_ ≤ l.next
 nl : l.next ≤ A.length
 nbf : ∀ k, l.from_ ≤ k → k < l.next → nb A k = i
 nbF : nb A l.from_ = i
 tail : sk A (i + 1) = none → l.kind = 0 ∧ l.to_ = A.length ∧ l.next = A.length
 brk : ∀ x, sk A (i + 1) = some x → l.next = x ∧ l.to_ < l.next ∧ l.kind ≠ 0 ∧ nb A x = i + 1
 plain : ∀ j a, l.from_ ≤ j → j < l.to_ → A[j]? = some a → a ≠ 10 ∧ a ≠ 13
 atTo : ∀ a, l.to_ < l.next → A[l.to_]? = some a → a = 10 ∨ a = 13
 noLF : ∀ j, l.from_ ≤ j → j < l.to_ → A[j]? ≠ some 13
theorem ln_ok {A : List Int} {i : Nat} {l : Ln} (h : lnAt A i = some l) : LnOk A i l := by
 obtain ⟨hi, hf⟩ := lnAt_some h
 obtain ⟨_, hfl, hnf, hfmin⟩ := sk_get hf
 unfold lnAt at h
 rw [hf] at h
 simp only [Option.some.injEq] at h
 cases hx : sk A (i + 1) with
 | none =>
  rw [hx] at h
  simp only at h
  have hbr : brs A ≤ i := by
   rcases Nat.lt_or_ge i (brs A) with h1 | h1
   ·obtain ⟨m, hm⟩ := sk_ok (A := A) (k := i + 1) (by omega)
    rw [hm] at hx; cases hx
   ·exact h1
  have hall : ∀ k, l.from_ ≤ k → nb A k = i := fun k hk => by
   have h1 := nb_mono A _ _ hk
   have h2 := nb_mono A k (max k A.length) (by omega)
   rw [nb_ge A (max k A.length) (by omega)] at h2
   omega
  have pl : ∀ j a, l.from_ ≤ j → j < A.length → A[j]? = some a → a ≠ 10 ∧ a ≠ 13 := by
   have no : ∀ j, l.from_ ≤ j → isb A j = false := fun j hj => by
    have h1 := hall j hj
    have h2 := hall (j + 1) (by omega)
    rw [nb_succ, h1] at h2
    cases hb : isb A j with
    | false => rfl
    | true => rw [hb] at h2; simp at h2
   intro j a hj hjl ha
   have h1 := no j hj
   constructor
   ·intro e
    have := (isb_iff ha).2 (.inl e)
    rw [h1] at this; cases this
   ·intro e
    have h2 := no (j + 1) (by omega)
    by_cases h10 : A[j + 1]? = some 10
    ·have := (isb_iff h10).2 (.inl rfl)
     rw [h2] at this; cases this
    ·have := (isb_iff ha).2 (.inr ⟨e, h10⟩)
     rw [h1] at this; cases this
  have el : l = ⟨l.from_, A.length, A.length, 0⟩ := h.symm
  have e1 : l.to_ = A.length := by rw [el]
  have e2 : l.next = A.length := by rw [el]
  have e3 : l.kind = 0 := by rw [el]
  exact ⟨by omega, by omega, by omega, fun k h1 _ => hall k h1, hnf, fun _ => ⟨e3, e1, e2⟩, (fun x hx' => by rw [hx] at hx'; cases hx'), fun j a h1 h2 => pl j a h1 (by omega), fun a h1 => by omega, fun j h1 h2 h3 => (pl j 13 h1 (by omega) h3).2 rfl⟩
 | some x =>
  rw [hx] at h
  simp only at h
  obtain ⟨hib, hxl, hnx, hxmin⟩ := sk_get hx
  obtain ⟨hx0, hxe⟩ := sk_end hx
  have hfx := sk_lt hf hx (by omega)
  have hmid : ∀ k, l.from_ ≤ k → k < x → nb A k = i := fun k h1 h2 => by
   have := nb_mono A _ _ h1
   have := hxmin k h2
   omega
  have no : ∀ j, l.from_ ≤ j → j + 1 < x → isb A j = false := fun j hj hjx => by
   have h1 := hmid j hj (by omega)
   have h2 := hmid (j + 1) (by omega) hjx
   rw [nb_succ, h1] at h2
   cases hb : isb A j with
   | false => rfl
   | true => rw [hb] at h2; simp at h2
  obtain ⟨a, ha⟩ : ∃ a, A[x - 1]? = some a := ⟨_, List.getElem?_eq_getElem (by omega)⟩
  have hend := (isb_iff ha).1 hxe
  have nx : x - 1 + 1 = x := by omega
  have fin : ∀ t, l.to_ = t → l.next = x → l.from_ ≤ t → t < x → l.kind ≠ 0 → (∀ a, A[t]? = some a → a = 10 ∨ a = 13) → (t + 1 = x ∨ (t + 2 = x ∧ A[t]? = some 13)) → (t + 1 = x → ∀ j, j + 1 = t → l.from_ ≤ j → A[t]? = some 10 → A[j]? ≠ some 13) → LnOk A i l := by
   intro t e1 e2 h1 h2 h3 h4 h5 h6
   have pl : ∀ j a, l.from_ ≤ j → j < t → A[j]? = some a → a ≠ 10 ∧ a ≠ 13 := by
    intro j a hj hjt ha
    have g1 := no j hj (by omega)
    refine ⟨fun e => ?_, fun e => ?_⟩
    ·have := (isb_iff ha).2 (.inl e)
     rw [g1] at this; cases this
    ·by_cases h10 : A[j + 1]? = some 10
     ·by_cases hj2 : j + 2 < x
      ·have g2 := no (j + 1) (by omega) (by omega)
       have := (isb_iff h10).2 (.inl rfl)
       rw [g2] at this; cases this
      ·rcases h5 with h5 | h5
       ·have ht : t = j + 1 := by omega
        subst ht
        exact h6 h5 j rfl hj h10 (by rw [ha, e])
       ·omega
     ·have := (isb_iff ha).2 (.inr ⟨e, h10⟩)
      rw [g1] at this; cases this
   exact ⟨by omega, by omega, by omega, fun k g1 g2 => hmid k g1 (by omega), hnf, (fun hn => by rw [hx] at hn; cases hn), (fun y hy => by rw [hx] at hy; cases hy; exact ⟨e2, by omega, h3, hnx⟩), fun j a g1 g2 => pl j a g1 (by omega), fun a _ g => h4 a (by rw [← e1]; exact g), fun j g1 g2 g3 => (pl j 13 g1 (by omega) g3).2 rfl⟩
  unfold lnC at h
  split at h
  ·rename_i h13
   have el : l = ⟨l.from_, x - 1, x, 3⟩ := h.symm
   refine fin (x - 1) (by rw [el]) (by rw [el]) (by omega) (by omega) (by rw [el]; exact (by decide : (3 : Nat) ≠ 0)) (fun a h => by rw [h13] at h; cases h; exact .inr rfl) (.inl (by omega)) (fun _ j _ _ h => by rw [h13] at h; cases h)
  ·rename_i h13
   have ha10 : a = 10 := by
    rcases hend with h | h
    ·exact h
    ·exact absurd (by rw [ha, h.1]) h13
   split at h
   ·rename_i h2
    have el : l = ⟨l.from_, x - 2, x, 2⟩ := h.symm
    exact fin (x - 2) (by rw [el]) (by rw [el]) (by omega) (by omega) (by rw [el]; exact (by decide : (2 : Nat) ≠ 0)) (fun a h => by rw [h2.2] at h; cases h; exact .inr rfl) (.inr ⟨by omega, h2.2⟩) (fun h => by omega)
   ·rename_i h2
    have el : l = ⟨l.from_, x - 1, x, 1⟩ := h.symm
    refine fin (x - 1) (by rw [el]) (by rw [el]) (by omega) (by omega) (by rw [el]; exact (by decide : (1 : Nat) ≠ 0)) (fun b h => by rw [ha] at h; cases h; exact .inl ha10) (.inl (by omega)) (fun _ j hj hfj _ h => h2 ⟨by omega, ?_⟩)
    rw [← h]; congr 1; omega
theorem ln_of (A : List Int) {at_ : Nat} (h : at_ ≤ A.length) : ∃ l, lnAt A (nb A at_) = some l ∧ l.from_ ≤ at_ ∧ (at_ < l.next ∨ (sk A (nb A at_ + 1) = none ∧ l.next = A.length)) := by
 have hle : nb A at_ ≤ brs A := by rw [brs_nb]; exact nb_mono A _ _ h
 obtain ⟨l, hl⟩ := lnAt_ok hle
 obtain ⟨_, hf⟩ := lnAt_some hl
 obtain ⟨_, _, g1, g2⟩ := sk_get hf
 have ok := ln_ok hl
 refine ⟨l, hl, ?_, ?_⟩
 ·rcases Nat.lt_or_ge at_ l.from_ with h1 | h1
  ·have := g2 at_ h1; omega
  ·exact h1
 ·cases hx : sk A (nb A at_ + 1) with
  | none => exact .inr ⟨rfl, (ok.tail hx).2.2⟩
  | some x =>
   obtain ⟨e1, _, _, e2⟩ := ok.brk x hx
   left
   rcases Nat.lt_or_ge at_ l.next with h1 | h1
   ·exact h1
   ·have := nb_mono A l.next at_ h1
    rw [e1, e2] at this; omega
end Lns
end Go.Proofs.YtolhlldgnfbemaaGreat
namespace Go.Proofs.YtolhlldgnfbemaaGreat
open Trx Gly Clu Lns
namespace Obx
structure Cel where
 from_ : Nat
 to_ : Nat
 kind : Nat
 alone : Bool
 atom : Int
noncomputable def celAt (A : List Int) (off i j : Nat) : Cel := ⟨off + i, off + j, wrd (A[i]?.getD 0), decide (j = i + 1), A[i]?.getD 0⟩
noncomputable def celsL (A : List Int) (off : Nat) : List Nat → List Cel
 | i :: j :: r => celAt A off i j :: celsL A off (j :: r)
 | _ => []
noncomputable def cels (A : List Int) (off : Nat) : List Cel := celsL A off (cuts A)
theorem celsL_len (A : List Int) (off : Nat) : ∀ L : List Nat, (celsL A off L).length = L.length - 1
 | [] => rfl
 | [_] => rfl
 | i :: j :: r => by rw [celsL, List.length_cons, celsL_len A off (j :: r)]; simp
theorem celsL_get (A : List Int) (off : Nat) : ∀ (L : List Nat) (m i j : Nat), L[m]? = some i → L[m + 1]? = some j → (celsL A off L)[m]? = some (celAt A off i j)
 | [], _, _, _, h, _ => by simp at h
 | [_], m, _, _, _, h => by simp at h
 | i :: j :: r, 0, _, _, h, h' => by
  simp at h h'
  subst h h'
  rfl
 | i :: j :: r, m + 1, x, y, h, h' => by
  rw [celsL, List.getElem?_cons_succ]
  exact celsL_get A off (j :: r) m x y (by simpa using h) (by simpa using h')
theorem celsL_of (A : List Int) (off : Nat) : ∀ (L : List Nat) (m : Nat) (c : Cel), (celsL A off L)[m]? = some c → ∃ i j, L[m]? = some i ∧ L[m + 1]? = some j ∧ c = celAt A off i j := by
 intro L m c h
 have hl := (List.getElem?_eq_some_iff.1 h).1
 rw [celsL_len] at hl
 have h1 : L[m]? = some L[m] := List.getElem?_eq_getElem (by omega)
 have h2 : L[m + 1]? = some L[m + 1] := List.getElem?_eq_getElem (by omega)
 have := celsL_get A off L m _ _ h1 h2
 rw [h] at this
 exact ⟨_, _, h1, h2, Option.some.inj this⟩
theorem cuts_head (A : List Int) : (cuts A)[0]? = some 0 := by
 unfold cuts cutsTo
 rw [List.range_succ_eq_map, List.filter_cons_of_pos (bk_zero A)]
 rfl
theorem cuts_inj {A : List Int} {m n i j : Nat} (hmn : m < n) (h : (cuts A)[m]? = some i) (h' : (cuts A)[n]? = some j) : i < j := by
 have hp := cuts_lt (A := A)
 obtain ⟨h1, rfl⟩ := List.getElem?_eq_some_iff.1 h
 obtain ⟨h2, rfl⟩ := List.getElem?_eq_some_iff.1 h'
 exact List.pairwise_iff_getElem.1 hp m n h1 h2 hmn
theorem cuts_bk {A : List Int} {m i : Nat} (h : (cuts A)[m]? = some i) : bk A i = true := mem_cuts.1 (List.mem_of_getElem? h)
theorem cuts_last (A : List Int) : (cuts A)[(cuts A).length - 1]? = some A.length := by
 have h : A.length ∈ cuts A := mem_cuts.2 (bk_len A)
 obtain ⟨m, hm⟩ := List.getElem?_of_mem h
 have hl := (List.getElem?_eq_some_iff.1 hm).1
 by_cases he : m = (cuts A).length - 1
 ·rw [← he]; exact hm
 ·have h2 : (cuts A)[(cuts A).length - 1]? = some (cuts A)[(cuts A).length - 1] := List.getElem?_eq_getElem (by omega)
  have := cuts_inj (by omega) hm h2
  have := bk_le (cuts_bk h2)
  omega
theorem cuts_pos (A : List Int) : 0 < (cuts A).length := by
 have := (List.getElem?_eq_some_iff.1 (cuts_head A)).1
 exact this
structure CelOk (A : List Int) (off m : Nat) (c : Cel) : Prop where
 ex : ∃ i j, (cuts A)[m]? = some i ∧ (cuts A)[m + 1]? = some j ∧ i < j ∧ j ≤ A.length ∧ c.from_ = off + i ∧ c.to_ = off + j ∧ bk A i = true ∧ bk A j = true ∧ A[i]? = some c.atom ∧ c.kind = wrd c.atom ∧ (c.alone = true ↔ j = i + 1)
theorem cels_ok {A : List Int} {off m : Nat} {c : Cel} (h : (cels A off)[m]? = some c) : CelOk A off m c := by
 obtain ⟨i, j, h1, h2, rfl⟩ := celsL_of A off _ m c h
 have hij := cuts_inj (by omega) h1 h2
 have hj := bk_le (cuts_bk h2)
 have ha : A[i]? = some A[i] := List.getElem?_eq_getElem (by omega)
 refine ⟨i, j, h1, h2, hij, hj, rfl, rfl, cuts_bk h1, cuts_bk h2, ?_, rfl, by simp [celAt]⟩
 simp [celAt, ha]
theorem cels_len (A : List Int) (off : Nat) : (cels A off).length = (cuts A).length - 1 := celsL_len A off _
theorem cels_next {A : List Int} {off m : Nat} {c d : Cel} (h : (cels A off)[m]? = some c) (h' : (cels A off)[m + 1]? = some d) : c.to_ = d.from_ := by
 obtain ⟨i, j, h1, h2, h3, h4, h5, h6, _⟩ := (cels_ok h).ex
 obtain ⟨i', j', g1, g2, g3, g4, g5, g6, _⟩ := (cels_ok h').ex
 rw [h2] at g1
 have : j = i' := Option.some.inj g1
 omega
theorem cels_first {A : List Int} {off : Nat} {c : Cel} (h : (cels A off)[0]? = some c) : c.from_ = off := by
 obtain ⟨i, j, h1, h2, h3, h4, h5, h6, _⟩ := (cels_ok h).ex
 rw [cuts_head] at h1
 have : 0 = i := Option.some.inj h1
 omega
theorem cels_last {A : List Int} {off m : Nat} {c : Cel} (h : (cels A off)[m]? = some c) (hm : m + 1 = (cels A off).length) : c.to_ = off + A.length := by
 obtain ⟨i, j, h1, h2, h3, h4, h5, h6, _⟩ := (cels_ok h).ex
 have := cuts_pos A
 rw [cels_len] at hm
 have e : m + 1 = (cuts A).length - 1 := hm
 rw [e, cuts_last] at h2
 have : A.length = j := Option.some.inj h2
 omega
theorem cels_le (A : List Int) (off : Nat) : (cels A off).length ≤ A.length := by
 rw [cels_len]
 have := cutsTo_len A A.length
 unfold cuts; omega
noncomputable def firstI (C : List Cel) (at_ : Int) : Nat := C.findIdx fun c => decide (at_ < (c.to_ : Int))
theorem firstI_le (C : List Cel) (at_ : Int) : firstI C at_ ≤ C.length := List.findIdx_le_length
theorem firstI_eq {C : List Cel} {at_ : Int} {i : Nat} (hi : i ≤ C.length) (h1 : ∀ (j : Nat) (c : Cel), j < i → C[j]? = some c → (c.to_ : Int) ≤ at_) (h2 : ∀ c, C[i]? = some c → at_ < (c.to_ : Int)) : firstI C at_ = i := by
 unfold firstI
 by_cases he : i = C.length
 ·subst he
  rw [List.findIdx_eq_length]
  intro c hc
  obtain ⟨j, hj⟩ := List.getElem?_of_mem hc
  have := h1 j c (List.getElem?_eq_some_iff.1 hj).1 hj
  rw [decide_eq_false_iff_not]; omega
 ·have hlt : i < C.length := by omega
  rw [List.findIdx_eq hlt]
  refine ⟨decide_eq_true (h2 _ (List.getElem?_eq_getElem hlt)), fun j hj => ?_⟩
  have := h1 j _ hj (List.getElem?_eq_getElem (by omega))
  rw [decide_eq_false_iff_not]; omega
theorem firstI_spec {C : List Cel} {at_ : Int} : (∀ (j : Nat) (c : Cel), j < firstI C at_ → C[j]? = some c → (c.to_ : Int) ≤ at_) ∧ (∀ c, C[firstI C at_]? = some c → at_ < (c.to_ : Int)) := by
 constructor
 ·intro j c hj hc
  have := List.not_of_lt_findIdx hj
  obtain ⟨h, rfl⟩ := List.getElem?_eq_some_iff.1 hc
  simpa using this
 ·intro c hc
  obtain ⟨h, rfl⟩ := List.getElem?_eq_some_iff.1 hc
  have := List.findIdx_getElem (w := h)
  exact of_decide_eq_true this
end Obx
end Go.Proofs.YtolhlldgnfbemaaGreat
namespace Go.Proofs.YtolhlldgnfbemaaGreat
open Trx Gly Clu Lns Obx
namespace Obx
noncomputable def lineC (A : List Int) (l : Ln) : List Cel := cels ((A.drop l.from_).take (l.to_ - l.from_)) l.from_
end Obx
namespace Obx
def frm (C : List Cel) (j : Nat) : Nat := (C[j]?.map (·.from_)).getD 0
theorem frm_of {C : List Cel} {j : Nat} {c : Cel} (h : C[j]? = some c) : frm C j = c.from_ := by unfold frm; rw [h]; rfl
structure CelA (A : List Int) (l : Ln) (c : Cel) (ci cj : Nat) : Prop where
 from_ : c.from_ = l.from_ + ci
 to_ : c.to_ = l.from_ + cj
 lt : ci < cj
 le : c.to_ ≤ l.to_
 atom : A[c.from_]? = some c.atom
 kind : c.kind = wrd c.atom
 alone : c.alone = decide (c.to_ = c.from_ + 1)
theorem lineC_at {A : List Int} {l : Ln} (h1 : l.from_ ≤ l.to_) (h2 : l.to_ ≤ A.length) {i : Nat} {c : Cel} (hc : (lineC A l)[i]? = some c) : ∃ ci cj, (cuts ((A.drop l.from_).take (l.to_ - l.from_)))[i]? = some ci ∧ (cuts ((A.drop l.from_).take (l.to_ - l.from_)))[i + 1]? = some cj ∧ CelA A l c ci cj := by
 obtain ⟨ci, cj, g1, g2, g3, g4, g5, g6, _, _, g9, g10, g11⟩ := (cels_ok hc).ex
 rw [List.length_take, List.length_drop] at g4
 refine ⟨ci, cj, g1, g2, g5, g6, g3, by omega, ?_, g10, ?_⟩
 ·rw [List.getElem?_take, if_pos (by omega), List.getElem?_drop] at g9
  rw [g5]; exact g9
 ·rw [Bool.eq_iff_iff, g11]; simp; omega
end Obx
namespace Obx
structure Chain (C : List Cel) : Prop where
 pos : ∀ (i : Nat) c, C[i]? = some c → c.from_ < c.to_
 next : ∀ (i : Nat) c d, C[i]? = some c → C[i + 1]? = some d → c.to_ = d.from_
theorem Chain.mono {C : List Cel} (h : Chain C) : ∀ (d i : Nat) c e, C[i]? = some c → C[i + 1 + d]? = some e → c.to_ ≤ e.from_
 | 0, i, c, e, h1, h2 => Nat.le_of_eq (h.next i c e h1 h2)
 | d + 1, i, c, e, h1, h2 => by
  obtain ⟨x, hx⟩ : ∃ x, C[i + 1]? = some x := ⟨_, List.getElem?_eq_getElem (by have := (List.getElem?_eq_some_iff.1 h2).1; omega)⟩
  have e1 := h.next i c x h1 hx
  have := h.mono d (i + 1) x e hx (by rw [show i + 1 + 1 + d = i + 1 + (d + 1) by omega]; exact h2)
  have := h.pos _ x hx
  omega
theorem Chain.lt {C : List Cel} (h : Chain C) {i j : Nat} {c e : Cel} (hij : i < j) (h1 : C[i]? = some c) (h2 : C[j]? = some e) : c.to_ ≤ e.from_ := h.mono (j - i - 1) i c e h1 (by rw [show i + 1 + (j - i - 1) = j by omega]; exact h2)
theorem cels_chain (A : List Int) (off : Nat) : Chain (cels A off) := ⟨fun i c h => by obtain ⟨a, b, _, _, g, _, g1, g2, _⟩ := (cels_ok h).ex; omega, fun i c d h h' => cels_next h h'⟩
end Obx
namespace Mot
noncomputable def rowL (A : List Int) (i : Nat) : Ln := (lnAt A i).getD ⟨0, 0, 0, 0⟩
noncomputable def rowC (A : List Int) (i : Nat) : List Cel := lineC A (rowL A i)
def inT (A : List Int) (x : Int) : Nat := (min (max x 0) (A.length : Int)).toNat
noncomputable def ofI (A : List Int) (x : Int) : Nat := nb A (inT A x)
noncomputable def rowI (A : List Int) (x : Int) (tail : Bool) : Nat := if tail then ofI A x else min (ofI A x) (lnN A - 1)
noncomputable def placeR (A : List Int) (i : Nat) (c : Int) : Nat := if c.toNat < (rowC A i).length then frm (rowC A i) c.toNat else (rowL A i).to_
noncomputable def clampP (A : List Int) (x : Int) (past : Bool) : Nat :=
 if (rowL A (rowI A x past)).to_ ≤ inT A x then (if past then (rowL A (rowI A x past)).to_ else placeR A (rowI A x past) (((rowC A (rowI A x past)).length : Int) - 1))
 else placeR A (rowI A x past) ((firstI (rowC A (rowI A x past)) (inT A x : Int) : Nat) : Int)
noncomputable def lineI (A : List Int) (x : Int) : Nat := (max (min x ((lnN A : Int) - 1)) 0).toNat
noncomputable def placeP (A : List Int) (line col : Int) (past : Bool) : Nat := placeR A (lineI A line) (if ((rowC A (lineI A line)).length : Int) ≤ col ∧ past = false then ((rowC A (lineI A line)).length : Int) - 1 else col)
noncomputable def columnP (A : List Int) (x : Int) : Nat := firstI (rowC A (ofI A x)) x
def kOf (count : Int) : Nat := if 0 < count then (min count 9999).toNat else 1
abbrev Ld := (Int × Int × Int) × Int
noncomputable def landP (A : List Int) (x : Nat) (kind : Int) : Ld := (((x : Int), kind, (columnP A (x : Int) : Int)), 0)
def noP (e : Int) : Ld := ((0, 0, 0), e)
def seekL (C : List Cel) (a : Int) (L : List Nat) (k : Nat) : Option Nat := (L.filter fun j => decide (C[j]?.map (·.atom) = some a))[k - 1]?
def upL (n c : Nat) : List Nat := List.range' (c + 1) (n - (c + 1))
def downL (c : Nat) : List Nat := (List.range c).reverse
noncomputable def signR (A : List Int) (i : Nat) : Nat := if (rowC A i).findIdx (fun c => c.kind != 0) < (rowC A i).length then (rowC A i).findIdx (fun c => c.kind != 0) else (rowC A i).length - 1
noncomputable def blankR (A : List Int) (i : Nat) : Bool := (rowC A i).all fun c => c.kind == 0
noncomputable def charsP (A : List Int) (x kind count arg : Int) (past : Bool) : Ld :=
 let s := clampP A x past
 let i := rowI A (s : Int) past
 let n := (rowC A i).length
 let c := firstI (rowC A i) (s : Int)
 let most := if past then n else n - 1
 let k := kOf count
 if kind = 1 then (if c = 0 then noP 80 else landP A (placeR A i ((c : Int) - k)) 0) else
 if kind = 2 then (if c = most then noP 80 else landP A (placeR A i (min ((c : Int) + k) most)) 0) else
 if kind = 3 then landP A (rowL A i).from_ 0 else
 if kind = 4 then landP A (placeR A i (signR A i)) 0 else
 if kind = 5 then
  let j := if i < lnN A - 1 ∧ 1 < k then min (i + k - 1) (lnN A - 1) else i
  (((placeR A j (((rowC A j).length : Int) - 1) : Nat), 1, 100000), 0) else
 if kind = 6 then landP A (placeR A i (min ((k : Int) - 1) most)) 0 else
 if kind = 7 ∨ kind = 9 then (match seekL (rowC A i) arg (upL n c) k with
  | none => noP 80
  | some j => landP A (placeR A i (if kind = 9 then (j : Int) - 1 else j)) 1) else
 if kind = 8 ∨ kind = 10 then (match seekL (rowC A i) arg (downL c) k with
  | none => noP 80
  | some j => landP A (placeR A i (if kind = 10 then (j : Int) + 1 else j)) 0) else noP 1
noncomputable def toRowP (A : List Int) (line goal : Int) : Ld := (((placeP A line goal false : Nat), 2, goal), 0)
noncomputable def toSignP (A : List Int) (line : Int) : Ld := landP A (placeR A (lineI A line) (signR A (lineI A line))) 2
noncomputable def rowsP (A : List Int) (x goal kind count : Int) : Ld :=
 let s := clampP A x false
 let i := rowI A (s : Int) false
 let k := kOf count
 let g := max goal 0
 if kind = 11 then (if i = lnN A - 1 then noP 80 else toRowP A ((i : Int) + k) g) else
 if kind = 12 then (if i = 0 then noP 80 else toRowP A ((i : Int) - k) g) else
 if kind = 13 then (if i = lnN A - 1 then noP 80 else toSignP A ((i : Int) + k)) else
 if kind = 14 then (if i = 0 then noP 80 else toSignP A ((i : Int) - k)) else
 if kind = 15 then toSignP A ((i : Int) + k - 1) else
 if kind = 16 then toSignP A (if 0 < count then (k : Int) - 1 else lnN A) else
 if kind = 17 then toSignP A ((k : Int) - 1) else
 if kind = 18 then (if count ≤ 0 ∨ 100 < k then noP 80 else toSignP A (((k * lnN A + 99) / 100 : Nat) - 1)) else noP 1
noncomputable def rowP (A : List Int) (i : Nat) : List (Nat × Nat) := if (rowC A i).length = 0 then [(i, 0)] else (List.range (rowC A i).length).map fun c => (i, c)
noncomputable def allP (A : List Int) : List (Nat × Nat) := (List.range (lnN A)).flatMap (rowP A)
noncomputable def offP (A : List Int) (p : Nat × Nat) : Nat := placeR A p.1 (p.2 : Int)
def kindB (C : List Cel) (j : Nat) (big : Bool) : Nat := if big then min ((C[j]?.map (·.kind)).getD 0) 1 else (C[j]?.map (·.kind)).getD 0
noncomputable def begB (A : List Int) (big : Bool) (p : Nat × Nat) : Bool := (rowC A p.1).length == 0 || (kindB (rowC A p.1) p.2 big != 0 && (p.2 == 0 || kindB (rowC A p.1) (p.2 - 1) big != kindB (rowC A p.1) p.2 big))
noncomputable def endB (A : List Int) (big : Bool) (p : Nat × Nat) : Bool := (rowC A p.1).length == 0 || (decide (p.2 < (rowC A p.1).length) && kindB (rowC A p.1) p.2 big != 0 && (p.2 + 1 == (rowC A p.1).length || kindB (rowC A p.1) (p.2 + 1) big != kindB (rowC A p.1) p.2 big))
noncomputable def endN (A : List Int) (big : Bool) (p : Nat × Nat) : Bool := (rowC A p.1).length != 0 && endB A big p
noncomputable def marksP (A : List Int) (f : Nat × Nat → Bool) : List Nat := ((allP A).filter f).map (offP A)
def afterL (l : List Nat) (least k : Nat) : Option Nat := (l.filter fun x => decide (least ≤ x))[k - 1]?
def beforeL (l : List Nat) (below k : Nat) : Option Nat := (l.filter fun x => decide (x < below)).reverse[k - 1]?
noncomputable def lastPl (A : List Int) : Nat := placeR A (lnN A - 1) (((rowC A (lnN A - 1)).length : Int) - 1)
noncomputable def wordsM (A : List Int) (x kind count : Int) (past : Bool) : Ld :=
 let s := clampP A x past
 let k := kOf count
 let big := decide ((25 ≤ kind ∧ kind ≤ 28) ∨ kind = 30)
 if kind = 21 ∨ kind = 25 then
  let to := (afterL (marksP A (begB A big)) (s + 1) k).getD (if past then (rowL A (lnN A - 1)).to_ else lastPl A)
  if to ≤ s then noP 80 else landP A to 0 else
 if kind = 22 ∨ kind = 26 then (if s = 0 then noP 80 else landP A ((beforeL (marksP A (begB A big)) s k).getD 0) 0) else
 if kind = 23 ∨ kind = 27 then
  let to := (afterL (marksP A (endN A big)) (s + 1) k).getD (lastPl A)
  if to ≤ s then noP 80 else landP A to 1 else
 if kind = 24 ∨ kind = 28 then (if s = 0 then noP 80 else landP A ((beforeL (marksP A (endB A big)) s k).getD 0) 1) else
 if kind = 29 ∨ kind = 30 then landP A ((afterL (marksP A (endN A big)) s k).getD (max (lastPl A) s)) 1 else noP 1
def sortB (c : Cel) : Option Nat := if c.alone = false then none else if c.atom = 40 then some 0 else if c.atom = 91 then some 1 else if c.atom = 123 then some 2 else if c.atom = 41 then some 3 else if c.atom = 93 then some 4 else if c.atom = 125 then some 5 else none
noncomputable def brkP (A : List Int) (p : Nat × Nat) : Option Nat := ((rowC A p.1)[p.2]?).bind sortB
def shutL (own : Nat) : List ((Nat × Nat) × Nat) → Nat → Option (Nat × Nat)
 | [], _ => none
 | (p, b) :: r, d => if b % 3 ≠ own % 3 then shutL own r d else if b = own then shutL own r (d + 1) else if d = 1 then some p else shutL own r (d - 1)
noncomputable def brksP (A : List Int) : List ((Nat × Nat) × Nat) := (allP A).filterMap fun p => (brkP A p).map fun b => (p, b)
noncomputable def matchP (A : List Int) (s i : Nat) : Option Nat :=
 match (brksP A).findIdx? fun q => q.1.1 == i && decide (s ≤ offP A q.1) with
 | none => none
 | some m => match (brksP A)[m]? with
  | none => none
  | some q => (shutL q.2 (if q.2 < 3 then (brksP A).drop (m + 1) else ((brksP A).take m).reverse) 1).map (offP A)
noncomputable def parasM (A : List Int) (x kind count : Int) : Ld :=
 let s := clampP A x false
 let i := rowI A (s : Int) false
 let k := kOf count
 if kind = 31 then (match ((upL (lnN A) i).filter fun j => blankR A j && !blankR A (j - 1))[k - 1]? with
  | some j => landP A (rowL A j).from_ 0
  | none => if lastPl A = s then noP 80 else landP A (lastPl A) 1) else
 if kind = 32 then (match ((downL i).filter fun j => blankR A j && !blankR A (j + 1))[k - 1]? with
  | some j => landP A (rowL A j).from_ 0
  | none => if s = 0 then noP 80 else landP A 0 0) else
 if kind = 33 then (match matchP A s i with
  | some to => landP A to 1
  | none => noP 80) else noP 1
noncomputable def betweenP (A : List Int) (a b kind : Int) : Ld :=
 let lo := min (clampP A a true) (clampP A b true)
 let hi := max (clampP A a true) (clampP A b true)
 let i := ofI A (hi : Int)
 if kind = 0 then (if hi = (rowL A i).from_ ∧ lo < hi ∧ 0 < i then (((lo : Int), (max (rowL A (i - 1)).to_ lo : Nat), 0), 0) else (((lo : Int), (hi : Int), 0), 0)) else
 if kind = 1 then (((lo : Int), ((if hi < (rowL A i).to_ then placeR A i ((firstI (rowC A i) (hi : Int) : Nat) + 1) else hi : Nat) : Int), 0), 0) else
 if kind = 2 then ((((rowL A (rowI A (lo : Int) false)).from_ : Int), ((rowL A (rowI A (hi : Int) false)).next : Int), 1), 0) else noP 1
noncomputable def goP (A : List Int) (s : Int) (kind count arg : Int) : Ld :=
 if 1 ≤ kind ∧ kind ≤ 10 then charsP A s kind count arg true else
 if 11 ≤ kind ∧ kind ≤ 18 then rowsP A s (columnP A s) kind count else
 if kind = 60 then rowsP A s 0 15 count else
 if 21 ≤ kind ∧ kind ≤ 30 then wordsM A s kind count true else
 if 31 ≤ kind ∧ kind ≤ 33 then parasM A s kind count else noP 1
noncomputable def passedP (A : List Int) (s : Nat) (big : Bool) (k : Nat) : Nat := ((((marksP A (begB A big)).filter fun x => decide (s + 1 ≤ x)).take (k - 1)).getLast?).getD s
noncomputable def reachP (A : List Int) (x kind count arg : Int) : Ld :=
 let s := clampP A x false
 let l := goP A (s : Int) kind count arg
 if l.2 ≠ 0 then noP l.2 else
 let f := passedP A s (decide (kind = 25)) (kOf count)
 if (kind = 21 ∨ kind = 25) ∧ ofI A (f : Int) < ofI A l.1.1 then (((s : Int), ((rowL A (ofI A (f : Int))).to_ : Int), 0), 0) else betweenP A (s : Int) l.1.1 l.1.2.1
end Mot
namespace Mot
variable {A : List Int} {i : Nat}
theorem rowL_at (h : i ≤ brs A) : lnAt A i = some (rowL A i) := by
 obtain ⟨l, hl⟩ := lnAt_ok h
 unfold rowL; rw [hl]; rfl
theorem row_ok (h : i ≤ brs A) : LnOk A i (rowL A i) := ln_ok (rowL_at h)
theorem brs_le (A : List Int) : brs A ≤ A.length := by rw [brs_nb]; exact nb_le _ _
theorem lnN_bounds (A : List Int) : 1 ≤ lnN A ∧ lnN A ≤ brs A + 1 := by
 unfold lnN
 by_cases h : ended A = true
 ·rw [if_pos h]
  unfold ended at h
  rw [Bool.and_eq_true, decide_eq_true_eq, beq_iff_eq] at h
  refine ⟨?_, by omega⟩
  rcases Nat.eq_zero_or_pos (brs A) with q | q
  ·rw [q, sk_zero] at h
   have := Option.some.inj h.2
   omega
  ·omega
 ·rw [if_neg h]; omega
theorem lnN_ge (A : List Int) : brs A ≤ lnN A := by unfold lnN; omega
theorem nb_le_brs (A : List Int) (n : Nat) : nb A n ≤ brs A := by
 rw [brs_nb]
 rcases Nat.lt_or_ge n A.length with h | h
 ·exact nb_mono A _ _ (by omega)
 ·rw [nb_ge A n h, ← brs_nb]; exact Nat.le_refl _
theorem inT_le (A : List Int) (x : Int) : inT A x ≤ A.length := by unfold inT; omega
theorem inT_of {A : List Int} {n : Nat} (h : n ≤ A.length) : inT A (n : Int) = n := by unfold inT; omega
theorem ofI_le (A : List Int) (x : Int) : ofI A x ≤ brs A := nb_le_brs A _
theorem rowI_le (A : List Int) (x : Int) (tail : Bool) : rowI A x tail ≤ brs A := by
 unfold rowI
 split
 ·exact ofI_le A x
 ·have := ofI_le A x; omega
theorem lineI_le (A : List Int) (x : Int) : lineI A x < lnN A ∧ lineI A x ≤ brs A := by
 have := lnN_bounds A
 unfold lineI; omega
theorem rowC_chain (A : List Int) (i : Nat) : Chain (rowC A i) := cels_chain _ _
theorem rowB_len (h : i ≤ brs A) : ((A.drop (rowL A i).from_).take ((rowL A i).to_ - (rowL A i).from_)).length = (rowL A i).to_ - (rowL A i).from_ := by
 have ok := row_ok h
 have := ok.ft; have := ok.tn; have := ok.nl
 rw [List.length_take, List.length_drop]; omega
theorem rowC_first {c : Cel} (hc : (rowC A i)[0]? = some c) : c.from_ = (rowL A i).from_ := cels_first hc
theorem rowC_last (h : i ≤ brs A) {c : Cel} {m : Nat} (hc : (rowC A i)[m]? = some c) (hm : m + 1 = (rowC A i).length) : c.to_ = (rowL A i).to_ := by
 have := cels_last hc hm
 rw [rowB_len h] at this
 have := (row_ok h).ft
 omega
theorem rowC_le (h : i ≤ brs A) {c : Cel} {m : Nat} (hc : (rowC A i)[m]? = some c) : (rowL A i).from_ ≤ c.from_ ∧ c.from_ < c.to_ ∧ c.to_ ≤ (rowL A i).to_ := by
 obtain ⟨ci, cj, _, _, q⟩ := lineC_at (row_ok h).ft (by have := (row_ok h).tn; have := (row_ok h).nl; omega) hc
 have := q.from_; have := q.to_; have := q.le; have := q.lt
 omega
theorem rowC_len (h : i ≤ brs A) : (rowC A i).length ≤ (rowL A i).to_ - (rowL A i).from_ := by
 have := cels_le ((A.drop (rowL A i).from_).take ((rowL A i).to_ - (rowL A i).from_)) (rowL A i).from_
 rw [rowB_len h] at this; exact this
theorem rowC_nil (h : i ≤ brs A) : (rowC A i).length = 0 ↔ (rowL A i).from_ = (rowL A i).to_ := by
 have ft := (row_ok h).ft
 constructor
 ·intro h0
  have hl := cels_len ((A.drop (rowL A i).from_).take ((rowL A i).to_ - (rowL A i).from_)) (rowL A i).from_
  have hcl := cuts_last ((A.drop (rowL A i).from_).take ((rowL A i).to_ - (rowL A i).from_))
  have hch := cuts_head ((A.drop (rowL A i).from_).take ((rowL A i).to_ - (rowL A i).from_))
  have hl2 : (cuts ((A.drop (rowL A i).from_).take ((rowL A i).to_ - (rowL A i).from_))).length - 1 = 0 := by rw [← hl]; exact h0
  rw [hl2, hch, rowB_len h] at hcl
  have := Option.some.inj hcl
  omega
 ·intro he
  have := rowC_len h
  omega
theorem cel_get {C : List Cel} {j : Nat} (h : j < C.length) : ∃ c, C[j]? = some c := ⟨_, List.getElem?_eq_getElem h⟩
theorem placeR_lt {c : Nat} (hc : c < (rowC A i).length) : placeR A i (c : Int) = frm (rowC A i) c := by
 unfold placeR; rw [Int.toNat_natCast, if_pos hc]
theorem placeR_ge {c : Int} (hc : (rowC A i).length ≤ c.toNat) : placeR A i c = (rowL A i).to_ := by
 unfold placeR; rw [if_neg (by omega)]
theorem placeR_neg {c : Int} (hc : c ≤ 0) : placeR A i c = placeR A i 0 := by
 unfold placeR
 rw [show c.toNat = 0 by omega]; rfl
theorem placeR_in (h : i ≤ brs A) (c : Int) : (rowL A i).from_ ≤ placeR A i c ∧ placeR A i c ≤ (rowL A i).to_ := by
 have ft := (row_ok h).ft
 unfold placeR
 by_cases hc : c.toNat < (rowC A i).length
 ·obtain ⟨x, hx⟩ := cel_get hc
  rw [if_pos hc, frm_of hx]
  have := rowC_le h hx
  omega
 ·rw [if_neg hc]; omega
theorem placeR_zero (h : i ≤ brs A) : placeR A i 0 = (rowL A i).from_ := by
 by_cases h0 : (rowC A i).length = 0
 ·rw [placeR_ge (by omega)]
  exact ((rowC_nil h).1 h0).symm
 ·obtain ⟨x, hx⟩ := cel_get (C := rowC A i) (j := 0) (by omega)
  have := placeR_lt (A := A) (i := i) (c := 0) (by omega)
  rw [show ((0 : Nat) : Int) = 0 from rfl] at this
  rw [this, frm_of hx]
  exact rowC_first hx
theorem placeR_mono (h : i ≤ brs A) {c d : Nat} (hcd : c < d) (hd : d ≤ (rowC A i).length) : placeR A i (c : Int) < placeR A i (d : Int) := by
 obtain ⟨x, hx⟩ := cel_get (C := rowC A i) (j := c) (by omega)
 rw [placeR_lt (by omega), frm_of hx]
 by_cases hd2 : d < (rowC A i).length
 ·obtain ⟨y, hy⟩ := cel_get hd2
  rw [placeR_lt hd2, frm_of hy]
  have := (rowC_chain A i).lt hcd hx hy
  have := (rowC_chain A i).pos _ x hx
  omega
 ·rw [placeR_ge (by omega)]
  have := rowC_le h hx
  omega
theorem col_place (h : i ≤ brs A) {c : Nat} (hc : c ≤ (rowC A i).length) : firstI (rowC A i) (placeR A i (c : Int) : Int) = c := by
 refine firstI_eq hc (fun j x hj hx => ?_) fun x hx => ?_
 ·have hle : x.to_ ≤ placeR A i (c : Int) := by
   by_cases hc2 : c < (rowC A i).length
   ·obtain ⟨y, hy⟩ := cel_get hc2
    rw [placeR_lt hc2, frm_of hy]
    exact (rowC_chain A i).lt hj hx hy
   ·rw [placeR_ge (by omega)]
    exact (rowC_le h hx).2.2
  omega
 ·have hlt := (List.getElem?_eq_some_iff.1 hx).1
  rw [placeR_lt hlt, frm_of hx]
  have := (rowC_chain A i).pos _ x hx
  omega
theorem row_next {j : Nat} (hij : i < j) (hj : j ≤ brs A) : (rowL A i).next ≤ (rowL A j).from_ := by
 induction j with
 | zero => omega
 | succ j ih =>
  have h1 := rowL_at (A := A) (i := j) (by omega)
  have h2 := rowL_at (A := A) hj
  have hs := (lnAt_some h2).2
  have hst := ((ln_ok h1).brk _ hs).1
  by_cases he : i = j
  ·subst he; omega
  ·have := ih (by omega) (by omega)
   have ok := row_ok (A := A) (i := j) (by omega)
   have := ok.ft; have := ok.tn
   omega
theorem row_of {n : Nat} (hn : n ≤ A.length) : (rowL A (nb A n)).from_ ≤ n ∧ (n < (rowL A (nb A n)).next ∨ (nb A n = brs A ∧ (rowL A (nb A n)).next = A.length)) := by
 obtain ⟨l, hl, h1, h2⟩ := ln_of A hn
 have : rowL A (nb A n) = l := by unfold rowL; rw [hl]; rfl
 rw [this]
 refine ⟨h1, h2.imp id fun ⟨hs, h3⟩ => ⟨?_, h3⟩⟩
 have hb := nb_le_brs A n
 rcases Nat.lt_or_ge (nb A n) (brs A) with q | q
 ·obtain ⟨x, hx⟩ := sk_ok (A := A) (k := nb A n + 1) (by omega)
  rw [hx] at hs; cases hs
 ·omega
theorem of_in (h : i ≤ brs A) {n : Nat} (h1 : (rowL A i).from_ ≤ n) (h2 : n ≤ (rowL A i).to_) : nb A n = i := by
 have ok := row_ok h
 have := ok.tn; have := ok.nl
 rcases Nat.lt_or_ge n (rowL A i).next with q | q
 ·exact ok.nbf n h1 q
 ·have hn : n = (rowL A i).next ∧ n = (rowL A i).to_ := by omega
  cases hx : sk A (i + 1) with
  | none =>
   obtain ⟨_, h3, h4⟩ := ok.tail hx
   by_cases hf : (rowL A i).from_ < n
   ·have h5 := ok.nbf (n - 1) (by omega) (by omega)
    have h6 := nb_succ A (n - 1)
    have hno : isb A (n - 1) = false := by
     obtain ⟨a, ha⟩ : ∃ a, A[n - 1]? = some a := ⟨_, List.getElem?_eq_getElem (by omega)⟩
     have hp := ok.plain (n - 1) a (by omega) (by omega) ha
     cases hb : isb A (n - 1) with
     | false => rfl
     | true =>
      rcases (isb_iff ha).1 hb with q | q
      ·exact absurd q hp.1
      ·exact absurd q.1 hp.2
    rw [hno, show n - 1 + 1 = n by omega] at h6
    simp at h6
    omega
   ·have : n = (rowL A i).from_ := by omega
    rw [this]; exact ok.nbF
  | some x =>
   have := (ok.brk x hx).2.1
   omega
theorem of_place (h : i ≤ brs A) (c : Int) : nb A (placeR A i c) = i := of_in h (placeR_in h c).1 (placeR_in h c).2
theorem place_le (h : i ≤ brs A) (c : Int) : placeR A i c ≤ A.length := by
 have := (placeR_in h c).2
 have ok := row_ok h
 have := ok.tn; have := ok.nl
 omega
theorem ofI_place (h : i ≤ brs A) (c : Int) : ofI A (placeR A i c : Int) = i := by
 unfold ofI
 rw [inT_of (place_le h c)]; exact of_place h c
end Mot
namespace Mot
variable {A : List Int} {p q : Nat × Nat}
noncomputable def nextW (A : List Int) (p : Nat × Nat) : Option (Nat × Nat) := if p.2 + 1 < (rowC A p.1).length then some (p.1, p.2 + 1) else if lnN A ≤ p.1 + 1 then none else some (p.1 + 1, 0)
noncomputable def prevW (A : List Int) (p : Nat × Nat) : Option (Nat × Nat) := if 0 < p.2 then some (p.1, p.2 - 1) else if p.1 = 0 then none else some (p.1 - 1, (rowC A (p.1 - 1)).length - 1)
noncomputable def aft (A : List Int) (p : Nat × Nat) : List (Nat × Nat) := ((List.range' (p.2 + 1) ((rowC A p.1).length - (p.2 + 1))).map fun c => (p.1, c)) ++ (List.range' (p.1 + 1) (lnN A - (p.1 + 1))).flatMap (rowP A)
noncomputable def bef (A : List Int) (p : Nat × Nat) : List (Nat × Nat) := ((List.range p.2).reverse.map fun c => (p.1, c)) ++ (List.range p.1).reverse.flatMap fun i => (rowP A i).reverse
theorem rowP_cons (A : List Int) (i : Nat) : rowP A i = (i, 0) :: (List.range' 1 ((rowC A i).length - 1)).map fun c => (i, c) := by
 unfold rowP
 by_cases h : (rowC A i).length = 0
 ·rw [if_pos h, h]; rfl
 ·rw [if_neg h]
  obtain ⟨n, hn⟩ : ∃ n, (rowC A i).length = n + 1 := ⟨(rowC A i).length - 1, by omega⟩
  rw [hn, List.range_eq_range', List.range'_succ, List.map_cons]; rfl
theorem rowP_rev (A : List Int) (i : Nat) : (rowP A i).reverse = (i, (rowC A i).length - 1) :: (List.range ((rowC A i).length - 1)).reverse.map fun c => (i, c) := by
 unfold rowP
 by_cases h : (rowC A i).length = 0
 ·rw [if_pos h, h]; rfl
 ·rw [if_neg h]
  obtain ⟨n, hn⟩ : ∃ n, (rowC A i).length = n + 1 := ⟨(rowC A i).length - 1, by omega⟩
  rw [hn, List.range_succ, List.map_append, List.reverse_append, Nat.add_sub_cancel, List.map_reverse]; rfl
theorem aft_some (h : nextW A p = some q) : aft A p = q :: aft A q := by
 unfold nextW at h
 unfold aft
 split at h
 ·rename_i hc
  cases h
  obtain ⟨n, hn⟩ : ∃ n, (rowC A p.1).length - (p.2 + 1) = n + 1 := ⟨(rowC A p.1).length - (p.2 + 1) - 1, by omega⟩
  rw [hn, List.range'_succ, List.map_cons, List.cons_append]
  dsimp only
  rw [show (rowC A p.1).length - (p.2 + 1 + 1) = n by omega]
 ·rename_i hc
  split at h
  ·cases h
  ·rename_i hl
   cases h
   rw [show (rowC A p.1).length - (p.2 + 1) = 0 by omega]
   obtain ⟨n, hn⟩ : ∃ n, lnN A - (p.1 + 1) = n + 1 := ⟨lnN A - (p.1 + 1) - 1, by omega⟩
   rw [hn, List.range'_succ, List.flatMap_cons, rowP_cons]
   dsimp only
   rw [show lnN A - (p.1 + 1 + 1) = n by omega]
   simp
theorem aft_none (h : nextW A p = none) : aft A p = [] := by
 unfold nextW at h
 unfold aft
 split at h
 ·cases h
 ·rename_i hc
  split at h
  ·rename_i hl
   rw [show (rowC A p.1).length - (p.2 + 1) = 0 by omega, show lnN A - (p.1 + 1) = 0 by omega]; rfl
  ·cases h
theorem bef_some (h : prevW A p = some q) : bef A p = q :: bef A q := by
 unfold prevW at h
 unfold bef
 split at h
 ·rename_i hc
  cases h
  obtain ⟨n, hn⟩ : ∃ n, p.2 = n + 1 := ⟨p.2 - 1, by omega⟩
  rw [hn, List.range_succ, List.reverse_append]
  simp
 ·rename_i hc
  split at h
  ·cases h
  ·rename_i hl
   cases h
   obtain ⟨n, hn⟩ : ∃ n, p.1 = n + 1 := ⟨p.1 - 1, by omega⟩
   rw [show p.2 = 0 by omega, hn, List.range_succ, List.reverse_append, Nat.add_sub_cancel]
   show ([] : List (Nat × Nat)) ++ (n :: (List.range n).reverse).flatMap _ = _
   rw [List.nil_append, List.flatMap_cons, rowP_rev]
   simp
theorem bef_none (h : prevW A p = none) : bef A p = [] := by
 unfold prevW at h
 unfold bef
 split at h
 ·cases h
 ·rename_i hc
  split at h
  ·rename_i hl
   rw [show p.2 = 0 by omega, hl]; rfl
  ·cases h
structure On (A : List Int) (p : Nat × Nat) : Prop where
 row : p.1 ≤ brs A
 col : p.2 ≤ (rowC A p.1).length
theorem nextW_on (h : On A p) (hq : nextW A p = some q) : On A q ∧ q.1 < lnN A ∧ (q.2 < (rowC A q.1).length ∨ ((rowC A q.1).length = 0 ∧ q.2 = 0)) ∧ p.1 ≤ q.1 := by
 have hb := lnN_bounds A
 have hg := lnN_ge A
 have hr := h.row
 unfold nextW at hq
 split at hq
 ·rename_i hc
  cases hq
  refine ⟨⟨h.row, by dsimp only; omega⟩, ?_, .inl hc, Nat.le_refl _⟩
  dsimp only
  rcases Nat.lt_or_ge p.1 (lnN A) with u | u
  ·exact u
  ·exfalso
   have hp : p.1 = lnN A ∧ lnN A = brs A := by omega
   have := tail_len (A := A) (by omega)
   rw [hp.1, hp.2] at hc
   omega
 ·split at hq
  ·cases hq
  ·rename_i hl
   cases hq
   refine ⟨⟨by dsimp only; omega, Nat.zero_le _⟩, by dsimp only; omega, ?_, by dsimp only; omega⟩
   dsimp only
   rcases Nat.eq_zero_or_pos (rowC A (p.1 + 1)).length with u | u
   ·exact .inr ⟨u, rfl⟩
   ·exact .inl u
where
  tail_len {A : List Int} (h : lnN A = brs A) : (rowC A (brs A)).length = 0 := by
    rw [rowC_nil (Nat.le_refl _)]
    unfold lnN at h
    have he : ended A = true := by
      by_cases h1 : ended A = true
      · exact h1
      · rw [if_neg h1] at h; omega
    unfold ended at he
    rw [Bool.and_eq_true, beq_iff_eq] at he
    have hf := (lnAt_some (rowL_at (A := A) (Nat.le_refl _))).2
    rw [he.2] at hf
    have e1 := Option.some.inj hf
    have ok := row_ok (A := A) (i := brs A) (Nat.le_refl _)
    have := ok.ft; have := ok.tn; have := ok.nl
    omega
theorem tail_nil {A : List Int} (h : lnN A = brs A) : (rowC A (brs A)).length = 0 := nextW_on.tail_len h
structure Plc (A : List Int) (p : Nat × Nat) : Prop where
 row : p.1 < lnN A
 col : p.2 < (rowC A p.1).length ∨ ((rowC A p.1).length = 0 ∧ p.2 = 0)
theorem Plc.on (h : Plc A p) : On A p := ⟨by have := lnN_bounds A; have := h.row; omega, by have := h.col; omega⟩
theorem mem_rowP {i : Nat} : q ∈ rowP A i ↔ q.1 = i ∧ (q.2 < (rowC A i).length ∨ ((rowC A i).length = 0 ∧ q.2 = 0)) := by
 unfold rowP
 by_cases h : (rowC A i).length = 0
 ·rw [if_pos h, List.mem_singleton]
  constructor
  ·rintro rfl; exact ⟨rfl, .inr ⟨h, rfl⟩⟩
  ·rintro ⟨h1, h2⟩
   rcases h2 with h2 | h2
   ·omega
   ·exact Prod.ext h1 h2.2
 ·rw [if_neg h, List.mem_map]
  constructor
  ·rintro ⟨c, hc, rfl⟩
   exact ⟨rfl, .inl (List.mem_range.1 hc)⟩
  ·rintro ⟨h1, h2⟩
   refine ⟨q.2, List.mem_range.2 (by omega), ?_⟩
   rw [← h1]
theorem mem_aft : q ∈ aft A p ↔ (q.1 = p.1 ∧ p.2 < q.2 ∧ q.2 < (rowC A p.1).length) ∨ (p.1 < q.1 ∧ q.1 < lnN A ∧ (q.2 < (rowC A q.1).length ∨ ((rowC A q.1).length = 0 ∧ q.2 = 0))) := by
 unfold aft
 rw [List.mem_append, List.mem_map, List.mem_flatMap]
 constructor
 ·rintro (⟨c, hc, rfl⟩ | ⟨i, hi, hq⟩)
  ·rw [List.mem_range'_1] at hc
   exact .inl ⟨rfl, by dsimp only; omega, by dsimp only; omega⟩
  ·rw [List.mem_range'_1] at hi
   obtain ⟨h1, h2⟩ := mem_rowP.1 hq
   subst h1
   exact .inr ⟨by omega, by omega, h2⟩
 ·rintro (⟨h1, h2, h3⟩ | ⟨h1, h2, h3⟩)
  ·refine .inl ⟨q.2, by rw [List.mem_range'_1]; omega, ?_⟩
   rw [← h1]
  ·exact .inr ⟨q.1, by rw [List.mem_range'_1]; omega, mem_rowP.2 ⟨rfl, h3⟩⟩
theorem mem_bef : q ∈ bef A p ↔ (q.1 = p.1 ∧ q.2 < p.2) ∨ (q.1 < p.1 ∧ (q.2 < (rowC A q.1).length ∨ ((rowC A q.1).length = 0 ∧ q.2 = 0))) := by
 unfold bef
 rw [List.mem_append, List.mem_map, List.mem_flatMap]
 constructor
 ·rintro (⟨c, hc, rfl⟩ | ⟨i, hi, hq⟩)
  ·rw [List.mem_reverse, List.mem_range] at hc
   exact .inl ⟨rfl, hc⟩
  ·rw [List.mem_reverse, List.mem_range] at hi
   rw [List.mem_reverse] at hq
   obtain ⟨h1, h2⟩ := mem_rowP.1 hq
   subst h1
   exact .inr ⟨hi, h2⟩
 ·rintro (⟨h1, h2⟩ | ⟨h1, h2⟩)
  ·refine .inl ⟨q.2, by rw [List.mem_reverse, List.mem_range]; exact h2, ?_⟩
   rw [← h1]
  ·exact .inr ⟨q.1, by rw [List.mem_reverse, List.mem_range]; exact h1, by rw [List.mem_reverse]; exact mem_rowP.2 ⟨rfl, h2⟩⟩
theorem off_lt_rows (hp : On A p) (hq : On A q) (h : p.1 < q.1) : offP A p < offP A q := by
 have h1 := (placeR_in hp.row (p.2 : Int)).2
 have h2 := (placeR_in hq.row (q.2 : Int)).1
 have h3 := row_next h hq.row
 have hr := hq.row
 obtain ⟨x, hx⟩ := sk_ok (A := A) (k := p.1 + 1) (by omega)
 have := ((row_ok hp.row).brk x hx).2.1
 unfold offP; omega
theorem off_lt (hp : On A p) (hq : On A q) (h : p.1 < q.1 ∨ (p.1 = q.1 ∧ p.2 < q.2)) : offP A p < offP A q := by
 rcases h with h | ⟨h1, h2⟩
 ·exact off_lt_rows hp hq h
 ·unfold offP
  rw [h1]
  exact placeR_mono hq.row h2 hq.col
theorem aft_off (hp : On A p) (hq : q ∈ aft A p) : offP A p < offP A q := by
 have hb := lnN_bounds A
 rcases mem_aft.1 hq with ⟨h1, h2, h3⟩ | ⟨h1, h2, h3⟩
 ·exact off_lt hp ⟨by rw [h1]; exact hp.row, by rw [h1]; omega⟩ (.inr ⟨h1.symm, h2⟩)
 ·exact off_lt hp ⟨by omega, by omega⟩ (.inl h1)
theorem bef_off (hp : On A p) (hq : q ∈ bef A p) : offP A q < offP A p := by
 have hr := hp.row
 rcases mem_bef.1 hq with ⟨h1, h2⟩ | ⟨h1, h2⟩
 ·exact off_lt ⟨by omega, by rw [h1]; have := hp.col; omega⟩ hp (.inr ⟨h1, h2⟩)
 ·exact off_lt ⟨by omega, by omega⟩ hp (.inl h1)
theorem flat_split (A : List Int) {i n : Nat} (h : i < n) : (List.range n).flatMap (rowP A) = (List.range i).flatMap (rowP A) ++ (rowP A i ++ (List.range' (i + 1) (n - (i + 1))).flatMap (rowP A)) := by
 have e : List.range n = List.range i ++ (i :: List.range' (i + 1) (n - (i + 1))) := by
  rw [List.range_eq_range', List.range_eq_range', ← List.range'_succ]
  have := @List.range'_append_1 0 i (n - (i + 1) + 1)
  rw [Nat.zero_add] at this
  rw [this]
  congr 1; omega
 rw [e, List.flatMap_append, List.flatMap_cons]
theorem bef_rows (A : List Int) (i : Nat) : ((List.range i).reverse.flatMap fun i => (rowP A i).reverse).reverse = (List.range i).flatMap (rowP A) := by
 induction i with
 | zero => rfl
 | succ i ih =>
  rw [List.range_succ, List.reverse_append, List.flatMap_append]
  show (([i].reverse).flatMap _ ++ _).reverse = _
  rw [List.flatMap_append, List.reverse_append, ih]
  simp
theorem all_split (h : Plc A p) : allP A = (bef A p).reverse ++ p :: aft A p := by
 unfold allP
 rw [flat_split A h.row]
 unfold bef aft
 rw [List.reverse_append, bef_rows, List.append_assoc]
 congr 1
 rw [← List.cons_append, ← List.append_assoc]
 congr 1
 unfold rowP
 rcases h.col with hc | ⟨hc, h0⟩
 ·rw [if_neg (by omega), List.map_reverse, List.reverse_reverse]
  have e : List.range (rowC A p.1).length = List.range p.2 ++ (p.2 :: List.range' (p.2 + 1) ((rowC A p.1).length - (p.2 + 1))) := by
   rw [List.range_eq_range', List.range_eq_range', ← List.range'_succ]
   have := @List.range'_append_1 0 p.2 ((rowC A p.1).length - (p.2 + 1) + 1)
   rw [Nat.zero_add] at this
   rw [this]
   congr 1; omega
  rw [e, List.map_append, List.map_cons]
 ·rw [if_pos hc, hc, h0]
  show [(p.1, 0)] = _
  have : p = (p.1, 0) := Prod.ext rfl h0
  simp [← this]
theorem all_past (h : On A p) (hn : ¬ Plc A p) : allP A = (bef A p).reverse ++ aft A p := by
 have hb := lnN_bounds A
 have hg := lnN_ge A
 have hr := h.row; have hc := h.col
 by_cases h1 : p.1 < lnN A
 ·have h2 : 0 < (rowC A p.1).length ∧ p.2 = (rowC A p.1).length := by
   rcases Nat.eq_zero_or_pos (rowC A p.1).length with u | u
   ·exact absurd ⟨h1, .inr ⟨u, by omega⟩⟩ hn
   ·refine ⟨u, ?_⟩
    rcases Nat.lt_or_ge p.2 (rowC A p.1).length with v | v
    ·exact absurd ⟨h1, .inl v⟩ hn
    ·omega
  unfold allP
  rw [flat_split A h1]
  unfold bef aft
  rw [List.reverse_append, bef_rows, List.append_assoc, List.map_reverse, List.reverse_reverse]
  congr 1
  rw [show (rowC A p.1).length - (p.2 + 1) = 0 by omega]
  unfold rowP
  rw [if_neg (by omega), h2.2]; rfl
 ·have hp : p.1 = lnN A ∧ lnN A = brs A := by omega
  have hz := tail_nil hp.2
  unfold allP bef aft
  rw [List.reverse_append, bef_rows]
  have h0 : p.2 = 0 := by rw [hp.1, hp.2] at hc; omega
  rw [show lnN A - (p.1 + 1) = 0 by omega, h0, hp.1]
  rw [show (rowC A (lnN A)).length - (0 + 1) = 0 by rw [hp.2]; omega]
  simp
end Mot
namespace Mot
variable {A : List Int} {p q : Nat × Nat}
theorem first_in {i n : Nat} (h : i ≤ brs A) (h1 : (rowL A i).from_ ≤ n) (h2 : n < (rowL A i).to_) : firstI (rowC A i) (n : Int) < (rowC A i).length ∧ placeR A i ((firstI (rowC A i) (n : Int) : Nat) : Int) ≤ n := by
 obtain ⟨s1, s2⟩ := firstI_spec (C := rowC A i) (at_ := (n : Int))
 have hle := firstI_le (rowC A i) (n : Int)
 have hlt : firstI (rowC A i) (n : Int) < (rowC A i).length := by
  rcases Nat.lt_or_ge (firstI (rowC A i) (n : Int)) (rowC A i).length with q | q
  ·exact q
  ·exfalso
   have hn : (rowC A i).length ≠ 0 := fun h0 => by have := (rowC_nil h).1 h0; omega
   obtain ⟨z, hz⟩ := cel_get (C := rowC A i) (j := (rowC A i).length - 1) (by omega)
   have := s1 _ z (by omega) hz
   have := rowC_last h hz (by omega)
   omega
 refine ⟨hlt, ?_⟩
 rw [placeR_lt hlt]
 obtain ⟨c, hc⟩ := cel_get hlt
 rw [frm_of hc]
 cases hf : firstI (rowC A i) (n : Int) with
 | zero =>
  rw [hf] at hc
  have := rowC_first hc
  omega
 | succ m =>
  rw [hf] at hc
  obtain ⟨d, hd⟩ := cel_get (C := rowC A i) (j := m) (by omega)
  have := s1 m d (by omega) hd
  have := (rowC_chain A i).next m d c hd hc
  omega
theorem clamp_is (A : List Int) (x : Int) (past : Bool) : ∃ c : Nat, c ≤ (rowC A (rowI A x past)).length ∧ (past = false → c < (rowC A (rowI A x past)).length ∨ (rowC A (rowI A x past)).length = 0) ∧ clampP A x past = placeR A (rowI A x past) (c : Int) := by
 have hi := rowI_le A x past
 unfold clampP
 by_cases h : (rowL A (rowI A x past)).to_ ≤ inT A x
 ·rw [if_pos h]
  cases past with
  | true => exact ⟨_, Nat.le_refl _, (fun h => by cases h), by rw [if_pos rfl]; exact (placeR_ge (by omega)).symm⟩
  | false =>
   rw [if_neg (by decide)]
   refine ⟨(rowC A (rowI A x false)).length - 1, by omega, fun _ => by omega, ?_⟩
   rcases Nat.eq_zero_or_pos (rowC A (rowI A x false)).length with u | u
   ·rw [u]
    exact placeR_neg (by omega)
   ·rw [show ((rowC A (rowI A x false)).length : Int) - 1 = (((rowC A (rowI A x false)).length - 1 : Nat) : Int) by omega]
 ·rw [if_neg h]
  have hf : (rowL A (rowI A x past)).from_ ≤ inT A x := by
   have hro := (row_of (A := A) (inT_le A x)).1
   unfold rowI at h ⊢
   cases past with
   | true => exact hro
   | false =>
    rw [if_neg (by decide)] at h ⊢
    rcases Nat.lt_or_ge (lnN A - 1) (ofI A x) with u | u
    ·exfalso
     rw [Nat.min_eq_right (by omega)] at h
     have hb := lnN_bounds A
     have hro2 := row_next (A := A) (i := lnN A - 1) (j := ofI A x) u (ofI_le A x)
     have ok := row_ok (A := A) (i := lnN A - 1) (by omega)
     have := ok.tn
     unfold ofI at hro2
     omega
    ·rw [Nat.min_eq_left u]; exact hro
  obtain ⟨g1, g2⟩ := first_in hi hf (by omega)
  exact ⟨_, by omega, fun _ => .inl g1, rfl⟩
noncomputable def posP (A : List Int) (x : Int) (past : Bool) : Nat × Nat := (rowI A x past, firstI (rowC A (rowI A x past)) (clampP A x past : Int))
theorem clamp_row (A : List Int) (x : Int) (past : Bool) : rowI A (clampP A x past : Int) past = rowI A x past := by
 obtain ⟨c, _, _, hc⟩ := clamp_is A x past
 have hi := rowI_le A x past
 rw [hc]
 have ho := ofI_place hi (c : Int)
 show (if past then ofI A _ else min (ofI A _) (lnN A - 1)) = _
 rw [ho]
 cases past with
 | true => rfl
 | false =>
  rw [if_neg (by decide)]
  unfold rowI
  rw [if_neg (by decide)]; omega
theorem pos_is (A : List Int) (x : Int) (past : Bool) : On A (posP A x past) ∧ offP A (posP A x past) = clampP A x past ∧ (past = false → Plc A (posP A x past)) := by
 obtain ⟨c, h1, h2, hc⟩ := clamp_is A x past
 have hi := rowI_le A x past
 have hcol : firstI (rowC A (rowI A x past)) (clampP A x past : Int) = c := by rw [hc]; exact col_place hi h1
 unfold posP
 rw [hcol]
 refine ⟨⟨hi, h1⟩, hc.symm, fun hp => ⟨?_, ?_⟩⟩
 ·subst hp
  have hb := lnN_bounds A
  show rowI A x false < _
  unfold rowI
  rw [if_neg (by decide)]; omega
 ·rcases h2 hp with q | q
  ·exact .inl q
  ·exact .inr ⟨q, by dsimp only at h1 ⊢; omega⟩
theorem clamp_on {i c : Nat} (h : i ≤ brs A) (hc : c ≤ (rowC A i).length) : clampP A (placeR A i (c : Int) : Int) true = placeR A i (c : Int) := by
 have hr : rowI A (placeR A i (c : Int) : Int) true = i := by unfold rowI; rw [if_pos rfl]; exact ofI_place h _
 unfold clampP
 rw [hr, inT_of (place_le h _), if_pos rfl]
 by_cases hl : (rowL A i).to_ ≤ placeR A i (c : Int)
 ·rw [if_pos hl]
  have := (placeR_in h (c : Int)).2; omega
 ·rw [if_neg hl, col_place h hc]
theorem clamp_in {i c : Nat} (h : i < lnN A) (hc : c < (rowC A i).length ∨ ((rowC A i).length = 0 ∧ c = 0)) : clampP A (placeR A i (c : Int) : Int) false = placeR A i (c : Int) := by
 have hb := lnN_bounds A
 have hi : i ≤ brs A := by omega
 have hr : rowI A (placeR A i (c : Int) : Int) false = i := by unfold rowI; rw [if_neg (by decide), ofI_place hi]; omega
 unfold clampP
 rw [hr, inT_of (place_le hi _), if_neg (show ¬ (false = true) by decide)]
 rcases hc with hc | ⟨h0, rfl⟩
 ·have h1 := placeR_mono hi hc (Nat.le_refl _)
  rw [placeR_ge (c := ((rowC A i).length : Int)) (by omega)] at h1
  rw [if_neg (by omega), col_place hi (by omega)]
 ·have e1 : placeR A i ((0 : Nat) : Int) = (rowL A i).to_ := placeR_ge (by omega)
  rw [e1, if_pos (Nat.le_refl _), h0, placeR_neg (by omega)]
  exact e1
theorem marks_aft (f : Nat × Nat → Bool) (h : On A p) : (marksP A f).filter (fun x => decide (offP A p + 1 ≤ x)) = ((aft A p).filter f).map (offP A) := by
 have hA : ∀ l : List (Nat × Nat), (∀ q ∈ l, offP A q ≤ offP A p) → ((l.filter f).map (offP A)).filter (fun x => decide (offP A p + 1 ≤ x)) = [] := fun l hl => by
  rw [List.filter_eq_nil_iff]
  intro x hx
  obtain ⟨q, hq, rfl⟩ := List.mem_map.1 hx
  have := hl q (List.mem_filter.1 hq).1
  simp; omega
 have hB : ((aft A p).filter f).map (offP A) = (((aft A p).filter f).map (offP A)).filter (fun x => decide (offP A p + 1 ≤ x)) := by
  refine (List.filter_eq_self.2 fun x hx => ?_).symm
  obtain ⟨q, hq, rfl⟩ := List.mem_map.1 hx
  have := aft_off h (List.mem_filter.1 hq).1
  simp; omega
 have hC : ∀ q ∈ (bef A p).reverse, offP A q ≤ offP A p := fun q hq => Nat.le_of_lt (bef_off h (List.mem_reverse.1 hq))
 unfold marksP
 by_cases hp : Plc A p
 ·rw [all_split hp]
  have e : (bef A p).reverse ++ p :: aft A p = ((bef A p).reverse ++ [p]) ++ aft A p := by simp
  rw [e, List.filter_append, List.map_append, List.filter_append, hA _ (fun q hq => by
   rcases List.mem_append.1 hq with hq | hq
   ·exact hC q hq
   ·rw [List.mem_singleton.1 hq]; exact Nat.le_refl _), List.nil_append, ← hB]
 ·rw [all_past h hp, List.filter_append, List.map_append, List.filter_append, hA _ hC, List.nil_append, ← hB]
theorem marks_bef (f : Nat × Nat → Bool) (h : On A p) : ((marksP A f).filter (fun x => decide (x < offP A p))).reverse = ((bef A p).filter f).map (offP A) := by
 have hA : ∀ l : List (Nat × Nat), (∀ q ∈ l, offP A p ≤ offP A q) → ((l.filter f).map (offP A)).filter (fun x => decide (x < offP A p)) = [] := fun l hl => by
  rw [List.filter_eq_nil_iff]
  intro x hx
  obtain ⟨q, hq, rfl⟩ := List.mem_map.1 hx
  have := hl q (List.mem_filter.1 hq).1
  simp; omega
 have hB : ((((bef A p).reverse).filter f).map (offP A)).filter (fun x => decide (x < offP A p)) = (((bef A p).reverse).filter f).map (offP A) := by
  refine List.filter_eq_self.2 fun x hx => ?_
  obtain ⟨q, hq, rfl⟩ := List.mem_map.1 hx
  have := bef_off h (List.mem_reverse.1 (List.mem_filter.1 hq).1)
  simp; omega
 have hC : ∀ q ∈ aft A p, offP A p ≤ offP A q := fun q hq => Nat.le_of_lt (aft_off h hq)
 have fin : ((((bef A p).reverse).filter f).map (offP A)).reverse = ((bef A p).filter f).map (offP A) := by
  rw [List.filter_reverse, List.map_reverse, List.reverse_reverse]
 unfold marksP
 by_cases hp : Plc A p
 ·rw [all_split hp, List.filter_append, List.map_append, List.filter_append, hB, hA (p :: aft A p) (fun q hq => by
   rcases List.mem_cons.1 hq with rfl | hq
   ·exact Nat.le_refl _
   ·exact hC q hq), List.append_nil, fin]
 ·rw [all_past h hp, List.filter_append, List.map_append, List.filter_append, hB, hA _ hC, List.append_nil, fin]
theorem after_aft (f : Nat × Nat → Bool) (h : On A p) (k : Nat) : afterL (marksP A f) (offP A p + 1) k = (((aft A p).filter f)[k - 1]?).map (offP A) := by
 unfold afterL
 rw [marks_aft f h, List.getElem?_map]
theorem before_bef (f : Nat × Nat → Bool) (h : On A p) (k : Nat) : beforeL (marksP A f) (offP A p) k = (((bef A p).filter f)[k - 1]?).map (offP A) := by
 unfold beforeL
 rw [marks_bef f h, List.getElem?_map]
theorem marks_here (f : Nat × Nat → Bool) (h : On A p) (hf : f p = true → Plc A p) : (marksP A f).filter (fun x => decide (offP A p ≤ x)) = ((if f p then [p] else []) ++ (aft A p).filter f).map (offP A) := by
 have hA : ∀ l : List (Nat × Nat), (∀ q ∈ l, offP A q < offP A p) → ((l.filter f).map (offP A)).filter (fun x => decide (offP A p ≤ x)) = [] := fun l hl => by
  rw [List.filter_eq_nil_iff]
  intro x hx
  obtain ⟨q, hq, rfl⟩ := List.mem_map.1 hx
  have := hl q (List.mem_filter.1 hq).1
  simp; omega
 have hB : ∀ l : List (Nat × Nat), (∀ q ∈ l, offP A p ≤ offP A q) → ((l.filter f).map (offP A)).filter (fun x => decide (offP A p ≤ x)) = (l.filter f).map (offP A) := fun l hl => by
  refine List.filter_eq_self.2 fun x hx => ?_
  obtain ⟨q, hq, rfl⟩ := List.mem_map.1 hx
  have := hl q (List.mem_filter.1 hq).1
  simp; omega
 have hC : ∀ q ∈ (bef A p).reverse, offP A q < offP A p := fun q hq => bef_off h (List.mem_reverse.1 hq)
 have hD : ∀ q ∈ aft A p, offP A p ≤ offP A q := fun q hq => Nat.le_of_lt (aft_off h hq)
 unfold marksP
 by_cases hp : Plc A p
 ·rw [all_split hp, List.filter_append, List.map_append, List.filter_append, hA _ hC, List.nil_append, hB (p :: aft A p) (fun q hq => by
   rcases List.mem_cons.1 hq with rfl | hq
   ·exact Nat.le_refl _
   ·exact hD q hq)]
  cases hfp : f p with
  | true => rw [List.filter_cons_of_pos hfp, if_pos rfl]; rfl
  | false => rw [List.filter_cons_of_neg (by rw [hfp]; decide), if_neg (by decide)]; rfl
 ·rw [all_past h hp, List.filter_append, List.map_append, List.filter_append, hA _ hC, List.nil_append, hB _ hD]
  have : f p = false := by
   cases hfp : f p with
   | false => rfl
   | true => exact absurd (hf hfp) hp
  rw [this, if_neg (by decide), List.nil_append]
end Mot
namespace Mot
variable {A : List Int} {p q : Nat × Nat}
def Stand (A : List Int) (n : Nat) (past : Bool) : Prop := ∃ p, On A p ∧ offP A p = n ∧ (past = false → Plc A p)
theorem stand_clamp (A : List Int) (x : Int) (past : Bool) : Stand A (clampP A x past) past := by
 obtain ⟨h1, h2, h3⟩ := pos_is A x past
 exact ⟨_, h1, h2, h3⟩
theorem stand_past {n : Nat} {past : Bool} (h : Stand A n past) : Stand A n true := by
 obtain ⟨p, h1, h2, _⟩ := h
 exact ⟨p, h1, h2, fun hc => by cases hc⟩
theorem Stand.clamp {n : Nat} {past : Bool} (h : Stand A n past) : clampP A (n : Int) past = n := by
 obtain ⟨⟨i, c⟩, h1, rfl, h3⟩ := h
 cases past with
 | true => exact clamp_on h1.row h1.col
 | false => exact clamp_in (h3 rfl).row (h3 rfl).col
theorem stand_place {i : Nat} (h : i ≤ brs A) (c : Int) : Stand A (placeR A i c) true := by
 by_cases hc : c.toNat ≤ (rowC A i).length
 ·refine ⟨(i, c.toNat), ⟨h, hc⟩, ?_, fun hc => by cases hc⟩
  show placeR A i ((c.toNat : Nat) : Int) = _
  unfold placeR
  rw [Int.toNat_natCast]
 ·refine ⟨(i, (rowC A i).length), ⟨h, Nat.le_refl _⟩, ?_, fun hc => by cases hc⟩
  show placeR A i ((rowC A i).length : Int) = _
  rw [placeR_ge (c := ((rowC A i).length : Int)) (by omega), placeR_ge (by omega)]
theorem stand_in {i : Nat} (h : i < lnN A) {c : Int} (hc : c < (rowC A i).length ∨ (rowC A i).length = 0) : Stand A (placeR A i c) false := by
 have hb := lnN_bounds A
 by_cases h0 : (rowC A i).length = 0
 ·refine ⟨(i, 0), ⟨by dsimp only; omega, by dsimp only; omega⟩, ?_, fun _ => ⟨h, .inr ⟨h0, rfl⟩⟩⟩
  show placeR A i ((0 : Nat) : Int) = _
  rw [placeR_ge (c := ((0 : Nat) : Int)) (by omega), placeR_ge (by omega)]
 ·refine ⟨(i, c.toNat), ⟨by dsimp only; omega, by dsimp only; omega⟩, ?_, fun _ => ⟨h, .inl (by dsimp only; omega)⟩⟩
  show placeR A i ((c.toNat : Nat) : Int) = _
  unfold placeR
  rw [Int.toNat_natCast]
theorem rowI_lt (A : List Int) (x : Int) : rowI A x false < lnN A := by
 have := lnN_bounds A
 unfold rowI
 rw [if_neg (by decide)]; omega
theorem stand_placeP (A : List Int) (line col : Int) (past : Bool) : Stand A (placeP A line col past) past := by
 have hl := lineI_le A line
 unfold placeP
 cases past with
 | true => exact stand_place hl.2 _
 | false =>
  refine stand_in hl.1 ?_
  split
  ·omega
  ·rename_i h
   left
   apply Classical.byContradiction
   intro hc
   exact h ⟨by omega, rfl⟩
theorem signR_le (A : List Int) (i : Nat) : signR A i < (rowC A i).length ∨ (rowC A i).length = 0 := by
 unfold signR
 split
 ·left; assumption
 ·omega
def Lands (A : List Int) (past : Bool) (l : Ld) : Prop := (l.2 = 0 → ∃ n : Nat, l.1.1 = (n : Int) ∧ Stand A n past ∧ 0 ≤ l.1.2.1 ∧ l.1.2.1 ≤ 2) ∧ (l.2 ≠ 0 → l.1 = (0, 0, 0))
theorem lands_no (A : List Int) (past : Bool) {e : Int} (h : e ≠ 0) : Lands A past (noP e) := ⟨fun hc => absurd hc h, fun _ => rfl⟩
theorem lands_at {n : Nat} {past : Bool} {k : Int} (h : Stand A n past) (hk : 0 ≤ k ∧ k ≤ 2) : Lands A past (landP A n k) := ⟨fun _ => ⟨n, rfl, h, hk.1, hk.2⟩, fun hc => absurd rfl hc⟩
theorem seekL_mem {C : List Cel} {a : Int} {L : List Nat} {k j : Nat} (h : seekL C a L k = some j) : j ∈ L ∧ ∃ c, C[j]? = some c := by
 unfold seekL at h
 have := List.mem_of_getElem? h
 rw [List.mem_filter, decide_eq_true_eq] at this
 refine ⟨this.1, ?_⟩
 cases hc : C[j]? with
 | none => rw [hc] at this; simp at this
 | some c => exact ⟨c, rfl⟩
theorem kOf_pos (c : Int) : 1 ≤ kOf c := by unfold kOf; split <;> omega
theorem kOf_le (c : Int) : kOf c ≤ 9999 := by unfold kOf; split <;> omega
theorem lands_chars (A : List Int) (x kind count arg : Int) (past : Bool) : Lands A past (charsP A x kind count arg past) := by
 have hi := rowI_le A (clampP A x past : Int) past
 have hk := kOf_pos count
 have hb := lnN_bounds A
 have hrow : past = false → rowI A (clampP A x past : Int) past < lnN A := fun h => by subst h; exact rowI_lt A _
 have col : ∀ {c : Int} {k : Int}, (past = false → c < (rowC A (rowI A (clampP A x past : Int) past)).length ∨ (rowC A (rowI A (clampP A x past : Int) past)).length = 0) → 0 ≤ k ∧ k ≤ 2 → Lands A past (landP A (placeR A (rowI A (clampP A x past : Int) past) c) k) := fun {c k} h1 h2 => by
  refine lands_at ?_ h2
  cases past with
  | true => exact stand_place hi c
  | false => exact stand_in (hrow rfl) (h1 rfl)
 have hfirst : past = false → firstI (rowC A (rowI A (clampP A x past : Int) past)) (clampP A x past : Int) < (rowC A (rowI A (clampP A x past : Int) past)).length ∨ (rowC A (rowI A (clampP A x past : Int) past)).length = 0 := fun h => by
  obtain ⟨_, _, h3⟩ := pos_is A x past
  have := (h3 h).col
  unfold posP at this
  dsimp only at this
  rw [clamp_row]
  exact this.imp id fun h => h.1
 have hfl := firstI_le (rowC A (rowI A (clampP A x past : Int) past)) (clampP A x past : Int)
 unfold charsP
 dsimp only
 generalize hI : rowI A (clampP A x past : Int) past = i at *
 generalize firstI (rowC A i) (clampP A x past : Int) = c at *
 have hmost : past = false → ((if past then (rowC A i).length else (rowC A i).length - 1 : Nat) : Int) < (rowC A i).length ∨ (rowC A i).length = 0 := fun h => by
  subst h; rw [if_neg (by decide)]; omega
 generalize (if past then (rowC A i).length else (rowC A i).length - 1) = most at *
 split
 ·split
  ·exact lands_no A past (by decide)
  ·exact col (fun h => (hfirst h).imp (fun _ => by omega) id) (by decide)
 split
 ·split
  ·exact lands_no A past (by decide)
  ·exact col (fun h => (hmost h).imp (fun _ => by omega) id) (by decide)
 split
 ·have := col (c := 0) (k := 0) (fun h => by omega) (by decide)
  rw [placeR_zero hi] at this; exact this
 split
 ·exact col (fun _ => (signR_le A i).imp (fun _ => by omega) id) (by decide)
 split
 ·refine ⟨fun _ => ⟨_, rfl, ?_, (by decide : (0 : Int) ≤ 1), (by decide : (1 : Int) ≤ 2)⟩, fun hc => absurd rfl hc⟩
  have hj : ∀ j, j ≤ brs A → (past = false → j < lnN A) → Stand A (placeR A j (((rowC A j).length : Int) - 1)) past := fun j h1 h2 => by
   cases past with
   | true => exact stand_place h1 _
   | false => exact stand_in (h2 rfl) (by omega)
  split
  ·exact hj _ (by omega) (fun _ => by omega)
  ·exact hj _ hi hrow
 split
 ·exact col (fun h => (hmost h).imp (fun _ => by omega) id) (by decide)
 split
 ·split
  ·exact lands_no A past (by decide)
  ·rename_i j hj
   obtain ⟨_, d, hd⟩ := seekL_mem hj
   have := (List.getElem?_eq_some_iff.1 hd).1
   exact col (fun _ => .inl (by split <;> omega)) (by decide)
 split
 ·split
  ·exact lands_no A past (by decide)
  ·rename_i j hj
   obtain ⟨hm, d, hd⟩ := seekL_mem hj
   have := (List.getElem?_eq_some_iff.1 hd).1
   unfold downL at hm
   rw [List.mem_reverse, List.mem_range] at hm
   exact col (fun h => by
    rcases hfirst h with u | u
    ·left; split <;> omega
    ·omega) (by decide)
 ·exact lands_no A past (by decide)
theorem lands_sign (A : List Int) (line : Int) : Lands A false (toSignP A line) := lands_at (stand_in (lineI_le A line).1 ((signR_le A _).imp (fun _ => by omega) id)) (by decide)
theorem lands_row (A : List Int) (line goal : Int) : Lands A false (toRowP A line goal) := ⟨fun _ => ⟨_, rfl, stand_placeP A line goal false, (by decide : (0 : Int) ≤ 2), (by decide : (2 : Int) ≤ 2)⟩, fun hc => absurd rfl hc⟩
theorem lands_rows (A : List Int) (x goal kind count : Int) : Lands A false (rowsP A x goal kind count) := by
 unfold rowsP
 dsimp only
 have no := lands_no A false (e := 80) (by decide)
 split
 ·split
  ·exact no
  ·exact lands_row A _ _
 split
 ·split
  ·exact no
  ·exact lands_row A _ _
 split
 ·split
  ·exact no
  ·exact lands_sign A _
 split
 ·split
  ·exact no
  ·exact lands_sign A _
 split
 ·exact lands_sign A _
 split
 ·exact lands_sign A _
 split
 ·exact lands_sign A _
 split
 ·split
  ·exact no
  ·exact lands_sign A _
 ·exact lands_no A false (by decide)
theorem mem_all : p ∈ allP A ↔ Plc A p := by
 unfold allP
 rw [List.mem_flatMap]
 constructor
 ·rintro ⟨i, hi, hp⟩
  obtain ⟨h1, h2⟩ := mem_rowP.1 hp
  subst h1
  exact ⟨List.mem_range.1 hi, h2⟩
 ·rintro ⟨h1, h2⟩
  exact ⟨p.1, List.mem_range.2 h1, mem_rowP.2 ⟨rfl, h2⟩⟩
theorem stand_mark {f : Nat × Nat → Bool} {n : Nat} (h : n ∈ marksP A f) (past : Bool) : Stand A n past := by
 obtain ⟨p, hp, rfl⟩ := List.mem_map.1 h
 have := mem_all.1 (List.mem_filter.1 hp).1
 exact ⟨p, this.on, rfl, fun _ => this⟩
theorem after_mem {l : List Nat} {n k x : Nat} (h : afterL l n k = some x) : x ∈ l := (List.mem_filter.1 (List.mem_of_getElem? h)).1
theorem before_mem {l : List Nat} {n k x : Nat} (h : beforeL l n k = some x) : x ∈ l := (List.mem_filter.1 (List.mem_reverse.1 (List.mem_of_getElem? h))).1
theorem stand_last (A : List Int) (past : Bool) : Stand A (lastPl A) past := by
 have hb := lnN_bounds A
 have : Stand A (lastPl A) false := stand_in (by omega) (by omega)
 cases past with
 | true => exact stand_past this
 | false => exact this
theorem stand_zero (A : List Int) (past : Bool) : Stand A 0 past := by
 have hb := lnN_bounds A
 have h0 : (rowL A 0).from_ = 0 := by
  have := (lnAt_some (rowL_at (A := A) (Nat.zero_le _))).2
  rw [sk_zero] at this
  exact (Option.some.inj this).symm
 have : Stand A (placeR A 0 0) false := stand_in (by omega) (by omega)
 rw [placeR_zero (Nat.zero_le _), h0] at this
 cases past with
 | true => exact stand_past this
 | false => exact this
theorem lands_words (A : List Int) (x kind count : Int) (past : Bool) : Lands A past (wordsM A x kind count past) := by
 unfold wordsM
 dsimp only
 have no := lands_no A past (e := 80) (by decide)
 have hb := lnN_bounds A
 have getD : ∀ (o : Option Nat) (d : Nat), (∀ n, o = some n → Stand A n past) → Stand A d past → Stand A (o.getD d) past := fun o d h1 h2 => by
  cases o with
  | none => exact h2
  | some n => exact h1 n rfl
 have hend : Stand A (if past then (rowL A (lnN A - 1)).to_ else lastPl A) past := by
  cases past with
  | true =>
   rw [if_pos rfl]
   have := stand_place (A := A) (i := lnN A - 1) (by omega) ((rowC A (lnN A - 1)).length : Int)
   rwa [placeR_ge (by omega)] at this
  | false => exact stand_last A false
 generalize (if past then (rowL A (lnN A - 1)).to_ else lastPl A) = last at *
 split
 ·split
  ·exact no
  ·exact lands_at (getD _ _ (fun n hn => stand_mark (after_mem hn) past) hend) (by decide)
 split
 ·split
  ·exact no
  ·exact lands_at (getD _ _ (fun n hn => stand_mark (before_mem hn) past) (stand_zero A past)) (by decide)
 split
 ·split
  ·exact no
  ·exact lands_at (getD _ _ (fun n hn => stand_mark (after_mem hn) past) (stand_last A past)) (by decide)
 split
 ·split
  ·exact no
  ·exact lands_at (getD _ _ (fun n hn => stand_mark (before_mem hn) past) (stand_zero A past)) (by decide)
 split
 ·refine lands_at (getD _ _ (fun n hn => stand_mark (after_mem hn) past) ?_) (by decide)
  rcases Nat.le_total (lastPl A) (clampP A x past) with u | u
  ·rw [Nat.max_eq_right u]; exact stand_clamp A x past
  ·rw [Nat.max_eq_left u]; exact stand_last A past
 ·exact lands_no A past (by decide)
theorem shut_mem {own : Nat} : ∀ {L : List ((Nat × Nat) × Nat)} {d : Nat} {p : Nat × Nat}, shutL own L d = some p → ∃ b, (p, b) ∈ L
 | [], _, _, h => by simp [shutL] at h
 | (q, b) :: r, d, p, h => by
  have up : (∃ b', (p, b') ∈ r) → ∃ b', (p, b') ∈ (q, b) :: r := fun ⟨b', hb⟩ => ⟨b', List.mem_cons_of_mem _ hb⟩
  rw [shutL] at h
  split at h
  ·exact up (shut_mem h)
  ·split at h
   ·exact up (shut_mem h)
   ·split at h
    ·cases h; exact ⟨b, List.mem_cons_self⟩
    ·exact up (shut_mem h)
theorem mem_brks {x : (Nat × Nat) × Nat} (h : x ∈ brksP A) : Plc A x.1 ∧ brkP A x.1 = some x.2 := by
 unfold brksP at h
 obtain ⟨p, hp, he⟩ := List.mem_filterMap.1 h
 obtain ⟨b, hb, rfl⟩ := Option.map_eq_some_iff.1 he
 exact ⟨mem_all.1 hp, hb⟩
theorem match_mem {s i n : Nat} (h : matchP A s i = some n) : ∃ p b, (p, b) ∈ brksP A ∧ offP A p = n := by
 unfold matchP at h
 split at h
 ·cases h
 ·split at h
  ·cases h
  ·obtain ⟨p, hp, rfl⟩ := Option.map_eq_some_iff.1 h
   obtain ⟨b, hb⟩ := shut_mem hp
   refine ⟨p, b, ?_, rfl⟩
   split at hb
   ·exact List.mem_of_mem_drop hb
   ·exact List.mem_of_mem_take (List.mem_reverse.1 hb)
theorem lands_paras (A : List Int) (x kind count : Int) : Lands A false (parasM A x kind count) := by
 unfold parasM
 dsimp only
 have no := lands_no A false (e := 80) (by decide)
 have hb := lnN_bounds A
 have row : ∀ {j : Nat}, j < lnN A → Lands A false (landP A (rowL A j).from_ 0) := fun {j} hj => by
  have := stand_in (A := A) hj (c := 0) (by omega)
  rw [placeR_zero (by omega)] at this
  exact lands_at this (by decide)
 split
 ·split
  ·rename_i j hj
   have := (List.mem_filter.1 (List.mem_of_getElem? hj)).1
   unfold upL at this
   rw [List.mem_range'_1] at this
   exact row (by omega)
  ·split
   ·exact no
   ·exact lands_at (stand_last A false) (by decide)
 split
 ·split
  ·rename_i j hj
   have := (List.mem_filter.1 (List.mem_of_getElem? hj)).1
   unfold downL at this
   rw [List.mem_reverse, List.mem_range] at this
   have := rowI_lt A (clampP A x false : Int)
   exact row (by omega)
  ·split
   ·exact no
   ·exact lands_at (stand_zero A false) (by decide)
 split
 ·split
  ·rename_i to hto
   obtain ⟨p, b, hp, rfl⟩ := match_mem hto
   exact lands_at ⟨p, (mem_brks hp).1.on, rfl, fun _ => (mem_brks hp).1⟩ (by decide)
  ·exact no
 ·exact lands_no A false (by decide)
end Mot
namespace Mot
variable {A : List Int}
abbrev Bk := (Nat × Nat) × Nat
theorem all_rise (A : List Int) : (allP A).Pairwise fun p q => offP A p < offP A q := by
 have hb := lnN_bounds A
 unfold allP
 rw [List.pairwise_flatMap]
 refine ⟨fun i hi => ?_, ?_⟩
 ·rw [List.mem_range] at hi
  unfold rowP
  split
  ·exact List.pairwise_singleton _ _
  ·rw [List.pairwise_map]
   refine List.Pairwise.imp_of_mem (fun {a b} ha hc hab => ?_) List.pairwise_lt_range
   rw [List.mem_range] at ha hc
   exact off_lt (p := (i, a)) (q := (i, b)) ⟨by dsimp only; omega, by dsimp only; omega⟩ ⟨by dsimp only; omega, by dsimp only; omega⟩ (.inr ⟨rfl, hab⟩)
 ·refine List.Pairwise.imp_of_mem (fun {i j} hi hj hij p hp q hq => ?_) List.pairwise_lt_range
  rw [List.mem_range] at hi hj
  obtain ⟨p1, p2⟩ := mem_rowP.1 hp
  obtain ⟨q1, q2⟩ := mem_rowP.1 hq
  exact off_lt (by subst p1; exact (Plc.on ⟨hi, p2⟩)) (by subst q1; exact (Plc.on ⟨hj, q2⟩)) (.inl (by omega))
theorem brks_rise (A : List Int) : (brksP A).Pairwise fun x y => offP A x.1 < offP A y.1 := by
 unfold brksP
 rw [List.pairwise_filterMap]
 refine (all_rise A).imp fun {p q} h x hx y hy => ?_
 obtain ⟨_, _, rfl⟩ := Option.map_eq_some_iff.1 hx
 obtain ⟨_, _, rfl⟩ := Option.map_eq_some_iff.1 hy
 exact h
theorem find_at {α : Type} {f : α → Bool} : ∀ (l : List α) {x : α} {r : List α}, (∀ y ∈ l, f y = false) → f x = true → (l ++ x :: r).findIdx? f = some l.length
 | [], x, r, _, hx => by rw [List.nil_append, List.findIdx?_cons, hx]; rfl
 | y :: l, x, r, hl, hx => by
  rw [List.cons_append, List.findIdx?_cons, hl y List.mem_cons_self, find_at l (fun z hz => hl z (List.mem_cons_of_mem _ hz)) hx]; rfl
theorem find_own {l r : List Bk} {x : Bk} (e : brksP A = l ++ x :: r) : (brksP A).findIdx? (fun q => q.1.1 == x.1.1 && decide (offP A x.1 ≤ offP A q.1)) = some l.length ∧ (brksP A)[l.length]? = some x := by
 have hr := brks_rise A
 rw [e] at hr ⊢
 rw [List.pairwise_append] at hr
 refine ⟨find_at l (fun y hy => ?_) (by simp), by simp⟩
 have := hr.2.2 y hy x List.mem_cons_self
 rw [Bool.and_eq_false_iff, decide_eq_false_iff_not]
 exact .inr (by omega)
theorem paras_match (A : List Int) (x count : Int) : parasM A x 33 count = match matchP A (clampP A x false) (rowI A (clampP A x false : Int) false) with
  | some to => landP A to 1
  | none => noP 80 := by
 unfold parasM
 dsimp only
 rw [if_neg (by decide), if_neg (by decide), if_pos rfl]
 all_goals (cases matchP A (clampP A x false) (rowI A (clampP A x false : Int) false) <;> rfl)
end Mot
end Go.Proofs.YtolhlldgnfbemaaGreat
