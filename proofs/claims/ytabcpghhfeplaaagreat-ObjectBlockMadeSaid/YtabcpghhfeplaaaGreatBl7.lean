/- The law holds for every input: it returns true, and each argument reads behind the call as it did. Conditions: those of the form alone. -/
import Derived.Test.YtabcpghhfeplaaaGreatBl6
set_option linter.unusedVariables false
set_option linter.unusedSimpArgs false
set_option linter.unusedSectionVars false
set_option linter.unusedSimpArgs false
set_option linter.unusedVariables false
set_option maxRecDepth 100000
namespace Go.Proofs.YtabcpghhfeplaaaGreat
open Go Go.Vx Cdc Trx
section
variable {w w' W W' : World} {S : Nat → Prop} {p : Nat} {e : Enc} {lim na : Nat} {O : Nat → Prop} {M : Parts} {tp : Option Addr} {a0 a : Sl}
abbrev edT (f t : Nat) (s : Sl) : Cells.T c83 := ((f : Int), (t : Int), s, ())
theorem Txt.lim_ (h : Txt w p e lim na O M) : w.cell? ⟨p, 1, none⟩ = some (.int .i64 (lim : Int)) := by
  obtain ⟨t, a, ab, h1, _⟩ := h.ex
  exact cell_of h1 rfl
theorem szs_prs_take (e : Enc) (l : List Int) {i : Nat} {v : Int} (hv : l[i]? = some v) : szs (prs e (l.take (i + 1))) = szs (prs e (l.take i)) + sz e v := by
  rw [List.take_add_one, hv]
  simp [prs, szs_append, szs_cons, szs_nil]
theorem szs_prs_le (e : Enc) (l : List Int) (i : Nat) : szs (prs e (l.take i)) ≤ szs (prs e l) := by
  have : prs e l = prs e (l.take i) ++ prs e (l.drop i) := by unfold prs; rw [← List.map_append, List.take_append_drop]
  rw [this, szs_append]; omega
theorem refuse_call {f t : Nat} {s sp : Sl} {ty ty' : TypeId} {put : List Int} (h : Txt w p e lim na O M) (hft : f ≤ t) (hto : t ≤ (aOf e M).length) (hs : SlIn w s ty 3 (flat c83 [edT f t sp])) (hp : SlIn w sp ty' 1 (iv put)) (hfit : Fit e put) (hput : put.length < 2 ^ 40) (hb : (bts e put).length < 2 ^ 40)
    (hroom : szs ((aOf e M).take f ++ prs e put ++ (aOf e M).drop t) ≤ lim) {K : Int → World → Prop} (hK : ∀ w', Ext w w' → K 0 w') :
    callT Tryz.prog 77 #[.pointer (some (at0 p)), .slice s.a s.len s.cap] (.one (.one (.int .i64))) K w := by
  refine F77_calls ?_
  unfold F77
  have few := h.few; have lims := h.lims; have hsz := h.sz
  have hl1 : 1 = s.len := by have := SlIn.lenR (cs := c83) (xs := [edT f t sp]) hs (by decide); simpa using this
  have hpl : put.length = sp.len := by have := hp.len1; rwa [List.length_map] at this
  have ht13 : szs (aOf e M) = szs ((aOf e M).take t) + szs ((aOf e M).drop t) := by conv => lhs; rw [← List.take_append_drop t (aOf e M)]; rw [szs_append]
  have htf : szs ((aOf e M).take f) ≤ szs ((aOf e M).take t) := by
    have h2 : (aOf e M).take t = (aOf e M).take f ++ ((aOf e M).take t).drop f := by
      conv => lhs; rw [← List.take_append_drop f ((aOf e M).take t)]
      rw [List.take_take, Nat.min_eq_left hft]
    rw [h2, szs_append]; omega
  rw [szs_append, szs_append] at hroom
  have hbl := bts_len hfit
  refine sif_r (fun hc => ?_) (fun _ => ?_)
  · simp only [decide_eq_true_eq, gt_iff_lt] at hc; omega
  have rdE : ∀ {V : World} {K : Addr → Cells.T c83 → World → Prop}, Ext w V → (∀ q, K q (edT f t sp) V) → ix s.a s.len ((0 : Nat) : Int) (fun q => lds c83 (q.add (scaled (Int.toNat ((0 : Nat) : Int)) 3)) (K q)) V := fun x hk => ix_lds (cs := c83) (xs := [edT f t sp]) (hs.ext x) (by decide) (by decide) rfl hk
  have ew1 : IntKind.wrap .i64 (((0 : Nat) : Int) + 1) = ((1 : Nat) : Int) := by decide
  refine len_call h fun w1 e1 => ?_
  refine join_r (fun _ W => Ext w W) ?_ ?_
  · refine sloop_r (fun x W => ((x = (0, ((0 : Nat) : Int), ())) ∨ x.2.1 = ((1 : Nat) : Int)) ∧ Ext w W) (fun x _ => (1 - x.2.1).toNat) ⟨.inl rfl, e1⟩ ?_
    rintro x W ⟨rfl | hx, eW⟩
    · refine sif_r (fun _ => ?_) (fun hc => ?_)
      · refine rdE eW fun q => (St.start W).newO fun b8 w2 S2 e2 => S2.aggSt 0 rfl rfl rfl rfl fun w3 S3 u3 => ?_
        refine join_r (fun x W' => x = (false, ()) ∧ w3 = W') ?_ ?_
        · refine S3.ld 0 rfl (x := (f : Int)) rfl (sif_r (fun hc => ?_) (fun _ => S3.ld 0 rfl (x := (t : Int)) rfl (S3.ld 0 rfl (x := (f : Int)) rfl (sif_r (fun hc => ?_) (fun _ => S3.ld 0 rfl (x := (t : Int)) rfl ⟨tupb ?_, rfl⟩)))))
          · simp only [decide_eq_true_eq] at hc; omega
          · simp only [decide_eq_true_eq] at hc; omega
          · simp only [decide_eq_true_eq, gt_iff_lt, Bool.false_eq_true, iff_false]; omega
        rintro _ _ ⟨rfl, rfl⟩
        refine sif_false (S3.ld 0 rfl (x := (t : Int)) rfl ⟨⟨.inr ?_, eW.trans S3.upd⟩, ?_⟩)
        · exact ew1
        · show (1 - IntKind.wrap .i64 (((0 : Nat) : Int) + 1)).toNat < (1 - ((0 : Nat) : Int)).toNat
          rw [ew1]; decide
      · exact eW
    · refine sif_r (fun hc => ?_) (fun _ => eW)
      simp only [decide_eq_true_eq] at hc; omega
  rintro _ w2 e2
  refine sizeB_call (h.ext e2) fun w3 e3 => ?_
  have x3 := e2.trans e3
  obtain ⟨B0, hB0⟩ : ∃ B0, B0 = szs (aOf e M) := ⟨_, rfl⟩
  rw [← hB0]
  refine join_r (fun x W => x = (((B0 + (bts e put).length : Nat) : Int), ()) ∧ Ext w W) ?_ ?_
  · refine sloop_r (fun x W => ((x = ((B0 : Int), ((0 : Nat) : Int), ())) ∨ x = (((B0 + (bts e put).length : Nat) : Int), ((1 : Nat) : Int), ())) ∧ Ext w W) (fun x _ => (1 - x.2.1).toNat) ⟨.inl rfl, x3⟩ ?_
    rintro _ W ⟨rfl | rfl, eW⟩
    · refine sif_r (fun _ => ?_) (fun hc => ?_)
      · refine join_r (fun x W => x = (((B0 + (bts e put).length : Nat) : Int), ()) ∧ Ext w W) ?_ ?_
        · refine rdE eW fun q => (St.start W).newO fun b8 w4 S4 e4 => S4.aggSt 0 rfl rfl rfl rfl fun w5 S5 u5 => S5.ld 0 rfl (x := sp) rfl ?_
          refine sloop_r (fun x V => (∃ i : Nat, i ≤ put.length ∧ x = (((B0 + szs (prs e (put.take i)) : Nat) : Int), (i : Int), ())) ∧ Ext w V) (fun x _ => ((put.length : Int) - x.2.1).toNat) ⟨⟨0, Nat.zero_le _, by simp [prs, szs_nil]⟩, eW.trans S5.upd⟩ ?_
          rintro _ V ⟨⟨i, hi, rfl⟩, eV⟩
          refine sif_r (fun hc => ?_) (fun hc => ?_)
          · simp only [decide_eq_true_eq] at hc
            obtain ⟨v, hv⟩ : ∃ v, put[i]? = some v := ⟨_, List.getElem?_eq_getElem (by omega)⟩
            have hf := hfit v (List.mem_of_getElem? hv)
            dsimp only
            refine ix_ld (c := .int .i64) (xs := put) (hp.ext eV) (by omega) (x := v) (by rw [Int.toNat_natCast]; exact hv) fun q2 => (h.ext eV).enc (size_call fun w6 e6 => ?_)
            refine sif_r (fun hc => ?_) (fun _ => ?_)
            · simp only [beq_iff_eq] at hc; have := hf.2; omega
            have hstep := szs_prs_take e put hv
            have hle := szs_prs_le e put (i + 1)
            have ewi : IntKind.wrap .i64 ((i : Int) + 1) = ((i + 1 : Nat) : Int) := by rw [wrap64 (by omega) (by omega)]; omega
            have ewb : IntKind.wrap .i64 (((B0 + szs (prs e (put.take i)) : Nat) : Int) + ((sz e v : Nat) : Int)) = ((B0 + szs (prs e (put.take (i + 1))) : Nat) : Int) := by rw [wrap64 (by omega) (by omega)]; omega
            rw [ewi, ewb]
            exact ⟨⟨⟨i + 1, by omega, rfl⟩, eV.trans e6⟩, by omega⟩
          · simp only [decide_eq_false_iff_not] at hc
            have : i = put.length := by omega
            subst this
            rw [List.take_length, ← hbl]
            exact ⟨rfl, eV⟩
        rintro _ V ⟨rfl, eV⟩
        refine ⟨⟨.inr ?_, eV⟩, ?_⟩
        · rw [ew1]
        · show (1 - IntKind.wrap .i64 (((0 : Nat) : Int) + 1)).toNat < (1 - ((0 : Nat) : Int)).toNat
          rw [ew1]; decide
      · simp only [decide_eq_false_iff_not] at hc; omega
    · refine sif_r (fun hc => ?_) (fun _ => ⟨rfl, eW⟩)
      simp only [decide_eq_true_eq] at hc; omega
  rintro _ w4 ⟨rfl, e4⟩
  obtain ⟨T, hT⟩ : ∃ T, T = szs ((aOf e M).take f) + (bts e put).length + szs ((aOf e M).drop t) := ⟨_, rfl⟩
  refine join_r (fun x W => x = ((T : Int), ()) ∧ Ext w W) ?_ ?_
  · refine sloop_r (fun x W => ((x = (((B0 + (bts e put).length : Nat) : Int), ((0 : Nat) : Int), ())) ∨ x = ((T : Int), ((1 : Nat) : Int), ())) ∧ Ext w W) (fun x _ => (1 - x.2.1).toNat) ⟨.inl rfl, e4⟩ ?_
    rintro _ W ⟨rfl | rfl, eW⟩
    · refine sif_r (fun _ => ?_) (fun hc => ?_)
      · refine join_r (fun x W => x = ((T : Int), ()) ∧ Ext w W) ?_ ?_
        · refine rdE eW fun q => (St.start W).newO fun b8 w5 S5 e5 => S5.aggSt 0 rfl rfl rfl rfl fun w6 S6 u6 => S6.ld 0 rfl (x := (t : Int)) rfl (S6.ld 0 rfl (x := (f : Int)) rfl ?_)
          refine sif_r (fun hc => ?_) (fun hc => ?_)
          · refine S6.drew fun w7 S7 e7 _ => S7.ld 0 rfl (x := (t : Int)) rfl (S7.ld 0 rfl (x := (f : Int)) rfl ?_)
            refine ahead_call (h.ext (eW.trans S7.upd)) hto fun w8 e8 => ?_
            have S8 := S7.ext e8
            refine S8.keep 0 rfl (v := .int .i64 (f : Int)) rfl (ahead_call (h.ext (eW.trans S8.upd)) (by omega) fun w9 e9 => ?_)
            have q1 : (smT (msr ((aOf e M).take t))).2.1 = ((szs ((aOf e M).take t) : Nat) : Int) := by show (((msr _).bytes : Nat) : Int) = _; rw [msr_bytes ((aOf_posd e M).take t)]
            have q2 : (smT (msr ((aOf e M).take f))).2.1 = ((szs ((aOf e M).take f) : Nat) : Int) := by show (((msr _).bytes : Nat) : Int) = _; rw [msr_bytes ((aOf_posd e M).take f)]
            rw [q1, q2]
            refine ⟨?_, eW.trans (S8.ext e9).upd⟩
            dsimp only
            rw [wrap64 (a := ((szs ((aOf e M).take t) : Nat) : Int) - ((szs ((aOf e M).take f) : Nat) : Int)) (by omega) (by omega), wrap64 (by omega) (by omega)]
            congr 1; omega
          · simp only [decide_eq_false_iff_not, gt_iff_lt] at hc
            have : f = t := by omega
            subst this
            refine ⟨?_, eW.trans S6.upd⟩
            dsimp only
            congr 1; omega
        rintro _ V ⟨rfl, eV⟩
        refine ⟨⟨.inr ?_, eV⟩, ?_⟩
        · rw [ew1]
        · show (1 - IntKind.wrap .i64 (((0 : Nat) : Int) + 1)).toNat < (1 - ((0 : Nat) : Int)).toNat
          rw [ew1]; decide
      · simp only [decide_eq_false_iff_not] at hc; omega
    · refine sif_r (fun hc => ?_) (fun _ => ⟨rfl, eW⟩)
      simp only [decide_eq_true_eq] at hc; omega
  rintro _ w5 ⟨rfl, e5⟩
  simp only [nn_eqT, addr_add]
  refine ld_of (x := (lim : Int)) (h.ext e5).lim_ (sif_r (fun hc => ?_) (fun _ => hK w5 e5))
  simp only [decide_eq_true_eq, gt_iff_lt] at hc; omega
theorem change_call {f t : Nat} {s sp : Sl} {ty ty' : TypeId} {put : List Int} (h : Txt w p e lim na O M) (hft : f ≤ t) (hto : t ≤ (aOf e M).length) (hs : SlIn w s ty 3 (flat c83 [edT f t sp])) (hsep : ∀ k, s.blk k → ¬ O k) (hp : SlIn w sp ty' 1 (iv put)) (hsp : ∀ k, sp.blk k → ¬ O k) (hfit : Fit e put) (hput : put.length < 2 ^ 40) (hna : na + (bts e put).length < 2 ^ 40)
    (hroom : szs ((aOf e M).take f ++ prs e put ++ (aOf e M).drop t) ≤ lim) {K : Int → World → Prop}
    (hK : ∀ O' M' w', Txt w' p e lim (na + (bts e put).length) O' M' → aOf e M' = (aOf e M).take f ++ prs e put ++ (aOf e M).drop t → Upd O w w' → (∀ k, O k → O' k) → (∀ k, O' k → O k ∨ w.heap.size ≤ k) → K 0 w') :
    callT Tryz.prog 50 #[.pointer (some (at0 p)), .slice s.a s.len s.cap] (.one (.one (.int .i64))) K w := by
  refine F50_calls ?_
  unfold F50
  have hl1 : 1 = s.len := by have := SlIn.lenR (cs := c83) (xs := [edT f t sp]) hs (by decide); simpa using this
  have hpl : put.length = sp.len := by have := hp.len1; rwa [List.length_map] at this
  refine refuse_call h hft hto hs hp hfit hput (by omega) hroom fun w1 e1 => sif_false ?_
  have ew0 : IntKind.wrap .i64 (((s.len : Nat) : Int) - 1) = 0 := by rw [← hl1]; decide
  rw [ew0]
  refine join_r (fun _ W => ∃ O' M', Txt W p e lim (na + (bts e put).length) O' M' ∧ aOf e M' = (aOf e M).take f ++ prs e put ++ (aOf e M).drop t ∧ Upd O w W ∧ (∀ k, O k → O' k) ∧ (∀ k, O' k → O k ∨ w.heap.size ≤ k)) ?_ (fun _ W ⟨O', M', g1, g2, g3, g4, g5⟩ => hK O' M' W g1 g2 g3 g4 g5)
  refine sloop_r (fun x W => (x = (((0 : Nat) : Int), ()) ∧ Ext w W) ∨ (x = (-1, ()) ∧ ∃ O' M', Txt W p e lim (na + (bts e put).length) O' M' ∧ aOf e M' = (aOf e M).take f ++ prs e put ++ (aOf e M).drop t ∧ Upd O w W ∧ (∀ k, O k → O' k) ∧ (∀ k, O' k → O k ∨ w.heap.size ≤ k))) (fun x _ => (x.1 + 1).toNat) (.inl ⟨rfl, e1⟩) ?_
  rintro _ W (⟨rfl, eW⟩ | ⟨rfl, hR⟩)
  · refine sif_r (fun _ => ?_) (fun hc => ?_)
    · refine join_r (fun _ W => ∃ O' M', Txt W p e lim (na + (bts e put).length) O' M' ∧ aOf e M' = (aOf e M).take f ++ prs e put ++ (aOf e M).drop t ∧ Upd O w W ∧ (∀ k, O k → O' k) ∧ (∀ k, O' k → O k ∨ w.heap.size ≤ k)) ?_ ?_
      · refine ix_lds (cs := c83) (xs := [edT f t sp]) (hs.ext eW) (by decide) (by decide) (x := edT f t sp) rfl fun q => (St.start W).newO fun b8 w2 S2 e2 => S2.aggSt 0 rfl rfl rfl rfl fun w3 S3 u3 => ?_
        refine join_r (fun x W' => x = (decide (f < t ∨ 0 < put.length), ()) ∧ w3 = W') ?_ ?_
        · refine S3.ld 0 rfl (x := (f : Int)) rfl (S3.ld 0 rfl (x := (t : Int)) rfl (sif_r (fun hc => ⟨tupb ?_, rfl⟩) (fun hc => S3.ld 0 rfl (x := sp) rfl ⟨tupb ?_, rfl⟩)))
          all_goals simp only [decide_eq_true_eq, decide_eq_false_iff_not, true_iff, gt_iff_lt] at *
          all_goals omega
        rintro _ _ ⟨rfl, rfl⟩
        have x3 := eW.trans S3.upd
        refine sif_r (fun hc => ?_) (fun hc => ?_)
        · refine S3.ld 0 rfl (x := (f : Int)) rfl (S3.ld 0 rfl (x := (t : Int)) rfl (S3.ld 0 rfl (x := sp) rfl ?_))
          refine treplace_call (h.ext x3) hft hto (hp.ext x3) hsp hfit hna hput hroom fun O' M' w4 tx4 ea u4 o1 o2 => ?_
          exact ⟨O', M', tx4, ea, (Upd.of_ext x3).trans u4, o1, fun k hk => (o2 k hk).imp id fun h => by have := x3.size; omega⟩
        · simp only [decide_eq_false_iff_not, not_or] at hc
          obtain rfl : f = t := by omega
          obtain rfl : put = [] := List.length_eq_zero_iff.1 (by omega)
          exact ⟨O, M, h.ext x3, by simp [prs], Upd.of_ext x3, fun k hk => hk, fun k hk => .inl hk⟩
      · rintro _ W' hR
        exact ⟨.inr ⟨rfl, hR⟩, by show (IntKind.wrap .i64 (((0 : Nat) : Int) - 1) + 1).toNat < (((0 : Nat) : Int) + 1).toNat; decide⟩
    · simp only [decide_eq_false_iff_not] at hc; omega
  · exact sif_false hR
end
end Go.Proofs.YtabcpghhfeplaaaGreat
set_option linter.unusedSimpArgs false
set_option linter.unusedVariables false
set_option maxRecDepth 100000
namespace Go.Proofs.YtabcpghhfeplaaaGreat
open Go Go.Vx Cdc Trx Gly Clu Lns Obx
section
variable {w w' : World} {S : Nat → Prop} {p : Nat} {e : Enc} {lim na : Nat} {O : Nat → Prop} {M : Parts}
def Asc (l : List Int) : Prop := ∀ v ∈ l, 0 ≤ v ∧ v < 128
theorem Asc.app {l m : List Int} (h : Asc l) (h' : Asc m) : Asc (l ++ m) := fun v hv => (List.mem_append.1 hv).elim (h v) (h' v)
theorem Asc.fit {l : List Int} (h : Asc l) (e : Enc) : Fit e l := by
  intro v hv
  obtain ⟨h1, h2⟩ := h v hv
  refine ⟨.inl ⟨h1, by omega⟩, ?_⟩
  cases e with
  | u8 => show sz8 v ≠ 0; unfold sz8; split <;> (try split) <;> (try split) <;> (try split) <;> (try split) <;> omega
  | le => show sz16 v ≠ 0; unfold sz16; split <;> (try split) <;> (try split) <;> (try split) <;> (try split) <;> omega
  | be => show sz16 v ≠ 0; unfold sz16; split <;> (try split) <;> (try split) <;> (try split) <;> (try split) <;> omega
  | l1 => show sz1 v ≠ 0; unfold sz1; split <;> (try split) <;> (try split) <;> (try split) <;> (try split) <;> omega
theorem Asc.sz {v : Int} (h : 0 ≤ v ∧ v < 128) (e : Enc) : sz e v ≤ 4 := by
  cases e with
  | u8 => show sz8 v ≤ 4; unfold sz8; split <;> (try split) <;> (try split) <;> (try split) <;> (try split) <;> omega
  | le => show sz16 v ≤ 4; unfold sz16; split <;> (try split) <;> (try split) <;> (try split) <;> (try split) <;> omega
  | be => show sz16 v ≤ 4; unfold sz16; split <;> (try split) <;> (try split) <;> (try split) <;> (try split) <;> omega
  | l1 => show sz1 v ≤ 4; unfold sz1; split <;> (try split) <;> (try split) <;> (try split) <;> (try split) <;> omega
theorem Asc.szs {e : Enc} : ∀ {l : List Int}, Asc l → szs (prs e l) ≤ 4 * l.length
  | [], _ => Nat.le_refl _
  | a :: l, h => by
    have h1 := Asc.sz (h a List.mem_cons_self) e
    have h2 := Asc.szs (e := e) (l := l) fun x hx => h x (List.mem_cons_of_mem _ hx)
    show Cdc.szs ((a, Cdc.sz e a) :: prs e l) ≤ _
    rw [szs_cons, List.length_cons]
    show Cdc.sz e a + _ ≤ _
    omega
theorem push {r : Sl} {l : List Int} {v : Int} {b N : Nat} {K : Sl → World → Prop} (hr : SlOwn w N r 3 1 (iv l)) (hb : w.heap[b]? = some (.cells #[.int .i64 v] 3 (0, 0))) (hl : l.length < 2 ^ 40) (hN : N ≤ w.heap.size)
    (hK : ∀ r' w', SlOwn w' N r' 3 1 (iv (l ++ [v])) → Upd r.blk w w' → K r' w') :
    rawT Tryz.prog (.one (.one .sl)) (Builtin.append_ #[26, 26] 26 #[.slice r.a r.len r.cap, .slice (some (at0 b)) 1 1]) K w := by
  have hrl := hr.len1
  rw [List.length_map] at hrl
  refine append_rx eInts eInts.ts_ (x := ⟨some (at0 b), 1, 1⟩) hr (iv_box hb) (fun v hv => by rw [List.mem_singleton.1 hv]; rfl) (by
    show (r.len + 1 + (r.len + 1) / 4 + 512) * 8 ≤ 2 ^ 48
    omega) hN fun r' w' o l' u k => hK r' w' ?_ u
  have : iv (l ++ [v]) = iv l ++ [.int .i64 v] := by simp
  rw [this]; exact o
theorem many_call {n : Nat} {v : Int} (hn : n < 2 ^ 40) {K : Sl → World → Prop} (hK : ∀ s' w', SlOwn w' w.heap.size s' 3 1 (iv (List.replicate n v)) → Ext w w' → K s' w') :
    callT Tryz.prog 28 #[.int .i64 (n : Int), .int .i64 v] (.one (.one .sl)) K w := by
  refine F28_calls ?_
  unfold F28
  refine join_r (fun x W => SlOwn W w.heap.size x.1 3 1 (iv (List.replicate n v)) ∧ Ext w W) ?_ (fun x W h => hK _ _ h.1 h.2)
  refine sloop_r (fun x W => ∃ i : Nat, i ≤ n ∧ x.2 = ((i : Int), ()) ∧ SlOwn W w.heap.size x.1 3 1 (iv (List.replicate i v)) ∧ Ext w W) (fun x _ => ((n : Int) - x.2.1).toNat) ⟨0, Nat.zero_le _, rfl, SlOwn.nil _ _ _ _, Ext.refl w⟩ ?_
  rintro ⟨r, _⟩ W ⟨i, hi, rfl, hr, eW⟩
  dsimp only at hr ⊢
  refine sif_r (fun hc => ?_) (fun hc => ?_)
  · simp only [decide_eq_true_eq] at hc
    have ew : IntKind.wrap .i64 ((i : Int) + 1) = ((i + 1 : Nat) : Int) := by rw [wrap64 (by omega) (by omega)]; omega
    rw [ew]
    refine newO_r fun b7 w4 e4 n4 hb4 _ => push (hr.ext e4) n4 (by rw [List.length_replicate]; omega) (by have := eW.size; have := e4.size; omega) fun r' w5 o5 u5 => ?_
    rw [← List.replicate_succ'] at o5
    exact ⟨⟨i + 1, by omega, rfl, o5, (eW.trans e4).step u5 fun k hk => hr.blk_ge hk⟩, by omega⟩
  · simp only [decide_eq_false_iff_not] at hc
    have : i = n := by omega
    subst this
    exact ⟨hr, eW⟩
theorem joined_call {A B : List Int} {s s' : Sl} {t t' : TypeId} (hs : SlIn w s t 1 (iv A)) (hs' : SlIn w s' t' 1 (iv B)) (hA : A.length < 2 ^ 39) (hB : B.length < 2 ^ 39) {K : Sl → World → Prop} (hK : ∀ r w', SlOwn w' w.heap.size r 3 1 (iv (A ++ B)) → Ext w w' → K r w') :
    callT Tryz.prog 32 #[.slice s.a s.len s.cap, .slice s'.a s'.len s'.cap] (.one (.one .sl)) K w := by
  refine F32_calls ?_
  unfold F32
  have hlen : B.length = s'.len := by have := hs'.len1; rwa [List.length_map] at this
  refine copied_call hs (by omega) fun r1 w1 o1 e1 => ?_
  refine join_r (fun x W => SlOwn W w.heap.size x.1 3 1 (iv (A ++ B)) ∧ Ext w W) ?_ (fun x W h => hK _ _ h.1 h.2)
  refine sloop_r (fun x W => ∃ i : Nat, i ≤ B.length ∧ x.2 = ((i : Int), ()) ∧ SlOwn W w.heap.size x.1 3 1 (iv (A ++ B.take i)) ∧ Ext w W) (fun x _ => ((B.length : Int) - x.2.1).toNat) ⟨0, Nat.zero_le _, rfl, by rw [List.take_zero, List.append_nil]; exact o1, e1⟩ ?_
  rintro ⟨r, _⟩ W ⟨i, hi, rfl, hr, eW⟩
  dsimp only at hr ⊢
  refine sif_r (fun hc => ?_) (fun hc => ?_)
  · simp only [decide_eq_true_eq] at hc
    obtain ⟨a, ha⟩ : ∃ a, B[i]? = some a := ⟨_, List.getElem?_eq_getElem (by omega)⟩
    have ew : IntKind.wrap .i64 ((i : Int) + 1) = ((i + 1 : Nat) : Int) := by rw [wrap64 (by omega) (by omega)]; omega
    rw [ew]
    refine ix_ld (c := .int .i64) (xs := B) (hs'.ext eW) (by omega) (x := a) (by rw [Int.toNat_natCast]; exact ha) fun q => newO_r fun b7 w4 e4 n4 hb4 _ => ?_
    refine push (hr.ext e4) n4 (by rw [List.length_append, List.length_take]; omega) (by have := eW.size; have := e4.size; omega) fun r' w5 o5 u5 => ?_
    rw [List.append_assoc, show B.take i ++ [a] = B.take (i + 1) by rw [List.take_add_one, ha]; rfl] at o5
    exact ⟨⟨i + 1, by omega, rfl, o5, (eW.trans e4).step u5 fun k hk => hr.blk_ge hk⟩, by omega⟩
  · simp only [decide_eq_false_iff_not] at hc
    rw [List.take_of_length_le (by omega)] at hr
    exact ⟨hr, eW⟩
def plain1 (x : Int) : Int := if x = 10 ∨ x = 13 then x else 32 + ((BitVec.ofInt 64 x &&& BitVec.ofInt 64 95).toNat : Int)
def plainL (l : List Int) : List Int := (l.take 16).map plain1
theorem plain1_asc (x : Int) : 0 ≤ plain1 x ∧ plain1 x < 128 := by
  unfold plain1
  split
  · omega
  · have : (BitVec.ofInt 64 x &&& BitVec.ofInt 64 95).toNat ≤ 95 := by
      rw [BitVec.toNat_and]
      exact Nat.le_trans Nat.and_le_right (by decide)
    omega
theorem plainL_asc (l : List Int) : Asc (plainL l) := by
  intro v hv
  obtain ⟨x, _, rfl⟩ := List.mem_map.1 hv
  exact plain1_asc x
theorem plainL_len (l : List Int) : (plainL l).length ≤ 16 := by unfold plainL; rw [List.length_map, List.length_take]; omega
theorem plain_call {s : Sl} {l : List Int} (hs : SlX w s 1 (iv l)) (hl : l.length < 2 ^ 60) {K : Sl → World → Prop} (hK : ∀ r w', SlOwn w' w.heap.size r 3 1 (iv (plainL l)) → Ext w w' → K r w') :
    callT Tryz.prog 26 #[.slice s.a s.len s.cap] (.one (.one .sl)) K w := by
  refine F26_calls ?_
  unfold F26
  have hlen : l.length = s.len := by have := hs.len1; rwa [List.length_map] at this
  refine join_r (fun x W => SlOwn W w.heap.size x.1 3 1 (iv (plainL l)) ∧ Ext w W) ?_ (fun x W h => hK _ _ h.1 h.2)
  refine sloop_r (fun x W => ∃ i : Nat, i ≤ l.length ∧ i ≤ 16 ∧ x.2 = ((i : Int), ()) ∧ SlOwn W w.heap.size x.1 3 1 (iv ((l.take i).map plain1)) ∧ Ext w W) (fun x _ => ((16 : Int) - x.2.1).toNat) ⟨0, Nat.zero_le _, Nat.zero_le _, rfl, SlOwn.nil _ _ _ _, Ext.refl w⟩ ?_
  rintro ⟨r, _⟩ W ⟨i, hi, hi2, rfl, hr, eW⟩
  dsimp only at hr ⊢
  refine join_r (fun x W' => x = (decide (i < l.length ∧ i < 16), ()) ∧ W = W') ?_ ?_
  · refine sif_r (fun h => ⟨tupb ?_, rfl⟩) (fun h => ⟨tupb ?_, rfl⟩)
    all_goals simp only [decide_eq_true_eq, decide_eq_false_iff_not, Bool.false_eq_true, false_iff] at *
    all_goals omega
  rintro _ _ ⟨rfl, rfl⟩
  refine sif_r (fun hc => ?_) (fun hc => ?_)
  · simp only [decide_eq_true_eq] at hc
    obtain ⟨a, ha⟩ : ∃ a, l[i]? = some a := ⟨_, List.getElem?_eq_getElem hc.1⟩
    have ew : IntKind.wrap .i64 ((i : Int) + 1) = ((i + 1 : Nat) : Int) := by rw [wrap64 (by omega) (by omega)]; omega
    rw [ew]
    refine ix_ldX (c := .int .i64) (xs := l) (hs.ext eW) (by omega) (x := a) (by rw [Int.toNat_natCast]; exact ha) fun q => ?_
    refine join_r (fun x W' => x = (plain1 a, ()) ∧ W = W') ?_ ?_
    · refine join_r (fun x W' => x = (decide (¬ (a = 10 ∨ a = 13)), ()) ∧ W = W') ?_ ?_
      · refine sif_r (fun h => ⟨tupb ?_, rfl⟩) (fun h => ⟨tupb ?_, rfl⟩)
        · simp only [bne_iff_ne, ne_eq, decide_eq_true_eq] at *; omega
        · simp only [bne_eq_false_iff_eq, Bool.false_eq_true, decide_eq_true_eq, false_iff] at *; omega
      rintro _ _ ⟨rfl, rfl⟩
      have hr95 : (BitVec.ofInt 64 a &&& BitVec.ofInt 64 95).toNat ≤ 95 := by
        rw [BitVec.toNat_and]
        exact Nat.le_trans Nat.and_le_right (by decide)
      refine sif_r (fun h => ⟨?_, rfl⟩) (fun h => ⟨?_, rfl⟩)
      · simp only [decide_eq_true_eq] at h
        unfold plain1
        rw [if_neg h]
        show (IntKind.wrap .i64 (32 + IntKind.wrap .i64 ((BitVec.ofInt 64 a &&& BitVec.ofInt 64 95).toNat : Int)), ()) = _
        rw [wrap64 (a := ((BitVec.ofInt 64 a &&& BitVec.ofInt 64 95).toNat : Int)) (by omega) (by omega), wrap64 (by omega) (by omega)]
      · simp only [decide_eq_false_iff_not, Decidable.not_not] at h
        unfold plain1
        rw [if_pos h]
    rintro _ _ ⟨rfl, rfl⟩
    refine newO_r fun b7 w4 e4 n4 hb4 _ => push (hr.ext e4) n4 (by rw [List.length_map, List.length_take]; omega) (by have := eW.size; have := e4.size; omega) fun r' w5 o5 u5 => ?_
    have e5 : (l.take i).map plain1 ++ [plain1 a] = (l.take (i + 1)).map plain1 := by rw [List.take_add_one, ha]; simp
    rw [e5] at o5
    exact ⟨⟨i + 1, by omega, by omega, rfl, o5, (eW.trans e4).step u5 fun k hk => hr.blk_ge hk⟩, by omega⟩
  · simp only [decide_eq_false_iff_not] at hc
    have : l.take i = l.take 16 := by
      by_cases h : i = 16
      · rw [h]
      · rw [List.take_of_length_le (by omega), List.take_of_length_le (by omega)]
    rw [this] at hr
    exact ⟨hr, eW⟩
structure Btn (w : World) (N p : Nat) (e : Enc) (na : Nat) (O : Nat → Prop) (M : Parts) (s : Sl) : Prop where
  txt : Txt w p e 65536 na O M
  lst : SlOwn w N s 3 1 (iv (atoms (aOf e M)))
  new : ∀ k, O k → N ≤ k
theorem eEdit {f t : Nat} {b : Nat} {s : Sl} (h : w.heap[b]? = some (.cells #[.int .i64 (f : Int), .int .i64 (t : Int), .slice s.a s.len s.cap] 83 (0, 0))) : SlIn w ⟨some (at0 b), 1, 1⟩ 83 3 (flat c83 [edT f t s]) := SlIn.of_box h (n := 1) (sz := 3) rfl
set_option maxHeartbeats 1000000 in
theorem laid_call {enc : Int} {s : Sl} {t : TypeId} {ss : List Sl} {ps : List (List Int)} (hs : SlIn w s t 1 (ss.map Cell.sl.val)) (hl : ss.length = ps.length) (hp : ∀ (i : Nat) x l, ss[i]? = some x → ps[i]? = some l → ∃ t, SlIn w x t 1 (iv l)) (ha : ∀ l ∈ ps, Asc l) (hsz : ps.flatten.length ≤ 10000) (hfew : ss.length < 2 ^ 40)
    {K : (Option Addr × Sl × Unit) × Bool × Unit → World → Prop} (hK : ∀ p e O M na s' w', Btn w' w.heap.size p e na O M s' → atoms (aOf e M) = ps.flatten → Ext w w' → K ((some (at0 p), s', ()), true, ()) w') :
    callT Tryz.prog 27 #[.int .i64 enc, .slice s.a s.len s.cap] (.tup [(.agg c28), (.one .bool)]) K w := by
  refine F27_calls ?_
  unfold F27
  have hslen : ss.length = s.len := by have := hs.len1; rwa [List.length_map] at this
  refine (St.start w).newO' fun b1 w1 S1 e1 hb1 => ?_
  refine opened_call (enc := enc) (s := ⟨none, 0, 0⟩) (l := []) (SlIn.nil w1 5 1).x (by decide) fun p e O M sa w2 hB e2 hM _ => ?_
  have hM0 : aOf e M = [] := by rw [hM (by decide), ats_nil]
  have hown := hB.txt.own
  have hnew := hB.new
  have hb1' := S1.lt _ List.mem_cons_self
  refine (St.start w2).newO' fun b3 w3 S3 e3 hb3 => S3.aggSt 0 rfl rfl rfl rfl fun w4 S4 u4 => sif_false ?_
  have S4 : St (fun _ => False) w2 w4 [(b3, bothO p sa)] := S4
  have fl : ∀ i, (ps.take i).flatten.length ≤ ps.flatten.length := fun i => by
    have : ps.flatten = (ps.take i).flatten ++ (ps.drop i).flatten := by rw [← List.flatten_append, List.take_append_drop]
    rw [this, List.length_append]; omega
  refine join_r (fun x W => SlOwn W w2.heap.size x.1 3 1 (iv ps.flatten) ∧ St (fun _ => False) w2 W [(b3, bothO p sa)]) ?_ ?_
  · refine sloop_r (fun x W => ∃ i : Nat, i ≤ ss.length ∧ x.2 = ((i : Int), ()) ∧ SlOwn W w2.heap.size x.1 3 1 (iv (ps.take i).flatten) ∧ St (fun _ => False) w2 W [(b3, bothO p sa)]) (fun x _ => ((ss.length : Int) - x.2.1).toNat) ⟨0, Nat.zero_le _, rfl, SlOwn.nil _ _ _ _, S4⟩ ?_
    rintro ⟨r, _⟩ W ⟨i, hi, rfl, hr, SW⟩
    dsimp only at hr ⊢
    refine sif_r (fun hc => ?_) (fun hc => ?_)
    · simp only [decide_eq_true_eq] at hc
      obtain ⟨x, hx⟩ : ∃ x, ss[i]? = some x := ⟨_, List.getElem?_eq_getElem (by omega)⟩
      obtain ⟨l, hli⟩ : ∃ l, ps[i]? = some l := ⟨_, List.getElem?_eq_getElem (by omega)⟩
      obtain ⟨tx, hxl⟩ := hp i x l hx hli
      have ew : IntKind.wrap .i64 ((i : Int) + 1) = ((i + 1 : Nat) : Int) := by rw [wrap64 (by omega) (by omega)]; omega
      rw [ew]
      have xW : Ext w W := (e1.trans e2).trans SW.upd
      have h1 := fl i
      have e5 : (ps.take i).flatten ++ l = (ps.take (i + 1)).flatten := by rw [List.take_add_one, hli]; simp
      have h2 := fl (i + 1)
      rw [← e5, List.length_append] at h2
      refine ix_ld (c := .sl) (xs := ss) (hs.ext xW) (by omega) (x := x) (by rw [Int.toNat_natCast]; exact hx) fun q => ?_
      refine joined_call hr.in (hxl.ext xW) (by omega) (by omega) fun r' W5 o5 e5' => ?_
      rw [e5] at o5
      exact ⟨⟨i + 1, by omega, rfl, o5.mono SW.upd.size, SW.ext e5'⟩, by omega⟩
    · simp only [decide_eq_false_iff_not] at hc
      rw [List.take_of_length_le (by omega)] at hr
      exact ⟨hr, SW⟩
  rintro ⟨r, _⟩ w5 ⟨hr, S5⟩
  dsimp only at hr ⊢
  have hasc : Asc ps.flatten := fun v hv => by
    obtain ⟨l, hl, hvl⟩ := List.mem_flatten.1 hv
    exact ha l hl v hvl
  have hszs := Asc.szs (e := e) hasc
  have hfit := hasc.fit e
  have hbl := bts_len hfit
  refine S5.drew fun w6 S6 e6 _ => S6.ld 0 rfl (x := some (at0 p)) rfl ?_
  refine copied_call (hr.in.ext e6) (by omega) fun r2 w7 o7 e7 => ?_
  have S7 := S6.ext e7
  refine S7.keep 0 rfl (v := .pointer (some (at0 p))) rfl (newO_r fun b15 w8 e8 n8 hb15 _ => ?_)
  have S8 := S7.ext e8
  refine S8.keep 0 rfl (v := .pointer (some (at0 p))) rfl ?_
  have z7 := S6.upd.size
  have z8 := S7.upd.size
  refine change_call (f := 0) (t := 0) (s := ⟨some (at0 b15), 1, 1⟩) (sp := r2) (put := ps.flatten) (hB.txt.ext S8.upd) (Nat.le_refl _) (Nat.zero_le _) (eEdit n8) (fun k hk hO => ?_) (o7.in.ext e8) (fun k hk hO => ?_) hfit (by omega) (by omega) (by rw [hM0]; simpa using (by omega : szs (prs e ps.flatten) ≤ 65536)) fun O' M' w9 tx9 ea u9 o1 o2 => ?_
  · obtain ⟨q, hq, rfl⟩ := hk
    cases hq
    have : b15 < w2.heap.size := hown _ hO
    omega
  · have := o7.blk_ge hk
    have := hown _ hO
    omega
  have SO : St O w2 w8 [(b3, bothO p sa)] := ⟨Upd.of_ext S8.upd, hown, S8.loc, S8.nd⟩
  have S9 := SO.step u9 fun k hk => hk
  have r9 : SlOwn w9 w2.heap.size r 3 1 (iv ps.flatten) := (((hr.ext e6).ext e7).ext e8).upd u9 fun k _ hk hO => by
    have := hr.blk_ge hk
    have := hown _ hO
    omega
  refine S9.stC 0 rfl (by show 1 < 2; decide) fun w10 S10 u10 => ?_
  have S10 : St O w2 w10 [(b3, bothO p r)] := S10
  have g3 : w9.heap[b3]? = some (bothO p sa) := S9.at_ 0 rfl
  have hb3l : b3 < w8.heap.size := S8.lt _ List.mem_cons_self
  have nO3 : ¬ O' b3 := fun h => (o2 b3 h).elim (fun h => by have := hown _ h; omega) fun h => by omega
  have tx10 := tx9.upd u10 (fun k hk he => nO3 (he ▸ hk)) (NoTy.box g3 (by decide))
  have r10 := r9.box g3 (by decide) u10
  refine S10.lds 0 (some (at0 p), r, ()) rfl ?_
  have v1 : St (fun _ => False) w w10 [(b1, .cells #[.pointer none, .slice none 0 0] 28 (0, 0))] := (S1.ext e2).fresh S10.upd (fun k hk => .inr (by have := hnew k hk; have := e1.size; omega)) (fun x hx hO => by
    rw [List.mem_singleton.1 hx] at hO
    have := hnew _ hO
    dsimp only at *
    omega)
  refine v1.aggSt 0 rfl rfl rfl rfl fun w11 v2 u11 => v2.lds 0 (some (at0 p), r, ()) rfl ?_
  have nO1 : ¬ O' b1 := fun h => (o2 b1 h).elim (fun h => by have := hnew _ h; dsimp only at *; omega) fun h => by have := S8.upd.size; have := e2.size; dsimp only at *; omega
  have g1 : w10.heap[b1]? = some (.cells #[.pointer none, .slice none 0 0] 28 (0, 0)) := v1.at_ 0 rfl
  have tx11 := tx10.upd u11 (fun k hk he => nO1 (he ▸ hk)) (NoTy.box g1 (by decide))
  have ea' : atoms (aOf e M') = ps.flatten := by
    rw [ea, hM0]
    simp [atoms_prs]
  have zz := e1.size
  have zz2 := e2.size
  refine hK p e O' M' _ r w11 ⟨tx11, ?_, fun k hk => ?_⟩ ea' v2.upd
  · rw [ea']; exact (r10.box g1 (by decide) u11).mono (by omega)
  · rcases o2 k hk with h | h
    · have := hnew k h; omega
    · omega
end
end Go.Proofs.YtabcpghhfeplaaaGreat
set_option linter.unusedSimpArgs false
set_option linter.unusedVariables false
set_option maxRecDepth 100000
namespace Go.Proofs.YtabcpghhfeplaaaGreat
open Cdc Gly Clu Lns Obx
namespace Obx
def cls7 (n : Nat) : Nat := if n = 13 then 1 else if n = 10 then 2 else if n < 32 ∨ n = 127 then 3 else 0
def wrd7 (n : Nat) : Nat := if (9 ≤ n ∧ n ≤ 13) ∨ n = 32 then 0 else if (48 ≤ n ∧ n ≤ 57) ∨ (65 ≤ n ∧ n ≤ 90) ∨ n = 95 ∨ (97 ≤ n ∧ n ≤ 122) then 2 else 1
theorem table7 : ((List.range 128).all fun n => cls (n : Int) == cls7 n && cnj (n : Int) == 0 && wrd (n : Int) == wrd7 n) = true := by kernel_rfl
theorem asc_of {v : Int} (h : 0 ≤ v ∧ v < 128) : cls v = cls7 v.toNat ∧ cnj v = 0 ∧ wrd v = wrd7 v.toNat := by
  have h1 := List.all_eq_true.1 table7 v.toNat (List.mem_range.2 (by omega))
  have e : ((v.toNat : Nat) : Int) = v := by omega
  rw [e] at h1
  simp only [Bool.and_eq_true, beq_iff_eq] at h1
  exact ⟨h1.1.1, h1.1.2, h1.2⟩
theorem cls7_le (n : Nat) : cls7 n ≤ 3 := by unfold cls7; split <;> (try split) <;> (try split) <;> omega
def Asc7 (l : List Int) : Prop := ∀ v ∈ l, 0 ≤ v ∧ v < 128
theorem joins7 {s : Sc} {a : Int} (ha : 0 ≤ a ∧ a < 128) (hs : s.last ≤ 3) : joins s (cls a) (cnj a) = decide (s.last = 1 ∧ a = 10) := by
  obtain ⟨h1, h2, _⟩ := asc_of ha
  have h3 := cls7_le a.toNat
  rw [h1, h2]
  have h10 : cls7 a.toNat = 2 ↔ a = 10 := by unfold cls7; split <;> (try split) <;> (try split) <;> omega
  unfold joins
  by_cases hc : s.last = 1 ∧ cls7 a.toNat = 2
  · rw [if_pos hc, decide_eq_true ⟨hc.1, h10.1 hc.2⟩]
  · rw [if_neg hc, decide_eq_false (fun h => hc ⟨h.1, h10.2 h.2⟩)]
    split
    · rfl
    · rename_i hap
      simp only [not_or, apart, decide_eq_true_eq] at hap
      have e0 : s.last = 0 := by omega
      have e1 : cls7 a.toNat = 0 := by omega
      rw [e0, e1]
      rfl
theorem last7 {A : List Int} (h : Asc7 A) : ∀ k, (sc (A.take k)).last ≤ 3
  | 0 => by simp [sc, Sc.zero]
  | k + 1 => by
    by_cases hk : k < A.length
    · rw [List.take_add_one, List.getElem?_eq_getElem hk]
      show (sc (A.take k ++ [A[k]])).last ≤ 3
      rw [sc_snoc, last_stp, (asc_of (h _ (List.getElem_mem hk))).1]
      exact cls7_le _
    · have := last7 h k
      rwa [List.take_of_length_le (by omega)] at this ⊢
theorem bk7 {A : List Int} (h : Asc7 A) {k : Nat} (hk : k ≤ A.length) : bk A k = !(decide (0 < k) && (A[k - 1]? == some 13) && (A[k]? == some 10)) := by
  cases k with
  | zero => rw [bk_zero]; rfl
  | succ k =>
    by_cases he : k + 1 = A.length
    · rw [he, bk_len, List.getElem?_eq_none (Nat.le_refl A.length)]
      simp
    · have ha : A[k + 1]? = some A[k + 1] := List.getElem?_eq_getElem (by omega)
      have hb : A[k]? = some A[k] := List.getElem?_eq_getElem (by omega)
      rw [bk_at ha (by omega), joins7 (h _ (List.getElem_mem _)) (last7 h _)]
      have hl : (sc (A.take (k + 1))).last = cls7 (A[k]).toNat := by
        rw [List.take_add_one, hb]
        show (sc (A.take k ++ [A[k]])).last = _
        rw [sc_snoc, last_stp, (asc_of (h _ (List.getElem_mem _))).1]
      have h13 : cls7 (A[k]).toNat = 1 ↔ A[k] = 13 := by
        have := h A[k] (List.getElem_mem _)
        unfold cls7; split <;> (try split) <;> (try split) <;> omega
      rw [hl, ha, Nat.add_sub_cancel, hb]
      rw [Bool.eq_iff_iff]
      simp [h13]
end Obx
end Go.Proofs.YtabcpghhfeplaaaGreat
set_option linter.unusedSimpArgs false
set_option linter.unusedVariables false
set_option maxRecDepth 100000
namespace Go.Proofs.YtabcpghhfeplaaaGreat
open Go Go.Vx Cdc Trx Gly Clu Lns Obx
section
variable {w w' : World} {S : Nat → Prop} {p : Nat} {e : Enc} {lim na : Nat} {O : Nat → Prop} {M : Parts}
theorem spans_eq {sp : Int × Int × Int} {f t k : Int} (h : sp = (f, t, k)) {K : Bool → World → Prop} (hK : ∀ w', Ext w w' → K true w') :
    callT Tryz.prog 30 #[.agg (Cells.vals c34 (spT sp)).toArray, .int .i64 0, .int .i64 f, .int .i64 t, .int .i64 k] (.one (.one .bool)) K w := by
  subst h
  exact spans_call (sp := (f, t, k)) hK
def letr (v : Int) : Int := 97 + (within v 25 : Nat)
theorem letr_in (v : Int) : 97 ≤ letr v ∧ letr v ≤ 122 := by unfold letr; have := within_le v 25; omega
theorem own_box {b N : Nat} {v : Int} (h : w.heap[b]? = some (.cells #[.int .i64 v] 3 (0, 0))) (hN : N ≤ b) : SlOwn w N ⟨some (at0 b), 1, 1⟩ 3 1 (iv [v]) :=
  ⟨by simp, Nat.le_refl _, .inr ⟨b, 0, _, rfl, hN, h, by show 0 + 1 * 1 ≤ 1; omega, fun i u hu => by rw [Nat.zero_add]; simpa using hu⟩⟩
end
end Go.Proofs.YtabcpghhfeplaaaGreat
set_option linter.unusedSimpArgs false
set_option linter.unusedVariables false
set_option maxRecDepth 100000
namespace Go.Proofs.YtabcpghhfeplaaaGreat
open Trx Gly Clu Lns Obx
namespace Obx
def fl (q a : Int) : Bool × Bool := (a == q, a == 92)
end Obx
end Go.Proofs.YtabcpghhfeplaaaGreat
set_option linter.unusedSimpArgs false
set_option linter.unusedVariables false
set_option maxRecDepth 100000
namespace Go.Proofs.YtabcpghhfeplaaaGreat
open Trx Gly Clu Lns Obx
namespace Obx
theorem cutsTo_prefix (A : List Int) {j : Nat} (hj : j ≤ A.length) : cutsTo A j <+: cuts A := by
  unfold cuts cutsTo
  obtain ⟨d, hd⟩ : ∃ d, A.length + 1 = (j + 1) + d := ⟨A.length - j, by omega⟩
  have e : List.range (j + 1 + d) = List.range (j + 1) ++ (List.range d).map (j + 1 + ·) := List.range_add
  rw [hd, e, List.filter_append]
  exact List.prefix_append _ _
theorem cels_mid {A : List Int} (ha : Asc7 A) {hl n : Nat} (hn : hl + n ≤ A.length) (hb : ∀ k, hl ≤ k → k ≤ hl + n → bk A k = true) : ∃ m0, m0 ≤ hl ∧ m0 + n ≤ (cels A 0).length ∧ (hl = 0 → m0 = 0) ∧ ∀ t a, t < n → A[hl + t]? = some a → (cels A 0)[m0 + t]? = some ⟨hl + t, hl + t + 1, wrd7 a.toNat, true, a⟩ := by
  have key : ∀ d, d ≤ n → ∃ l, cutsTo A (hl + d) = l ++ [hl + d] ∧ l.length + 1 = (cutsTo A hl).length + d := by
    intro d
    induction d with
    | zero =>
      intro _
      cases hl with
      | zero => exact ⟨[], by rw [cutsTo_zero]; rfl, by rw [cutsTo_zero]; rfl⟩
      | succ h =>
        unfold cutsTo
        rw [List.range_succ, List.filter_append, List.filter_cons_of_pos (hb (h + 1) (Nat.le_refl _) (by omega))]
        exact ⟨_, rfl, by simp⟩
    | succ d ih =>
      intro h
      obtain ⟨l, h1, h2⟩ := ih (by omega)
      have hnext := cutsTo_next (A := A) (i := hl + d) (j := hl + (d + 1)) (by omega) (hb _ (by omega) (by omega)) (fun k q1 q2 => by omega)
      exact ⟨l ++ [hl + d], by rw [hnext, h1], by rw [List.length_append, List.length_singleton]; omega⟩
  have at_ : ∀ d, d ≤ n → (cuts A)[(cutsTo A hl).length - 1 + d]? = some (hl + d) := by
    intro d hd
    obtain ⟨l, h1, h2⟩ := key d hd
    obtain ⟨r, hr⟩ := cutsTo_prefix A (j := hl + d) (by omega)
    have hp : 0 < (cutsTo A hl).length := by
      obtain ⟨l0, h3, _⟩ := key 0 (Nat.zero_le _)
      rw [Nat.add_zero] at h3
      rw [h3]; simp
    rw [← hr, h1, List.append_assoc, List.getElem?_append_right (by omega), show (cutsTo A hl).length - 1 + d - l.length = 0 by omega]
    rfl
  refine ⟨(cutsTo A hl).length - 1, ?_, ?_, fun h => ?_, fun t a ht hat => ?_⟩
  · have := cutsTo_len A hl; omega
  · have := (List.getElem?_eq_some_iff.1 (at_ n (Nat.le_refl _))).1
    rw [cels_len]; omega
  · subst h; rw [cutsTo_zero]; rfl
  · have h1 := at_ t (by omega)
    have h2 := at_ (t + 1) (by omega)
    obtain ⟨c, hc⟩ : ∃ c, (cels A 0)[(cutsTo A hl).length - 1 + t]? = some c := ⟨_, List.getElem?_eq_getElem (by
      have := (List.getElem?_eq_some_iff.1 h2).1
      rw [cels_len]; omega)⟩
    obtain ⟨i, j, g1, g2, g3, g4, g5, g6, _, _, g7, g8, g9⟩ := (cels_ok hc).ex
    rw [h1] at g1
    rw [show (cutsTo A hl).length - 1 + t + 1 = (cutsTo A hl).length - 1 + (t + 1) by omega, h2] at g2
    cases g1; cases g2
    rw [hat] at g7
    cases g7
    obtain ⟨_, _, hw⟩ := asc_of (ha _ (List.mem_of_getElem? hat))
    obtain ⟨cf, ct, ck, ca, cat⟩ := c
    dsimp only at *
    have : ca = true := g9.2 (by omega)
    rw [hc]
    subst g5 g6 this
    rw [g8, hw]
    simp only [Nat.zero_add]
    rfl
theorem down_pass {C : List Cel} {o c : Int} {n m0 k : Nat} : ∀ (d u : Nat), (∀ s, u ≤ s → s < u + d → ∃ x, C[m0 + s]? = some x ∧ x.is o = false ∧ x.is c = false) → nthL C o c (walkI false n (((m0 + (u + d) : Nat) : Int) - 1)) k 0 = nthL C o c (walkI false n (((m0 + u : Nat) : Int) - 1)) k 0
  | 0, u, _ => rfl
  | d + 1, u, h => by
    obtain ⟨x, hx, h1, h2⟩ := h (u + d) (by omega) (by omega)
    have e : ((m0 + (u + (d + 1)) : Nat) : Int) - 1 = ((m0 + (u + d) : Nat) : Int) := by omega
    rw [e, walkI_down, nthL, hx]
    simp only [h1, h2, Bool.false_eq_true, if_false, if_true]
    exact down_pass d u fun s q1 q2 => h s q1 (by omega)
theorem down_hit {C : List Cel} {o c : Int} {n m0 : Nat} : ∀ (k d : Nat), 1 ≤ k → k ≤ d → (∀ s, s < d → ∃ x, C[m0 + s]? = some x ∧ x.is o = true ∧ x.is c = false) → nthL C o c (walkI false n (((m0 + d : Nat) : Int) - 1)) k 0 = some (m0 + d - k)
  | 0, _, h, _, _ => by omega
  | k + 1, 0, _, h, _ => by omega
  | k + 1, d + 1, _, hk, h => by
    obtain ⟨x, hx, h1, h2⟩ := h d (by omega)
    have e : ((m0 + (d + 1) : Nat) : Int) - 1 = ((m0 + d : Nat) : Int) := by omega
    rw [e, walkI_down, nthL, hx]
    simp only [h1, h2, Bool.false_eq_true, if_false, Nat.lt_irrefl]
    by_cases hk0 : k = 0
    · subst hk0
      simp only [Nat.zero_add, if_true, reduceCtorEq]
      congr 1
    · rw [if_neg (by decide), if_neg (by omega), Nat.add_sub_cancel, down_hit k d (by omega) (by omega) fun s hs => h s (by omega)]
      congr 1; omega
theorem down_none {C : List Cel} {o c : Int} {n : Nat} : ∀ (d k : Nat), d < k → (∀ s, s < d → ∃ x, C[s]? = some x ∧ x.is o = true ∧ x.is c = false) → nthL C o c (walkI false n (((d : Nat) : Int) - 1)) k 0 = none
  | 0, k, _, _ => by
    have : walkI false n (((0 : Nat) : Int) - 1) = [] := rfl
    rw [this]; rfl
  | d + 1, k, hk, h => by
    obtain ⟨x, hx, h1, h2⟩ := h d (by omega)
    have e : ((d + 1 : Nat) : Int) - 1 = (d : Int) := by omega
    rw [e, walkI_down, nthL, hx]
    simp only [h1, h2, Bool.false_eq_true, if_false, Nat.lt_irrefl]
    rw [if_neg (by decide), if_neg (by omega)]
    exact down_none d (k - 1) (by omega) fun s hs => h s (by omega)
theorem up_pass {C : List Cel} {o c : Int} {m0 k : Nat} : ∀ (d u : Nat), m0 + (u + d) ≤ C.length → (∀ s, u ≤ s → s < u + d → ∃ x, C[m0 + s]? = some x ∧ x.is o = false ∧ x.is c = false) → nthL C c o (walkI true C.length ((m0 + u : Nat) : Int)) k 0 = nthL C c o (walkI true C.length ((m0 + (u + d) : Nat) : Int)) k 0
  | 0, u, _, _ => rfl
  | d + 1, u, hl, h => by
    obtain ⟨x, hx, h1, h2⟩ := h u (Nat.le_refl _) (by omega)
    rw [walkI_up (by omega), nthL, hx]
    simp only [h1, h2, Bool.false_eq_true, if_false, if_true]
    have e : ((m0 + u : Nat) : Int) + 1 = ((m0 + (u + 1) : Nat) : Int) := by omega
    rw [e, up_pass d (u + 1) (by omega) fun s q1 q2 => h s (by omega) (by omega)]
    congr 2; omega
theorem up_hit {C : List Cel} {o c : Int} {m0 : Nat} : ∀ (k u d : Nat), 1 ≤ k → k ≤ d → m0 + (u + d) ≤ C.length → (∀ s, u ≤ s → s < u + d → ∃ x, C[m0 + s]? = some x ∧ x.is o = false ∧ x.is c = true) → nthL C c o (walkI true C.length ((m0 + u : Nat) : Int)) k 0 = some (m0 + u + k - 1)
  | 0, _, _, h, _, _, _ => by omega
  | k + 1, u, 0, _, h, _, _ => by omega
  | k + 1, u, d + 1, _, hk, hl, h => by
    obtain ⟨x, hx, h1, h2⟩ := h u (Nat.le_refl _) (by omega)
    rw [walkI_up (by omega), nthL, hx]
    simp only [h1, h2, Bool.false_eq_true, if_false, Nat.lt_irrefl]
    by_cases hk0 : k = 0
    · subst hk0
      simp only [Nat.zero_add, if_true, reduceCtorEq]
      congr 1
    · have e : ((m0 + u : Nat) : Int) + 1 = ((m0 + (u + 1) : Nat) : Int) := by omega
      rw [if_neg (by decide), if_neg (by omega), Nat.add_sub_cancel, e, up_hit k (u + 1) d (by omega) (by omega) (by omega) fun s q1 q2 => h s (by omega) (by omega)]
      congr 1; omega
def textB (H T : List Int) (o c : Int) (d : Nat) (inn : List Int) : List Int := H ++ List.replicate d o ++ inn ++ List.replicate d c ++ T
theorem textB_len (H T : List Int) (o c : Int) (d : Nat) (inn : List Int) : (textB H T o c d inn).length = H.length + d + inn.length + d + T.length := by unfold textB; simp; omega
theorem textB_at {H T : List Int} {o c : Int} {d : Nat} {inn : List Int} : (∀ t, t < d → (textB H T o c d inn)[H.length + t]? = some o) ∧ (∀ t, t < inn.length → (textB H T o c d inn)[H.length + (d + t)]? = inn[t]?) ∧ (∀ t, t < d → (textB H T o c d inn)[H.length + (d + inn.length + t)]? = some c) := by
  unfold textB
  refine ⟨fun t ht => ?_, fun t ht => ?_, fun t ht => ?_⟩
  · rw [List.getElem?_append_left (by simp <;> omega), List.getElem?_append_left (by simp <;> omega), List.getElem?_append_left (by simp <;> omega), List.getElem?_append_right (by omega), List.getElem?_replicate, if_pos (by omega)]
  · rw [List.getElem?_append_left (by simp <;> omega), List.getElem?_append_left (by simp <;> omega), List.getElem?_append_right (by simp <;> omega)]
    congr 1; simp <;> omega
  · rw [List.getElem?_append_left (by simp <;> omega), List.getElem?_append_right (by simp <;> omega), List.getElem?_replicate, if_pos (by simp <;> omega)]
structure TbOk (H T : List Int) (o c : Int) (d : Nat) (inn : List Int) : Prop where
  h7 : Asc7 H
  t7 : Asc7 T
  fel : (o = 40 ∧ c = 41) ∨ (o = 91 ∧ c = 93) ∨ (o = 123 ∧ c = 125) ∨ (o = 60 ∧ c = 62)
  d1 : 1 ≤ d
  i7 : ∀ v ∈ inn, v = 10 ∨ (97 ≤ v ∧ v ≤ 122)
  i0 : inn[0]? = some 120
variable {H T : List Int} {o c : Int} {d : Nat} {inn : List Int}
theorem TbOk.asc (h : TbOk H T o c d inn) : Asc7 (textB H T o c d inn) := by
  intro v hv
  have := h.fel
  unfold textB at hv
  simp only [List.mem_append, List.mem_replicate] at hv
  rcases hv with (((hv | ⟨_, hv⟩) | hv) | ⟨_, hv⟩) | hv
  · exact h.h7 v hv
  · omega
  · have := h.i7 v hv; omega
  · omega
  · exact h.t7 v hv
theorem TbOk.bk_ (h : TbOk H T o c d inn) : ∀ k, H.length ≤ k → k ≤ H.length + (d + inn.length + d) → bk (textB H T o c d inn) k = true := by
  intro k h1 h2
  obtain ⟨a1, a2, a3⟩ := textB_at (H := H) (T := T) (o := o) (c := c) (d := d) (inn := inn)
  have hl := textB_len H T o c d inn
  have hf := h.fel; have hd := h.d1
  rw [bk7 h.asc (by omega)]
  rcases Nat.lt_or_ge H.length k with hlt | hge
  · have hne : (textB H T o c d inn)[k - 1]? ≠ some 13 := by
      obtain ⟨t, rfl⟩ : ∃ t, k = H.length + t + 1 := ⟨k - H.length - 1, by omega⟩
      rw [Nat.add_sub_cancel]
      intro hc
      rcases Nat.lt_or_ge t d with q | q
      · rw [a1 t q] at hc; cases hc; omega
      · rcases Nat.lt_or_ge t (d + inn.length) with q' | q'
        · obtain ⟨u, rfl⟩ : ∃ u, t = d + u := ⟨t - d, by omega⟩
          rw [a2 u (by omega)] at hc
          have := h.i7 13 (List.mem_of_getElem? hc)
          omega
        · obtain ⟨u, rfl⟩ : ∃ u, t = d + inn.length + u := ⟨t - d - inn.length, by omega⟩
          rw [a3 u (by omega)] at hc; cases hc; omega
    have : ((textB H T o c d inn)[k - 1]? == some 13) = false := by rw [beq_eq_false_iff_ne]; exact hne
    rw [this]; simp
  · have : k = H.length := by omega
    subst this
    have h0 := a1 0 (by omega)
    rw [Nat.add_zero] at h0
    have : ((textB H T o c d inn)[H.length]? == some 10) = false := by
      rw [h0, beq_eq_false_iff_ne]
      intro hc; cases hc; omega
    rw [this]; simp
theorem TbOk.pair (h : TbOk H T o c d inn) {k t : Nat} (h1 : 1 ≤ k) (hk : k ≤ d) (ht : t < inn.length) : ∃ c1 c2 : Cel, bracketsP (cels (textB H T o c d inn) 0) ((H.length + (d + t) : Nat) : Int) o c k = some (c1, c2) ∧ c1.from_ = H.length + d - k ∧ c1.to_ = H.length + d - k + 1 ∧ c2.from_ = H.length + d + inn.length + k - 1 ∧ c2.to_ = H.length + d + inn.length + k := by
  obtain ⟨a1, a2, a3⟩ := textB_at (H := H) (T := T) (o := o) (c := c) (d := d) (inn := inn)
  have hl := textB_len H T o c d inn
  have hf := h.fel
  obtain ⟨m0, _, hm, _, hC⟩ := cels_mid h.asc (hl := H.length) (n := d + inn.length + d) (by omega) (fun k q1 q2 => h.bk_ k q1 q2)
  have clt : ∀ {m n : Nat} {x y : Cel}, m < n → (cels (textB H T o c d inn) 0)[m]? = some x → (cels (textB H T o c d inn) 0)[n]? = some y → x.to_ ≤ y.from_ := fun hmn hx hy => (cels_lt hmn hx hy).1
  generalize cels (textB H T o c d inn) 0 = C at *
  have co : ∀ s, s < d → ∃ x, C[m0 + s]? = some x ∧ x.is o = true ∧ x.is c = false := fun s hs => by
    refine ⟨_, hC s o (by omega) (a1 s hs), by simp [Cel.is], ?_⟩
    have : (o == c) = false := by rw [beq_eq_false_iff_ne]; omega
    simp [Cel.is, this]
  have ci : ∀ s, d ≤ s → s < d + inn.length → ∃ x, C[m0 + s]? = some x ∧ x.is o = false ∧ x.is c = false := fun s q1 q2 => by
    obtain ⟨u, rfl⟩ : ∃ u, s = d + u := ⟨s - d, by omega⟩
    have hv : inn[u]? = some inn[u] := List.getElem?_eq_getElem (by omega)
    have hr := h.i7 _ (List.getElem_mem (show u < inn.length by omega))
    refine ⟨_, hC (d + u) inn[u] (by omega) (by rw [a2 u (by omega), hv]), ?_, ?_⟩
    · have : (inn[u] == o) = false := by rw [beq_eq_false_iff_ne]; omega
      simp [Cel.is, this]
    · have : (inn[u] == c) = false := by rw [beq_eq_false_iff_ne]; omega
      simp [Cel.is, this]
  have cc : ∀ s, d + inn.length ≤ s → s < d + inn.length + d → ∃ x, C[m0 + s]? = some x ∧ x.is o = false ∧ x.is c = true := fun s q1 q2 => by
    obtain ⟨u, rfl⟩ : ∃ u, s = d + inn.length + u := ⟨s - d - inn.length, by omega⟩
    refine ⟨_, hC _ c (by omega) (a3 u (by omega)), ?_, by simp [Cel.is]⟩
    have : (c == o) = false := by rw [beq_eq_false_iff_ne]; omega
    simp [Cel.is, this]
  have hv : inn[t]? = some inn[t] := List.getElem?_eq_getElem ht
  have hx := hC (d + t) inn[t] (by omega) (by rw [a2 t ht, hv])
  have hfi : firstI C ((H.length + (d + t) : Nat) : Int) = m0 + (d + t) := by
    refine firstI_eq (by omega) (fun j y hj hy => ?_) (fun y hy => ?_)
    · have := clt hj hy hx
      dsimp only at this; omega
    · rw [hx] at hy; cases hy; dsimp only; omega
  have hit : ((C[m0 + (d + t)]?.map fun c => c.is o).getD false) = false := by
    obtain ⟨x, g1, g2, _⟩ := ci (d + t) (by omega) (by omega)
    rw [g1]; exact g2
  have one : nthL C o c (walkI false C.length (((m0 + (d + t) : Nat) : Int) - 1)) k 0 = some (m0 + d - k) := by
    rw [down_pass t d fun s q1 q2 => ci s q1 (by omega)]
    exact down_hit k d h1 hk co
  have two : nthL C c o (walkI true C.length ((m0 + (d + t) : Nat) : Int)) k 0 = some (m0 + (d + inn.length) + k - 1) := by
    have := up_pass (C := C) (o := o) (c := c) (m0 := m0) (k := k) (inn.length - t) (d + t) (by omega) fun s q1 q2 => ci s (by omega) (by omega)
    rw [this, show d + t + (inn.length - t) = d + inn.length by omega]
    exact up_hit k (d + inn.length) d h1 hk (by omega) fun s q1 q2 => cc s q1 q2
  have y1 := hC (d - k) o (by omega) (a1 (d - k) (by omega))
  have y2 := hC (d + inn.length + (k - 1)) c (by omega) (a3 (k - 1) (by omega))
  obtain ⟨c1, z1, f1, t1⟩ : ∃ x, C[m0 + (d - k)]? = some x ∧ x.from_ = H.length + (d - k) ∧ x.to_ = H.length + (d - k) + 1 := ⟨_, y1, rfl, rfl⟩
  obtain ⟨c2, z2, f2, t2⟩ : ∃ x, C[m0 + (d + inn.length + (k - 1))]? = some x ∧ x.from_ = H.length + (d + inn.length + (k - 1)) ∧ x.to_ = H.length + (d + inn.length + (k - 1)) + 1 := ⟨_, y2, rfl, rfl⟩
  refine ⟨c1, c2, ?_, by omega, by omega, by omega, by omega⟩
  unfold bracketsP
  dsimp only
  rw [hfi, if_neg (by omega), hit]
  simp only [Bool.false_eq_true, if_false]
  rw [one, two]
  unfold pick
  dsimp only
  rw [show m0 + d - k = m0 + (d - k) by omega, show m0 + (d + inn.length) + k - 1 = m0 + (d + inn.length + (k - 1)) by omega, z1, z2]
theorem line_on {A : List Int} {n : Nat} {v : Int} (hv : A[n + 1]? = some v) (h10 : v ≠ 10 ∧ v ≠ 13) (hn : ∀ a, A[n]? = some a → a ≠ 10 ∧ a ≠ 13) : ((lnAt A (nb A n)).getD ⟨0, 0, 0, 0⟩).to_ ≠ n + 1 := by
  have hlt := (List.getElem?_eq_some_iff.1 hv).1
  obtain ⟨l, hl, h1, h2⟩ := ln_of A (at_ := n) (by omega)
  rw [hl, Option.getD_some]
  intro hc
  have ok := ln_ok hl
  have tn := ok.tn
  rcases Nat.lt_or_ge l.to_ l.next with q | q
  · have := ok.atTo v q (by rw [hc]; exact hv)
    omega
  · cases hx : sk A (nb A n + 1) with
    | none => have := (ok.tail hx).2.1; omega
    | some x => have := (ok.brk x hx).2.1; omega
theorem TbOk.blocks (h : TbOk H T o c d inn) {k t : Nat} (h1 : 1 ≤ k) (hk : k ≤ d) (ht : t < inn.length) :
    blocksP (textB H T o c d inn) ((H.length + (d + t) : Nat) : Int) 68 (k : Int) o = ((((H.length + d - k : Nat) : Int), ((H.length + d + inn.length + k : Nat) : Int), 0), 0) ∧
    blocksP (textB H T o c d inn) ((H.length + (d + t) : Nat) : Int) 67 (k : Int) o = ((((H.length + d - k + 1 : Nat) : Int), ((H.length + d + inn.length + k - 1 : Nat) : Int), 0), 0) := by
  obtain ⟨c1, c2, hb, f1, t1, f2, t2⟩ := h.pair h1 hk ht
  obtain ⟨a1, a2, a3⟩ := textB_at (H := H) (T := T) (o := o) (c := c) (d := d) (inn := inn)
  have hl := textB_len H T o c d inn
  have hf := h.fel
  have hfe : fellow o = some c := by rcases hf with ⟨rfl, rfl⟩ | ⟨rfl, rfl⟩ | ⟨rfl, rfl⟩ | ⟨rfl, rfl⟩ <;> rfl
  have ck : ∀ kind : Int, (kind = 67 ∨ kind = 68) → checked (textB H T o c d inn).length ((H.length + (d + t) : Nat) : Int) kind (k : Int) 67 68 = 0 := fun kind hk => by unfold checked; rw [if_neg (by omega), if_neg (by omega)]
  have htm : times (k : Int) = k := by unfold times; omega
  have hho : hollow (textB H T o c d inn) c1 c2 = ((c1.to_ : Int), (c2.from_ : Int), 0) := by
    have key : ((lnAt (textB H T o c d inn) (nb (textB H T o c d inn) c1.from_)).getD ⟨0, 0, 0, 0⟩).to_ ≠ c1.to_ := by
      rw [t1, f1]
      obtain ⟨v, hv, hvo⟩ : ∃ v, (textB H T o c d inn)[H.length + d - k + 1]? = some v ∧ v ≠ 10 ∧ v ≠ 13 := by
        by_cases hk1 : k = 1
        · subst hk1
          refine ⟨120, ?_, by decide, by decide⟩
          have := a2 0 (by omega)
          rw [h.i0] at this
          rw [show H.length + d - 1 + 1 = H.length + (d + 0) by omega]; exact this
        · refine ⟨o, ?_, by omega, by omega⟩
          have := a1 (d - k + 1) (by omega)
          rw [show H.length + d - k + 1 = H.length + (d - k + 1) by omega]; exact this
      refine line_on hv hvo fun a ha => ?_
      have := a1 (d - k) (by omega)
      rw [show H.length + d - k = H.length + (d - k) by omega, this] at ha
      cases ha; omega
    unfold hollow
    dsimp only
    rw [if_pos (.inl key)]
  constructor
  · unfold blocksP
    rw [if_neg (by rw [ck 68 (.inr rfl)]; decide), hfe]
    dsimp only
    rw [if_neg (by rw [ck 68 (.inr rfl)]; decide), htm, hb]
    dsimp only
    rw [if_neg (by decide), f1, t2]
  · unfold blocksP
    rw [if_neg (by rw [ck 67 (.inl rfl)]; decide), hfe]
    dsimp only
    rw [if_neg (by rw [ck 67 (.inl rfl)]; decide), htm, hb]
    dsimp only
    rw [if_pos rfl, hho, t1, f2]
theorem TbOk.none_ (h : TbOk [] [] o c d inn) : (blocksP (textB [] [] o c d inn) ((d : Nat) : Int) 67 ((d + 1 : Nat) : Int) o).2 = 90 := by
  obtain ⟨a1, a2, a3⟩ := textB_at (H := []) (T := []) (o := o) (c := c) (d := d) (inn := inn)
  have hl := textB_len [] [] o c d inn
  have hf := h.fel
  have hi0 : 0 < inn.length := (List.getElem?_eq_some_iff.1 h.i0).1
  obtain ⟨m0, _, hm, hm0, hC⟩ := cels_mid h.asc (hl := 0) (n := d + inn.length + d) (by simp at hl; omega) (fun k q1 q2 => h.bk_ k (by simp) (by simpa using q2))
  obtain rfl := hm0 rfl
  have clt : ∀ {m n : Nat} {x y : Cel}, m < n → (cels (textB [] [] o c d inn) 0)[m]? = some x → (cels (textB [] [] o c d inn) 0)[n]? = some y → x.to_ ≤ y.from_ := fun hmn hx hy => (cels_lt hmn hx hy).1
  have hfe : fellow o = some c := by rcases hf with ⟨rfl, rfl⟩ | ⟨rfl, rfl⟩ | ⟨rfl, rfl⟩ | ⟨rfl, rfl⟩ <;> rfl
  have ck : checked (textB [] [] o c d inn).length ((d : Nat) : Int) 67 ((d + 1 : Nat) : Int) 67 68 = 0 := by
    simp only [List.length_nil] at hl
    unfold checked; rw [if_neg (by omega), if_neg (by omega)]
  have hbn : bracketsP (cels (textB [] [] o c d inn) 0) ((d : Nat) : Int) o c (d + 1) = none := by
    generalize cels (textB [] [] o c d inn) 0 = C at *
    have co : ∀ s, s < d → ∃ x, C[s]? = some x ∧ x.is o = true ∧ x.is c = false := fun s hs => by
      have h1 := a1 s hs
      rw [List.length_nil] at h1
      have h2 := hC s o (by omega) h1
      rw [Nat.zero_add] at h2
      refine ⟨_, h2, by simp [Cel.is], ?_⟩
      have : (o == c) = false := by rw [beq_eq_false_iff_ne]; omega
      simp [Cel.is, this]
    have hx : C[d]? = some ⟨d, d + 1, wrd7 120, true, 120⟩ := by
      have h1 := a2 0 hi0
      rw [List.length_nil, h.i0] at h1
      have h2 := hC (d + 0) 120 (by omega) h1
      simpa using h2
    have hfi : firstI C ((d : Nat) : Int) = d := by
      refine firstI_eq (by omega) (fun j y hj hy => ?_) (fun y hy => ?_)
      · have := clt hj hy hx
        dsimp only at this; omega
      · rw [hx] at hy; cases hy; dsimp only; omega
    have hio : (120 == o) = false := by rw [beq_eq_false_iff_ne]; omega
    unfold bracketsP
    dsimp only
    rw [hfi, if_neg (by omega), hx]
    simp only [Option.map_some, Option.getD_some, Cel.is, hio, Bool.and_false, Bool.false_eq_true, if_false]
    rw [down_none d (d + 1) (by omega) co]
    rfl
  have htm : times ((d + 1 : Nat) : Int) = d + 1 := by unfold times; omega
  unfold blocksP
  rw [if_neg (by rw [ck]; decide), hfe]
  dsimp only
  rw [if_neg (by rw [ck]; decide), htm, hbn]
end Obx
end Go.Proofs.YtabcpghhfeplaaaGreat
set_option linter.unusedSimpArgs false
set_option linter.unusedVariables false
set_option maxRecDepth 100000
namespace Go.Proofs.YtabcpghhfeplaaaGreat
open Go Go.Vx Cdc Trx Gly Clu Lns Obx
section
variable {w w' : World} {S : Nat → Prop} {p : Nat} {e : Enc} {lim na : Nat} {O : Nat → Prop} {M : Parts}
def bodB (v : Int) : List Int := if Int.tmod v 5 = 0 then [letr v, 10] else [letr v]
def innB (l : List Int) : List Int := 120 :: ((l.take 16).flatMap bodB ++ [120])
theorem innB_in (l : List Int) : ∀ v ∈ innB l, v = 10 ∨ (97 ≤ v ∧ v ≤ 122) := by
  intro v hv
  unfold innB at hv
  simp only [List.mem_cons, List.mem_append, List.mem_flatMap, List.not_mem_nil, or_false] at hv
  rcases hv with h | ⟨x, _, hv⟩ | h
  · omega
  · have := letr_in x
    unfold bodB at hv
    split at hv
    · simp at hv; omega
    · simp at hv; omega
  · omega
set_option maxHeartbeats 1000000 in
theorem blockMade_walk {enc de kk op at_ : Int} {s1 s2 : Sl} {pre ls : List Int} (h1 : SlX w s1 1 (iv pre)) (n1 : pre.length < 2 ^ 60) (h2 : SlX w s2 1 (iv ls)) (n2 : ls.length < 2 ^ 60) (j2 : ∀ n ∈ ls, In64 n) (ia : In64 de) (ib : In64 kk) (ic : In64 op) (ip : In64 at_) {K : Bool → World → Prop} (hK : ∀ w', Ext w w' → K true w') :
    callT Tryz.prog 14 #[.int .i64 enc, .slice s1.a s1.len s1.cap, .slice s2.a s2.len s2.cap, .int .i64 de, .int .i64 kk, .int .i64 op, .int .i64 at_] (.one (.one .bool)) K w := by
  refine F14_calls ?_
  unfold F14
  have hl2 : ls.length = s2.len := by have := h2.len1; rwa [List.length_map] at this
  refine newO_r fun b1 w1 e1 m1 hb1 _ => within_call (n := 3) ic (by decide) ?_
  obtain ⟨o, c, hoa, hf⟩ : ∃ o c : Int, ([40, 91, 123, 60] : List Int)[within op 3]? = some o ∧ ((o = 40 ∧ c = 41) ∨ (o = 91 ∧ c = 93) ∨ (o = 123 ∧ c = 125) ∨ (o = 60 ∧ c = 62)) := by
    have := within_le op 3
    match within op 3, this with
    | 0, _ => exact ⟨40, 41, rfl, by omega⟩
    | 1, _ => exact ⟨91, 93, rfl, by omega⟩
    | 2, _ => exact ⟨123, 125, rfl, by omega⟩
    | 3, _ => exact ⟨60, 62, rfl, by omega⟩
  have hbox1 : SlIn w1 ⟨some (at0 b1), 4, 4⟩ 3 1 (iv [40, 91, 123, 60]) := SlIn.of_box m1 (n := 4) (sz := 1) rfl
  refine ix_ld (c := .int .i64) (xs := [40, 91, 123, 60]) hbox1 (by omega) (x := o) (by rw [Int.toNat_natCast]; exact hoa) fun pq => ?_
  refine join_r (fun x W => x = (c, ()) ∧ w1 = W) ?_ ?_
  · refine sif_r (fun hc => ⟨?_, rfl⟩) (fun hc => ⟨?_, rfl⟩)
    · simp only [beq_iff_eq] at hc
      congr 1; omega
    · simp only [beq_eq_false_iff_ne, ne_eq] at hc
      rw [wrap64 (by omega) (by omega)]
      congr 1; omega
  rintro _ _ ⟨rfl, rfl⟩
  refine within_call (n := 7) ia (by decide) ?_
  have hd7 := within_le de 7
  obtain ⟨d, hdd⟩ : ∃ d, d = 1 + within de 7 := ⟨_, rfl⟩
  have ed : IntKind.wrap .i64 ((1 : Int) + ((within de 7 : Nat) : Int)) = (d : Int) := by rw [wrap64 (by omega) (by omega)]; omega
  rw [ed]
  have ed1 : IntKind.wrap .i64 ((d : Int) - 1) = ((d - 1 : Nat) : Int) := by rw [wrap64 (by omega) (by omega)]; omega
  rw [ed1]
  refine within_call (n := d - 1) ib (by omega) ?_
  have hk7 := within_le kk (d - 1)
  obtain ⟨k, hkd⟩ : ∃ k, k = 1 + within kk (d - 1) := ⟨_, rfl⟩
  have ek : IntKind.wrap .i64 ((1 : Int) + ((within kk (d - 1) : Nat) : Int)) = (k : Int) := by rw [wrap64 (by omega) (by omega)]; omega
  rw [ek]
  refine newO_r fun b9 w2' e2' m9 hb9' _ => ?_
  have bl : ∀ l : List Int, (l.flatMap bodB).length ≤ 2 * l.length := by
    intro l
    induction l with
    | nil => simp
    | cons x l ih =>
      have : (bodB x).length ≤ 2 := by unfold bodB; split <;> simp
      rw [List.flatMap_cons, List.length_append, List.length_cons]; omega
  refine join_r (fun x W => SlOwn W w.heap.size x.1 3 1 (iv (120 :: (ls.take 16).flatMap bodB)) ∧ Ext w W) ?_ ?_
  · refine sloop_r (fun x W => ∃ i : Nat, i ≤ ls.length ∧ i ≤ 16 ∧ x.2 = ((i : Int), ()) ∧ SlOwn W w.heap.size x.1 3 1 (iv (120 :: (ls.take i).flatMap bodB)) ∧ Ext w W) (fun x _ => ((16 : Int) - x.2.1).toNat) ⟨0, Nat.zero_le _, Nat.zero_le _, rfl, own_box m9 (by have := e1.size; omega), e1.trans e2'⟩ ?_
    rintro ⟨r, _⟩ W ⟨i, hi, hi2, rfl, hr, eW⟩
    dsimp only at hr ⊢
    refine join_r (fun x W' => x = (decide (i < ls.length ∧ i < 16), ()) ∧ W = W') ?_ ?_
    · refine sif_r (fun h => ⟨tupb ?_, rfl⟩) (fun h => ⟨tupb ?_, rfl⟩)
      all_goals simp only [decide_eq_true_eq, decide_eq_false_iff_not, Bool.false_eq_true, false_iff] at *
      all_goals omega
    rintro _ _ ⟨rfl, rfl⟩
    refine sif_r (fun hc => ?_) (fun hc => ?_)
    · simp only [decide_eq_true_eq] at hc
      obtain ⟨v, hv⟩ : ∃ v, ls[i]? = some v := ⟨_, List.getElem?_eq_getElem hc.1⟩
      have ew : IntKind.wrap .i64 ((i : Int) + 1) = ((i + 1 : Nat) : Int) := by rw [wrap64 (by omega) (by omega)]; omega
      rw [ew]
      have lli : ((ls.take i).flatMap bodB).length ≤ 32 := by
        have := bl (ls.take i)
        rw [List.length_take] at this; omega
      have e5 : (ls.take (i + 1)).flatMap bodB = (ls.take i).flatMap bodB ++ bodB v := by rw [List.take_add_one, hv]; simp
      refine join_r (fun x W' => SlOwn W' w.heap.size x.1 3 1 (iv (120 :: (ls.take (i + 1)).flatMap bodB)) ∧ Ext w W') ?_ ?_
      · refine ix_ldX (c := .int .i64) (xs := ls) (h2.ext eW) (by omega) (x := v) (by rw [Int.toNat_natCast]; exact hv) fun q' => ?_
        refine within_call (n := 25) (j2 v (List.mem_of_getElem? hv)) (by decide) ?_
        have ewl : IntKind.wrap .i64 ((97 : Int) + ((within v 25 : Nat) : Int)) = letr v := by have := within_le v 25; rw [wrap64 (by omega) (by omega)]; rfl
        rw [ewl]
        refine newO_r fun b7 w4 e4 n4 hb4 _ => push (hr.ext e4) n4 (by rw [List.length_cons]; omega) (by have := eW.size; have := e4.size; omega) fun r' w5 o5 u5 => ?_
        have x5 : Ext w w5 := (eW.trans e4).step u5 fun k hk => hr.blk_ge hk
        refine ix_ldX (c := .int .i64) (xs := ls) (h2.ext x5) (by omega) (x := v) (by rw [Int.toNat_natCast]; exact hv) fun q' => chk_r (by decide) (sif_r (fun hm => ?_) (fun hm => ?_))
        · simp only [beq_iff_eq] at hm
          refine newO_r fun b8 w6 e6 n6 hb6 _ => push (o5.ext e6) n6 (by rw [List.length_append, List.length_cons, List.length_singleton]; omega) (by have := x5.size; have := e6.size; omega) fun r'' w7 o7 u7 => ?_
          have e7 : 120 :: (ls.take i).flatMap bodB ++ [letr v] ++ [10] = 120 :: (ls.take (i + 1)).flatMap bodB := by
            rw [e5]; unfold bodB; rw [if_pos hm]; simp
          rw [e7] at o7
          exact ⟨o7, (x5.trans e6).step u7 fun k hk => o5.blk_ge hk⟩
        · simp only [beq_eq_false_iff_ne, ne_eq] at hm
          have e7 : 120 :: (ls.take i).flatMap bodB ++ [letr v] = 120 :: (ls.take (i + 1)).flatMap bodB := by
            rw [e5]; unfold bodB; rw [if_neg hm]; simp
          rw [e7] at o5
          exact ⟨o5, x5⟩
      · rintro ⟨r2, _⟩ W2 ⟨hr2, eW2⟩
        exact ⟨⟨i + 1, by omega, by omega, rfl, hr2, eW2⟩, by omega⟩
    · simp only [decide_eq_false_iff_not] at hc
      have : ls.take i = ls.take 16 := by
        by_cases h : i = 16
        · rw [h]
        · rw [List.take_of_length_le (by omega), List.take_of_length_le (by omega)]
      rw [this] at hr
      exact ⟨hr, eW⟩
  rintro ⟨s0, _⟩ w2 ⟨o0, e2⟩
  dsimp only at o0 ⊢
  have hn32 : ((ls.take 16).flatMap bodB).length ≤ 32 := by
    have := bl (ls.take 16)
    rw [List.length_take] at this; omega
  refine newO_r fun b27 w3 e3 n3 hb3 _ => push (o0.ext e3) n3 (by rw [List.length_cons]; omega) (by have := e2.size; have := e3.size; omega) fun sw w4 ow u4 => ?_
  have x4 : Ext w w4 := (e2.trans e3).step u4 fun k hk => o0.blk_ge hk
  have einn : 120 :: (ls.take 16).flatMap bodB ++ [120] = innB ls := rfl
  rw [einn] at ow
  have hinn := innB_in ls
  have hi0 : (innB ls)[0]? = some 120 := rfl
  have hil : (innB ls).length ≤ 40 := by rw [← einn, List.length_append, List.length_cons, List.length_singleton]; omega
  have hil0 : 0 < (innB ls).length := by rw [← einn]; simp
  generalize innB ls = inn at *
  have lw : inn.length = sw.len := by have := ow.len1; rwa [List.length_map] at this
  refine plain_call (h1.ext x4) n1 fun s29 w5 o29 e5 => ?_
  have hH := plainL_len pre
  have hHa := plainL_asc pre
  obtain ⟨H, hHd⟩ : ∃ H, H = plainL pre := ⟨_, rfl⟩
  rw [← hHd] at o29 hH hHa
  have l29 : H.length = s29.len := by have := o29.len1; rwa [List.length_map] at this
  refine many_call (n := d) (v := o) (by omega) fun s30 w6 o30 e6 => ?_
  refine many_call (n := d) (v := c) (by omega) fun s31 w7 o31 e7 => ?_
  refine newO_r fun b32 w8 e8 n8 hb8 _ => ?_
  have ok : TbOk H H o c d inn := ⟨hHa, hHa, hf, by omega, hinn, hi0⟩
  have x58 := (e6.trans e7).trans e8
  have x48 := e5.trans x58
  have x08 := x4.trans x48
  have hll := textB_len H H o c d inn
  have hflat : ([H, List.replicate d o, inn, List.replicate d c, H] : List (List Int)).flatten = textB H H o c d inn := by unfold textB; simp
  have aso : ∀ {n : Nat}, Asc (List.replicate n o) := fun v hv => by rw [(List.mem_replicate.1 hv).2]; omega
  have asc_ : ∀ {n : Nat}, Asc (List.replicate n c) := fun v hv => by rw [(List.mem_replicate.1 hv).2]; omega
  have asi : Asc inn := fun v hv => by have := hinn v hv; omega
  refine laid_call (enc := enc) (s := ⟨some (at0 b32), 5, 5⟩) (t := 26) (ss := [s29, s30, sw, s31, s29]) (ps := [H, List.replicate d o, inn, List.replicate d c, H]) (SlIn.of_box n8 (n := 5) (sz := 1) rfl) rfl (fun i x l hx hl => ?_) (fun l hl => ?_) (by
      rw [hflat]; omega) (by show 5 < 2 ^ 40; omega) fun p e O M na s' w10 hB hat e10 => ?_
  · match i, hx, hl with
    | 0, hx, hl => cases hx; cases hl; exact ⟨_, (o29.ext x58).in⟩
    | 1, hx, hl => cases hx; cases hl; exact ⟨_, (o30.ext (e7.trans e8)).in⟩
    | 2, hx, hl => cases hx; cases hl; exact ⟨_, (ow.ext x48).in⟩
    | 3, hx, hl => cases hx; cases hl; exact ⟨_, (o31.ext e8).in⟩
    | 4, hx, hl => cases hx; cases hl; exact ⟨_, (o29.ext x58).in⟩
    | i + 5, hx, hl => simp at hx
  · simp only [List.mem_cons, List.not_mem_nil, or_false] at hl
    rcases hl with rfl | rfl | rfl | rfl | rfl
    · exact hHa
    · exact aso
    · exact asi
    · exact asc_
    · exact hHa
  rw [hflat] at hat
  have tx := hB.txt
  have x10 := x08.trans e10
  refine (St.start w10).newO fun b34 w11 S11 e11 => S11.aggSt 0 rfl rfl rfl rfl fun w12 S12 u12 => sif_false ?_
  have S12 : St (fun _ => False) w10 w12 [(b34, bothO p s')] := S12
  have ewl : IntKind.wrap .i64 ((sw.len : Int) - 1) = ((inn.length - 1 : Nat) : Int) := by rw [wrap64 (by omega) (by omega)]; omega
  rw [ewl]
  refine within_call (n := inn.length - 1) ip (by omega) ?_
  have hi := within_le at_ (inn.length - 1)
  generalize within at_ (inn.length - 1) = ix at *
  have eH : IntKind.wrap .i64 ((s29.len : Int) + (d : Int)) = ((H.length + d : Nat) : Int) := by rw [wrap64 (by omega) (by omega)]; omega
  have eP : IntKind.wrap .i64 (((H.length + d : Nat) : Int) + (ix : Int)) = ((H.length + (d + ix) : Nat) : Int) := by rw [wrap64 (by omega) (by omega)]; omega
  have eF : IntKind.wrap .i64 (((H.length + d : Nat) : Int) - (k : Int)) = ((H.length + d - k : Nat) : Int) := by rw [wrap64 (by omega) (by omega)]; omega
  have eN : IntKind.wrap .i64 (((H.length + d : Nat) : Int) + (sw.len : Int)) = ((H.length + d + inn.length : Nat) : Int) := by rw [wrap64 (by omega) (by omega)]; omega
  have eT : IntKind.wrap .i64 (((H.length + d + inn.length : Nat) : Int) + (k : Int)) = ((H.length + d + inn.length + k : Nat) : Int) := by rw [wrap64 (by omega) (by omega)]; omega
  have eF1 : IntKind.wrap .i64 (((H.length + d - k : Nat) : Int) + 1) = ((H.length + d - k + 1 : Nat) : Int) := by rw [wrap64 (by omega) (by omega)]; omega
  have eT1 : IntKind.wrap .i64 (((H.length + d + inn.length + k : Nat) : Int) - 1) = ((H.length + d + inn.length + k - 1 : Nat) : Int) := by rw [wrap64 (by omega) (by omega)]; omega
  have eD1 : IntKind.wrap .i64 ((d : Int) + 1) = ((d + 1 : Nat) : Int) := by rw [wrap64 (by omega) (by omega)]; omega
  rw [eH, eP, eF, eN, eT, eF1, eT1, eD1]
  obtain ⟨g1, g2⟩ := ok.blocks (k := k) (t := ix) (by omega) (by omega) (by omega)
  refine S12.ld 0 rfl (x := some (at0 p)) rfl ?_
  refine blocks_call (kind := 68) (count := (k : Int)) (arg := o) (tx.ext S12.upd) (by omega) fun w13 e13 => ?_
  rw [hat, g1]
  refine (S12.ext e13).newO fun b38 w14 S14 e14 => S14.aggSt 0 rfl rfl rfl rfl fun w15 S15 u15 => S15.lds 0 (spT (((H.length + d - k : Nat) : Int), ((H.length + d + inn.length + k : Nat) : Int), 0)) rfl ?_
  refine spans_eq rfl fun w16 e16 => sif_false ?_
  have S16 := S15.ext e16
  refine S16.ld 1 rfl (x := some (at0 p)) rfl ?_
  refine take_call (kind := 67) (count := (k : Int)) (arg := o) (tx.ext S16.upd) (by omega) fun w17 e17 => ?_
  have htk : takeP (textB H H o c d inn) ((H.length + (d + ix) : Nat) : Int) 67 (k : Int) o = ((((H.length + d - k + 1 : Nat) : Int), ((H.length + d + inn.length + k - 1 : Nat) : Int), 0), 0) := g2
  rw [hat, htk]
  refine (S16.ext e17).aggSt 0 rfl rfl rfl rfl fun w18 S18 u18 => S18.lds 0 (spT (((H.length + d - k + 1 : Nat) : Int), ((H.length + d + inn.length + k - 1 : Nat) : Int), 0)) rfl ?_
  refine spans_eq rfl fun w19 e19 => sif_false ?_
  have S19 := S18.ext e19
  have x19 := x10.trans S19.upd
  refine many_call (n := d) (v := o) (by omega) fun s45 w20 o45 e20 => ?_
  refine many_call (n := d) (v := c) (by omega) fun s46 w21 o46 e21 => ?_
  refine newO_r fun b47 w22 e22 n22 hb22 _ => ?_
  have ok2 : TbOk [] [] o c d inn := ⟨fun v hv => by simp at hv, fun v hv => by simp at hv, hf, by omega, hinn, hi0⟩
  have hll2 := textB_len [] [] o c d inn
  simp only [List.length_nil] at hll2
  have hflat2 : ([List.replicate d o, inn, List.replicate d c] : List (List Int)).flatten = textB [] [] o c d inn := by unfold textB; simp
  have x1022 := S19.upd.trans ((e20.trans e21).trans e22)
  refine laid_call (enc := enc) (s := ⟨some (at0 b47), 3, 3⟩) (t := 26) (ss := [s45, sw, s46]) (ps := [List.replicate d o, inn, List.replicate d c]) (SlIn.of_box n22 (n := 3) (sz := 1) rfl) rfl (fun i x l hx hl => ?_) (fun l hl => ?_) (by
      rw [hflat2]; omega) (by show 3 < 2 ^ 40; omega) fun p2 e2 O2 M2 na2 s2' w23 hB2 hat2 e23 => ?_
  · match i, hx, hl with
    | 0, hx, hl => cases hx; cases hl; exact ⟨_, (o45.ext (e21.trans e22)).in⟩
    | 1, hx, hl => cases hx; cases hl; exact ⟨_, (ow.ext ((x48.trans e10).trans x1022)).in⟩
    | 2, hx, hl => cases hx; cases hl; exact ⟨_, (o46.ext e22).in⟩
    | i + 3, hx, hl => simp at hx
  · simp only [List.mem_cons, List.not_mem_nil, or_false] at hl
    rcases hl with rfl | rfl | rfl
    · exact aso
    · exact asi
    · exact asc_
  rw [hflat2] at hat2
  have x23 := (x10.trans x1022).trans e23
  refine (St.start w23).newO fun b49 w24 S24 e24 => S24.aggSt 0 rfl rfl rfl rfl fun w25 S25 u25 => sif_false ?_
  have S25 : St (fun _ => False) w23 w25 [(b49, bothO p2 s2')] := S25
  refine S25.ld 0 rfl (x := some (at0 p2)) rfl ?_
  refine blocks_call (kind := 67) (count := ((d + 1 : Nat) : Int)) (arg := o) (hB2.txt.ext S25.upd) (by omega) fun w26 e26 => ?_
  rw [hat2, ok2.none_]
  exact hK w26 (x23.trans (S25.ext e26).upd)
end
end Go.Proofs.YtabcpghhfeplaaaGreat
set_option linter.unusedSimpArgs false
set_option linter.unusedVariables false
namespace Go.Proofs.YtabcpghhfeplaaaGreat
open Go Go.Vx Go.ChangeShapes Go.WideShapes Go.RowKit
set_option maxRecDepth 100000 in
theorem objectBlockMade_lifted (os : Os) (started : os.Started) (H : Type) (enc : TypeId × Value → H) :
    ReturnsInHanded {} Tryz.checked os 14 .any (Rows.objectBlockMadeSpec.pre6 enc Tryz.prog Tryz.f14 Rows.objectBlockMadeRow.domain false) (Rows.objectBlockMadeSpec.post enc Tryz.prog Tryz.f14 false true false false) := by
  refine returnsInHanded_of_change_sized (C := Tryz.checked) Tryz.own started (by kernel_rfl) Tryz.func14
    (ChangeSpec.witness6 (enc := enc) (C := Tryz.checked) false ⟨#[], #[.int .i64 0, .slice none 0 0, .slice none 0 0, .int .i64 0, .int .i64 0, .int .i64 0, .int .i64 0], []⟩ 8 (by kernel_rfl) (by kernel_rfl) (by kernel_rfl) (by kernel_rfl)) ?_
  intro W base args ds gs before hval0 hW _ hwt0 _
  have hval : ∀ (j : Nat) t v, Tryz.f14.params[j]? = some t → args[j]? = some v → Value.okWide Tryz.prog W .any base t v := hval0
  have hwt : (DataW.weightsEach Tryz.prog (Tryz.f14.params.toList ++ []) (ds ++ gs)).all (· ≤ reachBytes) = true := hwt0
  have hW' := hW
  obtain ⟨p, q, hA0, hV, rfl, hfz, hnd⟩ := hW
  have hA : DataW.TrodAll enc Tryz.prog W 0 (fun _ => true) true Tryz.f14.params.toList args.toList ds p := hA0
  clear hA0 hval0 hwt0
  rw [Tryz.params14] at hA hval hwt
  obtain ⟨rfl, rfl⟩ := trodVars_none hV
  obtain ⟨hn1, hn2, hT⟩ := trodAll_get hA
  obtain ⟨v0, v1, v2, v3, v4, v5, v6, hv⟩ := list_7 args.toList hn1
  obtain rfl : args = #[v0, v1, v2, v3, v4, v5, v6] := by cases args; simp_all
  obtain ⟨d0, d1, d2, d3, d4, d5, d6, rfl⟩ := list_7 ds hn2
  obtain ⟨p0, q0⟩ := hT 0 3 v0 d0 rfl rfl rfl
  obtain ⟨a0, rfl, i0⟩ := arg_int (hval 0 3 v0 rfl rfl) q0 (weigh hwt 0 rfl rfl)
  obtain ⟨p1, q1⟩ := hT 1 26 v1 d1 rfl rfl rfl
  obtain ⟨s1, l1, rfl, h1, n1, j1⟩ := arg_ints (hval 1 26 v1 rfl rfl) q1 (weigh hwt 1 rfl rfl)
  obtain ⟨p2, q2⟩ := hT 2 26 v2 d2 rfl rfl rfl
  obtain ⟨s2, l2, rfl, h2, n2, j2⟩ := arg_ints (hval 2 26 v2 rfl rfl) q2 (weigh hwt 2 rfl rfl)
  obtain ⟨p3, q3⟩ := hT 3 3 v3 d3 rfl rfl rfl
  obtain ⟨a3, rfl, i3⟩ := arg_int (hval 3 3 v3 rfl rfl) q3 (weigh hwt 3 rfl rfl)
  obtain ⟨p4, q4⟩ := hT 4 3 v4 d4 rfl rfl rfl
  obtain ⟨a4, rfl, i4⟩ := arg_int (hval 4 3 v4 rfl rfl) q4 (weigh hwt 4 rfl rfl)
  obtain ⟨p5, q5⟩ := hT 5 3 v5 d5 rfl rfl rfl
  obtain ⟨a5, rfl, i5⟩ := arg_int (hval 5 3 v5 rfl rfl) q5 (weigh hwt 5 rfl rfl)
  obtain ⟨p6, q6⟩ := hT 6 3 v6 d6 rfl rfl rfl
  obtain ⟨a6, rfl, i6⟩ := arg_int (hval 6 3 v6 rfl rfl) q6 (weigh hwt 6 rfl rfl)
  have walk := blockMade_walk (enc := a0) h1 (by omega) h2 (by omega) j2 i3 i4 i5 i6 (K := fun r w' => r = true ∧ Ext W w') fun w' e => ⟨rfl, e⟩
  refine walk.mono fun e W' ⟨x, he, hx, hext⟩ => ⟨.bool true, ?_, ?_⟩
  · subst hx; exact he
  · exact post_same hW' rfl rfl u4 rfl Tryz.laidOut (fun t ht => by
      rw [Tryz.params14] at ht
      have ht : t ∈ [3, 26, 26, 3, 3, 3, 3] := ht
      simp only [List.mem_cons, List.not_mem_nil, or_false] at ht
      rcases ht with rfl | rfl | rfl | rfl | rfl | rfl | rfl <;> exact recs (by simp)) hext
theorem objectBlockMade_holds : Rows.ObjectBlockMadeSaid :=
  OpenClaim.holds_of_wide 14 Tryz.f14 rfl rfl rfl rfl rfl rfl rfl ⟨rfl, rfl, rfl, rfl, rfl⟩ rfl rfl rfl rfl rfl (by kernel_rfl) Tryz.func14 (by kernel_rfl)
    (of_decide_eq_true (by kernel_rfl)) (by unfold Func.isWrapper; rw [if_neg (by decide +kernel)]; exact ⟨rfl, rfl⟩)
    (fun os started H enc _ => objectBlockMade_lifted os started H enc)
end Go.Proofs.YtabcpghhfeplaaaGreat
