/- The law holds for every input: it returns true, and each argument reads behind the call as it did. Conditions: those of the form alone. -/
import Derived.Test.YtabcpghhfeplaaaGreatQu6
set_option linter.unusedVariables false
set_option linter.unusedSimpArgs false
set_option linter.unusedSectionVars false
set_option linter.unusedSimpArgs false
set_option linter.unusedVariables false
set_option maxRecDepth 100000
namespace Go.Proofs.YtabcpghhfeplaaaGreat
open Go Go.Vx Cdc Trx
section
variable {w w' W W' : World} {S : Nat → Prop} {p : Nat} {e : Enc} {lim na : Nat} {O : Nat → Prop} {M : Parts} {tp : Option Addr} {a0 a : Sl}
abbrev edT (f t : Nat) (s : Sl) : Cells.T c83 := ((f : Int), (t : Int), s, ())
theorem Txt.lim_ (h : Txt w p e lim na O M) : w.cell? ⟨p, 1, none⟩ = some (.int .i64 (lim : Int)) := by
  obtain ⟨t, a, ab, h1, _⟩ := h.ex
  exact cell_of h1 rfl
theorem szs_prs_take (e : Enc) (l : List Int) {i : Nat} {v : Int} (hv : l[i]? = some v) : szs (prs e (l.take (i + 1))) = szs (prs e (l.take i)) + sz e v := by
  rw [List.take_add_one, hv]
  simp [prs, szs_append, szs_cons, szs_nil]
theorem szs_prs_le (e : Enc) (l : List Int) (i : Nat) : szs (prs e (l.take i)) ≤ szs (prs e l) := by
  have : prs e l = prs e (l.take i) ++ prs e (l.drop i) := by unfold prs; rw [← List.map_append, List.take_append_drop]
  rw [this, szs_append]; omega
theorem refuse_call {f t : Nat} {s sp : Sl} {ty ty' : TypeId} {put : List Int} (h : Txt w p e lim na O M) (hft : f ≤ t) (hto : t ≤ (aOf e M).length) (hs : SlIn w s ty 3 (flat c83 [edT f t sp])) (hp : SlIn w sp ty' 1 (iv put)) (hfit : Fit e put) (hput : put.length < 2 ^ 40) (hb : (bts e put).length < 2 ^ 40)
    (hroom : szs ((aOf e M).take f ++ prs e put ++ (aOf e M).drop t) ≤ lim) {K : Int → World → Prop} (hK : ∀ w', Ext w w' → K 0 w') :
    callT Tryz.prog 77 #[.pointer (some (at0 p)), .slice s.a s.len s.cap] (.one (.one (.int .i64))) K w := by
  refine F77_calls ?_
  unfold F77
  have few := h.few; have lims := h.lims; have hsz := h.sz
  have hl1 : 1 = s.len := by have := SlIn.lenR (cs := c83) (xs := [edT f t sp]) hs (by decide); simpa using this
  have hpl : put.length = sp.len := by have := hp.len1; rwa [List.length_map] at this
  have ht13 : szs (aOf e M) = szs ((aOf e M).take t) + szs ((aOf e M).drop t) := by conv => lhs; rw [← List.take_append_drop t (aOf e M)]; rw [szs_append]
  have htf : szs ((aOf e M).take f) ≤ szs ((aOf e M).take t) := by
    have h2 : (aOf e M).take t = (aOf e M).take f ++ ((aOf e M).take t).drop f := by
      conv => lhs; rw [← List.take_append_drop f ((aOf e M).take t)]
      rw [List.take_take, Nat.min_eq_left hft]
    rw [h2, szs_append]; omega
  rw [szs_append, szs_append] at hroom
  have hbl := bts_len hfit
  refine sif_r (fun hc => ?_) (fun _ => ?_)
  · simp only [decide_eq_true_eq, gt_iff_lt] at hc; omega
  have rdE : ∀ {V : World} {K : Addr → Cells.T c83 → World → Prop}, Ext w V → (∀ q, K q (edT f t sp) V) → ix s.a s.len ((0 : Nat) : Int) (fun q => lds c83 (q.add (scaled (Int.toNat ((0 : Nat) : Int)) 3)) (K q)) V := fun x hk => ix_lds (cs := c83) (xs := [edT f t sp]) (hs.ext x) (by decide) (by decide) rfl hk
  have ew1 : IntKind.wrap .i64 (((0 : Nat) : Int) + 1) = ((1 : Nat) : Int) := by decide
  refine len_call h fun w1 e1 => ?_
  refine join_r (fun _ W => Ext w W) ?_ ?_
  · refine sloop_r (fun x W => ((x = (0, ((0 : Nat) : Int), ())) ∨ x.2.1 = ((1 : Nat) : Int)) ∧ Ext w W) (fun x _ => (1 - x.2.1).toNat) ⟨.inl rfl, e1⟩ ?_
    rintro x W ⟨rfl | hx, eW⟩
    · refine sif_r (fun _ => ?_) (fun hc => ?_)
      · refine rdE eW fun q => (St.start W).newO fun b8 w2 S2 e2 => S2.aggSt 0 rfl rfl rfl rfl fun w3 S3 u3 => ?_
        refine join_r (fun x W' => x = (false, ()) ∧ w3 = W') ?_ ?_
        · refine S3.ld 0 rfl (x := (f : Int)) rfl (sif_r (fun hc => ?_) (fun _ => S3.ld 0 rfl (x := (t : Int)) rfl (S3.ld 0 rfl (x := (f : Int)) rfl (sif_r (fun hc => ?_) (fun _ => S3.ld 0 rfl (x := (t : Int)) rfl ⟨tupb ?_, rfl⟩)))))
          · simp only [decide_eq_true_eq] at hc; omega
          · simp only [decide_eq_true_eq] at hc; omega
          · simp only [decide_eq_true_eq, gt_iff_lt, Bool.false_eq_true, iff_false]; omega
        rintro _ _ ⟨rfl, rfl⟩
        refine sif_false (S3.ld 0 rfl (x := (t : Int)) rfl ⟨⟨.inr ?_, eW.trans S3.upd⟩, ?_⟩)
        · exact ew1
        · show (1 - IntKind.wrap .i64 (((0 : Nat) : Int) + 1)).toNat < (1 - ((0 : Nat) : Int)).toNat
          rw [ew1]; decide
      · exact eW
    · refine sif_r (fun hc => ?_) (fun _ => eW)
      simp only [decide_eq_true_eq] at hc; omega
  rintro _ w2 e2
  refine sizeB_call (h.ext e2) fun w3 e3 => ?_
  have x3 := e2.trans e3
  obtain ⟨B0, hB0⟩ : ∃ B0, B0 = szs (aOf e M) := ⟨_, rfl⟩
  rw [← hB0]
  refine join_r (fun x W => x = (((B0 + (bts e put).length : Nat) : Int), ()) ∧ Ext w W) ?_ ?_
  · refine sloop_r (fun x W => ((x = ((B0 : Int), ((0 : Nat) : Int), ())) ∨ x = (((B0 + (bts e put).length : Nat) : Int), ((1 : Nat) : Int), ())) ∧ Ext w W) (fun x _ => (1 - x.2.1).toNat) ⟨.inl rfl, x3⟩ ?_
    rintro _ W ⟨rfl | rfl, eW⟩
    · refine sif_r (fun _ => ?_) (fun hc => ?_)
      · refine join_r (fun x W => x = (((B0 + (bts e put).length : Nat) : Int), ()) ∧ Ext w W) ?_ ?_
        · refine rdE eW fun q => (St.start W).newO fun b8 w4 S4 e4 => S4.aggSt 0 rfl rfl rfl rfl fun w5 S5 u5 => S5.ld 0 rfl (x := sp) rfl ?_
          refine sloop_r (fun x V => (∃ i : Nat, i ≤ put.length ∧ x = (((B0 + szs (prs e (put.take i)) : Nat) : Int), (i : Int), ())) ∧ Ext w V) (fun x _ => ((put.length : Int) - x.2.1).toNat) ⟨⟨0, Nat.zero_le _, by simp [prs, szs_nil]⟩, eW.trans S5.upd⟩ ?_
          rintro _ V ⟨⟨i, hi, rfl⟩, eV⟩
          refine sif_r (fun hc => ?_) (fun hc => ?_)
          · simp only [decide_eq_true_eq] at hc
            obtain ⟨v, hv⟩ : ∃ v, put[i]? = some v := ⟨_, List.getElem?_eq_getElem (by omega)⟩
            have hf := hfit v (List.mem_of_getElem? hv)
            dsimp only
            refine ix_ld (c := .int .i64) (xs := put) (hp.ext eV) (by omega) (x := v) (by rw [Int.toNat_natCast]; exact hv) fun q2 => (h.ext eV).enc (size_call fun w6 e6 => ?_)
            refine sif_r (fun hc => ?_) (fun _ => ?_)
            · simp only [beq_iff_eq] at hc; have := hf.2; omega
            have hstep := szs_prs_take e put hv
            have hle := szs_prs_le e put (i + 1)
            have ewi : IntKind.wrap .i64 ((i : Int) + 1) = ((i + 1 : Nat) : Int) := by rw [wrap64 (by omega) (by omega)]; omega
            have ewb : IntKind.wrap .i64 (((B0 + szs (prs e (put.take i)) : Nat) : Int) + ((sz e v : Nat) : Int)) = ((B0 + szs (prs e (put.take (i + 1))) : Nat) : Int) := by rw [wrap64 (by omega) (by omega)]; omega
            rw [ewi, ewb]
            exact ⟨⟨⟨i + 1, by omega, rfl⟩, eV.trans e6⟩, by omega⟩
          · simp only [decide_eq_false_iff_not] at hc
            have : i = put.length := by omega
            subst this
            rw [List.take_length, ← hbl]
            exact ⟨rfl, eV⟩
        rintro _ V ⟨rfl, eV⟩
        refine ⟨⟨.inr ?_, eV⟩, ?_⟩
        · rw [ew1]
        · show (1 - IntKind.wrap .i64 (((0 : Nat) : Int) + 1)).toNat < (1 - ((0 : Nat) : Int)).toNat
          rw [ew1]; decide
      · simp only [decide_eq_false_iff_not] at hc; omega
    · refine sif_r (fun hc => ?_) (fun _ => ⟨rfl, eW⟩)
      simp only [decide_eq_true_eq] at hc; omega
  rintro _ w4 ⟨rfl, e4⟩
  obtain ⟨T, hT⟩ : ∃ T, T = szs ((aOf e M).take f) + (bts e put).length + szs ((aOf e M).drop t) := ⟨_, rfl⟩
  refine join_r (fun x W => x = ((T : Int), ()) ∧ Ext w W) ?_ ?_
  · refine sloop_r (fun x W => ((x = (((B0 + (bts e put).length : Nat) : Int), ((0 : Nat) : Int), ())) ∨ x = ((T : Int), ((1 : Nat) : Int), ())) ∧ Ext w W) (fun x _ => (1 - x.2.1).toNat) ⟨.inl rfl, e4⟩ ?_
    rintro _ W ⟨rfl | rfl, eW⟩
    · refine sif_r (fun _ => ?_) (fun hc => ?_)
      · refine join_r (fun x W => x = ((T : Int), ()) ∧ Ext w W) ?_ ?_
        · refine rdE eW fun q => (St.start W).newO fun b8 w5 S5 e5 => S5.aggSt 0 rfl rfl rfl rfl fun w6 S6 u6 => S6.ld 0 rfl (x := (t : Int)) rfl (S6.ld 0 rfl (x := (f : Int)) rfl ?_)
          refine sif_r (fun hc => ?_) (fun hc => ?_)
          · refine S6.drew fun w7 S7 e7 _ => S7.ld 0 rfl (x := (t : Int)) rfl (S7.ld 0 rfl (x := (f : Int)) rfl ?_)
            refine ahead_call (h.ext (eW.trans S7.upd)) hto fun w8 e8 => ?_
            have S8 := S7.ext e8
            refine S8.keep 0 rfl (v := .int .i64 (f : Int)) rfl (ahead_call (h.ext (eW.trans S8.upd)) (by omega) fun w9 e9 => ?_)
            have q1 : (smT (msr ((aOf e M).take t))).2.1 = ((szs ((aOf e M).take t) : Nat) : Int) := by show (((msr _).bytes : Nat) : Int) = _; rw [msr_bytes ((aOf_posd e M).take t)]
            have q2 : (smT (msr ((aOf e M).take f))).2.1 = ((szs ((aOf e M).take f) : Nat) : Int) := by show (((msr _).bytes : Nat) : Int) = _; rw [msr_bytes ((aOf_posd e M).take f)]
            rw [q1, q2]
            refine ⟨?_, eW.trans (S8.ext e9).upd⟩
            dsimp only
            rw [wrap64 (a := ((szs ((aOf e M).take t) : Nat) : Int) - ((szs ((aOf e M).take f) : Nat) : Int)) (by omega) (by omega), wrap64 (by omega) (by omega)]
            congr 1; omega
          · simp only [decide_eq_false_iff_not, gt_iff_lt] at hc
            have : f = t := by omega
            subst this
            refine ⟨?_, eW.trans S6.upd⟩
            dsimp only
            congr 1; omega
        rintro _ V ⟨rfl, eV⟩
        refine ⟨⟨.inr ?_, eV⟩, ?_⟩
        · rw [ew1]
        · show (1 - IntKind.wrap .i64 (((0 : Nat) : Int) + 1)).toNat < (1 - ((0 : Nat) : Int)).toNat
          rw [ew1]; decide
      · simp only [decide_eq_false_iff_not] at hc; omega
    · refine sif_r (fun hc => ?_) (fun _ => ⟨rfl, eW⟩)
      simp only [decide_eq_true_eq] at hc; omega
  rintro _ w5 ⟨rfl, e5⟩
  simp only [nn_eqT, addr_add]
  refine ld_of (x := (lim : Int)) (h.ext e5).lim_ (sif_r (fun hc => ?_) (fun _ => hK w5 e5))
  simp only [decide_eq_true_eq, gt_iff_lt] at hc; omega
theorem change_call {f t : Nat} {s sp : Sl} {ty ty' : TypeId} {put : List Int} (h : Txt w p e lim na O M) (hft : f ≤ t) (hto : t ≤ (aOf e M).length) (hs : SlIn w s ty 3 (flat c83 [edT f t sp])) (hsep : ∀ k, s.blk k → ¬ O k) (hp : SlIn w sp ty' 1 (iv put)) (hsp : ∀ k, sp.blk k → ¬ O k) (hfit : Fit e put) (hput : put.length < 2 ^ 40) (hna : na + (bts e put).length < 2 ^ 40)
    (hroom : szs ((aOf e M).take f ++ prs e put ++ (aOf e M).drop t) ≤ lim) {K : Int → World → Prop}
    (hK : ∀ O' M' w', Txt w' p e lim (na + (bts e put).length) O' M' → aOf e M' = (aOf e M).take f ++ prs e put ++ (aOf e M).drop t → Upd O w w' → (∀ k, O k → O' k) → (∀ k, O' k → O k ∨ w.heap.size ≤ k) → K 0 w') :
    callT Tryz.prog 50 #[.pointer (some (at0 p)), .slice s.a s.len s.cap] (.one (.one (.int .i64))) K w := by
  refine F50_calls ?_
  unfold F50
  have hl1 : 1 = s.len := by have := SlIn.lenR (cs := c83) (xs := [edT f t sp]) hs (by decide); simpa using this
  have hpl : put.length = sp.len := by have := hp.len1; rwa [List.length_map] at this
  refine refuse_call h hft hto hs hp hfit hput (by omega) hroom fun w1 e1 => sif_false ?_
  have ew0 : IntKind.wrap .i64 (((s.len : Nat) : Int) - 1) = 0 := by rw [← hl1]; decide
  rw [ew0]
  refine join_r (fun _ W => ∃ O' M', Txt W p e lim (na + (bts e put).length) O' M' ∧ aOf e M' = (aOf e M).take f ++ prs e put ++ (aOf e M).drop t ∧ Upd O w W ∧ (∀ k, O k → O' k) ∧ (∀ k, O' k → O k ∨ w.heap.size ≤ k)) ?_ (fun _ W ⟨O', M', g1, g2, g3, g4, g5⟩ => hK O' M' W g1 g2 g3 g4 g5)
  refine sloop_r (fun x W => (x = (((0 : Nat) : Int), ()) ∧ Ext w W) ∨ (x = (-1, ()) ∧ ∃ O' M', Txt W p e lim (na + (bts e put).length) O' M' ∧ aOf e M' = (aOf e M).take f ++ prs e put ++ (aOf e M).drop t ∧ Upd O w W ∧ (∀ k, O k → O' k) ∧ (∀ k, O' k → O k ∨ w.heap.size ≤ k))) (fun x _ => (x.1 + 1).toNat) (.inl ⟨rfl, e1⟩) ?_
  rintro _ W (⟨rfl, eW⟩ | ⟨rfl, hR⟩)
  · refine sif_r (fun _ => ?_) (fun hc => ?_)
    · refine join_r (fun _ W => ∃ O' M', Txt W p e lim (na + (bts e put).length) O' M' ∧ aOf e M' = (aOf e M).take f ++ prs e put ++ (aOf e M).drop t ∧ Upd O w W ∧ (∀ k, O k → O' k) ∧ (∀ k, O' k → O k ∨ w.heap.size ≤ k)) ?_ ?_
      · refine ix_lds (cs := c83) (xs := [edT f t sp]) (hs.ext eW) (by decide) (by decide) (x := edT f t sp) rfl fun q => (St.start W).newO fun b8 w2 S2 e2 => S2.aggSt 0 rfl rfl rfl rfl fun w3 S3 u3 => ?_
        refine join_r (fun x W' => x = (decide (f < t ∨ 0 < put.length), ()) ∧ w3 = W') ?_ ?_
        · refine S3.ld 0 rfl (x := (f : Int)) rfl (S3.ld 0 rfl (x := (t : Int)) rfl (sif_r (fun hc => ⟨tupb ?_, rfl⟩) (fun hc => S3.ld 0 rfl (x := sp) rfl ⟨tupb ?_, rfl⟩)))
          all_goals simp only [decide_eq_true_eq, decide_eq_false_iff_not, true_iff, gt_iff_lt] at *
          all_goals omega
        rintro _ _ ⟨rfl, rfl⟩
        have x3 := eW.trans S3.upd
        refine sif_r (fun hc => ?_) (fun hc => ?_)
        · refine S3.ld 0 rfl (x := (f : Int)) rfl (S3.ld 0 rfl (x := (t : Int)) rfl (S3.ld 0 rfl (x := sp) rfl ?_))
          refine treplace_call (h.ext x3) hft hto (hp.ext x3) hsp hfit hna hput hroom fun O' M' w4 tx4 ea u4 o1 o2 => ?_
          exact ⟨O', M', tx4, ea, (Upd.of_ext x3).trans u4, o1, fun k hk => (o2 k hk).imp id fun h => by have := x3.size; omega⟩
        · simp only [decide_eq_false_iff_not, not_or] at hc
          obtain rfl : f = t := by omega
          obtain rfl : put = [] := List.length_eq_zero_iff.1 (by omega)
          exact ⟨O, M, h.ext x3, by simp [prs], Upd.of_ext x3, fun k hk => hk, fun k hk => .inl hk⟩
      · rintro _ W' hR
        exact ⟨.inr ⟨rfl, hR⟩, by show (IntKind.wrap .i64 (((0 : Nat) : Int) - 1) + 1).toNat < (((0 : Nat) : Int) + 1).toNat; decide⟩
    · simp only [decide_eq_false_iff_not] at hc; omega
  · exact sif_false hR
end
end Go.Proofs.YtabcpghhfeplaaaGreat
set_option linter.unusedSimpArgs false
set_option linter.unusedVariables false
set_option maxRecDepth 100000
namespace Go.Proofs.YtabcpghhfeplaaaGreat
open Go Go.Vx Cdc Trx Gly Clu Lns Obx
section
variable {w w' : World} {S : Nat → Prop} {p : Nat} {e : Enc} {lim na : Nat} {O : Nat → Prop} {M : Parts}
def Asc (l : List Int) : Prop := ∀ v ∈ l, 0 ≤ v ∧ v < 128
theorem Asc.app {l m : List Int} (h : Asc l) (h' : Asc m) : Asc (l ++ m) := fun v hv => (List.mem_append.1 hv).elim (h v) (h' v)
theorem Asc.fit {l : List Int} (h : Asc l) (e : Enc) : Fit e l := by
  intro v hv
  obtain ⟨h1, h2⟩ := h v hv
  refine ⟨.inl ⟨h1, by omega⟩, ?_⟩
  cases e with
  | u8 => show sz8 v ≠ 0; unfold sz8; split <;> (try split) <;> (try split) <;> (try split) <;> (try split) <;> omega
  | le => show sz16 v ≠ 0; unfold sz16; split <;> (try split) <;> (try split) <;> (try split) <;> (try split) <;> omega
  | be => show sz16 v ≠ 0; unfold sz16; split <;> (try split) <;> (try split) <;> (try split) <;> (try split) <;> omega
  | l1 => show sz1 v ≠ 0; unfold sz1; split <;> (try split) <;> (try split) <;> (try split) <;> (try split) <;> omega
theorem Asc.sz {v : Int} (h : 0 ≤ v ∧ v < 128) (e : Enc) : sz e v ≤ 4 := by
  cases e with
  | u8 => show sz8 v ≤ 4; unfold sz8; split <;> (try split) <;> (try split) <;> (try split) <;> (try split) <;> omega
  | le => show sz16 v ≤ 4; unfold sz16; split <;> (try split) <;> (try split) <;> (try split) <;> (try split) <;> omega
  | be => show sz16 v ≤ 4; unfold sz16; split <;> (try split) <;> (try split) <;> (try split) <;> (try split) <;> omega
  | l1 => show sz1 v ≤ 4; unfold sz1; split <;> (try split) <;> (try split) <;> (try split) <;> (try split) <;> omega
theorem Asc.szs {e : Enc} : ∀ {l : List Int}, Asc l → szs (prs e l) ≤ 4 * l.length
  | [], _ => Nat.le_refl _
  | a :: l, h => by
    have h1 := Asc.sz (h a List.mem_cons_self) e
    have h2 := Asc.szs (e := e) (l := l) fun x hx => h x (List.mem_cons_of_mem _ hx)
    show Cdc.szs ((a, Cdc.sz e a) :: prs e l) ≤ _
    rw [szs_cons, List.length_cons]
    show Cdc.sz e a + _ ≤ _
    omega
theorem push {r : Sl} {l : List Int} {v : Int} {b N : Nat} {K : Sl → World → Prop} (hr : SlOwn w N r 3 1 (iv l)) (hb : w.heap[b]? = some (.cells #[.int .i64 v] 3 (0, 0))) (hl : l.length < 2 ^ 40) (hN : N ≤ w.heap.size)
    (hK : ∀ r' w', SlOwn w' N r' 3 1 (iv (l ++ [v])) → Upd r.blk w w' → K r' w') :
    rawT Tryz.prog (.one (.one .sl)) (Builtin.append_ #[26, 26] 26 #[.slice r.a r.len r.cap, .slice (some (at0 b)) 1 1]) K w := by
  have hrl := hr.len1
  rw [List.length_map] at hrl
  refine append_rx eInts eInts.ts_ (x := ⟨some (at0 b), 1, 1⟩) hr (iv_box hb) (fun v hv => by rw [List.mem_singleton.1 hv]; rfl) (by
    show (r.len + 1 + (r.len + 1) / 4 + 512) * 8 ≤ 2 ^ 48
    omega) hN fun r' w' o l' u k => hK r' w' ?_ u
  have : iv (l ++ [v]) = iv l ++ [.int .i64 v] := by simp
  rw [this]; exact o
theorem many_call {n : Nat} {v : Int} (hn : n < 2 ^ 40) {K : Sl → World → Prop} (hK : ∀ s' w', SlOwn w' w.heap.size s' 3 1 (iv (List.replicate n v)) → Ext w w' → K s' w') :
    callT Tryz.prog 28 #[.int .i64 (n : Int), .int .i64 v] (.one (.one .sl)) K w := by
  refine F28_calls ?_
  unfold F28
  refine join_r (fun x W => SlOwn W w.heap.size x.1 3 1 (iv (List.replicate n v)) ∧ Ext w W) ?_ (fun x W h => hK _ _ h.1 h.2)
  refine sloop_r (fun x W => ∃ i : Nat, i ≤ n ∧ x.2 = ((i : Int), ()) ∧ SlOwn W w.heap.size x.1 3 1 (iv (List.replicate i v)) ∧ Ext w W) (fun x _ => ((n : Int) - x.2.1).toNat) ⟨0, Nat.zero_le _, rfl, SlOwn.nil _ _ _ _, Ext.refl w⟩ ?_
  rintro ⟨r, _⟩ W ⟨i, hi, rfl, hr, eW⟩
  dsimp only at hr ⊢
  refine sif_r (fun hc => ?_) (fun hc => ?_)
  · simp only [decide_eq_true_eq] at hc
    have ew : IntKind.wrap .i64 ((i : Int) + 1) = ((i + 1 : Nat) : Int) := by rw [wrap64 (by omega) (by omega)]; omega
    rw [ew]
    refine newO_r fun b7 w4 e4 n4 hb4 _ => push (hr.ext e4) n4 (by rw [List.length_replicate]; omega) (by have := eW.size; have := e4.size; omega) fun r' w5 o5 u5 => ?_
    rw [← List.replicate_succ'] at o5
    exact ⟨⟨i + 1, by omega, rfl, o5, (eW.trans e4).step u5 fun k hk => hr.blk_ge hk⟩, by omega⟩
  · simp only [decide_eq_false_iff_not] at hc
    have : i = n := by omega
    subst this
    exact ⟨hr, eW⟩
theorem joined_call {A B : List Int} {s s' : Sl} {t t' : TypeId} (hs : SlIn w s t 1 (iv A)) (hs' : SlIn w s' t' 1 (iv B)) (hA : A.length < 2 ^ 39) (hB : B.length < 2 ^ 39) {K : Sl → World → Prop} (hK : ∀ r w', SlOwn w' w.heap.size r 3 1 (iv (A ++ B)) → Ext w w' → K r w') :
    callT Tryz.prog 32 #[.slice s.a s.len s.cap, .slice s'.a s'.len s'.cap] (.one (.one .sl)) K w := by
  refine F32_calls ?_
  unfold F32
  have hlen : B.length = s'.len := by have := hs'.len1; rwa [List.length_map] at this
  refine copied_call hs (by omega) fun r1 w1 o1 e1 => ?_
  refine join_r (fun x W => SlOwn W w.heap.size x.1 3 1 (iv (A ++ B)) ∧ Ext w W) ?_ (fun x W h => hK _ _ h.1 h.2)
  refine sloop_r (fun x W => ∃ i : Nat, i ≤ B.length ∧ x.2 = ((i : Int), ()) ∧ SlOwn W w.heap.size x.1 3 1 (iv (A ++ B.take i)) ∧ Ext w W) (fun x _ => ((B.length : Int) - x.2.1).toNat) ⟨0, Nat.zero_le _, rfl, by rw [List.take_zero, List.append_nil]; exact o1, e1⟩ ?_
  rintro ⟨r, _⟩ W ⟨i, hi, rfl, hr, eW⟩
  dsimp only at hr ⊢
  refine sif_r (fun hc => ?_) (fun hc => ?_)
  · simp only [decide_eq_true_eq] at hc
    obtain ⟨a, ha⟩ : ∃ a, B[i]? = some a := ⟨_, List.getElem?_eq_getElem (by omega)⟩
    have ew : IntKind.wrap .i64 ((i : Int) + 1) = ((i + 1 : Nat) : Int) := by rw [wrap64 (by omega) (by omega)]; omega
    rw [ew]
    refine ix_ld (c := .int .i64) (xs := B) (hs'.ext eW) (by omega) (x := a) (by rw [Int.toNat_natCast]; exact ha) fun q => newO_r fun b7 w4 e4 n4 hb4 _ => ?_
    refine push (hr.ext e4) n4 (by rw [List.length_append, List.length_take]; omega) (by have := eW.size; have := e4.size; omega) fun r' w5 o5 u5 => ?_
    rw [List.append_assoc, show B.take i ++ [a] = B.take (i + 1) by rw [List.take_add_one, ha]; rfl] at o5
    exact ⟨⟨i + 1, by omega, rfl, o5, (eW.trans e4).step u5 fun k hk => hr.blk_ge hk⟩, by omega⟩
  · simp only [decide_eq_false_iff_not] at hc
    rw [List.take_of_length_le (by omega)] at hr
    exact ⟨hr, eW⟩
def plain1 (x : Int) : Int := if x = 10 ∨ x = 13 then x else 32 + ((BitVec.ofInt 64 x &&& BitVec.ofInt 64 95).toNat : Int)
def plainL (l : List Int) : List Int := (l.take 16).map plain1
theorem plain1_asc (x : Int) : 0 ≤ plain1 x ∧ plain1 x < 128 := by
  unfold plain1
  split
  · omega
  · have : (BitVec.ofInt 64 x &&& BitVec.ofInt 64 95).toNat ≤ 95 := by
      rw [BitVec.toNat_and]
      exact Nat.le_trans Nat.and_le_right (by decide)
    omega
theorem plainL_asc (l : List Int) : Asc (plainL l) := by
  intro v hv
  obtain ⟨x, _, rfl⟩ := List.mem_map.1 hv
  exact plain1_asc x
theorem plainL_len (l : List Int) : (plainL l).length ≤ 16 := by unfold plainL; rw [List.length_map, List.length_take]; omega
theorem plain_call {s : Sl} {l : List Int} (hs : SlX w s 1 (iv l)) (hl : l.length < 2 ^ 60) {K : Sl → World → Prop} (hK : ∀ r w', SlOwn w' w.heap.size r 3 1 (iv (plainL l)) → Ext w w' → K r w') :
    callT Tryz.prog 26 #[.slice s.a s.len s.cap] (.one (.one .sl)) K w := by
  refine F26_calls ?_
  unfold F26
  have hlen : l.length = s.len := by have := hs.len1; rwa [List.length_map] at this
  refine join_r (fun x W => SlOwn W w.heap.size x.1 3 1 (iv (plainL l)) ∧ Ext w W) ?_ (fun x W h => hK _ _ h.1 h.2)
  refine sloop_r (fun x W => ∃ i : Nat, i ≤ l.length ∧ i ≤ 16 ∧ x.2 = ((i : Int), ()) ∧ SlOwn W w.heap.size x.1 3 1 (iv ((l.take i).map plain1)) ∧ Ext w W) (fun x _ => ((16 : Int) - x.2.1).toNat) ⟨0, Nat.zero_le _, Nat.zero_le _, rfl, SlOwn.nil _ _ _ _, Ext.refl w⟩ ?_
  rintro ⟨r, _⟩ W ⟨i, hi, hi2, rfl, hr, eW⟩
  dsimp only at hr ⊢
  refine join_r (fun x W' => x = (decide (i < l.length ∧ i < 16), ()) ∧ W = W') ?_ ?_
  · refine sif_r (fun h => ⟨tupb ?_, rfl⟩) (fun h => ⟨tupb ?_, rfl⟩)
    all_goals simp only [decide_eq_true_eq, decide_eq_false_iff_not, Bool.false_eq_true, false_iff] at *
    all_goals omega
  rintro _ _ ⟨rfl, rfl⟩
  refine sif_r (fun hc => ?_) (fun hc => ?_)
  · simp only [decide_eq_true_eq] at hc
    obtain ⟨a, ha⟩ : ∃ a, l[i]? = some a := ⟨_, List.getElem?_eq_getElem hc.1⟩
    have ew : IntKind.wrap .i64 ((i : Int) + 1) = ((i + 1 : Nat) : Int) := by rw [wrap64 (by omega) (by omega)]; omega
    rw [ew]
    refine ix_ldX (c := .int .i64) (xs := l) (hs.ext eW) (by omega) (x := a) (by rw [Int.toNat_natCast]; exact ha) fun q => ?_
    refine join_r (fun x W' => x = (plain1 a, ()) ∧ W = W') ?_ ?_
    · refine join_r (fun x W' => x = (decide (¬ (a = 10 ∨ a = 13)), ()) ∧ W = W') ?_ ?_
      · refine sif_r (fun h => ⟨tupb ?_, rfl⟩) (fun h => ⟨tupb ?_, rfl⟩)
        · simp only [bne_iff_ne, ne_eq, decide_eq_true_eq] at *; omega
        · simp only [bne_eq_false_iff_eq, Bool.false_eq_true, decide_eq_true_eq, false_iff] at *; omega
      rintro _ _ ⟨rfl, rfl⟩
      have hr95 : (BitVec.ofInt 64 a &&& BitVec.ofInt 64 95).toNat ≤ 95 := by
        rw [BitVec.toNat_and]
        exact Nat.le_trans Nat.and_le_right (by decide)
      refine sif_r (fun h => ⟨?_, rfl⟩) (fun h => ⟨?_, rfl⟩)
      · simp only [decide_eq_true_eq] at h
        unfold plain1
        rw [if_neg h]
        show (IntKind.wrap .i64 (32 + IntKind.wrap .i64 ((BitVec.ofInt 64 a &&& BitVec.ofInt 64 95).toNat : Int)), ()) = _
        rw [wrap64 (a := ((BitVec.ofInt 64 a &&& BitVec.ofInt 64 95).toNat : Int)) (by omega) (by omega), wrap64 (by omega) (by omega)]
      · simp only [decide_eq_false_iff_not, Decidable.not_not] at h
        unfold plain1
        rw [if_pos h]
    rintro _ _ ⟨rfl, rfl⟩
    refine newO_r fun b7 w4 e4 n4 hb4 _ => push (hr.ext e4) n4 (by rw [List.length_map, List.length_take]; omega) (by have := eW.size; have := e4.size; omega) fun r' w5 o5 u5 => ?_
    have e5 : (l.take i).map plain1 ++ [plain1 a] = (l.take (i + 1)).map plain1 := by rw [List.take_add_one, ha]; simp
    rw [e5] at o5
    exact ⟨⟨i + 1, by omega, by omega, rfl, o5, (eW.trans e4).step u5 fun k hk => hr.blk_ge hk⟩, by omega⟩
  · simp only [decide_eq_false_iff_not] at hc
    have : l.take i = l.take 16 := by
      by_cases h : i = 16
      · rw [h]
      · rw [List.take_of_length_le (by omega), List.take_of_length_le (by omega)]
    rw [this] at hr
    exact ⟨hr, eW⟩
structure Btn (w : World) (N p : Nat) (e : Enc) (na : Nat) (O : Nat → Prop) (M : Parts) (s : Sl) : Prop where
  txt : Txt w p e 65536 na O M
  lst : SlOwn w N s 3 1 (iv (atoms (aOf e M)))
  new : ∀ k, O k → N ≤ k
theorem eEdit {f t : Nat} {b : Nat} {s : Sl} (h : w.heap[b]? = some (.cells #[.int .i64 (f : Int), .int .i64 (t : Int), .slice s.a s.len s.cap] 83 (0, 0))) : SlIn w ⟨some (at0 b), 1, 1⟩ 83 3 (flat c83 [edT f t s]) := SlIn.of_box h (n := 1) (sz := 3) rfl
set_option maxHeartbeats 1000000 in
theorem laid_call {enc : Int} {s : Sl} {t : TypeId} {ss : List Sl} {ps : List (List Int)} (hs : SlIn w s t 1 (ss.map Cell.sl.val)) (hl : ss.length = ps.length) (hp : ∀ (i : Nat) x l, ss[i]? = some x → ps[i]? = some l → ∃ t, SlIn w x t 1 (iv l)) (ha : ∀ l ∈ ps, Asc l) (hsz : ps.flatten.length ≤ 10000) (hfew : ss.length < 2 ^ 40)
    {K : (Option Addr × Sl × Unit) × Bool × Unit → World → Prop} (hK : ∀ p e O M na s' w', Btn w' w.heap.size p e na O M s' → atoms (aOf e M) = ps.flatten → Ext w w' → K ((some (at0 p), s', ()), true, ()) w') :
    callT Tryz.prog 27 #[.int .i64 enc, .slice s.a s.len s.cap] (.tup [(.agg c28), (.one .bool)]) K w := by
  refine F27_calls ?_
  unfold F27
  have hslen : ss.length = s.len := by have := hs.len1; rwa [List.length_map] at this
  refine (St.start w).newO' fun b1 w1 S1 e1 hb1 => ?_
  refine opened_call (enc := enc) (s := ⟨none, 0, 0⟩) (l := []) (SlIn.nil w1 5 1).x (by decide) fun p e O M sa w2 hB e2 hM _ => ?_
  have hM0 : aOf e M = [] := by rw [hM (by decide), ats_nil]
  have hown := hB.txt.own
  have hnew := hB.new
  have hb1' := S1.lt _ List.mem_cons_self
  refine (St.start w2).newO' fun b3 w3 S3 e3 hb3 => S3.aggSt 0 rfl rfl rfl rfl fun w4 S4 u4 => sif_false ?_
  have S4 : St (fun _ => False) w2 w4 [(b3, bothO p sa)] := S4
  have fl : ∀ i, (ps.take i).flatten.length ≤ ps.flatten.length := fun i => by
    have : ps.flatten = (ps.take i).flatten ++ (ps.drop i).flatten := by rw [← List.flatten_append, List.take_append_drop]
    rw [this, List.length_append]; omega
  refine join_r (fun x W => SlOwn W w2.heap.size x.1 3 1 (iv ps.flatten) ∧ St (fun _ => False) w2 W [(b3, bothO p sa)]) ?_ ?_
  · refine sloop_r (fun x W => ∃ i : Nat, i ≤ ss.length ∧ x.2 = ((i : Int), ()) ∧ SlOwn W w2.heap.size x.1 3 1 (iv (ps.take i).flatten) ∧ St (fun _ => False) w2 W [(b3, bothO p sa)]) (fun x _ => ((ss.length : Int) - x.2.1).toNat) ⟨0, Nat.zero_le _, rfl, SlOwn.nil _ _ _ _, S4⟩ ?_
    rintro ⟨r, _⟩ W ⟨i, hi, rfl, hr, SW⟩
    dsimp only at hr ⊢
    refine sif_r (fun hc => ?_) (fun hc => ?_)
    · simp only [decide_eq_true_eq] at hc
      obtain ⟨x, hx⟩ : ∃ x, ss[i]? = some x := ⟨_, List.getElem?_eq_getElem (by omega)⟩
      obtain ⟨l, hli⟩ : ∃ l, ps[i]? = some l := ⟨_, List.getElem?_eq_getElem (by omega)⟩
      obtain ⟨tx, hxl⟩ := hp i x l hx hli
      have ew : IntKind.wrap .i64 ((i : Int) + 1) = ((i + 1 : Nat) : Int) := by rw [wrap64 (by omega) (by omega)]; omega
      rw [ew]
      have xW : Ext w W := (e1.trans e2).trans SW.upd
      have h1 := fl i
      have e5 : (ps.take i).flatten ++ l = (ps.take (i + 1)).flatten := by rw [List.take_add_one, hli]; simp
      have h2 := fl (i + 1)
      rw [← e5, List.length_append] at h2
      refine ix_ld (c := .sl) (xs := ss) (hs.ext xW) (by omega) (x := x) (by rw [Int.toNat_natCast]; exact hx) fun q => ?_
      refine joined_call hr.in (hxl.ext xW) (by omega) (by omega) fun r' W5 o5 e5' => ?_
      rw [e5] at o5
      exact ⟨⟨i + 1, by omega, rfl, o5.mono SW.upd.size, SW.ext e5'⟩, by omega⟩
    · simp only [decide_eq_false_iff_not] at hc
      rw [List.take_of_length_le (by omega)] at hr
      exact ⟨hr, SW⟩
  rintro ⟨r, _⟩ w5 ⟨hr, S5⟩
  dsimp only at hr ⊢
  have hasc : Asc ps.flatten := fun v hv => by
    obtain ⟨l, hl, hvl⟩ := List.mem_flatten.1 hv
    exact ha l hl v hvl
  have hszs := Asc.szs (e := e) hasc
  have hfit := hasc.fit e
  have hbl := bts_len hfit
  refine S5.drew fun w6 S6 e6 _ => S6.ld 0 rfl (x := some (at0 p)) rfl ?_
  refine copied_call (hr.in.ext e6) (by omega) fun r2 w7 o7 e7 => ?_
  have S7 := S6.ext e7
  refine S7.keep 0 rfl (v := .pointer (some (at0 p))) rfl (newO_r fun b15 w8 e8 n8 hb15 _ => ?_)
  have S8 := S7.ext e8
  refine S8.keep 0 rfl (v := .pointer (some (at0 p))) rfl ?_
  have z7 := S6.upd.size
  have z8 := S7.upd.size
  refine change_call (f := 0) (t := 0) (s := ⟨some (at0 b15), 1, 1⟩) (sp := r2) (put := ps.flatten) (hB.txt.ext S8.upd) (Nat.le_refl _) (Nat.zero_le _) (eEdit n8) (fun k hk hO => ?_) (o7.in.ext e8) (fun k hk hO => ?_) hfit (by omega) (by omega) (by rw [hM0]; simpa using (by omega : szs (prs e ps.flatten) ≤ 65536)) fun O' M' w9 tx9 ea u9 o1 o2 => ?_
  · obtain ⟨q, hq, rfl⟩ := hk
    cases hq
    have : b15 < w2.heap.size := hown _ hO
    omega
  · have := o7.blk_ge hk
    have := hown _ hO
    omega
  have SO : St O w2 w8 [(b3, bothO p sa)] := ⟨Upd.of_ext S8.upd, hown, S8.loc, S8.nd⟩
  have S9 := SO.step u9 fun k hk => hk
  have r9 : SlOwn w9 w2.heap.size r 3 1 (iv ps.flatten) := (((hr.ext e6).ext e7).ext e8).upd u9 fun k _ hk hO => by
    have := hr.blk_ge hk
    have := hown _ hO
    omega
  refine S9.stC 0 rfl (by show 1 < 2; decide) fun w10 S10 u10 => ?_
  have S10 : St O w2 w10 [(b3, bothO p r)] := S10
  have g3 : w9.heap[b3]? = some (bothO p sa) := S9.at_ 0 rfl
  have hb3l : b3 < w8.heap.size := S8.lt _ List.mem_cons_self
  have nO3 : ¬ O' b3 := fun h => (o2 b3 h).elim (fun h => by have := hown _ h; omega) fun h => by omega
  have tx10 := tx9.upd u10 (fun k hk he => nO3 (he ▸ hk)) (NoTy.box g3 (by decide))
  have r10 := r9.box g3 (by decide) u10
  refine S10.lds 0 (some (at0 p), r, ()) rfl ?_
  have v1 : St (fun _ => False) w w10 [(b1, .cells #[.pointer none, .slice none 0 0] 28 (0, 0))] := (S1.ext e2).fresh S10.upd (fun k hk => .inr (by have := hnew k hk; have := e1.size; omega)) (fun x hx hO => by
    rw [List.mem_singleton.1 hx] at hO
    have := hnew _ hO
    dsimp only at *
    omega)
  refine v1.aggSt 0 rfl rfl rfl rfl fun w11 v2 u11 => v2.lds 0 (some (at0 p), r, ()) rfl ?_
  have nO1 : ¬ O' b1 := fun h => (o2 b1 h).elim (fun h => by have := hnew _ h; dsimp only at *; omega) fun h => by have := S8.upd.size; have := e2.size; dsimp only at *; omega
  have g1 : w10.heap[b1]? = some (.cells #[.pointer none, .slice none 0 0] 28 (0, 0)) := v1.at_ 0 rfl
  have tx11 := tx10.upd u11 (fun k hk he => nO1 (he ▸ hk)) (NoTy.box g1 (by decide))
  have ea' : atoms (aOf e M') = ps.flatten := by
    rw [ea, hM0]
    simp [atoms_prs]
  have zz := e1.size
  have zz2 := e2.size
  refine hK p e O' M' _ r w11 ⟨tx11, ?_, fun k hk => ?_⟩ ea' v2.upd
  · rw [ea']; exact (r10.box g1 (by decide) u11).mono (by omega)
  · rcases o2 k hk with h | h
    · have := hnew k h; omega
    · omega
end
end Go.Proofs.YtabcpghhfeplaaaGreat
set_option linter.unusedSimpArgs false
set_option linter.unusedVariables false
set_option maxRecDepth 100000
namespace Go.Proofs.YtabcpghhfeplaaaGreat
open Cdc Gly Clu Lns Obx
namespace Obx
def cls7 (n : Nat) : Nat := if n = 13 then 1 else if n = 10 then 2 else if n < 32 ∨ n = 127 then 3 else 0
def wrd7 (n : Nat) : Nat := if (9 ≤ n ∧ n ≤ 13) ∨ n = 32 then 0 else if (48 ≤ n ∧ n ≤ 57) ∨ (65 ≤ n ∧ n ≤ 90) ∨ n = 95 ∨ (97 ≤ n ∧ n ≤ 122) then 2 else 1
theorem table7 : ((List.range 128).all fun n => cls (n : Int) == cls7 n && cnj (n : Int) == 0 && wrd (n : Int) == wrd7 n) = true := by kernel_rfl
theorem asc_of {v : Int} (h : 0 ≤ v ∧ v < 128) : cls v = cls7 v.toNat ∧ cnj v = 0 ∧ wrd v = wrd7 v.toNat := by
  have h1 := List.all_eq_true.1 table7 v.toNat (List.mem_range.2 (by omega))
  have e : ((v.toNat : Nat) : Int) = v := by omega
  rw [e] at h1
  simp only [Bool.and_eq_true, beq_iff_eq] at h1
  exact ⟨h1.1.1, h1.1.2, h1.2⟩
theorem cls7_le (n : Nat) : cls7 n ≤ 3 := by unfold cls7; split <;> (try split) <;> (try split) <;> omega
def Asc7 (l : List Int) : Prop := ∀ v ∈ l, 0 ≤ v ∧ v < 128
theorem joins7 {s : Sc} {a : Int} (ha : 0 ≤ a ∧ a < 128) (hs : s.last ≤ 3) : joins s (cls a) (cnj a) = decide (s.last = 1 ∧ a = 10) := by
  obtain ⟨h1, h2, _⟩ := asc_of ha
  have h3 := cls7_le a.toNat
  rw [h1, h2]
  have h10 : cls7 a.toNat = 2 ↔ a = 10 := by unfold cls7; split <;> (try split) <;> (try split) <;> omega
  unfold joins
  by_cases hc : s.last = 1 ∧ cls7 a.toNat = 2
  · rw [if_pos hc, decide_eq_true ⟨hc.1, h10.1 hc.2⟩]
  · rw [if_neg hc, decide_eq_false (fun h => hc ⟨h.1, h10.2 h.2⟩)]
    split
    · rfl
    · rename_i hap
      simp only [not_or, apart, decide_eq_true_eq] at hap
      have e0 : s.last = 0 := by omega
      have e1 : cls7 a.toNat = 0 := by omega
      rw [e0, e1]
      rfl
theorem last7 {A : List Int} (h : Asc7 A) : ∀ k, (sc (A.take k)).last ≤ 3
  | 0 => by simp [sc, Sc.zero]
  | k + 1 => by
    by_cases hk : k < A.length
    · rw [List.take_add_one, List.getElem?_eq_getElem hk]
      show (sc (A.take k ++ [A[k]])).last ≤ 3
      rw [sc_snoc, last_stp, (asc_of (h _ (List.getElem_mem hk))).1]
      exact cls7_le _
    · have := last7 h k
      rwa [List.take_of_length_le (by omega)] at this ⊢
theorem bk7 {A : List Int} (h : Asc7 A) {k : Nat} (hk : k ≤ A.length) : bk A k = !(decide (0 < k) && (A[k - 1]? == some 13) && (A[k]? == some 10)) := by
  cases k with
  | zero => rw [bk_zero]; rfl
  | succ k =>
    by_cases he : k + 1 = A.length
    · rw [he, bk_len, List.getElem?_eq_none (Nat.le_refl A.length)]
      simp
    · have ha : A[k + 1]? = some A[k + 1] := List.getElem?_eq_getElem (by omega)
      have hb : A[k]? = some A[k] := List.getElem?_eq_getElem (by omega)
      rw [bk_at ha (by omega), joins7 (h _ (List.getElem_mem _)) (last7 h _)]
      have hl : (sc (A.take (k + 1))).last = cls7 (A[k]).toNat := by
        rw [List.take_add_one, hb]
        show (sc (A.take k ++ [A[k]])).last = _
        rw [sc_snoc, last_stp, (asc_of (h _ (List.getElem_mem _))).1]
      have h13 : cls7 (A[k]).toNat = 1 ↔ A[k] = 13 := by
        have := h A[k] (List.getElem_mem _)
        unfold cls7; split <;> (try split) <;> (try split) <;> omega
      rw [hl, ha, Nat.add_sub_cancel, hb]
      rw [Bool.eq_iff_iff]
      simp [h13]
def NoCL (A : List Int) : Prop := ∀ k : Nat, A[k]? = some 13 → A[k + 1]? ≠ some 10
theorem bk7_all {A : List Int} (h : Asc7 A) (hn : NoCL A) {k : Nat} (hk : k ≤ A.length) : bk A k = true := by
  rw [bk7 h hk]
  cases k with
  | zero => rfl
  | succ k =>
    rw [Nat.add_sub_cancel]
    cases h1 : (A[k]? == some 13) with
    | false => simp
    | true =>
      have := hn k (by simpa using h1)
      simp [this]
theorem cuts7 {A : List Int} (h : Asc7 A) (hn : NoCL A) : cuts A = List.range (A.length + 1) := by
  unfold cuts cutsTo
  rw [List.filter_eq_self]
  intro k hk
  exact bk7_all h hn (by have := List.mem_range.1 hk; omega)
theorem cels7 {A : List Int} (h : Asc7 A) (hn : NoCL A) (off : Nat) {k : Nat} {a : Int} (ha : A[k]? = some a) : (cels A off)[k]? = some ⟨off + k, off + k + 1, wrd7 a.toNat, true, a⟩ := by
  have hk := (List.getElem?_eq_some_iff.1 ha).1
  have hlen : (cels A off).length = A.length := by rw [cels_len, cuts7 h hn, List.length_range, Nat.add_sub_cancel]
  obtain ⟨c, hc⟩ : ∃ c, (cels A off)[k]? = some c := ⟨_, List.getElem?_eq_getElem (by omega)⟩
  obtain ⟨i, j, h1, h2, h3, h4, h5, h6, _, _, h7, h8, h9⟩ := (cels_ok hc).ex
  rw [cuts7 h hn] at h1 h2
  rw [List.getElem?_range (by omega)] at h1
  rw [List.getElem?_range (by omega)] at h2
  cases h1; cases h2
  rw [ha] at h7
  cases h7
  obtain ⟨_, _, hw⟩ := asc_of (h _ (List.mem_of_getElem? ha))
  rw [hc]
  obtain ⟨cf, ct, ck, ca, cat⟩ := c
  dsimp only at *
  have : ca = true := h9.2 rfl
  subst h5 h6 this
  rw [h8, hw]
  rfl
theorem cels7_len {A : List Int} (h : Asc7 A) (hn : NoCL A) (off : Nat) : (cels A off).length = A.length := by rw [cels_len, cuts7 h hn, List.length_range, Nat.add_sub_cancel]
end Obx
end Go.Proofs.YtabcpghhfeplaaaGreat
set_option linter.unusedSimpArgs false
set_option linter.unusedVariables false
set_option maxRecDepth 100000
namespace Go.Proofs.YtabcpghhfeplaaaGreat
open Trx Gly Clu Lns Obx
namespace Obx
def NoBrk (L : List Int) : Prop := ∀ v ∈ L, v ≠ 10 ∧ v ≠ 13
theorem NoBrk.cl {L : List Int} (h : NoBrk L) : NoCL L := fun k hk => absurd rfl (h 13 (List.mem_of_getElem? hk)).2
theorem nb_stay {A : List Int} {m : Nat} (h : ∀ k a, m ≤ k → A[k]? = some a → a ≠ 10 ∧ a ≠ 13) : ∀ d, nb A (m + d) = nb A m
  | 0 => rfl
  | d + 1 => by
    rw [show m + (d + 1) = (m + d) + 1 by omega, nb_succ, nb_stay h d]
    have : isb A (m + d) = false := by
      cases hb : isb A (m + d) with
      | false => rfl
      | true =>
        have hlt := isb_lt hb
        have ha : A[m + d]? = some A[m + d] := List.getElem?_eq_getElem hlt
        have := h _ _ (by omega) ha
        rcases (isb_iff ha).1 hb with h1 | h1
        · exact absurd h1 this.1
        · exact absurd h1.1 this.2
    rw [this]; simp
theorem sk_brk {A : List Int} {i : Nat} (h : isb A i = true) : sk A (nb A i + 1) = some (i + 1) ∧ nb A (i + 1) = nb A i + 1 := by
  have hi := isb_lt h
  have hn : nb A (i + 1) = nb A i + 1 := by rw [nb_succ, h]; rfl
  have hle : nb A i + 1 ≤ brs A := by rw [← hn, brs_nb]; exact nb_mono A _ _ (by omega)
  obtain ⟨m, hm⟩ := sk_ok hle
  obtain ⟨_, _, h3, h4⟩ := sk_get hm
  rw [hm]
  have h1 : ¬ i + 1 < m := fun hc => by have := h4 _ hc; omega
  have h2 : ¬ m < i + 1 := fun hc => by have := nb_mono A m i (by omega); omega
  exact ⟨by congr 1; omega, hn⟩
theorem last_line {H L : List Int} (hL : NoBrk L) {p : Nat} (h1 : H.length + 1 ≤ p) (h2 : p ≤ H.length + 1 + L.length) : lineP (H ++ 10 :: L) (p : Int) = ⟨H.length + 1, H.length + 1 + L.length, H.length + 1 + L.length, 0⟩ := by
  obtain ⟨A, hA⟩ : ∃ A, A = H ++ 10 :: L := ⟨_, rfl⟩
  rw [← hA]
  have hlen : A.length = H.length + 1 + L.length := by rw [hA]; simp; omega
  have h10 : A[H.length]? = some 10 := by rw [hA, List.getElem?_append_right (Nat.le_refl _)]; simp
  have hrest : ∀ k a, H.length + 1 ≤ k → A[k]? = some a → a ≠ 10 ∧ a ≠ 13 := by
    intro k a hk ha
    rw [hA, List.getElem?_append_right (by omega)] at ha
    obtain ⟨d, hd⟩ : ∃ d, k - H.length = d + 1 := ⟨k - H.length - 1, by omega⟩
    rw [hd, List.getElem?_cons_succ] at ha
    exact hL a (List.mem_of_getElem? ha)
  obtain ⟨s1, s2⟩ := sk_brk ((isb_iff h10).2 (.inl rfl))
  have st := nb_stay hrest
  have e1 : nb A p = nb A (H.length + 1) := by
    have := st (p - (H.length + 1)); rwa [show H.length + 1 + (p - (H.length + 1)) = p by omega] at this
  have e2 : brs A = nb A (H.length + 1) := by
    rw [brs_nb]
    have := st (A.length - (H.length + 1)); rwa [show H.length + 1 + (A.length - (H.length + 1)) = A.length by omega] at this
  unfold lineP lnAt
  rw [Int.toNat_natCast, e1, s2, s1, sk_none A _ (by omega)]
  simp only [Option.getD_some]
  rw [hlen]
theorem last_cells {H L : List Int} : lineC (H ++ 10 :: L) ⟨H.length + 1, H.length + 1 + L.length, H.length + 1 + L.length, 0⟩ = cels L (H.length + 1) := by
  unfold lineC
  have : ((H ++ 10 :: L).drop (H.length + 1)).take (H.length + 1 + L.length - (H.length + 1)) = L := by
    rw [show H ++ 10 :: L = (H ++ [10]) ++ L by simp, show H.length + 1 = (H ++ [10]).length by simp, List.drop_left, Nat.add_sub_cancel_left, List.take_length]
  dsimp only
  rw [this]
theorem here7 {L : List Int} (h : Asc7 L) (hn : NoCL L) {off i : Nat} (hi : i < L.length) : hereI (cels L off) ((off + i : Nat) : Int) = i := by
  have hf : firstI (cels L off) ((off + i : Nat) : Int) = i := by
    refine firstI_eq (by rw [cels7_len h hn]; omega) (fun j c hj hc => ?_) (fun c hc => ?_)
    · rw [cels7 h hn off (List.getElem?_eq_getElem (show j < L.length by omega))] at hc
      cases hc; dsimp only; omega
    · rw [cels7 h hn off (List.getElem?_eq_getElem hi)] at hc
      cases hc; dsimp only; omega
  unfold hereI
  rw [hf, if_pos (by rw [cels7_len h hn]; omega)]
end Obx
end Go.Proofs.YtabcpghhfeplaaaGreat
set_option linter.unusedSimpArgs false
set_option linter.unusedVariables false
set_option maxRecDepth 100000
namespace Go.Proofs.YtabcpghhfeplaaaGreat
open Go Go.Vx Cdc Trx Gly Clu Lns Obx
section
variable {w w' : World} {S : Nat → Prop} {p : Nat} {e : Enc} {lim na : Nat} {O : Nat → Prop} {M : Parts}
theorem spans_eq {sp : Int × Int × Int} {f t k : Int} (h : sp = (f, t, k)) {K : Bool → World → Prop} (hK : ∀ w', Ext w w' → K true w') :
    callT Tryz.prog 30 #[.agg (Cells.vals c34 (spT sp)).toArray, .int .i64 0, .int .i64 f, .int .i64 t, .int .i64 k] (.one (.one .bool)) K w := by
  subst h
  exact spans_call (sp := (f, t, k)) hK
end
end Go.Proofs.YtabcpghhfeplaaaGreat
set_option linter.unusedSimpArgs false
set_option linter.unusedVariables false
set_option maxRecDepth 100000
namespace Go.Proofs.YtabcpghhfeplaaaGreat
open Trx Gly Clu Lns Obx
namespace Obx
def pairB (i : Nat) : List (Bool × Bool) → Nat → Option Nat → Nat → Option (Nat × Nat)
  | [], _, _, _ => none
  | c :: r, j, o, s => if (c.1 && s % 2 == 0) = false then pairB i r (j + 1) o (if c.2 then s + 1 else 0) else
    match o with
    | none => pairB i r (j + 1) (some j) (if c.2 then s + 1 else 0)
    | some k => if i ≤ j then some (k, j) else pairB i r (j + 1) none (if c.2 then s + 1 else 0)
theorem pairB_cons (i : Nat) (c : Bool × Bool) (r : List (Bool × Bool)) (j : Nat) (o : Option Nat) (s : Nat) : pairB i (c :: r) j o s = if (c.1 && s % 2 == 0) = false then pairB i r (j + 1) o (if c.2 then s + 1 else 0) else
    match o with
    | none => pairB i r (j + 1) (some j) (if c.2 then s + 1 else 0)
    | some k => if i ≤ j then some (k, j) else pairB i r (j + 1) none (if c.2 then s + 1 else 0) := by cases o <;> rfl
theorem pairL_B (q : Int) (i : Nat) : ∀ (C : List Cel) (j : Nat) (o : Option Nat) (s : Nat), pairL q i C j o s = pairB i (C.map fun c => (c.is q, c.is 92)) j o s
  | [], _, _, _ => rfl
  | c :: r, j, o, s => by
    cases o with
    | none => simp only [pairL, pairB, List.map_cons, pairL_B q i r]
    | some k => simp only [pairL, pairB, List.map_cons, pairL_B q i r]
def fl (q a : Int) : Bool × Bool := (a == q, a == 92)
theorem flags7 {L : List Int} (h : Asc7 L) (hn : NoCL L) (off : Nat) (q : Int) : (cels L off).map (fun c => (c.is q, c.is 92)) = L.map (fl q) := by
  apply List.ext_getElem?
  intro k
  rw [List.getElem?_map, List.getElem?_map]
  by_cases hk : k < L.length
  · rw [cels7 h hn off (List.getElem?_eq_getElem hk), List.getElem?_eq_getElem hk]
    simp [Cel.is, fl]
  · rw [List.getElem?_eq_none (by rw [cels7_len h hn]; omega), List.getElem?_eq_none (by omega)]; rfl
theorem pass_plain {i : Nat} {q : Int} (o : Option Nat) : ∀ (l : List Int) (r : List (Bool × Bool)) (j s : Nat), (∀ v ∈ l, v ≠ q ∧ v ≠ 92) → s % 2 = 0 → ∃ s', s' % 2 = 0 ∧ pairB i (l.map (fl q) ++ r) j o s = pairB i r (j + l.length) o s'
  | [], r, j, s, _, hs => ⟨s, hs, rfl⟩
  | v :: l, r, j, s, h, _ => by
    have hv := h v List.mem_cons_self
    obtain ⟨s', h1, h2⟩ := pass_plain o l r (j + 1) 0 (fun x hx => h x (List.mem_cons_of_mem _ hx)) rfl
    refine ⟨s', h1, ?_⟩
    have e1 : (fl q v) = (false, false) := by simp [fl, hv.1, hv.2]
    rw [List.map_cons, List.cons_append, pairB_cons, e1]
    simp only [Bool.false_and, if_true, Bool.false_eq_true, if_false]
    rw [h2, List.length_cons]
    congr 1; omega
def bod (q x : Int) : List Int := if x = q ∨ x = 92 then [92, x] else [x]
theorem pass_bod {i : Nat} {q : Int} (hq : q ≠ 92) (k : Nat) : ∀ (l : List Int) (r : List (Bool × Bool)) (j s : Nat), s % 2 = 0 → ∃ s', s' % 2 = 0 ∧ pairB i ((l.flatMap (bod q)).map (fl q) ++ r) j (some k) s = pairB i r (j + (l.flatMap (bod q)).length) (some k) s'
  | [], r, j, s, hs => ⟨s, hs, rfl⟩
  | x :: l, r, j, s, hs => by
    by_cases hx : x = q ∨ x = 92
    · have eb : bod q x = [92, x] := if_pos hx
      have e92 : fl q 92 = (false, true) := by
        have : ((92 : Int) == q) = false := by rw [beq_eq_false_iff_ne]; exact fun h => hq h.symm
        simp [fl, this]
      obtain ⟨s1, hs1, es1⟩ : ∃ s1, s1 % 2 = 0 ∧ s1 = (if (fl q x).2 then s + 1 + 1 else 0) := by
        refine ⟨_, ?_, rfl⟩
        split <;> omega
      obtain ⟨s', h1, h2⟩ := pass_bod (i := i) hq k l r (j + 2) s1 hs1
      refine ⟨s', h1, ?_⟩
      rw [List.flatMap_cons, eb, List.map_append, List.append_assoc, List.map_cons, List.map_cons, List.map_nil, List.cons_append, List.cons_append, List.nil_append, pairB, e92]
      simp only [Bool.false_and, if_true, Bool.false_eq_true, if_false]
      rw [pairB]
      have hodd : ((s + 1) % 2 == 0) = false := by rw [beq_eq_false_iff_ne]; omega
      rw [hodd, Bool.and_false, if_pos rfl, ← es1]
      rw [show j + 1 + 1 = j + 2 by omega, h2]
      congr 1
      simp; omega
    · have eb : bod q x = [x] := if_neg hx
      obtain ⟨s', h1, h2⟩ := pass_bod (i := i) hq k l r (j + 1) 0 rfl
      refine ⟨s', h1, ?_⟩
      have e1 : (fl q x) = (false, false) := by
        simp only [not_or] at hx
        simp [fl, hx.1, hx.2]
      rw [List.flatMap_cons, eb, List.map_append, List.append_assoc, List.map_cons, List.map_nil, List.cons_append, List.nil_append, pairB, e1]
      simp only [Bool.false_and, if_true, Bool.false_eq_true, if_false]
      rw [h2]
      congr 1
      simp; omega
def lineQ (q : Int) (lead : Nat) (body : List Int) : List Int := List.replicate lead 120 ++ (q :: (body.flatMap (bod q) ++ [q, 32, 32, 120]))
theorem lineQ_len (q : Int) (lead : Nat) (body : List Int) : (lineQ q lead body).length = lead + (body.flatMap (bod q)).length + 5 := by unfold lineQ; simp; omega
theorem lineQ_pair {q : Int} (hq : q = 34 ∨ q = 39 ∨ q = 96) (lead : Nat) (body : List Int) (i : Nat) :
    pairB i ((lineQ q lead body).map (fl q)) 0 none 0 = if i ≤ lead + (body.flatMap (bod q)).length + 1 then some (lead, lead + (body.flatMap (bod q)).length + 1) else none := by
  have h92 : q ≠ 92 := by omega
  have fq : fl q q = (true, false) := by
    have : (q == 92) = false := by rw [beq_eq_false_iff_ne]; exact h92
    simp [fl, this]
  unfold lineQ
  rw [List.map_append]
  obtain ⟨s1, h1, e1⟩ := pass_plain (i := i) (q := q) none (List.replicate lead 120) ((q :: (body.flatMap (bod q) ++ [q, 32, 32, 120])).map (fl q)) 0 0 (fun v hv => by rw [(List.mem_replicate.1 hv).2]; omega) rfl
  rw [e1, List.length_replicate, Nat.zero_add, List.map_cons, pairB, fq]
  have h1' : (s1 % 2 == 0) = true := by rw [beq_iff_eq]; exact h1
  rw [h1', Bool.and_true, if_neg (by decide)]
  simp only [Bool.false_eq_true, if_false]
  rw [List.map_append]
  obtain ⟨s2, h2, e2⟩ := pass_bod (i := i) h92 lead body ([q, 32, 32, 120].map (fl q)) (lead + 1) 0 rfl
  rw [e2, List.map_cons, pairB, fq]
  have h2' : (s2 % 2 == 0) = true := by rw [beq_iff_eq]; exact h2
  rw [h2', Bool.and_true, if_neg (by decide)]
  simp only [Bool.false_eq_true, if_false]
  have ej : lead + 1 + (body.flatMap (bod q)).length = lead + (body.flatMap (bod q)).length + 1 := by omega
  rw [ej]
  split
  · rfl
  · obtain ⟨s3, _, e3⟩ := pass_plain (i := i) (q := q) none [32, 32, 120] [] (lead + (body.flatMap (bod q)).length + 1 + 1) 0 (fun v hv => by simp at hv; omega) rfl
    rw [List.append_nil] at e3
    rw [e3]; rfl
theorem lineQ_ok {q : Int} (hq : q = 34 ∨ q = 39 ∨ q = 96) {lead : Nat} {body : List Int} (hb : ∀ v ∈ body, 32 ≤ v ∧ v ≤ 126) : NoBrk (lineQ q lead body) ∧ Asc7 (lineQ q lead body) := by
  have : ∀ v ∈ lineQ q lead body, 32 ≤ v ∧ v ≤ 126 := by
    intro v hv
    unfold lineQ at hv
    simp only [List.mem_append, List.mem_replicate, List.mem_cons, List.mem_flatMap, List.not_mem_nil, or_false] at hv
    rcases hv with ⟨_, h⟩ | h | ⟨x, hx, hv⟩ | h | h | h | h
    · omega
    · omega
    · have := hb x hx
      unfold bod at hv
      split at hv
      · simp at hv; omega
      · simp at hv; omega
    all_goals omega
  exact ⟨fun v hv => by have := this v hv; omega, fun v hv => by have := this v hv; omega⟩
theorem lineQ_at {q : Int} {lead : Nat} {body : List Int} : (lineQ q lead body)[lead]? = some q ∧ (lineQ q lead body)[lead + (body.flatMap (bod q)).length + 1]? = some q ∧ (lineQ q lead body)[lead + (body.flatMap (bod q)).length + 2]? = some 32 ∧ (lineQ q lead body)[lead + (body.flatMap (bod q)).length + 3]? = some 32 ∧ (lineQ q lead body)[lead + (body.flatMap (bod q)).length + 4]? = some 120 := by
  unfold lineQ
  generalize body.flatMap (bod q) = B
  have key : ∀ k, (List.replicate lead (120 : Int) ++ (q :: (B ++ [q, 32, 32, 120])))[lead + B.length + 1 + k]? = [q, 32, 32, 120][k]? := by
    intro k
    rw [List.getElem?_append_right (by simp; omega), List.length_replicate, show lead + B.length + 1 + k - lead = (B.length + k) + 1 by omega, List.getElem?_cons_succ, List.getElem?_append_right (by omega), show B.length + k - B.length = k by omega]
  refine ⟨?_, key 0, key 1, key 2, key 3⟩
  rw [List.getElem?_append_right (by simp), List.length_replicate, Nat.sub_self]; rfl
theorem here_end {L : List Int} (h : Asc7 L) (hn : NoCL L) {off : Nat} (h0 : 0 < L.length) : hereI (cels L off) ((off + L.length : Nat) : Int) = L.length - 1 := by
  have hl := cels7_len h hn off
  have hf : firstI (cels L off) ((off + L.length : Nat) : Int) = L.length := by
    refine firstI_eq (by omega) (fun j c hj hc => ?_) (fun c hc => ?_)
    · rw [cels7 h hn off (List.getElem?_eq_getElem hj)] at hc
      cases hc; dsimp only; omega
    · rw [List.getElem?_eq_none (by omega)] at hc; cases hc
  unfold hereI
  rw [hf, if_neg (by omega), hl]
theorem quotes_made {H body : List Int} {q : Int} (hq : q = 34 ∨ q = 39 ∨ q = 96) {lead : Nat} (hb : ∀ v ∈ body, 32 ≤ v ∧ v ≤ 126) {i : Nat} (hi : i ≤ lead + (body.flatMap (bod q)).length + 1) :
    quotesP (H ++ 10 :: lineQ q lead body) ((H.length + 1 + i : Nat) : Int) 65 0 q = ((((H.length + 1 + (lead + 1) : Nat) : Int), ((H.length + 1 + (lead + (body.flatMap (bod q)).length + 1) : Nat) : Int), 0), 0) ∧
    quotesP (H ++ 10 :: lineQ q lead body) ((H.length + 1 + i : Nat) : Int) 65 2 q = ((((H.length + 1 + lead : Nat) : Int), ((H.length + 1 + (lead + (body.flatMap (bod q)).length + 2) : Nat) : Int), 0), 0) ∧
    quotesP (H ++ 10 :: lineQ q lead body) ((H.length + 1 + i : Nat) : Int) 66 0 q = ((((H.length + 1 + lead : Nat) : Int), ((H.length + 1 + (lead + (body.flatMap (bod q)).length + 4) : Nat) : Int), 0), 0) := by
  obtain ⟨hn, ha⟩ := lineQ_ok hq (lead := lead) hb
  obtain ⟨a1, a2, a3, a4, a5⟩ := lineQ_at (q := q) (lead := lead) (body := body)
  have hll := lineQ_len q lead body
  have hp := lineQ_pair hq lead body i
  rw [if_pos hi] at hp
  generalize hB : (body.flatMap (bod q)).length = n at *
  obtain ⟨L, hL⟩ : ∃ L, L = lineQ q lead body := ⟨_, rfl⟩
  rw [← hL] at hn ha a1 a2 a3 a4 a5 hll hp ⊢
  have hlen : (H ++ 10 :: L).length = H.length + 1 + L.length := by simp; omega
  have hl := last_line (H := H) hn (p := H.length + 1 + i) (by omega) (by omega)
  have hpl : pairL q i (cels L (H.length + 1)) 0 none 0 = some (lead, lead + n + 1) := by rw [pairL_B, flags7 ha hn.cl]; exact hp
  have cq := fun k a h => cels7 ha hn.cl (H.length + 1) (k := k) (a := a) h
  have ck : ∀ kind count : Int, (kind = 65 ∨ kind = 66) → 0 ≤ count → checked (H ++ 10 :: L).length ((H.length + 1 + i : Nat) : Int) kind count 65 66 = 0 := fun kind count h1 h2 => by unfold checked; rw [if_neg (by omega), if_neg (by omega)]
  have hh := here7 ha hn.cl (off := H.length + 1) (i := i) (by omega)
  refine ⟨?_, ?_, ?_⟩
  · unfold quotesP
    rw [if_neg (by rw [ck 65 0 (.inl rfl) (by decide)]; omega), if_neg (by rw [ck 65 0 (.inl rfl) (by decide)]; decide), hl, last_cells]
    dsimp only
    rw [hh, hpl]
    dsimp only
    rw [if_pos ⟨rfl, by decide⟩, cq _ _ a1, cq _ _ a2]
    rfl
  · unfold quotesP
    rw [if_neg (by rw [ck 65 2 (.inl rfl) (by decide)]; omega), if_neg (by rw [ck 65 2 (.inl rfl) (by decide)]; decide), hl, last_cells]
    dsimp only
    rw [hh, hpl]
    dsimp only
    have c1 : ¬ ((65 : Int) = 65 ∧ (2 : Int) < 2) := by decide
    have c2 : ¬ ((65 : Int) = 66) := by decide
    rw [if_neg c1]
    simp only [c2, false_and, if_false]
    rw [Nat.add_sub_cancel, cq _ _ a1, cq _ _ a2]
    simp only [Option.map_some, Option.getD_some]
    congr 4
  · have hbl : blanksUp (cels L (H.length + 1)) (lead + n + 1 + 1) = lead + n + 4 := by
      have hcl := cels7_len ha hn.cl (H.length + 1)
      have d1 : (cels L (H.length + 1)).drop (lead + n + 2) = [⟨H.length + 1 + (lead + n + 2), H.length + 1 + (lead + n + 2) + 1, 0, true, 32⟩, ⟨H.length + 1 + (lead + n + 3), H.length + 1 + (lead + n + 3) + 1, 0, true, 32⟩, ⟨H.length + 1 + (lead + n + 4), H.length + 1 + (lead + n + 4) + 1, 2, true, 120⟩] := by
        apply List.ext_getElem?
        intro k
        rw [List.getElem?_drop]
        match k with
        | 0 => exact cq _ _ a3
        | 1 => exact cq _ _ a4
        | 2 => exact cq _ _ a5
        | k + 3 => rw [List.getElem?_eq_none (by omega)]; rfl
      unfold blanksUp
      rw [show lead + n + 1 + 1 = lead + n + 2 by omega, d1]
      rfl
    unfold quotesP
    rw [if_neg (by rw [ck 66 0 (.inr rfl) (by decide)]; omega), if_neg (by rw [ck 66 0 (.inr rfl) (by decide)]; decide), hl, last_cells]
    dsimp only
    rw [hh, hpl]
    dsimp only
    rw [if_neg (by decide), if_pos rfl, hbl, if_neg (by omega), cq _ _ a1, show lead + n + 4 - 1 = lead + n + 3 by omega, cq _ _ a4]
    rfl
theorem quotes_none {H body : List Int} {q : Int} (hq : q = 34 ∨ q = 39 ∨ q = 96) {lead : Nat} (hb : ∀ v ∈ body, 32 ≤ v ∧ v ≤ 126) :
    (quotesP (H ++ 10 :: lineQ q lead body) ((H ++ 10 :: lineQ q lead body).length : Int) 65 0 q).2 = 90 := by
  obtain ⟨hn, ha⟩ := lineQ_ok hq (lead := lead) hb
  have hll := lineQ_len q lead body
  obtain ⟨L, hL⟩ : ∃ L, L = lineQ q lead body := ⟨_, rfl⟩
  have hp := lineQ_pair hq lead body (L.length - 1)
  rw [if_neg (by rw [hL]; omega)] at hp
  rw [← hL] at hn ha hll hp ⊢
  have hlen : (H ++ 10 :: L).length = H.length + 1 + L.length := by simp; omega
  have hl := last_line (H := H) hn (p := H.length + 1 + L.length) (by omega) (by omega)
  have hpl : pairL q (L.length - 1) (cels L (H.length + 1)) 0 none 0 = none := by rw [pairL_B, flags7 ha hn.cl]; exact hp
  have hh := here_end ha hn.cl (off := H.length + 1) (by omega)
  have ck : checked (H ++ 10 :: L).length ((H ++ 10 :: L).length : Int) 65 0 65 66 = 0 := by unfold checked; rw [if_neg (by omega), if_neg (by omega)]
  unfold quotesP
  rw [if_neg (by rw [ck]; omega), if_neg (by rw [ck]; decide), hlen, hl, last_cells]
  dsimp only
  rw [hh, hpl]
end Obx
end Go.Proofs.YtabcpghhfeplaaaGreat
set_option linter.unusedSimpArgs false
set_option linter.unusedVariables false
set_option maxRecDepth 100000
namespace Go.Proofs.YtabcpghhfeplaaaGreat
open Go Go.Vx Cdc Trx Gly Clu Lns Obx
section
variable {w w' : World} {S : Nat → Prop} {p : Nat} {e : Enc} {lim na : Nat} {O : Nat → Prop} {M : Parts}
def chr (v : Int) : Int := 32 + (within v 94 : Nat)
theorem chr_in (v : Int) : 32 ≤ chr v ∧ chr v ≤ 126 := by unfold chr; have := within_le v 94; omega
set_option maxHeartbeats 1000000 in
theorem quoteMade_walk {enc le qu at_ : Int} {s1 s2 : Sl} {pre ls : List Int} (h1 : SlX w s1 1 (iv pre)) (n1 : pre.length < 2 ^ 60) (h2 : SlX w s2 1 (iv ls)) (n2 : ls.length < 2 ^ 60) (j2 : ∀ n ∈ ls, In64 n) (ia : In64 le) (ib : In64 qu) (ip : In64 at_) {K : Bool → World → Prop} (hK : ∀ w', Ext w w' → K true w') :
    callT Tryz.prog 13 #[.int .i64 enc, .slice s1.a s1.len s1.cap, .int .i64 le, .slice s2.a s2.len s2.cap, .int .i64 qu, .int .i64 at_] (.one (.one .bool)) K w := by
  refine F13_calls ?_
  unfold F13
  have hl2 : ls.length = s2.len := by have := h2.len1; rwa [List.length_map] at this
  refine newO_r fun b1 w1 e1 m1 hb1 _ => within_call (n := 2) ib (by decide) ?_
  obtain ⟨q, hqa, hq⟩ : ∃ q, ([34, 39, 96] : List Int)[within qu 2]? = some q ∧ (q = 34 ∨ q = 39 ∨ q = 96) := by
    have := within_le qu 2
    match within qu 2, this with
    | 0, _ => exact ⟨_, rfl, .inl rfl⟩
    | 1, _ => exact ⟨_, rfl, .inr (.inl rfl)⟩
    | 2, _ => exact ⟨_, rfl, .inr (.inr rfl)⟩
  have hbox1 : SlIn w1 ⟨some (at0 b1), 3, 3⟩ 3 1 (iv [34, 39, 96]) := SlIn.of_box m1 (n := 3) (sz := 1) rfl
  refine ix_ld (c := .int .i64) (xs := [34, 39, 96]) hbox1 (by omega) (x := q) (by rw [Int.toNat_natCast]; exact hqa) fun pq => ?_
  refine within_call (n := 5) ia (by decide) ?_
  have ha5 := within_le le 5
  generalize within le 5 = a at *
  obtain ⟨body, hbd⟩ : ∃ body, body = (ls.take 16).map chr := ⟨_, rfl⟩
  have hbin : ∀ v ∈ body, 32 ≤ v ∧ v ≤ 126 := by
    intro v hv
    rw [hbd] at hv
    obtain ⟨x, _, rfl⟩ := List.mem_map.1 hv; exact chr_in x
  have bl : ∀ l : List Int, (l.flatMap (bod q)).length ≤ 2 * l.length := by
    intro l
    induction l with
    | nil => simp
    | cons x l ih =>
      have : (bod q x).length ≤ 2 := by unfold bod; split <;> simp
      rw [List.flatMap_cons, List.length_append, List.length_cons]; omega
  refine join_r (fun x W => SlOwn W w.heap.size x.1 3 1 (iv (body.flatMap (bod q))) ∧ Ext w W) ?_ ?_
  · refine sloop_r (fun x W => ∃ i : Nat, i ≤ ls.length ∧ i ≤ 16 ∧ x.2 = ((i : Int), ()) ∧ SlOwn W w.heap.size x.1 3 1 (iv (((ls.take i).map chr).flatMap (bod q))) ∧ Ext w W) (fun x _ => ((16 : Int) - x.2.1).toNat) ⟨0, Nat.zero_le _, Nat.zero_le _, rfl, SlOwn.nil _ _ _ _, e1⟩ ?_
    rintro ⟨r, _⟩ W ⟨i, hi, hi2, rfl, hr, eW⟩
    dsimp only at hr ⊢
    refine join_r (fun x W' => x = (decide (i < ls.length ∧ i < 16), ()) ∧ W = W') ?_ ?_
    · refine sif_r (fun h => ⟨tupb ?_, rfl⟩) (fun h => ⟨tupb ?_, rfl⟩)
      all_goals simp only [decide_eq_true_eq, decide_eq_false_iff_not, Bool.false_eq_true, false_iff] at *
      all_goals omega
    rintro _ _ ⟨rfl, rfl⟩
    refine sif_r (fun hc => ?_) (fun hc => ?_)
    · simp only [decide_eq_true_eq] at hc
      obtain ⟨v, hv⟩ : ∃ v, ls[i]? = some v := ⟨_, List.getElem?_eq_getElem hc.1⟩
      have ew : IntKind.wrap .i64 ((i : Int) + 1) = ((i + 1 : Nat) : Int) := by rw [wrap64 (by omega) (by omega)]; omega
      rw [ew]
      refine ix_ldX (c := .int .i64) (xs := ls) (h2.ext eW) (by omega) (x := v) (by rw [Int.toNat_natCast]; exact hv) fun q' => ?_
      refine within_call (n := 94) (j2 v (List.mem_of_getElem? hv)) (by decide) ?_
      have ewl : IntKind.wrap .i64 ((32 : Int) + ((within v 94 : Nat) : Int)) = chr v := by have := within_le v 94; rw [wrap64 (by omega) (by omega)]; rfl
      rw [ewl]
      have lli : (((ls.take i).map chr).flatMap (bod q)).length ≤ 32 := by
        have := bl ((ls.take i).map chr)
        rw [List.length_map, List.length_take] at this; omega
      have e5 : ((ls.take (i + 1)).map chr).flatMap (bod q) = ((ls.take i).map chr).flatMap (bod q) ++ bod q (chr v) := by rw [List.take_add_one, hv]; simp
      refine join_r (fun x W' => SlOwn W' w.heap.size x.1 3 1 (iv (((ls.take i).map chr).flatMap (bod q) ++ (if chr v = q ∨ chr v = 92 then [92] else []))) ∧ Ext w W') ?_ ?_
      · refine join_r (fun x W' => x = (decide (chr v = q ∨ chr v = 92), ()) ∧ W = W') ?_ ?_
        · refine sif_r (fun h => ⟨tupb ?_, rfl⟩) (fun h => ⟨tupb ?_, rfl⟩)
          · simp only [beq_iff_eq, decide_eq_true_eq, true_iff] at *; exact .inl h
          · simp only [beq_eq_false_iff_ne, ne_eq, beq_iff_eq, decide_eq_true_eq] at *
            exact ⟨.inr, fun h' => h'.elim (fun h' => absurd h' h) id⟩
        rintro _ _ ⟨rfl, rfl⟩
        refine sif_r (fun hc => ?_) (fun hc => ?_)
        · simp only [decide_eq_true_eq] at hc
          rw [if_pos hc]
          refine newO_r fun b7 w4 e4 n4 hb4 _ => push (hr.ext e4) n4 (by omega) (by have := eW.size; have := e4.size; omega) fun r' w5 o5 u5 => ?_
          exact ⟨o5, (eW.trans e4).step u5 fun k hk => hr.blk_ge hk⟩
        · simp only [decide_eq_false_iff_not] at hc
          rw [if_neg hc, List.append_nil]
          exact ⟨hr, eW⟩
      rintro ⟨r2, _⟩ W2 ⟨hr2, eW2⟩
      dsimp only at hr2 ⊢
      refine newO_r fun b7 w4 e4 n4 hb4 _ => push (hr2.ext e4) n4 (by
        have : (if chr v = q ∨ chr v = 92 then [92] else ([] : List Int)).length ≤ 1 := by split <;> simp
        rw [List.length_append]; omega) (by have := eW2.size; have := e4.size; omega) fun r' w5 o5 u5 => ?_
      have e6 : ((ls.take i).map chr).flatMap (bod q) ++ (if chr v = q ∨ chr v = 92 then [92] else []) ++ [chr v] = ((ls.take (i + 1)).map chr).flatMap (bod q) := by
        rw [e5]
        unfold bod
        split <;> simp
      rw [e6] at o5
      exact ⟨⟨i + 1, by omega, by omega, rfl, o5, (eW2.trans e4).step u5 fun k hk => hr2.blk_ge hk⟩, by omega⟩
    · simp only [decide_eq_false_iff_not] at hc
      have : ls.take i = ls.take 16 := by
        by_cases h : i = 16
        · rw [h]
        · rw [List.take_of_length_le (by omega), List.take_of_length_le (by omega)]
      rw [this, ← hbd] at hr
      exact ⟨hr, eW⟩
  rintro ⟨sw, _⟩ w2 ⟨ow, e2⟩
  dsimp only at ow ⊢
  have hn32 : (body.flatMap (bod q)).length ≤ 32 := by
    have := bl body
    have h3 : body.length ≤ 16 := by rw [hbd, List.length_map, List.length_take]; omega
    omega
  have lw : (body.flatMap (bod q)).length = sw.len := by have := ow.len1; rwa [List.length_map] at this
  clear hbd
  refine plain_call (h1.ext e2) n1 fun s15 w3 o15 e3 => ?_
  refine newO_r fun b16 w4 e4 n4 hb4 _ => push (o15.ext e4) n4 (by have := plainL_len pre; omega) (by have := e3.size; have := e4.size; omega) fun s17 w5 o17 u5 => ?_
  have hH := plainL_len pre
  have hHa := plainL_asc pre
  obtain ⟨H, hHd⟩ : ∃ H, H = plainL pre := ⟨_, rfl⟩
  rw [← hHd] at o17 hH hHa
  have l17 : H.length + 1 = s17.len := by have := o17.len1; rw [List.length_map, List.length_append] at this; simpa using this
  have e25 : Ext w2 w5 := (e3.trans e4).step u5 fun k hk => o15.blk_ge hk
  refine many_call (n := a) (v := 120) (by omega) fun s18 w6 o18 e6 => ?_
  refine newO_r fun b27 w7 e7 n7 hb7 _ => newO_r fun b28 w8 e8 n8 hb8 _ => newO_r fun b21 w9 e9 n9 hb9 _ => ?_
  have x79 := e8.trans e9
  have x59 := (e6.trans e7).trans x79
  have x29 := e25.trans x59
  have x09 := e2.trans x29
  have ok := lineQ_ok hq (lead := a) hbin
  have hll := lineQ_len q a body
  have hflat : ([H ++ [10], List.replicate a 120, [q], body.flatMap (bod q), [q, 32, 32, 120]] : List (List Int)).flatten = H ++ 10 :: lineQ q a body := by unfold lineQ; simp
  refine laid_call (enc := enc) (s := ⟨some (at0 b21), 5, 5⟩) (t := 26) (ss := [s17, s18, ⟨some (at0 b27), 1, 1⟩, sw, ⟨some (at0 b28), 4, 4⟩]) (ps := [H ++ [10], List.replicate a 120, [q], body.flatMap (bod q), [q, 32, 32, 120]]) (SlIn.of_box n9 (n := 5) (sz := 1) rfl) rfl (fun i x l hx hl => ?_) (fun l hl => ?_) (by
      rw [hflat]
      simp; omega) (by show 5 < 2 ^ 40; omega) fun p e O M na s' w10 hB hat e10 => ?_
  · match i, hx, hl with
    | 0, hx, hl => cases hx; cases hl; exact ⟨_, (o17.ext x59).in⟩
    | 1, hx, hl => cases hx; cases hl; exact ⟨_, (o18.ext (e7.trans x79)).in⟩
    | 2, hx, hl => cases hx; cases hl; exact ⟨3, SlIn.of_box (x79.ext_get n7) (n := 1) (sz := 1) rfl⟩
    | 3, hx, hl => cases hx; cases hl; exact ⟨_, (ow.ext x29).in⟩
    | 4, hx, hl => cases hx; cases hl; exact ⟨3, SlIn.of_box (e9.ext_get n8) (n := 4) (sz := 1) rfl⟩
    | i + 5, hx, hl => simp at hx
  · simp only [List.mem_cons, List.not_mem_nil, or_false] at hl
    rcases hl with rfl | rfl | rfl | rfl | rfl
    · exact hHa.app (fun v hv => by rw [List.mem_singleton.1 hv]; omega)
    · intro v hv; rw [(List.mem_replicate.1 hv).2]; omega
    · intro v hv; rw [List.mem_singleton.1 hv]; omega
    · intro v hv
      obtain ⟨x, hx, hv⟩ := List.mem_flatMap.1 hv
      have := hbin x hx
      unfold bod at hv
      split at hv
      · simp at hv; omega
      · simp at hv; omega
    · intro v hv; simp only [List.mem_cons, List.not_mem_nil, or_false] at hv; omega
  rw [hflat] at hat
  have tx := hB.txt
  have x10 := x09.trans e10
  have ls' : (H ++ 10 :: lineQ q a body).length = s'.len := by have := hB.lst.len1; rw [hat, List.length_map] at this; exact this
  refine (St.start w10).newO fun b23 w11 S11 e11 => S11.aggSt 0 rfl rfl rfl rfl fun w12 S12 u12 => sif_false ?_
  have S12 : St (fun _ => False) w10 w12 [(b23, bothO p s')] := S12
  obtain ⟨n, hn⟩ : ∃ n, n = (body.flatMap (bod q)).length := ⟨_, rfl⟩
  rw [← hn] at hn32 lw hll
  have ewl : IntKind.wrap .i64 (IntKind.wrap .i64 ((a : Int) + (sw.len : Int)) + 1) = ((a + n + 1 : Nat) : Int) := by rw [wrap64 (a := (a : Int) + (sw.len : Int)) (by omega) (by omega), wrap64 (by omega) (by omega)]; omega
  rw [ewl]
  refine within_call (n := a + n + 1) ip (by omega) ?_
  have hi := within_le at_ (a + n + 1)
  generalize within at_ (a + n + 1) = ix at *
  have eP : IntKind.wrap .i64 ((s17.len : Int) + (ix : Int)) = ((H.length + 1 + ix : Nat) : Int) := by rw [wrap64 (by omega) (by omega)]; omega
  have eF : IntKind.wrap .i64 ((s17.len : Int) + (a : Int)) = ((H.length + 1 + a : Nat) : Int) := by rw [wrap64 (by omega) (by omega)]; omega
  have eF1 : IntKind.wrap .i64 (((H.length + 1 + a : Nat) : Int) + 1) = ((H.length + 1 + (a + 1) : Nat) : Int) := by rw [wrap64 (by omega) (by omega)]; omega
  have eN : IntKind.wrap .i64 (((H.length + 1 + a : Nat) : Int) + (sw.len : Int)) = ((H.length + 1 + (a + n) : Nat) : Int) := by rw [wrap64 (by omega) (by omega)]; omega
  have eT : IntKind.wrap .i64 (((H.length + 1 + (a + n) : Nat) : Int) + 2) = ((H.length + 1 + (a + n + 2) : Nat) : Int) := by rw [wrap64 (by omega) (by omega)]; omega
  have eT1 : IntKind.wrap .i64 (((H.length + 1 + (a + n + 2) : Nat) : Int) - 1) = ((H.length + 1 + (a + n + 1) : Nat) : Int) := by rw [wrap64 (by omega) (by omega)]; omega
  have eT2 : IntKind.wrap .i64 (((H.length + 1 + (a + n + 2) : Nat) : Int) + 2) = ((H.length + 1 + (a + n + 4) : Nat) : Int) := by rw [wrap64 (by omega) (by omega)]; omega
  rw [eP, eF, eF1, eN, eT, eT1, eT2]
  obtain ⟨g1, g2, g3⟩ := quotes_made (H := H) hq (lead := a) hbin (i := ix) (by rw [← hn]; exact hi)
  have g4 := quotes_none (H := H) hq (lead := a) hbin
  rw [← hn] at g1 g2 g3
  refine S12.ld 0 rfl (x := some (at0 p)) rfl ?_
  refine quotes_call (kind := 65) (count := 0) (arg := q) (tx.ext S12.upd) (by decide) fun w13 e13 => ?_
  rw [hat, g1]
  refine (S12.ext e13).newO fun b27' w14 S14 e14 => S14.aggSt 0 rfl rfl rfl rfl fun w15 S15 u15 => S15.lds 0 (spT (((H.length + 1 + (a + 1) : Nat) : Int), ((H.length + 1 + (a + n + 1) : Nat) : Int), 0)) rfl ?_
  refine spans_eq rfl fun w16 e16 => sif_false ?_
  have S16 := S15.ext e16
  refine S16.ld 1 rfl (x := some (at0 p)) rfl ?_
  refine quotes_call (kind := 65) (count := 2) (arg := q) (tx.ext S16.upd) (by decide) fun w17 e17 => ?_
  rw [hat, g2]
  refine (S16.ext e17).aggSt 0 rfl rfl rfl rfl fun w18 S18 u18 => S18.lds 0 (spT (((H.length + 1 + a : Nat) : Int), ((H.length + 1 + (a + n + 2) : Nat) : Int), 0)) rfl ?_
  refine spans_eq rfl fun w19 e19 => sif_false ?_
  have S19 := S18.ext e19
  refine S19.ld 1 rfl (x := some (at0 p)) rfl ?_
  refine take_call (kind := 66) (count := 0) (arg := q) (tx.ext S19.upd) (by decide) fun w20 e20 => ?_
  have htk : takeP (H ++ 10 :: lineQ q a body) ((H.length + 1 + ix : Nat) : Int) 66 0 q = ((((H.length + 1 + a : Nat) : Int), ((H.length + 1 + (a + n + 4) : Nat) : Int), 0), 0) := g3
  rw [hat, htk]
  refine (S19.ext e20).aggSt 0 rfl rfl rfl rfl fun w21 S21 u21 => S21.lds 0 (spT (((H.length + 1 + a : Nat) : Int), ((H.length + 1 + (a + n + 4) : Nat) : Int), 0)) rfl ?_
  refine spans_eq rfl fun w22 e22 => sif_false ?_
  have S22 := S21.ext e22
  refine S22.ld 1 rfl (x := some (at0 p)) rfl (S22.ld 1 rfl (x := s') rfl ?_)
  refine quotes_call (kind := 65) (count := 0) (arg := q) (tx.ext S22.upd) (by decide) fun w23 e23 => ?_
  rw [hat, ← ls', g4]
  exact hK w23 (x10.trans (S22.ext e23).upd)
end
end Go.Proofs.YtabcpghhfeplaaaGreat
set_option linter.unusedSimpArgs false
set_option linter.unusedVariables false
namespace Go.Proofs.YtabcpghhfeplaaaGreat
open Go Go.Vx Go.ChangeShapes Go.WideShapes Go.RowKit
set_option maxRecDepth 100000 in
theorem objectQuoteMade_lifted (os : Os) (started : os.Started) (H : Type) (enc : TypeId × Value → H) :
    ReturnsInHanded {} Tryz.checked os 13 .any (Rows.objectQuoteMadeSpec.pre6 enc Tryz.prog Tryz.f13 Rows.objectQuoteMadeRow.domain false) (Rows.objectQuoteMadeSpec.post enc Tryz.prog Tryz.f13 false true false false) := by
  refine returnsInHanded_of_change_sized (C := Tryz.checked) Tryz.own started (by kernel_rfl) Tryz.func13
    (ChangeSpec.witness6 (enc := enc) (C := Tryz.checked) false ⟨#[], #[.int .i64 0, .slice none 0 0, .int .i64 0, .slice none 0 0, .int .i64 0, .int .i64 0], []⟩ 8 (by kernel_rfl) (by kernel_rfl) (by kernel_rfl) (by kernel_rfl)) ?_
  intro W base args ds gs before hval0 hW _ hwt0 _
  have hval : ∀ (j : Nat) t v, Tryz.f13.params[j]? = some t → args[j]? = some v → Value.okWide Tryz.prog W .any base t v := hval0
  have hwt : (DataW.weightsEach Tryz.prog (Tryz.f13.params.toList ++ []) (ds ++ gs)).all (· ≤ reachBytes) = true := hwt0
  have hW' := hW
  obtain ⟨p, q, hA0, hV, rfl, hfz, hnd⟩ := hW
  have hA : DataW.TrodAll enc Tryz.prog W 0 (fun _ => true) true Tryz.f13.params.toList args.toList ds p := hA0
  clear hA0 hval0 hwt0
  rw [Tryz.params13] at hA hval hwt
  obtain ⟨rfl, rfl⟩ := trodVars_none hV
  obtain ⟨hn1, hn2, hT⟩ := trodAll_get hA
  obtain ⟨v0, v1, v2, v3, v4, v5, hv⟩ := list_6 args.toList hn1
  obtain rfl : args = #[v0, v1, v2, v3, v4, v5] := by cases args; simp_all
  obtain ⟨d0, d1, d2, d3, d4, d5, rfl⟩ := list_6 ds hn2
  obtain ⟨p0, q0⟩ := hT 0 3 v0 d0 rfl rfl rfl
  obtain ⟨a0, rfl, i0⟩ := arg_int (hval 0 3 v0 rfl rfl) q0 (weigh hwt 0 rfl rfl)
  obtain ⟨p1, q1⟩ := hT 1 26 v1 d1 rfl rfl rfl
  obtain ⟨s1, l1, rfl, h1, n1, j1⟩ := arg_ints (hval 1 26 v1 rfl rfl) q1 (weigh hwt 1 rfl rfl)
  obtain ⟨p2, q2⟩ := hT 2 3 v2 d2 rfl rfl rfl
  obtain ⟨a2, rfl, i2⟩ := arg_int (hval 2 3 v2 rfl rfl) q2 (weigh hwt 2 rfl rfl)
  obtain ⟨p3, q3⟩ := hT 3 26 v3 d3 rfl rfl rfl
  obtain ⟨s3, l3, rfl, h3, n3, j3⟩ := arg_ints (hval 3 26 v3 rfl rfl) q3 (weigh hwt 3 rfl rfl)
  obtain ⟨p4, q4⟩ := hT 4 3 v4 d4 rfl rfl rfl
  obtain ⟨a4, rfl, i4⟩ := arg_int (hval 4 3 v4 rfl rfl) q4 (weigh hwt 4 rfl rfl)
  obtain ⟨p5, q5⟩ := hT 5 3 v5 d5 rfl rfl rfl
  obtain ⟨a5, rfl, i5⟩ := arg_int (hval 5 3 v5 rfl rfl) q5 (weigh hwt 5 rfl rfl)
  have walk := quoteMade_walk (enc := a0) h1 (by omega) h3 (by omega) j3 i2 i4 i5 (K := fun r w' => r = true ∧ Ext W w') fun w' e => ⟨rfl, e⟩
  refine walk.mono fun e W' ⟨x, he, hx, hext⟩ => ⟨.bool true, ?_, ?_⟩
  · subst hx; exact he
  · exact post_same hW' rfl rfl u4 rfl Tryz.laidOut (fun t ht => by
      rw [Tryz.params13] at ht
      have ht : t ∈ [3, 26, 3, 26, 3, 3] := ht
      simp only [List.mem_cons, List.not_mem_nil, or_false] at ht
      rcases ht with rfl | rfl | rfl | rfl | rfl | rfl <;> exact recs (by simp)) hext
theorem objectQuoteMade_holds : Rows.ObjectQuoteMadeSaid :=
  OpenClaim.holds_of_wide 13 Tryz.f13 rfl rfl rfl rfl rfl rfl rfl ⟨rfl, rfl, rfl, rfl, rfl⟩ rfl rfl rfl rfl rfl (by kernel_rfl) Tryz.func13 (by kernel_rfl)
    (of_decide_eq_true (by kernel_rfl)) (by unfold Func.isWrapper; rw [if_neg (by decide +kernel)]; exact ⟨rfl, rfl⟩)
    (fun os started H enc _ => objectQuoteMade_lifted os started H enc)
end Go.Proofs.YtabcpghhfeplaaaGreat
