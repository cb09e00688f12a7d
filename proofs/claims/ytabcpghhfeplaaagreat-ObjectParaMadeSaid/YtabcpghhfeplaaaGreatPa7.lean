/- The law holds for every input: it returns true, and each argument reads behind the call as it did. Conditions: those of the form alone. -/
import Derived.Test.YtabcpghhfeplaaaGreatPa6
set_option linter.unusedVariables false
set_option linter.unusedSimpArgs false
set_option linter.unusedSectionVars false
set_option linter.unusedSimpArgs false
set_option linter.unusedVariables false
set_option maxRecDepth 100000
namespace Go.Proofs.YtabcpghhfeplaaaGreat
open Go Go.Vx Cdc Trx
section
variable {w w' W W' : World} {S : Nat → Prop} {p : Nat} {e : Enc} {lim na : Nat} {O : Nat → Prop} {M : Parts} {tp : Option Addr} {a0 a : Sl}
abbrev edT (f t : Nat) (s : Sl) : Cells.T c83 := ((f : Int), (t : Int), s, ())
theorem Txt.lim_ (h : Txt w p e lim na O M) : w.cell? ⟨p, 1, none⟩ = some (.int .i64 (lim : Int)) := by
  obtain ⟨t, a, ab, h1, _⟩ := h.ex
  exact cell_of h1 rfl
theorem szs_prs_take (e : Enc) (l : List Int) {i : Nat} {v : Int} (hv : l[i]? = some v) : szs (prs e (l.take (i + 1))) = szs (prs e (l.take i)) + sz e v := by
  rw [List.take_add_one, hv]
  simp [prs, szs_append, szs_cons, szs_nil]
theorem szs_prs_le (e : Enc) (l : List Int) (i : Nat) : szs (prs e (l.take i)) ≤ szs (prs e l) := by
  have : prs e l = prs e (l.take i) ++ prs e (l.drop i) := by unfold prs; rw [← List.map_append, List.take_append_drop]
  rw [this, szs_append]; omega
theorem refuse_call {f t : Nat} {s sp : Sl} {ty ty' : TypeId} {put : List Int} (h : Txt w p e lim na O M) (hft : f ≤ t) (hto : t ≤ (aOf e M).length) (hs : SlIn w s ty 3 (flat c83 [edT f t sp])) (hp : SlIn w sp ty' 1 (iv put)) (hfit : Fit e put) (hput : put.length < 2 ^ 40) (hb : (bts e put).length < 2 ^ 40)
    (hroom : szs ((aOf e M).take f ++ prs e put ++ (aOf e M).drop t) ≤ lim) {K : Int → World → Prop} (hK : ∀ w', Ext w w' → K 0 w') :
    callT Tryz.prog 77 #[.pointer (some (at0 p)), .slice s.a s.len s.cap] (.one (.one (.int .i64))) K w := by
  refine F77_calls ?_
  unfold F77
  have few := h.few; have lims := h.lims; have hsz := h.sz
  have hl1 : 1 = s.len := by have := SlIn.lenR (cs := c83) (xs := [edT f t sp]) hs (by decide); simpa using this
  have hpl : put.length = sp.len := by have := hp.len1; rwa [List.length_map] at this
  have ht13 : szs (aOf e M) = szs ((aOf e M).take t) + szs ((aOf e M).drop t) := by conv => lhs; rw [← List.take_append_drop t (aOf e M)]; rw [szs_append]
  have htf : szs ((aOf e M).take f) ≤ szs ((aOf e M).take t) := by
    have h2 : (aOf e M).take t = (aOf e M).take f ++ ((aOf e M).take t).drop f := by
      conv => lhs; rw [← List.take_append_drop f ((aOf e M).take t)]
      rw [List.take_take, Nat.min_eq_left hft]
    rw [h2, szs_append]; omega
  rw [szs_append, szs_append] at hroom
  have hbl := bts_len hfit
  refine sif_r (fun hc => ?_) (fun _ => ?_)
  · simp only [decide_eq_true_eq, gt_iff_lt] at hc; omega
  have rdE : ∀ {V : World} {K : Addr → Cells.T c83 → World → Prop}, Ext w V → (∀ q, K q (edT f t sp) V) → ix s.a s.len ((0 : Nat) : Int) (fun q => lds c83 (q.add (scaled (Int.toNat ((0 : Nat) : Int)) 3)) (K q)) V := fun x hk => ix_lds (cs := c83) (xs := [edT f t sp]) (hs.ext x) (by decide) (by decide) rfl hk
  have ew1 : IntKind.wrap .i64 (((0 : Nat) : Int) + 1) = ((1 : Nat) : Int) := by decide
  refine len_call h fun w1 e1 => ?_
  refine join_r (fun _ W => Ext w W) ?_ ?_
  · refine sloop_r (fun x W => ((x = (0, ((0 : Nat) : Int), ())) ∨ x.2.1 = ((1 : Nat) : Int)) ∧ Ext w W) (fun x _ => (1 - x.2.1).toNat) ⟨.inl rfl, e1⟩ ?_
    rintro x W ⟨rfl | hx, eW⟩
    · refine sif_r (fun _ => ?_) (fun hc => ?_)
      · refine rdE eW fun q => (St.start W).newO fun b8 w2 S2 e2 => S2.aggSt 0 rfl rfl rfl rfl fun w3 S3 u3 => ?_
        refine join_r (fun x W' => x = (false, ()) ∧ w3 = W') ?_ ?_
        · refine S3.ld 0 rfl (x := (f : Int)) rfl (sif_r (fun hc => ?_) (fun _ => S3.ld 0 rfl (x := (t : Int)) rfl (S3.ld 0 rfl (x := (f : Int)) rfl (sif_r (fun hc => ?_) (fun _ => S3.ld 0 rfl (x := (t : Int)) rfl ⟨tupb ?_, rfl⟩)))))
          · simp only [decide_eq_true_eq] at hc; omega
          · simp only [decide_eq_true_eq] at hc; omega
          · simp only [decide_eq_true_eq, gt_iff_lt, Bool.false_eq_true, iff_false]; omega
        rintro _ _ ⟨rfl, rfl⟩
        refine sif_false (S3.ld 0 rfl (x := (t : Int)) rfl ⟨⟨.inr ?_, eW.trans S3.upd⟩, ?_⟩)
        · exact ew1
        · show (1 - IntKind.wrap .i64 (((0 : Nat) : Int) + 1)).toNat < (1 - ((0 : Nat) : Int)).toNat
          rw [ew1]; decide
      · exact eW
    · refine sif_r (fun hc => ?_) (fun _ => eW)
      simp only [decide_eq_true_eq] at hc; omega
  rintro _ w2 e2
  refine sizeB_call (h.ext e2) fun w3 e3 => ?_
  have x3 := e2.trans e3
  obtain ⟨B0, hB0⟩ : ∃ B0, B0 = szs (aOf e M) := ⟨_, rfl⟩
  rw [← hB0]
  refine join_r (fun x W => x = (((B0 + (bts e put).length : Nat) : Int), ()) ∧ Ext w W) ?_ ?_
  · refine sloop_r (fun x W => ((x = ((B0 : Int), ((0 : Nat) : Int), ())) ∨ x = (((B0 + (bts e put).length : Nat) : Int), ((1 : Nat) : Int), ())) ∧ Ext w W) (fun x _ => (1 - x.2.1).toNat) ⟨.inl rfl, x3⟩ ?_
    rintro _ W ⟨rfl | rfl, eW⟩
    · refine sif_r (fun _ => ?_) (fun hc => ?_)
      · refine join_r (fun x W => x = (((B0 + (bts e put).length : Nat) : Int), ()) ∧ Ext w W) ?_ ?_
        · refine rdE eW fun q => (St.start W).newO fun b8 w4 S4 e4 => S4.aggSt 0 rfl rfl rfl rfl fun w5 S5 u5 => S5.ld 0 rfl (x := sp) rfl ?_
          refine sloop_r (fun x V => (∃ i : Nat, i ≤ put.length ∧ x = (((B0 + szs (prs e (put.take i)) : Nat) : Int), (i : Int), ())) ∧ Ext w V) (fun x _ => ((put.length : Int) - x.2.1).toNat) ⟨⟨0, Nat.zero_le _, by simp [prs, szs_nil]⟩, eW.trans S5.upd⟩ ?_
          rintro _ V ⟨⟨i, hi, rfl⟩, eV⟩
          refine sif_r (fun hc => ?_) (fun hc => ?_)
          · simp only [decide_eq_true_eq] at hc
            obtain ⟨v, hv⟩ : ∃ v, put[i]? = some v := ⟨_, List.getElem?_eq_getElem (by omega)⟩
            have hf := hfit v (List.mem_of_getElem? hv)
            dsimp only
            refine ix_ld (c := .int .i64) (xs := put) (hp.ext eV) (by omega) (x := v) (by rw [Int.toNat_natCast]; exact hv) fun q2 => (h.ext eV).enc (size_call fun w6 e6 => ?_)
            refine sif_r (fun hc => ?_) (fun _ => ?_)
            · simp only [beq_iff_eq] at hc; have := hf.2; omega
            have hstep := szs_prs_take e put hv
            have hle := szs_prs_le e put (i + 1)
            have ewi : IntKind.wrap .i64 ((i : Int) + 1) = ((i + 1 : Nat) : Int) := by rw [wrap64 (by omega) (by omega)]; omega
            have ewb : IntKind.wrap .i64 (((B0 + szs (prs e (put.take i)) : Nat) : Int) + ((sz e v : Nat) : Int)) = ((B0 + szs (prs e (put.take (i + 1))) : Nat) : Int) := by rw [wrap64 (by omega) (by omega)]; omega
            rw [ewi, ewb]
            exact ⟨⟨⟨i + 1, by omega, rfl⟩, eV.trans e6⟩, by omega⟩
          · simp only [decide_eq_false_iff_not] at hc
            have : i = put.length := by omega
            subst this
            rw [List.take_length, ← hbl]
            exact ⟨rfl, eV⟩
        rintro _ V ⟨rfl, eV⟩
        refine ⟨⟨.inr ?_, eV⟩, ?_⟩
        · rw [ew1]
        · show (1 - IntKind.wrap .i64 (((0 : Nat) : Int) + 1)).toNat < (1 - ((0 : Nat) : Int)).toNat
          rw [ew1]; decide
      · simp only [decide_eq_false_iff_not] at hc; omega
    · refine sif_r (fun hc => ?_) (fun _ => ⟨rfl, eW⟩)
      simp only [decide_eq_true_eq] at hc; omega
  rintro _ w4 ⟨rfl, e4⟩
  obtain ⟨T, hT⟩ : ∃ T, T = szs ((aOf e M).take f) + (bts e put).length + szs ((aOf e M).drop t) := ⟨_, rfl⟩
  refine join_r (fun x W => x = ((T : Int), ()) ∧ Ext w W) ?_ ?_
  · refine sloop_r (fun x W => ((x = (((B0 + (bts e put).length : Nat) : Int), ((0 : Nat) : Int), ())) ∨ x = ((T : Int), ((1 : Nat) : Int), ())) ∧ Ext w W) (fun x _ => (1 - x.2.1).toNat) ⟨.inl rfl, e4⟩ ?_
    rintro _ W ⟨rfl | rfl, eW⟩
    · refine sif_r (fun _ => ?_) (fun hc => ?_)
      · refine join_r (fun x W => x = ((T : Int), ()) ∧ Ext w W) ?_ ?_
        · refine rdE eW fun q => (St.start W).newO fun b8 w5 S5 e5 => S5.aggSt 0 rfl rfl rfl rfl fun w6 S6 u6 => S6.ld 0 rfl (x := (t : Int)) rfl (S6.ld 0 rfl (x := (f : Int)) rfl ?_)
          refine sif_r (fun hc => ?_) (fun hc => ?_)
          · refine S6.drew fun w7 S7 e7 _ => S7.ld 0 rfl (x := (t : Int)) rfl (S7.ld 0 rfl (x := (f : Int)) rfl ?_)
            refine ahead_call (h.ext (eW.trans S7.upd)) hto fun w8 e8 => ?_
            have S8 := S7.ext e8
            refine S8.keep 0 rfl (v := .int .i64 (f : Int)) rfl (ahead_call (h.ext (eW.trans S8.upd)) (by omega) fun w9 e9 => ?_)
            have q1 : (smT (msr ((aOf e M).take t))).2.1 = ((szs ((aOf e M).take t) : Nat) : Int) := by show (((msr _).bytes : Nat) : Int) = _; rw [msr_bytes ((aOf_posd e M).take t)]
            have q2 : (smT (msr ((aOf e M).take f))).2.1 = ((szs ((aOf e M).take f) : Nat) : Int) := by show (((msr _).bytes : Nat) : Int) = _; rw [msr_bytes ((aOf_posd e M).take f)]
            rw [q1, q2]
            refine ⟨?_, eW.trans (S8.ext e9).upd⟩
            dsimp only
            rw [wrap64 (a := ((szs ((aOf e M).take t) : Nat) : Int) - ((szs ((aOf e M).take f) : Nat) : Int)) (by omega) (by omega), wrap64 (by omega) (by omega)]
            congr 1; omega
          · simp only [decide_eq_false_iff_not, gt_iff_lt] at hc
            have : f = t := by omega
            subst this
            refine ⟨?_, eW.trans S6.upd⟩
            dsimp only
            congr 1; omega
        rintro _ V ⟨rfl, eV⟩
        refine ⟨⟨.inr ?_, eV⟩, ?_⟩
        · rw [ew1]
        · show (1 - IntKind.wrap .i64 (((0 : Nat) : Int) + 1)).toNat < (1 - ((0 : Nat) : Int)).toNat
          rw [ew1]; decide
      · simp only [decide_eq_false_iff_not] at hc; omega
    · refine sif_r (fun hc => ?_) (fun _ => ⟨rfl, eW⟩)
      simp only [decide_eq_true_eq] at hc; omega
  rintro _ w5 ⟨rfl, e5⟩
  simp only [nn_eqT, addr_add]
  refine ld_of (x := (lim : Int)) (h.ext e5).lim_ (sif_r (fun hc => ?_) (fun _ => hK w5 e5))
  simp only [decide_eq_true_eq, gt_iff_lt] at hc; omega
theorem change_call {f t : Nat} {s sp : Sl} {ty ty' : TypeId} {put : List Int} (h : Txt w p e lim na O M) (hft : f ≤ t) (hto : t ≤ (aOf e M).length) (hs : SlIn w s ty 3 (flat c83 [edT f t sp])) (hsep : ∀ k, s.blk k → ¬ O k) (hp : SlIn w sp ty' 1 (iv put)) (hsp : ∀ k, sp.blk k → ¬ O k) (hfit : Fit e put) (hput : put.length < 2 ^ 40) (hna : na + (bts e put).length < 2 ^ 40)
    (hroom : szs ((aOf e M).take f ++ prs e put ++ (aOf e M).drop t) ≤ lim) {K : Int → World → Prop}
    (hK : ∀ O' M' w', Txt w' p e lim (na + (bts e put).length) O' M' → aOf e M' = (aOf e M).take f ++ prs e put ++ (aOf e M).drop t → Upd O w w' → (∀ k, O k → O' k) → (∀ k, O' k → O k ∨ w.heap.size ≤ k) → K 0 w') :
    callT Tryz.prog 50 #[.pointer (some (at0 p)), .slice s.a s.len s.cap] (.one (.one (.int .i64))) K w := by
  refine F50_calls ?_
  unfold F50
  have hl1 : 1 = s.len := by have := SlIn.lenR (cs := c83) (xs := [edT f t sp]) hs (by decide); simpa using this
  have hpl : put.length = sp.len := by have := hp.len1; rwa [List.length_map] at this
  refine refuse_call h hft hto hs hp hfit hput (by omega) hroom fun w1 e1 => sif_false ?_
  have ew0 : IntKind.wrap .i64 (((s.len : Nat) : Int) - 1) = 0 := by rw [← hl1]; decide
  rw [ew0]
  refine join_r (fun _ W => ∃ O' M', Txt W p e lim (na + (bts e put).length) O' M' ∧ aOf e M' = (aOf e M).take f ++ prs e put ++ (aOf e M).drop t ∧ Upd O w W ∧ (∀ k, O k → O' k) ∧ (∀ k, O' k → O k ∨ w.heap.size ≤ k)) ?_ (fun _ W ⟨O', M', g1, g2, g3, g4, g5⟩ => hK O' M' W g1 g2 g3 g4 g5)
  refine sloop_r (fun x W => (x = (((0 : Nat) : Int), ()) ∧ Ext w W) ∨ (x = (-1, ()) ∧ ∃ O' M', Txt W p e lim (na + (bts e put).length) O' M' ∧ aOf e M' = (aOf e M).take f ++ prs e put ++ (aOf e M).drop t ∧ Upd O w W ∧ (∀ k, O k → O' k) ∧ (∀ k, O' k → O k ∨ w.heap.size ≤ k))) (fun x _ => (x.1 + 1).toNat) (.inl ⟨rfl, e1⟩) ?_
  rintro _ W (⟨rfl, eW⟩ | ⟨rfl, hR⟩)
  · refine sif_r (fun _ => ?_) (fun hc => ?_)
    · refine join_r (fun _ W => ∃ O' M', Txt W p e lim (na + (bts e put).length) O' M' ∧ aOf e M' = (aOf e M).take f ++ prs e put ++ (aOf e M).drop t ∧ Upd O w W ∧ (∀ k, O k → O' k) ∧ (∀ k, O' k → O k ∨ w.heap.size ≤ k)) ?_ ?_
      · refine ix_lds (cs := c83) (xs := [edT f t sp]) (hs.ext eW) (by decide) (by decide) (x := edT f t sp) rfl fun q => (St.start W).newO fun b8 w2 S2 e2 => S2.aggSt 0 rfl rfl rfl rfl fun w3 S3 u3 => ?_
        refine join_r (fun x W' => x = (decide (f < t ∨ 0 < put.length), ()) ∧ w3 = W') ?_ ?_
        · refine S3.ld 0 rfl (x := (f : Int)) rfl (S3.ld 0 rfl (x := (t : Int)) rfl (sif_r (fun hc => ⟨tupb ?_, rfl⟩) (fun hc => S3.ld 0 rfl (x := sp) rfl ⟨tupb ?_, rfl⟩)))
          all_goals simp only [decide_eq_true_eq, decide_eq_false_iff_not, true_iff, gt_iff_lt] at *
          all_goals omega
        rintro _ _ ⟨rfl, rfl⟩
        have x3 := eW.trans S3.upd
        refine sif_r (fun hc => ?_) (fun hc => ?_)
        · refine S3.ld 0 rfl (x := (f : Int)) rfl (S3.ld 0 rfl (x := (t : Int)) rfl (S3.ld 0 rfl (x := sp) rfl ?_))
          refine treplace_call (h.ext x3) hft hto (hp.ext x3) hsp hfit hna hput hroom fun O' M' w4 tx4 ea u4 o1 o2 => ?_
          exact ⟨O', M', tx4, ea, (Upd.of_ext x3).trans u4, o1, fun k hk => (o2 k hk).imp id fun h => by have := x3.size; omega⟩
        · simp only [decide_eq_false_iff_not, not_or] at hc
          obtain rfl : f = t := by omega
          obtain rfl : put = [] := List.length_eq_zero_iff.1 (by omega)
          exact ⟨O, M, h.ext x3, by simp [prs], Upd.of_ext x3, fun k hk => hk, fun k hk => .inl hk⟩
      · rintro _ W' hR
        exact ⟨.inr ⟨rfl, hR⟩, by show (IntKind.wrap .i64 (((0 : Nat) : Int) - 1) + 1).toNat < (((0 : Nat) : Int) + 1).toNat; decide⟩
    · simp only [decide_eq_false_iff_not] at hc; omega
  · exact sif_false hR
end
end Go.Proofs.YtabcpghhfeplaaaGreat
set_option linter.unusedSimpArgs false
set_option linter.unusedVariables false
set_option maxRecDepth 100000
namespace Go.Proofs.YtabcpghhfeplaaaGreat
open Go Go.Vx Cdc Trx Gly Clu Lns Obx
section
variable {w w' : World} {S : Nat → Prop} {p : Nat} {e : Enc} {lim na : Nat} {O : Nat → Prop} {M : Parts}
def Asc (l : List Int) : Prop := ∀ v ∈ l, 0 ≤ v ∧ v < 128
theorem Asc.app {l m : List Int} (h : Asc l) (h' : Asc m) : Asc (l ++ m) := fun v hv => (List.mem_append.1 hv).elim (h v) (h' v)
theorem Asc.fit {l : List Int} (h : Asc l) (e : Enc) : Fit e l := by
  intro v hv
  obtain ⟨h1, h2⟩ := h v hv
  refine ⟨.inl ⟨h1, by omega⟩, ?_⟩
  cases e with
  | u8 => show sz8 v ≠ 0; unfold sz8; split <;> (try split) <;> (try split) <;> (try split) <;> (try split) <;> omega
  | le => show sz16 v ≠ 0; unfold sz16; split <;> (try split) <;> (try split) <;> (try split) <;> (try split) <;> omega
  | be => show sz16 v ≠ 0; unfold sz16; split <;> (try split) <;> (try split) <;> (try split) <;> (try split) <;> omega
  | l1 => show sz1 v ≠ 0; unfold sz1; split <;> (try split) <;> (try split) <;> (try split) <;> (try split) <;> omega
theorem Asc.sz {v : Int} (h : 0 ≤ v ∧ v < 128) (e : Enc) : sz e v ≤ 4 := by
  cases e with
  | u8 => show sz8 v ≤ 4; unfold sz8; split <;> (try split) <;> (try split) <;> (try split) <;> (try split) <;> omega
  | le => show sz16 v ≤ 4; unfold sz16; split <;> (try split) <;> (try split) <;> (try split) <;> (try split) <;> omega
  | be => show sz16 v ≤ 4; unfold sz16; split <;> (try split) <;> (try split) <;> (try split) <;> (try split) <;> omega
  | l1 => show sz1 v ≤ 4; unfold sz1; split <;> (try split) <;> (try split) <;> (try split) <;> (try split) <;> omega
theorem Asc.szs {e : Enc} : ∀ {l : List Int}, Asc l → szs (prs e l) ≤ 4 * l.length
  | [], _ => Nat.le_refl _
  | a :: l, h => by
    have h1 := Asc.sz (h a List.mem_cons_self) e
    have h2 := Asc.szs (e := e) (l := l) fun x hx => h x (List.mem_cons_of_mem _ hx)
    show Cdc.szs ((a, Cdc.sz e a) :: prs e l) ≤ _
    rw [szs_cons, List.length_cons]
    show Cdc.sz e a + _ ≤ _
    omega
theorem push {r : Sl} {l : List Int} {v : Int} {b N : Nat} {K : Sl → World → Prop} (hr : SlOwn w N r 3 1 (iv l)) (hb : w.heap[b]? = some (.cells #[.int .i64 v] 3 (0, 0))) (hl : l.length < 2 ^ 40) (hN : N ≤ w.heap.size)
    (hK : ∀ r' w', SlOwn w' N r' 3 1 (iv (l ++ [v])) → Upd r.blk w w' → K r' w') :
    rawT Tryz.prog (.one (.one .sl)) (Builtin.append_ #[26, 26] 26 #[.slice r.a r.len r.cap, .slice (some (at0 b)) 1 1]) K w := by
  have hrl := hr.len1
  rw [List.length_map] at hrl
  refine append_rx eInts eInts.ts_ (x := ⟨some (at0 b), 1, 1⟩) hr (iv_box hb) (fun v hv => by rw [List.mem_singleton.1 hv]; rfl) (by
    show (r.len + 1 + (r.len + 1) / 4 + 512) * 8 ≤ 2 ^ 48
    omega) hN fun r' w' o l' u k => hK r' w' ?_ u
  have : iv (l ++ [v]) = iv l ++ [.int .i64 v] := by simp
  rw [this]; exact o
theorem many_call {n : Nat} {v : Int} (hn : n < 2 ^ 40) {K : Sl → World → Prop} (hK : ∀ s' w', SlOwn w' w.heap.size s' 3 1 (iv (List.replicate n v)) → Ext w w' → K s' w') :
    callT Tryz.prog 28 #[.int .i64 (n : Int), .int .i64 v] (.one (.one .sl)) K w := by
  refine F28_calls ?_
  unfold F28
  refine join_r (fun x W => SlOwn W w.heap.size x.1 3 1 (iv (List.replicate n v)) ∧ Ext w W) ?_ (fun x W h => hK _ _ h.1 h.2)
  refine sloop_r (fun x W => ∃ i : Nat, i ≤ n ∧ x.2 = ((i : Int), ()) ∧ SlOwn W w.heap.size x.1 3 1 (iv (List.replicate i v)) ∧ Ext w W) (fun x _ => ((n : Int) - x.2.1).toNat) ⟨0, Nat.zero_le _, rfl, SlOwn.nil _ _ _ _, Ext.refl w⟩ ?_
  rintro ⟨r, _⟩ W ⟨i, hi, rfl, hr, eW⟩
  dsimp only at hr ⊢
  refine sif_r (fun hc => ?_) (fun hc => ?_)
  · simp only [decide_eq_true_eq] at hc
    have ew : IntKind.wrap .i64 ((i : Int) + 1) = ((i + 1 : Nat) : Int) := by rw [wrap64 (by omega) (by omega)]; omega
    rw [ew]
    refine newO_r fun b7 w4 e4 n4 hb4 _ => push (hr.ext e4) n4 (by rw [List.length_replicate]; omega) (by have := eW.size; have := e4.size; omega) fun r' w5 o5 u5 => ?_
    rw [← List.replicate_succ'] at o5
    exact ⟨⟨i + 1, by omega, rfl, o5, (eW.trans e4).step u5 fun k hk => hr.blk_ge hk⟩, by omega⟩
  · simp only [decide_eq_false_iff_not] at hc
    have : i = n := by omega
    subst this
    exact ⟨hr, eW⟩
theorem joined_call {A B : List Int} {s s' : Sl} {t t' : TypeId} (hs : SlIn w s t 1 (iv A)) (hs' : SlIn w s' t' 1 (iv B)) (hA : A.length < 2 ^ 39) (hB : B.length < 2 ^ 39) {K : Sl → World → Prop} (hK : ∀ r w', SlOwn w' w.heap.size r 3 1 (iv (A ++ B)) → Ext w w' → K r w') :
    callT Tryz.prog 32 #[.slice s.a s.len s.cap, .slice s'.a s'.len s'.cap] (.one (.one .sl)) K w := by
  refine F32_calls ?_
  unfold F32
  have hlen : B.length = s'.len := by have := hs'.len1; rwa [List.length_map] at this
  refine copied_call hs (by omega) fun r1 w1 o1 e1 => ?_
  refine join_r (fun x W => SlOwn W w.heap.size x.1 3 1 (iv (A ++ B)) ∧ Ext w W) ?_ (fun x W h => hK _ _ h.1 h.2)
  refine sloop_r (fun x W => ∃ i : Nat, i ≤ B.length ∧ x.2 = ((i : Int), ()) ∧ SlOwn W w.heap.size x.1 3 1 (iv (A ++ B.take i)) ∧ Ext w W) (fun x _ => ((B.length : Int) - x.2.1).toNat) ⟨0, Nat.zero_le _, rfl, by rw [List.take_zero, List.append_nil]; exact o1, e1⟩ ?_
  rintro ⟨r, _⟩ W ⟨i, hi, rfl, hr, eW⟩
  dsimp only at hr ⊢
  refine sif_r (fun hc => ?_) (fun hc => ?_)
  · simp only [decide_eq_true_eq] at hc
    obtain ⟨a, ha⟩ : ∃ a, B[i]? = some a := ⟨_, List.getElem?_eq_getElem (by omega)⟩
    have ew : IntKind.wrap .i64 ((i : Int) + 1) = ((i + 1 : Nat) : Int) := by rw [wrap64 (by omega) (by omega)]; omega
    rw [ew]
    refine ix_ld (c := .int .i64) (xs := B) (hs'.ext eW) (by omega) (x := a) (by rw [Int.toNat_natCast]; exact ha) fun q => newO_r fun b7 w4 e4 n4 hb4 _ => ?_
    refine push (hr.ext e4) n4 (by rw [List.length_append, List.length_take]; omega) (by have := eW.size; have := e4.size; omega) fun r' w5 o5 u5 => ?_
    rw [List.append_assoc, show B.take i ++ [a] = B.take (i + 1) by rw [List.take_add_one, ha]; rfl] at o5
    exact ⟨⟨i + 1, by omega, rfl, o5, (eW.trans e4).step u5 fun k hk => hr.blk_ge hk⟩, by omega⟩
  · simp only [decide_eq_false_iff_not] at hc
    rw [List.take_of_length_le (by omega)] at hr
    exact ⟨hr, eW⟩
structure Btn (w : World) (N p : Nat) (e : Enc) (na : Nat) (O : Nat → Prop) (M : Parts) (s : Sl) : Prop where
  txt : Txt w p e 65536 na O M
  lst : SlOwn w N s 3 1 (iv (atoms (aOf e M)))
  new : ∀ k, O k → N ≤ k
theorem eEdit {f t : Nat} {b : Nat} {s : Sl} (h : w.heap[b]? = some (.cells #[.int .i64 (f : Int), .int .i64 (t : Int), .slice s.a s.len s.cap] 83 (0, 0))) : SlIn w ⟨some (at0 b), 1, 1⟩ 83 3 (flat c83 [edT f t s]) := SlIn.of_box h (n := 1) (sz := 3) rfl
set_option maxHeartbeats 1000000 in
theorem laid_call {enc : Int} {s : Sl} {t : TypeId} {ss : List Sl} {ps : List (List Int)} (hs : SlIn w s t 1 (ss.map Cell.sl.val)) (hl : ss.length = ps.length) (hp : ∀ (i : Nat) x l, ss[i]? = some x → ps[i]? = some l → ∃ t, SlIn w x t 1 (iv l)) (ha : ∀ l ∈ ps, Asc l) (hsz : ps.flatten.length ≤ 10000) (hfew : ss.length < 2 ^ 40)
    {K : (Option Addr × Sl × Unit) × Bool × Unit → World → Prop} (hK : ∀ p e O M na s' w', Btn w' w.heap.size p e na O M s' → atoms (aOf e M) = ps.flatten → Ext w w' → K ((some (at0 p), s', ()), true, ()) w') :
    callT Tryz.prog 27 #[.int .i64 enc, .slice s.a s.len s.cap] (.tup [(.agg c28), (.one .bool)]) K w := by
  refine F27_calls ?_
  unfold F27
  have hslen : ss.length = s.len := by have := hs.len1; rwa [List.length_map] at this
  refine (St.start w).newO' fun b1 w1 S1 e1 hb1 => ?_
  refine opened_call (enc := enc) (s := ⟨none, 0, 0⟩) (l := []) (SlIn.nil w1 5 1).x (by decide) fun p e O M sa w2 hB e2 hM _ => ?_
  have hM0 : aOf e M = [] := by rw [hM (by decide), ats_nil]
  have hown := hB.txt.own
  have hnew := hB.new
  have hb1' := S1.lt _ List.mem_cons_self
  refine (St.start w2).newO' fun b3 w3 S3 e3 hb3 => S3.aggSt 0 rfl rfl rfl rfl fun w4 S4 u4 => sif_false ?_
  have S4 : St (fun _ => False) w2 w4 [(b3, bothO p sa)] := S4
  have fl : ∀ i, (ps.take i).flatten.length ≤ ps.flatten.length := fun i => by
    have : ps.flatten = (ps.take i).flatten ++ (ps.drop i).flatten := by rw [← List.flatten_append, List.take_append_drop]
    rw [this, List.length_append]; omega
  refine join_r (fun x W => SlOwn W w2.heap.size x.1 3 1 (iv ps.flatten) ∧ St (fun _ => False) w2 W [(b3, bothO p sa)]) ?_ ?_
  · refine sloop_r (fun x W => ∃ i : Nat, i ≤ ss.length ∧ x.2 = ((i : Int), ()) ∧ SlOwn W w2.heap.size x.1 3 1 (iv (ps.take i).flatten) ∧ St (fun _ => False) w2 W [(b3, bothO p sa)]) (fun x _ => ((ss.length : Int) - x.2.1).toNat) ⟨0, Nat.zero_le _, rfl, SlOwn.nil _ _ _ _, S4⟩ ?_
    rintro ⟨r, _⟩ W ⟨i, hi, rfl, hr, SW⟩
    dsimp only at hr ⊢
    refine sif_r (fun hc => ?_) (fun hc => ?_)
    · simp only [decide_eq_true_eq] at hc
      obtain ⟨x, hx⟩ : ∃ x, ss[i]? = some x := ⟨_, List.getElem?_eq_getElem (by omega)⟩
      obtain ⟨l, hli⟩ : ∃ l, ps[i]? = some l := ⟨_, List.getElem?_eq_getElem (by omega)⟩
      obtain ⟨tx, hxl⟩ := hp i x l hx hli
      have ew : IntKind.wrap .i64 ((i : Int) + 1) = ((i + 1 : Nat) : Int) := by rw [wrap64 (by omega) (by omega)]; omega
      rw [ew]
      have xW : Ext w W := (e1.trans e2).trans SW.upd
      have h1 := fl i
      have e5 : (ps.take i).flatten ++ l = (ps.take (i + 1)).flatten := by rw [List.take_add_one, hli]; simp
      have h2 := fl (i + 1)
      rw [← e5, List.length_append] at h2
      refine ix_ld (c := .sl) (xs := ss) (hs.ext xW) (by omega) (x := x) (by rw [Int.toNat_natCast]; exact hx) fun q => ?_
      refine joined_call hr.in (hxl.ext xW) (by omega) (by omega) fun r' W5 o5 e5' => ?_
      rw [e5] at o5
      exact ⟨⟨i + 1, by omega, rfl, o5.mono SW.upd.size, SW.ext e5'⟩, by omega⟩
    · simp only [decide_eq_false_iff_not] at hc
      rw [List.take_of_length_le (by omega)] at hr
      exact ⟨hr, SW⟩
  rintro ⟨r, _⟩ w5 ⟨hr, S5⟩
  dsimp only at hr ⊢
  have hasc : Asc ps.flatten := fun v hv => by
    obtain ⟨l, hl, hvl⟩ := List.mem_flatten.1 hv
    exact ha l hl v hvl
  have hszs := Asc.szs (e := e) hasc
  have hfit := hasc.fit e
  have hbl := bts_len hfit
  refine S5.drew fun w6 S6 e6 _ => S6.ld 0 rfl (x := some (at0 p)) rfl ?_
  refine copied_call (hr.in.ext e6) (by omega) fun r2 w7 o7 e7 => ?_
  have S7 := S6.ext e7
  refine S7.keep 0 rfl (v := .pointer (some (at0 p))) rfl (newO_r fun b15 w8 e8 n8 hb15 _ => ?_)
  have S8 := S7.ext e8
  refine S8.keep 0 rfl (v := .pointer (some (at0 p))) rfl ?_
  have z7 := S6.upd.size
  have z8 := S7.upd.size
  refine change_call (f := 0) (t := 0) (s := ⟨some (at0 b15), 1, 1⟩) (sp := r2) (put := ps.flatten) (hB.txt.ext S8.upd) (Nat.le_refl _) (Nat.zero_le _) (eEdit n8) (fun k hk hO => ?_) (o7.in.ext e8) (fun k hk hO => ?_) hfit (by omega) (by omega) (by rw [hM0]; simpa using (by omega : szs (prs e ps.flatten) ≤ 65536)) fun O' M' w9 tx9 ea u9 o1 o2 => ?_
  · obtain ⟨q, hq, rfl⟩ := hk
    cases hq
    have : b15 < w2.heap.size := hown _ hO
    omega
  · have := o7.blk_ge hk
    have := hown _ hO
    omega
  have SO : St O w2 w8 [(b3, bothO p sa)] := ⟨Upd.of_ext S8.upd, hown, S8.loc, S8.nd⟩
  have S9 := SO.step u9 fun k hk => hk
  have r9 : SlOwn w9 w2.heap.size r 3 1 (iv ps.flatten) := (((hr.ext e6).ext e7).ext e8).upd u9 fun k _ hk hO => by
    have := hr.blk_ge hk
    have := hown _ hO
    omega
  refine S9.stC 0 rfl (by show 1 < 2; decide) fun w10 S10 u10 => ?_
  have S10 : St O w2 w10 [(b3, bothO p r)] := S10
  have g3 : w9.heap[b3]? = some (bothO p sa) := S9.at_ 0 rfl
  have hb3l : b3 < w8.heap.size := S8.lt _ List.mem_cons_self
  have nO3 : ¬ O' b3 := fun h => (o2 b3 h).elim (fun h => by have := hown _ h; omega) fun h => by omega
  have tx10 := tx9.upd u10 (fun k hk he => nO3 (he ▸ hk)) (NoTy.box g3 (by decide))
  have r10 := r9.box g3 (by decide) u10
  refine S10.lds 0 (some (at0 p), r, ()) rfl ?_
  have v1 : St (fun _ => False) w w10 [(b1, .cells #[.pointer none, .slice none 0 0] 28 (0, 0))] := (S1.ext e2).fresh S10.upd (fun k hk => .inr (by have := hnew k hk; have := e1.size; omega)) (fun x hx hO => by
    rw [List.mem_singleton.1 hx] at hO
    have := hnew _ hO
    dsimp only at *
    omega)
  refine v1.aggSt 0 rfl rfl rfl rfl fun w11 v2 u11 => v2.lds 0 (some (at0 p), r, ()) rfl ?_
  have nO1 : ¬ O' b1 := fun h => (o2 b1 h).elim (fun h => by have := hnew _ h; dsimp only at *; omega) fun h => by have := S8.upd.size; have := e2.size; dsimp only at *; omega
  have g1 : w10.heap[b1]? = some (.cells #[.pointer none, .slice none 0 0] 28 (0, 0)) := v1.at_ 0 rfl
  have tx11 := tx10.upd u11 (fun k hk he => nO1 (he ▸ hk)) (NoTy.box g1 (by decide))
  have ea' : atoms (aOf e M') = ps.flatten := by
    rw [ea, hM0]
    simp [atoms_prs]
  have zz := e1.size
  have zz2 := e2.size
  refine hK p e O' M' _ r w11 ⟨tx11, ?_, fun k hk => ?_⟩ ea' v2.upd
  · rw [ea']; exact (r10.box g1 (by decide) u11).mono (by omega)
  · rcases o2 k hk with h | h
    · have := hnew k h; omega
    · omega
end
end Go.Proofs.YtabcpghhfeplaaaGreat
set_option linter.unusedSimpArgs false
set_option linter.unusedVariables false
set_option maxRecDepth 100000
namespace Go.Proofs.YtabcpghhfeplaaaGreat
open Cdc Gly Clu Lns Obx
namespace Obx
def cls7 (n : Nat) : Nat := if n = 13 then 1 else if n = 10 then 2 else if n < 32 ∨ n = 127 then 3 else 0
def wrd7 (n : Nat) : Nat := if (9 ≤ n ∧ n ≤ 13) ∨ n = 32 then 0 else if (48 ≤ n ∧ n ≤ 57) ∨ (65 ≤ n ∧ n ≤ 90) ∨ n = 95 ∨ (97 ≤ n ∧ n ≤ 122) then 2 else 1
theorem table7 : ((List.range 128).all fun n => cls (n : Int) == cls7 n && cnj (n : Int) == 0 && wrd (n : Int) == wrd7 n) = true := by kernel_rfl
theorem asc_of {v : Int} (h : 0 ≤ v ∧ v < 128) : cls v = cls7 v.toNat ∧ cnj v = 0 ∧ wrd v = wrd7 v.toNat := by
  have h1 := List.all_eq_true.1 table7 v.toNat (List.mem_range.2 (by omega))
  have e : ((v.toNat : Nat) : Int) = v := by omega
  rw [e] at h1
  simp only [Bool.and_eq_true, beq_iff_eq] at h1
  exact ⟨h1.1.1, h1.1.2, h1.2⟩
theorem cls7_le (n : Nat) : cls7 n ≤ 3 := by unfold cls7; split <;> (try split) <;> (try split) <;> omega
def Asc7 (l : List Int) : Prop := ∀ v ∈ l, 0 ≤ v ∧ v < 128
theorem joins7 {s : Sc} {a : Int} (ha : 0 ≤ a ∧ a < 128) (hs : s.last ≤ 3) : joins s (cls a) (cnj a) = decide (s.last = 1 ∧ a = 10) := by
  obtain ⟨h1, h2, _⟩ := asc_of ha
  have h3 := cls7_le a.toNat
  rw [h1, h2]
  have h10 : cls7 a.toNat = 2 ↔ a = 10 := by unfold cls7; split <;> (try split) <;> (try split) <;> omega
  unfold joins
  by_cases hc : s.last = 1 ∧ cls7 a.toNat = 2
  · rw [if_pos hc, decide_eq_true ⟨hc.1, h10.1 hc.2⟩]
  · rw [if_neg hc, decide_eq_false (fun h => hc ⟨h.1, h10.2 h.2⟩)]
    split
    · rfl
    · rename_i hap
      simp only [not_or, apart, decide_eq_true_eq] at hap
      have e0 : s.last = 0 := by omega
      have e1 : cls7 a.toNat = 0 := by omega
      rw [e0, e1]
      rfl
theorem last7 {A : List Int} (h : Asc7 A) : ∀ k, (sc (A.take k)).last ≤ 3
  | 0 => by simp [sc, Sc.zero]
  | k + 1 => by
    by_cases hk : k < A.length
    · rw [List.take_add_one, List.getElem?_eq_getElem hk]
      show (sc (A.take k ++ [A[k]])).last ≤ 3
      rw [sc_snoc, last_stp, (asc_of (h _ (List.getElem_mem hk))).1]
      exact cls7_le _
    · have := last7 h k
      rwa [List.take_of_length_le (by omega)] at this ⊢
theorem bk7 {A : List Int} (h : Asc7 A) {k : Nat} (hk : k ≤ A.length) : bk A k = !(decide (0 < k) && (A[k - 1]? == some 13) && (A[k]? == some 10)) := by
  cases k with
  | zero => rw [bk_zero]; rfl
  | succ k =>
    by_cases he : k + 1 = A.length
    · rw [he, bk_len, List.getElem?_eq_none (Nat.le_refl A.length)]
      simp
    · have ha : A[k + 1]? = some A[k + 1] := List.getElem?_eq_getElem (by omega)
      have hb : A[k]? = some A[k] := List.getElem?_eq_getElem (by omega)
      rw [bk_at ha (by omega), joins7 (h _ (List.getElem_mem _)) (last7 h _)]
      have hl : (sc (A.take (k + 1))).last = cls7 (A[k]).toNat := by
        rw [List.take_add_one, hb]
        show (sc (A.take k ++ [A[k]])).last = _
        rw [sc_snoc, last_stp, (asc_of (h _ (List.getElem_mem _))).1]
      have h13 : cls7 (A[k]).toNat = 1 ↔ A[k] = 13 := by
        have := h A[k] (List.getElem_mem _)
        unfold cls7; split <;> (try split) <;> (try split) <;> omega
      rw [hl, ha, Nat.add_sub_cancel, hb]
      rw [Bool.eq_iff_iff]
      simp [h13]
def NoCL (A : List Int) : Prop := ∀ k : Nat, A[k]? = some 13 → A[k + 1]? ≠ some 10
theorem bk7_all {A : List Int} (h : Asc7 A) (hn : NoCL A) {k : Nat} (hk : k ≤ A.length) : bk A k = true := by
  rw [bk7 h hk]
  cases k with
  | zero => rfl
  | succ k =>
    rw [Nat.add_sub_cancel]
    cases h1 : (A[k]? == some 13) with
    | false => simp
    | true =>
      have := hn k (by simpa using h1)
      simp [this]
theorem cuts7 {A : List Int} (h : Asc7 A) (hn : NoCL A) : cuts A = List.range (A.length + 1) := by
  unfold cuts cutsTo
  rw [List.filter_eq_self]
  intro k hk
  exact bk7_all h hn (by have := List.mem_range.1 hk; omega)
theorem cels7 {A : List Int} (h : Asc7 A) (hn : NoCL A) (off : Nat) {k : Nat} {a : Int} (ha : A[k]? = some a) : (cels A off)[k]? = some ⟨off + k, off + k + 1, wrd7 a.toNat, true, a⟩ := by
  have hk := (List.getElem?_eq_some_iff.1 ha).1
  have hlen : (cels A off).length = A.length := by rw [cels_len, cuts7 h hn, List.length_range, Nat.add_sub_cancel]
  obtain ⟨c, hc⟩ : ∃ c, (cels A off)[k]? = some c := ⟨_, List.getElem?_eq_getElem (by omega)⟩
  obtain ⟨i, j, h1, h2, h3, h4, h5, h6, _, _, h7, h8, h9⟩ := (cels_ok hc).ex
  rw [cuts7 h hn] at h1 h2
  rw [List.getElem?_range (by omega)] at h1
  rw [List.getElem?_range (by omega)] at h2
  cases h1; cases h2
  rw [ha] at h7
  cases h7
  obtain ⟨_, _, hw⟩ := asc_of (h _ (List.mem_of_getElem? ha))
  rw [hc]
  obtain ⟨cf, ct, ck, ca, cat⟩ := c
  dsimp only at *
  have : ca = true := h9.2 rfl
  subst h5 h6 this
  rw [h8, hw]
  rfl
theorem cels7_len {A : List Int} (h : Asc7 A) (hn : NoCL A) (off : Nat) : (cels A off).length = A.length := by rw [cels_len, cuts7 h hn, List.length_range, Nat.add_sub_cancel]
end Obx
end Go.Proofs.YtabcpghhfeplaaaGreat
set_option linter.unusedSimpArgs false
set_option linter.unusedVariables false
set_option maxRecDepth 100000
namespace Go.Proofs.YtabcpghhfeplaaaGreat
open Trx Gly Clu Lns Obx
namespace Obx
def NoBrk (L : List Int) : Prop := ∀ v ∈ L, v ≠ 10 ∧ v ≠ 13
theorem NoBrk.cl {L : List Int} (h : NoBrk L) : NoCL L := fun k hk => absurd rfl (h 13 (List.mem_of_getElem? hk)).2
theorem run_mid {X Y : List Nat} {n v i : Nat} (hX : ∀ x, X.getLast? = some x → x ≠ v) (hY : ∀ y, Y.head? = some y → y ≠ v) (h1 : X.length ≤ i) (h2 : i < X.length + n) :
    beginP (X ++ List.replicate n v ++ Y) i = X.length ∧ endP (X ++ List.replicate n v ++ Y) i = X.length + n := by
  obtain ⟨S, hS⟩ : ∃ S, S = X ++ List.replicate n v ++ Y := ⟨_, rfl⟩
  rw [← hS]
  have hl : S.length = X.length + n + Y.length := by rw [hS]; simp; omega
  have mid : ∀ j, X.length ≤ j → j < X.length + n → S.getD j 0 = v := by
    intro j q1 q2
    rw [List.getD_eq_getElem?_getD, hS, List.getElem?_append_left (by simp; omega), List.getElem?_append_right q1, List.getElem?_replicate, if_pos (by omega)]; rfl
  constructor
  · refine begin_found h1 (fun j q1 q2 => by rw [mid j q1 (by omega), mid i h1 h2]) (fun h0 => ?_)
    rw [mid X.length (Nat.le_refl _) (by omega), List.getD_eq_getElem?_getD, hS, List.append_assoc, List.getElem?_append_left (by omega)]
    have : X.getLast? = some (X[X.length - 1]) := by rw [List.getLast?_eq_getElem?, List.getElem?_eq_getElem (by omega)]
    have := hX _ this
    rw [List.getElem?_eq_getElem (by omega)]
    exact this
  · refine endP_eq h2 (by omega) (fun j q1 q2 => by rw [mid j (by omega) q2, mid i h1 h2]) (fun h0 => ?_)
    rw [mid i h1 h2, List.getD_eq_getElem?_getD, hS, List.getElem?_append_right (by simp)]
    have e : X.length + n - (X ++ List.replicate n v).length = 0 := by simp
    rw [e]
    cases Y with
    | nil => rw [hS] at h0; simp at h0
    | cons y r => exact hY y rfl
theorem mid_at {X Y : List Nat} {n v i : Nat} (h1 : X.length ≤ i) (h2 : i < X.length + n) : (X ++ List.replicate n v ++ Y).getD i 0 = v := by
  rw [List.getD_eq_getElem?_getD, List.getElem?_append_left (by simp; omega), List.getElem?_append_right h1, List.getElem?_replicate, if_pos (by omega)]; rfl
theorem last_rep {a v x : Nat} (h : (List.replicate a v).getLast? = some x) : x = v := by
  have := List.mem_of_getLast? h
  exact (List.mem_replicate.1 this).2
end Obx
end Go.Proofs.YtabcpghhfeplaaaGreat
set_option linter.unusedSimpArgs false
set_option linter.unusedVariables false
set_option maxRecDepth 100000
namespace Go.Proofs.YtabcpghhfeplaaaGreat
open Go Go.Vx Cdc Trx Gly Clu Lns Obx
section
variable {w w' : World} {S : Nat → Prop} {p : Nat} {e : Enc} {lim na : Nat} {O : Nat → Prop} {M : Parts}
theorem spans_eq {sp : Int × Int × Int} {f t k : Int} (h : sp = (f, t, k)) {K : Bool → World → Prop} (hK : ∀ w', Ext w w' → K true w') :
    callT Tryz.prog 30 #[.agg (Cells.vals c34 (spT sp)).toArray, .int .i64 0, .int .i64 f, .int .i64 t, .int .i64 k] (.one (.one .bool)) K w := by
  subst h
  exact spans_call (sp := (f, t, k)) hK
end
end Go.Proofs.YtabcpghhfeplaaaGreat
set_option linter.unusedSimpArgs false
set_option linter.unusedVariables false
set_option maxRecDepth 100000
namespace Go.Proofs.YtabcpghhfeplaaaGreat
open Trx Gly Clu Lns Obx
namespace Obx
def fl (q a : Int) : Bool × Bool := (a == q, a == 92)
end Obx
end Go.Proofs.YtabcpghhfeplaaaGreat
set_option linter.unusedSimpArgs false
set_option linter.unusedVariables false
set_option maxRecDepth 100000
namespace Go.Proofs.YtabcpghhfeplaaaGreat
open Trx Gly Clu Lns Obx
namespace Obx
structure TbOk (H T : List Int) (o c : Int) (d : Nat) (inn : List Int) : Prop where
  h7 : Asc7 H
  t7 : Asc7 T
  fel : (o = 40 ∧ c = 41) ∨ (o = 91 ∧ c = 93) ∨ (o = 123 ∧ c = 125) ∨ (o = 60 ∧ c = 62)
  d1 : 1 ≤ d
  i7 : ∀ v ∈ inn, v = 10 ∨ (97 ≤ v ∧ v ≤ 122)
  i0 : inn[0]? = some 120
variable {H T : List Int} {o c : Int} {d : Nat} {inn : List Int}
end Obx
end Go.Proofs.YtabcpghhfeplaaaGreat
set_option linter.unusedSimpArgs false
set_option linter.unusedVariables false
set_option maxRecDepth 100000
namespace Go.Proofs.YtabcpghhfeplaaaGreat
open Trx Gly Clu Lns Obx
namespace Obx
def file : List (List Int) → List Int → List Int
  | [], R => R
  | l :: Ls, R => l ++ 10 :: file Ls R
def offs : List (List Int) → Nat → Nat
  | _, 0 => 0
  | [], _ + 1 => 0
  | l :: Ls, k + 1 => l.length + 1 + offs Ls k
theorem offs_zero (Ls : List (List Int)) : offs Ls 0 = 0 := by cases Ls <;> rfl
theorem brs_line {X : List Int} : ∀ {l : List Int}, NoBrk l → brs (l ++ 10 :: X) = 1 + brs X
  | [], _ => by rw [List.nil_append, brs]; rfl
  | a :: l, h => by
    have ha := h a List.mem_cons_self
    rw [List.cons_append, brs, brs_line (l := l) fun v hv => h v (List.mem_cons_of_mem _ hv)]
    have : isE a (l ++ 10 :: X) = false := by
      unfold isE
      simp [ha.1, ha.2]
    rw [this]; simp
theorem brs_none : ∀ {l : List Int}, NoBrk l → brs l = 0
  | [], _ => rfl
  | a :: l, h => by
    have ha := h a List.mem_cons_self
    rw [brs, brs_none (l := l) fun v hv => h v (List.mem_cons_of_mem _ hv)]
    have : isE a l = false := by unfold isE; simp [ha.1, ha.2]
    rw [this]; simp
theorem sk_line {X : List Int} {k : Nat} : ∀ {l : List Int}, NoBrk l → sk (l ++ 10 :: X) (k + 1) = (sk X k).map (· + (l.length + 1))
  | [], _ => by
    rw [List.nil_append, sk]
    have : isE 10 X = true := rfl
    rw [this]; rfl
  | a :: l, h => by
    have ha := h a List.mem_cons_self
    rw [List.cons_append, sk]
    have : isE a (l ++ 10 :: X) = false := by unfold isE; simp [ha.1, ha.2]
    rw [this]
    simp only [Bool.false_eq_true, if_false]
    rw [sk_line (l := l) fun v hv => h v (List.mem_cons_of_mem _ hv), Option.map_map]
    congr 1
def Lines (Ls : List (List Int)) : Prop := ∀ l ∈ Ls, NoBrk l
theorem sk_file {R : List Int} (hR : NoBrk R) : ∀ {Ls : List (List Int)} (k : Nat), Lines Ls → sk (file Ls R) k = if k ≤ Ls.length then some (offs Ls k) else none
  | Ls, 0, _ => by rw [sk_zero, offs_zero]; simp
  | [], k + 1, _ => by
    show sk R (k + 1) = _
    rw [sk_none R _ (by rw [brs_none hR]; omega), if_neg (by simp)]
  | l :: Ls, k + 1, h => by
    rw [file, sk_line (h l List.mem_cons_self), sk_file hR k fun x hx => h x (List.mem_cons_of_mem _ hx)]
    by_cases hk : k ≤ Ls.length
    · rw [if_pos hk, if_pos (by simpa using hk), Option.map_some, offs]
      congr 1; omega
    · rw [if_neg hk, if_neg (by simpa using hk)]; rfl
theorem brs_file {R : List Int} (hR : NoBrk R) : ∀ {Ls : List (List Int)}, Lines Ls → brs (file Ls R) = Ls.length
  | [], _ => brs_none hR
  | l :: Ls, h => by rw [file, brs_line (h l List.mem_cons_self), brs_file hR fun x hx => h x (List.mem_cons_of_mem _ hx), List.length_cons]; omega
theorem offs_succ : ∀ {Ls : List (List Int)} {i : Nat} {l : List Int}, Ls[i]? = some l → offs Ls (i + 1) = offs Ls i + l.length + 1
  | [], _, _, h => by simp at h
  | x :: Ls, 0, l, h => by cases h; simp [offs, offs_zero]
  | x :: Ls, i + 1, l, h => by
    have := offs_succ (Ls := Ls) (i := i) (l := l) (by simpa using h)
    rw [offs, this, offs]; omega
theorem file_len (R : List Int) : ∀ Ls : List (List Int), (file Ls R).length = offs Ls Ls.length + R.length
  | [] => by simp [file, offs_zero]
  | l :: Ls => by rw [file, List.length_append, List.length_cons, file_len R Ls, List.length_cons, offs]; omega
theorem file_at {R : List Int} : ∀ {Ls : List (List Int)} {i : Nat} {l : List Int} (t : Nat), Ls[i]? = some l → t ≤ l.length → (file Ls R)[offs Ls i + t]? = (l ++ [10])[t]?
  | [], _, _, _, h, _ => by simp at h
  | x :: Ls, 0, l, t, h, ht => by
    cases h
    rw [file, offs, Nat.zero_add]
    by_cases he : t = x.length
    · subst he; simp
    · rw [List.getElem?_append_left (by omega), List.getElem?_append_left (by omega)]
  | x :: Ls, i + 1, l, t, h, ht => by
    have := file_at (R := R) (Ls := Ls) (i := i) t (by simpa using h) ht
    rw [file, offs, List.getElem?_append_right (by omega), show x.length + 1 + offs Ls i + t - x.length = (offs Ls i + t) + 1 by omega, List.getElem?_cons_succ]
    exact this
theorem file_drop {R : List Int} : ∀ {Ls : List (List Int)} {i : Nat} {l : List Int}, Ls[i]? = some l → ((file Ls R).drop (offs Ls i)).take l.length = l
  | [], _, _, h => by simp at h
  | x :: Ls, 0, l, h => by cases h; rw [file, offs, List.drop_zero, List.take_left]
  | x :: Ls, i + 1, l, h => by
    have := file_drop (R := R) (Ls := Ls) (i := i) (l := l) (by simpa using h)
    rw [file, offs, show x.length + 1 + offs Ls i = x.length + (1 + offs Ls i) by omega, List.drop_length_add_append, show 1 + offs Ls i = offs Ls i + 1 by omega, List.drop_succ_cons]
    exact this
theorem file_tail (R : List Int) : ∀ Ls : List (List Int), (file Ls R).drop (offs Ls Ls.length) = R
  | [] => by simp [file, offs_zero]
  | l :: Ls => by
    rw [file, List.length_cons, offs, show l.length + 1 + offs Ls Ls.length = l.length + (1 + offs Ls Ls.length) by omega, List.drop_length_add_append, show 1 + offs Ls Ls.length = offs Ls Ls.length + 1 by omega, List.drop_succ_cons, file_tail R Ls]
variable {Ls : List (List Int)} {R : List Int}
theorem ln_file (hL : Lines Ls) (hR : NoBrk R) {i : Nat} {l : List Int} (h : Ls[i]? = some l) : lnAt (file Ls R) i = some ⟨offs Ls i, offs Ls i + l.length, offs Ls i + l.length + 1, 1⟩ := by
  have hi := (List.getElem?_eq_some_iff.1 h).1
  have hn := hL l (List.mem_of_getElem? h)
  unfold lnAt
  rw [sk_file hR i hL, if_pos (by omega), sk_file hR (i + 1) hL, if_pos (by omega), offs_succ h]
  simp only
  unfold lnC
  have h1 : (file Ls R)[offs Ls i + l.length + 1 - 1]? = some 10 := by
    rw [Nat.add_sub_cancel, file_at l.length h (Nat.le_refl _)]; simp
  rw [h1, if_neg (by simp)]
  rw [if_neg ?_]
  · simp
  · rintro ⟨g1, g2⟩
    rw [show offs Ls i + l.length + 1 - 2 = offs Ls i + (l.length - 1) by omega, file_at (l.length - 1) h (by omega), List.getElem?_append_left (by omega)] at g2
    exact (hn 13 (List.mem_of_getElem? g2)).2 rfl
theorem ln_last (hL : Lines Ls) (hR : NoBrk R) : lnAt (file Ls R) Ls.length = some ⟨offs Ls Ls.length, offs Ls Ls.length + R.length, offs Ls Ls.length + R.length, 0⟩ := by
  unfold lnAt
  rw [sk_file hR _ hL, if_pos (Nat.le_refl _), sk_file hR _ hL, if_neg (by omega)]
  simp only
  rw [file_len]
theorem lnN_file (hL : Lines Ls) (hR : NoBrk R) : lnN (file Ls R) = Ls.length + (if Ls ≠ [] ∧ R = [] then 0 else 1) := by
  unfold lnN ended
  rw [brs_file hR hL, sk_file hR _ hL, if_pos (Nat.le_refl _), file_len]
  congr 1
  by_cases hr : R = []
  · subst hr
    cases Ls with
    | nil => simp [offs]
    | cons l Ls =>
      have h1 : offs (l :: Ls) (Ls.length + 1) ≠ 0 := by rw [offs]; omega
      have h2 : 0 < offs (l :: Ls) (Ls.length + 1) := by omega
      simp [h1, h2]
  · have : 0 < R.length := List.length_pos_iff.2 hr
    have hb : (some (offs Ls Ls.length) == some (offs Ls Ls.length + R.length)) = false := by
      rw [beq_eq_false_iff_ne]
      intro h
      have := Option.some.inj h
      omega
    rw [hb, Bool.and_false, if_neg (by decide), if_neg (fun h => hr h.2)]
def sO (l : List Int) : Nat := if l.any (fun v => wrd7 v.toNat != 0) then 1 else 0
theorem any7 {l : List Int} (ha : Asc7 l) (hn : NoBrk l) (off : Nat) : (cels l off).any (fun c => c.kind != 0) = l.any (fun v => wrd7 v.toNat != 0) := by
  have e : (cels l off).map (fun c => c.kind != 0) = l.map (fun v => wrd7 v.toNat != 0) := by
    apply List.ext_getElem?
    intro k
    rw [List.getElem?_map, List.getElem?_map]
    by_cases hk : k < l.length
    · rw [cels7 ha hn.cl off (List.getElem?_eq_getElem hk), List.getElem?_eq_getElem hk]; rfl
    · rw [List.getElem?_eq_none (by rw [cels7_len ha hn.cl]; omega), List.getElem?_eq_none (by omega)]; rfl
  have h1 : ∀ {α : Type} (f : α → Bool) (l : List α), l.any f = (l.map f).any id := by intro α f l; induction l <;> simp_all
  rw [h1, e, ← h1]
theorem sortsP_len7 (A : List Int) : (sortsP A).length = lnN A := by unfold sortsP lnAll; simp
theorem sorts_file (hL : Lines Ls) (hR : NoBrk R) (h7 : ∀ l ∈ Ls, Asc7 l) (r7 : Asc7 R) : sortsP (file Ls R) = Ls.map sO ++ (if Ls ≠ [] ∧ R = [] then [] else [sO R]) := by
  have hN := lnN_file hL hR
  apply List.ext_getElem?
  intro i
  have hlen := (sortsP_len7 (file Ls R))
  by_cases hi : i < Ls.length
  · have hl : Ls[i]? = some Ls[i] := List.getElem?_eq_getElem hi
    rw [List.getElem?_append_left (by simpa using hi), List.getElem?_map, hl]
    unfold sortsP lnAll
    rw [List.getElem?_map, List.getElem?_map, List.getElem?_range (by omega), Option.map_some, Option.map_some, ln_file hL hR hl]
    simp only [Option.getD_some, Option.map_some]
    congr 1
    unfold sortLn sO
    dsimp only
    rw [Nat.add_sub_cancel_left, file_drop hl, any7 (h7 _ (List.getElem_mem hi)) (hL _ (List.getElem_mem hi))]
  · by_cases he : Ls ≠ [] ∧ R = []
    · rw [if_pos he] at hN ⊢
      rw [List.append_nil, List.getElem?_eq_none (by rw [hlen]; omega), List.getElem?_eq_none (by simpa using by omega)]
    · rw [if_neg he] at hN ⊢
      by_cases hi2 : i = Ls.length
      · subst hi2
        rw [List.getElem?_append_right (by simp)]
        unfold sortsP lnAll
        rw [List.getElem?_map, List.getElem?_map, List.getElem?_range (by omega), Option.map_some, Option.map_some, ln_last hL hR]
        simp only [Option.getD_some, List.length_map, Nat.sub_self, List.getElem?_cons_zero]
        congr 1
        unfold sortLn sO
        dsimp only
        rw [Nat.add_sub_cancel_left, file_tail, List.take_length, any7 r7 hR]
      · rw [List.getElem?_eq_none (by rw [hlen]; omega), List.getElem?_eq_none (by simp; omega)]
theorem file_app (R : List Int) : ∀ A B : List (List Int), file (A ++ B) R = file A [] ++ file B R
  | [], B => rfl
  | l :: A, B => by rw [List.cons_append, file, file, file_app R A B, List.append_assoc, List.cons_append]
theorem offs_app (B : List (List Int)) : ∀ A : List (List Int), offs (A ++ B) A.length = (file A []).length
  | [] => by simp [offs_zero, file]
  | l :: A => by rw [List.cons_append, List.length_cons, offs, offs_app B A, file, List.length_append, List.length_cons]; omega
theorem file_rep (a : Nat) : file (List.replicate a []) [] = List.replicate a 10 := by
  induction a with
  | zero => rfl
  | succ a ih => rw [List.replicate_succ, file, ih, List.replicate_succ]; rfl
theorem paras_file (hL : Lines Ls) (hR : NoBrk R) (hlen : Ls.length ≤ lnN (file Ls R)) {at_ i f t : Nat} {kind count : Int} (hk : kind = 69 ∨ kind = 70) (hc : 0 ≤ count) (hat : at_ ≤ (file Ls R).length) (hnb : nb (file Ls R) at_ = i) (hi : i < Ls.length) (hp : pickP (decide (kind = 70)) (sortsP (file Ls R)) i (times count) = some (f, t)) (ht : t ≤ Ls.length) :
    parasP (file Ls R) (at_ : Int) kind count = (((offs Ls f : Int), (offs Ls t : Int), 1), 0) := by
  have hck : checked (file Ls R).length (at_ : Int) kind count 69 70 = 0 := by unfold checked; rw [if_neg (by omega), if_neg (by omega)]
  have hb : f ≤ i ∧ i < t ∧ t ≤ (sortsP (file Ls R)).length := by
    unfold pickP at hp
    split at hp
    · exact aroundP_le hp
    · exact innerP_le hp
  have get : ∀ j, j < Ls.length → ∃ l, Ls[j]? = some l ∧ (lnAll (file Ls R))[j]? = some ⟨offs Ls j, offs Ls j + l.length, offs Ls j + l.length + 1, 1⟩ := fun j hj => by
    have hl : Ls[j]? = some Ls[j] := List.getElem?_eq_getElem hj
    refine ⟨_, hl, ?_⟩
    unfold lnAll
    rw [List.getElem?_map, List.getElem?_range (by omega), Option.map_some, ln_file hL hR hl]; rfl
  obtain ⟨l1, _, g1⟩ := get f (by omega)
  obtain ⟨l2, h2, g2⟩ := get (t - 1) (by omega)
  have hs := offs_succ h2
  rw [show t - 1 + 1 = t by omega] at hs
  unfold parasP
  rw [if_neg (by rw [hck]; decide), Int.toNat_natCast, hnb, if_neg (by omega), hp]
  dsimp only
  rw [g1, g2]
  simp only [Option.map_some, Option.getD_some]
  rw [hs]
def rowP (a n b : Nat) : List Nat := List.replicate a 0 ++ List.replicate n 1 ++ (List.replicate b 0 ++ if b = 0 then [] else [1])
theorem rowP_len (a n b : Nat) : a + n + b ≤ (rowP a n b).length ∧ (b = 0 → (rowP a n b).length = a + n) := by
  unfold rowP
  constructor
  · simp; omega
  · rintro rfl; simp
theorem rowP_mid {a n b i : Nat} (h1 : a ≤ i) (h2 : i < a + n) : beginP (rowP a n b) i = a ∧ endP (rowP a n b) i = a + n ∧ (rowP a n b).getD i 0 = 1 := by
  have := run_mid (X := List.replicate a 0) (Y := List.replicate b 0 ++ if b = 0 then [] else [1]) (n := n) (v := 1) (i := i) (fun x hx => by rw [last_rep hx]; decide) (fun y hy => by
    cases b with
    | zero => simp at hy
    | succ b => simp [List.replicate_succ] at hy; omega) (by simpa using h1) (by simpa using h2)
  have h3 := mid_at (X := List.replicate a 0) (Y := List.replicate b 0 ++ if b = 0 then [] else [1]) (n := n) (v := 1) (i := i) (by simpa using h1) (by simpa using h2)
  simp only [List.length_replicate] at this
  exact ⟨this.1, this.2, h3⟩
theorem rowP_tail {a n b : Nat} (hn : 0 < n) (hb : 0 < b) : endP (rowP a n b) (a + n) = a + n + b ∧ (rowP a n b).getD (a + n) 0 = 0 := by
  have e : rowP a n b = List.replicate a 0 ++ List.replicate n 1 ++ List.replicate b 0 ++ [1] := by unfold rowP; rw [if_neg (by omega)]; simp
  have := run_mid (X := List.replicate a 0 ++ List.replicate n 1) (Y := [1]) (n := b) (v := 0) (i := a + n) (fun x hx => by
    cases n with
    | zero => omega
    | succ n => rw [List.replicate_succ', ← List.append_assoc, List.getLast?_concat] at hx; cases hx; decide) (fun y hy => by simp at hy; omega) (by simp) (by simp; omega)
  have h3 := mid_at (X := List.replicate a 0 ++ List.replicate n 1) (Y := [1]) (n := b) (v := 0) (i := a + n) (by simp) (by simp; omega)
  rw [e]
  refine ⟨?_, h3⟩
  rw [this.2]; simp
theorem rowP_head {a n b : Nat} (hn : 0 < n) (ha : 0 < a) : beginP (rowP a n b) (a - 1) = 0 ∧ (rowP a n b).getD (a - 1) 0 = 0 := by
  have e : rowP a n b = [] ++ List.replicate a 0 ++ (List.replicate n 1 ++ (List.replicate b 0 ++ if b = 0 then [] else [1])) := by unfold rowP; simp
  have := run_mid (X := []) (Y := List.replicate n 1 ++ (List.replicate b 0 ++ if b = 0 then [] else [1])) (n := a) (v := 0) (i := a - 1) (fun x hx => by cases hx) (fun y hy => by
    cases n with
    | zero => omega
    | succ n => simp [List.replicate_succ] at hy; omega) (Nat.zero_le _) (by simp; omega)
  have h3 := mid_at (X := []) (Y := List.replicate n 1 ++ (List.replicate b 0 ++ if b = 0 then [] else [1])) (n := a) (v := 0) (i := a - 1) (Nat.zero_le _) (by simp; omega)
  rw [e]
  exact ⟨this.1, h3⟩
theorem pick_ip {a n b i : Nat} (h1 : a ≤ i) (h2 : i < a + n) : pickP false (rowP a n b) i 1 = some (a, a + n) := by
  obtain ⟨hl, _⟩ := rowP_len a n b
  obtain ⟨e1, e2, _⟩ := rowP_mid (b := b) h1 h2
  show innerP _ i 1 = _
  rw [inner_one (by omega), e1, e2]
theorem pick_ap {a n b i : Nat} (h1 : a ≤ i) (h2 : i < a + n) : pickP true (rowP a n b) i 1 = some (if b = 0 then 0 else a, a + n + b) := by
  obtain ⟨hl, hl0⟩ := rowP_len a n b
  obtain ⟨e1, e2, hat⟩ := rowP_mid (b := b) h1 h2
  have ho : overP (rowP a n b) i = i := by unfold overP; rw [if_neg (by rw [hat]; omega)]
  show aroundP _ i 1 = _
  unfold aroundP
  rw [aroundGo, ho, if_pos (by omega), e2]
  simp only [Option.map_some, hat, e1]
  rw [if_neg (by decide)]
  by_cases hb : b = 0
  · have hlen := hl0 hb
    subst hb
    rw [if_neg (by omega)]
    by_cases ha : a = 0
    · subst ha
      rw [if_neg (by omega)]; rfl
    · obtain ⟨g1, g2⟩ := rowP_head (n := n) (b := 0) (by omega) (show 0 < a by omega)
      rw [if_pos ⟨by omega, g2⟩, g1]; rfl
  · obtain ⟨g1, g2⟩ := rowP_tail (a := a) (n := n) (b := b) (by omega) (by omega)
    rw [if_pos ⟨by omega, g2⟩, g1, if_neg hb]
theorem paras_made {a b : Nat} {B G : List (List Int)} {R : List Int} (hB : ∀ l ∈ B, NoBrk l ∧ Asc7 l ∧ sO l = 1) (hG : ∀ l ∈ G, NoBrk l ∧ Asc7 l ∧ sO l = 0) (hb : G.length = b) (hR : R = if b = 0 then [] else [122]) (hB0 : 0 < B.length) {p : Nat} (h1 : a ≤ p) (h2 : p < a + (file B []).length) :
    parasP (file (List.replicate a [] ++ (B ++ G)) R) (p : Int) 69 0 = (((a : Int), ((a + (file B []).length : Nat) : Int), 1), 0) ∧
    parasP (file (List.replicate a [] ++ (B ++ G)) R) (p : Int) 70 0 = ((((if b = 0 then 0 else a : Nat) : Int), ((a + (file B []).length + (file G []).length : Nat) : Int), 1), 0) := by
  obtain ⟨Ls, hLs⟩ : ∃ Ls, Ls = List.replicate a [] ++ (B ++ G) := ⟨_, rfl⟩
  have all : ∀ l ∈ Ls, NoBrk l ∧ Asc7 l := by
    intro l hl
    rw [hLs] at hl
    simp only [List.mem_append, List.mem_replicate] at hl
    rcases hl with ⟨_, rfl⟩ | hl | hl
    · exact ⟨fun v hv => by simp at hv, fun v hv => by simp at hv⟩
    · exact ⟨(hB l hl).1, (hB l hl).2.1⟩
    · exact ⟨(hG l hl).1, (hG l hl).2.1⟩
  have hL : Lines Ls := fun l hl => (all l hl).1
  have hRb : NoBrk R := by rw [hR]; split <;> intro v hv <;> simp at hv; omega
  have hR7 : Asc7 R := by rw [hR]; split <;> intro v hv <;> simp at hv; omega
  have hlenL : Ls.length = a + B.length + b := by rw [hLs]; simp; omega
  have hne : Ls ≠ [] := fun h => by rw [h] at hlenL; simp at hlenL; omega
  have hN := lnN_file hL hRb
  have o1 : offs Ls a = a := by
    have := offs_app (B ++ G) (List.replicate a [])
    rw [List.length_replicate, file_rep, List.length_replicate] at this
    rw [hLs]; exact this
  have o2 : offs Ls (a + B.length) = a + (file B []).length := by
    have := offs_app G (List.replicate a [] ++ B)
    rw [List.length_append, List.length_replicate, file_app, file_rep, List.length_append, List.length_replicate, List.append_assoc] at this
    rw [hLs]; exact this
  have o3 : offs Ls (a + B.length + b) = a + (file B []).length + (file G []).length := by
    have := offs_app [] (List.replicate a [] ++ (B ++ G))
    rw [List.append_nil, file_app, file_rep, file_app] at this
    simp only [List.length_append, List.length_replicate] at this
    rw [hLs, ← hb, show a + B.length + G.length = a + (B.length + G.length) by omega, this]; omega
  have hS : sortsP (file Ls R) = rowP a B.length b := by
    rw [sorts_file hL hRb (fun l hl => (all l hl).2) hR7, hLs, List.map_append, List.map_append]
    have m1 : (List.replicate a ([] : List Int)).map sO = List.replicate a 0 := by rw [List.map_replicate]; rfl
    have m2 : B.map sO = List.replicate B.length 1 := by
      rw [List.eq_replicate_iff]
      refine ⟨List.length_map _, fun x hx => ?_⟩
      obtain ⟨l, hl, rfl⟩ := List.mem_map.1 hx
      exact (hB l hl).2.2
    have m3 : G.map sO = List.replicate b 0 := by
      rw [List.eq_replicate_iff]
      refine ⟨by rw [List.length_map, hb], fun x hx => ?_⟩
      obtain ⟨l, hl, rfl⟩ := List.mem_map.1 hx
      exact (hG l hl).2.2
    rw [m1, m2, m3]
    unfold rowP
    rw [← hLs]
    by_cases h0 : b = 0
    · rw [if_pos h0] at hR
      rw [if_pos ⟨hne, hR⟩, if_pos h0]; simp
    · rw [if_neg h0] at hR
      rw [if_neg (fun h => by rw [hR] at h; simp at h), if_neg h0, hR]
      simp
      decide
  have hlt : p ≤ (file Ls R).length := by
    rw [file_len, hlenL, o3]; omega
  have hge : ∀ j, j < Ls.length → nb (file Ls R) (offs Ls j) = j := fun j hj => (ln_ok (ln_file hL hRb (List.getElem?_eq_getElem hj))).nbF
  obtain ⟨i, hi⟩ : ∃ i, nb (file Ls R) p = i := ⟨_, rfl⟩
  have hi1 : a ≤ i := by
    have := nb_mono (file Ls R) (offs Ls a) p (by omega)
    rw [hge a (by omega)] at this; omega
  have hi2 : i < a + B.length := by
    have hj : a + B.length - 1 < Ls.length := by omega
    have ok := ln_ok (ln_file hL hRb (List.getElem?_eq_getElem hj))
    have hs := offs_succ (List.getElem?_eq_getElem hj)
    rw [show a + B.length - 1 + 1 = a + B.length by omega, o2] at hs
    by_cases hq : offs Ls (a + B.length - 1) ≤ p
    · have := ok.nbf p hq (by dsimp only; omega)
      omega
    · have := nb_mono (file Ls R) p (offs Ls (a + B.length - 1)) (by omega)
      rw [hge _ hj] at this; omega
  have hlN : Ls.length ≤ lnN (file Ls R) := by rw [hN]; omega
  rw [← hLs]
  constructor
  · have := paras_file hL hRb hlN (kind := 69) (count := 0) (.inl rfl) (by decide) hlt hi (by omega) (f := a) (t := a + B.length) (by rw [hS]; exact pick_ip hi1 hi2) (by omega)
    rw [this, o1, o2]
  · have := paras_file hL hRb hlN (kind := 70) (count := 0) (.inr rfl) (by decide) hlt hi (by omega) (f := if b = 0 then 0 else a) (t := a + B.length + b) (by rw [hS]; exact pick_ap hi1 hi2) (by omega)
    rw [this, o3]
    congr 2
    split
    · rw [offs_zero]
    · rw [o1]
end Obx
end Go.Proofs.YtabcpghhfeplaaaGreat
set_option linter.unusedSimpArgs false
set_option linter.unusedVariables false
set_option maxRecDepth 100000
namespace Go.Proofs.YtabcpghhfeplaaaGreat
open Go Go.Vx Cdc Trx Gly Clu Lns Obx
section
variable {w w' : World} {S : Nat → Prop} {p : Nat} {e : Enc} {lim na : Nat} {O : Nat → Prop} {M : Parts}
def blnP (v : Int) : List Int := List.replicate (within v 3) 32 ++ [121]
def linB (l : List Int) : List (List Int) := [120] :: (l.take 16).map blnP
def linG (b : Nat) : List (List Int) := (List.range b).map fun i => List.replicate (i % 3) 9
theorem blnP_ok (v : Int) : NoBrk (blnP v) ∧ Asc7 (blnP v) ∧ sO (blnP v) = 1 ∧ (blnP v).length ≤ 4 := by
  have hm : ∀ x ∈ blnP v, x = 32 ∨ x = 121 := by
    intro x hx
    unfold blnP at hx
    simp only [List.mem_append, List.mem_replicate, List.mem_singleton] at hx
    rcases hx with h | h
    · exact .inl h.2
    · exact .inr h
  refine ⟨fun x hx => by have := hm x hx; omega, fun x hx => by have := hm x hx; omega, ?_, ?_⟩
  · unfold sO blnP
    rw [if_pos]
    rw [List.any_append]
    have : ([121] : List Int).any (fun v => wrd7 v.toNat != 0) = true := by decide
    rw [this, Bool.or_true]
  · have := within_le v 3
    unfold blnP; simp; omega
theorem linB_ok (l : List Int) : ∀ x ∈ linB l, NoBrk x ∧ Asc7 x ∧ sO x = 1 ∧ x.length ≤ 4 := by
  intro x hx
  rcases List.mem_cons.1 hx with rfl | hx
  · exact ⟨fun v hv => by simp at hv; omega, fun v hv => by simp at hv; omega, by decide, by decide⟩
  · obtain ⟨v, _, rfl⟩ := List.mem_map.1 hx
    exact blnP_ok v
theorem linG_ok (b : Nat) : ∀ x ∈ linG b, NoBrk x ∧ Asc7 x ∧ sO x = 0 ∧ x.length ≤ 4 := by
  intro x hx
  obtain ⟨i, _, rfl⟩ := List.mem_map.1 hx
  have hm : ∀ v ∈ List.replicate (i % 3) (9 : Int), v = 9 := fun v hv => (List.mem_replicate.1 hv).2
  refine ⟨fun v hv => by have := hm v hv; omega, fun v hv => by have := hm v hv; omega, ?_, by rw [List.length_replicate]; omega⟩
  unfold sO
  rw [if_neg]
  rw [List.any_eq_true]
  rintro ⟨v, hv, h⟩
  rw [hm v hv] at h
  exact absurd h (by decide)
theorem file_few : ∀ {X : List (List Int)}, (∀ l ∈ X, l.length ≤ 4) → (file X []).length ≤ 5 * X.length
  | [], _ => by simp [file]
  | l :: X, h => by
    have h1 := h l List.mem_cons_self
    have h2 := file_few (X := X) fun x hx => h x (List.mem_cons_of_mem _ hx)
    rw [file, List.length_append, List.length_cons, List.length_cons]; omega
theorem file_snoc (X : List (List Int)) (l : List Int) : file (X ++ [l]) [] = file X [] ++ l ++ [10] := by rw [file_app]; simp [file]
theorem file_asc {X : List (List Int)} (h : ∀ l ∈ X, Asc7 l) : Asc7 (file X []) := by
  induction X with
  | nil => intro v hv; simp [file] at hv
  | cons l X ih =>
    intro v hv
    rw [file] at hv
    rcases List.mem_append.1 hv with hv | hv
    · exact h l List.mem_cons_self v hv
    · rcases List.mem_cons.1 hv with rfl | hv
      · omega
      · exact ih (fun x hx => h x (List.mem_cons_of_mem _ hx)) v hv
set_option maxHeartbeats 1000000 in
theorem paraMade_walk {enc ah be at_ : Int} {s2 : Sl} {ls : List Int} (h2 : SlX w s2 1 (iv ls)) (n2 : ls.length < 2 ^ 60) (j2 : ∀ n ∈ ls, In64 n) (ia : In64 ah) (ib : In64 be) (ip : In64 at_) {K : Bool → World → Prop} (hK : ∀ w', Ext w w' → K true w') :
    callT Tryz.prog 15 #[.int .i64 enc, .int .i64 ah, .slice s2.a s2.len s2.cap, .int .i64 be, .int .i64 at_] (.one (.one .bool)) K w := by
  refine F15_calls ?_
  unfold F15
  have hl2 : ls.length = s2.len := by have := h2.len1; rwa [List.length_map] at this
  refine within_call (n := 4) ia (by decide) (within_call (n := 4) ib (by decide) ?_)
  have ha4 := within_le ah 4
  have hb4 := within_le be 4
  generalize within ah 4 = a at *
  generalize within be 4 = b at *
  refine newO_r fun b3 w1 e1 n3 hb3 _ => ?_
  have ow1 : SlOwn w1 w.heap.size ⟨some (at0 b3), 2, 2⟩ 3 1 (iv (file [[120]] [])) :=
    ⟨by simp [file], Nat.le_refl _, .inr ⟨b3, 0, _, rfl, by omega, n3, by show 0 + 2 * 1 ≤ 2; omega, fun i u hu => by rw [Nat.zero_add]; simpa [file] using hu⟩⟩
  have lim16 : ∀ i, (file ([120] :: (ls.take i).map blnP) []).length ≤ 5 * (i + 1) := fun i => by
    have := file_few (X := [120] :: (ls.take i).map blnP) fun l hl => by
      rcases List.mem_cons.1 hl with rfl | hl
      · decide
      · obtain ⟨v, _, rfl⟩ := List.mem_map.1 hl; exact (blnP_ok v).2.2.2
    rw [List.length_cons, List.length_map, List.length_take] at this
    omega
  refine join_r (fun x W => SlOwn W w.heap.size x.1 3 1 (iv (file (linB ls) [])) ∧ Ext w W) ?_ ?_
  · refine sloop_r (fun x W => ∃ i : Nat, i ≤ ls.length ∧ i ≤ 16 ∧ x.2 = ((i : Int), ()) ∧ SlOwn W w.heap.size x.1 3 1 (iv (file ([120] :: (ls.take i).map blnP) [])) ∧ Ext w W) (fun x _ => ((16 : Int) - x.2.1).toNat) ⟨0, Nat.zero_le _, Nat.zero_le _, rfl, ow1, e1⟩ ?_
    rintro ⟨r, _⟩ W ⟨i, hi, hi2, rfl, hr, eW⟩
    dsimp only at hr ⊢
    refine join_r (fun x W' => x = (decide (i < ls.length ∧ i < 16), ()) ∧ W = W') ?_ ?_
    · refine sif_r (fun h => ⟨tupb ?_, rfl⟩) (fun h => ⟨tupb ?_, rfl⟩)
      all_goals simp only [decide_eq_true_eq, decide_eq_false_iff_not, Bool.false_eq_true, false_iff] at *
      all_goals omega
    rintro _ _ ⟨rfl, rfl⟩
    refine sif_r (fun hc => ?_) (fun hc => ?_)
    · simp only [decide_eq_true_eq] at hc
      obtain ⟨v, hv⟩ : ∃ v, ls[i]? = some v := ⟨_, List.getElem?_eq_getElem hc.1⟩
      have ew : IntKind.wrap .i64 ((i : Int) + 1) = ((i + 1 : Nat) : Int) := by rw [wrap64 (by omega) (by omega)]; omega
      rw [ew]
      have hlim := lim16 i
      have hwl := within_le v 3
      have e5 : [120] :: (ls.take (i + 1)).map blnP = ([120] :: (ls.take i).map blnP) ++ [blnP v] := by rw [List.take_add_one, hv]; simp
      refine ix_ldX (c := .int .i64) (xs := ls) (h2.ext eW) (by omega) (x := v) (by rw [Int.toNat_natCast]; exact hv) fun q' => ?_
      refine within_call (n := 3) (j2 v (List.mem_of_getElem? hv)) (by decide) ?_
      refine many_call (n := within v 3) (v := 32) (by omega) fun s13 w2 o13 e2 => ?_
      refine joined_call (hr.ext e2).in o13.in (by omega) (by rw [List.length_replicate]; omega) fun s14 w3 o14 e3 => ?_
      have x3 := (eW.trans e2).trans e3
      have o14 := o14.mono (eW.trans e2).size
      refine newO_r fun b15 w4 e4 n4 hb4' _ => push (o14.ext e4) n4 (by rw [List.length_append, List.length_replicate]; omega) (by have := x3.size; have := e4.size; omega) fun s16 w5 o5 u5 => ?_
      have x5 : Ext w w5 := (x3.trans e4).step u5 fun k hk => o14.blk_ge hk
      refine newO_r fun b17 w6 e6 n6 hb6 _ => push (o5.ext e6) n6 (by rw [List.length_append, List.length_append, List.length_replicate, List.length_singleton]; omega) (by have := x5.size; have := e6.size; omega) fun s18 w7 o7 u7 => ?_
      have e7 : file ([120] :: (ls.take i).map blnP) [] ++ List.replicate (within v 3) 32 ++ [121] ++ [10] = file ([120] :: (ls.take (i + 1)).map blnP) [] := by
        rw [e5, file_snoc]; unfold blnP; simp
      rw [e7] at o7
      exact ⟨⟨i + 1, by omega, by omega, rfl, o7, (x5.trans e6).step u7 fun k hk => o5.blk_ge hk⟩, by omega⟩
    · simp only [decide_eq_false_iff_not] at hc
      have : ls.take i = ls.take 16 := by
        by_cases h : i = 16
        · rw [h]
        · rw [List.take_of_length_le (by omega), List.take_of_length_le (by omega)]
      rw [this] at hr
      exact ⟨hr, eW⟩
  rintro ⟨sb, _⟩ w2 ⟨ob, e2⟩
  dsimp only at ob ⊢
  have hB := linB_ok ls
  have hB0 : 0 < (linB ls).length := by unfold linB; simp
  have hBl : (file (linB ls) []).length ≤ 100 := by
    have := lim16 16
    show (file ([120] :: (ls.take 16).map blnP) []).length ≤ 100
    omega
  have hBp : 0 < (file (linB ls) []).length := by unfold linB; simp [file]
  generalize linB ls = B at *
  have lB : (file B []).length = sb.len := by have := ob.len1; rwa [List.length_map] at this
  have glim : ∀ i, (file (linG i) []).length ≤ 5 * i := fun i => by
    have := file_few (X := linG i) fun l hl => (linG_ok i l hl).2.2.2
    have h2 : (linG i).length = i := by unfold linG; simp
    omega
  refine join_r (fun x W => SlOwn W w2.heap.size x.1 3 1 (iv (file (linG b) [])) ∧ Ext w2 W) ?_ ?_
  · refine sloop_r (fun x W => ∃ i : Nat, i ≤ b ∧ x.2 = ((i : Int), ()) ∧ SlOwn W w2.heap.size x.1 3 1 (iv (file (linG i) [])) ∧ Ext w2 W) (fun x _ => ((b : Int) - x.2.1).toNat) ⟨0, Nat.zero_le _, rfl, SlOwn.nil _ _ _ _, Ext.refl w2⟩ ?_
    rintro ⟨r, _⟩ W ⟨i, hi, rfl, hr, eW⟩
    dsimp only at hr ⊢
    refine sif_r (fun hc => ?_) (fun hc => ?_)
    · simp only [decide_eq_true_eq] at hc
      have ew : IntKind.wrap .i64 ((i : Int) + 1) = ((i + 1 : Nat) : Int) := by rw [wrap64 (by omega) (by omega)]; omega
      have em : Int.tmod (i : Int) 3 = ((i % 3 : Nat) : Int) := by rw [Int.tmod_eq_emod_of_nonneg (by omega)]; omega
      rw [ew, em]
      have hlim := glim i
      have e5 : linG (i + 1) = linG i ++ [List.replicate (i % 3) 9] := by unfold linG; rw [List.range_succ, List.map_append]; rfl
      refine chk_r (by decide) (many_call (n := i % 3) (v := 9) (by omega) fun s23 w3 o23 e3 => ?_)
      refine joined_call (hr.ext e3).in o23.in (by omega) (by rw [List.length_replicate]; omega) fun s24 w4 o24 e4 => ?_
      have x4 := (eW.trans e3).trans e4
      have o24 := o24.mono (eW.trans e3).size
      refine newO_r fun b25 w5 e5' n5 hb5 _ => push (o24.ext e5') n5 (by rw [List.length_append, List.length_replicate]; omega) (by have := x4.size; have := e5'.size; omega) fun s26 w6 o6 u6 => ?_
      have e7 : file (linG i) [] ++ List.replicate (i % 3) 9 ++ [10] = file (linG (i + 1)) [] := by rw [e5, file_snoc]
      rw [e7] at o6
      exact ⟨⟨i + 1, by omega, rfl, o6, (x4.trans e5').step u6 fun k hk => o24.blk_ge hk⟩, by omega⟩
    · simp only [decide_eq_false_iff_not] at hc
      have : i = b := by omega
      subst this
      exact ⟨hr, eW⟩
  rintro ⟨sg, _⟩ w3 ⟨og, e3⟩
  dsimp only at og ⊢
  have hG := linG_ok b
  have hGl := glim b
  have hGn : (linG b).length = b := by unfold linG; simp
  generalize linG b = G at *
  have lG : (file G []).length = sg.len := by have := og.len1; rwa [List.length_map] at this
  refine newO_r fun b27 w4 e4 n4 hb4' _ => ?_
  obtain ⟨R, hR⟩ : ∃ R : List Int, R = if b = 0 then [] else [122] := ⟨_, rfl⟩
  refine join_r (fun x W => SlIn W x.1 3 1 (iv R) ∧ w4 = W) ?_ ?_
  · refine sif_r (fun hc => ⟨?_, rfl⟩) (fun hc => ⟨?_, rfl⟩)
    · simp only [beq_iff_eq] at hc
      rw [hR, if_pos (by omega)]
      exact SlIn.nil _ _ _
    · simp only [beq_eq_false_iff_ne, ne_eq] at hc
      rw [hR, if_neg (by omega)]
      exact SlIn.of_box n4 (n := 1) (sz := 1) rfl
  rintro ⟨sr, _⟩ _ ⟨or_, rfl⟩
  dsimp only at or_ ⊢
  refine many_call (n := a) (v := 10) (by omega) fun s30 w5 o30 e5 => ?_
  refine newO_r fun b31 w6 e6 n6 hb6 _ => ?_
  have x46 := e5.trans e6
  have x36 := e4.trans x46
  have x26 := e3.trans x36
  have x06 := e2.trans x26
  have hRl : R.length ≤ 1 := by rw [hR]; split <;> simp
  have hRa : Asc R := by rw [hR]; split <;> intro v hv <;> simp at hv; omega
  have hflat : ([List.replicate a 10, file B [], file G [], R] : List (List Int)).flatten = file (List.replicate a [] ++ (B ++ G)) R := by
    have h1 := file_app R (List.replicate a [] ++ (B ++ G)) []
    rw [List.append_nil, file_app [], file_rep, file_app []] at h1
    rw [h1]; simp [file]
  refine laid_call (enc := enc) (s := ⟨some (at0 b31), 4, 4⟩) (t := 26) (ss := [s30, sb, sg, sr]) (ps := [List.replicate a 10, file B [], file G [], R]) (SlIn.of_box n6 (n := 4) (sz := 1) rfl) rfl (fun i x l hx hl => ?_) (fun l hl => ?_) (by
      simp only [List.flatten_cons, List.flatten_nil, List.length_append, List.length_replicate, List.length_nil]
      omega) (by show 4 < 2 ^ 40; omega) fun p e O M na s' w10 hBt hat e10 => ?_
  · match i, hx, hl with
    | 0, hx, hl => cases hx; cases hl; exact ⟨_, (o30.ext e6).in⟩
    | 1, hx, hl => cases hx; cases hl; exact ⟨_, (ob.ext x26).in⟩
    | 2, hx, hl => cases hx; cases hl; exact ⟨_, (og.ext x36).in⟩
    | 3, hx, hl => cases hx; cases hl; exact ⟨_, or_.ext x46⟩
    | i + 4, hx, hl => simp at hx
  · simp only [List.mem_cons, List.not_mem_nil, or_false] at hl
    rcases hl with rfl | rfl | rfl | rfl
    · intro v hv; rw [(List.mem_replicate.1 hv).2]; omega
    · exact file_asc fun l hl => (hB l hl).2.1
    · exact file_asc fun l hl => (hG l hl).2.1
    · exact hRa
  rw [hflat] at hat
  have tx := hBt.txt
  have x10 := x06.trans e10
  refine (St.start w10).newO fun b33 w11 S11 e11 => S11.aggSt 0 rfl rfl rfl rfl fun w12 S12 u12 => sif_false ?_
  have S12 : St (fun _ => False) w10 w12 [(b33, bothO p s')] := S12
  have ewl : IntKind.wrap .i64 ((sb.len : Int) - 1) = (((file B []).length - 1 : Nat) : Int) := by rw [wrap64 (by omega) (by omega)]; omega
  rw [ewl]
  refine within_call (n := (file B []).length - 1) ip (by omega) ?_
  have hi := within_le at_ ((file B []).length - 1)
  generalize within at_ ((file B []).length - 1) = ix at *
  obtain ⟨nB, hnB⟩ : ∃ n, n = (file B []).length := ⟨_, rfl⟩
  obtain ⟨nG, hnG⟩ : ∃ n, n = (file G []).length := ⟨_, rfl⟩
  obtain ⟨g1, g2⟩ := paras_made (a := a) (b := b) (fun l hl => ⟨(hB l hl).1, (hB l hl).2.1, (hB l hl).2.2.1⟩) (fun l hl => ⟨(hG l hl).1, (hG l hl).2.1, (hG l hl).2.2.1⟩) hGn hR hB0 (p := a + ix) (by omega) (by omega)
  rw [← hnB] at g1 g2 hi hBl hBp lB
  rw [← hnG] at g2 hGl lG
  have eP : IntKind.wrap .i64 ((a : Int) + (ix : Int)) = ((a + ix : Nat) : Int) := by rw [wrap64 (by omega) (by omega)]; omega
  have eT : IntKind.wrap .i64 ((a : Int) + (sb.len : Int)) = ((a + nB : Nat) : Int) := by rw [wrap64 (by omega) (by omega)]; omega
  have eT2 : IntKind.wrap .i64 (((a + nB : Nat) : Int) + (sg.len : Int)) = ((a + nB + nG : Nat) : Int) := by rw [wrap64 (by omega) (by omega)]; omega
  rw [eP, eT, eT2]
  refine S12.ld 0 rfl (x := some (at0 p)) rfl ?_
  refine paras_call (kind := 69) (count := 0) (arg := 0) (tx.ext S12.upd) (by decide) fun w13 e13 => ?_
  rw [hat, g1]
  refine (S12.ext e13).newO fun b37 w14 S14 e14 => S14.aggSt 0 rfl rfl rfl rfl fun w15 S15 u15 => S15.lds 0 (spT ((a : Int), ((a + nB : Nat) : Int), 1)) rfl ?_
  refine spans_eq rfl fun w16 e16 => sif_false ?_
  have S16 := S15.ext e16
  refine join_r (fun x W => x = (((if b = 0 then 0 else a : Nat) : Int), ()) ∧ w16 = W) ?_ ?_
  · refine sif_r (fun hc => ⟨?_, rfl⟩) (fun hc => ⟨?_, rfl⟩)
    · simp only [beq_iff_eq] at hc
      rw [if_pos (by omega)]; rfl
    · simp only [beq_eq_false_iff_ne, ne_eq] at hc
      rw [if_neg (by omega)]
  rintro _ _ ⟨rfl, rfl⟩
  refine S16.ld 1 rfl (x := some (at0 p)) rfl ?_
  refine take_call (kind := 70) (count := 0) (arg := 0) (tx.ext S16.upd) (by decide) fun w17 e17 => ?_
  have htk : takeP (file (List.replicate a [] ++ (B ++ G)) R) ((a + ix : Nat) : Int) 70 0 0 = ((((if b = 0 then 0 else a : Nat) : Int), ((a + nB + nG : Nat) : Int), 1), 0) := g2
  rw [hat, htk]
  refine (S16.ext e17).aggSt 0 rfl rfl rfl rfl fun w18 S18 u18 => S18.lds 0 (spT (((if b = 0 then 0 else a : Nat) : Int), ((a + nB + nG : Nat) : Int), 1)) rfl ?_
  exact spans_eq rfl fun w19 e19 => hK w19 (x10.trans (S18.ext e19).upd)
end
end Go.Proofs.YtabcpghhfeplaaaGreat
set_option linter.unusedSimpArgs false
set_option linter.unusedVariables false
namespace Go.Proofs.YtabcpghhfeplaaaGreat
open Go Go.Vx Go.ChangeShapes Go.WideShapes Go.RowKit
set_option maxRecDepth 100000 in
theorem objectParaMade_lifted (os : Os) (started : os.Started) (H : Type) (enc : TypeId × Value → H) :
    ReturnsInHanded {} Tryz.checked os 15 .any (Rows.objectParaMadeSpec.pre6 enc Tryz.prog Tryz.f15 Rows.objectParaMadeRow.domain false) (Rows.objectParaMadeSpec.post enc Tryz.prog Tryz.f15 false true false false) := by
  refine returnsInHanded_of_change_sized (C := Tryz.checked) Tryz.own started (by kernel_rfl) Tryz.func15
    (ChangeSpec.witness6 (enc := enc) (C := Tryz.checked) false ⟨#[], #[.int .i64 0, .int .i64 0, .slice none 0 0, .int .i64 0, .int .i64 0], []⟩ 8 (by kernel_rfl) (by kernel_rfl) (by kernel_rfl) (by kernel_rfl)) ?_
  intro W base args ds gs before hval0 hW _ hwt0 _
  have hval : ∀ (j : Nat) t v, Tryz.f15.params[j]? = some t → args[j]? = some v → Value.okWide Tryz.prog W .any base t v := hval0
  have hwt : (DataW.weightsEach Tryz.prog (Tryz.f15.params.toList ++ []) (ds ++ gs)).all (· ≤ reachBytes) = true := hwt0
  have hW' := hW
  obtain ⟨p, q, hA0, hV, rfl, hfz, hnd⟩ := hW
  have hA : DataW.TrodAll enc Tryz.prog W 0 (fun _ => true) true Tryz.f15.params.toList args.toList ds p := hA0
  clear hA0 hval0 hwt0
  rw [Tryz.params15] at hA hval hwt
  obtain ⟨rfl, rfl⟩ := trodVars_none hV
  obtain ⟨hn1, hn2, hT⟩ := trodAll_get hA
  obtain ⟨v0, v1, v2, v3, v4, hv⟩ := list_5 args.toList hn1
  obtain rfl : args = #[v0, v1, v2, v3, v4] := by cases args; simp_all
  obtain ⟨d0, d1, d2, d3, d4, rfl⟩ := list_5 ds hn2
  obtain ⟨p0, q0⟩ := hT 0 3 v0 d0 rfl rfl rfl
  obtain ⟨a0, rfl, i0⟩ := arg_int (hval 0 3 v0 rfl rfl) q0 (weigh hwt 0 rfl rfl)
  obtain ⟨p1, q1⟩ := hT 1 3 v1 d1 rfl rfl rfl
  obtain ⟨a1, rfl, i1⟩ := arg_int (hval 1 3 v1 rfl rfl) q1 (weigh hwt 1 rfl rfl)
  obtain ⟨p2, q2⟩ := hT 2 26 v2 d2 rfl rfl rfl
  obtain ⟨s2, l2, rfl, h2, n2, j2⟩ := arg_ints (hval 2 26 v2 rfl rfl) q2 (weigh hwt 2 rfl rfl)
  obtain ⟨p3, q3⟩ := hT 3 3 v3 d3 rfl rfl rfl
  obtain ⟨a3, rfl, i3⟩ := arg_int (hval 3 3 v3 rfl rfl) q3 (weigh hwt 3 rfl rfl)
  obtain ⟨p4, q4⟩ := hT 4 3 v4 d4 rfl rfl rfl
  obtain ⟨a4, rfl, i4⟩ := arg_int (hval 4 3 v4 rfl rfl) q4 (weigh hwt 4 rfl rfl)
  have walk := paraMade_walk (enc := a0) h2 (by omega) j2 i1 i3 i4 (K := fun r w' => r = true ∧ Ext W w') fun w' e => ⟨rfl, e⟩
  refine walk.mono fun e W' ⟨x, he, hx, hext⟩ => ⟨.bool true, ?_, ?_⟩
  · subst hx; exact he
  · exact post_same hW' rfl rfl u4 rfl Tryz.laidOut (fun t ht => by
      rw [Tryz.params15] at ht
      have ht : t ∈ [3, 3, 26, 3, 3] := ht
      simp only [List.mem_cons, List.not_mem_nil, or_false] at ht
      rcases ht with rfl | rfl | rfl | rfl | rfl <;> exact recs (by simp)) hext
theorem objectParaMade_holds : Rows.ObjectParaMadeSaid :=
  OpenClaim.holds_of_wide 15 Tryz.f15 rfl rfl rfl rfl rfl rfl rfl ⟨rfl, rfl, rfl, rfl, rfl⟩ rfl rfl rfl rfl rfl (by kernel_rfl) Tryz.func15 (by kernel_rfl)
    (of_decide_eq_true (by kernel_rfl)) (by unfold Func.isWrapper; rw [if_neg (by decide +kernel)]; exact ⟨rfl, rfl⟩)
    (fun os started H enc _ => objectParaMade_lifted os started H enc)
end Go.Proofs.YtabcpghhfeplaaaGreat
