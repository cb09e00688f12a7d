/- The law's steps: each answers true and keeps the two worlds alike. Conditions: the steps lie as StepsIn says. -/
import Derived.Test.YtocdfkeflakemaaWld
import Derived.Test.YtocdfkeflakemaaOpen
set_option linter.unusedSimpArgs false
set_option linter.unusedVariables false
namespace Go.Proofs.Ytocdfkeflakemaa
open Go Go.Vx
section
variable {w0 w w' : World} {x np nr : Nat} {p m r : Nat → Nat} {pen : Sl} {Z : Nat → Prop} {bk rk : Nat → Reg.Bk}

theorem wget_call {i : Nat} {a2 : Int} {K : Bool → World → Prop} (h : WIn w0 w x 2 2 p m r pen Z bk bk) (hi : i < 2) (hK : ∀ w', Ext w w' → K true w') :
    callT Try.prog 25 #[.pointer (some (at0 x)), .int .i64 (i : Int), .int .i64 a2] (.one (.one .bool)) K w := by
  refine F25_calls ?_
  unfold F25
  have hB := h.bank i hi
  have hgl := get_len hB a2
  refine nn_some (chk_r ⟨by omega, by omega⟩ ?_)
  rw [addr_add, scaled_eq, Nat.zero_add, Nat.mul_one, Int.toNat_natCast]
  refine h.ldp hi hi (get_call hB fun s1 w1 o1 e1 => ?_)
  have S := (St.start w).ext e1
  refine S.newAgg rfl rfl rfl fun b4 w2 S e2 => nn_some (chk_r ⟨by omega, by omega⟩ ?_)
  rw [addr_add, addr_add, Nat.zero_add]
  have e12 := e1.trans e2
  have h2 := h.ext e12
  obtain ⟨ks, hR⟩ := h2.ref i hi
  refine h2.ldr hi hi (get_ref hR (h2.okr i hi) fun s3 w3 i3 e3 => ?_)
  have S := S.ext e3
  refine sif_r (fun _ => S.ld 0 (x := (Reg.get (bk i) a2).1) rfl rfl (sif_r (fun _ => S.ld 0 (x := s1) rfl rfl ?_) (fun hc => by simp at hc))) (fun hc => by simp at hc)
  refine sameInts_call (o1.in.ext (e2.trans e3)).x i3.x (by omega) fun w4 e4 => ?_
  rw [decide_eq_true rfl]
  exact hK w4 (e12.trans (e3.trans e4))

/-- the boxes of steps stay -/
def Stay (w w' : World) : Prop := ∀ (k : Nat) (c : Array Value) (fr : Nat × Nat), w.heap[k]? = some (.cells c 55 fr) → w'.heap[k]? = some (.cells c 55 fr)
theorem Stay.of {S : Nat → Prop} (u : Upd S w w') (h : NoTy w S 55) : Stay w w' := fun k c fr hc => u.get hc fun hk => h k hk c fr hc
theorem Stay.ext (e : Ext w w') : Stay w w' := fun _ _ _ hc => e.ext_get hc
theorem Stay.trans {w1 w2 w3 : World} (h : Stay w1 w2) (h' : Stay w2 w3) : Stay w1 w3 := fun k c fr hc => h' k c fr (h k c fr hc)
theorem iva (a b : List Int) : iv (a ++ b) = iv a ++ iv b := List.map_append
/-- the marks behind a list that is handed -/
abbrev marks (l : List Int) : List Int := (List.range 100).map fun i => 771 + ((l.length + i : Nat) : Int)
/-- a list that was handed: it begins its block -/
structure HandedIn (w0 w : World) (sb N : Nat) (l : List Int) : Prop where
  at_ : ∃ c, w.heap[sb]? = some (.cells c 3 (0, 0)) ∧ c.size = N ∧ l.length + 100 ≤ N ∧ ∀ (j : Nat) (v : Value), (iv (l ++ marks l))[j]? = some v → c[j]? = some v
  ge : w0.heap.size ≤ sb

theorem shape {pen' : Sl} {sb N : Nat} {W W' : World} {c c' : Array Value} (hW : WIn w0 W x 2 2 p m r pen' (fun k => pen'.blk k ∨ k = sb) bk rk) (hc : W.heap[sb]? = some (.cells c 3 (0, 0))) (hsg : w0.heap.size ≤ sb) (hpN : ∀ pb, pen' = ⟨some (at0 pb), 300, 300⟩ → pb = sb → N = 300) (u : Upd (fun k => k = sb) W W') (hc' : W'.heap[sb]? = some (.cells c' 3 (0, 0))) (hs : c'.size = N) : WIn w0 W' x 2 2 p m r pen' (fun k => pen'.blk k ∨ k = sb) bk rk := by
  refine hW.scratch u (by rintro k rfl; exact ⟨.inr rfl, hsg, c, hc⟩) fun pb e => ?_
  by_cases hps : pb = sb
  · subst hps; exact ⟨c', hc', by rw [hs, hpN pb e rfl]⟩
  · rcases hW.pen_ with e' | ⟨pb', c'', e', g1, g2, _⟩
    · rw [e'] at e; cases e
    · rw [e'] at e; cases e
      exact ⟨c'', u.get g1 hps, g2⟩
theorem handed_call {a1 : Sl} {l : List Int} {K : Sl → World → Prop} (h : WIn w0 w x 2 2 p m r pen pen.blk bk rk) (ht : Txt w0 a1 l) (hl : l.length ≤ 2 ^ 44 - 512)
    (hK : ∀ pen' sb N w', WIn w0 w' x 2 2 p m r pen' (fun k => pen'.blk k ∨ k = sb) bk rk → HandedIn w0 w' sb N l → (∀ pb, pen' = ⟨some (at0 pb), 300, 300⟩ → pb = sb → N = 300) → Stay w w' → K ⟨some (at0 sb), l.length + 100, l.length + 100⟩ w') :
    callT Try.prog 49 #[.pointer (some (at0 x)), .slice a1.a a1.len a1.cap] (.one (.one .sl)) K w := by
  refine F49_calls ?_
  unfold F49
  have hn := ht.length
  have ew : IntKind.wrap .i64 (((a1.len : Nat) : Int) + 100) = ((l.length + 100 : Nat) : Int) := by rw [IntWalk.i64_in _ ⟨by omega, by omega⟩]; omega
  simp only [ew]
  have mk : ∀ {W : World} {n : Nat} {K : Sl → World → Prop}, n ≤ 2 ^ 44 → (∀ b w' c, w'.heap[b]? = some (.cells c 3 (0, 0)) → c.size = n → Ext W w' → b = W.heap.size → K ⟨some (at0 b), n, n⟩ w') → rawT Try.prog (.one (.one .sl)) (Instr.makeSlice 23 (.int .i64 (n : Int)) (.int .i64 (n : Int))) K W := by
    intro W n K hn hK
    refine makeSlice_r (e := 3) (z := .int .i64 0) u23 i3_ok rfl rfl (by omega) ?_ (by omega) fun b w' c hb hc _ e hbs => ?_
    · have : (i3.bytes : Int) = 8 := rfl
      rw [this]; omega
    · have h1 : i3.size = 1 := rfl
      rw [h1, Nat.mul_one, Int.toNat_natCast] at hc
      rw [Int.toNat_natCast]
      exact hK b w' c hb hc e hbs
  refine mk (n := l.length + 100) (by omega) fun b1 w1 c1 n1 hc1 e1 hb1 => ?_
  have h1 := h.ext e1
  refine join_r (fun s' w' => ∃ pen' sb N c, s'.1 = ⟨some (at0 sb), l.length + 100, l.length + 100⟩ ∧ WIn w0 w' x 2 2 p m r pen' (fun k => pen'.blk k ∨ k = sb) bk rk ∧ w'.heap[sb]? = some (.cells c 3 (0, 0)) ∧ c.size = N ∧ l.length + 100 ≤ N ∧ w0.heap.size ≤ sb ∧ (∀ pb, pen' = ⟨some (at0 pb), 300, 300⟩ → pb = sb → N = 300) ∧ Stay w w') ?_ ?_
  · refine sif_r (fun hc => ?_) (fun hc => ?_)
    · have hc : l.length + 100 ≤ 300 := by have := of_decide_eq_true hc; omega
      refine join_r (fun _ w' => ∃ pb c, WIn w0 w' x 2 2 p m r ⟨some (at0 pb), 300, 300⟩ (Sl.blk ⟨some (at0 pb), 300, 300⟩) bk rk ∧ w'.heap[pb]? = some (.cells c 3 (0, 0)) ∧ c.size = 300 ∧ w0.heap.size ≤ pb ∧ Stay w w') ?_ ?_
      · refine nn_some ?_
        rw [addr_add, Nat.zero_add]
        refine h1.ldpen (sif_r (fun hp => ?_) (fun hp => ?_))
        · have hpn : pen = ⟨none, 0, 0⟩ := by
            rcases h1.pen_ with e | ⟨pb, c, e, _⟩
            · exact e
            · rw [e] at hp; cases hp
          refine mk (n := 300) (by decide) fun pb w2 c2 n2 hc2 e2 hpb => nn_some ?_
          rw [addr_add, Nat.zero_add]
          have h2 := h1.ext e2
          have hpg : w0.heap.size ≤ pb := by have := h1.upd.size; omega
          refine stC_r h2.box (by simp [wbox]) fun w3 u3 hb3 _ => ?_
          have hx3 : x ≠ pb := by rintro rfl; rw [h2.box] at n2; cases n2
          have n3 := u3.get n2 (fun e => hx3 e.symm)
          refine ⟨pb, c2, ⟨by simpa [wbox] using hb3, fun i hi => ?_, fun i hi => ?_, h2.okp, h2.okr, h2.pp, h2.mm, h2.rr, h2.gx, h2.gp, h2.gr, .inr ⟨pb, c2, rfl, n3, hc2, hpg, ⟨_, rfl, rfl⟩⟩, ?_, h2.upd.step u3 (by rintro k rfl; exact h2.gx)⟩, n3, hc2, hpg, (Stay.ext (e1.trans e2)).trans (Stay.of u3 (NoTy.box h2.box (by decide)))⟩
          · have hb := (h2.bank i hi).box_upd h2.box (by decide) (by decide) u3
            have hb1 := (h1.bank i hi).updZ (Z' := Sl.blk ⟨some (at0 pb), 300, 300⟩) e2 id id (fun _ h => h.elim) (fun k hk => .inr (by obtain ⟨q, hq, rfl⟩ := hk; cases hq; exact Nat.le_of_eq hpb.symm))
            exact hb1.box_upd h2.box (by decide) (by decide) u3
          · obtain ⟨ks, hR⟩ := h1.ref i hi
            have hb1 := hR.updZ (Z' := Sl.blk ⟨some (at0 pb), 300, 300⟩) e2 id (fun _ h => h.elim) (fun k hk => .inr (by obtain ⟨q, hq, rfl⟩ := hk; cases hq; exact Nat.le_of_eq hpb.symm))
            exact ⟨ks, hb1.box_upd h2.box (by decide) (by decide) u3⟩
          · rintro k ⟨q, hq, rfl⟩
            cases hq
            exact lt_of_heap n3
        · rcases h1.pen_ with e | ⟨pb, c, e, g1, g2, g3, g4⟩
          · rw [e] at hp; cases hp
          · subst e
            exact ⟨pb, c, h1, g1, g2, g3, Stay.ext e1⟩
      · rintro _ w2 ⟨pb, c, h2, n2, hc2, hpg, st2⟩
        refine nn_some ?_
        rw [addr_add, Nat.zero_add]
        refine h2.ldpen (chk_r ⟨by decide, by omega, by omega, (show ((l.length + 100 : Nat) : Int) ≤ ((300 : Nat) : Int) by omega)⟩ ?_)
        refine ⟨⟨some (at0 pb), 300, 300⟩, pb, 300, c, ?_, h2.zset (Ext.refl _) (fun k hk => hk.elim .inl fun e => .inl ⟨_, rfl, e.symm⟩) (fun k hk => .inl hk) (fun k hk => hk.elim (fun hk => h2.zlt k hk) fun e => by subst e; exact lt_of_heap n2), n2, hc2, hc, hpg, (fun _ _ _ => rfl), st2⟩
        have hne : ¬ ((l.length + 100 : Nat) : Int).toNat = (0 : Int).toNat := by simp; omega
        simp only [Sl.cut, if_neg hne]
        simp [scaled_eq, addr_add]
        omega
    · refine ⟨pen, b1, l.length + 100, c1, rfl, h.zset e1 (fun k hk => hk.imp id fun e => by omega) (fun k hk => .inl hk) (fun k hk => hk.elim (fun hk => Nat.lt_of_lt_of_le (h.zlt k hk) e1.size) fun e => by subst e; exact lt_of_heap n1), n1, hc1, Nat.le_refl _, by have := h.upd.size; omega, (fun pb e hpb => ?_), Stay.ext e1⟩
      subst hpb
      have := h.zlt pb ⟨_, by rw [e], rfl⟩
      omega
  · rintro ⟨_, ⟨⟩⟩ w2 ⟨pen', sb, N, c, rfl, h2, n2, hcN, hlN, hsg, hpN, st2⟩
    dsimp only
    have hsz : ∀ W, (sizeOf 3).run Try.prog W = .ok 1 W := fun W => i3_ok.run_size W
    have htx := ht.ext h2.upd
    refine copy_r (sz := 1) (b := sb) (off := 0) u23 hsz n2 (by rw [List.length_map]; omega) htx (by omega) (iv_one l) fun w3 n3 u3 _ => ?_
    have h3 := shape h2 n2 hsg hpN u3 n3 (by rw [Go.Vx.size_setRow]; exact hcN)
    have st3 := st2.trans (Stay.of u3 (NoTy.box n2 (by decide)))
    refine join_r (fun _ w' => ∃ c, WIn w0 w' x 2 2 p m r pen' (fun k => pen'.blk k ∨ k = sb) bk rk ∧ w'.heap[sb]? = some (.cells c 3 (0, 0)) ∧ c.size = N ∧ Stay w w' ∧ ∀ (j : Nat) (v : Value), (iv (l ++ marks l))[j]? = some v → c[j]? = some v) ?_ ?_
    · refine sloop_r (fun s' w' => ∃ (n : Nat) (c : Array Value), n ≤ 100 ∧ s' = (((l.length + n : Nat) : Int), ()) ∧ WIn w0 w' x 2 2 p m r pen' (fun k => pen'.blk k ∨ k = sb) bk rk ∧ w'.heap[sb]? = some (.cells c 3 (0, 0)) ∧ c.size = N ∧ Stay w w' ∧ ∀ (j : Nat) (v : Value), j < l.length + n → (iv (l ++ marks l))[j]? = some v → c[j]? = some v) (fun s' _ => (l.length + 100 - s'.1).toNat)
        ⟨0, _, by omega, by rw [Nat.add_zero, hn], h3, n3, by rw [Go.Vx.size_setRow]; exact hcN, st3, fun j v hj hv => ?_⟩ ?_
      · rw [iva, List.getElem?_append_left (by simpa using hj)] at hv
        have := get_setRow (iv l) c 0 j (by rw [List.length_map]; omega) (by simpa using hj)
        rw [Nat.zero_add] at this
        rw [this]; exact hv
      · rintro _ w4 ⟨n, c4, hn4, rfl, h4, n4, hc4, st4, hv4⟩
        dsimp only
        have en : IntKind.wrap .i64 (((l.length + n : Nat) : Int) + 1) = ((l.length + (n + 1) : Nat) : Int) := by rw [IntWalk.i64_in _ ⟨by omega, by omega⟩]; omega
        have em : IntKind.wrap .i64 (771 + ((l.length + n : Nat) : Int)) = 771 + ((l.length + n : Nat) : Int) := IntWalk.i64_in _ ⟨by omega, by omega⟩
        simp only [en, em]
        refine sif_r (fun hd => ?_) (fun hd => ?_)
        · have hd : n < 100 := by have := of_decide_eq_true hd; omega
          refine ⟨at0 sb, ⟨rfl, by omega, by omega⟩, ?_⟩
          dsimp only
          rw [addr_add, Nat.zero_add, scaled_eq, Nat.mul_one, Int.toNat_natCast]
          refine stC_r n4 (by omega) fun w5 u5 n5 _ => ⟨⟨n + 1, _, hd, rfl, shape h4 n4 hsg hpN u5 n5 (by simpa using hc4), n5, by simpa using hc4, st4.trans (Stay.of u5 (NoTy.box n4 (by decide))), fun j v hj hv => ?_⟩, by omega⟩
          by_cases hjn : j = l.length + n
          · subst hjn
            rw [Array.getElem?_setIfInBounds, if_pos rfl, if_pos (by omega)]
            rw [iva, List.getElem?_append_right (by simp), List.length_map, Nat.add_sub_cancel_left] at hv
            simp [hd] at hv
            rw [← hv]; simp
          · rw [Array.getElem?_setIfInBounds, if_neg (fun e => hjn e.symm)]
            exact hv4 j v (by omega) hv
        · have hd : n = 100 := by have := of_decide_eq_false hd; omega
          subst hd
          refine ⟨c4, h4, n4, hc4, st4, fun j v hv => hv4 j v ?_ hv⟩
          have := (List.getElem?_eq_some_iff.1 hv).1
          simpa using this
    · rintro _ w4 ⟨c4, h4, n4, hc4, st4, hv4⟩
      exact hK pen' sb N w4 h4 ⟨⟨c4, n4, hc4, hlN, hv4⟩, hsg⟩ hpN st4
end
end Go.Proofs.Ytocdfkeflakemaa
