/- What Read and Stamp do. Conditions: the disk stands, its numbers are small. -/
import Derived.Test.YtdabehgbhndimaaOpb
set_option linter.unusedSimpArgs false
set_option linter.unusedVariables false
namespace Go.Proofs.Ytdabehgbhndimaa
open Go Go.Vx Dsk
section
variable {w w' : World} {S F F' : Nat → Prop} {d m ms ml : Nat} {f : Dir} {fb : List Nat} {ds : List Sl} {fs : List Fl} {sa : Sl} {vs : List Value} {D : Dk} {pl : Option Nat} {p : Int → Option Fault} {N : Nat}

theorem ErrIn.back {w0 w1 : World} {v : Value} {op nm : ByteArray} {e : Int} (h : ErrIn w1 w F v op nm e) (hz : w0.heap.size ≤ w1.heap.size) : ErrIn w0 w F v op nm e :=
  ⟨h.ok, fun hh => let ⟨b, k, h1, h2, h3, h4⟩ := h.bad hh; ⟨b, k, h1, h2, Nat.le_trans hz h3, h4⟩⟩

/-- a row that the disk does not hold, in a box that it does not hold -/
def RowQ (b3 B : Nat) (a : List UInt8) (w : World) (F : Nat → Prop) : Prop :=
  ∃ s, w.heap[b3]? = some (.cells #[sv s] 33 (0, 0)) ∧ ¬ F b3 ∧ BytesO w B s a ∧ ∀ k, s.blk k → ¬ F k
theorem RowQ.keep {b3 B : Nat} {a : List UInt8} {w1 w2 : World} {F1 F2 : Nat → Prop} (h : RowQ b3 B a w1 F1) (u : Upd F1 w1 w2) (hF : ∀ k, F2 k → F1 k ∨ w1.heap.size ≤ k) : RowQ b3 B a w2 F2 := by
  obtain ⟨s, h1, h2, h3, h4⟩ := h
  refine ⟨s, u.get h1 h2, fun hk => (hF _ hk).elim h2 fun h => ?_, h3.upd u fun k _ hk => h4 k hk, fun k hk hF2 => (hF _ hF2).elim (h4 k hk) fun h => ?_⟩
  · have := lt_of_heap h1; omega
  · have := h3.in.blk_lt hk; omega

theorem read_call (A : DiskIn w d F D) (ok : DkOk D N) (hN : N + 2 ≤ 2 ^ 30) {n : Nm} {K : (Sl × Value × Unit) → World → Prop}
    (hK : ∀ F' w' s v, ErrIn w w' F' v ⟨#[114, 101, 97, 100]⟩ n (callRead D n).2.1 → DiskIn w' d F' (callRead D n).1 → Upd F w w' → (∀ k, F' k → F k ∨ w.heap.size ≤ k) → BytesO w' w.heap.size s (callRead D n).2.2 → (∀ k, s.blk k → ¬ F' k) → K (s, v, ()) w') :
    callT Try.prog 25 #[.pointer (some (at0 d)), .string n] (.tup [(.one .sl), (.one .any)]) K w := by
  refine F25_calls ?_
  unfold F25
  refine newO_r fun b1 w1 e1 n1 hb1 _ => newO_r fun b2 w2 e2 n2 hb2 _ => newO_r fun b3 w3 e3 n3 hb3 _ => ?_
  have e23 := e2.trans e3
  have e13 := e1.trans e23
  refine ld_r (e23.ext_get n1) (x := some (at0 d)) rfl (ld_r (e3.ext_get n2) (x := n) rfl ?_)
  have hs1 := e1.size
  have hs2 := e2.size
  have hs3 := e3.size
  have hlt := A.lt
  have hd := A.fd
  refine step_call (M := fun k => k = b3) (E := fun _ => False) (Q0 := fun w => w.heap[b1]? = some (pbox d) ∧ w.heap[b2]? = some (sbox n) ∧ w.heap[b3]? = some (.cells #[.slice none 0 0] 33 (0, 0))) (Q1 := RowQ b3 w.heap.size) (a0 := []) (act := rdR n) (part := none) (A.ext e13) ok (by omega) ⟨e23.ext_get n1, e3.ext_get n2, n3⟩ ⟨⟨none, 0, 0⟩, n3, fun h => ?_, SlOwn.nil _ _ _ _, fun k ⟨q, hq, _⟩ => by cases hq⟩ (fun k hk => ⟨by rw [hk]; exact lt_of_heap n3, fun h => ?_⟩) (fun _ h => h.elim)
    (fun w1 w2 S ⟨h1, h2, h3⟩ u hS => ⟨u.get h1 fun h => ?_, u.get h2 fun h => ?_, u.get h3 fun h => ?_⟩) (fun a w1 F1 w2 F2 h u hF => h.keep u hF) (fun D1 _ ok1 => ⟨?_, ?_⟩) (.inl ⟨rfl, rfl⟩) ?_
  · have := hlt _ h; omega
  · have := hlt k h; omega
  · have := hS _ h; have := hlt d hd; omega
  · have := hS _ h; have := hlt d hd; omega
  · have := hS _ h; have := hlt d hd; omega
  · have h1 : (rdR n D1).1 = D1 := by unfold rdR; split <;> rfl
    rw [h1]; exact ok1.mono (Nat.le_succ _)
  · rintro w1 F1 K ⟨ms, ml, sa, pl, vs, fb, ds, A⟩ ok ⟨n1, n2, n3⟩ hF hz hK
    refine func_x (by kernel_rfl) ?_
    refine F58_calls (v0 := at0 b1) (v1 := at0 b2) (v2 := at0 b3) ?_
    unfold F58
    refine ld_r n1 (x := some (at0 d)) rfl (ld_r n2 (x := n) rfl (find_call A fun nm w2 e2 hnm => ?_))
    unfold rdR at hK
    obtain ⟨o, e, hfo⟩ : ∃ o e, Dsk.find D1 n = (o, e) := ⟨_, _, rfl⟩
    rw [hfo] at hK hnm ⊢
    refine ((St.start w1).ext e2).newAgg rfl rfl rfl fun b4 w3 S3 e3 => ?_
    have e13 := e2.trans e3
    have hb3F : ¬ F1 b3 := fun h => by rcases hF _ h with h | h; have := hlt _ h; omega; omega
    cases o with
    | none =>
      have he : e ≠ 0 := by rcases find_none hfo with ⟨_, h⟩ | ⟨_, h⟩ <;> rw [h] <;> decide
      refine join_r (fun _ w' => w3 = w') (sif_r (fun h => absurd (by simpa using h) he) (fun _ => rfl)) fun _ w' h => ?_
      subst h
      exact hK w3 F1 (A.ext e13).in ⟨⟨none, 0, 0⟩, e13.ext_get n3, hb3F, SlOwn.nil _ _ _ _, fun k ⟨q, hq, _⟩ => by cases hq⟩ (Upd.of_ext e13) fun k hk => .inl hk
    | some i =>
      obtain ⟨hs, rfl, _⟩ := find_seen hfo
      have A3 := A.ext e13
      obtain ⟨b, s, g, hb, hss, hg, hgb, hfl, hbx, hby⟩ := A3.file_at (ok.seen.ids n i hs)
      have hgl := (ok.fil i g hg).1
      dsimp only at hK
      rw [hfl] at hK
      have hz13 := e13.size
      refine join_r (fun _ w' => RowQ b3 w.heap.size g.data w' F1 ∧ Upd (fun k => k = b3) w3 w') (sif_true (S3.ld 0 (x := some (at0 b)) rfl (by simp only [Option.map_some, hgb]; rfl) (nn_some ?_))) ?_
      · rw [addr_add]
        refine ld_r hbx (x := s) rfl (cloneB_call hby.in.x (by omega) fun s' w4 hs' e4 => stC_r (e4.ext_get (e13.ext_get n3)) (by simp) fun w5 u5 n5 hz5 => ⟨⟨s', by rw [n5]; rfl, hb3F, (hs'.box (e4.ext_get (e13.ext_get n3)) (by decide) u5).mono (by omega), fun k hk hF1 => ?_⟩, (Upd.of_ext e4).new u5 fun k _ h => h⟩)
        have := hs'.blk_ge hk
        have := A.lt k hF1
        omega
      · rintro _ w5 ⟨q5, u5⟩
        exact hK w5 F1 (A3.in.frame u5 fun k hk e => hb3F (e ▸ hk)) q5 ((Upd.of_ext e13).new u5 fun k hk e => .inr e) fun k hk => .inl hk
  · intro F' w' v hv hD hq hu hF
    obtain ⟨s, q1, q2, q3, q4⟩ := hq
    have hu' : Upd F w w' := (Upd.of_ext e13).new hu fun k hk h => h.resolve_right (by omega)
    have hF' : ∀ k, F' k → F k ∨ w.heap.size ≤ k := fun k hk => (hF k hk).imp id fun h => by rcases h with h | h; exact h.elim; omega
    have hv := hv.back (w0 := w) e13.size
    by_cases he : (callRead D n).2.1 = 0
    · have h0 : v = .nilIface := hv.ok he
      subst h0
      refine rdB_nnil' (sif_false (ld_r q1 (x := s) rfl (hK F' w' s _ hv hD hu' hF' ?_ q4))) uE
      unfold callRead at he ⊢
      simp only [if_pos he]
      exact q3
    · obtain ⟨b, k, rfl, h2, h3, h4⟩ := hv.bad he
      refine rdB_nnil (sif_true (hK F' w' _ _ hv hD hu' hF' ?_ fun k ⟨q, hq, _⟩ => by cases hq)) uE
      unfold callRead at he ⊢
      simp only [if_neg he]
      exact SlOwn.nil _ _ _ _

abbrev stb (a : Int × Int × Int) : Obj := .cells #[.int .i64 a.1, .int .i64 a.2.1, .int .i64 a.2.2] 68 (0, 0)
def StQ (b : Nat) (a : Int × Int × Int) (w : World) (F : Nat → Prop) : Prop := w.heap[b]? = some (stb a) ∧ ¬ F b

theorem stamp_call (A : DiskIn w d F D) (ok : DkOk D N) (hN : N + 2 ≤ 2 ^ 30) {n : Nm} {K : ((Int × Int × Int × Unit) × Value × Unit) → World → Prop}
    (hK : ∀ F' w' v, ErrIn w w' F' v ⟨#[115, 116, 97, 109, 112]⟩ n (callStamp D n).2.1 → DiskIn w' d F' (callStamp D n).1 → Upd F w w' → (∀ k, F' k → F k ∨ w.heap.size ≤ k) → K (((callStamp D n).2.2.1, (callStamp D n).2.2.2.1, (callStamp D n).2.2.2.2, ()), v, ()) w') :
    callT Try.prog 59 #[.pointer (some (at0 d)), .string n] (.tup [(.agg c68), (.one .any)]) K w := by
  refine F59_calls ?_
  unfold F59
  refine newO_r fun b1 w1 e1 n1 hb1 _ => newO_r fun b2 w2 e2 n2 hb2 _ => newO_r fun b3 w3 e3 n3 hb3 _ => newO_r fun b4 w4 e4 n4 hb4 _ => ?_
  have e34 := e3.trans e4
  have e24 := e2.trans e34
  have e14 := e1.trans e24
  refine ld_r (e24.ext_get n1) (x := some (at0 d)) rfl (ld_r (e34.ext_get n2) (x := n) rfl ?_)
  have hs1 := e1.size
  have hs2 := e2.size
  have hs3 := e3.size
  have hs4 := e4.size
  have hlt := A.lt
  have hd := A.fd
  refine step_call (M := fun k => k = b4) (E := fun _ => False) (Q0 := fun w => w.heap[b1]? = some (pbox d) ∧ w.heap[b2]? = some (sbox n) ∧ w.heap[b4]? = some (stb (0, 0, 0))) (Q1 := StQ b4) (a0 := (0, 0, 0)) (act := stR n) (part := none) (A.ext e14) ok (by omega) ⟨e24.ext_get n1, e34.ext_get n2, n4⟩ ⟨n4, fun h => ?_⟩ (fun k hk => ⟨by rw [hk]; exact lt_of_heap n4, fun h => ?_⟩) (fun _ h => h.elim)
    (fun w1 w2 S ⟨h1, h2, h3⟩ u hS => ⟨u.get h1 fun h => ?_, u.get h2 fun h => ?_, u.get h3 fun h => ?_⟩) (fun a w1 F1 w2 F2 ⟨h1, h2⟩ u hF => ⟨u.get h1 h2, fun h => (hF _ h).elim h2 fun h => ?_⟩) (fun D1 _ ok1 => ⟨?_, ?_⟩) (.inl ⟨rfl, rfl⟩) ?_
  · have := hlt _ h; omega
  · have := hlt k h; omega
  · have := hS _ h; have := hlt d hd; omega
  · have := hS _ h; have := hlt d hd; omega
  · have := hS _ h; have := hlt d hd; omega
  · have := lt_of_heap h1; omega
  · have h1 : (stR n D1).1 = D1 := by unfold stR; split <;> rfl
    rw [h1]; exact ok1.mono (Nat.le_succ _)
  · rintro w1 F1 K ⟨ms, ml, sa, pl, vs, fb, ds, A⟩ ok ⟨n1, n2, n4⟩ hF hz hK
    refine func_x (by kernel_rfl) ?_
    refine F77_calls (v0 := at0 b1) (v1 := at0 b2) (v2 := at0 b4) ?_
    unfold F77
    refine ld_r n1 (x := some (at0 d)) rfl (ld_r n2 (x := n) rfl (find_call A fun nm w2 e2 hnm => ?_))
    unfold stR at hK
    obtain ⟨o, e, hfo⟩ : ∃ o e, Dsk.find D1 n = (o, e) := ⟨_, _, rfl⟩
    rw [hfo] at hK hnm ⊢
    refine (((St.startM (fun k => k = b4) w1 fun k hk => by rw [hk]; exact lt_of_heap n4)).ext e2).newAgg rfl rfl rfl fun bh w3 S3 e3 => ?_
    have e13 := e2.trans e3
    have hb4F : ¬ F1 b4 := fun h => by rcases hF _ h with h | h; have := hlt _ h; omega; omega
    cases o with
    | none =>
      have he : e ≠ 0 := by rcases find_none hfo with ⟨_, h⟩ | ⟨_, h⟩ <;> rw [h] <;> decide
      refine join_r (fun _ w' => w3 = w') (sif_r (fun h => absurd (by simpa using h) he) (fun _ => rfl)) fun _ w' h => ?_
      subst h
      exact hK w3 F1 (A.ext e13).in ⟨e13.ext_get n4, hb4F⟩ (Upd.of_ext e13) fun k hk => .inl hk
    | some i =>
      obtain ⟨hs, rfl, _⟩ := find_seen hfo
      have A3 := A.ext e13
      obtain ⟨b, s, g, hb, hss, hg, hgb, hfl, hbx, hby⟩ := A3.file_at (ok.seen.ids n i hs)
      dsimp only at hK
      rw [hfl] at hK
      have hlen := hby.len1
      rw [List.length_map] at hlen
      have hbb : b ≠ b4 := fun h => by rw [h, e13.ext_get n4] at hbx; cases hbx
      refine join_r (fun _ w' => w'.heap[b4]? = some (stb ((i : Int) + 1, g.data.length, g.count)) ∧ Upd (fun k => k = b4) w3 w') (sif_true (S3.drew fun w4 S4 e4 _ => ?_)) ?_
      · have hbx := e4.ext_get hbx
        have n4 := e4.ext_get (e13.ext_get n4)
        refine S4.ld 0 (x := some (at0 b)) rfl (by simp only [Option.map_some, hgb]; rfl) (nn_some (ld_r hbx (x := (i : Int) + 1) rfl (S4.ld 0 (x := some (at0 b)) rfl (by simp only [Option.map_some, hgb]; rfl) (nn_some ?_))))
        rw [addr_add]
        refine ld_r hbx (x := s) rfl (S4.ld 0 (x := some (at0 b)) rfl (by simp only [Option.map_some, hgb]; rfl) (nn_some ?_))
        rw [addr_add]
        refine ld_r hbx (x := g.count) rfl (aggSt_r n4 rfl rfl (by simp) fun w5 u5 n5 hz5 => ?_)
        have n5 : w5.heap[b4]? = some (stb (0, 0, 0)) := n5
        have S5 := S4.step u5 fun _ h => h
        have hbx5 := u5.get hbx hbb
        refine keep_r (cell_of hbx5 (off := 3) rfl) (S5.keep 0 rfl (by simp only [Option.map_some, hgb]; rfl) (keep_r (cell_of hbx5 (off := 1) rfl) (S5.keep 0 rfl (by simp only [Option.map_some, hgb]; rfl) (keep_r (cell_of hbx5 (off := 0) rfl) (S5.keep 0 rfl (by simp only [Option.map_some, hgb]; rfl) (chk_r (by decide) ?_))))))
        refine stC_r (off := 0) n5 (by simp) fun w6 u6 n6 hz6 => ?_
        have S6 := S5.step u6 fun _ h => h
        have hbx6 := u6.get hbx5 hbb
        refine keep_r (cell_of hbx6 (off := 3) rfl) (S6.keep 0 rfl (by simp only [Option.map_some, hgb]; rfl) (keep_r (cell_of hbx6 (off := 1) rfl) (S6.keep 0 rfl (by simp only [Option.map_some, hgb]; rfl) (chk_r (by decide) ?_))))
        refine stC_r (off := 1) n6 (by simp) fun w7 u7 n7 hz7 => ?_
        have S7 := S6.step u7 fun _ h => h
        have hbx7 := u7.get hbx6 hbb
        refine keep_r (cell_of hbx7 (off := 3) rfl) (S7.keep 0 rfl (by simp only [Option.map_some, hgb]; rfl) (chk_r (by decide) ?_))
        refine stC_r (off := 2) n7 (by simp) fun w8 u8 n8 hz8 => ⟨?_, (((Upd.of_ext e4).trans u5).trans u6).trans (u7.trans u8)⟩
        rw [n8, hlen]; rfl
      · rintro _ w5 ⟨q5, u5⟩
        exact hK w5 F1 (A3.in.frame u5 fun k hk e => hb4F (e ▸ hk)) ⟨q5, hb4F⟩ ((Upd.of_ext e13).new u5 fun k hk e => .inr e) fun k hk => .inl hk
  · intro F' w' v hv hD hq hu hF
    obtain ⟨q1, q2⟩ := hq
    have hu' : Upd F w w' := (Upd.of_ext e14).new hu fun k hk h => h.resolve_right (by omega)
    have hF' : ∀ k, F' k → F k ∨ w.heap.size ≤ k := fun k hk => (hF k hk).imp id fun h => by rcases h with h | h; exact h.elim; omega
    have hv := hv.back (w0 := w) e14.size
    have hb3F : ¬ F' b3 := fun h => by rcases hF _ h with h | h | h; have := hlt _ h; omega; exact h; omega
    have n3' : w'.heap[b3]? = some (stb (0, 0, 0)) := hu.get (e4.ext_get n3) fun h => by rcases h with h | h; have := hlt _ h; omega; omega
    have low : ∀ {W : World} {a : Int × Int × Int}, Upd (fun k => k = b3) w' W → (callStamp D n).2.2 = a → K ((a.1, a.2.1, a.2.2, ()), v, ()) W := fun {W a} u h => by
      have := hK F' W v ⟨hv.ok, fun hh => let ⟨b, k, h1, h2, h3, h4⟩ := hv.bad hh; ⟨b, k, h1, u.get h2 (fun e => by rw [e, n3'] at h2; cases h2), h3, h4⟩⟩ (hD.frame u fun k hk e => hb3F (e ▸ hk)) (hu'.new u fun k hk e => by omega) hF'
      rw [h] at this
      exact this
    by_cases he : (callStamp D n).2.1 = 0
    · have h0 : v = .nilIface := hv.ok he
      have ha : (callStamp D n).2.2 = (Dsk.step D (0, 0, 0) (stR n) none).2.2 := by
        unfold callStamp at he ⊢
        simp only [if_pos he]
      obtain ⟨a, haa⟩ : ∃ a, (Dsk.step D (0, 0, 0) (stR n) none).2.2 = a := ⟨_, rfl⟩
      rw [haa] at ha q1
      subst h0
      refine rdB_nnil' (sif_false (lds_r (x := (a.1, a.2.1, a.2.2, ())) (c := (Cells.vals c68 (a.1, a.2.1, a.2.2, ())).toArray) q1 (fun i v hv => ?_) ?_)) uE
      · rw [Nat.zero_add, List.getElem?_toArray]; exact hv
      refine aggSt_r n3' rfl rfl (by simp) fun w6 u6 n6 hz6 => lds_r (x := (a.1, a.2.1, a.2.2, ())) (c := (Cells.vals c68 (a.1, a.2.1, a.2.2, ())).toArray) n6 (fun i v hv => ?_) (low u6 ha)
      rw [Nat.zero_add, List.getElem?_toArray]; exact hv
    · obtain ⟨b, k, rfl, h2, h3, h4⟩ := hv.bad he
      have ha : (callStamp D n).2.2 = (0, 0, 0) := by
        unfold callStamp at he ⊢
        simp only [if_neg he]
      refine rdB_nnil (sif_true (aggSt_r n3' rfl rfl (by simp) fun w6 u6 n6 hz6 => lds_r (x := (0, 0, 0, ())) (c := (Cells.vals c68 (0, 0, 0, ())).toArray) n6 (fun i v hv => ?_) (low u6 ha))) uE
      rw [Nat.zero_add, List.getElem?_toArray]; exact hv
end
end Go.Proofs.Ytdabehgbhndimaa
