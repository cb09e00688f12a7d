/- What Rename and Make do. Conditions: the disk stands, its numbers are small. -/
import Derived.Test.YtdabehgbhndimaaOpa
set_option linter.unusedSimpArgs false
set_option linter.unusedVariables false
namespace Go.Proofs.Ytdabehgbhndimaa
open Go Go.Vx Dsk
section
variable {w w' : World} {S F F' : Nat → Prop} {d m ms ml : Nat} {f : Dir} {fb : List Nat} {ds : List Sl} {fs : List Fl} {sa : Sl} {vs : List Value} {D : Dk} {pl : Option Nat} {p : Int → Option Fault} {N : Nat}

theorem rename_call (A : DiskIn w d F D) (ok : DkOk D N) (hN : N + 2 ≤ 2 ^ 30) {n t : Nm} {K : Value → World → Prop} (hK : Ends w d F ⟨#[114, 101, 110, 97, 109, 101]⟩ n (callRename D n t) K) : callT Try.prog 54 #[.pointer (some (at0 d)), .string n, .string t] (.one (.one .any)) K w := by
  refine F54_calls ?_
  unfold F54
  refine newO_r fun b1 w1 e1 n1 hb1 _ => newO_r fun b2 w2 e2 n2 hb2 _ => newO_r fun b3 w3 e3 n3 hb3 _ => ?_
  have e23 := e2.trans e3
  have e13 := e1.trans e23
  refine ld_r (e23.ext_get n1) (x := some (at0 d)) rfl (ld_r (e3.ext_get n2) (x := n) rfl ?_)
  have hs1 := e1.size
  have hs2 := e2.size
  have hs3 := e3.size
  have hlt := A.lt
  have hd := A.fd
  refine step_call (M := fun k => k = b3) (E := fun k => k = b3) (Q0 := fun w => w.heap[b1]? = some (pbox d) ∧ w.heap[b2]? = some (sbox n) ∧ w.heap[b3]? = some (sbox t)) (Q1 := fun _ _ _ => True) (a0 := ()) (act := u (mvR n t)) (part := none) (A.ext e13) ok (by omega) ⟨e23.ext_get n1, e3.ext_get n2, n3⟩ trivial (fun k hk => ⟨by rw [hk]; exact lt_of_heap n3, fun h => ?_⟩) (fun _ h => h)
    (fun w1 w2 S ⟨h1, h2, h3⟩ u hS => ⟨u.get h1 fun h => ?_, u.get h2 fun h => ?_, u.get h3 fun h => ?_⟩) (fun _ _ _ _ _ _ _ _ => trivial) (fun D1 _ ok1 => ⟨ok_mv ok1 n t, ?_⟩) (.inl ⟨rfl, rfl⟩) ?_
  · have := hlt k h; omega
  · have := hS _ h; have := hlt d hd; omega
  · have := hS _ h; have := hlt d hd; omega
  · have := hS _ h; have := hlt d hd; omega
  · rintro w1 F1 K ⟨ms, ml, sa, pl, vs, fb, ds, A⟩ ok ⟨n1, n2, n3⟩ hF hz hK
    refine func_x (by kernel_rfl) ?_
    refine F73_calls (v0 := at0 b3) (v1 := at0 b1) (v2 := at0 b2) ?_
    unfold F73
    unfold u mvR at hK
    refine ld_r n3 (x := t) rfl (isName_call fun w2 e2 => sif_r (fun h => ?_) (fun h => ?_))
    · have h : okName t = false := by simpa using h
      rw [if_pos h] at hK
      exact hK w2 F1 (A.ext e2).in trivial (Upd.of_ext e2) fun k hk => .inl hk
    have h : ¬ okName t = false := by simpa using h
    rw [if_neg h] at hK
    refine ld_r (e2.ext_get n1) (x := some (at0 d)) rfl (ld_r (e2.ext_get n2) (x := n) rfl (find_call (A.ext e2) fun nm w3 e3 hnm => ?_))
    obtain ⟨o, e, hfo⟩ : ∃ o e, Dsk.find D1 n = (o, e) := ⟨_, _, rfl⟩
    rw [hfo] at hK hnm ⊢
    have e13 := e2.trans e3
    refine ((St.start w1).ext e13).newAgg rfl rfl rfl fun b4 w4 S4 e4 => ?_
    have e14 := e13.trans e4
    cases o with
    | none =>
      have he : e ≠ 0 := by rcases find_none hfo with ⟨_, h⟩ | ⟨_, h⟩ <;> rw [h] <;> decide
      refine join_r (fun _ w' => w4 = w') (join_at (false, ()) (sif_r (fun h => absurd (by simpa using h) he) (fun _ => ⟨rfl, rfl⟩)) (sif_false rfl)) fun _ w' h => ?_
      subst h
      exact hK w4 F1 (A.ext e14).in trivial (Upd.of_ext e14) fun k hk => .inl hk
    | some i =>
      obtain ⟨hs, rfl, _⟩ := find_seen hfo
      have hnm := hnm rfl
      subst hnm
      dsimp only at hK
      refine join_r (fun _ w' => ∃ F2 D2, (if nm = t then (D1, 0) else ({ D1 with acts := D1.acts ++ [.mv nm t i] }, 0)) = (D2, (0 : Int)) ∧ DiskIn w' d F2 D2 ∧ Upd (fun k => FN w1 F1 k ∨ k = b3) w1 w' ∧ ∀ k, F2 k → F1 k ∨ k = b3 ∨ w1.heap.size ≤ k) ?_ ?_
      · refine join_at (decide (¬ nm = t), ()) (sif_true (ld_r (e14.ext_get n2) (x := nm) rfl (ld_r (e14.ext_get n3) (x := t) rfl ⟨by rw [bytes_eq]; simp, rfl⟩))) (sif_r (fun h => ?_) (fun h => ?_))
        · have h : ¬ nm = t := by simpa using h
          have hb4 := S4.ge 0 rfl
          have n4 := S4.at_ 0 rfl
          have hb4l := lt_of_heap n4
          have A4 := (A.ext e14).more (F' := fun k => (F1 k ∨ k = b3) ∨ k = b4) (fun k hk => .inl (.inl hk)) (fun k hk => hk.elim (fun hk => hk.elim ((A.ext e14).lt k) fun h => by rw [h]; exact lt_of_heap (e14.ext_get n3)) fun h => by rw [h]; exact hb4l)
          have hal := ok.acts
          refine ld_r (e14.ext_get n1) (x := some (at0 d)) rfl (act_call A4 (a := .mv nm t i) ⟨b4, b3, rfl, n4, e14.ext_get n3, .inr rfl, .inl (.inr rfl), A.seen.ids nm i hs⟩ rfl (by omega) fun sa' w5 A5 u5 hb5 => ⟨_, _, by rw [if_neg h], A5.in, (Upd.of_ext e14).new u5 fun k hk h => ?_, fun k hk => ?_⟩)
          · rcases h.1 with (hk' | hk') | hk'
            · exact .inl ⟨hk', fun c fr hc => h.2 c fr (e14.ext_get hc)⟩
            · exact .inr hk'
            · omega
          · have hz := e14.size
            rcases hk with ((hk | hk) | hk) | hk
            · exact .inl hk
            · exact .inr (.inl hk)
            · exact .inr (.inr (by omega))
            · rcases hb5 k hk with ((h | h) | h) | h
              · exact .inl h
              · exact .inr (.inl h)
              · exact .inr (.inr (by omega))
              · exact .inr (.inr (by omega))
        · have h : nm = t := by simpa using h
          exact ⟨F1, D1, by rw [if_pos h], (A.ext e14).in, Upd.of_ext e14, fun k hk => .inl hk⟩
      · rintro _ w5 ⟨F2, D2, hD2, A5, u5, hF5⟩
        rw [hD2] at hK
        exact hK w5 F2 A5 trivial u5 hF5
  · intro F' w' v hv hD _ hu hF
    exact hK F' w' v ⟨hv.ok, fun h => let ⟨b, k, h1, h2, h3, h4⟩ := hv.bad h; ⟨b, k, h1, h2, by omega, h4⟩⟩ hD ((Upd.of_ext e13).new hu fun k hk h => h.resolve_right (by omega)) fun k hk => (hF k hk).imp id fun h => by omega

theorem make_call (A : DiskIn w d F D) (ok : DkOk D N) (hN : N + 2 ≤ 2 ^ 30) {n : Nm} {K : Value → World → Prop} (hK : Ends w d F ⟨#[109, 97, 107, 101]⟩ n (callMake D n) K) : callT Try.prog 53 #[.pointer (some (at0 d)), .string n] (.one (.one .any)) K w := by
  refine F53_calls ?_
  unfold F53
  refine newO_r fun b1 w1 e1 n1 hb1 _ => newO_r fun b2 w2 e2 n2 hb2 _ => ?_
  have e12 := e1.trans e2
  refine ld_r (e2.ext_get n1) (x := some (at0 d)) rfl (ld_r n2 (x := n) rfl ?_)
  have hs1 := e1.size
  have hs2 := e2.size
  have hlt := A.lt
  have hd := A.fd
  refine step_call (M := fun k => k = b2) (E := fun k => k = b2) (Q0 := fun w => w.heap[b1]? = some (pbox d) ∧ w.heap[b2]? = some (sbox n)) (Q1 := fun _ _ _ => True) (a0 := ()) (act := u (mkR n)) (part := none) (A.ext e12) ok (by omega) ⟨e2.ext_get n1, n2⟩ trivial (fun k hk => ⟨by rw [hk]; exact lt_of_heap n2, fun h => ?_⟩) (fun _ h => h)
    (fun w1 w2 S ⟨h1, h2⟩ u hS => ⟨u.get h1 fun h => ?_, u.get h2 fun h => ?_⟩) (fun _ _ _ _ _ _ _ _ => trivial) (fun D1 _ ok1 => ⟨ok_mk ok1 n, ?_⟩) (.inl ⟨rfl, rfl⟩) ?_
  · have := hlt k h; omega
  · have := hS _ h; have := hlt d hd; omega
  · have := hS _ h; have := hlt d hd; omega
  · rintro w1 F1 K ⟨ms, ml, sa, pl, vs, fb, ds, A⟩ ok ⟨n1, n2⟩ hF hz hK
    refine func_x (by kernel_rfl) ?_
    refine F71_calls (v0 := at0 b1) (v1 := at0 b2) ?_
    unfold F71
    refine ld_r n1 (x := some (at0 d)) rfl (ld_r n2 (x := n) rfl (find_call A fun nm w2 e2 hnm => ?_))
    unfold u mkR at hK
    dsimp only at hK
    obtain ⟨o, e, hfo⟩ : ∃ o e, Dsk.find D1 n = (o, e) := ⟨_, _, rfl⟩
    rw [hfo] at hK hnm ⊢
    dsimp only at hK
    refine ((St.start w1).ext e2).newAgg rfl rfl rfl fun b4 w3 S3 e3 => ?_
    have e13 := e2.trans e3
    have A3 := A.ext e13
    refine sif_r (fun h => ?_) (fun h => ?_)
    · have h : e = 164 := by simpa using h
      rw [if_pos h] at hK
      subst h
      exact hK w3 F1 A3.in trivial (Upd.of_ext e13) fun k hk => .inl hk
    have h : ¬ e = 164 := by simpa using h
    rw [if_neg h] at hK
    refine sif_r (fun h0 => ?_) (fun h0 => ?_)
    · have h0 : e = 0 := by simpa using h0
      rw [if_pos h0] at hK
      exact hK w3 F1 A3.in trivial (Upd.of_ext e13) fun k hk => .inl hk
    have h0 : ¬ e = 0 := by simpa using h0
    rw [if_neg h0] at hK
    refine ld_r (e13.ext_get n1) (x := some (at0 d)) rfl (nn_some ?_)
    rw [addr_add]
    refine ld_r A3.box (x := some ms) rfl (A3.seen.len (sif_r (fun hc => ?_) (fun hc => ?_)))
    · have hc : 16 ≤ (names D1.seen).length := by have := of_decide_eq_true hc; omega
      rw [if_pos hc] at hK
      exact hK w3 F1 A3.in trivial (Upd.of_ext e13) fun k hk => .inl hk
    have hc : ¬ 16 ≤ (names D1.seen).length := by have := of_decide_eq_false hc; omega
    rw [if_neg hc] at hK
    have hnum := ok.num
    refine ld_r (e13.ext_get n1) (x := some (at0 d)) rfl (fresh_call A3 (by omega) fun b w4 A4 u4 hb4 => newO_r fun b11 w5 e5 n5 hb5 _ => ?_)
    have hdb : ∀ k, k ≠ d → ∀ {o}, w3.heap[k]? = some o → w4.heap[k]? = some o := fun k hk o ho => u4.get ho hk
    have hd1 := hF d A.fd
    have hblt := lt_of_heap n1
    have hb2lt := lt_of_heap n2
    have hbd1 : b1 ≠ d := fun e => by rw [e, A.box] at n1; cases n1
    have hbd2 : b2 ≠ d := fun e => by rw [e, A.box] at n2; cases n2
    refine stC_r n5 (by simp) fun w6 u6 n6 hz6 => ?_
    have e46 : Ext w4 w6 := e5.new u6 fun k hk h => by omega
    have hz4 := u4.size
    have hz13 := e13.size
    have g1 : w6.heap[b1]? = some (pbox d) := e46.ext_get (hdb _ hbd1 (e13.ext_get n1))
    have g2 : w6.heap[b2]? = some (sbox n) := e46.ext_get (hdb _ hbd2 (e13.ext_get n2))
    have A6 := (A4.ext e46).more (F' := fun k => ((F1 k ∨ k = b) ∨ k = b2) ∨ k = b11) (fun k hk => .inl (.inl hk)) (fun k hk => hk.elim (fun hk => hk.elim ((A4.ext e46).lt k) fun h => by rw [h]; exact lt_of_heap g2) fun h => by rw [h]; exact lt_of_heap n6)
    have hlf := A.files.lf
    have hal := ok.acts
    have g3 : w6.heap[b11]? = some (.cells #[.pointer (some (at0 ((fb ++ [b]).getD D1.files.length 0)))] 85 (0, 0)) := by
      rw [n6, ← hlf, List.getD_eq_getElem?_getD, List.getElem?_append_right (Nat.le_refl _), Nat.sub_self]; rfl
    refine ld_r g1 (x := some (at0 d)) rfl (act_call A6 (a := .mk n D1.files.length) ⟨b11, b2, rfl, g3, g2, .inr rfl, .inl (.inr rfl), by simp [hlf]⟩ rfl (by dsimp only; omega) fun sa' w7 A7 u7 hb7 => hK w7 _ A7.in trivial ((((Upd.of_ext e13).new u4 fun k hk e => .inl (by rw [e]; exact FN.of A.fd A.box fun c fr h => by cases h)).trans (Upd.of_ext e46)).new u7 fun k hk h => ?_) fun k hk => ?_)
    · rcases h.1 with ((hk' | hk') | hk') | hk'
      · refine .inl ⟨hk', fun c fr hc => ?_⟩
        by_cases hkd : k = d
        · rw [hkd, A.box] at hc; cases hc
        · exact h.2 c fr (e46.ext_get (hdb _ hkd (e13.ext_get hc)))
      · omega
      · exact .inr hk'
      · omega
    · rcases hk with (((hk | hk) | hk) | hk) | hk
      · exact .inl hk
      · exact .inr (.inr (by omega))
      · exact .inr (.inl hk)
      · exact .inr (.inr (by omega))
      · have h46 := e46.size
        rcases hb7 k hk with (((h | h) | h) | h) | h
        · exact .inl h
        · exact .inr (.inr (by omega))
        · exact .inr (.inl h)
        · exact .inr (.inr (by omega))
        · exact .inr (.inr (by omega))
  · intro F' w' v hv hD _ hu hF
    exact hK F' w' v ⟨hv.ok, fun h => let ⟨b, k, h1, h2, h3, h4⟩ := hv.bad h; ⟨b, k, h1, h2, by omega, h4⟩⟩ hD ((Upd.of_ext e12).new hu fun k hk h => h.resolve_right (by omega)) fun k hk => (hF k hk).imp id fun h => by omega
end
end Go.Proofs.Ytdabehgbhndimaa
