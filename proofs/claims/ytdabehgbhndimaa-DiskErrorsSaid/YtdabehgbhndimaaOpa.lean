/- What Sync, SyncDir, Remove, Rename and Make do. Conditions: the disk stands, its numbers are small. -/
import Derived.Test.YtdabehgbhndimaaStp
import Derived.Test.YtdabehgbhndimaaOkk
set_option linter.unusedSimpArgs false
set_option linter.unusedVariables false
namespace Go.Proofs.Ytdabehgbhndimaa
open Go Go.Vx Dsk
section
variable {w w' : World} {S F F' : Nat → Prop} {d m ms ml : Nat} {f : Dir} {fb : List Nat} {ds : List Sl} {fs : List Fl} {sa : Sl} {vs : List Value} {D : Dk} {pl : Option Nat} {p : Int → Option Fault} {N : Nat}

abbrev pbox (d : Nat) : Obj := .cells #[.pointer (some (at0 d))] 24 (0, 0)
abbrev sbox (n : Nm) : Obj := .cells #[.string n] 9 (0, 0)

/-- the end of a call that answers an error alone -/
abbrev Ends (w : World) (d : Nat) (F : Nat → Prop) (op nm : ByteArray) (r : Dk × Int × Unit) (K : Value → World → Prop) : Prop :=
  ∀ F' w' v, ErrIn w w' F' v op nm r.2.1 → DiskIn w' d F' r.1 → Upd F w w' → (∀ k, F' k → F k ∨ w.heap.size ≤ k) → K v w'

theorem sync_does {E M : Nat → Prop} {b1 b2 : Nat} {n : Nm} {Q1 : Unit → World → (Nat → Prop) → Prop} (hQ1 : ∀ w F, Q1 () w F) {F0 : Nat → Prop} {w0 : World} :
    Does w0 d F0 M E (fun w => w.heap[b1]? = some (pbox d) ∧ w.heap[b2]? = some (sbox n)) Q1 D N (u (syR n) D) (.func (.func 40) #[] #[.pointer (some (at0 b1)), .pointer (some (at0 b2))]) #[] := by
  rintro w1 F1 K ⟨ms, ml, sa, pl, vs, fb, ds, A⟩ ok ⟨n1, n2⟩ hF hz hK
  refine func_x (by kernel_rfl) ?_
  refine F40_calls (v0 := at0 b1) (v1 := at0 b2) ?_
  unfold F40
  refine ld_r n1 (x := some (at0 d)) rfl (ld_r n2 (x := n) rfl (find_call A fun nm w2 e2 hnm => ?_))
  unfold u syR at hK
  obtain ⟨o, e, hfo⟩ : ∃ o e, Dsk.find D n = (o, e) := ⟨_, _, rfl⟩
  rw [hfo] at hK hnm ⊢
  refine ((St.start w1).ext e2).newAgg rfl rfl rfl fun b4 w3 S3 e3 => ?_
  have e13 := e2.trans e3
  cases o with
  | none =>
    have he : e ≠ 0 := by rcases find_none hfo with ⟨_, h⟩ | ⟨_, h⟩ <;> rw [h] <;> decide
    refine join_r (fun _ w' => w3 = w') (sif_r (fun h => absurd (by simpa using h) he) (fun _ => rfl)) fun _ w' h => ?_
    subst h
    exact hK w3 F1 (A.ext e13).in (hQ1 _ _) (Upd.of_ext e13) fun k hk => .inl hk
  | some i =>
    obtain ⟨hs, rfl, _⟩ := find_seen hfo
    have A3 := A.ext e13
    obtain ⟨b, s, g, hb, hss, hg, hgb, hfl, hbx, hby⟩ := A3.file_at (ok.seen.ids n i hs)
    simp only [put1_eq hg, Option.map_some, hgb] at hK S3 ⊢
    have hsl := hby.len1
    rw [List.length_map] at hsl
    refine join_r (fun _ w' => w'.heap[b]? = some (fbox i s ⟨g.data, s.len, g.count⟩) ∧ Upd (fun k => k = b) w3 w') (sif_true (S3.ld 0 (x := some (at0 b)) rfl rfl (fsync_call hbx fun w4 n4 u4 _ => ⟨n4, u4⟩))) ?_
    rintro _ w4 ⟨n4, u4⟩
    have ho : BytesO w4 0 s g.data := hby.upd u4 fun k _ hk e => by
      obtain ⟨c, fr, hc⟩ := hby.in.blk_cells hk
      rw [e, hbx] at hc; cases hc
    have A4 := A3.file_set (g' := ⟨g.data, g.data.length, g.count⟩) hb hss hg u4 (fun k hk _ => .inl hk) (by rw [hsl]; exact n4) ho (fun k hk => .inl hk)
    have hfb : F1 b := A.ffb b (List.mem_of_getElem? hb)
    refine hK w4 _ A4.in (hQ1 _ _) ((Upd.of_ext e13).new u4 fun k hk e => .inl ⟨by rw [e]; exact hfb, fun c fr hc => ?_⟩) fun k hk => ?_
    · rw [e] at hc hk
      have := e13.ext_get hc
      rw [hbx] at this; cases this
    · rcases hk with hk | hk
      · exact .inl hk
      · exact .inl (A.fds s (List.mem_of_getElem? hss) k hk)

theorem sync_call (A : DiskIn w d F D) (ok : DkOk D N) (hN : N + 2 ≤ 2 ^ 60) {n : Nm} {K : Value → World → Prop} (hK : Ends w d F ⟨#[115, 121, 110, 99]⟩ n (callSync D n) K) : callT Try.prog 14 #[.pointer (some (at0 d)), .string n] (.one (.one .any)) K w := by
  refine F14_calls ?_
  unfold F14
  refine newO_r fun b1 w1 e1 n1 hb1 _ => newO_r fun b2 w2 e2 n2 hb2 _ => ?_
  have e12 := e1.trans e2
  refine ld_r (e2.ext_get n1) (x := some (at0 d)) rfl (ld_r n2 (x := n) rfl ?_)
  have hs1 := e1.size
  have hlt := A.lt
  have hd := A.fd
  refine step_call (M := fun _ => False) (E := fun _ => False) (Q0 := fun w => w.heap[b1]? = some (pbox d) ∧ w.heap[b2]? = some (sbox n)) (Q1 := fun _ _ _ => True) (a0 := ()) (act := u (syR n)) (part := none) (A.ext e12) ok hN ⟨e2.ext_get n1, n2⟩ trivial (fun _ h => h.elim) (fun _ h => h.elim)
    (fun w1 w2 S ⟨h1, h2⟩ u hS => ⟨u.get h1 fun h => ?_, u.get h2 fun h => ?_⟩) (fun _ _ _ _ _ _ _ _ => trivial) (fun D1 _ ok1 => ⟨ok_sy ok1 n, sync_does fun _ _ => trivial⟩) (.inl ⟨rfl, rfl⟩) ?_
  · have := hS _ h; have := hlt d hd; omega
  · have := hS _ h; have := hlt d hd; omega
  · intro F' w' v hv hD _ hu hF
    have hs := e12.size
    exact hK F' w' v ⟨hv.ok, fun h => let ⟨b, k, h1, h2, h3, h4⟩ := hv.bad h; ⟨b, k, h1, h2, by omega, h4⟩⟩ hD ((Upd.of_ext e12).trans (hu.mono fun k _ h => h.resolve_right id)) fun k hk => (hF k hk).imp id fun h => by rcases h with h | h; exact h.elim; omega

theorem syncdir_call (A : DiskIn w d F D) (ok : DkOk D N) (hN : N + 2 ≤ 2 ^ 60) {K : Value → World → Prop} (hK : Ends w d F ⟨#[115, 121, 110, 99, 100, 105, 114]⟩ ⟨#[]⟩ (callSyncDir D) K) : callT Try.prog 32 #[.pointer (some (at0 d))] (.one (.one .any)) K w := by
  refine F32_calls ?_
  unfold F32
  refine newO_r fun b1 w1 e1 n1 hb1 _ => ?_
  refine ld_r n1 (x := some (at0 d)) rfl ?_
  have hs1 := e1.size
  have hlt := A.lt
  have hd := A.fd
  refine step_call (M := fun _ => False) (E := fun _ => False) (Q0 := fun w => w.heap[b1]? = some (pbox d)) (Q1 := fun _ _ _ => True) (a0 := ()) (act := u fun D => (Dsk.settle D, 0)) (part := none) (A.ext e1) ok hN n1 trivial (fun _ h => h.elim) (fun _ h => h.elim)
    (fun w1 w2 S h1 u hS => u.get h1 fun h => ?_) (fun _ _ _ _ _ _ _ _ => trivial) (fun D1 _ ok1 => ⟨(ok_settle ok1).mono (Nat.le_succ _), ?_⟩) (.inl ⟨rfl, rfl⟩) ?_
  · have := hS _ h; have := hlt d hd; omega
  · rintro w1 F1 K ⟨ms, ml, sa, pl, vs, fb, ds, A⟩ ok n1 hF hz hK
    refine func_x (by kernel_rfl) ?_
    refine F64_calls (v0 := at0 b1) ?_
    unfold F64
    refine ld_r n1 (x := some (at0 d)) rfl (settle_call A fun m' w2 A2 u2 hm' => ?_)
    exact hK w2 _ A2.in trivial (u2.mono fun k _ e => .inl (by rw [e]; exact FN.of A.fd A.box fun c fr h => by cases h)) fun k hk => hk.imp id fun h => .inr (by omega)
  · intro F' w' v hv hD _ hu hF
    exact hK F' w' v ⟨hv.ok, fun h => let ⟨b, k, h1, h2, h3, h4⟩ := hv.bad h; ⟨b, k, h1, h2, by omega, h4⟩⟩ hD ((Upd.of_ext e1).trans (hu.mono fun k _ h => h.resolve_right id)) fun k hk => (hF k hk).imp id fun h => by rcases h with h | h; exact h.elim; omega

theorem remove_call (A : DiskIn w d F D) (ok : DkOk D N) (hN : N + 2 ≤ 2 ^ 30) {n : Nm} {K : Value → World → Prop} (hK : Ends w d F ⟨#[114, 101, 109, 111, 118, 101]⟩ n (callRemove D n) K) : callT Try.prog 15 #[.pointer (some (at0 d)), .string n] (.one (.one .any)) K w := by
  refine F15_calls ?_
  unfold F15
  refine newO_r fun b1 w1 e1 n1 hb1 _ => newO_r fun b2 w2 e2 n2 hb2 _ => ?_
  have e12 := e1.trans e2
  refine ld_r (e2.ext_get n1) (x := some (at0 d)) rfl (ld_r n2 (x := n) rfl ?_)
  have hs1 := e1.size
  have hs2 := e2.size
  have hlt := A.lt
  have hd := A.fd
  refine step_call (M := fun k => k = b2) (E := fun k => k = b2) (Q0 := fun w => w.heap[b1]? = some (pbox d) ∧ w.heap[b2]? = some (sbox n)) (Q1 := fun _ _ _ => True) (a0 := ()) (act := u (rmR n)) (part := none) (A.ext e12) ok (by omega) ⟨e2.ext_get n1, n2⟩ trivial (fun k hk => ⟨by rw [hk]; exact lt_of_heap n2, fun h => ?_⟩) (fun _ h => h)
    (fun w1 w2 S ⟨h1, h2⟩ u hS => ⟨u.get h1 fun h => ?_, u.get h2 fun h => ?_⟩) (fun _ _ _ _ _ _ _ _ => trivial) (fun D1 _ ok1 => ⟨ok_rm ok1 n, ?_⟩) (.inl ⟨rfl, rfl⟩) ?_
  · have := hlt k h; omega
  · have := hS _ h; have := hlt d hd; omega
  · have := hS _ h; have := hlt d hd; omega
  · rintro w1 F1 K ⟨ms, ml, sa, pl, vs, fb, ds, A⟩ ok ⟨n1, n2⟩ hF hz hK
    refine func_x (by kernel_rfl) ?_
    refine F42_calls (v0 := at0 b1) (v1 := at0 b2) ?_
    unfold F42
    refine ld_r n1 (x := some (at0 d)) rfl (ld_r n2 (x := n) rfl (find_call A fun nm w2 e2 hnm => ?_))
    unfold u rmR at hK
    obtain ⟨o, e, hfo⟩ : ∃ o e, Dsk.find D1 n = (o, e) := ⟨_, _, rfl⟩
    rw [hfo] at hK hnm ⊢
    refine ((St.start w1).ext e2).newAgg rfl rfl rfl fun b4 w3 S3 e3 => ?_
    have e13 := e2.trans e3
    cases o with
    | none =>
      have he : e ≠ 0 := by rcases find_none hfo with ⟨_, h⟩ | ⟨_, h⟩ <;> rw [h] <;> decide
      refine join_r (fun _ w' => w3 = w') (sif_r (fun h => absurd (by simpa using h) he) (fun _ => rfl)) fun _ w' h => ?_
      subst h
      exact hK w3 F1 (A.ext e13).in trivial (Upd.of_ext e13) fun k hk => .inl hk
    | some i =>
      obtain ⟨hs, rfl, _⟩ := find_seen hfo
      have A3 := (A.ext e13).more (F' := fun k => F1 k ∨ k = b2) (fun k hk => .inl hk) (fun k hk => hk.elim ((A.ext e13).lt k) fun h => by rw [h]; exact lt_of_heap (e13.ext_get n2))
      have hal := ok.acts
      refine join_r (fun _ w' => ∃ F2, DiskIn w' d F2 { D1 with acts := D1.acts ++ [.rm n] } ∧ Upd (fun k => FN w1 F1 k ∨ k = b2) w1 w' ∧ ∀ k, F2 k → F1 k ∨ k = b2 ∨ w1.heap.size ≤ k) (sif_true (ld_r (e13.ext_get n1) (x := some (at0 d)) rfl (act_call A3 (a := .rm n) ⟨b2, rfl, e13.ext_get n2, .inr rfl⟩ rfl (by omega) fun sa' w4 A4 u4 hb4 => ⟨_, A4.in, (Upd.of_ext e13).new u4 fun k hk h => ?_, fun k hk => ?_⟩))) ?_
      · rcases h.1 with hk' | hk'
        · exact .inl ⟨hk', fun c fr hc => h.2 c fr (e13.ext_get hc)⟩
        · exact .inr hk'
      · have hz := e13.size
        rcases hk with (hk | hk) | hk
        · exact .inl hk
        · exact .inr (.inl hk)
        · rcases hb4 k hk with (h | h) | h
          · exact .inl h
          · exact .inr (.inl h)
          · exact .inr (.inr (by omega))
      · rintro _ w4 ⟨F2, A4, u4, hF4⟩
        exact hK w4 F2 A4 trivial u4 hF4
  · intro F' w' v hv hD _ hu hF
    exact hK F' w' v ⟨hv.ok, fun h => let ⟨b, k, h1, h2, h3, h4⟩ := hv.bad h; ⟨b, k, h1, h2, by omega, h4⟩⟩ hD ((Upd.of_ext e12).new hu fun k hk h => h.resolve_right (by omega)) fun k hk => (hF k hk).imp id fun h => by omega
end
end Go.Proofs.Ytdabehgbhndimaa
