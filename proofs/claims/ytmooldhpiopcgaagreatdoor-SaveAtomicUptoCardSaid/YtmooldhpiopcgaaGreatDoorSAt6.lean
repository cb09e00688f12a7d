/- The law holds for every input: it returns true, and each argument reads behind the call as it did. Conditions: those of the form alone. -/
import Derived.Test.YtmooldhpiopcgaaGreatDoorSAt5
set_option linter.unusedVariables false
set_option linter.unusedSimpArgs false
set_option linter.unusedSectionVars false
set_option linter.unusedSimpArgs false
set_option linter.unusedVariables false
namespace Go.Proofs.YtmooldhpiopcgaaGreatDoor
namespace Dq
open Go Go.Vx Dsk
section
variable {D D' E : Dk} {N : Nat} {sd n : Nm} {A : Vw → Prop} {U V W : Vw} {s : Stm} {P : Int → Option Fault} {g : Fl} {T b : List UInt8} {X : Fil} {force : Bool} {k : Int}
theorem Sol.hol (sol : Sol D V) (ok : DkOk D N) : Hol D.files D.seen V sd := ⟨fun m _ h0 => sol.none_iff.1 h0, fun m i _ hi => by
  obtain ⟨g, hg, hf⟩ := seen_get ok hi
  have h1 := sol.view m
  rw [hi, Option.map_some, hf] at h1
  have h2 := sol.dry m i hi
  rw [hf] at h2
  exact ⟨g, hg, h2, h1.symm⟩⟩
theorem sol_at (sol : Sol D V) (ok : DkOk D N) (hv : V sd = none) (hsp : D.space = 1048576) (n : Nm) : St sd D.plan (fun W => W = V) V n (stampOf D n) D := by
  have hs : D.seen sd = none := sol.none_iff.2 hv
  refine ⟨⟨sol.q.up, rfl, ⟨_, ok⟩, fun k => ⟨V, rfl, ?_⟩⟩, sol.hol ok, fun k m j _ _ hh => (by rw [hs] at hh; cases hh), rfl, hsp, fun i hi => (by rw [hs] at hi; cases hi)⟩
  rw [sol.acts, List.take_nil]
  show Hol D.files D.lasts V sd
  rw [sol.lasts]; exact sol.hol ok
theorem St.planned (h : St sd P A U n s D) (fl : List (Int × Fault)) : St sd (plan D fl).plan A U n s (plan D fl) := by
  obtain ⟨M, ok⟩ := h.ok
  exact ⟨⟨h.up, rfl, ⟨_, ok_plan ok fl⟩, h.pre⟩, h.now, h.apart, h.stp, h.space, h.beside⟩
theorem Saf.crash {R : Dk → Prop} (hR : ∀ E, R E → Pre sd P A E) (h : Saf R sd P A D) (nm : Int) (bytes : List Int) : Lost sd A (Dsk.crash D nm bytes) := by
  rcases h with h | ⟨h, _⟩
  · exact (hR _ h).crash nm bytes
  · unfold Dsk.crash; rw [if_pos h.down]; exact h
theorem Lost.up (h : Lost sd A D) : Quiet (restart D) ∧ (restart D).acts = [] ∧ ∃ W, A W ∧ Hol (restart D).files (restart D).seen W sd := by
  have e : restart D = { D with down := false, plan := fun _ => none, steps := 0 } := by unfold restart; rw [if_pos h.down]
  have hs : (restart D).seen = D.lasts := by rw [e]; show onAll D.acts D.lasts = _; rw [h.acts]; rfl
  obtain ⟨W, a, b⟩ := h.view
  refine ⟨by rw [e]; exact ⟨rfl, fun _ => rfl⟩, by rw [e]; exact h.acts, W, a, ?_⟩
  rw [hs, e]; exact b
theorem tidy_skip : ∀ (l r : List Nm) (b : Bool) (D : Dk), (∀ m ∈ l, m.data.back? ≠ some 126) → tidyL (l ++ r) b D = tidyL r b D
  | [], _, _, _, _ => rfl
  | m :: l, r, b, D, h => by
    show tidyL (m :: (l ++ r)) b D = _
    rw [tidyL, if_pos (h m List.mem_cons_self)]
    exact tidy_skip l r b D fun x hx => h x (List.mem_cons_of_mem _ hx)
theorem tidy_quiet (q : Quiet D) (ha : D.acts = []) (ok : DkOk D N) (hH : Hol D.files D.seen W (side n)) (hW : ∀ m, W m ≠ none → userName m = true) (hu : userName n = true) : (tidyP D).2 = 0 ∧ Sol (tidyP D).1 W := by
  obtain ⟨hn', hn⟩ := side_ok hu
  have hWs : W (side n) = none := Decidable.byContradiction fun hh => by have := hW _ hh; rw [side_user] at this; cases this
  obtain ⟨l1, _⟩ := ok.seen.names
  have hnt : ∀ m ∈ names D.seen, m ≠ side n → m.data.back? ≠ some 126 := fun m hm hne => by
    have h1 := (l1.2 m).1 hm
    cases hi : D.seen m with
    | none => rw [hi] at h1; cases h1
    | some i =>
      obtain ⟨g, _, _, c⟩ := hH.at_ m i hne hi
      have := hW m (by rw [c]; simp)
      unfold userName at this
      simp only [Bool.and_eq_true, decide_eq_true_eq] at this
      exact this.2
  have view : ∀ (f : Dir), (∀ m, m ≠ side n → f m = D.seen m) → f (side n) = none → ∀ m, (f m).map (fun i => (fl D i).data) = W m := fun f hf h0 m => by
    by_cases hm : m = side n
    · rw [hm, h0, hWs]; rfl
    · rw [hf m hm]
      cases hi : D.seen m with
      | none => rw [hH.no m hm hi]; rfl
      | some i =>
        obtain ⟨g, a, _, c⟩ := hH.at_ m i hm hi
        have hfl : fl D i = g := by unfold fl; rw [List.getD_eq_getElem?_getD, a]; rfl
        rw [Option.map_some, hfl, c]
  have dry : ∀ (f : Dir), (∀ m, m ≠ side n → f m = D.seen m) → f (side n) = none → ∀ m i, f m = some i → (fl D i).synced = (fl D i).data.length := fun f hf h0 m i hi => by
    have hm : m ≠ side n := fun hh => by rw [hh, h0] at hi; cases hi
    rw [hf m hm] at hi
    obtain ⟨g, a, b, _⟩ := hH.at_ m i hm hi
    have hfl : fl D i = g := by unfold fl; rw [List.getD_eq_getElem?_getD, a]; rfl
    rw [hfl]; exact b
  unfold tidyP
  rw [if_neg (by rw [q.up]; simp)]
  cases hs : D.seen (side n) with
  | none =>
    have e := tidy_skip (names D.seen) [] false D fun m hm => hnt m hm fun hh => by
      have := (l1.2 m).1 hm; rw [hh, hs] at this; cases this
    rw [List.append_nil] at e
    rw [e]
    refine ⟨rfl, q, ha, view D.seen (fun _ _ => rfl) hs, dry D.seen (fun _ _ => rfl) hs⟩
  | some i =>
    obtain ⟨a1, a2, hl⟩ := List.append_of_mem ((l1.2 (side n)).2 (by rw [hs]; rfl))
    have hnd := l1.1
    rw [hl] at hnd
    have hd := List.nodup_append.1 hnd
    have hc := List.nodup_cons.1 hd.2.1
    have n1 : ∀ m ∈ a1, m.data.back? ≠ some 126 := fun m hm => hnt m (by rw [hl]; exact List.mem_append_left _ hm) fun hh => hd.2.2 m hm (side n) List.mem_cons_self hh
    have n2 : ∀ m ∈ a2, m.data.back? ≠ some 126 := fun m hm => hnt m (by rw [hl]; exact List.mem_append_right _ (List.mem_cons_of_mem _ hm)) fun hh => hc.1 (hh ▸ hm)
    have er := remove_quiet q hn hs
    have q1 : Quiet { D with steps := D.steps + 1, acts := D.acts ++ [.rm (side n)] } := ⟨q.up, q.plan⟩
    have hb : (side n).data.back? = some 126 := by unfold side; simp
    have e : tidyL (names D.seen) false D = ({ D with steps := D.steps + 1, acts := D.acts ++ [.rm (side n)] }, 0, true) := by
      rw [hl, tidy_skip a1 _ false D n1, tidyL, if_neg (by rw [hb]; simp), er, if_pos rfl]
      have := tidy_skip a2 [] true { D with steps := D.steps + 1, acts := D.acts ++ [.rm (side n)] } n2
      rw [List.append_nil] at this
      rw [this]; rfl
    rw [e]
    dsimp only
    rw [if_neg (by simp), if_neg (by simp), syncdir_quiet q1]
    have hseen : ({ D with steps := D.steps + 1, acts := D.acts ++ [.rm (side n)] } : Dk).seen = dset D.seen (side n) none := seen_push D (.rm (side n))
    have h1 : ∀ m, m ≠ side n → dset D.seen (side n) none m = D.seen m := fun m hm => by unfold dset; rw [if_neg hm]
    have h2 : dset D.seen (side n) none (side n) = none := by unfold dset; rw [if_pos rfl]
    refine ⟨rfl, ⟨q.up, q.plan⟩, rfl, fun m => ?_, fun m i hi => ?_⟩
    · show (Option.map _ (({ D with steps := D.steps + 1, acts := D.acts ++ [.rm (side n)] } : Dk).seen m)) = _
      rw [hseen]; exact view _ h1 h2 m
    · have hi : ({ D with steps := D.steps + 1, acts := D.acts ++ [.rm (side n)] } : Dk).seen m = some i := hi
      rw [hseen] at hi; exact dry _ h1 h2 m i hi
end
end Dq
end Go.Proofs.YtmooldhpiopcgaaGreatDoor
set_option linter.unusedSimpArgs false
set_option linter.unusedVariables false
set_option maxRecDepth 100000
namespace Go.Proofs.YtmooldhpiopcgaaGreatDoor
namespace Dq
open Go Go.Vx Dsk Cdc Trx
section
variable {w w' : World} {S P F F' : Nat → Prop} {d : Nat} {D : Dk} {N : Nat}
theorem planS (A : DS w d F D N) {x : Sl} {rows : List (Cells.T c132)} {fl : List (Int × Fault)} (hx : FaultsIn w (fun k => k < w.heap.size ∧ ¬ F k) x rows fl) (hl : fl.length ≤ 2 ^ 60) {K : Unit → World → Prop} (hK : ∀ F' w', DS w' d F' (plan D fl) (N + 2) → Upd F w w' → (∀ k, F' k → F k ∨ w.heap.size ≤ k) → K () w') :
    callT Tryz.prog 35 #[.pointer (some (at0 d)), .slice x.a x.len x.cap] (.tup []) K w :=
  plan_call A.disk hx hl fun F' w' A' u hF => hK _ w' (A.of A' (ok_plan (A.ok.mono (Nat.le_add_right _ _)) _) hF A.pos) u fun k hk => hF k hk.1
theorem crashS (A : DS w d F D N) (hN : N ≤ 2 ^ 60) {c : Int × Sl × Unit} {bytes : List Int} (hc : SlX w c.2.1 1 (iv bytes)) (hcl : Lie (fun k => ¬ F k) c.2.1) {K : Unit → World → Prop}
    (hK : ∀ F' w', DS w' d F' (crash D c.1 bytes) (N + 2) → Upd F w w' → (∀ k, F' k → F k ∨ w.heap.size ≤ k) → K () w') :
    callT Tryz.prog 40 #[.pointer (some (at0 d)), .agg (Cells.vals c72 c).toArray] (.tup []) K w := by
  obtain ⟨ms, ml, sa, pl, vs, fb, ds, A'⟩ := A.disk
  exact crash_call A' A.ok hN ⟨hc, .inl hcl⟩ fun F' w' A2 u hF => hK _ w' (A.of A2 ((ok_crash A.ok _ _).mono (Nat.le_add_right _ _)) hF A.pos) u fun k hk => hF k hk.1
theorem restartS (A : DS w d F D N) {K : Unit → World → Prop} (hK : ∀ F' w', DS w' d F' (restart D) (N + 2) → Upd F w w' → (∀ k, F' k → F k ∨ w.heap.size ≤ k) → K () w') :
    callT Tryz.prog 42 #[.pointer (some (at0 d))] (.tup []) K w :=
  restart_call A.disk fun w' A' u => hK _ w' (A.of A' ((ok_restart A.ok).mono (Nat.le_add_right _ _)) (fun k hk => .inl hk) A.pos) u fun k hk => .inl hk.1
set_option maxHeartbeats 1000000 in
theorem tidy_call (A : DS w d F D N) (hN : N + 40 ≤ 2 ^ 30) (hl : LaidE w) {K : Int → World → Prop} (hK : ∀ F' w', DS w' d F' (tidyP D).1 (N + 40) → Upd F w w' → (∀ k, F' k → F k ∨ w.heap.size ≤ k) → K (tidyP D).2 w') :
    callT Tryz.prog 43 #[.pointer (some (at0 d))] (.one (.one (.int .i64))) K w := by
  refine F43_calls ?_
  unfold F43
  refine down_call A.disk ?_
  unfold tidyP at hK
  refine sif_r (fun hd => ?_) fun hd => ?_
  · rw [if_pos hd] at hK
    exact hK F w (A.mono (by omega)) (Upd.refl _ _) fun k hk => .inl hk
  rw [if_neg (by rw [hd]; simp)] at hK
  obtain ⟨L, hL⟩ : ∃ L, L = names D.seen := ⟨_, rfl⟩
  have h16 := A.ok.seen.names.2
  rw [← hL] at h16 hK
  have hLo : ∀ m ∈ L, m.size < 2 ^ 62 := fun m hm => by
    rw [hL] at hm
    have h1 := (A.ok.seen.names.1.2 m).1 hm
    cases hi : D.seen m with
    | none => rw [hi] at h1; cases h1
    | some i =>
      have := A.ok.seen.okn m i hi
      unfold okName at this
      simp only [Bool.and_eq_true, decide_eq_true_eq] at this
      omega
  refine join_r (fun y W => ∃ F', y = ((tidyL L false D).2.2, ()) ∧ (tidyL L false D).2.1 = 0 ∧ DS W d F' (tidyL L false D).1 (N + 2 * L.length) ∧ Upd F w W ∧ (∀ k, F' k → F k ∨ w.heap.size ≤ k)) ?_ ?_
  · refine names_of_call A.disk A.ok fun s w1 o1 e1 => ?_
    rw [if_neg (by rw [hd]; simp), ← hL] at o1
    have hsl := o1.len1
    rw [List.length_map] at hsl
    refine sloop_r (fun st W => ∃ (i : Nat) (b : Bool) (F' : Nat → Prop) (E : Dk), st = (b, (i : Int), ()) ∧ i ≤ L.length ∧ tidyL L false D = tidyL (L.drop i) b E ∧ DS W d F' E (N + 2 * i) ∧ StrsO W w.heap.size s L ∧ (∀ k, s.blk k → ¬ F' k) ∧ Upd F w W ∧ (∀ k, F' k → F k ∨ w.heap.size ≤ k)) (fun st _ => L.length - st.2.1.toNat)
      ⟨0, false, F, D, rfl, Nat.zero_le _, rfl, A.ext e1, o1, fun k hk hh => by have := A.lt k hh; have := o1.blk_ge hk; omega, Upd.of_ext e1, fun k hk => .inl hk⟩ ?_
    rintro _ W ⟨i, b, F1, E, rfl, hi, hE, A1, o2, ho2, u1, hF1⟩
    dsimp only
    refine sif_r (fun hlt => ?_) fun hge => ?_
    · have hlt : i < L.length := by have := of_decide_eq_true hlt; omega
      obtain ⟨nm, hnm⟩ : ∃ nm, L[i]? = some nm := ⟨_, List.getElem?_eq_getElem hlt⟩
      have hdr : L.drop i = nm :: L.drop (i + 1) := by
        have hh := (List.getElem?_eq_some_iff.1 hnm).2
        rw [← hh]; exact List.drop_eq_getElem_cons hlt
      rw [hdr] at hE
      refine join_r (fun y W' => ∃ (b' : Bool) (F' : Nat → Prop) (E' : Dk), y = (b', ()) ∧ tidyL L false D = tidyL (L.drop (i + 1)) b' E' ∧ DS W' d F' E' (N + 2 * (i + 1)) ∧ StrsO W' w.heap.size s L ∧ (∀ k, s.blk k → ¬ F' k) ∧ Upd F w W' ∧ (∀ k, F' k → F k ∨ w.heap.size ≤ k)) ?_ ?_
      · refine ix_ldX (c := .str) (xs := L) o2.in.x (by omega) (by rw [Int.toNat_natCast]; exact hnm) fun _ => suffix_call (hLo nm (List.mem_of_getElem? hnm)) (sif_r (fun hs => ?_) fun hs => ?_)
        · have hs : nm.data.back? ≠ some 126 := by simpa using hs
          rw [tidyL, if_pos hs] at hE
          exact ⟨b, F1, E, rfl, hE, A1.mono (by omega), o2, ho2, u1, hF1⟩
        have hs : nm.data.back? = some 126 := by simpa using hs
        rw [tidyL, if_neg (by rw [hs]; simp)] at hE
        refine removeS A1 (by omega) fun F2 w2 v2 hv2 A2 u2 hF2 => hv2.nenil (sif_r (fun he => ?_) fun he => ?_)
        · have he := of_decide_eq_true he
          rw [if_neg he] at hE
          refine number_call hv2 ((hl.upd u1 A.no0).upd u2 A1.no0) fun w3 e3 => ?_
          have hk := hK F2 w3
          rw [hE, if_pos he] at hk
          have z1 := u1.size
          exact hk ((A2.ext e3).mono (by omega)) ((u1.new u2 fun k hk hh => (hF1 k hh).resolve_right (by omega)).trans (Upd.of_ext e3)) fun k hk => (hF2 k hk).elim (hF1 k) fun hh => .inr (by omega)
        · have he : (callRemove E nm).2.1 = 0 := by have := of_decide_eq_false he; omega
          rw [if_pos he] at hE
          have z1 := u1.size
          exact ⟨true, F2, _, rfl, hE, A2.mono (by omega), o2.upd u2 fun k _ hk hh => ho2 k hk hh, fun k hk hh => (hF2 k hh).elim (ho2 k hk) fun hl => by have := o2.in.blk_lt hk; omega, u1.new u2 fun k hk hh => (hF1 k hh).resolve_right (by omega), fun k hk => (hF2 k hk).elim (hF1 k) fun hh => .inr (by omega)⟩
      rintro _ W2 ⟨b', F2, E', rfl, hE', A2, o3, ho3, u2, hF2⟩
      rw [wrap64 (by omega) (by omega)]
      refine ⟨⟨i + 1, b', F2, E', by rw [show ((i : Int) + 1) = ((i + 1 : Nat) : Int) by omega], by omega, hE', A2, o3, ho3, u2, hF2⟩, ?_⟩
      show L.length - ((i : Int) + 1).toNat < L.length - (i : Int).toNat
      omega
    · have hge : ¬ i < L.length := by have := of_decide_eq_false hge; omega
      obtain rfl : i = L.length := by omega
      rw [List.drop_eq_nil_of_le (Nat.le_refl _)] at hE
      have hE : tidyL L false D = (E, 0, b) := hE
      rw [hE]
      exact ⟨F1, rfl, rfl, A1, u1, hF1⟩
  rintro _ W ⟨F1, rfl, h0, A1, u1, hF1⟩
  rw [if_neg (fun hh => hh h0)] at hK
  refine sif_r (fun hb => ?_) fun hb => ?_
  · have hb : (tidyL L false D).2.2 = false := by simpa using hb
    rw [if_pos hb] at hK
    exact hK F1 W (A1.mono (by omega)) u1 hF1
  · have hb : ¬ (tidyL L false D).2.2 = false := by simpa using hb
    rw [if_neg hb] at hK
    refine syncdirS A1 (by omega) fun F2 w2 v2 hv2 A2 u2 hF2 => number_call hv2 ((hl.upd u1 A.no0).upd u2 A1.no0) fun w3 e3 => ?_
    have z1 := u1.size
    exact hK F2 w3 ((A2.ext e3).mono (by omega)) ((u1.new u2 fun k hk hh => (hF1 k hh).resolve_right (by omega)).trans (Upd.of_ext e3)) fun k hk => (hF2 k hk).elim (hF1 k) fun hh => .inr (by omega)
end
end Dq
end Go.Proofs.YtmooldhpiopcgaaGreatDoor
set_option linter.unusedSimpArgs false
set_option linter.unusedVariables false
set_option maxRecDepth 100000
namespace Go.Proofs.YtmooldhpiopcgaaGreatDoor
namespace Dq
open Go Go.Vx Dsk Cdc Trx
section
variable {w w' : World} {S P F F' : Nat → Prop} {d : Nat} {D : Dk} {N : Nat}
theorem EFt : ElemOk Tryz.prog 69 132 5 56 := ElemOk.of (z := .agg #[.int .i64 0, .int .i64 0, .int .i64 0, .int .i64 0, .slice none 0 0]) i69_ok i132_ok rfl rfl rfl (by decide)
theorem uFt : Tryz.prog.underlying 69 = some (.slice 132) := i69_ok.und
theorem FaultsIn.mono {P' : Nat → Prop} {x : Sl} {rows : List (Cells.T c132)} {fl : List (Int × Fault)} (h : FaultsIn w P x rows fl) (hp : ∀ k, P k → P' k) : FaultsIn w P' x rows fl :=
  ⟨h.row, h.blk.imp id fun hh k hk => hp k (hh k hk), h.len, fun i r f hr hf => let ⟨a, b, c, d, e, g, l⟩ := h.at_ i r f hr hf; ⟨a, b, c, d, e, g, l.imp id fun hh k hk => hp k (hh k hk)⟩⟩
theorem lcut_call {c : Cells.T c72} {l : List Int} (hc : SlX w c.2.1 1 (iv l)) (hl : l.length ≤ 2 ^ 44) {K : (Int × Sl × Unit) → World → Prop} (hK : ∀ s w', SlOwn w' w.heap.size s 3 1 (iv l) → Ext w w' → K (c.1, s, ()) w') :
    callT Tryz.prog 41 #[.agg (Cells.vals c72 c).toArray] (.one (.agg c72)) K w := by
  refine F41_calls (a0 := c) ?_
  unfold F41
  obtain ⟨nm, s, ⟨⟩⟩ := c
  dsimp only at hc hK ⊢
  have hxl := hc.len1
  rw [List.length_map] at hxl
  refine newO_r fun b1 w1 e1 n1 hb1 hz1 => newO_r fun b2 w2 e2 n2 hb2 hz2 => drew_r fun w3 e3 _ => ?_
  have m1 := e3.ext_get (e2.ext_get n1)
  have e03 := (e1.trans e2).trans e3
  have z3 := e3.size
  refine ld_r m1 (off := 0) (x := nm) rfl (ld_r m1 (off := 1) (x := s) rfl ?_)
  refine append_rx EI uI (B := w3.heap.size) (s := ⟨none, 0, 0⟩) (vs := []) (SlOwn.nil _ _ _ _) (hc.ext e03) (iv_one l) (by show (0 + s.len + (0 + s.len) / 4 + 512) * 8 ≤ _; omega) (Nat.le_refl _) fun s4 w4 h4 hl4 u4 hb4 => ?_
  have e4 : Ext w3 w4 := u4.mono fun k _ h => by obtain ⟨q, hq, _⟩ := h; cases hq
  have h4 : SlOwn w4 w3.heap.size s4 3 1 (iv l) := by simpa using h4
  refine keep_r (cell_of (off := 0) (e4.ext_get m1) rfl) (aggSt_r (e4.ext_get (e3.ext_get n2)) rfl rfl (by decide) fun w5 u5 n5 z5 => ?_)
  have n5 : w5.heap[b2]? = some (.cells (Cells.vals c72 (nm, s4, ())).toArray 72 (0, 0)) := n5
  refine lds_r (x := ((nm, s4, ()) : Cells.T c72)) n5 (fun i v hv => by rw [Nat.zero_add, ← Array.getElem?_toList]; exact hv) (hK s4 w5 ((h4.mono (by have := e03.size; omega)).upd u5 fun k _ hk hh => by have := h4.blk_ge hk; omega) ((e03.trans e4).step u5 fun k hk => by omega))
structure FaultsOwn (w : World) (B : Nat) (x : Sl) (rows : List (Cells.T c132)) (fl : List (Int × Fault)) : Prop where
  row : SlOwn w B x 132 5 (flat c132 rows)
  len : rows.length = fl.length
  at_ : ∀ (i : Nat) (r : Cells.T c132) (f : Int × Fault), rows[i]? = some r → fl[i]? = some f → r.1 = f.1 ∧ r.2.1 = f.2.kind ∧ r.2.2.1 = f.2.part ∧ r.2.2.2.1 = f.2.names ∧ SlOwn w B r.2.2.2.2.1 3 1 (iv f.2.bytes) ∧ f.2.bytes.length ≤ 2 ^ 44
theorem FaultsOwn.in {B : Nat} {x : Sl} {rows : List (Cells.T c132)} {fl : List (Int × Fault)} (h : FaultsOwn w B x rows fl) : FaultsIn w (fun k => B ≤ k ∧ k < w.heap.size) x rows fl :=
  ⟨h.row.in.x, .inr fun k hk => ⟨h.row.blk_ge hk, h.row.in.blk_lt hk⟩, h.len, fun i r f hr hf => let ⟨a, b, c, d, e, g⟩ := h.at_ i r f hr hf; ⟨a, b, c, d, e.in.x, g, .inr fun k hk => ⟨e.blk_ge hk, e.in.blk_lt hk⟩⟩⟩
theorem FaultsOwn.upd {B : Nat} {x : Sl} {rows : List (Cells.T c132)} {fl : List (Int × Fault)} (h : FaultsOwn w B x rows fl) (u : Ext w w') : FaultsOwn w' B x rows fl :=
  ⟨h.row.ext u, h.len, fun i r f hr hf => let ⟨a, b, c, d, e, g⟩ := h.at_ i r f hr hf; ⟨a, b, c, d, e.ext u, g⟩⟩
theorem FaultsOwn.push {B : Nat} {W w5 : World} {sl s2 : Sl} {rows : List (Cells.T c132)} {fl : List (Int × Fault)} (h : FaultsOwn W B sl rows fl) {r : Cells.T c132} {g : Int × Fault} (h5 : SlOwn w5 B s2 132 5 (flat c132 rows ++ Cells.vals c132 r)) (u5 : Upd sl.blk W w5)
    (q : r.1 = g.1 ∧ r.2.1 = g.2.kind ∧ r.2.2.1 = g.2.part ∧ r.2.2.2.1 = g.2.names ∧ SlOwn W B r.2.2.2.2.1 3 1 (iv g.2.bytes) ∧ g.2.bytes.length ≤ 2 ^ 44) : FaultsOwn w5 B s2 (rows ++ [r]) (fl ++ [g]) := by
  have hl1 := h.len
  refine ⟨by rw [flat_append]; simpa [flat] using h5, by simp; omega, fun i r2 f2 hr2 hf2 => ?_⟩
  have keep : ∀ {y : Sl} {l : List Int}, SlOwn W B y 3 1 (iv l) → SlOwn w5 B y 3 1 (iv l) := fun hh => hh.ty u5 (NoTy.blk h.row.in (by decide))
  by_cases hi : i < rows.length
  · rw [List.getElem?_append_left hi] at hr2
    rw [List.getElem?_append_left (by omega)] at hf2
    obtain ⟨a, b, c, d, e, g'⟩ := h.at_ i r2 f2 hr2 hf2
    exact ⟨a, b, c, d, keep e, g'⟩
  · rw [List.getElem?_append_right (by omega)] at hr2
    rw [List.getElem?_append_right (by omega)] at hf2
    have h1 := List.mem_of_getElem? hr2
    have h2 := List.mem_of_getElem? hf2
    simp at h1 h2
    subst h1 h2
    obtain ⟨a, b, c, d, e, g'⟩ := q
    exact ⟨a, b, c, d, keep e, g'⟩
theorem fault_one (r : Cells.T c132) : ∀ v ∈ Cells.vals c132 r, isOne v = true := fun v hv => by
  simp [Cells.vals, Cell.val] at hv
  rcases hv with rfl | rfl | rfl | rfl | rfl <;> rfl
set_option maxHeartbeats 1000000 in
theorem faults_call {x : Sl} {rows : List (Cells.T c132)} {fl : List (Int × Fault)} (hx : FaultsIn w P x rows fl) (hl : fl.length ≤ 2 ^ 30) {K : Sl → World → Prop} (hK : ∀ s rows' w', FaultsOwn w' w.heap.size s rows' fl → Ext w w' → K s w') :
    callT Tryz.prog 38 #[.slice x.a x.len x.cap] (.one (.one .sl)) K w := by
  refine F38_calls (a0 := x) ?_
  unfold F38
  have hxl : rows.length = x.len := hx.row.lenR (cs := c132) (by decide)
  have hlen := hx.len
  refine join_r (fun x W => ∃ rows', FaultsOwn W w.heap.size x.1 rows' fl ∧ Ext w W) ?_ ?_
  · refine sloop_r (fun s W => ∃ (j : Nat) (sl : Sl) (rows' : List (Cells.T c132)), s = (sl, (j : Int), ()) ∧ j ≤ rows.length ∧ FaultsOwn W w.heap.size sl rows' (fl.take j) ∧ Ext w W) (fun s _ => rows.length - s.2.1.toNat)
      ⟨0, ⟨none, 0, 0⟩, [], rfl, Nat.zero_le _, ⟨SlOwn.nil _ _ _ _, rfl, fun i r f hr => by simp at hr⟩, Ext.refl _⟩ ?_
    rintro _ W ⟨j, sl, rows', rfl, hj, hs, eW⟩
    dsimp only
    refine sif_r (fun h => ?_) (fun h => ?_)
    · have h : j < rows.length := by have := of_decide_eq_true h; omega
      obtain ⟨r, hr⟩ : ∃ r, rows[j]? = some r := ⟨_, List.getElem?_eq_getElem h⟩
      obtain ⟨g, hg⟩ : ∃ g, fl[j]? = some g := ⟨_, List.getElem?_eq_getElem (by omega)⟩
      have xW := hx.upd eW fun k _ h => h
      obtain ⟨q1, q2, q3, q4, q5, q6, q7⟩ := xW.at_ j r g hr hg
      have ew : IntKind.wrap .i64 ((j : Int) + 1) = ((j + 1 : Nat) : Int) := by rw [wrap64 (by omega) (by omega)]; omega
      have htk : fl.take (j + 1) = fl.take j ++ [g] := by rw [List.take_add_one, hg]; rfl
      refine ix_ldsX (cs := c132) xW.row (by decide) (by omega) (by rw [Int.toNat_natCast]; exact hr) fun _ => ?_
      refine newO_r fun b7 w1 e1 n1 hb1 hz1 => aggSt_r n1 rfl rfl (by decide) fun w2 u2 n2 z2 => ?_
      have n2 : w2.heap[b7]? = some (.cells (Cells.vals c132 r).toArray 132 (0, 0)) := n2
      have e02 : Ext W w2 := e1.step u2 fun k hk => by omega
      refine lds_r (b := b7) (off := 3) (x := ((r.2.2.2.1, r.2.2.2.2.1, ()) : Cells.T c72)) n2 (fun i v hv => by
        match i, hv with
        | 0, hv => exact hv
        | 1, hv => exact hv
        | i + 2, hv => cases hv) ?_
      refine lcut_call (c := (r.2.2.2.1, r.2.2.2.2.1, ())) (SlX.ext q5 e02) q6 fun s' w3 hs' e3 => ?_
      have m3 := e3.ext_get n2
      refine aggSt_r m3 (off := 3) rfl rfl (by show 3 + 2 ≤ 5; decide) fun w4 u4 n4 z4 => ?_
      have n4 : w4.heap[b7]? = some (.cells (Cells.vals c132 (r.1, r.2.1, r.2.2.1, r.2.2.2.1, s', ())).toArray 132 (0, 0)) := n4
      refine lds_r (x := ((r.1, r.2.1, r.2.2.1, r.2.2.2.1, s', ()) : Cells.T c132)) n4 (fun i v hv => by rw [Nat.zero_add, ← Array.getElem?_toList]; exact hv) ?_
      refine newO_r fun b11 w5 e5 n5 hb5 hz5 => ?_
      have eA : Ext W w5 := ((e02.trans e3).step u4 fun k hk => by omega).trans e5
      have zW := eW.size
      have z3 := e3.size
      have hsA := hs.upd eA
      have hrl : rows'.length = sl.len := hs.row.lenR (cs := c132) (by decide)
      have hl1 := hs.len
      rw [List.length_take] at hl1
      have hbox : SlX w5 ⟨some (at0 b11), 1, 1⟩ 5 (Cells.vals c132 (r.1, r.2.1, r.2.2.1, r.2.2.2.1, s', ())) := (SlIn.of_box (n := 1) (sz := 5) n5 rfl).x
      have hs4 : SlOwn w5 w.heap.size s' 3 1 (iv g.2.bytes) := ((hs'.upd u4 fun k _ hk hh => by have := hs'.blk_ge hk; omega).ext e5).mono (by omega)
      refine append_rx EFt uFt (s := sl) (x := ⟨some (at0 b11), 1, 1⟩) hsA.row hbox (fault_one _) (by show (sl.len + 1 + (sl.len + 1) / 4 + 512) * 56 ≤ _; omega) (by have := eA.size; omega) fun s2 w6 h6 hl6 u6 hb6 => ?_
      have e06 : Ext w w6 := (eW.trans eA).step u6 fun k hk => hs.row.blk_ge hk
      rw [ew]
      refine ⟨⟨j + 1, s2, rows' ++ [(r.1, r.2.1, r.2.2.1, r.2.2.2.1, s', ())], rfl, h, by rw [htk]; exact hsA.push h6 u6 ⟨q1, q2, q3, q4, hs4, q6⟩, e06⟩, by simp only [Int.toNat_natCast]; omega⟩
    · have h : ¬ j < rows.length := by have := of_decide_eq_false h; omega
      rw [List.take_of_length_le (by omega)] at hs
      exact ⟨rows', hs, eW⟩
  · rintro ⟨s, ⟨⟩⟩ W ⟨rows', h1, h2⟩
    exact hK s rows' W h1 h2
end
end Dq
end Go.Proofs.YtmooldhpiopcgaaGreatDoor
set_option linter.unusedSimpArgs false
set_option linter.unusedVariables false
set_option maxRecDepth 100000
namespace Go.Proofs.YtmooldhpiopcgaaGreatDoor
namespace Dq
open Go Go.Vx Dsk Cdc Trx
section
variable {w w' : World} {S P F F' : Nat → Prop} {d : Nat} {D : Dk} {N : Nat} {fs : Fls} {n : Nm} {V : Vw} {b : List UInt8}
theorem atomic_plain {g : List UInt8 → Int} {enc : Int} {X : Fil} {lod : Lod} (hS : Start g fs n enc D X lod) (ok : DkOk D N) {data : List UInt8} (hs : smallP fs n enc data = true) (fl : List (Int × Fault)) {e : Int} (he : e = (saveP (plan D fl) X data false).2.1) :
    (fl = [] → e = 0) ∧ ∀ nm bytes, Lost (side n) (fun W => (W = viewOf fs ∨ W = vset (viewOf fs) n (some (X.mark ++ data))) ∧ (e = 0 → W = vset (viewOf fs) n (some (X.mark ++ data)))) (Dsk.crash (saveP (plan D fl) X data false).1 nm bytes) := by
  obtain ⟨hu, _, hdl, hfl, hfs⟩ := small_all hs
  have hm3 := hS.mark3
  have hvs := view_side (fun f hf => (hfs f hf).1) n
  have hn := hS.name
  subst hn
  have hT : (X.mark ++ data).length ≤ 60003 := by rw [List.length_append]; omega
  have h0 := ((sol_at hS.sol ok hvs hS.space X.name).planned fl).mono (A' := fun W => W = viewOf fs ∨ W = vset (viewOf fs) X.name (some (X.mark ++ data))) fun W h => .inl h
  obtain ⟨r1, r2⟩ := h0.save_any (b := data) (force := false) hu hT (.inr rfl) (.inl hS.known.symm)
  rw [← he] at r2
  refine ⟨fun hfl0 => ?_, fun nm bytes => ?_⟩
  · subst hfl0
    obtain ⟨c, s1, _⟩ := hS.save (data := data) (force := false) (E := plan D []) (b := data) (ok_plan ok []) (plan0_sol hS.sol) hS.space hS.names hs (.inr (by
      show stampOf D X.name = knownAt D X
      unfold knownAt
      split
      · rfl
      · exact hS.known.symm)) (by omega) (by omega)
    rw [he, s1]
  · by_cases h : e = 0
    · obtain ⟨s', a, _⟩ := r2 h
      exact (a.pr.crash nm bytes).mono fun W hW => ⟨.inr hW, fun _ => hW⟩
    · exact (r1.crash (fun E hE => let ⟨U', s', _, hh, _⟩ := hE; hh.pr) nm bytes).mono fun W hW => ⟨hW, fun hh => absurd hh h⟩
set_option maxHeartbeats 4000000 in
theorem atomic_walk (hl : LaidE w) {x : Cells.T c39} {rows : List (Cells.T c65)} {data : List UInt8} (h : Scn w x rows fs data) {sf : Sl} {frows : List (Cells.T c132)} {fl : List (Int × Fault)} (hf : FaultsIn w (fun k => k < w.heap.size) sf frows fl) (hfl : fl.length ≤ 2 ^ 30)
    {c : Cells.T c72} {bytes : List Int} (hc : SlX w c.2.1 1 (iv bytes)) (hcl : bytes.length ≤ 2 ^ 44) {K : Bool → World → Prop} (hK : ∀ w', Ext w w' → K true w') :
    callT Tryz.prog 8 #[.agg (scells x), .slice sf.a sf.len sf.cap, .agg (Cells.vals c72 c).toArray] (.one (.one .bool)) K w := by
  refine F8_calls (a0 := x) (a1 := sf) (a2 := c) ?_
  unfold F8
  have hfll : fl.length = sf.len := by rw [← hf.len]; exact hf.row.lenR (cs := c132) (by decide)
  refine newO_r fun b1 w0 e0 n0 hb1 hz1 => newO_r fun b2 w1 e1' m1 hb2 hz2 => ?_
  have n1 : w1.heap[b1]? = some (.cells (scells x) 39 (0, 0)) := e1'.ext_get n0
  have m1 : w1.heap[b2]? = some (.cells (Cells.vals c72 c).toArray 72 (0, 0)) := m1
  have e1 := e0.trans e1'
  clear n0
  refine able_call (hl.ext e1) fun w2 e2 => sif_r (fun h => by cases h) fun _ => ?_
  have sl : ∀ {W : World}, W.heap[b1]? = some (.cells (scells x) 39 (0, 0)) → ∀ {K : Cells.T c39 → World → Prop}, K x W → lds c39 (at0 b1) K W := fun hb _ hk =>
    lds_r (x := x) hb (fun i v hv => by rw [Nat.zero_add, ← Array.getElem?_toList]; exact hv) hk
  refine sl (e2.ext_get n1) (small_call ((h.ext e1).ext e2) fun w3 e3 => sif_r (fun _ => hK _ ((e1.trans e2).trans e3)) fun hs => ?_)
  have hs : smallP fs x.2.1 x.2.2.1 data = true := by simpa using hs
  obtain ⟨hu, he, hdl, hfl2, hfs⟩ := small_all hs
  obtain ⟨hn, hsn⟩ := side_ok hu
  have e13 := e2.trans e3
  have h3 := (h.ext e1).ext e13
  have n3 := e13.ext_get n1
  have m3 := e13.ext_get m1
  have e03 := e1.trans e13
  have fin : ∀ {W : World}, Ext w3 W → Ext w W := fun e => e03.trans e
  clear e2 e3
  refine sl n3 (set_call ((hl.ext e1).ext e13) h3 hs fun w4 st d f F D X sm sd so lod e4 hst hS => sif_r (fun h => by cases h) fun _ => ?_)
  obtain ⟨hm1, hm2⟩ := hS.mark_is
  have hm3 := hS.mark3
  have hold := old_le (fun f hf => (hfs f hf).2) x.2.1
  have hXn := hS.name
  have n4 := e4.ext_get n3
  refine ld_r n4 (off := 3) (x := x.2.2.2.1) rfl (text_call hst hS.rng (h3.ext e4).data (by omega) fun w5 p e O M hT hM e5 hO => sif_r (fun h => by cases h) fun _ => ?_)
  have st5 := hst.ext e5
  have t5 : TxOn w5 p e O M F f data := ⟨hT, hM, fun k hk => by
    have h1 := hO k hk
    exact ⟨fun hh => by have := hst.disk.lt k hh; omega, fun hh => by have := lt_of_heap hst.file.at_.box; omega⟩⟩
  have e35 := e4.trans e5
  refine drew_r fun w6 e6 _ => nn_some (ld_r (e6.ext_get st5.box) (off := 0) (x := some (at0 d)) rfl ?_)
  refine faults_call ((hf.upd (fin (e35.trans e6)) fun k _ hh => hh) : FaultsIn w6 (fun k => k < w.heap.size) sf frows fl) hfl fun sq rows' w7 hq e7 => keep_r (cell_of (off := 0) (e7.ext_get (e6.ext_get st5.box)) rfl) ?_
  have e57 := e6.trans e7
  have st7 := st5.ext e57
  have t7 := t5.ext e57
  have e37 := e35.trans e57
  have z57 := e57.size
  have z6 := e6.size
  refine planS st7.disk (hq.in.mono fun k hk => ⟨hk.2, fun hh => by have := st5.disk.lt k hh; omega⟩) (by omega) fun F8 w8 A8 u8 hF8 => nn_some ?_
  have st8 := st7.turn A8 u8 hF8
  have t8 := t7.turn st7.disk u8 hF8
  have e38 : Ext w3 w8 := e37.step u8 fun k hk => st7.lF k hk
  rw [addr_add]
  refine ld_r st8.box (off := 0 + 1) (x := some (at0 f)) rfl (saveT st8 t8 (by omega) fun F9 w9 st9 t9 u9 hF9 => ?_)
  obtain ⟨er, her⟩ : ∃ er, er = (saveP (plan D fl) X data false).2.1 := ⟨_, rfl⟩
  obtain ⟨pl1, pl2⟩ := atomic_plain hS hst.disk.ok hs fl her
  obtain ⟨D9, hD9⟩ : ∃ D9, D9 = (saveP (plan D fl) X data false).1 := ⟨_, rfl⟩
  rw [← hD9] at st9 pl2
  rw [← her]
  have e39 : Ext w3 w9 := e38.step u9 fun k hk => hk.elim (st8.lF k) fun hh => by rw [hh]; exact st8.lf
  have n9 := e39.ext_get n3
  have tb : ∀ {W : World}, Ext w9 W → ∀ {J : Bool × Unit → World → Prop}, (∀ W', Ext W W' → J (false, ()) W') → ld .sl (⟨b1, 3, none⟩ : Addr) (fun (x19 : Sl) => callT Tryz.prog 39 #[(.pointer (some (at0 p)))] (.one (.one .sl)) fun (x20 : Sl) =>
      keep (fun w => w.cell? (⟨b1, 3, none⟩ : Addr) = some (Cell.val (.sl) x19)) <| callT Tryz.prog 22 #[(.slice x20.a x20.len x20.cap), (.slice x19.a x19.len x19.cap)] (.one (.one .bool)) fun (x21 : Bool) => J ((!x21), ())) W := fun {W} eW {J} hJ => by
    refine ld_r (eW.ext_get n9) (off := 3) (x := x.2.2.2.1) rfl (bytes_call (t9.ext eW).txt fun s W' by_ e' => keep_r (cell_of (off := 3) (e'.ext_get (eW.ext_get n9)) rfl) ?_)
    rw [t9.is] at by_
    refine same_call by_.x (h3.ext ((e39.trans eW).trans e')).data (by omega) fun W2 e2 => ?_
    rw [decide_eq_true (show data = data from rfl)]
    exact hJ _ (e'.trans e2)
  refine join_r (fun y W => y = (false, ()) ∧ Ext w9 W) ?_ ?_
  · refine drew_r fun w10 e10 _ => sif_r (fun h0 => sif_r (fun h => ?_) fun _ => tb (J := fun y W => y = (false, ()) ∧ Ext w9 W) e10 fun W' e' => ⟨rfl, e10.trans e'⟩) fun _ => tb (J := fun y W => y = (false, ()) ∧ Ext w9 W) e10 fun W' e' => ⟨rfl, e10.trans e'⟩
    exfalso
    have h0 : fl = [] := List.length_eq_zero_iff.1 (by have : ((sf.len : Nat) : Int) = 0 := by simpa using h0
                                                       omega)
    rw [pl1 h0] at h; cases h
  rintro _ w10 ⟨rfl, e10⟩
  have st10 := st9.ext e10
  have e3a := e39.trans e10
  refine sif_false (drew_r fun w11 e11 _ => nn_some (ld_r (e11.ext_get st10.box) (off := 0) (x := some (at0 d)) rfl ?_))
  have st11 := st10.ext e11
  have e3b := e3a.trans e11
  refine lds_r (x := c) (e3b.ext_get m3) (fun i v hv => by rw [Nat.zero_add, ← Array.getElem?_toList]; exact hv) ?_
  refine lcut_call (hc.ext (fin e3b)) hcl fun s12 w12 hs12 e12 => keep_r (cell_of (off := 0) (e12.ext_get st11.box) rfl) ?_
  have st12 := st11.ext e12
  refine crashS (c := (c.1, s12, ())) st12.disk (by omega) hs12.in.x (.inr fun k hk hh => by have := hs12.blk_ge hk; have := st11.disk.lt k hh; omega) fun F13 w13 A13 u13 hF13 => nn_some ?_
  have st13 := st12.turn A13 u13 hF13
  have L13 := pl2 c.1 bytes
  refine ld_r st13.box (off := 0) (x := some (at0 d)) rfl (restartS st13.disk fun F14 w14 A14 u14 hF14 => ?_)
  have st14 := st13.turn A14 u14 hF14
  obtain ⟨q14, ac14, W, ⟨hW, hW0⟩, hol14⟩ := L13.up
  have e3e : Ext w3 w14 := ((e3b.trans e12).step u13 fun k hk => st12.lF k hk).step u14 fun k hk => st13.lF k hk
  obtain ⟨D14, hD14⟩ : ∃ D14, D14 = restart (Dsk.crash D9 c.1 bytes) := ⟨_, rfl⟩
  rw [← hD14] at st14 q14 ac14 hol14
  have hWu : ∀ m, W m ≠ none → userName m = true := fun m hm => by
    have hv : ∀ m, viewOf fs m ≠ none → userName m = true := fun m hm => by
      cases hv : viewOf fs m with
      | none => exact absurd hv hm
      | some b => exact view_all (P := fun n _ => userName n = true) (fun f hf => (hfs f hf).1) _ _ hv
    rcases hW with rfl | rfl
    · exact hv m hm
    · by_cases hmn : m = x.2.1
      · rw [hmn]; exact hu
      · rw [show vset (viewOf fs) x.2.1 (some (X.mark ++ data)) m = viewOf fs m by unfold vset; rw [if_neg hmn]] at hm
        exact hv m hm
  obtain ⟨ty1, ty2⟩ := tidy_quiet q14 ac14 st14.disk.ok hol14 hWu hu
  have hWA : ∀ m c, W m = some c → m = x.2.1 ∨ ∃ (j : Nat) (f : Nm × List UInt8), fs[j]? = some f ∧ f.1 = m := fun m c hh => by
    rcases hW with rfl | rfl
    · exact .inr (view_some hh)
    · exact own_A m c hh
  have hWB : ∀ m, m ≠ x.2.1 → ∀ c, viewOf fs m = some c → W m = some c := fun m hm c hh => by
    rcases hW with rfl | rfl
    · exact hh
    · exact own_B m hm c hh
  refine join_r (fun y W' => y = (false, ()) ∧ ∃ F' k, Stg W' st d f F' { (tidyP D14).1 with steps := k } 20000 (saveP (plan D fl) X data false).2.2 sm sd so lod.enc lod.new (viewOf fs x.2.1).isSome lod.data ((viewOf fs x.2.1).getD []) w3.heap.size ∧ Ext w3 W') ?_ ?_
  · refine drew_r fun w15 e15 _ => nn_some (ld_r (e15.ext_get st14.box) (off := 0) (x := some (at0 d)) rfl ?_)
    have st15 := st14.ext e15
    refine tidy_call st15.disk (by omega) st15.file.laid fun F16 w16 A16 u16 hF16 => ?_
    have st16 := st15.turn A16 u16 hF16
    rw [ty1]
    have e3g : Ext w3 w16 := (e3e.trans e15).step u16 fun k hk => st15.lF k hk
    refine sif_r (fun h => by cases h) fun _ => sl (e3g.ext_get n3) (nn_some ?_)
    rw [addr_add]
    refine ld_r st16.box (off := 0 + 7) (x := (viewOf fs x.2.1).isSome) rfl (sif_r (fun hw => ?_) fun hw => ?_)
    · refine others_call (w0 := w3) st16 ty2 h3.files e3g rfl (fun f hf => (hfs f hf).1) (by omega) (by omega) hWA hWB (fun _ => ?_) fun F17 w17 k17 st17 u17 hF17 => ⟨rfl, F17, k17, st17.mono (by omega), e3g.step u17 fun k hk => st16.lF k hk⟩
      rcases hW with rfl | rfl
      · intro hh; rw [hh] at hw; cases hw
      · rw [vset_at]; simp
    · refine others_call (w0 := w3) st16 ty2 h3.files e3g rfl (fun f hf => (hfs f hf).1) (by omega) (by omega) hWA hWB (fun h0 => ?_) fun F17 w17 k17 st17 u17 hF17 => ⟨rfl, F17, k17, st17.mono (by omega), e3g.step u17 fun k hk => st16.lF k hk⟩
      have h0 : er = 0 := by simpa using h0
      rw [hW0 h0, vset_at]; simp
  rintro _ w15 ⟨rfl, F15, k15, st15, e3h⟩
  refine sif_false (drew_r fun w16 e16 _ => nn_some ?_)
  have st16 := st15.ext e16
  have e3i := e3h.trans e16
  have sol : Sol { (tidyP D14).1 with steps := k15 } W := ty2.st _
  obtain ⟨E, hE⟩ : ∃ E, E = ({ (tidyP D14).1 with steps := k15 } : Dk) := ⟨_, rfl⟩
  rw [← hE] at st16 sol
  clear st15 hE
  have hmk : (saveP (plan D fl) X data false).2.2.mark = X.mark := saveP_same.1
  refine ld_r st16.box (off := 0) (x := some (at0 d)) rfl (ld_r (e3i.ext_get n3) (off := 1) (x := x.2.1) rfl (ld_r (e3i.ext_get n3) (off := 3) (x := x.2.2.2.1) rfl ?_))
  refine whole_call st16 (by rw [hmk]; exact hm2) (by omega) (h3.ext e3i).data (by omega) fun w17 s17 o17 e17 => keep_r (cell_of (off := 1) (e17.ext_get (e3i.ext_get n3)) rfl) (keep_r (cell_of (off := 0) (e17.ext_get st16.box) rfl) ?_)
  have st17 := st16.ext e17
  rw [hmk, ← hm1] at o17
  have hd17 : (X.mark ++ data).length ≤ 2 ^ 40 := by rw [List.length_append]; omega
  refine holds_call st17.disk (by omega) o17.in.x hd17 (.inr fun k hk hh => by have := o17.blk_ge hk; have := st16.disk.lt k hh; omega) fun F18 w18 A18 u18 hF18 => ?_
  have e3k : Ext w3 w18 := (e3i.trans e17).step u18 fun k hk => st17.lF k hk
  have st18 := st17.turn A18 u18 hF18
  refine sif_r (fun _ => hK _ (fin e3k)) fun hno => ?_
  have hno := of_decide_eq_false hno
  have hne : W ≠ vset (viewOf fs) x.2.1 (some (X.mark ++ data)) := fun hh => hno (by
    rw [read_sol sol hn (by rw [hh]; exact vset_at)]; exact ⟨rfl, rfl⟩)
  have hWV : W = viewOf fs := hW.resolve_right hne
  have her0 : er ≠ 0 := fun hh => hne (hW0 hh)
  refine sif_r (fun h0 => absurd (by simpa using h0) her0) fun _ => nn_some ?_
  rw [read_q sol.q hn] at st18
  have sol18 : Sol { E with steps := E.steps + 1 } (viewOf fs) := by rw [← hWV]; exact sol.st _
  rw [addr_add]
  refine ld_r st18.box (off := 0 + 7) (x := (viewOf fs x.2.1).isSome) rfl (sif_r (fun hw => ?_) fun hw => ?_)
  · refine ld_r (e3k.ext_get n3) (off := 0) (x := x.1) rfl ?_
    exact others_call (w0 := w3) (x := (x.1, ⟨#[]⟩, 0, ⟨none, 0, 0⟩, ())) st18 sol18 h3.files e3k rfl (fun f hf => (hfs f hf).1) (by omega) (by omega) (fun m c hh => .inr (view_some hh)) (fun m _ c hh => hh) (fun hh => by cases hh) fun F19 w19 k19 st19 u19 hF19 => hK _ (fin (e3k.step u19 fun k hk => st18.lF k hk))
  · have hw : (viewOf fs x.2.1).isSome = true := by simpa using hw
    refine drew_r fun w19 e19 _ => nn_some ?_
    have st19 := st18.ext e19
    have e3l := e3k.trans e19
    refine ld_r st19.box (off := 0) (x := some (at0 d)) rfl (ld_r (e3l.ext_get n3) (off := 1) (x := x.2.1) rfl (nn_some ?_))
    rw [addr_add]
    refine ld_r st19.box (off := 0 + 6) (x := so) rfl (holds_call st19.disk (by omega) st19.old.in.x (by omega) (.inr st19.oF) fun F20 w20 A20 u20 hF20 => ?_)
    obtain ⟨ob, hob⟩ := Option.isSome_iff_exists.1 hw
    rw [read_sol sol18 hn hob, hob]
    rw [decide_eq_true (show (0 : Int) = 0 ∧ ob = (some ob).getD [] from ⟨rfl, rfl⟩)]
    exact hK _ (fin (e3l.step u20 fun k hk => st19.lF k hk))
end
end Dq
end Go.Proofs.YtmooldhpiopcgaaGreatDoor
set_option linter.unusedSimpArgs false
set_option linter.unusedVariables false
namespace Go.Vx
open Go Go.ChangeShapes
theorem cell_spot {w : World} {a : Addr} {v : Value} (h : w.cell? a = some v) : a.spot = none ∧ ∃ c t fr, w.heap[a.block]? = some (.cells c t fr) ∧ c[a.off]? = some v := by
  unfold World.cell? at h
  split at h
  · rename_i c t fr hh
    split at h
    · cases h
    · rename_i hs
      exact ⟨by cases hsp : a.spot with | none => rfl | some _ => rw [hsp] at hs; exact absurd rfl hs, c, t, fr, hh, h⟩
  · cases h
theorem add_spot (a : Addr) (n : Nat) (h : a.spot = none) : a.add n = ⟨a.block, a.off + n, none⟩ := by
  obtain ⟨b, o, s⟩ := a
  simp only at h
  subst h
  exact addr_add b o n
theorem cells_get {w : World} {base : Nat} {a : Addr} {n : Nat} {r : List Value} (h : w.cells? base a n = some r) : r.length = n ∧ ∀ j, j < n → w.cell? (a.add j) = r[j]? := by
  unfold World.cells? at h
  split at h
  · have hl := mapM_some_length h
    rw [List.length_range] at hl
    refine ⟨hl, fun j hj => ?_⟩
    exact mapM_some_get h j j (by simp [hj])
  · cases h
section
variable {H : Type} {enc : TypeId × Value → H} {P : Program} {W : World} {base fuel : Nat} {held : Bool}
theorem weights_all {e : TypeId} {d : DataW H} {n : Nat} (hn : n ∈ d.weights P e) : ∀ l : List (DataW H), d ∈ l → n ∈ DataW.weightsAll P e l
  | [], h => by cases h
  | x :: r, h => by
    simp only [DataW.weightsAll, List.mem_append]
    rcases List.mem_cons.1 h with rfl | h
    · exact .inl hn
    · exact .inr (weights_all hn r h)
theorem open_rowsM {t e : TypeId} {sz : Nat} {cs : List Value} {x : DataW H × List MemPlace} (ht : P.underlying t = some (.slice e)) (hsz : P.cellsOf e = sz) (hpos : 0 < sz)
    (h : DataW.trod enc P W base (fun _ => true) held fuel t cs = some x) (hw : ∀ n ∈ x.1.weights P t, n ≤ reachBytes) :
    ∃ (s : Sl) (rows : List (List Value)), cs = [.slice s.a s.len s.cap] ∧ SlX W s sz rows.flatten ∧ rows.length = s.len ∧ s.len * P.bytesOf e ≤ reachBytes ∧ (s.len = 0 ∨ ∃ els rst, x.1 = .slice els rst ∧ els.length = s.len) ∧
      ∀ r ∈ rows, r.length = sz ∧ ∃ n y, DataW.trod enc P W base (fun _ => true) held n e r = some y ∧ (∀ k ∈ y.1.weights P e, k ≤ reachBytes) ∧ ∃ els rst, x.1 = .slice els rst ∧ y.1 ∈ els := by
  rcases DataW.trod_slice ht h with ⟨rfl, rfl⟩ | ⟨a, len, cap, elems, rest, n, _, rfl, rfl, hb, hl, hm, hlen, hel, hsp, _⟩
  · exact ⟨⟨none, 0, 0⟩, [], rfl, ⟨.inl ⟨rfl, rfl⟩⟩, rfl, by simp, .inl rfl, fun r hr => by cases hr⟩
  obtain ⟨hrl, hre⟩ := hsp rfl
  subst hsz
  have each : ∀ i, i < len → ∃ r y, W.cells? base (a.add (i * P.cellsOf e)) (P.cellsOf e) = some r ∧ elems[i]? = some y ∧ DataW.trod enc P W base (fun _ => true) held n e r = some y := by
    intro i hi
    have h1 := hel i hi
    rw [List.getElem?_eq_getElem (by omega)] at h1
    obtain ⟨r, h2, h3⟩ := Option.bind_eq_some_iff.1 h1
    exact ⟨r, _, h2, List.getElem?_eq_getElem (by omega), h3⟩
  have wn : (elems.length + rest.length) * P.bytesOf e ≤ reachBytes := by
    have := hw ((elems.length + rest.length) * P.bytesOf e) (by simp [DataW.weights, ht])
    exact this
  refine ⟨⟨some a, len, cap⟩, (List.range len).map fun i => (W.cells? base (a.add (i * P.cellsOf e)) (P.cellsOf e)).getD [], rfl, ?_, by simp, ?_, .inr ⟨_, _, rfl, by simp [hlen]⟩, ?_⟩
  · by_cases h0 : len = 0
    · subst h0; exact ⟨.inl ⟨rfl, rfl⟩⟩
    have last : ∃ v, W.cell? ((a.add ((cap - 1) * P.cellsOf e)).add (P.cellsOf e - 1)) = some v := by
      have fin : ∀ r, W.cells? base (a.add ((cap - 1) * P.cellsOf e)) (P.cellsOf e) = some r → ∃ v, W.cell? ((a.add ((cap - 1) * P.cellsOf e)).add (P.cellsOf e - 1)) = some v := by
        intro r hr
        obtain ⟨g1, g2⟩ := cells_get hr
        rw [g2 _ (by omega)]
        exact ⟨_, List.getElem?_eq_getElem (by omega)⟩
      by_cases hcl : cap - 1 < len
      · obtain ⟨r, _, h1, _⟩ := each (cap - 1) hcl
        exact fin r h1
      · have h1 := hre (cap - 1 - len) (by omega)
        rw [show len + (cap - 1 - len) = cap - 1 by omega] at h1
        rw [List.getElem?_eq_getElem (by omega)] at h1
        obtain ⟨r, h2, _⟩ := Option.bind_eq_some_iff.1 h1
        exact fin r h2
    obtain ⟨v, hv⟩ := last
    have hspot : a.spot = none := by
      obtain ⟨r, _, h1, _⟩ := each 0 (by omega)
      obtain ⟨g1, g2⟩ := cells_get h1
      have h2 := g2 0 (by omega)
      rw [Nat.zero_mul, List.getElem?_eq_getElem (by omega)] at h2
      exact (cell_spot h2).1
    rw [add_spot a _ hspot, addr_add] at hv
    obtain ⟨_, c, tt, fr, hh, hc⟩ := cell_spot hv
    simp only at hh hc
    have hlast := (Array.getElem?_eq_some_iff.1 hc).1
    have hcap : (cap - 1) * P.cellsOf e + P.cellsOf e = cap * P.cellsOf e := by rw [← Nat.succ_mul]; congr 1; omega
    have rowlen : ∀ i, i < len → ((W.cells? base (a.add (i * P.cellsOf e)) (P.cellsOf e)).getD []).length = P.cellsOf e := by
      intro i hi
      obtain ⟨r, _, h1, _⟩ := each i hi
      rw [h1]; exact (cells_get h1).1
    refine ⟨.inr ⟨tt, ?_, hl, .inr ⟨a.block, a.off, c, fr, ?_, hh, by simp only; omega, ?_⟩⟩⟩
    · have key : ∀ (k : Nat), k ≤ len → (((List.range k).map fun i => (W.cells? base (a.add (i * P.cellsOf e)) (P.cellsOf e)).getD []).flatten).length = k * P.cellsOf e := by
        intro k
        induction k with
        | zero => intro _; simp
        | succ k ih =>
          intro hk
          rw [List.range_succ, List.map_append, List.flatten_append, List.length_append, ih (by omega), Nat.succ_mul]
          simp [rowlen k (by omega)]
      exact key len (Nat.le_refl _)
    · obtain ⟨b, o, s⟩ := a
      simp only at hspot
      subst hspot
      rfl
    · have key : ∀ (k : Nat), k ≤ len → ∀ i v, (((List.range k).map fun i => (W.cells? base (a.add (i * P.cellsOf e)) (P.cellsOf e)).getD []).flatten)[i]? = some v → c[a.off + i]? = some v := by
        intro k
        induction k with
        | zero => intro _ i v hi; simp at hi
        | succ k ih =>
          intro hk i v hi
          have hkl : (((List.range k).map fun i => (W.cells? base (a.add (i * P.cellsOf e)) (P.cellsOf e)).getD []).flatten).length = k * P.cellsOf e := by
            have key2 : ∀ (k : Nat), k ≤ len → (((List.range k).map fun i => (W.cells? base (a.add (i * P.cellsOf e)) (P.cellsOf e)).getD []).flatten).length = k * P.cellsOf e := by
              intro k
              induction k with
              | zero => intro _; simp
              | succ k ih =>
                intro hk
                rw [List.range_succ, List.map_append, List.flatten_append, List.length_append, ih (by omega), Nat.succ_mul]
                simp [rowlen k (by omega)]
            exact key2 k (by omega)
          rw [List.range_succ, List.map_append, List.flatten_append] at hi
          by_cases hik : i < k * P.cellsOf e
          · rw [List.getElem?_append_left (by omega)] at hi
            exact ih (by omega) i v hi
          · rw [List.getElem?_append_right (by omega), hkl] at hi
            simp only [List.map_cons, List.map_nil, List.flatten_cons, List.flatten_nil, List.append_nil] at hi
            obtain ⟨r, _, h1, _⟩ := each k (by omega)
            rw [h1] at hi
            simp only [Option.getD_some] at hi
            obtain ⟨g1, g2⟩ := cells_get h1
            have hj := (List.getElem?_eq_some_iff.1 hi).1
            have := g2 (i - k * P.cellsOf e) (by omega)
            rw [hi, add_spot a _ hspot, addr_add] at this
            obtain ⟨_, c', t', fr', hh', hc'⟩ := cell_spot this
            simp only at hh' hc'
            rw [hh] at hh'
            cases hh'
            rw [show a.off + i = a.off + k * P.cellsOf e + (i - k * P.cellsOf e) by omega]
            exact hc'
      exact key len (Nat.le_refl _)
  · have : len * P.bytesOf e ≤ (elems.length + rest.length) * P.bytesOf e := Nat.mul_le_mul_right _ (by omega)
    exact Nat.le_trans this wn
  · intro r hr
    obtain ⟨i, hi, rfl⟩ := List.mem_map.1 hr
    have hi := List.mem_range.1 hi
    obtain ⟨r, y, h1, h2, h3⟩ := each i hi
    rw [h1]
    refine ⟨(cells_get h1).1, n, y, h3, fun k hk => hw k ?_, _, _, rfl, List.mem_map.2 ⟨y, List.mem_of_getElem? h2, rfl⟩⟩
    simp only [DataW.weights, ht, List.mem_cons, List.mem_append]
    exact .inr (.inl (weights_all hk _ (List.mem_map.2 ⟨y, List.mem_of_getElem? h2, rfl⟩)))
theorem open_rows {t e : TypeId} {sz : Nat} {cs : List Value} {x : DataW H × List MemPlace} (ht : P.underlying t = some (.slice e)) (hsz : P.cellsOf e = sz) (hpos : 0 < sz)
    (h : DataW.trod enc P W base (fun _ => true) held fuel t cs = some x) (hw : ∀ n ∈ x.1.weights P t, n ≤ reachBytes) :
    ∃ (s : Sl) (rows : List (List Value)), cs = [.slice s.a s.len s.cap] ∧ SlX W s sz rows.flatten ∧ rows.length = s.len ∧ s.len * P.bytesOf e ≤ reachBytes ∧
      ∀ r ∈ rows, r.length = sz ∧ ∃ n y, DataW.trod enc P W base (fun _ => true) held n e r = some y ∧ ∀ k ∈ y.1.weights P e, k ≤ reachBytes := by
  obtain ⟨s, rows, h1, h2, h3, h4, _, h5⟩ := open_rowsM ht hsz hpos h hw
  exact ⟨s, rows, h1, h2, h3, h4, fun r hr => by obtain ⟨a, n, y, b, c, _⟩ := h5 r hr; exact ⟨a, n, y, b, c⟩⟩
theorem open_i64 {t : TypeId} {cs : List Value} {x : DataW H × List MemPlace} (ht : P.underlying t = some (.int .i64)) (h : DataW.trod enc P W base (fun _ => true) held fuel t cs = some x) : ∃ n, cs = [.int .i64 n] ∧ (Lit.int .i64 n).wf = true := by
  cases fuel with
  | zero => simp [DataW.trod] at h
  | succ m =>
    unfold DataW.trod at h
    rw [ht] at h
    split at h <;> simp_all
theorem rows_of {cs : List Cell} {Q : Cells.T cs → Prop} : ∀ (rows : List (List Value)), (∀ r ∈ rows, ∃ x, r = Cells.vals cs x ∧ Q x) → ∃ xs : List (Cells.T cs), rows.flatten = flat cs xs ∧ xs.length = rows.length ∧ ∀ x ∈ xs, Q x
  | [], _ => ⟨[], rfl, rfl, fun x hx => by cases hx⟩
  | r :: rs, h => by
    obtain ⟨x, hx, hq⟩ := h r List.mem_cons_self
    obtain ⟨xs, h1, h2, h3⟩ := rows_of rs fun r' hr' => h r' (List.mem_cons_of_mem _ hr')
    refine ⟨x :: xs, ?_, by simp [h2], fun y hy => ?_⟩
    · rw [List.flatten_cons, h1, hx]; rfl
    · rcases List.mem_cons.1 hy with rfl | hy
      · exact hq
      · exact h3 y hy
theorem open_text {t e : TypeId} {cs : List Value} {x : DataW H × List MemPlace} (ht : P.underlying t = some (.slice e)) (he : P.underlying e = some (.int .i64)) (hc : P.cellsOf e = 1) (hb : P.bytesOf e = 8)
    (h : DataW.trod enc P W base (fun _ => true) held fuel t cs = some x) (hw : ∀ n ∈ x.1.weights P t, n ≤ reachBytes) :
    ∃ (s : Sl) (l : List Int), cs = [.slice s.a s.len s.cap] ∧ SlX W s 1 (l.map (Value.int .i64)) ∧ l.length ≤ 2 ^ 44 - 512 ∧ ∀ n ∈ l, (Lit.int .i64 n).wf = true := by
  obtain ⟨s, rows, rfl, hs, hl, hby, hr⟩ := open_rows ht hc (by decide) h hw
  obtain ⟨xs, h1, h2, h3⟩ := rows_of (cs := [.int .i64]) (Q := fun x => (Lit.int .i64 x.1).wf = true) rows (fun r hr' => by
    obtain ⟨_, n, y, hy, _⟩ := hr r hr'
    obtain ⟨k, rfl, hk⟩ := open_i64 he hy
    exact ⟨(k, ()), rfl, hk⟩)
  refine ⟨s, xs.map (·.1), rfl, ?_, ?_, ?_⟩
  · rw [h1] at hs
    have e : flat [.int .i64] xs = (xs.map (·.1)).map (Value.int .i64) := by
      simp only [flat, List.map_map, List.flatMap_def]
      clear h1 h2 h3 hs
      induction xs with
      | nil => rfl
      | cons x r ih => simp only [List.map_cons, List.flatten_cons, ih]; rfl
    rw [e] at hs; exact hs
  · rw [List.length_map, h2, hl]
    rw [hb] at hby
    unfold reachBytes at hby
    omega
  · intro n hn
    obtain ⟨x, hx, rfl⟩ := List.mem_map.1 hn
    exact h3 x hx
end
end Go.Vx
namespace Go.Vx
open Go Go.ChangeShapes Go.RowKit
section
variable {H : Type} {enc : TypeId × Value → H} {P : Program} {W W' : World}
theorem Ext.below (e : Ext W W') : Below W.heap.size W W' := ⟨e.os, e.tape, e.output, e.size, fun k hk => e.at_ k hk id⟩
theorem stays_all (hl : laidOutB P = true) {sp : Nat → Bool} : ∀ {ts : List TypeId} {vs : List Value} {ds : List (DataW H)} {ps : List MemPlace}, (∀ t ∈ ts, P.readableRec t = true ∧ t < P.types.size) →
    DataW.TrodAll enc P W 0 (fun _ => true) true ts vs ds ps → (∀ p ∈ ps, W.sameAt W' p) → (∀ p ∈ ps, sp p.block = true) → DataW.TrodAll enc P W' 0 sp true ts vs ds ps
  | [], [], [], _, _, h, _, _ => h
  | t :: ts, v :: vs, d :: ds, ps, hr, ⟨p, q, h1, h2, e⟩, hs, hsp => by
    subst e
    exact ⟨p, q, WideElems.Trod_stays hl (hr t List.mem_cons_self).1 (hr t List.mem_cons_self).2 h1 (fun x hx => hs x (List.mem_append_left _ hx)) (fun x hx => hsp x (List.mem_append_left _ hx)),
      stays_all hl (fun t' ht' => hr t' (List.mem_cons_of_mem _ ht')) h2 (fun x hx => hs x (List.mem_append_right _ hx)) (fun x hx => hsp x (List.mem_append_right _ hx)), rfl⟩
  | [], _ :: _, _, _, _, h, _, _ => h.elim
  | [], [], _ :: _, _, _, h, _, _ => h.elim
  | _ :: _, [], _, _, _, h, _, _ => h.elim
  | _ :: _, _ :: _, [], _, _, h, _, _ => h.elim
theorem post_same {f : Func} {s : ChangeSpec} {apart fresh handsOn again : Bool} {args : Array Value} {ds gs : List (DataW H)} {before : List MemPlace} {tb : TypeId}
    (hW : DataW.Whole enc P f.params.toList s.vars apart W args.toList ds gs before) (hv : s.vars = []) (hr : f.resultTypes = #[tb]) (hb : P.underlying tb = some .bool)
    (hs : s.fn H (ds ++ gs) = { results := [.lit (.bool true)], args := ds }) (hl : laidOutB P = true) (hrd : ∀ t ∈ f.params.toList, P.readableRec t = true ∧ t < P.types.size)
    (e : Ext W W') : s.post enc P f apart fresh handsOn again W args (.bool true) W' := by
  have hlt := hW.lt
  have hW0 := hW
  obtain ⟨pa, pv, hA, hV, rfl, hz, hn⟩ := hW
  have hBl := e.below
  have hsame : ∀ p ∈ pa ++ pv, W.sameAt W' p := fun p hp => hBl.same (hlt p hp)
  have hold : ∀ p ∈ pa ++ pv, (fun b => decide (b < W.heap.size)) p.block = true := fun p hp => by simpa using hlt p hp
  have hres : ∀ (b : Nat) (sp : Nat → Bool) (hd : Bool), DataW.TrodAll enc P W' b sp hd f.resultTypes.toList ((Value.bool true).resultList f.resultTypes.size) (s.fn H (ds ++ gs)).results [] := by
    intro b sp hd
    rw [hs, hr]
    exact trodAll_mk1 ⟨1, by simp [DataW.trod, hb, Value.cells]⟩
  have hargs : ∀ sp : Nat → Bool, (∀ p ∈ pa, sp p.block = true) → DataW.TrodAll enc P W' 0 sp true f.params.toList args.toList (s.fn H (ds ++ gs)).args pa := by
    intro sp hsp
    rw [hs]
    exact stays_all hl hrd hA (fun p hp => hsame p (List.mem_append_left _ hp)) hsp
  have hgs : gs = [] ∧ pv = [] := by
    rw [hv] at hV
    exact trodVars_none hV
  obtain ⟨rfl, rfl⟩ := hgs
  have hvars : ∀ sp : Nat → Bool, DataW.TrodVars enc P W' sp s.vars (s.fn H (ds ++ [])).vars [] := by
    intro sp
    rw [hs, hv]
    exact rfl
  have hall : ∀ p ∈ ([] ++ pa) ++ [], p ∈ pa ++ [] := fun p hp => by simpa using hp
  refine ⟨ds, [], pa ++ [], [], pa, [], hW0, hres _ _ _, hargs _ (fun p hp => hold p (List.mem_append_left _ hp)), hvars _, hBl.frame _, fun _ => ⟨ok_one hr rfl (okWide_bool_mk hb true), [.lit (.bool true)] ++ ds, [], ([] ++ pa) ++ [], ?_, fun p hp _ => hall p hp⟩⟩
  have h1 := trodAll_append (hargs (fun _ => true) (fun _ _ => rfl)) (hres 0 (fun _ => true) true)
  rw [hs] at h1
  have h2 := hvars (fun _ => true)
  rw [hs] at h2
  refine ⟨[] ++ pa, [], h1, h2, rfl, ?_, fun ha => ?_⟩
  · intro b off hp
    have hp' := hall _ hp
    have hb' := hlt _ hp'
    rw [hBl.frozen (p := ⟨b, off, none⟩) hb']
    exact hz b off hp'
  · have := hn ha
    simpa using this
end
end Go.Vx
set_option linter.unusedSimpArgs false
set_option linter.unusedVariables false
set_option maxRecDepth 100000
namespace Go.Proofs.YtmooldhpiopcgaaGreatDoor
namespace Dq
open Go Go.Vx Go.ChangeShapes Go.WideShapes Go.RowKit Dsk
theorem own : ownKnob Tryz.prog.godebug = none := by kernel_rfl
theorem laidOut : laidOutB Tryz.prog = true := by kernel_rfl
theorem u4 : Tryz.prog.underlying 4 = some .bool := i4_ok.und
theorem uStr : Tryz.prog.underlying 9 = some .string := i9_ok.und
theorem gErr : Tryz.prog.globalNamed "errors.errorType" = some 0 := by kernel_rfl
theorem tRt : (Tryz.prog.cutTypes.find? (·.1 == "internal/reflectlite.rtype")).map (·.2) = some 211 := by kernel_rfl
theorem typesN : Tryz.prog.types.size = 363 := by kernel_rfl
theorem oneRow : ((List.range 363).filter fun t => Tryz.prog.rowNamed t [101, 114, 114, 111, 114]) = [26] := by kernel_rfl
theorem hdlE : typeHandle Tryz.prog 26 = hdl 26 := by kernel_rfl
abbrev laidL : List (String × DataW Unit) := [("errors.errorType", Rows.laid_errors_errorType)]
theorem cell_laid {W : World} (h : laidMetH Tryz.prog laidL W) : W.cell? ⟨0, 0, none⟩ = some (rty 26) := by
  have h' : laidMet Tryz.prog [] W ∧ handlesMet Tryz.prog laidL W := h
  obtain ⟨name, u, ty, e1, e2, e3, e4, e5⟩ := h'.2 _ (List.mem_singleton.2 rfl)
  have en : name = [101, 114, 114, 111, 114] := (Option.some.inj e1).symm
  subst en
  obtain rfl := Option.some.inj (tRt.symm.trans e2)
  have hm : ty ∈ (List.range 363).filter fun t => Tryz.prog.rowNamed t [101, 114, 114, 111, 114] := List.mem_filter.2 ⟨List.mem_range.2 (by rw [← typesN]; exact e3), e4⟩
  rw [oneRow] at hm
  obtain rfl := List.mem_singleton.1 hm
  rw [hdlE] at e5
  simpa using World.var?_cell gErr e5 0
theorem laid_of {W : World} (h : laidMetH Tryz.prog laidL W) : LaidE W := by
  have h := cell_laid h
  unfold World.cell? at h
  split at h
  · rename_i cs t fr hb
    exact ⟨cs, t, fr, hb, h⟩
  all_goals simp_all
noncomputable def laidWorld (os : Os) : World :=
  let w0 := World.holding Tryz.prog os ⟨#[], #[], []⟩
  { w0 with heap := w0.heap.modify 0 fun
    | .cells _ t frozen => .cells #[.iface 211 (.agg #[.pointer (some ⟨2, 26, none⟩)])] t frozen
    | o => o }
theorem laid_met (os : Os) (args : Array Value) : laidMetH Tryz.prog laidL ((laidWorld os).forCall (fun _ _ => 0) ⟨#[], args, []⟩).memory :=
  laidMetH_of_parts (laidMet_nil _ _) (by kernel_rfl)
theorem trodAll_get {H : Type} {enc : TypeId × Value → H} {P : Program} {w : World} {base : Nat} {spare : Nat → Bool} {held : Bool} : ∀ {ts : List TypeId} {vs : List Value} {ds : List (DataW H)} {ps : List MemPlace}, DataW.TrodAll enc P w base spare held ts vs ds ps →
    vs.length = ts.length ∧ ds.length = ts.length ∧ ∀ (j : Nat) t v d, ts[j]? = some t → vs[j]? = some v → ds[j]? = some d → ∃ p, DataW.Trod enc P w base spare held t v d p
  | [], [], [], _, _ => ⟨rfl, rfl, fun j t v d h => by simp at h⟩
  | t :: ts, v :: vs, d :: ds, ps, ⟨p, q, h1, h2, e⟩ => by
    obtain ⟨a, b, c⟩ := trodAll_get h2
    refine ⟨by simp [a], by simp [b], fun j t' v' d' ht hv hd => ?_⟩
    match j with
    | 0 => cases ht; cases hv; cases hd; exact ⟨p, h1⟩
    | j + 1 => exact c j t' v' d' (by simpa using ht) (by simpa using hv) (by simpa using hd)
  | [], _ :: _, _, _, h => h.elim
  | [], [], _ :: _, _, h => h.elim
  | _ :: _, [], _, _, h => h.elim
  | _ :: _, _ :: _, [], _, h => h.elim
theorem weigh {H : Type} {ts : List TypeId} {ds : List (DataW H)} (h : (DataW.weightsEach Tryz.prog ts ds).all (· ≤ reachBytes) = true) (j : Nat) {t : TypeId} {d : DataW H} (ht : ts[j]? = some t) (hd : ds[j]? = some d) : ∀ n ∈ d.weights Tryz.prog t, n ≤ reachBytes := by
  intro n hn
  have := List.all_eq_true.1 h _ (DataW.weights_mem_each ht hd n hn)
  simpa using this
end Dq
end Go.Proofs.YtmooldhpiopcgaaGreatDoor
set_option linter.unusedSimpArgs false
set_option linter.unusedVariables false
set_option maxRecDepth 100000
namespace Go.Proofs.YtmooldhpiopcgaaGreatDoor
open Go Go.Vx Cdc Trx
section
variable {w w' : World} {S : Nat → Prop} {p : Nat} {e : Enc} {lim na : Nat} {O : Nat → Prop} {M : Parts}
def Old (w W : World) (a0 a : Sl) : Prop := ∀ y b, By w y b → (∀ k, y.blk k → a0.blk k → top y ≤ top a0) → By W y b ∧ ∀ k, y.blk k → a.blk k → top y ≤ top a
end
end Go.Proofs.YtmooldhpiopcgaaGreatDoor
set_option linter.unusedSimpArgs false
set_option linter.unusedVariables false
set_option maxRecDepth 100000
namespace Go.Proofs.YtmooldhpiopcgaaGreatDoor
open Go Go.Vx Cdc Trx
section
variable {w w' W W' : World} {S : Nat → Prop} {p : Nat} {e : Enc} {lim na : Nat} {O : Nat → Prop} {M : Parts}
abbrev txO (e : Enc) (lim : Nat) (tp : Option Addr) (a : Sl) : Obj := .cells #[.int .i64 e.num, .int .i64 (lim : Int), .pointer tp, .slice a.a a.len a.cap] 141 (0, 0)
abbrev frLs (p b1 b2 b6 b7 : Nat) (ps : Sl) (f n : Nat) : List (Nat × Obj) := [(b7, .cells #[.int .i64 (n : Int)] 3 (0, 0)), (b6, .cells #[.int .i64 (f : Int)] 3 (0, 0)), (b2, .cells #[.slice ps.a ps.len ps.cap] 165 (0, 0)), (b1, .cells #[.pointer (some (at0 p))] 51 (0, 0))]
structure FrI (w W : World) (p : Nat) (e : Enc) (lim : Nat) (tp : Option Addr) (a0 : Sl) (b1 b2 b6 b7 : Nat) (a ps : Sl) (ab cb : Bs) (pl : List Pc) (M' : Parts) (n : Nat) : Prop where
  st : St (fun k => k = p ∨ a0.blk k) w W (frLs p b1 b2 b6 b7 ps (ab.length - cb.length) n)
  tx : W.heap[p]? = some (txO e lim tp a)
  own : SlOwn W 0 a 5 1 (bv ab)
  suf : ∃ x, ab = x ++ cb
  row : SlOwn W w.heap.size ps 146 7 (flat c146 (pl.map pcT))
  its : Its W e pl M'
  tops : ∀ x ∈ pl, ∀ k, x.bytes.blk k → a.blk k → top x.bytes ≤ top a
  pblk : ∀ x ∈ pl, ∀ k, x.bytes.blk k → a0.blk k ∨ w.heap.size ≤ k
  ablk : ∀ k, a.blk k → a0.blk k ∨ w.heap.size ≤ k
  old : Old w W a0 a
  cnt : pl.length + cb.length ≤ ab.length
variable {tp : Option Addr} {a0 a ps : Sl} {b1 b2 b6 b7 n : Nat} {ab cb : Bs} {pl : List Pc} {M' : Parts}
end
end Go.Proofs.YtmooldhpiopcgaaGreatDoor
set_option linter.unusedSimpArgs false
set_option linter.unusedVariables false
set_option maxRecDepth 100000
namespace Go.Proofs.YtmooldhpiopcgaaGreatDoor
open Go Go.Vx Cdc Trx
namespace Cdc
structure LEd where
  f : Int
  t : Int
  put : List Int
end Cdc
section
variable {w w' W W' : World} {S : Nat → Prop} {p : Nat} {e : Enc} {lim na : Nat} {O : Nat → Prop} {M : Parts}
end
end Go.Proofs.YtmooldhpiopcgaaGreatDoor
set_option linter.unusedSimpArgs false
set_option linter.unusedVariables false
set_option maxRecDepth 100000
namespace Go.Proofs.YtmooldhpiopcgaaGreatDoor
open Go Go.Vx Go.ChangeShapes Go.WideShapes Go.RowKit Cdc
theorem ui : Tryz.prog.underlying 3 = some (.int .i64) := i3_ok.und
theorem ub : Tryz.prog.underlying 5 = some (.int .u8) := i5_ok.und
theorem uInts : Tryz.prog.underlying 70 = some (.slice 3) := i70_ok.und
theorem uBytes : Tryz.prog.underlying 30 = some (.slice 5) := i30_ok.und
theorem ci : Tryz.prog.cellsOf 3 = 1 := by kernel_rfl
theorem bi : Tryz.prog.bytesOf 3 = 8 := by kernel_rfl
theorem cby : Tryz.prog.cellsOf 5 = 1 := by kernel_rfl
theorem bby : Tryz.prog.bytesOf 5 = 1 := by kernel_rfl
theorem cbs : Tryz.prog.cellsOf 30 = 1 := by kernel_rfl
theorem cis : Tryz.prog.cellsOf 70 = 1 := by kernel_rfl
theorem rows_of2 {cs : List Cell} {β : Type} {Q : Cells.T cs → β → Prop} : ∀ (rows : List (List Value)), (∀ r ∈ rows, ∃ x y, r = Cells.vals cs x ∧ Q x y) → ∃ (xs : List (Cells.T cs)) (ys : List β), rows.flatten = flat cs xs ∧ xs.length = rows.length ∧ xs.length = ys.length ∧ ∀ (i : Nat) x y, xs[i]? = some x → ys[i]? = some y → Q x y
  | [], _ => ⟨[], [], rfl, rfl, rfl, fun i x y hx => by simp at hx⟩
  | r :: rs, h => by
    obtain ⟨x, y, hx, hq⟩ := h r List.mem_cons_self
    obtain ⟨xs, ys, h1, h2, h3, h4⟩ := rows_of2 rs fun r' hr' => h r' (List.mem_cons_of_mem _ hr')
    refine ⟨x :: xs, y :: ys, ?_, by simp [h2], by simp [h3], fun i x' y' hx' hy' => ?_⟩
    · rw [List.flatten_cons, h1, hx]; rfl
    · match i with
      | 0 => cases hx'; cases hy'; exact hq
      | i + 1 => exact h4 i x' y' (by simpa using hx') (by simpa using hy')
section
variable {H : Type} {enc : TypeId × Value → H} {W : World} {base fuel : Nat} {held : Bool}
abbrev bulk (d : DataW H) : Nat := Rows.uptoBulk d
theorem bulk_one (d : DataW H) : 1 ≤ bulk d := by
  unfold bulk
  cases d with
  | lit l => cases l <;> simp [Rows.uptoBulk]
  | nil => simp [Rows.uptoBulk]
  | ptr d => simp [Rows.uptoBulk]
  | slice elems spare => simp [Rows.uptoBulk]
  | agg parts => simp [Rows.uptoBulk]
  | iface t d => simp [Rows.uptoBulk]
  | map entries => simp [Rows.uptoBulk]
  | held h => simp [Rows.uptoBulk]
theorem bulk_part {d : DataW H} {l : List (DataW H)} (h : d ∈ l) : bulk d ≤ Rows.uptoBulkAll l := by
  induction l with
  | nil => cases h
  | cons x r ih =>
    simp only [Rows.uptoBulkAll]
    cases List.mem_cons.1 h with
    | inl e => subst e; show Rows.uptoBulk d ≤ _; omega
    | inr e => have := ih e; show Rows.uptoBulk d ≤ _; have : Rows.uptoBulk d ≤ Rows.uptoBulkAll r := this; omega
theorem bulk_len (l : List (DataW H)) : l.length ≤ Rows.uptoBulkAll l := by
  induction l with
  | nil => simp [Rows.uptoBulkAll]
  | cons x r ih => have := bulk_one x; unfold bulk at this; simp only [Rows.uptoBulkAll, List.length_cons]; omega
theorem open_rowsB {t e : TypeId} {sz : Nat} {cs : List Value} {x : DataW H × List MemPlace} (ht : Tryz.prog.underlying t = some (.slice e)) (hsz : Tryz.prog.cellsOf e = sz) (hpos : 0 < sz)
    (h : DataW.trod enc Tryz.prog W base (fun _ => true) held fuel t cs = some x) (hw : ∀ n ∈ x.1.weights Tryz.prog t, n ≤ reachBytes) :
    ∃ (s : Sl) (rows : List (List Value)), cs = [.slice s.a s.len s.cap] ∧ SlX W s sz rows.flatten ∧ rows.length = s.len ∧ s.len ≤ bulk x.1 ∧
      ∀ r ∈ rows, r.length = sz ∧ ∃ n y, DataW.trod enc Tryz.prog W base (fun _ => true) held n e r = some y ∧ (∀ k ∈ y.1.weights Tryz.prog e, k ≤ reachBytes) ∧ bulk y.1 ≤ bulk x.1 := by
  obtain ⟨s, rows, h1, h2, h3, h4, h6, h5⟩ := open_rowsM ht hsz hpos h hw
  refine ⟨s, rows, h1, h2, h3, ?_, fun r hr => ?_⟩
  · rcases h6 with h6 | ⟨els, rst, hx, hl⟩
    · omega
    · have := bulk_len els
      rw [hx]
      show _ ≤ Rows.uptoBulk (.slice els rst)
      simp only [Rows.uptoBulk]; omega
  · obtain ⟨a, n, y, b, c, els, rst, hx, hm⟩ := h5 r hr
    refine ⟨a, n, y, b, c, ?_⟩
    have := bulk_part hm
    rw [hx]
    show _ ≤ Rows.uptoBulk (.slice els rst)
    simp only [Rows.uptoBulk]; omega
theorem open_fields {t : TypeId} {fs : Array Field} {L : List (TypeId × Nat)} {cs : List Value} {x : DataW H × List MemPlace} (hu : Tryz.prog.underlying t = some (.struct fs)) (hfs : fs.toList.map (fun f => (f.type, f.offset)) = L)
    (h : DataW.trod enc Tryz.prog W base (fun _ => true) held fuel t cs = some x) (hw : ∀ n ∈ x.1.weights Tryz.prog t, n ≤ reachBytes) :
    ∃ n, ∀ (i : Nat) (t' o : Nat), L[i]? = some (t', o) → ∃ y, DataW.trod enc Tryz.prog W base (fun _ => true) held n t' ((cs.drop o).take (Tryz.prog.cellsOf t')) = some y ∧ (∀ k ∈ y.1.weights Tryz.prog t', k ≤ reachBytes) ∧ bulk y.1 ≤ bulk x.1 := by
  obtain ⟨xs, n, _, rfl, _, hxl, hall⟩ := DataW.trod_struct hu h
  refine ⟨n, fun i t' o hi => ?_⟩
  rw [← hfs, List.getElem?_map] at hi
  obtain ⟨f, hf, he⟩ := Option.map_eq_some_iff.1 hi
  cases he
  have hf' : fs[i]? = some f := by simpa using hf
  have h1 := hall i f hf'
  have hil : i < xs.length := by rw [hxl]; exact (Array.getElem?_eq_some_iff.1 hf').1
  rw [List.getElem?_eq_getElem hil] at h1
  refine ⟨xs[i], h1, fun k hk => hw k ?_, ?_⟩
  · simp only [DataW.weights, hu]
    exact DataW.weights_mem_each (j := i) (t := f.type) (d := xs[i].1) (by rw [List.getElem?_map, hf]; rfl) (by rw [List.getElem?_map, List.getElem?_eq_getElem hil]; rfl) k hk
  · have hm : xs[i].1 ∈ xs.map (·.1) := List.mem_map.2 ⟨xs[i], List.getElem_mem hil, rfl⟩
    have := bulk_part hm
    show _ ≤ Rows.uptoBulk (.agg (xs.map (·.1)))
    simp only [Rows.uptoBulk]; omega
theorem open_u8 {cs : List Value} {x : DataW H × List MemPlace} (h : DataW.trod enc Tryz.prog W base (fun _ => true) held fuel 5 cs = some x) : ∃ b : UInt8, cs = [.int .u8 (b.toNat : Int)] := by
  have : ∃ n, cs = [.int .u8 n] ∧ (Lit.int .u8 n).wf = true := by
    cases fuel with
    | zero => simp [DataW.trod] at h
    | succ m =>
      unfold DataW.trod at h
      rw [ub] at h
      split at h <;> simp_all
  obtain ⟨n, rfl, hn⟩ := this
  have hr : 0 ≤ n ∧ n < 256 := by
    have h1 : IntKind.min .u8 = 0 := rfl
    have h2 : IntKind.max .u8 = 255 := rfl
    simp [Lit.wf, h1, h2] at hn
    omega
  refine ⟨UInt8.ofNat n.toNat, ?_⟩
  have : (UInt8.ofNat n.toNat).toNat = n.toNat := by
    rw [UInt8.toNat_ofNat']
    exact Nat.mod_eq_of_lt (by omega)
  rw [this]
  congr 2
  omega
theorem open_bytes {cs : List Value} {x : DataW H × List MemPlace} (h : DataW.trod enc Tryz.prog W base (fun _ => true) held fuel 30 cs = some x) (hw : ∀ n ∈ x.1.weights Tryz.prog 30, n ≤ reachBytes) :
    ∃ (s : Sl) (l : List UInt8), cs = [.slice s.a s.len s.cap] ∧ SlX W s 1 (bv l) ∧ l.length ≤ 2 ^ 47 := by
  obtain ⟨s, rows, rfl, hs, hl, hby, hr⟩ := open_rows uBytes cby (by decide) h hw
  obtain ⟨xs, ls, h1, h2, h3, h4⟩ := rows_of2 (cs := [.int .u8]) (β := UInt8) (Q := fun x y => x.1 = (y.toNat : Int)) rows (fun r hr' => by
    obtain ⟨_, n, y, hy, _⟩ := hr r hr'
    obtain ⟨b, rfl⟩ := open_u8 hy
    exact ⟨((b.toNat : Int), ()), b, rfl, rfl⟩)
  refine ⟨s, ls, rfl, ?_, ?_⟩
  · rw [h1] at hs
    have e : flat [.int .u8] xs = bv ls := by
      clear h1 h2 hs
      induction xs generalizing ls with
      | nil =>
        cases ls with
        | nil => rfl
        | cons y r => simp at h3
      | cons x r ih =>
        cases ls with
        | nil => simp at h3
        | cons y q =>
          have h0 := h4 0 x y rfl rfl
          have := ih q (by simpa using h3) fun i x' y' hx hy => h4 (i + 1) x' y' (by simpa using hx) (by simpa using hy)
          simp only [flat, List.flatMap_cons] at this ⊢
          rw [this]
          obtain ⟨n, ⟨⟩⟩ := x
          dsimp only at h0
          subst h0
          rfl
    rw [e] at hs; exact hs
  · rw [← h3, h2, hl]
    rw [bby] at hby
    unfold reachBytes at hby
    omega
structure LAsk where
  kind : Int
  at_ : Int
  b : Int
  mkd : Int
  count : Int
  arg : Int
  past : Bool
end
section
variable {H : Type} {enc : TypeId × Value → H} {W : World} {base : Nat}
end
end Go.Proofs.YtmooldhpiopcgaaGreatDoor
set_option linter.unusedSimpArgs false
set_option linter.unusedVariables false
set_option maxRecDepth 100000
namespace Go.Proofs.YtmooldhpiopcgaaGreatDoor
namespace Dq
open Go Go.Vx Go.ChangeShapes Go.WideShapes Go.RowKit Dsk Cdc
theorem cstr : Tryz.prog.cellsOf 9 = 1 := by kernel_rfl
theorem cffile : Tryz.prog.cellsOf 65 = 2 := by kernel_rfl
theorem cffiles : Tryz.prog.cellsOf 37 = 1 := by kernel_rfl
theorem cscene : Tryz.prog.cellsOf 39 = 4 := by kernel_rfl
theorem uFFiles : Tryz.prog.underlying 37 = some (.slice 65) := by kernel_rfl
theorem sFFile : ∃ fs : Array Field, Tryz.prog.underlying 65 = some (.struct fs) ∧ fs.toList.map (fun f => (f.type, f.offset)) = [(9, 0), (30, 1)] := ⟨_, i65_ok.und, rfl⟩
theorem sScene : ∃ fs : Array Field, Tryz.prog.underlying 39 = some (.struct fs) ∧ fs.toList.map (fun f => (f.type, f.offset)) = [(37, 0), (9, 1), (3, 2), (30, 3)] := ⟨_, i39_ok.und, rfl⟩
section
variable {H : Type} {enc : TypeId × Value → H} {W : World} {base fuel : Nat} {held : Bool}
theorem open_strB {cs : List Value} {x : DataW H × List MemPlace} (h : DataW.trod enc Tryz.prog W base (fun _ => true) held fuel 9 cs = some x) (hb : bulk x.1 ≤ 1048576) : ∃ s : ByteArray, cs = [.string s] ∧ s.size < 1048576 := by
  obtain ⟨s, e1, e2, _⟩ := DataW.trod_string uStr h
  refine ⟨s, e1, ?_⟩
  have hb : Rows.uptoBulk x.1 ≤ 1048576 := hb
  rw [e2] at hb
  simp only [Rows.uptoBulk] at hb
  have : s.data.toList.length = s.size := by simp
  omega
theorem open_bytesB {cs : List Value} {x : DataW H × List MemPlace} (h : DataW.trod enc Tryz.prog W base (fun _ => true) held fuel 30 cs = some x) (hw : ∀ n ∈ x.1.weights Tryz.prog 30, n ≤ reachBytes) (hb : bulk x.1 ≤ 1048576) :
    ∃ (s : Sl) (l : List UInt8), cs = [.slice s.a s.len s.cap] ∧ SlX W s 1 (bv l) ∧ l.length ≤ 1048576 := by
  obtain ⟨s, l, e, h1, _⟩ := open_bytes h hw
  obtain ⟨s', _, e', _, _, hl, _⟩ := open_rowsB uBytes cby (by decide) h hw
  refine ⟨s, l, e, h1, ?_⟩
  rw [e] at e'
  have : s.len = s'.len := by simp at e'; exact e'.2.1
  have := bys_len h1
  omega
theorem open_file {cs : List Value} {x : DataW H × List MemPlace} (hl : cs.length = 2) (h : DataW.trod enc Tryz.prog W base (fun _ => true) held fuel 65 cs = some x) (hw : ∀ n ∈ x.1.weights Tryz.prog 65, n ≤ reachBytes) (hb : bulk x.1 ≤ 1048576) :
    ∃ (y : Cells.T c65) (o : Nm × List UInt8), cs = Cells.vals c65 y ∧ (y.1 = o.1 ∧ Bytes W y.2.1 o.2 ∧ o.1.size < 2 ^ 62 ∧ o.2.length ≤ 2 ^ 30) := by
  obtain ⟨fs, hu, hfs⟩ := sFFile
  obtain ⟨n, hall⟩ := open_fields hu hfs h hw
  obtain ⟨v0, v1, rfl⟩ : ∃ v0 v1, cs = [v0, v1] := by
    match cs, hl with
    | [v0, v1], _ => exact ⟨v0, v1, rfl⟩
  obtain ⟨y0, h0, _, hb0⟩ := hall 0 _ _ rfl
  obtain ⟨y1, h1, hw1, hb1⟩ := hall 1 _ _ rfl
  rw [cstr] at h0
  rw [cbs] at h1
  obtain ⟨n0, e0, i0⟩ := open_strB h0 (by omega)
  obtain ⟨s1, l1, e1, g1, k1⟩ := open_bytesB h1 hw1 (by omega)
  simp at e0 e1
  subst e0 e1
  exact ⟨(n0, s1, ()), (n0, l1), rfl, rfl, g1, by dsimp only; omega, by dsimp only; omega⟩
theorem open_files {cs : List Value} {x : DataW H × List MemPlace} (h : DataW.trod enc Tryz.prog W base (fun _ => true) held fuel 37 cs = some x) (hw : ∀ n ∈ x.1.weights Tryz.prog 37, n ≤ reachBytes) (hb : bulk x.1 ≤ 1048576) :
    ∃ (s : Sl) (rows : List (Cells.T c65)) (fs : Fls), cs = [.slice s.a s.len s.cap] ∧ FlsIn W s rows fs := by
  obtain ⟨s, rows, rfl, hs, hl, hby, hr⟩ := open_rowsB uFFiles cffile (by decide) h hw
  obtain ⟨xs, ls, h1, h2, h3, h4⟩ := rows_of2 (cs := c65) (β := Nm × List UInt8) (Q := fun y o => y.1 = o.1 ∧ Bytes W y.2.1 o.2 ∧ o.1.size < 2 ^ 62 ∧ o.2.length ≤ 2 ^ 30) rows (fun r hr' => by
    obtain ⟨hrl, n, y, hy, hwy, hby⟩ := hr r hr'
    exact open_file hrl hy hwy (by omega))
  rw [h1] at hs
  exact ⟨s, xs, ls, rfl, hs, h3, h4⟩
theorem open_scene {cs : List Value} {x : DataW H × List MemPlace} (hl : cs.length = 4) (h : DataW.trod enc Tryz.prog W base (fun _ => true) held fuel 39 cs = some x) (hw : ∀ n ∈ x.1.weights Tryz.prog 39, n ≤ reachBytes) (hb : bulk x.1 ≤ 1048576) :
    ∃ (y : Cells.T c39) (rows : List (Cells.T c65)) (fs : Fls) (data : List UInt8), cs = Cells.vals c39 y ∧ Scn W y rows fs data := by
  obtain ⟨fs, hu, hfs⟩ := sScene
  obtain ⟨n, hall⟩ := open_fields hu hfs h hw
  obtain ⟨v0, v1, v2, v3, rfl⟩ : ∃ v0 v1 v2 v3, cs = [v0, v1, v2, v3] := by
    match cs, hl with
    | [v0, v1, v2, v3], _ => exact ⟨v0, v1, v2, v3, rfl⟩
  obtain ⟨y0, h0, hw0, hb0⟩ := hall 0 _ _ rfl
  obtain ⟨y1, h1, hw1, hb1⟩ := hall 1 _ _ rfl
  obtain ⟨y2, h2, hw2, hb2⟩ := hall 2 _ _ rfl
  obtain ⟨y3, h3, hw3, hb3⟩ := hall 3 _ _ rfl
  rw [cffiles] at h0
  rw [cstr] at h1
  rw [ci] at h2
  rw [cbs] at h3
  obtain ⟨s0, rows, fl, e0, g0⟩ := open_files h0 hw0 (by omega)
  obtain ⟨n1, e1, i1⟩ := open_strB h1 (by omega)
  obtain ⟨n2, e2, _⟩ := open_i64 ui h2
  obtain ⟨s3, l3, e3, g3, k3⟩ := open_bytesB h3 hw3 (by omega)
  simp at e0 e1 e2 e3
  subst e0 e1 e2 e3
  exact ⟨(s0, n1, n2, s3, ()), rows, fl, l3, rfl, g0, g3, by dsimp only; omega, by omega⟩
theorem arg_scene {v : Value} {d : DataW H} {p : List MemPlace} (hv : Value.okWide Tryz.prog W .any base 39 v) (h : DataW.Trod enc Tryz.prog W 0 (fun _ => true) true 39 v d p) (hw : ∀ n ∈ d.weights Tryz.prog 39, n ≤ reachBytes) (hb : bulk d ≤ 1048576) :
    ∃ (y : Cells.T c39) (rows : List (Cells.T c65)) (fs : Fls) (data : List UInt8), v = .agg (scells y) ∧ Scn W y rows fs data := by
  obtain ⟨fs, hu, _⟩ := sScene
  obtain ⟨cs, rfl, hsz⟩ := okWide_struct hu hv
  obtain ⟨n, hn⟩ := h
  rw [cscene] at hsz
  obtain ⟨y, rows, fl, l, e, h1⟩ := open_scene (cs := cs.toList) (by simpa using hsz) (by simpa [Value.cells] using hn) hw hb
  exact ⟨y, rows, fl, l, by show _ = Value.agg (Cells.vals c39 y).toArray; rw [← e], h1⟩
end
section
variable {H : Type} {enc : TypeId × Value → H} {W : World} {base : Nat}
end
theorem list_3 {α : Type} (l : List α) (h : l.length = 3) : ∃ v0 v1 v2, l = [v0, v1, v2] := by
  match l, h with
  | [v0, v1, v2], _ => exact ⟨v0, v1, v2, rfl⟩
theorem recScene : Tryz.prog.readableRec 39 = true := by kernel_rfl
end Dq
end Go.Proofs.YtmooldhpiopcgaaGreatDoor
set_option linter.unusedSimpArgs false
set_option linter.unusedVariables false
set_option maxRecDepth 100000
namespace Go.Proofs.YtmooldhpiopcgaaGreatDoor
namespace Dq
open Go Go.Vx Go.ChangeShapes Go.WideShapes Go.RowKit Dsk Cdc
theorem uFaults : Tryz.prog.underlying 69 = some (.slice 132) := i69_ok.und
theorem ccut : Tryz.prog.cellsOf 72 = 2 := by kernel_rfl
theorem cfault : Tryz.prog.cellsOf 132 = 5 := by kernel_rfl
theorem sCut : ∃ fs : Array Field, Tryz.prog.underlying 72 = some (.struct fs) ∧ fs.toList.map (fun f => (f.type, f.offset)) = [(3, 0), (70, 1)] := ⟨_, i72_ok.und, rfl⟩
theorem sFault : ∃ fs : Array Field, Tryz.prog.underlying 132 = some (.struct fs) ∧ fs.toList.map (fun f => (f.type, f.offset)) = [(3, 0), (3, 1), (3, 2), (72, 3)] := ⟨_, i132_ok.und, rfl⟩
section
variable {H : Type} {enc : TypeId × Value → H} {W : World} {base fuel : Nat} {held : Bool}
theorem open_cut {cs : List Value} {x : DataW H × List MemPlace} (hl : cs.length = 2) (h : DataW.trod enc Tryz.prog W base (fun _ => true) held fuel 72 cs = some x) (hw : ∀ n ∈ x.1.weights Tryz.prog 72, n ≤ reachBytes) :
    ∃ (c : Cells.T c72) (l : List Int), cs = Cells.vals c72 c ∧ SlX W c.2.1 1 (iv l) ∧ l.length ≤ 2 ^ 44 := by
  obtain ⟨fs, hu, hfs⟩ := sCut
  obtain ⟨n, hall⟩ := open_fields hu hfs h hw
  obtain ⟨v0, v1, rfl⟩ : ∃ v0 v1, cs = [v0, v1] := by
    match cs, hl with
    | [v0, v1], _ => exact ⟨v0, v1, rfl⟩
  obtain ⟨y0, h0, _, _⟩ := hall 0 _ _ rfl
  obtain ⟨y1, h1, hw1, _⟩ := hall 1 _ _ rfl
  rw [ci] at h0
  rw [cis] at h1
  obtain ⟨n0, e0, _⟩ := open_i64 ui h0
  obtain ⟨s, l, e1, g1, g2, _⟩ := open_text uInts ui ci bi h1 hw1
  simp at e0 e1
  subst e0 e1
  exact ⟨(n0, s, ()), l, rfl, g1, by omega⟩
theorem open_fault {cs : List Value} {x : DataW H × List MemPlace} (hl : cs.length = 5) (h : DataW.trod enc Tryz.prog W base (fun _ => true) held fuel 132 cs = some x) (hw : ∀ n ∈ x.1.weights Tryz.prog 132, n ≤ reachBytes) :
    ∃ (r : Cells.T c132) (f : Int × Fault), cs = Cells.vals c132 r ∧ r.1 = f.1 ∧ r.2.1 = f.2.kind ∧ r.2.2.1 = f.2.part ∧ r.2.2.2.1 = f.2.names ∧ SlX W r.2.2.2.2.1 1 (iv f.2.bytes) ∧ f.2.bytes.length ≤ 2 ^ 44 ∧ Lie (fun k => k < W.heap.size) r.2.2.2.2.1 := by
  obtain ⟨fs, hu, hfs⟩ := sFault
  obtain ⟨n, hall⟩ := open_fields hu hfs h hw
  obtain ⟨v0, v1, v2, v3, v4, rfl⟩ : ∃ v0 v1 v2 v3 v4, cs = [v0, v1, v2, v3, v4] := by
    match cs, hl with
    | [v0, v1, v2, v3, v4], _ => exact ⟨v0, v1, v2, v3, v4, rfl⟩
  obtain ⟨y0, h0, _⟩ := hall 0 _ _ rfl
  obtain ⟨y1, h1, _⟩ := hall 1 _ _ rfl
  obtain ⟨y2, h2, _⟩ := hall 2 _ _ rfl
  obtain ⟨y3, h3, hw3, _⟩ := hall 3 _ _ rfl
  rw [ci] at h0 h1 h2
  rw [ccut] at h3
  obtain ⟨n0, e0, _⟩ := open_i64 ui h0
  obtain ⟨n1, e1, _⟩ := open_i64 ui h1
  obtain ⟨n2, e2, _⟩ := open_i64 ui h2
  obtain ⟨⟨nm, s, ⟨⟩⟩, l, e3, g1, g2⟩ := open_cut rfl h3 hw3
  simp [Cells.vals, Cell.val] at e0 e1 e2 e3
  obtain ⟨rfl, rfl⟩ := e3
  subst e0 e1 e2
  exact ⟨(n0, n1, n2, nm, s, ()), (n0, ⟨n1, n2, nm, l⟩), rfl, rfl, rfl, rfl, rfl, g1, g2, SlX.lie g1⟩
theorem open_faults {cs : List Value} {x : DataW H × List MemPlace} (h : DataW.trod enc Tryz.prog W base (fun _ => true) held fuel 69 cs = some x) (hw : ∀ n ∈ x.1.weights Tryz.prog 69, n ≤ reachBytes) (hb : bulk x.1 ≤ 1048576) :
    ∃ (s : Sl) (rows : List (Cells.T c132)) (fl : List (Int × Fault)), cs = [.slice s.a s.len s.cap] ∧ FaultsIn W (fun k => k < W.heap.size) s rows fl ∧ fl.length ≤ 1048576 := by
  obtain ⟨s, rows, rfl, hs, hl, hby, hr⟩ := open_rowsB uFaults cfault (by decide) h hw
  obtain ⟨xs, ls, h1, h2, h3, h4⟩ := rows_of2 (cs := c132) (β := Int × Fault) (Q := fun r f => r.1 = f.1 ∧ r.2.1 = f.2.kind ∧ r.2.2.1 = f.2.part ∧ r.2.2.2.1 = f.2.names ∧ SlX W r.2.2.2.2.1 1 (iv f.2.bytes) ∧ f.2.bytes.length ≤ 2 ^ 44 ∧ Lie (fun k => k < W.heap.size) r.2.2.2.2.1) rows (fun r hr' => by
    obtain ⟨hrl, n, y, hy, hwy, _⟩ := hr r hr'
    exact open_fault hrl hy hwy)
  rw [h1] at hs
  refine ⟨s, xs, ls, rfl, ⟨hs, SlX.lie hs, h3, h4⟩, ?_⟩
  omega
end
section
variable {H : Type} {enc : TypeId × Value → H} {W : World} {base : Nat}
theorem arg_cut {v : Value} {d : DataW H} {p : List MemPlace} (hv : Value.okWide Tryz.prog W .any base 72 v) (h : DataW.Trod enc Tryz.prog W 0 (fun _ => true) true 72 v d p) (hw : ∀ n ∈ d.weights Tryz.prog 72, n ≤ reachBytes) :
    ∃ (c : Cells.T c72) (l : List Int), v = .agg (Cells.vals c72 c).toArray ∧ SlX W c.2.1 1 (iv l) ∧ l.length ≤ 2 ^ 44 := by
  obtain ⟨fs, hu, _⟩ := sCut
  obtain ⟨cs, rfl, hsz⟩ := okWide_struct hu hv
  obtain ⟨n, hn⟩ := h
  rw [ccut] at hsz
  obtain ⟨c, l, e, h1, h2⟩ := open_cut (cs := cs.toList) (by simpa using hsz) (by simpa [Value.cells] using hn) hw
  exact ⟨c, l, by rw [← e], h1, h2⟩
theorem arg_faults {v : Value} {d : DataW H} {p : List MemPlace} (hv : Value.okWide Tryz.prog W .any base 69 v) (h : DataW.Trod enc Tryz.prog W 0 (fun _ => true) true 69 v d p) (hw : ∀ n ∈ d.weights Tryz.prog 69, n ≤ reachBytes) (hb : bulk d ≤ 1048576) :
    ∃ (s : Sl) (rows : List (Cells.T c132)) (fl : List (Int × Fault)), v = .slice s.a s.len s.cap ∧ FaultsIn W (fun k => k < W.heap.size) s rows fl ∧ fl.length ≤ 1048576 := by
  obtain ⟨a, len, cap, rfl⟩ := okWide_slice uFaults hv
  obtain ⟨n, hn⟩ := h
  obtain ⟨s, ss, ls, e, h1⟩ := open_faults hn hw hb
  exact ⟨s, ss, ls, by simpa [Value.cells] using e, h1⟩
end
theorem recFaults : Tryz.prog.readableRec 69 = true := by kernel_rfl
theorem recCut : Tryz.prog.readableRec 72 = true := by kernel_rfl
theorem recs4 {t : TypeId} (h : t = 39 ∨ t = 69 ∨ t = 72) : Tryz.prog.readableRec t = true ∧ t < Tryz.prog.types.size := by
  rcases h with rfl | rfl | rfl
  · exact ⟨recScene, by rw [typesN]; decide⟩
  · exact ⟨recFaults, by rw [typesN]; decide⟩
  · exact ⟨recCut, by rw [typesN]; decide⟩
end Dq
end Go.Proofs.YtmooldhpiopcgaaGreatDoor
set_option linter.unusedSimpArgs false
set_option linter.unusedVariables false
namespace Go.Proofs.YtmooldhpiopcgaaGreatDoor
namespace Dq
open Go Go.Vx Go.ChangeShapes Go.WideShapes Go.RowKit
theorem and2 {a b : Bool} (h : a = true) (h' : b = true) : (a && b) = true := by rw [h, h']; rfl
theorem saveAtomic_witness (os : Os) {H : Type} (enc : TypeId × Value → H) :
    (Rows.OpenSpec.upto Rows.saveAtomicSpec).preRow enc Tryz.prog Tryz.f8 Rows.saveAtomicUptoRow.domain false laidL ((laidWorld os).forCall (fun _ _ => 0) ⟨#[], #[.agg #[.slice none 0 0, .string ⟨#[]⟩, .int .i64 0, .slice none 0 0], .slice none 0 0, .agg #[.int .i64 0, .slice none 0 0]], []⟩).memory #[.agg #[.slice none 0 0, .string ⟨#[]⟩, .int .i64 0, .slice none 0 0], .slice none 0 0, .agg #[.int .i64 0, .slice none 0 0]] := by
  have hw : (DataW.whole enc Tryz.prog ((laidWorld os).forCall (fun _ _ => 0) ⟨#[], #[.agg #[.slice none 0 0, .string ⟨#[]⟩, .int .i64 0, .slice none 0 0], .slice none 0 0, .agg #[.int .i64 0, .slice none 0 0]], []⟩).memory Tryz.f8.params.toList (Rows.OpenSpec.upto Rows.saveAtomicSpec).vars false (#[.agg #[.slice none 0 0, .string ⟨#[]⟩, .int .i64 0, .slice none 0 0], .slice none 0 0, .agg #[.int .i64 0, .slice none 0 0]] : Array Value).toList 8).map (fun x => (x.1, x.2.1)) =
      some ([.agg [.nil, .lit (.string []), .lit (.int .i64 0), .nil], .nil, .agg [.lit (.int .i64 0), .nil]], []) := by kernel_rfl
  obtain ⟨⟨x1, x2, x3⟩, hx, hx1⟩ := Option.map_eq_some_iff.1 hw
  simp only [Prod.mk.injEq] at hx1
  obtain ⟨rfl, rfl⟩ := hx1
  exact OpenSpec.preRow_of_cond 8 hx (by kernel_rfl) (fun k hk => by cases hk; kernel_rfl) (by kernel_rfl) (laid_met os _)
set_option maxRecDepth 100000 in
set_option maxHeartbeats 2000000 in
theorem saveAtomic_lifted (os : Os) (started : os.Started) (H : Type) (enc : TypeId × Value → H) (F : Stop.Interp) :
    ReturnsInHanded {} Tryz.checked os 8 .any ((Rows.OpenSpec.upto Rows.saveAtomicSpec).preRow enc Tryz.prog Tryz.f8 Rows.saveAtomicUptoRow.domain false laidL) (((Rows.OpenSpec.upto Rows.saveAtomicSpec).at F).post enc Tryz.prog Tryz.f8 false true false false) := by
  refine returnsInHanded_of_row (C := Tryz.checked) (s := Rows.OpenSpec.upto Rows.saveAtomicSpec) own started (by kernel_rfl) Tryz.func8
    (witness_row_atRef (enc := enc) (C := Tryz.checked) false (laidWorld os) #[.agg #[.slice none 0 0, .string ⟨#[]⟩, .int .i64 0, .slice none 0 0], .slice none 0 0, .agg #[.int .i64 0, .slice none 0 0]] rfl (by kernel_rfl) (by kernel_rfl) (by kernel_rfl) (saveAtomic_witness os enc)) ?_
  intro W base args ds gs before hval0 hW _ hk hwt0 hL _ _
  have hval : ∀ (j : Nat) t v, Tryz.f8.params[j]? = some t → args[j]? = some v → Value.okWide Tryz.prog W .any base t v := hval0
  have hwt : (DataW.weightsEach Tryz.prog (Tryz.f8.params.toList ++ []) (ds ++ gs)).all (· ≤ reachBytes) = true := hwt0
  have hW' := hW
  obtain ⟨p, q, hA0, hV, rfl, hfz, hnd⟩ := hW
  have hA : DataW.TrodAll enc Tryz.prog W 0 (fun _ => true) true Tryz.f8.params.toList args.toList ds p := hA0
  clear hA0 hval0 hwt0
  rw [Tryz.params8] at hA hval hwt
  obtain ⟨rfl, rfl⟩ := trodVars_none hV
  obtain ⟨hn1, hn2, hT⟩ := trodAll_get hA
  obtain ⟨v0, v1, v2, hv⟩ := list_3 args.toList hn1
  obtain rfl : args = #[v0, v1, v2] := by cases args; simp_all
  obtain ⟨d0, d1, d2, rfl⟩ := list_3 ds hn2
  have hbulk0 : bulk d0 ≤ 1048576 := by
    have h : Rows.uptoBulkAll ([d0, d1, d2] ++ []) ≤ 1048576 := of_decide_eq_true (hk _ rfl)
    simp only [List.append_nil, Rows.uptoBulkAll] at h
    show Rows.uptoBulk d0 ≤ _
    omega
  have hbulk1 : bulk d1 ≤ 1048576 := by
    have h : Rows.uptoBulkAll ([d0, d1, d2] ++ []) ≤ 1048576 := of_decide_eq_true (hk _ rfl)
    simp only [List.append_nil, Rows.uptoBulkAll] at h
    show Rows.uptoBulk d1 ≤ _
    omega
  have hbulk2 : bulk d2 ≤ 1048576 := by
    have h : Rows.uptoBulkAll ([d0, d1, d2] ++ []) ≤ 1048576 := of_decide_eq_true (hk _ rfl)
    simp only [List.append_nil, Rows.uptoBulkAll] at h
    show Rows.uptoBulk d2 ≤ _
    omega
  obtain ⟨p0, q0⟩ := hT 0 39 v0 d0 rfl rfl rfl
  obtain ⟨p1, q1⟩ := hT 1 69 v1 d1 rfl rfl rfl
  obtain ⟨p2, q2⟩ := hT 2 72 v2 d2 rfl rfl rfl
  obtain ⟨y, rows, fl, data, rfl, hsc⟩ := arg_scene (hval 0 39 v0 rfl rfl) q0 (weigh hwt 0 rfl rfl) hbulk0
  obtain ⟨sx, frows, ffl, rfl, hff, hffl⟩ := arg_faults (hval 1 69 v1 rfl rfl) q1 (weigh hwt 1 rfl rfl) hbulk1
  obtain ⟨cc, bys, rfl, hcc, hcl⟩ := arg_cut (hval 2 72 v2 rfl rfl) q2 (weigh hwt 2 rfl rfl)
  have walk := atomic_walk (laid_of hL) hsc hff (by omega) hcc hcl (K := fun r w' => r = true ∧ Ext W w') fun w' e => ⟨rfl, e⟩
  refine walk.mono fun e W' ⟨x, he, hx, hext⟩ => ⟨.bool true, ?_, ?_⟩
  · subst hx; exact he
  · exact post_same (s := Rows.saveAtomicSpec) hW' rfl rfl u4 rfl laidOut (fun t ht => by
      rw [Tryz.params8] at ht
      have ht : t ∈ [39, 69, 72] := ht
      simp only [List.mem_cons, List.not_mem_nil, or_false] at ht
      exact recs4 ht) hext
set_option maxHeartbeats 0 in
theorem saveAtomic_facts : joinedFacts Tryz.pinned.checked.prog 8 Tryz.f8 (Rows.OpenSpec.upto Rows.saveAtomicSpec).bare Rows.saveAtomicUptoRow = true := by
  unfold joinedFacts
  with_reducible repeat' apply and2
  all_goals as_aux_lemma => kernel_rfl
theorem saveAtomic_row : Rows.SaveAtomicUptoSaid :=
  OpenClaim.holds_of_cond 8 Tryz.f8 rfl rfl rfl rfl rfl rfl rfl ⟨rfl, rfl, rfl, rfl, rfl⟩ rfl rfl rfl rfl rfl (by as_aux_lemma => kernel_rfl) Tryz.func8 saveAtomic_facts
    (of_decide_eq_true (by as_aux_lemma => kernel_rfl)) (by unfold Func.isWrapper; rw [if_neg (by as_aux_lemma => decide +kernel)]; exact ⟨rfl, rfl⟩)
    (fun os started H enc _ F => by rw [OpenClaim.pre_eq_preRow]; exact saveAtomic_lifted os started H enc F)
end Dq
theorem saveAtomic_holds : Rows.SaveAtomicUptoCardSaid :=
  Claim7.holds_tied_plain_at .later [] [.handle] true (true, "8fa86d716e3cbb5d44ad5d616054dc9adf16b2d155b2b8fa930f25b85a3d54ce") true
    Dq.saveAtomic_row (fun _ h => by cases h) (by as_aux_lemma => kernel_rfl) (fun _ h => by cases h) saveAtomicUpto_row_tie rfl ⟨rfl, rfl⟩ (by as_aux_lemma => kernel_rfl) rfl
    (fun f fn hf hfn => by
      obtain rfl : f = 8 := Option.some.inj ((show Tryz.prog.funcNamed "copyist/copyistlaw17.SaveAtomic" = some 8 by as_aux_lemma => kernel_rfl).symm.trans hf) |>.symm
      obtain rfl : fn = Tryz.f8 := (Option.some.inj (Tryz.func8.symm.trans hfn)).symm
      exact ⟨by as_aux_lemma => kernel_rfl, fun j t ht => by
        rw [Tryz.params8] at ht
        have hm : t ∈ [39, 69, 72] := by simpa using Array.mem_of_getElem? ht
        have hall : ([39, 69, 72].all fun u => !Tryz.prog.wantsStandIn u) = true := by as_aux_lemma => kernel_rfl
        exact (show Tryz.prog.wantsStandIn t = false by simpa using List.all_eq_true.1 hall t hm)⟩)
    (by as_aux_lemma => kernel_rfl)
end Go.Proofs.YtmooldhpiopcgaaGreatDoor
