/- What a step does, whatever is done in it. Conditions: the disk stands, its numbers are small; the closures do what is said of them. -/
import Derived.Test.YtdabehgbhndimaaCs
set_option linter.unusedSimpArgs false
set_option linter.unusedVariables false
namespace Go.Proofs.Ytdabehgbhndimaa
open Go Go.Vx Dsk
section
variable {w w' : World} {S F F' : Nat → Prop} {d m ms ml : Nat} {f : Dir} {fb : List Nat} {ds : List Sl} {fs : List Fl} {sa : Sl} {vs : List Value} {D : Dk} {pl : Option Nat} {p : Int → Option Fault} {N : Nat}

theorem PlanIn.look (h : PlanIn w F pl p) (k : Int) {K : (Int × Int × Int × Int × Sl × Unit) → World → Prop} (h0 : p k = none → K (0, 0, 0, 0, ⟨none, 0, 0⟩, ()) w)
    (h1 : ∀ g s, p k = some g → Ints w s g.bytes → (∀ k, s.blk k → F k) → K (k, g.kind, g.part, g.names, s, ()) w) :
    rdT Try.prog (.one (.agg c74)) (Instr.lookup 89 (.map pl) (.int .i64 k) false) K w := by
  rcases h with ⟨rfl, h⟩ | ⟨m, es, rfl, _, g3, g4⟩
  · refine ⟨_, ?_, h0 (h k)⟩
    obtain ⟨kt, et, u1, u2, u3⟩ := MP.ok
    have hc : (Instr.checkKey true 10000 kt (.int .i64 k)).run Try.prog w = .ok () w := Key.int.check Try.prog kt true 9999 k w u2
    simp [Instr.lookup, run_underlying u1, u3, hc, Instr.findKey, Instr.findNow, run_underlying u2, RTy.val, Ty.val, Cells.vals, Cell.val]
  · have hr := lookupK1_run (w := w) MP g3 k
    have h4 := g4 k
    generalize hv : kget es k = v at hr h4
    generalize hp : p k = q at h4
    match v, q, h4 with
    | none, none, _ => exact ⟨(0, 0, 0, 0, ⟨none, 0, 0⟩, ()), hr, h0 hp⟩
    | some _, some g, ⟨s, rfl, hs, hb, _⟩ => exact ⟨(k, g.kind, g.part, g.names, s, ()), hr, h1 g s hp hs hb⟩

/-- an error, as it is told -/
structure ErrIn (w0 w : World) (F : Nat → Prop) (v : Value) (op nm : ByteArray) (e : Int) : Prop where
  ok : e = 0 → v = .nilIface
  bad : e ≠ 0 → ∃ b k, v = .iface 94 (.pointer (some (at0 b))) ∧ w.heap[b]? = some (.cells #[.string op, .string nm, .int .i64 k, .iface 49 (.int .i64 e)] 96 (0, 0)) ∧ w0.heap.size ≤ b ∧ ¬ F b

/-- what is asked of a closure: what it does to the disk, what is known of its own boxes ahead of it (Q0) and behind it (Q1); the boxes of E may become the disk's -/
def Does {α : Type} (w0 : World) (d : Nat) (F0 M E : Nat → Prop) (Q0 : World → Prop) (Q1 : α → World → (Nat → Prop) → Prop) (D : Dk) (N : Nat) (r : Dk × Int × α) (v : Value) (args : Array Value) : Prop :=
  ∀ (w1 : World) (F1 : Nat → Prop) (K : Int → World → Prop), DiskIn w1 d F1 D → DkOk D N → Q0 w1 → (∀ k, F1 k → F0 k ∨ w0.heap.size ≤ k) → w0.heap.size ≤ w1.heap.size →
    (∀ w2 F2, DiskIn w2 d F2 r.1 → Q1 r.2.2 w2 F2 → Upd (fun k => FN w1 F1 k ∨ M k) w1 w2 → (∀ k, F2 k → F1 k ∨ E k ∨ w1.heap.size ≤ k) → K r.2.1 w2) →
    callX Try.prog (do let d ← Deferred.ofValue v args; invoke d.target d.args : Sem Next) (.one (.one (.int .i64))) K w1

theorem step_call {α : Type} {M E : Nat → Prop} {Q0 : World → Prop} {Q1 : α → World → (Nat → Prop) → Prop} {a0 : α} {act : Dk → Dk × Int × α} {part : Option (Int → Dk → Dk × Int × α)} {op nm : ByteArray} {va vp : Value}
    (A : DiskIn w d F D) (ok : DkOk D N) (hN : N + 2 ≤ 2 ^ 60) (hq0 : Q0 w) (hq1 : Q1 a0 w F) (hM : ∀ k, M k → k < w.heap.size ∧ ¬ F k) (hE : ∀ k, E k → M k)
    (hst0 : ∀ w1 w2 S, Q0 w1 → Upd S w1 w2 → (∀ k, S k → k = d) → Q0 w2)
    (hst1 : ∀ a w1 F1 w2 F2, Q1 a w1 F1 → Upd F1 w1 w2 → (∀ k, F2 k → F1 k ∨ w1.heap.size ≤ k) → Q1 a w2 F2)
    (hact : ∀ D1, D1 = { D with steps := D.steps + 1 } → DkOk D1 (N + 1) → DkOk (act D1).1 (N + 2) ∧ Does w d F M E Q0 Q1 D1 (N + 1) (act D1) va #[])
    (hpart : (part = none ∧ vp = .nilFunc) ∨ ∃ pt g cs, part = some pt ∧ vp = .func g #[] cs ∧ ∀ D1 k, D1 = { D with steps := D.steps + 1 } → Does w d F M E Q0 Q1 D1 (N + 1) (pt k D1) vp #[.int .i64 k])
    {K : Value → World → Prop}
    (hK : ∀ F' w' v, ErrIn w w' F' v op nm (Dsk.step D a0 act part).2.1 → DiskIn w' d F' (Dsk.step D a0 act part).1 → Q1 (Dsk.step D a0 act part).2.2 w' F' → Upd (fun k => F k ∨ M k) w w' → (∀ k, F' k → F k ∨ E k ∨ w.heap.size ≤ k) → K v w') :
    callT Try.prog 39 #[.pointer (some (at0 d)), .string op, .string nm, va, vp] (.one (.one .any)) K w := by
  refine F39_calls ?_
  unfold F39
  obtain ⟨ms, ml, sa, pl, vs, fb, ds, A⟩ := A
  have hsteps := ok.steps
  simp only [nn_some_iff, addr_add, Nat.zero_add]
  refine ld_r A.box (x := D.down) rfl (sif_r (fun hd => ?_) (fun hd => ?_))
  · have e : Dsk.step D a0 act part = (D, 165, a0) := by unfold Dsk.step; rw [if_pos hd]
    rw [e] at hK
    refine newO_r fun b3 w1 e1 n1 hb3 _ => hK F w1 _ ⟨(fun h => by cases h), fun _ => ⟨b3, 0, rfl, n1, by omega, fun h => by have := A.lt _ h; omega⟩⟩ (A.ext e1).in (hst1 a0 w F w1 F hq1 (Upd.of_ext e1) fun _ h => .inl h) (Upd.of_ext e1) fun k hk => .inl hk
  have ew : IntKind.wrap .i64 (D.steps + 1) = D.steps + 1 := IntWalk.i64_in _ ⟨by omega, by omega⟩
  refine nn_some (ld_r A.box (x := D.steps) rfl (nn_some ?_))
  rw [addr_add, ew, Nat.zero_add]
  refine stC_r A.box (by simp) fun w1 u1 n1 _ => nn_some ?_
  obtain ⟨D1, hD1⟩ : ∃ D1, D1 = { D with steps := D.steps + 1 } := ⟨_, rfl⟩
  have A1 : DiskAt w1 d F D1 ms ml sa pl vs fb ds := A.box_set u1 (by rw [n1, hD1]; simp [dbox]) (by rw [hD1]) (by rw [hD1]) (by rw [hD1]) (by rw [hD1])
  have ok1 : DkOk D1 (N + 1) := by
    rw [hD1]
    exact ⟨ok.space, fun i f hf => let ⟨a, b, c, e⟩ := ok.fil i f hf; ⟨a, b, c, by omega⟩, Nat.le_trans ok.num (Nat.le_succ _), ok.good, ⟨by dsimp only; omega, by dsimp only; omega⟩, Nat.le_trans ok.acts (Nat.le_succ _)⟩
  have hs1 : D1.steps = D.steps + 1 := by rw [hD1]
  have es0 : D1.plan D1.steps = none → Dsk.step D a0 act part = act D1 := fun h => by
    rw [hD1] at h
    have h : D.plan (D.steps + 1) = none := h
    unfold Dsk.step; rw [if_neg (by rw [hd]; simp), h, hD1]
  have es1 : ∀ g, D1.plan D1.steps = some g → Dsk.step D a0 act part = faulty D1 a0 act part g := fun g h => by
    rw [hD1] at h
    have h : D.plan (D.steps + 1) = some g := h
    unfold Dsk.step; rw [if_neg (by rw [hd]; simp), h, hD1]
  obtain ⟨okA, does⟩ := hact D1 hD1 ok1
  have ud : Upd F w w1 := u1.mono fun k _ e => by rw [e]; exact A.fd
  have u1F : Upd (fun k => F k ∨ M k) w w1 := ud.mono fun k _ h => .inl h
  have hq01 : Q0 w1 := hst0 w w1 _ hq0 u1 fun k e => e
  have hq11 : Q1 a0 w1 F := hst1 a0 w F w1 F hq1 ud fun _ h => .inl h
  have hz1 := u1.size
  clear u1 n1
  rw [addr_add, Nat.zero_add]
  refine ld_r A1.box (x := D1.steps) rfl (nn_some ?_)
  rw [addr_add, Nat.zero_add]
  refine ld_r A1.box (x := pl) rfl ?_
  -- the end: an error, or none
  have fin : ∀ {W : World} {F2 : Nat → Prop} {e : Int} {D2 : Dk} {a : α}, Dsk.step D a0 act part = (D2, e, a) → DiskIn W d F2 D2 → Q1 a W F2 → Upd (fun k => F k ∨ M k) w W → (∀ k, F2 k → F k ∨ E k ∨ w.heap.size ≤ k) →
      (sif (e == 0) (K .nilIface) (newO (.cells #[.string op, .string nm, .int .i64 D1.steps, .iface 49 (.int .i64 e)] 96) fun b26 => K (.iface 94 (.pointer (some (at0 b26)))))) W := by
    intro W F2 e D2 a he hD hq hu hF
    rw [he] at hK
    refine sif_r (fun h => ?_) (fun h => ?_)
    · have h : e = 0 := by simpa using h
      exact hK F2 W _ ⟨fun _ => rfl, fun hh => absurd h hh⟩ hD hq hu hF
    · have h : e ≠ 0 := by simpa using h
      refine newO_r fun b w3 e3 n3 hb _ => hK F2 w3 _ ⟨fun hh => absurd hh h, fun _ => ⟨b, D1.steps, rfl, n3, ?_, fun hh => ?_⟩⟩ (hD.ext e3) (hst1 a W F2 w3 F2 hq (Upd.of_ext e3) fun _ h => .inl h) (hu.trans (Upd.of_ext e3)) hF
      · have := hu.size; omega
      · have := hD.lt _ hh; omega
  -- the closure is called
  have call : ∀ {W : World} {K' : Int → World → Prop}, DiskIn W d F D1 → Q0 W → Upd (fun k => F k ∨ M k) w W →
      (∀ W' F3, DiskIn W' d F3 (act D1).1 → Q1 (act D1).2.2 W' F3 → Upd (fun k => F k ∨ M k) w W' → (∀ k, F3 k → F k ∨ E k ∨ w.heap.size ≤ k) → Upd (fun k => FN W F k ∨ M k) W W' → K' (act D1).2.1 W') →
      callX Try.prog (do let d ← Deferred.ofValue va #[]; invoke d.target d.args : Sem Next) (.one (.one (.int .i64))) K' W := by
    intro W K' hD hq hu hK'
    refine does W F K' hD ok1 hq (fun k h => .inl h) hu.size fun w2 F3 hD3 hq3 hu3 hF3 => hK' w2 F3 hD3 hq3 (hu.trans (hu3.mono fun k _ h => h.imp (fun h => h.1) id)) (fun k hk => ?_) hu3
    rcases hF3 k hk with h | h | h
    · exact .inl h
    · exact .inr (.inl h)
    · have := hu.size; exact .inr (.inr (by omega))
  -- a power loss
  have loss : ∀ {W : World} {F2 : Nat → Prop} {D2 : Dk} {a : α} {M2 : Nat} {g : Fault} {s : Sl} {K' : Unit → World → Prop}, DiskIn W d F2 D2 → DkOk D2 M2 → M2 ≤ 2 ^ 60 → Q1 a W F2 → Upd (fun k => F k ∨ M k) w W → (∀ k, F2 k → F k ∨ E k ∨ w.heap.size ≤ k) → Ints W s g.bytes →
      (∀ W' F3, DiskIn W' d F3 (crash D2 g.names g.bytes) → Q1 a W' F3 → Upd (fun k => F k ∨ M k) w W' → (∀ k, F3 k → F k ∨ E k ∨ w.heap.size ≤ k) → K' () W') →
      callT Try.prog 22 #[.pointer (some (at0 d)), .agg (Cells.vals c37 (g.names, s, ())).toArray] (.tup []) K' W := by
    intro W F2 D2 a M2 g s K' hD hok hM2 hq hu hF hi hK'
    obtain ⟨ms2, ml2, sa2, pl2, vs2, fb2, ds2, A2⟩ := hD
    refine crash_call A2 hok hM2 (c := (g.names, s, ())) ⟨hi.x, .inr hi⟩ fun F3 W' hD3 hu3 hF3 => hK' W' F3 hD3 (hst1 a W F2 W' F3 hq hu3 hF3) (hu.new hu3 fun k hk h => ?_) fun k hk => ?_
    · rcases hF k h with h | h | h
      · exact .inl h
      · exact .inr (hE k h)
      · omega
    · rcases hF3 k hk with h | h
      · exact hF k h
      · have := hu.size; exact .inr (.inr (by omega))
  refine A1.plan.look D1.steps (fun h0 => ?_) (fun g s hp hi hsF => ?_)
  · -- nothing is planned
    have es := es0 h0
    refine (St.start w1).newAgg rfl rfl rfl fun b12 w2 S2 e2 => ?_
    refine join_r (fun x W => ∃ F2 D2 a, Dsk.step D a0 act part = (D2, x.1, a) ∧ DiskIn W d F2 D2 ∧ Q1 a W F2 ∧ Upd (fun k => F k ∨ M k) w W ∧ ∀ k, F2 k → F k ∨ E k ∨ w.heap.size ≤ k) ?_ ?_
    · refine S2.ld 0 (x := (0 : Int)) rfl rfl (sif_false (sif_false (sif_false (sif_false (sif_false ?_)))))
      refine call (A1.ext e2).in (hst0 w1 w2 _ hq01 e2 fun _ h => h.elim) (u1F.trans (Upd.of_ext e2)) fun W' F3 hD3 hq3 hu3 hF3 _ => ⟨F3, _, _, ?_, hD3, hq3, hu3, hF3⟩
      rw [es]
    · rintro ⟨x, ⟨⟩⟩ W ⟨F2, D2, a, h1, h2, h3, h4, h5⟩
      exact fin h1 h2 h3 h4 h5
  · have es := es1 g hp
    unfold faulty at es
    refine (St.start w1).newAgg rfl rfl rfl fun b12 w2 S2 e2 => ?_
    have hq02 := hst0 w1 w2 _ hq01 e2 fun _ h => h.elim
    have hq12 := hst1 a0 w1 F w2 F hq11 (Upd.of_ext e2) fun _ h => .inl h
    have u2F := u1F.trans (Upd.of_ext e2)
    have hb12 : ∀ {W : World}, Upd (fun k => FN w2 F k ∨ M k) w2 W → W.heap[b12]? = some (.cells (Cells.vals c74 (D1.steps, g.kind, g.part, g.names, s, ())).toArray 74 (0, 0)) := fun u => u.get (S2.at_ 0 rfl) fun h => by
      have hg := S2.ge 0 rfl
      rcases h with h | h
      · have := A1.lt _ h.1; omega
      · have := (hM _ h).1; omega
    refine join_r (fun x W => ∃ F2 D2 a, Dsk.step D a0 act part = (D2, x.1, a) ∧ DiskIn W d F2 D2 ∧ Q1 a W F2 ∧ Upd (fun k => F k ∨ M k) w W ∧ ∀ k, F2 k → F k ∨ E k ∨ w.heap.size ≤ k) ?_ ?_
    · refine S2.ld 0 (x := g.kind) rfl rfl (sif_r (fun h1 => ?_) (fun h1 => ?_))
      · have h1 : g.kind = 1 := by simpa using h1
        rw [if_pos h1] at es
        exact ⟨F, D1, a0, es, (A1.ext e2).in, hq12, u2F, fun k hk => .inl hk⟩
      have h1 : ¬ g.kind = 1 := by simpa using h1
      rw [if_neg h1] at es
      refine sif_r (fun h2 => ?_) (fun h2 => ?_)
      · have h2 : g.kind = 2 := by simpa using h2
        rw [if_pos h2] at es
        rcases hpart with ⟨rfl, rfl⟩ | ⟨pt, gf, cs, rfl, rfl, hp⟩
        · exact rdB_nfunc' i123_ok.und (sif_false ⟨F, D1, a0, es, (A1.ext e2).in, hq12, u2F, fun k hk => .inl hk⟩)
        · refine rdB_nfunc i123_ok.und (sif_true (S2.ld 0 (x := g.part) rfl rfl ?_))
          refine hp D1 g.part hD1 w2 F _ (A1.ext e2).in ok1 hq02 (fun k hk => .inl hk) u2F.size fun w3 F3 hD3 hq3 hu3 hF3 => ⟨F3, _, _, es, hD3, hq3, u2F.trans (hu3.mono fun k _ h => h.imp (fun h => h.1) id), fun k hk => (hF3 k hk).imp id fun h => h.imp id fun h => ?_⟩
          have := u2F.size; omega
      have h2 : ¬ g.kind = 2 := by simpa using h2
      rw [if_neg h2] at es
      refine sif_r (fun h4 => ?_) (fun h4 => ?_)
      · have h4 : g.kind = 4 := by simpa using h4
        rw [if_pos h4] at es
        refine lds_r (x := (g.names, s, ())) (S2.at_ 0 rfl) (fun i v hv => ?_) ?_
        · match i with
          | 0 => simpa [Cells.vals, Cell.val] using hv
          | 1 => simpa [Cells.vals, Cell.val] using hv
          | i + 2 => simp [Cells.vals] at hv
        · exact loss (A1.ext e2).in ok1 (by omega) hq12 u2F (fun k hk => .inl hk) (hi.ext e2) fun W' F3 hD3 hq3 hu3 hF3 => ⟨F3, _, _, es, hD3, hq3, hu3, hF3⟩
      have h4 : ¬ g.kind = 4 := by simpa using h4
      rw [if_neg h4] at es
      refine sif_r (fun h5 => ?_) (fun h5 => ?_)
      · have h5 : g.kind = 5 := by simpa using h5
        rw [if_pos h5] at es
        refine call (A1.ext e2).in hq02 u2F fun W' F3 hD3 hq3 hu3 hF3 hu2' => ?_
        have hb := hb12 hu2'
        refine lds_r (x := (g.names, s, ())) hb (fun i v hv => ?_) ?_
        · match i with
          | 0 => simpa [Cells.vals, Cell.val] using hv
          | 1 => simpa [Cells.vals, Cell.val] using hv
          | i + 2 => simp [Cells.vals] at hv
        · refine loss hD3 okA hN hq3 hu3 hF3 ?_ fun W2 F4 hD4 hq4 hu4 hF4 => ⟨F4, _, _, es, hD4, hq4, hu4, hF4⟩
          refine (hi.ext e2).upd hu2' fun k hk h => ?_
          rcases h with h | h
          · obtain ⟨c, fr, hc⟩ := (hi.ext e2).blk_cells hk
            exact h.2 c fr hc
          · exact (hM k h).2 (hsF k hk)
      have h5 : ¬ g.kind = 5 := by simpa using h5
      rw [if_neg h5] at es
      refine sif_r (fun h3 => ?_) (fun h3 => ?_)
      · have h3 : g.kind = 3 := by simpa using h3
        rw [if_pos h3] at es
        refine call (A1.ext e2).in hq02 u2F fun W' F3 hD3 hq3 hu3 hF3 _ => sif_r (fun h => ?_) (fun h => ?_)
        · have h : (act D1).2.1 ≠ 0 := by simpa using h
          exact ⟨F3, _, _, by rw [es]; simp only [if_pos h], hD3, hq3, hu3, hF3⟩
        · have h : ¬ (act D1).2.1 ≠ 0 := by simpa using h
          exact ⟨F3, _, _, by rw [es]; simp only [if_neg h], hD3, hq3, hu3, hF3⟩
      have h3 : ¬ g.kind = 3 := by simpa using h3
      rw [if_neg h3] at es
      exact call (A1.ext e2).in hq02 u2F fun W' F3 hD3 hq3 hu3 hF3 _ => ⟨F3, _, _, by rw [es], hD3, hq3, hu3, hF3⟩
    · rintro ⟨x, ⟨⟩⟩ W ⟨F2, D2, a, h1, h2, h3, h4, h5⟩
      exact fin h1 h2 h3 h4 h5
end
end Go.Proofs.Ytdabehgbhndimaa
