/-
  A region that draws its order, in which one operation (a new variable that nothing waits ahead of) is not ordered with calls: every place of it among the calls is asked for.
  Conditions: as for one order; the floating operation waits for nothing; what waits for it stands at the end.
-/
import Derived.Test.YtdabehgbhndimaaVxA
set_option linter.unusedSimpArgs false
set_option linter.unusedVariables false
namespace Go.Vx
open Go

/-- One operation, then the rest. -/
def stepS (cls : Op → Cl) (P : Program) (ops : Array Oper) (un : Nat → Nat → Bool) (i : Nat) (N : Held → Act → World → Prop) (H : Held) (a : Act) (w : World) : Prop :=
  match ops[i]? with
  | none => False
  | some o =>
    if Region.wanted o (yielded ops a.tmps) = true then
      match cls o.op with
      | .free => ∃ v, (∀ w', (execOp a.eval o).run P w' = .ok (.value v) w') ∧ N H (a.put o.dst v) w
      | .read => ∃ v, (execOp a.eval o).run P w = .ok (.value v) w ∧ N ((i, execOp a.eval o, v) :: H) (a.put o.dst v) w
      | .eff => o.upon P a (fun a' w' => keepsH P un i H w' ∧ N H a' w') (fun _ _ _ => False) ((execOp a.eval o).run P w)
    else N H (a.put o.dst undef) w

section
variable {cls : Op → Cl} {P : Program} {ops : Array Oper} {un : Nat → Nat → Bool} {Q : Act → World → Prop}

theorem wpS_step {i : Nat} {r : List Nat} {H : Held} {a : Act} {w : World} : wpS cls P ops un Q (i :: r) H a w = stepS cls P ops un i (wpS cls P ops un Q r) H a w := by
  rw [wpS]; rfl

theorem stepS_imp {i : Nat} {N N' : Held → Act → World → Prop} (h : ∀ H a w, N H a w → N' H a w) {H : Held} {a : Act} {w : World} (hh : stepS cls P ops un i N H a w) : stepS cls P ops un i N' H a w := by
  unfold stepS at hh ⊢
  split at hh
  · exact hh
  · split at hh
    · rename_i hw
      rw [if_pos hw]
      split at hh
      · obtain ⟨v, h1, h2⟩ := hh; exact ⟨v, h1, h _ _ _ h2⟩
      · obtain ⟨v, h1, h2⟩ := hh; exact ⟨v, h1, h _ _ _ h2⟩
      · exact upon_mono (fun a w ⟨h1, h2⟩ => ⟨h1, h _ _ _ h2⟩) (fun _ _ _ h => h) hh
    · rename_i hw; rw [if_neg hw]; exact h _ _ _ hh

theorem stepS_held {i : Nat} {N : Held → Act → World → Prop} (hN : ∀ H H' a w, (∀ y ∈ H', y ∈ H) → N H a w → N H' a w) {H H' : Held} {a : Act} {w : World} (hs : ∀ y ∈ H', y ∈ H) (h : stepS cls P ops un i N H a w) : stepS cls P ops un i N H' a w := by
  unfold stepS at h ⊢
  split at h
  · exact h
  · split at h
    · rename_i hw
      rw [if_pos hw]
      split at h
      · obtain ⟨v, h1, h2⟩ := h; exact ⟨v, h1, hN _ _ _ _ hs h2⟩
      · obtain ⟨v, h1, h2⟩ := h
        refine ⟨v, h1, hN _ _ _ _ (fun x hx => ?_) h2⟩
        rcases List.mem_cons.1 hx with rfl | hx
        · exact List.mem_cons_self
        · exact List.mem_cons_of_mem _ (hs x hx)
      · exact upon_mono (fun a w ⟨h1, h2⟩ => ⟨keepsH_mono hs h1, hN _ _ _ _ hs h2⟩) (fun _ _ _ h => h) h
    · rename_i hw; rw [if_neg hw]; exact hN _ _ _ _ hs h

/-- Two neighbours change places. -/
theorem stepS_swap {N : Held → Act → World → Prop} (hN : ∀ H H' a w, (∀ y ∈ H', y ∈ H) → N H a w → N H' a w) {x i : Nat} {ox oi : Oper} (hx : ops[x]? = some ox) (hi : ops[i]? = some oi) (hq : cls ox.op ≠ .eff) (hap : ox.apart ops oi = true) (hun : un x i = true)
    (hsx : ∀ cs b, ox.op ≠ .select cs b) (hsi : ∀ cs b, oi.op ≠ .select cs b) (H : Held) (a : Act) (w : World)
    (h : stepS cls P ops un x (stepS cls P ops un i N) H a w) : stepS cls P ops un i (stepS cls P ops un x N) H a w := by
  obtain ⟨h1, h2, h3⟩ := Oper.apart_spec hap
  have ei : ∀ (a : Act) v, execOp (a.put ox.dst v).eval oi = execOp a.eval oi := fun a v => execOp_put oi hsi a ox.dst v h1
  have wi : ∀ (a : Act) v, Region.wanted oi (yielded ops (a.put ox.dst v).tmps) = Region.wanted oi (yielded ops a.tmps) := fun a v => wanted_put oi a ox.dst v h1
  have ex : ∀ (a : Act) v, execOp (a.put oi.dst v).eval ox = execOp a.eval ox := fun a v => execOp_put ox hsx a oi.dst v h3
  have wx : ∀ (a : Act) v, Region.wanted ox (yielded ops (a.put oi.dst v).tmps) = Region.wanted ox (yielded ops a.tmps) := fun a v => wanted_put ox a oi.dst v h3
  have pc : ∀ (a : Act) v u, (a.put ox.dst v).put oi.dst u = (a.put oi.dst u).put ox.dst v := fun a v u => (Act.put_comm a v u h2)
  rw [stepS, hx] at h
  rw [stepS, hi]
  simp only at h ⊢
  by_cases hwi : Region.wanted oi (yielded ops a.tmps) = true
  · rw [if_pos hwi]
    by_cases hwx : Region.wanted ox (yielded ops a.tmps) = true
    · rw [if_pos hwx] at h
      cases c0 : cls ox.op with
      | eff => exact absurd c0 hq
      | free =>
        -- the first one does not look at memory
        simp only [c0] at h
        obtain ⟨v, hv, h⟩ := h
        rw [stepS, hi] at h
        simp only [wi, hwi, if_true, ei] at h
        have back : ∀ (a' : Act) (w' : World) (H' : Held), (execOp a'.eval ox = execOp a.eval ox) → (Region.wanted ox (yielded ops a'.tmps) = Region.wanted ox (yielded ops a.tmps)) →
            N H' (a'.put ox.dst v) w' → stepS cls P ops un x N H' a' w' := by
          intro a' w' H' he hw' hh
          rw [stepS, hx]
          simp only [hw', hwx, if_true, c0, he]
          exact ⟨v, hv, hh⟩
        split at h
        · obtain ⟨u, hu, h⟩ := h
          exact ⟨u, hu, back _ _ _ (ex a u) (wx a u) (by rw [← pc]; exact h)⟩
        · obtain ⟨u, hu, h⟩ := h
          exact ⟨u, hu, back _ _ _ (ex a u) (wx a u) (by rw [← pc]; exact h)⟩
        · generalize (execOp a.eval oi).run P w = res at h ⊢
          cases res with
          | ok n w' =>
            cases n <;> simp only [Oper.upon] at h ⊢
            case value u => exact ⟨h.1, back _ _ _ (ex a u) (wx a u) (by rw [← pc]; exact h.2)⟩
            case skip => exact ⟨h.1, back _ _ _ (ex a _) (wx a _) (by rw [← pc]; exact h.2)⟩
            case defer d =>
              refine ⟨h.1, back _ _ _ ?_ ?_ ?_⟩
              · exact (ex _ _).trans rfl
              · exact (wx _ _).trans rfl
              · rw [← pc, ← Act.put_defers]; exact h.2
            case enter f args =>
              refine Calls.mono h fun e w'' he => ?_
              cases e with
              | returned u => exact ⟨he.1, back _ _ _ (ex a u) (wx a u) (by rw [← pc]; exact he.2)⟩
              | panicked c => exact he
              | outgrown => exact he
            case row row args => exact Rows.mono h fun u w'' he => ⟨he.1, back _ _ _ (ex a u) (wx a u) (by rw [← pc]; exact he.2)⟩
          | halt y w' => cases y <;> simp only [Oper.upon] at h ⊢
      | read =>
        -- the first one reads
        have c1 := c0
        simp only [c1] at h
        obtain ⟨v, hv, h⟩ := h
        rw [stepS, hi] at h
        simp only [wi, hwi, if_true, ei] at h
        have back : ∀ (a' : Act) (w' : World) (H' : Held), (execOp a'.eval ox = execOp a.eval ox) → (Region.wanted ox (yielded ops a'.tmps) = Region.wanted ox (yielded ops a.tmps)) →
            (execOp a.eval ox).run P w' = .ok (.value v) w' →
            N ((x, execOp a.eval ox, v) :: H') (a'.put ox.dst v) w' → stepS cls P ops un x N H' a' w' := by
          intro a' w' H' he hw' hr hh
          rw [stepS, hx]
          simp only [hw', hwx, if_true, c1, he]
          exact ⟨v, hr, hh⟩
        have own : ∀ w', keepsH P un i ((x, execOp a.eval ox, v) :: H) w' → (execOp a.eval ox).run P w' = .ok (.value v) w' := fun w' hk => hk _ List.mem_cons_self hun
        have rest : ∀ w', keepsH P un i ((x, execOp a.eval ox, v) :: H) w' → keepsH P un i H w' := fun w' hk => keepsH_mono (fun y hy => List.mem_cons_of_mem _ hy) hk
        split at h
        · obtain ⟨u, hu, h⟩ := h
          exact ⟨u, hu, back _ _ _ (ex a u) (wx a u) hv (by rw [← pc]; exact h)⟩
        · obtain ⟨u, hu, h⟩ := h
          refine ⟨u, hu, back _ _ _ (ex a u) (wx a u) hv ?_⟩
          rw [← pc]
          exact hN _ _ _ _ (fun y hy => by
            rcases List.mem_cons.1 hy with rfl | hy
            · exact List.mem_cons_of_mem _ List.mem_cons_self
            · rcases List.mem_cons.1 hy with rfl | hy
              · exact List.mem_cons_self
              · exact List.mem_cons_of_mem _ (List.mem_cons_of_mem _ hy)) h
        · generalize (execOp a.eval oi).run P w = res at h ⊢
          cases res with
          | ok n w' =>
            cases n <;> simp only [Oper.upon] at h ⊢
            case value u => exact ⟨rest _ h.1, back _ _ _ (ex a u) (wx a u) (own _ h.1) (by rw [← pc]; exact h.2)⟩
            case skip => exact ⟨rest _ h.1, back _ _ _ (ex a _) (wx a _) (own _ h.1) (by rw [← pc]; exact h.2)⟩
            case defer d =>
              refine ⟨rest _ h.1, back _ _ _ ?_ ?_ (own _ h.1) ?_⟩
              · exact (ex _ _).trans rfl
              · exact (wx _ _).trans rfl
              · rw [← pc, ← Act.put_defers]; exact h.2
            case enter f args =>
              refine Calls.mono h fun e w'' he => ?_
              cases e with
              | returned u => exact ⟨rest _ he.1, back _ _ _ (ex a u) (wx a u) (own _ he.1) (by rw [← pc]; exact he.2)⟩
              | panicked c => exact he
              | outgrown => exact he
            case row row args => exact Rows.mono h fun u w'' he => ⟨rest _ he.1, back _ _ _ (ex a u) (wx a u) (own _ he.1) (by rw [← pc]; exact he.2)⟩
          | halt y w' => cases y <;> simp only [Oper.upon] at h ⊢
    · -- the first one is left out
      rw [if_neg hwx] at h
      rw [stepS, hi] at h
      simp only [wi, hwi, if_true, ei] at h
      have back : ∀ (a' : Act) (w' : World) (H' : Held), (Region.wanted ox (yielded ops a'.tmps) = Region.wanted ox (yielded ops a.tmps)) →
          N H' (a'.put ox.dst undef) w' → stepS cls P ops un x N H' a' w' := by
        intro a' w' H' hw' hh
        rw [stepS, hx]
        simp only [hw', if_neg hwx]
        exact hh
      split at h
      · obtain ⟨u, hu, h⟩ := h
        exact ⟨u, hu, back _ _ _ (wx a u) (by rw [← pc]; exact h)⟩
      · obtain ⟨u, hu, h⟩ := h
        exact ⟨u, hu, back _ _ _ (wx a u) (by rw [← pc]; exact h)⟩
      · generalize (execOp a.eval oi).run P w = res at h ⊢
        cases res with
        | ok n w' =>
          cases n <;> simp only [Oper.upon] at h ⊢
          case value u => exact ⟨h.1, back _ _ _ (wx a u) (by rw [← pc]; exact h.2)⟩
          case skip => exact ⟨h.1, back _ _ _ (wx a _) (by rw [← pc]; exact h.2)⟩
          case defer d =>
            refine ⟨h.1, back _ _ _ ?_ ?_⟩
            · exact (wx _ _).trans rfl
            · rw [← pc, ← Act.put_defers]; exact h.2
          case enter f args =>
            refine Calls.mono h fun e w'' he => ?_
            cases e with
            | returned u => exact ⟨he.1, back _ _ _ (wx a u) (by rw [← pc]; exact he.2)⟩
            | panicked c => exact he
            | outgrown => exact he
          case row row args => exact Rows.mono h fun u w'' he => ⟨he.1, back _ _ _ (wx a u) (by rw [← pc]; exact he.2)⟩
        | halt y w' => cases y <;> simp only [Oper.upon] at h ⊢
  · -- the second one is left out
    rw [if_neg hwi]
    by_cases hwx : Region.wanted ox (yielded ops a.tmps) = true
    · rw [if_pos hwx] at h
      have hx' : ∀ u, Region.wanted ox (yielded ops (a.put oi.dst u).tmps) = true := fun u => by rw [wx]; exact hwx
      rw [stepS, hx]
      simp only [hx', if_true, ex]
      cases c0 : cls ox.op with
      | eff => exact absurd c0 hq
      | free =>
        simp only [c0] at h ⊢
        obtain ⟨v, hv, h⟩ := h
        rw [stepS, hi] at h
        simp only [wi, if_neg hwi] at h
        exact ⟨v, hv, by rw [← pc]; exact h⟩
      | read =>
        simp only [c0] at h ⊢
        obtain ⟨v, hv, h⟩ := h
        rw [stepS, hi] at h
        simp only [wi, if_neg hwi] at h
        exact ⟨v, hv, by rw [← pc]; exact h⟩
    · rw [if_neg hwx] at h
      rw [stepS, hi] at h
      simp only [wi, if_neg hwi] at h
      rw [stepS, hx]
      simp only [wx, if_neg hwx]
      rw [← pc]
      exact h


/-- The first step. -/
theorem wpOp_of_stepS {Q' : Exit → Act → World → Prop} {N : Held → Act → World → Prop} {i : Nat} {H : Held} {a : Act} {w : World} (h : stepS cls P ops un i N H a w) :
    wpOp P ops Q' i (fun a' w' => ∃ H', N H' a' w') a w := by
  unfold stepS at h
  unfold wpOp
  split at h
  · exact h.elim
  · rename_i o ho
    simp only [ho]
    split at h
    · rename_i hw
      rw [if_pos hw]
      refine .inl ?_
      unfold Oper.wp
      split at h
      · obtain ⟨v, h1, h2⟩ := h; rw [h1]; exact ⟨_, h2⟩
      · obtain ⟨v, h1, h2⟩ := h; rw [h1]; exact ⟨_, h2⟩
      · exact upon_mono (fun a w ⟨_, h2⟩ => ⟨_, h2⟩) (fun _ _ _ h => h.elim) h
    · rename_i hw; rw [if_neg hw]; exact ⟨_, h⟩

/-- may do anything? -/
def isEff (cls : Op → Cl) (ops : Array Oper) (i : Nat) : Bool :=
  match ops[i]? with
  | some o => match cls o.op with | .eff => true | _ => false
  | none => true

/-- The run in the order of a list, with f (not of the list) at every place. bf: who waits for f. -/
def wpA (cls : Op → Cl) (P : Program) (ops : Array Oper) (un : Nat → Nat → Bool) (Q : Act → World → Prop) (f : Nat) (bf : Nat → Bool) : List Nat → Held → Act → World → Prop
  | [], H, a, w => wpS cls P ops un Q [f] H a w
  | i :: r, H, a, w =>
    match bf i, isEff cls ops i with
    | true, _ => wpS cls P ops un Q (f :: i :: r) H a w
    | false, true => wpS cls P ops un Q (f :: i :: r) H a w ∧ stepS cls P ops un i (wpA cls P ops un Q f bf r) H a w
    | false, false => stepS cls P ops un i (wpA cls P ops un Q f bf r) H a w

/-- what is asked of the floating one -/
structure Floats (cls : Op → Cl) (ops : Array Oper) (un : Nat → Nat → Bool) (f : Nat) (bf : Nat → Bool) (x : Nat) : Prop where
  un : un x f = true
  ap : ∃ ox of, ops[x]? = some ox ∧ ops[f]? = some of ∧ cls ox.op ≠ .eff ∧ ox.apart ops of = true ∧ (∀ cs b, ox.op ≠ .select cs b) ∧ ∀ cs b, of.op ≠ .select cs b
variable {f : Nat} {bf : Nat → Bool}

theorem wpA_held : ∀ (l : List Nat) (H H' : Held) (a : Act) (w : World), (∀ x ∈ H', x ∈ H) → wpA cls P ops un Q f bf l H a w → wpA cls P ops un Q f bf l H' a w := by
  intro l
  induction l with
  | nil => intro H H' a w hs h; exact wpS_mono _ _ _ _ _ hs h
  | cons i r ih =>
    intro H H' a w hs h
    simp only [wpA] at h ⊢
    cases hb : bf i with
    | true => simp only [hb] at h ⊢; exact wpS_mono _ _ _ _ _ hs h
    | false =>
      cases he : isEff cls ops i with
      | true => simp only [hb, he] at h ⊢; exact ⟨wpS_mono _ _ _ _ _ hs h.1, stepS_held ih hs h.2⟩
      | false => simp only [hb, he] at h ⊢; exact stepS_held ih hs h

theorem wpS_swap' {x i : Nat} (h : ∃ ox oi, ops[x]? = some ox ∧ ops[i]? = some oi ∧ cls ox.op ≠ .eff ∧ ox.apart ops oi = true ∧ (∀ cs b, ox.op ≠ .select cs b) ∧ ∀ cs b, oi.op ≠ .select cs b) (hun : un x i = true) {r : List Nat} {H : Held} {a : Act} {w : World}
    (hh : wpS cls P ops un Q (x :: i :: r) H a w) : wpS cls P ops un Q (i :: x :: r) H a w := by
  obtain ⟨ox, oi, hx, hi, hq, hap, hsx, hsi⟩ := h
  exact wpS_swap hx hi hq hap hun hsx hsi r H a w hh

/-- f now -/
theorem wpA_now : ∀ (l : List Nat), (∀ x ∈ l, bf x = false → isEff cls ops x = false → Floats cls ops un f bf x) → ∀ (H : Held) (a : Act) (w : World), wpA cls P ops un Q f bf l H a w → wpS cls P ops un Q (f :: l) H a w := by
  intro l
  induction l with
  | nil => intro _ H a w h; exact h
  | cons i r ih =>
    intro hf H a w h
    simp only [wpA] at h
    cases hb : bf i with
    | true => simp only [hb] at h; exact h
    | false =>
      cases he : isEff cls ops i with
      | true => simp only [hb, he] at h; exact h.1
      | false =>
        simp only [hb, he] at h
        have g := hf i List.mem_cons_self hb he
        refine wpS_swap' g.ap g.un ?_
        rw [wpS_step]
        exact stepS_imp (fun H a w h => ih (fun x hx => hf x (List.mem_cons_of_mem _ hx)) H a w h) h

theorem isEff_of {x : Nat} {ox : Oper} (hx : ops[x]? = some ox) (hq : cls ox.op ≠ .eff) : isEff cls ops x = false := by
  unfold isEff
  cases hc : cls ox.op with
  | eff => exact absurd hc hq
  | free => simp only [hx, hc]
  | read => simp only [hx, hc]
/-- i comes ahead of all of a list that are quiet and not bound to it -/
theorem wpA_front {i : Nat} {oi : Oper} (hi : ops[i]? = some oi) (hsi : ∀ cs b, oi.op ≠ .select cs b) (hbi : bf i = false) (r : List Nat) : ∀ (l : List Nat),
    (∀ x ∈ l, un x i = true ∧ bf x = false ∧ ∃ ox, ops[x]? = some ox ∧ cls ox.op ≠ .eff ∧ ox.apart ops oi = true ∧ ∀ cs b, ox.op ≠ .select cs b) → (∀ x ∈ l, Floats cls ops un f bf x) →
    ∀ (H : Held) (a : Act) (w : World), wpA cls P ops un Q f bf (l ++ i :: r) H a w → wpA cls P ops un Q f bf (i :: (l ++ r)) H a w := by
  intro l
  induction l with
  | nil => intro _ _ H a w h; exact h
  | cons x l ih =>
    intro hl hfl H a w h
    obtain ⟨hun, hbx, ox, hx, hq, hap, hsx⟩ := hl x List.mem_cons_self
    have g := hfl x List.mem_cons_self
    have hex : isEff cls ops x = false := isEff_of hx hq
    have h : wpA cls P ops un Q f bf (x :: (l ++ i :: r)) H a w := h
    simp only [wpA, hbx, hex] at h
    have h := stepS_imp (ih (fun y hy => hl y (List.mem_cons_of_mem _ hy)) fun y hy => hfl y (List.mem_cons_of_mem _ hy)) h
    have sw : ∀ {H : Held} {a : Act} {w : World}, wpS cls P ops un Q (x :: i :: (l ++ r)) H a w → wpS cls P ops un Q (i :: x :: (l ++ r)) H a w := fun h => wpS_swap hx hi hq hap hun hsx hsi _ _ _ _ h
    show wpA cls P ops un Q f bf (i :: x :: (l ++ r)) H a w
    have two : ∀ {N : Held → Act → World → Prop}, (∀ H H' a w, (∀ y ∈ H', y ∈ H) → N H a w → N H' a w) → stepS cls P ops un x (stepS cls P ops un i N) H a w → stepS cls P ops un i (stepS cls P ops un x N) H a w := fun hN h => stepS_swap hN hx hi hq hap hun hsx hsi _ _ _ h
    have xr : ∀ H a w, stepS cls P ops un x (wpA cls P ops un Q f bf (l ++ r)) H a w → wpA cls P ops un Q f bf (x :: (l ++ r)) H a w := fun H a w h => by simp only [wpA, hbx, hex]; exact h
    cases hei : isEff cls ops i with
    | true =>
      simp only [wpA, hbi, hei] at h ⊢
      refine ⟨?_, ?_⟩
      · have h1 : wpS cls P ops un Q (x :: f :: i :: (l ++ r)) H a w := by
          rw [wpS_step]; exact stepS_imp (fun _ _ _ h => h.1) h
        have h2 := wpS_swap' g.ap g.un h1
        exact wpS_cons f (fun _ _ _ h => sw h) _ _ _ h2
      · have := two (N := wpA cls P ops un Q f bf (l ++ r)) (fun H H' a w hs h => wpA_held _ _ _ _ _ hs h) (stepS_imp (fun _ _ _ h => h.2) h)
        have := stepS_imp xr this
        simpa only [wpA, hbx, hex] using this
    | false =>
      simp only [wpA, hbi, hei] at h ⊢
      have := two (N := wpA cls P ops un Q f bf (l ++ r)) (fun H H' a w hs h => wpA_held _ _ _ _ _ hs h) h
      have := stepS_imp xr this
      simpa only [wpA, hbx, hex] using this
end

/-- f waits for nothing; those that do not wait for it stand ahead, and the quiet ones of them have no slot in common with it -/
def floatOk (cls : Op → Cl) (ops : Array Oper) (B : Nat → Nat) (f : Nat) : List Nat → Bool
  | [] => true
  | x :: r => !(B f).testBit x && (match (B x).testBit f with
      | true => r.all fun y => (B y).testBit f
      | false => match isEff cls ops x with
        | true => true
        | false => match ops[x]?, ops[f]? with | some ox, some of => ox.apart ops of | _, _ => false) && floatOk cls ops B f r

section
variable {cls : Op → Cl} {P : Program} {ops : Array Oper} {B : Nat → Nat} {Q : Act → World → Prop} {f : Nat}

theorem floatOk_mem (hN : noSel ops = true) {of : Oper} (hof : ops[f]? = some of) : ∀ {l : List Nat}, floatOk cls ops B f l = true → ∀ x ∈ l, (B x).testBit f = false → isEff cls ops x = false → Floats cls ops (fun x i => !(B i).testBit x) f (fun i => (B i).testBit f) x
  | y :: r, h, x, hx, hb, he => by
    simp only [floatOk, Bool.and_eq_true] at h
    rcases List.mem_cons.1 hx with rfl | hx
    · obtain ⟨⟨h1, h2⟩, _⟩ := h
      simp only [hb, he] at h2
      cases hox : ops[x]? with
      | none => simp only [hox] at h2; exact absurd h2 (by simp)
      | some ox =>
        simp only [hox, hof] at h2
        refine ⟨h1, ox, of, hox, hof, fun hc => ?_, h2, noSel_spec hN hox, noSel_spec hN hof⟩
        unfold isEff at he
        simp only [hox, hc] at he
        exact absurd he (by simp)
    · exact floatOk_mem hN hof h.2 x hx hb he
theorem floatOk_split {l : List Nat} {i : Nat} {r : List Nat} (h : floatOk cls ops B f (l ++ i :: r) = true) (hi : (B i).testBit f = false) : (∀ x ∈ l, (B x).testBit f = false) ∧ floatOk cls ops B f (l ++ r) = true := by
  induction l with
  | nil => simp only [List.nil_append, floatOk, Bool.and_eq_true] at h; exact ⟨(fun _ h => by cases h), h.2⟩
  | cons y l ih =>
    simp only [List.cons_append, floatOk, Bool.and_eq_true] at h
    obtain ⟨⟨h1, h2⟩, h3⟩ := h
    obtain ⟨g1, g2⟩ := ih h3
    have hy : (B y).testBit f = false := by
      cases hy : (B y).testBit f with
      | false => rfl
      | true =>
        simp only [hy] at h2
        have := List.all_eq_true.1 h2 i (List.mem_append_right _ List.mem_cons_self)
        rw [hi] at this; exact absurd this (by simp)
    refine ⟨fun x hx => ?_, ?_⟩
    · rcases List.mem_cons.1 hx with rfl | hx
      · exact hy
      · exact g1 x hx
    · simp only [List.cons_append, floatOk, Bool.and_eq_true]
      exact ⟨⟨h1, by simp only [hy] at h2 ⊢; exact h2⟩, g2⟩

/-- what is known of the rest, the pairs left out -/
structure Inv0 (ops : Array Oper) (B : Nat → Nat) (listed : Array Bool) (ρ : List Nat) : Prop where
  here : ∀ i, i < ops.size → (listed.getD i false = true ∨ i ∈ ρ)
  not : ∀ i, i ∈ ρ → listed.getD i false = false ∧ i < ops.size
  nodup : ρ.Nodup
  size : listed.size = ops.size
  down : ∀ i x, listed.getD i false = true → (B i).testBit x = true → x < ops.size → listed.getD x false = true

theorem ready_of {listed : Array Bool} {ρ : List Nat} {i : Nat} (inv : Inv0 ops B listed ρ) (h : i ∈ Region.ready .any ops listed) : i ∈ ρ ∧ ∃ o, ops[i]? = some o ∧ ∀ e ∈ o.after, Region.binds .any e = true → listed.getD e.on false = true := by
  obtain ⟨h1, o, ho, h2⟩ := mem_ready.1 h
  have hi : i < ops.size := (Array.getElem?_eq_some_iff.1 ho).1
  refine ⟨(inv.here i hi).resolve_left fun hh => ?_, o, ho, h2⟩
  have : i < listed.size := by rw [inv.size]; exact hi
  simp [Array.getD, this] at hh h1
  rw [hh] at h1; exact absurd h1 (by simp)

/-- what is bound ahead of one that is ready is listed -/
theorem bound_of (hB : boundsOk ops B = true) {listed : Array Bool} {ρ : List Nat} (inv : Inv0 ops B listed ρ) {i : Nat} {o : Oper} (ho : ops[i]? = some o) (hpre : ∀ e ∈ o.after, Region.binds .any e = true → listed.getD e.on false = true) :
    ∀ x, (B i).testBit x = true → x < ops.size → listed.getD x false = true := by
  intro x hx hxs
  have hi' : i < ops.size := (Array.getElem?_eq_some_iff.1 ho).1
  have := List.all_eq_true.1 (List.all_eq_true.1 hB i (List.mem_range.2 hi')) x (List.mem_range.2 hxs)
  simp only [hx, Bool.not_true, Bool.false_or, ho, Option.map_some, Option.getD_some, List.any_eq_true, Bool.and_eq_true, Bool.or_eq_true] at this
  obtain ⟨e, he, hb, hc⟩ := this
  have hle := hpre e (by simpa using he) hb
  rcases hc with hc | hc
  · have : e.on = x := Nat.eq_of_beq_eq_true hc
    rw [← this]; exact hle
  · exact inv.down e.on x hle hc hxs

/-- one more is listed -/
theorem Inv0.put (hB : boundsOk ops B = true) {listed : Array Bool} {l r : List Nat} {i : Nat} {o : Oper} (inv : Inv0 ops B listed (l ++ i :: r)) (ho : ops[i]? = some o) (hpre : ∀ e ∈ o.after, Region.binds .any e = true → listed.getD e.on false = true) :
    Inv0 ops B (listed.setIfInBounds i true) (l ++ r) := by
  have hbound := bound_of hB inv ho hpre
  have hi' : i < ops.size := (Array.getElem?_eq_some_iff.1 ho).1
  have hil : i < listed.size := by rw [inv.size]; exact hi'
  have hset : ∀ j, (listed.setIfInBounds i true).getD j false = true ↔ (j = i ∨ listed.getD j false = true) := by
    intro j
    by_cases hj : i = j
    · subst hj; simp [Array.getD, hil]
    · rw [getD_set_ne false hj]; simp [Ne.symm hj]
  have hnd : i ∉ l ++ r := by
    have := inv.nodup
    rw [List.nodup_append] at this
    obtain ⟨h1, h2, h3⟩ := this
    rw [List.nodup_cons] at h2
    intro hm
    rcases List.mem_append.1 hm with hm | hm
    · exact h3 i hm i List.mem_cons_self rfl
    · exact h2.1 hm
  refine ⟨?_, ?_, ?_, by simp [inv.size], ?_⟩
  · intro j hj
    rcases inv.here j hj with h | h
    · exact .inl ((hset j).2 (.inr h))
    · by_cases hji : j = i
      · exact .inl ((hset j).2 (.inl hji))
      · refine .inr ?_
        rcases List.mem_append.1 h with h | h
        · exact List.mem_append_left _ h
        · exact List.mem_append_right _ ((List.mem_cons.1 h).resolve_left hji)
  · intro j hj
    have hji : j ≠ i := fun e => hnd (e ▸ hj)
    have hjm : j ∈ l ++ i :: r := by
      rcases List.mem_append.1 hj with h | h
      · exact List.mem_append_left _ h
      · exact List.mem_append_right _ (List.mem_cons_of_mem _ h)
    obtain ⟨h1, h2⟩ := inv.not j hjm
    refine ⟨?_, h2⟩
    cases hc : (listed.setIfInBounds i true).getD j false with
    | false => rfl
    | true =>
      rcases (hset j).1 hc with h | h
      · exact absurd h hji
      · rw [h1] at h; exact absurd h (by simp)
  · have := inv.nodup
    rw [List.nodup_append] at this ⊢
    obtain ⟨h1, h2, h3⟩ := this
    rw [List.nodup_cons] at h2
    exact ⟨h1, h2.2, fun x hx y hy => h3 x hx y (List.mem_cons_of_mem _ hy)⟩
  · intro j x hj hx hxs
    rcases (hset j).1 hj with h | h
    · subst h; exact (hset x).2 (.inr (hbound x hx hxs))
    · exact (hset x).2 (.inr (inv.down j x h hx hxs))

theorem wpAny_of_wpA (hB : boundsOk ops B = true) (hE : edgesIn ops = true) (hN : noSel ops = true) {of : Oper} (hof : ops[f]? = some of) (hfe : of.after.toList.all (fun e => !Region.binds .any e) = true) {Q' : Exit → Act → World → Prop} (hQ : ∀ a w, Q a w → Q' .normal a w) :
    ∀ (fuel : Nat) (listed : Array Bool) (ρ : List Nat) (H : Held) (a : Act) (w : World), ρ.length + 1 = fuel → Inv0 ops B listed (f :: ρ) → pairsOk cls ops B ρ = true → floatOk cls ops B f ρ = true →
      wpA cls P ops (fun x i => !(B i).testBit x) Q f (fun i => (B i).testBit f) ρ H a w → wpAny P .any ops Q' fuel listed a w := by
  intro fuel
  induction fuel with
  | zero => intro listed ρ H a w hl; omega
  | succ fuel ih =>
    intro listed ρ H a w hl inv hpairs hfl h
    have hfs := (inv.not f List.mem_cons_self)
    have hf0 : ∀ e ∈ of.after, Region.binds .any e = true → listed.getD e.on false = true := fun e he hb => by
      have := List.all_eq_true.1 hfe e (by simpa using he)
      rw [hb] at this; exact absurd this (by simp)
    have hfl' : f < listed.size := by rw [inv.size]; exact hfs.2
    refine ⟨fun hr => ?_, fun i hi => ?_⟩
    · have : f ∈ Region.ready .any ops listed := mem_ready.2 ⟨by simpa [Array.getD, hfl'] using hfs.1, of, hof, hf0⟩
      rw [hr] at this; exact absurd this (by simp)
    obtain ⟨him, o, ho, hpre⟩ := ready_of inv hi
    by_cases hif : i = f
    · subst hif
      have inv' : Inv0 ops B (listed.setIfInBounds i true) ([] ++ ρ) := Inv0.put (l := []) hB inv ho hpre
      have now := wpA_now ρ (floatOk_mem hN hof hfl) H a w h
      refine wpOp_mono (fun a' w' ⟨H', hh⟩ => ?_) (wpOp_of_wpS now)
      exact wpAny_of_wpS hB hE hN hQ fuel _ ρ H' a' w' (by omega) ⟨hpairs, inv'.here, inv'.not, inv'.nodup, inv'.size, inv'.down⟩ hh
    have him : i ∈ ρ := (List.mem_cons.1 him).resolve_left hif
    obtain ⟨l, r, rfl⟩ := List.append_of_mem him
    have hfi : (B i).testBit f = false := by
      cases hb : (B i).testBit f with
      | false => rfl
      | true => rw [bound_of hB inv ho hpre f hb hfs.2] at hfs; exact absurd hfs.1 (by simp)
    obtain ⟨hlf, hfl''⟩ := floatOk_split hfl hfi
    have inv' : Inv0 ops B listed ((f :: l) ++ i :: r) := inv
    obtain ⟨hpi, hpr, _⟩ := pairsOk_split hpairs
    have hbound := bound_of hB inv ho hpre
    have hall : ∀ x ∈ l, (fun x i => !(B i).testBit x) x i = true ∧ (fun i => (B i).testBit f) x = false ∧ ∃ ox, ops[x]? = some ox ∧ cls ox.op ≠ .eff ∧ ox.apart ops o = true ∧ ∀ cs b, ox.op ≠ .select cs b := fun x hx => by
      have hxm := inv'.not x (List.mem_append_left _ (List.mem_cons_of_mem _ hx))
      have hp := hpi x hx
      have hxo : ops[x]? = some ops[x] := by simp [hxm.2]
      simp only [pairOk, hxo, ho, Bool.and_eq_true, Bool.or_eq_true] at hp
      have hnb : (B i).testBit x = false := by
        cases hb : (B i).testBit x with
        | false => rfl
        | true => rw [hbound x hb hxm.2] at hxm; exact absurd hxm.1 (by simp)
      refine ⟨by simp [hnb], hlf x hx, ops[x], hxo, ?_, ?_, noSel_spec hN hxo⟩
      · rcases hp.2 with h | h
        · rw [hnb] at h; exact absurd h (by simp)
        · intro hc; rw [hc] at h; simp at h
      · rcases hp.2 with h | h
        · rw [hnb] at h; exact absurd h (by simp)
        · exact h.2
    have hfloat : ∀ x ∈ l, Floats cls ops (fun x i => !(B i).testBit x) f (fun i => (B i).testBit f) x := fun x hx => by
      refine floatOk_mem hN hof hfl x (List.mem_append_left _ hx) (hlf x hx) ?_
      obtain ⟨_, _, ox, hox, hq, _⟩ := hall x hx
      exact isEff_of hox hq
    have hfront := wpA_front (P := P) (Q := Q) ho (noSel_spec hN ho) hfi r l hall hfloat H a w h
    have hstep : stepS cls P ops (fun x i => !(B i).testBit x) i (wpA cls P ops (fun x i => !(B i).testBit x) Q f (fun i => (B i).testBit f) (l ++ r)) H a w := by
      simp only [wpA, hfi] at hfront
      cases he : isEff cls ops i with
      | true => simp only [he] at hfront; exact hfront.2
      | false => simp only [he] at hfront; exact hfront
    refine wpOp_mono (fun a' w' ⟨H', hh⟩ => ?_) (wpOp_of_stepS hstep)
    exact ih _ (l ++ r) H' a' w' (by simp at hl ⊢; omega) (Inv0.put (l := f :: l) hB inv' ho hpre) hpr hfl'' hh

/-- the whole check: f floats, the rest in this order -/
def orderF (cls : Op → Cl) (ops : Array Oper) (B : Nat → Nat) (f : Nat) (ρ : List Nat) : Bool :=
  boundsOk ops B && edgesIn ops && noSel ops && onceOk ops.size (f :: ρ) && pairsOk cls ops B ρ && floatOk cls ops B f ρ && (match ops[f]? with | some o => o.after.toList.all (fun e => !Region.binds .any e) | none => false) && !ρ.contains f

theorem pairs_nodup : ∀ l : List Nat, pairsOk cls ops B l = true → l.Nodup := by
  intro l
  induction l with
  | nil => intro _; exact List.nodup_nil
  | cons x r ih =>
    intro h
    simp only [pairsOk, Bool.and_eq_true] at h
    refine List.nodup_cons.2 ⟨fun hx => ?_, ih h.2⟩
    have := List.all_eq_true.1 h.1.2 x hx
    unfold pairOk at this
    split at this
    · simp at this
    · simp at this

/-- A region that draws its order, with one that floats. -/
theorem wp_region_float {id : Nat} {a : Act} {w : World} {ρ : List Nat} (hm : P.follows .mixedOrders = true) (hok : orderF cls ops B f ρ = true) {Q' : Exit → Act → World → Prop}
    (hQ : ∀ a w, Q a w → Q' .normal a w) (h : wpA cls P ops (fun x i => !(B i).testBit x) Q f (fun i => (B i).testBit f) ρ [] a { w with drawn := w.drawn + 1 }) : (Code.region id ops true).wp P Q' a w := by
  simp only [orderF, Bool.and_eq_true] at hok
  obtain ⟨⟨⟨⟨⟨⟨⟨hB, hE⟩, hN⟩, hO⟩, hP⟩, hfl⟩, hfe⟩, hnf⟩ := hok
  simp only [onceOk, Bool.and_eq_true] at hO
  have hlen : (f :: ρ).length = ops.size := Nat.eq_of_beq_eq_true hO.1.1
  have hmem : ∀ i, i < ops.size → i ∈ f :: ρ := fun i hi => by simpa using List.all_eq_true.1 hO.2 i (List.mem_range.2 hi)
  have hlt : ∀ i ∈ f :: ρ, i < ops.size := fun i hi => by simpa using List.all_eq_true.1 hO.1.2 i hi
  have hf : f < ops.size := hlt f List.mem_cons_self
  have hof : ops[f]? = some ops[f] := by simp [hf]
  rw [hof] at hfe
  refine wp_region_any hm (wpAny_of_wpA (of := ops[f]) hB hE hN hof hfe hQ ops.size _ ρ [] a _ (by simpa using hlen) ⟨fun i hi => .inr (hmem i hi), fun i hi => ⟨?_, hlt i hi⟩, List.nodup_cons.2 ⟨fun hc => ?_, pairs_nodup ρ hP⟩, by simp, ?_⟩ hP hfl h)
  · simp [Array.getD]
  · rw [List.contains_iff_mem.2 hc] at hnf; exact absurd hnf (by simp)
  · intro i x hi
    simp [Array.getD] at hi
end
#print axioms wp_region_float
end Go.Vx
