/-
  A region that draws its order: one canonical order serves for all. What is proved: a run of the operations in one order that keeps the edges, in which each operation that is not bound to one ahead of it is quiet (it turns no memory and answers the same), gives a run in every order.
  Conditions: no operation panics; reads that are not bound to a writing operation answer the same behind it.
-/
import Derived.Orders
set_option linter.unusedSimpArgs false
set_option linter.unusedVariables false
namespace Go.Vx
open Go

/-- How an operation is treated: it does not look at memory; it reads; it may do anything. -/
inductive Cl where
  | free | read | eff

/-- What is held: which operation, what it would run, what it answered. -/
abbrev Held := List (Nat × Sem Next × Value)

/-- the held reads that are not bound to operation i answer what they answered -/
def keepsH (P : Program) (un : Nat → Nat → Bool) (i : Nat) (H : Held) (w : World) : Prop :=
  ∀ x ∈ H, un x.1 i = true → x.2.1.run P w = .ok (.value x.2.2) w

/-- The run in the order of a list, with what is asked of the reads. -/
def wpS (cls : Op → Cl) (P : Program) (ops : Array Oper) (un : Nat → Nat → Bool) (Q : Act → World → Prop) : List Nat → Held → Act → World → Prop
  | [], _, a, w => Q a w
  | i :: r, H, a, w =>
    match ops[i]? with
    | none => False
    | some o =>
      if Region.wanted o (yielded ops a.tmps) = true then
        match cls o.op with
        | .free => ∃ v, (∀ w', (execOp a.eval o).run P w' = .ok (.value v) w') ∧ wpS cls P ops un Q r H (a.put o.dst v) w
        | .read => ∃ v, (execOp a.eval o).run P w = .ok (.value v) w ∧ wpS cls P ops un Q r ((i, execOp a.eval o, v) :: H) (a.put o.dst v) w
        | .eff => o.upon P a (fun a' w' => keepsH P un i H w' ∧ wpS cls P ops un Q r H a' w') (fun _ _ _ => False) ((execOp a.eval o).run P w)
      else wpS cls P ops un Q r H (a.put o.dst undef) w

section
variable {cls : Op → Cl} {P : Program} {ops : Array Oper} {un : Nat → Nat → Bool} {Q : Act → World → Prop}

theorem upon_mono {o : Oper} {a : Act} {N N' : Act → World → Prop} {Q Q' : Exit → Act → World → Prop} {r : Result Next} (hN : ∀ a w, N a w → N' a w) (hQ : ∀ e a w, Q e a w → Q' e a w)
    (h : o.upon P a N Q r) : o.upon P a N' Q' r := by
  cases r with
  | ok n w' =>
    cases n <;> simp only [Oper.upon] at h ⊢ <;>
      first
        | exact hN _ _ h
        | exact Calls.mono h (fun e w'' he => by cases e <;> first | exact hN _ _ he | exact hQ _ _ _ he | (obtain ⟨a, w, h⟩ := he; exact ⟨a, w, hQ _ _ _ h⟩))
        | exact Rows.mono h (fun _ _ he => hN _ _ he)
  | halt x w' => cases x <;> simp only [Oper.upon] at h ⊢ <;> exact hQ _ _ _ h

theorem keepsH_mono {i : Nat} {H H' : Held} {w : World} (hs : ∀ x ∈ H', x ∈ H) (h : keepsH P un i H w) : keepsH P un i H' w :=
  fun x hx hu => h x (hs x hx) hu

theorem wpS_mono : ∀ (l : List Nat) (H H' : Held) (a : Act) (w : World), (∀ x ∈ H', x ∈ H) → wpS cls P ops un Q l H a w → wpS cls P ops un Q l H' a w := by
  intro l
  induction l with
  | nil => intro H H' a w _ h; exact h
  | cons i r ih =>
    intro H H' a w hs h
    simp only [wpS] at h ⊢
    split at h
    · exact h
    · rename_i o ho
      split at h
      · rename_i hw
        rw [if_pos hw]
        split at h
        · obtain ⟨v, h1, h2⟩ := h; exact ⟨v, h1, ih _ _ _ _ hs h2⟩
        · obtain ⟨v, h1, h2⟩ := h
          refine ⟨v, h1, ih _ _ _ _ (fun x hx => ?_) h2⟩
          rcases List.mem_cons.1 hx with rfl | hx
          · exact List.mem_cons_self
          · exact List.mem_cons_of_mem _ (hs x hx)
        · exact upon_mono (fun a w ⟨h1, h2⟩ => ⟨keepsH_mono hs h1, ih _ _ _ _ hs h2⟩) (fun _ _ _ h => h) h
      · rename_i hw; rw [if_neg hw]; exact ih _ _ _ _ hs h

theorem wpS_imp {Q' : Act → World → Prop} (hQ : ∀ a w, Q a w → Q' a w) : ∀ (l : List Nat) (H : Held) (a : Act) (w : World), wpS cls P ops un Q l H a w → wpS cls P ops un Q' l H a w := by
  intro l
  induction l with
  | nil => intro H a w h; exact hQ _ _ h
  | cons i r ih =>
    intro H a w h
    simp only [wpS] at h ⊢
    split at h
    · exact h
    · split at h
      · rename_i hw
        rw [if_pos hw]
        split at h
        · obtain ⟨v, h1, h2⟩ := h; exact ⟨v, h1, ih _ _ _ h2⟩
        · obtain ⟨v, h1, h2⟩ := h; exact ⟨v, h1, ih _ _ _ h2⟩
        · exact upon_mono (fun a w ⟨h1, h2⟩ => ⟨h1, ih _ _ _ h2⟩) (fun _ _ _ h => h) h
      · rename_i hw; rw [if_neg hw]; exact ih _ _ _ h

/-- What holds of the rest holds behind the first. -/
theorem wpS_cons {l l' : List Nat} (x : Nat) (h : ∀ H a w, wpS cls P ops un Q l H a w → wpS cls P ops un Q l' H a w) (H : Held) (a : Act) (w : World)
    (hh : wpS cls P ops un Q (x :: l) H a w) : wpS cls P ops un Q (x :: l') H a w := by
  simp only [wpS] at hh ⊢
  split at hh
  · exact hh
  · split at hh
    · rename_i hw
      rw [if_pos hw]
      split at hh
      · obtain ⟨v, h1, h2⟩ := hh; exact ⟨v, h1, h _ _ _ h2⟩
      · obtain ⟨v, h1, h2⟩ := hh; exact ⟨v, h1, h _ _ _ h2⟩
      · exact upon_mono (fun a w ⟨h1, h2⟩ => ⟨h1, h _ _ _ h2⟩) (fun _ _ _ h => h) hh
    · rename_i hw; rw [if_neg hw]; exact h _ _ _ hh

/-- Two neighbours change places: the first is quiet, and the two have no slot in common. -/
theorem wpS_swap {x i : Nat} {ox oi : Oper} (hx : ops[x]? = some ox) (hi : ops[i]? = some oi) (hq : cls ox.op ≠ .eff) (hap : ox.apart ops oi = true) (hun : un x i = true)
    (hsx : ∀ cs b, ox.op ≠ .select cs b) (hsi : ∀ cs b, oi.op ≠ .select cs b) (r : List Nat) (H : Held) (a : Act) (w : World)
    (h : wpS cls P ops un Q (x :: i :: r) H a w) : wpS cls P ops un Q (i :: x :: r) H a w := by
  obtain ⟨h1, h2, h3⟩ := Oper.apart_spec hap
  have ei : ∀ (a : Act) v, execOp (a.put ox.dst v).eval oi = execOp a.eval oi := fun a v => execOp_put oi hsi a ox.dst v h1
  have wi : ∀ (a : Act) v, Region.wanted oi (yielded ops (a.put ox.dst v).tmps) = Region.wanted oi (yielded ops a.tmps) := fun a v => wanted_put oi a ox.dst v h1
  have ex : ∀ (a : Act) v, execOp (a.put oi.dst v).eval ox = execOp a.eval ox := fun a v => execOp_put ox hsx a oi.dst v h3
  have wx : ∀ (a : Act) v, Region.wanted ox (yielded ops (a.put oi.dst v).tmps) = Region.wanted ox (yielded ops a.tmps) := fun a v => wanted_put ox a oi.dst v h3
  have pc : ∀ (a : Act) v u, (a.put ox.dst v).put oi.dst u = (a.put oi.dst u).put ox.dst v := fun a v u => (Act.put_comm a v u h2)
  rw [wpS, hx] at h
  rw [wpS, hi]
  simp only at h ⊢
  by_cases hwi : Region.wanted oi (yielded ops a.tmps) = true
  · rw [if_pos hwi]
    by_cases hwx : Region.wanted ox (yielded ops a.tmps) = true
    · rw [if_pos hwx] at h
      cases c0 : cls ox.op with
      | eff => exact absurd c0 hq
      | free =>
        -- the first one does not look at memory
        simp only [c0] at h
        obtain ⟨v, hv, h⟩ := h
        rw [wpS, hi] at h
        simp only [wi, hwi, if_true, ei] at h
        have back : ∀ (a' : Act) (w' : World) (H' : Held), (execOp a'.eval ox = execOp a.eval ox) → (Region.wanted ox (yielded ops a'.tmps) = Region.wanted ox (yielded ops a.tmps)) →
            wpS cls P ops un Q r H' (a'.put ox.dst v) w' → wpS cls P ops un Q (x :: r) H' a' w' := by
          intro a' w' H' he hw' hh
          rw [wpS, hx]
          simp only [hw', hwx, if_true, c0, he]
          exact ⟨v, hv, hh⟩
        split at h
        · obtain ⟨u, hu, h⟩ := h
          exact ⟨u, hu, back _ _ _ (ex a u) (wx a u) (by rw [← pc]; exact h)⟩
        · obtain ⟨u, hu, h⟩ := h
          exact ⟨u, hu, back _ _ _ (ex a u) (wx a u) (by rw [← pc]; exact h)⟩
        · generalize (execOp a.eval oi).run P w = res at h ⊢
          cases res with
          | ok n w' =>
            cases n <;> simp only [Oper.upon] at h ⊢
            case value u => exact ⟨h.1, back _ _ _ (ex a u) (wx a u) (by rw [← pc]; exact h.2)⟩
            case skip => exact ⟨h.1, back _ _ _ (ex a _) (wx a _) (by rw [← pc]; exact h.2)⟩
            case defer d =>
              refine ⟨h.1, back _ _ _ ?_ ?_ ?_⟩
              · exact (ex _ _).trans rfl
              · exact (wx _ _).trans rfl
              · rw [← pc, ← Act.put_defers]; exact h.2
            case enter f args =>
              refine Calls.mono h fun e w'' he => ?_
              cases e with
              | returned u => exact ⟨he.1, back _ _ _ (ex a u) (wx a u) (by rw [← pc]; exact he.2)⟩
              | panicked c => exact he
              | outgrown => exact he
            case row row args => exact Rows.mono h fun u w'' he => ⟨he.1, back _ _ _ (ex a u) (wx a u) (by rw [← pc]; exact he.2)⟩
          | halt y w' => cases y <;> simp only [Oper.upon] at h ⊢
      | read =>
        -- the first one reads
        have c1 := c0
        simp only [c1] at h
        obtain ⟨v, hv, h⟩ := h
        rw [wpS, hi] at h
        simp only [wi, hwi, if_true, ei] at h
        have back : ∀ (a' : Act) (w' : World) (H' : Held), (execOp a'.eval ox = execOp a.eval ox) → (Region.wanted ox (yielded ops a'.tmps) = Region.wanted ox (yielded ops a.tmps)) →
            (execOp a.eval ox).run P w' = .ok (.value v) w' →
            wpS cls P ops un Q r ((x, execOp a.eval ox, v) :: H') (a'.put ox.dst v) w' → wpS cls P ops un Q (x :: r) H' a' w' := by
          intro a' w' H' he hw' hr hh
          rw [wpS, hx]
          simp only [hw', hwx, if_true, c1, he]
          exact ⟨v, hr, hh⟩
        have own : ∀ w', keepsH P un i ((x, execOp a.eval ox, v) :: H) w' → (execOp a.eval ox).run P w' = .ok (.value v) w' := fun w' hk => hk _ List.mem_cons_self hun
        have rest : ∀ w', keepsH P un i ((x, execOp a.eval ox, v) :: H) w' → keepsH P un i H w' := fun w' hk => keepsH_mono (fun y hy => List.mem_cons_of_mem _ hy) hk
        split at h
        · obtain ⟨u, hu, h⟩ := h
          exact ⟨u, hu, back _ _ _ (ex a u) (wx a u) hv (by rw [← pc]; exact h)⟩
        · obtain ⟨u, hu, h⟩ := h
          refine ⟨u, hu, back _ _ _ (ex a u) (wx a u) hv ?_⟩
          rw [← pc]
          exact wpS_mono _ _ _ _ _ (fun y hy => by
            rcases List.mem_cons.1 hy with rfl | hy
            · exact List.mem_cons_of_mem _ List.mem_cons_self
            · rcases List.mem_cons.1 hy with rfl | hy
              · exact List.mem_cons_self
              · exact List.mem_cons_of_mem _ (List.mem_cons_of_mem _ hy)) h
        · generalize (execOp a.eval oi).run P w = res at h ⊢
          cases res with
          | ok n w' =>
            cases n <;> simp only [Oper.upon] at h ⊢
            case value u => exact ⟨rest _ h.1, back _ _ _ (ex a u) (wx a u) (own _ h.1) (by rw [← pc]; exact h.2)⟩
            case skip => exact ⟨rest _ h.1, back _ _ _ (ex a _) (wx a _) (own _ h.1) (by rw [← pc]; exact h.2)⟩
            case defer d =>
              refine ⟨rest _ h.1, back _ _ _ ?_ ?_ (own _ h.1) ?_⟩
              · exact (ex _ _).trans rfl
              · exact (wx _ _).trans rfl
              · rw [← pc, ← Act.put_defers]; exact h.2
            case enter f args =>
              refine Calls.mono h fun e w'' he => ?_
              cases e with
              | returned u => exact ⟨rest _ he.1, back _ _ _ (ex a u) (wx a u) (own _ he.1) (by rw [← pc]; exact he.2)⟩
              | panicked c => exact he
              | outgrown => exact he
            case row row args => exact Rows.mono h fun u w'' he => ⟨rest _ he.1, back _ _ _ (ex a u) (wx a u) (own _ he.1) (by rw [← pc]; exact he.2)⟩
          | halt y w' => cases y <;> simp only [Oper.upon] at h ⊢
    · -- the first one is left out
      rw [if_neg hwx] at h
      rw [wpS, hi] at h
      simp only [wi, hwi, if_true, ei] at h
      have back : ∀ (a' : Act) (w' : World) (H' : Held), (Region.wanted ox (yielded ops a'.tmps) = Region.wanted ox (yielded ops a.tmps)) →
          wpS cls P ops un Q r H' (a'.put ox.dst undef) w' → wpS cls P ops un Q (x :: r) H' a' w' := by
        intro a' w' H' hw' hh
        rw [wpS, hx]
        simp only [hw', if_neg hwx]
        exact hh
      split at h
      · obtain ⟨u, hu, h⟩ := h
        exact ⟨u, hu, back _ _ _ (wx a u) (by rw [← pc]; exact h)⟩
      · obtain ⟨u, hu, h⟩ := h
        exact ⟨u, hu, back _ _ _ (wx a u) (by rw [← pc]; exact h)⟩
      · generalize (execOp a.eval oi).run P w = res at h ⊢
        cases res with
        | ok n w' =>
          cases n <;> simp only [Oper.upon] at h ⊢
          case value u => exact ⟨h.1, back _ _ _ (wx a u) (by rw [← pc]; exact h.2)⟩
          case skip => exact ⟨h.1, back _ _ _ (wx a _) (by rw [← pc]; exact h.2)⟩
          case defer d =>
            refine ⟨h.1, back _ _ _ ?_ ?_⟩
            · exact (wx _ _).trans rfl
            · rw [← pc, ← Act.put_defers]; exact h.2
          case enter f args =>
            refine Calls.mono h fun e w'' he => ?_
            cases e with
            | returned u => exact ⟨he.1, back _ _ _ (wx a u) (by rw [← pc]; exact he.2)⟩
            | panicked c => exact he
            | outgrown => exact he
          case row row args => exact Rows.mono h fun u w'' he => ⟨he.1, back _ _ _ (wx a u) (by rw [← pc]; exact he.2)⟩
        | halt y w' => cases y <;> simp only [Oper.upon] at h ⊢
  · -- the second one is left out
    rw [if_neg hwi]
    by_cases hwx : Region.wanted ox (yielded ops a.tmps) = true
    · rw [if_pos hwx] at h
      have hx' : ∀ u, Region.wanted ox (yielded ops (a.put oi.dst u).tmps) = true := fun u => by rw [wx]; exact hwx
      rw [wpS, hx]
      simp only [hx', if_true, ex]
      cases c0 : cls ox.op with
      | eff => exact absurd c0 hq
      | free =>
        simp only [c0] at h ⊢
        obtain ⟨v, hv, h⟩ := h
        rw [wpS, hi] at h
        simp only [wi, if_neg hwi] at h
        exact ⟨v, hv, by rw [← pc]; exact h⟩
      | read =>
        simp only [c0] at h ⊢
        obtain ⟨v, hv, h⟩ := h
        rw [wpS, hi] at h
        simp only [wi, if_neg hwi] at h
        exact ⟨v, hv, by rw [← pc]; exact h⟩
    · rw [if_neg hwx] at h
      rw [wpS, hi] at h
      simp only [wi, if_neg hwi] at h
      rw [wpS, hx]
      simp only [wx, if_neg hwx]
      rw [← pc]
      exact h

/-- i comes ahead of all of a list that are quiet and not bound to it. -/
theorem wpS_front {i : Nat} {oi : Oper} (hi : ops[i]? = some oi) (hsi : ∀ cs b, oi.op ≠ .select cs b) (r : List Nat) : ∀ (l : List Nat),
    (∀ x ∈ l, un x i = true ∧ ∃ ox, ops[x]? = some ox ∧ cls ox.op ≠ .eff ∧ ox.apart ops oi = true ∧ ∀ cs b, ox.op ≠ .select cs b) →
    ∀ (H : Held) (a : Act) (w : World), wpS cls P ops un Q (l ++ i :: r) H a w → wpS cls P ops un Q (i :: (l ++ r)) H a w := by
  intro l
  induction l with
  | nil => intro _ H a w h; exact h
  | cons x l ih =>
    intro hl H a w h
    obtain ⟨hun, ox, hx, hq, hap, hsx⟩ := hl x List.mem_cons_self
    refine wpS_swap hx hi hq hap hun hsx hsi _ H a w ?_
    exact wpS_cons x (ih fun y hy => hl y (List.mem_cons_of_mem _ hy)) H a w h

/-- The first step. -/
theorem wpOp_of_wpS {Q' : Exit → Act → World → Prop} {i : Nat} {r : List Nat} {H : Held} {a : Act} {w : World} (h : wpS cls P ops un Q (i :: r) H a w) :
    wpOp P ops Q' i (fun a' w' => ∃ H', wpS cls P ops un Q r H' a' w') a w := by
  rw [wpS] at h
  unfold wpOp
  split at h
  · exact h.elim
  · rename_i o ho
    simp only [ho]
    split at h
    · rename_i hw
      rw [if_pos hw]
      refine .inl ?_
      unfold Oper.wp
      split at h
      · obtain ⟨v, h1, h2⟩ := h; rw [h1]; exact ⟨_, h2⟩
      · obtain ⟨v, h1, h2⟩ := h; rw [h1]; exact ⟨_, h2⟩
      · exact upon_mono (fun a w ⟨_, h2⟩ => ⟨_, h2⟩) (fun _ _ _ h => h.elim) h
    · rename_i hw; rw [if_neg hw]; exact ⟨_, h⟩

/-- In the text's order. -/
theorem wpOps_of_wpS {Q' : Exit → Act → World → Prop} (hQ : ∀ a w, Q a w → Q' .normal a w) : ∀ (l : List Nat) (H : Held) (a : Act) (w : World), wpS cls P ops un Q l H a w → wpOps P ops Q' l a w := by
  intro l
  induction l with
  | nil => intro H a w h; exact hQ _ _ h
  | cons i r ih =>
    intro H a w h
    rw [wpOps_cons]
    exact wpOp_mono (fun a w ⟨H', h⟩ => ih H' a w h) (wpOp_of_wpS h)

end

/-- B i: the numbers that are bound ahead of i, as bits. Each is one of i's edges, or bound ahead of one. -/
def boundsOk (ops : Array Oper) (B : Nat → Nat) : Bool :=
  (List.range ops.size).all fun i => (List.range ops.size).all fun x => !(B i).testBit x ||
    ((ops[i]?).map fun o => o.after.toList.any fun e => Region.binds .any e && (Nat.beq e.on x || (B e.on).testBit x)).getD false

/-- Edges stay within the region. -/
def edgesIn (ops : Array Oper) : Bool :=
  ops.toList.all fun o => o.after.toList.all fun e => !Region.binds .any e || Nat.blt e.on ops.size

/-- x stands ahead of i in the order: x does not wait for i; and x is bound ahead of i, or x is quiet and has no slot in common with i. -/
def pairOk (cls : Op → Cl) (ops : Array Oper) (B : Nat → Nat) (x i : Nat) : Bool :=
  match ops[x]?, ops[i]? with
  | some ox, some oi => !Nat.beq x i && (ox.after.toList.all fun e => !Region.binds .any e || (!Nat.beq e.on i && !Nat.beq e.on x)) &&
      ((B i).testBit x || ((match cls ox.op with | .eff => false | _ => true) && ox.apart ops oi))
  | _, _ => false

def selfOk (ops : Array Oper) (x : Nat) : Bool :=
  match ops[x]? with
  | some ox => ox.after.toList.all fun e => !Region.binds .any e || !Nat.beq e.on x
  | none => false

def pairsOk (cls : Op → Cl) (ops : Array Oper) (B : Nat → Nat) : List Nat → Bool
  | [] => true
  | x :: r => selfOk ops x && r.all (pairOk cls ops B x) && pairsOk cls ops B r

/-- each number of the region once -/
def onceOk (n : Nat) (σ : List Nat) : Bool := Nat.beq σ.length n && (σ.all fun i => Nat.blt i n) && (List.range n).all fun i => σ.contains i

def noSel (ops : Array Oper) : Bool := ops.toList.all fun o => match o.op with | .select .. => false | _ => true

def orderOk (cls : Op → Cl) (ops : Array Oper) (B : Nat → Nat) (σ : List Nat) : Bool :=
  boundsOk ops B && edgesIn ops && noSel ops && onceOk ops.size σ && pairsOk cls ops B σ

section
variable {cls : Op → Cl} {P : Program} {ops : Array Oper} {B : Nat → Nat} {Q : Act → World → Prop}

/-- what is known of the rest of the order while the region runs -/
structure Inv (cls : Op → Cl) (ops : Array Oper) (B : Nat → Nat) (listed : Array Bool) (ρ : List Nat) : Prop where
  pairs : pairsOk cls ops B ρ = true
  here : ∀ i, i < ops.size → (listed.getD i false = true ∨ i ∈ ρ)
  not : ∀ i, i ∈ ρ → listed.getD i false = false ∧ i < ops.size
  nodup : ρ.Nodup
  size : listed.size = ops.size
  down : ∀ i x, listed.getD i false = true → (B i).testBit x = true → x < ops.size → listed.getD x false = true

theorem noSel_spec (h : noSel ops = true) {i : Nat} {o : Oper} (ho : ops[i]? = some o) (cs : Array SelectCase) (b : Bool) : o.op ≠ .select cs b := by
  intro e
  have := List.all_eq_true.1 h o (by
    rw [Array.getElem?_eq_some_iff] at ho
    obtain ⟨hlt, rfl⟩ := ho
    simp)
  rw [e] at this
  exact absurd this (by simp)

theorem pairsOk_split {l : List Nat} {i : Nat} {r : List Nat} (h : pairsOk cls ops B (l ++ i :: r) = true) : (∀ x ∈ l, pairOk cls ops B x i = true) ∧ pairsOk cls ops B (l ++ r) = true ∧ selfOk ops i = true := by
  induction l with
  | nil => simp only [List.nil_append, pairsOk, Bool.and_eq_true] at h; exact ⟨(fun _ h => by cases h), h.2, h.1.1⟩
  | cons y l ih =>
    simp only [List.cons_append, pairsOk, Bool.and_eq_true, List.all_append, List.all_cons] at h
    obtain ⟨⟨h0, h1, h2, h3⟩, h4⟩ := h
    obtain ⟨g1, g2, g3⟩ := ih h4
    refine ⟨fun x hx => ?_, ?_, g3⟩
    · rcases List.mem_cons.1 hx with rfl | hx
      · exact h2
      · exact g1 x hx
    · simp only [List.cons_append, pairsOk, Bool.and_eq_true, List.all_append]
      exact ⟨⟨h0, h1, h3⟩, g2⟩

theorem wpAny_of_wpS (hB : boundsOk ops B = true) (hE : edgesIn ops = true) (hN : noSel ops = true) {Q' : Exit → Act → World → Prop} (hQ : ∀ a w, Q a w → Q' .normal a w) :
    ∀ (fuel : Nat) (listed : Array Bool) (ρ : List Nat) (H : Held) (a : Act) (w : World), ρ.length = fuel → Inv cls ops B listed ρ →
      wpS cls P ops (fun x i => !(B i).testBit x) Q ρ H a w → wpAny P .any ops Q' fuel listed a w := by
  -- who is ready is in the rest
  have ready : ∀ {listed : Array Bool} {ρ : List Nat} {i : Nat}, Inv cls ops B listed ρ → i ∈ Region.ready .any ops listed → i ∈ ρ ∧ ∃ o, ops[i]? = some o ∧ ∀ e ∈ o.after, Region.binds .any e = true → listed.getD e.on false = true := by
    intro listed ρ i inv h
    obtain ⟨h1, o, ho, h2⟩ := mem_ready.1 h
    have hi : i < ops.size := (Array.getElem?_eq_some_iff.1 ho).1
    refine ⟨(inv.here i hi).resolve_left fun hh => ?_, o, ho, h2⟩
    have : i < listed.size := by rw [inv.size]; exact hi
    simp [Array.getD, this] at hh h1
    rw [hh] at h1; exact absurd h1 (by simp)
  -- the rest's head is ready
  have head : ∀ {listed : Array Bool} {x : Nat} {r : List Nat}, Inv cls ops B listed (x :: r) → x ∈ Region.ready .any ops listed := by
    intro listed x r inv
    obtain ⟨hx1, hx2⟩ := inv.not x List.mem_cons_self
    have hl : x < listed.size := by rw [inv.size]; exact hx2
    refine mem_ready.2 ⟨?_, ops[x], by simp [hx2], fun e he hb => ?_⟩
    · simpa [Array.getD, hl] using hx1
    · have hp := inv.pairs
      simp only [pairsOk, Bool.and_eq_true] at hp
      have hin : e.on < ops.size := by
        have := List.all_eq_true.1 hE ops[x] (by simp)
        have := List.all_eq_true.1 this e (by simpa using he)
        simp only [hb, Bool.not_true, Bool.false_or] at this
        simpa using this
      refine (inv.here e.on hin).resolve_right fun hm => ?_
      rcases List.mem_cons.1 hm with hm | hm
      · have := hp.1.1
        simp only [selfOk, show ops[x]? = some ops[x] by simp [hx2]] at this
        have := List.all_eq_true.1 this e (by simpa using he)
        simp [hb, hm] at this
      · have := List.all_eq_true.1 hp.1.2 e.on hm
        simp only [pairOk, show ops[x]? = some ops[x] by simp [hx2], show ops[e.on]? = some ops[e.on] by simp [hin], Bool.and_eq_true] at this
        have := List.all_eq_true.1 this.1.2 e (by simpa using he)
        simp [hb] at this
  intro fuel
  induction fuel with
  | zero =>
    intro listed ρ H a w hl inv h
    obtain rfl : ρ = [] := List.length_eq_zero_iff.1 hl
    refine ⟨?_, hQ _ _ h⟩
    cases hr : Region.ready .any ops listed with
    | nil => rfl
    | cons i l => exact absurd (ready inv (hr ▸ List.mem_cons_self)).1 (by simp)
  | succ fuel ih =>
    intro listed ρ H a w hl inv h
    refine ⟨fun hr => ?_, fun i hi => ?_⟩
    · cases ρ with
      | nil => simp at hl
      | cons x r => exact absurd (head inv) (by rw [hr]; simp)
    · obtain ⟨him, o, ho, hpre⟩ := ready inv hi
      obtain ⟨l, r, rfl⟩ := List.append_of_mem him
      obtain ⟨hpi, hpr, _⟩ := pairsOk_split inv.pairs
      -- what is bound ahead of i is listed
      have hbound : ∀ x, (B i).testBit x = true → x < ops.size → listed.getD x false = true := by
        intro x hx hxs
        have hi' : i < ops.size := (Array.getElem?_eq_some_iff.1 ho).1
        have := List.all_eq_true.1 (List.all_eq_true.1 hB i (List.mem_range.2 hi')) x (List.mem_range.2 hxs)
        simp only [hx, Bool.not_true, Bool.false_or, ho, Option.map_some, Option.getD_some, List.any_eq_true, Bool.and_eq_true, Bool.or_eq_true] at this
        obtain ⟨e, he, hb, hc⟩ := this
        have hle := hpre e (by simpa using he) hb
        rcases hc with hc | hc
        · have : e.on = x := Nat.eq_of_beq_eq_true hc
          rw [← this]; exact hle
        · exact inv.down e.on x hle hc hxs
      have hfront := wpS_front (P := P) (Q := Q) (un := fun x i => !(B i).testBit x) ho (noSel_spec hN ho) r l (fun x hx => by
        have hxm := inv.not x (List.mem_append_left _ hx)
        have hp := hpi x hx
        have hxo : ops[x]? = some ops[x] := by simp [hxm.2]
        simp only [pairOk, hxo, ho, Bool.and_eq_true, Bool.or_eq_true] at hp
        have hnb : (B i).testBit x = false := by
          cases hb : (B i).testBit x with
          | false => rfl
          | true => rw [hbound x hb hxm.2] at hxm; exact absurd hxm.1 (by simp)
        refine ⟨by simp [hnb], ops[x], hxo, ?_, ?_, noSel_spec hN hxo⟩
        · rcases hp.2 with h | h
          · rw [hnb] at h; exact absurd h (by simp)
          · intro hc; rw [hc] at h; simp at h
        · rcases hp.2 with h | h
          · rw [hnb] at h; exact absurd h (by simp)
          · exact h.2) H a w h
      refine wpOp_mono (fun a' w' ⟨H', hh⟩ => ?_) (wpOp_of_wpS hfront)
      have hi' : i < ops.size := (Array.getElem?_eq_some_iff.1 ho).1
      have hil : i < listed.size := by rw [inv.size]; exact hi'
      have hset : ∀ j, (listed.setIfInBounds i true).getD j false = true ↔ (j = i ∨ listed.getD j false = true) := by
        intro j
        by_cases hj : i = j
        · subst hj; simp [Array.getD, hil]
        · rw [getD_set_ne false hj]; simp [Ne.symm hj]
      have hnd : i ∉ l ++ r := by
        have := inv.nodup
        rw [List.nodup_append] at this
        obtain ⟨h1, h2, h3⟩ := this
        rw [List.nodup_cons] at h2
        intro hm
        rcases List.mem_append.1 hm with hm | hm
        · exact h3 i hm i List.mem_cons_self rfl
        · exact h2.1 hm
      refine ih _ (l ++ r) H' a' w' (by simp at hl ⊢; omega) ⟨hpr, ?_, ?_, ?_, by simp [inv.size], ?_⟩ hh
      · intro j hj
        rcases inv.here j hj with h | h
        · exact .inl ((hset j).2 (.inr h))
        · by_cases hji : j = i
          · exact .inl ((hset j).2 (.inl hji))
          · refine .inr ?_
            rcases List.mem_append.1 h with h | h
            · exact List.mem_append_left _ h
            · exact List.mem_append_right _ ((List.mem_cons.1 h).resolve_left hji)
      · intro j hj
        have hji : j ≠ i := fun e => hnd (e ▸ hj)
        have hjm : j ∈ l ++ i :: r := by
          rcases List.mem_append.1 hj with h | h
          · exact List.mem_append_left _ h
          · exact List.mem_append_right _ (List.mem_cons_of_mem _ h)
        obtain ⟨h1, h2⟩ := inv.not j hjm
        refine ⟨?_, h2⟩
        cases hc : (listed.setIfInBounds i true).getD j false with
        | false => rfl
        | true =>
          rcases (hset j).1 hc with h | h
          · exact absurd h hji
          · rw [h1] at h; exact absurd h (by simp)
      · have := inv.nodup
        rw [List.nodup_append] at this ⊢
        obtain ⟨h1, h2, h3⟩ := this
        rw [List.nodup_cons] at h2
        exact ⟨h1, h2.2, fun x hx y hy => h3 x hx y (List.mem_cons_of_mem _ hy)⟩
      · intro j x hj hx hxs
        rcases (hset j).1 hj with h | h
        · subst h; exact (hset x).2 (.inr (hbound x hx hxs))
        · exact (hset x).2 (.inr (inv.down j x h hx hxs))

/-- A region that draws its order, by one order. -/
theorem wp_region_one {id : Nat} {a : Act} {w : World} {σ : List Nat} (hm : P.follows .mixedOrders = true) (hok : orderOk cls ops B σ = true) {Q' : Exit → Act → World → Prop}
    (hQ : ∀ a w, Q a w → Q' .normal a w) (h : wpS cls P ops (fun x i => !(B i).testBit x) Q σ [] a { w with drawn := w.drawn + 1 }) : (Code.region id ops true).wp P Q' a w := by
  simp only [orderOk, Bool.and_eq_true] at hok
  obtain ⟨⟨⟨⟨hB, hE⟩, hN⟩, hO⟩, hP⟩ := hok
  simp only [onceOk, Bool.and_eq_true] at hO
  have hlen : σ.length = ops.size := Nat.eq_of_beq_eq_true hO.1.1
  have hmem : ∀ i, i < ops.size → i ∈ σ := fun i hi => by simpa using List.all_eq_true.1 hO.2 i (List.mem_range.2 hi)
  have hlt : ∀ i ∈ σ, i < ops.size := fun i hi => by simpa using List.all_eq_true.1 hO.1.2 i hi
  have hnd : ∀ l : List Nat, pairsOk cls ops B l = true → l.Nodup := by
    intro l
    induction l with
    | nil => intro _; exact List.nodup_nil
    | cons x r ih =>
      intro h
      simp only [pairsOk, Bool.and_eq_true] at h
      refine List.nodup_cons.2 ⟨fun hx => ?_, ih h.2⟩
      have := List.all_eq_true.1 h.1.2 x hx
      unfold pairOk at this
      split at this
      · simp at this
      · simp at this
  have hnd := hnd σ hP
  refine wp_region_any hm (wpAny_of_wpS hB hE hN hQ ops.size _ σ [] a _ hlen ⟨hP, fun i hi => .inr (hmem i hi), fun i hi => ⟨?_, hlt i hi⟩, hnd, by simp, ?_⟩ h)
  · simp [Array.getD]
  · intro i x hi
    simp [Array.getD] at hi

end
#print axioms wp_region_one
end Go.Vx
