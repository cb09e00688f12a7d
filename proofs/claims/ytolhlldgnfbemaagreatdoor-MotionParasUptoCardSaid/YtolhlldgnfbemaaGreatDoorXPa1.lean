/- YtolhlldgnfbemaaGreatDoorXPa1: parts of the proof, put together by program. -/
import Derived.Test.YtolhlldgnfbemaaGreatDoorRows
import Derived.Laws.IdiomStrings
import Derived.LaidEql
import Derived.WalkKit
import Derived.OrdersIn
import Derived.RangeFuncIn
import Derived.RangeFuncRecord
import Derived.Scope
import Derived.Sort.LoopGhostIn
import Derived.Test.YtolhlldgnfbemaaGreatDoorProg
import Derived.KernelRfl
import Derived.ProofKit
import Derived.SizedLaws
import Derived.Carry
import Derived.JoinedCond
import Derived.Deep.CondSized
import Derived.Laws.RangeString
import Derived.Deep.DeepHandedRow
import Derived.Deep.DeepWitnessRowRef
import Derived.OpenShut
import Derived.MakeChecks
import Derived.Lib.LaidIn
import Derived.Test.YtolhlldgnfbemaaGreatDoorTie
import Derived.Test.YtolhlldgnfbemaaGreatDoorCards
import Derived.SevenTiedAt
set_option linter.unusedVariables false
set_option linter.unusedSimpArgs false
set_option linter.unusedSectionVars false
noncomputable section
namespace Go.Vx
open Go
abbrev W64 (n : Int) : Int := IntKind.wrap .i64 n
abbrev Wp := World -> Prop
def FW (r : Option Nat) : Fence := { Fence.wide with round := r }
theorem Bf0 {r : Option Nat} {n : Nat} {P : Program} {f : FuncId} {args : Array Value} {w : World} {R : Ending -> Wp} : CallsIn (FW r) n P f args w R ↔ Calls P f args w R := callsIn_wide
theorem Cq7 {r : Option Nat} {n : Nat} {P : Program} {row : String} {args : Array Value} {w : World} {R : Value -> Wp} (h : Rows P row args w R) : RowsIn (FW r) n P row args w R :=
 λ c cs _ => let ⟨v, w', hr, s⟩ := h c cs; ⟨v, w', hr, stepsIn_wide.2 s⟩
def Fe (P : Program) (o : Oper) (a : Act) (next : Act -> Wp) : Result Next -> Prop
 | .ok (.value v) w' => next (a.put o.dst v) w'
 | .ok .skip w' => next (a.put o.dst undef) w'
 | .ok (.enter f args) w' => Calls P f args w' λ e w'' => ∃ v, e = .returned v /\ next (a.put o.dst v) w''
 | .ok (.row row args) w' => Rows P row args w' λ v w'' => next (a.put o.dst v) w''
 | .ok (.round l f tmps assign body) w' => RoundIn (FW none) 0 P l f tmps assign body w' λ e w'' => ∃ v, e = .returned v /\ next (a.put o.dst v) w''
 | _ => False
theorem Gy {P : Program} {o : Oper} {a : Act} {N N' : Act -> Wp} {r : Result Next} (hN : ∀ a w, N a w -> N' a w) (h : Fe P o a N r) : Fe P o a N' r := by
 cases r with
 | ok n w' =>
  cases n <;> simp only [Fe] at h ⊢ <;>
   first
    | exact hN _ _ h
    | exact Calls.mono h (λ e w'' ⟨v, he, hv⟩ => ⟨v, he, hN _ _ hv⟩)
    | exact Rows.mono h (λ _ _ he => hN _ _ he)
    | exact RoundIn.mono h (λ e w'' ⟨v, he, hv⟩ => ⟨v, he, hN _ _ hv⟩)
 | halt x w' => cases x <;> simp only [Fe] at h
theorem Cm3 {r : Option Nat} {n : Nat} {P : Program} {l : Nat} {f : FuncId} {tmps : Array Value} {assign body : Code} {w : World} {R : Ending -> Wp} (h : RoundIn (FW none) 0 P l f tmps assign body w R) : RoundIn (FW r) n P l f tmps assign body w R :=
 ⟨trivial, λ c cs _ => h.2 c cs (λ _ h => by simp [FW, Fence.wide] at h)⟩
theorem Ap5 {P : Program} {o : Oper} {a : Act} {N : Act -> Wp} {Q : Exit -> Act -> Wp} {r : Option Nat} {w : World} (h : Fe P o a N ((execOp a.eval o).run P w)) : o.wpIn (FW r) 0 P a w N Q := by
 refine ⟨λ _ _ => trivial, ?_⟩
 have e : (o.semAt (FW r).round a.eval) = execOp a.eval o := by
  refine Oper.semAt_eq _ _ _ λ c hc => ?_
  obtain ⟨dst, op, type, pos, after, guard⟩ := o
  simp only at hc
  subst hc
  simp only [execOp] at h
  revert h
  simp only [Sem.run_bind]
  cases (resolve a.eval c type).run P w with
  | ok d w' => simp only [Result.andThen_ok, Sem.run_pure, Fe]; exact id
  | halt x w' => simp only [Result.andThen, Fe]; exact id
 rw [e]
 generalize (execOp a.eval o).run P w = res at h ⊢
 cases res with
 | ok n w' =>
  cases n <;> simp only [Fe] at h <;> simp only [Oper.uponIn]
  case value v => exact h
  case skip => exact h
  case enter f args => exact ⟨λ h => by simp [FW, Fence.wide] at h, Bf0.2 (Calls.mono h λ e w'' ⟨v, he, hv⟩ => by subst he; exact hv)⟩
  case row row args => exact ⟨λ h => by simp [FW, Fence.wide] at h, Cq7 h⟩
  case round l f tmps assign body => exact ⟨λ h => by simp [FW, Fence.wide] at h, Cm3 (RoundIn.mono h λ e w'' ⟨v, he, hv⟩ => by subst he; exact hv)⟩
 | halt x w' => simp only [Fe] at h
inductive Cl where
 | free | read | eff
abbrev Held := List (Nat × Sem Next × Value)
def Qh (P : Program) (un : Nat -> Nat -> Bool) (i : Nat) (H : Held) (w : World) : Prop :=
 ∀ x ∈ H, un x.1 i = true -> x.2.1.run P w = .ok (.value x.2.2) w
def wpS (cls : Op -> Cl) (P : Program) (ops : Array Oper) (un : Nat -> Nat -> Bool) (Q : Act -> Wp) : List Nat -> Held -> Act -> World -> Prop
 | [], _, a, w => Q a w
 | i :: r, H, a, w =>
  match ops[i]? with
  | none => False
  | some o =>
   if Region.wanted o (yielded ops a.tmps) = true then
    match cls o.op with
    | .free => ∃ v, (∀ w', (execOp a.eval o).run P w' = .ok (.value v) w') /\ wpS cls P ops un Q r H (a.put o.dst v) w
    | .read => ∃ v, (execOp a.eval o).run P w = .ok (.value v) w /\ wpS cls P ops un Q r ((i, execOp a.eval o, v) :: H) (a.put o.dst v) w
    | .eff => Fe P o a (λ a' w' => Qh P un i H w' /\ wpS cls P ops un Q r H a' w') ((execOp a.eval o).run P w)
   else wpS cls P ops un Q r H (a.put o.dst undef) w
section
variable {cls : Op -> Cl} {P : Program} {ops : Array Oper} {un : Nat -> Nat -> Bool} {Q : Act -> Wp}
theorem Pn {i : Nat} {H H' : Held} {w : World} (hs : ∀ x ∈ H', x ∈ H) (h : Qh P un i H w) : Qh P un i H' w :=
 λ x hx hu => h x (hs x hx) hu
theorem Ap0 : ∀ (l : List Nat) (H H' : Held) (a : Act) (w : World), (∀ x ∈ H', x ∈ H) -> wpS cls P ops un Q l H a w -> wpS cls P ops un Q l H' a w := by
 intro l
 induction l with
 | nil => intro H H' a w _ h; exact h
 | cons i r ih =>
  intro H H' a w hs h
  simp only [wpS] at h ⊢
  split at h
  ·exact h
  ·rename_i o ho
   split at h
   ·rename_i hw
    rw [if_pos hw]
    split at h
    ·obtain ⟨v, h1, h2⟩ := h; exact ⟨v, h1, ih _ _ _ _ hs h2⟩
    ·obtain ⟨v, h1, h2⟩ := h
     refine ⟨v, h1, ih _ _ _ _ (λ x hx => ?_) h2⟩
     rcases List.mem_cons.1 hx with rfl | hx
     ·exact List.mem_cons_self
     ·exact List.mem_cons_of_mem _ (hs x hx)
    ·exact Gy (λ a w ⟨h1, h2⟩ => ⟨Pn hs h1, ih _ _ _ _ hs h2⟩) h
   ·rename_i hw; rw [if_neg hw]; exact ih _ _ _ _ hs h
theorem Bs0 {l l' : List Nat} (x : Nat) (h : ∀ H a w, wpS cls P ops un Q l H a w -> wpS cls P ops un Q l' H a w) (H : Held) (a : Act) (w : World)
  (hh : wpS cls P ops un Q (x :: l) H a w) : wpS cls P ops un Q (x :: l') H a w := by
 simp only [wpS] at hh ⊢
 split at hh
 ·exact hh
 ·split at hh
  ·rename_i hw
   rw [if_pos hw]
   split at hh
   ·obtain ⟨v, h1, h2⟩ := hh; exact ⟨v, h1, h _ _ _ h2⟩
   ·obtain ⟨v, h1, h2⟩ := hh; exact ⟨v, h1, h _ _ _ h2⟩
   ·exact Gy (λ a w ⟨h1, h2⟩ => ⟨h1, h _ _ _ h2⟩) hh
  ·rename_i hw; rw [if_neg hw]; exact h _ _ _ hh
theorem Br8 {x i : Nat} {ox oi : Oper} (hx : ops[x]? = some ox) (hi : ops[i]? = some oi) (hq : cls ox.op ≠ .eff) (hap : ox.apart ops oi = true) (hun : un x i = true)
  (hsx : ∀ cs b, ox.op ≠ .select cs b) (hsi : ∀ cs b, oi.op ≠ .select cs b) (r : List Nat) (H : Held) (a : Act) (w : World)
  (h : wpS cls P ops un Q (x :: i :: r) H a w) : wpS cls P ops un Q (i :: x :: r) H a w := by
 obtain ⟨h1, h2, h3⟩ := Oper.apart_spec hap
 have ei : ∀ (a : Act) v, execOp (a.put ox.dst v).eval oi = execOp a.eval oi := λ a v => execOp_put oi hsi a ox.dst v h1
 have wi : ∀ (a : Act) v, Region.wanted oi (yielded ops (a.put ox.dst v).tmps) = Region.wanted oi (yielded ops a.tmps) := λ a v => wanted_put oi a ox.dst v h1
 have ex : ∀ (a : Act) v, execOp (a.put oi.dst v).eval ox = execOp a.eval ox := λ a v => execOp_put ox hsx a oi.dst v h3
 have wx : ∀ (a : Act) v, Region.wanted ox (yielded ops (a.put oi.dst v).tmps) = Region.wanted ox (yielded ops a.tmps) := λ a v => wanted_put ox a oi.dst v h3
 have pc : ∀ (a : Act) v u, (a.put ox.dst v).put oi.dst u = (a.put oi.dst u).put ox.dst v := λ a v u => (Act.put_comm a v u h2)
 rw [wpS, hx] at h
 rw [wpS, hi]
 simp only at h ⊢
 by_cases hwi : Region.wanted oi (yielded ops a.tmps) = true
 ·rw [if_pos hwi]
  by_cases hwx : Region.wanted ox (yielded ops a.tmps) = true
  ·rw [if_pos hwx] at h
   cases c0 : cls ox.op with
   | eff => exact absurd c0 hq
   | free =>
    simp only [c0] at h
    obtain ⟨v, hv, h⟩ := h
    rw [wpS, hi] at h
    simp only [wi, hwi, if_true, ei] at h
    have back : ∀ (a' : Act) (w' : World) (H' : Held), (execOp a'.eval ox = execOp a.eval ox) -> (Region.wanted ox (yielded ops a'.tmps) = Region.wanted ox (yielded ops a.tmps)) ->
      wpS cls P ops un Q r H' (a'.put ox.dst v) w' -> wpS cls P ops un Q (x :: r) H' a' w' := by
     intro a' w' H' he hw' hh
     rw [wpS, hx]
     simp only [hw', hwx, if_true, c0, he]
     exact ⟨v, hv, hh⟩
    split at h
    ·obtain ⟨u, hu, h⟩ := h
     exact ⟨u, hu, back _ _ _ (ex a u) (wx a u) (by rw [← pc]; exact h)⟩
    ·obtain ⟨u, hu, h⟩ := h
     exact ⟨u, hu, back _ _ _ (ex a u) (wx a u) (by rw [← pc]; exact h)⟩
    ·generalize (execOp a.eval oi).run P w = res at h ⊢
     cases res with
     | ok n w' =>
      cases n <;> simp only [Fe] at h ⊢
      case value u => exact ⟨h.1, back _ _ _ (ex a u) (wx a u) (by rw [← pc]; exact h.2)⟩
      case skip => exact ⟨h.1, back _ _ _ (ex a _) (wx a _) (by rw [← pc]; exact h.2)⟩
      case enter f args => exact Calls.mono h λ e w'' ⟨u, e1, he⟩ => ⟨u, e1, he.1, back _ _ _ (ex a u) (wx a u) (by rw [← pc]; exact he.2)⟩
      case round l f tmps assign body => exact RoundIn.mono h λ e w'' ⟨u, e1, he⟩ => ⟨u, e1, he.1, back _ _ _ (ex a u) (wx a u) (by rw [← pc]; exact he.2)⟩
      case row row args => exact Rows.mono h λ u w'' he => ⟨he.1, back _ _ _ (ex a u) (wx a u) (by rw [← pc]; exact he.2)⟩
     | halt y w' => simp only [Fe] at h
   | read =>
    have c1 := c0
    simp only [c1] at h
    obtain ⟨v, hv, h⟩ := h
    rw [wpS, hi] at h
    simp only [wi, hwi, if_true, ei] at h
    have back : ∀ (a' : Act) (w' : World) (H' : Held), (execOp a'.eval ox = execOp a.eval ox) -> (Region.wanted ox (yielded ops a'.tmps) = Region.wanted ox (yielded ops a.tmps)) ->
      (execOp a.eval ox).run P w' = .ok (.value v) w' ->
      wpS cls P ops un Q r ((x, execOp a.eval ox, v) :: H') (a'.put ox.dst v) w' -> wpS cls P ops un Q (x :: r) H' a' w' := by
     intro a' w' H' he hw' hr hh
     rw [wpS, hx]
     simp only [hw', hwx, if_true, c1, he]
     exact ⟨v, hr, hh⟩
    have own : ∀ w', Qh P un i ((x, execOp a.eval ox, v) :: H) w' -> (execOp a.eval ox).run P w' = .ok (.value v) w' := λ w' hk => hk _ List.mem_cons_self hun
    have rest : ∀ w', Qh P un i ((x, execOp a.eval ox, v) :: H) w' -> Qh P un i H w' := λ w' hk => Pn (λ y hy => List.mem_cons_of_mem _ hy) hk
    split at h
    ·obtain ⟨u, hu, h⟩ := h
     exact ⟨u, hu, back _ _ _ (ex a u) (wx a u) hv (by rw [← pc]; exact h)⟩
    ·obtain ⟨u, hu, h⟩ := h
     refine ⟨u, hu, back _ _ _ (ex a u) (wx a u) hv ?_⟩
     rw [← pc]
     exact Ap0 _ _ _ _ _ (λ y hy => by
      rcases List.mem_cons.1 hy with rfl | hy
      ·exact List.mem_cons_of_mem _ List.mem_cons_self
      ·rcases List.mem_cons.1 hy with rfl | hy
       ·exact List.mem_cons_self
       ·exact List.mem_cons_of_mem _ (List.mem_cons_of_mem _ hy)) h
    ·generalize (execOp a.eval oi).run P w = res at h ⊢
     cases res with
     | ok n w' =>
      cases n <;> simp only [Fe] at h ⊢
      case value u => exact ⟨rest _ h.1, back _ _ _ (ex a u) (wx a u) (own _ h.1) (by rw [← pc]; exact h.2)⟩
      case skip => exact ⟨rest _ h.1, back _ _ _ (ex a _) (wx a _) (own _ h.1) (by rw [← pc]; exact h.2)⟩
      case enter f args => exact Calls.mono h λ e w'' ⟨u, e1, he⟩ => ⟨u, e1, rest _ he.1, back _ _ _ (ex a u) (wx a u) (own _ he.1) (by rw [← pc]; exact he.2)⟩
      case round l f tmps assign body => exact RoundIn.mono h λ e w'' ⟨u, e1, he⟩ => ⟨u, e1, rest _ he.1, back _ _ _ (ex a u) (wx a u) (own _ he.1) (by rw [← pc]; exact he.2)⟩
      case row row args => exact Rows.mono h λ u w'' he => ⟨rest _ he.1, back _ _ _ (ex a u) (wx a u) (own _ he.1) (by rw [← pc]; exact he.2)⟩
     | halt y w' => simp only [Fe] at h
  ·
   rw [if_neg hwx] at h
   rw [wpS, hi] at h
   simp only [wi, hwi, if_true, ei] at h
   have back : ∀ (a' : Act) (w' : World) (H' : Held), (Region.wanted ox (yielded ops a'.tmps) = Region.wanted ox (yielded ops a.tmps)) ->
     wpS cls P ops un Q r H' (a'.put ox.dst undef) w' -> wpS cls P ops un Q (x :: r) H' a' w' := by
    intro a' w' H' hw' hh
    rw [wpS, hx]
    simp only [hw', if_neg hwx]
    exact hh
   split at h
   ·obtain ⟨u, hu, h⟩ := h
    exact ⟨u, hu, back _ _ _ (wx a u) (by rw [← pc]; exact h)⟩
   ·obtain ⟨u, hu, h⟩ := h
    exact ⟨u, hu, back _ _ _ (wx a u) (by rw [← pc]; exact h)⟩
   ·generalize (execOp a.eval oi).run P w = res at h ⊢
    cases res with
    | ok n w' =>
     cases n <;> simp only [Fe] at h ⊢
     case value u => exact ⟨h.1, back _ _ _ (wx a u) (by rw [← pc]; exact h.2)⟩
     case skip => exact ⟨h.1, back _ _ _ (wx a _) (by rw [← pc]; exact h.2)⟩
     case enter f args => exact Calls.mono h λ e w'' ⟨u, e1, he⟩ => ⟨u, e1, he.1, back _ _ _ (wx a u) (by rw [← pc]; exact he.2)⟩
     case round l f tmps assign body => exact RoundIn.mono h λ e w'' ⟨u, e1, he⟩ => ⟨u, e1, he.1, back _ _ _ (wx a u) (by rw [← pc]; exact he.2)⟩
     case row row args => exact Rows.mono h λ u w'' he => ⟨he.1, back _ _ _ (wx a u) (by rw [← pc]; exact he.2)⟩
    | halt y w' => simp only [Fe] at h
 ·
  rw [if_neg hwi]
  by_cases hwx : Region.wanted ox (yielded ops a.tmps) = true
  ·rw [if_pos hwx] at h
   have hx' : ∀ u, Region.wanted ox (yielded ops (a.put oi.dst u).tmps) = true := λ u => by rw [wx]; exact hwx
   rw [wpS, hx]
   simp only [hx', if_true, ex]
   cases c0 : cls ox.op with
   | eff => exact absurd c0 hq
   | free =>
    simp only [c0] at h ⊢
    obtain ⟨v, hv, h⟩ := h
    rw [wpS, hi] at h
    simp only [wi, if_neg hwi] at h
    exact ⟨v, hv, by rw [← pc]; exact h⟩
   | read =>
    simp only [c0] at h ⊢
    obtain ⟨v, hv, h⟩ := h
    rw [wpS, hi] at h
    simp only [wi, if_neg hwi] at h
    exact ⟨v, hv, by rw [← pc]; exact h⟩
  ·rw [if_neg hwx] at h
   rw [wpS, hi] at h
   simp only [wi, if_neg hwi] at h
   rw [wpS, hx]
   simp only [wx, if_neg hwx]
   rw [← pc]
   exact h
theorem Bl1 {i : Nat} {oi : Oper} (hi : ops[i]? = some oi) (hsi : ∀ cs b, oi.op ≠ .select cs b) (r : List Nat) : ∀ (l : List Nat),
  (∀ x ∈ l, un x i = true /\ ∃ ox, ops[x]? = some ox /\ cls ox.op ≠ .eff /\ ox.apart ops oi = true /\ ∀ cs b, ox.op ≠ .select cs b) ->
  ∀ (H : Held) (a : Act) (w : World), wpS cls P ops un Q (l ++ i :: r) H a w -> wpS cls P ops un Q (i :: (l ++ r)) H a w := by
 intro l
 induction l with
 | nil => intro _ H a w h; exact h
 | cons x l ih =>
  intro hl H a w h
  obtain ⟨hun, ox, hx, hq, hap, hsx⟩ := hl x List.mem_cons_self
  refine Br8 hx hi hq hap hun hsx hsi _ H a w ?_
  exact Bs0 x (ih λ y hy => hl y (List.mem_cons_of_mem _ hy)) H a w h
theorem F5 {rd : Option Nat} {Q' : Exit -> Act -> Wp} {i : Nat} {r : List Nat} {H : Held} {a : Act} {w : World} (h : wpS cls P ops un Q (i :: r) H a w) :
  wpOpIn (FW rd) 0 P ops Q' i (λ a' w' => ∃ H', wpS cls P ops un Q r H' a' w') a w := by
 rw [wpS] at h
 unfold wpOpIn
 split at h
 ·exact h.elim
 ·rename_i o ho
  simp only [ho]
  split at h
  ·rename_i hw
   rw [if_pos hw]
   refine Ap5 ?_
   split at h
   ·obtain ⟨v, h1, h2⟩ := h; rw [h1]; exact ⟨_, h2⟩
   ·obtain ⟨v, h1, h2⟩ := h; rw [h1]; exact ⟨_, h2⟩
   ·exact Gy (λ a w ⟨_, h2⟩ => ⟨_, h2⟩) h
  ·rename_i hw; rw [if_neg hw]; exact ⟨λ _ _ => trivial, _, h⟩
theorem Ai8 {rd : Option Nat} {Q' : Exit -> Act -> Wp} (hQ : ∀ a w, Q a w -> Q' .normal a w) : ∀ (l : List Nat) (H : Held) (a : Act) (w : World), wpS cls P ops un Q l H a w -> wpOpsIn (FW rd) 0 P ops Q' l a w := by
 intro l
 induction l with
 | nil => intro H a w h; exact hQ _ _ h
 | cons i r ih =>
  intro H a w h
  rw [wpOpsIn_cons]
  exact wpOpIn_mono (λ a w ⟨H', h⟩ => ih H' a w h) (F5 h)
end
def Rk (ops : Array Oper) (B : Nat -> Nat) : Bool :=
 (List.range ops.size).all λ i => (List.range ops.size).all λ x => !(B i).testBit x ||
  ((ops[i]?).map λ o => o.after.toList.any λ e => Region.binds .any e && (Nat.beq e.on x || (B e.on).testBit x)).getD false
def Q5 (ops : Array Oper) : Bool :=
 ops.toList.all λ o => o.after.toList.all λ e => !Region.binds .any e || Nat.blt e.on ops.size
def Zj (cls : Op -> Cl) (ops : Array Oper) (B : Nat -> Nat) (x i : Nat) : Bool :=
 match ops[x]?, ops[i]? with
 | some ox, some oi => !Nat.beq x i && (ox.after.toList.all λ e => !Region.binds .any e || (!Nat.beq e.on i && !Nat.beq e.on x)) &&
   ((B i).testBit x || ((match cls ox.op with | .eff => false | _ => true) && ox.apart ops oi))
 | _, _ => false
def Az5 (ops : Array Oper) (x : Nat) : Bool :=
 match ops[x]? with
 | some ox => ox.after.toList.all λ e => !Region.binds .any e || !Nat.beq e.on x
 | none => false
def Ik (cls : Op -> Cl) (ops : Array Oper) (B : Nat -> Nat) : List Nat -> Bool
 | [] => true
 | x :: r => Az5 ops x && r.all (Zj cls ops B x) && Ik cls ops B r
def Al4 (n : Nat) (σ : List Nat) : Bool := Nat.beq σ.length n && (σ.all λ i => Nat.blt i n) && (List.range n).all λ i => σ.contains i
def Ag6 (ops : Array Oper) : Bool := ops.toList.all λ o => match o.op with | .select .. => false | _ => true
def Yb (cls : Op -> Cl) (ops : Array Oper) (B : Nat -> Nat) (σ : List Nat) : Bool :=
 Rk ops B && Q5 ops && Ag6 ops && Al4 ops.size σ && Ik cls ops B σ
section
variable {cls : Op -> Cl} {P : Program} {ops : Array Oper} {B : Nat -> Nat} {Q : Act -> Wp}
structure Inv (cls : Op -> Cl) (ops : Array Oper) (B : Nat -> Nat) (listed : Array Bool) (ρ : List Nat) : Prop where
 pairs : Ik cls ops B ρ = true
 here : ∀ i, i < ops.size -> (listed.getD i false = true \/ i ∈ ρ)
 not : ∀ i, i ∈ ρ -> listed.getD i false = false /\ i < ops.size
 nodup : ρ.Nodup
 size : listed.size = ops.size
 down : ∀ i x, listed.getD i false = true -> (B i).testBit x = true -> x < ops.size -> listed.getD x false = true
theorem Kt (h : Ag6 ops = true) {i : Nat} {o : Oper} (ho : ops[i]? = some o) (cs : Array SelectCase) (b : Bool) : o.op ≠ .select cs b := by
 intro e
 have := List.all_eq_true.1 h o (by
  rw [Array.getElem?_eq_some_iff] at ho
  obtain ⟨hlt, rfl⟩ := ho
  simp)
 rw [e] at this
 exact absurd this (by simp)
theorem Wq {l : List Nat} {i : Nat} {r : List Nat} (h : Ik cls ops B (l ++ i :: r) = true) : (∀ x ∈ l, Zj cls ops B x i = true) /\ Ik cls ops B (l ++ r) = true /\ Az5 ops i = true := by
 induction l with
 | nil => simp only [List.nil_append, Ik, Bool.and_eq_true] at h; exact ⟨(λ _ h => by cases h), h.2, h.1.1⟩
 | cons y l ih =>
  simp only [List.cons_append, Ik, Bool.and_eq_true, List.all_append, List.all_cons] at h
  obtain ⟨⟨h0, h1, h2, h3⟩, h4⟩ := h
  obtain ⟨g1, g2, g3⟩ := ih h4
  refine ⟨λ x hx => ?_, ?_, g3⟩
  ·rcases List.mem_cons.1 hx with rfl | hx
   ·exact h2
   ·exact g1 x hx
  ·simp only [List.cons_append, Ik, Bool.and_eq_true, List.all_append]
   exact ⟨⟨h0, h1, h3⟩, g2⟩
theorem Rl (hB : Rk ops B = true) (hE : Q5 ops = true) (hN : Ag6 ops = true) {rd : Option Nat} {Q' : Exit -> Act -> Wp} (hQ : ∀ a w, Q a w -> Q' .normal a w) :
  ∀ (fuel : Nat) (listed : Array Bool) (ρ : List Nat) (H : Held) (a : Act) (w : World), ρ.length = fuel -> Inv cls ops B listed ρ ->
   wpS cls P ops (λ x i => !(B i).testBit x) Q ρ H a w -> wpAnyIn (FW rd) 0 P .any ops Q' fuel listed a w := by
 have ready : ∀ {listed : Array Bool} {ρ : List Nat} {i : Nat}, Inv cls ops B listed ρ -> i ∈ Region.ready .any ops listed -> i ∈ ρ /\ ∃ o, ops[i]? = some o /\ ∀ e ∈ o.after, Region.binds .any e = true -> listed.getD e.on false = true := by
  intro listed ρ i inv h
  obtain ⟨h1, o, ho, h2⟩ := mem_ready.1 h
  have hi : i < ops.size := (Array.getElem?_eq_some_iff.1 ho).1
  refine ⟨(inv.here i hi).resolve_left λ hh => ?_, o, ho, h2⟩
  have : i < listed.size := by rw [inv.size]; exact hi
  simp [Array.getD, this] at hh h1
  rw [hh] at h1; exact absurd h1 (by simp)
 have head : ∀ {listed : Array Bool} {x : Nat} {r : List Nat}, Inv cls ops B listed (x :: r) -> x ∈ Region.ready .any ops listed := by
  intro listed x r inv
  obtain ⟨hx1, hx2⟩ := inv.not x List.mem_cons_self
  have hl : x < listed.size := by rw [inv.size]; exact hx2
  refine mem_ready.2 ⟨?_, ops[x], by simp [hx2], λ e he hb => ?_⟩
  ·simpa [Array.getD, hl] using hx1
  ·have hp := inv.pairs
   simp only [Ik, Bool.and_eq_true] at hp
   have hin : e.on < ops.size := by
    have := List.all_eq_true.1 hE ops[x] (by simp)
    have := List.all_eq_true.1 this e (by simpa using he)
    simp only [hb, Bool.not_true, Bool.false_or] at this
    simpa using this
   refine (inv.here e.on hin).resolve_right λ hm => ?_
   rcases List.mem_cons.1 hm with hm | hm
   ·have := hp.1.1
    simp only [Az5, show ops[x]? = some ops[x] by simp [hx2]] at this
    have := List.all_eq_true.1 this e (by simpa using he)
    simp [hb, hm] at this
   ·have := List.all_eq_true.1 hp.1.2 e.on hm
    simp only [Zj, show ops[x]? = some ops[x] by simp [hx2], show ops[e.on]? = some ops[e.on] by simp [hin], Bool.and_eq_true] at this
    have := List.all_eq_true.1 this.1.2 e (by simpa using he)
    simp [hb] at this
 intro fuel
 induction fuel with
 | zero =>
  intro listed ρ H a w hl inv h
  obtain rfl : ρ = [] := List.length_eq_zero_iff.1 hl
  refine ⟨?_, hQ _ _ h⟩
  cases hr : Region.ready .any ops listed with
  | nil => rfl
  | cons i l => exact absurd (ready inv (hr ▸ List.mem_cons_self)).1 (by simp)
 | succ fuel ih =>
  intro listed ρ H a w hl inv h
  refine ⟨λ hr => ?_, λ i hi => ?_⟩
  ·cases ρ with
   | nil => simp at hl
   | cons x r => exact absurd (head inv) (by rw [hr]; simp)
  ·obtain ⟨him, o, ho, hpre⟩ := ready inv hi
   obtain ⟨l, r, rfl⟩ := List.append_of_mem him
   obtain ⟨hpi, hpr, _⟩ := Wq inv.pairs
   have hbound : ∀ x, (B i).testBit x = true -> x < ops.size -> listed.getD x false = true := by
    intro x hx hxs
    have hi' : i < ops.size := (Array.getElem?_eq_some_iff.1 ho).1
    have := List.all_eq_true.1 (List.all_eq_true.1 hB i (List.mem_range.2 hi')) x (List.mem_range.2 hxs)
    simp only [hx, Bool.not_true, Bool.false_or, ho, Option.map_some, Option.getD_some, List.any_eq_true, Bool.and_eq_true, Bool.or_eq_true] at this
    obtain ⟨e, he, hb, hc⟩ := this
    have hle := hpre e (by simpa using he) hb
    rcases hc with hc | hc
    ·have : e.on = x := Nat.eq_of_beq_eq_true hc
     rw [← this]; exact hle
    ·exact inv.down e.on x hle hc hxs
   have hfront := Bl1 (P := P) (Q := Q) (un := λ x i => !(B i).testBit x) ho (Kt hN ho) r l (λ x hx => by
    have hxm := inv.not x (List.mem_append_left _ hx)
    have hp := hpi x hx
    have hxo : ops[x]? = some ops[x] := by simp [hxm.2]
    simp only [Zj, hxo, ho, Bool.and_eq_true, Bool.or_eq_true] at hp
    have hnb : (B i).testBit x = false := by
     cases hb : (B i).testBit x with
     | false => rfl
     | true => rw [hbound x hb hxm.2] at hxm; exact absurd hxm.1 (by simp)
    refine ⟨by simp [hnb], ops[x], hxo, ?_, ?_, Kt hN hxo⟩
    ·rcases hp.2 with h | h
     ·rw [hnb] at h; exact absurd h (by simp)
     ·intro hc; rw [hc] at h; simp at h
    ·rcases hp.2 with h | h
     ·rw [hnb] at h; exact absurd h (by simp)
     ·exact h.2) H a w h
   refine wpOpIn_mono (λ a' w' ⟨H', hh⟩ => ?_) (F5 hfront)
   have hi' : i < ops.size := (Array.getElem?_eq_some_iff.1 ho).1
   have hil : i < listed.size := by rw [inv.size]; exact hi'
   have hset : ∀ j, (listed.setIfInBounds i true).getD j false = true ↔ (j = i \/ listed.getD j false = true) := by
    intro j
    by_cases hj : i = j
    ·subst hj; simp [Array.getD, hil]
    ·rw [getD_set_ne false hj]; simp [Ne.symm hj]
   have hnd : i ∉ l ++ r := by
    have := inv.nodup
    rw [List.nodup_append] at this
    obtain ⟨h1, h2, h3⟩ := this
    rw [List.nodup_cons] at h2
    intro hm
    rcases List.mem_append.1 hm with hm | hm
    ·exact h3 i hm i List.mem_cons_self rfl
    ·exact h2.1 hm
   refine ih _ (l ++ r) H' a' w' (by simp at hl ⊢; omega) ⟨hpr, ?_, ?_, ?_, by simp [inv.size], ?_⟩ hh
   ·intro j hj
    rcases inv.here j hj with h | h
    ·exact .inl ((hset j).2 (.inr h))
    ·by_cases hji : j = i
     ·exact .inl ((hset j).2 (.inl hji))
     ·refine .inr ?_
      rcases List.mem_append.1 h with h | h
      ·exact List.mem_append_left _ h
      ·exact List.mem_append_right _ ((List.mem_cons.1 h).resolve_left hji)
   ·intro j hj
    have hji : j ≠ i := λ e => hnd (e ▸ hj)
    have hjm : j ∈ l ++ i :: r := by
     rcases List.mem_append.1 hj with h | h
     ·exact List.mem_append_left _ h
     ·exact List.mem_append_right _ (List.mem_cons_of_mem _ h)
    obtain ⟨h1, h2⟩ := inv.not j hjm
    refine ⟨?_, h2⟩
    cases hc : (listed.setIfInBounds i true).getD j false with
    | false => rfl
    | true =>
     rcases (hset j).1 hc with h | h
     ·exact absurd h hji
     ·rw [h1] at h; exact absurd h (by simp)
   ·have := inv.nodup
    rw [List.nodup_append] at this ⊢
    obtain ⟨h1, h2, h3⟩ := this
    rw [List.nodup_cons] at h2
    exact ⟨h1, h2.2, λ x hx y hy => h3 x hx y (List.mem_cons_of_mem _ hy)⟩
   ·intro j x hj hx hxs
    rcases (hset j).1 hj with h | h
    ·subst h; exact (hset x).2 (.inr (hbound x hx hxs))
    ·exact (hset x).2 (.inr (inv.down j x h hx hxs))
theorem Wj {id : Nat} {a : Act} {w : World} {σ : List Nat} (hm : P.follows .mixedOrders = true) (hok : Yb cls ops B σ = true) {rd : Option Nat} {Q' : Exit -> Act -> Wp}
  (hQ : ∀ a w, Q a w -> Q' .normal a w) (h : wpS cls P ops (λ x i => !(B i).testBit x) Q σ [] a { w with drawn := w.drawn + 1 }) : (Code.region id ops true).wpIn (FW rd) 0 P Q' a w := by
 simp only [Yb, Bool.and_eq_true] at hok
 obtain ⟨⟨⟨⟨hB, hE⟩, hN⟩, hO⟩, hP⟩ := hok
 simp only [Al4, Bool.and_eq_true] at hO
 have hlen : σ.length = ops.size := Nat.eq_of_beq_eq_true hO.1.1
 have hmem : ∀ i, i < ops.size -> i ∈ σ := λ i hi => by simpa using List.all_eq_true.1 hO.2 i (List.mem_range.2 hi)
 have hlt : ∀ i ∈ σ, i < ops.size := λ i hi => by simpa using List.all_eq_true.1 hO.1.2 i hi
 have hnd : ∀ l : List Nat, Ik cls ops B l = true -> l.Nodup := by
  intro l
  induction l with
  | nil => intro _; exact List.nodup_nil
  | cons x r ih =>
   intro h
   simp only [Ik, Bool.and_eq_true] at h
   refine List.nodup_cons.2 ⟨λ hx => ?_, ih h.2⟩
   have := List.all_eq_true.1 h.1.2 x hx
   unfold Zj at this
   split at this
   ·simp at this
   ·simp at this
 have hnd := hnd σ hP
 refine wpIn_region_any hm (Rl hB hE hN hQ ops.size _ σ [] a _ hlen ⟨hP, λ i hi => .inr (hmem i hi), λ i hi => ⟨?_, hlt i hi⟩, hnd, by simp, ?_⟩ h)
 ·simp [Array.getD]
 ·intro i x hi
  simp [Array.getD] at hi
end
#print axioms Wj
structure Sl where
 a : Option Addr
 len : Nat
 cap : Nat
def scaled (n s : Nat) : Nat := match s with | 1 => n | _ => n * s
def Sl.cut (a : Option Addr) (l h m : Int) (sz : Nat) : Sl := ⟨if m.toNat = l.toNat then a else a.map (·.add (scaled l.toNat sz)), h.toNat - l.toNat, m.toNat - l.toNat⟩
structure Clo where
 fn : Fn
 first : Array Value
 captured : Array Value
inductive Cell where
 | int (k : IntKind) | bool | str | ptr | sl | map | iface | fn | any | addr
@[reducible] def Cell.T : Cell -> Type
 | .int _ => Int
 | .bool => Bool
 | .str => ByteArray
 | .ptr => Option Addr
 | .sl => Sl
 | .map => Option Nat
 | .iface => Option (TypeId × Value)
 | .fn => Option Clo
 | .any => Value
 | .addr => Addr
def Cell.val : (c : Cell) -> c.T -> Value
 | .int k, n => .int k n
 | .bool, b => .bool b
 | .str, s => .string s
 | .ptr, a => .pointer a
 | .sl, s => .slice s.a s.len s.cap
 | .map, m => .map m
 | .iface, x => match x with | none => .nilIface | some x => .iface x.1 x.2
 | .fn, x => match x with | none => .nilFunc | some c => .func c.fn c.first c.captured
 | .any, v => v
 | .addr, p => .pointer (some p)
def Cell.of : (c : Cell) -> Value -> Option c.T
 | .int k, v => match v with | .int k' n => (match decide (k' = k) with | true => some n | false => none) | _ => none
 | .bool, v => match v with | .bool b => some b | _ => none
 | .str, v => match v with | .string s => some s | _ => none
 | .ptr, v => match v with | .pointer a => some a | _ => none
 | .sl, v => match v with | .slice a l c => some ⟨a, l, c⟩ | _ => none
 | .map, v => match v with | .map m => some m | _ => none
 | .iface, v => match v with | .nilIface => some none | .iface t x => some (some (t, x)) | _ => none
 | .fn, v => match v with | .nilFunc => some none | .func f a b => some (some ⟨f, a, b⟩) | _ => none
 | .any, v => some v
 | .addr, v => match v with | .pointer a => a | _ => none
theorem Cell.Qd {c : Cell} {v : Value} {x : c.T} (h : c.of v = some x) : v = c.val x := by
 cases c <;> cases v <;> simp only [Cell.of] at h <;> first | (cases h; done) | (cases h; rfl) | skip
 ·rename_i k k' n
  split at h
  ·rename_i hk
   obtain rfl := of_decide_eq_true hk
   cases h; rfl
  ·cases h
@[reducible] def Cells.T : List Cell -> Type
 | [] => Unit
 | c :: r => c.T × Cells.T r
def Cells.vals : (cs : List Cell) -> Cells.T cs -> List Value
 | [], _ => []
 | c :: r, x => c.val x.1 :: Cells.vals r x.2
def Cells.of : (cs : List Cell) -> List Value -> Option (Cells.T cs)
 | [], l => match l with | [] => some () | _ :: _ => none
 | c :: r, l => match l with
  | [] => none
  | v :: l => match c.of v with
   | none => none
   | some x => match Cells.of r l with
    | none => none
    | some y => some (x, y)
theorem Cells.Yc : ∀ {cs : List Cell} {l : List Value} {x : Cells.T cs}, Cells.of cs l = some x -> l = Cells.vals cs x
 | [], l, x, h => by cases l <;> simp [Cells.of, Cells.vals] at h ⊢
 | c :: r, l, x, h => by
  cases l with
  | nil => simp [Cells.of] at h
  | cons v l =>
   simp only [Cells.of] at h
   split at h
   ·cases h
   ·rename_i y hy
    split at h
    ·cases h
    ·rename_i z hz
     cases h
     rw [Cells.vals, ← Cells.Yc hz, ← Cell.Qd hy]
theorem Cells.I5 : ∀ (cs : List Cell) (x : Cells.T cs), (Cells.vals cs x).length = cs.length
 | [], _ => rfl
 | c :: r, x => by simp [Cells.vals, Cells.I5 r x.2]
inductive Ty where
 | one (x : Cell)
 | agg (cs : List Cell)
@[reducible] def Ty.T : Ty -> Type
 | .one x => x.T
 | .agg cs => Cells.T cs
def Ty.val : (t : Ty) -> t.T -> Value
 | .one c, x => c.val x
 | .agg cs, x => .agg (Cells.vals cs x).toArray
def Ty.of : (t : Ty) -> Value -> Option t.T
 | .one c, v => c.of v
 | .agg cs, v => match v with | .agg l => Cells.of cs l.toList | _ => none
theorem Ty.Qd {t : Ty} {v : Value} {x : t.T} (h : t.of v = some x) : v = t.val x := by
 cases t with
 | one c => exact Cell.Qd h
 | agg cs =>
  cases v <;> simp only [Ty.of] at h <;> first | (cases h; done) | skip
  rename_i l
  have := Cells.Yc h
  simp only [Ty.val, ← this]
@[reducible] def Tys.T : List Ty -> Type
 | [] => Unit
 | c :: r => c.T × Tys.T r
def Tys.vals : (cs : List Ty) -> Tys.T cs -> List Value
 | [], _ => []
 | c :: r, x => c.val x.1 :: Tys.vals r x.2
def Tys.of : (cs : List Ty) -> List Value -> Option (Tys.T cs)
 | [], l => match l with | [] => some () | _ :: _ => none
 | c :: r, l => match l with
  | [] => none
  | v :: l => match c.of v with
   | none => none
   | some x => match Tys.of r l with
    | none => none
    | some y => some (x, y)
theorem Tys.Yc : ∀ {cs : List Ty} {l : List Value} {x : Tys.T cs}, Tys.of cs l = some x -> l = Tys.vals cs x
 | [], l, x, h => by cases l <;> simp [Tys.of, Tys.vals] at h ⊢
 | c :: r, l, x, h => by
  cases l with
  | nil => simp [Tys.of] at h
  | cons v l =>
   simp only [Tys.of] at h
   split at h
   ·cases h
   ·rename_i y hy
    split at h
    ·cases h
    ·rename_i z hz
     cases h
     rw [Tys.vals, ← Tys.Yc hz, ← Ty.Qd hy]
inductive RTy where
 | one (t : Ty)
 | tup (ts : List Ty)
@[reducible] def RTy.T : RTy -> Type
 | .one t => t.T
 | .tup ts => Tys.T ts
def RTy.val : (t : RTy) -> t.T -> Value
 | .one t, x => t.val x
 | .tup ts, x => .tuple (Tys.vals ts x).toArray
def RTy.of : (t : RTy) -> Value -> Option t.T
 | .one t, v => t.of v
 | .tup ts, v => match v with | .tuple l => Tys.of ts l.toList | _ => none
theorem RTy.Qd {t : RTy} {v : Value} {x : t.T} (h : t.of v = some x) : v = t.val x := by
 cases t with
 | one c => exact Ty.Qd h
 | tup cs =>
  cases v <;> simp only [RTy.of] at h <;> first | (cases h; done) | skip
  rename_i l
  have := Tys.Yc h
  simp only [RTy.val, ← this]
structure Inf where
 desc : TypeDesc
 size : Nat
 bytes : Nat
 zero : Option Value
 ty : Ty
 rty : RTy
def Aa3 : TypeDesc -> Bool
 | .struct _ | .array _ _ => true
 | _ => false
def Inf.wf (i : Inf) : Bool :=
 match i.ty with
 | .one _ => !Aa3 i.desc
 | .agg cs => Aa3 i.desc && Nat.beq cs.length i.size
structure Tab where
 types : List (TypeId × Inf)
 fns : List FuncId
def find? {α : Type} (t : Nat) : List (Nat × α) -> Option α
 | [] => none
 | x :: r => match Nat.beq x.1 t with | true => some x.2 | false => find? t r
def Tab.get (T : Tab) (t : TypeId) : Option Inf := find? t T.types
structure Ba (P : Program) (t : TypeId) (i : Inf) : Prop where
 und : P.underlying t = some i.desc
 info : (P.info? t).map (λ j => (j.size, j.bytes, j.zero)) = some (i.size, i.bytes, i.zero)
 wf : i.wf = true
def Ao7 (P : Program) : List (TypeId × Inf) -> Prop
 | [] => True
 | x :: r => Ba P x.1 x.2 /\ Ao7 P r
def Bk9 (P : Program) : List FuncId -> Prop
 | [] => True
 | f :: r => ((P.funcs[f]?).map λ fn => (fn.body.isNone, fn.name == "runtime.NumGoroutine")) = some (false, false) /\ Bk9 P r
structure Tab.Ok (T : Tab) (P : Program) : Prop where
 types : Ao7 P T.types
 fns : Bk9 P T.fns
 mixed : P.follows .mixedOrders = true
theorem find_ok {P : Program} : ∀ {l : List (TypeId × Inf)} {t : TypeId} {i : Inf}, Ao7 P l -> find? t l = some i -> Ba P t i
 | [], t, i, _, h => by cases h
 | x :: r, t, i, ok, h => by
  simp only [find?] at h
  split at h
  ·rename_i e
   obtain rfl := Nat.eq_of_beq_eq_true e
   cases h
   exact ok.1
  ·exact find_ok ok.2 h
theorem Tab.Ok.get {T : Tab} {P : Program} (ok : T.Ok P) {t : TypeId} {i : Inf} (h : T.get t = some i) : Ba P t i := find_ok ok.types h
theorem Bx7 {P : Program} : ∀ {l : List FuncId} {f : FuncId}, Bk9 P l -> l.elem f = true -> ((P.funcs[f]?).map λ fn => (fn.body.isNone, fn.name == "runtime.NumGoroutine")) = some (false, false)
 | [], f, _, h => by cases h
 | x :: r, f, ok, h => by
  rw [List.elem_cons] at h
  split at h
  ·rename_i e
   have : f = x := by simpa using e
   rw [this]; exact ok.1
  ·exact Bx7 ok.2 h
section infos
variable {P : Program} {t : TypeId} {i : Inf} (h : Ba P t i) (w : World)
include h
theorem Ba.Bj1 : ∃ j, P.info? t = some j /\ j.size = i.size /\ j.bytes = i.bytes /\ j.zero = i.zero := by
 have := h.info
 cases hj : P.info? t with
 | none => rw [hj] at this; cases this
 | some j => rw [hj] at this; simp at this; exact ⟨j, rfl, this.1, this.2.1, this.2.2⟩
theorem Ba.Fp : (underlying t).run P w = .ok i.desc w := run_underlying h.und w
theorem Ba.Gi : (sizeOf t).run P w = .ok i.size w := by
 obtain ⟨j, hj, hs, _⟩ := h.Bj1
 simp [sizeOf, run_typeInfo w hj, hs]
theorem Ba.Oa {z : Value} (hz : i.zero = some z) : (zeroValue t).run P w = .ok z w := by
 obtain ⟨j, hj, _, _, hz'⟩ := h.Bj1
 simp [zeroValue, run_typeInfo w hj, hz', hz]
theorem Ba.Vf : (isAgg t).run P w = .ok (Aa3 i.desc) w := by
 simp only [isAgg, Sem.run_bind, h.Fp, Result.andThen_ok]
 cases i.desc <;> rfl
end infos
def cdE {X : Type} (c : X -> Prop) (K : X -> Wp) : World -> Prop := λ w => ∃ x, c x /\ K x w
def rdE {X : Type} (rd : X -> Wp) (K : X -> Wp) : World -> Prop := λ w => ∃ x, rd x w /\ K x w
def keep (p : World -> Prop) (K : World -> Prop) : World -> Prop := λ w => p w /\ K w
def sif (b : Bool) (A B : World -> Prop) : World -> Prop := λ w => (b = true -> A w) /\ (b = false -> B w)
def Af (o : Obj) (K : Nat -> Wp) : World -> Prop := λ w => K w.heap.size (w.alloc o)
def stC (p : Addr) (v : Value) (K : World -> Prop) : World -> Prop := λ w => ((∃ u, w.cell? p = some u) /\ w.frozen? p = false) /\ K (w.setCell p v)
def Bs7 (p : Addr) : Nat -> List Value -> (World -> Prop) -> World -> Prop
 | _, [], K => K
 | i, v :: r, K => stC (p.add i) v (Bs7 p (i + 1) r K)
def Ak (w : World) (p : Addr) : Nat -> List Value -> Prop
 | _, [] => True
 | i, v :: r => w.cell? (p.add i) = some v /\ Ak w p (i + 1) r
def Dz (P : Program) (t : RTy) (s : Sem Value) (K : t.T -> Wp) : World -> Prop := λ w => ∃ x w', s.run P w = .ok (t.val x) w' /\ K x w'
def Cm4 (P : Program) (s : Sem Unit) (K : World -> Prop) : World -> Prop := λ w => ∃ w', s.run P w = .ok () w' /\ K w'
def Aa (P : Program) (f : FuncId) (args : Array Value) (t : RTy) (K : t.T -> Wp) : World -> Prop :=
 λ w => Calls P f args w λ e w' => ∃ x, e = .returned (t.val x) /\ K x w'
def Cb (P : Program) (s : Sem Next) (t : RTy) (K : t.T -> Wp) : World -> Prop :=
 λ w => (∃ f args, s.run P w = .ok (.enter f args) w /\ Aa P f args t K w) \/ (∃ x w', s.run P w = .ok (.value (t.val x)) w' /\ K x w') \/
  ∃ l f tmps assign body, s.run P w = .ok (.round l f tmps assign body) w /\ RoundIn (FW none) 0 P l f tmps assign body w λ e w' => ∃ x, e = .returned (t.val x) /\ K x w'
def Cr4 (P : Program) (s : Sem Value) (K : Bool -> List Value -> Wp) : World -> Prop := λ w =>
 ∃ b rest w', s.run P w = .ok (.tuple (.bool b :: rest).toArray) w' /\ K b rest w'
def Ck3 (P : Program) (s : Sem Value) (K : Int -> Int -> Wp) (K0 : World -> Prop) : World -> Prop := λ w =>
 (∃ p c w', s.run P w = .ok (.tuple #[.bool true, .int .i64 p, .int .i32 c]) w' /\ K p c w') \/ ∃ w', s.run P w = .ok (.tuple #[.bool false]) w' /\ K0 w'
def Bb8 (P : Program) (v : Value) (m : String) : Prop := ∃ t u, v = .iface t u /\ ∀ w, (nilAhead (P.types.size + Made.depth) t u m).run P w = .ok (some false) w
inductive QR where
 | no
 | val (v : Value)
 | cond {X : Type} (c : X -> Prop) (val : X -> Value)
 | read {X : Type} (rd : X -> Wp) (val : X -> Value)
abbrev Ev := Operand -> Option Value
def Co1 (op : BinOp) (k : IntKind) (x y : Int) : QR :=
 match op with
 | .add => .val (.int k (k.wrap (x + y)))
 | .sub => .val (.int k (k.wrap (x - y)))
 | .mul => .val (.int k (k.wrap (x * y)))
 | .quo => .cond (λ _ : Unit => y ≠ 0) (λ _ => .int k (k.wrap (x.tdiv y)))
 | .rem => .cond (λ _ : Unit => y ≠ 0) (λ _ => .int k (x.tmod y))
 | .and => .val (.int k (k.wrap (BitVec.ofInt k.bits x &&& BitVec.ofInt k.bits y).toNat))
 | .or => .val (.int k (k.wrap (BitVec.ofInt k.bits x ||| BitVec.ofInt k.bits y).toNat))
 | .xor => .val (.int k (k.wrap (BitVec.ofInt k.bits x ^^^ BitVec.ofInt k.bits y).toNat))
 | .andNot => .val (.int k (k.wrap (BitVec.ofInt k.bits x &&& ~~~BitVec.ofInt k.bits y).toNat))
 | .eql => .val (.bool (x == y))
 | .neq => .val (.bool (x != y))
 | .lss => .val (.bool (x < y))
 | .leq => .val (.bool (x <= y))
 | .gtr => .val (.bool (x > y))
 | .geq => .val (.bool (x >= y))
 | _ => .no
def Bc7 (op : BinOp) (k : IntKind) (x y : Int) : QR :=
 match op with
 | .shl => .cond (λ _ : Unit => 0 <= y) (λ _ => .int k (k.wrap (x * 2 ^ (min y.toNat k.bits))))
 | .shr => .cond (λ _ : Unit => 0 <= y) (λ _ => .int k (x.fdiv (2 ^ (min y.toNat k.bits))))
 | _ => .no
def Cm2 (op : BinOp) (x y : ByteArray) : QR :=
 match op with
 | .add => .cond (λ _ : Unit => ((x.size + y.size : Nat) : Int) <= IntKind.i64.max) (λ _ => .string (x ++ y))
 | .eql => .val (.bool (x.toList == y.toList))
 | .neq => .val (.bool !(x.toList == y.toList))
 | .lss => .val (.bool (Op.bytesLess x.toList y.toList))
 | .leq => .val (.bool (Op.bytesLess x.toList y.toList || x.toList == y.toList))
 | .gtr => .val (.bool !(Op.bytesLess x.toList y.toList || x.toList == y.toList))
 | .geq => .val (.bool !(Op.bytesLess x.toList y.toList))
 | _ => .no
def Yh : BinOp -> Bool
 | .shl | .shr => true
 | _ => false
def Bx2 : Operand -> Bool
 | .const (.pointer none) | .const (.slice none 0 0) | .const (.map none) | .const .nilIface | .const .nilFunc => true
 | _ => false
def Nk (d : TypeDesc) (x y : Value) : Option Bool :=
 match d, x, y with
 | .pointer _, .pointer a, .pointer none => some a.isNone
 | .slice _, .slice a _ _, .slice none _ _ => some a.isNone
 | .map _ _, .map m, .map none => some m.isNone
 | _, _, _ => none
def Cb1 (T : Tab) (P : Program) (op : BinOp) (xType : TypeId) (x y : Operand) (a b : Value) : QR :=
 match a, b with
 | .int k m, .int k' n => match Yh op with
  | true => Bc7 op k m n
  | false => match decide (k' = k) with | true => Co1 op k m n | false => .no
 | .string s, .string s' => Cm2 op s s'
 | a, b =>
  match op with
  | .eql => match Bx2 y, T.get xType with
   | true, some i => match Nk i.desc a b with
    | some r => .val (.bool r)
    | none => .read (λ (r : Bool) w => (do eqGuard op xType x y a b; binOp op xType a b : Sem Value).run P w = .ok (.bool r) w) (λ r => .bool r)
   | _, _ => .read (λ (r : Bool) w => (do eqGuard op xType x y a b; binOp op xType a b : Sem Value).run P w = .ok (.bool r) w) (λ r => .bool r)
  | .neq => match Bx2 y, T.get xType with
   | true, some i => match Nk i.desc a b with
    | some r => .val (.bool !r)
    | none => .read (λ (r : Bool) w => (do eqGuard op xType x y a b; binOp op xType a b : Sem Value).run P w = .ok (.bool r) w) (λ r => .bool r)
   | _, _ => .read (λ (r : Bool) w => (do eqGuard op xType x y a b; binOp op xType a b : Sem Value).run P w = .ok (.bool r) w) (λ r => .bool r)
  | _ => .no
def Cs4 : TypeDesc -> Bool
 | .func _ _ _ => true
 | .interface _ => true
 | _ => false
def Aa2 (T : Tab) (t : TypeId) : Bool := match T.get t with | some i => Cs4 i.desc | none => false
def Cp2 (T : Tab) (P : Program) (op : BinOp) (xType : TypeId) (x y : Operand) (a b : Value) : QR :=
 match Aa2 T xType with
 | true => match op with
  | .eql => .read (λ (r : Bool) w => (do eqGuard op xType x y a b; binOp op xType a b : Sem Value).run P w = .ok (.bool r) w) (λ r => .bool r)
  | .neq => .read (λ (r : Bool) w => (do eqGuard op xType x y a b; binOp op xType a b : Sem Value).run P w = .ok (.bool r) w) (λ r => .bool r)
  | _ => .no
 | false => Cb1 T P op xType x y a b
def At1 (T : Tab) (t : TypeId) (p : Addr) : QR :=
 match T.get t with
 | some i => match i.ty with
  | .one c => .read (λ (x : c.T) w => w.cell? p = some (c.val x)) (λ x => c.val x)
  | .agg cs => .read (λ (x : Cells.T cs) w => Ak w p 0 (Cells.vals cs x)) (λ x => .agg (Cells.vals cs x).toArray)
 | none => .no
def bnd (v : Option Value) (d : Nat) : Option (Int × Bool) :=
 match v with
 | none => some (d, false)
 | some (.int _ n) => some (n, true)
 | _ => none
def Az0 (T : Tab) (t : TypeId) (x : Value) (lo hi mx : Option Value) : QR :=
 match T.get t with
 | some i => match i.desc, x with
  | .slice e, .slice a len cap => match T.get e, bnd lo 0, bnd hi len, bnd mx cap with
   | some j, some l, some h, some m => match hi, mx with
    | none, some _ => .no
    | _, _ => .cond (λ _ : Unit => 0 <= l.1 /\ l.1 <= h.1 /\ h.1 <= m.1 /\ m.1 <= cap) (λ _ => .slice (Sl.cut a l.1 h.1 m.1 j.size).a (Sl.cut a l.1 h.1 m.1 j.size).len (Sl.cut a l.1 h.1 m.1 j.size).cap)
   | _, _, _, _ => .no
  | .string, .string s => match bnd lo 0, bnd hi s.size, mx with
   | some l, some h, none => .cond (λ _ : Unit => 0 <= l.1 /\ l.1 <= h.1 /\ h.1 <= s.size) (λ _ => .string (s.extract l.1.toNat h.1.toNat))
   | _, _, _ => .no
  | .array n e, .pointer (some a) => match T.get e, bnd lo 0, bnd hi n, bnd mx n with
   | some j, some l, some h, some m => match hi, mx with
    | none, some _ => .no
    | _, _ => .cond (λ _ : Unit => 0 <= l.1 /\ l.1 <= h.1 /\ h.1 <= m.1 /\ m.1 <= n) (λ _ => .slice (Sl.cut (some a) l.1 h.1 m.1 j.size).a (Sl.cut (some a) l.1 h.1 m.1 j.size).len (Sl.cut (some a) l.1 h.1 m.1 j.size).cap)
   | _, _, _, _ => .no
  | _, _ => .no
 | none => .no
def Bu6 (T : Tab) (t : TypeId) (cs : List Value) (off : Nat) : QR :=
 match T.get t with
 | some i => match Aa3 i.desc with
  | true => .val (.agg ((cs.drop off).take i.size).toArray)
  | false => match cs[off]? with
   | some v => .val v
   | none => .no
 | none => .no
def Y0 : List Value -> Nat -> List Value -> List Value
 | cs, _, [] => cs
 | cs, off, v :: r => Y0 (cs.set off v) (off + 1) r
def evs (ev : Ev) : List Operand -> Option (List Value)
 | [] => some []
 | x :: r => match ev x, evs ev r with
  | some v, some l => some (v :: l)
  | _, _ => none
def Wy (place : Nat -> Option (Nat × Nat)) : List Value -> List (Nat × Value) -> Option (List Value)
 | cs, [] => some cs
 | cs, p :: r => match place p.1 with
  | none => none
  | some os => match Nat.beq p.2.cells.toList.length os.2 && Nat.ble (os.1 + p.2.cells.toList.length) cs.length with
   | true => Wy place (Y0 cs os.1 p.2.cells.toList) r
   | false => none
def Bd9 (ev : Ev) : List (Nat × Operand) -> Option (List (Nat × Value))
 | [] => some []
 | x :: r => match ev x.2, Bd9 ev r with
  | some v, some l => some ((x.1, v) :: l)
  | _, _ => none
def P6 (T : Tab) : List Field -> Option (List (Nat × Nat))
 | [] => some []
 | f :: r => match T.get f.type, P6 T r with
  | some j, some l => some ((f.offset, j.size) :: l)
  | _, _ => none
def Bf1 (T : Tab) (t : TypeId) (ps : List (Nat × Value)) : QR :=
 match T.get t with
 | some i => match i.desc, i.zero with
  | .struct fs, some z => match P6 T fs.toList with
   | some pl => match Wy (λ k => pl[k]?) z.cells.toList ps with
    | some cs => .val (.agg cs.toArray)
    | none => .no
   | none => .no
  | .array _ e, some z => match T.get e with
   | some j => match Wy (λ k => some (k * j.size, j.size)) z.cells.toList ps with
    | some cs => .val (.agg cs.toArray)
    | none => .no
   | none => .no
  | _, _ => .no
 | none => .no
def Cf2 (isMax : Bool) : List Value -> QR
 | [.int k x, .int _ y] => .val (.int k (match isMax with | true => if y > x then y else x | false => if y < x then y else x))
 | _ => .no
def quiet (T : Tab) (P : Program) (ev : Ev) (o : Oper) : QR :=
 match o.op with
 | .move x | .assign x => match ev x with | some v => .val v | none => .no
 | .pick c a b => match ev c with
  | some (.bool true) => (match ev a with | some v => .val v | none => .no)
  | some (.bool false) => (match ev b with | some v => .val v | none => .no)
  | _ => .no
 | .nilCheck x => match ev x with
  | some (.pointer p) => .cond (λ (a : Addr) => p = some a) (λ a => .pointer (some a))
  | some (.func (.func f) a b) => .val (.func (.func f) a b)
  | some (.iface t v) => .val (.iface t v)
  | some (.func (.method m) a b) => (match a.toList with
   | v :: _ => .cond (λ (_ : Unit) => Bb8 P v m) (λ _ => .func (.method m) a b)
   | [] => .no)
  | _ => .no
 | .fieldAddr s x f => match ev x, T.get s with
  | some (.pointer (some a)), some i => match i.desc with
   | .struct fs => match fs.toList[f]? with
    | some fd => match T.get fd.type with
     | some j => match Nat.beq j.size 0 with
      | false => .val (.pointer (some (a.add fd.offset)))
      | true => .no
     | none => .no
    | none => .no
   | _ => .no
  | _, _ => .no
 | .field s x f => match ev x, T.get s with
  | some (.agg cs), some i => match i.desc with
   | .struct fs => match fs.toList[f]? with
    | some fd => Bu6 T fd.type cs.toList fd.offset
    | none => .no
   | _ => .no
  | _, _ => .no
 | .indexAddr t x ix => match ev x, ev ix, T.get t with
  | some (.slice a len _), some (.int _ n), some i => match i.desc with
   | .slice e => match T.get e with
    | some j => .cond (λ (p : Addr) => a = some p /\ 0 <= n /\ n < len) (λ p => .pointer (some (p.add (scaled n.toNat j.size))))
    | none => .no
   | _ => .no
  | some (.pointer (some p)), some (.int _ n), some i => match i.desc with
   | .array len e => match T.get e with
    | some j => .cond (λ (_ : Unit) => 0 <= n /\ n < len) (λ _ => .pointer (some (p.add (scaled n.toNat j.size))))
    | none => .no
   | _ => .no
  | _, _, _ => .no
 | .index t x ix => match ev x, ev ix, T.get t with
  | some (.string s), some (.int _ n), some i => match i.desc with
   | .string => .cond (λ (b : UInt8) => 0 <= n /\ s[n.toNat]? = some b) (λ b => .int .u8 b.toNat)
   | _ => .no
  | _, _, _ => .no
 | .load t x => match ev x with
  | some (.pointer (some p)) => At1 T t p
  | _ => .no
 | .binOp op t x y _ => match ev x, ev y with
  | some a, some b => Cp2 T P op t x y a b
  | _, _ => .no
 | .unOp op _ x => match op, ev x with
  | .not, some (.bool b) => .val (.bool !b)
  | .neg, some (.int k n) => .val (.int k (k.wrap (0 - n)))
  | _, _ => .no
 | .convert src dst x => match ev x, T.get src, T.get dst with
  | some (.int _ n), some i, some j => match i.desc, j.desc with
   | .int _, .int k => .val (.int k (k.wrap n))
   | _, _ => .no
  | _, _, _ => .no
 | .extract t ix => match ev t with
  | some (.tuple vs) => match vs.toList[ix]? with | some v => .val v | none => .no
  | _ => .no
 | .build t parts => match Bd9 ev parts.toList with
  | some ps => Bf1 T t ps
  | none => .no
 | .slice t x lo hi mx => match ev x, (match lo with | none => some none | some y => (ev y).map some), (match hi with | none => some none | some y => (ev y).map some), (match mx with | none => some none | some y => (ev y).map some) with
  | some v, some l, some h, some m => Az0 T t v l h m
  | _, _, _, _ => .no
 | .makeInterface t x => match ev x, T.get t with
  | some v, some i => match i.desc with
   | .interface _ => .no
   | _ => .val (.iface t v)
  | _, _ => .no
 | .makeFunc fn first captured => match evs ev first.toList, evs ev captured.toList with
  | some a, some b => .val (.func fn a.toArray b.toArray)
  | _, _ => .no
 | .lookup t m k ok => match ev m, ev k, T.get o.type with
  | some vm, some vk, some i => .read (λ (x : i.rty.T) w => (Instr.lookup t vm vk ok).run P w = .ok (i.rty.val x) w) (λ x => i.rty.val x)
  | _, _, _ => .no
 | .call c => match c.callee with
  | .builtin b => match evs ev c.args.toList, c.argTypes.toList with
   | some [x], [t] => match b, x, T.get t with
    | .len, .slice _ n _, some i => (match i.desc with | .slice _ => .val (.int .i64 n) | _ => .no)
    | .cap, .slice _ _ n, some i => (match i.desc with | .slice _ => .val (.int .i64 n) | _ => .no)
    | .len, .string s, some i => (match i.desc with | .string => .val (.int .i64 s.size) | _ => .no)
    | .len, .map m, some i => (match i.desc with
     | .map _ _ => .read (λ (n : Int) w => (Builtin.len_ c.argTypes o.type #[.map m]).run P w = .ok (.int .i64 n) w) (λ n => .int .i64 n)
     | _ => .no)
    | _, _, _ => .no
   | some l, _ => match b with
    | .max => Cf2 true l
    | .min => Cf2 false l
    | _ => .no
   | none, _ => .no
  | _ => .no
 | _ => .no
def Tab.cls (T : Tab) : Op -> Cl
 | .move _ | .assign _ | .pick .. | .nilCheck _ | .fieldAddr .. | .field .. | .indexAddr .. | .index .. | .unOp .. | .extract .. | .build .. | .slice .. | .makeInterface .. | .makeFunc .. => .free
 | .load .. | .lookup .. | .binOp .. => .read
 | .convert src dst _ => match T.get src, T.get dst with
  | some i, some j => (match i.desc, j.desc with | .int _, .int _ => .free | _, _ => .eff)
  | _, _ => .eff
 | .call c => match c.callee with
  | .builtin .len | .builtin .cap | .builtin .max | .builtin .min => .read
  | _ => .eff
 | _ => .eff
def Ez : Value -> Bool
 | .agg _ | .tuple _ => false
 | _ => true
def Ui : List Value -> Bool
 | [] => true
 | v :: r => Ez v && Ui r
def Au5 : List Value -> List (Nat × Value) -> Option (List Value)
 | cs, [] => some cs
 | cs, p :: r => match Nat.blt p.1 cs.length with
  | true => Au5 (cs.set p.1 p.2) r
  | false => none
def Ae (p : Addr) (v : Value) (n : Nat) (K : World -> Prop) : World -> Prop :=
 match Nat.beq v.cells.toList.length n && v.cells.toList.all Ez with
 | true => Bs7 p 0 v.cells.toList K
 | false => λ _ => False
def eff (T : Tab) (P : Program) (ev : Ev) (o : Oper) (rt : Option RTy) (K : Value -> Wp) : World -> Prop :=
 match o.op with
 | .alloc t => match T.get t with
  | some i => match i.zero with
   | some z => Af (.cells z.cells t) λ b => K (.pointer (some ⟨b, 0, none⟩))
   | none => λ _ => False
  | none => λ _ => False
 | .box t x => match ev x with
  | some v => (match Aa2 T t with
   | true => cdE (λ _ : Unit => Ui [v] = true) (λ _ => Af (.cells #[v] t) λ b => K (.pointer (some ⟨b, 0, none⟩)))
   | false => Af (.cells v.cells t) λ b => K (.pointer (some ⟨b, 0, none⟩)))
  | none => λ _ => False
 | .buildSlice t len parts => match Bd9 ev parts.toList, T.get t with
  | some ps, some i => match i.desc with
   | .slice e => match T.get e with
    | some j => match j.zero, Nat.ble (len * j.size) (2 ^ 24) && !Nat.beq j.size 0 with
     | some z, true => (match Aa2 T e && Nat.beq j.size 1 with
      | true => cdE (λ _ : Unit => Ui (ps.map (·.2)) = true) (λ _ => match Au5 ((List.range (len * j.size)).map λ k => (z.cells.toList)[k % z.cells.toList.length]?.getD default) ps with
       | some cs => Af (.cells cs.toArray e) λ b => K (.slice (some ⟨b, 0, none⟩) len len)
       | none => λ _ => False)
      | false => match Wy (λ k => some (k * j.size, j.size)) ((List.range (len * j.size)).map λ k => (z.cells.toList)[k % z.cells.toList.length]?.getD default) ps with
       | some cs => Af (.cells cs.toArray e) λ b => K (.slice (some ⟨b, 0, none⟩) len len)
       | none => λ _ => False)
     | _, _ => λ _ => False
    | none => λ _ => False
   | _ => λ _ => False
  | _, _ => λ _ => False
 | .store t a x => match ev a, ev x, T.get t with
  | some (.pointer (some p)), some v, some i => match i.ty, Ez v with
   | .one .any, _ => (match Nat.beq i.size 1 with | true => cdE (λ _ : Unit => Ez v = true) (λ _ => stC p v (K undef)) | false => λ _ => False)
   | .one _, true => (match Nat.beq i.size 1 with | true => stC p v (K undef) | false => λ _ => False)
   | .agg _, _ => Ae p v i.size (K undef)
   | _, false => λ _ => False
  | _, _, _ => λ _ => False
 | .makeMap _ none => Af (.map #[] 0) λ b => K (.map (some b))
 | .makeSlice t l c => match ev l, ev c, rt with
  | some vl, some vc, some i => Dz P i (Instr.makeSlice t vl vc) λ x => K (i.val x)
  | _, _, _ => λ _ => False
 | .convert s d x => match ev x, rt with
  | some v, some i => Dz P i (convert s d v) λ x => K (i.val x)
  | _, _ => λ _ => False
 | .mapUpdate t m k x => match ev m, ev k, ev x with
  | some vm, some vk, some vx => Cm4 P (Instr.mapUpdate t vm vk vx) (K undef)
  | _, _, _ => λ _ => False
 | .insert t m k x => match ev m, ev k, ev x with
  | some vm, some vk, some vx => Cm4 P (Instr.mapUpdate t vm vk vx) (K undef)
  | _, _, _ => λ _ => False
 | .mapEntry t m k => match ev m, ev k, rt with
  | some vm, some vk, some i => Dz P i (Instr.mapEntry t vm vk) λ x => K (i.val x)
  | _, _, _ => λ _ => False
 | .entryStore t m s x => match ev m, ev s, ev x with
  | some vm, some vs, some vx => Cm4 P (Instr.entryStore t vm vs vx) (K undef)
  | _, _, _ => λ _ => False
 | .range t x => match ev x with
  | some v => Dz P (.one (.one .ptr)) (Instr.range t v) λ x => K (.pointer x)
  | none => λ _ => False
 | .next it str => match ev it with
  | some v => match str with
   | false => Cr4 P (Instr.next v str o.type) λ b rest => K (.tuple (.bool b :: rest).toArray)
   | true => Ck3 P (Instr.next v str o.type) (λ p c => K (.tuple #[.bool true, .int .i64 p, .int .i32 c])) (K (.tuple #[.bool false]))
  | none => λ _ => False
 | .entry it => match ev it, rt with
  | some v, some i => Dz P i (Instr.entry v) λ x => K (i.val x)
  | _, _ => λ _ => False
 | .typeAssert x xt as_ ok => match ev x, rt with
  | some v, some i => Dz P i (Instr.typeAssert v xt as_ ok) λ x => K (i.val x)
  | _, _ => λ _ => False
 | .waits g => match rt with
  | some i => Dz P i (Instr.waits g) λ x => K (i.val x)
  | _ => λ _ => False
 | .call c => match evs ev c.args.toList, rt with
  | some args, some i => match c.callee with
   | .builtin b => match b with
    | .append => Dz P i (Builtin.append_ c.argTypes o.type args.toArray) λ x => K (i.val x)
    | .copy => Dz P i (Builtin.copy_ c.argTypes o.type args.toArray) λ x => K (i.val x)
    | .delete => Dz P i (Builtin.delete_ c.argTypes o.type args.toArray) λ x => K (i.val x)
    | .clear => Dz P i (Builtin.clear_ c.argTypes o.type args.toArray) λ x => K (i.val x)
    | _ => λ _ => False
   | .value f => match f with
    | .func g => match T.fns.elem g with
     | true => Aa P g args.toArray i λ x => K (i.val x)
     | false => Cb P (callFunc g args.toArray) i λ x => K (i.val x)
    | f => match ev f with
     | some vf => Cb P (do let d ← Deferred.ofValue vf args.toArray; invoke d.target d.args) i λ x => K (i.val x)
     | none => λ _ => False
   | .invoke r name => match ev r with
    | some vr => Cb P (invoke (.fn (.method name) #[]) (#[vr] ++ args.toArray)) i λ x => K (i.val x)
    | none => λ _ => False
  | _, _ => λ _ => False
 | _ => λ _ => False
def QR.holds (P : Program) (q : QR) (s : Sem Next) : Prop :=
 match q with
 | .no => True
 | .val v => ∀ w, s.run P w = .ok (.value v) w
 | .cond c f => ∀ x, c x -> ∀ w, s.run P w = .ok (.value (f x)) w
 | .read rd f => ∀ x w, rd x w -> s.run P w = .ok (.value (f x)) w
section
variable {T : Tab} {P : Program} {ev : Ev} {ρ : Operand -> Value}
theorem Dx (n s : Nat) : scaled n s = n * s := by
 unfold scaled
 split
 ·simp
 ·rfl
theorem En {v : Value} {s : Sem Value} (h : ∀ w, s.run P w = .ok v w) : (QR.val v).holds P (do pure (.value (← s))) := by
 intro w; simp [h w]
theorem Hl {X : Type} {c : X -> Prop} {val : X -> Value} {s : Sem Value} (h : ∀ x, c x -> ∀ w, s.run P w = .ok (val x) w) : (QR.cond c val).holds P (do pure (.value (← s))) := by
 intro x hx w; simp [h x hx w]
theorem La {X : Type} {rd : X -> Wp} {val : X -> Value} {s : Sem Value} (h : ∀ x w, rd x w -> s.run P w = .ok (val x) w) : (QR.read rd val).holds P (do pure (.value (← s))) := by
 intro x w hx; simp [h x w hx]
theorem Cf9 (op : BinOp) (k : IntKind) (x y : Int) (xt : TypeId) (a b : Operand) (hs : Yh op = false) : (Co1 op k x y).holds P (do pure (.value (← (do eqGuard op xt a b (.int k x) (.int k y); binOp op xt (.int k x) (.int k y))))) := by
 cases op <;> simp only [Yh] at hs <;> simp only [Co1] <;> first
  | (refine En λ w => ?_; simp [eqGuard, binOp, Op.intArith, Op.intBits, Op.intCmp]; done)
  | (refine Hl λ _ hy w => ?_; simp [eqGuard, binOp, Op.intDiv, hy]; done)
  | trivial
  | (exact absurd hs (by simp))
theorem Bo9 (op : BinOp) (k k' : IntKind) (x y : Int) (xt : TypeId) (a b : Operand) (hs : Yh op = true) : (Bc7 op k x y).holds P (do pure (.value (← (do eqGuard op xt a b (.int k x) (.int k' y); binOp op xt (.int k x) (.int k' y))))) := by
 cases op <;> simp only [Yh] at hs <;> simp only [Bc7] <;> first
  | (refine Hl λ _ hy w => ?_; simp [eqGuard, binOp, Op.shift, Int.not_lt.2 hy]; done)
  | (exact absurd hs (by simp))
theorem Ce1 (op : BinOp) (x y : ByteArray) (xt : TypeId) (a b : Operand) : (Cm2 op x y).holds P (do pure (.value (← (do eqGuard op xt a b (.string x) (.string y); binOp op xt (.string x) (.string y))))) := by
  cases op <;> simp only [Cm2] <;> first
    | (refine En λ w => ?_; simp [eqGuard, binOp, Op.stringOp]; done)
    | (refine Hl λ _ hy w => ?_; have hn : ¬ (((x.size + y.size : Nat) : Int) > IntKind.i64.max) := by omega
       have he : (eqGuard .add xt a b (.string x) (.string y)).run P w = .ok () w := rfl
       have hb : (binOp .add xt (.string x) (.string y)).run P w = .ok (.string (x ++ y)) w := by
         show (Op.stringOp .add x y).run P w = _
         unfold Op.stringOp; simp only [if_neg hn]; rfl
       simp only [Sem.run_bind, he, hb, Result.andThen_ok])
    | trivial
theorem Bb6 {t : TypeId} {d : TypeDesc} {a b : Value} {r : Bool} (n : Nat) (hu : P.underlying t = some d) (h : Nk d a b = some r) (w : World) : (Op.equalIn (n + 1) t a b).run P w = .ok r w := by
 unfold Nk at h
 simp only [Op.equalIn, Sem.run_bind, run_underlying hu, Result.andThen_ok]
 split at h
 ·rename_i e a; cases h; cases a <;> rfl
 ·rename_i e a n c m k; cases h; cases a <;> rfl
 ·rename_i k e m; cases h; cases m <;> rfl
 ·cases h
theorem Bb7 {t : TypeId} {d : TypeDesc} {a b : Value} {r : Bool} (hu : P.underlying t = some d) (h : Nk d a b = some r) (w : World) : (Op.equal t a b).run P w = .ok r w :=
 Bb6 9999 hu h w
theorem Ws {t : TypeId} {d : TypeDesc} {a b : Value} {r : Bool} (h : Nk d a b = some r) (op : BinOp) (x y : Operand) (w : World) : (eqGuard op t x y a b).run P w = .ok () w := by
 unfold Nk at h
 split at h
 ·unfold eqGuard; split <;> rfl
 ·unfold eqGuard; split <;> rfl
 ·unfold eqGuard; split <;> rfl
 ·cases h
theorem H8 {t : TypeId} {d : TypeDesc} {a b : Value} {r : Bool} (hu : P.underlying t = some d) (h : Nk d a b = some r) (w : World) :
  (binOp .eql t a b).run P w = .ok (.bool r) w /\ (binOp .neq t a b).run P w = .ok (.bool !r) w := by
 have he := Bb7 hu h w
 unfold Nk at h
 split at h
 ·simp [binOp, he]
 ·simp [binOp, he]
 ·simp [binOp, he]
 ·cases h
theorem Cb0 (ok : T.Ok P) (op : BinOp) (xt : TypeId) (x y : Operand) (a b : Value) : (Cb1 T P op xt x y a b).holds P (do pure (.value (← (do eqGuard op xt x y a b; binOp op xt a b)))) := by
 unfold Cb1
 split
 ·rename_i k m k' n
  split
  ·rename_i hs; exact Bo9 op k k' m n xt x y hs
  ·rename_i hs
   split
   ·rename_i hk; obtain rfl := of_decide_eq_true hk; exact Cf9 op _ m n xt x y hs
   ·trivial
 ·exact Ce1 op _ _ xt x y
 ·have hread : ∀ o, (QR.read (λ (r : Bool) w => (do eqGuard o xt x y a b; binOp o xt a b : Sem Value).run P w = .ok (.bool r) w) (λ r => .bool r)).holds P (do pure (.value (← (do eqGuard o xt x y a b; binOp o xt a b)))) :=
   λ o => La λ x w h => h
  split
  ·split
   ·rename_i i _ hi
    split
    ·rename_i r hr
     refine En λ w => ?_
     simp [Ws hr, (H8 (ok.get hi).und hr w).1]
    ·exact hread _
   ·exact hread _
  ·split
   ·rename_i i _ hi
    split
    ·rename_i r hr
     refine En λ w => ?_
     simp [Ws hr, (H8 (ok.get hi).und hr w).2]
    ·exact hread _
   ·exact hread _
  ·trivial
theorem Ci6 (ok : T.Ok P) (op : BinOp) (xt : TypeId) (x y : Operand) (a b : Value) : (Cp2 T P op xt x y a b).holds P (do pure (.value (← (do eqGuard op xt x y a b; binOp op xt a b)))) := by
 unfold Cp2
 split
 ·split
  ·exact La λ x w h => h
  ·exact La λ x w h => h
  ·trivial
 ·exact Cb0 ok op xt x y a b
theorem run_loadCells : ∀ (vs : List Value) (p : Addr) (i : Nat) (acc : Array Value) (w : World), Ak w p i vs -> (loadCellsFrom p i vs.length acc).run P w = .ok (acc ++ vs.toArray) w
 | [], p, i, acc, w, _ => by simp [loadCellsFrom]
 | v :: r, p, i, acc, w, h => by
  simp only [List.length_cons, loadCellsFrom, load, Sem.run_bind, Sem.run, h.1, Result.andThen_ok]
  rw [run_loadCells r p (i + 1) (acc.push v) w h.2]
  simp
theorem As9 (ok : T.Ok P) (t : TypeId) (p : Addr) : (At1 T t p).holds P (do pure (.value (← Instr.loadAt t (.pointer (some p))))) := by
 unfold At1
 split
 ·rename_i i hi
  have io := ok.get hi
  have hw := io.wf
  unfold Inf.wf at hw
  split
  ·rename_i c hc
   rw [hc] at hw
   have hw : Aa3 i.desc = false := by simpa using hw
   refine La λ x w h => ?_
   simp [Instr.loadAt, Instr.sureAddr, loadVar, io.Vf, hw, load, Sem.run, h]
  ·rename_i cs hc
   rw [hc] at hw
   simp only [Bool.and_eq_true] at hw
   have hn : cs.length = i.size := Nat.eq_of_beq_eq_true hw.2
   refine La λ x w h => ?_
   have hl := run_loadCells (P := P) (Cells.vals cs x) p 0 #[] w h
   rw [Cells.I5, hn] at hl
   simp [Instr.loadAt, Instr.sureAddr, loadVar, io.Vf, hw.1, io.Gi, loadCells, hl]
 ·trivial
theorem run_sliceBound {n : Int} {k : IntKind} {y : Nat} {c : BoundsCode} (h : 0 <= n /\ n <= y) (w : World) : (Instr.sliceBound (.int k n) y c).run P w = .ok n.toNat w := by
 simp [Instr.sliceBound, asIntOf, h.1, h.2, Sem.run]
theorem Om {v : Value} {d : Nat} {l : Int × Bool} (h : bnd (some v) d = some l) : ∃ k, v = .int k l.1 := by
 cases v <;> simp only [bnd] at h <;> first | (cases h; done) | skip
 cases h
 exact ⟨_, rfl⟩
theorem Mc {isS : Bool} {len cap : Nat} {lo hi mx : Option Value} {l h m : Int × Bool} (hl : bnd lo 0 = some l) (hh : bnd hi len = some h) (hm : bnd mx cap = some m) (hno : ¬ (hi = none /\ mx ≠ none))
  (hc : 0 <= l.1 /\ l.1 <= h.1 /\ h.1 <= m.1 /\ m.1 <= cap) (w : World) : (Instr.sliceBounds isS len cap lo hi mx).run P w = .ok (l.1.toNat, h.1.toNat, m.1.toNat) w := by
 obtain ⟨c1, c2, c3, c4⟩ := hc
 have e1 : ((m.1.toNat : Nat) : Int) = m.1 := Int.toNat_of_nonneg (by omega)
 have e2 : ((h.1.toNat : Nat) : Int) = h.1 := Int.toNat_of_nonneg (by omega)
 have bl : ∀ (k : IntKind) (c : BoundsCode), (Instr.sliceBound (.int k l.1) h.1.toNat c).run P w = .ok l.1.toNat w := λ k c => run_sliceBound ⟨c1, by omega⟩ w
 have bh : ∀ (k : IntKind) (c : BoundsCode), (Instr.sliceBound (.int k h.1) m.1.toNat c).run P w = .ok h.1.toNat w := λ k c => run_sliceBound ⟨by omega, by omega⟩ w
 have bm : ∀ (k : IntKind) (c : BoundsCode), (Instr.sliceBound (.int k m.1) cap c).run P w = .ok m.1.toNat w := λ k c => run_sliceBound ⟨by omega, by omega⟩ w
 have lo' : ∀ (c : BoundsCode), (match lo with | some v => Instr.sliceBound v h.1.toNat c | none => (pure 0 : Sem Nat)).run P w = .ok l.1.toNat w := by
  intro c
  cases lo with
  | none => cases hl; rfl
  | some v => obtain ⟨k, rfl⟩ := Om hl; exact bl k c
 unfold Instr.sliceBounds
 cases mx with
 | some v =>
  obtain ⟨k, rfl⟩ := Om hm
  cases hi with
  | none => exact absurd ⟨rfl, by simp⟩ hno
  | some v =>
   obtain ⟨k2, rfl⟩ := Om hh
   simp only [Sem.run_bind, bm, bh, Result.andThen_ok]
   cases lo with
   | none => cases hl; rfl
   | some v => obtain ⟨k, rfl⟩ := Om hl; simp [bl]
 | none =>
  cases hm
  cases hi with
  | none =>
   cases hh
   simp only [Sem.run_bind, Sem.run_pure, Result.andThen_ok]
   cases lo with
   | none => cases hl; simp
   | some v => obtain ⟨k, rfl⟩ := Om hl; simp only [Int.toNat_natCast] at bl; simp [bl]
  | some v =>
   obtain ⟨k2, rfl⟩ := Om hh
   simp only [Int.toNat_natCast] at bh
   simp only [Sem.run_bind, Sem.run_pure, bh, Result.andThen_ok]
   cases lo with
   | none => cases hl; simp
   | some v => obtain ⟨k, rfl⟩ := Om hl; simp [bl]
theorem Bm0 (ok : T.Ok P) (t : TypeId) (x : Value) (lo hi mx : Option Value) : (Az0 T t x lo hi mx).holds P (do pure (.value (← Instr.sliceAt t x lo hi mx))) := by
 unfold Az0
 split
 ·rename_i i hi'
  have io := ok.get hi'
  split
  ·rename_i e a len cap hd
   split
   ·rename_i j l h m hj hl hh hm
    split
    ·trivial
    ·rename_i hno
     refine Hl λ _ hc w => ?_
     have hb := Mc (P := P) (isS := true) hl hh hm (by rintro ⟨rfl, h2⟩; cases mx with | none => exact h2 rfl | some v => exact hno v rfl rfl) hc w
     simp [Instr.sliceAt, io.Fp, hd, Instr.slice, hb, (ok.get hj).Gi, Sl.cut, Dx]
   ·trivial
  ·rename_i s hd
   split
   ·rename_i l h hl hh
    refine Hl λ _ hc w => ?_
    have hb := Mc (P := P) (isS := false) (cap := s.size) (mx := none) (m := ((s.size : Int), false)) hl hh rfl (by simp) ⟨hc.1, hc.2.1, hc.2.2, Int.le_refl _⟩ w
    simp [Instr.sliceAt, io.Fp, hd, Instr.slice, hb]
   ·trivial
  ·rename_i n e a hd
   split
   ·rename_i j l h m hj hl hh hm
    split
    ·trivial
    ·rename_i hno
     refine Hl λ _ hc w => ?_
     have hb := Mc (P := P) (isS := false) hl hh hm (by rintro ⟨rfl, h2⟩; cases mx with | none => exact h2 rfl | some v => exact hno v rfl rfl) hc w
     simp [Instr.sliceAt, io.Fp, hd, Instr.sureAddr, hb, (ok.get hj).Gi, Sl.cut, Dx]
     split <;> rfl
   ·trivial
  ·trivial
 ·trivial
theorem Bu5 (ok : T.Ok P) (t : TypeId) (cs : Array Value) (off : Nat) : (Bu6 T t cs.toList off).holds P (do pure (.value (← part t cs off))) := by
 unfold Bu6
 split
 ·rename_i i hi
  have io := ok.get hi
  split
  ·rename_i ha
   refine En λ w => ?_
   have e : cs.extract off (off + i.size) = ((cs.toList.drop off).take i.size).toArray := by
    apply Array.ext'
    simp [List.extract_eq_take_drop]
   simp [part, io.Vf, ha, io.Gi, e]
  ·rename_i ha
   split
   ·rename_i v hv
    refine En λ w => ?_
    have hv' : cs[off]? = some v := by rw [← hv]; simp
    simp [part, io.Vf, ha, hv']
   ·trivial
 ·trivial
theorem By0 {ev : Ev} {ρ : Operand -> Value} (hE : ∀ x v, ev x = some v -> ρ x = v) : ∀ {l : List Operand} {vs : List Value}, evs ev l = some vs -> l.map ρ = vs
 | [], vs, h => by cases h; rfl
 | x :: r, vs, h => by
  simp only [evs] at h
  split at h
  ·rename_i v l hv hl
   cases h
   simp [hE _ _ hv, By0 hE hl]
  ·cases h
theorem Yn {ev : Ev} {ρ : Operand -> Value} (hE : ∀ x v, ev x = some v -> ρ x = v) {l : Array Operand} {vs : List Value} (h : evs ev l.toList = some vs) : l.map ρ = vs.toArray := by
 rw [← By0 hE h]
 apply Array.ext'
 simp
theorem Bj2 {ev : Ev} {ρ : Operand -> Value} (hE : ∀ x v, ev x = some v -> ρ x = v) : ∀ {l : List (Nat × Operand)} {vs : List (Nat × Value)}, Bd9 ev l = some vs -> (l.map λ (i, x) => (i, ρ x)) = vs
 | [], vs, h => by cases h; rfl
 | x :: r, vs, h => by
  simp only [Bd9] at h
  split at h
  ·rename_i v l hv hl
   cases h
   simp [hE _ _ hv, Bj2 hE hl]
  ·cases h
theorem Au6 {ev : Ev} {ρ : Operand -> Value} (hE : ∀ x v, ev x = some v -> ρ x = v) {l : Array (Nat × Operand)} {vs : List (Nat × Value)} (h : Bd9 ev l.toList = some vs) : (l.map λ (i, x) => (i, ρ x)) = vs.toArray := by
 rw [← Bj2 hE h]
 apply Array.ext'
 simp
theorem Aa7 : ∀ (vs : List Value) (cs : List Value) (off k : Nat), ((vs.zipIdx k).foldl (λ (a : Array Value) (x : Value × Nat) => a.setIfInBounds (off + x.2) x.1) cs.toArray) = (Y0 cs (off + k) vs).toArray
 | [], cs, off, k => by simp [Y0]
 | v :: r, cs, off, k => by
  simp only [List.zipIdx_cons, List.foldl_cons, Y0]
  have : (cs.toArray).setIfInBounds (off + k) v = (cs.set (off + k) v).toArray := by simp
  rw [this, Aa7 r _ off (k + 1)]
  rw [Nat.add_assoc]
theorem Ym {place : Nat -> Option (Nat × Nat)} : ∀ {ps : List (Nat × Value)} {cs out : List Value}, Wy place cs ps = some out -> Instr.fill place cs.toArray ps = some out.toArray
 | [], cs, out, h => by cases h; rfl
 | p :: r, cs, out, h => by
  simp only [Wy] at h
  split at h
  ·cases h
  ·rename_i os hos
   split at h
   ·rename_i hc
    simp only [Bool.and_eq_true] at hc
    have h1 : p.2.cells.size = os.2 := by have := Nat.eq_of_beq_eq_true hc.1; simpa using this
    have h2 : os.1 + p.2.cells.size <= cs.length := by have := Nat.le_of_ble_eq_true hc.2; simpa using this
    obtain ⟨k, v⟩ := p
    simp only at h1 h2 hos h
    simp only [Instr.fill, hos]
    rw [if_neg (by simp [h1]; omega)]
    have e : (v.cells.zipIdx.foldl (λ cs (c, j) => cs.setIfInBounds (os.1 + j) c) cs.toArray) = (Y0 cs os.1 v.cells.toList).toArray := by
     have := Aa7 v.cells.toList cs os.1 0
     rw [Nat.add_zero] at this
     rw [← this, ← Array.foldl_toList]
     simp
    rw [e]
    exact Ym h
   ·cases h
theorem Y4 (ok : T.Ok P) : ∀ {fs : List Field} {pl : List (Nat × Nat)}, P6 T fs = some pl -> ∀ w, (fs.mapM (λ f => Prod.mk f.offset <$> sizeOf f.type : Field -> Sem (Nat × Nat))).run P w = .ok pl w
 | [], pl, h, w => by cases h; rfl
 | f :: r, pl, h, w => by
  simp only [P6] at h
  split at h
  ·rename_i j l hj hl
   cases h
   simp [List.mapM_cons, (ok.get hj).Gi, Y4 ok hl w]
  ·cases h
theorem Br3 (ok : T.Ok P) (t : TypeId) (ps : List (Nat × Value)) : (Bf1 T t ps).holds P (do pure (.value (← Instr.build t ps.toArray))) := by
 unfold Bf1
 split
 ·rename_i i hi
  have io := ok.get hi
  split
  ·rename_i fs z hd hz
   split
   ·rename_i pl hpl
    split
    ·rename_i cs hcs
     refine En λ w => ?_
     have hm : (fs.mapM (λ f => Prod.mk f.offset <$> sizeOf f.type : Field -> Sem (Nat × Nat))).run P w = .ok pl.toArray w := by
      have := Y4 ok hpl w
      obtain ⟨fl⟩ := fs
      simp [List.mapM_toArray, this]
     have hf := Ym hcs
     simp only [Array.toArray_toList] at hf
     simp [Instr.build, io.Oa _ hz, io.Fp, hd, hm, hf]
    ·trivial
   ·trivial
  ·rename_i n e z hd hz
   split
   ·rename_i j hj
    split
    ·rename_i cs hcs
     refine En λ w => ?_
     have hf := Ym hcs
     simp only [Array.toArray_toList] at hf
     simp [Instr.build, io.Oa _ hz, io.Fp, hd, (ok.get hj).Gi, hf]
    ·trivial
   ·trivial
  ·trivial
 ·trivial
theorem Bi2 (b : Bool) (l : List Value) (ts : Array TypeId) (t : TypeId) : (Cf2 b l).holds P (do pure (.value (← (match b with | true => Builtin.max_ ts t l.toArray | false => Builtin.min_ ts t l.toArray)))) := by
 unfold Cf2
 split
 ·rename_i k x k' y
  refine En λ w => ?_
  cases b
  ·simp [Builtin.min_, Builtin.min2]
  ·simp [Builtin.max_, Builtin.max2]
 ·trivial
set_option maxHeartbeats 1000000 in
theorem G8 (ok : T.Ok P) (hE : ∀ x v, ev x = some v -> ρ x = v) (o : Oper) : (quiet T P ev o).holds P (execOp ρ o) := by
 obtain ⟨dst, op, type, pos, after, guard⟩ := o
 cases op <;> simp only [quiet, execOp] <;> try trivial
 case move x =>
  split
  ·rename_i v hv; rw [hE _ _ hv]; intro w; rfl
  ·trivial
 case assign x =>
  split
  ·rename_i v hv; rw [hE _ _ hv]; intro w; rfl
  ·trivial
 case pick c a b =>
  split
  ·rename_i hc
   split
   ·rename_i v hv; intro w; simp [hE _ _ hc, hE _ _ hv, asBool]
   ·trivial
  ·rename_i hc
   split
   ·rename_i v hv; intro w; simp [hE _ _ hc, hE _ _ hv, asBool]
   ·trivial
  ·trivial
 case nilCheck x =>
  split
  ·rename_i p hp
   intro a ha w
   subst ha
   simp [hE _ _ hp]
  ·rename_i f a b hp; intro w; simp [hE _ _ hp]
  ·rename_i t v hp; intro w; simp [hE _ _ hp]
  ·rename_i m a b hp
   split
   ·rename_i v r hl
    rintro _ ⟨t, u, rfl, hn⟩ w
    have h0 : a[0]? = some (.iface t u) := by rw [← Array.getElem?_toList, hl]; rfl
    simp [hE _ _ hp, h0, Sem.run_bind, program, Sem.run, Result.andThen, hn w]
   ·trivial
  ·trivial
 case fieldAddr s x f =>
  split
  ·rename_i a i hx hi
   have io := ok.get hi
   split
   ·rename_i fs hd
    split
    ·rename_i fd hf
     split
     ·rename_i j hj
      split
      ·rename_i hz
       have hf' : fs[f]? = some fd := by rw [← hf]; simp
       have hz' : ¬ j.size = 0 := λ h => by rw [h] at hz; exact absurd hz (by decide)
       refine En λ w => ?_
       simp [Instr.fieldAt, io.Fp, hd, hf', hE _ _ hx, Instr.sureAddr, fieldPlace, (ok.get hj).Gi, hz']
      ·trivial
     ·trivial
    ·trivial
   ·trivial
  ·trivial
 case field s x f =>
  split
  ·rename_i cs i hx hi
   have io := ok.get hi
   split
   ·rename_i fs hd
    split
    ·rename_i fd hf
     have hf' : fs[f]? = some fd := by rw [← hf]; simp
     have hp := Bu5 ok fd.type cs fd.offset
     have hr : ∀ w, (Instr.field s (ρ x) f).run P w = (part fd.type cs fd.offset).run P w := by
      intro w
      simp [Instr.field, io.Fp, hd, hf', hE _ _ hx, asAgg]
     unfold QR.holds at hp ⊢
     split
     ·trivial
     ·intro w
      rename_i v heq
      rw [heq] at hp
      have := hp w
      simp only [Sem.run_bind, hr] at this ⊢
      exact this
     ·rename_i c f heq
      rw [heq] at hp
      intro x hx w
      have := hp x hx w
      simp only [Sem.run_bind, hr] at this ⊢
      exact this
     ·rename_i c f heq
      rw [heq] at hp
      intro x w hx
      have := hp x w hx
      simp only [Sem.run_bind, hr] at this ⊢
      exact this
    ·trivial
   ·trivial
  ·trivial
 case indexAddr t x ix =>
  split
  ·rename_i a len cap k n i hx hn hi
   have io := ok.get hi
   split
   ·rename_i e hd
    split
    ·rename_i j hj
     refine Hl λ p hc w => ?_
     obtain ⟨rfl, h0, h1⟩ := hc
     simp [Instr.indexAt, hE _ _ hx, hE _ _ hn, asIntOf, io.Fp, hd, h0, h1, (ok.get hj).Gi, Dx]
    ·trivial
   ·trivial
  ·rename_i p k n i hx hn hi
   have io := ok.get hi
   split
   ·rename_i len e hd
    split
    ·rename_i j hj
     refine Hl λ _ hc w => ?_
     obtain ⟨h0, h1⟩ := hc
     simp [Instr.indexAt, hE _ _ hx, hE _ _ hn, asIntOf, io.Fp, hd, Instr.sureAddr, h0, h1, (ok.get hj).Gi, Dx]
    ·trivial
   ·trivial
  ·trivial
 case index t x ix =>
  split
  ·rename_i s k n i hx hn hi
   have io := ok.get hi
   split
   ·rename_i hd
    refine Hl λ b hc w => ?_
    obtain ⟨h0, h1⟩ := hc
    simp [Instr.index, hE _ _ hx, hE _ _ hn, asIntOf, io.Fp, hd, h0, h1]
   ·trivial
  ·trivial
 case load t x =>
  split
  ·rename_i p hp; rw [hE _ _ hp]; exact As9 ok t p
  ·trivial
 case binOp op t x y yt =>
  split
  ·rename_i a b ha hb; rw [hE _ _ ha, hE _ _ hb]; exact Ci6 ok op t x y a b
  ·trivial
 case unOp op t x =>
  split
  ·rename_i b hb; rw [hE _ _ hb]; intro w; rfl
  ·rename_i k n hb; rw [hE _ _ hb]; intro w; rfl
  ·trivial
 case convert src dst x =>
  split
  ·rename_i k n i j hx hi hj
   split
   ·rename_i k1 k2 h1 h2
    refine En λ w => ?_
    simp [convert, (ok.get hi).Fp, (ok.get hj).Fp, h1, h2, hE _ _ hx, Conv.intToInt]
   ·trivial
  ·trivial
 case extract t ix =>
  split
  ·rename_i vs hv
   split
   ·rename_i v hx
    have hx' : vs[ix]? = some v := by rw [← hx]; simp
    refine En λ w => ?_
    simp [Instr.extract, hE _ _ hv, hx']
   ·trivial
  ·trivial
 case build t parts =>
  split
  ·rename_i ps hps
   have := Br3 ok t ps
   rw [← Au6 hE hps] at this
   exact this
  ·trivial
 case slice t x lo hi mx =>
  split
  ·rename_i v l h m hx hl hh hm
   have e1 : lo.map ρ = l := by
    cases lo with
    | none => simpa using hl
    | some y =>
     simp only at hl
     cases hy : ev y with
     | none => rw [hy] at hl; cases hl
     | some u => rw [hy] at hl; cases hl; simp [hE _ _ hy]
   have e2 : hi.map ρ = h := by
    cases hi with
    | none => simpa using hh
    | some y =>
     simp only at hh
     cases hy : ev y with
     | none => rw [hy] at hh; cases hh
     | some u => rw [hy] at hh; cases hh; simp [hE _ _ hy]
   have e3 : mx.map ρ = m := by
    cases mx with
    | none => simpa using hm
    | some y =>
     simp only at hm
     cases hy : ev y with
     | none => rw [hy] at hm; cases hm
     | some u => rw [hy] at hm; cases hm; simp [hE _ _ hy]
   rw [e1, e2, e3, hE _ _ hx]
   exact Bm0 ok t v l h m
  ·trivial
 case makeInterface t x =>
  split
  ·rename_i v i hx hi
   have io := ok.get hi
   split
   ·trivial
   ·rename_i hne
    refine En λ w => ?_
    simp only [Instr.makeInterface, Sem.run_bind, io.Fp, Result.andThen_ok, hE _ _ hx]
    first | rfl | (split; (rename_i ms hd; exact absurd hd (hne ms)); rfl)
  ·trivial
 case makeFunc fn first captured =>
  split
  ·rename_i a b ha hb
   refine En λ w => ?_
   rw [Yn hE ha, Yn hE hb]
   rfl
  ·trivial
 case lookup t m k b =>
  split
  ·rename_i vm vk i hm hk hi
   rw [hE _ _ hm, hE _ _ hk]
   exact La λ x w h => h
  ·trivial
 case call c =>
  obtain ⟨callee, args, argTypes⟩ := c
  cases callee with
  | value f => trivial
  | invoke r n => trivial
  | builtin b =>
   simp only
   split
   ·rename_i x t hargs hts
    have ha : args.map ρ = #[x] := Yn hE hargs
    have ht : argTypes[0]? = some t := by
     have : argTypes = #[t] := by
      apply Array.ext'
      simpa using hts
     rw [this]; rfl
    split
    ·rename_i a n cp i hi
     split
     ·rename_i e hd
      refine λ w => ?_
      simp [resolve, ha, invoke, builtin, Builtin.len_, ht, (ok.get hi).Fp, hd, goInt]
     ·trivial
    ·rename_i a cp n i hi
     split
     ·rename_i e hd
      refine λ w => ?_
      simp [resolve, ha, invoke, builtin, Builtin.cap_, ht, (ok.get hi).Fp, hd, goInt]
     ·trivial
    ·rename_i s i hi
     split
     ·rename_i hd
      refine λ w => ?_
      simp [resolve, ha, invoke, builtin, Builtin.len_, ht, (ok.get hi).Fp, hd, goInt]
     ·trivial
    ·rename_i m i hi
     split
     ·rename_i k e hd
      refine λ n w h => ?_
      simp [resolve, ha, invoke, builtin, h]
     ·trivial
    ·trivial
   ·rename_i l hargs hno
    have ha : args.map ρ = l.toArray := Yn hE hargs
    split
    ·have := Bi2 (P := P) true l argTypes type
     simp only at this
     simp only [resolve, ha, invoke, builtin, pure_bind]
     exact this
    ·have := Bi2 (P := P) false l argTypes type
     simp only at this
     simp only [resolve, ha, invoke, builtin, pure_bind]
     exact this
    ·trivial
   ·trivial
end
section
variable {T : Tab} {P : Program} {ev : Ev} {ρ : Operand -> Value}
theorem Qb {v u : Value} {p : Addr} {w : World} (hv : Ez v = true) (hu : w.cell? p = some u) (hf : w.frozen? p = false) : (store p v).run P w = .ok () (w.setCell p v) := by
 cases v with
 | agg c => cases hv
 | tuple c => cases hv
 | _ => simp [store, Sem.run, hu, hf]
theorem Ud : ∀ (vs : List Value) (p : Addr) (i : Nat) (K : World -> Prop) (w : World), (∀ v ∈ vs, Ez v = true) -> Bs7 p i vs K w ->
  ∃ w', (storeCells p vs i).run P w = .ok () w' /\ K w'
 | [], p, i, K, w, _, h => ⟨w, rfl, h⟩
 | v :: r, p, i, K, w, ho, h => by
  obtain ⟨⟨⟨u, hu⟩, hf⟩, h⟩ := h
  obtain ⟨w', hr, hK⟩ := Ud r p (i + 1) K _ (λ x hx => ho x (List.mem_cons_of_mem _ hx)) h
  refine ⟨w', ?_, hK⟩
  simp only [storeCells, Sem.run_bind, Qb (ho v List.mem_cons_self) hu hf, Result.andThen_ok]
  exact hr
theorem Hg {f : FuncId} {args : Array Value} (h : ((P.funcs[f]?).map λ fn => (fn.body.isNone, fn.name == "runtime.NumGoroutine")) = some (false, false)) (w : World) : (callFunc f args).run P w = .ok (.enter f args) w := by
 cases hf : P.funcs[f]? with
 | none => rw [hf] at h; cases h
 | some fn =>
  rw [hf] at h
  simp only [Option.map_some, Option.some.injEq, Prod.mk.injEq] at h
  unfold callFunc
  simp only [Sem.run_bind, program, Sem.run, Result.andThen_ok, hf, h.1, h.2, Bool.false_eq_true, if_false]
  rfl
def Ad1 (o : Oper) (a : Act) (K : Value -> Wp) (a' : Act) (w' : World) : Prop := ∃ v, a' = a.put o.dst v /\ K v w'
theorem Ee {o : Oper} {a : Act} {K : Value -> Wp} {s : Sem Value} {w w' : World} {v : Value} (h : s.run P w = .ok v w') (hK : K v w') :
  Fe P o a (Ad1 o a K) ((do pure (.value (← s)) : Sem Next).run P w) := by
 simp only [Sem.run_bind, h, Result.andThen_ok]
 exact ⟨v, rfl, hK⟩
theorem Xo {o : Oper} {a : Act} {K : Value -> Wp} {s : Sem Unit} {w w' : World} (h : s.run P w = .ok () w') (hK : K undef w') :
  Fe P o a (Ad1 o a K) ((do s; pure .skip : Sem Next).run P w) := by
 simp only [Sem.run_bind, h, Result.andThen_ok]
 exact ⟨undef, rfl, hK⟩
theorem Bg0 {o : Oper} {a : Act} {K : Value -> Wp} {w : World} {f : FuncId} {args : Array Value} {t : RTy} (h : Aa P f args t (λ x => K (t.val x)) w) :
  Fe P o a (Ad1 o a K) (.ok (.enter f args) w) := by
 simp only [Fe]
 refine Calls.mono h λ e w' he => ?_
 obtain ⟨x, rfl, hK⟩ := he
 exact ⟨_, rfl, _, rfl, hK⟩
theorem Cl1 {o : Oper} {a : Act} {K : Value -> Wp} {s : Sem Next} {w : World} {t : RTy} (h : Cb P s t (λ x => K (t.val x)) w) :
  Fe P o a (Ad1 o a K) (s.run P w) := by
 rcases h with ⟨g, gargs, hr, hc⟩ | ⟨x, w', hr, hK⟩ | ⟨l, f, tmps, assign, body, hr, hc⟩
 ·rw [hr]; exact Bg0 hc
 ·rw [hr]; exact ⟨_, rfl, hK⟩
 ·rw [hr]
  simp only [Fe]
  refine RoundIn.mono hc λ e w' he => ?_
  obtain ⟨x, rfl, hK⟩ := he
  exact ⟨_, rfl, _, rfl, hK⟩
theorem cells_one {v : Value} (h : Ez v = true) : v.cells = #[v] := by cases v <;> first | rfl | cases h
theorem I9 : ∀ {ps : List (Nat × Value)} {cs out : List Value}, Ui (ps.map (·.2)) = true -> Au5 cs ps = some out -> Wy (λ k => some (k * 1, 1)) cs ps = some out
 | [], cs, out, _, h => h
 | p :: r, cs, out, h1, h => by
  simp only [List.map_cons, Ui, Bool.and_eq_true] at h1
  simp only [Au5] at h
  split at h
  ·rename_i hlt
   have hlt : p.1 < cs.length := by simpa using hlt
   have e : p.2.cells.toList = [p.2] := by rw [cells_one h1.1]
   have hb : (Nat.beq 1 1 && Nat.ble (p.1 + 1) cs.length) = true := by simp; omega
   simp only [Wy, e, List.length_cons, List.length_nil, Nat.mul_one, Nat.zero_add, hb, Y0]
   have := I9 h1.2 h
   simpa only [Nat.mul_one] using this
  ·cases h
set_option maxHeartbeats 1000000 in
theorem A8 (ok : T.Ok P) (hE : ∀ x v, ev x = some v -> ρ x = v) (o : Oper) (rt : Option RTy) (K : Value -> Wp) (a : Act) (ha : a.eval = ρ) (w : World) (h : eff T P ev o rt K w) :
  Fe P o a (Ad1 o a K) ((execOp a.eval o).run P w) := by
 subst ha
 obtain ⟨dst, op, type, pos, after, guard⟩ := o
 cases op <;> simp only [eff] at h <;> simp only [execOp]
 all_goals try exact h.elim
 case alloc t =>
  cases hi : T.get t with
  | none => simp only [hi] at h
  | some i =>
   simp only [hi] at h
   cases hz : i.zero with
   | none => simp only [hz] at h
   | some z =>
    simp only [hz] at h
    refine Ee (w' := w.alloc (.cells z.cells t)) (v := .pointer (some ⟨w.heap.size, 0, none⟩)) ?_ h
    simp [Instr.alloc, (ok.get hi).Oa _ hz, newVar, newRow, newObj, Sem.run, World.alloc_eq]
 case box t x =>
  cases hv : ev x with
  | none => simp only [hv] at h
  | some v =>
   simp only [hv] at h
   rw [hE _ _ hv]
   have h' : Af (.cells v.cells t) (λ b => K (.pointer (some ⟨b, 0, none⟩))) w := by
    cases hop : Aa2 T t with
    | true =>
     simp only [hop] at h
     obtain ⟨_, h1, h2⟩ := h
     simp only [Ui, Bool.and_true] at h1
     rw [cells_one h1]; exact h2
    | false => simp only [hop] at h; exact h
   refine Ee (w' := w.alloc (.cells v.cells t)) (v := .pointer (some ⟨w.heap.size, 0, none⟩)) ?_ h'
   simp [Instr.box, newVar, newRow, newObj, Sem.run, World.alloc_eq]
 case buildSlice t len parts =>
  cases hps : Bd9 ev parts.toList with
  | none => simp only [hps] at h
  | some ps =>
  cases hi : T.get t with
  | none => simp only [hps, hi] at h
  | some i =>
  simp only [hps, hi] at h
  cases hd : i.desc with
  | slice e =>
   simp only [hd] at h
   cases hj : T.get e with
   | none => simp only [hj] at h
   | some j =>
   simp only [hj] at h
   cases hz : j.zero with
   | none => simp only [hz] at h
   | some z =>
   cases hle : (Nat.ble (len * j.size) (2 ^ 24) && !Nat.beq j.size 0) with
   | false => simp only [hz, hle] at h
   | true =>
   simp only [hz, hle] at h
   simp only [Bool.and_eq_true, Bool.not_eq_true'] at hle
   have hle1 : ¬ (len * j.size > 2 ^ 24) := by have := Nat.le_of_ble_eq_true hle.1; omega
   have h' : ∃ cs, Wy (λ k => some (k * j.size, j.size)) ((List.range (len * j.size)).map λ k => (z.cells.toList)[k % z.cells.toList.length]?.getD default) ps = some cs /\ Af (.cells cs.toArray e) (λ b => K (.slice (some ⟨b, 0, none⟩) len len)) w := by
    cases hop : (Aa2 T e && Nat.beq j.size 1) with
    | true =>
     simp only [hop] at h
     simp only [Bool.and_eq_true] at hop
     have h1 : j.size = 1 := Nat.eq_of_beq_eq_true hop.2
     obtain ⟨_, h2, h3⟩ := h
     cases hcs : Au5 ((List.range (len * j.size)).map λ k => (z.cells.toList)[k % z.cells.toList.length]?.getD default) ps with
     | some cs =>
      simp only [hcs] at h3
      refine ⟨cs, ?_, h3⟩
      rw [h1] at hcs ⊢
      exact I9 h2 hcs
     | none => simp only [hcs] at h3
    | false =>
     simp only [hop] at h
     cases hcs : Wy (λ k => some (k * j.size, j.size)) ((List.range (len * j.size)).map λ k => (z.cells.toList)[k % z.cells.toList.length]?.getD default) ps with
     | some cs => simp only [hcs] at h; exact ⟨cs, rfl, h⟩
     | none => simp only [hcs] at h
   obtain ⟨cs, hcs, h⟩ := h'
   refine Ee (w' := w.alloc (.cells cs.toArray e)) (v := .slice (some ⟨w.heap.size, 0, none⟩) len len) ?_ h
   have hf := Ym hcs
   have he : ((List.range (len * j.size)).map λ k => (z.cells.toList)[k % z.cells.toList.length]?.getD default).toArray = (Array.range (len * j.size)).map (λ k => z.cells[k % z.cells.size]!) := by
    apply Array.ext'
    simp [getElem!_def]
    intro k hk
    cases z.cells[k % z.cells.size]? <;> rfl
   rw [he] at hf
   have hf2 : len * j.size = 0 -> Instr.fill (λ k => some (k * j.size, j.size)) ((Array.range (len * j.size)).map (λ k => (#[] : Array Value)[k % (#[] : Array Value).size]!)) ps = some cs.toArray := by
    intro h0
    have h1 : Array.range 0 = #[] := rfl
    rw [← hf]; simp only [h0, h1, Array.map_empty]
   simp only [Instr.buildSlice, Sem.run_bind, (ok.get hi).Fp, hd, Result.andThen_ok, (ok.get hj).Gi, if_neg hle1, Sem.run_pure, Au6 hE hps]
   by_cases h0 : len * j.size = 0
   ·simp only [if_pos h0, Sem.run_bind, Sem.run_pure, Result.andThen_ok, hf2 h0]
    simp [newRow, newObj, Sem.run, World.alloc_eq]
   ·simp only [if_neg h0, Sem.run_bind, Sem.run_pure, Result.andThen_ok, (ok.get hj).Oa _ hz, hf]
    simp [newRow, newObj, Sem.run, World.alloc_eq]
  | _ => simp only [hd] at h
 case store t p x =>
  cases hp : ev p with
  | none => simp only [hp] at h
  | some vp =>
  cases hv : ev x with
  | none => cases vp with
   | pointer q => cases q <;> simp only [hp, hv] at h
   | _ => simp only [hp, hv] at h
  | some v =>
  cases hi : T.get t with
  | none => cases vp with
   | pointer q => cases q <;> simp only [hp, hv, hi] at h
   | _ => simp only [hp, hv, hi] at h
  | some i =>
  cases vp with
  | pointer q =>
   cases q with
   | none => simp only [hp, hv, hi] at h
   | some p' =>
   simp only [hp, hv, hi] at h
   have io := ok.get hi
   have hw := io.wf
   unfold Inf.wf at hw
   simp only [hE _ _ hp, hE _ _ hv]
   cases hc : i.ty with
   | one c =>
    have core : Ez v = true -> Nat.beq i.size 1 = true -> stC p' v (K undef) w ->
      Fe P ⟨dst, .store t p x, type, pos, after, guard⟩ a (Ad1 ⟨dst, .store t p x, type, pos, after, guard⟩ a K) ((do Instr.storeAt t (.pointer (some p')) v; pure .skip : Sem Next).run P w) := by
     intro hone hs1 h
     have hsz : i.size = 1 := Nat.eq_of_beq_eq_true hs1
     obtain ⟨⟨⟨u, hu⟩, hfr⟩, h⟩ := h
     have hcell : v.cells = #[v] := by
      cases v with
      | agg c => cases hone
      | _ => rfl
     refine Xo (w' := w.setCell p' v) ?_ h
     simp only [Instr.storeAt, Instr.sureAddr, storeVar, Sem.run_bind, Sem.run_pure, Result.andThen_ok, io.Gi, hcell]
     simp [hsz, storeCells, Qb hone hu hfr, Addr.add]
    by_cases hany : c = .any
    ·subst hany
     have h' : (match Nat.beq i.size 1 with | true => cdE (λ _ : Unit => Ez v = true) (λ _ => stC p' v (K undef)) | false => λ _ => False) w := by
      simp only [hc] at h; exact h
     cases hs1 : Nat.beq i.size 1 with
     | false => rw [hs1] at h'; exact h'.elim
     | true =>
      rw [hs1] at h'
      obtain ⟨_, ho, h'⟩ := h'
      exact core ho hs1 h'
    ·have h' : Ez v = true /\ (match Nat.beq i.size 1 with | true => stC p' v (K undef) | false => λ _ => False) w := by
      cases hone : Ez v with
      | false => cases c <;> simp only [hc, hone] at h <;> first | exact absurd rfl hany | exact h.elim
      | true => cases c <;> simp only [hc, hone] at h <;> first | exact absurd rfl hany | exact ⟨rfl, h⟩
     cases hs1 : Nat.beq i.size 1 with
     | false => rw [hs1] at h'; exact h'.2.elim
     | true =>
      rw [hs1] at h'
      exact core h'.1 hs1 h'.2
   | agg cs =>
    have h' : Ae p' v i.size (K undef) w := by
     cases Ez v <;> simpa only [hc] using h
    unfold Ae at h'
    cases hc2 : (Nat.beq v.cells.toList.length i.size && v.cells.toList.all Ez) with
    | false => simp only [hc2] at h'
    | true =>
    simp only [hc2] at h'
    simp only [Bool.and_eq_true] at hc2
    have hsz : v.cells.size = i.size := by have := Nat.eq_of_beq_eq_true hc2.1; simpa using this
    obtain ⟨w', hr, hK⟩ := Ud (P := P) v.cells.toList p' 0 (K undef) w (λ x hx => List.all_eq_true.1 hc2.2 x hx) h'
    refine Xo (w' := w') ?_ hK
    simp [Instr.storeAt, Instr.sureAddr, storeVar, io.Gi, hsz, hr]
  | _ => simp only [hp, hv, hi] at h
 case makeMap t r =>
  cases r with
  | some r => exact h.elim
  | none =>
   refine Ee (w' := w.alloc (.map #[] 0)) (v := .map (some w.heap.size)) ?_ h
   simp [Instr.makeMap, newObj, Sem.run, World.alloc_eq]
 case makeSlice t l c =>
  cases hl : ev l <;> cases hc : ev c <;> cases hi : rt <;> simp only [hl, hc, hi] at h
  obtain ⟨x, w', hr, hK⟩ := h
  simp only [hE _ _ hl, hE _ _ hc]
  exact Ee hr hK
 case convert s d x =>
  cases hv : ev x <;> cases hi : rt <;> simp only [hv, hi] at h
  obtain ⟨x, w', hr, hK⟩ := h
  simp only [hE _ _ hv]
  exact Ee hr hK
 case mapUpdate t m k x =>
  cases hm : ev m <;> cases hk : ev k <;> cases hx : ev x <;> simp only [hm, hk, hx] at h
  obtain ⟨w', hr, hK⟩ := h
  simp only [hE _ _ hm, hE _ _ hk, hE _ _ hx]
  exact Xo hr hK
 case insert t m k x =>
  cases hm : ev m <;> cases hk : ev k <;> cases hx : ev x <;> simp only [hm, hk, hx] at h
  obtain ⟨w', hr, hK⟩ := h
  simp only [hE _ _ hm, hE _ _ hk, hE _ _ hx]
  exact Xo hr hK
 case mapEntry t m k =>
  cases hm : ev m <;> cases hk : ev k <;> cases hi : rt <;> simp only [hm, hk, hi] at h
  obtain ⟨x, w', hr, hK⟩ := h
  simp only [hE _ _ hm, hE _ _ hk]
  exact Ee hr hK
 case entryStore t m s x =>
  cases hm : ev m <;> cases hk : ev s <;> cases hx : ev x <;> simp only [hm, hk, hx] at h
  obtain ⟨w', hr, hK⟩ := h
  simp only [hE _ _ hm, hE _ _ hk, hE _ _ hx]
  exact Xo hr hK
 case range t x =>
  cases hv : ev x <;> simp only [hv] at h
  obtain ⟨x, w', hr, hK⟩ := h
  simp only [hE _ _ hv]
  exact Ee hr hK
 case next it str =>
  cases hv : ev it with
  | none => simp only [hv] at h
  | some v =>
   cases str with
   | false =>
    simp only [hv] at h
    obtain ⟨b, rest, w', hr, hK⟩ := h
    simp only [hE _ _ hv]
    exact Ee hr hK
   | true =>
    simp only [hv] at h
    simp only [hE _ _ hv]
    rcases h with ⟨p, c, w', hr, hK⟩ | ⟨w', hr, hK⟩
    ·exact Ee hr hK
    ·exact Ee hr hK
 case entry it =>
  cases hv : ev it <;> cases hi : rt <;> simp only [hv, hi] at h
  obtain ⟨x, w', hr, hK⟩ := h
  simp only [hE _ _ hv]
  exact Ee hr hK
 case typeAssert x xt as_ ok' =>
  cases hv : ev x <;> cases hi : rt <;> simp only [hv, hi] at h
  obtain ⟨x, w', hr, hK⟩ := h
  simp only [hE _ _ hv]
  exact Ee hr hK
 case waits g =>
  cases hi : rt <;> simp only [hi] at h
  obtain ⟨x, w', hr, hK⟩ := h
  exact Ee hr hK
 case call c =>
  obtain ⟨callee, args, argTypes⟩ := c
  cases has : evs ev args.toList with
  | none => simp only [has] at h
  | some as_ =>
  cases hi : rt with
  | none => simp only [has, hi] at h
  | some i =>
  simp only [has, hi] at h
  have ha : args.map a.eval = as_.toArray := Yn hE has
  cases callee with
  | builtin b =>
   simp only at h
   cases b <;> simp only at h
   case append =>
    obtain ⟨x, w', hr, hK⟩ := h
    simp only [resolve, ha, pure_bind, invoke, builtin]
    exact Ee hr hK
   case copy =>
    obtain ⟨x, w', hr, hK⟩ := h
    simp only [resolve, ha, pure_bind, invoke, builtin]
    exact Ee hr hK
   case delete =>
    obtain ⟨x, w', hr, hK⟩ := h
    simp only [resolve, ha, pure_bind, invoke, builtin]
    exact Ee hr hK
   case clear =>
    obtain ⟨x, w', hr, hK⟩ := h
    simp only [resolve, ha, pure_bind, invoke, builtin]
    exact Ee hr hK
  | value f =>
   have dyn : ∀ vf, a.eval f = vf -> Cb P (do let d ← Deferred.ofValue vf as_.toArray; invoke d.target d.args) i (λ x => K (i.val x)) w ->
     Fe P ⟨dst, .call ⟨.value f, args, argTypes⟩, type, pos, after, guard⟩ a (Ad1 ⟨dst, .call ⟨.value f, args, argTypes⟩, type, pos, after, guard⟩ a K) ((do let d ← resolve a.eval ⟨.value f, args, argTypes⟩ type; invoke d.target d.args : Sem Next).run P w) := by
    intro vf hf h
    simp only [resolve, ha, hf]
    exact Cl1 h
   cases f with
   | func g =>
    simp only at h
    cases hg : T.fns.elem g with
    | false =>
     simp only [hg] at h
     simp only [resolve, ha, Act.eval, Deferred.ofValue, pure_bind, invoke]
     have e : (#[] ++ as_.toArray ++ #[] : Array Value) = as_.toArray := by simp
     rw [e]
     exact Cl1 h
    | true =>
    simp only [hg] at h
    have := Hg (P := P) (f := g) (args := as_.toArray) (Bx7 ok.fns hg) w
    simp only [resolve, ha, Act.eval, Deferred.ofValue, pure_bind, invoke]
    have e : (#[] ++ as_.toArray ++ #[] : Array Value) = as_.toArray := by simp
    rw [e, this]
    exact Bg0 h
   | tmp t =>
    cases hvf : ev (.tmp t) <;> simp only [hvf] at h
    exact dyn _ (hE _ _ hvf) h
   | const v =>
    cases hvf : ev (.const v) <;> simp only [hvf] at h
    exact dyn _ (hE _ _ hvf) h
   | global g =>
    cases hvf : ev (.global g) <;> simp only [hvf] at h
    exact dyn _ (hE _ _ hvf) h
  | invoke r name =>
   cases hvr : ev r <;> simp only [hvr] at h
   simp only [resolve, ha, hE _ _ hvr, pure_bind]
   exact Cl1 h
end
def stepS (cls : Op -> Cl) (P : Program) (ops : Array Oper) (un : Nat -> Nat -> Bool) (i : Nat) (N : Held -> Act -> Wp) (H : Held) (a : Act) (w : World) : Prop :=
 match ops[i]? with
 | none => False
 | some o =>
  if Region.wanted o (yielded ops a.tmps) = true then
   match cls o.op with
   | .free => ∃ v, (∀ w', (execOp a.eval o).run P w' = .ok (.value v) w') /\ N H (a.put o.dst v) w
   | .read => ∃ v, (execOp a.eval o).run P w = .ok (.value v) w /\ N ((i, execOp a.eval o, v) :: H) (a.put o.dst v) w
   | .eff => Fe P o a (λ a' w' => Qh P un i H w' /\ N H a' w') ((execOp a.eval o).run P w)
  else N H (a.put o.dst undef) w
section
variable {cls : Op -> Cl} {P : Program} {ops : Array Oper} {un : Nat -> Nat -> Bool} {Q : Act -> Wp}
theorem Br9 {i : Nat} {r : List Nat} {H : Held} {a : Act} {w : World} : wpS cls P ops un Q (i :: r) H a w = stepS cls P ops un i (wpS cls P ops un Q r) H a w := by
 rw [wpS]; rfl
theorem Vd {i : Nat} {N N' : Held -> Act -> Wp} (h : ∀ H a w, N H a w -> N' H a w) {H : Held} {a : Act} {w : World} (hh : stepS cls P ops un i N H a w) : stepS cls P ops un i N' H a w := by
 unfold stepS at hh ⊢
 split at hh
 ·exact hh
 ·split at hh
  ·rename_i hw
   rw [if_pos hw]
   split at hh
   ·obtain ⟨v, h1, h2⟩ := hh; exact ⟨v, h1, h _ _ _ h2⟩
   ·obtain ⟨v, h1, h2⟩ := hh; exact ⟨v, h1, h _ _ _ h2⟩
   ·exact Gy (λ a w ⟨h1, h2⟩ => ⟨h1, h _ _ _ h2⟩) hh
  ·rename_i hw; rw [if_neg hw]; exact h _ _ _ hh
theorem Xe {i : Nat} {N : Held -> Act -> Wp} (hN : ∀ H H' a w, (∀ y ∈ H', y ∈ H) -> N H a w -> N H' a w) {H H' : Held} {a : Act} {w : World} (hs : ∀ y ∈ H', y ∈ H) (h : stepS cls P ops un i N H a w) : stepS cls P ops un i N H' a w := by
 unfold stepS at h ⊢
 split at h
 ·exact h
 ·split at h
  ·rename_i hw
   rw [if_pos hw]
   split at h
   ·obtain ⟨v, h1, h2⟩ := h; exact ⟨v, h1, hN _ _ _ _ hs h2⟩
   ·obtain ⟨v, h1, h2⟩ := h
    refine ⟨v, h1, hN _ _ _ _ (λ x hx => ?_) h2⟩
    rcases List.mem_cons.1 hx with rfl | hx
    ·exact List.mem_cons_self
    ·exact List.mem_cons_of_mem _ (hs x hx)
   ·exact Gy (λ a w ⟨h1, h2⟩ => ⟨Pn hs h1, hN _ _ _ _ hs h2⟩) h
  ·rename_i hw; rw [if_neg hw]; exact hN _ _ _ _ hs h
theorem U8 {N : Held -> Act -> Wp} (hN : ∀ H H' a w, (∀ y ∈ H', y ∈ H) -> N H a w -> N H' a w) {x i : Nat} {ox oi : Oper} (hx : ops[x]? = some ox) (hi : ops[i]? = some oi) (hq : cls ox.op ≠ .eff) (hap : ox.apart ops oi = true) (hun : un x i = true)
  (hsx : ∀ cs b, ox.op ≠ .select cs b) (hsi : ∀ cs b, oi.op ≠ .select cs b) (H : Held) (a : Act) (w : World)
  (h : stepS cls P ops un x (stepS cls P ops un i N) H a w) : stepS cls P ops un i (stepS cls P ops un x N) H a w := by
 obtain ⟨h1, h2, h3⟩ := Oper.apart_spec hap
 have ei : ∀ (a : Act) v, execOp (a.put ox.dst v).eval oi = execOp a.eval oi := λ a v => execOp_put oi hsi a ox.dst v h1
 have wi : ∀ (a : Act) v, Region.wanted oi (yielded ops (a.put ox.dst v).tmps) = Region.wanted oi (yielded ops a.tmps) := λ a v => wanted_put oi a ox.dst v h1
 have ex : ∀ (a : Act) v, execOp (a.put oi.dst v).eval ox = execOp a.eval ox := λ a v => execOp_put ox hsx a oi.dst v h3
 have wx : ∀ (a : Act) v, Region.wanted ox (yielded ops (a.put oi.dst v).tmps) = Region.wanted ox (yielded ops a.tmps) := λ a v => wanted_put ox a oi.dst v h3
 have pc : ∀ (a : Act) v u, (a.put ox.dst v).put oi.dst u = (a.put oi.dst u).put ox.dst v := λ a v u => (Act.put_comm a v u h2)
 rw [stepS, hx] at h
 rw [stepS, hi]
 simp only at h ⊢
 by_cases hwi : Region.wanted oi (yielded ops a.tmps) = true
 ·rw [if_pos hwi]
  by_cases hwx : Region.wanted ox (yielded ops a.tmps) = true
  ·rw [if_pos hwx] at h
   cases c0 : cls ox.op with
   | eff => exact absurd c0 hq
   | free =>
    simp only [c0] at h
    obtain ⟨v, hv, h⟩ := h
    rw [stepS, hi] at h
    simp only [wi, hwi, if_true, ei] at h
    have back : ∀ (a' : Act) (w' : World) (H' : Held), (execOp a'.eval ox = execOp a.eval ox) -> (Region.wanted ox (yielded ops a'.tmps) = Region.wanted ox (yielded ops a.tmps)) ->
      N H' (a'.put ox.dst v) w' -> stepS cls P ops un x N H' a' w' := by
     intro a' w' H' he hw' hh
     rw [stepS, hx]
     simp only [hw', hwx, if_true, c0, he]
     exact ⟨v, hv, hh⟩
    split at h
    ·obtain ⟨u, hu, h⟩ := h
     exact ⟨u, hu, back _ _ _ (ex a u) (wx a u) (by rw [← pc]; exact h)⟩
    ·obtain ⟨u, hu, h⟩ := h
     exact ⟨u, hu, back _ _ _ (ex a u) (wx a u) (by rw [← pc]; exact h)⟩
    ·generalize (execOp a.eval oi).run P w = res at h ⊢
     cases res with
     | ok n w' =>
      cases n <;> simp only [Fe] at h ⊢
      case value u => exact ⟨h.1, back _ _ _ (ex a u) (wx a u) (by rw [← pc]; exact h.2)⟩
      case skip => exact ⟨h.1, back _ _ _ (ex a _) (wx a _) (by rw [← pc]; exact h.2)⟩
      case enter f args => exact Calls.mono h λ e w'' ⟨u, e1, he⟩ => ⟨u, e1, he.1, back _ _ _ (ex a u) (wx a u) (by rw [← pc]; exact he.2)⟩
      case round l f tmps assign body => exact RoundIn.mono h λ e w'' ⟨u, e1, he⟩ => ⟨u, e1, he.1, back _ _ _ (ex a u) (wx a u) (by rw [← pc]; exact he.2)⟩
      case row row args => exact Rows.mono h λ u w'' he => ⟨he.1, back _ _ _ (ex a u) (wx a u) (by rw [← pc]; exact he.2)⟩
     | halt y w' => simp only [Fe] at h
   | read =>
    have c1 := c0
    simp only [c1] at h
    obtain ⟨v, hv, h⟩ := h
    rw [stepS, hi] at h
    simp only [wi, hwi, if_true, ei] at h
    have back : ∀ (a' : Act) (w' : World) (H' : Held), (execOp a'.eval ox = execOp a.eval ox) -> (Region.wanted ox (yielded ops a'.tmps) = Region.wanted ox (yielded ops a.tmps)) ->
      (execOp a.eval ox).run P w' = .ok (.value v) w' ->
      N ((x, execOp a.eval ox, v) :: H') (a'.put ox.dst v) w' -> stepS cls P ops un x N H' a' w' := by
     intro a' w' H' he hw' hr hh
     rw [stepS, hx]
     simp only [hw', hwx, if_true, c1, he]
     exact ⟨v, hr, hh⟩
    have own : ∀ w', Qh P un i ((x, execOp a.eval ox, v) :: H) w' -> (execOp a.eval ox).run P w' = .ok (.value v) w' := λ w' hk => hk _ List.mem_cons_self hun
    have rest : ∀ w', Qh P un i ((x, execOp a.eval ox, v) :: H) w' -> Qh P un i H w' := λ w' hk => Pn (λ y hy => List.mem_cons_of_mem _ hy) hk
    split at h
    ·obtain ⟨u, hu, h⟩ := h
     exact ⟨u, hu, back _ _ _ (ex a u) (wx a u) hv (by rw [← pc]; exact h)⟩
    ·obtain ⟨u, hu, h⟩ := h
     refine ⟨u, hu, back _ _ _ (ex a u) (wx a u) hv ?_⟩
     rw [← pc]
     exact hN _ _ _ _ (λ y hy => by
      rcases List.mem_cons.1 hy with rfl | hy
      ·exact List.mem_cons_of_mem _ List.mem_cons_self
      ·rcases List.mem_cons.1 hy with rfl | hy
       ·exact List.mem_cons_self
       ·exact List.mem_cons_of_mem _ (List.mem_cons_of_mem _ hy)) h
    ·generalize (execOp a.eval oi).run P w = res at h ⊢
     cases res with
     | ok n w' =>
      cases n <;> simp only [Fe] at h ⊢
      case value u => exact ⟨rest _ h.1, back _ _ _ (ex a u) (wx a u) (own _ h.1) (by rw [← pc]; exact h.2)⟩
      case skip => exact ⟨rest _ h.1, back _ _ _ (ex a _) (wx a _) (own _ h.1) (by rw [← pc]; exact h.2)⟩
      case enter f args => exact Calls.mono h λ e w'' ⟨u, e1, he⟩ => ⟨u, e1, rest _ he.1, back _ _ _ (ex a u) (wx a u) (own _ he.1) (by rw [← pc]; exact he.2)⟩
      case round l f tmps assign body => exact RoundIn.mono h λ e w'' ⟨u, e1, he⟩ => ⟨u, e1, rest _ he.1, back _ _ _ (ex a u) (wx a u) (own _ he.1) (by rw [← pc]; exact he.2)⟩
      case row row args => exact Rows.mono h λ u w'' he => ⟨rest _ he.1, back _ _ _ (ex a u) (wx a u) (own _ he.1) (by rw [← pc]; exact he.2)⟩
     | halt y w' => simp only [Fe] at h
  ·
   rw [if_neg hwx] at h
   rw [stepS, hi] at h
   simp only [wi, hwi, if_true, ei] at h
   have back : ∀ (a' : Act) (w' : World) (H' : Held), (Region.wanted ox (yielded ops a'.tmps) = Region.wanted ox (yielded ops a.tmps)) ->
     N H' (a'.put ox.dst undef) w' -> stepS cls P ops un x N H' a' w' := by
    intro a' w' H' hw' hh
    rw [stepS, hx]
    simp only [hw', if_neg hwx]
    exact hh
   split at h
   ·obtain ⟨u, hu, h⟩ := h
    exact ⟨u, hu, back _ _ _ (wx a u) (by rw [← pc]; exact h)⟩
   ·obtain ⟨u, hu, h⟩ := h
    exact ⟨u, hu, back _ _ _ (wx a u) (by rw [← pc]; exact h)⟩
   ·generalize (execOp a.eval oi).run P w = res at h ⊢
    cases res with
    | ok n w' =>
     cases n <;> simp only [Fe] at h ⊢
     case value u => exact ⟨h.1, back _ _ _ (wx a u) (by rw [← pc]; exact h.2)⟩
     case skip => exact ⟨h.1, back _ _ _ (wx a _) (by rw [← pc]; exact h.2)⟩
     case enter f args => exact Calls.mono h λ e w'' ⟨u, e1, he⟩ => ⟨u, e1, he.1, back _ _ _ (wx a u) (by rw [← pc]; exact he.2)⟩
     case round l f tmps assign body => exact RoundIn.mono h λ e w'' ⟨u, e1, he⟩ => ⟨u, e1, he.1, back _ _ _ (wx a u) (by rw [← pc]; exact he.2)⟩
     case row row args => exact Rows.mono h λ u w'' he => ⟨he.1, back _ _ _ (wx a u) (by rw [← pc]; exact he.2)⟩
    | halt y w' => simp only [Fe] at h
 ·
  rw [if_neg hwi]
  by_cases hwx : Region.wanted ox (yielded ops a.tmps) = true
  ·rw [if_pos hwx] at h
   have hx' : ∀ u, Region.wanted ox (yielded ops (a.put oi.dst u).tmps) = true := λ u => by rw [wx]; exact hwx
   rw [stepS, hx]
   simp only [hx', if_true, ex]
   cases c0 : cls ox.op with
   | eff => exact absurd c0 hq
   | free =>
    simp only [c0] at h ⊢
    obtain ⟨v, hv, h⟩ := h
    rw [stepS, hi] at h
    simp only [wi, if_neg hwi] at h
    exact ⟨v, hv, by rw [← pc]; exact h⟩
   | read =>
    simp only [c0] at h ⊢
    obtain ⟨v, hv, h⟩ := h
    rw [stepS, hi] at h
    simp only [wi, if_neg hwi] at h
    exact ⟨v, hv, by rw [← pc]; exact h⟩
  ·rw [if_neg hwx] at h
   rw [stepS, hi] at h
   simp only [wi, if_neg hwi] at h
   rw [stepS, hx]
   simp only [wx, if_neg hwx]
   rw [← pc]
   exact h
theorem Wn {rd : Option Nat} {Q' : Exit -> Act -> Wp} {N : Held -> Act -> Wp} {i : Nat} {H : Held} {a : Act} {w : World} (h : stepS cls P ops un i N H a w) :
  wpOpIn (FW rd) 0 P ops Q' i (λ a' w' => ∃ H', N H' a' w') a w := by
 unfold stepS at h
 unfold wpOpIn
 split at h
 ·exact h.elim
 ·rename_i o ho
  simp only [ho]
  split at h
  ·rename_i hw
   rw [if_pos hw]
   refine Ap5 ?_
   split at h
   ·obtain ⟨v, h1, h2⟩ := h; rw [h1]; exact ⟨_, h2⟩
   ·obtain ⟨v, h1, h2⟩ := h; rw [h1]; exact ⟨_, h2⟩
   ·exact Gy (λ a w ⟨_, h2⟩ => ⟨_, h2⟩) h
  ·rename_i hw; rw [if_neg hw]; exact ⟨λ _ _ => trivial, _, h⟩
def Kq (cls : Op -> Cl) (ops : Array Oper) (i : Nat) : Bool :=
 match ops[i]? with
 | some o => match cls o.op with | .eff => true | _ => false
 | none => true
theorem Bx3 {x : Nat} {ox : Oper} (hx : ops[x]? = some ox) (hq : cls ox.op ≠ .eff) : Kq cls ops x = false := by
 unfold Kq
 cases hc : cls ox.op with
 | eff => exact absurd hc hq
 | free => simp only [hx, hc]
 | read => simp only [hx, hc]
def held (bf : Nat -> Nat -> Bool) (fs : List Nat) (x : Nat) : Bool := fs.any λ f => bf f x
def due (cls : Op -> Cl) (ops : Array Oper) (bf : Nat -> Nat -> Bool) (fs : List Nat) : List Nat -> Bool
 | [] => true
 | i :: _ => held bf fs i || Kq cls ops i
def wpI (cls : Op -> Cl) (P : Program) (ops : Array Oper) (un : Nat -> Nat -> Bool) (bf : Nat -> Nat -> Bool) (nx : List Nat -> List Nat -> Held -> Act -> Wp) (fs : List Nat) : List Nat -> Held -> Act -> World -> Prop
 | [], H, a, w => ∀ f ∈ fs, stepS cls P ops un f (nx (fs.erase f) []) H a w
 | i :: r, H, a, w => (due cls ops bf fs (i :: r) = true -> ∀ f ∈ fs, stepS cls P ops un f (nx (fs.erase f) (i :: r)) H a w) /\ (held bf fs i = false -> stepS cls P ops un i (wpI cls P ops un bf nx fs r) H a w)
def wpT (cls : Op -> Cl) (P : Program) (ops : Array Oper) (un : Nat -> Nat -> Bool) (Q : Act -> Wp) (bf : Nat -> Nat -> Bool) : Nat -> List Nat -> List Nat -> Held -> Act -> World -> Prop
 | 0, _, ρ => wpS cls P ops un Q ρ
 | m + 1, fs, ρ => wpI cls P ops un bf (wpT cls P ops un Q bf m) fs ρ
variable {bf : Nat -> Nat -> Bool}
theorem Ap1 {nx : List Nat -> List Nat -> Held -> Act -> Wp} (hnx : ∀ fs ρ H H' a w, (∀ x ∈ H', x ∈ H) -> nx fs ρ H a w -> nx fs ρ H' a w) (fs : List Nat) : ∀ (l : List Nat) (H H' : Held) (a : Act) (w : World), (∀ x ∈ H', x ∈ H) -> wpI cls P ops un bf nx fs l H a w -> wpI cls P ops un bf nx fs l H' a w := by
 intro l
 induction l with
 | nil => intro H H' a w hs h f hf; exact Xe (λ H H' a w => hnx _ _ H H' a w) hs (h f hf)
 | cons i r ih => intro H H' a w hs h; exact ⟨λ hd f hf => Xe (λ H H' a w => hnx _ _ H H' a w) hs (h.1 hd f hf), λ hb => Xe ih hs (h.2 hb)⟩
theorem U1 : ∀ (m : Nat) (fs ρ : List Nat) (H H' : Held) (a : Act) (w : World), (∀ x ∈ H', x ∈ H) -> wpT cls P ops un Q bf m fs ρ H a w -> wpT cls P ops un Q bf m fs ρ H' a w
 | 0, _, ρ, H, H', a, w, hs, h => Ap0 ρ H H' a w hs h
 | m + 1, fs, ρ, H, H', a, w, hs, h => Ap1 (U1 m) fs ρ H H' a w hs h
theorem Nu {fs : List Nat} {x : Nat} {r : List Nat} (hb : held bf fs x = false) (he : Kq cls ops x = false) : ¬ due cls ops bf fs (x :: r) = true := by simp [due, hb, he]
theorem Br7 {fs r : List Nat} {x : Nat} (hb : held bf fs x = false) (he : Kq cls ops x = false) : ∀ {m : Nat} {H : Held} {a : Act} {w : World}, stepS cls P ops un x (wpT cls P ops un Q bf m fs r) H a w -> wpT cls P ops un Q bf m fs (x :: r) H a w
 | 0, H, a, w, h => by show wpS cls P ops un Q (x :: r) H a w; rw [Br9]; exact h
 | m + 1, H, a, w, h => ⟨λ hd => absurd hd (Nu hb he), λ _ => h⟩
structure Floats (cls : Op -> Cl) (ops : Array Oper) (un : Nat -> Nat -> Bool) (f x : Nat) : Prop where
 un : un x f = true
 ap : ∃ ox of, ops[x]? = some ox /\ ops[f]? = some of /\ cls ox.op ≠ .eff /\ ox.apart ops of = true /\ (∀ cs b, ox.op ≠ .select cs b) /\ ∀ cs b, of.op ≠ .select cs b
theorem Bc9 {fs : List Nat} {f x : Nat} (h : held bf fs x = false) : held bf (fs.erase f) x = false := by
 unfold held at h ⊢
 rw [List.any_eq_false] at h ⊢
 exact λ y hy => h y (List.mem_of_mem_erase hy)
theorem Cc8 {fs : List Nat} {f m : Nat} (hf : f ∈ fs) : ∀ (l : List Nat), (∀ x ∈ l, held bf fs x = false -> Kq cls ops x = false -> Floats cls ops un f x) -> ∀ (H : Held) (a : Act) (w : World),
  wpI cls P ops un bf (wpT cls P ops un Q bf m) fs l H a w -> stepS cls P ops un f (wpT cls P ops un Q bf m (fs.erase f) l) H a w := by
 intro l
 induction l with
 | nil => intro _ H a w h; exact h f hf
 | cons x r ih =>
  intro hl H a w h
  cases hd : due cls ops bf fs (x :: r) with
  | true => exact h.1 hd f hf
  | false =>
   simp only [due, Bool.or_eq_false_iff] at hd
   obtain ⟨hb, he⟩ := hd
   obtain ⟨hun, ox, of, hox, hof, hq, hap, h1, h2⟩ := hl x List.mem_cons_self hb he
   have h3 := Vd (λ H a w => ih (λ y hy => hl y (List.mem_cons_of_mem _ hy)) H a w) (h.2 hb)
   have h4 := U8 (U1 m (fs.erase f) r) hox hof hq hap hun h1 h2 _ _ _ h3
   exact Vd (λ H a w h => Br7 (Bc9 hb) he h) h4
theorem Bl2 {nx : List Nat -> List Nat -> Held -> Act -> Wp} (hnx : ∀ fs ρ H H' a w, (∀ x ∈ H', x ∈ H) -> nx fs ρ H a w -> nx fs ρ H' a w) {fs : List Nat} {i : Nat} {oi : Oper} (hi : ops[i]? = some oi) (hsi : ∀ cs b, oi.op ≠ .select cs b) (hbi : held bf fs i = false) (r : List Nat) : ∀ (l : List Nat),
  (∀ x ∈ l, un x i = true /\ held bf fs x = false /\ ∃ ox, ops[x]? = some ox /\ cls ox.op ≠ .eff /\ ox.apart ops oi = true /\ ∀ cs b, ox.op ≠ .select cs b) ->
  ∀ (H : Held) (a : Act) (w : World), wpI cls P ops un bf nx fs (l ++ i :: r) H a w -> stepS cls P ops un i (wpI cls P ops un bf nx fs (l ++ r)) H a w := by
 intro l
 induction l with
 | nil => intro _ H a w h; exact h.2 hbi
 | cons x l ih =>
  intro hl H a w h
  obtain ⟨hun, hbx, ox, hx, hq, hap, hsx⟩ := hl x List.mem_cons_self
  have hex : Kq cls ops x = false := Bx3 hx hq
  have h1 := Vd (λ H a w => ih (λ y hy => hl y (List.mem_cons_of_mem _ hy)) H a w) (h.2 hbx)
  have h2 := U8 (Ap1 hnx fs (l ++ r)) hx hi hq hap hun hsx hsi _ _ _ h1
  exact Vd (λ H a w h => ⟨λ hd => absurd hd (Nu hbx hex), λ _ => h⟩) h2
end
def Lj (cls : Op -> Cl) (ops : Array Oper) (B : Nat -> Nat) (f : Nat) : List Nat -> Bool
 | [] => true
 | x :: r => (match (B x).testBit f with
   | true => r.all λ y => (B y).testBit f
   | false => (B f).testBit x || match Kq cls ops x with
    | true => true
    | false => match ops[x]?, ops[f]? with | some ox, some of => ox.apart ops of | _, _ => false) && Lj cls ops B f r
section
variable {cls : Op -> Cl} {P : Program} {ops : Array Oper} {B : Nat -> Nat} {Q : Act -> Wp} {f : Nat}
theorem I8 (hN : Ag6 ops = true) {of : Oper} (hof : ops[f]? = some of) : ∀ {l : List Nat}, Lj cls ops B f l = true -> ∀ x ∈ l, (B f).testBit x = false -> (B x).testBit f = false -> Kq cls ops x = false -> Floats cls ops (λ x i => !(B i).testBit x) f x
 | y :: r, h, x, hx, hfx, hb, he => by
  simp only [Lj, Bool.and_eq_true] at h
  rcases List.mem_cons.1 hx with rfl | hx
  ·obtain ⟨h2, _⟩ := h
   simp only [hb, he, hfx, Bool.false_or] at h2
   have h1 : (!(B f).testBit x) = true := by rw [hfx]; rfl
   cases hox : ops[x]? with
   | none => simp only [hox] at h2; exact absurd h2 (by simp)
   | some ox =>
    simp only [hox, hof] at h2
    refine ⟨h1, ox, of, hox, hof, λ hc => ?_, h2, Kt hN hox, Kt hN hof⟩
    unfold Kq at he
    simp only [hox, hc] at he
    exact absurd he (by simp)
  ·exact I8 hN hof h.2 x hx hfx hb he
theorem Wx {l : List Nat} {i : Nat} {r : List Nat} (h : Lj cls ops B f (l ++ i :: r) = true) : ((B i).testBit f = false -> ∀ x ∈ l, (B x).testBit f = false) /\ Lj cls ops B f (l ++ r) = true := by
 induction l with
 | nil => simp only [List.nil_append, Lj, Bool.and_eq_true] at h; exact ⟨(λ _ _ h => by cases h), h.2⟩
 | cons y l ih =>
  simp only [List.cons_append, Lj, Bool.and_eq_true] at h
  obtain ⟨h2, h3⟩ := h
  obtain ⟨g1, g2⟩ := ih h3
  refine ⟨λ hi x hx => ?_, ?_⟩
  ·have hy : (B y).testBit f = false := by
    cases hy : (B y).testBit f with
    | false => rfl
    | true =>
     simp only [hy] at h2
     have := List.all_eq_true.1 h2 i (List.mem_append_right _ List.mem_cons_self)
     rw [hi] at this; exact absurd this (by simp)
   rcases List.mem_cons.1 hx with rfl | hx
   ·exact hy
   ·exact g1 hi x hx
  ·simp only [List.cons_append, Lj, Bool.and_eq_true]
   refine ⟨?_, g2⟩
   cases hy : (B y).testBit f with
   | false => simp only [hy] at h2 ⊢; exact h2
   | true =>
    simp only [hy] at h2 ⊢
    rw [List.all_eq_true] at h2 ⊢
    intro x hx
    rcases List.mem_append.1 hx with hx | hx
    ·exact h2 x (List.mem_append_left _ hx)
    ·exact h2 x (List.mem_append_right _ (List.mem_cons_of_mem _ hx))
structure Ae3 (ops : Array Oper) (B : Nat -> Nat) (listed : Array Bool) (ρ : List Nat) : Prop where
 here : ∀ i, i < ops.size -> (listed.getD i false = true \/ i ∈ ρ)
 not : ∀ i, i ∈ ρ -> listed.getD i false = false /\ i < ops.size
 nodup : ρ.Nodup
 size : listed.size = ops.size
 down : ∀ i x, listed.getD i false = true -> (B i).testBit x = true -> x < ops.size -> listed.getD x false = true
theorem Bt7 {listed : Array Bool} {ρ : List Nat} {i : Nat} (inv : Ae3 ops B listed ρ) (h : i ∈ Region.ready .any ops listed) : i ∈ ρ /\ ∃ o, ops[i]? = some o /\ ∀ e ∈ o.after, Region.binds .any e = true -> listed.getD e.on false = true := by
 obtain ⟨h1, o, ho, h2⟩ := mem_ready.1 h
 have hi : i < ops.size := (Array.getElem?_eq_some_iff.1 ho).1
 refine ⟨(inv.here i hi).resolve_left λ hh => ?_, o, ho, h2⟩
 have : i < listed.size := by rw [inv.size]; exact hi
 simp [Array.getD, this] at hh h1
 rw [hh] at h1; exact absurd h1 (by simp)
theorem Yw (hB : Rk ops B = true) {listed : Array Bool} {ρ : List Nat} (inv : Ae3 ops B listed ρ) {i : Nat} {o : Oper} (ho : ops[i]? = some o) (hpre : ∀ e ∈ o.after, Region.binds .any e = true -> listed.getD e.on false = true) :
  ∀ x, (B i).testBit x = true -> x < ops.size -> listed.getD x false = true := by
 intro x hx hxs
 have hi' : i < ops.size := (Array.getElem?_eq_some_iff.1 ho).1
 have := List.all_eq_true.1 (List.all_eq_true.1 hB i (List.mem_range.2 hi')) x (List.mem_range.2 hxs)
 simp only [hx, Bool.not_true, Bool.false_or, ho, Option.map_some, Option.getD_some, List.any_eq_true, Bool.and_eq_true, Bool.or_eq_true] at this
 obtain ⟨e, he, hb, hc⟩ := this
 have hle := hpre e (by simpa using he) hb
 rcases hc with hc | hc
 ·have : e.on = x := Nat.eq_of_beq_eq_true hc
  rw [← this]; exact hle
 ·exact inv.down e.on x hle hc hxs
theorem Ae3.put (hB : Rk ops B = true) {listed : Array Bool} {l r : List Nat} {i : Nat} {o : Oper} (inv : Ae3 ops B listed (l ++ i :: r)) (ho : ops[i]? = some o) (hpre : ∀ e ∈ o.after, Region.binds .any e = true -> listed.getD e.on false = true) :
  Ae3 ops B (listed.setIfInBounds i true) (l ++ r) := by
 have hbound := Yw hB inv ho hpre
 have hi' : i < ops.size := (Array.getElem?_eq_some_iff.1 ho).1
 have hil : i < listed.size := by rw [inv.size]; exact hi'
 have hset : ∀ j, (listed.setIfInBounds i true).getD j false = true ↔ (j = i \/ listed.getD j false = true) := by
  intro j
  by_cases hj : i = j
  ·subst hj; simp [Array.getD, hil]
  ·rw [getD_set_ne false hj]; simp [Ne.symm hj]
 have hnd : i ∉ l ++ r := by
  have := inv.nodup
  rw [List.nodup_append] at this
  obtain ⟨h1, h2, h3⟩ := this
  rw [List.nodup_cons] at h2
  intro hm
  rcases List.mem_append.1 hm with hm | hm
  ·exact h3 i hm i List.mem_cons_self rfl
  ·exact h2.1 hm
 refine ⟨?_, ?_, ?_, by simp [inv.size], ?_⟩
 ·intro j hj
  rcases inv.here j hj with h | h
  ·exact .inl ((hset j).2 (.inr h))
  ·by_cases hji : j = i
   ·exact .inl ((hset j).2 (.inl hji))
   ·refine .inr ?_
    rcases List.mem_append.1 h with h | h
    ·exact List.mem_append_left _ h
    ·exact List.mem_append_right _ ((List.mem_cons.1 h).resolve_left hji)
 ·intro j hj
  have hji : j ≠ i := λ e => hnd (e ▸ hj)
  have hjm : j ∈ l ++ i :: r := by
   rcases List.mem_append.1 hj with h | h
   ·exact List.mem_append_left _ h
   ·exact List.mem_append_right _ (List.mem_cons_of_mem _ h)
  obtain ⟨h1, h2⟩ := inv.not j hjm
  refine ⟨?_, h2⟩
  cases hc : (listed.setIfInBounds i true).getD j false with
  | false => rfl
  | true =>
   rcases (hset j).1 hc with h | h
   ·exact absurd h hji
   ·rw [h1] at h; exact absurd h (by simp)
 ·have := inv.nodup
  rw [List.nodup_append] at this ⊢
  obtain ⟨h1, h2, h3⟩ := this
  rw [List.nodup_cons] at h2
  exact ⟨h1, h2.2, λ x hx y hy => h3 x hx y (List.mem_cons_of_mem _ hy)⟩
 ·intro j x hj hx hxs
  rcases (hset j).1 hj with h | h
  ·subst h; exact (hset x).2 (.inr (hbound x hx hxs))
  ·exact (hset x).2 (.inr (inv.down j x h hx hxs))
def Cb3 (ops : Array Oper) (f : Nat) : Bool := match ops[f]? with | some o => o.after.toList.all (λ e => !Region.binds .any e) | none => false
def Bf4 (ops : Array Oper) (f : Nat) : Bool := match ops[f]? with | some o => o.after.toList.all (λ e => !Region.binds .any e || Cb3 ops e.on) | none => false
theorem Aw7 {ops : Array Oper} {listed : Array Bool} {x : Nat} (hx : Cb3 ops x = true) (hl : listed.getD x false = false) (hs : listed.size = ops.size) : x ∈ Region.ready .any ops listed := by
 unfold Cb3 at hx
 cases ho : ops[x]? with
 | none => rw [ho] at hx; exact absurd hx (by simp)
 | some o =>
  rw [ho] at hx
  have hxs : x < listed.size := by rw [hs]; exact (Array.getElem?_eq_some_iff.1 ho).1
  exact mem_ready.2 ⟨by simpa [Array.getD, hxs] using hl, o, ho, λ e he hb => by
   have := List.all_eq_true.1 hx e (by simpa using he)
   rw [hb] at this; exact absurd this (by simp)⟩
theorem Ai9 (hB : Rk ops B = true) (hE : Q5 ops = true) (hN : Ag6 ops = true) {rd : Option Nat} {Q' : Exit -> Act -> Wp} (hQ : ∀ a w, Q a w -> Q' .normal a w) :
  ∀ (fuel m : Nat) (fs : List Nat) (listed : Array Bool) (ρ : List Nat) (H : Held) (a : Act) (w : World), fs.length = m -> fs.length + ρ.length = fuel -> Ae3 ops B listed (fs ++ ρ) -> Ik cls ops B ρ = true -> (∀ f ∈ fs, Lj cls ops B f ρ = true /\ Bf4 ops f = true) ->
   wpT cls P ops (λ x i => !(B i).testBit x) Q (λ f i => (B i).testBit f) m fs ρ H a w -> wpAnyIn (FW rd) 0 P .any ops Q' fuel listed a w := by
 intro fuel
 induction fuel with
 | zero =>
  intro m fs listed ρ H a w hm hl inv hpairs hfl h
  obtain rfl : fs = [] := List.length_eq_zero_iff.1 (by omega)
  obtain rfl : m = 0 := hm.symm
  exact Rl hB hE hN hQ 0 listed ρ H a w (by simpa using hl) ⟨hpairs, inv.here, inv.not, inv.nodup, inv.size, inv.down⟩ h
 | succ fuel ih =>
  intro m fs listed ρ H a w hm hl inv hpairs hfl h
  cases m with
  | zero =>
   obtain rfl : fs = [] := List.length_eq_zero_iff.1 hm
   exact Rl hB hE hN hQ (fuel + 1) listed ρ H a w (by simpa using hl) ⟨hpairs, inv.here, inv.not, inv.nodup, inv.size, inv.down⟩ h
  | succ m =>
  refine ⟨λ hr => ?_, λ i hi => ?_⟩
  ·obtain ⟨f, hf⟩ : ∃ f, f ∈ fs := List.exists_mem_of_length_pos (by omega)
   obtain ⟨_, hbare⟩ := hfl f hf
   have hfs := inv.not f (List.mem_append_left _ hf)
   have hfl' : f < listed.size := by rw [inv.size]; exact hfs.2
   have hof : ops[f]? = some ops[f] := by simp [hfs.2]
   unfold Bf4 at hbare
   rw [hof] at hbare
   by_cases hp : ∃ e ∈ ops[f].after, Region.binds .any e = true /\ listed.getD e.on false = false
   ·obtain ⟨e, he, hb, hl'⟩ := hp
    have h1 := List.all_eq_true.1 hbare e (by simpa using he)
    rw [hb] at h1
    have := Aw7 (by simpa using h1) hl' inv.size
    rw [hr] at this; exact absurd this (by simp)
   ·have : f ∈ Region.ready .any ops listed := mem_ready.2 ⟨by simpa [Array.getD, hfl'] using hfs.1, ops[f], hof, λ e he hb => by
     cases hc : listed.getD e.on false with
     | true => rfl
     | false => exact absurd ⟨e, he, hb, hc⟩ hp⟩
    rw [hr] at this; exact absurd this (by simp)
  obtain ⟨him, o, ho, hpre⟩ := Bt7 inv hi
  by_cases hif : i ∈ fs
  ·have hbx := Yw hB inv ho hpre
   have now := Cc8 hif ρ (λ x hx hb he => I8 hN ho (hfl i hif).1 x hx (by
    have hxs := inv.not x (List.mem_append_right _ hx)
    cases hc : (B i).testBit x with
    | false => rfl
    | true => rw [hbx x hc hxs.2] at hxs; exact absurd hxs.1 (by simp)) (by
    unfold held at hb
    rw [List.any_eq_false] at hb
    simpa using hb i hif) he) H a w h
   obtain ⟨l1, l2, hl12⟩ := List.append_of_mem hif
   have hnd : i ∉ l1 := by
    have := inv.nodup
    rw [hl12, List.append_assoc, List.nodup_append] at this
    intro hc
    exact this.2.2 i hc i (by simp) rfl
   have he : fs.erase i = l1 ++ l2 := by
    rw [hl12, List.erase_append_right _ hnd, List.erase_cons_head]
   have inv' : Ae3 ops B (listed.setIfInBounds i true) (l1 ++ (l2 ++ ρ)) := Ae3.put (l := l1) (r := l2 ++ ρ) hB (by rw [hl12] at inv; simpa using inv) ho hpre
   refine wpOpIn_mono (λ a' w' ⟨H', hh⟩ => ?_) (Wn now)
   have hlen : (fs.erase i).length = m := by rw [List.length_erase_of_mem hif]; omega
   exact ih m (fs.erase i) _ ρ H' a' w' hlen (by omega) (by rw [he, List.append_assoc]; exact inv') hpairs (λ f hf => hfl f (List.mem_of_mem_erase hf)) hh
  have him : i ∈ ρ := (List.mem_append.1 him).resolve_left hif
  obtain ⟨l, r, rfl⟩ := List.append_of_mem him
  have hnot : ∀ f ∈ fs, (B i).testBit f = false := λ f hf => by
   have hfs := inv.not f (List.mem_append_left _ hf)
   cases hb : (B i).testBit f with
   | false => rfl
   | true => rw [Yw hB inv ho hpre f hb hfs.2] at hfs; exact absurd hfs.1 (by simp)
  have hbi : held (λ f i => (B i).testBit f) fs i = false := by
   unfold held
   rw [List.any_eq_false]
   intro f hf
   simpa using hnot f hf
  have inv' : Ae3 ops B listed ((fs ++ l) ++ i :: r) := by rw [List.append_assoc]; exact inv
  obtain ⟨hpi, hpr, _⟩ := Wq hpairs
  have hbound := Yw hB inv ho hpre
  have hall : ∀ x ∈ l, (λ x i => !(B i).testBit x) x i = true /\ held (λ f i => (B i).testBit f) fs x = false /\ ∃ ox, ops[x]? = some ox /\ cls ox.op ≠ .eff /\ ox.apart ops o = true /\ ∀ cs b, ox.op ≠ .select cs b := λ x hx => by
   have hxm := inv'.not x (List.mem_append_left _ (List.mem_append_right _ hx))
   have hp := hpi x hx
   have hxo : ops[x]? = some ops[x] := by simp [hxm.2]
   simp only [Zj, hxo, ho, Bool.and_eq_true, Bool.or_eq_true] at hp
   have hnb : (B i).testBit x = false := by
    cases hb : (B i).testBit x with
    | false => rfl
    | true => rw [hbound x hb hxm.2] at hxm; exact absurd hxm.1 (by simp)
   refine ⟨by simp [hnb], ?_, ops[x], hxo, ?_, ?_, Kt hN hxo⟩
   ·unfold held
    rw [List.any_eq_false]
    intro f hf
    have := (Wx (hfl f hf).1).1 (hnot f hf) x hx
    simpa using this
   ·rcases hp.2 with h | h
    ·rw [hnb] at h; exact absurd h (by simp)
    ·intro hc; rw [hc] at h; simp at h
   ·rcases hp.2 with h | h
    ·rw [hnb] at h; exact absurd h (by simp)
    ·exact h.2
  have hstep := Bl2 (P := P) (U1 m) ho (Kt hN ho) hbi r l hall H a w h
  refine wpOpIn_mono (λ a' w' ⟨H', hh⟩ => ?_) (Wn hstep)
  exact ih (m + 1) fs _ (l ++ r) H' a' w' hm (by simp at hl ⊢; omega) (by rw [← List.append_assoc]; exact Ae3.put (l := fs ++ l) hB inv' ho hpre) hpr (λ f hf => ⟨(Wx (hfl f hf).1).2, (hfl f hf).2⟩) hh
def distinct : List Nat -> Bool
 | [] => true
 | x :: r => !r.contains x && distinct r
theorem Uo : ∀ {l : List Nat}, distinct l = true -> l.Nodup
 | [], _ => List.nodup_nil
 | x :: r, h => by
  simp only [distinct, Bool.and_eq_true, Bool.not_eq_true'] at h
  refine List.nodup_cons.2 ⟨λ hc => ?_, Uo h.2⟩
  rw [List.contains_iff_mem.2 hc] at h
  exact absurd h.1 (by simp)
def Al3 (cls : Op -> Cl) (ops : Array Oper) (B : Nat -> Nat) (fs ρ : List Nat) : Bool :=
 Rk ops B && Q5 ops && Ag6 ops && Al4 ops.size (fs ++ ρ) && Ik cls ops B ρ && (fs.all λ f => Lj cls ops B f ρ && Bf4 ops f) && distinct (fs ++ ρ)
theorem Tm {id : Nat} {a : Act} {w : World} {fs ρ : List Nat} (hm : P.follows .mixedOrders = true) (hok : Al3 cls ops B fs ρ = true) {rd : Option Nat} {Q' : Exit -> Act -> Wp}
  (hQ : ∀ a w, Q a w -> Q' .normal a w) (h : wpT cls P ops (λ x i => !(B i).testBit x) Q (λ f i => (B i).testBit f) fs.length fs ρ [] a { w with drawn := w.drawn + 1 }) : (Code.region id ops true).wpIn (FW rd) 0 P Q' a w := by
 simp only [Al3, Bool.and_eq_true] at hok
 obtain ⟨⟨⟨⟨⟨⟨hB, hE⟩, hN⟩, hO⟩, hP⟩, hfl⟩, hnd⟩ := hok
 simp only [Al4, Bool.and_eq_true] at hO
 have hlen : (fs ++ ρ).length = ops.size := Nat.eq_of_beq_eq_true hO.1.1
 have hmem : ∀ i, i < ops.size -> i ∈ fs ++ ρ := λ i hi => by simpa using List.all_eq_true.1 hO.2 i (List.mem_range.2 hi)
 have hlt : ∀ i ∈ fs ++ ρ, i < ops.size := λ i hi => by simpa using List.all_eq_true.1 hO.1.2 i hi
 refine wpIn_region_any hm (Ai9 hB hE hN hQ ops.size _ fs _ ρ [] a _ rfl (by simpa using hlen) ⟨λ i hi => .inr (hmem i hi), λ i hi => ⟨?_, hlt i hi⟩, Uo hnd, by simp, ?_⟩ hP (λ f hf => by
  have := List.all_eq_true.1 hfl f hf
  simpa using this) h)
 ·simp [Array.getD]
 ·intro i x hi
  simp [Array.getD] at hi
end
#print axioms Tm
structure Fr where
 tm : Nat -> Option Value
 ds : List Nat
instance : CoeFun Fr λ _ => Nat -> Option Value := ⟨Fr.tm⟩
def Fr.set (φ : Fr) (d : Nat) (v : Value) : Fr := ⟨λ i => match Nat.beq i d with | true => some v | false => φ i, φ.ds⟩
def Fr.mark (φ : Fr) (D : Nat) : Fr := ⟨φ.tm, D :: φ.ds⟩
def Fr.bare (φ : Fr) : Fr := ⟨φ.tm, []⟩
def marks (ds : List Nat) : List Deferred := ds.map λ D => { target := .collected D, args := #[] }
def Fr.put (φ : Fr) (dst : Option Nat) (v : Value) : Fr := match dst with | some d => φ.set d v | none => φ
def Fr.ev (φ : Fr) : Ev
 | .tmp t => φ t
 | .const v => some v
 | .global g => some (.pointer (some ⟨g, 0, none⟩))
 | .func f => some (.func (.func f) #[] #[])
structure Fits (n : Nat) (φ : Fr) (a : Act) : Prop where
 size : a.tmps.size = n
 defers : a.defers = marks φ.ds
 at_ : ∀ i v, φ i = some v -> a.tmps[i]? = some v
inductive RS where
 | done
 | op (rt : Option RTy) (r : RS)
 | skip (r : RS)
 | split (d : Nat) (t e : RS)
 | float (fs : List Nat) (r : RS)
 | plain (r : RS)
 | alt (rt : Option RTy) (a r : RS)
 | stop
abbrev HV := List (Nat × (World -> Prop))
def pend (un : Nat -> Nat -> Bool) (i : Nat) : HV -> (World -> Prop) -> World -> Prop
 | [], K => K
 | x :: r, K => match un x.1 i with | true => keep x.2 (pend un i r K) | false => pend un i r K
def gIs (ops : List Oper) (φ : Fr) (o : Oper) : Option Bool :=
 match o.guard with
 | none => some true
 | some g => match ops[g.1]? with
  | none => none
  | some og => match og.dst with
   | none => none
   | some d => match φ d with
    | some (.bool b) => match b, g.2 with
     | true, true => some true
     | false, false => some true
     | _, _ => some false
    | some (.tuple _) => some false
    | _ => none
def dOk (n : Nat) (o : Oper) : Bool := match o.dst with | some d => Nat.blt d n | none => true
def Bm5 (T : Tab) (o : Oper) : Option RTy -> Option RTy
 | some t => some t
 | none => match T.get o.type with | some i => some i.rty | none => none
def Tv (T : Tab) (P : Program) (n : Nat) (ops : List Oper) (un : Nat -> Nat -> Bool) : RS -> List Nat -> Fr -> HV -> (Fr -> Wp) -> World -> Prop
 | .done, σ, φ, _, K => match σ with | [] => K φ | _ :: _ => λ _ => False
 | .op rt r, σ, φ, H, K => match σ with
  | [] => λ _ => False
  | i :: σ => match ops[i]? with
   | none => λ _ => False
   | some o => match gIs ops φ o, dOk n o with
    | some true, true => match T.cls o.op with
     | .free => match quiet T P φ.ev o with
      | .val v => Tv T P n ops un r σ (φ.put o.dst v) H K
      | .cond c f => cdE c λ x => Tv T P n ops un r σ (φ.put o.dst (f x)) H K
      | _ => λ _ => False
     | .read => match quiet T P φ.ev o with
      | .val v => Tv T P n ops un r σ (φ.put o.dst v) H K
      | .cond c f => cdE c λ x => Tv T P n ops un r σ (φ.put o.dst (f x)) H K
      | .read rd f => rdE rd λ x => Tv T P n ops un r σ (φ.put o.dst (f x)) ((i, rd x) :: H) K
      | .no => λ _ => False
     | .eff => eff T P φ.ev o (Bm5 T o rt) λ v => pend un i H (Tv T P n ops un r σ (φ.put o.dst v) H K)
    | _, _ => λ _ => False
 | .skip r, σ, φ, H, K => match σ with
  | [] => λ _ => False
  | i :: σ => match ops[i]? with
   | none => λ _ => False
   | some o => match gIs ops φ o, dOk n o with
    | some false, true => Tv T P n ops un r σ (φ.put o.dst undef) H K
    | _, _ => λ _ => False
 | .split d t e, σ, φ, H, K => match φ d with
  | some (.bool b) => sif b (Tv T P n ops un t σ (φ.set d (.bool true)) H K) (Tv T P n ops un e σ (φ.set d (.bool false)) H K)
  | _ => λ _ => False
 | .float _ _, _, _, _, _ => λ _ => False
 | .plain _, _, _, _, _ => λ _ => False
 | .alt _ _ _, _, _, _, _ => λ _ => False
 | .stop, _, _, _, _ => λ _ => False
def both (A B : World -> Prop) : World -> Prop := λ w => A w /\ B w
def nothing : World -> Prop := λ _ => True
def Jo (T : Tab) (P : Program) (n : Nat) (ops : List Oper) (un : Nat -> Nat -> Bool) (bf : Nat -> Nat -> Bool) : RS -> List Nat -> List Nat -> List Nat -> Fr -> HV -> (Fr -> Wp) -> World -> Prop
 | .plain r, fs, _, σ, φ, H, K => match fs with
  | [] => Tv T P n ops un r σ φ H K
  | _ :: _ => λ _ => False
 | .alt rt a r, fs, alts, σ, φ, H, K => match alts with
  | [] => λ _ => False
  | f :: alts => match ops[f]? with
   | none => λ _ => False
   | some o => match gIs ops φ o, dOk n o, T.cls o.op with
    | some true, true, .eff => both (eff T P φ.ev o (Bm5 T o rt) λ v => pend un f H (Jo T P n ops un bf a (fs.erase f) (fs.erase f) σ (φ.put o.dst v) H K)) (Jo T P n ops un bf r fs alts σ φ H K)
    | _, _, _ => λ _ => False
 | .stop, fs, alts, σ, _, _, _ => match fs, alts with
  | _ :: _, [] => (match σ with
   | [] => nothing
   | i :: _ => match held bf fs i with
    | true => nothing
    | false => λ _ => False)
  | _, _ => λ _ => False
 | .op rt r, fs, alts, σ, φ, H, K => match fs, σ with
  | _ :: _, i :: σ => match ops[i]? with
   | none => λ _ => False
   | some o => match held bf fs i, gIs ops φ o, dOk n o with
    | false, some true, true => match T.cls o.op with
     | .free => match quiet T P φ.ev o with
      | .val v => Jo T P n ops un bf r fs fs σ (φ.put o.dst v) H K
      | .cond c g => cdE c λ x => Jo T P n ops un bf r fs fs σ (φ.put o.dst (g x)) H K
      | _ => λ _ => False
     | .read => match quiet T P φ.ev o with
      | .val v => Jo T P n ops un bf r fs fs σ (φ.put o.dst v) H K
      | .cond c g => cdE c λ x => Jo T P n ops un bf r fs fs σ (φ.put o.dst (g x)) H K
      | .read rd g => rdE rd λ x => Jo T P n ops un bf r fs fs σ (φ.put o.dst (g x)) ((i, rd x) :: H) K
      | .no => λ _ => False
     | .eff => match alts with
      | [] => eff T P φ.ev o (Bm5 T o rt) λ v => pend un i H (Jo T P n ops un bf r fs fs σ (φ.put o.dst v) H K)
      | _ :: _ => λ _ => False
    | _, _, _ => λ _ => False
  | _, _ => λ _ => False
 | .skip r, fs, alts, σ, φ, H, K => match fs, σ with
  | _ :: _, i :: σ => match ops[i]? with
   | none => λ _ => False
   | some o => match held bf fs i, gIs ops φ o, dOk n o with
    | false, some false, true => match T.cls o.op, alts with
     | .eff, _ :: _ => λ _ => False
     | _, _ => Jo T P n ops un bf r fs fs σ (φ.put o.dst undef) H K
    | _, _, _ => λ _ => False
  | _, _ => λ _ => False
 | .split d t e, fs, alts, σ, φ, H, K => match φ d with
  | some (.bool b) => sif b (Jo T P n ops un bf t fs alts σ (φ.set d (.bool true)) H K) (Jo T P n ops un bf e fs alts σ (φ.set d (.bool false)) H K)
  | _ => λ _ => False
 | .done, _, _, _, _, _, _ => λ _ => False
 | .float _ _, _, _, _, _, _, _ => λ _ => False
structure Agree (m : Nat) (s : Bool) (a a' : Act) : Prop where
 at_ : ∀ i, m.testBit i = false -> a'.tmps[i]? = a.tmps[i]?
 defers : s = true -> a'.defers = a.defers
theorem Agree.refl (m : Nat) (s : Bool) (a : Act) : Agree m s a a := ⟨λ _ _ => rfl, λ _ => rfl⟩
theorem Agree.trans {m : Nat} {s : Bool} {a b c : Act} (h : Agree m s a b) (h' : Agree m s b c) : Agree m s a c := ⟨λ i hi => (h'.at_ i hi).trans (h.at_ i hi), λ e => (h'.defers e).trans (h.defers e)⟩
theorem Agree.mono {m m' : Nat} {s s' : Bool} {a b : Act} (h : Agree m s a b) (hs : ∀ i, m.testBit i = true -> m'.testBit i = true) (hd : s' = true -> s = true) : Agree m' s' a b := ⟨λ i hi => h.at_ i (by
 cases hm : m.testBit i with
 | false => rfl
 | true => rw [hs i hm] at hi; cases hi), λ e => h.defers (hd e)⟩
theorem Fits.ev {n : Nat} {φ : Fr} {a : Act} (h : Fits n φ a) : ∀ x v, φ.ev x = some v -> a.eval x = v := by
 intro x v hx
 cases x with
 | tmp t => simp only [Fr.ev] at hx; have := h.at_ t v hx; simp [Act.eval, Array.getD_eq_getD_getElem?, this]
 | const u => cases hx; rfl
 | global g => cases hx; rfl
 | func f => cases hx; rfl
theorem Fits.put {n : Nat} {φ : Fr} {a : Act} (h : Fits n φ a) {o : Oper} (hd : dOk n o = true) (v : Value) : Fits n (φ.put o.dst v) (a.put o.dst v) := by
 unfold dOk at hd
 cases ho : o.dst with
 | none => exact h
 | some d =>
  rw [ho] at hd
  have hd : d < n := by simpa using hd
  refine ⟨by simp [Act.put, h.size], h.defers, λ i u hi => ?_⟩
  simp only [Fr.put, Fr.set] at hi
  split at hi
  ·rename_i e
   obtain rfl := Nat.eq_of_beq_eq_true e
   cases hi
   simp [Act.put, h.size, hd]
  ·rename_i e
   have hne : d ≠ i := λ hh => by rw [hh, Nat.beq_refl] at e; cases e
   simp only [Act.put]
   rw [Array.getElem?_setIfInBounds_ne hne]
   exact h.at_ i u hi
theorem Fits.set {n : Nat} {φ : Fr} {a : Act} (h : Fits n φ a) {d : Nat} {v : Value} (hv : a.tmps[d]? = some v) : Fits n (φ.set d v) a := by
 refine ⟨h.size, h.defers, λ i u hi => ?_⟩
 simp only [Fr.set] at hi
 split at hi
 ·rename_i e; obtain rfl := Nat.eq_of_beq_eq_true e; cases hi; exact hv
 ·exact h.at_ i u hi
theorem Agree.put {m : Nat} {a : Act} {o : Oper} (hm : ∀ d, o.dst = some d -> m.testBit d = true) (v : Value) : Agree m true a (a.put o.dst v) := by
 refine ⟨λ i hi => ?_, λ _ => by cases o.dst <;> rfl⟩
 cases ho : o.dst with
 | none => rfl
 | some d =>
  have hne : d ≠ i := λ hh => by have := hm d ho; rw [hh, hi] at this; cases this
  simp only [Act.put]
  rw [Array.getElem?_setIfInBounds_ne hne]
theorem Jk {n : Nat} {ops : Array Oper} {φ : Fr} {a : Act} (h : Fits n φ a) {o : Oper} {r : Bool} (hg : gIs ops.toList φ o = some r) : Region.wanted o (yielded ops a.tmps) = r := by
 unfold gIs at hg
 unfold Region.wanted
 split at hg
 ·rename_i e; cases hg; rw [e]
 ·rename_i g e
  rw [e]
  obtain ⟨j, want⟩ := g
  simp only at hg ⊢
  split at hg
  ·cases hg
  ·rename_i og hog
   have hog' : ops[j]? = some og := by rw [← hog]; simp
   split at hg
   ·cases hg
   ·rename_i d hd
    split at hg
    ·rename_i b hb
     have ht := h.at_ d _ hb
     have hy : yielded ops a.tmps j = some b := by
      unfold yielded
      simp [hog', hd, ht]
     rw [hy]
     cases b <;> cases want <;> simp only at hg <;> cases hg <;> rfl
    ·rename_i vs hb
     have ht := h.at_ d _ hb
     have hy : yielded ops a.tmps j = none := by
      unfold yielded
      simp [hog', hd, ht]
     rw [hy]
     cases hg
     rfl
    ·cases hg
theorem Ug {un : Nat -> Nat -> Bool} {i : Nat} {K : World -> Prop} : ∀ {H : HV} {w : World}, pend un i H K w -> (∀ x ∈ H, un x.1 i = true -> x.2 w) /\ K w
 | [], w, h => ⟨λ _ hx => (by cases hx), h⟩
 | x :: r, w, h => by
  simp only [pend] at h
  cases hu : un x.1 i with
  | true =>
   simp only [hu] at h
   obtain ⟨h1, h2⟩ := h
   obtain ⟨h3, h4⟩ := Ug h2
   refine ⟨λ y hy hyu => ?_, h4⟩
   rcases List.mem_cons.1 hy with rfl | hy
   ·exact h1
   ·exact h3 y hy hyu
  | false =>
   simp only [hu] at h
   obtain ⟨h3, h4⟩ := Ug h
   refine ⟨λ y hy hyu => ?_, h4⟩
   rcases List.mem_cons.1 hy with rfl | hy
   ·rw [hu] at hyu; cases hyu
   ·exact h3 y hy hyu
def Cj4 (P : Program) (Hs : Held) (H : HV) : Prop :=
 ∀ x ∈ Hs, (∀ w', x.2.1.run P w' = .ok (.value x.2.2) w') \/ ∃ p, (x.1, p) ∈ H /\ ∀ w', p w' -> x.2.1.run P w' = .ok (.value x.2.2) w'
theorem Xc {T : Tab} {P : Program} (ok : T.Ok P) {n : Nat} {ops : Array Oper} {un : Nat -> Nat -> Bool} {m : Nat} (hm : ∀ o ∈ ops.toList, ∀ d, o.dst = some d -> m.testBit d = true) {K : Fr -> Wp} {a0 : Act} :
  ∀ (rs : RS) (σ : List Nat) (φ : Fr) (H : HV) (Hs : Held) (a : Act) (w : World), Fits n φ a -> Cj4 P Hs H -> Agree m true a0 a -> Tv T P n ops.toList un rs σ φ H K w ->
   wpS T.cls P ops un (λ a' w' => ∃ φ', Fits n φ' a' /\ Agree m true a0 a' /\ K φ' w') σ Hs a w := by
 intro rs
 induction rs with
 | done =>
  intro σ φ H Hs a w hF hH hA h
  cases σ with
  | nil => exact ⟨φ, hF, hA, h⟩
  | cons i σ => exact h.elim
 | op rt r ih =>
  intro σ φ H Hs a w hF hH hA h
  cases σ with
  | nil => exact h.elim
  | cons i σ =>
   simp only [Tv] at h
   cases ho : ops.toList[i]? with
   | none => simp only [ho] at h
   | some o =>
    simp only [ho] at h
    have ho' : ops[i]? = some o := by rw [← ho]; simp
    have hmo := hm o (List.mem_of_getElem? ho)
    cases hg : gIs ops.toList φ o with
    | none => simp only [hg] at h
    | some b =>
    cases b with
    | false => simp only [hg] at h
    | true =>
    cases hd : dOk n o with
    | false => simp only [hg, hd] at h
    | true =>
    simp only [hg, hd] at h
    rw [wpS]
    simp only [ho', Jk hF hg, if_true]
    have hq := G8 ok hF.ev o
    have step : ∀ v H' Hs' w', Cj4 P Hs' H' -> Tv T P n ops.toList un r σ (φ.put o.dst v) H' K w' ->
      wpS T.cls P ops un (λ a' w' => ∃ φ', Fits n φ' a' /\ Agree m true a0 a' /\ K φ' w') σ Hs' (a.put o.dst v) w' :=
     λ v H' Hs' w' hr hh => ih σ _ H' Hs' _ w' (hF.put hd v) hr (hA.trans (Agree.put hmo v)) hh
    cases hc : T.cls o.op with
    | free =>
     simp only [hc] at h ⊢
     cases hqq : quiet T P φ.ev o with
     | no => simp only [hqq] at h
     | val v => simp only [hqq] at h hq; exact ⟨v, hq, step v H Hs w hH h⟩
     | cond c f =>
      simp only [hqq] at h hq
      obtain ⟨x, hx, h⟩ := h
      exact ⟨f x, hq x hx, step _ H Hs w hH h⟩
     | read rd f => simp only [hqq] at h
    | read =>
     simp only [hc] at h ⊢
     cases hqq : quiet T P φ.ev o with
     | no => simp only [hqq] at h
     | val v =>
      simp only [hqq] at h hq
      refine ⟨v, hq w, step v H _ w (λ x hx => ?_) h⟩
      rcases List.mem_cons.1 hx with rfl | hx
      ·exact .inl hq
      ·exact hH x hx
     | cond c f =>
      simp only [hqq] at h hq
      obtain ⟨x, hx, h⟩ := h
      refine ⟨f x, hq x hx w, step _ H _ w (λ y hy => ?_) h⟩
      rcases List.mem_cons.1 hy with rfl | hy
      ·exact .inl (hq x hx)
      ·exact hH y hy
     | read rd f =>
      simp only [hqq] at h hq
      obtain ⟨x, hx, h⟩ := h
      refine ⟨f x, hq x w hx, step _ _ _ w (λ y hy => ?_) h⟩
      rcases List.mem_cons.1 hy with rfl | hy
      ·exact .inr ⟨rd x, List.mem_cons_self, λ w' hw' => hq x w' hw'⟩
      ·rcases hH y hy with h | ⟨p, hp, hpw⟩
       ·exact .inl h
       ·exact .inr ⟨p, List.mem_cons_of_mem _ hp, hpw⟩
    | eff =>
     simp only [hc] at h ⊢
     have he := A8 ok hF.ev o (Bm5 T o rt) _ a rfl w h
     refine Gy (λ a' w' hl => ?_) he
     obtain ⟨v, rfl, hp⟩ := hl
     obtain ⟨h1, h2⟩ := Ug hp
     refine ⟨λ x hx hu => ?_, step v H Hs w' hH h2⟩
     rcases hH x hx with h | ⟨p, hp, hpw⟩
     ·exact h w'
     ·exact hpw w' (h1 _ hp hu)
 | skip r ih =>
  intro σ φ H Hs a w hF hH hA h
  cases σ with
  | nil => exact h.elim
  | cons i σ =>
   simp only [Tv] at h
   cases ho : ops.toList[i]? with
   | none => simp only [ho] at h
   | some o =>
    simp only [ho] at h
    have ho' : ops[i]? = some o := by rw [← ho]; simp
    have hmo := hm o (List.mem_of_getElem? ho)
    cases hg : gIs ops.toList φ o with
    | none => simp only [hg] at h
    | some b =>
    cases b with
    | true => simp only [hg] at h
    | false =>
    cases hd : dOk n o with
    | false => simp only [hg, hd] at h
    | true =>
    simp only [hg, hd] at h
    rw [wpS]
    simp only [ho', Jk hF hg, Bool.false_eq_true, if_false]
    exact ih σ _ H Hs _ w (hF.put hd undef) hH (hA.trans (Agree.put hmo undef)) h
 | split d t e iht ihe =>
  intro σ φ H Hs a w hF hH hA h
  simp only [Tv] at h
  cases hd : φ d with
  | none => simp only [hd] at h
  | some v =>
   cases v with
   | bool b =>
    simp only [hd] at h
    have hv := hF.at_ d _ hd
    cases b with
    | true => exact iht σ _ H Hs a w (hF.set hv) hH hA (h.1 rfl)
    | false => exact ihe σ _ H Hs a w (hF.set hv) hH hA (h.2 rfl)
   | _ => simp only [hd] at h
 | float f r _ => intro σ φ H Hs a w hF hH hA h; exact h.elim
 | plain r _ => intro σ φ H Hs a w hF hH hA h; exact h.elim
 | alt rt a r _ _ => intro σ φ H Hs a w hF hH hA h; exact h.elim
 | stop => intro σ φ H Hs a w hF hH hA h; exact h.elim
def Rst (cls : Op -> Cl) (P : Program) (ops : Array Oper) (un : Nat -> Nat -> Bool) (Q : Act -> Wp) (bf : Nat -> Nat -> Bool) (m : Nat) (fs alts σ : List Nat) (H : Held) (a : Act) (w : World) : Prop :=
  match m with
  | 0 => wpS cls P ops un Q σ H a w
  | m + 1 => (due cls ops bf fs σ = true -> ∀ f ∈ alts, stepS cls P ops un f (wpT cls P ops un Q bf m (fs.erase f) σ) H a w) /\
      (match σ with
       | [] => True
       | i :: r => held bf fs i = false -> stepS cls P ops un i (wpI cls P ops un bf (wpT cls P ops un Q bf m) fs r) H a w)
theorem Rst.full {cls : Op -> Cl} {P : Program} {ops : Array Oper} {un : Nat -> Nat -> Bool} {Q : Act -> Wp} {bf : Nat -> Nat -> Bool} {m : Nat} {fs σ : List Nat} {H : Held} {a : Act} {w : World} (h : Rst cls P ops un Q bf m fs fs σ H a w) : wpT cls P ops un Q bf m fs σ H a w := by
 cases m with
 | zero => exact h
 | succ m =>
  cases σ with
  | nil => exact h.1 rfl
  | cons i r => exact h
theorem Ap4 {T : Tab} {P : Program} (ok : T.Ok P) {n : Nat} {ops : Array Oper} {un : Nat -> Nat -> Bool} {bf : Nat -> Nat -> Bool} {m0 : Nat} (hm : ∀ o ∈ ops.toList, ∀ d, o.dst = some d -> m0.testBit d = true) {K : Fr -> Wp} {a0 : Act} :
  ∀ (rs : RS) (m : Nat) (fs alts σ : List Nat) (φ : Fr) (H : HV) (Hs : Held) (a : Act) (w : World), fs.length = m -> (∀ f ∈ alts, f ∈ fs) -> Fits n φ a -> Cj4 P Hs H -> Agree m0 true a0 a -> Jo T P n ops.toList un bf rs fs alts σ φ H K w ->
   Rst T.cls P ops un (λ a' w' => ∃ φ', Fits n φ' a' /\ Agree m0 true a0 a' /\ K φ' w') bf m fs alts σ Hs a w := by
 intro rs
 induction rs with
 | done => intro m fs alts σ φ H Hs a w hl hs hF hH hA h; exact h.elim
 | float f r _ => intro m fs alts σ φ H Hs a w hl hs hF hH hA h; exact h.elim
 | plain r _ =>
  intro m fs alts σ φ H Hs a w hl hs hF hH hA h
  cases fs with
  | nil => subst hl; exact Xc ok hm r σ φ H Hs a w hF hH hA h
  | cons f fs => exact h.elim
 | stop =>
  intro m fs alts σ φ H Hs a w hl hs hF hH hA h
  cases fs with
  | nil => exact h.elim
  | cons f fs =>
   cases alts with
   | cons f' alts => exact h.elim
   | nil =>
    subst hl
    refine ⟨λ _ f hf => (by cases hf), ?_⟩
    cases σ with
    | nil => trivial
    | cons i r =>
     intro hb
     simp only [Jo] at h
     cases hb' : held bf (f :: fs) i with
     | true => rw [hb] at hb'; cases hb'
     | false => simp only [hb'] at h
 | alt rt x r ihx ihr =>
  intro m fs alts σ φ H Hs a w hl hs hF hH hA h
  cases alts with
  | nil => exact h.elim
  | cons f alts =>
   simp only [Jo] at h
   cases ho : ops.toList[f]? with
   | none => simp only [ho] at h
   | some o =>
    simp only [ho] at h
    have ho' : ops[f]? = some o := by rw [← ho]; simp
    have hmo := hm o (List.mem_of_getElem? ho)
    cases hg : gIs ops.toList φ o with
    | none => simp only [hg] at h
    | some b =>
    cases b with
    | false => simp only [hg] at h
    | true =>
    cases hd : dOk n o with
    | false => simp only [hg, hd] at h
    | true =>
    cases hc : T.cls o.op with
    | free => simp only [hg, hd, hc] at h
    | read => simp only [hg, hd, hc] at h
    | eff =>
     simp only [hg, hd, hc] at h
     obtain ⟨h1, h2⟩ := h
     have hff := hs f List.mem_cons_self
     have hr := ihr m fs alts σ φ H Hs a w hl (λ g hg => hs g (List.mem_cons_of_mem _ hg)) hF hH hA h2
     cases m with
     | zero => rw [List.length_eq_zero_iff.1 hl] at hff; cases hff
     | succ m =>
      refine ⟨λ hdue g hgm => ?_, hr.2⟩
      rcases List.mem_cons.1 hgm with rfl | hgm
      ·unfold stepS
       simp only [ho', Jk hF hg, if_true, hc]
       have he := A8 ok hF.ev o (Bm5 T o rt) _ a rfl w h1
       refine Gy (λ a' w' hl' => ?_) he
       obtain ⟨v, rfl, hp⟩ := hl'
       obtain ⟨g1, g2⟩ := Ug hp
       refine ⟨λ y hy hu => ?_, (ihx m (fs.erase g) (fs.erase g) σ _ H Hs _ w' (by rw [List.length_erase_of_mem hff]; omega) (λ _ h => h) (hF.put hd v) hH (hA.trans (Agree.put hmo v)) g2).full⟩
       rcases hH y hy with h | ⟨p, hp, hpw⟩
       ·exact h w'
       ·exact hpw w' (g1 _ hp hu)
      ·exact hr.1 hdue g hgm
 | op rt r ih =>
  intro m fs alts σ φ H Hs a w hl hs hF hH hA h
  cases fs with
  | nil => exact h.elim
  | cons f0 fs =>
  cases σ with
  | nil => exact h.elim
  | cons i σ =>
   obtain rfl : m = fs.length + 1 := by simpa using hl.symm
   simp only [Jo] at h
   cases ho : ops.toList[i]? with
   | none => simp only [ho] at h
   | some o =>
    simp only [ho] at h
    have ho' : ops[i]? = some o := by rw [← ho]; simp
    have hmo := hm o (List.mem_of_getElem? ho)
    cases hb : held bf (f0 :: fs) i with
    | true => simp only [hb] at h
    | false =>
    cases hg : gIs ops.toList φ o with
    | none => simp only [hb, hg] at h
    | some b =>
    cases b with
    | false => simp only [hb, hg] at h
    | true =>
    cases hd : dOk n o with
    | false => simp only [hb, hg, hd] at h
    | true =>
    simp only [hb, hg, hd] at h
    have hq := G8 ok hF.ev o
    have step : ∀ v H' Hs' w', Cj4 P Hs' H' -> Jo T P n ops.toList un bf r (f0 :: fs) (f0 :: fs) σ (φ.put o.dst v) H' K w' ->
      wpI T.cls P ops un bf (wpT T.cls P ops un (λ a' w' => ∃ φ', Fits n φ' a' /\ Agree m0 true a0 a' /\ K φ' w') bf fs.length) (f0 :: fs) σ Hs' (a.put o.dst v) w' :=
     λ v H' Hs' w' hr hh => (ih (fs.length + 1) (f0 :: fs) (f0 :: fs) σ _ H' Hs' _ w' rfl (λ _ h => h) (hF.put hd v) hr (hA.trans (Agree.put hmo v)) hh).full
    cases hc : T.cls o.op with
    | free =>
     have he : Kq T.cls ops i = false := by unfold Kq; simp only [ho', hc]
     refine ⟨λ hdue => absurd hdue (Nu hb he), λ _ => ?_⟩
     unfold stepS
     simp only [ho', Jk hF hg, if_true, hc] at h ⊢
     cases hqq : quiet T P φ.ev o with
     | no => simp only [hqq] at h
     | val v => simp only [hqq] at h hq; exact ⟨v, hq, step v H Hs w hH h⟩
     | cond c f =>
      simp only [hqq] at h hq
      obtain ⟨x, hx, h⟩ := h
      exact ⟨f x, hq x hx, step _ H Hs w hH h⟩
     | read rd f => simp only [hqq] at h
    | read =>
     have he : Kq T.cls ops i = false := by unfold Kq; simp only [ho', hc]
     refine ⟨λ hdue => absurd hdue (Nu hb he), λ _ => ?_⟩
     unfold stepS
     simp only [ho', Jk hF hg, if_true, hc] at h ⊢
     cases hqq : quiet T P φ.ev o with
     | no => simp only [hqq] at h
     | val v =>
      simp only [hqq] at h hq
      refine ⟨v, hq w, step v H _ w (λ x hx => ?_) h⟩
      rcases List.mem_cons.1 hx with rfl | hx
      ·exact .inl hq
      ·exact hH x hx
     | cond c f =>
      simp only [hqq] at h hq
      obtain ⟨x, hx, h⟩ := h
      refine ⟨f x, hq x hx w, step _ H _ w (λ y hy => ?_) h⟩
      rcases List.mem_cons.1 hy with rfl | hy
      ·exact .inl (hq x hx)
      ·exact hH y hy
     | read rd f =>
      simp only [hqq] at h hq
      obtain ⟨x, hx, h⟩ := h
      refine ⟨f x, hq x w hx, step _ _ _ w (λ y hy => ?_) h⟩
      rcases List.mem_cons.1 hy with rfl | hy
      ·exact .inr ⟨rd x, List.mem_cons_self, λ w' hw' => hq x w' hw'⟩
      ·rcases hH y hy with h | ⟨p, hp, hpw⟩
       ·exact .inl h
       ·exact .inr ⟨p, List.mem_cons_of_mem _ hp, hpw⟩
    | eff =>
     simp only [hc] at h
     cases alts with
     | cons f' alts => exact h.elim
     | nil =>
      refine ⟨λ _ f hf => (by cases hf), λ _ => ?_⟩
      unfold stepS
      simp only [ho', Jk hF hg, if_true, hc]
      have he := A8 ok hF.ev o (Bm5 T o rt) _ a rfl w h
      refine Gy (λ a' w' hl' => ?_) he
      obtain ⟨v, rfl, hp⟩ := hl'
      obtain ⟨g1, g2⟩ := Ug hp
      refine ⟨λ y hy hu => ?_, step v H Hs w' hH g2⟩
      rcases hH y hy with h | ⟨p, hp, hpw⟩
      ·exact h w'
      ·exact hpw w' (g1 _ hp hu)
 | skip r ih =>
  intro m fs alts σ φ H Hs a w hl hs hF hH hA h
  cases fs with
  | nil => exact h.elim
  | cons f0 fs =>
  cases σ with
  | nil => exact h.elim
  | cons i σ =>
   obtain rfl : m = fs.length + 1 := by simpa using hl.symm
   simp only [Jo] at h
   cases ho : ops.toList[i]? with
   | none => simp only [ho] at h
   | some o =>
    simp only [ho] at h
    have ho' : ops[i]? = some o := by rw [← ho]; simp
    have hmo := hm o (List.mem_of_getElem? ho)
    cases hb : held bf (f0 :: fs) i with
    | true => simp only [hb] at h
    | false =>
    cases hg : gIs ops.toList φ o with
    | none => simp only [hb, hg] at h
    | some b =>
    cases b with
    | true => simp only [hb, hg] at h
    | false =>
    cases hd : dOk n o with
    | false => simp only [hb, hg, hd] at h
    | true =>
    simp only [hb, hg, hd] at h
    have go : Jo T P n ops.toList un bf r (f0 :: fs) (f0 :: fs) σ (φ.put o.dst undef) H K w -> stepS T.cls P ops un i (wpI T.cls P ops un bf (wpT T.cls P ops un (λ a' w' => ∃ φ', Fits n φ' a' /\ Agree m0 true a0 a' /\ K φ' w') bf fs.length) (f0 :: fs) σ) Hs a w := λ h => by
     unfold stepS
     simp only [ho', Jk hF hg, Bool.false_eq_true, if_false]
     exact (ih (fs.length + 1) (f0 :: fs) (f0 :: fs) σ _ H Hs _ w rfl (λ _ h => h) (hF.put hd undef) hH (hA.trans (Agree.put hmo undef)) h).full
    cases hc : T.cls o.op with
    | eff =>
     simp only [hc] at h
     cases alts with
     | cons f' alts => exact h.elim
     | nil => exact ⟨λ _ f hf => (by cases hf), λ _ => go h⟩
    | free =>
     simp only [hc] at h
     have he : Kq T.cls ops i = false := by unfold Kq; simp only [ho', hc]
     exact ⟨λ hdue => absurd hdue (Nu hb he), λ _ => go h⟩
    | read =>
     simp only [hc] at h
     have he : Kq T.cls ops i = false := by unfold Kq; simp only [ho', hc]
     exact ⟨λ hdue => absurd hdue (Nu hb he), λ _ => go h⟩
 | split d t e iht ihe =>
  intro m fs alts σ φ H Hs a w hl hs hF hH hA h
  simp only [Jo] at h
  cases hd : φ d with
  | none => simp only [hd] at h
  | some v =>
   cases v with
   | bool b =>
    simp only [hd] at h
    have hv := hF.at_ d _ hd
    cases b with
    | true => exact iht m fs alts σ _ H Hs a w hl hs (hF.set hv) hH hA (h.1 rfl)
    | false => exact ihe m fs alts σ _ H Hs a w hl hs (hF.set hv) hH hA (h.2 rfl)
   | _ => simp only [hd] at h
@[reducible] def Slots.T : List (Nat × Ty) -> Type
 | [] => Unit
 | x :: r => x.2.T × Slots.T r
def Slots.vals : (tys : List (Nat × Ty)) -> Slots.T tys -> List Value
 | [], _ => []
 | x :: r, s => x.2.val s.1 :: Slots.vals r s.2
def Af7 : (tys : List (Nat × Ty)) -> Fr -> (Slots.T tys -> Wp) -> World -> Prop
 | [], _, K => K ()
 | x :: r, φ, K => match φ x.1 with
  | none => λ _ => False
  | some v => match x.2.of v with
   | none => λ _ => False
   | some y => Af7 r φ λ s => K (y, s)
def Fr.kill (φ : Fr) (kill : Nat) : Fr := ⟨λ i => match kill.testBit i with | true => none | false => φ i, φ.ds⟩
def Fr.cut (φ : Fr) (kill : Nat) : (tys : List (Nat × Ty)) -> Slots.T tys -> Fr
 | [], _ => φ.kill kill
 | x :: r, s => (Fr.cut φ kill r s.2).set x.1 (x.2.val s.1)
def Fr.Cm7 (φ : Fr) : (tys : List (Nat × Ty)) -> Slots.T tys -> Fr
 | [], _ => φ
 | x :: r, s => (φ.set x.1 (x.2.val s.1)).Cm7 r s.2
def join {S : Type} (body : (S -> Wp) -> Wp) (rest : S -> Wp) : World -> Prop :=
 λ w => ∃ J : S -> World -> Prop, body J w /\ ∀ s w', J s w' -> rest s w'
def Ho {S : Type} (body : S -> (S -> Wp) -> Wp) (s0 : S) : World -> Prop :=
 λ w => ∃ (I : S -> Wp) (μ : S -> World -> Nat), I s0 w /\ ∀ s w', I s w' -> body s (λ s' w'' => I s' w'' /\ μ s' w'' < μ s w') w'
def drew (K : World -> Prop) : World -> Prop := λ w => K w.drew
def Ax7 (P : Program) (l : Nat) (vs : List Value) (R : Bool -> Wp) : World -> Prop := λ w =>
 ∃ f tmps assign body, (Instr.yield l vs.toArray).run P w = .ok (.round l f tmps assign body) w /\ RoundIn (FW none) 0 P l f tmps assign body w λ e w' => ∃ b, e = .returned (.bool b) /\ R b w'
def Ct5 (l : Nat) (rc : LoopState -> Option Code -> Loop) (K : World -> Prop) : World -> Prop := λ W => W.heap[l]? = some (.loop (rc .ready none)) /\ K (W.putObj l (.loop (rc .busy none)))
def By2 (l : Nat) (rc : LoopState -> Option Code -> Loop) (j : Option Code) (R : Bool -> Wp) : World -> Prop := λ W =>
 (∃ st pe, W.heap[l]? = some (.loop (rc st pe))) /\ R j.isNone (W.putObj l (.loop (rc (if j.isNone then .ready else .done) j)))
def Ba6 {S : Type} (P : Program) (vals : S -> List Value) (v : Value) (body : Nat -> (LoopState -> Option Code -> Loop) -> (Bool -> Wp) -> S -> Wp) (aft : Nat -> Option Code -> Wp) : World -> Prop := λ w =>
 ∀ rc : LoopState -> Option Code -> Loop, (∀ R s W, W.heap[w.heap.size + 1]? = some (.loop (rc .ready none)) -> body (w.heap.size + 1) rc R s W -> Ax7 P (w.heap.size + 1) (vals s) R W) ->
  ∃ gf args, (do let d ← Deferred.ofValue v #[.func (.yield (w.heap.size + 1)) #[] #[]]; invoke d.target d.args : Sem Next).run P ((w.alloc (.deferred (some []))).alloc (.loop (rc .ready none))) = .ok (.enter gf args) ((w.alloc (.deferred (some []))).alloc (.loop (rc .ready none))) /\
   Aa P gf args (.tup []) (λ _ W => ∃ st pe, W.heap[w.heap.size + 1]? = some (.loop (rc st pe)) /\ st ≠ .busy /\ aft w.heap.size pe (W.putObj (w.heap.size + 1) (.loop (rc .exhausted pe)))) ((w.alloc (.deferred (some []))).alloc (.loop (rc .ready none)))
inductive Hint where
 | leaf
 | seq (cut : Option (Nat × List (Nat × Ty))) (a b : Hint)
 | cond (k : Option Bool) (a b : Hint)
 | block (a : Hint)
 | loop (kill : Nat) (tys : List (Nat × Ty)) (a : Hint)
 | region (σ : List Nat) (rs : RS)
 | scope (a : Hint)
 | range (tys : List (Nat × Ty)) (a b : Hint)
structure Ks where
 normal : Fr -> World -> Prop
 exit : Nat -> Fr -> World -> Prop
 ret : Fr -> World -> Prop
def Np : List Oper -> Nat
 | [] => 0
 | o :: r => match o.dst with | some d => (1 <<< d) ||| Np r | none => Np r
def Fh : Code -> Nat
 | .region _ ops _ => Np ops.toList
 | .seq a b => Fh a ||| Fh b
 | .cond _ a b => Fh a ||| Fh b
 | .block _ a => Fh a
 | .loop a => Fh a
 | .scope a => Fh a
 | _ => 0
def Io : Code -> Bool
 | .seq a b => match Io a with | true => Io b | false => false
 | .cond _ a b => match Io a with | true => Io b | false => false
 | .block _ a => Io a
 | .loop a => Io a
 | .scope a => Io a
 | .rangeFunc .. => false
 | _ => true
def bef : List Oper -> List Nat -> List Nat
 | [], acc => acc
 | o :: r, acc => bef r (acc ++ [o.after.toList.foldl (λ s e => match Region.binds .any e with
   | true => s ||| (1 <<< e.on) ||| (match acc[e.on]? with | some x => x | none => 0)
   | false => s) 0])
def Tq (l : List Nat) (i : Nat) : Nat := match l[i]? with | some x => x | none => 0
def covers (kill m : Nat) : Bool := Nat.beq (m &&& kill) m
def Vq (kill : Nat) (c : Code) : Bool := match covers kill (Fh c) with | true => Io c | false => false
def Ba7 (n : Nat) : List Nat -> List (Nat × Ty) -> Bool
 | [], [] => true
 | p :: ps, x :: r => match Nat.beq p x.1, Nat.blt p n with
  | true, true => Ba7 n ps r
  | _, _ => false
 | _, _ => false
def aft (N : World -> Prop) (E : Nat -> Wp) (R : World -> Prop) : Option Code -> World -> Prop
 | none => N
 | some .ret => R
 | some (.exit i) => E i
 | _ => λ _ => False
def onE (i id : Nat) (A B : World -> Prop) : World -> Prop := match Nat.beq i id with | true => A | false => B
def vcg (T : Tab) (P : Program) (n : Nat) : Bool -> Code -> Hint -> Fr -> Ks -> World -> Prop
 | _, .skip, _, φ, k => k.normal φ
 | _, .label _, _, φ, k => k.normal φ
 | _, .region _ ops draw, h, φ, k => match h with
  | .region σ rs => match draw with
   | false => Tv T P n ops.toList (λ _ _ => false) rs (List.range ops.size) φ [] k.normal
   | true => match rs with
    | .float fs r => (match Al3 T.cls ops (Tq (bef ops.toList [])) fs σ with
     | true => drew (Jo T P n ops.toList (λ x i => !(Tq (bef ops.toList []) i).testBit x) (λ f i => (Tq (bef ops.toList []) i).testBit f) r fs fs σ φ [] k.normal)
     | false => λ _ => False)
    | rs => match Yb T.cls ops (Tq (bef ops.toList [])) σ with
     | true => drew (Tv T P n ops.toList (λ x i => !(Tq (bef ops.toList []) i).testBit x) rs σ φ [] k.normal)
     | false => λ _ => False
  | _ => λ _ => False
 | top, .seq a b, h, φ, k => match h with
  | .seq cut ha hb => match cut with
   | none => vcg T P n top a ha φ ⟨λ φ' => vcg T P n top b hb φ' k, k.exit, k.ret⟩
   | some c => match Vq c.1 a with
    | true => join (λ J => vcg T P n top a ha φ ⟨λ φ' => Af7 c.2 φ' J, k.exit, k.ret⟩) (λ s => vcg T P n top b hb (φ.cut c.1 c.2 s) k)
    | false => λ _ => False
  | _ => λ _ => False
 | top, .cond c a b, h, φ, k => match h with
  | .cond q ha hb => match φ.ev c with
   | some (.bool t) => match q with
    | none => sif t (vcg T P n top a ha φ k) (vcg T P n top b hb φ k)
    | some true => (match t with | true => vcg T P n top a ha φ k | false => λ _ => False)
    | some false => (match t with | false => vcg T P n top b hb φ k | true => λ _ => False)
   | _ => λ _ => False
  | _ => λ _ => False
 | top, .block id a, h, φ, k => match h with
  | .block ha => vcg T P n top a ha φ ⟨k.normal, λ i φ' => match Nat.beq i id with | true => k.normal φ' | false => k.exit i φ', k.ret⟩
  | _ => λ _ => False
 | top, .loop a, h, φ, k => match h with
  | .loop kill tys ha => match Vq kill a with
   | true => Af7 tys φ (Ho λ s again => vcg T P n top a ha (φ.cut kill tys s) ⟨λ φ' => Af7 tys φ' again, k.exit, k.ret⟩)
   | false => λ _ => False
  | _ => λ _ => False
 | top, .scope a, h, φ, k => match h with
  | .scope ha => vcg T P n top a ha φ k
  | _ => λ _ => False
 | top, .rangeFunc g ps assign body, h, φ, k => match h with
  | .range tys ha hb => match top, φ.ev g, Ba7 n ps.toList tys with
   | true, some v, true => Ba6 P (Slots.vals tys) v
     (λ l rc R s => vcg T P n false assign ha (φ.bare.Cm7 tys s) ⟨λ φ' => Ct5 l rc (vcg T P n false body hb φ' ⟨λ _ => By2 l rc none R, λ i _ => By2 l rc (some (.exit i)) R, λ _ => By2 l rc (some .ret) R⟩), λ _ _ _ => False, λ _ _ => False⟩)
     (λ D => aft (k.normal (φ.mark D)) (λ i => k.exit i (φ.mark D)) (k.ret (φ.mark D)))
   | _, _, _ => λ _ => False
  | _ => λ _ => False
 | _, .exit i, _, φ, k => k.exit i φ
 | _, .ret, _, φ, k => k.ret φ
 | _, _, _, _, _ => λ _ => False
def Ks.post (k : Ks) (n m : Nat) (s : Bool) (a0 : Act) : Exit -> Act -> World -> Prop
 | .normal, a, w => ∃ φ, Fits n φ a /\ Agree m s a0 a /\ k.normal φ w
 | .exit i, a, w => ∃ φ, Fits n φ a /\ Agree m s a0 a /\ k.exit i φ w
 | .ret, a, w => ∃ φ, Fits n φ a /\ k.ret φ w
 | _, _, _ => False
theorem Ks.Al2 {k : Ks} {n m m' : Nat} {s s' : Bool} {a a1 : Act} (hA : Agree m' s' a a1) (hm : ∀ i, m.testBit i = true -> m'.testBit i = true) (hs : s' = true -> s = true) {e : Exit} {a' : Act} {w' : World} (h : k.post n m s a1 e a' w') : k.post n m' s' a e a' w' := by
 cases e with
 | normal => obtain ⟨φ', h1, h2, h3⟩ := h; exact ⟨φ', h1, hA.trans (h2.mono hm hs), h3⟩
 | exit i => obtain ⟨φ', h1, h2, h3⟩ := h; exact ⟨φ', h1, hA.trans (h2.mono hm hs), h3⟩
 | ret => exact h
 | _ => exact h.elim
theorem Ap8 (d i : Nat) : (1 <<< d).testBit i = decide (d = i) := by
 rw [Nat.one_shiftLeft]
 exact Nat.testBit_two_pow
theorem Xi (l : List Oper) : ∀ {o : Oper}, o ∈ l -> ∀ d, o.dst = some d -> (Np l).testBit d = true := by
 induction l with
 | nil => intro o h; cases h
 | cons x r ih =>
  intro o h d hd
  rcases List.mem_cons.1 h with rfl | h
  ·simp only [Np, hd, Nat.testBit_or, Ap8, decide_true, Bool.true_or]
  ·have := ih h d hd
   simp only [Np]
   cases x.dst with
   | none => exact this
   | some e => simp only [Nat.testBit_or, this, Bool.or_true]
theorem Bq2 {kill m i : Nat} (h : covers kill m = true) (hi : m.testBit i = true) : kill.testBit i = true := by
 have e : m &&& kill = m := Nat.eq_of_beq_eq_true h
 have : (m &&& kill).testBit i = (m.testBit i && kill.testBit i) := Nat.testBit_and m kill i
 rw [e, hi] at this
 simpa using this.symm
theorem L6 {kill : Nat} {c : Code} (h : Vq kill c = true) : covers kill (Fh c) = true /\ Io c = true := by
 unfold Vq at h
 cases hc : covers kill (Fh c) with
 | true => rw [hc] at h; exact ⟨rfl, h⟩
 | false => rw [hc] at h; cases h
theorem Fits.kill {n : Nat} {φ : Fr} {a a' : Act} {kill m : Nat} (h : Fits n φ a) (hs : a'.tmps.size = n) (hA : Agree m true a a') (hc : covers kill m = true) : Fits n (φ.kill kill) a' := by
 refine ⟨hs, (hA.defers rfl).trans h.defers, λ i v hi => ?_⟩
 simp only [Fr.kill] at hi
 split at hi
 ·cases hi
 ·rename_i hki
  have hm : m.testBit i = false := by
   cases hm : m.testBit i with
   | false => rfl
   | true => rw [Bq2 hc hm] at hki; cases hki
  rw [hA.at_ i hm]; exact h.at_ i v hi
theorem Vj : ∀ {tys : List (Nat × Ty)} {φ : Fr} {K : Slots.T tys -> Wp} {w : World}, Af7 tys φ K w ->
  ∃ s, K s w /\ ∀ {n : Nat} {ψ : Fr} {a : Act} {kill : Nat}, Fits n φ a -> Fits n (ψ.kill kill) a -> Fits n (ψ.cut kill tys s) a
 | [], φ, K, w, h => ⟨(), h, λ _ h => h⟩
 | x :: r, φ, K, w, h => by
  simp only [Af7] at h
  cases hx : φ x.1 with
  | none => simp only [hx] at h
  | some v =>
   simp only [hx] at h
   cases hy : x.2.of v with
   | none => simp only [hy] at h
   | some y =>
    simp only [hy] at h
    obtain ⟨s, hs, hf⟩ := Vj h
    refine ⟨(y, s), hs, λ hF hψ => ?_⟩
    refine (hf hF hψ).set ?_
    rw [hF.at_ _ _ hx, Ty.Qd hy]
theorem vals_length : ∀ (tys : List (Nat × Ty)) (s : Slots.T tys), (Slots.vals tys s).length = tys.length
 | [], _ => rfl
 | _ :: r, s => congrArg (· + 1) (vals_length r s.2)
theorem G9 {n : Nat} : ∀ {ps : List Nat} {tys : List (Nat × Ty)}, Ba7 n ps tys = true -> ps.length = tys.length
 | [], [], _ => rfl
 | [], _ :: _, h => by cases h
 | _ :: _, [], h => by cases h
 | p :: ps, x :: r, h => by
  simp only [Ba7] at h
  split at h
  ·exact congrArg (· + 1) (G9 h)
  ·cases h
theorem Af9 {n : Nat} : ∀ {ps : List Nat} {tys : List (Nat × Ty)} {s : Slots.T tys} {φ : Fr} {tmps : Array Value}, Ba7 n ps tys = true -> Fits n φ ⟨tmps, []⟩ ->
  Fits n (φ.Cm7 tys s) ⟨(ps.zip (Slots.vals tys s)).foldl (λ tmps x => tmps.setIfInBounds x.1 x.2) tmps, []⟩
 | [], [], _, _, _, _, h => h
 | [], _ :: _, _, _, _, h, _ => by cases h
 | _ :: _, [], _, _, _, h, _ => by cases h
 | p :: ps, x :: r, s, φ, tmps, h, hF => by
  simp only [Ba7] at h
  split at h
  ·rename_i e1 e2
   have ep : p = x.1 := Nat.eq_of_beq_eq_true e1
   have hp : p < n := by simpa using e2
   have hsz : tmps.size = n := hF.size
   have h1 : Fits n (φ.set x.1 (x.2.val s.1)) ⟨tmps.setIfInBounds p (x.2.val s.1), []⟩ := by
    refine ⟨by simp [hsz], hF.defers, λ i u hi => ?_⟩
    simp only [Fr.set] at hi
    split at hi
    ·rename_i e
     have := Nat.eq_of_beq_eq_true e
     cases hi
     subst this
     rw [← ep]
     simp [hsz, hp]
    ·rename_i e
     have hne : p ≠ i := λ hh => by rw [← hh, ep, Nat.beq_refl] at e; cases e
     show (tmps.setIfInBounds p (x.2.val s.1))[i]? = some u
     rw [Array.getElem?_setIfInBounds_ne hne]
     exact hF.at_ i u hi
   exact Af9 (s := s.2) h h1
  ·cases h
theorem Za {F : Fence} {r : Nat} {P : Program} {Q : Exit -> Act -> Wp} {c : Code} {S : Type} (R : S -> Act -> Wp) (μ : S -> World -> Nat) {s : S} {a : Act} {w : World} (h₀ : R s a w)
  (round : ∀ s a w, R s a w -> c.wpIn F r P (Exit.then (λ a' w' => ∃ s', R s' a' w' /\ μ s' w' < μ s w) Q) a w) : (Code.loop c).wpIn F r P Q a w := by
 refine wpIn_loop_ghost (λ j a w => ∃ s, R s a w /\ μ s w = j) (μ s w) ⟨s, h₀, rfl⟩ λ j a w hj => ?_
 obtain ⟨s, hs, rfl⟩ := hj
 refine wpIn_mono (round s a w hs) λ e a' w' hq => ?_
 cases e with
 | normal => obtain ⟨s', h1, h2⟩ := hq; exact ⟨μ s' w', h2, s', h1, rfl⟩
 | _ => exact hq
theorem Jp {P : Program} {b : Frame} {a : Act} {k : List Item} {cs : List Frame} {w : World} {c : Code} : step P (lone (b.atR a (.code (.scope c) :: k)) cs w) = .next (lone (b.atR a (.code c :: .inScope c :: k)) cs w) :=
 step_lone_go (by simp [stepG, stepG.exec, Frame.atR])
theorem Ad3 {P : Program} {b : Frame} {a : Act} {k : List Item} {cs : List Frame} {w : World} {c : Code} : step P (lone (b.atR a (.inScope c :: k)) cs w) = .next (lone (b.atR a k) cs w) :=
 step_lone_go (by simp [stepG, stepG.exec, Frame.atR])
theorem Vw {F : Fence} {n : Nat} {P : Program} {Q : Exit -> Act -> Wp} {a : Act} {w : World} {c : Code} (h : c.wpIn F n P (Exit.noGoto Q) a w) : (Code.scope c).wpIn F n P Q a w := by
 intro b k cs hro hb hr
 have h0 : (lone (b.atR a (.code (.scope c) :: k)) cs w).fenced P F := fenced_calm hb hr rfl
 obtain ⟨e, a₁, w₁, hq, harr⟩ := h b (.inScope c :: k) cs hro hb hr
 cases e with
 | normal => exact ⟨.normal, a₁, w₁, hq, .head h0 Jp (StepsIn.trans harr (.one (fenced_calm hb hr rfl) Ad3))⟩
 | exit id =>
  have hx : exitTo id (.inScope c :: k) = exitTo id k := by simp [exitTo]
  exact ⟨.exit id, a₁, w₁, hq, λ k' hk => .head h0 Jp (harr.1 k' (by rw [hx]; exact hk)),
   λ hr' hk => let ⟨k₁, h1, h2⟩ := harr.2 hr' (by rw [hx]; exact hk); ⟨k₁, h1, .head h0 Jp h2⟩⟩
 | goto l => exact hq.elim
 | ret => exact ⟨_, a₁, w₁, hq, .of_steps (.one h0 Jp) harr⟩
 | panic ch => exact ⟨_, a₁, w₁, hq, .of_steps (.one h0 Jp) harr⟩
 | outgrown => exact ⟨_, a₁, w₁, hq, .of_steps (.one h0 Jp) harr⟩
theorem run_bind_ok {α β : Type} {P : Program} {s : Sem α} {f : α -> Sem β} {w w' : World} {y : β} (h : (s >>= f).run P w = .ok y w') : ∃ x w1, s.run P w = .ok x w1 /\ (f x).run P w1 = .ok y w' := by
 rw [Sem.run_bind] at h
 cases hs : s.run P w with
 | ok x w1 => rw [hs] at h; exact ⟨x, w1, rfl, h⟩
 | halt x w1 => rw [hs] at h; cases h
theorem Bl5 {T : Tab} {P : Program} (ok : T.Ok P) {n : Nat} : ∀ (c : Code) (top : Bool) (rd : Option Nat) (h : Hint) (φ : Fr) (k : Ks) (a : Act) (w : World), (top = true -> rd = none) -> Fits n φ a -> vcg T P n top c h φ k w -> c.wpIn (FW rd) 0 P (k.post n (Fh c) (Io c) a) a w := by
  intro c
  induction c with
  | skip => intro top rd h φ k a w hrd hF hv; exact wpIn_skip ⟨φ, hF, Agree.refl _ _ _, hv⟩
  | label l => intro top rd h φ k a w hrd hF hv; exact wpIn_label ⟨φ, hF, Agree.refl _ _ _, hv⟩
  | exit i => intro top rd h φ k a w hrd hF hv; exact wpIn_exit ⟨φ, hF, Agree.refl _ _ _, hv⟩
  | ret => intro top rd h φ k a w hrd hF hv; exact wpIn_ret ⟨φ, hF, hv⟩
  | region id ops draw =>
    intro top rd h φ k a w hrd hF hv
    cases h with
    | region σ rs =>
      simp only [vcg] at hv
      cases draw with
      | false =>
        simp only at hv
        have := Xc ok (un := λ _ _ => false) (m := Np ops.toList) (a0 := a) (λ o ho d hd => Xi _ ho d hd) rs _ φ [] [] a w hF (λ x hx => by cases hx) (Agree.refl _ _ _) hv
        exact wpIn_region (Ai8 (λ a' w' hq => hq) _ _ _ _ this)
      | true =>
        have plain : (match Yb T.cls ops (Tq (bef ops.toList [])) σ with
          | true => drew (Tv T P n ops.toList (λ x i => !(Tq (bef ops.toList []) i).testBit x) rs σ φ [] k.normal)
          | false => λ _ => False) w -> (Code.region id ops true).wpIn (FW rd) 0 P (k.post n (Fh (.region id ops true)) (Io (.region id ops true)) a) a w := λ hv => by
         cases ho : Yb T.cls ops (Tq (bef ops.toList [])) σ with
         | false => simp only [ho] at hv
         | true =>
          simp only [ho] at hv
          have := Xc ok (un := λ x i => !(Tq (bef ops.toList []) i).testBit x) (m := Np ops.toList) (a0 := a) (λ o ho d hd => Xi _ ho d hd) rs σ φ [] [] a w.drew hF (λ x hx => by cases hx) (Agree.refl _ _ _) hv
          exact Wj ok.mixed ho (λ a' w' hq => hq) this
        cases rs with
        | float fs r =>
          simp only at hv
          cases ho : Al3 T.cls ops (Tq (bef ops.toList [])) fs σ with
          | false => simp only [ho] at hv
          | true =>
            simp only [ho] at hv
            have := Ap4 ok (un := λ x i => !(Tq (bef ops.toList []) i).testBit x) (bf := λ f i => (Tq (bef ops.toList []) i).testBit f) (m0 := Np ops.toList) (a0 := a) (λ o ho d hd => Xi _ ho d hd) r fs.length fs fs σ φ [] [] a w.drew rfl (λ _ h => h) hF (λ x hx => by cases hx) (Agree.refl _ _ _) hv
            exact Tm ok.mixed ho (λ a' w' hq => hq) this.full
        | done => exact plain hv
        | op rt r => exact plain hv
        | skip r => exact plain hv
        | split d t e => exact plain hv
        | plain r => exact plain hv
        | alt rt x r => exact plain hv
        | stop => exact plain hv
    | _ => exact False.elim hv
  | seq x y ihx ihy =>
    intro top rd h φ k a w hrd hF hv
    cases h with
    | seq cut ha hb =>
      simp only [vcg] at hv
      have ml : ∀ i, (Fh x).testBit i = true -> (Fh (.seq x y)).testBit i = true := λ i hi => by simp [Fh, Nat.testBit_or, hi]
      have mr : ∀ i, (Fh y).testBit i = true -> (Fh (.seq x y)).testBit i = true := λ i hi => by simp [Fh, Nat.testBit_or, hi]
      have sl : Io (.seq x y) = true -> Io x = true := λ e => by
        simp only [Io] at e
        cases hx : Io x with
        | true => rfl
        | false => rw [hx] at e; cases e
      have sr : Io (.seq x y) = true -> Io y = true := λ e => by
        have := sl e
        simp only [Io, this] at e
        exact e
      have rest : ∀ (a' : Act) (w' : World), Agree (Fh x) (Io x) a a' -> y.wpIn (FW rd) 0 P (k.post n (Fh y) (Io y) a') a' w' -> y.wpIn (FW rd) 0 P (k.post n (Fh (.seq x y)) (Io (.seq x y)) a) a' w' :=
        λ a' w' hA hw => wpIn_mono hw λ e a'' w'' hq => Ks.Al2 (hA.mono ml sl) mr sr hq
      cases cut with
      | none =>
        simp only at hv
        refine wpIn_seq (wpIn_mono (ihx top rd ha φ _ a w hrd hF hv) λ e a' w' hq => ?_)
        cases e with
        | normal => obtain ⟨φ', h1, h2, h3⟩ := hq; exact rest a' w' h2 (ihy top rd hb φ' k a' w' hrd h1 h3)
        | exit i => obtain ⟨φ', h1, h2, h3⟩ := hq; exact ⟨φ', h1, h2.mono ml sl, h3⟩
        | ret => exact hq
        | _ => exact hq.elim
      | some c =>
        simp only at hv
        cases hc : Vq c.1 x with
        | false => simp only [hc] at hv
        | true =>
          simp only [hc] at hv
          obtain ⟨hc1, hc2⟩ := L6 hc
          obtain ⟨J, hv, hJ⟩ := hv
          refine wpIn_seq (wpIn_mono (ihx top rd ha φ _ a w hrd hF hv) λ e a' w' hq => ?_)
          cases e with
          | normal =>
            obtain ⟨φ', h1, h2, h3⟩ := hq
            obtain ⟨s, hs, hf⟩ := Vj h3
            exact rest a' w' h2 (ihy top rd hb _ k a' w' hrd (hf (ψ := φ) (kill := c.1) h1 (hF.kill h1.size (hc2 ▸ h2) hc1)) (hJ s w' hs))
          | exit i => obtain ⟨φ', h1, h2, h3⟩ := hq; exact ⟨φ', h1, h2.mono ml sl, h3⟩
          | ret => exact hq
          | _ => exact hq.elim
    | _ => exact False.elim hv
  | cond c x y ihx ihy =>
    intro top rd h φ k a w hrd hF hv
    cases h with
    | cond q ha hb =>
      simp only [vcg] at hv
      have ml : ∀ i, (Fh x).testBit i = true -> (Fh (.cond c x y)).testBit i = true := λ i hi => by simp [Fh, Nat.testBit_or, hi]
      have mr : ∀ i, (Fh y).testBit i = true -> (Fh (.cond c x y)).testBit i = true := λ i hi => by simp [Fh, Nat.testBit_or, hi]
      have sl : Io (.cond c x y) = true -> Io x = true := λ e => by
        simp only [Io] at e
        cases hx : Io x with
        | true => rfl
        | false => rw [hx] at e; cases e
      have sr : Io (.cond c x y) = true -> Io y = true := λ e => by
        have := sl e
        simp only [Io, this] at e
        exact e
      cases he : φ.ev c with
      | none => simp only [he] at hv
      | some v =>
        cases v with
        | bool t =>
          simp only [he] at hv
          have hev := hF.ev c _ he
          have X : vcg T P n top x ha φ k w -> x.wpIn (FW rd) 0 P (k.post n (Fh (.cond c x y)) (Io (.cond c x y)) a) a w := λ hv => wpIn_mono (ihx top rd ha φ k a w hrd hF hv) λ e a' w' hq => Ks.Al2 (Agree.refl _ _ _) ml sl hq
          have Y : vcg T P n top y hb φ k w -> y.wpIn (FW rd) 0 P (k.post n (Fh (.cond c x y)) (Io (.cond c x y)) a) a w := λ hv => wpIn_mono (ihy top rd hb φ k a w hrd hF hv) λ e a' w' hq => Ks.Al2 (Agree.refl _ _ _) mr sr hq
          refine wpIn_cond (t := t) hev ?_
          cases q with
          | none =>
            cases t with
            | true => exact X (hv.1 rfl)
            | false => exact Y (hv.2 rfl)
          | some q =>
            cases q with
            | true =>
              cases t with
              | true => exact X hv
              | false => exact hv.elim
            | false =>
              cases t with
              | false => exact Y hv
              | true => exact hv.elim
        | _ => simp only [he] at hv
    | _ => exact False.elim hv
  | block id x ih =>
    intro top rd h φ k a w hrd hF hv
    cases h with
    | block ha =>
      simp only [vcg] at hv
      refine wpIn_block (wpIn_mono (ih top rd ha φ _ a w hrd hF hv) λ e a' w' hq => ?_)
      cases e with
      | normal => exact hq
      | exit i =>
        obtain ⟨φ', h1, h2, h3⟩ := hq
        by_cases hi : i = id
        · subst hi
          simp only [Nat.beq_refl] at h3
          simp only [Exit.inBlock, if_true]
          exact ⟨φ', h1, h2, h3⟩
        · have hb : Nat.beq i id = false := by
            cases hb : Nat.beq i id with
            | false => rfl
            | true => exact absurd (Nat.eq_of_beq_eq_true hb) hi
          simp only [hb] at h3
          simp only [Exit.inBlock, if_neg hi]
          exact ⟨φ', h1, h2, h3⟩
      | ret => exact hq
      | _ => exact hq.elim
    | _ => exact False.elim hv
  | loop x ih =>
    intro top rd h φ k a w hrd hF hv
    cases h with
    | loop kill tys ha =>
      simp only [vcg] at hv
      cases hc : Vq kill x with
      | false => simp only [hc] at hv
      | true =>
        simp only [hc] at hv
        obtain ⟨hc1, hc2⟩ := L6 hc
        have sl : Io (.loop x) = true := hc2
        obtain ⟨s0, ⟨I, μ, h0, hround⟩, hf⟩ := Vj hv
        have out : ∀ {a' : Act}, Agree (Fh x) (Io x) a a' -> (a'.tmps.size = n) -> Fits n (φ.kill kill) a' := λ hA hs => hF.kill hs (hc2 ▸ hA) hc1
        refine Za (S := Slots.T tys) (λ s a' w' => Fits n (φ.cut kill tys s) a' /\ Agree (Fh x) (Io x) a a' /\ I s w') μ (s := s0) ⟨hf hF (out (Agree.refl _ _ _) hF.size), Agree.refl _ _ _, h0⟩ ?_
        rintro s a' w' ⟨hF', hA', hI⟩
        refine wpIn_mono (ih top rd ha _ _ a' w' hrd hF' (hround s w' hI)) λ e a'' w'' hq => ?_
        cases e with
        | normal =>
          obtain ⟨φ', h1, h2, h3⟩ := hq
          obtain ⟨s', ⟨hs1, hs2⟩, hf'⟩ := Vj h3
          exact ⟨s', ⟨hf' h1 (out (hA'.trans h2) h1.size), hA'.trans h2, hs1⟩, hs2⟩
        | exit i => obtain ⟨φ', h1, h2, h3⟩ := hq; exact ⟨φ', h1, hA'.trans h2, h3⟩
        | ret => exact hq
        | _ => exact hq.elim
    | _ => exact False.elim hv
  | rangeFunc g ps assign body iha ihb =>
    intro top rd h φ k a w hrd hF hv
    cases h with
    | range tys ha hb =>
      simp only [vcg] at hv
      cases top with
      | false => exact hv.elim
      | true =>
      obtain rfl := hrd rfl
      cases he : φ.ev g with
      | none => simp only [he] at hv
      | some v =>
      cases hp : Ba7 n ps.toList tys with
      | false => simp only [he, hp] at hv
      | true =>
      simp only [he, hp] at hv
      have hev := hF.ev g _ he
      refine wpIn_rangeFunc λ fn _ => ?_
      have hlen : (ps.size) = tys.length := by rw [← G9 hp, Array.length_toList]
      obtain ⟨gf, args, hinv, hcall⟩ := hv (λ st pe => { state := st, pending := pe, fn, tmps := a.tmps, params := ps, assign, body, defers := w.heap.size }) (by
        intro R s W hW hbd
        refine ⟨fn, _, assign, body, run_yield hW (by simp [vals_length, hlen]), ?_⟩
        have hzip : ((ps.zip (Slots.vals tys s).toArray).foldl (λ tmps (x : Nat × Value) => tmps.setIfInBounds x.1 x.2) a.tmps) = (ps.toList.zip (Slots.vals tys s)).foldl (λ tmps x => tmps.setIfInBounds x.1 x.2) a.tmps := by
          rw [← Array.foldl_toList, Array.toList_zip]
        refine roundIn_of_wpIn trivial ?_
        have hF0 : Fits n φ.bare ⟨a.tmps, []⟩ := ⟨hF.size, rfl, hF.at_⟩
        have hF1 := Af9 (s := s) hp hF0
        rw [← hzip] at hF1
        refine wpIn_mono (iha false (some (w.heap.size + 1)) ha _ _ _ W (λ h => by cases h) hF1 hbd) λ e a1 w1 hq => ?_
        cases e with
        | normal =>
          obtain ⟨φ', h1, h2, h3⟩ := hq
          obtain ⟨h3, h4⟩ := h3
          refine ⟨_, run_beginRound h3 rfl, ?_⟩
          refine wpIn_mono (ihb false (some (w.heap.size + 1)) hb φ' _ a1 _ (λ h => by cases h) h1 h4) λ e a2 w2 hq => ?_
          cases e with
          | normal =>
            obtain ⟨_, _, _, ⟨st, pe, hh⟩, hR⟩ := hq
            exact ⟨_, _, run_endRound none hh, true, rfl, hR⟩
          | ret =>
            obtain ⟨_, _, ⟨st, pe, hh⟩, hR⟩ := hq
            exact ⟨_, _, run_endRound (some .ret) hh, false, rfl, hR⟩
          | exit i =>
            obtain ⟨_, _, _, ⟨st, pe, hh⟩, hR⟩ := hq
            exact ⟨_, _, run_endRound (some (.exit i)) hh, false, rfl, hR⟩
          | _ => exact hq.elim
        | exit i => obtain ⟨_, _, _, h⟩ := hq; exact h.elim
        | ret => obtain ⟨_, _, h⟩ := hq; exact h.elim
        | _ => exact hq.elim)
      obtain ⟨d, w1, hd, hi⟩ := run_bind_ok hinv
      refine ⟨w.heap.size + 1, _, _, d, w1, gf, args, _, run_enterLoop_outer fn a.tmps ps assign body, ?_, λ _ _ => trivial, hi, (λ h => by simp [FW, Fence.wide] at h), ?_⟩
      · show (resolve a.eval ⟨.value g, _, _⟩ 0).run P _ = _
        have em : Array.map a.eval #[.const (.func (.yield (w.heap.size + 1)) #[] #[])] = #[.func (.yield (w.heap.size + 1)) #[] #[]] := by simp [Act.eval]
        simp only [resolve, hev, em]
        exact hd
      · refine Bf0.2 (Calls.mono hcall λ e w' he => ?_)
        obtain ⟨x, rfl, st, pe, hh, hst, haft⟩ := he
        refine ⟨_, _, run_endLoop hh hst, ?_⟩
        have hF' : Fits n (φ.mark w.heap.size) { a with defers := [{ target := .collected w.heap.size, args := #[] }] ++ a.defers } := ⟨hF.size, by simp only [hF.defers]; rfl, hF.at_⟩
        have hA' : Agree (Fh (.rangeFunc g ps assign body)) (Io (.rangeFunc g ps assign body)) a { a with defers := [{ target := .collected w.heap.size, args := #[] }] ++ a.defers } := ⟨λ _ _ => rfl, λ h => by cases h⟩
        cases pe with
        | none => exact ⟨_, hF', hA', haft⟩
        | some c =>
          cases c with
          | ret => exact wpIn_ret ⟨_, hF', haft⟩
          | exit i => exact wpIn_exit ⟨_, hF', hA', haft⟩
          | _ => exact haft.elim
    | _ => exact False.elim hv
  | scope x ih =>
    intro top rd h φ k a w hrd hF hv
    cases h with
    | scope ha =>
      simp only [vcg] at hv
      refine Vw (wpIn_mono (ih top rd ha φ k a w hrd hF hv) λ e a' w' hq => ?_)
      cases e with
      | goto l => exact hq.elim
      | _ => exact hq
    | _ => exact False.elim hv
  | goto => intro top rd h φ k a w hrd hF hv; exact False.elim hv
  | refuse => intro top rd h φ k a w hrd hF hv; exact False.elim hv
def Aj1 (T : Tab) : List ResultVar -> Fr -> (List Value -> Wp) -> World -> Prop
 | [], _, K => K []
 | .tmp t :: r, φ, K => match φ t with
  | some v => Aj1 T r φ λ l => K (v :: l)
  | none => λ _ => False
 | .cell a t :: r, φ, K => match φ a with
  | some (.pointer (some p)) => match At1 T t p with
   | .read rd f => rdE rd λ x => Aj1 T r φ λ l => K (f x :: l)
   | _ => λ _ => False
  | _ => λ _ => False
def Bs2 (t : RTy) (K : t.T -> Wp) (l : List Value) : World -> Prop :=
 match (match l with | [v] => t.of v | l => t.of (.tuple l.toArray)) with
 | some x => K x
 | none => λ _ => False
def Cg7 (D : Nat) (K : World -> Prop) : World -> Prop := λ w => w.heap[D]? = some (.deferred (some [])) /\ K (w.putObj D (.deferred none))
def By3 : List Nat -> (World -> Prop) -> World -> Prop
 | [], K => K
 | D :: r, K => Cg7 D (By3 r K)
def Fr.init (args : List Value) : Fr := ⟨λ i => args[i]?, []⟩
def Aj2 (T : Tab) (P : Program) (fn : Func) (h : Hint) (args : List Value) (t : RTy) (K : t.T -> Wp) : World -> Prop :=
 match fn.body, Nat.ble args.length fn.ntmps with
 | some c, true => vcg T P fn.ntmps true c h (Fr.init args) ⟨λ φ => By3 φ.ds (Aj1 T fn.results.toList φ (Bs2 t K)), λ _ _ _ => False, λ φ => By3 φ.ds (Aj1 T fn.results.toList φ (Bs2 t K))⟩
 | _, _ => λ _ => False
theorem U2 {T : Tab} {P : Program} (ok : T.Ok P) {n : Nat} {φ : Fr} {a : Act} (hF : Fits n φ a) : ∀ {rs : List ResultVar} {K : List Value -> Wp} {w : World}, Aj1 T rs φ K w ->
  ∃ l, K l w /\ l.length = rs.length /\ (rs.mapM (λ | .tmp t => pure (a.tmps.getD t undef) | .cell x t => do loadVar t (← asAddr (a.tmps.getD x undef)) : ResultVar -> Sem Value)).run P w = .ok l w
 | [], K, w, h => ⟨[], h, rfl, rfl⟩
 | .tmp t :: r, K, w, h => by
  simp only [Aj1] at h
  cases hv : φ t with
  | none => simp only [hv] at h
  | some v =>
   simp only [hv] at h
   obtain ⟨l, hl, hn, hr⟩ := U2 ok hF h
   have := hF.ev (.tmp t) v hv
   simp only [Act.eval] at this
   refine ⟨v :: l, hl, by simp [hn], ?_⟩
   rw [List.mapM_cons]
   simp only [Sem.run_bind, Sem.run_pure, Result.andThen_ok, this, hr]
 | .cell x t :: r, K, w, h => by
  simp only [Aj1] at h
  cases hv : φ x with
  | none => simp only [hv] at h
  | some v =>
   cases v with
   | pointer p =>
    cases p with
    | none => simp only [hv] at h
    | some p =>
     simp only [hv] at h
     have hq := As9 ok t p
     cases hl : At1 T t p with
     | read rd f =>
      simp only [hl] at h hq
      obtain ⟨y, hy, h⟩ := h
      obtain ⟨l, hl, hn, hr⟩ := U2 ok hF h
      have := hF.ev (.tmp x) _ hv
      simp only [Act.eval] at this
      have hq' := hq y w hy
      have hld : (loadVar t p).run P w = .ok (f y) w := by
       cases hlr : (loadVar t p).run P w with
       | ok v' w' => simp [Instr.loadAt, Instr.sureAddr, hlr] at hq'; simp [hq']
       | halt x w' => simp [Instr.loadAt, Instr.sureAddr, hlr] at hq'
      refine ⟨f y :: l, hl, by simp [hn], ?_⟩
      rw [List.mapM_cons]
      have hA : (asAddr (.pointer (some p))).run P w = .ok p w := rfl
      simp only [Sem.run_bind, Sem.run_pure, Result.andThen_ok, this, hA, hld, hr]
     | _ => simp only [hl] at h
   | _ => simp only [hv] at h
theorem Ye {P : Program} {fn : Func} {tmps : Array Value} {R : Ending -> Wp} {K : World -> Prop} (hK : ∀ w, K w -> ∃ v, (results fn tmps).run P w = .ok v w /\ R (.returned v) w) : ∀ (ds : List Nat) (w : World), By3 ds K w -> LeavesInM (FW none) 0 P fn tmps R (marks ds) .returning w
 | [], w, h => hK w h
 | D :: r, w, h => ⟨by simp, .inl ⟨D, _, rfl, run_takeDeferred h.1, Ye hK r _ h.2⟩⟩
theorem Hz {T : Tab} {P : Program} (ok : T.Ok P) {f : FuncId} {fn : Func} (hf : P.funcs[f]? = some fn) (h : Hint) (args : List Value) (t : RTy) (K : t.T -> Wp) (w : World)
  (hv : Aj2 T P fn h args t K w) : Aa P f args.toArray t K w := by
 unfold Aj2 at hv
 cases hb : fn.body with
 | none => simp only [hb] at hv
 | some c =>
 cases hs : Nat.ble args.length fn.ntmps with
 | false => simp only [hb, hs] at hv
 | true =>
 simp only [hb, hs] at hv
 have hs' := Nat.le_of_ble_eq_true hs
 have fin0 : ∀ (φ : Fr) (a : Act), Fits fn.ntmps φ a -> ∀ w', Aj1 T fn.results.toList φ (Bs2 t K) w' ->
   ∃ v, (results fn a.tmps).run P w' = .ok v w' /\ ∃ x, Ending.returned v = .returned (t.val x) /\ K x w' := by
  intro φ a hF w' hr
  obtain ⟨l, hl, hn, hm⟩ := U2 ok hF hr
  have hres : (results fn a.tmps).run P w' = .ok (match l with | [v] => v | l => .tuple l.toArray) w' := by
   unfold results
   have hm2 : (fn.results.mapM (λ | .tmp t => pure (a.tmps.getD t undef) | .cell x t => do loadVar t (← asAddr (a.tmps.getD x undef)) : ResultVar -> Sem Value)).run P w' = .ok l.toArray w' := by
    have e : fn.results = fn.results.toList.toArray := by simp
    rw [e, List.mapM_toArray, Sem.run_map, hm]; rfl
   refine (Sem.run_bind P w' _ _).trans ?_
   refine (congrArg (λ r => Result.andThen r _) hm2).trans ?_
   simp only [Result.andThen_ok]
   match l with
   | [] => rfl
   | [v] => rfl
   | v :: u :: r => rfl
  refine ⟨_, hres, ?_⟩
  unfold Bs2 at hl
  match l with
  | [] =>
   simp only at hl ⊢
   cases hx : t.of (.tuple ([] : List Value).toArray) with
   | none => simp only [hx] at hl
   | some x => simp only [hx] at hl; exact ⟨x, by rw [RTy.Qd hx], hl⟩
  | [v] =>
   simp only at hl ⊢
   cases hx : t.of v with
   | none => simp only [hx] at hl
   | some x => simp only [hx] at hl; exact ⟨x, by rw [RTy.Qd hx], hl⟩
  | v :: u :: r =>
   simp only at hl ⊢
   cases hx : t.of (.tuple (v :: u :: r).toArray) with
   | none => simp only [hx] at hl
   | some x => simp only [hx] at hl; exact ⟨x, by rw [RTy.Qd hx], hl⟩
 have fin : ∀ (φ : Fr) (a : Act) (w' : World), Fits fn.ntmps φ a -> By3 φ.ds (Aj1 T fn.results.toList φ (Bs2 t K)) w' ->
   LeavesInM (FW none) 0 P fn a.tmps (λ e w' => ∃ x, e = .returned (t.val x) /\ K x w') a.defers .returning w' := by
  intro φ a w' hF hr
  rw [hF.defers]
  exact Ye (fin0 φ a hF) _ _ hr
 unfold Aa
 refine (Bf0 (r := none) (n := 0)).1 (callsIn_of_wp_marks hf hb trivial (wpIn_mono (Bl5 ok c true none h _ _ _ w (λ _ => rfl) ⟨?_, rfl, λ i v hi => ?_⟩ hv) λ e a' w' hq => ?_))
 ·simp; omega
 ·simp only [Fr.init] at hi
  have hlt : i < args.length := (List.getElem?_eq_some_iff.1 hi).1
  rw [Array.getElem?_append_left (by simpa using hlt)]
  simpa using hi
 ·cases e with
  | normal => obtain ⟨φ, h1, h2, h3⟩ := hq; exact fin φ a' w' h1 h3
  | exit i => obtain ⟨φ, h1, h2, h3⟩ := hq; exact h3.elim
  | ret => obtain ⟨φ, h1, h3⟩ := hq; exact fin φ a' w' h1 h3
  | _ => exact hq.elim
#print axioms Hz
abbrev at0 (b : Nat) : Addr := ⟨b, 0, none⟩
def nn (p : Option Addr) (K : Addr -> Wp) : World -> Prop := cdE (λ a => p = some a) K
def ix (a : Option Addr) (len : Nat) (n : Int) (K : Addr -> Wp) : World -> Prop := cdE (λ p => a = some p /\ 0 <= n /\ n < len) K
def chk (c : Prop) (K : World -> Prop) : World -> Prop := cdE (λ _ : Unit => c) (λ _ => K)
def Cv2 (s : ByteArray) (n : Int) (K : UInt8 -> Wp) : World -> Prop := cdE (λ b => 0 <= n /\ s[n.toNat]? = some b) K
def slc (a : Option Addr) (l h m : Int) (cap sz : Nat) (K : Sl -> Wp) : World -> Prop := chk (0 <= l /\ l <= h /\ h <= m /\ m <= cap) (K (Sl.cut a l h m sz))
def ld (c : Cell) (p : Addr) (K : c.T -> Wp) : World -> Prop := rdE (λ (x : c.T) w => w.cell? p = some (c.val x)) K
def lds (cs : List Cell) (p : Addr) (K : Cells.T cs -> Wp) : World -> Prop := rdE (λ (x : Cells.T cs) w => Ak w p 0 (Cells.vals cs x)) K
def rdB (P : Program) (s : Sem Value) (K : Bool -> Wp) : World -> Prop := rdE (λ (r : Bool) w => s.run P w = .ok (.bool r) w) K
def RS.ops : Nat -> RS -> RS
 | 0, r => r
 | n + 1, r => .op none (RS.ops n r)
def RS.skips : Nat -> RS -> RS
 | 0, r => r
 | n + 1, r => .skip (RS.skips n r)
section
variable {w : World}
theorem Aj {a : Addr} {K : Addr -> Wp} (h : K a w) : nn (some a) K w := ⟨a, rfl, h⟩
theorem H7 {a : Addr} {K : Addr -> Wp} : nn (some a) K w ↔ K a w :=
 ⟨(λ ⟨_, e, h⟩ => by cases e; exact h), Aj⟩
theorem Bo {A B : World -> Prop} (h : A w) : sif true A B w := ⟨λ _ => h, (λ e => by cases e)⟩
theorem Am {A B : World -> Prop} (h : B w) : sif false A B w := ⟨(λ e => by cases e), λ _ => h⟩
theorem Wu {c : Cell} {p : Addr} {K : c.T -> Wp} {x : c.T} (h : w.cell? p = some (c.val x)) (hK : K x w) : ld c p K w := ⟨x, h, hK⟩
end
structure Upd (S : Nat -> Prop) (w w' : World) : Prop where
 os : w'.os = w.os
 tape : w'.tape = w.tape
 output : w'.output = w.output
 size : w.heap.size <= w'.heap.size
 at_ : ∀ k, k < w.heap.size -> ¬ S k -> w'.heap[k]? = w.heap[k]?
abbrev Ext (w w' : World) : Prop := Upd (λ _ => False) w w'
theorem lt_of_heap {w : World} {k : Nat} {o : Obj} (h : w.heap[k]? = some o) : k < w.heap.size := (Array.getElem?_eq_some_iff.1 h).1
section
variable {S S' : Nat -> Prop} {w w' w'' : World}
theorem Upd.refl (S : Nat -> Prop) (w : World) : Upd S w w := ⟨rfl, rfl, rfl, Nat.le_refl _, λ _ _ _ => rfl⟩
theorem Ext.refl (w : World) : Ext w w := Upd.refl _ w
theorem Upd.get (h : Upd S w w') {k : Nat} {o : Obj} (hk : w.heap[k]? = some o) (hS : ¬ S k) : w'.heap[k]? = some o := by
 rw [h.at_ k (lt_of_heap hk) hS]; exact hk
theorem Upd.ext_get (h : Ext w w') {k : Nat} {o : Obj} (hk : w.heap[k]? = some o) : w'.heap[k]? = some o := h.get hk id
theorem Upd.mono (h : Upd S w w') (hs : ∀ k, k < w.heap.size -> S k -> S' k) : Upd S' w w' := ⟨h.os, h.tape, h.output, h.size, λ k hk hn => h.at_ k hk λ hS => hn (hs k hk hS)⟩
theorem Upd.trans (h : Upd S w w') (h' : Upd S w' w'') : Upd S w w'' :=
 ⟨h'.os.trans h.os, h'.tape.trans h.tape, h'.output.trans h.output, Nat.le_trans h.size h'.size, λ k hk hn => (h'.at_ k (Nat.lt_of_lt_of_le hk h.size) hn).trans (h.at_ k hk hn)⟩
theorem Upd.Et (h : Ext w w') : Upd S w w' := h.mono λ _ _ h => h.elim
theorem Upd.new (h : Upd S w w') (h' : Upd S' w' w'') (hs : ∀ k, k < w.heap.size -> S' k -> S k) : Upd S w w'' :=
 ⟨h'.os.trans h.os, h'.tape.trans h.tape, h'.output.trans h.output, Nat.le_trans h.size h'.size, λ k hk hn => (h'.at_ k (Nat.lt_of_lt_of_le hk h.size) λ hS => hn (hs k hk hS)).trans (h.at_ k hk hn)⟩
theorem Ext.trans (h : Ext w w') (h' : Ext w' w'') : Ext w w'' := Upd.trans h h'
theorem Ext.step (h : Ext w w') (h' : Upd S' w' w'') (hs : ∀ k, S' k -> w.heap.size <= k) : Ext w w'' := Upd.new h h' λ k hk hS => absurd (hs k hS) (by omega)
theorem Ext.alloc (w : World) (o : Obj) : Ext w (w.alloc o) :=
 ⟨rfl, rfl, rfl, by simp, λ k hk _ => by show (w.heap.push o)[k]? = _; rw [Array.getElem?_push, if_neg (by omega)]⟩
theorem heap_alloc (w : World) (o : Obj) : (w.alloc o).heap[w.heap.size]? = some o := by
 show (w.heap.push o)[w.heap.size]? = _
 simp
theorem Ext.drew (w : World) : Ext w w.drew := ⟨rfl, rfl, rfl, Nat.le_refl _, λ _ _ _ => rfl⟩
theorem cell_of {b off : Nat} {c : Array Value} {t : TypeId} {fr : Nat × Nat} {v : Value} (hb : w.heap[b]? = some (.cells c t fr)) (hc : c[off]? = some v) : w.cell? ⟨b, off, none⟩ = some v := by
 simp [World.cell?, hb, hc]
theorem F9 {b off : Nat} {c : Array Value} {t : TypeId} {fr : Nat × Nat} (v : Value) (hb : w.heap[b]? = some (.cells c t fr)) :
  Upd (λ k => k = b) w (w.setCell ⟨b, off, none⟩ v) /\ (w.setCell ⟨b, off, none⟩ v).heap[b]? = some (.cells (c.setIfInBounds off v) t fr) := by
 refine ⟨⟨rfl, rfl, rfl, by simp [World.setCell], λ k hk hn => ?_⟩, ?_⟩
 ·simp only [World.setCell, Array.getElem?_modify]
  rw [if_neg (λ h => hn h.symm)]
 ·simp [World.setCell, Array.getElem?_modify, hb]
theorem Cm {o : Obj} {K : Nat -> Wp} (h : ∀ b w1, Ext w w1 -> w1.heap[b]? = some o -> b = w.heap.size -> w1.heap.size = w.heap.size + 1 -> K b w1) : Af o K w :=
 h _ _ (Ext.alloc w o) (heap_alloc w o) rfl (by simp)
theorem Di {K : World -> Prop} (h : ∀ w1, Ext w w1 -> w1.heap = w.heap -> K w1) : drew K w := h _ (Ext.drew w) rfl
theorem Cc {c : Cell} {b off : Nat} {K : c.T -> Wp} {x : c.T} {cs : Array Value} {t : TypeId} {fr : Nat × Nat} (hb : w.heap[b]? = some (.cells cs t fr)) (hc : cs[off]? = some (c.val x)) (h : K x w) :
  ld c ⟨b, off, none⟩ K w := ⟨x, cell_of hb hc, h⟩
theorem Nb {cs : List Cell} {b off : Nat} {K : Cells.T cs -> Wp} {x : Cells.T cs} {c : Array Value} {t : TypeId} {fr : Nat × Nat} (hb : w.heap[b]? = some (.cells c t fr))
  (hc : ∀ i v, (Cells.vals cs x)[i]? = some v -> c[off + i]? = some v) (h : K x w) : lds cs ⟨b, off, none⟩ K w := by
 refine ⟨x, ?_, h⟩
 have key : ∀ (l : List Value) (j : Nat), (∀ i v, l[i]? = some v -> c[off + (j + i)]? = some v) -> Ak w ⟨b, off, none⟩ j l := by
  intro l
  induction l with
  | nil => intro _ _; trivial
  | cons v r ih =>
   intro j hj
   refine ⟨?_, ih (j + 1) λ i u hu => ?_⟩
   ·have := cell_of hb (hj 0 v rfl)
    have e : (⟨b, off, none⟩ : Addr).add j = ⟨b, off + j, none⟩ := by unfold Addr.add; split <;> simp_all
    rw [e]; simpa using this
   ·have := hj (i + 1) u (by simpa using hu)
    rw [show off + (j + 1 + i) = off + (j + (i + 1)) by omega]; exact this
 exact key _ 0 (by simpa using hc)
theorem Jq {b off : Nat} {v : Value} {K : World -> Prop} {c : Array Value} {t : TypeId} (hb : w.heap[b]? = some (.cells c t (0, 0))) (ho : off < c.size)
  (h : ∀ w1, Upd (λ k => k = b) w w1 -> w1.heap[b]? = some (.cells (c.setIfInBounds off v) t (0, 0)) -> w1.heap.size = w.heap.size -> K w1) : stC ⟨b, off, none⟩ v K w := by
 obtain ⟨h1, h2⟩ := F9 (off := off) v hb
 refine ⟨⟨⟨c[off], cell_of hb (by simp [ho])⟩, ?_⟩, h _ h1 h2 (by simp [World.setCell])⟩
 simp [World.frozen?, hb]
theorem addr_add (b o n : Nat) : (⟨b, o, none⟩ : Addr).add n = ⟨b, o + n, none⟩ := by unfold Addr.add; split <;> simp_all
def setRow (c : Array Value) : Nat -> List Value -> Array Value
 | _, [] => c
 | off, v :: r => setRow (c.setIfInBounds off v) (off + 1) r
theorem size_setRow : ∀ (vs : List Value) (c : Array Value) (off : Nat), (setRow c off vs).size = c.size
 | [], _, _ => rfl
 | v :: r, c, off => by rw [setRow, size_setRow r]; simp
theorem Jf : ∀ (vs : List Value) (c : Array Value) (off i : Nat), i < off -> (setRow c off vs)[i]? = c[i]?
 | [], _, _, _, _ => rfl
 | v :: r, c, off, i, h => by rw [setRow, Jf r _ _ _ (by omega)]; simp [Array.getElem?_setIfInBounds, Nat.ne_of_gt h]
theorem Wv : ∀ (vs : List Value) (c : Array Value) (off i : Nat), off + vs.length <= i -> (setRow c off vs)[i]? = c[i]?
 | [], _, _, _, _ => rfl
 | v :: r, c, off, i, h => by
  simp only [List.length_cons] at h
  rw [setRow, Wv r _ _ _ (by omega), Array.getElem?_setIfInBounds, if_neg (by omega)]
theorem Sm : ∀ (vs : List Value) (c : Array Value) (off i : Nat), off + vs.length <= c.size -> i < vs.length -> (setRow c off vs)[off + i]? = vs[i]?
 | v :: r, c, off, 0, h, _ => by
  simp only [List.length_cons] at h
  rw [setRow, Nat.add_zero, Jf r _ _ _ (by omega), Array.getElem?_setIfInBounds]
  simp; omega
 | v :: r, c, off, i + 1, h, hi => by
  simp only [List.length_cons] at h hi
  rw [setRow, show off + (i + 1) = off + 1 + i by omega, Sm r _ _ _ (by simp; omega) (by omega)]
  simp
theorem Ju (P : Program) : ∀ (vs : List Value) (b off i : Nat) (c : Array Value) (t : TypeId) (w : World), (∀ v ∈ vs, Ez v = true) -> w.heap[b]? = some (.cells c t (0, 0)) -> off + i + vs.length <= c.size ->
  ∃ w1, (storeCells ⟨b, off, none⟩ vs i).run P w = .ok () w1 /\ Upd (λ k => k = b) w w1 /\ w1.heap[b]? = some (.cells (setRow c (off + i) vs) t (0, 0)) /\ w1.heap.size = w.heap.size
 | [], b, off, i, c, t, w, _, hb, _ => ⟨w, rfl, Upd.refl _ _, hb, rfl⟩
 | v :: r, b, off, i, c, t, w, hv, hb, hs => by
  simp only [List.length_cons] at hs
  obtain ⟨h1, h2⟩ := F9 (off := off + i) v hb
  have hsz : (w.setCell ⟨b, off + i, none⟩ v).heap.size = w.heap.size := by simp [World.setCell]
  obtain ⟨w1, hr, hu, hb1, hz⟩ := Ju P r b off (i + 1) _ t _ (λ x hx => hv x (List.mem_cons_of_mem _ hx)) h2 (by simp; omega)
  refine ⟨w1, ?_, h1.trans hu, hb1, hz.trans hsz⟩
  have hst := Qb (P := P) (p := ⟨b, off + i, none⟩) (hv v List.mem_cons_self) (cell_of hb (v := c[off + i]'(by omega)) (by simp)) (by simp [World.frozen?, hb])
  simp only [storeCells, addr_add, Sem.run_bind, hst, Result.andThen_ok]
  exact hr
theorem Vu {b off n : Nat} {vs : Array Value} {K : World -> Prop} {c : Array Value} {t : TypeId} (hb : w.heap[b]? = some (.cells c t (0, 0))) (hn : vs.size = n) (h1 : vs.toList.all Ez = true) (ho : off + n <= c.size)
  (h : ∀ w1, Upd (λ k => k = b) w w1 -> w1.heap[b]? = some (.cells (setRow c off vs.toList) t (0, 0)) -> w1.heap.size = w.heap.size -> K w1) : Ae ⟨b, off, none⟩ (.agg vs) n K w := by
 have key : ∀ (l : List Value) (i : Nat) (c : Array Value) (w : World), w.heap[b]? = some (.cells c t (0, 0)) -> off + i + l.length <= c.size ->
   (∀ w1, Upd (λ k => k = b) w w1 -> w1.heap[b]? = some (.cells (setRow c (off + i) l) t (0, 0)) -> w1.heap.size = w.heap.size -> K w1) -> Bs7 ⟨b, off, none⟩ i l K w := by
  intro l
  induction l with
  | nil => intro i c w hb _ h; exact h w (Upd.refl _ _) hb rfl
  | cons v r ih =>
   intro i c w hb hs h
   simp only [List.length_cons] at hs
   rw [Bs7, addr_add]
   exact Jq hb (by omega) λ w1 u1 hb1 z1 => ih (i + 1) _ w1 hb1 (by simp; omega) λ w2 u2 hb2 hz => h w2 (u1.trans u2) hb2 (hz.trans z1)
 unfold Ae
 have e : (Nat.beq (Value.agg vs).cells.toList.length n && (Value.agg vs).cells.toList.all Ez) = true := by
  rw [Bool.and_eq_true]
  refine ⟨?_, h1⟩
  show Nat.beq vs.toList.length n = true
  rw [Array.length_toList, hn]; exact Nat.beq_refl n
 rw [e]
 exact key _ 0 c w hb (by show off + 0 + vs.toList.length <= _; rw [Array.length_toList, hn]; omega) h
structure Bh (w : World) (s : Sl) (t : TypeId) (sz : Nat) (vs : List Value) : Prop where
 len : vs.length = s.len * sz
 le : s.len <= s.cap
 at_ : (s.a = none /\ s.cap = 0) \/ ∃ b off c fr, s.a = some ⟨b, off, none⟩ /\ w.heap[b]? = some (.cells c t fr) /\ off + s.cap * sz <= c.size /\ ∀ i v, vs[i]? = some v -> c[off + i]? = some v
structure Ap (w : World) (B : Nat) (s : Sl) (t : TypeId) (sz : Nat) (vs : List Value) : Prop where
 len : vs.length = s.len * sz
 le : s.len <= s.cap
 at_ : (s.a = none /\ s.cap = 0) \/ ∃ b off c, s.a = some ⟨b, off, none⟩ /\ B <= b /\ w.heap[b]? = some (.cells c t (0, 0)) /\ off + s.cap * sz <= c.size /\ ∀ i v, vs[i]? = some v -> c[off + i]? = some v
def Sl.blk (s : Sl) (k : Nat) : Prop := ∃ p, s.a = some p /\ p.block = k
theorem Ap.in {B : Nat} {s : Sl} {t : TypeId} {sz : Nat} {vs : List Value} (h : Ap w B s t sz vs) : Bh w s t sz vs :=
 ⟨h.len, h.le, h.at_.imp id λ ⟨b, off, c, h1, _, h2, h3, h4⟩ => ⟨b, off, c, _, h1, h2, h3, h4⟩⟩
theorem Bh.upd {s : Sl} {t : TypeId} {sz : Nat} {vs : List Value} (h : Bh w s t sz vs) (hu : Upd S w w') (hS : ∀ k, s.blk k -> ¬ S k) : Bh w' s t sz vs :=
 ⟨h.len, h.le, h.at_.imp id λ ⟨b, off, c, fr, h1, h2, h3, h4⟩ => ⟨b, off, c, fr, h1, hu.get h2 (hS b ⟨_, h1, rfl⟩), h3, h4⟩⟩
theorem Bh.ext {s : Sl} {t : TypeId} {sz : Nat} {vs : List Value} (h : Bh w s t sz vs) (hu : Ext w w') : Bh w' s t sz vs := h.upd hu λ _ _ => id
theorem Ap.upd {B : Nat} {s : Sl} {t : TypeId} {sz : Nat} {vs : List Value} (h : Ap w B s t sz vs) (hu : Upd S w w') (hS : ∀ k, B <= k -> s.blk k -> ¬ S k) : Ap w' B s t sz vs :=
 ⟨h.len, h.le, h.at_.imp id λ ⟨b, off, c, h1, hB, h2, h3, h4⟩ => ⟨b, off, c, h1, hB, hu.get h2 (hS b hB ⟨_, h1, rfl⟩), h3, h4⟩⟩
theorem Ap.ext {B : Nat} {s : Sl} {t : TypeId} {sz : Nat} {vs : List Value} (h : Ap w B s t sz vs) (hu : Ext w w') : Ap w' B s t sz vs := h.upd hu λ _ _ _ => id
theorem Ap.mono {B B' : Nat} {s : Sl} {t : TypeId} {sz : Nat} {vs : List Value} (h : Ap w B s t sz vs) (hB : B' <= B) : Ap w B' s t sz vs :=
 ⟨h.len, h.le, h.at_.imp id λ ⟨b, off, c, h1, hb, h2⟩ => ⟨b, off, c, h1, Nat.le_trans hB hb, h2⟩⟩
theorem Ap.nil (w : World) (B : Nat) (t : TypeId) (sz : Nat) : Ap w B ⟨none, 0, 0⟩ t sz [] := ⟨by simp, Nat.le_refl _, .inl ⟨rfl, rfl⟩⟩
theorem Bh.Me {s : Sl} {t : TypeId} {sz : Nat} {vs : List Value} (h : Bh w s t sz vs) {k : Nat} (hk : s.blk k) : k < w.heap.size := by
 obtain ⟨p, hp, rfl⟩ := hk
 rcases h.at_ with ⟨hn, _⟩ | ⟨b, off, c, fr, h1, h2, _⟩
 ·rw [hn] at hp; cases hp
 ·rw [h1] at hp; cases hp; exact lt_of_heap h2
theorem Ap.Ew {B : Nat} {s : Sl} {t : TypeId} {sz : Nat} {vs : List Value} (h : Ap w B s t sz vs) {k : Nat} (hk : s.blk k) : B <= k := by
 obtain ⟨p, hp, rfl⟩ := hk
 rcases h.at_ with ⟨hn, _⟩ | ⟨b, off, c, h1, hB, _⟩
 ·rw [hn] at hp; cases hp
 ·rw [h1] at hp; cases hp; exact hB
theorem Bh.ix {s : Sl} {t : TypeId} {sz : Nat} {vs : List Value} (h : Bh w s t sz vs) {n : Int} (h0 : 0 <= n) (h1 : n < s.len) (hz : 0 < sz) {K : Addr -> Wp}
  (hK : ∀ b off, s.a = some ⟨b, off, none⟩ -> (∀ j v, vs[n.toNat * sz + j]? = some v -> w.cell? ⟨b, off + n.toNat * sz + j, none⟩ = some v) -> K ⟨b, off, none⟩ w) : ix s.a s.len n K w := by
 rcases h.at_ with ⟨_, hc⟩ | ⟨b, off, c, fr, ha, hb, _, hv⟩
 ·have := h.le; omega
 ·exact ⟨_, ⟨ha, h0, h1⟩, hK b off ha λ j v hj => by rw [Nat.add_assoc]; exact cell_of hb (hv _ _ hj)⟩
theorem Eu {b off : Nat} : ∀ (l : List Value) (i : Nat), (∀ j v, l[j]? = some v -> w.cell? ⟨b, off + (i + j), none⟩ = some v) -> Ak w ⟨b, off, none⟩ i l
 | [], _, _ => trivial
 | v :: r, i, h => ⟨by rw [addr_add]; exact h 0 v rfl, Eu r (i + 1) λ j u hj => by rw [show off + (i + 1 + j) = off + (i + (j + 1)) by omega]; exact h (j + 1) u (by simpa using hj)⟩
theorem Aq6 (P : Program) {b off n : Nat} {c : Array Value} {t : TypeId} {fr : Nat × Nat} {vs : List Value} (hb : w.heap[b]? = some (.cells c t fr)) (hv : ∀ i v, vs[i]? = some v -> c[off + i]? = some v) (hn : vs.length = n) :
  (loadCells ⟨b, off, none⟩ n).run P w = .ok vs.toArray w := by
 have := run_loadCells (P := P) vs ⟨b, off, none⟩ 0 #[] w (Eu vs 0 λ j v hj => by rw [Nat.zero_add]; exact cell_of hb (hv j v hj))
 rw [hn] at this
 simpa [loadCells] using this
theorem Fj (P : Program) {s : Sl} {t : TypeId} {sz : Nat} {vs : List Value} (h : Bh w s t sz vs) : (Builtin.firstCells sz s.len (.slice s.a s.len s.cap)).run P w = .ok vs.toArray w := by
 rcases h.at_ with ⟨ha, hc⟩ | ⟨b, off, c, fr, ha, hb, _, hv⟩
 ·have hl : s.len = 0 := by have := h.le; omega
  have : vs = [] := by have := h.len; rw [hl, Nat.zero_mul] at this; exact List.length_eq_zero_iff.1 this
  rw [ha, this]; rfl
 ·rw [ha]; exact Aq6 P hb hv h.len
structure SlX (w : World) (s : Sl) (sz : Nat) (vs : List Value) : Prop where
 at_ : (s.len = 0 /\ vs = []) \/ ∃ t, Bh w s t sz vs
theorem Bh.x {s : Sl} {t : TypeId} {sz : Nat} {vs : List Value} (h : Bh w s t sz vs) : SlX w s sz vs := ⟨.inr ⟨t, h⟩⟩
theorem SlX.len {s : Sl} {sz : Nat} {vs : List Value} (h : SlX w s sz vs) : vs.length = s.len * sz := by
 rcases h.at_ with ⟨h1, h2⟩ | ⟨t, h⟩
 ·rw [h1, h2]; simp
 ·exact h.len
theorem SlX.ext {s : Sl} {sz : Nat} {vs : List Value} (h : SlX w s sz vs) (hu : Ext w w') : SlX w' s sz vs := ⟨h.at_.imp id λ ⟨t, h⟩ => ⟨t, h.ext hu⟩⟩
theorem Es (P : Program) {s : Sl} {sz : Nat} {vs : List Value} (h : SlX w s sz vs) : (Builtin.firstCells sz s.len (.slice s.a s.len s.cap)).run P w = .ok vs.toArray w := by
 rcases h.at_ with ⟨h1, h2⟩ | ⟨t, h⟩
 ·rw [h1, h2]
  cases s.a with
  | none => rfl
  | some a =>
   show (loadCells a (0 * sz)).run P w = _
   rw [Nat.zero_mul]
   rfl
 ·exact Fj P h
theorem Ah3 (need : Nat) : ∀ (n c : Nat), c <= need + need / 4 + 192 -> Builtin.growBy need n c <= need + need / 4 + 192
 | 0, c, h => h
 | n + 1, c, h => by
  rw [Builtin.growBy]
  split
  ·exact h
  ·exact Ah3 need n _ (by omega)
theorem nextslicecap_le {need old : Nat} (h : old < need) : Builtin.nextslicecap need old <= need + need / 4 + 512 := by
 unfold Builtin.nextslicecap
 split
 ·omega
 ·split
  ·omega
  ·have := Ah3 need 4 old (by omega); omega
theorem Bf6 (P : Program) {ts xt rt : TypeId} {e xe : TypeId} {i : TypeInfo} {z : Value} (hts : P.underlying ts = some (.slice e)) (hxt : P.underlying xt = some (.slice xe)) (hi : P.info? e = some i) (hz : i.zero = some z)
  {B : Nat} {s x : Sl} {vs us : List Value} (hs : Ap w B s e i.size vs) (hx : SlX w x i.size us) (h1 : ∀ v ∈ us, Ez v = true) (hzl : z.cells.size = i.size)
  (hroom : (s.len + x.len + (s.len + x.len) / 4 + 512) * i.bytes <= 2 ^ 48) (hb0 : 0 < i.bytes) (hB : B <= w.heap.size) :
  ∃ s' w', (Builtin.append_ #[ts, xt] rt #[.slice s.a s.len s.cap, .slice x.a x.len x.cap]).run P w = .ok (.slice s'.a s'.len s'.cap) w' /\ Ap w' B s' e i.size (vs ++ us) /\ s'.len = s.len + x.len /\
   Upd (λ k => s.blk k) w w' /\ (∀ k, s'.blk k -> s.blk k \/ w.heap.size <= k) := by
 have hfx := Es P hx
 have hfs := Fj P hs.in
 have hu1 := λ W => run_underlying hts W
 have hu2 := λ W => run_underlying hxt W
 have hsz : ∀ W, (sizeOf e).run P W = .ok i.size W := λ W => by simp [sizeOf, run_typeInfo W hi]
 have hti : ∀ W, (typeInfo e).run P W = .ok i W := λ W => run_typeInfo W hi
 have hzv : ∀ W, (zeroValue e).run P W = .ok z W := λ W => by simp [zeroValue, run_typeInfo W hi, hz]
 have hlen := hs.len
 have hxlen := hx.len
 by_cases hneed : s.len + x.len <= s.cap
 ·
  rcases hs.at_ with ⟨ha, hc⟩ | ⟨b, off, c, ha, hB', hb, hcap, hv⟩
  ·have hl0 : x.len = 0 := by omega
   have hsl : s.len = 0 := by omega
   have hus : us = [] := by rw [hl0, Nat.zero_mul] at hxlen; exact List.length_eq_zero_iff.1 hxlen
   refine ⟨⟨none, 0, s.cap⟩, w, ?_, ⟨by simp [hus, hlen, hsl], by simp, .inl ⟨rfl, hc⟩⟩, by simp [hl0, hsl], Upd.refl _ _, λ k hk => by obtain ⟨p, hp, _⟩ := hk; cases hp⟩
   have hfx' : (Builtin.firstCells i.size 0 (.slice x.a 0 x.cap)).run P w = .ok #[] w := by rw [hl0, hus] at hfx; exact hfx
   simp [Builtin.append_, hu1, hu2, hsz, Builtin.lenOf, hl0, hsl, ha, hfx', hc]
  ·have hfit : s.len * i.size + us.length <= s.cap * i.size := by
    rw [hxlen, ← Nat.add_mul]; exact Nat.mul_le_mul_right _ hneed
   obtain ⟨w1, hr, hu, hb1, _⟩ := Ju P us b (off + s.len * i.size) 0 c e w h1 hb (by omega)
   refine ⟨⟨s.a, s.len + x.len, s.cap⟩, w1, ?_, ⟨by simp [hlen, hxlen, Nat.add_mul], hneed, .inr ⟨b, off, setRow c (off + s.len * i.size + 0) us, ha, hB', hb1, by rw [size_setRow]; exact hcap, ?_⟩⟩, rfl, hu.mono λ k _ hk => ⟨_, ha, hk.symm⟩, λ k hk => .inl hk⟩
   ·simp [Builtin.append_, hu1, hu2, hsz, Builtin.lenOf, hneed, hfx, ha, addr_add, hr]
   ·intro j v hj
    rw [Nat.add_zero]
    by_cases hjl : j < vs.length
    ·rw [List.getElem?_append_left hjl] at hj
     rw [Jf _ _ _ _ (by omega)]; exact hv j v hj
    ·rw [List.getElem?_append_right (by omega)] at hj
     have hlt := (List.getElem?_eq_some_iff.1 hj).1
     rw [show off + j = off + s.len * i.size + (j - vs.length) by omega, Sm _ _ _ _ (by omega) hlt]
     exact hj
 ·
  have hle := nextslicecap_le (need := s.len + x.len) (old := s.cap) (by omega)
  have hroom' : ¬ (Builtin.nextslicecap (s.len + x.len) s.cap * i.bytes > 2 ^ 48) := by
   have := Nat.mul_le_mul_right i.bytes hle
   omega
  obtain ⟨nc, hnc, hncl⟩ : ∃ nc, (Question.appendCap (s.len + x.len) s.cap e).cut (w.tape w.drawn (Question.appendCap (s.len + x.len) s.cap e)) = nc /\ s.len + x.len <= nc := ⟨_, rfl, by simp only [Question.cut]; omega⟩
  have hfx' : (Builtin.firstCells i.size x.len (.slice x.a x.len x.cap)).run P w.drew = .ok us.toArray w.drew := Es P (hx.ext (Ext.drew w))
  have hfs' : (Builtin.firstCells i.size s.len (.slice s.a s.len s.cap)).run P w.drew = .ok vs.toArray w.drew := Fj P (hs.in.ext (Ext.drew w))
  let row := vs.toArray ++ us.toArray ++ Builtin.zeroCells z.cells (nc - (s.len + x.len))
  have hrow : row.size = nc * i.size := by
   simp only [row, Array.size_append, List.size_toArray, Builtin.zeroCells, Array.size_map, Array.size_range, hzl, hlen, hxlen]
   rw [← Nat.add_mul, ← Nat.add_mul]
   congr 1; omega
  refine ⟨⟨some ⟨w.heap.size, 0, none⟩, s.len + x.len, nc⟩, w.drew.alloc (.cells row e), ?_, ⟨by simp [hlen, hxlen, Nat.add_mul], hncl, .inr ⟨w.heap.size, 0, row, rfl, hB, heap_alloc w.drew _, by rw [hrow]; simp, ?_⟩⟩, rfl,
   (Upd.Et ((Ext.drew w).trans (Ext.alloc w.drew _))), λ k hk => .inr (by obtain ⟨p, hp, rfl⟩ := hk; cases hp; exact Nat.le_refl _)⟩
  ·have hb0' : ¬ i.bytes = 0 := by omega
   simp [Builtin.append_, hu1, hu2, hsz, Builtin.lenOf, hneed, hti, hb0', hroom', run_askRoom, hfs', hfx', hzv, newRow, newObj, Sem.run, Question.forced, hnc, row]
  ·intro j v hj
   rw [Nat.zero_add]
   have hlt := (List.getElem?_eq_some_iff.1 hj).1
   have : row[j]? = (vs ++ us)[j]? := by
    simp only [row]
    rw [Array.getElem?_append_left (by simpa using hlt)]
    simp
   rw [this]; exact hj
end
structure Hu (P : Program) (ts e : TypeId) (sz bytes : Nat) : Prop where
 ts_ : P.underlying ts = some (.slice e)
 e_ : ∃ i z, P.info? e = some i /\ i.size = sz /\ i.bytes = bytes /\ i.zero = some z /\ z.cells.size = sz
 pos : 0 < bytes
theorem Hu.of {P : Program} {ts e : TypeId} {it ie : Inf} (h : Ba P ts it) (he : Ba P e ie) (hd : it.desc = .slice e) {z : Value} (hz : ie.zero = some z) (hzs : z.cells.size = ie.size) (hb : 0 < ie.bytes) : Hu P ts e ie.size ie.bytes := by
 obtain ⟨j, hj, h1, h2, h3⟩ := he.Bj1
 exact ⟨by rw [h.und, hd], ⟨j, z, hj, h1, h2, h3.trans hz, hzs⟩, hb⟩
section
variable {S : Nat -> Prop} {w w' : World} {P : Program}
theorem Ej {ts xt rt e xe : TypeId} {sz bytes : Nat} (E : Hu P ts e sz bytes) (hxt : P.underlying xt = some (.slice xe)) {B : Nat} {s x : Sl} {vs us : List Value} {K : Sl -> Wp}
  (hs : Ap w B s e sz vs) (hx : SlX w x sz us) (h1 : ∀ v ∈ us, Ez v = true) (hroom : (s.len + x.len + (s.len + x.len) / 4 + 512) * bytes <= 2 ^ 48) (hB : B <= w.heap.size)
  (h : ∀ s' w', Ap w' B s' e sz (vs ++ us) -> s'.len = s.len + x.len -> Upd s.blk w w' -> (∀ k, s'.blk k -> s.blk k \/ w.heap.size <= k) -> K s' w') :
  Dz P (.one (.one .sl)) (Builtin.append_ #[ts, xt] rt #[.slice s.a s.len s.cap, .slice x.a x.len x.cap]) K w := by
 obtain ⟨i, z, hi, rfl, rfl, hz, hzs⟩ := E.e_
 obtain ⟨s', w', hr, ho, hl, hu, hb⟩ := Bf6 (rt := rt) P E.ts_ hxt hi hz hs hx h1 hzs hroom E.pos hB
 exact ⟨s', w', hr, h s' w' ho hl hu hb⟩
theorem Ax1 {ts xt rt e xe : TypeId} {sz bytes : Nat} (E : Hu P ts e sz bytes) (hxt : P.underlying xt = some (.slice xe)) {B : Nat} {s x : Sl} {t' : TypeId} {vs us : List Value} {K : Sl -> Wp}
  (hs : Ap w B s e sz vs) (hx : Bh w x t' sz us) (h1 : ∀ v ∈ us, Ez v = true) (hroom : (s.len + x.len + (s.len + x.len) / 4 + 512) * bytes <= 2 ^ 48) (hB : B <= w.heap.size)
  (h : ∀ s' w', Ap w' B s' e sz (vs ++ us) -> s'.len = s.len + x.len -> Upd s.blk w w' -> (∀ k, s'.blk k -> s.blk k \/ w.heap.size <= k) -> K s' w') :
  Dz P (.one (.one .sl)) (Builtin.append_ #[ts, xt] rt #[.slice s.a s.len s.cap, .slice x.a x.len x.cap]) K w := by
 exact Ej E hxt hs hx.x h1 hroom hB h
theorem Aq4 {s : Sl} {t : TypeId} {sz : Nat} {vs : List Value} {l h m : Int} {K : Sl -> Wp} (hs : Bh w s t sz vs) (h0 : 0 <= l) (h1 : l <= h) (h2 : h <= s.len) (h3 : h <= m) (h4 : m <= s.cap)
  (hK : ∀ s', Bh w s' t sz ((vs.drop (l.toNat * sz)).take ((h.toNat - l.toNat) * sz)) -> s'.len = h.toNat - l.toNat -> (s'.a = none ↔ s.a = none) -> (∀ k, s'.blk k -> s.blk k) -> K s' w) : slc s.a l h m s.cap sz K w := by
 refine ⟨(), ⟨h0, h1, h3, h4⟩, hK _ ⟨?_, ?_, ?_⟩ rfl ?_ ?_⟩
 ·show ((vs.drop (l.toNat * sz)).take ((h.toNat - l.toNat) * sz)).length = (h.toNat - l.toNat) * sz
  rw [List.length_take, List.length_drop, hs.len, ← Nat.sub_mul]
  exact Nat.min_eq_left (Nat.mul_le_mul_right _ (by omega))
 ·show h.toNat - l.toNat <= m.toNat - l.toNat
  omega
 ·rcases hs.at_ with ⟨ha, hc⟩ | ⟨b, off, c, fr, ha, hb, hcap, hv⟩
  ·refine .inl ⟨?_, ?_⟩
   ·show (if m.toNat = l.toNat then s.a else s.a.map _) = none
    rw [ha]; split <;> rfl
   ·show m.toNat - l.toNat = 0
    omega
  ·have hin : ∀ j v, ((vs.drop (l.toNat * sz)).take ((h.toNat - l.toNat) * sz))[j]? = some v -> c[off + l.toNat * sz + j]? = some v := by
    intro j v hj
    rw [List.getElem?_take] at hj
    split at hj
    ·rw [List.getElem?_drop] at hj
     rw [Nat.add_assoc]; exact hv _ _ hj
    ·cases hj
   by_cases hml : m.toNat = l.toNat
   ·refine .inr ⟨b, off, c, fr, ?_, hb, ?_, ?_⟩
    ·show (if m.toNat = l.toNat then s.a else s.a.map _) = _
     rw [if_pos hml, ha]
    ·show off + (m.toNat - l.toNat) * sz <= c.size
     rw [hml, Nat.sub_self, Nat.zero_mul]; omega
    ·intro j v hj
     have : h.toNat - l.toNat = 0 := by omega
     rw [this, Nat.zero_mul] at hj
     cases hj
   ·refine .inr ⟨b, off + l.toNat * sz, c, fr, ?_, hb, ?_, hin⟩
    ·show (if m.toNat = l.toNat then s.a else s.a.map _) = _
     rw [if_neg hml, ha, Dx]
     simp [addr_add]
    ·show off + l.toNat * sz + (m.toNat - l.toNat) * sz <= c.size
     have : l.toNat * sz + (m.toNat - l.toNat) * sz = m.toNat * sz := by rw [← Nat.add_mul]; congr 1; omega
     have h5 : m.toNat * sz <= s.cap * sz := Nat.mul_le_mul_right _ (by omega)
     omega
 ·show (if m.toNat = l.toNat then s.a else s.a.map _) = none ↔ _
  split <;> simp
 ·rintro k ⟨p, hp, rfl⟩
  have hp : (if m.toNat = l.toNat then s.a else s.a.map (·.add (scaled l.toNat sz))) = some p := hp
  split at hp
  ·exact ⟨p, hp, rfl⟩
  ·cases ha : s.a with
   | none => rw [ha] at hp; cases hp
   | some q =>
    rw [ha] at hp
    cases hp
    exact ⟨q, ha, by unfold Addr.add; split <;> rfl⟩
structure Ck8 (P : Program) (t : TypeId) (z : Value) : Prop where
 ok : ∃ kt et, P.underlying t = some (.map kt et) /\ P.underlying kt = some (.int .i64) /\ ∀ w, (zeroValue et).run P w = .ok z w
theorem Ck8.of {t kt et : TypeId} {i ik ie : Inf} (h : Ba P t i) (hk : Ba P kt ik) (he : Ba P et ie) (hd : i.desc = .map kt et) (hkd : ik.desc = .int .i64) {z : Value} (hz : ie.zero = some z) : Ck8 P t z :=
 ⟨kt, et, by rw [h.und, hd], by rw [hk.und, hkd], λ w => he.Oa w hz⟩
theorem Ay2 {m : Nat} {o o' : Obj} (hm : w.heap[m]? = some o) : Upd (λ k => k = m) w { w with heap := w.heap.setIfInBounds m o' } /\ (w.heap.setIfInBounds m o')[m]? = some o' := by
 have hlt := lt_of_heap hm
 refine ⟨⟨rfl, rfl, rfl, by simp, λ k hk hn => ?_⟩, by simp [hlt]⟩
 simp only
 rw [Array.getElem?_setIfInBounds_ne (λ h => hn h.symm)]
theorem Ac {b : Bool} {A B : World -> Prop} (h1 : b = true -> A w) (h2 : b = false -> B w) : sif b A B w := ⟨h1, h2⟩
theorem Ad {T : Type} {body : (T -> Wp) -> Wp} {rest : T -> Wp} (J : T -> Wp) (hb : body J w) (hr : ∀ s w', J s w' -> rest s w') : join body rest w := ⟨J, hb, hr⟩
theorem Ar {T : Type} {body : T -> (T -> Wp) -> Wp} {s0 : T} (I : T -> Wp) (μ : T -> World -> Nat) (h0 : I s0 w)
  (hr : ∀ s w', I s w' -> body s (λ s' w'' => I s' w'' /\ μ s' w'' < μ s w') w') : Ho body s0 w := ⟨I, μ, h0, hr⟩
theorem Au {p K : World -> Prop} (h1 : p w) (h2 : K w) : keep p K w := ⟨h1, h2⟩
theorem Bq {c : Prop} {K : World -> Prop} (h1 : c) (h2 : K w) : chk c K w := ⟨(), h1, h2⟩
theorem Az {a b : Bool} (h : a = true ↔ b = true) : (a, ()) = (b, ()) := by rw [Bool.eq_iff_iff.2 h]
theorem Gl {c : Cell} {s : Sl} {t : TypeId} {xs : List c.T} {n : Int} {K : Addr -> c.T -> Wp} (h : Bh w s t 1 (xs.map c.val)) (h0 : 0 <= n) {x : c.T} (hx : xs[n.toNat]? = some x) (hK : ∀ p, K p x w) :
  ix s.a s.len n (λ p => ld c (p.add (scaled (Int.toNat n) 1)) (K p)) w := by
 have hlt := (List.getElem?_eq_some_iff.1 hx).1
 have hl := h.len
 rw [List.length_map, Nat.mul_one] at hl
 refine h.ix h0 (by omega) (by omega) λ b off ha hv => ?_
 rw [addr_add]
 refine Wu (x := x) ?_ (hK _)
 have := hv 0 (c.val x) (by rw [Nat.mul_one, Nat.add_zero, List.getElem?_map, hx]; rfl)
 simpa [scaled] using this
theorem Bh.len1 {s : Sl} {t : TypeId} {vs : List Value} (h : Bh w s t 1 vs) : vs.length = s.len := by have := h.len; omega
theorem Ap.len1 {B : Nat} {s : Sl} {t : TypeId} {vs : List Value} (h : Ap w B s t 1 vs) : vs.length = s.len := by have := h.len; omega
end
structure St (M : Nat -> Prop) (w0 w : World) (ls : List (Nat × Obj)) : Prop where
 upd : Upd M w0 w
 old : ∀ k, M k -> k < w0.heap.size
 loc : ∀ x ∈ ls, w.heap[x.1]? = some x.2 /\ w0.heap.size <= x.1
 nd : (ls.map (·.1)).Nodup
section
variable {M : Nat -> Prop} {w0 w : World} {ls : List (Nat × Obj)}
theorem St.start (w : World) : St (λ _ => False) w w [] := ⟨Upd.refl _ _, λ _ h => h.elim, (λ _ h => by cases h), List.nodup_nil⟩
theorem St.Cl7 (M : Nat -> Prop) (w : World) (h : ∀ k, M k -> k < w.heap.size) : St M w w [] := ⟨Upd.refl _ _, h, (λ _ h => by cases h), List.nodup_nil⟩
theorem St.at_ (S : St M w0 w ls) (i : Nat) {b : Nat} {o : Obj} (h : ls[i]? = some (b, o)) : w.heap[b]? = some o := (S.loc _ (List.mem_of_getElem? h)).1
theorem St.ge (S : St M w0 w ls) (i : Nat) {b : Nat} {o : Obj} (h : ls[i]? = some (b, o)) : w0.heap.size <= b := (S.loc _ (List.mem_of_getElem? h)).2
theorem St.step (S : St M w0 w ls) {M' : Nat -> Prop} {w' : World} (u : Upd M' w w') (hM : ∀ k, M' k -> M k) : St M w0 w' ls :=
 ⟨S.upd.new u λ k _ h => hM k h, S.old, λ x hx => ⟨u.get (S.loc x hx).1 λ h => by have := S.old _ (hM _ h); have := (S.loc x hx).2; omega, (S.loc x hx).2⟩, S.nd⟩
theorem St.ext (S : St M w0 w ls) {w' : World} (u : Ext w w') : St M w0 w' ls := S.step u λ _ h => h.elim
theorem St.fresh (S : St M w0 w ls) {M' : Nat -> Prop} {w' : World} (u : Upd M' w w') (hM : ∀ k, M' k -> M k \/ w0.heap.size <= k) (hb : ∀ x ∈ ls, ¬ M' x.1) : St M w0 w' ls :=
 ⟨S.upd.new u λ k hk h => (hM k h).resolve_right (by omega), S.old, λ x hx => ⟨u.get (S.loc x hx).1 (hb x hx), (S.loc x hx).2⟩, S.nd⟩
theorem St.tail {x : Nat × Obj} (S : St M w0 w (x :: ls)) : St M w0 w ls := ⟨S.upd, S.old, λ y hy => S.loc y (List.mem_cons_of_mem _ hy), (List.nodup_cons.1 S.nd).2⟩
theorem St.Y8 (S : St M w0 w ls) {o : Obj} {K : Nat -> Wp} (h : ∀ b w1, St M w0 w1 ((b, o) :: ls) -> Ext w w1 -> b = w.heap.size -> K b w1) : Go.Vx.Af o K w := by
 refine Cm λ b w1 e n hb _ => h b w1 ⟨S.upd.new e λ _ _ h => h.elim, S.old, λ x hx => ?_, ?_⟩ e hb
 ·rcases List.mem_cons.1 hx with rfl | hx
  ·exact ⟨n, by rw [hb]; exact S.upd.size⟩
  ·exact ⟨e.ext_get (S.loc x hx).1, (S.loc x hx).2⟩
 ·refine List.nodup_cons.2 ⟨λ hm => ?_, S.nd⟩
  obtain ⟨x, hx, he⟩ := List.mem_map.1 hm
  have := lt_of_heap (S.loc x hx).1
  simp only at he
  omega
theorem St.Af (S : St M w0 w ls) {o : Obj} {K : Nat -> Wp} (h : ∀ b w1, St M w0 w1 ((b, o) :: ls) -> Ext w w1 -> K b w1) : Go.Vx.Af o K w := S.Y8 λ b w1 S e _ => h b w1 S e
theorem St.drew (S : St M w0 w ls) {K : World -> Prop} (h : ∀ w1, St M w0 w1 ls -> Ext w w1 -> w1.heap = w.heap -> K w1) : Go.Vx.drew K w := Di λ w1 e he => h w1 (S.ext e) e he
theorem St.ld (S : St M w0 w ls) (i : Nat) {c : Cell} {b off : Nat} {K : c.T -> Wp} {x : c.T} {cs : Array Value} {t : TypeId} {fr : Nat × Nat} (hi : ls[i]? = some (b, .cells cs t fr)) (hc : cs[off]? = some (c.val x)) (h : K x w) :
  Go.Vx.ld c ⟨b, off, none⟩ K w := Cc (S.at_ i hi) hc h
theorem St.lds (S : St M w0 w ls) (i : Nat) {cs : List Cell} {b : Nat} {K : Cells.T cs -> Wp} (x : Cells.T cs) {t : TypeId} {fr : Nat × Nat} (hi : ls[i]? = some (b, .cells (Cells.vals cs x).toArray t fr)) (h : K x w) :
  Go.Vx.lds cs ⟨b, 0, none⟩ K w := Nb (S.at_ i hi) (λ j v hv => by rw [Nat.zero_add]; simpa using hv) h
theorem Xq (vs : List Value) (c : Array Value) (h : c.size = vs.length) : setRow c 0 vs = vs.toArray := by
 apply Array.ext_getElem?
 intro i
 by_cases hi : i < vs.length
 ·have := Sm vs c 0 i (by omega) hi
  rw [Nat.zero_add] at this
  rw [this]; simp
 ·rw [Wv _ _ _ _ (by omega)]
  simp [Array.getElem?_eq_none, h, Nat.le_of_not_lt hi]
theorem P5 {i b : Nat} {o o' : Obj} {w1 : World} (S : St M w0 w ls) (hi : ls[i]? = some (b, o)) (u : Upd (λ k => k = b) w w1) (hb : w1.heap[b]? = some o') : St M w0 w1 (ls.set i (b, o')) := by
 have hge := S.ge i hi
 refine ⟨S.upd.new u λ k hk h => by omega, S.old, λ x hx => ?_, ?_⟩
 ·obtain ⟨j, hj⟩ := List.getElem?_of_mem hx
  rw [List.getElem?_set] at hj
  split at hj
  ·split at hj
   ·cases hj; exact ⟨hb, hge⟩
   ·cases hj
  ·rename_i hne
   have hm := List.mem_of_getElem? hj
   refine ⟨u.get (S.loc x hm).1 λ e => ?_, (S.loc x hm).2⟩
   have hnd := S.nd
   have h1 : (ls.map (·.1))[i]? = some b := by rw [List.getElem?_map, hi]; rfl
   have h2 : (ls.map (·.1))[j]? = some b := by rw [List.getElem?_map, hj, ← e]; rfl
   have hil := (List.getElem?_eq_some_iff.1 h1).1
   exact hne ((List.getElem?_inj hil hnd).1 (h1.trans h2.symm))
 ·rw [List.map_set]
  have h1 : (ls.map (·.1))[i]? = some b := by rw [List.getElem?_map, hi]; rfl
  have e : (ls.map (·.1)).set i b = ls.map (·.1) := by
   apply List.ext_getElem?
   intro j
   rw [List.getElem?_set]
   split
   ·rename_i hij
    subst hij
    rw [h1]
    split
    ·rfl
    ·rename_i hn; exact absurd (List.getElem?_eq_some_iff.1 h1).1 hn
   ·rfl
  simp only
  rw [e]
  exact S.nd
theorem St.Ae (S : St M w0 w ls) (i : Nat) {b n : Nat} {vs : Array Value} {K : World -> Prop} {c : Array Value} {t : TypeId} (hi : ls[i]? = some (b, .cells c t (0, 0))) (hn : vs.size = n) (hc : c.size = n) (h1 : vs.toList.all Ez = true)
  (h : ∀ w1, St M w0 w1 (ls.set i (b, .cells vs t (0, 0))) -> Upd (λ k => k = b) w w1 -> K w1) : Go.Vx.Ae ⟨b, 0, none⟩ (.agg vs) n K w := by
 refine Vu (S.at_ i hi) hn h1 (by omega) λ w1 u hb _ => h w1 ?_ u
 rw [Xq vs.toList c (by simp; omega)] at hb
 exact P5 S hi u (by simpa using hb)
theorem St.stC (S : St M w0 w ls) (i : Nat) {b off : Nat} {v : Value} {K : World -> Prop} {c : Array Value} {t : TypeId} (hi : ls[i]? = some (b, .cells c t (0, 0))) (ho : off < c.size)
  (h : ∀ w1, St M w0 w1 (ls.set i (b, .cells (c.setIfInBounds off v) t (0, 0))) -> Upd (λ k => k = b) w w1 -> K w1) : Go.Vx.stC ⟨b, off, none⟩ v K w :=
 Jq (S.at_ i hi) ho λ w1 u hb _ => h w1 (P5 S hi u hb) u
theorem St.Ku (S : St M w0 w ls) {n : Nat} {t : TypeId} {vs c : Array Value} {K : Nat -> Wp} (hn : vs.size = n) (hc : c.size = n) (h1 : vs.toList.all Ez = true)
  (h : ∀ b w1, St M w0 w1 ((b, .cells vs t (0, 0)) :: ls) -> Ext w w1 -> K b w1) : Go.Vx.Af (.cells c t) (λ b => Go.Vx.Ae (at0 b) (.agg vs) n (K b)) w := by
 refine S.Y8 λ b w1 S1 e1 hb => S1.Ae 0 rfl hn hc h1 λ w2 S2 u2 => h b w2 S2 (e1.step u2 ?_)
 rintro k rfl
 omega
theorem Bh.box {s : Sl} {t t' : TypeId} {sz : Nat} {vs : List Value} {b : Nat} {c : Array Value} {fr : Nat × Nat} {w1 : World} (h : Bh w s t sz vs) (hb : w.heap[b]? = some (.cells c t' fr)) (ht : t ≠ t') (u : Upd (λ k => k = b) w w1) : Bh w1 s t sz vs := by
 refine h.upd u λ k hk e => ?_
 obtain ⟨p, hp, rfl⟩ := hk
 rcases h.at_ with ⟨hn, _⟩ | ⟨b', off, c', fr', ha, hb', _⟩
 ·rw [hn] at hp; cases hp
 ·rw [ha] at hp; cases hp
  simp only at e
  rw [e, hb] at hb'
  cases hb'
  exact ht rfl
theorem Ap.box {B : Nat} {s : Sl} {t t' : TypeId} {sz : Nat} {vs : List Value} {b : Nat} {c : Array Value} {fr : Nat × Nat} {w1 : World} (h : Ap w B s t sz vs) (hb : w.heap[b]? = some (.cells c t' fr)) (ht : t ≠ t') (u : Upd (λ k => k = b) w w1) : Ap w1 B s t sz vs := by
 refine h.upd u λ k _ hk e => ?_
 obtain ⟨p, hp, rfl⟩ := hk
 rcases h.at_ with ⟨hn, _⟩ | ⟨b', off, c', ha, _, hb', _⟩
 ·rw [hn] at hp; cases hp
 ·rw [ha] at hp; cases hp
  simp only at e
  rw [e, hb] at hb'
  cases hb'
  exact ht rfl
theorem Bh.Iw {b n sz : Nat} {c : Array Value} {t : TypeId} {fr : Nat × Nat} (hb : w.heap[b]? = some (.cells c t fr)) (h : c.size = n * sz) : Bh w ⟨some (at0 b), n, n⟩ t sz c.toList :=
 ⟨by simpa using h, Nat.le_refl _, .inr ⟨b, 0, c, fr, rfl, hb, by simp only; omega, λ i v hv => by rw [Nat.zero_add]; simpa using hv⟩⟩
theorem St.keep (S : St M w0 w ls) (i : Nat) {b off : Nat} {v : Value} {cs : Array Value} {t : TypeId} {fr : Nat × Nat} {K : World -> Prop} (hi : ls[i]? = some (b, .cells cs t fr)) (hc : cs[off]? = some v) (h : K w) :
  Go.Vx.keep (λ w => w.cell? ⟨b, off, none⟩ = some v) K w := ⟨cell_of (S.at_ i hi) hc, h⟩
theorem St.keeps (S : St M w0 w ls) (i : Nat) {b : Nat} {cs : List Cell} {x : Cells.T cs} {t : TypeId} {fr : Nat × Nat} {K : World -> Prop} (hi : ls[i]? = some (b, .cells (Cells.vals cs x).toArray t fr)) (h : K w) :
  Go.Vx.keep (λ w => Ak w ⟨b, 0, none⟩ 0 (Cells.vals cs x)) K w :=
 ⟨Eu _ 0 λ j v hj => by rw [Nat.zero_add, Nat.zero_add]; exact cell_of (S.at_ i hi) (by simpa using hj), h⟩
end
theorem Ey : ∀ (cs : List Cell) (x : Cells.T cs), (Cells.vals cs x).length = cs.length
 | [], _ => rfl
 | c :: r, x => by simp [Cells.vals, Ey r x.2]
def flat (cs : List Cell) (xs : List (Cells.T cs)) : List Value := xs.flatMap (Cells.vals cs)
theorem Js (cs : List Cell) (xs ys : List (Cells.T cs)) : flat cs (xs ++ ys) = flat cs xs ++ flat cs ys := by simp [flat]
theorem Yj (cs : List Cell) (x : Cells.T cs) : flat cs [x] = Cells.vals cs x := by simp [flat]
theorem Aa8 (cs : List Cell) : ∀ xs : List (Cells.T cs), (flat cs xs).length = xs.length * cs.length
 | [] => by simp [flat]
 | x :: r => by
  have := Aa8 cs r
  simp only [flat] at this ⊢
  rw [List.flatMap_cons, List.length_append, Ey, this, List.length_cons, Nat.succ_mul]
  omega
theorem flat_get (cs : List Cell) : ∀ (xs : List (Cells.T cs)) (n j : Nat) (x : Cells.T cs), xs[n]? = some x -> j < cs.length -> (flat cs xs)[n * cs.length + j]? = (Cells.vals cs x)[j]?
 | [], n, j, x, h, _ => by simp at h
 | y :: r, 0, j, x, h, hj => by
  simp at h
  subst h
  simp only [flat, List.flatMap_cons, Nat.zero_mul, Nat.zero_add]
  rw [List.getElem?_append_left (by rw [Ey]; exact hj)]
 | y :: r, n + 1, j, x, h, hj => by
  have ih := flat_get cs r n j x (by simpa using h) hj
  simp only [flat, List.flatMap_cons] at ih ⊢
  rw [List.getElem?_append_right (by rw [Ey, Nat.succ_mul]; omega), Ey, ← ih]
  congr 1
  rw [Nat.succ_mul]; omega
section
variable {w : World}
theorem Bh.Jt {s : Sl} {t : TypeId} {cs : List Cell} {xs : List (Cells.T cs)} (h : Bh w s t cs.length (flat cs xs)) (hc : 0 < cs.length) : xs.length = s.len := by
 have := h.len
 rw [Aa8] at this
 exact Nat.eq_of_mul_eq_mul_right hc this
theorem Ap.Jt {B : Nat} {s : Sl} {t : TypeId} {cs : List Cell} {xs : List (Cells.T cs)} (h : Ap w B s t cs.length (flat cs xs)) (hc : 0 < cs.length) : xs.length = s.len := h.in.Jt hc
theorem Si {cs : List Cell} {s : Sl} {t : TypeId} {xs : List (Cells.T cs)} {n : Int} {K : Addr -> Cells.T cs -> Wp} (h : Bh w s t cs.length (flat cs xs)) (hc : 0 < cs.length) (h0 : 0 <= n) {x : Cells.T cs} (hx : xs[n.toNat]? = some x) (hK : ∀ p, K p x w) :
  ix s.a s.len n (λ p => lds cs (p.add (scaled (Int.toNat n) cs.length)) (K p)) w := by
 have hlt := (List.getElem?_eq_some_iff.1 hx).1
 have hl := h.Jt hc
 refine h.ix h0 (by omega) hc λ b off ha hv => ?_
 rw [addr_add]
 refine ⟨x, Eu _ 0 λ j v hj => ?_, hK _⟩
 have hjl : j < cs.length := by
  have := (List.getElem?_eq_some_iff.1 hj).1
  rwa [Ey] at this
 have := hv j v (by rw [flat_get cs xs _ j x hx hjl]; exact hj)
 simpa [Dx] using this
theorem Am3 {c : Cell} {cs : List Cell} {s : Sl} {t : TypeId} {xs : List (Cells.T cs)} {n : Int} {j : Nat} {K : Addr -> c.T -> Wp} (h : Bh w s t cs.length (flat cs xs)) (h0 : 0 <= n) {x : Cells.T cs} {y : c.T} (hx : xs[n.toNat]? = some x) (hy : (Cells.vals cs x)[j]? = some (c.val y)) (hK : ∀ p, K p y w) :
  ix s.a s.len n (λ p => ld c ((p.add (scaled (Int.toNat n) cs.length)).add j) (K p)) w := by
 have hlt := (List.getElem?_eq_some_iff.1 hx).1
 have hjl : j < cs.length := by
  have := (List.getElem?_eq_some_iff.1 hy).1
  rwa [Ey] at this
 have hl := h.Jt (by omega)
 refine h.ix h0 (by omega) (by omega) λ b off ha hv => ?_
 rw [addr_add, addr_add]
 refine Wu (x := y) ?_ (hK _)
 have := hv j (c.val y) (by rw [flat_get cs xs _ j x hx hjl]; exact hy)
 simpa [Dx] using this
theorem Bj0 {c : Cell} {cs : List Cell} {s : Sl} {t : TypeId} {xs : List (Cells.T cs)} {n : Int} {K : Addr -> c.T -> Wp} (h : Bh w s t cs.length (flat cs xs)) (h0 : 0 <= n) {x : Cells.T cs} {y : c.T} (hx : xs[n.toNat]? = some x) (hy : (Cells.vals cs x)[0]? = some (c.val y)) (hK : ∀ p, K p y w) :
  ix s.a s.len n (λ p => ld c (p.add (scaled (Int.toNat n) cs.length)) (K p)) w := by
 have hlt := (List.getElem?_eq_some_iff.1 hx).1
 have hjl : 0 < cs.length := by
  have := (List.getElem?_eq_some_iff.1 hy).1
  rwa [Ey] at this
 have hl := h.Jt (by omega)
 refine h.ix h0 (by omega) (by omega) λ b off ha hv => ?_
 rw [addr_add]
 refine Wu (x := y) ?_ (hK _)
 have := hv 0 (c.val y) (by rw [flat_get cs xs _ 0 x hx hjl]; exact hy)
 simpa [Dx] using this
theorem SlX.Ah2 {s : Sl} {sz : Nat} {vs : List Value} (h : SlX w s sz vs) (hl : 0 < s.len) : ∃ t, Bh w s t sz vs := by
 rcases h.at_ with ⟨h1, _⟩ | h
 ·omega
 ·exact h
theorem SlX.len1 {s : Sl} {vs : List Value} (h : SlX w s 1 vs) : vs.length = s.len := by have := h.len; omega
theorem SlX.Jt {s : Sl} {cs : List Cell} {xs : List (Cells.T cs)} (h : SlX w s cs.length (flat cs xs)) (hc : 0 < cs.length) : xs.length = s.len := by
 have := h.len
 rw [Aa8] at this
 exact Nat.eq_of_mul_eq_mul_right hc this
theorem Am4 {c : Cell} {s : Sl} {xs : List c.T} {n : Int} {K : Addr -> c.T -> Wp} (h : SlX w s 1 (xs.map c.val)) (h0 : 0 <= n) {x : c.T} (hx : xs[n.toNat]? = some x) (hK : ∀ p, K p x w) :
  ix s.a s.len n (λ p => ld c (p.add (scaled (Int.toNat n) 1)) (K p)) w := by
 have hlt := (List.getElem?_eq_some_iff.1 hx).1
 have hl := h.len1
 rw [List.length_map] at hl
 obtain ⟨t, h⟩ := h.Ah2 (by omega)
 exact Gl h h0 hx hK
theorem Bi9 {cs : List Cell} {s : Sl} {xs : List (Cells.T cs)} {n : Int} {K : Addr -> Cells.T cs -> Wp} (h : SlX w s cs.length (flat cs xs)) (hc : 0 < cs.length) (h0 : 0 <= n) {x : Cells.T cs} (hx : xs[n.toNat]? = some x) (hK : ∀ p, K p x w) :
  ix s.a s.len n (λ p => lds cs (p.add (scaled (Int.toNat n) cs.length)) (K p)) w := by
 have hlt := (List.getElem?_eq_some_iff.1 hx).1
 have hl := h.Jt hc
 obtain ⟨t, h⟩ := h.Ah2 (by omega)
 exact Si h hc h0 hx hK
end
section
variable {S : Nat -> Prop} {w w' : World}
theorem Bh.Ep {s : Sl} {t : TypeId} {sz : Nat} {vs : List Value} (h : Bh w s t sz vs) {k : Nat} (hk : s.blk k) : ∃ c fr, w.heap[k]? = some (.cells c t fr) := by
 obtain ⟨p, hp, rfl⟩ := hk
 rcases h.at_ with ⟨hn, _⟩ | ⟨b, off, c, fr, h1, h2, _⟩
 ·rw [hn] at hp; cases hp
 ·rw [h1] at hp; cases hp; exact ⟨c, fr, h2⟩
def Fb (w : World) (S : Nat -> Prop) (t : TypeId) : Prop := ∀ k, S k -> ∀ c fr, w.heap[k]? ≠ some (.cells c t fr)
theorem Bh.ty {s : Sl} {t : TypeId} {sz : Nat} {vs : List Value} (h : Bh w s t sz vs) (u : Upd S w w') (hS : Fb w S t) : Bh w' s t sz vs :=
 h.upd u λ k hk hSk => by obtain ⟨c, fr, hc⟩ := h.Ep hk; exact hS k hSk c fr hc
theorem Ap.ty {B : Nat} {s : Sl} {t : TypeId} {sz : Nat} {vs : List Value} (h : Ap w B s t sz vs) (u : Upd S w w') (hS : Fb w S t) : Ap w' B s t sz vs :=
 h.upd u λ k _ hk hSk => by obtain ⟨c, fr, hc⟩ := h.in.Ep hk; exact hS k hSk c fr hc
theorem Fb.blk {s : Sl} {t t' : TypeId} {sz : Nat} {vs : List Value} (h : Bh w s t sz vs) (ht : t ≠ t') : Fb w s.blk t' := by
 intro k hk c fr hc
 obtain ⟨c', fr', hc'⟩ := h.Ep hk
 rw [hc] at hc'; cases hc'; exact ht rfl
theorem Fb.box {b : Nat} {t t' : TypeId} {c : Array Value} {fr : Nat × Nat} (h : w.heap[b]? = some (.cells c t fr)) (ht : t ≠ t') : Fb w (λ k => k = b) t' := by
 rintro k rfl c' fr' hc
 rw [hc] at h; cases h; exact ht rfl
end
section
variable {w w' : World} {P : Program}
theorem As8 {ts e : TypeId} {ie : Inf} {z : Value} (hts : P.underlying ts = some (.slice e)) (he : Ba P e ie) (hz : ie.zero = some z) (hzs : z.cells.size = ie.size) {n : Int} {K : Sl -> Wp} (h0 : 0 <= n) (hn : n * ie.bytes <= 2 ^ 48) (hn2 : n <= 9223372036854775807)
  (hK : ∀ b w' c, w'.heap[b]? = some (.cells c e (0, 0)) -> c.size = n.toNat * ie.size -> (∀ i, i < c.size -> c[i]? = z.cells[i % ie.size]?) -> Ext w w' -> b = w.heap.size -> K ⟨some (at0 b), n.toNat, n.toNat⟩ w') :
  Dz P (.one (.one .sl)) (Instr.makeSlice ts (.int .i64 n) (.int .i64 n)) K w := by
 obtain ⟨j, hj, hs, hb, hz'⟩ := he.Bj1
 have hw : IntKind.i64.wrap n = n := IntWalk.i64_in _ ⟨by omega, hn2⟩
 have hu := λ W => run_underlying hts W
 have hti : ∀ W, (typeInfo e).run P W = .ok j W := λ W => run_typeInfo W hj
 have hsz : ∀ W, (sizeOf e).run P W = .ok ie.size W := λ W => he.Gi W
 have hzv : ∀ W, (zeroValue e).run P W = .ok z W := λ W => he.Oa W hz
 have hlarge : (decide (n < 0) || decide ((j.bytes : Int) * n > 2 ^ 48)) = false := by
  rw [hb, Int.mul_comm]
  simp only [Bool.or_eq_false_iff, decide_eq_false_iff_not]
  omega
 obtain ⟨c, hc⟩ : ∃ c : Array Value, c = (Array.range (n.toNat * ie.size)).map (λ k => (if n.toNat * ie.size = 0 then (#[] : Array Value) else z.cells)[k % (if n.toNat * ie.size = 0 then (#[] : Array Value) else z.cells).size]!) := ⟨_, rfl⟩
 refine ⟨⟨some (at0 w.heap.size), n.toNat, n.toNat⟩, w.alloc (.cells c e), ?_, hK _ _ c (heap_alloc w _) (by rw [hc]; simp) (λ i hi => ?_) (Ext.alloc w _) rfl⟩
 ·have hlt : ¬ n < 0 := by omega
  have hgt : ¬ ((j.bytes : Int) * n > 2 ^ 48) := by rw [hb, Int.mul_comm]; omega
  have hgt2 : ¬ (281474976710656 < (j.bytes : Int) * n) := by omega
  by_cases hz0 : n.toNat * ie.size = 0
  ·simp only [hz0, if_true] at hc
   simp only [Instr.makeSlice, Sem.run_bind, hu, Result.andThen_ok, asInt, asIntOf, Sem.run_pure, hti, hw, hlarge, Bool.false_or, decide_eq_true_eq, hlt, hsz]
   simp [hgt2, run_askRoom, hsz, hz0, newRow, newObj, Sem.run, World.alloc_eq, hc, RTy.val, Ty.val, Cell.val]
  ·simp only [hz0, if_false] at hc
   simp only [Instr.makeSlice, Sem.run_bind, hu, Result.andThen_ok, asInt, asIntOf, Sem.run_pure, hti, hw, hlarge, Bool.false_or, decide_eq_true_eq, hlt, hsz]
   simp [hgt2, run_askRoom, hsz, hz0, hzv, newRow, newObj, Sem.run, World.alloc_eq, hc, RTy.val, Ty.val, Cell.val]
 ·rw [hc] at hi ⊢
  have hi : i < n.toNat * ie.size := by simpa using hi
  have hz0 : ¬ n.toNat * ie.size = 0 := by omega
  have hpos : 0 < ie.size := Nat.pos_of_ne_zero λ h => hz0 (by rw [h]; simp)
  have hm : i % ie.size < z.cells.size := by rw [hzs]; exact Nat.mod_lt _ hpos
  simp only [if_neg hz0]
  have hg : z.cells[i % ie.size]! = z.cells[i % ie.size] := getElem!_pos z.cells _ hm
  rw [Array.getElem?_map, Array.getElem?_eq_getElem (by simpa using hi), Array.getElem?_eq_getElem hm]
  simp only [Option.map_some, Array.getElem_range, hzs, hg]
theorem Co3 {ts xt rt e : TypeId} {sz : Nat} (hts : P.underlying ts = some (.slice e)) (hsz : ∀ w, (sizeOf e).run P w = .ok sz w) {b off dl dc : Nat} {c : Array Value} {t : TypeId} {x : Sl} {us : List Value} {K : Int -> Wp}
  (hb : w.heap[b]? = some (.cells c t (0, 0))) (hfit : off + us.length <= c.size) (hx : SlX w x sz us) (hle : x.len <= dl) (h1 : ∀ v ∈ us, Ez v = true)
  (hK : ∀ w', w'.heap[b]? = some (.cells (setRow c off us) t (0, 0)) -> Upd (λ k => k = b) w w' -> w'.heap.size = w.heap.size -> K x.len w') :
  Dz P (.one (.one (.int .i64))) (Builtin.copy_ #[ts, xt] rt #[.slice (some ⟨b, off, none⟩) dl dc, .slice x.a x.len x.cap]) K w := by
 obtain ⟨w1, hr, hu, hb1, hz⟩ := Ju P us b off 0 c t w h1 hb (by omega)
 refine ⟨x.len, w1, ?_, hK w1 (by simpa using hb1) hu hz⟩
 have hmin : Nat.min x.len dl = x.len := Nat.min_eq_left hle
 have hfx := Es P hx
 simp [Builtin.copy_, run_underlying hts, Builtin.lenOf, hsz, hmin, hfx, hr, goInt, RTy.val, Ty.val, Cell.val]
end
section
variable {w w' : World} {P : Program}
theorem Ax0 (P : Program) {ts xt rt : TypeId} {e xe : TypeId} {i : TypeInfo} {z : Value} (hts : P.underlying ts = some (.slice e)) (hxt : P.underlying xt = some (.slice xe)) (hi : P.info? e = some i) (hz : i.zero = some z)
  {B : Nat} {s x : Sl} {vs us : List Value} (hs : Ap w B s e i.size vs) (hx : SlX w x i.size us) (h1 : ∀ v ∈ us, Ez v = true) (hzl : z.cells.size = i.size)
  (hroom : (s.len + x.len + (s.len + x.len) / 4 + 512) * i.bytes <= 2 ^ 48) (hb0 : 0 < i.bytes) (hB : B <= w.heap.size) :
  ∃ s' w', (Builtin.append_ #[ts, xt] rt #[.slice s.a s.len s.cap, .slice x.a x.len x.cap]).run P w = .ok (.slice s'.a s'.len s'.cap) w' /\ Ap w' B s' e i.size (vs ++ us) /\ s'.len = s.len + x.len /\
   Upd (λ k => s.blk k) w w' /\ (∀ k, s'.blk k -> s.blk k \/ w.heap.size <= k) /\ (Ext w w' \/ ∃ b off c, s.a = some ⟨b, off, none⟩ /\ w.heap[b]? = some (.cells c e (0, 0)) /\ w'.heap[b]? = some (.cells (setRow c (off + s.len * i.size) us) e (0, 0))) := by
 have hfx := Es P hx
 have hfs := Fj P hs.in
 have hu1 := λ W => run_underlying hts W
 have hu2 := λ W => run_underlying hxt W
 have hsz : ∀ W, (sizeOf e).run P W = .ok i.size W := λ W => by simp [sizeOf, run_typeInfo W hi]
 have hti : ∀ W, (typeInfo e).run P W = .ok i W := λ W => run_typeInfo W hi
 have hzv : ∀ W, (zeroValue e).run P W = .ok z W := λ W => by simp [zeroValue, run_typeInfo W hi, hz]
 have hlen := hs.len
 have hxlen := hx.len
 by_cases hneed : s.len + x.len <= s.cap
 ·
  rcases hs.at_ with ⟨ha, hc⟩ | ⟨b, off, c, ha, hB', hb, hcap, hv⟩
  ·have hl0 : x.len = 0 := by omega
   have hsl : s.len = 0 := by omega
   have hus : us = [] := by rw [hl0, Nat.zero_mul] at hxlen; exact List.length_eq_zero_iff.1 hxlen
   refine ⟨⟨none, 0, s.cap⟩, w, ?_, ⟨by simp [hus, hlen, hsl], by simp, .inl ⟨rfl, hc⟩⟩, by simp [hl0, hsl], Upd.refl _ _, (λ k hk => by obtain ⟨p, hp, _⟩ := hk; cases hp), .inl (Ext.refl w)⟩
   have hfx' : (Builtin.firstCells i.size 0 (.slice x.a 0 x.cap)).run P w = .ok #[] w := by rw [hl0, hus] at hfx; exact hfx
   simp [Builtin.append_, hu1, hu2, hsz, Builtin.lenOf, hl0, hsl, ha, hfx', hc]
  ·have hfit : s.len * i.size + us.length <= s.cap * i.size := by
    rw [hxlen, ← Nat.add_mul]; exact Nat.mul_le_mul_right _ hneed
   obtain ⟨w1, hr, hu, hb1, _⟩ := Ju P us b (off + s.len * i.size) 0 c e w h1 hb (by omega)
   refine ⟨⟨s.a, s.len + x.len, s.cap⟩, w1, ?_, ⟨by simp [hlen, hxlen, Nat.add_mul], hneed, .inr ⟨b, off, setRow c (off + s.len * i.size + 0) us, ha, hB', hb1, by rw [size_setRow]; exact hcap, ?_⟩⟩, rfl, hu.mono λ k _ hk => ⟨_, ha, hk.symm⟩, λ k hk => .inl hk, .inr ⟨b, off, c, ha, hb, hb1⟩⟩
   ·simp [Builtin.append_, hu1, hu2, hsz, Builtin.lenOf, hneed, hfx, ha, addr_add, hr]
   ·intro j v hj
    rw [Nat.add_zero]
    by_cases hjl : j < vs.length
    ·rw [List.getElem?_append_left hjl] at hj
     rw [Jf _ _ _ _ (by omega)]; exact hv j v hj
    ·rw [List.getElem?_append_right (by omega)] at hj
     have hlt := (List.getElem?_eq_some_iff.1 hj).1
     rw [show off + j = off + s.len * i.size + (j - vs.length) by omega, Sm _ _ _ _ (by omega) hlt]
     exact hj
 ·
  have hle := nextslicecap_le (need := s.len + x.len) (old := s.cap) (by omega)
  have hroom' : ¬ (Builtin.nextslicecap (s.len + x.len) s.cap * i.bytes > 2 ^ 48) := by
   have := Nat.mul_le_mul_right i.bytes hle
   omega
  obtain ⟨nc, hnc, hncl⟩ : ∃ nc, (Question.appendCap (s.len + x.len) s.cap e).cut (w.tape w.drawn (Question.appendCap (s.len + x.len) s.cap e)) = nc /\ s.len + x.len <= nc := ⟨_, rfl, by simp only [Question.cut]; omega⟩
  have hfx' : (Builtin.firstCells i.size x.len (.slice x.a x.len x.cap)).run P w.drew = .ok us.toArray w.drew := Es P (hx.ext (Ext.drew w))
  have hfs' : (Builtin.firstCells i.size s.len (.slice s.a s.len s.cap)).run P w.drew = .ok vs.toArray w.drew := Fj P (hs.in.ext (Ext.drew w))
  let row := vs.toArray ++ us.toArray ++ Builtin.zeroCells z.cells (nc - (s.len + x.len))
  have hrow : row.size = nc * i.size := by
   simp only [row, Array.size_append, List.size_toArray, Builtin.zeroCells, Array.size_map, Array.size_range, hzl, hlen, hxlen]
   rw [← Nat.add_mul, ← Nat.add_mul]
   congr 1; omega
  have hext : Ext w (w.drew.alloc (.cells row e)) := (Ext.drew w).trans (Ext.alloc w.drew _)
  refine ⟨⟨some ⟨w.heap.size, 0, none⟩, s.len + x.len, nc⟩, w.drew.alloc (.cells row e), ?_, ⟨by simp [hlen, hxlen, Nat.add_mul], hncl, .inr ⟨w.heap.size, 0, row, rfl, hB, heap_alloc w.drew _, by rw [hrow]; simp, ?_⟩⟩, rfl,
   (Upd.Et hext), (λ k hk => .inr (by obtain ⟨p, hp, rfl⟩ := hk; cases hp; exact Nat.le_refl _)), .inl hext⟩
  ·have hb0' : ¬ i.bytes = 0 := by omega
   simp [Builtin.append_, hu1, hu2, hsz, Builtin.lenOf, hneed, hti, hb0', hroom', run_askRoom, hfs', hfx', hzv, newRow, newObj, Sem.run, Question.forced, hnc, row]
  ·intro j v hj
   rw [Nat.zero_add]
   have hlt := (List.getElem?_eq_some_iff.1 hj).1
   have : row[j]? = (vs ++ us)[j]? := by
    simp only [row]
    rw [Array.getElem?_append_left (by simpa using hlt)]
    simp
   rw [this]; exact hj
end
structure Key (κ : Type) [BEq κ] [LawfulBEq κ] where
 kv : κ -> Value
 desc : TypeDesc
 same : ∀ a b : κ, Instr.sameNow desc (kv a) (kv b) = some (a == b)
 check : ∀ (P : Program) (kt : TypeId) (b : Bool) (n : Nat) (a : κ) (w : World), P.underlying kt = some desc -> (Instr.checkKey b (n + 1) kt (kv a)).run P w = .ok () w
 bits : ∀ n a, Instr.sameBits n (kv a) (kv a) = true
instance Ck4 : LawfulBEq ByteArray where
 eq_of_beq {a b} h := by
  cases a; cases b
  have h : ByteArray.beq _ _ = true := h
  simp only [ByteArray.beq] at h
  simpa using h
 rfl {a} := by
  cases a
  show ByteArray.beq _ _ = true
  simp [ByteArray.beq]
section
variable {S S' : Nat -> Prop} {w w' : World} {P : Program} {κ : Type} [BEq κ] [LawfulBEq κ] [DecidableEq κ] {k_ : Key κ}
structure Cc2 (k_ : Key κ) (P : Program) (t : TypeId) (z : Value) : Prop where
 ok : ∃ kt et, P.underlying t = some (.map kt et) /\ P.underlying kt = some k_.desc /\ ∀ w, (zeroValue et).run P w = .ok z w
theorem Cc2.of {t kt et : TypeId} {i ik ie : Inf} (h : Ba P t i) (hk : Ba P kt ik) (he : Ba P et ie) (hd : i.desc = .map kt et) (hkd : ik.desc = k_.desc) {z : Value} (hz : ie.zero = some z) : Cc2 k_ P t z :=
 have _d := (inferInstance : DecidableEq κ)
 ⟨kt, et, by rw [h.und, hd], by rw [hk.und, hkd], λ w => he.Oa w hz⟩
end
abbrev bv (l : List UInt8) : List Value := l.map λ b => .int .u8 (b.toNat : Int)
theorem Co8 (l : List UInt8) : ∀ v ∈ bv l, Ez v = true := by
 intro v hv
 obtain ⟨x, _, rfl⟩ := List.mem_map.1 hv
 rfl
section
variable {S S' : Nat -> Prop} {w w' : World} {P : Program}
theorem Au8 {t : TypeId} {ms : Array (String × TypeId)} (hi : P.underlying t = some (.interface ms)) (n : Nat) (d : TypeId) (v : Value) (w : World) : (Op.equalIn (n + 1) t (.iface d v) .nilIface).run P w = .ok false w := by
 simp [Op.equalIn, run_underlying hi]
theorem Bp8 {t : TypeId} {ms : Array (String × TypeId)} (hi : P.underlying t = some (.interface ms)) (d : TypeId) (v : Value) (w : World) : (Op.equalIn Op.maxDepth t (.iface d v) .nilIface).run P w = .ok false w := Au8 hi _ d v w
theorem Ak9 {t : TypeId} {o1 : Operand} {d : TypeId} {v : Value} {K : Bool -> Wp} (h : K false w) (hi : ∃ ms, P.underlying t = some (.interface ms)) : rdB P (do eqGuard .eql t o1 (.const .nilIface) (.iface d v) .nilIface; binOp .eql t (.iface d v) .nilIface : Sem Value) K w := by
 obtain ⟨ms, hi⟩ := hi
 refine ⟨false, ?_, h⟩
 simp [eqGuard, binOp, run_underlying hi, Op.equal, Bp8 hi]
theorem Be0 {t : TypeId} {ps rs : Array TypeId} {vr : Bool} (hu : P.underlying t = some (.func ps rs vr)) (g : Fn) (a b : Array Value) (n : Nat) : (Op.equalIn (n + 1) t (.func g a b) .nilFunc).run P w = .ok false w := by
 simp [Op.equalIn, run_underlying hu]
theorem Au7 {t : TypeId} {ps rs : Array TypeId} {vr : Bool} (hu : P.underlying t = some (.func ps rs vr)) (n : Nat) : (Op.equalIn (n + 1) t .nilFunc .nilFunc).run P w = .ok true w := by
 simp [Op.equalIn, run_underlying hu]
end
end Go.Vx
namespace Go.Proofs.YtolhlldgnfbemaaGreatDoor
namespace Cdc
abbrev Bs := List UInt8
inductive Enc where
 | u8 | le | be | l1
 deriving DecidableEq
def Enc.num : Enc -> Int
 | .u8 => 1
 | .le => 2
 | .be => 3
 | .l1 => 4
def Em (c : Nat) : Nat × Nat × Nat :=
 if c < 128 then (1, 0, 0) else if c < 194 then (0, 0, 0) else if c < 224 then (2, 128, 191) else if c = 224 then (3, 160, 191) else if c = 237 then (3, 128, 159)
 else if c < 240 then (3, 128, 191) else if c = 240 then (4, 144, 191) else if c < 244 then (4, 128, 191) else if c = 244 then (4, 128, 143) else (0, 0, 0)
def cont (c : UInt8) : Bool := c.toNat / 64 == 2
def more : Nat -> Bs -> Nat
 | n + 1, b :: r => if cont b then more n r + 1 else 0
 | _, _ => 0
def rowOf : Bs -> Nat × Nat
 | [] => (0, 0)
 | b :: r => if (Em b.toNat).1 < 2 then ((Em b.toNat).1, (Em b.toNat).1) else
  match r with
  | [] => (1, (Em b.toNat).1)
  | c :: r' => if c.toNat < (Em b.toNat).2.1 \/ (Em b.toNat).2.2 < c.toNat then (1, (Em b.toNat).1) else (2 + more ((Em b.toNat).1 - 2) r', (Em b.toNat).1)
def lead (n c : Nat) : Nat := if n = 2 then c % 32 else if n = 3 then c % 16 else if n = 4 then c % 8 else c
def rest (a : Nat) (l : Bs) : Nat := l.foldl (λ a c => a * 64 + c.toNat % 64) a
def nx8 : Bs -> Int × Nat
 | [] => (0, 0)
 | b :: r => if (rowOf (b :: r)).2 = 0 \/ (rowOf (b :: r)).1 < (rowOf (b :: r)).2 then (-1 - (b.toNat : Int), 1)
  else ((rest (lead (rowOf (b :: r)).2 b.toNat) (r.take ((rowOf (b :: r)).2 - 1)) : Nat), (rowOf (b :: r)).2)
def un (be : Bool) (a b : UInt8) : Nat := if be then b.toNat + a.toNat * 256 else a.toNat + b.toNat * 256
def Ic (be : Bool) : Bs -> Int × Nat
 | [] => (0, 0)
 | [b] => (-1 - (b.toNat : Int), 1)
 | a :: b :: r => if un be a b / 1024 = 54 then
   match r with
   | c :: d :: _ => if un be c d / 1024 = 55 then (65536 + ((un be a b % 1024 * 1024 + un be c d % 1024 : Nat) : Int), 4) else ((un be a b : Nat), 2)
   | _ => ((un be a b : Nat), 2)
  else ((un be a b : Nat), 2)
def nx1 : Bs -> Int × Nat
 | [] => (0, 0)
 | b :: _ => ((b.toNat : Int), 1)
def nx : Enc -> Bs -> Int × Nat
 | .u8, l => nx8 l
 | .le, l => Ic false l
 | .be, l => Ic true l
 | .l1, l => nx1 l
theorem Ao1 (c : Nat) : (Em c).1 <= 4 := by
 unfold Em; repeat' split
 all_goals simp
theorem Al9 : ∀ (n : Nat) (l : Bs), more n l <= n /\ more n l <= l.length
 | 0, l => by cases l <;> simp [more]
 | n + 1, [] => by simp [more]
 | n + 1, b :: r => by
  have := Al9 n r
  simp only [more]
  split <;> simp <;> omega
theorem Ag8 : ∀ (n : Nat) (l : Bs) (k : Nat), more n (l.take k) = min k (more n l)
 | 0, l, k => by cases l <;> cases k <;> simp [more]
 | n + 1, [], k => by simp [more]
 | n + 1, b :: r, 0 => by simp [more]
 | n + 1, b :: r, k + 1 => by
  simp only [List.take_succ_cons, more]
  split
  ·rw [Ag8 n r k]; omega
  ·simp
theorem Kr (b : UInt8) (r : Bs) : (rowOf (b :: r)).2 = (Em b.toNat).1 := by
 simp only [rowOf]
 repeat' split
 all_goals rfl
theorem X4 (b : UInt8) (r : Bs) : (rowOf (b :: r)).1 <= (b :: r).length /\ (rowOf (b :: r)).1 <= max 1 (rowOf (b :: r)).2 := by
 simp only [rowOf]
 split
 ·simp; omega
 ·split
  ·simp; omega
  ·rename_i c r'
   split
   ·simp; omega
   ·have := Al9 ((Em b.toNat).1 - 2) r'
    simp; omega
theorem Ba0 (b : UInt8) (r : Bs) (k : Nat) : (rowOf (b :: r.take k)).1 <= (rowOf (b :: r)).1 /\ ((rowOf (b :: r)).1 <= k + 1 -> (rowOf (b :: r.take k)).1 = (rowOf (b :: r)).1) := by
 simp only [rowOf]
 split
 ·simp
 ·rename_i h2
  cases r with
  | nil => simp
  | cons c r' =>
   cases k with
   | zero =>
    simp only [List.take_zero]
    split
    ·simp
    ·simp; omega
   | succ k =>
    simp only [List.take_succ_cons]
    split
    ·simp
    ·simp only [Ag8]; omega
theorem Y7 (b : UInt8) (r : Bs) : 1 <= (nx8 (b :: r)).2 /\ (nx8 (b :: r)).2 <= (b :: r).length /\ (nx8 (b :: r)).2 <= 4 := by
 have h1 := X4 b r
 have h2 := Kr b r
 have h3 := Ao1 b.toNat
 simp only [nx8]
 split
 ·simp
 ·simp only; omega
theorem Bv2 (b : UInt8) (r : Bs) (k : Nat) (h : (nx8 (b :: r)).2 <= k + 1) : nx8 (b :: r.take k) = nx8 (b :: r) := by
 have h1 := Ba0 b r k
 have h2 := Kr b r
 have h3 := Kr b (r.take k)
 have h4 := X4 b r
 simp only [nx8] at h ⊢
 rw [h3, ← h2]
 split at h
 ·rename_i hc
  have : (rowOf (b :: r)).2 = 0 \/ (rowOf (b :: List.take k r)).1 < (rowOf (b :: r)).2 := by omega
  rw [if_pos this, if_pos hc]
 ·rename_i hc
  simp only at h
  rw [if_neg hc, if_neg (by omega), List.take_take, Nat.min_eq_left (by omega)]
theorem Ag3 (be : Bool) (b : UInt8) (r : Bs) : 1 <= (Ic be (b :: r)).2 /\ (Ic be (b :: r)).2 <= (b :: r).length /\ (Ic be (b :: r)).2 <= 4 := by
 cases r with
 | nil => simp [Ic]
 | cons c r =>
  simp only [Ic]
  split
  ·split
   ·split <;> simp
   ·simp
  ·simp
theorem Ag2 (be : Bool) (b : UInt8) (r : Bs) (k : Nat) (h : (Ic be (b :: r)).2 <= k + 1) : Ic be (b :: r.take k) = Ic be (b :: r) := by
 cases r with
 | nil => simp [Ic]
 | cons c r =>
  have hs : 1 < (Ic be (b :: c :: r)).2 := by
   simp only [Ic]
   split
   ·split
    ·split <;> simp
    ·simp
   ·simp
  obtain ⟨k, rfl⟩ : ∃ k', k = k' + 1 := ⟨k - 1, by omega⟩
  simp only [List.take_succ_cons, Ic] at h ⊢
  split
  ·rename_i hu
   rw [if_pos hu] at h
   match r, k with
   | [], k => simp
   | [_], 0 => simp
   | [_], k + 1 => simp
   | c :: d :: r, 0 =>
    simp only at h ⊢
    split at h
    ·simp at h
    ·rename_i h55; simp [h55]
   | c :: d :: r, 1 =>
    simp only at h ⊢
    split at h
    ·simp at h
    ·rename_i h55; simp [h55]
   | c :: d :: r, k + 2 => simp
  ·rfl
theorem Rz (e : Enc) {l : Bs} (h : l ≠ []) : 1 <= (nx e l).2 /\ (nx e l).2 <= l.length /\ (nx e l).2 <= 4 := by
 cases l with
 | nil => exact absurd rfl h
 | cons b r =>
  cases e with
  | u8 => exact Y7 b r
  | le => exact Ag3 _ b r
  | be => exact Ag3 _ b r
  | l1 => simp [nx, nx1]
theorem Ce8 (e : Enc) {l : Bs} {k : Nat} (h : l ≠ []) (hk : (nx e l).2 <= k) : nx e (l.take k) = nx e l := by
 cases l with
 | nil => exact absurd rfl h
 | cons b r =>
  have hs := (Rz e h).1
  obtain ⟨k, rfl⟩ : ∃ k', k = k' + 1 := ⟨k - 1, by omega⟩
  rw [List.take_succ_cons]
  cases e with
  | u8 => exact Bv2 b r k hk
  | le => exact Ag2 _ b r k hk
  | be => exact Ag2 _ b r k hk
  | l1 => rfl
def ats (e : Enc) (l : Bs) : List (Int × Nat) :=
 if h : l = [] then [] else nx e l :: ats e (l.drop (nx e l).2)
termination_by l.length
decreasing_by
  have h1 := Rz e h
  have : 0 < l.length := List.length_pos_iff.2 h
  simp only [List.length_drop]; omega
theorem Ir (e : Enc) : ats e [] = [] := by rw [ats]; simp
theorem Jy (e : Enc) {l : Bs} (h : l ≠ []) : ats e l = nx e l :: ats e (l.drop (nx e l).2) := by rw [ats]; simp [h]
def szs (l : List (Int × Nat)) : Nat := (l.map (·.2)).sum
theorem O6 : szs [] = 0 := rfl
theorem Ia (x : Int × Nat) (l : List (Int × Nat)) : szs (x :: l) = x.2 + szs l := by simp [szs]
theorem Bj (l m : List (Int × Nat)) : szs (l ++ m) = szs l + szs m := by simp [szs]
theorem Cd1 (e : Enc) : ∀ (n : Nat) (l : Bs), l.length <= n -> szs (ats e l) = l.length := by
 intro n
 induction n with
 | zero => intro l h; obtain rfl : l = [] := List.length_eq_zero_iff.1 (by omega); simp [Ir, szs]
 | succ n ih =>
  intro l h
  by_cases hl : l = []
  ·subst hl; simp [Ir, szs]
  ·have h1 := Rz e hl
   have : 0 < l.length := List.length_pos_iff.2 hl
   rw [Jy e hl, Ia, ih _ (by simp only [List.length_drop]; omega), List.length_drop]
   omega
theorem He (e : Enc) (l : Bs) : szs (ats e l) = l.length := Cd1 e _ l (Nat.le_refl _)
theorem Tf (e : Enc) : ∀ (j : Nat) (l : Bs), ats e (l.take (szs ((ats e l).take j))) = (ats e l).take j /\ ats e (l.drop (szs ((ats e l).take j))) = (ats e l).drop j := by
 intro j
 induction j with
 | zero => intro l; simp [szs, Ir]
 | succ j ih =>
  intro l
  by_cases hl : l = []
  ·subst hl; simp [Ir]
  ·have h1 := Rz e hl
   obtain ⟨g1, g2⟩ := ih (l.drop (nx e l).2)
   rw [Jy e hl]
   simp only [List.take_succ_cons, List.drop_succ_cons, Ia]
   generalize hm : szs ((ats e (l.drop (nx e l).2)).take j) = m at g1 g2 ⊢
   have hne : l.take ((nx e l).2 + m) ≠ [] := by
    have : 0 < l.length := List.length_pos_iff.2 hl
    intro hc
    have := congrArg List.length hc
    rw [List.length_take, List.length_nil] at this; omega
   constructor
   ·rw [Jy e hne, Ce8 e hl (by omega), List.drop_take]
    have : (nx e l).2 + m - (nx e l).2 = m := by omega
    rw [this, g1]
   ·rw [← List.drop_drop, g2]
theorem Bk7 (e : Enc) : ∀ (n : Nat) (l : Bs), l.length <= n -> ∀ x ∈ ats e l, 1 <= x.2 /\ x.2 <= 4 := by
 intro n
 induction n with
 | zero => intro l h x hx; obtain rfl : l = [] := List.length_eq_zero_iff.1 (by omega); rw [Ir] at hx; cases hx
 | succ n ih =>
  intro l h x hx
  by_cases hl : l = []
  ·subst hl; rw [Ir] at hx; cases hx
  ·have h1 := Rz e hl
   have : 0 < l.length := List.length_pos_iff.2 hl
   rw [Jy e hl] at hx
   rcases List.mem_cons.1 hx with rfl | hx
   ·exact ⟨h1.1, h1.2.2⟩
   ·exact ih _ (by simp only [List.length_drop]; omega) x hx
end Cdc
end Go.Proofs.YtolhlldgnfbemaaGreatDoor
