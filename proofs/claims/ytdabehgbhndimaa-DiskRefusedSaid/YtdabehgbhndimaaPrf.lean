/- A refused step is as if it had not been: plainly. Conditions: none. -/
import Derived.Test.YtdabehgbhndimaaPrm
set_option linter.unusedSimpArgs false
set_option linter.unusedVariables false
namespace Go.Proofs.Ytdabehgbhndimaa
open Go Go.Vx Dsk
section
variable {D D' : Dk} {N : Nat} {p : Int → Option Fault} {s : Int} {α : Type}

/-- with another plan and another number of steps -/
def plus (p : Int → Option Fault) (s : Int) (E : Dk) : Dk := { E with plan := p, steps := s }
def Free (act : Dk → Dk × α) : Prop := ∀ p s E, act (plus p s E) = (plus p s (act E).1, (act E).2)
theorem find_plus (E : Dk) (n : Nm) : Dsk.find (plus p s E) n = Dsk.find E n := rfl
theorem seen_plus (E : Dk) : (plus p s E).seen = E.seen := rfl
theorem used_plus (E : Dk) (o : Option Nat) : usedBut (plus p s E) o = usedBut E o := rfl
theorem room_plus (E : Dk) : room (plus p s E) = room E := rfl
theorem ite2 {c d : Prop} [Decidable c] [Decidable d] {x y : Dk × α} {x' y' : Dk × α} (h : c ↔ d) (h1 : c → x = (plus p s x'.1, x'.2)) (h2 : ¬ c → y = (plus p s y'.1, y'.2)) : (if c then x else y) = (plus p s (if d then x' else y').1, (if d then x' else y').2) := by
  by_cases hc : c
  · rw [if_pos hc, if_pos (h.1 hc)]; exact h1 hc
  · rw [if_neg hc, if_neg fun hd => hc (h.2 hd)]; exact h2 hc
theorem free_mk (n : Nm) : Free (mkR n) := fun p s E =>
  ite2 Iff.rfl (fun _ => rfl) fun _ => ite2 Iff.rfl (fun _ => rfl) fun _ => ite2 Iff.rfl (fun _ => rfl) fun _ => rfl
theorem free_ap (n : Nm) (b : List UInt8) : Free (apR n b) := fun p s E => by
  unfold apR
  simp only [find_plus, room_plus]
  cases Dsk.find E n with
  | mk o e => cases o <;> rfl
theorem free_sy (n : Nm) : Free (syR n) := fun p s E => by
  unfold syR
  simp only [find_plus]
  cases Dsk.find E n with
  | mk o e => cases o <;> rfl
theorem free_mv (a b : Nm) : Free (mvR a b) := fun p s E => by
  refine ite2 Iff.rfl (fun _ => rfl) fun _ => ?_
  rw [find_plus]
  cases Dsk.find E a with
  | mk o e =>
    cases o with
    | none => rfl
    | some i => exact ite2 Iff.rfl (fun _ => rfl) fun _ => rfl
theorem free_rm (n : Nm) : Free (rmR n) := fun p s E => by
  unfold rmR
  simp only [find_plus]
  cases Dsk.find E n with
  | mk o e => cases o <;> rfl
theorem free_rd (n : Nm) : Free (rdR n) := fun p s E => by
  unfold rdR
  simp only [find_plus]
  cases Dsk.find E n with
  | mk o e => cases o <;> rfl
theorem free_st (n : Nm) : Free (stR n) := fun p s E => by
  unfold stR
  simp only [find_plus]
  cases Dsk.find E n with
  | mk o e => cases o <;> rfl
theorem free_settle : Free fun D => (Dsk.settle D, (0 : Int)) := fun _ _ _ => rfl
theorem free_put (n : Nm) (b : List UInt8) : Free fun D => putR D n b := fun p s E => by
  refine ite2 Iff.rfl (fun _ => rfl) fun _ => ite2 Iff.rfl (fun _ => rfl) fun _ => ite2 Iff.rfl (fun _ => rfl) fun _ => ?_
  rw [seen_plus]
  cases E.seen n <;> rfl
theorem free_u {f : Dk → Dk × Int} (h : Free f) : Free (u f) := fun p s E => by unfold u; rw [h p s E]

/-- a call's own act -/
noncomputable def own (o : DOp) : Dk → Dk × Int :=
  if o.kind = 1 then mkR o.name else
  if o.kind = 2 then fun D => ((apR o.name o.b D).1, (apR o.name o.b D).2.1) else
  if o.kind = 3 then syR o.name else
  if o.kind = 4 then fun D => (Dsk.settle D, 0) else
  if o.kind = 5 then mvR o.name o.to else
  if o.kind = 6 then rmR o.name else
  if o.kind = 7 then fun D => (D, (rdR o.name D).2.1) else
  fun D => (D, (stR o.name D).2.1)
theorem ite_free {c : Prop} [Decidable c] {x y : Dk → Dk × α} (h1 : Free x) (h2 : Free y) : Free (if c then x else y) := by split <;> assumption
theorem free_own (o : DOp) : Free (own o) := by
  refine ite_free (free_mk _) <| ite_free (fun p s E => ?_) <| ite_free (free_sy _) <| ite_free free_settle <| ite_free (free_mv _ _) <| ite_free (free_rm _) <| ite_free (fun p s E => ?_) fun p s E => ?_
  · rw [free_ap]
  · rw [free_rd]
  · rw [free_st]
def code (r : Dk × Int) : Dk × Bool := (r.1, decide (r.2 ≠ 0))
theorem step_none (hu : D.down = false) (hp : D.plan (D.steps + 1) = none) {a : α} {act : Dk → Dk × Int × α} {part : Option (Int → Dk → Dk × Int × α)} : Dsk.step D a act part = act { D with steps := D.steps + 1 } := by
  unfold Dsk.step
  rw [if_neg (by rw [hu]; simp), hp]
theorem step_refused (hu : D.down = false) {f : Fault} (hp : D.plan (D.steps + 1) = some f) (hf : f.kind = 1) {a : α} {act : Dk → Dk × Int × α} {part : Option (Int → Dk → Dk × Int × α)} : Dsk.step D a act part = ({ D with steps := D.steps + 1 }, 160, a) := by
  unfold Dsk.step
  rw [if_neg (by rw [hu]; simp), hp]
  show faulty _ _ _ _ _ = _
  unfold faulty
  rw [if_pos hf]
theorem code_if {c : Prop} [Decidable c] {f g : Dk → Dk × Int} {x : Dk} : code ((if c then f else g) x) = if c then code (f x) else code (g x) := by split <;> rfl
/-- a call without a fault -/
theorem do_own {o : DOp} (h1 : 1 ≤ o.kind) (h8 : o.kind ≤ 8) (hu : D.down = false) (hp : D.plan (D.steps + 1) = none) : doOp o D = code (own o { D with steps := D.steps + 1 }) := by
  unfold doOp own callMake callAppend callSync callSyncDir callRename callRemove callRead callStamp
  simp only [step_none hu hp]
  have : ¬ o.kind = 9 := by omega
  have : ¬ o.kind = 10 := by omega
  have : ¬ o.kind = 11 := by omega
  have : ¬ o.kind = 12 := by omega
  simp only [code_if]
  by_cases h : o.kind = 1
  · rw [if_pos h, if_pos h]; rfl
  rw [if_neg h, if_neg h]
  by_cases h : o.kind = 2
  · rw [if_pos h, if_pos h]; rfl
  rw [if_neg h, if_neg h]
  by_cases h : o.kind = 3
  · rw [if_pos h, if_pos h]; rfl
  rw [if_neg h, if_neg h]
  by_cases h : o.kind = 4
  · rw [if_pos h, if_pos h]; rfl
  rw [if_neg h, if_neg h]
  by_cases h : o.kind = 5
  · rw [if_pos h, if_pos h]; rfl
  rw [if_neg h, if_neg h]
  by_cases h : o.kind = 6
  · rw [if_pos h, if_pos h]; rfl
  rw [if_neg h, if_neg h]
  by_cases h : o.kind = 7
  · rw [if_pos h, if_pos h]
    unfold er code
    dsimp only
    rw [rd_fst]
  rw [if_neg h, if_neg h]
  have h : o.kind = 8 := by omega
  rw [if_pos h]
  unfold er code
  dsimp only
  rw [st_fst]
theorem do_refused {o : DOp} (h1 : 1 ≤ o.kind) (h8 : o.kind ≤ 8) (hu : D.down = false) {f : Fault} (hp : D.plan (D.steps + 1) = some f) (hf : f.kind = 1) : doOp o D = ({ D with steps := D.steps + 1 }, true) := by
  unfold doOp callMake callAppend callSync callSyncDir callRename callRemove callRead callStamp
  simp only [step_refused hu hp hf]
  by_cases h : o.kind = 1
  · rw [if_pos h]; rfl
  rw [if_neg h]
  by_cases h : o.kind = 2
  · rw [if_pos h]; rfl
  rw [if_neg h]
  by_cases h : o.kind = 3
  · rw [if_pos h]; rfl
  rw [if_neg h]
  by_cases h : o.kind = 4
  · rw [if_pos h]; rfl
  rw [if_neg h]
  by_cases h : o.kind = 5
  · rw [if_pos h]; rfl
  rw [if_neg h]
  by_cases h : o.kind = 6
  · rw [if_pos h]; rfl
  rw [if_neg h]
  by_cases h : o.kind = 7
  · rw [if_pos h]; rfl
  rw [if_neg h]
  have h : o.kind = 8 := by omega
  rw [if_pos h]; rfl
theorem do_put {o : DOp} (h9 : o.kind = 9) : doOp o D = code (putR D o.name o.b) := by
  unfold doOp
  rw [h9]
  rfl

/-- two disks of which one has a plan -/
structure Twins (k n : Int) (D E : Dk) : Prop where
  eq : ∃ m, E = plus (fun _ => none) m (plus (fun _ => none) 0 D)
  up : D.down = false
  plan : ∃ f : Fault, f.kind = 1 ∧ D.plan = fun i => if i = k then some f else none
  steps : D.steps = n
theorem Twins.quiet {k n : Int} {E : Dk} (t : Twins k n D E) : Quiet E := by
  obtain ⟨m, rfl⟩ := t.eq
  exact ⟨t.up, fun _ => rfl⟩
theorem Twins.refuse {k n : Int} {E : Dk} (t : Twins k n D E) {o : DOp} (h1 : 1 ≤ o.kind) (h8 : o.kind ≤ 8) (hk : n + 1 = k) : (doOp o D).2 = true ∧ Twins k (n + 1) (doOp o D).1 E := by
  obtain ⟨f, hf, hp⟩ := t.plan
  obtain ⟨m, hE⟩ := t.eq
  rw [do_refused h1 h8 t.up (f := f) (by rw [hp, t.steps, hk]; simp) hf]
  exact ⟨rfl, ⟨m, hE⟩, t.up, ⟨f, hf, hp⟩, by dsimp only; rw [t.steps]⟩
theorem own_up {o : DOp} (h : D.down = false) : (own o D).1.down = false := by
  unfold own mkR apR syR mvR rmR
  repeat' split
  all_goals first | exact h | skip
  all_goals (dsimp only; repeat' split)
  all_goals exact h
theorem Twins.both {k n : Int} {E : Dk} (t : Twins k n D E) {o : DOp} (h1 : 1 ≤ o.kind) (h8 : o.kind ≤ 8) (hk : n + 1 ≠ k) : (doOp o D).2 = (doOp o E).2 ∧ Twins k (n + 1) (doOp o D).1 (doOp o E).1 := by
  obtain ⟨f, hf, hp⟩ := t.plan
  obtain ⟨m, hE⟩ := t.eq
  have hq := t.quiet
  rw [do_own h1 h8 t.up (by rw [hp, t.steps]; simp [hk]), do_own h1 h8 hq.up (hq.plan _)]
  have e1 : ({ D with steps := D.steps + 1 } : Dk) = plus D.plan (D.steps + 1) D := rfl
  have e2 : ({ E with steps := E.steps + 1 } : Dk) = plus (fun _ => none) (m + 1) D := by subst hE; rfl
  rw [e1, e2, free_own, free_own]
  exact ⟨rfl, ⟨m + 1, rfl⟩, own_up t.up, ⟨f, hf, hp⟩, by show D.steps + 1 = n + 1; rw [t.steps]⟩
theorem Twins.puts {k n : Int} {E : Dk} (t : Twins k n D E) {o : DOp} (h9 : o.kind = 9) : (doOp o D).2 = (doOp o E).2 ∧ Twins k n (doOp o D).1 (doOp o E).1 := by
  obtain ⟨m, hE⟩ := t.eq
  rw [do_put h9, do_put h9]
  have e2 : E = plus (fun _ => none) m D := by subst hE; rfl
  have hput := free_put o.name o.b (fun _ => none) m D
  dsimp only at hput
  rw [e2, hput]
  have hD := free_put o.name o.b D.plan D.steps D
  dsimp only at hD
  have hDD : plus D.plan D.steps D = D := rfl
  rw [hDD] at hD
  have hd : (putR D o.name o.b).1.down = false := by
    unfold putR
    repeat' split
    all_goals exact t.up
  refine ⟨rfl, ⟨m, rfl⟩, hd, ?_, ?_⟩
  · obtain ⟨f, hf, hp⟩ := t.plan
    refine ⟨f, hf, ?_⟩
    have : (putR D o.name o.b).1 = plus D.plan D.steps (putR D o.name o.b).1 := congrArg Prod.fst hD
    show (putR D o.name o.b).1.plan = _
    rw [this]; exact hp
  · have : (putR D o.name o.b).1 = plus D.plan D.steps (putR D o.name o.b).1 := congrArg Prod.fst hD
    show (putR D o.name o.b).1.steps = _
    rw [this]; exact t.steps
theorem twins_end {k n : Int} {E : Dk} (t : Twins k n D E) : Quiet (plan D []) ∧ names (plan D []).seen = names E.seen ∧ texts (plan D []) = texts E ∧ stamps (plan D []) = stamps E := by
  obtain ⟨m, rfl⟩ := t.eq
  exact ⟨⟨t.up, fun _ => rfl⟩, rfl, rfl, rfl⟩
theorem twins_new {k : Int} (f : Fault) (hf : f.kind = 1) (hu : D.down = false) (hp : D.plan = fun _ => none) : Twins k 0 (plan D [(k, f)]) D := by
  refine ⟨⟨D.steps, ?_⟩, hu, ⟨f, hf, ?_⟩, rfl⟩
  · obtain ⟨a, b, c, d, e, g, h⟩ := D
    dsimp only at hp
    subst hp
    rfl
  · show planOf [(k, f)] (fun _ => none) = _
    unfold planOf planOf
    rw [if_neg (by rw [hf]; simp)]
end
end Go.Proofs.Ytdabehgbhndimaa
