/- What the laws do with a disk, as plain data. Conditions: none. -/
import Derived.Test.YtdabehgbhndimaaOkk
set_option linter.unusedSimpArgs false
set_option linter.unusedVariables false
namespace Go.Proofs.Ytdabehgbhndimaa
open Go Go.Vx Dsk

/-- what is asked of a disk -/
structure DOp where
  kind : Int
  who : Int
  name : Nm
  to : Nm
  b : List UInt8
  faults : List (Int × Fault)
  names : Int
  bytes : List Int
/-- the disk, and whether an error came -/
def er {α : Type} (r : Dk × Int × α) : Dk × Bool := (r.1, decide (r.2.1 ≠ 0))
noncomputable def doOp (o : DOp) (D : Dk) : Dk × Bool :=
  if o.kind = 1 then er (callMake D o.name) else
  if o.kind = 2 then er (callAppend D o.name o.b) else
  if o.kind = 3 then er (callSync D o.name) else
  if o.kind = 4 then er (callSyncDir D) else
  if o.kind = 5 then er (callRename D o.name o.to) else
  if o.kind = 6 then er (callRemove D o.name) else
  if o.kind = 7 then er (callRead D o.name) else
  if o.kind = 8 then er (callStamp D o.name) else
  if o.kind = 9 then ((putR D o.name o.b).1, decide ((putR D o.name o.b).2 ≠ 0)) else
  if o.kind = 10 then (plan D o.faults, false) else
  if o.kind = 11 then (crash D o.names o.bytes, false) else
  if o.kind = 12 then (restart D, false) else (D, false)
noncomputable def runOps : List DOp → Dk → Dk
  | [], D => D
  | o :: r, D => runOps r (doOp o D).1
theorem runOps_snoc (l : List DOp) (o : DOp) (D : Dk) : runOps (l ++ [o]) D = (doOp o (runOps l D)).1 := by
  induction l generalizing D with
  | nil => rfl
  | cons x r ih => exact ih _

section
variable {D : Dk} {N : Nat} {α : Type}
theorem ok_step {a : α} {act : Dk → Dk × Int × α} {part : Option (Int → Dk → Dk × Int × α)} (ok : DkOk D N) (ha : ∀ D1, DkOk D1 (N + 1) → DkOk (act D1).1 (N + 2)) (hp : ∀ pt, part = some pt → ∀ D1 k, DkOk D1 (N + 1) → DkOk (pt k D1).1 (N + 2)) :
    DkOk (Dsk.step D a act part).1 (N + 2) := by
  have ok1 : DkOk { D with steps := D.steps + 1 } (N + 1) := by
    have := ok.steps
    exact ⟨ok.space, fun i f hf => let ⟨a, b, c, e⟩ := ok.fil i f hf; ⟨a, b, c, by omega⟩, Nat.le_trans ok.num (Nat.le_succ _), ok.good, ⟨by dsimp only; omega, by dsimp only; omega⟩, Nat.le_trans ok.acts (Nat.le_succ _)⟩
  have ok2 : DkOk { D with steps := D.steps + 1 } (N + 2) := ok1.mono (Nat.le_succ _)
  unfold Dsk.step
  split
  · exact ok.mono (by omega)
  · split
    · exact ha _ ok1
    · rename_i f hf
      unfold faulty
      split
      · exact ok2
      split
      · cases part with
        | none => exact ok2
        | some pt => exact hp pt rfl _ _ ok1
      split
      · exact ok_crash ok2 _ _
      split
      · exact ok_crash (ha _ ok1) _ _
      split
      · exact ha _ ok1
      · exact ha _ ok1

theorem ok_u {f : Dk → Dk × Int} (ok : DkOk D N) (h : ∀ D1, DkOk D1 (N + 1) → DkOk (f D1).1 (N + 2)) : DkOk (Dsk.step D () (u f) none).1 (N + 2) := ok_step ok h fun _ h => by cases h
theorem ok_callAppend (ok : DkOk D N) (n : Nm) (b : List UInt8) : DkOk (callAppend D n b).1 (N + 2) := by
  refine ok_step ok (fun D1 ok1 => ok_ap ok1 n b) fun pt hpt D1 k ok1 => ?_
  cases hpt
  exact ok_ap ok1 n _
theorem rd_fst (D : Dk) (n : Nm) : (rdR n D).1 = D := by unfold rdR; split <;> rfl
theorem st_fst (D : Dk) (n : Nm) : (stR n D).1 = D := by unfold stR; split <;> rfl
theorem ok_callRead (ok : DkOk D N) (n : Nm) : DkOk (callRead D n).1 (N + 2) :=
  ok_step ok (fun D1 ok1 => by rw [rd_fst]; exact ok1.mono (Nat.le_succ _)) fun _ h => by cases h
theorem ok_callStamp (ok : DkOk D N) (n : Nm) : DkOk (callStamp D n).1 (N + 2) :=
  ok_step ok (fun D1 ok1 => by rw [st_fst]; exact ok1.mono (Nat.le_succ _)) fun _ h => by cases h
theorem ok_callMake (ok : DkOk D N) (n : Nm) : DkOk (callMake D n).1 (N + 2) := ok_u ok fun D1 ok1 => ok_mk ok1 n
theorem ok_callSync (ok : DkOk D N) (n : Nm) : DkOk (callSync D n).1 (N + 2) := ok_u ok fun D1 ok1 => ok_sy ok1 n
theorem ok_callSyncDir (ok : DkOk D N) : DkOk (callSyncDir D).1 (N + 2) := ok_u ok fun D1 ok1 => (ok_settle ok1).mono (Nat.le_succ _)
theorem ok_callRename (ok : DkOk D N) (n t : Nm) : DkOk (callRename D n t).1 (N + 2) := ok_u ok fun D1 ok1 => ok_mv ok1 n t
theorem ok_callRemove (ok : DkOk D N) (n : Nm) : DkOk (callRemove D n).1 (N + 2) := ok_u ok fun D1 ok1 => ok_rm ok1 n
theorem ite_ok {P : Dk → Prop} {c : Prop} [Decidable c] {x y : Dk × Bool} (h1 : P x.1) (h2 : P y.1) : P (if c then x else y).1 := by split <;> assumption
theorem ok_do (ok : DkOk D N) (o : DOp) : DkOk (doOp o D).1 (N + 2) := by
  have ok2 := ok.mono (show N ≤ N + 2 by omega)
  exact ite_ok (P := fun D => DkOk D (N + 2)) (ok_callMake ok _) <| ite_ok (P := fun D => DkOk D (N + 2)) (ok_callAppend ok _ _) <| ite_ok (P := fun D => DkOk D (N + 2)) (ok_callSync ok _) <| ite_ok (P := fun D => DkOk D (N + 2)) (ok_callSyncDir ok) <|
    ite_ok (P := fun D => DkOk D (N + 2)) (ok_callRename ok _ _) <| ite_ok (P := fun D => DkOk D (N + 2)) (ok_callRemove ok _) <| ite_ok (P := fun D => DkOk D (N + 2)) (ok_callRead ok _) <| ite_ok (P := fun D => DkOk D (N + 2)) (ok_callStamp ok _) <|
    ite_ok (P := fun D => DkOk D (N + 2)) ((ok_put ok _ _).mono (Nat.le_succ _)) <| ite_ok (P := fun D => DkOk D (N + 2)) (ok_plan ok2 _) <| ite_ok (P := fun D => DkOk D (N + 2)) (ok_crash ok2 _ _) <| ite_ok (P := fun D => DkOk D (N + 2)) (ok_restart ok2) ok2

/-- no fault is planned, the power is on -/
structure Quiet (D : Dk) : Prop where
  up : D.down = false
  plan : ∀ k, D.plan k = none
theorem step_quiet (q : Quiet D) {a : α} {act : Dk → Dk × Int × α} {part : Option (Int → Dk → Dk × Int × α)} : Dsk.step D a act part = act { D with steps := D.steps + 1 } := by
  unfold Dsk.step
  rw [if_neg (by rw [q.up]; simp), q.plan]
theorem find_steps (D : Dk) (k : Int) (n : Nm) : Dsk.find { D with steps := k } n = Dsk.find D n := rfl
theorem read_quiet (q : Quiet D) {n : Nm} {i : Nat} (hn : okName n = true) (h : D.seen n = some i) : callRead D n = ({ D with steps := D.steps + 1 }, 0, (fl D i).data) := by
  unfold callRead
  rw [step_quiet q]
  unfold rdR
  have : Dsk.find { D with steps := D.steps + 1 } n = (some i, 0) := by rw [find_steps]; unfold Dsk.find; rw [if_neg (by rw [hn]; simp), h]
  rw [this]
  rfl
theorem stamp_quiet (q : Quiet D) {n : Nm} {i : Nat} (hn : okName n = true) (h : D.seen n = some i) : callStamp D n = ({ D with steps := D.steps + 1 }, 0, (i : Int) + 1, ((fl D i).data.length : Int), (fl D i).count) := by
  unfold callStamp
  rw [step_quiet q]
  unfold stR
  have : Dsk.find { D with steps := D.steps + 1 } n = (some i, 0) := by rw [find_steps]; unfold Dsk.find; rw [if_neg (by rw [hn]; simp), h]
  rw [this]
  rfl

/-- a picture of a disk -/
noncomputable def texts (D : Dk) : List Nm := (names D.seen).map fun n => ⟨(fl D ((D.seen n).getD 0)).data.toArray⟩
noncomputable def stamps (D : Dk) : List (Int × Int × Int × Unit) := (names D.seen).map fun n => let i := (D.seen n).getD 0; ((i : Int) + 1, ((fl D i).data.length : Int), (fl D i).count, ())
end
end Go.Proofs.Ytdabehgbhndimaa
