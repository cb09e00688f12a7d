/-
  The disk as plain data: what each call does. No program here.
-/
import Derived.Test.YtdabehgbhndimaaVxF
set_option linter.unusedSimpArgs false
set_option linter.unusedVariables false
namespace Go.Proofs.Ytdabehgbhndimaa.Dsk

abbrev Nm := ByteArray
structure Fl where
  data : List UInt8
  synced : Nat
  count : Int
/-- done to the directory: a name for a file, away with a name, another name -/
inductive Deed where
  | mk (n : Nm) (i : Nat)
  | rm (n : Nm)
  | mv (a b : Nm) (i : Nat)
abbrev Dir := Nm → Option Nat
def dset (f : Dir) (k : Nm) (v : Option Nat) : Dir := fun x => if x = k then v else f x
def Deed.on : Deed → Dir → Dir
  | .mk n i, f => dset f n (some i)
  | .rm n, f => dset f n none
  | .mv a b i, f => dset (dset f a none) b (some i)
def onAll : List Deed → Dir → Dir
  | [], f => f
  | a :: r, f => onAll r (a.on f)
structure Fault where
  kind : Int
  part : Int
  names : Int
  bytes : List Int
structure Dk where
  space : Int
  files : List Fl
  lasts : Dir
  acts : List Deed
  down : Bool
  plan : Int → Option Fault
  steps : Int
def Dk.seen (D : Dk) : Dir := onAll D.acts D.lasts

/-- a directory's names, each once -/
def Lists (f : Dir) (l : List Nm) : Prop := l.Nodup ∧ ∀ n, n ∈ l ↔ (f n).isSome = true
/-- in order of their bytes -/
def sortN (l : List Nm) : List Nm := ((l.map fun n => n.data.toList).mergeSort fun x y => decide (x ≤ y)).map fun l => ⟨l.toArray⟩
open Classical in
/-- the names, rising -/
noncomputable def names (f : Dir) : List Nm := if h : ∃ l, Lists f l then sortN h.choose else []

/-- may a file have the name? -/
def okByte (b : UInt8) : Bool := decide ((97 ≤ b.toNat ∧ b.toNat ≤ 122) ∨ (65 ≤ b.toNat ∧ b.toNat ≤ 90) ∨ (48 ≤ b.toNat ∧ b.toNat ≤ 57) ∨ b.toNat = 46 ∨ b.toNat = 95 ∨ b.toNat = 45 ∨ b.toNat = 126)
def okName (n : Nm) : Bool := n.size != 0 && decide (n.size ≤ 32) && n.data.toList.all okByte

def fl (D : Dk) (i : Nat) : Fl := D.files.getD i ⟨[], 0, 0⟩
def sumZ : List Int → Int
  | [] => 0
  | x :: r => x + sumZ r
/-- what a name weighs, but for one file -/
def weigh (D : Dk) (o : Option Nat) (n : Nm) : Int := match D.seen n with | some i => if some i = o then 0 else (fl D i).data.length | none => 0
/-- the bytes of the files that are seen, but for one -/
noncomputable def usedBut (D : Dk) (o : Option Nat) : Int := sumZ ((names D.seen).map (weigh D o))
noncomputable def room (D : Dk) : Int := max (D.space - usedBut D none) 0

/-- find: the file, the error -/
def find (D : Dk) (n : Nm) : Option Nat × Int :=
  if okName n = false then (none, 164) else match D.seen n with | none => (none, 162) | some i => (some i, 0)

def put1 (l : List Fl) (i : Nat) (f : Fl → Fl) : List Fl := l.modify i f

/-- settle -/
def settle (D : Dk) : Dk := { D with lasts := D.seen, acts := [] }

noncomputable def putR (D : Dk) (n : Nm) (b : List UInt8) : Dk × Int :=
  if D.down = true then (D, 165) else if okName n = false then (D, 164) else
  if (D.seen n = none ∧ 16 ≤ (names D.seen).length) ∨ (b.length : Int) > D.space - usedBut D (D.seen n) then (D, 161) else
  match D.seen n with
  | some i => ({ settle D with files := put1 D.files i fun f => ⟨b, b.length, f.count + 1⟩ }, 0)
  | none => ({ D with lasts := dset D.seen n (some D.files.length), acts := [], files := D.files ++ [⟨b, b.length, 1⟩] }, 0)

noncomputable def mkR (n : Nm) (D : Dk) : Dk × Int :=
  let r := find D n
  if r.2 = 164 then (D, 164) else if r.2 = 0 then (D, 163) else if 16 ≤ (names D.seen).length then (D, 161) else
  ({ D with files := D.files ++ [⟨[], 0, 0⟩], acts := D.acts ++ [.mk n D.files.length] }, 0)

noncomputable def apR (n : Nm) (b : List UInt8) (D : Dk) : Dk × Int × Int :=
  match find D n with
  | (none, e) => (D, e, 0)
  | (some i, _) =>
    let k : Int := if room D < (b.length : Int) then room D else b.length
    ({ D with files := put1 D.files i fun f => ⟨f.data ++ b.take k.toNat, f.synced, if k > 0 then f.count + 1 else f.count⟩ }, if k < b.length then 161 else 0, k)
/-- a part of an Append -/
noncomputable def apPart (n : Nm) (b : List UInt8) (k : Int) (D : Dk) : Dk × Int × Int :=
  let r := apR n (b.take (min (max k 0) b.length).toNat) D
  (r.1, if r.2.1 ≠ 0 ∧ r.2.1 ≠ 161 then r.2.1 else 160, r.2.2)

def syR (n : Nm) (D : Dk) : Dk × Int :=
  match find D n with
  | (none, e) => (D, e)
  | (some i, _) => ({ D with files := put1 D.files i fun f => ⟨f.data, f.data.length, f.count⟩ }, 0)
def mvR (a b : Nm) (D : Dk) : Dk × Int :=
  if okName b = false then (D, 164) else
  match find D a with
  | (none, e) => (D, e)
  | (some i, _) => if a = b then (D, 0) else ({ D with acts := D.acts ++ [.mv a b i] }, 0)
def rmR (n : Nm) (D : Dk) : Dk × Int :=
  match find D n with
  | (none, e) => (D, e)
  | (some _, _) => ({ D with acts := D.acts ++ [.rm n] }, 0)
/-- what a file becomes when it is cut -/
def Fl.cut (f : Fl) (more : Int) : Fl :=
  let n := f.synced + (min (max more 0).toNat (f.data.length - f.synced))
  ⟨f.data.take n, n, f.count⟩
/-- the files of names are cut -/
def cutAll (f : Dir) (bytes : List Int) : List Nm → Nat → List Fl → List Fl
  | [], _, l => l
  | n :: r, i, l => cutAll f bytes r (i + 1) (put1 l ((f n).getD 0) fun x => x.cut (bytes.getD i 0))
/-- a power loss -/
noncomputable def crash (D : Dk) (nm : Int) (bytes : List Int) : Dk :=
  if D.down = true then D else
  let l := onAll (D.acts.take (min (max nm 0).toNat D.acts.length)) D.lasts
  { D with lasts := l, acts := [], files := cutAll l bytes (names l) 0 D.files, down := true }
def restart (D : Dk) : Dk := if D.down = true then { D with down := false, plan := fun _ => none, steps := 0 } else D
/-- what a list of faults plans -/
def planOf : List (Int × Fault) → (Int → Option Fault) → (Int → Option Fault)
  | [], f => f
  | x :: r, f => planOf r (if (f x.1).isSome = true ∨ x.2.kind < 1 ∨ x.2.kind > 5 then f else fun k => if k = x.1 then some x.2 else f k)
def plan (D : Dk) (l : List (Int × Fault)) : Dk := { D with plan := planOf l fun _ => none, steps := 0 }

/-- what goes wrong -/
noncomputable def faulty {α : Type} (D1 : Dk) (a : α) (act : Dk → Dk × Int × α) (part : Option (Int → Dk → Dk × Int × α)) (f : Fault) : Dk × Int × α :=
  if f.kind = 1 then (D1, 160, a) else
  if f.kind = 2 then (part.map fun p => p f.part D1).getD (D1, 160, a) else
  if f.kind = 4 then (crash D1 f.names f.bytes, 165, a) else
  if f.kind = 5 then (crash (act D1).1 f.names f.bytes, 165, (act D1).2.2) else
  if f.kind = 3 then ((act D1).1, if (act D1).2.1 ≠ 0 then (act D1).2.1 else 160, (act D1).2.2) else
  act D1
/-- a step, as the plan says -/
noncomputable def step {α : Type} (D : Dk) (a : α) (act : Dk → Dk × Int × α) (part : Option (Int → Dk → Dk × Int × α)) : Dk × Int × α :=
  if D.down = true then (D, 165, a) else
  match D.plan (D.steps + 1) with
  | none => act { D with steps := D.steps + 1 }
  | some f => faulty { D with steps := D.steps + 1 } a act part f
/-- no answer but the error -/
def u (f : Dk → Dk × Int) (D : Dk) : Dk × Int × Unit := ((f D).1, (f D).2, ())
def rdR (n : Nm) (D : Dk) : Dk × Int × List UInt8 :=
  match find D n with
  | (none, e) => (D, e, [])
  | (some i, _) => (D, 0, (fl D i).data)
def stR (n : Nm) (D : Dk) : Dk × Int × Int × Int × Int :=
  match find D n with
  | (none, e) => (D, e, 0, 0, 0)
  | (some i, _) => (D, 0, (i : Int) + 1, (fl D i).data.length, (fl D i).count)
/-- the calls -/
noncomputable def callMake (D : Dk) (n : Nm) : Dk × Int × Unit := step D () (u (mkR n)) none
noncomputable def callSync (D : Dk) (n : Nm) : Dk × Int × Unit := step D () (u (syR n)) none
noncomputable def callSyncDir (D : Dk) : Dk × Int × Unit := step D () (u fun D => (settle D, 0)) none
noncomputable def callRename (D : Dk) (a b : Nm) : Dk × Int × Unit := step D () (u (mvR a b)) none
noncomputable def callRemove (D : Dk) (n : Nm) : Dk × Int × Unit := step D () (u (rmR n)) none
noncomputable def callRead (D : Dk) (n : Nm) : Dk × Int × List UInt8 := let r := step D [] (rdR n) none; (r.1, r.2.1, if r.2.1 = 0 then r.2.2 else [])
noncomputable def callStamp (D : Dk) (n : Nm) : Dk × Int × Int × Int × Int := let r := step D (0, 0, 0) (stR n) none; (r.1, r.2.1, if r.2.1 = 0 then r.2.2 else (0, 0, 0))
noncomputable def callAppend (D : Dk) (n : Nm) (b : List UInt8) : Dk × Int × Int := let r := step D 0 (apR n b) (some (apPart n b)); (r.1, r.2.1, if r.1.down = true then 0 else r.2.2)
end Go.Proofs.Ytdabehgbhndimaa.Dsk
