/-
  The registers as plain data: what the bank's functions compute. No program here.
-/
namespace Go.Proofs.Ytocdfkeflakemaa.Reg

abbrev Txt := List Int
/-- the atoms of a text's last break -/
def lb (l : Txt) : Txt :=
  if 1 < l.length ∧ l.getD (l.length - 2) 0 = 13 ∧ l.getD (l.length - 1) 0 = 10 then [13, 10]
  else if 0 < l.length ∧ (l.getD (l.length - 1) 0 = 10 ∨ l.getD (l.length - 1) 0 = 13) then [l.getD (l.length - 1) 0] else []
/-- what is written of a text -/
def wr (kind : Int) (l : Txt) : Txt := if kind = 1 ∧ lb l = [] then l ++ [10] else l
/-- where a name leads -/
def fnd (n : Int) : (Int × Bool) × Bool :=
  if (97 ≤ n ∧ n ≤ 122) ∨ (48 ≤ n ∧ n ≤ 57) then ((n, false), true)
  else if 65 ≤ n ∧ n ≤ 90 then ((n + 32, true), true)
  else if n = 0 ∨ n = 34 then ((34, false), true)
  else if n = 45 ∨ n = 95 ∨ n = 46 ∨ n = 58 ∨ n = 47 then ((n, false), true)
  else ((0, false), false)

structure Bk where
  held : Int → Option (Int × Txt)
  to : Int

/-- what a register holds behind more text -/
def jn (o m : Int × Txt) : Int × Txt :=
  (if m.1 > o.1 then m.1 else o.1,
   o.2 ++ (if m.1 = 1 ∧ o.1 = 0 then lb m.2 else []) ++ m.2 ++ (if ¬ (m.1 = 1 ∧ o.1 = 0) ∧ o.1 = 1 ∧ m.1 = 0 then lb o.2 else []))

def put (f : Int → Option (Int × Txt)) (k : Int) (v : Option (Int × Txt)) : Int → Option (Int × Txt) := fun x => if x = k then v else f x

/-- what store leaves once it has its text -/
def go (h : Int → Option (Int × Txt)) (k : Int) (w : Int × Txt) : (Int → Option (Int × Txt)) × Int :=
  if w.2.length > 140000 then (h, 3) else (put h k (if w.2.length = 0 then none else some w), 0)
/-- store: the new registers, the error -/
def sto (h : Int → Option (Int × Txt)) (s : Int × Bool) (w : Int × Txt) : (Int → Option (Int × Txt)) × Int :=
  match h s.1 with
  | some old => if s.2 = true then (if w.2.length > 0 then go h s.1 (jn old w) else (h, 0)) else go h s.1 w
  | none => go h s.1 w

/-- refuse -/
def rfs (name kind : Int) : (Int × Bool) × Int :=
  let f := fnd name
  (f.1, if f.2 = false then 110 else if f.1.1 = 46 ∨ f.1.1 = 58 ∨ f.1.1 = 47 then 111 else if kind ≠ 0 ∧ kind ≠ 1 then 1 else 0)

def kp (b : Bk) (s : Int × Bool) (w : Int × Txt) : Bk × Int :=
  let r := sto b.held s w
  if r.2 = 0 then (⟨r.1, s.1⟩, 0) else (⟨r.1, b.to⟩, r.2)

def yank (b : Bk) (name kind : Int) (l : Txt) : Bk × Int :=
  let r := rfs name kind
  if r.2 ≠ 0 then (b, r.2) else
  if r.1.1 = 95 ∨ (wr kind l).length = 0 then (b, 0) else
  kp b (if r.1.1 = 34 then (48, r.1.2) else r.1) (kind, wr kind l)

/-- the ring moves on -/
def ring (h : Int → Option (Int × Txt)) : Int → Option (Int × Txt) := fun x => if 50 ≤ x ∧ x ≤ 57 then h (x - 1) else h x

def del (b : Bk) (name kind : Int) (l : Txt) : Bk × Int :=
  let r := rfs name kind
  if r.2 ≠ 0 then (b, r.2) else
  let w := wr kind l
  if r.1.1 = 95 ∨ w.length = 0 then (b, 0) else
  if r.1.1 ≠ 34 then kp b r.1 (kind, w) else
  if kind = 0 ∧ 10 ∉ w ∧ 13 ∉ w then kp b (45, false) (kind, w) else
  if w.length > 140000 then (b, 3) else
  kp ⟨ring b.held, b.to⟩ (49, false) (kind, w)

def set (b : Bk) (name : Int) (l : Txt) : Bk × Int :=
  let f := fnd name
  if f.2 = false ∨ f.1.1 = 34 then (b, 110) else if f.1.1 = 95 then (b, 0) else
  let r := sto b.held f.1 (0, wr 0 l)
  (⟨r.1, b.to⟩, r.2)

def get (b : Bk) (name : Int) : Int × Txt × Int :=
  let f := fnd name
  if f.2 = false then (0, [], 110) else
  match b.held (if f.1.1 = 34 then b.to else f.1.1) with
  | none => (0, [], 112)
  | some r => (r.1, r.2, 0)

end Go.Proofs.Ytocdfkeflakemaa.Reg
