/-
  The operations, one by one: what each asks and what it answers, over a frame of which only some slots are known.
  What is proved: each operation's condition is enough for its run. Conditions: the table of types reads as the program has it.
-/
import Derived.WalkKit
import Derived.Test.YtdabehgbhndimaaVxA
set_option linter.unusedSimpArgs false
set_option linter.unusedVariables false
namespace Go.Vx
open Go

structure Sl where
  a : Option Addr
  len : Nat
  cap : Nat

def Sl.val (s : Sl) : Value := .slice s.a s.len s.cap

/-- an index times the size of an element -/
def scaled (n s : Nat) : Nat := match s with | 1 => n | _ => n * s

/-- a part of a slice -/
def Sl.cut (a : Option Addr) (l h m : Int) (sz : Nat) : Sl := ⟨if m.toNat = l.toNat then a else a.map (·.add (scaled l.toNat sz)), h.toNat - l.toNat, m.toNat - l.toNat⟩

/-- A closure. -/
structure Clo where
  fn : Fn
  first : Array Value
  captured : Array Value

/-- What one cell holds. -/
inductive Cell where
  | int (k : IntKind) | bool | str | ptr | sl | map | iface | fn | any

@[reducible] def Cell.T : Cell → Type
  | .int _ => Int
  | .bool => Bool
  | .str => ByteArray
  | .ptr => Option Addr
  | .sl => Sl
  | .map => Option Nat
  | .iface => Option (TypeId × Value)
  | .fn => Option Clo
  | .any => Value

def Cell.val : (c : Cell) → c.T → Value
  | .int k, n => .int k n
  | .bool, b => .bool b
  | .str, s => .string s
  | .ptr, a => .pointer a
  | .sl, s => .slice s.a s.len s.cap
  | .map, m => .map m
  | .iface, x => match x with | none => .nilIface | some x => .iface x.1 x.2
  | .fn, x => match x with | none => .nilFunc | some c => .func c.fn c.first c.captured
  | .any, v => v

def Cell.of : (c : Cell) → Value → Option c.T
  | .int k, v => match v with | .int k' n => (match decide (k' = k) with | true => some n | false => none) | _ => none
  | .bool, v => match v with | .bool b => some b | _ => none
  | .str, v => match v with | .string s => some s | _ => none
  | .ptr, v => match v with | .pointer a => some a | _ => none
  | .sl, v => match v with | .slice a l c => some ⟨a, l, c⟩ | _ => none
  | .map, v => match v with | .map m => some m | _ => none
  | .iface, v => match v with | .nilIface => some none | .iface t x => some (some (t, x)) | _ => none
  | .fn, v => match v with | .nilFunc => some none | .func f a b => some (some ⟨f, a, b⟩) | _ => none
  | .any, v => some v

theorem Cell.of_val {c : Cell} {v : Value} {x : c.T} (h : c.of v = some x) : v = c.val x := by
  cases c <;> cases v <;> simp only [Cell.of] at h <;> first | (cases h; done) | (cases h; rfl) | skip
  · rename_i k k' n
    split at h
    · rename_i hk
      obtain rfl := of_decide_eq_true hk
      cases h; rfl
    · cases h

@[reducible] def Cells.T : List Cell → Type
  | [] => Unit
  | c :: r => c.T × Cells.T r

def Cells.vals : (cs : List Cell) → Cells.T cs → List Value
  | [], _ => []
  | c :: r, x => c.val x.1 :: Cells.vals r x.2

def Cells.of : (cs : List Cell) → List Value → Option (Cells.T cs)
  | [], l => match l with | [] => some () | _ :: _ => none
  | c :: r, l => match l with
    | [] => none
    | v :: l => match c.of v with
      | none => none
      | some x => match Cells.of r l with
        | none => none
        | some y => some (x, y)

theorem Cells.of_vals : ∀ {cs : List Cell} {l : List Value} {x : Cells.T cs}, Cells.of cs l = some x → l = Cells.vals cs x
  | [], l, x, h => by cases l <;> simp [Cells.of, Cells.vals] at h ⊢
  | c :: r, l, x, h => by
    cases l with
    | nil => simp [Cells.of] at h
    | cons v l =>
      simp only [Cells.of] at h
      split at h
      · cases h
      · rename_i y hy
        split at h
        · cases h
        · rename_i z hz
          cases h
          rw [Cells.vals, ← Cells.of_vals hz, ← Cell.of_val hy]

theorem Cells.length_vals : ∀ (cs : List Cell) (x : Cells.T cs), (Cells.vals cs x).length = cs.length
  | [], _ => rfl
  | c :: r, x => by simp [Cells.vals, Cells.length_vals r x.2]

/-- A variable: one cell, or a struct's row of cells. -/
inductive Ty where
  | one (x : Cell)
  | agg (cs : List Cell)

@[reducible] def Ty.T : Ty → Type
  | .one x => x.T
  | .agg cs => Cells.T cs

def Ty.val : (t : Ty) → t.T → Value
  | .one c, x => c.val x
  | .agg cs, x => .agg (Cells.vals cs x).toArray

def Ty.of : (t : Ty) → Value → Option t.T
  | .one c, v => c.of v
  | .agg cs, v => match v with | .agg l => Cells.of cs l.toList | _ => none

theorem Ty.of_val {t : Ty} {v : Value} {x : t.T} (h : t.of v = some x) : v = t.val x := by
  cases t with
  | one c => exact Cell.of_val h
  | agg cs =>
    cases v <;> simp only [Ty.of] at h <;> first | (cases h; done) | skip
    rename_i l
    have := Cells.of_vals h
    simp only [Ty.val, ← this]

@[reducible] def Tys.T : List Ty → Type
  | [] => Unit
  | c :: r => c.T × Tys.T r

def Tys.vals : (cs : List Ty) → Tys.T cs → List Value
  | [], _ => []
  | c :: r, x => c.val x.1 :: Tys.vals r x.2

def Tys.of : (cs : List Ty) → List Value → Option (Tys.T cs)
  | [], l => match l with | [] => some () | _ :: _ => none
  | c :: r, l => match l with
    | [] => none
    | v :: l => match c.of v with
      | none => none
      | some x => match Tys.of r l with
        | none => none
        | some y => some (x, y)

theorem Tys.of_vals : ∀ {cs : List Ty} {l : List Value} {x : Tys.T cs}, Tys.of cs l = some x → l = Tys.vals cs x
  | [], l, x, h => by cases l <;> simp [Tys.of, Tys.vals] at h ⊢
  | c :: r, l, x, h => by
    cases l with
    | nil => simp [Tys.of] at h
    | cons v l =>
      simp only [Tys.of] at h
      split at h
      · cases h
      · rename_i y hy
        split at h
        · cases h
        · rename_i z hz
          cases h
          rw [Tys.vals, ← Tys.of_vals hz, ← Ty.of_val hy]

/-- What a call or an operation answers. -/
inductive RTy where
  | one (t : Ty)
  | tup (ts : List Ty)

@[reducible] def RTy.T : RTy → Type
  | .one t => t.T
  | .tup ts => Tys.T ts

def RTy.val : (t : RTy) → t.T → Value
  | .one t, x => t.val x
  | .tup ts, x => .tuple (Tys.vals ts x).toArray

def RTy.of : (t : RTy) → Value → Option t.T
  | .one t, v => t.of v
  | .tup ts, v => match v with | .tuple l => Tys.of ts l.toList | _ => none

theorem RTy.of_val {t : RTy} {v : Value} {x : t.T} (h : t.of v = some x) : v = t.val x := by
  cases t with
  | one c => exact Ty.of_val h
  | tup cs =>
    cases v <;> simp only [RTy.of] at h <;> first | (cases h; done) | skip
    rename_i l
    have := Tys.of_vals h
    simp only [RTy.val, ← this]

/-- A type as the program has it, and how its variables are read. -/
structure Inf where
  desc : TypeDesc
  size : Nat
  bytes : Nat
  zero : Option Value
  ty : Ty
  rty : RTy

def isAggD : TypeDesc → Bool
  | .struct _ | .array _ _ => true
  | _ => false

def Inf.wf (i : Inf) : Bool :=
  match i.ty with
  | .one _ => !isAggD i.desc
  | .agg cs => isAggD i.desc && Nat.beq cs.length i.size

structure Tab where
  types : List (TypeId × Inf)
  fns : List FuncId

def find? {α : Type} (t : Nat) : List (Nat × α) → Option α
  | [] => none
  | x :: r => match Nat.beq x.1 t with | true => some x.2 | false => find? t r

def Tab.get (T : Tab) (t : TypeId) : Option Inf := find? t T.types

structure InfOk (P : Program) (t : TypeId) (i : Inf) : Prop where
  und : P.underlying t = some i.desc
  info : (P.info? t).map (fun j => (j.size, j.bytes, j.zero)) = some (i.size, i.bytes, i.zero)
  wf : i.wf = true

def TypesOk (P : Program) : List (TypeId × Inf) → Prop
  | [] => True
  | x :: r => InfOk P x.1 x.2 ∧ TypesOk P r

def FnsOk (P : Program) : List FuncId → Prop
  | [] => True
  | f :: r => ((P.funcs[f]?).map fun fn => (fn.body.isNone, fn.name == "runtime.NumGoroutine")) = some (false, false) ∧ FnsOk P r

structure Tab.Ok (T : Tab) (P : Program) : Prop where
  types : TypesOk P T.types
  fns : FnsOk P T.fns
  mixed : P.follows .mixedOrders = true

theorem find_ok {P : Program} : ∀ {l : List (TypeId × Inf)} {t : TypeId} {i : Inf}, TypesOk P l → find? t l = some i → InfOk P t i
  | [], t, i, _, h => by cases h
  | x :: r, t, i, ok, h => by
    simp only [find?] at h
    split at h
    · rename_i e
      obtain rfl := Nat.eq_of_beq_eq_true e
      cases h
      exact ok.1
    · exact find_ok ok.2 h

theorem Tab.Ok.get {T : Tab} {P : Program} (ok : T.Ok P) {t : TypeId} {i : Inf} (h : T.get t = some i) : InfOk P t i := find_ok ok.types h

theorem fns_ok {P : Program} : ∀ {l : List FuncId} {f : FuncId}, FnsOk P l → l.elem f = true → ((P.funcs[f]?).map fun fn => (fn.body.isNone, fn.name == "runtime.NumGoroutine")) = some (false, false)
  | [], f, _, h => by cases h
  | x :: r, f, ok, h => by
    rw [List.elem_cons] at h
    split at h
    · rename_i e
      have : f = x := by simpa using e
      rw [this]; exact ok.1
    · exact fns_ok ok.2 h

section infos
variable {P : Program} {t : TypeId} {i : Inf} (h : InfOk P t i) (w : World)
include h
theorem InfOk.infoX : ∃ j, P.info? t = some j ∧ j.size = i.size ∧ j.bytes = i.bytes ∧ j.zero = i.zero := by
  have := h.info
  cases hj : P.info? t with
  | none => rw [hj] at this; cases this
  | some j => rw [hj] at this; simp at this; exact ⟨j, rfl, this.1, this.2.1, this.2.2⟩
theorem InfOk.run_und : (underlying t).run P w = .ok i.desc w := run_underlying h.und w
theorem InfOk.run_size : (sizeOf t).run P w = .ok i.size w := by
  obtain ⟨j, hj, hs, _⟩ := h.infoX
  simp [sizeOf, run_typeInfo w hj, hs]
theorem InfOk.run_bytes : ∃ j, (typeInfo t).run P w = .ok j w ∧ j.bytes = i.bytes := by
  obtain ⟨j, hj, _, hb, _⟩ := h.infoX
  exact ⟨j, run_typeInfo w hj, hb⟩
theorem InfOk.run_zero {z : Value} (hz : i.zero = some z) : (zeroValue t).run P w = .ok z w := by
  obtain ⟨j, hj, _, _, hz'⟩ := h.infoX
  simp [zeroValue, run_typeInfo w hj, hz', hz]
theorem InfOk.run_isAgg : (isAgg t).run P w = .ok (isAggD i.desc) w := by
  simp only [isAgg, Sem.run_bind, h.run_und, Result.andThen_ok]
  cases i.desc <;> rfl
end infos

/- what a verification condition is made of -/
def cdE {X : Type} (c : X → Prop) (K : X → World → Prop) : World → Prop := fun w => ∃ x, c x ∧ K x w
def rdE {X : Type} (rd : X → World → Prop) (K : X → World → Prop) : World → Prop := fun w => ∃ x, rd x w ∧ K x w
def keep (p : World → Prop) (K : World → Prop) : World → Prop := fun w => p w ∧ K w
def sif (b : Bool) (A B : World → Prop) : World → Prop := fun w => (b = true → A w) ∧ (b = false → B w)
def newO (o : Obj) (K : Nat → World → Prop) : World → Prop := fun w => K w.heap.size (w.alloc o)
def stC (p : Addr) (v : Value) (K : World → Prop) : World → Prop := fun w => ((∃ u, w.cell? p = some u) ∧ w.frozen? p = false) ∧ K (w.setCell p v)
def stCs (p : Addr) : Nat → List Value → (World → Prop) → World → Prop
  | _, [], K => K
  | i, v :: r, K => stC (p.add i) v (stCs p (i + 1) r K)
def cellsAt (w : World) (p : Addr) : Nat → List Value → Prop
  | _, [] => True
  | i, v :: r => w.cell? (p.add i) = some v ∧ cellsAt w p (i + 1) r
def rawT (P : Program) (t : RTy) (s : Sem Value) (K : t.T → World → Prop) : World → Prop := fun w => ∃ x w', s.run P w = .ok (t.val x) w' ∧ K x w'
def rawU (P : Program) (s : Sem Unit) (K : World → Prop) : World → Prop := fun w => ∃ w', s.run P w = .ok () w' ∧ K w'
def callT (P : Program) (f : FuncId) (args : Array Value) (t : RTy) (K : t.T → World → Prop) : World → Prop :=
  fun w => Calls P f args w fun e w' => ∃ x, e = .returned (t.val x) ∧ K x w'
def callX (P : Program) (s : Sem Next) (t : RTy) (K : t.T → World → Prop) : World → Prop :=
  fun w => (∃ f args, s.run P w = .ok (.enter f args) w ∧ callT P f args t K w) ∨ ∃ x w', s.run P w = .ok (.value (t.val x)) w' ∧ K x w'

/-- a step of an iterator: whether there is one more, and what -/
def nextE (P : Program) (s : Sem Value) (K : Bool → List Value → World → Prop) : World → Prop := fun w =>
  ∃ b rest w', s.run P w = .ok (.tuple (.bool b :: rest).toArray) w' ∧ K b rest w'

/-- A quiet operation's answer. -/
inductive QR where
  | no
  | val (v : Value)
  | cond {X : Type} (c : X → Prop) (val : X → Value)
  | read {X : Type} (rd : X → World → Prop) (val : X → Value)

abbrev Ev := Operand → Option Value

def ibin (op : BinOp) (k : IntKind) (x y : Int) : QR :=
  match op with
  | .add => .val (.int k (k.wrap (x + y)))
  | .sub => .val (.int k (k.wrap (x - y)))
  | .mul => .val (.int k (k.wrap (x * y)))
  | .quo => .cond (fun _ : Unit => y ≠ 0) (fun _ => .int k (k.wrap (x.tdiv y)))
  | .rem => .cond (fun _ : Unit => y ≠ 0) (fun _ => .int k (x.tmod y))
  | .and => .val (.int k (k.wrap (BitVec.ofInt k.bits x &&& BitVec.ofInt k.bits y).toNat))
  | .or => .val (.int k (k.wrap (BitVec.ofInt k.bits x ||| BitVec.ofInt k.bits y).toNat))
  | .xor => .val (.int k (k.wrap (BitVec.ofInt k.bits x ^^^ BitVec.ofInt k.bits y).toNat))
  | .andNot => .val (.int k (k.wrap (BitVec.ofInt k.bits x &&& ~~~BitVec.ofInt k.bits y).toNat))
  | .eql => .val (.bool (x == y))
  | .neq => .val (.bool (x != y))
  | .lss => .val (.bool (x < y))
  | .leq => .val (.bool (x ≤ y))
  | .gtr => .val (.bool (x > y))
  | .geq => .val (.bool (x ≥ y))
  | _ => .no

def ishift (op : BinOp) (k : IntKind) (x y : Int) : QR :=
  match op with
  | .shl => .cond (fun _ : Unit => 0 ≤ y) (fun _ => .int k (k.wrap (x * 2 ^ (min y.toNat k.bits))))
  | .shr => .cond (fun _ : Unit => 0 ≤ y) (fun _ => .int k (x.fdiv (2 ^ (min y.toNat k.bits))))
  | _ => .no

def sbin (op : BinOp) (x y : ByteArray) : QR :=
  match op with
  | .add => .cond (fun _ : Unit => ((x.size + y.size : Nat) : Int) ≤ IntKind.i64.max) (fun _ => .string (x ++ y))
  | .eql => .val (.bool (x.toList == y.toList))
  | .neq => .val (.bool !(x.toList == y.toList))
  | .lss => .val (.bool (Op.bytesLess x.toList y.toList))
  | .leq => .val (.bool (Op.bytesLess x.toList y.toList || x.toList == y.toList))
  | .gtr => .val (.bool !(Op.bytesLess x.toList y.toList || x.toList == y.toList))
  | .geq => .val (.bool !(Op.bytesLess x.toList y.toList))
  | _ => .no

def isShift : BinOp → Bool
  | .shl | .shr => true
  | _ => false

def isNilC : Operand → Bool
  | .const (.pointer none) | .const (.slice none 0 0) | .const (.map none) | .const .nilIface | .const .nilFunc => true
  | _ => false

/-- is a value nil, at a type whose nil is the constant -/
def nilTest (d : TypeDesc) (x y : Value) : Option Bool :=
  match d, x, y with
  | .pointer _, .pointer a, .pointer none => some a.isNone
  | .slice _, .slice a _ _, .slice none _ _ => some a.isNone
  | .map _ _, .map m, .map none => some m.isNone
  | _, _, _ => none

def binQ0 (T : Tab) (P : Program) (op : BinOp) (xType : TypeId) (x y : Operand) (a b : Value) : QR :=
  match a, b with
  | .int k m, .int k' n => match isShift op with
    | true => ishift op k m n
    | false => match decide (k' = k) with | true => ibin op k m n | false => .no
  | .string s, .string s' => sbin op s s'
  | a, b =>
    match op with
    | .eql => match isNilC y, T.get xType with
      | true, some i => match nilTest i.desc a b with
        | some r => .val (.bool r)
        | none => .read (fun (r : Bool) w => (do eqGuard op xType x y a b; binOp op xType a b : Sem Value).run P w = .ok (.bool r) w) (fun r => .bool r)
      | _, _ => .read (fun (r : Bool) w => (do eqGuard op xType x y a b; binOp op xType a b : Sem Value).run P w = .ok (.bool r) w) (fun r => .bool r)
    | .neq => match isNilC y, T.get xType with
      | true, some i => match nilTest i.desc a b with
        | some r => .val (.bool !r)
        | none => .read (fun (r : Bool) w => (do eqGuard op xType x y a b; binOp op xType a b : Sem Value).run P w = .ok (.bool r) w) (fun r => .bool r)
      | _, _ => .read (fun (r : Bool) w => (do eqGuard op xType x y a b; binOp op xType a b : Sem Value).run P w = .ok (.bool r) w) (fun r => .bool r)
    | _ => .no

/-- values of such a type are held unread -/
def isOpq : TypeDesc → Bool
  | .func _ _ _ => true
  | .interface _ => true
  | _ => false
def isOpqT (T : Tab) (t : TypeId) : Bool := match T.get t with | some i => isOpq i.desc | none => false
def binQ (T : Tab) (P : Program) (op : BinOp) (xType : TypeId) (x y : Operand) (a b : Value) : QR :=
  match isOpqT T xType with
  | true => match op with
    | .eql => .read (fun (r : Bool) w => (do eqGuard op xType x y a b; binOp op xType a b : Sem Value).run P w = .ok (.bool r) w) (fun r => .bool r)
    | .neq => .read (fun (r : Bool) w => (do eqGuard op xType x y a b; binOp op xType a b : Sem Value).run P w = .ok (.bool r) w) (fun r => .bool r)
    | _ => .no
  | false => binQ0 T P op xType x y a b

def loadQ (T : Tab) (t : TypeId) (p : Addr) : QR :=
  match T.get t with
  | some i => match i.ty with
    | .one c => .read (fun (x : c.T) w => w.cell? p = some (c.val x)) (fun x => c.val x)
    | .agg cs => .read (fun (x : Cells.T cs) w => cellsAt w p 0 (Cells.vals cs x)) (fun x => .agg (Cells.vals cs x).toArray)
  | none => .no

/-- the bounds of a slice expression: low, high, max; what each may be at most -/
def bnd (v : Option Value) (d : Nat) : Option (Int × Bool) :=
  match v with
  | none => some (d, false)
  | some (.int _ n) => some (n, true)
  | _ => none

def sliceQ (T : Tab) (t : TypeId) (x : Value) (lo hi mx : Option Value) : QR :=
  match T.get t with
  | some i => match i.desc, x with
    | .slice e, .slice a len cap => match T.get e, bnd lo 0, bnd hi len, bnd mx cap with
      | some j, some l, some h, some m => match hi, mx with
        | none, some _ => .no
        | _, _ => .cond (fun _ : Unit => 0 ≤ l.1 ∧ l.1 ≤ h.1 ∧ h.1 ≤ m.1 ∧ m.1 ≤ cap) (fun _ => .slice (Sl.cut a l.1 h.1 m.1 j.size).a (Sl.cut a l.1 h.1 m.1 j.size).len (Sl.cut a l.1 h.1 m.1 j.size).cap)
      | _, _, _, _ => .no
    | .string, .string s => match bnd lo 0, bnd hi s.size, mx with
      | some l, some h, none => .cond (fun _ : Unit => 0 ≤ l.1 ∧ l.1 ≤ h.1 ∧ h.1 ≤ s.size) (fun _ => .string (s.extract l.1.toNat h.1.toNat))
      | _, _, _ => .no
    | .array n e, .pointer (some a) => match T.get e, bnd lo 0, bnd hi n, bnd mx n with
      | some j, some l, some h, some m => match hi, mx with
        | none, some _ => .no
        | _, _ => .cond (fun _ : Unit => 0 ≤ l.1 ∧ l.1 ≤ h.1 ∧ h.1 ≤ m.1 ∧ m.1 ≤ n) (fun _ => .slice (Sl.cut (some a) l.1 h.1 m.1 j.size).a (Sl.cut (some a) l.1 h.1 m.1 j.size).len (Sl.cut (some a) l.1 h.1 m.1 j.size).cap)
      | _, _, _, _ => .no
    | _, _ => .no
  | none => .no

def partQ (T : Tab) (t : TypeId) (cs : List Value) (off : Nat) : QR :=
  match T.get t with
  | some i => match isAggD i.desc with
    | true => .val (.agg ((cs.drop off).take i.size).toArray)
    | false => match cs[off]? with
      | some v => .val v
      | none => .no
  | none => .no

/-- a row of cells with others put in -/
def putIn : List Value → Nat → List Value → List Value
  | cs, _, [] => cs
  | cs, off, v :: r => putIn (cs.set off v) (off + 1) r

def evs (ev : Ev) : List Operand → Option (List Value)
  | [] => some []
  | x :: r => match ev x, evs ev r with
    | some v, some l => some (v :: l)
    | _, _ => none

def fillQ (place : Nat → Option (Nat × Nat)) : List Value → List (Nat × Value) → Option (List Value)
  | cs, [] => some cs
  | cs, p :: r => match place p.1 with
    | none => none
    | some os => match Nat.beq p.2.cells.toList.length os.2 && Nat.ble (os.1 + p.2.cells.toList.length) cs.length with
      | true => fillQ place (putIn cs os.1 p.2.cells.toList) r
      | false => none

def evPs (ev : Ev) : List (Nat × Operand) → Option (List (Nat × Value))
  | [] => some []
  | x :: r => match ev x.2, evPs ev r with
    | some v, some l => some ((x.1, v) :: l)
    | _, _ => none

/-- the places of a struct's fields: offset and size -/
def placesQ (T : Tab) : List Field → Option (List (Nat × Nat))
  | [] => some []
  | f :: r => match T.get f.type, placesQ T r with
    | some j, some l => some ((f.offset, j.size) :: l)
    | _, _ => none

def buildQ (T : Tab) (t : TypeId) (ps : List (Nat × Value)) : QR :=
  match T.get t with
  | some i => match i.desc, i.zero with
    | .struct fs, some z => match placesQ T fs.toList with
      | some pl => match fillQ (fun k => pl[k]?) z.cells.toList ps with
        | some cs => .val (.agg cs.toArray)
        | none => .no
      | none => .no
    | .array _ e, some z => match T.get e with
      | some j => match fillQ (fun k => some (k * j.size, j.size)) z.cells.toList ps with
        | some cs => .val (.agg cs.toArray)
        | none => .no
      | none => .no
    | _, _ => .no
  | none => .no

def maxQ (isMax : Bool) : List Value → QR
  | [.int k x, .int _ y] => .val (.int k (match isMax with | true => if y > x then y else x | false => if y < x then y else x))
  | _ => .no

def quiet (T : Tab) (P : Program) (ev : Ev) (o : Oper) : QR :=
  match o.op with
  | .move x | .assign x => match ev x with | some v => .val v | none => .no
  | .pick c a b => match ev c with
    | some (.bool true) => (match ev a with | some v => .val v | none => .no)
    | some (.bool false) => (match ev b with | some v => .val v | none => .no)
    | _ => .no
  | .nilCheck x => match ev x with
    | some (.pointer p) => .cond (fun (a : Addr) => p = some a) (fun a => .pointer (some a))
    | some (.func (.func f) a b) => .val (.func (.func f) a b)
    | some (.iface t v) => .val (.iface t v)
    | _ => .no
  | .fieldAddr s x f => match ev x, T.get s with
    | some (.pointer (some a)), some i => match i.desc with
      | .struct fs => match fs.toList[f]? with
        | some fd => match T.get fd.type with
          | some j => match Nat.beq j.size 0 with
            | false => .val (.pointer (some (a.add fd.offset)))
            | true => .no
          | none => .no
        | none => .no
      | _ => .no
    | _, _ => .no
  | .field s x f => match ev x, T.get s with
    | some (.agg cs), some i => match i.desc with
      | .struct fs => match fs.toList[f]? with
        | some fd => partQ T fd.type cs.toList fd.offset
        | none => .no
      | _ => .no
    | _, _ => .no
  | .indexAddr t x ix => match ev x, ev ix, T.get t with
    | some (.slice a len _), some (.int _ n), some i => match i.desc with
      | .slice e => match T.get e with
        | some j => .cond (fun (p : Addr) => a = some p ∧ 0 ≤ n ∧ n < len) (fun p => .pointer (some (p.add (scaled n.toNat j.size))))
        | none => .no
      | _ => .no
    | some (.pointer (some p)), some (.int _ n), some i => match i.desc with
      | .array len e => match T.get e with
        | some j => .cond (fun (_ : Unit) => 0 ≤ n ∧ n < len) (fun _ => .pointer (some (p.add (scaled n.toNat j.size))))
        | none => .no
      | _ => .no
    | _, _, _ => .no
  | .index t x ix => match ev x, ev ix, T.get t with
    | some (.string s), some (.int _ n), some i => match i.desc with
      | .string => .cond (fun (b : UInt8) => 0 ≤ n ∧ s[n.toNat]? = some b) (fun b => .int .u8 b.toNat)
      | _ => .no
    | _, _, _ => .no
  | .load t x => match ev x with
    | some (.pointer (some p)) => loadQ T t p
    | _ => .no
  | .binOp op t x y _ => match ev x, ev y with
    | some a, some b => binQ T P op t x y a b
    | _, _ => .no
  | .unOp op _ x => match op, ev x with
    | .not, some (.bool b) => .val (.bool !b)
    | .neg, some (.int k n) => .val (.int k (k.wrap (0 - n)))
    | _, _ => .no
  | .convert src dst x => match ev x, T.get src, T.get dst with
    | some (.int _ n), some i, some j => match i.desc, j.desc with
      | .int _, .int k => .val (.int k (k.wrap n))
      | _, _ => .no
    | _, _, _ => .no
  | .extract t ix => match ev t with
    | some (.tuple vs) => match vs.toList[ix]? with | some v => .val v | none => .no
    | _ => .no
  | .build t parts => match evPs ev parts.toList with
    | some ps => buildQ T t ps
    | none => .no
  | .slice t x lo hi mx => match ev x, (match lo with | none => some none | some y => (ev y).map some), (match hi with | none => some none | some y => (ev y).map some), (match mx with | none => some none | some y => (ev y).map some) with
    | some v, some l, some h, some m => sliceQ T t v l h m
    | _, _, _, _ => .no
  | .makeInterface t x => match ev x, T.get t with
    | some v, some i => match i.desc with
      | .interface _ => .no
      | _ => .val (.iface t v)
    | _, _ => .no
  | .makeFunc fn first captured => match evs ev first.toList, evs ev captured.toList with
    | some a, some b => .val (.func fn a.toArray b.toArray)
    | _, _ => .no
  | .lookup t m k ok => match ev m, ev k, T.get o.type with
    | some vm, some vk, some i => .read (fun (x : i.rty.T) w => (Instr.lookup t vm vk ok).run P w = .ok (i.rty.val x) w) (fun x => i.rty.val x)
    | _, _, _ => .no
  | .call c => match c.callee with
    | .builtin b => match evs ev c.args.toList, c.argTypes.toList with
      | some [x], [t] => match b, x, T.get t with
        | .len, .slice _ n _, some i => (match i.desc with | .slice _ => .val (.int .i64 n) | _ => .no)
        | .cap, .slice _ _ n, some i => (match i.desc with | .slice _ => .val (.int .i64 n) | _ => .no)
        | .len, .string s, some i => (match i.desc with | .string => .val (.int .i64 s.size) | _ => .no)
        | .len, .map m, some i => (match i.desc with
          | .map _ _ => .read (fun (n : Int) w => (Builtin.len_ c.argTypes o.type #[.map m]).run P w = .ok (.int .i64 n) w) (fun n => .int .i64 n)
          | _ => .no)
        | _, _, _ => .no
      | some l, _ => match b with
        | .max => maxQ true l
        | .min => maxQ false l
        | _ => .no
      | none, _ => .no
    | _ => .no
  | _ => .no

/-- How each operation is treated. -/
def Tab.cls (T : Tab) : Op → Cl
  | .move _ | .assign _ | .pick .. | .nilCheck _ | .fieldAddr .. | .field .. | .indexAddr .. | .index .. | .unOp .. | .extract .. | .build .. | .slice .. | .makeInterface .. | .makeFunc .. => .free
  | .load .. | .lookup .. | .binOp .. => .read
  | .convert src dst _ => match T.get src, T.get dst with
    | some i, some j => (match i.desc, j.desc with | .int _, .int _ => .free | _, _ => .eff)
    | _, _ => .eff
  | .call c => match c.callee with
    | .builtin .len | .builtin .cap | .builtin .max | .builtin .min => .read
    | _ => .eff
  | _ => .eff

def isOne : Value → Bool
  | .agg _ | .tuple _ => false
  | _ => true

def oneAll : List Value → Bool
  | [] => true
  | v :: r => isOne v && oneAll r
/-- values of one cell each, at their places -/
def fillO : List Value → List (Nat × Value) → Option (List Value)
  | cs, [] => some cs
  | cs, p :: r => match Nat.blt p.1 cs.length with
    | true => fillO (cs.set p.1 p.2) r
    | false => none

def aggSt (p : Addr) (v : Value) (n : Nat) (K : World → Prop) : World → Prop :=
  match Nat.beq v.cells.toList.length n && v.cells.toList.all isOne with
  | true => stCs p 0 v.cells.toList K
  | false => fun _ => False

/-- What an operation that may do anything asks, and how it goes on. -/
def eff (T : Tab) (P : Program) (ev : Ev) (o : Oper) (rt : Option RTy) (K : Value → World → Prop) : World → Prop :=
  match o.op with
  | .alloc t => match T.get t with
    | some i => match i.zero with
      | some z => newO (.cells z.cells t) fun b => K (.pointer (some ⟨b, 0, none⟩))
      | none => fun _ => False
    | none => fun _ => False
  | .box t x => match ev x with
    | some v => (match isOpqT T t with
      | true => cdE (fun _ : Unit => oneAll [v] = true) (fun _ => newO (.cells #[v] t) fun b => K (.pointer (some ⟨b, 0, none⟩)))
      | false => newO (.cells v.cells t) fun b => K (.pointer (some ⟨b, 0, none⟩)))
    | none => fun _ => False
  | .buildSlice t len parts => match evPs ev parts.toList, T.get t with
    | some ps, some i => match i.desc with
      | .slice e => match T.get e with
        | some j => match j.zero, Nat.ble (len * j.size) (2 ^ 24) && !Nat.beq j.size 0 with
          | some z, true => (match isOpqT T e && Nat.beq j.size 1 with
            | true => cdE (fun _ : Unit => oneAll (ps.map (·.2)) = true) (fun _ => match fillO ((List.range (len * j.size)).map fun k => (z.cells.toList)[k % z.cells.toList.length]?.getD default) ps with
              | some cs => newO (.cells cs.toArray e) fun b => K (.slice (some ⟨b, 0, none⟩) len len)
              | none => fun _ => False)
            | false => match fillQ (fun k => some (k * j.size, j.size)) ((List.range (len * j.size)).map fun k => (z.cells.toList)[k % z.cells.toList.length]?.getD default) ps with
              | some cs => newO (.cells cs.toArray e) fun b => K (.slice (some ⟨b, 0, none⟩) len len)
              | none => fun _ => False)
          | _, _ => fun _ => False
        | none => fun _ => False
      | _ => fun _ => False
    | _, _ => fun _ => False
  | .store t a x => match ev a, ev x, T.get t with
    | some (.pointer (some p)), some v, some i => match i.ty, isOne v with
      | .one .any, _ => (match Nat.beq i.size 1 with | true => cdE (fun _ : Unit => isOne v = true) (fun _ => stC p v (K undef)) | false => fun _ => False)
      | .one _, true => (match Nat.beq i.size 1 with | true => stC p v (K undef) | false => fun _ => False)
      | .agg _, _ => aggSt p v i.size (K undef)
      | _, false => fun _ => False
    | _, _, _ => fun _ => False
  | .makeMap _ none => newO (.map #[] 0) fun b => K (.map (some b))
  | .makeSlice t l c => match ev l, ev c, rt with
    | some vl, some vc, some i => rawT P i (Instr.makeSlice t vl vc) fun x => K (i.val x)
    | _, _, _ => fun _ => False
  | .convert s d x => match ev x, rt with
    | some v, some i => rawT P i (convert s d v) fun x => K (i.val x)
    | _, _ => fun _ => False
  | .mapUpdate t m k x => match ev m, ev k, ev x with
    | some vm, some vk, some vx => rawU P (Instr.mapUpdate t vm vk vx) (K undef)
    | _, _, _ => fun _ => False
  | .insert t m k x => match ev m, ev k, ev x with
    | some vm, some vk, some vx => rawU P (Instr.mapUpdate t vm vk vx) (K undef)
    | _, _, _ => fun _ => False
  | .mapEntry t m k => match ev m, ev k, rt with
    | some vm, some vk, some i => rawT P i (Instr.mapEntry t vm vk) fun x => K (i.val x)
    | _, _, _ => fun _ => False
  | .entryStore t m s x => match ev m, ev s, ev x with
    | some vm, some vs, some vx => rawU P (Instr.entryStore t vm vs vx) (K undef)
    | _, _, _ => fun _ => False
  | .range t x => match ev x with
    | some v => rawT P (.one (.one .ptr)) (Instr.range t v) fun x => K (.pointer x)
    | none => fun _ => False
  | .next it str => match ev it with
    | some v => nextE P (Instr.next v str o.type) fun b rest => K (.tuple (.bool b :: rest).toArray)
    | none => fun _ => False
  | .entry it => match ev it, rt with
    | some v, some i => rawT P i (Instr.entry v) fun x => K (i.val x)
    | _, _ => fun _ => False
  | .typeAssert x xt as_ ok => match ev x, rt with
    | some v, some i => rawT P i (Instr.typeAssert v xt as_ ok) fun x => K (i.val x)
    | _, _ => fun _ => False
  | .waits g => match rt with
    | some i => rawT P i (Instr.waits g) fun x => K (i.val x)
    | _ => fun _ => False
  | .call c => match evs ev c.args.toList, rt with
    | some args, some i => match c.callee with
      | .builtin b => match b with
        | .append => rawT P i (Builtin.append_ c.argTypes o.type args.toArray) fun x => K (i.val x)
        | .copy => rawT P i (Builtin.copy_ c.argTypes o.type args.toArray) fun x => K (i.val x)
        | .delete => rawT P i (Builtin.delete_ c.argTypes o.type args.toArray) fun x => K (i.val x)
        | .clear => rawT P i (Builtin.clear_ c.argTypes o.type args.toArray) fun x => K (i.val x)
        | _ => fun _ => False
      | .value f => match f with
        | .func g => match T.fns.elem g with
          | true => callT P g args.toArray i fun x => K (i.val x)
          | false => callX P (callFunc g args.toArray) i fun x => K (i.val x)
        | f => match ev f with
          | some vf => callX P (do let d ← Deferred.ofValue vf args.toArray; invoke d.target d.args) i fun x => K (i.val x)
          | none => fun _ => False
      | .invoke r name => match ev r with
        | some vr => callX P (invoke (.fn (.method name) #[]) (#[vr] ++ args.toArray)) i fun x => K (i.val x)
        | none => fun _ => False
    | _, _ => fun _ => False
  | _ => fun _ => False

end Go.Vx
