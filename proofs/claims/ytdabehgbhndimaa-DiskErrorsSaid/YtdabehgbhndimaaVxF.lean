/-
  Short words for the conditions, as the printed texts use them.
-/
import Derived.Test.YtdabehgbhndimaaVxE
set_option linter.unusedSimpArgs false
set_option linter.unusedVariables false
namespace Go.Vx
open Go

abbrev at0 (b : Nat) : Addr := ⟨b, 0, none⟩
def nn (p : Option Addr) (K : Addr → World → Prop) : World → Prop := cdE (fun a => p = some a) K
def ix (a : Option Addr) (len : Nat) (n : Int) (K : Addr → World → Prop) : World → Prop := cdE (fun p => a = some p ∧ 0 ≤ n ∧ n < len) K
def chk (c : Prop) (K : World → Prop) : World → Prop := cdE (fun _ : Unit => c) (fun _ => K)
def sidx (s : ByteArray) (n : Int) (K : UInt8 → World → Prop) : World → Prop := cdE (fun b => 0 ≤ n ∧ s[n.toNat]? = some b) K
def slc (a : Option Addr) (l h m : Int) (cap sz : Nat) (K : Sl → World → Prop) : World → Prop := chk (0 ≤ l ∧ l ≤ h ∧ h ≤ m ∧ m ≤ cap) (K (Sl.cut a l h m sz))
def ld (c : Cell) (p : Addr) (K : c.T → World → Prop) : World → Prop := rdE (fun (x : c.T) w => w.cell? p = some (c.val x)) K
def lds (cs : List Cell) (p : Addr) (K : Cells.T cs → World → Prop) : World → Prop := rdE (fun (x : Cells.T cs) w => cellsAt w p 0 (Cells.vals cs x)) K
def rdT (P : Program) (t : RTy) (s : Sem Value) (K : t.T → World → Prop) : World → Prop := rdE (fun (x : t.T) w => s.run P w = .ok (t.val x) w) K
def rdB (P : Program) (s : Sem Value) (K : Bool → World → Prop) : World → Prop := rdE (fun (r : Bool) w => s.run P w = .ok (.bool r) w) K
def rdN (P : Program) (s : Sem Value) (K : Int → World → Prop) : World → Prop := rdE (fun (r : Int) w => s.run P w = .ok (.int .i64 r) w) K

def RS.ops : Nat → RS → RS
  | 0, r => r
  | n + 1, r => .op none (RS.ops n r)
def RS.skips : Nat → RS → RS
  | 0, r => r
  | n + 1, r => .skip (RS.skips n r)

section
variable {w : World}

theorem nn_some {a : Addr} {K : Addr → World → Prop} (h : K a w) : nn (some a) K w := ⟨a, rfl, h⟩
theorem nn_iff {p : Option Addr} {K : Addr → World → Prop} : nn p K w ↔ ∃ a, p = some a ∧ K a w := Iff.rfl
theorem nn_some_iff {a : Addr} {K : Addr → World → Prop} : nn (some a) K w ↔ K a w :=
  ⟨(fun ⟨_, e, h⟩ => by cases e; exact h), nn_some⟩
theorem chk_iff {c : Prop} {K : World → Prop} : chk c K w ↔ c ∧ K w := ⟨fun ⟨_, a, b⟩ => ⟨a, b⟩, fun ⟨a, b⟩ => ⟨(), a, b⟩⟩
theorem sif_iff {b : Bool} {A B : World → Prop} : sif b A B w ↔ (b = true → A w) ∧ (b = false → B w) := Iff.rfl
theorem sif_true {A B : World → Prop} (h : A w) : sif true A B w := ⟨fun _ => h, (fun e => by cases e)⟩
theorem sif_false {A B : World → Prop} (h : B w) : sif false A B w := ⟨(fun e => by cases e), fun _ => h⟩
theorem ix_iff {a : Option Addr} {len : Nat} {n : Int} {K : Addr → World → Prop} : ix a len n K w ↔ ∃ p, (a = some p ∧ 0 ≤ n ∧ n < len) ∧ K p w := Iff.rfl
theorem ld_of {c : Cell} {p : Addr} {K : c.T → World → Prop} {x : c.T} (h : w.cell? p = some (c.val x)) (hK : K x w) : ld c p K w := ⟨x, h, hK⟩
theorem join_id {S : Type} {body : (S → World → Prop) → World → Prop} {rest : S → World → Prop} (h : body rest w) : join body rest w := ⟨rest, h, fun _ _ h => h⟩
/-- The ways meet at one value, in the same world. -/
theorem join_at {S : Type} {body : (S → World → Prop) → World → Prop} {rest : S → World → Prop} (s : S) (hb : body (fun s' w' => s' = s ∧ w' = w) w) (hr : rest s w) : join body rest w :=
  ⟨_, hb, fun _ _ ⟨e1, e2⟩ => by rw [e1, e2]; exact hr⟩
theorem callT_mono {P : Program} {f : FuncId} {args : Array Value} {t : RTy} {K K' : t.T → World → Prop} (h : callT P f args t K w) (hK : ∀ x w', K x w' → K' x w') : callT P f args t K' w :=
  Calls.mono h fun _ _ ⟨x, e, hx⟩ => ⟨x, e, hK _ _ hx⟩
end
end Go.Vx
