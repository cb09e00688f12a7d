/-
  No cell of these rows narrows 'for every input' (looked for: loops, veiled, ifaces, maps, wideKeys, modest, calm, conditions, laid).
  DERIVED. THE GIVEN ROWS OF THIS SEAT. 8 by the template 'for every input the law returns true; each argument reads behind the call as it read before'; 0 by the template 'total and deterministic' (their statements: YtolhlldgnfbemaaGreatTotals.lean).
  GIVEN WITH THE SEED: the statements are not yours to turn. If you find one false, say at which input.
  Laid BY PROGRAM, IN A SANDBOX (cutbox-rows.mjs): the forced cells as the released guide's own fill.sh prints them over the translation 4740132b7454842c… (all of the seat's roots in one cut). By AI agents, Wed Nov 11 2026. No macro, syntax, notation, axiom, sorry.
-/
import Derived.Test.YtolhlldgnfbemaaGreatChecked
import GoSem.Claim
import GoSem.ClaimJoined
import GoSem.ClaimMapViews
import Derived.JoinedTies
import Derived.KernelRfl
namespace Go.Proofs.YtolhlldgnfbemaaGreat
/- THE CELL 'sum', in the pinned program and in every row, IS THE sha256 OF THE DUMP (.gsa) THAT YtolhlldgnfbemaaGreatProg.lean LOADS. Nothing in Lean hashes anything: it is a label: what it is worth is what the hold of that sum in a sandbox is worth. -/
noncomputable def Tryz.pinned : Pinned := { name := "ytolhlldgnfbemaagreat", sum := "4740132b7454842c41a61506f6d26f55b7967d49748539c9a80aaa42c2ebb4eb", checked := Tryz.checked }
namespace Rows
def none {H : Type} : Left H := { results := [], args := [] }

/-- 'copyistlaw8.MotionSteps': WHATEVER THE INPUT: true; the input reads as it did. -/
def motionStepsSpec : ChangeSpec := { name := "motionSteps", fn := fun _ => fun
  | [d] => { results := [.lit (.bool true)], args := [d] }
  | _ => none }
def motionStepsRow : OpenClaim := { program := "ytolhlldgnfbemaagreat", sum := "4740132b7454842c41a61506f6d26f55b7967d49748539c9a80aaa42c2ebb4eb", func := "copyist/copyistlaw8.MotionSteps", spec := "motionSteps", unfollowed := true, recurses := true, apart := false }
def MotionStepsSaid : Prop := motionStepsRow.holds Tryz.pinned (OpenSpec.ofChange motionStepsSpec)

/-- ITS FALSE NEIGHBOUR: 'it returns false'. Refute it at one input. -/
def motionStepsWrong : ChangeSpec := { name := "motionSteps", fn := fun _ => fun
  | [d] => { results := [.lit (.bool false)], args := [d] }
  | _ => none }
def MotionStepsWrongFalsely : Prop := motionStepsRow.holds Tryz.pinned (OpenSpec.ofChange motionStepsWrong)

/-- 'copyistlaw8.MotionFound': WHATEVER THE INPUT: true; the input reads as it did. -/
def motionFoundSpec : ChangeSpec := { name := "motionFound", fn := fun _ => fun
  | [d] => { results := [.lit (.bool true)], args := [d] }
  | _ => none }
def motionFoundRow : OpenClaim := { program := "ytolhlldgnfbemaagreat", sum := "4740132b7454842c41a61506f6d26f55b7967d49748539c9a80aaa42c2ebb4eb", func := "copyist/copyistlaw8.MotionFound", spec := "motionFound", unfollowed := true, recurses := true, apart := false }
def MotionFoundSaid : Prop := motionFoundRow.holds Tryz.pinned (OpenSpec.ofChange motionFoundSpec)

/-- ITS FALSE NEIGHBOUR: 'it returns false'. Refute it at one input. -/
def motionFoundWrong : ChangeSpec := { name := "motionFound", fn := fun _ => fun
  | [d] => { results := [.lit (.bool false)], args := [d] }
  | _ => none }
def MotionFoundWrongFalsely : Prop := motionFoundRow.holds Tryz.pinned (OpenSpec.ofChange motionFoundWrong)

/-- 'copyistlaw8.MotionRowsKept': WHATEVER THE INPUT: true; the input reads as it did. -/
def motionRowsKeptSpec : ChangeSpec := { name := "motionRowsKept", fn := fun _ => fun
  | [d] => { results := [.lit (.bool true)], args := [d] }
  | _ => none }
def motionRowsKeptRow : OpenClaim := { program := "ytolhlldgnfbemaagreat", sum := "4740132b7454842c41a61506f6d26f55b7967d49748539c9a80aaa42c2ebb4eb", func := "copyist/copyistlaw8.MotionRowsKept", spec := "motionRowsKept", unfollowed := true, recurses := true, apart := false }
def MotionRowsKeptSaid : Prop := motionRowsKeptRow.holds Tryz.pinned (OpenSpec.ofChange motionRowsKeptSpec)

/-- ITS FALSE NEIGHBOUR: 'it returns false'. Refute it at one input. -/
def motionRowsKeptWrong : ChangeSpec := { name := "motionRowsKept", fn := fun _ => fun
  | [d] => { results := [.lit (.bool false)], args := [d] }
  | _ => none }
def MotionRowsKeptWrongFalsely : Prop := motionRowsKeptRow.holds Tryz.pinned (OpenSpec.ofChange motionRowsKeptWrong)

/-- 'copyistlaw8.MotionMatch': WHATEVER THE INPUT: true; the input reads as it did. -/
def motionMatchSpec : ChangeSpec := { name := "motionMatch", fn := fun _ => fun
  | [d] => { results := [.lit (.bool true)], args := [d] }
  | _ => none }
def motionMatchRow : OpenClaim := { program := "ytolhlldgnfbemaagreat", sum := "4740132b7454842c41a61506f6d26f55b7967d49748539c9a80aaa42c2ebb4eb", func := "copyist/copyistlaw8.MotionMatch", spec := "motionMatch", unfollowed := true, recurses := true, apart := false }
def MotionMatchSaid : Prop := motionMatchRow.holds Tryz.pinned (OpenSpec.ofChange motionMatchSpec)

/-- ITS FALSE NEIGHBOUR: 'it returns false'. Refute it at one input. -/
def motionMatchWrong : ChangeSpec := { name := "motionMatch", fn := fun _ => fun
  | [d] => { results := [.lit (.bool false)], args := [d] }
  | _ => none }
def MotionMatchWrongFalsely : Prop := motionMatchRow.holds Tryz.pinned (OpenSpec.ofChange motionMatchWrong)

/-- 'copyistlaw8.MotionTimes': WHATEVER THE INPUT: true; the input reads as it did. -/
def motionTimesSpec : ChangeSpec := { name := "motionTimes", fn := fun _ => fun
  | [d] => { results := [.lit (.bool true)], args := [d] }
  | _ => none }
def motionTimesRow : OpenClaim := { program := "ytolhlldgnfbemaagreat", sum := "4740132b7454842c41a61506f6d26f55b7967d49748539c9a80aaa42c2ebb4eb", func := "copyist/copyistlaw8.MotionTimes", spec := "motionTimes", unfollowed := true, recurses := true, apart := false }
def MotionTimesSaid : Prop := motionTimesRow.holds Tryz.pinned (OpenSpec.ofChange motionTimesSpec)

/-- ITS FALSE NEIGHBOUR: 'it returns false'. Refute it at one input. -/
def motionTimesWrong : ChangeSpec := { name := "motionTimes", fn := fun _ => fun
  | [d] => { results := [.lit (.bool false)], args := [d] }
  | _ => none }
def MotionTimesWrongFalsely : Prop := motionTimesRow.holds Tryz.pinned (OpenSpec.ofChange motionTimesWrong)

/-- 'copyistlaw8.MotionHome': WHATEVER THE INPUT: true; the input reads as it did. -/
def motionHomeSpec : ChangeSpec := { name := "motionHome", fn := fun _ => fun
  | [d] => { results := [.lit (.bool true)], args := [d] }
  | _ => none }
def motionHomeRow : OpenClaim := { program := "ytolhlldgnfbemaagreat", sum := "4740132b7454842c41a61506f6d26f55b7967d49748539c9a80aaa42c2ebb4eb", func := "copyist/copyistlaw8.MotionHome", spec := "motionHome", unfollowed := true, recurses := true, apart := false }
def MotionHomeSaid : Prop := motionHomeRow.holds Tryz.pinned (OpenSpec.ofChange motionHomeSpec)

/-- ITS FALSE NEIGHBOUR: 'it returns false'. Refute it at one input. -/
def motionHomeWrong : ChangeSpec := { name := "motionHome", fn := fun _ => fun
  | [d] => { results := [.lit (.bool false)], args := [d] }
  | _ => none }
def MotionHomeWrongFalsely : Prop := motionHomeRow.holds Tryz.pinned (OpenSpec.ofChange motionHomeWrong)

/-- 'copyistlaw8.MotionSpans': WHATEVER THE INPUT: true; the input reads as it did. -/
def motionSpansSpec : ChangeSpec := { name := "motionSpans", fn := fun _ => fun
  | [d] => { results := [.lit (.bool true)], args := [d] }
  | _ => none }
def motionSpansRow : OpenClaim := { program := "ytolhlldgnfbemaagreat", sum := "4740132b7454842c41a61506f6d26f55b7967d49748539c9a80aaa42c2ebb4eb", func := "copyist/copyistlaw8.MotionSpans", spec := "motionSpans", unfollowed := true, recurses := true, apart := false }
def MotionSpansSaid : Prop := motionSpansRow.holds Tryz.pinned (OpenSpec.ofChange motionSpansSpec)

/-- ITS FALSE NEIGHBOUR: 'it returns false'. Refute it at one input. -/
def motionSpansWrong : ChangeSpec := { name := "motionSpans", fn := fun _ => fun
  | [d] => { results := [.lit (.bool false)], args := [d] }
  | _ => none }
def MotionSpansWrongFalsely : Prop := motionSpansRow.holds Tryz.pinned (OpenSpec.ofChange motionSpansWrong)

/-- 'copyistlaw8.MotionCut': WHATEVER THE INPUT: true; the input reads as it did. -/
def motionCutSpec : ChangeSpec := { name := "motionCut", fn := fun _ => fun
  | [d] => { results := [.lit (.bool true)], args := [d] }
  | _ => none }
def motionCutRow : OpenClaim := { program := "ytolhlldgnfbemaagreat", sum := "4740132b7454842c41a61506f6d26f55b7967d49748539c9a80aaa42c2ebb4eb", func := "copyist/copyistlaw8.MotionCut", spec := "motionCut", unfollowed := true, recurses := true, apart := false }
def MotionCutSaid : Prop := motionCutRow.holds Tryz.pinned (OpenSpec.ofChange motionCutSpec)

/-- ITS FALSE NEIGHBOUR: 'it returns false'. Refute it at one input. -/
def motionCutWrong : ChangeSpec := { name := "motionCut", fn := fun _ => fun
  | [d] => { results := [.lit (.bool false)], args := [d] }
  | _ => none }
def MotionCutWrongFalsely : Prop := motionCutRow.holds Tryz.pinned (OpenSpec.ofChange motionCutWrong)

/- THE SECOND FORM. 'bulk': how many values and letters a reading holds, each counted each time it is reached (what is shared counts as often as it is met; a slice's spare places count too). A statement '..UptoSaid' is the law's where the arguments, and the package variables that the reading takes, are together of bulk at most 1048576: NARROWER than '..Said'. Prove '..Said' where nothing that the law and all that it calls make is longer than what came in: it says more and counts as full. Else prove '..UptoSaid'. A law counts once. -/
mutual
def uptoBulk {H : Type} : DataW H → Nat
  | .lit (.string bytes) => bytes.length + 1
  | .lit _ => 1
  | .nil => 1
  | .ptr d => uptoBulk d + 1
  | .slice elems spare => uptoBulkAll elems + uptoBulkAll spare + 1
  | .agg parts => uptoBulkAll parts + 1
  | .iface _ d => uptoBulk d + 1
  | .map entries => uptoBulkEntries entries + 1
  | .held _ => 1
def uptoBulkAll {H : Type} : List (DataW H) → Nat
  | [] => 0
  | d :: r => uptoBulk d + uptoBulkAll r
def uptoBulkEntries {H : Type} : List (Lit × DataW H) → Nat
  | [] => 0
  | x :: r => uptoBulkEntry x + uptoBulkEntries r
def uptoBulkEntry {H : Type} : Lit × DataW H → Nat
  | (.string bytes, d) => bytes.length + uptoBulk d + 1
  | (_, d) => uptoBulk d + 1
 end
def uptoSmall : (H : Type) → List (DataW H) → Bool := fun _ ds => decide (uptoBulkAll ds ≤ 1048576)
def OpenSpec.upto (s : _root_.Go.ChangeSpec) : _root_.Go.OpenSpec := { _root_.Go.OpenSpec.ofChange s with cond := some uptoSmall }

/-- 'copyistlaw8.MotionSteps', WHERE WHAT IT READS IS OF BULK AT MOST 1048576: true; the input reads as it did. -/
def motionStepsUptoRow : OpenClaim := { program := "ytolhlldgnfbemaagreat", sum := "4740132b7454842c41a61506f6d26f55b7967d49748539c9a80aaa42c2ebb4eb", func := "copyist/copyistlaw8.MotionSteps", spec := "motionSteps", unfollowed := true, recurses := true, apart := false, narrowed := true }
def MotionStepsUptoSaid : Prop := motionStepsUptoRow.holds Tryz.pinned (OpenSpec.upto motionStepsSpec)

/-- 'copyistlaw8.MotionFound', WHERE WHAT IT READS IS OF BULK AT MOST 1048576: true; the input reads as it did. -/
def motionFoundUptoRow : OpenClaim := { program := "ytolhlldgnfbemaagreat", sum := "4740132b7454842c41a61506f6d26f55b7967d49748539c9a80aaa42c2ebb4eb", func := "copyist/copyistlaw8.MotionFound", spec := "motionFound", unfollowed := true, recurses := true, apart := false, narrowed := true }
def MotionFoundUptoSaid : Prop := motionFoundUptoRow.holds Tryz.pinned (OpenSpec.upto motionFoundSpec)

/-- 'copyistlaw8.MotionRowsKept', WHERE WHAT IT READS IS OF BULK AT MOST 1048576: true; the input reads as it did. -/
def motionRowsKeptUptoRow : OpenClaim := { program := "ytolhlldgnfbemaagreat", sum := "4740132b7454842c41a61506f6d26f55b7967d49748539c9a80aaa42c2ebb4eb", func := "copyist/copyistlaw8.MotionRowsKept", spec := "motionRowsKept", unfollowed := true, recurses := true, apart := false, narrowed := true }
def MotionRowsKeptUptoSaid : Prop := motionRowsKeptUptoRow.holds Tryz.pinned (OpenSpec.upto motionRowsKeptSpec)

/-- 'copyistlaw8.MotionMatch', WHERE WHAT IT READS IS OF BULK AT MOST 1048576: true; the input reads as it did. -/
def motionMatchUptoRow : OpenClaim := { program := "ytolhlldgnfbemaagreat", sum := "4740132b7454842c41a61506f6d26f55b7967d49748539c9a80aaa42c2ebb4eb", func := "copyist/copyistlaw8.MotionMatch", spec := "motionMatch", unfollowed := true, recurses := true, apart := false, narrowed := true }
def MotionMatchUptoSaid : Prop := motionMatchUptoRow.holds Tryz.pinned (OpenSpec.upto motionMatchSpec)

/-- 'copyistlaw8.MotionTimes', WHERE WHAT IT READS IS OF BULK AT MOST 1048576: true; the input reads as it did. -/
def motionTimesUptoRow : OpenClaim := { program := "ytolhlldgnfbemaagreat", sum := "4740132b7454842c41a61506f6d26f55b7967d49748539c9a80aaa42c2ebb4eb", func := "copyist/copyistlaw8.MotionTimes", spec := "motionTimes", unfollowed := true, recurses := true, apart := false, narrowed := true }
def MotionTimesUptoSaid : Prop := motionTimesUptoRow.holds Tryz.pinned (OpenSpec.upto motionTimesSpec)

/-- 'copyistlaw8.MotionHome', WHERE WHAT IT READS IS OF BULK AT MOST 1048576: true; the input reads as it did. -/
def motionHomeUptoRow : OpenClaim := { program := "ytolhlldgnfbemaagreat", sum := "4740132b7454842c41a61506f6d26f55b7967d49748539c9a80aaa42c2ebb4eb", func := "copyist/copyistlaw8.MotionHome", spec := "motionHome", unfollowed := true, recurses := true, apart := false, narrowed := true }
def MotionHomeUptoSaid : Prop := motionHomeUptoRow.holds Tryz.pinned (OpenSpec.upto motionHomeSpec)

/-- 'copyistlaw8.MotionSpans', WHERE WHAT IT READS IS OF BULK AT MOST 1048576: true; the input reads as it did. -/
def motionSpansUptoRow : OpenClaim := { program := "ytolhlldgnfbemaagreat", sum := "4740132b7454842c41a61506f6d26f55b7967d49748539c9a80aaa42c2ebb4eb", func := "copyist/copyistlaw8.MotionSpans", spec := "motionSpans", unfollowed := true, recurses := true, apart := false, narrowed := true }
def MotionSpansUptoSaid : Prop := motionSpansUptoRow.holds Tryz.pinned (OpenSpec.upto motionSpansSpec)

/-- 'copyistlaw8.MotionCut', WHERE WHAT IT READS IS OF BULK AT MOST 1048576: true; the input reads as it did. -/
def motionCutUptoRow : OpenClaim := { program := "ytolhlldgnfbemaagreat", sum := "4740132b7454842c41a61506f6d26f55b7967d49748539c9a80aaa42c2ebb4eb", func := "copyist/copyistlaw8.MotionCut", spec := "motionCut", unfollowed := true, recurses := true, apart := false, narrowed := true }
def MotionCutUptoSaid : Prop := motionCutUptoRow.holds Tryz.pinned (OpenSpec.upto motionCutSpec)

end Rows
end Go.Proofs.YtolhlldgnfbemaaGreat
