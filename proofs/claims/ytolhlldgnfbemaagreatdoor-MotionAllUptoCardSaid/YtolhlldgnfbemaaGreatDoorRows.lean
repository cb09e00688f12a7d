/-
  NARROWER THAN 'FOR EVERY INPUT', by the rows' own cells (each row's printed sentence says how): MotionPlaces: laid · MotionChars: laid · MotionRows: laid · MotionWords: laid · MotionParas: laid · MotionReach: laid · MotionAll: laid.
  DERIVED. THE GIVEN ROWS OF THIS SEAT. 7 by the template 'for every input the law returns true; each argument reads behind the call as it read before'; 0 by the template 'total and deterministic' (their statements: YtolhlldgnfbemaaGreatDoorTotals.lean).
  GIVEN WITH THE SEED: the statements are not yours to turn. If you find one false, say at which input.
  Laid BY PROGRAM, IN A SANDBOX (cutbox-rows.mjs): the forced cells as the released guide's own fill.sh prints them over the translation 680d488529b363e8… (all of the seat's roots in one cut). By AI agents, Wed Nov 11 2026. No macro, syntax, notation, axiom, sorry.
-/
import Derived.Test.YtolhlldgnfbemaaGreatDoorChecked
import GoSem.Claim
import GoSem.ClaimJoined
import GoSem.ClaimMapViews
import Derived.JoinedTies
import Derived.KernelRfl
namespace Go.Proofs.YtolhlldgnfbemaaGreatDoor
/- THE CELL 'sum', in the pinned program and in every row, IS THE sha256 OF THE DUMP (.gsa) THAT YtolhlldgnfbemaaGreatDoorProg.lean LOADS. Nothing in Lean hashes anything: it is a label: what it is worth is what the hold of that sum in a sandbox is worth. -/
noncomputable def Tryz.pinned : Pinned := { name := "ytolhlldgnfbemaagreatdoor", sum := "680d488529b363e8975922f3f0ba92614cb260aac8c6a6de4209340e81259173", checked := Tryz.checked }
namespace Rows
def none {H : Type} : Left H := { results := [], args := [] }

/- WHAT THE LISTED PACKAGE-LEVEL VARIABLES READ AS WHEN THE CALL BEGINS. Each datum BY PROGRAM (the guide's laid-datum.mjs) off the statement by which the dump's own 'gosem.cut.vars' lays the variable. In a bare row this is a premise. The card (YtolhlldgnfbemaaGreatDoorCards.lean) ties it to the program's text. -/
def laid_copyist_copyistref8_brackets {H : Type} : DataW H := .agg [.lit (.int .i64 40), .lit (.int .i64 91), .lit (.int .i64 123), .lit (.int .i64 41), .lit (.int .i64 93), .lit (.int .i64 125)]

/-- 'copyistlaw8.MotionPlaces': WHATEVER THE INPUT: true; the input reads as it did. -/
def motionPlacesSpec : ChangeSpec := { name := "motionPlaces", fn := fun _ => fun
  | [d] => { results := [.lit (.bool true)], args := [d] }
  | _ => none }
def motionPlacesRow : OpenClaim := { program := "ytolhlldgnfbemaagreatdoor", sum := "680d488529b363e8975922f3f0ba92614cb260aac8c6a6de4209340e81259173", func := "copyist/copyistlaw8.MotionPlaces", spec := "motionPlaces", unfollowed := true, recurses := true, named := ["copyist/copyistref8.brackets"], apart := false, laid := [("copyist/copyistref8.brackets", laid_copyist_copyistref8_brackets)] }
def MotionPlacesSaid : Prop := motionPlacesRow.holds Tryz.pinned (OpenSpec.ofChange motionPlacesSpec)

/-- ITS FALSE NEIGHBOUR: 'it returns false'. Refute it at one input. -/
def motionPlacesWrong : ChangeSpec := { name := "motionPlaces", fn := fun _ => fun
  | [d] => { results := [.lit (.bool false)], args := [d] }
  | _ => none }
def MotionPlacesWrongFalsely : Prop := motionPlacesRow.holds Tryz.pinned (OpenSpec.ofChange motionPlacesWrong)

/-- 'copyistlaw8.MotionChars': WHATEVER THE INPUT: true; the input reads as it did. -/
def motionCharsSpec : ChangeSpec := { name := "motionChars", fn := fun _ => fun
  | [d] => { results := [.lit (.bool true)], args := [d] }
  | _ => none }
def motionCharsRow : OpenClaim := { program := "ytolhlldgnfbemaagreatdoor", sum := "680d488529b363e8975922f3f0ba92614cb260aac8c6a6de4209340e81259173", func := "copyist/copyistlaw8.MotionChars", spec := "motionChars", unfollowed := true, recurses := true, named := ["copyist/copyistref8.brackets"], apart := false, laid := [("copyist/copyistref8.brackets", laid_copyist_copyistref8_brackets)] }
def MotionCharsSaid : Prop := motionCharsRow.holds Tryz.pinned (OpenSpec.ofChange motionCharsSpec)

/-- ITS FALSE NEIGHBOUR: 'it returns false'. Refute it at one input. -/
def motionCharsWrong : ChangeSpec := { name := "motionChars", fn := fun _ => fun
  | [d] => { results := [.lit (.bool false)], args := [d] }
  | _ => none }
def MotionCharsWrongFalsely : Prop := motionCharsRow.holds Tryz.pinned (OpenSpec.ofChange motionCharsWrong)

/-- 'copyistlaw8.MotionRows': WHATEVER THE INPUT: true; the input reads as it did. -/
def motionRowsSpec : ChangeSpec := { name := "motionRows", fn := fun _ => fun
  | [d] => { results := [.lit (.bool true)], args := [d] }
  | _ => none }
def motionRowsRow : OpenClaim := { program := "ytolhlldgnfbemaagreatdoor", sum := "680d488529b363e8975922f3f0ba92614cb260aac8c6a6de4209340e81259173", func := "copyist/copyistlaw8.MotionRows", spec := "motionRows", unfollowed := true, recurses := true, named := ["copyist/copyistref8.brackets"], apart := false, laid := [("copyist/copyistref8.brackets", laid_copyist_copyistref8_brackets)] }
def MotionRowsSaid : Prop := motionRowsRow.holds Tryz.pinned (OpenSpec.ofChange motionRowsSpec)

/-- ITS FALSE NEIGHBOUR: 'it returns false'. Refute it at one input. -/
def motionRowsWrong : ChangeSpec := { name := "motionRows", fn := fun _ => fun
  | [d] => { results := [.lit (.bool false)], args := [d] }
  | _ => none }
def MotionRowsWrongFalsely : Prop := motionRowsRow.holds Tryz.pinned (OpenSpec.ofChange motionRowsWrong)

/-- 'copyistlaw8.MotionWords': WHATEVER THE INPUT: true; the input reads as it did. -/
def motionWordsSpec : ChangeSpec := { name := "motionWords", fn := fun _ => fun
  | [d] => { results := [.lit (.bool true)], args := [d] }
  | _ => none }
def motionWordsRow : OpenClaim := { program := "ytolhlldgnfbemaagreatdoor", sum := "680d488529b363e8975922f3f0ba92614cb260aac8c6a6de4209340e81259173", func := "copyist/copyistlaw8.MotionWords", spec := "motionWords", unfollowed := true, recurses := true, named := ["copyist/copyistref8.brackets"], apart := false, laid := [("copyist/copyistref8.brackets", laid_copyist_copyistref8_brackets)] }
def MotionWordsSaid : Prop := motionWordsRow.holds Tryz.pinned (OpenSpec.ofChange motionWordsSpec)

/-- ITS FALSE NEIGHBOUR: 'it returns false'. Refute it at one input. -/
def motionWordsWrong : ChangeSpec := { name := "motionWords", fn := fun _ => fun
  | [d] => { results := [.lit (.bool false)], args := [d] }
  | _ => none }
def MotionWordsWrongFalsely : Prop := motionWordsRow.holds Tryz.pinned (OpenSpec.ofChange motionWordsWrong)

/-- 'copyistlaw8.MotionParas': WHATEVER THE INPUT: true; the input reads as it did. -/
def motionParasSpec : ChangeSpec := { name := "motionParas", fn := fun _ => fun
  | [d] => { results := [.lit (.bool true)], args := [d] }
  | _ => none }
def motionParasRow : OpenClaim := { program := "ytolhlldgnfbemaagreatdoor", sum := "680d488529b363e8975922f3f0ba92614cb260aac8c6a6de4209340e81259173", func := "copyist/copyistlaw8.MotionParas", spec := "motionParas", unfollowed := true, recurses := true, named := ["copyist/copyistref8.brackets"], apart := false, laid := [("copyist/copyistref8.brackets", laid_copyist_copyistref8_brackets)] }
def MotionParasSaid : Prop := motionParasRow.holds Tryz.pinned (OpenSpec.ofChange motionParasSpec)

/-- ITS FALSE NEIGHBOUR: 'it returns false'. Refute it at one input. -/
def motionParasWrong : ChangeSpec := { name := "motionParas", fn := fun _ => fun
  | [d] => { results := [.lit (.bool false)], args := [d] }
  | _ => none }
def MotionParasWrongFalsely : Prop := motionParasRow.holds Tryz.pinned (OpenSpec.ofChange motionParasWrong)

/-- 'copyistlaw8.MotionReach': WHATEVER THE INPUT: true; the input reads as it did. -/
def motionReachSpec : ChangeSpec := { name := "motionReach", fn := fun _ => fun
  | [d] => { results := [.lit (.bool true)], args := [d] }
  | _ => none }
def motionReachRow : OpenClaim := { program := "ytolhlldgnfbemaagreatdoor", sum := "680d488529b363e8975922f3f0ba92614cb260aac8c6a6de4209340e81259173", func := "copyist/copyistlaw8.MotionReach", spec := "motionReach", unfollowed := true, recurses := true, named := ["copyist/copyistref8.brackets"], apart := false, laid := [("copyist/copyistref8.brackets", laid_copyist_copyistref8_brackets)] }
def MotionReachSaid : Prop := motionReachRow.holds Tryz.pinned (OpenSpec.ofChange motionReachSpec)

/-- ITS FALSE NEIGHBOUR: 'it returns false'. Refute it at one input. -/
def motionReachWrong : ChangeSpec := { name := "motionReach", fn := fun _ => fun
  | [d] => { results := [.lit (.bool false)], args := [d] }
  | _ => none }
def MotionReachWrongFalsely : Prop := motionReachRow.holds Tryz.pinned (OpenSpec.ofChange motionReachWrong)

/-- 'copyistlaw8.MotionAll': WHATEVER THE INPUT: true; the input reads as it did. -/
def motionAllSpec : ChangeSpec := { name := "motionAll", fn := fun _ => fun
  | [d] => { results := [.lit (.bool true)], args := [d] }
  | _ => none }
def motionAllRow : OpenClaim := { program := "ytolhlldgnfbemaagreatdoor", sum := "680d488529b363e8975922f3f0ba92614cb260aac8c6a6de4209340e81259173", func := "copyist/copyistlaw8.MotionAll", spec := "motionAll", unfollowed := true, recurses := true, named := ["copyist/copyistref8.brackets"], apart := false, laid := [("copyist/copyistref8.brackets", laid_copyist_copyistref8_brackets)] }
def MotionAllSaid : Prop := motionAllRow.holds Tryz.pinned (OpenSpec.ofChange motionAllSpec)

/-- ITS FALSE NEIGHBOUR: 'it returns false'. Refute it at one input. -/
def motionAllWrong : ChangeSpec := { name := "motionAll", fn := fun _ => fun
  | [d] => { results := [.lit (.bool false)], args := [d] }
  | _ => none }
def MotionAllWrongFalsely : Prop := motionAllRow.holds Tryz.pinned (OpenSpec.ofChange motionAllWrong)

/- THE SECOND FORM. 'bulk': how many values and letters a reading holds, each counted each time it is reached (what is shared counts as often as it is met; a slice's spare places count too). A statement '..UptoSaid' is the law's where the arguments, and the package variables that the reading takes, are together of bulk at most 1048576: NARROWER than '..Said'. Prove '..Said' where nothing that the law and all that it calls make is longer than what came in: it says more and counts as full. Else prove '..UptoSaid'. A law counts once. -/
mutual
def uptoBulk {H : Type} : DataW H → Nat
  | .lit (.string bytes) => bytes.length + 1
  | .lit _ => 1
  | .nil => 1
  | .ptr d => uptoBulk d + 1
  | .slice elems spare => uptoBulkAll elems + uptoBulkAll spare + 1
  | .agg parts => uptoBulkAll parts + 1
  | .iface _ d => uptoBulk d + 1
  | .map entries => uptoBulkEntries entries + 1
  | .held _ => 1
def uptoBulkAll {H : Type} : List (DataW H) → Nat
  | [] => 0
  | d :: r => uptoBulk d + uptoBulkAll r
def uptoBulkEntries {H : Type} : List (Lit × DataW H) → Nat
  | [] => 0
  | x :: r => uptoBulkEntry x + uptoBulkEntries r
def uptoBulkEntry {H : Type} : Lit × DataW H → Nat
  | (.string bytes, d) => bytes.length + uptoBulk d + 1
  | (_, d) => uptoBulk d + 1
 end
def uptoSmall : (H : Type) → List (DataW H) → Bool := fun _ ds => decide (uptoBulkAll ds ≤ 1048576)
def OpenSpec.upto (s : _root_.Go.ChangeSpec) : _root_.Go.OpenSpec := { _root_.Go.OpenSpec.ofChange s with cond := some uptoSmall }

/-- 'copyistlaw8.MotionPlaces', WHERE WHAT IT READS IS OF BULK AT MOST 1048576: true; the input reads as it did. -/
def motionPlacesUptoRow : OpenClaim := { program := "ytolhlldgnfbemaagreatdoor", sum := "680d488529b363e8975922f3f0ba92614cb260aac8c6a6de4209340e81259173", func := "copyist/copyistlaw8.MotionPlaces", spec := "motionPlaces", unfollowed := true, recurses := true, named := ["copyist/copyistref8.brackets"], apart := false, laid := [("copyist/copyistref8.brackets", laid_copyist_copyistref8_brackets)], narrowed := true }
def MotionPlacesUptoSaid : Prop := motionPlacesUptoRow.holds Tryz.pinned (OpenSpec.upto motionPlacesSpec)

/-- 'copyistlaw8.MotionChars', WHERE WHAT IT READS IS OF BULK AT MOST 1048576: true; the input reads as it did. -/
def motionCharsUptoRow : OpenClaim := { program := "ytolhlldgnfbemaagreatdoor", sum := "680d488529b363e8975922f3f0ba92614cb260aac8c6a6de4209340e81259173", func := "copyist/copyistlaw8.MotionChars", spec := "motionChars", unfollowed := true, recurses := true, named := ["copyist/copyistref8.brackets"], apart := false, laid := [("copyist/copyistref8.brackets", laid_copyist_copyistref8_brackets)], narrowed := true }
def MotionCharsUptoSaid : Prop := motionCharsUptoRow.holds Tryz.pinned (OpenSpec.upto motionCharsSpec)

/-- 'copyistlaw8.MotionRows', WHERE WHAT IT READS IS OF BULK AT MOST 1048576: true; the input reads as it did. -/
def motionRowsUptoRow : OpenClaim := { program := "ytolhlldgnfbemaagreatdoor", sum := "680d488529b363e8975922f3f0ba92614cb260aac8c6a6de4209340e81259173", func := "copyist/copyistlaw8.MotionRows", spec := "motionRows", unfollowed := true, recurses := true, named := ["copyist/copyistref8.brackets"], apart := false, laid := [("copyist/copyistref8.brackets", laid_copyist_copyistref8_brackets)], narrowed := true }
def MotionRowsUptoSaid : Prop := motionRowsUptoRow.holds Tryz.pinned (OpenSpec.upto motionRowsSpec)

/-- 'copyistlaw8.MotionWords', WHERE WHAT IT READS IS OF BULK AT MOST 1048576: true; the input reads as it did. -/
def motionWordsUptoRow : OpenClaim := { program := "ytolhlldgnfbemaagreatdoor", sum := "680d488529b363e8975922f3f0ba92614cb260aac8c6a6de4209340e81259173", func := "copyist/copyistlaw8.MotionWords", spec := "motionWords", unfollowed := true, recurses := true, named := ["copyist/copyistref8.brackets"], apart := false, laid := [("copyist/copyistref8.brackets", laid_copyist_copyistref8_brackets)], narrowed := true }
def MotionWordsUptoSaid : Prop := motionWordsUptoRow.holds Tryz.pinned (OpenSpec.upto motionWordsSpec)

/-- 'copyistlaw8.MotionParas', WHERE WHAT IT READS IS OF BULK AT MOST 1048576: true; the input reads as it did. -/
def motionParasUptoRow : OpenClaim := { program := "ytolhlldgnfbemaagreatdoor", sum := "680d488529b363e8975922f3f0ba92614cb260aac8c6a6de4209340e81259173", func := "copyist/copyistlaw8.MotionParas", spec := "motionParas", unfollowed := true, recurses := true, named := ["copyist/copyistref8.brackets"], apart := false, laid := [("copyist/copyistref8.brackets", laid_copyist_copyistref8_brackets)], narrowed := true }
def MotionParasUptoSaid : Prop := motionParasUptoRow.holds Tryz.pinned (OpenSpec.upto motionParasSpec)

/-- 'copyistlaw8.MotionReach', WHERE WHAT IT READS IS OF BULK AT MOST 1048576: true; the input reads as it did. -/
def motionReachUptoRow : OpenClaim := { program := "ytolhlldgnfbemaagreatdoor", sum := "680d488529b363e8975922f3f0ba92614cb260aac8c6a6de4209340e81259173", func := "copyist/copyistlaw8.MotionReach", spec := "motionReach", unfollowed := true, recurses := true, named := ["copyist/copyistref8.brackets"], apart := false, laid := [("copyist/copyistref8.brackets", laid_copyist_copyistref8_brackets)], narrowed := true }
def MotionReachUptoSaid : Prop := motionReachUptoRow.holds Tryz.pinned (OpenSpec.upto motionReachSpec)

/-- 'copyistlaw8.MotionAll', WHERE WHAT IT READS IS OF BULK AT MOST 1048576: true; the input reads as it did. -/
def motionAllUptoRow : OpenClaim := { program := "ytolhlldgnfbemaagreatdoor", sum := "680d488529b363e8975922f3f0ba92614cb260aac8c6a6de4209340e81259173", func := "copyist/copyistlaw8.MotionAll", spec := "motionAll", unfollowed := true, recurses := true, named := ["copyist/copyistref8.brackets"], apart := false, laid := [("copyist/copyistref8.brackets", laid_copyist_copyistref8_brackets)], narrowed := true }
def MotionAllUptoSaid : Prop := motionAllUptoRow.holds Tryz.pinned (OpenSpec.upto motionAllSpec)

end Rows
end Go.Proofs.YtolhlldgnfbemaaGreatDoor
