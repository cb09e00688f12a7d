/-
  NARROWER THAN 'FOR EVERY INPUT', by the rows' own cells (each row's printed sentence says how): SaveNamed: laid · SaveUntouched: laid · SaveForeign: laid · SaveStepped: laid · SaveCopied: laid · SaveAtomic: laid · SaveOpen: laid · SaveWrite: laid · SaveTidy: laid · SaveAll: laid · SaveAgain: laid.
  DERIVED. THE GIVEN ROWS OF THIS SEAT. 11 by the template 'for every input the law returns true; each argument reads behind the call as it read before'; 0 by the template 'total and deterministic' (their statements: YtmooldhpiopcgaaGreatDoorTotals.lean).
  GIVEN WITH THE SEED: the statements are not yours to turn. If you find one false, say at which input.
  Laid BY PROGRAM, IN A SANDBOX (cutbox-rows.mjs): the forced cells as the released guide's own fill.sh prints them over the translation fcf7d61ce517e7b1… (all of the seat's roots in one cut). By AI agents, Wed Nov 11 2026. No macro, syntax, notation, axiom, sorry.
-/
import Derived.Test.YtmooldhpiopcgaaGreatDoorChecked
import GoSem.Claim
import GoSem.ClaimJoined
import GoSem.ClaimMapViews
import Derived.JoinedTies
import Derived.KernelRfl
namespace Go.Proofs.YtmooldhpiopcgaaGreatDoor
/- THE CELL 'sum', in the pinned program and in every row, IS THE sha256 OF THE DUMP (.gsa) THAT YtmooldhpiopcgaaGreatDoorProg.lean LOADS. Nothing in Lean hashes anything: it is a label: what it is worth is what the hold of that sum in a sandbox is worth. -/
noncomputable def Tryz.pinned : Pinned := { name := "ytmooldhpiopcgaagreatdoor", sum := "fcf7d61ce517e7b1b5db8d39eca7dba624e3e0d53f886b842b5790fb0f79295e", checked := Tryz.checked }
namespace Rows
def none {H : Type} : Left H := { results := [], args := [] }

/- WHAT THE LISTED PACKAGE-LEVEL VARIABLES READ AS WHEN THE CALL BEGINS. Each datum BY PROGRAM (the guide's laid-datum.mjs) off the statement by which the dump's own 'gosem.cut.vars' lays the variable. In a bare row this is a premise. The card (YtmooldhpiopcgaaGreatDoorCards.lean) ties it to the program's text. -/
def laid_errors_errorType {H : Type} : DataW H := .iface "internal/reflectlite.rtype" (.agg [.ptr (.lit (.string [101, 114, 114, 111, 114]))])

/-- 'copyistlaw17.SaveNamed': WHATEVER THE INPUT: true; the input reads as it did. -/
def saveNamedSpec : ChangeSpec := { name := "saveNamed", fn := fun _ => fun
  | [d] => { results := [.lit (.bool true)], args := [d] }
  | _ => none }
def saveNamedRow : OpenClaim := { program := "ytmooldhpiopcgaagreatdoor", sum := "fcf7d61ce517e7b1b5db8d39eca7dba624e3e0d53f886b842b5790fb0f79295e", func := "copyist/copyistlaw17.SaveNamed", spec := "saveNamed", inPlace := ["maps.clone", "internal/bytealg.IndexByteString", "internal/bytealg.IndexString", "internal/reflectlite.TypeOf", "internal/reflectlite.ValueOf", "(internal/reflectlite.Value).Type", "(internal/reflectlite.Value).IsNil", "(internal/reflectlite.Value).Elem", "(internal/reflectlite.Value).Set"], unfollowed := true, recurses := true, named := ["errors.errorType", "internal/bytealg.MaxLen"], apart := false, laid := [("errors.errorType", laid_errors_errorType)] }
def SaveNamedSaid : Prop := saveNamedRow.holds Tryz.pinned (OpenSpec.ofChange saveNamedSpec)

/-- ITS FALSE NEIGHBOUR: 'it returns false'. Refute it at one input. -/
def saveNamedWrong : ChangeSpec := { name := "saveNamed", fn := fun _ => fun
  | [d] => { results := [.lit (.bool false)], args := [d] }
  | _ => none }
def SaveNamedWrongFalsely : Prop := saveNamedRow.holds Tryz.pinned (OpenSpec.ofChange saveNamedWrong)

/-- 'copyistlaw17.SaveUntouched': WHATEVER THE INPUT: true; the input reads as it did. -/
def saveUntouchedSpec : ChangeSpec := { name := "saveUntouched", fn := fun _ => fun
  | [d] => { results := [.lit (.bool true)], args := [d] }
  | _ => none }
def saveUntouchedRow : OpenClaim := { program := "ytmooldhpiopcgaagreatdoor", sum := "fcf7d61ce517e7b1b5db8d39eca7dba624e3e0d53f886b842b5790fb0f79295e", func := "copyist/copyistlaw17.SaveUntouched", spec := "saveUntouched", inPlace := ["maps.clone", "internal/bytealg.IndexByteString", "internal/bytealg.IndexString", "internal/reflectlite.TypeOf", "internal/reflectlite.ValueOf", "(internal/reflectlite.Value).Type", "(internal/reflectlite.Value).IsNil", "(internal/reflectlite.Value).Elem", "(internal/reflectlite.Value).Set"], unfollowed := true, recurses := true, named := ["errors.errorType", "internal/bytealg.MaxLen"], apart := false, laid := [("errors.errorType", laid_errors_errorType)] }
def SaveUntouchedSaid : Prop := saveUntouchedRow.holds Tryz.pinned (OpenSpec.ofChange saveUntouchedSpec)

/-- ITS FALSE NEIGHBOUR: 'it returns false'. Refute it at one input. -/
def saveUntouchedWrong : ChangeSpec := { name := "saveUntouched", fn := fun _ => fun
  | [d] => { results := [.lit (.bool false)], args := [d] }
  | _ => none }
def SaveUntouchedWrongFalsely : Prop := saveUntouchedRow.holds Tryz.pinned (OpenSpec.ofChange saveUntouchedWrong)

/-- 'copyistlaw17.SaveForeign': WHATEVER THE INPUT: true; the input reads as it did. -/
def saveForeignSpec : ChangeSpec := { name := "saveForeign", fn := fun _ => fun
  | [d1, d2] => { results := [.lit (.bool true)], args := [d1, d2] }
  | _ => none }
def saveForeignRow : OpenClaim := { program := "ytmooldhpiopcgaagreatdoor", sum := "fcf7d61ce517e7b1b5db8d39eca7dba624e3e0d53f886b842b5790fb0f79295e", func := "copyist/copyistlaw17.SaveForeign", spec := "saveForeign", inPlace := ["maps.clone", "internal/bytealg.IndexByteString", "internal/bytealg.IndexString", "internal/reflectlite.TypeOf", "internal/reflectlite.ValueOf", "(internal/reflectlite.Value).Type", "(internal/reflectlite.Value).IsNil", "(internal/reflectlite.Value).Elem", "(internal/reflectlite.Value).Set"], unfollowed := true, recurses := true, named := ["errors.errorType", "internal/bytealg.MaxLen"], apart := false, laid := [("errors.errorType", laid_errors_errorType)] }
def SaveForeignSaid : Prop := saveForeignRow.holds Tryz.pinned (OpenSpec.ofChange saveForeignSpec)

/-- ITS FALSE NEIGHBOUR: 'it returns false'. Refute it at one input. -/
def saveForeignWrong : ChangeSpec := { name := "saveForeign", fn := fun _ => fun
  | [d1, d2] => { results := [.lit (.bool false)], args := [d1, d2] }
  | _ => none }
def SaveForeignWrongFalsely : Prop := saveForeignRow.holds Tryz.pinned (OpenSpec.ofChange saveForeignWrong)

/-- 'copyistlaw17.SaveStepped': WHATEVER THE INPUT: true; the input reads as it did. -/
def saveSteppedSpec : ChangeSpec := { name := "saveStepped", fn := fun _ => fun
  | [d] => { results := [.lit (.bool true)], args := [d] }
  | _ => none }
def saveSteppedRow : OpenClaim := { program := "ytmooldhpiopcgaagreatdoor", sum := "fcf7d61ce517e7b1b5db8d39eca7dba624e3e0d53f886b842b5790fb0f79295e", func := "copyist/copyistlaw17.SaveStepped", spec := "saveStepped", inPlace := ["maps.clone", "internal/bytealg.IndexByteString", "internal/bytealg.IndexString", "internal/reflectlite.TypeOf", "internal/reflectlite.ValueOf", "(internal/reflectlite.Value).Type", "(internal/reflectlite.Value).IsNil", "(internal/reflectlite.Value).Elem", "(internal/reflectlite.Value).Set"], unfollowed := true, recurses := true, named := ["errors.errorType", "internal/bytealg.MaxLen"], apart := false, laid := [("errors.errorType", laid_errors_errorType)] }
def SaveSteppedSaid : Prop := saveSteppedRow.holds Tryz.pinned (OpenSpec.ofChange saveSteppedSpec)

/-- ITS FALSE NEIGHBOUR: 'it returns false'. Refute it at one input. -/
def saveSteppedWrong : ChangeSpec := { name := "saveStepped", fn := fun _ => fun
  | [d] => { results := [.lit (.bool false)], args := [d] }
  | _ => none }
def SaveSteppedWrongFalsely : Prop := saveSteppedRow.holds Tryz.pinned (OpenSpec.ofChange saveSteppedWrong)

/-- 'copyistlaw17.SaveCopied': WHATEVER THE INPUT: true; the input reads as it did. -/
def saveCopiedSpec : ChangeSpec := { name := "saveCopied", fn := fun _ => fun
  | [d1, d2, d3] => { results := [.lit (.bool true)], args := [d1, d2, d3] }
  | _ => none }
def saveCopiedRow : OpenClaim := { program := "ytmooldhpiopcgaagreatdoor", sum := "fcf7d61ce517e7b1b5db8d39eca7dba624e3e0d53f886b842b5790fb0f79295e", func := "copyist/copyistlaw17.SaveCopied", spec := "saveCopied", inPlace := ["maps.clone", "internal/bytealg.IndexByteString", "internal/bytealg.IndexString", "internal/reflectlite.TypeOf", "internal/reflectlite.ValueOf", "(internal/reflectlite.Value).Type", "(internal/reflectlite.Value).IsNil", "(internal/reflectlite.Value).Elem", "(internal/reflectlite.Value).Set"], unfollowed := true, recurses := true, named := ["errors.errorType", "internal/bytealg.MaxLen"], apart := false, laid := [("errors.errorType", laid_errors_errorType)] }
def SaveCopiedSaid : Prop := saveCopiedRow.holds Tryz.pinned (OpenSpec.ofChange saveCopiedSpec)

/-- ITS FALSE NEIGHBOUR: 'it returns false'. Refute it at one input. -/
def saveCopiedWrong : ChangeSpec := { name := "saveCopied", fn := fun _ => fun
  | [d1, d2, d3] => { results := [.lit (.bool false)], args := [d1, d2, d3] }
  | _ => none }
def SaveCopiedWrongFalsely : Prop := saveCopiedRow.holds Tryz.pinned (OpenSpec.ofChange saveCopiedWrong)

/-- 'copyistlaw17.SaveAtomic': WHATEVER THE INPUT: true; the input reads as it did. -/
def saveAtomicSpec : ChangeSpec := { name := "saveAtomic", fn := fun _ => fun
  | [d1, d2, d3] => { results := [.lit (.bool true)], args := [d1, d2, d3] }
  | _ => none }
def saveAtomicRow : OpenClaim := { program := "ytmooldhpiopcgaagreatdoor", sum := "fcf7d61ce517e7b1b5db8d39eca7dba624e3e0d53f886b842b5790fb0f79295e", func := "copyist/copyistlaw17.SaveAtomic", spec := "saveAtomic", inPlace := ["maps.clone", "internal/bytealg.IndexByteString", "internal/bytealg.IndexString", "internal/reflectlite.TypeOf", "internal/reflectlite.ValueOf", "(internal/reflectlite.Value).Type", "(internal/reflectlite.Value).IsNil", "(internal/reflectlite.Value).Elem", "(internal/reflectlite.Value).Set"], unfollowed := true, recurses := true, named := ["errors.errorType", "internal/bytealg.MaxLen"], apart := false, laid := [("errors.errorType", laid_errors_errorType)] }
def SaveAtomicSaid : Prop := saveAtomicRow.holds Tryz.pinned (OpenSpec.ofChange saveAtomicSpec)

/-- ITS FALSE NEIGHBOUR: 'it returns false'. Refute it at one input. -/
def saveAtomicWrong : ChangeSpec := { name := "saveAtomic", fn := fun _ => fun
  | [d1, d2, d3] => { results := [.lit (.bool false)], args := [d1, d2, d3] }
  | _ => none }
def SaveAtomicWrongFalsely : Prop := saveAtomicRow.holds Tryz.pinned (OpenSpec.ofChange saveAtomicWrong)

/-- 'copyistlaw17.SaveOpen': WHATEVER THE INPUT: true; the input reads as it did. -/
def saveOpenSpec : ChangeSpec := { name := "saveOpen", fn := fun _ => fun
  | [d] => { results := [.lit (.bool true)], args := [d] }
  | _ => none }
def saveOpenRow : OpenClaim := { program := "ytmooldhpiopcgaagreatdoor", sum := "fcf7d61ce517e7b1b5db8d39eca7dba624e3e0d53f886b842b5790fb0f79295e", func := "copyist/copyistlaw17.SaveOpen", spec := "saveOpen", inPlace := ["maps.clone", "internal/bytealg.IndexByteString", "internal/bytealg.IndexString", "internal/reflectlite.TypeOf", "internal/reflectlite.ValueOf", "(internal/reflectlite.Value).Type", "(internal/reflectlite.Value).IsNil", "(internal/reflectlite.Value).Elem", "(internal/reflectlite.Value).Set"], unfollowed := true, recurses := true, named := ["errors.errorType", "internal/bytealg.MaxLen"], apart := false, laid := [("errors.errorType", laid_errors_errorType)] }
def SaveOpenSaid : Prop := saveOpenRow.holds Tryz.pinned (OpenSpec.ofChange saveOpenSpec)

/-- ITS FALSE NEIGHBOUR: 'it returns false'. Refute it at one input. -/
def saveOpenWrong : ChangeSpec := { name := "saveOpen", fn := fun _ => fun
  | [d] => { results := [.lit (.bool false)], args := [d] }
  | _ => none }
def SaveOpenWrongFalsely : Prop := saveOpenRow.holds Tryz.pinned (OpenSpec.ofChange saveOpenWrong)

/-- 'copyistlaw17.SaveWrite': WHATEVER THE INPUT: true; the input reads as it did. -/
def saveWriteSpec : ChangeSpec := { name := "saveWrite", fn := fun _ => fun
  | [d] => { results := [.lit (.bool true)], args := [d] }
  | _ => none }
def saveWriteRow : OpenClaim := { program := "ytmooldhpiopcgaagreatdoor", sum := "fcf7d61ce517e7b1b5db8d39eca7dba624e3e0d53f886b842b5790fb0f79295e", func := "copyist/copyistlaw17.SaveWrite", spec := "saveWrite", inPlace := ["maps.clone", "internal/bytealg.IndexByteString", "internal/bytealg.IndexString", "internal/reflectlite.TypeOf", "internal/reflectlite.ValueOf", "(internal/reflectlite.Value).Type", "(internal/reflectlite.Value).IsNil", "(internal/reflectlite.Value).Elem", "(internal/reflectlite.Value).Set"], unfollowed := true, recurses := true, named := ["errors.errorType", "internal/bytealg.MaxLen"], apart := false, laid := [("errors.errorType", laid_errors_errorType)] }
def SaveWriteSaid : Prop := saveWriteRow.holds Tryz.pinned (OpenSpec.ofChange saveWriteSpec)

/-- ITS FALSE NEIGHBOUR: 'it returns false'. Refute it at one input. -/
def saveWriteWrong : ChangeSpec := { name := "saveWrite", fn := fun _ => fun
  | [d] => { results := [.lit (.bool false)], args := [d] }
  | _ => none }
def SaveWriteWrongFalsely : Prop := saveWriteRow.holds Tryz.pinned (OpenSpec.ofChange saveWriteWrong)

/-- 'copyistlaw17.SaveTidy': WHATEVER THE INPUT: true; the input reads as it did. -/
def saveTidySpec : ChangeSpec := { name := "saveTidy", fn := fun _ => fun
  | [d] => { results := [.lit (.bool true)], args := [d] }
  | _ => none }
def saveTidyRow : OpenClaim := { program := "ytmooldhpiopcgaagreatdoor", sum := "fcf7d61ce517e7b1b5db8d39eca7dba624e3e0d53f886b842b5790fb0f79295e", func := "copyist/copyistlaw17.SaveTidy", spec := "saveTidy", inPlace := ["maps.clone", "internal/bytealg.IndexByteString", "internal/bytealg.IndexString", "internal/reflectlite.TypeOf", "internal/reflectlite.ValueOf", "(internal/reflectlite.Value).Type", "(internal/reflectlite.Value).IsNil", "(internal/reflectlite.Value).Elem", "(internal/reflectlite.Value).Set"], unfollowed := true, recurses := true, named := ["errors.errorType", "internal/bytealg.MaxLen"], apart := false, laid := [("errors.errorType", laid_errors_errorType)] }
def SaveTidySaid : Prop := saveTidyRow.holds Tryz.pinned (OpenSpec.ofChange saveTidySpec)

/-- ITS FALSE NEIGHBOUR: 'it returns false'. Refute it at one input. -/
def saveTidyWrong : ChangeSpec := { name := "saveTidy", fn := fun _ => fun
  | [d] => { results := [.lit (.bool false)], args := [d] }
  | _ => none }
def SaveTidyWrongFalsely : Prop := saveTidyRow.holds Tryz.pinned (OpenSpec.ofChange saveTidyWrong)

/-- 'copyistlaw17.SaveAll': WHATEVER THE INPUT: true; the input reads as it did. -/
def saveAllSpec : ChangeSpec := { name := "saveAll", fn := fun _ => fun
  | [d] => { results := [.lit (.bool true)], args := [d] }
  | _ => none }
def saveAllRow : OpenClaim := { program := "ytmooldhpiopcgaagreatdoor", sum := "fcf7d61ce517e7b1b5db8d39eca7dba624e3e0d53f886b842b5790fb0f79295e", func := "copyist/copyistlaw17.SaveAll", spec := "saveAll", inPlace := ["maps.clone", "internal/bytealg.IndexByteString", "internal/bytealg.IndexString", "internal/reflectlite.TypeOf", "internal/reflectlite.ValueOf", "(internal/reflectlite.Value).Type", "(internal/reflectlite.Value).IsNil", "(internal/reflectlite.Value).Elem", "(internal/reflectlite.Value).Set"], unfollowed := true, recurses := true, named := ["errors.errorType", "internal/bytealg.MaxLen"], apart := false, laid := [("errors.errorType", laid_errors_errorType)] }
def SaveAllSaid : Prop := saveAllRow.holds Tryz.pinned (OpenSpec.ofChange saveAllSpec)

/-- ITS FALSE NEIGHBOUR: 'it returns false'. Refute it at one input. -/
def saveAllWrong : ChangeSpec := { name := "saveAll", fn := fun _ => fun
  | [d] => { results := [.lit (.bool false)], args := [d] }
  | _ => none }
def SaveAllWrongFalsely : Prop := saveAllRow.holds Tryz.pinned (OpenSpec.ofChange saveAllWrong)

/-- 'copyistlaw17.SaveAgain': WHATEVER THE INPUT: true; the input reads as it did. -/
def saveAgainSpec : ChangeSpec := { name := "saveAgain", fn := fun _ => fun
  | [d1, d2, d3] => { results := [.lit (.bool true)], args := [d1, d2, d3] }
  | _ => none }
def saveAgainRow : OpenClaim := { program := "ytmooldhpiopcgaagreatdoor", sum := "fcf7d61ce517e7b1b5db8d39eca7dba624e3e0d53f886b842b5790fb0f79295e", func := "copyist/copyistlaw17.SaveAgain", spec := "saveAgain", inPlace := ["maps.clone", "internal/bytealg.IndexByteString", "internal/bytealg.IndexString", "internal/reflectlite.TypeOf", "internal/reflectlite.ValueOf", "(internal/reflectlite.Value).Type", "(internal/reflectlite.Value).IsNil", "(internal/reflectlite.Value).Elem", "(internal/reflectlite.Value).Set"], unfollowed := true, recurses := true, named := ["errors.errorType", "internal/bytealg.MaxLen"], apart := false, laid := [("errors.errorType", laid_errors_errorType)] }
def SaveAgainSaid : Prop := saveAgainRow.holds Tryz.pinned (OpenSpec.ofChange saveAgainSpec)

/-- ITS FALSE NEIGHBOUR: 'it returns false'. Refute it at one input. -/
def saveAgainWrong : ChangeSpec := { name := "saveAgain", fn := fun _ => fun
  | [d1, d2, d3] => { results := [.lit (.bool false)], args := [d1, d2, d3] }
  | _ => none }
def SaveAgainWrongFalsely : Prop := saveAgainRow.holds Tryz.pinned (OpenSpec.ofChange saveAgainWrong)

/- THE SECOND FORM. 'bulk': how many values and letters a reading holds, each counted each time it is reached (what is shared counts as often as it is met; a slice's spare places count too). A statement '..UptoSaid' is the law's where the arguments, and the package variables that the reading takes, are together of bulk at most 1048576: NARROWER than '..Said'. Prove '..Said' where nothing that the law and all that it calls make is longer than what came in: it says more and counts as full. Else prove '..UptoSaid'. A law counts once. -/
mutual
def uptoBulk {H : Type} : DataW H → Nat
  | .lit (.string bytes) => bytes.length + 1
  | .lit _ => 1
  | .nil => 1
  | .ptr d => uptoBulk d + 1
  | .slice elems spare => uptoBulkAll elems + uptoBulkAll spare + 1
  | .agg parts => uptoBulkAll parts + 1
  | .iface _ d => uptoBulk d + 1
  | .map entries => uptoBulkEntries entries + 1
  | .held _ => 1
def uptoBulkAll {H : Type} : List (DataW H) → Nat
  | [] => 0
  | d :: r => uptoBulk d + uptoBulkAll r
def uptoBulkEntries {H : Type} : List (Lit × DataW H) → Nat
  | [] => 0
  | x :: r => uptoBulkEntry x + uptoBulkEntries r
def uptoBulkEntry {H : Type} : Lit × DataW H → Nat
  | (.string bytes, d) => bytes.length + uptoBulk d + 1
  | (_, d) => uptoBulk d + 1
 end
def uptoSmall : (H : Type) → List (DataW H) → Bool := fun _ ds => decide (uptoBulkAll ds ≤ 1048576)
def OpenSpec.upto (s : _root_.Go.ChangeSpec) : _root_.Go.OpenSpec := { _root_.Go.OpenSpec.ofChange s with cond := some uptoSmall }

/-- 'copyistlaw17.SaveNamed', WHERE WHAT IT READS IS OF BULK AT MOST 1048576: true; the input reads as it did. -/
def saveNamedUptoRow : OpenClaim := { program := "ytmooldhpiopcgaagreatdoor", sum := "fcf7d61ce517e7b1b5db8d39eca7dba624e3e0d53f886b842b5790fb0f79295e", func := "copyist/copyistlaw17.SaveNamed", spec := "saveNamed", inPlace := ["maps.clone", "internal/bytealg.IndexByteString", "internal/bytealg.IndexString", "internal/reflectlite.TypeOf", "internal/reflectlite.ValueOf", "(internal/reflectlite.Value).Type", "(internal/reflectlite.Value).IsNil", "(internal/reflectlite.Value).Elem", "(internal/reflectlite.Value).Set"], unfollowed := true, recurses := true, named := ["errors.errorType", "internal/bytealg.MaxLen"], apart := false, laid := [("errors.errorType", laid_errors_errorType)], narrowed := true }
def SaveNamedUptoSaid : Prop := saveNamedUptoRow.holds Tryz.pinned (OpenSpec.upto saveNamedSpec)

/-- 'copyistlaw17.SaveUntouched', WHERE WHAT IT READS IS OF BULK AT MOST 1048576: true; the input reads as it did. -/
def saveUntouchedUptoRow : OpenClaim := { program := "ytmooldhpiopcgaagreatdoor", sum := "fcf7d61ce517e7b1b5db8d39eca7dba624e3e0d53f886b842b5790fb0f79295e", func := "copyist/copyistlaw17.SaveUntouched", spec := "saveUntouched", inPlace := ["maps.clone", "internal/bytealg.IndexByteString", "internal/bytealg.IndexString", "internal/reflectlite.TypeOf", "internal/reflectlite.ValueOf", "(internal/reflectlite.Value).Type", "(internal/reflectlite.Value).IsNil", "(internal/reflectlite.Value).Elem", "(internal/reflectlite.Value).Set"], unfollowed := true, recurses := true, named := ["errors.errorType", "internal/bytealg.MaxLen"], apart := false, laid := [("errors.errorType", laid_errors_errorType)], narrowed := true }
def SaveUntouchedUptoSaid : Prop := saveUntouchedUptoRow.holds Tryz.pinned (OpenSpec.upto saveUntouchedSpec)

/-- 'copyistlaw17.SaveForeign', WHERE WHAT IT READS IS OF BULK AT MOST 1048576: true; the input reads as it did. -/
def saveForeignUptoRow : OpenClaim := { program := "ytmooldhpiopcgaagreatdoor", sum := "fcf7d61ce517e7b1b5db8d39eca7dba624e3e0d53f886b842b5790fb0f79295e", func := "copyist/copyistlaw17.SaveForeign", spec := "saveForeign", inPlace := ["maps.clone", "internal/bytealg.IndexByteString", "internal/bytealg.IndexString", "internal/reflectlite.TypeOf", "internal/reflectlite.ValueOf", "(internal/reflectlite.Value).Type", "(internal/reflectlite.Value).IsNil", "(internal/reflectlite.Value).Elem", "(internal/reflectlite.Value).Set"], unfollowed := true, recurses := true, named := ["errors.errorType", "internal/bytealg.MaxLen"], apart := false, laid := [("errors.errorType", laid_errors_errorType)], narrowed := true }
def SaveForeignUptoSaid : Prop := saveForeignUptoRow.holds Tryz.pinned (OpenSpec.upto saveForeignSpec)

/-- 'copyistlaw17.SaveStepped', WHERE WHAT IT READS IS OF BULK AT MOST 1048576: true; the input reads as it did. -/
def saveSteppedUptoRow : OpenClaim := { program := "ytmooldhpiopcgaagreatdoor", sum := "fcf7d61ce517e7b1b5db8d39eca7dba624e3e0d53f886b842b5790fb0f79295e", func := "copyist/copyistlaw17.SaveStepped", spec := "saveStepped", inPlace := ["maps.clone", "internal/bytealg.IndexByteString", "internal/bytealg.IndexString", "internal/reflectlite.TypeOf", "internal/reflectlite.ValueOf", "(internal/reflectlite.Value).Type", "(internal/reflectlite.Value).IsNil", "(internal/reflectlite.Value).Elem", "(internal/reflectlite.Value).Set"], unfollowed := true, recurses := true, named := ["errors.errorType", "internal/bytealg.MaxLen"], apart := false, laid := [("errors.errorType", laid_errors_errorType)], narrowed := true }
def SaveSteppedUptoSaid : Prop := saveSteppedUptoRow.holds Tryz.pinned (OpenSpec.upto saveSteppedSpec)

/-- 'copyistlaw17.SaveCopied', WHERE WHAT IT READS IS OF BULK AT MOST 1048576: true; the input reads as it did. -/
def saveCopiedUptoRow : OpenClaim := { program := "ytmooldhpiopcgaagreatdoor", sum := "fcf7d61ce517e7b1b5db8d39eca7dba624e3e0d53f886b842b5790fb0f79295e", func := "copyist/copyistlaw17.SaveCopied", spec := "saveCopied", inPlace := ["maps.clone", "internal/bytealg.IndexByteString", "internal/bytealg.IndexString", "internal/reflectlite.TypeOf", "internal/reflectlite.ValueOf", "(internal/reflectlite.Value).Type", "(internal/reflectlite.Value).IsNil", "(internal/reflectlite.Value).Elem", "(internal/reflectlite.Value).Set"], unfollowed := true, recurses := true, named := ["errors.errorType", "internal/bytealg.MaxLen"], apart := false, laid := [("errors.errorType", laid_errors_errorType)], narrowed := true }
def SaveCopiedUptoSaid : Prop := saveCopiedUptoRow.holds Tryz.pinned (OpenSpec.upto saveCopiedSpec)

/-- 'copyistlaw17.SaveAtomic', WHERE WHAT IT READS IS OF BULK AT MOST 1048576: true; the input reads as it did. -/
def saveAtomicUptoRow : OpenClaim := { program := "ytmooldhpiopcgaagreatdoor", sum := "fcf7d61ce517e7b1b5db8d39eca7dba624e3e0d53f886b842b5790fb0f79295e", func := "copyist/copyistlaw17.SaveAtomic", spec := "saveAtomic", inPlace := ["maps.clone", "internal/bytealg.IndexByteString", "internal/bytealg.IndexString", "internal/reflectlite.TypeOf", "internal/reflectlite.ValueOf", "(internal/reflectlite.Value).Type", "(internal/reflectlite.Value).IsNil", "(internal/reflectlite.Value).Elem", "(internal/reflectlite.Value).Set"], unfollowed := true, recurses := true, named := ["errors.errorType", "internal/bytealg.MaxLen"], apart := false, laid := [("errors.errorType", laid_errors_errorType)], narrowed := true }
def SaveAtomicUptoSaid : Prop := saveAtomicUptoRow.holds Tryz.pinned (OpenSpec.upto saveAtomicSpec)

/-- 'copyistlaw17.SaveOpen', WHERE WHAT IT READS IS OF BULK AT MOST 1048576: true; the input reads as it did. -/
def saveOpenUptoRow : OpenClaim := { program := "ytmooldhpiopcgaagreatdoor", sum := "fcf7d61ce517e7b1b5db8d39eca7dba624e3e0d53f886b842b5790fb0f79295e", func := "copyist/copyistlaw17.SaveOpen", spec := "saveOpen", inPlace := ["maps.clone", "internal/bytealg.IndexByteString", "internal/bytealg.IndexString", "internal/reflectlite.TypeOf", "internal/reflectlite.ValueOf", "(internal/reflectlite.Value).Type", "(internal/reflectlite.Value).IsNil", "(internal/reflectlite.Value).Elem", "(internal/reflectlite.Value).Set"], unfollowed := true, recurses := true, named := ["errors.errorType", "internal/bytealg.MaxLen"], apart := false, laid := [("errors.errorType", laid_errors_errorType)], narrowed := true }
def SaveOpenUptoSaid : Prop := saveOpenUptoRow.holds Tryz.pinned (OpenSpec.upto saveOpenSpec)

/-- 'copyistlaw17.SaveWrite', WHERE WHAT IT READS IS OF BULK AT MOST 1048576: true; the input reads as it did. -/
def saveWriteUptoRow : OpenClaim := { program := "ytmooldhpiopcgaagreatdoor", sum := "fcf7d61ce517e7b1b5db8d39eca7dba624e3e0d53f886b842b5790fb0f79295e", func := "copyist/copyistlaw17.SaveWrite", spec := "saveWrite", inPlace := ["maps.clone", "internal/bytealg.IndexByteString", "internal/bytealg.IndexString", "internal/reflectlite.TypeOf", "internal/reflectlite.ValueOf", "(internal/reflectlite.Value).Type", "(internal/reflectlite.Value).IsNil", "(internal/reflectlite.Value).Elem", "(internal/reflectlite.Value).Set"], unfollowed := true, recurses := true, named := ["errors.errorType", "internal/bytealg.MaxLen"], apart := false, laid := [("errors.errorType", laid_errors_errorType)], narrowed := true }
def SaveWriteUptoSaid : Prop := saveWriteUptoRow.holds Tryz.pinned (OpenSpec.upto saveWriteSpec)

/-- 'copyistlaw17.SaveTidy', WHERE WHAT IT READS IS OF BULK AT MOST 1048576: true; the input reads as it did. -/
def saveTidyUptoRow : OpenClaim := { program := "ytmooldhpiopcgaagreatdoor", sum := "fcf7d61ce517e7b1b5db8d39eca7dba624e3e0d53f886b842b5790fb0f79295e", func := "copyist/copyistlaw17.SaveTidy", spec := "saveTidy", inPlace := ["maps.clone", "internal/bytealg.IndexByteString", "internal/bytealg.IndexString", "internal/reflectlite.TypeOf", "internal/reflectlite.ValueOf", "(internal/reflectlite.Value).Type", "(internal/reflectlite.Value).IsNil", "(internal/reflectlite.Value).Elem", "(internal/reflectlite.Value).Set"], unfollowed := true, recurses := true, named := ["errors.errorType", "internal/bytealg.MaxLen"], apart := false, laid := [("errors.errorType", laid_errors_errorType)], narrowed := true }
def SaveTidyUptoSaid : Prop := saveTidyUptoRow.holds Tryz.pinned (OpenSpec.upto saveTidySpec)

/-- 'copyistlaw17.SaveAll', WHERE WHAT IT READS IS OF BULK AT MOST 1048576: true; the input reads as it did. -/
def saveAllUptoRow : OpenClaim := { program := "ytmooldhpiopcgaagreatdoor", sum := "fcf7d61ce517e7b1b5db8d39eca7dba624e3e0d53f886b842b5790fb0f79295e", func := "copyist/copyistlaw17.SaveAll", spec := "saveAll", inPlace := ["maps.clone", "internal/bytealg.IndexByteString", "internal/bytealg.IndexString", "internal/reflectlite.TypeOf", "internal/reflectlite.ValueOf", "(internal/reflectlite.Value).Type", "(internal/reflectlite.Value).IsNil", "(internal/reflectlite.Value).Elem", "(internal/reflectlite.Value).Set"], unfollowed := true, recurses := true, named := ["errors.errorType", "internal/bytealg.MaxLen"], apart := false, laid := [("errors.errorType", laid_errors_errorType)], narrowed := true }
def SaveAllUptoSaid : Prop := saveAllUptoRow.holds Tryz.pinned (OpenSpec.upto saveAllSpec)

/-- 'copyistlaw17.SaveAgain', WHERE WHAT IT READS IS OF BULK AT MOST 1048576: true; the input reads as it did. -/
def saveAgainUptoRow : OpenClaim := { program := "ytmooldhpiopcgaagreatdoor", sum := "fcf7d61ce517e7b1b5db8d39eca7dba624e3e0d53f886b842b5790fb0f79295e", func := "copyist/copyistlaw17.SaveAgain", spec := "saveAgain", inPlace := ["maps.clone", "internal/bytealg.IndexByteString", "internal/bytealg.IndexString", "internal/reflectlite.TypeOf", "internal/reflectlite.ValueOf", "(internal/reflectlite.Value).Type", "(internal/reflectlite.Value).IsNil", "(internal/reflectlite.Value).Elem", "(internal/reflectlite.Value).Set"], unfollowed := true, recurses := true, named := ["errors.errorType", "internal/bytealg.MaxLen"], apart := false, laid := [("errors.errorType", laid_errors_errorType)], narrowed := true }
def SaveAgainUptoSaid : Prop := saveAgainUptoRow.holds Tryz.pinned (OpenSpec.upto saveAgainSpec)

end Rows
end Go.Proofs.YtmooldhpiopcgaaGreatDoor
