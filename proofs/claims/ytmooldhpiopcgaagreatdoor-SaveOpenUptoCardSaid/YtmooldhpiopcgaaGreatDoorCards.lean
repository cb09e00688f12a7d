/-
  DERIVED. GIVEN WITH THE SEED: THE CARDS: each row of YtmooldhpiopcgaaGreatDoorRows.lean that lists a variable, with what it lists TIED to the program's text (the seventh form; the later family's looks); each row that meets fmt, with fmt's text TOLD by the authors' own Lean function (tested against real Go, not proved from fmt's source: count such statements apart). THE CARD IS WHAT COUNTS. Prove the row's statement (the work); the ties are given (YtmooldhpiopcgaaGreatDoorTie.lean); close each card by the builder's one call (the guide's Derived/Test/ToyasCard.lean, 'card_holds'). Laid BY PROGRAM, IN A SANDBOX (cutbox-door.mjs). By AI agents, Wed Nov 11 2026. No macro, syntax, notation, axiom, sorry.
-/
import Derived.Test.YtmooldhpiopcgaaGreatDoorRows
import GoSem.ClaimSeven
namespace Go.Proofs.YtmooldhpiopcgaaGreatDoor
namespace Rows

/-- THE TIED CARD OF 'copyistlaw17.SaveNamed'. -/
def saveNamedCard : Claim7 := { stood := { row := saveNamedRow, standIns := [], harness := (true, "8fa86d716e3cbb5d44ad5d616054dc9adf16b2d155b2b8fa930f25b85a3d54ce"), looks := true }, kinds := [], alts := [], laidByText := true, laidKinds := [.handle], laidTests := true, laidLooks := .later }
def SaveNamedCardSaid : Prop := Claim7.holds Tryz.pinned (.plain (OpenSpec.ofChange saveNamedSpec)) saveNamedCard

/-- THE TIED CARD OF 'copyistlaw17.SaveUntouched'. -/
def saveUntouchedCard : Claim7 := { stood := { row := saveUntouchedRow, standIns := [], harness := (true, "8fa86d716e3cbb5d44ad5d616054dc9adf16b2d155b2b8fa930f25b85a3d54ce"), looks := true }, kinds := [], alts := [], laidByText := true, laidKinds := [.handle], laidTests := true, laidLooks := .later }
def SaveUntouchedCardSaid : Prop := Claim7.holds Tryz.pinned (.plain (OpenSpec.ofChange saveUntouchedSpec)) saveUntouchedCard

/-- THE TIED CARD OF 'copyistlaw17.SaveForeign'. -/
def saveForeignCard : Claim7 := { stood := { row := saveForeignRow, standIns := [], harness := (true, "8fa86d716e3cbb5d44ad5d616054dc9adf16b2d155b2b8fa930f25b85a3d54ce"), looks := true }, kinds := [], alts := [], laidByText := true, laidKinds := [.handle], laidTests := true, laidLooks := .later }
def SaveForeignCardSaid : Prop := Claim7.holds Tryz.pinned (.plain (OpenSpec.ofChange saveForeignSpec)) saveForeignCard

/-- THE TIED CARD OF 'copyistlaw17.SaveStepped'. -/
def saveSteppedCard : Claim7 := { stood := { row := saveSteppedRow, standIns := [], harness := (true, "8fa86d716e3cbb5d44ad5d616054dc9adf16b2d155b2b8fa930f25b85a3d54ce"), looks := true }, kinds := [], alts := [], laidByText := true, laidKinds := [.handle], laidTests := true, laidLooks := .later }
def SaveSteppedCardSaid : Prop := Claim7.holds Tryz.pinned (.plain (OpenSpec.ofChange saveSteppedSpec)) saveSteppedCard

/-- THE TIED CARD OF 'copyistlaw17.SaveCopied'. -/
def saveCopiedCard : Claim7 := { stood := { row := saveCopiedRow, standIns := [], harness := (true, "8fa86d716e3cbb5d44ad5d616054dc9adf16b2d155b2b8fa930f25b85a3d54ce"), looks := true }, kinds := [], alts := [], laidByText := true, laidKinds := [.handle], laidTests := true, laidLooks := .later }
def SaveCopiedCardSaid : Prop := Claim7.holds Tryz.pinned (.plain (OpenSpec.ofChange saveCopiedSpec)) saveCopiedCard

/-- THE TIED CARD OF 'copyistlaw17.SaveAtomic'. -/
def saveAtomicCard : Claim7 := { stood := { row := saveAtomicRow, standIns := [], harness := (true, "8fa86d716e3cbb5d44ad5d616054dc9adf16b2d155b2b8fa930f25b85a3d54ce"), looks := true }, kinds := [], alts := [], laidByText := true, laidKinds := [.handle], laidTests := true, laidLooks := .later }
def SaveAtomicCardSaid : Prop := Claim7.holds Tryz.pinned (.plain (OpenSpec.ofChange saveAtomicSpec)) saveAtomicCard

/-- THE TIED CARD OF 'copyistlaw17.SaveOpen'. -/
def saveOpenCard : Claim7 := { stood := { row := saveOpenRow, standIns := [], harness := (true, "8fa86d716e3cbb5d44ad5d616054dc9adf16b2d155b2b8fa930f25b85a3d54ce"), looks := true }, kinds := [], alts := [], laidByText := true, laidKinds := [.handle], laidTests := true, laidLooks := .later }
def SaveOpenCardSaid : Prop := Claim7.holds Tryz.pinned (.plain (OpenSpec.ofChange saveOpenSpec)) saveOpenCard

/-- THE TIED CARD OF 'copyistlaw17.SaveWrite'. -/
def saveWriteCard : Claim7 := { stood := { row := saveWriteRow, standIns := [], harness := (true, "8fa86d716e3cbb5d44ad5d616054dc9adf16b2d155b2b8fa930f25b85a3d54ce"), looks := true }, kinds := [], alts := [], laidByText := true, laidKinds := [.handle], laidTests := true, laidLooks := .later }
def SaveWriteCardSaid : Prop := Claim7.holds Tryz.pinned (.plain (OpenSpec.ofChange saveWriteSpec)) saveWriteCard

/-- THE TIED CARD OF 'copyistlaw17.SaveTidy'. -/
def saveTidyCard : Claim7 := { stood := { row := saveTidyRow, standIns := [], harness := (true, "8fa86d716e3cbb5d44ad5d616054dc9adf16b2d155b2b8fa930f25b85a3d54ce"), looks := true }, kinds := [], alts := [], laidByText := true, laidKinds := [.handle], laidTests := true, laidLooks := .later }
def SaveTidyCardSaid : Prop := Claim7.holds Tryz.pinned (.plain (OpenSpec.ofChange saveTidySpec)) saveTidyCard

/-- THE TIED CARD OF 'copyistlaw17.SaveAll'. -/
def saveAllCard : Claim7 := { stood := { row := saveAllRow, standIns := [], harness := (true, "8fa86d716e3cbb5d44ad5d616054dc9adf16b2d155b2b8fa930f25b85a3d54ce"), looks := true }, kinds := [], alts := [], laidByText := true, laidKinds := [.handle], laidTests := true, laidLooks := .later }
def SaveAllCardSaid : Prop := Claim7.holds Tryz.pinned (.plain (OpenSpec.ofChange saveAllSpec)) saveAllCard

/-- THE TIED CARD OF 'copyistlaw17.SaveAgain'. -/
def saveAgainCard : Claim7 := { stood := { row := saveAgainRow, standIns := [], harness := (true, "8fa86d716e3cbb5d44ad5d616054dc9adf16b2d155b2b8fa930f25b85a3d54ce"), looks := true }, kinds := [], alts := [], laidByText := true, laidKinds := [.handle], laidTests := true, laidLooks := .later }
def SaveAgainCardSaid : Prop := Claim7.holds Tryz.pinned (.plain (OpenSpec.ofChange saveAgainSpec)) saveAgainCard

/-- THE SECOND FORM's CARD OF 'copyistlaw17.SaveNamed'. -/
def saveNamedUptoCard : Claim7 := { stood := { row := saveNamedUptoRow, standIns := [], harness := (true, "8fa86d716e3cbb5d44ad5d616054dc9adf16b2d155b2b8fa930f25b85a3d54ce"), looks := true }, kinds := [], alts := [], laidByText := true, laidKinds := [.handle], laidTests := true, laidLooks := .later }
def SaveNamedUptoCardSaid : Prop := Claim7.holds Tryz.pinned (.plain (OpenSpec.upto saveNamedSpec)) saveNamedUptoCard

/-- THE SECOND FORM's CARD OF 'copyistlaw17.SaveUntouched'. -/
def saveUntouchedUptoCard : Claim7 := { stood := { row := saveUntouchedUptoRow, standIns := [], harness := (true, "8fa86d716e3cbb5d44ad5d616054dc9adf16b2d155b2b8fa930f25b85a3d54ce"), looks := true }, kinds := [], alts := [], laidByText := true, laidKinds := [.handle], laidTests := true, laidLooks := .later }
def SaveUntouchedUptoCardSaid : Prop := Claim7.holds Tryz.pinned (.plain (OpenSpec.upto saveUntouchedSpec)) saveUntouchedUptoCard

/-- THE SECOND FORM's CARD OF 'copyistlaw17.SaveForeign'. -/
def saveForeignUptoCard : Claim7 := { stood := { row := saveForeignUptoRow, standIns := [], harness := (true, "8fa86d716e3cbb5d44ad5d616054dc9adf16b2d155b2b8fa930f25b85a3d54ce"), looks := true }, kinds := [], alts := [], laidByText := true, laidKinds := [.handle], laidTests := true, laidLooks := .later }
def SaveForeignUptoCardSaid : Prop := Claim7.holds Tryz.pinned (.plain (OpenSpec.upto saveForeignSpec)) saveForeignUptoCard

/-- THE SECOND FORM's CARD OF 'copyistlaw17.SaveStepped'. -/
def saveSteppedUptoCard : Claim7 := { stood := { row := saveSteppedUptoRow, standIns := [], harness := (true, "8fa86d716e3cbb5d44ad5d616054dc9adf16b2d155b2b8fa930f25b85a3d54ce"), looks := true }, kinds := [], alts := [], laidByText := true, laidKinds := [.handle], laidTests := true, laidLooks := .later }
def SaveSteppedUptoCardSaid : Prop := Claim7.holds Tryz.pinned (.plain (OpenSpec.upto saveSteppedSpec)) saveSteppedUptoCard

/-- THE SECOND FORM's CARD OF 'copyistlaw17.SaveCopied'. -/
def saveCopiedUptoCard : Claim7 := { stood := { row := saveCopiedUptoRow, standIns := [], harness := (true, "8fa86d716e3cbb5d44ad5d616054dc9adf16b2d155b2b8fa930f25b85a3d54ce"), looks := true }, kinds := [], alts := [], laidByText := true, laidKinds := [.handle], laidTests := true, laidLooks := .later }
def SaveCopiedUptoCardSaid : Prop := Claim7.holds Tryz.pinned (.plain (OpenSpec.upto saveCopiedSpec)) saveCopiedUptoCard

/-- THE SECOND FORM's CARD OF 'copyistlaw17.SaveAtomic'. -/
def saveAtomicUptoCard : Claim7 := { stood := { row := saveAtomicUptoRow, standIns := [], harness := (true, "8fa86d716e3cbb5d44ad5d616054dc9adf16b2d155b2b8fa930f25b85a3d54ce"), looks := true }, kinds := [], alts := [], laidByText := true, laidKinds := [.handle], laidTests := true, laidLooks := .later }
def SaveAtomicUptoCardSaid : Prop := Claim7.holds Tryz.pinned (.plain (OpenSpec.upto saveAtomicSpec)) saveAtomicUptoCard

/-- THE SECOND FORM's CARD OF 'copyistlaw17.SaveOpen'. -/
def saveOpenUptoCard : Claim7 := { stood := { row := saveOpenUptoRow, standIns := [], harness := (true, "8fa86d716e3cbb5d44ad5d616054dc9adf16b2d155b2b8fa930f25b85a3d54ce"), looks := true }, kinds := [], alts := [], laidByText := true, laidKinds := [.handle], laidTests := true, laidLooks := .later }
def SaveOpenUptoCardSaid : Prop := Claim7.holds Tryz.pinned (.plain (OpenSpec.upto saveOpenSpec)) saveOpenUptoCard

/-- THE SECOND FORM's CARD OF 'copyistlaw17.SaveWrite'. -/
def saveWriteUptoCard : Claim7 := { stood := { row := saveWriteUptoRow, standIns := [], harness := (true, "8fa86d716e3cbb5d44ad5d616054dc9adf16b2d155b2b8fa930f25b85a3d54ce"), looks := true }, kinds := [], alts := [], laidByText := true, laidKinds := [.handle], laidTests := true, laidLooks := .later }
def SaveWriteUptoCardSaid : Prop := Claim7.holds Tryz.pinned (.plain (OpenSpec.upto saveWriteSpec)) saveWriteUptoCard

/-- THE SECOND FORM's CARD OF 'copyistlaw17.SaveTidy'. -/
def saveTidyUptoCard : Claim7 := { stood := { row := saveTidyUptoRow, standIns := [], harness := (true, "8fa86d716e3cbb5d44ad5d616054dc9adf16b2d155b2b8fa930f25b85a3d54ce"), looks := true }, kinds := [], alts := [], laidByText := true, laidKinds := [.handle], laidTests := true, laidLooks := .later }
def SaveTidyUptoCardSaid : Prop := Claim7.holds Tryz.pinned (.plain (OpenSpec.upto saveTidySpec)) saveTidyUptoCard

/-- THE SECOND FORM's CARD OF 'copyistlaw17.SaveAll'. -/
def saveAllUptoCard : Claim7 := { stood := { row := saveAllUptoRow, standIns := [], harness := (true, "8fa86d716e3cbb5d44ad5d616054dc9adf16b2d155b2b8fa930f25b85a3d54ce"), looks := true }, kinds := [], alts := [], laidByText := true, laidKinds := [.handle], laidTests := true, laidLooks := .later }
def SaveAllUptoCardSaid : Prop := Claim7.holds Tryz.pinned (.plain (OpenSpec.upto saveAllSpec)) saveAllUptoCard

/-- THE SECOND FORM's CARD OF 'copyistlaw17.SaveAgain'. -/
def saveAgainUptoCard : Claim7 := { stood := { row := saveAgainUptoRow, standIns := [], harness := (true, "8fa86d716e3cbb5d44ad5d616054dc9adf16b2d155b2b8fa930f25b85a3d54ce"), looks := true }, kinds := [], alts := [], laidByText := true, laidKinds := [.handle], laidTests := true, laidLooks := .later }
def SaveAgainUptoCardSaid : Prop := Claim7.holds Tryz.pinned (.plain (OpenSpec.upto saveAgainSpec)) saveAgainUptoCard
end Rows
end Go.Proofs.YtmooldhpiopcgaaGreatDoor
