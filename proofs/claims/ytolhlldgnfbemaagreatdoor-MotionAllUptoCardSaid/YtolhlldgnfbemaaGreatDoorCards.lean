/-
  DERIVED. GIVEN WITH THE SEED: THE CARDS: each row of YtolhlldgnfbemaaGreatDoorRows.lean that lists a variable, with what it lists TIED to the program's text (the seventh form; the later family's looks); each row that meets fmt, with fmt's text TOLD by the authors' own Lean function (tested against real Go, not proved from fmt's source: count such statements apart). THE CARD IS WHAT COUNTS. Prove the row's statement (the work); the ties are given (YtolhlldgnfbemaaGreatDoorTie.lean); close each card by the builder's one call (the guide's Derived/Test/ToyasCard.lean, 'card_holds'). Laid BY PROGRAM, IN A SANDBOX (cutbox-door.mjs). By AI agents, Wed Nov 11 2026. No macro, syntax, notation, axiom, sorry.
-/
import Derived.Test.YtolhlldgnfbemaaGreatDoorRows
import GoSem.ClaimSeven
namespace Go.Proofs.YtolhlldgnfbemaaGreatDoor
namespace Rows

/-- THE TIED CARD OF 'copyistlaw8.MotionPlaces'. -/
def motionPlacesCard : Claim7 := { stood := { row := motionPlacesRow, standIns := [], harness := (true, "8f74c5824d2844387da4d3f60a6cadad0d89fd3d2452e68467ab9657e16e6046"), looks := false }, kinds := [], alts := [], laidByText := true, laidKinds := [.data], laidTests := true, laidLooks := .later }
def MotionPlacesCardSaid : Prop := Claim7.holds Tryz.pinned (.plain (OpenSpec.ofChange motionPlacesSpec)) motionPlacesCard

/-- THE TIED CARD OF 'copyistlaw8.MotionChars'. -/
def motionCharsCard : Claim7 := { stood := { row := motionCharsRow, standIns := [], harness := (true, "8f74c5824d2844387da4d3f60a6cadad0d89fd3d2452e68467ab9657e16e6046"), looks := false }, kinds := [], alts := [], laidByText := true, laidKinds := [.data], laidTests := true, laidLooks := .later }
def MotionCharsCardSaid : Prop := Claim7.holds Tryz.pinned (.plain (OpenSpec.ofChange motionCharsSpec)) motionCharsCard

/-- THE TIED CARD OF 'copyistlaw8.MotionRows'. -/
def motionRowsCard : Claim7 := { stood := { row := motionRowsRow, standIns := [], harness := (true, "8f74c5824d2844387da4d3f60a6cadad0d89fd3d2452e68467ab9657e16e6046"), looks := false }, kinds := [], alts := [], laidByText := true, laidKinds := [.data], laidTests := true, laidLooks := .later }
def MotionRowsCardSaid : Prop := Claim7.holds Tryz.pinned (.plain (OpenSpec.ofChange motionRowsSpec)) motionRowsCard

/-- THE TIED CARD OF 'copyistlaw8.MotionWords'. -/
def motionWordsCard : Claim7 := { stood := { row := motionWordsRow, standIns := [], harness := (true, "8f74c5824d2844387da4d3f60a6cadad0d89fd3d2452e68467ab9657e16e6046"), looks := false }, kinds := [], alts := [], laidByText := true, laidKinds := [.data], laidTests := true, laidLooks := .later }
def MotionWordsCardSaid : Prop := Claim7.holds Tryz.pinned (.plain (OpenSpec.ofChange motionWordsSpec)) motionWordsCard

/-- THE TIED CARD OF 'copyistlaw8.MotionParas'. -/
def motionParasCard : Claim7 := { stood := { row := motionParasRow, standIns := [], harness := (true, "8f74c5824d2844387da4d3f60a6cadad0d89fd3d2452e68467ab9657e16e6046"), looks := false }, kinds := [], alts := [], laidByText := true, laidKinds := [.data], laidTests := true, laidLooks := .later }
def MotionParasCardSaid : Prop := Claim7.holds Tryz.pinned (.plain (OpenSpec.ofChange motionParasSpec)) motionParasCard

/-- THE TIED CARD OF 'copyistlaw8.MotionReach'. -/
def motionReachCard : Claim7 := { stood := { row := motionReachRow, standIns := [], harness := (true, "8f74c5824d2844387da4d3f60a6cadad0d89fd3d2452e68467ab9657e16e6046"), looks := false }, kinds := [], alts := [], laidByText := true, laidKinds := [.data], laidTests := true, laidLooks := .later }
def MotionReachCardSaid : Prop := Claim7.holds Tryz.pinned (.plain (OpenSpec.ofChange motionReachSpec)) motionReachCard

/-- THE TIED CARD OF 'copyistlaw8.MotionAll'. -/
def motionAllCard : Claim7 := { stood := { row := motionAllRow, standIns := [], harness := (true, "8f74c5824d2844387da4d3f60a6cadad0d89fd3d2452e68467ab9657e16e6046"), looks := false }, kinds := [], alts := [], laidByText := true, laidKinds := [.data], laidTests := true, laidLooks := .later }
def MotionAllCardSaid : Prop := Claim7.holds Tryz.pinned (.plain (OpenSpec.ofChange motionAllSpec)) motionAllCard

/-- THE SECOND FORM's CARD OF 'copyistlaw8.MotionPlaces'. -/
def motionPlacesUptoCard : Claim7 := { stood := { row := motionPlacesUptoRow, standIns := [], harness := (true, "8f74c5824d2844387da4d3f60a6cadad0d89fd3d2452e68467ab9657e16e6046"), looks := false }, kinds := [], alts := [], laidByText := true, laidKinds := [.data], laidTests := true, laidLooks := .later }
def MotionPlacesUptoCardSaid : Prop := Claim7.holds Tryz.pinned (.plain (OpenSpec.upto motionPlacesSpec)) motionPlacesUptoCard

/-- THE SECOND FORM's CARD OF 'copyistlaw8.MotionChars'. -/
def motionCharsUptoCard : Claim7 := { stood := { row := motionCharsUptoRow, standIns := [], harness := (true, "8f74c5824d2844387da4d3f60a6cadad0d89fd3d2452e68467ab9657e16e6046"), looks := false }, kinds := [], alts := [], laidByText := true, laidKinds := [.data], laidTests := true, laidLooks := .later }
def MotionCharsUptoCardSaid : Prop := Claim7.holds Tryz.pinned (.plain (OpenSpec.upto motionCharsSpec)) motionCharsUptoCard

/-- THE SECOND FORM's CARD OF 'copyistlaw8.MotionRows'. -/
def motionRowsUptoCard : Claim7 := { stood := { row := motionRowsUptoRow, standIns := [], harness := (true, "8f74c5824d2844387da4d3f60a6cadad0d89fd3d2452e68467ab9657e16e6046"), looks := false }, kinds := [], alts := [], laidByText := true, laidKinds := [.data], laidTests := true, laidLooks := .later }
def MotionRowsUptoCardSaid : Prop := Claim7.holds Tryz.pinned (.plain (OpenSpec.upto motionRowsSpec)) motionRowsUptoCard

/-- THE SECOND FORM's CARD OF 'copyistlaw8.MotionWords'. -/
def motionWordsUptoCard : Claim7 := { stood := { row := motionWordsUptoRow, standIns := [], harness := (true, "8f74c5824d2844387da4d3f60a6cadad0d89fd3d2452e68467ab9657e16e6046"), looks := false }, kinds := [], alts := [], laidByText := true, laidKinds := [.data], laidTests := true, laidLooks := .later }
def MotionWordsUptoCardSaid : Prop := Claim7.holds Tryz.pinned (.plain (OpenSpec.upto motionWordsSpec)) motionWordsUptoCard

/-- THE SECOND FORM's CARD OF 'copyistlaw8.MotionParas'. -/
def motionParasUptoCard : Claim7 := { stood := { row := motionParasUptoRow, standIns := [], harness := (true, "8f74c5824d2844387da4d3f60a6cadad0d89fd3d2452e68467ab9657e16e6046"), looks := false }, kinds := [], alts := [], laidByText := true, laidKinds := [.data], laidTests := true, laidLooks := .later }
def MotionParasUptoCardSaid : Prop := Claim7.holds Tryz.pinned (.plain (OpenSpec.upto motionParasSpec)) motionParasUptoCard

/-- THE SECOND FORM's CARD OF 'copyistlaw8.MotionReach'. -/
def motionReachUptoCard : Claim7 := { stood := { row := motionReachUptoRow, standIns := [], harness := (true, "8f74c5824d2844387da4d3f60a6cadad0d89fd3d2452e68467ab9657e16e6046"), looks := false }, kinds := [], alts := [], laidByText := true, laidKinds := [.data], laidTests := true, laidLooks := .later }
def MotionReachUptoCardSaid : Prop := Claim7.holds Tryz.pinned (.plain (OpenSpec.upto motionReachSpec)) motionReachUptoCard

/-- THE SECOND FORM's CARD OF 'copyistlaw8.MotionAll'. -/
def motionAllUptoCard : Claim7 := { stood := { row := motionAllUptoRow, standIns := [], harness := (true, "8f74c5824d2844387da4d3f60a6cadad0d89fd3d2452e68467ab9657e16e6046"), looks := false }, kinds := [], alts := [], laidByText := true, laidKinds := [.data], laidTests := true, laidLooks := .later }
def MotionAllUptoCardSaid : Prop := Claim7.holds Tryz.pinned (.plain (OpenSpec.upto motionAllSpec)) motionAllUptoCard
end Rows
end Go.Proofs.YtolhlldgnfbemaaGreatDoor
