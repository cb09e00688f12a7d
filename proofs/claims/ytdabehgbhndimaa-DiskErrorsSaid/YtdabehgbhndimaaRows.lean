/-
  No cell of these rows narrows 'for every input' (looked for: loops, veiled, ifaces, maps, wideKeys, modest, calm, conditions, laid).
  DERIVED. THE GIVEN ROWS OF THIS SEAT. 6 by the template 'for every input the law returns true; each argument reads behind the call as it read before'; 0 by the template 'total and deterministic' (their statements: YtdabehgbhndimaaTotals.lean).
  GIVEN WITH THE SEED: the statements are not yours to turn. If you find one false, say at which input.
  Laid BY PROGRAM, IN A SANDBOX (cutbox-rows.mjs): the forced cells as the released guide's own fill.sh prints them over the translation 7e586a38d4912b6a… (all of the seat's roots in one cut). By AI agents, Wed Nov 11 2026. No macro, syntax, notation, axiom, sorry.
-/
import Derived.Test.YtdabehgbhndimaaChecked
import GoSem.Claim
import GoSem.ClaimJoined
import GoSem.ClaimMapViews
import Derived.JoinedTies
import Derived.KernelRfl
namespace Go.Proofs.Ytdabehgbhndimaa
/- THE CELL 'sum', in the pinned program and in every row, IS THE sha256 OF THE DUMP (.gsa) THAT YtdabehgbhndimaaProg.lean LOADS. Nothing in Lean hashes anything: it is a label: what it is worth is what the hold of that sum in a sandbox is worth. -/
noncomputable def Try.pinned : Pinned := { name := "ytdabehgbhndimaa", sum := "7e586a38d4912b6a125dbf25606d950b165b876beccce39819ffaf1a2656b78f", checked := Try.checked }
namespace Rows
def none {H : Type} : Left H := { results := [], args := [] }

/-- 'copyistlaw16.DiskErrors': WHATEVER THE INPUT: true; the input reads as it did. -/
def diskErrorsSpec : ChangeSpec := { name := "diskErrors", fn := fun _ => fun
  | [d1, d2] => { results := [.lit (.bool true)], args := [d1, d2] }
  | _ => none }
def diskErrorsRow : OpenClaim := { program := "ytdabehgbhndimaa", sum := "7e586a38d4912b6a125dbf25606d950b165b876beccce39819ffaf1a2656b78f", func := "copyist/copyistlaw16.DiskErrors", spec := "diskErrors", inPlace := ["maps.clone", "internal/reflectlite.TypeOf"], unfollowed := true, recurses := true, apart := false }
def DiskErrorsSaid : Prop := diskErrorsRow.holds Try.pinned (OpenSpec.ofChange diskErrorsSpec)

/-- ITS FALSE NEIGHBOUR: 'it returns false'. Refute it at one input. -/
def diskErrorsWrong : ChangeSpec := { name := "diskErrors", fn := fun _ => fun
  | [d1, d2] => { results := [.lit (.bool false)], args := [d1, d2] }
  | _ => none }
def DiskErrorsWrongFalsely : Prop := diskErrorsRow.holds Try.pinned (OpenSpec.ofChange diskErrorsWrong)

/-- 'copyistlaw16.DiskAtomic': WHATEVER THE INPUT: true; the input reads as it did. -/
def diskAtomicSpec : ChangeSpec := { name := "diskAtomic", fn := fun _ => fun
  | [d1, d2, d3, d4] => { results := [.lit (.bool true)], args := [d1, d2, d3, d4] }
  | _ => none }
def diskAtomicRow : OpenClaim := { program := "ytdabehgbhndimaa", sum := "7e586a38d4912b6a125dbf25606d950b165b876beccce39819ffaf1a2656b78f", func := "copyist/copyistlaw16.DiskAtomic", spec := "diskAtomic", inPlace := ["maps.clone"], unfollowed := true, recurses := true, apart := false }
def DiskAtomicSaid : Prop := diskAtomicRow.holds Try.pinned (OpenSpec.ofChange diskAtomicSpec)

/-- ITS FALSE NEIGHBOUR: 'it returns false'. Refute it at one input. -/
def diskAtomicWrong : ChangeSpec := { name := "diskAtomic", fn := fun _ => fun
  | [d1, d2, d3, d4] => { results := [.lit (.bool false)], args := [d1, d2, d3, d4] }
  | _ => none }
def DiskAtomicWrongFalsely : Prop := diskAtomicRow.holds Try.pinned (OpenSpec.ofChange diskAtomicWrong)

/-- 'copyistlaw16.DiskPrefix': WHATEVER THE INPUT: true; the input reads as it did. -/
def diskPrefixSpec : ChangeSpec := { name := "diskPrefix", fn := fun _ => fun
  | [d1, d2, d3] => { results := [.lit (.bool true)], args := [d1, d2, d3] }
  | _ => none }
def diskPrefixRow : OpenClaim := { program := "ytdabehgbhndimaa", sum := "7e586a38d4912b6a125dbf25606d950b165b876beccce39819ffaf1a2656b78f", func := "copyist/copyistlaw16.DiskPrefix", spec := "diskPrefix", inPlace := ["maps.clone"], unfollowed := true, recurses := true, apart := false }
def DiskPrefixSaid : Prop := diskPrefixRow.holds Try.pinned (OpenSpec.ofChange diskPrefixSpec)

/-- ITS FALSE NEIGHBOUR: 'it returns false'. Refute it at one input. -/
def diskPrefixWrong : ChangeSpec := { name := "diskPrefix", fn := fun _ => fun
  | [d1, d2, d3] => { results := [.lit (.bool false)], args := [d1, d2, d3] }
  | _ => none }
def DiskPrefixWrongFalsely : Prop := diskPrefixRow.holds Try.pinned (OpenSpec.ofChange diskPrefixWrong)

/-- 'copyistlaw16.DiskRoom': WHATEVER THE INPUT: true; the input reads as it did. -/
def diskRoomSpec : ChangeSpec := { name := "diskRoom", fn := fun _ => fun
  | [d1, d2] => { results := [.lit (.bool true)], args := [d1, d2] }
  | _ => none }
def diskRoomRow : OpenClaim := { program := "ytdabehgbhndimaa", sum := "7e586a38d4912b6a125dbf25606d950b165b876beccce39819ffaf1a2656b78f", func := "copyist/copyistlaw16.DiskRoom", spec := "diskRoom", inPlace := ["maps.clone"], unfollowed := true, recurses := true, apart := false }
def DiskRoomSaid : Prop := diskRoomRow.holds Try.pinned (OpenSpec.ofChange diskRoomSpec)

/-- ITS FALSE NEIGHBOUR: 'it returns false'. Refute it at one input. -/
def diskRoomWrong : ChangeSpec := { name := "diskRoom", fn := fun _ => fun
  | [d1, d2] => { results := [.lit (.bool false)], args := [d1, d2] }
  | _ => none }
def DiskRoomWrongFalsely : Prop := diskRoomRow.holds Try.pinned (OpenSpec.ofChange diskRoomWrong)

/-- 'copyistlaw16.DiskRefused': WHATEVER THE INPUT: true; the input reads as it did. -/
def diskRefusedSpec : ChangeSpec := { name := "diskRefused", fn := fun _ => fun
  | [d1, d2, d3] => { results := [.lit (.bool true)], args := [d1, d2, d3] }
  | _ => none }
def diskRefusedRow : OpenClaim := { program := "ytdabehgbhndimaa", sum := "7e586a38d4912b6a125dbf25606d950b165b876beccce39819ffaf1a2656b78f", func := "copyist/copyistlaw16.DiskRefused", spec := "diskRefused", inPlace := ["maps.clone"], unfollowed := true, recurses := true, apart := false }
def DiskRefusedSaid : Prop := diskRefusedRow.holds Try.pinned (OpenSpec.ofChange diskRefusedSpec)

/-- ITS FALSE NEIGHBOUR: 'it returns false'. Refute it at one input. -/
def diskRefusedWrong : ChangeSpec := { name := "diskRefused", fn := fun _ => fun
  | [d1, d2, d3] => { results := [.lit (.bool false)], args := [d1, d2, d3] }
  | _ => none }
def DiskRefusedWrongFalsely : Prop := diskRefusedRow.holds Try.pinned (OpenSpec.ofChange diskRefusedWrong)

/-- 'copyistlaw16.DiskSynced': WHATEVER THE INPUT: true; the input reads as it did. -/
def diskSyncedSpec : ChangeSpec := { name := "diskSynced", fn := fun _ => fun
  | [d1, d2, d3] => { results := [.lit (.bool true)], args := [d1, d2, d3] }
  | _ => none }
def diskSyncedRow : OpenClaim := { program := "ytdabehgbhndimaa", sum := "7e586a38d4912b6a125dbf25606d950b165b876beccce39819ffaf1a2656b78f", func := "copyist/copyistlaw16.DiskSynced", spec := "diskSynced", inPlace := ["maps.clone"], unfollowed := true, recurses := true, apart := false }
def DiskSyncedSaid : Prop := diskSyncedRow.holds Try.pinned (OpenSpec.ofChange diskSyncedSpec)

/-- ITS FALSE NEIGHBOUR: 'it returns false'. Refute it at one input. -/
def diskSyncedWrong : ChangeSpec := { name := "diskSynced", fn := fun _ => fun
  | [d1, d2, d3] => { results := [.lit (.bool false)], args := [d1, d2, d3] }
  | _ => none }
def DiskSyncedWrongFalsely : Prop := diskSyncedRow.holds Try.pinned (OpenSpec.ofChange diskSyncedWrong)

/- THE SECOND FORM. 'bulk': how many values and letters a reading holds, each counted each time it is reached (what is shared counts as often as it is met; a slice's spare places count too). A statement '..UptoSaid' is the law's where the arguments, and the package variables that the reading takes, are together of bulk at most 1048576: NARROWER than '..Said'. Prove '..Said' where nothing that the law and all that it calls make is longer than what came in: it says more and counts as full. Else prove '..UptoSaid'. A law counts once. -/
mutual
def uptoBulk {H : Type} : DataW H → Nat
  | .lit (.string bytes) => bytes.length + 1
  | .lit _ => 1
  | .nil => 1
  | .ptr d => uptoBulk d + 1
  | .slice elems spare => uptoBulkAll elems + uptoBulkAll spare + 1
  | .agg parts => uptoBulkAll parts + 1
  | .iface _ d => uptoBulk d + 1
  | .map entries => uptoBulkEntries entries + 1
  | .held _ => 1
def uptoBulkAll {H : Type} : List (DataW H) → Nat
  | [] => 0
  | d :: r => uptoBulk d + uptoBulkAll r
def uptoBulkEntries {H : Type} : List (Lit × DataW H) → Nat
  | [] => 0
  | x :: r => uptoBulkEntry x + uptoBulkEntries r
def uptoBulkEntry {H : Type} : Lit × DataW H → Nat
  | (.string bytes, d) => bytes.length + uptoBulk d + 1
  | (_, d) => uptoBulk d + 1
 end
def uptoSmall : (H : Type) → List (DataW H) → Bool := fun _ ds => decide (uptoBulkAll ds ≤ 1048576)
def OpenSpec.upto (s : _root_.Go.ChangeSpec) : _root_.Go.OpenSpec := { _root_.Go.OpenSpec.ofChange s with cond := some uptoSmall }

/-- 'copyistlaw16.DiskErrors', WHERE WHAT IT READS IS OF BULK AT MOST 1048576: true; the input reads as it did. -/
def diskErrorsUptoRow : OpenClaim := { program := "ytdabehgbhndimaa", sum := "7e586a38d4912b6a125dbf25606d950b165b876beccce39819ffaf1a2656b78f", func := "copyist/copyistlaw16.DiskErrors", spec := "diskErrors", inPlace := ["maps.clone", "internal/reflectlite.TypeOf"], unfollowed := true, recurses := true, apart := false, narrowed := true }
def DiskErrorsUptoSaid : Prop := diskErrorsUptoRow.holds Try.pinned (OpenSpec.upto diskErrorsSpec)

/-- 'copyistlaw16.DiskAtomic', WHERE WHAT IT READS IS OF BULK AT MOST 1048576: true; the input reads as it did. -/
def diskAtomicUptoRow : OpenClaim := { program := "ytdabehgbhndimaa", sum := "7e586a38d4912b6a125dbf25606d950b165b876beccce39819ffaf1a2656b78f", func := "copyist/copyistlaw16.DiskAtomic", spec := "diskAtomic", inPlace := ["maps.clone"], unfollowed := true, recurses := true, apart := false, narrowed := true }
def DiskAtomicUptoSaid : Prop := diskAtomicUptoRow.holds Try.pinned (OpenSpec.upto diskAtomicSpec)

/-- 'copyistlaw16.DiskPrefix', WHERE WHAT IT READS IS OF BULK AT MOST 1048576: true; the input reads as it did. -/
def diskPrefixUptoRow : OpenClaim := { program := "ytdabehgbhndimaa", sum := "7e586a38d4912b6a125dbf25606d950b165b876beccce39819ffaf1a2656b78f", func := "copyist/copyistlaw16.DiskPrefix", spec := "diskPrefix", inPlace := ["maps.clone"], unfollowed := true, recurses := true, apart := false, narrowed := true }
def DiskPrefixUptoSaid : Prop := diskPrefixUptoRow.holds Try.pinned (OpenSpec.upto diskPrefixSpec)

/-- 'copyistlaw16.DiskRoom', WHERE WHAT IT READS IS OF BULK AT MOST 1048576: true; the input reads as it did. -/
def diskRoomUptoRow : OpenClaim := { program := "ytdabehgbhndimaa", sum := "7e586a38d4912b6a125dbf25606d950b165b876beccce39819ffaf1a2656b78f", func := "copyist/copyistlaw16.DiskRoom", spec := "diskRoom", inPlace := ["maps.clone"], unfollowed := true, recurses := true, apart := false, narrowed := true }
def DiskRoomUptoSaid : Prop := diskRoomUptoRow.holds Try.pinned (OpenSpec.upto diskRoomSpec)

/-- 'copyistlaw16.DiskRefused', WHERE WHAT IT READS IS OF BULK AT MOST 1048576: true; the input reads as it did. -/
def diskRefusedUptoRow : OpenClaim := { program := "ytdabehgbhndimaa", sum := "7e586a38d4912b6a125dbf25606d950b165b876beccce39819ffaf1a2656b78f", func := "copyist/copyistlaw16.DiskRefused", spec := "diskRefused", inPlace := ["maps.clone"], unfollowed := true, recurses := true, apart := false, narrowed := true }
def DiskRefusedUptoSaid : Prop := diskRefusedUptoRow.holds Try.pinned (OpenSpec.upto diskRefusedSpec)

/-- 'copyistlaw16.DiskSynced', WHERE WHAT IT READS IS OF BULK AT MOST 1048576: true; the input reads as it did. -/
def diskSyncedUptoRow : OpenClaim := { program := "ytdabehgbhndimaa", sum := "7e586a38d4912b6a125dbf25606d950b165b876beccce39819ffaf1a2656b78f", func := "copyist/copyistlaw16.DiskSynced", spec := "diskSynced", inPlace := ["maps.clone"], unfollowed := true, recurses := true, apart := false, narrowed := true }
def DiskSyncedUptoSaid : Prop := diskSyncedUptoRow.holds Try.pinned (OpenSpec.upto diskSyncedSpec)

end Rows
end Go.Proofs.Ytdabehgbhndimaa
