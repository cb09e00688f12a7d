/-
  No cell of these rows narrows 'for every input' (looked for: loops, veiled, ifaces, maps, wideKeys, modest, calm, conditions, laid).
  DERIVED. THE GIVEN ROWS OF THIS SEAT. 9 by the template 'for every input the law returns true; each argument reads behind the call as it read before'; 0 by the template 'total and deterministic' (their statements: YtocdfkeflakemaaTotals.lean).
  GIVEN WITH THE SEED: the statements are not yours to turn. If you find one false, say at which input.
  Laid BY PROGRAM, IN A SANDBOX (cutbox-rows.mjs): the forced cells as the released guide's own fill.sh prints them over the translation 1a30ff002a6d600c… (all of the seat's roots in one cut). By AI agents, Wed Nov 11 2026. No macro, syntax, notation, axiom, sorry.
-/
import Derived.Test.YtocdfkeflakemaaChecked
import GoSem.Claim
import GoSem.ClaimJoined
import GoSem.ClaimMapViews
import Derived.JoinedTies
import Derived.KernelRfl
namespace Go.Proofs.Ytocdfkeflakemaa
/- THE CELL 'sum', in the pinned program and in every row, IS THE sha256 OF THE DUMP (.gsa) THAT YtocdfkeflakemaaProg.lean LOADS. Nothing in Lean hashes anything: it is a label: what it is worth is what the hold of that sum in a sandbox is worth. -/
noncomputable def Try.pinned : Pinned := { name := "ytocdfkeflakemaa", sum := "1a30ff002a6d600c8e6808474e77a458f8ca5191bb87e7f8616f430cd0a4667f", checked := Try.checked }
namespace Rows
def none {H : Type} : Left H := { results := [], args := [] }

/-- 'copyistlaw11.RegisterLast': WHATEVER THE INPUT: true; the input reads as it did. -/
def registerLastSpec : ChangeSpec := { name := "registerLast", fn := fun _ => fun
  | [d1, d2, d3, d4, d5] => { results := [.lit (.bool true)], args := [d1, d2, d3, d4, d5] }
  | _ => none }
def registerLastRow : OpenClaim := { program := "ytocdfkeflakemaa", sum := "1a30ff002a6d600c8e6808474e77a458f8ca5191bb87e7f8616f430cd0a4667f", func := "copyist/copyistlaw11.RegisterLast", spec := "registerLast", apart := false }
def RegisterLastSaid : Prop := registerLastRow.holds Try.pinned (OpenSpec.ofChange registerLastSpec)

/-- ITS FALSE NEIGHBOUR: 'it returns false'. Refute it at one input. -/
def registerLastWrong : ChangeSpec := { name := "registerLast", fn := fun _ => fun
  | [d1, d2, d3, d4, d5] => { results := [.lit (.bool false)], args := [d1, d2, d3, d4, d5] }
  | _ => none }
def RegisterLastWrongFalsely : Prop := registerLastRow.holds Try.pinned (OpenSpec.ofChange registerLastWrong)

/-- 'copyistlaw11.RegisterRing': WHATEVER THE INPUT: true; the input reads as it did. -/
def registerRingSpec : ChangeSpec := { name := "registerRing", fn := fun _ => fun
  | [d1, d2] => { results := [.lit (.bool true)], args := [d1, d2] }
  | _ => none }
def registerRingRow : OpenClaim := { program := "ytocdfkeflakemaa", sum := "1a30ff002a6d600c8e6808474e77a458f8ca5191bb87e7f8616f430cd0a4667f", func := "copyist/copyistlaw11.RegisterRing", spec := "registerRing", apart := false }
def RegisterRingSaid : Prop := registerRingRow.holds Try.pinned (OpenSpec.ofChange registerRingSpec)

/-- ITS FALSE NEIGHBOUR: 'it returns false'. Refute it at one input. -/
def registerRingWrong : ChangeSpec := { name := "registerRing", fn := fun _ => fun
  | [d1, d2] => { results := [.lit (.bool false)], args := [d1, d2] }
  | _ => none }
def RegisterRingWrongFalsely : Prop := registerRingRow.holds Try.pinned (OpenSpec.ofChange registerRingWrong)

/-- 'copyistlaw11.RegisterAppend': WHATEVER THE INPUT: true; the input reads as it did. -/
def registerAppendSpec : ChangeSpec := { name := "registerAppend", fn := fun _ => fun
  | [d1, d2, d3] => { results := [.lit (.bool true)], args := [d1, d2, d3] }
  | _ => none }
def registerAppendRow : OpenClaim := { program := "ytocdfkeflakemaa", sum := "1a30ff002a6d600c8e6808474e77a458f8ca5191bb87e7f8616f430cd0a4667f", func := "copyist/copyistlaw11.RegisterAppend", spec := "registerAppend", apart := false }
def RegisterAppendSaid : Prop := registerAppendRow.holds Try.pinned (OpenSpec.ofChange registerAppendSpec)

/-- ITS FALSE NEIGHBOUR: 'it returns false'. Refute it at one input. -/
def registerAppendWrong : ChangeSpec := { name := "registerAppend", fn := fun _ => fun
  | [d1, d2, d3] => { results := [.lit (.bool false)], args := [d1, d2, d3] }
  | _ => none }
def RegisterAppendWrongFalsely : Prop := registerAppendRow.holds Try.pinned (OpenSpec.ofChange registerAppendWrong)

/-- 'copyistlaw11.RegisterHole': WHATEVER THE INPUT: true; the input reads as it did. -/
def registerHoleSpec : ChangeSpec := { name := "registerHole", fn := fun _ => fun
  | [d1, d2, d3, d4] => { results := [.lit (.bool true)], args := [d1, d2, d3, d4] }
  | _ => none }
def registerHoleRow : OpenClaim := { program := "ytocdfkeflakemaa", sum := "1a30ff002a6d600c8e6808474e77a458f8ca5191bb87e7f8616f430cd0a4667f", func := "copyist/copyistlaw11.RegisterHole", spec := "registerHole", apart := false }
def RegisterHoleSaid : Prop := registerHoleRow.holds Try.pinned (OpenSpec.ofChange registerHoleSpec)

/-- ITS FALSE NEIGHBOUR: 'it returns false'. Refute it at one input. -/
def registerHoleWrong : ChangeSpec := { name := "registerHole", fn := fun _ => fun
  | [d1, d2, d3, d4] => { results := [.lit (.bool false)], args := [d1, d2, d3, d4] }
  | _ => none }
def RegisterHoleWrongFalsely : Prop := registerHoleRow.holds Try.pinned (OpenSpec.ofChange registerHoleWrong)

/-- 'copyistlaw11.RegisterYank': WHATEVER THE INPUT: true; the input reads as it did. -/
def registerYankSpec : ChangeSpec := { name := "registerYank", fn := fun _ => fun
  | [d] => { results := [.lit (.bool true)], args := [d] }
  | _ => none }
def registerYankRow : OpenClaim := { program := "ytocdfkeflakemaa", sum := "1a30ff002a6d600c8e6808474e77a458f8ca5191bb87e7f8616f430cd0a4667f", func := "copyist/copyistlaw11.RegisterYank", spec := "registerYank", recurses := true, apart := false }
def RegisterYankSaid : Prop := registerYankRow.holds Try.pinned (OpenSpec.ofChange registerYankSpec)

/-- ITS FALSE NEIGHBOUR: 'it returns false'. Refute it at one input. -/
def registerYankWrong : ChangeSpec := { name := "registerYank", fn := fun _ => fun
  | [d] => { results := [.lit (.bool false)], args := [d] }
  | _ => none }
def RegisterYankWrongFalsely : Prop := registerYankRow.holds Try.pinned (OpenSpec.ofChange registerYankWrong)

/-- 'copyistlaw11.RegisterDelete': WHATEVER THE INPUT: true; the input reads as it did. -/
def registerDeleteSpec : ChangeSpec := { name := "registerDelete", fn := fun _ => fun
  | [d] => { results := [.lit (.bool true)], args := [d] }
  | _ => none }
def registerDeleteRow : OpenClaim := { program := "ytocdfkeflakemaa", sum := "1a30ff002a6d600c8e6808474e77a458f8ca5191bb87e7f8616f430cd0a4667f", func := "copyist/copyistlaw11.RegisterDelete", spec := "registerDelete", recurses := true, apart := false }
def RegisterDeleteSaid : Prop := registerDeleteRow.holds Try.pinned (OpenSpec.ofChange registerDeleteSpec)

/-- ITS FALSE NEIGHBOUR: 'it returns false'. Refute it at one input. -/
def registerDeleteWrong : ChangeSpec := { name := "registerDelete", fn := fun _ => fun
  | [d] => { results := [.lit (.bool false)], args := [d] }
  | _ => none }
def RegisterDeleteWrongFalsely : Prop := registerDeleteRow.holds Try.pinned (OpenSpec.ofChange registerDeleteWrong)

/-- 'copyistlaw11.RegisterSet': WHATEVER THE INPUT: true; the input reads as it did. -/
def registerSetSpec : ChangeSpec := { name := "registerSet", fn := fun _ => fun
  | [d] => { results := [.lit (.bool true)], args := [d] }
  | _ => none }
def registerSetRow : OpenClaim := { program := "ytocdfkeflakemaa", sum := "1a30ff002a6d600c8e6808474e77a458f8ca5191bb87e7f8616f430cd0a4667f", func := "copyist/copyistlaw11.RegisterSet", spec := "registerSet", recurses := true, apart := false }
def RegisterSetSaid : Prop := registerSetRow.holds Try.pinned (OpenSpec.ofChange registerSetSpec)

/-- ITS FALSE NEIGHBOUR: 'it returns false'. Refute it at one input. -/
def registerSetWrong : ChangeSpec := { name := "registerSet", fn := fun _ => fun
  | [d] => { results := [.lit (.bool false)], args := [d] }
  | _ => none }
def RegisterSetWrongFalsely : Prop := registerSetRow.holds Try.pinned (OpenSpec.ofChange registerSetWrong)

/-- 'copyistlaw11.RegisterAll': WHATEVER THE INPUT: true; the input reads as it did. -/
def registerAllSpec : ChangeSpec := { name := "registerAll", fn := fun _ => fun
  | [d] => { results := [.lit (.bool true)], args := [d] }
  | _ => none }
def registerAllRow : OpenClaim := { program := "ytocdfkeflakemaa", sum := "1a30ff002a6d600c8e6808474e77a458f8ca5191bb87e7f8616f430cd0a4667f", func := "copyist/copyistlaw11.RegisterAll", spec := "registerAll", recurses := true, apart := false }
def RegisterAllSaid : Prop := registerAllRow.holds Try.pinned (OpenSpec.ofChange registerAllSpec)

/-- ITS FALSE NEIGHBOUR: 'it returns false'. Refute it at one input. -/
def registerAllWrong : ChangeSpec := { name := "registerAll", fn := fun _ => fun
  | [d] => { results := [.lit (.bool false)], args := [d] }
  | _ => none }
def RegisterAllWrongFalsely : Prop := registerAllRow.holds Try.pinned (OpenSpec.ofChange registerAllWrong)

/-- 'copyistlaw11.RegisterApart': WHATEVER THE INPUT: true; the input reads as it did. -/
def registerApartSpec : ChangeSpec := { name := "registerApart", fn := fun _ => fun
  | [d1, d2] => { results := [.lit (.bool true)], args := [d1, d2] }
  | _ => none }
def registerApartRow : OpenClaim := { program := "ytocdfkeflakemaa", sum := "1a30ff002a6d600c8e6808474e77a458f8ca5191bb87e7f8616f430cd0a4667f", func := "copyist/copyistlaw11.RegisterApart", spec := "registerApart", recurses := true, apart := false }
def RegisterApartSaid : Prop := registerApartRow.holds Try.pinned (OpenSpec.ofChange registerApartSpec)

/-- ITS FALSE NEIGHBOUR: 'it returns false'. Refute it at one input. -/
def registerApartWrong : ChangeSpec := { name := "registerApart", fn := fun _ => fun
  | [d1, d2] => { results := [.lit (.bool false)], args := [d1, d2] }
  | _ => none }
def RegisterApartWrongFalsely : Prop := registerApartRow.holds Try.pinned (OpenSpec.ofChange registerApartWrong)

/- THE SECOND FORM. 'bulk': how many values and letters a reading holds, each counted each time it is reached (what is shared counts as often as it is met; a slice's spare places count too). A statement '..UptoSaid' is the law's where the arguments, and the package variables that the reading takes, are together of bulk at most 1048576: NARROWER than '..Said'. Prove '..Said' where nothing that the law and all that it calls make is longer than what came in: it says more and counts as full. Else prove '..UptoSaid'. A law counts once. -/
mutual
def uptoBulk {H : Type} : DataW H → Nat
  | .lit (.string bytes) => bytes.length + 1
  | .lit _ => 1
  | .nil => 1
  | .ptr d => uptoBulk d + 1
  | .slice elems spare => uptoBulkAll elems + uptoBulkAll spare + 1
  | .agg parts => uptoBulkAll parts + 1
  | .iface _ d => uptoBulk d + 1
  | .map entries => uptoBulkEntries entries + 1
  | .held _ => 1
def uptoBulkAll {H : Type} : List (DataW H) → Nat
  | [] => 0
  | d :: r => uptoBulk d + uptoBulkAll r
def uptoBulkEntries {H : Type} : List (Lit × DataW H) → Nat
  | [] => 0
  | x :: r => uptoBulkEntry x + uptoBulkEntries r
def uptoBulkEntry {H : Type} : Lit × DataW H → Nat
  | (.string bytes, d) => bytes.length + uptoBulk d + 1
  | (_, d) => uptoBulk d + 1
 end
def uptoSmall : (H : Type) → List (DataW H) → Bool := fun _ ds => decide (uptoBulkAll ds ≤ 1048576)
def OpenSpec.upto (s : _root_.Go.ChangeSpec) : _root_.Go.OpenSpec := { _root_.Go.OpenSpec.ofChange s with cond := some uptoSmall }

/-- 'copyistlaw11.RegisterLast', WHERE WHAT IT READS IS OF BULK AT MOST 1048576: true; the input reads as it did. -/
def registerLastUptoRow : OpenClaim := { program := "ytocdfkeflakemaa", sum := "1a30ff002a6d600c8e6808474e77a458f8ca5191bb87e7f8616f430cd0a4667f", func := "copyist/copyistlaw11.RegisterLast", spec := "registerLast", apart := false, narrowed := true }
def RegisterLastUptoSaid : Prop := registerLastUptoRow.holds Try.pinned (OpenSpec.upto registerLastSpec)

/-- 'copyistlaw11.RegisterRing', WHERE WHAT IT READS IS OF BULK AT MOST 1048576: true; the input reads as it did. -/
def registerRingUptoRow : OpenClaim := { program := "ytocdfkeflakemaa", sum := "1a30ff002a6d600c8e6808474e77a458f8ca5191bb87e7f8616f430cd0a4667f", func := "copyist/copyistlaw11.RegisterRing", spec := "registerRing", apart := false, narrowed := true }
def RegisterRingUptoSaid : Prop := registerRingUptoRow.holds Try.pinned (OpenSpec.upto registerRingSpec)

/-- 'copyistlaw11.RegisterAppend', WHERE WHAT IT READS IS OF BULK AT MOST 1048576: true; the input reads as it did. -/
def registerAppendUptoRow : OpenClaim := { program := "ytocdfkeflakemaa", sum := "1a30ff002a6d600c8e6808474e77a458f8ca5191bb87e7f8616f430cd0a4667f", func := "copyist/copyistlaw11.RegisterAppend", spec := "registerAppend", apart := false, narrowed := true }
def RegisterAppendUptoSaid : Prop := registerAppendUptoRow.holds Try.pinned (OpenSpec.upto registerAppendSpec)

/-- 'copyistlaw11.RegisterHole', WHERE WHAT IT READS IS OF BULK AT MOST 1048576: true; the input reads as it did. -/
def registerHoleUptoRow : OpenClaim := { program := "ytocdfkeflakemaa", sum := "1a30ff002a6d600c8e6808474e77a458f8ca5191bb87e7f8616f430cd0a4667f", func := "copyist/copyistlaw11.RegisterHole", spec := "registerHole", apart := false, narrowed := true }
def RegisterHoleUptoSaid : Prop := registerHoleUptoRow.holds Try.pinned (OpenSpec.upto registerHoleSpec)

/-- 'copyistlaw11.RegisterYank', WHERE WHAT IT READS IS OF BULK AT MOST 1048576: true; the input reads as it did. -/
def registerYankUptoRow : OpenClaim := { program := "ytocdfkeflakemaa", sum := "1a30ff002a6d600c8e6808474e77a458f8ca5191bb87e7f8616f430cd0a4667f", func := "copyist/copyistlaw11.RegisterYank", spec := "registerYank", recurses := true, apart := false, narrowed := true }
def RegisterYankUptoSaid : Prop := registerYankUptoRow.holds Try.pinned (OpenSpec.upto registerYankSpec)

/-- 'copyistlaw11.RegisterDelete', WHERE WHAT IT READS IS OF BULK AT MOST 1048576: true; the input reads as it did. -/
def registerDeleteUptoRow : OpenClaim := { program := "ytocdfkeflakemaa", sum := "1a30ff002a6d600c8e6808474e77a458f8ca5191bb87e7f8616f430cd0a4667f", func := "copyist/copyistlaw11.RegisterDelete", spec := "registerDelete", recurses := true, apart := false, narrowed := true }
def RegisterDeleteUptoSaid : Prop := registerDeleteUptoRow.holds Try.pinned (OpenSpec.upto registerDeleteSpec)

/-- 'copyistlaw11.RegisterSet', WHERE WHAT IT READS IS OF BULK AT MOST 1048576: true; the input reads as it did. -/
def registerSetUptoRow : OpenClaim := { program := "ytocdfkeflakemaa", sum := "1a30ff002a6d600c8e6808474e77a458f8ca5191bb87e7f8616f430cd0a4667f", func := "copyist/copyistlaw11.RegisterSet", spec := "registerSet", recurses := true, apart := false, narrowed := true }
def RegisterSetUptoSaid : Prop := registerSetUptoRow.holds Try.pinned (OpenSpec.upto registerSetSpec)

/-- 'copyistlaw11.RegisterAll', WHERE WHAT IT READS IS OF BULK AT MOST 1048576: true; the input reads as it did. -/
def registerAllUptoRow : OpenClaim := { program := "ytocdfkeflakemaa", sum := "1a30ff002a6d600c8e6808474e77a458f8ca5191bb87e7f8616f430cd0a4667f", func := "copyist/copyistlaw11.RegisterAll", spec := "registerAll", recurses := true, apart := false, narrowed := true }
def RegisterAllUptoSaid : Prop := registerAllUptoRow.holds Try.pinned (OpenSpec.upto registerAllSpec)

/-- 'copyistlaw11.RegisterApart', WHERE WHAT IT READS IS OF BULK AT MOST 1048576: true; the input reads as it did. -/
def registerApartUptoRow : OpenClaim := { program := "ytocdfkeflakemaa", sum := "1a30ff002a6d600c8e6808474e77a458f8ca5191bb87e7f8616f430cd0a4667f", func := "copyist/copyistlaw11.RegisterApart", spec := "registerApart", recurses := true, apart := false, narrowed := true }
def RegisterApartUptoSaid : Prop := registerApartUptoRow.holds Try.pinned (OpenSpec.upto registerApartSpec)

end Rows
end Go.Proofs.Ytocdfkeflakemaa
