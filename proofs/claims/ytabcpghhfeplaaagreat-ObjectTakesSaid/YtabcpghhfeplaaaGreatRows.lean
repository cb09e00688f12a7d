/-
  No cell of these rows narrows 'for every input' (looked for: loops, veiled, ifaces, maps, wideKeys, modest, calm, conditions, laid).
  DERIVED. THE GIVEN ROWS OF THIS SEAT. 13 by the template 'for every input the law returns true; each argument reads behind the call as it read before'; 0 by the template 'total and deterministic' (their statements: YtabcpghhfeplaaaGreatTotals.lean).
  GIVEN WITH THE SEED: the statements are not yours to turn. If you find one false, say at which input.
  Laid BY PROGRAM, IN A SANDBOX (cutbox-rows.mjs): the forced cells as the released guide's own fill.sh prints them over the translation 071e31b7c1f5a306… (all of the seat's roots in one cut). By AI agents, Wed Nov 11 2026. No macro, syntax, notation, axiom, sorry.
-/
import Derived.Test.YtabcpghhfeplaaaGreatChecked
import GoSem.Claim
import GoSem.ClaimJoined
import GoSem.ClaimMapViews
import Derived.JoinedTies
import Derived.KernelRfl
namespace Go.Proofs.YtabcpghhfeplaaaGreat
/- THE CELL 'sum', in the pinned program and in every row, IS THE sha256 OF THE DUMP (.gsa) THAT YtabcpghhfeplaaaGreatProg.lean LOADS. Nothing in Lean hashes anything: it is a label: what it is worth is what the hold of that sum in a sandbox is worth. -/
noncomputable def Tryz.pinned : Pinned := { name := "ytabcpghhfeplaaagreat", sum := "071e31b7c1f5a306567618ebe3bb276c26bff109ee0671fb5af967c6a67c9c74", checked := Tryz.checked }
namespace Rows
def none {H : Type} : Left H := { results := [], args := [] }

/-- 'copyistlaw9.ObjectNested': WHATEVER THE INPUT: true; the input reads as it did. -/
def objectNestedSpec : ChangeSpec := { name := "objectNested", fn := fun _ => fun
  | [d1, d2, d3, d4] => { results := [.lit (.bool true)], args := [d1, d2, d3, d4] }
  | _ => none }
def objectNestedRow : OpenClaim := { program := "ytabcpghhfeplaaagreat", sum := "071e31b7c1f5a306567618ebe3bb276c26bff109ee0671fb5af967c6a67c9c74", func := "copyist/copyistlaw9.ObjectNested", spec := "objectNested", unfollowed := true, recurses := true, apart := false }
def ObjectNestedSaid : Prop := objectNestedRow.holds Tryz.pinned (OpenSpec.ofChange objectNestedSpec)

/-- ITS FALSE NEIGHBOUR: 'it returns false'. Refute it at one input. -/
def objectNestedWrong : ChangeSpec := { name := "objectNested", fn := fun _ => fun
  | [d1, d2, d3, d4] => { results := [.lit (.bool false)], args := [d1, d2, d3, d4] }
  | _ => none }
def ObjectNestedWrongFalsely : Prop := objectNestedRow.holds Tryz.pinned (OpenSpec.ofChange objectNestedWrong)

/-- 'copyistlaw9.ObjectBounds': WHATEVER THE INPUT: true; the input reads as it did. -/
def objectBoundsSpec : ChangeSpec := { name := "objectBounds", fn := fun _ => fun
  | [d1, d2] => { results := [.lit (.bool true)], args := [d1, d2] }
  | _ => none }
def objectBoundsRow : OpenClaim := { program := "ytabcpghhfeplaaagreat", sum := "071e31b7c1f5a306567618ebe3bb276c26bff109ee0671fb5af967c6a67c9c74", func := "copyist/copyistlaw9.ObjectBounds", spec := "objectBounds", unfollowed := true, recurses := true, apart := false }
def ObjectBoundsSaid : Prop := objectBoundsRow.holds Tryz.pinned (OpenSpec.ofChange objectBoundsSpec)

/-- ITS FALSE NEIGHBOUR: 'it returns false'. Refute it at one input. -/
def objectBoundsWrong : ChangeSpec := { name := "objectBounds", fn := fun _ => fun
  | [d1, d2] => { results := [.lit (.bool false)], args := [d1, d2] }
  | _ => none }
def ObjectBoundsWrongFalsely : Prop := objectBoundsRow.holds Tryz.pinned (OpenSpec.ofChange objectBoundsWrong)

/-- 'copyistlaw9.ObjectSame': WHATEVER THE INPUT: true; the input reads as it did. -/
def objectSameSpec : ChangeSpec := { name := "objectSame", fn := fun _ => fun
  | [d1, d2, d3] => { results := [.lit (.bool true)], args := [d1, d2, d3] }
  | _ => none }
def objectSameRow : OpenClaim := { program := "ytabcpghhfeplaaagreat", sum := "071e31b7c1f5a306567618ebe3bb276c26bff109ee0671fb5af967c6a67c9c74", func := "copyist/copyistlaw9.ObjectSame", spec := "objectSame", unfollowed := true, recurses := true, apart := false }
def ObjectSameSaid : Prop := objectSameRow.holds Tryz.pinned (OpenSpec.ofChange objectSameSpec)

/-- ITS FALSE NEIGHBOUR: 'it returns false'. Refute it at one input. -/
def objectSameWrong : ChangeSpec := { name := "objectSame", fn := fun _ => fun
  | [d1, d2, d3] => { results := [.lit (.bool false)], args := [d1, d2, d3] }
  | _ => none }
def ObjectSameWrongFalsely : Prop := objectSameRow.holds Tryz.pinned (OpenSpec.ofChange objectSameWrong)

/-- 'copyistlaw9.ObjectWords': WHATEVER THE INPUT: true; the input reads as it did. -/
def objectWordsSpec : ChangeSpec := { name := "objectWords", fn := fun _ => fun
  | [d1, d2, d3] => { results := [.lit (.bool true)], args := [d1, d2, d3] }
  | _ => none }
def objectWordsRow : OpenClaim := { program := "ytabcpghhfeplaaagreat", sum := "071e31b7c1f5a306567618ebe3bb276c26bff109ee0671fb5af967c6a67c9c74", func := "copyist/copyistlaw9.ObjectWords", spec := "objectWords", unfollowed := true, recurses := true, apart := false }
def ObjectWordsSaid : Prop := objectWordsRow.holds Tryz.pinned (OpenSpec.ofChange objectWordsSpec)

/-- ITS FALSE NEIGHBOUR: 'it returns false'. Refute it at one input. -/
def objectWordsWrong : ChangeSpec := { name := "objectWords", fn := fun _ => fun
  | [d1, d2, d3] => { results := [.lit (.bool false)], args := [d1, d2, d3] }
  | _ => none }
def ObjectWordsWrongFalsely : Prop := objectWordsRow.holds Tryz.pinned (OpenSpec.ofChange objectWordsWrong)

/-- 'copyistlaw9.ObjectQuotes': WHATEVER THE INPUT: true; the input reads as it did. -/
def objectQuotesSpec : ChangeSpec := { name := "objectQuotes", fn := fun _ => fun
  | [d1, d2, d3] => { results := [.lit (.bool true)], args := [d1, d2, d3] }
  | _ => none }
def objectQuotesRow : OpenClaim := { program := "ytabcpghhfeplaaagreat", sum := "071e31b7c1f5a306567618ebe3bb276c26bff109ee0671fb5af967c6a67c9c74", func := "copyist/copyistlaw9.ObjectQuotes", spec := "objectQuotes", unfollowed := true, recurses := true, apart := false }
def ObjectQuotesSaid : Prop := objectQuotesRow.holds Tryz.pinned (OpenSpec.ofChange objectQuotesSpec)

/-- ITS FALSE NEIGHBOUR: 'it returns false'. Refute it at one input. -/
def objectQuotesWrong : ChangeSpec := { name := "objectQuotes", fn := fun _ => fun
  | [d1, d2, d3] => { results := [.lit (.bool false)], args := [d1, d2, d3] }
  | _ => none }
def ObjectQuotesWrongFalsely : Prop := objectQuotesRow.holds Tryz.pinned (OpenSpec.ofChange objectQuotesWrong)

/-- 'copyistlaw9.ObjectBlocks': WHATEVER THE INPUT: true; the input reads as it did. -/
def objectBlocksSpec : ChangeSpec := { name := "objectBlocks", fn := fun _ => fun
  | [d1, d2, d3] => { results := [.lit (.bool true)], args := [d1, d2, d3] }
  | _ => none }
def objectBlocksRow : OpenClaim := { program := "ytabcpghhfeplaaagreat", sum := "071e31b7c1f5a306567618ebe3bb276c26bff109ee0671fb5af967c6a67c9c74", func := "copyist/copyistlaw9.ObjectBlocks", spec := "objectBlocks", unfollowed := true, recurses := true, apart := false }
def ObjectBlocksSaid : Prop := objectBlocksRow.holds Tryz.pinned (OpenSpec.ofChange objectBlocksSpec)

/-- ITS FALSE NEIGHBOUR: 'it returns false'. Refute it at one input. -/
def objectBlocksWrong : ChangeSpec := { name := "objectBlocks", fn := fun _ => fun
  | [d1, d2, d3] => { results := [.lit (.bool false)], args := [d1, d2, d3] }
  | _ => none }
def ObjectBlocksWrongFalsely : Prop := objectBlocksRow.holds Tryz.pinned (OpenSpec.ofChange objectBlocksWrong)

/-- 'copyistlaw9.ObjectParas': WHATEVER THE INPUT: true; the input reads as it did. -/
def objectParasSpec : ChangeSpec := { name := "objectParas", fn := fun _ => fun
  | [d1, d2, d3] => { results := [.lit (.bool true)], args := [d1, d2, d3] }
  | _ => none }
def objectParasRow : OpenClaim := { program := "ytabcpghhfeplaaagreat", sum := "071e31b7c1f5a306567618ebe3bb276c26bff109ee0671fb5af967c6a67c9c74", func := "copyist/copyistlaw9.ObjectParas", spec := "objectParas", unfollowed := true, recurses := true, apart := false }
def ObjectParasSaid : Prop := objectParasRow.holds Tryz.pinned (OpenSpec.ofChange objectParasSpec)

/-- ITS FALSE NEIGHBOUR: 'it returns false'. Refute it at one input. -/
def objectParasWrong : ChangeSpec := { name := "objectParas", fn := fun _ => fun
  | [d1, d2, d3] => { results := [.lit (.bool false)], args := [d1, d2, d3] }
  | _ => none }
def ObjectParasWrongFalsely : Prop := objectParasRow.holds Tryz.pinned (OpenSpec.ofChange objectParasWrong)

/-- 'copyistlaw9.ObjectTakes': WHATEVER THE INPUT: true; the input reads as it did. -/
def objectTakesSpec : ChangeSpec := { name := "objectTakes", fn := fun _ => fun
  | [d1, d2, d3] => { results := [.lit (.bool true)], args := [d1, d2, d3] }
  | _ => none }
def objectTakesRow : OpenClaim := { program := "ytabcpghhfeplaaagreat", sum := "071e31b7c1f5a306567618ebe3bb276c26bff109ee0671fb5af967c6a67c9c74", func := "copyist/copyistlaw9.ObjectTakes", spec := "objectTakes", unfollowed := true, recurses := true, apart := false }
def ObjectTakesSaid : Prop := objectTakesRow.holds Tryz.pinned (OpenSpec.ofChange objectTakesSpec)

/-- ITS FALSE NEIGHBOUR: 'it returns false'. Refute it at one input. -/
def objectTakesWrong : ChangeSpec := { name := "objectTakes", fn := fun _ => fun
  | [d1, d2, d3] => { results := [.lit (.bool false)], args := [d1, d2, d3] }
  | _ => none }
def ObjectTakesWrongFalsely : Prop := objectTakesRow.holds Tryz.pinned (OpenSpec.ofChange objectTakesWrong)

/-- 'copyistlaw9.ObjectAll': WHATEVER THE INPUT: true; the input reads as it did. -/
def objectAllSpec : ChangeSpec := { name := "objectAll", fn := fun _ => fun
  | [d1, d2, d3] => { results := [.lit (.bool true)], args := [d1, d2, d3] }
  | _ => none }
def objectAllRow : OpenClaim := { program := "ytabcpghhfeplaaagreat", sum := "071e31b7c1f5a306567618ebe3bb276c26bff109ee0671fb5af967c6a67c9c74", func := "copyist/copyistlaw9.ObjectAll", spec := "objectAll", unfollowed := true, recurses := true, apart := false }
def ObjectAllSaid : Prop := objectAllRow.holds Tryz.pinned (OpenSpec.ofChange objectAllSpec)

/-- ITS FALSE NEIGHBOUR: 'it returns false'. Refute it at one input. -/
def objectAllWrong : ChangeSpec := { name := "objectAll", fn := fun _ => fun
  | [d1, d2, d3] => { results := [.lit (.bool false)], args := [d1, d2, d3] }
  | _ => none }
def ObjectAllWrongFalsely : Prop := objectAllRow.holds Tryz.pinned (OpenSpec.ofChange objectAllWrong)

/-- 'copyistlaw9.ObjectWordMade': WHATEVER THE INPUT: true; the input reads as it did. -/
def objectWordMadeSpec : ChangeSpec := { name := "objectWordMade", fn := fun _ => fun
  | [d1, d2, d3, d4, d5, d6] => { results := [.lit (.bool true)], args := [d1, d2, d3, d4, d5, d6] }
  | _ => none }
def objectWordMadeRow : OpenClaim := { program := "ytabcpghhfeplaaagreat", sum := "071e31b7c1f5a306567618ebe3bb276c26bff109ee0671fb5af967c6a67c9c74", func := "copyist/copyistlaw9.ObjectWordMade", spec := "objectWordMade", unfollowed := true, recurses := true, apart := false }
def ObjectWordMadeSaid : Prop := objectWordMadeRow.holds Tryz.pinned (OpenSpec.ofChange objectWordMadeSpec)

/-- ITS FALSE NEIGHBOUR: 'it returns false'. Refute it at one input. -/
def objectWordMadeWrong : ChangeSpec := { name := "objectWordMade", fn := fun _ => fun
  | [d1, d2, d3, d4, d5, d6] => { results := [.lit (.bool false)], args := [d1, d2, d3, d4, d5, d6] }
  | _ => none }
def ObjectWordMadeWrongFalsely : Prop := objectWordMadeRow.holds Tryz.pinned (OpenSpec.ofChange objectWordMadeWrong)

/-- 'copyistlaw9.ObjectQuoteMade': WHATEVER THE INPUT: true; the input reads as it did. -/
def objectQuoteMadeSpec : ChangeSpec := { name := "objectQuoteMade", fn := fun _ => fun
  | [d1, d2, d3, d4, d5, d6] => { results := [.lit (.bool true)], args := [d1, d2, d3, d4, d5, d6] }
  | _ => none }
def objectQuoteMadeRow : OpenClaim := { program := "ytabcpghhfeplaaagreat", sum := "071e31b7c1f5a306567618ebe3bb276c26bff109ee0671fb5af967c6a67c9c74", func := "copyist/copyistlaw9.ObjectQuoteMade", spec := "objectQuoteMade", unfollowed := true, recurses := true, apart := false }
def ObjectQuoteMadeSaid : Prop := objectQuoteMadeRow.holds Tryz.pinned (OpenSpec.ofChange objectQuoteMadeSpec)

/-- ITS FALSE NEIGHBOUR: 'it returns false'. Refute it at one input. -/
def objectQuoteMadeWrong : ChangeSpec := { name := "objectQuoteMade", fn := fun _ => fun
  | [d1, d2, d3, d4, d5, d6] => { results := [.lit (.bool false)], args := [d1, d2, d3, d4, d5, d6] }
  | _ => none }
def ObjectQuoteMadeWrongFalsely : Prop := objectQuoteMadeRow.holds Tryz.pinned (OpenSpec.ofChange objectQuoteMadeWrong)

/-- 'copyistlaw9.ObjectBlockMade': WHATEVER THE INPUT: true; the input reads as it did. -/
def objectBlockMadeSpec : ChangeSpec := { name := "objectBlockMade", fn := fun _ => fun
  | [d1, d2, d3, d4, d5, d6, d7] => { results := [.lit (.bool true)], args := [d1, d2, d3, d4, d5, d6, d7] }
  | _ => none }
def objectBlockMadeRow : OpenClaim := { program := "ytabcpghhfeplaaagreat", sum := "071e31b7c1f5a306567618ebe3bb276c26bff109ee0671fb5af967c6a67c9c74", func := "copyist/copyistlaw9.ObjectBlockMade", spec := "objectBlockMade", unfollowed := true, recurses := true, apart := false }
def ObjectBlockMadeSaid : Prop := objectBlockMadeRow.holds Tryz.pinned (OpenSpec.ofChange objectBlockMadeSpec)

/-- ITS FALSE NEIGHBOUR: 'it returns false'. Refute it at one input. -/
def objectBlockMadeWrong : ChangeSpec := { name := "objectBlockMade", fn := fun _ => fun
  | [d1, d2, d3, d4, d5, d6, d7] => { results := [.lit (.bool false)], args := [d1, d2, d3, d4, d5, d6, d7] }
  | _ => none }
def ObjectBlockMadeWrongFalsely : Prop := objectBlockMadeRow.holds Tryz.pinned (OpenSpec.ofChange objectBlockMadeWrong)

/-- 'copyistlaw9.ObjectParaMade': WHATEVER THE INPUT: true; the input reads as it did. -/
def objectParaMadeSpec : ChangeSpec := { name := "objectParaMade", fn := fun _ => fun
  | [d1, d2, d3, d4, d5] => { results := [.lit (.bool true)], args := [d1, d2, d3, d4, d5] }
  | _ => none }
def objectParaMadeRow : OpenClaim := { program := "ytabcpghhfeplaaagreat", sum := "071e31b7c1f5a306567618ebe3bb276c26bff109ee0671fb5af967c6a67c9c74", func := "copyist/copyistlaw9.ObjectParaMade", spec := "objectParaMade", unfollowed := true, recurses := true, apart := false }
def ObjectParaMadeSaid : Prop := objectParaMadeRow.holds Tryz.pinned (OpenSpec.ofChange objectParaMadeSpec)

/-- ITS FALSE NEIGHBOUR: 'it returns false'. Refute it at one input. -/
def objectParaMadeWrong : ChangeSpec := { name := "objectParaMade", fn := fun _ => fun
  | [d1, d2, d3, d4, d5] => { results := [.lit (.bool false)], args := [d1, d2, d3, d4, d5] }
  | _ => none }
def ObjectParaMadeWrongFalsely : Prop := objectParaMadeRow.holds Tryz.pinned (OpenSpec.ofChange objectParaMadeWrong)

/- THE SECOND FORM. 'bulk': how many values and letters a reading holds, each counted each time it is reached (what is shared counts as often as it is met; a slice's spare places count too). A statement '..UptoSaid' is the law's where the arguments, and the package variables that the reading takes, are together of bulk at most 1048576: NARROWER than '..Said'. Prove '..Said' where nothing that the law and all that it calls make is longer than what came in: it says more and counts as full. Else prove '..UptoSaid'. A law counts once. -/
mutual
def uptoBulk {H : Type} : DataW H → Nat
  | .lit (.string bytes) => bytes.length + 1
  | .lit _ => 1
  | .nil => 1
  | .ptr d => uptoBulk d + 1
  | .slice elems spare => uptoBulkAll elems + uptoBulkAll spare + 1
  | .agg parts => uptoBulkAll parts + 1
  | .iface _ d => uptoBulk d + 1
  | .map entries => uptoBulkEntries entries + 1
  | .held _ => 1
def uptoBulkAll {H : Type} : List (DataW H) → Nat
  | [] => 0
  | d :: r => uptoBulk d + uptoBulkAll r
def uptoBulkEntries {H : Type} : List (Lit × DataW H) → Nat
  | [] => 0
  | x :: r => uptoBulkEntry x + uptoBulkEntries r
def uptoBulkEntry {H : Type} : Lit × DataW H → Nat
  | (.string bytes, d) => bytes.length + uptoBulk d + 1
  | (_, d) => uptoBulk d + 1
 end
def uptoSmall : (H : Type) → List (DataW H) → Bool := fun _ ds => decide (uptoBulkAll ds ≤ 1048576)
def OpenSpec.upto (s : _root_.Go.ChangeSpec) : _root_.Go.OpenSpec := { _root_.Go.OpenSpec.ofChange s with cond := some uptoSmall }

/-- 'copyistlaw9.ObjectNested', WHERE WHAT IT READS IS OF BULK AT MOST 1048576: true; the input reads as it did. -/
def objectNestedUptoRow : OpenClaim := { program := "ytabcpghhfeplaaagreat", sum := "071e31b7c1f5a306567618ebe3bb276c26bff109ee0671fb5af967c6a67c9c74", func := "copyist/copyistlaw9.ObjectNested", spec := "objectNested", unfollowed := true, recurses := true, apart := false, narrowed := true }
def ObjectNestedUptoSaid : Prop := objectNestedUptoRow.holds Tryz.pinned (OpenSpec.upto objectNestedSpec)

/-- 'copyistlaw9.ObjectBounds', WHERE WHAT IT READS IS OF BULK AT MOST 1048576: true; the input reads as it did. -/
def objectBoundsUptoRow : OpenClaim := { program := "ytabcpghhfeplaaagreat", sum := "071e31b7c1f5a306567618ebe3bb276c26bff109ee0671fb5af967c6a67c9c74", func := "copyist/copyistlaw9.ObjectBounds", spec := "objectBounds", unfollowed := true, recurses := true, apart := false, narrowed := true }
def ObjectBoundsUptoSaid : Prop := objectBoundsUptoRow.holds Tryz.pinned (OpenSpec.upto objectBoundsSpec)

/-- 'copyistlaw9.ObjectSame', WHERE WHAT IT READS IS OF BULK AT MOST 1048576: true; the input reads as it did. -/
def objectSameUptoRow : OpenClaim := { program := "ytabcpghhfeplaaagreat", sum := "071e31b7c1f5a306567618ebe3bb276c26bff109ee0671fb5af967c6a67c9c74", func := "copyist/copyistlaw9.ObjectSame", spec := "objectSame", unfollowed := true, recurses := true, apart := false, narrowed := true }
def ObjectSameUptoSaid : Prop := objectSameUptoRow.holds Tryz.pinned (OpenSpec.upto objectSameSpec)

/-- 'copyistlaw9.ObjectWords', WHERE WHAT IT READS IS OF BULK AT MOST 1048576: true; the input reads as it did. -/
def objectWordsUptoRow : OpenClaim := { program := "ytabcpghhfeplaaagreat", sum := "071e31b7c1f5a306567618ebe3bb276c26bff109ee0671fb5af967c6a67c9c74", func := "copyist/copyistlaw9.ObjectWords", spec := "objectWords", unfollowed := true, recurses := true, apart := false, narrowed := true }
def ObjectWordsUptoSaid : Prop := objectWordsUptoRow.holds Tryz.pinned (OpenSpec.upto objectWordsSpec)

/-- 'copyistlaw9.ObjectQuotes', WHERE WHAT IT READS IS OF BULK AT MOST 1048576: true; the input reads as it did. -/
def objectQuotesUptoRow : OpenClaim := { program := "ytabcpghhfeplaaagreat", sum := "071e31b7c1f5a306567618ebe3bb276c26bff109ee0671fb5af967c6a67c9c74", func := "copyist/copyistlaw9.ObjectQuotes", spec := "objectQuotes", unfollowed := true, recurses := true, apart := false, narrowed := true }
def ObjectQuotesUptoSaid : Prop := objectQuotesUptoRow.holds Tryz.pinned (OpenSpec.upto objectQuotesSpec)

/-- 'copyistlaw9.ObjectBlocks', WHERE WHAT IT READS IS OF BULK AT MOST 1048576: true; the input reads as it did. -/
def objectBlocksUptoRow : OpenClaim := { program := "ytabcpghhfeplaaagreat", sum := "071e31b7c1f5a306567618ebe3bb276c26bff109ee0671fb5af967c6a67c9c74", func := "copyist/copyistlaw9.ObjectBlocks", spec := "objectBlocks", unfollowed := true, recurses := true, apart := false, narrowed := true }
def ObjectBlocksUptoSaid : Prop := objectBlocksUptoRow.holds Tryz.pinned (OpenSpec.upto objectBlocksSpec)

/-- 'copyistlaw9.ObjectParas', WHERE WHAT IT READS IS OF BULK AT MOST 1048576: true; the input reads as it did. -/
def objectParasUptoRow : OpenClaim := { program := "ytabcpghhfeplaaagreat", sum := "071e31b7c1f5a306567618ebe3bb276c26bff109ee0671fb5af967c6a67c9c74", func := "copyist/copyistlaw9.ObjectParas", spec := "objectParas", unfollowed := true, recurses := true, apart := false, narrowed := true }
def ObjectParasUptoSaid : Prop := objectParasUptoRow.holds Tryz.pinned (OpenSpec.upto objectParasSpec)

/-- 'copyistlaw9.ObjectTakes', WHERE WHAT IT READS IS OF BULK AT MOST 1048576: true; the input reads as it did. -/
def objectTakesUptoRow : OpenClaim := { program := "ytabcpghhfeplaaagreat", sum := "071e31b7c1f5a306567618ebe3bb276c26bff109ee0671fb5af967c6a67c9c74", func := "copyist/copyistlaw9.ObjectTakes", spec := "objectTakes", unfollowed := true, recurses := true, apart := false, narrowed := true }
def ObjectTakesUptoSaid : Prop := objectTakesUptoRow.holds Tryz.pinned (OpenSpec.upto objectTakesSpec)

/-- 'copyistlaw9.ObjectAll', WHERE WHAT IT READS IS OF BULK AT MOST 1048576: true; the input reads as it did. -/
def objectAllUptoRow : OpenClaim := { program := "ytabcpghhfeplaaagreat", sum := "071e31b7c1f5a306567618ebe3bb276c26bff109ee0671fb5af967c6a67c9c74", func := "copyist/copyistlaw9.ObjectAll", spec := "objectAll", unfollowed := true, recurses := true, apart := false, narrowed := true }
def ObjectAllUptoSaid : Prop := objectAllUptoRow.holds Tryz.pinned (OpenSpec.upto objectAllSpec)

/-- 'copyistlaw9.ObjectWordMade', WHERE WHAT IT READS IS OF BULK AT MOST 1048576: true; the input reads as it did. -/
def objectWordMadeUptoRow : OpenClaim := { program := "ytabcpghhfeplaaagreat", sum := "071e31b7c1f5a306567618ebe3bb276c26bff109ee0671fb5af967c6a67c9c74", func := "copyist/copyistlaw9.ObjectWordMade", spec := "objectWordMade", unfollowed := true, recurses := true, apart := false, narrowed := true }
def ObjectWordMadeUptoSaid : Prop := objectWordMadeUptoRow.holds Tryz.pinned (OpenSpec.upto objectWordMadeSpec)

/-- 'copyistlaw9.ObjectQuoteMade', WHERE WHAT IT READS IS OF BULK AT MOST 1048576: true; the input reads as it did. -/
def objectQuoteMadeUptoRow : OpenClaim := { program := "ytabcpghhfeplaaagreat", sum := "071e31b7c1f5a306567618ebe3bb276c26bff109ee0671fb5af967c6a67c9c74", func := "copyist/copyistlaw9.ObjectQuoteMade", spec := "objectQuoteMade", unfollowed := true, recurses := true, apart := false, narrowed := true }
def ObjectQuoteMadeUptoSaid : Prop := objectQuoteMadeUptoRow.holds Tryz.pinned (OpenSpec.upto objectQuoteMadeSpec)

/-- 'copyistlaw9.ObjectBlockMade', WHERE WHAT IT READS IS OF BULK AT MOST 1048576: true; the input reads as it did. -/
def objectBlockMadeUptoRow : OpenClaim := { program := "ytabcpghhfeplaaagreat", sum := "071e31b7c1f5a306567618ebe3bb276c26bff109ee0671fb5af967c6a67c9c74", func := "copyist/copyistlaw9.ObjectBlockMade", spec := "objectBlockMade", unfollowed := true, recurses := true, apart := false, narrowed := true }
def ObjectBlockMadeUptoSaid : Prop := objectBlockMadeUptoRow.holds Tryz.pinned (OpenSpec.upto objectBlockMadeSpec)

/-- 'copyistlaw9.ObjectParaMade', WHERE WHAT IT READS IS OF BULK AT MOST 1048576: true; the input reads as it did. -/
def objectParaMadeUptoRow : OpenClaim := { program := "ytabcpghhfeplaaagreat", sum := "071e31b7c1f5a306567618ebe3bb276c26bff109ee0671fb5af967c6a67c9c74", func := "copyist/copyistlaw9.ObjectParaMade", spec := "objectParaMade", unfollowed := true, recurses := true, apart := false, narrowed := true }
def ObjectParaMadeUptoSaid : Prop := objectParaMadeUptoRow.holds Tryz.pinned (OpenSpec.upto objectParaMadeSpec)

end Rows
end Go.Proofs.YtabcpghhfeplaaaGreat
