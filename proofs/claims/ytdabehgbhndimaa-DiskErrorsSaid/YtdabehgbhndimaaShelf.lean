/-
  DERIVED: THE SHELF's CONTRACTS AT THIS DUMP, IN PLAIN WORDS (tools/lay-plain.mjs out of 'TryShelf.lean', which tools/lay-shelf.mjs wrote): THE SAME DECLARATIONS UNDER THE SAME NAMES: 'import', 'namespace', 'open', 'def', 'theorem' AND NOTHING ELSE: no command of the shelf's: FOR A HAND-IN. Each laying: the table of numbers ('.._ren') and one theorem, a field a fact of the dump's own or the kernel's comparison; each contract: ONE APPLICATION.
-/
import Derived.Shelf.Sort.Plain
import Derived.Shelf.Slices.In.SortNone
import Derived.Test.YtdabehgbhndimaaProg
namespace Go.Proofs
open Go.Shelf
def Try.lays190_ren : Go.Shelf.Ren := ⟨fun | 190 => 75 | 125 => 82 | 258 => 81 | 128 => 92 | 129 => 93 | 302 => 83 | 303 => 84 | 304 => 85 | 305 => 86 | 306 => 87 | 307 => 88 | 308 => 89 | 309 => 90 | 310 => 91 | 333 => 94 | 329 => 95 | 330 => 96 | 334 => 97 | 335 => 98 | 336 => 99 | 344 => 100 | n => n, fun | 31 => 59 | 9 => 9 | 3 => 3 | 46 => 150 | 0 => 0 | 51 => 161 | 53 => 163 | 4 => 4 | 183 => 153 | 182 => 152 | 131 => 158 | 5 => 5 | 218 => 164 | 222 => 168 | 228 => 170 | 229 => 171 | n => n, fun | n => n⟩
theorem Try.lays190 : Go.Proofs.Lays.n190 Try.prog Try.lays190_ren := {
  mixed := by kernel_rfl
  f125 := Try.func82.trans (congrArg some (by kernel_rfl))
  f128 := Try.func92.trans (congrArg some (by kernel_rfl))
  f129 := Try.func93.trans (congrArg some (by kernel_rfl))
  f190 := Try.func75.trans (congrArg some (by kernel_rfl))
  f258 := Try.func81.trans (congrArg some (by kernel_rfl))
  f302 := Try.func83.trans (congrArg some (by kernel_rfl))
  f303 := Try.func84.trans (congrArg some (by kernel_rfl))
  f304 := Try.func85.trans (congrArg some (by kernel_rfl))
  f305 := Try.func86.trans (congrArg some (by kernel_rfl))
  f306 := Try.func87.trans (congrArg some (by kernel_rfl))
  f307 := Try.func88.trans (congrArg some (by kernel_rfl))
  f308 := Try.func89.trans (congrArg some (by kernel_rfl))
  f309 := Try.func90.trans (congrArg some (by kernel_rfl))
  f310 := Try.func91.trans (congrArg some (by kernel_rfl))
  f329 := Try.func95.trans (congrArg some (by kernel_rfl))
  f330 := Try.func96.trans (congrArg some (by kernel_rfl))
  f333 := Try.func94.trans (congrArg some (by kernel_rfl))
  f334 := Try.func97.trans (congrArg some (by kernel_rfl))
  f335 := Try.func98.trans (congrArg some (by kernel_rfl))
  f336 := Try.func99.trans (congrArg some (by kernel_rfl))
  f344 := Try.func100.trans (congrArg some (by kernel_rfl))
  t0 := Try.underlying0
  a0 := Try.isAgg0
  z0 := Try.sizeOf0
  v0 := Try.zeroValue0
  t3 := Try.underlying3
  a3 := Try.isAgg3
  z3 := Try.sizeOf3
  v3 := Try.zeroValue3
  t4 := Try.underlying4
  a4 := Try.isAgg4
  z4 := Try.sizeOf4
  v4 := Try.zeroValue4
  t5 := Try.underlying5
  a5 := Try.isAgg5
  z5 := Try.sizeOf5
  v5 := Try.zeroValue5
  t9 := Try.underlying9
  a9 := Try.isAgg9
  z9 := Try.sizeOf9
  v9 := Try.zeroValue9
  t31 := Try.underlying59
  a31 := Try.isAgg59
  z31 := Try.sizeOf59
  v31 := Try.zeroValue59
  t46 := Try.underlying150
  a46 := Try.isAgg150
  z46 := Try.sizeOf150
  v46 := Try.zeroValue150
  t51 := Try.underlying161
  a51 := Try.isAgg161
  z51 := Try.sizeOf161
  v51 := Try.zeroValue161
  t53 := Try.underlying163
  a53 := Try.isAgg163
  z53 := Try.sizeOf163
  v53 := Try.zeroValue163
  t131 := Try.underlying158
  a131 := Try.isAgg158
  z131 := Try.sizeOf158
  v131 := Try.zeroValue158
  t182 := Try.underlying152
  a182 := Try.isAgg152
  z182 := Try.sizeOf152
  v182 := Try.zeroValue152
  t183 := Try.underlying153
  a183 := Try.isAgg153
  z183 := Try.sizeOf153
  v183 := Try.zeroValue153
  t218 := Try.underlying164
  a218 := Try.isAgg164
  z218 := Try.sizeOf164
  v218 := Try.zeroValue164
  t222 := Try.underlying168
  a222 := Try.isAgg168
  z222 := Try.sizeOf168
  v222 := Try.zeroValue168
  t228 := Try.underlying170
  a228 := Try.isAgg170
  z228 := Try.sizeOf170
  v228 := Try.zeroValue170
  t229 := Try.underlying171
  a229 := Try.isAgg171
  z229 := Try.sizeOf171
  v229 := Try.zeroValue171 }
open Go.Sort Go.RowKit in
theorem Try.slices_Sort_string (blk off cap : Nat) (ss : List (List UInt8)) (w : World) (hH : Holds encStr w blk off ss.toArray) (hblk : blk < w.heap.size) (hsz : ss.length < 4611686018427387904) :
    Calls Try.prog 75 #[.slice (some ⟨blk, off, none⟩) ss.length cap] w fun e w' =>
      e = .returned (.tuple #[]) ∧ ∃ n os, w' = grow (putRow encStr (Sort.ahead w n) blk off (ss.mergeSort fun x y => decide (x ≤ y)).toArray) os := Any.slices_Sort_string Try.lays190 blk off cap ss w hH hblk hsz
open Go.RowKit Go.Sort in
/-- .. and plain. (LAID: no walk: one application.) -/
theorem Try.slices_Sort_string_none (p : Option Addr) (cap : Nat) (w : World) :
    Calls Try.prog 75 #[.slice p 0 cap] w fun e w' => e = .returned (.tuple #[]) ∧ w' = w := Any.slices_Sort_string_none Try.lays190 p cap w
end Go.Proofs
