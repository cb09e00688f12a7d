/-
  MADE BY PROGRAM (gen.py) out of the loaded translation.
-/
import Derived.Test.YtocdfkeflakemaaProg
import Derived.KernelRfl
import Derived.Test.YtocdfkeflakemaaVxF
set_option linter.unusedSimpArgs false
set_option linter.unusedVariables false
set_option maxRecDepth 100000
namespace Go.Proofs.Ytocdfkeflakemaa
open Go Go.Vx
abbrev c28 : List Cell := [.int .i64, .sl]
abbrev c48 : List Cell := [.ptr, .ptr]
abbrev c50 : List Cell := [.ptr, .ptr]
abbrev c52 : List Cell := [.ptr, .ptr, .ptr, .ptr, .sl]
abbrev c55 : List Cell := [.int .i64, .int .i64, .int .i64, .int .i64, .sl]
abbrev c64 : List Cell := [.int .i64, .bool]
abbrev c73 : List Cell := [.map, .int .i64]
abbrev c85 : List Cell := [.int .i64, .sl]
abbrev c86 : List Cell := [.int .i64, .sl, .int .i64, .sl, .int .i64, .sl, .int .i64, .sl, .int .i64, .sl, .int .i64, .sl, .int .i64, .sl, .int .i64, .sl, .int .i64, .sl, .int .i64, .sl, .int .i64, .sl, .int .i64, .sl, .int .i64, .sl, .int .i64, .sl, .int .i64, .sl, .int .i64, .sl, .int .i64, .sl, .int .i64, .sl, .int .i64, .sl, .int .i64, .sl, .int .i64, .sl, .int .i64, .sl, .int .i64, .sl, .int .i64, .sl, .int .i64, .sl, .int .i64, .sl, .int .i64, .sl, .int .i64, .sl, .int .i64, .sl, .int .i64, .sl, .int .i64, .sl, .int .i64, .sl, .int .i64, .sl, .int .i64, .sl, .int .i64, .sl, .int .i64, .sl, .int .i64, .sl, .int .i64, .sl, .int .i64, .sl, .int .i64, .sl, .int .i64, .sl, .int .i64, .sl, .int .i64, .sl, .int .i64, .sl, .int .i64, .sl, .int .i64, .sl, .int .i64, .sl, .int .i64, .sl, .int .i64, .sl, .int .i64, .sl, .int .i64, .sl, .int .i64, .sl, .int .i64, .sl, .int .i64, .sl, .int .i64, .sl, .int .i64, .sl, .int .i64, .sl, .int .i64, .sl, .int .i64, .sl, .int .i64, .sl, .int .i64, .sl, .int .i64, .sl, .int .i64, .sl, .int .i64, .sl, .int .i64, .sl, .int .i64, .sl, .int .i64, .sl, .int .i64, .sl, .int .i64, .sl, .int .i64, .sl, .int .i64, .sl, .int .i64, .sl, .int .i64, .sl, .int .i64, .sl, .int .i64, .sl, .int .i64, .sl, .int .i64, .sl, .int .i64, .sl, .int .i64, .sl, .int .i64, .sl, .int .i64, .sl, .int .i64, .sl, .int .i64, .sl, .int .i64, .sl, .int .i64, .sl, .int .i64, .sl, .int .i64, .sl, .int .i64, .sl, .int .i64, .sl, .int .i64, .sl, .int .i64, .sl, .int .i64, .sl, .int .i64, .sl, .int .i64, .sl, .int .i64, .sl, .int .i64, .sl, .int .i64, .sl, .int .i64, .sl, .int .i64, .sl, .int .i64, .sl, .int .i64, .sl, .int .i64, .sl, .int .i64, .sl, .int .i64, .sl, .int .i64, .sl, .int .i64, .sl, .int .i64, .sl, .int .i64, .sl, .int .i64, .sl, .int .i64, .sl, .int .i64, .sl, .int .i64, .sl, .int .i64, .sl, .int .i64, .sl, .int .i64, .sl, .int .i64, .sl, .int .i64, .sl, .int .i64, .sl, .int .i64, .sl, .int .i64, .sl, .int .i64, .sl, .int .i64, .sl, .int .i64, .sl, .int .i64, .sl, .int .i64, .sl, .int .i64, .sl, .int .i64, .sl, .int .i64, .sl]
abbrev c88 : List Cell := [.int .i64, .sl, .int .i64, .sl, .int .i64, .sl, .int .i64, .sl, .int .i64, .sl, .int .i64, .sl, .int .i64, .sl, .int .i64, .sl, .int .i64, .sl, .int .i64, .sl, .int .i64, .sl, .int .i64, .sl, .int .i64, .sl, .int .i64, .sl, .int .i64, .sl, .int .i64, .sl, .int .i64, .sl, .int .i64, .sl, .int .i64, .sl, .int .i64, .sl, .int .i64, .sl, .int .i64, .sl, .int .i64, .sl, .int .i64, .sl, .int .i64, .sl, .int .i64, .sl, .int .i64, .sl, .int .i64, .sl, .int .i64, .sl, .int .i64, .sl, .int .i64, .sl, .int .i64, .sl, .int .i64, .sl, .int .i64, .sl, .int .i64, .sl, .int .i64, .sl, .int .i64, .sl, .int .i64, .sl, .int .i64, .sl, .int .i64, .sl, .int .i64, .sl, .int .i64, .sl, .int .i64, .sl, .int .i64, .sl, .int .i64, .sl, .int .i64, .sl, .int .i64, .sl, .int .i64, .sl, .int .i64, .sl, .int .i64, .sl, .int .i64, .sl, .int .i64, .sl, .int .i64, .sl, .int .i64, .sl, .int .i64, .sl, .int .i64, .sl, .int .i64, .sl, .int .i64, .sl, .int .i64, .sl, .int .i64, .sl, .int .i64, .sl, .int .i64, .sl, .int .i64, .sl, .int .i64, .sl, .int .i64, .sl, .int .i64, .sl, .int .i64, .sl, .int .i64, .sl, .int .i64, .sl, .int .i64, .sl, .int .i64, .sl, .int .i64, .sl, .int .i64, .sl, .int .i64, .sl, .int .i64, .sl, .int .i64, .sl, .int .i64, .sl, .int .i64, .sl, .int .i64, .sl, .int .i64, .sl, .int .i64, .sl, .int .i64, .sl, .int .i64, .sl, .int .i64, .sl, .int .i64, .sl, .int .i64, .sl, .int .i64, .sl, .int .i64, .sl, .int .i64, .sl, .int .i64, .sl, .int .i64, .sl, .int .i64, .sl, .int .i64, .sl, .int .i64, .sl, .int .i64, .sl, .int .i64, .sl, .int .i64, .sl, .int .i64, .sl, .int .i64, .sl, .int .i64, .sl, .int .i64, .sl, .int .i64, .sl, .int .i64, .sl, .int .i64, .sl, .int .i64, .sl, .int .i64, .sl, .int .i64, .sl, .int .i64, .sl, .int .i64, .sl, .int .i64, .sl, .int .i64, .sl, .int .i64, .sl, .int .i64, .sl, .int .i64, .sl, .int .i64, .sl, .int .i64, .sl, .int .i64, .sl, .int .i64, .sl, .int .i64, .sl, .int .i64, .sl, .int .i64, .sl, .int .i64, .sl, .int .i64, .sl, .int .i64, .sl, .int .i64, .sl, .int .i64, .sl, .int .i64, .sl, .int .i64, .sl, .int .i64]
noncomputable def i0 : Inf := ⟨Try.t0.desc, Try.t0.size, Try.t0.bytes, Try.t0.zero, (.one .any), (.tup [])⟩
theorem i0_ok : InfOk Try.prog 0 i0 := ⟨by kernel_rfl, by kernel_rfl, by kernel_rfl⟩
noncomputable def i3 : Inf := ⟨Try.t3.desc, Try.t3.size, Try.t3.bytes, Try.t3.zero, (.one (.int .i64)), (.one (.one (.int .i64)))⟩
theorem i3_ok : InfOk Try.prog 3 i3 := ⟨by kernel_rfl, by kernel_rfl, by kernel_rfl⟩
noncomputable def i4 : Inf := ⟨Try.t4.desc, Try.t4.size, Try.t4.bytes, Try.t4.zero, (.one .bool), (.one (.one .bool))⟩
theorem i4_ok : InfOk Try.prog 4 i4 := ⟨by kernel_rfl, by kernel_rfl, by kernel_rfl⟩
noncomputable def i5 : Inf := ⟨Try.t5.desc, Try.t5.size, Try.t5.bytes, Try.t5.zero, (.one (.int .u8)), (.one (.one (.int .u8)))⟩
theorem i5_ok : InfOk Try.prog 5 i5 := ⟨by kernel_rfl, by kernel_rfl, by kernel_rfl⟩
noncomputable def i9 : Inf := ⟨Try.t9.desc, Try.t9.size, Try.t9.bytes, Try.t9.zero, (.one .str), (.one (.one .str))⟩
theorem i9_ok : InfOk Try.prog 9 i9 := ⟨by kernel_rfl, by kernel_rfl, by kernel_rfl⟩
noncomputable def i21 : Inf := ⟨Try.t21.desc, Try.t21.size, Try.t21.bytes, Try.t21.zero, (.one (.int .i32)), (.one (.one (.int .i32)))⟩
theorem i21_ok : InfOk Try.prog 21 i21 := ⟨by kernel_rfl, by kernel_rfl, by kernel_rfl⟩
noncomputable def i22 : Inf := ⟨Try.t22.desc, Try.t22.size, Try.t22.bytes, Try.t22.zero, (.one .sl), (.one (.one .sl))⟩
theorem i22_ok : InfOk Try.prog 22 i22 := ⟨by kernel_rfl, by kernel_rfl, by kernel_rfl⟩
noncomputable def i23 : Inf := ⟨Try.t23.desc, Try.t23.size, Try.t23.bytes, Try.t23.zero, (.one .sl), (.one (.one .sl))⟩
theorem i23_ok : InfOk Try.prog 23 i23 := ⟨by kernel_rfl, by kernel_rfl, by kernel_rfl⟩
noncomputable def i25 : Inf := ⟨Try.t25.desc, Try.t25.size, Try.t25.bytes, Try.t25.zero, (.one .ptr), (.one (.one .ptr))⟩
theorem i25_ok : InfOk Try.prog 25 i25 := ⟨by kernel_rfl, by kernel_rfl, by kernel_rfl⟩
noncomputable def i28 : Inf := ⟨Try.t27.desc, Try.t28.size, Try.t28.bytes, Try.t28.zero, (.agg c28), (.one (.agg c28))⟩
theorem i28_ok : InfOk Try.prog 28 i28 := ⟨by kernel_rfl, by kernel_rfl, by kernel_rfl⟩
noncomputable def i29 : Inf := ⟨Try.t3.desc, Try.t29.size, Try.t29.bytes, Try.t29.zero, (.one (.int .i64)), (.one (.one (.int .i64)))⟩
theorem i29_ok : InfOk Try.prog 29 i29 := ⟨by kernel_rfl, by kernel_rfl, by kernel_rfl⟩
noncomputable def i34 : Inf := ⟨Try.t34.desc, Try.t34.size, Try.t34.bytes, Try.t34.zero, (.one .sl), (.one (.one .sl))⟩
theorem i34_ok : InfOk Try.prog 34 i34 := ⟨by kernel_rfl, by kernel_rfl, by kernel_rfl⟩
noncomputable def i37 : Inf := ⟨Try.t37.desc, Try.t37.size, Try.t37.bytes, Try.t37.zero, (.one .sl), (.one (.one .sl))⟩
theorem i37_ok : InfOk Try.prog 37 i37 := ⟨by kernel_rfl, by kernel_rfl, by kernel_rfl⟩
noncomputable def i38 : Inf := ⟨Try.t38.desc, Try.t38.size, Try.t38.bytes, Try.t38.zero, (.one .any), (.tup [(.one .sl), (.one .sl)])⟩
theorem i38_ok : InfOk Try.prog 38 i38 := ⟨by kernel_rfl, by kernel_rfl, by kernel_rfl⟩
noncomputable def i42 : Inf := ⟨Try.t42.desc, Try.t42.size, Try.t42.bytes, Try.t42.zero, (.one .any), (.tup [(.agg c28), (.one (.int .i64))])⟩
theorem i42_ok : InfOk Try.prog 42 i42 := ⟨by kernel_rfl, by kernel_rfl, by kernel_rfl⟩
noncomputable def i48 : Inf := ⟨Try.t48.desc, Try.t48.size, Try.t48.bytes, Try.t48.zero, (.agg c48), (.one (.agg c48))⟩
theorem i48_ok : InfOk Try.prog 48 i48 := ⟨by kernel_rfl, by kernel_rfl, by kernel_rfl⟩
noncomputable def i49 : Inf := ⟨Try.t49.desc, Try.t49.size, Try.t49.bytes, Try.t49.zero, (.one .ptr), (.one (.one .ptr))⟩
theorem i49_ok : InfOk Try.prog 49 i49 := ⟨by kernel_rfl, by kernel_rfl, by kernel_rfl⟩
noncomputable def i50 : Inf := ⟨Try.t50.desc, Try.t50.size, Try.t50.bytes, Try.t50.zero, (.agg c50), (.one (.agg c50))⟩
theorem i50_ok : InfOk Try.prog 50 i50 := ⟨by kernel_rfl, by kernel_rfl, by kernel_rfl⟩
noncomputable def i52 : Inf := ⟨Try.t51.desc, Try.t52.size, Try.t52.bytes, Try.t52.zero, (.agg c52), (.one (.agg c52))⟩
theorem i52_ok : InfOk Try.prog 52 i52 := ⟨by kernel_rfl, by kernel_rfl, by kernel_rfl⟩
noncomputable def i55 : Inf := ⟨Try.t54.desc, Try.t55.size, Try.t55.bytes, Try.t55.zero, (.agg c55), (.one (.agg c55))⟩
theorem i55_ok : InfOk Try.prog 55 i55 := ⟨by kernel_rfl, by kernel_rfl, by kernel_rfl⟩
noncomputable def i64 : Inf := ⟨Try.t63.desc, Try.t64.size, Try.t64.bytes, Try.t64.zero, (.agg c64), (.one (.agg c64))⟩
theorem i64_ok : InfOk Try.prog 64 i64 := ⟨by kernel_rfl, by kernel_rfl, by kernel_rfl⟩
noncomputable def i65 : Inf := ⟨Try.t65.desc, Try.t65.size, Try.t65.bytes, Try.t65.zero, (.one .any), (.tup [(.agg c64), (.one (.int .i64))])⟩
theorem i65_ok : InfOk Try.prog 65 i65 := ⟨by kernel_rfl, by kernel_rfl, by kernel_rfl⟩
noncomputable def i70 : Inf := ⟨Try.t70.desc, Try.t70.size, Try.t70.bytes, Try.t70.zero, (.one .any), (.tup [(.agg c28), (.one .bool)])⟩
theorem i70_ok : InfOk Try.prog 70 i70 := ⟨by kernel_rfl, by kernel_rfl, by kernel_rfl⟩
noncomputable def i71 : Inf := ⟨Try.t71.desc, Try.t71.size, Try.t71.bytes, Try.t71.zero, (.one .map), (.one (.one .map))⟩
theorem i71_ok : InfOk Try.prog 71 i71 := ⟨by kernel_rfl, by kernel_rfl, by kernel_rfl⟩
noncomputable def i73 : Inf := ⟨Try.t72.desc, Try.t73.size, Try.t73.bytes, Try.t73.zero, (.agg c73), (.one (.agg c73))⟩
theorem i73_ok : InfOk Try.prog 73 i73 := ⟨by kernel_rfl, by kernel_rfl, by kernel_rfl⟩
noncomputable def i75 : Inf := ⟨Try.t75.desc, Try.t75.size, Try.t75.bytes, Try.t75.zero, (.one .any), (.tup [(.agg c64), (.one .bool)])⟩
theorem i75_ok : InfOk Try.prog 75 i75 := ⟨by kernel_rfl, by kernel_rfl, by kernel_rfl⟩
noncomputable def i80 : Inf := ⟨Try.t80.desc, Try.t80.size, Try.t80.bytes, Try.t80.zero, (.one .any), (.tup [(.one (.int .i64)), (.one .sl), (.one (.int .i64))])⟩
theorem i80_ok : InfOk Try.prog 80 i80 := ⟨by kernel_rfl, by kernel_rfl, by kernel_rfl⟩
noncomputable def i85 : Inf := ⟨Try.t27.desc, Try.t85.size, Try.t85.bytes, Try.t85.zero, (.agg c85), (.one (.agg c85))⟩
theorem i85_ok : InfOk Try.prog 85 i85 := ⟨by kernel_rfl, by kernel_rfl, by kernel_rfl⟩
noncomputable def i86 : Inf := ⟨Try.t86.desc, Try.t86.size, Try.t86.bytes, Try.t86.zero, (.agg c86), (.one (.agg c86))⟩
theorem i86_ok : InfOk Try.prog 86 i86 := ⟨by kernel_rfl, by kernel_rfl, by kernel_rfl⟩
noncomputable def i88 : Inf := ⟨Try.t87.desc, Try.t88.size, Try.t88.bytes, Try.t88.zero, (.agg c88), (.one (.agg c88))⟩
theorem i88_ok : InfOk Try.prog 88 i88 := ⟨by kernel_rfl, by kernel_rfl, by kernel_rfl⟩
noncomputable def i94 : Inf := ⟨Try.t94.desc, Try.t94.size, Try.t94.bytes, Try.t94.zero, (.one (.int .u64)), (.one (.one (.int .u64)))⟩
theorem i94_ok : InfOk Try.prog 94 i94 := ⟨by kernel_rfl, by kernel_rfl, by kernel_rfl⟩
noncomputable def i99 : Inf := ⟨Try.t99.desc, Try.t99.size, Try.t99.bytes, Try.t99.zero, (.one .any), (.tup [(.one (.int .i64)), (.agg c85)])⟩
theorem i99_ok : InfOk Try.prog 99 i99 := ⟨by kernel_rfl, by kernel_rfl, by kernel_rfl⟩
noncomputable def i102 : Inf := ⟨Try.t3.desc, Try.t102.size, Try.t102.bytes, Try.t102.zero, (.one (.int .i64)), (.one (.one (.int .i64)))⟩
theorem i102_ok : InfOk Try.prog 102 i102 := ⟨by kernel_rfl, by kernel_rfl, by kernel_rfl⟩
noncomputable def i103 : Inf := ⟨Try.t103.desc, Try.t103.size, Try.t103.bytes, Try.t103.zero, (.one .any), (.tup [(.one (.int .i64)), (.one (.int .i64))])⟩
theorem i103_ok : InfOk Try.prog 103 i103 := ⟨by kernel_rfl, by kernel_rfl, by kernel_rfl⟩
noncomputable def i107 : Inf := ⟨Try.t107.desc, Try.t107.size, Try.t107.bytes, Try.t107.zero, (.one .any), (.tup [(.one (.int .i64)), (.one .bool)])⟩
theorem i107_ok : InfOk Try.prog 107 i107 := ⟨by kernel_rfl, by kernel_rfl, by kernel_rfl⟩
noncomputable def i110 : Inf := ⟨Try.t110.desc, Try.t110.size, Try.t110.bytes, Try.t110.zero, (.one (.int .u32)), (.one (.one (.int .u32)))⟩
theorem i110_ok : InfOk Try.prog 110 i110 := ⟨by kernel_rfl, by kernel_rfl, by kernel_rfl⟩
noncomputable def i112 : Inf := ⟨Try.t112.desc, Try.t112.size, Try.t112.bytes, Try.t112.zero, (.one (.int .u64)), (.one (.one (.int .u64)))⟩
theorem i112_ok : InfOk Try.prog 112 i112 := ⟨by kernel_rfl, by kernel_rfl, by kernel_rfl⟩
noncomputable def i115 : Inf := ⟨Try.t112.desc, Try.t115.size, Try.t115.bytes, Try.t115.zero, (.one (.int .u64)), (.one (.one (.int .u64)))⟩
theorem i115_ok : InfOk Try.prog 115 i115 := ⟨by kernel_rfl, by kernel_rfl, by kernel_rfl⟩
noncomputable def i122 : Inf := ⟨Try.t122.desc, Try.t122.size, Try.t122.bytes, Try.t122.zero, (.one .any), (.tup [(.one (.int .i64)), (.one (.int .i64))])⟩
theorem i122_ok : InfOk Try.prog 122 i122 := ⟨by kernel_rfl, by kernel_rfl, by kernel_rfl⟩
noncomputable def tab : Tab := ⟨[(0, i0), (3, i3), (4, i4), (5, i5), (9, i9), (21, i21), (22, i22), (23, i23), (25, i25), (28, i28), (29, i29), (34, i34), (37, i37), (38, i38), (42, i42), (48, i48), (49, i49), (50, i50), (52, i52), (55, i55), (64, i64), (65, i65), (70, i70), (71, i71), (73, i73), (75, i75), (80, i80), (85, i85), (86, i86), (88, i88), (94, i94), (99, i99), (102, i102), (103, i103), (107, i107), (110, i110), (112, i112), (115, i115), (122, i122)], [12, 13, 14, 15, 16, 17, 18, 19, 20, 21, 22, 23, 24, 25, 26, 27, 28, 29, 30, 31, 32, 33, 34, 35, 36, 37, 38, 39, 40, 41, 42, 43, 44, 45, 46, 47, 48, 49, 50, 51, 52, 53, 54, 55, 56, 57, 58, 59, 60, 61, 62, 63, 64, 65, 66, 67, 68, 69, 70, 71, 72, 73, 74, 75, 76, 77, 78, 79, 80, 81, 82, 83, 84, 85, 86, 87]⟩
theorem fnsOk : FnsOk Try.prog [12, 13, 14, 15, 16, 17, 18, 19, 20, 21, 22, 23, 24, 25, 26, 27, 28, 29, 30, 31, 32, 33, 34, 35, 36, 37, 38, 39, 40, 41, 42, 43, 44, 45, 46, 47, 48, 49, 50, 51, 52, 53, 54, 55, 56, 57, 58, 59, 60, 61, 62, 63, 64, 65, 66, 67, 68, 69, 70, 71, 72, 73, 74, 75, 76, 77, 78, 79, 80, 81, 82, 83, 84, 85, 86, 87] := ⟨by kernel_rfl, by kernel_rfl, by kernel_rfl, by kernel_rfl, by kernel_rfl, by kernel_rfl, by kernel_rfl, by kernel_rfl, by kernel_rfl, by kernel_rfl, by kernel_rfl, by kernel_rfl, by kernel_rfl, by kernel_rfl, by kernel_rfl, by kernel_rfl, by kernel_rfl, by kernel_rfl, by kernel_rfl, by kernel_rfl, by kernel_rfl, by kernel_rfl, by kernel_rfl, by kernel_rfl, by kernel_rfl, by kernel_rfl, by kernel_rfl, by kernel_rfl, by kernel_rfl, by kernel_rfl, by kernel_rfl, by kernel_rfl, by kernel_rfl, by kernel_rfl, by kernel_rfl, by kernel_rfl, by kernel_rfl, by kernel_rfl, by kernel_rfl, by kernel_rfl, by kernel_rfl, by kernel_rfl, by kernel_rfl, by kernel_rfl, by kernel_rfl, by kernel_rfl, by kernel_rfl, by kernel_rfl, by kernel_rfl, by kernel_rfl, by kernel_rfl, by kernel_rfl, by kernel_rfl, by kernel_rfl, by kernel_rfl, by kernel_rfl, by kernel_rfl, by kernel_rfl, by kernel_rfl, by kernel_rfl, by kernel_rfl, by kernel_rfl, by kernel_rfl, by kernel_rfl, by kernel_rfl, by kernel_rfl, by kernel_rfl, by kernel_rfl, by kernel_rfl, by kernel_rfl, by kernel_rfl, by kernel_rfl, by kernel_rfl, by kernel_rfl, by kernel_rfl, by kernel_rfl, trivial⟩
theorem tabOk : tab.Ok Try.prog := ⟨⟨i0_ok, i3_ok, i4_ok, i5_ok, i9_ok, i21_ok, i22_ok, i23_ok, i25_ok, i28_ok, i29_ok, i34_ok, i37_ok, i38_ok, i42_ok, i48_ok, i49_ok, i50_ok, i52_ok, i55_ok, i64_ok, i65_ok, i70_ok, i71_ok, i73_ok, i75_ok, i80_ok, i85_ok, i86_ok, i88_ok, i94_ok, i99_ok, i102_ok, i103_ok, i107_ok, i110_ok, i112_ok, i115_ok, i122_ok, trivial⟩, fnsOk, by kernel_rfl⟩
end Go.Proofs.Ytocdfkeflakemaa
