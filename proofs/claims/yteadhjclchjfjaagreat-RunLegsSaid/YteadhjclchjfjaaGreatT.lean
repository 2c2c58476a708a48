/- Facts on the types of the program, by the kernel. Printed by a program of this session. -/
import Derived.Test.YteadhjclchjfjaaGreatProg
import Derived.Test.YteadhjclchjfjaaGreatB140
import Derived.KernelRfl
namespace Go.Proofs.YteadhjclchjfjaaGreat
open Go.AB
set_option maxRecDepth 100000
@[go_sem] theorem tyA_1 : tyA Tryz.prog 1 = some (false, 1) := by kernel_rfl
@[go_sem] theorem bytesA_1 : bytesA Tryz.prog 1 = false := by kernel_rfl
@[go_sem] theorem knownA_1 : knownA Tryz.prog 1 = true := by kernel_rfl
@[go_sem] theorem concA_1 : concA Tryz.prog 1 = true := by kernel_rfl
@[go_sem] theorem ikA_1 : ikA Tryz.prog 1 = none := by kernel_rfl
@[go_sem] theorem bldT_1 : bldT Tryz.prog 1 = none := by kernel_rfl
@[go_sem] theorem zeroA_1 : zeroA Tryz.prog 1 = some [.raw .nilFunc] := by kernel_rfl
@[go_sem] theorem slA_1 : slA Tryz.prog 1 = none := by kernel_rfl
@[go_sem] theorem tyA_2 : tyA Tryz.prog 2 = some (false, 1) := by kernel_rfl
@[go_sem] theorem bytesA_2 : bytesA Tryz.prog 2 = false := by kernel_rfl
@[go_sem] theorem knownA_2 : knownA Tryz.prog 2 = true := by kernel_rfl
@[go_sem] theorem concA_2 : concA Tryz.prog 2 = true := by kernel_rfl
@[go_sem] theorem ikA_2 : ikA Tryz.prog 2 = some .i64 := by kernel_rfl
@[go_sem] theorem bldT_2 : bldT Tryz.prog 2 = none := by kernel_rfl
@[go_sem] theorem zeroA_2 : zeroA Tryz.prog 2 = some [.int .i64 0] := by kernel_rfl
@[go_sem] theorem slA_2 : slA Tryz.prog 2 = none := by kernel_rfl
@[go_sem] theorem tyA_3 : tyA Tryz.prog 3 = some (false, 1) := by kernel_rfl
@[go_sem] theorem bytesA_3 : bytesA Tryz.prog 3 = false := by kernel_rfl
@[go_sem] theorem knownA_3 : knownA Tryz.prog 3 = true := by kernel_rfl
@[go_sem] theorem concA_3 : concA Tryz.prog 3 = true := by kernel_rfl
@[go_sem] theorem ikA_3 : ikA Tryz.prog 3 = some .i64 := by kernel_rfl
@[go_sem] theorem bldT_3 : bldT Tryz.prog 3 = none := by kernel_rfl
@[go_sem] theorem zeroA_3 : zeroA Tryz.prog 3 = some [.int .i64 0] := by kernel_rfl
@[go_sem] theorem slA_3 : slA Tryz.prog 3 = none := by kernel_rfl
@[go_sem] theorem tyA_4 : tyA Tryz.prog 4 = some (false, 1) := by kernel_rfl
@[go_sem] theorem bytesA_4 : bytesA Tryz.prog 4 = false := by kernel_rfl
@[go_sem] theorem knownA_4 : knownA Tryz.prog 4 = true := by kernel_rfl
@[go_sem] theorem concA_4 : concA Tryz.prog 4 = true := by kernel_rfl
@[go_sem] theorem ikA_4 : ikA Tryz.prog 4 = none := by kernel_rfl
@[go_sem] theorem tyBool_4 : tyBool Tryz.prog 4 = true := by kernel_rfl
@[go_sem] theorem bldT_4 : bldT Tryz.prog 4 = none := by kernel_rfl
@[go_sem] theorem zeroA_4 : zeroA Tryz.prog 4 = some [.bool false] := by kernel_rfl
@[go_sem] theorem slA_4 : slA Tryz.prog 4 = none := by kernel_rfl
@[go_sem] theorem tyA_5 : tyA Tryz.prog 5 = some (false, 1) := by kernel_rfl
@[go_sem] theorem bytesA_5 : bytesA Tryz.prog 5 = false := by kernel_rfl
@[go_sem] theorem knownA_5 : knownA Tryz.prog 5 = true := by kernel_rfl
@[go_sem] theorem concA_5 : concA Tryz.prog 5 = true := by kernel_rfl
@[go_sem] theorem ikA_5 : ikA Tryz.prog 5 = some .u8 := by kernel_rfl
@[go_sem] theorem bldT_5 : bldT Tryz.prog 5 = none := by kernel_rfl
@[go_sem] theorem zeroA_5 : zeroA Tryz.prog 5 = some [.int .u8 0] := by kernel_rfl
@[go_sem] theorem slA_5 : slA Tryz.prog 5 = none := by kernel_rfl
@[go_sem] theorem tyA_9 : tyA Tryz.prog 9 = some (false, 1) := by kernel_rfl
@[go_sem] theorem bytesA_9 : bytesA Tryz.prog 9 = false := by kernel_rfl
@[go_sem] theorem knownA_9 : knownA Tryz.prog 9 = true := by kernel_rfl
@[go_sem] theorem concA_9 : concA Tryz.prog 9 = true := by kernel_rfl
@[go_sem] theorem ikA_9 : ikA Tryz.prog 9 = none := by kernel_rfl
@[go_sem] theorem strA_9 : strA Tryz.prog 9 = true := by kernel_rfl
@[go_sem] theorem bldT_9 : bldT Tryz.prog 9 = none := by kernel_rfl
@[go_sem] theorem zeroA_9 : zeroA Tryz.prog 9 = some [.str []] := by kernel_rfl
@[go_sem] theorem slA_9 : slA Tryz.prog 9 = none := by kernel_rfl
@[go_sem] theorem tyA_22 : tyA Tryz.prog 22 = some (false, 1) := by kernel_rfl
@[go_sem] theorem bytesA_22 : bytesA Tryz.prog 22 = false := by kernel_rfl
@[go_sem] theorem knownA_22 : knownA Tryz.prog 22 = true := by kernel_rfl
@[go_sem] theorem concA_22 : concA Tryz.prog 22 = true := by kernel_rfl
@[go_sem] theorem ikA_22 : ikA Tryz.prog 22 = none := by kernel_rfl
@[go_sem] theorem slB_22 : slB Tryz.prog 22 = true := by kernel_rfl
@[go_sem] theorem bldT_22 : bldT Tryz.prog 22 = none := by kernel_rfl
@[go_sem] theorem zeroA_22 : zeroA Tryz.prog 22 = some [.sl 1 [] .nil] := by kernel_rfl
@[go_sem] theorem slA_22 : slA Tryz.prog 22 = some 1 := by kernel_rfl
@[go_sem] theorem mkA_22 : mkA Tryz.prog 22 = some ([.str []], 16) := by kernel_rfl
@[go_sem] theorem apA_22 : apA Tryz.prog 22 = some (1, 16) := by kernel_rfl
@[go_sem] theorem partTy_22 (i : Nat) : partTy Tryz.prog 22 i = 9 := rfl_of_partTy (by kernel_rfl)
@[go_sem] theorem tyA_23 : tyA Tryz.prog 23 = some (false, 1) := by kernel_rfl
@[go_sem] theorem bytesA_23 : bytesA Tryz.prog 23 = false := by kernel_rfl
@[go_sem] theorem knownA_23 : knownA Tryz.prog 23 = true := by kernel_rfl
@[go_sem] theorem concA_23 : concA Tryz.prog 23 = true := by kernel_rfl
@[go_sem] theorem ikA_23 : ikA Tryz.prog 23 = none := by kernel_rfl
@[go_sem] theorem slB_23 : slB Tryz.prog 23 = true := by kernel_rfl
@[go_sem] theorem bldT_23 : bldT Tryz.prog 23 = none := by kernel_rfl
@[go_sem] theorem zeroA_23 : zeroA Tryz.prog 23 = some [.sl 7 [] .nil] := by kernel_rfl
@[go_sem] theorem slA_23 : slA Tryz.prog 23 = some 7 := by kernel_rfl
@[go_sem] theorem mkA_23 : mkA Tryz.prog 23 = some ([.int .i64 0, .int .i64 0, .int .i64 0, .int .i64 0, .int .i64 0, .int .i64 0, .bool false], 56) := by kernel_rfl
@[go_sem] theorem apA_23 : apA Tryz.prog 23 = some (7, 56) := by kernel_rfl
@[go_sem] theorem partTy_23 (i : Nat) : partTy Tryz.prog 23 i = 75 := rfl_of_partTy (by kernel_rfl)
@[go_sem] theorem tyA_24 : tyA Tryz.prog 24 = some (false, 1) := by kernel_rfl
@[go_sem] theorem bytesA_24 : bytesA Tryz.prog 24 = false := by kernel_rfl
@[go_sem] theorem knownA_24 : knownA Tryz.prog 24 = true := by kernel_rfl
@[go_sem] theorem concA_24 : concA Tryz.prog 24 = true := by kernel_rfl
@[go_sem] theorem ikA_24 : ikA Tryz.prog 24 = none := by kernel_rfl
@[go_sem] theorem slB_24 : slB Tryz.prog 24 = true := by kernel_rfl
@[go_sem] theorem bldT_24 : bldT Tryz.prog 24 = none := by kernel_rfl
@[go_sem] theorem zeroA_24 : zeroA Tryz.prog 24 = some [.sl 4 [] .nil] := by kernel_rfl
@[go_sem] theorem slA_24 : slA Tryz.prog 24 = some 4 := by kernel_rfl
@[go_sem] theorem mkA_24 : mkA Tryz.prog 24 = some ([.int .i64 0, .int .i64 0, .int .i64 0, .int .i64 0], 32) := by kernel_rfl
@[go_sem] theorem apA_24 : apA Tryz.prog 24 = some (4, 32) := by kernel_rfl
@[go_sem] theorem partTy_24 (i : Nat) : partTy Tryz.prog 24 i = 124 := rfl_of_partTy (by kernel_rfl)
@[go_sem] theorem tyA_25 : tyA Tryz.prog 25 = some (false, 1) := by kernel_rfl
@[go_sem] theorem bytesA_25 : bytesA Tryz.prog 25 = false := by kernel_rfl
@[go_sem] theorem knownA_25 : knownA Tryz.prog 25 = true := by kernel_rfl
@[go_sem] theorem concA_25 : concA Tryz.prog 25 = true := by kernel_rfl
@[go_sem] theorem ikA_25 : ikA Tryz.prog 25 = none := by kernel_rfl
@[go_sem] theorem slB_25 : slB Tryz.prog 25 = true := by kernel_rfl
@[go_sem] theorem bldT_25 : bldT Tryz.prog 25 = none := by kernel_rfl
@[go_sem] theorem zeroA_25 : zeroA Tryz.prog 25 = some [.sl 2 [] .nil] := by kernel_rfl
@[go_sem] theorem slA_25 : slA Tryz.prog 25 = some 2 := by kernel_rfl
@[go_sem] theorem mkA_25 : mkA Tryz.prog 25 = some ([.int .i64 0, .int .i64 0], 16) := by kernel_rfl
@[go_sem] theorem apA_25 : apA Tryz.prog 25 = some (2, 16) := by kernel_rfl
@[go_sem] theorem partTy_25 (i : Nat) : partTy Tryz.prog 25 i = 68 := rfl_of_partTy (by kernel_rfl)
@[go_sem] theorem tyA_26 : tyA Tryz.prog 26 = some (false, 1) := by kernel_rfl
@[go_sem] theorem bytesA_26 : bytesA Tryz.prog 26 = false := by kernel_rfl
@[go_sem] theorem knownA_26 : knownA Tryz.prog 26 = true := by kernel_rfl
@[go_sem] theorem concA_26 : concA Tryz.prog 26 = true := by kernel_rfl
@[go_sem] theorem ikA_26 : ikA Tryz.prog 26 = none := by kernel_rfl
@[go_sem] theorem slB_26 : slB Tryz.prog 26 = true := by kernel_rfl
@[go_sem] theorem bldT_26 : bldT Tryz.prog 26 = none := by kernel_rfl
@[go_sem] theorem zeroA_26 : zeroA Tryz.prog 26 = some [.sl 2 [] .nil] := by kernel_rfl
@[go_sem] theorem slA_26 : slA Tryz.prog 26 = some 2 := by kernel_rfl
@[go_sem] theorem mkA_26 : mkA Tryz.prog 26 = some ([.int .i64 0, .int .i64 0], 16) := by kernel_rfl
@[go_sem] theorem apA_26 : apA Tryz.prog 26 = some (2, 16) := by kernel_rfl
@[go_sem] theorem partTy_26 (i : Nat) : partTy Tryz.prog 26 i = 131 := rfl_of_partTy (by kernel_rfl)
@[go_sem] theorem fsOk_27 : fsOk Tryz.prog 27 = true := by kernel_rfl
@[go_sem] theorem tyA_28 : tyA Tryz.prog 28 = some (true, 5) := by kernel_rfl
@[go_sem] theorem bytesA_28 : bytesA Tryz.prog 28 = false := by kernel_rfl
@[go_sem] theorem knownA_28 : knownA Tryz.prog 28 = true := by kernel_rfl
@[go_sem] theorem concA_28 : concA Tryz.prog 28 = true := by kernel_rfl
@[go_sem] theorem ikA_28 : ikA Tryz.prog 28 = none := by kernel_rfl
@[go_sem] theorem bldT_28 : bldT Tryz.prog 28 = none := by kernel_rfl
@[go_sem] theorem zeroA_28 : zeroA Tryz.prog 28 = some [.sl 1 [] .nil, .sl 7 [] .nil, .sl 4 [] .nil, .sl 2 [] .nil, .sl 2 [] .nil] := by kernel_rfl
@[go_sem] theorem slA_28 : slA Tryz.prog 28 = none := by kernel_rfl
@[go_sem] theorem fsOk_28 : fsOk Tryz.prog 28 = true := by kernel_rfl
@[go_sem] theorem fldA_28_0 : fldA Tryz.prog 28 0 = some 0 := by kernel_rfl
@[go_sem] theorem fpA_28_0 : fpA Tryz.prog 28 0 = some (0, false, 1) := by kernel_rfl
@[go_sem] theorem plA_28_0 : plA Tryz.prog 28 0 = some (0, 1) := by kernel_rfl
@[go_sem] theorem partTy_28_0 : partTy Tryz.prog 28 0 = 22 := by kernel_rfl
@[go_sem] theorem fldA_28_1 : fldA Tryz.prog 28 1 = some 1 := by kernel_rfl
@[go_sem] theorem fpA_28_1 : fpA Tryz.prog 28 1 = some (1, false, 1) := by kernel_rfl
@[go_sem] theorem plA_28_1 : plA Tryz.prog 28 1 = some (1, 1) := by kernel_rfl
@[go_sem] theorem partTy_28_1 : partTy Tryz.prog 28 1 = 23 := by kernel_rfl
@[go_sem] theorem fldA_28_2 : fldA Tryz.prog 28 2 = some 2 := by kernel_rfl
@[go_sem] theorem fpA_28_2 : fpA Tryz.prog 28 2 = some (2, false, 1) := by kernel_rfl
@[go_sem] theorem plA_28_2 : plA Tryz.prog 28 2 = some (2, 1) := by kernel_rfl
@[go_sem] theorem partTy_28_2 : partTy Tryz.prog 28 2 = 24 := by kernel_rfl
@[go_sem] theorem fldA_28_3 : fldA Tryz.prog 28 3 = some 3 := by kernel_rfl
@[go_sem] theorem fpA_28_3 : fpA Tryz.prog 28 3 = some (3, false, 1) := by kernel_rfl
@[go_sem] theorem plA_28_3 : plA Tryz.prog 28 3 = some (3, 1) := by kernel_rfl
@[go_sem] theorem partTy_28_3 : partTy Tryz.prog 28 3 = 25 := by kernel_rfl
@[go_sem] theorem fldA_28_4 : fldA Tryz.prog 28 4 = some 4 := by kernel_rfl
@[go_sem] theorem fpA_28_4 : fpA Tryz.prog 28 4 = some (4, false, 1) := by kernel_rfl
@[go_sem] theorem plA_28_4 : plA Tryz.prog 28 4 = some (4, 1) := by kernel_rfl
@[go_sem] theorem partTy_28_4 : partTy Tryz.prog 28 4 = 26 := by kernel_rfl
@[go_sem] theorem fsOk_29 : fsOk Tryz.prog 29 = true := by kernel_rfl
@[go_sem] theorem eqKs_29 : eqKs Tryz.prog 29 = some [.str, .int .i64, .int .i64, .int .i64, .int .i64, .int .i64, .int .i64, .int .i64, .int .i64, .int .i64] := by kernel_rfl
@[go_sem] theorem tyA_30 : tyA Tryz.prog 30 = some (true, 10) := by kernel_rfl
@[go_sem] theorem bytesA_30 : bytesA Tryz.prog 30 = false := by kernel_rfl
@[go_sem] theorem knownA_30 : knownA Tryz.prog 30 = true := by kernel_rfl
@[go_sem] theorem concA_30 : concA Tryz.prog 30 = true := by kernel_rfl
@[go_sem] theorem ikA_30 : ikA Tryz.prog 30 = none := by kernel_rfl
@[go_sem] theorem bldT_30 : bldT Tryz.prog 30 = none := by kernel_rfl
@[go_sem] theorem zeroA_30 : zeroA Tryz.prog 30 = some [.str [], .int .i64 0, .int .i64 0, .int .i64 0, .int .i64 0, .int .i64 0, .int .i64 0, .int .i64 0, .int .i64 0, .int .i64 0] := by kernel_rfl
@[go_sem] theorem slA_30 : slA Tryz.prog 30 = none := by kernel_rfl
@[go_sem] theorem fsOk_30 : fsOk Tryz.prog 30 = true := by kernel_rfl
@[go_sem] theorem fldA_30_0 : fldA Tryz.prog 30 0 = some 0 := by kernel_rfl
@[go_sem] theorem fpA_30_0 : fpA Tryz.prog 30 0 = some (0, false, 1) := by kernel_rfl
@[go_sem] theorem plA_30_0 : plA Tryz.prog 30 0 = some (0, 1) := by kernel_rfl
@[go_sem] theorem partTy_30_0 : partTy Tryz.prog 30 0 = 9 := by kernel_rfl
@[go_sem] theorem fldA_30_1 : fldA Tryz.prog 30 1 = some 1 := by kernel_rfl
@[go_sem] theorem fpA_30_1 : fpA Tryz.prog 30 1 = some (1, false, 1) := by kernel_rfl
@[go_sem] theorem plA_30_1 : plA Tryz.prog 30 1 = some (1, 1) := by kernel_rfl
@[go_sem] theorem partTy_30_1 : partTy Tryz.prog 30 1 = 3 := by kernel_rfl
@[go_sem] theorem fldA_30_2 : fldA Tryz.prog 30 2 = some 2 := by kernel_rfl
@[go_sem] theorem fpA_30_2 : fpA Tryz.prog 30 2 = some (2, false, 1) := by kernel_rfl
@[go_sem] theorem plA_30_2 : plA Tryz.prog 30 2 = some (2, 1) := by kernel_rfl
@[go_sem] theorem partTy_30_2 : partTy Tryz.prog 30 2 = 3 := by kernel_rfl
@[go_sem] theorem fldA_30_3 : fldA Tryz.prog 30 3 = some 3 := by kernel_rfl
@[go_sem] theorem fpA_30_3 : fpA Tryz.prog 30 3 = some (3, false, 1) := by kernel_rfl
@[go_sem] theorem plA_30_3 : plA Tryz.prog 30 3 = some (3, 1) := by kernel_rfl
@[go_sem] theorem partTy_30_3 : partTy Tryz.prog 30 3 = 3 := by kernel_rfl
@[go_sem] theorem fldA_30_4 : fldA Tryz.prog 30 4 = some 4 := by kernel_rfl
@[go_sem] theorem fpA_30_4 : fpA Tryz.prog 30 4 = some (4, false, 1) := by kernel_rfl
@[go_sem] theorem plA_30_4 : plA Tryz.prog 30 4 = some (4, 1) := by kernel_rfl
@[go_sem] theorem partTy_30_4 : partTy Tryz.prog 30 4 = 3 := by kernel_rfl
@[go_sem] theorem fldA_30_5 : fldA Tryz.prog 30 5 = some 5 := by kernel_rfl
@[go_sem] theorem fpA_30_5 : fpA Tryz.prog 30 5 = some (5, false, 1) := by kernel_rfl
@[go_sem] theorem plA_30_5 : plA Tryz.prog 30 5 = some (5, 1) := by kernel_rfl
@[go_sem] theorem partTy_30_5 : partTy Tryz.prog 30 5 = 3 := by kernel_rfl
@[go_sem] theorem fldA_30_6 : fldA Tryz.prog 30 6 = some 6 := by kernel_rfl
@[go_sem] theorem fpA_30_6 : fpA Tryz.prog 30 6 = some (6, false, 1) := by kernel_rfl
@[go_sem] theorem plA_30_6 : plA Tryz.prog 30 6 = some (6, 1) := by kernel_rfl
@[go_sem] theorem partTy_30_6 : partTy Tryz.prog 30 6 = 3 := by kernel_rfl
@[go_sem] theorem fldA_30_7 : fldA Tryz.prog 30 7 = some 7 := by kernel_rfl
@[go_sem] theorem fpA_30_7 : fpA Tryz.prog 30 7 = some (7, false, 1) := by kernel_rfl
@[go_sem] theorem plA_30_7 : plA Tryz.prog 30 7 = some (7, 1) := by kernel_rfl
@[go_sem] theorem partTy_30_7 : partTy Tryz.prog 30 7 = 3 := by kernel_rfl
@[go_sem] theorem fldA_30_8 : fldA Tryz.prog 30 8 = some 8 := by kernel_rfl
@[go_sem] theorem fpA_30_8 : fpA Tryz.prog 30 8 = some (8, false, 1) := by kernel_rfl
@[go_sem] theorem plA_30_8 : plA Tryz.prog 30 8 = some (8, 1) := by kernel_rfl
@[go_sem] theorem partTy_30_8 : partTy Tryz.prog 30 8 = 3 := by kernel_rfl
@[go_sem] theorem fldA_30_9 : fldA Tryz.prog 30 9 = some 9 := by kernel_rfl
@[go_sem] theorem fpA_30_9 : fpA Tryz.prog 30 9 = some (9, false, 1) := by kernel_rfl
@[go_sem] theorem plA_30_9 : plA Tryz.prog 30 9 = some (9, 1) := by kernel_rfl
@[go_sem] theorem partTy_30_9 : partTy Tryz.prog 30 9 = 3 := by kernel_rfl
@[go_sem] theorem eqKs_30 : eqKs Tryz.prog 30 = some [.str, .int .i64, .int .i64, .int .i64, .int .i64, .int .i64, .int .i64, .int .i64, .int .i64, .int .i64] := by kernel_rfl
@[go_sem] theorem tyA_31 : tyA Tryz.prog 31 = some (false, 1) := by kernel_rfl
@[go_sem] theorem bytesA_31 : bytesA Tryz.prog 31 = false := by kernel_rfl
@[go_sem] theorem knownA_31 : knownA Tryz.prog 31 = true := by kernel_rfl
@[go_sem] theorem concA_31 : concA Tryz.prog 31 = true := by kernel_rfl
@[go_sem] theorem ikA_31 : ikA Tryz.prog 31 = none := by kernel_rfl
@[go_sem] theorem slB_31 : slB Tryz.prog 31 = true := by kernel_rfl
@[go_sem] theorem bldT_31 : bldT Tryz.prog 31 = none := by kernel_rfl
@[go_sem] theorem zeroA_31 : zeroA Tryz.prog 31 = some [.sl 1 [] .nil] := by kernel_rfl
@[go_sem] theorem slA_31 : slA Tryz.prog 31 = some 1 := by kernel_rfl
@[go_sem] theorem mkA_31 : mkA Tryz.prog 31 = some ([.int .i64 0], 8) := by kernel_rfl
@[go_sem] theorem apA_31 : apA Tryz.prog 31 = some (1, 8) := by kernel_rfl
@[go_sem] theorem partTy_31 (i : Nat) : partTy Tryz.prog 31 i = 3 := rfl_of_partTy (by kernel_rfl)
@[go_sem] theorem tyA_32 : tyA Tryz.prog 32 = some (false, 1) := by kernel_rfl
@[go_sem] theorem bytesA_32 : bytesA Tryz.prog 32 = false := by kernel_rfl
@[go_sem] theorem knownA_32 : knownA Tryz.prog 32 = true := by kernel_rfl
@[go_sem] theorem concA_32 : concA Tryz.prog 32 = true := by kernel_rfl
@[go_sem] theorem ikA_32 : ikA Tryz.prog 32 = none := by kernel_rfl
@[go_sem] theorem slB_32 : slB Tryz.prog 32 = true := by kernel_rfl
@[go_sem] theorem bldT_32 : bldT Tryz.prog 32 = none := by kernel_rfl
@[go_sem] theorem zeroA_32 : zeroA Tryz.prog 32 = some [.sl 3 [] .nil] := by kernel_rfl
@[go_sem] theorem slA_32 : slA Tryz.prog 32 = some 3 := by kernel_rfl
@[go_sem] theorem mkA_32 : mkA Tryz.prog 32 = some ([.int .i64 0, .int .i64 0, .int .i64 0], 24) := by kernel_rfl
@[go_sem] theorem apA_32 : apA Tryz.prog 32 = some (3, 24) := by kernel_rfl
@[go_sem] theorem partTy_32 (i : Nat) : partTy Tryz.prog 32 i = 50 := rfl_of_partTy (by kernel_rfl)
@[go_sem] theorem tyA_33 : tyA Tryz.prog 33 = some (false, 1) := by kernel_rfl
@[go_sem] theorem bytesA_33 : bytesA Tryz.prog 33 = false := by kernel_rfl
@[go_sem] theorem knownA_33 : knownA Tryz.prog 33 = true := by kernel_rfl
@[go_sem] theorem concA_33 : concA Tryz.prog 33 = true := by kernel_rfl
@[go_sem] theorem ikA_33 : ikA Tryz.prog 33 = none := by kernel_rfl
@[go_sem] theorem slB_33 : slB Tryz.prog 33 = true := by kernel_rfl
@[go_sem] theorem bldT_33 : bldT Tryz.prog 33 = none := by kernel_rfl
@[go_sem] theorem zeroA_33 : zeroA Tryz.prog 33 = some [.sl 1 [] .nil] := by kernel_rfl
@[go_sem] theorem slA_33 : slA Tryz.prog 33 = some 1 := by kernel_rfl
@[go_sem] theorem mkA_33 : mkA Tryz.prog 33 = some ([.sl 4 [] .nil], 24) := by kernel_rfl
@[go_sem] theorem apA_33 : apA Tryz.prog 33 = some (1, 24) := by kernel_rfl
@[go_sem] theorem partTy_33 (i : Nat) : partTy Tryz.prog 33 i = 71 := rfl_of_partTy (by kernel_rfl)
@[go_sem] theorem tyA_34 : tyA Tryz.prog 34 = some (false, 1) := by kernel_rfl
@[go_sem] theorem bytesA_34 : bytesA Tryz.prog 34 = false := by kernel_rfl
@[go_sem] theorem knownA_34 : knownA Tryz.prog 34 = true := by kernel_rfl
@[go_sem] theorem concA_34 : concA Tryz.prog 34 = true := by kernel_rfl
@[go_sem] theorem ikA_34 : ikA Tryz.prog 34 = none := by kernel_rfl
@[go_sem] theorem slB_34 : slB Tryz.prog 34 = true := by kernel_rfl
@[go_sem] theorem bldT_34 : bldT Tryz.prog 34 = none := by kernel_rfl
@[go_sem] theorem zeroA_34 : zeroA Tryz.prog 34 = some [.sl 3 [] .nil] := by kernel_rfl
@[go_sem] theorem slA_34 : slA Tryz.prog 34 = some 3 := by kernel_rfl
@[go_sem] theorem mkA_34 : mkA Tryz.prog 34 = some ([.int .i64 0, .int .i64 0, .int .i64 0], 24) := by kernel_rfl
@[go_sem] theorem apA_34 : apA Tryz.prog 34 = some (3, 24) := by kernel_rfl
@[go_sem] theorem partTy_34 (i : Nat) : partTy Tryz.prog 34 i = 55 := rfl_of_partTy (by kernel_rfl)
@[go_sem] theorem fsOk_35 : fsOk Tryz.prog 35 = true := by kernel_rfl
@[go_sem] theorem tyA_36 : tyA Tryz.prog 36 = some (true, 7) := by kernel_rfl
@[go_sem] theorem bytesA_36 : bytesA Tryz.prog 36 = false := by kernel_rfl
@[go_sem] theorem knownA_36 : knownA Tryz.prog 36 = true := by kernel_rfl
@[go_sem] theorem concA_36 : concA Tryz.prog 36 = true := by kernel_rfl
@[go_sem] theorem ikA_36 : ikA Tryz.prog 36 = none := by kernel_rfl
@[go_sem] theorem bldT_36 : bldT Tryz.prog 36 = none := by kernel_rfl
@[go_sem] theorem zeroA_36 : zeroA Tryz.prog 36 = some [.int .i64 0, .sl 3 [] .nil, .sl 1 [] .nil, .sl 1 [] .nil, .sl 1 [] .nil, .sl 1 [] .nil, .sl 3 [] .nil] := by kernel_rfl
@[go_sem] theorem slA_36 : slA Tryz.prog 36 = none := by kernel_rfl
@[go_sem] theorem fsOk_36 : fsOk Tryz.prog 36 = true := by kernel_rfl
@[go_sem] theorem fldA_36_0 : fldA Tryz.prog 36 0 = some 0 := by kernel_rfl
@[go_sem] theorem fpA_36_0 : fpA Tryz.prog 36 0 = some (0, false, 1) := by kernel_rfl
@[go_sem] theorem plA_36_0 : plA Tryz.prog 36 0 = some (0, 1) := by kernel_rfl
@[go_sem] theorem partTy_36_0 : partTy Tryz.prog 36 0 = 3 := by kernel_rfl
@[go_sem] theorem fldA_36_1 : fldA Tryz.prog 36 1 = some 1 := by kernel_rfl
@[go_sem] theorem fpA_36_1 : fpA Tryz.prog 36 1 = some (1, false, 1) := by kernel_rfl
@[go_sem] theorem plA_36_1 : plA Tryz.prog 36 1 = some (1, 1) := by kernel_rfl
@[go_sem] theorem partTy_36_1 : partTy Tryz.prog 36 1 = 32 := by kernel_rfl
@[go_sem] theorem fldA_36_2 : fldA Tryz.prog 36 2 = some 2 := by kernel_rfl
@[go_sem] theorem fpA_36_2 : fpA Tryz.prog 36 2 = some (2, false, 1) := by kernel_rfl
@[go_sem] theorem plA_36_2 : plA Tryz.prog 36 2 = some (2, 1) := by kernel_rfl
@[go_sem] theorem partTy_36_2 : partTy Tryz.prog 36 2 = 31 := by kernel_rfl
@[go_sem] theorem fldA_36_3 : fldA Tryz.prog 36 3 = some 3 := by kernel_rfl
@[go_sem] theorem fpA_36_3 : fpA Tryz.prog 36 3 = some (3, false, 1) := by kernel_rfl
@[go_sem] theorem plA_36_3 : plA Tryz.prog 36 3 = some (3, 1) := by kernel_rfl
@[go_sem] theorem partTy_36_3 : partTy Tryz.prog 36 3 = 31 := by kernel_rfl
@[go_sem] theorem fldA_36_4 : fldA Tryz.prog 36 4 = some 4 := by kernel_rfl
@[go_sem] theorem fpA_36_4 : fpA Tryz.prog 36 4 = some (4, false, 1) := by kernel_rfl
@[go_sem] theorem plA_36_4 : plA Tryz.prog 36 4 = some (4, 1) := by kernel_rfl
@[go_sem] theorem partTy_36_4 : partTy Tryz.prog 36 4 = 33 := by kernel_rfl
@[go_sem] theorem fldA_36_5 : fldA Tryz.prog 36 5 = some 5 := by kernel_rfl
@[go_sem] theorem fpA_36_5 : fpA Tryz.prog 36 5 = some (5, false, 1) := by kernel_rfl
@[go_sem] theorem plA_36_5 : plA Tryz.prog 36 5 = some (5, 1) := by kernel_rfl
@[go_sem] theorem partTy_36_5 : partTy Tryz.prog 36 5 = 31 := by kernel_rfl
@[go_sem] theorem fldA_36_6 : fldA Tryz.prog 36 6 = some 6 := by kernel_rfl
@[go_sem] theorem fpA_36_6 : fpA Tryz.prog 36 6 = some (6, false, 1) := by kernel_rfl
@[go_sem] theorem plA_36_6 : plA Tryz.prog 36 6 = some (6, 1) := by kernel_rfl
@[go_sem] theorem partTy_36_6 : partTy Tryz.prog 36 6 = 34 := by kernel_rfl
@[go_sem] theorem tyA_37 : tyA Tryz.prog 37 = some (false, 1) := by kernel_rfl
@[go_sem] theorem bytesA_37 : bytesA Tryz.prog 37 = false := by kernel_rfl
@[go_sem] theorem knownA_37 : knownA Tryz.prog 37 = true := by kernel_rfl
@[go_sem] theorem concA_37 : concA Tryz.prog 37 = true := by kernel_rfl
@[go_sem] theorem ikA_37 : ikA Tryz.prog 37 = some .i64 := by kernel_rfl
@[go_sem] theorem bldT_37 : bldT Tryz.prog 37 = none := by kernel_rfl
@[go_sem] theorem zeroA_37 : zeroA Tryz.prog 37 = some [.int .i64 0] := by kernel_rfl
@[go_sem] theorem slA_37 : slA Tryz.prog 37 = none := by kernel_rfl
@[go_sem] theorem tyA_42 : tyA Tryz.prog 42 = some (false, 1) := by kernel_rfl
@[go_sem] theorem bytesA_42 : bytesA Tryz.prog 42 = false := by kernel_rfl
@[go_sem] theorem knownA_42 : knownA Tryz.prog 42 = true := by kernel_rfl
@[go_sem] theorem concA_42 : concA Tryz.prog 42 = true := by kernel_rfl
@[go_sem] theorem ikA_42 : ikA Tryz.prog 42 = none := by kernel_rfl
@[go_sem] theorem slB_42 : slB Tryz.prog 42 = true := by kernel_rfl
@[go_sem] theorem bldT_42 : bldT Tryz.prog 42 = none := by kernel_rfl
@[go_sem] theorem zeroA_42 : zeroA Tryz.prog 42 = some [.sl 3 [] .nil] := by kernel_rfl
@[go_sem] theorem slA_42 : slA Tryz.prog 42 = some 3 := by kernel_rfl
@[go_sem] theorem mkA_42 : mkA Tryz.prog 42 = some ([.int .i64 0, .int .i64 0, .sl 3 [] .nil], 40) := by kernel_rfl
@[go_sem] theorem apA_42 : apA Tryz.prog 42 = some (3, 40) := by kernel_rfl
@[go_sem] theorem partTy_42 (i : Nat) : partTy Tryz.prog 42 i = 70 := rfl_of_partTy (by kernel_rfl)
@[go_sem] theorem tyA_45 : tyA Tryz.prog 45 = some (true, 7) := by kernel_rfl
@[go_sem] theorem bytesA_45 : bytesA Tryz.prog 45 = false := by kernel_rfl
@[go_sem] theorem knownA_45 : knownA Tryz.prog 45 = true := by kernel_rfl
@[go_sem] theorem concA_45 : concA Tryz.prog 45 = true := by kernel_rfl
@[go_sem] theorem ikA_45 : ikA Tryz.prog 45 = none := by kernel_rfl
@[go_sem] theorem bldT_45 : bldT Tryz.prog 45 = none := by kernel_rfl
@[go_sem] theorem zeroA_45 : zeroA Tryz.prog 45 = some [.int .i64 0, .sl 3 [] .nil, .sl 1 [] .nil, .sl 1 [] .nil, .sl 1 [] .nil, .sl 1 [] .nil, .sl 3 [] .nil] := by kernel_rfl
@[go_sem] theorem slA_45 : slA Tryz.prog 45 = none := by kernel_rfl
@[go_sem] theorem fsOk_45 : fsOk Tryz.prog 45 = true := by kernel_rfl
@[go_sem] theorem fldA_45_0 : fldA Tryz.prog 45 0 = some 0 := by kernel_rfl
@[go_sem] theorem fpA_45_0 : fpA Tryz.prog 45 0 = some (0, false, 1) := by kernel_rfl
@[go_sem] theorem plA_45_0 : plA Tryz.prog 45 0 = some (0, 1) := by kernel_rfl
@[go_sem] theorem partTy_45_0 : partTy Tryz.prog 45 0 = 3 := by kernel_rfl
@[go_sem] theorem fldA_45_1 : fldA Tryz.prog 45 1 = some 1 := by kernel_rfl
@[go_sem] theorem fpA_45_1 : fpA Tryz.prog 45 1 = some (1, false, 1) := by kernel_rfl
@[go_sem] theorem plA_45_1 : plA Tryz.prog 45 1 = some (1, 1) := by kernel_rfl
@[go_sem] theorem partTy_45_1 : partTy Tryz.prog 45 1 = 32 := by kernel_rfl
@[go_sem] theorem fldA_45_2 : fldA Tryz.prog 45 2 = some 2 := by kernel_rfl
@[go_sem] theorem fpA_45_2 : fpA Tryz.prog 45 2 = some (2, false, 1) := by kernel_rfl
@[go_sem] theorem plA_45_2 : plA Tryz.prog 45 2 = some (2, 1) := by kernel_rfl
@[go_sem] theorem partTy_45_2 : partTy Tryz.prog 45 2 = 31 := by kernel_rfl
@[go_sem] theorem fldA_45_3 : fldA Tryz.prog 45 3 = some 3 := by kernel_rfl
@[go_sem] theorem fpA_45_3 : fpA Tryz.prog 45 3 = some (3, false, 1) := by kernel_rfl
@[go_sem] theorem plA_45_3 : plA Tryz.prog 45 3 = some (3, 1) := by kernel_rfl
@[go_sem] theorem partTy_45_3 : partTy Tryz.prog 45 3 = 31 := by kernel_rfl
@[go_sem] theorem fldA_45_4 : fldA Tryz.prog 45 4 = some 4 := by kernel_rfl
@[go_sem] theorem fpA_45_4 : fpA Tryz.prog 45 4 = some (4, false, 1) := by kernel_rfl
@[go_sem] theorem plA_45_4 : plA Tryz.prog 45 4 = some (4, 1) := by kernel_rfl
@[go_sem] theorem partTy_45_4 : partTy Tryz.prog 45 4 = 33 := by kernel_rfl
@[go_sem] theorem fldA_45_5 : fldA Tryz.prog 45 5 = some 5 := by kernel_rfl
@[go_sem] theorem fpA_45_5 : fpA Tryz.prog 45 5 = some (5, false, 1) := by kernel_rfl
@[go_sem] theorem plA_45_5 : plA Tryz.prog 45 5 = some (5, 1) := by kernel_rfl
@[go_sem] theorem partTy_45_5 : partTy Tryz.prog 45 5 = 31 := by kernel_rfl
@[go_sem] theorem fldA_45_6 : fldA Tryz.prog 45 6 = some 6 := by kernel_rfl
@[go_sem] theorem fpA_45_6 : fpA Tryz.prog 45 6 = some (6, false, 1) := by kernel_rfl
@[go_sem] theorem plA_45_6 : plA Tryz.prog 45 6 = some (6, 1) := by kernel_rfl
@[go_sem] theorem partTy_45_6 : partTy Tryz.prog 45 6 = 34 := by kernel_rfl
@[go_sem] theorem fsOk_49 : fsOk Tryz.prog 49 = true := by kernel_rfl
@[go_sem] theorem eqKs_49 : eqKs Tryz.prog 49 = some [.int .i64, .int .i64, .int .i64] := by kernel_rfl
@[go_sem] theorem tyA_50 : tyA Tryz.prog 50 = some (true, 3) := by kernel_rfl
@[go_sem] theorem bytesA_50 : bytesA Tryz.prog 50 = false := by kernel_rfl
@[go_sem] theorem knownA_50 : knownA Tryz.prog 50 = true := by kernel_rfl
@[go_sem] theorem concA_50 : concA Tryz.prog 50 = true := by kernel_rfl
@[go_sem] theorem ikA_50 : ikA Tryz.prog 50 = none := by kernel_rfl
@[go_sem] theorem bldT_50 : bldT Tryz.prog 50 = none := by kernel_rfl
@[go_sem] theorem zeroA_50 : zeroA Tryz.prog 50 = some [.int .i64 0, .int .i64 0, .int .i64 0] := by kernel_rfl
@[go_sem] theorem slA_50 : slA Tryz.prog 50 = none := by kernel_rfl
@[go_sem] theorem fsOk_50 : fsOk Tryz.prog 50 = true := by kernel_rfl
@[go_sem] theorem fldA_50_0 : fldA Tryz.prog 50 0 = some 0 := by kernel_rfl
@[go_sem] theorem fpA_50_0 : fpA Tryz.prog 50 0 = some (0, false, 1) := by kernel_rfl
@[go_sem] theorem plA_50_0 : plA Tryz.prog 50 0 = some (0, 1) := by kernel_rfl
@[go_sem] theorem partTy_50_0 : partTy Tryz.prog 50 0 = 3 := by kernel_rfl
@[go_sem] theorem fldA_50_1 : fldA Tryz.prog 50 1 = some 1 := by kernel_rfl
@[go_sem] theorem fpA_50_1 : fpA Tryz.prog 50 1 = some (1, false, 1) := by kernel_rfl
@[go_sem] theorem plA_50_1 : plA Tryz.prog 50 1 = some (1, 1) := by kernel_rfl
@[go_sem] theorem partTy_50_1 : partTy Tryz.prog 50 1 = 3 := by kernel_rfl
@[go_sem] theorem fldA_50_2 : fldA Tryz.prog 50 2 = some 2 := by kernel_rfl
@[go_sem] theorem fpA_50_2 : fpA Tryz.prog 50 2 = some (2, false, 1) := by kernel_rfl
@[go_sem] theorem plA_50_2 : plA Tryz.prog 50 2 = some (2, 1) := by kernel_rfl
@[go_sem] theorem partTy_50_2 : partTy Tryz.prog 50 2 = 3 := by kernel_rfl
@[go_sem] theorem eqKs_50 : eqKs Tryz.prog 50 = some [.int .i64, .int .i64, .int .i64] := by kernel_rfl
@[go_sem] theorem fsOk_54 : fsOk Tryz.prog 54 = true := by kernel_rfl
@[go_sem] theorem eqKs_54 : eqKs Tryz.prog 54 = some [.int .i64, .int .i64, .int .i64] := by kernel_rfl
@[go_sem] theorem tyA_55 : tyA Tryz.prog 55 = some (true, 3) := by kernel_rfl
@[go_sem] theorem bytesA_55 : bytesA Tryz.prog 55 = false := by kernel_rfl
@[go_sem] theorem knownA_55 : knownA Tryz.prog 55 = true := by kernel_rfl
@[go_sem] theorem concA_55 : concA Tryz.prog 55 = true := by kernel_rfl
@[go_sem] theorem ikA_55 : ikA Tryz.prog 55 = none := by kernel_rfl
@[go_sem] theorem bldT_55 : bldT Tryz.prog 55 = none := by kernel_rfl
@[go_sem] theorem zeroA_55 : zeroA Tryz.prog 55 = some [.int .i64 0, .int .i64 0, .int .i64 0] := by kernel_rfl
@[go_sem] theorem slA_55 : slA Tryz.prog 55 = none := by kernel_rfl
@[go_sem] theorem fsOk_55 : fsOk Tryz.prog 55 = true := by kernel_rfl
@[go_sem] theorem fldA_55_0 : fldA Tryz.prog 55 0 = some 0 := by kernel_rfl
@[go_sem] theorem fpA_55_0 : fpA Tryz.prog 55 0 = some (0, false, 1) := by kernel_rfl
@[go_sem] theorem plA_55_0 : plA Tryz.prog 55 0 = some (0, 1) := by kernel_rfl
@[go_sem] theorem partTy_55_0 : partTy Tryz.prog 55 0 = 3 := by kernel_rfl
@[go_sem] theorem fldA_55_1 : fldA Tryz.prog 55 1 = some 1 := by kernel_rfl
@[go_sem] theorem fpA_55_1 : fpA Tryz.prog 55 1 = some (1, false, 1) := by kernel_rfl
@[go_sem] theorem plA_55_1 : plA Tryz.prog 55 1 = some (1, 1) := by kernel_rfl
@[go_sem] theorem partTy_55_1 : partTy Tryz.prog 55 1 = 3 := by kernel_rfl
@[go_sem] theorem fldA_55_2 : fldA Tryz.prog 55 2 = some 2 := by kernel_rfl
@[go_sem] theorem fpA_55_2 : fpA Tryz.prog 55 2 = some (2, false, 1) := by kernel_rfl
@[go_sem] theorem plA_55_2 : plA Tryz.prog 55 2 = some (2, 1) := by kernel_rfl
@[go_sem] theorem partTy_55_2 : partTy Tryz.prog 55 2 = 3 := by kernel_rfl
@[go_sem] theorem eqKs_55 : eqKs Tryz.prog 55 = some [.int .i64, .int .i64, .int .i64] := by kernel_rfl
@[go_sem] theorem tyA_58 : tyA Tryz.prog 58 = some (false, 1) := by kernel_rfl
@[go_sem] theorem bytesA_58 : bytesA Tryz.prog 58 = false := by kernel_rfl
@[go_sem] theorem knownA_58 : knownA Tryz.prog 58 = true := by kernel_rfl
@[go_sem] theorem concA_58 : concA Tryz.prog 58 = true := by kernel_rfl
@[go_sem] theorem ikA_58 : ikA Tryz.prog 58 = none := by kernel_rfl
@[go_sem] theorem slB_58 : slB Tryz.prog 58 = true := by kernel_rfl
@[go_sem] theorem bldT_58 : bldT Tryz.prog 58 = none := by kernel_rfl
@[go_sem] theorem zeroA_58 : zeroA Tryz.prog 58 = some [.sl 6 [] .nil] := by kernel_rfl
@[go_sem] theorem slA_58 : slA Tryz.prog 58 = some 6 := by kernel_rfl
@[go_sem] theorem mkA_58 : mkA Tryz.prog 58 = some ([.int .i64 0, .int .i64 0, .int .i64 0, .int .i64 0, .int .i64 0, .int .i64 0], 48) := by kernel_rfl
@[go_sem] theorem apA_58 : apA Tryz.prog 58 = some (6, 48) := by kernel_rfl
@[go_sem] theorem partTy_58 (i : Nat) : partTy Tryz.prog 58 i = 62 := rfl_of_partTy (by kernel_rfl)
@[go_sem] theorem fsOk_59 : fsOk Tryz.prog 59 = true := by kernel_rfl
@[go_sem] theorem eqKs_59 : eqKs Tryz.prog 59 = some [.int .i64, .int .i64, .int .i64, .int .i64] := by kernel_rfl
@[go_sem] theorem tyA_60 : tyA Tryz.prog 60 = some (true, 4) := by kernel_rfl
@[go_sem] theorem bytesA_60 : bytesA Tryz.prog 60 = false := by kernel_rfl
@[go_sem] theorem knownA_60 : knownA Tryz.prog 60 = true := by kernel_rfl
@[go_sem] theorem concA_60 : concA Tryz.prog 60 = true := by kernel_rfl
@[go_sem] theorem ikA_60 : ikA Tryz.prog 60 = none := by kernel_rfl
@[go_sem] theorem bldT_60 : bldT Tryz.prog 60 = none := by kernel_rfl
@[go_sem] theorem zeroA_60 : zeroA Tryz.prog 60 = some [.int .i64 0, .int .i64 0, .int .i64 0, .int .i64 0] := by kernel_rfl
@[go_sem] theorem slA_60 : slA Tryz.prog 60 = none := by kernel_rfl
@[go_sem] theorem fsOk_60 : fsOk Tryz.prog 60 = true := by kernel_rfl
@[go_sem] theorem fldA_60_0 : fldA Tryz.prog 60 0 = some 0 := by kernel_rfl
@[go_sem] theorem fpA_60_0 : fpA Tryz.prog 60 0 = some (0, false, 1) := by kernel_rfl
@[go_sem] theorem plA_60_0 : plA Tryz.prog 60 0 = some (0, 1) := by kernel_rfl
@[go_sem] theorem partTy_60_0 : partTy Tryz.prog 60 0 = 3 := by kernel_rfl
@[go_sem] theorem fldA_60_1 : fldA Tryz.prog 60 1 = some 1 := by kernel_rfl
@[go_sem] theorem fpA_60_1 : fpA Tryz.prog 60 1 = some (1, false, 1) := by kernel_rfl
@[go_sem] theorem plA_60_1 : plA Tryz.prog 60 1 = some (1, 1) := by kernel_rfl
@[go_sem] theorem partTy_60_1 : partTy Tryz.prog 60 1 = 3 := by kernel_rfl
@[go_sem] theorem fldA_60_2 : fldA Tryz.prog 60 2 = some 2 := by kernel_rfl
@[go_sem] theorem fpA_60_2 : fpA Tryz.prog 60 2 = some (2, false, 1) := by kernel_rfl
@[go_sem] theorem plA_60_2 : plA Tryz.prog 60 2 = some (2, 1) := by kernel_rfl
@[go_sem] theorem partTy_60_2 : partTy Tryz.prog 60 2 = 3 := by kernel_rfl
@[go_sem] theorem fldA_60_3 : fldA Tryz.prog 60 3 = some 3 := by kernel_rfl
@[go_sem] theorem fpA_60_3 : fpA Tryz.prog 60 3 = some (3, false, 1) := by kernel_rfl
@[go_sem] theorem plA_60_3 : plA Tryz.prog 60 3 = some (3, 1) := by kernel_rfl
@[go_sem] theorem partTy_60_3 : partTy Tryz.prog 60 3 = 3 := by kernel_rfl
@[go_sem] theorem eqKs_60 : eqKs Tryz.prog 60 = some [.int .i64, .int .i64, .int .i64, .int .i64] := by kernel_rfl
@[go_sem] theorem fsOk_61 : fsOk Tryz.prog 61 = true := by kernel_rfl
@[go_sem] theorem tyA_62 : tyA Tryz.prog 62 = some (true, 6) := by kernel_rfl
@[go_sem] theorem bytesA_62 : bytesA Tryz.prog 62 = false := by kernel_rfl
@[go_sem] theorem knownA_62 : knownA Tryz.prog 62 = true := by kernel_rfl
@[go_sem] theorem concA_62 : concA Tryz.prog 62 = true := by kernel_rfl
@[go_sem] theorem ikA_62 : ikA Tryz.prog 62 = none := by kernel_rfl
@[go_sem] theorem bldT_62 : bldT Tryz.prog 62 = none := by kernel_rfl
@[go_sem] theorem zeroA_62 : zeroA Tryz.prog 62 = some [.int .i64 0, .int .i64 0, .int .i64 0, .int .i64 0, .int .i64 0, .int .i64 0] := by kernel_rfl
@[go_sem] theorem slA_62 : slA Tryz.prog 62 = none := by kernel_rfl
@[go_sem] theorem fsOk_62 : fsOk Tryz.prog 62 = true := by kernel_rfl
@[go_sem] theorem fldA_62_0 : fldA Tryz.prog 62 0 = some 0 := by kernel_rfl
@[go_sem] theorem fpA_62_0 : fpA Tryz.prog 62 0 = some (0, true, 4) := by kernel_rfl
@[go_sem] theorem plA_62_0 : plA Tryz.prog 62 0 = some (0, 4) := by kernel_rfl
@[go_sem] theorem partTy_62_0 : partTy Tryz.prog 62 0 = 60 := by kernel_rfl
@[go_sem] theorem fldA_62_1 : fldA Tryz.prog 62 1 = some 4 := by kernel_rfl
@[go_sem] theorem fpA_62_1 : fpA Tryz.prog 62 1 = some (4, false, 1) := by kernel_rfl
@[go_sem] theorem plA_62_1 : plA Tryz.prog 62 1 = some (4, 1) := by kernel_rfl
@[go_sem] theorem partTy_62_1 : partTy Tryz.prog 62 1 = 3 := by kernel_rfl
@[go_sem] theorem fldA_62_2 : fldA Tryz.prog 62 2 = some 5 := by kernel_rfl
@[go_sem] theorem fpA_62_2 : fpA Tryz.prog 62 2 = some (5, false, 1) := by kernel_rfl
@[go_sem] theorem plA_62_2 : plA Tryz.prog 62 2 = some (5, 1) := by kernel_rfl
@[go_sem] theorem partTy_62_2 : partTy Tryz.prog 62 2 = 3 := by kernel_rfl
@[go_sem] theorem fsOk_67 : fsOk Tryz.prog 67 = true := by kernel_rfl
@[go_sem] theorem eqKs_67 : eqKs Tryz.prog 67 = some [.int .i64, .int .i64] := by kernel_rfl
@[go_sem] theorem tyA_68 : tyA Tryz.prog 68 = some (true, 2) := by kernel_rfl
@[go_sem] theorem bytesA_68 : bytesA Tryz.prog 68 = false := by kernel_rfl
@[go_sem] theorem knownA_68 : knownA Tryz.prog 68 = true := by kernel_rfl
@[go_sem] theorem concA_68 : concA Tryz.prog 68 = true := by kernel_rfl
@[go_sem] theorem ikA_68 : ikA Tryz.prog 68 = none := by kernel_rfl
@[go_sem] theorem bldT_68 : bldT Tryz.prog 68 = none := by kernel_rfl
@[go_sem] theorem zeroA_68 : zeroA Tryz.prog 68 = some [.int .i64 0, .int .i64 0] := by kernel_rfl
@[go_sem] theorem slA_68 : slA Tryz.prog 68 = none := by kernel_rfl
@[go_sem] theorem fsOk_68 : fsOk Tryz.prog 68 = true := by kernel_rfl
@[go_sem] theorem fldA_68_0 : fldA Tryz.prog 68 0 = some 0 := by kernel_rfl
@[go_sem] theorem fpA_68_0 : fpA Tryz.prog 68 0 = some (0, false, 1) := by kernel_rfl
@[go_sem] theorem plA_68_0 : plA Tryz.prog 68 0 = some (0, 1) := by kernel_rfl
@[go_sem] theorem partTy_68_0 : partTy Tryz.prog 68 0 = 3 := by kernel_rfl
@[go_sem] theorem fldA_68_1 : fldA Tryz.prog 68 1 = some 1 := by kernel_rfl
@[go_sem] theorem fpA_68_1 : fpA Tryz.prog 68 1 = some (1, false, 1) := by kernel_rfl
@[go_sem] theorem plA_68_1 : plA Tryz.prog 68 1 = some (1, 1) := by kernel_rfl
@[go_sem] theorem partTy_68_1 : partTy Tryz.prog 68 1 = 3 := by kernel_rfl
@[go_sem] theorem eqKs_68 : eqKs Tryz.prog 68 = some [.int .i64, .int .i64] := by kernel_rfl
@[go_sem] theorem fsOk_69 : fsOk Tryz.prog 69 = true := by kernel_rfl
@[go_sem] theorem tyA_70 : tyA Tryz.prog 70 = some (true, 3) := by kernel_rfl
@[go_sem] theorem bytesA_70 : bytesA Tryz.prog 70 = false := by kernel_rfl
@[go_sem] theorem knownA_70 : knownA Tryz.prog 70 = true := by kernel_rfl
@[go_sem] theorem concA_70 : concA Tryz.prog 70 = true := by kernel_rfl
@[go_sem] theorem ikA_70 : ikA Tryz.prog 70 = none := by kernel_rfl
@[go_sem] theorem bldT_70 : bldT Tryz.prog 70 = none := by kernel_rfl
@[go_sem] theorem zeroA_70 : zeroA Tryz.prog 70 = some [.int .i64 0, .int .i64 0, .sl 3 [] .nil] := by kernel_rfl
@[go_sem] theorem slA_70 : slA Tryz.prog 70 = none := by kernel_rfl
@[go_sem] theorem fsOk_70 : fsOk Tryz.prog 70 = true := by kernel_rfl
@[go_sem] theorem fldA_70_0 : fldA Tryz.prog 70 0 = some 0 := by kernel_rfl
@[go_sem] theorem fpA_70_0 : fpA Tryz.prog 70 0 = some (0, false, 1) := by kernel_rfl
@[go_sem] theorem plA_70_0 : plA Tryz.prog 70 0 = some (0, 1) := by kernel_rfl
@[go_sem] theorem partTy_70_0 : partTy Tryz.prog 70 0 = 3 := by kernel_rfl
@[go_sem] theorem fldA_70_1 : fldA Tryz.prog 70 1 = some 1 := by kernel_rfl
@[go_sem] theorem fpA_70_1 : fpA Tryz.prog 70 1 = some (1, false, 1) := by kernel_rfl
@[go_sem] theorem plA_70_1 : plA Tryz.prog 70 1 = some (1, 1) := by kernel_rfl
@[go_sem] theorem partTy_70_1 : partTy Tryz.prog 70 1 = 3 := by kernel_rfl
@[go_sem] theorem fldA_70_2 : fldA Tryz.prog 70 2 = some 2 := by kernel_rfl
@[go_sem] theorem fpA_70_2 : fpA Tryz.prog 70 2 = some (2, false, 1) := by kernel_rfl
@[go_sem] theorem plA_70_2 : plA Tryz.prog 70 2 = some (2, 1) := by kernel_rfl
@[go_sem] theorem partTy_70_2 : partTy Tryz.prog 70 2 = 32 := by kernel_rfl
@[go_sem] theorem tyA_71 : tyA Tryz.prog 71 = some (false, 1) := by kernel_rfl
@[go_sem] theorem bytesA_71 : bytesA Tryz.prog 71 = false := by kernel_rfl
@[go_sem] theorem knownA_71 : knownA Tryz.prog 71 = true := by kernel_rfl
@[go_sem] theorem concA_71 : concA Tryz.prog 71 = true := by kernel_rfl
@[go_sem] theorem ikA_71 : ikA Tryz.prog 71 = none := by kernel_rfl
@[go_sem] theorem slB_71 : slB Tryz.prog 71 = true := by kernel_rfl
@[go_sem] theorem bldT_71 : bldT Tryz.prog 71 = none := by kernel_rfl
@[go_sem] theorem zeroA_71 : zeroA Tryz.prog 71 = some [.sl 4 [] .nil] := by kernel_rfl
@[go_sem] theorem slA_71 : slA Tryz.prog 71 = some 4 := by kernel_rfl
@[go_sem] theorem mkA_71 : mkA Tryz.prog 71 = some ([.int .i64 0, .int .i64 0, .int .i64 0, .int .i64 0], 32) := by kernel_rfl
@[go_sem] theorem apA_71 : apA Tryz.prog 71 = some (4, 32) := by kernel_rfl
@[go_sem] theorem partTy_71 (i : Nat) : partTy Tryz.prog 71 i = 60 := rfl_of_partTy (by kernel_rfl)
@[go_sem] theorem fsOk_74 : fsOk Tryz.prog 74 = true := by kernel_rfl
@[go_sem] theorem eqKs_74 : eqKs Tryz.prog 74 = some [.int .i64, .int .i64, .int .i64, .int .i64, .int .i64, .int .i64, .bool] := by kernel_rfl
@[go_sem] theorem tyA_75 : tyA Tryz.prog 75 = some (true, 7) := by kernel_rfl
@[go_sem] theorem bytesA_75 : bytesA Tryz.prog 75 = false := by kernel_rfl
@[go_sem] theorem knownA_75 : knownA Tryz.prog 75 = true := by kernel_rfl
@[go_sem] theorem concA_75 : concA Tryz.prog 75 = true := by kernel_rfl
@[go_sem] theorem ikA_75 : ikA Tryz.prog 75 = none := by kernel_rfl
@[go_sem] theorem bldT_75 : bldT Tryz.prog 75 = none := by kernel_rfl
@[go_sem] theorem zeroA_75 : zeroA Tryz.prog 75 = some [.int .i64 0, .int .i64 0, .int .i64 0, .int .i64 0, .int .i64 0, .int .i64 0, .bool false] := by kernel_rfl
@[go_sem] theorem slA_75 : slA Tryz.prog 75 = none := by kernel_rfl
@[go_sem] theorem fsOk_75 : fsOk Tryz.prog 75 = true := by kernel_rfl
@[go_sem] theorem fldA_75_0 : fldA Tryz.prog 75 0 = some 0 := by kernel_rfl
@[go_sem] theorem fpA_75_0 : fpA Tryz.prog 75 0 = some (0, false, 1) := by kernel_rfl
@[go_sem] theorem plA_75_0 : plA Tryz.prog 75 0 = some (0, 1) := by kernel_rfl
@[go_sem] theorem partTy_75_0 : partTy Tryz.prog 75 0 = 3 := by kernel_rfl
@[go_sem] theorem fldA_75_1 : fldA Tryz.prog 75 1 = some 1 := by kernel_rfl
@[go_sem] theorem fpA_75_1 : fpA Tryz.prog 75 1 = some (1, false, 1) := by kernel_rfl
@[go_sem] theorem plA_75_1 : plA Tryz.prog 75 1 = some (1, 1) := by kernel_rfl
@[go_sem] theorem partTy_75_1 : partTy Tryz.prog 75 1 = 3 := by kernel_rfl
@[go_sem] theorem fldA_75_2 : fldA Tryz.prog 75 2 = some 2 := by kernel_rfl
@[go_sem] theorem fpA_75_2 : fpA Tryz.prog 75 2 = some (2, false, 1) := by kernel_rfl
@[go_sem] theorem plA_75_2 : plA Tryz.prog 75 2 = some (2, 1) := by kernel_rfl
@[go_sem] theorem partTy_75_2 : partTy Tryz.prog 75 2 = 3 := by kernel_rfl
@[go_sem] theorem fldA_75_3 : fldA Tryz.prog 75 3 = some 3 := by kernel_rfl
@[go_sem] theorem fpA_75_3 : fpA Tryz.prog 75 3 = some (3, false, 1) := by kernel_rfl
@[go_sem] theorem plA_75_3 : plA Tryz.prog 75 3 = some (3, 1) := by kernel_rfl
@[go_sem] theorem partTy_75_3 : partTy Tryz.prog 75 3 = 3 := by kernel_rfl
@[go_sem] theorem fldA_75_4 : fldA Tryz.prog 75 4 = some 4 := by kernel_rfl
@[go_sem] theorem fpA_75_4 : fpA Tryz.prog 75 4 = some (4, false, 1) := by kernel_rfl
@[go_sem] theorem plA_75_4 : plA Tryz.prog 75 4 = some (4, 1) := by kernel_rfl
@[go_sem] theorem partTy_75_4 : partTy Tryz.prog 75 4 = 3 := by kernel_rfl
@[go_sem] theorem fldA_75_5 : fldA Tryz.prog 75 5 = some 5 := by kernel_rfl
@[go_sem] theorem fpA_75_5 : fpA Tryz.prog 75 5 = some (5, false, 1) := by kernel_rfl
@[go_sem] theorem plA_75_5 : plA Tryz.prog 75 5 = some (5, 1) := by kernel_rfl
@[go_sem] theorem partTy_75_5 : partTy Tryz.prog 75 5 = 3 := by kernel_rfl
@[go_sem] theorem fldA_75_6 : fldA Tryz.prog 75 6 = some 6 := by kernel_rfl
@[go_sem] theorem fpA_75_6 : fpA Tryz.prog 75 6 = some (6, false, 1) := by kernel_rfl
@[go_sem] theorem plA_75_6 : plA Tryz.prog 75 6 = some (6, 1) := by kernel_rfl
@[go_sem] theorem partTy_75_6 : partTy Tryz.prog 75 6 = 4 := by kernel_rfl
@[go_sem] theorem eqKs_75 : eqKs Tryz.prog 75 = some [.int .i64, .int .i64, .int .i64, .int .i64, .int .i64, .int .i64, .bool] := by kernel_rfl
@[go_sem] theorem tyA_76 : tyA Tryz.prog 76 = some (false, 1) := by kernel_rfl
@[go_sem] theorem bytesA_76 : bytesA Tryz.prog 76 = false := by kernel_rfl
@[go_sem] theorem knownA_76 : knownA Tryz.prog 76 = true := by kernel_rfl
@[go_sem] theorem concA_76 : concA Tryz.prog 76 = true := by kernel_rfl
@[go_sem] theorem ikA_76 : ikA Tryz.prog 76 = none := by kernel_rfl
@[go_sem] theorem slB_76 : slB Tryz.prog 76 = true := by kernel_rfl
@[go_sem] theorem bldT_76 : bldT Tryz.prog 76 = none := by kernel_rfl
@[go_sem] theorem zeroA_76 : zeroA Tryz.prog 76 = some [.sl 3 [] .nil] := by kernel_rfl
@[go_sem] theorem slA_76 : slA Tryz.prog 76 = some 3 := by kernel_rfl
@[go_sem] theorem mkA_76 : mkA Tryz.prog 76 = some ([.int .i64 0, .int .i64 0, .int .i64 0], 24) := by kernel_rfl
@[go_sem] theorem apA_76 : apA Tryz.prog 76 = some (3, 24) := by kernel_rfl
@[go_sem] theorem partTy_76 (i : Nat) : partTy Tryz.prog 76 i = 80 := rfl_of_partTy (by kernel_rfl)
@[go_sem] theorem fsOk_79 : fsOk Tryz.prog 79 = true := by kernel_rfl
@[go_sem] theorem eqKs_79 : eqKs Tryz.prog 79 = some [.int .i64, .int .i64, .int .i64] := by kernel_rfl
@[go_sem] theorem tyA_80 : tyA Tryz.prog 80 = some (true, 3) := by kernel_rfl
@[go_sem] theorem bytesA_80 : bytesA Tryz.prog 80 = false := by kernel_rfl
@[go_sem] theorem knownA_80 : knownA Tryz.prog 80 = true := by kernel_rfl
@[go_sem] theorem concA_80 : concA Tryz.prog 80 = true := by kernel_rfl
@[go_sem] theorem ikA_80 : ikA Tryz.prog 80 = none := by kernel_rfl
@[go_sem] theorem bldT_80 : bldT Tryz.prog 80 = none := by kernel_rfl
@[go_sem] theorem zeroA_80 : zeroA Tryz.prog 80 = some [.int .i64 0, .int .i64 0, .int .i64 0] := by kernel_rfl
@[go_sem] theorem slA_80 : slA Tryz.prog 80 = none := by kernel_rfl
@[go_sem] theorem fsOk_80 : fsOk Tryz.prog 80 = true := by kernel_rfl
@[go_sem] theorem fldA_80_0 : fldA Tryz.prog 80 0 = some 0 := by kernel_rfl
@[go_sem] theorem fpA_80_0 : fpA Tryz.prog 80 0 = some (0, false, 1) := by kernel_rfl
@[go_sem] theorem plA_80_0 : plA Tryz.prog 80 0 = some (0, 1) := by kernel_rfl
@[go_sem] theorem partTy_80_0 : partTy Tryz.prog 80 0 = 3 := by kernel_rfl
@[go_sem] theorem fldA_80_1 : fldA Tryz.prog 80 1 = some 1 := by kernel_rfl
@[go_sem] theorem fpA_80_1 : fpA Tryz.prog 80 1 = some (1, false, 1) := by kernel_rfl
@[go_sem] theorem plA_80_1 : plA Tryz.prog 80 1 = some (1, 1) := by kernel_rfl
@[go_sem] theorem partTy_80_1 : partTy Tryz.prog 80 1 = 3 := by kernel_rfl
@[go_sem] theorem fldA_80_2 : fldA Tryz.prog 80 2 = some 2 := by kernel_rfl
@[go_sem] theorem fpA_80_2 : fpA Tryz.prog 80 2 = some (2, false, 1) := by kernel_rfl
@[go_sem] theorem plA_80_2 : plA Tryz.prog 80 2 = some (2, 1) := by kernel_rfl
@[go_sem] theorem partTy_80_2 : partTy Tryz.prog 80 2 = 3 := by kernel_rfl
@[go_sem] theorem eqKs_80 : eqKs Tryz.prog 80 = some [.int .i64, .int .i64, .int .i64] := by kernel_rfl
@[go_sem] theorem tyA_88 : tyA Tryz.prog 88 = some (true, 3) := by kernel_rfl
@[go_sem] theorem bytesA_88 : bytesA Tryz.prog 88 = false := by kernel_rfl
@[go_sem] theorem knownA_88 : knownA Tryz.prog 88 = true := by kernel_rfl
@[go_sem] theorem concA_88 : concA Tryz.prog 88 = true := by kernel_rfl
@[go_sem] theorem ikA_88 : ikA Tryz.prog 88 = none := by kernel_rfl
@[go_sem] theorem bldT_88 : bldT Tryz.prog 88 = none := by kernel_rfl
@[go_sem] theorem zeroA_88 : zeroA Tryz.prog 88 = some [.int .i64 0, .int .i64 0, .int .i64 0] := by kernel_rfl
@[go_sem] theorem slA_88 : slA Tryz.prog 88 = none := by kernel_rfl
@[go_sem] theorem eqKs_88 : eqKs Tryz.prog 88 = some [.int .i64, .int .i64, .int .i64] := by kernel_rfl
@[go_sem] theorem arA_88 : arA Tryz.prog 88 = some (3, 1) := by kernel_rfl
@[go_sem] theorem avA_88 : avA Tryz.prog 88 = some (3, false, 1) := by kernel_rfl
@[go_sem] theorem fsOk_88 : fsOk Tryz.prog 88 = true := by kernel_rfl
@[go_sem] theorem plA_88_0 : plA Tryz.prog 88 0 = some (0, 1) := by kernel_rfl
@[go_sem] theorem partTy_88_0 : partTy Tryz.prog 88 0 = 3 := by kernel_rfl
@[go_sem] theorem plA_88_1 : plA Tryz.prog 88 1 = some (1, 1) := by kernel_rfl
@[go_sem] theorem partTy_88_1 : partTy Tryz.prog 88 1 = 3 := by kernel_rfl
@[go_sem] theorem plA_88_2 : plA Tryz.prog 88 2 = some (2, 1) := by kernel_rfl
@[go_sem] theorem partTy_88_2 : partTy Tryz.prog 88 2 = 3 := by kernel_rfl
@[go_sem] theorem tyA_89 : tyA Tryz.prog 89 = some (false, 1) := by kernel_rfl
@[go_sem] theorem bytesA_89 : bytesA Tryz.prog 89 = false := by kernel_rfl
@[go_sem] theorem knownA_89 : knownA Tryz.prog 89 = true := by kernel_rfl
@[go_sem] theorem concA_89 : concA Tryz.prog 89 = true := by kernel_rfl
@[go_sem] theorem ikA_89 : ikA Tryz.prog 89 = none := by kernel_rfl
@[go_sem] theorem slB_89 : slB Tryz.prog 89 = true := by kernel_rfl
@[go_sem] theorem bldT_89 : bldT Tryz.prog 89 = none := by kernel_rfl
@[go_sem] theorem zeroA_89 : zeroA Tryz.prog 89 = some [.sl 3 [] .nil] := by kernel_rfl
@[go_sem] theorem slA_89 : slA Tryz.prog 89 = some 3 := by kernel_rfl
@[go_sem] theorem mkA_89 : mkA Tryz.prog 89 = some ([.int .i64 0, .int .i64 0, .int .i64 0], 24) := by kernel_rfl
@[go_sem] theorem apA_89 : apA Tryz.prog 89 = some (3, 24) := by kernel_rfl
@[go_sem] theorem partTy_89 (i : Nat) : partTy Tryz.prog 89 i = 88 := rfl_of_partTy (by kernel_rfl)
@[go_sem] theorem fsOk_90 : fsOk Tryz.prog 90 = true := by kernel_rfl
@[go_sem] theorem tyA_91 : tyA Tryz.prog 91 = some (true, 3) := by kernel_rfl
@[go_sem] theorem bytesA_91 : bytesA Tryz.prog 91 = false := by kernel_rfl
@[go_sem] theorem knownA_91 : knownA Tryz.prog 91 = true := by kernel_rfl
@[go_sem] theorem concA_91 : concA Tryz.prog 91 = true := by kernel_rfl
@[go_sem] theorem ikA_91 : ikA Tryz.prog 91 = none := by kernel_rfl
@[go_sem] theorem bldT_91 : bldT Tryz.prog 91 = none := by kernel_rfl
@[go_sem] theorem zeroA_91 : zeroA Tryz.prog 91 = some [.sl 3 [] .nil, .int .i64 0, .bool false] := by kernel_rfl
@[go_sem] theorem slA_91 : slA Tryz.prog 91 = none := by kernel_rfl
@[go_sem] theorem fsOk_91 : fsOk Tryz.prog 91 = true := by kernel_rfl
@[go_sem] theorem fldA_91_0 : fldA Tryz.prog 91 0 = some 0 := by kernel_rfl
@[go_sem] theorem fpA_91_0 : fpA Tryz.prog 91 0 = some (0, false, 1) := by kernel_rfl
@[go_sem] theorem plA_91_0 : plA Tryz.prog 91 0 = some (0, 1) := by kernel_rfl
@[go_sem] theorem partTy_91_0 : partTy Tryz.prog 91 0 = 42 := by kernel_rfl
@[go_sem] theorem fldA_91_1 : fldA Tryz.prog 91 1 = some 1 := by kernel_rfl
@[go_sem] theorem fpA_91_1 : fpA Tryz.prog 91 1 = some (1, false, 1) := by kernel_rfl
@[go_sem] theorem plA_91_1 : plA Tryz.prog 91 1 = some (1, 1) := by kernel_rfl
@[go_sem] theorem partTy_91_1 : partTy Tryz.prog 91 1 = 3 := by kernel_rfl
@[go_sem] theorem fldA_91_2 : fldA Tryz.prog 91 2 = some 2 := by kernel_rfl
@[go_sem] theorem fpA_91_2 : fpA Tryz.prog 91 2 = some (2, false, 1) := by kernel_rfl
@[go_sem] theorem plA_91_2 : plA Tryz.prog 91 2 = some (2, 1) := by kernel_rfl
@[go_sem] theorem partTy_91_2 : partTy Tryz.prog 91 2 = 4 := by kernel_rfl
@[go_sem] theorem tyA_105 : tyA Tryz.prog 105 = some (true, 3) := by kernel_rfl
@[go_sem] theorem bytesA_105 : bytesA Tryz.prog 105 = false := by kernel_rfl
@[go_sem] theorem knownA_105 : knownA Tryz.prog 105 = true := by kernel_rfl
@[go_sem] theorem concA_105 : concA Tryz.prog 105 = true := by kernel_rfl
@[go_sem] theorem ikA_105 : ikA Tryz.prog 105 = none := by kernel_rfl
@[go_sem] theorem bldT_105 : bldT Tryz.prog 105 = none := by kernel_rfl
@[go_sem] theorem zeroA_105 : zeroA Tryz.prog 105 = some [.raw .nilFunc, .raw .nilFunc, .raw .nilFunc] := by kernel_rfl
@[go_sem] theorem slA_105 : slA Tryz.prog 105 = none := by kernel_rfl
@[go_sem] theorem arA_105 : arA Tryz.prog 105 = some (3, 1) := by kernel_rfl
@[go_sem] theorem avA_105 : avA Tryz.prog 105 = some (3, false, 1) := by kernel_rfl
@[go_sem] theorem fsOk_105 : fsOk Tryz.prog 105 = true := by kernel_rfl
@[go_sem] theorem plA_105_0 : plA Tryz.prog 105 0 = some (0, 1) := by kernel_rfl
@[go_sem] theorem partTy_105_0 : partTy Tryz.prog 105 0 = 40 := by kernel_rfl
@[go_sem] theorem plA_105_1 : plA Tryz.prog 105 1 = some (1, 1) := by kernel_rfl
@[go_sem] theorem partTy_105_1 : partTy Tryz.prog 105 1 = 40 := by kernel_rfl
@[go_sem] theorem plA_105_2 : plA Tryz.prog 105 2 = some (2, 1) := by kernel_rfl
@[go_sem] theorem partTy_105_2 : partTy Tryz.prog 105 2 = 40 := by kernel_rfl
@[go_sem] theorem tyA_106 : tyA Tryz.prog 106 = some (true, 2) := by kernel_rfl
@[go_sem] theorem bytesA_106 : bytesA Tryz.prog 106 = false := by kernel_rfl
@[go_sem] theorem knownA_106 : knownA Tryz.prog 106 = true := by kernel_rfl
@[go_sem] theorem concA_106 : concA Tryz.prog 106 = true := by kernel_rfl
@[go_sem] theorem ikA_106 : ikA Tryz.prog 106 = none := by kernel_rfl
@[go_sem] theorem bldT_106 : bldT Tryz.prog 106 = none := by kernel_rfl
@[go_sem] theorem zeroA_106 : zeroA Tryz.prog 106 = some [.int .i64 0, .int .i64 0] := by kernel_rfl
@[go_sem] theorem slA_106 : slA Tryz.prog 106 = none := by kernel_rfl
@[go_sem] theorem eqKs_106 : eqKs Tryz.prog 106 = some [.int .i64, .int .i64] := by kernel_rfl
@[go_sem] theorem arA_106 : arA Tryz.prog 106 = some (2, 1) := by kernel_rfl
@[go_sem] theorem avA_106 : avA Tryz.prog 106 = some (2, false, 1) := by kernel_rfl
@[go_sem] theorem fsOk_106 : fsOk Tryz.prog 106 = true := by kernel_rfl
@[go_sem] theorem plA_106_0 : plA Tryz.prog 106 0 = some (0, 1) := by kernel_rfl
@[go_sem] theorem partTy_106_0 : partTy Tryz.prog 106 0 = 3 := by kernel_rfl
@[go_sem] theorem plA_106_1 : plA Tryz.prog 106 1 = some (1, 1) := by kernel_rfl
@[go_sem] theorem partTy_106_1 : partTy Tryz.prog 106 1 = 3 := by kernel_rfl
@[go_sem] theorem tyA_107 : tyA Tryz.prog 107 = some (true, 18) := by kernel_rfl
@[go_sem] theorem bytesA_107 : bytesA Tryz.prog 107 = false := by kernel_rfl
@[go_sem] theorem knownA_107 : knownA Tryz.prog 107 = true := by kernel_rfl
@[go_sem] theorem concA_107 : concA Tryz.prog 107 = true := by kernel_rfl
@[go_sem] theorem ikA_107 : ikA Tryz.prog 107 = none := by kernel_rfl
@[go_sem] theorem bldT_107 : bldT Tryz.prog 107 = none := by kernel_rfl
@[go_sem] theorem zeroA_107 : zeroA Tryz.prog 107 = some [.int .i64 0, .int .i64 0, .int .i64 0, .int .i64 0, .int .i64 0, .int .i64 0, .int .i64 0, .int .i64 0, .int .i64 0, .int .i64 0, .int .i64 0, .int .i64 0, .int .i64 0, .int .i64 0, .int .i64 0, .int .i64 0, .int .i64 0, .int .i64 0] := by kernel_rfl
@[go_sem] theorem slA_107 : slA Tryz.prog 107 = none := by kernel_rfl
@[go_sem] theorem arA_107 : arA Tryz.prog 107 = some (9, 2) := by kernel_rfl
@[go_sem] theorem avA_107 : avA Tryz.prog 107 = some (9, true, 2) := by kernel_rfl
@[go_sem] theorem fsOk_107 : fsOk Tryz.prog 107 = true := by kernel_rfl
@[go_sem] theorem plA_107_0 : plA Tryz.prog 107 0 = some (0, 2) := by kernel_rfl
@[go_sem] theorem partTy_107_0 : partTy Tryz.prog 107 0 = 106 := by kernel_rfl
@[go_sem] theorem plA_107_1 : plA Tryz.prog 107 1 = some (2, 2) := by kernel_rfl
@[go_sem] theorem partTy_107_1 : partTy Tryz.prog 107 1 = 106 := by kernel_rfl
@[go_sem] theorem plA_107_2 : plA Tryz.prog 107 2 = some (4, 2) := by kernel_rfl
@[go_sem] theorem partTy_107_2 : partTy Tryz.prog 107 2 = 106 := by kernel_rfl
@[go_sem] theorem plA_107_3 : plA Tryz.prog 107 3 = some (6, 2) := by kernel_rfl
@[go_sem] theorem partTy_107_3 : partTy Tryz.prog 107 3 = 106 := by kernel_rfl
@[go_sem] theorem plA_107_4 : plA Tryz.prog 107 4 = some (8, 2) := by kernel_rfl
@[go_sem] theorem partTy_107_4 : partTy Tryz.prog 107 4 = 106 := by kernel_rfl
@[go_sem] theorem plA_107_5 : plA Tryz.prog 107 5 = some (10, 2) := by kernel_rfl
@[go_sem] theorem partTy_107_5 : partTy Tryz.prog 107 5 = 106 := by kernel_rfl
@[go_sem] theorem plA_107_6 : plA Tryz.prog 107 6 = some (12, 2) := by kernel_rfl
@[go_sem] theorem partTy_107_6 : partTy Tryz.prog 107 6 = 106 := by kernel_rfl
@[go_sem] theorem plA_107_7 : plA Tryz.prog 107 7 = some (14, 2) := by kernel_rfl
@[go_sem] theorem partTy_107_7 : partTy Tryz.prog 107 7 = 106 := by kernel_rfl
@[go_sem] theorem plA_107_8 : plA Tryz.prog 107 8 = some (16, 2) := by kernel_rfl
@[go_sem] theorem partTy_107_8 : partTy Tryz.prog 107 8 = 106 := by kernel_rfl
@[go_sem] theorem tyA_108 : tyA Tryz.prog 108 = some (true, 9) := by kernel_rfl
@[go_sem] theorem bytesA_108 : bytesA Tryz.prog 108 = false := by kernel_rfl
@[go_sem] theorem knownA_108 : knownA Tryz.prog 108 = true := by kernel_rfl
@[go_sem] theorem concA_108 : concA Tryz.prog 108 = true := by kernel_rfl
@[go_sem] theorem ikA_108 : ikA Tryz.prog 108 = none := by kernel_rfl
@[go_sem] theorem bldT_108 : bldT Tryz.prog 108 = none := by kernel_rfl
@[go_sem] theorem zeroA_108 : zeroA Tryz.prog 108 = some [.int .i64 0, .int .i64 0, .int .i64 0, .int .i64 0, .int .i64 0, .int .i64 0, .int .i64 0, .int .i64 0, .int .i64 0] := by kernel_rfl
@[go_sem] theorem slA_108 : slA Tryz.prog 108 = none := by kernel_rfl
@[go_sem] theorem eqKs_108 : eqKs Tryz.prog 108 = some [.int .i64, .int .i64, .int .i64, .int .i64, .int .i64, .int .i64, .int .i64, .int .i64, .int .i64] := by kernel_rfl
@[go_sem] theorem arA_108 : arA Tryz.prog 108 = some (9, 1) := by kernel_rfl
@[go_sem] theorem avA_108 : avA Tryz.prog 108 = some (9, false, 1) := by kernel_rfl
@[go_sem] theorem fsOk_108 : fsOk Tryz.prog 108 = true := by kernel_rfl
@[go_sem] theorem plA_108_0 : plA Tryz.prog 108 0 = some (0, 1) := by kernel_rfl
@[go_sem] theorem partTy_108_0 : partTy Tryz.prog 108 0 = 3 := by kernel_rfl
@[go_sem] theorem plA_108_1 : plA Tryz.prog 108 1 = some (1, 1) := by kernel_rfl
@[go_sem] theorem partTy_108_1 : partTy Tryz.prog 108 1 = 3 := by kernel_rfl
@[go_sem] theorem plA_108_2 : plA Tryz.prog 108 2 = some (2, 1) := by kernel_rfl
@[go_sem] theorem partTy_108_2 : partTy Tryz.prog 108 2 = 3 := by kernel_rfl
@[go_sem] theorem plA_108_3 : plA Tryz.prog 108 3 = some (3, 1) := by kernel_rfl
@[go_sem] theorem partTy_108_3 : partTy Tryz.prog 108 3 = 3 := by kernel_rfl
@[go_sem] theorem plA_108_4 : plA Tryz.prog 108 4 = some (4, 1) := by kernel_rfl
@[go_sem] theorem partTy_108_4 : partTy Tryz.prog 108 4 = 3 := by kernel_rfl
@[go_sem] theorem plA_108_5 : plA Tryz.prog 108 5 = some (5, 1) := by kernel_rfl
@[go_sem] theorem partTy_108_5 : partTy Tryz.prog 108 5 = 3 := by kernel_rfl
@[go_sem] theorem plA_108_6 : plA Tryz.prog 108 6 = some (6, 1) := by kernel_rfl
@[go_sem] theorem partTy_108_6 : partTy Tryz.prog 108 6 = 3 := by kernel_rfl
@[go_sem] theorem plA_108_7 : plA Tryz.prog 108 7 = some (7, 1) := by kernel_rfl
@[go_sem] theorem partTy_108_7 : partTy Tryz.prog 108 7 = 3 := by kernel_rfl
@[go_sem] theorem plA_108_8 : plA Tryz.prog 108 8 = some (8, 1) := by kernel_rfl
@[go_sem] theorem partTy_108_8 : partTy Tryz.prog 108 8 = 3 := by kernel_rfl
@[go_sem] theorem tyA_112 : tyA Tryz.prog 112 = some (false, 1) := by kernel_rfl
@[go_sem] theorem bytesA_112 : bytesA Tryz.prog 112 = false := by kernel_rfl
@[go_sem] theorem knownA_112 : knownA Tryz.prog 112 = true := by kernel_rfl
@[go_sem] theorem concA_112 : concA Tryz.prog 112 = true := by kernel_rfl
@[go_sem] theorem ikA_112 : ikA Tryz.prog 112 = none := by kernel_rfl
@[go_sem] theorem bldT_112 : bldT Tryz.prog 112 = none := by kernel_rfl
@[go_sem] theorem zeroA_112 : zeroA Tryz.prog 112 = some [.raw (.pointer none)] := by kernel_rfl
@[go_sem] theorem slA_112 : slA Tryz.prog 112 = none := by kernel_rfl
@[go_sem] theorem tyA_121 : tyA Tryz.prog 121 = some (false, 1) := by kernel_rfl
@[go_sem] theorem bytesA_121 : bytesA Tryz.prog 121 = false := by kernel_rfl
@[go_sem] theorem knownA_121 : knownA Tryz.prog 121 = true := by kernel_rfl
@[go_sem] theorem concA_121 : concA Tryz.prog 121 = true := by kernel_rfl
@[go_sem] theorem ikA_121 : ikA Tryz.prog 121 = none := by kernel_rfl
@[go_sem] theorem bldT_121 : bldT Tryz.prog 121 = none := by kernel_rfl
@[go_sem] theorem zeroA_121 : zeroA Tryz.prog 121 = some [.raw .nilFunc] := by kernel_rfl
@[go_sem] theorem slA_121 : slA Tryz.prog 121 = none := by kernel_rfl
@[go_sem] theorem fsOk_123 : fsOk Tryz.prog 123 = true := by kernel_rfl
@[go_sem] theorem eqKs_123 : eqKs Tryz.prog 123 = some [.int .i64, .int .i64, .int .i64, .int .i64] := by kernel_rfl
@[go_sem] theorem tyA_124 : tyA Tryz.prog 124 = some (true, 4) := by kernel_rfl
@[go_sem] theorem bytesA_124 : bytesA Tryz.prog 124 = false := by kernel_rfl
@[go_sem] theorem knownA_124 : knownA Tryz.prog 124 = true := by kernel_rfl
@[go_sem] theorem concA_124 : concA Tryz.prog 124 = true := by kernel_rfl
@[go_sem] theorem ikA_124 : ikA Tryz.prog 124 = none := by kernel_rfl
@[go_sem] theorem bldT_124 : bldT Tryz.prog 124 = none := by kernel_rfl
@[go_sem] theorem zeroA_124 : zeroA Tryz.prog 124 = some [.int .i64 0, .int .i64 0, .int .i64 0, .int .i64 0] := by kernel_rfl
@[go_sem] theorem slA_124 : slA Tryz.prog 124 = none := by kernel_rfl
@[go_sem] theorem fsOk_124 : fsOk Tryz.prog 124 = true := by kernel_rfl
@[go_sem] theorem fldA_124_0 : fldA Tryz.prog 124 0 = some 0 := by kernel_rfl
@[go_sem] theorem fpA_124_0 : fpA Tryz.prog 124 0 = some (0, false, 1) := by kernel_rfl
@[go_sem] theorem plA_124_0 : plA Tryz.prog 124 0 = some (0, 1) := by kernel_rfl
@[go_sem] theorem partTy_124_0 : partTy Tryz.prog 124 0 = 3 := by kernel_rfl
@[go_sem] theorem fldA_124_1 : fldA Tryz.prog 124 1 = some 1 := by kernel_rfl
@[go_sem] theorem fpA_124_1 : fpA Tryz.prog 124 1 = some (1, false, 1) := by kernel_rfl
@[go_sem] theorem plA_124_1 : plA Tryz.prog 124 1 = some (1, 1) := by kernel_rfl
@[go_sem] theorem partTy_124_1 : partTy Tryz.prog 124 1 = 3 := by kernel_rfl
@[go_sem] theorem fldA_124_2 : fldA Tryz.prog 124 2 = some 2 := by kernel_rfl
@[go_sem] theorem fpA_124_2 : fpA Tryz.prog 124 2 = some (2, false, 1) := by kernel_rfl
@[go_sem] theorem plA_124_2 : plA Tryz.prog 124 2 = some (2, 1) := by kernel_rfl
@[go_sem] theorem partTy_124_2 : partTy Tryz.prog 124 2 = 3 := by kernel_rfl
@[go_sem] theorem fldA_124_3 : fldA Tryz.prog 124 3 = some 3 := by kernel_rfl
@[go_sem] theorem fpA_124_3 : fpA Tryz.prog 124 3 = some (3, false, 1) := by kernel_rfl
@[go_sem] theorem plA_124_3 : plA Tryz.prog 124 3 = some (3, 1) := by kernel_rfl
@[go_sem] theorem partTy_124_3 : partTy Tryz.prog 124 3 = 3 := by kernel_rfl
@[go_sem] theorem eqKs_124 : eqKs Tryz.prog 124 = some [.int .i64, .int .i64, .int .i64, .int .i64] := by kernel_rfl
@[go_sem] theorem tyA_127 : tyA Tryz.prog 127 = some (false, 1) := by kernel_rfl
@[go_sem] theorem bytesA_127 : bytesA Tryz.prog 127 = false := by kernel_rfl
@[go_sem] theorem knownA_127 : knownA Tryz.prog 127 = true := by kernel_rfl
@[go_sem] theorem concA_127 : concA Tryz.prog 127 = true := by kernel_rfl
@[go_sem] theorem ikA_127 : ikA Tryz.prog 127 = none := by kernel_rfl
@[go_sem] theorem slB_127 : slB Tryz.prog 127 = true := by kernel_rfl
@[go_sem] theorem bldT_127 : bldT Tryz.prog 127 = none := by kernel_rfl
@[go_sem] theorem zeroA_127 : zeroA Tryz.prog 127 = some [.sl 2 [] .nil] := by kernel_rfl
@[go_sem] theorem slA_127 : slA Tryz.prog 127 = some 2 := by kernel_rfl
@[go_sem] theorem mkA_127 : mkA Tryz.prog 127 = some ([.int .i64 0, .int .i64 0], 16) := by kernel_rfl
@[go_sem] theorem apA_127 : apA Tryz.prog 127 = some (2, 16) := by kernel_rfl
@[go_sem] theorem partTy_127 (i : Nat) : partTy Tryz.prog 127 i = 106 := rfl_of_partTy (by kernel_rfl)
@[go_sem] theorem fsOk_130 : fsOk Tryz.prog 130 = true := by kernel_rfl
@[go_sem] theorem eqKs_130 : eqKs Tryz.prog 130 = some [.int .i64, .int .i64] := by kernel_rfl
@[go_sem] theorem tyA_131 : tyA Tryz.prog 131 = some (true, 2) := by kernel_rfl
@[go_sem] theorem bytesA_131 : bytesA Tryz.prog 131 = false := by kernel_rfl
@[go_sem] theorem knownA_131 : knownA Tryz.prog 131 = true := by kernel_rfl
@[go_sem] theorem concA_131 : concA Tryz.prog 131 = true := by kernel_rfl
@[go_sem] theorem ikA_131 : ikA Tryz.prog 131 = none := by kernel_rfl
@[go_sem] theorem bldT_131 : bldT Tryz.prog 131 = none := by kernel_rfl
@[go_sem] theorem zeroA_131 : zeroA Tryz.prog 131 = some [.int .i64 0, .int .i64 0] := by kernel_rfl
@[go_sem] theorem slA_131 : slA Tryz.prog 131 = none := by kernel_rfl
@[go_sem] theorem fsOk_131 : fsOk Tryz.prog 131 = true := by kernel_rfl
@[go_sem] theorem fldA_131_0 : fldA Tryz.prog 131 0 = some 0 := by kernel_rfl
@[go_sem] theorem fpA_131_0 : fpA Tryz.prog 131 0 = some (0, false, 1) := by kernel_rfl
@[go_sem] theorem plA_131_0 : plA Tryz.prog 131 0 = some (0, 1) := by kernel_rfl
@[go_sem] theorem partTy_131_0 : partTy Tryz.prog 131 0 = 3 := by kernel_rfl
@[go_sem] theorem fldA_131_1 : fldA Tryz.prog 131 1 = some 1 := by kernel_rfl
@[go_sem] theorem fpA_131_1 : fpA Tryz.prog 131 1 = some (1, false, 1) := by kernel_rfl
@[go_sem] theorem plA_131_1 : plA Tryz.prog 131 1 = some (1, 1) := by kernel_rfl
@[go_sem] theorem partTy_131_1 : partTy Tryz.prog 131 1 = 3 := by kernel_rfl
@[go_sem] theorem eqKs_131 : eqKs Tryz.prog 131 = some [.int .i64, .int .i64] := by kernel_rfl
@[go_sem] theorem tyA_143 : tyA Tryz.prog 143 = some (false, 1) := by kernel_rfl
@[go_sem] theorem bytesA_143 : bytesA Tryz.prog 143 = true := by kernel_rfl
@[go_sem] theorem knownA_143 : knownA Tryz.prog 143 = true := by kernel_rfl
@[go_sem] theorem concA_143 : concA Tryz.prog 143 = true := by kernel_rfl
@[go_sem] theorem ikA_143 : ikA Tryz.prog 143 = none := by kernel_rfl
@[go_sem] theorem slB_143 : slB Tryz.prog 143 = true := by kernel_rfl
@[go_sem] theorem bldT_143 : bldT Tryz.prog 143 = none := by kernel_rfl
@[go_sem] theorem zeroA_143 : zeroA Tryz.prog 143 = some [.sl 1 [] .nil] := by kernel_rfl
@[go_sem] theorem slA_143 : slA Tryz.prog 143 = some 1 := by kernel_rfl
@[go_sem] theorem mkA_143 : mkA Tryz.prog 143 = some ([.int .u8 0], 1) := by kernel_rfl
@[go_sem] theorem apA_143 : apA Tryz.prog 143 = some (1, 1) := by kernel_rfl
@[go_sem] theorem partTy_143 (i : Nat) : partTy Tryz.prog 143 i = 5 := rfl_of_partTy (by kernel_rfl)
@[go_sem] theorem tyA_146 : tyA Tryz.prog 146 = some (false, 1) := by kernel_rfl
@[go_sem] theorem bytesA_146 : bytesA Tryz.prog 146 = false := by kernel_rfl
@[go_sem] theorem knownA_146 : knownA Tryz.prog 146 = true := by kernel_rfl
@[go_sem] theorem concA_146 : concA Tryz.prog 146 = true := by kernel_rfl
@[go_sem] theorem ikA_146 : ikA Tryz.prog 146 = none := by kernel_rfl
@[go_sem] theorem bldT_146 : bldT Tryz.prog 146 = none := by kernel_rfl
@[go_sem] theorem zeroA_146 : zeroA Tryz.prog 146 = some [.raw (.map none)] := by kernel_rfl
@[go_sem] theorem slA_146 : slA Tryz.prog 146 = none := by kernel_rfl
@[go_sem] theorem fsOk_147 : fsOk Tryz.prog 147 = true := by kernel_rfl
@[go_sem] theorem eqKs_147 : eqKs Tryz.prog 147 = some [.int .i64, .int .i64] := by kernel_rfl
@[go_sem] theorem tyA_148 : tyA Tryz.prog 148 = some (true, 2) := by kernel_rfl
@[go_sem] theorem bytesA_148 : bytesA Tryz.prog 148 = false := by kernel_rfl
@[go_sem] theorem knownA_148 : knownA Tryz.prog 148 = true := by kernel_rfl
@[go_sem] theorem concA_148 : concA Tryz.prog 148 = true := by kernel_rfl
@[go_sem] theorem ikA_148 : ikA Tryz.prog 148 = none := by kernel_rfl
@[go_sem] theorem bldT_148 : bldT Tryz.prog 148 = none := by kernel_rfl
@[go_sem] theorem zeroA_148 : zeroA Tryz.prog 148 = some [.int .i64 0, .int .i64 0] := by kernel_rfl
@[go_sem] theorem slA_148 : slA Tryz.prog 148 = none := by kernel_rfl
@[go_sem] theorem fsOk_148 : fsOk Tryz.prog 148 = true := by kernel_rfl
@[go_sem] theorem fldA_148_0 : fldA Tryz.prog 148 0 = some 0 := by kernel_rfl
@[go_sem] theorem fpA_148_0 : fpA Tryz.prog 148 0 = some (0, false, 1) := by kernel_rfl
@[go_sem] theorem plA_148_0 : plA Tryz.prog 148 0 = some (0, 1) := by kernel_rfl
@[go_sem] theorem partTy_148_0 : partTy Tryz.prog 148 0 = 3 := by kernel_rfl
@[go_sem] theorem fldA_148_1 : fldA Tryz.prog 148 1 = some 1 := by kernel_rfl
@[go_sem] theorem fpA_148_1 : fpA Tryz.prog 148 1 = some (1, false, 1) := by kernel_rfl
@[go_sem] theorem plA_148_1 : plA Tryz.prog 148 1 = some (1, 1) := by kernel_rfl
@[go_sem] theorem partTy_148_1 : partTy Tryz.prog 148 1 = 3 := by kernel_rfl
@[go_sem] theorem eqKs_148 : eqKs Tryz.prog 148 = some [.int .i64, .int .i64] := by kernel_rfl
@[go_sem] theorem fsOk_153 : fsOk Tryz.prog 153 = true := by kernel_rfl
@[go_sem] theorem tyA_154 : tyA Tryz.prog 154 = some (true, 8) := by kernel_rfl
@[go_sem] theorem bytesA_154 : bytesA Tryz.prog 154 = false := by kernel_rfl
@[go_sem] theorem knownA_154 : knownA Tryz.prog 154 = true := by kernel_rfl
@[go_sem] theorem concA_154 : concA Tryz.prog 154 = true := by kernel_rfl
@[go_sem] theorem ikA_154 : ikA Tryz.prog 154 = none := by kernel_rfl
@[go_sem] theorem bldT_154 : bldT Tryz.prog 154 = none := by kernel_rfl
@[go_sem] theorem zeroA_154 : zeroA Tryz.prog 154 = some [.sl 1 [] .nil, .sl 7 [] .nil, .sl 4 [] .nil, .sl 2 [] .nil, .sl 2 [] .nil, .int .i64 0, .sl 3 [] .nil, .sl 1 [] .nil] := by kernel_rfl
@[go_sem] theorem slA_154 : slA Tryz.prog 154 = none := by kernel_rfl
@[go_sem] theorem fsOk_154 : fsOk Tryz.prog 154 = true := by kernel_rfl
@[go_sem] theorem fldA_154_0 : fldA Tryz.prog 154 0 = some 0 := by kernel_rfl
@[go_sem] theorem fpA_154_0 : fpA Tryz.prog 154 0 = some (0, true, 5) := by kernel_rfl
@[go_sem] theorem plA_154_0 : plA Tryz.prog 154 0 = some (0, 5) := by kernel_rfl
@[go_sem] theorem partTy_154_0 : partTy Tryz.prog 154 0 = 28 := by kernel_rfl
@[go_sem] theorem fldA_154_1 : fldA Tryz.prog 154 1 = some 5 := by kernel_rfl
@[go_sem] theorem fpA_154_1 : fpA Tryz.prog 154 1 = some (5, false, 1) := by kernel_rfl
@[go_sem] theorem plA_154_1 : plA Tryz.prog 154 1 = some (5, 1) := by kernel_rfl
@[go_sem] theorem partTy_154_1 : partTy Tryz.prog 154 1 = 3 := by kernel_rfl
@[go_sem] theorem fldA_154_2 : fldA Tryz.prog 154 2 = some 6 := by kernel_rfl
@[go_sem] theorem fpA_154_2 : fpA Tryz.prog 154 2 = some (6, false, 1) := by kernel_rfl
@[go_sem] theorem plA_154_2 : plA Tryz.prog 154 2 = some (6, 1) := by kernel_rfl
@[go_sem] theorem partTy_154_2 : partTy Tryz.prog 154 2 = 42 := by kernel_rfl
@[go_sem] theorem fldA_154_3 : fldA Tryz.prog 154 3 = some 7 := by kernel_rfl
@[go_sem] theorem fpA_154_3 : fpA Tryz.prog 154 3 = some (7, false, 1) := by kernel_rfl
@[go_sem] theorem plA_154_3 : plA Tryz.prog 154 3 = some (7, 1) := by kernel_rfl
@[go_sem] theorem partTy_154_3 : partTy Tryz.prog 154 3 = 33 := by kernel_rfl
@[go_sem] theorem tyA_156 : tyA Tryz.prog 156 = some (false, 1) := by kernel_rfl
@[go_sem] theorem bytesA_156 : bytesA Tryz.prog 156 = false := by kernel_rfl
@[go_sem] theorem knownA_156 : knownA Tryz.prog 156 = true := by kernel_rfl
@[go_sem] theorem concA_156 : concA Tryz.prog 156 = true := by kernel_rfl
@[go_sem] theorem ikA_156 : ikA Tryz.prog 156 = none := by kernel_rfl
@[go_sem] theorem bldT_156 : bldT Tryz.prog 156 = none := by kernel_rfl
@[go_sem] theorem zeroA_156 : zeroA Tryz.prog 156 = some [.raw .nilFunc] := by kernel_rfl
@[go_sem] theorem slA_156 : slA Tryz.prog 156 = none := by kernel_rfl
@[go_sem] theorem tyA_157 : tyA Tryz.prog 157 = some (false, 1) := by kernel_rfl
@[go_sem] theorem bytesA_157 : bytesA Tryz.prog 157 = false := by kernel_rfl
@[go_sem] theorem knownA_157 : knownA Tryz.prog 157 = true := by kernel_rfl
@[go_sem] theorem concA_157 : concA Tryz.prog 157 = true := by kernel_rfl
@[go_sem] theorem ikA_157 : ikA Tryz.prog 157 = none := by kernel_rfl
@[go_sem] theorem bldT_157 : bldT Tryz.prog 157 = none := by kernel_rfl
@[go_sem] theorem zeroA_157 : zeroA Tryz.prog 157 = some [.raw (.pointer none)] := by kernel_rfl
@[go_sem] theorem slA_157 : slA Tryz.prog 157 = none := by kernel_rfl
@[go_sem] theorem fsOk_158 : fsOk Tryz.prog 158 = true := by kernel_rfl
@[go_sem] theorem tyA_159 : tyA Tryz.prog 159 = some (true, 8) := by kernel_rfl
@[go_sem] theorem bytesA_159 : bytesA Tryz.prog 159 = false := by kernel_rfl
@[go_sem] theorem knownA_159 : knownA Tryz.prog 159 = true := by kernel_rfl
@[go_sem] theorem concA_159 : concA Tryz.prog 159 = true := by kernel_rfl
@[go_sem] theorem ikA_159 : ikA Tryz.prog 159 = none := by kernel_rfl
@[go_sem] theorem bldT_159 : bldT Tryz.prog 159 = none := by kernel_rfl
@[go_sem] theorem zeroA_159 : zeroA Tryz.prog 159 = some [.sl 1 [] .nil, .sl 7 [] .nil, .sl 4 [] .nil, .sl 2 [] .nil, .sl 2 [] .nil, .sl 3 [] .nil, .int .i64 0, .bool false] := by kernel_rfl
@[go_sem] theorem slA_159 : slA Tryz.prog 159 = none := by kernel_rfl
@[go_sem] theorem fsOk_159 : fsOk Tryz.prog 159 = true := by kernel_rfl
@[go_sem] theorem fldA_159_0 : fldA Tryz.prog 159 0 = some 0 := by kernel_rfl
@[go_sem] theorem fpA_159_0 : fpA Tryz.prog 159 0 = some (0, true, 5) := by kernel_rfl
@[go_sem] theorem plA_159_0 : plA Tryz.prog 159 0 = some (0, 5) := by kernel_rfl
@[go_sem] theorem partTy_159_0 : partTy Tryz.prog 159 0 = 28 := by kernel_rfl
@[go_sem] theorem fldA_159_1 : fldA Tryz.prog 159 1 = some 5 := by kernel_rfl
@[go_sem] theorem fpA_159_1 : fpA Tryz.prog 159 1 = some (5, false, 1) := by kernel_rfl
@[go_sem] theorem plA_159_1 : plA Tryz.prog 159 1 = some (5, 1) := by kernel_rfl
@[go_sem] theorem partTy_159_1 : partTy Tryz.prog 159 1 = 42 := by kernel_rfl
@[go_sem] theorem fldA_159_2 : fldA Tryz.prog 159 2 = some 6 := by kernel_rfl
@[go_sem] theorem fpA_159_2 : fpA Tryz.prog 159 2 = some (6, false, 1) := by kernel_rfl
@[go_sem] theorem plA_159_2 : plA Tryz.prog 159 2 = some (6, 1) := by kernel_rfl
@[go_sem] theorem partTy_159_2 : partTy Tryz.prog 159 2 = 3 := by kernel_rfl
@[go_sem] theorem fldA_159_3 : fldA Tryz.prog 159 3 = some 7 := by kernel_rfl
@[go_sem] theorem fpA_159_3 : fpA Tryz.prog 159 3 = some (7, false, 1) := by kernel_rfl
@[go_sem] theorem plA_159_3 : plA Tryz.prog 159 3 = some (7, 1) := by kernel_rfl
@[go_sem] theorem partTy_159_3 : partTy Tryz.prog 159 3 = 4 := by kernel_rfl
@[go_sem] theorem tyA_161 : tyA Tryz.prog 161 = some (false, 1) := by kernel_rfl
@[go_sem] theorem bytesA_161 : bytesA Tryz.prog 161 = false := by kernel_rfl
@[go_sem] theorem knownA_161 : knownA Tryz.prog 161 = true := by kernel_rfl
@[go_sem] theorem concA_161 : concA Tryz.prog 161 = true := by kernel_rfl
@[go_sem] theorem ikA_161 : ikA Tryz.prog 161 = none := by kernel_rfl
@[go_sem] theorem bldT_161 : bldT Tryz.prog 161 = none := by kernel_rfl
@[go_sem] theorem zeroA_161 : zeroA Tryz.prog 161 = some [.raw (.pointer none)] := by kernel_rfl
@[go_sem] theorem slA_161 : slA Tryz.prog 161 = none := by kernel_rfl
@[go_sem] theorem tyA_162 : tyA Tryz.prog 162 = some (false, 1) := by kernel_rfl
@[go_sem] theorem bytesA_162 : bytesA Tryz.prog 162 = false := by kernel_rfl
@[go_sem] theorem knownA_162 : knownA Tryz.prog 162 = true := by kernel_rfl
@[go_sem] theorem concA_162 : concA Tryz.prog 162 = true := by kernel_rfl
@[go_sem] theorem ikA_162 : ikA Tryz.prog 162 = none := by kernel_rfl
@[go_sem] theorem bldT_162 : bldT Tryz.prog 162 = none := by kernel_rfl
@[go_sem] theorem zeroA_162 : zeroA Tryz.prog 162 = some [.raw (.map none)] := by kernel_rfl
@[go_sem] theorem slA_162 : slA Tryz.prog 162 = none := by kernel_rfl
@[go_sem] theorem fsOk_163 : fsOk Tryz.prog 163 = true := by kernel_rfl
@[go_sem] theorem tyA_164 : tyA Tryz.prog 164 = some (true, 11) := by kernel_rfl
@[go_sem] theorem bytesA_164 : bytesA Tryz.prog 164 = false := by kernel_rfl
@[go_sem] theorem knownA_164 : knownA Tryz.prog 164 = true := by kernel_rfl
@[go_sem] theorem concA_164 : concA Tryz.prog 164 = true := by kernel_rfl
@[go_sem] theorem ikA_164 : ikA Tryz.prog 164 = none := by kernel_rfl
@[go_sem] theorem bldT_164 : bldT Tryz.prog 164 = none := by kernel_rfl
@[go_sem] theorem zeroA_164 : zeroA Tryz.prog 164 = some [.sl 1 [] .nil, .sl 7 [] .nil, .sl 4 [] .nil, .sl 2 [] .nil, .sl 2 [] .nil, .int .i64 0, .int .i64 0, .sl 3 [] .nil, .sl 3 [] .nil, .sl 4 [] .nil, .raw (.map none)] := by kernel_rfl
@[go_sem] theorem slA_164 : slA Tryz.prog 164 = none := by kernel_rfl
@[go_sem] theorem fsOk_164 : fsOk Tryz.prog 164 = true := by kernel_rfl
@[go_sem] theorem fldA_164_0 : fldA Tryz.prog 164 0 = some 0 := by kernel_rfl
@[go_sem] theorem fpA_164_0 : fpA Tryz.prog 164 0 = some (0, true, 5) := by kernel_rfl
@[go_sem] theorem plA_164_0 : plA Tryz.prog 164 0 = some (0, 5) := by kernel_rfl
@[go_sem] theorem partTy_164_0 : partTy Tryz.prog 164 0 = 28 := by kernel_rfl
@[go_sem] theorem fldA_164_1 : fldA Tryz.prog 164 1 = some 5 := by kernel_rfl
@[go_sem] theorem fpA_164_1 : fpA Tryz.prog 164 1 = some (5, true, 3) := by kernel_rfl
@[go_sem] theorem plA_164_1 : plA Tryz.prog 164 1 = some (5, 3) := by kernel_rfl
@[go_sem] theorem partTy_164_1 : partTy Tryz.prog 164 1 = 70 := by kernel_rfl
@[go_sem] theorem fldA_164_2 : fldA Tryz.prog 164 2 = some 8 := by kernel_rfl
@[go_sem] theorem fpA_164_2 : fpA Tryz.prog 164 2 = some (8, false, 1) := by kernel_rfl
@[go_sem] theorem plA_164_2 : plA Tryz.prog 164 2 = some (8, 1) := by kernel_rfl
@[go_sem] theorem partTy_164_2 : partTy Tryz.prog 164 2 = 32 := by kernel_rfl
@[go_sem] theorem fldA_164_3 : fldA Tryz.prog 164 3 = some 9 := by kernel_rfl
@[go_sem] theorem fpA_164_3 : fpA Tryz.prog 164 3 = some (9, false, 1) := by kernel_rfl
@[go_sem] theorem plA_164_3 : plA Tryz.prog 164 3 = some (9, 1) := by kernel_rfl
@[go_sem] theorem partTy_164_3 : partTy Tryz.prog 164 3 = 71 := by kernel_rfl
@[go_sem] theorem fldA_164_4 : fldA Tryz.prog 164 4 = some 10 := by kernel_rfl
@[go_sem] theorem fpA_164_4 : fpA Tryz.prog 164 4 = some (10, false, 1) := by kernel_rfl
@[go_sem] theorem plA_164_4 : plA Tryz.prog 164 4 = some (10, 1) := by kernel_rfl
@[go_sem] theorem partTy_164_4 : partTy Tryz.prog 164 4 = 162 := by kernel_rfl
@[go_sem] theorem tyA_167 : tyA Tryz.prog 167 = some (false, 1) := by kernel_rfl
@[go_sem] theorem bytesA_167 : bytesA Tryz.prog 167 = false := by kernel_rfl
@[go_sem] theorem knownA_167 : knownA Tryz.prog 167 = true := by kernel_rfl
@[go_sem] theorem concA_167 : concA Tryz.prog 167 = true := by kernel_rfl
@[go_sem] theorem ikA_167 : ikA Tryz.prog 167 = none := by kernel_rfl
@[go_sem] theorem bldT_167 : bldT Tryz.prog 167 = none := by kernel_rfl
@[go_sem] theorem zeroA_167 : zeroA Tryz.prog 167 = some [.raw (.map none)] := by kernel_rfl
@[go_sem] theorem slA_167 : slA Tryz.prog 167 = none := by kernel_rfl
@[go_sem] theorem tyA_169 : tyA Tryz.prog 169 = some (false, 1) := by kernel_rfl
@[go_sem] theorem bytesA_169 : bytesA Tryz.prog 169 = false := by kernel_rfl
@[go_sem] theorem knownA_169 : knownA Tryz.prog 169 = true := by kernel_rfl
@[go_sem] theorem concA_169 : concA Tryz.prog 169 = true := by kernel_rfl
@[go_sem] theorem ikA_169 : ikA Tryz.prog 169 = none := by kernel_rfl
@[go_sem] theorem bldT_169 : bldT Tryz.prog 169 = none := by kernel_rfl
@[go_sem] theorem zeroA_169 : zeroA Tryz.prog 169 = some [.raw (.pointer none)] := by kernel_rfl
@[go_sem] theorem slA_169 : slA Tryz.prog 169 = none := by kernel_rfl
@[go_sem] theorem tyA_178 : tyA Tryz.prog 178 = some (false, 1) := by kernel_rfl
@[go_sem] theorem bytesA_178 : bytesA Tryz.prog 178 = false := by kernel_rfl
@[go_sem] theorem knownA_178 : knownA Tryz.prog 178 = true := by kernel_rfl
@[go_sem] theorem concA_178 : concA Tryz.prog 178 = true := by kernel_rfl
@[go_sem] theorem ikA_178 : ikA Tryz.prog 178 = none := by kernel_rfl
@[go_sem] theorem bldT_178 : bldT Tryz.prog 178 = none := by kernel_rfl
@[go_sem] theorem zeroA_178 : zeroA Tryz.prog 178 = some [.raw .nilFunc] := by kernel_rfl
@[go_sem] theorem slA_178 : slA Tryz.prog 178 = none := by kernel_rfl
@[go_sem] theorem tyA_181 : tyA Tryz.prog 181 = some (false, 1) := by kernel_rfl
@[go_sem] theorem bytesA_181 : bytesA Tryz.prog 181 = false := by kernel_rfl
@[go_sem] theorem knownA_181 : knownA Tryz.prog 181 = true := by kernel_rfl
@[go_sem] theorem concA_181 : concA Tryz.prog 181 = true := by kernel_rfl
@[go_sem] theorem ikA_181 : ikA Tryz.prog 181 = none := by kernel_rfl
@[go_sem] theorem bldT_181 : bldT Tryz.prog 181 = none := by kernel_rfl
@[go_sem] theorem zeroA_181 : zeroA Tryz.prog 181 = some [.raw .nilFunc] := by kernel_rfl
@[go_sem] theorem slA_181 : slA Tryz.prog 181 = none := by kernel_rfl
@[go_sem] theorem tyA_183 : tyA Tryz.prog 183 = some (false, 1) := by kernel_rfl
@[go_sem] theorem bytesA_183 : bytesA Tryz.prog 183 = false := by kernel_rfl
@[go_sem] theorem knownA_183 : knownA Tryz.prog 183 = true := by kernel_rfl
@[go_sem] theorem concA_183 : concA Tryz.prog 183 = true := by kernel_rfl
@[go_sem] theorem ikA_183 : ikA Tryz.prog 183 = none := by kernel_rfl
@[go_sem] theorem bldT_183 : bldT Tryz.prog 183 = none := by kernel_rfl
@[go_sem] theorem zeroA_183 : zeroA Tryz.prog 183 = some [.raw .nilFunc] := by kernel_rfl
@[go_sem] theorem slA_183 : slA Tryz.prog 183 = none := by kernel_rfl
@[go_sem] theorem tyA_187 : tyA Tryz.prog 187 = some (false, 1) := by kernel_rfl
@[go_sem] theorem bytesA_187 : bytesA Tryz.prog 187 = false := by kernel_rfl
@[go_sem] theorem knownA_187 : knownA Tryz.prog 187 = true := by kernel_rfl
@[go_sem] theorem concA_187 : concA Tryz.prog 187 = true := by kernel_rfl
@[go_sem] theorem ikA_187 : ikA Tryz.prog 187 = none := by kernel_rfl
@[go_sem] theorem bldT_187 : bldT Tryz.prog 187 = none := by kernel_rfl
@[go_sem] theorem zeroA_187 : zeroA Tryz.prog 187 = some [.raw .nilFunc] := by kernel_rfl
@[go_sem] theorem slA_187 : slA Tryz.prog 187 = none := by kernel_rfl
@[go_sem] theorem tyA_190 : tyA Tryz.prog 190 = some (false, 1) := by kernel_rfl
@[go_sem] theorem bytesA_190 : bytesA Tryz.prog 190 = false := by kernel_rfl
@[go_sem] theorem knownA_190 : knownA Tryz.prog 190 = true := by kernel_rfl
@[go_sem] theorem concA_190 : concA Tryz.prog 190 = true := by kernel_rfl
@[go_sem] theorem ikA_190 : ikA Tryz.prog 190 = none := by kernel_rfl
@[go_sem] theorem bldT_190 : bldT Tryz.prog 190 = none := by kernel_rfl
@[go_sem] theorem zeroA_190 : zeroA Tryz.prog 190 = some [.raw (.map none)] := by kernel_rfl
@[go_sem] theorem slA_190 : slA Tryz.prog 190 = none := by kernel_rfl
@[go_sem] theorem fsOk_191 : fsOk Tryz.prog 191 = true := by kernel_rfl
@[go_sem] theorem tyA_192 : tyA Tryz.prog 192 = some (true, 15) := by kernel_rfl
@[go_sem] theorem bytesA_192 : bytesA Tryz.prog 192 = false := by kernel_rfl
@[go_sem] theorem knownA_192 : knownA Tryz.prog 192 = true := by kernel_rfl
@[go_sem] theorem concA_192 : concA Tryz.prog 192 = true := by kernel_rfl
@[go_sem] theorem ikA_192 : ikA Tryz.prog 192 = none := by kernel_rfl
@[go_sem] theorem bldT_192 : bldT Tryz.prog 192 = none := by kernel_rfl
@[go_sem] theorem zeroA_192 : zeroA Tryz.prog 192 = some [.str [], .int .i64 0, .int .i64 0, .int .i64 0, .int .i64 0, .int .i64 0, .int .i64 0, .int .i64 0, .int .i64 0, .int .i64 0, .sl 3 [] .nil, .sl 1 [] .nil, .int .i64 0, .int .i64 0, .raw (.map none)] := by kernel_rfl
@[go_sem] theorem slA_192 : slA Tryz.prog 192 = none := by kernel_rfl
@[go_sem] theorem fsOk_192 : fsOk Tryz.prog 192 = true := by kernel_rfl
@[go_sem] theorem fldA_192_0 : fldA Tryz.prog 192 0 = some 0 := by kernel_rfl
@[go_sem] theorem fpA_192_0 : fpA Tryz.prog 192 0 = some (0, true, 10) := by kernel_rfl
@[go_sem] theorem plA_192_0 : plA Tryz.prog 192 0 = some (0, 10) := by kernel_rfl
@[go_sem] theorem partTy_192_0 : partTy Tryz.prog 192 0 = 30 := by kernel_rfl
@[go_sem] theorem fldA_192_1 : fldA Tryz.prog 192 1 = some 10 := by kernel_rfl
@[go_sem] theorem fpA_192_1 : fpA Tryz.prog 192 1 = some (10, false, 1) := by kernel_rfl
@[go_sem] theorem plA_192_1 : plA Tryz.prog 192 1 = some (10, 1) := by kernel_rfl
@[go_sem] theorem partTy_192_1 : partTy Tryz.prog 192 1 = 76 := by kernel_rfl
@[go_sem] theorem fldA_192_2 : fldA Tryz.prog 192 2 = some 11 := by kernel_rfl
@[go_sem] theorem fpA_192_2 : fpA Tryz.prog 192 2 = some (11, false, 1) := by kernel_rfl
@[go_sem] theorem plA_192_2 : plA Tryz.prog 192 2 = some (11, 1) := by kernel_rfl
@[go_sem] theorem partTy_192_2 : partTy Tryz.prog 192 2 = 31 := by kernel_rfl
@[go_sem] theorem fldA_192_3 : fldA Tryz.prog 192 3 = some 12 := by kernel_rfl
@[go_sem] theorem fpA_192_3 : fpA Tryz.prog 192 3 = some (12, false, 1) := by kernel_rfl
@[go_sem] theorem plA_192_3 : plA Tryz.prog 192 3 = some (12, 1) := by kernel_rfl
@[go_sem] theorem partTy_192_3 : partTy Tryz.prog 192 3 = 3 := by kernel_rfl
@[go_sem] theorem fldA_192_4 : fldA Tryz.prog 192 4 = some 13 := by kernel_rfl
@[go_sem] theorem fpA_192_4 : fpA Tryz.prog 192 4 = some (13, false, 1) := by kernel_rfl
@[go_sem] theorem plA_192_4 : plA Tryz.prog 192 4 = some (13, 1) := by kernel_rfl
@[go_sem] theorem partTy_192_4 : partTy Tryz.prog 192 4 = 3 := by kernel_rfl
@[go_sem] theorem fldA_192_5 : fldA Tryz.prog 192 5 = some 14 := by kernel_rfl
@[go_sem] theorem fpA_192_5 : fpA Tryz.prog 192 5 = some (14, false, 1) := by kernel_rfl
@[go_sem] theorem plA_192_5 : plA Tryz.prog 192 5 = some (14, 1) := by kernel_rfl
@[go_sem] theorem partTy_192_5 : partTy Tryz.prog 192 5 = 190 := by kernel_rfl
@[go_sem] theorem mapA_146 : mapA Tryz.prog 146 = some (148, .bool false) := by kernel_rfl
@[go_sem] theorem mapA_162 : mapA Tryz.prog 162 = some (60, .bool false) := by kernel_rfl
@[go_sem] theorem mapA_167 : mapA Tryz.prog 167 = some (3, .bool false) := by kernel_rfl
@[go_sem] theorem mapA_190 : mapA Tryz.prog 190 = some (3, .sl 1 [] .nil) := by kernel_rfl
@[go_sem] theorem ckOf_3 : ckOf Tryz.prog 3 = some (.int .i64) := by kernel_rfl
@[go_sem] theorem stA_60 : stA Tryz.prog 60 = some [.int .i64, .int .i64, .int .i64, .int .i64] := by kernel_rfl
@[go_sem] theorem stA_148 : stA Tryz.prog 148 = some [.int .i64, .int .i64] := by kernel_rfl
@[go_sem] theorem bodyOk_3 : bodyOk Tryz.prog 3 = true := by kernel_rfl
@[go_sem] theorem bodyOk_4 : bodyOk Tryz.prog 4 = true := by kernel_rfl
@[go_sem] theorem bodyOk_5 : bodyOk Tryz.prog 5 = true := by kernel_rfl
@[go_sem] theorem bodyOk_6 : bodyOk Tryz.prog 6 = true := by kernel_rfl
@[go_sem] theorem bodyOk_7 : bodyOk Tryz.prog 7 = true := by kernel_rfl
@[go_sem] theorem bodyOk_8 : bodyOk Tryz.prog 8 = true := by kernel_rfl
@[go_sem] theorem bodyOk_9 : bodyOk Tryz.prog 9 = true := by kernel_rfl
@[go_sem] theorem bodyOk_10 : bodyOk Tryz.prog 10 = true := by kernel_rfl
@[go_sem] theorem bodyOk_11 : bodyOk Tryz.prog 11 = true := by kernel_rfl
@[go_sem] theorem bodyOk_12 : bodyOk Tryz.prog 12 = true := by kernel_rfl
@[go_sem] theorem bodyOk_13 : bodyOk Tryz.prog 13 = true := by kernel_rfl
@[go_sem] theorem bodyOk_14 : bodyOk Tryz.prog 14 = true := by kernel_rfl
@[go_sem] theorem bodyOk_15 : bodyOk Tryz.prog 15 = true := by kernel_rfl
@[go_sem] theorem bodyOk_16 : bodyOk Tryz.prog 16 = true := by kernel_rfl
@[go_sem] theorem bodyOk_17 : bodyOk Tryz.prog 17 = true := by kernel_rfl
@[go_sem] theorem bodyOk_18 : bodyOk Tryz.prog 18 = true := by kernel_rfl
@[go_sem] theorem bodyOk_19 : bodyOk Tryz.prog 19 = true := by kernel_rfl
@[go_sem] theorem bodyOk_20 : bodyOk Tryz.prog 20 = true := by kernel_rfl
@[go_sem] theorem bodyOk_21 : bodyOk Tryz.prog 21 = true := by kernel_rfl
@[go_sem] theorem bodyOk_22 : bodyOk Tryz.prog 22 = true := by kernel_rfl
@[go_sem] theorem bodyOk_23 : bodyOk Tryz.prog 23 = true := by kernel_rfl
@[go_sem] theorem bodyOk_24 : bodyOk Tryz.prog 24 = true := by kernel_rfl
@[go_sem] theorem bodyOk_25 : bodyOk Tryz.prog 25 = true := by kernel_rfl
@[go_sem] theorem bodyOk_26 : bodyOk Tryz.prog 26 = true := by kernel_rfl
@[go_sem] theorem bodyOk_27 : bodyOk Tryz.prog 27 = true := by kernel_rfl
@[go_sem] theorem bodyOk_28 : bodyOk Tryz.prog 28 = true := by kernel_rfl
@[go_sem] theorem bodyOk_29 : bodyOk Tryz.prog 29 = true := by kernel_rfl
@[go_sem] theorem bodyOk_30 : bodyOk Tryz.prog 30 = true := by kernel_rfl
@[go_sem] theorem bodyOk_31 : bodyOk Tryz.prog 31 = true := by kernel_rfl
@[go_sem] theorem bodyOk_32 : bodyOk Tryz.prog 32 = true := by kernel_rfl
@[go_sem] theorem bodyOk_33 : bodyOk Tryz.prog 33 = true := by kernel_rfl
@[go_sem] theorem bodyOk_34 : bodyOk Tryz.prog 34 = true := by kernel_rfl
@[go_sem] theorem bodyOk_35 : bodyOk Tryz.prog 35 = true := by kernel_rfl
@[go_sem] theorem bodyOk_36 : bodyOk Tryz.prog 36 = true := by kernel_rfl
@[go_sem] theorem bodyOk_37 : bodyOk Tryz.prog 37 = true := by kernel_rfl
@[go_sem] theorem bodyOk_38 : bodyOk Tryz.prog 38 = true := by kernel_rfl
@[go_sem] theorem bodyOk_39 : bodyOk Tryz.prog 39 = true := by kernel_rfl
@[go_sem] theorem bodyOk_40 : bodyOk Tryz.prog 40 = true := by kernel_rfl
@[go_sem] theorem bodyOk_41 : bodyOk Tryz.prog 41 = true := by kernel_rfl
@[go_sem] theorem bodyOk_42 : bodyOk Tryz.prog 42 = true := by kernel_rfl
@[go_sem] theorem bodyOk_43 : bodyOk Tryz.prog 43 = true := by kernel_rfl
@[go_sem] theorem bodyOk_44 : bodyOk Tryz.prog 44 = true := by kernel_rfl
@[go_sem] theorem bodyOk_45 : bodyOk Tryz.prog 45 = true := by kernel_rfl
@[go_sem] theorem bodyOk_46 : bodyOk Tryz.prog 46 = true := by kernel_rfl
@[go_sem] theorem bodyOk_47 : bodyOk Tryz.prog 47 = true := by kernel_rfl
@[go_sem] theorem bodyOk_48 : bodyOk Tryz.prog 48 = true := by kernel_rfl
@[go_sem] theorem bodyOk_49 : bodyOk Tryz.prog 49 = true := by kernel_rfl
@[go_sem] theorem bodyOk_50 : bodyOk Tryz.prog 50 = true := by kernel_rfl
@[go_sem] theorem bodyOk_51 : bodyOk Tryz.prog 51 = true := by kernel_rfl
@[go_sem] theorem bodyOk_52 : bodyOk Tryz.prog 52 = true := by kernel_rfl
@[go_sem] theorem bodyOk_53 : bodyOk Tryz.prog 53 = true := by kernel_rfl
@[go_sem] theorem bodyOk_54 : bodyOk Tryz.prog 54 = true := by kernel_rfl
@[go_sem] theorem bodyOk_55 : bodyOk Tryz.prog 55 = true := by kernel_rfl
@[go_sem] theorem bodyOk_56 : bodyOk Tryz.prog 56 = true := by kernel_rfl
@[go_sem] theorem bodyOk_57 : bodyOk Tryz.prog 57 = true := by kernel_rfl
@[go_sem] theorem bodyOk_58 : bodyOk Tryz.prog 58 = true := by kernel_rfl
@[go_sem] theorem bodyOk_59 : bodyOk Tryz.prog 59 = true := by kernel_rfl
@[go_sem] theorem bodyOk_60 : bodyOk Tryz.prog 60 = true := by kernel_rfl
@[go_sem] theorem bodyOk_61 : bodyOk Tryz.prog 61 = true := by kernel_rfl
@[go_sem] theorem bodyOk_62 : bodyOk Tryz.prog 62 = true := by kernel_rfl
@[go_sem] theorem bodyOk_63 : bodyOk Tryz.prog 63 = true := by kernel_rfl
@[go_sem] theorem bodyOk_64 : bodyOk Tryz.prog 64 = true := by kernel_rfl
@[go_sem] theorem bodyOk_65 : bodyOk Tryz.prog 65 = true := by kernel_rfl
@[go_sem] theorem bodyOk_66 : bodyOk Tryz.prog 66 = true := by kernel_rfl
@[go_sem] theorem bodyOk_67 : bodyOk Tryz.prog 67 = true := by kernel_rfl
@[go_sem] theorem bodyOk_68 : bodyOk Tryz.prog 68 = true := by kernel_rfl
@[go_sem] theorem bodyOk_69 : bodyOk Tryz.prog 69 = true := by kernel_rfl
@[go_sem] theorem bodyOk_70 : bodyOk Tryz.prog 70 = true := by kernel_rfl
@[go_sem] theorem bodyOk_71 : bodyOk Tryz.prog 71 = true := by kernel_rfl
@[go_sem] theorem bodyOk_72 : bodyOk Tryz.prog 72 = true := by kernel_rfl
@[go_sem] theorem bodyOk_73 : bodyOk Tryz.prog 73 = true := by kernel_rfl
@[go_sem] theorem bodyOk_74 : bodyOk Tryz.prog 74 = true := by kernel_rfl
@[go_sem] theorem bodyOk_75 : bodyOk Tryz.prog 75 = true := by kernel_rfl
@[go_sem] theorem bodyOk_76 : bodyOk Tryz.prog 76 = true := by kernel_rfl
@[go_sem] theorem bodyOk_77 : bodyOk Tryz.prog 77 = true := by kernel_rfl
@[go_sem] theorem bodyOk_78 : bodyOk Tryz.prog 78 = true := by kernel_rfl
@[go_sem] theorem bodyOk_79 : bodyOk Tryz.prog 79 = true := by kernel_rfl
@[go_sem] theorem bodyOk_80 : bodyOk Tryz.prog 80 = true := by kernel_rfl
@[go_sem] theorem bodyOk_81 : bodyOk Tryz.prog 81 = true := by kernel_rfl
@[go_sem] theorem bodyOk_82 : bodyOk Tryz.prog 82 = true := by kernel_rfl
@[go_sem] theorem bodyOk_83 : bodyOk Tryz.prog 83 = true := by kernel_rfl
@[go_sem] theorem bodyOk_84 : bodyOk Tryz.prog 84 = true := by kernel_rfl
@[go_sem] theorem bodyOk_85 : bodyOk Tryz.prog 85 = true := by kernel_rfl
@[go_sem] theorem bodyOk_86 : bodyOk Tryz.prog 86 = true := by kernel_rfl
@[go_sem] theorem bodyOk_87 : bodyOk Tryz.prog 87 = true := by kernel_rfl
@[go_sem] theorem bodyOk_88 : bodyOk Tryz.prog 88 = true := by kernel_rfl
@[go_sem] theorem bodyOk_89 : bodyOk Tryz.prog 89 = true := by kernel_rfl
@[go_sem] theorem bodyOk_90 : bodyOk Tryz.prog 90 = true := by kernel_rfl
@[go_sem] theorem bodyOk_91 : bodyOk Tryz.prog 91 = true := by kernel_rfl
@[go_sem] theorem bodyOk_92 : bodyOk Tryz.prog 92 = true := by kernel_rfl
@[go_sem] theorem bodyOk_93 : bodyOk Tryz.prog 93 = true := by kernel_rfl
@[go_sem] theorem bodyOk_94 : bodyOk Tryz.prog 94 = true := by kernel_rfl
@[go_sem] theorem bodyOk_95 : bodyOk Tryz.prog 95 = true := by kernel_rfl
@[go_sem] theorem bodyOk_96 : bodyOk Tryz.prog 96 = true := by kernel_rfl
@[go_sem] theorem bodyOk_97 : bodyOk Tryz.prog 97 = true := by kernel_rfl
@[go_sem] theorem bodyOk_98 : bodyOk Tryz.prog 98 = true := by kernel_rfl
@[go_sem] theorem bodyOk_99 : bodyOk Tryz.prog 99 = true := by kernel_rfl
@[go_sem] theorem bodyOk_100 : bodyOk Tryz.prog 100 = true := by kernel_rfl
@[go_sem] theorem bodyOk_101 : bodyOk Tryz.prog 101 = true := by kernel_rfl
@[go_sem] theorem bodyOk_102 : bodyOk Tryz.prog 102 = true := by kernel_rfl
@[go_sem] theorem bodyOk_103 : bodyOk Tryz.prog 103 = true := by kernel_rfl
@[go_sem] theorem bodyOk_104 : bodyOk Tryz.prog 104 = true := by kernel_rfl
@[go_sem] theorem bodyOk_105 : bodyOk Tryz.prog 105 = true := by kernel_rfl
@[go_sem] theorem bodyOk_106 : bodyOk Tryz.prog 106 = true := by kernel_rfl
@[go_sem] theorem bodyOk_107 : bodyOk Tryz.prog 107 = true := by kernel_rfl
@[go_sem] theorem bodyOk_108 : bodyOk Tryz.prog 108 = true := by kernel_rfl
@[go_sem] theorem bodyOk_109 : bodyOk Tryz.prog 109 = true := by kernel_rfl
@[go_sem] theorem bodyOk_110 : bodyOk Tryz.prog 110 = true := by kernel_rfl
@[go_sem] theorem bodyOk_111 : bodyOk Tryz.prog 111 = true := by kernel_rfl
@[go_sem] theorem bodyOk_112 : bodyOk Tryz.prog 112 = true := by kernel_rfl
@[go_sem] theorem bodyOk_113 : bodyOk Tryz.prog 113 = true := by kernel_rfl
@[go_sem] theorem bodyOk_114 : bodyOk Tryz.prog 114 = true := by kernel_rfl
@[go_sem] theorem bodyOk_115 : bodyOk Tryz.prog 115 = true := by kernel_rfl
@[go_sem] theorem bodyOk_116 : bodyOk Tryz.prog 116 = true := by kernel_rfl
@[go_sem] theorem bodyOk_117 : bodyOk Tryz.prog 117 = true := by kernel_rfl
@[go_sem] theorem bodyOk_118 : bodyOk Tryz.prog 118 = true := by kernel_rfl
@[go_sem] theorem bodyOk_119 : bodyOk Tryz.prog 119 = true := by kernel_rfl
@[go_sem] theorem bodyOk_120 : bodyOk Tryz.prog 120 = true := by kernel_rfl
@[go_sem] theorem bodyOk_121 : bodyOk Tryz.prog 121 = true := by kernel_rfl
@[go_sem] theorem bodyOk_122 : bodyOk Tryz.prog 122 = true := by kernel_rfl
@[go_sem] theorem bodyOk_123 : bodyOk Tryz.prog 123 = true := by kernel_rfl
@[go_sem] theorem bodyOk_124 : bodyOk Tryz.prog 124 = true := by kernel_rfl
@[go_sem] theorem bodyOk_125 : bodyOk Tryz.prog 125 = true := by kernel_rfl
@[go_sem] theorem bodyOk_126 : bodyOk Tryz.prog 126 = true := by kernel_rfl
@[go_sem] theorem bodyOk_127 : bodyOk Tryz.prog 127 = true := by kernel_rfl
@[go_sem] theorem bodyOk_128 : bodyOk Tryz.prog 128 = true := by kernel_rfl
@[go_sem] theorem bodyOk_129 : bodyOk Tryz.prog 129 = true := by kernel_rfl
@[go_sem] theorem bodyOk_130 : bodyOk Tryz.prog 130 = true := by kernel_rfl
@[go_sem] theorem bodyOk_131 : bodyOk Tryz.prog 131 = true := by kernel_rfl
@[go_sem] theorem bodyOk_132 : bodyOk Tryz.prog 132 = true := by kernel_rfl
@[go_sem] theorem bodyOk_133 : bodyOk Tryz.prog 133 = true := by kernel_rfl
@[go_sem] theorem bodyOk_134 : bodyOk Tryz.prog 134 = true := by kernel_rfl
@[go_sem] theorem bodyOk_135 : bodyOk Tryz.prog 135 = true := by kernel_rfl
@[go_sem] theorem bodyOk_136 : bodyOk Tryz.prog 136 = true := by kernel_rfl
@[go_sem] theorem bodyOk_137 : bodyOk Tryz.prog 137 = true := by kernel_rfl
@[go_sem] theorem bodyOk_138 : bodyOk Tryz.prog 138 = true := by kernel_rfl
@[go_sem] theorem bodyOk_139 : bodyOk Tryz.prog 139 = true := by kernel_rfl
@[go_sem] theorem bodyOk_140 : bodyOk Tryz.prog 140 = true := by kernel_rfl
@[go_sem] theorem bodyOk_141 : bodyOk Tryz.prog 141 = true := by kernel_rfl
@[go_sem] theorem bodyOk_142 : bodyOk Tryz.prog 142 = true := by kernel_rfl
end Go.Proofs.YteadhjclchjfjaaGreat
