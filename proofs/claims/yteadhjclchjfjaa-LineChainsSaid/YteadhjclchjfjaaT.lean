/- Facts on the types of the program, by the kernel. Printed by a program of this session. -/
import Derived.Test.YteadhjclchjfjaaProg
import Derived.Test.YteadhjclchjfjaaB140
import Derived.KernelRfl
namespace Go.Proofs.Yteadhjclchjfjaa
open Go.AB
set_option maxRecDepth 100000
@[go_sem] theorem tyA_1 : tyA Try.prog 1 = some (false, 1) := by kernel_rfl
@[go_sem] theorem bytesA_1 : bytesA Try.prog 1 = false := by kernel_rfl
@[go_sem] theorem knownA_1 : knownA Try.prog 1 = true := by kernel_rfl
@[go_sem] theorem concA_1 : concA Try.prog 1 = true := by kernel_rfl
@[go_sem] theorem ikA_1 : ikA Try.prog 1 = none := by kernel_rfl
@[go_sem] theorem bldT_1 : bldT Try.prog 1 = none := by kernel_rfl
@[go_sem] theorem zeroA_1 : zeroA Try.prog 1 = some [.raw .nilFunc] := by kernel_rfl
@[go_sem] theorem slA_1 : slA Try.prog 1 = none := by kernel_rfl
@[go_sem] theorem tyA_2 : tyA Try.prog 2 = some (false, 1) := by kernel_rfl
@[go_sem] theorem bytesA_2 : bytesA Try.prog 2 = false := by kernel_rfl
@[go_sem] theorem knownA_2 : knownA Try.prog 2 = true := by kernel_rfl
@[go_sem] theorem concA_2 : concA Try.prog 2 = true := by kernel_rfl
@[go_sem] theorem ikA_2 : ikA Try.prog 2 = some .i64 := by kernel_rfl
@[go_sem] theorem bldT_2 : bldT Try.prog 2 = none := by kernel_rfl
@[go_sem] theorem zeroA_2 : zeroA Try.prog 2 = some [.int .i64 0] := by kernel_rfl
@[go_sem] theorem slA_2 : slA Try.prog 2 = none := by kernel_rfl
@[go_sem] theorem tyA_3 : tyA Try.prog 3 = some (false, 1) := by kernel_rfl
@[go_sem] theorem bytesA_3 : bytesA Try.prog 3 = false := by kernel_rfl
@[go_sem] theorem knownA_3 : knownA Try.prog 3 = true := by kernel_rfl
@[go_sem] theorem concA_3 : concA Try.prog 3 = true := by kernel_rfl
@[go_sem] theorem ikA_3 : ikA Try.prog 3 = some .i64 := by kernel_rfl
@[go_sem] theorem bldT_3 : bldT Try.prog 3 = none := by kernel_rfl
@[go_sem] theorem zeroA_3 : zeroA Try.prog 3 = some [.int .i64 0] := by kernel_rfl
@[go_sem] theorem slA_3 : slA Try.prog 3 = none := by kernel_rfl
@[go_sem] theorem tyA_4 : tyA Try.prog 4 = some (false, 1) := by kernel_rfl
@[go_sem] theorem bytesA_4 : bytesA Try.prog 4 = false := by kernel_rfl
@[go_sem] theorem knownA_4 : knownA Try.prog 4 = true := by kernel_rfl
@[go_sem] theorem concA_4 : concA Try.prog 4 = true := by kernel_rfl
@[go_sem] theorem ikA_4 : ikA Try.prog 4 = none := by kernel_rfl
@[go_sem] theorem tyBool_4 : tyBool Try.prog 4 = true := by kernel_rfl
@[go_sem] theorem bldT_4 : bldT Try.prog 4 = none := by kernel_rfl
@[go_sem] theorem zeroA_4 : zeroA Try.prog 4 = some [.bool false] := by kernel_rfl
@[go_sem] theorem slA_4 : slA Try.prog 4 = none := by kernel_rfl
@[go_sem] theorem tyA_5 : tyA Try.prog 5 = some (false, 1) := by kernel_rfl
@[go_sem] theorem bytesA_5 : bytesA Try.prog 5 = false := by kernel_rfl
@[go_sem] theorem knownA_5 : knownA Try.prog 5 = true := by kernel_rfl
@[go_sem] theorem concA_5 : concA Try.prog 5 = true := by kernel_rfl
@[go_sem] theorem ikA_5 : ikA Try.prog 5 = some .u8 := by kernel_rfl
@[go_sem] theorem bldT_5 : bldT Try.prog 5 = none := by kernel_rfl
@[go_sem] theorem zeroA_5 : zeroA Try.prog 5 = some [.int .u8 0] := by kernel_rfl
@[go_sem] theorem slA_5 : slA Try.prog 5 = none := by kernel_rfl
@[go_sem] theorem tyA_9 : tyA Try.prog 9 = some (false, 1) := by kernel_rfl
@[go_sem] theorem bytesA_9 : bytesA Try.prog 9 = false := by kernel_rfl
@[go_sem] theorem knownA_9 : knownA Try.prog 9 = true := by kernel_rfl
@[go_sem] theorem concA_9 : concA Try.prog 9 = true := by kernel_rfl
@[go_sem] theorem ikA_9 : ikA Try.prog 9 = none := by kernel_rfl
@[go_sem] theorem strA_9 : strA Try.prog 9 = true := by kernel_rfl
@[go_sem] theorem bldT_9 : bldT Try.prog 9 = none := by kernel_rfl
@[go_sem] theorem zeroA_9 : zeroA Try.prog 9 = some [.str []] := by kernel_rfl
@[go_sem] theorem slA_9 : slA Try.prog 9 = none := by kernel_rfl
@[go_sem] theorem tyA_12 : tyA Try.prog 12 = some (false, 1) := by kernel_rfl
@[go_sem] theorem bytesA_12 : bytesA Try.prog 12 = false := by kernel_rfl
@[go_sem] theorem knownA_12 : knownA Try.prog 12 = true := by kernel_rfl
@[go_sem] theorem concA_12 : concA Try.prog 12 = true := by kernel_rfl
@[go_sem] theorem ikA_12 : ikA Try.prog 12 = some .u64 := by kernel_rfl
@[go_sem] theorem bldT_12 : bldT Try.prog 12 = none := by kernel_rfl
@[go_sem] theorem zeroA_12 : zeroA Try.prog 12 = some [.int .u64 0] := by kernel_rfl
@[go_sem] theorem slA_12 : slA Try.prog 12 = none := by kernel_rfl
@[go_sem] theorem tyA_20 : tyA Try.prog 20 = some (false, 1) := by kernel_rfl
@[go_sem] theorem bytesA_20 : bytesA Try.prog 20 = false := by kernel_rfl
@[go_sem] theorem knownA_20 : knownA Try.prog 20 = true := by kernel_rfl
@[go_sem] theorem ikA_20 : ikA Try.prog 20 = none := by kernel_rfl
@[go_sem] theorem bldT_20 : bldT Try.prog 20 = none := by kernel_rfl
@[go_sem] theorem zeroA_20 : zeroA Try.prog 20 = some [.raw .nilIface] := by kernel_rfl
@[go_sem] theorem slA_20 : slA Try.prog 20 = none := by kernel_rfl
@[go_sem] theorem tyA_21 : tyA Try.prog 21 = some (false, 1) := by kernel_rfl
@[go_sem] theorem bytesA_21 : bytesA Try.prog 21 = false := by kernel_rfl
@[go_sem] theorem knownA_21 : knownA Try.prog 21 = true := by kernel_rfl
@[go_sem] theorem concA_21 : concA Try.prog 21 = true := by kernel_rfl
@[go_sem] theorem ikA_21 : ikA Try.prog 21 = some .i32 := by kernel_rfl
@[go_sem] theorem bldT_21 : bldT Try.prog 21 = none := by kernel_rfl
@[go_sem] theorem zeroA_21 : zeroA Try.prog 21 = some [.int .i32 0] := by kernel_rfl
@[go_sem] theorem slA_21 : slA Try.prog 21 = none := by kernel_rfl
@[go_sem] theorem tyA_22 : tyA Try.prog 22 = some (false, 1) := by kernel_rfl
@[go_sem] theorem bytesA_22 : bytesA Try.prog 22 = false := by kernel_rfl
@[go_sem] theorem knownA_22 : knownA Try.prog 22 = true := by kernel_rfl
@[go_sem] theorem concA_22 : concA Try.prog 22 = true := by kernel_rfl
@[go_sem] theorem ikA_22 : ikA Try.prog 22 = none := by kernel_rfl
@[go_sem] theorem slB_22 : slB Try.prog 22 = true := by kernel_rfl
@[go_sem] theorem bldT_22 : bldT Try.prog 22 = none := by kernel_rfl
@[go_sem] theorem zeroA_22 : zeroA Try.prog 22 = some [.sl 1 [] .nil] := by kernel_rfl
@[go_sem] theorem slA_22 : slA Try.prog 22 = some 1 := by kernel_rfl
@[go_sem] theorem mkA_22 : mkA Try.prog 22 = some ([.str []], 16) := by kernel_rfl
@[go_sem] theorem apA_22 : apA Try.prog 22 = some (1, 16) := by kernel_rfl
@[go_sem] theorem partTy_22 (i : Nat) : partTy Try.prog 22 i = 9 := rfl_of_partTy (by kernel_rfl)
@[go_sem] theorem tyA_23 : tyA Try.prog 23 = some (false, 1) := by kernel_rfl
@[go_sem] theorem bytesA_23 : bytesA Try.prog 23 = false := by kernel_rfl
@[go_sem] theorem knownA_23 : knownA Try.prog 23 = true := by kernel_rfl
@[go_sem] theorem concA_23 : concA Try.prog 23 = true := by kernel_rfl
@[go_sem] theorem ikA_23 : ikA Try.prog 23 = none := by kernel_rfl
@[go_sem] theorem slB_23 : slB Try.prog 23 = true := by kernel_rfl
@[go_sem] theorem bldT_23 : bldT Try.prog 23 = none := by kernel_rfl
@[go_sem] theorem zeroA_23 : zeroA Try.prog 23 = some [.sl 7 [] .nil] := by kernel_rfl
@[go_sem] theorem slA_23 : slA Try.prog 23 = some 7 := by kernel_rfl
@[go_sem] theorem mkA_23 : mkA Try.prog 23 = some ([.int .i64 0, .int .i64 0, .int .i64 0, .int .i64 0, .int .i64 0, .int .i64 0, .bool false], 56) := by kernel_rfl
@[go_sem] theorem apA_23 : apA Try.prog 23 = some (7, 56) := by kernel_rfl
@[go_sem] theorem partTy_23 (i : Nat) : partTy Try.prog 23 i = 106 := rfl_of_partTy (by kernel_rfl)
@[go_sem] theorem tyA_24 : tyA Try.prog 24 = some (false, 1) := by kernel_rfl
@[go_sem] theorem bytesA_24 : bytesA Try.prog 24 = false := by kernel_rfl
@[go_sem] theorem knownA_24 : knownA Try.prog 24 = true := by kernel_rfl
@[go_sem] theorem concA_24 : concA Try.prog 24 = true := by kernel_rfl
@[go_sem] theorem ikA_24 : ikA Try.prog 24 = none := by kernel_rfl
@[go_sem] theorem slB_24 : slB Try.prog 24 = true := by kernel_rfl
@[go_sem] theorem bldT_24 : bldT Try.prog 24 = none := by kernel_rfl
@[go_sem] theorem zeroA_24 : zeroA Try.prog 24 = some [.sl 4 [] .nil] := by kernel_rfl
@[go_sem] theorem slA_24 : slA Try.prog 24 = some 4 := by kernel_rfl
@[go_sem] theorem mkA_24 : mkA Try.prog 24 = some ([.int .i64 0, .int .i64 0, .int .i64 0, .int .i64 0], 32) := by kernel_rfl
@[go_sem] theorem apA_24 : apA Try.prog 24 = some (4, 32) := by kernel_rfl
@[go_sem] theorem partTy_24 (i : Nat) : partTy Try.prog 24 i = 119 := rfl_of_partTy (by kernel_rfl)
@[go_sem] theorem tyA_25 : tyA Try.prog 25 = some (false, 1) := by kernel_rfl
@[go_sem] theorem bytesA_25 : bytesA Try.prog 25 = false := by kernel_rfl
@[go_sem] theorem knownA_25 : knownA Try.prog 25 = true := by kernel_rfl
@[go_sem] theorem concA_25 : concA Try.prog 25 = true := by kernel_rfl
@[go_sem] theorem ikA_25 : ikA Try.prog 25 = none := by kernel_rfl
@[go_sem] theorem slB_25 : slB Try.prog 25 = true := by kernel_rfl
@[go_sem] theorem bldT_25 : bldT Try.prog 25 = none := by kernel_rfl
@[go_sem] theorem zeroA_25 : zeroA Try.prog 25 = some [.sl 2 [] .nil] := by kernel_rfl
@[go_sem] theorem slA_25 : slA Try.prog 25 = some 2 := by kernel_rfl
@[go_sem] theorem mkA_25 : mkA Try.prog 25 = some ([.int .i64 0, .int .i64 0], 16) := by kernel_rfl
@[go_sem] theorem apA_25 : apA Try.prog 25 = some (2, 16) := by kernel_rfl
@[go_sem] theorem partTy_25 (i : Nat) : partTy Try.prog 25 i = 123 := rfl_of_partTy (by kernel_rfl)
@[go_sem] theorem tyA_26 : tyA Try.prog 26 = some (false, 1) := by kernel_rfl
@[go_sem] theorem bytesA_26 : bytesA Try.prog 26 = false := by kernel_rfl
@[go_sem] theorem knownA_26 : knownA Try.prog 26 = true := by kernel_rfl
@[go_sem] theorem concA_26 : concA Try.prog 26 = true := by kernel_rfl
@[go_sem] theorem ikA_26 : ikA Try.prog 26 = none := by kernel_rfl
@[go_sem] theorem slB_26 : slB Try.prog 26 = true := by kernel_rfl
@[go_sem] theorem bldT_26 : bldT Try.prog 26 = none := by kernel_rfl
@[go_sem] theorem zeroA_26 : zeroA Try.prog 26 = some [.sl 2 [] .nil] := by kernel_rfl
@[go_sem] theorem slA_26 : slA Try.prog 26 = some 2 := by kernel_rfl
@[go_sem] theorem mkA_26 : mkA Try.prog 26 = some ([.int .i64 0, .int .i64 0], 16) := by kernel_rfl
@[go_sem] theorem apA_26 : apA Try.prog 26 = some (2, 16) := by kernel_rfl
@[go_sem] theorem partTy_26 (i : Nat) : partTy Try.prog 26 i = 157 := rfl_of_partTy (by kernel_rfl)
@[go_sem] theorem tyA_27 : tyA Try.prog 27 = some (true, 5) := by kernel_rfl
@[go_sem] theorem bytesA_27 : bytesA Try.prog 27 = false := by kernel_rfl
@[go_sem] theorem knownA_27 : knownA Try.prog 27 = true := by kernel_rfl
@[go_sem] theorem concA_27 : concA Try.prog 27 = true := by kernel_rfl
@[go_sem] theorem ikA_27 : ikA Try.prog 27 = none := by kernel_rfl
@[go_sem] theorem bldT_27 : bldT Try.prog 27 = none := by kernel_rfl
@[go_sem] theorem zeroA_27 : zeroA Try.prog 27 = some [.sl 1 [] .nil, .sl 7 [] .nil, .sl 4 [] .nil, .sl 2 [] .nil, .sl 2 [] .nil] := by kernel_rfl
@[go_sem] theorem slA_27 : slA Try.prog 27 = none := by kernel_rfl
@[go_sem] theorem fsOk_27 : fsOk Try.prog 27 = true := by kernel_rfl
@[go_sem] theorem fldA_27_0 : fldA Try.prog 27 0 = some 0 := by kernel_rfl
@[go_sem] theorem fpA_27_0 : fpA Try.prog 27 0 = some (0, false, 1) := by kernel_rfl
@[go_sem] theorem plA_27_0 : plA Try.prog 27 0 = some (0, 1) := by kernel_rfl
@[go_sem] theorem partTy_27_0 : partTy Try.prog 27 0 = 22 := by kernel_rfl
@[go_sem] theorem fldA_27_1 : fldA Try.prog 27 1 = some 1 := by kernel_rfl
@[go_sem] theorem fpA_27_1 : fpA Try.prog 27 1 = some (1, false, 1) := by kernel_rfl
@[go_sem] theorem plA_27_1 : plA Try.prog 27 1 = some (1, 1) := by kernel_rfl
@[go_sem] theorem partTy_27_1 : partTy Try.prog 27 1 = 23 := by kernel_rfl
@[go_sem] theorem fldA_27_2 : fldA Try.prog 27 2 = some 2 := by kernel_rfl
@[go_sem] theorem fpA_27_2 : fpA Try.prog 27 2 = some (2, false, 1) := by kernel_rfl
@[go_sem] theorem plA_27_2 : plA Try.prog 27 2 = some (2, 1) := by kernel_rfl
@[go_sem] theorem partTy_27_2 : partTy Try.prog 27 2 = 24 := by kernel_rfl
@[go_sem] theorem fldA_27_3 : fldA Try.prog 27 3 = some 3 := by kernel_rfl
@[go_sem] theorem fpA_27_3 : fpA Try.prog 27 3 = some (3, false, 1) := by kernel_rfl
@[go_sem] theorem plA_27_3 : plA Try.prog 27 3 = some (3, 1) := by kernel_rfl
@[go_sem] theorem partTy_27_3 : partTy Try.prog 27 3 = 25 := by kernel_rfl
@[go_sem] theorem fldA_27_4 : fldA Try.prog 27 4 = some 4 := by kernel_rfl
@[go_sem] theorem fpA_27_4 : fpA Try.prog 27 4 = some (4, false, 1) := by kernel_rfl
@[go_sem] theorem plA_27_4 : plA Try.prog 27 4 = some (4, 1) := by kernel_rfl
@[go_sem] theorem partTy_27_4 : partTy Try.prog 27 4 = 26 := by kernel_rfl
@[go_sem] theorem tyA_28 : tyA Try.prog 28 = some (true, 5) := by kernel_rfl
@[go_sem] theorem bytesA_28 : bytesA Try.prog 28 = false := by kernel_rfl
@[go_sem] theorem knownA_28 : knownA Try.prog 28 = true := by kernel_rfl
@[go_sem] theorem concA_28 : concA Try.prog 28 = true := by kernel_rfl
@[go_sem] theorem ikA_28 : ikA Try.prog 28 = none := by kernel_rfl
@[go_sem] theorem bldT_28 : bldT Try.prog 28 = none := by kernel_rfl
@[go_sem] theorem zeroA_28 : zeroA Try.prog 28 = some [.sl 1 [] .nil, .sl 7 [] .nil, .sl 4 [] .nil, .sl 2 [] .nil, .sl 2 [] .nil] := by kernel_rfl
@[go_sem] theorem slA_28 : slA Try.prog 28 = none := by kernel_rfl
@[go_sem] theorem fsOk_28 : fsOk Try.prog 28 = true := by kernel_rfl
@[go_sem] theorem fldA_28_0 : fldA Try.prog 28 0 = some 0 := by kernel_rfl
@[go_sem] theorem fpA_28_0 : fpA Try.prog 28 0 = some (0, false, 1) := by kernel_rfl
@[go_sem] theorem plA_28_0 : plA Try.prog 28 0 = some (0, 1) := by kernel_rfl
@[go_sem] theorem partTy_28_0 : partTy Try.prog 28 0 = 22 := by kernel_rfl
@[go_sem] theorem fldA_28_1 : fldA Try.prog 28 1 = some 1 := by kernel_rfl
@[go_sem] theorem fpA_28_1 : fpA Try.prog 28 1 = some (1, false, 1) := by kernel_rfl
@[go_sem] theorem plA_28_1 : plA Try.prog 28 1 = some (1, 1) := by kernel_rfl
@[go_sem] theorem partTy_28_1 : partTy Try.prog 28 1 = 23 := by kernel_rfl
@[go_sem] theorem fldA_28_2 : fldA Try.prog 28 2 = some 2 := by kernel_rfl
@[go_sem] theorem fpA_28_2 : fpA Try.prog 28 2 = some (2, false, 1) := by kernel_rfl
@[go_sem] theorem plA_28_2 : plA Try.prog 28 2 = some (2, 1) := by kernel_rfl
@[go_sem] theorem partTy_28_2 : partTy Try.prog 28 2 = 24 := by kernel_rfl
@[go_sem] theorem fldA_28_3 : fldA Try.prog 28 3 = some 3 := by kernel_rfl
@[go_sem] theorem fpA_28_3 : fpA Try.prog 28 3 = some (3, false, 1) := by kernel_rfl
@[go_sem] theorem plA_28_3 : plA Try.prog 28 3 = some (3, 1) := by kernel_rfl
@[go_sem] theorem partTy_28_3 : partTy Try.prog 28 3 = 25 := by kernel_rfl
@[go_sem] theorem fldA_28_4 : fldA Try.prog 28 4 = some 4 := by kernel_rfl
@[go_sem] theorem fpA_28_4 : fpA Try.prog 28 4 = some (4, false, 1) := by kernel_rfl
@[go_sem] theorem plA_28_4 : plA Try.prog 28 4 = some (4, 1) := by kernel_rfl
@[go_sem] theorem partTy_28_4 : partTy Try.prog 28 4 = 26 := by kernel_rfl
@[go_sem] theorem tyA_29 : tyA Try.prog 29 = some (false, 1) := by kernel_rfl
@[go_sem] theorem bytesA_29 : bytesA Try.prog 29 = false := by kernel_rfl
@[go_sem] theorem knownA_29 : knownA Try.prog 29 = true := by kernel_rfl
@[go_sem] theorem concA_29 : concA Try.prog 29 = true := by kernel_rfl
@[go_sem] theorem ikA_29 : ikA Try.prog 29 = some .i64 := by kernel_rfl
@[go_sem] theorem bldT_29 : bldT Try.prog 29 = none := by kernel_rfl
@[go_sem] theorem zeroA_29 : zeroA Try.prog 29 = some [.int .i64 0] := by kernel_rfl
@[go_sem] theorem slA_29 : slA Try.prog 29 = none := by kernel_rfl
@[go_sem] theorem tyA_31 : tyA Try.prog 31 = some (false, 1) := by kernel_rfl
@[go_sem] theorem bytesA_31 : bytesA Try.prog 31 = false := by kernel_rfl
@[go_sem] theorem knownA_31 : knownA Try.prog 31 = true := by kernel_rfl
@[go_sem] theorem concA_31 : concA Try.prog 31 = true := by kernel_rfl
@[go_sem] theorem ikA_31 : ikA Try.prog 31 = none := by kernel_rfl
@[go_sem] theorem bldT_31 : bldT Try.prog 31 = none := by kernel_rfl
@[go_sem] theorem zeroA_31 : zeroA Try.prog 31 = some [.raw .nilFunc] := by kernel_rfl
@[go_sem] theorem slA_31 : slA Try.prog 31 = none := by kernel_rfl
@[go_sem] theorem tyA_33 : tyA Try.prog 33 = some (false, 1) := by kernel_rfl
@[go_sem] theorem bytesA_33 : bytesA Try.prog 33 = false := by kernel_rfl
@[go_sem] theorem knownA_33 : knownA Try.prog 33 = true := by kernel_rfl
@[go_sem] theorem concA_33 : concA Try.prog 33 = true := by kernel_rfl
@[go_sem] theorem ikA_33 : ikA Try.prog 33 = none := by kernel_rfl
@[go_sem] theorem bldT_33 : bldT Try.prog 33 = none := by kernel_rfl
@[go_sem] theorem zeroA_33 : zeroA Try.prog 33 = some [.raw .nilFunc] := by kernel_rfl
@[go_sem] theorem slA_33 : slA Try.prog 33 = none := by kernel_rfl
@[go_sem] theorem tyA_34 : tyA Try.prog 34 = some (false, 1) := by kernel_rfl
@[go_sem] theorem bytesA_34 : bytesA Try.prog 34 = false := by kernel_rfl
@[go_sem] theorem knownA_34 : knownA Try.prog 34 = true := by kernel_rfl
@[go_sem] theorem concA_34 : concA Try.prog 34 = true := by kernel_rfl
@[go_sem] theorem ikA_34 : ikA Try.prog 34 = none := by kernel_rfl
@[go_sem] theorem slB_34 : slB Try.prog 34 = true := by kernel_rfl
@[go_sem] theorem bldT_34 : bldT Try.prog 34 = none := by kernel_rfl
@[go_sem] theorem zeroA_34 : zeroA Try.prog 34 = some [.sl 1 [] .nil] := by kernel_rfl
@[go_sem] theorem slA_34 : slA Try.prog 34 = some 1 := by kernel_rfl
@[go_sem] theorem mkA_34 : mkA Try.prog 34 = some ([.int .i64 0], 8) := by kernel_rfl
@[go_sem] theorem apA_34 : apA Try.prog 34 = some (1, 8) := by kernel_rfl
@[go_sem] theorem partTy_34 (i : Nat) : partTy Try.prog 34 i = 3 := rfl_of_partTy (by kernel_rfl)
@[go_sem] theorem tyA_36 : tyA Try.prog 36 = some (false, 1) := by kernel_rfl
@[go_sem] theorem bytesA_36 : bytesA Try.prog 36 = false := by kernel_rfl
@[go_sem] theorem knownA_36 : knownA Try.prog 36 = true := by kernel_rfl
@[go_sem] theorem concA_36 : concA Try.prog 36 = true := by kernel_rfl
@[go_sem] theorem ikA_36 : ikA Try.prog 36 = none := by kernel_rfl
@[go_sem] theorem bldT_36 : bldT Try.prog 36 = none := by kernel_rfl
@[go_sem] theorem zeroA_36 : zeroA Try.prog 36 = some [.raw .nilFunc] := by kernel_rfl
@[go_sem] theorem slA_36 : slA Try.prog 36 = none := by kernel_rfl
@[go_sem] theorem tyA_37 : tyA Try.prog 37 = some (false, 1) := by kernel_rfl
@[go_sem] theorem bytesA_37 : bytesA Try.prog 37 = false := by kernel_rfl
@[go_sem] theorem knownA_37 : knownA Try.prog 37 = true := by kernel_rfl
@[go_sem] theorem concA_37 : concA Try.prog 37 = true := by kernel_rfl
@[go_sem] theorem ikA_37 : ikA Try.prog 37 = none := by kernel_rfl
@[go_sem] theorem bldT_37 : bldT Try.prog 37 = none := by kernel_rfl
@[go_sem] theorem zeroA_37 : zeroA Try.prog 37 = some [.raw .nilFunc] := by kernel_rfl
@[go_sem] theorem slA_37 : slA Try.prog 37 = none := by kernel_rfl
@[go_sem] theorem tyA_38 : tyA Try.prog 38 = some (false, 1) := by kernel_rfl
@[go_sem] theorem bytesA_38 : bytesA Try.prog 38 = false := by kernel_rfl
@[go_sem] theorem knownA_38 : knownA Try.prog 38 = true := by kernel_rfl
@[go_sem] theorem concA_38 : concA Try.prog 38 = true := by kernel_rfl
@[go_sem] theorem ikA_38 : ikA Try.prog 38 = none := by kernel_rfl
@[go_sem] theorem bldT_38 : bldT Try.prog 38 = none := by kernel_rfl
@[go_sem] theorem zeroA_38 : zeroA Try.prog 38 = some [.raw .nilFunc] := by kernel_rfl
@[go_sem] theorem slA_38 : slA Try.prog 38 = none := by kernel_rfl
@[go_sem] theorem tyA_39 : tyA Try.prog 39 = some (false, 1) := by kernel_rfl
@[go_sem] theorem bytesA_39 : bytesA Try.prog 39 = false := by kernel_rfl
@[go_sem] theorem knownA_39 : knownA Try.prog 39 = true := by kernel_rfl
@[go_sem] theorem concA_39 : concA Try.prog 39 = true := by kernel_rfl
@[go_sem] theorem ikA_39 : ikA Try.prog 39 = none := by kernel_rfl
@[go_sem] theorem bldT_39 : bldT Try.prog 39 = none := by kernel_rfl
@[go_sem] theorem zeroA_39 : zeroA Try.prog 39 = some [.raw .nilFunc] := by kernel_rfl
@[go_sem] theorem slA_39 : slA Try.prog 39 = none := by kernel_rfl
@[go_sem] theorem tyA_40 : tyA Try.prog 40 = some (false, 1) := by kernel_rfl
@[go_sem] theorem bytesA_40 : bytesA Try.prog 40 = false := by kernel_rfl
@[go_sem] theorem knownA_40 : knownA Try.prog 40 = true := by kernel_rfl
@[go_sem] theorem concA_40 : concA Try.prog 40 = true := by kernel_rfl
@[go_sem] theorem ikA_40 : ikA Try.prog 40 = none := by kernel_rfl
@[go_sem] theorem bldT_40 : bldT Try.prog 40 = none := by kernel_rfl
@[go_sem] theorem zeroA_40 : zeroA Try.prog 40 = some [.raw .nilFunc] := by kernel_rfl
@[go_sem] theorem slA_40 : slA Try.prog 40 = none := by kernel_rfl
@[go_sem] theorem tyA_41 : tyA Try.prog 41 = some (false, 1) := by kernel_rfl
@[go_sem] theorem bytesA_41 : bytesA Try.prog 41 = false := by kernel_rfl
@[go_sem] theorem knownA_41 : knownA Try.prog 41 = true := by kernel_rfl
@[go_sem] theorem concA_41 : concA Try.prog 41 = true := by kernel_rfl
@[go_sem] theorem ikA_41 : ikA Try.prog 41 = none := by kernel_rfl
@[go_sem] theorem bldT_41 : bldT Try.prog 41 = none := by kernel_rfl
@[go_sem] theorem zeroA_41 : zeroA Try.prog 41 = some [.raw .nilFunc] := by kernel_rfl
@[go_sem] theorem slA_41 : slA Try.prog 41 = none := by kernel_rfl
@[go_sem] theorem tyA_42 : tyA Try.prog 42 = some (false, 1) := by kernel_rfl
@[go_sem] theorem bytesA_42 : bytesA Try.prog 42 = false := by kernel_rfl
@[go_sem] theorem knownA_42 : knownA Try.prog 42 = true := by kernel_rfl
@[go_sem] theorem concA_42 : concA Try.prog 42 = true := by kernel_rfl
@[go_sem] theorem ikA_42 : ikA Try.prog 42 = none := by kernel_rfl
@[go_sem] theorem bldT_42 : bldT Try.prog 42 = none := by kernel_rfl
@[go_sem] theorem zeroA_42 : zeroA Try.prog 42 = some [.raw .nilFunc] := by kernel_rfl
@[go_sem] theorem slA_42 : slA Try.prog 42 = none := by kernel_rfl
@[go_sem] theorem tyA_43 : tyA Try.prog 43 = some (false, 1) := by kernel_rfl
@[go_sem] theorem bytesA_43 : bytesA Try.prog 43 = false := by kernel_rfl
@[go_sem] theorem knownA_43 : knownA Try.prog 43 = true := by kernel_rfl
@[go_sem] theorem concA_43 : concA Try.prog 43 = true := by kernel_rfl
@[go_sem] theorem ikA_43 : ikA Try.prog 43 = none := by kernel_rfl
@[go_sem] theorem bldT_43 : bldT Try.prog 43 = none := by kernel_rfl
@[go_sem] theorem zeroA_43 : zeroA Try.prog 43 = some [.raw .nilFunc] := by kernel_rfl
@[go_sem] theorem slA_43 : slA Try.prog 43 = none := by kernel_rfl
@[go_sem] theorem tyA_44 : tyA Try.prog 44 = some (false, 1) := by kernel_rfl
@[go_sem] theorem bytesA_44 : bytesA Try.prog 44 = false := by kernel_rfl
@[go_sem] theorem knownA_44 : knownA Try.prog 44 = true := by kernel_rfl
@[go_sem] theorem concA_44 : concA Try.prog 44 = true := by kernel_rfl
@[go_sem] theorem ikA_44 : ikA Try.prog 44 = none := by kernel_rfl
@[go_sem] theorem bldT_44 : bldT Try.prog 44 = none := by kernel_rfl
@[go_sem] theorem zeroA_44 : zeroA Try.prog 44 = some [.raw .nilFunc] := by kernel_rfl
@[go_sem] theorem slA_44 : slA Try.prog 44 = none := by kernel_rfl
@[go_sem] theorem tyA_45 : tyA Try.prog 45 = some (false, 1) := by kernel_rfl
@[go_sem] theorem bytesA_45 : bytesA Try.prog 45 = false := by kernel_rfl
@[go_sem] theorem knownA_45 : knownA Try.prog 45 = true := by kernel_rfl
@[go_sem] theorem concA_45 : concA Try.prog 45 = true := by kernel_rfl
@[go_sem] theorem ikA_45 : ikA Try.prog 45 = none := by kernel_rfl
@[go_sem] theorem bldT_45 : bldT Try.prog 45 = none := by kernel_rfl
@[go_sem] theorem zeroA_45 : zeroA Try.prog 45 = some [.raw .nilFunc] := by kernel_rfl
@[go_sem] theorem slA_45 : slA Try.prog 45 = none := by kernel_rfl
@[go_sem] theorem tyA_46 : tyA Try.prog 46 = some (false, 1) := by kernel_rfl
@[go_sem] theorem bytesA_46 : bytesA Try.prog 46 = false := by kernel_rfl
@[go_sem] theorem knownA_46 : knownA Try.prog 46 = true := by kernel_rfl
@[go_sem] theorem concA_46 : concA Try.prog 46 = true := by kernel_rfl
@[go_sem] theorem ikA_46 : ikA Try.prog 46 = none := by kernel_rfl
@[go_sem] theorem slB_46 : slB Try.prog 46 = true := by kernel_rfl
@[go_sem] theorem bldT_46 : bldT Try.prog 46 = none := by kernel_rfl
@[go_sem] theorem zeroA_46 : zeroA Try.prog 46 = some [.sl 3 [] .nil] := by kernel_rfl
@[go_sem] theorem slA_46 : slA Try.prog 46 = some 3 := by kernel_rfl
@[go_sem] theorem mkA_46 : mkA Try.prog 46 = some ([.int .i64 0, .int .i64 0, .int .i64 0], 24) := by kernel_rfl
@[go_sem] theorem apA_46 : apA Try.prog 46 = some (3, 24) := by kernel_rfl
@[go_sem] theorem partTy_46 (i : Nat) : partTy Try.prog 46 i = 49 := rfl_of_partTy (by kernel_rfl)
@[go_sem] theorem tyA_47 : tyA Try.prog 47 = some (false, 1) := by kernel_rfl
@[go_sem] theorem bytesA_47 : bytesA Try.prog 47 = false := by kernel_rfl
@[go_sem] theorem knownA_47 : knownA Try.prog 47 = true := by kernel_rfl
@[go_sem] theorem concA_47 : concA Try.prog 47 = true := by kernel_rfl
@[go_sem] theorem ikA_47 : ikA Try.prog 47 = none := by kernel_rfl
@[go_sem] theorem bldT_47 : bldT Try.prog 47 = none := by kernel_rfl
@[go_sem] theorem zeroA_47 : zeroA Try.prog 47 = some [.raw .nilFunc] := by kernel_rfl
@[go_sem] theorem slA_47 : slA Try.prog 47 = none := by kernel_rfl
@[go_sem] theorem tyA_48 : tyA Try.prog 48 = some (true, 3) := by kernel_rfl
@[go_sem] theorem bytesA_48 : bytesA Try.prog 48 = false := by kernel_rfl
@[go_sem] theorem knownA_48 : knownA Try.prog 48 = true := by kernel_rfl
@[go_sem] theorem concA_48 : concA Try.prog 48 = true := by kernel_rfl
@[go_sem] theorem ikA_48 : ikA Try.prog 48 = none := by kernel_rfl
@[go_sem] theorem bldT_48 : bldT Try.prog 48 = none := by kernel_rfl
@[go_sem] theorem zeroA_48 : zeroA Try.prog 48 = some [.int .i64 0, .int .i64 0, .int .i64 0] := by kernel_rfl
@[go_sem] theorem slA_48 : slA Try.prog 48 = none := by kernel_rfl
@[go_sem] theorem fsOk_48 : fsOk Try.prog 48 = true := by kernel_rfl
@[go_sem] theorem fldA_48_0 : fldA Try.prog 48 0 = some 0 := by kernel_rfl
@[go_sem] theorem fpA_48_0 : fpA Try.prog 48 0 = some (0, false, 1) := by kernel_rfl
@[go_sem] theorem plA_48_0 : plA Try.prog 48 0 = some (0, 1) := by kernel_rfl
@[go_sem] theorem partTy_48_0 : partTy Try.prog 48 0 = 3 := by kernel_rfl
@[go_sem] theorem fldA_48_1 : fldA Try.prog 48 1 = some 1 := by kernel_rfl
@[go_sem] theorem fpA_48_1 : fpA Try.prog 48 1 = some (1, false, 1) := by kernel_rfl
@[go_sem] theorem plA_48_1 : plA Try.prog 48 1 = some (1, 1) := by kernel_rfl
@[go_sem] theorem partTy_48_1 : partTy Try.prog 48 1 = 3 := by kernel_rfl
@[go_sem] theorem fldA_48_2 : fldA Try.prog 48 2 = some 2 := by kernel_rfl
@[go_sem] theorem fpA_48_2 : fpA Try.prog 48 2 = some (2, false, 1) := by kernel_rfl
@[go_sem] theorem plA_48_2 : plA Try.prog 48 2 = some (2, 1) := by kernel_rfl
@[go_sem] theorem partTy_48_2 : partTy Try.prog 48 2 = 3 := by kernel_rfl
@[go_sem] theorem eqKs_48 : eqKs Try.prog 48 = some [.int .i64, .int .i64, .int .i64] := by kernel_rfl
@[go_sem] theorem tyA_49 : tyA Try.prog 49 = some (true, 3) := by kernel_rfl
@[go_sem] theorem bytesA_49 : bytesA Try.prog 49 = false := by kernel_rfl
@[go_sem] theorem knownA_49 : knownA Try.prog 49 = true := by kernel_rfl
@[go_sem] theorem concA_49 : concA Try.prog 49 = true := by kernel_rfl
@[go_sem] theorem ikA_49 : ikA Try.prog 49 = none := by kernel_rfl
@[go_sem] theorem bldT_49 : bldT Try.prog 49 = none := by kernel_rfl
@[go_sem] theorem zeroA_49 : zeroA Try.prog 49 = some [.int .i64 0, .int .i64 0, .int .i64 0] := by kernel_rfl
@[go_sem] theorem slA_49 : slA Try.prog 49 = none := by kernel_rfl
@[go_sem] theorem fsOk_49 : fsOk Try.prog 49 = true := by kernel_rfl
@[go_sem] theorem fldA_49_0 : fldA Try.prog 49 0 = some 0 := by kernel_rfl
@[go_sem] theorem fpA_49_0 : fpA Try.prog 49 0 = some (0, false, 1) := by kernel_rfl
@[go_sem] theorem plA_49_0 : plA Try.prog 49 0 = some (0, 1) := by kernel_rfl
@[go_sem] theorem partTy_49_0 : partTy Try.prog 49 0 = 3 := by kernel_rfl
@[go_sem] theorem fldA_49_1 : fldA Try.prog 49 1 = some 1 := by kernel_rfl
@[go_sem] theorem fpA_49_1 : fpA Try.prog 49 1 = some (1, false, 1) := by kernel_rfl
@[go_sem] theorem plA_49_1 : plA Try.prog 49 1 = some (1, 1) := by kernel_rfl
@[go_sem] theorem partTy_49_1 : partTy Try.prog 49 1 = 3 := by kernel_rfl
@[go_sem] theorem fldA_49_2 : fldA Try.prog 49 2 = some 2 := by kernel_rfl
@[go_sem] theorem fpA_49_2 : fpA Try.prog 49 2 = some (2, false, 1) := by kernel_rfl
@[go_sem] theorem plA_49_2 : plA Try.prog 49 2 = some (2, 1) := by kernel_rfl
@[go_sem] theorem partTy_49_2 : partTy Try.prog 49 2 = 3 := by kernel_rfl
@[go_sem] theorem eqKs_49 : eqKs Try.prog 49 = some [.int .i64, .int .i64, .int .i64] := by kernel_rfl
@[go_sem] theorem tyA_50 : tyA Try.prog 50 = some (false, 1) := by kernel_rfl
@[go_sem] theorem bytesA_50 : bytesA Try.prog 50 = false := by kernel_rfl
@[go_sem] theorem knownA_50 : knownA Try.prog 50 = true := by kernel_rfl
@[go_sem] theorem concA_50 : concA Try.prog 50 = true := by kernel_rfl
@[go_sem] theorem ikA_50 : ikA Try.prog 50 = none := by kernel_rfl
@[go_sem] theorem bldT_50 : bldT Try.prog 50 = none := by kernel_rfl
@[go_sem] theorem zeroA_50 : zeroA Try.prog 50 = some [.raw .nilFunc] := by kernel_rfl
@[go_sem] theorem slA_50 : slA Try.prog 50 = none := by kernel_rfl
@[go_sem] theorem tyA_51 : tyA Try.prog 51 = some (false, 1) := by kernel_rfl
@[go_sem] theorem bytesA_51 : bytesA Try.prog 51 = false := by kernel_rfl
@[go_sem] theorem knownA_51 : knownA Try.prog 51 = true := by kernel_rfl
@[go_sem] theorem concA_51 : concA Try.prog 51 = true := by kernel_rfl
@[go_sem] theorem ikA_51 : ikA Try.prog 51 = none := by kernel_rfl
@[go_sem] theorem bldT_51 : bldT Try.prog 51 = none := by kernel_rfl
@[go_sem] theorem zeroA_51 : zeroA Try.prog 51 = some [.raw .nilFunc] := by kernel_rfl
@[go_sem] theorem slA_51 : slA Try.prog 51 = none := by kernel_rfl
@[go_sem] theorem tyA_52 : tyA Try.prog 52 = some (false, 1) := by kernel_rfl
@[go_sem] theorem bytesA_52 : bytesA Try.prog 52 = false := by kernel_rfl
@[go_sem] theorem knownA_52 : knownA Try.prog 52 = true := by kernel_rfl
@[go_sem] theorem concA_52 : concA Try.prog 52 = true := by kernel_rfl
@[go_sem] theorem ikA_52 : ikA Try.prog 52 = none := by kernel_rfl
@[go_sem] theorem slB_52 : slB Try.prog 52 = true := by kernel_rfl
@[go_sem] theorem bldT_52 : bldT Try.prog 52 = none := by kernel_rfl
@[go_sem] theorem zeroA_52 : zeroA Try.prog 52 = some [.sl 3 [] .nil] := by kernel_rfl
@[go_sem] theorem slA_52 : slA Try.prog 52 = some 3 := by kernel_rfl
@[go_sem] theorem mkA_52 : mkA Try.prog 52 = some ([.int .i64 0, .int .i64 0, .int .i64 0], 24) := by kernel_rfl
@[go_sem] theorem apA_52 : apA Try.prog 52 = some (3, 24) := by kernel_rfl
@[go_sem] theorem partTy_52 (i : Nat) : partTy Try.prog 52 i = 58 := rfl_of_partTy (by kernel_rfl)
@[go_sem] theorem tyA_54 : tyA Try.prog 54 = some (false, 1) := by kernel_rfl
@[go_sem] theorem bytesA_54 : bytesA Try.prog 54 = false := by kernel_rfl
@[go_sem] theorem knownA_54 : knownA Try.prog 54 = true := by kernel_rfl
@[go_sem] theorem concA_54 : concA Try.prog 54 = true := by kernel_rfl
@[go_sem] theorem ikA_54 : ikA Try.prog 54 = none := by kernel_rfl
@[go_sem] theorem bldT_54 : bldT Try.prog 54 = none := by kernel_rfl
@[go_sem] theorem zeroA_54 : zeroA Try.prog 54 = some [.raw .nilFunc] := by kernel_rfl
@[go_sem] theorem slA_54 : slA Try.prog 54 = none := by kernel_rfl
@[go_sem] theorem tyA_55 : tyA Try.prog 55 = some (false, 1) := by kernel_rfl
@[go_sem] theorem bytesA_55 : bytesA Try.prog 55 = false := by kernel_rfl
@[go_sem] theorem knownA_55 : knownA Try.prog 55 = true := by kernel_rfl
@[go_sem] theorem concA_55 : concA Try.prog 55 = true := by kernel_rfl
@[go_sem] theorem ikA_55 : ikA Try.prog 55 = none := by kernel_rfl
@[go_sem] theorem bldT_55 : bldT Try.prog 55 = none := by kernel_rfl
@[go_sem] theorem zeroA_55 : zeroA Try.prog 55 = some [.raw .nilFunc] := by kernel_rfl
@[go_sem] theorem slA_55 : slA Try.prog 55 = none := by kernel_rfl
@[go_sem] theorem tyA_56 : tyA Try.prog 56 = some (false, 1) := by kernel_rfl
@[go_sem] theorem bytesA_56 : bytesA Try.prog 56 = false := by kernel_rfl
@[go_sem] theorem knownA_56 : knownA Try.prog 56 = true := by kernel_rfl
@[go_sem] theorem concA_56 : concA Try.prog 56 = true := by kernel_rfl
@[go_sem] theorem ikA_56 : ikA Try.prog 56 = none := by kernel_rfl
@[go_sem] theorem bldT_56 : bldT Try.prog 56 = none := by kernel_rfl
@[go_sem] theorem zeroA_56 : zeroA Try.prog 56 = some [.raw .nilFunc] := by kernel_rfl
@[go_sem] theorem slA_56 : slA Try.prog 56 = none := by kernel_rfl
@[go_sem] theorem tyA_57 : tyA Try.prog 57 = some (true, 3) := by kernel_rfl
@[go_sem] theorem bytesA_57 : bytesA Try.prog 57 = false := by kernel_rfl
@[go_sem] theorem knownA_57 : knownA Try.prog 57 = true := by kernel_rfl
@[go_sem] theorem concA_57 : concA Try.prog 57 = true := by kernel_rfl
@[go_sem] theorem ikA_57 : ikA Try.prog 57 = none := by kernel_rfl
@[go_sem] theorem bldT_57 : bldT Try.prog 57 = none := by kernel_rfl
@[go_sem] theorem zeroA_57 : zeroA Try.prog 57 = some [.int .i64 0, .int .i64 0, .int .i64 0] := by kernel_rfl
@[go_sem] theorem slA_57 : slA Try.prog 57 = none := by kernel_rfl
@[go_sem] theorem fsOk_57 : fsOk Try.prog 57 = true := by kernel_rfl
@[go_sem] theorem fldA_57_0 : fldA Try.prog 57 0 = some 0 := by kernel_rfl
@[go_sem] theorem fpA_57_0 : fpA Try.prog 57 0 = some (0, false, 1) := by kernel_rfl
@[go_sem] theorem plA_57_0 : plA Try.prog 57 0 = some (0, 1) := by kernel_rfl
@[go_sem] theorem partTy_57_0 : partTy Try.prog 57 0 = 3 := by kernel_rfl
@[go_sem] theorem fldA_57_1 : fldA Try.prog 57 1 = some 1 := by kernel_rfl
@[go_sem] theorem fpA_57_1 : fpA Try.prog 57 1 = some (1, false, 1) := by kernel_rfl
@[go_sem] theorem plA_57_1 : plA Try.prog 57 1 = some (1, 1) := by kernel_rfl
@[go_sem] theorem partTy_57_1 : partTy Try.prog 57 1 = 3 := by kernel_rfl
@[go_sem] theorem fldA_57_2 : fldA Try.prog 57 2 = some 2 := by kernel_rfl
@[go_sem] theorem fpA_57_2 : fpA Try.prog 57 2 = some (2, false, 1) := by kernel_rfl
@[go_sem] theorem plA_57_2 : plA Try.prog 57 2 = some (2, 1) := by kernel_rfl
@[go_sem] theorem partTy_57_2 : partTy Try.prog 57 2 = 3 := by kernel_rfl
@[go_sem] theorem eqKs_57 : eqKs Try.prog 57 = some [.int .i64, .int .i64, .int .i64] := by kernel_rfl
@[go_sem] theorem tyA_58 : tyA Try.prog 58 = some (true, 3) := by kernel_rfl
@[go_sem] theorem bytesA_58 : bytesA Try.prog 58 = false := by kernel_rfl
@[go_sem] theorem knownA_58 : knownA Try.prog 58 = true := by kernel_rfl
@[go_sem] theorem concA_58 : concA Try.prog 58 = true := by kernel_rfl
@[go_sem] theorem ikA_58 : ikA Try.prog 58 = none := by kernel_rfl
@[go_sem] theorem bldT_58 : bldT Try.prog 58 = none := by kernel_rfl
@[go_sem] theorem zeroA_58 : zeroA Try.prog 58 = some [.int .i64 0, .int .i64 0, .int .i64 0] := by kernel_rfl
@[go_sem] theorem slA_58 : slA Try.prog 58 = none := by kernel_rfl
@[go_sem] theorem fsOk_58 : fsOk Try.prog 58 = true := by kernel_rfl
@[go_sem] theorem fldA_58_0 : fldA Try.prog 58 0 = some 0 := by kernel_rfl
@[go_sem] theorem fpA_58_0 : fpA Try.prog 58 0 = some (0, false, 1) := by kernel_rfl
@[go_sem] theorem plA_58_0 : plA Try.prog 58 0 = some (0, 1) := by kernel_rfl
@[go_sem] theorem partTy_58_0 : partTy Try.prog 58 0 = 3 := by kernel_rfl
@[go_sem] theorem fldA_58_1 : fldA Try.prog 58 1 = some 1 := by kernel_rfl
@[go_sem] theorem fpA_58_1 : fpA Try.prog 58 1 = some (1, false, 1) := by kernel_rfl
@[go_sem] theorem plA_58_1 : plA Try.prog 58 1 = some (1, 1) := by kernel_rfl
@[go_sem] theorem partTy_58_1 : partTy Try.prog 58 1 = 3 := by kernel_rfl
@[go_sem] theorem fldA_58_2 : fldA Try.prog 58 2 = some 2 := by kernel_rfl
@[go_sem] theorem fpA_58_2 : fpA Try.prog 58 2 = some (2, false, 1) := by kernel_rfl
@[go_sem] theorem plA_58_2 : plA Try.prog 58 2 = some (2, 1) := by kernel_rfl
@[go_sem] theorem partTy_58_2 : partTy Try.prog 58 2 = 3 := by kernel_rfl
@[go_sem] theorem eqKs_58 : eqKs Try.prog 58 = some [.int .i64, .int .i64, .int .i64] := by kernel_rfl
@[go_sem] theorem tyA_59 : tyA Try.prog 59 = some (false, 1) := by kernel_rfl
@[go_sem] theorem bytesA_59 : bytesA Try.prog 59 = false := by kernel_rfl
@[go_sem] theorem knownA_59 : knownA Try.prog 59 = true := by kernel_rfl
@[go_sem] theorem concA_59 : concA Try.prog 59 = true := by kernel_rfl
@[go_sem] theorem ikA_59 : ikA Try.prog 59 = none := by kernel_rfl
@[go_sem] theorem bldT_59 : bldT Try.prog 59 = none := by kernel_rfl
@[go_sem] theorem zeroA_59 : zeroA Try.prog 59 = some [.raw .nilFunc] := by kernel_rfl
@[go_sem] theorem slA_59 : slA Try.prog 59 = none := by kernel_rfl
@[go_sem] theorem tyA_60 : tyA Try.prog 60 = some (false, 1) := by kernel_rfl
@[go_sem] theorem bytesA_60 : bytesA Try.prog 60 = false := by kernel_rfl
@[go_sem] theorem knownA_60 : knownA Try.prog 60 = true := by kernel_rfl
@[go_sem] theorem concA_60 : concA Try.prog 60 = true := by kernel_rfl
@[go_sem] theorem ikA_60 : ikA Try.prog 60 = none := by kernel_rfl
@[go_sem] theorem bldT_60 : bldT Try.prog 60 = none := by kernel_rfl
@[go_sem] theorem zeroA_60 : zeroA Try.prog 60 = some [.raw .nilFunc] := by kernel_rfl
@[go_sem] theorem slA_60 : slA Try.prog 60 = none := by kernel_rfl
@[go_sem] theorem tyA_61 : tyA Try.prog 61 = some (false, 1) := by kernel_rfl
@[go_sem] theorem bytesA_61 : bytesA Try.prog 61 = false := by kernel_rfl
@[go_sem] theorem knownA_61 : knownA Try.prog 61 = true := by kernel_rfl
@[go_sem] theorem concA_61 : concA Try.prog 61 = true := by kernel_rfl
@[go_sem] theorem ikA_61 : ikA Try.prog 61 = none := by kernel_rfl
@[go_sem] theorem slB_61 : slB Try.prog 61 = true := by kernel_rfl
@[go_sem] theorem bldT_61 : bldT Try.prog 61 = none := by kernel_rfl
@[go_sem] theorem zeroA_61 : zeroA Try.prog 61 = some [.sl 3 [] .nil] := by kernel_rfl
@[go_sem] theorem slA_61 : slA Try.prog 61 = some 3 := by kernel_rfl
@[go_sem] theorem mkA_61 : mkA Try.prog 61 = some ([.int .i64 0, .int .i64 0, .sl 3 [] .nil], 40) := by kernel_rfl
@[go_sem] theorem apA_61 : apA Try.prog 61 = some (3, 40) := by kernel_rfl
@[go_sem] theorem partTy_61 (i : Nat) : partTy Try.prog 61 i = 77 := rfl_of_partTy (by kernel_rfl)
@[go_sem] theorem tyA_63 : tyA Try.prog 63 = some (false, 1) := by kernel_rfl
@[go_sem] theorem bytesA_63 : bytesA Try.prog 63 = false := by kernel_rfl
@[go_sem] theorem knownA_63 : knownA Try.prog 63 = true := by kernel_rfl
@[go_sem] theorem concA_63 : concA Try.prog 63 = true := by kernel_rfl
@[go_sem] theorem ikA_63 : ikA Try.prog 63 = none := by kernel_rfl
@[go_sem] theorem bldT_63 : bldT Try.prog 63 = none := by kernel_rfl
@[go_sem] theorem zeroA_63 : zeroA Try.prog 63 = some [.raw .nilFunc] := by kernel_rfl
@[go_sem] theorem slA_63 : slA Try.prog 63 = none := by kernel_rfl
@[go_sem] theorem tyA_64 : tyA Try.prog 64 = some (false, 1) := by kernel_rfl
@[go_sem] theorem bytesA_64 : bytesA Try.prog 64 = false := by kernel_rfl
@[go_sem] theorem knownA_64 : knownA Try.prog 64 = true := by kernel_rfl
@[go_sem] theorem concA_64 : concA Try.prog 64 = true := by kernel_rfl
@[go_sem] theorem ikA_64 : ikA Try.prog 64 = none := by kernel_rfl
@[go_sem] theorem bldT_64 : bldT Try.prog 64 = none := by kernel_rfl
@[go_sem] theorem zeroA_64 : zeroA Try.prog 64 = some [.raw .nilFunc] := by kernel_rfl
@[go_sem] theorem slA_64 : slA Try.prog 64 = none := by kernel_rfl
@[go_sem] theorem tyA_65 : tyA Try.prog 65 = some (false, 1) := by kernel_rfl
@[go_sem] theorem bytesA_65 : bytesA Try.prog 65 = false := by kernel_rfl
@[go_sem] theorem knownA_65 : knownA Try.prog 65 = true := by kernel_rfl
@[go_sem] theorem concA_65 : concA Try.prog 65 = true := by kernel_rfl
@[go_sem] theorem ikA_65 : ikA Try.prog 65 = none := by kernel_rfl
@[go_sem] theorem bldT_65 : bldT Try.prog 65 = none := by kernel_rfl
@[go_sem] theorem zeroA_65 : zeroA Try.prog 65 = some [.raw .nilFunc] := by kernel_rfl
@[go_sem] theorem slA_65 : slA Try.prog 65 = none := by kernel_rfl
@[go_sem] theorem tyA_66 : tyA Try.prog 66 = some (false, 1) := by kernel_rfl
@[go_sem] theorem bytesA_66 : bytesA Try.prog 66 = false := by kernel_rfl
@[go_sem] theorem knownA_66 : knownA Try.prog 66 = true := by kernel_rfl
@[go_sem] theorem concA_66 : concA Try.prog 66 = true := by kernel_rfl
@[go_sem] theorem ikA_66 : ikA Try.prog 66 = none := by kernel_rfl
@[go_sem] theorem slB_66 : slB Try.prog 66 = true := by kernel_rfl
@[go_sem] theorem bldT_66 : bldT Try.prog 66 = none := by kernel_rfl
@[go_sem] theorem zeroA_66 : zeroA Try.prog 66 = some [.sl 1 [] .nil] := by kernel_rfl
@[go_sem] theorem slA_66 : slA Try.prog 66 = some 1 := by kernel_rfl
@[go_sem] theorem mkA_66 : mkA Try.prog 66 = some ([.sl 1 [] .nil], 24) := by kernel_rfl
@[go_sem] theorem apA_66 : apA Try.prog 66 = some (1, 24) := by kernel_rfl
@[go_sem] theorem partTy_66 (i : Nat) : partTy Try.prog 66 i = 34 := rfl_of_partTy (by kernel_rfl)
@[go_sem] theorem tyA_68 : tyA Try.prog 68 = some (false, 1) := by kernel_rfl
@[go_sem] theorem bytesA_68 : bytesA Try.prog 68 = false := by kernel_rfl
@[go_sem] theorem knownA_68 : knownA Try.prog 68 = true := by kernel_rfl
@[go_sem] theorem concA_68 : concA Try.prog 68 = true := by kernel_rfl
@[go_sem] theorem ikA_68 : ikA Try.prog 68 = none := by kernel_rfl
@[go_sem] theorem bldT_68 : bldT Try.prog 68 = none := by kernel_rfl
@[go_sem] theorem zeroA_68 : zeroA Try.prog 68 = some [.raw .nilFunc] := by kernel_rfl
@[go_sem] theorem slA_68 : slA Try.prog 68 = none := by kernel_rfl
@[go_sem] theorem tyA_69 : tyA Try.prog 69 = some (false, 1) := by kernel_rfl
@[go_sem] theorem bytesA_69 : bytesA Try.prog 69 = false := by kernel_rfl
@[go_sem] theorem knownA_69 : knownA Try.prog 69 = true := by kernel_rfl
@[go_sem] theorem concA_69 : concA Try.prog 69 = true := by kernel_rfl
@[go_sem] theorem ikA_69 : ikA Try.prog 69 = none := by kernel_rfl
@[go_sem] theorem bldT_69 : bldT Try.prog 69 = none := by kernel_rfl
@[go_sem] theorem zeroA_69 : zeroA Try.prog 69 = some [.raw .nilFunc] := by kernel_rfl
@[go_sem] theorem slA_69 : slA Try.prog 69 = none := by kernel_rfl
@[go_sem] theorem tyA_70 : tyA Try.prog 70 = some (false, 1) := by kernel_rfl
@[go_sem] theorem bytesA_70 : bytesA Try.prog 70 = false := by kernel_rfl
@[go_sem] theorem knownA_70 : knownA Try.prog 70 = true := by kernel_rfl
@[go_sem] theorem concA_70 : concA Try.prog 70 = true := by kernel_rfl
@[go_sem] theorem ikA_70 : ikA Try.prog 70 = none := by kernel_rfl
@[go_sem] theorem bldT_70 : bldT Try.prog 70 = none := by kernel_rfl
@[go_sem] theorem zeroA_70 : zeroA Try.prog 70 = some [.raw .nilFunc] := by kernel_rfl
@[go_sem] theorem slA_70 : slA Try.prog 70 = none := by kernel_rfl
@[go_sem] theorem tyA_72 : tyA Try.prog 72 = some (false, 1) := by kernel_rfl
@[go_sem] theorem bytesA_72 : bytesA Try.prog 72 = false := by kernel_rfl
@[go_sem] theorem knownA_72 : knownA Try.prog 72 = true := by kernel_rfl
@[go_sem] theorem concA_72 : concA Try.prog 72 = true := by kernel_rfl
@[go_sem] theorem ikA_72 : ikA Try.prog 72 = none := by kernel_rfl
@[go_sem] theorem bldT_72 : bldT Try.prog 72 = none := by kernel_rfl
@[go_sem] theorem zeroA_72 : zeroA Try.prog 72 = some [.raw .nilFunc] := by kernel_rfl
@[go_sem] theorem slA_72 : slA Try.prog 72 = none := by kernel_rfl
@[go_sem] theorem tyA_73 : tyA Try.prog 73 = some (false, 1) := by kernel_rfl
@[go_sem] theorem bytesA_73 : bytesA Try.prog 73 = false := by kernel_rfl
@[go_sem] theorem knownA_73 : knownA Try.prog 73 = true := by kernel_rfl
@[go_sem] theorem concA_73 : concA Try.prog 73 = true := by kernel_rfl
@[go_sem] theorem ikA_73 : ikA Try.prog 73 = none := by kernel_rfl
@[go_sem] theorem bldT_73 : bldT Try.prog 73 = none := by kernel_rfl
@[go_sem] theorem zeroA_73 : zeroA Try.prog 73 = some [.raw .nilFunc] := by kernel_rfl
@[go_sem] theorem slA_73 : slA Try.prog 73 = none := by kernel_rfl
@[go_sem] theorem tyA_74 : tyA Try.prog 74 = some (false, 1) := by kernel_rfl
@[go_sem] theorem bytesA_74 : bytesA Try.prog 74 = false := by kernel_rfl
@[go_sem] theorem knownA_74 : knownA Try.prog 74 = true := by kernel_rfl
@[go_sem] theorem concA_74 : concA Try.prog 74 = true := by kernel_rfl
@[go_sem] theorem ikA_74 : ikA Try.prog 74 = none := by kernel_rfl
@[go_sem] theorem slB_74 : slB Try.prog 74 = true := by kernel_rfl
@[go_sem] theorem bldT_74 : bldT Try.prog 74 = none := by kernel_rfl
@[go_sem] theorem zeroA_74 : zeroA Try.prog 74 = some [.sl 4 [] .nil] := by kernel_rfl
@[go_sem] theorem slA_74 : slA Try.prog 74 = some 4 := by kernel_rfl
@[go_sem] theorem mkA_74 : mkA Try.prog 74 = some ([.int .i64 0, .int .i64 0, .int .i64 0, .int .i64 0], 32) := by kernel_rfl
@[go_sem] theorem apA_74 : apA Try.prog 74 = some (4, 32) := by kernel_rfl
@[go_sem] theorem partTy_74 (i : Nat) : partTy Try.prog 74 i = 85 := rfl_of_partTy (by kernel_rfl)
@[go_sem] theorem tyA_75 : tyA Try.prog 75 = some (false, 1) := by kernel_rfl
@[go_sem] theorem bytesA_75 : bytesA Try.prog 75 = false := by kernel_rfl
@[go_sem] theorem knownA_75 : knownA Try.prog 75 = true := by kernel_rfl
@[go_sem] theorem concA_75 : concA Try.prog 75 = true := by kernel_rfl
@[go_sem] theorem ikA_75 : ikA Try.prog 75 = none := by kernel_rfl
@[go_sem] theorem bldT_75 : bldT Try.prog 75 = none := by kernel_rfl
@[go_sem] theorem zeroA_75 : zeroA Try.prog 75 = some [.raw .nilFunc] := by kernel_rfl
@[go_sem] theorem slA_75 : slA Try.prog 75 = none := by kernel_rfl
@[go_sem] theorem tyA_76 : tyA Try.prog 76 = some (true, 3) := by kernel_rfl
@[go_sem] theorem bytesA_76 : bytesA Try.prog 76 = false := by kernel_rfl
@[go_sem] theorem knownA_76 : knownA Try.prog 76 = true := by kernel_rfl
@[go_sem] theorem concA_76 : concA Try.prog 76 = true := by kernel_rfl
@[go_sem] theorem ikA_76 : ikA Try.prog 76 = none := by kernel_rfl
@[go_sem] theorem bldT_76 : bldT Try.prog 76 = none := by kernel_rfl
@[go_sem] theorem zeroA_76 : zeroA Try.prog 76 = some [.int .i64 0, .int .i64 0, .sl 3 [] .nil] := by kernel_rfl
@[go_sem] theorem slA_76 : slA Try.prog 76 = none := by kernel_rfl
@[go_sem] theorem fsOk_76 : fsOk Try.prog 76 = true := by kernel_rfl
@[go_sem] theorem fldA_76_0 : fldA Try.prog 76 0 = some 0 := by kernel_rfl
@[go_sem] theorem fpA_76_0 : fpA Try.prog 76 0 = some (0, false, 1) := by kernel_rfl
@[go_sem] theorem plA_76_0 : plA Try.prog 76 0 = some (0, 1) := by kernel_rfl
@[go_sem] theorem partTy_76_0 : partTy Try.prog 76 0 = 3 := by kernel_rfl
@[go_sem] theorem fldA_76_1 : fldA Try.prog 76 1 = some 1 := by kernel_rfl
@[go_sem] theorem fpA_76_1 : fpA Try.prog 76 1 = some (1, false, 1) := by kernel_rfl
@[go_sem] theorem plA_76_1 : plA Try.prog 76 1 = some (1, 1) := by kernel_rfl
@[go_sem] theorem partTy_76_1 : partTy Try.prog 76 1 = 3 := by kernel_rfl
@[go_sem] theorem fldA_76_2 : fldA Try.prog 76 2 = some 2 := by kernel_rfl
@[go_sem] theorem fpA_76_2 : fpA Try.prog 76 2 = some (2, false, 1) := by kernel_rfl
@[go_sem] theorem plA_76_2 : plA Try.prog 76 2 = some (2, 1) := by kernel_rfl
@[go_sem] theorem partTy_76_2 : partTy Try.prog 76 2 = 46 := by kernel_rfl
@[go_sem] theorem tyA_77 : tyA Try.prog 77 = some (true, 3) := by kernel_rfl
@[go_sem] theorem bytesA_77 : bytesA Try.prog 77 = false := by kernel_rfl
@[go_sem] theorem knownA_77 : knownA Try.prog 77 = true := by kernel_rfl
@[go_sem] theorem concA_77 : concA Try.prog 77 = true := by kernel_rfl
@[go_sem] theorem ikA_77 : ikA Try.prog 77 = none := by kernel_rfl
@[go_sem] theorem bldT_77 : bldT Try.prog 77 = none := by kernel_rfl
@[go_sem] theorem zeroA_77 : zeroA Try.prog 77 = some [.int .i64 0, .int .i64 0, .sl 3 [] .nil] := by kernel_rfl
@[go_sem] theorem slA_77 : slA Try.prog 77 = none := by kernel_rfl
@[go_sem] theorem fsOk_77 : fsOk Try.prog 77 = true := by kernel_rfl
@[go_sem] theorem fldA_77_0 : fldA Try.prog 77 0 = some 0 := by kernel_rfl
@[go_sem] theorem fpA_77_0 : fpA Try.prog 77 0 = some (0, false, 1) := by kernel_rfl
@[go_sem] theorem plA_77_0 : plA Try.prog 77 0 = some (0, 1) := by kernel_rfl
@[go_sem] theorem partTy_77_0 : partTy Try.prog 77 0 = 3 := by kernel_rfl
@[go_sem] theorem fldA_77_1 : fldA Try.prog 77 1 = some 1 := by kernel_rfl
@[go_sem] theorem fpA_77_1 : fpA Try.prog 77 1 = some (1, false, 1) := by kernel_rfl
@[go_sem] theorem plA_77_1 : plA Try.prog 77 1 = some (1, 1) := by kernel_rfl
@[go_sem] theorem partTy_77_1 : partTy Try.prog 77 1 = 3 := by kernel_rfl
@[go_sem] theorem fldA_77_2 : fldA Try.prog 77 2 = some 2 := by kernel_rfl
@[go_sem] theorem fpA_77_2 : fpA Try.prog 77 2 = some (2, false, 1) := by kernel_rfl
@[go_sem] theorem plA_77_2 : plA Try.prog 77 2 = some (2, 1) := by kernel_rfl
@[go_sem] theorem partTy_77_2 : partTy Try.prog 77 2 = 46 := by kernel_rfl
@[go_sem] theorem tyA_79 : tyA Try.prog 79 = some (false, 1) := by kernel_rfl
@[go_sem] theorem bytesA_79 : bytesA Try.prog 79 = false := by kernel_rfl
@[go_sem] theorem knownA_79 : knownA Try.prog 79 = true := by kernel_rfl
@[go_sem] theorem concA_79 : concA Try.prog 79 = true := by kernel_rfl
@[go_sem] theorem ikA_79 : ikA Try.prog 79 = none := by kernel_rfl
@[go_sem] theorem bldT_79 : bldT Try.prog 79 = none := by kernel_rfl
@[go_sem] theorem zeroA_79 : zeroA Try.prog 79 = some [.raw .nilFunc] := by kernel_rfl
@[go_sem] theorem slA_79 : slA Try.prog 79 = none := by kernel_rfl
@[go_sem] theorem tyA_81 : tyA Try.prog 81 = some (false, 1) := by kernel_rfl
@[go_sem] theorem bytesA_81 : bytesA Try.prog 81 = false := by kernel_rfl
@[go_sem] theorem knownA_81 : knownA Try.prog 81 = true := by kernel_rfl
@[go_sem] theorem concA_81 : concA Try.prog 81 = true := by kernel_rfl
@[go_sem] theorem ikA_81 : ikA Try.prog 81 = none := by kernel_rfl
@[go_sem] theorem bldT_81 : bldT Try.prog 81 = none := by kernel_rfl
@[go_sem] theorem zeroA_81 : zeroA Try.prog 81 = some [.raw .nilFunc] := by kernel_rfl
@[go_sem] theorem slA_81 : slA Try.prog 81 = none := by kernel_rfl
@[go_sem] theorem tyA_82 : tyA Try.prog 82 = some (false, 1) := by kernel_rfl
@[go_sem] theorem bytesA_82 : bytesA Try.prog 82 = false := by kernel_rfl
@[go_sem] theorem knownA_82 : knownA Try.prog 82 = true := by kernel_rfl
@[go_sem] theorem concA_82 : concA Try.prog 82 = true := by kernel_rfl
@[go_sem] theorem ikA_82 : ikA Try.prog 82 = none := by kernel_rfl
@[go_sem] theorem bldT_82 : bldT Try.prog 82 = none := by kernel_rfl
@[go_sem] theorem zeroA_82 : zeroA Try.prog 82 = some [.raw .nilFunc] := by kernel_rfl
@[go_sem] theorem slA_82 : slA Try.prog 82 = none := by kernel_rfl
@[go_sem] theorem tyA_83 : tyA Try.prog 83 = some (false, 1) := by kernel_rfl
@[go_sem] theorem bytesA_83 : bytesA Try.prog 83 = false := by kernel_rfl
@[go_sem] theorem knownA_83 : knownA Try.prog 83 = true := by kernel_rfl
@[go_sem] theorem concA_83 : concA Try.prog 83 = true := by kernel_rfl
@[go_sem] theorem ikA_83 : ikA Try.prog 83 = none := by kernel_rfl
@[go_sem] theorem bldT_83 : bldT Try.prog 83 = none := by kernel_rfl
@[go_sem] theorem zeroA_83 : zeroA Try.prog 83 = some [.raw .nilFunc] := by kernel_rfl
@[go_sem] theorem slA_83 : slA Try.prog 83 = none := by kernel_rfl
@[go_sem] theorem tyA_84 : tyA Try.prog 84 = some (true, 4) := by kernel_rfl
@[go_sem] theorem bytesA_84 : bytesA Try.prog 84 = false := by kernel_rfl
@[go_sem] theorem knownA_84 : knownA Try.prog 84 = true := by kernel_rfl
@[go_sem] theorem concA_84 : concA Try.prog 84 = true := by kernel_rfl
@[go_sem] theorem ikA_84 : ikA Try.prog 84 = none := by kernel_rfl
@[go_sem] theorem bldT_84 : bldT Try.prog 84 = none := by kernel_rfl
@[go_sem] theorem zeroA_84 : zeroA Try.prog 84 = some [.int .i64 0, .int .i64 0, .int .i64 0, .int .i64 0] := by kernel_rfl
@[go_sem] theorem slA_84 : slA Try.prog 84 = none := by kernel_rfl
@[go_sem] theorem fsOk_84 : fsOk Try.prog 84 = true := by kernel_rfl
@[go_sem] theorem fldA_84_0 : fldA Try.prog 84 0 = some 0 := by kernel_rfl
@[go_sem] theorem fpA_84_0 : fpA Try.prog 84 0 = some (0, false, 1) := by kernel_rfl
@[go_sem] theorem plA_84_0 : plA Try.prog 84 0 = some (0, 1) := by kernel_rfl
@[go_sem] theorem partTy_84_0 : partTy Try.prog 84 0 = 3 := by kernel_rfl
@[go_sem] theorem fldA_84_1 : fldA Try.prog 84 1 = some 1 := by kernel_rfl
@[go_sem] theorem fpA_84_1 : fpA Try.prog 84 1 = some (1, false, 1) := by kernel_rfl
@[go_sem] theorem plA_84_1 : plA Try.prog 84 1 = some (1, 1) := by kernel_rfl
@[go_sem] theorem partTy_84_1 : partTy Try.prog 84 1 = 3 := by kernel_rfl
@[go_sem] theorem fldA_84_2 : fldA Try.prog 84 2 = some 2 := by kernel_rfl
@[go_sem] theorem fpA_84_2 : fpA Try.prog 84 2 = some (2, false, 1) := by kernel_rfl
@[go_sem] theorem plA_84_2 : plA Try.prog 84 2 = some (2, 1) := by kernel_rfl
@[go_sem] theorem partTy_84_2 : partTy Try.prog 84 2 = 3 := by kernel_rfl
@[go_sem] theorem fldA_84_3 : fldA Try.prog 84 3 = some 3 := by kernel_rfl
@[go_sem] theorem fpA_84_3 : fpA Try.prog 84 3 = some (3, false, 1) := by kernel_rfl
@[go_sem] theorem plA_84_3 : plA Try.prog 84 3 = some (3, 1) := by kernel_rfl
@[go_sem] theorem partTy_84_3 : partTy Try.prog 84 3 = 3 := by kernel_rfl
@[go_sem] theorem eqKs_84 : eqKs Try.prog 84 = some [.int .i64, .int .i64, .int .i64, .int .i64] := by kernel_rfl
@[go_sem] theorem tyA_85 : tyA Try.prog 85 = some (true, 4) := by kernel_rfl
@[go_sem] theorem bytesA_85 : bytesA Try.prog 85 = false := by kernel_rfl
@[go_sem] theorem knownA_85 : knownA Try.prog 85 = true := by kernel_rfl
@[go_sem] theorem concA_85 : concA Try.prog 85 = true := by kernel_rfl
@[go_sem] theorem ikA_85 : ikA Try.prog 85 = none := by kernel_rfl
@[go_sem] theorem bldT_85 : bldT Try.prog 85 = none := by kernel_rfl
@[go_sem] theorem zeroA_85 : zeroA Try.prog 85 = some [.int .i64 0, .int .i64 0, .int .i64 0, .int .i64 0] := by kernel_rfl
@[go_sem] theorem slA_85 : slA Try.prog 85 = none := by kernel_rfl
@[go_sem] theorem fsOk_85 : fsOk Try.prog 85 = true := by kernel_rfl
@[go_sem] theorem fldA_85_0 : fldA Try.prog 85 0 = some 0 := by kernel_rfl
@[go_sem] theorem fpA_85_0 : fpA Try.prog 85 0 = some (0, false, 1) := by kernel_rfl
@[go_sem] theorem plA_85_0 : plA Try.prog 85 0 = some (0, 1) := by kernel_rfl
@[go_sem] theorem partTy_85_0 : partTy Try.prog 85 0 = 3 := by kernel_rfl
@[go_sem] theorem fldA_85_1 : fldA Try.prog 85 1 = some 1 := by kernel_rfl
@[go_sem] theorem fpA_85_1 : fpA Try.prog 85 1 = some (1, false, 1) := by kernel_rfl
@[go_sem] theorem plA_85_1 : plA Try.prog 85 1 = some (1, 1) := by kernel_rfl
@[go_sem] theorem partTy_85_1 : partTy Try.prog 85 1 = 3 := by kernel_rfl
@[go_sem] theorem fldA_85_2 : fldA Try.prog 85 2 = some 2 := by kernel_rfl
@[go_sem] theorem fpA_85_2 : fpA Try.prog 85 2 = some (2, false, 1) := by kernel_rfl
@[go_sem] theorem plA_85_2 : plA Try.prog 85 2 = some (2, 1) := by kernel_rfl
@[go_sem] theorem partTy_85_2 : partTy Try.prog 85 2 = 3 := by kernel_rfl
@[go_sem] theorem fldA_85_3 : fldA Try.prog 85 3 = some 3 := by kernel_rfl
@[go_sem] theorem fpA_85_3 : fpA Try.prog 85 3 = some (3, false, 1) := by kernel_rfl
@[go_sem] theorem plA_85_3 : plA Try.prog 85 3 = some (3, 1) := by kernel_rfl
@[go_sem] theorem partTy_85_3 : partTy Try.prog 85 3 = 3 := by kernel_rfl
@[go_sem] theorem eqKs_85 : eqKs Try.prog 85 = some [.int .i64, .int .i64, .int .i64, .int .i64] := by kernel_rfl
@[go_sem] theorem tyA_86 : tyA Try.prog 86 = some (false, 1) := by kernel_rfl
@[go_sem] theorem bytesA_86 : bytesA Try.prog 86 = false := by kernel_rfl
@[go_sem] theorem knownA_86 : knownA Try.prog 86 = true := by kernel_rfl
@[go_sem] theorem concA_86 : concA Try.prog 86 = true := by kernel_rfl
@[go_sem] theorem ikA_86 : ikA Try.prog 86 = none := by kernel_rfl
@[go_sem] theorem bldT_86 : bldT Try.prog 86 = none := by kernel_rfl
@[go_sem] theorem zeroA_86 : zeroA Try.prog 86 = some [.raw .nilFunc] := by kernel_rfl
@[go_sem] theorem slA_86 : slA Try.prog 86 = none := by kernel_rfl
@[go_sem] theorem tyA_87 : tyA Try.prog 87 = some (false, 1) := by kernel_rfl
@[go_sem] theorem bytesA_87 : bytesA Try.prog 87 = false := by kernel_rfl
@[go_sem] theorem knownA_87 : knownA Try.prog 87 = true := by kernel_rfl
@[go_sem] theorem concA_87 : concA Try.prog 87 = true := by kernel_rfl
@[go_sem] theorem ikA_87 : ikA Try.prog 87 = none := by kernel_rfl
@[go_sem] theorem slB_87 : slB Try.prog 87 = true := by kernel_rfl
@[go_sem] theorem bldT_87 : bldT Try.prog 87 = none := by kernel_rfl
@[go_sem] theorem zeroA_87 : zeroA Try.prog 87 = some [.sl 2 [] .nil] := by kernel_rfl
@[go_sem] theorem slA_87 : slA Try.prog 87 = some 2 := by kernel_rfl
@[go_sem] theorem mkA_87 : mkA Try.prog 87 = some ([.sl 4 [] .nil, .sl 1 [] .nil], 48) := by kernel_rfl
@[go_sem] theorem apA_87 : apA Try.prog 87 = some (2, 48) := by kernel_rfl
@[go_sem] theorem partTy_87 (i : Nat) : partTy Try.prog 87 i = 94 := rfl_of_partTy (by kernel_rfl)
@[go_sem] theorem tyA_89 : tyA Try.prog 89 = some (false, 1) := by kernel_rfl
@[go_sem] theorem bytesA_89 : bytesA Try.prog 89 = false := by kernel_rfl
@[go_sem] theorem knownA_89 : knownA Try.prog 89 = true := by kernel_rfl
@[go_sem] theorem concA_89 : concA Try.prog 89 = true := by kernel_rfl
@[go_sem] theorem ikA_89 : ikA Try.prog 89 = none := by kernel_rfl
@[go_sem] theorem bldT_89 : bldT Try.prog 89 = none := by kernel_rfl
@[go_sem] theorem zeroA_89 : zeroA Try.prog 89 = some [.raw .nilFunc] := by kernel_rfl
@[go_sem] theorem slA_89 : slA Try.prog 89 = none := by kernel_rfl
@[go_sem] theorem tyA_90 : tyA Try.prog 90 = some (false, 1) := by kernel_rfl
@[go_sem] theorem bytesA_90 : bytesA Try.prog 90 = false := by kernel_rfl
@[go_sem] theorem knownA_90 : knownA Try.prog 90 = true := by kernel_rfl
@[go_sem] theorem concA_90 : concA Try.prog 90 = true := by kernel_rfl
@[go_sem] theorem ikA_90 : ikA Try.prog 90 = none := by kernel_rfl
@[go_sem] theorem bldT_90 : bldT Try.prog 90 = none := by kernel_rfl
@[go_sem] theorem zeroA_90 : zeroA Try.prog 90 = some [.raw .nilFunc] := by kernel_rfl
@[go_sem] theorem slA_90 : slA Try.prog 90 = none := by kernel_rfl
@[go_sem] theorem tyA_91 : tyA Try.prog 91 = some (false, 1) := by kernel_rfl
@[go_sem] theorem bytesA_91 : bytesA Try.prog 91 = false := by kernel_rfl
@[go_sem] theorem knownA_91 : knownA Try.prog 91 = true := by kernel_rfl
@[go_sem] theorem concA_91 : concA Try.prog 91 = true := by kernel_rfl
@[go_sem] theorem ikA_91 : ikA Try.prog 91 = none := by kernel_rfl
@[go_sem] theorem bldT_91 : bldT Try.prog 91 = none := by kernel_rfl
@[go_sem] theorem zeroA_91 : zeroA Try.prog 91 = some [.raw .nilFunc] := by kernel_rfl
@[go_sem] theorem slA_91 : slA Try.prog 91 = none := by kernel_rfl
@[go_sem] theorem tyA_92 : tyA Try.prog 92 = some (false, 1) := by kernel_rfl
@[go_sem] theorem bytesA_92 : bytesA Try.prog 92 = false := by kernel_rfl
@[go_sem] theorem knownA_92 : knownA Try.prog 92 = true := by kernel_rfl
@[go_sem] theorem concA_92 : concA Try.prog 92 = true := by kernel_rfl
@[go_sem] theorem ikA_92 : ikA Try.prog 92 = none := by kernel_rfl
@[go_sem] theorem bldT_92 : bldT Try.prog 92 = none := by kernel_rfl
@[go_sem] theorem zeroA_92 : zeroA Try.prog 92 = some [.raw .nilFunc] := by kernel_rfl
@[go_sem] theorem slA_92 : slA Try.prog 92 = none := by kernel_rfl
@[go_sem] theorem tyA_93 : tyA Try.prog 93 = some (true, 2) := by kernel_rfl
@[go_sem] theorem bytesA_93 : bytesA Try.prog 93 = false := by kernel_rfl
@[go_sem] theorem knownA_93 : knownA Try.prog 93 = true := by kernel_rfl
@[go_sem] theorem concA_93 : concA Try.prog 93 = true := by kernel_rfl
@[go_sem] theorem ikA_93 : ikA Try.prog 93 = none := by kernel_rfl
@[go_sem] theorem bldT_93 : bldT Try.prog 93 = none := by kernel_rfl
@[go_sem] theorem zeroA_93 : zeroA Try.prog 93 = some [.sl 4 [] .nil, .sl 1 [] .nil] := by kernel_rfl
@[go_sem] theorem slA_93 : slA Try.prog 93 = none := by kernel_rfl
@[go_sem] theorem fsOk_93 : fsOk Try.prog 93 = true := by kernel_rfl
@[go_sem] theorem fldA_93_0 : fldA Try.prog 93 0 = some 0 := by kernel_rfl
@[go_sem] theorem fpA_93_0 : fpA Try.prog 93 0 = some (0, false, 1) := by kernel_rfl
@[go_sem] theorem plA_93_0 : plA Try.prog 93 0 = some (0, 1) := by kernel_rfl
@[go_sem] theorem partTy_93_0 : partTy Try.prog 93 0 = 74 := by kernel_rfl
@[go_sem] theorem fldA_93_1 : fldA Try.prog 93 1 = some 1 := by kernel_rfl
@[go_sem] theorem fpA_93_1 : fpA Try.prog 93 1 = some (1, false, 1) := by kernel_rfl
@[go_sem] theorem plA_93_1 : plA Try.prog 93 1 = some (1, 1) := by kernel_rfl
@[go_sem] theorem partTy_93_1 : partTy Try.prog 93 1 = 34 := by kernel_rfl
@[go_sem] theorem tyA_94 : tyA Try.prog 94 = some (true, 2) := by kernel_rfl
@[go_sem] theorem bytesA_94 : bytesA Try.prog 94 = false := by kernel_rfl
@[go_sem] theorem knownA_94 : knownA Try.prog 94 = true := by kernel_rfl
@[go_sem] theorem concA_94 : concA Try.prog 94 = true := by kernel_rfl
@[go_sem] theorem ikA_94 : ikA Try.prog 94 = none := by kernel_rfl
@[go_sem] theorem bldT_94 : bldT Try.prog 94 = none := by kernel_rfl
@[go_sem] theorem zeroA_94 : zeroA Try.prog 94 = some [.sl 4 [] .nil, .sl 1 [] .nil] := by kernel_rfl
@[go_sem] theorem slA_94 : slA Try.prog 94 = none := by kernel_rfl
@[go_sem] theorem fsOk_94 : fsOk Try.prog 94 = true := by kernel_rfl
@[go_sem] theorem fldA_94_0 : fldA Try.prog 94 0 = some 0 := by kernel_rfl
@[go_sem] theorem fpA_94_0 : fpA Try.prog 94 0 = some (0, false, 1) := by kernel_rfl
@[go_sem] theorem plA_94_0 : plA Try.prog 94 0 = some (0, 1) := by kernel_rfl
@[go_sem] theorem partTy_94_0 : partTy Try.prog 94 0 = 74 := by kernel_rfl
@[go_sem] theorem fldA_94_1 : fldA Try.prog 94 1 = some 1 := by kernel_rfl
@[go_sem] theorem fpA_94_1 : fpA Try.prog 94 1 = some (1, false, 1) := by kernel_rfl
@[go_sem] theorem plA_94_1 : plA Try.prog 94 1 = some (1, 1) := by kernel_rfl
@[go_sem] theorem partTy_94_1 : partTy Try.prog 94 1 = 34 := by kernel_rfl
@[go_sem] theorem tyA_95 : tyA Try.prog 95 = some (false, 1) := by kernel_rfl
@[go_sem] theorem bytesA_95 : bytesA Try.prog 95 = false := by kernel_rfl
@[go_sem] theorem knownA_95 : knownA Try.prog 95 = true := by kernel_rfl
@[go_sem] theorem concA_95 : concA Try.prog 95 = true := by kernel_rfl
@[go_sem] theorem ikA_95 : ikA Try.prog 95 = none := by kernel_rfl
@[go_sem] theorem bldT_95 : bldT Try.prog 95 = none := by kernel_rfl
@[go_sem] theorem zeroA_95 : zeroA Try.prog 95 = some [.raw .nilFunc] := by kernel_rfl
@[go_sem] theorem slA_95 : slA Try.prog 95 = none := by kernel_rfl
@[go_sem] theorem tyA_96 : tyA Try.prog 96 = some (false, 1) := by kernel_rfl
@[go_sem] theorem bytesA_96 : bytesA Try.prog 96 = false := by kernel_rfl
@[go_sem] theorem knownA_96 : knownA Try.prog 96 = true := by kernel_rfl
@[go_sem] theorem concA_96 : concA Try.prog 96 = true := by kernel_rfl
@[go_sem] theorem ikA_96 : ikA Try.prog 96 = none := by kernel_rfl
@[go_sem] theorem bldT_96 : bldT Try.prog 96 = none := by kernel_rfl
@[go_sem] theorem zeroA_96 : zeroA Try.prog 96 = some [.raw .nilFunc] := by kernel_rfl
@[go_sem] theorem slA_96 : slA Try.prog 96 = none := by kernel_rfl
@[go_sem] theorem tyA_97 : tyA Try.prog 97 = some (false, 1) := by kernel_rfl
@[go_sem] theorem bytesA_97 : bytesA Try.prog 97 = false := by kernel_rfl
@[go_sem] theorem knownA_97 : knownA Try.prog 97 = true := by kernel_rfl
@[go_sem] theorem concA_97 : concA Try.prog 97 = true := by kernel_rfl
@[go_sem] theorem ikA_97 : ikA Try.prog 97 = none := by kernel_rfl
@[go_sem] theorem bldT_97 : bldT Try.prog 97 = none := by kernel_rfl
@[go_sem] theorem zeroA_97 : zeroA Try.prog 97 = some [.raw .nilFunc] := by kernel_rfl
@[go_sem] theorem slA_97 : slA Try.prog 97 = none := by kernel_rfl
@[go_sem] theorem tyA_98 : tyA Try.prog 98 = some (false, 1) := by kernel_rfl
@[go_sem] theorem bytesA_98 : bytesA Try.prog 98 = false := by kernel_rfl
@[go_sem] theorem knownA_98 : knownA Try.prog 98 = true := by kernel_rfl
@[go_sem] theorem concA_98 : concA Try.prog 98 = true := by kernel_rfl
@[go_sem] theorem ikA_98 : ikA Try.prog 98 = none := by kernel_rfl
@[go_sem] theorem bldT_98 : bldT Try.prog 98 = none := by kernel_rfl
@[go_sem] theorem zeroA_98 : zeroA Try.prog 98 = some [.raw .nilFunc] := by kernel_rfl
@[go_sem] theorem slA_98 : slA Try.prog 98 = none := by kernel_rfl
@[go_sem] theorem tyA_99 : tyA Try.prog 99 = some (false, 1) := by kernel_rfl
@[go_sem] theorem bytesA_99 : bytesA Try.prog 99 = false := by kernel_rfl
@[go_sem] theorem knownA_99 : knownA Try.prog 99 = true := by kernel_rfl
@[go_sem] theorem concA_99 : concA Try.prog 99 = true := by kernel_rfl
@[go_sem] theorem ikA_99 : ikA Try.prog 99 = none := by kernel_rfl
@[go_sem] theorem bldT_99 : bldT Try.prog 99 = none := by kernel_rfl
@[go_sem] theorem zeroA_99 : zeroA Try.prog 99 = some [.raw .nilFunc] := by kernel_rfl
@[go_sem] theorem slA_99 : slA Try.prog 99 = none := by kernel_rfl
@[go_sem] theorem tyA_100 : tyA Try.prog 100 = some (false, 1) := by kernel_rfl
@[go_sem] theorem bytesA_100 : bytesA Try.prog 100 = false := by kernel_rfl
@[go_sem] theorem knownA_100 : knownA Try.prog 100 = true := by kernel_rfl
@[go_sem] theorem concA_100 : concA Try.prog 100 = true := by kernel_rfl
@[go_sem] theorem ikA_100 : ikA Try.prog 100 = none := by kernel_rfl
@[go_sem] theorem bldT_100 : bldT Try.prog 100 = none := by kernel_rfl
@[go_sem] theorem zeroA_100 : zeroA Try.prog 100 = some [.raw .nilFunc] := by kernel_rfl
@[go_sem] theorem slA_100 : slA Try.prog 100 = none := by kernel_rfl
@[go_sem] theorem tyA_101 : tyA Try.prog 101 = some (false, 1) := by kernel_rfl
@[go_sem] theorem bytesA_101 : bytesA Try.prog 101 = false := by kernel_rfl
@[go_sem] theorem knownA_101 : knownA Try.prog 101 = true := by kernel_rfl
@[go_sem] theorem concA_101 : concA Try.prog 101 = true := by kernel_rfl
@[go_sem] theorem ikA_101 : ikA Try.prog 101 = none := by kernel_rfl
@[go_sem] theorem bldT_101 : bldT Try.prog 101 = none := by kernel_rfl
@[go_sem] theorem zeroA_101 : zeroA Try.prog 101 = some [.raw .nilFunc] := by kernel_rfl
@[go_sem] theorem slA_101 : slA Try.prog 101 = none := by kernel_rfl
@[go_sem] theorem tyA_102 : tyA Try.prog 102 = some (false, 1) := by kernel_rfl
@[go_sem] theorem bytesA_102 : bytesA Try.prog 102 = false := by kernel_rfl
@[go_sem] theorem knownA_102 : knownA Try.prog 102 = true := by kernel_rfl
@[go_sem] theorem concA_102 : concA Try.prog 102 = true := by kernel_rfl
@[go_sem] theorem ikA_102 : ikA Try.prog 102 = none := by kernel_rfl
@[go_sem] theorem bldT_102 : bldT Try.prog 102 = none := by kernel_rfl
@[go_sem] theorem zeroA_102 : zeroA Try.prog 102 = some [.raw .nilFunc] := by kernel_rfl
@[go_sem] theorem slA_102 : slA Try.prog 102 = none := by kernel_rfl
@[go_sem] theorem tyA_103 : tyA Try.prog 103 = some (false, 1) := by kernel_rfl
@[go_sem] theorem bytesA_103 : bytesA Try.prog 103 = false := by kernel_rfl
@[go_sem] theorem knownA_103 : knownA Try.prog 103 = true := by kernel_rfl
@[go_sem] theorem concA_103 : concA Try.prog 103 = true := by kernel_rfl
@[go_sem] theorem ikA_103 : ikA Try.prog 103 = none := by kernel_rfl
@[go_sem] theorem bldT_103 : bldT Try.prog 103 = none := by kernel_rfl
@[go_sem] theorem zeroA_103 : zeroA Try.prog 103 = some [.raw .nilFunc] := by kernel_rfl
@[go_sem] theorem slA_103 : slA Try.prog 103 = none := by kernel_rfl
@[go_sem] theorem tyA_104 : tyA Try.prog 104 = some (false, 1) := by kernel_rfl
@[go_sem] theorem bytesA_104 : bytesA Try.prog 104 = false := by kernel_rfl
@[go_sem] theorem knownA_104 : knownA Try.prog 104 = true := by kernel_rfl
@[go_sem] theorem concA_104 : concA Try.prog 104 = true := by kernel_rfl
@[go_sem] theorem ikA_104 : ikA Try.prog 104 = none := by kernel_rfl
@[go_sem] theorem bldT_104 : bldT Try.prog 104 = none := by kernel_rfl
@[go_sem] theorem zeroA_104 : zeroA Try.prog 104 = some [.raw .nilFunc] := by kernel_rfl
@[go_sem] theorem slA_104 : slA Try.prog 104 = none := by kernel_rfl
@[go_sem] theorem tyA_105 : tyA Try.prog 105 = some (true, 7) := by kernel_rfl
@[go_sem] theorem bytesA_105 : bytesA Try.prog 105 = false := by kernel_rfl
@[go_sem] theorem knownA_105 : knownA Try.prog 105 = true := by kernel_rfl
@[go_sem] theorem concA_105 : concA Try.prog 105 = true := by kernel_rfl
@[go_sem] theorem ikA_105 : ikA Try.prog 105 = none := by kernel_rfl
@[go_sem] theorem bldT_105 : bldT Try.prog 105 = none := by kernel_rfl
@[go_sem] theorem zeroA_105 : zeroA Try.prog 105 = some [.int .i64 0, .int .i64 0, .int .i64 0, .int .i64 0, .int .i64 0, .int .i64 0, .bool false] := by kernel_rfl
@[go_sem] theorem slA_105 : slA Try.prog 105 = none := by kernel_rfl
@[go_sem] theorem fsOk_105 : fsOk Try.prog 105 = true := by kernel_rfl
@[go_sem] theorem fldA_105_0 : fldA Try.prog 105 0 = some 0 := by kernel_rfl
@[go_sem] theorem fpA_105_0 : fpA Try.prog 105 0 = some (0, false, 1) := by kernel_rfl
@[go_sem] theorem plA_105_0 : plA Try.prog 105 0 = some (0, 1) := by kernel_rfl
@[go_sem] theorem partTy_105_0 : partTy Try.prog 105 0 = 3 := by kernel_rfl
@[go_sem] theorem fldA_105_1 : fldA Try.prog 105 1 = some 1 := by kernel_rfl
@[go_sem] theorem fpA_105_1 : fpA Try.prog 105 1 = some (1, false, 1) := by kernel_rfl
@[go_sem] theorem plA_105_1 : plA Try.prog 105 1 = some (1, 1) := by kernel_rfl
@[go_sem] theorem partTy_105_1 : partTy Try.prog 105 1 = 3 := by kernel_rfl
@[go_sem] theorem fldA_105_2 : fldA Try.prog 105 2 = some 2 := by kernel_rfl
@[go_sem] theorem fpA_105_2 : fpA Try.prog 105 2 = some (2, false, 1) := by kernel_rfl
@[go_sem] theorem plA_105_2 : plA Try.prog 105 2 = some (2, 1) := by kernel_rfl
@[go_sem] theorem partTy_105_2 : partTy Try.prog 105 2 = 3 := by kernel_rfl
@[go_sem] theorem fldA_105_3 : fldA Try.prog 105 3 = some 3 := by kernel_rfl
@[go_sem] theorem fpA_105_3 : fpA Try.prog 105 3 = some (3, false, 1) := by kernel_rfl
@[go_sem] theorem plA_105_3 : plA Try.prog 105 3 = some (3, 1) := by kernel_rfl
@[go_sem] theorem partTy_105_3 : partTy Try.prog 105 3 = 3 := by kernel_rfl
@[go_sem] theorem fldA_105_4 : fldA Try.prog 105 4 = some 4 := by kernel_rfl
@[go_sem] theorem fpA_105_4 : fpA Try.prog 105 4 = some (4, false, 1) := by kernel_rfl
@[go_sem] theorem plA_105_4 : plA Try.prog 105 4 = some (4, 1) := by kernel_rfl
@[go_sem] theorem partTy_105_4 : partTy Try.prog 105 4 = 3 := by kernel_rfl
@[go_sem] theorem fldA_105_5 : fldA Try.prog 105 5 = some 5 := by kernel_rfl
@[go_sem] theorem fpA_105_5 : fpA Try.prog 105 5 = some (5, false, 1) := by kernel_rfl
@[go_sem] theorem plA_105_5 : plA Try.prog 105 5 = some (5, 1) := by kernel_rfl
@[go_sem] theorem partTy_105_5 : partTy Try.prog 105 5 = 3 := by kernel_rfl
@[go_sem] theorem fldA_105_6 : fldA Try.prog 105 6 = some 6 := by kernel_rfl
@[go_sem] theorem fpA_105_6 : fpA Try.prog 105 6 = some (6, false, 1) := by kernel_rfl
@[go_sem] theorem plA_105_6 : plA Try.prog 105 6 = some (6, 1) := by kernel_rfl
@[go_sem] theorem partTy_105_6 : partTy Try.prog 105 6 = 4 := by kernel_rfl
@[go_sem] theorem eqKs_105 : eqKs Try.prog 105 = some [.int .i64, .int .i64, .int .i64, .int .i64, .int .i64, .int .i64, .bool] := by kernel_rfl
@[go_sem] theorem tyA_106 : tyA Try.prog 106 = some (true, 7) := by kernel_rfl
@[go_sem] theorem bytesA_106 : bytesA Try.prog 106 = false := by kernel_rfl
@[go_sem] theorem knownA_106 : knownA Try.prog 106 = true := by kernel_rfl
@[go_sem] theorem concA_106 : concA Try.prog 106 = true := by kernel_rfl
@[go_sem] theorem ikA_106 : ikA Try.prog 106 = none := by kernel_rfl
@[go_sem] theorem bldT_106 : bldT Try.prog 106 = none := by kernel_rfl
@[go_sem] theorem zeroA_106 : zeroA Try.prog 106 = some [.int .i64 0, .int .i64 0, .int .i64 0, .int .i64 0, .int .i64 0, .int .i64 0, .bool false] := by kernel_rfl
@[go_sem] theorem slA_106 : slA Try.prog 106 = none := by kernel_rfl
@[go_sem] theorem fsOk_106 : fsOk Try.prog 106 = true := by kernel_rfl
@[go_sem] theorem fldA_106_0 : fldA Try.prog 106 0 = some 0 := by kernel_rfl
@[go_sem] theorem fpA_106_0 : fpA Try.prog 106 0 = some (0, false, 1) := by kernel_rfl
@[go_sem] theorem plA_106_0 : plA Try.prog 106 0 = some (0, 1) := by kernel_rfl
@[go_sem] theorem partTy_106_0 : partTy Try.prog 106 0 = 3 := by kernel_rfl
@[go_sem] theorem fldA_106_1 : fldA Try.prog 106 1 = some 1 := by kernel_rfl
@[go_sem] theorem fpA_106_1 : fpA Try.prog 106 1 = some (1, false, 1) := by kernel_rfl
@[go_sem] theorem plA_106_1 : plA Try.prog 106 1 = some (1, 1) := by kernel_rfl
@[go_sem] theorem partTy_106_1 : partTy Try.prog 106 1 = 3 := by kernel_rfl
@[go_sem] theorem fldA_106_2 : fldA Try.prog 106 2 = some 2 := by kernel_rfl
@[go_sem] theorem fpA_106_2 : fpA Try.prog 106 2 = some (2, false, 1) := by kernel_rfl
@[go_sem] theorem plA_106_2 : plA Try.prog 106 2 = some (2, 1) := by kernel_rfl
@[go_sem] theorem partTy_106_2 : partTy Try.prog 106 2 = 3 := by kernel_rfl
@[go_sem] theorem fldA_106_3 : fldA Try.prog 106 3 = some 3 := by kernel_rfl
@[go_sem] theorem fpA_106_3 : fpA Try.prog 106 3 = some (3, false, 1) := by kernel_rfl
@[go_sem] theorem plA_106_3 : plA Try.prog 106 3 = some (3, 1) := by kernel_rfl
@[go_sem] theorem partTy_106_3 : partTy Try.prog 106 3 = 3 := by kernel_rfl
@[go_sem] theorem fldA_106_4 : fldA Try.prog 106 4 = some 4 := by kernel_rfl
@[go_sem] theorem fpA_106_4 : fpA Try.prog 106 4 = some (4, false, 1) := by kernel_rfl
@[go_sem] theorem plA_106_4 : plA Try.prog 106 4 = some (4, 1) := by kernel_rfl
@[go_sem] theorem partTy_106_4 : partTy Try.prog 106 4 = 3 := by kernel_rfl
@[go_sem] theorem fldA_106_5 : fldA Try.prog 106 5 = some 5 := by kernel_rfl
@[go_sem] theorem fpA_106_5 : fpA Try.prog 106 5 = some (5, false, 1) := by kernel_rfl
@[go_sem] theorem plA_106_5 : plA Try.prog 106 5 = some (5, 1) := by kernel_rfl
@[go_sem] theorem partTy_106_5 : partTy Try.prog 106 5 = 3 := by kernel_rfl
@[go_sem] theorem fldA_106_6 : fldA Try.prog 106 6 = some 6 := by kernel_rfl
@[go_sem] theorem fpA_106_6 : fpA Try.prog 106 6 = some (6, false, 1) := by kernel_rfl
@[go_sem] theorem plA_106_6 : plA Try.prog 106 6 = some (6, 1) := by kernel_rfl
@[go_sem] theorem partTy_106_6 : partTy Try.prog 106 6 = 4 := by kernel_rfl
@[go_sem] theorem eqKs_106 : eqKs Try.prog 106 = some [.int .i64, .int .i64, .int .i64, .int .i64, .int .i64, .int .i64, .bool] := by kernel_rfl
@[go_sem] theorem tyA_107 : tyA Try.prog 107 = some (true, 2) := by kernel_rfl
@[go_sem] theorem bytesA_107 : bytesA Try.prog 107 = false := by kernel_rfl
@[go_sem] theorem knownA_107 : knownA Try.prog 107 = true := by kernel_rfl
@[go_sem] theorem concA_107 : concA Try.prog 107 = true := by kernel_rfl
@[go_sem] theorem ikA_107 : ikA Try.prog 107 = none := by kernel_rfl
@[go_sem] theorem bldT_107 : bldT Try.prog 107 = none := by kernel_rfl
@[go_sem] theorem zeroA_107 : zeroA Try.prog 107 = some [.int .i64 0, .int .i64 0] := by kernel_rfl
@[go_sem] theorem slA_107 : slA Try.prog 107 = none := by kernel_rfl
@[go_sem] theorem fsOk_107 : fsOk Try.prog 107 = true := by kernel_rfl
@[go_sem] theorem fldA_107_0 : fldA Try.prog 107 0 = some 0 := by kernel_rfl
@[go_sem] theorem fpA_107_0 : fpA Try.prog 107 0 = some (0, false, 1) := by kernel_rfl
@[go_sem] theorem plA_107_0 : plA Try.prog 107 0 = some (0, 1) := by kernel_rfl
@[go_sem] theorem partTy_107_0 : partTy Try.prog 107 0 = 3 := by kernel_rfl
@[go_sem] theorem fldA_107_1 : fldA Try.prog 107 1 = some 1 := by kernel_rfl
@[go_sem] theorem fpA_107_1 : fpA Try.prog 107 1 = some (1, false, 1) := by kernel_rfl
@[go_sem] theorem plA_107_1 : plA Try.prog 107 1 = some (1, 1) := by kernel_rfl
@[go_sem] theorem partTy_107_1 : partTy Try.prog 107 1 = 3 := by kernel_rfl
@[go_sem] theorem eqKs_107 : eqKs Try.prog 107 = some [.int .i64, .int .i64] := by kernel_rfl
@[go_sem] theorem tyA_108 : tyA Try.prog 108 = some (true, 2) := by kernel_rfl
@[go_sem] theorem bytesA_108 : bytesA Try.prog 108 = false := by kernel_rfl
@[go_sem] theorem knownA_108 : knownA Try.prog 108 = true := by kernel_rfl
@[go_sem] theorem concA_108 : concA Try.prog 108 = true := by kernel_rfl
@[go_sem] theorem ikA_108 : ikA Try.prog 108 = none := by kernel_rfl
@[go_sem] theorem bldT_108 : bldT Try.prog 108 = none := by kernel_rfl
@[go_sem] theorem zeroA_108 : zeroA Try.prog 108 = some [.int .i64 0, .int .i64 0] := by kernel_rfl
@[go_sem] theorem slA_108 : slA Try.prog 108 = none := by kernel_rfl
@[go_sem] theorem fsOk_108 : fsOk Try.prog 108 = true := by kernel_rfl
@[go_sem] theorem fldA_108_0 : fldA Try.prog 108 0 = some 0 := by kernel_rfl
@[go_sem] theorem fpA_108_0 : fpA Try.prog 108 0 = some (0, false, 1) := by kernel_rfl
@[go_sem] theorem plA_108_0 : plA Try.prog 108 0 = some (0, 1) := by kernel_rfl
@[go_sem] theorem partTy_108_0 : partTy Try.prog 108 0 = 3 := by kernel_rfl
@[go_sem] theorem fldA_108_1 : fldA Try.prog 108 1 = some 1 := by kernel_rfl
@[go_sem] theorem fpA_108_1 : fpA Try.prog 108 1 = some (1, false, 1) := by kernel_rfl
@[go_sem] theorem plA_108_1 : plA Try.prog 108 1 = some (1, 1) := by kernel_rfl
@[go_sem] theorem partTy_108_1 : partTy Try.prog 108 1 = 3 := by kernel_rfl
@[go_sem] theorem eqKs_108 : eqKs Try.prog 108 = some [.int .i64, .int .i64] := by kernel_rfl
@[go_sem] theorem tyA_109 : tyA Try.prog 109 = some (false, 1) := by kernel_rfl
@[go_sem] theorem bytesA_109 : bytesA Try.prog 109 = false := by kernel_rfl
@[go_sem] theorem knownA_109 : knownA Try.prog 109 = true := by kernel_rfl
@[go_sem] theorem concA_109 : concA Try.prog 109 = true := by kernel_rfl
@[go_sem] theorem ikA_109 : ikA Try.prog 109 = none := by kernel_rfl
@[go_sem] theorem bldT_109 : bldT Try.prog 109 = none := by kernel_rfl
@[go_sem] theorem zeroA_109 : zeroA Try.prog 109 = some [.raw .nilFunc] := by kernel_rfl
@[go_sem] theorem slA_109 : slA Try.prog 109 = none := by kernel_rfl
@[go_sem] theorem tyA_111 : tyA Try.prog 111 = some (false, 1) := by kernel_rfl
@[go_sem] theorem bytesA_111 : bytesA Try.prog 111 = false := by kernel_rfl
@[go_sem] theorem knownA_111 : knownA Try.prog 111 = true := by kernel_rfl
@[go_sem] theorem concA_111 : concA Try.prog 111 = true := by kernel_rfl
@[go_sem] theorem ikA_111 : ikA Try.prog 111 = none := by kernel_rfl
@[go_sem] theorem bldT_111 : bldT Try.prog 111 = none := by kernel_rfl
@[go_sem] theorem zeroA_111 : zeroA Try.prog 111 = some [.raw .nilFunc] := by kernel_rfl
@[go_sem] theorem slA_111 : slA Try.prog 111 = none := by kernel_rfl
@[go_sem] theorem tyA_112 : tyA Try.prog 112 = some (false, 1) := by kernel_rfl
@[go_sem] theorem bytesA_112 : bytesA Try.prog 112 = false := by kernel_rfl
@[go_sem] theorem knownA_112 : knownA Try.prog 112 = true := by kernel_rfl
@[go_sem] theorem concA_112 : concA Try.prog 112 = true := by kernel_rfl
@[go_sem] theorem ikA_112 : ikA Try.prog 112 = none := by kernel_rfl
@[go_sem] theorem bldT_112 : bldT Try.prog 112 = none := by kernel_rfl
@[go_sem] theorem zeroA_112 : zeroA Try.prog 112 = some [.raw .nilFunc] := by kernel_rfl
@[go_sem] theorem slA_112 : slA Try.prog 112 = none := by kernel_rfl
@[go_sem] theorem tyA_113 : tyA Try.prog 113 = some (false, 1) := by kernel_rfl
@[go_sem] theorem bytesA_113 : bytesA Try.prog 113 = false := by kernel_rfl
@[go_sem] theorem knownA_113 : knownA Try.prog 113 = true := by kernel_rfl
@[go_sem] theorem concA_113 : concA Try.prog 113 = true := by kernel_rfl
@[go_sem] theorem ikA_113 : ikA Try.prog 113 = none := by kernel_rfl
@[go_sem] theorem bldT_113 : bldT Try.prog 113 = none := by kernel_rfl
@[go_sem] theorem zeroA_113 : zeroA Try.prog 113 = some [.raw .nilFunc] := by kernel_rfl
@[go_sem] theorem slA_113 : slA Try.prog 113 = none := by kernel_rfl
@[go_sem] theorem tyA_114 : tyA Try.prog 114 = some (false, 1) := by kernel_rfl
@[go_sem] theorem bytesA_114 : bytesA Try.prog 114 = false := by kernel_rfl
@[go_sem] theorem knownA_114 : knownA Try.prog 114 = true := by kernel_rfl
@[go_sem] theorem concA_114 : concA Try.prog 114 = true := by kernel_rfl
@[go_sem] theorem ikA_114 : ikA Try.prog 114 = none := by kernel_rfl
@[go_sem] theorem bldT_114 : bldT Try.prog 114 = none := by kernel_rfl
@[go_sem] theorem zeroA_114 : zeroA Try.prog 114 = some [.raw .nilFunc] := by kernel_rfl
@[go_sem] theorem slA_114 : slA Try.prog 114 = none := by kernel_rfl
@[go_sem] theorem tyA_115 : tyA Try.prog 115 = some (false, 1) := by kernel_rfl
@[go_sem] theorem bytesA_115 : bytesA Try.prog 115 = false := by kernel_rfl
@[go_sem] theorem knownA_115 : knownA Try.prog 115 = true := by kernel_rfl
@[go_sem] theorem concA_115 : concA Try.prog 115 = true := by kernel_rfl
@[go_sem] theorem ikA_115 : ikA Try.prog 115 = none := by kernel_rfl
@[go_sem] theorem bldT_115 : bldT Try.prog 115 = none := by kernel_rfl
@[go_sem] theorem zeroA_115 : zeroA Try.prog 115 = some [.raw .nilFunc] := by kernel_rfl
@[go_sem] theorem slA_115 : slA Try.prog 115 = none := by kernel_rfl
@[go_sem] theorem tyA_116 : tyA Try.prog 116 = some (false, 1) := by kernel_rfl
@[go_sem] theorem bytesA_116 : bytesA Try.prog 116 = false := by kernel_rfl
@[go_sem] theorem knownA_116 : knownA Try.prog 116 = true := by kernel_rfl
@[go_sem] theorem concA_116 : concA Try.prog 116 = true := by kernel_rfl
@[go_sem] theorem ikA_116 : ikA Try.prog 116 = none := by kernel_rfl
@[go_sem] theorem bldT_116 : bldT Try.prog 116 = none := by kernel_rfl
@[go_sem] theorem zeroA_116 : zeroA Try.prog 116 = some [.raw .nilFunc] := by kernel_rfl
@[go_sem] theorem slA_116 : slA Try.prog 116 = none := by kernel_rfl
@[go_sem] theorem tyA_117 : tyA Try.prog 117 = some (false, 1) := by kernel_rfl
@[go_sem] theorem bytesA_117 : bytesA Try.prog 117 = false := by kernel_rfl
@[go_sem] theorem knownA_117 : knownA Try.prog 117 = true := by kernel_rfl
@[go_sem] theorem concA_117 : concA Try.prog 117 = true := by kernel_rfl
@[go_sem] theorem ikA_117 : ikA Try.prog 117 = none := by kernel_rfl
@[go_sem] theorem bldT_117 : bldT Try.prog 117 = none := by kernel_rfl
@[go_sem] theorem zeroA_117 : zeroA Try.prog 117 = some [.raw .nilFunc] := by kernel_rfl
@[go_sem] theorem slA_117 : slA Try.prog 117 = none := by kernel_rfl
@[go_sem] theorem tyA_118 : tyA Try.prog 118 = some (true, 4) := by kernel_rfl
@[go_sem] theorem bytesA_118 : bytesA Try.prog 118 = false := by kernel_rfl
@[go_sem] theorem knownA_118 : knownA Try.prog 118 = true := by kernel_rfl
@[go_sem] theorem concA_118 : concA Try.prog 118 = true := by kernel_rfl
@[go_sem] theorem ikA_118 : ikA Try.prog 118 = none := by kernel_rfl
@[go_sem] theorem bldT_118 : bldT Try.prog 118 = none := by kernel_rfl
@[go_sem] theorem zeroA_118 : zeroA Try.prog 118 = some [.int .i64 0, .int .i64 0, .int .i64 0, .int .i64 0] := by kernel_rfl
@[go_sem] theorem slA_118 : slA Try.prog 118 = none := by kernel_rfl
@[go_sem] theorem fsOk_118 : fsOk Try.prog 118 = true := by kernel_rfl
@[go_sem] theorem fldA_118_0 : fldA Try.prog 118 0 = some 0 := by kernel_rfl
@[go_sem] theorem fpA_118_0 : fpA Try.prog 118 0 = some (0, false, 1) := by kernel_rfl
@[go_sem] theorem plA_118_0 : plA Try.prog 118 0 = some (0, 1) := by kernel_rfl
@[go_sem] theorem partTy_118_0 : partTy Try.prog 118 0 = 3 := by kernel_rfl
@[go_sem] theorem fldA_118_1 : fldA Try.prog 118 1 = some 1 := by kernel_rfl
@[go_sem] theorem fpA_118_1 : fpA Try.prog 118 1 = some (1, false, 1) := by kernel_rfl
@[go_sem] theorem plA_118_1 : plA Try.prog 118 1 = some (1, 1) := by kernel_rfl
@[go_sem] theorem partTy_118_1 : partTy Try.prog 118 1 = 3 := by kernel_rfl
@[go_sem] theorem fldA_118_2 : fldA Try.prog 118 2 = some 2 := by kernel_rfl
@[go_sem] theorem fpA_118_2 : fpA Try.prog 118 2 = some (2, false, 1) := by kernel_rfl
@[go_sem] theorem plA_118_2 : plA Try.prog 118 2 = some (2, 1) := by kernel_rfl
@[go_sem] theorem partTy_118_2 : partTy Try.prog 118 2 = 3 := by kernel_rfl
@[go_sem] theorem fldA_118_3 : fldA Try.prog 118 3 = some 3 := by kernel_rfl
@[go_sem] theorem fpA_118_3 : fpA Try.prog 118 3 = some (3, false, 1) := by kernel_rfl
@[go_sem] theorem plA_118_3 : plA Try.prog 118 3 = some (3, 1) := by kernel_rfl
@[go_sem] theorem partTy_118_3 : partTy Try.prog 118 3 = 3 := by kernel_rfl
@[go_sem] theorem eqKs_118 : eqKs Try.prog 118 = some [.int .i64, .int .i64, .int .i64, .int .i64] := by kernel_rfl
@[go_sem] theorem tyA_119 : tyA Try.prog 119 = some (true, 4) := by kernel_rfl
@[go_sem] theorem bytesA_119 : bytesA Try.prog 119 = false := by kernel_rfl
@[go_sem] theorem knownA_119 : knownA Try.prog 119 = true := by kernel_rfl
@[go_sem] theorem concA_119 : concA Try.prog 119 = true := by kernel_rfl
@[go_sem] theorem ikA_119 : ikA Try.prog 119 = none := by kernel_rfl
@[go_sem] theorem bldT_119 : bldT Try.prog 119 = none := by kernel_rfl
@[go_sem] theorem zeroA_119 : zeroA Try.prog 119 = some [.int .i64 0, .int .i64 0, .int .i64 0, .int .i64 0] := by kernel_rfl
@[go_sem] theorem slA_119 : slA Try.prog 119 = none := by kernel_rfl
@[go_sem] theorem fsOk_119 : fsOk Try.prog 119 = true := by kernel_rfl
@[go_sem] theorem fldA_119_0 : fldA Try.prog 119 0 = some 0 := by kernel_rfl
@[go_sem] theorem fpA_119_0 : fpA Try.prog 119 0 = some (0, false, 1) := by kernel_rfl
@[go_sem] theorem plA_119_0 : plA Try.prog 119 0 = some (0, 1) := by kernel_rfl
@[go_sem] theorem partTy_119_0 : partTy Try.prog 119 0 = 3 := by kernel_rfl
@[go_sem] theorem fldA_119_1 : fldA Try.prog 119 1 = some 1 := by kernel_rfl
@[go_sem] theorem fpA_119_1 : fpA Try.prog 119 1 = some (1, false, 1) := by kernel_rfl
@[go_sem] theorem plA_119_1 : plA Try.prog 119 1 = some (1, 1) := by kernel_rfl
@[go_sem] theorem partTy_119_1 : partTy Try.prog 119 1 = 3 := by kernel_rfl
@[go_sem] theorem fldA_119_2 : fldA Try.prog 119 2 = some 2 := by kernel_rfl
@[go_sem] theorem fpA_119_2 : fpA Try.prog 119 2 = some (2, false, 1) := by kernel_rfl
@[go_sem] theorem plA_119_2 : plA Try.prog 119 2 = some (2, 1) := by kernel_rfl
@[go_sem] theorem partTy_119_2 : partTy Try.prog 119 2 = 3 := by kernel_rfl
@[go_sem] theorem fldA_119_3 : fldA Try.prog 119 3 = some 3 := by kernel_rfl
@[go_sem] theorem fpA_119_3 : fpA Try.prog 119 3 = some (3, false, 1) := by kernel_rfl
@[go_sem] theorem plA_119_3 : plA Try.prog 119 3 = some (3, 1) := by kernel_rfl
@[go_sem] theorem partTy_119_3 : partTy Try.prog 119 3 = 3 := by kernel_rfl
@[go_sem] theorem eqKs_119 : eqKs Try.prog 119 = some [.int .i64, .int .i64, .int .i64, .int .i64] := by kernel_rfl
@[go_sem] theorem tyA_120 : tyA Try.prog 120 = some (false, 1) := by kernel_rfl
@[go_sem] theorem bytesA_120 : bytesA Try.prog 120 = false := by kernel_rfl
@[go_sem] theorem knownA_120 : knownA Try.prog 120 = true := by kernel_rfl
@[go_sem] theorem concA_120 : concA Try.prog 120 = true := by kernel_rfl
@[go_sem] theorem ikA_120 : ikA Try.prog 120 = none := by kernel_rfl
@[go_sem] theorem bldT_120 : bldT Try.prog 120 = none := by kernel_rfl
@[go_sem] theorem zeroA_120 : zeroA Try.prog 120 = some [.raw .nilFunc] := by kernel_rfl
@[go_sem] theorem slA_120 : slA Try.prog 120 = none := by kernel_rfl
@[go_sem] theorem tyA_121 : tyA Try.prog 121 = some (false, 1) := by kernel_rfl
@[go_sem] theorem bytesA_121 : bytesA Try.prog 121 = false := by kernel_rfl
@[go_sem] theorem knownA_121 : knownA Try.prog 121 = true := by kernel_rfl
@[go_sem] theorem concA_121 : concA Try.prog 121 = true := by kernel_rfl
@[go_sem] theorem ikA_121 : ikA Try.prog 121 = none := by kernel_rfl
@[go_sem] theorem bldT_121 : bldT Try.prog 121 = none := by kernel_rfl
@[go_sem] theorem zeroA_121 : zeroA Try.prog 121 = some [.raw .nilFunc] := by kernel_rfl
@[go_sem] theorem slA_121 : slA Try.prog 121 = none := by kernel_rfl
@[go_sem] theorem tyA_122 : tyA Try.prog 122 = some (true, 2) := by kernel_rfl
@[go_sem] theorem bytesA_122 : bytesA Try.prog 122 = false := by kernel_rfl
@[go_sem] theorem knownA_122 : knownA Try.prog 122 = true := by kernel_rfl
@[go_sem] theorem concA_122 : concA Try.prog 122 = true := by kernel_rfl
@[go_sem] theorem ikA_122 : ikA Try.prog 122 = none := by kernel_rfl
@[go_sem] theorem bldT_122 : bldT Try.prog 122 = none := by kernel_rfl
@[go_sem] theorem zeroA_122 : zeroA Try.prog 122 = some [.int .i64 0, .int .i64 0] := by kernel_rfl
@[go_sem] theorem slA_122 : slA Try.prog 122 = none := by kernel_rfl
@[go_sem] theorem fsOk_122 : fsOk Try.prog 122 = true := by kernel_rfl
@[go_sem] theorem fldA_122_0 : fldA Try.prog 122 0 = some 0 := by kernel_rfl
@[go_sem] theorem fpA_122_0 : fpA Try.prog 122 0 = some (0, false, 1) := by kernel_rfl
@[go_sem] theorem plA_122_0 : plA Try.prog 122 0 = some (0, 1) := by kernel_rfl
@[go_sem] theorem partTy_122_0 : partTy Try.prog 122 0 = 3 := by kernel_rfl
@[go_sem] theorem fldA_122_1 : fldA Try.prog 122 1 = some 1 := by kernel_rfl
@[go_sem] theorem fpA_122_1 : fpA Try.prog 122 1 = some (1, false, 1) := by kernel_rfl
@[go_sem] theorem plA_122_1 : plA Try.prog 122 1 = some (1, 1) := by kernel_rfl
@[go_sem] theorem partTy_122_1 : partTy Try.prog 122 1 = 3 := by kernel_rfl
@[go_sem] theorem eqKs_122 : eqKs Try.prog 122 = some [.int .i64, .int .i64] := by kernel_rfl
@[go_sem] theorem tyA_123 : tyA Try.prog 123 = some (true, 2) := by kernel_rfl
@[go_sem] theorem bytesA_123 : bytesA Try.prog 123 = false := by kernel_rfl
@[go_sem] theorem knownA_123 : knownA Try.prog 123 = true := by kernel_rfl
@[go_sem] theorem concA_123 : concA Try.prog 123 = true := by kernel_rfl
@[go_sem] theorem ikA_123 : ikA Try.prog 123 = none := by kernel_rfl
@[go_sem] theorem bldT_123 : bldT Try.prog 123 = none := by kernel_rfl
@[go_sem] theorem zeroA_123 : zeroA Try.prog 123 = some [.int .i64 0, .int .i64 0] := by kernel_rfl
@[go_sem] theorem slA_123 : slA Try.prog 123 = none := by kernel_rfl
@[go_sem] theorem fsOk_123 : fsOk Try.prog 123 = true := by kernel_rfl
@[go_sem] theorem fldA_123_0 : fldA Try.prog 123 0 = some 0 := by kernel_rfl
@[go_sem] theorem fpA_123_0 : fpA Try.prog 123 0 = some (0, false, 1) := by kernel_rfl
@[go_sem] theorem plA_123_0 : plA Try.prog 123 0 = some (0, 1) := by kernel_rfl
@[go_sem] theorem partTy_123_0 : partTy Try.prog 123 0 = 3 := by kernel_rfl
@[go_sem] theorem fldA_123_1 : fldA Try.prog 123 1 = some 1 := by kernel_rfl
@[go_sem] theorem fpA_123_1 : fpA Try.prog 123 1 = some (1, false, 1) := by kernel_rfl
@[go_sem] theorem plA_123_1 : plA Try.prog 123 1 = some (1, 1) := by kernel_rfl
@[go_sem] theorem partTy_123_1 : partTy Try.prog 123 1 = 3 := by kernel_rfl
@[go_sem] theorem eqKs_123 : eqKs Try.prog 123 = some [.int .i64, .int .i64] := by kernel_rfl
@[go_sem] theorem tyA_124 : tyA Try.prog 124 = some (false, 1) := by kernel_rfl
@[go_sem] theorem bytesA_124 : bytesA Try.prog 124 = false := by kernel_rfl
@[go_sem] theorem knownA_124 : knownA Try.prog 124 = true := by kernel_rfl
@[go_sem] theorem concA_124 : concA Try.prog 124 = true := by kernel_rfl
@[go_sem] theorem ikA_124 : ikA Try.prog 124 = none := by kernel_rfl
@[go_sem] theorem bldT_124 : bldT Try.prog 124 = none := by kernel_rfl
@[go_sem] theorem zeroA_124 : zeroA Try.prog 124 = some [.raw .nilFunc] := by kernel_rfl
@[go_sem] theorem slA_124 : slA Try.prog 124 = none := by kernel_rfl
@[go_sem] theorem tyA_125 : tyA Try.prog 125 = some (false, 1) := by kernel_rfl
@[go_sem] theorem bytesA_125 : bytesA Try.prog 125 = false := by kernel_rfl
@[go_sem] theorem knownA_125 : knownA Try.prog 125 = true := by kernel_rfl
@[go_sem] theorem concA_125 : concA Try.prog 125 = true := by kernel_rfl
@[go_sem] theorem ikA_125 : ikA Try.prog 125 = none := by kernel_rfl
@[go_sem] theorem bldT_125 : bldT Try.prog 125 = none := by kernel_rfl
@[go_sem] theorem zeroA_125 : zeroA Try.prog 125 = some [.raw .nilFunc] := by kernel_rfl
@[go_sem] theorem slA_125 : slA Try.prog 125 = none := by kernel_rfl
@[go_sem] theorem tyA_126 : tyA Try.prog 126 = some (false, 1) := by kernel_rfl
@[go_sem] theorem bytesA_126 : bytesA Try.prog 126 = false := by kernel_rfl
@[go_sem] theorem knownA_126 : knownA Try.prog 126 = true := by kernel_rfl
@[go_sem] theorem concA_126 : concA Try.prog 126 = true := by kernel_rfl
@[go_sem] theorem ikA_126 : ikA Try.prog 126 = none := by kernel_rfl
@[go_sem] theorem bldT_126 : bldT Try.prog 126 = none := by kernel_rfl
@[go_sem] theorem zeroA_126 : zeroA Try.prog 126 = some [.raw .nilFunc] := by kernel_rfl
@[go_sem] theorem slA_126 : slA Try.prog 126 = none := by kernel_rfl
@[go_sem] theorem tyA_127 : tyA Try.prog 127 = some (false, 1) := by kernel_rfl
@[go_sem] theorem bytesA_127 : bytesA Try.prog 127 = false := by kernel_rfl
@[go_sem] theorem knownA_127 : knownA Try.prog 127 = true := by kernel_rfl
@[go_sem] theorem concA_127 : concA Try.prog 127 = true := by kernel_rfl
@[go_sem] theorem ikA_127 : ikA Try.prog 127 = none := by kernel_rfl
@[go_sem] theorem bldT_127 : bldT Try.prog 127 = none := by kernel_rfl
@[go_sem] theorem zeroA_127 : zeroA Try.prog 127 = some [.raw (.map none)] := by kernel_rfl
@[go_sem] theorem slA_127 : slA Try.prog 127 = none := by kernel_rfl
@[go_sem] theorem tyA_128 : tyA Try.prog 128 = some (false, 1) := by kernel_rfl
@[go_sem] theorem bytesA_128 : bytesA Try.prog 128 = false := by kernel_rfl
@[go_sem] theorem knownA_128 : knownA Try.prog 128 = true := by kernel_rfl
@[go_sem] theorem concA_128 : concA Try.prog 128 = true := by kernel_rfl
@[go_sem] theorem ikA_128 : ikA Try.prog 128 = none := by kernel_rfl
@[go_sem] theorem bldT_128 : bldT Try.prog 128 = none := by kernel_rfl
@[go_sem] theorem zeroA_128 : zeroA Try.prog 128 = some [.raw .nilFunc] := by kernel_rfl
@[go_sem] theorem slA_128 : slA Try.prog 128 = none := by kernel_rfl
@[go_sem] theorem tyA_129 : tyA Try.prog 129 = some (false, 1) := by kernel_rfl
@[go_sem] theorem bytesA_129 : bytesA Try.prog 129 = false := by kernel_rfl
@[go_sem] theorem knownA_129 : knownA Try.prog 129 = true := by kernel_rfl
@[go_sem] theorem concA_129 : concA Try.prog 129 = true := by kernel_rfl
@[go_sem] theorem ikA_129 : ikA Try.prog 129 = none := by kernel_rfl
@[go_sem] theorem bldT_129 : bldT Try.prog 129 = none := by kernel_rfl
@[go_sem] theorem zeroA_129 : zeroA Try.prog 129 = some [.raw .nilFunc] := by kernel_rfl
@[go_sem] theorem slA_129 : slA Try.prog 129 = none := by kernel_rfl
@[go_sem] theorem tyA_131 : tyA Try.prog 131 = some (false, 1) := by kernel_rfl
@[go_sem] theorem bytesA_131 : bytesA Try.prog 131 = false := by kernel_rfl
@[go_sem] theorem knownA_131 : knownA Try.prog 131 = true := by kernel_rfl
@[go_sem] theorem concA_131 : concA Try.prog 131 = true := by kernel_rfl
@[go_sem] theorem ikA_131 : ikA Try.prog 131 = none := by kernel_rfl
@[go_sem] theorem bldT_131 : bldT Try.prog 131 = none := by kernel_rfl
@[go_sem] theorem zeroA_131 : zeroA Try.prog 131 = some [.raw .nilFunc] := by kernel_rfl
@[go_sem] theorem slA_131 : slA Try.prog 131 = none := by kernel_rfl
@[go_sem] theorem tyA_132 : tyA Try.prog 132 = some (false, 1) := by kernel_rfl
@[go_sem] theorem bytesA_132 : bytesA Try.prog 132 = false := by kernel_rfl
@[go_sem] theorem knownA_132 : knownA Try.prog 132 = true := by kernel_rfl
@[go_sem] theorem concA_132 : concA Try.prog 132 = true := by kernel_rfl
@[go_sem] theorem ikA_132 : ikA Try.prog 132 = none := by kernel_rfl
@[go_sem] theorem bldT_132 : bldT Try.prog 132 = none := by kernel_rfl
@[go_sem] theorem zeroA_132 : zeroA Try.prog 132 = some [.raw .nilFunc] := by kernel_rfl
@[go_sem] theorem slA_132 : slA Try.prog 132 = none := by kernel_rfl
@[go_sem] theorem tyA_133 : tyA Try.prog 133 = some (false, 1) := by kernel_rfl
@[go_sem] theorem bytesA_133 : bytesA Try.prog 133 = false := by kernel_rfl
@[go_sem] theorem knownA_133 : knownA Try.prog 133 = true := by kernel_rfl
@[go_sem] theorem concA_133 : concA Try.prog 133 = true := by kernel_rfl
@[go_sem] theorem ikA_133 : ikA Try.prog 133 = none := by kernel_rfl
@[go_sem] theorem bldT_133 : bldT Try.prog 133 = none := by kernel_rfl
@[go_sem] theorem zeroA_133 : zeroA Try.prog 133 = some [.raw .nilFunc] := by kernel_rfl
@[go_sem] theorem slA_133 : slA Try.prog 133 = none := by kernel_rfl
@[go_sem] theorem tyA_134 : tyA Try.prog 134 = some (false, 1) := by kernel_rfl
@[go_sem] theorem bytesA_134 : bytesA Try.prog 134 = false := by kernel_rfl
@[go_sem] theorem knownA_134 : knownA Try.prog 134 = true := by kernel_rfl
@[go_sem] theorem concA_134 : concA Try.prog 134 = true := by kernel_rfl
@[go_sem] theorem ikA_134 : ikA Try.prog 134 = none := by kernel_rfl
@[go_sem] theorem bldT_134 : bldT Try.prog 134 = none := by kernel_rfl
@[go_sem] theorem zeroA_134 : zeroA Try.prog 134 = some [.raw (.map none)] := by kernel_rfl
@[go_sem] theorem slA_134 : slA Try.prog 134 = none := by kernel_rfl
@[go_sem] theorem tyA_135 : tyA Try.prog 135 = some (false, 1) := by kernel_rfl
@[go_sem] theorem bytesA_135 : bytesA Try.prog 135 = false := by kernel_rfl
@[go_sem] theorem knownA_135 : knownA Try.prog 135 = true := by kernel_rfl
@[go_sem] theorem concA_135 : concA Try.prog 135 = true := by kernel_rfl
@[go_sem] theorem ikA_135 : ikA Try.prog 135 = none := by kernel_rfl
@[go_sem] theorem bldT_135 : bldT Try.prog 135 = none := by kernel_rfl
@[go_sem] theorem zeroA_135 : zeroA Try.prog 135 = some [.raw .nilFunc] := by kernel_rfl
@[go_sem] theorem slA_135 : slA Try.prog 135 = none := by kernel_rfl
@[go_sem] theorem tyA_136 : tyA Try.prog 136 = some (false, 1) := by kernel_rfl
@[go_sem] theorem bytesA_136 : bytesA Try.prog 136 = false := by kernel_rfl
@[go_sem] theorem knownA_136 : knownA Try.prog 136 = true := by kernel_rfl
@[go_sem] theorem concA_136 : concA Try.prog 136 = true := by kernel_rfl
@[go_sem] theorem ikA_136 : ikA Try.prog 136 = none := by kernel_rfl
@[go_sem] theorem bldT_136 : bldT Try.prog 136 = none := by kernel_rfl
@[go_sem] theorem zeroA_136 : zeroA Try.prog 136 = some [.raw .nilFunc] := by kernel_rfl
@[go_sem] theorem slA_136 : slA Try.prog 136 = none := by kernel_rfl
@[go_sem] theorem tyA_137 : tyA Try.prog 137 = some (false, 1) := by kernel_rfl
@[go_sem] theorem bytesA_137 : bytesA Try.prog 137 = false := by kernel_rfl
@[go_sem] theorem knownA_137 : knownA Try.prog 137 = true := by kernel_rfl
@[go_sem] theorem concA_137 : concA Try.prog 137 = true := by kernel_rfl
@[go_sem] theorem ikA_137 : ikA Try.prog 137 = none := by kernel_rfl
@[go_sem] theorem bldT_137 : bldT Try.prog 137 = none := by kernel_rfl
@[go_sem] theorem zeroA_137 : zeroA Try.prog 137 = some [.raw .nilFunc] := by kernel_rfl
@[go_sem] theorem slA_137 : slA Try.prog 137 = none := by kernel_rfl
@[go_sem] theorem tyA_138 : tyA Try.prog 138 = some (false, 1) := by kernel_rfl
@[go_sem] theorem bytesA_138 : bytesA Try.prog 138 = false := by kernel_rfl
@[go_sem] theorem knownA_138 : knownA Try.prog 138 = true := by kernel_rfl
@[go_sem] theorem concA_138 : concA Try.prog 138 = true := by kernel_rfl
@[go_sem] theorem ikA_138 : ikA Try.prog 138 = none := by kernel_rfl
@[go_sem] theorem bldT_138 : bldT Try.prog 138 = none := by kernel_rfl
@[go_sem] theorem zeroA_138 : zeroA Try.prog 138 = some [.raw .nilFunc] := by kernel_rfl
@[go_sem] theorem slA_138 : slA Try.prog 138 = none := by kernel_rfl
@[go_sem] theorem tyA_139 : tyA Try.prog 139 = some (false, 1) := by kernel_rfl
@[go_sem] theorem bytesA_139 : bytesA Try.prog 139 = false := by kernel_rfl
@[go_sem] theorem knownA_139 : knownA Try.prog 139 = true := by kernel_rfl
@[go_sem] theorem concA_139 : concA Try.prog 139 = true := by kernel_rfl
@[go_sem] theorem ikA_139 : ikA Try.prog 139 = none := by kernel_rfl
@[go_sem] theorem bldT_139 : bldT Try.prog 139 = none := by kernel_rfl
@[go_sem] theorem zeroA_139 : zeroA Try.prog 139 = some [.raw .nilFunc] := by kernel_rfl
@[go_sem] theorem slA_139 : slA Try.prog 139 = none := by kernel_rfl
@[go_sem] theorem tyA_140 : tyA Try.prog 140 = some (false, 1) := by kernel_rfl
@[go_sem] theorem bytesA_140 : bytesA Try.prog 140 = false := by kernel_rfl
@[go_sem] theorem knownA_140 : knownA Try.prog 140 = true := by kernel_rfl
@[go_sem] theorem concA_140 : concA Try.prog 140 = true := by kernel_rfl
@[go_sem] theorem ikA_140 : ikA Try.prog 140 = none := by kernel_rfl
@[go_sem] theorem slB_140 : slB Try.prog 140 = true := by kernel_rfl
@[go_sem] theorem bldT_140 : bldT Try.prog 140 = none := by kernel_rfl
@[go_sem] theorem zeroA_140 : zeroA Try.prog 140 = some [.sl 1 [] .nil] := by kernel_rfl
@[go_sem] theorem slA_140 : slA Try.prog 140 = some 1 := by kernel_rfl
@[go_sem] theorem mkA_140 : mkA Try.prog 140 = some ([.sl 4 [] .nil], 24) := by kernel_rfl
@[go_sem] theorem apA_140 : apA Try.prog 140 = some (1, 24) := by kernel_rfl
@[go_sem] theorem partTy_140 (i : Nat) : partTy Try.prog 140 i = 74 := rfl_of_partTy (by kernel_rfl)
@[go_sem] theorem tyA_141 : tyA Try.prog 141 = some (false, 1) := by kernel_rfl
@[go_sem] theorem bytesA_141 : bytesA Try.prog 141 = false := by kernel_rfl
@[go_sem] theorem knownA_141 : knownA Try.prog 141 = true := by kernel_rfl
@[go_sem] theorem concA_141 : concA Try.prog 141 = true := by kernel_rfl
@[go_sem] theorem ikA_141 : ikA Try.prog 141 = none := by kernel_rfl
@[go_sem] theorem bldT_141 : bldT Try.prog 141 = none := by kernel_rfl
@[go_sem] theorem zeroA_141 : zeroA Try.prog 141 = some [.raw (.pointer none)] := by kernel_rfl
@[go_sem] theorem slA_141 : slA Try.prog 141 = none := by kernel_rfl
@[go_sem] theorem tyA_142 : tyA Try.prog 142 = some (false, 1) := by kernel_rfl
@[go_sem] theorem bytesA_142 : bytesA Try.prog 142 = false := by kernel_rfl
@[go_sem] theorem knownA_142 : knownA Try.prog 142 = true := by kernel_rfl
@[go_sem] theorem concA_142 : concA Try.prog 142 = true := by kernel_rfl
@[go_sem] theorem ikA_142 : ikA Try.prog 142 = none := by kernel_rfl
@[go_sem] theorem bldT_142 : bldT Try.prog 142 = none := by kernel_rfl
@[go_sem] theorem zeroA_142 : zeroA Try.prog 142 = some [.raw .nilFunc] := by kernel_rfl
@[go_sem] theorem slA_142 : slA Try.prog 142 = none := by kernel_rfl
@[go_sem] theorem tyA_143 : tyA Try.prog 143 = some (false, 1) := by kernel_rfl
@[go_sem] theorem bytesA_143 : bytesA Try.prog 143 = false := by kernel_rfl
@[go_sem] theorem knownA_143 : knownA Try.prog 143 = true := by kernel_rfl
@[go_sem] theorem concA_143 : concA Try.prog 143 = true := by kernel_rfl
@[go_sem] theorem ikA_143 : ikA Try.prog 143 = none := by kernel_rfl
@[go_sem] theorem bldT_143 : bldT Try.prog 143 = none := by kernel_rfl
@[go_sem] theorem zeroA_143 : zeroA Try.prog 143 = some [.raw .nilFunc] := by kernel_rfl
@[go_sem] theorem slA_143 : slA Try.prog 143 = none := by kernel_rfl
@[go_sem] theorem tyA_144 : tyA Try.prog 144 = some (false, 1) := by kernel_rfl
@[go_sem] theorem bytesA_144 : bytesA Try.prog 144 = false := by kernel_rfl
@[go_sem] theorem knownA_144 : knownA Try.prog 144 = true := by kernel_rfl
@[go_sem] theorem concA_144 : concA Try.prog 144 = true := by kernel_rfl
@[go_sem] theorem ikA_144 : ikA Try.prog 144 = none := by kernel_rfl
@[go_sem] theorem bldT_144 : bldT Try.prog 144 = none := by kernel_rfl
@[go_sem] theorem zeroA_144 : zeroA Try.prog 144 = some [.raw .nilFunc] := by kernel_rfl
@[go_sem] theorem slA_144 : slA Try.prog 144 = none := by kernel_rfl
@[go_sem] theorem tyA_145 : tyA Try.prog 145 = some (false, 1) := by kernel_rfl
@[go_sem] theorem bytesA_145 : bytesA Try.prog 145 = false := by kernel_rfl
@[go_sem] theorem knownA_145 : knownA Try.prog 145 = true := by kernel_rfl
@[go_sem] theorem concA_145 : concA Try.prog 145 = true := by kernel_rfl
@[go_sem] theorem ikA_145 : ikA Try.prog 145 = none := by kernel_rfl
@[go_sem] theorem bldT_145 : bldT Try.prog 145 = none := by kernel_rfl
@[go_sem] theorem zeroA_145 : zeroA Try.prog 145 = some [.raw .nilFunc] := by kernel_rfl
@[go_sem] theorem slA_145 : slA Try.prog 145 = none := by kernel_rfl
@[go_sem] theorem tyA_146 : tyA Try.prog 146 = some (false, 1) := by kernel_rfl
@[go_sem] theorem bytesA_146 : bytesA Try.prog 146 = false := by kernel_rfl
@[go_sem] theorem knownA_146 : knownA Try.prog 146 = true := by kernel_rfl
@[go_sem] theorem concA_146 : concA Try.prog 146 = true := by kernel_rfl
@[go_sem] theorem ikA_146 : ikA Try.prog 146 = none := by kernel_rfl
@[go_sem] theorem bldT_146 : bldT Try.prog 146 = none := by kernel_rfl
@[go_sem] theorem zeroA_146 : zeroA Try.prog 146 = some [.raw .nilFunc] := by kernel_rfl
@[go_sem] theorem slA_146 : slA Try.prog 146 = none := by kernel_rfl
@[go_sem] theorem tyA_147 : tyA Try.prog 147 = some (false, 1) := by kernel_rfl
@[go_sem] theorem bytesA_147 : bytesA Try.prog 147 = false := by kernel_rfl
@[go_sem] theorem knownA_147 : knownA Try.prog 147 = true := by kernel_rfl
@[go_sem] theorem concA_147 : concA Try.prog 147 = true := by kernel_rfl
@[go_sem] theorem ikA_147 : ikA Try.prog 147 = none := by kernel_rfl
@[go_sem] theorem bldT_147 : bldT Try.prog 147 = none := by kernel_rfl
@[go_sem] theorem zeroA_147 : zeroA Try.prog 147 = some [.raw .nilFunc] := by kernel_rfl
@[go_sem] theorem slA_147 : slA Try.prog 147 = none := by kernel_rfl
@[go_sem] theorem tyA_148 : tyA Try.prog 148 = some (false, 1) := by kernel_rfl
@[go_sem] theorem bytesA_148 : bytesA Try.prog 148 = false := by kernel_rfl
@[go_sem] theorem knownA_148 : knownA Try.prog 148 = true := by kernel_rfl
@[go_sem] theorem concA_148 : concA Try.prog 148 = true := by kernel_rfl
@[go_sem] theorem ikA_148 : ikA Try.prog 148 = none := by kernel_rfl
@[go_sem] theorem bldT_148 : bldT Try.prog 148 = none := by kernel_rfl
@[go_sem] theorem zeroA_148 : zeroA Try.prog 148 = some [.raw .nilFunc] := by kernel_rfl
@[go_sem] theorem slA_148 : slA Try.prog 148 = none := by kernel_rfl
@[go_sem] theorem tyA_149 : tyA Try.prog 149 = some (false, 1) := by kernel_rfl
@[go_sem] theorem bytesA_149 : bytesA Try.prog 149 = false := by kernel_rfl
@[go_sem] theorem knownA_149 : knownA Try.prog 149 = true := by kernel_rfl
@[go_sem] theorem concA_149 : concA Try.prog 149 = true := by kernel_rfl
@[go_sem] theorem ikA_149 : ikA Try.prog 149 = none := by kernel_rfl
@[go_sem] theorem bldT_149 : bldT Try.prog 149 = none := by kernel_rfl
@[go_sem] theorem zeroA_149 : zeroA Try.prog 149 = some [.raw .nilFunc] := by kernel_rfl
@[go_sem] theorem slA_149 : slA Try.prog 149 = none := by kernel_rfl
@[go_sem] theorem tyA_150 : tyA Try.prog 150 = some (false, 1) := by kernel_rfl
@[go_sem] theorem bytesA_150 : bytesA Try.prog 150 = false := by kernel_rfl
@[go_sem] theorem knownA_150 : knownA Try.prog 150 = true := by kernel_rfl
@[go_sem] theorem concA_150 : concA Try.prog 150 = true := by kernel_rfl
@[go_sem] theorem ikA_150 : ikA Try.prog 150 = none := by kernel_rfl
@[go_sem] theorem bldT_150 : bldT Try.prog 150 = none := by kernel_rfl
@[go_sem] theorem zeroA_150 : zeroA Try.prog 150 = some [.raw (.pointer none)] := by kernel_rfl
@[go_sem] theorem slA_150 : slA Try.prog 150 = none := by kernel_rfl
@[go_sem] theorem tyA_151 : tyA Try.prog 151 = some (false, 1) := by kernel_rfl
@[go_sem] theorem bytesA_151 : bytesA Try.prog 151 = false := by kernel_rfl
@[go_sem] theorem knownA_151 : knownA Try.prog 151 = true := by kernel_rfl
@[go_sem] theorem concA_151 : concA Try.prog 151 = true := by kernel_rfl
@[go_sem] theorem ikA_151 : ikA Try.prog 151 = none := by kernel_rfl
@[go_sem] theorem bldT_151 : bldT Try.prog 151 = none := by kernel_rfl
@[go_sem] theorem zeroA_151 : zeroA Try.prog 151 = some [.raw .nilFunc] := by kernel_rfl
@[go_sem] theorem slA_151 : slA Try.prog 151 = none := by kernel_rfl
@[go_sem] theorem tyA_152 : tyA Try.prog 152 = some (true, 3) := by kernel_rfl
@[go_sem] theorem bytesA_152 : bytesA Try.prog 152 = false := by kernel_rfl
@[go_sem] theorem knownA_152 : knownA Try.prog 152 = true := by kernel_rfl
@[go_sem] theorem concA_152 : concA Try.prog 152 = true := by kernel_rfl
@[go_sem] theorem ikA_152 : ikA Try.prog 152 = none := by kernel_rfl
@[go_sem] theorem bldT_152 : bldT Try.prog 152 = none := by kernel_rfl
@[go_sem] theorem zeroA_152 : zeroA Try.prog 152 = some [.raw .nilFunc, .raw .nilFunc, .raw .nilFunc] := by kernel_rfl
@[go_sem] theorem slA_152 : slA Try.prog 152 = none := by kernel_rfl
@[go_sem] theorem arA_152 : arA Try.prog 152 = some (3, 1) := by kernel_rfl
@[go_sem] theorem avA_152 : avA Try.prog 152 = some (3, false, 1) := by kernel_rfl
@[go_sem] theorem fsOk_152 : fsOk Try.prog 152 = true := by kernel_rfl
@[go_sem] theorem plA_152_0 : plA Try.prog 152 0 = some (0, 1) := by kernel_rfl
@[go_sem] theorem partTy_152_0 : partTy Try.prog 152 0 = 39 := by kernel_rfl
@[go_sem] theorem plA_152_1 : plA Try.prog 152 1 = some (1, 1) := by kernel_rfl
@[go_sem] theorem partTy_152_1 : partTy Try.prog 152 1 = 39 := by kernel_rfl
@[go_sem] theorem plA_152_2 : plA Try.prog 152 2 = some (2, 1) := by kernel_rfl
@[go_sem] theorem partTy_152_2 : partTy Try.prog 152 2 = 39 := by kernel_rfl
@[go_sem] theorem tyA_153 : tyA Try.prog 153 = some (false, 1) := by kernel_rfl
@[go_sem] theorem bytesA_153 : bytesA Try.prog 153 = false := by kernel_rfl
@[go_sem] theorem knownA_153 : knownA Try.prog 153 = true := by kernel_rfl
@[go_sem] theorem concA_153 : concA Try.prog 153 = true := by kernel_rfl
@[go_sem] theorem ikA_153 : ikA Try.prog 153 = none := by kernel_rfl
@[go_sem] theorem bldT_153 : bldT Try.prog 153 = none := by kernel_rfl
@[go_sem] theorem zeroA_153 : zeroA Try.prog 153 = some [.raw .nilFunc] := by kernel_rfl
@[go_sem] theorem slA_153 : slA Try.prog 153 = none := by kernel_rfl
@[go_sem] theorem tyA_154 : tyA Try.prog 154 = some (true, 2) := by kernel_rfl
@[go_sem] theorem bytesA_154 : bytesA Try.prog 154 = false := by kernel_rfl
@[go_sem] theorem knownA_154 : knownA Try.prog 154 = true := by kernel_rfl
@[go_sem] theorem concA_154 : concA Try.prog 154 = true := by kernel_rfl
@[go_sem] theorem ikA_154 : ikA Try.prog 154 = none := by kernel_rfl
@[go_sem] theorem bldT_154 : bldT Try.prog 154 = none := by kernel_rfl
@[go_sem] theorem zeroA_154 : zeroA Try.prog 154 = some [.int .i64 0, .int .i64 0] := by kernel_rfl
@[go_sem] theorem slA_154 : slA Try.prog 154 = none := by kernel_rfl
@[go_sem] theorem eqKs_154 : eqKs Try.prog 154 = some [.int .i64, .int .i64] := by kernel_rfl
@[go_sem] theorem arA_154 : arA Try.prog 154 = some (2, 1) := by kernel_rfl
@[go_sem] theorem avA_154 : avA Try.prog 154 = some (2, false, 1) := by kernel_rfl
@[go_sem] theorem fsOk_154 : fsOk Try.prog 154 = true := by kernel_rfl
@[go_sem] theorem plA_154_0 : plA Try.prog 154 0 = some (0, 1) := by kernel_rfl
@[go_sem] theorem partTy_154_0 : partTy Try.prog 154 0 = 3 := by kernel_rfl
@[go_sem] theorem plA_154_1 : plA Try.prog 154 1 = some (1, 1) := by kernel_rfl
@[go_sem] theorem partTy_154_1 : partTy Try.prog 154 1 = 3 := by kernel_rfl
@[go_sem] theorem tyA_155 : tyA Try.prog 155 = some (false, 1) := by kernel_rfl
@[go_sem] theorem bytesA_155 : bytesA Try.prog 155 = false := by kernel_rfl
@[go_sem] theorem knownA_155 : knownA Try.prog 155 = true := by kernel_rfl
@[go_sem] theorem concA_155 : concA Try.prog 155 = true := by kernel_rfl
@[go_sem] theorem ikA_155 : ikA Try.prog 155 = none := by kernel_rfl
@[go_sem] theorem slB_155 : slB Try.prog 155 = true := by kernel_rfl
@[go_sem] theorem bldT_155 : bldT Try.prog 155 = none := by kernel_rfl
@[go_sem] theorem zeroA_155 : zeroA Try.prog 155 = some [.sl 2 [] .nil] := by kernel_rfl
@[go_sem] theorem slA_155 : slA Try.prog 155 = some 2 := by kernel_rfl
@[go_sem] theorem mkA_155 : mkA Try.prog 155 = some ([.int .i64 0, .int .i64 0], 16) := by kernel_rfl
@[go_sem] theorem apA_155 : apA Try.prog 155 = some (2, 16) := by kernel_rfl
@[go_sem] theorem partTy_155 (i : Nat) : partTy Try.prog 155 i = 154 := rfl_of_partTy (by kernel_rfl)
@[go_sem] theorem tyA_156 : tyA Try.prog 156 = some (true, 2) := by kernel_rfl
@[go_sem] theorem bytesA_156 : bytesA Try.prog 156 = false := by kernel_rfl
@[go_sem] theorem knownA_156 : knownA Try.prog 156 = true := by kernel_rfl
@[go_sem] theorem concA_156 : concA Try.prog 156 = true := by kernel_rfl
@[go_sem] theorem ikA_156 : ikA Try.prog 156 = none := by kernel_rfl
@[go_sem] theorem bldT_156 : bldT Try.prog 156 = none := by kernel_rfl
@[go_sem] theorem zeroA_156 : zeroA Try.prog 156 = some [.int .i64 0, .int .i64 0] := by kernel_rfl
@[go_sem] theorem slA_156 : slA Try.prog 156 = none := by kernel_rfl
@[go_sem] theorem fsOk_156 : fsOk Try.prog 156 = true := by kernel_rfl
@[go_sem] theorem fldA_156_0 : fldA Try.prog 156 0 = some 0 := by kernel_rfl
@[go_sem] theorem fpA_156_0 : fpA Try.prog 156 0 = some (0, false, 1) := by kernel_rfl
@[go_sem] theorem plA_156_0 : plA Try.prog 156 0 = some (0, 1) := by kernel_rfl
@[go_sem] theorem partTy_156_0 : partTy Try.prog 156 0 = 3 := by kernel_rfl
@[go_sem] theorem fldA_156_1 : fldA Try.prog 156 1 = some 1 := by kernel_rfl
@[go_sem] theorem fpA_156_1 : fpA Try.prog 156 1 = some (1, false, 1) := by kernel_rfl
@[go_sem] theorem plA_156_1 : plA Try.prog 156 1 = some (1, 1) := by kernel_rfl
@[go_sem] theorem partTy_156_1 : partTy Try.prog 156 1 = 3 := by kernel_rfl
@[go_sem] theorem eqKs_156 : eqKs Try.prog 156 = some [.int .i64, .int .i64] := by kernel_rfl
@[go_sem] theorem tyA_157 : tyA Try.prog 157 = some (true, 2) := by kernel_rfl
@[go_sem] theorem bytesA_157 : bytesA Try.prog 157 = false := by kernel_rfl
@[go_sem] theorem knownA_157 : knownA Try.prog 157 = true := by kernel_rfl
@[go_sem] theorem concA_157 : concA Try.prog 157 = true := by kernel_rfl
@[go_sem] theorem ikA_157 : ikA Try.prog 157 = none := by kernel_rfl
@[go_sem] theorem bldT_157 : bldT Try.prog 157 = none := by kernel_rfl
@[go_sem] theorem zeroA_157 : zeroA Try.prog 157 = some [.int .i64 0, .int .i64 0] := by kernel_rfl
@[go_sem] theorem slA_157 : slA Try.prog 157 = none := by kernel_rfl
@[go_sem] theorem fsOk_157 : fsOk Try.prog 157 = true := by kernel_rfl
@[go_sem] theorem fldA_157_0 : fldA Try.prog 157 0 = some 0 := by kernel_rfl
@[go_sem] theorem fpA_157_0 : fpA Try.prog 157 0 = some (0, false, 1) := by kernel_rfl
@[go_sem] theorem plA_157_0 : plA Try.prog 157 0 = some (0, 1) := by kernel_rfl
@[go_sem] theorem partTy_157_0 : partTy Try.prog 157 0 = 3 := by kernel_rfl
@[go_sem] theorem fldA_157_1 : fldA Try.prog 157 1 = some 1 := by kernel_rfl
@[go_sem] theorem fpA_157_1 : fpA Try.prog 157 1 = some (1, false, 1) := by kernel_rfl
@[go_sem] theorem plA_157_1 : plA Try.prog 157 1 = some (1, 1) := by kernel_rfl
@[go_sem] theorem partTy_157_1 : partTy Try.prog 157 1 = 3 := by kernel_rfl
@[go_sem] theorem eqKs_157 : eqKs Try.prog 157 = some [.int .i64, .int .i64] := by kernel_rfl
@[go_sem] theorem tyA_158 : tyA Try.prog 158 = some (false, 1) := by kernel_rfl
@[go_sem] theorem bytesA_158 : bytesA Try.prog 158 = false := by kernel_rfl
@[go_sem] theorem knownA_158 : knownA Try.prog 158 = true := by kernel_rfl
@[go_sem] theorem concA_158 : concA Try.prog 158 = true := by kernel_rfl
@[go_sem] theorem ikA_158 : ikA Try.prog 158 = none := by kernel_rfl
@[go_sem] theorem bldT_158 : bldT Try.prog 158 = none := by kernel_rfl
@[go_sem] theorem zeroA_158 : zeroA Try.prog 158 = some [.raw .nilFunc] := by kernel_rfl
@[go_sem] theorem slA_158 : slA Try.prog 158 = none := by kernel_rfl
@[go_sem] theorem tyA_159 : tyA Try.prog 159 = some (false, 1) := by kernel_rfl
@[go_sem] theorem bytesA_159 : bytesA Try.prog 159 = false := by kernel_rfl
@[go_sem] theorem knownA_159 : knownA Try.prog 159 = true := by kernel_rfl
@[go_sem] theorem concA_159 : concA Try.prog 159 = true := by kernel_rfl
@[go_sem] theorem ikA_159 : ikA Try.prog 159 = none := by kernel_rfl
@[go_sem] theorem bldT_159 : bldT Try.prog 159 = none := by kernel_rfl
@[go_sem] theorem zeroA_159 : zeroA Try.prog 159 = some [.raw .nilFunc] := by kernel_rfl
@[go_sem] theorem slA_159 : slA Try.prog 159 = none := by kernel_rfl
@[go_sem] theorem tyA_160 : tyA Try.prog 160 = some (false, 1) := by kernel_rfl
@[go_sem] theorem bytesA_160 : bytesA Try.prog 160 = false := by kernel_rfl
@[go_sem] theorem knownA_160 : knownA Try.prog 160 = true := by kernel_rfl
@[go_sem] theorem concA_160 : concA Try.prog 160 = true := by kernel_rfl
@[go_sem] theorem ikA_160 : ikA Try.prog 160 = none := by kernel_rfl
@[go_sem] theorem bldT_160 : bldT Try.prog 160 = none := by kernel_rfl
@[go_sem] theorem zeroA_160 : zeroA Try.prog 160 = some [.raw (.pointer none)] := by kernel_rfl
@[go_sem] theorem slA_160 : slA Try.prog 160 = none := by kernel_rfl
@[go_sem] theorem tyA_161 : tyA Try.prog 161 = some (true, 8) := by kernel_rfl
@[go_sem] theorem bytesA_161 : bytesA Try.prog 161 = false := by kernel_rfl
@[go_sem] theorem knownA_161 : knownA Try.prog 161 = true := by kernel_rfl
@[go_sem] theorem concA_161 : concA Try.prog 161 = true := by kernel_rfl
@[go_sem] theorem ikA_161 : ikA Try.prog 161 = none := by kernel_rfl
@[go_sem] theorem bldT_161 : bldT Try.prog 161 = none := by kernel_rfl
@[go_sem] theorem zeroA_161 : zeroA Try.prog 161 = some [.sl 1 [] .nil, .sl 7 [] .nil, .sl 4 [] .nil, .sl 2 [] .nil, .sl 2 [] .nil, .sl 3 [] .nil, .int .i64 0, .bool false] := by kernel_rfl
@[go_sem] theorem slA_161 : slA Try.prog 161 = none := by kernel_rfl
@[go_sem] theorem fsOk_161 : fsOk Try.prog 161 = true := by kernel_rfl
@[go_sem] theorem fldA_161_0 : fldA Try.prog 161 0 = some 0 := by kernel_rfl
@[go_sem] theorem fpA_161_0 : fpA Try.prog 161 0 = some (0, true, 5) := by kernel_rfl
@[go_sem] theorem plA_161_0 : plA Try.prog 161 0 = some (0, 5) := by kernel_rfl
@[go_sem] theorem partTy_161_0 : partTy Try.prog 161 0 = 28 := by kernel_rfl
@[go_sem] theorem fldA_161_1 : fldA Try.prog 161 1 = some 5 := by kernel_rfl
@[go_sem] theorem fpA_161_1 : fpA Try.prog 161 1 = some (5, false, 1) := by kernel_rfl
@[go_sem] theorem plA_161_1 : plA Try.prog 161 1 = some (5, 1) := by kernel_rfl
@[go_sem] theorem partTy_161_1 : partTy Try.prog 161 1 = 61 := by kernel_rfl
@[go_sem] theorem fldA_161_2 : fldA Try.prog 161 2 = some 6 := by kernel_rfl
@[go_sem] theorem fpA_161_2 : fpA Try.prog 161 2 = some (6, false, 1) := by kernel_rfl
@[go_sem] theorem plA_161_2 : plA Try.prog 161 2 = some (6, 1) := by kernel_rfl
@[go_sem] theorem partTy_161_2 : partTy Try.prog 161 2 = 3 := by kernel_rfl
@[go_sem] theorem fldA_161_3 : fldA Try.prog 161 3 = some 7 := by kernel_rfl
@[go_sem] theorem fpA_161_3 : fpA Try.prog 161 3 = some (7, false, 1) := by kernel_rfl
@[go_sem] theorem plA_161_3 : plA Try.prog 161 3 = some (7, 1) := by kernel_rfl
@[go_sem] theorem partTy_161_3 : partTy Try.prog 161 3 = 4 := by kernel_rfl
@[go_sem] theorem tyA_162 : tyA Try.prog 162 = some (true, 8) := by kernel_rfl
@[go_sem] theorem bytesA_162 : bytesA Try.prog 162 = false := by kernel_rfl
@[go_sem] theorem knownA_162 : knownA Try.prog 162 = true := by kernel_rfl
@[go_sem] theorem concA_162 : concA Try.prog 162 = true := by kernel_rfl
@[go_sem] theorem ikA_162 : ikA Try.prog 162 = none := by kernel_rfl
@[go_sem] theorem bldT_162 : bldT Try.prog 162 = none := by kernel_rfl
@[go_sem] theorem zeroA_162 : zeroA Try.prog 162 = some [.sl 1 [] .nil, .sl 7 [] .nil, .sl 4 [] .nil, .sl 2 [] .nil, .sl 2 [] .nil, .sl 3 [] .nil, .int .i64 0, .bool false] := by kernel_rfl
@[go_sem] theorem slA_162 : slA Try.prog 162 = none := by kernel_rfl
@[go_sem] theorem fsOk_162 : fsOk Try.prog 162 = true := by kernel_rfl
@[go_sem] theorem fldA_162_0 : fldA Try.prog 162 0 = some 0 := by kernel_rfl
@[go_sem] theorem fpA_162_0 : fpA Try.prog 162 0 = some (0, true, 5) := by kernel_rfl
@[go_sem] theorem plA_162_0 : plA Try.prog 162 0 = some (0, 5) := by kernel_rfl
@[go_sem] theorem partTy_162_0 : partTy Try.prog 162 0 = 28 := by kernel_rfl
@[go_sem] theorem fldA_162_1 : fldA Try.prog 162 1 = some 5 := by kernel_rfl
@[go_sem] theorem fpA_162_1 : fpA Try.prog 162 1 = some (5, false, 1) := by kernel_rfl
@[go_sem] theorem plA_162_1 : plA Try.prog 162 1 = some (5, 1) := by kernel_rfl
@[go_sem] theorem partTy_162_1 : partTy Try.prog 162 1 = 61 := by kernel_rfl
@[go_sem] theorem fldA_162_2 : fldA Try.prog 162 2 = some 6 := by kernel_rfl
@[go_sem] theorem fpA_162_2 : fpA Try.prog 162 2 = some (6, false, 1) := by kernel_rfl
@[go_sem] theorem plA_162_2 : plA Try.prog 162 2 = some (6, 1) := by kernel_rfl
@[go_sem] theorem partTy_162_2 : partTy Try.prog 162 2 = 3 := by kernel_rfl
@[go_sem] theorem fldA_162_3 : fldA Try.prog 162 3 = some 7 := by kernel_rfl
@[go_sem] theorem fpA_162_3 : fpA Try.prog 162 3 = some (7, false, 1) := by kernel_rfl
@[go_sem] theorem plA_162_3 : plA Try.prog 162 3 = some (7, 1) := by kernel_rfl
@[go_sem] theorem partTy_162_3 : partTy Try.prog 162 3 = 4 := by kernel_rfl
@[go_sem] theorem tyA_163 : tyA Try.prog 163 = some (false, 1) := by kernel_rfl
@[go_sem] theorem bytesA_163 : bytesA Try.prog 163 = false := by kernel_rfl
@[go_sem] theorem knownA_163 : knownA Try.prog 163 = true := by kernel_rfl
@[go_sem] theorem concA_163 : concA Try.prog 163 = true := by kernel_rfl
@[go_sem] theorem ikA_163 : ikA Try.prog 163 = none := by kernel_rfl
@[go_sem] theorem bldT_163 : bldT Try.prog 163 = none := by kernel_rfl
@[go_sem] theorem zeroA_163 : zeroA Try.prog 163 = some [.raw .nilFunc] := by kernel_rfl
@[go_sem] theorem slA_163 : slA Try.prog 163 = none := by kernel_rfl
@[go_sem] theorem tyA_164 : tyA Try.prog 164 = some (true, 3) := by kernel_rfl
@[go_sem] theorem bytesA_164 : bytesA Try.prog 164 = false := by kernel_rfl
@[go_sem] theorem knownA_164 : knownA Try.prog 164 = true := by kernel_rfl
@[go_sem] theorem concA_164 : concA Try.prog 164 = true := by kernel_rfl
@[go_sem] theorem ikA_164 : ikA Try.prog 164 = none := by kernel_rfl
@[go_sem] theorem bldT_164 : bldT Try.prog 164 = none := by kernel_rfl
@[go_sem] theorem zeroA_164 : zeroA Try.prog 164 = some [.sl 3 [] .nil, .int .i64 0, .bool false] := by kernel_rfl
@[go_sem] theorem slA_164 : slA Try.prog 164 = none := by kernel_rfl
@[go_sem] theorem fsOk_164 : fsOk Try.prog 164 = true := by kernel_rfl
@[go_sem] theorem fldA_164_0 : fldA Try.prog 164 0 = some 0 := by kernel_rfl
@[go_sem] theorem fpA_164_0 : fpA Try.prog 164 0 = some (0, false, 1) := by kernel_rfl
@[go_sem] theorem plA_164_0 : plA Try.prog 164 0 = some (0, 1) := by kernel_rfl
@[go_sem] theorem partTy_164_0 : partTy Try.prog 164 0 = 61 := by kernel_rfl
@[go_sem] theorem fldA_164_1 : fldA Try.prog 164 1 = some 1 := by kernel_rfl
@[go_sem] theorem fpA_164_1 : fpA Try.prog 164 1 = some (1, false, 1) := by kernel_rfl
@[go_sem] theorem plA_164_1 : plA Try.prog 164 1 = some (1, 1) := by kernel_rfl
@[go_sem] theorem partTy_164_1 : partTy Try.prog 164 1 = 3 := by kernel_rfl
@[go_sem] theorem fldA_164_2 : fldA Try.prog 164 2 = some 2 := by kernel_rfl
@[go_sem] theorem fpA_164_2 : fpA Try.prog 164 2 = some (2, false, 1) := by kernel_rfl
@[go_sem] theorem plA_164_2 : plA Try.prog 164 2 = some (2, 1) := by kernel_rfl
@[go_sem] theorem partTy_164_2 : partTy Try.prog 164 2 = 4 := by kernel_rfl
@[go_sem] theorem tyA_165 : tyA Try.prog 165 = some (true, 3) := by kernel_rfl
@[go_sem] theorem bytesA_165 : bytesA Try.prog 165 = false := by kernel_rfl
@[go_sem] theorem knownA_165 : knownA Try.prog 165 = true := by kernel_rfl
@[go_sem] theorem concA_165 : concA Try.prog 165 = true := by kernel_rfl
@[go_sem] theorem ikA_165 : ikA Try.prog 165 = none := by kernel_rfl
@[go_sem] theorem bldT_165 : bldT Try.prog 165 = none := by kernel_rfl
@[go_sem] theorem zeroA_165 : zeroA Try.prog 165 = some [.sl 3 [] .nil, .int .i64 0, .bool false] := by kernel_rfl
@[go_sem] theorem slA_165 : slA Try.prog 165 = none := by kernel_rfl
@[go_sem] theorem fsOk_165 : fsOk Try.prog 165 = true := by kernel_rfl
@[go_sem] theorem fldA_165_0 : fldA Try.prog 165 0 = some 0 := by kernel_rfl
@[go_sem] theorem fpA_165_0 : fpA Try.prog 165 0 = some (0, false, 1) := by kernel_rfl
@[go_sem] theorem plA_165_0 : plA Try.prog 165 0 = some (0, 1) := by kernel_rfl
@[go_sem] theorem partTy_165_0 : partTy Try.prog 165 0 = 61 := by kernel_rfl
@[go_sem] theorem fldA_165_1 : fldA Try.prog 165 1 = some 1 := by kernel_rfl
@[go_sem] theorem fpA_165_1 : fpA Try.prog 165 1 = some (1, false, 1) := by kernel_rfl
@[go_sem] theorem plA_165_1 : plA Try.prog 165 1 = some (1, 1) := by kernel_rfl
@[go_sem] theorem partTy_165_1 : partTy Try.prog 165 1 = 3 := by kernel_rfl
@[go_sem] theorem fldA_165_2 : fldA Try.prog 165 2 = some 2 := by kernel_rfl
@[go_sem] theorem fpA_165_2 : fpA Try.prog 165 2 = some (2, false, 1) := by kernel_rfl
@[go_sem] theorem plA_165_2 : plA Try.prog 165 2 = some (2, 1) := by kernel_rfl
@[go_sem] theorem partTy_165_2 : partTy Try.prog 165 2 = 4 := by kernel_rfl
@[go_sem] theorem tyA_166 : tyA Try.prog 166 = some (false, 1) := by kernel_rfl
@[go_sem] theorem bytesA_166 : bytesA Try.prog 166 = false := by kernel_rfl
@[go_sem] theorem knownA_166 : knownA Try.prog 166 = true := by kernel_rfl
@[go_sem] theorem concA_166 : concA Try.prog 166 = true := by kernel_rfl
@[go_sem] theorem ikA_166 : ikA Try.prog 166 = none := by kernel_rfl
@[go_sem] theorem bldT_166 : bldT Try.prog 166 = none := by kernel_rfl
@[go_sem] theorem zeroA_166 : zeroA Try.prog 166 = some [.raw .nilFunc] := by kernel_rfl
@[go_sem] theorem slA_166 : slA Try.prog 166 = none := by kernel_rfl
@[go_sem] theorem tyA_167 : tyA Try.prog 167 = some (false, 1) := by kernel_rfl
@[go_sem] theorem bytesA_167 : bytesA Try.prog 167 = false := by kernel_rfl
@[go_sem] theorem knownA_167 : knownA Try.prog 167 = true := by kernel_rfl
@[go_sem] theorem concA_167 : concA Try.prog 167 = true := by kernel_rfl
@[go_sem] theorem ikA_167 : ikA Try.prog 167 = some .u64 := by kernel_rfl
@[go_sem] theorem bldT_167 : bldT Try.prog 167 = none := by kernel_rfl
@[go_sem] theorem zeroA_167 : zeroA Try.prog 167 = some [.int .u64 0] := by kernel_rfl
@[go_sem] theorem slA_167 : slA Try.prog 167 = none := by kernel_rfl
@[go_sem] theorem tyA_169 : tyA Try.prog 169 = some (false, 1) := by kernel_rfl
@[go_sem] theorem bytesA_169 : bytesA Try.prog 169 = false := by kernel_rfl
@[go_sem] theorem knownA_169 : knownA Try.prog 169 = true := by kernel_rfl
@[go_sem] theorem concA_169 : concA Try.prog 169 = true := by kernel_rfl
@[go_sem] theorem ikA_169 : ikA Try.prog 169 = none := by kernel_rfl
@[go_sem] theorem bldT_169 : bldT Try.prog 169 = none := by kernel_rfl
@[go_sem] theorem zeroA_169 : zeroA Try.prog 169 = some [.raw .nilFunc] := by kernel_rfl
@[go_sem] theorem slA_169 : slA Try.prog 169 = none := by kernel_rfl
@[go_sem] theorem tyA_170 : tyA Try.prog 170 = some (false, 1) := by kernel_rfl
@[go_sem] theorem bytesA_170 : bytesA Try.prog 170 = false := by kernel_rfl
@[go_sem] theorem knownA_170 : knownA Try.prog 170 = true := by kernel_rfl
@[go_sem] theorem concA_170 : concA Try.prog 170 = true := by kernel_rfl
@[go_sem] theorem ikA_170 : ikA Try.prog 170 = none := by kernel_rfl
@[go_sem] theorem slB_170 : slB Try.prog 170 = true := by kernel_rfl
@[go_sem] theorem bldT_170 : bldT Try.prog 170 = none := by kernel_rfl
@[go_sem] theorem zeroA_170 : zeroA Try.prog 170 = some [.sl 2 [] .nil] := by kernel_rfl
@[go_sem] theorem slA_170 : slA Try.prog 170 = some 2 := by kernel_rfl
@[go_sem] theorem mkA_170 : mkA Try.prog 170 = some ([.int .i64 0, .int .i64 0], 16) := by kernel_rfl
@[go_sem] theorem apA_170 : apA Try.prog 170 = some (2, 16) := by kernel_rfl
@[go_sem] theorem partTy_170 (i : Nat) : partTy Try.prog 170 i = 108 := rfl_of_partTy (by kernel_rfl)
@[go_sem] theorem tyA_172 : tyA Try.prog 172 = some (false, 1) := by kernel_rfl
@[go_sem] theorem bytesA_172 : bytesA Try.prog 172 = false := by kernel_rfl
@[go_sem] theorem knownA_172 : knownA Try.prog 172 = true := by kernel_rfl
@[go_sem] theorem concA_172 : concA Try.prog 172 = true := by kernel_rfl
@[go_sem] theorem ikA_172 : ikA Try.prog 172 = none := by kernel_rfl
@[go_sem] theorem bldT_172 : bldT Try.prog 172 = none := by kernel_rfl
@[go_sem] theorem zeroA_172 : zeroA Try.prog 172 = some [.raw .nilFunc] := by kernel_rfl
@[go_sem] theorem slA_172 : slA Try.prog 172 = none := by kernel_rfl
@[go_sem] theorem tyA_173 : tyA Try.prog 173 = some (false, 1) := by kernel_rfl
@[go_sem] theorem bytesA_173 : bytesA Try.prog 173 = false := by kernel_rfl
@[go_sem] theorem knownA_173 : knownA Try.prog 173 = true := by kernel_rfl
@[go_sem] theorem concA_173 : concA Try.prog 173 = true := by kernel_rfl
@[go_sem] theorem ikA_173 : ikA Try.prog 173 = none := by kernel_rfl
@[go_sem] theorem bldT_173 : bldT Try.prog 173 = none := by kernel_rfl
@[go_sem] theorem zeroA_173 : zeroA Try.prog 173 = some [.raw .nilFunc] := by kernel_rfl
@[go_sem] theorem slA_173 : slA Try.prog 173 = none := by kernel_rfl
@[go_sem] theorem tyA_174 : tyA Try.prog 174 = some (false, 1) := by kernel_rfl
@[go_sem] theorem bytesA_174 : bytesA Try.prog 174 = false := by kernel_rfl
@[go_sem] theorem knownA_174 : knownA Try.prog 174 = true := by kernel_rfl
@[go_sem] theorem concA_174 : concA Try.prog 174 = true := by kernel_rfl
@[go_sem] theorem ikA_174 : ikA Try.prog 174 = none := by kernel_rfl
@[go_sem] theorem bldT_174 : bldT Try.prog 174 = none := by kernel_rfl
@[go_sem] theorem zeroA_174 : zeroA Try.prog 174 = some [.raw .nilFunc] := by kernel_rfl
@[go_sem] theorem slA_174 : slA Try.prog 174 = none := by kernel_rfl
@[go_sem] theorem tyA_175 : tyA Try.prog 175 = some (false, 1) := by kernel_rfl
@[go_sem] theorem bytesA_175 : bytesA Try.prog 175 = false := by kernel_rfl
@[go_sem] theorem knownA_175 : knownA Try.prog 175 = true := by kernel_rfl
@[go_sem] theorem concA_175 : concA Try.prog 175 = true := by kernel_rfl
@[go_sem] theorem ikA_175 : ikA Try.prog 175 = none := by kernel_rfl
@[go_sem] theorem bldT_175 : bldT Try.prog 175 = none := by kernel_rfl
@[go_sem] theorem zeroA_175 : zeroA Try.prog 175 = some [.raw (.pointer none)] := by kernel_rfl
@[go_sem] theorem slA_175 : slA Try.prog 175 = none := by kernel_rfl
@[go_sem] theorem tyA_176 : tyA Try.prog 176 = some (false, 1) := by kernel_rfl
@[go_sem] theorem bytesA_176 : bytesA Try.prog 176 = false := by kernel_rfl
@[go_sem] theorem knownA_176 : knownA Try.prog 176 = true := by kernel_rfl
@[go_sem] theorem concA_176 : concA Try.prog 176 = true := by kernel_rfl
@[go_sem] theorem ikA_176 : ikA Try.prog 176 = none := by kernel_rfl
@[go_sem] theorem bldT_176 : bldT Try.prog 176 = none := by kernel_rfl
@[go_sem] theorem zeroA_176 : zeroA Try.prog 176 = some [.raw (.map none)] := by kernel_rfl
@[go_sem] theorem slA_176 : slA Try.prog 176 = none := by kernel_rfl
@[go_sem] theorem tyA_177 : tyA Try.prog 177 = some (true, 11) := by kernel_rfl
@[go_sem] theorem bytesA_177 : bytesA Try.prog 177 = false := by kernel_rfl
@[go_sem] theorem knownA_177 : knownA Try.prog 177 = true := by kernel_rfl
@[go_sem] theorem concA_177 : concA Try.prog 177 = true := by kernel_rfl
@[go_sem] theorem ikA_177 : ikA Try.prog 177 = none := by kernel_rfl
@[go_sem] theorem bldT_177 : bldT Try.prog 177 = none := by kernel_rfl
@[go_sem] theorem zeroA_177 : zeroA Try.prog 177 = some [.sl 1 [] .nil, .sl 7 [] .nil, .sl 4 [] .nil, .sl 2 [] .nil, .sl 2 [] .nil, .int .i64 0, .int .i64 0, .sl 3 [] .nil, .sl 3 [] .nil, .sl 4 [] .nil, .raw (.map none)] := by kernel_rfl
@[go_sem] theorem slA_177 : slA Try.prog 177 = none := by kernel_rfl
@[go_sem] theorem fsOk_177 : fsOk Try.prog 177 = true := by kernel_rfl
@[go_sem] theorem fldA_177_0 : fldA Try.prog 177 0 = some 0 := by kernel_rfl
@[go_sem] theorem fpA_177_0 : fpA Try.prog 177 0 = some (0, true, 5) := by kernel_rfl
@[go_sem] theorem plA_177_0 : plA Try.prog 177 0 = some (0, 5) := by kernel_rfl
@[go_sem] theorem partTy_177_0 : partTy Try.prog 177 0 = 28 := by kernel_rfl
@[go_sem] theorem fldA_177_1 : fldA Try.prog 177 1 = some 5 := by kernel_rfl
@[go_sem] theorem fpA_177_1 : fpA Try.prog 177 1 = some (5, true, 3) := by kernel_rfl
@[go_sem] theorem plA_177_1 : plA Try.prog 177 1 = some (5, 3) := by kernel_rfl
@[go_sem] theorem partTy_177_1 : partTy Try.prog 177 1 = 77 := by kernel_rfl
@[go_sem] theorem fldA_177_2 : fldA Try.prog 177 2 = some 8 := by kernel_rfl
@[go_sem] theorem fpA_177_2 : fpA Try.prog 177 2 = some (8, false, 1) := by kernel_rfl
@[go_sem] theorem plA_177_2 : plA Try.prog 177 2 = some (8, 1) := by kernel_rfl
@[go_sem] theorem partTy_177_2 : partTy Try.prog 177 2 = 46 := by kernel_rfl
@[go_sem] theorem fldA_177_3 : fldA Try.prog 177 3 = some 9 := by kernel_rfl
@[go_sem] theorem fpA_177_3 : fpA Try.prog 177 3 = some (9, false, 1) := by kernel_rfl
@[go_sem] theorem plA_177_3 : plA Try.prog 177 3 = some (9, 1) := by kernel_rfl
@[go_sem] theorem partTy_177_3 : partTy Try.prog 177 3 = 74 := by kernel_rfl
@[go_sem] theorem fldA_177_4 : fldA Try.prog 177 4 = some 10 := by kernel_rfl
@[go_sem] theorem fpA_177_4 : fpA Try.prog 177 4 = some (10, false, 1) := by kernel_rfl
@[go_sem] theorem plA_177_4 : plA Try.prog 177 4 = some (10, 1) := by kernel_rfl
@[go_sem] theorem partTy_177_4 : partTy Try.prog 177 4 = 176 := by kernel_rfl
@[go_sem] theorem tyA_178 : tyA Try.prog 178 = some (true, 11) := by kernel_rfl
@[go_sem] theorem bytesA_178 : bytesA Try.prog 178 = false := by kernel_rfl
@[go_sem] theorem knownA_178 : knownA Try.prog 178 = true := by kernel_rfl
@[go_sem] theorem concA_178 : concA Try.prog 178 = true := by kernel_rfl
@[go_sem] theorem ikA_178 : ikA Try.prog 178 = none := by kernel_rfl
@[go_sem] theorem bldT_178 : bldT Try.prog 178 = none := by kernel_rfl
@[go_sem] theorem zeroA_178 : zeroA Try.prog 178 = some [.sl 1 [] .nil, .sl 7 [] .nil, .sl 4 [] .nil, .sl 2 [] .nil, .sl 2 [] .nil, .int .i64 0, .int .i64 0, .sl 3 [] .nil, .sl 3 [] .nil, .sl 4 [] .nil, .raw (.map none)] := by kernel_rfl
@[go_sem] theorem slA_178 : slA Try.prog 178 = none := by kernel_rfl
@[go_sem] theorem fsOk_178 : fsOk Try.prog 178 = true := by kernel_rfl
@[go_sem] theorem fldA_178_0 : fldA Try.prog 178 0 = some 0 := by kernel_rfl
@[go_sem] theorem fpA_178_0 : fpA Try.prog 178 0 = some (0, true, 5) := by kernel_rfl
@[go_sem] theorem plA_178_0 : plA Try.prog 178 0 = some (0, 5) := by kernel_rfl
@[go_sem] theorem partTy_178_0 : partTy Try.prog 178 0 = 28 := by kernel_rfl
@[go_sem] theorem fldA_178_1 : fldA Try.prog 178 1 = some 5 := by kernel_rfl
@[go_sem] theorem fpA_178_1 : fpA Try.prog 178 1 = some (5, true, 3) := by kernel_rfl
@[go_sem] theorem plA_178_1 : plA Try.prog 178 1 = some (5, 3) := by kernel_rfl
@[go_sem] theorem partTy_178_1 : partTy Try.prog 178 1 = 77 := by kernel_rfl
@[go_sem] theorem fldA_178_2 : fldA Try.prog 178 2 = some 8 := by kernel_rfl
@[go_sem] theorem fpA_178_2 : fpA Try.prog 178 2 = some (8, false, 1) := by kernel_rfl
@[go_sem] theorem plA_178_2 : plA Try.prog 178 2 = some (8, 1) := by kernel_rfl
@[go_sem] theorem partTy_178_2 : partTy Try.prog 178 2 = 46 := by kernel_rfl
@[go_sem] theorem fldA_178_3 : fldA Try.prog 178 3 = some 9 := by kernel_rfl
@[go_sem] theorem fpA_178_3 : fpA Try.prog 178 3 = some (9, false, 1) := by kernel_rfl
@[go_sem] theorem plA_178_3 : plA Try.prog 178 3 = some (9, 1) := by kernel_rfl
@[go_sem] theorem partTy_178_3 : partTy Try.prog 178 3 = 74 := by kernel_rfl
@[go_sem] theorem fldA_178_4 : fldA Try.prog 178 4 = some 10 := by kernel_rfl
@[go_sem] theorem fpA_178_4 : fpA Try.prog 178 4 = some (10, false, 1) := by kernel_rfl
@[go_sem] theorem plA_178_4 : plA Try.prog 178 4 = some (10, 1) := by kernel_rfl
@[go_sem] theorem partTy_178_4 : partTy Try.prog 178 4 = 176 := by kernel_rfl
@[go_sem] theorem tyA_179 : tyA Try.prog 179 = some (false, 1) := by kernel_rfl
@[go_sem] theorem bytesA_179 : bytesA Try.prog 179 = false := by kernel_rfl
@[go_sem] theorem knownA_179 : knownA Try.prog 179 = true := by kernel_rfl
@[go_sem] theorem concA_179 : concA Try.prog 179 = true := by kernel_rfl
@[go_sem] theorem ikA_179 : ikA Try.prog 179 = none := by kernel_rfl
@[go_sem] theorem bldT_179 : bldT Try.prog 179 = none := by kernel_rfl
@[go_sem] theorem zeroA_179 : zeroA Try.prog 179 = some [.raw .nilFunc] := by kernel_rfl
@[go_sem] theorem slA_179 : slA Try.prog 179 = none := by kernel_rfl
@[go_sem] theorem tyA_180 : tyA Try.prog 180 = some (false, 1) := by kernel_rfl
@[go_sem] theorem bytesA_180 : bytesA Try.prog 180 = false := by kernel_rfl
@[go_sem] theorem knownA_180 : knownA Try.prog 180 = true := by kernel_rfl
@[go_sem] theorem concA_180 : concA Try.prog 180 = true := by kernel_rfl
@[go_sem] theorem ikA_180 : ikA Try.prog 180 = none := by kernel_rfl
@[go_sem] theorem bldT_180 : bldT Try.prog 180 = none := by kernel_rfl
@[go_sem] theorem zeroA_180 : zeroA Try.prog 180 = some [.raw .nilFunc] := by kernel_rfl
@[go_sem] theorem slA_180 : slA Try.prog 180 = none := by kernel_rfl
@[go_sem] theorem tyA_181 : tyA Try.prog 181 = some (false, 1) := by kernel_rfl
@[go_sem] theorem bytesA_181 : bytesA Try.prog 181 = false := by kernel_rfl
@[go_sem] theorem knownA_181 : knownA Try.prog 181 = true := by kernel_rfl
@[go_sem] theorem concA_181 : concA Try.prog 181 = true := by kernel_rfl
@[go_sem] theorem ikA_181 : ikA Try.prog 181 = none := by kernel_rfl
@[go_sem] theorem bldT_181 : bldT Try.prog 181 = none := by kernel_rfl
@[go_sem] theorem zeroA_181 : zeroA Try.prog 181 = some [.raw .nilFunc] := by kernel_rfl
@[go_sem] theorem slA_181 : slA Try.prog 181 = none := by kernel_rfl
@[go_sem] theorem tyA_182 : tyA Try.prog 182 = some (false, 1) := by kernel_rfl
@[go_sem] theorem bytesA_182 : bytesA Try.prog 182 = false := by kernel_rfl
@[go_sem] theorem knownA_182 : knownA Try.prog 182 = true := by kernel_rfl
@[go_sem] theorem concA_182 : concA Try.prog 182 = true := by kernel_rfl
@[go_sem] theorem ikA_182 : ikA Try.prog 182 = none := by kernel_rfl
@[go_sem] theorem bldT_182 : bldT Try.prog 182 = none := by kernel_rfl
@[go_sem] theorem zeroA_182 : zeroA Try.prog 182 = some [.raw .nilFunc] := by kernel_rfl
@[go_sem] theorem slA_182 : slA Try.prog 182 = none := by kernel_rfl
@[go_sem] theorem tyA_183 : tyA Try.prog 183 = some (false, 1) := by kernel_rfl
@[go_sem] theorem bytesA_183 : bytesA Try.prog 183 = false := by kernel_rfl
@[go_sem] theorem knownA_183 : knownA Try.prog 183 = true := by kernel_rfl
@[go_sem] theorem concA_183 : concA Try.prog 183 = true := by kernel_rfl
@[go_sem] theorem ikA_183 : ikA Try.prog 183 = none := by kernel_rfl
@[go_sem] theorem bldT_183 : bldT Try.prog 183 = none := by kernel_rfl
@[go_sem] theorem zeroA_183 : zeroA Try.prog 183 = some [.raw .nilFunc] := by kernel_rfl
@[go_sem] theorem slA_183 : slA Try.prog 183 = none := by kernel_rfl
@[go_sem] theorem tyA_184 : tyA Try.prog 184 = some (false, 1) := by kernel_rfl
@[go_sem] theorem bytesA_184 : bytesA Try.prog 184 = false := by kernel_rfl
@[go_sem] theorem knownA_184 : knownA Try.prog 184 = true := by kernel_rfl
@[go_sem] theorem concA_184 : concA Try.prog 184 = true := by kernel_rfl
@[go_sem] theorem ikA_184 : ikA Try.prog 184 = none := by kernel_rfl
@[go_sem] theorem bldT_184 : bldT Try.prog 184 = none := by kernel_rfl
@[go_sem] theorem zeroA_184 : zeroA Try.prog 184 = some [.raw .nilFunc] := by kernel_rfl
@[go_sem] theorem slA_184 : slA Try.prog 184 = none := by kernel_rfl
@[go_sem] theorem tyA_185 : tyA Try.prog 185 = some (false, 1) := by kernel_rfl
@[go_sem] theorem bytesA_185 : bytesA Try.prog 185 = false := by kernel_rfl
@[go_sem] theorem knownA_185 : knownA Try.prog 185 = true := by kernel_rfl
@[go_sem] theorem concA_185 : concA Try.prog 185 = true := by kernel_rfl
@[go_sem] theorem ikA_185 : ikA Try.prog 185 = none := by kernel_rfl
@[go_sem] theorem bldT_185 : bldT Try.prog 185 = none := by kernel_rfl
@[go_sem] theorem zeroA_185 : zeroA Try.prog 185 = some [.raw .nilFunc] := by kernel_rfl
@[go_sem] theorem slA_185 : slA Try.prog 185 = none := by kernel_rfl
@[go_sem] theorem tyA_186 : tyA Try.prog 186 = some (true, 8) := by kernel_rfl
@[go_sem] theorem bytesA_186 : bytesA Try.prog 186 = false := by kernel_rfl
@[go_sem] theorem knownA_186 : knownA Try.prog 186 = true := by kernel_rfl
@[go_sem] theorem concA_186 : concA Try.prog 186 = true := by kernel_rfl
@[go_sem] theorem ikA_186 : ikA Try.prog 186 = none := by kernel_rfl
@[go_sem] theorem bldT_186 : bldT Try.prog 186 = none := by kernel_rfl
@[go_sem] theorem zeroA_186 : zeroA Try.prog 186 = some [.sl 1 [] .nil, .sl 7 [] .nil, .sl 4 [] .nil, .sl 2 [] .nil, .sl 2 [] .nil, .int .i64 0, .sl 3 [] .nil, .sl 1 [] .nil] := by kernel_rfl
@[go_sem] theorem slA_186 : slA Try.prog 186 = none := by kernel_rfl
@[go_sem] theorem fsOk_186 : fsOk Try.prog 186 = true := by kernel_rfl
@[go_sem] theorem fldA_186_0 : fldA Try.prog 186 0 = some 0 := by kernel_rfl
@[go_sem] theorem fpA_186_0 : fpA Try.prog 186 0 = some (0, true, 5) := by kernel_rfl
@[go_sem] theorem plA_186_0 : plA Try.prog 186 0 = some (0, 5) := by kernel_rfl
@[go_sem] theorem partTy_186_0 : partTy Try.prog 186 0 = 28 := by kernel_rfl
@[go_sem] theorem fldA_186_1 : fldA Try.prog 186 1 = some 5 := by kernel_rfl
@[go_sem] theorem fpA_186_1 : fpA Try.prog 186 1 = some (5, false, 1) := by kernel_rfl
@[go_sem] theorem plA_186_1 : plA Try.prog 186 1 = some (5, 1) := by kernel_rfl
@[go_sem] theorem partTy_186_1 : partTy Try.prog 186 1 = 3 := by kernel_rfl
@[go_sem] theorem fldA_186_2 : fldA Try.prog 186 2 = some 6 := by kernel_rfl
@[go_sem] theorem fpA_186_2 : fpA Try.prog 186 2 = some (6, false, 1) := by kernel_rfl
@[go_sem] theorem plA_186_2 : plA Try.prog 186 2 = some (6, 1) := by kernel_rfl
@[go_sem] theorem partTy_186_2 : partTy Try.prog 186 2 = 61 := by kernel_rfl
@[go_sem] theorem fldA_186_3 : fldA Try.prog 186 3 = some 7 := by kernel_rfl
@[go_sem] theorem fpA_186_3 : fpA Try.prog 186 3 = some (7, false, 1) := by kernel_rfl
@[go_sem] theorem plA_186_3 : plA Try.prog 186 3 = some (7, 1) := by kernel_rfl
@[go_sem] theorem partTy_186_3 : partTy Try.prog 186 3 = 140 := by kernel_rfl
@[go_sem] theorem tyA_187 : tyA Try.prog 187 = some (true, 8) := by kernel_rfl
@[go_sem] theorem bytesA_187 : bytesA Try.prog 187 = false := by kernel_rfl
@[go_sem] theorem knownA_187 : knownA Try.prog 187 = true := by kernel_rfl
@[go_sem] theorem concA_187 : concA Try.prog 187 = true := by kernel_rfl
@[go_sem] theorem ikA_187 : ikA Try.prog 187 = none := by kernel_rfl
@[go_sem] theorem bldT_187 : bldT Try.prog 187 = none := by kernel_rfl
@[go_sem] theorem zeroA_187 : zeroA Try.prog 187 = some [.sl 1 [] .nil, .sl 7 [] .nil, .sl 4 [] .nil, .sl 2 [] .nil, .sl 2 [] .nil, .int .i64 0, .sl 3 [] .nil, .sl 1 [] .nil] := by kernel_rfl
@[go_sem] theorem slA_187 : slA Try.prog 187 = none := by kernel_rfl
@[go_sem] theorem fsOk_187 : fsOk Try.prog 187 = true := by kernel_rfl
@[go_sem] theorem fldA_187_0 : fldA Try.prog 187 0 = some 0 := by kernel_rfl
@[go_sem] theorem fpA_187_0 : fpA Try.prog 187 0 = some (0, true, 5) := by kernel_rfl
@[go_sem] theorem plA_187_0 : plA Try.prog 187 0 = some (0, 5) := by kernel_rfl
@[go_sem] theorem partTy_187_0 : partTy Try.prog 187 0 = 28 := by kernel_rfl
@[go_sem] theorem fldA_187_1 : fldA Try.prog 187 1 = some 5 := by kernel_rfl
@[go_sem] theorem fpA_187_1 : fpA Try.prog 187 1 = some (5, false, 1) := by kernel_rfl
@[go_sem] theorem plA_187_1 : plA Try.prog 187 1 = some (5, 1) := by kernel_rfl
@[go_sem] theorem partTy_187_1 : partTy Try.prog 187 1 = 3 := by kernel_rfl
@[go_sem] theorem fldA_187_2 : fldA Try.prog 187 2 = some 6 := by kernel_rfl
@[go_sem] theorem fpA_187_2 : fpA Try.prog 187 2 = some (6, false, 1) := by kernel_rfl
@[go_sem] theorem plA_187_2 : plA Try.prog 187 2 = some (6, 1) := by kernel_rfl
@[go_sem] theorem partTy_187_2 : partTy Try.prog 187 2 = 61 := by kernel_rfl
@[go_sem] theorem fldA_187_3 : fldA Try.prog 187 3 = some 7 := by kernel_rfl
@[go_sem] theorem fpA_187_3 : fpA Try.prog 187 3 = some (7, false, 1) := by kernel_rfl
@[go_sem] theorem plA_187_3 : plA Try.prog 187 3 = some (7, 1) := by kernel_rfl
@[go_sem] theorem partTy_187_3 : partTy Try.prog 187 3 = 140 := by kernel_rfl
@[go_sem] theorem tyA_188 : tyA Try.prog 188 = some (false, 1) := by kernel_rfl
@[go_sem] theorem bytesA_188 : bytesA Try.prog 188 = false := by kernel_rfl
@[go_sem] theorem knownA_188 : knownA Try.prog 188 = true := by kernel_rfl
@[go_sem] theorem concA_188 : concA Try.prog 188 = true := by kernel_rfl
@[go_sem] theorem ikA_188 : ikA Try.prog 188 = none := by kernel_rfl
@[go_sem] theorem bldT_188 : bldT Try.prog 188 = none := by kernel_rfl
@[go_sem] theorem zeroA_188 : zeroA Try.prog 188 = some [.raw .nilFunc] := by kernel_rfl
@[go_sem] theorem slA_188 : slA Try.prog 188 = none := by kernel_rfl
@[go_sem] theorem tyA_189 : tyA Try.prog 189 = some (false, 1) := by kernel_rfl
@[go_sem] theorem bytesA_189 : bytesA Try.prog 189 = false := by kernel_rfl
@[go_sem] theorem knownA_189 : knownA Try.prog 189 = true := by kernel_rfl
@[go_sem] theorem concA_189 : concA Try.prog 189 = true := by kernel_rfl
@[go_sem] theorem ikA_189 : ikA Try.prog 189 = none := by kernel_rfl
@[go_sem] theorem bldT_189 : bldT Try.prog 189 = none := by kernel_rfl
@[go_sem] theorem zeroA_189 : zeroA Try.prog 189 = some [.raw .nilFunc] := by kernel_rfl
@[go_sem] theorem slA_189 : slA Try.prog 189 = none := by kernel_rfl
@[go_sem] theorem tyA_190 : tyA Try.prog 190 = some (false, 1) := by kernel_rfl
@[go_sem] theorem bytesA_190 : bytesA Try.prog 190 = true := by kernel_rfl
@[go_sem] theorem knownA_190 : knownA Try.prog 190 = true := by kernel_rfl
@[go_sem] theorem concA_190 : concA Try.prog 190 = true := by kernel_rfl
@[go_sem] theorem ikA_190 : ikA Try.prog 190 = none := by kernel_rfl
@[go_sem] theorem slB_190 : slB Try.prog 190 = true := by kernel_rfl
@[go_sem] theorem bldT_190 : bldT Try.prog 190 = none := by kernel_rfl
@[go_sem] theorem zeroA_190 : zeroA Try.prog 190 = some [.sl 1 [] .nil] := by kernel_rfl
@[go_sem] theorem slA_190 : slA Try.prog 190 = some 1 := by kernel_rfl
@[go_sem] theorem mkA_190 : mkA Try.prog 190 = some ([.int .u8 0], 1) := by kernel_rfl
@[go_sem] theorem apA_190 : apA Try.prog 190 = some (1, 1) := by kernel_rfl
@[go_sem] theorem partTy_190 (i : Nat) : partTy Try.prog 190 i = 5 := rfl_of_partTy (by kernel_rfl)
@[go_sem] theorem tyA_191 : tyA Try.prog 191 = some (false, 1) := by kernel_rfl
@[go_sem] theorem bytesA_191 : bytesA Try.prog 191 = false := by kernel_rfl
@[go_sem] theorem knownA_191 : knownA Try.prog 191 = true := by kernel_rfl
@[go_sem] theorem concA_191 : concA Try.prog 191 = true := by kernel_rfl
@[go_sem] theorem ikA_191 : ikA Try.prog 191 = none := by kernel_rfl
@[go_sem] theorem bldT_191 : bldT Try.prog 191 = none := by kernel_rfl
@[go_sem] theorem zeroA_191 : zeroA Try.prog 191 = some [.raw .nilFunc] := by kernel_rfl
@[go_sem] theorem slA_191 : slA Try.prog 191 = none := by kernel_rfl
@[go_sem] theorem tyA_192 : tyA Try.prog 192 = some (false, 1) := by kernel_rfl
@[go_sem] theorem bytesA_192 : bytesA Try.prog 192 = false := by kernel_rfl
@[go_sem] theorem knownA_192 : knownA Try.prog 192 = true := by kernel_rfl
@[go_sem] theorem concA_192 : concA Try.prog 192 = true := by kernel_rfl
@[go_sem] theorem ikA_192 : ikA Try.prog 192 = none := by kernel_rfl
@[go_sem] theorem bldT_192 : bldT Try.prog 192 = none := by kernel_rfl
@[go_sem] theorem zeroA_192 : zeroA Try.prog 192 = some [.raw (.map none)] := by kernel_rfl
@[go_sem] theorem slA_192 : slA Try.prog 192 = none := by kernel_rfl
@[go_sem] theorem tyA_193 : tyA Try.prog 193 = some (false, 1) := by kernel_rfl
@[go_sem] theorem bytesA_193 : bytesA Try.prog 193 = false := by kernel_rfl
@[go_sem] theorem knownA_193 : knownA Try.prog 193 = true := by kernel_rfl
@[go_sem] theorem concA_193 : concA Try.prog 193 = true := by kernel_rfl
@[go_sem] theorem ikA_193 : ikA Try.prog 193 = none := by kernel_rfl
@[go_sem] theorem bldT_193 : bldT Try.prog 193 = none := by kernel_rfl
@[go_sem] theorem zeroA_193 : zeroA Try.prog 193 = some [.raw .nilFunc] := by kernel_rfl
@[go_sem] theorem slA_193 : slA Try.prog 193 = none := by kernel_rfl
@[go_sem] theorem tyA_194 : tyA Try.prog 194 = some (false, 1) := by kernel_rfl
@[go_sem] theorem bytesA_194 : bytesA Try.prog 194 = false := by kernel_rfl
@[go_sem] theorem knownA_194 : knownA Try.prog 194 = true := by kernel_rfl
@[go_sem] theorem concA_194 : concA Try.prog 194 = true := by kernel_rfl
@[go_sem] theorem ikA_194 : ikA Try.prog 194 = none := by kernel_rfl
@[go_sem] theorem bldT_194 : bldT Try.prog 194 = none := by kernel_rfl
@[go_sem] theorem zeroA_194 : zeroA Try.prog 194 = some [.raw .nilFunc] := by kernel_rfl
@[go_sem] theorem slA_194 : slA Try.prog 194 = none := by kernel_rfl
@[go_sem] theorem tyA_195 : tyA Try.prog 195 = some (false, 1) := by kernel_rfl
@[go_sem] theorem bytesA_195 : bytesA Try.prog 195 = false := by kernel_rfl
@[go_sem] theorem knownA_195 : knownA Try.prog 195 = true := by kernel_rfl
@[go_sem] theorem concA_195 : concA Try.prog 195 = true := by kernel_rfl
@[go_sem] theorem ikA_195 : ikA Try.prog 195 = none := by kernel_rfl
@[go_sem] theorem bldT_195 : bldT Try.prog 195 = none := by kernel_rfl
@[go_sem] theorem zeroA_195 : zeroA Try.prog 195 = some [.raw .nilFunc] := by kernel_rfl
@[go_sem] theorem slA_195 : slA Try.prog 195 = none := by kernel_rfl
@[go_sem] theorem tyA_196 : tyA Try.prog 196 = some (false, 1) := by kernel_rfl
@[go_sem] theorem bytesA_196 : bytesA Try.prog 196 = false := by kernel_rfl
@[go_sem] theorem knownA_196 : knownA Try.prog 196 = true := by kernel_rfl
@[go_sem] theorem concA_196 : concA Try.prog 196 = true := by kernel_rfl
@[go_sem] theorem ikA_196 : ikA Try.prog 196 = some .u32 := by kernel_rfl
@[go_sem] theorem bldT_196 : bldT Try.prog 196 = none := by kernel_rfl
@[go_sem] theorem zeroA_196 : zeroA Try.prog 196 = some [.int .u32 0] := by kernel_rfl
@[go_sem] theorem slA_196 : slA Try.prog 196 = none := by kernel_rfl
@[go_sem] theorem tyA_198 : tyA Try.prog 198 = some (false, 1) := by kernel_rfl
@[go_sem] theorem bytesA_198 : bytesA Try.prog 198 = false := by kernel_rfl
@[go_sem] theorem knownA_198 : knownA Try.prog 198 = true := by kernel_rfl
@[go_sem] theorem concA_198 : concA Try.prog 198 = true := by kernel_rfl
@[go_sem] theorem ikA_198 : ikA Try.prog 198 = none := by kernel_rfl
@[go_sem] theorem bldT_198 : bldT Try.prog 198 = none := by kernel_rfl
@[go_sem] theorem zeroA_198 : zeroA Try.prog 198 = some [.raw .nilFunc] := by kernel_rfl
@[go_sem] theorem slA_198 : slA Try.prog 198 = none := by kernel_rfl
@[go_sem] theorem tyA_199 : tyA Try.prog 199 = some (false, 1) := by kernel_rfl
@[go_sem] theorem bytesA_199 : bytesA Try.prog 199 = false := by kernel_rfl
@[go_sem] theorem knownA_199 : knownA Try.prog 199 = true := by kernel_rfl
@[go_sem] theorem concA_199 : concA Try.prog 199 = true := by kernel_rfl
@[go_sem] theorem ikA_199 : ikA Try.prog 199 = some .u64 := by kernel_rfl
@[go_sem] theorem bldT_199 : bldT Try.prog 199 = none := by kernel_rfl
@[go_sem] theorem zeroA_199 : zeroA Try.prog 199 = some [.int .u64 0] := by kernel_rfl
@[go_sem] theorem slA_199 : slA Try.prog 199 = none := by kernel_rfl
@[go_sem] theorem tyA_201 : tyA Try.prog 201 = some (false, 1) := by kernel_rfl
@[go_sem] theorem bytesA_201 : bytesA Try.prog 201 = false := by kernel_rfl
@[go_sem] theorem knownA_201 : knownA Try.prog 201 = true := by kernel_rfl
@[go_sem] theorem concA_201 : concA Try.prog 201 = true := by kernel_rfl
@[go_sem] theorem ikA_201 : ikA Try.prog 201 = none := by kernel_rfl
@[go_sem] theorem bldT_201 : bldT Try.prog 201 = none := by kernel_rfl
@[go_sem] theorem zeroA_201 : zeroA Try.prog 201 = some [.raw .nilFunc] := by kernel_rfl
@[go_sem] theorem slA_201 : slA Try.prog 201 = none := by kernel_rfl
@[go_sem] theorem tyA_202 : tyA Try.prog 202 = some (false, 1) := by kernel_rfl
@[go_sem] theorem bytesA_202 : bytesA Try.prog 202 = false := by kernel_rfl
@[go_sem] theorem knownA_202 : knownA Try.prog 202 = true := by kernel_rfl
@[go_sem] theorem concA_202 : concA Try.prog 202 = true := by kernel_rfl
@[go_sem] theorem ikA_202 : ikA Try.prog 202 = none := by kernel_rfl
@[go_sem] theorem bldT_202 : bldT Try.prog 202 = none := by kernel_rfl
@[go_sem] theorem zeroA_202 : zeroA Try.prog 202 = some [.raw .nilFunc] := by kernel_rfl
@[go_sem] theorem slA_202 : slA Try.prog 202 = none := by kernel_rfl
@[go_sem] theorem tyA_203 : tyA Try.prog 203 = some (false, 1) := by kernel_rfl
@[go_sem] theorem bytesA_203 : bytesA Try.prog 203 = false := by kernel_rfl
@[go_sem] theorem knownA_203 : knownA Try.prog 203 = true := by kernel_rfl
@[go_sem] theorem concA_203 : concA Try.prog 203 = true := by kernel_rfl
@[go_sem] theorem ikA_203 : ikA Try.prog 203 = none := by kernel_rfl
@[go_sem] theorem bldT_203 : bldT Try.prog 203 = none := by kernel_rfl
@[go_sem] theorem zeroA_203 : zeroA Try.prog 203 = some [.raw .nilFunc] := by kernel_rfl
@[go_sem] theorem slA_203 : slA Try.prog 203 = none := by kernel_rfl
@[go_sem] theorem tyA_204 : tyA Try.prog 204 = some (false, 1) := by kernel_rfl
@[go_sem] theorem bytesA_204 : bytesA Try.prog 204 = false := by kernel_rfl
@[go_sem] theorem knownA_204 : knownA Try.prog 204 = true := by kernel_rfl
@[go_sem] theorem concA_204 : concA Try.prog 204 = true := by kernel_rfl
@[go_sem] theorem ikA_204 : ikA Try.prog 204 = none := by kernel_rfl
@[go_sem] theorem bldT_204 : bldT Try.prog 204 = none := by kernel_rfl
@[go_sem] theorem zeroA_204 : zeroA Try.prog 204 = some [.raw .nilFunc] := by kernel_rfl
@[go_sem] theorem slA_204 : slA Try.prog 204 = none := by kernel_rfl
@[go_sem] theorem tyA_205 : tyA Try.prog 205 = some (false, 1) := by kernel_rfl
@[go_sem] theorem bytesA_205 : bytesA Try.prog 205 = false := by kernel_rfl
@[go_sem] theorem knownA_205 : knownA Try.prog 205 = true := by kernel_rfl
@[go_sem] theorem concA_205 : concA Try.prog 205 = true := by kernel_rfl
@[go_sem] theorem ikA_205 : ikA Try.prog 205 = none := by kernel_rfl
@[go_sem] theorem bldT_205 : bldT Try.prog 205 = none := by kernel_rfl
@[go_sem] theorem zeroA_205 : zeroA Try.prog 205 = some [.raw .nilFunc] := by kernel_rfl
@[go_sem] theorem slA_205 : slA Try.prog 205 = none := by kernel_rfl
@[go_sem] theorem tyA_206 : tyA Try.prog 206 = some (false, 1) := by kernel_rfl
@[go_sem] theorem bytesA_206 : bytesA Try.prog 206 = false := by kernel_rfl
@[go_sem] theorem knownA_206 : knownA Try.prog 206 = true := by kernel_rfl
@[go_sem] theorem concA_206 : concA Try.prog 206 = true := by kernel_rfl
@[go_sem] theorem ikA_206 : ikA Try.prog 206 = none := by kernel_rfl
@[go_sem] theorem bldT_206 : bldT Try.prog 206 = none := by kernel_rfl
@[go_sem] theorem zeroA_206 : zeroA Try.prog 206 = some [.raw .nilFunc] := by kernel_rfl
@[go_sem] theorem slA_206 : slA Try.prog 206 = none := by kernel_rfl
@[go_sem] theorem tyA_207 : tyA Try.prog 207 = some (false, 1) := by kernel_rfl
@[go_sem] theorem bytesA_207 : bytesA Try.prog 207 = false := by kernel_rfl
@[go_sem] theorem knownA_207 : knownA Try.prog 207 = true := by kernel_rfl
@[go_sem] theorem concA_207 : concA Try.prog 207 = true := by kernel_rfl
@[go_sem] theorem ikA_207 : ikA Try.prog 207 = none := by kernel_rfl
@[go_sem] theorem bldT_207 : bldT Try.prog 207 = none := by kernel_rfl
@[go_sem] theorem zeroA_207 : zeroA Try.prog 207 = some [.raw .nilFunc] := by kernel_rfl
@[go_sem] theorem slA_207 : slA Try.prog 207 = none := by kernel_rfl
@[go_sem] theorem tyA_208 : tyA Try.prog 208 = some (false, 1) := by kernel_rfl
@[go_sem] theorem bytesA_208 : bytesA Try.prog 208 = false := by kernel_rfl
@[go_sem] theorem knownA_208 : knownA Try.prog 208 = true := by kernel_rfl
@[go_sem] theorem concA_208 : concA Try.prog 208 = true := by kernel_rfl
@[go_sem] theorem ikA_208 : ikA Try.prog 208 = none := by kernel_rfl
@[go_sem] theorem bldT_208 : bldT Try.prog 208 = none := by kernel_rfl
@[go_sem] theorem zeroA_208 : zeroA Try.prog 208 = some [.raw .nilFunc] := by kernel_rfl
@[go_sem] theorem slA_208 : slA Try.prog 208 = none := by kernel_rfl
@[go_sem] theorem tyA_214 : tyA Try.prog 214 = some (false, 1) := by kernel_rfl
@[go_sem] theorem bytesA_214 : bytesA Try.prog 214 = false := by kernel_rfl
@[go_sem] theorem knownA_214 : knownA Try.prog 214 = true := by kernel_rfl
@[go_sem] theorem concA_214 : concA Try.prog 214 = true := by kernel_rfl
@[go_sem] theorem ikA_214 : ikA Try.prog 214 = none := by kernel_rfl
@[go_sem] theorem bldT_214 : bldT Try.prog 214 = none := by kernel_rfl
@[go_sem] theorem zeroA_214 : zeroA Try.prog 214 = some [.raw .nilFunc] := by kernel_rfl
@[go_sem] theorem slA_214 : slA Try.prog 214 = none := by kernel_rfl
@[go_sem] theorem tyA_217 : tyA Try.prog 217 = some (false, 1) := by kernel_rfl
@[go_sem] theorem bytesA_217 : bytesA Try.prog 217 = false := by kernel_rfl
@[go_sem] theorem knownA_217 : knownA Try.prog 217 = true := by kernel_rfl
@[go_sem] theorem concA_217 : concA Try.prog 217 = true := by kernel_rfl
@[go_sem] theorem ikA_217 : ikA Try.prog 217 = none := by kernel_rfl
@[go_sem] theorem bldT_217 : bldT Try.prog 217 = none := by kernel_rfl
@[go_sem] theorem zeroA_217 : zeroA Try.prog 217 = some [.raw .nilFunc] := by kernel_rfl
@[go_sem] theorem slA_217 : slA Try.prog 217 = none := by kernel_rfl
@[go_sem] theorem tyA_218 : tyA Try.prog 218 = some (false, 1) := by kernel_rfl
@[go_sem] theorem bytesA_218 : bytesA Try.prog 218 = false := by kernel_rfl
@[go_sem] theorem knownA_218 : knownA Try.prog 218 = true := by kernel_rfl
@[go_sem] theorem concA_218 : concA Try.prog 218 = true := by kernel_rfl
@[go_sem] theorem ikA_218 : ikA Try.prog 218 = none := by kernel_rfl
@[go_sem] theorem bldT_218 : bldT Try.prog 218 = none := by kernel_rfl
@[go_sem] theorem zeroA_218 : zeroA Try.prog 218 = some [.raw (.pointer none)] := by kernel_rfl
@[go_sem] theorem slA_218 : slA Try.prog 218 = none := by kernel_rfl
@[go_sem] theorem tyA_223 : tyA Try.prog 223 = some (false, 1) := by kernel_rfl
@[go_sem] theorem bytesA_223 : bytesA Try.prog 223 = false := by kernel_rfl
@[go_sem] theorem knownA_223 : knownA Try.prog 223 = true := by kernel_rfl
@[go_sem] theorem concA_223 : concA Try.prog 223 = true := by kernel_rfl
@[go_sem] theorem ikA_223 : ikA Try.prog 223 = none := by kernel_rfl
@[go_sem] theorem bldT_223 : bldT Try.prog 223 = none := by kernel_rfl
@[go_sem] theorem zeroA_223 : zeroA Try.prog 223 = some [.raw (.pointer none)] := by kernel_rfl
@[go_sem] theorem slA_223 : slA Try.prog 223 = none := by kernel_rfl
@[go_sem] theorem mapA_127 : mapA Try.prog 127 = some (3, .bool false) := by kernel_rfl
@[go_sem] theorem mapA_134 : mapA Try.prog 134 = some (108, .int .i64 0) := by kernel_rfl
@[go_sem] theorem mapA_176 : mapA Try.prog 176 = some (85, .bool false) := by kernel_rfl
@[go_sem] theorem mapA_192 : mapA Try.prog 192 = some (108, .bool false) := by kernel_rfl
@[go_sem] theorem ckOf_3 : ckOf Try.prog 3 = some (.int .i64) := by kernel_rfl
@[go_sem] theorem stA_85 : stA Try.prog 85 = some [.int .i64, .int .i64, .int .i64, .int .i64] := by kernel_rfl
@[go_sem] theorem stA_108 : stA Try.prog 108 = some [.int .i64, .int .i64] := by kernel_rfl
@[go_sem] theorem bodyOk_3 : bodyOk Try.prog 3 = true := by kernel_rfl
@[go_sem] theorem bodyOk_4 : bodyOk Try.prog 4 = true := by kernel_rfl
@[go_sem] theorem bodyOk_5 : bodyOk Try.prog 5 = true := by kernel_rfl
@[go_sem] theorem bodyOk_6 : bodyOk Try.prog 6 = true := by kernel_rfl
@[go_sem] theorem bodyOk_7 : bodyOk Try.prog 7 = true := by kernel_rfl
@[go_sem] theorem bodyOk_8 : bodyOk Try.prog 8 = true := by kernel_rfl
@[go_sem] theorem bodyOk_9 : bodyOk Try.prog 9 = true := by kernel_rfl
@[go_sem] theorem bodyOk_10 : bodyOk Try.prog 10 = true := by kernel_rfl
@[go_sem] theorem bodyOk_11 : bodyOk Try.prog 11 = true := by kernel_rfl
@[go_sem] theorem bodyOk_12 : bodyOk Try.prog 12 = true := by kernel_rfl
@[go_sem] theorem bodyOk_13 : bodyOk Try.prog 13 = true := by kernel_rfl
@[go_sem] theorem bodyOk_14 : bodyOk Try.prog 14 = true := by kernel_rfl
@[go_sem] theorem bodyOk_15 : bodyOk Try.prog 15 = true := by kernel_rfl
@[go_sem] theorem bodyOk_16 : bodyOk Try.prog 16 = true := by kernel_rfl
@[go_sem] theorem bodyOk_17 : bodyOk Try.prog 17 = true := by kernel_rfl
@[go_sem] theorem bodyOk_18 : bodyOk Try.prog 18 = true := by kernel_rfl
@[go_sem] theorem bodyOk_19 : bodyOk Try.prog 19 = true := by kernel_rfl
@[go_sem] theorem bodyOk_20 : bodyOk Try.prog 20 = true := by kernel_rfl
@[go_sem] theorem bodyOk_21 : bodyOk Try.prog 21 = true := by kernel_rfl
@[go_sem] theorem bodyOk_22 : bodyOk Try.prog 22 = true := by kernel_rfl
@[go_sem] theorem bodyOk_23 : bodyOk Try.prog 23 = true := by kernel_rfl
@[go_sem] theorem bodyOk_24 : bodyOk Try.prog 24 = true := by kernel_rfl
@[go_sem] theorem bodyOk_25 : bodyOk Try.prog 25 = true := by kernel_rfl
@[go_sem] theorem bodyOk_26 : bodyOk Try.prog 26 = true := by kernel_rfl
@[go_sem] theorem bodyOk_27 : bodyOk Try.prog 27 = true := by kernel_rfl
@[go_sem] theorem bodyOk_28 : bodyOk Try.prog 28 = true := by kernel_rfl
@[go_sem] theorem bodyOk_29 : bodyOk Try.prog 29 = true := by kernel_rfl
@[go_sem] theorem bodyOk_30 : bodyOk Try.prog 30 = true := by kernel_rfl
@[go_sem] theorem bodyOk_31 : bodyOk Try.prog 31 = true := by kernel_rfl
@[go_sem] theorem bodyOk_32 : bodyOk Try.prog 32 = true := by kernel_rfl
@[go_sem] theorem bodyOk_33 : bodyOk Try.prog 33 = true := by kernel_rfl
@[go_sem] theorem bodyOk_34 : bodyOk Try.prog 34 = true := by kernel_rfl
@[go_sem] theorem bodyOk_35 : bodyOk Try.prog 35 = true := by kernel_rfl
@[go_sem] theorem bodyOk_36 : bodyOk Try.prog 36 = true := by kernel_rfl
@[go_sem] theorem bodyOk_37 : bodyOk Try.prog 37 = true := by kernel_rfl
@[go_sem] theorem bodyOk_38 : bodyOk Try.prog 38 = true := by kernel_rfl
@[go_sem] theorem bodyOk_39 : bodyOk Try.prog 39 = true := by kernel_rfl
@[go_sem] theorem bodyOk_40 : bodyOk Try.prog 40 = true := by kernel_rfl
@[go_sem] theorem bodyOk_41 : bodyOk Try.prog 41 = true := by kernel_rfl
@[go_sem] theorem bodyOk_42 : bodyOk Try.prog 42 = true := by kernel_rfl
@[go_sem] theorem bodyOk_43 : bodyOk Try.prog 43 = true := by kernel_rfl
@[go_sem] theorem bodyOk_44 : bodyOk Try.prog 44 = true := by kernel_rfl
@[go_sem] theorem bodyOk_45 : bodyOk Try.prog 45 = true := by kernel_rfl
@[go_sem] theorem bodyOk_46 : bodyOk Try.prog 46 = true := by kernel_rfl
@[go_sem] theorem bodyOk_47 : bodyOk Try.prog 47 = true := by kernel_rfl
@[go_sem] theorem bodyOk_48 : bodyOk Try.prog 48 = true := by kernel_rfl
@[go_sem] theorem bodyOk_49 : bodyOk Try.prog 49 = true := by kernel_rfl
@[go_sem] theorem bodyOk_50 : bodyOk Try.prog 50 = true := by kernel_rfl
@[go_sem] theorem bodyOk_51 : bodyOk Try.prog 51 = true := by kernel_rfl
@[go_sem] theorem bodyOk_52 : bodyOk Try.prog 52 = true := by kernel_rfl
@[go_sem] theorem bodyOk_53 : bodyOk Try.prog 53 = true := by kernel_rfl
@[go_sem] theorem bodyOk_54 : bodyOk Try.prog 54 = true := by kernel_rfl
@[go_sem] theorem bodyOk_55 : bodyOk Try.prog 55 = true := by kernel_rfl
@[go_sem] theorem bodyOk_56 : bodyOk Try.prog 56 = true := by kernel_rfl
@[go_sem] theorem bodyOk_57 : bodyOk Try.prog 57 = true := by kernel_rfl
@[go_sem] theorem bodyOk_58 : bodyOk Try.prog 58 = true := by kernel_rfl
@[go_sem] theorem bodyOk_59 : bodyOk Try.prog 59 = true := by kernel_rfl
@[go_sem] theorem bodyOk_60 : bodyOk Try.prog 60 = true := by kernel_rfl
@[go_sem] theorem bodyOk_61 : bodyOk Try.prog 61 = true := by kernel_rfl
@[go_sem] theorem bodyOk_62 : bodyOk Try.prog 62 = true := by kernel_rfl
@[go_sem] theorem bodyOk_63 : bodyOk Try.prog 63 = true := by kernel_rfl
@[go_sem] theorem bodyOk_64 : bodyOk Try.prog 64 = true := by kernel_rfl
@[go_sem] theorem bodyOk_65 : bodyOk Try.prog 65 = true := by kernel_rfl
@[go_sem] theorem bodyOk_66 : bodyOk Try.prog 66 = true := by kernel_rfl
@[go_sem] theorem bodyOk_67 : bodyOk Try.prog 67 = true := by kernel_rfl
@[go_sem] theorem bodyOk_68 : bodyOk Try.prog 68 = true := by kernel_rfl
@[go_sem] theorem bodyOk_69 : bodyOk Try.prog 69 = true := by kernel_rfl
@[go_sem] theorem bodyOk_70 : bodyOk Try.prog 70 = true := by kernel_rfl
@[go_sem] theorem bodyOk_71 : bodyOk Try.prog 71 = true := by kernel_rfl
@[go_sem] theorem bodyOk_72 : bodyOk Try.prog 72 = true := by kernel_rfl
@[go_sem] theorem bodyOk_73 : bodyOk Try.prog 73 = true := by kernel_rfl
@[go_sem] theorem bodyOk_74 : bodyOk Try.prog 74 = true := by kernel_rfl
@[go_sem] theorem bodyOk_75 : bodyOk Try.prog 75 = true := by kernel_rfl
@[go_sem] theorem bodyOk_76 : bodyOk Try.prog 76 = true := by kernel_rfl
@[go_sem] theorem bodyOk_77 : bodyOk Try.prog 77 = true := by kernel_rfl
@[go_sem] theorem bodyOk_78 : bodyOk Try.prog 78 = true := by kernel_rfl
@[go_sem] theorem bodyOk_79 : bodyOk Try.prog 79 = true := by kernel_rfl
@[go_sem] theorem bodyOk_80 : bodyOk Try.prog 80 = true := by kernel_rfl
@[go_sem] theorem bodyOk_81 : bodyOk Try.prog 81 = true := by kernel_rfl
@[go_sem] theorem bodyOk_82 : bodyOk Try.prog 82 = true := by kernel_rfl
@[go_sem] theorem bodyOk_83 : bodyOk Try.prog 83 = true := by kernel_rfl
@[go_sem] theorem bodyOk_84 : bodyOk Try.prog 84 = true := by kernel_rfl
@[go_sem] theorem bodyOk_85 : bodyOk Try.prog 85 = true := by kernel_rfl
@[go_sem] theorem bodyOk_86 : bodyOk Try.prog 86 = true := by kernel_rfl
@[go_sem] theorem bodyOk_87 : bodyOk Try.prog 87 = true := by kernel_rfl
@[go_sem] theorem bodyOk_88 : bodyOk Try.prog 88 = true := by kernel_rfl
@[go_sem] theorem bodyOk_89 : bodyOk Try.prog 89 = true := by kernel_rfl
@[go_sem] theorem bodyOk_90 : bodyOk Try.prog 90 = true := by kernel_rfl
@[go_sem] theorem bodyOk_91 : bodyOk Try.prog 91 = true := by kernel_rfl
@[go_sem] theorem bodyOk_92 : bodyOk Try.prog 92 = true := by kernel_rfl
@[go_sem] theorem bodyOk_93 : bodyOk Try.prog 93 = true := by kernel_rfl
@[go_sem] theorem bodyOk_94 : bodyOk Try.prog 94 = true := by kernel_rfl
@[go_sem] theorem bodyOk_95 : bodyOk Try.prog 95 = true := by kernel_rfl
@[go_sem] theorem bodyOk_96 : bodyOk Try.prog 96 = true := by kernel_rfl
@[go_sem] theorem bodyOk_97 : bodyOk Try.prog 97 = true := by kernel_rfl
@[go_sem] theorem bodyOk_98 : bodyOk Try.prog 98 = true := by kernel_rfl
@[go_sem] theorem bodyOk_99 : bodyOk Try.prog 99 = true := by kernel_rfl
@[go_sem] theorem bodyOk_100 : bodyOk Try.prog 100 = true := by kernel_rfl
@[go_sem] theorem bodyOk_101 : bodyOk Try.prog 101 = true := by kernel_rfl
@[go_sem] theorem bodyOk_102 : bodyOk Try.prog 102 = true := by kernel_rfl
@[go_sem] theorem bodyOk_103 : bodyOk Try.prog 103 = true := by kernel_rfl
@[go_sem] theorem bodyOk_104 : bodyOk Try.prog 104 = true := by kernel_rfl
@[go_sem] theorem bodyOk_105 : bodyOk Try.prog 105 = true := by kernel_rfl
@[go_sem] theorem bodyOk_106 : bodyOk Try.prog 106 = true := by kernel_rfl
@[go_sem] theorem bodyOk_107 : bodyOk Try.prog 107 = true := by kernel_rfl
@[go_sem] theorem bodyOk_108 : bodyOk Try.prog 108 = true := by kernel_rfl
@[go_sem] theorem bodyOk_109 : bodyOk Try.prog 109 = true := by kernel_rfl
@[go_sem] theorem bodyOk_110 : bodyOk Try.prog 110 = true := by kernel_rfl
@[go_sem] theorem bodyOk_111 : bodyOk Try.prog 111 = true := by kernel_rfl
@[go_sem] theorem bodyOk_112 : bodyOk Try.prog 112 = true := by kernel_rfl
@[go_sem] theorem bodyOk_113 : bodyOk Try.prog 113 = true := by kernel_rfl
@[go_sem] theorem bodyOk_114 : bodyOk Try.prog 114 = true := by kernel_rfl
@[go_sem] theorem bodyOk_115 : bodyOk Try.prog 115 = true := by kernel_rfl
@[go_sem] theorem bodyOk_116 : bodyOk Try.prog 116 = true := by kernel_rfl
@[go_sem] theorem bodyOk_117 : bodyOk Try.prog 117 = true := by kernel_rfl
@[go_sem] theorem bodyOk_118 : bodyOk Try.prog 118 = true := by kernel_rfl
@[go_sem] theorem bodyOk_119 : bodyOk Try.prog 119 = true := by kernel_rfl
@[go_sem] theorem bodyOk_120 : bodyOk Try.prog 120 = true := by kernel_rfl
@[go_sem] theorem bodyOk_121 : bodyOk Try.prog 121 = true := by kernel_rfl
@[go_sem] theorem bodyOk_122 : bodyOk Try.prog 122 = true := by kernel_rfl
@[go_sem] theorem bodyOk_123 : bodyOk Try.prog 123 = true := by kernel_rfl
@[go_sem] theorem bodyOk_124 : bodyOk Try.prog 124 = true := by kernel_rfl
@[go_sem] theorem bodyOk_125 : bodyOk Try.prog 125 = true := by kernel_rfl
@[go_sem] theorem bodyOk_126 : bodyOk Try.prog 126 = true := by kernel_rfl
@[go_sem] theorem bodyOk_127 : bodyOk Try.prog 127 = true := by kernel_rfl
@[go_sem] theorem bodyOk_128 : bodyOk Try.prog 128 = true := by kernel_rfl
@[go_sem] theorem bodyOk_129 : bodyOk Try.prog 129 = true := by kernel_rfl
@[go_sem] theorem bodyOk_130 : bodyOk Try.prog 130 = true := by kernel_rfl
@[go_sem] theorem bodyOk_131 : bodyOk Try.prog 131 = true := by kernel_rfl
@[go_sem] theorem bodyOk_132 : bodyOk Try.prog 132 = true := by kernel_rfl
@[go_sem] theorem bodyOk_133 : bodyOk Try.prog 133 = true := by kernel_rfl
@[go_sem] theorem bodyOk_134 : bodyOk Try.prog 134 = true := by kernel_rfl
@[go_sem] theorem bodyOk_135 : bodyOk Try.prog 135 = true := by kernel_rfl
@[go_sem] theorem bodyOk_136 : bodyOk Try.prog 136 = true := by kernel_rfl
@[go_sem] theorem bodyOk_137 : bodyOk Try.prog 137 = true := by kernel_rfl
@[go_sem] theorem bodyOk_138 : bodyOk Try.prog 138 = true := by kernel_rfl
@[go_sem] theorem bodyOk_139 : bodyOk Try.prog 139 = true := by kernel_rfl
@[go_sem] theorem bodyOk_140 : bodyOk Try.prog 140 = true := by kernel_rfl
@[go_sem] theorem bodyOk_141 : bodyOk Try.prog 141 = true := by kernel_rfl
@[go_sem] theorem bodyOk_142 : bodyOk Try.prog 142 = true := by kernel_rfl
@[go_sem] theorem bodyOk_143 : bodyOk Try.prog 143 = true := by kernel_rfl
@[go_sem] theorem bodyOk_144 : bodyOk Try.prog 144 = true := by kernel_rfl
@[go_sem] theorem bodyOk_145 : bodyOk Try.prog 145 = true := by kernel_rfl
@[go_sem] theorem bodyOk_146 : bodyOk Try.prog 146 = true := by kernel_rfl
end Go.Proofs.Yteadhjclchjfjaa
