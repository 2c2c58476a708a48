/- Facts on the types of the program, by the kernel. Printed by a program of this session. -/
import Derived.Test.YtaieadcnhlapdaaDoorProg
import Derived.Test.YtaieadcnhlapdaaDoorB26
import Derived.KernelRfl
namespace Go.Proofs.YtaieadcnhlapdaaDoor
open Go.AB
set_option maxRecDepth 100000
@[go_sem] theorem tyA_1 : tyA Tryd.prog 1 = some (false, 1) := by kernel_rfl
@[go_sem] theorem bytesA_1 : bytesA Tryd.prog 1 = false := by kernel_rfl
@[go_sem] theorem knownA_1 : knownA Tryd.prog 1 = true := by kernel_rfl
@[go_sem] theorem concA_1 : concA Tryd.prog 1 = true := by kernel_rfl
@[go_sem] theorem ikA_1 : ikA Tryd.prog 1 = none := by kernel_rfl
@[go_sem] theorem bldT_1 : bldT Tryd.prog 1 = none := by kernel_rfl
@[go_sem] theorem zeroA_1 : zeroA Tryd.prog 1 = some [.raw .nilFunc] := by kernel_rfl
@[go_sem] theorem slA_1 : slA Tryd.prog 1 = none := by kernel_rfl
@[go_sem] theorem tyA_2 : tyA Tryd.prog 2 = some (false, 1) := by kernel_rfl
@[go_sem] theorem bytesA_2 : bytesA Tryd.prog 2 = false := by kernel_rfl
@[go_sem] theorem knownA_2 : knownA Tryd.prog 2 = true := by kernel_rfl
@[go_sem] theorem concA_2 : concA Tryd.prog 2 = true := by kernel_rfl
@[go_sem] theorem ikA_2 : ikA Tryd.prog 2 = some .i64 := by kernel_rfl
@[go_sem] theorem bldT_2 : bldT Tryd.prog 2 = none := by kernel_rfl
@[go_sem] theorem zeroA_2 : zeroA Tryd.prog 2 = some [.int .i64 0] := by kernel_rfl
@[go_sem] theorem slA_2 : slA Tryd.prog 2 = none := by kernel_rfl
@[go_sem] theorem tyA_3 : tyA Tryd.prog 3 = some (false, 1) := by kernel_rfl
@[go_sem] theorem bytesA_3 : bytesA Tryd.prog 3 = false := by kernel_rfl
@[go_sem] theorem knownA_3 : knownA Tryd.prog 3 = true := by kernel_rfl
@[go_sem] theorem concA_3 : concA Tryd.prog 3 = true := by kernel_rfl
@[go_sem] theorem ikA_3 : ikA Tryd.prog 3 = some .i64 := by kernel_rfl
@[go_sem] theorem bldT_3 : bldT Tryd.prog 3 = none := by kernel_rfl
@[go_sem] theorem zeroA_3 : zeroA Tryd.prog 3 = some [.int .i64 0] := by kernel_rfl
@[go_sem] theorem slA_3 : slA Tryd.prog 3 = none := by kernel_rfl
@[go_sem] theorem tyA_4 : tyA Tryd.prog 4 = some (false, 1) := by kernel_rfl
@[go_sem] theorem bytesA_4 : bytesA Tryd.prog 4 = false := by kernel_rfl
@[go_sem] theorem knownA_4 : knownA Tryd.prog 4 = true := by kernel_rfl
@[go_sem] theorem concA_4 : concA Tryd.prog 4 = true := by kernel_rfl
@[go_sem] theorem ikA_4 : ikA Tryd.prog 4 = none := by kernel_rfl
@[go_sem] theorem tyBool_4 : tyBool Tryd.prog 4 = true := by kernel_rfl
@[go_sem] theorem bldT_4 : bldT Tryd.prog 4 = none := by kernel_rfl
@[go_sem] theorem zeroA_4 : zeroA Tryd.prog 4 = some [.bool false] := by kernel_rfl
@[go_sem] theorem slA_4 : slA Tryd.prog 4 = none := by kernel_rfl
@[go_sem] theorem tyA_5 : tyA Tryd.prog 5 = some (false, 1) := by kernel_rfl
@[go_sem] theorem bytesA_5 : bytesA Tryd.prog 5 = false := by kernel_rfl
@[go_sem] theorem knownA_5 : knownA Tryd.prog 5 = true := by kernel_rfl
@[go_sem] theorem concA_5 : concA Tryd.prog 5 = true := by kernel_rfl
@[go_sem] theorem ikA_5 : ikA Tryd.prog 5 = some .u8 := by kernel_rfl
@[go_sem] theorem bldT_5 : bldT Tryd.prog 5 = none := by kernel_rfl
@[go_sem] theorem zeroA_5 : zeroA Tryd.prog 5 = some [.int .u8 0] := by kernel_rfl
@[go_sem] theorem slA_5 : slA Tryd.prog 5 = none := by kernel_rfl
@[go_sem] theorem tyA_9 : tyA Tryd.prog 9 = some (false, 1) := by kernel_rfl
@[go_sem] theorem bytesA_9 : bytesA Tryd.prog 9 = false := by kernel_rfl
@[go_sem] theorem knownA_9 : knownA Tryd.prog 9 = true := by kernel_rfl
@[go_sem] theorem concA_9 : concA Tryd.prog 9 = true := by kernel_rfl
@[go_sem] theorem ikA_9 : ikA Tryd.prog 9 = none := by kernel_rfl
@[go_sem] theorem strA_9 : strA Tryd.prog 9 = true := by kernel_rfl
@[go_sem] theorem bldT_9 : bldT Tryd.prog 9 = none := by kernel_rfl
@[go_sem] theorem zeroA_9 : zeroA Tryd.prog 9 = some [.str []] := by kernel_rfl
@[go_sem] theorem slA_9 : slA Tryd.prog 9 = none := by kernel_rfl
@[go_sem] theorem tyA_12 : tyA Tryd.prog 12 = some (false, 1) := by kernel_rfl
@[go_sem] theorem bytesA_12 : bytesA Tryd.prog 12 = false := by kernel_rfl
@[go_sem] theorem knownA_12 : knownA Tryd.prog 12 = true := by kernel_rfl
@[go_sem] theorem concA_12 : concA Tryd.prog 12 = true := by kernel_rfl
@[go_sem] theorem ikA_12 : ikA Tryd.prog 12 = some .u64 := by kernel_rfl
@[go_sem] theorem bldT_12 : bldT Tryd.prog 12 = none := by kernel_rfl
@[go_sem] theorem zeroA_12 : zeroA Tryd.prog 12 = some [.int .u64 0] := by kernel_rfl
@[go_sem] theorem slA_12 : slA Tryd.prog 12 = none := by kernel_rfl
@[go_sem] theorem tyA_20 : tyA Tryd.prog 20 = some (false, 1) := by kernel_rfl
@[go_sem] theorem bytesA_20 : bytesA Tryd.prog 20 = false := by kernel_rfl
@[go_sem] theorem knownA_20 : knownA Tryd.prog 20 = true := by kernel_rfl
@[go_sem] theorem ikA_20 : ikA Tryd.prog 20 = none := by kernel_rfl
@[go_sem] theorem bldT_20 : bldT Tryd.prog 20 = none := by kernel_rfl
@[go_sem] theorem zeroA_20 : zeroA Tryd.prog 20 = some [.raw .nilIface] := by kernel_rfl
@[go_sem] theorem slA_20 : slA Tryd.prog 20 = none := by kernel_rfl
@[go_sem] theorem tyA_21 : tyA Tryd.prog 21 = some (false, 1) := by kernel_rfl
@[go_sem] theorem bytesA_21 : bytesA Tryd.prog 21 = false := by kernel_rfl
@[go_sem] theorem knownA_21 : knownA Tryd.prog 21 = true := by kernel_rfl
@[go_sem] theorem concA_21 : concA Tryd.prog 21 = true := by kernel_rfl
@[go_sem] theorem ikA_21 : ikA Tryd.prog 21 = some .i32 := by kernel_rfl
@[go_sem] theorem bldT_21 : bldT Tryd.prog 21 = none := by kernel_rfl
@[go_sem] theorem zeroA_21 : zeroA Tryd.prog 21 = some [.int .i32 0] := by kernel_rfl
@[go_sem] theorem slA_21 : slA Tryd.prog 21 = none := by kernel_rfl
@[go_sem] theorem tyA_22 : tyA Tryd.prog 22 = some (false, 1) := by kernel_rfl
@[go_sem] theorem bytesA_22 : bytesA Tryd.prog 22 = false := by kernel_rfl
@[go_sem] theorem knownA_22 : knownA Tryd.prog 22 = true := by kernel_rfl
@[go_sem] theorem concA_22 : concA Tryd.prog 22 = true := by kernel_rfl
@[go_sem] theorem ikA_22 : ikA Tryd.prog 22 = none := by kernel_rfl
@[go_sem] theorem bldT_22 : bldT Tryd.prog 22 = none := by kernel_rfl
@[go_sem] theorem zeroA_22 : zeroA Tryd.prog 22 = some [.sl 1 [] .nil] := by kernel_rfl
@[go_sem] theorem slA_22 : slA Tryd.prog 22 = some 1 := by kernel_rfl
@[go_sem] theorem mkA_22 : mkA Tryd.prog 22 = some ([.str []], 16) := by kernel_rfl
@[go_sem] theorem apA_22 : apA Tryd.prog 22 = some (1, 16) := by kernel_rfl
@[go_sem] theorem partTy_22 (i : Nat) : partTy Tryd.prog 22 i = 9 := rfl_of_partTy (by kernel_rfl)
@[go_sem] theorem tyA_23 : tyA Tryd.prog 23 = some (false, 1) := by kernel_rfl
@[go_sem] theorem bytesA_23 : bytesA Tryd.prog 23 = false := by kernel_rfl
@[go_sem] theorem knownA_23 : knownA Tryd.prog 23 = true := by kernel_rfl
@[go_sem] theorem concA_23 : concA Tryd.prog 23 = true := by kernel_rfl
@[go_sem] theorem ikA_23 : ikA Tryd.prog 23 = none := by kernel_rfl
@[go_sem] theorem bldT_23 : bldT Tryd.prog 23 = none := by kernel_rfl
@[go_sem] theorem zeroA_23 : zeroA Tryd.prog 23 = some [.sl 7 [] .nil] := by kernel_rfl
@[go_sem] theorem slA_23 : slA Tryd.prog 23 = some 7 := by kernel_rfl
@[go_sem] theorem mkA_23 : mkA Tryd.prog 23 = some ([.int .i64 0, .int .i64 0, .int .i64 0, .int .i64 0, .int .i64 0, .int .i64 0, .bool false], 56) := by kernel_rfl
@[go_sem] theorem apA_23 : apA Tryd.prog 23 = some (7, 56) := by kernel_rfl
@[go_sem] theorem partTy_23 (i : Nat) : partTy Tryd.prog 23 i = 64 := rfl_of_partTy (by kernel_rfl)
@[go_sem] theorem tyA_24 : tyA Tryd.prog 24 = some (false, 1) := by kernel_rfl
@[go_sem] theorem bytesA_24 : bytesA Tryd.prog 24 = false := by kernel_rfl
@[go_sem] theorem knownA_24 : knownA Tryd.prog 24 = true := by kernel_rfl
@[go_sem] theorem concA_24 : concA Tryd.prog 24 = true := by kernel_rfl
@[go_sem] theorem ikA_24 : ikA Tryd.prog 24 = none := by kernel_rfl
@[go_sem] theorem bldT_24 : bldT Tryd.prog 24 = none := by kernel_rfl
@[go_sem] theorem zeroA_24 : zeroA Tryd.prog 24 = some [.sl 4 [] .nil] := by kernel_rfl
@[go_sem] theorem slA_24 : slA Tryd.prog 24 = some 4 := by kernel_rfl
@[go_sem] theorem mkA_24 : mkA Tryd.prog 24 = some ([.int .i64 0, .int .i64 0, .int .i64 0, .int .i64 0], 32) := by kernel_rfl
@[go_sem] theorem apA_24 : apA Tryd.prog 24 = some (4, 32) := by kernel_rfl
@[go_sem] theorem partTy_24 (i : Nat) : partTy Tryd.prog 24 i = 76 := rfl_of_partTy (by kernel_rfl)
@[go_sem] theorem tyA_25 : tyA Tryd.prog 25 = some (false, 1) := by kernel_rfl
@[go_sem] theorem bytesA_25 : bytesA Tryd.prog 25 = false := by kernel_rfl
@[go_sem] theorem knownA_25 : knownA Tryd.prog 25 = true := by kernel_rfl
@[go_sem] theorem concA_25 : concA Tryd.prog 25 = true := by kernel_rfl
@[go_sem] theorem ikA_25 : ikA Tryd.prog 25 = none := by kernel_rfl
@[go_sem] theorem bldT_25 : bldT Tryd.prog 25 = none := by kernel_rfl
@[go_sem] theorem zeroA_25 : zeroA Tryd.prog 25 = some [.sl 2 [] .nil] := by kernel_rfl
@[go_sem] theorem slA_25 : slA Tryd.prog 25 = some 2 := by kernel_rfl
@[go_sem] theorem mkA_25 : mkA Tryd.prog 25 = some ([.int .i64 0, .int .i64 0], 16) := by kernel_rfl
@[go_sem] theorem apA_25 : apA Tryd.prog 25 = some (2, 16) := by kernel_rfl
@[go_sem] theorem partTy_25 (i : Nat) : partTy Tryd.prog 25 i = 83 := rfl_of_partTy (by kernel_rfl)
@[go_sem] theorem tyA_26 : tyA Tryd.prog 26 = some (false, 1) := by kernel_rfl
@[go_sem] theorem bytesA_26 : bytesA Tryd.prog 26 = false := by kernel_rfl
@[go_sem] theorem knownA_26 : knownA Tryd.prog 26 = true := by kernel_rfl
@[go_sem] theorem concA_26 : concA Tryd.prog 26 = true := by kernel_rfl
@[go_sem] theorem ikA_26 : ikA Tryd.prog 26 = none := by kernel_rfl
@[go_sem] theorem bldT_26 : bldT Tryd.prog 26 = none := by kernel_rfl
@[go_sem] theorem zeroA_26 : zeroA Tryd.prog 26 = some [.sl 2 [] .nil] := by kernel_rfl
@[go_sem] theorem slA_26 : slA Tryd.prog 26 = some 2 := by kernel_rfl
@[go_sem] theorem mkA_26 : mkA Tryd.prog 26 = some ([.int .i64 0, .int .i64 0], 16) := by kernel_rfl
@[go_sem] theorem apA_26 : apA Tryd.prog 26 = some (2, 16) := by kernel_rfl
@[go_sem] theorem partTy_26 (i : Nat) : partTy Tryd.prog 26 i = 87 := rfl_of_partTy (by kernel_rfl)
@[go_sem] theorem tyA_27 : tyA Tryd.prog 27 = some (true, 5) := by kernel_rfl
@[go_sem] theorem bytesA_27 : bytesA Tryd.prog 27 = false := by kernel_rfl
@[go_sem] theorem knownA_27 : knownA Tryd.prog 27 = true := by kernel_rfl
@[go_sem] theorem concA_27 : concA Tryd.prog 27 = true := by kernel_rfl
@[go_sem] theorem ikA_27 : ikA Tryd.prog 27 = none := by kernel_rfl
@[go_sem] theorem bldT_27 : bldT Tryd.prog 27 = none := by kernel_rfl
@[go_sem] theorem zeroA_27 : zeroA Tryd.prog 27 = some [.sl 1 [] .nil, .sl 7 [] .nil, .sl 4 [] .nil, .sl 2 [] .nil, .sl 2 [] .nil] := by kernel_rfl
@[go_sem] theorem slA_27 : slA Tryd.prog 27 = none := by kernel_rfl
@[go_sem] theorem fsOk_27 : fsOk Tryd.prog 27 = true := by kernel_rfl
@[go_sem] theorem fldA_27_0 : fldA Tryd.prog 27 0 = some 0 := by kernel_rfl
@[go_sem] theorem fpA_27_0 : fpA Tryd.prog 27 0 = some (0, false, 1) := by kernel_rfl
@[go_sem] theorem plA_27_0 : plA Tryd.prog 27 0 = some (0, 1) := by kernel_rfl
@[go_sem] theorem partTy_27_0 : partTy Tryd.prog 27 0 = 22 := by kernel_rfl
@[go_sem] theorem fldA_27_1 : fldA Tryd.prog 27 1 = some 1 := by kernel_rfl
@[go_sem] theorem fpA_27_1 : fpA Tryd.prog 27 1 = some (1, false, 1) := by kernel_rfl
@[go_sem] theorem plA_27_1 : plA Tryd.prog 27 1 = some (1, 1) := by kernel_rfl
@[go_sem] theorem partTy_27_1 : partTy Tryd.prog 27 1 = 23 := by kernel_rfl
@[go_sem] theorem fldA_27_2 : fldA Tryd.prog 27 2 = some 2 := by kernel_rfl
@[go_sem] theorem fpA_27_2 : fpA Tryd.prog 27 2 = some (2, false, 1) := by kernel_rfl
@[go_sem] theorem plA_27_2 : plA Tryd.prog 27 2 = some (2, 1) := by kernel_rfl
@[go_sem] theorem partTy_27_2 : partTy Tryd.prog 27 2 = 24 := by kernel_rfl
@[go_sem] theorem fldA_27_3 : fldA Tryd.prog 27 3 = some 3 := by kernel_rfl
@[go_sem] theorem fpA_27_3 : fpA Tryd.prog 27 3 = some (3, false, 1) := by kernel_rfl
@[go_sem] theorem plA_27_3 : plA Tryd.prog 27 3 = some (3, 1) := by kernel_rfl
@[go_sem] theorem partTy_27_3 : partTy Tryd.prog 27 3 = 25 := by kernel_rfl
@[go_sem] theorem fldA_27_4 : fldA Tryd.prog 27 4 = some 4 := by kernel_rfl
@[go_sem] theorem fpA_27_4 : fpA Tryd.prog 27 4 = some (4, false, 1) := by kernel_rfl
@[go_sem] theorem plA_27_4 : plA Tryd.prog 27 4 = some (4, 1) := by kernel_rfl
@[go_sem] theorem partTy_27_4 : partTy Tryd.prog 27 4 = 26 := by kernel_rfl
@[go_sem] theorem tyA_28 : tyA Tryd.prog 28 = some (true, 5) := by kernel_rfl
@[go_sem] theorem bytesA_28 : bytesA Tryd.prog 28 = false := by kernel_rfl
@[go_sem] theorem knownA_28 : knownA Tryd.prog 28 = true := by kernel_rfl
@[go_sem] theorem concA_28 : concA Tryd.prog 28 = true := by kernel_rfl
@[go_sem] theorem ikA_28 : ikA Tryd.prog 28 = none := by kernel_rfl
@[go_sem] theorem bldT_28 : bldT Tryd.prog 28 = none := by kernel_rfl
@[go_sem] theorem zeroA_28 : zeroA Tryd.prog 28 = some [.sl 1 [] .nil, .sl 7 [] .nil, .sl 4 [] .nil, .sl 2 [] .nil, .sl 2 [] .nil] := by kernel_rfl
@[go_sem] theorem slA_28 : slA Tryd.prog 28 = none := by kernel_rfl
@[go_sem] theorem fsOk_28 : fsOk Tryd.prog 28 = true := by kernel_rfl
@[go_sem] theorem fldA_28_0 : fldA Tryd.prog 28 0 = some 0 := by kernel_rfl
@[go_sem] theorem fpA_28_0 : fpA Tryd.prog 28 0 = some (0, false, 1) := by kernel_rfl
@[go_sem] theorem plA_28_0 : plA Tryd.prog 28 0 = some (0, 1) := by kernel_rfl
@[go_sem] theorem partTy_28_0 : partTy Tryd.prog 28 0 = 22 := by kernel_rfl
@[go_sem] theorem fldA_28_1 : fldA Tryd.prog 28 1 = some 1 := by kernel_rfl
@[go_sem] theorem fpA_28_1 : fpA Tryd.prog 28 1 = some (1, false, 1) := by kernel_rfl
@[go_sem] theorem plA_28_1 : plA Tryd.prog 28 1 = some (1, 1) := by kernel_rfl
@[go_sem] theorem partTy_28_1 : partTy Tryd.prog 28 1 = 23 := by kernel_rfl
@[go_sem] theorem fldA_28_2 : fldA Tryd.prog 28 2 = some 2 := by kernel_rfl
@[go_sem] theorem fpA_28_2 : fpA Tryd.prog 28 2 = some (2, false, 1) := by kernel_rfl
@[go_sem] theorem plA_28_2 : plA Tryd.prog 28 2 = some (2, 1) := by kernel_rfl
@[go_sem] theorem partTy_28_2 : partTy Tryd.prog 28 2 = 24 := by kernel_rfl
@[go_sem] theorem fldA_28_3 : fldA Tryd.prog 28 3 = some 3 := by kernel_rfl
@[go_sem] theorem fpA_28_3 : fpA Tryd.prog 28 3 = some (3, false, 1) := by kernel_rfl
@[go_sem] theorem plA_28_3 : plA Tryd.prog 28 3 = some (3, 1) := by kernel_rfl
@[go_sem] theorem partTy_28_3 : partTy Tryd.prog 28 3 = 25 := by kernel_rfl
@[go_sem] theorem fldA_28_4 : fldA Tryd.prog 28 4 = some 4 := by kernel_rfl
@[go_sem] theorem fpA_28_4 : fpA Tryd.prog 28 4 = some (4, false, 1) := by kernel_rfl
@[go_sem] theorem plA_28_4 : plA Tryd.prog 28 4 = some (4, 1) := by kernel_rfl
@[go_sem] theorem partTy_28_4 : partTy Tryd.prog 28 4 = 26 := by kernel_rfl
@[go_sem] theorem tyA_29 : tyA Tryd.prog 29 = some (false, 1) := by kernel_rfl
@[go_sem] theorem bytesA_29 : bytesA Tryd.prog 29 = false := by kernel_rfl
@[go_sem] theorem knownA_29 : knownA Tryd.prog 29 = true := by kernel_rfl
@[go_sem] theorem concA_29 : concA Tryd.prog 29 = true := by kernel_rfl
@[go_sem] theorem ikA_29 : ikA Tryd.prog 29 = none := by kernel_rfl
@[go_sem] theorem bldT_29 : bldT Tryd.prog 29 = none := by kernel_rfl
@[go_sem] theorem zeroA_29 : zeroA Tryd.prog 29 = some [.sl 5 [] .nil] := by kernel_rfl
@[go_sem] theorem slA_29 : slA Tryd.prog 29 = some 5 := by kernel_rfl
@[go_sem] theorem mkA_29 : mkA Tryd.prog 29 = some ([.int .i64 0, .int .i64 0, .int .i64 0, .int .i64 0, .int .i64 0], 40) := by kernel_rfl
@[go_sem] theorem apA_29 : apA Tryd.prog 29 = some (5, 40) := by kernel_rfl
@[go_sem] theorem partTy_29 (i : Nat) : partTy Tryd.prog 29 i = 41 := rfl_of_partTy (by kernel_rfl)
@[go_sem] theorem tyA_30 : tyA Tryd.prog 30 = some (false, 1) := by kernel_rfl
@[go_sem] theorem bytesA_30 : bytesA Tryd.prog 30 = false := by kernel_rfl
@[go_sem] theorem knownA_30 : knownA Tryd.prog 30 = true := by kernel_rfl
@[go_sem] theorem concA_30 : concA Tryd.prog 30 = true := by kernel_rfl
@[go_sem] theorem ikA_30 : ikA Tryd.prog 30 = some .i64 := by kernel_rfl
@[go_sem] theorem bldT_30 : bldT Tryd.prog 30 = none := by kernel_rfl
@[go_sem] theorem zeroA_30 : zeroA Tryd.prog 30 = some [.int .i64 0] := by kernel_rfl
@[go_sem] theorem slA_30 : slA Tryd.prog 30 = none := by kernel_rfl
@[go_sem] theorem tyA_31 : tyA Tryd.prog 31 = some (false, 1) := by kernel_rfl
@[go_sem] theorem bytesA_31 : bytesA Tryd.prog 31 = false := by kernel_rfl
@[go_sem] theorem knownA_31 : knownA Tryd.prog 31 = true := by kernel_rfl
@[go_sem] theorem concA_31 : concA Tryd.prog 31 = true := by kernel_rfl
@[go_sem] theorem ikA_31 : ikA Tryd.prog 31 = none := by kernel_rfl
@[go_sem] theorem bldT_31 : bldT Tryd.prog 31 = none := by kernel_rfl
@[go_sem] theorem zeroA_31 : zeroA Tryd.prog 31 = some [.raw .nilFunc] := by kernel_rfl
@[go_sem] theorem slA_31 : slA Tryd.prog 31 = none := by kernel_rfl
@[go_sem] theorem tyA_33 : tyA Tryd.prog 33 = some (false, 1) := by kernel_rfl
@[go_sem] theorem bytesA_33 : bytesA Tryd.prog 33 = false := by kernel_rfl
@[go_sem] theorem knownA_33 : knownA Tryd.prog 33 = true := by kernel_rfl
@[go_sem] theorem concA_33 : concA Tryd.prog 33 = true := by kernel_rfl
@[go_sem] theorem ikA_33 : ikA Tryd.prog 33 = none := by kernel_rfl
@[go_sem] theorem bldT_33 : bldT Tryd.prog 33 = none := by kernel_rfl
@[go_sem] theorem zeroA_33 : zeroA Tryd.prog 33 = some [.raw .nilFunc] := by kernel_rfl
@[go_sem] theorem slA_33 : slA Tryd.prog 33 = none := by kernel_rfl
@[go_sem] theorem tyA_34 : tyA Tryd.prog 34 = some (false, 1) := by kernel_rfl
@[go_sem] theorem bytesA_34 : bytesA Tryd.prog 34 = false := by kernel_rfl
@[go_sem] theorem knownA_34 : knownA Tryd.prog 34 = true := by kernel_rfl
@[go_sem] theorem concA_34 : concA Tryd.prog 34 = true := by kernel_rfl
@[go_sem] theorem ikA_34 : ikA Tryd.prog 34 = none := by kernel_rfl
@[go_sem] theorem bldT_34 : bldT Tryd.prog 34 = none := by kernel_rfl
@[go_sem] theorem zeroA_34 : zeroA Tryd.prog 34 = some [.raw .nilFunc] := by kernel_rfl
@[go_sem] theorem slA_34 : slA Tryd.prog 34 = none := by kernel_rfl
@[go_sem] theorem tyA_35 : tyA Tryd.prog 35 = some (false, 1) := by kernel_rfl
@[go_sem] theorem bytesA_35 : bytesA Tryd.prog 35 = false := by kernel_rfl
@[go_sem] theorem knownA_35 : knownA Tryd.prog 35 = true := by kernel_rfl
@[go_sem] theorem concA_35 : concA Tryd.prog 35 = true := by kernel_rfl
@[go_sem] theorem ikA_35 : ikA Tryd.prog 35 = none := by kernel_rfl
@[go_sem] theorem bldT_35 : bldT Tryd.prog 35 = none := by kernel_rfl
@[go_sem] theorem zeroA_35 : zeroA Tryd.prog 35 = some [.sl 5 [] .nil] := by kernel_rfl
@[go_sem] theorem slA_35 : slA Tryd.prog 35 = some 5 := by kernel_rfl
@[go_sem] theorem mkA_35 : mkA Tryd.prog 35 = some ([.int .i64 0, .int .i64 0, .int .i64 0, .int .i64 0, .int .i64 0], 40) := by kernel_rfl
@[go_sem] theorem apA_35 : apA Tryd.prog 35 = some (5, 40) := by kernel_rfl
@[go_sem] theorem partTy_35 (i : Nat) : partTy Tryd.prog 35 i = 58 := rfl_of_partTy (by kernel_rfl)
@[go_sem] theorem tyA_36 : tyA Tryd.prog 36 = some (false, 1) := by kernel_rfl
@[go_sem] theorem bytesA_36 : bytesA Tryd.prog 36 = false := by kernel_rfl
@[go_sem] theorem knownA_36 : knownA Tryd.prog 36 = true := by kernel_rfl
@[go_sem] theorem concA_36 : concA Tryd.prog 36 = true := by kernel_rfl
@[go_sem] theorem ikA_36 : ikA Tryd.prog 36 = none := by kernel_rfl
@[go_sem] theorem bldT_36 : bldT Tryd.prog 36 = none := by kernel_rfl
@[go_sem] theorem zeroA_36 : zeroA Tryd.prog 36 = some [.raw .nilFunc] := by kernel_rfl
@[go_sem] theorem slA_36 : slA Tryd.prog 36 = none := by kernel_rfl
@[go_sem] theorem tyA_37 : tyA Tryd.prog 37 = some (false, 1) := by kernel_rfl
@[go_sem] theorem bytesA_37 : bytesA Tryd.prog 37 = false := by kernel_rfl
@[go_sem] theorem knownA_37 : knownA Tryd.prog 37 = true := by kernel_rfl
@[go_sem] theorem concA_37 : concA Tryd.prog 37 = true := by kernel_rfl
@[go_sem] theorem ikA_37 : ikA Tryd.prog 37 = none := by kernel_rfl
@[go_sem] theorem bldT_37 : bldT Tryd.prog 37 = none := by kernel_rfl
@[go_sem] theorem zeroA_37 : zeroA Tryd.prog 37 = some [.raw .nilFunc] := by kernel_rfl
@[go_sem] theorem slA_37 : slA Tryd.prog 37 = none := by kernel_rfl
@[go_sem] theorem tyA_38 : tyA Tryd.prog 38 = some (false, 1) := by kernel_rfl
@[go_sem] theorem bytesA_38 : bytesA Tryd.prog 38 = false := by kernel_rfl
@[go_sem] theorem knownA_38 : knownA Tryd.prog 38 = true := by kernel_rfl
@[go_sem] theorem concA_38 : concA Tryd.prog 38 = true := by kernel_rfl
@[go_sem] theorem ikA_38 : ikA Tryd.prog 38 = none := by kernel_rfl
@[go_sem] theorem bldT_38 : bldT Tryd.prog 38 = none := by kernel_rfl
@[go_sem] theorem zeroA_38 : zeroA Tryd.prog 38 = some [.raw .nilFunc] := by kernel_rfl
@[go_sem] theorem slA_38 : slA Tryd.prog 38 = none := by kernel_rfl
@[go_sem] theorem tyA_39 : tyA Tryd.prog 39 = some (false, 1) := by kernel_rfl
@[go_sem] theorem bytesA_39 : bytesA Tryd.prog 39 = false := by kernel_rfl
@[go_sem] theorem knownA_39 : knownA Tryd.prog 39 = true := by kernel_rfl
@[go_sem] theorem concA_39 : concA Tryd.prog 39 = true := by kernel_rfl
@[go_sem] theorem ikA_39 : ikA Tryd.prog 39 = none := by kernel_rfl
@[go_sem] theorem bldT_39 : bldT Tryd.prog 39 = none := by kernel_rfl
@[go_sem] theorem zeroA_39 : zeroA Tryd.prog 39 = some [.raw .nilFunc] := by kernel_rfl
@[go_sem] theorem slA_39 : slA Tryd.prog 39 = none := by kernel_rfl
@[go_sem] theorem tyA_40 : tyA Tryd.prog 40 = some (true, 5) := by kernel_rfl
@[go_sem] theorem bytesA_40 : bytesA Tryd.prog 40 = false := by kernel_rfl
@[go_sem] theorem knownA_40 : knownA Tryd.prog 40 = true := by kernel_rfl
@[go_sem] theorem concA_40 : concA Tryd.prog 40 = true := by kernel_rfl
@[go_sem] theorem ikA_40 : ikA Tryd.prog 40 = none := by kernel_rfl
@[go_sem] theorem bldT_40 : bldT Tryd.prog 40 = none := by kernel_rfl
@[go_sem] theorem zeroA_40 : zeroA Tryd.prog 40 = some [.int .i64 0, .int .i64 0, .int .i64 0, .int .i64 0, .int .i64 0] := by kernel_rfl
@[go_sem] theorem slA_40 : slA Tryd.prog 40 = none := by kernel_rfl
@[go_sem] theorem fsOk_40 : fsOk Tryd.prog 40 = true := by kernel_rfl
@[go_sem] theorem fldA_40_0 : fldA Tryd.prog 40 0 = some 0 := by kernel_rfl
@[go_sem] theorem fpA_40_0 : fpA Tryd.prog 40 0 = some (0, false, 1) := by kernel_rfl
@[go_sem] theorem plA_40_0 : plA Tryd.prog 40 0 = some (0, 1) := by kernel_rfl
@[go_sem] theorem partTy_40_0 : partTy Tryd.prog 40 0 = 3 := by kernel_rfl
@[go_sem] theorem fldA_40_1 : fldA Tryd.prog 40 1 = some 1 := by kernel_rfl
@[go_sem] theorem fpA_40_1 : fpA Tryd.prog 40 1 = some (1, false, 1) := by kernel_rfl
@[go_sem] theorem plA_40_1 : plA Tryd.prog 40 1 = some (1, 1) := by kernel_rfl
@[go_sem] theorem partTy_40_1 : partTy Tryd.prog 40 1 = 3 := by kernel_rfl
@[go_sem] theorem fldA_40_2 : fldA Tryd.prog 40 2 = some 2 := by kernel_rfl
@[go_sem] theorem fpA_40_2 : fpA Tryd.prog 40 2 = some (2, false, 1) := by kernel_rfl
@[go_sem] theorem plA_40_2 : plA Tryd.prog 40 2 = some (2, 1) := by kernel_rfl
@[go_sem] theorem partTy_40_2 : partTy Tryd.prog 40 2 = 3 := by kernel_rfl
@[go_sem] theorem fldA_40_3 : fldA Tryd.prog 40 3 = some 3 := by kernel_rfl
@[go_sem] theorem fpA_40_3 : fpA Tryd.prog 40 3 = some (3, false, 1) := by kernel_rfl
@[go_sem] theorem plA_40_3 : plA Tryd.prog 40 3 = some (3, 1) := by kernel_rfl
@[go_sem] theorem partTy_40_3 : partTy Tryd.prog 40 3 = 3 := by kernel_rfl
@[go_sem] theorem fldA_40_4 : fldA Tryd.prog 40 4 = some 4 := by kernel_rfl
@[go_sem] theorem fpA_40_4 : fpA Tryd.prog 40 4 = some (4, false, 1) := by kernel_rfl
@[go_sem] theorem plA_40_4 : plA Tryd.prog 40 4 = some (4, 1) := by kernel_rfl
@[go_sem] theorem partTy_40_4 : partTy Tryd.prog 40 4 = 3 := by kernel_rfl
@[go_sem] theorem eqKs_40 : eqKs Tryd.prog 40 = some [.int .i64, .int .i64, .int .i64, .int .i64, .int .i64] := by kernel_rfl
@[go_sem] theorem tyA_41 : tyA Tryd.prog 41 = some (true, 5) := by kernel_rfl
@[go_sem] theorem bytesA_41 : bytesA Tryd.prog 41 = false := by kernel_rfl
@[go_sem] theorem knownA_41 : knownA Tryd.prog 41 = true := by kernel_rfl
@[go_sem] theorem concA_41 : concA Tryd.prog 41 = true := by kernel_rfl
@[go_sem] theorem ikA_41 : ikA Tryd.prog 41 = none := by kernel_rfl
@[go_sem] theorem bldT_41 : bldT Tryd.prog 41 = none := by kernel_rfl
@[go_sem] theorem zeroA_41 : zeroA Tryd.prog 41 = some [.int .i64 0, .int .i64 0, .int .i64 0, .int .i64 0, .int .i64 0] := by kernel_rfl
@[go_sem] theorem slA_41 : slA Tryd.prog 41 = none := by kernel_rfl
@[go_sem] theorem fsOk_41 : fsOk Tryd.prog 41 = true := by kernel_rfl
@[go_sem] theorem fldA_41_0 : fldA Tryd.prog 41 0 = some 0 := by kernel_rfl
@[go_sem] theorem fpA_41_0 : fpA Tryd.prog 41 0 = some (0, false, 1) := by kernel_rfl
@[go_sem] theorem plA_41_0 : plA Tryd.prog 41 0 = some (0, 1) := by kernel_rfl
@[go_sem] theorem partTy_41_0 : partTy Tryd.prog 41 0 = 3 := by kernel_rfl
@[go_sem] theorem fldA_41_1 : fldA Tryd.prog 41 1 = some 1 := by kernel_rfl
@[go_sem] theorem fpA_41_1 : fpA Tryd.prog 41 1 = some (1, false, 1) := by kernel_rfl
@[go_sem] theorem plA_41_1 : plA Tryd.prog 41 1 = some (1, 1) := by kernel_rfl
@[go_sem] theorem partTy_41_1 : partTy Tryd.prog 41 1 = 3 := by kernel_rfl
@[go_sem] theorem fldA_41_2 : fldA Tryd.prog 41 2 = some 2 := by kernel_rfl
@[go_sem] theorem fpA_41_2 : fpA Tryd.prog 41 2 = some (2, false, 1) := by kernel_rfl
@[go_sem] theorem plA_41_2 : plA Tryd.prog 41 2 = some (2, 1) := by kernel_rfl
@[go_sem] theorem partTy_41_2 : partTy Tryd.prog 41 2 = 3 := by kernel_rfl
@[go_sem] theorem fldA_41_3 : fldA Tryd.prog 41 3 = some 3 := by kernel_rfl
@[go_sem] theorem fpA_41_3 : fpA Tryd.prog 41 3 = some (3, false, 1) := by kernel_rfl
@[go_sem] theorem plA_41_3 : plA Tryd.prog 41 3 = some (3, 1) := by kernel_rfl
@[go_sem] theorem partTy_41_3 : partTy Tryd.prog 41 3 = 3 := by kernel_rfl
@[go_sem] theorem fldA_41_4 : fldA Tryd.prog 41 4 = some 4 := by kernel_rfl
@[go_sem] theorem fpA_41_4 : fpA Tryd.prog 41 4 = some (4, false, 1) := by kernel_rfl
@[go_sem] theorem plA_41_4 : plA Tryd.prog 41 4 = some (4, 1) := by kernel_rfl
@[go_sem] theorem partTy_41_4 : partTy Tryd.prog 41 4 = 3 := by kernel_rfl
@[go_sem] theorem eqKs_41 : eqKs Tryd.prog 41 = some [.int .i64, .int .i64, .int .i64, .int .i64, .int .i64] := by kernel_rfl
@[go_sem] theorem tyA_42 : tyA Tryd.prog 42 = some (false, 1) := by kernel_rfl
@[go_sem] theorem bytesA_42 : bytesA Tryd.prog 42 = false := by kernel_rfl
@[go_sem] theorem knownA_42 : knownA Tryd.prog 42 = true := by kernel_rfl
@[go_sem] theorem concA_42 : concA Tryd.prog 42 = true := by kernel_rfl
@[go_sem] theorem ikA_42 : ikA Tryd.prog 42 = none := by kernel_rfl
@[go_sem] theorem bldT_42 : bldT Tryd.prog 42 = none := by kernel_rfl
@[go_sem] theorem zeroA_42 : zeroA Tryd.prog 42 = some [.raw .nilFunc] := by kernel_rfl
@[go_sem] theorem slA_42 : slA Tryd.prog 42 = none := by kernel_rfl
@[go_sem] theorem tyA_43 : tyA Tryd.prog 43 = some (false, 1) := by kernel_rfl
@[go_sem] theorem bytesA_43 : bytesA Tryd.prog 43 = false := by kernel_rfl
@[go_sem] theorem knownA_43 : knownA Tryd.prog 43 = true := by kernel_rfl
@[go_sem] theorem concA_43 : concA Tryd.prog 43 = true := by kernel_rfl
@[go_sem] theorem ikA_43 : ikA Tryd.prog 43 = none := by kernel_rfl
@[go_sem] theorem bldT_43 : bldT Tryd.prog 43 = none := by kernel_rfl
@[go_sem] theorem zeroA_43 : zeroA Tryd.prog 43 = some [.raw (.pointer none)] := by kernel_rfl
@[go_sem] theorem slA_43 : slA Tryd.prog 43 = none := by kernel_rfl
@[go_sem] theorem tyA_44 : tyA Tryd.prog 44 = some (false, 1) := by kernel_rfl
@[go_sem] theorem bytesA_44 : bytesA Tryd.prog 44 = true := by kernel_rfl
@[go_sem] theorem knownA_44 : knownA Tryd.prog 44 = true := by kernel_rfl
@[go_sem] theorem concA_44 : concA Tryd.prog 44 = true := by kernel_rfl
@[go_sem] theorem ikA_44 : ikA Tryd.prog 44 = none := by kernel_rfl
@[go_sem] theorem bldT_44 : bldT Tryd.prog 44 = none := by kernel_rfl
@[go_sem] theorem zeroA_44 : zeroA Tryd.prog 44 = some [.sl 1 [] .nil] := by kernel_rfl
@[go_sem] theorem slA_44 : slA Tryd.prog 44 = some 1 := by kernel_rfl
@[go_sem] theorem mkA_44 : mkA Tryd.prog 44 = some ([.int .u8 0], 1) := by kernel_rfl
@[go_sem] theorem apA_44 : apA Tryd.prog 44 = some (1, 1) := by kernel_rfl
@[go_sem] theorem partTy_44 (i : Nat) : partTy Tryd.prog 44 i = 5 := rfl_of_partTy (by kernel_rfl)
@[go_sem] theorem tyA_45 : tyA Tryd.prog 45 = some (true, 2) := by kernel_rfl
@[go_sem] theorem bytesA_45 : bytesA Tryd.prog 45 = false := by kernel_rfl
@[go_sem] theorem knownA_45 : knownA Tryd.prog 45 = true := by kernel_rfl
@[go_sem] theorem concA_45 : concA Tryd.prog 45 = true := by kernel_rfl
@[go_sem] theorem ikA_45 : ikA Tryd.prog 45 = none := by kernel_rfl
@[go_sem] theorem bldT_45 : bldT Tryd.prog 45 = some 5 := by kernel_rfl
@[go_sem] theorem zeroA_45 : zeroA Tryd.prog 45 = some [.raw (.pointer none), .sl 1 [] .nil] := by kernel_rfl
@[go_sem] theorem slA_45 : slA Tryd.prog 45 = none := by kernel_rfl
@[go_sem] theorem fsOk_45 : fsOk Tryd.prog 45 = true := by kernel_rfl
@[go_sem] theorem fldA_45_0 : fldA Tryd.prog 45 0 = some 0 := by kernel_rfl
@[go_sem] theorem fpA_45_0 : fpA Tryd.prog 45 0 = some (0, false, 1) := by kernel_rfl
@[go_sem] theorem plA_45_0 : plA Tryd.prog 45 0 = some (0, 1) := by kernel_rfl
@[go_sem] theorem partTy_45_0 : partTy Tryd.prog 45 0 = 43 := by kernel_rfl
@[go_sem] theorem fldA_45_1 : fldA Tryd.prog 45 1 = some 1 := by kernel_rfl
@[go_sem] theorem fpA_45_1 : fpA Tryd.prog 45 1 = some (1, false, 1) := by kernel_rfl
@[go_sem] theorem plA_45_1 : plA Tryd.prog 45 1 = some (1, 1) := by kernel_rfl
@[go_sem] theorem partTy_45_1 : partTy Tryd.prog 45 1 = 44 := by kernel_rfl
@[go_sem] theorem tyA_46 : tyA Tryd.prog 46 = some (true, 2) := by kernel_rfl
@[go_sem] theorem bytesA_46 : bytesA Tryd.prog 46 = false := by kernel_rfl
@[go_sem] theorem knownA_46 : knownA Tryd.prog 46 = true := by kernel_rfl
@[go_sem] theorem concA_46 : concA Tryd.prog 46 = true := by kernel_rfl
@[go_sem] theorem ikA_46 : ikA Tryd.prog 46 = none := by kernel_rfl
@[go_sem] theorem bldT_46 : bldT Tryd.prog 46 = some 5 := by kernel_rfl
@[go_sem] theorem zeroA_46 : zeroA Tryd.prog 46 = some [.raw (.pointer none), .sl 1 [] .nil] := by kernel_rfl
@[go_sem] theorem slA_46 : slA Tryd.prog 46 = none := by kernel_rfl
@[go_sem] theorem fsOk_46 : fsOk Tryd.prog 46 = true := by kernel_rfl
@[go_sem] theorem fldA_46_0 : fldA Tryd.prog 46 0 = some 0 := by kernel_rfl
@[go_sem] theorem fpA_46_0 : fpA Tryd.prog 46 0 = some (0, false, 1) := by kernel_rfl
@[go_sem] theorem plA_46_0 : plA Tryd.prog 46 0 = some (0, 1) := by kernel_rfl
@[go_sem] theorem partTy_46_0 : partTy Tryd.prog 46 0 = 43 := by kernel_rfl
@[go_sem] theorem fldA_46_1 : fldA Tryd.prog 46 1 = some 1 := by kernel_rfl
@[go_sem] theorem fpA_46_1 : fpA Tryd.prog 46 1 = some (1, false, 1) := by kernel_rfl
@[go_sem] theorem plA_46_1 : plA Tryd.prog 46 1 = some (1, 1) := by kernel_rfl
@[go_sem] theorem partTy_46_1 : partTy Tryd.prog 46 1 = 44 := by kernel_rfl
@[go_sem] theorem tyA_47 : tyA Tryd.prog 47 = some (false, 1) := by kernel_rfl
@[go_sem] theorem bytesA_47 : bytesA Tryd.prog 47 = false := by kernel_rfl
@[go_sem] theorem knownA_47 : knownA Tryd.prog 47 = true := by kernel_rfl
@[go_sem] theorem concA_47 : concA Tryd.prog 47 = true := by kernel_rfl
@[go_sem] theorem ikA_47 : ikA Tryd.prog 47 = none := by kernel_rfl
@[go_sem] theorem bldT_47 : bldT Tryd.prog 47 = none := by kernel_rfl
@[go_sem] theorem zeroA_47 : zeroA Tryd.prog 47 = some [.sl 1 [] .nil] := by kernel_rfl
@[go_sem] theorem slA_47 : slA Tryd.prog 47 = some 1 := by kernel_rfl
@[go_sem] theorem mkA_47 : mkA Tryd.prog 47 = some ([.int .i64 0], 8) := by kernel_rfl
@[go_sem] theorem apA_47 : apA Tryd.prog 47 = some (1, 8) := by kernel_rfl
@[go_sem] theorem partTy_47 (i : Nat) : partTy Tryd.prog 47 i = 3 := rfl_of_partTy (by kernel_rfl)
@[go_sem] theorem tyA_48 : tyA Tryd.prog 48 = some (false, 1) := by kernel_rfl
@[go_sem] theorem bytesA_48 : bytesA Tryd.prog 48 = false := by kernel_rfl
@[go_sem] theorem knownA_48 : knownA Tryd.prog 48 = true := by kernel_rfl
@[go_sem] theorem concA_48 : concA Tryd.prog 48 = true := by kernel_rfl
@[go_sem] theorem ikA_48 : ikA Tryd.prog 48 = none := by kernel_rfl
@[go_sem] theorem bldT_48 : bldT Tryd.prog 48 = none := by kernel_rfl
@[go_sem] theorem zeroA_48 : zeroA Tryd.prog 48 = some [.raw .nilFunc] := by kernel_rfl
@[go_sem] theorem slA_48 : slA Tryd.prog 48 = none := by kernel_rfl
@[go_sem] theorem tyA_49 : tyA Tryd.prog 49 = some (false, 1) := by kernel_rfl
@[go_sem] theorem bytesA_49 : bytesA Tryd.prog 49 = false := by kernel_rfl
@[go_sem] theorem knownA_49 : knownA Tryd.prog 49 = true := by kernel_rfl
@[go_sem] theorem ikA_49 : ikA Tryd.prog 49 = none := by kernel_rfl
@[go_sem] theorem bldT_49 : bldT Tryd.prog 49 = none := by kernel_rfl
@[go_sem] theorem zeroA_49 : zeroA Tryd.prog 49 = some [.raw .nilIface] := by kernel_rfl
@[go_sem] theorem slA_49 : slA Tryd.prog 49 = none := by kernel_rfl
@[go_sem] theorem tyA_50 : tyA Tryd.prog 50 = some (false, 1) := by kernel_rfl
@[go_sem] theorem bytesA_50 : bytesA Tryd.prog 50 = false := by kernel_rfl
@[go_sem] theorem knownA_50 : knownA Tryd.prog 50 = true := by kernel_rfl
@[go_sem] theorem ikA_50 : ikA Tryd.prog 50 = none := by kernel_rfl
@[go_sem] theorem bldT_50 : bldT Tryd.prog 50 = none := by kernel_rfl
@[go_sem] theorem zeroA_50 : zeroA Tryd.prog 50 = some [.raw .nilIface] := by kernel_rfl
@[go_sem] theorem slA_50 : slA Tryd.prog 50 = none := by kernel_rfl
@[go_sem] theorem tyA_52 : tyA Tryd.prog 52 = some (false, 1) := by kernel_rfl
@[go_sem] theorem bytesA_52 : bytesA Tryd.prog 52 = false := by kernel_rfl
@[go_sem] theorem knownA_52 : knownA Tryd.prog 52 = true := by kernel_rfl
@[go_sem] theorem concA_52 : concA Tryd.prog 52 = true := by kernel_rfl
@[go_sem] theorem ikA_52 : ikA Tryd.prog 52 = none := by kernel_rfl
@[go_sem] theorem bldT_52 : bldT Tryd.prog 52 = none := by kernel_rfl
@[go_sem] theorem zeroA_52 : zeroA Tryd.prog 52 = some [.raw .nilFunc] := by kernel_rfl
@[go_sem] theorem slA_52 : slA Tryd.prog 52 = none := by kernel_rfl
@[go_sem] theorem tyA_53 : tyA Tryd.prog 53 = some (false, 1) := by kernel_rfl
@[go_sem] theorem bytesA_53 : bytesA Tryd.prog 53 = false := by kernel_rfl
@[go_sem] theorem knownA_53 : knownA Tryd.prog 53 = true := by kernel_rfl
@[go_sem] theorem concA_53 : concA Tryd.prog 53 = true := by kernel_rfl
@[go_sem] theorem ikA_53 : ikA Tryd.prog 53 = none := by kernel_rfl
@[go_sem] theorem bldT_53 : bldT Tryd.prog 53 = none := by kernel_rfl
@[go_sem] theorem zeroA_53 : zeroA Tryd.prog 53 = some [.raw .nilFunc] := by kernel_rfl
@[go_sem] theorem slA_53 : slA Tryd.prog 53 = none := by kernel_rfl
@[go_sem] theorem tyA_54 : tyA Tryd.prog 54 = some (true, 8) := by kernel_rfl
@[go_sem] theorem bytesA_54 : bytesA Tryd.prog 54 = false := by kernel_rfl
@[go_sem] theorem knownA_54 : knownA Tryd.prog 54 = true := by kernel_rfl
@[go_sem] theorem concA_54 : concA Tryd.prog 54 = true := by kernel_rfl
@[go_sem] theorem ikA_54 : ikA Tryd.prog 54 = none := by kernel_rfl
@[go_sem] theorem bldT_54 : bldT Tryd.prog 54 = none := by kernel_rfl
@[go_sem] theorem zeroA_54 : zeroA Tryd.prog 54 = some [.str [], .str [], .str [], .str [], .str [], .str [], .str [], .str []] := by kernel_rfl
@[go_sem] theorem slA_54 : slA Tryd.prog 54 = none := by kernel_rfl
@[go_sem] theorem eqKs_54 : eqKs Tryd.prog 54 = some [.str, .str, .str, .str, .str, .str, .str, .str] := by kernel_rfl
@[go_sem] theorem arA_54 : arA Tryd.prog 54 = some (8, 1) := by kernel_rfl
@[go_sem] theorem avA_54 : avA Tryd.prog 54 = some (8, false, 1) := by kernel_rfl
@[go_sem] theorem fsOk_54 : fsOk Tryd.prog 54 = true := by kernel_rfl
@[go_sem] theorem plA_54_0 : plA Tryd.prog 54 0 = some (0, 1) := by kernel_rfl
@[go_sem] theorem partTy_54_0 : partTy Tryd.prog 54 0 = 9 := by kernel_rfl
@[go_sem] theorem plA_54_1 : plA Tryd.prog 54 1 = some (1, 1) := by kernel_rfl
@[go_sem] theorem partTy_54_1 : partTy Tryd.prog 54 1 = 9 := by kernel_rfl
@[go_sem] theorem plA_54_2 : plA Tryd.prog 54 2 = some (2, 1) := by kernel_rfl
@[go_sem] theorem partTy_54_2 : partTy Tryd.prog 54 2 = 9 := by kernel_rfl
@[go_sem] theorem plA_54_3 : plA Tryd.prog 54 3 = some (3, 1) := by kernel_rfl
@[go_sem] theorem partTy_54_3 : partTy Tryd.prog 54 3 = 9 := by kernel_rfl
@[go_sem] theorem plA_54_4 : plA Tryd.prog 54 4 = some (4, 1) := by kernel_rfl
@[go_sem] theorem partTy_54_4 : partTy Tryd.prog 54 4 = 9 := by kernel_rfl
@[go_sem] theorem plA_54_5 : plA Tryd.prog 54 5 = some (5, 1) := by kernel_rfl
@[go_sem] theorem partTy_54_5 : partTy Tryd.prog 54 5 = 9 := by kernel_rfl
@[go_sem] theorem plA_54_6 : plA Tryd.prog 54 6 = some (6, 1) := by kernel_rfl
@[go_sem] theorem partTy_54_6 : partTy Tryd.prog 54 6 = 9 := by kernel_rfl
@[go_sem] theorem plA_54_7 : plA Tryd.prog 54 7 = some (7, 1) := by kernel_rfl
@[go_sem] theorem partTy_54_7 : partTy Tryd.prog 54 7 = 9 := by kernel_rfl
@[go_sem] theorem tyA_55 : tyA Tryd.prog 55 = some (false, 1) := by kernel_rfl
@[go_sem] theorem bytesA_55 : bytesA Tryd.prog 55 = false := by kernel_rfl
@[go_sem] theorem knownA_55 : knownA Tryd.prog 55 = true := by kernel_rfl
@[go_sem] theorem concA_55 : concA Tryd.prog 55 = true := by kernel_rfl
@[go_sem] theorem ikA_55 : ikA Tryd.prog 55 = none := by kernel_rfl
@[go_sem] theorem bldT_55 : bldT Tryd.prog 55 = none := by kernel_rfl
@[go_sem] theorem zeroA_55 : zeroA Tryd.prog 55 = some [.raw .nilFunc] := by kernel_rfl
@[go_sem] theorem slA_55 : slA Tryd.prog 55 = none := by kernel_rfl
@[go_sem] theorem tyA_56 : tyA Tryd.prog 56 = some (false, 1) := by kernel_rfl
@[go_sem] theorem bytesA_56 : bytesA Tryd.prog 56 = false := by kernel_rfl
@[go_sem] theorem knownA_56 : knownA Tryd.prog 56 = true := by kernel_rfl
@[go_sem] theorem concA_56 : concA Tryd.prog 56 = true := by kernel_rfl
@[go_sem] theorem ikA_56 : ikA Tryd.prog 56 = none := by kernel_rfl
@[go_sem] theorem bldT_56 : bldT Tryd.prog 56 = none := by kernel_rfl
@[go_sem] theorem zeroA_56 : zeroA Tryd.prog 56 = some [.raw .nilFunc] := by kernel_rfl
@[go_sem] theorem slA_56 : slA Tryd.prog 56 = none := by kernel_rfl
@[go_sem] theorem tyA_57 : tyA Tryd.prog 57 = some (false, 1) := by kernel_rfl
@[go_sem] theorem bytesA_57 : bytesA Tryd.prog 57 = false := by kernel_rfl
@[go_sem] theorem knownA_57 : knownA Tryd.prog 57 = true := by kernel_rfl
@[go_sem] theorem concA_57 : concA Tryd.prog 57 = true := by kernel_rfl
@[go_sem] theorem ikA_57 : ikA Tryd.prog 57 = none := by kernel_rfl
@[go_sem] theorem bldT_57 : bldT Tryd.prog 57 = none := by kernel_rfl
@[go_sem] theorem zeroA_57 : zeroA Tryd.prog 57 = some [.raw .nilFunc] := by kernel_rfl
@[go_sem] theorem slA_57 : slA Tryd.prog 57 = none := by kernel_rfl
@[go_sem] theorem tyA_58 : tyA Tryd.prog 58 = some (true, 5) := by kernel_rfl
@[go_sem] theorem bytesA_58 : bytesA Tryd.prog 58 = false := by kernel_rfl
@[go_sem] theorem knownA_58 : knownA Tryd.prog 58 = true := by kernel_rfl
@[go_sem] theorem concA_58 : concA Tryd.prog 58 = true := by kernel_rfl
@[go_sem] theorem ikA_58 : ikA Tryd.prog 58 = none := by kernel_rfl
@[go_sem] theorem bldT_58 : bldT Tryd.prog 58 = none := by kernel_rfl
@[go_sem] theorem zeroA_58 : zeroA Tryd.prog 58 = some [.int .i64 0, .int .i64 0, .int .i64 0, .int .i64 0, .int .i64 0] := by kernel_rfl
@[go_sem] theorem slA_58 : slA Tryd.prog 58 = none := by kernel_rfl
@[go_sem] theorem fsOk_58 : fsOk Tryd.prog 58 = true := by kernel_rfl
@[go_sem] theorem fldA_58_0 : fldA Tryd.prog 58 0 = some 0 := by kernel_rfl
@[go_sem] theorem fpA_58_0 : fpA Tryd.prog 58 0 = some (0, false, 1) := by kernel_rfl
@[go_sem] theorem plA_58_0 : plA Tryd.prog 58 0 = some (0, 1) := by kernel_rfl
@[go_sem] theorem partTy_58_0 : partTy Tryd.prog 58 0 = 3 := by kernel_rfl
@[go_sem] theorem fldA_58_1 : fldA Tryd.prog 58 1 = some 1 := by kernel_rfl
@[go_sem] theorem fpA_58_1 : fpA Tryd.prog 58 1 = some (1, false, 1) := by kernel_rfl
@[go_sem] theorem plA_58_1 : plA Tryd.prog 58 1 = some (1, 1) := by kernel_rfl
@[go_sem] theorem partTy_58_1 : partTy Tryd.prog 58 1 = 3 := by kernel_rfl
@[go_sem] theorem fldA_58_2 : fldA Tryd.prog 58 2 = some 2 := by kernel_rfl
@[go_sem] theorem fpA_58_2 : fpA Tryd.prog 58 2 = some (2, false, 1) := by kernel_rfl
@[go_sem] theorem plA_58_2 : plA Tryd.prog 58 2 = some (2, 1) := by kernel_rfl
@[go_sem] theorem partTy_58_2 : partTy Tryd.prog 58 2 = 3 := by kernel_rfl
@[go_sem] theorem fldA_58_3 : fldA Tryd.prog 58 3 = some 3 := by kernel_rfl
@[go_sem] theorem fpA_58_3 : fpA Tryd.prog 58 3 = some (3, false, 1) := by kernel_rfl
@[go_sem] theorem plA_58_3 : plA Tryd.prog 58 3 = some (3, 1) := by kernel_rfl
@[go_sem] theorem partTy_58_3 : partTy Tryd.prog 58 3 = 3 := by kernel_rfl
@[go_sem] theorem fldA_58_4 : fldA Tryd.prog 58 4 = some 4 := by kernel_rfl
@[go_sem] theorem fpA_58_4 : fpA Tryd.prog 58 4 = some (4, false, 1) := by kernel_rfl
@[go_sem] theorem plA_58_4 : plA Tryd.prog 58 4 = some (4, 1) := by kernel_rfl
@[go_sem] theorem partTy_58_4 : partTy Tryd.prog 58 4 = 3 := by kernel_rfl
@[go_sem] theorem eqKs_58 : eqKs Tryd.prog 58 = some [.int .i64, .int .i64, .int .i64, .int .i64, .int .i64] := by kernel_rfl
@[go_sem] theorem tyA_59 : tyA Tryd.prog 59 = some (false, 1) := by kernel_rfl
@[go_sem] theorem bytesA_59 : bytesA Tryd.prog 59 = false := by kernel_rfl
@[go_sem] theorem knownA_59 : knownA Tryd.prog 59 = true := by kernel_rfl
@[go_sem] theorem concA_59 : concA Tryd.prog 59 = true := by kernel_rfl
@[go_sem] theorem ikA_59 : ikA Tryd.prog 59 = none := by kernel_rfl
@[go_sem] theorem bldT_59 : bldT Tryd.prog 59 = none := by kernel_rfl
@[go_sem] theorem zeroA_59 : zeroA Tryd.prog 59 = some [.raw .nilFunc] := by kernel_rfl
@[go_sem] theorem slA_59 : slA Tryd.prog 59 = none := by kernel_rfl
@[go_sem] theorem tyA_60 : tyA Tryd.prog 60 = some (false, 1) := by kernel_rfl
@[go_sem] theorem bytesA_60 : bytesA Tryd.prog 60 = false := by kernel_rfl
@[go_sem] theorem knownA_60 : knownA Tryd.prog 60 = true := by kernel_rfl
@[go_sem] theorem concA_60 : concA Tryd.prog 60 = true := by kernel_rfl
@[go_sem] theorem ikA_60 : ikA Tryd.prog 60 = none := by kernel_rfl
@[go_sem] theorem bldT_60 : bldT Tryd.prog 60 = none := by kernel_rfl
@[go_sem] theorem zeroA_60 : zeroA Tryd.prog 60 = some [.raw .nilFunc] := by kernel_rfl
@[go_sem] theorem slA_60 : slA Tryd.prog 60 = none := by kernel_rfl
@[go_sem] theorem tyA_61 : tyA Tryd.prog 61 = some (false, 1) := by kernel_rfl
@[go_sem] theorem bytesA_61 : bytesA Tryd.prog 61 = false := by kernel_rfl
@[go_sem] theorem knownA_61 : knownA Tryd.prog 61 = true := by kernel_rfl
@[go_sem] theorem concA_61 : concA Tryd.prog 61 = true := by kernel_rfl
@[go_sem] theorem ikA_61 : ikA Tryd.prog 61 = none := by kernel_rfl
@[go_sem] theorem bldT_61 : bldT Tryd.prog 61 = none := by kernel_rfl
@[go_sem] theorem zeroA_61 : zeroA Tryd.prog 61 = some [.raw .nilFunc] := by kernel_rfl
@[go_sem] theorem slA_61 : slA Tryd.prog 61 = none := by kernel_rfl
@[go_sem] theorem tyA_62 : tyA Tryd.prog 62 = some (false, 1) := by kernel_rfl
@[go_sem] theorem bytesA_62 : bytesA Tryd.prog 62 = false := by kernel_rfl
@[go_sem] theorem knownA_62 : knownA Tryd.prog 62 = true := by kernel_rfl
@[go_sem] theorem concA_62 : concA Tryd.prog 62 = true := by kernel_rfl
@[go_sem] theorem ikA_62 : ikA Tryd.prog 62 = none := by kernel_rfl
@[go_sem] theorem bldT_62 : bldT Tryd.prog 62 = none := by kernel_rfl
@[go_sem] theorem zeroA_62 : zeroA Tryd.prog 62 = some [.raw .nilFunc] := by kernel_rfl
@[go_sem] theorem slA_62 : slA Tryd.prog 62 = none := by kernel_rfl
@[go_sem] theorem tyA_63 : tyA Tryd.prog 63 = some (true, 7) := by kernel_rfl
@[go_sem] theorem bytesA_63 : bytesA Tryd.prog 63 = false := by kernel_rfl
@[go_sem] theorem knownA_63 : knownA Tryd.prog 63 = true := by kernel_rfl
@[go_sem] theorem concA_63 : concA Tryd.prog 63 = true := by kernel_rfl
@[go_sem] theorem ikA_63 : ikA Tryd.prog 63 = none := by kernel_rfl
@[go_sem] theorem bldT_63 : bldT Tryd.prog 63 = none := by kernel_rfl
@[go_sem] theorem zeroA_63 : zeroA Tryd.prog 63 = some [.int .i64 0, .int .i64 0, .int .i64 0, .int .i64 0, .int .i64 0, .int .i64 0, .bool false] := by kernel_rfl
@[go_sem] theorem slA_63 : slA Tryd.prog 63 = none := by kernel_rfl
@[go_sem] theorem fsOk_63 : fsOk Tryd.prog 63 = true := by kernel_rfl
@[go_sem] theorem fldA_63_0 : fldA Tryd.prog 63 0 = some 0 := by kernel_rfl
@[go_sem] theorem fpA_63_0 : fpA Tryd.prog 63 0 = some (0, false, 1) := by kernel_rfl
@[go_sem] theorem plA_63_0 : plA Tryd.prog 63 0 = some (0, 1) := by kernel_rfl
@[go_sem] theorem partTy_63_0 : partTy Tryd.prog 63 0 = 3 := by kernel_rfl
@[go_sem] theorem fldA_63_1 : fldA Tryd.prog 63 1 = some 1 := by kernel_rfl
@[go_sem] theorem fpA_63_1 : fpA Tryd.prog 63 1 = some (1, false, 1) := by kernel_rfl
@[go_sem] theorem plA_63_1 : plA Tryd.prog 63 1 = some (1, 1) := by kernel_rfl
@[go_sem] theorem partTy_63_1 : partTy Tryd.prog 63 1 = 3 := by kernel_rfl
@[go_sem] theorem fldA_63_2 : fldA Tryd.prog 63 2 = some 2 := by kernel_rfl
@[go_sem] theorem fpA_63_2 : fpA Tryd.prog 63 2 = some (2, false, 1) := by kernel_rfl
@[go_sem] theorem plA_63_2 : plA Tryd.prog 63 2 = some (2, 1) := by kernel_rfl
@[go_sem] theorem partTy_63_2 : partTy Tryd.prog 63 2 = 3 := by kernel_rfl
@[go_sem] theorem fldA_63_3 : fldA Tryd.prog 63 3 = some 3 := by kernel_rfl
@[go_sem] theorem fpA_63_3 : fpA Tryd.prog 63 3 = some (3, false, 1) := by kernel_rfl
@[go_sem] theorem plA_63_3 : plA Tryd.prog 63 3 = some (3, 1) := by kernel_rfl
@[go_sem] theorem partTy_63_3 : partTy Tryd.prog 63 3 = 3 := by kernel_rfl
@[go_sem] theorem fldA_63_4 : fldA Tryd.prog 63 4 = some 4 := by kernel_rfl
@[go_sem] theorem fpA_63_4 : fpA Tryd.prog 63 4 = some (4, false, 1) := by kernel_rfl
@[go_sem] theorem plA_63_4 : plA Tryd.prog 63 4 = some (4, 1) := by kernel_rfl
@[go_sem] theorem partTy_63_4 : partTy Tryd.prog 63 4 = 3 := by kernel_rfl
@[go_sem] theorem fldA_63_5 : fldA Tryd.prog 63 5 = some 5 := by kernel_rfl
@[go_sem] theorem fpA_63_5 : fpA Tryd.prog 63 5 = some (5, false, 1) := by kernel_rfl
@[go_sem] theorem plA_63_5 : plA Tryd.prog 63 5 = some (5, 1) := by kernel_rfl
@[go_sem] theorem partTy_63_5 : partTy Tryd.prog 63 5 = 3 := by kernel_rfl
@[go_sem] theorem fldA_63_6 : fldA Tryd.prog 63 6 = some 6 := by kernel_rfl
@[go_sem] theorem fpA_63_6 : fpA Tryd.prog 63 6 = some (6, false, 1) := by kernel_rfl
@[go_sem] theorem plA_63_6 : plA Tryd.prog 63 6 = some (6, 1) := by kernel_rfl
@[go_sem] theorem partTy_63_6 : partTy Tryd.prog 63 6 = 4 := by kernel_rfl
@[go_sem] theorem eqKs_63 : eqKs Tryd.prog 63 = some [.int .i64, .int .i64, .int .i64, .int .i64, .int .i64, .int .i64, .bool] := by kernel_rfl
@[go_sem] theorem tyA_64 : tyA Tryd.prog 64 = some (true, 7) := by kernel_rfl
@[go_sem] theorem bytesA_64 : bytesA Tryd.prog 64 = false := by kernel_rfl
@[go_sem] theorem knownA_64 : knownA Tryd.prog 64 = true := by kernel_rfl
@[go_sem] theorem concA_64 : concA Tryd.prog 64 = true := by kernel_rfl
@[go_sem] theorem ikA_64 : ikA Tryd.prog 64 = none := by kernel_rfl
@[go_sem] theorem bldT_64 : bldT Tryd.prog 64 = none := by kernel_rfl
@[go_sem] theorem zeroA_64 : zeroA Tryd.prog 64 = some [.int .i64 0, .int .i64 0, .int .i64 0, .int .i64 0, .int .i64 0, .int .i64 0, .bool false] := by kernel_rfl
@[go_sem] theorem slA_64 : slA Tryd.prog 64 = none := by kernel_rfl
@[go_sem] theorem fsOk_64 : fsOk Tryd.prog 64 = true := by kernel_rfl
@[go_sem] theorem fldA_64_0 : fldA Tryd.prog 64 0 = some 0 := by kernel_rfl
@[go_sem] theorem fpA_64_0 : fpA Tryd.prog 64 0 = some (0, false, 1) := by kernel_rfl
@[go_sem] theorem plA_64_0 : plA Tryd.prog 64 0 = some (0, 1) := by kernel_rfl
@[go_sem] theorem partTy_64_0 : partTy Tryd.prog 64 0 = 3 := by kernel_rfl
@[go_sem] theorem fldA_64_1 : fldA Tryd.prog 64 1 = some 1 := by kernel_rfl
@[go_sem] theorem fpA_64_1 : fpA Tryd.prog 64 1 = some (1, false, 1) := by kernel_rfl
@[go_sem] theorem plA_64_1 : plA Tryd.prog 64 1 = some (1, 1) := by kernel_rfl
@[go_sem] theorem partTy_64_1 : partTy Tryd.prog 64 1 = 3 := by kernel_rfl
@[go_sem] theorem fldA_64_2 : fldA Tryd.prog 64 2 = some 2 := by kernel_rfl
@[go_sem] theorem fpA_64_2 : fpA Tryd.prog 64 2 = some (2, false, 1) := by kernel_rfl
@[go_sem] theorem plA_64_2 : plA Tryd.prog 64 2 = some (2, 1) := by kernel_rfl
@[go_sem] theorem partTy_64_2 : partTy Tryd.prog 64 2 = 3 := by kernel_rfl
@[go_sem] theorem fldA_64_3 : fldA Tryd.prog 64 3 = some 3 := by kernel_rfl
@[go_sem] theorem fpA_64_3 : fpA Tryd.prog 64 3 = some (3, false, 1) := by kernel_rfl
@[go_sem] theorem plA_64_3 : plA Tryd.prog 64 3 = some (3, 1) := by kernel_rfl
@[go_sem] theorem partTy_64_3 : partTy Tryd.prog 64 3 = 3 := by kernel_rfl
@[go_sem] theorem fldA_64_4 : fldA Tryd.prog 64 4 = some 4 := by kernel_rfl
@[go_sem] theorem fpA_64_4 : fpA Tryd.prog 64 4 = some (4, false, 1) := by kernel_rfl
@[go_sem] theorem plA_64_4 : plA Tryd.prog 64 4 = some (4, 1) := by kernel_rfl
@[go_sem] theorem partTy_64_4 : partTy Tryd.prog 64 4 = 3 := by kernel_rfl
@[go_sem] theorem fldA_64_5 : fldA Tryd.prog 64 5 = some 5 := by kernel_rfl
@[go_sem] theorem fpA_64_5 : fpA Tryd.prog 64 5 = some (5, false, 1) := by kernel_rfl
@[go_sem] theorem plA_64_5 : plA Tryd.prog 64 5 = some (5, 1) := by kernel_rfl
@[go_sem] theorem partTy_64_5 : partTy Tryd.prog 64 5 = 3 := by kernel_rfl
@[go_sem] theorem fldA_64_6 : fldA Tryd.prog 64 6 = some 6 := by kernel_rfl
@[go_sem] theorem fpA_64_6 : fpA Tryd.prog 64 6 = some (6, false, 1) := by kernel_rfl
@[go_sem] theorem plA_64_6 : plA Tryd.prog 64 6 = some (6, 1) := by kernel_rfl
@[go_sem] theorem partTy_64_6 : partTy Tryd.prog 64 6 = 4 := by kernel_rfl
@[go_sem] theorem eqKs_64 : eqKs Tryd.prog 64 = some [.int .i64, .int .i64, .int .i64, .int .i64, .int .i64, .int .i64, .bool] := by kernel_rfl
@[go_sem] theorem tyA_65 : tyA Tryd.prog 65 = some (false, 1) := by kernel_rfl
@[go_sem] theorem bytesA_65 : bytesA Tryd.prog 65 = false := by kernel_rfl
@[go_sem] theorem knownA_65 : knownA Tryd.prog 65 = true := by kernel_rfl
@[go_sem] theorem concA_65 : concA Tryd.prog 65 = true := by kernel_rfl
@[go_sem] theorem ikA_65 : ikA Tryd.prog 65 = none := by kernel_rfl
@[go_sem] theorem bldT_65 : bldT Tryd.prog 65 = none := by kernel_rfl
@[go_sem] theorem zeroA_65 : zeroA Tryd.prog 65 = some [.raw .nilFunc] := by kernel_rfl
@[go_sem] theorem slA_65 : slA Tryd.prog 65 = none := by kernel_rfl
@[go_sem] theorem tyA_66 : tyA Tryd.prog 66 = some (true, 3) := by kernel_rfl
@[go_sem] theorem bytesA_66 : bytesA Tryd.prog 66 = false := by kernel_rfl
@[go_sem] theorem knownA_66 : knownA Tryd.prog 66 = true := by kernel_rfl
@[go_sem] theorem concA_66 : concA Tryd.prog 66 = true := by kernel_rfl
@[go_sem] theorem ikA_66 : ikA Tryd.prog 66 = none := by kernel_rfl
@[go_sem] theorem bldT_66 : bldT Tryd.prog 66 = none := by kernel_rfl
@[go_sem] theorem zeroA_66 : zeroA Tryd.prog 66 = some [.raw .nilFunc, .raw .nilFunc, .raw .nilFunc] := by kernel_rfl
@[go_sem] theorem slA_66 : slA Tryd.prog 66 = none := by kernel_rfl
@[go_sem] theorem arA_66 : arA Tryd.prog 66 = some (3, 1) := by kernel_rfl
@[go_sem] theorem avA_66 : avA Tryd.prog 66 = some (3, false, 1) := by kernel_rfl
@[go_sem] theorem fsOk_66 : fsOk Tryd.prog 66 = true := by kernel_rfl
@[go_sem] theorem plA_66_0 : plA Tryd.prog 66 0 = some (0, 1) := by kernel_rfl
@[go_sem] theorem partTy_66_0 : partTy Tryd.prog 66 0 = 38 := by kernel_rfl
@[go_sem] theorem plA_66_1 : plA Tryd.prog 66 1 = some (1, 1) := by kernel_rfl
@[go_sem] theorem partTy_66_1 : partTy Tryd.prog 66 1 = 38 := by kernel_rfl
@[go_sem] theorem plA_66_2 : plA Tryd.prog 66 2 = some (2, 1) := by kernel_rfl
@[go_sem] theorem partTy_66_2 : partTy Tryd.prog 66 2 = 38 := by kernel_rfl
@[go_sem] theorem tyA_67 : tyA Tryd.prog 67 = some (false, 1) := by kernel_rfl
@[go_sem] theorem bytesA_67 : bytesA Tryd.prog 67 = false := by kernel_rfl
@[go_sem] theorem knownA_67 : knownA Tryd.prog 67 = true := by kernel_rfl
@[go_sem] theorem concA_67 : concA Tryd.prog 67 = true := by kernel_rfl
@[go_sem] theorem ikA_67 : ikA Tryd.prog 67 = none := by kernel_rfl
@[go_sem] theorem bldT_67 : bldT Tryd.prog 67 = none := by kernel_rfl
@[go_sem] theorem zeroA_67 : zeroA Tryd.prog 67 = some [.raw .nilFunc] := by kernel_rfl
@[go_sem] theorem slA_67 : slA Tryd.prog 67 = none := by kernel_rfl
@[go_sem] theorem tyA_68 : tyA Tryd.prog 68 = some (false, 1) := by kernel_rfl
@[go_sem] theorem bytesA_68 : bytesA Tryd.prog 68 = false := by kernel_rfl
@[go_sem] theorem knownA_68 : knownA Tryd.prog 68 = true := by kernel_rfl
@[go_sem] theorem concA_68 : concA Tryd.prog 68 = true := by kernel_rfl
@[go_sem] theorem ikA_68 : ikA Tryd.prog 68 = none := by kernel_rfl
@[go_sem] theorem bldT_68 : bldT Tryd.prog 68 = none := by kernel_rfl
@[go_sem] theorem zeroA_68 : zeroA Tryd.prog 68 = some [.raw .nilFunc] := by kernel_rfl
@[go_sem] theorem slA_68 : slA Tryd.prog 68 = none := by kernel_rfl
@[go_sem] theorem tyA_69 : tyA Tryd.prog 69 = some (false, 1) := by kernel_rfl
@[go_sem] theorem bytesA_69 : bytesA Tryd.prog 69 = false := by kernel_rfl
@[go_sem] theorem knownA_69 : knownA Tryd.prog 69 = true := by kernel_rfl
@[go_sem] theorem concA_69 : concA Tryd.prog 69 = true := by kernel_rfl
@[go_sem] theorem ikA_69 : ikA Tryd.prog 69 = none := by kernel_rfl
@[go_sem] theorem bldT_69 : bldT Tryd.prog 69 = none := by kernel_rfl
@[go_sem] theorem zeroA_69 : zeroA Tryd.prog 69 = some [.raw .nilFunc] := by kernel_rfl
@[go_sem] theorem slA_69 : slA Tryd.prog 69 = none := by kernel_rfl
@[go_sem] theorem tyA_70 : tyA Tryd.prog 70 = some (false, 1) := by kernel_rfl
@[go_sem] theorem bytesA_70 : bytesA Tryd.prog 70 = false := by kernel_rfl
@[go_sem] theorem knownA_70 : knownA Tryd.prog 70 = true := by kernel_rfl
@[go_sem] theorem concA_70 : concA Tryd.prog 70 = true := by kernel_rfl
@[go_sem] theorem ikA_70 : ikA Tryd.prog 70 = none := by kernel_rfl
@[go_sem] theorem bldT_70 : bldT Tryd.prog 70 = none := by kernel_rfl
@[go_sem] theorem zeroA_70 : zeroA Tryd.prog 70 = some [.raw (.pointer none)] := by kernel_rfl
@[go_sem] theorem slA_70 : slA Tryd.prog 70 = none := by kernel_rfl
@[go_sem] theorem tyA_71 : tyA Tryd.prog 71 = some (false, 1) := by kernel_rfl
@[go_sem] theorem bytesA_71 : bytesA Tryd.prog 71 = false := by kernel_rfl
@[go_sem] theorem knownA_71 : knownA Tryd.prog 71 = true := by kernel_rfl
@[go_sem] theorem concA_71 : concA Tryd.prog 71 = true := by kernel_rfl
@[go_sem] theorem ikA_71 : ikA Tryd.prog 71 = none := by kernel_rfl
@[go_sem] theorem bldT_71 : bldT Tryd.prog 71 = none := by kernel_rfl
@[go_sem] theorem zeroA_71 : zeroA Tryd.prog 71 = some [.raw .nilFunc] := by kernel_rfl
@[go_sem] theorem slA_71 : slA Tryd.prog 71 = none := by kernel_rfl
@[go_sem] theorem tyA_72 : tyA Tryd.prog 72 = some (false, 1) := by kernel_rfl
@[go_sem] theorem bytesA_72 : bytesA Tryd.prog 72 = false := by kernel_rfl
@[go_sem] theorem knownA_72 : knownA Tryd.prog 72 = true := by kernel_rfl
@[go_sem] theorem concA_72 : concA Tryd.prog 72 = true := by kernel_rfl
@[go_sem] theorem ikA_72 : ikA Tryd.prog 72 = none := by kernel_rfl
@[go_sem] theorem bldT_72 : bldT Tryd.prog 72 = none := by kernel_rfl
@[go_sem] theorem zeroA_72 : zeroA Tryd.prog 72 = some [.raw .nilFunc] := by kernel_rfl
@[go_sem] theorem slA_72 : slA Tryd.prog 72 = none := by kernel_rfl
@[go_sem] theorem tyA_73 : tyA Tryd.prog 73 = some (false, 1) := by kernel_rfl
@[go_sem] theorem bytesA_73 : bytesA Tryd.prog 73 = false := by kernel_rfl
@[go_sem] theorem knownA_73 : knownA Tryd.prog 73 = true := by kernel_rfl
@[go_sem] theorem concA_73 : concA Tryd.prog 73 = true := by kernel_rfl
@[go_sem] theorem ikA_73 : ikA Tryd.prog 73 = none := by kernel_rfl
@[go_sem] theorem bldT_73 : bldT Tryd.prog 73 = none := by kernel_rfl
@[go_sem] theorem zeroA_73 : zeroA Tryd.prog 73 = some [.raw .nilFunc] := by kernel_rfl
@[go_sem] theorem slA_73 : slA Tryd.prog 73 = none := by kernel_rfl
@[go_sem] theorem tyA_74 : tyA Tryd.prog 74 = some (false, 1) := by kernel_rfl
@[go_sem] theorem bytesA_74 : bytesA Tryd.prog 74 = false := by kernel_rfl
@[go_sem] theorem knownA_74 : knownA Tryd.prog 74 = true := by kernel_rfl
@[go_sem] theorem concA_74 : concA Tryd.prog 74 = true := by kernel_rfl
@[go_sem] theorem ikA_74 : ikA Tryd.prog 74 = none := by kernel_rfl
@[go_sem] theorem bldT_74 : bldT Tryd.prog 74 = none := by kernel_rfl
@[go_sem] theorem zeroA_74 : zeroA Tryd.prog 74 = some [.raw (.map none)] := by kernel_rfl
@[go_sem] theorem slA_74 : slA Tryd.prog 74 = none := by kernel_rfl
@[go_sem] theorem tyA_75 : tyA Tryd.prog 75 = some (true, 4) := by kernel_rfl
@[go_sem] theorem bytesA_75 : bytesA Tryd.prog 75 = false := by kernel_rfl
@[go_sem] theorem knownA_75 : knownA Tryd.prog 75 = true := by kernel_rfl
@[go_sem] theorem concA_75 : concA Tryd.prog 75 = true := by kernel_rfl
@[go_sem] theorem ikA_75 : ikA Tryd.prog 75 = none := by kernel_rfl
@[go_sem] theorem bldT_75 : bldT Tryd.prog 75 = none := by kernel_rfl
@[go_sem] theorem zeroA_75 : zeroA Tryd.prog 75 = some [.int .i64 0, .int .i64 0, .int .i64 0, .int .i64 0] := by kernel_rfl
@[go_sem] theorem slA_75 : slA Tryd.prog 75 = none := by kernel_rfl
@[go_sem] theorem fsOk_75 : fsOk Tryd.prog 75 = true := by kernel_rfl
@[go_sem] theorem fldA_75_0 : fldA Tryd.prog 75 0 = some 0 := by kernel_rfl
@[go_sem] theorem fpA_75_0 : fpA Tryd.prog 75 0 = some (0, false, 1) := by kernel_rfl
@[go_sem] theorem plA_75_0 : plA Tryd.prog 75 0 = some (0, 1) := by kernel_rfl
@[go_sem] theorem partTy_75_0 : partTy Tryd.prog 75 0 = 3 := by kernel_rfl
@[go_sem] theorem fldA_75_1 : fldA Tryd.prog 75 1 = some 1 := by kernel_rfl
@[go_sem] theorem fpA_75_1 : fpA Tryd.prog 75 1 = some (1, false, 1) := by kernel_rfl
@[go_sem] theorem plA_75_1 : plA Tryd.prog 75 1 = some (1, 1) := by kernel_rfl
@[go_sem] theorem partTy_75_1 : partTy Tryd.prog 75 1 = 3 := by kernel_rfl
@[go_sem] theorem fldA_75_2 : fldA Tryd.prog 75 2 = some 2 := by kernel_rfl
@[go_sem] theorem fpA_75_2 : fpA Tryd.prog 75 2 = some (2, false, 1) := by kernel_rfl
@[go_sem] theorem plA_75_2 : plA Tryd.prog 75 2 = some (2, 1) := by kernel_rfl
@[go_sem] theorem partTy_75_2 : partTy Tryd.prog 75 2 = 3 := by kernel_rfl
@[go_sem] theorem fldA_75_3 : fldA Tryd.prog 75 3 = some 3 := by kernel_rfl
@[go_sem] theorem fpA_75_3 : fpA Tryd.prog 75 3 = some (3, false, 1) := by kernel_rfl
@[go_sem] theorem plA_75_3 : plA Tryd.prog 75 3 = some (3, 1) := by kernel_rfl
@[go_sem] theorem partTy_75_3 : partTy Tryd.prog 75 3 = 3 := by kernel_rfl
@[go_sem] theorem eqKs_75 : eqKs Tryd.prog 75 = some [.int .i64, .int .i64, .int .i64, .int .i64] := by kernel_rfl
@[go_sem] theorem tyA_76 : tyA Tryd.prog 76 = some (true, 4) := by kernel_rfl
@[go_sem] theorem bytesA_76 : bytesA Tryd.prog 76 = false := by kernel_rfl
@[go_sem] theorem knownA_76 : knownA Tryd.prog 76 = true := by kernel_rfl
@[go_sem] theorem concA_76 : concA Tryd.prog 76 = true := by kernel_rfl
@[go_sem] theorem ikA_76 : ikA Tryd.prog 76 = none := by kernel_rfl
@[go_sem] theorem bldT_76 : bldT Tryd.prog 76 = none := by kernel_rfl
@[go_sem] theorem zeroA_76 : zeroA Tryd.prog 76 = some [.int .i64 0, .int .i64 0, .int .i64 0, .int .i64 0] := by kernel_rfl
@[go_sem] theorem slA_76 : slA Tryd.prog 76 = none := by kernel_rfl
@[go_sem] theorem fsOk_76 : fsOk Tryd.prog 76 = true := by kernel_rfl
@[go_sem] theorem fldA_76_0 : fldA Tryd.prog 76 0 = some 0 := by kernel_rfl
@[go_sem] theorem fpA_76_0 : fpA Tryd.prog 76 0 = some (0, false, 1) := by kernel_rfl
@[go_sem] theorem plA_76_0 : plA Tryd.prog 76 0 = some (0, 1) := by kernel_rfl
@[go_sem] theorem partTy_76_0 : partTy Tryd.prog 76 0 = 3 := by kernel_rfl
@[go_sem] theorem fldA_76_1 : fldA Tryd.prog 76 1 = some 1 := by kernel_rfl
@[go_sem] theorem fpA_76_1 : fpA Tryd.prog 76 1 = some (1, false, 1) := by kernel_rfl
@[go_sem] theorem plA_76_1 : plA Tryd.prog 76 1 = some (1, 1) := by kernel_rfl
@[go_sem] theorem partTy_76_1 : partTy Tryd.prog 76 1 = 3 := by kernel_rfl
@[go_sem] theorem fldA_76_2 : fldA Tryd.prog 76 2 = some 2 := by kernel_rfl
@[go_sem] theorem fpA_76_2 : fpA Tryd.prog 76 2 = some (2, false, 1) := by kernel_rfl
@[go_sem] theorem plA_76_2 : plA Tryd.prog 76 2 = some (2, 1) := by kernel_rfl
@[go_sem] theorem partTy_76_2 : partTy Tryd.prog 76 2 = 3 := by kernel_rfl
@[go_sem] theorem fldA_76_3 : fldA Tryd.prog 76 3 = some 3 := by kernel_rfl
@[go_sem] theorem fpA_76_3 : fpA Tryd.prog 76 3 = some (3, false, 1) := by kernel_rfl
@[go_sem] theorem plA_76_3 : plA Tryd.prog 76 3 = some (3, 1) := by kernel_rfl
@[go_sem] theorem partTy_76_3 : partTy Tryd.prog 76 3 = 3 := by kernel_rfl
@[go_sem] theorem eqKs_76 : eqKs Tryd.prog 76 = some [.int .i64, .int .i64, .int .i64, .int .i64] := by kernel_rfl
@[go_sem] theorem tyA_77 : tyA Tryd.prog 77 = some (true, 2) := by kernel_rfl
@[go_sem] theorem bytesA_77 : bytesA Tryd.prog 77 = false := by kernel_rfl
@[go_sem] theorem knownA_77 : knownA Tryd.prog 77 = true := by kernel_rfl
@[go_sem] theorem concA_77 : concA Tryd.prog 77 = true := by kernel_rfl
@[go_sem] theorem ikA_77 : ikA Tryd.prog 77 = none := by kernel_rfl
@[go_sem] theorem bldT_77 : bldT Tryd.prog 77 = none := by kernel_rfl
@[go_sem] theorem zeroA_77 : zeroA Tryd.prog 77 = some [.int .i64 0, .int .i64 0] := by kernel_rfl
@[go_sem] theorem slA_77 : slA Tryd.prog 77 = none := by kernel_rfl
@[go_sem] theorem fsOk_77 : fsOk Tryd.prog 77 = true := by kernel_rfl
@[go_sem] theorem fldA_77_0 : fldA Tryd.prog 77 0 = some 0 := by kernel_rfl
@[go_sem] theorem fpA_77_0 : fpA Tryd.prog 77 0 = some (0, false, 1) := by kernel_rfl
@[go_sem] theorem plA_77_0 : plA Tryd.prog 77 0 = some (0, 1) := by kernel_rfl
@[go_sem] theorem partTy_77_0 : partTy Tryd.prog 77 0 = 3 := by kernel_rfl
@[go_sem] theorem fldA_77_1 : fldA Tryd.prog 77 1 = some 1 := by kernel_rfl
@[go_sem] theorem fpA_77_1 : fpA Tryd.prog 77 1 = some (1, false, 1) := by kernel_rfl
@[go_sem] theorem plA_77_1 : plA Tryd.prog 77 1 = some (1, 1) := by kernel_rfl
@[go_sem] theorem partTy_77_1 : partTy Tryd.prog 77 1 = 3 := by kernel_rfl
@[go_sem] theorem eqKs_77 : eqKs Tryd.prog 77 = some [.int .i64, .int .i64] := by kernel_rfl
@[go_sem] theorem tyA_78 : tyA Tryd.prog 78 = some (true, 2) := by kernel_rfl
@[go_sem] theorem bytesA_78 : bytesA Tryd.prog 78 = false := by kernel_rfl
@[go_sem] theorem knownA_78 : knownA Tryd.prog 78 = true := by kernel_rfl
@[go_sem] theorem concA_78 : concA Tryd.prog 78 = true := by kernel_rfl
@[go_sem] theorem ikA_78 : ikA Tryd.prog 78 = none := by kernel_rfl
@[go_sem] theorem bldT_78 : bldT Tryd.prog 78 = none := by kernel_rfl
@[go_sem] theorem zeroA_78 : zeroA Tryd.prog 78 = some [.int .i64 0, .int .i64 0] := by kernel_rfl
@[go_sem] theorem slA_78 : slA Tryd.prog 78 = none := by kernel_rfl
@[go_sem] theorem fsOk_78 : fsOk Tryd.prog 78 = true := by kernel_rfl
@[go_sem] theorem fldA_78_0 : fldA Tryd.prog 78 0 = some 0 := by kernel_rfl
@[go_sem] theorem fpA_78_0 : fpA Tryd.prog 78 0 = some (0, false, 1) := by kernel_rfl
@[go_sem] theorem plA_78_0 : plA Tryd.prog 78 0 = some (0, 1) := by kernel_rfl
@[go_sem] theorem partTy_78_0 : partTy Tryd.prog 78 0 = 3 := by kernel_rfl
@[go_sem] theorem fldA_78_1 : fldA Tryd.prog 78 1 = some 1 := by kernel_rfl
@[go_sem] theorem fpA_78_1 : fpA Tryd.prog 78 1 = some (1, false, 1) := by kernel_rfl
@[go_sem] theorem plA_78_1 : plA Tryd.prog 78 1 = some (1, 1) := by kernel_rfl
@[go_sem] theorem partTy_78_1 : partTy Tryd.prog 78 1 = 3 := by kernel_rfl
@[go_sem] theorem eqKs_78 : eqKs Tryd.prog 78 = some [.int .i64, .int .i64] := by kernel_rfl
@[go_sem] theorem tyA_79 : tyA Tryd.prog 79 = some (false, 1) := by kernel_rfl
@[go_sem] theorem bytesA_79 : bytesA Tryd.prog 79 = false := by kernel_rfl
@[go_sem] theorem knownA_79 : knownA Tryd.prog 79 = true := by kernel_rfl
@[go_sem] theorem concA_79 : concA Tryd.prog 79 = true := by kernel_rfl
@[go_sem] theorem ikA_79 : ikA Tryd.prog 79 = none := by kernel_rfl
@[go_sem] theorem bldT_79 : bldT Tryd.prog 79 = none := by kernel_rfl
@[go_sem] theorem zeroA_79 : zeroA Tryd.prog 79 = some [.raw .nilFunc] := by kernel_rfl
@[go_sem] theorem slA_79 : slA Tryd.prog 79 = none := by kernel_rfl
@[go_sem] theorem tyA_80 : tyA Tryd.prog 80 = some (false, 1) := by kernel_rfl
@[go_sem] theorem bytesA_80 : bytesA Tryd.prog 80 = false := by kernel_rfl
@[go_sem] theorem knownA_80 : knownA Tryd.prog 80 = true := by kernel_rfl
@[go_sem] theorem concA_80 : concA Tryd.prog 80 = true := by kernel_rfl
@[go_sem] theorem ikA_80 : ikA Tryd.prog 80 = none := by kernel_rfl
@[go_sem] theorem bldT_80 : bldT Tryd.prog 80 = none := by kernel_rfl
@[go_sem] theorem zeroA_80 : zeroA Tryd.prog 80 = some [.raw .nilFunc] := by kernel_rfl
@[go_sem] theorem slA_80 : slA Tryd.prog 80 = none := by kernel_rfl
@[go_sem] theorem tyA_81 : tyA Tryd.prog 81 = some (false, 1) := by kernel_rfl
@[go_sem] theorem bytesA_81 : bytesA Tryd.prog 81 = false := by kernel_rfl
@[go_sem] theorem knownA_81 : knownA Tryd.prog 81 = true := by kernel_rfl
@[go_sem] theorem concA_81 : concA Tryd.prog 81 = true := by kernel_rfl
@[go_sem] theorem ikA_81 : ikA Tryd.prog 81 = none := by kernel_rfl
@[go_sem] theorem bldT_81 : bldT Tryd.prog 81 = none := by kernel_rfl
@[go_sem] theorem zeroA_81 : zeroA Tryd.prog 81 = some [.raw .nilFunc] := by kernel_rfl
@[go_sem] theorem slA_81 : slA Tryd.prog 81 = none := by kernel_rfl
@[go_sem] theorem tyA_82 : tyA Tryd.prog 82 = some (true, 2) := by kernel_rfl
@[go_sem] theorem bytesA_82 : bytesA Tryd.prog 82 = false := by kernel_rfl
@[go_sem] theorem knownA_82 : knownA Tryd.prog 82 = true := by kernel_rfl
@[go_sem] theorem concA_82 : concA Tryd.prog 82 = true := by kernel_rfl
@[go_sem] theorem ikA_82 : ikA Tryd.prog 82 = none := by kernel_rfl
@[go_sem] theorem bldT_82 : bldT Tryd.prog 82 = none := by kernel_rfl
@[go_sem] theorem zeroA_82 : zeroA Tryd.prog 82 = some [.int .i64 0, .int .i64 0] := by kernel_rfl
@[go_sem] theorem slA_82 : slA Tryd.prog 82 = none := by kernel_rfl
@[go_sem] theorem fsOk_82 : fsOk Tryd.prog 82 = true := by kernel_rfl
@[go_sem] theorem fldA_82_0 : fldA Tryd.prog 82 0 = some 0 := by kernel_rfl
@[go_sem] theorem fpA_82_0 : fpA Tryd.prog 82 0 = some (0, false, 1) := by kernel_rfl
@[go_sem] theorem plA_82_0 : plA Tryd.prog 82 0 = some (0, 1) := by kernel_rfl
@[go_sem] theorem partTy_82_0 : partTy Tryd.prog 82 0 = 3 := by kernel_rfl
@[go_sem] theorem fldA_82_1 : fldA Tryd.prog 82 1 = some 1 := by kernel_rfl
@[go_sem] theorem fpA_82_1 : fpA Tryd.prog 82 1 = some (1, false, 1) := by kernel_rfl
@[go_sem] theorem plA_82_1 : plA Tryd.prog 82 1 = some (1, 1) := by kernel_rfl
@[go_sem] theorem partTy_82_1 : partTy Tryd.prog 82 1 = 3 := by kernel_rfl
@[go_sem] theorem eqKs_82 : eqKs Tryd.prog 82 = some [.int .i64, .int .i64] := by kernel_rfl
@[go_sem] theorem tyA_83 : tyA Tryd.prog 83 = some (true, 2) := by kernel_rfl
@[go_sem] theorem bytesA_83 : bytesA Tryd.prog 83 = false := by kernel_rfl
@[go_sem] theorem knownA_83 : knownA Tryd.prog 83 = true := by kernel_rfl
@[go_sem] theorem concA_83 : concA Tryd.prog 83 = true := by kernel_rfl
@[go_sem] theorem ikA_83 : ikA Tryd.prog 83 = none := by kernel_rfl
@[go_sem] theorem bldT_83 : bldT Tryd.prog 83 = none := by kernel_rfl
@[go_sem] theorem zeroA_83 : zeroA Tryd.prog 83 = some [.int .i64 0, .int .i64 0] := by kernel_rfl
@[go_sem] theorem slA_83 : slA Tryd.prog 83 = none := by kernel_rfl
@[go_sem] theorem fsOk_83 : fsOk Tryd.prog 83 = true := by kernel_rfl
@[go_sem] theorem fldA_83_0 : fldA Tryd.prog 83 0 = some 0 := by kernel_rfl
@[go_sem] theorem fpA_83_0 : fpA Tryd.prog 83 0 = some (0, false, 1) := by kernel_rfl
@[go_sem] theorem plA_83_0 : plA Tryd.prog 83 0 = some (0, 1) := by kernel_rfl
@[go_sem] theorem partTy_83_0 : partTy Tryd.prog 83 0 = 3 := by kernel_rfl
@[go_sem] theorem fldA_83_1 : fldA Tryd.prog 83 1 = some 1 := by kernel_rfl
@[go_sem] theorem fpA_83_1 : fpA Tryd.prog 83 1 = some (1, false, 1) := by kernel_rfl
@[go_sem] theorem plA_83_1 : plA Tryd.prog 83 1 = some (1, 1) := by kernel_rfl
@[go_sem] theorem partTy_83_1 : partTy Tryd.prog 83 1 = 3 := by kernel_rfl
@[go_sem] theorem eqKs_83 : eqKs Tryd.prog 83 = some [.int .i64, .int .i64] := by kernel_rfl
@[go_sem] theorem tyA_85 : tyA Tryd.prog 85 = some (false, 1) := by kernel_rfl
@[go_sem] theorem bytesA_85 : bytesA Tryd.prog 85 = false := by kernel_rfl
@[go_sem] theorem knownA_85 : knownA Tryd.prog 85 = true := by kernel_rfl
@[go_sem] theorem concA_85 : concA Tryd.prog 85 = true := by kernel_rfl
@[go_sem] theorem ikA_85 : ikA Tryd.prog 85 = none := by kernel_rfl
@[go_sem] theorem bldT_85 : bldT Tryd.prog 85 = none := by kernel_rfl
@[go_sem] theorem zeroA_85 : zeroA Tryd.prog 85 = some [.raw .nilFunc] := by kernel_rfl
@[go_sem] theorem slA_85 : slA Tryd.prog 85 = none := by kernel_rfl
@[go_sem] theorem tyA_86 : tyA Tryd.prog 86 = some (true, 2) := by kernel_rfl
@[go_sem] theorem bytesA_86 : bytesA Tryd.prog 86 = false := by kernel_rfl
@[go_sem] theorem knownA_86 : knownA Tryd.prog 86 = true := by kernel_rfl
@[go_sem] theorem concA_86 : concA Tryd.prog 86 = true := by kernel_rfl
@[go_sem] theorem ikA_86 : ikA Tryd.prog 86 = none := by kernel_rfl
@[go_sem] theorem bldT_86 : bldT Tryd.prog 86 = none := by kernel_rfl
@[go_sem] theorem zeroA_86 : zeroA Tryd.prog 86 = some [.int .i64 0, .int .i64 0] := by kernel_rfl
@[go_sem] theorem slA_86 : slA Tryd.prog 86 = none := by kernel_rfl
@[go_sem] theorem fsOk_86 : fsOk Tryd.prog 86 = true := by kernel_rfl
@[go_sem] theorem fldA_86_0 : fldA Tryd.prog 86 0 = some 0 := by kernel_rfl
@[go_sem] theorem fpA_86_0 : fpA Tryd.prog 86 0 = some (0, false, 1) := by kernel_rfl
@[go_sem] theorem plA_86_0 : plA Tryd.prog 86 0 = some (0, 1) := by kernel_rfl
@[go_sem] theorem partTy_86_0 : partTy Tryd.prog 86 0 = 3 := by kernel_rfl
@[go_sem] theorem fldA_86_1 : fldA Tryd.prog 86 1 = some 1 := by kernel_rfl
@[go_sem] theorem fpA_86_1 : fpA Tryd.prog 86 1 = some (1, false, 1) := by kernel_rfl
@[go_sem] theorem plA_86_1 : plA Tryd.prog 86 1 = some (1, 1) := by kernel_rfl
@[go_sem] theorem partTy_86_1 : partTy Tryd.prog 86 1 = 3 := by kernel_rfl
@[go_sem] theorem eqKs_86 : eqKs Tryd.prog 86 = some [.int .i64, .int .i64] := by kernel_rfl
@[go_sem] theorem tyA_87 : tyA Tryd.prog 87 = some (true, 2) := by kernel_rfl
@[go_sem] theorem bytesA_87 : bytesA Tryd.prog 87 = false := by kernel_rfl
@[go_sem] theorem knownA_87 : knownA Tryd.prog 87 = true := by kernel_rfl
@[go_sem] theorem concA_87 : concA Tryd.prog 87 = true := by kernel_rfl
@[go_sem] theorem ikA_87 : ikA Tryd.prog 87 = none := by kernel_rfl
@[go_sem] theorem bldT_87 : bldT Tryd.prog 87 = none := by kernel_rfl
@[go_sem] theorem zeroA_87 : zeroA Tryd.prog 87 = some [.int .i64 0, .int .i64 0] := by kernel_rfl
@[go_sem] theorem slA_87 : slA Tryd.prog 87 = none := by kernel_rfl
@[go_sem] theorem fsOk_87 : fsOk Tryd.prog 87 = true := by kernel_rfl
@[go_sem] theorem fldA_87_0 : fldA Tryd.prog 87 0 = some 0 := by kernel_rfl
@[go_sem] theorem fpA_87_0 : fpA Tryd.prog 87 0 = some (0, false, 1) := by kernel_rfl
@[go_sem] theorem plA_87_0 : plA Tryd.prog 87 0 = some (0, 1) := by kernel_rfl
@[go_sem] theorem partTy_87_0 : partTy Tryd.prog 87 0 = 3 := by kernel_rfl
@[go_sem] theorem fldA_87_1 : fldA Tryd.prog 87 1 = some 1 := by kernel_rfl
@[go_sem] theorem fpA_87_1 : fpA Tryd.prog 87 1 = some (1, false, 1) := by kernel_rfl
@[go_sem] theorem plA_87_1 : plA Tryd.prog 87 1 = some (1, 1) := by kernel_rfl
@[go_sem] theorem partTy_87_1 : partTy Tryd.prog 87 1 = 3 := by kernel_rfl
@[go_sem] theorem eqKs_87 : eqKs Tryd.prog 87 = some [.int .i64, .int .i64] := by kernel_rfl
@[go_sem] theorem tyA_88 : tyA Tryd.prog 88 = some (false, 1) := by kernel_rfl
@[go_sem] theorem bytesA_88 : bytesA Tryd.prog 88 = false := by kernel_rfl
@[go_sem] theorem knownA_88 : knownA Tryd.prog 88 = true := by kernel_rfl
@[go_sem] theorem concA_88 : concA Tryd.prog 88 = true := by kernel_rfl
@[go_sem] theorem ikA_88 : ikA Tryd.prog 88 = none := by kernel_rfl
@[go_sem] theorem bldT_88 : bldT Tryd.prog 88 = none := by kernel_rfl
@[go_sem] theorem zeroA_88 : zeroA Tryd.prog 88 = some [.raw .nilFunc] := by kernel_rfl
@[go_sem] theorem slA_88 : slA Tryd.prog 88 = none := by kernel_rfl
@[go_sem] theorem tyA_89 : tyA Tryd.prog 89 = some (false, 1) := by kernel_rfl
@[go_sem] theorem bytesA_89 : bytesA Tryd.prog 89 = false := by kernel_rfl
@[go_sem] theorem knownA_89 : knownA Tryd.prog 89 = true := by kernel_rfl
@[go_sem] theorem concA_89 : concA Tryd.prog 89 = true := by kernel_rfl
@[go_sem] theorem ikA_89 : ikA Tryd.prog 89 = none := by kernel_rfl
@[go_sem] theorem bldT_89 : bldT Tryd.prog 89 = none := by kernel_rfl
@[go_sem] theorem zeroA_89 : zeroA Tryd.prog 89 = some [.raw (.pointer none)] := by kernel_rfl
@[go_sem] theorem slA_89 : slA Tryd.prog 89 = none := by kernel_rfl
@[go_sem] theorem tyA_90 : tyA Tryd.prog 90 = some (false, 1) := by kernel_rfl
@[go_sem] theorem bytesA_90 : bytesA Tryd.prog 90 = false := by kernel_rfl
@[go_sem] theorem knownA_90 : knownA Tryd.prog 90 = true := by kernel_rfl
@[go_sem] theorem concA_90 : concA Tryd.prog 90 = true := by kernel_rfl
@[go_sem] theorem ikA_90 : ikA Tryd.prog 90 = none := by kernel_rfl
@[go_sem] theorem bldT_90 : bldT Tryd.prog 90 = none := by kernel_rfl
@[go_sem] theorem zeroA_90 : zeroA Tryd.prog 90 = some [.raw .nilFunc] := by kernel_rfl
@[go_sem] theorem slA_90 : slA Tryd.prog 90 = none := by kernel_rfl
@[go_sem] theorem tyA_91 : tyA Tryd.prog 91 = some (false, 1) := by kernel_rfl
@[go_sem] theorem bytesA_91 : bytesA Tryd.prog 91 = false := by kernel_rfl
@[go_sem] theorem knownA_91 : knownA Tryd.prog 91 = true := by kernel_rfl
@[go_sem] theorem concA_91 : concA Tryd.prog 91 = true := by kernel_rfl
@[go_sem] theorem ikA_91 : ikA Tryd.prog 91 = none := by kernel_rfl
@[go_sem] theorem bldT_91 : bldT Tryd.prog 91 = none := by kernel_rfl
@[go_sem] theorem zeroA_91 : zeroA Tryd.prog 91 = some [.raw .nilFunc] := by kernel_rfl
@[go_sem] theorem slA_91 : slA Tryd.prog 91 = none := by kernel_rfl
@[go_sem] theorem tyA_92 : tyA Tryd.prog 92 = some (false, 1) := by kernel_rfl
@[go_sem] theorem bytesA_92 : bytesA Tryd.prog 92 = false := by kernel_rfl
@[go_sem] theorem knownA_92 : knownA Tryd.prog 92 = true := by kernel_rfl
@[go_sem] theorem concA_92 : concA Tryd.prog 92 = true := by kernel_rfl
@[go_sem] theorem ikA_92 : ikA Tryd.prog 92 = none := by kernel_rfl
@[go_sem] theorem bldT_92 : bldT Tryd.prog 92 = none := by kernel_rfl
@[go_sem] theorem zeroA_92 : zeroA Tryd.prog 92 = some [.raw .nilFunc] := by kernel_rfl
@[go_sem] theorem slA_92 : slA Tryd.prog 92 = none := by kernel_rfl
@[go_sem] theorem tyA_93 : tyA Tryd.prog 93 = some (true, 2) := by kernel_rfl
@[go_sem] theorem bytesA_93 : bytesA Tryd.prog 93 = false := by kernel_rfl
@[go_sem] theorem knownA_93 : knownA Tryd.prog 93 = true := by kernel_rfl
@[go_sem] theorem concA_93 : concA Tryd.prog 93 = true := by kernel_rfl
@[go_sem] theorem ikA_93 : ikA Tryd.prog 93 = none := by kernel_rfl
@[go_sem] theorem bldT_93 : bldT Tryd.prog 93 = none := by kernel_rfl
@[go_sem] theorem zeroA_93 : zeroA Tryd.prog 93 = some [.int .i64 0, .int .i64 0] := by kernel_rfl
@[go_sem] theorem slA_93 : slA Tryd.prog 93 = none := by kernel_rfl
@[go_sem] theorem eqKs_93 : eqKs Tryd.prog 93 = some [.int .i64, .int .i64] := by kernel_rfl
@[go_sem] theorem arA_93 : arA Tryd.prog 93 = some (2, 1) := by kernel_rfl
@[go_sem] theorem avA_93 : avA Tryd.prog 93 = some (2, false, 1) := by kernel_rfl
@[go_sem] theorem fsOk_93 : fsOk Tryd.prog 93 = true := by kernel_rfl
@[go_sem] theorem plA_93_0 : plA Tryd.prog 93 0 = some (0, 1) := by kernel_rfl
@[go_sem] theorem partTy_93_0 : partTy Tryd.prog 93 0 = 3 := by kernel_rfl
@[go_sem] theorem plA_93_1 : plA Tryd.prog 93 1 = some (1, 1) := by kernel_rfl
@[go_sem] theorem partTy_93_1 : partTy Tryd.prog 93 1 = 3 := by kernel_rfl
@[go_sem] theorem tyA_94 : tyA Tryd.prog 94 = some (false, 1) := by kernel_rfl
@[go_sem] theorem bytesA_94 : bytesA Tryd.prog 94 = false := by kernel_rfl
@[go_sem] theorem knownA_94 : knownA Tryd.prog 94 = true := by kernel_rfl
@[go_sem] theorem concA_94 : concA Tryd.prog 94 = true := by kernel_rfl
@[go_sem] theorem ikA_94 : ikA Tryd.prog 94 = none := by kernel_rfl
@[go_sem] theorem bldT_94 : bldT Tryd.prog 94 = none := by kernel_rfl
@[go_sem] theorem zeroA_94 : zeroA Tryd.prog 94 = some [.sl 2 [] .nil] := by kernel_rfl
@[go_sem] theorem slA_94 : slA Tryd.prog 94 = some 2 := by kernel_rfl
@[go_sem] theorem mkA_94 : mkA Tryd.prog 94 = some ([.int .i64 0, .int .i64 0], 16) := by kernel_rfl
@[go_sem] theorem apA_94 : apA Tryd.prog 94 = some (2, 16) := by kernel_rfl
@[go_sem] theorem partTy_94 (i : Nat) : partTy Tryd.prog 94 i = 93 := rfl_of_partTy (by kernel_rfl)
@[go_sem] theorem tyA_96 : tyA Tryd.prog 96 = some (false, 1) := by kernel_rfl
@[go_sem] theorem bytesA_96 : bytesA Tryd.prog 96 = false := by kernel_rfl
@[go_sem] theorem knownA_96 : knownA Tryd.prog 96 = true := by kernel_rfl
@[go_sem] theorem concA_96 : concA Tryd.prog 96 = true := by kernel_rfl
@[go_sem] theorem ikA_96 : ikA Tryd.prog 96 = none := by kernel_rfl
@[go_sem] theorem bldT_96 : bldT Tryd.prog 96 = none := by kernel_rfl
@[go_sem] theorem zeroA_96 : zeroA Tryd.prog 96 = some [.raw .nilFunc] := by kernel_rfl
@[go_sem] theorem slA_96 : slA Tryd.prog 96 = none := by kernel_rfl
@[go_sem] theorem tyA_97 : tyA Tryd.prog 97 = some (false, 1) := by kernel_rfl
@[go_sem] theorem bytesA_97 : bytesA Tryd.prog 97 = false := by kernel_rfl
@[go_sem] theorem knownA_97 : knownA Tryd.prog 97 = true := by kernel_rfl
@[go_sem] theorem concA_97 : concA Tryd.prog 97 = true := by kernel_rfl
@[go_sem] theorem ikA_97 : ikA Tryd.prog 97 = none := by kernel_rfl
@[go_sem] theorem bldT_97 : bldT Tryd.prog 97 = none := by kernel_rfl
@[go_sem] theorem zeroA_97 : zeroA Tryd.prog 97 = some [.raw .nilFunc] := by kernel_rfl
@[go_sem] theorem slA_97 : slA Tryd.prog 97 = none := by kernel_rfl
@[go_sem] theorem tyA_98 : tyA Tryd.prog 98 = some (true, 24) := by kernel_rfl
@[go_sem] theorem bytesA_98 : bytesA Tryd.prog 98 = false := by kernel_rfl
@[go_sem] theorem knownA_98 : knownA Tryd.prog 98 = true := by kernel_rfl
@[go_sem] theorem concA_98 : concA Tryd.prog 98 = true := by kernel_rfl
@[go_sem] theorem ikA_98 : ikA Tryd.prog 98 = none := by kernel_rfl
@[go_sem] theorem bldT_98 : bldT Tryd.prog 98 = none := by kernel_rfl
@[go_sem] theorem zeroA_98 : zeroA Tryd.prog 98 = some [.int .u8 0, .int .u8 0, .int .u8 0, .int .u8 0, .int .u8 0, .int .u8 0, .int .u8 0, .int .u8 0, .int .u8 0, .int .u8 0, .int .u8 0, .int .u8 0, .int .u8 0, .int .u8 0, .int .u8 0, .int .u8 0, .int .u8 0, .int .u8 0, .int .u8 0, .int .u8 0, .int .u8 0, .int .u8 0, .int .u8 0, .int .u8 0] := by kernel_rfl
@[go_sem] theorem slA_98 : slA Tryd.prog 98 = none := by kernel_rfl
@[go_sem] theorem arA_98 : arA Tryd.prog 98 = some (24, 1) := by kernel_rfl
@[go_sem] theorem avA_98 : avA Tryd.prog 98 = some (24, false, 1) := by kernel_rfl
@[go_sem] theorem fsOk_98 : fsOk Tryd.prog 98 = true := by kernel_rfl
@[go_sem] theorem plA_98_0 : plA Tryd.prog 98 0 = some (0, 1) := by kernel_rfl
@[go_sem] theorem partTy_98_0 : partTy Tryd.prog 98 0 = 5 := by kernel_rfl
@[go_sem] theorem plA_98_1 : plA Tryd.prog 98 1 = some (1, 1) := by kernel_rfl
@[go_sem] theorem partTy_98_1 : partTy Tryd.prog 98 1 = 5 := by kernel_rfl
@[go_sem] theorem plA_98_2 : plA Tryd.prog 98 2 = some (2, 1) := by kernel_rfl
@[go_sem] theorem partTy_98_2 : partTy Tryd.prog 98 2 = 5 := by kernel_rfl
@[go_sem] theorem plA_98_3 : plA Tryd.prog 98 3 = some (3, 1) := by kernel_rfl
@[go_sem] theorem partTy_98_3 : partTy Tryd.prog 98 3 = 5 := by kernel_rfl
@[go_sem] theorem plA_98_4 : plA Tryd.prog 98 4 = some (4, 1) := by kernel_rfl
@[go_sem] theorem partTy_98_4 : partTy Tryd.prog 98 4 = 5 := by kernel_rfl
@[go_sem] theorem plA_98_5 : plA Tryd.prog 98 5 = some (5, 1) := by kernel_rfl
@[go_sem] theorem partTy_98_5 : partTy Tryd.prog 98 5 = 5 := by kernel_rfl
@[go_sem] theorem plA_98_6 : plA Tryd.prog 98 6 = some (6, 1) := by kernel_rfl
@[go_sem] theorem partTy_98_6 : partTy Tryd.prog 98 6 = 5 := by kernel_rfl
@[go_sem] theorem plA_98_7 : plA Tryd.prog 98 7 = some (7, 1) := by kernel_rfl
@[go_sem] theorem partTy_98_7 : partTy Tryd.prog 98 7 = 5 := by kernel_rfl
@[go_sem] theorem plA_98_8 : plA Tryd.prog 98 8 = some (8, 1) := by kernel_rfl
@[go_sem] theorem partTy_98_8 : partTy Tryd.prog 98 8 = 5 := by kernel_rfl
@[go_sem] theorem plA_98_9 : plA Tryd.prog 98 9 = some (9, 1) := by kernel_rfl
@[go_sem] theorem partTy_98_9 : partTy Tryd.prog 98 9 = 5 := by kernel_rfl
@[go_sem] theorem plA_98_10 : plA Tryd.prog 98 10 = some (10, 1) := by kernel_rfl
@[go_sem] theorem partTy_98_10 : partTy Tryd.prog 98 10 = 5 := by kernel_rfl
@[go_sem] theorem plA_98_11 : plA Tryd.prog 98 11 = some (11, 1) := by kernel_rfl
@[go_sem] theorem partTy_98_11 : partTy Tryd.prog 98 11 = 5 := by kernel_rfl
@[go_sem] theorem plA_98_12 : plA Tryd.prog 98 12 = some (12, 1) := by kernel_rfl
@[go_sem] theorem partTy_98_12 : partTy Tryd.prog 98 12 = 5 := by kernel_rfl
@[go_sem] theorem plA_98_13 : plA Tryd.prog 98 13 = some (13, 1) := by kernel_rfl
@[go_sem] theorem partTy_98_13 : partTy Tryd.prog 98 13 = 5 := by kernel_rfl
@[go_sem] theorem plA_98_14 : plA Tryd.prog 98 14 = some (14, 1) := by kernel_rfl
@[go_sem] theorem partTy_98_14 : partTy Tryd.prog 98 14 = 5 := by kernel_rfl
@[go_sem] theorem plA_98_15 : plA Tryd.prog 98 15 = some (15, 1) := by kernel_rfl
@[go_sem] theorem partTy_98_15 : partTy Tryd.prog 98 15 = 5 := by kernel_rfl
@[go_sem] theorem tyA_99 : tyA Tryd.prog 99 = some (false, 1) := by kernel_rfl
@[go_sem] theorem bytesA_99 : bytesA Tryd.prog 99 = false := by kernel_rfl
@[go_sem] theorem knownA_99 : knownA Tryd.prog 99 = true := by kernel_rfl
@[go_sem] theorem concA_99 : concA Tryd.prog 99 = true := by kernel_rfl
@[go_sem] theorem ikA_99 : ikA Tryd.prog 99 = some .u64 := by kernel_rfl
@[go_sem] theorem bldT_99 : bldT Tryd.prog 99 = none := by kernel_rfl
@[go_sem] theorem zeroA_99 : zeroA Tryd.prog 99 = some [.int .u64 0] := by kernel_rfl
@[go_sem] theorem slA_99 : slA Tryd.prog 99 = none := by kernel_rfl
@[go_sem] theorem tyA_100 : tyA Tryd.prog 100 = some (false, 1) := by kernel_rfl
@[go_sem] theorem bytesA_100 : bytesA Tryd.prog 100 = false := by kernel_rfl
@[go_sem] theorem knownA_100 : knownA Tryd.prog 100 = true := by kernel_rfl
@[go_sem] theorem concA_100 : concA Tryd.prog 100 = true := by kernel_rfl
@[go_sem] theorem ikA_100 : ikA Tryd.prog 100 = none := by kernel_rfl
@[go_sem] theorem bldT_100 : bldT Tryd.prog 100 = none := by kernel_rfl
@[go_sem] theorem zeroA_100 : zeroA Tryd.prog 100 = some [.raw .nilFunc] := by kernel_rfl
@[go_sem] theorem slA_100 : slA Tryd.prog 100 = none := by kernel_rfl
@[go_sem] theorem tyA_101 : tyA Tryd.prog 101 = some (false, 1) := by kernel_rfl
@[go_sem] theorem bytesA_101 : bytesA Tryd.prog 101 = false := by kernel_rfl
@[go_sem] theorem knownA_101 : knownA Tryd.prog 101 = true := by kernel_rfl
@[go_sem] theorem concA_101 : concA Tryd.prog 101 = true := by kernel_rfl
@[go_sem] theorem ikA_101 : ikA Tryd.prog 101 = none := by kernel_rfl
@[go_sem] theorem bldT_101 : bldT Tryd.prog 101 = none := by kernel_rfl
@[go_sem] theorem zeroA_101 : zeroA Tryd.prog 101 = some [.raw .nilFunc] := by kernel_rfl
@[go_sem] theorem slA_101 : slA Tryd.prog 101 = none := by kernel_rfl
@[go_sem] theorem tyA_103 : tyA Tryd.prog 103 = some (false, 1) := by kernel_rfl
@[go_sem] theorem bytesA_103 : bytesA Tryd.prog 103 = false := by kernel_rfl
@[go_sem] theorem knownA_103 : knownA Tryd.prog 103 = true := by kernel_rfl
@[go_sem] theorem concA_103 : concA Tryd.prog 103 = true := by kernel_rfl
@[go_sem] theorem ikA_103 : ikA Tryd.prog 103 = none := by kernel_rfl
@[go_sem] theorem bldT_103 : bldT Tryd.prog 103 = none := by kernel_rfl
@[go_sem] theorem zeroA_103 : zeroA Tryd.prog 103 = some [.raw .nilFunc] := by kernel_rfl
@[go_sem] theorem slA_103 : slA Tryd.prog 103 = none := by kernel_rfl
@[go_sem] theorem tyA_104 : tyA Tryd.prog 104 = some (false, 1) := by kernel_rfl
@[go_sem] theorem bytesA_104 : bytesA Tryd.prog 104 = false := by kernel_rfl
@[go_sem] theorem knownA_104 : knownA Tryd.prog 104 = true := by kernel_rfl
@[go_sem] theorem concA_104 : concA Tryd.prog 104 = true := by kernel_rfl
@[go_sem] theorem ikA_104 : ikA Tryd.prog 104 = none := by kernel_rfl
@[go_sem] theorem bldT_104 : bldT Tryd.prog 104 = none := by kernel_rfl
@[go_sem] theorem zeroA_104 : zeroA Tryd.prog 104 = some [.raw .nilFunc] := by kernel_rfl
@[go_sem] theorem slA_104 : slA Tryd.prog 104 = none := by kernel_rfl
@[go_sem] theorem tyA_105 : tyA Tryd.prog 105 = some (true, 20) := by kernel_rfl
@[go_sem] theorem bytesA_105 : bytesA Tryd.prog 105 = false := by kernel_rfl
@[go_sem] theorem knownA_105 : knownA Tryd.prog 105 = true := by kernel_rfl
@[go_sem] theorem concA_105 : concA Tryd.prog 105 = true := by kernel_rfl
@[go_sem] theorem ikA_105 : ikA Tryd.prog 105 = none := by kernel_rfl
@[go_sem] theorem bldT_105 : bldT Tryd.prog 105 = none := by kernel_rfl
@[go_sem] theorem zeroA_105 : zeroA Tryd.prog 105 = some [.int .u64 0, .int .u64 0, .int .u64 0, .int .u64 0, .int .u64 0, .int .u64 0, .int .u64 0, .int .u64 0, .int .u64 0, .int .u64 0, .int .u64 0, .int .u64 0, .int .u64 0, .int .u64 0, .int .u64 0, .int .u64 0, .int .u64 0, .int .u64 0, .int .u64 0, .int .u64 0] := by kernel_rfl
@[go_sem] theorem slA_105 : slA Tryd.prog 105 = none := by kernel_rfl
@[go_sem] theorem arA_105 : arA Tryd.prog 105 = some (20, 1) := by kernel_rfl
@[go_sem] theorem avA_105 : avA Tryd.prog 105 = some (20, false, 1) := by kernel_rfl
@[go_sem] theorem fsOk_105 : fsOk Tryd.prog 105 = true := by kernel_rfl
@[go_sem] theorem plA_105_0 : plA Tryd.prog 105 0 = some (0, 1) := by kernel_rfl
@[go_sem] theorem partTy_105_0 : partTy Tryd.prog 105 0 = 99 := by kernel_rfl
@[go_sem] theorem plA_105_1 : plA Tryd.prog 105 1 = some (1, 1) := by kernel_rfl
@[go_sem] theorem partTy_105_1 : partTy Tryd.prog 105 1 = 99 := by kernel_rfl
@[go_sem] theorem plA_105_2 : plA Tryd.prog 105 2 = some (2, 1) := by kernel_rfl
@[go_sem] theorem partTy_105_2 : partTy Tryd.prog 105 2 = 99 := by kernel_rfl
@[go_sem] theorem plA_105_3 : plA Tryd.prog 105 3 = some (3, 1) := by kernel_rfl
@[go_sem] theorem partTy_105_3 : partTy Tryd.prog 105 3 = 99 := by kernel_rfl
@[go_sem] theorem plA_105_4 : plA Tryd.prog 105 4 = some (4, 1) := by kernel_rfl
@[go_sem] theorem partTy_105_4 : partTy Tryd.prog 105 4 = 99 := by kernel_rfl
@[go_sem] theorem plA_105_5 : plA Tryd.prog 105 5 = some (5, 1) := by kernel_rfl
@[go_sem] theorem partTy_105_5 : partTy Tryd.prog 105 5 = 99 := by kernel_rfl
@[go_sem] theorem plA_105_6 : plA Tryd.prog 105 6 = some (6, 1) := by kernel_rfl
@[go_sem] theorem partTy_105_6 : partTy Tryd.prog 105 6 = 99 := by kernel_rfl
@[go_sem] theorem plA_105_7 : plA Tryd.prog 105 7 = some (7, 1) := by kernel_rfl
@[go_sem] theorem partTy_105_7 : partTy Tryd.prog 105 7 = 99 := by kernel_rfl
@[go_sem] theorem plA_105_8 : plA Tryd.prog 105 8 = some (8, 1) := by kernel_rfl
@[go_sem] theorem partTy_105_8 : partTy Tryd.prog 105 8 = 99 := by kernel_rfl
@[go_sem] theorem plA_105_9 : plA Tryd.prog 105 9 = some (9, 1) := by kernel_rfl
@[go_sem] theorem partTy_105_9 : partTy Tryd.prog 105 9 = 99 := by kernel_rfl
@[go_sem] theorem plA_105_10 : plA Tryd.prog 105 10 = some (10, 1) := by kernel_rfl
@[go_sem] theorem partTy_105_10 : partTy Tryd.prog 105 10 = 99 := by kernel_rfl
@[go_sem] theorem plA_105_11 : plA Tryd.prog 105 11 = some (11, 1) := by kernel_rfl
@[go_sem] theorem partTy_105_11 : partTy Tryd.prog 105 11 = 99 := by kernel_rfl
@[go_sem] theorem plA_105_12 : plA Tryd.prog 105 12 = some (12, 1) := by kernel_rfl
@[go_sem] theorem partTy_105_12 : partTy Tryd.prog 105 12 = 99 := by kernel_rfl
@[go_sem] theorem plA_105_13 : plA Tryd.prog 105 13 = some (13, 1) := by kernel_rfl
@[go_sem] theorem partTy_105_13 : partTy Tryd.prog 105 13 = 99 := by kernel_rfl
@[go_sem] theorem plA_105_14 : plA Tryd.prog 105 14 = some (14, 1) := by kernel_rfl
@[go_sem] theorem partTy_105_14 : partTy Tryd.prog 105 14 = 99 := by kernel_rfl
@[go_sem] theorem plA_105_15 : plA Tryd.prog 105 15 = some (15, 1) := by kernel_rfl
@[go_sem] theorem partTy_105_15 : partTy Tryd.prog 105 15 = 99 := by kernel_rfl
@[go_sem] theorem tyA_106 : tyA Tryd.prog 106 = some (false, 1) := by kernel_rfl
@[go_sem] theorem bytesA_106 : bytesA Tryd.prog 106 = false := by kernel_rfl
@[go_sem] theorem knownA_106 : knownA Tryd.prog 106 = true := by kernel_rfl
@[go_sem] theorem concA_106 : concA Tryd.prog 106 = true := by kernel_rfl
@[go_sem] theorem ikA_106 : ikA Tryd.prog 106 = some .u32 := by kernel_rfl
@[go_sem] theorem bldT_106 : bldT Tryd.prog 106 = none := by kernel_rfl
@[go_sem] theorem zeroA_106 : zeroA Tryd.prog 106 = some [.int .u32 0] := by kernel_rfl
@[go_sem] theorem slA_106 : slA Tryd.prog 106 = none := by kernel_rfl
@[go_sem] theorem tyA_107 : tyA Tryd.prog 107 = some (true, 65) := by kernel_rfl
@[go_sem] theorem bytesA_107 : bytesA Tryd.prog 107 = false := by kernel_rfl
@[go_sem] theorem knownA_107 : knownA Tryd.prog 107 = true := by kernel_rfl
@[go_sem] theorem concA_107 : concA Tryd.prog 107 = true := by kernel_rfl
@[go_sem] theorem ikA_107 : ikA Tryd.prog 107 = none := by kernel_rfl
@[go_sem] theorem bldT_107 : bldT Tryd.prog 107 = none := by kernel_rfl
@[go_sem] theorem slA_107 : slA Tryd.prog 107 = none := by kernel_rfl
@[go_sem] theorem arA_107 : arA Tryd.prog 107 = some (65, 1) := by kernel_rfl
@[go_sem] theorem avA_107 : avA Tryd.prog 107 = some (65, false, 1) := by kernel_rfl
@[go_sem] theorem fsOk_107 : fsOk Tryd.prog 107 = true := by kernel_rfl
@[go_sem] theorem plA_107_0 : plA Tryd.prog 107 0 = some (0, 1) := by kernel_rfl
@[go_sem] theorem partTy_107_0 : partTy Tryd.prog 107 0 = 5 := by kernel_rfl
@[go_sem] theorem plA_107_1 : plA Tryd.prog 107 1 = some (1, 1) := by kernel_rfl
@[go_sem] theorem partTy_107_1 : partTy Tryd.prog 107 1 = 5 := by kernel_rfl
@[go_sem] theorem plA_107_2 : plA Tryd.prog 107 2 = some (2, 1) := by kernel_rfl
@[go_sem] theorem partTy_107_2 : partTy Tryd.prog 107 2 = 5 := by kernel_rfl
@[go_sem] theorem plA_107_3 : plA Tryd.prog 107 3 = some (3, 1) := by kernel_rfl
@[go_sem] theorem partTy_107_3 : partTy Tryd.prog 107 3 = 5 := by kernel_rfl
@[go_sem] theorem plA_107_4 : plA Tryd.prog 107 4 = some (4, 1) := by kernel_rfl
@[go_sem] theorem partTy_107_4 : partTy Tryd.prog 107 4 = 5 := by kernel_rfl
@[go_sem] theorem plA_107_5 : plA Tryd.prog 107 5 = some (5, 1) := by kernel_rfl
@[go_sem] theorem partTy_107_5 : partTy Tryd.prog 107 5 = 5 := by kernel_rfl
@[go_sem] theorem plA_107_6 : plA Tryd.prog 107 6 = some (6, 1) := by kernel_rfl
@[go_sem] theorem partTy_107_6 : partTy Tryd.prog 107 6 = 5 := by kernel_rfl
@[go_sem] theorem plA_107_7 : plA Tryd.prog 107 7 = some (7, 1) := by kernel_rfl
@[go_sem] theorem partTy_107_7 : partTy Tryd.prog 107 7 = 5 := by kernel_rfl
@[go_sem] theorem plA_107_8 : plA Tryd.prog 107 8 = some (8, 1) := by kernel_rfl
@[go_sem] theorem partTy_107_8 : partTy Tryd.prog 107 8 = 5 := by kernel_rfl
@[go_sem] theorem plA_107_9 : plA Tryd.prog 107 9 = some (9, 1) := by kernel_rfl
@[go_sem] theorem partTy_107_9 : partTy Tryd.prog 107 9 = 5 := by kernel_rfl
@[go_sem] theorem plA_107_10 : plA Tryd.prog 107 10 = some (10, 1) := by kernel_rfl
@[go_sem] theorem partTy_107_10 : partTy Tryd.prog 107 10 = 5 := by kernel_rfl
@[go_sem] theorem plA_107_11 : plA Tryd.prog 107 11 = some (11, 1) := by kernel_rfl
@[go_sem] theorem partTy_107_11 : partTy Tryd.prog 107 11 = 5 := by kernel_rfl
@[go_sem] theorem plA_107_12 : plA Tryd.prog 107 12 = some (12, 1) := by kernel_rfl
@[go_sem] theorem partTy_107_12 : partTy Tryd.prog 107 12 = 5 := by kernel_rfl
@[go_sem] theorem plA_107_13 : plA Tryd.prog 107 13 = some (13, 1) := by kernel_rfl
@[go_sem] theorem partTy_107_13 : partTy Tryd.prog 107 13 = 5 := by kernel_rfl
@[go_sem] theorem plA_107_14 : plA Tryd.prog 107 14 = some (14, 1) := by kernel_rfl
@[go_sem] theorem partTy_107_14 : partTy Tryd.prog 107 14 = 5 := by kernel_rfl
@[go_sem] theorem plA_107_15 : plA Tryd.prog 107 15 = some (15, 1) := by kernel_rfl
@[go_sem] theorem partTy_107_15 : partTy Tryd.prog 107 15 = 5 := by kernel_rfl
@[go_sem] theorem tyA_108 : tyA Tryd.prog 108 = some (false, 1) := by kernel_rfl
@[go_sem] theorem bytesA_108 : bytesA Tryd.prog 108 = false := by kernel_rfl
@[go_sem] theorem knownA_108 : knownA Tryd.prog 108 = true := by kernel_rfl
@[go_sem] theorem concA_108 : concA Tryd.prog 108 = true := by kernel_rfl
@[go_sem] theorem ikA_108 : ikA Tryd.prog 108 = some .u64 := by kernel_rfl
@[go_sem] theorem bldT_108 : bldT Tryd.prog 108 = none := by kernel_rfl
@[go_sem] theorem zeroA_108 : zeroA Tryd.prog 108 = some [.int .u64 0] := by kernel_rfl
@[go_sem] theorem slA_108 : slA Tryd.prog 108 = none := by kernel_rfl
@[go_sem] theorem tyA_109 : tyA Tryd.prog 109 = some (false, 1) := by kernel_rfl
@[go_sem] theorem bytesA_109 : bytesA Tryd.prog 109 = false := by kernel_rfl
@[go_sem] theorem knownA_109 : knownA Tryd.prog 109 = true := by kernel_rfl
@[go_sem] theorem concA_109 : concA Tryd.prog 109 = true := by kernel_rfl
@[go_sem] theorem ikA_109 : ikA Tryd.prog 109 = none := by kernel_rfl
@[go_sem] theorem bldT_109 : bldT Tryd.prog 109 = none := by kernel_rfl
@[go_sem] theorem zeroA_109 : zeroA Tryd.prog 109 = some [.raw .nilFunc] := by kernel_rfl
@[go_sem] theorem slA_109 : slA Tryd.prog 109 = none := by kernel_rfl
@[go_sem] theorem tyA_110 : tyA Tryd.prog 110 = some (false, 1) := by kernel_rfl
@[go_sem] theorem bytesA_110 : bytesA Tryd.prog 110 = false := by kernel_rfl
@[go_sem] theorem knownA_110 : knownA Tryd.prog 110 = true := by kernel_rfl
@[go_sem] theorem concA_110 : concA Tryd.prog 110 = true := by kernel_rfl
@[go_sem] theorem ikA_110 : ikA Tryd.prog 110 = none := by kernel_rfl
@[go_sem] theorem bldT_110 : bldT Tryd.prog 110 = none := by kernel_rfl
@[go_sem] theorem zeroA_110 : zeroA Tryd.prog 110 = some [.raw .nilFunc] := by kernel_rfl
@[go_sem] theorem slA_110 : slA Tryd.prog 110 = none := by kernel_rfl
@[go_sem] theorem tyA_111 : tyA Tryd.prog 111 = some (true, 32) := by kernel_rfl
@[go_sem] theorem bytesA_111 : bytesA Tryd.prog 111 = false := by kernel_rfl
@[go_sem] theorem knownA_111 : knownA Tryd.prog 111 = true := by kernel_rfl
@[go_sem] theorem concA_111 : concA Tryd.prog 111 = true := by kernel_rfl
@[go_sem] theorem ikA_111 : ikA Tryd.prog 111 = none := by kernel_rfl
@[go_sem] theorem bldT_111 : bldT Tryd.prog 111 = none := by kernel_rfl
@[go_sem] theorem zeroA_111 : zeroA Tryd.prog 111 = some [.int .u8 0, .int .u8 0, .int .u8 0, .int .u8 0, .int .u8 0, .int .u8 0, .int .u8 0, .int .u8 0, .int .u8 0, .int .u8 0, .int .u8 0, .int .u8 0, .int .u8 0, .int .u8 0, .int .u8 0, .int .u8 0, .int .u8 0, .int .u8 0, .int .u8 0, .int .u8 0, .int .u8 0, .int .u8 0, .int .u8 0, .int .u8 0, .int .u8 0, .int .u8 0, .int .u8 0, .int .u8 0, .int .u8 0, .int .u8 0, .int .u8 0, .int .u8 0] := by kernel_rfl
@[go_sem] theorem slA_111 : slA Tryd.prog 111 = none := by kernel_rfl
@[go_sem] theorem arA_111 : arA Tryd.prog 111 = some (32, 1) := by kernel_rfl
@[go_sem] theorem avA_111 : avA Tryd.prog 111 = some (32, false, 1) := by kernel_rfl
@[go_sem] theorem fsOk_111 : fsOk Tryd.prog 111 = true := by kernel_rfl
@[go_sem] theorem plA_111_0 : plA Tryd.prog 111 0 = some (0, 1) := by kernel_rfl
@[go_sem] theorem partTy_111_0 : partTy Tryd.prog 111 0 = 5 := by kernel_rfl
@[go_sem] theorem plA_111_1 : plA Tryd.prog 111 1 = some (1, 1) := by kernel_rfl
@[go_sem] theorem partTy_111_1 : partTy Tryd.prog 111 1 = 5 := by kernel_rfl
@[go_sem] theorem plA_111_2 : plA Tryd.prog 111 2 = some (2, 1) := by kernel_rfl
@[go_sem] theorem partTy_111_2 : partTy Tryd.prog 111 2 = 5 := by kernel_rfl
@[go_sem] theorem plA_111_3 : plA Tryd.prog 111 3 = some (3, 1) := by kernel_rfl
@[go_sem] theorem partTy_111_3 : partTy Tryd.prog 111 3 = 5 := by kernel_rfl
@[go_sem] theorem plA_111_4 : plA Tryd.prog 111 4 = some (4, 1) := by kernel_rfl
@[go_sem] theorem partTy_111_4 : partTy Tryd.prog 111 4 = 5 := by kernel_rfl
@[go_sem] theorem plA_111_5 : plA Tryd.prog 111 5 = some (5, 1) := by kernel_rfl
@[go_sem] theorem partTy_111_5 : partTy Tryd.prog 111 5 = 5 := by kernel_rfl
@[go_sem] theorem plA_111_6 : plA Tryd.prog 111 6 = some (6, 1) := by kernel_rfl
@[go_sem] theorem partTy_111_6 : partTy Tryd.prog 111 6 = 5 := by kernel_rfl
@[go_sem] theorem plA_111_7 : plA Tryd.prog 111 7 = some (7, 1) := by kernel_rfl
@[go_sem] theorem partTy_111_7 : partTy Tryd.prog 111 7 = 5 := by kernel_rfl
@[go_sem] theorem plA_111_8 : plA Tryd.prog 111 8 = some (8, 1) := by kernel_rfl
@[go_sem] theorem partTy_111_8 : partTy Tryd.prog 111 8 = 5 := by kernel_rfl
@[go_sem] theorem plA_111_9 : plA Tryd.prog 111 9 = some (9, 1) := by kernel_rfl
@[go_sem] theorem partTy_111_9 : partTy Tryd.prog 111 9 = 5 := by kernel_rfl
@[go_sem] theorem plA_111_10 : plA Tryd.prog 111 10 = some (10, 1) := by kernel_rfl
@[go_sem] theorem partTy_111_10 : partTy Tryd.prog 111 10 = 5 := by kernel_rfl
@[go_sem] theorem plA_111_11 : plA Tryd.prog 111 11 = some (11, 1) := by kernel_rfl
@[go_sem] theorem partTy_111_11 : partTy Tryd.prog 111 11 = 5 := by kernel_rfl
@[go_sem] theorem plA_111_12 : plA Tryd.prog 111 12 = some (12, 1) := by kernel_rfl
@[go_sem] theorem partTy_111_12 : partTy Tryd.prog 111 12 = 5 := by kernel_rfl
@[go_sem] theorem plA_111_13 : plA Tryd.prog 111 13 = some (13, 1) := by kernel_rfl
@[go_sem] theorem partTy_111_13 : partTy Tryd.prog 111 13 = 5 := by kernel_rfl
@[go_sem] theorem plA_111_14 : plA Tryd.prog 111 14 = some (14, 1) := by kernel_rfl
@[go_sem] theorem partTy_111_14 : partTy Tryd.prog 111 14 = 5 := by kernel_rfl
@[go_sem] theorem plA_111_15 : plA Tryd.prog 111 15 = some (15, 1) := by kernel_rfl
@[go_sem] theorem partTy_111_15 : partTy Tryd.prog 111 15 = 5 := by kernel_rfl
@[go_sem] theorem tyA_112 : tyA Tryd.prog 112 = some (true, 64) := by kernel_rfl
@[go_sem] theorem bytesA_112 : bytesA Tryd.prog 112 = false := by kernel_rfl
@[go_sem] theorem knownA_112 : knownA Tryd.prog 112 = true := by kernel_rfl
@[go_sem] theorem concA_112 : concA Tryd.prog 112 = true := by kernel_rfl
@[go_sem] theorem ikA_112 : ikA Tryd.prog 112 = none := by kernel_rfl
@[go_sem] theorem bldT_112 : bldT Tryd.prog 112 = none := by kernel_rfl
@[go_sem] theorem zeroA_112 : zeroA Tryd.prog 112 = some [.int .u8 0, .int .u8 0, .int .u8 0, .int .u8 0, .int .u8 0, .int .u8 0, .int .u8 0, .int .u8 0, .int .u8 0, .int .u8 0, .int .u8 0, .int .u8 0, .int .u8 0, .int .u8 0, .int .u8 0, .int .u8 0, .int .u8 0, .int .u8 0, .int .u8 0, .int .u8 0, .int .u8 0, .int .u8 0, .int .u8 0, .int .u8 0, .int .u8 0, .int .u8 0, .int .u8 0, .int .u8 0, .int .u8 0, .int .u8 0, .int .u8 0, .int .u8 0, .int .u8 0, .int .u8 0, .int .u8 0, .int .u8 0, .int .u8 0, .int .u8 0, .int .u8 0, .int .u8 0, .int .u8 0, .int .u8 0, .int .u8 0, .int .u8 0, .int .u8 0, .int .u8 0, .int .u8 0, .int .u8 0, .int .u8 0, .int .u8 0, .int .u8 0, .int .u8 0, .int .u8 0, .int .u8 0, .int .u8 0, .int .u8 0, .int .u8 0, .int .u8 0, .int .u8 0, .int .u8 0, .int .u8 0, .int .u8 0, .int .u8 0, .int .u8 0] := by kernel_rfl
@[go_sem] theorem slA_112 : slA Tryd.prog 112 = none := by kernel_rfl
@[go_sem] theorem arA_112 : arA Tryd.prog 112 = some (64, 1) := by kernel_rfl
@[go_sem] theorem avA_112 : avA Tryd.prog 112 = some (64, false, 1) := by kernel_rfl
@[go_sem] theorem fsOk_112 : fsOk Tryd.prog 112 = true := by kernel_rfl
@[go_sem] theorem plA_112_0 : plA Tryd.prog 112 0 = some (0, 1) := by kernel_rfl
@[go_sem] theorem partTy_112_0 : partTy Tryd.prog 112 0 = 5 := by kernel_rfl
@[go_sem] theorem plA_112_1 : plA Tryd.prog 112 1 = some (1, 1) := by kernel_rfl
@[go_sem] theorem partTy_112_1 : partTy Tryd.prog 112 1 = 5 := by kernel_rfl
@[go_sem] theorem plA_112_2 : plA Tryd.prog 112 2 = some (2, 1) := by kernel_rfl
@[go_sem] theorem partTy_112_2 : partTy Tryd.prog 112 2 = 5 := by kernel_rfl
@[go_sem] theorem plA_112_3 : plA Tryd.prog 112 3 = some (3, 1) := by kernel_rfl
@[go_sem] theorem partTy_112_3 : partTy Tryd.prog 112 3 = 5 := by kernel_rfl
@[go_sem] theorem plA_112_4 : plA Tryd.prog 112 4 = some (4, 1) := by kernel_rfl
@[go_sem] theorem partTy_112_4 : partTy Tryd.prog 112 4 = 5 := by kernel_rfl
@[go_sem] theorem plA_112_5 : plA Tryd.prog 112 5 = some (5, 1) := by kernel_rfl
@[go_sem] theorem partTy_112_5 : partTy Tryd.prog 112 5 = 5 := by kernel_rfl
@[go_sem] theorem plA_112_6 : plA Tryd.prog 112 6 = some (6, 1) := by kernel_rfl
@[go_sem] theorem partTy_112_6 : partTy Tryd.prog 112 6 = 5 := by kernel_rfl
@[go_sem] theorem plA_112_7 : plA Tryd.prog 112 7 = some (7, 1) := by kernel_rfl
@[go_sem] theorem partTy_112_7 : partTy Tryd.prog 112 7 = 5 := by kernel_rfl
@[go_sem] theorem plA_112_8 : plA Tryd.prog 112 8 = some (8, 1) := by kernel_rfl
@[go_sem] theorem partTy_112_8 : partTy Tryd.prog 112 8 = 5 := by kernel_rfl
@[go_sem] theorem plA_112_9 : plA Tryd.prog 112 9 = some (9, 1) := by kernel_rfl
@[go_sem] theorem partTy_112_9 : partTy Tryd.prog 112 9 = 5 := by kernel_rfl
@[go_sem] theorem plA_112_10 : plA Tryd.prog 112 10 = some (10, 1) := by kernel_rfl
@[go_sem] theorem partTy_112_10 : partTy Tryd.prog 112 10 = 5 := by kernel_rfl
@[go_sem] theorem plA_112_11 : plA Tryd.prog 112 11 = some (11, 1) := by kernel_rfl
@[go_sem] theorem partTy_112_11 : partTy Tryd.prog 112 11 = 5 := by kernel_rfl
@[go_sem] theorem plA_112_12 : plA Tryd.prog 112 12 = some (12, 1) := by kernel_rfl
@[go_sem] theorem partTy_112_12 : partTy Tryd.prog 112 12 = 5 := by kernel_rfl
@[go_sem] theorem plA_112_13 : plA Tryd.prog 112 13 = some (13, 1) := by kernel_rfl
@[go_sem] theorem partTy_112_13 : partTy Tryd.prog 112 13 = 5 := by kernel_rfl
@[go_sem] theorem plA_112_14 : plA Tryd.prog 112 14 = some (14, 1) := by kernel_rfl
@[go_sem] theorem partTy_112_14 : partTy Tryd.prog 112 14 = 5 := by kernel_rfl
@[go_sem] theorem plA_112_15 : plA Tryd.prog 112 15 = some (15, 1) := by kernel_rfl
@[go_sem] theorem partTy_112_15 : partTy Tryd.prog 112 15 = 5 := by kernel_rfl
@[go_sem] theorem tyA_118 : tyA Tryd.prog 118 = some (false, 1) := by kernel_rfl
@[go_sem] theorem bytesA_118 : bytesA Tryd.prog 118 = false := by kernel_rfl
@[go_sem] theorem knownA_118 : knownA Tryd.prog 118 = true := by kernel_rfl
@[go_sem] theorem concA_118 : concA Tryd.prog 118 = true := by kernel_rfl
@[go_sem] theorem ikA_118 : ikA Tryd.prog 118 = none := by kernel_rfl
@[go_sem] theorem bldT_118 : bldT Tryd.prog 118 = none := by kernel_rfl
@[go_sem] theorem zeroA_118 : zeroA Tryd.prog 118 = some [.raw .nilFunc] := by kernel_rfl
@[go_sem] theorem slA_118 : slA Tryd.prog 118 = none := by kernel_rfl
@[go_sem] theorem tyA_121 : tyA Tryd.prog 121 = some (false, 1) := by kernel_rfl
@[go_sem] theorem bytesA_121 : bytesA Tryd.prog 121 = false := by kernel_rfl
@[go_sem] theorem knownA_121 : knownA Tryd.prog 121 = true := by kernel_rfl
@[go_sem] theorem concA_121 : concA Tryd.prog 121 = true := by kernel_rfl
@[go_sem] theorem ikA_121 : ikA Tryd.prog 121 = none := by kernel_rfl
@[go_sem] theorem bldT_121 : bldT Tryd.prog 121 = none := by kernel_rfl
@[go_sem] theorem zeroA_121 : zeroA Tryd.prog 121 = some [.raw .nilFunc] := by kernel_rfl
@[go_sem] theorem slA_121 : slA Tryd.prog 121 = none := by kernel_rfl
@[go_sem] theorem mapA_74 : mapA Tryd.prog 74 = some (78, .bool false) := by kernel_rfl
@[go_sem] theorem stA_78 : stA Tryd.prog 78 = some [.int .i64, .int .i64] := by kernel_rfl
@[go_sem] theorem bodyOk_3 : bodyOk Tryd.prog 3 = true := by kernel_rfl
@[go_sem] theorem bodyOk_4 : bodyOk Tryd.prog 4 = true := by kernel_rfl
@[go_sem] theorem bodyOk_5 : bodyOk Tryd.prog 5 = true := by kernel_rfl
@[go_sem] theorem bodyOk_6 : bodyOk Tryd.prog 6 = true := by kernel_rfl
@[go_sem] theorem bodyOk_7 : bodyOk Tryd.prog 7 = true := by kernel_rfl
@[go_sem] theorem bodyOk_8 : bodyOk Tryd.prog 8 = true := by kernel_rfl
@[go_sem] theorem bodyOk_9 : bodyOk Tryd.prog 9 = true := by kernel_rfl
@[go_sem] theorem bodyOk_10 : bodyOk Tryd.prog 10 = true := by kernel_rfl
@[go_sem] theorem bodyOk_11 : bodyOk Tryd.prog 11 = true := by kernel_rfl
@[go_sem] theorem bodyOk_12 : bodyOk Tryd.prog 12 = true := by kernel_rfl
@[go_sem] theorem bodyOk_13 : bodyOk Tryd.prog 13 = true := by kernel_rfl
@[go_sem] theorem bodyOk_14 : bodyOk Tryd.prog 14 = true := by kernel_rfl
@[go_sem] theorem bodyOk_15 : bodyOk Tryd.prog 15 = true := by kernel_rfl
@[go_sem] theorem bodyOk_16 : bodyOk Tryd.prog 16 = true := by kernel_rfl
@[go_sem] theorem bodyOk_17 : bodyOk Tryd.prog 17 = true := by kernel_rfl
@[go_sem] theorem bodyOk_18 : bodyOk Tryd.prog 18 = true := by kernel_rfl
@[go_sem] theorem bodyOk_19 : bodyOk Tryd.prog 19 = true := by kernel_rfl
@[go_sem] theorem bodyOk_20 : bodyOk Tryd.prog 20 = true := by kernel_rfl
@[go_sem] theorem bodyOk_21 : bodyOk Tryd.prog 21 = true := by kernel_rfl
@[go_sem] theorem bodyOk_22 : bodyOk Tryd.prog 22 = true := by kernel_rfl
@[go_sem] theorem bodyOk_23 : bodyOk Tryd.prog 23 = true := by kernel_rfl
@[go_sem] theorem bodyOk_24 : bodyOk Tryd.prog 24 = true := by kernel_rfl
@[go_sem] theorem bodyOk_25 : bodyOk Tryd.prog 25 = true := by kernel_rfl
@[go_sem] theorem bodyOk_26 : bodyOk Tryd.prog 26 = true := by kernel_rfl
@[go_sem] theorem bodyOk_27 : bodyOk Tryd.prog 27 = true := by kernel_rfl
@[go_sem] theorem bodyOk_28 : bodyOk Tryd.prog 28 = true := by kernel_rfl
@[go_sem] theorem bodyOk_29 : bodyOk Tryd.prog 29 = true := by kernel_rfl
@[go_sem] theorem bodyOk_30 : bodyOk Tryd.prog 30 = true := by kernel_rfl
@[go_sem] theorem bodyOk_31 : bodyOk Tryd.prog 31 = true := by kernel_rfl
@[go_sem] theorem bodyOk_32 : bodyOk Tryd.prog 32 = true := by kernel_rfl
@[go_sem] theorem bodyOk_33 : bodyOk Tryd.prog 33 = true := by kernel_rfl
@[go_sem] theorem bodyOk_34 : bodyOk Tryd.prog 34 = true := by kernel_rfl
@[go_sem] theorem bodyOk_35 : bodyOk Tryd.prog 35 = true := by kernel_rfl
@[go_sem] theorem bodyOk_36 : bodyOk Tryd.prog 36 = true := by kernel_rfl
@[go_sem] theorem bodyOk_37 : bodyOk Tryd.prog 37 = true := by kernel_rfl
@[go_sem] theorem bodyOk_38 : bodyOk Tryd.prog 38 = true := by kernel_rfl
@[go_sem] theorem bodyOk_39 : bodyOk Tryd.prog 39 = true := by kernel_rfl
@[go_sem] theorem bodyOk_40 : bodyOk Tryd.prog 40 = true := by kernel_rfl
@[go_sem] theorem bodyOk_41 : bodyOk Tryd.prog 41 = true := by kernel_rfl
@[go_sem] theorem bodyOk_42 : bodyOk Tryd.prog 42 = true := by kernel_rfl
@[go_sem] theorem bodyOk_44 : bodyOk Tryd.prog 44 = true := by kernel_rfl
@[go_sem] theorem bodyOk_45 : bodyOk Tryd.prog 45 = true := by kernel_rfl
@[go_sem] theorem bodyOk_46 : bodyOk Tryd.prog 46 = true := by kernel_rfl
@[go_sem] theorem bodyOk_47 : bodyOk Tryd.prog 47 = true := by kernel_rfl
@[go_sem] theorem bodyOk_48 : bodyOk Tryd.prog 48 = true := by kernel_rfl
@[go_sem] theorem bodyOk_49 : bodyOk Tryd.prog 49 = true := by kernel_rfl
@[go_sem] theorem bodyOk_50 : bodyOk Tryd.prog 50 = true := by kernel_rfl
@[go_sem] theorem bodyOk_51 : bodyOk Tryd.prog 51 = true := by kernel_rfl
@[go_sem] theorem bodyOk_52 : bodyOk Tryd.prog 52 = true := by kernel_rfl
@[go_sem] theorem bodyOk_53 : bodyOk Tryd.prog 53 = true := by kernel_rfl
@[go_sem] theorem bodyOk_54 : bodyOk Tryd.prog 54 = true := by kernel_rfl
@[go_sem] theorem bodyOk_55 : bodyOk Tryd.prog 55 = true := by kernel_rfl
@[go_sem] theorem bodyOk_56 : bodyOk Tryd.prog 56 = true := by kernel_rfl
@[go_sem] theorem bodyOk_57 : bodyOk Tryd.prog 57 = true := by kernel_rfl
@[go_sem] theorem bodyOk_58 : bodyOk Tryd.prog 58 = true := by kernel_rfl
@[go_sem] theorem bodyOk_59 : bodyOk Tryd.prog 59 = true := by kernel_rfl
@[go_sem] theorem bodyOk_60 : bodyOk Tryd.prog 60 = true := by kernel_rfl
@[go_sem] theorem bodyOk_61 : bodyOk Tryd.prog 61 = true := by kernel_rfl
end Go.Proofs.YtaieadcnhlapdaaDoor
