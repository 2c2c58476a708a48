/- Facts on the types of the program, by the kernel. Printed by a program of this session. -/
import Derived.Test.YthbdjgjpocfneaaProg
import Derived.Test.YthbdjgjpocfneaaB22
import Derived.KernelRfl
namespace Go.Proofs.Ythbdjgjpocfneaa
open Go.AB
set_option maxRecDepth 100000
@[go_sem] theorem tyA_1 : tyA Try.prog 1 = some (false, 1) := by kernel_rfl
@[go_sem] theorem bytesA_1 : bytesA Try.prog 1 = false := by kernel_rfl
@[go_sem] theorem knownA_1 : knownA Try.prog 1 = true := by kernel_rfl
@[go_sem] theorem concA_1 : concA Try.prog 1 = true := by kernel_rfl
@[go_sem] theorem ikA_1 : ikA Try.prog 1 = none := by kernel_rfl
@[go_sem] theorem zeroA_1 : zeroA Try.prog 1 = some [.raw .nilFunc] := by kernel_rfl
@[go_sem] theorem slA_1 : slA Try.prog 1 = none := by kernel_rfl
@[go_sem] theorem tyA_2 : tyA Try.prog 2 = some (false, 1) := by kernel_rfl
@[go_sem] theorem bytesA_2 : bytesA Try.prog 2 = false := by kernel_rfl
@[go_sem] theorem knownA_2 : knownA Try.prog 2 = true := by kernel_rfl
@[go_sem] theorem concA_2 : concA Try.prog 2 = true := by kernel_rfl
@[go_sem] theorem ikA_2 : ikA Try.prog 2 = some .i64 := by kernel_rfl
@[go_sem] theorem zeroA_2 : zeroA Try.prog 2 = some [.int .i64 0] := by kernel_rfl
@[go_sem] theorem slA_2 : slA Try.prog 2 = none := by kernel_rfl
@[go_sem] theorem tyA_3 : tyA Try.prog 3 = some (false, 1) := by kernel_rfl
@[go_sem] theorem bytesA_3 : bytesA Try.prog 3 = false := by kernel_rfl
@[go_sem] theorem knownA_3 : knownA Try.prog 3 = true := by kernel_rfl
@[go_sem] theorem concA_3 : concA Try.prog 3 = true := by kernel_rfl
@[go_sem] theorem ikA_3 : ikA Try.prog 3 = some .i64 := by kernel_rfl
@[go_sem] theorem zeroA_3 : zeroA Try.prog 3 = some [.int .i64 0] := by kernel_rfl
@[go_sem] theorem slA_3 : slA Try.prog 3 = none := by kernel_rfl
@[go_sem] theorem tyA_4 : tyA Try.prog 4 = some (false, 1) := by kernel_rfl
@[go_sem] theorem bytesA_4 : bytesA Try.prog 4 = false := by kernel_rfl
@[go_sem] theorem knownA_4 : knownA Try.prog 4 = true := by kernel_rfl
@[go_sem] theorem concA_4 : concA Try.prog 4 = true := by kernel_rfl
@[go_sem] theorem ikA_4 : ikA Try.prog 4 = none := by kernel_rfl
@[go_sem] theorem tyBool_4 : tyBool Try.prog 4 = true := by kernel_rfl
@[go_sem] theorem zeroA_4 : zeroA Try.prog 4 = some [.bool false] := by kernel_rfl
@[go_sem] theorem slA_4 : slA Try.prog 4 = none := by kernel_rfl
@[go_sem] theorem tyA_5 : tyA Try.prog 5 = some (false, 1) := by kernel_rfl
@[go_sem] theorem bytesA_5 : bytesA Try.prog 5 = false := by kernel_rfl
@[go_sem] theorem knownA_5 : knownA Try.prog 5 = true := by kernel_rfl
@[go_sem] theorem concA_5 : concA Try.prog 5 = true := by kernel_rfl
@[go_sem] theorem ikA_5 : ikA Try.prog 5 = some .u8 := by kernel_rfl
@[go_sem] theorem zeroA_5 : zeroA Try.prog 5 = some [.int .u8 0] := by kernel_rfl
@[go_sem] theorem slA_5 : slA Try.prog 5 = none := by kernel_rfl
@[go_sem] theorem tyA_9 : tyA Try.prog 9 = some (false, 1) := by kernel_rfl
@[go_sem] theorem bytesA_9 : bytesA Try.prog 9 = false := by kernel_rfl
@[go_sem] theorem knownA_9 : knownA Try.prog 9 = true := by kernel_rfl
@[go_sem] theorem concA_9 : concA Try.prog 9 = true := by kernel_rfl
@[go_sem] theorem ikA_9 : ikA Try.prog 9 = none := by kernel_rfl
@[go_sem] theorem strA_9 : strA Try.prog 9 = true := by kernel_rfl
@[go_sem] theorem zeroA_9 : zeroA Try.prog 9 = some [.str []] := by kernel_rfl
@[go_sem] theorem slA_9 : slA Try.prog 9 = none := by kernel_rfl
@[go_sem] theorem tyA_12 : tyA Try.prog 12 = some (false, 1) := by kernel_rfl
@[go_sem] theorem bytesA_12 : bytesA Try.prog 12 = false := by kernel_rfl
@[go_sem] theorem knownA_12 : knownA Try.prog 12 = true := by kernel_rfl
@[go_sem] theorem concA_12 : concA Try.prog 12 = true := by kernel_rfl
@[go_sem] theorem ikA_12 : ikA Try.prog 12 = some .u64 := by kernel_rfl
@[go_sem] theorem zeroA_12 : zeroA Try.prog 12 = some [.int .u64 0] := by kernel_rfl
@[go_sem] theorem slA_12 : slA Try.prog 12 = none := by kernel_rfl
@[go_sem] theorem tyA_20 : tyA Try.prog 20 = some (false, 1) := by kernel_rfl
@[go_sem] theorem bytesA_20 : bytesA Try.prog 20 = false := by kernel_rfl
@[go_sem] theorem knownA_20 : knownA Try.prog 20 = true := by kernel_rfl
@[go_sem] theorem ikA_20 : ikA Try.prog 20 = none := by kernel_rfl
@[go_sem] theorem zeroA_20 : zeroA Try.prog 20 = some [.raw .nilIface] := by kernel_rfl
@[go_sem] theorem slA_20 : slA Try.prog 20 = none := by kernel_rfl
@[go_sem] theorem tyA_21 : tyA Try.prog 21 = some (false, 1) := by kernel_rfl
@[go_sem] theorem bytesA_21 : bytesA Try.prog 21 = false := by kernel_rfl
@[go_sem] theorem knownA_21 : knownA Try.prog 21 = true := by kernel_rfl
@[go_sem] theorem concA_21 : concA Try.prog 21 = true := by kernel_rfl
@[go_sem] theorem ikA_21 : ikA Try.prog 21 = some .i32 := by kernel_rfl
@[go_sem] theorem zeroA_21 : zeroA Try.prog 21 = some [.int .i32 0] := by kernel_rfl
@[go_sem] theorem slA_21 : slA Try.prog 21 = none := by kernel_rfl
@[go_sem] theorem tyA_22 : tyA Try.prog 22 = some (true, 4) := by kernel_rfl
@[go_sem] theorem bytesA_22 : bytesA Try.prog 22 = false := by kernel_rfl
@[go_sem] theorem knownA_22 : knownA Try.prog 22 = true := by kernel_rfl
@[go_sem] theorem concA_22 : concA Try.prog 22 = true := by kernel_rfl
@[go_sem] theorem ikA_22 : ikA Try.prog 22 = none := by kernel_rfl
@[go_sem] theorem zeroA_22 : zeroA Try.prog 22 = some [.int .i64 0, .int .i64 0, .int .i64 0, .int .i64 0] := by kernel_rfl
@[go_sem] theorem slA_22 : slA Try.prog 22 = none := by kernel_rfl
@[go_sem] theorem fsOk_22 : fsOk Try.prog 22 = true := by kernel_rfl
@[go_sem] theorem fldA_22_0 : fldA Try.prog 22 0 = some 0 := by kernel_rfl
@[go_sem] theorem fpA_22_0 : fpA Try.prog 22 0 = some (0, false, 1) := by kernel_rfl
@[go_sem] theorem plA_22_0 : plA Try.prog 22 0 = some (0, 1) := by kernel_rfl
@[go_sem] theorem partTy_22_0 : partTy Try.prog 22 0 = 3 := by kernel_rfl
@[go_sem] theorem fldA_22_1 : fldA Try.prog 22 1 = some 1 := by kernel_rfl
@[go_sem] theorem fpA_22_1 : fpA Try.prog 22 1 = some (1, false, 1) := by kernel_rfl
@[go_sem] theorem plA_22_1 : plA Try.prog 22 1 = some (1, 1) := by kernel_rfl
@[go_sem] theorem partTy_22_1 : partTy Try.prog 22 1 = 3 := by kernel_rfl
@[go_sem] theorem fldA_22_2 : fldA Try.prog 22 2 = some 2 := by kernel_rfl
@[go_sem] theorem fpA_22_2 : fpA Try.prog 22 2 = some (2, false, 1) := by kernel_rfl
@[go_sem] theorem plA_22_2 : plA Try.prog 22 2 = some (2, 1) := by kernel_rfl
@[go_sem] theorem partTy_22_2 : partTy Try.prog 22 2 = 3 := by kernel_rfl
@[go_sem] theorem fldA_22_3 : fldA Try.prog 22 3 = some 3 := by kernel_rfl
@[go_sem] theorem fpA_22_3 : fpA Try.prog 22 3 = some (3, false, 1) := by kernel_rfl
@[go_sem] theorem plA_22_3 : plA Try.prog 22 3 = some (3, 1) := by kernel_rfl
@[go_sem] theorem partTy_22_3 : partTy Try.prog 22 3 = 3 := by kernel_rfl
@[go_sem] theorem eqKs_22 : eqKs Try.prog 22 = some [.int .i64, .int .i64, .int .i64, .int .i64] := by kernel_rfl
@[go_sem] theorem tyA_23 : tyA Try.prog 23 = some (true, 4) := by kernel_rfl
@[go_sem] theorem bytesA_23 : bytesA Try.prog 23 = false := by kernel_rfl
@[go_sem] theorem knownA_23 : knownA Try.prog 23 = true := by kernel_rfl
@[go_sem] theorem concA_23 : concA Try.prog 23 = true := by kernel_rfl
@[go_sem] theorem ikA_23 : ikA Try.prog 23 = none := by kernel_rfl
@[go_sem] theorem zeroA_23 : zeroA Try.prog 23 = some [.int .i64 0, .int .i64 0, .int .i64 0, .int .i64 0] := by kernel_rfl
@[go_sem] theorem slA_23 : slA Try.prog 23 = none := by kernel_rfl
@[go_sem] theorem fsOk_23 : fsOk Try.prog 23 = true := by kernel_rfl
@[go_sem] theorem fldA_23_0 : fldA Try.prog 23 0 = some 0 := by kernel_rfl
@[go_sem] theorem fpA_23_0 : fpA Try.prog 23 0 = some (0, false, 1) := by kernel_rfl
@[go_sem] theorem plA_23_0 : plA Try.prog 23 0 = some (0, 1) := by kernel_rfl
@[go_sem] theorem partTy_23_0 : partTy Try.prog 23 0 = 3 := by kernel_rfl
@[go_sem] theorem fldA_23_1 : fldA Try.prog 23 1 = some 1 := by kernel_rfl
@[go_sem] theorem fpA_23_1 : fpA Try.prog 23 1 = some (1, false, 1) := by kernel_rfl
@[go_sem] theorem plA_23_1 : plA Try.prog 23 1 = some (1, 1) := by kernel_rfl
@[go_sem] theorem partTy_23_1 : partTy Try.prog 23 1 = 3 := by kernel_rfl
@[go_sem] theorem fldA_23_2 : fldA Try.prog 23 2 = some 2 := by kernel_rfl
@[go_sem] theorem fpA_23_2 : fpA Try.prog 23 2 = some (2, false, 1) := by kernel_rfl
@[go_sem] theorem plA_23_2 : plA Try.prog 23 2 = some (2, 1) := by kernel_rfl
@[go_sem] theorem partTy_23_2 : partTy Try.prog 23 2 = 3 := by kernel_rfl
@[go_sem] theorem fldA_23_3 : fldA Try.prog 23 3 = some 3 := by kernel_rfl
@[go_sem] theorem fpA_23_3 : fpA Try.prog 23 3 = some (3, false, 1) := by kernel_rfl
@[go_sem] theorem plA_23_3 : plA Try.prog 23 3 = some (3, 1) := by kernel_rfl
@[go_sem] theorem partTy_23_3 : partTy Try.prog 23 3 = 3 := by kernel_rfl
@[go_sem] theorem eqKs_23 : eqKs Try.prog 23 = some [.int .i64, .int .i64, .int .i64, .int .i64] := by kernel_rfl
@[go_sem] theorem tyA_24 : tyA Try.prog 24 = some (false, 1) := by kernel_rfl
@[go_sem] theorem bytesA_24 : bytesA Try.prog 24 = false := by kernel_rfl
@[go_sem] theorem knownA_24 : knownA Try.prog 24 = true := by kernel_rfl
@[go_sem] theorem concA_24 : concA Try.prog 24 = true := by kernel_rfl
@[go_sem] theorem ikA_24 : ikA Try.prog 24 = none := by kernel_rfl
@[go_sem] theorem zeroA_24 : zeroA Try.prog 24 = some [.raw .nilFunc] := by kernel_rfl
@[go_sem] theorem slA_24 : slA Try.prog 24 = none := by kernel_rfl
@[go_sem] theorem tyA_25 : tyA Try.prog 25 = some (false, 1) := by kernel_rfl
@[go_sem] theorem bytesA_25 : bytesA Try.prog 25 = false := by kernel_rfl
@[go_sem] theorem knownA_25 : knownA Try.prog 25 = true := by kernel_rfl
@[go_sem] theorem concA_25 : concA Try.prog 25 = true := by kernel_rfl
@[go_sem] theorem ikA_25 : ikA Try.prog 25 = none := by kernel_rfl
@[go_sem] theorem zeroA_25 : zeroA Try.prog 25 = some [.sl 3 [] .nil] := by kernel_rfl
@[go_sem] theorem slA_25 : slA Try.prog 25 = some 3 := by kernel_rfl
@[go_sem] theorem mkA_25 : mkA Try.prog 25 = some ([.int .i64 0, .int .i64 0, .int .i64 0], 24) := by kernel_rfl
@[go_sem] theorem apA_25 : apA Try.prog 25 = some (3, 24) := by kernel_rfl
@[go_sem] theorem partTy_25 (i : Nat) : partTy Try.prog 25 i = 27 := rfl_of_partTy (by kernel_rfl)
@[go_sem] theorem tyA_26 : tyA Try.prog 26 = some (true, 3) := by kernel_rfl
@[go_sem] theorem bytesA_26 : bytesA Try.prog 26 = false := by kernel_rfl
@[go_sem] theorem knownA_26 : knownA Try.prog 26 = true := by kernel_rfl
@[go_sem] theorem concA_26 : concA Try.prog 26 = true := by kernel_rfl
@[go_sem] theorem ikA_26 : ikA Try.prog 26 = none := by kernel_rfl
@[go_sem] theorem zeroA_26 : zeroA Try.prog 26 = some [.int .i64 0, .int .i64 0, .int .i64 0] := by kernel_rfl
@[go_sem] theorem slA_26 : slA Try.prog 26 = none := by kernel_rfl
@[go_sem] theorem fsOk_26 : fsOk Try.prog 26 = true := by kernel_rfl
@[go_sem] theorem fldA_26_0 : fldA Try.prog 26 0 = some 0 := by kernel_rfl
@[go_sem] theorem fpA_26_0 : fpA Try.prog 26 0 = some (0, false, 1) := by kernel_rfl
@[go_sem] theorem plA_26_0 : plA Try.prog 26 0 = some (0, 1) := by kernel_rfl
@[go_sem] theorem partTy_26_0 : partTy Try.prog 26 0 = 3 := by kernel_rfl
@[go_sem] theorem fldA_26_1 : fldA Try.prog 26 1 = some 1 := by kernel_rfl
@[go_sem] theorem fpA_26_1 : fpA Try.prog 26 1 = some (1, false, 1) := by kernel_rfl
@[go_sem] theorem plA_26_1 : plA Try.prog 26 1 = some (1, 1) := by kernel_rfl
@[go_sem] theorem partTy_26_1 : partTy Try.prog 26 1 = 3 := by kernel_rfl
@[go_sem] theorem fldA_26_2 : fldA Try.prog 26 2 = some 2 := by kernel_rfl
@[go_sem] theorem fpA_26_2 : fpA Try.prog 26 2 = some (2, false, 1) := by kernel_rfl
@[go_sem] theorem plA_26_2 : plA Try.prog 26 2 = some (2, 1) := by kernel_rfl
@[go_sem] theorem partTy_26_2 : partTy Try.prog 26 2 = 3 := by kernel_rfl
@[go_sem] theorem eqKs_26 : eqKs Try.prog 26 = some [.int .i64, .int .i64, .int .i64] := by kernel_rfl
@[go_sem] theorem tyA_27 : tyA Try.prog 27 = some (true, 3) := by kernel_rfl
@[go_sem] theorem bytesA_27 : bytesA Try.prog 27 = false := by kernel_rfl
@[go_sem] theorem knownA_27 : knownA Try.prog 27 = true := by kernel_rfl
@[go_sem] theorem concA_27 : concA Try.prog 27 = true := by kernel_rfl
@[go_sem] theorem ikA_27 : ikA Try.prog 27 = none := by kernel_rfl
@[go_sem] theorem zeroA_27 : zeroA Try.prog 27 = some [.int .i64 0, .int .i64 0, .int .i64 0] := by kernel_rfl
@[go_sem] theorem slA_27 : slA Try.prog 27 = none := by kernel_rfl
@[go_sem] theorem fsOk_27 : fsOk Try.prog 27 = true := by kernel_rfl
@[go_sem] theorem fldA_27_0 : fldA Try.prog 27 0 = some 0 := by kernel_rfl
@[go_sem] theorem fpA_27_0 : fpA Try.prog 27 0 = some (0, false, 1) := by kernel_rfl
@[go_sem] theorem plA_27_0 : plA Try.prog 27 0 = some (0, 1) := by kernel_rfl
@[go_sem] theorem partTy_27_0 : partTy Try.prog 27 0 = 3 := by kernel_rfl
@[go_sem] theorem fldA_27_1 : fldA Try.prog 27 1 = some 1 := by kernel_rfl
@[go_sem] theorem fpA_27_1 : fpA Try.prog 27 1 = some (1, false, 1) := by kernel_rfl
@[go_sem] theorem plA_27_1 : plA Try.prog 27 1 = some (1, 1) := by kernel_rfl
@[go_sem] theorem partTy_27_1 : partTy Try.prog 27 1 = 3 := by kernel_rfl
@[go_sem] theorem fldA_27_2 : fldA Try.prog 27 2 = some 2 := by kernel_rfl
@[go_sem] theorem fpA_27_2 : fpA Try.prog 27 2 = some (2, false, 1) := by kernel_rfl
@[go_sem] theorem plA_27_2 : plA Try.prog 27 2 = some (2, 1) := by kernel_rfl
@[go_sem] theorem partTy_27_2 : partTy Try.prog 27 2 = 3 := by kernel_rfl
@[go_sem] theorem eqKs_27 : eqKs Try.prog 27 = some [.int .i64, .int .i64, .int .i64] := by kernel_rfl
@[go_sem] theorem tyA_28 : tyA Try.prog 28 = some (false, 1) := by kernel_rfl
@[go_sem] theorem bytesA_28 : bytesA Try.prog 28 = false := by kernel_rfl
@[go_sem] theorem knownA_28 : knownA Try.prog 28 = true := by kernel_rfl
@[go_sem] theorem concA_28 : concA Try.prog 28 = true := by kernel_rfl
@[go_sem] theorem ikA_28 : ikA Try.prog 28 = none := by kernel_rfl
@[go_sem] theorem zeroA_28 : zeroA Try.prog 28 = some [.raw .nilFunc] := by kernel_rfl
@[go_sem] theorem slA_28 : slA Try.prog 28 = none := by kernel_rfl
@[go_sem] theorem tyA_29 : tyA Try.prog 29 = some (false, 1) := by kernel_rfl
@[go_sem] theorem bytesA_29 : bytesA Try.prog 29 = false := by kernel_rfl
@[go_sem] theorem knownA_29 : knownA Try.prog 29 = true := by kernel_rfl
@[go_sem] theorem concA_29 : concA Try.prog 29 = true := by kernel_rfl
@[go_sem] theorem ikA_29 : ikA Try.prog 29 = none := by kernel_rfl
@[go_sem] theorem zeroA_29 : zeroA Try.prog 29 = some [.raw .nilFunc] := by kernel_rfl
@[go_sem] theorem slA_29 : slA Try.prog 29 = none := by kernel_rfl
@[go_sem] theorem tyA_30 : tyA Try.prog 30 = some (false, 1) := by kernel_rfl
@[go_sem] theorem bytesA_30 : bytesA Try.prog 30 = false := by kernel_rfl
@[go_sem] theorem knownA_30 : knownA Try.prog 30 = true := by kernel_rfl
@[go_sem] theorem concA_30 : concA Try.prog 30 = true := by kernel_rfl
@[go_sem] theorem ikA_30 : ikA Try.prog 30 = some .i64 := by kernel_rfl
@[go_sem] theorem zeroA_30 : zeroA Try.prog 30 = some [.int .i64 0] := by kernel_rfl
@[go_sem] theorem slA_30 : slA Try.prog 30 = none := by kernel_rfl
@[go_sem] theorem tyA_32 : tyA Try.prog 32 = some (false, 1) := by kernel_rfl
@[go_sem] theorem bytesA_32 : bytesA Try.prog 32 = false := by kernel_rfl
@[go_sem] theorem knownA_32 : knownA Try.prog 32 = true := by kernel_rfl
@[go_sem] theorem concA_32 : concA Try.prog 32 = true := by kernel_rfl
@[go_sem] theorem ikA_32 : ikA Try.prog 32 = none := by kernel_rfl
@[go_sem] theorem zeroA_32 : zeroA Try.prog 32 = some [.raw .nilFunc] := by kernel_rfl
@[go_sem] theorem slA_32 : slA Try.prog 32 = none := by kernel_rfl
@[go_sem] theorem tyA_34 : tyA Try.prog 34 = some (false, 1) := by kernel_rfl
@[go_sem] theorem bytesA_34 : bytesA Try.prog 34 = false := by kernel_rfl
@[go_sem] theorem knownA_34 : knownA Try.prog 34 = true := by kernel_rfl
@[go_sem] theorem concA_34 : concA Try.prog 34 = true := by kernel_rfl
@[go_sem] theorem ikA_34 : ikA Try.prog 34 = none := by kernel_rfl
@[go_sem] theorem zeroA_34 : zeroA Try.prog 34 = some [.raw .nilFunc] := by kernel_rfl
@[go_sem] theorem slA_34 : slA Try.prog 34 = none := by kernel_rfl
@[go_sem] theorem tyA_35 : tyA Try.prog 35 = some (false, 1) := by kernel_rfl
@[go_sem] theorem bytesA_35 : bytesA Try.prog 35 = false := by kernel_rfl
@[go_sem] theorem knownA_35 : knownA Try.prog 35 = true := by kernel_rfl
@[go_sem] theorem concA_35 : concA Try.prog 35 = true := by kernel_rfl
@[go_sem] theorem ikA_35 : ikA Try.prog 35 = none := by kernel_rfl
@[go_sem] theorem zeroA_35 : zeroA Try.prog 35 = some [.raw .nilFunc] := by kernel_rfl
@[go_sem] theorem slA_35 : slA Try.prog 35 = none := by kernel_rfl
@[go_sem] theorem tyA_36 : tyA Try.prog 36 = some (false, 1) := by kernel_rfl
@[go_sem] theorem bytesA_36 : bytesA Try.prog 36 = true := by kernel_rfl
@[go_sem] theorem knownA_36 : knownA Try.prog 36 = true := by kernel_rfl
@[go_sem] theorem concA_36 : concA Try.prog 36 = true := by kernel_rfl
@[go_sem] theorem ikA_36 : ikA Try.prog 36 = none := by kernel_rfl
@[go_sem] theorem zeroA_36 : zeroA Try.prog 36 = some [.sl 1 [] .nil] := by kernel_rfl
@[go_sem] theorem slA_36 : slA Try.prog 36 = some 1 := by kernel_rfl
@[go_sem] theorem mkA_36 : mkA Try.prog 36 = some ([.int .u8 0], 1) := by kernel_rfl
@[go_sem] theorem apA_36 : apA Try.prog 36 = some (1, 1) := by kernel_rfl
@[go_sem] theorem partTy_36 (i : Nat) : partTy Try.prog 36 i = 5 := rfl_of_partTy (by kernel_rfl)
@[go_sem] theorem tyA_37 : tyA Try.prog 37 = some (false, 1) := by kernel_rfl
@[go_sem] theorem bytesA_37 : bytesA Try.prog 37 = false := by kernel_rfl
@[go_sem] theorem knownA_37 : knownA Try.prog 37 = true := by kernel_rfl
@[go_sem] theorem concA_37 : concA Try.prog 37 = true := by kernel_rfl
@[go_sem] theorem ikA_37 : ikA Try.prog 37 = none := by kernel_rfl
@[go_sem] theorem zeroA_37 : zeroA Try.prog 37 = some [.raw .nilFunc] := by kernel_rfl
@[go_sem] theorem slA_37 : slA Try.prog 37 = none := by kernel_rfl
@[go_sem] theorem tyA_38 : tyA Try.prog 38 = some (false, 1) := by kernel_rfl
@[go_sem] theorem bytesA_38 : bytesA Try.prog 38 = false := by kernel_rfl
@[go_sem] theorem knownA_38 : knownA Try.prog 38 = true := by kernel_rfl
@[go_sem] theorem concA_38 : concA Try.prog 38 = true := by kernel_rfl
@[go_sem] theorem ikA_38 : ikA Try.prog 38 = none := by kernel_rfl
@[go_sem] theorem zeroA_38 : zeroA Try.prog 38 = some [.raw .nilFunc] := by kernel_rfl
@[go_sem] theorem slA_38 : slA Try.prog 38 = none := by kernel_rfl
@[go_sem] theorem tyA_39 : tyA Try.prog 39 = some (true, 10) := by kernel_rfl
@[go_sem] theorem bytesA_39 : bytesA Try.prog 39 = false := by kernel_rfl
@[go_sem] theorem knownA_39 : knownA Try.prog 39 = true := by kernel_rfl
@[go_sem] theorem concA_39 : concA Try.prog 39 = true := by kernel_rfl
@[go_sem] theorem ikA_39 : ikA Try.prog 39 = none := by kernel_rfl
@[go_sem] theorem zeroA_39 : zeroA Try.prog 39 = some [.str [], .int .i64 0, .int .i64 0, .int .i64 0, .int .i64 0, .int .i64 0, .int .i64 0, .int .i64 0, .int .i64 0, .int .i64 0] := by kernel_rfl
@[go_sem] theorem slA_39 : slA Try.prog 39 = none := by kernel_rfl
@[go_sem] theorem fsOk_39 : fsOk Try.prog 39 = true := by kernel_rfl
@[go_sem] theorem fldA_39_0 : fldA Try.prog 39 0 = some 0 := by kernel_rfl
@[go_sem] theorem fpA_39_0 : fpA Try.prog 39 0 = some (0, false, 1) := by kernel_rfl
@[go_sem] theorem plA_39_0 : plA Try.prog 39 0 = some (0, 1) := by kernel_rfl
@[go_sem] theorem partTy_39_0 : partTy Try.prog 39 0 = 9 := by kernel_rfl
@[go_sem] theorem fldA_39_1 : fldA Try.prog 39 1 = some 1 := by kernel_rfl
@[go_sem] theorem fpA_39_1 : fpA Try.prog 39 1 = some (1, false, 1) := by kernel_rfl
@[go_sem] theorem plA_39_1 : plA Try.prog 39 1 = some (1, 1) := by kernel_rfl
@[go_sem] theorem partTy_39_1 : partTy Try.prog 39 1 = 3 := by kernel_rfl
@[go_sem] theorem fldA_39_2 : fldA Try.prog 39 2 = some 2 := by kernel_rfl
@[go_sem] theorem fpA_39_2 : fpA Try.prog 39 2 = some (2, false, 1) := by kernel_rfl
@[go_sem] theorem plA_39_2 : plA Try.prog 39 2 = some (2, 1) := by kernel_rfl
@[go_sem] theorem partTy_39_2 : partTy Try.prog 39 2 = 3 := by kernel_rfl
@[go_sem] theorem fldA_39_3 : fldA Try.prog 39 3 = some 3 := by kernel_rfl
@[go_sem] theorem fpA_39_3 : fpA Try.prog 39 3 = some (3, false, 1) := by kernel_rfl
@[go_sem] theorem plA_39_3 : plA Try.prog 39 3 = some (3, 1) := by kernel_rfl
@[go_sem] theorem partTy_39_3 : partTy Try.prog 39 3 = 3 := by kernel_rfl
@[go_sem] theorem fldA_39_4 : fldA Try.prog 39 4 = some 4 := by kernel_rfl
@[go_sem] theorem fpA_39_4 : fpA Try.prog 39 4 = some (4, false, 1) := by kernel_rfl
@[go_sem] theorem plA_39_4 : plA Try.prog 39 4 = some (4, 1) := by kernel_rfl
@[go_sem] theorem partTy_39_4 : partTy Try.prog 39 4 = 3 := by kernel_rfl
@[go_sem] theorem fldA_39_5 : fldA Try.prog 39 5 = some 5 := by kernel_rfl
@[go_sem] theorem fpA_39_5 : fpA Try.prog 39 5 = some (5, false, 1) := by kernel_rfl
@[go_sem] theorem plA_39_5 : plA Try.prog 39 5 = some (5, 1) := by kernel_rfl
@[go_sem] theorem partTy_39_5 : partTy Try.prog 39 5 = 3 := by kernel_rfl
@[go_sem] theorem fldA_39_6 : fldA Try.prog 39 6 = some 6 := by kernel_rfl
@[go_sem] theorem fpA_39_6 : fpA Try.prog 39 6 = some (6, false, 1) := by kernel_rfl
@[go_sem] theorem plA_39_6 : plA Try.prog 39 6 = some (6, 1) := by kernel_rfl
@[go_sem] theorem partTy_39_6 : partTy Try.prog 39 6 = 3 := by kernel_rfl
@[go_sem] theorem fldA_39_7 : fldA Try.prog 39 7 = some 7 := by kernel_rfl
@[go_sem] theorem fpA_39_7 : fpA Try.prog 39 7 = some (7, false, 1) := by kernel_rfl
@[go_sem] theorem plA_39_7 : plA Try.prog 39 7 = some (7, 1) := by kernel_rfl
@[go_sem] theorem partTy_39_7 : partTy Try.prog 39 7 = 3 := by kernel_rfl
@[go_sem] theorem fldA_39_8 : fldA Try.prog 39 8 = some 8 := by kernel_rfl
@[go_sem] theorem fpA_39_8 : fpA Try.prog 39 8 = some (8, false, 1) := by kernel_rfl
@[go_sem] theorem plA_39_8 : plA Try.prog 39 8 = some (8, 1) := by kernel_rfl
@[go_sem] theorem partTy_39_8 : partTy Try.prog 39 8 = 3 := by kernel_rfl
@[go_sem] theorem fldA_39_9 : fldA Try.prog 39 9 = some 9 := by kernel_rfl
@[go_sem] theorem fpA_39_9 : fpA Try.prog 39 9 = some (9, false, 1) := by kernel_rfl
@[go_sem] theorem plA_39_9 : plA Try.prog 39 9 = some (9, 1) := by kernel_rfl
@[go_sem] theorem partTy_39_9 : partTy Try.prog 39 9 = 3 := by kernel_rfl
@[go_sem] theorem eqKs_39 : eqKs Try.prog 39 = some [.str, .int .i64, .int .i64, .int .i64, .int .i64, .int .i64, .int .i64, .int .i64, .int .i64, .int .i64] := by kernel_rfl
@[go_sem] theorem tyA_40 : tyA Try.prog 40 = some (true, 10) := by kernel_rfl
@[go_sem] theorem bytesA_40 : bytesA Try.prog 40 = false := by kernel_rfl
@[go_sem] theorem knownA_40 : knownA Try.prog 40 = true := by kernel_rfl
@[go_sem] theorem concA_40 : concA Try.prog 40 = true := by kernel_rfl
@[go_sem] theorem ikA_40 : ikA Try.prog 40 = none := by kernel_rfl
@[go_sem] theorem zeroA_40 : zeroA Try.prog 40 = some [.str [], .int .i64 0, .int .i64 0, .int .i64 0, .int .i64 0, .int .i64 0, .int .i64 0, .int .i64 0, .int .i64 0, .int .i64 0] := by kernel_rfl
@[go_sem] theorem slA_40 : slA Try.prog 40 = none := by kernel_rfl
@[go_sem] theorem fsOk_40 : fsOk Try.prog 40 = true := by kernel_rfl
@[go_sem] theorem fldA_40_0 : fldA Try.prog 40 0 = some 0 := by kernel_rfl
@[go_sem] theorem fpA_40_0 : fpA Try.prog 40 0 = some (0, false, 1) := by kernel_rfl
@[go_sem] theorem plA_40_0 : plA Try.prog 40 0 = some (0, 1) := by kernel_rfl
@[go_sem] theorem partTy_40_0 : partTy Try.prog 40 0 = 9 := by kernel_rfl
@[go_sem] theorem fldA_40_1 : fldA Try.prog 40 1 = some 1 := by kernel_rfl
@[go_sem] theorem fpA_40_1 : fpA Try.prog 40 1 = some (1, false, 1) := by kernel_rfl
@[go_sem] theorem plA_40_1 : plA Try.prog 40 1 = some (1, 1) := by kernel_rfl
@[go_sem] theorem partTy_40_1 : partTy Try.prog 40 1 = 3 := by kernel_rfl
@[go_sem] theorem fldA_40_2 : fldA Try.prog 40 2 = some 2 := by kernel_rfl
@[go_sem] theorem fpA_40_2 : fpA Try.prog 40 2 = some (2, false, 1) := by kernel_rfl
@[go_sem] theorem plA_40_2 : plA Try.prog 40 2 = some (2, 1) := by kernel_rfl
@[go_sem] theorem partTy_40_2 : partTy Try.prog 40 2 = 3 := by kernel_rfl
@[go_sem] theorem fldA_40_3 : fldA Try.prog 40 3 = some 3 := by kernel_rfl
@[go_sem] theorem fpA_40_3 : fpA Try.prog 40 3 = some (3, false, 1) := by kernel_rfl
@[go_sem] theorem plA_40_3 : plA Try.prog 40 3 = some (3, 1) := by kernel_rfl
@[go_sem] theorem partTy_40_3 : partTy Try.prog 40 3 = 3 := by kernel_rfl
@[go_sem] theorem fldA_40_4 : fldA Try.prog 40 4 = some 4 := by kernel_rfl
@[go_sem] theorem fpA_40_4 : fpA Try.prog 40 4 = some (4, false, 1) := by kernel_rfl
@[go_sem] theorem plA_40_4 : plA Try.prog 40 4 = some (4, 1) := by kernel_rfl
@[go_sem] theorem partTy_40_4 : partTy Try.prog 40 4 = 3 := by kernel_rfl
@[go_sem] theorem fldA_40_5 : fldA Try.prog 40 5 = some 5 := by kernel_rfl
@[go_sem] theorem fpA_40_5 : fpA Try.prog 40 5 = some (5, false, 1) := by kernel_rfl
@[go_sem] theorem plA_40_5 : plA Try.prog 40 5 = some (5, 1) := by kernel_rfl
@[go_sem] theorem partTy_40_5 : partTy Try.prog 40 5 = 3 := by kernel_rfl
@[go_sem] theorem fldA_40_6 : fldA Try.prog 40 6 = some 6 := by kernel_rfl
@[go_sem] theorem fpA_40_6 : fpA Try.prog 40 6 = some (6, false, 1) := by kernel_rfl
@[go_sem] theorem plA_40_6 : plA Try.prog 40 6 = some (6, 1) := by kernel_rfl
@[go_sem] theorem partTy_40_6 : partTy Try.prog 40 6 = 3 := by kernel_rfl
@[go_sem] theorem fldA_40_7 : fldA Try.prog 40 7 = some 7 := by kernel_rfl
@[go_sem] theorem fpA_40_7 : fpA Try.prog 40 7 = some (7, false, 1) := by kernel_rfl
@[go_sem] theorem plA_40_7 : plA Try.prog 40 7 = some (7, 1) := by kernel_rfl
@[go_sem] theorem partTy_40_7 : partTy Try.prog 40 7 = 3 := by kernel_rfl
@[go_sem] theorem fldA_40_8 : fldA Try.prog 40 8 = some 8 := by kernel_rfl
@[go_sem] theorem fpA_40_8 : fpA Try.prog 40 8 = some (8, false, 1) := by kernel_rfl
@[go_sem] theorem plA_40_8 : plA Try.prog 40 8 = some (8, 1) := by kernel_rfl
@[go_sem] theorem partTy_40_8 : partTy Try.prog 40 8 = 3 := by kernel_rfl
@[go_sem] theorem fldA_40_9 : fldA Try.prog 40 9 = some 9 := by kernel_rfl
@[go_sem] theorem fpA_40_9 : fpA Try.prog 40 9 = some (9, false, 1) := by kernel_rfl
@[go_sem] theorem plA_40_9 : plA Try.prog 40 9 = some (9, 1) := by kernel_rfl
@[go_sem] theorem partTy_40_9 : partTy Try.prog 40 9 = 3 := by kernel_rfl
@[go_sem] theorem eqKs_40 : eqKs Try.prog 40 = some [.str, .int .i64, .int .i64, .int .i64, .int .i64, .int .i64, .int .i64, .int .i64, .int .i64, .int .i64] := by kernel_rfl
@[go_sem] theorem tyA_41 : tyA Try.prog 41 = some (false, 1) := by kernel_rfl
@[go_sem] theorem bytesA_41 : bytesA Try.prog 41 = false := by kernel_rfl
@[go_sem] theorem knownA_41 : knownA Try.prog 41 = true := by kernel_rfl
@[go_sem] theorem concA_41 : concA Try.prog 41 = true := by kernel_rfl
@[go_sem] theorem ikA_41 : ikA Try.prog 41 = none := by kernel_rfl
@[go_sem] theorem zeroA_41 : zeroA Try.prog 41 = some [.raw .nilFunc] := by kernel_rfl
@[go_sem] theorem slA_41 : slA Try.prog 41 = none := by kernel_rfl
@[go_sem] theorem tyA_42 : tyA Try.prog 42 = some (false, 1) := by kernel_rfl
@[go_sem] theorem bytesA_42 : bytesA Try.prog 42 = false := by kernel_rfl
@[go_sem] theorem knownA_42 : knownA Try.prog 42 = true := by kernel_rfl
@[go_sem] theorem concA_42 : concA Try.prog 42 = true := by kernel_rfl
@[go_sem] theorem ikA_42 : ikA Try.prog 42 = none := by kernel_rfl
@[go_sem] theorem zeroA_42 : zeroA Try.prog 42 = some [.raw .nilFunc] := by kernel_rfl
@[go_sem] theorem slA_42 : slA Try.prog 42 = none := by kernel_rfl
@[go_sem] theorem tyA_43 : tyA Try.prog 43 = some (true, 3) := by kernel_rfl
@[go_sem] theorem bytesA_43 : bytesA Try.prog 43 = false := by kernel_rfl
@[go_sem] theorem knownA_43 : knownA Try.prog 43 = true := by kernel_rfl
@[go_sem] theorem concA_43 : concA Try.prog 43 = true := by kernel_rfl
@[go_sem] theorem ikA_43 : ikA Try.prog 43 = none := by kernel_rfl
@[go_sem] theorem zeroA_43 : zeroA Try.prog 43 = some [.int .i64 0, .int .i64 0, .int .i64 0] := by kernel_rfl
@[go_sem] theorem slA_43 : slA Try.prog 43 = none := by kernel_rfl
@[go_sem] theorem fsOk_43 : fsOk Try.prog 43 = true := by kernel_rfl
@[go_sem] theorem fldA_43_0 : fldA Try.prog 43 0 = some 0 := by kernel_rfl
@[go_sem] theorem fpA_43_0 : fpA Try.prog 43 0 = some (0, false, 1) := by kernel_rfl
@[go_sem] theorem plA_43_0 : plA Try.prog 43 0 = some (0, 1) := by kernel_rfl
@[go_sem] theorem partTy_43_0 : partTy Try.prog 43 0 = 3 := by kernel_rfl
@[go_sem] theorem fldA_43_1 : fldA Try.prog 43 1 = some 1 := by kernel_rfl
@[go_sem] theorem fpA_43_1 : fpA Try.prog 43 1 = some (1, false, 1) := by kernel_rfl
@[go_sem] theorem plA_43_1 : plA Try.prog 43 1 = some (1, 1) := by kernel_rfl
@[go_sem] theorem partTy_43_1 : partTy Try.prog 43 1 = 3 := by kernel_rfl
@[go_sem] theorem fldA_43_2 : fldA Try.prog 43 2 = some 2 := by kernel_rfl
@[go_sem] theorem fpA_43_2 : fpA Try.prog 43 2 = some (2, false, 1) := by kernel_rfl
@[go_sem] theorem plA_43_2 : plA Try.prog 43 2 = some (2, 1) := by kernel_rfl
@[go_sem] theorem partTy_43_2 : partTy Try.prog 43 2 = 3 := by kernel_rfl
@[go_sem] theorem eqKs_43 : eqKs Try.prog 43 = some [.int .i64, .int .i64, .int .i64] := by kernel_rfl
@[go_sem] theorem tyA_44 : tyA Try.prog 44 = some (true, 3) := by kernel_rfl
@[go_sem] theorem bytesA_44 : bytesA Try.prog 44 = false := by kernel_rfl
@[go_sem] theorem knownA_44 : knownA Try.prog 44 = true := by kernel_rfl
@[go_sem] theorem concA_44 : concA Try.prog 44 = true := by kernel_rfl
@[go_sem] theorem ikA_44 : ikA Try.prog 44 = none := by kernel_rfl
@[go_sem] theorem zeroA_44 : zeroA Try.prog 44 = some [.int .i64 0, .int .i64 0, .int .i64 0] := by kernel_rfl
@[go_sem] theorem slA_44 : slA Try.prog 44 = none := by kernel_rfl
@[go_sem] theorem fsOk_44 : fsOk Try.prog 44 = true := by kernel_rfl
@[go_sem] theorem fldA_44_0 : fldA Try.prog 44 0 = some 0 := by kernel_rfl
@[go_sem] theorem fpA_44_0 : fpA Try.prog 44 0 = some (0, false, 1) := by kernel_rfl
@[go_sem] theorem plA_44_0 : plA Try.prog 44 0 = some (0, 1) := by kernel_rfl
@[go_sem] theorem partTy_44_0 : partTy Try.prog 44 0 = 3 := by kernel_rfl
@[go_sem] theorem fldA_44_1 : fldA Try.prog 44 1 = some 1 := by kernel_rfl
@[go_sem] theorem fpA_44_1 : fpA Try.prog 44 1 = some (1, false, 1) := by kernel_rfl
@[go_sem] theorem plA_44_1 : plA Try.prog 44 1 = some (1, 1) := by kernel_rfl
@[go_sem] theorem partTy_44_1 : partTy Try.prog 44 1 = 3 := by kernel_rfl
@[go_sem] theorem fldA_44_2 : fldA Try.prog 44 2 = some 2 := by kernel_rfl
@[go_sem] theorem fpA_44_2 : fpA Try.prog 44 2 = some (2, false, 1) := by kernel_rfl
@[go_sem] theorem plA_44_2 : plA Try.prog 44 2 = some (2, 1) := by kernel_rfl
@[go_sem] theorem partTy_44_2 : partTy Try.prog 44 2 = 3 := by kernel_rfl
@[go_sem] theorem eqKs_44 : eqKs Try.prog 44 = some [.int .i64, .int .i64, .int .i64] := by kernel_rfl
@[go_sem] theorem tyA_46 : tyA Try.prog 46 = some (false, 1) := by kernel_rfl
@[go_sem] theorem bytesA_46 : bytesA Try.prog 46 = false := by kernel_rfl
@[go_sem] theorem knownA_46 : knownA Try.prog 46 = true := by kernel_rfl
@[go_sem] theorem concA_46 : concA Try.prog 46 = true := by kernel_rfl
@[go_sem] theorem ikA_46 : ikA Try.prog 46 = none := by kernel_rfl
@[go_sem] theorem zeroA_46 : zeroA Try.prog 46 = some [.raw .nilFunc] := by kernel_rfl
@[go_sem] theorem slA_46 : slA Try.prog 46 = none := by kernel_rfl
@[go_sem] theorem tyA_47 : tyA Try.prog 47 = some (true, 3) := by kernel_rfl
@[go_sem] theorem bytesA_47 : bytesA Try.prog 47 = false := by kernel_rfl
@[go_sem] theorem knownA_47 : knownA Try.prog 47 = true := by kernel_rfl
@[go_sem] theorem concA_47 : concA Try.prog 47 = true := by kernel_rfl
@[go_sem] theorem ikA_47 : ikA Try.prog 47 = none := by kernel_rfl
@[go_sem] theorem zeroA_47 : zeroA Try.prog 47 = some [.int .i64 0, .int .i64 0, .int .i64 0] := by kernel_rfl
@[go_sem] theorem slA_47 : slA Try.prog 47 = none := by kernel_rfl
@[go_sem] theorem fsOk_47 : fsOk Try.prog 47 = true := by kernel_rfl
@[go_sem] theorem fldA_47_0 : fldA Try.prog 47 0 = some 0 := by kernel_rfl
@[go_sem] theorem fpA_47_0 : fpA Try.prog 47 0 = some (0, false, 1) := by kernel_rfl
@[go_sem] theorem plA_47_0 : plA Try.prog 47 0 = some (0, 1) := by kernel_rfl
@[go_sem] theorem partTy_47_0 : partTy Try.prog 47 0 = 3 := by kernel_rfl
@[go_sem] theorem fldA_47_1 : fldA Try.prog 47 1 = some 1 := by kernel_rfl
@[go_sem] theorem fpA_47_1 : fpA Try.prog 47 1 = some (1, false, 1) := by kernel_rfl
@[go_sem] theorem plA_47_1 : plA Try.prog 47 1 = some (1, 1) := by kernel_rfl
@[go_sem] theorem partTy_47_1 : partTy Try.prog 47 1 = 3 := by kernel_rfl
@[go_sem] theorem fldA_47_2 : fldA Try.prog 47 2 = some 2 := by kernel_rfl
@[go_sem] theorem fpA_47_2 : fpA Try.prog 47 2 = some (2, false, 1) := by kernel_rfl
@[go_sem] theorem plA_47_2 : plA Try.prog 47 2 = some (2, 1) := by kernel_rfl
@[go_sem] theorem partTy_47_2 : partTy Try.prog 47 2 = 3 := by kernel_rfl
@[go_sem] theorem eqKs_47 : eqKs Try.prog 47 = some [.int .i64, .int .i64, .int .i64] := by kernel_rfl
@[go_sem] theorem tyA_49 : tyA Try.prog 49 = some (false, 1) := by kernel_rfl
@[go_sem] theorem bytesA_49 : bytesA Try.prog 49 = false := by kernel_rfl
@[go_sem] theorem knownA_49 : knownA Try.prog 49 = true := by kernel_rfl
@[go_sem] theorem concA_49 : concA Try.prog 49 = true := by kernel_rfl
@[go_sem] theorem ikA_49 : ikA Try.prog 49 = none := by kernel_rfl
@[go_sem] theorem zeroA_49 : zeroA Try.prog 49 = some [.raw .nilFunc] := by kernel_rfl
@[go_sem] theorem slA_49 : slA Try.prog 49 = none := by kernel_rfl
@[go_sem] theorem tyA_51 : tyA Try.prog 51 = some (false, 1) := by kernel_rfl
@[go_sem] theorem bytesA_51 : bytesA Try.prog 51 = false := by kernel_rfl
@[go_sem] theorem knownA_51 : knownA Try.prog 51 = true := by kernel_rfl
@[go_sem] theorem concA_51 : concA Try.prog 51 = true := by kernel_rfl
@[go_sem] theorem ikA_51 : ikA Try.prog 51 = none := by kernel_rfl
@[go_sem] theorem zeroA_51 : zeroA Try.prog 51 = some [.raw .nilFunc] := by kernel_rfl
@[go_sem] theorem slA_51 : slA Try.prog 51 = none := by kernel_rfl
@[go_sem] theorem tyA_52 : tyA Try.prog 52 = some (false, 1) := by kernel_rfl
@[go_sem] theorem bytesA_52 : bytesA Try.prog 52 = false := by kernel_rfl
@[go_sem] theorem knownA_52 : knownA Try.prog 52 = true := by kernel_rfl
@[go_sem] theorem concA_52 : concA Try.prog 52 = true := by kernel_rfl
@[go_sem] theorem ikA_52 : ikA Try.prog 52 = none := by kernel_rfl
@[go_sem] theorem zeroA_52 : zeroA Try.prog 52 = some [.raw .nilFunc] := by kernel_rfl
@[go_sem] theorem slA_52 : slA Try.prog 52 = none := by kernel_rfl
@[go_sem] theorem tyA_53 : tyA Try.prog 53 = some (false, 1) := by kernel_rfl
@[go_sem] theorem bytesA_53 : bytesA Try.prog 53 = false := by kernel_rfl
@[go_sem] theorem knownA_53 : knownA Try.prog 53 = true := by kernel_rfl
@[go_sem] theorem concA_53 : concA Try.prog 53 = true := by kernel_rfl
@[go_sem] theorem ikA_53 : ikA Try.prog 53 = none := by kernel_rfl
@[go_sem] theorem zeroA_53 : zeroA Try.prog 53 = some [.raw .nilFunc] := by kernel_rfl
@[go_sem] theorem slA_53 : slA Try.prog 53 = none := by kernel_rfl
@[go_sem] theorem tyA_54 : tyA Try.prog 54 = some (false, 1) := by kernel_rfl
@[go_sem] theorem bytesA_54 : bytesA Try.prog 54 = false := by kernel_rfl
@[go_sem] theorem knownA_54 : knownA Try.prog 54 = true := by kernel_rfl
@[go_sem] theorem concA_54 : concA Try.prog 54 = true := by kernel_rfl
@[go_sem] theorem ikA_54 : ikA Try.prog 54 = none := by kernel_rfl
@[go_sem] theorem zeroA_54 : zeroA Try.prog 54 = some [.raw .nilFunc] := by kernel_rfl
@[go_sem] theorem slA_54 : slA Try.prog 54 = none := by kernel_rfl
@[go_sem] theorem tyA_55 : tyA Try.prog 55 = some (false, 1) := by kernel_rfl
@[go_sem] theorem bytesA_55 : bytesA Try.prog 55 = false := by kernel_rfl
@[go_sem] theorem knownA_55 : knownA Try.prog 55 = true := by kernel_rfl
@[go_sem] theorem concA_55 : concA Try.prog 55 = true := by kernel_rfl
@[go_sem] theorem ikA_55 : ikA Try.prog 55 = none := by kernel_rfl
@[go_sem] theorem zeroA_55 : zeroA Try.prog 55 = some [.raw .nilFunc] := by kernel_rfl
@[go_sem] theorem slA_55 : slA Try.prog 55 = none := by kernel_rfl
@[go_sem] theorem tyA_57 : tyA Try.prog 57 = some (false, 1) := by kernel_rfl
@[go_sem] theorem bytesA_57 : bytesA Try.prog 57 = false := by kernel_rfl
@[go_sem] theorem knownA_57 : knownA Try.prog 57 = true := by kernel_rfl
@[go_sem] theorem concA_57 : concA Try.prog 57 = true := by kernel_rfl
@[go_sem] theorem ikA_57 : ikA Try.prog 57 = none := by kernel_rfl
@[go_sem] theorem zeroA_57 : zeroA Try.prog 57 = some [.raw .nilFunc] := by kernel_rfl
@[go_sem] theorem slA_57 : slA Try.prog 57 = none := by kernel_rfl
@[go_sem] theorem tyA_58 : tyA Try.prog 58 = some (false, 1) := by kernel_rfl
@[go_sem] theorem bytesA_58 : bytesA Try.prog 58 = false := by kernel_rfl
@[go_sem] theorem knownA_58 : knownA Try.prog 58 = true := by kernel_rfl
@[go_sem] theorem concA_58 : concA Try.prog 58 = true := by kernel_rfl
@[go_sem] theorem ikA_58 : ikA Try.prog 58 = none := by kernel_rfl
@[go_sem] theorem zeroA_58 : zeroA Try.prog 58 = some [.raw .nilFunc] := by kernel_rfl
@[go_sem] theorem slA_58 : slA Try.prog 58 = none := by kernel_rfl
@[go_sem] theorem tyA_59 : tyA Try.prog 59 = some (false, 1) := by kernel_rfl
@[go_sem] theorem bytesA_59 : bytesA Try.prog 59 = false := by kernel_rfl
@[go_sem] theorem knownA_59 : knownA Try.prog 59 = true := by kernel_rfl
@[go_sem] theorem concA_59 : concA Try.prog 59 = true := by kernel_rfl
@[go_sem] theorem ikA_59 : ikA Try.prog 59 = none := by kernel_rfl
@[go_sem] theorem zeroA_59 : zeroA Try.prog 59 = some [.raw .nilFunc] := by kernel_rfl
@[go_sem] theorem slA_59 : slA Try.prog 59 = none := by kernel_rfl
@[go_sem] theorem tyA_60 : tyA Try.prog 60 = some (false, 1) := by kernel_rfl
@[go_sem] theorem bytesA_60 : bytesA Try.prog 60 = false := by kernel_rfl
@[go_sem] theorem knownA_60 : knownA Try.prog 60 = true := by kernel_rfl
@[go_sem] theorem concA_60 : concA Try.prog 60 = true := by kernel_rfl
@[go_sem] theorem ikA_60 : ikA Try.prog 60 = none := by kernel_rfl
@[go_sem] theorem zeroA_60 : zeroA Try.prog 60 = some [.sl 1 [] .nil] := by kernel_rfl
@[go_sem] theorem slA_60 : slA Try.prog 60 = some 1 := by kernel_rfl
@[go_sem] theorem mkA_60 : mkA Try.prog 60 = some ([.int .i64 0], 8) := by kernel_rfl
@[go_sem] theorem apA_60 : apA Try.prog 60 = some (1, 8) := by kernel_rfl
@[go_sem] theorem partTy_60 (i : Nat) : partTy Try.prog 60 i = 3 := rfl_of_partTy (by kernel_rfl)
@[go_sem] theorem tyA_61 : tyA Try.prog 61 = some (false, 1) := by kernel_rfl
@[go_sem] theorem bytesA_61 : bytesA Try.prog 61 = false := by kernel_rfl
@[go_sem] theorem knownA_61 : knownA Try.prog 61 = true := by kernel_rfl
@[go_sem] theorem concA_61 : concA Try.prog 61 = true := by kernel_rfl
@[go_sem] theorem ikA_61 : ikA Try.prog 61 = none := by kernel_rfl
@[go_sem] theorem zeroA_61 : zeroA Try.prog 61 = some [.raw .nilFunc] := by kernel_rfl
@[go_sem] theorem slA_61 : slA Try.prog 61 = none := by kernel_rfl
@[go_sem] theorem tyA_62 : tyA Try.prog 62 = some (false, 1) := by kernel_rfl
@[go_sem] theorem bytesA_62 : bytesA Try.prog 62 = false := by kernel_rfl
@[go_sem] theorem knownA_62 : knownA Try.prog 62 = true := by kernel_rfl
@[go_sem] theorem concA_62 : concA Try.prog 62 = true := by kernel_rfl
@[go_sem] theorem ikA_62 : ikA Try.prog 62 = none := by kernel_rfl
@[go_sem] theorem zeroA_62 : zeroA Try.prog 62 = some [.raw .nilFunc] := by kernel_rfl
@[go_sem] theorem slA_62 : slA Try.prog 62 = none := by kernel_rfl
@[go_sem] theorem tyA_63 : tyA Try.prog 63 = some (false, 1) := by kernel_rfl
@[go_sem] theorem bytesA_63 : bytesA Try.prog 63 = false := by kernel_rfl
@[go_sem] theorem knownA_63 : knownA Try.prog 63 = true := by kernel_rfl
@[go_sem] theorem concA_63 : concA Try.prog 63 = true := by kernel_rfl
@[go_sem] theorem ikA_63 : ikA Try.prog 63 = none := by kernel_rfl
@[go_sem] theorem zeroA_63 : zeroA Try.prog 63 = some [.raw .nilFunc] := by kernel_rfl
@[go_sem] theorem slA_63 : slA Try.prog 63 = none := by kernel_rfl
@[go_sem] theorem tyA_64 : tyA Try.prog 64 = some (false, 1) := by kernel_rfl
@[go_sem] theorem bytesA_64 : bytesA Try.prog 64 = false := by kernel_rfl
@[go_sem] theorem knownA_64 : knownA Try.prog 64 = true := by kernel_rfl
@[go_sem] theorem concA_64 : concA Try.prog 64 = true := by kernel_rfl
@[go_sem] theorem ikA_64 : ikA Try.prog 64 = none := by kernel_rfl
@[go_sem] theorem zeroA_64 : zeroA Try.prog 64 = some [.raw .nilFunc] := by kernel_rfl
@[go_sem] theorem slA_64 : slA Try.prog 64 = none := by kernel_rfl
@[go_sem] theorem tyA_65 : tyA Try.prog 65 = some (false, 1) := by kernel_rfl
@[go_sem] theorem bytesA_65 : bytesA Try.prog 65 = false := by kernel_rfl
@[go_sem] theorem knownA_65 : knownA Try.prog 65 = true := by kernel_rfl
@[go_sem] theorem concA_65 : concA Try.prog 65 = true := by kernel_rfl
@[go_sem] theorem ikA_65 : ikA Try.prog 65 = none := by kernel_rfl
@[go_sem] theorem zeroA_65 : zeroA Try.prog 65 = some [.sl 6 [] .nil] := by kernel_rfl
@[go_sem] theorem slA_65 : slA Try.prog 65 = some 6 := by kernel_rfl
@[go_sem] theorem mkA_65 : mkA Try.prog 65 = some ([.int .i64 0, .int .i64 0, .int .i64 0, .int .i64 0, .int .i64 0, .int .i64 0], 48) := by kernel_rfl
@[go_sem] theorem apA_65 : apA Try.prog 65 = some (6, 48) := by kernel_rfl
@[go_sem] theorem partTy_65 (i : Nat) : partTy Try.prog 65 i = 68 := rfl_of_partTy (by kernel_rfl)
@[go_sem] theorem tyA_66 : tyA Try.prog 66 = some (false, 1) := by kernel_rfl
@[go_sem] theorem bytesA_66 : bytesA Try.prog 66 = false := by kernel_rfl
@[go_sem] theorem knownA_66 : knownA Try.prog 66 = true := by kernel_rfl
@[go_sem] theorem concA_66 : concA Try.prog 66 = true := by kernel_rfl
@[go_sem] theorem ikA_66 : ikA Try.prog 66 = none := by kernel_rfl
@[go_sem] theorem zeroA_66 : zeroA Try.prog 66 = some [.sl 1 [] .nil] := by kernel_rfl
@[go_sem] theorem slA_66 : slA Try.prog 66 = some 1 := by kernel_rfl
@[go_sem] theorem mkA_66 : mkA Try.prog 66 = some ([.sl 6 [] .nil], 24) := by kernel_rfl
@[go_sem] theorem apA_66 : apA Try.prog 66 = some (1, 24) := by kernel_rfl
@[go_sem] theorem partTy_66 (i : Nat) : partTy Try.prog 66 i = 65 := rfl_of_partTy (by kernel_rfl)
@[go_sem] theorem tyA_67 : tyA Try.prog 67 = some (true, 6) := by kernel_rfl
@[go_sem] theorem bytesA_67 : bytesA Try.prog 67 = false := by kernel_rfl
@[go_sem] theorem knownA_67 : knownA Try.prog 67 = true := by kernel_rfl
@[go_sem] theorem concA_67 : concA Try.prog 67 = true := by kernel_rfl
@[go_sem] theorem ikA_67 : ikA Try.prog 67 = none := by kernel_rfl
@[go_sem] theorem zeroA_67 : zeroA Try.prog 67 = some [.int .i64 0, .int .i64 0, .int .i64 0, .int .i64 0, .int .i64 0, .int .i64 0] := by kernel_rfl
@[go_sem] theorem slA_67 : slA Try.prog 67 = none := by kernel_rfl
@[go_sem] theorem fsOk_67 : fsOk Try.prog 67 = true := by kernel_rfl
@[go_sem] theorem fldA_67_0 : fldA Try.prog 67 0 = some 0 := by kernel_rfl
@[go_sem] theorem fpA_67_0 : fpA Try.prog 67 0 = some (0, true, 4) := by kernel_rfl
@[go_sem] theorem plA_67_0 : plA Try.prog 67 0 = some (0, 4) := by kernel_rfl
@[go_sem] theorem partTy_67_0 : partTy Try.prog 67 0 = 23 := by kernel_rfl
@[go_sem] theorem fldA_67_1 : fldA Try.prog 67 1 = some 4 := by kernel_rfl
@[go_sem] theorem fpA_67_1 : fpA Try.prog 67 1 = some (4, false, 1) := by kernel_rfl
@[go_sem] theorem plA_67_1 : plA Try.prog 67 1 = some (4, 1) := by kernel_rfl
@[go_sem] theorem partTy_67_1 : partTy Try.prog 67 1 = 3 := by kernel_rfl
@[go_sem] theorem fldA_67_2 : fldA Try.prog 67 2 = some 5 := by kernel_rfl
@[go_sem] theorem fpA_67_2 : fpA Try.prog 67 2 = some (5, false, 1) := by kernel_rfl
@[go_sem] theorem plA_67_2 : plA Try.prog 67 2 = some (5, 1) := by kernel_rfl
@[go_sem] theorem partTy_67_2 : partTy Try.prog 67 2 = 3 := by kernel_rfl
@[go_sem] theorem tyA_68 : tyA Try.prog 68 = some (true, 6) := by kernel_rfl
@[go_sem] theorem bytesA_68 : bytesA Try.prog 68 = false := by kernel_rfl
@[go_sem] theorem knownA_68 : knownA Try.prog 68 = true := by kernel_rfl
@[go_sem] theorem concA_68 : concA Try.prog 68 = true := by kernel_rfl
@[go_sem] theorem ikA_68 : ikA Try.prog 68 = none := by kernel_rfl
@[go_sem] theorem zeroA_68 : zeroA Try.prog 68 = some [.int .i64 0, .int .i64 0, .int .i64 0, .int .i64 0, .int .i64 0, .int .i64 0] := by kernel_rfl
@[go_sem] theorem slA_68 : slA Try.prog 68 = none := by kernel_rfl
@[go_sem] theorem fsOk_68 : fsOk Try.prog 68 = true := by kernel_rfl
@[go_sem] theorem fldA_68_0 : fldA Try.prog 68 0 = some 0 := by kernel_rfl
@[go_sem] theorem fpA_68_0 : fpA Try.prog 68 0 = some (0, true, 4) := by kernel_rfl
@[go_sem] theorem plA_68_0 : plA Try.prog 68 0 = some (0, 4) := by kernel_rfl
@[go_sem] theorem partTy_68_0 : partTy Try.prog 68 0 = 23 := by kernel_rfl
@[go_sem] theorem fldA_68_1 : fldA Try.prog 68 1 = some 4 := by kernel_rfl
@[go_sem] theorem fpA_68_1 : fpA Try.prog 68 1 = some (4, false, 1) := by kernel_rfl
@[go_sem] theorem plA_68_1 : plA Try.prog 68 1 = some (4, 1) := by kernel_rfl
@[go_sem] theorem partTy_68_1 : partTy Try.prog 68 1 = 3 := by kernel_rfl
@[go_sem] theorem fldA_68_2 : fldA Try.prog 68 2 = some 5 := by kernel_rfl
@[go_sem] theorem fpA_68_2 : fpA Try.prog 68 2 = some (5, false, 1) := by kernel_rfl
@[go_sem] theorem plA_68_2 : plA Try.prog 68 2 = some (5, 1) := by kernel_rfl
@[go_sem] theorem partTy_68_2 : partTy Try.prog 68 2 = 3 := by kernel_rfl
@[go_sem] theorem tyA_69 : tyA Try.prog 69 = some (false, 1) := by kernel_rfl
@[go_sem] theorem bytesA_69 : bytesA Try.prog 69 = false := by kernel_rfl
@[go_sem] theorem knownA_69 : knownA Try.prog 69 = true := by kernel_rfl
@[go_sem] theorem concA_69 : concA Try.prog 69 = true := by kernel_rfl
@[go_sem] theorem ikA_69 : ikA Try.prog 69 = none := by kernel_rfl
@[go_sem] theorem zeroA_69 : zeroA Try.prog 69 = some [.raw .nilFunc] := by kernel_rfl
@[go_sem] theorem slA_69 : slA Try.prog 69 = none := by kernel_rfl
@[go_sem] theorem tyA_70 : tyA Try.prog 70 = some (false, 1) := by kernel_rfl
@[go_sem] theorem bytesA_70 : bytesA Try.prog 70 = false := by kernel_rfl
@[go_sem] theorem knownA_70 : knownA Try.prog 70 = true := by kernel_rfl
@[go_sem] theorem concA_70 : concA Try.prog 70 = true := by kernel_rfl
@[go_sem] theorem ikA_70 : ikA Try.prog 70 = none := by kernel_rfl
@[go_sem] theorem zeroA_70 : zeroA Try.prog 70 = some [.sl 2 [] .nil] := by kernel_rfl
@[go_sem] theorem slA_70 : slA Try.prog 70 = some 2 := by kernel_rfl
@[go_sem] theorem mkA_70 : mkA Try.prog 70 = some ([.int .i64 0, .int .i64 0], 16) := by kernel_rfl
@[go_sem] theorem apA_70 : apA Try.prog 70 = some (2, 16) := by kernel_rfl
@[go_sem] theorem partTy_70 (i : Nat) : partTy Try.prog 70 i = 71 := rfl_of_partTy (by kernel_rfl)
@[go_sem] theorem tyA_71 : tyA Try.prog 71 = some (true, 2) := by kernel_rfl
@[go_sem] theorem bytesA_71 : bytesA Try.prog 71 = false := by kernel_rfl
@[go_sem] theorem knownA_71 : knownA Try.prog 71 = true := by kernel_rfl
@[go_sem] theorem concA_71 : concA Try.prog 71 = true := by kernel_rfl
@[go_sem] theorem ikA_71 : ikA Try.prog 71 = none := by kernel_rfl
@[go_sem] theorem zeroA_71 : zeroA Try.prog 71 = some [.int .i64 0, .int .i64 0] := by kernel_rfl
@[go_sem] theorem slA_71 : slA Try.prog 71 = none := by kernel_rfl
@[go_sem] theorem eqKs_71 : eqKs Try.prog 71 = some [.int .i64, .int .i64] := by kernel_rfl
@[go_sem] theorem arA_71 : arA Try.prog 71 = some (2, 1) := by kernel_rfl
@[go_sem] theorem avA_71 : avA Try.prog 71 = some (2, false, 1) := by kernel_rfl
@[go_sem] theorem fsOk_71 : fsOk Try.prog 71 = true := by kernel_rfl
@[go_sem] theorem plA_71_0 : plA Try.prog 71 0 = some (0, 1) := by kernel_rfl
@[go_sem] theorem partTy_71_0 : partTy Try.prog 71 0 = 3 := by kernel_rfl
@[go_sem] theorem plA_71_1 : plA Try.prog 71 1 = some (1, 1) := by kernel_rfl
@[go_sem] theorem partTy_71_1 : partTy Try.prog 71 1 = 3 := by kernel_rfl
@[go_sem] theorem tyA_72 : tyA Try.prog 72 = some (false, 1) := by kernel_rfl
@[go_sem] theorem bytesA_72 : bytesA Try.prog 72 = false := by kernel_rfl
@[go_sem] theorem knownA_72 : knownA Try.prog 72 = true := by kernel_rfl
@[go_sem] theorem concA_72 : concA Try.prog 72 = true := by kernel_rfl
@[go_sem] theorem ikA_72 : ikA Try.prog 72 = none := by kernel_rfl
@[go_sem] theorem zeroA_72 : zeroA Try.prog 72 = some [.raw .nilFunc] := by kernel_rfl
@[go_sem] theorem slA_72 : slA Try.prog 72 = none := by kernel_rfl
@[go_sem] theorem tyA_73 : tyA Try.prog 73 = some (false, 1) := by kernel_rfl
@[go_sem] theorem bytesA_73 : bytesA Try.prog 73 = false := by kernel_rfl
@[go_sem] theorem knownA_73 : knownA Try.prog 73 = true := by kernel_rfl
@[go_sem] theorem concA_73 : concA Try.prog 73 = true := by kernel_rfl
@[go_sem] theorem ikA_73 : ikA Try.prog 73 = none := by kernel_rfl
@[go_sem] theorem zeroA_73 : zeroA Try.prog 73 = some [.raw .nilFunc] := by kernel_rfl
@[go_sem] theorem slA_73 : slA Try.prog 73 = none := by kernel_rfl
@[go_sem] theorem tyA_74 : tyA Try.prog 74 = some (false, 1) := by kernel_rfl
@[go_sem] theorem bytesA_74 : bytesA Try.prog 74 = false := by kernel_rfl
@[go_sem] theorem knownA_74 : knownA Try.prog 74 = true := by kernel_rfl
@[go_sem] theorem concA_74 : concA Try.prog 74 = true := by kernel_rfl
@[go_sem] theorem ikA_74 : ikA Try.prog 74 = none := by kernel_rfl
@[go_sem] theorem zeroA_74 : zeroA Try.prog 74 = some [.raw .nilFunc] := by kernel_rfl
@[go_sem] theorem slA_74 : slA Try.prog 74 = none := by kernel_rfl
@[go_sem] theorem tyA_76 : tyA Try.prog 76 = some (false, 1) := by kernel_rfl
@[go_sem] theorem bytesA_76 : bytesA Try.prog 76 = false := by kernel_rfl
@[go_sem] theorem knownA_76 : knownA Try.prog 76 = true := by kernel_rfl
@[go_sem] theorem concA_76 : concA Try.prog 76 = true := by kernel_rfl
@[go_sem] theorem ikA_76 : ikA Try.prog 76 = none := by kernel_rfl
@[go_sem] theorem zeroA_76 : zeroA Try.prog 76 = some [.raw .nilFunc] := by kernel_rfl
@[go_sem] theorem slA_76 : slA Try.prog 76 = none := by kernel_rfl
@[go_sem] theorem tyA_77 : tyA Try.prog 77 = some (false, 1) := by kernel_rfl
@[go_sem] theorem bytesA_77 : bytesA Try.prog 77 = false := by kernel_rfl
@[go_sem] theorem knownA_77 : knownA Try.prog 77 = true := by kernel_rfl
@[go_sem] theorem concA_77 : concA Try.prog 77 = true := by kernel_rfl
@[go_sem] theorem ikA_77 : ikA Try.prog 77 = none := by kernel_rfl
@[go_sem] theorem zeroA_77 : zeroA Try.prog 77 = some [.raw .nilFunc] := by kernel_rfl
@[go_sem] theorem slA_77 : slA Try.prog 77 = none := by kernel_rfl
@[go_sem] theorem tyA_78 : tyA Try.prog 78 = some (false, 1) := by kernel_rfl
@[go_sem] theorem bytesA_78 : bytesA Try.prog 78 = false := by kernel_rfl
@[go_sem] theorem knownA_78 : knownA Try.prog 78 = true := by kernel_rfl
@[go_sem] theorem concA_78 : concA Try.prog 78 = true := by kernel_rfl
@[go_sem] theorem ikA_78 : ikA Try.prog 78 = none := by kernel_rfl
@[go_sem] theorem zeroA_78 : zeroA Try.prog 78 = some [.raw .nilFunc] := by kernel_rfl
@[go_sem] theorem slA_78 : slA Try.prog 78 = none := by kernel_rfl
@[go_sem] theorem tyA_79 : tyA Try.prog 79 = some (false, 1) := by kernel_rfl
@[go_sem] theorem bytesA_79 : bytesA Try.prog 79 = false := by kernel_rfl
@[go_sem] theorem knownA_79 : knownA Try.prog 79 = true := by kernel_rfl
@[go_sem] theorem concA_79 : concA Try.prog 79 = true := by kernel_rfl
@[go_sem] theorem ikA_79 : ikA Try.prog 79 = none := by kernel_rfl
@[go_sem] theorem zeroA_79 : zeroA Try.prog 79 = some [.sl 1 [] .nil] := by kernel_rfl
@[go_sem] theorem slA_79 : slA Try.prog 79 = some 1 := by kernel_rfl
@[go_sem] theorem mkA_79 : mkA Try.prog 79 = some ([.sl 1 [] .nil], 24) := by kernel_rfl
@[go_sem] theorem apA_79 : apA Try.prog 79 = some (1, 24) := by kernel_rfl
@[go_sem] theorem partTy_79 (i : Nat) : partTy Try.prog 79 i = 60 := rfl_of_partTy (by kernel_rfl)
@[go_sem] theorem tyA_80 : tyA Try.prog 80 = some (false, 1) := by kernel_rfl
@[go_sem] theorem bytesA_80 : bytesA Try.prog 80 = false := by kernel_rfl
@[go_sem] theorem knownA_80 : knownA Try.prog 80 = true := by kernel_rfl
@[go_sem] theorem concA_80 : concA Try.prog 80 = true := by kernel_rfl
@[go_sem] theorem ikA_80 : ikA Try.prog 80 = none := by kernel_rfl
@[go_sem] theorem zeroA_80 : zeroA Try.prog 80 = some [.raw .nilFunc] := by kernel_rfl
@[go_sem] theorem slA_80 : slA Try.prog 80 = none := by kernel_rfl
@[go_sem] theorem tyA_81 : tyA Try.prog 81 = some (false, 1) := by kernel_rfl
@[go_sem] theorem bytesA_81 : bytesA Try.prog 81 = false := by kernel_rfl
@[go_sem] theorem knownA_81 : knownA Try.prog 81 = true := by kernel_rfl
@[go_sem] theorem concA_81 : concA Try.prog 81 = true := by kernel_rfl
@[go_sem] theorem ikA_81 : ikA Try.prog 81 = none := by kernel_rfl
@[go_sem] theorem zeroA_81 : zeroA Try.prog 81 = some [.raw .nilFunc] := by kernel_rfl
@[go_sem] theorem slA_81 : slA Try.prog 81 = none := by kernel_rfl
@[go_sem] theorem tyA_83 : tyA Try.prog 83 = some (false, 1) := by kernel_rfl
@[go_sem] theorem bytesA_83 : bytesA Try.prog 83 = false := by kernel_rfl
@[go_sem] theorem knownA_83 : knownA Try.prog 83 = true := by kernel_rfl
@[go_sem] theorem concA_83 : concA Try.prog 83 = true := by kernel_rfl
@[go_sem] theorem ikA_83 : ikA Try.prog 83 = none := by kernel_rfl
@[go_sem] theorem zeroA_83 : zeroA Try.prog 83 = some [.raw .nilFunc] := by kernel_rfl
@[go_sem] theorem slA_83 : slA Try.prog 83 = none := by kernel_rfl
@[go_sem] theorem tyA_84 : tyA Try.prog 84 = some (false, 1) := by kernel_rfl
@[go_sem] theorem bytesA_84 : bytesA Try.prog 84 = false := by kernel_rfl
@[go_sem] theorem knownA_84 : knownA Try.prog 84 = true := by kernel_rfl
@[go_sem] theorem concA_84 : concA Try.prog 84 = true := by kernel_rfl
@[go_sem] theorem ikA_84 : ikA Try.prog 84 = none := by kernel_rfl
@[go_sem] theorem zeroA_84 : zeroA Try.prog 84 = some [.raw .nilFunc] := by kernel_rfl
@[go_sem] theorem slA_84 : slA Try.prog 84 = none := by kernel_rfl
@[go_sem] theorem tyA_85 : tyA Try.prog 85 = some (false, 1) := by kernel_rfl
@[go_sem] theorem bytesA_85 : bytesA Try.prog 85 = false := by kernel_rfl
@[go_sem] theorem knownA_85 : knownA Try.prog 85 = true := by kernel_rfl
@[go_sem] theorem concA_85 : concA Try.prog 85 = true := by kernel_rfl
@[go_sem] theorem ikA_85 : ikA Try.prog 85 = none := by kernel_rfl
@[go_sem] theorem zeroA_85 : zeroA Try.prog 85 = some [.raw .nilFunc] := by kernel_rfl
@[go_sem] theorem slA_85 : slA Try.prog 85 = none := by kernel_rfl
@[go_sem] theorem tyA_86 : tyA Try.prog 86 = some (false, 1) := by kernel_rfl
@[go_sem] theorem bytesA_86 : bytesA Try.prog 86 = false := by kernel_rfl
@[go_sem] theorem knownA_86 : knownA Try.prog 86 = true := by kernel_rfl
@[go_sem] theorem concA_86 : concA Try.prog 86 = true := by kernel_rfl
@[go_sem] theorem ikA_86 : ikA Try.prog 86 = none := by kernel_rfl
@[go_sem] theorem zeroA_86 : zeroA Try.prog 86 = some [.raw .nilFunc] := by kernel_rfl
@[go_sem] theorem slA_86 : slA Try.prog 86 = none := by kernel_rfl
@[go_sem] theorem tyA_87 : tyA Try.prog 87 = some (false, 1) := by kernel_rfl
@[go_sem] theorem bytesA_87 : bytesA Try.prog 87 = false := by kernel_rfl
@[go_sem] theorem knownA_87 : knownA Try.prog 87 = true := by kernel_rfl
@[go_sem] theorem concA_87 : concA Try.prog 87 = true := by kernel_rfl
@[go_sem] theorem ikA_87 : ikA Try.prog 87 = none := by kernel_rfl
@[go_sem] theorem zeroA_87 : zeroA Try.prog 87 = some [.sl 5 [] .nil] := by kernel_rfl
@[go_sem] theorem slA_87 : slA Try.prog 87 = some 5 := by kernel_rfl
@[go_sem] theorem mkA_87 : mkA Try.prog 87 = some ([.int .i64 0, .int .i64 0, .int .i64 0, .int .i64 0, .int .i64 0], 40) := by kernel_rfl
@[go_sem] theorem apA_87 : apA Try.prog 87 = some (5, 40) := by kernel_rfl
@[go_sem] theorem partTy_87 (i : Nat) : partTy Try.prog 87 i = 117 := rfl_of_partTy (by kernel_rfl)
@[go_sem] theorem tyA_88 : tyA Try.prog 88 = some (true, 3) := by kernel_rfl
@[go_sem] theorem bytesA_88 : bytesA Try.prog 88 = false := by kernel_rfl
@[go_sem] theorem knownA_88 : knownA Try.prog 88 = true := by kernel_rfl
@[go_sem] theorem concA_88 : concA Try.prog 88 = true := by kernel_rfl
@[go_sem] theorem ikA_88 : ikA Try.prog 88 = none := by kernel_rfl
@[go_sem] theorem zeroA_88 : zeroA Try.prog 88 = some [.sl 1 [] .nil, .sl 1 [] .nil, .sl 1 [] .nil] := by kernel_rfl
@[go_sem] theorem slA_88 : slA Try.prog 88 = none := by kernel_rfl
@[go_sem] theorem fsOk_88 : fsOk Try.prog 88 = true := by kernel_rfl
@[go_sem] theorem fldA_88_0 : fldA Try.prog 88 0 = some 0 := by kernel_rfl
@[go_sem] theorem fpA_88_0 : fpA Try.prog 88 0 = some (0, false, 1) := by kernel_rfl
@[go_sem] theorem plA_88_0 : plA Try.prog 88 0 = some (0, 1) := by kernel_rfl
@[go_sem] theorem partTy_88_0 : partTy Try.prog 88 0 = 60 := by kernel_rfl
@[go_sem] theorem fldA_88_1 : fldA Try.prog 88 1 = some 1 := by kernel_rfl
@[go_sem] theorem fpA_88_1 : fpA Try.prog 88 1 = some (1, false, 1) := by kernel_rfl
@[go_sem] theorem plA_88_1 : plA Try.prog 88 1 = some (1, 1) := by kernel_rfl
@[go_sem] theorem partTy_88_1 : partTy Try.prog 88 1 = 79 := by kernel_rfl
@[go_sem] theorem fldA_88_2 : fldA Try.prog 88 2 = some 2 := by kernel_rfl
@[go_sem] theorem fpA_88_2 : fpA Try.prog 88 2 = some (2, false, 1) := by kernel_rfl
@[go_sem] theorem plA_88_2 : plA Try.prog 88 2 = some (2, 1) := by kernel_rfl
@[go_sem] theorem partTy_88_2 : partTy Try.prog 88 2 = 79 := by kernel_rfl
@[go_sem] theorem tyA_89 : tyA Try.prog 89 = some (true, 3) := by kernel_rfl
@[go_sem] theorem bytesA_89 : bytesA Try.prog 89 = false := by kernel_rfl
@[go_sem] theorem knownA_89 : knownA Try.prog 89 = true := by kernel_rfl
@[go_sem] theorem concA_89 : concA Try.prog 89 = true := by kernel_rfl
@[go_sem] theorem ikA_89 : ikA Try.prog 89 = none := by kernel_rfl
@[go_sem] theorem zeroA_89 : zeroA Try.prog 89 = some [.sl 1 [] .nil, .sl 1 [] .nil, .sl 1 [] .nil] := by kernel_rfl
@[go_sem] theorem slA_89 : slA Try.prog 89 = none := by kernel_rfl
@[go_sem] theorem fsOk_89 : fsOk Try.prog 89 = true := by kernel_rfl
@[go_sem] theorem fldA_89_0 : fldA Try.prog 89 0 = some 0 := by kernel_rfl
@[go_sem] theorem fpA_89_0 : fpA Try.prog 89 0 = some (0, false, 1) := by kernel_rfl
@[go_sem] theorem plA_89_0 : plA Try.prog 89 0 = some (0, 1) := by kernel_rfl
@[go_sem] theorem partTy_89_0 : partTy Try.prog 89 0 = 60 := by kernel_rfl
@[go_sem] theorem fldA_89_1 : fldA Try.prog 89 1 = some 1 := by kernel_rfl
@[go_sem] theorem fpA_89_1 : fpA Try.prog 89 1 = some (1, false, 1) := by kernel_rfl
@[go_sem] theorem plA_89_1 : plA Try.prog 89 1 = some (1, 1) := by kernel_rfl
@[go_sem] theorem partTy_89_1 : partTy Try.prog 89 1 = 79 := by kernel_rfl
@[go_sem] theorem fldA_89_2 : fldA Try.prog 89 2 = some 2 := by kernel_rfl
@[go_sem] theorem fpA_89_2 : fpA Try.prog 89 2 = some (2, false, 1) := by kernel_rfl
@[go_sem] theorem plA_89_2 : plA Try.prog 89 2 = some (2, 1) := by kernel_rfl
@[go_sem] theorem partTy_89_2 : partTy Try.prog 89 2 = 79 := by kernel_rfl
@[go_sem] theorem tyA_91 : tyA Try.prog 91 = some (false, 1) := by kernel_rfl
@[go_sem] theorem bytesA_91 : bytesA Try.prog 91 = false := by kernel_rfl
@[go_sem] theorem knownA_91 : knownA Try.prog 91 = true := by kernel_rfl
@[go_sem] theorem concA_91 : concA Try.prog 91 = true := by kernel_rfl
@[go_sem] theorem ikA_91 : ikA Try.prog 91 = none := by kernel_rfl
@[go_sem] theorem zeroA_91 : zeroA Try.prog 91 = some [.raw .nilFunc] := by kernel_rfl
@[go_sem] theorem slA_91 : slA Try.prog 91 = none := by kernel_rfl
@[go_sem] theorem tyA_92 : tyA Try.prog 92 = some (false, 1) := by kernel_rfl
@[go_sem] theorem bytesA_92 : bytesA Try.prog 92 = false := by kernel_rfl
@[go_sem] theorem knownA_92 : knownA Try.prog 92 = true := by kernel_rfl
@[go_sem] theorem concA_92 : concA Try.prog 92 = true := by kernel_rfl
@[go_sem] theorem ikA_92 : ikA Try.prog 92 = none := by kernel_rfl
@[go_sem] theorem zeroA_92 : zeroA Try.prog 92 = some [.raw .nilFunc] := by kernel_rfl
@[go_sem] theorem slA_92 : slA Try.prog 92 = none := by kernel_rfl
@[go_sem] theorem tyA_93 : tyA Try.prog 93 = some (false, 1) := by kernel_rfl
@[go_sem] theorem bytesA_93 : bytesA Try.prog 93 = false := by kernel_rfl
@[go_sem] theorem knownA_93 : knownA Try.prog 93 = true := by kernel_rfl
@[go_sem] theorem concA_93 : concA Try.prog 93 = true := by kernel_rfl
@[go_sem] theorem ikA_93 : ikA Try.prog 93 = none := by kernel_rfl
@[go_sem] theorem zeroA_93 : zeroA Try.prog 93 = some [.sl 5 [] .nil] := by kernel_rfl
@[go_sem] theorem slA_93 : slA Try.prog 93 = some 5 := by kernel_rfl
@[go_sem] theorem mkA_93 : mkA Try.prog 93 = some ([.int .i64 0, .int .i64 0, .int .i64 0, .int .i64 0, .int .i64 0], 40) := by kernel_rfl
@[go_sem] theorem apA_93 : apA Try.prog 93 = some (5, 40) := by kernel_rfl
@[go_sem] theorem partTy_93 (i : Nat) : partTy Try.prog 93 i = 119 := rfl_of_partTy (by kernel_rfl)
@[go_sem] theorem tyA_94 : tyA Try.prog 94 = some (false, 1) := by kernel_rfl
@[go_sem] theorem bytesA_94 : bytesA Try.prog 94 = false := by kernel_rfl
@[go_sem] theorem knownA_94 : knownA Try.prog 94 = true := by kernel_rfl
@[go_sem] theorem concA_94 : concA Try.prog 94 = true := by kernel_rfl
@[go_sem] theorem ikA_94 : ikA Try.prog 94 = none := by kernel_rfl
@[go_sem] theorem zeroA_94 : zeroA Try.prog 94 = some [.raw .nilFunc] := by kernel_rfl
@[go_sem] theorem slA_94 : slA Try.prog 94 = none := by kernel_rfl
@[go_sem] theorem tyA_95 : tyA Try.prog 95 = some (true, 3) := by kernel_rfl
@[go_sem] theorem bytesA_95 : bytesA Try.prog 95 = false := by kernel_rfl
@[go_sem] theorem knownA_95 : knownA Try.prog 95 = true := by kernel_rfl
@[go_sem] theorem concA_95 : concA Try.prog 95 = true := by kernel_rfl
@[go_sem] theorem ikA_95 : ikA Try.prog 95 = none := by kernel_rfl
@[go_sem] theorem zeroA_95 : zeroA Try.prog 95 = some [.sl 1 [] .nil, .sl 1 [] .nil, .sl 1 [] .nil] := by kernel_rfl
@[go_sem] theorem slA_95 : slA Try.prog 95 = none := by kernel_rfl
@[go_sem] theorem fsOk_95 : fsOk Try.prog 95 = true := by kernel_rfl
@[go_sem] theorem fldA_95_0 : fldA Try.prog 95 0 = some 0 := by kernel_rfl
@[go_sem] theorem fpA_95_0 : fpA Try.prog 95 0 = some (0, false, 1) := by kernel_rfl
@[go_sem] theorem plA_95_0 : plA Try.prog 95 0 = some (0, 1) := by kernel_rfl
@[go_sem] theorem partTy_95_0 : partTy Try.prog 95 0 = 60 := by kernel_rfl
@[go_sem] theorem fldA_95_1 : fldA Try.prog 95 1 = some 1 := by kernel_rfl
@[go_sem] theorem fpA_95_1 : fpA Try.prog 95 1 = some (1, false, 1) := by kernel_rfl
@[go_sem] theorem plA_95_1 : plA Try.prog 95 1 = some (1, 1) := by kernel_rfl
@[go_sem] theorem partTy_95_1 : partTy Try.prog 95 1 = 79 := by kernel_rfl
@[go_sem] theorem fldA_95_2 : fldA Try.prog 95 2 = some 2 := by kernel_rfl
@[go_sem] theorem fpA_95_2 : fpA Try.prog 95 2 = some (2, false, 1) := by kernel_rfl
@[go_sem] theorem plA_95_2 : plA Try.prog 95 2 = some (2, 1) := by kernel_rfl
@[go_sem] theorem partTy_95_2 : partTy Try.prog 95 2 = 79 := by kernel_rfl
@[go_sem] theorem tyA_96 : tyA Try.prog 96 = some (false, 1) := by kernel_rfl
@[go_sem] theorem bytesA_96 : bytesA Try.prog 96 = false := by kernel_rfl
@[go_sem] theorem knownA_96 : knownA Try.prog 96 = true := by kernel_rfl
@[go_sem] theorem concA_96 : concA Try.prog 96 = true := by kernel_rfl
@[go_sem] theorem ikA_96 : ikA Try.prog 96 = none := by kernel_rfl
@[go_sem] theorem zeroA_96 : zeroA Try.prog 96 = some [.raw .nilFunc] := by kernel_rfl
@[go_sem] theorem slA_96 : slA Try.prog 96 = none := by kernel_rfl
@[go_sem] theorem tyA_97 : tyA Try.prog 97 = some (false, 1) := by kernel_rfl
@[go_sem] theorem bytesA_97 : bytesA Try.prog 97 = false := by kernel_rfl
@[go_sem] theorem knownA_97 : knownA Try.prog 97 = true := by kernel_rfl
@[go_sem] theorem concA_97 : concA Try.prog 97 = true := by kernel_rfl
@[go_sem] theorem ikA_97 : ikA Try.prog 97 = none := by kernel_rfl
@[go_sem] theorem zeroA_97 : zeroA Try.prog 97 = some [.raw .nilFunc] := by kernel_rfl
@[go_sem] theorem slA_97 : slA Try.prog 97 = none := by kernel_rfl
@[go_sem] theorem tyA_98 : tyA Try.prog 98 = some (false, 1) := by kernel_rfl
@[go_sem] theorem bytesA_98 : bytesA Try.prog 98 = false := by kernel_rfl
@[go_sem] theorem knownA_98 : knownA Try.prog 98 = true := by kernel_rfl
@[go_sem] theorem concA_98 : concA Try.prog 98 = true := by kernel_rfl
@[go_sem] theorem ikA_98 : ikA Try.prog 98 = none := by kernel_rfl
@[go_sem] theorem zeroA_98 : zeroA Try.prog 98 = some [.raw .nilFunc] := by kernel_rfl
@[go_sem] theorem slA_98 : slA Try.prog 98 = none := by kernel_rfl
@[go_sem] theorem tyA_99 : tyA Try.prog 99 = some (false, 1) := by kernel_rfl
@[go_sem] theorem bytesA_99 : bytesA Try.prog 99 = false := by kernel_rfl
@[go_sem] theorem knownA_99 : knownA Try.prog 99 = true := by kernel_rfl
@[go_sem] theorem concA_99 : concA Try.prog 99 = true := by kernel_rfl
@[go_sem] theorem ikA_99 : ikA Try.prog 99 = none := by kernel_rfl
@[go_sem] theorem zeroA_99 : zeroA Try.prog 99 = some [.raw .nilFunc] := by kernel_rfl
@[go_sem] theorem slA_99 : slA Try.prog 99 = none := by kernel_rfl
@[go_sem] theorem tyA_100 : tyA Try.prog 100 = some (false, 1) := by kernel_rfl
@[go_sem] theorem bytesA_100 : bytesA Try.prog 100 = false := by kernel_rfl
@[go_sem] theorem knownA_100 : knownA Try.prog 100 = true := by kernel_rfl
@[go_sem] theorem concA_100 : concA Try.prog 100 = true := by kernel_rfl
@[go_sem] theorem ikA_100 : ikA Try.prog 100 = none := by kernel_rfl
@[go_sem] theorem zeroA_100 : zeroA Try.prog 100 = some [.raw .nilFunc] := by kernel_rfl
@[go_sem] theorem slA_100 : slA Try.prog 100 = none := by kernel_rfl
@[go_sem] theorem tyA_101 : tyA Try.prog 101 = some (false, 1) := by kernel_rfl
@[go_sem] theorem bytesA_101 : bytesA Try.prog 101 = false := by kernel_rfl
@[go_sem] theorem knownA_101 : knownA Try.prog 101 = true := by kernel_rfl
@[go_sem] theorem concA_101 : concA Try.prog 101 = true := by kernel_rfl
@[go_sem] theorem ikA_101 : ikA Try.prog 101 = none := by kernel_rfl
@[go_sem] theorem zeroA_101 : zeroA Try.prog 101 = some [.raw .nilFunc] := by kernel_rfl
@[go_sem] theorem slA_101 : slA Try.prog 101 = none := by kernel_rfl
@[go_sem] theorem tyA_102 : tyA Try.prog 102 = some (false, 1) := by kernel_rfl
@[go_sem] theorem bytesA_102 : bytesA Try.prog 102 = false := by kernel_rfl
@[go_sem] theorem knownA_102 : knownA Try.prog 102 = true := by kernel_rfl
@[go_sem] theorem concA_102 : concA Try.prog 102 = true := by kernel_rfl
@[go_sem] theorem ikA_102 : ikA Try.prog 102 = none := by kernel_rfl
@[go_sem] theorem zeroA_102 : zeroA Try.prog 102 = some [.raw .nilFunc] := by kernel_rfl
@[go_sem] theorem slA_102 : slA Try.prog 102 = none := by kernel_rfl
@[go_sem] theorem tyA_103 : tyA Try.prog 103 = some (false, 1) := by kernel_rfl
@[go_sem] theorem bytesA_103 : bytesA Try.prog 103 = false := by kernel_rfl
@[go_sem] theorem knownA_103 : knownA Try.prog 103 = true := by kernel_rfl
@[go_sem] theorem concA_103 : concA Try.prog 103 = true := by kernel_rfl
@[go_sem] theorem ikA_103 : ikA Try.prog 103 = some .u16 := by kernel_rfl
@[go_sem] theorem zeroA_103 : zeroA Try.prog 103 = some [.int .u16 0] := by kernel_rfl
@[go_sem] theorem slA_103 : slA Try.prog 103 = none := by kernel_rfl
@[go_sem] theorem tyA_104 : tyA Try.prog 104 = some (false, 1) := by kernel_rfl
@[go_sem] theorem bytesA_104 : bytesA Try.prog 104 = false := by kernel_rfl
@[go_sem] theorem knownA_104 : knownA Try.prog 104 = true := by kernel_rfl
@[go_sem] theorem concA_104 : concA Try.prog 104 = true := by kernel_rfl
@[go_sem] theorem ikA_104 : ikA Try.prog 104 = some .u64 := by kernel_rfl
@[go_sem] theorem zeroA_104 : zeroA Try.prog 104 = some [.int .u64 0] := by kernel_rfl
@[go_sem] theorem slA_104 : slA Try.prog 104 = none := by kernel_rfl
@[go_sem] theorem tyA_105 : tyA Try.prog 105 = some (false, 1) := by kernel_rfl
@[go_sem] theorem bytesA_105 : bytesA Try.prog 105 = false := by kernel_rfl
@[go_sem] theorem knownA_105 : knownA Try.prog 105 = true := by kernel_rfl
@[go_sem] theorem concA_105 : concA Try.prog 105 = true := by kernel_rfl
@[go_sem] theorem ikA_105 : ikA Try.prog 105 = none := by kernel_rfl
@[go_sem] theorem zeroA_105 : zeroA Try.prog 105 = some [.raw .nilFunc] := by kernel_rfl
@[go_sem] theorem slA_105 : slA Try.prog 105 = none := by kernel_rfl
@[go_sem] theorem tyA_106 : tyA Try.prog 106 = some (true, 18) := by kernel_rfl
@[go_sem] theorem bytesA_106 : bytesA Try.prog 106 = false := by kernel_rfl
@[go_sem] theorem knownA_106 : knownA Try.prog 106 = true := by kernel_rfl
@[go_sem] theorem concA_106 : concA Try.prog 106 = true := by kernel_rfl
@[go_sem] theorem ikA_106 : ikA Try.prog 106 = none := by kernel_rfl
@[go_sem] theorem zeroA_106 : zeroA Try.prog 106 = some [.int .i64 0, .int .i64 0, .int .i64 0, .int .i64 0, .int .i64 0, .int .i64 0, .int .i64 0, .int .i64 0, .int .i64 0, .int .i64 0, .int .i64 0, .int .i64 0, .int .i64 0, .int .i64 0, .int .i64 0, .int .i64 0, .int .i64 0, .int .i64 0] := by kernel_rfl
@[go_sem] theorem slA_106 : slA Try.prog 106 = none := by kernel_rfl
@[go_sem] theorem arA_106 : arA Try.prog 106 = some (9, 2) := by kernel_rfl
@[go_sem] theorem avA_106 : avA Try.prog 106 = some (9, true, 2) := by kernel_rfl
@[go_sem] theorem fsOk_106 : fsOk Try.prog 106 = true := by kernel_rfl
@[go_sem] theorem plA_106_0 : plA Try.prog 106 0 = some (0, 2) := by kernel_rfl
@[go_sem] theorem partTy_106_0 : partTy Try.prog 106 0 = 71 := by kernel_rfl
@[go_sem] theorem plA_106_1 : plA Try.prog 106 1 = some (2, 2) := by kernel_rfl
@[go_sem] theorem partTy_106_1 : partTy Try.prog 106 1 = 71 := by kernel_rfl
@[go_sem] theorem plA_106_2 : plA Try.prog 106 2 = some (4, 2) := by kernel_rfl
@[go_sem] theorem partTy_106_2 : partTy Try.prog 106 2 = 71 := by kernel_rfl
@[go_sem] theorem plA_106_3 : plA Try.prog 106 3 = some (6, 2) := by kernel_rfl
@[go_sem] theorem partTy_106_3 : partTy Try.prog 106 3 = 71 := by kernel_rfl
@[go_sem] theorem plA_106_4 : plA Try.prog 106 4 = some (8, 2) := by kernel_rfl
@[go_sem] theorem partTy_106_4 : partTy Try.prog 106 4 = 71 := by kernel_rfl
@[go_sem] theorem plA_106_5 : plA Try.prog 106 5 = some (10, 2) := by kernel_rfl
@[go_sem] theorem partTy_106_5 : partTy Try.prog 106 5 = 71 := by kernel_rfl
@[go_sem] theorem plA_106_6 : plA Try.prog 106 6 = some (12, 2) := by kernel_rfl
@[go_sem] theorem partTy_106_6 : partTy Try.prog 106 6 = 71 := by kernel_rfl
@[go_sem] theorem plA_106_7 : plA Try.prog 106 7 = some (14, 2) := by kernel_rfl
@[go_sem] theorem partTy_106_7 : partTy Try.prog 106 7 = 71 := by kernel_rfl
@[go_sem] theorem plA_106_8 : plA Try.prog 106 8 = some (16, 2) := by kernel_rfl
@[go_sem] theorem partTy_106_8 : partTy Try.prog 106 8 = 71 := by kernel_rfl
@[go_sem] theorem tyA_107 : tyA Try.prog 107 = some (true, 9) := by kernel_rfl
@[go_sem] theorem bytesA_107 : bytesA Try.prog 107 = false := by kernel_rfl
@[go_sem] theorem knownA_107 : knownA Try.prog 107 = true := by kernel_rfl
@[go_sem] theorem concA_107 : concA Try.prog 107 = true := by kernel_rfl
@[go_sem] theorem ikA_107 : ikA Try.prog 107 = none := by kernel_rfl
@[go_sem] theorem zeroA_107 : zeroA Try.prog 107 = some [.int .i64 0, .int .i64 0, .int .i64 0, .int .i64 0, .int .i64 0, .int .i64 0, .int .i64 0, .int .i64 0, .int .i64 0] := by kernel_rfl
@[go_sem] theorem slA_107 : slA Try.prog 107 = none := by kernel_rfl
@[go_sem] theorem eqKs_107 : eqKs Try.prog 107 = some [.int .i64, .int .i64, .int .i64, .int .i64, .int .i64, .int .i64, .int .i64, .int .i64, .int .i64] := by kernel_rfl
@[go_sem] theorem arA_107 : arA Try.prog 107 = some (9, 1) := by kernel_rfl
@[go_sem] theorem avA_107 : avA Try.prog 107 = some (9, false, 1) := by kernel_rfl
@[go_sem] theorem fsOk_107 : fsOk Try.prog 107 = true := by kernel_rfl
@[go_sem] theorem plA_107_0 : plA Try.prog 107 0 = some (0, 1) := by kernel_rfl
@[go_sem] theorem partTy_107_0 : partTy Try.prog 107 0 = 3 := by kernel_rfl
@[go_sem] theorem plA_107_1 : plA Try.prog 107 1 = some (1, 1) := by kernel_rfl
@[go_sem] theorem partTy_107_1 : partTy Try.prog 107 1 = 3 := by kernel_rfl
@[go_sem] theorem plA_107_2 : plA Try.prog 107 2 = some (2, 1) := by kernel_rfl
@[go_sem] theorem partTy_107_2 : partTy Try.prog 107 2 = 3 := by kernel_rfl
@[go_sem] theorem plA_107_3 : plA Try.prog 107 3 = some (3, 1) := by kernel_rfl
@[go_sem] theorem partTy_107_3 : partTy Try.prog 107 3 = 3 := by kernel_rfl
@[go_sem] theorem plA_107_4 : plA Try.prog 107 4 = some (4, 1) := by kernel_rfl
@[go_sem] theorem partTy_107_4 : partTy Try.prog 107 4 = 3 := by kernel_rfl
@[go_sem] theorem plA_107_5 : plA Try.prog 107 5 = some (5, 1) := by kernel_rfl
@[go_sem] theorem partTy_107_5 : partTy Try.prog 107 5 = 3 := by kernel_rfl
@[go_sem] theorem plA_107_6 : plA Try.prog 107 6 = some (6, 1) := by kernel_rfl
@[go_sem] theorem partTy_107_6 : partTy Try.prog 107 6 = 3 := by kernel_rfl
@[go_sem] theorem plA_107_7 : plA Try.prog 107 7 = some (7, 1) := by kernel_rfl
@[go_sem] theorem partTy_107_7 : partTy Try.prog 107 7 = 3 := by kernel_rfl
@[go_sem] theorem plA_107_8 : plA Try.prog 107 8 = some (8, 1) := by kernel_rfl
@[go_sem] theorem partTy_107_8 : partTy Try.prog 107 8 = 3 := by kernel_rfl
@[go_sem] theorem tyA_108 : tyA Try.prog 108 = some (false, 1) := by kernel_rfl
@[go_sem] theorem bytesA_108 : bytesA Try.prog 108 = false := by kernel_rfl
@[go_sem] theorem knownA_108 : knownA Try.prog 108 = true := by kernel_rfl
@[go_sem] theorem concA_108 : concA Try.prog 108 = true := by kernel_rfl
@[go_sem] theorem ikA_108 : ikA Try.prog 108 = none := by kernel_rfl
@[go_sem] theorem zeroA_108 : zeroA Try.prog 108 = some [.raw .nilFunc] := by kernel_rfl
@[go_sem] theorem slA_108 : slA Try.prog 108 = none := by kernel_rfl
@[go_sem] theorem tyA_109 : tyA Try.prog 109 = some (true, 3) := by kernel_rfl
@[go_sem] theorem bytesA_109 : bytesA Try.prog 109 = false := by kernel_rfl
@[go_sem] theorem knownA_109 : knownA Try.prog 109 = true := by kernel_rfl
@[go_sem] theorem concA_109 : concA Try.prog 109 = true := by kernel_rfl
@[go_sem] theorem ikA_109 : ikA Try.prog 109 = none := by kernel_rfl
@[go_sem] theorem zeroA_109 : zeroA Try.prog 109 = some [.int .i64 0, .int .i64 0, .int .i64 0] := by kernel_rfl
@[go_sem] theorem slA_109 : slA Try.prog 109 = none := by kernel_rfl
@[go_sem] theorem eqKs_109 : eqKs Try.prog 109 = some [.int .i64, .int .i64, .int .i64] := by kernel_rfl
@[go_sem] theorem arA_109 : arA Try.prog 109 = some (3, 1) := by kernel_rfl
@[go_sem] theorem avA_109 : avA Try.prog 109 = some (3, false, 1) := by kernel_rfl
@[go_sem] theorem fsOk_109 : fsOk Try.prog 109 = true := by kernel_rfl
@[go_sem] theorem plA_109_0 : plA Try.prog 109 0 = some (0, 1) := by kernel_rfl
@[go_sem] theorem partTy_109_0 : partTy Try.prog 109 0 = 3 := by kernel_rfl
@[go_sem] theorem plA_109_1 : plA Try.prog 109 1 = some (1, 1) := by kernel_rfl
@[go_sem] theorem partTy_109_1 : partTy Try.prog 109 1 = 3 := by kernel_rfl
@[go_sem] theorem plA_109_2 : plA Try.prog 109 2 = some (2, 1) := by kernel_rfl
@[go_sem] theorem partTy_109_2 : partTy Try.prog 109 2 = 3 := by kernel_rfl
@[go_sem] theorem tyA_110 : tyA Try.prog 110 = some (false, 1) := by kernel_rfl
@[go_sem] theorem bytesA_110 : bytesA Try.prog 110 = false := by kernel_rfl
@[go_sem] theorem knownA_110 : knownA Try.prog 110 = true := by kernel_rfl
@[go_sem] theorem concA_110 : concA Try.prog 110 = true := by kernel_rfl
@[go_sem] theorem ikA_110 : ikA Try.prog 110 = none := by kernel_rfl
@[go_sem] theorem zeroA_110 : zeroA Try.prog 110 = some [.sl 3 [] .nil] := by kernel_rfl
@[go_sem] theorem slA_110 : slA Try.prog 110 = some 3 := by kernel_rfl
@[go_sem] theorem mkA_110 : mkA Try.prog 110 = some ([.int .i64 0, .int .i64 0, .int .i64 0], 24) := by kernel_rfl
@[go_sem] theorem apA_110 : apA Try.prog 110 = some (3, 24) := by kernel_rfl
@[go_sem] theorem partTy_110 (i : Nat) : partTy Try.prog 110 i = 109 := rfl_of_partTy (by kernel_rfl)
@[go_sem] theorem tyA_111 : tyA Try.prog 111 = some (false, 1) := by kernel_rfl
@[go_sem] theorem bytesA_111 : bytesA Try.prog 111 = false := by kernel_rfl
@[go_sem] theorem knownA_111 : knownA Try.prog 111 = true := by kernel_rfl
@[go_sem] theorem concA_111 : concA Try.prog 111 = true := by kernel_rfl
@[go_sem] theorem ikA_111 : ikA Try.prog 111 = none := by kernel_rfl
@[go_sem] theorem zeroA_111 : zeroA Try.prog 111 = some [.raw .nilFunc] := by kernel_rfl
@[go_sem] theorem slA_111 : slA Try.prog 111 = none := by kernel_rfl
@[go_sem] theorem tyA_112 : tyA Try.prog 112 = some (true, 8) := by kernel_rfl
@[go_sem] theorem bytesA_112 : bytesA Try.prog 112 = false := by kernel_rfl
@[go_sem] theorem knownA_112 : knownA Try.prog 112 = true := by kernel_rfl
@[go_sem] theorem concA_112 : concA Try.prog 112 = true := by kernel_rfl
@[go_sem] theorem ikA_112 : ikA Try.prog 112 = none := by kernel_rfl
@[go_sem] theorem zeroA_112 : zeroA Try.prog 112 = some [.int .u8 0, .int .u8 0, .int .u8 0, .int .u8 0, .int .u8 0, .int .u8 0, .int .u8 0, .int .u8 0] := by kernel_rfl
@[go_sem] theorem slA_112 : slA Try.prog 112 = none := by kernel_rfl
@[go_sem] theorem eqKs_112 : eqKs Try.prog 112 = some [.int .u8, .int .u8, .int .u8, .int .u8, .int .u8, .int .u8, .int .u8, .int .u8] := by kernel_rfl
@[go_sem] theorem arA_112 : arA Try.prog 112 = some (8, 1) := by kernel_rfl
@[go_sem] theorem avA_112 : avA Try.prog 112 = some (8, false, 1) := by kernel_rfl
@[go_sem] theorem fsOk_112 : fsOk Try.prog 112 = true := by kernel_rfl
@[go_sem] theorem plA_112_0 : plA Try.prog 112 0 = some (0, 1) := by kernel_rfl
@[go_sem] theorem partTy_112_0 : partTy Try.prog 112 0 = 5 := by kernel_rfl
@[go_sem] theorem plA_112_1 : plA Try.prog 112 1 = some (1, 1) := by kernel_rfl
@[go_sem] theorem partTy_112_1 : partTy Try.prog 112 1 = 5 := by kernel_rfl
@[go_sem] theorem plA_112_2 : plA Try.prog 112 2 = some (2, 1) := by kernel_rfl
@[go_sem] theorem partTy_112_2 : partTy Try.prog 112 2 = 5 := by kernel_rfl
@[go_sem] theorem plA_112_3 : plA Try.prog 112 3 = some (3, 1) := by kernel_rfl
@[go_sem] theorem partTy_112_3 : partTy Try.prog 112 3 = 5 := by kernel_rfl
@[go_sem] theorem plA_112_4 : plA Try.prog 112 4 = some (4, 1) := by kernel_rfl
@[go_sem] theorem partTy_112_4 : partTy Try.prog 112 4 = 5 := by kernel_rfl
@[go_sem] theorem plA_112_5 : plA Try.prog 112 5 = some (5, 1) := by kernel_rfl
@[go_sem] theorem partTy_112_5 : partTy Try.prog 112 5 = 5 := by kernel_rfl
@[go_sem] theorem plA_112_6 : plA Try.prog 112 6 = some (6, 1) := by kernel_rfl
@[go_sem] theorem partTy_112_6 : partTy Try.prog 112 6 = 5 := by kernel_rfl
@[go_sem] theorem plA_112_7 : plA Try.prog 112 7 = some (7, 1) := by kernel_rfl
@[go_sem] theorem partTy_112_7 : partTy Try.prog 112 7 = 5 := by kernel_rfl
@[go_sem] theorem tyA_113 : tyA Try.prog 113 = some (false, 1) := by kernel_rfl
@[go_sem] theorem bytesA_113 : bytesA Try.prog 113 = false := by kernel_rfl
@[go_sem] theorem knownA_113 : knownA Try.prog 113 = true := by kernel_rfl
@[go_sem] theorem concA_113 : concA Try.prog 113 = true := by kernel_rfl
@[go_sem] theorem ikA_113 : ikA Try.prog 113 = none := by kernel_rfl
@[go_sem] theorem zeroA_113 : zeroA Try.prog 113 = some [.raw .nilFunc] := by kernel_rfl
@[go_sem] theorem slA_113 : slA Try.prog 113 = none := by kernel_rfl
@[go_sem] theorem tyA_114 : tyA Try.prog 114 = some (false, 1) := by kernel_rfl
@[go_sem] theorem bytesA_114 : bytesA Try.prog 114 = false := by kernel_rfl
@[go_sem] theorem knownA_114 : knownA Try.prog 114 = true := by kernel_rfl
@[go_sem] theorem concA_114 : concA Try.prog 114 = true := by kernel_rfl
@[go_sem] theorem ikA_114 : ikA Try.prog 114 = none := by kernel_rfl
@[go_sem] theorem zeroA_114 : zeroA Try.prog 114 = some [.raw .nilFunc] := by kernel_rfl
@[go_sem] theorem slA_114 : slA Try.prog 114 = none := by kernel_rfl
@[go_sem] theorem tyA_115 : tyA Try.prog 115 = some (false, 1) := by kernel_rfl
@[go_sem] theorem bytesA_115 : bytesA Try.prog 115 = false := by kernel_rfl
@[go_sem] theorem knownA_115 : knownA Try.prog 115 = true := by kernel_rfl
@[go_sem] theorem concA_115 : concA Try.prog 115 = true := by kernel_rfl
@[go_sem] theorem ikA_115 : ikA Try.prog 115 = none := by kernel_rfl
@[go_sem] theorem zeroA_115 : zeroA Try.prog 115 = some [.raw .nilFunc] := by kernel_rfl
@[go_sem] theorem slA_115 : slA Try.prog 115 = none := by kernel_rfl
@[go_sem] theorem tyA_116 : tyA Try.prog 116 = some (true, 5) := by kernel_rfl
@[go_sem] theorem bytesA_116 : bytesA Try.prog 116 = false := by kernel_rfl
@[go_sem] theorem knownA_116 : knownA Try.prog 116 = true := by kernel_rfl
@[go_sem] theorem concA_116 : concA Try.prog 116 = true := by kernel_rfl
@[go_sem] theorem ikA_116 : ikA Try.prog 116 = none := by kernel_rfl
@[go_sem] theorem zeroA_116 : zeroA Try.prog 116 = some [.int .i64 0, .int .i64 0, .int .i64 0, .int .i64 0, .int .i64 0] := by kernel_rfl
@[go_sem] theorem slA_116 : slA Try.prog 116 = none := by kernel_rfl
@[go_sem] theorem fsOk_116 : fsOk Try.prog 116 = true := by kernel_rfl
@[go_sem] theorem fldA_116_0 : fldA Try.prog 116 0 = some 0 := by kernel_rfl
@[go_sem] theorem fpA_116_0 : fpA Try.prog 116 0 = some (0, false, 1) := by kernel_rfl
@[go_sem] theorem plA_116_0 : plA Try.prog 116 0 = some (0, 1) := by kernel_rfl
@[go_sem] theorem partTy_116_0 : partTy Try.prog 116 0 = 3 := by kernel_rfl
@[go_sem] theorem fldA_116_1 : fldA Try.prog 116 1 = some 1 := by kernel_rfl
@[go_sem] theorem fpA_116_1 : fpA Try.prog 116 1 = some (1, false, 1) := by kernel_rfl
@[go_sem] theorem plA_116_1 : plA Try.prog 116 1 = some (1, 1) := by kernel_rfl
@[go_sem] theorem partTy_116_1 : partTy Try.prog 116 1 = 3 := by kernel_rfl
@[go_sem] theorem fldA_116_2 : fldA Try.prog 116 2 = some 2 := by kernel_rfl
@[go_sem] theorem fpA_116_2 : fpA Try.prog 116 2 = some (2, false, 1) := by kernel_rfl
@[go_sem] theorem plA_116_2 : plA Try.prog 116 2 = some (2, 1) := by kernel_rfl
@[go_sem] theorem partTy_116_2 : partTy Try.prog 116 2 = 3 := by kernel_rfl
@[go_sem] theorem fldA_116_3 : fldA Try.prog 116 3 = some 3 := by kernel_rfl
@[go_sem] theorem fpA_116_3 : fpA Try.prog 116 3 = some (3, false, 1) := by kernel_rfl
@[go_sem] theorem plA_116_3 : plA Try.prog 116 3 = some (3, 1) := by kernel_rfl
@[go_sem] theorem partTy_116_3 : partTy Try.prog 116 3 = 3 := by kernel_rfl
@[go_sem] theorem fldA_116_4 : fldA Try.prog 116 4 = some 4 := by kernel_rfl
@[go_sem] theorem fpA_116_4 : fpA Try.prog 116 4 = some (4, false, 1) := by kernel_rfl
@[go_sem] theorem plA_116_4 : plA Try.prog 116 4 = some (4, 1) := by kernel_rfl
@[go_sem] theorem partTy_116_4 : partTy Try.prog 116 4 = 3 := by kernel_rfl
@[go_sem] theorem eqKs_116 : eqKs Try.prog 116 = some [.int .i64, .int .i64, .int .i64, .int .i64, .int .i64] := by kernel_rfl
@[go_sem] theorem tyA_117 : tyA Try.prog 117 = some (true, 5) := by kernel_rfl
@[go_sem] theorem bytesA_117 : bytesA Try.prog 117 = false := by kernel_rfl
@[go_sem] theorem knownA_117 : knownA Try.prog 117 = true := by kernel_rfl
@[go_sem] theorem concA_117 : concA Try.prog 117 = true := by kernel_rfl
@[go_sem] theorem ikA_117 : ikA Try.prog 117 = none := by kernel_rfl
@[go_sem] theorem zeroA_117 : zeroA Try.prog 117 = some [.int .i64 0, .int .i64 0, .int .i64 0, .int .i64 0, .int .i64 0] := by kernel_rfl
@[go_sem] theorem slA_117 : slA Try.prog 117 = none := by kernel_rfl
@[go_sem] theorem fsOk_117 : fsOk Try.prog 117 = true := by kernel_rfl
@[go_sem] theorem fldA_117_0 : fldA Try.prog 117 0 = some 0 := by kernel_rfl
@[go_sem] theorem fpA_117_0 : fpA Try.prog 117 0 = some (0, false, 1) := by kernel_rfl
@[go_sem] theorem plA_117_0 : plA Try.prog 117 0 = some (0, 1) := by kernel_rfl
@[go_sem] theorem partTy_117_0 : partTy Try.prog 117 0 = 3 := by kernel_rfl
@[go_sem] theorem fldA_117_1 : fldA Try.prog 117 1 = some 1 := by kernel_rfl
@[go_sem] theorem fpA_117_1 : fpA Try.prog 117 1 = some (1, false, 1) := by kernel_rfl
@[go_sem] theorem plA_117_1 : plA Try.prog 117 1 = some (1, 1) := by kernel_rfl
@[go_sem] theorem partTy_117_1 : partTy Try.prog 117 1 = 3 := by kernel_rfl
@[go_sem] theorem fldA_117_2 : fldA Try.prog 117 2 = some 2 := by kernel_rfl
@[go_sem] theorem fpA_117_2 : fpA Try.prog 117 2 = some (2, false, 1) := by kernel_rfl
@[go_sem] theorem plA_117_2 : plA Try.prog 117 2 = some (2, 1) := by kernel_rfl
@[go_sem] theorem partTy_117_2 : partTy Try.prog 117 2 = 3 := by kernel_rfl
@[go_sem] theorem fldA_117_3 : fldA Try.prog 117 3 = some 3 := by kernel_rfl
@[go_sem] theorem fpA_117_3 : fpA Try.prog 117 3 = some (3, false, 1) := by kernel_rfl
@[go_sem] theorem plA_117_3 : plA Try.prog 117 3 = some (3, 1) := by kernel_rfl
@[go_sem] theorem partTy_117_3 : partTy Try.prog 117 3 = 3 := by kernel_rfl
@[go_sem] theorem fldA_117_4 : fldA Try.prog 117 4 = some 4 := by kernel_rfl
@[go_sem] theorem fpA_117_4 : fpA Try.prog 117 4 = some (4, false, 1) := by kernel_rfl
@[go_sem] theorem plA_117_4 : plA Try.prog 117 4 = some (4, 1) := by kernel_rfl
@[go_sem] theorem partTy_117_4 : partTy Try.prog 117 4 = 3 := by kernel_rfl
@[go_sem] theorem eqKs_117 : eqKs Try.prog 117 = some [.int .i64, .int .i64, .int .i64, .int .i64, .int .i64] := by kernel_rfl
@[go_sem] theorem tyA_118 : tyA Try.prog 118 = some (false, 1) := by kernel_rfl
@[go_sem] theorem bytesA_118 : bytesA Try.prog 118 = false := by kernel_rfl
@[go_sem] theorem knownA_118 : knownA Try.prog 118 = true := by kernel_rfl
@[go_sem] theorem concA_118 : concA Try.prog 118 = true := by kernel_rfl
@[go_sem] theorem ikA_118 : ikA Try.prog 118 = none := by kernel_rfl
@[go_sem] theorem zeroA_118 : zeroA Try.prog 118 = some [.raw .nilFunc] := by kernel_rfl
@[go_sem] theorem slA_118 : slA Try.prog 118 = none := by kernel_rfl
@[go_sem] theorem tyA_119 : tyA Try.prog 119 = some (true, 5) := by kernel_rfl
@[go_sem] theorem bytesA_119 : bytesA Try.prog 119 = false := by kernel_rfl
@[go_sem] theorem knownA_119 : knownA Try.prog 119 = true := by kernel_rfl
@[go_sem] theorem concA_119 : concA Try.prog 119 = true := by kernel_rfl
@[go_sem] theorem ikA_119 : ikA Try.prog 119 = none := by kernel_rfl
@[go_sem] theorem zeroA_119 : zeroA Try.prog 119 = some [.int .i64 0, .int .i64 0, .int .i64 0, .int .i64 0, .int .i64 0] := by kernel_rfl
@[go_sem] theorem slA_119 : slA Try.prog 119 = none := by kernel_rfl
@[go_sem] theorem fsOk_119 : fsOk Try.prog 119 = true := by kernel_rfl
@[go_sem] theorem fldA_119_0 : fldA Try.prog 119 0 = some 0 := by kernel_rfl
@[go_sem] theorem fpA_119_0 : fpA Try.prog 119 0 = some (0, false, 1) := by kernel_rfl
@[go_sem] theorem plA_119_0 : plA Try.prog 119 0 = some (0, 1) := by kernel_rfl
@[go_sem] theorem partTy_119_0 : partTy Try.prog 119 0 = 3 := by kernel_rfl
@[go_sem] theorem fldA_119_1 : fldA Try.prog 119 1 = some 1 := by kernel_rfl
@[go_sem] theorem fpA_119_1 : fpA Try.prog 119 1 = some (1, false, 1) := by kernel_rfl
@[go_sem] theorem plA_119_1 : plA Try.prog 119 1 = some (1, 1) := by kernel_rfl
@[go_sem] theorem partTy_119_1 : partTy Try.prog 119 1 = 3 := by kernel_rfl
@[go_sem] theorem fldA_119_2 : fldA Try.prog 119 2 = some 2 := by kernel_rfl
@[go_sem] theorem fpA_119_2 : fpA Try.prog 119 2 = some (2, false, 1) := by kernel_rfl
@[go_sem] theorem plA_119_2 : plA Try.prog 119 2 = some (2, 1) := by kernel_rfl
@[go_sem] theorem partTy_119_2 : partTy Try.prog 119 2 = 3 := by kernel_rfl
@[go_sem] theorem fldA_119_3 : fldA Try.prog 119 3 = some 3 := by kernel_rfl
@[go_sem] theorem fpA_119_3 : fpA Try.prog 119 3 = some (3, false, 1) := by kernel_rfl
@[go_sem] theorem plA_119_3 : plA Try.prog 119 3 = some (3, 1) := by kernel_rfl
@[go_sem] theorem partTy_119_3 : partTy Try.prog 119 3 = 3 := by kernel_rfl
@[go_sem] theorem fldA_119_4 : fldA Try.prog 119 4 = some 4 := by kernel_rfl
@[go_sem] theorem fpA_119_4 : fpA Try.prog 119 4 = some (4, false, 1) := by kernel_rfl
@[go_sem] theorem plA_119_4 : plA Try.prog 119 4 = some (4, 1) := by kernel_rfl
@[go_sem] theorem partTy_119_4 : partTy Try.prog 119 4 = 3 := by kernel_rfl
@[go_sem] theorem eqKs_119 : eqKs Try.prog 119 = some [.int .i64, .int .i64, .int .i64, .int .i64, .int .i64] := by kernel_rfl
@[go_sem] theorem tyA_120 : tyA Try.prog 120 = some (false, 1) := by kernel_rfl
@[go_sem] theorem bytesA_120 : bytesA Try.prog 120 = false := by kernel_rfl
@[go_sem] theorem knownA_120 : knownA Try.prog 120 = true := by kernel_rfl
@[go_sem] theorem concA_120 : concA Try.prog 120 = true := by kernel_rfl
@[go_sem] theorem ikA_120 : ikA Try.prog 120 = none := by kernel_rfl
@[go_sem] theorem zeroA_120 : zeroA Try.prog 120 = some [.raw .nilFunc] := by kernel_rfl
@[go_sem] theorem slA_120 : slA Try.prog 120 = none := by kernel_rfl
@[go_sem] theorem tyA_121 : tyA Try.prog 121 = some (false, 1) := by kernel_rfl
@[go_sem] theorem bytesA_121 : bytesA Try.prog 121 = false := by kernel_rfl
@[go_sem] theorem knownA_121 : knownA Try.prog 121 = true := by kernel_rfl
@[go_sem] theorem concA_121 : concA Try.prog 121 = true := by kernel_rfl
@[go_sem] theorem ikA_121 : ikA Try.prog 121 = none := by kernel_rfl
@[go_sem] theorem zeroA_121 : zeroA Try.prog 121 = some [.raw .nilFunc] := by kernel_rfl
@[go_sem] theorem slA_121 : slA Try.prog 121 = none := by kernel_rfl
@[go_sem] theorem tyA_122 : tyA Try.prog 122 = some (false, 1) := by kernel_rfl
@[go_sem] theorem bytesA_122 : bytesA Try.prog 122 = false := by kernel_rfl
@[go_sem] theorem knownA_122 : knownA Try.prog 122 = true := by kernel_rfl
@[go_sem] theorem concA_122 : concA Try.prog 122 = true := by kernel_rfl
@[go_sem] theorem ikA_122 : ikA Try.prog 122 = none := by kernel_rfl
@[go_sem] theorem zeroA_122 : zeroA Try.prog 122 = some [.raw .nilFunc] := by kernel_rfl
@[go_sem] theorem slA_122 : slA Try.prog 122 = none := by kernel_rfl
@[go_sem] theorem tyA_123 : tyA Try.prog 123 = some (false, 1) := by kernel_rfl
@[go_sem] theorem bytesA_123 : bytesA Try.prog 123 = false := by kernel_rfl
@[go_sem] theorem knownA_123 : knownA Try.prog 123 = true := by kernel_rfl
@[go_sem] theorem concA_123 : concA Try.prog 123 = true := by kernel_rfl
@[go_sem] theorem ikA_123 : ikA Try.prog 123 = none := by kernel_rfl
@[go_sem] theorem zeroA_123 : zeroA Try.prog 123 = some [.raw .nilFunc] := by kernel_rfl
@[go_sem] theorem slA_123 : slA Try.prog 123 = none := by kernel_rfl
@[go_sem] theorem tyA_124 : tyA Try.prog 124 = some (false, 1) := by kernel_rfl
@[go_sem] theorem bytesA_124 : bytesA Try.prog 124 = false := by kernel_rfl
@[go_sem] theorem knownA_124 : knownA Try.prog 124 = true := by kernel_rfl
@[go_sem] theorem concA_124 : concA Try.prog 124 = true := by kernel_rfl
@[go_sem] theorem ikA_124 : ikA Try.prog 124 = none := by kernel_rfl
@[go_sem] theorem zeroA_124 : zeroA Try.prog 124 = some [.raw .nilFunc] := by kernel_rfl
@[go_sem] theorem slA_124 : slA Try.prog 124 = none := by kernel_rfl
@[go_sem] theorem tyA_130 : tyA Try.prog 130 = some (false, 1) := by kernel_rfl
@[go_sem] theorem bytesA_130 : bytesA Try.prog 130 = false := by kernel_rfl
@[go_sem] theorem knownA_130 : knownA Try.prog 130 = true := by kernel_rfl
@[go_sem] theorem concA_130 : concA Try.prog 130 = true := by kernel_rfl
@[go_sem] theorem ikA_130 : ikA Try.prog 130 = none := by kernel_rfl
@[go_sem] theorem zeroA_130 : zeroA Try.prog 130 = some [.raw .nilFunc] := by kernel_rfl
@[go_sem] theorem slA_130 : slA Try.prog 130 = none := by kernel_rfl
@[go_sem] theorem tyA_131 : tyA Try.prog 131 = some (false, 1) := by kernel_rfl
@[go_sem] theorem bytesA_131 : bytesA Try.prog 131 = false := by kernel_rfl
@[go_sem] theorem knownA_131 : knownA Try.prog 131 = true := by kernel_rfl
@[go_sem] theorem concA_131 : concA Try.prog 131 = true := by kernel_rfl
@[go_sem] theorem ikA_131 : ikA Try.prog 131 = some .u32 := by kernel_rfl
@[go_sem] theorem zeroA_131 : zeroA Try.prog 131 = some [.int .u32 0] := by kernel_rfl
@[go_sem] theorem slA_131 : slA Try.prog 131 = none := by kernel_rfl
@[go_sem] theorem tyA_134 : tyA Try.prog 134 = some (false, 1) := by kernel_rfl
@[go_sem] theorem bytesA_134 : bytesA Try.prog 134 = false := by kernel_rfl
@[go_sem] theorem knownA_134 : knownA Try.prog 134 = true := by kernel_rfl
@[go_sem] theorem concA_134 : concA Try.prog 134 = true := by kernel_rfl
@[go_sem] theorem ikA_134 : ikA Try.prog 134 = none := by kernel_rfl
@[go_sem] theorem zeroA_134 : zeroA Try.prog 134 = some [.raw .nilFunc] := by kernel_rfl
@[go_sem] theorem slA_134 : slA Try.prog 134 = none := by kernel_rfl
@[go_sem] theorem tyA_135 : tyA Try.prog 135 = some (false, 1) := by kernel_rfl
@[go_sem] theorem bytesA_135 : bytesA Try.prog 135 = false := by kernel_rfl
@[go_sem] theorem knownA_135 : knownA Try.prog 135 = true := by kernel_rfl
@[go_sem] theorem concA_135 : concA Try.prog 135 = true := by kernel_rfl
@[go_sem] theorem ikA_135 : ikA Try.prog 135 = none := by kernel_rfl
@[go_sem] theorem zeroA_135 : zeroA Try.prog 135 = some [.raw (.pointer none)] := by kernel_rfl
@[go_sem] theorem slA_135 : slA Try.prog 135 = none := by kernel_rfl
@[go_sem] theorem tyA_140 : tyA Try.prog 140 = some (false, 1) := by kernel_rfl
@[go_sem] theorem bytesA_140 : bytesA Try.prog 140 = false := by kernel_rfl
@[go_sem] theorem knownA_140 : knownA Try.prog 140 = true := by kernel_rfl
@[go_sem] theorem concA_140 : concA Try.prog 140 = true := by kernel_rfl
@[go_sem] theorem ikA_140 : ikA Try.prog 140 = none := by kernel_rfl
@[go_sem] theorem zeroA_140 : zeroA Try.prog 140 = some [.raw (.pointer none)] := by kernel_rfl
@[go_sem] theorem slA_140 : slA Try.prog 140 = none := by kernel_rfl
@[go_sem] theorem bodyOk_3 : bodyOk Try.prog 3 = true := by kernel_rfl
@[go_sem] theorem bodyOk_4 : bodyOk Try.prog 4 = true := by kernel_rfl
@[go_sem] theorem bodyOk_5 : bodyOk Try.prog 5 = true := by kernel_rfl
@[go_sem] theorem bodyOk_6 : bodyOk Try.prog 6 = true := by kernel_rfl
@[go_sem] theorem bodyOk_7 : bodyOk Try.prog 7 = true := by kernel_rfl
@[go_sem] theorem bodyOk_8 : bodyOk Try.prog 8 = true := by kernel_rfl
@[go_sem] theorem bodyOk_9 : bodyOk Try.prog 9 = true := by kernel_rfl
@[go_sem] theorem bodyOk_10 : bodyOk Try.prog 10 = true := by kernel_rfl
@[go_sem] theorem bodyOk_11 : bodyOk Try.prog 11 = true := by kernel_rfl
@[go_sem] theorem bodyOk_12 : bodyOk Try.prog 12 = true := by kernel_rfl
@[go_sem] theorem bodyOk_13 : bodyOk Try.prog 13 = true := by kernel_rfl
@[go_sem] theorem bodyOk_14 : bodyOk Try.prog 14 = true := by kernel_rfl
@[go_sem] theorem bodyOk_15 : bodyOk Try.prog 15 = true := by kernel_rfl
@[go_sem] theorem bodyOk_16 : bodyOk Try.prog 16 = true := by kernel_rfl
@[go_sem] theorem bodyOk_17 : bodyOk Try.prog 17 = true := by kernel_rfl
@[go_sem] theorem bodyOk_18 : bodyOk Try.prog 18 = true := by kernel_rfl
@[go_sem] theorem bodyOk_19 : bodyOk Try.prog 19 = true := by kernel_rfl
@[go_sem] theorem bodyOk_20 : bodyOk Try.prog 20 = true := by kernel_rfl
@[go_sem] theorem bodyOk_21 : bodyOk Try.prog 21 = true := by kernel_rfl
@[go_sem] theorem bodyOk_22 : bodyOk Try.prog 22 = true := by kernel_rfl
@[go_sem] theorem bodyOk_23 : bodyOk Try.prog 23 = true := by kernel_rfl
@[go_sem] theorem bodyOk_24 : bodyOk Try.prog 24 = true := by kernel_rfl
@[go_sem] theorem bodyOk_25 : bodyOk Try.prog 25 = true := by kernel_rfl
@[go_sem] theorem bodyOk_26 : bodyOk Try.prog 26 = true := by kernel_rfl
@[go_sem] theorem bodyOk_27 : bodyOk Try.prog 27 = true := by kernel_rfl
@[go_sem] theorem bodyOk_28 : bodyOk Try.prog 28 = true := by kernel_rfl
@[go_sem] theorem bodyOk_29 : bodyOk Try.prog 29 = true := by kernel_rfl
@[go_sem] theorem bodyOk_30 : bodyOk Try.prog 30 = true := by kernel_rfl
@[go_sem] theorem bodyOk_31 : bodyOk Try.prog 31 = true := by kernel_rfl
@[go_sem] theorem bodyOk_32 : bodyOk Try.prog 32 = true := by kernel_rfl
@[go_sem] theorem bodyOk_33 : bodyOk Try.prog 33 = true := by kernel_rfl
@[go_sem] theorem bodyOk_34 : bodyOk Try.prog 34 = true := by kernel_rfl
@[go_sem] theorem bodyOk_35 : bodyOk Try.prog 35 = true := by kernel_rfl
@[go_sem] theorem bodyOk_36 : bodyOk Try.prog 36 = true := by kernel_rfl
@[go_sem] theorem bodyOk_37 : bodyOk Try.prog 37 = true := by kernel_rfl
@[go_sem] theorem bodyOk_38 : bodyOk Try.prog 38 = true := by kernel_rfl
@[go_sem] theorem bodyOk_39 : bodyOk Try.prog 39 = true := by kernel_rfl
@[go_sem] theorem bodyOk_40 : bodyOk Try.prog 40 = true := by kernel_rfl
@[go_sem] theorem bodyOk_41 : bodyOk Try.prog 41 = true := by kernel_rfl
@[go_sem] theorem bodyOk_42 : bodyOk Try.prog 42 = true := by kernel_rfl
@[go_sem] theorem bodyOk_43 : bodyOk Try.prog 43 = true := by kernel_rfl
@[go_sem] theorem bodyOk_44 : bodyOk Try.prog 44 = true := by kernel_rfl
@[go_sem] theorem bodyOk_45 : bodyOk Try.prog 45 = true := by kernel_rfl
@[go_sem] theorem bodyOk_46 : bodyOk Try.prog 46 = true := by kernel_rfl
@[go_sem] theorem bodyOk_47 : bodyOk Try.prog 47 = true := by kernel_rfl
@[go_sem] theorem bodyOk_48 : bodyOk Try.prog 48 = true := by kernel_rfl
@[go_sem] theorem bodyOk_49 : bodyOk Try.prog 49 = true := by kernel_rfl
@[go_sem] theorem bodyOk_50 : bodyOk Try.prog 50 = true := by kernel_rfl
@[go_sem] theorem bodyOk_51 : bodyOk Try.prog 51 = true := by kernel_rfl
@[go_sem] theorem bodyOk_52 : bodyOk Try.prog 52 = true := by kernel_rfl
@[go_sem] theorem bodyOk_53 : bodyOk Try.prog 53 = true := by kernel_rfl
@[go_sem] theorem bodyOk_54 : bodyOk Try.prog 54 = true := by kernel_rfl
@[go_sem] theorem bodyOk_55 : bodyOk Try.prog 55 = true := by kernel_rfl
@[go_sem] theorem bodyOk_56 : bodyOk Try.prog 56 = true := by kernel_rfl
@[go_sem] theorem bodyOk_57 : bodyOk Try.prog 57 = true := by kernel_rfl
@[go_sem] theorem bodyOk_58 : bodyOk Try.prog 58 = true := by kernel_rfl
@[go_sem] theorem bodyOk_59 : bodyOk Try.prog 59 = true := by kernel_rfl
@[go_sem] theorem bodyOk_60 : bodyOk Try.prog 60 = true := by kernel_rfl
@[go_sem] theorem bodyOk_61 : bodyOk Try.prog 61 = true := by kernel_rfl
@[go_sem] theorem bodyOk_62 : bodyOk Try.prog 62 = true := by kernel_rfl
@[go_sem] theorem bodyOk_63 : bodyOk Try.prog 63 = true := by kernel_rfl
@[go_sem] theorem bodyOk_64 : bodyOk Try.prog 64 = true := by kernel_rfl
@[go_sem] theorem bodyOk_65 : bodyOk Try.prog 65 = true := by kernel_rfl
@[go_sem] theorem bodyOk_66 : bodyOk Try.prog 66 = true := by kernel_rfl
@[go_sem] theorem bodyOk_67 : bodyOk Try.prog 67 = true := by kernel_rfl
@[go_sem] theorem bodyOk_68 : bodyOk Try.prog 68 = true := by kernel_rfl
@[go_sem] theorem bodyOk_69 : bodyOk Try.prog 69 = true := by kernel_rfl
@[go_sem] theorem bodyOk_70 : bodyOk Try.prog 70 = true := by kernel_rfl
@[go_sem] theorem bodyOk_71 : bodyOk Try.prog 71 = true := by kernel_rfl
@[go_sem] theorem bodyOk_72 : bodyOk Try.prog 72 = true := by kernel_rfl
@[go_sem] theorem bodyOk_73 : bodyOk Try.prog 73 = true := by kernel_rfl
@[go_sem] theorem bodyOk_74 : bodyOk Try.prog 74 = true := by kernel_rfl
@[go_sem] theorem bodyOk_75 : bodyOk Try.prog 75 = true := by kernel_rfl
@[go_sem] theorem bodyOk_76 : bodyOk Try.prog 76 = true := by kernel_rfl
@[go_sem] theorem bodyOk_77 : bodyOk Try.prog 77 = true := by kernel_rfl
@[go_sem] theorem bodyOk_78 : bodyOk Try.prog 78 = true := by kernel_rfl
@[go_sem] theorem bodyOk_79 : bodyOk Try.prog 79 = true := by kernel_rfl
@[go_sem] theorem bodyOk_80 : bodyOk Try.prog 80 = true := by kernel_rfl
@[go_sem] theorem bodyOk_81 : bodyOk Try.prog 81 = true := by kernel_rfl
@[go_sem] theorem bodyOk_82 : bodyOk Try.prog 82 = true := by kernel_rfl
@[go_sem] theorem bodyOk_83 : bodyOk Try.prog 83 = true := by kernel_rfl
@[go_sem] theorem bodyOk_84 : bodyOk Try.prog 84 = true := by kernel_rfl
@[go_sem] theorem bodyOk_85 : bodyOk Try.prog 85 = true := by kernel_rfl
@[go_sem] theorem bodyOk_86 : bodyOk Try.prog 86 = true := by kernel_rfl
end Go.Proofs.Ythbdjgjpocfneaa
