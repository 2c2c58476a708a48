/- Facts on the types of the program, by the kernel. Printed by a program of this session. -/
import Derived.Test.YtalneemgdjkcdaaProg
import Derived.Test.YtalneemgdjkcdaaB26
import Derived.KernelRfl
namespace Go.Proofs.Ytalneemgdjkcdaa
open Go.AB
set_option maxRecDepth 100000
@[go_sem] theorem tyA_1 : tyA Try.prog 1 = some (false, 1) := by kernel_rfl
@[go_sem] theorem bytesA_1 : bytesA Try.prog 1 = false := by kernel_rfl
@[go_sem] theorem knownA_1 : knownA Try.prog 1 = true := by kernel_rfl
@[go_sem] theorem concA_1 : concA Try.prog 1 = true := by kernel_rfl
@[go_sem] theorem ikA_1 : ikA Try.prog 1 = none := by kernel_rfl
@[go_sem] theorem zeroA_1 : zeroA Try.prog 1 = some [.raw .nilFunc] := by kernel_rfl
@[go_sem] theorem slA_1 : slA Try.prog 1 = none := by kernel_rfl
@[go_sem] theorem tyA_2 : tyA Try.prog 2 = some (false, 1) := by kernel_rfl
@[go_sem] theorem bytesA_2 : bytesA Try.prog 2 = false := by kernel_rfl
@[go_sem] theorem knownA_2 : knownA Try.prog 2 = true := by kernel_rfl
@[go_sem] theorem concA_2 : concA Try.prog 2 = true := by kernel_rfl
@[go_sem] theorem ikA_2 : ikA Try.prog 2 = some .i64 := by kernel_rfl
@[go_sem] theorem zeroA_2 : zeroA Try.prog 2 = some [.int .i64 0] := by kernel_rfl
@[go_sem] theorem slA_2 : slA Try.prog 2 = none := by kernel_rfl
@[go_sem] theorem tyA_3 : tyA Try.prog 3 = some (false, 1) := by kernel_rfl
@[go_sem] theorem bytesA_3 : bytesA Try.prog 3 = false := by kernel_rfl
@[go_sem] theorem knownA_3 : knownA Try.prog 3 = true := by kernel_rfl
@[go_sem] theorem concA_3 : concA Try.prog 3 = true := by kernel_rfl
@[go_sem] theorem ikA_3 : ikA Try.prog 3 = some .i64 := by kernel_rfl
@[go_sem] theorem zeroA_3 : zeroA Try.prog 3 = some [.int .i64 0] := by kernel_rfl
@[go_sem] theorem slA_3 : slA Try.prog 3 = none := by kernel_rfl
@[go_sem] theorem tyA_4 : tyA Try.prog 4 = some (false, 1) := by kernel_rfl
@[go_sem] theorem bytesA_4 : bytesA Try.prog 4 = false := by kernel_rfl
@[go_sem] theorem knownA_4 : knownA Try.prog 4 = true := by kernel_rfl
@[go_sem] theorem concA_4 : concA Try.prog 4 = true := by kernel_rfl
@[go_sem] theorem ikA_4 : ikA Try.prog 4 = none := by kernel_rfl
@[go_sem] theorem tyBool_4 : tyBool Try.prog 4 = true := by kernel_rfl
@[go_sem] theorem zeroA_4 : zeroA Try.prog 4 = some [.bool false] := by kernel_rfl
@[go_sem] theorem slA_4 : slA Try.prog 4 = none := by kernel_rfl
@[go_sem] theorem tyA_5 : tyA Try.prog 5 = some (false, 1) := by kernel_rfl
@[go_sem] theorem bytesA_5 : bytesA Try.prog 5 = false := by kernel_rfl
@[go_sem] theorem knownA_5 : knownA Try.prog 5 = true := by kernel_rfl
@[go_sem] theorem concA_5 : concA Try.prog 5 = true := by kernel_rfl
@[go_sem] theorem ikA_5 : ikA Try.prog 5 = some .u8 := by kernel_rfl
@[go_sem] theorem zeroA_5 : zeroA Try.prog 5 = some [.int .u8 0] := by kernel_rfl
@[go_sem] theorem slA_5 : slA Try.prog 5 = none := by kernel_rfl
@[go_sem] theorem tyA_9 : tyA Try.prog 9 = some (false, 1) := by kernel_rfl
@[go_sem] theorem bytesA_9 : bytesA Try.prog 9 = false := by kernel_rfl
@[go_sem] theorem knownA_9 : knownA Try.prog 9 = true := by kernel_rfl
@[go_sem] theorem concA_9 : concA Try.prog 9 = true := by kernel_rfl
@[go_sem] theorem ikA_9 : ikA Try.prog 9 = none := by kernel_rfl
@[go_sem] theorem strA_9 : strA Try.prog 9 = true := by kernel_rfl
@[go_sem] theorem zeroA_9 : zeroA Try.prog 9 = some [.str []] := by kernel_rfl
@[go_sem] theorem slA_9 : slA Try.prog 9 = none := by kernel_rfl
@[go_sem] theorem tyA_12 : tyA Try.prog 12 = some (false, 1) := by kernel_rfl
@[go_sem] theorem bytesA_12 : bytesA Try.prog 12 = false := by kernel_rfl
@[go_sem] theorem knownA_12 : knownA Try.prog 12 = true := by kernel_rfl
@[go_sem] theorem concA_12 : concA Try.prog 12 = true := by kernel_rfl
@[go_sem] theorem ikA_12 : ikA Try.prog 12 = some .u64 := by kernel_rfl
@[go_sem] theorem zeroA_12 : zeroA Try.prog 12 = some [.int .u64 0] := by kernel_rfl
@[go_sem] theorem slA_12 : slA Try.prog 12 = none := by kernel_rfl
@[go_sem] theorem tyA_20 : tyA Try.prog 20 = some (false, 1) := by kernel_rfl
@[go_sem] theorem bytesA_20 : bytesA Try.prog 20 = false := by kernel_rfl
@[go_sem] theorem knownA_20 : knownA Try.prog 20 = true := by kernel_rfl
@[go_sem] theorem ikA_20 : ikA Try.prog 20 = none := by kernel_rfl
@[go_sem] theorem zeroA_20 : zeroA Try.prog 20 = some [.raw .nilIface] := by kernel_rfl
@[go_sem] theorem slA_20 : slA Try.prog 20 = none := by kernel_rfl
@[go_sem] theorem tyA_21 : tyA Try.prog 21 = some (false, 1) := by kernel_rfl
@[go_sem] theorem bytesA_21 : bytesA Try.prog 21 = false := by kernel_rfl
@[go_sem] theorem knownA_21 : knownA Try.prog 21 = true := by kernel_rfl
@[go_sem] theorem concA_21 : concA Try.prog 21 = true := by kernel_rfl
@[go_sem] theorem ikA_21 : ikA Try.prog 21 = some .i32 := by kernel_rfl
@[go_sem] theorem zeroA_21 : zeroA Try.prog 21 = some [.int .i32 0] := by kernel_rfl
@[go_sem] theorem slA_21 : slA Try.prog 21 = none := by kernel_rfl
@[go_sem] theorem tyA_22 : tyA Try.prog 22 = some (false, 1) := by kernel_rfl
@[go_sem] theorem bytesA_22 : bytesA Try.prog 22 = false := by kernel_rfl
@[go_sem] theorem knownA_22 : knownA Try.prog 22 = true := by kernel_rfl
@[go_sem] theorem concA_22 : concA Try.prog 22 = true := by kernel_rfl
@[go_sem] theorem ikA_22 : ikA Try.prog 22 = none := by kernel_rfl
@[go_sem] theorem zeroA_22 : zeroA Try.prog 22 = some [.sl 12 [] .nil] := by kernel_rfl
@[go_sem] theorem slA_22 : slA Try.prog 22 = some 12 := by kernel_rfl
@[go_sem] theorem mkA_22 : mkA Try.prog 22 = some ([.int .i64 0, .int .i64 0, .int .i64 0, .int .i64 0, .int .i64 0, .int .i64 0, .int .i64 0, .int .i64 0, .int .i64 0, .int .i64 0, .int .i64 0, .int .i64 0], 96) := by kernel_rfl
@[go_sem] theorem apA_22 : apA Try.prog 22 = some (12, 96) := by kernel_rfl
@[go_sem] theorem partTy_22 (i : Nat) : partTy Try.prog 22 i = 30 := rfl_of_partTy (by kernel_rfl)
@[go_sem] theorem tyA_23 : tyA Try.prog 23 = some (false, 1) := by kernel_rfl
@[go_sem] theorem bytesA_23 : bytesA Try.prog 23 = false := by kernel_rfl
@[go_sem] theorem knownA_23 : knownA Try.prog 23 = true := by kernel_rfl
@[go_sem] theorem concA_23 : concA Try.prog 23 = true := by kernel_rfl
@[go_sem] theorem ikA_23 : ikA Try.prog 23 = none := by kernel_rfl
@[go_sem] theorem zeroA_23 : zeroA Try.prog 23 = some [.raw (.pointer none)] := by kernel_rfl
@[go_sem] theorem slA_23 : slA Try.prog 23 = none := by kernel_rfl
@[go_sem] theorem tyA_24 : tyA Try.prog 24 = some (false, 1) := by kernel_rfl
@[go_sem] theorem bytesA_24 : bytesA Try.prog 24 = false := by kernel_rfl
@[go_sem] theorem knownA_24 : knownA Try.prog 24 = true := by kernel_rfl
@[go_sem] theorem concA_24 : concA Try.prog 24 = true := by kernel_rfl
@[go_sem] theorem ikA_24 : ikA Try.prog 24 = none := by kernel_rfl
@[go_sem] theorem zeroA_24 : zeroA Try.prog 24 = some [.raw .nilFunc] := by kernel_rfl
@[go_sem] theorem slA_24 : slA Try.prog 24 = none := by kernel_rfl
@[go_sem] theorem tyA_25 : tyA Try.prog 25 = some (true, 5) := by kernel_rfl
@[go_sem] theorem bytesA_25 : bytesA Try.prog 25 = false := by kernel_rfl
@[go_sem] theorem knownA_25 : knownA Try.prog 25 = true := by kernel_rfl
@[go_sem] theorem concA_25 : concA Try.prog 25 = true := by kernel_rfl
@[go_sem] theorem ikA_25 : ikA Try.prog 25 = none := by kernel_rfl
@[go_sem] theorem zeroA_25 : zeroA Try.prog 25 = some [.int .i64 0, .int .i64 0, .int .i64 0, .int .i64 0, .int .i64 0] := by kernel_rfl
@[go_sem] theorem slA_25 : slA Try.prog 25 = none := by kernel_rfl
@[go_sem] theorem fsOk_25 : fsOk Try.prog 25 = true := by kernel_rfl
@[go_sem] theorem fldA_25_0 : fldA Try.prog 25 0 = some 0 := by kernel_rfl
@[go_sem] theorem fpA_25_0 : fpA Try.prog 25 0 = some (0, false, 1) := by kernel_rfl
@[go_sem] theorem plA_25_0 : plA Try.prog 25 0 = some (0, 1) := by kernel_rfl
@[go_sem] theorem partTy_25_0 : partTy Try.prog 25 0 = 3 := by kernel_rfl
@[go_sem] theorem fldA_25_1 : fldA Try.prog 25 1 = some 1 := by kernel_rfl
@[go_sem] theorem fpA_25_1 : fpA Try.prog 25 1 = some (1, false, 1) := by kernel_rfl
@[go_sem] theorem plA_25_1 : plA Try.prog 25 1 = some (1, 1) := by kernel_rfl
@[go_sem] theorem partTy_25_1 : partTy Try.prog 25 1 = 3 := by kernel_rfl
@[go_sem] theorem fldA_25_2 : fldA Try.prog 25 2 = some 2 := by kernel_rfl
@[go_sem] theorem fpA_25_2 : fpA Try.prog 25 2 = some (2, false, 1) := by kernel_rfl
@[go_sem] theorem plA_25_2 : plA Try.prog 25 2 = some (2, 1) := by kernel_rfl
@[go_sem] theorem partTy_25_2 : partTy Try.prog 25 2 = 3 := by kernel_rfl
@[go_sem] theorem fldA_25_3 : fldA Try.prog 25 3 = some 3 := by kernel_rfl
@[go_sem] theorem fpA_25_3 : fpA Try.prog 25 3 = some (3, false, 1) := by kernel_rfl
@[go_sem] theorem plA_25_3 : plA Try.prog 25 3 = some (3, 1) := by kernel_rfl
@[go_sem] theorem partTy_25_3 : partTy Try.prog 25 3 = 3 := by kernel_rfl
@[go_sem] theorem fldA_25_4 : fldA Try.prog 25 4 = some 4 := by kernel_rfl
@[go_sem] theorem fpA_25_4 : fpA Try.prog 25 4 = some (4, false, 1) := by kernel_rfl
@[go_sem] theorem plA_25_4 : plA Try.prog 25 4 = some (4, 1) := by kernel_rfl
@[go_sem] theorem partTy_25_4 : partTy Try.prog 25 4 = 3 := by kernel_rfl
@[go_sem] theorem eqKs_25 : eqKs Try.prog 25 = some [.int .i64, .int .i64, .int .i64, .int .i64, .int .i64] := by kernel_rfl
@[go_sem] theorem tyA_26 : tyA Try.prog 26 = some (true, 5) := by kernel_rfl
@[go_sem] theorem bytesA_26 : bytesA Try.prog 26 = false := by kernel_rfl
@[go_sem] theorem knownA_26 : knownA Try.prog 26 = true := by kernel_rfl
@[go_sem] theorem concA_26 : concA Try.prog 26 = true := by kernel_rfl
@[go_sem] theorem ikA_26 : ikA Try.prog 26 = none := by kernel_rfl
@[go_sem] theorem zeroA_26 : zeroA Try.prog 26 = some [.int .i64 0, .int .i64 0, .int .i64 0, .int .i64 0, .int .i64 0] := by kernel_rfl
@[go_sem] theorem slA_26 : slA Try.prog 26 = none := by kernel_rfl
@[go_sem] theorem fsOk_26 : fsOk Try.prog 26 = true := by kernel_rfl
@[go_sem] theorem fldA_26_0 : fldA Try.prog 26 0 = some 0 := by kernel_rfl
@[go_sem] theorem fpA_26_0 : fpA Try.prog 26 0 = some (0, false, 1) := by kernel_rfl
@[go_sem] theorem plA_26_0 : plA Try.prog 26 0 = some (0, 1) := by kernel_rfl
@[go_sem] theorem partTy_26_0 : partTy Try.prog 26 0 = 3 := by kernel_rfl
@[go_sem] theorem fldA_26_1 : fldA Try.prog 26 1 = some 1 := by kernel_rfl
@[go_sem] theorem fpA_26_1 : fpA Try.prog 26 1 = some (1, false, 1) := by kernel_rfl
@[go_sem] theorem plA_26_1 : plA Try.prog 26 1 = some (1, 1) := by kernel_rfl
@[go_sem] theorem partTy_26_1 : partTy Try.prog 26 1 = 3 := by kernel_rfl
@[go_sem] theorem fldA_26_2 : fldA Try.prog 26 2 = some 2 := by kernel_rfl
@[go_sem] theorem fpA_26_2 : fpA Try.prog 26 2 = some (2, false, 1) := by kernel_rfl
@[go_sem] theorem plA_26_2 : plA Try.prog 26 2 = some (2, 1) := by kernel_rfl
@[go_sem] theorem partTy_26_2 : partTy Try.prog 26 2 = 3 := by kernel_rfl
@[go_sem] theorem fldA_26_3 : fldA Try.prog 26 3 = some 3 := by kernel_rfl
@[go_sem] theorem fpA_26_3 : fpA Try.prog 26 3 = some (3, false, 1) := by kernel_rfl
@[go_sem] theorem plA_26_3 : plA Try.prog 26 3 = some (3, 1) := by kernel_rfl
@[go_sem] theorem partTy_26_3 : partTy Try.prog 26 3 = 3 := by kernel_rfl
@[go_sem] theorem fldA_26_4 : fldA Try.prog 26 4 = some 4 := by kernel_rfl
@[go_sem] theorem fpA_26_4 : fpA Try.prog 26 4 = some (4, false, 1) := by kernel_rfl
@[go_sem] theorem plA_26_4 : plA Try.prog 26 4 = some (4, 1) := by kernel_rfl
@[go_sem] theorem partTy_26_4 : partTy Try.prog 26 4 = 3 := by kernel_rfl
@[go_sem] theorem eqKs_26 : eqKs Try.prog 26 = some [.int .i64, .int .i64, .int .i64, .int .i64, .int .i64] := by kernel_rfl
@[go_sem] theorem tyA_27 : tyA Try.prog 27 = some (true, 8) := by kernel_rfl
@[go_sem] theorem bytesA_27 : bytesA Try.prog 27 = false := by kernel_rfl
@[go_sem] theorem knownA_27 : knownA Try.prog 27 = true := by kernel_rfl
@[go_sem] theorem concA_27 : concA Try.prog 27 = true := by kernel_rfl
@[go_sem] theorem ikA_27 : ikA Try.prog 27 = none := by kernel_rfl
@[go_sem] theorem zeroA_27 : zeroA Try.prog 27 = some [.int .i64 0, .int .i64 0, .int .i64 0, .int .i64 0, .int .i64 0, .int .i64 0, .int .i64 0, .int .i64 0] := by kernel_rfl
@[go_sem] theorem slA_27 : slA Try.prog 27 = none := by kernel_rfl
@[go_sem] theorem fsOk_27 : fsOk Try.prog 27 = true := by kernel_rfl
@[go_sem] theorem fldA_27_0 : fldA Try.prog 27 0 = some 0 := by kernel_rfl
@[go_sem] theorem fpA_27_0 : fpA Try.prog 27 0 = some (0, false, 1) := by kernel_rfl
@[go_sem] theorem plA_27_0 : plA Try.prog 27 0 = some (0, 1) := by kernel_rfl
@[go_sem] theorem partTy_27_0 : partTy Try.prog 27 0 = 3 := by kernel_rfl
@[go_sem] theorem fldA_27_1 : fldA Try.prog 27 1 = some 1 := by kernel_rfl
@[go_sem] theorem fpA_27_1 : fpA Try.prog 27 1 = some (1, false, 1) := by kernel_rfl
@[go_sem] theorem plA_27_1 : plA Try.prog 27 1 = some (1, 1) := by kernel_rfl
@[go_sem] theorem partTy_27_1 : partTy Try.prog 27 1 = 3 := by kernel_rfl
@[go_sem] theorem fldA_27_2 : fldA Try.prog 27 2 = some 2 := by kernel_rfl
@[go_sem] theorem fpA_27_2 : fpA Try.prog 27 2 = some (2, false, 1) := by kernel_rfl
@[go_sem] theorem plA_27_2 : plA Try.prog 27 2 = some (2, 1) := by kernel_rfl
@[go_sem] theorem partTy_27_2 : partTy Try.prog 27 2 = 3 := by kernel_rfl
@[go_sem] theorem fldA_27_3 : fldA Try.prog 27 3 = some 3 := by kernel_rfl
@[go_sem] theorem fpA_27_3 : fpA Try.prog 27 3 = some (3, false, 1) := by kernel_rfl
@[go_sem] theorem plA_27_3 : plA Try.prog 27 3 = some (3, 1) := by kernel_rfl
@[go_sem] theorem partTy_27_3 : partTy Try.prog 27 3 = 3 := by kernel_rfl
@[go_sem] theorem fldA_27_4 : fldA Try.prog 27 4 = some 4 := by kernel_rfl
@[go_sem] theorem fpA_27_4 : fpA Try.prog 27 4 = some (4, false, 1) := by kernel_rfl
@[go_sem] theorem plA_27_4 : plA Try.prog 27 4 = some (4, 1) := by kernel_rfl
@[go_sem] theorem partTy_27_4 : partTy Try.prog 27 4 = 3 := by kernel_rfl
@[go_sem] theorem fldA_27_5 : fldA Try.prog 27 5 = some 5 := by kernel_rfl
@[go_sem] theorem fpA_27_5 : fpA Try.prog 27 5 = some (5, false, 1) := by kernel_rfl
@[go_sem] theorem plA_27_5 : plA Try.prog 27 5 = some (5, 1) := by kernel_rfl
@[go_sem] theorem partTy_27_5 : partTy Try.prog 27 5 = 3 := by kernel_rfl
@[go_sem] theorem fldA_27_6 : fldA Try.prog 27 6 = some 6 := by kernel_rfl
@[go_sem] theorem fpA_27_6 : fpA Try.prog 27 6 = some (6, false, 1) := by kernel_rfl
@[go_sem] theorem plA_27_6 : plA Try.prog 27 6 = some (6, 1) := by kernel_rfl
@[go_sem] theorem partTy_27_6 : partTy Try.prog 27 6 = 3 := by kernel_rfl
@[go_sem] theorem fldA_27_7 : fldA Try.prog 27 7 = some 7 := by kernel_rfl
@[go_sem] theorem fpA_27_7 : fpA Try.prog 27 7 = some (7, false, 1) := by kernel_rfl
@[go_sem] theorem plA_27_7 : plA Try.prog 27 7 = some (7, 1) := by kernel_rfl
@[go_sem] theorem partTy_27_7 : partTy Try.prog 27 7 = 3 := by kernel_rfl
@[go_sem] theorem eqKs_27 : eqKs Try.prog 27 = some [.int .i64, .int .i64, .int .i64, .int .i64, .int .i64, .int .i64, .int .i64, .int .i64] := by kernel_rfl
@[go_sem] theorem tyA_28 : tyA Try.prog 28 = some (true, 8) := by kernel_rfl
@[go_sem] theorem bytesA_28 : bytesA Try.prog 28 = false := by kernel_rfl
@[go_sem] theorem knownA_28 : knownA Try.prog 28 = true := by kernel_rfl
@[go_sem] theorem concA_28 : concA Try.prog 28 = true := by kernel_rfl
@[go_sem] theorem ikA_28 : ikA Try.prog 28 = none := by kernel_rfl
@[go_sem] theorem zeroA_28 : zeroA Try.prog 28 = some [.int .i64 0, .int .i64 0, .int .i64 0, .int .i64 0, .int .i64 0, .int .i64 0, .int .i64 0, .int .i64 0] := by kernel_rfl
@[go_sem] theorem slA_28 : slA Try.prog 28 = none := by kernel_rfl
@[go_sem] theorem fsOk_28 : fsOk Try.prog 28 = true := by kernel_rfl
@[go_sem] theorem fldA_28_0 : fldA Try.prog 28 0 = some 0 := by kernel_rfl
@[go_sem] theorem fpA_28_0 : fpA Try.prog 28 0 = some (0, false, 1) := by kernel_rfl
@[go_sem] theorem plA_28_0 : plA Try.prog 28 0 = some (0, 1) := by kernel_rfl
@[go_sem] theorem partTy_28_0 : partTy Try.prog 28 0 = 3 := by kernel_rfl
@[go_sem] theorem fldA_28_1 : fldA Try.prog 28 1 = some 1 := by kernel_rfl
@[go_sem] theorem fpA_28_1 : fpA Try.prog 28 1 = some (1, false, 1) := by kernel_rfl
@[go_sem] theorem plA_28_1 : plA Try.prog 28 1 = some (1, 1) := by kernel_rfl
@[go_sem] theorem partTy_28_1 : partTy Try.prog 28 1 = 3 := by kernel_rfl
@[go_sem] theorem fldA_28_2 : fldA Try.prog 28 2 = some 2 := by kernel_rfl
@[go_sem] theorem fpA_28_2 : fpA Try.prog 28 2 = some (2, false, 1) := by kernel_rfl
@[go_sem] theorem plA_28_2 : plA Try.prog 28 2 = some (2, 1) := by kernel_rfl
@[go_sem] theorem partTy_28_2 : partTy Try.prog 28 2 = 3 := by kernel_rfl
@[go_sem] theorem fldA_28_3 : fldA Try.prog 28 3 = some 3 := by kernel_rfl
@[go_sem] theorem fpA_28_3 : fpA Try.prog 28 3 = some (3, false, 1) := by kernel_rfl
@[go_sem] theorem plA_28_3 : plA Try.prog 28 3 = some (3, 1) := by kernel_rfl
@[go_sem] theorem partTy_28_3 : partTy Try.prog 28 3 = 3 := by kernel_rfl
@[go_sem] theorem fldA_28_4 : fldA Try.prog 28 4 = some 4 := by kernel_rfl
@[go_sem] theorem fpA_28_4 : fpA Try.prog 28 4 = some (4, false, 1) := by kernel_rfl
@[go_sem] theorem plA_28_4 : plA Try.prog 28 4 = some (4, 1) := by kernel_rfl
@[go_sem] theorem partTy_28_4 : partTy Try.prog 28 4 = 3 := by kernel_rfl
@[go_sem] theorem fldA_28_5 : fldA Try.prog 28 5 = some 5 := by kernel_rfl
@[go_sem] theorem fpA_28_5 : fpA Try.prog 28 5 = some (5, false, 1) := by kernel_rfl
@[go_sem] theorem plA_28_5 : plA Try.prog 28 5 = some (5, 1) := by kernel_rfl
@[go_sem] theorem partTy_28_5 : partTy Try.prog 28 5 = 3 := by kernel_rfl
@[go_sem] theorem fldA_28_6 : fldA Try.prog 28 6 = some 6 := by kernel_rfl
@[go_sem] theorem fpA_28_6 : fpA Try.prog 28 6 = some (6, false, 1) := by kernel_rfl
@[go_sem] theorem plA_28_6 : plA Try.prog 28 6 = some (6, 1) := by kernel_rfl
@[go_sem] theorem partTy_28_6 : partTy Try.prog 28 6 = 3 := by kernel_rfl
@[go_sem] theorem fldA_28_7 : fldA Try.prog 28 7 = some 7 := by kernel_rfl
@[go_sem] theorem fpA_28_7 : fpA Try.prog 28 7 = some (7, false, 1) := by kernel_rfl
@[go_sem] theorem plA_28_7 : plA Try.prog 28 7 = some (7, 1) := by kernel_rfl
@[go_sem] theorem partTy_28_7 : partTy Try.prog 28 7 = 3 := by kernel_rfl
@[go_sem] theorem eqKs_28 : eqKs Try.prog 28 = some [.int .i64, .int .i64, .int .i64, .int .i64, .int .i64, .int .i64, .int .i64, .int .i64] := by kernel_rfl
@[go_sem] theorem tyA_29 : tyA Try.prog 29 = some (true, 12) := by kernel_rfl
@[go_sem] theorem bytesA_29 : bytesA Try.prog 29 = false := by kernel_rfl
@[go_sem] theorem knownA_29 : knownA Try.prog 29 = true := by kernel_rfl
@[go_sem] theorem concA_29 : concA Try.prog 29 = true := by kernel_rfl
@[go_sem] theorem ikA_29 : ikA Try.prog 29 = none := by kernel_rfl
@[go_sem] theorem zeroA_29 : zeroA Try.prog 29 = some [.int .i64 0, .int .i64 0, .int .i64 0, .int .i64 0, .int .i64 0, .int .i64 0, .int .i64 0, .int .i64 0, .int .i64 0, .int .i64 0, .int .i64 0, .int .i64 0] := by kernel_rfl
@[go_sem] theorem slA_29 : slA Try.prog 29 = none := by kernel_rfl
@[go_sem] theorem fsOk_29 : fsOk Try.prog 29 = true := by kernel_rfl
@[go_sem] theorem fldA_29_0 : fldA Try.prog 29 0 = some 0 := by kernel_rfl
@[go_sem] theorem fpA_29_0 : fpA Try.prog 29 0 = some (0, false, 1) := by kernel_rfl
@[go_sem] theorem plA_29_0 : plA Try.prog 29 0 = some (0, 1) := by kernel_rfl
@[go_sem] theorem partTy_29_0 : partTy Try.prog 29 0 = 3 := by kernel_rfl
@[go_sem] theorem fldA_29_1 : fldA Try.prog 29 1 = some 1 := by kernel_rfl
@[go_sem] theorem fpA_29_1 : fpA Try.prog 29 1 = some (1, false, 1) := by kernel_rfl
@[go_sem] theorem plA_29_1 : plA Try.prog 29 1 = some (1, 1) := by kernel_rfl
@[go_sem] theorem partTy_29_1 : partTy Try.prog 29 1 = 3 := by kernel_rfl
@[go_sem] theorem fldA_29_2 : fldA Try.prog 29 2 = some 2 := by kernel_rfl
@[go_sem] theorem fpA_29_2 : fpA Try.prog 29 2 = some (2, false, 1) := by kernel_rfl
@[go_sem] theorem plA_29_2 : plA Try.prog 29 2 = some (2, 1) := by kernel_rfl
@[go_sem] theorem partTy_29_2 : partTy Try.prog 29 2 = 3 := by kernel_rfl
@[go_sem] theorem fldA_29_3 : fldA Try.prog 29 3 = some 3 := by kernel_rfl
@[go_sem] theorem fpA_29_3 : fpA Try.prog 29 3 = some (3, false, 1) := by kernel_rfl
@[go_sem] theorem plA_29_3 : plA Try.prog 29 3 = some (3, 1) := by kernel_rfl
@[go_sem] theorem partTy_29_3 : partTy Try.prog 29 3 = 3 := by kernel_rfl
@[go_sem] theorem fldA_29_4 : fldA Try.prog 29 4 = some 4 := by kernel_rfl
@[go_sem] theorem fpA_29_4 : fpA Try.prog 29 4 = some (4, true, 8) := by kernel_rfl
@[go_sem] theorem plA_29_4 : plA Try.prog 29 4 = some (4, 8) := by kernel_rfl
@[go_sem] theorem partTy_29_4 : partTy Try.prog 29 4 = 28 := by kernel_rfl
@[go_sem] theorem tyA_30 : tyA Try.prog 30 = some (true, 12) := by kernel_rfl
@[go_sem] theorem bytesA_30 : bytesA Try.prog 30 = false := by kernel_rfl
@[go_sem] theorem knownA_30 : knownA Try.prog 30 = true := by kernel_rfl
@[go_sem] theorem concA_30 : concA Try.prog 30 = true := by kernel_rfl
@[go_sem] theorem ikA_30 : ikA Try.prog 30 = none := by kernel_rfl
@[go_sem] theorem zeroA_30 : zeroA Try.prog 30 = some [.int .i64 0, .int .i64 0, .int .i64 0, .int .i64 0, .int .i64 0, .int .i64 0, .int .i64 0, .int .i64 0, .int .i64 0, .int .i64 0, .int .i64 0, .int .i64 0] := by kernel_rfl
@[go_sem] theorem slA_30 : slA Try.prog 30 = none := by kernel_rfl
@[go_sem] theorem fsOk_30 : fsOk Try.prog 30 = true := by kernel_rfl
@[go_sem] theorem fldA_30_0 : fldA Try.prog 30 0 = some 0 := by kernel_rfl
@[go_sem] theorem fpA_30_0 : fpA Try.prog 30 0 = some (0, false, 1) := by kernel_rfl
@[go_sem] theorem plA_30_0 : plA Try.prog 30 0 = some (0, 1) := by kernel_rfl
@[go_sem] theorem partTy_30_0 : partTy Try.prog 30 0 = 3 := by kernel_rfl
@[go_sem] theorem fldA_30_1 : fldA Try.prog 30 1 = some 1 := by kernel_rfl
@[go_sem] theorem fpA_30_1 : fpA Try.prog 30 1 = some (1, false, 1) := by kernel_rfl
@[go_sem] theorem plA_30_1 : plA Try.prog 30 1 = some (1, 1) := by kernel_rfl
@[go_sem] theorem partTy_30_1 : partTy Try.prog 30 1 = 3 := by kernel_rfl
@[go_sem] theorem fldA_30_2 : fldA Try.prog 30 2 = some 2 := by kernel_rfl
@[go_sem] theorem fpA_30_2 : fpA Try.prog 30 2 = some (2, false, 1) := by kernel_rfl
@[go_sem] theorem plA_30_2 : plA Try.prog 30 2 = some (2, 1) := by kernel_rfl
@[go_sem] theorem partTy_30_2 : partTy Try.prog 30 2 = 3 := by kernel_rfl
@[go_sem] theorem fldA_30_3 : fldA Try.prog 30 3 = some 3 := by kernel_rfl
@[go_sem] theorem fpA_30_3 : fpA Try.prog 30 3 = some (3, false, 1) := by kernel_rfl
@[go_sem] theorem plA_30_3 : plA Try.prog 30 3 = some (3, 1) := by kernel_rfl
@[go_sem] theorem partTy_30_3 : partTy Try.prog 30 3 = 3 := by kernel_rfl
@[go_sem] theorem fldA_30_4 : fldA Try.prog 30 4 = some 4 := by kernel_rfl
@[go_sem] theorem fpA_30_4 : fpA Try.prog 30 4 = some (4, true, 8) := by kernel_rfl
@[go_sem] theorem plA_30_4 : plA Try.prog 30 4 = some (4, 8) := by kernel_rfl
@[go_sem] theorem partTy_30_4 : partTy Try.prog 30 4 = 28 := by kernel_rfl
@[go_sem] theorem tyA_31 : tyA Try.prog 31 = some (true, 8) := by kernel_rfl
@[go_sem] theorem bytesA_31 : bytesA Try.prog 31 = false := by kernel_rfl
@[go_sem] theorem knownA_31 : knownA Try.prog 31 = true := by kernel_rfl
@[go_sem] theorem concA_31 : concA Try.prog 31 = true := by kernel_rfl
@[go_sem] theorem ikA_31 : ikA Try.prog 31 = none := by kernel_rfl
@[go_sem] theorem zeroA_31 : zeroA Try.prog 31 = some [.int .i64 0, .int .i64 0, .int .i64 0, .int .i64 0, .int .i64 0, .int .i64 0, .int .i64 0, .int .i64 0] := by kernel_rfl
@[go_sem] theorem slA_31 : slA Try.prog 31 = none := by kernel_rfl
@[go_sem] theorem fsOk_31 : fsOk Try.prog 31 = true := by kernel_rfl
@[go_sem] theorem fldA_31_0 : fldA Try.prog 31 0 = some 0 := by kernel_rfl
@[go_sem] theorem fpA_31_0 : fpA Try.prog 31 0 = some (0, false, 1) := by kernel_rfl
@[go_sem] theorem plA_31_0 : plA Try.prog 31 0 = some (0, 1) := by kernel_rfl
@[go_sem] theorem partTy_31_0 : partTy Try.prog 31 0 = 3 := by kernel_rfl
@[go_sem] theorem fldA_31_1 : fldA Try.prog 31 1 = some 1 := by kernel_rfl
@[go_sem] theorem fpA_31_1 : fpA Try.prog 31 1 = some (1, false, 1) := by kernel_rfl
@[go_sem] theorem plA_31_1 : plA Try.prog 31 1 = some (1, 1) := by kernel_rfl
@[go_sem] theorem partTy_31_1 : partTy Try.prog 31 1 = 3 := by kernel_rfl
@[go_sem] theorem fldA_31_2 : fldA Try.prog 31 2 = some 2 := by kernel_rfl
@[go_sem] theorem fpA_31_2 : fpA Try.prog 31 2 = some (2, false, 1) := by kernel_rfl
@[go_sem] theorem plA_31_2 : plA Try.prog 31 2 = some (2, 1) := by kernel_rfl
@[go_sem] theorem partTy_31_2 : partTy Try.prog 31 2 = 3 := by kernel_rfl
@[go_sem] theorem fldA_31_3 : fldA Try.prog 31 3 = some 3 := by kernel_rfl
@[go_sem] theorem fpA_31_3 : fpA Try.prog 31 3 = some (3, false, 1) := by kernel_rfl
@[go_sem] theorem plA_31_3 : plA Try.prog 31 3 = some (3, 1) := by kernel_rfl
@[go_sem] theorem partTy_31_3 : partTy Try.prog 31 3 = 3 := by kernel_rfl
@[go_sem] theorem fldA_31_4 : fldA Try.prog 31 4 = some 4 := by kernel_rfl
@[go_sem] theorem fpA_31_4 : fpA Try.prog 31 4 = some (4, false, 1) := by kernel_rfl
@[go_sem] theorem plA_31_4 : plA Try.prog 31 4 = some (4, 1) := by kernel_rfl
@[go_sem] theorem partTy_31_4 : partTy Try.prog 31 4 = 3 := by kernel_rfl
@[go_sem] theorem fldA_31_5 : fldA Try.prog 31 5 = some 5 := by kernel_rfl
@[go_sem] theorem fpA_31_5 : fpA Try.prog 31 5 = some (5, false, 1) := by kernel_rfl
@[go_sem] theorem plA_31_5 : plA Try.prog 31 5 = some (5, 1) := by kernel_rfl
@[go_sem] theorem partTy_31_5 : partTy Try.prog 31 5 = 3 := by kernel_rfl
@[go_sem] theorem fldA_31_6 : fldA Try.prog 31 6 = some 6 := by kernel_rfl
@[go_sem] theorem fpA_31_6 : fpA Try.prog 31 6 = some (6, false, 1) := by kernel_rfl
@[go_sem] theorem plA_31_6 : plA Try.prog 31 6 = some (6, 1) := by kernel_rfl
@[go_sem] theorem partTy_31_6 : partTy Try.prog 31 6 = 3 := by kernel_rfl
@[go_sem] theorem fldA_31_7 : fldA Try.prog 31 7 = some 7 := by kernel_rfl
@[go_sem] theorem fpA_31_7 : fpA Try.prog 31 7 = some (7, false, 1) := by kernel_rfl
@[go_sem] theorem plA_31_7 : plA Try.prog 31 7 = some (7, 1) := by kernel_rfl
@[go_sem] theorem partTy_31_7 : partTy Try.prog 31 7 = 3 := by kernel_rfl
@[go_sem] theorem eqKs_31 : eqKs Try.prog 31 = some [.int .i64, .int .i64, .int .i64, .int .i64, .int .i64, .int .i64, .int .i64, .int .i64] := by kernel_rfl
@[go_sem] theorem tyA_32 : tyA Try.prog 32 = some (false, 1) := by kernel_rfl
@[go_sem] theorem bytesA_32 : bytesA Try.prog 32 = false := by kernel_rfl
@[go_sem] theorem knownA_32 : knownA Try.prog 32 = true := by kernel_rfl
@[go_sem] theorem concA_32 : concA Try.prog 32 = true := by kernel_rfl
@[go_sem] theorem ikA_32 : ikA Try.prog 32 = some .i64 := by kernel_rfl
@[go_sem] theorem zeroA_32 : zeroA Try.prog 32 = some [.int .i64 0] := by kernel_rfl
@[go_sem] theorem slA_32 : slA Try.prog 32 = none := by kernel_rfl
@[go_sem] theorem tyA_34 : tyA Try.prog 34 = some (false, 1) := by kernel_rfl
@[go_sem] theorem bytesA_34 : bytesA Try.prog 34 = false := by kernel_rfl
@[go_sem] theorem knownA_34 : knownA Try.prog 34 = true := by kernel_rfl
@[go_sem] theorem concA_34 : concA Try.prog 34 = true := by kernel_rfl
@[go_sem] theorem ikA_34 : ikA Try.prog 34 = none := by kernel_rfl
@[go_sem] theorem zeroA_34 : zeroA Try.prog 34 = some [.raw .nilFunc] := by kernel_rfl
@[go_sem] theorem slA_34 : slA Try.prog 34 = none := by kernel_rfl
@[go_sem] theorem tyA_36 : tyA Try.prog 36 = some (false, 1) := by kernel_rfl
@[go_sem] theorem bytesA_36 : bytesA Try.prog 36 = false := by kernel_rfl
@[go_sem] theorem knownA_36 : knownA Try.prog 36 = true := by kernel_rfl
@[go_sem] theorem concA_36 : concA Try.prog 36 = true := by kernel_rfl
@[go_sem] theorem ikA_36 : ikA Try.prog 36 = none := by kernel_rfl
@[go_sem] theorem zeroA_36 : zeroA Try.prog 36 = some [.raw .nilFunc] := by kernel_rfl
@[go_sem] theorem slA_36 : slA Try.prog 36 = none := by kernel_rfl
@[go_sem] theorem tyA_37 : tyA Try.prog 37 = some (false, 1) := by kernel_rfl
@[go_sem] theorem bytesA_37 : bytesA Try.prog 37 = false := by kernel_rfl
@[go_sem] theorem knownA_37 : knownA Try.prog 37 = true := by kernel_rfl
@[go_sem] theorem concA_37 : concA Try.prog 37 = true := by kernel_rfl
@[go_sem] theorem ikA_37 : ikA Try.prog 37 = none := by kernel_rfl
@[go_sem] theorem zeroA_37 : zeroA Try.prog 37 = some [.raw .nilFunc] := by kernel_rfl
@[go_sem] theorem slA_37 : slA Try.prog 37 = none := by kernel_rfl
@[go_sem] theorem tyA_38 : tyA Try.prog 38 = some (false, 1) := by kernel_rfl
@[go_sem] theorem bytesA_38 : bytesA Try.prog 38 = false := by kernel_rfl
@[go_sem] theorem knownA_38 : knownA Try.prog 38 = true := by kernel_rfl
@[go_sem] theorem concA_38 : concA Try.prog 38 = true := by kernel_rfl
@[go_sem] theorem ikA_38 : ikA Try.prog 38 = none := by kernel_rfl
@[go_sem] theorem zeroA_38 : zeroA Try.prog 38 = some [.raw .nilFunc] := by kernel_rfl
@[go_sem] theorem slA_38 : slA Try.prog 38 = none := by kernel_rfl
@[go_sem] theorem tyA_40 : tyA Try.prog 40 = some (false, 1) := by kernel_rfl
@[go_sem] theorem bytesA_40 : bytesA Try.prog 40 = false := by kernel_rfl
@[go_sem] theorem knownA_40 : knownA Try.prog 40 = true := by kernel_rfl
@[go_sem] theorem concA_40 : concA Try.prog 40 = true := by kernel_rfl
@[go_sem] theorem ikA_40 : ikA Try.prog 40 = none := by kernel_rfl
@[go_sem] theorem zeroA_40 : zeroA Try.prog 40 = some [.raw .nilFunc] := by kernel_rfl
@[go_sem] theorem slA_40 : slA Try.prog 40 = none := by kernel_rfl
@[go_sem] theorem tyA_42 : tyA Try.prog 42 = some (false, 1) := by kernel_rfl
@[go_sem] theorem bytesA_42 : bytesA Try.prog 42 = false := by kernel_rfl
@[go_sem] theorem knownA_42 : knownA Try.prog 42 = true := by kernel_rfl
@[go_sem] theorem concA_42 : concA Try.prog 42 = true := by kernel_rfl
@[go_sem] theorem ikA_42 : ikA Try.prog 42 = none := by kernel_rfl
@[go_sem] theorem zeroA_42 : zeroA Try.prog 42 = some [.raw .nilFunc] := by kernel_rfl
@[go_sem] theorem slA_42 : slA Try.prog 42 = none := by kernel_rfl
@[go_sem] theorem tyA_43 : tyA Try.prog 43 = some (false, 1) := by kernel_rfl
@[go_sem] theorem bytesA_43 : bytesA Try.prog 43 = false := by kernel_rfl
@[go_sem] theorem knownA_43 : knownA Try.prog 43 = true := by kernel_rfl
@[go_sem] theorem concA_43 : concA Try.prog 43 = true := by kernel_rfl
@[go_sem] theorem ikA_43 : ikA Try.prog 43 = none := by kernel_rfl
@[go_sem] theorem zeroA_43 : zeroA Try.prog 43 = some [.raw .nilFunc] := by kernel_rfl
@[go_sem] theorem slA_43 : slA Try.prog 43 = none := by kernel_rfl
@[go_sem] theorem tyA_44 : tyA Try.prog 44 = some (false, 1) := by kernel_rfl
@[go_sem] theorem bytesA_44 : bytesA Try.prog 44 = false := by kernel_rfl
@[go_sem] theorem knownA_44 : knownA Try.prog 44 = true := by kernel_rfl
@[go_sem] theorem concA_44 : concA Try.prog 44 = true := by kernel_rfl
@[go_sem] theorem ikA_44 : ikA Try.prog 44 = none := by kernel_rfl
@[go_sem] theorem zeroA_44 : zeroA Try.prog 44 = some [.raw .nilFunc] := by kernel_rfl
@[go_sem] theorem slA_44 : slA Try.prog 44 = none := by kernel_rfl
@[go_sem] theorem tyA_45 : tyA Try.prog 45 = some (false, 1) := by kernel_rfl
@[go_sem] theorem bytesA_45 : bytesA Try.prog 45 = false := by kernel_rfl
@[go_sem] theorem knownA_45 : knownA Try.prog 45 = true := by kernel_rfl
@[go_sem] theorem concA_45 : concA Try.prog 45 = true := by kernel_rfl
@[go_sem] theorem ikA_45 : ikA Try.prog 45 = none := by kernel_rfl
@[go_sem] theorem zeroA_45 : zeroA Try.prog 45 = some [.raw .nilFunc] := by kernel_rfl
@[go_sem] theorem slA_45 : slA Try.prog 45 = none := by kernel_rfl
@[go_sem] theorem tyA_46 : tyA Try.prog 46 = some (false, 1) := by kernel_rfl
@[go_sem] theorem bytesA_46 : bytesA Try.prog 46 = false := by kernel_rfl
@[go_sem] theorem knownA_46 : knownA Try.prog 46 = true := by kernel_rfl
@[go_sem] theorem concA_46 : concA Try.prog 46 = true := by kernel_rfl
@[go_sem] theorem ikA_46 : ikA Try.prog 46 = none := by kernel_rfl
@[go_sem] theorem zeroA_46 : zeroA Try.prog 46 = some [.raw .nilFunc] := by kernel_rfl
@[go_sem] theorem slA_46 : slA Try.prog 46 = none := by kernel_rfl
@[go_sem] theorem tyA_47 : tyA Try.prog 47 = some (false, 1) := by kernel_rfl
@[go_sem] theorem bytesA_47 : bytesA Try.prog 47 = false := by kernel_rfl
@[go_sem] theorem knownA_47 : knownA Try.prog 47 = true := by kernel_rfl
@[go_sem] theorem concA_47 : concA Try.prog 47 = true := by kernel_rfl
@[go_sem] theorem ikA_47 : ikA Try.prog 47 = none := by kernel_rfl
@[go_sem] theorem zeroA_47 : zeroA Try.prog 47 = some [.raw (.pointer none)] := by kernel_rfl
@[go_sem] theorem slA_47 : slA Try.prog 47 = none := by kernel_rfl
@[go_sem] theorem tyA_48 : tyA Try.prog 48 = some (false, 1) := by kernel_rfl
@[go_sem] theorem bytesA_48 : bytesA Try.prog 48 = false := by kernel_rfl
@[go_sem] theorem knownA_48 : knownA Try.prog 48 = true := by kernel_rfl
@[go_sem] theorem concA_48 : concA Try.prog 48 = true := by kernel_rfl
@[go_sem] theorem ikA_48 : ikA Try.prog 48 = none := by kernel_rfl
@[go_sem] theorem zeroA_48 : zeroA Try.prog 48 = some [.raw .nilFunc] := by kernel_rfl
@[go_sem] theorem slA_48 : slA Try.prog 48 = none := by kernel_rfl
@[go_sem] theorem tyA_49 : tyA Try.prog 49 = some (false, 1) := by kernel_rfl
@[go_sem] theorem bytesA_49 : bytesA Try.prog 49 = false := by kernel_rfl
@[go_sem] theorem knownA_49 : knownA Try.prog 49 = true := by kernel_rfl
@[go_sem] theorem concA_49 : concA Try.prog 49 = true := by kernel_rfl
@[go_sem] theorem ikA_49 : ikA Try.prog 49 = none := by kernel_rfl
@[go_sem] theorem zeroA_49 : zeroA Try.prog 49 = some [.raw (.pointer none)] := by kernel_rfl
@[go_sem] theorem slA_49 : slA Try.prog 49 = none := by kernel_rfl
@[go_sem] theorem tyA_50 : tyA Try.prog 50 = some (false, 1) := by kernel_rfl
@[go_sem] theorem bytesA_50 : bytesA Try.prog 50 = false := by kernel_rfl
@[go_sem] theorem knownA_50 : knownA Try.prog 50 = true := by kernel_rfl
@[go_sem] theorem concA_50 : concA Try.prog 50 = true := by kernel_rfl
@[go_sem] theorem ikA_50 : ikA Try.prog 50 = none := by kernel_rfl
@[go_sem] theorem zeroA_50 : zeroA Try.prog 50 = some [.sl 2 [] .nil] := by kernel_rfl
@[go_sem] theorem slA_50 : slA Try.prog 50 = some 2 := by kernel_rfl
@[go_sem] theorem mkA_50 : mkA Try.prog 50 = some ([.int .i64 0, .int .i64 0], 16) := by kernel_rfl
@[go_sem] theorem apA_50 : apA Try.prog 50 = some (2, 16) := by kernel_rfl
@[go_sem] theorem partTy_50 (i : Nat) : partTy Try.prog 50 i = 136 := rfl_of_partTy (by kernel_rfl)
@[go_sem] theorem tyA_51 : tyA Try.prog 51 = some (true, 11) := by kernel_rfl
@[go_sem] theorem bytesA_51 : bytesA Try.prog 51 = false := by kernel_rfl
@[go_sem] theorem knownA_51 : knownA Try.prog 51 = true := by kernel_rfl
@[go_sem] theorem concA_51 : concA Try.prog 51 = true := by kernel_rfl
@[go_sem] theorem ikA_51 : ikA Try.prog 51 = none := by kernel_rfl
@[go_sem] theorem zeroA_51 : zeroA Try.prog 51 = some [.int .i64 0, .int .i64 0, .int .i64 0, .int .i64 0, .int .i64 0, .int .i64 0, .int .i64 0, .int .i64 0, .int .i64 0, .sl 2 [] .nil, .sl 2 [] .nil] := by kernel_rfl
@[go_sem] theorem slA_51 : slA Try.prog 51 = none := by kernel_rfl
@[go_sem] theorem fsOk_51 : fsOk Try.prog 51 = true := by kernel_rfl
@[go_sem] theorem fldA_51_0 : fldA Try.prog 51 0 = some 0 := by kernel_rfl
@[go_sem] theorem fpA_51_0 : fpA Try.prog 51 0 = some (0, false, 1) := by kernel_rfl
@[go_sem] theorem plA_51_0 : plA Try.prog 51 0 = some (0, 1) := by kernel_rfl
@[go_sem] theorem partTy_51_0 : partTy Try.prog 51 0 = 3 := by kernel_rfl
@[go_sem] theorem fldA_51_1 : fldA Try.prog 51 1 = some 1 := by kernel_rfl
@[go_sem] theorem fpA_51_1 : fpA Try.prog 51 1 = some (1, false, 1) := by kernel_rfl
@[go_sem] theorem plA_51_1 : plA Try.prog 51 1 = some (1, 1) := by kernel_rfl
@[go_sem] theorem partTy_51_1 : partTy Try.prog 51 1 = 3 := by kernel_rfl
@[go_sem] theorem fldA_51_2 : fldA Try.prog 51 2 = some 2 := by kernel_rfl
@[go_sem] theorem fpA_51_2 : fpA Try.prog 51 2 = some (2, false, 1) := by kernel_rfl
@[go_sem] theorem plA_51_2 : plA Try.prog 51 2 = some (2, 1) := by kernel_rfl
@[go_sem] theorem partTy_51_2 : partTy Try.prog 51 2 = 3 := by kernel_rfl
@[go_sem] theorem fldA_51_3 : fldA Try.prog 51 3 = some 3 := by kernel_rfl
@[go_sem] theorem fpA_51_3 : fpA Try.prog 51 3 = some (3, false, 1) := by kernel_rfl
@[go_sem] theorem plA_51_3 : plA Try.prog 51 3 = some (3, 1) := by kernel_rfl
@[go_sem] theorem partTy_51_3 : partTy Try.prog 51 3 = 3 := by kernel_rfl
@[go_sem] theorem fldA_51_4 : fldA Try.prog 51 4 = some 4 := by kernel_rfl
@[go_sem] theorem fpA_51_4 : fpA Try.prog 51 4 = some (4, false, 1) := by kernel_rfl
@[go_sem] theorem plA_51_4 : plA Try.prog 51 4 = some (4, 1) := by kernel_rfl
@[go_sem] theorem partTy_51_4 : partTy Try.prog 51 4 = 3 := by kernel_rfl
@[go_sem] theorem fldA_51_5 : fldA Try.prog 51 5 = some 5 := by kernel_rfl
@[go_sem] theorem fpA_51_5 : fpA Try.prog 51 5 = some (5, false, 1) := by kernel_rfl
@[go_sem] theorem plA_51_5 : plA Try.prog 51 5 = some (5, 1) := by kernel_rfl
@[go_sem] theorem partTy_51_5 : partTy Try.prog 51 5 = 3 := by kernel_rfl
@[go_sem] theorem fldA_51_6 : fldA Try.prog 51 6 = some 6 := by kernel_rfl
@[go_sem] theorem fpA_51_6 : fpA Try.prog 51 6 = some (6, false, 1) := by kernel_rfl
@[go_sem] theorem plA_51_6 : plA Try.prog 51 6 = some (6, 1) := by kernel_rfl
@[go_sem] theorem partTy_51_6 : partTy Try.prog 51 6 = 3 := by kernel_rfl
@[go_sem] theorem fldA_51_7 : fldA Try.prog 51 7 = some 7 := by kernel_rfl
@[go_sem] theorem fpA_51_7 : fpA Try.prog 51 7 = some (7, false, 1) := by kernel_rfl
@[go_sem] theorem plA_51_7 : plA Try.prog 51 7 = some (7, 1) := by kernel_rfl
@[go_sem] theorem partTy_51_7 : partTy Try.prog 51 7 = 3 := by kernel_rfl
@[go_sem] theorem fldA_51_8 : fldA Try.prog 51 8 = some 8 := by kernel_rfl
@[go_sem] theorem fpA_51_8 : fpA Try.prog 51 8 = some (8, false, 1) := by kernel_rfl
@[go_sem] theorem plA_51_8 : plA Try.prog 51 8 = some (8, 1) := by kernel_rfl
@[go_sem] theorem partTy_51_8 : partTy Try.prog 51 8 = 3 := by kernel_rfl
@[go_sem] theorem fldA_51_9 : fldA Try.prog 51 9 = some 9 := by kernel_rfl
@[go_sem] theorem fpA_51_9 : fpA Try.prog 51 9 = some (9, false, 1) := by kernel_rfl
@[go_sem] theorem plA_51_9 : plA Try.prog 51 9 = some (9, 1) := by kernel_rfl
@[go_sem] theorem partTy_51_9 : partTy Try.prog 51 9 = 50 := by kernel_rfl
@[go_sem] theorem fldA_51_10 : fldA Try.prog 51 10 = some 10 := by kernel_rfl
@[go_sem] theorem fpA_51_10 : fpA Try.prog 51 10 = some (10, false, 1) := by kernel_rfl
@[go_sem] theorem plA_51_10 : plA Try.prog 51 10 = some (10, 1) := by kernel_rfl
@[go_sem] theorem partTy_51_10 : partTy Try.prog 51 10 = 50 := by kernel_rfl
@[go_sem] theorem tyA_52 : tyA Try.prog 52 = some (true, 11) := by kernel_rfl
@[go_sem] theorem bytesA_52 : bytesA Try.prog 52 = false := by kernel_rfl
@[go_sem] theorem knownA_52 : knownA Try.prog 52 = true := by kernel_rfl
@[go_sem] theorem concA_52 : concA Try.prog 52 = true := by kernel_rfl
@[go_sem] theorem ikA_52 : ikA Try.prog 52 = none := by kernel_rfl
@[go_sem] theorem zeroA_52 : zeroA Try.prog 52 = some [.int .i64 0, .int .i64 0, .int .i64 0, .int .i64 0, .int .i64 0, .int .i64 0, .int .i64 0, .int .i64 0, .int .i64 0, .sl 2 [] .nil, .sl 2 [] .nil] := by kernel_rfl
@[go_sem] theorem slA_52 : slA Try.prog 52 = none := by kernel_rfl
@[go_sem] theorem fsOk_52 : fsOk Try.prog 52 = true := by kernel_rfl
@[go_sem] theorem fldA_52_0 : fldA Try.prog 52 0 = some 0 := by kernel_rfl
@[go_sem] theorem fpA_52_0 : fpA Try.prog 52 0 = some (0, false, 1) := by kernel_rfl
@[go_sem] theorem plA_52_0 : plA Try.prog 52 0 = some (0, 1) := by kernel_rfl
@[go_sem] theorem partTy_52_0 : partTy Try.prog 52 0 = 3 := by kernel_rfl
@[go_sem] theorem fldA_52_1 : fldA Try.prog 52 1 = some 1 := by kernel_rfl
@[go_sem] theorem fpA_52_1 : fpA Try.prog 52 1 = some (1, false, 1) := by kernel_rfl
@[go_sem] theorem plA_52_1 : plA Try.prog 52 1 = some (1, 1) := by kernel_rfl
@[go_sem] theorem partTy_52_1 : partTy Try.prog 52 1 = 3 := by kernel_rfl
@[go_sem] theorem fldA_52_2 : fldA Try.prog 52 2 = some 2 := by kernel_rfl
@[go_sem] theorem fpA_52_2 : fpA Try.prog 52 2 = some (2, false, 1) := by kernel_rfl
@[go_sem] theorem plA_52_2 : plA Try.prog 52 2 = some (2, 1) := by kernel_rfl
@[go_sem] theorem partTy_52_2 : partTy Try.prog 52 2 = 3 := by kernel_rfl
@[go_sem] theorem fldA_52_3 : fldA Try.prog 52 3 = some 3 := by kernel_rfl
@[go_sem] theorem fpA_52_3 : fpA Try.prog 52 3 = some (3, false, 1) := by kernel_rfl
@[go_sem] theorem plA_52_3 : plA Try.prog 52 3 = some (3, 1) := by kernel_rfl
@[go_sem] theorem partTy_52_3 : partTy Try.prog 52 3 = 3 := by kernel_rfl
@[go_sem] theorem fldA_52_4 : fldA Try.prog 52 4 = some 4 := by kernel_rfl
@[go_sem] theorem fpA_52_4 : fpA Try.prog 52 4 = some (4, false, 1) := by kernel_rfl
@[go_sem] theorem plA_52_4 : plA Try.prog 52 4 = some (4, 1) := by kernel_rfl
@[go_sem] theorem partTy_52_4 : partTy Try.prog 52 4 = 3 := by kernel_rfl
@[go_sem] theorem fldA_52_5 : fldA Try.prog 52 5 = some 5 := by kernel_rfl
@[go_sem] theorem fpA_52_5 : fpA Try.prog 52 5 = some (5, false, 1) := by kernel_rfl
@[go_sem] theorem plA_52_5 : plA Try.prog 52 5 = some (5, 1) := by kernel_rfl
@[go_sem] theorem partTy_52_5 : partTy Try.prog 52 5 = 3 := by kernel_rfl
@[go_sem] theorem fldA_52_6 : fldA Try.prog 52 6 = some 6 := by kernel_rfl
@[go_sem] theorem fpA_52_6 : fpA Try.prog 52 6 = some (6, false, 1) := by kernel_rfl
@[go_sem] theorem plA_52_6 : plA Try.prog 52 6 = some (6, 1) := by kernel_rfl
@[go_sem] theorem partTy_52_6 : partTy Try.prog 52 6 = 3 := by kernel_rfl
@[go_sem] theorem fldA_52_7 : fldA Try.prog 52 7 = some 7 := by kernel_rfl
@[go_sem] theorem fpA_52_7 : fpA Try.prog 52 7 = some (7, false, 1) := by kernel_rfl
@[go_sem] theorem plA_52_7 : plA Try.prog 52 7 = some (7, 1) := by kernel_rfl
@[go_sem] theorem partTy_52_7 : partTy Try.prog 52 7 = 3 := by kernel_rfl
@[go_sem] theorem fldA_52_8 : fldA Try.prog 52 8 = some 8 := by kernel_rfl
@[go_sem] theorem fpA_52_8 : fpA Try.prog 52 8 = some (8, false, 1) := by kernel_rfl
@[go_sem] theorem plA_52_8 : plA Try.prog 52 8 = some (8, 1) := by kernel_rfl
@[go_sem] theorem partTy_52_8 : partTy Try.prog 52 8 = 3 := by kernel_rfl
@[go_sem] theorem fldA_52_9 : fldA Try.prog 52 9 = some 9 := by kernel_rfl
@[go_sem] theorem fpA_52_9 : fpA Try.prog 52 9 = some (9, false, 1) := by kernel_rfl
@[go_sem] theorem plA_52_9 : plA Try.prog 52 9 = some (9, 1) := by kernel_rfl
@[go_sem] theorem partTy_52_9 : partTy Try.prog 52 9 = 50 := by kernel_rfl
@[go_sem] theorem fldA_52_10 : fldA Try.prog 52 10 = some 10 := by kernel_rfl
@[go_sem] theorem fpA_52_10 : fpA Try.prog 52 10 = some (10, false, 1) := by kernel_rfl
@[go_sem] theorem plA_52_10 : plA Try.prog 52 10 = some (10, 1) := by kernel_rfl
@[go_sem] theorem partTy_52_10 : partTy Try.prog 52 10 = 50 := by kernel_rfl
@[go_sem] theorem tyA_53 : tyA Try.prog 53 = some (false, 1) := by kernel_rfl
@[go_sem] theorem bytesA_53 : bytesA Try.prog 53 = false := by kernel_rfl
@[go_sem] theorem knownA_53 : knownA Try.prog 53 = true := by kernel_rfl
@[go_sem] theorem concA_53 : concA Try.prog 53 = true := by kernel_rfl
@[go_sem] theorem ikA_53 : ikA Try.prog 53 = none := by kernel_rfl
@[go_sem] theorem zeroA_53 : zeroA Try.prog 53 = some [.raw .nilFunc] := by kernel_rfl
@[go_sem] theorem slA_53 : slA Try.prog 53 = none := by kernel_rfl
@[go_sem] theorem tyA_54 : tyA Try.prog 54 = some (false, 1) := by kernel_rfl
@[go_sem] theorem bytesA_54 : bytesA Try.prog 54 = false := by kernel_rfl
@[go_sem] theorem knownA_54 : knownA Try.prog 54 = true := by kernel_rfl
@[go_sem] theorem concA_54 : concA Try.prog 54 = true := by kernel_rfl
@[go_sem] theorem ikA_54 : ikA Try.prog 54 = none := by kernel_rfl
@[go_sem] theorem zeroA_54 : zeroA Try.prog 54 = some [.raw .nilFunc] := by kernel_rfl
@[go_sem] theorem slA_54 : slA Try.prog 54 = none := by kernel_rfl
@[go_sem] theorem tyA_55 : tyA Try.prog 55 = some (false, 1) := by kernel_rfl
@[go_sem] theorem bytesA_55 : bytesA Try.prog 55 = false := by kernel_rfl
@[go_sem] theorem knownA_55 : knownA Try.prog 55 = true := by kernel_rfl
@[go_sem] theorem concA_55 : concA Try.prog 55 = true := by kernel_rfl
@[go_sem] theorem ikA_55 : ikA Try.prog 55 = none := by kernel_rfl
@[go_sem] theorem zeroA_55 : zeroA Try.prog 55 = some [.raw .nilFunc] := by kernel_rfl
@[go_sem] theorem slA_55 : slA Try.prog 55 = none := by kernel_rfl
@[go_sem] theorem tyA_56 : tyA Try.prog 56 = some (false, 1) := by kernel_rfl
@[go_sem] theorem bytesA_56 : bytesA Try.prog 56 = false := by kernel_rfl
@[go_sem] theorem knownA_56 : knownA Try.prog 56 = true := by kernel_rfl
@[go_sem] theorem concA_56 : concA Try.prog 56 = true := by kernel_rfl
@[go_sem] theorem ikA_56 : ikA Try.prog 56 = none := by kernel_rfl
@[go_sem] theorem zeroA_56 : zeroA Try.prog 56 = some [.sl 1 [] .nil] := by kernel_rfl
@[go_sem] theorem slA_56 : slA Try.prog 56 = some 1 := by kernel_rfl
@[go_sem] theorem mkA_56 : mkA Try.prog 56 = some ([.int .i64 0], 8) := by kernel_rfl
@[go_sem] theorem apA_56 : apA Try.prog 56 = some (1, 8) := by kernel_rfl
@[go_sem] theorem partTy_56 (i : Nat) : partTy Try.prog 56 i = 3 := rfl_of_partTy (by kernel_rfl)
@[go_sem] theorem tyA_57 : tyA Try.prog 57 = some (false, 1) := by kernel_rfl
@[go_sem] theorem bytesA_57 : bytesA Try.prog 57 = false := by kernel_rfl
@[go_sem] theorem knownA_57 : knownA Try.prog 57 = true := by kernel_rfl
@[go_sem] theorem concA_57 : concA Try.prog 57 = true := by kernel_rfl
@[go_sem] theorem ikA_57 : ikA Try.prog 57 = none := by kernel_rfl
@[go_sem] theorem zeroA_57 : zeroA Try.prog 57 = some [.raw .nilFunc] := by kernel_rfl
@[go_sem] theorem slA_57 : slA Try.prog 57 = none := by kernel_rfl
@[go_sem] theorem tyA_58 : tyA Try.prog 58 = some (false, 1) := by kernel_rfl
@[go_sem] theorem bytesA_58 : bytesA Try.prog 58 = false := by kernel_rfl
@[go_sem] theorem knownA_58 : knownA Try.prog 58 = true := by kernel_rfl
@[go_sem] theorem concA_58 : concA Try.prog 58 = true := by kernel_rfl
@[go_sem] theorem ikA_58 : ikA Try.prog 58 = none := by kernel_rfl
@[go_sem] theorem zeroA_58 : zeroA Try.prog 58 = some [.raw .nilFunc] := by kernel_rfl
@[go_sem] theorem slA_58 : slA Try.prog 58 = none := by kernel_rfl
@[go_sem] theorem tyA_59 : tyA Try.prog 59 = some (true, 10) := by kernel_rfl
@[go_sem] theorem bytesA_59 : bytesA Try.prog 59 = false := by kernel_rfl
@[go_sem] theorem knownA_59 : knownA Try.prog 59 = true := by kernel_rfl
@[go_sem] theorem concA_59 : concA Try.prog 59 = true := by kernel_rfl
@[go_sem] theorem ikA_59 : ikA Try.prog 59 = none := by kernel_rfl
@[go_sem] theorem zeroA_59 : zeroA Try.prog 59 = some [.str [], .int .i64 0, .int .i64 0, .int .i64 0, .int .i64 0, .int .i64 0, .int .i64 0, .int .i64 0, .int .i64 0, .int .i64 0] := by kernel_rfl
@[go_sem] theorem slA_59 : slA Try.prog 59 = none := by kernel_rfl
@[go_sem] theorem fsOk_59 : fsOk Try.prog 59 = true := by kernel_rfl
@[go_sem] theorem fldA_59_0 : fldA Try.prog 59 0 = some 0 := by kernel_rfl
@[go_sem] theorem fpA_59_0 : fpA Try.prog 59 0 = some (0, false, 1) := by kernel_rfl
@[go_sem] theorem plA_59_0 : plA Try.prog 59 0 = some (0, 1) := by kernel_rfl
@[go_sem] theorem partTy_59_0 : partTy Try.prog 59 0 = 9 := by kernel_rfl
@[go_sem] theorem fldA_59_1 : fldA Try.prog 59 1 = some 1 := by kernel_rfl
@[go_sem] theorem fpA_59_1 : fpA Try.prog 59 1 = some (1, false, 1) := by kernel_rfl
@[go_sem] theorem plA_59_1 : plA Try.prog 59 1 = some (1, 1) := by kernel_rfl
@[go_sem] theorem partTy_59_1 : partTy Try.prog 59 1 = 3 := by kernel_rfl
@[go_sem] theorem fldA_59_2 : fldA Try.prog 59 2 = some 2 := by kernel_rfl
@[go_sem] theorem fpA_59_2 : fpA Try.prog 59 2 = some (2, false, 1) := by kernel_rfl
@[go_sem] theorem plA_59_2 : plA Try.prog 59 2 = some (2, 1) := by kernel_rfl
@[go_sem] theorem partTy_59_2 : partTy Try.prog 59 2 = 3 := by kernel_rfl
@[go_sem] theorem fldA_59_3 : fldA Try.prog 59 3 = some 3 := by kernel_rfl
@[go_sem] theorem fpA_59_3 : fpA Try.prog 59 3 = some (3, false, 1) := by kernel_rfl
@[go_sem] theorem plA_59_3 : plA Try.prog 59 3 = some (3, 1) := by kernel_rfl
@[go_sem] theorem partTy_59_3 : partTy Try.prog 59 3 = 3 := by kernel_rfl
@[go_sem] theorem fldA_59_4 : fldA Try.prog 59 4 = some 4 := by kernel_rfl
@[go_sem] theorem fpA_59_4 : fpA Try.prog 59 4 = some (4, false, 1) := by kernel_rfl
@[go_sem] theorem plA_59_4 : plA Try.prog 59 4 = some (4, 1) := by kernel_rfl
@[go_sem] theorem partTy_59_4 : partTy Try.prog 59 4 = 3 := by kernel_rfl
@[go_sem] theorem fldA_59_5 : fldA Try.prog 59 5 = some 5 := by kernel_rfl
@[go_sem] theorem fpA_59_5 : fpA Try.prog 59 5 = some (5, false, 1) := by kernel_rfl
@[go_sem] theorem plA_59_5 : plA Try.prog 59 5 = some (5, 1) := by kernel_rfl
@[go_sem] theorem partTy_59_5 : partTy Try.prog 59 5 = 3 := by kernel_rfl
@[go_sem] theorem fldA_59_6 : fldA Try.prog 59 6 = some 6 := by kernel_rfl
@[go_sem] theorem fpA_59_6 : fpA Try.prog 59 6 = some (6, false, 1) := by kernel_rfl
@[go_sem] theorem plA_59_6 : plA Try.prog 59 6 = some (6, 1) := by kernel_rfl
@[go_sem] theorem partTy_59_6 : partTy Try.prog 59 6 = 3 := by kernel_rfl
@[go_sem] theorem fldA_59_7 : fldA Try.prog 59 7 = some 7 := by kernel_rfl
@[go_sem] theorem fpA_59_7 : fpA Try.prog 59 7 = some (7, false, 1) := by kernel_rfl
@[go_sem] theorem plA_59_7 : plA Try.prog 59 7 = some (7, 1) := by kernel_rfl
@[go_sem] theorem partTy_59_7 : partTy Try.prog 59 7 = 3 := by kernel_rfl
@[go_sem] theorem fldA_59_8 : fldA Try.prog 59 8 = some 8 := by kernel_rfl
@[go_sem] theorem fpA_59_8 : fpA Try.prog 59 8 = some (8, false, 1) := by kernel_rfl
@[go_sem] theorem plA_59_8 : plA Try.prog 59 8 = some (8, 1) := by kernel_rfl
@[go_sem] theorem partTy_59_8 : partTy Try.prog 59 8 = 3 := by kernel_rfl
@[go_sem] theorem fldA_59_9 : fldA Try.prog 59 9 = some 9 := by kernel_rfl
@[go_sem] theorem fpA_59_9 : fpA Try.prog 59 9 = some (9, false, 1) := by kernel_rfl
@[go_sem] theorem plA_59_9 : plA Try.prog 59 9 = some (9, 1) := by kernel_rfl
@[go_sem] theorem partTy_59_9 : partTy Try.prog 59 9 = 3 := by kernel_rfl
@[go_sem] theorem eqKs_59 : eqKs Try.prog 59 = some [.str, .int .i64, .int .i64, .int .i64, .int .i64, .int .i64, .int .i64, .int .i64, .int .i64, .int .i64] := by kernel_rfl
@[go_sem] theorem tyA_60 : tyA Try.prog 60 = some (true, 10) := by kernel_rfl
@[go_sem] theorem bytesA_60 : bytesA Try.prog 60 = false := by kernel_rfl
@[go_sem] theorem knownA_60 : knownA Try.prog 60 = true := by kernel_rfl
@[go_sem] theorem concA_60 : concA Try.prog 60 = true := by kernel_rfl
@[go_sem] theorem ikA_60 : ikA Try.prog 60 = none := by kernel_rfl
@[go_sem] theorem zeroA_60 : zeroA Try.prog 60 = some [.str [], .int .i64 0, .int .i64 0, .int .i64 0, .int .i64 0, .int .i64 0, .int .i64 0, .int .i64 0, .int .i64 0, .int .i64 0] := by kernel_rfl
@[go_sem] theorem slA_60 : slA Try.prog 60 = none := by kernel_rfl
@[go_sem] theorem fsOk_60 : fsOk Try.prog 60 = true := by kernel_rfl
@[go_sem] theorem fldA_60_0 : fldA Try.prog 60 0 = some 0 := by kernel_rfl
@[go_sem] theorem fpA_60_0 : fpA Try.prog 60 0 = some (0, false, 1) := by kernel_rfl
@[go_sem] theorem plA_60_0 : plA Try.prog 60 0 = some (0, 1) := by kernel_rfl
@[go_sem] theorem partTy_60_0 : partTy Try.prog 60 0 = 9 := by kernel_rfl
@[go_sem] theorem fldA_60_1 : fldA Try.prog 60 1 = some 1 := by kernel_rfl
@[go_sem] theorem fpA_60_1 : fpA Try.prog 60 1 = some (1, false, 1) := by kernel_rfl
@[go_sem] theorem plA_60_1 : plA Try.prog 60 1 = some (1, 1) := by kernel_rfl
@[go_sem] theorem partTy_60_1 : partTy Try.prog 60 1 = 3 := by kernel_rfl
@[go_sem] theorem fldA_60_2 : fldA Try.prog 60 2 = some 2 := by kernel_rfl
@[go_sem] theorem fpA_60_2 : fpA Try.prog 60 2 = some (2, false, 1) := by kernel_rfl
@[go_sem] theorem plA_60_2 : plA Try.prog 60 2 = some (2, 1) := by kernel_rfl
@[go_sem] theorem partTy_60_2 : partTy Try.prog 60 2 = 3 := by kernel_rfl
@[go_sem] theorem fldA_60_3 : fldA Try.prog 60 3 = some 3 := by kernel_rfl
@[go_sem] theorem fpA_60_3 : fpA Try.prog 60 3 = some (3, false, 1) := by kernel_rfl
@[go_sem] theorem plA_60_3 : plA Try.prog 60 3 = some (3, 1) := by kernel_rfl
@[go_sem] theorem partTy_60_3 : partTy Try.prog 60 3 = 3 := by kernel_rfl
@[go_sem] theorem fldA_60_4 : fldA Try.prog 60 4 = some 4 := by kernel_rfl
@[go_sem] theorem fpA_60_4 : fpA Try.prog 60 4 = some (4, false, 1) := by kernel_rfl
@[go_sem] theorem plA_60_4 : plA Try.prog 60 4 = some (4, 1) := by kernel_rfl
@[go_sem] theorem partTy_60_4 : partTy Try.prog 60 4 = 3 := by kernel_rfl
@[go_sem] theorem fldA_60_5 : fldA Try.prog 60 5 = some 5 := by kernel_rfl
@[go_sem] theorem fpA_60_5 : fpA Try.prog 60 5 = some (5, false, 1) := by kernel_rfl
@[go_sem] theorem plA_60_5 : plA Try.prog 60 5 = some (5, 1) := by kernel_rfl
@[go_sem] theorem partTy_60_5 : partTy Try.prog 60 5 = 3 := by kernel_rfl
@[go_sem] theorem fldA_60_6 : fldA Try.prog 60 6 = some 6 := by kernel_rfl
@[go_sem] theorem fpA_60_6 : fpA Try.prog 60 6 = some (6, false, 1) := by kernel_rfl
@[go_sem] theorem plA_60_6 : plA Try.prog 60 6 = some (6, 1) := by kernel_rfl
@[go_sem] theorem partTy_60_6 : partTy Try.prog 60 6 = 3 := by kernel_rfl
@[go_sem] theorem fldA_60_7 : fldA Try.prog 60 7 = some 7 := by kernel_rfl
@[go_sem] theorem fpA_60_7 : fpA Try.prog 60 7 = some (7, false, 1) := by kernel_rfl
@[go_sem] theorem plA_60_7 : plA Try.prog 60 7 = some (7, 1) := by kernel_rfl
@[go_sem] theorem partTy_60_7 : partTy Try.prog 60 7 = 3 := by kernel_rfl
@[go_sem] theorem fldA_60_8 : fldA Try.prog 60 8 = some 8 := by kernel_rfl
@[go_sem] theorem fpA_60_8 : fpA Try.prog 60 8 = some (8, false, 1) := by kernel_rfl
@[go_sem] theorem plA_60_8 : plA Try.prog 60 8 = some (8, 1) := by kernel_rfl
@[go_sem] theorem partTy_60_8 : partTy Try.prog 60 8 = 3 := by kernel_rfl
@[go_sem] theorem fldA_60_9 : fldA Try.prog 60 9 = some 9 := by kernel_rfl
@[go_sem] theorem fpA_60_9 : fpA Try.prog 60 9 = some (9, false, 1) := by kernel_rfl
@[go_sem] theorem plA_60_9 : plA Try.prog 60 9 = some (9, 1) := by kernel_rfl
@[go_sem] theorem partTy_60_9 : partTy Try.prog 60 9 = 3 := by kernel_rfl
@[go_sem] theorem eqKs_60 : eqKs Try.prog 60 = some [.str, .int .i64, .int .i64, .int .i64, .int .i64, .int .i64, .int .i64, .int .i64, .int .i64, .int .i64] := by kernel_rfl
@[go_sem] theorem tyA_61 : tyA Try.prog 61 = some (false, 1) := by kernel_rfl
@[go_sem] theorem bytesA_61 : bytesA Try.prog 61 = false := by kernel_rfl
@[go_sem] theorem knownA_61 : knownA Try.prog 61 = true := by kernel_rfl
@[go_sem] theorem concA_61 : concA Try.prog 61 = true := by kernel_rfl
@[go_sem] theorem ikA_61 : ikA Try.prog 61 = none := by kernel_rfl
@[go_sem] theorem zeroA_61 : zeroA Try.prog 61 = some [.sl 3 [] .nil] := by kernel_rfl
@[go_sem] theorem slA_61 : slA Try.prog 61 = some 3 := by kernel_rfl
@[go_sem] theorem mkA_61 : mkA Try.prog 61 = some ([.int .i64 0, .int .i64 0, .int .i64 0], 24) := by kernel_rfl
@[go_sem] theorem apA_61 : apA Try.prog 61 = some (3, 24) := by kernel_rfl
@[go_sem] theorem partTy_61 (i : Nat) : partTy Try.prog 61 i = 150 := rfl_of_partTy (by kernel_rfl)
@[go_sem] theorem tyA_62 : tyA Try.prog 62 = some (true, 3) := by kernel_rfl
@[go_sem] theorem bytesA_62 : bytesA Try.prog 62 = false := by kernel_rfl
@[go_sem] theorem knownA_62 : knownA Try.prog 62 = true := by kernel_rfl
@[go_sem] theorem concA_62 : concA Try.prog 62 = true := by kernel_rfl
@[go_sem] theorem ikA_62 : ikA Try.prog 62 = none := by kernel_rfl
@[go_sem] theorem zeroA_62 : zeroA Try.prog 62 = some [.int .i64 0, .int .i64 0, .int .i64 0] := by kernel_rfl
@[go_sem] theorem slA_62 : slA Try.prog 62 = none := by kernel_rfl
@[go_sem] theorem fsOk_62 : fsOk Try.prog 62 = true := by kernel_rfl
@[go_sem] theorem fldA_62_0 : fldA Try.prog 62 0 = some 0 := by kernel_rfl
@[go_sem] theorem fpA_62_0 : fpA Try.prog 62 0 = some (0, false, 1) := by kernel_rfl
@[go_sem] theorem plA_62_0 : plA Try.prog 62 0 = some (0, 1) := by kernel_rfl
@[go_sem] theorem partTy_62_0 : partTy Try.prog 62 0 = 3 := by kernel_rfl
@[go_sem] theorem fldA_62_1 : fldA Try.prog 62 1 = some 1 := by kernel_rfl
@[go_sem] theorem fpA_62_1 : fpA Try.prog 62 1 = some (1, false, 1) := by kernel_rfl
@[go_sem] theorem plA_62_1 : plA Try.prog 62 1 = some (1, 1) := by kernel_rfl
@[go_sem] theorem partTy_62_1 : partTy Try.prog 62 1 = 3 := by kernel_rfl
@[go_sem] theorem fldA_62_2 : fldA Try.prog 62 2 = some 2 := by kernel_rfl
@[go_sem] theorem fpA_62_2 : fpA Try.prog 62 2 = some (2, false, 1) := by kernel_rfl
@[go_sem] theorem plA_62_2 : plA Try.prog 62 2 = some (2, 1) := by kernel_rfl
@[go_sem] theorem partTy_62_2 : partTy Try.prog 62 2 = 3 := by kernel_rfl
@[go_sem] theorem eqKs_62 : eqKs Try.prog 62 = some [.int .i64, .int .i64, .int .i64] := by kernel_rfl
@[go_sem] theorem tyA_63 : tyA Try.prog 63 = some (true, 3) := by kernel_rfl
@[go_sem] theorem bytesA_63 : bytesA Try.prog 63 = false := by kernel_rfl
@[go_sem] theorem knownA_63 : knownA Try.prog 63 = true := by kernel_rfl
@[go_sem] theorem concA_63 : concA Try.prog 63 = true := by kernel_rfl
@[go_sem] theorem ikA_63 : ikA Try.prog 63 = none := by kernel_rfl
@[go_sem] theorem zeroA_63 : zeroA Try.prog 63 = some [.int .i64 0, .int .i64 0, .int .i64 0] := by kernel_rfl
@[go_sem] theorem slA_63 : slA Try.prog 63 = none := by kernel_rfl
@[go_sem] theorem fsOk_63 : fsOk Try.prog 63 = true := by kernel_rfl
@[go_sem] theorem fldA_63_0 : fldA Try.prog 63 0 = some 0 := by kernel_rfl
@[go_sem] theorem fpA_63_0 : fpA Try.prog 63 0 = some (0, false, 1) := by kernel_rfl
@[go_sem] theorem plA_63_0 : plA Try.prog 63 0 = some (0, 1) := by kernel_rfl
@[go_sem] theorem partTy_63_0 : partTy Try.prog 63 0 = 3 := by kernel_rfl
@[go_sem] theorem fldA_63_1 : fldA Try.prog 63 1 = some 1 := by kernel_rfl
@[go_sem] theorem fpA_63_1 : fpA Try.prog 63 1 = some (1, false, 1) := by kernel_rfl
@[go_sem] theorem plA_63_1 : plA Try.prog 63 1 = some (1, 1) := by kernel_rfl
@[go_sem] theorem partTy_63_1 : partTy Try.prog 63 1 = 3 := by kernel_rfl
@[go_sem] theorem fldA_63_2 : fldA Try.prog 63 2 = some 2 := by kernel_rfl
@[go_sem] theorem fpA_63_2 : fpA Try.prog 63 2 = some (2, false, 1) := by kernel_rfl
@[go_sem] theorem plA_63_2 : plA Try.prog 63 2 = some (2, 1) := by kernel_rfl
@[go_sem] theorem partTy_63_2 : partTy Try.prog 63 2 = 3 := by kernel_rfl
@[go_sem] theorem eqKs_63 : eqKs Try.prog 63 = some [.int .i64, .int .i64, .int .i64] := by kernel_rfl
@[go_sem] theorem tyA_65 : tyA Try.prog 65 = some (false, 1) := by kernel_rfl
@[go_sem] theorem bytesA_65 : bytesA Try.prog 65 = false := by kernel_rfl
@[go_sem] theorem knownA_65 : knownA Try.prog 65 = true := by kernel_rfl
@[go_sem] theorem concA_65 : concA Try.prog 65 = true := by kernel_rfl
@[go_sem] theorem ikA_65 : ikA Try.prog 65 = none := by kernel_rfl
@[go_sem] theorem zeroA_65 : zeroA Try.prog 65 = some [.raw .nilFunc] := by kernel_rfl
@[go_sem] theorem slA_65 : slA Try.prog 65 = none := by kernel_rfl
@[go_sem] theorem tyA_66 : tyA Try.prog 66 = some (false, 1) := by kernel_rfl
@[go_sem] theorem bytesA_66 : bytesA Try.prog 66 = false := by kernel_rfl
@[go_sem] theorem knownA_66 : knownA Try.prog 66 = true := by kernel_rfl
@[go_sem] theorem concA_66 : concA Try.prog 66 = true := by kernel_rfl
@[go_sem] theorem ikA_66 : ikA Try.prog 66 = none := by kernel_rfl
@[go_sem] theorem zeroA_66 : zeroA Try.prog 66 = some [.raw .nilFunc] := by kernel_rfl
@[go_sem] theorem slA_66 : slA Try.prog 66 = none := by kernel_rfl
@[go_sem] theorem tyA_67 : tyA Try.prog 67 = some (false, 1) := by kernel_rfl
@[go_sem] theorem bytesA_67 : bytesA Try.prog 67 = false := by kernel_rfl
@[go_sem] theorem knownA_67 : knownA Try.prog 67 = true := by kernel_rfl
@[go_sem] theorem concA_67 : concA Try.prog 67 = true := by kernel_rfl
@[go_sem] theorem ikA_67 : ikA Try.prog 67 = none := by kernel_rfl
@[go_sem] theorem zeroA_67 : zeroA Try.prog 67 = some [.raw .nilFunc] := by kernel_rfl
@[go_sem] theorem slA_67 : slA Try.prog 67 = none := by kernel_rfl
@[go_sem] theorem tyA_68 : tyA Try.prog 68 = some (false, 1) := by kernel_rfl
@[go_sem] theorem bytesA_68 : bytesA Try.prog 68 = false := by kernel_rfl
@[go_sem] theorem knownA_68 : knownA Try.prog 68 = true := by kernel_rfl
@[go_sem] theorem concA_68 : concA Try.prog 68 = true := by kernel_rfl
@[go_sem] theorem ikA_68 : ikA Try.prog 68 = none := by kernel_rfl
@[go_sem] theorem zeroA_68 : zeroA Try.prog 68 = some [.raw .nilFunc] := by kernel_rfl
@[go_sem] theorem slA_68 : slA Try.prog 68 = none := by kernel_rfl
@[go_sem] theorem tyA_69 : tyA Try.prog 69 = some (false, 1) := by kernel_rfl
@[go_sem] theorem bytesA_69 : bytesA Try.prog 69 = false := by kernel_rfl
@[go_sem] theorem knownA_69 : knownA Try.prog 69 = true := by kernel_rfl
@[go_sem] theorem concA_69 : concA Try.prog 69 = true := by kernel_rfl
@[go_sem] theorem ikA_69 : ikA Try.prog 69 = none := by kernel_rfl
@[go_sem] theorem zeroA_69 : zeroA Try.prog 69 = some [.sl 3 [] .nil] := by kernel_rfl
@[go_sem] theorem slA_69 : slA Try.prog 69 = some 3 := by kernel_rfl
@[go_sem] theorem mkA_69 : mkA Try.prog 69 = some ([.int .i64 0, .int .i64 0, .int .i64 0], 24) := by kernel_rfl
@[go_sem] theorem apA_69 : apA Try.prog 69 = some (3, 24) := by kernel_rfl
@[go_sem] theorem partTy_69 (i : Nat) : partTy Try.prog 69 i = 63 := rfl_of_partTy (by kernel_rfl)
@[go_sem] theorem tyA_71 : tyA Try.prog 71 = some (false, 1) := by kernel_rfl
@[go_sem] theorem bytesA_71 : bytesA Try.prog 71 = false := by kernel_rfl
@[go_sem] theorem knownA_71 : knownA Try.prog 71 = true := by kernel_rfl
@[go_sem] theorem concA_71 : concA Try.prog 71 = true := by kernel_rfl
@[go_sem] theorem ikA_71 : ikA Try.prog 71 = none := by kernel_rfl
@[go_sem] theorem zeroA_71 : zeroA Try.prog 71 = some [.raw .nilFunc] := by kernel_rfl
@[go_sem] theorem slA_71 : slA Try.prog 71 = none := by kernel_rfl
@[go_sem] theorem tyA_72 : tyA Try.prog 72 = some (false, 1) := by kernel_rfl
@[go_sem] theorem bytesA_72 : bytesA Try.prog 72 = false := by kernel_rfl
@[go_sem] theorem knownA_72 : knownA Try.prog 72 = true := by kernel_rfl
@[go_sem] theorem concA_72 : concA Try.prog 72 = true := by kernel_rfl
@[go_sem] theorem ikA_72 : ikA Try.prog 72 = none := by kernel_rfl
@[go_sem] theorem zeroA_72 : zeroA Try.prog 72 = some [.raw .nilFunc] := by kernel_rfl
@[go_sem] theorem slA_72 : slA Try.prog 72 = none := by kernel_rfl
@[go_sem] theorem tyA_73 : tyA Try.prog 73 = some (false, 1) := by kernel_rfl
@[go_sem] theorem bytesA_73 : bytesA Try.prog 73 = false := by kernel_rfl
@[go_sem] theorem knownA_73 : knownA Try.prog 73 = true := by kernel_rfl
@[go_sem] theorem concA_73 : concA Try.prog 73 = true := by kernel_rfl
@[go_sem] theorem ikA_73 : ikA Try.prog 73 = none := by kernel_rfl
@[go_sem] theorem zeroA_73 : zeroA Try.prog 73 = some [.raw .nilFunc] := by kernel_rfl
@[go_sem] theorem slA_73 : slA Try.prog 73 = none := by kernel_rfl
@[go_sem] theorem tyA_75 : tyA Try.prog 75 = some (false, 1) := by kernel_rfl
@[go_sem] theorem bytesA_75 : bytesA Try.prog 75 = false := by kernel_rfl
@[go_sem] theorem knownA_75 : knownA Try.prog 75 = true := by kernel_rfl
@[go_sem] theorem concA_75 : concA Try.prog 75 = true := by kernel_rfl
@[go_sem] theorem ikA_75 : ikA Try.prog 75 = none := by kernel_rfl
@[go_sem] theorem zeroA_75 : zeroA Try.prog 75 = some [.raw .nilFunc] := by kernel_rfl
@[go_sem] theorem slA_75 : slA Try.prog 75 = none := by kernel_rfl
@[go_sem] theorem tyA_77 : tyA Try.prog 77 = some (false, 1) := by kernel_rfl
@[go_sem] theorem bytesA_77 : bytesA Try.prog 77 = false := by kernel_rfl
@[go_sem] theorem knownA_77 : knownA Try.prog 77 = true := by kernel_rfl
@[go_sem] theorem concA_77 : concA Try.prog 77 = true := by kernel_rfl
@[go_sem] theorem ikA_77 : ikA Try.prog 77 = none := by kernel_rfl
@[go_sem] theorem zeroA_77 : zeroA Try.prog 77 = some [.raw .nilFunc] := by kernel_rfl
@[go_sem] theorem slA_77 : slA Try.prog 77 = none := by kernel_rfl
@[go_sem] theorem tyA_78 : tyA Try.prog 78 = some (false, 1) := by kernel_rfl
@[go_sem] theorem bytesA_78 : bytesA Try.prog 78 = false := by kernel_rfl
@[go_sem] theorem knownA_78 : knownA Try.prog 78 = true := by kernel_rfl
@[go_sem] theorem concA_78 : concA Try.prog 78 = true := by kernel_rfl
@[go_sem] theorem ikA_78 : ikA Try.prog 78 = none := by kernel_rfl
@[go_sem] theorem zeroA_78 : zeroA Try.prog 78 = some [.raw .nilFunc] := by kernel_rfl
@[go_sem] theorem slA_78 : slA Try.prog 78 = none := by kernel_rfl
@[go_sem] theorem tyA_79 : tyA Try.prog 79 = some (false, 1) := by kernel_rfl
@[go_sem] theorem bytesA_79 : bytesA Try.prog 79 = false := by kernel_rfl
@[go_sem] theorem knownA_79 : knownA Try.prog 79 = true := by kernel_rfl
@[go_sem] theorem concA_79 : concA Try.prog 79 = true := by kernel_rfl
@[go_sem] theorem ikA_79 : ikA Try.prog 79 = none := by kernel_rfl
@[go_sem] theorem zeroA_79 : zeroA Try.prog 79 = some [.raw .nilFunc] := by kernel_rfl
@[go_sem] theorem slA_79 : slA Try.prog 79 = none := by kernel_rfl
@[go_sem] theorem tyA_80 : tyA Try.prog 80 = some (false, 1) := by kernel_rfl
@[go_sem] theorem bytesA_80 : bytesA Try.prog 80 = false := by kernel_rfl
@[go_sem] theorem knownA_80 : knownA Try.prog 80 = true := by kernel_rfl
@[go_sem] theorem concA_80 : concA Try.prog 80 = true := by kernel_rfl
@[go_sem] theorem ikA_80 : ikA Try.prog 80 = none := by kernel_rfl
@[go_sem] theorem zeroA_80 : zeroA Try.prog 80 = some [.raw .nilFunc] := by kernel_rfl
@[go_sem] theorem slA_80 : slA Try.prog 80 = none := by kernel_rfl
@[go_sem] theorem tyA_81 : tyA Try.prog 81 = some (false, 1) := by kernel_rfl
@[go_sem] theorem bytesA_81 : bytesA Try.prog 81 = false := by kernel_rfl
@[go_sem] theorem knownA_81 : knownA Try.prog 81 = true := by kernel_rfl
@[go_sem] theorem concA_81 : concA Try.prog 81 = true := by kernel_rfl
@[go_sem] theorem ikA_81 : ikA Try.prog 81 = none := by kernel_rfl
@[go_sem] theorem zeroA_81 : zeroA Try.prog 81 = some [.raw .nilFunc] := by kernel_rfl
@[go_sem] theorem slA_81 : slA Try.prog 81 = none := by kernel_rfl
@[go_sem] theorem tyA_82 : tyA Try.prog 82 = some (false, 1) := by kernel_rfl
@[go_sem] theorem bytesA_82 : bytesA Try.prog 82 = false := by kernel_rfl
@[go_sem] theorem knownA_82 : knownA Try.prog 82 = true := by kernel_rfl
@[go_sem] theorem concA_82 : concA Try.prog 82 = true := by kernel_rfl
@[go_sem] theorem ikA_82 : ikA Try.prog 82 = none := by kernel_rfl
@[go_sem] theorem zeroA_82 : zeroA Try.prog 82 = some [.raw .nilFunc] := by kernel_rfl
@[go_sem] theorem slA_82 : slA Try.prog 82 = none := by kernel_rfl
@[go_sem] theorem tyA_83 : tyA Try.prog 83 = some (false, 1) := by kernel_rfl
@[go_sem] theorem bytesA_83 : bytesA Try.prog 83 = false := by kernel_rfl
@[go_sem] theorem knownA_83 : knownA Try.prog 83 = true := by kernel_rfl
@[go_sem] theorem concA_83 : concA Try.prog 83 = true := by kernel_rfl
@[go_sem] theorem ikA_83 : ikA Try.prog 83 = none := by kernel_rfl
@[go_sem] theorem zeroA_83 : zeroA Try.prog 83 = some [.raw .nilFunc] := by kernel_rfl
@[go_sem] theorem slA_83 : slA Try.prog 83 = none := by kernel_rfl
@[go_sem] theorem tyA_84 : tyA Try.prog 84 = some (false, 1) := by kernel_rfl
@[go_sem] theorem bytesA_84 : bytesA Try.prog 84 = false := by kernel_rfl
@[go_sem] theorem knownA_84 : knownA Try.prog 84 = true := by kernel_rfl
@[go_sem] theorem concA_84 : concA Try.prog 84 = true := by kernel_rfl
@[go_sem] theorem ikA_84 : ikA Try.prog 84 = none := by kernel_rfl
@[go_sem] theorem zeroA_84 : zeroA Try.prog 84 = some [.raw .nilFunc] := by kernel_rfl
@[go_sem] theorem slA_84 : slA Try.prog 84 = none := by kernel_rfl
@[go_sem] theorem tyA_85 : tyA Try.prog 85 = some (false, 1) := by kernel_rfl
@[go_sem] theorem bytesA_85 : bytesA Try.prog 85 = false := by kernel_rfl
@[go_sem] theorem knownA_85 : knownA Try.prog 85 = true := by kernel_rfl
@[go_sem] theorem concA_85 : concA Try.prog 85 = true := by kernel_rfl
@[go_sem] theorem ikA_85 : ikA Try.prog 85 = none := by kernel_rfl
@[go_sem] theorem zeroA_85 : zeroA Try.prog 85 = some [.raw .nilFunc] := by kernel_rfl
@[go_sem] theorem slA_85 : slA Try.prog 85 = none := by kernel_rfl
@[go_sem] theorem tyA_86 : tyA Try.prog 86 = some (false, 1) := by kernel_rfl
@[go_sem] theorem bytesA_86 : bytesA Try.prog 86 = false := by kernel_rfl
@[go_sem] theorem knownA_86 : knownA Try.prog 86 = true := by kernel_rfl
@[go_sem] theorem concA_86 : concA Try.prog 86 = true := by kernel_rfl
@[go_sem] theorem ikA_86 : ikA Try.prog 86 = none := by kernel_rfl
@[go_sem] theorem zeroA_86 : zeroA Try.prog 86 = some [.raw .nilFunc] := by kernel_rfl
@[go_sem] theorem slA_86 : slA Try.prog 86 = none := by kernel_rfl
@[go_sem] theorem tyA_87 : tyA Try.prog 87 = some (false, 1) := by kernel_rfl
@[go_sem] theorem bytesA_87 : bytesA Try.prog 87 = false := by kernel_rfl
@[go_sem] theorem knownA_87 : knownA Try.prog 87 = true := by kernel_rfl
@[go_sem] theorem concA_87 : concA Try.prog 87 = true := by kernel_rfl
@[go_sem] theorem ikA_87 : ikA Try.prog 87 = none := by kernel_rfl
@[go_sem] theorem zeroA_87 : zeroA Try.prog 87 = some [.raw .nilFunc] := by kernel_rfl
@[go_sem] theorem slA_87 : slA Try.prog 87 = none := by kernel_rfl
@[go_sem] theorem tyA_88 : tyA Try.prog 88 = some (false, 1) := by kernel_rfl
@[go_sem] theorem bytesA_88 : bytesA Try.prog 88 = false := by kernel_rfl
@[go_sem] theorem knownA_88 : knownA Try.prog 88 = true := by kernel_rfl
@[go_sem] theorem concA_88 : concA Try.prog 88 = true := by kernel_rfl
@[go_sem] theorem ikA_88 : ikA Try.prog 88 = none := by kernel_rfl
@[go_sem] theorem zeroA_88 : zeroA Try.prog 88 = some [.sl 4 [] .nil] := by kernel_rfl
@[go_sem] theorem slA_88 : slA Try.prog 88 = some 4 := by kernel_rfl
@[go_sem] theorem mkA_88 : mkA Try.prog 88 = some ([.int .i64 0, .int .i64 0, .sl 4 [] .nil, .sl 1 [] .nil], 64) := by kernel_rfl
@[go_sem] theorem apA_88 : apA Try.prog 88 = some (4, 64) := by kernel_rfl
@[go_sem] theorem partTy_88 (i : Nat) : partTy Try.prog 88 i = 102 := rfl_of_partTy (by kernel_rfl)
@[go_sem] theorem tyA_89 : tyA Try.prog 89 = some (false, 1) := by kernel_rfl
@[go_sem] theorem bytesA_89 : bytesA Try.prog 89 = false := by kernel_rfl
@[go_sem] theorem knownA_89 : knownA Try.prog 89 = true := by kernel_rfl
@[go_sem] theorem concA_89 : concA Try.prog 89 = true := by kernel_rfl
@[go_sem] theorem ikA_89 : ikA Try.prog 89 = none := by kernel_rfl
@[go_sem] theorem zeroA_89 : zeroA Try.prog 89 = some [.sl 1 [] .nil] := by kernel_rfl
@[go_sem] theorem slA_89 : slA Try.prog 89 = some 1 := by kernel_rfl
@[go_sem] theorem mkA_89 : mkA Try.prog 89 = some ([.sl 1 [] .nil], 24) := by kernel_rfl
@[go_sem] theorem apA_89 : apA Try.prog 89 = some (1, 24) := by kernel_rfl
@[go_sem] theorem partTy_89 (i : Nat) : partTy Try.prog 89 i = 56 := rfl_of_partTy (by kernel_rfl)
@[go_sem] theorem tyA_90 : tyA Try.prog 90 = some (true, 2) := by kernel_rfl
@[go_sem] theorem bytesA_90 : bytesA Try.prog 90 = false := by kernel_rfl
@[go_sem] theorem knownA_90 : knownA Try.prog 90 = true := by kernel_rfl
@[go_sem] theorem concA_90 : concA Try.prog 90 = true := by kernel_rfl
@[go_sem] theorem ikA_90 : ikA Try.prog 90 = none := by kernel_rfl
@[go_sem] theorem zeroA_90 : zeroA Try.prog 90 = some [.sl 4 [] .nil, .sl 1 [] .nil] := by kernel_rfl
@[go_sem] theorem slA_90 : slA Try.prog 90 = none := by kernel_rfl
@[go_sem] theorem fsOk_90 : fsOk Try.prog 90 = true := by kernel_rfl
@[go_sem] theorem fldA_90_0 : fldA Try.prog 90 0 = some 0 := by kernel_rfl
@[go_sem] theorem fpA_90_0 : fpA Try.prog 90 0 = some (0, false, 1) := by kernel_rfl
@[go_sem] theorem plA_90_0 : plA Try.prog 90 0 = some (0, 1) := by kernel_rfl
@[go_sem] theorem partTy_90_0 : partTy Try.prog 90 0 = 88 := by kernel_rfl
@[go_sem] theorem fldA_90_1 : fldA Try.prog 90 1 = some 1 := by kernel_rfl
@[go_sem] theorem fpA_90_1 : fpA Try.prog 90 1 = some (1, false, 1) := by kernel_rfl
@[go_sem] theorem plA_90_1 : plA Try.prog 90 1 = some (1, 1) := by kernel_rfl
@[go_sem] theorem partTy_90_1 : partTy Try.prog 90 1 = 89 := by kernel_rfl
@[go_sem] theorem tyA_91 : tyA Try.prog 91 = some (true, 2) := by kernel_rfl
@[go_sem] theorem bytesA_91 : bytesA Try.prog 91 = false := by kernel_rfl
@[go_sem] theorem knownA_91 : knownA Try.prog 91 = true := by kernel_rfl
@[go_sem] theorem concA_91 : concA Try.prog 91 = true := by kernel_rfl
@[go_sem] theorem ikA_91 : ikA Try.prog 91 = none := by kernel_rfl
@[go_sem] theorem zeroA_91 : zeroA Try.prog 91 = some [.sl 4 [] .nil, .sl 1 [] .nil] := by kernel_rfl
@[go_sem] theorem slA_91 : slA Try.prog 91 = none := by kernel_rfl
@[go_sem] theorem fsOk_91 : fsOk Try.prog 91 = true := by kernel_rfl
@[go_sem] theorem fldA_91_0 : fldA Try.prog 91 0 = some 0 := by kernel_rfl
@[go_sem] theorem fpA_91_0 : fpA Try.prog 91 0 = some (0, false, 1) := by kernel_rfl
@[go_sem] theorem plA_91_0 : plA Try.prog 91 0 = some (0, 1) := by kernel_rfl
@[go_sem] theorem partTy_91_0 : partTy Try.prog 91 0 = 88 := by kernel_rfl
@[go_sem] theorem fldA_91_1 : fldA Try.prog 91 1 = some 1 := by kernel_rfl
@[go_sem] theorem fpA_91_1 : fpA Try.prog 91 1 = some (1, false, 1) := by kernel_rfl
@[go_sem] theorem plA_91_1 : plA Try.prog 91 1 = some (1, 1) := by kernel_rfl
@[go_sem] theorem partTy_91_1 : partTy Try.prog 91 1 = 89 := by kernel_rfl
@[go_sem] theorem tyA_92 : tyA Try.prog 92 = some (false, 1) := by kernel_rfl
@[go_sem] theorem bytesA_92 : bytesA Try.prog 92 = false := by kernel_rfl
@[go_sem] theorem knownA_92 : knownA Try.prog 92 = true := by kernel_rfl
@[go_sem] theorem concA_92 : concA Try.prog 92 = true := by kernel_rfl
@[go_sem] theorem ikA_92 : ikA Try.prog 92 = none := by kernel_rfl
@[go_sem] theorem zeroA_92 : zeroA Try.prog 92 = some [.sl 5 [] .nil] := by kernel_rfl
@[go_sem] theorem slA_92 : slA Try.prog 92 = some 5 := by kernel_rfl
@[go_sem] theorem mkA_92 : mkA Try.prog 92 = some ([.int .i64 0, .int .i64 0, .int .i64 0, .int .i64 0, .int .i64 0], 40) := by kernel_rfl
@[go_sem] theorem apA_92 : apA Try.prog 92 = some (5, 40) := by kernel_rfl
@[go_sem] theorem partTy_92 (i : Nat) : partTy Try.prog 92 i = 162 := rfl_of_partTy (by kernel_rfl)
@[go_sem] theorem tyA_93 : tyA Try.prog 93 = some (false, 1) := by kernel_rfl
@[go_sem] theorem bytesA_93 : bytesA Try.prog 93 = false := by kernel_rfl
@[go_sem] theorem knownA_93 : knownA Try.prog 93 = true := by kernel_rfl
@[go_sem] theorem concA_93 : concA Try.prog 93 = true := by kernel_rfl
@[go_sem] theorem ikA_93 : ikA Try.prog 93 = none := by kernel_rfl
@[go_sem] theorem zeroA_93 : zeroA Try.prog 93 = some [.sl 1 [] .nil] := by kernel_rfl
@[go_sem] theorem slA_93 : slA Try.prog 93 = some 1 := by kernel_rfl
@[go_sem] theorem mkA_93 : mkA Try.prog 93 = some ([.sl 4 [] .nil], 24) := by kernel_rfl
@[go_sem] theorem apA_93 : apA Try.prog 93 = some (1, 24) := by kernel_rfl
@[go_sem] theorem partTy_93 (i : Nat) : partTy Try.prog 93 i = 100 := rfl_of_partTy (by kernel_rfl)
@[go_sem] theorem tyA_95 : tyA Try.prog 95 = some (false, 1) := by kernel_rfl
@[go_sem] theorem bytesA_95 : bytesA Try.prog 95 = false := by kernel_rfl
@[go_sem] theorem knownA_95 : knownA Try.prog 95 = true := by kernel_rfl
@[go_sem] theorem concA_95 : concA Try.prog 95 = true := by kernel_rfl
@[go_sem] theorem ikA_95 : ikA Try.prog 95 = none := by kernel_rfl
@[go_sem] theorem zeroA_95 : zeroA Try.prog 95 = some [.raw .nilFunc] := by kernel_rfl
@[go_sem] theorem slA_95 : slA Try.prog 95 = none := by kernel_rfl
@[go_sem] theorem tyA_96 : tyA Try.prog 96 = some (false, 1) := by kernel_rfl
@[go_sem] theorem bytesA_96 : bytesA Try.prog 96 = false := by kernel_rfl
@[go_sem] theorem knownA_96 : knownA Try.prog 96 = true := by kernel_rfl
@[go_sem] theorem concA_96 : concA Try.prog 96 = true := by kernel_rfl
@[go_sem] theorem ikA_96 : ikA Try.prog 96 = none := by kernel_rfl
@[go_sem] theorem zeroA_96 : zeroA Try.prog 96 = some [.raw .nilFunc] := by kernel_rfl
@[go_sem] theorem slA_96 : slA Try.prog 96 = none := by kernel_rfl
@[go_sem] theorem tyA_97 : tyA Try.prog 97 = some (false, 1) := by kernel_rfl
@[go_sem] theorem bytesA_97 : bytesA Try.prog 97 = false := by kernel_rfl
@[go_sem] theorem knownA_97 : knownA Try.prog 97 = true := by kernel_rfl
@[go_sem] theorem concA_97 : concA Try.prog 97 = true := by kernel_rfl
@[go_sem] theorem ikA_97 : ikA Try.prog 97 = none := by kernel_rfl
@[go_sem] theorem zeroA_97 : zeroA Try.prog 97 = some [.sl 5 [] .nil] := by kernel_rfl
@[go_sem] theorem slA_97 : slA Try.prog 97 = some 5 := by kernel_rfl
@[go_sem] theorem mkA_97 : mkA Try.prog 97 = some ([.int .i64 0, .int .i64 0, .int .i64 0, .int .i64 0, .int .i64 0], 40) := by kernel_rfl
@[go_sem] theorem apA_97 : apA Try.prog 97 = some (5, 40) := by kernel_rfl
@[go_sem] theorem partTy_97 (i : Nat) : partTy Try.prog 97 i = 165 := rfl_of_partTy (by kernel_rfl)
@[go_sem] theorem tyA_98 : tyA Try.prog 98 = some (false, 1) := by kernel_rfl
@[go_sem] theorem bytesA_98 : bytesA Try.prog 98 = false := by kernel_rfl
@[go_sem] theorem knownA_98 : knownA Try.prog 98 = true := by kernel_rfl
@[go_sem] theorem concA_98 : concA Try.prog 98 = true := by kernel_rfl
@[go_sem] theorem ikA_98 : ikA Try.prog 98 = none := by kernel_rfl
@[go_sem] theorem zeroA_98 : zeroA Try.prog 98 = some [.raw .nilFunc] := by kernel_rfl
@[go_sem] theorem slA_98 : slA Try.prog 98 = none := by kernel_rfl
@[go_sem] theorem tyA_99 : tyA Try.prog 99 = some (false, 1) := by kernel_rfl
@[go_sem] theorem bytesA_99 : bytesA Try.prog 99 = false := by kernel_rfl
@[go_sem] theorem knownA_99 : knownA Try.prog 99 = true := by kernel_rfl
@[go_sem] theorem concA_99 : concA Try.prog 99 = true := by kernel_rfl
@[go_sem] theorem ikA_99 : ikA Try.prog 99 = none := by kernel_rfl
@[go_sem] theorem zeroA_99 : zeroA Try.prog 99 = some [.raw .nilFunc] := by kernel_rfl
@[go_sem] theorem slA_99 : slA Try.prog 99 = none := by kernel_rfl
@[go_sem] theorem tyA_100 : tyA Try.prog 100 = some (false, 1) := by kernel_rfl
@[go_sem] theorem bytesA_100 : bytesA Try.prog 100 = false := by kernel_rfl
@[go_sem] theorem knownA_100 : knownA Try.prog 100 = true := by kernel_rfl
@[go_sem] theorem concA_100 : concA Try.prog 100 = true := by kernel_rfl
@[go_sem] theorem ikA_100 : ikA Try.prog 100 = none := by kernel_rfl
@[go_sem] theorem zeroA_100 : zeroA Try.prog 100 = some [.sl 4 [] .nil] := by kernel_rfl
@[go_sem] theorem slA_100 : slA Try.prog 100 = some 4 := by kernel_rfl
@[go_sem] theorem mkA_100 : mkA Try.prog 100 = some ([.int .i64 0, .int .i64 0, .int .i64 0, .int .i64 0], 32) := by kernel_rfl
@[go_sem] theorem apA_100 : apA Try.prog 100 = some (4, 32) := by kernel_rfl
@[go_sem] theorem partTy_100 (i : Nat) : partTy Try.prog 100 i = 104 := rfl_of_partTy (by kernel_rfl)
@[go_sem] theorem tyA_101 : tyA Try.prog 101 = some (true, 4) := by kernel_rfl
@[go_sem] theorem bytesA_101 : bytesA Try.prog 101 = false := by kernel_rfl
@[go_sem] theorem knownA_101 : knownA Try.prog 101 = true := by kernel_rfl
@[go_sem] theorem concA_101 : concA Try.prog 101 = true := by kernel_rfl
@[go_sem] theorem ikA_101 : ikA Try.prog 101 = none := by kernel_rfl
@[go_sem] theorem zeroA_101 : zeroA Try.prog 101 = some [.int .i64 0, .int .i64 0, .sl 4 [] .nil, .sl 1 [] .nil] := by kernel_rfl
@[go_sem] theorem slA_101 : slA Try.prog 101 = none := by kernel_rfl
@[go_sem] theorem fsOk_101 : fsOk Try.prog 101 = true := by kernel_rfl
@[go_sem] theorem fldA_101_0 : fldA Try.prog 101 0 = some 0 := by kernel_rfl
@[go_sem] theorem fpA_101_0 : fpA Try.prog 101 0 = some (0, false, 1) := by kernel_rfl
@[go_sem] theorem plA_101_0 : plA Try.prog 101 0 = some (0, 1) := by kernel_rfl
@[go_sem] theorem partTy_101_0 : partTy Try.prog 101 0 = 3 := by kernel_rfl
@[go_sem] theorem fldA_101_1 : fldA Try.prog 101 1 = some 1 := by kernel_rfl
@[go_sem] theorem fpA_101_1 : fpA Try.prog 101 1 = some (1, false, 1) := by kernel_rfl
@[go_sem] theorem plA_101_1 : plA Try.prog 101 1 = some (1, 1) := by kernel_rfl
@[go_sem] theorem partTy_101_1 : partTy Try.prog 101 1 = 3 := by kernel_rfl
@[go_sem] theorem fldA_101_2 : fldA Try.prog 101 2 = some 2 := by kernel_rfl
@[go_sem] theorem fpA_101_2 : fpA Try.prog 101 2 = some (2, false, 1) := by kernel_rfl
@[go_sem] theorem plA_101_2 : plA Try.prog 101 2 = some (2, 1) := by kernel_rfl
@[go_sem] theorem partTy_101_2 : partTy Try.prog 101 2 = 100 := by kernel_rfl
@[go_sem] theorem fldA_101_3 : fldA Try.prog 101 3 = some 3 := by kernel_rfl
@[go_sem] theorem fpA_101_3 : fpA Try.prog 101 3 = some (3, false, 1) := by kernel_rfl
@[go_sem] theorem plA_101_3 : plA Try.prog 101 3 = some (3, 1) := by kernel_rfl
@[go_sem] theorem partTy_101_3 : partTy Try.prog 101 3 = 89 := by kernel_rfl
@[go_sem] theorem tyA_102 : tyA Try.prog 102 = some (true, 4) := by kernel_rfl
@[go_sem] theorem bytesA_102 : bytesA Try.prog 102 = false := by kernel_rfl
@[go_sem] theorem knownA_102 : knownA Try.prog 102 = true := by kernel_rfl
@[go_sem] theorem concA_102 : concA Try.prog 102 = true := by kernel_rfl
@[go_sem] theorem ikA_102 : ikA Try.prog 102 = none := by kernel_rfl
@[go_sem] theorem zeroA_102 : zeroA Try.prog 102 = some [.int .i64 0, .int .i64 0, .sl 4 [] .nil, .sl 1 [] .nil] := by kernel_rfl
@[go_sem] theorem slA_102 : slA Try.prog 102 = none := by kernel_rfl
@[go_sem] theorem fsOk_102 : fsOk Try.prog 102 = true := by kernel_rfl
@[go_sem] theorem fldA_102_0 : fldA Try.prog 102 0 = some 0 := by kernel_rfl
@[go_sem] theorem fpA_102_0 : fpA Try.prog 102 0 = some (0, false, 1) := by kernel_rfl
@[go_sem] theorem plA_102_0 : plA Try.prog 102 0 = some (0, 1) := by kernel_rfl
@[go_sem] theorem partTy_102_0 : partTy Try.prog 102 0 = 3 := by kernel_rfl
@[go_sem] theorem fldA_102_1 : fldA Try.prog 102 1 = some 1 := by kernel_rfl
@[go_sem] theorem fpA_102_1 : fpA Try.prog 102 1 = some (1, false, 1) := by kernel_rfl
@[go_sem] theorem plA_102_1 : plA Try.prog 102 1 = some (1, 1) := by kernel_rfl
@[go_sem] theorem partTy_102_1 : partTy Try.prog 102 1 = 3 := by kernel_rfl
@[go_sem] theorem fldA_102_2 : fldA Try.prog 102 2 = some 2 := by kernel_rfl
@[go_sem] theorem fpA_102_2 : fpA Try.prog 102 2 = some (2, false, 1) := by kernel_rfl
@[go_sem] theorem plA_102_2 : plA Try.prog 102 2 = some (2, 1) := by kernel_rfl
@[go_sem] theorem partTy_102_2 : partTy Try.prog 102 2 = 100 := by kernel_rfl
@[go_sem] theorem fldA_102_3 : fldA Try.prog 102 3 = some 3 := by kernel_rfl
@[go_sem] theorem fpA_102_3 : fpA Try.prog 102 3 = some (3, false, 1) := by kernel_rfl
@[go_sem] theorem plA_102_3 : plA Try.prog 102 3 = some (3, 1) := by kernel_rfl
@[go_sem] theorem partTy_102_3 : partTy Try.prog 102 3 = 89 := by kernel_rfl
@[go_sem] theorem tyA_103 : tyA Try.prog 103 = some (true, 4) := by kernel_rfl
@[go_sem] theorem bytesA_103 : bytesA Try.prog 103 = false := by kernel_rfl
@[go_sem] theorem knownA_103 : knownA Try.prog 103 = true := by kernel_rfl
@[go_sem] theorem concA_103 : concA Try.prog 103 = true := by kernel_rfl
@[go_sem] theorem ikA_103 : ikA Try.prog 103 = none := by kernel_rfl
@[go_sem] theorem zeroA_103 : zeroA Try.prog 103 = some [.int .i64 0, .int .i64 0, .int .i64 0, .int .i64 0] := by kernel_rfl
@[go_sem] theorem slA_103 : slA Try.prog 103 = none := by kernel_rfl
@[go_sem] theorem fsOk_103 : fsOk Try.prog 103 = true := by kernel_rfl
@[go_sem] theorem fldA_103_0 : fldA Try.prog 103 0 = some 0 := by kernel_rfl
@[go_sem] theorem fpA_103_0 : fpA Try.prog 103 0 = some (0, false, 1) := by kernel_rfl
@[go_sem] theorem plA_103_0 : plA Try.prog 103 0 = some (0, 1) := by kernel_rfl
@[go_sem] theorem partTy_103_0 : partTy Try.prog 103 0 = 3 := by kernel_rfl
@[go_sem] theorem fldA_103_1 : fldA Try.prog 103 1 = some 1 := by kernel_rfl
@[go_sem] theorem fpA_103_1 : fpA Try.prog 103 1 = some (1, false, 1) := by kernel_rfl
@[go_sem] theorem plA_103_1 : plA Try.prog 103 1 = some (1, 1) := by kernel_rfl
@[go_sem] theorem partTy_103_1 : partTy Try.prog 103 1 = 3 := by kernel_rfl
@[go_sem] theorem fldA_103_2 : fldA Try.prog 103 2 = some 2 := by kernel_rfl
@[go_sem] theorem fpA_103_2 : fpA Try.prog 103 2 = some (2, false, 1) := by kernel_rfl
@[go_sem] theorem plA_103_2 : plA Try.prog 103 2 = some (2, 1) := by kernel_rfl
@[go_sem] theorem partTy_103_2 : partTy Try.prog 103 2 = 3 := by kernel_rfl
@[go_sem] theorem fldA_103_3 : fldA Try.prog 103 3 = some 3 := by kernel_rfl
@[go_sem] theorem fpA_103_3 : fpA Try.prog 103 3 = some (3, false, 1) := by kernel_rfl
@[go_sem] theorem plA_103_3 : plA Try.prog 103 3 = some (3, 1) := by kernel_rfl
@[go_sem] theorem partTy_103_3 : partTy Try.prog 103 3 = 3 := by kernel_rfl
@[go_sem] theorem eqKs_103 : eqKs Try.prog 103 = some [.int .i64, .int .i64, .int .i64, .int .i64] := by kernel_rfl
@[go_sem] theorem tyA_104 : tyA Try.prog 104 = some (true, 4) := by kernel_rfl
@[go_sem] theorem bytesA_104 : bytesA Try.prog 104 = false := by kernel_rfl
@[go_sem] theorem knownA_104 : knownA Try.prog 104 = true := by kernel_rfl
@[go_sem] theorem concA_104 : concA Try.prog 104 = true := by kernel_rfl
@[go_sem] theorem ikA_104 : ikA Try.prog 104 = none := by kernel_rfl
@[go_sem] theorem zeroA_104 : zeroA Try.prog 104 = some [.int .i64 0, .int .i64 0, .int .i64 0, .int .i64 0] := by kernel_rfl
@[go_sem] theorem slA_104 : slA Try.prog 104 = none := by kernel_rfl
@[go_sem] theorem fsOk_104 : fsOk Try.prog 104 = true := by kernel_rfl
@[go_sem] theorem fldA_104_0 : fldA Try.prog 104 0 = some 0 := by kernel_rfl
@[go_sem] theorem fpA_104_0 : fpA Try.prog 104 0 = some (0, false, 1) := by kernel_rfl
@[go_sem] theorem plA_104_0 : plA Try.prog 104 0 = some (0, 1) := by kernel_rfl
@[go_sem] theorem partTy_104_0 : partTy Try.prog 104 0 = 3 := by kernel_rfl
@[go_sem] theorem fldA_104_1 : fldA Try.prog 104 1 = some 1 := by kernel_rfl
@[go_sem] theorem fpA_104_1 : fpA Try.prog 104 1 = some (1, false, 1) := by kernel_rfl
@[go_sem] theorem plA_104_1 : plA Try.prog 104 1 = some (1, 1) := by kernel_rfl
@[go_sem] theorem partTy_104_1 : partTy Try.prog 104 1 = 3 := by kernel_rfl
@[go_sem] theorem fldA_104_2 : fldA Try.prog 104 2 = some 2 := by kernel_rfl
@[go_sem] theorem fpA_104_2 : fpA Try.prog 104 2 = some (2, false, 1) := by kernel_rfl
@[go_sem] theorem plA_104_2 : plA Try.prog 104 2 = some (2, 1) := by kernel_rfl
@[go_sem] theorem partTy_104_2 : partTy Try.prog 104 2 = 3 := by kernel_rfl
@[go_sem] theorem fldA_104_3 : fldA Try.prog 104 3 = some 3 := by kernel_rfl
@[go_sem] theorem fpA_104_3 : fpA Try.prog 104 3 = some (3, false, 1) := by kernel_rfl
@[go_sem] theorem plA_104_3 : plA Try.prog 104 3 = some (3, 1) := by kernel_rfl
@[go_sem] theorem partTy_104_3 : partTy Try.prog 104 3 = 3 := by kernel_rfl
@[go_sem] theorem eqKs_104 : eqKs Try.prog 104 = some [.int .i64, .int .i64, .int .i64, .int .i64] := by kernel_rfl
@[go_sem] theorem tyA_105 : tyA Try.prog 105 = some (false, 1) := by kernel_rfl
@[go_sem] theorem bytesA_105 : bytesA Try.prog 105 = false := by kernel_rfl
@[go_sem] theorem knownA_105 : knownA Try.prog 105 = true := by kernel_rfl
@[go_sem] theorem concA_105 : concA Try.prog 105 = true := by kernel_rfl
@[go_sem] theorem ikA_105 : ikA Try.prog 105 = none := by kernel_rfl
@[go_sem] theorem zeroA_105 : zeroA Try.prog 105 = some [.raw .nilFunc] := by kernel_rfl
@[go_sem] theorem slA_105 : slA Try.prog 105 = none := by kernel_rfl
@[go_sem] theorem tyA_106 : tyA Try.prog 106 = some (false, 1) := by kernel_rfl
@[go_sem] theorem bytesA_106 : bytesA Try.prog 106 = false := by kernel_rfl
@[go_sem] theorem knownA_106 : knownA Try.prog 106 = true := by kernel_rfl
@[go_sem] theorem concA_106 : concA Try.prog 106 = true := by kernel_rfl
@[go_sem] theorem ikA_106 : ikA Try.prog 106 = none := by kernel_rfl
@[go_sem] theorem zeroA_106 : zeroA Try.prog 106 = some [.raw .nilFunc] := by kernel_rfl
@[go_sem] theorem slA_106 : slA Try.prog 106 = none := by kernel_rfl
@[go_sem] theorem tyA_107 : tyA Try.prog 107 = some (false, 1) := by kernel_rfl
@[go_sem] theorem bytesA_107 : bytesA Try.prog 107 = false := by kernel_rfl
@[go_sem] theorem knownA_107 : knownA Try.prog 107 = true := by kernel_rfl
@[go_sem] theorem concA_107 : concA Try.prog 107 = true := by kernel_rfl
@[go_sem] theorem ikA_107 : ikA Try.prog 107 = none := by kernel_rfl
@[go_sem] theorem zeroA_107 : zeroA Try.prog 107 = some [.raw .nilFunc] := by kernel_rfl
@[go_sem] theorem slA_107 : slA Try.prog 107 = none := by kernel_rfl
@[go_sem] theorem tyA_108 : tyA Try.prog 108 = some (false, 1) := by kernel_rfl
@[go_sem] theorem bytesA_108 : bytesA Try.prog 108 = false := by kernel_rfl
@[go_sem] theorem knownA_108 : knownA Try.prog 108 = true := by kernel_rfl
@[go_sem] theorem concA_108 : concA Try.prog 108 = true := by kernel_rfl
@[go_sem] theorem ikA_108 : ikA Try.prog 108 = none := by kernel_rfl
@[go_sem] theorem zeroA_108 : zeroA Try.prog 108 = some [.sl 1 [] .nil] := by kernel_rfl
@[go_sem] theorem slA_108 : slA Try.prog 108 = some 1 := by kernel_rfl
@[go_sem] theorem mkA_108 : mkA Try.prog 108 = some ([.str []], 16) := by kernel_rfl
@[go_sem] theorem apA_108 : apA Try.prog 108 = some (1, 16) := by kernel_rfl
@[go_sem] theorem partTy_108 (i : Nat) : partTy Try.prog 108 i = 9 := rfl_of_partTy (by kernel_rfl)
@[go_sem] theorem tyA_109 : tyA Try.prog 109 = some (false, 1) := by kernel_rfl
@[go_sem] theorem bytesA_109 : bytesA Try.prog 109 = false := by kernel_rfl
@[go_sem] theorem knownA_109 : knownA Try.prog 109 = true := by kernel_rfl
@[go_sem] theorem concA_109 : concA Try.prog 109 = true := by kernel_rfl
@[go_sem] theorem ikA_109 : ikA Try.prog 109 = none := by kernel_rfl
@[go_sem] theorem zeroA_109 : zeroA Try.prog 109 = some [.sl 7 [] .nil] := by kernel_rfl
@[go_sem] theorem slA_109 : slA Try.prog 109 = some 7 := by kernel_rfl
@[go_sem] theorem mkA_109 : mkA Try.prog 109 = some ([.int .i64 0, .int .i64 0, .int .i64 0, .int .i64 0, .int .i64 0, .int .i64 0, .bool false], 56) := by kernel_rfl
@[go_sem] theorem apA_109 : apA Try.prog 109 = some (7, 56) := by kernel_rfl
@[go_sem] theorem partTy_109 (i : Nat) : partTy Try.prog 109 i = 171 := rfl_of_partTy (by kernel_rfl)
@[go_sem] theorem tyA_110 : tyA Try.prog 110 = some (false, 1) := by kernel_rfl
@[go_sem] theorem bytesA_110 : bytesA Try.prog 110 = false := by kernel_rfl
@[go_sem] theorem knownA_110 : knownA Try.prog 110 = true := by kernel_rfl
@[go_sem] theorem concA_110 : concA Try.prog 110 = true := by kernel_rfl
@[go_sem] theorem ikA_110 : ikA Try.prog 110 = none := by kernel_rfl
@[go_sem] theorem zeroA_110 : zeroA Try.prog 110 = some [.sl 4 [] .nil] := by kernel_rfl
@[go_sem] theorem slA_110 : slA Try.prog 110 = some 4 := by kernel_rfl
@[go_sem] theorem mkA_110 : mkA Try.prog 110 = some ([.int .i64 0, .int .i64 0, .int .i64 0, .int .i64 0], 32) := by kernel_rfl
@[go_sem] theorem apA_110 : apA Try.prog 110 = some (4, 32) := by kernel_rfl
@[go_sem] theorem partTy_110 (i : Nat) : partTy Try.prog 110 i = 190 := rfl_of_partTy (by kernel_rfl)
@[go_sem] theorem tyA_111 : tyA Try.prog 111 = some (false, 1) := by kernel_rfl
@[go_sem] theorem bytesA_111 : bytesA Try.prog 111 = false := by kernel_rfl
@[go_sem] theorem knownA_111 : knownA Try.prog 111 = true := by kernel_rfl
@[go_sem] theorem concA_111 : concA Try.prog 111 = true := by kernel_rfl
@[go_sem] theorem ikA_111 : ikA Try.prog 111 = none := by kernel_rfl
@[go_sem] theorem zeroA_111 : zeroA Try.prog 111 = some [.sl 2 [] .nil] := by kernel_rfl
@[go_sem] theorem slA_111 : slA Try.prog 111 = some 2 := by kernel_rfl
@[go_sem] theorem mkA_111 : mkA Try.prog 111 = some ([.int .i64 0, .int .i64 0], 16) := by kernel_rfl
@[go_sem] theorem apA_111 : apA Try.prog 111 = some (2, 16) := by kernel_rfl
@[go_sem] theorem partTy_111 (i : Nat) : partTy Try.prog 111 i = 196 := rfl_of_partTy (by kernel_rfl)
@[go_sem] theorem tyA_112 : tyA Try.prog 112 = some (false, 1) := by kernel_rfl
@[go_sem] theorem bytesA_112 : bytesA Try.prog 112 = false := by kernel_rfl
@[go_sem] theorem knownA_112 : knownA Try.prog 112 = true := by kernel_rfl
@[go_sem] theorem concA_112 : concA Try.prog 112 = true := by kernel_rfl
@[go_sem] theorem ikA_112 : ikA Try.prog 112 = none := by kernel_rfl
@[go_sem] theorem zeroA_112 : zeroA Try.prog 112 = some [.sl 2 [] .nil] := by kernel_rfl
@[go_sem] theorem slA_112 : slA Try.prog 112 = some 2 := by kernel_rfl
@[go_sem] theorem mkA_112 : mkA Try.prog 112 = some ([.int .i64 0, .int .i64 0], 16) := by kernel_rfl
@[go_sem] theorem apA_112 : apA Try.prog 112 = some (2, 16) := by kernel_rfl
@[go_sem] theorem partTy_112 (i : Nat) : partTy Try.prog 112 i = 200 := rfl_of_partTy (by kernel_rfl)
@[go_sem] theorem tyA_113 : tyA Try.prog 113 = some (true, 5) := by kernel_rfl
@[go_sem] theorem bytesA_113 : bytesA Try.prog 113 = false := by kernel_rfl
@[go_sem] theorem knownA_113 : knownA Try.prog 113 = true := by kernel_rfl
@[go_sem] theorem concA_113 : concA Try.prog 113 = true := by kernel_rfl
@[go_sem] theorem ikA_113 : ikA Try.prog 113 = none := by kernel_rfl
@[go_sem] theorem zeroA_113 : zeroA Try.prog 113 = some [.sl 1 [] .nil, .sl 7 [] .nil, .sl 4 [] .nil, .sl 2 [] .nil, .sl 2 [] .nil] := by kernel_rfl
@[go_sem] theorem slA_113 : slA Try.prog 113 = none := by kernel_rfl
@[go_sem] theorem fsOk_113 : fsOk Try.prog 113 = true := by kernel_rfl
@[go_sem] theorem fldA_113_0 : fldA Try.prog 113 0 = some 0 := by kernel_rfl
@[go_sem] theorem fpA_113_0 : fpA Try.prog 113 0 = some (0, false, 1) := by kernel_rfl
@[go_sem] theorem plA_113_0 : plA Try.prog 113 0 = some (0, 1) := by kernel_rfl
@[go_sem] theorem partTy_113_0 : partTy Try.prog 113 0 = 108 := by kernel_rfl
@[go_sem] theorem fldA_113_1 : fldA Try.prog 113 1 = some 1 := by kernel_rfl
@[go_sem] theorem fpA_113_1 : fpA Try.prog 113 1 = some (1, false, 1) := by kernel_rfl
@[go_sem] theorem plA_113_1 : plA Try.prog 113 1 = some (1, 1) := by kernel_rfl
@[go_sem] theorem partTy_113_1 : partTy Try.prog 113 1 = 109 := by kernel_rfl
@[go_sem] theorem fldA_113_2 : fldA Try.prog 113 2 = some 2 := by kernel_rfl
@[go_sem] theorem fpA_113_2 : fpA Try.prog 113 2 = some (2, false, 1) := by kernel_rfl
@[go_sem] theorem plA_113_2 : plA Try.prog 113 2 = some (2, 1) := by kernel_rfl
@[go_sem] theorem partTy_113_2 : partTy Try.prog 113 2 = 110 := by kernel_rfl
@[go_sem] theorem fldA_113_3 : fldA Try.prog 113 3 = some 3 := by kernel_rfl
@[go_sem] theorem fpA_113_3 : fpA Try.prog 113 3 = some (3, false, 1) := by kernel_rfl
@[go_sem] theorem plA_113_3 : plA Try.prog 113 3 = some (3, 1) := by kernel_rfl
@[go_sem] theorem partTy_113_3 : partTy Try.prog 113 3 = 111 := by kernel_rfl
@[go_sem] theorem fldA_113_4 : fldA Try.prog 113 4 = some 4 := by kernel_rfl
@[go_sem] theorem fpA_113_4 : fpA Try.prog 113 4 = some (4, false, 1) := by kernel_rfl
@[go_sem] theorem plA_113_4 : plA Try.prog 113 4 = some (4, 1) := by kernel_rfl
@[go_sem] theorem partTy_113_4 : partTy Try.prog 113 4 = 112 := by kernel_rfl
@[go_sem] theorem tyA_114 : tyA Try.prog 114 = some (true, 5) := by kernel_rfl
@[go_sem] theorem bytesA_114 : bytesA Try.prog 114 = false := by kernel_rfl
@[go_sem] theorem knownA_114 : knownA Try.prog 114 = true := by kernel_rfl
@[go_sem] theorem concA_114 : concA Try.prog 114 = true := by kernel_rfl
@[go_sem] theorem ikA_114 : ikA Try.prog 114 = none := by kernel_rfl
@[go_sem] theorem zeroA_114 : zeroA Try.prog 114 = some [.sl 1 [] .nil, .sl 7 [] .nil, .sl 4 [] .nil, .sl 2 [] .nil, .sl 2 [] .nil] := by kernel_rfl
@[go_sem] theorem slA_114 : slA Try.prog 114 = none := by kernel_rfl
@[go_sem] theorem fsOk_114 : fsOk Try.prog 114 = true := by kernel_rfl
@[go_sem] theorem fldA_114_0 : fldA Try.prog 114 0 = some 0 := by kernel_rfl
@[go_sem] theorem fpA_114_0 : fpA Try.prog 114 0 = some (0, false, 1) := by kernel_rfl
@[go_sem] theorem plA_114_0 : plA Try.prog 114 0 = some (0, 1) := by kernel_rfl
@[go_sem] theorem partTy_114_0 : partTy Try.prog 114 0 = 108 := by kernel_rfl
@[go_sem] theorem fldA_114_1 : fldA Try.prog 114 1 = some 1 := by kernel_rfl
@[go_sem] theorem fpA_114_1 : fpA Try.prog 114 1 = some (1, false, 1) := by kernel_rfl
@[go_sem] theorem plA_114_1 : plA Try.prog 114 1 = some (1, 1) := by kernel_rfl
@[go_sem] theorem partTy_114_1 : partTy Try.prog 114 1 = 109 := by kernel_rfl
@[go_sem] theorem fldA_114_2 : fldA Try.prog 114 2 = some 2 := by kernel_rfl
@[go_sem] theorem fpA_114_2 : fpA Try.prog 114 2 = some (2, false, 1) := by kernel_rfl
@[go_sem] theorem plA_114_2 : plA Try.prog 114 2 = some (2, 1) := by kernel_rfl
@[go_sem] theorem partTy_114_2 : partTy Try.prog 114 2 = 110 := by kernel_rfl
@[go_sem] theorem fldA_114_3 : fldA Try.prog 114 3 = some 3 := by kernel_rfl
@[go_sem] theorem fpA_114_3 : fpA Try.prog 114 3 = some (3, false, 1) := by kernel_rfl
@[go_sem] theorem plA_114_3 : plA Try.prog 114 3 = some (3, 1) := by kernel_rfl
@[go_sem] theorem partTy_114_3 : partTy Try.prog 114 3 = 111 := by kernel_rfl
@[go_sem] theorem fldA_114_4 : fldA Try.prog 114 4 = some 4 := by kernel_rfl
@[go_sem] theorem fpA_114_4 : fpA Try.prog 114 4 = some (4, false, 1) := by kernel_rfl
@[go_sem] theorem plA_114_4 : plA Try.prog 114 4 = some (4, 1) := by kernel_rfl
@[go_sem] theorem partTy_114_4 : partTy Try.prog 114 4 = 112 := by kernel_rfl
@[go_sem] theorem tyA_115 : tyA Try.prog 115 = some (false, 1) := by kernel_rfl
@[go_sem] theorem bytesA_115 : bytesA Try.prog 115 = false := by kernel_rfl
@[go_sem] theorem knownA_115 : knownA Try.prog 115 = true := by kernel_rfl
@[go_sem] theorem concA_115 : concA Try.prog 115 = true := by kernel_rfl
@[go_sem] theorem ikA_115 : ikA Try.prog 115 = none := by kernel_rfl
@[go_sem] theorem zeroA_115 : zeroA Try.prog 115 = some [.raw .nilFunc] := by kernel_rfl
@[go_sem] theorem slA_115 : slA Try.prog 115 = none := by kernel_rfl
@[go_sem] theorem tyA_116 : tyA Try.prog 116 = some (false, 1) := by kernel_rfl
@[go_sem] theorem bytesA_116 : bytesA Try.prog 116 = false := by kernel_rfl
@[go_sem] theorem knownA_116 : knownA Try.prog 116 = true := by kernel_rfl
@[go_sem] theorem concA_116 : concA Try.prog 116 = true := by kernel_rfl
@[go_sem] theorem ikA_116 : ikA Try.prog 116 = none := by kernel_rfl
@[go_sem] theorem zeroA_116 : zeroA Try.prog 116 = some [.raw .nilFunc] := by kernel_rfl
@[go_sem] theorem slA_116 : slA Try.prog 116 = none := by kernel_rfl
@[go_sem] theorem tyA_117 : tyA Try.prog 117 = some (true, 5) := by kernel_rfl
@[go_sem] theorem bytesA_117 : bytesA Try.prog 117 = false := by kernel_rfl
@[go_sem] theorem knownA_117 : knownA Try.prog 117 = true := by kernel_rfl
@[go_sem] theorem concA_117 : concA Try.prog 117 = true := by kernel_rfl
@[go_sem] theorem ikA_117 : ikA Try.prog 117 = none := by kernel_rfl
@[go_sem] theorem zeroA_117 : zeroA Try.prog 117 = some [.int .i64 0, .int .i64 0, .int .i64 0, .int .i64 0, .int .i64 0] := by kernel_rfl
@[go_sem] theorem slA_117 : slA Try.prog 117 = none := by kernel_rfl
@[go_sem] theorem fsOk_117 : fsOk Try.prog 117 = true := by kernel_rfl
@[go_sem] theorem fldA_117_0 : fldA Try.prog 117 0 = some 0 := by kernel_rfl
@[go_sem] theorem fpA_117_0 : fpA Try.prog 117 0 = some (0, false, 1) := by kernel_rfl
@[go_sem] theorem plA_117_0 : plA Try.prog 117 0 = some (0, 1) := by kernel_rfl
@[go_sem] theorem partTy_117_0 : partTy Try.prog 117 0 = 3 := by kernel_rfl
@[go_sem] theorem fldA_117_1 : fldA Try.prog 117 1 = some 1 := by kernel_rfl
@[go_sem] theorem fpA_117_1 : fpA Try.prog 117 1 = some (1, false, 1) := by kernel_rfl
@[go_sem] theorem plA_117_1 : plA Try.prog 117 1 = some (1, 1) := by kernel_rfl
@[go_sem] theorem partTy_117_1 : partTy Try.prog 117 1 = 3 := by kernel_rfl
@[go_sem] theorem fldA_117_2 : fldA Try.prog 117 2 = some 2 := by kernel_rfl
@[go_sem] theorem fpA_117_2 : fpA Try.prog 117 2 = some (2, false, 1) := by kernel_rfl
@[go_sem] theorem plA_117_2 : plA Try.prog 117 2 = some (2, 1) := by kernel_rfl
@[go_sem] theorem partTy_117_2 : partTy Try.prog 117 2 = 3 := by kernel_rfl
@[go_sem] theorem fldA_117_3 : fldA Try.prog 117 3 = some 3 := by kernel_rfl
@[go_sem] theorem fpA_117_3 : fpA Try.prog 117 3 = some (3, false, 1) := by kernel_rfl
@[go_sem] theorem plA_117_3 : plA Try.prog 117 3 = some (3, 1) := by kernel_rfl
@[go_sem] theorem partTy_117_3 : partTy Try.prog 117 3 = 3 := by kernel_rfl
@[go_sem] theorem fldA_117_4 : fldA Try.prog 117 4 = some 4 := by kernel_rfl
@[go_sem] theorem fpA_117_4 : fpA Try.prog 117 4 = some (4, false, 1) := by kernel_rfl
@[go_sem] theorem plA_117_4 : plA Try.prog 117 4 = some (4, 1) := by kernel_rfl
@[go_sem] theorem partTy_117_4 : partTy Try.prog 117 4 = 3 := by kernel_rfl
@[go_sem] theorem eqKs_117 : eqKs Try.prog 117 = some [.int .i64, .int .i64, .int .i64, .int .i64, .int .i64] := by kernel_rfl
@[go_sem] theorem tyA_118 : tyA Try.prog 118 = some (true, 5) := by kernel_rfl
@[go_sem] theorem bytesA_118 : bytesA Try.prog 118 = false := by kernel_rfl
@[go_sem] theorem knownA_118 : knownA Try.prog 118 = true := by kernel_rfl
@[go_sem] theorem concA_118 : concA Try.prog 118 = true := by kernel_rfl
@[go_sem] theorem ikA_118 : ikA Try.prog 118 = none := by kernel_rfl
@[go_sem] theorem zeroA_118 : zeroA Try.prog 118 = some [.int .i64 0, .int .i64 0, .int .i64 0, .int .i64 0, .int .i64 0] := by kernel_rfl
@[go_sem] theorem slA_118 : slA Try.prog 118 = none := by kernel_rfl
@[go_sem] theorem fsOk_118 : fsOk Try.prog 118 = true := by kernel_rfl
@[go_sem] theorem fldA_118_0 : fldA Try.prog 118 0 = some 0 := by kernel_rfl
@[go_sem] theorem fpA_118_0 : fpA Try.prog 118 0 = some (0, false, 1) := by kernel_rfl
@[go_sem] theorem plA_118_0 : plA Try.prog 118 0 = some (0, 1) := by kernel_rfl
@[go_sem] theorem partTy_118_0 : partTy Try.prog 118 0 = 3 := by kernel_rfl
@[go_sem] theorem fldA_118_1 : fldA Try.prog 118 1 = some 1 := by kernel_rfl
@[go_sem] theorem fpA_118_1 : fpA Try.prog 118 1 = some (1, false, 1) := by kernel_rfl
@[go_sem] theorem plA_118_1 : plA Try.prog 118 1 = some (1, 1) := by kernel_rfl
@[go_sem] theorem partTy_118_1 : partTy Try.prog 118 1 = 3 := by kernel_rfl
@[go_sem] theorem fldA_118_2 : fldA Try.prog 118 2 = some 2 := by kernel_rfl
@[go_sem] theorem fpA_118_2 : fpA Try.prog 118 2 = some (2, false, 1) := by kernel_rfl
@[go_sem] theorem plA_118_2 : plA Try.prog 118 2 = some (2, 1) := by kernel_rfl
@[go_sem] theorem partTy_118_2 : partTy Try.prog 118 2 = 3 := by kernel_rfl
@[go_sem] theorem fldA_118_3 : fldA Try.prog 118 3 = some 3 := by kernel_rfl
@[go_sem] theorem fpA_118_3 : fpA Try.prog 118 3 = some (3, false, 1) := by kernel_rfl
@[go_sem] theorem plA_118_3 : plA Try.prog 118 3 = some (3, 1) := by kernel_rfl
@[go_sem] theorem partTy_118_3 : partTy Try.prog 118 3 = 3 := by kernel_rfl
@[go_sem] theorem fldA_118_4 : fldA Try.prog 118 4 = some 4 := by kernel_rfl
@[go_sem] theorem fpA_118_4 : fpA Try.prog 118 4 = some (4, false, 1) := by kernel_rfl
@[go_sem] theorem plA_118_4 : plA Try.prog 118 4 = some (4, 1) := by kernel_rfl
@[go_sem] theorem partTy_118_4 : partTy Try.prog 118 4 = 3 := by kernel_rfl
@[go_sem] theorem eqKs_118 : eqKs Try.prog 118 = some [.int .i64, .int .i64, .int .i64, .int .i64, .int .i64] := by kernel_rfl
@[go_sem] theorem tyA_119 : tyA Try.prog 119 = some (false, 1) := by kernel_rfl
@[go_sem] theorem bytesA_119 : bytesA Try.prog 119 = false := by kernel_rfl
@[go_sem] theorem knownA_119 : knownA Try.prog 119 = true := by kernel_rfl
@[go_sem] theorem concA_119 : concA Try.prog 119 = true := by kernel_rfl
@[go_sem] theorem ikA_119 : ikA Try.prog 119 = none := by kernel_rfl
@[go_sem] theorem zeroA_119 : zeroA Try.prog 119 = some [.raw .nilFunc] := by kernel_rfl
@[go_sem] theorem slA_119 : slA Try.prog 119 = none := by kernel_rfl
@[go_sem] theorem tyA_120 : tyA Try.prog 120 = some (false, 1) := by kernel_rfl
@[go_sem] theorem bytesA_120 : bytesA Try.prog 120 = false := by kernel_rfl
@[go_sem] theorem knownA_120 : knownA Try.prog 120 = true := by kernel_rfl
@[go_sem] theorem concA_120 : concA Try.prog 120 = true := by kernel_rfl
@[go_sem] theorem ikA_120 : ikA Try.prog 120 = none := by kernel_rfl
@[go_sem] theorem zeroA_120 : zeroA Try.prog 120 = some [.raw (.pointer none)] := by kernel_rfl
@[go_sem] theorem slA_120 : slA Try.prog 120 = none := by kernel_rfl
@[go_sem] theorem tyA_121 : tyA Try.prog 121 = some (false, 1) := by kernel_rfl
@[go_sem] theorem bytesA_121 : bytesA Try.prog 121 = false := by kernel_rfl
@[go_sem] theorem knownA_121 : knownA Try.prog 121 = true := by kernel_rfl
@[go_sem] theorem concA_121 : concA Try.prog 121 = true := by kernel_rfl
@[go_sem] theorem ikA_121 : ikA Try.prog 121 = none := by kernel_rfl
@[go_sem] theorem zeroA_121 : zeroA Try.prog 121 = some [.raw .nilFunc] := by kernel_rfl
@[go_sem] theorem slA_121 : slA Try.prog 121 = none := by kernel_rfl
@[go_sem] theorem tyA_122 : tyA Try.prog 122 = some (false, 1) := by kernel_rfl
@[go_sem] theorem bytesA_122 : bytesA Try.prog 122 = false := by kernel_rfl
@[go_sem] theorem knownA_122 : knownA Try.prog 122 = true := by kernel_rfl
@[go_sem] theorem concA_122 : concA Try.prog 122 = true := by kernel_rfl
@[go_sem] theorem ikA_122 : ikA Try.prog 122 = none := by kernel_rfl
@[go_sem] theorem zeroA_122 : zeroA Try.prog 122 = some [.raw .nilFunc] := by kernel_rfl
@[go_sem] theorem slA_122 : slA Try.prog 122 = none := by kernel_rfl
@[go_sem] theorem tyA_123 : tyA Try.prog 123 = some (false, 1) := by kernel_rfl
@[go_sem] theorem bytesA_123 : bytesA Try.prog 123 = false := by kernel_rfl
@[go_sem] theorem knownA_123 : knownA Try.prog 123 = true := by kernel_rfl
@[go_sem] theorem concA_123 : concA Try.prog 123 = true := by kernel_rfl
@[go_sem] theorem ikA_123 : ikA Try.prog 123 = none := by kernel_rfl
@[go_sem] theorem zeroA_123 : zeroA Try.prog 123 = some [.raw (.map none)] := by kernel_rfl
@[go_sem] theorem slA_123 : slA Try.prog 123 = none := by kernel_rfl
@[go_sem] theorem tyA_124 : tyA Try.prog 124 = some (false, 1) := by kernel_rfl
@[go_sem] theorem bytesA_124 : bytesA Try.prog 124 = false := by kernel_rfl
@[go_sem] theorem knownA_124 : knownA Try.prog 124 = true := by kernel_rfl
@[go_sem] theorem concA_124 : concA Try.prog 124 = true := by kernel_rfl
@[go_sem] theorem ikA_124 : ikA Try.prog 124 = none := by kernel_rfl
@[go_sem] theorem zeroA_124 : zeroA Try.prog 124 = some [.raw .nilFunc] := by kernel_rfl
@[go_sem] theorem slA_124 : slA Try.prog 124 = none := by kernel_rfl
@[go_sem] theorem tyA_125 : tyA Try.prog 125 = some (true, 2) := by kernel_rfl
@[go_sem] theorem bytesA_125 : bytesA Try.prog 125 = false := by kernel_rfl
@[go_sem] theorem knownA_125 : knownA Try.prog 125 = true := by kernel_rfl
@[go_sem] theorem concA_125 : concA Try.prog 125 = true := by kernel_rfl
@[go_sem] theorem ikA_125 : ikA Try.prog 125 = none := by kernel_rfl
@[go_sem] theorem zeroA_125 : zeroA Try.prog 125 = some [.int .i64 0, .int .i64 0] := by kernel_rfl
@[go_sem] theorem slA_125 : slA Try.prog 125 = none := by kernel_rfl
@[go_sem] theorem fsOk_125 : fsOk Try.prog 125 = true := by kernel_rfl
@[go_sem] theorem fldA_125_0 : fldA Try.prog 125 0 = some 0 := by kernel_rfl
@[go_sem] theorem fpA_125_0 : fpA Try.prog 125 0 = some (0, false, 1) := by kernel_rfl
@[go_sem] theorem plA_125_0 : plA Try.prog 125 0 = some (0, 1) := by kernel_rfl
@[go_sem] theorem partTy_125_0 : partTy Try.prog 125 0 = 3 := by kernel_rfl
@[go_sem] theorem fldA_125_1 : fldA Try.prog 125 1 = some 1 := by kernel_rfl
@[go_sem] theorem fpA_125_1 : fpA Try.prog 125 1 = some (1, false, 1) := by kernel_rfl
@[go_sem] theorem plA_125_1 : plA Try.prog 125 1 = some (1, 1) := by kernel_rfl
@[go_sem] theorem partTy_125_1 : partTy Try.prog 125 1 = 3 := by kernel_rfl
@[go_sem] theorem eqKs_125 : eqKs Try.prog 125 = some [.int .i64, .int .i64] := by kernel_rfl
@[go_sem] theorem tyA_126 : tyA Try.prog 126 = some (true, 2) := by kernel_rfl
@[go_sem] theorem bytesA_126 : bytesA Try.prog 126 = false := by kernel_rfl
@[go_sem] theorem knownA_126 : knownA Try.prog 126 = true := by kernel_rfl
@[go_sem] theorem concA_126 : concA Try.prog 126 = true := by kernel_rfl
@[go_sem] theorem ikA_126 : ikA Try.prog 126 = none := by kernel_rfl
@[go_sem] theorem zeroA_126 : zeroA Try.prog 126 = some [.int .i64 0, .int .i64 0] := by kernel_rfl
@[go_sem] theorem slA_126 : slA Try.prog 126 = none := by kernel_rfl
@[go_sem] theorem fsOk_126 : fsOk Try.prog 126 = true := by kernel_rfl
@[go_sem] theorem fldA_126_0 : fldA Try.prog 126 0 = some 0 := by kernel_rfl
@[go_sem] theorem fpA_126_0 : fpA Try.prog 126 0 = some (0, false, 1) := by kernel_rfl
@[go_sem] theorem plA_126_0 : plA Try.prog 126 0 = some (0, 1) := by kernel_rfl
@[go_sem] theorem partTy_126_0 : partTy Try.prog 126 0 = 3 := by kernel_rfl
@[go_sem] theorem fldA_126_1 : fldA Try.prog 126 1 = some 1 := by kernel_rfl
@[go_sem] theorem fpA_126_1 : fpA Try.prog 126 1 = some (1, false, 1) := by kernel_rfl
@[go_sem] theorem plA_126_1 : plA Try.prog 126 1 = some (1, 1) := by kernel_rfl
@[go_sem] theorem partTy_126_1 : partTy Try.prog 126 1 = 3 := by kernel_rfl
@[go_sem] theorem eqKs_126 : eqKs Try.prog 126 = some [.int .i64, .int .i64] := by kernel_rfl
@[go_sem] theorem tyA_127 : tyA Try.prog 127 = some (false, 1) := by kernel_rfl
@[go_sem] theorem bytesA_127 : bytesA Try.prog 127 = false := by kernel_rfl
@[go_sem] theorem knownA_127 : knownA Try.prog 127 = true := by kernel_rfl
@[go_sem] theorem concA_127 : concA Try.prog 127 = true := by kernel_rfl
@[go_sem] theorem ikA_127 : ikA Try.prog 127 = none := by kernel_rfl
@[go_sem] theorem zeroA_127 : zeroA Try.prog 127 = some [.raw .nilFunc] := by kernel_rfl
@[go_sem] theorem slA_127 : slA Try.prog 127 = none := by kernel_rfl
@[go_sem] theorem tyA_128 : tyA Try.prog 128 = some (false, 1) := by kernel_rfl
@[go_sem] theorem bytesA_128 : bytesA Try.prog 128 = false := by kernel_rfl
@[go_sem] theorem knownA_128 : knownA Try.prog 128 = true := by kernel_rfl
@[go_sem] theorem concA_128 : concA Try.prog 128 = true := by kernel_rfl
@[go_sem] theorem ikA_128 : ikA Try.prog 128 = some .u64 := by kernel_rfl
@[go_sem] theorem zeroA_128 : zeroA Try.prog 128 = some [.int .u64 0] := by kernel_rfl
@[go_sem] theorem slA_128 : slA Try.prog 128 = none := by kernel_rfl
@[go_sem] theorem tyA_129 : tyA Try.prog 129 = some (false, 1) := by kernel_rfl
@[go_sem] theorem bytesA_129 : bytesA Try.prog 129 = false := by kernel_rfl
@[go_sem] theorem knownA_129 : knownA Try.prog 129 = true := by kernel_rfl
@[go_sem] theorem concA_129 : concA Try.prog 129 = true := by kernel_rfl
@[go_sem] theorem ikA_129 : ikA Try.prog 129 = none := by kernel_rfl
@[go_sem] theorem zeroA_129 : zeroA Try.prog 129 = some [.sl 3 [] .nil] := by kernel_rfl
@[go_sem] theorem slA_129 : slA Try.prog 129 = some 3 := by kernel_rfl
@[go_sem] theorem mkA_129 : mkA Try.prog 129 = some ([.int .i64 0, .int .i64 0, .bool false], 24) := by kernel_rfl
@[go_sem] theorem apA_129 : apA Try.prog 129 = some (3, 24) := by kernel_rfl
@[go_sem] theorem partTy_129 (i : Nat) : partTy Try.prog 129 i = 179 := rfl_of_partTy (by kernel_rfl)
@[go_sem] theorem tyA_130 : tyA Try.prog 130 = some (true, 4) := by kernel_rfl
@[go_sem] theorem bytesA_130 : bytesA Try.prog 130 = false := by kernel_rfl
@[go_sem] theorem knownA_130 : knownA Try.prog 130 = true := by kernel_rfl
@[go_sem] theorem concA_130 : concA Try.prog 130 = true := by kernel_rfl
@[go_sem] theorem ikA_130 : ikA Try.prog 130 = none := by kernel_rfl
@[go_sem] theorem zeroA_130 : zeroA Try.prog 130 = some [.int .i64 0, .int .i64 0, .int .i64 0, .int .i64 0] := by kernel_rfl
@[go_sem] theorem slA_130 : slA Try.prog 130 = none := by kernel_rfl
@[go_sem] theorem eqKs_130 : eqKs Try.prog 130 = some [.int .i64, .int .i64, .int .i64, .int .i64] := by kernel_rfl
@[go_sem] theorem arA_130 : arA Try.prog 130 = some (4, 1) := by kernel_rfl
@[go_sem] theorem avA_130 : avA Try.prog 130 = some (4, false, 1) := by kernel_rfl
@[go_sem] theorem fsOk_130 : fsOk Try.prog 130 = true := by kernel_rfl
@[go_sem] theorem plA_130_0 : plA Try.prog 130 0 = some (0, 1) := by kernel_rfl
@[go_sem] theorem partTy_130_0 : partTy Try.prog 130 0 = 3 := by kernel_rfl
@[go_sem] theorem plA_130_1 : plA Try.prog 130 1 = some (1, 1) := by kernel_rfl
@[go_sem] theorem partTy_130_1 : partTy Try.prog 130 1 = 3 := by kernel_rfl
@[go_sem] theorem plA_130_2 : plA Try.prog 130 2 = some (2, 1) := by kernel_rfl
@[go_sem] theorem partTy_130_2 : partTy Try.prog 130 2 = 3 := by kernel_rfl
@[go_sem] theorem plA_130_3 : plA Try.prog 130 3 = some (3, 1) := by kernel_rfl
@[go_sem] theorem partTy_130_3 : partTy Try.prog 130 3 = 3 := by kernel_rfl
@[go_sem] theorem tyA_131 : tyA Try.prog 131 = some (true, 10) := by kernel_rfl
@[go_sem] theorem bytesA_131 : bytesA Try.prog 131 = false := by kernel_rfl
@[go_sem] theorem knownA_131 : knownA Try.prog 131 = true := by kernel_rfl
@[go_sem] theorem concA_131 : concA Try.prog 131 = true := by kernel_rfl
@[go_sem] theorem ikA_131 : ikA Try.prog 131 = none := by kernel_rfl
@[go_sem] theorem zeroA_131 : zeroA Try.prog 131 = some [.int .i64 0, .int .i64 0, .int .i64 0, .int .i64 0, .int .i64 0, .sl 3 [] .nil, .int .i64 0, .int .i64 0, .int .i64 0, .int .i64 0] := by kernel_rfl
@[go_sem] theorem slA_131 : slA Try.prog 131 = none := by kernel_rfl
@[go_sem] theorem fsOk_131 : fsOk Try.prog 131 = true := by kernel_rfl
@[go_sem] theorem fldA_131_0 : fldA Try.prog 131 0 = some 0 := by kernel_rfl
@[go_sem] theorem fpA_131_0 : fpA Try.prog 131 0 = some (0, false, 1) := by kernel_rfl
@[go_sem] theorem plA_131_0 : plA Try.prog 131 0 = some (0, 1) := by kernel_rfl
@[go_sem] theorem partTy_131_0 : partTy Try.prog 131 0 = 3 := by kernel_rfl
@[go_sem] theorem fldA_131_1 : fldA Try.prog 131 1 = some 1 := by kernel_rfl
@[go_sem] theorem fpA_131_1 : fpA Try.prog 131 1 = some (1, false, 1) := by kernel_rfl
@[go_sem] theorem plA_131_1 : plA Try.prog 131 1 = some (1, 1) := by kernel_rfl
@[go_sem] theorem partTy_131_1 : partTy Try.prog 131 1 = 3 := by kernel_rfl
@[go_sem] theorem fldA_131_2 : fldA Try.prog 131 2 = some 2 := by kernel_rfl
@[go_sem] theorem fpA_131_2 : fpA Try.prog 131 2 = some (2, false, 1) := by kernel_rfl
@[go_sem] theorem plA_131_2 : plA Try.prog 131 2 = some (2, 1) := by kernel_rfl
@[go_sem] theorem partTy_131_2 : partTy Try.prog 131 2 = 3 := by kernel_rfl
@[go_sem] theorem fldA_131_3 : fldA Try.prog 131 3 = some 3 := by kernel_rfl
@[go_sem] theorem fpA_131_3 : fpA Try.prog 131 3 = some (3, false, 1) := by kernel_rfl
@[go_sem] theorem plA_131_3 : plA Try.prog 131 3 = some (3, 1) := by kernel_rfl
@[go_sem] theorem partTy_131_3 : partTy Try.prog 131 3 = 3 := by kernel_rfl
@[go_sem] theorem fldA_131_4 : fldA Try.prog 131 4 = some 4 := by kernel_rfl
@[go_sem] theorem fpA_131_4 : fpA Try.prog 131 4 = some (4, false, 1) := by kernel_rfl
@[go_sem] theorem plA_131_4 : plA Try.prog 131 4 = some (4, 1) := by kernel_rfl
@[go_sem] theorem partTy_131_4 : partTy Try.prog 131 4 = 3 := by kernel_rfl
@[go_sem] theorem fldA_131_5 : fldA Try.prog 131 5 = some 5 := by kernel_rfl
@[go_sem] theorem fpA_131_5 : fpA Try.prog 131 5 = some (5, false, 1) := by kernel_rfl
@[go_sem] theorem plA_131_5 : plA Try.prog 131 5 = some (5, 1) := by kernel_rfl
@[go_sem] theorem partTy_131_5 : partTy Try.prog 131 5 = 129 := by kernel_rfl
@[go_sem] theorem fldA_131_6 : fldA Try.prog 131 6 = some 6 := by kernel_rfl
@[go_sem] theorem fpA_131_6 : fpA Try.prog 131 6 = some (6, true, 4) := by kernel_rfl
@[go_sem] theorem plA_131_6 : plA Try.prog 131 6 = some (6, 4) := by kernel_rfl
@[go_sem] theorem partTy_131_6 : partTy Try.prog 131 6 = 130 := by kernel_rfl
@[go_sem] theorem tyA_132 : tyA Try.prog 132 = some (true, 10) := by kernel_rfl
@[go_sem] theorem bytesA_132 : bytesA Try.prog 132 = false := by kernel_rfl
@[go_sem] theorem knownA_132 : knownA Try.prog 132 = true := by kernel_rfl
@[go_sem] theorem concA_132 : concA Try.prog 132 = true := by kernel_rfl
@[go_sem] theorem ikA_132 : ikA Try.prog 132 = none := by kernel_rfl
@[go_sem] theorem zeroA_132 : zeroA Try.prog 132 = some [.int .i64 0, .int .i64 0, .int .i64 0, .int .i64 0, .int .i64 0, .sl 3 [] .nil, .int .i64 0, .int .i64 0, .int .i64 0, .int .i64 0] := by kernel_rfl
@[go_sem] theorem slA_132 : slA Try.prog 132 = none := by kernel_rfl
@[go_sem] theorem fsOk_132 : fsOk Try.prog 132 = true := by kernel_rfl
@[go_sem] theorem fldA_132_0 : fldA Try.prog 132 0 = some 0 := by kernel_rfl
@[go_sem] theorem fpA_132_0 : fpA Try.prog 132 0 = some (0, false, 1) := by kernel_rfl
@[go_sem] theorem plA_132_0 : plA Try.prog 132 0 = some (0, 1) := by kernel_rfl
@[go_sem] theorem partTy_132_0 : partTy Try.prog 132 0 = 3 := by kernel_rfl
@[go_sem] theorem fldA_132_1 : fldA Try.prog 132 1 = some 1 := by kernel_rfl
@[go_sem] theorem fpA_132_1 : fpA Try.prog 132 1 = some (1, false, 1) := by kernel_rfl
@[go_sem] theorem plA_132_1 : plA Try.prog 132 1 = some (1, 1) := by kernel_rfl
@[go_sem] theorem partTy_132_1 : partTy Try.prog 132 1 = 3 := by kernel_rfl
@[go_sem] theorem fldA_132_2 : fldA Try.prog 132 2 = some 2 := by kernel_rfl
@[go_sem] theorem fpA_132_2 : fpA Try.prog 132 2 = some (2, false, 1) := by kernel_rfl
@[go_sem] theorem plA_132_2 : plA Try.prog 132 2 = some (2, 1) := by kernel_rfl
@[go_sem] theorem partTy_132_2 : partTy Try.prog 132 2 = 3 := by kernel_rfl
@[go_sem] theorem fldA_132_3 : fldA Try.prog 132 3 = some 3 := by kernel_rfl
@[go_sem] theorem fpA_132_3 : fpA Try.prog 132 3 = some (3, false, 1) := by kernel_rfl
@[go_sem] theorem plA_132_3 : plA Try.prog 132 3 = some (3, 1) := by kernel_rfl
@[go_sem] theorem partTy_132_3 : partTy Try.prog 132 3 = 3 := by kernel_rfl
@[go_sem] theorem fldA_132_4 : fldA Try.prog 132 4 = some 4 := by kernel_rfl
@[go_sem] theorem fpA_132_4 : fpA Try.prog 132 4 = some (4, false, 1) := by kernel_rfl
@[go_sem] theorem plA_132_4 : plA Try.prog 132 4 = some (4, 1) := by kernel_rfl
@[go_sem] theorem partTy_132_4 : partTy Try.prog 132 4 = 3 := by kernel_rfl
@[go_sem] theorem fldA_132_5 : fldA Try.prog 132 5 = some 5 := by kernel_rfl
@[go_sem] theorem fpA_132_5 : fpA Try.prog 132 5 = some (5, false, 1) := by kernel_rfl
@[go_sem] theorem plA_132_5 : plA Try.prog 132 5 = some (5, 1) := by kernel_rfl
@[go_sem] theorem partTy_132_5 : partTy Try.prog 132 5 = 129 := by kernel_rfl
@[go_sem] theorem fldA_132_6 : fldA Try.prog 132 6 = some 6 := by kernel_rfl
@[go_sem] theorem fpA_132_6 : fpA Try.prog 132 6 = some (6, true, 4) := by kernel_rfl
@[go_sem] theorem plA_132_6 : plA Try.prog 132 6 = some (6, 4) := by kernel_rfl
@[go_sem] theorem partTy_132_6 : partTy Try.prog 132 6 = 130 := by kernel_rfl
@[go_sem] theorem tyA_133 : tyA Try.prog 133 = some (false, 1) := by kernel_rfl
@[go_sem] theorem bytesA_133 : bytesA Try.prog 133 = false := by kernel_rfl
@[go_sem] theorem knownA_133 : knownA Try.prog 133 = true := by kernel_rfl
@[go_sem] theorem concA_133 : concA Try.prog 133 = true := by kernel_rfl
@[go_sem] theorem ikA_133 : ikA Try.prog 133 = none := by kernel_rfl
@[go_sem] theorem zeroA_133 : zeroA Try.prog 133 = some [.raw .nilFunc] := by kernel_rfl
@[go_sem] theorem slA_133 : slA Try.prog 133 = none := by kernel_rfl
@[go_sem] theorem tyA_134 : tyA Try.prog 134 = some (false, 1) := by kernel_rfl
@[go_sem] theorem bytesA_134 : bytesA Try.prog 134 = false := by kernel_rfl
@[go_sem] theorem knownA_134 : knownA Try.prog 134 = true := by kernel_rfl
@[go_sem] theorem concA_134 : concA Try.prog 134 = true := by kernel_rfl
@[go_sem] theorem ikA_134 : ikA Try.prog 134 = none := by kernel_rfl
@[go_sem] theorem zeroA_134 : zeroA Try.prog 134 = some [.raw .nilFunc] := by kernel_rfl
@[go_sem] theorem slA_134 : slA Try.prog 134 = none := by kernel_rfl
@[go_sem] theorem tyA_135 : tyA Try.prog 135 = some (false, 1) := by kernel_rfl
@[go_sem] theorem bytesA_135 : bytesA Try.prog 135 = false := by kernel_rfl
@[go_sem] theorem knownA_135 : knownA Try.prog 135 = true := by kernel_rfl
@[go_sem] theorem concA_135 : concA Try.prog 135 = true := by kernel_rfl
@[go_sem] theorem ikA_135 : ikA Try.prog 135 = none := by kernel_rfl
@[go_sem] theorem zeroA_135 : zeroA Try.prog 135 = some [.raw .nilFunc] := by kernel_rfl
@[go_sem] theorem slA_135 : slA Try.prog 135 = none := by kernel_rfl
@[go_sem] theorem tyA_136 : tyA Try.prog 136 = some (true, 2) := by kernel_rfl
@[go_sem] theorem bytesA_136 : bytesA Try.prog 136 = false := by kernel_rfl
@[go_sem] theorem knownA_136 : knownA Try.prog 136 = true := by kernel_rfl
@[go_sem] theorem concA_136 : concA Try.prog 136 = true := by kernel_rfl
@[go_sem] theorem ikA_136 : ikA Try.prog 136 = none := by kernel_rfl
@[go_sem] theorem zeroA_136 : zeroA Try.prog 136 = some [.int .i64 0, .int .i64 0] := by kernel_rfl
@[go_sem] theorem slA_136 : slA Try.prog 136 = none := by kernel_rfl
@[go_sem] theorem eqKs_136 : eqKs Try.prog 136 = some [.int .i64, .int .i64] := by kernel_rfl
@[go_sem] theorem arA_136 : arA Try.prog 136 = some (2, 1) := by kernel_rfl
@[go_sem] theorem avA_136 : avA Try.prog 136 = some (2, false, 1) := by kernel_rfl
@[go_sem] theorem fsOk_136 : fsOk Try.prog 136 = true := by kernel_rfl
@[go_sem] theorem plA_136_0 : plA Try.prog 136 0 = some (0, 1) := by kernel_rfl
@[go_sem] theorem partTy_136_0 : partTy Try.prog 136 0 = 3 := by kernel_rfl
@[go_sem] theorem plA_136_1 : plA Try.prog 136 1 = some (1, 1) := by kernel_rfl
@[go_sem] theorem partTy_136_1 : partTy Try.prog 136 1 = 3 := by kernel_rfl
@[go_sem] theorem tyA_138 : tyA Try.prog 138 = some (false, 1) := by kernel_rfl
@[go_sem] theorem bytesA_138 : bytesA Try.prog 138 = false := by kernel_rfl
@[go_sem] theorem knownA_138 : knownA Try.prog 138 = true := by kernel_rfl
@[go_sem] theorem concA_138 : concA Try.prog 138 = true := by kernel_rfl
@[go_sem] theorem ikA_138 : ikA Try.prog 138 = none := by kernel_rfl
@[go_sem] theorem zeroA_138 : zeroA Try.prog 138 = some [.raw .nilFunc] := by kernel_rfl
@[go_sem] theorem slA_138 : slA Try.prog 138 = none := by kernel_rfl
@[go_sem] theorem tyA_139 : tyA Try.prog 139 = some (false, 1) := by kernel_rfl
@[go_sem] theorem bytesA_139 : bytesA Try.prog 139 = false := by kernel_rfl
@[go_sem] theorem knownA_139 : knownA Try.prog 139 = true := by kernel_rfl
@[go_sem] theorem concA_139 : concA Try.prog 139 = true := by kernel_rfl
@[go_sem] theorem ikA_139 : ikA Try.prog 139 = none := by kernel_rfl
@[go_sem] theorem zeroA_139 : zeroA Try.prog 139 = some [.raw (.pointer none)] := by kernel_rfl
@[go_sem] theorem slA_139 : slA Try.prog 139 = none := by kernel_rfl
@[go_sem] theorem tyA_140 : tyA Try.prog 140 = some (false, 1) := by kernel_rfl
@[go_sem] theorem bytesA_140 : bytesA Try.prog 140 = false := by kernel_rfl
@[go_sem] theorem knownA_140 : knownA Try.prog 140 = true := by kernel_rfl
@[go_sem] theorem concA_140 : concA Try.prog 140 = true := by kernel_rfl
@[go_sem] theorem ikA_140 : ikA Try.prog 140 = none := by kernel_rfl
@[go_sem] theorem zeroA_140 : zeroA Try.prog 140 = some [.raw .nilFunc] := by kernel_rfl
@[go_sem] theorem slA_140 : slA Try.prog 140 = none := by kernel_rfl
@[go_sem] theorem tyA_141 : tyA Try.prog 141 = some (false, 1) := by kernel_rfl
@[go_sem] theorem bytesA_141 : bytesA Try.prog 141 = false := by kernel_rfl
@[go_sem] theorem knownA_141 : knownA Try.prog 141 = true := by kernel_rfl
@[go_sem] theorem concA_141 : concA Try.prog 141 = true := by kernel_rfl
@[go_sem] theorem ikA_141 : ikA Try.prog 141 = none := by kernel_rfl
@[go_sem] theorem zeroA_141 : zeroA Try.prog 141 = some [.raw .nilFunc] := by kernel_rfl
@[go_sem] theorem slA_141 : slA Try.prog 141 = none := by kernel_rfl
@[go_sem] theorem tyA_142 : tyA Try.prog 142 = some (false, 1) := by kernel_rfl
@[go_sem] theorem bytesA_142 : bytesA Try.prog 142 = false := by kernel_rfl
@[go_sem] theorem knownA_142 : knownA Try.prog 142 = true := by kernel_rfl
@[go_sem] theorem concA_142 : concA Try.prog 142 = true := by kernel_rfl
@[go_sem] theorem ikA_142 : ikA Try.prog 142 = none := by kernel_rfl
@[go_sem] theorem zeroA_142 : zeroA Try.prog 142 = some [.raw .nilFunc] := by kernel_rfl
@[go_sem] theorem slA_142 : slA Try.prog 142 = none := by kernel_rfl
@[go_sem] theorem tyA_143 : tyA Try.prog 143 = some (false, 1) := by kernel_rfl
@[go_sem] theorem bytesA_143 : bytesA Try.prog 143 = false := by kernel_rfl
@[go_sem] theorem knownA_143 : knownA Try.prog 143 = true := by kernel_rfl
@[go_sem] theorem concA_143 : concA Try.prog 143 = true := by kernel_rfl
@[go_sem] theorem ikA_143 : ikA Try.prog 143 = none := by kernel_rfl
@[go_sem] theorem zeroA_143 : zeroA Try.prog 143 = some [.raw .nilFunc] := by kernel_rfl
@[go_sem] theorem slA_143 : slA Try.prog 143 = none := by kernel_rfl
@[go_sem] theorem tyA_144 : tyA Try.prog 144 = some (false, 1) := by kernel_rfl
@[go_sem] theorem bytesA_144 : bytesA Try.prog 144 = false := by kernel_rfl
@[go_sem] theorem knownA_144 : knownA Try.prog 144 = true := by kernel_rfl
@[go_sem] theorem concA_144 : concA Try.prog 144 = true := by kernel_rfl
@[go_sem] theorem ikA_144 : ikA Try.prog 144 = none := by kernel_rfl
@[go_sem] theorem zeroA_144 : zeroA Try.prog 144 = some [.raw .nilFunc] := by kernel_rfl
@[go_sem] theorem slA_144 : slA Try.prog 144 = none := by kernel_rfl
@[go_sem] theorem tyA_145 : tyA Try.prog 145 = some (false, 1) := by kernel_rfl
@[go_sem] theorem bytesA_145 : bytesA Try.prog 145 = false := by kernel_rfl
@[go_sem] theorem knownA_145 : knownA Try.prog 145 = true := by kernel_rfl
@[go_sem] theorem concA_145 : concA Try.prog 145 = true := by kernel_rfl
@[go_sem] theorem ikA_145 : ikA Try.prog 145 = none := by kernel_rfl
@[go_sem] theorem zeroA_145 : zeroA Try.prog 145 = some [.raw .nilFunc] := by kernel_rfl
@[go_sem] theorem slA_145 : slA Try.prog 145 = none := by kernel_rfl
@[go_sem] theorem tyA_146 : tyA Try.prog 146 = some (false, 1) := by kernel_rfl
@[go_sem] theorem bytesA_146 : bytesA Try.prog 146 = false := by kernel_rfl
@[go_sem] theorem knownA_146 : knownA Try.prog 146 = true := by kernel_rfl
@[go_sem] theorem concA_146 : concA Try.prog 146 = true := by kernel_rfl
@[go_sem] theorem ikA_146 : ikA Try.prog 146 = none := by kernel_rfl
@[go_sem] theorem zeroA_146 : zeroA Try.prog 146 = some [.raw .nilFunc] := by kernel_rfl
@[go_sem] theorem slA_146 : slA Try.prog 146 = none := by kernel_rfl
@[go_sem] theorem tyA_147 : tyA Try.prog 147 = some (false, 1) := by kernel_rfl
@[go_sem] theorem bytesA_147 : bytesA Try.prog 147 = false := by kernel_rfl
@[go_sem] theorem knownA_147 : knownA Try.prog 147 = true := by kernel_rfl
@[go_sem] theorem concA_147 : concA Try.prog 147 = true := by kernel_rfl
@[go_sem] theorem ikA_147 : ikA Try.prog 147 = none := by kernel_rfl
@[go_sem] theorem zeroA_147 : zeroA Try.prog 147 = some [.raw .nilFunc] := by kernel_rfl
@[go_sem] theorem slA_147 : slA Try.prog 147 = none := by kernel_rfl
@[go_sem] theorem tyA_148 : tyA Try.prog 148 = some (false, 1) := by kernel_rfl
@[go_sem] theorem bytesA_148 : bytesA Try.prog 148 = false := by kernel_rfl
@[go_sem] theorem knownA_148 : knownA Try.prog 148 = true := by kernel_rfl
@[go_sem] theorem concA_148 : concA Try.prog 148 = true := by kernel_rfl
@[go_sem] theorem ikA_148 : ikA Try.prog 148 = none := by kernel_rfl
@[go_sem] theorem zeroA_148 : zeroA Try.prog 148 = some [.raw .nilFunc] := by kernel_rfl
@[go_sem] theorem slA_148 : slA Try.prog 148 = none := by kernel_rfl
@[go_sem] theorem tyA_149 : tyA Try.prog 149 = some (true, 3) := by kernel_rfl
@[go_sem] theorem bytesA_149 : bytesA Try.prog 149 = false := by kernel_rfl
@[go_sem] theorem knownA_149 : knownA Try.prog 149 = true := by kernel_rfl
@[go_sem] theorem concA_149 : concA Try.prog 149 = true := by kernel_rfl
@[go_sem] theorem ikA_149 : ikA Try.prog 149 = none := by kernel_rfl
@[go_sem] theorem zeroA_149 : zeroA Try.prog 149 = some [.int .i64 0, .int .i64 0, .int .i64 0] := by kernel_rfl
@[go_sem] theorem slA_149 : slA Try.prog 149 = none := by kernel_rfl
@[go_sem] theorem fsOk_149 : fsOk Try.prog 149 = true := by kernel_rfl
@[go_sem] theorem fldA_149_0 : fldA Try.prog 149 0 = some 0 := by kernel_rfl
@[go_sem] theorem fpA_149_0 : fpA Try.prog 149 0 = some (0, false, 1) := by kernel_rfl
@[go_sem] theorem plA_149_0 : plA Try.prog 149 0 = some (0, 1) := by kernel_rfl
@[go_sem] theorem partTy_149_0 : partTy Try.prog 149 0 = 3 := by kernel_rfl
@[go_sem] theorem fldA_149_1 : fldA Try.prog 149 1 = some 1 := by kernel_rfl
@[go_sem] theorem fpA_149_1 : fpA Try.prog 149 1 = some (1, false, 1) := by kernel_rfl
@[go_sem] theorem plA_149_1 : plA Try.prog 149 1 = some (1, 1) := by kernel_rfl
@[go_sem] theorem partTy_149_1 : partTy Try.prog 149 1 = 3 := by kernel_rfl
@[go_sem] theorem fldA_149_2 : fldA Try.prog 149 2 = some 2 := by kernel_rfl
@[go_sem] theorem fpA_149_2 : fpA Try.prog 149 2 = some (2, false, 1) := by kernel_rfl
@[go_sem] theorem plA_149_2 : plA Try.prog 149 2 = some (2, 1) := by kernel_rfl
@[go_sem] theorem partTy_149_2 : partTy Try.prog 149 2 = 3 := by kernel_rfl
@[go_sem] theorem eqKs_149 : eqKs Try.prog 149 = some [.int .i64, .int .i64, .int .i64] := by kernel_rfl
@[go_sem] theorem tyA_150 : tyA Try.prog 150 = some (true, 3) := by kernel_rfl
@[go_sem] theorem bytesA_150 : bytesA Try.prog 150 = false := by kernel_rfl
@[go_sem] theorem knownA_150 : knownA Try.prog 150 = true := by kernel_rfl
@[go_sem] theorem concA_150 : concA Try.prog 150 = true := by kernel_rfl
@[go_sem] theorem ikA_150 : ikA Try.prog 150 = none := by kernel_rfl
@[go_sem] theorem zeroA_150 : zeroA Try.prog 150 = some [.int .i64 0, .int .i64 0, .int .i64 0] := by kernel_rfl
@[go_sem] theorem slA_150 : slA Try.prog 150 = none := by kernel_rfl
@[go_sem] theorem fsOk_150 : fsOk Try.prog 150 = true := by kernel_rfl
@[go_sem] theorem fldA_150_0 : fldA Try.prog 150 0 = some 0 := by kernel_rfl
@[go_sem] theorem fpA_150_0 : fpA Try.prog 150 0 = some (0, false, 1) := by kernel_rfl
@[go_sem] theorem plA_150_0 : plA Try.prog 150 0 = some (0, 1) := by kernel_rfl
@[go_sem] theorem partTy_150_0 : partTy Try.prog 150 0 = 3 := by kernel_rfl
@[go_sem] theorem fldA_150_1 : fldA Try.prog 150 1 = some 1 := by kernel_rfl
@[go_sem] theorem fpA_150_1 : fpA Try.prog 150 1 = some (1, false, 1) := by kernel_rfl
@[go_sem] theorem plA_150_1 : plA Try.prog 150 1 = some (1, 1) := by kernel_rfl
@[go_sem] theorem partTy_150_1 : partTy Try.prog 150 1 = 3 := by kernel_rfl
@[go_sem] theorem fldA_150_2 : fldA Try.prog 150 2 = some 2 := by kernel_rfl
@[go_sem] theorem fpA_150_2 : fpA Try.prog 150 2 = some (2, false, 1) := by kernel_rfl
@[go_sem] theorem plA_150_2 : plA Try.prog 150 2 = some (2, 1) := by kernel_rfl
@[go_sem] theorem partTy_150_2 : partTy Try.prog 150 2 = 3 := by kernel_rfl
@[go_sem] theorem eqKs_150 : eqKs Try.prog 150 = some [.int .i64, .int .i64, .int .i64] := by kernel_rfl
@[go_sem] theorem tyA_151 : tyA Try.prog 151 = some (false, 1) := by kernel_rfl
@[go_sem] theorem bytesA_151 : bytesA Try.prog 151 = false := by kernel_rfl
@[go_sem] theorem knownA_151 : knownA Try.prog 151 = true := by kernel_rfl
@[go_sem] theorem concA_151 : concA Try.prog 151 = true := by kernel_rfl
@[go_sem] theorem ikA_151 : ikA Try.prog 151 = none := by kernel_rfl
@[go_sem] theorem zeroA_151 : zeroA Try.prog 151 = some [.raw (.pointer none)] := by kernel_rfl
@[go_sem] theorem slA_151 : slA Try.prog 151 = none := by kernel_rfl
@[go_sem] theorem tyA_152 : tyA Try.prog 152 = some (false, 1) := by kernel_rfl
@[go_sem] theorem bytesA_152 : bytesA Try.prog 152 = false := by kernel_rfl
@[go_sem] theorem knownA_152 : knownA Try.prog 152 = true := by kernel_rfl
@[go_sem] theorem concA_152 : concA Try.prog 152 = true := by kernel_rfl
@[go_sem] theorem ikA_152 : ikA Try.prog 152 = none := by kernel_rfl
@[go_sem] theorem zeroA_152 : zeroA Try.prog 152 = some [.raw (.map none)] := by kernel_rfl
@[go_sem] theorem slA_152 : slA Try.prog 152 = none := by kernel_rfl
@[go_sem] theorem tyA_153 : tyA Try.prog 153 = some (true, 12) := by kernel_rfl
@[go_sem] theorem bytesA_153 : bytesA Try.prog 153 = false := by kernel_rfl
@[go_sem] theorem knownA_153 : knownA Try.prog 153 = true := by kernel_rfl
@[go_sem] theorem concA_153 : concA Try.prog 153 = true := by kernel_rfl
@[go_sem] theorem ikA_153 : ikA Try.prog 153 = none := by kernel_rfl
@[go_sem] theorem zeroA_153 : zeroA Try.prog 153 = some [.str [], .int .i64 0, .int .i64 0, .int .i64 0, .int .i64 0, .int .i64 0, .int .i64 0, .int .i64 0, .int .i64 0, .int .i64 0, .sl 3 [] .nil, .raw (.map none)] := by kernel_rfl
@[go_sem] theorem slA_153 : slA Try.prog 153 = none := by kernel_rfl
@[go_sem] theorem fsOk_153 : fsOk Try.prog 153 = true := by kernel_rfl
@[go_sem] theorem fldA_153_0 : fldA Try.prog 153 0 = some 0 := by kernel_rfl
@[go_sem] theorem fpA_153_0 : fpA Try.prog 153 0 = some (0, true, 10) := by kernel_rfl
@[go_sem] theorem plA_153_0 : plA Try.prog 153 0 = some (0, 10) := by kernel_rfl
@[go_sem] theorem partTy_153_0 : partTy Try.prog 153 0 = 60 := by kernel_rfl
@[go_sem] theorem fldA_153_1 : fldA Try.prog 153 1 = some 10 := by kernel_rfl
@[go_sem] theorem fpA_153_1 : fpA Try.prog 153 1 = some (10, false, 1) := by kernel_rfl
@[go_sem] theorem plA_153_1 : plA Try.prog 153 1 = some (10, 1) := by kernel_rfl
@[go_sem] theorem partTy_153_1 : partTy Try.prog 153 1 = 61 := by kernel_rfl
@[go_sem] theorem fldA_153_2 : fldA Try.prog 153 2 = some 11 := by kernel_rfl
@[go_sem] theorem fpA_153_2 : fpA Try.prog 153 2 = some (11, false, 1) := by kernel_rfl
@[go_sem] theorem plA_153_2 : plA Try.prog 153 2 = some (11, 1) := by kernel_rfl
@[go_sem] theorem partTy_153_2 : partTy Try.prog 153 2 = 152 := by kernel_rfl
@[go_sem] theorem tyA_154 : tyA Try.prog 154 = some (true, 12) := by kernel_rfl
@[go_sem] theorem bytesA_154 : bytesA Try.prog 154 = false := by kernel_rfl
@[go_sem] theorem knownA_154 : knownA Try.prog 154 = true := by kernel_rfl
@[go_sem] theorem concA_154 : concA Try.prog 154 = true := by kernel_rfl
@[go_sem] theorem ikA_154 : ikA Try.prog 154 = none := by kernel_rfl
@[go_sem] theorem zeroA_154 : zeroA Try.prog 154 = some [.str [], .int .i64 0, .int .i64 0, .int .i64 0, .int .i64 0, .int .i64 0, .int .i64 0, .int .i64 0, .int .i64 0, .int .i64 0, .sl 3 [] .nil, .raw (.map none)] := by kernel_rfl
@[go_sem] theorem slA_154 : slA Try.prog 154 = none := by kernel_rfl
@[go_sem] theorem fsOk_154 : fsOk Try.prog 154 = true := by kernel_rfl
@[go_sem] theorem fldA_154_0 : fldA Try.prog 154 0 = some 0 := by kernel_rfl
@[go_sem] theorem fpA_154_0 : fpA Try.prog 154 0 = some (0, true, 10) := by kernel_rfl
@[go_sem] theorem plA_154_0 : plA Try.prog 154 0 = some (0, 10) := by kernel_rfl
@[go_sem] theorem partTy_154_0 : partTy Try.prog 154 0 = 60 := by kernel_rfl
@[go_sem] theorem fldA_154_1 : fldA Try.prog 154 1 = some 10 := by kernel_rfl
@[go_sem] theorem fpA_154_1 : fpA Try.prog 154 1 = some (10, false, 1) := by kernel_rfl
@[go_sem] theorem plA_154_1 : plA Try.prog 154 1 = some (10, 1) := by kernel_rfl
@[go_sem] theorem partTy_154_1 : partTy Try.prog 154 1 = 61 := by kernel_rfl
@[go_sem] theorem fldA_154_2 : fldA Try.prog 154 2 = some 11 := by kernel_rfl
@[go_sem] theorem fpA_154_2 : fpA Try.prog 154 2 = some (11, false, 1) := by kernel_rfl
@[go_sem] theorem plA_154_2 : plA Try.prog 154 2 = some (11, 1) := by kernel_rfl
@[go_sem] theorem partTy_154_2 : partTy Try.prog 154 2 = 152 := by kernel_rfl
@[go_sem] theorem tyA_155 : tyA Try.prog 155 = some (false, 1) := by kernel_rfl
@[go_sem] theorem bytesA_155 : bytesA Try.prog 155 = false := by kernel_rfl
@[go_sem] theorem knownA_155 : knownA Try.prog 155 = true := by kernel_rfl
@[go_sem] theorem concA_155 : concA Try.prog 155 = true := by kernel_rfl
@[go_sem] theorem ikA_155 : ikA Try.prog 155 = none := by kernel_rfl
@[go_sem] theorem zeroA_155 : zeroA Try.prog 155 = some [.raw .nilFunc] := by kernel_rfl
@[go_sem] theorem slA_155 : slA Try.prog 155 = none := by kernel_rfl
@[go_sem] theorem tyA_156 : tyA Try.prog 156 = some (false, 1) := by kernel_rfl
@[go_sem] theorem bytesA_156 : bytesA Try.prog 156 = false := by kernel_rfl
@[go_sem] theorem knownA_156 : knownA Try.prog 156 = true := by kernel_rfl
@[go_sem] theorem concA_156 : concA Try.prog 156 = true := by kernel_rfl
@[go_sem] theorem ikA_156 : ikA Try.prog 156 = none := by kernel_rfl
@[go_sem] theorem zeroA_156 : zeroA Try.prog 156 = some [.raw .nilFunc] := by kernel_rfl
@[go_sem] theorem slA_156 : slA Try.prog 156 = none := by kernel_rfl
@[go_sem] theorem tyA_157 : tyA Try.prog 157 = some (false, 1) := by kernel_rfl
@[go_sem] theorem bytesA_157 : bytesA Try.prog 157 = false := by kernel_rfl
@[go_sem] theorem knownA_157 : knownA Try.prog 157 = true := by kernel_rfl
@[go_sem] theorem concA_157 : concA Try.prog 157 = true := by kernel_rfl
@[go_sem] theorem ikA_157 : ikA Try.prog 157 = none := by kernel_rfl
@[go_sem] theorem zeroA_157 : zeroA Try.prog 157 = some [.raw .nilFunc] := by kernel_rfl
@[go_sem] theorem slA_157 : slA Try.prog 157 = none := by kernel_rfl
@[go_sem] theorem tyA_158 : tyA Try.prog 158 = some (false, 1) := by kernel_rfl
@[go_sem] theorem bytesA_158 : bytesA Try.prog 158 = false := by kernel_rfl
@[go_sem] theorem knownA_158 : knownA Try.prog 158 = true := by kernel_rfl
@[go_sem] theorem concA_158 : concA Try.prog 158 = true := by kernel_rfl
@[go_sem] theorem ikA_158 : ikA Try.prog 158 = none := by kernel_rfl
@[go_sem] theorem zeroA_158 : zeroA Try.prog 158 = some [.raw (.map none)] := by kernel_rfl
@[go_sem] theorem slA_158 : slA Try.prog 158 = none := by kernel_rfl
@[go_sem] theorem tyA_160 : tyA Try.prog 160 = some (false, 1) := by kernel_rfl
@[go_sem] theorem bytesA_160 : bytesA Try.prog 160 = false := by kernel_rfl
@[go_sem] theorem knownA_160 : knownA Try.prog 160 = true := by kernel_rfl
@[go_sem] theorem concA_160 : concA Try.prog 160 = true := by kernel_rfl
@[go_sem] theorem ikA_160 : ikA Try.prog 160 = none := by kernel_rfl
@[go_sem] theorem zeroA_160 : zeroA Try.prog 160 = some [.raw .nilFunc] := by kernel_rfl
@[go_sem] theorem slA_160 : slA Try.prog 160 = none := by kernel_rfl
@[go_sem] theorem tyA_161 : tyA Try.prog 161 = some (true, 5) := by kernel_rfl
@[go_sem] theorem bytesA_161 : bytesA Try.prog 161 = false := by kernel_rfl
@[go_sem] theorem knownA_161 : knownA Try.prog 161 = true := by kernel_rfl
@[go_sem] theorem concA_161 : concA Try.prog 161 = true := by kernel_rfl
@[go_sem] theorem ikA_161 : ikA Try.prog 161 = none := by kernel_rfl
@[go_sem] theorem zeroA_161 : zeroA Try.prog 161 = some [.int .i64 0, .int .i64 0, .int .i64 0, .int .i64 0, .int .i64 0] := by kernel_rfl
@[go_sem] theorem slA_161 : slA Try.prog 161 = none := by kernel_rfl
@[go_sem] theorem fsOk_161 : fsOk Try.prog 161 = true := by kernel_rfl
@[go_sem] theorem fldA_161_0 : fldA Try.prog 161 0 = some 0 := by kernel_rfl
@[go_sem] theorem fpA_161_0 : fpA Try.prog 161 0 = some (0, false, 1) := by kernel_rfl
@[go_sem] theorem plA_161_0 : plA Try.prog 161 0 = some (0, 1) := by kernel_rfl
@[go_sem] theorem partTy_161_0 : partTy Try.prog 161 0 = 3 := by kernel_rfl
@[go_sem] theorem fldA_161_1 : fldA Try.prog 161 1 = some 1 := by kernel_rfl
@[go_sem] theorem fpA_161_1 : fpA Try.prog 161 1 = some (1, false, 1) := by kernel_rfl
@[go_sem] theorem plA_161_1 : plA Try.prog 161 1 = some (1, 1) := by kernel_rfl
@[go_sem] theorem partTy_161_1 : partTy Try.prog 161 1 = 3 := by kernel_rfl
@[go_sem] theorem fldA_161_2 : fldA Try.prog 161 2 = some 2 := by kernel_rfl
@[go_sem] theorem fpA_161_2 : fpA Try.prog 161 2 = some (2, false, 1) := by kernel_rfl
@[go_sem] theorem plA_161_2 : plA Try.prog 161 2 = some (2, 1) := by kernel_rfl
@[go_sem] theorem partTy_161_2 : partTy Try.prog 161 2 = 3 := by kernel_rfl
@[go_sem] theorem fldA_161_3 : fldA Try.prog 161 3 = some 3 := by kernel_rfl
@[go_sem] theorem fpA_161_3 : fpA Try.prog 161 3 = some (3, false, 1) := by kernel_rfl
@[go_sem] theorem plA_161_3 : plA Try.prog 161 3 = some (3, 1) := by kernel_rfl
@[go_sem] theorem partTy_161_3 : partTy Try.prog 161 3 = 3 := by kernel_rfl
@[go_sem] theorem fldA_161_4 : fldA Try.prog 161 4 = some 4 := by kernel_rfl
@[go_sem] theorem fpA_161_4 : fpA Try.prog 161 4 = some (4, false, 1) := by kernel_rfl
@[go_sem] theorem plA_161_4 : plA Try.prog 161 4 = some (4, 1) := by kernel_rfl
@[go_sem] theorem partTy_161_4 : partTy Try.prog 161 4 = 3 := by kernel_rfl
@[go_sem] theorem eqKs_161 : eqKs Try.prog 161 = some [.int .i64, .int .i64, .int .i64, .int .i64, .int .i64] := by kernel_rfl
@[go_sem] theorem tyA_162 : tyA Try.prog 162 = some (true, 5) := by kernel_rfl
@[go_sem] theorem bytesA_162 : bytesA Try.prog 162 = false := by kernel_rfl
@[go_sem] theorem knownA_162 : knownA Try.prog 162 = true := by kernel_rfl
@[go_sem] theorem concA_162 : concA Try.prog 162 = true := by kernel_rfl
@[go_sem] theorem ikA_162 : ikA Try.prog 162 = none := by kernel_rfl
@[go_sem] theorem zeroA_162 : zeroA Try.prog 162 = some [.int .i64 0, .int .i64 0, .int .i64 0, .int .i64 0, .int .i64 0] := by kernel_rfl
@[go_sem] theorem slA_162 : slA Try.prog 162 = none := by kernel_rfl
@[go_sem] theorem fsOk_162 : fsOk Try.prog 162 = true := by kernel_rfl
@[go_sem] theorem fldA_162_0 : fldA Try.prog 162 0 = some 0 := by kernel_rfl
@[go_sem] theorem fpA_162_0 : fpA Try.prog 162 0 = some (0, false, 1) := by kernel_rfl
@[go_sem] theorem plA_162_0 : plA Try.prog 162 0 = some (0, 1) := by kernel_rfl
@[go_sem] theorem partTy_162_0 : partTy Try.prog 162 0 = 3 := by kernel_rfl
@[go_sem] theorem fldA_162_1 : fldA Try.prog 162 1 = some 1 := by kernel_rfl
@[go_sem] theorem fpA_162_1 : fpA Try.prog 162 1 = some (1, false, 1) := by kernel_rfl
@[go_sem] theorem plA_162_1 : plA Try.prog 162 1 = some (1, 1) := by kernel_rfl
@[go_sem] theorem partTy_162_1 : partTy Try.prog 162 1 = 3 := by kernel_rfl
@[go_sem] theorem fldA_162_2 : fldA Try.prog 162 2 = some 2 := by kernel_rfl
@[go_sem] theorem fpA_162_2 : fpA Try.prog 162 2 = some (2, false, 1) := by kernel_rfl
@[go_sem] theorem plA_162_2 : plA Try.prog 162 2 = some (2, 1) := by kernel_rfl
@[go_sem] theorem partTy_162_2 : partTy Try.prog 162 2 = 3 := by kernel_rfl
@[go_sem] theorem fldA_162_3 : fldA Try.prog 162 3 = some 3 := by kernel_rfl
@[go_sem] theorem fpA_162_3 : fpA Try.prog 162 3 = some (3, false, 1) := by kernel_rfl
@[go_sem] theorem plA_162_3 : plA Try.prog 162 3 = some (3, 1) := by kernel_rfl
@[go_sem] theorem partTy_162_3 : partTy Try.prog 162 3 = 3 := by kernel_rfl
@[go_sem] theorem fldA_162_4 : fldA Try.prog 162 4 = some 4 := by kernel_rfl
@[go_sem] theorem fpA_162_4 : fpA Try.prog 162 4 = some (4, false, 1) := by kernel_rfl
@[go_sem] theorem plA_162_4 : plA Try.prog 162 4 = some (4, 1) := by kernel_rfl
@[go_sem] theorem partTy_162_4 : partTy Try.prog 162 4 = 3 := by kernel_rfl
@[go_sem] theorem eqKs_162 : eqKs Try.prog 162 = some [.int .i64, .int .i64, .int .i64, .int .i64, .int .i64] := by kernel_rfl
@[go_sem] theorem tyA_163 : tyA Try.prog 163 = some (false, 1) := by kernel_rfl
@[go_sem] theorem bytesA_163 : bytesA Try.prog 163 = false := by kernel_rfl
@[go_sem] theorem knownA_163 : knownA Try.prog 163 = true := by kernel_rfl
@[go_sem] theorem concA_163 : concA Try.prog 163 = true := by kernel_rfl
@[go_sem] theorem ikA_163 : ikA Try.prog 163 = none := by kernel_rfl
@[go_sem] theorem zeroA_163 : zeroA Try.prog 163 = some [.raw (.pointer none)] := by kernel_rfl
@[go_sem] theorem slA_163 : slA Try.prog 163 = none := by kernel_rfl
@[go_sem] theorem tyA_164 : tyA Try.prog 164 = some (false, 1) := by kernel_rfl
@[go_sem] theorem bytesA_164 : bytesA Try.prog 164 = false := by kernel_rfl
@[go_sem] theorem knownA_164 : knownA Try.prog 164 = true := by kernel_rfl
@[go_sem] theorem concA_164 : concA Try.prog 164 = true := by kernel_rfl
@[go_sem] theorem ikA_164 : ikA Try.prog 164 = none := by kernel_rfl
@[go_sem] theorem zeroA_164 : zeroA Try.prog 164 = some [.raw .nilFunc] := by kernel_rfl
@[go_sem] theorem slA_164 : slA Try.prog 164 = none := by kernel_rfl
@[go_sem] theorem tyA_165 : tyA Try.prog 165 = some (true, 5) := by kernel_rfl
@[go_sem] theorem bytesA_165 : bytesA Try.prog 165 = false := by kernel_rfl
@[go_sem] theorem knownA_165 : knownA Try.prog 165 = true := by kernel_rfl
@[go_sem] theorem concA_165 : concA Try.prog 165 = true := by kernel_rfl
@[go_sem] theorem ikA_165 : ikA Try.prog 165 = none := by kernel_rfl
@[go_sem] theorem zeroA_165 : zeroA Try.prog 165 = some [.int .i64 0, .int .i64 0, .int .i64 0, .int .i64 0, .int .i64 0] := by kernel_rfl
@[go_sem] theorem slA_165 : slA Try.prog 165 = none := by kernel_rfl
@[go_sem] theorem fsOk_165 : fsOk Try.prog 165 = true := by kernel_rfl
@[go_sem] theorem fldA_165_0 : fldA Try.prog 165 0 = some 0 := by kernel_rfl
@[go_sem] theorem fpA_165_0 : fpA Try.prog 165 0 = some (0, false, 1) := by kernel_rfl
@[go_sem] theorem plA_165_0 : plA Try.prog 165 0 = some (0, 1) := by kernel_rfl
@[go_sem] theorem partTy_165_0 : partTy Try.prog 165 0 = 3 := by kernel_rfl
@[go_sem] theorem fldA_165_1 : fldA Try.prog 165 1 = some 1 := by kernel_rfl
@[go_sem] theorem fpA_165_1 : fpA Try.prog 165 1 = some (1, false, 1) := by kernel_rfl
@[go_sem] theorem plA_165_1 : plA Try.prog 165 1 = some (1, 1) := by kernel_rfl
@[go_sem] theorem partTy_165_1 : partTy Try.prog 165 1 = 3 := by kernel_rfl
@[go_sem] theorem fldA_165_2 : fldA Try.prog 165 2 = some 2 := by kernel_rfl
@[go_sem] theorem fpA_165_2 : fpA Try.prog 165 2 = some (2, false, 1) := by kernel_rfl
@[go_sem] theorem plA_165_2 : plA Try.prog 165 2 = some (2, 1) := by kernel_rfl
@[go_sem] theorem partTy_165_2 : partTy Try.prog 165 2 = 3 := by kernel_rfl
@[go_sem] theorem fldA_165_3 : fldA Try.prog 165 3 = some 3 := by kernel_rfl
@[go_sem] theorem fpA_165_3 : fpA Try.prog 165 3 = some (3, false, 1) := by kernel_rfl
@[go_sem] theorem plA_165_3 : plA Try.prog 165 3 = some (3, 1) := by kernel_rfl
@[go_sem] theorem partTy_165_3 : partTy Try.prog 165 3 = 3 := by kernel_rfl
@[go_sem] theorem fldA_165_4 : fldA Try.prog 165 4 = some 4 := by kernel_rfl
@[go_sem] theorem fpA_165_4 : fpA Try.prog 165 4 = some (4, false, 1) := by kernel_rfl
@[go_sem] theorem plA_165_4 : plA Try.prog 165 4 = some (4, 1) := by kernel_rfl
@[go_sem] theorem partTy_165_4 : partTy Try.prog 165 4 = 3 := by kernel_rfl
@[go_sem] theorem eqKs_165 : eqKs Try.prog 165 = some [.int .i64, .int .i64, .int .i64, .int .i64, .int .i64] := by kernel_rfl
@[go_sem] theorem tyA_166 : tyA Try.prog 166 = some (false, 1) := by kernel_rfl
@[go_sem] theorem bytesA_166 : bytesA Try.prog 166 = false := by kernel_rfl
@[go_sem] theorem knownA_166 : knownA Try.prog 166 = true := by kernel_rfl
@[go_sem] theorem concA_166 : concA Try.prog 166 = true := by kernel_rfl
@[go_sem] theorem ikA_166 : ikA Try.prog 166 = none := by kernel_rfl
@[go_sem] theorem zeroA_166 : zeroA Try.prog 166 = some [.raw .nilFunc] := by kernel_rfl
@[go_sem] theorem slA_166 : slA Try.prog 166 = none := by kernel_rfl
@[go_sem] theorem tyA_167 : tyA Try.prog 167 = some (false, 1) := by kernel_rfl
@[go_sem] theorem bytesA_167 : bytesA Try.prog 167 = false := by kernel_rfl
@[go_sem] theorem knownA_167 : knownA Try.prog 167 = true := by kernel_rfl
@[go_sem] theorem concA_167 : concA Try.prog 167 = true := by kernel_rfl
@[go_sem] theorem ikA_167 : ikA Try.prog 167 = none := by kernel_rfl
@[go_sem] theorem zeroA_167 : zeroA Try.prog 167 = some [.raw .nilFunc] := by kernel_rfl
@[go_sem] theorem slA_167 : slA Try.prog 167 = none := by kernel_rfl
@[go_sem] theorem tyA_168 : tyA Try.prog 168 = some (false, 1) := by kernel_rfl
@[go_sem] theorem bytesA_168 : bytesA Try.prog 168 = false := by kernel_rfl
@[go_sem] theorem knownA_168 : knownA Try.prog 168 = true := by kernel_rfl
@[go_sem] theorem concA_168 : concA Try.prog 168 = true := by kernel_rfl
@[go_sem] theorem ikA_168 : ikA Try.prog 168 = none := by kernel_rfl
@[go_sem] theorem zeroA_168 : zeroA Try.prog 168 = some [.raw .nilFunc] := by kernel_rfl
@[go_sem] theorem slA_168 : slA Try.prog 168 = none := by kernel_rfl
@[go_sem] theorem tyA_169 : tyA Try.prog 169 = some (false, 1) := by kernel_rfl
@[go_sem] theorem bytesA_169 : bytesA Try.prog 169 = false := by kernel_rfl
@[go_sem] theorem knownA_169 : knownA Try.prog 169 = true := by kernel_rfl
@[go_sem] theorem concA_169 : concA Try.prog 169 = true := by kernel_rfl
@[go_sem] theorem ikA_169 : ikA Try.prog 169 = none := by kernel_rfl
@[go_sem] theorem zeroA_169 : zeroA Try.prog 169 = some [.raw .nilFunc] := by kernel_rfl
@[go_sem] theorem slA_169 : slA Try.prog 169 = none := by kernel_rfl
@[go_sem] theorem tyA_170 : tyA Try.prog 170 = some (true, 7) := by kernel_rfl
@[go_sem] theorem bytesA_170 : bytesA Try.prog 170 = false := by kernel_rfl
@[go_sem] theorem knownA_170 : knownA Try.prog 170 = true := by kernel_rfl
@[go_sem] theorem concA_170 : concA Try.prog 170 = true := by kernel_rfl
@[go_sem] theorem ikA_170 : ikA Try.prog 170 = none := by kernel_rfl
@[go_sem] theorem zeroA_170 : zeroA Try.prog 170 = some [.int .i64 0, .int .i64 0, .int .i64 0, .int .i64 0, .int .i64 0, .int .i64 0, .bool false] := by kernel_rfl
@[go_sem] theorem slA_170 : slA Try.prog 170 = none := by kernel_rfl
@[go_sem] theorem fsOk_170 : fsOk Try.prog 170 = true := by kernel_rfl
@[go_sem] theorem fldA_170_0 : fldA Try.prog 170 0 = some 0 := by kernel_rfl
@[go_sem] theorem fpA_170_0 : fpA Try.prog 170 0 = some (0, false, 1) := by kernel_rfl
@[go_sem] theorem plA_170_0 : plA Try.prog 170 0 = some (0, 1) := by kernel_rfl
@[go_sem] theorem partTy_170_0 : partTy Try.prog 170 0 = 3 := by kernel_rfl
@[go_sem] theorem fldA_170_1 : fldA Try.prog 170 1 = some 1 := by kernel_rfl
@[go_sem] theorem fpA_170_1 : fpA Try.prog 170 1 = some (1, false, 1) := by kernel_rfl
@[go_sem] theorem plA_170_1 : plA Try.prog 170 1 = some (1, 1) := by kernel_rfl
@[go_sem] theorem partTy_170_1 : partTy Try.prog 170 1 = 3 := by kernel_rfl
@[go_sem] theorem fldA_170_2 : fldA Try.prog 170 2 = some 2 := by kernel_rfl
@[go_sem] theorem fpA_170_2 : fpA Try.prog 170 2 = some (2, false, 1) := by kernel_rfl
@[go_sem] theorem plA_170_2 : plA Try.prog 170 2 = some (2, 1) := by kernel_rfl
@[go_sem] theorem partTy_170_2 : partTy Try.prog 170 2 = 3 := by kernel_rfl
@[go_sem] theorem fldA_170_3 : fldA Try.prog 170 3 = some 3 := by kernel_rfl
@[go_sem] theorem fpA_170_3 : fpA Try.prog 170 3 = some (3, false, 1) := by kernel_rfl
@[go_sem] theorem plA_170_3 : plA Try.prog 170 3 = some (3, 1) := by kernel_rfl
@[go_sem] theorem partTy_170_3 : partTy Try.prog 170 3 = 3 := by kernel_rfl
@[go_sem] theorem fldA_170_4 : fldA Try.prog 170 4 = some 4 := by kernel_rfl
@[go_sem] theorem fpA_170_4 : fpA Try.prog 170 4 = some (4, false, 1) := by kernel_rfl
@[go_sem] theorem plA_170_4 : plA Try.prog 170 4 = some (4, 1) := by kernel_rfl
@[go_sem] theorem partTy_170_4 : partTy Try.prog 170 4 = 3 := by kernel_rfl
@[go_sem] theorem fldA_170_5 : fldA Try.prog 170 5 = some 5 := by kernel_rfl
@[go_sem] theorem fpA_170_5 : fpA Try.prog 170 5 = some (5, false, 1) := by kernel_rfl
@[go_sem] theorem plA_170_5 : plA Try.prog 170 5 = some (5, 1) := by kernel_rfl
@[go_sem] theorem partTy_170_5 : partTy Try.prog 170 5 = 3 := by kernel_rfl
@[go_sem] theorem fldA_170_6 : fldA Try.prog 170 6 = some 6 := by kernel_rfl
@[go_sem] theorem fpA_170_6 : fpA Try.prog 170 6 = some (6, false, 1) := by kernel_rfl
@[go_sem] theorem plA_170_6 : plA Try.prog 170 6 = some (6, 1) := by kernel_rfl
@[go_sem] theorem partTy_170_6 : partTy Try.prog 170 6 = 4 := by kernel_rfl
@[go_sem] theorem eqKs_170 : eqKs Try.prog 170 = some [.int .i64, .int .i64, .int .i64, .int .i64, .int .i64, .int .i64, .bool] := by kernel_rfl
@[go_sem] theorem tyA_171 : tyA Try.prog 171 = some (true, 7) := by kernel_rfl
@[go_sem] theorem bytesA_171 : bytesA Try.prog 171 = false := by kernel_rfl
@[go_sem] theorem knownA_171 : knownA Try.prog 171 = true := by kernel_rfl
@[go_sem] theorem concA_171 : concA Try.prog 171 = true := by kernel_rfl
@[go_sem] theorem ikA_171 : ikA Try.prog 171 = none := by kernel_rfl
@[go_sem] theorem zeroA_171 : zeroA Try.prog 171 = some [.int .i64 0, .int .i64 0, .int .i64 0, .int .i64 0, .int .i64 0, .int .i64 0, .bool false] := by kernel_rfl
@[go_sem] theorem slA_171 : slA Try.prog 171 = none := by kernel_rfl
@[go_sem] theorem fsOk_171 : fsOk Try.prog 171 = true := by kernel_rfl
@[go_sem] theorem fldA_171_0 : fldA Try.prog 171 0 = some 0 := by kernel_rfl
@[go_sem] theorem fpA_171_0 : fpA Try.prog 171 0 = some (0, false, 1) := by kernel_rfl
@[go_sem] theorem plA_171_0 : plA Try.prog 171 0 = some (0, 1) := by kernel_rfl
@[go_sem] theorem partTy_171_0 : partTy Try.prog 171 0 = 3 := by kernel_rfl
@[go_sem] theorem fldA_171_1 : fldA Try.prog 171 1 = some 1 := by kernel_rfl
@[go_sem] theorem fpA_171_1 : fpA Try.prog 171 1 = some (1, false, 1) := by kernel_rfl
@[go_sem] theorem plA_171_1 : plA Try.prog 171 1 = some (1, 1) := by kernel_rfl
@[go_sem] theorem partTy_171_1 : partTy Try.prog 171 1 = 3 := by kernel_rfl
@[go_sem] theorem fldA_171_2 : fldA Try.prog 171 2 = some 2 := by kernel_rfl
@[go_sem] theorem fpA_171_2 : fpA Try.prog 171 2 = some (2, false, 1) := by kernel_rfl
@[go_sem] theorem plA_171_2 : plA Try.prog 171 2 = some (2, 1) := by kernel_rfl
@[go_sem] theorem partTy_171_2 : partTy Try.prog 171 2 = 3 := by kernel_rfl
@[go_sem] theorem fldA_171_3 : fldA Try.prog 171 3 = some 3 := by kernel_rfl
@[go_sem] theorem fpA_171_3 : fpA Try.prog 171 3 = some (3, false, 1) := by kernel_rfl
@[go_sem] theorem plA_171_3 : plA Try.prog 171 3 = some (3, 1) := by kernel_rfl
@[go_sem] theorem partTy_171_3 : partTy Try.prog 171 3 = 3 := by kernel_rfl
@[go_sem] theorem fldA_171_4 : fldA Try.prog 171 4 = some 4 := by kernel_rfl
@[go_sem] theorem fpA_171_4 : fpA Try.prog 171 4 = some (4, false, 1) := by kernel_rfl
@[go_sem] theorem plA_171_4 : plA Try.prog 171 4 = some (4, 1) := by kernel_rfl
@[go_sem] theorem partTy_171_4 : partTy Try.prog 171 4 = 3 := by kernel_rfl
@[go_sem] theorem fldA_171_5 : fldA Try.prog 171 5 = some 5 := by kernel_rfl
@[go_sem] theorem fpA_171_5 : fpA Try.prog 171 5 = some (5, false, 1) := by kernel_rfl
@[go_sem] theorem plA_171_5 : plA Try.prog 171 5 = some (5, 1) := by kernel_rfl
@[go_sem] theorem partTy_171_5 : partTy Try.prog 171 5 = 3 := by kernel_rfl
@[go_sem] theorem fldA_171_6 : fldA Try.prog 171 6 = some 6 := by kernel_rfl
@[go_sem] theorem fpA_171_6 : fpA Try.prog 171 6 = some (6, false, 1) := by kernel_rfl
@[go_sem] theorem plA_171_6 : plA Try.prog 171 6 = some (6, 1) := by kernel_rfl
@[go_sem] theorem partTy_171_6 : partTy Try.prog 171 6 = 4 := by kernel_rfl
@[go_sem] theorem eqKs_171 : eqKs Try.prog 171 = some [.int .i64, .int .i64, .int .i64, .int .i64, .int .i64, .int .i64, .bool] := by kernel_rfl
@[go_sem] theorem tyA_172 : tyA Try.prog 172 = some (false, 1) := by kernel_rfl
@[go_sem] theorem bytesA_172 : bytesA Try.prog 172 = false := by kernel_rfl
@[go_sem] theorem knownA_172 : knownA Try.prog 172 = true := by kernel_rfl
@[go_sem] theorem concA_172 : concA Try.prog 172 = true := by kernel_rfl
@[go_sem] theorem ikA_172 : ikA Try.prog 172 = none := by kernel_rfl
@[go_sem] theorem zeroA_172 : zeroA Try.prog 172 = some [.raw .nilFunc] := by kernel_rfl
@[go_sem] theorem slA_172 : slA Try.prog 172 = none := by kernel_rfl
@[go_sem] theorem tyA_173 : tyA Try.prog 173 = some (true, 3) := by kernel_rfl
@[go_sem] theorem bytesA_173 : bytesA Try.prog 173 = false := by kernel_rfl
@[go_sem] theorem knownA_173 : knownA Try.prog 173 = true := by kernel_rfl
@[go_sem] theorem concA_173 : concA Try.prog 173 = true := by kernel_rfl
@[go_sem] theorem ikA_173 : ikA Try.prog 173 = none := by kernel_rfl
@[go_sem] theorem zeroA_173 : zeroA Try.prog 173 = some [.raw .nilFunc, .raw .nilFunc, .raw .nilFunc] := by kernel_rfl
@[go_sem] theorem slA_173 : slA Try.prog 173 = none := by kernel_rfl
@[go_sem] theorem arA_173 : arA Try.prog 173 = some (3, 1) := by kernel_rfl
@[go_sem] theorem avA_173 : avA Try.prog 173 = some (3, false, 1) := by kernel_rfl
@[go_sem] theorem fsOk_173 : fsOk Try.prog 173 = true := by kernel_rfl
@[go_sem] theorem plA_173_0 : plA Try.prog 173 0 = some (0, 1) := by kernel_rfl
@[go_sem] theorem partTy_173_0 : partTy Try.prog 173 0 = 115 := by kernel_rfl
@[go_sem] theorem plA_173_1 : plA Try.prog 173 1 = some (1, 1) := by kernel_rfl
@[go_sem] theorem partTy_173_1 : partTy Try.prog 173 1 = 115 := by kernel_rfl
@[go_sem] theorem plA_173_2 : plA Try.prog 173 2 = some (2, 1) := by kernel_rfl
@[go_sem] theorem partTy_173_2 : partTy Try.prog 173 2 = 115 := by kernel_rfl
@[go_sem] theorem tyA_174 : tyA Try.prog 174 = some (false, 1) := by kernel_rfl
@[go_sem] theorem bytesA_174 : bytesA Try.prog 174 = false := by kernel_rfl
@[go_sem] theorem knownA_174 : knownA Try.prog 174 = true := by kernel_rfl
@[go_sem] theorem concA_174 : concA Try.prog 174 = true := by kernel_rfl
@[go_sem] theorem ikA_174 : ikA Try.prog 174 = none := by kernel_rfl
@[go_sem] theorem zeroA_174 : zeroA Try.prog 174 = some [.raw .nilFunc] := by kernel_rfl
@[go_sem] theorem slA_174 : slA Try.prog 174 = none := by kernel_rfl
@[go_sem] theorem tyA_175 : tyA Try.prog 175 = some (false, 1) := by kernel_rfl
@[go_sem] theorem bytesA_175 : bytesA Try.prog 175 = false := by kernel_rfl
@[go_sem] theorem knownA_175 : knownA Try.prog 175 = true := by kernel_rfl
@[go_sem] theorem concA_175 : concA Try.prog 175 = true := by kernel_rfl
@[go_sem] theorem ikA_175 : ikA Try.prog 175 = none := by kernel_rfl
@[go_sem] theorem zeroA_175 : zeroA Try.prog 175 = some [.raw .nilFunc] := by kernel_rfl
@[go_sem] theorem slA_175 : slA Try.prog 175 = none := by kernel_rfl
@[go_sem] theorem tyA_176 : tyA Try.prog 176 = some (true, 3) := by kernel_rfl
@[go_sem] theorem bytesA_176 : bytesA Try.prog 176 = false := by kernel_rfl
@[go_sem] theorem knownA_176 : knownA Try.prog 176 = true := by kernel_rfl
@[go_sem] theorem concA_176 : concA Try.prog 176 = true := by kernel_rfl
@[go_sem] theorem ikA_176 : ikA Try.prog 176 = none := by kernel_rfl
@[go_sem] theorem zeroA_176 : zeroA Try.prog 176 = some [.int .i64 0, .int .i64 0, .int .i64 0] := by kernel_rfl
@[go_sem] theorem slA_176 : slA Try.prog 176 = none := by kernel_rfl
@[go_sem] theorem eqKs_176 : eqKs Try.prog 176 = some [.int .i64, .int .i64, .int .i64] := by kernel_rfl
@[go_sem] theorem arA_176 : arA Try.prog 176 = some (3, 1) := by kernel_rfl
@[go_sem] theorem avA_176 : avA Try.prog 176 = some (3, false, 1) := by kernel_rfl
@[go_sem] theorem fsOk_176 : fsOk Try.prog 176 = true := by kernel_rfl
@[go_sem] theorem plA_176_0 : plA Try.prog 176 0 = some (0, 1) := by kernel_rfl
@[go_sem] theorem partTy_176_0 : partTy Try.prog 176 0 = 3 := by kernel_rfl
@[go_sem] theorem plA_176_1 : plA Try.prog 176 1 = some (1, 1) := by kernel_rfl
@[go_sem] theorem partTy_176_1 : partTy Try.prog 176 1 = 3 := by kernel_rfl
@[go_sem] theorem plA_176_2 : plA Try.prog 176 2 = some (2, 1) := by kernel_rfl
@[go_sem] theorem partTy_176_2 : partTy Try.prog 176 2 = 3 := by kernel_rfl
@[go_sem] theorem tyA_177 : tyA Try.prog 177 = some (false, 1) := by kernel_rfl
@[go_sem] theorem bytesA_177 : bytesA Try.prog 177 = false := by kernel_rfl
@[go_sem] theorem knownA_177 : knownA Try.prog 177 = true := by kernel_rfl
@[go_sem] theorem concA_177 : concA Try.prog 177 = true := by kernel_rfl
@[go_sem] theorem ikA_177 : ikA Try.prog 177 = none := by kernel_rfl
@[go_sem] theorem zeroA_177 : zeroA Try.prog 177 = some [.sl 3 [] .nil] := by kernel_rfl
@[go_sem] theorem slA_177 : slA Try.prog 177 = some 3 := by kernel_rfl
@[go_sem] theorem mkA_177 : mkA Try.prog 177 = some ([.int .i64 0, .int .i64 0, .int .i64 0], 24) := by kernel_rfl
@[go_sem] theorem apA_177 : apA Try.prog 177 = some (3, 24) := by kernel_rfl
@[go_sem] theorem partTy_177 (i : Nat) : partTy Try.prog 177 i = 176 := rfl_of_partTy (by kernel_rfl)
@[go_sem] theorem tyA_178 : tyA Try.prog 178 = some (true, 3) := by kernel_rfl
@[go_sem] theorem bytesA_178 : bytesA Try.prog 178 = false := by kernel_rfl
@[go_sem] theorem knownA_178 : knownA Try.prog 178 = true := by kernel_rfl
@[go_sem] theorem concA_178 : concA Try.prog 178 = true := by kernel_rfl
@[go_sem] theorem ikA_178 : ikA Try.prog 178 = none := by kernel_rfl
@[go_sem] theorem zeroA_178 : zeroA Try.prog 178 = some [.int .i64 0, .int .i64 0, .bool false] := by kernel_rfl
@[go_sem] theorem slA_178 : slA Try.prog 178 = none := by kernel_rfl
@[go_sem] theorem fsOk_178 : fsOk Try.prog 178 = true := by kernel_rfl
@[go_sem] theorem fldA_178_0 : fldA Try.prog 178 0 = some 0 := by kernel_rfl
@[go_sem] theorem fpA_178_0 : fpA Try.prog 178 0 = some (0, false, 1) := by kernel_rfl
@[go_sem] theorem plA_178_0 : plA Try.prog 178 0 = some (0, 1) := by kernel_rfl
@[go_sem] theorem partTy_178_0 : partTy Try.prog 178 0 = 3 := by kernel_rfl
@[go_sem] theorem fldA_178_1 : fldA Try.prog 178 1 = some 1 := by kernel_rfl
@[go_sem] theorem fpA_178_1 : fpA Try.prog 178 1 = some (1, false, 1) := by kernel_rfl
@[go_sem] theorem plA_178_1 : plA Try.prog 178 1 = some (1, 1) := by kernel_rfl
@[go_sem] theorem partTy_178_1 : partTy Try.prog 178 1 = 3 := by kernel_rfl
@[go_sem] theorem fldA_178_2 : fldA Try.prog 178 2 = some 2 := by kernel_rfl
@[go_sem] theorem fpA_178_2 : fpA Try.prog 178 2 = some (2, false, 1) := by kernel_rfl
@[go_sem] theorem plA_178_2 : plA Try.prog 178 2 = some (2, 1) := by kernel_rfl
@[go_sem] theorem partTy_178_2 : partTy Try.prog 178 2 = 4 := by kernel_rfl
@[go_sem] theorem eqKs_178 : eqKs Try.prog 178 = some [.int .i64, .int .i64, .bool] := by kernel_rfl
@[go_sem] theorem tyA_179 : tyA Try.prog 179 = some (true, 3) := by kernel_rfl
@[go_sem] theorem bytesA_179 : bytesA Try.prog 179 = false := by kernel_rfl
@[go_sem] theorem knownA_179 : knownA Try.prog 179 = true := by kernel_rfl
@[go_sem] theorem concA_179 : concA Try.prog 179 = true := by kernel_rfl
@[go_sem] theorem ikA_179 : ikA Try.prog 179 = none := by kernel_rfl
@[go_sem] theorem zeroA_179 : zeroA Try.prog 179 = some [.int .i64 0, .int .i64 0, .bool false] := by kernel_rfl
@[go_sem] theorem slA_179 : slA Try.prog 179 = none := by kernel_rfl
@[go_sem] theorem fsOk_179 : fsOk Try.prog 179 = true := by kernel_rfl
@[go_sem] theorem fldA_179_0 : fldA Try.prog 179 0 = some 0 := by kernel_rfl
@[go_sem] theorem fpA_179_0 : fpA Try.prog 179 0 = some (0, false, 1) := by kernel_rfl
@[go_sem] theorem plA_179_0 : plA Try.prog 179 0 = some (0, 1) := by kernel_rfl
@[go_sem] theorem partTy_179_0 : partTy Try.prog 179 0 = 3 := by kernel_rfl
@[go_sem] theorem fldA_179_1 : fldA Try.prog 179 1 = some 1 := by kernel_rfl
@[go_sem] theorem fpA_179_1 : fpA Try.prog 179 1 = some (1, false, 1) := by kernel_rfl
@[go_sem] theorem plA_179_1 : plA Try.prog 179 1 = some (1, 1) := by kernel_rfl
@[go_sem] theorem partTy_179_1 : partTy Try.prog 179 1 = 3 := by kernel_rfl
@[go_sem] theorem fldA_179_2 : fldA Try.prog 179 2 = some 2 := by kernel_rfl
@[go_sem] theorem fpA_179_2 : fpA Try.prog 179 2 = some (2, false, 1) := by kernel_rfl
@[go_sem] theorem plA_179_2 : plA Try.prog 179 2 = some (2, 1) := by kernel_rfl
@[go_sem] theorem partTy_179_2 : partTy Try.prog 179 2 = 4 := by kernel_rfl
@[go_sem] theorem eqKs_179 : eqKs Try.prog 179 = some [.int .i64, .int .i64, .bool] := by kernel_rfl
@[go_sem] theorem tyA_180 : tyA Try.prog 180 = some (true, 15) := by kernel_rfl
@[go_sem] theorem bytesA_180 : bytesA Try.prog 180 = false := by kernel_rfl
@[go_sem] theorem knownA_180 : knownA Try.prog 180 = true := by kernel_rfl
@[go_sem] theorem concA_180 : concA Try.prog 180 = true := by kernel_rfl
@[go_sem] theorem ikA_180 : ikA Try.prog 180 = none := by kernel_rfl
@[go_sem] theorem zeroA_180 : zeroA Try.prog 180 = some [.str [], .int .i64 0, .int .i64 0, .int .i64 0, .int .i64 0, .int .i64 0, .int .i64 0, .int .i64 0, .int .i64 0, .int .i64 0, .sl 3 [] .nil, .sl 1 [] .nil, .int .i64 0, .int .i64 0, .raw (.map none)] := by kernel_rfl
@[go_sem] theorem slA_180 : slA Try.prog 180 = none := by kernel_rfl
@[go_sem] theorem fsOk_180 : fsOk Try.prog 180 = true := by kernel_rfl
@[go_sem] theorem fldA_180_0 : fldA Try.prog 180 0 = some 0 := by kernel_rfl
@[go_sem] theorem fpA_180_0 : fpA Try.prog 180 0 = some (0, true, 10) := by kernel_rfl
@[go_sem] theorem plA_180_0 : plA Try.prog 180 0 = some (0, 10) := by kernel_rfl
@[go_sem] theorem partTy_180_0 : partTy Try.prog 180 0 = 60 := by kernel_rfl
@[go_sem] theorem fldA_180_1 : fldA Try.prog 180 1 = some 10 := by kernel_rfl
@[go_sem] theorem fpA_180_1 : fpA Try.prog 180 1 = some (10, false, 1) := by kernel_rfl
@[go_sem] theorem plA_180_1 : plA Try.prog 180 1 = some (10, 1) := by kernel_rfl
@[go_sem] theorem partTy_180_1 : partTy Try.prog 180 1 = 61 := by kernel_rfl
@[go_sem] theorem fldA_180_2 : fldA Try.prog 180 2 = some 11 := by kernel_rfl
@[go_sem] theorem fpA_180_2 : fpA Try.prog 180 2 = some (11, false, 1) := by kernel_rfl
@[go_sem] theorem plA_180_2 : plA Try.prog 180 2 = some (11, 1) := by kernel_rfl
@[go_sem] theorem partTy_180_2 : partTy Try.prog 180 2 = 56 := by kernel_rfl
@[go_sem] theorem fldA_180_3 : fldA Try.prog 180 3 = some 12 := by kernel_rfl
@[go_sem] theorem fpA_180_3 : fpA Try.prog 180 3 = some (12, false, 1) := by kernel_rfl
@[go_sem] theorem plA_180_3 : plA Try.prog 180 3 = some (12, 1) := by kernel_rfl
@[go_sem] theorem partTy_180_3 : partTy Try.prog 180 3 = 3 := by kernel_rfl
@[go_sem] theorem fldA_180_4 : fldA Try.prog 180 4 = some 13 := by kernel_rfl
@[go_sem] theorem fpA_180_4 : fpA Try.prog 180 4 = some (13, false, 1) := by kernel_rfl
@[go_sem] theorem plA_180_4 : plA Try.prog 180 4 = some (13, 1) := by kernel_rfl
@[go_sem] theorem partTy_180_4 : partTy Try.prog 180 4 = 3 := by kernel_rfl
@[go_sem] theorem fldA_180_5 : fldA Try.prog 180 5 = some 14 := by kernel_rfl
@[go_sem] theorem fpA_180_5 : fpA Try.prog 180 5 = some (14, false, 1) := by kernel_rfl
@[go_sem] theorem plA_180_5 : plA Try.prog 180 5 = some (14, 1) := by kernel_rfl
@[go_sem] theorem partTy_180_5 : partTy Try.prog 180 5 = 152 := by kernel_rfl
@[go_sem] theorem tyA_181 : tyA Try.prog 181 = some (true, 15) := by kernel_rfl
@[go_sem] theorem bytesA_181 : bytesA Try.prog 181 = false := by kernel_rfl
@[go_sem] theorem knownA_181 : knownA Try.prog 181 = true := by kernel_rfl
@[go_sem] theorem concA_181 : concA Try.prog 181 = true := by kernel_rfl
@[go_sem] theorem ikA_181 : ikA Try.prog 181 = none := by kernel_rfl
@[go_sem] theorem zeroA_181 : zeroA Try.prog 181 = some [.str [], .int .i64 0, .int .i64 0, .int .i64 0, .int .i64 0, .int .i64 0, .int .i64 0, .int .i64 0, .int .i64 0, .int .i64 0, .sl 3 [] .nil, .sl 1 [] .nil, .int .i64 0, .int .i64 0, .raw (.map none)] := by kernel_rfl
@[go_sem] theorem slA_181 : slA Try.prog 181 = none := by kernel_rfl
@[go_sem] theorem fsOk_181 : fsOk Try.prog 181 = true := by kernel_rfl
@[go_sem] theorem fldA_181_0 : fldA Try.prog 181 0 = some 0 := by kernel_rfl
@[go_sem] theorem fpA_181_0 : fpA Try.prog 181 0 = some (0, true, 10) := by kernel_rfl
@[go_sem] theorem plA_181_0 : plA Try.prog 181 0 = some (0, 10) := by kernel_rfl
@[go_sem] theorem partTy_181_0 : partTy Try.prog 181 0 = 60 := by kernel_rfl
@[go_sem] theorem fldA_181_1 : fldA Try.prog 181 1 = some 10 := by kernel_rfl
@[go_sem] theorem fpA_181_1 : fpA Try.prog 181 1 = some (10, false, 1) := by kernel_rfl
@[go_sem] theorem plA_181_1 : plA Try.prog 181 1 = some (10, 1) := by kernel_rfl
@[go_sem] theorem partTy_181_1 : partTy Try.prog 181 1 = 61 := by kernel_rfl
@[go_sem] theorem fldA_181_2 : fldA Try.prog 181 2 = some 11 := by kernel_rfl
@[go_sem] theorem fpA_181_2 : fpA Try.prog 181 2 = some (11, false, 1) := by kernel_rfl
@[go_sem] theorem plA_181_2 : plA Try.prog 181 2 = some (11, 1) := by kernel_rfl
@[go_sem] theorem partTy_181_2 : partTy Try.prog 181 2 = 56 := by kernel_rfl
@[go_sem] theorem fldA_181_3 : fldA Try.prog 181 3 = some 12 := by kernel_rfl
@[go_sem] theorem fpA_181_3 : fpA Try.prog 181 3 = some (12, false, 1) := by kernel_rfl
@[go_sem] theorem plA_181_3 : plA Try.prog 181 3 = some (12, 1) := by kernel_rfl
@[go_sem] theorem partTy_181_3 : partTy Try.prog 181 3 = 3 := by kernel_rfl
@[go_sem] theorem fldA_181_4 : fldA Try.prog 181 4 = some 13 := by kernel_rfl
@[go_sem] theorem fpA_181_4 : fpA Try.prog 181 4 = some (13, false, 1) := by kernel_rfl
@[go_sem] theorem plA_181_4 : plA Try.prog 181 4 = some (13, 1) := by kernel_rfl
@[go_sem] theorem partTy_181_4 : partTy Try.prog 181 4 = 3 := by kernel_rfl
@[go_sem] theorem fldA_181_5 : fldA Try.prog 181 5 = some 14 := by kernel_rfl
@[go_sem] theorem fpA_181_5 : fpA Try.prog 181 5 = some (14, false, 1) := by kernel_rfl
@[go_sem] theorem plA_181_5 : plA Try.prog 181 5 = some (14, 1) := by kernel_rfl
@[go_sem] theorem partTy_181_5 : partTy Try.prog 181 5 = 152 := by kernel_rfl
@[go_sem] theorem tyA_182 : tyA Try.prog 182 = some (false, 1) := by kernel_rfl
@[go_sem] theorem bytesA_182 : bytesA Try.prog 182 = false := by kernel_rfl
@[go_sem] theorem knownA_182 : knownA Try.prog 182 = true := by kernel_rfl
@[go_sem] theorem concA_182 : concA Try.prog 182 = true := by kernel_rfl
@[go_sem] theorem ikA_182 : ikA Try.prog 182 = none := by kernel_rfl
@[go_sem] theorem zeroA_182 : zeroA Try.prog 182 = some [.raw .nilFunc] := by kernel_rfl
@[go_sem] theorem slA_182 : slA Try.prog 182 = none := by kernel_rfl
@[go_sem] theorem tyA_183 : tyA Try.prog 183 = some (false, 1) := by kernel_rfl
@[go_sem] theorem bytesA_183 : bytesA Try.prog 183 = false := by kernel_rfl
@[go_sem] theorem knownA_183 : knownA Try.prog 183 = true := by kernel_rfl
@[go_sem] theorem concA_183 : concA Try.prog 183 = true := by kernel_rfl
@[go_sem] theorem ikA_183 : ikA Try.prog 183 = none := by kernel_rfl
@[go_sem] theorem zeroA_183 : zeroA Try.prog 183 = some [.raw .nilFunc] := by kernel_rfl
@[go_sem] theorem slA_183 : slA Try.prog 183 = none := by kernel_rfl
@[go_sem] theorem tyA_184 : tyA Try.prog 184 = some (false, 1) := by kernel_rfl
@[go_sem] theorem bytesA_184 : bytesA Try.prog 184 = false := by kernel_rfl
@[go_sem] theorem knownA_184 : knownA Try.prog 184 = true := by kernel_rfl
@[go_sem] theorem concA_184 : concA Try.prog 184 = true := by kernel_rfl
@[go_sem] theorem ikA_184 : ikA Try.prog 184 = none := by kernel_rfl
@[go_sem] theorem zeroA_184 : zeroA Try.prog 184 = some [.raw .nilFunc] := by kernel_rfl
@[go_sem] theorem slA_184 : slA Try.prog 184 = none := by kernel_rfl
@[go_sem] theorem tyA_185 : tyA Try.prog 185 = some (false, 1) := by kernel_rfl
@[go_sem] theorem bytesA_185 : bytesA Try.prog 185 = false := by kernel_rfl
@[go_sem] theorem knownA_185 : knownA Try.prog 185 = true := by kernel_rfl
@[go_sem] theorem concA_185 : concA Try.prog 185 = true := by kernel_rfl
@[go_sem] theorem ikA_185 : ikA Try.prog 185 = none := by kernel_rfl
@[go_sem] theorem zeroA_185 : zeroA Try.prog 185 = some [.raw .nilFunc] := by kernel_rfl
@[go_sem] theorem slA_185 : slA Try.prog 185 = none := by kernel_rfl
@[go_sem] theorem tyA_186 : tyA Try.prog 186 = some (false, 1) := by kernel_rfl
@[go_sem] theorem bytesA_186 : bytesA Try.prog 186 = true := by kernel_rfl
@[go_sem] theorem knownA_186 : knownA Try.prog 186 = true := by kernel_rfl
@[go_sem] theorem concA_186 : concA Try.prog 186 = true := by kernel_rfl
@[go_sem] theorem ikA_186 : ikA Try.prog 186 = none := by kernel_rfl
@[go_sem] theorem zeroA_186 : zeroA Try.prog 186 = some [.sl 1 [] .nil] := by kernel_rfl
@[go_sem] theorem slA_186 : slA Try.prog 186 = some 1 := by kernel_rfl
@[go_sem] theorem mkA_186 : mkA Try.prog 186 = some ([.int .u8 0], 1) := by kernel_rfl
@[go_sem] theorem apA_186 : apA Try.prog 186 = some (1, 1) := by kernel_rfl
@[go_sem] theorem partTy_186 (i : Nat) : partTy Try.prog 186 i = 5 := rfl_of_partTy (by kernel_rfl)
@[go_sem] theorem tyA_187 : tyA Try.prog 187 = some (false, 1) := by kernel_rfl
@[go_sem] theorem bytesA_187 : bytesA Try.prog 187 = false := by kernel_rfl
@[go_sem] theorem knownA_187 : knownA Try.prog 187 = true := by kernel_rfl
@[go_sem] theorem concA_187 : concA Try.prog 187 = true := by kernel_rfl
@[go_sem] theorem ikA_187 : ikA Try.prog 187 = none := by kernel_rfl
@[go_sem] theorem zeroA_187 : zeroA Try.prog 187 = some [.raw .nilFunc] := by kernel_rfl
@[go_sem] theorem slA_187 : slA Try.prog 187 = none := by kernel_rfl
@[go_sem] theorem tyA_188 : tyA Try.prog 188 = some (false, 1) := by kernel_rfl
@[go_sem] theorem bytesA_188 : bytesA Try.prog 188 = false := by kernel_rfl
@[go_sem] theorem knownA_188 : knownA Try.prog 188 = true := by kernel_rfl
@[go_sem] theorem concA_188 : concA Try.prog 188 = true := by kernel_rfl
@[go_sem] theorem ikA_188 : ikA Try.prog 188 = none := by kernel_rfl
@[go_sem] theorem zeroA_188 : zeroA Try.prog 188 = some [.raw (.map none)] := by kernel_rfl
@[go_sem] theorem slA_188 : slA Try.prog 188 = none := by kernel_rfl
@[go_sem] theorem tyA_189 : tyA Try.prog 189 = some (true, 4) := by kernel_rfl
@[go_sem] theorem bytesA_189 : bytesA Try.prog 189 = false := by kernel_rfl
@[go_sem] theorem knownA_189 : knownA Try.prog 189 = true := by kernel_rfl
@[go_sem] theorem concA_189 : concA Try.prog 189 = true := by kernel_rfl
@[go_sem] theorem ikA_189 : ikA Try.prog 189 = none := by kernel_rfl
@[go_sem] theorem zeroA_189 : zeroA Try.prog 189 = some [.int .i64 0, .int .i64 0, .int .i64 0, .int .i64 0] := by kernel_rfl
@[go_sem] theorem slA_189 : slA Try.prog 189 = none := by kernel_rfl
@[go_sem] theorem fsOk_189 : fsOk Try.prog 189 = true := by kernel_rfl
@[go_sem] theorem fldA_189_0 : fldA Try.prog 189 0 = some 0 := by kernel_rfl
@[go_sem] theorem fpA_189_0 : fpA Try.prog 189 0 = some (0, false, 1) := by kernel_rfl
@[go_sem] theorem plA_189_0 : plA Try.prog 189 0 = some (0, 1) := by kernel_rfl
@[go_sem] theorem partTy_189_0 : partTy Try.prog 189 0 = 3 := by kernel_rfl
@[go_sem] theorem fldA_189_1 : fldA Try.prog 189 1 = some 1 := by kernel_rfl
@[go_sem] theorem fpA_189_1 : fpA Try.prog 189 1 = some (1, false, 1) := by kernel_rfl
@[go_sem] theorem plA_189_1 : plA Try.prog 189 1 = some (1, 1) := by kernel_rfl
@[go_sem] theorem partTy_189_1 : partTy Try.prog 189 1 = 3 := by kernel_rfl
@[go_sem] theorem fldA_189_2 : fldA Try.prog 189 2 = some 2 := by kernel_rfl
@[go_sem] theorem fpA_189_2 : fpA Try.prog 189 2 = some (2, false, 1) := by kernel_rfl
@[go_sem] theorem plA_189_2 : plA Try.prog 189 2 = some (2, 1) := by kernel_rfl
@[go_sem] theorem partTy_189_2 : partTy Try.prog 189 2 = 3 := by kernel_rfl
@[go_sem] theorem fldA_189_3 : fldA Try.prog 189 3 = some 3 := by kernel_rfl
@[go_sem] theorem fpA_189_3 : fpA Try.prog 189 3 = some (3, false, 1) := by kernel_rfl
@[go_sem] theorem plA_189_3 : plA Try.prog 189 3 = some (3, 1) := by kernel_rfl
@[go_sem] theorem partTy_189_3 : partTy Try.prog 189 3 = 3 := by kernel_rfl
@[go_sem] theorem eqKs_189 : eqKs Try.prog 189 = some [.int .i64, .int .i64, .int .i64, .int .i64] := by kernel_rfl
@[go_sem] theorem tyA_190 : tyA Try.prog 190 = some (true, 4) := by kernel_rfl
@[go_sem] theorem bytesA_190 : bytesA Try.prog 190 = false := by kernel_rfl
@[go_sem] theorem knownA_190 : knownA Try.prog 190 = true := by kernel_rfl
@[go_sem] theorem concA_190 : concA Try.prog 190 = true := by kernel_rfl
@[go_sem] theorem ikA_190 : ikA Try.prog 190 = none := by kernel_rfl
@[go_sem] theorem zeroA_190 : zeroA Try.prog 190 = some [.int .i64 0, .int .i64 0, .int .i64 0, .int .i64 0] := by kernel_rfl
@[go_sem] theorem slA_190 : slA Try.prog 190 = none := by kernel_rfl
@[go_sem] theorem fsOk_190 : fsOk Try.prog 190 = true := by kernel_rfl
@[go_sem] theorem fldA_190_0 : fldA Try.prog 190 0 = some 0 := by kernel_rfl
@[go_sem] theorem fpA_190_0 : fpA Try.prog 190 0 = some (0, false, 1) := by kernel_rfl
@[go_sem] theorem plA_190_0 : plA Try.prog 190 0 = some (0, 1) := by kernel_rfl
@[go_sem] theorem partTy_190_0 : partTy Try.prog 190 0 = 3 := by kernel_rfl
@[go_sem] theorem fldA_190_1 : fldA Try.prog 190 1 = some 1 := by kernel_rfl
@[go_sem] theorem fpA_190_1 : fpA Try.prog 190 1 = some (1, false, 1) := by kernel_rfl
@[go_sem] theorem plA_190_1 : plA Try.prog 190 1 = some (1, 1) := by kernel_rfl
@[go_sem] theorem partTy_190_1 : partTy Try.prog 190 1 = 3 := by kernel_rfl
@[go_sem] theorem fldA_190_2 : fldA Try.prog 190 2 = some 2 := by kernel_rfl
@[go_sem] theorem fpA_190_2 : fpA Try.prog 190 2 = some (2, false, 1) := by kernel_rfl
@[go_sem] theorem plA_190_2 : plA Try.prog 190 2 = some (2, 1) := by kernel_rfl
@[go_sem] theorem partTy_190_2 : partTy Try.prog 190 2 = 3 := by kernel_rfl
@[go_sem] theorem fldA_190_3 : fldA Try.prog 190 3 = some 3 := by kernel_rfl
@[go_sem] theorem fpA_190_3 : fpA Try.prog 190 3 = some (3, false, 1) := by kernel_rfl
@[go_sem] theorem plA_190_3 : plA Try.prog 190 3 = some (3, 1) := by kernel_rfl
@[go_sem] theorem partTy_190_3 : partTy Try.prog 190 3 = 3 := by kernel_rfl
@[go_sem] theorem eqKs_190 : eqKs Try.prog 190 = some [.int .i64, .int .i64, .int .i64, .int .i64] := by kernel_rfl
@[go_sem] theorem tyA_191 : tyA Try.prog 191 = some (true, 2) := by kernel_rfl
@[go_sem] theorem bytesA_191 : bytesA Try.prog 191 = false := by kernel_rfl
@[go_sem] theorem knownA_191 : knownA Try.prog 191 = true := by kernel_rfl
@[go_sem] theorem concA_191 : concA Try.prog 191 = true := by kernel_rfl
@[go_sem] theorem ikA_191 : ikA Try.prog 191 = none := by kernel_rfl
@[go_sem] theorem zeroA_191 : zeroA Try.prog 191 = some [.int .i64 0, .int .i64 0] := by kernel_rfl
@[go_sem] theorem slA_191 : slA Try.prog 191 = none := by kernel_rfl
@[go_sem] theorem fsOk_191 : fsOk Try.prog 191 = true := by kernel_rfl
@[go_sem] theorem fldA_191_0 : fldA Try.prog 191 0 = some 0 := by kernel_rfl
@[go_sem] theorem fpA_191_0 : fpA Try.prog 191 0 = some (0, false, 1) := by kernel_rfl
@[go_sem] theorem plA_191_0 : plA Try.prog 191 0 = some (0, 1) := by kernel_rfl
@[go_sem] theorem partTy_191_0 : partTy Try.prog 191 0 = 3 := by kernel_rfl
@[go_sem] theorem fldA_191_1 : fldA Try.prog 191 1 = some 1 := by kernel_rfl
@[go_sem] theorem fpA_191_1 : fpA Try.prog 191 1 = some (1, false, 1) := by kernel_rfl
@[go_sem] theorem plA_191_1 : plA Try.prog 191 1 = some (1, 1) := by kernel_rfl
@[go_sem] theorem partTy_191_1 : partTy Try.prog 191 1 = 3 := by kernel_rfl
@[go_sem] theorem eqKs_191 : eqKs Try.prog 191 = some [.int .i64, .int .i64] := by kernel_rfl
@[go_sem] theorem tyA_192 : tyA Try.prog 192 = some (true, 2) := by kernel_rfl
@[go_sem] theorem bytesA_192 : bytesA Try.prog 192 = false := by kernel_rfl
@[go_sem] theorem knownA_192 : knownA Try.prog 192 = true := by kernel_rfl
@[go_sem] theorem concA_192 : concA Try.prog 192 = true := by kernel_rfl
@[go_sem] theorem ikA_192 : ikA Try.prog 192 = none := by kernel_rfl
@[go_sem] theorem zeroA_192 : zeroA Try.prog 192 = some [.int .i64 0, .int .i64 0] := by kernel_rfl
@[go_sem] theorem slA_192 : slA Try.prog 192 = none := by kernel_rfl
@[go_sem] theorem fsOk_192 : fsOk Try.prog 192 = true := by kernel_rfl
@[go_sem] theorem fldA_192_0 : fldA Try.prog 192 0 = some 0 := by kernel_rfl
@[go_sem] theorem fpA_192_0 : fpA Try.prog 192 0 = some (0, false, 1) := by kernel_rfl
@[go_sem] theorem plA_192_0 : plA Try.prog 192 0 = some (0, 1) := by kernel_rfl
@[go_sem] theorem partTy_192_0 : partTy Try.prog 192 0 = 3 := by kernel_rfl
@[go_sem] theorem fldA_192_1 : fldA Try.prog 192 1 = some 1 := by kernel_rfl
@[go_sem] theorem fpA_192_1 : fpA Try.prog 192 1 = some (1, false, 1) := by kernel_rfl
@[go_sem] theorem plA_192_1 : plA Try.prog 192 1 = some (1, 1) := by kernel_rfl
@[go_sem] theorem partTy_192_1 : partTy Try.prog 192 1 = 3 := by kernel_rfl
@[go_sem] theorem eqKs_192 : eqKs Try.prog 192 = some [.int .i64, .int .i64] := by kernel_rfl
@[go_sem] theorem tyA_193 : tyA Try.prog 193 = some (false, 1) := by kernel_rfl
@[go_sem] theorem bytesA_193 : bytesA Try.prog 193 = false := by kernel_rfl
@[go_sem] theorem knownA_193 : knownA Try.prog 193 = true := by kernel_rfl
@[go_sem] theorem concA_193 : concA Try.prog 193 = true := by kernel_rfl
@[go_sem] theorem ikA_193 : ikA Try.prog 193 = none := by kernel_rfl
@[go_sem] theorem zeroA_193 : zeroA Try.prog 193 = some [.raw .nilFunc] := by kernel_rfl
@[go_sem] theorem slA_193 : slA Try.prog 193 = none := by kernel_rfl
@[go_sem] theorem tyA_194 : tyA Try.prog 194 = some (false, 1) := by kernel_rfl
@[go_sem] theorem bytesA_194 : bytesA Try.prog 194 = false := by kernel_rfl
@[go_sem] theorem knownA_194 : knownA Try.prog 194 = true := by kernel_rfl
@[go_sem] theorem concA_194 : concA Try.prog 194 = true := by kernel_rfl
@[go_sem] theorem ikA_194 : ikA Try.prog 194 = none := by kernel_rfl
@[go_sem] theorem zeroA_194 : zeroA Try.prog 194 = some [.raw .nilFunc] := by kernel_rfl
@[go_sem] theorem slA_194 : slA Try.prog 194 = none := by kernel_rfl
@[go_sem] theorem tyA_195 : tyA Try.prog 195 = some (true, 2) := by kernel_rfl
@[go_sem] theorem bytesA_195 : bytesA Try.prog 195 = false := by kernel_rfl
@[go_sem] theorem knownA_195 : knownA Try.prog 195 = true := by kernel_rfl
@[go_sem] theorem concA_195 : concA Try.prog 195 = true := by kernel_rfl
@[go_sem] theorem ikA_195 : ikA Try.prog 195 = none := by kernel_rfl
@[go_sem] theorem zeroA_195 : zeroA Try.prog 195 = some [.int .i64 0, .int .i64 0] := by kernel_rfl
@[go_sem] theorem slA_195 : slA Try.prog 195 = none := by kernel_rfl
@[go_sem] theorem fsOk_195 : fsOk Try.prog 195 = true := by kernel_rfl
@[go_sem] theorem fldA_195_0 : fldA Try.prog 195 0 = some 0 := by kernel_rfl
@[go_sem] theorem fpA_195_0 : fpA Try.prog 195 0 = some (0, false, 1) := by kernel_rfl
@[go_sem] theorem plA_195_0 : plA Try.prog 195 0 = some (0, 1) := by kernel_rfl
@[go_sem] theorem partTy_195_0 : partTy Try.prog 195 0 = 3 := by kernel_rfl
@[go_sem] theorem fldA_195_1 : fldA Try.prog 195 1 = some 1 := by kernel_rfl
@[go_sem] theorem fpA_195_1 : fpA Try.prog 195 1 = some (1, false, 1) := by kernel_rfl
@[go_sem] theorem plA_195_1 : plA Try.prog 195 1 = some (1, 1) := by kernel_rfl
@[go_sem] theorem partTy_195_1 : partTy Try.prog 195 1 = 3 := by kernel_rfl
@[go_sem] theorem eqKs_195 : eqKs Try.prog 195 = some [.int .i64, .int .i64] := by kernel_rfl
@[go_sem] theorem tyA_196 : tyA Try.prog 196 = some (true, 2) := by kernel_rfl
@[go_sem] theorem bytesA_196 : bytesA Try.prog 196 = false := by kernel_rfl
@[go_sem] theorem knownA_196 : knownA Try.prog 196 = true := by kernel_rfl
@[go_sem] theorem concA_196 : concA Try.prog 196 = true := by kernel_rfl
@[go_sem] theorem ikA_196 : ikA Try.prog 196 = none := by kernel_rfl
@[go_sem] theorem zeroA_196 : zeroA Try.prog 196 = some [.int .i64 0, .int .i64 0] := by kernel_rfl
@[go_sem] theorem slA_196 : slA Try.prog 196 = none := by kernel_rfl
@[go_sem] theorem fsOk_196 : fsOk Try.prog 196 = true := by kernel_rfl
@[go_sem] theorem fldA_196_0 : fldA Try.prog 196 0 = some 0 := by kernel_rfl
@[go_sem] theorem fpA_196_0 : fpA Try.prog 196 0 = some (0, false, 1) := by kernel_rfl
@[go_sem] theorem plA_196_0 : plA Try.prog 196 0 = some (0, 1) := by kernel_rfl
@[go_sem] theorem partTy_196_0 : partTy Try.prog 196 0 = 3 := by kernel_rfl
@[go_sem] theorem fldA_196_1 : fldA Try.prog 196 1 = some 1 := by kernel_rfl
@[go_sem] theorem fpA_196_1 : fpA Try.prog 196 1 = some (1, false, 1) := by kernel_rfl
@[go_sem] theorem plA_196_1 : plA Try.prog 196 1 = some (1, 1) := by kernel_rfl
@[go_sem] theorem partTy_196_1 : partTy Try.prog 196 1 = 3 := by kernel_rfl
@[go_sem] theorem eqKs_196 : eqKs Try.prog 196 = some [.int .i64, .int .i64] := by kernel_rfl
@[go_sem] theorem tyA_198 : tyA Try.prog 198 = some (false, 1) := by kernel_rfl
@[go_sem] theorem bytesA_198 : bytesA Try.prog 198 = false := by kernel_rfl
@[go_sem] theorem knownA_198 : knownA Try.prog 198 = true := by kernel_rfl
@[go_sem] theorem concA_198 : concA Try.prog 198 = true := by kernel_rfl
@[go_sem] theorem ikA_198 : ikA Try.prog 198 = none := by kernel_rfl
@[go_sem] theorem zeroA_198 : zeroA Try.prog 198 = some [.raw .nilFunc] := by kernel_rfl
@[go_sem] theorem slA_198 : slA Try.prog 198 = none := by kernel_rfl
@[go_sem] theorem tyA_199 : tyA Try.prog 199 = some (true, 2) := by kernel_rfl
@[go_sem] theorem bytesA_199 : bytesA Try.prog 199 = false := by kernel_rfl
@[go_sem] theorem knownA_199 : knownA Try.prog 199 = true := by kernel_rfl
@[go_sem] theorem concA_199 : concA Try.prog 199 = true := by kernel_rfl
@[go_sem] theorem ikA_199 : ikA Try.prog 199 = none := by kernel_rfl
@[go_sem] theorem zeroA_199 : zeroA Try.prog 199 = some [.int .i64 0, .int .i64 0] := by kernel_rfl
@[go_sem] theorem slA_199 : slA Try.prog 199 = none := by kernel_rfl
@[go_sem] theorem fsOk_199 : fsOk Try.prog 199 = true := by kernel_rfl
@[go_sem] theorem fldA_199_0 : fldA Try.prog 199 0 = some 0 := by kernel_rfl
@[go_sem] theorem fpA_199_0 : fpA Try.prog 199 0 = some (0, false, 1) := by kernel_rfl
@[go_sem] theorem plA_199_0 : plA Try.prog 199 0 = some (0, 1) := by kernel_rfl
@[go_sem] theorem partTy_199_0 : partTy Try.prog 199 0 = 3 := by kernel_rfl
@[go_sem] theorem fldA_199_1 : fldA Try.prog 199 1 = some 1 := by kernel_rfl
@[go_sem] theorem fpA_199_1 : fpA Try.prog 199 1 = some (1, false, 1) := by kernel_rfl
@[go_sem] theorem plA_199_1 : plA Try.prog 199 1 = some (1, 1) := by kernel_rfl
@[go_sem] theorem partTy_199_1 : partTy Try.prog 199 1 = 3 := by kernel_rfl
@[go_sem] theorem eqKs_199 : eqKs Try.prog 199 = some [.int .i64, .int .i64] := by kernel_rfl
@[go_sem] theorem tyA_200 : tyA Try.prog 200 = some (true, 2) := by kernel_rfl
@[go_sem] theorem bytesA_200 : bytesA Try.prog 200 = false := by kernel_rfl
@[go_sem] theorem knownA_200 : knownA Try.prog 200 = true := by kernel_rfl
@[go_sem] theorem concA_200 : concA Try.prog 200 = true := by kernel_rfl
@[go_sem] theorem ikA_200 : ikA Try.prog 200 = none := by kernel_rfl
@[go_sem] theorem zeroA_200 : zeroA Try.prog 200 = some [.int .i64 0, .int .i64 0] := by kernel_rfl
@[go_sem] theorem slA_200 : slA Try.prog 200 = none := by kernel_rfl
@[go_sem] theorem fsOk_200 : fsOk Try.prog 200 = true := by kernel_rfl
@[go_sem] theorem fldA_200_0 : fldA Try.prog 200 0 = some 0 := by kernel_rfl
@[go_sem] theorem fpA_200_0 : fpA Try.prog 200 0 = some (0, false, 1) := by kernel_rfl
@[go_sem] theorem plA_200_0 : plA Try.prog 200 0 = some (0, 1) := by kernel_rfl
@[go_sem] theorem partTy_200_0 : partTy Try.prog 200 0 = 3 := by kernel_rfl
@[go_sem] theorem fldA_200_1 : fldA Try.prog 200 1 = some 1 := by kernel_rfl
@[go_sem] theorem fpA_200_1 : fpA Try.prog 200 1 = some (1, false, 1) := by kernel_rfl
@[go_sem] theorem plA_200_1 : plA Try.prog 200 1 = some (1, 1) := by kernel_rfl
@[go_sem] theorem partTy_200_1 : partTy Try.prog 200 1 = 3 := by kernel_rfl
@[go_sem] theorem eqKs_200 : eqKs Try.prog 200 = some [.int .i64, .int .i64] := by kernel_rfl
@[go_sem] theorem tyA_201 : tyA Try.prog 201 = some (false, 1) := by kernel_rfl
@[go_sem] theorem bytesA_201 : bytesA Try.prog 201 = false := by kernel_rfl
@[go_sem] theorem knownA_201 : knownA Try.prog 201 = true := by kernel_rfl
@[go_sem] theorem concA_201 : concA Try.prog 201 = true := by kernel_rfl
@[go_sem] theorem ikA_201 : ikA Try.prog 201 = none := by kernel_rfl
@[go_sem] theorem zeroA_201 : zeroA Try.prog 201 = some [.raw .nilFunc] := by kernel_rfl
@[go_sem] theorem slA_201 : slA Try.prog 201 = none := by kernel_rfl
@[go_sem] theorem tyA_203 : tyA Try.prog 203 = some (false, 1) := by kernel_rfl
@[go_sem] theorem bytesA_203 : bytesA Try.prog 203 = false := by kernel_rfl
@[go_sem] theorem knownA_203 : knownA Try.prog 203 = true := by kernel_rfl
@[go_sem] theorem concA_203 : concA Try.prog 203 = true := by kernel_rfl
@[go_sem] theorem ikA_203 : ikA Try.prog 203 = none := by kernel_rfl
@[go_sem] theorem zeroA_203 : zeroA Try.prog 203 = some [.raw .nilFunc] := by kernel_rfl
@[go_sem] theorem slA_203 : slA Try.prog 203 = none := by kernel_rfl
@[go_sem] theorem tyA_204 : tyA Try.prog 204 = some (false, 1) := by kernel_rfl
@[go_sem] theorem bytesA_204 : bytesA Try.prog 204 = false := by kernel_rfl
@[go_sem] theorem knownA_204 : knownA Try.prog 204 = true := by kernel_rfl
@[go_sem] theorem concA_204 : concA Try.prog 204 = true := by kernel_rfl
@[go_sem] theorem ikA_204 : ikA Try.prog 204 = none := by kernel_rfl
@[go_sem] theorem zeroA_204 : zeroA Try.prog 204 = some [.raw .nilFunc] := by kernel_rfl
@[go_sem] theorem slA_204 : slA Try.prog 204 = none := by kernel_rfl
@[go_sem] theorem tyA_205 : tyA Try.prog 205 = some (true, 18) := by kernel_rfl
@[go_sem] theorem bytesA_205 : bytesA Try.prog 205 = false := by kernel_rfl
@[go_sem] theorem knownA_205 : knownA Try.prog 205 = true := by kernel_rfl
@[go_sem] theorem concA_205 : concA Try.prog 205 = true := by kernel_rfl
@[go_sem] theorem ikA_205 : ikA Try.prog 205 = none := by kernel_rfl
@[go_sem] theorem zeroA_205 : zeroA Try.prog 205 = some [.int .i64 0, .int .i64 0, .int .i64 0, .int .i64 0, .int .i64 0, .int .i64 0, .int .i64 0, .int .i64 0, .int .i64 0, .int .i64 0, .int .i64 0, .int .i64 0, .int .i64 0, .int .i64 0, .int .i64 0, .int .i64 0, .int .i64 0, .int .i64 0] := by kernel_rfl
@[go_sem] theorem slA_205 : slA Try.prog 205 = none := by kernel_rfl
@[go_sem] theorem arA_205 : arA Try.prog 205 = some (9, 2) := by kernel_rfl
@[go_sem] theorem avA_205 : avA Try.prog 205 = some (9, true, 2) := by kernel_rfl
@[go_sem] theorem fsOk_205 : fsOk Try.prog 205 = true := by kernel_rfl
@[go_sem] theorem plA_205_0 : plA Try.prog 205 0 = some (0, 2) := by kernel_rfl
@[go_sem] theorem partTy_205_0 : partTy Try.prog 205 0 = 136 := by kernel_rfl
@[go_sem] theorem plA_205_1 : plA Try.prog 205 1 = some (2, 2) := by kernel_rfl
@[go_sem] theorem partTy_205_1 : partTy Try.prog 205 1 = 136 := by kernel_rfl
@[go_sem] theorem plA_205_2 : plA Try.prog 205 2 = some (4, 2) := by kernel_rfl
@[go_sem] theorem partTy_205_2 : partTy Try.prog 205 2 = 136 := by kernel_rfl
@[go_sem] theorem plA_205_3 : plA Try.prog 205 3 = some (6, 2) := by kernel_rfl
@[go_sem] theorem partTy_205_3 : partTy Try.prog 205 3 = 136 := by kernel_rfl
@[go_sem] theorem plA_205_4 : plA Try.prog 205 4 = some (8, 2) := by kernel_rfl
@[go_sem] theorem partTy_205_4 : partTy Try.prog 205 4 = 136 := by kernel_rfl
@[go_sem] theorem plA_205_5 : plA Try.prog 205 5 = some (10, 2) := by kernel_rfl
@[go_sem] theorem partTy_205_5 : partTy Try.prog 205 5 = 136 := by kernel_rfl
@[go_sem] theorem plA_205_6 : plA Try.prog 205 6 = some (12, 2) := by kernel_rfl
@[go_sem] theorem partTy_205_6 : partTy Try.prog 205 6 = 136 := by kernel_rfl
@[go_sem] theorem plA_205_7 : plA Try.prog 205 7 = some (14, 2) := by kernel_rfl
@[go_sem] theorem partTy_205_7 : partTy Try.prog 205 7 = 136 := by kernel_rfl
@[go_sem] theorem plA_205_8 : plA Try.prog 205 8 = some (16, 2) := by kernel_rfl
@[go_sem] theorem partTy_205_8 : partTy Try.prog 205 8 = 136 := by kernel_rfl
@[go_sem] theorem tyA_206 : tyA Try.prog 206 = some (true, 9) := by kernel_rfl
@[go_sem] theorem bytesA_206 : bytesA Try.prog 206 = false := by kernel_rfl
@[go_sem] theorem knownA_206 : knownA Try.prog 206 = true := by kernel_rfl
@[go_sem] theorem concA_206 : concA Try.prog 206 = true := by kernel_rfl
@[go_sem] theorem ikA_206 : ikA Try.prog 206 = none := by kernel_rfl
@[go_sem] theorem zeroA_206 : zeroA Try.prog 206 = some [.int .i64 0, .int .i64 0, .int .i64 0, .int .i64 0, .int .i64 0, .int .i64 0, .int .i64 0, .int .i64 0, .int .i64 0] := by kernel_rfl
@[go_sem] theorem slA_206 : slA Try.prog 206 = none := by kernel_rfl
@[go_sem] theorem eqKs_206 : eqKs Try.prog 206 = some [.int .i64, .int .i64, .int .i64, .int .i64, .int .i64, .int .i64, .int .i64, .int .i64, .int .i64] := by kernel_rfl
@[go_sem] theorem arA_206 : arA Try.prog 206 = some (9, 1) := by kernel_rfl
@[go_sem] theorem avA_206 : avA Try.prog 206 = some (9, false, 1) := by kernel_rfl
@[go_sem] theorem fsOk_206 : fsOk Try.prog 206 = true := by kernel_rfl
@[go_sem] theorem plA_206_0 : plA Try.prog 206 0 = some (0, 1) := by kernel_rfl
@[go_sem] theorem partTy_206_0 : partTy Try.prog 206 0 = 3 := by kernel_rfl
@[go_sem] theorem plA_206_1 : plA Try.prog 206 1 = some (1, 1) := by kernel_rfl
@[go_sem] theorem partTy_206_1 : partTy Try.prog 206 1 = 3 := by kernel_rfl
@[go_sem] theorem plA_206_2 : plA Try.prog 206 2 = some (2, 1) := by kernel_rfl
@[go_sem] theorem partTy_206_2 : partTy Try.prog 206 2 = 3 := by kernel_rfl
@[go_sem] theorem plA_206_3 : plA Try.prog 206 3 = some (3, 1) := by kernel_rfl
@[go_sem] theorem partTy_206_3 : partTy Try.prog 206 3 = 3 := by kernel_rfl
@[go_sem] theorem plA_206_4 : plA Try.prog 206 4 = some (4, 1) := by kernel_rfl
@[go_sem] theorem partTy_206_4 : partTy Try.prog 206 4 = 3 := by kernel_rfl
@[go_sem] theorem plA_206_5 : plA Try.prog 206 5 = some (5, 1) := by kernel_rfl
@[go_sem] theorem partTy_206_5 : partTy Try.prog 206 5 = 3 := by kernel_rfl
@[go_sem] theorem plA_206_6 : plA Try.prog 206 6 = some (6, 1) := by kernel_rfl
@[go_sem] theorem partTy_206_6 : partTy Try.prog 206 6 = 3 := by kernel_rfl
@[go_sem] theorem plA_206_7 : plA Try.prog 206 7 = some (7, 1) := by kernel_rfl
@[go_sem] theorem partTy_206_7 : partTy Try.prog 206 7 = 3 := by kernel_rfl
@[go_sem] theorem plA_206_8 : plA Try.prog 206 8 = some (8, 1) := by kernel_rfl
@[go_sem] theorem partTy_206_8 : partTy Try.prog 206 8 = 3 := by kernel_rfl
@[go_sem] theorem tyA_207 : tyA Try.prog 207 = some (false, 1) := by kernel_rfl
@[go_sem] theorem bytesA_207 : bytesA Try.prog 207 = false := by kernel_rfl
@[go_sem] theorem knownA_207 : knownA Try.prog 207 = true := by kernel_rfl
@[go_sem] theorem concA_207 : concA Try.prog 207 = true := by kernel_rfl
@[go_sem] theorem ikA_207 : ikA Try.prog 207 = none := by kernel_rfl
@[go_sem] theorem zeroA_207 : zeroA Try.prog 207 = some [.raw .nilFunc] := by kernel_rfl
@[go_sem] theorem slA_207 : slA Try.prog 207 = none := by kernel_rfl
@[go_sem] theorem tyA_208 : tyA Try.prog 208 = some (false, 1) := by kernel_rfl
@[go_sem] theorem bytesA_208 : bytesA Try.prog 208 = false := by kernel_rfl
@[go_sem] theorem knownA_208 : knownA Try.prog 208 = true := by kernel_rfl
@[go_sem] theorem concA_208 : concA Try.prog 208 = true := by kernel_rfl
@[go_sem] theorem ikA_208 : ikA Try.prog 208 = none := by kernel_rfl
@[go_sem] theorem zeroA_208 : zeroA Try.prog 208 = some [.raw .nilFunc] := by kernel_rfl
@[go_sem] theorem slA_208 : slA Try.prog 208 = none := by kernel_rfl
@[go_sem] theorem tyA_209 : tyA Try.prog 209 = some (false, 1) := by kernel_rfl
@[go_sem] theorem bytesA_209 : bytesA Try.prog 209 = false := by kernel_rfl
@[go_sem] theorem knownA_209 : knownA Try.prog 209 = true := by kernel_rfl
@[go_sem] theorem concA_209 : concA Try.prog 209 = true := by kernel_rfl
@[go_sem] theorem ikA_209 : ikA Try.prog 209 = none := by kernel_rfl
@[go_sem] theorem zeroA_209 : zeroA Try.prog 209 = some [.raw (.pointer none)] := by kernel_rfl
@[go_sem] theorem slA_209 : slA Try.prog 209 = none := by kernel_rfl
@[go_sem] theorem tyA_210 : tyA Try.prog 210 = some (false, 1) := by kernel_rfl
@[go_sem] theorem bytesA_210 : bytesA Try.prog 210 = false := by kernel_rfl
@[go_sem] theorem knownA_210 : knownA Try.prog 210 = true := by kernel_rfl
@[go_sem] theorem concA_210 : concA Try.prog 210 = true := by kernel_rfl
@[go_sem] theorem ikA_210 : ikA Try.prog 210 = none := by kernel_rfl
@[go_sem] theorem zeroA_210 : zeroA Try.prog 210 = some [.raw .nilFunc] := by kernel_rfl
@[go_sem] theorem slA_210 : slA Try.prog 210 = none := by kernel_rfl
@[go_sem] theorem tyA_216 : tyA Try.prog 216 = some (false, 1) := by kernel_rfl
@[go_sem] theorem bytesA_216 : bytesA Try.prog 216 = false := by kernel_rfl
@[go_sem] theorem knownA_216 : knownA Try.prog 216 = true := by kernel_rfl
@[go_sem] theorem concA_216 : concA Try.prog 216 = true := by kernel_rfl
@[go_sem] theorem ikA_216 : ikA Try.prog 216 = some .u32 := by kernel_rfl
@[go_sem] theorem zeroA_216 : zeroA Try.prog 216 = some [.int .u32 0] := by kernel_rfl
@[go_sem] theorem slA_216 : slA Try.prog 216 = none := by kernel_rfl
@[go_sem] theorem tyA_219 : tyA Try.prog 219 = some (false, 1) := by kernel_rfl
@[go_sem] theorem bytesA_219 : bytesA Try.prog 219 = false := by kernel_rfl
@[go_sem] theorem knownA_219 : knownA Try.prog 219 = true := by kernel_rfl
@[go_sem] theorem concA_219 : concA Try.prog 219 = true := by kernel_rfl
@[go_sem] theorem ikA_219 : ikA Try.prog 219 = none := by kernel_rfl
@[go_sem] theorem zeroA_219 : zeroA Try.prog 219 = some [.raw .nilFunc] := by kernel_rfl
@[go_sem] theorem slA_219 : slA Try.prog 219 = none := by kernel_rfl
@[go_sem] theorem tyA_220 : tyA Try.prog 220 = some (false, 1) := by kernel_rfl
@[go_sem] theorem bytesA_220 : bytesA Try.prog 220 = false := by kernel_rfl
@[go_sem] theorem knownA_220 : knownA Try.prog 220 = true := by kernel_rfl
@[go_sem] theorem concA_220 : concA Try.prog 220 = true := by kernel_rfl
@[go_sem] theorem ikA_220 : ikA Try.prog 220 = none := by kernel_rfl
@[go_sem] theorem zeroA_220 : zeroA Try.prog 220 = some [.raw (.pointer none)] := by kernel_rfl
@[go_sem] theorem slA_220 : slA Try.prog 220 = none := by kernel_rfl
@[go_sem] theorem tyA_225 : tyA Try.prog 225 = some (false, 1) := by kernel_rfl
@[go_sem] theorem bytesA_225 : bytesA Try.prog 225 = false := by kernel_rfl
@[go_sem] theorem knownA_225 : knownA Try.prog 225 = true := by kernel_rfl
@[go_sem] theorem concA_225 : concA Try.prog 225 = true := by kernel_rfl
@[go_sem] theorem ikA_225 : ikA Try.prog 225 = none := by kernel_rfl
@[go_sem] theorem zeroA_225 : zeroA Try.prog 225 = some [.raw (.pointer none)] := by kernel_rfl
@[go_sem] theorem slA_225 : slA Try.prog 225 = none := by kernel_rfl
@[go_sem] theorem mapA_123 : mapA Try.prog 123 = some (3, .raw .nilFunc) := by kernel_rfl
@[go_sem] theorem mapA_152 : mapA Try.prog 152 = some (3, .sl 1 [] .nil) := by kernel_rfl
@[go_sem] theorem mapA_158 : mapA Try.prog 158 = some (3, .int .i64 0) := by kernel_rfl
@[go_sem] theorem mapA_188 : mapA Try.prog 188 = some (192, .bool false) := by kernel_rfl
@[go_sem] theorem ckOf_3 : ckOf Try.prog 3 = some (.int .i64) := by kernel_rfl
@[go_sem] theorem stA_192 : stA Try.prog 192 = some [.int .i64, .int .i64] := by kernel_rfl
@[go_sem] theorem bodyOk_3 : bodyOk Try.prog 3 = true := by kernel_rfl
@[go_sem] theorem bodyOk_4 : bodyOk Try.prog 4 = true := by kernel_rfl
@[go_sem] theorem bodyOk_5 : bodyOk Try.prog 5 = true := by kernel_rfl
@[go_sem] theorem bodyOk_6 : bodyOk Try.prog 6 = true := by kernel_rfl
@[go_sem] theorem bodyOk_7 : bodyOk Try.prog 7 = true := by kernel_rfl
@[go_sem] theorem bodyOk_8 : bodyOk Try.prog 8 = true := by kernel_rfl
@[go_sem] theorem bodyOk_9 : bodyOk Try.prog 9 = true := by kernel_rfl
@[go_sem] theorem bodyOk_10 : bodyOk Try.prog 10 = true := by kernel_rfl
@[go_sem] theorem bodyOk_11 : bodyOk Try.prog 11 = true := by kernel_rfl
@[go_sem] theorem bodyOk_12 : bodyOk Try.prog 12 = true := by kernel_rfl
@[go_sem] theorem bodyOk_13 : bodyOk Try.prog 13 = true := by kernel_rfl
@[go_sem] theorem bodyOk_14 : bodyOk Try.prog 14 = true := by kernel_rfl
@[go_sem] theorem bodyOk_15 : bodyOk Try.prog 15 = true := by kernel_rfl
@[go_sem] theorem bodyOk_16 : bodyOk Try.prog 16 = true := by kernel_rfl
@[go_sem] theorem bodyOk_17 : bodyOk Try.prog 17 = true := by kernel_rfl
@[go_sem] theorem bodyOk_18 : bodyOk Try.prog 18 = true := by kernel_rfl
@[go_sem] theorem bodyOk_19 : bodyOk Try.prog 19 = true := by kernel_rfl
@[go_sem] theorem bodyOk_20 : bodyOk Try.prog 20 = true := by kernel_rfl
@[go_sem] theorem bodyOk_21 : bodyOk Try.prog 21 = true := by kernel_rfl
@[go_sem] theorem bodyOk_22 : bodyOk Try.prog 22 = true := by kernel_rfl
@[go_sem] theorem bodyOk_23 : bodyOk Try.prog 23 = true := by kernel_rfl
@[go_sem] theorem bodyOk_24 : bodyOk Try.prog 24 = true := by kernel_rfl
@[go_sem] theorem bodyOk_25 : bodyOk Try.prog 25 = true := by kernel_rfl
@[go_sem] theorem bodyOk_26 : bodyOk Try.prog 26 = true := by kernel_rfl
@[go_sem] theorem bodyOk_27 : bodyOk Try.prog 27 = true := by kernel_rfl
@[go_sem] theorem bodyOk_28 : bodyOk Try.prog 28 = true := by kernel_rfl
@[go_sem] theorem bodyOk_29 : bodyOk Try.prog 29 = true := by kernel_rfl
@[go_sem] theorem bodyOk_30 : bodyOk Try.prog 30 = true := by kernel_rfl
@[go_sem] theorem bodyOk_31 : bodyOk Try.prog 31 = true := by kernel_rfl
@[go_sem] theorem bodyOk_32 : bodyOk Try.prog 32 = true := by kernel_rfl
@[go_sem] theorem bodyOk_33 : bodyOk Try.prog 33 = true := by kernel_rfl
@[go_sem] theorem bodyOk_34 : bodyOk Try.prog 34 = true := by kernel_rfl
@[go_sem] theorem bodyOk_35 : bodyOk Try.prog 35 = true := by kernel_rfl
@[go_sem] theorem bodyOk_36 : bodyOk Try.prog 36 = true := by kernel_rfl
@[go_sem] theorem bodyOk_37 : bodyOk Try.prog 37 = true := by kernel_rfl
@[go_sem] theorem bodyOk_38 : bodyOk Try.prog 38 = true := by kernel_rfl
@[go_sem] theorem bodyOk_39 : bodyOk Try.prog 39 = true := by kernel_rfl
@[go_sem] theorem bodyOk_40 : bodyOk Try.prog 40 = true := by kernel_rfl
@[go_sem] theorem bodyOk_41 : bodyOk Try.prog 41 = true := by kernel_rfl
@[go_sem] theorem bodyOk_42 : bodyOk Try.prog 42 = true := by kernel_rfl
@[go_sem] theorem bodyOk_43 : bodyOk Try.prog 43 = true := by kernel_rfl
@[go_sem] theorem bodyOk_44 : bodyOk Try.prog 44 = true := by kernel_rfl
@[go_sem] theorem bodyOk_45 : bodyOk Try.prog 45 = true := by kernel_rfl
@[go_sem] theorem bodyOk_46 : bodyOk Try.prog 46 = true := by kernel_rfl
@[go_sem] theorem bodyOk_47 : bodyOk Try.prog 47 = true := by kernel_rfl
@[go_sem] theorem bodyOk_48 : bodyOk Try.prog 48 = true := by kernel_rfl
@[go_sem] theorem bodyOk_49 : bodyOk Try.prog 49 = true := by kernel_rfl
@[go_sem] theorem bodyOk_50 : bodyOk Try.prog 50 = true := by kernel_rfl
@[go_sem] theorem bodyOk_51 : bodyOk Try.prog 51 = true := by kernel_rfl
@[go_sem] theorem bodyOk_52 : bodyOk Try.prog 52 = true := by kernel_rfl
@[go_sem] theorem bodyOk_53 : bodyOk Try.prog 53 = true := by kernel_rfl
@[go_sem] theorem bodyOk_54 : bodyOk Try.prog 54 = true := by kernel_rfl
@[go_sem] theorem bodyOk_55 : bodyOk Try.prog 55 = true := by kernel_rfl
@[go_sem] theorem bodyOk_56 : bodyOk Try.prog 56 = true := by kernel_rfl
@[go_sem] theorem bodyOk_57 : bodyOk Try.prog 57 = true := by kernel_rfl
@[go_sem] theorem bodyOk_58 : bodyOk Try.prog 58 = true := by kernel_rfl
@[go_sem] theorem bodyOk_59 : bodyOk Try.prog 59 = true := by kernel_rfl
@[go_sem] theorem bodyOk_60 : bodyOk Try.prog 60 = true := by kernel_rfl
@[go_sem] theorem bodyOk_61 : bodyOk Try.prog 61 = true := by kernel_rfl
@[go_sem] theorem bodyOk_62 : bodyOk Try.prog 62 = true := by kernel_rfl
@[go_sem] theorem bodyOk_63 : bodyOk Try.prog 63 = true := by kernel_rfl
@[go_sem] theorem bodyOk_64 : bodyOk Try.prog 64 = true := by kernel_rfl
@[go_sem] theorem bodyOk_65 : bodyOk Try.prog 65 = true := by kernel_rfl
@[go_sem] theorem bodyOk_66 : bodyOk Try.prog 66 = true := by kernel_rfl
@[go_sem] theorem bodyOk_67 : bodyOk Try.prog 67 = true := by kernel_rfl
@[go_sem] theorem bodyOk_68 : bodyOk Try.prog 68 = true := by kernel_rfl
@[go_sem] theorem bodyOk_69 : bodyOk Try.prog 69 = true := by kernel_rfl
@[go_sem] theorem bodyOk_70 : bodyOk Try.prog 70 = true := by kernel_rfl
@[go_sem] theorem bodyOk_71 : bodyOk Try.prog 71 = true := by kernel_rfl
@[go_sem] theorem bodyOk_72 : bodyOk Try.prog 72 = true := by kernel_rfl
@[go_sem] theorem bodyOk_73 : bodyOk Try.prog 73 = true := by kernel_rfl
@[go_sem] theorem bodyOk_74 : bodyOk Try.prog 74 = true := by kernel_rfl
@[go_sem] theorem bodyOk_75 : bodyOk Try.prog 75 = true := by kernel_rfl
@[go_sem] theorem bodyOk_76 : bodyOk Try.prog 76 = true := by kernel_rfl
@[go_sem] theorem bodyOk_77 : bodyOk Try.prog 77 = true := by kernel_rfl
@[go_sem] theorem bodyOk_78 : bodyOk Try.prog 78 = true := by kernel_rfl
@[go_sem] theorem bodyOk_79 : bodyOk Try.prog 79 = true := by kernel_rfl
@[go_sem] theorem bodyOk_80 : bodyOk Try.prog 80 = true := by kernel_rfl
@[go_sem] theorem bodyOk_81 : bodyOk Try.prog 81 = true := by kernel_rfl
@[go_sem] theorem bodyOk_82 : bodyOk Try.prog 82 = true := by kernel_rfl
@[go_sem] theorem bodyOk_83 : bodyOk Try.prog 83 = true := by kernel_rfl
@[go_sem] theorem bodyOk_84 : bodyOk Try.prog 84 = true := by kernel_rfl
@[go_sem] theorem bodyOk_85 : bodyOk Try.prog 85 = true := by kernel_rfl
@[go_sem] theorem bodyOk_86 : bodyOk Try.prog 86 = true := by kernel_rfl
@[go_sem] theorem bodyOk_87 : bodyOk Try.prog 87 = true := by kernel_rfl
@[go_sem] theorem bodyOk_88 : bodyOk Try.prog 88 = true := by kernel_rfl
@[go_sem] theorem bodyOk_89 : bodyOk Try.prog 89 = true := by kernel_rfl
@[go_sem] theorem bodyOk_90 : bodyOk Try.prog 90 = true := by kernel_rfl
@[go_sem] theorem bodyOk_91 : bodyOk Try.prog 91 = true := by kernel_rfl
@[go_sem] theorem bodyOk_92 : bodyOk Try.prog 92 = true := by kernel_rfl
@[go_sem] theorem bodyOk_93 : bodyOk Try.prog 93 = true := by kernel_rfl
@[go_sem] theorem bodyOk_94 : bodyOk Try.prog 94 = true := by kernel_rfl
@[go_sem] theorem bodyOk_95 : bodyOk Try.prog 95 = true := by kernel_rfl
@[go_sem] theorem bodyOk_96 : bodyOk Try.prog 96 = true := by kernel_rfl
@[go_sem] theorem bodyOk_97 : bodyOk Try.prog 97 = true := by kernel_rfl
@[go_sem] theorem bodyOk_98 : bodyOk Try.prog 98 = true := by kernel_rfl
@[go_sem] theorem bodyOk_99 : bodyOk Try.prog 99 = true := by kernel_rfl
@[go_sem] theorem bodyOk_100 : bodyOk Try.prog 100 = true := by kernel_rfl
@[go_sem] theorem bodyOk_101 : bodyOk Try.prog 101 = true := by kernel_rfl
@[go_sem] theorem bodyOk_102 : bodyOk Try.prog 102 = true := by kernel_rfl
@[go_sem] theorem bodyOk_103 : bodyOk Try.prog 103 = true := by kernel_rfl
@[go_sem] theorem bodyOk_104 : bodyOk Try.prog 104 = true := by kernel_rfl
@[go_sem] theorem bodyOk_105 : bodyOk Try.prog 105 = true := by kernel_rfl
@[go_sem] theorem bodyOk_106 : bodyOk Try.prog 106 = true := by kernel_rfl
@[go_sem] theorem bodyOk_107 : bodyOk Try.prog 107 = true := by kernel_rfl
@[go_sem] theorem bodyOk_108 : bodyOk Try.prog 108 = true := by kernel_rfl
@[go_sem] theorem bodyOk_109 : bodyOk Try.prog 109 = true := by kernel_rfl
@[go_sem] theorem bodyOk_110 : bodyOk Try.prog 110 = true := by kernel_rfl
@[go_sem] theorem bodyOk_111 : bodyOk Try.prog 111 = true := by kernel_rfl
@[go_sem] theorem bodyOk_112 : bodyOk Try.prog 112 = true := by kernel_rfl
@[go_sem] theorem bodyOk_113 : bodyOk Try.prog 113 = true := by kernel_rfl
@[go_sem] theorem bodyOk_114 : bodyOk Try.prog 114 = true := by kernel_rfl
@[go_sem] theorem bodyOk_115 : bodyOk Try.prog 115 = true := by kernel_rfl
@[go_sem] theorem bodyOk_116 : bodyOk Try.prog 116 = true := by kernel_rfl
@[go_sem] theorem bodyOk_117 : bodyOk Try.prog 117 = true := by kernel_rfl
@[go_sem] theorem bodyOk_118 : bodyOk Try.prog 118 = true := by kernel_rfl
@[go_sem] theorem bodyOk_119 : bodyOk Try.prog 119 = true := by kernel_rfl
@[go_sem] theorem bodyOk_120 : bodyOk Try.prog 120 = true := by kernel_rfl
@[go_sem] theorem bodyOk_121 : bodyOk Try.prog 121 = true := by kernel_rfl
@[go_sem] theorem bodyOk_122 : bodyOk Try.prog 122 = true := by kernel_rfl
@[go_sem] theorem bodyOk_123 : bodyOk Try.prog 123 = true := by kernel_rfl
@[go_sem] theorem bodyOk_124 : bodyOk Try.prog 124 = true := by kernel_rfl
@[go_sem] theorem bodyOk_125 : bodyOk Try.prog 125 = true := by kernel_rfl
@[go_sem] theorem bodyOk_126 : bodyOk Try.prog 126 = true := by kernel_rfl
@[go_sem] theorem bodyOk_127 : bodyOk Try.prog 127 = true := by kernel_rfl
@[go_sem] theorem bodyOk_128 : bodyOk Try.prog 128 = true := by kernel_rfl
@[go_sem] theorem bodyOk_129 : bodyOk Try.prog 129 = true := by kernel_rfl
@[go_sem] theorem bodyOk_130 : bodyOk Try.prog 130 = true := by kernel_rfl
@[go_sem] theorem bodyOk_131 : bodyOk Try.prog 131 = true := by kernel_rfl
end Go.Proofs.Ytalneemgdjkcdaa
