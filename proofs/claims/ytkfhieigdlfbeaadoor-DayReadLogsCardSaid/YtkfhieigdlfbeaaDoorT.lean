/- Facts on the types of the program, by the kernel. Printed by a program of this session. -/
import Derived.Test.YtkfhieigdlfbeaaDoorProg
import Derived.Test.YtkfhieigdlfbeaaDoorB140
import Derived.KernelRfl
namespace Go.Proofs.YtkfhieigdlfbeaaDoor
open Go.AB
set_option maxRecDepth 100000
@[go_sem] theorem tyA_1 : tyA Tryd.prog 1 = some (false, 1) := by kernel_rfl
@[go_sem] theorem bytesA_1 : bytesA Tryd.prog 1 = false := by kernel_rfl
@[go_sem] theorem knownA_1 : knownA Tryd.prog 1 = true := by kernel_rfl
@[go_sem] theorem concA_1 : concA Tryd.prog 1 = true := by kernel_rfl
@[go_sem] theorem ikA_1 : ikA Tryd.prog 1 = none := by kernel_rfl
@[go_sem] theorem bldT_1 : bldT Tryd.prog 1 = none := by kernel_rfl
@[go_sem] theorem zeroA_1 : zeroA Tryd.prog 1 = some [.raw .nilFunc] := by kernel_rfl
@[go_sem] theorem slA_1 : slA Tryd.prog 1 = none := by kernel_rfl
@[go_sem] theorem tyA_2 : tyA Tryd.prog 2 = some (false, 1) := by kernel_rfl
@[go_sem] theorem bytesA_2 : bytesA Tryd.prog 2 = false := by kernel_rfl
@[go_sem] theorem knownA_2 : knownA Tryd.prog 2 = true := by kernel_rfl
@[go_sem] theorem concA_2 : concA Tryd.prog 2 = true := by kernel_rfl
@[go_sem] theorem ikA_2 : ikA Tryd.prog 2 = some .i64 := by kernel_rfl
@[go_sem] theorem bldT_2 : bldT Tryd.prog 2 = none := by kernel_rfl
@[go_sem] theorem zeroA_2 : zeroA Tryd.prog 2 = some [.int .i64 0] := by kernel_rfl
@[go_sem] theorem slA_2 : slA Tryd.prog 2 = none := by kernel_rfl
@[go_sem] theorem tyA_3 : tyA Tryd.prog 3 = some (false, 1) := by kernel_rfl
@[go_sem] theorem bytesA_3 : bytesA Tryd.prog 3 = false := by kernel_rfl
@[go_sem] theorem knownA_3 : knownA Tryd.prog 3 = true := by kernel_rfl
@[go_sem] theorem concA_3 : concA Tryd.prog 3 = true := by kernel_rfl
@[go_sem] theorem ikA_3 : ikA Tryd.prog 3 = some .i64 := by kernel_rfl
@[go_sem] theorem bldT_3 : bldT Tryd.prog 3 = none := by kernel_rfl
@[go_sem] theorem zeroA_3 : zeroA Tryd.prog 3 = some [.int .i64 0] := by kernel_rfl
@[go_sem] theorem slA_3 : slA Tryd.prog 3 = none := by kernel_rfl
@[go_sem] theorem tyA_4 : tyA Tryd.prog 4 = some (false, 1) := by kernel_rfl
@[go_sem] theorem bytesA_4 : bytesA Tryd.prog 4 = false := by kernel_rfl
@[go_sem] theorem knownA_4 : knownA Tryd.prog 4 = true := by kernel_rfl
@[go_sem] theorem concA_4 : concA Tryd.prog 4 = true := by kernel_rfl
@[go_sem] theorem ikA_4 : ikA Tryd.prog 4 = none := by kernel_rfl
@[go_sem] theorem tyBool_4 : tyBool Tryd.prog 4 = true := by kernel_rfl
@[go_sem] theorem bldT_4 : bldT Tryd.prog 4 = none := by kernel_rfl
@[go_sem] theorem zeroA_4 : zeroA Tryd.prog 4 = some [.bool false] := by kernel_rfl
@[go_sem] theorem slA_4 : slA Tryd.prog 4 = none := by kernel_rfl
@[go_sem] theorem tyA_5 : tyA Tryd.prog 5 = some (false, 1) := by kernel_rfl
@[go_sem] theorem bytesA_5 : bytesA Tryd.prog 5 = false := by kernel_rfl
@[go_sem] theorem knownA_5 : knownA Tryd.prog 5 = true := by kernel_rfl
@[go_sem] theorem concA_5 : concA Tryd.prog 5 = true := by kernel_rfl
@[go_sem] theorem ikA_5 : ikA Tryd.prog 5 = some .u8 := by kernel_rfl
@[go_sem] theorem bldT_5 : bldT Tryd.prog 5 = none := by kernel_rfl
@[go_sem] theorem zeroA_5 : zeroA Tryd.prog 5 = some [.int .u8 0] := by kernel_rfl
@[go_sem] theorem slA_5 : slA Tryd.prog 5 = none := by kernel_rfl
@[go_sem] theorem tyA_9 : tyA Tryd.prog 9 = some (false, 1) := by kernel_rfl
@[go_sem] theorem bytesA_9 : bytesA Tryd.prog 9 = false := by kernel_rfl
@[go_sem] theorem knownA_9 : knownA Tryd.prog 9 = true := by kernel_rfl
@[go_sem] theorem concA_9 : concA Tryd.prog 9 = true := by kernel_rfl
@[go_sem] theorem ikA_9 : ikA Tryd.prog 9 = none := by kernel_rfl
@[go_sem] theorem strA_9 : strA Tryd.prog 9 = true := by kernel_rfl
@[go_sem] theorem bldT_9 : bldT Tryd.prog 9 = none := by kernel_rfl
@[go_sem] theorem zeroA_9 : zeroA Tryd.prog 9 = some [.str []] := by kernel_rfl
@[go_sem] theorem slA_9 : slA Tryd.prog 9 = none := by kernel_rfl
@[go_sem] theorem tyA_12 : tyA Tryd.prog 12 = some (false, 1) := by kernel_rfl
@[go_sem] theorem bytesA_12 : bytesA Tryd.prog 12 = false := by kernel_rfl
@[go_sem] theorem knownA_12 : knownA Tryd.prog 12 = true := by kernel_rfl
@[go_sem] theorem concA_12 : concA Tryd.prog 12 = true := by kernel_rfl
@[go_sem] theorem ikA_12 : ikA Tryd.prog 12 = some .u64 := by kernel_rfl
@[go_sem] theorem bldT_12 : bldT Tryd.prog 12 = none := by kernel_rfl
@[go_sem] theorem zeroA_12 : zeroA Tryd.prog 12 = some [.int .u64 0] := by kernel_rfl
@[go_sem] theorem slA_12 : slA Tryd.prog 12 = none := by kernel_rfl
@[go_sem] theorem tyA_20 : tyA Tryd.prog 20 = some (false, 1) := by kernel_rfl
@[go_sem] theorem bytesA_20 : bytesA Tryd.prog 20 = false := by kernel_rfl
@[go_sem] theorem knownA_20 : knownA Tryd.prog 20 = true := by kernel_rfl
@[go_sem] theorem ikA_20 : ikA Tryd.prog 20 = none := by kernel_rfl
@[go_sem] theorem ifB_20 : ifB Tryd.prog 20 = true := by kernel_rfl
@[go_sem] theorem bldT_20 : bldT Tryd.prog 20 = none := by kernel_rfl
@[go_sem] theorem zeroA_20 : zeroA Tryd.prog 20 = some [.raw .nilIface] := by kernel_rfl
@[go_sem] theorem slA_20 : slA Tryd.prog 20 = none := by kernel_rfl
@[go_sem] theorem tyA_21 : tyA Tryd.prog 21 = some (false, 1) := by kernel_rfl
@[go_sem] theorem bytesA_21 : bytesA Tryd.prog 21 = false := by kernel_rfl
@[go_sem] theorem knownA_21 : knownA Tryd.prog 21 = true := by kernel_rfl
@[go_sem] theorem concA_21 : concA Tryd.prog 21 = true := by kernel_rfl
@[go_sem] theorem ikA_21 : ikA Tryd.prog 21 = some .i32 := by kernel_rfl
@[go_sem] theorem bldT_21 : bldT Tryd.prog 21 = none := by kernel_rfl
@[go_sem] theorem zeroA_21 : zeroA Tryd.prog 21 = some [.int .i32 0] := by kernel_rfl
@[go_sem] theorem slA_21 : slA Tryd.prog 21 = none := by kernel_rfl
@[go_sem] theorem tyA_22 : tyA Tryd.prog 22 = some (true, 8) := by kernel_rfl
@[go_sem] theorem bytesA_22 : bytesA Tryd.prog 22 = false := by kernel_rfl
@[go_sem] theorem knownA_22 : knownA Tryd.prog 22 = true := by kernel_rfl
@[go_sem] theorem concA_22 : concA Tryd.prog 22 = true := by kernel_rfl
@[go_sem] theorem ikA_22 : ikA Tryd.prog 22 = none := by kernel_rfl
@[go_sem] theorem bldT_22 : bldT Tryd.prog 22 = none := by kernel_rfl
@[go_sem] theorem zeroA_22 : zeroA Tryd.prog 22 = some [.int .i64 0, .int .i64 0, .int .i64 0, .int .i64 0, .int .i64 0, .int .i64 0, .int .i64 0, .int .i64 0] := by kernel_rfl
@[go_sem] theorem slA_22 : slA Tryd.prog 22 = none := by kernel_rfl
@[go_sem] theorem fsOk_22 : fsOk Tryd.prog 22 = true := by kernel_rfl
@[go_sem] theorem fldA_22_0 : fldA Tryd.prog 22 0 = some 0 := by kernel_rfl
@[go_sem] theorem fpA_22_0 : fpA Tryd.prog 22 0 = some (0, false, 1) := by kernel_rfl
@[go_sem] theorem plA_22_0 : plA Tryd.prog 22 0 = some (0, 1) := by kernel_rfl
@[go_sem] theorem partTy_22_0 : partTy Tryd.prog 22 0 = 3 := by kernel_rfl
@[go_sem] theorem fldA_22_1 : fldA Tryd.prog 22 1 = some 1 := by kernel_rfl
@[go_sem] theorem fpA_22_1 : fpA Tryd.prog 22 1 = some (1, false, 1) := by kernel_rfl
@[go_sem] theorem plA_22_1 : plA Tryd.prog 22 1 = some (1, 1) := by kernel_rfl
@[go_sem] theorem partTy_22_1 : partTy Tryd.prog 22 1 = 3 := by kernel_rfl
@[go_sem] theorem fldA_22_2 : fldA Tryd.prog 22 2 = some 2 := by kernel_rfl
@[go_sem] theorem fpA_22_2 : fpA Tryd.prog 22 2 = some (2, false, 1) := by kernel_rfl
@[go_sem] theorem plA_22_2 : plA Tryd.prog 22 2 = some (2, 1) := by kernel_rfl
@[go_sem] theorem partTy_22_2 : partTy Tryd.prog 22 2 = 3 := by kernel_rfl
@[go_sem] theorem fldA_22_3 : fldA Tryd.prog 22 3 = some 3 := by kernel_rfl
@[go_sem] theorem fpA_22_3 : fpA Tryd.prog 22 3 = some (3, false, 1) := by kernel_rfl
@[go_sem] theorem plA_22_3 : plA Tryd.prog 22 3 = some (3, 1) := by kernel_rfl
@[go_sem] theorem partTy_22_3 : partTy Tryd.prog 22 3 = 3 := by kernel_rfl
@[go_sem] theorem fldA_22_4 : fldA Tryd.prog 22 4 = some 4 := by kernel_rfl
@[go_sem] theorem fpA_22_4 : fpA Tryd.prog 22 4 = some (4, false, 1) := by kernel_rfl
@[go_sem] theorem plA_22_4 : plA Tryd.prog 22 4 = some (4, 1) := by kernel_rfl
@[go_sem] theorem partTy_22_4 : partTy Tryd.prog 22 4 = 3 := by kernel_rfl
@[go_sem] theorem fldA_22_5 : fldA Tryd.prog 22 5 = some 5 := by kernel_rfl
@[go_sem] theorem fpA_22_5 : fpA Tryd.prog 22 5 = some (5, false, 1) := by kernel_rfl
@[go_sem] theorem plA_22_5 : plA Tryd.prog 22 5 = some (5, 1) := by kernel_rfl
@[go_sem] theorem partTy_22_5 : partTy Tryd.prog 22 5 = 3 := by kernel_rfl
@[go_sem] theorem fldA_22_6 : fldA Tryd.prog 22 6 = some 6 := by kernel_rfl
@[go_sem] theorem fpA_22_6 : fpA Tryd.prog 22 6 = some (6, false, 1) := by kernel_rfl
@[go_sem] theorem plA_22_6 : plA Tryd.prog 22 6 = some (6, 1) := by kernel_rfl
@[go_sem] theorem partTy_22_6 : partTy Tryd.prog 22 6 = 3 := by kernel_rfl
@[go_sem] theorem fldA_22_7 : fldA Tryd.prog 22 7 = some 7 := by kernel_rfl
@[go_sem] theorem fpA_22_7 : fpA Tryd.prog 22 7 = some (7, false, 1) := by kernel_rfl
@[go_sem] theorem plA_22_7 : plA Tryd.prog 22 7 = some (7, 1) := by kernel_rfl
@[go_sem] theorem partTy_22_7 : partTy Tryd.prog 22 7 = 3 := by kernel_rfl
@[go_sem] theorem eqKs_22 : eqKs Tryd.prog 22 = some [.int .i64, .int .i64, .int .i64, .int .i64, .int .i64, .int .i64, .int .i64, .int .i64] := by kernel_rfl
@[go_sem] theorem tyA_23 : tyA Tryd.prog 23 = some (true, 8) := by kernel_rfl
@[go_sem] theorem bytesA_23 : bytesA Tryd.prog 23 = false := by kernel_rfl
@[go_sem] theorem knownA_23 : knownA Tryd.prog 23 = true := by kernel_rfl
@[go_sem] theorem concA_23 : concA Tryd.prog 23 = true := by kernel_rfl
@[go_sem] theorem ikA_23 : ikA Tryd.prog 23 = none := by kernel_rfl
@[go_sem] theorem bldT_23 : bldT Tryd.prog 23 = none := by kernel_rfl
@[go_sem] theorem zeroA_23 : zeroA Tryd.prog 23 = some [.int .i64 0, .int .i64 0, .int .i64 0, .int .i64 0, .int .i64 0, .int .i64 0, .int .i64 0, .int .i64 0] := by kernel_rfl
@[go_sem] theorem slA_23 : slA Tryd.prog 23 = none := by kernel_rfl
@[go_sem] theorem fsOk_23 : fsOk Tryd.prog 23 = true := by kernel_rfl
@[go_sem] theorem fldA_23_0 : fldA Tryd.prog 23 0 = some 0 := by kernel_rfl
@[go_sem] theorem fpA_23_0 : fpA Tryd.prog 23 0 = some (0, false, 1) := by kernel_rfl
@[go_sem] theorem plA_23_0 : plA Tryd.prog 23 0 = some (0, 1) := by kernel_rfl
@[go_sem] theorem partTy_23_0 : partTy Tryd.prog 23 0 = 3 := by kernel_rfl
@[go_sem] theorem fldA_23_1 : fldA Tryd.prog 23 1 = some 1 := by kernel_rfl
@[go_sem] theorem fpA_23_1 : fpA Tryd.prog 23 1 = some (1, false, 1) := by kernel_rfl
@[go_sem] theorem plA_23_1 : plA Tryd.prog 23 1 = some (1, 1) := by kernel_rfl
@[go_sem] theorem partTy_23_1 : partTy Tryd.prog 23 1 = 3 := by kernel_rfl
@[go_sem] theorem fldA_23_2 : fldA Tryd.prog 23 2 = some 2 := by kernel_rfl
@[go_sem] theorem fpA_23_2 : fpA Tryd.prog 23 2 = some (2, false, 1) := by kernel_rfl
@[go_sem] theorem plA_23_2 : plA Tryd.prog 23 2 = some (2, 1) := by kernel_rfl
@[go_sem] theorem partTy_23_2 : partTy Tryd.prog 23 2 = 3 := by kernel_rfl
@[go_sem] theorem fldA_23_3 : fldA Tryd.prog 23 3 = some 3 := by kernel_rfl
@[go_sem] theorem fpA_23_3 : fpA Tryd.prog 23 3 = some (3, false, 1) := by kernel_rfl
@[go_sem] theorem plA_23_3 : plA Tryd.prog 23 3 = some (3, 1) := by kernel_rfl
@[go_sem] theorem partTy_23_3 : partTy Tryd.prog 23 3 = 3 := by kernel_rfl
@[go_sem] theorem fldA_23_4 : fldA Tryd.prog 23 4 = some 4 := by kernel_rfl
@[go_sem] theorem fpA_23_4 : fpA Tryd.prog 23 4 = some (4, false, 1) := by kernel_rfl
@[go_sem] theorem plA_23_4 : plA Tryd.prog 23 4 = some (4, 1) := by kernel_rfl
@[go_sem] theorem partTy_23_4 : partTy Tryd.prog 23 4 = 3 := by kernel_rfl
@[go_sem] theorem fldA_23_5 : fldA Tryd.prog 23 5 = some 5 := by kernel_rfl
@[go_sem] theorem fpA_23_5 : fpA Tryd.prog 23 5 = some (5, false, 1) := by kernel_rfl
@[go_sem] theorem plA_23_5 : plA Tryd.prog 23 5 = some (5, 1) := by kernel_rfl
@[go_sem] theorem partTy_23_5 : partTy Tryd.prog 23 5 = 3 := by kernel_rfl
@[go_sem] theorem fldA_23_6 : fldA Tryd.prog 23 6 = some 6 := by kernel_rfl
@[go_sem] theorem fpA_23_6 : fpA Tryd.prog 23 6 = some (6, false, 1) := by kernel_rfl
@[go_sem] theorem plA_23_6 : plA Tryd.prog 23 6 = some (6, 1) := by kernel_rfl
@[go_sem] theorem partTy_23_6 : partTy Tryd.prog 23 6 = 3 := by kernel_rfl
@[go_sem] theorem fldA_23_7 : fldA Tryd.prog 23 7 = some 7 := by kernel_rfl
@[go_sem] theorem fpA_23_7 : fpA Tryd.prog 23 7 = some (7, false, 1) := by kernel_rfl
@[go_sem] theorem plA_23_7 : plA Tryd.prog 23 7 = some (7, 1) := by kernel_rfl
@[go_sem] theorem partTy_23_7 : partTy Tryd.prog 23 7 = 3 := by kernel_rfl
@[go_sem] theorem eqKs_23 : eqKs Tryd.prog 23 = some [.int .i64, .int .i64, .int .i64, .int .i64, .int .i64, .int .i64, .int .i64, .int .i64] := by kernel_rfl
@[go_sem] theorem tyA_24 : tyA Tryd.prog 24 = some (false, 1) := by kernel_rfl
@[go_sem] theorem bytesA_24 : bytesA Tryd.prog 24 = false := by kernel_rfl
@[go_sem] theorem knownA_24 : knownA Tryd.prog 24 = true := by kernel_rfl
@[go_sem] theorem concA_24 : concA Tryd.prog 24 = true := by kernel_rfl
@[go_sem] theorem ikA_24 : ikA Tryd.prog 24 = some .i64 := by kernel_rfl
@[go_sem] theorem bldT_24 : bldT Tryd.prog 24 = none := by kernel_rfl
@[go_sem] theorem zeroA_24 : zeroA Tryd.prog 24 = some [.int .i64 0] := by kernel_rfl
@[go_sem] theorem slA_24 : slA Tryd.prog 24 = none := by kernel_rfl
@[go_sem] theorem tyA_26 : tyA Tryd.prog 26 = some (false, 1) := by kernel_rfl
@[go_sem] theorem bytesA_26 : bytesA Tryd.prog 26 = false := by kernel_rfl
@[go_sem] theorem knownA_26 : knownA Tryd.prog 26 = true := by kernel_rfl
@[go_sem] theorem concA_26 : concA Tryd.prog 26 = true := by kernel_rfl
@[go_sem] theorem ikA_26 : ikA Tryd.prog 26 = none := by kernel_rfl
@[go_sem] theorem bldT_26 : bldT Tryd.prog 26 = none := by kernel_rfl
@[go_sem] theorem zeroA_26 : zeroA Tryd.prog 26 = some [.raw .nilFunc] := by kernel_rfl
@[go_sem] theorem slA_26 : slA Tryd.prog 26 = none := by kernel_rfl
@[go_sem] theorem tyA_27 : tyA Tryd.prog 27 = some (true, 8) := by kernel_rfl
@[go_sem] theorem bytesA_27 : bytesA Tryd.prog 27 = false := by kernel_rfl
@[go_sem] theorem knownA_27 : knownA Tryd.prog 27 = true := by kernel_rfl
@[go_sem] theorem concA_27 : concA Tryd.prog 27 = true := by kernel_rfl
@[go_sem] theorem ikA_27 : ikA Tryd.prog 27 = none := by kernel_rfl
@[go_sem] theorem bldT_27 : bldT Tryd.prog 27 = none := by kernel_rfl
@[go_sem] theorem zeroA_27 : zeroA Tryd.prog 27 = some [.int .i64 0, .int .i64 0, .int .i64 0, .int .i64 0, .int .i64 0, .int .i64 0, .int .i64 0, .int .i64 0] := by kernel_rfl
@[go_sem] theorem slA_27 : slA Tryd.prog 27 = none := by kernel_rfl
@[go_sem] theorem fsOk_27 : fsOk Tryd.prog 27 = true := by kernel_rfl
@[go_sem] theorem fldA_27_0 : fldA Tryd.prog 27 0 = some 0 := by kernel_rfl
@[go_sem] theorem fpA_27_0 : fpA Tryd.prog 27 0 = some (0, false, 1) := by kernel_rfl
@[go_sem] theorem plA_27_0 : plA Tryd.prog 27 0 = some (0, 1) := by kernel_rfl
@[go_sem] theorem partTy_27_0 : partTy Tryd.prog 27 0 = 3 := by kernel_rfl
@[go_sem] theorem fldA_27_1 : fldA Tryd.prog 27 1 = some 1 := by kernel_rfl
@[go_sem] theorem fpA_27_1 : fpA Tryd.prog 27 1 = some (1, false, 1) := by kernel_rfl
@[go_sem] theorem plA_27_1 : plA Tryd.prog 27 1 = some (1, 1) := by kernel_rfl
@[go_sem] theorem partTy_27_1 : partTy Tryd.prog 27 1 = 3 := by kernel_rfl
@[go_sem] theorem fldA_27_2 : fldA Tryd.prog 27 2 = some 2 := by kernel_rfl
@[go_sem] theorem fpA_27_2 : fpA Tryd.prog 27 2 = some (2, false, 1) := by kernel_rfl
@[go_sem] theorem plA_27_2 : plA Tryd.prog 27 2 = some (2, 1) := by kernel_rfl
@[go_sem] theorem partTy_27_2 : partTy Tryd.prog 27 2 = 3 := by kernel_rfl
@[go_sem] theorem fldA_27_3 : fldA Tryd.prog 27 3 = some 3 := by kernel_rfl
@[go_sem] theorem fpA_27_3 : fpA Tryd.prog 27 3 = some (3, false, 1) := by kernel_rfl
@[go_sem] theorem plA_27_3 : plA Tryd.prog 27 3 = some (3, 1) := by kernel_rfl
@[go_sem] theorem partTy_27_3 : partTy Tryd.prog 27 3 = 3 := by kernel_rfl
@[go_sem] theorem fldA_27_4 : fldA Tryd.prog 27 4 = some 4 := by kernel_rfl
@[go_sem] theorem fpA_27_4 : fpA Tryd.prog 27 4 = some (4, false, 1) := by kernel_rfl
@[go_sem] theorem plA_27_4 : plA Tryd.prog 27 4 = some (4, 1) := by kernel_rfl
@[go_sem] theorem partTy_27_4 : partTy Tryd.prog 27 4 = 3 := by kernel_rfl
@[go_sem] theorem fldA_27_5 : fldA Tryd.prog 27 5 = some 5 := by kernel_rfl
@[go_sem] theorem fpA_27_5 : fpA Tryd.prog 27 5 = some (5, false, 1) := by kernel_rfl
@[go_sem] theorem plA_27_5 : plA Tryd.prog 27 5 = some (5, 1) := by kernel_rfl
@[go_sem] theorem partTy_27_5 : partTy Tryd.prog 27 5 = 3 := by kernel_rfl
@[go_sem] theorem fldA_27_6 : fldA Tryd.prog 27 6 = some 6 := by kernel_rfl
@[go_sem] theorem fpA_27_6 : fpA Tryd.prog 27 6 = some (6, false, 1) := by kernel_rfl
@[go_sem] theorem plA_27_6 : plA Tryd.prog 27 6 = some (6, 1) := by kernel_rfl
@[go_sem] theorem partTy_27_6 : partTy Tryd.prog 27 6 = 3 := by kernel_rfl
@[go_sem] theorem fldA_27_7 : fldA Tryd.prog 27 7 = some 7 := by kernel_rfl
@[go_sem] theorem fpA_27_7 : fpA Tryd.prog 27 7 = some (7, false, 1) := by kernel_rfl
@[go_sem] theorem plA_27_7 : plA Tryd.prog 27 7 = some (7, 1) := by kernel_rfl
@[go_sem] theorem partTy_27_7 : partTy Tryd.prog 27 7 = 3 := by kernel_rfl
@[go_sem] theorem eqKs_27 : eqKs Tryd.prog 27 = some [.int .i64, .int .i64, .int .i64, .int .i64, .int .i64, .int .i64, .int .i64, .int .i64] := by kernel_rfl
@[go_sem] theorem tyA_29 : tyA Tryd.prog 29 = some (false, 1) := by kernel_rfl
@[go_sem] theorem bytesA_29 : bytesA Tryd.prog 29 = false := by kernel_rfl
@[go_sem] theorem knownA_29 : knownA Tryd.prog 29 = true := by kernel_rfl
@[go_sem] theorem concA_29 : concA Tryd.prog 29 = true := by kernel_rfl
@[go_sem] theorem ikA_29 : ikA Tryd.prog 29 = none := by kernel_rfl
@[go_sem] theorem bldT_29 : bldT Tryd.prog 29 = none := by kernel_rfl
@[go_sem] theorem zeroA_29 : zeroA Tryd.prog 29 = some [.raw .nilFunc] := by kernel_rfl
@[go_sem] theorem slA_29 : slA Tryd.prog 29 = none := by kernel_rfl
@[go_sem] theorem tyA_30 : tyA Tryd.prog 30 = some (false, 1) := by kernel_rfl
@[go_sem] theorem bytesA_30 : bytesA Tryd.prog 30 = false := by kernel_rfl
@[go_sem] theorem knownA_30 : knownA Tryd.prog 30 = true := by kernel_rfl
@[go_sem] theorem concA_30 : concA Tryd.prog 30 = true := by kernel_rfl
@[go_sem] theorem ikA_30 : ikA Tryd.prog 30 = none := by kernel_rfl
@[go_sem] theorem bldT_30 : bldT Tryd.prog 30 = none := by kernel_rfl
@[go_sem] theorem zeroA_30 : zeroA Tryd.prog 30 = some [.raw .nilFunc] := by kernel_rfl
@[go_sem] theorem slA_30 : slA Tryd.prog 30 = none := by kernel_rfl
@[go_sem] theorem tyA_31 : tyA Tryd.prog 31 = some (false, 1) := by kernel_rfl
@[go_sem] theorem bytesA_31 : bytesA Tryd.prog 31 = false := by kernel_rfl
@[go_sem] theorem knownA_31 : knownA Tryd.prog 31 = true := by kernel_rfl
@[go_sem] theorem concA_31 : concA Tryd.prog 31 = true := by kernel_rfl
@[go_sem] theorem ikA_31 : ikA Tryd.prog 31 = none := by kernel_rfl
@[go_sem] theorem bldT_31 : bldT Tryd.prog 31 = none := by kernel_rfl
@[go_sem] theorem zeroA_31 : zeroA Tryd.prog 31 = some [.raw .nilFunc] := by kernel_rfl
@[go_sem] theorem slA_31 : slA Tryd.prog 31 = none := by kernel_rfl
@[go_sem] theorem tyA_32 : tyA Tryd.prog 32 = some (false, 1) := by kernel_rfl
@[go_sem] theorem bytesA_32 : bytesA Tryd.prog 32 = false := by kernel_rfl
@[go_sem] theorem knownA_32 : knownA Tryd.prog 32 = true := by kernel_rfl
@[go_sem] theorem concA_32 : concA Tryd.prog 32 = true := by kernel_rfl
@[go_sem] theorem ikA_32 : ikA Tryd.prog 32 = none := by kernel_rfl
@[go_sem] theorem slB_32 : slB Tryd.prog 32 = true := by kernel_rfl
@[go_sem] theorem bldT_32 : bldT Tryd.prog 32 = none := by kernel_rfl
@[go_sem] theorem zeroA_32 : zeroA Tryd.prog 32 = some [.sl 10 [] .nil] := by kernel_rfl
@[go_sem] theorem slA_32 : slA Tryd.prog 32 = some 10 := by kernel_rfl
@[go_sem] theorem mkA_32 : mkA Tryd.prog 32 = some ([.str [], .int .i64 0, .int .i64 0, .int .i64 0, .int .i64 0, .int .i64 0, .int .i64 0, .int .i64 0, .int .i64 0, .int .i64 0], 88) := by kernel_rfl
@[go_sem] theorem apA_32 : apA Tryd.prog 32 = some (10, 88) := by kernel_rfl
@[go_sem] theorem partTy_32 (i : Nat) : partTy Tryd.prog 32 i = 37 := rfl_of_partTy (by kernel_rfl)
@[go_sem] theorem tyA_34 : tyA Tryd.prog 34 = some (false, 1) := by kernel_rfl
@[go_sem] theorem bytesA_34 : bytesA Tryd.prog 34 = false := by kernel_rfl
@[go_sem] theorem knownA_34 : knownA Tryd.prog 34 = true := by kernel_rfl
@[go_sem] theorem concA_34 : concA Tryd.prog 34 = true := by kernel_rfl
@[go_sem] theorem ikA_34 : ikA Tryd.prog 34 = none := by kernel_rfl
@[go_sem] theorem bldT_34 : bldT Tryd.prog 34 = none := by kernel_rfl
@[go_sem] theorem zeroA_34 : zeroA Tryd.prog 34 = some [.raw .nilFunc] := by kernel_rfl
@[go_sem] theorem slA_34 : slA Tryd.prog 34 = none := by kernel_rfl
@[go_sem] theorem tyA_35 : tyA Tryd.prog 35 = some (false, 1) := by kernel_rfl
@[go_sem] theorem bytesA_35 : bytesA Tryd.prog 35 = false := by kernel_rfl
@[go_sem] theorem knownA_35 : knownA Tryd.prog 35 = true := by kernel_rfl
@[go_sem] theorem concA_35 : concA Tryd.prog 35 = true := by kernel_rfl
@[go_sem] theorem ikA_35 : ikA Tryd.prog 35 = none := by kernel_rfl
@[go_sem] theorem bldT_35 : bldT Tryd.prog 35 = none := by kernel_rfl
@[go_sem] theorem zeroA_35 : zeroA Tryd.prog 35 = some [.raw .nilFunc] := by kernel_rfl
@[go_sem] theorem slA_35 : slA Tryd.prog 35 = none := by kernel_rfl
@[go_sem] theorem tyA_36 : tyA Tryd.prog 36 = some (true, 10) := by kernel_rfl
@[go_sem] theorem bytesA_36 : bytesA Tryd.prog 36 = false := by kernel_rfl
@[go_sem] theorem knownA_36 : knownA Tryd.prog 36 = true := by kernel_rfl
@[go_sem] theorem concA_36 : concA Tryd.prog 36 = true := by kernel_rfl
@[go_sem] theorem ikA_36 : ikA Tryd.prog 36 = none := by kernel_rfl
@[go_sem] theorem bldT_36 : bldT Tryd.prog 36 = none := by kernel_rfl
@[go_sem] theorem zeroA_36 : zeroA Tryd.prog 36 = some [.str [], .int .i64 0, .int .i64 0, .int .i64 0, .int .i64 0, .int .i64 0, .int .i64 0, .int .i64 0, .int .i64 0, .int .i64 0] := by kernel_rfl
@[go_sem] theorem slA_36 : slA Tryd.prog 36 = none := by kernel_rfl
@[go_sem] theorem fsOk_36 : fsOk Tryd.prog 36 = true := by kernel_rfl
@[go_sem] theorem fldA_36_0 : fldA Tryd.prog 36 0 = some 0 := by kernel_rfl
@[go_sem] theorem fpA_36_0 : fpA Tryd.prog 36 0 = some (0, false, 1) := by kernel_rfl
@[go_sem] theorem plA_36_0 : plA Tryd.prog 36 0 = some (0, 1) := by kernel_rfl
@[go_sem] theorem partTy_36_0 : partTy Tryd.prog 36 0 = 9 := by kernel_rfl
@[go_sem] theorem fldA_36_1 : fldA Tryd.prog 36 1 = some 1 := by kernel_rfl
@[go_sem] theorem fpA_36_1 : fpA Tryd.prog 36 1 = some (1, false, 1) := by kernel_rfl
@[go_sem] theorem plA_36_1 : plA Tryd.prog 36 1 = some (1, 1) := by kernel_rfl
@[go_sem] theorem partTy_36_1 : partTy Tryd.prog 36 1 = 3 := by kernel_rfl
@[go_sem] theorem fldA_36_2 : fldA Tryd.prog 36 2 = some 2 := by kernel_rfl
@[go_sem] theorem fpA_36_2 : fpA Tryd.prog 36 2 = some (2, false, 1) := by kernel_rfl
@[go_sem] theorem plA_36_2 : plA Tryd.prog 36 2 = some (2, 1) := by kernel_rfl
@[go_sem] theorem partTy_36_2 : partTy Tryd.prog 36 2 = 3 := by kernel_rfl
@[go_sem] theorem fldA_36_3 : fldA Tryd.prog 36 3 = some 3 := by kernel_rfl
@[go_sem] theorem fpA_36_3 : fpA Tryd.prog 36 3 = some (3, false, 1) := by kernel_rfl
@[go_sem] theorem plA_36_3 : plA Tryd.prog 36 3 = some (3, 1) := by kernel_rfl
@[go_sem] theorem partTy_36_3 : partTy Tryd.prog 36 3 = 3 := by kernel_rfl
@[go_sem] theorem fldA_36_4 : fldA Tryd.prog 36 4 = some 4 := by kernel_rfl
@[go_sem] theorem fpA_36_4 : fpA Tryd.prog 36 4 = some (4, false, 1) := by kernel_rfl
@[go_sem] theorem plA_36_4 : plA Tryd.prog 36 4 = some (4, 1) := by kernel_rfl
@[go_sem] theorem partTy_36_4 : partTy Tryd.prog 36 4 = 3 := by kernel_rfl
@[go_sem] theorem fldA_36_5 : fldA Tryd.prog 36 5 = some 5 := by kernel_rfl
@[go_sem] theorem fpA_36_5 : fpA Tryd.prog 36 5 = some (5, false, 1) := by kernel_rfl
@[go_sem] theorem plA_36_5 : plA Tryd.prog 36 5 = some (5, 1) := by kernel_rfl
@[go_sem] theorem partTy_36_5 : partTy Tryd.prog 36 5 = 3 := by kernel_rfl
@[go_sem] theorem fldA_36_6 : fldA Tryd.prog 36 6 = some 6 := by kernel_rfl
@[go_sem] theorem fpA_36_6 : fpA Tryd.prog 36 6 = some (6, false, 1) := by kernel_rfl
@[go_sem] theorem plA_36_6 : plA Tryd.prog 36 6 = some (6, 1) := by kernel_rfl
@[go_sem] theorem partTy_36_6 : partTy Tryd.prog 36 6 = 3 := by kernel_rfl
@[go_sem] theorem fldA_36_7 : fldA Tryd.prog 36 7 = some 7 := by kernel_rfl
@[go_sem] theorem fpA_36_7 : fpA Tryd.prog 36 7 = some (7, false, 1) := by kernel_rfl
@[go_sem] theorem plA_36_7 : plA Tryd.prog 36 7 = some (7, 1) := by kernel_rfl
@[go_sem] theorem partTy_36_7 : partTy Tryd.prog 36 7 = 3 := by kernel_rfl
@[go_sem] theorem fldA_36_8 : fldA Tryd.prog 36 8 = some 8 := by kernel_rfl
@[go_sem] theorem fpA_36_8 : fpA Tryd.prog 36 8 = some (8, false, 1) := by kernel_rfl
@[go_sem] theorem plA_36_8 : plA Tryd.prog 36 8 = some (8, 1) := by kernel_rfl
@[go_sem] theorem partTy_36_8 : partTy Tryd.prog 36 8 = 3 := by kernel_rfl
@[go_sem] theorem fldA_36_9 : fldA Tryd.prog 36 9 = some 9 := by kernel_rfl
@[go_sem] theorem fpA_36_9 : fpA Tryd.prog 36 9 = some (9, false, 1) := by kernel_rfl
@[go_sem] theorem plA_36_9 : plA Tryd.prog 36 9 = some (9, 1) := by kernel_rfl
@[go_sem] theorem partTy_36_9 : partTy Tryd.prog 36 9 = 3 := by kernel_rfl
@[go_sem] theorem eqKs_36 : eqKs Tryd.prog 36 = some [.str, .int .i64, .int .i64, .int .i64, .int .i64, .int .i64, .int .i64, .int .i64, .int .i64, .int .i64] := by kernel_rfl
@[go_sem] theorem tyA_37 : tyA Tryd.prog 37 = some (true, 10) := by kernel_rfl
@[go_sem] theorem bytesA_37 : bytesA Tryd.prog 37 = false := by kernel_rfl
@[go_sem] theorem knownA_37 : knownA Tryd.prog 37 = true := by kernel_rfl
@[go_sem] theorem concA_37 : concA Tryd.prog 37 = true := by kernel_rfl
@[go_sem] theorem ikA_37 : ikA Tryd.prog 37 = none := by kernel_rfl
@[go_sem] theorem bldT_37 : bldT Tryd.prog 37 = none := by kernel_rfl
@[go_sem] theorem zeroA_37 : zeroA Tryd.prog 37 = some [.str [], .int .i64 0, .int .i64 0, .int .i64 0, .int .i64 0, .int .i64 0, .int .i64 0, .int .i64 0, .int .i64 0, .int .i64 0] := by kernel_rfl
@[go_sem] theorem slA_37 : slA Tryd.prog 37 = none := by kernel_rfl
@[go_sem] theorem fsOk_37 : fsOk Tryd.prog 37 = true := by kernel_rfl
@[go_sem] theorem fldA_37_0 : fldA Tryd.prog 37 0 = some 0 := by kernel_rfl
@[go_sem] theorem fpA_37_0 : fpA Tryd.prog 37 0 = some (0, false, 1) := by kernel_rfl
@[go_sem] theorem plA_37_0 : plA Tryd.prog 37 0 = some (0, 1) := by kernel_rfl
@[go_sem] theorem partTy_37_0 : partTy Tryd.prog 37 0 = 9 := by kernel_rfl
@[go_sem] theorem fldA_37_1 : fldA Tryd.prog 37 1 = some 1 := by kernel_rfl
@[go_sem] theorem fpA_37_1 : fpA Tryd.prog 37 1 = some (1, false, 1) := by kernel_rfl
@[go_sem] theorem plA_37_1 : plA Tryd.prog 37 1 = some (1, 1) := by kernel_rfl
@[go_sem] theorem partTy_37_1 : partTy Tryd.prog 37 1 = 3 := by kernel_rfl
@[go_sem] theorem fldA_37_2 : fldA Tryd.prog 37 2 = some 2 := by kernel_rfl
@[go_sem] theorem fpA_37_2 : fpA Tryd.prog 37 2 = some (2, false, 1) := by kernel_rfl
@[go_sem] theorem plA_37_2 : plA Tryd.prog 37 2 = some (2, 1) := by kernel_rfl
@[go_sem] theorem partTy_37_2 : partTy Tryd.prog 37 2 = 3 := by kernel_rfl
@[go_sem] theorem fldA_37_3 : fldA Tryd.prog 37 3 = some 3 := by kernel_rfl
@[go_sem] theorem fpA_37_3 : fpA Tryd.prog 37 3 = some (3, false, 1) := by kernel_rfl
@[go_sem] theorem plA_37_3 : plA Tryd.prog 37 3 = some (3, 1) := by kernel_rfl
@[go_sem] theorem partTy_37_3 : partTy Tryd.prog 37 3 = 3 := by kernel_rfl
@[go_sem] theorem fldA_37_4 : fldA Tryd.prog 37 4 = some 4 := by kernel_rfl
@[go_sem] theorem fpA_37_4 : fpA Tryd.prog 37 4 = some (4, false, 1) := by kernel_rfl
@[go_sem] theorem plA_37_4 : plA Tryd.prog 37 4 = some (4, 1) := by kernel_rfl
@[go_sem] theorem partTy_37_4 : partTy Tryd.prog 37 4 = 3 := by kernel_rfl
@[go_sem] theorem fldA_37_5 : fldA Tryd.prog 37 5 = some 5 := by kernel_rfl
@[go_sem] theorem fpA_37_5 : fpA Tryd.prog 37 5 = some (5, false, 1) := by kernel_rfl
@[go_sem] theorem plA_37_5 : plA Tryd.prog 37 5 = some (5, 1) := by kernel_rfl
@[go_sem] theorem partTy_37_5 : partTy Tryd.prog 37 5 = 3 := by kernel_rfl
@[go_sem] theorem fldA_37_6 : fldA Tryd.prog 37 6 = some 6 := by kernel_rfl
@[go_sem] theorem fpA_37_6 : fpA Tryd.prog 37 6 = some (6, false, 1) := by kernel_rfl
@[go_sem] theorem plA_37_6 : plA Tryd.prog 37 6 = some (6, 1) := by kernel_rfl
@[go_sem] theorem partTy_37_6 : partTy Tryd.prog 37 6 = 3 := by kernel_rfl
@[go_sem] theorem fldA_37_7 : fldA Tryd.prog 37 7 = some 7 := by kernel_rfl
@[go_sem] theorem fpA_37_7 : fpA Tryd.prog 37 7 = some (7, false, 1) := by kernel_rfl
@[go_sem] theorem plA_37_7 : plA Tryd.prog 37 7 = some (7, 1) := by kernel_rfl
@[go_sem] theorem partTy_37_7 : partTy Tryd.prog 37 7 = 3 := by kernel_rfl
@[go_sem] theorem fldA_37_8 : fldA Tryd.prog 37 8 = some 8 := by kernel_rfl
@[go_sem] theorem fpA_37_8 : fpA Tryd.prog 37 8 = some (8, false, 1) := by kernel_rfl
@[go_sem] theorem plA_37_8 : plA Tryd.prog 37 8 = some (8, 1) := by kernel_rfl
@[go_sem] theorem partTy_37_8 : partTy Tryd.prog 37 8 = 3 := by kernel_rfl
@[go_sem] theorem fldA_37_9 : fldA Tryd.prog 37 9 = some 9 := by kernel_rfl
@[go_sem] theorem fpA_37_9 : fpA Tryd.prog 37 9 = some (9, false, 1) := by kernel_rfl
@[go_sem] theorem plA_37_9 : plA Tryd.prog 37 9 = some (9, 1) := by kernel_rfl
@[go_sem] theorem partTy_37_9 : partTy Tryd.prog 37 9 = 3 := by kernel_rfl
@[go_sem] theorem eqKs_37 : eqKs Tryd.prog 37 = some [.str, .int .i64, .int .i64, .int .i64, .int .i64, .int .i64, .int .i64, .int .i64, .int .i64, .int .i64] := by kernel_rfl
@[go_sem] theorem tyA_38 : tyA Tryd.prog 38 = some (false, 1) := by kernel_rfl
@[go_sem] theorem bytesA_38 : bytesA Tryd.prog 38 = false := by kernel_rfl
@[go_sem] theorem knownA_38 : knownA Tryd.prog 38 = true := by kernel_rfl
@[go_sem] theorem concA_38 : concA Tryd.prog 38 = true := by kernel_rfl
@[go_sem] theorem ikA_38 : ikA Tryd.prog 38 = none := by kernel_rfl
@[go_sem] theorem slB_38 : slB Tryd.prog 38 = true := by kernel_rfl
@[go_sem] theorem bldT_38 : bldT Tryd.prog 38 = none := by kernel_rfl
@[go_sem] theorem zeroA_38 : zeroA Tryd.prog 38 = some [.sl 5 [] .nil] := by kernel_rfl
@[go_sem] theorem slA_38 : slA Tryd.prog 38 = some 5 := by kernel_rfl
@[go_sem] theorem mkA_38 : mkA Tryd.prog 38 = some ([.int .i64 0, .int .i64 0, .int .i64 0, .int .i64 0, .int .i64 0], 40) := by kernel_rfl
@[go_sem] theorem apA_38 : apA Tryd.prog 38 = some (5, 40) := by kernel_rfl
@[go_sem] theorem partTy_38 (i : Nat) : partTy Tryd.prog 38 i = 80 := rfl_of_partTy (by kernel_rfl)
@[go_sem] theorem tyA_40 : tyA Tryd.prog 40 = some (false, 1) := by kernel_rfl
@[go_sem] theorem bytesA_40 : bytesA Tryd.prog 40 = false := by kernel_rfl
@[go_sem] theorem knownA_40 : knownA Tryd.prog 40 = true := by kernel_rfl
@[go_sem] theorem concA_40 : concA Tryd.prog 40 = true := by kernel_rfl
@[go_sem] theorem ikA_40 : ikA Tryd.prog 40 = none := by kernel_rfl
@[go_sem] theorem bldT_40 : bldT Tryd.prog 40 = none := by kernel_rfl
@[go_sem] theorem zeroA_40 : zeroA Tryd.prog 40 = some [.raw .nilFunc] := by kernel_rfl
@[go_sem] theorem slA_40 : slA Tryd.prog 40 = none := by kernel_rfl
@[go_sem] theorem tyA_41 : tyA Tryd.prog 41 = some (false, 1) := by kernel_rfl
@[go_sem] theorem bytesA_41 : bytesA Tryd.prog 41 = false := by kernel_rfl
@[go_sem] theorem knownA_41 : knownA Tryd.prog 41 = true := by kernel_rfl
@[go_sem] theorem concA_41 : concA Tryd.prog 41 = true := by kernel_rfl
@[go_sem] theorem ikA_41 : ikA Tryd.prog 41 = none := by kernel_rfl
@[go_sem] theorem slB_41 : slB Tryd.prog 41 = true := by kernel_rfl
@[go_sem] theorem bldT_41 : bldT Tryd.prog 41 = none := by kernel_rfl
@[go_sem] theorem zeroA_41 : zeroA Tryd.prog 41 = some [.sl 5 [] .nil] := by kernel_rfl
@[go_sem] theorem slA_41 : slA Tryd.prog 41 = some 5 := by kernel_rfl
@[go_sem] theorem mkA_41 : mkA Tryd.prog 41 = some ([.int .i64 0, .int .i64 0, .int .i64 0, .int .i64 0, .int .i64 0], 40) := by kernel_rfl
@[go_sem] theorem apA_41 : apA Tryd.prog 41 = some (5, 40) := by kernel_rfl
@[go_sem] theorem partTy_41 (i : Nat) : partTy Tryd.prog 41 i = 46 := rfl_of_partTy (by kernel_rfl)
@[go_sem] theorem tyA_43 : tyA Tryd.prog 43 = some (false, 1) := by kernel_rfl
@[go_sem] theorem bytesA_43 : bytesA Tryd.prog 43 = false := by kernel_rfl
@[go_sem] theorem knownA_43 : knownA Tryd.prog 43 = true := by kernel_rfl
@[go_sem] theorem concA_43 : concA Tryd.prog 43 = true := by kernel_rfl
@[go_sem] theorem ikA_43 : ikA Tryd.prog 43 = none := by kernel_rfl
@[go_sem] theorem bldT_43 : bldT Tryd.prog 43 = none := by kernel_rfl
@[go_sem] theorem zeroA_43 : zeroA Tryd.prog 43 = some [.raw .nilFunc] := by kernel_rfl
@[go_sem] theorem slA_43 : slA Tryd.prog 43 = none := by kernel_rfl
@[go_sem] theorem tyA_44 : tyA Tryd.prog 44 = some (false, 1) := by kernel_rfl
@[go_sem] theorem bytesA_44 : bytesA Tryd.prog 44 = false := by kernel_rfl
@[go_sem] theorem knownA_44 : knownA Tryd.prog 44 = true := by kernel_rfl
@[go_sem] theorem concA_44 : concA Tryd.prog 44 = true := by kernel_rfl
@[go_sem] theorem ikA_44 : ikA Tryd.prog 44 = none := by kernel_rfl
@[go_sem] theorem bldT_44 : bldT Tryd.prog 44 = none := by kernel_rfl
@[go_sem] theorem zeroA_44 : zeroA Tryd.prog 44 = some [.raw .nilFunc] := by kernel_rfl
@[go_sem] theorem slA_44 : slA Tryd.prog 44 = none := by kernel_rfl
@[go_sem] theorem tyA_45 : tyA Tryd.prog 45 = some (true, 5) := by kernel_rfl
@[go_sem] theorem bytesA_45 : bytesA Tryd.prog 45 = false := by kernel_rfl
@[go_sem] theorem knownA_45 : knownA Tryd.prog 45 = true := by kernel_rfl
@[go_sem] theorem concA_45 : concA Tryd.prog 45 = true := by kernel_rfl
@[go_sem] theorem ikA_45 : ikA Tryd.prog 45 = none := by kernel_rfl
@[go_sem] theorem bldT_45 : bldT Tryd.prog 45 = none := by kernel_rfl
@[go_sem] theorem zeroA_45 : zeroA Tryd.prog 45 = some [.int .i64 0, .int .i64 0, .int .i64 0, .int .i64 0, .int .i64 0] := by kernel_rfl
@[go_sem] theorem slA_45 : slA Tryd.prog 45 = none := by kernel_rfl
@[go_sem] theorem fsOk_45 : fsOk Tryd.prog 45 = true := by kernel_rfl
@[go_sem] theorem fldA_45_0 : fldA Tryd.prog 45 0 = some 0 := by kernel_rfl
@[go_sem] theorem fpA_45_0 : fpA Tryd.prog 45 0 = some (0, false, 1) := by kernel_rfl
@[go_sem] theorem plA_45_0 : plA Tryd.prog 45 0 = some (0, 1) := by kernel_rfl
@[go_sem] theorem partTy_45_0 : partTy Tryd.prog 45 0 = 3 := by kernel_rfl
@[go_sem] theorem fldA_45_1 : fldA Tryd.prog 45 1 = some 1 := by kernel_rfl
@[go_sem] theorem fpA_45_1 : fpA Tryd.prog 45 1 = some (1, false, 1) := by kernel_rfl
@[go_sem] theorem plA_45_1 : plA Tryd.prog 45 1 = some (1, 1) := by kernel_rfl
@[go_sem] theorem partTy_45_1 : partTy Tryd.prog 45 1 = 3 := by kernel_rfl
@[go_sem] theorem fldA_45_2 : fldA Tryd.prog 45 2 = some 2 := by kernel_rfl
@[go_sem] theorem fpA_45_2 : fpA Tryd.prog 45 2 = some (2, false, 1) := by kernel_rfl
@[go_sem] theorem plA_45_2 : plA Tryd.prog 45 2 = some (2, 1) := by kernel_rfl
@[go_sem] theorem partTy_45_2 : partTy Tryd.prog 45 2 = 3 := by kernel_rfl
@[go_sem] theorem fldA_45_3 : fldA Tryd.prog 45 3 = some 3 := by kernel_rfl
@[go_sem] theorem fpA_45_3 : fpA Tryd.prog 45 3 = some (3, false, 1) := by kernel_rfl
@[go_sem] theorem plA_45_3 : plA Tryd.prog 45 3 = some (3, 1) := by kernel_rfl
@[go_sem] theorem partTy_45_3 : partTy Tryd.prog 45 3 = 3 := by kernel_rfl
@[go_sem] theorem fldA_45_4 : fldA Tryd.prog 45 4 = some 4 := by kernel_rfl
@[go_sem] theorem fpA_45_4 : fpA Tryd.prog 45 4 = some (4, false, 1) := by kernel_rfl
@[go_sem] theorem plA_45_4 : plA Tryd.prog 45 4 = some (4, 1) := by kernel_rfl
@[go_sem] theorem partTy_45_4 : partTy Tryd.prog 45 4 = 3 := by kernel_rfl
@[go_sem] theorem eqKs_45 : eqKs Tryd.prog 45 = some [.int .i64, .int .i64, .int .i64, .int .i64, .int .i64] := by kernel_rfl
@[go_sem] theorem tyA_46 : tyA Tryd.prog 46 = some (true, 5) := by kernel_rfl
@[go_sem] theorem bytesA_46 : bytesA Tryd.prog 46 = false := by kernel_rfl
@[go_sem] theorem knownA_46 : knownA Tryd.prog 46 = true := by kernel_rfl
@[go_sem] theorem concA_46 : concA Tryd.prog 46 = true := by kernel_rfl
@[go_sem] theorem ikA_46 : ikA Tryd.prog 46 = none := by kernel_rfl
@[go_sem] theorem bldT_46 : bldT Tryd.prog 46 = none := by kernel_rfl
@[go_sem] theorem zeroA_46 : zeroA Tryd.prog 46 = some [.int .i64 0, .int .i64 0, .int .i64 0, .int .i64 0, .int .i64 0] := by kernel_rfl
@[go_sem] theorem slA_46 : slA Tryd.prog 46 = none := by kernel_rfl
@[go_sem] theorem fsOk_46 : fsOk Tryd.prog 46 = true := by kernel_rfl
@[go_sem] theorem fldA_46_0 : fldA Tryd.prog 46 0 = some 0 := by kernel_rfl
@[go_sem] theorem fpA_46_0 : fpA Tryd.prog 46 0 = some (0, false, 1) := by kernel_rfl
@[go_sem] theorem plA_46_0 : plA Tryd.prog 46 0 = some (0, 1) := by kernel_rfl
@[go_sem] theorem partTy_46_0 : partTy Tryd.prog 46 0 = 3 := by kernel_rfl
@[go_sem] theorem fldA_46_1 : fldA Tryd.prog 46 1 = some 1 := by kernel_rfl
@[go_sem] theorem fpA_46_1 : fpA Tryd.prog 46 1 = some (1, false, 1) := by kernel_rfl
@[go_sem] theorem plA_46_1 : plA Tryd.prog 46 1 = some (1, 1) := by kernel_rfl
@[go_sem] theorem partTy_46_1 : partTy Tryd.prog 46 1 = 3 := by kernel_rfl
@[go_sem] theorem fldA_46_2 : fldA Tryd.prog 46 2 = some 2 := by kernel_rfl
@[go_sem] theorem fpA_46_2 : fpA Tryd.prog 46 2 = some (2, false, 1) := by kernel_rfl
@[go_sem] theorem plA_46_2 : plA Tryd.prog 46 2 = some (2, 1) := by kernel_rfl
@[go_sem] theorem partTy_46_2 : partTy Tryd.prog 46 2 = 3 := by kernel_rfl
@[go_sem] theorem fldA_46_3 : fldA Tryd.prog 46 3 = some 3 := by kernel_rfl
@[go_sem] theorem fpA_46_3 : fpA Tryd.prog 46 3 = some (3, false, 1) := by kernel_rfl
@[go_sem] theorem plA_46_3 : plA Tryd.prog 46 3 = some (3, 1) := by kernel_rfl
@[go_sem] theorem partTy_46_3 : partTy Tryd.prog 46 3 = 3 := by kernel_rfl
@[go_sem] theorem fldA_46_4 : fldA Tryd.prog 46 4 = some 4 := by kernel_rfl
@[go_sem] theorem fpA_46_4 : fpA Tryd.prog 46 4 = some (4, false, 1) := by kernel_rfl
@[go_sem] theorem plA_46_4 : plA Tryd.prog 46 4 = some (4, 1) := by kernel_rfl
@[go_sem] theorem partTy_46_4 : partTy Tryd.prog 46 4 = 3 := by kernel_rfl
@[go_sem] theorem eqKs_46 : eqKs Tryd.prog 46 = some [.int .i64, .int .i64, .int .i64, .int .i64, .int .i64] := by kernel_rfl
@[go_sem] theorem tyA_47 : tyA Tryd.prog 47 = some (false, 1) := by kernel_rfl
@[go_sem] theorem bytesA_47 : bytesA Tryd.prog 47 = false := by kernel_rfl
@[go_sem] theorem knownA_47 : knownA Tryd.prog 47 = true := by kernel_rfl
@[go_sem] theorem concA_47 : concA Tryd.prog 47 = true := by kernel_rfl
@[go_sem] theorem ikA_47 : ikA Tryd.prog 47 = none := by kernel_rfl
@[go_sem] theorem bldT_47 : bldT Tryd.prog 47 = none := by kernel_rfl
@[go_sem] theorem zeroA_47 : zeroA Tryd.prog 47 = some [.raw .nilFunc] := by kernel_rfl
@[go_sem] theorem slA_47 : slA Tryd.prog 47 = none := by kernel_rfl
@[go_sem] theorem tyA_48 : tyA Tryd.prog 48 = some (false, 1) := by kernel_rfl
@[go_sem] theorem bytesA_48 : bytesA Tryd.prog 48 = false := by kernel_rfl
@[go_sem] theorem knownA_48 : knownA Tryd.prog 48 = true := by kernel_rfl
@[go_sem] theorem concA_48 : concA Tryd.prog 48 = true := by kernel_rfl
@[go_sem] theorem ikA_48 : ikA Tryd.prog 48 = none := by kernel_rfl
@[go_sem] theorem slB_48 : slB Tryd.prog 48 = true := by kernel_rfl
@[go_sem] theorem bldT_48 : bldT Tryd.prog 48 = none := by kernel_rfl
@[go_sem] theorem zeroA_48 : zeroA Tryd.prog 48 = some [.sl 1 [] .nil] := by kernel_rfl
@[go_sem] theorem slA_48 : slA Tryd.prog 48 = some 1 := by kernel_rfl
@[go_sem] theorem mkA_48 : mkA Tryd.prog 48 = some ([.str []], 16) := by kernel_rfl
@[go_sem] theorem apA_48 : apA Tryd.prog 48 = some (1, 16) := by kernel_rfl
@[go_sem] theorem partTy_48 (i : Nat) : partTy Tryd.prog 48 i = 9 := rfl_of_partTy (by kernel_rfl)
@[go_sem] theorem tyA_49 : tyA Tryd.prog 49 = some (false, 1) := by kernel_rfl
@[go_sem] theorem bytesA_49 : bytesA Tryd.prog 49 = false := by kernel_rfl
@[go_sem] theorem knownA_49 : knownA Tryd.prog 49 = true := by kernel_rfl
@[go_sem] theorem concA_49 : concA Tryd.prog 49 = true := by kernel_rfl
@[go_sem] theorem ikA_49 : ikA Tryd.prog 49 = none := by kernel_rfl
@[go_sem] theorem slB_49 : slB Tryd.prog 49 = true := by kernel_rfl
@[go_sem] theorem bldT_49 : bldT Tryd.prog 49 = none := by kernel_rfl
@[go_sem] theorem zeroA_49 : zeroA Tryd.prog 49 = some [.sl 7 [] .nil] := by kernel_rfl
@[go_sem] theorem slA_49 : slA Tryd.prog 49 = some 7 := by kernel_rfl
@[go_sem] theorem mkA_49 : mkA Tryd.prog 49 = some ([.int .i64 0, .int .i64 0, .int .i64 0, .int .i64 0, .int .i64 0, .int .i64 0, .bool false], 56) := by kernel_rfl
@[go_sem] theorem apA_49 : apA Tryd.prog 49 = some (7, 56) := by kernel_rfl
@[go_sem] theorem partTy_49 (i : Nat) : partTy Tryd.prog 49 i = 96 := rfl_of_partTy (by kernel_rfl)
@[go_sem] theorem tyA_50 : tyA Tryd.prog 50 = some (false, 1) := by kernel_rfl
@[go_sem] theorem bytesA_50 : bytesA Tryd.prog 50 = false := by kernel_rfl
@[go_sem] theorem knownA_50 : knownA Tryd.prog 50 = true := by kernel_rfl
@[go_sem] theorem concA_50 : concA Tryd.prog 50 = true := by kernel_rfl
@[go_sem] theorem ikA_50 : ikA Tryd.prog 50 = none := by kernel_rfl
@[go_sem] theorem slB_50 : slB Tryd.prog 50 = true := by kernel_rfl
@[go_sem] theorem bldT_50 : bldT Tryd.prog 50 = none := by kernel_rfl
@[go_sem] theorem zeroA_50 : zeroA Tryd.prog 50 = some [.sl 4 [] .nil] := by kernel_rfl
@[go_sem] theorem slA_50 : slA Tryd.prog 50 = some 4 := by kernel_rfl
@[go_sem] theorem mkA_50 : mkA Tryd.prog 50 = some ([.int .i64 0, .int .i64 0, .int .i64 0, .int .i64 0], 32) := by kernel_rfl
@[go_sem] theorem apA_50 : apA Tryd.prog 50 = some (4, 32) := by kernel_rfl
@[go_sem] theorem partTy_50 (i : Nat) : partTy Tryd.prog 50 i = 99 := rfl_of_partTy (by kernel_rfl)
@[go_sem] theorem tyA_51 : tyA Tryd.prog 51 = some (false, 1) := by kernel_rfl
@[go_sem] theorem bytesA_51 : bytesA Tryd.prog 51 = false := by kernel_rfl
@[go_sem] theorem knownA_51 : knownA Tryd.prog 51 = true := by kernel_rfl
@[go_sem] theorem concA_51 : concA Tryd.prog 51 = true := by kernel_rfl
@[go_sem] theorem ikA_51 : ikA Tryd.prog 51 = none := by kernel_rfl
@[go_sem] theorem slB_51 : slB Tryd.prog 51 = true := by kernel_rfl
@[go_sem] theorem bldT_51 : bldT Tryd.prog 51 = none := by kernel_rfl
@[go_sem] theorem zeroA_51 : zeroA Tryd.prog 51 = some [.sl 2 [] .nil] := by kernel_rfl
@[go_sem] theorem slA_51 : slA Tryd.prog 51 = some 2 := by kernel_rfl
@[go_sem] theorem mkA_51 : mkA Tryd.prog 51 = some ([.int .i64 0, .int .i64 0], 16) := by kernel_rfl
@[go_sem] theorem apA_51 : apA Tryd.prog 51 = some (2, 16) := by kernel_rfl
@[go_sem] theorem partTy_51 (i : Nat) : partTy Tryd.prog 51 i = 102 := rfl_of_partTy (by kernel_rfl)
@[go_sem] theorem tyA_52 : tyA Tryd.prog 52 = some (false, 1) := by kernel_rfl
@[go_sem] theorem bytesA_52 : bytesA Tryd.prog 52 = false := by kernel_rfl
@[go_sem] theorem knownA_52 : knownA Tryd.prog 52 = true := by kernel_rfl
@[go_sem] theorem concA_52 : concA Tryd.prog 52 = true := by kernel_rfl
@[go_sem] theorem ikA_52 : ikA Tryd.prog 52 = none := by kernel_rfl
@[go_sem] theorem slB_52 : slB Tryd.prog 52 = true := by kernel_rfl
@[go_sem] theorem bldT_52 : bldT Tryd.prog 52 = none := by kernel_rfl
@[go_sem] theorem zeroA_52 : zeroA Tryd.prog 52 = some [.sl 2 [] .nil] := by kernel_rfl
@[go_sem] theorem slA_52 : slA Tryd.prog 52 = some 2 := by kernel_rfl
@[go_sem] theorem mkA_52 : mkA Tryd.prog 52 = some ([.int .i64 0, .int .i64 0], 16) := by kernel_rfl
@[go_sem] theorem apA_52 : apA Tryd.prog 52 = some (2, 16) := by kernel_rfl
@[go_sem] theorem partTy_52 (i : Nat) : partTy Tryd.prog 52 i = 105 := rfl_of_partTy (by kernel_rfl)
@[go_sem] theorem tyA_53 : tyA Tryd.prog 53 = some (true, 5) := by kernel_rfl
@[go_sem] theorem bytesA_53 : bytesA Tryd.prog 53 = false := by kernel_rfl
@[go_sem] theorem knownA_53 : knownA Tryd.prog 53 = true := by kernel_rfl
@[go_sem] theorem concA_53 : concA Tryd.prog 53 = true := by kernel_rfl
@[go_sem] theorem ikA_53 : ikA Tryd.prog 53 = none := by kernel_rfl
@[go_sem] theorem bldT_53 : bldT Tryd.prog 53 = none := by kernel_rfl
@[go_sem] theorem zeroA_53 : zeroA Tryd.prog 53 = some [.sl 1 [] .nil, .sl 7 [] .nil, .sl 4 [] .nil, .sl 2 [] .nil, .sl 2 [] .nil] := by kernel_rfl
@[go_sem] theorem slA_53 : slA Tryd.prog 53 = none := by kernel_rfl
@[go_sem] theorem fsOk_53 : fsOk Tryd.prog 53 = true := by kernel_rfl
@[go_sem] theorem fldA_53_0 : fldA Tryd.prog 53 0 = some 0 := by kernel_rfl
@[go_sem] theorem fpA_53_0 : fpA Tryd.prog 53 0 = some (0, false, 1) := by kernel_rfl
@[go_sem] theorem plA_53_0 : plA Tryd.prog 53 0 = some (0, 1) := by kernel_rfl
@[go_sem] theorem partTy_53_0 : partTy Tryd.prog 53 0 = 48 := by kernel_rfl
@[go_sem] theorem fldA_53_1 : fldA Tryd.prog 53 1 = some 1 := by kernel_rfl
@[go_sem] theorem fpA_53_1 : fpA Tryd.prog 53 1 = some (1, false, 1) := by kernel_rfl
@[go_sem] theorem plA_53_1 : plA Tryd.prog 53 1 = some (1, 1) := by kernel_rfl
@[go_sem] theorem partTy_53_1 : partTy Tryd.prog 53 1 = 49 := by kernel_rfl
@[go_sem] theorem fldA_53_2 : fldA Tryd.prog 53 2 = some 2 := by kernel_rfl
@[go_sem] theorem fpA_53_2 : fpA Tryd.prog 53 2 = some (2, false, 1) := by kernel_rfl
@[go_sem] theorem plA_53_2 : plA Tryd.prog 53 2 = some (2, 1) := by kernel_rfl
@[go_sem] theorem partTy_53_2 : partTy Tryd.prog 53 2 = 50 := by kernel_rfl
@[go_sem] theorem fldA_53_3 : fldA Tryd.prog 53 3 = some 3 := by kernel_rfl
@[go_sem] theorem fpA_53_3 : fpA Tryd.prog 53 3 = some (3, false, 1) := by kernel_rfl
@[go_sem] theorem plA_53_3 : plA Tryd.prog 53 3 = some (3, 1) := by kernel_rfl
@[go_sem] theorem partTy_53_3 : partTy Tryd.prog 53 3 = 51 := by kernel_rfl
@[go_sem] theorem fldA_53_4 : fldA Tryd.prog 53 4 = some 4 := by kernel_rfl
@[go_sem] theorem fpA_53_4 : fpA Tryd.prog 53 4 = some (4, false, 1) := by kernel_rfl
@[go_sem] theorem plA_53_4 : plA Tryd.prog 53 4 = some (4, 1) := by kernel_rfl
@[go_sem] theorem partTy_53_4 : partTy Tryd.prog 53 4 = 52 := by kernel_rfl
@[go_sem] theorem tyA_54 : tyA Tryd.prog 54 = some (true, 5) := by kernel_rfl
@[go_sem] theorem bytesA_54 : bytesA Tryd.prog 54 = false := by kernel_rfl
@[go_sem] theorem knownA_54 : knownA Tryd.prog 54 = true := by kernel_rfl
@[go_sem] theorem concA_54 : concA Tryd.prog 54 = true := by kernel_rfl
@[go_sem] theorem ikA_54 : ikA Tryd.prog 54 = none := by kernel_rfl
@[go_sem] theorem bldT_54 : bldT Tryd.prog 54 = none := by kernel_rfl
@[go_sem] theorem zeroA_54 : zeroA Tryd.prog 54 = some [.sl 1 [] .nil, .sl 7 [] .nil, .sl 4 [] .nil, .sl 2 [] .nil, .sl 2 [] .nil] := by kernel_rfl
@[go_sem] theorem slA_54 : slA Tryd.prog 54 = none := by kernel_rfl
@[go_sem] theorem fsOk_54 : fsOk Tryd.prog 54 = true := by kernel_rfl
@[go_sem] theorem fldA_54_0 : fldA Tryd.prog 54 0 = some 0 := by kernel_rfl
@[go_sem] theorem fpA_54_0 : fpA Tryd.prog 54 0 = some (0, false, 1) := by kernel_rfl
@[go_sem] theorem plA_54_0 : plA Tryd.prog 54 0 = some (0, 1) := by kernel_rfl
@[go_sem] theorem partTy_54_0 : partTy Tryd.prog 54 0 = 48 := by kernel_rfl
@[go_sem] theorem fldA_54_1 : fldA Tryd.prog 54 1 = some 1 := by kernel_rfl
@[go_sem] theorem fpA_54_1 : fpA Tryd.prog 54 1 = some (1, false, 1) := by kernel_rfl
@[go_sem] theorem plA_54_1 : plA Tryd.prog 54 1 = some (1, 1) := by kernel_rfl
@[go_sem] theorem partTy_54_1 : partTy Tryd.prog 54 1 = 49 := by kernel_rfl
@[go_sem] theorem fldA_54_2 : fldA Tryd.prog 54 2 = some 2 := by kernel_rfl
@[go_sem] theorem fpA_54_2 : fpA Tryd.prog 54 2 = some (2, false, 1) := by kernel_rfl
@[go_sem] theorem plA_54_2 : plA Tryd.prog 54 2 = some (2, 1) := by kernel_rfl
@[go_sem] theorem partTy_54_2 : partTy Tryd.prog 54 2 = 50 := by kernel_rfl
@[go_sem] theorem fldA_54_3 : fldA Tryd.prog 54 3 = some 3 := by kernel_rfl
@[go_sem] theorem fpA_54_3 : fpA Tryd.prog 54 3 = some (3, false, 1) := by kernel_rfl
@[go_sem] theorem plA_54_3 : plA Tryd.prog 54 3 = some (3, 1) := by kernel_rfl
@[go_sem] theorem partTy_54_3 : partTy Tryd.prog 54 3 = 51 := by kernel_rfl
@[go_sem] theorem fldA_54_4 : fldA Tryd.prog 54 4 = some 4 := by kernel_rfl
@[go_sem] theorem fpA_54_4 : fpA Tryd.prog 54 4 = some (4, false, 1) := by kernel_rfl
@[go_sem] theorem plA_54_4 : plA Tryd.prog 54 4 = some (4, 1) := by kernel_rfl
@[go_sem] theorem partTy_54_4 : partTy Tryd.prog 54 4 = 52 := by kernel_rfl
@[go_sem] theorem tyA_56 : tyA Tryd.prog 56 = some (false, 1) := by kernel_rfl
@[go_sem] theorem bytesA_56 : bytesA Tryd.prog 56 = false := by kernel_rfl
@[go_sem] theorem knownA_56 : knownA Tryd.prog 56 = true := by kernel_rfl
@[go_sem] theorem concA_56 : concA Tryd.prog 56 = true := by kernel_rfl
@[go_sem] theorem ikA_56 : ikA Tryd.prog 56 = none := by kernel_rfl
@[go_sem] theorem bldT_56 : bldT Tryd.prog 56 = none := by kernel_rfl
@[go_sem] theorem zeroA_56 : zeroA Tryd.prog 56 = some [.raw .nilFunc] := by kernel_rfl
@[go_sem] theorem slA_56 : slA Tryd.prog 56 = none := by kernel_rfl
@[go_sem] theorem tyA_57 : tyA Tryd.prog 57 = some (false, 1) := by kernel_rfl
@[go_sem] theorem bytesA_57 : bytesA Tryd.prog 57 = false := by kernel_rfl
@[go_sem] theorem knownA_57 : knownA Tryd.prog 57 = true := by kernel_rfl
@[go_sem] theorem concA_57 : concA Tryd.prog 57 = true := by kernel_rfl
@[go_sem] theorem ikA_57 : ikA Tryd.prog 57 = none := by kernel_rfl
@[go_sem] theorem bldT_57 : bldT Tryd.prog 57 = none := by kernel_rfl
@[go_sem] theorem zeroA_57 : zeroA Tryd.prog 57 = some [.raw .nilFunc] := by kernel_rfl
@[go_sem] theorem slA_57 : slA Tryd.prog 57 = none := by kernel_rfl
@[go_sem] theorem tyA_59 : tyA Tryd.prog 59 = some (false, 1) := by kernel_rfl
@[go_sem] theorem bytesA_59 : bytesA Tryd.prog 59 = false := by kernel_rfl
@[go_sem] theorem knownA_59 : knownA Tryd.prog 59 = true := by kernel_rfl
@[go_sem] theorem concA_59 : concA Tryd.prog 59 = true := by kernel_rfl
@[go_sem] theorem ikA_59 : ikA Tryd.prog 59 = none := by kernel_rfl
@[go_sem] theorem bldT_59 : bldT Tryd.prog 59 = none := by kernel_rfl
@[go_sem] theorem zeroA_59 : zeroA Tryd.prog 59 = some [.raw .nilFunc] := by kernel_rfl
@[go_sem] theorem slA_59 : slA Tryd.prog 59 = none := by kernel_rfl
@[go_sem] theorem tyA_60 : tyA Tryd.prog 60 = some (false, 1) := by kernel_rfl
@[go_sem] theorem bytesA_60 : bytesA Tryd.prog 60 = false := by kernel_rfl
@[go_sem] theorem knownA_60 : knownA Tryd.prog 60 = true := by kernel_rfl
@[go_sem] theorem concA_60 : concA Tryd.prog 60 = true := by kernel_rfl
@[go_sem] theorem ikA_60 : ikA Tryd.prog 60 = none := by kernel_rfl
@[go_sem] theorem bldT_60 : bldT Tryd.prog 60 = none := by kernel_rfl
@[go_sem] theorem zeroA_60 : zeroA Tryd.prog 60 = some [.raw .nilFunc] := by kernel_rfl
@[go_sem] theorem slA_60 : slA Tryd.prog 60 = none := by kernel_rfl
@[go_sem] theorem tyA_61 : tyA Tryd.prog 61 = some (false, 1) := by kernel_rfl
@[go_sem] theorem bytesA_61 : bytesA Tryd.prog 61 = false := by kernel_rfl
@[go_sem] theorem knownA_61 : knownA Tryd.prog 61 = true := by kernel_rfl
@[go_sem] theorem concA_61 : concA Tryd.prog 61 = true := by kernel_rfl
@[go_sem] theorem ikA_61 : ikA Tryd.prog 61 = none := by kernel_rfl
@[go_sem] theorem bldT_61 : bldT Tryd.prog 61 = none := by kernel_rfl
@[go_sem] theorem zeroA_61 : zeroA Tryd.prog 61 = some [.raw .nilFunc] := by kernel_rfl
@[go_sem] theorem slA_61 : slA Tryd.prog 61 = none := by kernel_rfl
@[go_sem] theorem tyA_62 : tyA Tryd.prog 62 = some (false, 1) := by kernel_rfl
@[go_sem] theorem bytesA_62 : bytesA Tryd.prog 62 = false := by kernel_rfl
@[go_sem] theorem knownA_62 : knownA Tryd.prog 62 = true := by kernel_rfl
@[go_sem] theorem concA_62 : concA Tryd.prog 62 = true := by kernel_rfl
@[go_sem] theorem ikA_62 : ikA Tryd.prog 62 = none := by kernel_rfl
@[go_sem] theorem bldT_62 : bldT Tryd.prog 62 = none := by kernel_rfl
@[go_sem] theorem zeroA_62 : zeroA Tryd.prog 62 = some [.raw .nilFunc] := by kernel_rfl
@[go_sem] theorem slA_62 : slA Tryd.prog 62 = none := by kernel_rfl
@[go_sem] theorem tyA_63 : tyA Tryd.prog 63 = some (false, 1) := by kernel_rfl
@[go_sem] theorem bytesA_63 : bytesA Tryd.prog 63 = false := by kernel_rfl
@[go_sem] theorem knownA_63 : knownA Tryd.prog 63 = true := by kernel_rfl
@[go_sem] theorem concA_63 : concA Tryd.prog 63 = true := by kernel_rfl
@[go_sem] theorem ikA_63 : ikA Tryd.prog 63 = none := by kernel_rfl
@[go_sem] theorem slB_63 : slB Tryd.prog 63 = true := by kernel_rfl
@[go_sem] theorem bldT_63 : bldT Tryd.prog 63 = none := by kernel_rfl
@[go_sem] theorem zeroA_63 : zeroA Tryd.prog 63 = some [.sl 1 [] .nil] := by kernel_rfl
@[go_sem] theorem slA_63 : slA Tryd.prog 63 = some 1 := by kernel_rfl
@[go_sem] theorem mkA_63 : mkA Tryd.prog 63 = some ([.int .i64 0], 8) := by kernel_rfl
@[go_sem] theorem apA_63 : apA Tryd.prog 63 = some (1, 8) := by kernel_rfl
@[go_sem] theorem partTy_63 (i : Nat) : partTy Tryd.prog 63 i = 3 := rfl_of_partTy (by kernel_rfl)
@[go_sem] theorem tyA_65 : tyA Tryd.prog 65 = some (false, 1) := by kernel_rfl
@[go_sem] theorem bytesA_65 : bytesA Tryd.prog 65 = false := by kernel_rfl
@[go_sem] theorem knownA_65 : knownA Tryd.prog 65 = true := by kernel_rfl
@[go_sem] theorem concA_65 : concA Tryd.prog 65 = true := by kernel_rfl
@[go_sem] theorem ikA_65 : ikA Tryd.prog 65 = none := by kernel_rfl
@[go_sem] theorem bldT_65 : bldT Tryd.prog 65 = none := by kernel_rfl
@[go_sem] theorem zeroA_65 : zeroA Tryd.prog 65 = some [.raw .nilFunc] := by kernel_rfl
@[go_sem] theorem slA_65 : slA Tryd.prog 65 = none := by kernel_rfl
@[go_sem] theorem tyA_66 : tyA Tryd.prog 66 = some (false, 1) := by kernel_rfl
@[go_sem] theorem bytesA_66 : bytesA Tryd.prog 66 = false := by kernel_rfl
@[go_sem] theorem knownA_66 : knownA Tryd.prog 66 = true := by kernel_rfl
@[go_sem] theorem concA_66 : concA Tryd.prog 66 = true := by kernel_rfl
@[go_sem] theorem ikA_66 : ikA Tryd.prog 66 = none := by kernel_rfl
@[go_sem] theorem bldT_66 : bldT Tryd.prog 66 = none := by kernel_rfl
@[go_sem] theorem zeroA_66 : zeroA Tryd.prog 66 = some [.raw .nilFunc] := by kernel_rfl
@[go_sem] theorem slA_66 : slA Tryd.prog 66 = none := by kernel_rfl
@[go_sem] theorem tyA_67 : tyA Tryd.prog 67 = some (false, 1) := by kernel_rfl
@[go_sem] theorem bytesA_67 : bytesA Tryd.prog 67 = false := by kernel_rfl
@[go_sem] theorem knownA_67 : knownA Tryd.prog 67 = true := by kernel_rfl
@[go_sem] theorem concA_67 : concA Tryd.prog 67 = true := by kernel_rfl
@[go_sem] theorem ikA_67 : ikA Tryd.prog 67 = none := by kernel_rfl
@[go_sem] theorem bldT_67 : bldT Tryd.prog 67 = none := by kernel_rfl
@[go_sem] theorem zeroA_67 : zeroA Tryd.prog 67 = some [.raw .nilFunc] := by kernel_rfl
@[go_sem] theorem slA_67 : slA Tryd.prog 67 = none := by kernel_rfl
@[go_sem] theorem tyA_68 : tyA Tryd.prog 68 = some (false, 1) := by kernel_rfl
@[go_sem] theorem bytesA_68 : bytesA Tryd.prog 68 = false := by kernel_rfl
@[go_sem] theorem knownA_68 : knownA Tryd.prog 68 = true := by kernel_rfl
@[go_sem] theorem concA_68 : concA Tryd.prog 68 = true := by kernel_rfl
@[go_sem] theorem ikA_68 : ikA Tryd.prog 68 = none := by kernel_rfl
@[go_sem] theorem bldT_68 : bldT Tryd.prog 68 = none := by kernel_rfl
@[go_sem] theorem zeroA_68 : zeroA Tryd.prog 68 = some [.raw .nilFunc] := by kernel_rfl
@[go_sem] theorem slA_68 : slA Tryd.prog 68 = none := by kernel_rfl
@[go_sem] theorem tyA_69 : tyA Tryd.prog 69 = some (false, 1) := by kernel_rfl
@[go_sem] theorem bytesA_69 : bytesA Tryd.prog 69 = false := by kernel_rfl
@[go_sem] theorem knownA_69 : knownA Tryd.prog 69 = true := by kernel_rfl
@[go_sem] theorem concA_69 : concA Tryd.prog 69 = true := by kernel_rfl
@[go_sem] theorem ikA_69 : ikA Tryd.prog 69 = none := by kernel_rfl
@[go_sem] theorem bldT_69 : bldT Tryd.prog 69 = none := by kernel_rfl
@[go_sem] theorem zeroA_69 : zeroA Tryd.prog 69 = some [.raw .nilFunc] := by kernel_rfl
@[go_sem] theorem slA_69 : slA Tryd.prog 69 = none := by kernel_rfl
@[go_sem] theorem tyA_70 : tyA Tryd.prog 70 = some (false, 1) := by kernel_rfl
@[go_sem] theorem bytesA_70 : bytesA Tryd.prog 70 = false := by kernel_rfl
@[go_sem] theorem knownA_70 : knownA Tryd.prog 70 = true := by kernel_rfl
@[go_sem] theorem concA_70 : concA Tryd.prog 70 = true := by kernel_rfl
@[go_sem] theorem ikA_70 : ikA Tryd.prog 70 = none := by kernel_rfl
@[go_sem] theorem slB_70 : slB Tryd.prog 70 = true := by kernel_rfl
@[go_sem] theorem bldT_70 : bldT Tryd.prog 70 = none := by kernel_rfl
@[go_sem] theorem zeroA_70 : zeroA Tryd.prog 70 = some [.sl 1 [] .nil] := by kernel_rfl
@[go_sem] theorem slA_70 : slA Tryd.prog 70 = some 1 := by kernel_rfl
@[go_sem] theorem mkA_70 : mkA Tryd.prog 70 = some ([.sl 1 [] .nil], 24) := by kernel_rfl
@[go_sem] theorem apA_70 : apA Tryd.prog 70 = some (1, 24) := by kernel_rfl
@[go_sem] theorem partTy_70 (i : Nat) : partTy Tryd.prog 70 i = 48 := rfl_of_partTy (by kernel_rfl)
@[go_sem] theorem tyA_72 : tyA Tryd.prog 72 = some (false, 1) := by kernel_rfl
@[go_sem] theorem bytesA_72 : bytesA Tryd.prog 72 = false := by kernel_rfl
@[go_sem] theorem knownA_72 : knownA Tryd.prog 72 = true := by kernel_rfl
@[go_sem] theorem concA_72 : concA Tryd.prog 72 = true := by kernel_rfl
@[go_sem] theorem ikA_72 : ikA Tryd.prog 72 = none := by kernel_rfl
@[go_sem] theorem bldT_72 : bldT Tryd.prog 72 = none := by kernel_rfl
@[go_sem] theorem zeroA_72 : zeroA Tryd.prog 72 = some [.raw .nilFunc] := by kernel_rfl
@[go_sem] theorem slA_72 : slA Tryd.prog 72 = none := by kernel_rfl
@[go_sem] theorem tyA_73 : tyA Tryd.prog 73 = some (false, 1) := by kernel_rfl
@[go_sem] theorem bytesA_73 : bytesA Tryd.prog 73 = false := by kernel_rfl
@[go_sem] theorem knownA_73 : knownA Tryd.prog 73 = true := by kernel_rfl
@[go_sem] theorem concA_73 : concA Tryd.prog 73 = true := by kernel_rfl
@[go_sem] theorem ikA_73 : ikA Tryd.prog 73 = none := by kernel_rfl
@[go_sem] theorem bldT_73 : bldT Tryd.prog 73 = none := by kernel_rfl
@[go_sem] theorem zeroA_73 : zeroA Tryd.prog 73 = some [.raw .nilFunc] := by kernel_rfl
@[go_sem] theorem slA_73 : slA Tryd.prog 73 = none := by kernel_rfl
@[go_sem] theorem tyA_75 : tyA Tryd.prog 75 = some (false, 1) := by kernel_rfl
@[go_sem] theorem bytesA_75 : bytesA Tryd.prog 75 = false := by kernel_rfl
@[go_sem] theorem knownA_75 : knownA Tryd.prog 75 = true := by kernel_rfl
@[go_sem] theorem concA_75 : concA Tryd.prog 75 = true := by kernel_rfl
@[go_sem] theorem ikA_75 : ikA Tryd.prog 75 = none := by kernel_rfl
@[go_sem] theorem bldT_75 : bldT Tryd.prog 75 = none := by kernel_rfl
@[go_sem] theorem zeroA_75 : zeroA Tryd.prog 75 = some [.raw .nilFunc] := by kernel_rfl
@[go_sem] theorem slA_75 : slA Tryd.prog 75 = none := by kernel_rfl
@[go_sem] theorem tyA_76 : tyA Tryd.prog 76 = some (false, 1) := by kernel_rfl
@[go_sem] theorem bytesA_76 : bytesA Tryd.prog 76 = false := by kernel_rfl
@[go_sem] theorem knownA_76 : knownA Tryd.prog 76 = true := by kernel_rfl
@[go_sem] theorem concA_76 : concA Tryd.prog 76 = true := by kernel_rfl
@[go_sem] theorem ikA_76 : ikA Tryd.prog 76 = none := by kernel_rfl
@[go_sem] theorem bldT_76 : bldT Tryd.prog 76 = none := by kernel_rfl
@[go_sem] theorem zeroA_76 : zeroA Tryd.prog 76 = some [.raw .nilFunc] := by kernel_rfl
@[go_sem] theorem slA_76 : slA Tryd.prog 76 = none := by kernel_rfl
@[go_sem] theorem tyA_77 : tyA Tryd.prog 77 = some (false, 1) := by kernel_rfl
@[go_sem] theorem bytesA_77 : bytesA Tryd.prog 77 = false := by kernel_rfl
@[go_sem] theorem knownA_77 : knownA Tryd.prog 77 = true := by kernel_rfl
@[go_sem] theorem concA_77 : concA Tryd.prog 77 = true := by kernel_rfl
@[go_sem] theorem ikA_77 : ikA Tryd.prog 77 = none := by kernel_rfl
@[go_sem] theorem bldT_77 : bldT Tryd.prog 77 = none := by kernel_rfl
@[go_sem] theorem zeroA_77 : zeroA Tryd.prog 77 = some [.raw .nilFunc] := by kernel_rfl
@[go_sem] theorem slA_77 : slA Tryd.prog 77 = none := by kernel_rfl
@[go_sem] theorem tyA_78 : tyA Tryd.prog 78 = some (true, 1) := by kernel_rfl
@[go_sem] theorem bytesA_78 : bytesA Tryd.prog 78 = false := by kernel_rfl
@[go_sem] theorem knownA_78 : knownA Tryd.prog 78 = true := by kernel_rfl
@[go_sem] theorem concA_78 : concA Tryd.prog 78 = true := by kernel_rfl
@[go_sem] theorem ikA_78 : ikA Tryd.prog 78 = none := by kernel_rfl
@[go_sem] theorem bldT_78 : bldT Tryd.prog 78 = none := by kernel_rfl
@[go_sem] theorem zeroA_78 : zeroA Tryd.prog 78 = some [.int .i64 0] := by kernel_rfl
@[go_sem] theorem slA_78 : slA Tryd.prog 78 = none := by kernel_rfl
@[go_sem] theorem fsOk_78 : fsOk Tryd.prog 78 = true := by kernel_rfl
@[go_sem] theorem fldA_78_0 : fldA Tryd.prog 78 0 = some 0 := by kernel_rfl
@[go_sem] theorem fpA_78_0 : fpA Tryd.prog 78 0 = some (0, false, 1) := by kernel_rfl
@[go_sem] theorem plA_78_0 : plA Tryd.prog 78 0 = some (0, 1) := by kernel_rfl
@[go_sem] theorem partTy_78_0 : partTy Tryd.prog 78 0 = 24 := by kernel_rfl
@[go_sem] theorem eqKs_78 : eqKs Tryd.prog 78 = some [.int .i64] := by kernel_rfl
@[go_sem] theorem tyA_79 : tyA Tryd.prog 79 = some (true, 1) := by kernel_rfl
@[go_sem] theorem bytesA_79 : bytesA Tryd.prog 79 = false := by kernel_rfl
@[go_sem] theorem knownA_79 : knownA Tryd.prog 79 = true := by kernel_rfl
@[go_sem] theorem concA_79 : concA Tryd.prog 79 = true := by kernel_rfl
@[go_sem] theorem ikA_79 : ikA Tryd.prog 79 = none := by kernel_rfl
@[go_sem] theorem bldT_79 : bldT Tryd.prog 79 = none := by kernel_rfl
@[go_sem] theorem zeroA_79 : zeroA Tryd.prog 79 = some [.int .i64 0] := by kernel_rfl
@[go_sem] theorem slA_79 : slA Tryd.prog 79 = none := by kernel_rfl
@[go_sem] theorem fsOk_79 : fsOk Tryd.prog 79 = true := by kernel_rfl
@[go_sem] theorem fldA_79_0 : fldA Tryd.prog 79 0 = some 0 := by kernel_rfl
@[go_sem] theorem fpA_79_0 : fpA Tryd.prog 79 0 = some (0, false, 1) := by kernel_rfl
@[go_sem] theorem plA_79_0 : plA Tryd.prog 79 0 = some (0, 1) := by kernel_rfl
@[go_sem] theorem partTy_79_0 : partTy Tryd.prog 79 0 = 24 := by kernel_rfl
@[go_sem] theorem eqKs_79 : eqKs Tryd.prog 79 = some [.int .i64] := by kernel_rfl
@[go_sem] theorem tyA_80 : tyA Tryd.prog 80 = some (true, 5) := by kernel_rfl
@[go_sem] theorem bytesA_80 : bytesA Tryd.prog 80 = false := by kernel_rfl
@[go_sem] theorem knownA_80 : knownA Tryd.prog 80 = true := by kernel_rfl
@[go_sem] theorem concA_80 : concA Tryd.prog 80 = true := by kernel_rfl
@[go_sem] theorem ikA_80 : ikA Tryd.prog 80 = none := by kernel_rfl
@[go_sem] theorem bldT_80 : bldT Tryd.prog 80 = none := by kernel_rfl
@[go_sem] theorem zeroA_80 : zeroA Tryd.prog 80 = some [.int .i64 0, .int .i64 0, .int .i64 0, .int .i64 0, .int .i64 0] := by kernel_rfl
@[go_sem] theorem slA_80 : slA Tryd.prog 80 = none := by kernel_rfl
@[go_sem] theorem fsOk_80 : fsOk Tryd.prog 80 = true := by kernel_rfl
@[go_sem] theorem fldA_80_0 : fldA Tryd.prog 80 0 = some 0 := by kernel_rfl
@[go_sem] theorem fpA_80_0 : fpA Tryd.prog 80 0 = some (0, false, 1) := by kernel_rfl
@[go_sem] theorem plA_80_0 : plA Tryd.prog 80 0 = some (0, 1) := by kernel_rfl
@[go_sem] theorem partTy_80_0 : partTy Tryd.prog 80 0 = 3 := by kernel_rfl
@[go_sem] theorem fldA_80_1 : fldA Tryd.prog 80 1 = some 1 := by kernel_rfl
@[go_sem] theorem fpA_80_1 : fpA Tryd.prog 80 1 = some (1, false, 1) := by kernel_rfl
@[go_sem] theorem plA_80_1 : plA Tryd.prog 80 1 = some (1, 1) := by kernel_rfl
@[go_sem] theorem partTy_80_1 : partTy Tryd.prog 80 1 = 3 := by kernel_rfl
@[go_sem] theorem fldA_80_2 : fldA Tryd.prog 80 2 = some 2 := by kernel_rfl
@[go_sem] theorem fpA_80_2 : fpA Tryd.prog 80 2 = some (2, false, 1) := by kernel_rfl
@[go_sem] theorem plA_80_2 : plA Tryd.prog 80 2 = some (2, 1) := by kernel_rfl
@[go_sem] theorem partTy_80_2 : partTy Tryd.prog 80 2 = 3 := by kernel_rfl
@[go_sem] theorem fldA_80_3 : fldA Tryd.prog 80 3 = some 3 := by kernel_rfl
@[go_sem] theorem fpA_80_3 : fpA Tryd.prog 80 3 = some (3, false, 1) := by kernel_rfl
@[go_sem] theorem plA_80_3 : plA Tryd.prog 80 3 = some (3, 1) := by kernel_rfl
@[go_sem] theorem partTy_80_3 : partTy Tryd.prog 80 3 = 3 := by kernel_rfl
@[go_sem] theorem fldA_80_4 : fldA Tryd.prog 80 4 = some 4 := by kernel_rfl
@[go_sem] theorem fpA_80_4 : fpA Tryd.prog 80 4 = some (4, false, 1) := by kernel_rfl
@[go_sem] theorem plA_80_4 : plA Tryd.prog 80 4 = some (4, 1) := by kernel_rfl
@[go_sem] theorem partTy_80_4 : partTy Tryd.prog 80 4 = 3 := by kernel_rfl
@[go_sem] theorem eqKs_80 : eqKs Tryd.prog 80 = some [.int .i64, .int .i64, .int .i64, .int .i64, .int .i64] := by kernel_rfl
@[go_sem] theorem tyA_81 : tyA Tryd.prog 81 = some (false, 1) := by kernel_rfl
@[go_sem] theorem bytesA_81 : bytesA Tryd.prog 81 = false := by kernel_rfl
@[go_sem] theorem knownA_81 : knownA Tryd.prog 81 = true := by kernel_rfl
@[go_sem] theorem concA_81 : concA Tryd.prog 81 = true := by kernel_rfl
@[go_sem] theorem ikA_81 : ikA Tryd.prog 81 = none := by kernel_rfl
@[go_sem] theorem bldT_81 : bldT Tryd.prog 81 = none := by kernel_rfl
@[go_sem] theorem zeroA_81 : zeroA Tryd.prog 81 = some [.raw .nilFunc] := by kernel_rfl
@[go_sem] theorem slA_81 : slA Tryd.prog 81 = none := by kernel_rfl
@[go_sem] theorem tyA_82 : tyA Tryd.prog 82 = some (false, 1) := by kernel_rfl
@[go_sem] theorem bytesA_82 : bytesA Tryd.prog 82 = false := by kernel_rfl
@[go_sem] theorem knownA_82 : knownA Tryd.prog 82 = true := by kernel_rfl
@[go_sem] theorem concA_82 : concA Tryd.prog 82 = true := by kernel_rfl
@[go_sem] theorem ikA_82 : ikA Tryd.prog 82 = none := by kernel_rfl
@[go_sem] theorem bldT_82 : bldT Tryd.prog 82 = none := by kernel_rfl
@[go_sem] theorem zeroA_82 : zeroA Tryd.prog 82 = some [.raw .nilFunc] := by kernel_rfl
@[go_sem] theorem slA_82 : slA Tryd.prog 82 = none := by kernel_rfl
@[go_sem] theorem tyA_83 : tyA Tryd.prog 83 = some (false, 1) := by kernel_rfl
@[go_sem] theorem bytesA_83 : bytesA Tryd.prog 83 = false := by kernel_rfl
@[go_sem] theorem knownA_83 : knownA Tryd.prog 83 = true := by kernel_rfl
@[go_sem] theorem concA_83 : concA Tryd.prog 83 = true := by kernel_rfl
@[go_sem] theorem ikA_83 : ikA Tryd.prog 83 = none := by kernel_rfl
@[go_sem] theorem bldT_83 : bldT Tryd.prog 83 = none := by kernel_rfl
@[go_sem] theorem zeroA_83 : zeroA Tryd.prog 83 = some [.raw .nilFunc] := by kernel_rfl
@[go_sem] theorem slA_83 : slA Tryd.prog 83 = none := by kernel_rfl
@[go_sem] theorem tyA_84 : tyA Tryd.prog 84 = some (false, 1) := by kernel_rfl
@[go_sem] theorem bytesA_84 : bytesA Tryd.prog 84 = true := by kernel_rfl
@[go_sem] theorem knownA_84 : knownA Tryd.prog 84 = true := by kernel_rfl
@[go_sem] theorem concA_84 : concA Tryd.prog 84 = true := by kernel_rfl
@[go_sem] theorem ikA_84 : ikA Tryd.prog 84 = none := by kernel_rfl
@[go_sem] theorem slB_84 : slB Tryd.prog 84 = true := by kernel_rfl
@[go_sem] theorem bldT_84 : bldT Tryd.prog 84 = none := by kernel_rfl
@[go_sem] theorem zeroA_84 : zeroA Tryd.prog 84 = some [.sl 1 [] .nil] := by kernel_rfl
@[go_sem] theorem slA_84 : slA Tryd.prog 84 = some 1 := by kernel_rfl
@[go_sem] theorem mkA_84 : mkA Tryd.prog 84 = some ([.int .u8 0], 1) := by kernel_rfl
@[go_sem] theorem apA_84 : apA Tryd.prog 84 = some (1, 1) := by kernel_rfl
@[go_sem] theorem partTy_84 (i : Nat) : partTy Tryd.prog 84 i = 5 := rfl_of_partTy (by kernel_rfl)
@[go_sem] theorem tyA_85 : tyA Tryd.prog 85 = some (false, 1) := by kernel_rfl
@[go_sem] theorem bytesA_85 : bytesA Tryd.prog 85 = false := by kernel_rfl
@[go_sem] theorem knownA_85 : knownA Tryd.prog 85 = true := by kernel_rfl
@[go_sem] theorem concA_85 : concA Tryd.prog 85 = true := by kernel_rfl
@[go_sem] theorem ikA_85 : ikA Tryd.prog 85 = none := by kernel_rfl
@[go_sem] theorem bldT_85 : bldT Tryd.prog 85 = none := by kernel_rfl
@[go_sem] theorem zeroA_85 : zeroA Tryd.prog 85 = some [.raw .nilFunc] := by kernel_rfl
@[go_sem] theorem slA_85 : slA Tryd.prog 85 = none := by kernel_rfl
@[go_sem] theorem tyA_86 : tyA Tryd.prog 86 = some (false, 1) := by kernel_rfl
@[go_sem] theorem bytesA_86 : bytesA Tryd.prog 86 = false := by kernel_rfl
@[go_sem] theorem knownA_86 : knownA Tryd.prog 86 = true := by kernel_rfl
@[go_sem] theorem concA_86 : concA Tryd.prog 86 = true := by kernel_rfl
@[go_sem] theorem ikA_86 : ikA Tryd.prog 86 = none := by kernel_rfl
@[go_sem] theorem bldT_86 : bldT Tryd.prog 86 = none := by kernel_rfl
@[go_sem] theorem zeroA_86 : zeroA Tryd.prog 86 = some [.raw .nilFunc] := by kernel_rfl
@[go_sem] theorem slA_86 : slA Tryd.prog 86 = none := by kernel_rfl
@[go_sem] theorem tyA_87 : tyA Tryd.prog 87 = some (false, 1) := by kernel_rfl
@[go_sem] theorem bytesA_87 : bytesA Tryd.prog 87 = false := by kernel_rfl
@[go_sem] theorem knownA_87 : knownA Tryd.prog 87 = true := by kernel_rfl
@[go_sem] theorem concA_87 : concA Tryd.prog 87 = true := by kernel_rfl
@[go_sem] theorem ikA_87 : ikA Tryd.prog 87 = none := by kernel_rfl
@[go_sem] theorem bldT_87 : bldT Tryd.prog 87 = none := by kernel_rfl
@[go_sem] theorem zeroA_87 : zeroA Tryd.prog 87 = some [.raw .nilFunc] := by kernel_rfl
@[go_sem] theorem slA_87 : slA Tryd.prog 87 = none := by kernel_rfl
@[go_sem] theorem tyA_88 : tyA Tryd.prog 88 = some (false, 1) := by kernel_rfl
@[go_sem] theorem bytesA_88 : bytesA Tryd.prog 88 = false := by kernel_rfl
@[go_sem] theorem knownA_88 : knownA Tryd.prog 88 = true := by kernel_rfl
@[go_sem] theorem concA_88 : concA Tryd.prog 88 = true := by kernel_rfl
@[go_sem] theorem ikA_88 : ikA Tryd.prog 88 = none := by kernel_rfl
@[go_sem] theorem bldT_88 : bldT Tryd.prog 88 = none := by kernel_rfl
@[go_sem] theorem zeroA_88 : zeroA Tryd.prog 88 = some [.raw .nilFunc] := by kernel_rfl
@[go_sem] theorem slA_88 : slA Tryd.prog 88 = none := by kernel_rfl
@[go_sem] theorem tyA_89 : tyA Tryd.prog 89 = some (false, 1) := by kernel_rfl
@[go_sem] theorem bytesA_89 : bytesA Tryd.prog 89 = false := by kernel_rfl
@[go_sem] theorem knownA_89 : knownA Tryd.prog 89 = true := by kernel_rfl
@[go_sem] theorem concA_89 : concA Tryd.prog 89 = true := by kernel_rfl
@[go_sem] theorem ikA_89 : ikA Tryd.prog 89 = none := by kernel_rfl
@[go_sem] theorem bldT_89 : bldT Tryd.prog 89 = none := by kernel_rfl
@[go_sem] theorem zeroA_89 : zeroA Tryd.prog 89 = some [.raw .nilFunc] := by kernel_rfl
@[go_sem] theorem slA_89 : slA Tryd.prog 89 = none := by kernel_rfl
@[go_sem] theorem tyA_90 : tyA Tryd.prog 90 = some (false, 1) := by kernel_rfl
@[go_sem] theorem bytesA_90 : bytesA Tryd.prog 90 = false := by kernel_rfl
@[go_sem] theorem knownA_90 : knownA Tryd.prog 90 = true := by kernel_rfl
@[go_sem] theorem concA_90 : concA Tryd.prog 90 = true := by kernel_rfl
@[go_sem] theorem ikA_90 : ikA Tryd.prog 90 = none := by kernel_rfl
@[go_sem] theorem bldT_90 : bldT Tryd.prog 90 = none := by kernel_rfl
@[go_sem] theorem zeroA_90 : zeroA Tryd.prog 90 = some [.raw (.pointer none)] := by kernel_rfl
@[go_sem] theorem slA_90 : slA Tryd.prog 90 = none := by kernel_rfl
@[go_sem] theorem tyA_92 : tyA Tryd.prog 92 = some (false, 1) := by kernel_rfl
@[go_sem] theorem bytesA_92 : bytesA Tryd.prog 92 = false := by kernel_rfl
@[go_sem] theorem knownA_92 : knownA Tryd.prog 92 = true := by kernel_rfl
@[go_sem] theorem concA_92 : concA Tryd.prog 92 = true := by kernel_rfl
@[go_sem] theorem ikA_92 : ikA Tryd.prog 92 = none := by kernel_rfl
@[go_sem] theorem bldT_92 : bldT Tryd.prog 92 = none := by kernel_rfl
@[go_sem] theorem zeroA_92 : zeroA Tryd.prog 92 = some [.raw .nilFunc] := by kernel_rfl
@[go_sem] theorem slA_92 : slA Tryd.prog 92 = none := by kernel_rfl
@[go_sem] theorem tyA_93 : tyA Tryd.prog 93 = some (false, 1) := by kernel_rfl
@[go_sem] theorem bytesA_93 : bytesA Tryd.prog 93 = false := by kernel_rfl
@[go_sem] theorem knownA_93 : knownA Tryd.prog 93 = true := by kernel_rfl
@[go_sem] theorem concA_93 : concA Tryd.prog 93 = true := by kernel_rfl
@[go_sem] theorem ikA_93 : ikA Tryd.prog 93 = none := by kernel_rfl
@[go_sem] theorem bldT_93 : bldT Tryd.prog 93 = none := by kernel_rfl
@[go_sem] theorem zeroA_93 : zeroA Tryd.prog 93 = some [.raw .nilFunc] := by kernel_rfl
@[go_sem] theorem slA_93 : slA Tryd.prog 93 = none := by kernel_rfl
@[go_sem] theorem tyA_94 : tyA Tryd.prog 94 = some (false, 1) := by kernel_rfl
@[go_sem] theorem bytesA_94 : bytesA Tryd.prog 94 = false := by kernel_rfl
@[go_sem] theorem knownA_94 : knownA Tryd.prog 94 = true := by kernel_rfl
@[go_sem] theorem concA_94 : concA Tryd.prog 94 = true := by kernel_rfl
@[go_sem] theorem ikA_94 : ikA Tryd.prog 94 = none := by kernel_rfl
@[go_sem] theorem bldT_94 : bldT Tryd.prog 94 = none := by kernel_rfl
@[go_sem] theorem zeroA_94 : zeroA Tryd.prog 94 = some [.raw .nilFunc] := by kernel_rfl
@[go_sem] theorem slA_94 : slA Tryd.prog 94 = none := by kernel_rfl
@[go_sem] theorem tyA_95 : tyA Tryd.prog 95 = some (true, 7) := by kernel_rfl
@[go_sem] theorem bytesA_95 : bytesA Tryd.prog 95 = false := by kernel_rfl
@[go_sem] theorem knownA_95 : knownA Tryd.prog 95 = true := by kernel_rfl
@[go_sem] theorem concA_95 : concA Tryd.prog 95 = true := by kernel_rfl
@[go_sem] theorem ikA_95 : ikA Tryd.prog 95 = none := by kernel_rfl
@[go_sem] theorem bldT_95 : bldT Tryd.prog 95 = none := by kernel_rfl
@[go_sem] theorem zeroA_95 : zeroA Tryd.prog 95 = some [.int .i64 0, .int .i64 0, .int .i64 0, .int .i64 0, .int .i64 0, .int .i64 0, .bool false] := by kernel_rfl
@[go_sem] theorem slA_95 : slA Tryd.prog 95 = none := by kernel_rfl
@[go_sem] theorem fsOk_95 : fsOk Tryd.prog 95 = true := by kernel_rfl
@[go_sem] theorem fldA_95_0 : fldA Tryd.prog 95 0 = some 0 := by kernel_rfl
@[go_sem] theorem fpA_95_0 : fpA Tryd.prog 95 0 = some (0, false, 1) := by kernel_rfl
@[go_sem] theorem plA_95_0 : plA Tryd.prog 95 0 = some (0, 1) := by kernel_rfl
@[go_sem] theorem partTy_95_0 : partTy Tryd.prog 95 0 = 3 := by kernel_rfl
@[go_sem] theorem fldA_95_1 : fldA Tryd.prog 95 1 = some 1 := by kernel_rfl
@[go_sem] theorem fpA_95_1 : fpA Tryd.prog 95 1 = some (1, false, 1) := by kernel_rfl
@[go_sem] theorem plA_95_1 : plA Tryd.prog 95 1 = some (1, 1) := by kernel_rfl
@[go_sem] theorem partTy_95_1 : partTy Tryd.prog 95 1 = 3 := by kernel_rfl
@[go_sem] theorem fldA_95_2 : fldA Tryd.prog 95 2 = some 2 := by kernel_rfl
@[go_sem] theorem fpA_95_2 : fpA Tryd.prog 95 2 = some (2, false, 1) := by kernel_rfl
@[go_sem] theorem plA_95_2 : plA Tryd.prog 95 2 = some (2, 1) := by kernel_rfl
@[go_sem] theorem partTy_95_2 : partTy Tryd.prog 95 2 = 3 := by kernel_rfl
@[go_sem] theorem fldA_95_3 : fldA Tryd.prog 95 3 = some 3 := by kernel_rfl
@[go_sem] theorem fpA_95_3 : fpA Tryd.prog 95 3 = some (3, false, 1) := by kernel_rfl
@[go_sem] theorem plA_95_3 : plA Tryd.prog 95 3 = some (3, 1) := by kernel_rfl
@[go_sem] theorem partTy_95_3 : partTy Tryd.prog 95 3 = 3 := by kernel_rfl
@[go_sem] theorem fldA_95_4 : fldA Tryd.prog 95 4 = some 4 := by kernel_rfl
@[go_sem] theorem fpA_95_4 : fpA Tryd.prog 95 4 = some (4, false, 1) := by kernel_rfl
@[go_sem] theorem plA_95_4 : plA Tryd.prog 95 4 = some (4, 1) := by kernel_rfl
@[go_sem] theorem partTy_95_4 : partTy Tryd.prog 95 4 = 3 := by kernel_rfl
@[go_sem] theorem fldA_95_5 : fldA Tryd.prog 95 5 = some 5 := by kernel_rfl
@[go_sem] theorem fpA_95_5 : fpA Tryd.prog 95 5 = some (5, false, 1) := by kernel_rfl
@[go_sem] theorem plA_95_5 : plA Tryd.prog 95 5 = some (5, 1) := by kernel_rfl
@[go_sem] theorem partTy_95_5 : partTy Tryd.prog 95 5 = 3 := by kernel_rfl
@[go_sem] theorem fldA_95_6 : fldA Tryd.prog 95 6 = some 6 := by kernel_rfl
@[go_sem] theorem fpA_95_6 : fpA Tryd.prog 95 6 = some (6, false, 1) := by kernel_rfl
@[go_sem] theorem plA_95_6 : plA Tryd.prog 95 6 = some (6, 1) := by kernel_rfl
@[go_sem] theorem partTy_95_6 : partTy Tryd.prog 95 6 = 4 := by kernel_rfl
@[go_sem] theorem eqKs_95 : eqKs Tryd.prog 95 = some [.int .i64, .int .i64, .int .i64, .int .i64, .int .i64, .int .i64, .bool] := by kernel_rfl
@[go_sem] theorem tyA_96 : tyA Tryd.prog 96 = some (true, 7) := by kernel_rfl
@[go_sem] theorem bytesA_96 : bytesA Tryd.prog 96 = false := by kernel_rfl
@[go_sem] theorem knownA_96 : knownA Tryd.prog 96 = true := by kernel_rfl
@[go_sem] theorem concA_96 : concA Tryd.prog 96 = true := by kernel_rfl
@[go_sem] theorem ikA_96 : ikA Tryd.prog 96 = none := by kernel_rfl
@[go_sem] theorem bldT_96 : bldT Tryd.prog 96 = none := by kernel_rfl
@[go_sem] theorem zeroA_96 : zeroA Tryd.prog 96 = some [.int .i64 0, .int .i64 0, .int .i64 0, .int .i64 0, .int .i64 0, .int .i64 0, .bool false] := by kernel_rfl
@[go_sem] theorem slA_96 : slA Tryd.prog 96 = none := by kernel_rfl
@[go_sem] theorem fsOk_96 : fsOk Tryd.prog 96 = true := by kernel_rfl
@[go_sem] theorem fldA_96_0 : fldA Tryd.prog 96 0 = some 0 := by kernel_rfl
@[go_sem] theorem fpA_96_0 : fpA Tryd.prog 96 0 = some (0, false, 1) := by kernel_rfl
@[go_sem] theorem plA_96_0 : plA Tryd.prog 96 0 = some (0, 1) := by kernel_rfl
@[go_sem] theorem partTy_96_0 : partTy Tryd.prog 96 0 = 3 := by kernel_rfl
@[go_sem] theorem fldA_96_1 : fldA Tryd.prog 96 1 = some 1 := by kernel_rfl
@[go_sem] theorem fpA_96_1 : fpA Tryd.prog 96 1 = some (1, false, 1) := by kernel_rfl
@[go_sem] theorem plA_96_1 : plA Tryd.prog 96 1 = some (1, 1) := by kernel_rfl
@[go_sem] theorem partTy_96_1 : partTy Tryd.prog 96 1 = 3 := by kernel_rfl
@[go_sem] theorem fldA_96_2 : fldA Tryd.prog 96 2 = some 2 := by kernel_rfl
@[go_sem] theorem fpA_96_2 : fpA Tryd.prog 96 2 = some (2, false, 1) := by kernel_rfl
@[go_sem] theorem plA_96_2 : plA Tryd.prog 96 2 = some (2, 1) := by kernel_rfl
@[go_sem] theorem partTy_96_2 : partTy Tryd.prog 96 2 = 3 := by kernel_rfl
@[go_sem] theorem fldA_96_3 : fldA Tryd.prog 96 3 = some 3 := by kernel_rfl
@[go_sem] theorem fpA_96_3 : fpA Tryd.prog 96 3 = some (3, false, 1) := by kernel_rfl
@[go_sem] theorem plA_96_3 : plA Tryd.prog 96 3 = some (3, 1) := by kernel_rfl
@[go_sem] theorem partTy_96_3 : partTy Tryd.prog 96 3 = 3 := by kernel_rfl
@[go_sem] theorem fldA_96_4 : fldA Tryd.prog 96 4 = some 4 := by kernel_rfl
@[go_sem] theorem fpA_96_4 : fpA Tryd.prog 96 4 = some (4, false, 1) := by kernel_rfl
@[go_sem] theorem plA_96_4 : plA Tryd.prog 96 4 = some (4, 1) := by kernel_rfl
@[go_sem] theorem partTy_96_4 : partTy Tryd.prog 96 4 = 3 := by kernel_rfl
@[go_sem] theorem fldA_96_5 : fldA Tryd.prog 96 5 = some 5 := by kernel_rfl
@[go_sem] theorem fpA_96_5 : fpA Tryd.prog 96 5 = some (5, false, 1) := by kernel_rfl
@[go_sem] theorem plA_96_5 : plA Tryd.prog 96 5 = some (5, 1) := by kernel_rfl
@[go_sem] theorem partTy_96_5 : partTy Tryd.prog 96 5 = 3 := by kernel_rfl
@[go_sem] theorem fldA_96_6 : fldA Tryd.prog 96 6 = some 6 := by kernel_rfl
@[go_sem] theorem fpA_96_6 : fpA Tryd.prog 96 6 = some (6, false, 1) := by kernel_rfl
@[go_sem] theorem plA_96_6 : plA Tryd.prog 96 6 = some (6, 1) := by kernel_rfl
@[go_sem] theorem partTy_96_6 : partTy Tryd.prog 96 6 = 4 := by kernel_rfl
@[go_sem] theorem eqKs_96 : eqKs Tryd.prog 96 = some [.int .i64, .int .i64, .int .i64, .int .i64, .int .i64, .int .i64, .bool] := by kernel_rfl
@[go_sem] theorem tyA_97 : tyA Tryd.prog 97 = some (false, 1) := by kernel_rfl
@[go_sem] theorem bytesA_97 : bytesA Tryd.prog 97 = false := by kernel_rfl
@[go_sem] theorem knownA_97 : knownA Tryd.prog 97 = true := by kernel_rfl
@[go_sem] theorem concA_97 : concA Tryd.prog 97 = true := by kernel_rfl
@[go_sem] theorem ikA_97 : ikA Tryd.prog 97 = none := by kernel_rfl
@[go_sem] theorem bldT_97 : bldT Tryd.prog 97 = none := by kernel_rfl
@[go_sem] theorem zeroA_97 : zeroA Tryd.prog 97 = some [.raw .nilFunc] := by kernel_rfl
@[go_sem] theorem slA_97 : slA Tryd.prog 97 = none := by kernel_rfl
@[go_sem] theorem tyA_98 : tyA Tryd.prog 98 = some (true, 4) := by kernel_rfl
@[go_sem] theorem bytesA_98 : bytesA Tryd.prog 98 = false := by kernel_rfl
@[go_sem] theorem knownA_98 : knownA Tryd.prog 98 = true := by kernel_rfl
@[go_sem] theorem concA_98 : concA Tryd.prog 98 = true := by kernel_rfl
@[go_sem] theorem ikA_98 : ikA Tryd.prog 98 = none := by kernel_rfl
@[go_sem] theorem bldT_98 : bldT Tryd.prog 98 = none := by kernel_rfl
@[go_sem] theorem zeroA_98 : zeroA Tryd.prog 98 = some [.int .i64 0, .int .i64 0, .int .i64 0, .int .i64 0] := by kernel_rfl
@[go_sem] theorem slA_98 : slA Tryd.prog 98 = none := by kernel_rfl
@[go_sem] theorem fsOk_98 : fsOk Tryd.prog 98 = true := by kernel_rfl
@[go_sem] theorem fldA_98_0 : fldA Tryd.prog 98 0 = some 0 := by kernel_rfl
@[go_sem] theorem fpA_98_0 : fpA Tryd.prog 98 0 = some (0, false, 1) := by kernel_rfl
@[go_sem] theorem plA_98_0 : plA Tryd.prog 98 0 = some (0, 1) := by kernel_rfl
@[go_sem] theorem partTy_98_0 : partTy Tryd.prog 98 0 = 3 := by kernel_rfl
@[go_sem] theorem fldA_98_1 : fldA Tryd.prog 98 1 = some 1 := by kernel_rfl
@[go_sem] theorem fpA_98_1 : fpA Tryd.prog 98 1 = some (1, false, 1) := by kernel_rfl
@[go_sem] theorem plA_98_1 : plA Tryd.prog 98 1 = some (1, 1) := by kernel_rfl
@[go_sem] theorem partTy_98_1 : partTy Tryd.prog 98 1 = 3 := by kernel_rfl
@[go_sem] theorem fldA_98_2 : fldA Tryd.prog 98 2 = some 2 := by kernel_rfl
@[go_sem] theorem fpA_98_2 : fpA Tryd.prog 98 2 = some (2, false, 1) := by kernel_rfl
@[go_sem] theorem plA_98_2 : plA Tryd.prog 98 2 = some (2, 1) := by kernel_rfl
@[go_sem] theorem partTy_98_2 : partTy Tryd.prog 98 2 = 3 := by kernel_rfl
@[go_sem] theorem fldA_98_3 : fldA Tryd.prog 98 3 = some 3 := by kernel_rfl
@[go_sem] theorem fpA_98_3 : fpA Tryd.prog 98 3 = some (3, false, 1) := by kernel_rfl
@[go_sem] theorem plA_98_3 : plA Tryd.prog 98 3 = some (3, 1) := by kernel_rfl
@[go_sem] theorem partTy_98_3 : partTy Tryd.prog 98 3 = 3 := by kernel_rfl
@[go_sem] theorem eqKs_98 : eqKs Tryd.prog 98 = some [.int .i64, .int .i64, .int .i64, .int .i64] := by kernel_rfl
@[go_sem] theorem tyA_99 : tyA Tryd.prog 99 = some (true, 4) := by kernel_rfl
@[go_sem] theorem bytesA_99 : bytesA Tryd.prog 99 = false := by kernel_rfl
@[go_sem] theorem knownA_99 : knownA Tryd.prog 99 = true := by kernel_rfl
@[go_sem] theorem concA_99 : concA Tryd.prog 99 = true := by kernel_rfl
@[go_sem] theorem ikA_99 : ikA Tryd.prog 99 = none := by kernel_rfl
@[go_sem] theorem bldT_99 : bldT Tryd.prog 99 = none := by kernel_rfl
@[go_sem] theorem zeroA_99 : zeroA Tryd.prog 99 = some [.int .i64 0, .int .i64 0, .int .i64 0, .int .i64 0] := by kernel_rfl
@[go_sem] theorem slA_99 : slA Tryd.prog 99 = none := by kernel_rfl
@[go_sem] theorem fsOk_99 : fsOk Tryd.prog 99 = true := by kernel_rfl
@[go_sem] theorem fldA_99_0 : fldA Tryd.prog 99 0 = some 0 := by kernel_rfl
@[go_sem] theorem fpA_99_0 : fpA Tryd.prog 99 0 = some (0, false, 1) := by kernel_rfl
@[go_sem] theorem plA_99_0 : plA Tryd.prog 99 0 = some (0, 1) := by kernel_rfl
@[go_sem] theorem partTy_99_0 : partTy Tryd.prog 99 0 = 3 := by kernel_rfl
@[go_sem] theorem fldA_99_1 : fldA Tryd.prog 99 1 = some 1 := by kernel_rfl
@[go_sem] theorem fpA_99_1 : fpA Tryd.prog 99 1 = some (1, false, 1) := by kernel_rfl
@[go_sem] theorem plA_99_1 : plA Tryd.prog 99 1 = some (1, 1) := by kernel_rfl
@[go_sem] theorem partTy_99_1 : partTy Tryd.prog 99 1 = 3 := by kernel_rfl
@[go_sem] theorem fldA_99_2 : fldA Tryd.prog 99 2 = some 2 := by kernel_rfl
@[go_sem] theorem fpA_99_2 : fpA Tryd.prog 99 2 = some (2, false, 1) := by kernel_rfl
@[go_sem] theorem plA_99_2 : plA Tryd.prog 99 2 = some (2, 1) := by kernel_rfl
@[go_sem] theorem partTy_99_2 : partTy Tryd.prog 99 2 = 3 := by kernel_rfl
@[go_sem] theorem fldA_99_3 : fldA Tryd.prog 99 3 = some 3 := by kernel_rfl
@[go_sem] theorem fpA_99_3 : fpA Tryd.prog 99 3 = some (3, false, 1) := by kernel_rfl
@[go_sem] theorem plA_99_3 : plA Tryd.prog 99 3 = some (3, 1) := by kernel_rfl
@[go_sem] theorem partTy_99_3 : partTy Tryd.prog 99 3 = 3 := by kernel_rfl
@[go_sem] theorem eqKs_99 : eqKs Tryd.prog 99 = some [.int .i64, .int .i64, .int .i64, .int .i64] := by kernel_rfl
@[go_sem] theorem tyA_100 : tyA Tryd.prog 100 = some (false, 1) := by kernel_rfl
@[go_sem] theorem bytesA_100 : bytesA Tryd.prog 100 = false := by kernel_rfl
@[go_sem] theorem knownA_100 : knownA Tryd.prog 100 = true := by kernel_rfl
@[go_sem] theorem concA_100 : concA Tryd.prog 100 = true := by kernel_rfl
@[go_sem] theorem ikA_100 : ikA Tryd.prog 100 = none := by kernel_rfl
@[go_sem] theorem bldT_100 : bldT Tryd.prog 100 = none := by kernel_rfl
@[go_sem] theorem zeroA_100 : zeroA Tryd.prog 100 = some [.raw .nilFunc] := by kernel_rfl
@[go_sem] theorem slA_100 : slA Tryd.prog 100 = none := by kernel_rfl
@[go_sem] theorem tyA_101 : tyA Tryd.prog 101 = some (true, 2) := by kernel_rfl
@[go_sem] theorem bytesA_101 : bytesA Tryd.prog 101 = false := by kernel_rfl
@[go_sem] theorem knownA_101 : knownA Tryd.prog 101 = true := by kernel_rfl
@[go_sem] theorem concA_101 : concA Tryd.prog 101 = true := by kernel_rfl
@[go_sem] theorem ikA_101 : ikA Tryd.prog 101 = none := by kernel_rfl
@[go_sem] theorem bldT_101 : bldT Tryd.prog 101 = none := by kernel_rfl
@[go_sem] theorem zeroA_101 : zeroA Tryd.prog 101 = some [.int .i64 0, .int .i64 0] := by kernel_rfl
@[go_sem] theorem slA_101 : slA Tryd.prog 101 = none := by kernel_rfl
@[go_sem] theorem fsOk_101 : fsOk Tryd.prog 101 = true := by kernel_rfl
@[go_sem] theorem fldA_101_0 : fldA Tryd.prog 101 0 = some 0 := by kernel_rfl
@[go_sem] theorem fpA_101_0 : fpA Tryd.prog 101 0 = some (0, false, 1) := by kernel_rfl
@[go_sem] theorem plA_101_0 : plA Tryd.prog 101 0 = some (0, 1) := by kernel_rfl
@[go_sem] theorem partTy_101_0 : partTy Tryd.prog 101 0 = 3 := by kernel_rfl
@[go_sem] theorem fldA_101_1 : fldA Tryd.prog 101 1 = some 1 := by kernel_rfl
@[go_sem] theorem fpA_101_1 : fpA Tryd.prog 101 1 = some (1, false, 1) := by kernel_rfl
@[go_sem] theorem plA_101_1 : plA Tryd.prog 101 1 = some (1, 1) := by kernel_rfl
@[go_sem] theorem partTy_101_1 : partTy Tryd.prog 101 1 = 3 := by kernel_rfl
@[go_sem] theorem eqKs_101 : eqKs Tryd.prog 101 = some [.int .i64, .int .i64] := by kernel_rfl
@[go_sem] theorem tyA_102 : tyA Tryd.prog 102 = some (true, 2) := by kernel_rfl
@[go_sem] theorem bytesA_102 : bytesA Tryd.prog 102 = false := by kernel_rfl
@[go_sem] theorem knownA_102 : knownA Tryd.prog 102 = true := by kernel_rfl
@[go_sem] theorem concA_102 : concA Tryd.prog 102 = true := by kernel_rfl
@[go_sem] theorem ikA_102 : ikA Tryd.prog 102 = none := by kernel_rfl
@[go_sem] theorem bldT_102 : bldT Tryd.prog 102 = none := by kernel_rfl
@[go_sem] theorem zeroA_102 : zeroA Tryd.prog 102 = some [.int .i64 0, .int .i64 0] := by kernel_rfl
@[go_sem] theorem slA_102 : slA Tryd.prog 102 = none := by kernel_rfl
@[go_sem] theorem fsOk_102 : fsOk Tryd.prog 102 = true := by kernel_rfl
@[go_sem] theorem fldA_102_0 : fldA Tryd.prog 102 0 = some 0 := by kernel_rfl
@[go_sem] theorem fpA_102_0 : fpA Tryd.prog 102 0 = some (0, false, 1) := by kernel_rfl
@[go_sem] theorem plA_102_0 : plA Tryd.prog 102 0 = some (0, 1) := by kernel_rfl
@[go_sem] theorem partTy_102_0 : partTy Tryd.prog 102 0 = 3 := by kernel_rfl
@[go_sem] theorem fldA_102_1 : fldA Tryd.prog 102 1 = some 1 := by kernel_rfl
@[go_sem] theorem fpA_102_1 : fpA Tryd.prog 102 1 = some (1, false, 1) := by kernel_rfl
@[go_sem] theorem plA_102_1 : plA Tryd.prog 102 1 = some (1, 1) := by kernel_rfl
@[go_sem] theorem partTy_102_1 : partTy Tryd.prog 102 1 = 3 := by kernel_rfl
@[go_sem] theorem eqKs_102 : eqKs Tryd.prog 102 = some [.int .i64, .int .i64] := by kernel_rfl
@[go_sem] theorem tyA_103 : tyA Tryd.prog 103 = some (false, 1) := by kernel_rfl
@[go_sem] theorem bytesA_103 : bytesA Tryd.prog 103 = false := by kernel_rfl
@[go_sem] theorem knownA_103 : knownA Tryd.prog 103 = true := by kernel_rfl
@[go_sem] theorem concA_103 : concA Tryd.prog 103 = true := by kernel_rfl
@[go_sem] theorem ikA_103 : ikA Tryd.prog 103 = none := by kernel_rfl
@[go_sem] theorem bldT_103 : bldT Tryd.prog 103 = none := by kernel_rfl
@[go_sem] theorem zeroA_103 : zeroA Tryd.prog 103 = some [.raw .nilFunc] := by kernel_rfl
@[go_sem] theorem slA_103 : slA Tryd.prog 103 = none := by kernel_rfl
@[go_sem] theorem tyA_104 : tyA Tryd.prog 104 = some (true, 2) := by kernel_rfl
@[go_sem] theorem bytesA_104 : bytesA Tryd.prog 104 = false := by kernel_rfl
@[go_sem] theorem knownA_104 : knownA Tryd.prog 104 = true := by kernel_rfl
@[go_sem] theorem concA_104 : concA Tryd.prog 104 = true := by kernel_rfl
@[go_sem] theorem ikA_104 : ikA Tryd.prog 104 = none := by kernel_rfl
@[go_sem] theorem bldT_104 : bldT Tryd.prog 104 = none := by kernel_rfl
@[go_sem] theorem zeroA_104 : zeroA Tryd.prog 104 = some [.int .i64 0, .int .i64 0] := by kernel_rfl
@[go_sem] theorem slA_104 : slA Tryd.prog 104 = none := by kernel_rfl
@[go_sem] theorem fsOk_104 : fsOk Tryd.prog 104 = true := by kernel_rfl
@[go_sem] theorem fldA_104_0 : fldA Tryd.prog 104 0 = some 0 := by kernel_rfl
@[go_sem] theorem fpA_104_0 : fpA Tryd.prog 104 0 = some (0, false, 1) := by kernel_rfl
@[go_sem] theorem plA_104_0 : plA Tryd.prog 104 0 = some (0, 1) := by kernel_rfl
@[go_sem] theorem partTy_104_0 : partTy Tryd.prog 104 0 = 3 := by kernel_rfl
@[go_sem] theorem fldA_104_1 : fldA Tryd.prog 104 1 = some 1 := by kernel_rfl
@[go_sem] theorem fpA_104_1 : fpA Tryd.prog 104 1 = some (1, false, 1) := by kernel_rfl
@[go_sem] theorem plA_104_1 : plA Tryd.prog 104 1 = some (1, 1) := by kernel_rfl
@[go_sem] theorem partTy_104_1 : partTy Tryd.prog 104 1 = 3 := by kernel_rfl
@[go_sem] theorem eqKs_104 : eqKs Tryd.prog 104 = some [.int .i64, .int .i64] := by kernel_rfl
@[go_sem] theorem tyA_105 : tyA Tryd.prog 105 = some (true, 2) := by kernel_rfl
@[go_sem] theorem bytesA_105 : bytesA Tryd.prog 105 = false := by kernel_rfl
@[go_sem] theorem knownA_105 : knownA Tryd.prog 105 = true := by kernel_rfl
@[go_sem] theorem concA_105 : concA Tryd.prog 105 = true := by kernel_rfl
@[go_sem] theorem ikA_105 : ikA Tryd.prog 105 = none := by kernel_rfl
@[go_sem] theorem bldT_105 : bldT Tryd.prog 105 = none := by kernel_rfl
@[go_sem] theorem zeroA_105 : zeroA Tryd.prog 105 = some [.int .i64 0, .int .i64 0] := by kernel_rfl
@[go_sem] theorem slA_105 : slA Tryd.prog 105 = none := by kernel_rfl
@[go_sem] theorem fsOk_105 : fsOk Tryd.prog 105 = true := by kernel_rfl
@[go_sem] theorem fldA_105_0 : fldA Tryd.prog 105 0 = some 0 := by kernel_rfl
@[go_sem] theorem fpA_105_0 : fpA Tryd.prog 105 0 = some (0, false, 1) := by kernel_rfl
@[go_sem] theorem plA_105_0 : plA Tryd.prog 105 0 = some (0, 1) := by kernel_rfl
@[go_sem] theorem partTy_105_0 : partTy Tryd.prog 105 0 = 3 := by kernel_rfl
@[go_sem] theorem fldA_105_1 : fldA Tryd.prog 105 1 = some 1 := by kernel_rfl
@[go_sem] theorem fpA_105_1 : fpA Tryd.prog 105 1 = some (1, false, 1) := by kernel_rfl
@[go_sem] theorem plA_105_1 : plA Tryd.prog 105 1 = some (1, 1) := by kernel_rfl
@[go_sem] theorem partTy_105_1 : partTy Tryd.prog 105 1 = 3 := by kernel_rfl
@[go_sem] theorem eqKs_105 : eqKs Tryd.prog 105 = some [.int .i64, .int .i64] := by kernel_rfl
@[go_sem] theorem tyA_106 : tyA Tryd.prog 106 = some (false, 1) := by kernel_rfl
@[go_sem] theorem bytesA_106 : bytesA Tryd.prog 106 = false := by kernel_rfl
@[go_sem] theorem knownA_106 : knownA Tryd.prog 106 = true := by kernel_rfl
@[go_sem] theorem concA_106 : concA Tryd.prog 106 = true := by kernel_rfl
@[go_sem] theorem ikA_106 : ikA Tryd.prog 106 = none := by kernel_rfl
@[go_sem] theorem bldT_106 : bldT Tryd.prog 106 = none := by kernel_rfl
@[go_sem] theorem zeroA_106 : zeroA Tryd.prog 106 = some [.raw (.pointer none)] := by kernel_rfl
@[go_sem] theorem slA_106 : slA Tryd.prog 106 = none := by kernel_rfl
@[go_sem] theorem tyA_107 : tyA Tryd.prog 107 = some (true, 2) := by kernel_rfl
@[go_sem] theorem bytesA_107 : bytesA Tryd.prog 107 = false := by kernel_rfl
@[go_sem] theorem knownA_107 : knownA Tryd.prog 107 = true := by kernel_rfl
@[go_sem] theorem concA_107 : concA Tryd.prog 107 = true := by kernel_rfl
@[go_sem] theorem ikA_107 : ikA Tryd.prog 107 = none := by kernel_rfl
@[go_sem] theorem bldT_107 : bldT Tryd.prog 107 = some 5 := by kernel_rfl
@[go_sem] theorem zeroA_107 : zeroA Tryd.prog 107 = some [.raw (.pointer none), .sl 1 [] .nil] := by kernel_rfl
@[go_sem] theorem slA_107 : slA Tryd.prog 107 = none := by kernel_rfl
@[go_sem] theorem fsOk_107 : fsOk Tryd.prog 107 = true := by kernel_rfl
@[go_sem] theorem fldA_107_0 : fldA Tryd.prog 107 0 = some 0 := by kernel_rfl
@[go_sem] theorem fpA_107_0 : fpA Tryd.prog 107 0 = some (0, false, 1) := by kernel_rfl
@[go_sem] theorem plA_107_0 : plA Tryd.prog 107 0 = some (0, 1) := by kernel_rfl
@[go_sem] theorem partTy_107_0 : partTy Tryd.prog 107 0 = 106 := by kernel_rfl
@[go_sem] theorem fldA_107_1 : fldA Tryd.prog 107 1 = some 1 := by kernel_rfl
@[go_sem] theorem fpA_107_1 : fpA Tryd.prog 107 1 = some (1, false, 1) := by kernel_rfl
@[go_sem] theorem plA_107_1 : plA Tryd.prog 107 1 = some (1, 1) := by kernel_rfl
@[go_sem] theorem partTy_107_1 : partTy Tryd.prog 107 1 = 84 := by kernel_rfl
@[go_sem] theorem tyA_108 : tyA Tryd.prog 108 = some (true, 2) := by kernel_rfl
@[go_sem] theorem bytesA_108 : bytesA Tryd.prog 108 = false := by kernel_rfl
@[go_sem] theorem knownA_108 : knownA Tryd.prog 108 = true := by kernel_rfl
@[go_sem] theorem concA_108 : concA Tryd.prog 108 = true := by kernel_rfl
@[go_sem] theorem ikA_108 : ikA Tryd.prog 108 = none := by kernel_rfl
@[go_sem] theorem bldT_108 : bldT Tryd.prog 108 = some 5 := by kernel_rfl
@[go_sem] theorem zeroA_108 : zeroA Tryd.prog 108 = some [.raw (.pointer none), .sl 1 [] .nil] := by kernel_rfl
@[go_sem] theorem slA_108 : slA Tryd.prog 108 = none := by kernel_rfl
@[go_sem] theorem fsOk_108 : fsOk Tryd.prog 108 = true := by kernel_rfl
@[go_sem] theorem fldA_108_0 : fldA Tryd.prog 108 0 = some 0 := by kernel_rfl
@[go_sem] theorem fpA_108_0 : fpA Tryd.prog 108 0 = some (0, false, 1) := by kernel_rfl
@[go_sem] theorem plA_108_0 : plA Tryd.prog 108 0 = some (0, 1) := by kernel_rfl
@[go_sem] theorem partTy_108_0 : partTy Tryd.prog 108 0 = 106 := by kernel_rfl
@[go_sem] theorem fldA_108_1 : fldA Tryd.prog 108 1 = some 1 := by kernel_rfl
@[go_sem] theorem fpA_108_1 : fpA Tryd.prog 108 1 = some (1, false, 1) := by kernel_rfl
@[go_sem] theorem plA_108_1 : plA Tryd.prog 108 1 = some (1, 1) := by kernel_rfl
@[go_sem] theorem partTy_108_1 : partTy Tryd.prog 108 1 = 84 := by kernel_rfl
@[go_sem] theorem tyA_109 : tyA Tryd.prog 109 = some (false, 1) := by kernel_rfl
@[go_sem] theorem bytesA_109 : bytesA Tryd.prog 109 = false := by kernel_rfl
@[go_sem] theorem knownA_109 : knownA Tryd.prog 109 = true := by kernel_rfl
@[go_sem] theorem ikA_109 : ikA Tryd.prog 109 = none := by kernel_rfl
@[go_sem] theorem ifB_109 : ifB Tryd.prog 109 = true := by kernel_rfl
@[go_sem] theorem bldT_109 : bldT Tryd.prog 109 = none := by kernel_rfl
@[go_sem] theorem zeroA_109 : zeroA Tryd.prog 109 = some [.raw .nilIface] := by kernel_rfl
@[go_sem] theorem slA_109 : slA Tryd.prog 109 = none := by kernel_rfl
@[go_sem] theorem tyA_110 : tyA Tryd.prog 110 = some (false, 1) := by kernel_rfl
@[go_sem] theorem bytesA_110 : bytesA Tryd.prog 110 = false := by kernel_rfl
@[go_sem] theorem knownA_110 : knownA Tryd.prog 110 = true := by kernel_rfl
@[go_sem] theorem ikA_110 : ikA Tryd.prog 110 = none := by kernel_rfl
@[go_sem] theorem ifB_110 : ifB Tryd.prog 110 = true := by kernel_rfl
@[go_sem] theorem bldT_110 : bldT Tryd.prog 110 = none := by kernel_rfl
@[go_sem] theorem zeroA_110 : zeroA Tryd.prog 110 = some [.raw .nilIface] := by kernel_rfl
@[go_sem] theorem slA_110 : slA Tryd.prog 110 = none := by kernel_rfl
@[go_sem] theorem tyA_112 : tyA Tryd.prog 112 = some (false, 1) := by kernel_rfl
@[go_sem] theorem bytesA_112 : bytesA Tryd.prog 112 = false := by kernel_rfl
@[go_sem] theorem knownA_112 : knownA Tryd.prog 112 = true := by kernel_rfl
@[go_sem] theorem concA_112 : concA Tryd.prog 112 = true := by kernel_rfl
@[go_sem] theorem ikA_112 : ikA Tryd.prog 112 = none := by kernel_rfl
@[go_sem] theorem bldT_112 : bldT Tryd.prog 112 = none := by kernel_rfl
@[go_sem] theorem zeroA_112 : zeroA Tryd.prog 112 = some [.raw .nilFunc] := by kernel_rfl
@[go_sem] theorem slA_112 : slA Tryd.prog 112 = none := by kernel_rfl
@[go_sem] theorem tyA_113 : tyA Tryd.prog 113 = some (false, 1) := by kernel_rfl
@[go_sem] theorem bytesA_113 : bytesA Tryd.prog 113 = false := by kernel_rfl
@[go_sem] theorem knownA_113 : knownA Tryd.prog 113 = true := by kernel_rfl
@[go_sem] theorem concA_113 : concA Tryd.prog 113 = true := by kernel_rfl
@[go_sem] theorem ikA_113 : ikA Tryd.prog 113 = none := by kernel_rfl
@[go_sem] theorem bldT_113 : bldT Tryd.prog 113 = none := by kernel_rfl
@[go_sem] theorem zeroA_113 : zeroA Tryd.prog 113 = some [.raw .nilFunc] := by kernel_rfl
@[go_sem] theorem slA_113 : slA Tryd.prog 113 = none := by kernel_rfl
@[go_sem] theorem tyA_114 : tyA Tryd.prog 114 = some (false, 1) := by kernel_rfl
@[go_sem] theorem bytesA_114 : bytesA Tryd.prog 114 = false := by kernel_rfl
@[go_sem] theorem knownA_114 : knownA Tryd.prog 114 = true := by kernel_rfl
@[go_sem] theorem concA_114 : concA Tryd.prog 114 = true := by kernel_rfl
@[go_sem] theorem ikA_114 : ikA Tryd.prog 114 = none := by kernel_rfl
@[go_sem] theorem bldT_114 : bldT Tryd.prog 114 = none := by kernel_rfl
@[go_sem] theorem zeroA_114 : zeroA Tryd.prog 114 = some [.raw .nilFunc] := by kernel_rfl
@[go_sem] theorem slA_114 : slA Tryd.prog 114 = none := by kernel_rfl
@[go_sem] theorem tyA_115 : tyA Tryd.prog 115 = some (false, 1) := by kernel_rfl
@[go_sem] theorem bytesA_115 : bytesA Tryd.prog 115 = false := by kernel_rfl
@[go_sem] theorem knownA_115 : knownA Tryd.prog 115 = true := by kernel_rfl
@[go_sem] theorem concA_115 : concA Tryd.prog 115 = true := by kernel_rfl
@[go_sem] theorem ikA_115 : ikA Tryd.prog 115 = none := by kernel_rfl
@[go_sem] theorem bldT_115 : bldT Tryd.prog 115 = none := by kernel_rfl
@[go_sem] theorem zeroA_115 : zeroA Tryd.prog 115 = some [.raw .nilFunc] := by kernel_rfl
@[go_sem] theorem slA_115 : slA Tryd.prog 115 = none := by kernel_rfl
@[go_sem] theorem tyA_116 : tyA Tryd.prog 116 = some (false, 1) := by kernel_rfl
@[go_sem] theorem bytesA_116 : bytesA Tryd.prog 116 = false := by kernel_rfl
@[go_sem] theorem knownA_116 : knownA Tryd.prog 116 = true := by kernel_rfl
@[go_sem] theorem concA_116 : concA Tryd.prog 116 = true := by kernel_rfl
@[go_sem] theorem ikA_116 : ikA Tryd.prog 116 = none := by kernel_rfl
@[go_sem] theorem bldT_116 : bldT Tryd.prog 116 = none := by kernel_rfl
@[go_sem] theorem zeroA_116 : zeroA Tryd.prog 116 = some [.raw .nilFunc] := by kernel_rfl
@[go_sem] theorem slA_116 : slA Tryd.prog 116 = none := by kernel_rfl
@[go_sem] theorem tyA_117 : tyA Tryd.prog 117 = some (false, 1) := by kernel_rfl
@[go_sem] theorem bytesA_117 : bytesA Tryd.prog 117 = false := by kernel_rfl
@[go_sem] theorem knownA_117 : knownA Tryd.prog 117 = true := by kernel_rfl
@[go_sem] theorem concA_117 : concA Tryd.prog 117 = true := by kernel_rfl
@[go_sem] theorem ikA_117 : ikA Tryd.prog 117 = none := by kernel_rfl
@[go_sem] theorem bldT_117 : bldT Tryd.prog 117 = none := by kernel_rfl
@[go_sem] theorem zeroA_117 : zeroA Tryd.prog 117 = some [.raw .nilFunc] := by kernel_rfl
@[go_sem] theorem slA_117 : slA Tryd.prog 117 = none := by kernel_rfl
@[go_sem] theorem tyA_119 : tyA Tryd.prog 119 = some (false, 1) := by kernel_rfl
@[go_sem] theorem bytesA_119 : bytesA Tryd.prog 119 = false := by kernel_rfl
@[go_sem] theorem knownA_119 : knownA Tryd.prog 119 = true := by kernel_rfl
@[go_sem] theorem concA_119 : concA Tryd.prog 119 = true := by kernel_rfl
@[go_sem] theorem ikA_119 : ikA Tryd.prog 119 = none := by kernel_rfl
@[go_sem] theorem bldT_119 : bldT Tryd.prog 119 = none := by kernel_rfl
@[go_sem] theorem zeroA_119 : zeroA Tryd.prog 119 = some [.raw .nilFunc] := by kernel_rfl
@[go_sem] theorem slA_119 : slA Tryd.prog 119 = none := by kernel_rfl
@[go_sem] theorem tyA_120 : tyA Tryd.prog 120 = some (false, 1) := by kernel_rfl
@[go_sem] theorem bytesA_120 : bytesA Tryd.prog 120 = false := by kernel_rfl
@[go_sem] theorem knownA_120 : knownA Tryd.prog 120 = true := by kernel_rfl
@[go_sem] theorem concA_120 : concA Tryd.prog 120 = true := by kernel_rfl
@[go_sem] theorem ikA_120 : ikA Tryd.prog 120 = none := by kernel_rfl
@[go_sem] theorem bldT_120 : bldT Tryd.prog 120 = none := by kernel_rfl
@[go_sem] theorem zeroA_120 : zeroA Tryd.prog 120 = some [.raw .nilFunc] := by kernel_rfl
@[go_sem] theorem slA_120 : slA Tryd.prog 120 = none := by kernel_rfl
@[go_sem] theorem tyA_121 : tyA Tryd.prog 121 = some (false, 1) := by kernel_rfl
@[go_sem] theorem bytesA_121 : bytesA Tryd.prog 121 = false := by kernel_rfl
@[go_sem] theorem knownA_121 : knownA Tryd.prog 121 = true := by kernel_rfl
@[go_sem] theorem concA_121 : concA Tryd.prog 121 = true := by kernel_rfl
@[go_sem] theorem ikA_121 : ikA Tryd.prog 121 = none := by kernel_rfl
@[go_sem] theorem bldT_121 : bldT Tryd.prog 121 = none := by kernel_rfl
@[go_sem] theorem zeroA_121 : zeroA Tryd.prog 121 = some [.raw .nilFunc] := by kernel_rfl
@[go_sem] theorem slA_121 : slA Tryd.prog 121 = none := by kernel_rfl
@[go_sem] theorem tyA_122 : tyA Tryd.prog 122 = some (false, 1) := by kernel_rfl
@[go_sem] theorem bytesA_122 : bytesA Tryd.prog 122 = false := by kernel_rfl
@[go_sem] theorem knownA_122 : knownA Tryd.prog 122 = true := by kernel_rfl
@[go_sem] theorem concA_122 : concA Tryd.prog 122 = true := by kernel_rfl
@[go_sem] theorem ikA_122 : ikA Tryd.prog 122 = none := by kernel_rfl
@[go_sem] theorem bldT_122 : bldT Tryd.prog 122 = none := by kernel_rfl
@[go_sem] theorem zeroA_122 : zeroA Tryd.prog 122 = some [.raw .nilFunc] := by kernel_rfl
@[go_sem] theorem slA_122 : slA Tryd.prog 122 = none := by kernel_rfl
@[go_sem] theorem tyA_123 : tyA Tryd.prog 123 = some (false, 1) := by kernel_rfl
@[go_sem] theorem bytesA_123 : bytesA Tryd.prog 123 = false := by kernel_rfl
@[go_sem] theorem knownA_123 : knownA Tryd.prog 123 = true := by kernel_rfl
@[go_sem] theorem concA_123 : concA Tryd.prog 123 = true := by kernel_rfl
@[go_sem] theorem ikA_123 : ikA Tryd.prog 123 = none := by kernel_rfl
@[go_sem] theorem bldT_123 : bldT Tryd.prog 123 = none := by kernel_rfl
@[go_sem] theorem zeroA_123 : zeroA Tryd.prog 123 = some [.raw .nilFunc] := by kernel_rfl
@[go_sem] theorem slA_123 : slA Tryd.prog 123 = none := by kernel_rfl
@[go_sem] theorem tyA_124 : tyA Tryd.prog 124 = some (true, 3) := by kernel_rfl
@[go_sem] theorem bytesA_124 : bytesA Tryd.prog 124 = false := by kernel_rfl
@[go_sem] theorem knownA_124 : knownA Tryd.prog 124 = true := by kernel_rfl
@[go_sem] theorem concA_124 : concA Tryd.prog 124 = true := by kernel_rfl
@[go_sem] theorem ikA_124 : ikA Tryd.prog 124 = none := by kernel_rfl
@[go_sem] theorem bldT_124 : bldT Tryd.prog 124 = none := by kernel_rfl
@[go_sem] theorem zeroA_124 : zeroA Tryd.prog 124 = some [.int .i64 0, .int .i64 0, .int .i64 0] := by kernel_rfl
@[go_sem] theorem slA_124 : slA Tryd.prog 124 = none := by kernel_rfl
@[go_sem] theorem eqKs_124 : eqKs Tryd.prog 124 = some [.int .i64, .int .i64, .int .i64] := by kernel_rfl
@[go_sem] theorem arA_124 : arA Tryd.prog 124 = some (3, 1) := by kernel_rfl
@[go_sem] theorem avA_124 : avA Tryd.prog 124 = some (3, false, 1) := by kernel_rfl
@[go_sem] theorem fsOk_124 : fsOk Tryd.prog 124 = true := by kernel_rfl
@[go_sem] theorem plA_124_0 : plA Tryd.prog 124 0 = some (0, 1) := by kernel_rfl
@[go_sem] theorem partTy_124_0 : partTy Tryd.prog 124 0 = 3 := by kernel_rfl
@[go_sem] theorem plA_124_1 : plA Tryd.prog 124 1 = some (1, 1) := by kernel_rfl
@[go_sem] theorem partTy_124_1 : partTy Tryd.prog 124 1 = 3 := by kernel_rfl
@[go_sem] theorem plA_124_2 : plA Tryd.prog 124 2 = some (2, 1) := by kernel_rfl
@[go_sem] theorem partTy_124_2 : partTy Tryd.prog 124 2 = 3 := by kernel_rfl
@[go_sem] theorem tyA_125 : tyA Tryd.prog 125 = some (false, 1) := by kernel_rfl
@[go_sem] theorem bytesA_125 : bytesA Tryd.prog 125 = false := by kernel_rfl
@[go_sem] theorem knownA_125 : knownA Tryd.prog 125 = true := by kernel_rfl
@[go_sem] theorem concA_125 : concA Tryd.prog 125 = true := by kernel_rfl
@[go_sem] theorem ikA_125 : ikA Tryd.prog 125 = none := by kernel_rfl
@[go_sem] theorem slB_125 : slB Tryd.prog 125 = true := by kernel_rfl
@[go_sem] theorem bldT_125 : bldT Tryd.prog 125 = none := by kernel_rfl
@[go_sem] theorem zeroA_125 : zeroA Tryd.prog 125 = some [.sl 3 [] .nil] := by kernel_rfl
@[go_sem] theorem slA_125 : slA Tryd.prog 125 = some 3 := by kernel_rfl
@[go_sem] theorem mkA_125 : mkA Tryd.prog 125 = some ([.int .i64 0, .int .i64 0, .int .i64 0], 24) := by kernel_rfl
@[go_sem] theorem apA_125 : apA Tryd.prog 125 = some (3, 24) := by kernel_rfl
@[go_sem] theorem partTy_125 (i : Nat) : partTy Tryd.prog 125 i = 124 := rfl_of_partTy (by kernel_rfl)
@[go_sem] theorem tyA_127 : tyA Tryd.prog 127 = some (false, 1) := by kernel_rfl
@[go_sem] theorem bytesA_127 : bytesA Tryd.prog 127 = false := by kernel_rfl
@[go_sem] theorem knownA_127 : knownA Tryd.prog 127 = true := by kernel_rfl
@[go_sem] theorem concA_127 : concA Tryd.prog 127 = true := by kernel_rfl
@[go_sem] theorem ikA_127 : ikA Tryd.prog 127 = none := by kernel_rfl
@[go_sem] theorem bldT_127 : bldT Tryd.prog 127 = none := by kernel_rfl
@[go_sem] theorem zeroA_127 : zeroA Tryd.prog 127 = some [.raw .nilFunc] := by kernel_rfl
@[go_sem] theorem slA_127 : slA Tryd.prog 127 = none := by kernel_rfl
@[go_sem] theorem tyA_128 : tyA Tryd.prog 128 = some (false, 1) := by kernel_rfl
@[go_sem] theorem bytesA_128 : bytesA Tryd.prog 128 = false := by kernel_rfl
@[go_sem] theorem knownA_128 : knownA Tryd.prog 128 = true := by kernel_rfl
@[go_sem] theorem concA_128 : concA Tryd.prog 128 = true := by kernel_rfl
@[go_sem] theorem ikA_128 : ikA Tryd.prog 128 = none := by kernel_rfl
@[go_sem] theorem bldT_128 : bldT Tryd.prog 128 = none := by kernel_rfl
@[go_sem] theorem zeroA_128 : zeroA Tryd.prog 128 = some [.raw .nilFunc] := by kernel_rfl
@[go_sem] theorem slA_128 : slA Tryd.prog 128 = none := by kernel_rfl
@[go_sem] theorem tyA_129 : tyA Tryd.prog 129 = some (false, 1) := by kernel_rfl
@[go_sem] theorem bytesA_129 : bytesA Tryd.prog 129 = false := by kernel_rfl
@[go_sem] theorem knownA_129 : knownA Tryd.prog 129 = true := by kernel_rfl
@[go_sem] theorem concA_129 : concA Tryd.prog 129 = true := by kernel_rfl
@[go_sem] theorem ikA_129 : ikA Tryd.prog 129 = none := by kernel_rfl
@[go_sem] theorem bldT_129 : bldT Tryd.prog 129 = none := by kernel_rfl
@[go_sem] theorem zeroA_129 : zeroA Tryd.prog 129 = some [.raw .nilFunc] := by kernel_rfl
@[go_sem] theorem slA_129 : slA Tryd.prog 129 = none := by kernel_rfl
@[go_sem] theorem tyA_130 : tyA Tryd.prog 130 = some (false, 1) := by kernel_rfl
@[go_sem] theorem bytesA_130 : bytesA Tryd.prog 130 = false := by kernel_rfl
@[go_sem] theorem knownA_130 : knownA Tryd.prog 130 = true := by kernel_rfl
@[go_sem] theorem concA_130 : concA Tryd.prog 130 = true := by kernel_rfl
@[go_sem] theorem ikA_130 : ikA Tryd.prog 130 = none := by kernel_rfl
@[go_sem] theorem bldT_130 : bldT Tryd.prog 130 = none := by kernel_rfl
@[go_sem] theorem zeroA_130 : zeroA Tryd.prog 130 = some [.raw .nilFunc] := by kernel_rfl
@[go_sem] theorem slA_130 : slA Tryd.prog 130 = none := by kernel_rfl
@[go_sem] theorem tyA_131 : tyA Tryd.prog 131 = some (true, 9) := by kernel_rfl
@[go_sem] theorem bytesA_131 : bytesA Tryd.prog 131 = false := by kernel_rfl
@[go_sem] theorem knownA_131 : knownA Tryd.prog 131 = true := by kernel_rfl
@[go_sem] theorem concA_131 : concA Tryd.prog 131 = true := by kernel_rfl
@[go_sem] theorem ikA_131 : ikA Tryd.prog 131 = none := by kernel_rfl
@[go_sem] theorem bldT_131 : bldT Tryd.prog 131 = none := by kernel_rfl
@[go_sem] theorem zeroA_131 : zeroA Tryd.prog 131 = some [.int .i64 0, .int .i64 0, .int .i64 0, .int .i64 0, .int .i64 0, .int .i64 0, .int .i64 0, .int .i64 0, .int .i64 0] := by kernel_rfl
@[go_sem] theorem slA_131 : slA Tryd.prog 131 = none := by kernel_rfl
@[go_sem] theorem eqKs_131 : eqKs Tryd.prog 131 = some [.int .i64, .int .i64, .int .i64, .int .i64, .int .i64, .int .i64, .int .i64, .int .i64, .int .i64] := by kernel_rfl
@[go_sem] theorem arA_131 : arA Tryd.prog 131 = some (9, 1) := by kernel_rfl
@[go_sem] theorem avA_131 : avA Tryd.prog 131 = some (9, false, 1) := by kernel_rfl
@[go_sem] theorem fsOk_131 : fsOk Tryd.prog 131 = true := by kernel_rfl
@[go_sem] theorem plA_131_0 : plA Tryd.prog 131 0 = some (0, 1) := by kernel_rfl
@[go_sem] theorem partTy_131_0 : partTy Tryd.prog 131 0 = 3 := by kernel_rfl
@[go_sem] theorem plA_131_1 : plA Tryd.prog 131 1 = some (1, 1) := by kernel_rfl
@[go_sem] theorem partTy_131_1 : partTy Tryd.prog 131 1 = 3 := by kernel_rfl
@[go_sem] theorem plA_131_2 : plA Tryd.prog 131 2 = some (2, 1) := by kernel_rfl
@[go_sem] theorem partTy_131_2 : partTy Tryd.prog 131 2 = 3 := by kernel_rfl
@[go_sem] theorem plA_131_3 : plA Tryd.prog 131 3 = some (3, 1) := by kernel_rfl
@[go_sem] theorem partTy_131_3 : partTy Tryd.prog 131 3 = 3 := by kernel_rfl
@[go_sem] theorem plA_131_4 : plA Tryd.prog 131 4 = some (4, 1) := by kernel_rfl
@[go_sem] theorem partTy_131_4 : partTy Tryd.prog 131 4 = 3 := by kernel_rfl
@[go_sem] theorem plA_131_5 : plA Tryd.prog 131 5 = some (5, 1) := by kernel_rfl
@[go_sem] theorem partTy_131_5 : partTy Tryd.prog 131 5 = 3 := by kernel_rfl
@[go_sem] theorem plA_131_6 : plA Tryd.prog 131 6 = some (6, 1) := by kernel_rfl
@[go_sem] theorem partTy_131_6 : partTy Tryd.prog 131 6 = 3 := by kernel_rfl
@[go_sem] theorem plA_131_7 : plA Tryd.prog 131 7 = some (7, 1) := by kernel_rfl
@[go_sem] theorem partTy_131_7 : partTy Tryd.prog 131 7 = 3 := by kernel_rfl
@[go_sem] theorem plA_131_8 : plA Tryd.prog 131 8 = some (8, 1) := by kernel_rfl
@[go_sem] theorem partTy_131_8 : partTy Tryd.prog 131 8 = 3 := by kernel_rfl
@[go_sem] theorem tyA_132 : tyA Tryd.prog 132 = some (false, 1) := by kernel_rfl
@[go_sem] theorem bytesA_132 : bytesA Tryd.prog 132 = false := by kernel_rfl
@[go_sem] theorem knownA_132 : knownA Tryd.prog 132 = true := by kernel_rfl
@[go_sem] theorem concA_132 : concA Tryd.prog 132 = true := by kernel_rfl
@[go_sem] theorem ikA_132 : ikA Tryd.prog 132 = none := by kernel_rfl
@[go_sem] theorem bldT_132 : bldT Tryd.prog 132 = none := by kernel_rfl
@[go_sem] theorem zeroA_132 : zeroA Tryd.prog 132 = some [.raw .nilFunc] := by kernel_rfl
@[go_sem] theorem slA_132 : slA Tryd.prog 132 = none := by kernel_rfl
@[go_sem] theorem tyA_133 : tyA Tryd.prog 133 = some (false, 1) := by kernel_rfl
@[go_sem] theorem bytesA_133 : bytesA Tryd.prog 133 = false := by kernel_rfl
@[go_sem] theorem knownA_133 : knownA Tryd.prog 133 = true := by kernel_rfl
@[go_sem] theorem concA_133 : concA Tryd.prog 133 = true := by kernel_rfl
@[go_sem] theorem ikA_133 : ikA Tryd.prog 133 = none := by kernel_rfl
@[go_sem] theorem bldT_133 : bldT Tryd.prog 133 = none := by kernel_rfl
@[go_sem] theorem zeroA_133 : zeroA Tryd.prog 133 = some [.raw .nilFunc] := by kernel_rfl
@[go_sem] theorem slA_133 : slA Tryd.prog 133 = none := by kernel_rfl
@[go_sem] theorem tyA_135 : tyA Tryd.prog 135 = some (false, 1) := by kernel_rfl
@[go_sem] theorem bytesA_135 : bytesA Tryd.prog 135 = false := by kernel_rfl
@[go_sem] theorem knownA_135 : knownA Tryd.prog 135 = true := by kernel_rfl
@[go_sem] theorem concA_135 : concA Tryd.prog 135 = true := by kernel_rfl
@[go_sem] theorem ikA_135 : ikA Tryd.prog 135 = some .u16 := by kernel_rfl
@[go_sem] theorem bldT_135 : bldT Tryd.prog 135 = none := by kernel_rfl
@[go_sem] theorem zeroA_135 : zeroA Tryd.prog 135 = some [.int .u16 0] := by kernel_rfl
@[go_sem] theorem slA_135 : slA Tryd.prog 135 = none := by kernel_rfl
@[go_sem] theorem tyA_136 : tyA Tryd.prog 136 = some (false, 1) := by kernel_rfl
@[go_sem] theorem bytesA_136 : bytesA Tryd.prog 136 = false := by kernel_rfl
@[go_sem] theorem knownA_136 : knownA Tryd.prog 136 = true := by kernel_rfl
@[go_sem] theorem concA_136 : concA Tryd.prog 136 = true := by kernel_rfl
@[go_sem] theorem ikA_136 : ikA Tryd.prog 136 = some .u64 := by kernel_rfl
@[go_sem] theorem bldT_136 : bldT Tryd.prog 136 = none := by kernel_rfl
@[go_sem] theorem zeroA_136 : zeroA Tryd.prog 136 = some [.int .u64 0] := by kernel_rfl
@[go_sem] theorem slA_136 : slA Tryd.prog 136 = none := by kernel_rfl
@[go_sem] theorem tyA_137 : tyA Tryd.prog 137 = some (false, 1) := by kernel_rfl
@[go_sem] theorem bytesA_137 : bytesA Tryd.prog 137 = false := by kernel_rfl
@[go_sem] theorem knownA_137 : knownA Tryd.prog 137 = true := by kernel_rfl
@[go_sem] theorem concA_137 : concA Tryd.prog 137 = true := by kernel_rfl
@[go_sem] theorem ikA_137 : ikA Tryd.prog 137 = none := by kernel_rfl
@[go_sem] theorem bldT_137 : bldT Tryd.prog 137 = none := by kernel_rfl
@[go_sem] theorem zeroA_137 : zeroA Tryd.prog 137 = some [.raw .nilFunc] := by kernel_rfl
@[go_sem] theorem slA_137 : slA Tryd.prog 137 = none := by kernel_rfl
@[go_sem] theorem tyA_138 : tyA Tryd.prog 138 = some (false, 1) := by kernel_rfl
@[go_sem] theorem bytesA_138 : bytesA Tryd.prog 138 = false := by kernel_rfl
@[go_sem] theorem knownA_138 : knownA Tryd.prog 138 = true := by kernel_rfl
@[go_sem] theorem concA_138 : concA Tryd.prog 138 = true := by kernel_rfl
@[go_sem] theorem ikA_138 : ikA Tryd.prog 138 = none := by kernel_rfl
@[go_sem] theorem bldT_138 : bldT Tryd.prog 138 = none := by kernel_rfl
@[go_sem] theorem zeroA_138 : zeroA Tryd.prog 138 = some [.raw .nilFunc] := by kernel_rfl
@[go_sem] theorem slA_138 : slA Tryd.prog 138 = none := by kernel_rfl
@[go_sem] theorem tyA_139 : tyA Tryd.prog 139 = some (false, 1) := by kernel_rfl
@[go_sem] theorem bytesA_139 : bytesA Tryd.prog 139 = false := by kernel_rfl
@[go_sem] theorem knownA_139 : knownA Tryd.prog 139 = true := by kernel_rfl
@[go_sem] theorem concA_139 : concA Tryd.prog 139 = true := by kernel_rfl
@[go_sem] theorem ikA_139 : ikA Tryd.prog 139 = none := by kernel_rfl
@[go_sem] theorem bldT_139 : bldT Tryd.prog 139 = none := by kernel_rfl
@[go_sem] theorem zeroA_139 : zeroA Tryd.prog 139 = some [.raw .nilFunc] := by kernel_rfl
@[go_sem] theorem slA_139 : slA Tryd.prog 139 = none := by kernel_rfl
@[go_sem] theorem tyA_140 : tyA Tryd.prog 140 = some (false, 1) := by kernel_rfl
@[go_sem] theorem bytesA_140 : bytesA Tryd.prog 140 = false := by kernel_rfl
@[go_sem] theorem knownA_140 : knownA Tryd.prog 140 = true := by kernel_rfl
@[go_sem] theorem concA_140 : concA Tryd.prog 140 = true := by kernel_rfl
@[go_sem] theorem ikA_140 : ikA Tryd.prog 140 = none := by kernel_rfl
@[go_sem] theorem bldT_140 : bldT Tryd.prog 140 = none := by kernel_rfl
@[go_sem] theorem zeroA_140 : zeroA Tryd.prog 140 = some [.raw (.map none)] := by kernel_rfl
@[go_sem] theorem slA_140 : slA Tryd.prog 140 = none := by kernel_rfl
@[go_sem] theorem tyA_141 : tyA Tryd.prog 141 = some (false, 1) := by kernel_rfl
@[go_sem] theorem bytesA_141 : bytesA Tryd.prog 141 = false := by kernel_rfl
@[go_sem] theorem knownA_141 : knownA Tryd.prog 141 = true := by kernel_rfl
@[go_sem] theorem concA_141 : concA Tryd.prog 141 = true := by kernel_rfl
@[go_sem] theorem ikA_141 : ikA Tryd.prog 141 = none := by kernel_rfl
@[go_sem] theorem bldT_141 : bldT Tryd.prog 141 = none := by kernel_rfl
@[go_sem] theorem zeroA_141 : zeroA Tryd.prog 141 = some [.raw .nilFunc] := by kernel_rfl
@[go_sem] theorem slA_141 : slA Tryd.prog 141 = none := by kernel_rfl
@[go_sem] theorem tyA_142 : tyA Tryd.prog 142 = some (true, 3) := by kernel_rfl
@[go_sem] theorem bytesA_142 : bytesA Tryd.prog 142 = false := by kernel_rfl
@[go_sem] theorem knownA_142 : knownA Tryd.prog 142 = true := by kernel_rfl
@[go_sem] theorem concA_142 : concA Tryd.prog 142 = true := by kernel_rfl
@[go_sem] theorem ikA_142 : ikA Tryd.prog 142 = none := by kernel_rfl
@[go_sem] theorem bldT_142 : bldT Tryd.prog 142 = none := by kernel_rfl
@[go_sem] theorem zeroA_142 : zeroA Tryd.prog 142 = some [.raw .nilFunc, .raw .nilFunc, .raw .nilFunc] := by kernel_rfl
@[go_sem] theorem slA_142 : slA Tryd.prog 142 = none := by kernel_rfl
@[go_sem] theorem arA_142 : arA Tryd.prog 142 = some (3, 1) := by kernel_rfl
@[go_sem] theorem avA_142 : avA Tryd.prog 142 = some (3, false, 1) := by kernel_rfl
@[go_sem] theorem fsOk_142 : fsOk Tryd.prog 142 = true := by kernel_rfl
@[go_sem] theorem plA_142_0 : plA Tryd.prog 142 0 = some (0, 1) := by kernel_rfl
@[go_sem] theorem partTy_142_0 : partTy Tryd.prog 142 0 = 60 := by kernel_rfl
@[go_sem] theorem plA_142_1 : plA Tryd.prog 142 1 = some (1, 1) := by kernel_rfl
@[go_sem] theorem partTy_142_1 : partTy Tryd.prog 142 1 = 60 := by kernel_rfl
@[go_sem] theorem plA_142_2 : plA Tryd.prog 142 2 = some (2, 1) := by kernel_rfl
@[go_sem] theorem partTy_142_2 : partTy Tryd.prog 142 2 = 60 := by kernel_rfl
@[go_sem] theorem tyA_144 : tyA Tryd.prog 144 = some (false, 1) := by kernel_rfl
@[go_sem] theorem bytesA_144 : bytesA Tryd.prog 144 = false := by kernel_rfl
@[go_sem] theorem knownA_144 : knownA Tryd.prog 144 = true := by kernel_rfl
@[go_sem] theorem concA_144 : concA Tryd.prog 144 = true := by kernel_rfl
@[go_sem] theorem ikA_144 : ikA Tryd.prog 144 = none := by kernel_rfl
@[go_sem] theorem bldT_144 : bldT Tryd.prog 144 = none := by kernel_rfl
@[go_sem] theorem zeroA_144 : zeroA Tryd.prog 144 = some [.raw .nilFunc] := by kernel_rfl
@[go_sem] theorem slA_144 : slA Tryd.prog 144 = none := by kernel_rfl
@[go_sem] theorem tyA_145 : tyA Tryd.prog 145 = some (false, 1) := by kernel_rfl
@[go_sem] theorem bytesA_145 : bytesA Tryd.prog 145 = false := by kernel_rfl
@[go_sem] theorem knownA_145 : knownA Tryd.prog 145 = true := by kernel_rfl
@[go_sem] theorem concA_145 : concA Tryd.prog 145 = true := by kernel_rfl
@[go_sem] theorem ikA_145 : ikA Tryd.prog 145 = none := by kernel_rfl
@[go_sem] theorem slB_145 : slB Tryd.prog 145 = true := by kernel_rfl
@[go_sem] theorem bldT_145 : bldT Tryd.prog 145 = none := by kernel_rfl
@[go_sem] theorem zeroA_145 : zeroA Tryd.prog 145 = some [.sl 1 [] .nil] := by kernel_rfl
@[go_sem] theorem slA_145 : slA Tryd.prog 145 = some 1 := by kernel_rfl
@[go_sem] theorem mkA_145 : mkA Tryd.prog 145 = some ([.raw .nilIface], 16) := by kernel_rfl
@[go_sem] theorem apA_145 : apA Tryd.prog 145 = some (1, 16) := by kernel_rfl
@[go_sem] theorem partTy_145 (i : Nat) : partTy Tryd.prog 145 i = 20 := rfl_of_partTy (by kernel_rfl)
@[go_sem] theorem tyA_146 : tyA Tryd.prog 146 = some (false, 1) := by kernel_rfl
@[go_sem] theorem bytesA_146 : bytesA Tryd.prog 146 = false := by kernel_rfl
@[go_sem] theorem knownA_146 : knownA Tryd.prog 146 = true := by kernel_rfl
@[go_sem] theorem concA_146 : concA Tryd.prog 146 = true := by kernel_rfl
@[go_sem] theorem ikA_146 : ikA Tryd.prog 146 = none := by kernel_rfl
@[go_sem] theorem bldT_146 : bldT Tryd.prog 146 = none := by kernel_rfl
@[go_sem] theorem zeroA_146 : zeroA Tryd.prog 146 = some [.raw (.map none)] := by kernel_rfl
@[go_sem] theorem slA_146 : slA Tryd.prog 146 = none := by kernel_rfl
@[go_sem] theorem tyA_147 : tyA Tryd.prog 147 = some (false, 1) := by kernel_rfl
@[go_sem] theorem bytesA_147 : bytesA Tryd.prog 147 = false := by kernel_rfl
@[go_sem] theorem knownA_147 : knownA Tryd.prog 147 = true := by kernel_rfl
@[go_sem] theorem concA_147 : concA Tryd.prog 147 = true := by kernel_rfl
@[go_sem] theorem ikA_147 : ikA Tryd.prog 147 = none := by kernel_rfl
@[go_sem] theorem bldT_147 : bldT Tryd.prog 147 = none := by kernel_rfl
@[go_sem] theorem zeroA_147 : zeroA Tryd.prog 147 = some [.raw (.pointer none)] := by kernel_rfl
@[go_sem] theorem slA_147 : slA Tryd.prog 147 = none := by kernel_rfl
@[go_sem] theorem tyA_148 : tyA Tryd.prog 148 = some (false, 1) := by kernel_rfl
@[go_sem] theorem bytesA_148 : bytesA Tryd.prog 148 = false := by kernel_rfl
@[go_sem] theorem knownA_148 : knownA Tryd.prog 148 = true := by kernel_rfl
@[go_sem] theorem concA_148 : concA Tryd.prog 148 = true := by kernel_rfl
@[go_sem] theorem ikA_148 : ikA Tryd.prog 148 = none := by kernel_rfl
@[go_sem] theorem bldT_148 : bldT Tryd.prog 148 = none := by kernel_rfl
@[go_sem] theorem zeroA_148 : zeroA Tryd.prog 148 = some [.raw .nilFunc] := by kernel_rfl
@[go_sem] theorem slA_148 : slA Tryd.prog 148 = none := by kernel_rfl
@[go_sem] theorem tyA_149 : tyA Tryd.prog 149 = some (false, 1) := by kernel_rfl
@[go_sem] theorem bytesA_149 : bytesA Tryd.prog 149 = false := by kernel_rfl
@[go_sem] theorem knownA_149 : knownA Tryd.prog 149 = true := by kernel_rfl
@[go_sem] theorem concA_149 : concA Tryd.prog 149 = true := by kernel_rfl
@[go_sem] theorem ikA_149 : ikA Tryd.prog 149 = none := by kernel_rfl
@[go_sem] theorem bldT_149 : bldT Tryd.prog 149 = none := by kernel_rfl
@[go_sem] theorem zeroA_149 : zeroA Tryd.prog 149 = some [.raw .nilFunc] := by kernel_rfl
@[go_sem] theorem slA_149 : slA Tryd.prog 149 = none := by kernel_rfl
@[go_sem] theorem tyA_150 : tyA Tryd.prog 150 = some (true, 2) := by kernel_rfl
@[go_sem] theorem bytesA_150 : bytesA Tryd.prog 150 = false := by kernel_rfl
@[go_sem] theorem knownA_150 : knownA Tryd.prog 150 = true := by kernel_rfl
@[go_sem] theorem concA_150 : concA Tryd.prog 150 = true := by kernel_rfl
@[go_sem] theorem ikA_150 : ikA Tryd.prog 150 = none := by kernel_rfl
@[go_sem] theorem bldT_150 : bldT Tryd.prog 150 = none := by kernel_rfl
@[go_sem] theorem zeroA_150 : zeroA Tryd.prog 150 = some [.int .i64 0, .int .i64 0] := by kernel_rfl
@[go_sem] theorem slA_150 : slA Tryd.prog 150 = none := by kernel_rfl
@[go_sem] theorem eqKs_150 : eqKs Tryd.prog 150 = some [.int .i64, .int .i64] := by kernel_rfl
@[go_sem] theorem arA_150 : arA Tryd.prog 150 = some (2, 1) := by kernel_rfl
@[go_sem] theorem avA_150 : avA Tryd.prog 150 = some (2, false, 1) := by kernel_rfl
@[go_sem] theorem fsOk_150 : fsOk Tryd.prog 150 = true := by kernel_rfl
@[go_sem] theorem plA_150_0 : plA Tryd.prog 150 0 = some (0, 1) := by kernel_rfl
@[go_sem] theorem partTy_150_0 : partTy Tryd.prog 150 0 = 3 := by kernel_rfl
@[go_sem] theorem plA_150_1 : plA Tryd.prog 150 1 = some (1, 1) := by kernel_rfl
@[go_sem] theorem partTy_150_1 : partTy Tryd.prog 150 1 = 3 := by kernel_rfl
@[go_sem] theorem tyA_151 : tyA Tryd.prog 151 = some (false, 1) := by kernel_rfl
@[go_sem] theorem bytesA_151 : bytesA Tryd.prog 151 = false := by kernel_rfl
@[go_sem] theorem knownA_151 : knownA Tryd.prog 151 = true := by kernel_rfl
@[go_sem] theorem concA_151 : concA Tryd.prog 151 = true := by kernel_rfl
@[go_sem] theorem ikA_151 : ikA Tryd.prog 151 = none := by kernel_rfl
@[go_sem] theorem slB_151 : slB Tryd.prog 151 = true := by kernel_rfl
@[go_sem] theorem bldT_151 : bldT Tryd.prog 151 = none := by kernel_rfl
@[go_sem] theorem zeroA_151 : zeroA Tryd.prog 151 = some [.sl 2 [] .nil] := by kernel_rfl
@[go_sem] theorem slA_151 : slA Tryd.prog 151 = some 2 := by kernel_rfl
@[go_sem] theorem mkA_151 : mkA Tryd.prog 151 = some ([.int .i64 0, .int .i64 0], 16) := by kernel_rfl
@[go_sem] theorem apA_151 : apA Tryd.prog 151 = some (2, 16) := by kernel_rfl
@[go_sem] theorem partTy_151 (i : Nat) : partTy Tryd.prog 151 i = 150 := rfl_of_partTy (by kernel_rfl)
@[go_sem] theorem tyA_153 : tyA Tryd.prog 153 = some (false, 1) := by kernel_rfl
@[go_sem] theorem bytesA_153 : bytesA Tryd.prog 153 = false := by kernel_rfl
@[go_sem] theorem knownA_153 : knownA Tryd.prog 153 = true := by kernel_rfl
@[go_sem] theorem concA_153 : concA Tryd.prog 153 = true := by kernel_rfl
@[go_sem] theorem ikA_153 : ikA Tryd.prog 153 = none := by kernel_rfl
@[go_sem] theorem bldT_153 : bldT Tryd.prog 153 = none := by kernel_rfl
@[go_sem] theorem zeroA_153 : zeroA Tryd.prog 153 = some [.raw .nilFunc] := by kernel_rfl
@[go_sem] theorem slA_153 : slA Tryd.prog 153 = none := by kernel_rfl
@[go_sem] theorem tyA_154 : tyA Tryd.prog 154 = some (false, 1) := by kernel_rfl
@[go_sem] theorem bytesA_154 : bytesA Tryd.prog 154 = false := by kernel_rfl
@[go_sem] theorem knownA_154 : knownA Tryd.prog 154 = true := by kernel_rfl
@[go_sem] theorem concA_154 : concA Tryd.prog 154 = true := by kernel_rfl
@[go_sem] theorem ikA_154 : ikA Tryd.prog 154 = none := by kernel_rfl
@[go_sem] theorem bldT_154 : bldT Tryd.prog 154 = none := by kernel_rfl
@[go_sem] theorem zeroA_154 : zeroA Tryd.prog 154 = some [.raw .nilFunc] := by kernel_rfl
@[go_sem] theorem slA_154 : slA Tryd.prog 154 = none := by kernel_rfl
@[go_sem] theorem tyA_155 : tyA Tryd.prog 155 = some (false, 1) := by kernel_rfl
@[go_sem] theorem bytesA_155 : bytesA Tryd.prog 155 = false := by kernel_rfl
@[go_sem] theorem knownA_155 : knownA Tryd.prog 155 = true := by kernel_rfl
@[go_sem] theorem concA_155 : concA Tryd.prog 155 = true := by kernel_rfl
@[go_sem] theorem ikA_155 : ikA Tryd.prog 155 = none := by kernel_rfl
@[go_sem] theorem bldT_155 : bldT Tryd.prog 155 = none := by kernel_rfl
@[go_sem] theorem zeroA_155 : zeroA Tryd.prog 155 = some [.raw .nilFunc] := by kernel_rfl
@[go_sem] theorem slA_155 : slA Tryd.prog 155 = none := by kernel_rfl
@[go_sem] theorem tyA_156 : tyA Tryd.prog 156 = some (true, 18) := by kernel_rfl
@[go_sem] theorem bytesA_156 : bytesA Tryd.prog 156 = false := by kernel_rfl
@[go_sem] theorem knownA_156 : knownA Tryd.prog 156 = true := by kernel_rfl
@[go_sem] theorem concA_156 : concA Tryd.prog 156 = true := by kernel_rfl
@[go_sem] theorem ikA_156 : ikA Tryd.prog 156 = none := by kernel_rfl
@[go_sem] theorem bldT_156 : bldT Tryd.prog 156 = none := by kernel_rfl
@[go_sem] theorem zeroA_156 : zeroA Tryd.prog 156 = some [.int .i64 0, .int .i64 0, .int .i64 0, .int .i64 0, .int .i64 0, .int .i64 0, .int .i64 0, .int .i64 0, .int .i64 0, .int .i64 0, .int .i64 0, .int .i64 0, .int .i64 0, .int .i64 0, .int .i64 0, .int .i64 0, .int .i64 0, .int .i64 0] := by kernel_rfl
@[go_sem] theorem slA_156 : slA Tryd.prog 156 = none := by kernel_rfl
@[go_sem] theorem arA_156 : arA Tryd.prog 156 = some (9, 2) := by kernel_rfl
@[go_sem] theorem avA_156 : avA Tryd.prog 156 = some (9, true, 2) := by kernel_rfl
@[go_sem] theorem fsOk_156 : fsOk Tryd.prog 156 = true := by kernel_rfl
@[go_sem] theorem plA_156_0 : plA Tryd.prog 156 0 = some (0, 2) := by kernel_rfl
@[go_sem] theorem partTy_156_0 : partTy Tryd.prog 156 0 = 150 := by kernel_rfl
@[go_sem] theorem plA_156_1 : plA Tryd.prog 156 1 = some (2, 2) := by kernel_rfl
@[go_sem] theorem partTy_156_1 : partTy Tryd.prog 156 1 = 150 := by kernel_rfl
@[go_sem] theorem plA_156_2 : plA Tryd.prog 156 2 = some (4, 2) := by kernel_rfl
@[go_sem] theorem partTy_156_2 : partTy Tryd.prog 156 2 = 150 := by kernel_rfl
@[go_sem] theorem plA_156_3 : plA Tryd.prog 156 3 = some (6, 2) := by kernel_rfl
@[go_sem] theorem partTy_156_3 : partTy Tryd.prog 156 3 = 150 := by kernel_rfl
@[go_sem] theorem plA_156_4 : plA Tryd.prog 156 4 = some (8, 2) := by kernel_rfl
@[go_sem] theorem partTy_156_4 : partTy Tryd.prog 156 4 = 150 := by kernel_rfl
@[go_sem] theorem plA_156_5 : plA Tryd.prog 156 5 = some (10, 2) := by kernel_rfl
@[go_sem] theorem partTy_156_5 : partTy Tryd.prog 156 5 = 150 := by kernel_rfl
@[go_sem] theorem plA_156_6 : plA Tryd.prog 156 6 = some (12, 2) := by kernel_rfl
@[go_sem] theorem partTy_156_6 : partTy Tryd.prog 156 6 = 150 := by kernel_rfl
@[go_sem] theorem plA_156_7 : plA Tryd.prog 156 7 = some (14, 2) := by kernel_rfl
@[go_sem] theorem partTy_156_7 : partTy Tryd.prog 156 7 = 150 := by kernel_rfl
@[go_sem] theorem plA_156_8 : plA Tryd.prog 156 8 = some (16, 2) := by kernel_rfl
@[go_sem] theorem partTy_156_8 : partTy Tryd.prog 156 8 = 150 := by kernel_rfl
@[go_sem] theorem tyA_157 : tyA Tryd.prog 157 = some (false, 1) := by kernel_rfl
@[go_sem] theorem bytesA_157 : bytesA Tryd.prog 157 = false := by kernel_rfl
@[go_sem] theorem knownA_157 : knownA Tryd.prog 157 = true := by kernel_rfl
@[go_sem] theorem concA_157 : concA Tryd.prog 157 = true := by kernel_rfl
@[go_sem] theorem ikA_157 : ikA Tryd.prog 157 = none := by kernel_rfl
@[go_sem] theorem bldT_157 : bldT Tryd.prog 157 = none := by kernel_rfl
@[go_sem] theorem zeroA_157 : zeroA Tryd.prog 157 = some [.raw .nilFunc] := by kernel_rfl
@[go_sem] theorem slA_157 : slA Tryd.prog 157 = none := by kernel_rfl
@[go_sem] theorem tyA_158 : tyA Tryd.prog 158 = some (false, 1) := by kernel_rfl
@[go_sem] theorem bytesA_158 : bytesA Tryd.prog 158 = false := by kernel_rfl
@[go_sem] theorem knownA_158 : knownA Tryd.prog 158 = true := by kernel_rfl
@[go_sem] theorem concA_158 : concA Tryd.prog 158 = true := by kernel_rfl
@[go_sem] theorem ikA_158 : ikA Tryd.prog 158 = none := by kernel_rfl
@[go_sem] theorem bldT_158 : bldT Tryd.prog 158 = none := by kernel_rfl
@[go_sem] theorem zeroA_158 : zeroA Tryd.prog 158 = some [.raw .nilFunc] := by kernel_rfl
@[go_sem] theorem slA_158 : slA Tryd.prog 158 = none := by kernel_rfl
@[go_sem] theorem tyA_159 : tyA Tryd.prog 159 = some (false, 1) := by kernel_rfl
@[go_sem] theorem bytesA_159 : bytesA Tryd.prog 159 = false := by kernel_rfl
@[go_sem] theorem knownA_159 : knownA Tryd.prog 159 = true := by kernel_rfl
@[go_sem] theorem concA_159 : concA Tryd.prog 159 = true := by kernel_rfl
@[go_sem] theorem ikA_159 : ikA Tryd.prog 159 = some .u32 := by kernel_rfl
@[go_sem] theorem bldT_159 : bldT Tryd.prog 159 = none := by kernel_rfl
@[go_sem] theorem zeroA_159 : zeroA Tryd.prog 159 = some [.int .u32 0] := by kernel_rfl
@[go_sem] theorem slA_159 : slA Tryd.prog 159 = none := by kernel_rfl
@[go_sem] theorem tyA_161 : tyA Tryd.prog 161 = some (false, 1) := by kernel_rfl
@[go_sem] theorem bytesA_161 : bytesA Tryd.prog 161 = false := by kernel_rfl
@[go_sem] theorem knownA_161 : knownA Tryd.prog 161 = true := by kernel_rfl
@[go_sem] theorem concA_161 : concA Tryd.prog 161 = true := by kernel_rfl
@[go_sem] theorem ikA_161 : ikA Tryd.prog 161 = none := by kernel_rfl
@[go_sem] theorem bldT_161 : bldT Tryd.prog 161 = none := by kernel_rfl
@[go_sem] theorem zeroA_161 : zeroA Tryd.prog 161 = some [.raw .nilFunc] := by kernel_rfl
@[go_sem] theorem slA_161 : slA Tryd.prog 161 = none := by kernel_rfl
@[go_sem] theorem tyA_162 : tyA Tryd.prog 162 = some (false, 1) := by kernel_rfl
@[go_sem] theorem bytesA_162 : bytesA Tryd.prog 162 = false := by kernel_rfl
@[go_sem] theorem knownA_162 : knownA Tryd.prog 162 = true := by kernel_rfl
@[go_sem] theorem concA_162 : concA Tryd.prog 162 = true := by kernel_rfl
@[go_sem] theorem ikA_162 : ikA Tryd.prog 162 = none := by kernel_rfl
@[go_sem] theorem bldT_162 : bldT Tryd.prog 162 = none := by kernel_rfl
@[go_sem] theorem zeroA_162 : zeroA Tryd.prog 162 = some [.raw .nilFunc] := by kernel_rfl
@[go_sem] theorem slA_162 : slA Tryd.prog 162 = none := by kernel_rfl
@[go_sem] theorem tyA_163 : tyA Tryd.prog 163 = some (false, 1) := by kernel_rfl
@[go_sem] theorem bytesA_163 : bytesA Tryd.prog 163 = false := by kernel_rfl
@[go_sem] theorem knownA_163 : knownA Tryd.prog 163 = true := by kernel_rfl
@[go_sem] theorem concA_163 : concA Tryd.prog 163 = true := by kernel_rfl
@[go_sem] theorem ikA_163 : ikA Tryd.prog 163 = none := by kernel_rfl
@[go_sem] theorem bldT_163 : bldT Tryd.prog 163 = none := by kernel_rfl
@[go_sem] theorem zeroA_163 : zeroA Tryd.prog 163 = some [.raw .nilFunc] := by kernel_rfl
@[go_sem] theorem slA_163 : slA Tryd.prog 163 = none := by kernel_rfl
@[go_sem] theorem tyA_164 : tyA Tryd.prog 164 = some (false, 1) := by kernel_rfl
@[go_sem] theorem bytesA_164 : bytesA Tryd.prog 164 = false := by kernel_rfl
@[go_sem] theorem knownA_164 : knownA Tryd.prog 164 = true := by kernel_rfl
@[go_sem] theorem concA_164 : concA Tryd.prog 164 = true := by kernel_rfl
@[go_sem] theorem ikA_164 : ikA Tryd.prog 164 = none := by kernel_rfl
@[go_sem] theorem bldT_164 : bldT Tryd.prog 164 = none := by kernel_rfl
@[go_sem] theorem zeroA_164 : zeroA Tryd.prog 164 = some [.raw (.map none)] := by kernel_rfl
@[go_sem] theorem slA_164 : slA Tryd.prog 164 = none := by kernel_rfl
@[go_sem] theorem tyA_165 : tyA Tryd.prog 165 = some (true, 2) := by kernel_rfl
@[go_sem] theorem bytesA_165 : bytesA Tryd.prog 165 = false := by kernel_rfl
@[go_sem] theorem knownA_165 : knownA Tryd.prog 165 = true := by kernel_rfl
@[go_sem] theorem concA_165 : concA Tryd.prog 165 = true := by kernel_rfl
@[go_sem] theorem ikA_165 : ikA Tryd.prog 165 = none := by kernel_rfl
@[go_sem] theorem bldT_165 : bldT Tryd.prog 165 = none := by kernel_rfl
@[go_sem] theorem zeroA_165 : zeroA Tryd.prog 165 = some [.int .i64 0, .int .i64 0] := by kernel_rfl
@[go_sem] theorem slA_165 : slA Tryd.prog 165 = none := by kernel_rfl
@[go_sem] theorem fsOk_165 : fsOk Tryd.prog 165 = true := by kernel_rfl
@[go_sem] theorem fldA_165_0 : fldA Tryd.prog 165 0 = some 0 := by kernel_rfl
@[go_sem] theorem fpA_165_0 : fpA Tryd.prog 165 0 = some (0, false, 1) := by kernel_rfl
@[go_sem] theorem plA_165_0 : plA Tryd.prog 165 0 = some (0, 1) := by kernel_rfl
@[go_sem] theorem partTy_165_0 : partTy Tryd.prog 165 0 = 3 := by kernel_rfl
@[go_sem] theorem fldA_165_1 : fldA Tryd.prog 165 1 = some 1 := by kernel_rfl
@[go_sem] theorem fpA_165_1 : fpA Tryd.prog 165 1 = some (1, false, 1) := by kernel_rfl
@[go_sem] theorem plA_165_1 : plA Tryd.prog 165 1 = some (1, 1) := by kernel_rfl
@[go_sem] theorem partTy_165_1 : partTy Tryd.prog 165 1 = 3 := by kernel_rfl
@[go_sem] theorem eqKs_165 : eqKs Tryd.prog 165 = some [.int .i64, .int .i64] := by kernel_rfl
@[go_sem] theorem tyA_166 : tyA Tryd.prog 166 = some (true, 2) := by kernel_rfl
@[go_sem] theorem bytesA_166 : bytesA Tryd.prog 166 = false := by kernel_rfl
@[go_sem] theorem knownA_166 : knownA Tryd.prog 166 = true := by kernel_rfl
@[go_sem] theorem concA_166 : concA Tryd.prog 166 = true := by kernel_rfl
@[go_sem] theorem ikA_166 : ikA Tryd.prog 166 = none := by kernel_rfl
@[go_sem] theorem bldT_166 : bldT Tryd.prog 166 = none := by kernel_rfl
@[go_sem] theorem zeroA_166 : zeroA Tryd.prog 166 = some [.int .i64 0, .int .i64 0] := by kernel_rfl
@[go_sem] theorem slA_166 : slA Tryd.prog 166 = none := by kernel_rfl
@[go_sem] theorem fsOk_166 : fsOk Tryd.prog 166 = true := by kernel_rfl
@[go_sem] theorem fldA_166_0 : fldA Tryd.prog 166 0 = some 0 := by kernel_rfl
@[go_sem] theorem fpA_166_0 : fpA Tryd.prog 166 0 = some (0, false, 1) := by kernel_rfl
@[go_sem] theorem plA_166_0 : plA Tryd.prog 166 0 = some (0, 1) := by kernel_rfl
@[go_sem] theorem partTy_166_0 : partTy Tryd.prog 166 0 = 3 := by kernel_rfl
@[go_sem] theorem fldA_166_1 : fldA Tryd.prog 166 1 = some 1 := by kernel_rfl
@[go_sem] theorem fpA_166_1 : fpA Tryd.prog 166 1 = some (1, false, 1) := by kernel_rfl
@[go_sem] theorem plA_166_1 : plA Tryd.prog 166 1 = some (1, 1) := by kernel_rfl
@[go_sem] theorem partTy_166_1 : partTy Tryd.prog 166 1 = 3 := by kernel_rfl
@[go_sem] theorem eqKs_166 : eqKs Tryd.prog 166 = some [.int .i64, .int .i64] := by kernel_rfl
@[go_sem] theorem tyA_167 : tyA Tryd.prog 167 = some (false, 1) := by kernel_rfl
@[go_sem] theorem bytesA_167 : bytesA Tryd.prog 167 = false := by kernel_rfl
@[go_sem] theorem knownA_167 : knownA Tryd.prog 167 = true := by kernel_rfl
@[go_sem] theorem concA_167 : concA Tryd.prog 167 = true := by kernel_rfl
@[go_sem] theorem ikA_167 : ikA Tryd.prog 167 = none := by kernel_rfl
@[go_sem] theorem bldT_167 : bldT Tryd.prog 167 = none := by kernel_rfl
@[go_sem] theorem zeroA_167 : zeroA Tryd.prog 167 = some [.raw .nilFunc] := by kernel_rfl
@[go_sem] theorem slA_167 : slA Tryd.prog 167 = none := by kernel_rfl
@[go_sem] theorem tyA_168 : tyA Tryd.prog 168 = some (false, 1) := by kernel_rfl
@[go_sem] theorem bytesA_168 : bytesA Tryd.prog 168 = false := by kernel_rfl
@[go_sem] theorem knownA_168 : knownA Tryd.prog 168 = true := by kernel_rfl
@[go_sem] theorem concA_168 : concA Tryd.prog 168 = true := by kernel_rfl
@[go_sem] theorem ikA_168 : ikA Tryd.prog 168 = none := by kernel_rfl
@[go_sem] theorem bldT_168 : bldT Tryd.prog 168 = none := by kernel_rfl
@[go_sem] theorem zeroA_168 : zeroA Tryd.prog 168 = some [.raw .nilFunc] := by kernel_rfl
@[go_sem] theorem slA_168 : slA Tryd.prog 168 = none := by kernel_rfl
@[go_sem] theorem tyA_169 : tyA Tryd.prog 169 = some (false, 1) := by kernel_rfl
@[go_sem] theorem bytesA_169 : bytesA Tryd.prog 169 = false := by kernel_rfl
@[go_sem] theorem knownA_169 : knownA Tryd.prog 169 = true := by kernel_rfl
@[go_sem] theorem concA_169 : concA Tryd.prog 169 = true := by kernel_rfl
@[go_sem] theorem ikA_169 : ikA Tryd.prog 169 = none := by kernel_rfl
@[go_sem] theorem bldT_169 : bldT Tryd.prog 169 = none := by kernel_rfl
@[go_sem] theorem zeroA_169 : zeroA Tryd.prog 169 = some [.raw .nilFunc] := by kernel_rfl
@[go_sem] theorem slA_169 : slA Tryd.prog 169 = none := by kernel_rfl
@[go_sem] theorem tyA_171 : tyA Tryd.prog 171 = some (false, 1) := by kernel_rfl
@[go_sem] theorem bytesA_171 : bytesA Tryd.prog 171 = false := by kernel_rfl
@[go_sem] theorem knownA_171 : knownA Tryd.prog 171 = true := by kernel_rfl
@[go_sem] theorem concA_171 : concA Tryd.prog 171 = true := by kernel_rfl
@[go_sem] theorem ikA_171 : ikA Tryd.prog 171 = none := by kernel_rfl
@[go_sem] theorem bldT_171 : bldT Tryd.prog 171 = none := by kernel_rfl
@[go_sem] theorem zeroA_171 : zeroA Tryd.prog 171 = some [.raw .nilFunc] := by kernel_rfl
@[go_sem] theorem slA_171 : slA Tryd.prog 171 = none := by kernel_rfl
@[go_sem] theorem tyA_172 : tyA Tryd.prog 172 = some (false, 1) := by kernel_rfl
@[go_sem] theorem bytesA_172 : bytesA Tryd.prog 172 = false := by kernel_rfl
@[go_sem] theorem knownA_172 : knownA Tryd.prog 172 = true := by kernel_rfl
@[go_sem] theorem concA_172 : concA Tryd.prog 172 = true := by kernel_rfl
@[go_sem] theorem ikA_172 : ikA Tryd.prog 172 = none := by kernel_rfl
@[go_sem] theorem bldT_172 : bldT Tryd.prog 172 = none := by kernel_rfl
@[go_sem] theorem zeroA_172 : zeroA Tryd.prog 172 = some [.raw (.pointer none)] := by kernel_rfl
@[go_sem] theorem slA_172 : slA Tryd.prog 172 = none := by kernel_rfl
@[go_sem] theorem tyA_173 : tyA Tryd.prog 173 = some (false, 1) := by kernel_rfl
@[go_sem] theorem bytesA_173 : bytesA Tryd.prog 173 = false := by kernel_rfl
@[go_sem] theorem knownA_173 : knownA Tryd.prog 173 = true := by kernel_rfl
@[go_sem] theorem concA_173 : concA Tryd.prog 173 = true := by kernel_rfl
@[go_sem] theorem ikA_173 : ikA Tryd.prog 173 = none := by kernel_rfl
@[go_sem] theorem bldT_173 : bldT Tryd.prog 173 = none := by kernel_rfl
@[go_sem] theorem zeroA_173 : zeroA Tryd.prog 173 = some [.raw .nilFunc] := by kernel_rfl
@[go_sem] theorem slA_173 : slA Tryd.prog 173 = none := by kernel_rfl
@[go_sem] theorem tyA_174 : tyA Tryd.prog 174 = some (false, 1) := by kernel_rfl
@[go_sem] theorem bytesA_174 : bytesA Tryd.prog 174 = false := by kernel_rfl
@[go_sem] theorem knownA_174 : knownA Tryd.prog 174 = true := by kernel_rfl
@[go_sem] theorem concA_174 : concA Tryd.prog 174 = true := by kernel_rfl
@[go_sem] theorem ikA_174 : ikA Tryd.prog 174 = none := by kernel_rfl
@[go_sem] theorem bldT_174 : bldT Tryd.prog 174 = none := by kernel_rfl
@[go_sem] theorem zeroA_174 : zeroA Tryd.prog 174 = some [.raw .nilFunc] := by kernel_rfl
@[go_sem] theorem slA_174 : slA Tryd.prog 174 = none := by kernel_rfl
@[go_sem] theorem tyA_175 : tyA Tryd.prog 175 = some (false, 1) := by kernel_rfl
@[go_sem] theorem bytesA_175 : bytesA Tryd.prog 175 = false := by kernel_rfl
@[go_sem] theorem knownA_175 : knownA Tryd.prog 175 = true := by kernel_rfl
@[go_sem] theorem concA_175 : concA Tryd.prog 175 = true := by kernel_rfl
@[go_sem] theorem ikA_175 : ikA Tryd.prog 175 = none := by kernel_rfl
@[go_sem] theorem bldT_175 : bldT Tryd.prog 175 = none := by kernel_rfl
@[go_sem] theorem zeroA_175 : zeroA Tryd.prog 175 = some [.raw .nilFunc] := by kernel_rfl
@[go_sem] theorem slA_175 : slA Tryd.prog 175 = none := by kernel_rfl
@[go_sem] theorem tyA_177 : tyA Tryd.prog 177 = some (false, 1) := by kernel_rfl
@[go_sem] theorem bytesA_177 : bytesA Tryd.prog 177 = false := by kernel_rfl
@[go_sem] theorem knownA_177 : knownA Tryd.prog 177 = true := by kernel_rfl
@[go_sem] theorem concA_177 : concA Tryd.prog 177 = true := by kernel_rfl
@[go_sem] theorem ikA_177 : ikA Tryd.prog 177 = none := by kernel_rfl
@[go_sem] theorem bldT_177 : bldT Tryd.prog 177 = none := by kernel_rfl
@[go_sem] theorem zeroA_177 : zeroA Tryd.prog 177 = some [.raw .nilFunc] := by kernel_rfl
@[go_sem] theorem slA_177 : slA Tryd.prog 177 = none := by kernel_rfl
@[go_sem] theorem tyA_178 : tyA Tryd.prog 178 = some (true, 24) := by kernel_rfl
@[go_sem] theorem bytesA_178 : bytesA Tryd.prog 178 = false := by kernel_rfl
@[go_sem] theorem knownA_178 : knownA Tryd.prog 178 = true := by kernel_rfl
@[go_sem] theorem concA_178 : concA Tryd.prog 178 = true := by kernel_rfl
@[go_sem] theorem ikA_178 : ikA Tryd.prog 178 = none := by kernel_rfl
@[go_sem] theorem bldT_178 : bldT Tryd.prog 178 = none := by kernel_rfl
@[go_sem] theorem zeroA_178 : zeroA Tryd.prog 178 = some [.int .u8 0, .int .u8 0, .int .u8 0, .int .u8 0, .int .u8 0, .int .u8 0, .int .u8 0, .int .u8 0, .int .u8 0, .int .u8 0, .int .u8 0, .int .u8 0, .int .u8 0, .int .u8 0, .int .u8 0, .int .u8 0, .int .u8 0, .int .u8 0, .int .u8 0, .int .u8 0, .int .u8 0, .int .u8 0, .int .u8 0, .int .u8 0] := by kernel_rfl
@[go_sem] theorem slA_178 : slA Tryd.prog 178 = none := by kernel_rfl
@[go_sem] theorem arA_178 : arA Tryd.prog 178 = some (24, 1) := by kernel_rfl
@[go_sem] theorem avA_178 : avA Tryd.prog 178 = some (24, false, 1) := by kernel_rfl
@[go_sem] theorem fsOk_178 : fsOk Tryd.prog 178 = true := by kernel_rfl
@[go_sem] theorem plA_178_0 : plA Tryd.prog 178 0 = some (0, 1) := by kernel_rfl
@[go_sem] theorem partTy_178_0 : partTy Tryd.prog 178 0 = 5 := by kernel_rfl
@[go_sem] theorem plA_178_1 : plA Tryd.prog 178 1 = some (1, 1) := by kernel_rfl
@[go_sem] theorem partTy_178_1 : partTy Tryd.prog 178 1 = 5 := by kernel_rfl
@[go_sem] theorem plA_178_2 : plA Tryd.prog 178 2 = some (2, 1) := by kernel_rfl
@[go_sem] theorem partTy_178_2 : partTy Tryd.prog 178 2 = 5 := by kernel_rfl
@[go_sem] theorem plA_178_3 : plA Tryd.prog 178 3 = some (3, 1) := by kernel_rfl
@[go_sem] theorem partTy_178_3 : partTy Tryd.prog 178 3 = 5 := by kernel_rfl
@[go_sem] theorem plA_178_4 : plA Tryd.prog 178 4 = some (4, 1) := by kernel_rfl
@[go_sem] theorem partTy_178_4 : partTy Tryd.prog 178 4 = 5 := by kernel_rfl
@[go_sem] theorem plA_178_5 : plA Tryd.prog 178 5 = some (5, 1) := by kernel_rfl
@[go_sem] theorem partTy_178_5 : partTy Tryd.prog 178 5 = 5 := by kernel_rfl
@[go_sem] theorem plA_178_6 : plA Tryd.prog 178 6 = some (6, 1) := by kernel_rfl
@[go_sem] theorem partTy_178_6 : partTy Tryd.prog 178 6 = 5 := by kernel_rfl
@[go_sem] theorem plA_178_7 : plA Tryd.prog 178 7 = some (7, 1) := by kernel_rfl
@[go_sem] theorem partTy_178_7 : partTy Tryd.prog 178 7 = 5 := by kernel_rfl
@[go_sem] theorem plA_178_8 : plA Tryd.prog 178 8 = some (8, 1) := by kernel_rfl
@[go_sem] theorem partTy_178_8 : partTy Tryd.prog 178 8 = 5 := by kernel_rfl
@[go_sem] theorem plA_178_9 : plA Tryd.prog 178 9 = some (9, 1) := by kernel_rfl
@[go_sem] theorem partTy_178_9 : partTy Tryd.prog 178 9 = 5 := by kernel_rfl
@[go_sem] theorem plA_178_10 : plA Tryd.prog 178 10 = some (10, 1) := by kernel_rfl
@[go_sem] theorem partTy_178_10 : partTy Tryd.prog 178 10 = 5 := by kernel_rfl
@[go_sem] theorem plA_178_11 : plA Tryd.prog 178 11 = some (11, 1) := by kernel_rfl
@[go_sem] theorem partTy_178_11 : partTy Tryd.prog 178 11 = 5 := by kernel_rfl
@[go_sem] theorem plA_178_12 : plA Tryd.prog 178 12 = some (12, 1) := by kernel_rfl
@[go_sem] theorem partTy_178_12 : partTy Tryd.prog 178 12 = 5 := by kernel_rfl
@[go_sem] theorem plA_178_13 : plA Tryd.prog 178 13 = some (13, 1) := by kernel_rfl
@[go_sem] theorem partTy_178_13 : partTy Tryd.prog 178 13 = 5 := by kernel_rfl
@[go_sem] theorem plA_178_14 : plA Tryd.prog 178 14 = some (14, 1) := by kernel_rfl
@[go_sem] theorem partTy_178_14 : partTy Tryd.prog 178 14 = 5 := by kernel_rfl
@[go_sem] theorem plA_178_15 : plA Tryd.prog 178 15 = some (15, 1) := by kernel_rfl
@[go_sem] theorem partTy_178_15 : partTy Tryd.prog 178 15 = 5 := by kernel_rfl
@[go_sem] theorem tyA_179 : tyA Tryd.prog 179 = some (false, 1) := by kernel_rfl
@[go_sem] theorem bytesA_179 : bytesA Tryd.prog 179 = false := by kernel_rfl
@[go_sem] theorem knownA_179 : knownA Tryd.prog 179 = true := by kernel_rfl
@[go_sem] theorem concA_179 : concA Tryd.prog 179 = true := by kernel_rfl
@[go_sem] theorem ikA_179 : ikA Tryd.prog 179 = some .u64 := by kernel_rfl
@[go_sem] theorem bldT_179 : bldT Tryd.prog 179 = none := by kernel_rfl
@[go_sem] theorem zeroA_179 : zeroA Tryd.prog 179 = some [.int .u64 0] := by kernel_rfl
@[go_sem] theorem slA_179 : slA Tryd.prog 179 = none := by kernel_rfl
@[go_sem] theorem tyA_180 : tyA Tryd.prog 180 = some (false, 1) := by kernel_rfl
@[go_sem] theorem bytesA_180 : bytesA Tryd.prog 180 = false := by kernel_rfl
@[go_sem] theorem knownA_180 : knownA Tryd.prog 180 = true := by kernel_rfl
@[go_sem] theorem concA_180 : concA Tryd.prog 180 = true := by kernel_rfl
@[go_sem] theorem ikA_180 : ikA Tryd.prog 180 = none := by kernel_rfl
@[go_sem] theorem bldT_180 : bldT Tryd.prog 180 = none := by kernel_rfl
@[go_sem] theorem zeroA_180 : zeroA Tryd.prog 180 = some [.raw .nilFunc] := by kernel_rfl
@[go_sem] theorem slA_180 : slA Tryd.prog 180 = none := by kernel_rfl
@[go_sem] theorem tyA_181 : tyA Tryd.prog 181 = some (false, 1) := by kernel_rfl
@[go_sem] theorem bytesA_181 : bytesA Tryd.prog 181 = false := by kernel_rfl
@[go_sem] theorem knownA_181 : knownA Tryd.prog 181 = true := by kernel_rfl
@[go_sem] theorem concA_181 : concA Tryd.prog 181 = true := by kernel_rfl
@[go_sem] theorem ikA_181 : ikA Tryd.prog 181 = none := by kernel_rfl
@[go_sem] theorem bldT_181 : bldT Tryd.prog 181 = none := by kernel_rfl
@[go_sem] theorem zeroA_181 : zeroA Tryd.prog 181 = some [.raw .nilFunc] := by kernel_rfl
@[go_sem] theorem slA_181 : slA Tryd.prog 181 = none := by kernel_rfl
@[go_sem] theorem tyA_183 : tyA Tryd.prog 183 = some (false, 1) := by kernel_rfl
@[go_sem] theorem bytesA_183 : bytesA Tryd.prog 183 = false := by kernel_rfl
@[go_sem] theorem knownA_183 : knownA Tryd.prog 183 = true := by kernel_rfl
@[go_sem] theorem concA_183 : concA Tryd.prog 183 = true := by kernel_rfl
@[go_sem] theorem ikA_183 : ikA Tryd.prog 183 = none := by kernel_rfl
@[go_sem] theorem bldT_183 : bldT Tryd.prog 183 = none := by kernel_rfl
@[go_sem] theorem zeroA_183 : zeroA Tryd.prog 183 = some [.raw .nilFunc] := by kernel_rfl
@[go_sem] theorem slA_183 : slA Tryd.prog 183 = none := by kernel_rfl
@[go_sem] theorem tyA_184 : tyA Tryd.prog 184 = some (false, 1) := by kernel_rfl
@[go_sem] theorem bytesA_184 : bytesA Tryd.prog 184 = false := by kernel_rfl
@[go_sem] theorem knownA_184 : knownA Tryd.prog 184 = true := by kernel_rfl
@[go_sem] theorem concA_184 : concA Tryd.prog 184 = true := by kernel_rfl
@[go_sem] theorem ikA_184 : ikA Tryd.prog 184 = none := by kernel_rfl
@[go_sem] theorem bldT_184 : bldT Tryd.prog 184 = none := by kernel_rfl
@[go_sem] theorem zeroA_184 : zeroA Tryd.prog 184 = some [.raw .nilFunc] := by kernel_rfl
@[go_sem] theorem slA_184 : slA Tryd.prog 184 = none := by kernel_rfl
@[go_sem] theorem tyA_185 : tyA Tryd.prog 185 = some (false, 1) := by kernel_rfl
@[go_sem] theorem bytesA_185 : bytesA Tryd.prog 185 = false := by kernel_rfl
@[go_sem] theorem knownA_185 : knownA Tryd.prog 185 = true := by kernel_rfl
@[go_sem] theorem concA_185 : concA Tryd.prog 185 = true := by kernel_rfl
@[go_sem] theorem ikA_185 : ikA Tryd.prog 185 = none := by kernel_rfl
@[go_sem] theorem bldT_185 : bldT Tryd.prog 185 = none := by kernel_rfl
@[go_sem] theorem zeroA_185 : zeroA Tryd.prog 185 = some [.raw .nilFunc] := by kernel_rfl
@[go_sem] theorem slA_185 : slA Tryd.prog 185 = none := by kernel_rfl
@[go_sem] theorem tyA_186 : tyA Tryd.prog 186 = some (false, 1) := by kernel_rfl
@[go_sem] theorem bytesA_186 : bytesA Tryd.prog 186 = false := by kernel_rfl
@[go_sem] theorem knownA_186 : knownA Tryd.prog 186 = true := by kernel_rfl
@[go_sem] theorem concA_186 : concA Tryd.prog 186 = true := by kernel_rfl
@[go_sem] theorem ikA_186 : ikA Tryd.prog 186 = some .i64 := by kernel_rfl
@[go_sem] theorem bldT_186 : bldT Tryd.prog 186 = none := by kernel_rfl
@[go_sem] theorem zeroA_186 : zeroA Tryd.prog 186 = some [.int .i64 0] := by kernel_rfl
@[go_sem] theorem slA_186 : slA Tryd.prog 186 = none := by kernel_rfl
@[go_sem] theorem tyA_188 : tyA Tryd.prog 188 = some (false, 1) := by kernel_rfl
@[go_sem] theorem bytesA_188 : bytesA Tryd.prog 188 = false := by kernel_rfl
@[go_sem] theorem knownA_188 : knownA Tryd.prog 188 = true := by kernel_rfl
@[go_sem] theorem concA_188 : concA Tryd.prog 188 = true := by kernel_rfl
@[go_sem] theorem ikA_188 : ikA Tryd.prog 188 = none := by kernel_rfl
@[go_sem] theorem bldT_188 : bldT Tryd.prog 188 = none := by kernel_rfl
@[go_sem] theorem zeroA_188 : zeroA Tryd.prog 188 = some [.raw .nilFunc] := by kernel_rfl
@[go_sem] theorem slA_188 : slA Tryd.prog 188 = none := by kernel_rfl
@[go_sem] theorem tyA_189 : tyA Tryd.prog 189 = some (false, 1) := by kernel_rfl
@[go_sem] theorem bytesA_189 : bytesA Tryd.prog 189 = false := by kernel_rfl
@[go_sem] theorem knownA_189 : knownA Tryd.prog 189 = true := by kernel_rfl
@[go_sem] theorem concA_189 : concA Tryd.prog 189 = true := by kernel_rfl
@[go_sem] theorem ikA_189 : ikA Tryd.prog 189 = none := by kernel_rfl
@[go_sem] theorem bldT_189 : bldT Tryd.prog 189 = none := by kernel_rfl
@[go_sem] theorem zeroA_189 : zeroA Tryd.prog 189 = some [.raw (.pointer none)] := by kernel_rfl
@[go_sem] theorem slA_189 : slA Tryd.prog 189 = none := by kernel_rfl
@[go_sem] theorem tyA_190 : tyA Tryd.prog 190 = some (false, 1) := by kernel_rfl
@[go_sem] theorem bytesA_190 : bytesA Tryd.prog 190 = false := by kernel_rfl
@[go_sem] theorem knownA_190 : knownA Tryd.prog 190 = true := by kernel_rfl
@[go_sem] theorem concA_190 : concA Tryd.prog 190 = true := by kernel_rfl
@[go_sem] theorem ikA_190 : ikA Tryd.prog 190 = none := by kernel_rfl
@[go_sem] theorem bldT_190 : bldT Tryd.prog 190 = none := by kernel_rfl
@[go_sem] theorem zeroA_190 : zeroA Tryd.prog 190 = some [.raw .nilFunc] := by kernel_rfl
@[go_sem] theorem slA_190 : slA Tryd.prog 190 = none := by kernel_rfl
@[go_sem] theorem tyA_191 : tyA Tryd.prog 191 = some (false, 1) := by kernel_rfl
@[go_sem] theorem bytesA_191 : bytesA Tryd.prog 191 = false := by kernel_rfl
@[go_sem] theorem knownA_191 : knownA Tryd.prog 191 = true := by kernel_rfl
@[go_sem] theorem concA_191 : concA Tryd.prog 191 = true := by kernel_rfl
@[go_sem] theorem ikA_191 : ikA Tryd.prog 191 = none := by kernel_rfl
@[go_sem] theorem bldT_191 : bldT Tryd.prog 191 = none := by kernel_rfl
@[go_sem] theorem zeroA_191 : zeroA Tryd.prog 191 = some [.raw .nilFunc] := by kernel_rfl
@[go_sem] theorem slA_191 : slA Tryd.prog 191 = none := by kernel_rfl
@[go_sem] theorem tyA_192 : tyA Tryd.prog 192 = some (false, 1) := by kernel_rfl
@[go_sem] theorem bytesA_192 : bytesA Tryd.prog 192 = false := by kernel_rfl
@[go_sem] theorem knownA_192 : knownA Tryd.prog 192 = true := by kernel_rfl
@[go_sem] theorem concA_192 : concA Tryd.prog 192 = true := by kernel_rfl
@[go_sem] theorem ikA_192 : ikA Tryd.prog 192 = none := by kernel_rfl
@[go_sem] theorem bldT_192 : bldT Tryd.prog 192 = none := by kernel_rfl
@[go_sem] theorem zeroA_192 : zeroA Tryd.prog 192 = some [.raw .nilFunc] := by kernel_rfl
@[go_sem] theorem slA_192 : slA Tryd.prog 192 = none := by kernel_rfl
@[go_sem] theorem tyA_193 : tyA Tryd.prog 193 = some (true, 20) := by kernel_rfl
@[go_sem] theorem bytesA_193 : bytesA Tryd.prog 193 = false := by kernel_rfl
@[go_sem] theorem knownA_193 : knownA Tryd.prog 193 = true := by kernel_rfl
@[go_sem] theorem concA_193 : concA Tryd.prog 193 = true := by kernel_rfl
@[go_sem] theorem ikA_193 : ikA Tryd.prog 193 = none := by kernel_rfl
@[go_sem] theorem bldT_193 : bldT Tryd.prog 193 = none := by kernel_rfl
@[go_sem] theorem zeroA_193 : zeroA Tryd.prog 193 = some [.int .u64 0, .int .u64 0, .int .u64 0, .int .u64 0, .int .u64 0, .int .u64 0, .int .u64 0, .int .u64 0, .int .u64 0, .int .u64 0, .int .u64 0, .int .u64 0, .int .u64 0, .int .u64 0, .int .u64 0, .int .u64 0, .int .u64 0, .int .u64 0, .int .u64 0, .int .u64 0] := by kernel_rfl
@[go_sem] theorem slA_193 : slA Tryd.prog 193 = none := by kernel_rfl
@[go_sem] theorem arA_193 : arA Tryd.prog 193 = some (20, 1) := by kernel_rfl
@[go_sem] theorem avA_193 : avA Tryd.prog 193 = some (20, false, 1) := by kernel_rfl
@[go_sem] theorem fsOk_193 : fsOk Tryd.prog 193 = true := by kernel_rfl
@[go_sem] theorem plA_193_0 : plA Tryd.prog 193 0 = some (0, 1) := by kernel_rfl
@[go_sem] theorem partTy_193_0 : partTy Tryd.prog 193 0 = 179 := by kernel_rfl
@[go_sem] theorem plA_193_1 : plA Tryd.prog 193 1 = some (1, 1) := by kernel_rfl
@[go_sem] theorem partTy_193_1 : partTy Tryd.prog 193 1 = 179 := by kernel_rfl
@[go_sem] theorem plA_193_2 : plA Tryd.prog 193 2 = some (2, 1) := by kernel_rfl
@[go_sem] theorem partTy_193_2 : partTy Tryd.prog 193 2 = 179 := by kernel_rfl
@[go_sem] theorem plA_193_3 : plA Tryd.prog 193 3 = some (3, 1) := by kernel_rfl
@[go_sem] theorem partTy_193_3 : partTy Tryd.prog 193 3 = 179 := by kernel_rfl
@[go_sem] theorem plA_193_4 : plA Tryd.prog 193 4 = some (4, 1) := by kernel_rfl
@[go_sem] theorem partTy_193_4 : partTy Tryd.prog 193 4 = 179 := by kernel_rfl
@[go_sem] theorem plA_193_5 : plA Tryd.prog 193 5 = some (5, 1) := by kernel_rfl
@[go_sem] theorem partTy_193_5 : partTy Tryd.prog 193 5 = 179 := by kernel_rfl
@[go_sem] theorem plA_193_6 : plA Tryd.prog 193 6 = some (6, 1) := by kernel_rfl
@[go_sem] theorem partTy_193_6 : partTy Tryd.prog 193 6 = 179 := by kernel_rfl
@[go_sem] theorem plA_193_7 : plA Tryd.prog 193 7 = some (7, 1) := by kernel_rfl
@[go_sem] theorem partTy_193_7 : partTy Tryd.prog 193 7 = 179 := by kernel_rfl
@[go_sem] theorem plA_193_8 : plA Tryd.prog 193 8 = some (8, 1) := by kernel_rfl
@[go_sem] theorem partTy_193_8 : partTy Tryd.prog 193 8 = 179 := by kernel_rfl
@[go_sem] theorem plA_193_9 : plA Tryd.prog 193 9 = some (9, 1) := by kernel_rfl
@[go_sem] theorem partTy_193_9 : partTy Tryd.prog 193 9 = 179 := by kernel_rfl
@[go_sem] theorem plA_193_10 : plA Tryd.prog 193 10 = some (10, 1) := by kernel_rfl
@[go_sem] theorem partTy_193_10 : partTy Tryd.prog 193 10 = 179 := by kernel_rfl
@[go_sem] theorem plA_193_11 : plA Tryd.prog 193 11 = some (11, 1) := by kernel_rfl
@[go_sem] theorem partTy_193_11 : partTy Tryd.prog 193 11 = 179 := by kernel_rfl
@[go_sem] theorem plA_193_12 : plA Tryd.prog 193 12 = some (12, 1) := by kernel_rfl
@[go_sem] theorem partTy_193_12 : partTy Tryd.prog 193 12 = 179 := by kernel_rfl
@[go_sem] theorem plA_193_13 : plA Tryd.prog 193 13 = some (13, 1) := by kernel_rfl
@[go_sem] theorem partTy_193_13 : partTy Tryd.prog 193 13 = 179 := by kernel_rfl
@[go_sem] theorem plA_193_14 : plA Tryd.prog 193 14 = some (14, 1) := by kernel_rfl
@[go_sem] theorem partTy_193_14 : partTy Tryd.prog 193 14 = 179 := by kernel_rfl
@[go_sem] theorem plA_193_15 : plA Tryd.prog 193 15 = some (15, 1) := by kernel_rfl
@[go_sem] theorem partTy_193_15 : partTy Tryd.prog 193 15 = 179 := by kernel_rfl
@[go_sem] theorem tyA_194 : tyA Tryd.prog 194 = some (true, 65) := by kernel_rfl
@[go_sem] theorem bytesA_194 : bytesA Tryd.prog 194 = false := by kernel_rfl
@[go_sem] theorem knownA_194 : knownA Tryd.prog 194 = true := by kernel_rfl
@[go_sem] theorem concA_194 : concA Tryd.prog 194 = true := by kernel_rfl
@[go_sem] theorem ikA_194 : ikA Tryd.prog 194 = none := by kernel_rfl
@[go_sem] theorem bldT_194 : bldT Tryd.prog 194 = none := by kernel_rfl
@[go_sem] theorem slA_194 : slA Tryd.prog 194 = none := by kernel_rfl
@[go_sem] theorem arA_194 : arA Tryd.prog 194 = some (65, 1) := by kernel_rfl
@[go_sem] theorem avA_194 : avA Tryd.prog 194 = some (65, false, 1) := by kernel_rfl
@[go_sem] theorem fsOk_194 : fsOk Tryd.prog 194 = true := by kernel_rfl
@[go_sem] theorem plA_194_0 : plA Tryd.prog 194 0 = some (0, 1) := by kernel_rfl
@[go_sem] theorem partTy_194_0 : partTy Tryd.prog 194 0 = 5 := by kernel_rfl
@[go_sem] theorem plA_194_1 : plA Tryd.prog 194 1 = some (1, 1) := by kernel_rfl
@[go_sem] theorem partTy_194_1 : partTy Tryd.prog 194 1 = 5 := by kernel_rfl
@[go_sem] theorem plA_194_2 : plA Tryd.prog 194 2 = some (2, 1) := by kernel_rfl
@[go_sem] theorem partTy_194_2 : partTy Tryd.prog 194 2 = 5 := by kernel_rfl
@[go_sem] theorem plA_194_3 : plA Tryd.prog 194 3 = some (3, 1) := by kernel_rfl
@[go_sem] theorem partTy_194_3 : partTy Tryd.prog 194 3 = 5 := by kernel_rfl
@[go_sem] theorem plA_194_4 : plA Tryd.prog 194 4 = some (4, 1) := by kernel_rfl
@[go_sem] theorem partTy_194_4 : partTy Tryd.prog 194 4 = 5 := by kernel_rfl
@[go_sem] theorem plA_194_5 : plA Tryd.prog 194 5 = some (5, 1) := by kernel_rfl
@[go_sem] theorem partTy_194_5 : partTy Tryd.prog 194 5 = 5 := by kernel_rfl
@[go_sem] theorem plA_194_6 : plA Tryd.prog 194 6 = some (6, 1) := by kernel_rfl
@[go_sem] theorem partTy_194_6 : partTy Tryd.prog 194 6 = 5 := by kernel_rfl
@[go_sem] theorem plA_194_7 : plA Tryd.prog 194 7 = some (7, 1) := by kernel_rfl
@[go_sem] theorem partTy_194_7 : partTy Tryd.prog 194 7 = 5 := by kernel_rfl
@[go_sem] theorem plA_194_8 : plA Tryd.prog 194 8 = some (8, 1) := by kernel_rfl
@[go_sem] theorem partTy_194_8 : partTy Tryd.prog 194 8 = 5 := by kernel_rfl
@[go_sem] theorem plA_194_9 : plA Tryd.prog 194 9 = some (9, 1) := by kernel_rfl
@[go_sem] theorem partTy_194_9 : partTy Tryd.prog 194 9 = 5 := by kernel_rfl
@[go_sem] theorem plA_194_10 : plA Tryd.prog 194 10 = some (10, 1) := by kernel_rfl
@[go_sem] theorem partTy_194_10 : partTy Tryd.prog 194 10 = 5 := by kernel_rfl
@[go_sem] theorem plA_194_11 : plA Tryd.prog 194 11 = some (11, 1) := by kernel_rfl
@[go_sem] theorem partTy_194_11 : partTy Tryd.prog 194 11 = 5 := by kernel_rfl
@[go_sem] theorem plA_194_12 : plA Tryd.prog 194 12 = some (12, 1) := by kernel_rfl
@[go_sem] theorem partTy_194_12 : partTy Tryd.prog 194 12 = 5 := by kernel_rfl
@[go_sem] theorem plA_194_13 : plA Tryd.prog 194 13 = some (13, 1) := by kernel_rfl
@[go_sem] theorem partTy_194_13 : partTy Tryd.prog 194 13 = 5 := by kernel_rfl
@[go_sem] theorem plA_194_14 : plA Tryd.prog 194 14 = some (14, 1) := by kernel_rfl
@[go_sem] theorem partTy_194_14 : partTy Tryd.prog 194 14 = 5 := by kernel_rfl
@[go_sem] theorem plA_194_15 : plA Tryd.prog 194 15 = some (15, 1) := by kernel_rfl
@[go_sem] theorem partTy_194_15 : partTy Tryd.prog 194 15 = 5 := by kernel_rfl
@[go_sem] theorem tyA_195 : tyA Tryd.prog 195 = some (false, 1) := by kernel_rfl
@[go_sem] theorem bytesA_195 : bytesA Tryd.prog 195 = false := by kernel_rfl
@[go_sem] theorem knownA_195 : knownA Tryd.prog 195 = true := by kernel_rfl
@[go_sem] theorem concA_195 : concA Tryd.prog 195 = true := by kernel_rfl
@[go_sem] theorem ikA_195 : ikA Tryd.prog 195 = none := by kernel_rfl
@[go_sem] theorem bldT_195 : bldT Tryd.prog 195 = none := by kernel_rfl
@[go_sem] theorem zeroA_195 : zeroA Tryd.prog 195 = some [.raw .nilFunc] := by kernel_rfl
@[go_sem] theorem slA_195 : slA Tryd.prog 195 = none := by kernel_rfl
@[go_sem] theorem tyA_197 : tyA Tryd.prog 197 = some (false, 1) := by kernel_rfl
@[go_sem] theorem bytesA_197 : bytesA Tryd.prog 197 = false := by kernel_rfl
@[go_sem] theorem knownA_197 : knownA Tryd.prog 197 = true := by kernel_rfl
@[go_sem] theorem concA_197 : concA Tryd.prog 197 = true := by kernel_rfl
@[go_sem] theorem ikA_197 : ikA Tryd.prog 197 = none := by kernel_rfl
@[go_sem] theorem bldT_197 : bldT Tryd.prog 197 = none := by kernel_rfl
@[go_sem] theorem zeroA_197 : zeroA Tryd.prog 197 = some [.raw .nilFunc] := by kernel_rfl
@[go_sem] theorem slA_197 : slA Tryd.prog 197 = none := by kernel_rfl
@[go_sem] theorem tyA_198 : tyA Tryd.prog 198 = some (false, 1) := by kernel_rfl
@[go_sem] theorem bytesA_198 : bytesA Tryd.prog 198 = false := by kernel_rfl
@[go_sem] theorem knownA_198 : knownA Tryd.prog 198 = true := by kernel_rfl
@[go_sem] theorem concA_198 : concA Tryd.prog 198 = true := by kernel_rfl
@[go_sem] theorem ikA_198 : ikA Tryd.prog 198 = none := by kernel_rfl
@[go_sem] theorem bldT_198 : bldT Tryd.prog 198 = none := by kernel_rfl
@[go_sem] theorem zeroA_198 : zeroA Tryd.prog 198 = some [.raw .nilFunc] := by kernel_rfl
@[go_sem] theorem slA_198 : slA Tryd.prog 198 = none := by kernel_rfl
@[go_sem] theorem tyA_199 : tyA Tryd.prog 199 = some (true, 3) := by kernel_rfl
@[go_sem] theorem bytesA_199 : bytesA Tryd.prog 199 = false := by kernel_rfl
@[go_sem] theorem knownA_199 : knownA Tryd.prog 199 = true := by kernel_rfl
@[go_sem] theorem concA_199 : concA Tryd.prog 199 = true := by kernel_rfl
@[go_sem] theorem ikA_199 : ikA Tryd.prog 199 = none := by kernel_rfl
@[go_sem] theorem bldT_199 : bldT Tryd.prog 199 = none := by kernel_rfl
@[go_sem] theorem zeroA_199 : zeroA Tryd.prog 199 = some [.str [], .str [], .raw .nilIface] := by kernel_rfl
@[go_sem] theorem slA_199 : slA Tryd.prog 199 = none := by kernel_rfl
@[go_sem] theorem fsOk_199 : fsOk Tryd.prog 199 = true := by kernel_rfl
@[go_sem] theorem fldA_199_0 : fldA Tryd.prog 199 0 = some 0 := by kernel_rfl
@[go_sem] theorem fpA_199_0 : fpA Tryd.prog 199 0 = some (0, false, 1) := by kernel_rfl
@[go_sem] theorem plA_199_0 : plA Tryd.prog 199 0 = some (0, 1) := by kernel_rfl
@[go_sem] theorem partTy_199_0 : partTy Tryd.prog 199 0 = 9 := by kernel_rfl
@[go_sem] theorem fldA_199_1 : fldA Tryd.prog 199 1 = some 1 := by kernel_rfl
@[go_sem] theorem fpA_199_1 : fpA Tryd.prog 199 1 = some (1, false, 1) := by kernel_rfl
@[go_sem] theorem plA_199_1 : plA Tryd.prog 199 1 = some (1, 1) := by kernel_rfl
@[go_sem] theorem partTy_199_1 : partTy Tryd.prog 199 1 = 9 := by kernel_rfl
@[go_sem] theorem fldA_199_2 : fldA Tryd.prog 199 2 = some 2 := by kernel_rfl
@[go_sem] theorem fpA_199_2 : fpA Tryd.prog 199 2 = some (2, false, 1) := by kernel_rfl
@[go_sem] theorem plA_199_2 : plA Tryd.prog 199 2 = some (2, 1) := by kernel_rfl
@[go_sem] theorem partTy_199_2 : partTy Tryd.prog 199 2 = 110 := by kernel_rfl
@[go_sem] theorem tyA_200 : tyA Tryd.prog 200 = some (true, 3) := by kernel_rfl
@[go_sem] theorem bytesA_200 : bytesA Tryd.prog 200 = false := by kernel_rfl
@[go_sem] theorem knownA_200 : knownA Tryd.prog 200 = true := by kernel_rfl
@[go_sem] theorem concA_200 : concA Tryd.prog 200 = true := by kernel_rfl
@[go_sem] theorem ikA_200 : ikA Tryd.prog 200 = none := by kernel_rfl
@[go_sem] theorem bldT_200 : bldT Tryd.prog 200 = none := by kernel_rfl
@[go_sem] theorem zeroA_200 : zeroA Tryd.prog 200 = some [.str [], .str [], .raw .nilIface] := by kernel_rfl
@[go_sem] theorem slA_200 : slA Tryd.prog 200 = none := by kernel_rfl
@[go_sem] theorem fsOk_200 : fsOk Tryd.prog 200 = true := by kernel_rfl
@[go_sem] theorem fldA_200_0 : fldA Tryd.prog 200 0 = some 0 := by kernel_rfl
@[go_sem] theorem fpA_200_0 : fpA Tryd.prog 200 0 = some (0, false, 1) := by kernel_rfl
@[go_sem] theorem plA_200_0 : plA Tryd.prog 200 0 = some (0, 1) := by kernel_rfl
@[go_sem] theorem partTy_200_0 : partTy Tryd.prog 200 0 = 9 := by kernel_rfl
@[go_sem] theorem fldA_200_1 : fldA Tryd.prog 200 1 = some 1 := by kernel_rfl
@[go_sem] theorem fpA_200_1 : fpA Tryd.prog 200 1 = some (1, false, 1) := by kernel_rfl
@[go_sem] theorem plA_200_1 : plA Tryd.prog 200 1 = some (1, 1) := by kernel_rfl
@[go_sem] theorem partTy_200_1 : partTy Tryd.prog 200 1 = 9 := by kernel_rfl
@[go_sem] theorem fldA_200_2 : fldA Tryd.prog 200 2 = some 2 := by kernel_rfl
@[go_sem] theorem fpA_200_2 : fpA Tryd.prog 200 2 = some (2, false, 1) := by kernel_rfl
@[go_sem] theorem plA_200_2 : plA Tryd.prog 200 2 = some (2, 1) := by kernel_rfl
@[go_sem] theorem partTy_200_2 : partTy Tryd.prog 200 2 = 110 := by kernel_rfl
@[go_sem] theorem tyA_201 : tyA Tryd.prog 201 = some (false, 1) := by kernel_rfl
@[go_sem] theorem bytesA_201 : bytesA Tryd.prog 201 = false := by kernel_rfl
@[go_sem] theorem knownA_201 : knownA Tryd.prog 201 = true := by kernel_rfl
@[go_sem] theorem concA_201 : concA Tryd.prog 201 = true := by kernel_rfl
@[go_sem] theorem ikA_201 : ikA Tryd.prog 201 = none := by kernel_rfl
@[go_sem] theorem bldT_201 : bldT Tryd.prog 201 = none := by kernel_rfl
@[go_sem] theorem zeroA_201 : zeroA Tryd.prog 201 = some [.raw .nilFunc] := by kernel_rfl
@[go_sem] theorem slA_201 : slA Tryd.prog 201 = none := by kernel_rfl
@[go_sem] theorem tyA_202 : tyA Tryd.prog 202 = some (true, 256) := by kernel_rfl
@[go_sem] theorem bytesA_202 : bytesA Tryd.prog 202 = false := by kernel_rfl
@[go_sem] theorem knownA_202 : knownA Tryd.prog 202 = true := by kernel_rfl
@[go_sem] theorem concA_202 : concA Tryd.prog 202 = true := by kernel_rfl
@[go_sem] theorem ikA_202 : ikA Tryd.prog 202 = none := by kernel_rfl
@[go_sem] theorem bldT_202 : bldT Tryd.prog 202 = none := by kernel_rfl
@[go_sem] theorem slA_202 : slA Tryd.prog 202 = none := by kernel_rfl
@[go_sem] theorem arA_202 : arA Tryd.prog 202 = some (256, 1) := by kernel_rfl
@[go_sem] theorem avA_202 : avA Tryd.prog 202 = some (256, false, 1) := by kernel_rfl
@[go_sem] theorem fsOk_202 : fsOk Tryd.prog 202 = true := by kernel_rfl
@[go_sem] theorem plA_202_0 : plA Tryd.prog 202 0 = some (0, 1) := by kernel_rfl
@[go_sem] theorem partTy_202_0 : partTy Tryd.prog 202 0 = 5 := by kernel_rfl
@[go_sem] theorem plA_202_1 : plA Tryd.prog 202 1 = some (1, 1) := by kernel_rfl
@[go_sem] theorem partTy_202_1 : partTy Tryd.prog 202 1 = 5 := by kernel_rfl
@[go_sem] theorem plA_202_2 : plA Tryd.prog 202 2 = some (2, 1) := by kernel_rfl
@[go_sem] theorem partTy_202_2 : partTy Tryd.prog 202 2 = 5 := by kernel_rfl
@[go_sem] theorem plA_202_3 : plA Tryd.prog 202 3 = some (3, 1) := by kernel_rfl
@[go_sem] theorem partTy_202_3 : partTy Tryd.prog 202 3 = 5 := by kernel_rfl
@[go_sem] theorem plA_202_4 : plA Tryd.prog 202 4 = some (4, 1) := by kernel_rfl
@[go_sem] theorem partTy_202_4 : partTy Tryd.prog 202 4 = 5 := by kernel_rfl
@[go_sem] theorem plA_202_5 : plA Tryd.prog 202 5 = some (5, 1) := by kernel_rfl
@[go_sem] theorem partTy_202_5 : partTy Tryd.prog 202 5 = 5 := by kernel_rfl
@[go_sem] theorem plA_202_6 : plA Tryd.prog 202 6 = some (6, 1) := by kernel_rfl
@[go_sem] theorem partTy_202_6 : partTy Tryd.prog 202 6 = 5 := by kernel_rfl
@[go_sem] theorem plA_202_7 : plA Tryd.prog 202 7 = some (7, 1) := by kernel_rfl
@[go_sem] theorem partTy_202_7 : partTy Tryd.prog 202 7 = 5 := by kernel_rfl
@[go_sem] theorem plA_202_8 : plA Tryd.prog 202 8 = some (8, 1) := by kernel_rfl
@[go_sem] theorem partTy_202_8 : partTy Tryd.prog 202 8 = 5 := by kernel_rfl
@[go_sem] theorem plA_202_9 : plA Tryd.prog 202 9 = some (9, 1) := by kernel_rfl
@[go_sem] theorem partTy_202_9 : partTy Tryd.prog 202 9 = 5 := by kernel_rfl
@[go_sem] theorem plA_202_10 : plA Tryd.prog 202 10 = some (10, 1) := by kernel_rfl
@[go_sem] theorem partTy_202_10 : partTy Tryd.prog 202 10 = 5 := by kernel_rfl
@[go_sem] theorem plA_202_11 : plA Tryd.prog 202 11 = some (11, 1) := by kernel_rfl
@[go_sem] theorem partTy_202_11 : partTy Tryd.prog 202 11 = 5 := by kernel_rfl
@[go_sem] theorem plA_202_12 : plA Tryd.prog 202 12 = some (12, 1) := by kernel_rfl
@[go_sem] theorem partTy_202_12 : partTy Tryd.prog 202 12 = 5 := by kernel_rfl
@[go_sem] theorem plA_202_13 : plA Tryd.prog 202 13 = some (13, 1) := by kernel_rfl
@[go_sem] theorem partTy_202_13 : partTy Tryd.prog 202 13 = 5 := by kernel_rfl
@[go_sem] theorem plA_202_14 : plA Tryd.prog 202 14 = some (14, 1) := by kernel_rfl
@[go_sem] theorem partTy_202_14 : partTy Tryd.prog 202 14 = 5 := by kernel_rfl
@[go_sem] theorem plA_202_15 : plA Tryd.prog 202 15 = some (15, 1) := by kernel_rfl
@[go_sem] theorem partTy_202_15 : partTy Tryd.prog 202 15 = 5 := by kernel_rfl
@[go_sem] theorem tyA_203 : tyA Tryd.prog 203 = some (true, 2) := by kernel_rfl
@[go_sem] theorem bytesA_203 : bytesA Tryd.prog 203 = false := by kernel_rfl
@[go_sem] theorem knownA_203 : knownA Tryd.prog 203 = true := by kernel_rfl
@[go_sem] theorem concA_203 : concA Tryd.prog 203 = true := by kernel_rfl
@[go_sem] theorem ikA_203 : ikA Tryd.prog 203 = none := by kernel_rfl
@[go_sem] theorem bldT_203 : bldT Tryd.prog 203 = none := by kernel_rfl
@[go_sem] theorem zeroA_203 : zeroA Tryd.prog 203 = some [.int .u8 0, .int .u8 0] := by kernel_rfl
@[go_sem] theorem slA_203 : slA Tryd.prog 203 = none := by kernel_rfl
@[go_sem] theorem fsOk_203 : fsOk Tryd.prog 203 = true := by kernel_rfl
@[go_sem] theorem fldA_203_0 : fldA Tryd.prog 203 0 = some 0 := by kernel_rfl
@[go_sem] theorem fpA_203_0 : fpA Tryd.prog 203 0 = some (0, false, 1) := by kernel_rfl
@[go_sem] theorem plA_203_0 : plA Tryd.prog 203 0 = some (0, 1) := by kernel_rfl
@[go_sem] theorem partTy_203_0 : partTy Tryd.prog 203 0 = 5 := by kernel_rfl
@[go_sem] theorem fldA_203_1 : fldA Tryd.prog 203 1 = some 1 := by kernel_rfl
@[go_sem] theorem fpA_203_1 : fpA Tryd.prog 203 1 = some (1, false, 1) := by kernel_rfl
@[go_sem] theorem plA_203_1 : plA Tryd.prog 203 1 = some (1, 1) := by kernel_rfl
@[go_sem] theorem partTy_203_1 : partTy Tryd.prog 203 1 = 5 := by kernel_rfl
@[go_sem] theorem eqKs_203 : eqKs Tryd.prog 203 = some [.int .u8, .int .u8] := by kernel_rfl
@[go_sem] theorem tyA_204 : tyA Tryd.prog 204 = some (true, 2) := by kernel_rfl
@[go_sem] theorem bytesA_204 : bytesA Tryd.prog 204 = false := by kernel_rfl
@[go_sem] theorem knownA_204 : knownA Tryd.prog 204 = true := by kernel_rfl
@[go_sem] theorem concA_204 : concA Tryd.prog 204 = true := by kernel_rfl
@[go_sem] theorem ikA_204 : ikA Tryd.prog 204 = none := by kernel_rfl
@[go_sem] theorem bldT_204 : bldT Tryd.prog 204 = none := by kernel_rfl
@[go_sem] theorem zeroA_204 : zeroA Tryd.prog 204 = some [.int .u8 0, .int .u8 0] := by kernel_rfl
@[go_sem] theorem slA_204 : slA Tryd.prog 204 = none := by kernel_rfl
@[go_sem] theorem fsOk_204 : fsOk Tryd.prog 204 = true := by kernel_rfl
@[go_sem] theorem fldA_204_0 : fldA Tryd.prog 204 0 = some 0 := by kernel_rfl
@[go_sem] theorem fpA_204_0 : fpA Tryd.prog 204 0 = some (0, false, 1) := by kernel_rfl
@[go_sem] theorem plA_204_0 : plA Tryd.prog 204 0 = some (0, 1) := by kernel_rfl
@[go_sem] theorem partTy_204_0 : partTy Tryd.prog 204 0 = 5 := by kernel_rfl
@[go_sem] theorem fldA_204_1 : fldA Tryd.prog 204 1 = some 1 := by kernel_rfl
@[go_sem] theorem fpA_204_1 : fpA Tryd.prog 204 1 = some (1, false, 1) := by kernel_rfl
@[go_sem] theorem plA_204_1 : plA Tryd.prog 204 1 = some (1, 1) := by kernel_rfl
@[go_sem] theorem partTy_204_1 : partTy Tryd.prog 204 1 = 5 := by kernel_rfl
@[go_sem] theorem eqKs_204 : eqKs Tryd.prog 204 = some [.int .u8, .int .u8] := by kernel_rfl
@[go_sem] theorem tyA_205 : tyA Tryd.prog 205 = some (true, 32) := by kernel_rfl
@[go_sem] theorem bytesA_205 : bytesA Tryd.prog 205 = false := by kernel_rfl
@[go_sem] theorem knownA_205 : knownA Tryd.prog 205 = true := by kernel_rfl
@[go_sem] theorem concA_205 : concA Tryd.prog 205 = true := by kernel_rfl
@[go_sem] theorem ikA_205 : ikA Tryd.prog 205 = none := by kernel_rfl
@[go_sem] theorem bldT_205 : bldT Tryd.prog 205 = none := by kernel_rfl
@[go_sem] theorem zeroA_205 : zeroA Tryd.prog 205 = some [.int .u8 0, .int .u8 0, .int .u8 0, .int .u8 0, .int .u8 0, .int .u8 0, .int .u8 0, .int .u8 0, .int .u8 0, .int .u8 0, .int .u8 0, .int .u8 0, .int .u8 0, .int .u8 0, .int .u8 0, .int .u8 0, .int .u8 0, .int .u8 0, .int .u8 0, .int .u8 0, .int .u8 0, .int .u8 0, .int .u8 0, .int .u8 0, .int .u8 0, .int .u8 0, .int .u8 0, .int .u8 0, .int .u8 0, .int .u8 0, .int .u8 0, .int .u8 0] := by kernel_rfl
@[go_sem] theorem slA_205 : slA Tryd.prog 205 = none := by kernel_rfl
@[go_sem] theorem arA_205 : arA Tryd.prog 205 = some (16, 2) := by kernel_rfl
@[go_sem] theorem avA_205 : avA Tryd.prog 205 = some (16, true, 2) := by kernel_rfl
@[go_sem] theorem fsOk_205 : fsOk Tryd.prog 205 = true := by kernel_rfl
@[go_sem] theorem plA_205_0 : plA Tryd.prog 205 0 = some (0, 2) := by kernel_rfl
@[go_sem] theorem partTy_205_0 : partTy Tryd.prog 205 0 = 204 := by kernel_rfl
@[go_sem] theorem plA_205_1 : plA Tryd.prog 205 1 = some (2, 2) := by kernel_rfl
@[go_sem] theorem partTy_205_1 : partTy Tryd.prog 205 1 = 204 := by kernel_rfl
@[go_sem] theorem plA_205_2 : plA Tryd.prog 205 2 = some (4, 2) := by kernel_rfl
@[go_sem] theorem partTy_205_2 : partTy Tryd.prog 205 2 = 204 := by kernel_rfl
@[go_sem] theorem plA_205_3 : plA Tryd.prog 205 3 = some (6, 2) := by kernel_rfl
@[go_sem] theorem partTy_205_3 : partTy Tryd.prog 205 3 = 204 := by kernel_rfl
@[go_sem] theorem plA_205_4 : plA Tryd.prog 205 4 = some (8, 2) := by kernel_rfl
@[go_sem] theorem partTy_205_4 : partTy Tryd.prog 205 4 = 204 := by kernel_rfl
@[go_sem] theorem plA_205_5 : plA Tryd.prog 205 5 = some (10, 2) := by kernel_rfl
@[go_sem] theorem partTy_205_5 : partTy Tryd.prog 205 5 = 204 := by kernel_rfl
@[go_sem] theorem plA_205_6 : plA Tryd.prog 205 6 = some (12, 2) := by kernel_rfl
@[go_sem] theorem partTy_205_6 : partTy Tryd.prog 205 6 = 204 := by kernel_rfl
@[go_sem] theorem plA_205_7 : plA Tryd.prog 205 7 = some (14, 2) := by kernel_rfl
@[go_sem] theorem partTy_205_7 : partTy Tryd.prog 205 7 = 204 := by kernel_rfl
@[go_sem] theorem plA_205_8 : plA Tryd.prog 205 8 = some (16, 2) := by kernel_rfl
@[go_sem] theorem partTy_205_8 : partTy Tryd.prog 205 8 = 204 := by kernel_rfl
@[go_sem] theorem plA_205_9 : plA Tryd.prog 205 9 = some (18, 2) := by kernel_rfl
@[go_sem] theorem partTy_205_9 : partTy Tryd.prog 205 9 = 204 := by kernel_rfl
@[go_sem] theorem plA_205_10 : plA Tryd.prog 205 10 = some (20, 2) := by kernel_rfl
@[go_sem] theorem partTy_205_10 : partTy Tryd.prog 205 10 = 204 := by kernel_rfl
@[go_sem] theorem plA_205_11 : plA Tryd.prog 205 11 = some (22, 2) := by kernel_rfl
@[go_sem] theorem partTy_205_11 : partTy Tryd.prog 205 11 = 204 := by kernel_rfl
@[go_sem] theorem plA_205_12 : plA Tryd.prog 205 12 = some (24, 2) := by kernel_rfl
@[go_sem] theorem partTy_205_12 : partTy Tryd.prog 205 12 = 204 := by kernel_rfl
@[go_sem] theorem plA_205_13 : plA Tryd.prog 205 13 = some (26, 2) := by kernel_rfl
@[go_sem] theorem partTy_205_13 : partTy Tryd.prog 205 13 = 204 := by kernel_rfl
@[go_sem] theorem plA_205_14 : plA Tryd.prog 205 14 = some (28, 2) := by kernel_rfl
@[go_sem] theorem partTy_205_14 : partTy Tryd.prog 205 14 = 204 := by kernel_rfl
@[go_sem] theorem plA_205_15 : plA Tryd.prog 205 15 = some (30, 2) := by kernel_rfl
@[go_sem] theorem partTy_205_15 : partTy Tryd.prog 205 15 = 204 := by kernel_rfl
@[go_sem] theorem tyA_206 : tyA Tryd.prog 206 = some (false, 1) := by kernel_rfl
@[go_sem] theorem bytesA_206 : bytesA Tryd.prog 206 = false := by kernel_rfl
@[go_sem] theorem knownA_206 : knownA Tryd.prog 206 = true := by kernel_rfl
@[go_sem] theorem concA_206 : concA Tryd.prog 206 = true := by kernel_rfl
@[go_sem] theorem ikA_206 : ikA Tryd.prog 206 = none := by kernel_rfl
@[go_sem] theorem bldT_206 : bldT Tryd.prog 206 = none := by kernel_rfl
@[go_sem] theorem zeroA_206 : zeroA Tryd.prog 206 = some [.raw .nilFunc] := by kernel_rfl
@[go_sem] theorem slA_206 : slA Tryd.prog 206 = none := by kernel_rfl
@[go_sem] theorem tyA_207 : tyA Tryd.prog 207 = some (false, 1) := by kernel_rfl
@[go_sem] theorem bytesA_207 : bytesA Tryd.prog 207 = false := by kernel_rfl
@[go_sem] theorem knownA_207 : knownA Tryd.prog 207 = true := by kernel_rfl
@[go_sem] theorem concA_207 : concA Tryd.prog 207 = true := by kernel_rfl
@[go_sem] theorem ikA_207 : ikA Tryd.prog 207 = none := by kernel_rfl
@[go_sem] theorem bldT_207 : bldT Tryd.prog 207 = none := by kernel_rfl
@[go_sem] theorem zeroA_207 : zeroA Tryd.prog 207 = some [.raw .nilFunc] := by kernel_rfl
@[go_sem] theorem slA_207 : slA Tryd.prog 207 = none := by kernel_rfl
@[go_sem] theorem tyA_208 : tyA Tryd.prog 208 = some (false, 1) := by kernel_rfl
@[go_sem] theorem bytesA_208 : bytesA Tryd.prog 208 = false := by kernel_rfl
@[go_sem] theorem knownA_208 : knownA Tryd.prog 208 = true := by kernel_rfl
@[go_sem] theorem concA_208 : concA Tryd.prog 208 = true := by kernel_rfl
@[go_sem] theorem ikA_208 : ikA Tryd.prog 208 = none := by kernel_rfl
@[go_sem] theorem bldT_208 : bldT Tryd.prog 208 = none := by kernel_rfl
@[go_sem] theorem zeroA_208 : zeroA Tryd.prog 208 = some [.raw (.pointer none)] := by kernel_rfl
@[go_sem] theorem slA_208 : slA Tryd.prog 208 = none := by kernel_rfl
@[go_sem] theorem tyA_209 : tyA Tryd.prog 209 = some (true, 1) := by kernel_rfl
@[go_sem] theorem bytesA_209 : bytesA Tryd.prog 209 = false := by kernel_rfl
@[go_sem] theorem knownA_209 : knownA Tryd.prog 209 = true := by kernel_rfl
@[go_sem] theorem concA_209 : concA Tryd.prog 209 = true := by kernel_rfl
@[go_sem] theorem ikA_209 : ikA Tryd.prog 209 = none := by kernel_rfl
@[go_sem] theorem bldT_209 : bldT Tryd.prog 209 = none := by kernel_rfl
@[go_sem] theorem zeroA_209 : zeroA Tryd.prog 209 = some [.str []] := by kernel_rfl
@[go_sem] theorem slA_209 : slA Tryd.prog 209 = none := by kernel_rfl
@[go_sem] theorem fsOk_209 : fsOk Tryd.prog 209 = true := by kernel_rfl
@[go_sem] theorem fldA_209_0 : fldA Tryd.prog 209 0 = some 0 := by kernel_rfl
@[go_sem] theorem fpA_209_0 : fpA Tryd.prog 209 0 = some (0, false, 1) := by kernel_rfl
@[go_sem] theorem plA_209_0 : plA Tryd.prog 209 0 = some (0, 1) := by kernel_rfl
@[go_sem] theorem partTy_209_0 : partTy Tryd.prog 209 0 = 9 := by kernel_rfl
@[go_sem] theorem eqKs_209 : eqKs Tryd.prog 209 = some [.str] := by kernel_rfl
@[go_sem] theorem tyA_210 : tyA Tryd.prog 210 = some (true, 1) := by kernel_rfl
@[go_sem] theorem bytesA_210 : bytesA Tryd.prog 210 = false := by kernel_rfl
@[go_sem] theorem knownA_210 : knownA Tryd.prog 210 = true := by kernel_rfl
@[go_sem] theorem concA_210 : concA Tryd.prog 210 = true := by kernel_rfl
@[go_sem] theorem ikA_210 : ikA Tryd.prog 210 = none := by kernel_rfl
@[go_sem] theorem bldT_210 : bldT Tryd.prog 210 = none := by kernel_rfl
@[go_sem] theorem zeroA_210 : zeroA Tryd.prog 210 = some [.str []] := by kernel_rfl
@[go_sem] theorem slA_210 : slA Tryd.prog 210 = none := by kernel_rfl
@[go_sem] theorem fsOk_210 : fsOk Tryd.prog 210 = true := by kernel_rfl
@[go_sem] theorem fldA_210_0 : fldA Tryd.prog 210 0 = some 0 := by kernel_rfl
@[go_sem] theorem fpA_210_0 : fpA Tryd.prog 210 0 = some (0, false, 1) := by kernel_rfl
@[go_sem] theorem plA_210_0 : plA Tryd.prog 210 0 = some (0, 1) := by kernel_rfl
@[go_sem] theorem partTy_210_0 : partTy Tryd.prog 210 0 = 9 := by kernel_rfl
@[go_sem] theorem eqKs_210 : eqKs Tryd.prog 210 = some [.str] := by kernel_rfl
@[go_sem] theorem tyA_211 : tyA Tryd.prog 211 = some (true, 32) := by kernel_rfl
@[go_sem] theorem bytesA_211 : bytesA Tryd.prog 211 = false := by kernel_rfl
@[go_sem] theorem knownA_211 : knownA Tryd.prog 211 = true := by kernel_rfl
@[go_sem] theorem concA_211 : concA Tryd.prog 211 = true := by kernel_rfl
@[go_sem] theorem ikA_211 : ikA Tryd.prog 211 = none := by kernel_rfl
@[go_sem] theorem bldT_211 : bldT Tryd.prog 211 = none := by kernel_rfl
@[go_sem] theorem zeroA_211 : zeroA Tryd.prog 211 = some [.int .u8 0, .int .u8 0, .int .u8 0, .int .u8 0, .int .u8 0, .int .u8 0, .int .u8 0, .int .u8 0, .int .u8 0, .int .u8 0, .int .u8 0, .int .u8 0, .int .u8 0, .int .u8 0, .int .u8 0, .int .u8 0, .int .u8 0, .int .u8 0, .int .u8 0, .int .u8 0, .int .u8 0, .int .u8 0, .int .u8 0, .int .u8 0, .int .u8 0, .int .u8 0, .int .u8 0, .int .u8 0, .int .u8 0, .int .u8 0, .int .u8 0, .int .u8 0] := by kernel_rfl
@[go_sem] theorem slA_211 : slA Tryd.prog 211 = none := by kernel_rfl
@[go_sem] theorem arA_211 : arA Tryd.prog 211 = some (32, 1) := by kernel_rfl
@[go_sem] theorem avA_211 : avA Tryd.prog 211 = some (32, false, 1) := by kernel_rfl
@[go_sem] theorem fsOk_211 : fsOk Tryd.prog 211 = true := by kernel_rfl
@[go_sem] theorem plA_211_0 : plA Tryd.prog 211 0 = some (0, 1) := by kernel_rfl
@[go_sem] theorem partTy_211_0 : partTy Tryd.prog 211 0 = 5 := by kernel_rfl
@[go_sem] theorem plA_211_1 : plA Tryd.prog 211 1 = some (1, 1) := by kernel_rfl
@[go_sem] theorem partTy_211_1 : partTy Tryd.prog 211 1 = 5 := by kernel_rfl
@[go_sem] theorem plA_211_2 : plA Tryd.prog 211 2 = some (2, 1) := by kernel_rfl
@[go_sem] theorem partTy_211_2 : partTy Tryd.prog 211 2 = 5 := by kernel_rfl
@[go_sem] theorem plA_211_3 : plA Tryd.prog 211 3 = some (3, 1) := by kernel_rfl
@[go_sem] theorem partTy_211_3 : partTy Tryd.prog 211 3 = 5 := by kernel_rfl
@[go_sem] theorem plA_211_4 : plA Tryd.prog 211 4 = some (4, 1) := by kernel_rfl
@[go_sem] theorem partTy_211_4 : partTy Tryd.prog 211 4 = 5 := by kernel_rfl
@[go_sem] theorem plA_211_5 : plA Tryd.prog 211 5 = some (5, 1) := by kernel_rfl
@[go_sem] theorem partTy_211_5 : partTy Tryd.prog 211 5 = 5 := by kernel_rfl
@[go_sem] theorem plA_211_6 : plA Tryd.prog 211 6 = some (6, 1) := by kernel_rfl
@[go_sem] theorem partTy_211_6 : partTy Tryd.prog 211 6 = 5 := by kernel_rfl
@[go_sem] theorem plA_211_7 : plA Tryd.prog 211 7 = some (7, 1) := by kernel_rfl
@[go_sem] theorem partTy_211_7 : partTy Tryd.prog 211 7 = 5 := by kernel_rfl
@[go_sem] theorem plA_211_8 : plA Tryd.prog 211 8 = some (8, 1) := by kernel_rfl
@[go_sem] theorem partTy_211_8 : partTy Tryd.prog 211 8 = 5 := by kernel_rfl
@[go_sem] theorem plA_211_9 : plA Tryd.prog 211 9 = some (9, 1) := by kernel_rfl
@[go_sem] theorem partTy_211_9 : partTy Tryd.prog 211 9 = 5 := by kernel_rfl
@[go_sem] theorem plA_211_10 : plA Tryd.prog 211 10 = some (10, 1) := by kernel_rfl
@[go_sem] theorem partTy_211_10 : partTy Tryd.prog 211 10 = 5 := by kernel_rfl
@[go_sem] theorem plA_211_11 : plA Tryd.prog 211 11 = some (11, 1) := by kernel_rfl
@[go_sem] theorem partTy_211_11 : partTy Tryd.prog 211 11 = 5 := by kernel_rfl
@[go_sem] theorem plA_211_12 : plA Tryd.prog 211 12 = some (12, 1) := by kernel_rfl
@[go_sem] theorem partTy_211_12 : partTy Tryd.prog 211 12 = 5 := by kernel_rfl
@[go_sem] theorem plA_211_13 : plA Tryd.prog 211 13 = some (13, 1) := by kernel_rfl
@[go_sem] theorem partTy_211_13 : partTy Tryd.prog 211 13 = 5 := by kernel_rfl
@[go_sem] theorem plA_211_14 : plA Tryd.prog 211 14 = some (14, 1) := by kernel_rfl
@[go_sem] theorem partTy_211_14 : partTy Tryd.prog 211 14 = 5 := by kernel_rfl
@[go_sem] theorem plA_211_15 : plA Tryd.prog 211 15 = some (15, 1) := by kernel_rfl
@[go_sem] theorem partTy_211_15 : partTy Tryd.prog 211 15 = 5 := by kernel_rfl
@[go_sem] theorem tyA_212 : tyA Tryd.prog 212 = some (true, 64) := by kernel_rfl
@[go_sem] theorem bytesA_212 : bytesA Tryd.prog 212 = false := by kernel_rfl
@[go_sem] theorem knownA_212 : knownA Tryd.prog 212 = true := by kernel_rfl
@[go_sem] theorem concA_212 : concA Tryd.prog 212 = true := by kernel_rfl
@[go_sem] theorem ikA_212 : ikA Tryd.prog 212 = none := by kernel_rfl
@[go_sem] theorem bldT_212 : bldT Tryd.prog 212 = none := by kernel_rfl
@[go_sem] theorem zeroA_212 : zeroA Tryd.prog 212 = some [.int .u8 0, .int .u8 0, .int .u8 0, .int .u8 0, .int .u8 0, .int .u8 0, .int .u8 0, .int .u8 0, .int .u8 0, .int .u8 0, .int .u8 0, .int .u8 0, .int .u8 0, .int .u8 0, .int .u8 0, .int .u8 0, .int .u8 0, .int .u8 0, .int .u8 0, .int .u8 0, .int .u8 0, .int .u8 0, .int .u8 0, .int .u8 0, .int .u8 0, .int .u8 0, .int .u8 0, .int .u8 0, .int .u8 0, .int .u8 0, .int .u8 0, .int .u8 0, .int .u8 0, .int .u8 0, .int .u8 0, .int .u8 0, .int .u8 0, .int .u8 0, .int .u8 0, .int .u8 0, .int .u8 0, .int .u8 0, .int .u8 0, .int .u8 0, .int .u8 0, .int .u8 0, .int .u8 0, .int .u8 0, .int .u8 0, .int .u8 0, .int .u8 0, .int .u8 0, .int .u8 0, .int .u8 0, .int .u8 0, .int .u8 0, .int .u8 0, .int .u8 0, .int .u8 0, .int .u8 0, .int .u8 0, .int .u8 0, .int .u8 0, .int .u8 0] := by kernel_rfl
@[go_sem] theorem slA_212 : slA Tryd.prog 212 = none := by kernel_rfl
@[go_sem] theorem arA_212 : arA Tryd.prog 212 = some (64, 1) := by kernel_rfl
@[go_sem] theorem avA_212 : avA Tryd.prog 212 = some (64, false, 1) := by kernel_rfl
@[go_sem] theorem fsOk_212 : fsOk Tryd.prog 212 = true := by kernel_rfl
@[go_sem] theorem plA_212_0 : plA Tryd.prog 212 0 = some (0, 1) := by kernel_rfl
@[go_sem] theorem partTy_212_0 : partTy Tryd.prog 212 0 = 5 := by kernel_rfl
@[go_sem] theorem plA_212_1 : plA Tryd.prog 212 1 = some (1, 1) := by kernel_rfl
@[go_sem] theorem partTy_212_1 : partTy Tryd.prog 212 1 = 5 := by kernel_rfl
@[go_sem] theorem plA_212_2 : plA Tryd.prog 212 2 = some (2, 1) := by kernel_rfl
@[go_sem] theorem partTy_212_2 : partTy Tryd.prog 212 2 = 5 := by kernel_rfl
@[go_sem] theorem plA_212_3 : plA Tryd.prog 212 3 = some (3, 1) := by kernel_rfl
@[go_sem] theorem partTy_212_3 : partTy Tryd.prog 212 3 = 5 := by kernel_rfl
@[go_sem] theorem plA_212_4 : plA Tryd.prog 212 4 = some (4, 1) := by kernel_rfl
@[go_sem] theorem partTy_212_4 : partTy Tryd.prog 212 4 = 5 := by kernel_rfl
@[go_sem] theorem plA_212_5 : plA Tryd.prog 212 5 = some (5, 1) := by kernel_rfl
@[go_sem] theorem partTy_212_5 : partTy Tryd.prog 212 5 = 5 := by kernel_rfl
@[go_sem] theorem plA_212_6 : plA Tryd.prog 212 6 = some (6, 1) := by kernel_rfl
@[go_sem] theorem partTy_212_6 : partTy Tryd.prog 212 6 = 5 := by kernel_rfl
@[go_sem] theorem plA_212_7 : plA Tryd.prog 212 7 = some (7, 1) := by kernel_rfl
@[go_sem] theorem partTy_212_7 : partTy Tryd.prog 212 7 = 5 := by kernel_rfl
@[go_sem] theorem plA_212_8 : plA Tryd.prog 212 8 = some (8, 1) := by kernel_rfl
@[go_sem] theorem partTy_212_8 : partTy Tryd.prog 212 8 = 5 := by kernel_rfl
@[go_sem] theorem plA_212_9 : plA Tryd.prog 212 9 = some (9, 1) := by kernel_rfl
@[go_sem] theorem partTy_212_9 : partTy Tryd.prog 212 9 = 5 := by kernel_rfl
@[go_sem] theorem plA_212_10 : plA Tryd.prog 212 10 = some (10, 1) := by kernel_rfl
@[go_sem] theorem partTy_212_10 : partTy Tryd.prog 212 10 = 5 := by kernel_rfl
@[go_sem] theorem plA_212_11 : plA Tryd.prog 212 11 = some (11, 1) := by kernel_rfl
@[go_sem] theorem partTy_212_11 : partTy Tryd.prog 212 11 = 5 := by kernel_rfl
@[go_sem] theorem plA_212_12 : plA Tryd.prog 212 12 = some (12, 1) := by kernel_rfl
@[go_sem] theorem partTy_212_12 : partTy Tryd.prog 212 12 = 5 := by kernel_rfl
@[go_sem] theorem plA_212_13 : plA Tryd.prog 212 13 = some (13, 1) := by kernel_rfl
@[go_sem] theorem partTy_212_13 : partTy Tryd.prog 212 13 = 5 := by kernel_rfl
@[go_sem] theorem plA_212_14 : plA Tryd.prog 212 14 = some (14, 1) := by kernel_rfl
@[go_sem] theorem partTy_212_14 : partTy Tryd.prog 212 14 = 5 := by kernel_rfl
@[go_sem] theorem plA_212_15 : plA Tryd.prog 212 15 = some (15, 1) := by kernel_rfl
@[go_sem] theorem partTy_212_15 : partTy Tryd.prog 212 15 = 5 := by kernel_rfl
@[go_sem] theorem tyA_218 : tyA Tryd.prog 218 = some (false, 1) := by kernel_rfl
@[go_sem] theorem bytesA_218 : bytesA Tryd.prog 218 = false := by kernel_rfl
@[go_sem] theorem knownA_218 : knownA Tryd.prog 218 = true := by kernel_rfl
@[go_sem] theorem concA_218 : concA Tryd.prog 218 = true := by kernel_rfl
@[go_sem] theorem ikA_218 : ikA Tryd.prog 218 = none := by kernel_rfl
@[go_sem] theorem bldT_218 : bldT Tryd.prog 218 = none := by kernel_rfl
@[go_sem] theorem zeroA_218 : zeroA Tryd.prog 218 = some [.raw .nilFunc] := by kernel_rfl
@[go_sem] theorem slA_218 : slA Tryd.prog 218 = none := by kernel_rfl
@[go_sem] theorem tyA_221 : tyA Tryd.prog 221 = some (false, 1) := by kernel_rfl
@[go_sem] theorem bytesA_221 : bytesA Tryd.prog 221 = false := by kernel_rfl
@[go_sem] theorem knownA_221 : knownA Tryd.prog 221 = true := by kernel_rfl
@[go_sem] theorem concA_221 : concA Tryd.prog 221 = true := by kernel_rfl
@[go_sem] theorem ikA_221 : ikA Tryd.prog 221 = none := by kernel_rfl
@[go_sem] theorem bldT_221 : bldT Tryd.prog 221 = none := by kernel_rfl
@[go_sem] theorem zeroA_221 : zeroA Tryd.prog 221 = some [.raw .nilFunc] := by kernel_rfl
@[go_sem] theorem slA_221 : slA Tryd.prog 221 = none := by kernel_rfl
@[go_sem] theorem mapA_140 : mapA Tryd.prog 140 = some (9, .int .i64 0) := by kernel_rfl
@[go_sem] theorem mapA_146 : mapA Tryd.prog 146 = some (4, .str []) := by kernel_rfl
@[go_sem] theorem mapA_164 : mapA Tryd.prog 164 = some (166, .bool false) := by kernel_rfl
@[go_sem] theorem ckOf_4 : ckOf Tryd.prog 4 = some (.bool) := by kernel_rfl
@[go_sem] theorem ckOf_9 : ckOf Tryd.prog 9 = some (.str) := by kernel_rfl
@[go_sem] theorem stA_166 : stA Tryd.prog 166 = some [.int .i64, .int .i64] := by kernel_rfl
@[go_sem] theorem bodyOk_3 : bodyOk Tryd.prog 3 = true := by kernel_rfl
@[go_sem] theorem bodyOk_4 : bodyOk Tryd.prog 4 = true := by kernel_rfl
@[go_sem] theorem bodyOk_5 : bodyOk Tryd.prog 5 = true := by kernel_rfl
@[go_sem] theorem bodyOk_6 : bodyOk Tryd.prog 6 = true := by kernel_rfl
@[go_sem] theorem bodyOk_7 : bodyOk Tryd.prog 7 = true := by kernel_rfl
@[go_sem] theorem bodyOk_8 : bodyOk Tryd.prog 8 = true := by kernel_rfl
@[go_sem] theorem bodyOk_9 : bodyOk Tryd.prog 9 = true := by kernel_rfl
@[go_sem] theorem bodyOk_10 : bodyOk Tryd.prog 10 = true := by kernel_rfl
@[go_sem] theorem bodyOk_11 : bodyOk Tryd.prog 11 = true := by kernel_rfl
@[go_sem] theorem bodyOk_12 : bodyOk Tryd.prog 12 = true := by kernel_rfl
@[go_sem] theorem bodyOk_13 : bodyOk Tryd.prog 13 = true := by kernel_rfl
@[go_sem] theorem bodyOk_14 : bodyOk Tryd.prog 14 = true := by kernel_rfl
@[go_sem] theorem bodyOk_15 : bodyOk Tryd.prog 15 = true := by kernel_rfl
@[go_sem] theorem bodyOk_16 : bodyOk Tryd.prog 16 = true := by kernel_rfl
@[go_sem] theorem bodyOk_17 : bodyOk Tryd.prog 17 = true := by kernel_rfl
@[go_sem] theorem bodyOk_18 : bodyOk Tryd.prog 18 = true := by kernel_rfl
@[go_sem] theorem bodyOk_19 : bodyOk Tryd.prog 19 = true := by kernel_rfl
@[go_sem] theorem bodyOk_20 : bodyOk Tryd.prog 20 = true := by kernel_rfl
@[go_sem] theorem bodyOk_21 : bodyOk Tryd.prog 21 = true := by kernel_rfl
@[go_sem] theorem bodyOk_22 : bodyOk Tryd.prog 22 = true := by kernel_rfl
@[go_sem] theorem bodyOk_23 : bodyOk Tryd.prog 23 = true := by kernel_rfl
@[go_sem] theorem bodyOk_24 : bodyOk Tryd.prog 24 = true := by kernel_rfl
@[go_sem] theorem bodyOk_25 : bodyOk Tryd.prog 25 = true := by kernel_rfl
@[go_sem] theorem bodyOk_26 : bodyOk Tryd.prog 26 = true := by kernel_rfl
@[go_sem] theorem bodyOk_27 : bodyOk Tryd.prog 27 = true := by kernel_rfl
@[go_sem] theorem bodyOk_28 : bodyOk Tryd.prog 28 = true := by kernel_rfl
@[go_sem] theorem bodyOk_29 : bodyOk Tryd.prog 29 = true := by kernel_rfl
@[go_sem] theorem bodyOk_30 : bodyOk Tryd.prog 30 = true := by kernel_rfl
@[go_sem] theorem bodyOk_31 : bodyOk Tryd.prog 31 = true := by kernel_rfl
@[go_sem] theorem bodyOk_32 : bodyOk Tryd.prog 32 = true := by kernel_rfl
@[go_sem] theorem bodyOk_33 : bodyOk Tryd.prog 33 = true := by kernel_rfl
@[go_sem] theorem bodyOk_34 : bodyOk Tryd.prog 34 = true := by kernel_rfl
@[go_sem] theorem bodyOk_35 : bodyOk Tryd.prog 35 = true := by kernel_rfl
@[go_sem] theorem bodyOk_36 : bodyOk Tryd.prog 36 = true := by kernel_rfl
@[go_sem] theorem bodyOk_37 : bodyOk Tryd.prog 37 = true := by kernel_rfl
@[go_sem] theorem bodyOk_38 : bodyOk Tryd.prog 38 = true := by kernel_rfl
@[go_sem] theorem bodyOk_39 : bodyOk Tryd.prog 39 = true := by kernel_rfl
@[go_sem] theorem bodyOk_40 : bodyOk Tryd.prog 40 = true := by kernel_rfl
@[go_sem] theorem bodyOk_41 : bodyOk Tryd.prog 41 = true := by kernel_rfl
@[go_sem] theorem bodyOk_42 : bodyOk Tryd.prog 42 = true := by kernel_rfl
@[go_sem] theorem bodyOk_43 : bodyOk Tryd.prog 43 = true := by kernel_rfl
@[go_sem] theorem bodyOk_44 : bodyOk Tryd.prog 44 = true := by kernel_rfl
@[go_sem] theorem bodyOk_45 : bodyOk Tryd.prog 45 = true := by kernel_rfl
@[go_sem] theorem bodyOk_46 : bodyOk Tryd.prog 46 = true := by kernel_rfl
@[go_sem] theorem bodyOk_47 : bodyOk Tryd.prog 47 = true := by kernel_rfl
@[go_sem] theorem bodyOk_48 : bodyOk Tryd.prog 48 = true := by kernel_rfl
@[go_sem] theorem bodyOk_49 : bodyOk Tryd.prog 49 = true := by kernel_rfl
@[go_sem] theorem bodyOk_50 : bodyOk Tryd.prog 50 = true := by kernel_rfl
@[go_sem] theorem bodyOk_51 : bodyOk Tryd.prog 51 = true := by kernel_rfl
@[go_sem] theorem bodyOk_52 : bodyOk Tryd.prog 52 = true := by kernel_rfl
@[go_sem] theorem bodyOk_53 : bodyOk Tryd.prog 53 = true := by kernel_rfl
@[go_sem] theorem bodyOk_54 : bodyOk Tryd.prog 54 = true := by kernel_rfl
@[go_sem] theorem bodyOk_55 : bodyOk Tryd.prog 55 = true := by kernel_rfl
@[go_sem] theorem bodyOk_56 : bodyOk Tryd.prog 56 = true := by kernel_rfl
@[go_sem] theorem bodyOk_57 : bodyOk Tryd.prog 57 = true := by kernel_rfl
@[go_sem] theorem bodyOk_58 : bodyOk Tryd.prog 58 = true := by kernel_rfl
@[go_sem] theorem bodyOk_59 : bodyOk Tryd.prog 59 = true := by kernel_rfl
@[go_sem] theorem bodyOk_60 : bodyOk Tryd.prog 60 = true := by kernel_rfl
@[go_sem] theorem bodyOk_61 : bodyOk Tryd.prog 61 = true := by kernel_rfl
@[go_sem] theorem bodyOk_62 : bodyOk Tryd.prog 62 = true := by kernel_rfl
@[go_sem] theorem bodyOk_63 : bodyOk Tryd.prog 63 = true := by kernel_rfl
@[go_sem] theorem bodyOk_64 : bodyOk Tryd.prog 64 = true := by kernel_rfl
@[go_sem] theorem bodyOk_65 : bodyOk Tryd.prog 65 = true := by kernel_rfl
@[go_sem] theorem bodyOk_66 : bodyOk Tryd.prog 66 = true := by kernel_rfl
@[go_sem] theorem bodyOk_67 : bodyOk Tryd.prog 67 = true := by kernel_rfl
@[go_sem] theorem bodyOk_68 : bodyOk Tryd.prog 68 = true := by kernel_rfl
@[go_sem] theorem bodyOk_69 : bodyOk Tryd.prog 69 = true := by kernel_rfl
@[go_sem] theorem bodyOk_70 : bodyOk Tryd.prog 70 = true := by kernel_rfl
@[go_sem] theorem bodyOk_71 : bodyOk Tryd.prog 71 = true := by kernel_rfl
@[go_sem] theorem bodyOk_72 : bodyOk Tryd.prog 72 = true := by kernel_rfl
@[go_sem] theorem bodyOk_73 : bodyOk Tryd.prog 73 = true := by kernel_rfl
@[go_sem] theorem bodyOk_74 : bodyOk Tryd.prog 74 = true := by kernel_rfl
@[go_sem] theorem bodyOk_75 : bodyOk Tryd.prog 75 = true := by kernel_rfl
@[go_sem] theorem bodyOk_76 : bodyOk Tryd.prog 76 = true := by kernel_rfl
@[go_sem] theorem bodyOk_77 : bodyOk Tryd.prog 77 = true := by kernel_rfl
@[go_sem] theorem bodyOk_78 : bodyOk Tryd.prog 78 = true := by kernel_rfl
@[go_sem] theorem bodyOk_79 : bodyOk Tryd.prog 79 = true := by kernel_rfl
@[go_sem] theorem bodyOk_80 : bodyOk Tryd.prog 80 = true := by kernel_rfl
@[go_sem] theorem bodyOk_81 : bodyOk Tryd.prog 81 = true := by kernel_rfl
@[go_sem] theorem bodyOk_82 : bodyOk Tryd.prog 82 = true := by kernel_rfl
@[go_sem] theorem bodyOk_83 : bodyOk Tryd.prog 83 = true := by kernel_rfl
@[go_sem] theorem bodyOk_84 : bodyOk Tryd.prog 84 = true := by kernel_rfl
@[go_sem] theorem bodyOk_85 : bodyOk Tryd.prog 85 = true := by kernel_rfl
@[go_sem] theorem bodyOk_86 : bodyOk Tryd.prog 86 = true := by kernel_rfl
@[go_sem] theorem bodyOk_87 : bodyOk Tryd.prog 87 = true := by kernel_rfl
@[go_sem] theorem bodyOk_88 : bodyOk Tryd.prog 88 = true := by kernel_rfl
@[go_sem] theorem bodyOk_89 : bodyOk Tryd.prog 89 = true := by kernel_rfl
@[go_sem] theorem bodyOk_90 : bodyOk Tryd.prog 90 = true := by kernel_rfl
@[go_sem] theorem bodyOk_91 : bodyOk Tryd.prog 91 = true := by kernel_rfl
@[go_sem] theorem bodyOk_92 : bodyOk Tryd.prog 92 = true := by kernel_rfl
@[go_sem] theorem bodyOk_93 : bodyOk Tryd.prog 93 = true := by kernel_rfl
@[go_sem] theorem bodyOk_94 : bodyOk Tryd.prog 94 = true := by kernel_rfl
@[go_sem] theorem bodyOk_95 : bodyOk Tryd.prog 95 = true := by kernel_rfl
@[go_sem] theorem bodyOk_96 : bodyOk Tryd.prog 96 = true := by kernel_rfl
@[go_sem] theorem bodyOk_97 : bodyOk Tryd.prog 97 = true := by kernel_rfl
@[go_sem] theorem bodyOk_98 : bodyOk Tryd.prog 98 = true := by kernel_rfl
@[go_sem] theorem bodyOk_99 : bodyOk Tryd.prog 99 = true := by kernel_rfl
@[go_sem] theorem bodyOk_100 : bodyOk Tryd.prog 100 = true := by kernel_rfl
@[go_sem] theorem bodyOk_101 : bodyOk Tryd.prog 101 = true := by kernel_rfl
@[go_sem] theorem bodyOk_102 : bodyOk Tryd.prog 102 = true := by kernel_rfl
@[go_sem] theorem bodyOk_103 : bodyOk Tryd.prog 103 = true := by kernel_rfl
@[go_sem] theorem bodyOk_104 : bodyOk Tryd.prog 104 = true := by kernel_rfl
@[go_sem] theorem bodyOk_105 : bodyOk Tryd.prog 105 = true := by kernel_rfl
@[go_sem] theorem bodyOk_106 : bodyOk Tryd.prog 106 = true := by kernel_rfl
@[go_sem] theorem bodyOk_107 : bodyOk Tryd.prog 107 = true := by kernel_rfl
@[go_sem] theorem bodyOk_108 : bodyOk Tryd.prog 108 = true := by kernel_rfl
@[go_sem] theorem bodyOk_110 : bodyOk Tryd.prog 110 = true := by kernel_rfl
@[go_sem] theorem bodyOk_111 : bodyOk Tryd.prog 111 = true := by kernel_rfl
@[go_sem] theorem bodyOk_112 : bodyOk Tryd.prog 112 = true := by kernel_rfl
@[go_sem] theorem bodyOk_113 : bodyOk Tryd.prog 113 = true := by kernel_rfl
@[go_sem] theorem bodyOk_114 : bodyOk Tryd.prog 114 = true := by kernel_rfl
@[go_sem] theorem bodyOk_115 : bodyOk Tryd.prog 115 = true := by kernel_rfl
@[go_sem] theorem bodyOk_117 : bodyOk Tryd.prog 117 = true := by kernel_rfl
@[go_sem] theorem bodyOk_118 : bodyOk Tryd.prog 118 = true := by kernel_rfl
@[go_sem] theorem bodyOk_119 : bodyOk Tryd.prog 119 = true := by kernel_rfl
@[go_sem] theorem bodyOk_120 : bodyOk Tryd.prog 120 = true := by kernel_rfl
@[go_sem] theorem bodyOk_121 : bodyOk Tryd.prog 121 = true := by kernel_rfl
@[go_sem] theorem bodyOk_122 : bodyOk Tryd.prog 122 = true := by kernel_rfl
@[go_sem] theorem bodyOk_124 : bodyOk Tryd.prog 124 = true := by kernel_rfl
@[go_sem] theorem bodyOk_125 : bodyOk Tryd.prog 125 = true := by kernel_rfl
@[go_sem] theorem bodyOk_126 : bodyOk Tryd.prog 126 = true := by kernel_rfl
@[go_sem] theorem bodyOk_127 : bodyOk Tryd.prog 127 = true := by kernel_rfl
@[go_sem] theorem bodyOk_128 : bodyOk Tryd.prog 128 = true := by kernel_rfl
@[go_sem] theorem bodyOk_129 : bodyOk Tryd.prog 129 = true := by kernel_rfl
@[go_sem] theorem bodyOk_130 : bodyOk Tryd.prog 130 = true := by kernel_rfl
@[go_sem] theorem bodyOk_131 : bodyOk Tryd.prog 131 = true := by kernel_rfl
@[go_sem] theorem bodyOk_133 : bodyOk Tryd.prog 133 = true := by kernel_rfl
@[go_sem] theorem bodyOk_134 : bodyOk Tryd.prog 134 = true := by kernel_rfl
@[go_sem] theorem bodyOk_135 : bodyOk Tryd.prog 135 = true := by kernel_rfl
@[go_sem] theorem bodyOk_136 : bodyOk Tryd.prog 136 = true := by kernel_rfl
@[go_sem] theorem bodyOk_137 : bodyOk Tryd.prog 137 = true := by kernel_rfl
@[go_sem] theorem bodyOk_138 : bodyOk Tryd.prog 138 = true := by kernel_rfl
@[go_sem] theorem bodyOk_139 : bodyOk Tryd.prog 139 = true := by kernel_rfl
@[go_sem] theorem bodyOk_140 : bodyOk Tryd.prog 140 = true := by kernel_rfl
@[go_sem] theorem bodyOk_141 : bodyOk Tryd.prog 141 = true := by kernel_rfl
@[go_sem] theorem bodyOk_142 : bodyOk Tryd.prog 142 = true := by kernel_rfl
@[go_sem] theorem bodyOk_144 : bodyOk Tryd.prog 144 = true := by kernel_rfl
@[go_sem] theorem bodyOk_145 : bodyOk Tryd.prog 145 = true := by kernel_rfl
@[go_sem] theorem bodyOk_146 : bodyOk Tryd.prog 146 = true := by kernel_rfl
@[go_sem] theorem bodyOk_147 : bodyOk Tryd.prog 147 = true := by kernel_rfl
@[go_sem] theorem bodyOk_148 : bodyOk Tryd.prog 148 = true := by kernel_rfl
end Go.Proofs.YtkfhieigdlfbeaaDoor
