/-
  Facts of the program's types, and of the notes.
-/
import Derived.Test.YtcecleclipcheaaU2
import Derived.Test.YtcecleclipcheaaSh26
set_option linter.unusedVariables false
namespace Go.Proofs.Ytcecleclipcheaa
open Go Go.Shade Go.Fence
theorem tyAg_0 : tyAg Try.prog 0 = some (false, 1) := by kernel_rfl
theorem tyAg_1 : tyAg Try.prog 1 = some (false, 1) := by kernel_rfl
theorem zeroC_1 : zeroC Try.prog 1 = some [V.nilf] := by kernel_rfl
theorem tyAg_2 : tyAg Try.prog 2 = some (false, 1) := by kernel_rfl
theorem zeroC_2 : zeroC Try.prog 2 = some [V.int IntKind.i64 0] := by kernel_rfl
theorem tyAg_3 : tyAg Try.prog 3 = some (false, 1) := by kernel_rfl
theorem zeroC_3 : zeroC Try.prog 3 = some [V.int IntKind.i64 0] := by kernel_rfl
theorem tyAg_4 : tyAg Try.prog 4 = some (false, 1) := by kernel_rfl
theorem zeroC_4 : zeroC Try.prog 4 = some [V.bool false] := by kernel_rfl
theorem eqK_4 : eqK Try.prog 4 = EqK.bool := by kernel_rfl
theorem tyAg_5 : tyAg Try.prog 5 = some (false, 1) := by kernel_rfl
theorem zeroC_5 : zeroC Try.prog 5 = some [V.int IntKind.u8 0] := by kernel_rfl
theorem tyAg_6 : tyAg Try.prog 6 = some (false, 1) := by kernel_rfl
theorem zeroC_6 : zeroC Try.prog 6 = some [V.int IntKind.u8 0] := by kernel_rfl
theorem tyAg_7 : tyAg Try.prog 7 = some (true, 4) := by kernel_rfl
theorem zeroC_7 : zeroC Try.prog 7 = some [V.int IntKind.i64 0, V.int IntKind.i64 0, V.bool false, V.int IntKind.u8 0] := by kernel_rfl
theorem eqK_7 : eqK Try.prog 7 = EqK.flat [1, 1, 0, 1] := by kernel_rfl
theorem fdOff_7_0 : fdOff Try.prog 7 0 = some 0 := by kernel_rfl
theorem fdPl_7_0 : fdPl Try.prog 7 0 = some (0, 1) := by kernel_rfl
theorem fdOff_7_1 : fdOff Try.prog 7 1 = some 1 := by kernel_rfl
theorem fdPl_7_1 : fdPl Try.prog 7 1 = some (1, 1) := by kernel_rfl
theorem fdOff_7_2 : fdOff Try.prog 7 2 = some 2 := by kernel_rfl
theorem fdPl_7_2 : fdPl Try.prog 7 2 = some (2, 1) := by kernel_rfl
theorem fdOff_7_3 : fdOff Try.prog 7 3 = some 3 := by kernel_rfl
theorem fdPl_7_3 : fdPl Try.prog 7 3 = some (3, 1) := by kernel_rfl
theorem tyAg_8 : tyAg Try.prog 8 = some (true, 4) := by kernel_rfl
theorem zeroC_8 : zeroC Try.prog 8 = some [V.int IntKind.i64 0, V.int IntKind.i64 0, V.bool false, V.int IntKind.u8 0] := by kernel_rfl
theorem eqK_8 : eqK Try.prog 8 = EqK.flat [1, 1, 0, 1] := by kernel_rfl
theorem fdOff_8_0 : fdOff Try.prog 8 0 = some 0 := by kernel_rfl
theorem fdPl_8_0 : fdPl Try.prog 8 0 = some (0, 1) := by kernel_rfl
theorem fdOff_8_1 : fdOff Try.prog 8 1 = some 1 := by kernel_rfl
theorem fdPl_8_1 : fdPl Try.prog 8 1 = some (1, 1) := by kernel_rfl
theorem fdOff_8_2 : fdOff Try.prog 8 2 = some 2 := by kernel_rfl
theorem fdPl_8_2 : fdPl Try.prog 8 2 = some (2, 1) := by kernel_rfl
theorem fdOff_8_3 : fdOff Try.prog 8 3 = some 3 := by kernel_rfl
theorem fdPl_8_3 : fdPl Try.prog 8 3 = some (3, 1) := by kernel_rfl
theorem tyAg_9 : tyAg Try.prog 9 = some (false, 1) := by kernel_rfl
theorem kdT_9 : kdT Try.prog 9 = 1 := by kernel_rfl
theorem zeroC_9 : zeroC Try.prog 9 = some [V.str t0] := by kernel_rfl
theorem tyAg_10 : tyAg Try.prog 10 = some (false, 1) := by kernel_rfl
theorem kdT_10 : kdT Try.prog 10 = 1 := by kernel_rfl
theorem zeroC_10 : zeroC Try.prog 10 = some [V.str t0] := by kernel_rfl
theorem tyAg_11 : tyAg Try.prog 11 = some (false, 1) := by kernel_rfl
theorem kdT_11 : kdT Try.prog 11 = 1 := by kernel_rfl
theorem zeroC_11 : zeroC Try.prog 11 = some [V.str t0] := by kernel_rfl
theorem tyAg_12 : tyAg Try.prog 12 = some (false, 1) := by kernel_rfl
theorem zeroC_12 : zeroC Try.prog 12 = some [V.int IntKind.u64 0] := by kernel_rfl
theorem tyAg_13 : tyAg Try.prog 13 = some (true, 2) := by kernel_rfl
theorem zeroC_13 : zeroC Try.prog 13 = some [V.str t0, V.int IntKind.u64 0] := by kernel_rfl
theorem fdOff_13_0 : fdOff Try.prog 13 0 = some 0 := by kernel_rfl
theorem fdPl_13_0 : fdPl Try.prog 13 0 = some (0, 1) := by kernel_rfl
theorem fdOff_13_1 : fdOff Try.prog 13 1 = some 1 := by kernel_rfl
theorem fdPl_13_1 : fdPl Try.prog 13 1 = some (1, 1) := by kernel_rfl
theorem tyAg_14 : tyAg Try.prog 14 = some (true, 2) := by kernel_rfl
theorem zeroC_14 : zeroC Try.prog 14 = some [V.str t0, V.int IntKind.u64 0] := by kernel_rfl
theorem fdOff_14_0 : fdOff Try.prog 14 0 = some 0 := by kernel_rfl
theorem fdPl_14_0 : fdPl Try.prog 14 0 = some (0, 1) := by kernel_rfl
theorem fdOff_14_1 : fdOff Try.prog 14 1 = some 1 := by kernel_rfl
theorem fdPl_14_1 : fdPl Try.prog 14 1 = some (1, 1) := by kernel_rfl
theorem tyAg_15 : tyAg Try.prog 15 = some (false, 1) := by kernel_rfl
theorem zeroC_15 : zeroC Try.prog 15 = some [V.nilp] := by kernel_rfl
theorem tyAg_16 : tyAg Try.prog 16 = some (false, 1) := by kernel_rfl
theorem zeroC_16 : zeroC Try.prog 16 = some [V.nilp] := by kernel_rfl
theorem tyAg_17 : tyAg Try.prog 17 = some (false, 1) := by kernel_rfl
theorem zeroC_17 : zeroC Try.prog 17 = some [V.nilp] := by kernel_rfl
theorem tyAg_18 : tyAg Try.prog 18 = some (true, 1) := by kernel_rfl
theorem zeroC_18 : zeroC Try.prog 18 = some [V.nilp] := by kernel_rfl
theorem fdOff_18_0 : fdOff Try.prog 18 0 = some 0 := by kernel_rfl
theorem fdPl_18_0 : fdPl Try.prog 18 0 = some (0, 1) := by kernel_rfl
theorem tyAg_19 : tyAg Try.prog 19 = some (true, 1) := by kernel_rfl
theorem zeroC_19 : zeroC Try.prog 19 = some [V.nilp] := by kernel_rfl
theorem fdOff_19_0 : fdOff Try.prog 19 0 = some 0 := by kernel_rfl
theorem fdPl_19_0 : fdPl Try.prog 19 0 = some (0, 1) := by kernel_rfl
theorem tyAg_20 : tyAg Try.prog 20 = some (false, 1) := by kernel_rfl
theorem zeroC_20 : zeroC Try.prog 20 = some [V.nili] := by kernel_rfl
theorem eqK_20 : eqK Try.prog 20 = EqK.ifc := by kernel_rfl
theorem tyAg_21 : tyAg Try.prog 21 = some (false, 1) := by kernel_rfl
theorem zeroC_21 : zeroC Try.prog 21 = some [V.int IntKind.i32 0] := by kernel_rfl
theorem slSz_22 : slSz Try.prog 22 = some 1 := by kernel_rfl
theorem slTy_22 : slTy Try.prog 22 = some (3, 1) := by kernel_rfl
theorem tyAg_22 : tyAg Try.prog 22 = some (false, 1) := by kernel_rfl
theorem kdT_22 : kdT Try.prog 22 = 2 := by kernel_rfl
theorem zeroC_22 : zeroC Try.prog 22 = some [V.nl 1] := by kernel_rfl
theorem slSz_23 : slSz Try.prog 23 = some 1 := by kernel_rfl
theorem slTy_23 : slTy Try.prog 23 = some (68, 1) := by kernel_rfl
theorem tyAg_23 : tyAg Try.prog 23 = some (false, 1) := by kernel_rfl
theorem kdT_23 : kdT Try.prog 23 = 2 := by kernel_rfl
theorem zeroC_23 : zeroC Try.prog 23 = some [V.nl 1] := by kernel_rfl
theorem tyAg_24 : tyAg Try.prog 24 = some (true, 2) := by kernel_rfl
theorem zeroC_24 : zeroC Try.prog 24 = some [V.nl 1, V.nl 1] := by kernel_rfl
theorem fdOff_24_0 : fdOff Try.prog 24 0 = some 0 := by kernel_rfl
theorem fdPl_24_0 : fdPl Try.prog 24 0 = some (0, 1) := by kernel_rfl
theorem fdOff_24_1 : fdOff Try.prog 24 1 = some 1 := by kernel_rfl
theorem fdPl_24_1 : fdPl Try.prog 24 1 = some (1, 1) := by kernel_rfl
theorem tyAg_25 : tyAg Try.prog 25 = some (true, 2) := by kernel_rfl
theorem zeroC_25 : zeroC Try.prog 25 = some [V.nl 1, V.nl 1] := by kernel_rfl
theorem fdOff_25_0 : fdOff Try.prog 25 0 = some 0 := by kernel_rfl
theorem fdPl_25_0 : fdPl Try.prog 25 0 = some (0, 1) := by kernel_rfl
theorem fdOff_25_1 : fdOff Try.prog 25 1 = some 1 := by kernel_rfl
theorem fdPl_25_1 : fdPl Try.prog 25 1 = some (1, 1) := by kernel_rfl
theorem tyAg_26 : tyAg Try.prog 26 = some (false, 1) := by kernel_rfl
theorem zeroC_26 : zeroC Try.prog 26 = some [V.nilf] := by kernel_rfl
theorem tyAg_27 : tyAg Try.prog 27 = some (false, 1) := by kernel_rfl
theorem zeroC_27 : zeroC Try.prog 27 = some [V.nilf] := by kernel_rfl
theorem slSz_28 : slSz Try.prog 28 = some 3 := by kernel_rfl
theorem slTy_28 : slTy Try.prog 28 = some (38, 3) := by kernel_rfl
theorem tyAg_28 : tyAg Try.prog 28 = some (false, 1) := by kernel_rfl
theorem kdT_28 : kdT Try.prog 28 = 2 := by kernel_rfl
theorem zeroC_28 : zeroC Try.prog 28 = some [V.nl 3] := by kernel_rfl
theorem tyAg_29 : tyAg Try.prog 29 = some (false, 1) := by kernel_rfl
theorem tyAg_30 : tyAg Try.prog 30 = some (false, 1) := by kernel_rfl
theorem zeroC_30 : zeroC Try.prog 30 = some [V.nilf] := by kernel_rfl
theorem tyAg_31 : tyAg Try.prog 31 = some (false, 1) := by kernel_rfl
theorem zeroC_31 : zeroC Try.prog 31 = some [V.nilf] := by kernel_rfl
theorem tyAg_32 : tyAg Try.prog 32 = some (false, 1) := by kernel_rfl
theorem zeroC_32 : zeroC Try.prog 32 = some [V.nilf] := by kernel_rfl
theorem tyAg_33 : tyAg Try.prog 33 = some (false, 1) := by kernel_rfl
theorem zeroC_33 : zeroC Try.prog 33 = some [V.nilf] := by kernel_rfl
theorem tyAg_34 : tyAg Try.prog 34 = some (true, 2) := by kernel_rfl
theorem zeroC_34 : zeroC Try.prog 34 = some [V.nl 1, V.nl 1] := by kernel_rfl
theorem fdOff_34_0 : fdOff Try.prog 34 0 = some 0 := by kernel_rfl
theorem fdPl_34_0 : fdPl Try.prog 34 0 = some (0, 1) := by kernel_rfl
theorem fdOff_34_1 : fdOff Try.prog 34 1 = some 1 := by kernel_rfl
theorem fdPl_34_1 : fdPl Try.prog 34 1 = some (1, 1) := by kernel_rfl
theorem tyAg_35 : tyAg Try.prog 35 = some (true, 2) := by kernel_rfl
theorem zeroC_35 : zeroC Try.prog 35 = some [V.nl 1, V.nl 1] := by kernel_rfl
theorem fdOff_35_0 : fdOff Try.prog 35 0 = some 0 := by kernel_rfl
theorem fdPl_35_0 : fdPl Try.prog 35 0 = some (0, 1) := by kernel_rfl
theorem fdOff_35_1 : fdOff Try.prog 35 1 = some 1 := by kernel_rfl
theorem fdPl_35_1 : fdPl Try.prog 35 1 = some (1, 1) := by kernel_rfl
theorem slSz_36 : slSz Try.prog 36 = some 2 := by kernel_rfl
theorem slTy_36 : slTy Try.prog 36 = some (93, 2) := by kernel_rfl
theorem tyAg_36 : tyAg Try.prog 36 = some (false, 1) := by kernel_rfl
theorem kdT_36 : kdT Try.prog 36 = 2 := by kernel_rfl
theorem zeroC_36 : zeroC Try.prog 36 = some [V.nl 2] := by kernel_rfl
theorem tyAg_37 : tyAg Try.prog 37 = some (true, 3) := by kernel_rfl
theorem zeroC_37 : zeroC Try.prog 37 = some [V.nl 1, V.nl 1, V.nl 2] := by kernel_rfl
theorem fdOff_37_0 : fdOff Try.prog 37 0 = some 0 := by kernel_rfl
theorem fdPl_37_0 : fdPl Try.prog 37 0 = some (0, 2) := by kernel_rfl
theorem fdOff_37_1 : fdOff Try.prog 37 1 = some 2 := by kernel_rfl
theorem fdPl_37_1 : fdPl Try.prog 37 1 = some (2, 1) := by kernel_rfl
theorem tyAg_38 : tyAg Try.prog 38 = some (true, 3) := by kernel_rfl
theorem zeroC_38 : zeroC Try.prog 38 = some [V.nl 1, V.nl 1, V.nl 2] := by kernel_rfl
theorem fdOff_38_0 : fdOff Try.prog 38 0 = some 0 := by kernel_rfl
theorem fdPl_38_0 : fdPl Try.prog 38 0 = some (0, 2) := by kernel_rfl
theorem fdOff_38_1 : fdOff Try.prog 38 1 = some 2 := by kernel_rfl
theorem fdPl_38_1 : fdPl Try.prog 38 1 = some (2, 1) := by kernel_rfl
theorem slSz_39 : slSz Try.prog 39 = some 2 := by kernel_rfl
theorem slTy_39 : slTy Try.prog 39 = some (73, 2) := by kernel_rfl
theorem tyAg_39 : tyAg Try.prog 39 = some (false, 1) := by kernel_rfl
theorem kdT_39 : kdT Try.prog 39 = 2 := by kernel_rfl
theorem zeroC_39 : zeroC Try.prog 39 = some [V.nl 2] := by kernel_rfl
theorem slSz_40 : slSz Try.prog 40 = some 1 := by kernel_rfl
theorem slTy_40 : slTy Try.prog 40 = some (63, 1) := by kernel_rfl
theorem tyAg_40 : tyAg Try.prog 40 = some (false, 1) := by kernel_rfl
theorem kdT_40 : kdT Try.prog 40 = 2 := by kernel_rfl
theorem zeroC_40 : zeroC Try.prog 40 = some [V.nl 1] := by kernel_rfl
theorem slSz_41 : slSz Try.prog 41 = some 3 := by kernel_rfl
theorem slTy_41 : slTy Try.prog 41 = some (53, 3) := by kernel_rfl
theorem tyAg_41 : tyAg Try.prog 41 = some (false, 1) := by kernel_rfl
theorem kdT_41 : kdT Try.prog 41 = 2 := by kernel_rfl
theorem zeroC_41 : zeroC Try.prog 41 = some [V.nl 3] := by kernel_rfl
theorem tyAg_42 : tyAg Try.prog 42 = some (true, 5) := by kernel_rfl
theorem zeroC_42 : zeroC Try.prog 42 = some [V.str t0, V.nl 2, V.nl 1, V.bool false, V.nl 3] := by kernel_rfl
theorem fdOff_42_0 : fdOff Try.prog 42 0 = some 0 := by kernel_rfl
theorem fdPl_42_0 : fdPl Try.prog 42 0 = some (0, 1) := by kernel_rfl
theorem fdOff_42_1 : fdOff Try.prog 42 1 = some 1 := by kernel_rfl
theorem fdPl_42_1 : fdPl Try.prog 42 1 = some (1, 1) := by kernel_rfl
theorem fdOff_42_2 : fdOff Try.prog 42 2 = some 2 := by kernel_rfl
theorem fdPl_42_2 : fdPl Try.prog 42 2 = some (2, 1) := by kernel_rfl
theorem fdOff_42_3 : fdOff Try.prog 42 3 = some 3 := by kernel_rfl
theorem fdPl_42_3 : fdPl Try.prog 42 3 = some (3, 1) := by kernel_rfl
theorem fdOff_42_4 : fdOff Try.prog 42 4 = some 4 := by kernel_rfl
theorem fdPl_42_4 : fdPl Try.prog 42 4 = some (4, 1) := by kernel_rfl
theorem tyAg_43 : tyAg Try.prog 43 = some (true, 5) := by kernel_rfl
theorem zeroC_43 : zeroC Try.prog 43 = some [V.str t0, V.nl 2, V.nl 1, V.bool false, V.nl 3] := by kernel_rfl
theorem fdOff_43_0 : fdOff Try.prog 43 0 = some 0 := by kernel_rfl
theorem fdPl_43_0 : fdPl Try.prog 43 0 = some (0, 1) := by kernel_rfl
theorem fdOff_43_1 : fdOff Try.prog 43 1 = some 1 := by kernel_rfl
theorem fdPl_43_1 : fdPl Try.prog 43 1 = some (1, 1) := by kernel_rfl
theorem fdOff_43_2 : fdOff Try.prog 43 2 = some 2 := by kernel_rfl
theorem fdPl_43_2 : fdPl Try.prog 43 2 = some (2, 1) := by kernel_rfl
theorem fdOff_43_3 : fdOff Try.prog 43 3 = some 3 := by kernel_rfl
theorem fdPl_43_3 : fdPl Try.prog 43 3 = some (3, 1) := by kernel_rfl
theorem fdOff_43_4 : fdOff Try.prog 43 4 = some 4 := by kernel_rfl
theorem fdPl_43_4 : fdPl Try.prog 43 4 = some (4, 1) := by kernel_rfl
theorem slSz_44 : slSz Try.prog 44 = some 2 := by kernel_rfl
theorem slTy_44 : slTy Try.prog 44 = some (35, 2) := by kernel_rfl
theorem tyAg_44 : tyAg Try.prog 44 = some (false, 1) := by kernel_rfl
theorem kdT_44 : kdT Try.prog 44 = 2 := by kernel_rfl
theorem zeroC_44 : zeroC Try.prog 44 = some [V.nl 2] := by kernel_rfl
theorem tyAg_45 : tyAg Try.prog 45 = some (false, 1) := by kernel_rfl
theorem zeroC_45 : zeroC Try.prog 45 = some [V.nilf] := by kernel_rfl
theorem tyAg_46 : tyAg Try.prog 46 = some (false, 1) := by kernel_rfl
theorem zeroC_46 : zeroC Try.prog 46 = some [V.nilf] := by kernel_rfl
theorem tyAg_47 : tyAg Try.prog 47 = some (false, 1) := by kernel_rfl
theorem zeroC_47 : zeroC Try.prog 47 = some [V.nilf] := by kernel_rfl
theorem tyAg_48 : tyAg Try.prog 48 = some (false, 1) := by kernel_rfl
theorem zeroC_48 : zeroC Try.prog 48 = some [V.nilf] := by kernel_rfl
theorem tyAg_49 : tyAg Try.prog 49 = some (false, 1) := by kernel_rfl
theorem zeroC_49 : zeroC Try.prog 49 = some [V.nilf] := by kernel_rfl
theorem slSz_50 : slSz Try.prog 50 = some 1 := by kernel_rfl
theorem slTy_50 : slTy Try.prog 50 = some (9, 1) := by kernel_rfl
theorem tyAg_50 : tyAg Try.prog 50 = some (false, 1) := by kernel_rfl
theorem kdT_50 : kdT Try.prog 50 = 2 := by kernel_rfl
theorem zeroC_50 : zeroC Try.prog 50 = some [V.nl 1] := by kernel_rfl
theorem tyAg_51 : tyAg Try.prog 51 = some (false, 1) := by kernel_rfl
theorem zeroC_51 : zeroC Try.prog 51 = some [V.nilf] := by kernel_rfl
theorem tyAg_52 : tyAg Try.prog 52 = some (true, 3) := by kernel_rfl
theorem zeroC_52 : zeroC Try.prog 52 = some [V.int IntKind.i64 0, V.str t0, V.int IntKind.i64 0] := by kernel_rfl
theorem eqK_52 : eqK Try.prog 52 = EqK.flat [1, 2, 1] := by kernel_rfl
theorem fdOff_52_0 : fdOff Try.prog 52 0 = some 0 := by kernel_rfl
theorem fdPl_52_0 : fdPl Try.prog 52 0 = some (0, 1) := by kernel_rfl
theorem fdOff_52_1 : fdOff Try.prog 52 1 = some 1 := by kernel_rfl
theorem fdPl_52_1 : fdPl Try.prog 52 1 = some (1, 1) := by kernel_rfl
theorem fdOff_52_2 : fdOff Try.prog 52 2 = some 2 := by kernel_rfl
theorem fdPl_52_2 : fdPl Try.prog 52 2 = some (2, 1) := by kernel_rfl
theorem tyAg_53 : tyAg Try.prog 53 = some (true, 3) := by kernel_rfl
theorem zeroC_53 : zeroC Try.prog 53 = some [V.int IntKind.i64 0, V.str t0, V.int IntKind.i64 0] := by kernel_rfl
theorem eqK_53 : eqK Try.prog 53 = EqK.flat [1, 2, 1] := by kernel_rfl
theorem fdOff_53_0 : fdOff Try.prog 53 0 = some 0 := by kernel_rfl
theorem fdPl_53_0 : fdPl Try.prog 53 0 = some (0, 1) := by kernel_rfl
theorem fdOff_53_1 : fdOff Try.prog 53 1 = some 1 := by kernel_rfl
theorem fdPl_53_1 : fdPl Try.prog 53 1 = some (1, 1) := by kernel_rfl
theorem fdOff_53_2 : fdOff Try.prog 53 2 = some 2 := by kernel_rfl
theorem fdPl_53_2 : fdPl Try.prog 53 2 = some (2, 1) := by kernel_rfl
theorem tyAg_54 : tyAg Try.prog 54 = some (false, 1) := by kernel_rfl
theorem zeroC_54 : zeroC Try.prog 54 = some [V.nilf] := by kernel_rfl
theorem tyAg_55 : tyAg Try.prog 55 = some (false, 1) := by kernel_rfl
theorem zeroC_55 : zeroC Try.prog 55 = some [V.nilf] := by kernel_rfl
theorem tyAg_56 : tyAg Try.prog 56 = some (false, 1) := by kernel_rfl
theorem zeroC_56 : zeroC Try.prog 56 = some [V.nilf] := by kernel_rfl
theorem tyAg_57 : tyAg Try.prog 57 = some (false, 1) := by kernel_rfl
theorem zeroC_57 : zeroC Try.prog 57 = some [V.int IntKind.i64 0] := by kernel_rfl
theorem tyAg_58 : tyAg Try.prog 58 = some (false, 1) := by kernel_rfl
theorem tyAg_59 : tyAg Try.prog 59 = some (false, 1) := by kernel_rfl
theorem zeroC_59 : zeroC Try.prog 59 = some [V.nilf] := by kernel_rfl
theorem tyAg_60 : tyAg Try.prog 60 = some (false, 1) := by kernel_rfl
theorem zeroC_60 : zeroC Try.prog 60 = some [V.nilf] := by kernel_rfl
theorem slSz_61 : slSz Try.prog 61 = some 5 := by kernel_rfl
theorem slTy_61 : slTy Try.prog 61 = some (66, 5) := by kernel_rfl
theorem tyAg_61 : tyAg Try.prog 61 = some (false, 1) := by kernel_rfl
theorem kdT_61 : kdT Try.prog 61 = 2 := by kernel_rfl
theorem zeroC_61 : zeroC Try.prog 61 = some [V.nl 5] := by kernel_rfl
theorem tyAg_62 : tyAg Try.prog 62 = some (true, 1) := by kernel_rfl
theorem zeroC_62 : zeroC Try.prog 62 = some [V.nl 5] := by kernel_rfl
theorem fdOff_62_0 : fdOff Try.prog 62 0 = some 0 := by kernel_rfl
theorem fdPl_62_0 : fdPl Try.prog 62 0 = some (0, 1) := by kernel_rfl
theorem tyAg_63 : tyAg Try.prog 63 = some (true, 1) := by kernel_rfl
theorem zeroC_63 : zeroC Try.prog 63 = some [V.nl 5] := by kernel_rfl
theorem fdOff_63_0 : fdOff Try.prog 63 0 = some 0 := by kernel_rfl
theorem fdPl_63_0 : fdPl Try.prog 63 0 = some (0, 1) := by kernel_rfl
theorem tyAg_64 : tyAg Try.prog 64 = some (false, 1) := by kernel_rfl
theorem zeroC_64 : zeroC Try.prog 64 = some [V.nilf] := by kernel_rfl
theorem tyAg_65 : tyAg Try.prog 65 = some (true, 5) := by kernel_rfl
theorem zeroC_65 : zeroC Try.prog 65 = some [V.int IntKind.i64 0, V.str t0, V.str t0, V.str t0, V.int IntKind.i64 0] := by kernel_rfl
theorem eqK_65 : eqK Try.prog 65 = EqK.flat [1, 2, 2, 2, 1] := by kernel_rfl
theorem fdOff_65_0 : fdOff Try.prog 65 0 = some 0 := by kernel_rfl
theorem fdPl_65_0 : fdPl Try.prog 65 0 = some (0, 1) := by kernel_rfl
theorem fdOff_65_1 : fdOff Try.prog 65 1 = some 1 := by kernel_rfl
theorem fdPl_65_1 : fdPl Try.prog 65 1 = some (1, 1) := by kernel_rfl
theorem fdOff_65_2 : fdOff Try.prog 65 2 = some 2 := by kernel_rfl
theorem fdPl_65_2 : fdPl Try.prog 65 2 = some (2, 1) := by kernel_rfl
theorem fdOff_65_3 : fdOff Try.prog 65 3 = some 3 := by kernel_rfl
theorem fdPl_65_3 : fdPl Try.prog 65 3 = some (3, 1) := by kernel_rfl
theorem fdOff_65_4 : fdOff Try.prog 65 4 = some 4 := by kernel_rfl
theorem fdPl_65_4 : fdPl Try.prog 65 4 = some (4, 1) := by kernel_rfl
theorem tyAg_66 : tyAg Try.prog 66 = some (true, 5) := by kernel_rfl
theorem zeroC_66 : zeroC Try.prog 66 = some [V.int IntKind.i64 0, V.str t0, V.str t0, V.str t0, V.int IntKind.i64 0] := by kernel_rfl
theorem eqK_66 : eqK Try.prog 66 = EqK.flat [1, 2, 2, 2, 1] := by kernel_rfl
theorem fdOff_66_0 : fdOff Try.prog 66 0 = some 0 := by kernel_rfl
theorem fdPl_66_0 : fdPl Try.prog 66 0 = some (0, 1) := by kernel_rfl
theorem fdOff_66_1 : fdOff Try.prog 66 1 = some 1 := by kernel_rfl
theorem fdPl_66_1 : fdPl Try.prog 66 1 = some (1, 1) := by kernel_rfl
theorem fdOff_66_2 : fdOff Try.prog 66 2 = some 2 := by kernel_rfl
theorem fdPl_66_2 : fdPl Try.prog 66 2 = some (2, 1) := by kernel_rfl
theorem fdOff_66_3 : fdOff Try.prog 66 3 = some 3 := by kernel_rfl
theorem fdPl_66_3 : fdPl Try.prog 66 3 = some (3, 1) := by kernel_rfl
theorem fdOff_66_4 : fdOff Try.prog 66 4 = some 4 := by kernel_rfl
theorem fdPl_66_4 : fdPl Try.prog 66 4 = some (4, 1) := by kernel_rfl
theorem tyAg_67 : tyAg Try.prog 67 = some (false, 1) := by kernel_rfl
theorem zeroC_67 : zeroC Try.prog 67 = some [V.nilf] := by kernel_rfl
theorem slSz_68 : slSz Try.prog 68 = some 5 := by kernel_rfl
theorem slTy_68 : slTy Try.prog 68 = some (70, 5) := by kernel_rfl
theorem tyAg_68 : tyAg Try.prog 68 = some (false, 1) := by kernel_rfl
theorem kdT_68 : kdT Try.prog 68 = 2 := by kernel_rfl
theorem zeroC_68 : zeroC Try.prog 68 = some [V.nl 5] := by kernel_rfl
theorem tyAg_69 : tyAg Try.prog 69 = some (true, 5) := by kernel_rfl
theorem zeroC_69 : zeroC Try.prog 69 = some [V.int IntKind.i64 0, V.int IntKind.i64 0, V.int IntKind.i64 0, V.int IntKind.i64 0, V.int IntKind.i64 0] := by kernel_rfl
theorem eqK_69 : eqK Try.prog 69 = EqK.flat [1, 1, 1, 1, 1] := by kernel_rfl
theorem fdOff_69_0 : fdOff Try.prog 69 0 = some 0 := by kernel_rfl
theorem fdPl_69_0 : fdPl Try.prog 69 0 = some (0, 1) := by kernel_rfl
theorem fdOff_69_1 : fdOff Try.prog 69 1 = some 1 := by kernel_rfl
theorem fdPl_69_1 : fdPl Try.prog 69 1 = some (1, 1) := by kernel_rfl
theorem fdOff_69_2 : fdOff Try.prog 69 2 = some 2 := by kernel_rfl
theorem fdPl_69_2 : fdPl Try.prog 69 2 = some (2, 1) := by kernel_rfl
theorem fdOff_69_3 : fdOff Try.prog 69 3 = some 3 := by kernel_rfl
theorem fdPl_69_3 : fdPl Try.prog 69 3 = some (3, 1) := by kernel_rfl
theorem fdOff_69_4 : fdOff Try.prog 69 4 = some 4 := by kernel_rfl
theorem fdPl_69_4 : fdPl Try.prog 69 4 = some (4, 1) := by kernel_rfl
theorem tyAg_70 : tyAg Try.prog 70 = some (true, 5) := by kernel_rfl
theorem zeroC_70 : zeroC Try.prog 70 = some [V.int IntKind.i64 0, V.int IntKind.i64 0, V.int IntKind.i64 0, V.int IntKind.i64 0, V.int IntKind.i64 0] := by kernel_rfl
theorem eqK_70 : eqK Try.prog 70 = EqK.flat [1, 1, 1, 1, 1] := by kernel_rfl
theorem fdOff_70_0 : fdOff Try.prog 70 0 = some 0 := by kernel_rfl
theorem fdPl_70_0 : fdPl Try.prog 70 0 = some (0, 1) := by kernel_rfl
theorem fdOff_70_1 : fdOff Try.prog 70 1 = some 1 := by kernel_rfl
theorem fdPl_70_1 : fdPl Try.prog 70 1 = some (1, 1) := by kernel_rfl
theorem fdOff_70_2 : fdOff Try.prog 70 2 = some 2 := by kernel_rfl
theorem fdPl_70_2 : fdPl Try.prog 70 2 = some (2, 1) := by kernel_rfl
theorem fdOff_70_3 : fdOff Try.prog 70 3 = some 3 := by kernel_rfl
theorem fdPl_70_3 : fdPl Try.prog 70 3 = some (3, 1) := by kernel_rfl
theorem fdOff_70_4 : fdOff Try.prog 70 4 = some 4 := by kernel_rfl
theorem fdPl_70_4 : fdPl Try.prog 70 4 = some (4, 1) := by kernel_rfl
theorem tyAg_71 : tyAg Try.prog 71 = some (false, 1) := by kernel_rfl
theorem zeroC_71 : zeroC Try.prog 71 = some [V.nilf] := by kernel_rfl
theorem tyAg_72 : tyAg Try.prog 72 = some (true, 2) := by kernel_rfl
theorem zeroC_72 : zeroC Try.prog 72 = some [V.str t0, V.int IntKind.i64 0] := by kernel_rfl
theorem eqK_72 : eqK Try.prog 72 = EqK.flat [2, 1] := by kernel_rfl
theorem fdOff_72_0 : fdOff Try.prog 72 0 = some 0 := by kernel_rfl
theorem fdPl_72_0 : fdPl Try.prog 72 0 = some (0, 1) := by kernel_rfl
theorem fdOff_72_1 : fdOff Try.prog 72 1 = some 1 := by kernel_rfl
theorem fdPl_72_1 : fdPl Try.prog 72 1 = some (1, 1) := by kernel_rfl
theorem tyAg_73 : tyAg Try.prog 73 = some (true, 2) := by kernel_rfl
theorem zeroC_73 : zeroC Try.prog 73 = some [V.str t0, V.int IntKind.i64 0] := by kernel_rfl
theorem eqK_73 : eqK Try.prog 73 = EqK.flat [2, 1] := by kernel_rfl
theorem fdOff_73_0 : fdOff Try.prog 73 0 = some 0 := by kernel_rfl
theorem fdPl_73_0 : fdPl Try.prog 73 0 = some (0, 1) := by kernel_rfl
theorem fdOff_73_1 : fdOff Try.prog 73 1 = some 1 := by kernel_rfl
theorem fdPl_73_1 : fdPl Try.prog 73 1 = some (1, 1) := by kernel_rfl
theorem tyAg_81 : tyAg Try.prog 81 = some (false, 1) := by kernel_rfl
theorem slSz_87 : slSz Try.prog 87 = some 5 := by kernel_rfl
theorem slTy_87 : slTy Try.prog 87 = some (95, 5) := by kernel_rfl
theorem tyAg_87 : tyAg Try.prog 87 = some (false, 1) := by kernel_rfl
theorem kdT_87 : kdT Try.prog 87 = 2 := by kernel_rfl
theorem zeroC_87 : zeroC Try.prog 87 = some [V.nl 5] := by kernel_rfl
theorem tyAg_88 : tyAg Try.prog 88 = some (false, 1) := by kernel_rfl
theorem kdT_88 : kdT Try.prog 88 = 3 := by kernel_rfl
theorem zeroC_88 : zeroC Try.prog 88 = some [V.nilm] := by kernel_rfl
theorem mpTy_88 : mpTy Try.prog 88 = some (true, [V.int IntKind.i64 0]) := by kernel_rfl
theorem slSz_89 : slSz Try.prog 89 = some 4 := by kernel_rfl
theorem slTy_89 : slTy Try.prog 89 = some (150, 4) := by kernel_rfl
theorem tyAg_89 : tyAg Try.prog 89 = some (false, 1) := by kernel_rfl
theorem kdT_89 : kdT Try.prog 89 = 2 := by kernel_rfl
theorem zeroC_89 : zeroC Try.prog 89 = some [V.nl 4] := by kernel_rfl
theorem tyAg_91 : tyAg Try.prog 91 = some (true, 2) := by kernel_rfl
theorem zeroC_91 : zeroC Try.prog 91 = some [V.nl 1, V.nl 4] := by kernel_rfl
theorem fdOff_91_0 : fdOff Try.prog 91 0 = some 0 := by kernel_rfl
theorem fdPl_91_0 : fdPl Try.prog 91 0 = some (0, 1) := by kernel_rfl
theorem fdOff_91_1 : fdOff Try.prog 91 1 = some 1 := by kernel_rfl
theorem fdPl_91_1 : fdPl Try.prog 91 1 = some (1, 1) := by kernel_rfl
theorem tyAg_93 : tyAg Try.prog 93 = some (true, 2) := by kernel_rfl
theorem zeroC_93 : zeroC Try.prog 93 = some [V.int IntKind.i64 0, V.bool false] := by kernel_rfl
theorem eqK_93 : eqK Try.prog 93 = EqK.flat [1, 0] := by kernel_rfl
theorem fdOff_93_0 : fdOff Try.prog 93 0 = some 0 := by kernel_rfl
theorem fdPl_93_0 : fdPl Try.prog 93 0 = some (0, 1) := by kernel_rfl
theorem fdOff_93_1 : fdOff Try.prog 93 1 = some 1 := by kernel_rfl
theorem fdPl_93_1 : fdPl Try.prog 93 1 = some (1, 1) := by kernel_rfl
theorem tyAg_95 : tyAg Try.prog 95 = some (true, 5) := by kernel_rfl
theorem zeroC_95 : zeroC Try.prog 95 = some [V.nl 1, V.nl 4, V.int IntKind.i64 0, V.bool false, V.int IntKind.i64 0] := by kernel_rfl
theorem fdOff_95_0 : fdOff Try.prog 95 0 = some 0 := by kernel_rfl
theorem fdPl_95_0 : fdPl Try.prog 95 0 = some (0, 2) := by kernel_rfl
theorem fdOff_95_1 : fdOff Try.prog 95 1 = some 2 := by kernel_rfl
theorem fdPl_95_1 : fdPl Try.prog 95 1 = some (2, 2) := by kernel_rfl
theorem fdOff_95_2 : fdOff Try.prog 95 2 = some 4 := by kernel_rfl
theorem fdPl_95_2 : fdPl Try.prog 95 2 = some (4, 1) := by kernel_rfl
theorem tyAg_97 : tyAg Try.prog 97 = some (false, 1) := by kernel_rfl
theorem zeroC_97 : zeroC Try.prog 97 = some [V.nilf] := by kernel_rfl
theorem tyAg_99 : tyAg Try.prog 99 = some (false, 1) := by kernel_rfl
theorem tyAg_105 : tyAg Try.prog 105 = some (false, 1) := by kernel_rfl
theorem zeroC_105 : zeroC Try.prog 105 = some [V.nilf] := by kernel_rfl
theorem tyAg_107 : tyAg Try.prog 107 = some (false, 1) := by kernel_rfl
theorem kdT_107 : kdT Try.prog 107 = 3 := by kernel_rfl
theorem zeroC_107 : zeroC Try.prog 107 = some [V.nilm] := by kernel_rfl
theorem mpTy_107 : mpTy Try.prog 107 = some (false, [V.nilf]) := by kernel_rfl
theorem tyAg_109 : tyAg Try.prog 109 = some (false, 1) := by kernel_rfl
theorem zeroC_109 : zeroC Try.prog 109 = some [V.nilf] := by kernel_rfl
theorem tyAg_111 : tyAg Try.prog 111 = some (false, 1) := by kernel_rfl
theorem zeroC_111 : zeroC Try.prog 111 = some [V.nilf] := by kernel_rfl
theorem slSz_113 : slSz Try.prog 113 = some 1 := by kernel_rfl
theorem slTy_113 : slTy Try.prog 113 = some (5, 1) := by kernel_rfl
theorem tyAg_113 : tyAg Try.prog 113 = some (false, 1) := by kernel_rfl
theorem kdT_113 : kdT Try.prog 113 = 2 := by kernel_rfl
theorem zeroC_113 : zeroC Try.prog 113 = some [V.nl 1] := by kernel_rfl
theorem tyAg_114 : tyAg Try.prog 114 = some (false, 1) := by kernel_rfl
theorem tyAg_121 : tyAg Try.prog 121 = some (false, 1) := by kernel_rfl
theorem zeroC_121 : zeroC Try.prog 121 = some [V.nilf] := by kernel_rfl
theorem tyAg_122 : tyAg Try.prog 122 = some (false, 1) := by kernel_rfl
theorem zeroC_122 : zeroC Try.prog 122 = some [V.nilf] := by kernel_rfl
theorem tyAg_125 : tyAg Try.prog 125 = some (false, 1) := by kernel_rfl
theorem zeroC_125 : zeroC Try.prog 125 = some [V.nilp] := by kernel_rfl
theorem tyAg_126 : tyAg Try.prog 126 = some (false, 1) := by kernel_rfl
theorem zeroC_126 : zeroC Try.prog 126 = some [V.nilp] := by kernel_rfl
theorem tyAg_128 : tyAg Try.prog 128 = some (true, 2) := by kernel_rfl
theorem zeroC_128 : zeroC Try.prog 128 = some [V.nilp, V.nl 1] := by kernel_rfl
theorem fdOff_128_0 : fdOff Try.prog 128 0 = some 0 := by kernel_rfl
theorem fdPl_128_0 : fdPl Try.prog 128 0 = some (0, 1) := by kernel_rfl
theorem fdOff_128_1 : fdOff Try.prog 128 1 = some 1 := by kernel_rfl
theorem fdPl_128_1 : fdPl Try.prog 128 1 = some (1, 1) := by kernel_rfl
theorem tyAg_130 : tyAg Try.prog 130 = some (true, 2) := by kernel_rfl
theorem zeroC_130 : zeroC Try.prog 130 = some [V.nilp, V.nl 1] := by kernel_rfl
theorem fdOff_130_0 : fdOff Try.prog 130 0 = some 0 := by kernel_rfl
theorem fdPl_130_0 : fdPl Try.prog 130 0 = some (0, 2) := by kernel_rfl
theorem tyAg_132 : tyAg Try.prog 132 = some (true, 7) := by kernel_rfl
theorem zeroC_132 : zeroC Try.prog 132 = some [V.nilp, V.nl 1, V.str t0, V.nl 2, V.nl 1, V.bool false, V.nl 3] := by kernel_rfl
theorem fdOff_132_0 : fdOff Try.prog 132 0 = some 0 := by kernel_rfl
theorem fdPl_132_0 : fdPl Try.prog 132 0 = some (0, 2) := by kernel_rfl
theorem fdOff_132_1 : fdOff Try.prog 132 1 = some 2 := by kernel_rfl
theorem fdPl_132_1 : fdPl Try.prog 132 1 = some (2, 5) := by kernel_rfl
theorem tyAg_141 : tyAg Try.prog 141 = some (false, 1) := by kernel_rfl
theorem tyAg_144 : tyAg Try.prog 144 = some (false, 1) := by kernel_rfl
theorem tyAg_146 : tyAg Try.prog 146 = some (false, 1) := by kernel_rfl
theorem zeroC_146 : zeroC Try.prog 146 = some [V.nilf] := by kernel_rfl
theorem slSz_148 : slSz Try.prog 148 = some 2 := by kernel_rfl
theorem slTy_148 : slTy Try.prog 148 = some (177, 2) := by kernel_rfl
theorem tyAg_148 : tyAg Try.prog 148 = some (false, 1) := by kernel_rfl
theorem kdT_148 : kdT Try.prog 148 = 2 := by kernel_rfl
theorem zeroC_148 : zeroC Try.prog 148 = some [V.nl 2] := by kernel_rfl
theorem tyAg_150 : tyAg Try.prog 150 = some (true, 4) := by kernel_rfl
theorem zeroC_150 : zeroC Try.prog 150 = some [V.int IntKind.i64 0, V.nl 1, V.bool false, V.nl 2] := by kernel_rfl
theorem fdOff_150_0 : fdOff Try.prog 150 0 = some 0 := by kernel_rfl
theorem fdPl_150_0 : fdPl Try.prog 150 0 = some (0, 1) := by kernel_rfl
theorem fdOff_150_1 : fdOff Try.prog 150 1 = some 1 := by kernel_rfl
theorem fdPl_150_1 : fdPl Try.prog 150 1 = some (1, 1) := by kernel_rfl
theorem fdOff_150_2 : fdOff Try.prog 150 2 = some 2 := by kernel_rfl
theorem fdPl_150_2 : fdPl Try.prog 150 2 = some (2, 1) := by kernel_rfl
theorem fdOff_150_3 : fdOff Try.prog 150 3 = some 3 := by kernel_rfl
theorem fdPl_150_3 : fdPl Try.prog 150 3 = some (3, 1) := by kernel_rfl
theorem tyAg_153 : tyAg Try.prog 153 = some (false, 1) := by kernel_rfl
theorem zeroC_153 : zeroC Try.prog 153 = some [V.nilf] := by kernel_rfl
theorem tyAg_164 : tyAg Try.prog 164 = some (false, 1) := by kernel_rfl
theorem zeroC_164 : zeroC Try.prog 164 = some [V.nili] := by kernel_rfl
theorem eqK_164 : eqK Try.prog 164 = EqK.ifc := by kernel_rfl
theorem tyAg_166 : tyAg Try.prog 166 = some (false, 1) := by kernel_rfl
theorem zeroC_166 : zeroC Try.prog 166 = some [V.nilf] := by kernel_rfl
theorem tyAg_167 : tyAg Try.prog 167 = some (false, 1) := by kernel_rfl
theorem zeroC_167 : zeroC Try.prog 167 = some [V.nilp] := by kernel_rfl
theorem tyAg_168 : tyAg Try.prog 168 = some (false, 1) := by kernel_rfl
theorem tyAg_171 : tyAg Try.prog 171 = some (false, 1) := by kernel_rfl
theorem zeroC_171 : zeroC Try.prog 171 = some [V.nili] := by kernel_rfl
theorem eqK_171 : eqK Try.prog 171 = EqK.ifc := by kernel_rfl
theorem tyAg_174 : tyAg Try.prog 174 = some (false, 1) := by kernel_rfl
theorem zeroC_174 : zeroC Try.prog 174 = some [V.nilp] := by kernel_rfl
theorem tyAg_177 : tyAg Try.prog 177 = some (true, 2) := by kernel_rfl
theorem zeroC_177 : zeroC Try.prog 177 = some [V.int IntKind.i64 0, V.int IntKind.i64 0] := by kernel_rfl
theorem eqK_177 : eqK Try.prog 177 = EqK.flat [1, 1] := by kernel_rfl
theorem fdOff_177_0 : fdOff Try.prog 177 0 = some 0 := by kernel_rfl
theorem fdPl_177_0 : fdPl Try.prog 177 0 = some (0, 1) := by kernel_rfl
theorem fdOff_177_1 : fdOff Try.prog 177 1 = some 1 := by kernel_rfl
theorem fdPl_177_1 : fdPl Try.prog 177 1 = some (1, 1) := by kernel_rfl
theorem tyAg_179 : tyAg Try.prog 179 = some (true, 20) := by kernel_rfl
theorem zeroC_179 : zeroC Try.prog 179 = some [V.int IntKind.u8 0, V.int IntKind.u8 0, V.int IntKind.u8 0, V.int IntKind.u8 0, V.int IntKind.u8 0, V.int IntKind.u8 0, V.int IntKind.u8 0, V.int IntKind.u8 0, V.int IntKind.u8 0, V.int IntKind.u8 0, V.int IntKind.u8 0, V.int IntKind.u8 0, V.int IntKind.u8 0, V.int IntKind.u8 0, V.int IntKind.u8 0, V.int IntKind.u8 0, V.int IntKind.u8 0, V.int IntKind.u8 0, V.int IntKind.u8 0, V.int IntKind.u8 0] := by kernel_rfl
theorem arrLen_179 : arrLen Try.prog 179 = some (20, 1) := by kernel_rfl
theorem arrOne_179 : arrOne Try.prog 179 = some 20 := by kernel_rfl
theorem fdPl_179_0 : fdPl Try.prog 179 0 = some (0, 1) := by kernel_rfl
theorem fdPl_179_1 : fdPl Try.prog 179 1 = some (1, 1) := by kernel_rfl
theorem fdPl_179_2 : fdPl Try.prog 179 2 = some (2, 1) := by kernel_rfl
theorem fdPl_179_3 : fdPl Try.prog 179 3 = some (3, 1) := by kernel_rfl
theorem fdPl_179_4 : fdPl Try.prog 179 4 = some (4, 1) := by kernel_rfl
theorem fdPl_179_5 : fdPl Try.prog 179 5 = some (5, 1) := by kernel_rfl
theorem tyAg_182 : tyAg Try.prog 182 = some (false, 1) := by kernel_rfl
theorem zeroC_182 : zeroC Try.prog 182 = some [V.nilf] := by kernel_rfl
theorem tyAg_183 : tyAg Try.prog 183 = some (false, 1) := by kernel_rfl
theorem zeroC_183 : zeroC Try.prog 183 = some [V.nilp] := by kernel_rfl
theorem tyAg_184 : tyAg Try.prog 184 = some (false, 1) := by kernel_rfl
theorem zeroC_184 : zeroC Try.prog 184 = some [V.nilp] := by kernel_rfl
theorem tyAg_186 : tyAg Try.prog 186 = some (true, 2) := by kernel_rfl
theorem zeroC_186 : zeroC Try.prog 186 = some [V.nilp, V.nl 1] := by kernel_rfl
theorem fdOff_186_0 : fdOff Try.prog 186 0 = some 0 := by kernel_rfl
theorem fdPl_186_0 : fdPl Try.prog 186 0 = some (0, 1) := by kernel_rfl
theorem fdOff_186_1 : fdOff Try.prog 186 1 = some 1 := by kernel_rfl
theorem fdPl_186_1 : fdPl Try.prog 186 1 = some (1, 1) := by kernel_rfl
theorem tyAg_189 : tyAg Try.prog 189 = some (false, 1) := by kernel_rfl
theorem zeroC_189 : zeroC Try.prog 189 = some [V.nilf] := by kernel_rfl
theorem tyAg_193 : tyAg Try.prog 193 = some (false, 1) := by kernel_rfl
theorem zeroC_193 : zeroC Try.prog 193 = some [V.nilf] := by kernel_rfl
theorem tyAg_194 : tyAg Try.prog 194 = some (false, 1) := by kernel_rfl
theorem zeroC_194 : zeroC Try.prog 194 = some [V.nilf] := by kernel_rfl
theorem tyAg_199 : tyAg Try.prog 199 = some (true, 3) := by kernel_rfl
theorem zeroC_199 : zeroC Try.prog 199 = some [V.int IntKind.i64 0, V.int IntKind.i64 0, V.int IntKind.i64 0] := by kernel_rfl
theorem eqK_199 : eqK Try.prog 199 = EqK.flat [1, 1, 1] := by kernel_rfl
theorem fdOff_199_0 : fdOff Try.prog 199 0 = some 0 := by kernel_rfl
theorem fdPl_199_0 : fdPl Try.prog 199 0 = some (0, 1) := by kernel_rfl
theorem fdOff_199_1 : fdOff Try.prog 199 1 = some 1 := by kernel_rfl
theorem fdPl_199_1 : fdPl Try.prog 199 1 = some (1, 1) := by kernel_rfl
theorem fdOff_199_2 : fdOff Try.prog 199 2 = some 2 := by kernel_rfl
theorem fdPl_199_2 : fdPl Try.prog 199 2 = some (2, 1) := by kernel_rfl
theorem tyAg_202 : tyAg Try.prog 202 = some (true, 5) := by kernel_rfl
theorem zeroC_202 : zeroC Try.prog 202 = some [V.int IntKind.i64 0, V.str t0, V.str t0, V.str t0, V.int IntKind.i64 0] := by kernel_rfl
theorem fdOff_202_0 : fdOff Try.prog 202 0 = some 0 := by kernel_rfl
theorem fdPl_202_0 : fdPl Try.prog 202 0 = some (0, 5) := by kernel_rfl
theorem tyAg_204 : tyAg Try.prog 204 = some (true, 5) := by kernel_rfl
theorem zeroC_204 : zeroC Try.prog 204 = some [V.int IntKind.i64 0, V.str t0, V.str t0, V.str t0, V.int IntKind.i64 0] := by kernel_rfl
theorem fdOff_204_0 : fdOff Try.prog 204 0 = some 0 := by kernel_rfl
theorem fdPl_204_0 : fdPl Try.prog 204 0 = some (0, 5) := by kernel_rfl
theorem tyAg_205 : tyAg Try.prog 205 = some (true, 5) := by kernel_rfl
theorem zeroC_205 : zeroC Try.prog 205 = some [V.int IntKind.i64 0, V.str t0, V.str t0, V.str t0, V.int IntKind.i64 0] := by kernel_rfl
theorem fdOff_205_0 : fdOff Try.prog 205 0 = some 0 := by kernel_rfl
theorem fdPl_205_0 : fdPl Try.prog 205 0 = some (0, 5) := by kernel_rfl
theorem tyAg_206 : tyAg Try.prog 206 = some (true, 5) := by kernel_rfl
theorem zeroC_206 : zeroC Try.prog 206 = some [V.int IntKind.i64 0, V.str t0, V.str t0, V.str t0, V.int IntKind.i64 0] := by kernel_rfl
theorem fdOff_206_0 : fdOff Try.prog 206 0 = some 0 := by kernel_rfl
theorem fdPl_206_0 : fdPl Try.prog 206 0 = some (0, 5) := by kernel_rfl
theorem tyAg_209 : tyAg Try.prog 209 = some (false, 1) := by kernel_rfl
theorem tyAg_212 : tyAg Try.prog 212 = some (false, 1) := by kernel_rfl
theorem zeroC_212 : zeroC Try.prog 212 = some [V.nilf] := by kernel_rfl
theorem tyAg_214 : tyAg Try.prog 214 = some (false, 1) := by kernel_rfl
theorem zeroC_214 : zeroC Try.prog 214 = some [V.int IntKind.u64 0] := by kernel_rfl
theorem tyAg_216 : tyAg Try.prog 216 = some (true, 2) := by kernel_rfl
theorem zeroC_216 : zeroC Try.prog 216 = some [V.nl 1, V.nl 1] := by kernel_rfl
theorem fdOff_216_0 : fdOff Try.prog 216 0 = some 0 := by kernel_rfl
theorem fdPl_216_0 : fdPl Try.prog 216 0 = some (0, 2) := by kernel_rfl
theorem tyAg_221 : tyAg Try.prog 221 = some (false, 1) := by kernel_rfl
theorem zeroC_221 : zeroC Try.prog 221 = some [V.nilf] := by kernel_rfl
theorem tyAg_222 : tyAg Try.prog 222 = some (true, 3) := by kernel_rfl
theorem zeroC_222 : zeroC Try.prog 222 = some [V.int IntKind.i64 0, V.int IntKind.i64 0, V.int IntKind.i64 0] := by kernel_rfl
theorem arrLen_222 : arrLen Try.prog 222 = some (3, 1) := by kernel_rfl
theorem arrOne_222 : arrOne Try.prog 222 = some 3 := by kernel_rfl
theorem fdPl_222_0 : fdPl Try.prog 222 0 = some (0, 1) := by kernel_rfl
theorem fdPl_222_1 : fdPl Try.prog 222 1 = some (1, 1) := by kernel_rfl
theorem fdPl_222_2 : fdPl Try.prog 222 2 = some (2, 1) := by kernel_rfl
theorem fdPl_222_3 : fdPl Try.prog 222 3 = some (3, 1) := by kernel_rfl
theorem fdPl_222_4 : fdPl Try.prog 222 4 = some (4, 1) := by kernel_rfl
theorem fdPl_222_5 : fdPl Try.prog 222 5 = some (5, 1) := by kernel_rfl
theorem tyAg_224 : tyAg Try.prog 224 = some (false, 1) := by kernel_rfl
theorem tyAg_227 : tyAg Try.prog 227 = some (false, 1) := by kernel_rfl
theorem zeroC_227 : zeroC Try.prog 227 = some [V.nilf] := by kernel_rfl
theorem tyAg_236 : tyAg Try.prog 236 = some (false, 1) := by kernel_rfl
theorem zeroC_236 : zeroC Try.prog 236 = some [V.nilf] := by kernel_rfl
theorem tyAg_237 : tyAg Try.prog 237 = some (false, 1) := by kernel_rfl
theorem zeroC_237 : zeroC Try.prog 237 = some [V.nilf] := by kernel_rfl
theorem slSz_238 : slSz Try.prog 238 = some 2 := by kernel_rfl
theorem slTy_238 : slTy Try.prog 238 = some (177, 2) := by kernel_rfl
theorem tyAg_238 : tyAg Try.prog 238 = some (false, 1) := by kernel_rfl
theorem kdT_238 : kdT Try.prog 238 = 2 := by kernel_rfl
theorem zeroC_238 : zeroC Try.prog 238 = some [V.nl 2] := by kernel_rfl
theorem tyAg_243 : tyAg Try.prog 243 = some (false, 1) := by kernel_rfl
theorem zeroC_243 : zeroC Try.prog 243 = some [V.int IntKind.i64 0] := by kernel_rfl
theorem tyAg_244 : tyAg Try.prog 244 = some (false, 1) := by kernel_rfl
theorem tyAg_251 : tyAg Try.prog 251 = some (false, 1) := by kernel_rfl
theorem zeroC_251 : zeroC Try.prog 251 = some [V.int IntKind.u32 0] := by kernel_rfl
theorem tyAg_253 : tyAg Try.prog 253 = some (false, 1) := by kernel_rfl
theorem zeroC_253 : zeroC Try.prog 253 = some [V.int IntKind.u64 0] := by kernel_rfl
theorem tyAg_255 : tyAg Try.prog 255 = some (false, 1) := by kernel_rfl
theorem zeroC_255 : zeroC Try.prog 255 = some [V.nilf] := by kernel_rfl
theorem tyAg_256 : tyAg Try.prog 256 = some (false, 1) := by kernel_rfl
theorem zeroC_256 : zeroC Try.prog 256 = some [V.nilf] := by kernel_rfl
theorem tyAg_257 : tyAg Try.prog 257 = some (false, 1) := by kernel_rfl
theorem zeroC_257 : zeroC Try.prog 257 = some [V.nilf] := by kernel_rfl
theorem tyAg_259 : tyAg Try.prog 259 = some (false, 1) := by kernel_rfl
theorem zeroC_259 : zeroC Try.prog 259 = some [V.int IntKind.u64 0] := by kernel_rfl
theorem tyAg_263 : tyAg Try.prog 263 = some (false, 1) := by kernel_rfl
theorem zeroC_263 : zeroC Try.prog 263 = some [V.nilp] := by kernel_rfl
theorem tyAg_265 : tyAg Try.prog 265 = some (false, 1) := by kernel_rfl
theorem zeroC_265 : zeroC Try.prog 265 = some [V.nilf] := by kernel_rfl
theorem tyAg_266 : tyAg Try.prog 266 = some (false, 1) := by kernel_rfl
theorem zeroC_266 : zeroC Try.prog 266 = some [V.nilp] := by kernel_rfl
theorem tyAg_267 : tyAg Try.prog 267 = some (false, 1) := by kernel_rfl
theorem tyAg_282 : tyAg Try.prog 282 = some (true, 11) := by kernel_rfl
theorem zeroC_282 : zeroC Try.prog 282 = some [V.str t0, V.str t0, V.str t0, V.str t0, V.str t0, V.str t0, V.str t0, V.str t0, V.str t0, V.str t0, V.str t0] := by kernel_rfl
theorem arrLen_282 : arrLen Try.prog 282 = some (11, 1) := by kernel_rfl
theorem arrOne_282 : arrOne Try.prog 282 = some 11 := by kernel_rfl
theorem fdPl_282_0 : fdPl Try.prog 282 0 = some (0, 1) := by kernel_rfl
theorem fdPl_282_1 : fdPl Try.prog 282 1 = some (1, 1) := by kernel_rfl
theorem fdPl_282_2 : fdPl Try.prog 282 2 = some (2, 1) := by kernel_rfl
theorem fdPl_282_3 : fdPl Try.prog 282 3 = some (3, 1) := by kernel_rfl
theorem fdPl_282_4 : fdPl Try.prog 282 4 = some (4, 1) := by kernel_rfl
theorem fdPl_282_5 : fdPl Try.prog 282 5 = some (5, 1) := by kernel_rfl
theorem cvT_3_5 : cvT Try.prog 3 5 = some (.int .u8) := by kernel_rfl
theorem cvT_3_214 : cvT Try.prog 3 214 = some (.int .u64) := by kernel_rfl
theorem cvT_5_3 : cvT Try.prog 5 3 = some (.int .i64) := by kernel_rfl
theorem cvT_113_9 : cvT Try.prog 113 9 = some .bytes := by kernel_rfl
theorem cvT_214_3 : cvT Try.prog 214 3 = some (.int .i64) := by kernel_rfl
theorem cvT_214_251 : cvT Try.prog 214 251 = some (.int .u32) := by kernel_rfl
theorem cvT_251_5 : cvT Try.prog 251 5 = some (.int .u8) := by kernel_rfl
theorem cvT_253_5 : cvT Try.prog 253 5 = some (.int .u8) := by kernel_rfl
theorem ikT_199 : ikT Try.prog 199 = true := by kernel_rfl
theorem ikT_204 : ikT Try.prog 204 = true := by kernel_rfl
theorem ikT_205 : ikT Try.prog 205 = true := by kernel_rfl
theorem ikT_206 : ikT Try.prog 206 = true := by kernel_rfl
theorem mthV_204_fencepost_ops_has : mthV Try.prog 204 "fencepost/ops.has" = some 230 := by kernel_rfl
theorem mthV_204_fencepost_ops_words : mthV Try.prog 204 "fencepost/ops.words" = some 231 := by kernel_rfl
theorem mthV_205_fencepost_ops_has : mthV Try.prog 205 "fencepost/ops.has" = some 232 := by kernel_rfl
theorem mthV_205_fencepost_ops_words : mthV Try.prog 205 "fencepost/ops.words" = some 233 := by kernel_rfl
theorem mthV_206_fencepost_ops_has : mthV Try.prog 206 "fencepost/ops.has" = some 235 := by kernel_rfl
theorem mthV_206_fencepost_ops_words : mthV Try.prog 206 "fencepost/ops.words" = some 236 := by kernel_rfl
theorem gr2 : an.grow 2 = [] := rfl
theorem ab2 : an.apb 2 = [] := rfl
theorem rb2 : an.rowb 2 = [] := rfl
theorem rs2 : Try.f2.results.toList = [] := rfl
theorem gr3 : an.grow 3 = [] := rfl
theorem ab3 : an.apb 3 = [] := rfl
theorem rb3 : an.rowb 3 = [] := rfl
theorem rs3 : Try.f3.results.toList = [.tmp 6] := rfl
theorem gr4 : an.grow 4 = [] := rfl
theorem ab4 : an.apb 4 = [] := rfl
theorem rb4 : an.rowb 4 = [] := rfl
theorem rs4 : Try.f4.results.toList = [.tmp 2] := rfl
theorem ef4_4 : an.eff 4 4 = false := rfl
theorem ef4_9 : an.eff 4 9 = false := rfl
theorem gr5 : an.grow 5 = [] := rfl
theorem ab5 : an.apb 5 = [] := rfl
theorem rb5 : an.rowb 5 = [] := rfl
theorem rs5 : Try.f5.results.toList = [.tmp 6] := rfl
theorem ef5_4 : an.eff 5 4 = false := rfl
theorem lp6_7 : an.loop 6 7 = some [1, 2, 5, 6, 7, 8] := rfl
theorem gr6 : an.grow 6 = [] := rfl
theorem ab6 : an.apb 6 = [] := rfl
theorem rb6 : an.rowb 6 = [] := rfl
theorem rs6 : Try.f6.results.toList = [.tmp 4] := rfl
theorem ef6_9 : an.eff 6 9 = false := rfl
theorem gr7 : an.grow 7 = [] := rfl
theorem ab7 : an.apb 7 = [27] := rfl
theorem rb7 : an.rowb 7 = [] := rfl
theorem rs7 : Try.f7.results.toList = [.tmp 6] := rfl
theorem ef7_6 : an.eff 7 6 = false := rfl
theorem lp8_8 : an.loop 8 8 = some [2, 3, 5, 6, 7, 8, 9] := rfl
theorem gr8 : an.grow 8 = [] := rfl
theorem ab8 : an.apb 8 = [] := rfl
theorem rb8 : an.rowb 8 = [] := rfl
theorem rs8 : Try.f8.results.toList = [.tmp 4] := rfl
theorem gr9 : an.grow 9 = [] := rfl
theorem ab9 : an.apb 9 = [88] := rfl
theorem rb9 : an.rowb 9 = [] := rfl
theorem rs9 : Try.f9.results.toList = [.tmp 8] := rfl
theorem ef9_17 : an.eff 9 17 = false := rfl
theorem ef9_20 : an.eff 9 20 = false := rfl
theorem gr10 : an.grow 10 = [] := rfl
theorem ab10 : an.apb 10 = [] := rfl
theorem rb10 : an.rowb 10 = [] := rfl
theorem rs10 : Try.f10.results.toList = [.tmp 2] := rfl
theorem ef10_7 : an.eff 10 7 = false := rfl
theorem gr11 : an.grow 11 = [] := rfl
theorem ab11 : an.apb 11 = [] := rfl
theorem rb11 : an.rowb 11 = [] := rfl
theorem rs11 : Try.f11.results.toList = [.tmp 6] := rfl
theorem lp12_21 : an.loop 12 21 = some [3, 7, 10, 13, 14, 15, 17] := rfl
theorem gr12 : an.grow 12 = [] := rfl
theorem ab12 : an.apb 12 = [] := rfl
theorem rb12 : an.rowb 12 = [] := rfl
theorem rs12 : Try.f12.results.toList = [.tmp 6] := rfl
theorem ef12_18 : an.eff 12 18 = false := rfl
theorem ef12_23 : an.eff 12 23 = false := rfl
theorem lp13_13 : an.loop 13 13 = some [2, 5, 6, 8, 9, 10, 11] := rfl
theorem gr13 : an.grow 13 = [] := rfl
theorem ab13 : an.apb 13 = [] := rfl
theorem rb13 : an.rowb 13 = [] := rfl
theorem rs13 : Try.f13.results.toList = [.tmp 4] := rfl
theorem ef13_15 : an.eff 13 15 = false := rfl
theorem gr14 : an.grow 14 = [] := rfl
theorem ab14 : an.apb 14 = [102, 110] := rfl
theorem rb14 : an.rowb 14 = [] := rfl
theorem rs14 : Try.f14.results.toList = [.tmp 8] := rfl
theorem ef14_31 : an.eff 14 31 = false := rfl
theorem gr15 : an.grow 15 = [] := rfl
theorem ab15 : an.apb 15 = [] := rfl
theorem rb15 : an.rowb 15 = [] := rfl
theorem rs15 : Try.f15.results.toList = [.tmp 4] := rfl
theorem ef15_4 : an.eff 15 4 = false := rfl
theorem gr16 : an.grow 16 = [] := rfl
theorem ab16 : an.apb 16 = [] := rfl
theorem rb16 : an.rowb 16 = [] := rfl
theorem rs16 : Try.f16.results.toList = [.tmp 4] := rfl
theorem ef16_4 : an.eff 16 4 = false := rfl
theorem lp17_7 : an.loop 17 7 = some [1, 3, 4, 5, 6] := rfl
theorem lp17_13 : an.loop 17 13 = some [1, 3, 4, 5, 6, 7] := rfl
theorem gr17 : an.grow 17 = [] := rfl
theorem ab17 : an.apb 17 = [] := rfl
theorem rb17 : an.rowb 17 = [] := rfl
theorem rs17 : Try.f17.results.toList = [.tmp 2] := rfl
theorem ef17_15 : an.eff 17 15 = false := rfl
theorem gr18 : an.grow 18 = [] := rfl
theorem ab18 : an.apb 18 = [] := rfl
theorem rb18 : an.rowb 18 = [] := rfl
theorem rs18 : Try.f18.results.toList = [.tmp 4] := rfl
theorem ef18_8 : an.eff 18 8 = false := rfl
theorem gr19 : an.grow 19 = [] := rfl
theorem ab19 : an.apb 19 = [] := rfl
theorem rb19 : an.rowb 19 = [] := rfl
theorem rs19 : Try.f19.results.toList = [.tmp 0] := rfl
theorem gr20 : an.grow 20 = [] := rfl
theorem ab20 : an.apb 20 = [] := rfl
theorem rb20 : an.rowb 20 = [] := rfl
theorem rs20 : Try.f20.results.toList = [.tmp 2] := rfl
theorem gr21 : an.grow 21 = [] := rfl
theorem ab21 : an.apb 21 = [] := rfl
theorem rb21 : an.rowb 21 = [] := rfl
theorem rs21 : Try.f21.results.toList = [.tmp 6, .tmp 7, .tmp 8] := rfl
theorem ef21_16 : an.eff 21 16 = false := rfl
theorem ef21_20 : an.eff 21 20 = false := rfl
theorem gr22 : an.grow 22 = [] := rfl
theorem ab22 : an.apb 22 = [] := rfl
theorem rb22 : an.rowb 22 = [] := rfl
theorem rs22 : Try.f22.results.toList = [.tmp 6] := rfl
theorem lp23_4 : an.loop 23 4 = some [0, 1, 5] := rfl
theorem gr23 : an.grow 23 = [] := rfl
theorem ab23 : an.apb 23 = [] := rfl
theorem rb23 : an.rowb 23 = [] := rfl
theorem rs23 : Try.f23.results.toList = [.tmp 4] := rfl
theorem ef23_6 : an.eff 23 6 = false := rfl
theorem gr24 : an.grow 24 = [] := rfl
theorem ab24 : an.apb 24 = [] := rfl
theorem rb24 : an.rowb 24 = [] := rfl
theorem rs24 : Try.f24.results.toList = [.tmp 4] := rfl
theorem gr25 : an.grow 25 = [] := rfl
theorem ab25 : an.apb 25 = [] := rfl
theorem rb25 : an.rowb 25 = [] := rfl
theorem rs25 : Try.f25.results.toList = [.tmp 0] := rfl
theorem gr26 : an.grow 26 = [] := rfl
theorem ab26 : an.apb 26 = [] := rfl
theorem rb26 : an.rowb 26 = [] := rfl
theorem rs26 : Try.f26.results.toList = [.tmp 4] := rfl
theorem lp27_4 : an.loop 27 4 = some [0, 3] := rfl
theorem gr27 : an.grow 27 = [] := rfl
theorem ab27 : an.apb 27 = [] := rfl
theorem rb27 : an.rowb 27 = [] := rfl
theorem rs27 : Try.f27.results.toList = [.tmp 2] := rfl
theorem gr28 : an.grow 28 = [] := rfl
theorem ab28 : an.apb 28 = [] := rfl
theorem rb28 : an.rowb 28 = [] := rfl
theorem rs28 : Try.f28.results.toList = [.tmp 4] := rfl
theorem lp29_5 : an.loop 29 5 = some [2, 3, 5, 6] := rfl
theorem gr29 : an.grow 29 = [] := rfl
theorem ab29 : an.apb 29 = [] := rfl
theorem rb29 : an.rowb 29 = [] := rfl
theorem rs29 : Try.f29.results.toList = [.tmp 4] := rfl
theorem ef29_7 : an.eff 29 7 = false := rfl
theorem gr30 : an.grow 30 = [] := rfl
theorem ab30 : an.apb 30 = [] := rfl
theorem rb30 : an.rowb 30 = [] := rfl
theorem rs30 : Try.f30.results.toList = [.tmp 4] := rfl
theorem ef30_2 : an.eff 30 2 = false := rfl
theorem lp31_2 : an.loop 31 2 = some [1, 2, 5] := rfl
theorem gr31 : an.grow 31 = [] := rfl
theorem ab31 : an.apb 31 = [] := rfl
theorem rb31 : an.rowb 31 = [] := rfl
theorem rs31 : Try.f31.results.toList = [.tmp 4] := rfl
theorem ef31_4 : an.eff 31 4 = false := rfl
theorem gr32 : an.grow 32 = [] := rfl
theorem ab32 : an.apb 32 = [] := rfl
theorem rb32 : an.rowb 32 = [] := rfl
theorem rs32 : Try.f32.results.toList = [.tmp 2] := rfl
theorem gr33 : an.grow 33 = [] := rfl
theorem ab33 : an.apb 33 = [] := rfl
theorem rb33 : an.rowb 33 = [] := rfl
theorem rs33 : Try.f33.results.toList = [.tmp 2] := rfl
theorem gr34 : an.grow 34 = [] := rfl
theorem ab34 : an.apb 34 = [] := rfl
theorem rb34 : an.rowb 34 = [] := rfl
theorem rs34 : Try.f34.results.toList = [.tmp 2] := rfl
theorem gr35 : an.grow 35 = [] := rfl
theorem ab35 : an.apb 35 = [] := rfl
theorem rb35 : an.rowb 35 = [] := rfl
theorem rs35 : Try.f35.results.toList = [.tmp 0] := rfl
theorem ef35_6 : an.eff 35 6 = false := rfl
theorem lp36_4 : an.loop 36 4 = some [1, 3] := rfl
theorem lp36_9 : an.loop 36 9 = some [1, 4] := rfl
theorem lp36_14 : an.loop 36 14 = some [1, 5] := rfl
theorem lp36_19 : an.loop 36 19 = some [1, 5, 6] := rfl
theorem gr36 : an.grow 36 = [] := rfl
theorem ab36 : an.apb 36 = [] := rfl
theorem rb36 : an.rowb 36 = [] := rfl
theorem rs36 : Try.f36.results.toList = [.tmp 2] := rfl
theorem lp37_6 : an.loop 37 6 = some [1, 2, 4, 5, 16, 19, 20, 21] := rfl
theorem gr37 : an.grow 37 = [] := rfl
theorem ab37 : an.apb 37 = [] := rfl
theorem rb37 : an.rowb 37 = [16] := rfl
theorem rs37 : Try.f37.results.toList = [.cell 2 25, .tmp 3] := rfl
theorem ef37_8 : an.eff 37 8 = false := rfl
theorem lp38_4 : an.loop 38 4 = some [2, 3, 5] := rfl
theorem lp38_9 : an.loop 38 9 = some [2, 3, 5, 6] := rfl
theorem gr38 : an.grow 38 = [] := rfl
theorem ab38 : an.apb 38 = [] := rfl
theorem rb38 : an.rowb 38 = [] := rfl
theorem rs38 : Try.f38.results.toList = [.tmp 4] := rfl
theorem ef38_6 : an.eff 38 6 = false := rfl
theorem ef38_11 : an.eff 38 11 = false := rfl
theorem lp39_4 : an.loop 39 4 = some [1, 24, 25, 26] := rfl
theorem lp39_9 : an.loop 39 9 = some [1, 4, 24, 25, 26, 33, 34, 35] := rfl
theorem gr39 : an.grow 39 = [] := rfl
theorem ab39 : an.apb 39 = [] := rfl
theorem rb39 : an.rowb 39 = [] := rfl
theorem rs39 : Try.f39.results.toList = [.tmp 2] := rfl
theorem gr40 : an.grow 40 = [] := rfl
theorem ab40 : an.apb 40 = [] := rfl
theorem rb40 : an.rowb 40 = [] := rfl
theorem rs40 : Try.f40.results.toList = [.tmp 6] := rfl
theorem lp41_4 : an.loop 41 4 = some [1, 2, 3, 23, 24, 25] := rfl
theorem gr41 : an.grow 41 = [] := rfl
theorem ab41 : an.apb 41 = [] := rfl
theorem rb41 : an.rowb 41 = [] := rfl
theorem rs41 : Try.f41.results.toList = [.tmp 6] := rfl
theorem lp42_6 : an.loop 42 6 = some [2, 7, 8, 9] := rfl
theorem gr42 : an.grow 42 = [] := rfl
theorem ab42 : an.apb 42 = [] := rfl
theorem rb42 : an.rowb 42 = [] := rfl
theorem rs42 : Try.f42.results.toList = [.tmp 6] := rfl
theorem gr43 : an.grow 43 = [] := rfl
theorem ab43 : an.apb 43 = [] := rfl
theorem rb43 : an.rowb 43 = [] := rfl
theorem rs43 : Try.f43.results.toList = [.tmp 2] := rfl
theorem gr44 : an.grow 44 = [] := rfl
theorem ab44 : an.apb 44 = [] := rfl
theorem rb44 : an.rowb 44 = [] := rfl
theorem rs44 : Try.f44.results.toList = [.tmp 6] := rfl
theorem lp45_4 : an.loop 45 4 = some [1, 3] := rfl
theorem gr45 : an.grow 45 = [] := rfl
theorem ab45 : an.apb 45 = [] := rfl
theorem rb45 : an.rowb 45 = [] := rfl
theorem rs45 : Try.f45.results.toList = [.tmp 2] := rfl
theorem gr46 : an.grow 46 = [] := rfl
theorem ab46 : an.apb 46 = [] := rfl
theorem rb46 : an.rowb 46 = [] := rfl
theorem rs46 : Try.f46.results.toList = [.tmp 0] := rfl
theorem gr47 : an.grow 47 = [] := rfl
theorem ab47 : an.apb 47 = [] := rfl
theorem rb47 : an.rowb 47 = [] := rfl
theorem rs47 : Try.f47.results.toList = [.tmp 2] := rfl
theorem lp48_7 : an.loop 48 7 = some [3, 13, 24, 25, 26] := rfl
theorem lp48_11 : an.loop 48 11 = some [3, 13, 24, 25, 26, 36, 37, 38] := rfl
theorem gr48 : an.grow 48 = [] := rfl
theorem ab48 : an.apb 48 = [] := rfl
theorem rb48 : an.rowb 48 = [] := rfl
theorem rs48 : Try.f48.results.toList = [.tmp 2] := rfl
theorem ef48_4 : an.eff 48 4 = true := rfl
theorem ef48_13 : an.eff 48 13 = true := rfl
theorem lp49_5 : an.loop 49 5 = some [1, 3, 4, 13] := rfl
theorem lp49_10 : an.loop 49 10 = some [1, 5, 6, 13] := rfl
theorem lp49_14 : an.loop 49 14 = some [1, 5, 6, 7, 13] := rfl
theorem lp49_21 : an.loop 49 21 = some [1, 5, 8, 9, 13, 78, 81] := rfl
theorem gr49 : an.grow 49 = [] := rfl
theorem ab49 : an.apb 49 = [13, 78, 81] := rfl
theorem rb49 : an.rowb 49 = [] := rfl
theorem rs49 : Try.f49.results.toList = [.tmp 2] := rfl
theorem ef49_7 : an.eff 49 7 = false := rfl
theorem ef49_8 : an.eff 49 8 = false := rfl
theorem gr50 : an.grow 50 = [] := rfl
theorem ab50 : an.apb 50 = [] := rfl
theorem rb50 : an.rowb 50 = [] := rfl
theorem rs50 : Try.f50.results.toList = [.tmp 2] := rfl
theorem gr51 : an.grow 51 = [] := rfl
theorem ab51 : an.apb 51 = [] := rfl
theorem rb51 : an.rowb 51 = [] := rfl
theorem rs51 : Try.f51.results.toList = [.tmp 2] := rfl
theorem lp52_4 : an.loop 52 4 = some [2, 3, 5] := rfl
theorem lp52_9 : an.loop 52 9 = some [2, 3, 6] := rfl
theorem lp52_14 : an.loop 52 14 = some [2, 3, 6, 7] := rfl
theorem lp52_19 : an.loop 52 19 = some [2, 3, 8] := rfl
theorem gr52 : an.grow 52 = [] := rfl
theorem ab52 : an.apb 52 = [] := rfl
theorem rb52 : an.rowb 52 = [] := rfl
theorem rs52 : Try.f52.results.toList = [.tmp 4] := rfl
theorem ef52_6 : an.eff 52 6 = false := rfl
theorem ef52_11 : an.eff 52 11 = false := rfl
theorem ef52_16 : an.eff 52 16 = false := rfl
theorem ef52_21 : an.eff 52 21 = false := rfl
theorem gr53 : an.grow 53 = [] := rfl
theorem ab53 : an.apb 53 = [] := rfl
theorem rb53 : an.rowb 53 = [] := rfl
theorem rs53 : Try.f53.results.toList = [.tmp 2] := rfl
theorem lp54_12 : an.loop 54 12 = some [0, 2, 4, 9] := rfl
theorem gr54 : an.grow 54 = [4] := rfl
theorem ab54 : an.apb 54 = [] := rfl
theorem rb54 : an.rowb 54 = [] := rfl
theorem rs54 : Try.f54.results.toList = [.cell 2 66, .tmp 3] := rfl
theorem ef54_5 : an.eff 54 5 = false := rfl
theorem ef54_10 : an.eff 54 10 = false := rfl
theorem lp55_4 : an.loop 55 4 = some [3, 4, 5] := rfl
theorem gr55 : an.grow 55 = [3] := rfl
theorem ab55 : an.apb 55 = [] := rfl
theorem rb55 : an.rowb 55 = [] := rfl
theorem rs55 : Try.f55.results.toList = [.tmp 2] := rfl
theorem gr56 : an.grow 56 = [] := rfl
theorem ab56 : an.apb 56 = [] := rfl
theorem rb56 : an.rowb 56 = [] := rfl
theorem rs56 : Try.f56.results.toList = [.tmp 2] := rfl
theorem gr57 : an.grow 57 = [] := rfl
theorem ab57 : an.apb 57 = [] := rfl
theorem rb57 : an.rowb 57 = [] := rfl
theorem rs57 : Try.f57.results.toList = [.cell 0 25] := rfl
theorem lp58_4 : an.loop 58 4 = some [0, 1, 5] := rfl
theorem gr58 : an.grow 58 = [] := rfl
theorem ab58 : an.apb 58 = [] := rfl
theorem rb58 : an.rowb 58 = [] := rfl
theorem rs58 : Try.f58.results.toList = [.tmp 4] := rfl
theorem ef58_6 : an.eff 58 6 = false := rfl
theorem lp59_3 : an.loop 59 3 = some [3, 6, 7, 8] := rfl
theorem gr59 : an.grow 59 = [3] := rfl
theorem ab59 : an.apb 59 = [] := rfl
theorem rb59 : an.rowb 59 = [] := rfl
theorem rs59 : Try.f59.results.toList = [.tmp 2] := rfl
theorem lp60_4 : an.loop 60 4 = some [1, 3] := rfl
theorem lp60_9 : an.loop 60 9 = some [1, 3, 4] := rfl
theorem gr60 : an.grow 60 = [] := rfl
theorem ab60 : an.apb 60 = [] := rfl
theorem rb60 : an.rowb 60 = [] := rfl
theorem rs60 : Try.f60.results.toList = [.tmp 2] := rfl
theorem ef60_11 : an.eff 60 11 = false := rfl
theorem gr61 : an.grow 61 = [] := rfl
theorem ab61 : an.apb 61 = [] := rfl
theorem rb61 : an.rowb 61 = [] := rfl
theorem rs61 : Try.f61.results.toList = [.tmp 5] := rfl
theorem lp62_3 : an.loop 62 3 = some [3, 7, 8, 9] := rfl
theorem gr62 : an.grow 62 = [3] := rfl
theorem ab62 : an.apb 62 = [] := rfl
theorem rb62 : an.rowb 62 = [] := rfl
theorem rs62 : Try.f62.results.toList = [.tmp 2] := rfl
theorem gr64 : an.grow 64 = [] := rfl
theorem ab64 : an.apb 64 = [] := rfl
theorem rb64 : an.rowb 64 = [] := rfl
theorem rs64 : Try.f64.results.toList = [.cell 8 91, .tmp 9] := rfl
theorem lp65_4 : an.loop 65 4 = some [1, 2, 3, 7, 8, 17, 18, 19] := rfl
theorem lp65_15 : an.loop 65 15 = some [1, 2, 8, 14, 51, 52, 53] := rfl
theorem gr65 : an.grow 65 = [14] := rfl
theorem ab65 : an.apb 65 = [] := rfl
theorem rb65 : an.rowb 65 = [] := rfl
theorem rs65 : Try.f65.results.toList = [.tmp 6] := rfl
theorem ef65_17 : an.eff 65 17 = false := rfl
theorem lp66_4 : an.loop 66 4 = some [0, 1, 5] := rfl
theorem gr66 : an.grow 66 = [] := rfl
theorem ab66 : an.apb 66 = [] := rfl
theorem rb66 : an.rowb 66 = [] := rfl
theorem rs66 : Try.f66.results.toList = [.tmp 4] := rfl
theorem ef66_6 : an.eff 66 6 = false := rfl
theorem gr67 : an.grow 67 = [] := rfl
theorem ab67 : an.apb 67 = [] := rfl
theorem rb67 : an.rowb 67 = [] := rfl
theorem rs67 : Try.f67.results.toList = [.cell 0 43] := rfl
theorem gr68 : an.grow 68 = [] := rfl
theorem ab68 : an.apb 68 = [] := rfl
theorem rb68 : an.rowb 68 = [] := rfl
theorem rs68 : Try.f68.results.toList = [.tmp 2] := rfl
theorem gr69 : an.grow 69 = [] := rfl
theorem ab69 : an.apb 69 = [] := rfl
theorem rb69 : an.rowb 69 = [] := rfl
theorem rs69 : Try.f69.results.toList = [.tmp 4] := rfl
theorem ef69_1 : an.eff 69 1 = false := rfl
theorem lp70_2 : an.loop 70 2 = some [0, 1, 7, 8] := rfl
theorem gr70 : an.grow 70 = [] := rfl
theorem ab70 : an.apb 70 = [] := rfl
theorem rb70 : an.rowb 70 = [] := rfl
theorem rs70 : Try.f70.results.toList = [.tmp 4] := rfl
theorem gr71 : an.grow 71 = [] := rfl
theorem ab71 : an.apb 71 = [] := rfl
theorem rb71 : an.rowb 71 = [] := rfl
theorem rs71 : Try.f71.results.toList = [.tmp 3] := rfl
theorem ef71_1 : an.eff 71 1 = false := rfl
theorem lp72_2 : an.loop 72 2 = some [0, 4] := rfl
theorem gr72 : an.grow 72 = [] := rfl
theorem ab72 : an.apb 72 = [] := rfl
theorem rb72 : an.rowb 72 = [] := rfl
theorem rs72 : Try.f72.results.toList = [.tmp 2] := rfl
theorem gr73 : an.grow 73 = [] := rfl
theorem ab73 : an.apb 73 = [] := rfl
theorem rb73 : an.rowb 73 = [] := rfl
theorem rs73 : Try.f73.results.toList = [.tmp 4] := rfl
theorem gr74 : an.grow 74 = [] := rfl
theorem ab74 : an.apb 74 = [] := rfl
theorem rb74 : an.rowb 74 = [] := rfl
theorem rs74 : Try.f74.results.toList = [.tmp 3] := rfl
theorem ef74_4 : an.eff 74 4 = false := rfl
theorem lp75_4 : an.loop 75 4 = some [0, 4, 5, 7] := rfl
theorem gr75 : an.grow 75 = [] := rfl
theorem ab75 : an.apb 75 = [] := rfl
theorem rb75 : an.rowb 75 = [] := rfl
theorem rs75 : Try.f75.results.toList = [.tmp 6] := rfl
theorem ef75_2 : an.eff 75 2 = false := rfl
theorem ef75_6 : an.eff 75 6 = false := rfl
theorem ef75_7 : an.eff 75 7 = false := rfl
theorem gr76 : an.grow 76 = [] := rfl
theorem ab76 : an.apb 76 = [] := rfl
theorem rb76 : an.rowb 76 = [] := rfl
theorem rs76 : Try.f76.results.toList = [.tmp 3] := rfl
theorem ef76_1 : an.eff 76 1 = false := rfl
theorem gr77 : an.grow 77 = [] := rfl
theorem ab77 : an.apb 77 = [] := rfl
theorem rb77 : an.rowb 77 = [] := rfl
theorem rs77 : Try.f77.results.toList = [.tmp 4] := rfl
theorem lp78_3 : an.loop 78 3 = some [1, 3, 4] := rfl
theorem lp78_7 : an.loop 78 7 = some [1, 3, 5] := rfl
theorem lp78_10 : an.loop 78 10 = some [1, 3, 5, 6] := rfl
theorem lp78_14 : an.loop 78 14 = some [1, 3, 7] := rfl
theorem gr78 : an.grow 78 = [] := rfl
theorem ab78 : an.apb 78 = [] := rfl
theorem rb78 : an.rowb 78 = [] := rfl
theorem rs78 : Try.f78.results.toList = [.tmp 2] := rfl
theorem lp79_5 : an.loop 79 5 = some [1, 6] := rfl
theorem lp79_8 : an.loop 79 8 = some [1, 6, 7] := rfl
theorem lp79_14 : an.loop 79 14 = some [1, 9] := rfl
theorem gr79 : an.grow 79 = [] := rfl
theorem ab79 : an.apb 79 = [] := rfl
theorem rb79 : an.rowb 79 = [] := rfl
theorem rs79 : Try.f79.results.toList = [.tmp 2, .tmp 3, .tmp 4] := rfl
theorem gr80 : an.grow 80 = [] := rfl
theorem ab80 : an.apb 80 = [] := rfl
theorem rb80 : an.rowb 80 = [] := rfl
theorem rs80 : Try.f80.results.toList = [.tmp 2] := rfl
theorem lp81_3 : an.loop 81 3 = some [1, 5, 10, 11, 12, 13] := rfl
theorem gr81 : an.grow 81 = [] := rfl
theorem ab81 : an.apb 81 = [10] := rfl
theorem rb81 : an.rowb 81 = [] := rfl
theorem rs81 : Try.f81.results.toList = [.tmp 4] := rfl
theorem gr82 : an.grow 82 = [] := rfl
theorem ab82 : an.apb 82 = [] := rfl
theorem rb82 : an.rowb 82 = [] := rfl
theorem rs82 : Try.f82.results.toList = [.tmp 3] := rfl
theorem lp83_3 : an.loop 83 3 = some [1, 5, 10, 11, 12, 13] := rfl
theorem gr83 : an.grow 83 = [] := rfl
theorem ab83 : an.apb 83 = [10] := rfl
theorem rb83 : an.rowb 83 = [] := rfl
theorem rs83 : Try.f83.results.toList = [.tmp 4] := rfl
theorem lp84_3 : an.loop 84 3 = some [1, 5, 8, 9, 10] := rfl
theorem gr84 : an.grow 84 = [5] := rfl
theorem ab84 : an.apb 84 = [] := rfl
theorem rb84 : an.rowb 84 = [] := rfl
theorem rs84 : Try.f84.results.toList = [.tmp 4] := rfl
theorem gr85 : an.grow 85 = [] := rfl
theorem ab85 : an.apb 85 = [] := rfl
theorem rb85 : an.rowb 85 = [] := rfl
theorem rs85 : Try.f85.results.toList = [.tmp 2] := rfl
theorem gr86 : an.grow 86 = [] := rfl
theorem ab86 : an.apb 86 = [] := rfl
theorem rb86 : an.rowb 86 = [] := rfl
theorem rs86 : Try.f86.results.toList = [.cell 4 70] := rfl
theorem ef86_1 : an.eff 86 1 = false := rfl
theorem ef86_4 : an.eff 86 4 = false := rfl
theorem gr87 : an.grow 87 = [] := rfl
theorem ab87 : an.apb 87 = [] := rfl
theorem rb87 : an.rowb 87 = [] := rfl
theorem rs87 : Try.f87.results.toList = [.tmp 2] := rfl
theorem gr88 : an.grow 88 = [] := rfl
theorem ab88 : an.apb 88 = [] := rfl
theorem rb88 : an.rowb 88 = [] := rfl
theorem rs88 : Try.f88.results.toList = [.tmp 3] := rfl
theorem lp89_2 : an.loop 89 2 = some [0, 1, 7, 8] := rfl
theorem gr89 : an.grow 89 = [] := rfl
theorem ab89 : an.apb 89 = [] := rfl
theorem rb89 : an.rowb 89 = [] := rfl
theorem rs89 : Try.f89.results.toList = [.tmp 4] := rfl
theorem gr90 : an.grow 90 = [] := rfl
theorem ab90 : an.apb 90 = [] := rfl
theorem rb90 : an.rowb 90 = [] := rfl
theorem rs90 : Try.f90.results.toList = [.tmp 8] := rfl
theorem lp91_3 : an.loop 91 3 = some [0, 3, 4] := rfl
theorem gr91 : an.grow 91 = [] := rfl
theorem ab91 : an.apb 91 = [] := rfl
theorem rb91 : an.rowb 91 = [] := rfl
theorem rs91 : Try.f91.results.toList = [.tmp 2] := rfl
theorem gr92 : an.grow 92 = [] := rfl
theorem ab92 : an.apb 92 = [] := rfl
theorem rb92 : an.rowb 92 = [] := rfl
theorem rs92 : Try.f92.results.toList = [] := rfl
theorem ef92_0 : an.eff 92 0 = false := rfl
theorem lp93_2 : an.loop 93 2 = some [0, 2, 5, 10, 11, 12] := rfl
theorem gr93 : an.grow 93 = [] := rfl
theorem ab93 : an.apb 93 = [5] := rfl
theorem rb93 : an.rowb 93 = [] := rfl
theorem rs93 : Try.f93.results.toList = [] := rfl
theorem ef93_4 : an.eff 93 4 = false := rfl
theorem gr94 : an.grow 94 = [] := rfl
theorem ab94 : an.apb 94 = [] := rfl
theorem rb94 : an.rowb 94 = [] := rfl
theorem rs94 : Try.f94.results.toList = [.tmp 2] := rfl
theorem lp95_4 : an.loop 95 4 = some [0, 2, 5, 17, 18, 19] := rfl
theorem gr95 : an.grow 95 = [] := rfl
theorem ab95 : an.apb 95 = [5] := rfl
theorem rb95 : an.rowb 95 = [] := rfl
theorem rs95 : Try.f95.results.toList = [] := rfl
theorem gr96 : an.grow 96 = [] := rfl
theorem ab96 : an.apb 96 = [] := rfl
theorem rb96 : an.rowb 96 = [] := rfl
theorem rs96 : Try.f96.results.toList = [.tmp 2] := rfl
theorem ef96_1 : an.eff 96 1 = false := rfl
theorem lp97_5 : an.loop 97 5 = some [0, 3, 4] := rfl
theorem gr97 : an.grow 97 = [] := rfl
theorem ab97 : an.apb 97 = [] := rfl
theorem rb97 : an.rowb 97 = [] := rfl
theorem rs97 : Try.f97.results.toList = [.tmp 2] := rfl
theorem lp98_3 : an.loop 98 3 = some [0, 3, 4] := rfl
theorem gr98 : an.grow 98 = [] := rfl
theorem ab98 : an.apb 98 = [] := rfl
theorem rb98 : an.rowb 98 = [] := rfl
theorem rs98 : Try.f98.results.toList = [.tmp 2] := rfl
theorem gr99 : an.grow 99 = [] := rfl
theorem ab99 : an.apb 99 = [] := rfl
theorem rb99 : an.rowb 99 = [] := rfl
theorem rs99 : Try.f99.results.toList = [.tmp 2] := rfl
theorem ef99_3 : an.eff 99 3 = false := rfl
theorem lp100_12 : an.loop 100 12 = some [0, 1, 5, 39, 40, 41] := rfl
theorem lp100_22 : an.loop 100 22 = some [1, 8, 63, 64, 65] := rfl
theorem gr100 : an.grow 100 = [] := rfl
theorem ab100 : an.apb 100 = [] := rfl
theorem rb100 : an.rowb 100 = [] := rfl
theorem rs100 : Try.f100.results.toList = [.tmp 4] := rfl
theorem gr101 : an.grow 101 = [] := rfl
theorem ab101 : an.apb 101 = [] := rfl
theorem rb101 : an.rowb 101 = [] := rfl
theorem rs101 : Try.f101.results.toList = [.tmp 2] := rfl
theorem ef101_6 : an.eff 101 6 = false := rfl
theorem ef101_18 : an.eff 101 18 = false := rfl
theorem lp102_4 : an.loop 102 4 = some [0, 1, 5, 6, 7] := rfl
theorem gr102 : an.grow 102 = [5] := rfl
theorem ab102 : an.apb 102 = [] := rfl
theorem rb102 : an.rowb 102 = [] := rfl
theorem rs102 : Try.f102.results.toList = [.tmp 4] := rfl
theorem gr103 : an.grow 103 = [] := rfl
theorem ab103 : an.apb 103 = [] := rfl
theorem rb103 : an.rowb 103 = [] := rfl
theorem rs103 : Try.f103.results.toList = [.tmp 6] := rfl
theorem lp104_6 : an.loop 104 6 = some [0, 4, 5, 6] := rfl
theorem gr104 : an.grow 104 = [] := rfl
theorem ab104 : an.apb 104 = [] := rfl
theorem rb104 : an.rowb 104 = [] := rfl
theorem rs104 : Try.f104.results.toList = [.tmp 2, .tmp 3] := rfl
theorem lp105_4 : an.loop 105 4 = some [0, 1, 5] := rfl
theorem gr105 : an.grow 105 = [] := rfl
theorem ab105 : an.apb 105 = [] := rfl
theorem rb105 : an.rowb 105 = [] := rfl
theorem rs105 : Try.f105.results.toList = [.tmp 4] := rfl
theorem ef105_6 : an.eff 105 6 = false := rfl
theorem gr106 : an.grow 106 = [] := rfl
theorem ab106 : an.apb 106 = [] := rfl
theorem rb106 : an.rowb 106 = [] := rfl
theorem rs106 : Try.f106.results.toList = [.tmp 2, .tmp 3, .tmp 4, .tmp 5] := rfl
theorem lp107_2 : an.loop 107 2 = some [0, 3] := rfl
theorem gr107 : an.grow 107 = [] := rfl
theorem ab107 : an.apb 107 = [] := rfl
theorem rb107 : an.rowb 107 = [] := rfl
theorem rs107 : Try.f107.results.toList = [.tmp 2] := rfl
theorem lp108_2 : an.loop 108 2 = some [0, 3] := rfl
theorem gr108 : an.grow 108 = [] := rfl
theorem ab108 : an.apb 108 = [] := rfl
theorem rb108 : an.rowb 108 = [] := rfl
theorem rs108 : Try.f108.results.toList = [.tmp 2] := rfl
theorem gr109 : an.grow 109 = [] := rfl
theorem ab109 : an.apb 109 = [] := rfl
theorem rb109 : an.rowb 109 = [] := rfl
theorem rs109 : Try.f109.results.toList = [.tmp 8] := rfl
theorem lp110_4 : an.loop 110 4 = some [3, 12, 23, 24, 25] := rfl
theorem lp110_13 : an.loop 110 13 = some [3, 12, 23, 24, 25, 51, 52, 53] := rfl
theorem gr110 : an.grow 110 = [] := rfl
theorem ab110 : an.apb 110 = [12] := rfl
theorem rb110 : an.rowb 110 = [] := rfl
theorem rs110 : Try.f110.results.toList = [.tmp 2] := rfl
theorem lp111_4 : an.loop 111 4 = some [0, 3, 4, 5] := rfl
theorem gr111 : an.grow 111 = [] := rfl
theorem ab111 : an.apb 111 = [] := rfl
theorem rb111 : an.rowb 111 = [] := rfl
theorem rs111 : Try.f111.results.toList = [.tmp 2] := rfl
theorem gr112 : an.grow 112 = [] := rfl
theorem ab112 : an.apb 112 = [] := rfl
theorem rb112 : an.rowb 112 = [] := rfl
theorem rs112 : Try.f112.results.toList = [.cell 6 91, .tmp 7] := rfl
theorem gr113 : an.grow 113 = [] := rfl
theorem ab113 : an.apb 113 = [] := rfl
theorem rb113 : an.rowb 113 = [] := rfl
theorem rs113 : Try.f113.results.toList = [.cell 6 91, .tmp 7] := rfl
theorem ef113_2 : an.eff 113 2 = false := rfl
theorem ef113_4 : an.eff 113 4 = false := rfl
theorem ef113_5 : an.eff 113 5 = false := rfl
theorem gr114 : an.grow 114 = [] := rfl
theorem ab114 : an.apb 114 = [] := rfl
theorem rb114 : an.rowb 114 = [] := rfl
theorem rs114 : Try.f114.results.toList = [.tmp 2] := rfl
theorem lp115_2 : an.loop 115 2 = some [2, 8, 9, 10] := rfl
theorem gr115 : an.grow 115 = [] := rfl
theorem ab115 : an.apb 115 = [] := rfl
theorem rb115 : an.rowb 115 = [] := rfl
theorem rs115 : Try.f115.results.toList = [.tmp 4] := rfl
theorem ef115_4 : an.eff 115 4 = false := rfl
theorem lp116_3 : an.loop 116 3 = some [2, 3, 11, 12, 13, 21] := rfl
theorem gr116 : an.grow 116 = [] := rfl
theorem ab116 : an.apb 116 = [] := rfl
theorem rb116 : an.rowb 116 = [] := rfl
theorem rs116 : Try.f116.results.toList = [.cell 2 35] := rfl
theorem gr117 : an.grow 117 = [] := rfl
theorem ab117 : an.apb 117 = [] := rfl
theorem rb117 : an.rowb 117 = [] := rfl
theorem rs117 : Try.f117.results.toList = [.tmp 4] := rfl
theorem ef117_4 : an.eff 117 4 = false := rfl
theorem gr118 : an.grow 118 = [] := rfl
theorem ab118 : an.apb 118 = [] := rfl
theorem rb118 : an.rowb 118 = [] := rfl
theorem rs118 : Try.f118.results.toList = [.tmp 4] := rfl
theorem ef118_3 : an.eff 118 3 = false := rfl
theorem lp119_3 : an.loop 119 3 = some [1, 3, 12, 14, 15, 16] := rfl
theorem lp119_8 : an.loop 119 8 = some [1, 3, 12, 27, 28, 29] := rfl
theorem lp119_11 : an.loop 119 11 = some [1, 3, 12, 27, 28, 29, 34, 35, 36] := rfl
theorem lp119_18 : an.loop 119 18 = some [3, 12, 51, 52, 53] := rfl
theorem gr119 : an.grow 119 = [] := rfl
theorem ab119 : an.apb 119 = [] := rfl
theorem rb119 : an.rowb 119 = [] := rfl
theorem rs119 : Try.f119.results.toList = [.tmp 2] := rfl
theorem gr120 : an.grow 120 = [] := rfl
theorem ab120 : an.apb 120 = [] := rfl
theorem rb120 : an.rowb 120 = [] := rfl
theorem rs120 : Try.f120.results.toList = [.tmp 2] := rfl
theorem lp121_2 : an.loop 121 2 = some [0, 1, 7, 8] := rfl
theorem gr121 : an.grow 121 = [] := rfl
theorem ab121 : an.apb 121 = [] := rfl
theorem rb121 : an.rowb 121 = [] := rfl
theorem rs121 : Try.f121.results.toList = [.tmp 4] := rfl
theorem lp122_2 : an.loop 122 2 = some [0, 1, 7, 8] := rfl
theorem gr122 : an.grow 122 = [] := rfl
theorem ab122 : an.apb 122 = [] := rfl
theorem rb122 : an.rowb 122 = [] := rfl
theorem rs122 : Try.f122.results.toList = [.tmp 4] := rfl
theorem lp123_4 : an.loop 123 4 = some [0, 1, 5, 6, 7] := rfl
theorem gr123 : an.grow 123 = [5] := rfl
theorem ab123 : an.apb 123 = [] := rfl
theorem rb123 : an.rowb 123 = [] := rfl
theorem rs123 : Try.f123.results.toList = [.tmp 4] := rfl
theorem lp124_4 : an.loop 124 4 = some [1, 3] := rfl
theorem gr124 : an.grow 124 = [] := rfl
theorem ab124 : an.apb 124 = [] := rfl
theorem rb124 : an.rowb 124 = [] := rfl
theorem rs124 : Try.f124.results.toList = [.tmp 2] := rfl
theorem ef124_8 : an.eff 124 8 = false := rfl
theorem lp125_13 : an.loop 125 13 = some [0, 1, 5, 6, 7, 8] := rfl
theorem gr125 : an.grow 125 = [] := rfl
theorem ab125 : an.apb 125 = [] := rfl
theorem rb125 : an.rowb 125 = [] := rfl
theorem rs125 : Try.f125.results.toList = [.tmp 4] := rfl
theorem ef125_4 : an.eff 125 4 = false := rfl
theorem ef125_8 : an.eff 125 8 = false := rfl
theorem gr126 : an.grow 126 = [] := rfl
theorem ab126 : an.apb 126 = [] := rfl
theorem rb126 : an.rowb 126 = [] := rfl
theorem rs126 : Try.f126.results.toList = [.tmp 2] := rfl
theorem lp127_5 : an.loop 127 5 = some [1, 14, 15, 16] := rfl
theorem gr127 : an.grow 127 = [] := rfl
theorem ab127 : an.apb 127 = [] := rfl
theorem rb127 : an.rowb 127 = [] := rfl
theorem rs127 : Try.f127.results.toList = [.tmp 2] := rfl
theorem gr128 : an.grow 128 = [] := rfl
theorem ab128 : an.apb 128 = [] := rfl
theorem rb128 : an.rowb 128 = [] := rfl
theorem rs128 : Try.f128.results.toList = [.tmp 6] := rfl
theorem gr129 : an.grow 129 = [] := rfl
theorem ab129 : an.apb 129 = [] := rfl
theorem rb129 : an.rowb 129 = [] := rfl
theorem rs129 : Try.f129.results.toList = [] := rfl
theorem gr130 : an.grow 130 = [] := rfl
theorem ab130 : an.apb 130 = [] := rfl
theorem rb130 : an.rowb 130 = [] := rfl
theorem rs130 : Try.f130.results.toList = [] := rfl
theorem gr131 : an.grow 131 = [] := rfl
theorem ab131 : an.apb 131 = [] := rfl
theorem rb131 : an.rowb 131 = [] := rfl
theorem rs131 : Try.f131.results.toList = [.tmp 4, .tmp 5] := rfl
theorem gr132 : an.grow 132 = [] := rfl
theorem ab132 : an.apb 132 = [] := rfl
theorem rb132 : an.rowb 132 = [] := rfl
theorem rs132 : Try.f132.results.toList = [.tmp 2] := rfl
theorem gr133 : an.grow 133 = [] := rfl
theorem ab133 : an.apb 133 = [] := rfl
theorem rb133 : an.rowb 133 = [] := rfl
theorem rs133 : Try.f133.results.toList = [.tmp 2] := rfl
theorem gr134 : an.grow 134 = [] := rfl
theorem ab134 : an.apb 134 = [] := rfl
theorem rb134 : an.rowb 134 = [] := rfl
theorem rs134 : Try.f134.results.toList = [.tmp 2] := rfl
theorem ef134_3 : an.eff 134 3 = false := rfl
theorem gr135 : an.grow 135 = [] := rfl
theorem ab135 : an.apb 135 = [] := rfl
theorem rb135 : an.rowb 135 = [] := rfl
theorem rs135 : Try.f135.results.toList = [] := rfl
theorem ef135_3 : an.eff 135 3 = false := rfl
theorem gr136 : an.grow 136 = [] := rfl
theorem ab136 : an.apb 136 = [] := rfl
theorem rb136 : an.rowb 136 = [] := rfl
theorem rs136 : Try.f136.results.toList = [.tmp 2] := rfl
theorem lp137_3 : an.loop 137 3 = some [2, 3, 15, 16] := rfl
theorem gr137 : an.grow 137 = [] := rfl
theorem ab137 : an.apb 137 = [] := rfl
theorem rb137 : an.rowb 137 = [] := rfl
theorem rs137 : Try.f137.results.toList = [.cell 2 91] := rfl
theorem ef137_1 : an.eff 137 1 = false := rfl
theorem ef137_6 : an.eff 137 6 = false := rfl
theorem gr138 : an.grow 138 = [] := rfl
theorem ab138 : an.apb 138 = [] := rfl
theorem rb138 : an.rowb 138 = [] := rfl
theorem rs138 : Try.f138.results.toList = [.cell 4 91, .tmp 5] := rfl
theorem ef138_2 : an.eff 138 2 = false := rfl
theorem gr139 : an.grow 139 = [] := rfl
theorem ab139 : an.apb 139 = [] := rfl
theorem rb139 : an.rowb 139 = [] := rfl
theorem rs139 : Try.f139.results.toList = [.cell 6 91, .tmp 7] := rfl
theorem ef139_7 : an.eff 139 7 = false := rfl
theorem ef139_14 : an.eff 139 14 = false := rfl
theorem ef139_16 : an.eff 139 16 = false := rfl
theorem lp140_3 : an.loop 140 3 = some [2, 3, 15, 16] := rfl
theorem gr140 : an.grow 140 = [] := rfl
theorem ab140 : an.apb 140 = [] := rfl
theorem rb140 : an.rowb 140 = [] := rfl
theorem rs140 : Try.f140.results.toList = [.cell 2 91] := rfl
theorem ef140_1 : an.eff 140 1 = false := rfl
theorem ef140_6 : an.eff 140 6 = false := rfl
theorem gr142 : an.grow 142 = [] := rfl
theorem ab142 : an.apb 142 = [5] := rfl
theorem rb142 : an.rowb 142 = [] := rfl
theorem rs142 : Try.f142.results.toList = [.tmp 2] := rfl
theorem lp143_3 : an.loop 143 3 = some [0, 2, 4, 8, 9, 10] := rfl
theorem gr143 : an.grow 143 = [] := rfl
theorem ab143 : an.apb 143 = [] := rfl
theorem rb143 : an.rowb 143 = [] := rfl
theorem rs143 : Try.f143.results.toList = [.tmp 6, .tmp 7] := rfl
theorem ef143_5 : an.eff 143 5 = false := rfl
theorem ef143_8 : an.eff 143 8 = false := rfl
theorem gr144 : an.grow 144 = [] := rfl
theorem ab144 : an.apb 144 = [] := rfl
theorem rb144 : an.rowb 144 = [] := rfl
theorem rs144 : Try.f144.results.toList = [.tmp 4] := rfl
theorem gr145 : an.grow 145 = [] := rfl
theorem ab145 : an.apb 145 = [5] := rfl
theorem rb145 : an.rowb 145 = [] := rfl
theorem rs145 : Try.f145.results.toList = [.tmp 2] := rfl
theorem gr146 : an.grow 146 = [] := rfl
theorem ab146 : an.apb 146 = [] := rfl
theorem rb146 : an.rowb 146 = [] := rfl
theorem rs146 : Try.f146.results.toList = [.tmp 6] := rfl
theorem ef146_11 : an.eff 146 11 = false := rfl
theorem ef146_15 : an.eff 146 15 = false := rfl
theorem gr147 : an.grow 147 = [] := rfl
theorem ab147 : an.apb 147 = [] := rfl
theorem rb147 : an.rowb 147 = [] := rfl
theorem rs147 : Try.f147.results.toList = [.tmp 2] := rfl
theorem gr148 : an.grow 148 = [] := rfl
theorem ab148 : an.apb 148 = [] := rfl
theorem rb148 : an.rowb 148 = [] := rfl
theorem rs148 : Try.f148.results.toList = [.tmp 2] := rfl
theorem lp149_3 : an.loop 149 3 = some [0, 1, 5, 6] := rfl
theorem gr149 : an.grow 149 = [] := rfl
theorem ab149 : an.apb 149 = [] := rfl
theorem rb149 : an.rowb 149 = [] := rfl
theorem rs149 : Try.f149.results.toList = [.tmp 4] := rfl
theorem gr150 : an.grow 150 = [] := rfl
theorem ab150 : an.apb 150 = [] := rfl
theorem rb150 : an.rowb 150 = [] := rfl
theorem rs150 : Try.f150.results.toList = [.tmp 2] := rfl
theorem lp151_6 : an.loop 151 6 = some [1, 3, 4, 14, 15, 16] := rfl
theorem gr151 : an.grow 151 = [] := rfl
theorem ab151 : an.apb 151 = [] := rfl
theorem rb151 : an.rowb 151 = [] := rfl
theorem rs151 : Try.f151.results.toList = [.tmp 2] := rfl
theorem lp152_6 : an.loop 152 6 = some [0, 1, 5, 6, 7, 8, 20, 21, 22, 23, 24] := rfl
theorem lp152_13 : an.loop 152 13 = some [0, 5, 6, 7, 8, 11, 20, 21, 37, 38, 39] := rfl
theorem gr152 : an.grow 152 = [] := rfl
theorem ab152 : an.apb 152 = [] := rfl
theorem rb152 : an.rowb 152 = [] := rfl
theorem rs152 : Try.f152.results.toList = [.tmp 4] := rfl
theorem ef152_28 : an.eff 152 28 = false := rfl
theorem lp153_2 : an.loop 153 2 = some [1, 7, 8, 9] := rfl
theorem gr153 : an.grow 153 = [] := rfl
theorem ab153 : an.apb 153 = [] := rfl
theorem rb153 : an.rowb 153 = [] := rfl
theorem rs153 : Try.f153.results.toList = [.tmp 2] := rfl
theorem gr154 : an.grow 154 = [] := rfl
theorem ab154 : an.apb 154 = [] := rfl
theorem rb154 : an.rowb 154 = [] := rfl
theorem rs154 : Try.f154.results.toList = [] := rfl
theorem gr155 : an.grow 155 = [] := rfl
theorem ab155 : an.apb 155 = [] := rfl
theorem rb155 : an.rowb 155 = [] := rfl
theorem rs155 : Try.f155.results.toList = [.tmp 2] := rfl
theorem gr156 : an.grow 156 = [] := rfl
theorem ab156 : an.apb 156 = [] := rfl
theorem rb156 : an.rowb 156 = [] := rfl
theorem rs156 : Try.f156.results.toList = [.tmp 2] := rfl
theorem gr157 : an.grow 157 = [] := rfl
theorem ab157 : an.apb 157 = [] := rfl
theorem rb157 : an.rowb 157 = [] := rfl
theorem rs157 : Try.f157.results.toList = [] := rfl
theorem ef157_0 : an.eff 157 0 = false := rfl
theorem gr158 : an.grow 158 = [] := rfl
theorem ab158 : an.apb 158 = [5] := rfl
theorem rb158 : an.rowb 158 = [] := rfl
theorem rs158 : Try.f158.results.toList = [.tmp 2] := rfl
theorem gr159 : an.grow 159 = [] := rfl
theorem ab159 : an.apb 159 = [5] := rfl
theorem rb159 : an.rowb 159 = [] := rfl
theorem rs159 : Try.f159.results.toList = [.tmp 2] := rfl
theorem gr160 : an.grow 160 = [] := rfl
theorem ab160 : an.apb 160 = [] := rfl
theorem rb160 : an.rowb 160 = [] := rfl
theorem rs160 : Try.f160.results.toList = [.tmp 4, .tmp 5, .tmp 6] := rfl
theorem ef160_4 : an.eff 160 4 = false := rfl
theorem gr161 : an.grow 161 = [] := rfl
theorem ab161 : an.apb 161 = [] := rfl
theorem rb161 : an.rowb 161 = [] := rfl
theorem rs161 : Try.f161.results.toList = [] := rfl
theorem ef161_0 : an.eff 161 0 = false := rfl
theorem gr162 : an.grow 162 = [] := rfl
theorem ab162 : an.apb 162 = [11] := rfl
theorem rb162 : an.rowb 162 = [] := rfl
theorem rs162 : Try.f162.results.toList = [.tmp 4] := rfl
theorem gr163 : an.grow 163 = [] := rfl
theorem ab163 : an.apb 163 = [] := rfl
theorem rb163 : an.rowb 163 = [] := rfl
theorem rs163 : Try.f163.results.toList = [.tmp 6, .tmp 7] := rfl
theorem gr164 : an.grow 164 = [] := rfl
theorem ab164 : an.apb 164 = [] := rfl
theorem rb164 : an.rowb 164 = [] := rfl
theorem rs164 : Try.f164.results.toList = [.tmp 4] := rfl
theorem ef164_1 : an.eff 164 1 = false := rfl
theorem gr166 : an.grow 166 = [] := rfl
theorem ab166 : an.apb 166 = [] := rfl
theorem rb166 : an.rowb 166 = [] := rfl
theorem rs166 : Try.f166.results.toList = [] := rfl
theorem gr167 : an.grow 167 = [] := rfl
theorem ab167 : an.apb 167 = [] := rfl
theorem rb167 : an.rowb 167 = [] := rfl
theorem rs167 : Try.f167.results.toList = [.tmp 2] := rfl
theorem gr168 : an.grow 168 = [] := rfl
theorem ab168 : an.apb 168 = [] := rfl
theorem rb168 : an.rowb 168 = [] := rfl
theorem rs168 : Try.f168.results.toList = [] := rfl
theorem lp169_1 : an.loop 169 1 = some [0, 5] := rfl
theorem gr169 : an.grow 169 = [] := rfl
theorem ab169 : an.apb 169 = [] := rfl
theorem rb169 : an.rowb 169 = [] := rfl
theorem rs169 : Try.f169.results.toList = [] := rfl
theorem gr170 : an.grow 170 = [] := rfl
theorem ab170 : an.apb 170 = [] := rfl
theorem rb170 : an.rowb 170 = [] := rfl
theorem rs170 : Try.f170.results.toList = [.tmp 2] := rfl
theorem gr171 : an.grow 171 = [] := rfl
theorem ab171 : an.apb 171 = [] := rfl
theorem rb171 : an.rowb 171 = [] := rfl
theorem rs171 : Try.f171.results.toList = [.tmp 2] := rfl
theorem gr173 : an.grow 173 = [] := rfl
theorem ab173 : an.apb 173 = [] := rfl
theorem rb173 : an.rowb 173 = [] := rfl
theorem rs173 : Try.f173.results.toList = [.tmp 2] := rfl
theorem gr174 : an.grow 174 = [] := rfl
theorem ab174 : an.apb 174 = [] := rfl
theorem rb174 : an.rowb 174 = [] := rfl
theorem rs174 : Try.f174.results.toList = [.tmp 4] := rfl
theorem gr175 : an.grow 175 = [] := rfl
theorem ab175 : an.apb 175 = [] := rfl
theorem rb175 : an.rowb 175 = [] := rfl
theorem rs175 : Try.f175.results.toList = [.tmp 2] := rfl
theorem gr177 : an.grow 177 = [] := rfl
theorem ab177 : an.apb 177 = [] := rfl
theorem rb177 : an.rowb 177 = [] := rfl
theorem rs177 : Try.f177.results.toList = [.cell 4 3, .cell 5 4] := rfl
theorem lp178_3 : an.loop 178 3 = some [3, 6, 7, 8] := rfl
theorem gr178 : an.grow 178 = [] := rfl
theorem ab178 : an.apb 178 = [] := rfl
theorem rb178 : an.rowb 178 = [] := rfl
theorem rs178 : Try.f178.results.toList = [.tmp 2] := rfl
theorem lp179_2 : an.loop 179 2 = some [0, 1, 9, 10, 11] := rfl
theorem gr179 : an.grow 179 = [] := rfl
theorem ab179 : an.apb 179 = [] := rfl
theorem rb179 : an.rowb 179 = [] := rfl
theorem rs179 : Try.f179.results.toList = [.tmp 4] := rfl
theorem gr180 : an.grow 180 = [] := rfl
theorem ab180 : an.apb 180 = [] := rfl
theorem rb180 : an.rowb 180 = [] := rfl
theorem rs180 : Try.f180.results.toList = [] := rfl
theorem gr181 : an.grow 181 = [] := rfl
theorem ab181 : an.apb 181 = [] := rfl
theorem rb181 : an.rowb 181 = [] := rfl
theorem rs181 : Try.f181.results.toList = [.tmp 4] := rfl
theorem lp182_2 : an.loop 182 2 = some [0, 1, 2, 3, 8, 9] := rfl
theorem gr182 : an.grow 182 = [] := rfl
theorem ab182 : an.apb 182 = [] := rfl
theorem rb182 : an.rowb 182 = [] := rfl
theorem rs182 : Try.f182.results.toList = [] := rfl
theorem ef182_17 : an.eff 182 17 = false := rfl
theorem gr183 : an.grow 183 = [] := rfl
theorem ab183 : an.apb 183 = [] := rfl
theorem rb183 : an.rowb 183 = [] := rfl
theorem rs183 : Try.f183.results.toList = [.tmp 2] := rfl
theorem gr184 : an.grow 184 = [] := rfl
theorem ab184 : an.apb 184 = [] := rfl
theorem rb184 : an.rowb 184 = [] := rfl
theorem rs184 : Try.f184.results.toList = [.tmp 4] := rfl
theorem gr185 : an.grow 185 = [] := rfl
theorem ab185 : an.apb 185 = [] := rfl
theorem rb185 : an.rowb 185 = [] := rfl
theorem rs185 : Try.f185.results.toList = [.tmp 2] := rfl
theorem gr186 : an.grow 186 = [] := rfl
theorem ab186 : an.apb 186 = [] := rfl
theorem rb186 : an.rowb 186 = [] := rfl
theorem rs186 : Try.f186.results.toList = [.tmp 4] := rfl
theorem gr191 : an.grow 191 = [] := rfl
theorem ab191 : an.apb 191 = [] := rfl
theorem rb191 : an.rowb 191 = [] := rfl
theorem rs191 : Try.f191.results.toList = [.tmp 6, .tmp 7] := rfl
theorem gr194 : an.grow 194 = [] := rfl
theorem ab194 : an.apb 194 = [] := rfl
theorem rb194 : an.rowb 194 = [] := rfl
theorem rs194 : Try.f194.results.toList = [.tmp 4] := rfl
theorem gr197 : an.grow 197 = [] := rfl
theorem ab197 : an.apb 197 = [] := rfl
theorem rb197 : an.rowb 197 = [] := rfl
theorem rs197 : Try.f197.results.toList = [.tmp 2] := rfl
theorem gr198 : an.grow 198 = [] := rfl
theorem ab198 : an.apb 198 = [] := rfl
theorem rb198 : an.rowb 198 = [] := rfl
theorem rs198 : Try.f198.results.toList = [.tmp 2] := rfl
theorem lp199_2 : an.loop 199 2 = some [1, 2, 10] := rfl
theorem gr199 : an.grow 199 = [] := rfl
theorem ab199 : an.apb 199 = [] := rfl
theorem rb199 : an.rowb 199 = [] := rfl
theorem rs199 : Try.f199.results.toList = [.tmp 6] := rfl
theorem gr200 : an.grow 200 = [] := rfl
theorem ab200 : an.apb 200 = [] := rfl
theorem rb200 : an.rowb 200 = [] := rfl
theorem rs200 : Try.f200.results.toList = [] := rfl
theorem gr201 : an.grow 201 = [] := rfl
theorem ab201 : an.apb 201 = [] := rfl
theorem rb201 : an.rowb 201 = [] := rfl
theorem rs201 : Try.f201.results.toList = [.tmp 2] := rfl
theorem gr202 : an.grow 202 = [] := rfl
theorem ab202 : an.apb 202 = [] := rfl
theorem rb202 : an.rowb 202 = [] := rfl
theorem rs202 : Try.f202.results.toList = [.tmp 2] := rfl
theorem gr204 : an.grow 204 = [] := rfl
theorem ab204 : an.apb 204 = [] := rfl
theorem rb204 : an.rowb 204 = [] := rfl
theorem rs204 : Try.f204.results.toList = [.tmp 2] := rfl
theorem gr205 : an.grow 205 = [] := rfl
theorem ab205 : an.apb 205 = [] := rfl
theorem rb205 : an.rowb 205 = [] := rfl
theorem rs205 : Try.f205.results.toList = [.tmp 2] := rfl
theorem ef205_1 : an.eff 205 1 = false := rfl
theorem ef205_2 : an.eff 205 2 = false := rfl
theorem ef205_3 : an.eff 205 3 = false := rfl
theorem gr206 : an.grow 206 = [] := rfl
theorem ab206 : an.apb 206 = [] := rfl
theorem rb206 : an.rowb 206 = [] := rfl
theorem rs206 : Try.f206.results.toList = [.tmp 6] := rfl
theorem gr207 : an.grow 207 = [] := rfl
theorem ab207 : an.apb 207 = [] := rfl
theorem rb207 : an.rowb 207 = [] := rfl
theorem rs207 : Try.f207.results.toList = [.tmp 10] := rfl
theorem gr208 : an.grow 208 = [] := rfl
theorem ab208 : an.apb 208 = [] := rfl
theorem rb208 : an.rowb 208 = [] := rfl
theorem rs208 : Try.f208.results.toList = [.tmp 2] := rfl
theorem lp209_1 : an.loop 209 1 = some [0, 1, 3] := rfl
theorem gr209 : an.grow 209 = [] := rfl
theorem ab209 : an.apb 209 = [] := rfl
theorem rb209 : an.rowb 209 = [] := rfl
theorem rs209 : Try.f209.results.toList = [] := rfl
theorem gr210 : an.grow 210 = [] := rfl
theorem ab210 : an.apb 210 = [] := rfl
theorem rb210 : an.rowb 210 = [] := rfl
theorem rs210 : Try.f210.results.toList = [.tmp 8, .tmp 9] := rfl
theorem ef210_1 : an.eff 210 1 = false := rfl
theorem gr229 : an.grow 229 = [] := rfl
theorem ab229 : an.apb 229 = [] := rfl
theorem rb229 : an.rowb 229 = [] := rfl
theorem rs229 : Try.f229.results.toList = [.tmp 2] := rfl
theorem gr230 : an.grow 230 = [] := rfl
theorem ab230 : an.apb 230 = [] := rfl
theorem rb230 : an.rowb 230 = [] := rfl
theorem rs230 : Try.f230.results.toList = [.tmp 2, .tmp 3, .tmp 4, .tmp 5] := rfl
theorem gr231 : an.grow 231 = [] := rfl
theorem ab231 : an.apb 231 = [] := rfl
theorem rb231 : an.rowb 231 = [] := rfl
theorem rs231 : Try.f231.results.toList = [.tmp 2] := rfl
theorem gr232 : an.grow 232 = [] := rfl
theorem ab232 : an.apb 232 = [] := rfl
theorem rb232 : an.rowb 232 = [] := rfl
theorem rs232 : Try.f232.results.toList = [.tmp 2, .tmp 3, .tmp 4, .tmp 5] := rfl
theorem ef232_1 : an.eff 232 1 = false := rfl
theorem gr233 : an.grow 233 = [] := rfl
theorem ab233 : an.apb 233 = [] := rfl
theorem rb233 : an.rowb 233 = [] := rfl
theorem rs233 : Try.f233.results.toList = [.tmp 2] := rfl
theorem ef233_3 : an.eff 233 3 = false := rfl
theorem ef233_5 : an.eff 233 5 = false := rfl
theorem ef233_7 : an.eff 233 7 = false := rfl
theorem ef233_9 : an.eff 233 9 = false := rfl
theorem ef233_11 : an.eff 233 11 = false := rfl
theorem ef233_12 : an.eff 233 12 = false := rfl
theorem gr234 : an.grow 234 = [] := rfl
theorem ab234 : an.apb 234 = [] := rfl
theorem rb234 : an.rowb 234 = [] := rfl
theorem rs234 : Try.f234.results.toList = [.tmp 2] := rfl
theorem gr235 : an.grow 235 = [] := rfl
theorem ab235 : an.apb 235 = [] := rfl
theorem rb235 : an.rowb 235 = [] := rfl
theorem rs235 : Try.f235.results.toList = [.tmp 2, .tmp 3, .tmp 4, .tmp 5] := rfl
theorem gr236 : an.grow 236 = [] := rfl
theorem ab236 : an.apb 236 = [] := rfl
theorem rb236 : an.rowb 236 = [] := rfl
theorem rs236 : Try.f236.results.toList = [.tmp 2] := rfl
theorem ef236_3 : an.eff 236 3 = false := rfl
end Go.Proofs.Ytcecleclipcheaa
