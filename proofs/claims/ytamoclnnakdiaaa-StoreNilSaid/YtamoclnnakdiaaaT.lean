/-
  Facts of this seat's types and functions, each reckoned by the kernel.
  Conditions: none.
-/
import Derived.Test.YtamoclnnakdiaaaA14
import Derived.Test.YtamoclnnakdiaaaChecked
import Derived.KernelRfl
namespace Go.Proofs.Ytamoclnnakdiaaa.Abs
open Go Go.RowKit
set_option linter.unusedVariables false
set_option maxRecDepth 20000

@[go_sem] theorem te_25 : te Go.Proofs.Try.prog 25 = some (46, 3) := by kernel_rfl
@[go_sem] theorem te_26 : te Go.Proofs.Try.prog 26 = some (50, 8) := by kernel_rfl
@[go_sem] theorem te_29 : te Go.Proofs.Try.prog 29 = some (24, 3) := by kernel_rfl
@[go_sem] theorem te_48 : te Go.Proofs.Try.prog 48 = some (9, 1) := by kernel_rfl
@[go_sem] theorem te_51 : te Go.Proofs.Try.prog 51 = some (118, 2) := by kernel_rfl
@[go_sem] theorem te_52 : te Go.Proofs.Try.prog 52 = some (28, 5) := by kernel_rfl
@[go_sem] theorem te_55 : te Go.Proofs.Try.prog 55 = some (68, 9) := by kernel_rfl
@[go_sem] theorem te_69 : te Go.Proofs.Try.prog 69 = some (29, 1) := by kernel_rfl
@[go_sem] theorem te_72 : te Go.Proofs.Try.prog 72 = some (75, 4) := by kernel_rfl
@[go_sem] theorem te_96 : te Go.Proofs.Try.prog 96 = some (101, 1) := by kernel_rfl
@[go_sem] theorem te_152 : te Go.Proofs.Try.prog 152 = some (3, 1) := by kernel_rfl
@[go_sem] theorem te_160 : te Go.Proofs.Try.prog 160 = some (22, 1) := by kernel_rfl
@[go_sem] theorem tc_3 : tc Go.Proofs.Try.prog 3 = some (false, 1) := by kernel_rfl
@[go_sem] theorem tc_4 : tc Go.Proofs.Try.prog 4 = some (false, 1) := by kernel_rfl
@[go_sem] theorem tc_9 : tc Go.Proofs.Try.prog 9 = some (false, 1) := by kernel_rfl
@[go_sem] theorem tc_22 : tc Go.Proofs.Try.prog 22 = some (false, 1) := by kernel_rfl
@[go_sem] theorem tc_24 : tc Go.Proofs.Try.prog 24 = some (true, 3) := by kernel_rfl
@[go_sem] theorem tc_25 : tc Go.Proofs.Try.prog 25 = some (false, 1) := by kernel_rfl
@[go_sem] theorem tc_26 : tc Go.Proofs.Try.prog 26 = some (false, 1) := by kernel_rfl
@[go_sem] theorem tc_28 : tc Go.Proofs.Try.prog 28 = some (true, 5) := by kernel_rfl
@[go_sem] theorem tc_29 : tc Go.Proofs.Try.prog 29 = some (false, 1) := by kernel_rfl
@[go_sem] theorem tc_31 : tc Go.Proofs.Try.prog 31 = some (false, 1) := by kernel_rfl
@[go_sem] theorem tc_46 : tc Go.Proofs.Try.prog 46 = some (true, 3) := by kernel_rfl
@[go_sem] theorem tc_47 : tc Go.Proofs.Try.prog 47 = some (false, 1) := by kernel_rfl
@[go_sem] theorem tc_48 : tc Go.Proofs.Try.prog 48 = some (false, 1) := by kernel_rfl
@[go_sem] theorem tc_50 : tc Go.Proofs.Try.prog 50 = some (true, 8) := by kernel_rfl
@[go_sem] theorem tc_51 : tc Go.Proofs.Try.prog 51 = some (false, 1) := by kernel_rfl
@[go_sem] theorem tc_52 : tc Go.Proofs.Try.prog 52 = some (false, 1) := by kernel_rfl
@[go_sem] theorem tc_54 : tc Go.Proofs.Try.prog 54 = some (true, 2) := by kernel_rfl
@[go_sem] theorem tc_57 : tc Go.Proofs.Try.prog 57 = some (false, 1) := by kernel_rfl
@[go_sem] theorem tc_60 : tc Go.Proofs.Try.prog 60 = some (false, 1) := by kernel_rfl
@[go_sem] theorem tc_63 : tc Go.Proofs.Try.prog 63 = some (false, 1) := by kernel_rfl
@[go_sem] theorem tc_66 : tc Go.Proofs.Try.prog 66 = some (false, 1) := by kernel_rfl
@[go_sem] theorem tc_68 : tc Go.Proofs.Try.prog 68 = some (true, 9) := by kernel_rfl
@[go_sem] theorem tc_69 : tc Go.Proofs.Try.prog 69 = some (false, 1) := by kernel_rfl
@[go_sem] theorem tc_96 : tc Go.Proofs.Try.prog 96 = some (false, 1) := by kernel_rfl
@[go_sem] theorem tc_101 : tc Go.Proofs.Try.prog 101 = some (false, 1) := by kernel_rfl
@[go_sem] theorem tc_118 : tc Go.Proofs.Try.prog 118 = some (true, 2) := by kernel_rfl
@[go_sem] theorem tc_139 : tc Go.Proofs.Try.prog 139 = some (false, 1) := by kernel_rfl
@[go_sem] theorem tc_154 : tc Go.Proofs.Try.prog 154 = some (false, 1) := by kernel_rfl
@[go_sem] theorem tc_159 : tc Go.Proofs.Try.prog 159 = some (false, 1) := by kernel_rfl
@[go_sem] theorem tf_24_0 : tf Go.Proofs.Try.prog 24 0 = some (0, false, 1) := by kernel_rfl
@[go_sem] theorem tf_24_1 : tf Go.Proofs.Try.prog 24 1 = some (1, false, 1) := by kernel_rfl
@[go_sem] theorem tf_24_2 : tf Go.Proofs.Try.prog 24 2 = some (2, false, 1) := by kernel_rfl
@[go_sem] theorem tf_28_0 : tf Go.Proofs.Try.prog 28 0 = some (0, false, 1) := by kernel_rfl
@[go_sem] theorem tf_28_1 : tf Go.Proofs.Try.prog 28 1 = some (1, false, 1) := by kernel_rfl
@[go_sem] theorem tf_28_2 : tf Go.Proofs.Try.prog 28 2 = some (2, false, 1) := by kernel_rfl
@[go_sem] theorem tf_28_3 : tf Go.Proofs.Try.prog 28 3 = some (3, false, 1) := by kernel_rfl
@[go_sem] theorem tf_28_4 : tf Go.Proofs.Try.prog 28 4 = some (4, false, 1) := by kernel_rfl
@[go_sem] theorem tf_46_0 : tf Go.Proofs.Try.prog 46 0 = some (0, false, 1) := by kernel_rfl
@[go_sem] theorem tf_46_1 : tf Go.Proofs.Try.prog 46 1 = some (1, false, 1) := by kernel_rfl
@[go_sem] theorem tf_46_2 : tf Go.Proofs.Try.prog 46 2 = some (2, false, 1) := by kernel_rfl
@[go_sem] theorem tf_50_0 : tf Go.Proofs.Try.prog 50 0 = some (0, false, 1) := by kernel_rfl
@[go_sem] theorem tf_50_1 : tf Go.Proofs.Try.prog 50 1 = some (1, false, 1) := by kernel_rfl
@[go_sem] theorem tf_50_2 : tf Go.Proofs.Try.prog 50 2 = some (2, false, 1) := by kernel_rfl
@[go_sem] theorem tf_50_3 : tf Go.Proofs.Try.prog 50 3 = some (3, false, 1) := by kernel_rfl
@[go_sem] theorem tf_50_4 : tf Go.Proofs.Try.prog 50 4 = some (4, false, 1) := by kernel_rfl
@[go_sem] theorem tf_50_5 : tf Go.Proofs.Try.prog 50 5 = some (5, false, 1) := by kernel_rfl
@[go_sem] theorem tf_50_6 : tf Go.Proofs.Try.prog 50 6 = some (6, false, 1) := by kernel_rfl
@[go_sem] theorem tf_50_7 : tf Go.Proofs.Try.prog 50 7 = some (7, false, 1) := by kernel_rfl
@[go_sem] theorem tf_54_0 : tf Go.Proofs.Try.prog 54 0 = some (0, false, 1) := by kernel_rfl
@[go_sem] theorem tf_54_1 : tf Go.Proofs.Try.prog 54 1 = some (1, false, 1) := by kernel_rfl
@[go_sem] theorem tf_59_0 : tf Go.Proofs.Try.prog 59 0 = some (0, false, 1) := by kernel_rfl
@[go_sem] theorem tf_59_1 : tf Go.Proofs.Try.prog 59 1 = some (1, false, 1) := by kernel_rfl
@[go_sem] theorem tf_62_2 : tf Go.Proofs.Try.prog 62 2 = some (2, true, 2) := by kernel_rfl
@[go_sem] theorem tf_62_3 : tf Go.Proofs.Try.prog 62 3 = some (4, true, 2) := by kernel_rfl
@[go_sem] theorem tf_62_4 : tf Go.Proofs.Try.prog 62 4 = some (6, false, 1) := by kernel_rfl
@[go_sem] theorem tf_68_0 : tf Go.Proofs.Try.prog 68 0 = some (0, false, 1) := by kernel_rfl
@[go_sem] theorem tf_68_2 : tf Go.Proofs.Try.prog 68 2 = some (2, false, 1) := by kernel_rfl
@[go_sem] theorem tf_68_3 : tf Go.Proofs.Try.prog 68 3 = some (3, false, 1) := by kernel_rfl
@[go_sem] theorem tf_68_4 : tf Go.Proofs.Try.prog 68 4 = some (4, false, 1) := by kernel_rfl
@[go_sem] theorem tf_68_5 : tf Go.Proofs.Try.prog 68 5 = some (5, false, 1) := by kernel_rfl
@[go_sem] theorem tf_68_6 : tf Go.Proofs.Try.prog 68 6 = some (6, true, 3) := by kernel_rfl
@[go_sem] theorem tf_75_0 : tf Go.Proofs.Try.prog 75 0 = some (0, false, 1) := by kernel_rfl
@[go_sem] theorem tf_75_1 : tf Go.Proofs.Try.prog 75 1 = some (1, false, 1) := by kernel_rfl
@[go_sem] theorem tf_75_3 : tf Go.Proofs.Try.prog 75 3 = some (3, false, 1) := by kernel_rfl
@[go_sem] theorem tf_98_0 : tf Go.Proofs.Try.prog 98 0 = some (0, false, 1) := by kernel_rfl
@[go_sem] theorem tf_103_0 : tf Go.Proofs.Try.prog 103 0 = some (0, true, 5) := by kernel_rfl
@[go_sem] theorem tf_103_1 : tf Go.Proofs.Try.prog 103 1 = some (5, false, 1) := by kernel_rfl
@[go_sem] theorem tf_118_0 : tf Go.Proofs.Try.prog 118 0 = some (0, false, 1) := by kernel_rfl
@[go_sem] theorem tf_118_1 : tf Go.Proofs.Try.prog 118 1 = some (1, false, 1) := by kernel_rfl
@[go_sem] theorem tap_25 : tap Go.Proofs.Try.prog 25 = some (46, 3, 32) := by kernel_rfl
@[go_sem] theorem tap_26 : tap Go.Proofs.Try.prog 26 = some (50, 8, 112) := by kernel_rfl
@[go_sem] theorem tap_29 : tap Go.Proofs.Try.prog 29 = some (24, 3, 32) := by kernel_rfl
@[go_sem] theorem tap_48 : tap Go.Proofs.Try.prog 48 = some (9, 1, 16) := by kernel_rfl
@[go_sem] theorem tap_69 : tap Go.Proofs.Try.prog 69 = some (29, 1, 24) := by kernel_rfl
@[go_sem] theorem tap_72 : tap Go.Proofs.Try.prog 72 = some (75, 4, 80) := by kernel_rfl
@[go_sem] theorem tap_96 : tap Go.Proofs.Try.prog 96 = some (101, 1, 8) := by kernel_rfl
@[go_sem] theorem tap_160 : tap Go.Proofs.Try.prog 160 = some (22, 1, 8) := by kernel_rfl
@[go_sem] theorem tb_24 : tb Go.Proofs.Try.prog 24 = some ([(.int .i64 0), (.int .i64 0), (.str [])], [(0, 1), (1, 1), (2, 1)]) := by kernel_rfl
@[go_sem] theorem tb_28 : tb Go.Proofs.Try.prog 28 = some ([(.str []), (.str []), (.str []), .nils, .nils], [(0, 1), (1, 1), (2, 1), (3, 1), (4, 1)]) := by kernel_rfl
@[go_sem] theorem tb_46 : tb Go.Proofs.Try.prog 46 = some ([(.str []), (.int .i64 0), (.bool false)], [(0, 1), (1, 1), (2, 1)]) := by kernel_rfl
@[go_sem] theorem tb_50 : tb Go.Proofs.Try.prog 50 = some ([(.str []), (.int .i64 0), .nils, (.int .i64 0), (.int .i64 0), (.str []), (.str []), (.str [])], [(0, 1), (1, 1), (2, 1), (3, 1), (4, 1), (5, 1), (6, 1), (7, 1)]) := by kernel_rfl
@[go_sem] theorem tb_54 : tb Go.Proofs.Try.prog 54 = some ([.nils, .nils], [(0, 1), (1, 1)]) := by kernel_rfl
@[go_sem] theorem tb_62 : tb Go.Proofs.Try.prog 62 = some ([(.int .i64 0), (.int .i64 0), .nils, .nils, .nils, .nils, .nils], [(0, 1), (1, 1), (2, 2), (4, 2), (6, 1)]) := by kernel_rfl
@[go_sem] theorem tb_68 : tb Go.Proofs.Try.prog 68 = some ([(.int .i64 0), (.str []), (.str []), (.str []), .nils, (.str []), (.int .i64 0), (.int .i64 0), (.str [])], [(0, 1), (1, 1), (2, 1), (3, 1), (4, 1), (5, 1), (6, 3)]) := by kernel_rfl
@[go_sem] theorem tb_75 : tb Go.Proofs.Try.prog 75 = some ([(.str []), (.str []), .nils, .nils], [(0, 1), (1, 1), (2, 1), (3, 1)]) := by kernel_rfl
@[go_sem] theorem tb_98 : tb Go.Proofs.Try.prog 98 = some ([.nils], [(0, 1)]) := by kernel_rfl
@[go_sem] theorem tb_103 : tb Go.Proofs.Try.prog 103 = some ([(.str []), (.str []), (.str []), .nils, .nils, .nils], [(0, 5), (5, 1)]) := by kernel_rfl
@[go_sem] theorem tb_118 : tb Go.Proofs.Try.prog 118 = some ([(.str []), (.str [])], [(0, 1), (1, 1)]) := by kernel_rfl
@[go_sem] theorem tq_24 : tq Go.Proofs.Try.prog 24 = some [.int, .int, .str] := by kernel_rfl
@[go_sem] theorem tptr_63 : tptr Go.Proofs.Try.prog 63 = true := by kernel_rfl
@[go_sem] theorem tptr_101 : tptr Go.Proofs.Try.prog 101 = true := by kernel_rfl
@[go_sem] theorem zeroV_3 : zeroV Go.Proofs.Try.prog 3 = some (.int .i64 0) := by kernel_rfl
@[go_sem] theorem zeroV_4 : zeroV Go.Proofs.Try.prog 4 = some (.bool false) := by kernel_rfl
@[go_sem] theorem zeroV_9 : zeroV Go.Proofs.Try.prog 9 = some (.str []) := by kernel_rfl
@[go_sem] theorem zeroV_22 : zeroV Go.Proofs.Try.prog 22 = some (.int .i64 0) := by kernel_rfl
@[go_sem] theorem zeroV_24 : zeroV Go.Proofs.Try.prog 24 = some (.agg [(.int .i64 0), (.int .i64 0), (.str [])]) := by kernel_rfl
@[go_sem] theorem zeroV_28 : zeroV Go.Proofs.Try.prog 28 = some (.agg [(.str []), (.str []), (.str []), .nils, .nils]) := by kernel_rfl
@[go_sem] theorem zeroV_29 : zeroV Go.Proofs.Try.prog 29 = some .nils := by kernel_rfl
@[go_sem] theorem zeroV_31 : zeroV Go.Proofs.Try.prog 31 = some (.int .i64 0) := by kernel_rfl
@[go_sem] theorem zeroV_46 : zeroV Go.Proofs.Try.prog 46 = some (.agg [(.str []), (.int .i64 0), (.bool false)]) := by kernel_rfl
@[go_sem] theorem zeroV_48 : zeroV Go.Proofs.Try.prog 48 = some .nils := by kernel_rfl
@[go_sem] theorem zeroV_50 : zeroV Go.Proofs.Try.prog 50 = some (.agg [(.str []), (.int .i64 0), .nils, (.int .i64 0), (.int .i64 0), (.str []), (.str []), (.str [])]) := by kernel_rfl
@[go_sem] theorem zeroV_54 : zeroV Go.Proofs.Try.prog 54 = some (.agg [.nils, .nils]) := by kernel_rfl
@[go_sem] theorem zeroV_68 : zeroV Go.Proofs.Try.prog 68 = some (.agg [(.int .i64 0), (.str []), (.str []), (.str []), .nils, (.str []), (.int .i64 0), (.int .i64 0), (.str [])]) := by kernel_rfl
@[go_sem] theorem zeroV_69 : zeroV Go.Proofs.Try.prog 69 = some .nils := by kernel_rfl
@[go_sem] theorem zeroV_75 : zeroV Go.Proofs.Try.prog 75 = some (.agg [(.str []), (.str []), .nils, .nils]) := by kernel_rfl
@[go_sem] theorem zeroV_101 : zeroV Go.Proofs.Try.prog 101 = some .nilp := by kernel_rfl
@[go_sem] theorem zeroV_118 : zeroV Go.Proofs.Try.prog 118 = some (.agg [(.str []), (.str [])]) := by kernel_rfl
@[go_sem] theorem u_3 : Go.Proofs.Try.prog.underlying 3 = some (.int .i64) := by kernel_rfl
@[go_sem] theorem u_4 : Go.Proofs.Try.prog.underlying 4 = some .bool := by kernel_rfl
@[go_sem] theorem u_5 : Go.Proofs.Try.prog.underlying 5 = some (.int .u8) := by kernel_rfl
@[go_sem] theorem u_9 : Go.Proofs.Try.prog.underlying 9 = some .string := by kernel_rfl
@[go_sem] theorem u_22 : Go.Proofs.Try.prog.underlying 22 = some (.int .i64) := by kernel_rfl
@[go_sem] theorem u_25 : Go.Proofs.Try.prog.underlying 25 = some (.slice 46) := by kernel_rfl
@[go_sem] theorem u_26 : Go.Proofs.Try.prog.underlying 26 = some (.slice 50) := by kernel_rfl
@[go_sem] theorem u_29 : Go.Proofs.Try.prog.underlying 29 = some (.slice 24) := by kernel_rfl
@[go_sem] theorem u_31 : Go.Proofs.Try.prog.underlying 31 = some (.int .i64) := by kernel_rfl
@[go_sem] theorem u_47 : Go.Proofs.Try.prog.underlying 47 = some (.int .i64) := by kernel_rfl
@[go_sem] theorem u_48 : Go.Proofs.Try.prog.underlying 48 = some (.slice 9) := by kernel_rfl
@[go_sem] theorem u_51 : Go.Proofs.Try.prog.underlying 51 = some (.slice 118) := by kernel_rfl
@[go_sem] theorem u_52 : Go.Proofs.Try.prog.underlying 52 = some (.slice 28) := by kernel_rfl
@[go_sem] theorem u_55 : Go.Proofs.Try.prog.underlying 55 = some (.slice 68) := by kernel_rfl
@[go_sem] theorem u_57 : Go.Proofs.Try.prog.underlying 57 = some (.slice 183) := by kernel_rfl
@[go_sem] theorem u_60 : Go.Proofs.Try.prog.underlying 60 = some (.slice 186) := by kernel_rfl
@[go_sem] theorem u_63 : Go.Proofs.Try.prog.underlying 63 = some (.pointer 98) := by kernel_rfl
@[go_sem] theorem u_66 : Go.Proofs.Try.prog.underlying 66 = some (.int .i64) := by kernel_rfl
@[go_sem] theorem u_69 : Go.Proofs.Try.prog.underlying 69 = some (.slice 29) := by kernel_rfl
@[go_sem] theorem u_72 : Go.Proofs.Try.prog.underlying 72 = some (.slice 75) := by kernel_rfl
@[go_sem] theorem u_96 : Go.Proofs.Try.prog.underlying 96 = some (.slice 101) := by kernel_rfl
@[go_sem] theorem u_101 : Go.Proofs.Try.prog.underlying 101 = some (.pointer 103) := by kernel_rfl
@[go_sem] theorem u_152 : Go.Proofs.Try.prog.underlying 152 = some (.slice 3) := by kernel_rfl
@[go_sem] theorem u_160 : Go.Proofs.Try.prog.underlying 160 = some (.slice 22) := by kernel_rfl
theorem co_3 : Go.Proofs.Try.prog.cellsOf 3 = 1 := by kernel_rfl
theorem un_3 : Go.Proofs.Try.prog.underlying 3 = some (.int .i64) := by kernel_rfl
theorem co_4 : Go.Proofs.Try.prog.cellsOf 4 = 1 := by kernel_rfl
theorem un_4 : Go.Proofs.Try.prog.underlying 4 = some .bool := by kernel_rfl
theorem co_9 : Go.Proofs.Try.prog.cellsOf 9 = 1 := by kernel_rfl
theorem un_9 : Go.Proofs.Try.prog.underlying 9 = some .string := by kernel_rfl
theorem co_22 : Go.Proofs.Try.prog.cellsOf 22 = 1 := by kernel_rfl
theorem un_22 : Go.Proofs.Try.prog.underlying 22 = some (.int .i64) := by kernel_rfl
theorem co_24 : Go.Proofs.Try.prog.cellsOf 24 = 3 := by kernel_rfl
theorem fo_24 : fieldsOf Go.Proofs.Try.prog 24 = some [(22, 0), (3, 1), (9, 2)] := by kernel_rfl
theorem co_25 : Go.Proofs.Try.prog.cellsOf 25 = 1 := by kernel_rfl
theorem un_25 : Go.Proofs.Try.prog.underlying 25 = some (.slice 46) := by kernel_rfl
theorem by_25 : Go.Proofs.Try.prog.bytesOf 46 = 32 := by kernel_rfl
theorem co_26 : Go.Proofs.Try.prog.cellsOf 26 = 1 := by kernel_rfl
theorem un_26 : Go.Proofs.Try.prog.underlying 26 = some (.slice 50) := by kernel_rfl
theorem by_26 : Go.Proofs.Try.prog.bytesOf 50 = 112 := by kernel_rfl
theorem co_28 : Go.Proofs.Try.prog.cellsOf 28 = 5 := by kernel_rfl
theorem fo_28 : fieldsOf Go.Proofs.Try.prog 28 = some [(9, 0), (9, 1), (9, 2), (25, 3), (26, 4)] := by kernel_rfl
theorem co_29 : Go.Proofs.Try.prog.cellsOf 29 = 1 := by kernel_rfl
theorem un_29 : Go.Proofs.Try.prog.underlying 29 = some (.slice 24) := by kernel_rfl
theorem by_29 : Go.Proofs.Try.prog.bytesOf 24 = 32 := by kernel_rfl
theorem co_46 : Go.Proofs.Try.prog.cellsOf 46 = 3 := by kernel_rfl
theorem fo_46 : fieldsOf Go.Proofs.Try.prog 46 = some [(9, 0), (22, 1), (4, 2)] := by kernel_rfl
theorem co_47 : Go.Proofs.Try.prog.cellsOf 47 = 1 := by kernel_rfl
theorem un_47 : Go.Proofs.Try.prog.underlying 47 = some (.int .i64) := by kernel_rfl
theorem co_48 : Go.Proofs.Try.prog.cellsOf 48 = 1 := by kernel_rfl
theorem un_48 : Go.Proofs.Try.prog.underlying 48 = some (.slice 9) := by kernel_rfl
theorem by_48 : Go.Proofs.Try.prog.bytesOf 9 = 16 := by kernel_rfl
theorem co_50 : Go.Proofs.Try.prog.cellsOf 50 = 8 := by kernel_rfl
theorem fo_50 : fieldsOf Go.Proofs.Try.prog 50 = some [(9, 0), (47, 1), (48, 2), (3, 3), (3, 4), (9, 5), (9, 6), (9, 7)] := by kernel_rfl
theorem co_51 : Go.Proofs.Try.prog.cellsOf 51 = 1 := by kernel_rfl
theorem un_51 : Go.Proofs.Try.prog.underlying 51 = some (.slice 118) := by kernel_rfl
theorem by_51 : Go.Proofs.Try.prog.bytesOf 118 = 32 := by kernel_rfl
theorem co_52 : Go.Proofs.Try.prog.cellsOf 52 = 1 := by kernel_rfl
theorem un_52 : Go.Proofs.Try.prog.underlying 52 = some (.slice 28) := by kernel_rfl
theorem by_52 : Go.Proofs.Try.prog.bytesOf 28 = 96 := by kernel_rfl
theorem co_54 : Go.Proofs.Try.prog.cellsOf 54 = 2 := by kernel_rfl
theorem fo_54 : fieldsOf Go.Proofs.Try.prog 54 = some [(51, 0), (52, 1)] := by kernel_rfl
theorem co_55 : Go.Proofs.Try.prog.cellsOf 55 = 1 := by kernel_rfl
theorem un_55 : Go.Proofs.Try.prog.underlying 55 = some (.slice 68) := by kernel_rfl
theorem by_55 : Go.Proofs.Try.prog.bytesOf 68 = 128 := by kernel_rfl
theorem co_66 : Go.Proofs.Try.prog.cellsOf 66 = 1 := by kernel_rfl
theorem un_66 : Go.Proofs.Try.prog.underlying 66 = some (.int .i64) := by kernel_rfl
theorem co_68 : Go.Proofs.Try.prog.cellsOf 68 = 9 := by kernel_rfl
theorem fo_68 : fieldsOf Go.Proofs.Try.prog 68 = some [(66, 0), (9, 1), (9, 2), (9, 3), (29, 4), (9, 5), (24, 6)] := by kernel_rfl
theorem co_118 : Go.Proofs.Try.prog.cellsOf 118 = 2 := by kernel_rfl
theorem fo_118 : fieldsOf Go.Proofs.Try.prog 118 = some [(9, 0), (9, 1)] := by kernel_rfl
theorem hb_2 : hb Go.Proofs.Try.prog 2 = true := by kernel_rfl
theorem hb_3 : hb Go.Proofs.Try.prog 3 = true := by kernel_rfl
theorem hb_4 : hb Go.Proofs.Try.prog 4 = true := by kernel_rfl
theorem hb_5 : hb Go.Proofs.Try.prog 5 = true := by kernel_rfl
theorem hb_6 : hb Go.Proofs.Try.prog 6 = true := by kernel_rfl
theorem hb_7 : hb Go.Proofs.Try.prog 7 = true := by kernel_rfl
theorem hb_8 : hb Go.Proofs.Try.prog 8 = true := by kernel_rfl
theorem hb_9 : hb Go.Proofs.Try.prog 9 = true := by kernel_rfl
theorem hb_10 : hb Go.Proofs.Try.prog 10 = true := by kernel_rfl
theorem hb_11 : hb Go.Proofs.Try.prog 11 = true := by kernel_rfl
theorem hb_12 : hb Go.Proofs.Try.prog 12 = true := by kernel_rfl
theorem hb_13 : hb Go.Proofs.Try.prog 13 = true := by kernel_rfl
theorem hb_14 : hb Go.Proofs.Try.prog 14 = true := by kernel_rfl
theorem hb_15 : hb Go.Proofs.Try.prog 15 = true := by kernel_rfl
theorem hb_16 : hb Go.Proofs.Try.prog 16 = true := by kernel_rfl
theorem hb_17 : hb Go.Proofs.Try.prog 17 = true := by kernel_rfl
theorem hb_18 : hb Go.Proofs.Try.prog 18 = true := by kernel_rfl
theorem hb_19 : hb Go.Proofs.Try.prog 19 = true := by kernel_rfl
theorem hb_20 : hb Go.Proofs.Try.prog 20 = true := by kernel_rfl
theorem hb_21 : hb Go.Proofs.Try.prog 21 = true := by kernel_rfl
theorem hb_22 : hb Go.Proofs.Try.prog 22 = true := by kernel_rfl
theorem hb_23 : hb Go.Proofs.Try.prog 23 = true := by kernel_rfl
theorem hb_24 : hb Go.Proofs.Try.prog 24 = true := by kernel_rfl
theorem hb_25 : hb Go.Proofs.Try.prog 25 = true := by kernel_rfl
theorem hb_26 : hb Go.Proofs.Try.prog 26 = true := by kernel_rfl
theorem hb_27 : hb Go.Proofs.Try.prog 27 = true := by kernel_rfl
theorem hb_28 : hb Go.Proofs.Try.prog 28 = true := by kernel_rfl
theorem hb_29 : hb Go.Proofs.Try.prog 29 = true := by kernel_rfl
theorem hb_30 : hb Go.Proofs.Try.prog 30 = true := by kernel_rfl
theorem hb_31 : hb Go.Proofs.Try.prog 31 = true := by kernel_rfl
theorem hb_32 : hb Go.Proofs.Try.prog 32 = true := by kernel_rfl
theorem hb_33 : hb Go.Proofs.Try.prog 33 = true := by kernel_rfl
theorem hb_34 : hb Go.Proofs.Try.prog 34 = true := by kernel_rfl
theorem hb_35 : hb Go.Proofs.Try.prog 35 = true := by kernel_rfl
theorem hb_36 : hb Go.Proofs.Try.prog 36 = true := by kernel_rfl
theorem hb_37 : hb Go.Proofs.Try.prog 37 = true := by kernel_rfl
theorem hb_38 : hb Go.Proofs.Try.prog 38 = true := by kernel_rfl
theorem hb_39 : hb Go.Proofs.Try.prog 39 = true := by kernel_rfl
theorem hb_40 : hb Go.Proofs.Try.prog 40 = true := by kernel_rfl
theorem hb_41 : hb Go.Proofs.Try.prog 41 = true := by kernel_rfl
theorem hb_42 : hb Go.Proofs.Try.prog 42 = true := by kernel_rfl
theorem hb_43 : hb Go.Proofs.Try.prog 43 = true := by kernel_rfl
theorem hb_44 : hb Go.Proofs.Try.prog 44 = true := by kernel_rfl
theorem hb_45 : hb Go.Proofs.Try.prog 45 = true := by kernel_rfl
theorem hb_46 : hb Go.Proofs.Try.prog 46 = true := by kernel_rfl
theorem hb_47 : hb Go.Proofs.Try.prog 47 = true := by kernel_rfl
theorem hb_48 : hb Go.Proofs.Try.prog 48 = true := by kernel_rfl
theorem hb_49 : hb Go.Proofs.Try.prog 49 = true := by kernel_rfl
theorem hb_50 : hb Go.Proofs.Try.prog 50 = true := by kernel_rfl
theorem hb_51 : hb Go.Proofs.Try.prog 51 = true := by kernel_rfl
theorem hb_52 : hb Go.Proofs.Try.prog 52 = true := by kernel_rfl
theorem hb_53 : hb Go.Proofs.Try.prog 53 = true := by kernel_rfl
theorem hb_54 : hb Go.Proofs.Try.prog 54 = true := by kernel_rfl
theorem hb_55 : hb Go.Proofs.Try.prog 55 = true := by kernel_rfl
theorem hb_56 : hb Go.Proofs.Try.prog 56 = true := by kernel_rfl
theorem hb_57 : hb Go.Proofs.Try.prog 57 = true := by kernel_rfl
theorem hb_58 : hb Go.Proofs.Try.prog 58 = true := by kernel_rfl
theorem hb_59 : hb Go.Proofs.Try.prog 59 = true := by kernel_rfl
theorem hb_60 : hb Go.Proofs.Try.prog 60 = true := by kernel_rfl
theorem hb_61 : hb Go.Proofs.Try.prog 61 = true := by kernel_rfl
theorem hb_62 : hb Go.Proofs.Try.prog 62 = true := by kernel_rfl
theorem hb_63 : hb Go.Proofs.Try.prog 63 = true := by kernel_rfl
theorem hb_64 : hb Go.Proofs.Try.prog 64 = true := by kernel_rfl
theorem hb_65 : hb Go.Proofs.Try.prog 65 = true := by kernel_rfl
theorem hb_66 : hb Go.Proofs.Try.prog 66 = true := by kernel_rfl
theorem hb_67 : hb Go.Proofs.Try.prog 67 = true := by kernel_rfl
theorem hb_68 : hb Go.Proofs.Try.prog 68 = true := by kernel_rfl
theorem hb_69 : hb Go.Proofs.Try.prog 69 = true := by kernel_rfl
theorem hb_70 : hb Go.Proofs.Try.prog 70 = true := by kernel_rfl
theorem hb_71 : hb Go.Proofs.Try.prog 71 = true := by kernel_rfl
theorem hb_72 : hb Go.Proofs.Try.prog 72 = true := by kernel_rfl
theorem hb_73 : hb Go.Proofs.Try.prog 73 = true := by kernel_rfl
theorem hb_74 : hb Go.Proofs.Try.prog 74 = true := by kernel_rfl
theorem hb_75 : hb Go.Proofs.Try.prog 75 = true := by kernel_rfl
theorem hb_76 : hb Go.Proofs.Try.prog 76 = true := by kernel_rfl
theorem hb_77 : hb Go.Proofs.Try.prog 77 = true := by kernel_rfl
theorem hb_78 : hb Go.Proofs.Try.prog 78 = true := by kernel_rfl
theorem hb_79 : hb Go.Proofs.Try.prog 79 = true := by kernel_rfl
theorem hb_80 : hb Go.Proofs.Try.prog 80 = true := by kernel_rfl
theorem hb_81 : hb Go.Proofs.Try.prog 81 = true := by kernel_rfl
theorem hb_82 : hb Go.Proofs.Try.prog 82 = true := by kernel_rfl
theorem hb_83 : hb Go.Proofs.Try.prog 83 = true := by kernel_rfl
theorem hb_84 : hb Go.Proofs.Try.prog 84 = true := by kernel_rfl
theorem hb_85 : hb Go.Proofs.Try.prog 85 = true := by kernel_rfl
theorem hb_86 : hb Go.Proofs.Try.prog 86 = true := by kernel_rfl
theorem hb_87 : hb Go.Proofs.Try.prog 87 = true := by kernel_rfl
theorem hb_88 : hb Go.Proofs.Try.prog 88 = true := by kernel_rfl
theorem hb_89 : hb Go.Proofs.Try.prog 89 = true := by kernel_rfl
theorem hb_90 : hb Go.Proofs.Try.prog 90 = true := by kernel_rfl
theorem hb_91 : hb Go.Proofs.Try.prog 91 = true := by kernel_rfl
theorem hb_92 : hb Go.Proofs.Try.prog 92 = true := by kernel_rfl
theorem hb_93 : hb Go.Proofs.Try.prog 93 = true := by kernel_rfl
theorem hb_94 : hb Go.Proofs.Try.prog 94 = true := by kernel_rfl
theorem hb_95 : hb Go.Proofs.Try.prog 95 = true := by kernel_rfl
theorem hb_96 : hb Go.Proofs.Try.prog 96 = true := by kernel_rfl
theorem hb_97 : hb Go.Proofs.Try.prog 97 = true := by kernel_rfl
theorem hb_98 : hb Go.Proofs.Try.prog 98 = true := by kernel_rfl
theorem hb_99 : hb Go.Proofs.Try.prog 99 = true := by kernel_rfl
theorem hb_100 : hb Go.Proofs.Try.prog 100 = true := by kernel_rfl
theorem hb_101 : hb Go.Proofs.Try.prog 101 = true := by kernel_rfl
theorem hb_102 : hb Go.Proofs.Try.prog 102 = true := by kernel_rfl
theorem hb_103 : hb Go.Proofs.Try.prog 103 = true := by kernel_rfl
theorem hb_104 : hb Go.Proofs.Try.prog 104 = true := by kernel_rfl
theorem hb_105 : hb Go.Proofs.Try.prog 105 = true := by kernel_rfl
theorem hb_106 : hb Go.Proofs.Try.prog 106 = true := by kernel_rfl
theorem hb_107 : hb Go.Proofs.Try.prog 107 = true := by kernel_rfl
theorem hb_108 : hb Go.Proofs.Try.prog 108 = true := by kernel_rfl
theorem hb_109 : hb Go.Proofs.Try.prog 109 = true := by kernel_rfl
theorem hb_110 : hb Go.Proofs.Try.prog 110 = true := by kernel_rfl
theorem hb_112 : hb Go.Proofs.Try.prog 112 = true := by kernel_rfl
theorem hb_113 : hb Go.Proofs.Try.prog 113 = true := by kernel_rfl
theorem hb_114 : hb Go.Proofs.Try.prog 114 = true := by kernel_rfl
theorem hb_115 : hb Go.Proofs.Try.prog 115 = true := by kernel_rfl
theorem hb_116 : hb Go.Proofs.Try.prog 116 = true := by kernel_rfl
theorem hb_117 : hb Go.Proofs.Try.prog 117 = true := by kernel_rfl
theorem hb_118 : hb Go.Proofs.Try.prog 118 = true := by kernel_rfl
theorem hb_119 : hb Go.Proofs.Try.prog 119 = true := by kernel_rfl
theorem hb_120 : hb Go.Proofs.Try.prog 120 = true := by kernel_rfl
theorem hb_121 : hb Go.Proofs.Try.prog 121 = true := by kernel_rfl
theorem hb_122 : hb Go.Proofs.Try.prog 122 = true := by kernel_rfl
theorem hb_123 : hb Go.Proofs.Try.prog 123 = true := by kernel_rfl
theorem hb_124 : hb Go.Proofs.Try.prog 124 = true := by kernel_rfl
theorem hb_125 : hb Go.Proofs.Try.prog 125 = true := by kernel_rfl
theorem hb_126 : hb Go.Proofs.Try.prog 126 = true := by kernel_rfl
theorem hb_128 : hb Go.Proofs.Try.prog 128 = true := by kernel_rfl
theorem hb_129 : hb Go.Proofs.Try.prog 129 = true := by kernel_rfl
theorem hb_130 : hb Go.Proofs.Try.prog 130 = true := by kernel_rfl
@[go_sem] theorem resT_2 (T : List AV) (H : List AObj) : resT Go.Proofs.Try.prog Go.Proofs.Try.f2 T H = resS Go.Proofs.Try.prog T H [] := id rfl
theorem args0_2 : args0 Go.Proofs.Try.f2 [] = [.junk] := rfl
@[go_sem] theorem resT_3 (T : List AV) (H : List AObj) : resT Go.Proofs.Try.prog Go.Proofs.Try.f3 T H = resS Go.Proofs.Try.prog T H [.tmp 8] := id rfl
theorem args0_3 (a0 a1 a2 a3 : AV) : args0 Go.Proofs.Try.f3 [a0, a1, a2, a3] = [a0, a1, a2, a3, .junk, .junk, .junk, .junk, .junk, .junk, .junk, .junk, .junk, .junk, .junk, .junk, .junk, .junk, .junk, .junk, .junk, .junk, .junk, .junk, .junk, .junk, .junk, .junk, .junk, .junk, .junk, .junk, .junk, .junk, .junk, .junk, .junk, .junk, .junk, .junk, .junk, .junk, .junk, .junk, .junk, .junk, .junk, .junk, .junk, .junk, .junk, .junk, .junk, .junk, .junk, .junk, .junk] := rfl
@[go_sem] theorem resT_4 (T : List AV) (H : List AObj) : resT Go.Proofs.Try.prog Go.Proofs.Try.f4 T H = resS Go.Proofs.Try.prog T H [.tmp 6] := id rfl
theorem args0_4 (a0 a1 a2 : AV) : args0 Go.Proofs.Try.f4 [a0, a1, a2] = [a0, a1, a2, .junk, .junk, .junk, .junk, .junk, .junk, .junk, .junk, .junk, .junk, .junk, .junk, .junk, .junk, .junk, .junk, .junk, .junk, .junk, .junk, .junk, .junk, .junk, .junk, .junk, .junk, .junk, .junk, .junk, .junk, .junk, .junk, .junk, .junk, .junk, .junk, .junk, .junk, .junk, .junk, .junk, .junk, .junk, .junk, .junk, .junk, .junk, .junk, .junk, .junk, .junk, .junk, .junk, .junk, .junk, .junk, .junk, .junk, .junk, .junk, .junk, .junk, .junk, .junk, .junk, .junk, .junk, .junk] := rfl
@[go_sem] theorem resT_5 (T : List AV) (H : List AObj) : resT Go.Proofs.Try.prog Go.Proofs.Try.f5 T H = resS Go.Proofs.Try.prog T H [.tmp 4] := id rfl
theorem args0_5 (a0 a1 : AV) : args0 Go.Proofs.Try.f5 [a0, a1] = [a0, a1, .junk, .junk, .junk, .junk, .junk, .junk, .junk, .junk, .junk, .junk, .junk, .junk, .junk, .junk, .junk, .junk] := rfl
@[go_sem] theorem resT_6 (T : List AV) (H : List AObj) : resT Go.Proofs.Try.prog Go.Proofs.Try.f6 T H = resS Go.Proofs.Try.prog T H [.tmp 6] := id rfl
theorem args0_6 (a0 a1 a2 : AV) : args0 Go.Proofs.Try.f6 [a0, a1, a2] = [a0, a1, a2, .junk, .junk, .junk, .junk, .junk, .junk, .junk, .junk, .junk, .junk, .junk, .junk, .junk, .junk, .junk, .junk, .junk, .junk, .junk, .junk, .junk, .junk, .junk, .junk, .junk, .junk, .junk, .junk, .junk, .junk, .junk, .junk, .junk, .junk, .junk, .junk, .junk, .junk, .junk, .junk, .junk, .junk, .junk, .junk, .junk, .junk, .junk, .junk, .junk, .junk, .junk, .junk, .junk, .junk, .junk, .junk, .junk, .junk, .junk, .junk, .junk, .junk, .junk, .junk, .junk, .junk, .junk] := rfl
@[go_sem] theorem resT_7 (T : List AV) (H : List AObj) : resT Go.Proofs.Try.prog Go.Proofs.Try.f7 T H = resS Go.Proofs.Try.prog T H [.tmp 6] := id rfl
theorem args0_7 (a0 a1 a2 : AV) : args0 Go.Proofs.Try.f7 [a0, a1, a2] = [a0, a1, a2, .junk, .junk, .junk, .junk, .junk, .junk, .junk, .junk, .junk, .junk, .junk, .junk, .junk, .junk, .junk, .junk, .junk, .junk, .junk, .junk, .junk, .junk, .junk, .junk, .junk, .junk, .junk, .junk, .junk, .junk, .junk, .junk, .junk, .junk, .junk, .junk, .junk, .junk, .junk, .junk, .junk, .junk, .junk, .junk, .junk, .junk, .junk, .junk, .junk, .junk, .junk, .junk, .junk, .junk, .junk, .junk, .junk, .junk, .junk, .junk, .junk, .junk, .junk, .junk, .junk, .junk, .junk, .junk, .junk, .junk, .junk] := rfl
@[go_sem] theorem resT_8 (T : List AV) (H : List AObj) : resT Go.Proofs.Try.prog Go.Proofs.Try.f8 T H = resS Go.Proofs.Try.prog T H [.tmp 4] := id rfl
theorem args0_8 (a0 a1 : AV) : args0 Go.Proofs.Try.f8 [a0, a1] = [a0, a1, .junk, .junk, .junk, .junk, .junk, .junk, .junk, .junk, .junk, .junk, .junk, .junk, .junk, .junk, .junk, .junk, .junk, .junk, .junk, .junk, .junk, .junk, .junk, .junk, .junk, .junk, .junk, .junk, .junk, .junk, .junk, .junk, .junk, .junk, .junk, .junk, .junk, .junk, .junk, .junk, .junk, .junk, .junk, .junk, .junk, .junk, .junk, .junk, .junk, .junk, .junk, .junk, .junk, .junk, .junk, .junk, .junk, .junk, .junk, .junk, .junk, .junk, .junk, .junk, .junk, .junk, .junk, .junk, .junk, .junk, .junk, .junk, .junk, .junk, .junk, .junk, .junk, .junk, .junk, .junk, .junk, .junk, .junk, .junk, .junk, .junk, .junk, .junk, .junk, .junk, .junk, .junk, .junk, .junk, .junk, .junk, .junk, .junk, .junk, .junk, .junk, .junk, .junk, .junk, .junk, .junk, .junk, .junk, .junk, .junk, .junk, .junk, .junk, .junk, .junk, .junk, .junk, .junk, .junk, .junk] := rfl
@[go_sem] theorem resT_9 (T : List AV) (H : List AObj) : resT Go.Proofs.Try.prog Go.Proofs.Try.f9 T H = resS Go.Proofs.Try.prog T H [.tmp 4] := id rfl
theorem args0_9 (a0 a1 : AV) : args0 Go.Proofs.Try.f9 [a0, a1] = [a0, a1, .junk, .junk, .junk, .junk, .junk, .junk, .junk, .junk, .junk, .junk, .junk, .junk, .junk, .junk, .junk, .junk, .junk, .junk, .junk, .junk, .junk, .junk, .junk, .junk, .junk, .junk, .junk, .junk, .junk, .junk, .junk, .junk, .junk, .junk, .junk, .junk, .junk, .junk, .junk, .junk, .junk, .junk, .junk, .junk, .junk, .junk, .junk, .junk, .junk, .junk, .junk, .junk, .junk, .junk, .junk, .junk, .junk, .junk, .junk, .junk, .junk, .junk, .junk, .junk, .junk, .junk, .junk, .junk, .junk, .junk, .junk, .junk, .junk, .junk, .junk, .junk, .junk, .junk, .junk, .junk, .junk, .junk, .junk, .junk, .junk, .junk, .junk, .junk, .junk, .junk, .junk, .junk, .junk, .junk, .junk, .junk, .junk, .junk, .junk, .junk, .junk, .junk, .junk, .junk, .junk, .junk, .junk, .junk, .junk, .junk, .junk, .junk, .junk, .junk, .junk, .junk, .junk, .junk, .junk, .junk, .junk, .junk, .junk, .junk, .junk, .junk, .junk, .junk, .junk, .junk, .junk, .junk, .junk, .junk, .junk, .junk, .junk, .junk, .junk, .junk, .junk, .junk, .junk, .junk, .junk, .junk, .junk, .junk, .junk, .junk] := rfl
@[go_sem] theorem resT_10 (T : List AV) (H : List AObj) : resT Go.Proofs.Try.prog Go.Proofs.Try.f10 T H = resS Go.Proofs.Try.prog T H [.tmp 4] := id rfl
theorem args0_10 (a0 a1 : AV) : args0 Go.Proofs.Try.f10 [a0, a1] = [a0, a1, .junk, .junk, .junk, .junk, .junk, .junk, .junk, .junk, .junk, .junk, .junk, .junk, .junk, .junk, .junk, .junk, .junk, .junk, .junk, .junk, .junk, .junk, .junk, .junk, .junk, .junk, .junk, .junk, .junk, .junk, .junk, .junk, .junk, .junk, .junk, .junk, .junk, .junk, .junk, .junk, .junk, .junk, .junk] := rfl
@[go_sem] theorem resT_11 (T : List AV) (H : List AObj) : resT Go.Proofs.Try.prog Go.Proofs.Try.f11 T H = resS Go.Proofs.Try.prog T H [.tmp 4] := id rfl
theorem args0_11 (a0 a1 : AV) : args0 Go.Proofs.Try.f11 [a0, a1] = [a0, a1, .junk, .junk, .junk, .junk, .junk, .junk, .junk, .junk, .junk, .junk, .junk, .junk, .junk, .junk, .junk, .junk, .junk, .junk, .junk, .junk, .junk, .junk, .junk, .junk, .junk, .junk, .junk, .junk, .junk, .junk, .junk, .junk, .junk, .junk, .junk, .junk, .junk] := rfl
@[go_sem] theorem resT_12 (T : List AV) (H : List AObj) : resT Go.Proofs.Try.prog Go.Proofs.Try.f12 T H = resS Go.Proofs.Try.prog T H [.tmp 2] := id rfl
theorem args0_12 (a0 : AV) : args0 Go.Proofs.Try.f12 [a0] = [a0, .junk, .junk, .junk, .junk, .junk, .junk] := rfl
@[go_sem] theorem resT_13 (T : List AV) (H : List AObj) : resT Go.Proofs.Try.prog Go.Proofs.Try.f13 T H = resS Go.Proofs.Try.prog T H [.tmp 0] := id rfl
theorem args0_13 : args0 Go.Proofs.Try.f13 [] = [.junk, .junk, .junk, .junk, .junk, .junk, .junk, .junk, .junk, .junk, .junk, .junk, .junk] := rfl
@[go_sem] theorem resT_14 (T : List AV) (H : List AObj) : resT Go.Proofs.Try.prog Go.Proofs.Try.f14 T H = resS Go.Proofs.Try.prog T H [.tmp 2] := id rfl
theorem args0_14 (a0 : AV) : args0 Go.Proofs.Try.f14 [a0] = [a0, .junk, .junk, .junk, .junk, .junk, .junk, .junk, .junk, .junk, .junk, .junk, .junk, .junk, .junk, .junk, .junk, .junk, .junk, .junk, .junk, .junk, .junk, .junk, .junk, .junk, .junk, .junk, .junk, .junk] := rfl
@[go_sem] theorem resT_15 (T : List AV) (H : List AObj) : resT Go.Proofs.Try.prog Go.Proofs.Try.f15 T H = resS Go.Proofs.Try.prog T H [.tmp 2] := id rfl
theorem args0_15 (a0 : AV) : args0 Go.Proofs.Try.f15 [a0] = [a0, .junk, .junk, .junk, .junk, .junk, .junk, .junk, .junk, .junk, .junk, .junk, .junk, .junk, .junk, .junk, .junk, .junk, .junk, .junk, .junk, .junk, .junk, .junk, .junk, .junk, .junk, .junk, .junk, .junk, .junk] := rfl
@[go_sem] theorem resT_16 (T : List AV) (H : List AObj) : resT Go.Proofs.Try.prog Go.Proofs.Try.f16 T H = resS Go.Proofs.Try.prog T H [.tmp 2] := id rfl
theorem args0_16 (a0 : AV) : args0 Go.Proofs.Try.f16 [a0] = [a0, .junk, .junk, .junk, .junk, .junk, .junk, .junk, .junk, .junk, .junk, .junk, .junk, .junk, .junk, .junk, .junk, .junk, .junk, .junk, .junk, .junk, .junk, .junk, .junk, .junk, .junk, .junk, .junk, .junk, .junk, .junk, .junk, .junk, .junk, .junk, .junk, .junk, .junk, .junk, .junk, .junk, .junk, .junk, .junk, .junk, .junk, .junk, .junk, .junk] := rfl
@[go_sem] theorem resT_17 (T : List AV) (H : List AObj) : resT Go.Proofs.Try.prog Go.Proofs.Try.f17 T H = resS Go.Proofs.Try.prog T H [.tmp 4] := id rfl
theorem args0_17 (a0 a1 : AV) : args0 Go.Proofs.Try.f17 [a0, a1] = [a0, a1, .junk, .junk, .junk, .junk, .junk, .junk] := rfl
@[go_sem] theorem resT_18 (T : List AV) (H : List AObj) : resT Go.Proofs.Try.prog Go.Proofs.Try.f18 T H = resS Go.Proofs.Try.prog T H [.tmp 4] := id rfl
theorem args0_18 (a0 a1 : AV) : args0 Go.Proofs.Try.f18 [a0, a1] = [a0, a1, .junk, .junk, .junk, .junk, .junk, .junk, .junk, .junk, .junk, .junk, .junk, .junk, .junk, .junk, .junk, .junk, .junk, .junk, .junk, .junk, .junk, .junk, .junk, .junk] := rfl
@[go_sem] theorem resT_19 (T : List AV) (H : List AObj) : resT Go.Proofs.Try.prog Go.Proofs.Try.f19 T H = resS Go.Proofs.Try.prog T H [.tmp 6, .tmp 7] := id rfl
theorem args0_19 (a0 a1 a2 : AV) : args0 Go.Proofs.Try.f19 [a0, a1, a2] = [a0, a1, a2, .junk, .junk, .junk, .junk, .junk, .junk, .junk, .junk, .junk, .junk, .junk, .junk, .junk, .junk, .junk, .junk, .junk, .junk, .junk, .junk, .junk, .junk, .junk, .junk, .junk, .junk, .junk, .junk, .junk, .junk, .junk, .junk, .junk, .junk, .junk, .junk, .junk, .junk, .junk, .junk, .junk, .junk, .junk, .junk, .junk, .junk, .junk, .junk, .junk, .junk, .junk, .junk, .junk, .junk, .junk, .junk, .junk] := rfl
@[go_sem] theorem resT_20 (T : List AV) (H : List AObj) : resT Go.Proofs.Try.prog Go.Proofs.Try.f20 T H = resS Go.Proofs.Try.prog T H [.tmp 6, .tmp 7] := id rfl
theorem args0_20 (a0 a1 a2 : AV) : args0 Go.Proofs.Try.f20 [a0, a1, a2] = [a0, a1, a2, .junk, .junk, .junk, .junk, .junk, .junk, .junk, .junk, .junk, .junk, .junk, .junk, .junk, .junk, .junk, .junk, .junk, .junk, .junk, .junk, .junk, .junk, .junk, .junk, .junk, .junk, .junk, .junk, .junk, .junk, .junk, .junk, .junk, .junk, .junk, .junk, .junk, .junk, .junk, .junk, .junk, .junk, .junk, .junk, .junk, .junk, .junk, .junk, .junk, .junk, .junk, .junk, .junk, .junk, .junk, .junk, .junk, .junk, .junk] := rfl
@[go_sem] theorem resT_21 (T : List AV) (H : List AObj) : resT Go.Proofs.Try.prog Go.Proofs.Try.f21 T H = resS Go.Proofs.Try.prog T H [.tmp 0] := id rfl
theorem args0_21 : args0 Go.Proofs.Try.f21 [] = [.junk, .junk, .junk, .junk, .junk, .junk, .junk, .junk, .junk, .junk, .junk, .junk, .junk, .junk, .junk, .junk, .junk, .junk, .junk, .junk, .junk, .junk, .junk, .junk, .junk, .junk, .junk, .junk] := rfl
@[go_sem] theorem resT_22 (T : List AV) (H : List AObj) : resT Go.Proofs.Try.prog Go.Proofs.Try.f22 T H = resS Go.Proofs.Try.prog T H [.tmp 0] := id rfl
theorem args0_22 : args0 Go.Proofs.Try.f22 [] = [.junk, .junk, .junk, .junk, .junk, .junk, .junk, .junk, .junk, .junk, .junk, .junk, .junk, .junk, .junk, .junk, .junk, .junk, .junk, .junk, .junk, .junk, .junk, .junk, .junk, .junk, .junk, .junk, .junk, .junk, .junk, .junk, .junk, .junk, .junk, .junk, .junk, .junk] := rfl
@[go_sem] theorem resT_23 (T : List AV) (H : List AObj) : resT Go.Proofs.Try.prog Go.Proofs.Try.f23 T H = resS Go.Proofs.Try.prog T H [.tmp 4] := id rfl
theorem args0_23 (a0 a1 : AV) : args0 Go.Proofs.Try.f23 [a0, a1] = [a0, a1, .junk, .junk, .junk, .junk, .junk, .junk, .junk, .junk, .junk, .junk, .junk, .junk, .junk, .junk, .junk, .junk, .junk, .junk, .junk, .junk, .junk, .junk, .junk, .junk, .junk, .junk, .junk, .junk, .junk, .junk, .junk, .junk, .junk, .junk, .junk, .junk, .junk, .junk, .junk, .junk, .junk, .junk, .junk, .junk, .junk, .junk, .junk, .junk, .junk, .junk, .junk, .junk, .junk, .junk, .junk, .junk, .junk, .junk, .junk, .junk] := rfl
@[go_sem] theorem resT_24 (T : List AV) (H : List AObj) : resT Go.Proofs.Try.prog Go.Proofs.Try.f24 T H = resS Go.Proofs.Try.prog T H [.tmp 4] := id rfl
theorem args0_24 (a0 a1 : AV) : args0 Go.Proofs.Try.f24 [a0, a1] = [a0, a1, .junk, .junk, .junk, .junk, .junk, .junk, .junk, .junk, .junk, .junk, .junk, .junk, .junk, .junk, .junk, .junk, .junk, .junk, .junk, .junk, .junk, .junk, .junk, .junk, .junk, .junk, .junk, .junk, .junk, .junk, .junk, .junk, .junk, .junk, .junk, .junk, .junk, .junk, .junk, .junk, .junk, .junk, .junk, .junk, .junk, .junk, .junk, .junk, .junk, .junk, .junk, .junk, .junk, .junk, .junk, .junk, .junk, .junk, .junk, .junk, .junk, .junk, .junk, .junk, .junk, .junk, .junk, .junk, .junk, .junk, .junk, .junk, .junk, .junk, .junk, .junk, .junk, .junk] := rfl
@[go_sem] theorem resT_25 (T : List AV) (H : List AObj) : resT Go.Proofs.Try.prog Go.Proofs.Try.f25 T H = resS Go.Proofs.Try.prog T H [.tmp 6, .tmp 7, .tmp 8] := id rfl
theorem args0_25 (a0 a1 a2 : AV) : args0 Go.Proofs.Try.f25 [a0, a1, a2] = [a0, a1, a2, .junk, .junk, .junk, .junk, .junk, .junk, .junk, .junk, .junk, .junk, .junk, .junk, .junk, .junk, .junk, .junk, .junk, .junk, .junk, .junk, .junk, .junk, .junk, .junk, .junk, .junk, .junk, .junk, .junk, .junk, .junk, .junk, .junk, .junk, .junk, .junk, .junk, .junk, .junk, .junk, .junk, .junk, .junk, .junk, .junk, .junk, .junk, .junk, .junk, .junk, .junk, .junk, .junk, .junk] := rfl
@[go_sem] theorem resT_26 (T : List AV) (H : List AObj) : resT Go.Proofs.Try.prog Go.Proofs.Try.f26 T H = resS Go.Proofs.Try.prog T H [.tmp 6, .tmp 7, .tmp 8] := id rfl
theorem args0_26 (a0 a1 a2 : AV) : args0 Go.Proofs.Try.f26 [a0, a1, a2] = [a0, a1, a2, .junk, .junk, .junk, .junk, .junk, .junk, .junk, .junk, .junk, .junk, .junk, .junk, .junk, .junk, .junk, .junk, .junk, .junk, .junk, .junk, .junk, .junk, .junk, .junk, .junk, .junk, .junk, .junk, .junk, .junk, .junk, .junk, .junk, .junk, .junk, .junk, .junk, .junk] := rfl
@[go_sem] theorem resT_27 (T : List AV) (H : List AObj) : resT Go.Proofs.Try.prog Go.Proofs.Try.f27 T H = resS Go.Proofs.Try.prog T H [.tmp 0] := id rfl
theorem args0_27 : args0 Go.Proofs.Try.f27 [] = [.junk, .junk, .junk, .junk, .junk, .junk, .junk, .junk, .junk, .junk, .junk, .junk, .junk, .junk, .junk, .junk, .junk, .junk, .junk, .junk, .junk, .junk, .junk, .junk, .junk, .junk, .junk, .junk, .junk, .junk, .junk, .junk, .junk, .junk, .junk, .junk, .junk, .junk, .junk, .junk, .junk, .junk, .junk, .junk, .junk] := rfl
@[go_sem] theorem resT_28 (T : List AV) (H : List AObj) : resT Go.Proofs.Try.prog Go.Proofs.Try.f28 T H = resS Go.Proofs.Try.prog T H [.tmp 2] := id rfl
theorem args0_28 (a0 : AV) : args0 Go.Proofs.Try.f28 [a0] = [a0, .junk, .junk, .junk, .junk, .junk, .junk, .junk, .junk, .junk, .junk, .junk, .junk, .junk, .junk, .junk, .junk, .junk, .junk, .junk, .junk, .junk, .junk, .junk, .junk, .junk, .junk, .junk, .junk, .junk, .junk, .junk, .junk, .junk, .junk, .junk, .junk, .junk, .junk, .junk, .junk, .junk, .junk, .junk, .junk, .junk, .junk, .junk, .junk, .junk, .junk, .junk, .junk, .junk, .junk, .junk, .junk, .junk, .junk, .junk, .junk, .junk, .junk, .junk, .junk, .junk, .junk, .junk, .junk, .junk, .junk, .junk, .junk, .junk, .junk, .junk, .junk, .junk] := rfl
@[go_sem] theorem resT_29 (T : List AV) (H : List AObj) : resT Go.Proofs.Try.prog Go.Proofs.Try.f29 T H = resS Go.Proofs.Try.prog T H [.tmp 0] := id rfl
theorem args0_29 : args0 Go.Proofs.Try.f29 [] = [.junk, .junk, .junk] := rfl
@[go_sem] theorem resT_30 (T : List AV) (H : List AObj) : resT Go.Proofs.Try.prog Go.Proofs.Try.f30 T H = resS Go.Proofs.Try.prog T H [.tmp 4] := id rfl
theorem args0_30 (a0 a1 : AV) : args0 Go.Proofs.Try.f30 [a0, a1] = [a0, a1, .junk, .junk, .junk, .junk, .junk, .junk, .junk, .junk, .junk, .junk, .junk, .junk, .junk, .junk, .junk, .junk, .junk, .junk, .junk, .junk, .junk, .junk, .junk, .junk, .junk, .junk, .junk, .junk, .junk, .junk, .junk, .junk, .junk, .junk, .junk, .junk, .junk, .junk, .junk, .junk, .junk, .junk, .junk, .junk, .junk, .junk, .junk, .junk, .junk, .junk, .junk, .junk, .junk, .junk, .junk, .junk, .junk, .junk, .junk, .junk, .junk, .junk, .junk, .junk, .junk, .junk, .junk, .junk, .junk, .junk, .junk, .junk, .junk, .junk, .junk, .junk, .junk, .junk, .junk, .junk, .junk, .junk, .junk, .junk, .junk, .junk, .junk, .junk, .junk, .junk] := rfl
@[go_sem] theorem resT_31 (T : List AV) (H : List AObj) : resT Go.Proofs.Try.prog Go.Proofs.Try.f31 T H = resS Go.Proofs.Try.prog T H [.tmp 0] := id rfl
theorem args0_31 : args0 Go.Proofs.Try.f31 [] = [.junk, .junk, .junk, .junk, .junk, .junk, .junk, .junk, .junk, .junk, .junk, .junk, .junk, .junk, .junk, .junk, .junk, .junk, .junk, .junk, .junk, .junk, .junk, .junk, .junk, .junk, .junk, .junk, .junk, .junk, .junk, .junk, .junk, .junk, .junk, .junk, .junk, .junk, .junk, .junk, .junk, .junk, .junk, .junk, .junk, .junk, .junk, .junk, .junk, .junk, .junk, .junk, .junk, .junk, .junk, .junk, .junk, .junk, .junk, .junk, .junk, .junk, .junk, .junk, .junk, .junk, .junk, .junk, .junk, .junk, .junk, .junk, .junk, .junk, .junk, .junk, .junk, .junk, .junk, .junk, .junk, .junk, .junk, .junk, .junk, .junk, .junk, .junk, .junk, .junk, .junk, .junk, .junk, .junk, .junk, .junk, .junk, .junk, .junk, .junk, .junk, .junk, .junk, .junk, .junk, .junk, .junk, .junk, .junk, .junk] := rfl
@[go_sem] theorem resT_32 (T : List AV) (H : List AObj) : resT Go.Proofs.Try.prog Go.Proofs.Try.f32 T H = resS Go.Proofs.Try.prog T H [.tmp 4, .tmp 5] := id rfl
theorem args0_32 (a0 a1 : AV) : args0 Go.Proofs.Try.f32 [a0, a1] = [a0, a1, .junk, .junk, .junk, .junk, .junk, .junk, .junk, .junk, .junk, .junk, .junk, .junk, .junk, .junk, .junk, .junk, .junk, .junk, .junk, .junk, .junk, .junk, .junk, .junk, .junk, .junk, .junk, .junk, .junk, .junk, .junk, .junk, .junk, .junk, .junk, .junk, .junk, .junk, .junk, .junk, .junk, .junk, .junk, .junk, .junk, .junk, .junk, .junk, .junk, .junk, .junk, .junk, .junk, .junk, .junk, .junk, .junk, .junk, .junk] := rfl
@[go_sem] theorem resT_33 (T : List AV) (H : List AObj) : resT Go.Proofs.Try.prog Go.Proofs.Try.f33 T H = resS Go.Proofs.Try.prog T H [.tmp 2] := id rfl
theorem args0_33 (a0 : AV) : args0 Go.Proofs.Try.f33 [a0] = [a0, .junk, .junk, .junk, .junk, .junk, .junk, .junk, .junk, .junk, .junk, .junk, .junk, .junk, .junk, .junk, .junk, .junk, .junk, .junk, .junk, .junk, .junk, .junk, .junk, .junk, .junk, .junk, .junk, .junk, .junk, .junk, .junk, .junk, .junk, .junk, .junk, .junk, .junk, .junk, .junk, .junk, .junk, .junk] := rfl
@[go_sem] theorem resT_34 (T : List AV) (H : List AObj) : resT Go.Proofs.Try.prog Go.Proofs.Try.f34 T H = resS Go.Proofs.Try.prog T H [.tmp 4] := id rfl
theorem args0_34 (a0 a1 : AV) : args0 Go.Proofs.Try.f34 [a0, a1] = [a0, a1, .junk, .junk, .junk, .junk, .junk, .junk, .junk, .junk, .junk, .junk, .junk, .junk, .junk, .junk, .junk, .junk, .junk, .junk, .junk, .junk, .junk, .junk, .junk, .junk, .junk] := rfl
@[go_sem] theorem resT_35 (T : List AV) (H : List AObj) : resT Go.Proofs.Try.prog Go.Proofs.Try.f35 T H = resS Go.Proofs.Try.prog T H [.tmp 2] := id rfl
theorem args0_35 (a0 : AV) : args0 Go.Proofs.Try.f35 [a0] = [a0, .junk, .junk, .junk, .junk, .junk, .junk, .junk, .junk, .junk, .junk, .junk, .junk, .junk, .junk, .junk, .junk, .junk, .junk, .junk, .junk, .junk, .junk, .junk, .junk, .junk, .junk, .junk, .junk, .junk, .junk, .junk, .junk, .junk, .junk, .junk, .junk, .junk, .junk, .junk, .junk, .junk, .junk, .junk, .junk, .junk, .junk, .junk, .junk, .junk, .junk, .junk, .junk, .junk, .junk, .junk, .junk, .junk, .junk, .junk, .junk, .junk, .junk, .junk, .junk, .junk, .junk, .junk, .junk, .junk, .junk, .junk, .junk, .junk, .junk, .junk, .junk] := rfl
@[go_sem] theorem resT_36 (T : List AV) (H : List AObj) : resT Go.Proofs.Try.prog Go.Proofs.Try.f36 T H = resS Go.Proofs.Try.prog T H [.cell 2 54] := id rfl
theorem args0_36 (a0 : AV) : args0 Go.Proofs.Try.f36 [a0] = [a0, .junk, .junk, .junk, .junk, .junk, .junk, .junk, .junk, .junk, .junk, .junk, .junk, .junk, .junk, .junk, .junk, .junk, .junk, .junk, .junk, .junk, .junk, .junk, .junk, .junk, .junk, .junk, .junk, .junk, .junk, .junk, .junk, .junk, .junk, .junk, .junk, .junk, .junk, .junk, .junk, .junk, .junk, .junk, .junk, .junk, .junk, .junk, .junk, .junk, .junk, .junk, .junk, .junk, .junk, .junk, .junk, .junk, .junk, .junk, .junk, .junk, .junk, .junk] := rfl
@[go_sem] theorem resT_37 (T : List AV) (H : List AObj) : resT Go.Proofs.Try.prog Go.Proofs.Try.f37 T H = resS Go.Proofs.Try.prog T H [.cell 2 24] := id rfl
theorem args0_37 (a0 : AV) : args0 Go.Proofs.Try.f37 [a0] = [a0, .junk, .junk, .junk, .junk] := rfl
@[go_sem] theorem resT_38 (T : List AV) (H : List AObj) : resT Go.Proofs.Try.prog Go.Proofs.Try.f38 T H = resS Go.Proofs.Try.prog T H [.cell 0 28] := id rfl
theorem args0_38 : args0 Go.Proofs.Try.f38 [] = [.junk, .junk, .junk, .junk, .junk, .junk, .junk, .junk, .junk, .junk, .junk, .junk, .junk, .junk] := rfl
@[go_sem] theorem resT_39 (T : List AV) (H : List AObj) : resT Go.Proofs.Try.prog Go.Proofs.Try.f39 T H = resS Go.Proofs.Try.prog T H [.tmp 2] := id rfl
theorem args0_39 (a0 : AV) : args0 Go.Proofs.Try.f39 [a0] = [a0, .junk, .junk, .junk, .junk, .junk, .junk, .junk, .junk, .junk, .junk, .junk, .junk, .junk, .junk, .junk, .junk, .junk, .junk, .junk, .junk, .junk, .junk, .junk, .junk, .junk, .junk, .junk, .junk, .junk, .junk, .junk, .junk, .junk, .junk, .junk] := rfl
@[go_sem] theorem resT_40 (T : List AV) (H : List AObj) : resT Go.Proofs.Try.prog Go.Proofs.Try.f40 T H = resS Go.Proofs.Try.prog T H [.tmp 4] := id rfl
theorem args0_40 (a0 a1 : AV) : args0 Go.Proofs.Try.f40 [a0, a1] = [a0, a1, .junk, .junk, .junk, .junk, .junk, .junk, .junk, .junk, .junk, .junk, .junk, .junk, .junk, .junk, .junk, .junk, .junk, .junk, .junk, .junk, .junk, .junk, .junk, .junk, .junk, .junk, .junk, .junk, .junk, .junk, .junk, .junk, .junk, .junk, .junk, .junk, .junk, .junk, .junk, .junk, .junk, .junk, .junk, .junk, .junk, .junk, .junk, .junk, .junk, .junk, .junk, .junk, .junk, .junk, .junk, .junk, .junk, .junk, .junk, .junk, .junk, .junk, .junk, .junk, .junk, .junk, .junk, .junk, .junk, .junk, .junk, .junk, .junk, .junk, .junk, .junk, .junk, .junk, .junk, .junk, .junk, .junk, .junk, .junk, .junk, .junk, .junk, .junk, .junk, .junk, .junk, .junk, .junk, .junk, .junk, .junk, .junk, .junk, .junk, .junk, .junk, .junk, .junk, .junk, .junk, .junk, .junk, .junk, .junk, .junk, .junk, .junk, .junk, .junk, .junk, .junk, .junk, .junk, .junk, .junk, .junk, .junk, .junk, .junk, .junk] := rfl
@[go_sem] theorem resT_41 (T : List AV) (H : List AObj) : resT Go.Proofs.Try.prog Go.Proofs.Try.f41 T H = resS Go.Proofs.Try.prog T H [.tmp 4] := id rfl
theorem args0_41 (a0 a1 : AV) : args0 Go.Proofs.Try.f41 [a0, a1] = [a0, a1, .junk, .junk, .junk, .junk, .junk, .junk, .junk, .junk, .junk, .junk, .junk, .junk, .junk, .junk, .junk, .junk, .junk, .junk, .junk, .junk, .junk, .junk, .junk, .junk] := rfl
@[go_sem] theorem resT_42 (T : List AV) (H : List AObj) : resT Go.Proofs.Try.prog Go.Proofs.Try.f42 T H = resS Go.Proofs.Try.prog T H [.tmp 2] := id rfl
theorem args0_42 (a0 : AV) : args0 Go.Proofs.Try.f42 [a0] = [a0, .junk, .junk, .junk, .junk, .junk, .junk] := rfl
@[go_sem] theorem resT_43 (T : List AV) (H : List AObj) : resT Go.Proofs.Try.prog Go.Proofs.Try.f43 T H = resS Go.Proofs.Try.prog T H [.tmp 4] := id rfl
theorem args0_43 (a0 a1 : AV) : args0 Go.Proofs.Try.f43 [a0, a1] = [a0, a1, .junk, .junk, .junk, .junk, .junk, .junk] := rfl
@[go_sem] theorem resT_44 (T : List AV) (H : List AObj) : resT Go.Proofs.Try.prog Go.Proofs.Try.f44 T H = resS Go.Proofs.Try.prog T H [.tmp 4] := id rfl
theorem args0_44 (a0 a1 : AV) : args0 Go.Proofs.Try.f44 [a0, a1] = [a0, a1, .junk, .junk, .junk, .junk, .junk, .junk] := rfl
@[go_sem] theorem resT_45 (T : List AV) (H : List AObj) : resT Go.Proofs.Try.prog Go.Proofs.Try.f45 T H = resS Go.Proofs.Try.prog T H [.tmp 4] := id rfl
theorem args0_45 (a0 a1 : AV) : args0 Go.Proofs.Try.f45 [a0, a1] = [a0, a1, .junk, .junk, .junk, .junk, .junk, .junk, .junk, .junk, .junk, .junk, .junk, .junk, .junk, .junk, .junk, .junk, .junk, .junk, .junk, .junk, .junk, .junk, .junk, .junk, .junk, .junk, .junk, .junk, .junk, .junk, .junk, .junk, .junk, .junk, .junk, .junk, .junk, .junk, .junk, .junk, .junk, .junk] := rfl
@[go_sem] theorem resT_46 (T : List AV) (H : List AObj) : resT Go.Proofs.Try.prog Go.Proofs.Try.f46 T H = resS Go.Proofs.Try.prog T H [.tmp 4] := id rfl
theorem args0_46 (a0 a1 : AV) : args0 Go.Proofs.Try.f46 [a0, a1] = [a0, a1, .junk, .junk, .junk, .junk, .junk, .junk, .junk, .junk, .junk, .junk, .junk, .junk, .junk, .junk, .junk, .junk, .junk, .junk] := rfl
@[go_sem] theorem resT_47 (T : List AV) (H : List AObj) : resT Go.Proofs.Try.prog Go.Proofs.Try.f47 T H = resS Go.Proofs.Try.prog T H [.cell 2 24] := id rfl
theorem args0_47 (a0 : AV) : args0 Go.Proofs.Try.f47 [a0] = [a0, .junk, .junk, .junk, .junk] := rfl
@[go_sem] theorem resT_48 (T : List AV) (H : List AObj) : resT Go.Proofs.Try.prog Go.Proofs.Try.f48 T H = resS Go.Proofs.Try.prog T H [.cell 0 24] := id rfl
theorem args0_48 : args0 Go.Proofs.Try.f48 [] = [.junk, .junk] := rfl
@[go_sem] theorem resT_49 (T : List AV) (H : List AObj) : resT Go.Proofs.Try.prog Go.Proofs.Try.f49 T H = resS Go.Proofs.Try.prog T H [.tmp 6] := id rfl
theorem args0_49 (a0 a1 a2 : AV) : args0 Go.Proofs.Try.f49 [a0, a1, a2] = [a0, a1, a2, .junk, .junk, .junk, .junk, .junk, .junk, .junk, .junk, .junk, .junk, .junk, .junk, .junk, .junk, .junk, .junk, .junk, .junk, .junk, .junk, .junk, .junk, .junk, .junk, .junk, .junk, .junk] := rfl
@[go_sem] theorem resT_50 (T : List AV) (H : List AObj) : resT Go.Proofs.Try.prog Go.Proofs.Try.f50 T H = resS Go.Proofs.Try.prog T H [.tmp 4] := id rfl
theorem args0_50 (a0 a1 : AV) : args0 Go.Proofs.Try.f50 [a0, a1] = [a0, a1, .junk, .junk, .junk, .junk, .junk, .junk, .junk, .junk, .junk, .junk] := rfl
@[go_sem] theorem resT_51 (T : List AV) (H : List AObj) : resT Go.Proofs.Try.prog Go.Proofs.Try.f51 T H = resS Go.Proofs.Try.prog T H [.tmp 4] := id rfl
theorem args0_51 (a0 a1 : AV) : args0 Go.Proofs.Try.f51 [a0, a1] = [a0, a1, .junk, .junk, .junk, .junk, .junk, .junk, .junk, .junk, .junk, .junk, .junk, .junk, .junk, .junk, .junk, .junk, .junk] := rfl
@[go_sem] theorem resT_52 (T : List AV) (H : List AObj) : resT Go.Proofs.Try.prog Go.Proofs.Try.f52 T H = resS Go.Proofs.Try.prog T H [.tmp 3] := id rfl
theorem args0_52 (a0 a1 : AV) : args0 Go.Proofs.Try.f52 [a0, a1] = [a0, a1, .junk, .junk, .junk, .junk, .junk, .junk] := rfl
@[go_sem] theorem resT_53 (T : List AV) (H : List AObj) : resT Go.Proofs.Try.prog Go.Proofs.Try.f53 T H = resS Go.Proofs.Try.prog T H [.tmp 4] := id rfl
theorem args0_53 (a0 a1 : AV) : args0 Go.Proofs.Try.f53 [a0, a1] = [a0, a1, .junk, .junk, .junk, .junk, .junk, .junk, .junk] := rfl
@[go_sem] theorem resT_54 (T : List AV) (H : List AObj) : resT Go.Proofs.Try.prog Go.Proofs.Try.f54 T H = resS Go.Proofs.Try.prog T H [.tmp 4] := id rfl
theorem args0_54 (a0 a1 : AV) : args0 Go.Proofs.Try.f54 [a0, a1] = [a0, a1, .junk, .junk, .junk, .junk, .junk, .junk, .junk, .junk, .junk, .junk, .junk, .junk, .junk, .junk, .junk, .junk, .junk, .junk] := rfl
@[go_sem] theorem resT_55 (T : List AV) (H : List AObj) : resT Go.Proofs.Try.prog Go.Proofs.Try.f55 T H = resS Go.Proofs.Try.prog T H [.tmp 6, .tmp 7] := id rfl
theorem args0_55 (a0 a1 a2 : AV) : args0 Go.Proofs.Try.f55 [a0, a1, a2] = [a0, a1, a2, .junk, .junk, .junk, .junk, .junk, .junk, .junk, .junk, .junk, .junk, .junk, .junk, .junk, .junk, .junk, .junk, .junk, .junk, .junk, .junk, .junk, .junk, .junk, .junk, .junk, .junk, .junk, .junk, .junk, .junk, .junk, .junk, .junk, .junk, .junk, .junk] := rfl
@[go_sem] theorem resT_56 (T : List AV) (H : List AObj) : resT Go.Proofs.Try.prog Go.Proofs.Try.f56 T H = resS Go.Proofs.Try.prog T H [.cell 6 28, .tmp 7] := id rfl
theorem args0_56 (a0 a1 a2 : AV) : args0 Go.Proofs.Try.f56 [a0, a1, a2] = [a0, a1, a2, .junk, .junk, .junk, .junk, .junk, .junk, .junk, .junk, .junk, .junk, .junk, .junk, .junk, .junk, .junk, .junk, .junk, .junk, .junk, .junk, .junk, .junk, .junk, .junk, .junk, .junk, .junk, .junk, .junk, .junk] := rfl
@[go_sem] theorem resT_57 (T : List AV) (H : List AObj) : resT Go.Proofs.Try.prog Go.Proofs.Try.f57 T H = resS Go.Proofs.Try.prog T H [.tmp 6] := id rfl
theorem args0_57 (a0 a1 a2 : AV) : args0 Go.Proofs.Try.f57 [a0, a1, a2] = [a0, a1, a2, .junk, .junk, .junk, .junk, .junk, .junk, .junk, .junk, .junk, .junk, .junk, .junk, .junk, .junk, .junk, .junk, .junk, .junk, .junk, .junk, .junk, .junk, .junk, .junk, .junk, .junk, .junk, .junk, .junk, .junk, .junk, .junk, .junk] := rfl
@[go_sem] theorem resT_58 (T : List AV) (H : List AObj) : resT Go.Proofs.Try.prog Go.Proofs.Try.f58 T H = resS Go.Proofs.Try.prog T H [.cell 0 54] := id rfl
theorem args0_58 : args0 Go.Proofs.Try.f58 [] = [.junk, .junk, .junk, .junk, .junk, .junk, .junk, .junk, .junk, .junk, .junk, .junk, .junk, .junk, .junk, .junk, .junk, .junk, .junk, .junk, .junk] := rfl
@[go_sem] theorem resT_59 (T : List AV) (H : List AObj) : resT Go.Proofs.Try.prog Go.Proofs.Try.f59 T H = resS Go.Proofs.Try.prog T H [.cell 4 68] := id rfl
theorem args0_59 (a0 a1 : AV) : args0 Go.Proofs.Try.f59 [a0, a1] = [a0, a1, .junk, .junk, .junk, .junk, .junk, .junk, .junk, .junk, .junk, .junk, .junk, .junk, .junk, .junk, .junk, .junk, .junk] := rfl
@[go_sem] theorem resT_60 (T : List AV) (H : List AObj) : resT Go.Proofs.Try.prog Go.Proofs.Try.f60 T H = resS Go.Proofs.Try.prog T H [.cell 2 68] := id rfl
theorem args0_60 (a0 : AV) : args0 Go.Proofs.Try.f60 [a0] = [a0, .junk, .junk, .junk, .junk, .junk] := rfl
@[go_sem] theorem resT_61 (T : List AV) (H : List AObj) : resT Go.Proofs.Try.prog Go.Proofs.Try.f61 T H = resS Go.Proofs.Try.prog T H [.tmp 2] := id rfl
theorem args0_61 (a0 : AV) : args0 Go.Proofs.Try.f61 [a0] = [a0, .junk, .junk, .junk, .junk, .junk, .junk, .junk, .junk, .junk, .junk, .junk, .junk, .junk, .junk, .junk, .junk, .junk, .junk, .junk, .junk, .junk, .junk, .junk, .junk, .junk, .junk, .junk, .junk, .junk, .junk, .junk, .junk, .junk, .junk, .junk, .junk, .junk, .junk, .junk, .junk, .junk, .junk, .junk, .junk, .junk, .junk, .junk] := rfl
@[go_sem] theorem resT_62 (T : List AV) (H : List AObj) : resT Go.Proofs.Try.prog Go.Proofs.Try.f62 T H = resS Go.Proofs.Try.prog T H [.tmp 4] := id rfl
theorem args0_62 (a0 a1 : AV) : args0 Go.Proofs.Try.f62 [a0, a1] = [a0, a1, .junk, .junk, .junk, .junk, .junk, .junk, .junk] := rfl
@[go_sem] theorem resT_63 (T : List AV) (H : List AObj) : resT Go.Proofs.Try.prog Go.Proofs.Try.f63 T H = resS Go.Proofs.Try.prog T H [.tmp 3] := id rfl
theorem args0_63 (a0 a1 : AV) : args0 Go.Proofs.Try.f63 [a0, a1] = [a0, a1, .junk, .junk, .junk, .junk, .junk, .junk, .junk] := rfl
@[go_sem] theorem resT_64 (T : List AV) (H : List AObj) : resT Go.Proofs.Try.prog Go.Proofs.Try.f64 T H = resS Go.Proofs.Try.prog T H [.tmp 6, .tmp 7] := id rfl
theorem args0_64 (a0 a1 a2 : AV) : args0 Go.Proofs.Try.f64 [a0, a1, a2] = [a0, a1, a2, .junk, .junk, .junk, .junk, .junk, .junk, .junk, .junk, .junk, .junk, .junk, .junk, .junk, .junk, .junk, .junk, .junk, .junk, .junk, .junk, .junk, .junk, .junk, .junk, .junk, .junk, .junk, .junk, .junk, .junk] := rfl
@[go_sem] theorem resT_65 (T : List AV) (H : List AObj) : resT Go.Proofs.Try.prog Go.Proofs.Try.f65 T H = resS Go.Proofs.Try.prog T H [.tmp 6, .tmp 7] := id rfl
theorem args0_65 (a0 a1 a2 : AV) : args0 Go.Proofs.Try.f65 [a0, a1, a2] = [a0, a1, a2, .junk, .junk, .junk, .junk, .junk, .junk, .junk, .junk, .junk, .junk, .junk, .junk, .junk, .junk, .junk, .junk, .junk, .junk, .junk, .junk, .junk, .junk, .junk, .junk, .junk, .junk] := rfl
@[go_sem] theorem resT_66 (T : List AV) (H : List AObj) : resT Go.Proofs.Try.prog Go.Proofs.Try.f66 T H = resS Go.Proofs.Try.prog T H [.tmp 6, .tmp 7] := id rfl
theorem args0_66 (a0 a1 a2 : AV) : args0 Go.Proofs.Try.f66 [a0, a1, a2] = [a0, a1, a2, .junk, .junk, .junk, .junk, .junk, .junk, .junk, .junk, .junk, .junk, .junk, .junk, .junk, .junk, .junk, .junk, .junk, .junk] := rfl
@[go_sem] theorem resT_67 (T : List AV) (H : List AObj) : resT Go.Proofs.Try.prog Go.Proofs.Try.f67 T H = resS Go.Proofs.Try.prog T H [.tmp 2] := id rfl
theorem args0_67 (a0 : AV) : args0 Go.Proofs.Try.f67 [a0] = [a0, .junk, .junk, .junk, .junk, .junk, .junk, .junk] := rfl
@[go_sem] theorem resT_68 (T : List AV) (H : List AObj) : resT Go.Proofs.Try.prog Go.Proofs.Try.f68 T H = resS Go.Proofs.Try.prog T H [.tmp 2] := id rfl
theorem args0_68 (a0 : AV) : args0 Go.Proofs.Try.f68 [a0] = [a0, .junk, .junk, .junk, .junk, .junk, .junk, .junk, .junk, .junk, .junk, .junk, .junk, .junk, .junk, .junk, .junk, .junk, .junk] := rfl
@[go_sem] theorem resT_69 (T : List AV) (H : List AObj) : resT Go.Proofs.Try.prog Go.Proofs.Try.f69 T H = resS Go.Proofs.Try.prog T H [.tmp 4] := id rfl
theorem args0_69 (a0 a1 : AV) : args0 Go.Proofs.Try.f69 [a0, a1] = [a0, a1, .junk, .junk, .junk, .junk, .junk, .junk, .junk, .junk, .junk, .junk, .junk, .junk, .junk, .junk, .junk, .junk, .junk, .junk, .junk, .junk, .junk, .junk, .junk, .junk] := rfl
@[go_sem] theorem resT_70 (T : List AV) (H : List AObj) : resT Go.Proofs.Try.prog Go.Proofs.Try.f70 T H = resS Go.Proofs.Try.prog T H [.tmp 4] := id rfl
theorem args0_70 (a0 a1 : AV) : args0 Go.Proofs.Try.f70 [a0, a1] = [a0, a1, .junk, .junk, .junk, .junk, .junk, .junk, .junk, .junk, .junk, .junk, .junk, .junk, .junk, .junk, .junk] := rfl
@[go_sem] theorem resT_71 (T : List AV) (H : List AObj) : resT Go.Proofs.Try.prog Go.Proofs.Try.f71 T H = resS Go.Proofs.Try.prog T H [.tmp 4] := id rfl
theorem args0_71 (a0 a1 : AV) : args0 Go.Proofs.Try.f71 [a0, a1] = [a0, a1, .junk, .junk, .junk, .junk, .junk, .junk, .junk, .junk, .junk, .junk, .junk, .junk, .junk, .junk, .junk, .junk, .junk, .junk, .junk, .junk, .junk, .junk, .junk, .junk] := rfl
@[go_sem] theorem resT_72 (T : List AV) (H : List AObj) : resT Go.Proofs.Try.prog Go.Proofs.Try.f72 T H = resS Go.Proofs.Try.prog T H [.tmp 4] := id rfl
theorem args0_72 (a0 a1 : AV) : args0 Go.Proofs.Try.f72 [a0, a1] = [a0, a1, .junk, .junk, .junk, .junk, .junk, .junk, .junk, .junk] := rfl
@[go_sem] theorem resT_73 (T : List AV) (H : List AObj) : resT Go.Proofs.Try.prog Go.Proofs.Try.f73 T H = resS Go.Proofs.Try.prog T H [.tmp 4] := id rfl
theorem args0_73 (a0 a1 : AV) : args0 Go.Proofs.Try.f73 [a0, a1] = [a0, a1, .junk, .junk, .junk, .junk, .junk, .junk] := rfl
@[go_sem] theorem resT_74 (T : List AV) (H : List AObj) : resT Go.Proofs.Try.prog Go.Proofs.Try.f74 T H = resS Go.Proofs.Try.prog T H [.tmp 2] := id rfl
theorem args0_74 (a0 : AV) : args0 Go.Proofs.Try.f74 [a0] = [a0, .junk, .junk, .junk, .junk, .junk, .junk, .junk, .junk, .junk, .junk, .junk, .junk, .junk, .junk, .junk, .junk, .junk, .junk, .junk] := rfl
@[go_sem] theorem resT_75 (T : List AV) (H : List AObj) : resT Go.Proofs.Try.prog Go.Proofs.Try.f75 T H = resS Go.Proofs.Try.prog T H [.tmp 4] := id rfl
theorem args0_75 (a0 a1 : AV) : args0 Go.Proofs.Try.f75 [a0, a1] = [a0, a1, .junk, .junk, .junk, .junk, .junk, .junk, .junk, .junk, .junk, .junk, .junk, .junk, .junk, .junk, .junk, .junk, .junk, .junk, .junk, .junk, .junk] := rfl
@[go_sem] theorem resT_76 (T : List AV) (H : List AObj) : resT Go.Proofs.Try.prog Go.Proofs.Try.f76 T H = resS Go.Proofs.Try.prog T H [.tmp 4] := id rfl
theorem args0_76 (a0 a1 : AV) : args0 Go.Proofs.Try.f76 [a0, a1] = [a0, a1, .junk, .junk, .junk, .junk, .junk, .junk, .junk, .junk, .junk, .junk, .junk, .junk, .junk, .junk, .junk, .junk, .junk, .junk, .junk, .junk, .junk, .junk, .junk, .junk, .junk, .junk, .junk, .junk, .junk, .junk, .junk, .junk, .junk, .junk, .junk, .junk, .junk, .junk, .junk, .junk, .junk, .junk, .junk, .junk, .junk, .junk, .junk, .junk, .junk, .junk, .junk, .junk, .junk, .junk, .junk, .junk, .junk, .junk, .junk, .junk, .junk, .junk, .junk, .junk] := rfl
@[go_sem] theorem resT_77 (T : List AV) (H : List AObj) : resT Go.Proofs.Try.prog Go.Proofs.Try.f77 T H = resS Go.Proofs.Try.prog T H [.tmp 2] := id rfl
theorem args0_77 (a0 : AV) : args0 Go.Proofs.Try.f77 [a0] = [a0, .junk, .junk, .junk, .junk, .junk, .junk, .junk] := rfl
@[go_sem] theorem resT_78 (T : List AV) (H : List AObj) : resT Go.Proofs.Try.prog Go.Proofs.Try.f78 T H = resS Go.Proofs.Try.prog T H [.tmp 2] := id rfl
theorem args0_78 (a0 : AV) : args0 Go.Proofs.Try.f78 [a0] = [a0, .junk, .junk, .junk, .junk, .junk, .junk, .junk, .junk, .junk, .junk, .junk, .junk, .junk, .junk, .junk] := rfl
@[go_sem] theorem resT_79 (T : List AV) (H : List AObj) : resT Go.Proofs.Try.prog Go.Proofs.Try.f79 T H = resS Go.Proofs.Try.prog T H [.tmp 4] := id rfl
theorem args0_79 (a0 a1 : AV) : args0 Go.Proofs.Try.f79 [a0, a1] = [a0, a1, .junk, .junk, .junk, .junk, .junk, .junk, .junk, .junk, .junk, .junk, .junk, .junk, .junk, .junk, .junk, .junk] := rfl
@[go_sem] theorem resT_80 (T : List AV) (H : List AObj) : resT Go.Proofs.Try.prog Go.Proofs.Try.f80 T H = resS Go.Proofs.Try.prog T H [.tmp 2] := id rfl
theorem args0_80 (a0 : AV) : args0 Go.Proofs.Try.f80 [a0] = [a0, .junk, .junk, .junk, .junk, .junk, .junk, .junk, .junk, .junk, .junk, .junk, .junk, .junk, .junk, .junk, .junk, .junk, .junk, .junk, .junk, .junk, .junk, .junk, .junk, .junk, .junk, .junk, .junk, .junk, .junk, .junk, .junk, .junk, .junk, .junk, .junk, .junk, .junk, .junk, .junk, .junk, .junk, .junk, .junk, .junk, .junk, .junk, .junk, .junk, .junk, .junk, .junk, .junk, .junk, .junk] := rfl
@[go_sem] theorem resT_81 (T : List AV) (H : List AObj) : resT Go.Proofs.Try.prog Go.Proofs.Try.f81 T H = resS Go.Proofs.Try.prog T H [.tmp 4] := id rfl
theorem args0_81 (a0 a1 : AV) : args0 Go.Proofs.Try.f81 [a0, a1] = [a0, a1, .junk, .junk, .junk, .junk, .junk, .junk, .junk, .junk, .junk, .junk, .junk, .junk, .junk, .junk, .junk, .junk, .junk] := rfl
@[go_sem] theorem resT_82 (T : List AV) (H : List AObj) : resT Go.Proofs.Try.prog Go.Proofs.Try.f82 T H = resS Go.Proofs.Try.prog T H [.tmp 4] := id rfl
theorem args0_82 (a0 a1 : AV) : args0 Go.Proofs.Try.f82 [a0, a1] = [a0, a1, .junk, .junk, .junk, .junk, .junk, .junk, .junk, .junk, .junk, .junk, .junk, .junk, .junk, .junk, .junk, .junk, .junk] := rfl
@[go_sem] theorem resT_83 (T : List AV) (H : List AObj) : resT Go.Proofs.Try.prog Go.Proofs.Try.f83 T H = resS Go.Proofs.Try.prog T H [.tmp 3] := id rfl
theorem args0_83 (a0 a1 : AV) : args0 Go.Proofs.Try.f83 [a0, a1] = [a0, a1, .junk, .junk, .junk, .junk, .junk, .junk] := rfl
@[go_sem] theorem resT_84 (T : List AV) (H : List AObj) : resT Go.Proofs.Try.prog Go.Proofs.Try.f84 T H = resS Go.Proofs.Try.prog T H [.tmp 4] := id rfl
theorem args0_84 (a0 a1 : AV) : args0 Go.Proofs.Try.f84 [a0, a1] = [a0, a1, .junk, .junk, .junk, .junk, .junk, .junk, .junk, .junk, .junk, .junk, .junk, .junk, .junk, .junk, .junk, .junk, .junk] := rfl
@[go_sem] theorem resT_85 (T : List AV) (H : List AObj) : resT Go.Proofs.Try.prog Go.Proofs.Try.f85 T H = resS Go.Proofs.Try.prog T H [.tmp 6, .tmp 7] := id rfl
theorem args0_85 (a0 a1 a2 : AV) : args0 Go.Proofs.Try.f85 [a0, a1, a2] = [a0, a1, a2, .junk, .junk, .junk, .junk, .junk, .junk, .junk, .junk, .junk, .junk, .junk, .junk, .junk] := rfl
@[go_sem] theorem resT_86 (T : List AV) (H : List AObj) : resT Go.Proofs.Try.prog Go.Proofs.Try.f86 T H = resS Go.Proofs.Try.prog T H [.cell 2 28] := id rfl
theorem args0_86 (a0 : AV) : args0 Go.Proofs.Try.f86 [a0] = [a0, .junk, .junk, .junk, .junk, .junk, .junk, .junk, .junk, .junk, .junk, .junk, .junk, .junk, .junk, .junk, .junk, .junk, .junk, .junk, .junk, .junk, .junk, .junk, .junk, .junk, .junk, .junk, .junk, .junk, .junk, .junk] := rfl
@[go_sem] theorem resT_87 (T : List AV) (H : List AObj) : resT Go.Proofs.Try.prog Go.Proofs.Try.f87 T H = resS Go.Proofs.Try.prog T H [.cell 6 31] := id rfl
theorem args0_87 (a0 a1 a2 : AV) : args0 Go.Proofs.Try.f87 [a0, a1, a2] = [a0, a1, a2, .junk, .junk, .junk, .junk, .junk, .junk, .junk, .junk, .junk, .junk, .junk, .junk, .junk, .junk, .junk, .junk, .junk, .junk, .junk, .junk, .junk, .junk, .junk, .junk, .junk, .junk, .junk, .junk, .junk, .junk, .junk, .junk, .junk, .junk, .junk, .junk, .junk, .junk, .junk, .junk, .junk, .junk, .junk, .junk, .junk, .junk, .junk, .junk, .junk, .junk, .junk, .junk, .junk, .junk, .junk, .junk, .junk, .junk, .junk, .junk, .junk, .junk, .junk, .junk, .junk, .junk, .junk, .junk, .junk, .junk, .junk, .junk, .junk, .junk, .junk, .junk, .junk, .junk, .junk, .junk, .junk, .junk, .junk, .junk, .junk, .junk, .junk, .junk, .junk, .junk] := rfl
@[go_sem] theorem resT_88 (T : List AV) (H : List AObj) : resT Go.Proofs.Try.prog Go.Proofs.Try.f88 T H = resS Go.Proofs.Try.prog T H [.tmp 2] := id rfl
theorem args0_88 (a0 : AV) : args0 Go.Proofs.Try.f88 [a0] = [a0, .junk, .junk, .junk, .junk, .junk, .junk, .junk] := rfl
@[go_sem] theorem resT_89 (T : List AV) (H : List AObj) : resT Go.Proofs.Try.prog Go.Proofs.Try.f89 T H = resS Go.Proofs.Try.prog T H [.tmp 6, .tmp 7] := id rfl
theorem args0_89 (a0 a1 a2 : AV) : args0 Go.Proofs.Try.f89 [a0, a1, a2] = [a0, a1, a2, .junk, .junk, .junk, .junk, .junk, .junk, .junk, .junk, .junk, .junk, .junk, .junk, .junk, .junk, .junk, .junk, .junk, .junk, .junk, .junk, .junk, .junk, .junk, .junk, .junk, .junk, .junk, .junk, .junk, .junk, .junk, .junk, .junk, .junk, .junk, .junk, .junk, .junk, .junk, .junk, .junk, .junk, .junk, .junk, .junk] := rfl
@[go_sem] theorem resT_90 (T : List AV) (H : List AObj) : resT Go.Proofs.Try.prog Go.Proofs.Try.f90 T H = resS Go.Proofs.Try.prog T H [.cell 8 4] := id rfl
theorem args0_90 (a0 a1 a2 a3 : AV) : args0 Go.Proofs.Try.f90 [a0, a1, a2, a3] = [a0, a1, a2, a3, .junk, .junk, .junk, .junk, .junk, .junk, .junk, .junk, .junk, .junk, .junk, .junk, .junk, .junk, .junk, .junk, .junk, .junk, .junk, .junk, .junk, .junk, .junk, .junk, .junk, .junk, .junk, .junk, .junk, .junk, .junk, .junk, .junk, .junk, .junk, .junk, .junk, .junk, .junk, .junk, .junk, .junk, .junk, .junk, .junk, .junk, .junk, .junk, .junk, .junk, .junk, .junk, .junk, .junk, .junk, .junk, .junk, .junk, .junk, .junk, .junk, .junk, .junk, .junk, .junk, .junk, .junk, .junk, .junk, .junk, .junk, .junk, .junk, .junk, .junk, .junk] := rfl
@[go_sem] theorem resT_91 (T : List AV) (H : List AObj) : resT Go.Proofs.Try.prog Go.Proofs.Try.f91 T H = resS Go.Proofs.Try.prog T H [.tmp 2] := id rfl
theorem args0_91 (a0 : AV) : args0 Go.Proofs.Try.f91 [a0] = [a0, .junk, .junk, .junk, .junk, .junk, .junk, .junk, .junk, .junk, .junk, .junk, .junk, .junk, .junk, .junk, .junk, .junk] := rfl
@[go_sem] theorem resT_92 (T : List AV) (H : List AObj) : resT Go.Proofs.Try.prog Go.Proofs.Try.f92 T H = resS Go.Proofs.Try.prog T H [.tmp 4] := id rfl
theorem args0_92 (a0 a1 : AV) : args0 Go.Proofs.Try.f92 [a0, a1] = [a0, a1, .junk, .junk, .junk, .junk, .junk, .junk] := rfl
@[go_sem] theorem resT_93 (T : List AV) (H : List AObj) : resT Go.Proofs.Try.prog Go.Proofs.Try.f93 T H = resS Go.Proofs.Try.prog T H [.tmp 4] := id rfl
theorem args0_93 (a0 a1 : AV) : args0 Go.Proofs.Try.f93 [a0, a1] = [a0, a1, .junk, .junk, .junk, .junk, .junk, .junk] := rfl
@[go_sem] theorem resT_94 (T : List AV) (H : List AObj) : resT Go.Proofs.Try.prog Go.Proofs.Try.f94 T H = resS Go.Proofs.Try.prog T H [.tmp 2] := id rfl
theorem args0_94 (a0 : AV) : args0 Go.Proofs.Try.f94 [a0] = [a0, .junk, .junk, .junk, .junk, .junk, .junk, .junk, .junk, .junk, .junk, .junk, .junk, .junk, .junk] := rfl
@[go_sem] theorem resT_95 (T : List AV) (H : List AObj) : resT Go.Proofs.Try.prog Go.Proofs.Try.f95 T H = resS Go.Proofs.Try.prog T H [.tmp 2] := id rfl
theorem args0_95 (a0 : AV) : args0 Go.Proofs.Try.f95 [a0] = [a0, .junk, .junk, .junk, .junk, .junk, .junk, .junk, .junk, .junk, .junk, .junk, .junk, .junk, .junk, .junk, .junk, .junk, .junk, .junk, .junk, .junk, .junk, .junk, .junk, .junk, .junk, .junk, .junk, .junk, .junk, .junk] := rfl
@[go_sem] theorem resT_96 (T : List AV) (H : List AObj) : resT Go.Proofs.Try.prog Go.Proofs.Try.f96 T H = resS Go.Proofs.Try.prog T H [.tmp 6] := id rfl
theorem args0_96 (a0 a1 a2 : AV) : args0 Go.Proofs.Try.f96 [a0, a1, a2] = [a0, a1, a2, .junk, .junk, .junk, .junk, .junk, .junk, .junk] := rfl
@[go_sem] theorem resT_97 (T : List AV) (H : List AObj) : resT Go.Proofs.Try.prog Go.Proofs.Try.f97 T H = resS Go.Proofs.Try.prog T H [.tmp 2] := id rfl
theorem args0_97 (a0 : AV) : args0 Go.Proofs.Try.f97 [a0] = [a0, .junk, .junk, .junk, .junk] := rfl
@[go_sem] theorem resT_98 (T : List AV) (H : List AObj) : resT Go.Proofs.Try.prog Go.Proofs.Try.f98 T H = resS Go.Proofs.Try.prog T H [.tmp 4] := id rfl
theorem args0_98 (a0 a1 : AV) : args0 Go.Proofs.Try.f98 [a0, a1] = [a0, a1, .junk, .junk, .junk, .junk, .junk, .junk, .junk, .junk, .junk, .junk, .junk, .junk, .junk, .junk, .junk, .junk, .junk, .junk, .junk, .junk, .junk, .junk, .junk, .junk, .junk, .junk, .junk, .junk, .junk, .junk, .junk, .junk, .junk, .junk, .junk, .junk, .junk, .junk, .junk, .junk, .junk, .junk, .junk, .junk, .junk, .junk, .junk, .junk, .junk, .junk, .junk, .junk, .junk, .junk, .junk, .junk, .junk, .junk, .junk, .junk, .junk, .junk, .junk, .junk, .junk, .junk, .junk, .junk, .junk, .junk, .junk, .junk, .junk, .junk, .junk, .junk, .junk, .junk, .junk, .junk, .junk, .junk, .junk, .junk, .junk, .junk, .junk, .junk, .junk, .junk, .junk, .junk, .junk, .junk, .junk, .junk, .junk, .junk, .junk, .junk, .junk, .junk, .junk, .junk, .junk, .junk, .junk, .junk, .junk, .junk, .junk, .junk, .junk, .junk] := rfl
@[go_sem] theorem resT_99 (T : List AV) (H : List AObj) : resT Go.Proofs.Try.prog Go.Proofs.Try.f99 T H = resS Go.Proofs.Try.prog T H [.tmp 6] := id rfl
theorem args0_99 (a0 a1 a2 : AV) : args0 Go.Proofs.Try.f99 [a0, a1, a2] = [a0, a1, a2, .junk, .junk, .junk, .junk, .junk, .junk, .junk, .junk, .junk, .junk, .junk, .junk, .junk, .junk, .junk, .junk, .junk, .junk, .junk, .junk, .junk, .junk, .junk, .junk, .junk, .junk, .junk, .junk, .junk, .junk, .junk, .junk, .junk, .junk, .junk, .junk, .junk, .junk, .junk, .junk, .junk, .junk, .junk, .junk, .junk, .junk, .junk, .junk, .junk, .junk, .junk, .junk, .junk, .junk, .junk, .junk, .junk, .junk, .junk, .junk, .junk, .junk, .junk, .junk, .junk, .junk, .junk, .junk, .junk, .junk, .junk, .junk, .junk, .junk, .junk, .junk] := rfl
@[go_sem] theorem resT_100 (T : List AV) (H : List AObj) : resT Go.Proofs.Try.prog Go.Proofs.Try.f100 T H = resS Go.Proofs.Try.prog T H [.tmp 4] := id rfl
theorem args0_100 (a0 a1 : AV) : args0 Go.Proofs.Try.f100 [a0, a1] = [a0, a1, .junk, .junk, .junk, .junk, .junk, .junk, .junk, .junk, .junk, .junk, .junk, .junk, .junk, .junk, .junk, .junk, .junk, .junk, .junk, .junk, .junk, .junk, .junk, .junk] := rfl
@[go_sem] theorem resT_101 (T : List AV) (H : List AObj) : resT Go.Proofs.Try.prog Go.Proofs.Try.f101 T H = resS Go.Proofs.Try.prog T H [.tmp 4] := id rfl
theorem args0_101 (a0 a1 : AV) : args0 Go.Proofs.Try.f101 [a0, a1] = [a0, a1, .junk, .junk, .junk, .junk, .junk, .junk, .junk, .junk] := rfl
@[go_sem] theorem resT_102 (T : List AV) (H : List AObj) : resT Go.Proofs.Try.prog Go.Proofs.Try.f102 T H = resS Go.Proofs.Try.prog T H [.tmp 4] := id rfl
theorem args0_102 (a0 a1 : AV) : args0 Go.Proofs.Try.f102 [a0, a1] = [a0, a1, .junk, .junk, .junk, .junk, .junk, .junk, .junk, .junk, .junk, .junk, .junk, .junk, .junk, .junk, .junk, .junk, .junk] := rfl
@[go_sem] theorem resT_103 (T : List AV) (H : List AObj) : resT Go.Proofs.Try.prog Go.Proofs.Try.f103 T H = resS Go.Proofs.Try.prog T H [.tmp 4] := id rfl
theorem args0_103 (a0 a1 a2 : AV) : args0 Go.Proofs.Try.f103 [a0, a1, a2] = [a0, a1, a2, .junk, .junk, .junk, .junk, .junk, .junk, .junk, .junk, .junk, .junk, .junk, .junk] := rfl
@[go_sem] theorem resT_104 (T : List AV) (H : List AObj) : resT Go.Proofs.Try.prog Go.Proofs.Try.f104 T H = resS Go.Proofs.Try.prog T H [.tmp 2] := id rfl
theorem args0_104 (a0 : AV) : args0 Go.Proofs.Try.f104 [a0] = [a0, .junk, .junk, .junk, .junk, .junk, .junk, .junk] := rfl
@[go_sem] theorem resT_105 (T : List AV) (H : List AObj) : resT Go.Proofs.Try.prog Go.Proofs.Try.f105 T H = resS Go.Proofs.Try.prog T H [.tmp 4] := id rfl
theorem args0_105 (a0 a1 : AV) : args0 Go.Proofs.Try.f105 [a0, a1] = [a0, a1, .junk, .junk, .junk, .junk] := rfl
@[go_sem] theorem resT_106 (T : List AV) (H : List AObj) : resT Go.Proofs.Try.prog Go.Proofs.Try.f106 T H = resS Go.Proofs.Try.prog T H [.tmp 6, .tmp 7] := id rfl
theorem args0_106 (a0 a1 a2 : AV) : args0 Go.Proofs.Try.f106 [a0, a1, a2] = [a0, a1, a2, .junk, .junk, .junk, .junk, .junk, .junk, .junk, .junk, .junk, .junk, .junk, .junk, .junk, .junk, .junk, .junk, .junk, .junk, .junk, .junk, .junk, .junk, .junk, .junk, .junk, .junk, .junk, .junk, .junk, .junk, .junk, .junk, .junk, .junk, .junk] := rfl
@[go_sem] theorem resT_107 (T : List AV) (H : List AObj) : resT Go.Proofs.Try.prog Go.Proofs.Try.f107 T H = resS Go.Proofs.Try.prog T H [.tmp 8] := id rfl
theorem args0_107 (a0 a1 a2 a3 : AV) : args0 Go.Proofs.Try.f107 [a0, a1, a2, a3] = [a0, a1, a2, a3, .junk, .junk, .junk, .junk, .junk, .junk, .junk, .junk] := rfl
@[go_sem] theorem resT_108 (T : List AV) (H : List AObj) : resT Go.Proofs.Try.prog Go.Proofs.Try.f108 T H = resS Go.Proofs.Try.prog T H [.cell 4 101, .cell 5 48] := id rfl
theorem args0_108 (a0 a1 : AV) : args0 Go.Proofs.Try.f108 [a0, a1] = [a0, a1, .junk, .junk, .junk, .junk, .junk, .junk, .junk, .junk, .junk, .junk, .junk, .junk, .junk, .junk, .junk, .junk, .junk, .junk, .junk, .junk, .junk, .junk, .junk, .junk] := rfl
@[go_sem] theorem resT_109 (T : List AV) (H : List AObj) : resT Go.Proofs.Try.prog Go.Proofs.Try.f109 T H = resS Go.Proofs.Try.prog T H [.tmp 2] := id rfl
theorem args0_109 (a0 : AV) : args0 Go.Proofs.Try.f109 [a0] = [a0, .junk, .junk, .junk, .junk, .junk, .junk, .junk] := rfl
@[go_sem] theorem resT_110 (T : List AV) (H : List AObj) : resT Go.Proofs.Try.prog Go.Proofs.Try.f110 T H = resS Go.Proofs.Try.prog T H [.tmp 3] := id rfl
theorem args0_110 (a0 a1 : AV) : args0 Go.Proofs.Try.f110 [a0, a1] = [a0, a1, .junk, .junk, .junk, .junk, .junk, .junk] := rfl
@[go_sem] theorem resT_112 (T : List AV) (H : List AObj) : resT Go.Proofs.Try.prog Go.Proofs.Try.f112 T H = resS Go.Proofs.Try.prog T H [.tmp 4] := id rfl
theorem args0_112 (a0 a1 : AV) : args0 Go.Proofs.Try.f112 [a0, a1] = [a0, a1, .junk, .junk, .junk, .junk, .junk, .junk] := rfl
@[go_sem] theorem resT_113 (T : List AV) (H : List AObj) : resT Go.Proofs.Try.prog Go.Proofs.Try.f113 T H = resS Go.Proofs.Try.prog T H [.tmp 2] := id rfl
theorem args0_113 (a0 : AV) : args0 Go.Proofs.Try.f113 [a0] = [a0, .junk, .junk, .junk, .junk, .junk, .junk, .junk, .junk, .junk, .junk, .junk, .junk, .junk, .junk, .junk] := rfl
@[go_sem] theorem resT_114 (T : List AV) (H : List AObj) : resT Go.Proofs.Try.prog Go.Proofs.Try.f114 T H = resS Go.Proofs.Try.prog T H [.tmp 6] := id rfl
theorem args0_114 (a0 a1 a2 : AV) : args0 Go.Proofs.Try.f114 [a0, a1, a2] = [a0, a1, a2, .junk, .junk, .junk, .junk, .junk, .junk, .junk] := rfl
@[go_sem] theorem resT_115 (T : List AV) (H : List AObj) : resT Go.Proofs.Try.prog Go.Proofs.Try.f115 T H = resS Go.Proofs.Try.prog T H [.tmp 2] := id rfl
theorem args0_115 (a0 : AV) : args0 Go.Proofs.Try.f115 [a0] = [a0, .junk, .junk, .junk, .junk] := rfl
@[go_sem] theorem resT_116 (T : List AV) (H : List AObj) : resT Go.Proofs.Try.prog Go.Proofs.Try.f116 T H = resS Go.Proofs.Try.prog T H [.tmp 4] := id rfl
theorem args0_116 (a0 a1 : AV) : args0 Go.Proofs.Try.f116 [a0, a1] = [a0, a1, .junk, .junk, .junk, .junk, .junk, .junk, .junk, .junk, .junk, .junk, .junk, .junk, .junk, .junk, .junk, .junk, .junk] := rfl
@[go_sem] theorem resT_117 (T : List AV) (H : List AObj) : resT Go.Proofs.Try.prog Go.Proofs.Try.f117 T H = resS Go.Proofs.Try.prog T H [.tmp 4] := id rfl
theorem args0_117 (a0 a1 a2 : AV) : args0 Go.Proofs.Try.f117 [a0, a1, a2] = [a0, a1, a2, .junk, .junk, .junk, .junk, .junk, .junk, .junk] := rfl
@[go_sem] theorem resT_118 (T : List AV) (H : List AObj) : resT Go.Proofs.Try.prog Go.Proofs.Try.f118 T H = resS Go.Proofs.Try.prog T H [.tmp 4] := id rfl
theorem args0_118 (a0 a1 : AV) : args0 Go.Proofs.Try.f118 [a0, a1] = [a0, a1, .junk, .junk, .junk, .junk, .junk, .junk, .junk, .junk, .junk, .junk, .junk, .junk, .junk, .junk, .junk, .junk, .junk] := rfl
@[go_sem] theorem resT_119 (T : List AV) (H : List AObj) : resT Go.Proofs.Try.prog Go.Proofs.Try.f119 T H = resS Go.Proofs.Try.prog T H [.tmp 6] := id rfl
theorem args0_119 (a0 a1 a2 : AV) : args0 Go.Proofs.Try.f119 [a0, a1, a2] = [a0, a1, a2, .junk, .junk, .junk, .junk, .junk, .junk, .junk] := rfl
@[go_sem] theorem resT_120 (T : List AV) (H : List AObj) : resT Go.Proofs.Try.prog Go.Proofs.Try.f120 T H = resS Go.Proofs.Try.prog T H [.tmp 2] := id rfl
theorem args0_120 (a0 : AV) : args0 Go.Proofs.Try.f120 [a0] = [a0, .junk, .junk, .junk, .junk] := rfl
@[go_sem] theorem resT_121 (T : List AV) (H : List AObj) : resT Go.Proofs.Try.prog Go.Proofs.Try.f121 T H = resS Go.Proofs.Try.prog T H [.tmp 4] := id rfl
theorem args0_121 (a0 a1 : AV) : args0 Go.Proofs.Try.f121 [a0, a1] = [a0, a1, .junk, .junk, .junk, .junk, .junk, .junk, .junk, .junk, .junk, .junk, .junk, .junk, .junk, .junk, .junk, .junk, .junk, .junk, .junk, .junk, .junk, .junk, .junk, .junk, .junk, .junk, .junk, .junk] := rfl
@[go_sem] theorem resT_122 (T : List AV) (H : List AObj) : resT Go.Proofs.Try.prog Go.Proofs.Try.f122 T H = resS Go.Proofs.Try.prog T H [.tmp 4] := id rfl
theorem args0_122 (a0 a1 : AV) : args0 Go.Proofs.Try.f122 [a0, a1] = [a0, a1, .junk, .junk, .junk, .junk, .junk, .junk, .junk, .junk, .junk, .junk, .junk, .junk, .junk, .junk, .junk, .junk, .junk, .junk, .junk, .junk, .junk, .junk, .junk, .junk] := rfl
@[go_sem] theorem resT_123 (T : List AV) (H : List AObj) : resT Go.Proofs.Try.prog Go.Proofs.Try.f123 T H = resS Go.Proofs.Try.prog T H [] := id rfl
theorem args0_123 (a0 a1 a2 : AV) : args0 Go.Proofs.Try.f123 [a0, a1, a2] = [a0, a1, a2, .junk, .junk, .junk, .junk, .junk, .junk, .junk, .junk, .junk, .junk, .junk, .junk, .junk, .junk, .junk, .junk, .junk, .junk, .junk, .junk, .junk, .junk, .junk, .junk] := rfl
@[go_sem] theorem resT_124 (T : List AV) (H : List AObj) : resT Go.Proofs.Try.prog Go.Proofs.Try.f124 T H = resS Go.Proofs.Try.prog T H [.tmp 3] := id rfl
theorem args0_124 (a0 a1 : AV) : args0 Go.Proofs.Try.f124 [a0, a1] = [a0, a1, .junk, .junk, .junk, .junk, .junk, .junk] := rfl
@[go_sem] theorem resT_125 (T : List AV) (H : List AObj) : resT Go.Proofs.Try.prog Go.Proofs.Try.f125 T H = resS Go.Proofs.Try.prog T H [.tmp 4] := id rfl
theorem args0_125 (a0 a1 : AV) : args0 Go.Proofs.Try.f125 [a0, a1] = [a0, a1, .junk, .junk, .junk, .junk, .junk, .junk, .junk] := rfl
@[go_sem] theorem resT_126 (T : List AV) (H : List AObj) : resT Go.Proofs.Try.prog Go.Proofs.Try.f126 T H = resS Go.Proofs.Try.prog T H [.tmp 5] := id rfl
theorem args0_126 (a0 a1 a2 a3 : AV) : args0 Go.Proofs.Try.f126 [a0, a1, a2, a3] = [a0, a1, a2, a3, .junk, .junk, .junk, .junk, .junk, .junk, .junk, .junk, .junk, .junk, .junk, .junk, .junk, .junk] := rfl
@[go_sem] theorem resT_128 (T : List AV) (H : List AObj) : resT Go.Proofs.Try.prog Go.Proofs.Try.f128 T H = resS Go.Proofs.Try.prog T H [.tmp 4] := id rfl
theorem args0_128 (a0 a1 a2 : AV) : args0 Go.Proofs.Try.f128 [a0, a1, a2] = [a0, a1, a2, .junk, .junk, .junk, .junk, .junk, .junk, .junk] := rfl
@[go_sem] theorem resT_129 (T : List AV) (H : List AObj) : resT Go.Proofs.Try.prog Go.Proofs.Try.f129 T H = resS Go.Proofs.Try.prog T H [.tmp 4] := id rfl
theorem args0_129 (a0 a1 a2 : AV) : args0 Go.Proofs.Try.f129 [a0, a1, a2] = [a0, a1, a2, .junk, .junk, .junk, .junk, .junk, .junk, .junk] := rfl
@[go_sem] theorem resT_130 (T : List AV) (H : List AObj) : resT Go.Proofs.Try.prog Go.Proofs.Try.f130 T H = resS Go.Proofs.Try.prog T H [.tmp 4] := id rfl
theorem args0_130 (a0 a1 : AV) : args0 Go.Proofs.Try.f130 [a0, a1] = [a0, a1, .junk, .junk, .junk, .junk, .junk, .junk, .junk, .junk, .junk, .junk, .junk, .junk, .junk, .junk, .junk, .junk, .junk] := rfl
theorem mixed : Go.Proofs.Try.prog.follows .mixedOrders = true := by kernel_rfl

end Go.Proofs.Ytamoclnnakdiaaa.Abs
