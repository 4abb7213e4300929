/-
  A part of the proof: GCa GCb GCc GCd GCe GCf GCg GCh GU.
-/
import Derived.Test.YtebfimcapoekjaaGreatProg
import Derived.KernelRfl
import Derived.Test.YtebfimcapoekjaaGreatMf
namespace Go.Vm
set_option maxRecDepth 100000
theorem G_3_ok : trFunc Go.Proofs.Tryz.prog 3 [0, 2, 3, 4, 5, 6, 7, 8, 9, 11, 19, 30, 48, 90, 105] [(9, [0, 0, 0, 0, 0, 0, 0, 0, 0, 0, 1, 0]), (13, [0, 1, 0, 0, 0, 0, 1, 0, 0]), (16, [0, 1, 0, 0, 0, 0, 0, 0, 0, 0, 0, 0, 1, 0, 0])] [] = some G_3 := by kernel_rfl
theorem G_7_ok : trFunc Go.Proofs.Tryz.prog 7 [0, 1, 4] [] [] = some G_7 := by kernel_rfl
theorem G_8_ok : trFunc Go.Proofs.Tryz.prog 8 [0, 2] [(0, [1])] [] = some G_8 := by kernel_rfl
theorem G_9_ok : trFunc Go.Proofs.Tryz.prog 9 [0, 1, 2, 6, 7, 8, 9, 10, 50, 58] [(0, [1, 0]), (1, [0, 0, 1, 0, 0, 0, 0, 0]), (4, [0, 1, 0]), (5, [0, 0, 0, 1, 0]), (7, [0, 0, 1, 0, 0, 0, 0])] [] = some G_9 := by kernel_rfl
theorem G_10_ok : trFunc Go.Proofs.Tryz.prog 10 [0, 2, 3, 4, 8] [] [] = some G_10 := by kernel_rfl
theorem G_11_ok : trFunc Go.Proofs.Tryz.prog 11 [0, 2] [] [] = some G_11 := by kernel_rfl
theorem G_12_ok : trFunc Go.Proofs.Tryz.prog 12 [0, 1, 2] [(0, [1, 0])] [] = some G_12 := by kernel_rfl
theorem G_13_ok : trFunc Go.Proofs.Tryz.prog 13 [0, 1, 2, 3, 4, 5, 6, 7, 10, 27, 46] [(0, [1, 1, 1]), (3, [0, 0, 0, 0, 0, 0, 0, 1, 0])] [] = some G_13 := by kernel_rfl
theorem G_14_ok : trFunc Go.Proofs.Tryz.prog 14 [0, 1, 2, 3, 5] [(1, [0, 0, 0, 0, 1, 0]), (2, [0, 0, 0, 0, 0, 0, 0, 0, 0, 0, 0, 0, 1, 0, 0]), (3, [0, 0, 0, 0, 0, 0, 0, 0, 0, 0, 1, 0, 0])] [] = some G_14 := by kernel_rfl
theorem G_15_ok : trFunc Go.Proofs.Tryz.prog 15 [0, 1, 2, 3, 4] [(0, [1, 1, 1])] [] = some G_15 := by kernel_rfl
theorem G_17_ok : trFunc Go.Proofs.Tryz.prog 17 [0, 1, 2] [(0, [1, 0])] [] = some G_17 := by kernel_rfl
theorem G_21_ok : trFunc Go.Proofs.Tryz.prog 21 [0, 1, 2, 3] [(0, [1, 1]), (1, [0, 1, 0])] [] = some G_21 := by kernel_rfl
theorem G_23_ok : trFunc Go.Proofs.Tryz.prog 23 [0, 1, 2, 3, 4] [(0, [1, 1, 0])] [] = some G_23 := by kernel_rfl
theorem G_26_ok : trFunc Go.Proofs.Tryz.prog 26 [0, 1, 4, 5, 6, 8, 10, 11, 12, 14, 22, 26, 27, 28, 29, 36, 37, 38, 39, 44, 58, 59, 60, 61, 73] [(3, [0, 0, 1, 0]), (6, [0, 0, 1, 0]), (9, [0, 0, 1, 0]), (13, [0, 0, 1]), (14, [0, 0, 1]), (19, [0, 0, 1, 0]), (22, [0, 0, 0, 0, 1]), (23, [0, 0, 0, 0, 1]), (25, [0, 0, 0, 0, 1]), (26, [0, 0, 0, 0, 1])] [] = some G_26 := by kernel_rfl
theorem G_27_ok : trFunc Go.Proofs.Tryz.prog 27 [0, 2, 3, 5, 7, 8, 18, 19, 20, 21, 37, 38, 39, 40] [(1, [0, 0, 1, 0, 1, 0]), (5, [0, 0, 0, 0, 0, 0, 0, 0, 1, 0]), (10, [0, 0, 0, 0, 1, 0, 0, 0, 0, 0, 0, 0])] [] = some G_27 := by kernel_rfl
theorem G_28_ok : trFunc Go.Proofs.Tryz.prog 28 [0, 1, 2, 3, 6, 7, 9, 10, 11, 13, 15, 16, 17, 18, 19, 38, 49, 50, 51, 52, 64, 66, 67, 68, 69] [(0, [1, 0]), (4, [0, 0, 1, 0]), (5, [0, 0, 0, 0, 0, 0, 1, 0, 0, 0, 1, 1, 0, 0, 0, 0, 0]), (13, [0, 0, 0, 0, 0, 0, 0, 0, 0, 1]), (18, [0, 0, 1, 0]), (19, [0, 0, 0, 0, 1, 0, 0, 0, 1, 0, 0, 0, 0]), (21, [0, 0, 1, 0, 0])] [] = some G_28 := by kernel_rfl
theorem G_29_ok : trFunc Go.Proofs.Tryz.prog 29 [0, 1, 2, 4, 5, 6, 7, 8, 10, 11, 13, 14, 16, 17, 18, 23, 24, 25, 26, 27, 28, 41, 42, 43, 44, 64, 76, 77, 78, 79, 111, 118, 142, 143, 144, 145, 161] [(0, [1, 1, 0]), (1, [0, 0, 1, 1, 0]), (3, [0, 1, 0]), (7, [0, 0, 0, 0, 0, 0, 0, 0, 0, 1, 0]), (16, [0, 0, 0, 0, 0, 0, 0, 0, 0, 1, 0]), (17, [0, 0, 0, 0, 1, 0, 0, 0, 0, 0, 0, 0, 0, 0, 0, 0]), (19, [0, 0, 0, 0, 0, 1, 0]), (21, [0, 0, 0, 0, 0, 0, 1, 1, 0]), (22, [0, 0, 0, 0, 0, 1, 0, 0, 0]), (30, [0, 0, 0, 0, 0, 1, 0, 0, 0])] [] = some G_29 := by kernel_rfl
theorem G_30_ok : trFunc Go.Proofs.Tryz.prog 30 [0, 1, 2, 3] [(0, [1, 1]), (1, [0, 1, 0])] [] = some G_30 := by kernel_rfl
theorem G_31_ok : trFunc Go.Proofs.Tryz.prog 31 [0, 1, 2, 3, 4, 9] [(0, [1, 0])] [] = some G_31 := by kernel_rfl
theorem G_32_ok : trFunc Go.Proofs.Tryz.prog 32 [0, 1, 4, 5, 9, 18] [(0, [1])] [] = some G_32 := by kernel_rfl
theorem G_34_ok : trFunc Go.Proofs.Tryz.prog 34 [0, 2] [(0, [1])] [] = some G_34 := by kernel_rfl
theorem G_35_ok : trFunc Go.Proofs.Tryz.prog 35 [0, 1, 2, 3, 4, 6] [(0, [1, 1, 0])] [] = some G_35 := by kernel_rfl
theorem G_36_ok : trFunc Go.Proofs.Tryz.prog 36 [0, 2] [(0, [1])] [] = some G_36 := by kernel_rfl
theorem G_44_ok : trFunc Go.Proofs.Tryz.prog 44 [0, 2, 3, 4, 8] [] [] = some G_44 := by kernel_rfl
theorem G_45_ok : trFunc Go.Proofs.Tryz.prog 45 [0, 2, 3, 4, 8] [] [] = some G_45 := by kernel_rfl
theorem G_48_ok : trFunc Go.Proofs.Tryz.prog 48 [0, 1, 4, 5, 10, 14, 26] [] [] = some G_48 := by kernel_rfl
theorem G_49_ok : trFunc Go.Proofs.Tryz.prog 49 [0, 1, 4, 5, 10, 14, 26] [] [] = some G_49 := by kernel_rfl
theorem G_56_ok : trFunc Go.Proofs.Tryz.prog 56 [0, 2, 3] [(1, [0, 1, 0, 0]), (2, [0, 0, 1]), (3, [0, 0, 1]), (4, [0, 1, 0])] [100, 205] = some G_56 := by kernel_rfl
theorem G_62_ok : trFunc Go.Proofs.Tryz.prog 62 [0, 1, 2, 4] [(0, [1, 0]), (1, [0, 1])] [] = some G_62 := by kernel_rfl
theorem G_63_ok : trFunc Go.Proofs.Tryz.prog 63 [0, 1, 2, 3, 4, 7] [(0, [1, 0, 0]), (1, [0, 1, 0]), (3, [0, 1, 0]), (4, [0, 0, 0, 1]), (5, [0, 0, 0, 0, 1]), (6, [0, 0, 0, 0, 1]), (7, [0, 0, 0, 0, 1, 0, 0, 0, 0, 1, 0, 0])] [] = some G_63 := by kernel_rfl
theorem G_64_ok : trFunc Go.Proofs.Tryz.prog 64 [0, 1, 2, 7, 8, 9, 10, 11, 33, 35] [] [] = some G_64 := by kernel_rfl
theorem G_66_ok : trFunc Go.Proofs.Tryz.prog 66 [0, 2, 3, 5, 8, 9, 10, 11, 12, 18] [(6, [0, 0, 1, 0])] [] = some G_66 := by kernel_rfl
theorem G_67_ok : trFunc Go.Proofs.Tryz.prog 67 [0, 2] [(1, [0, 0, 0, 0, 0, 1])] [] = some G_67 := by kernel_rfl
theorem G_68_ok : trFunc Go.Proofs.Tryz.prog 68 [0, 2] [(1, [0, 0, 0, 0, 1, 0])] [] = some G_68 := by kernel_rfl
theorem G_69_ok : trFunc Go.Proofs.Tryz.prog 69 [0, 2] [(1, [0, 1, 0])] [] = some G_69 := by kernel_rfl
theorem G_70_ok : trFunc Go.Proofs.Tryz.prog 70 [0, 1, 2, 3, 6] [(0, [1, 0, 0])] [] = some G_70 := by kernel_rfl
theorem G_71_ok : trFunc Go.Proofs.Tryz.prog 71 [0, 2] [] [] = some G_71 := by kernel_rfl
theorem G_72_ok : trFunc Go.Proofs.Tryz.prog 72 [0, 1, 2, 6, 7, 8, 10, 11, 12, 13, 14, 15, 24, 44, 59, 71, 83, 135, 136, 137, 154, 155, 156] [(1, [0, 0, 0, 1]), (2, [0, 0, 0, 1, 0]), (3, [0, 0, 0, 0, 1, 0, 0, 0, 0, 1, 0, 0]), (4, [0, 0, 0, 1, 0, 0, 0, 1, 0, 0]), (6, [0, 0, 0, 0, 0, 0, 0, 0, 0, 0, 0, 0, 0, 0, 1, 1, 0, 0]), (18, [0, 0, 0, 0, 0, 0, 0, 0, 0, 0, 0, 1])] [] = some G_72 := by kernel_rfl
theorem G_73_ok : trFunc Go.Proofs.Tryz.prog 73 [0, 1, 2, 3, 4] [(0, [1, 1, 0]), (1, [0, 0, 0, 0, 0, 0, 0, 1, 0])] [] = some G_73 := by kernel_rfl
theorem G_74_ok : trFunc Go.Proofs.Tryz.prog 74 [0, 1, 4] [(1, [0, 0, 0, 1, 0])] [] = some G_74 := by kernel_rfl
theorem G_75_ok : trFunc Go.Proofs.Tryz.prog 75 [0, 1, 4, 5] [] [] = some G_75 := by kernel_rfl
theorem G_76_ok : trFunc Go.Proofs.Tryz.prog 76 [0, 1, 4] [(1, [0, 0, 1, 0, 0])] [] = some G_76 := by kernel_rfl
theorem G_79_ok : trFunc Go.Proofs.Tryz.prog 79 [0, 1, 4, 5, 6, 7, 8, 10, 11, 13, 14, 22, 23, 24, 25, 49, 50, 51, 69, 70, 71, 72, 84] [(14, [0, 1]), (15, [0, 1, 0, 0])] [] = some G_79 := by kernel_rfl
theorem G_80_ok : trFunc Go.Proofs.Tryz.prog 80 [0, 1, 2, 4, 5] [(1, [0, 0, 0, 0, 0, 1, 0, 0, 0, 0, 0, 0, 0])] [] = some G_80 := by kernel_rfl
theorem G_81_ok : trFunc Go.Proofs.Tryz.prog 81 [0, 1, 4, 5, 6, 10] [] [] = some G_81 := by kernel_rfl
theorem G_82_ok : trFunc Go.Proofs.Tryz.prog 82 [0, 1, 4, 5, 7, 8, 9, 10, 13, 14, 15, 16, 28] [] [] = some G_82 := by kernel_rfl
theorem G_83_ok : trFunc Go.Proofs.Tryz.prog 83 [0, 1, 4, 14] [] [] = some G_83 := by kernel_rfl
theorem G_84_ok : trFunc Go.Proofs.Tryz.prog 84 [0, 1, 4, 5, 6, 7, 8, 9, 10] [(1, [0, 0, 1, 0]), (2, [0, 0, 0, 0, 0, 0, 0, 1, 0])] [] = some G_84 := by kernel_rfl
theorem G_85_ok : trFunc Go.Proofs.Tryz.prog 85 [0, 1, 2, 6, 7, 8, 9, 11, 12, 22, 42, 43, 44, 45] [(0, [1]), (1, [0, 0, 1, 0]), (2, [0, 0, 0, 0, 0, 0, 1, 0, 0]), (5, [0, 0, 0, 0, 0, 0, 0, 0, 0, 0, 0, 1, 0]), (9, [0, 0, 0, 1, 1, 0])] [] = some G_85 := by kernel_rfl
theorem G_86_ok : trFunc Go.Proofs.Tryz.prog 86 [0, 1, 2] [(0, [1, 0])] [] = some G_86 := by kernel_rfl
theorem G_87_ok : trFunc Go.Proofs.Tryz.prog 87 [0, 1, 2, 3, 8, 9, 10, 12, 14, 27, 39, 40, 41, 42, 57, 58, 59, 60] [(0, [1]), (1, [0, 0, 1, 0]), (2, [0, 0, 0, 0, 0, 0, 0, 1, 0]), (4, [0, 0, 1, 0]), (5, [0, 0, 0, 0, 0, 0, 0, 1, 0]), (9, [0, 0, 0, 0, 0, 0, 1, 1, 0, 0, 0]), (14, [0, 0, 0, 0, 1, 1, 0, 0, 0])] [] = some G_87 := by kernel_rfl
theorem G_88_ok : trFunc Go.Proofs.Tryz.prog 88 [0, 1, 3] [(0, [1])] [] = some G_88 := by kernel_rfl
theorem G_92_ok : trFunc Go.Proofs.Tryz.prog 92 [0, 1, 2] [(0, [1, 0])] [] = some G_92 := by kernel_rfl
theorem G_93_ok : trFunc Go.Proofs.Tryz.prog 93 [0, 1, 4] [(0, [1])] [] = some G_93 := by kernel_rfl
theorem G_94_ok : trFunc Go.Proofs.Tryz.prog 94 [0, 2] [] [] = some G_94 := by kernel_rfl
theorem G_95_ok : trFunc Go.Proofs.Tryz.prog 95 [0, 2, 4] [] [] = some G_95 := by kernel_rfl
theorem G_104_ok : trFunc Go.Proofs.Tryz.prog 104 [0, 1, 4, 5, 10, 14, 26] [] [] = some G_104 := by kernel_rfl
theorem G_109_ok : trFunc Go.Proofs.Tryz.prog 109 [0, 1, 2, 6, 7, 8, 9, 10, 21, 33, 39] [(6, [0, 0, 0, 0, 0, 0, 0, 1, 0]), (8, [0, 0, 0, 1, 0]), (9, [0, 0, 0, 1])] [100, 205] = some G_109 := by kernel_rfl
theorem G_112_ok : trFunc Go.Proofs.Tryz.prog 112 [0, 1, 2, 3, 13] [(0, [1, 0])] [] = some G_112 := by kernel_rfl
theorem G_117_ok : trFunc Go.Proofs.Tryz.prog 117 [0, 1, 2, 3, 4] [(0, [1, 0]), (1, [0, 1, 0]), (2, [0, 0, 1, 0]), (3, [0, 0, 1, 0])] [] = some G_117 := by kernel_rfl
theorem G_118_ok : trFunc Go.Proofs.Tryz.prog 118 [0, 1, 2, 3, 4, 5] [(0, [1, 1, 0]), (1, [1]), (3, [0, 0, 1, 0])] [] = some G_118 := by kernel_rfl
theorem G_119_ok : trFunc Go.Proofs.Tryz.prog 119 [0, 1, 3, 4, 6, 9, 22, 23, 24, 25] [(0, [1, 0])] [] = some G_119 := by kernel_rfl
theorem G_120_ok : trFunc Go.Proofs.Tryz.prog 120 [0, 2, 3, 4, 5, 8, 13, 25, 32, 44] [] [] = some G_120 := by kernel_rfl
theorem G_121_ok : trFunc Go.Proofs.Tryz.prog 121 [0, 2, 4] [] [] = some G_121 := by kernel_rfl
theorem G_122_ok : trFunc Go.Proofs.Tryz.prog 122 [0, 1, 4] [] [] = some G_122 := by kernel_rfl
theorem G_124_ok : trFunc Go.Proofs.Tryz.prog 124 [0, 2, 3, 4, 5, 6, 7, 8, 43] [(3, [0, 0, 0, 1, 0, 0])] [] = some G_124 := by kernel_rfl
theorem G_125_ok : trFunc Go.Proofs.Tryz.prog 125 [0, 1, 2, 3, 8, 9, 10, 11, 12, 13, 14, 15, 16, 17, 18, 23, 29, 35, 50, 68, 72, 87, 113] [(4, [0, 0, 0, 1]), (6, [0, 0, 0, 1]), (8, [0, 0, 0, 1]), (10, [0, 0, 0, 1, 0, 0, 0, 0, 0]), (12, [0, 0, 0, 1]), (16, [0, 0, 0, 1]), (18, [0, 0, 0, 0, 1, 0]), (20, [0, 0, 0, 0, 1, 0, 0, 0, 0, 0]), (26, [0, 0, 0, 0, 1]), (29, [0, 0, 0, 0, 0, 1])] [] = some G_125 := by kernel_rfl
theorem G_126_ok : trFunc Go.Proofs.Tryz.prog 126 [0, 2] [] [] = some G_126 := by kernel_rfl
theorem G_127_ok : trFunc Go.Proofs.Tryz.prog 127 [0, 1, 2, 3, 4, 5, 12] [(1, [0, 0, 0, 0, 0, 0, 0, 0, 0, 0, 0, 0, 0, 0, 0, 0, 1, 0, 0, 0, 0])] [] = some G_127 := by kernel_rfl
theorem G_128_ok : trFunc Go.Proofs.Tryz.prog 128 [0, 1, 2, 4, 5, 16, 26] [(0, [1, 0])] [] = some G_128 := by kernel_rfl
theorem G_129_ok : trFunc Go.Proofs.Tryz.prog 129 [0, 2, 4] [(0, [1])] [] = some G_129 := by kernel_rfl
theorem G_130_ok : trFunc Go.Proofs.Tryz.prog 130 [0, 1, 2] [(0, [0, 0, 0, 0, 0, 0, 0, 0, 0, 0, 0, 0, 0, 1])] [] = some G_130 := by kernel_rfl
theorem G_131_ok : trFunc Go.Proofs.Tryz.prog 131 [0, 2] [] [] = some G_131 := by kernel_rfl
theorem G_132_ok : trFunc Go.Proofs.Tryz.prog 132 [0, 1, 2, 3, 5, 8, 9, 11, 12, 14, 22, 27, 28, 29, 30, 43, 44, 45, 46] [(0, [1, 0]), (2, [0, 0, 1, 0]), (6, [0, 0, 1, 0]), (7, [0, 0, 0, 0, 0, 1, 0, 0, 0]), (13, [0, 0, 0, 1, 0, 0, 0]), (15, [0, 0, 0, 0, 0, 0, 0, 0, 0, 1, 0])] [] = some G_132 := by kernel_rfl
theorem G_133_ok : trFunc Go.Proofs.Tryz.prog 133 [0, 1, 2, 3] [(0, [1, 0])] [] = some G_133 := by kernel_rfl
theorem G_134_ok : trFunc Go.Proofs.Tryz.prog 134 [0, 1, 2, 3, 5, 6, 13, 29] [(0, [1, 1, 0]), (1, [0, 0, 1, 0]), (5, [0, 0, 0, 0, 0, 0, 0, 0, 0, 1])] [] = some G_134 := by kernel_rfl
theorem G_135_ok : trFunc Go.Proofs.Tryz.prog 135 [0, 1, 4, 5, 7, 8, 9, 16] [(4, [0, 0, 0, 0, 0, 1])] [] = some G_135 := by kernel_rfl
theorem G_138_ok : trFunc Go.Proofs.Tryz.prog 138 [0, 2, 3, 4, 5, 6, 7, 8, 36] [(3, [0, 0, 0, 1, 0, 0])] [] = some G_138 := by kernel_rfl
theorem G_139_ok : trFunc Go.Proofs.Tryz.prog 139 [0, 1, 4, 5, 7, 8, 9, 10, 11, 12, 13, 14, 33] [(4, [0, 0, 1, 0])] [] = some G_139 := by kernel_rfl
theorem G_145_ok : trFunc Go.Proofs.Tryz.prog 145 [0, 2, 3, 15] [] [] = some G_145 := by kernel_rfl
theorem G_153_ok : trFunc Go.Proofs.Tryz.prog 153 [0, 1, 2, 3, 4] [(0, [1, 1, 0])] [] = some G_153 := by kernel_rfl
theorem G_156_ok : trFunc Go.Proofs.Tryz.prog 156 [0, 1, 4, 5, 6, 22, 36, 45, 81] [(2, [0, 0, 0, 0, 0, 0, 0, 0, 0, 0, 0, 0, 1, 0, 0])] [] = some G_156 := by kernel_rfl
theorem G_159_ok : trFunc Go.Proofs.Tryz.prog 159 [0, 1, 2] [(0, [1, 0])] [] = some G_159 := by kernel_rfl
theorem G_161_ok : trFunc Go.Proofs.Tryz.prog 161 [0, 1, 2, 4] [(0, [1, 0])] [] = some G_161 := by kernel_rfl
theorem G_163_ok : trFunc Go.Proofs.Tryz.prog 163 [0, 1, 3, 4] [(0, [1, 0])] [] = some G_163 := by kernel_rfl
theorem G_164_ok : trFunc Go.Proofs.Tryz.prog 164 [0, 1, 2, 3] [(0, [1, 0]), (1, [0, 0, 0, 0, 0, 1, 0, 0, 0, 0, 1, 0, 0, 0])] [] = some G_164 := by kernel_rfl
theorem G_165_ok : trFunc Go.Proofs.Tryz.prog 165 [0, 1, 2, 3, 4, 12, 13, 32, 51, 69, 87] [(0, [1, 0])] [] = some G_165 := by kernel_rfl
theorem G_166_ok : trFunc Go.Proofs.Tryz.prog 166 [0, 1, 4] [(1, [0, 0, 1, 0, 0])] [] = some G_166 := by kernel_rfl
theorem G_167_ok : trFunc Go.Proofs.Tryz.prog 167 [0, 2] [] [] = some G_167 := by kernel_rfl
theorem G_168_ok : trFunc Go.Proofs.Tryz.prog 168 [0, 2] [] [] = some G_168 := by kernel_rfl
theorem G_169_ok : trFunc Go.Proofs.Tryz.prog 169 [0, 1, 2, 3, 4] [(0, [1, 0]), (1, [0, 0, 1, 0, 0, 0, 0, 1, 0, 0, 0])] [] = some G_169 := by kernel_rfl
theorem G_170_ok : trFunc Go.Proofs.Tryz.prog 170 [0, 1, 4] [(1, [0, 0, 1, 0, 0])] [] = some G_170 := by kernel_rfl
theorem G_171_ok : trFunc Go.Proofs.Tryz.prog 171 [0, 1, 2, 3] [(0, [1, 0]), (1, [0, 0, 1, 0, 0])] [] = some G_171 := by kernel_rfl
theorem G_172_ok : trFunc Go.Proofs.Tryz.prog 172 [0, 1, 4, 5, 7, 8, 9, 16] [(4, [0, 0, 0, 0, 0, 1])] [] = some G_172 := by kernel_rfl
theorem G_174_ok : trFunc Go.Proofs.Tryz.prog 174 [0, 1, 2, 6, 7, 12, 30] [] [] = some G_174 := by kernel_rfl
theorem G_175_ok : trFunc Go.Proofs.Tryz.prog 175 [0, 1, 2, 6, 7, 8, 9, 10, 19, 30] [(6, [0, 0, 0, 0, 1]), (11, [0, 0, 0, 0, 1])] [] = some G_175 := by kernel_rfl
theorem G_176_ok : trFunc Go.Proofs.Tryz.prog 176 [0, 1, 2, 6, 7, 8, 9, 10, 15, 33, 43] [(2, [0, 0, 1, 0]), (7, [1, 0, 0, 0, 0, 0])] [] = some G_176 := by kernel_rfl
theorem G_177_ok : trFunc Go.Proofs.Tryz.prog 177 [0, 1, 2, 6, 7, 8, 9, 10, 11, 12, 32, 34, 49, 51, 54] [(2, [1]), (8, [0, 0, 1, 0]), (9, [0, 0, 1, 0]), (10, [0, 0, 1, 0]), (11, [0, 0, 0, 0, 1, 0])] [] = some G_177 := by kernel_rfl
theorem G_178_ok : trFunc Go.Proofs.Tryz.prog 178 [0, 1, 2, 6, 7, 13] [] [] = some G_178 := by kernel_rfl
theorem G_179_ok : trFunc Go.Proofs.Tryz.prog 179 [0, 1, 2, 6, 7, 8, 9, 10, 14, 32, 37, 41, 61, 65, 78, 98, 103, 116] [] [] = some G_179 := by kernel_rfl
theorem G_180_ok : trFunc Go.Proofs.Tryz.prog 180 [0, 1, 4] [] [] = some G_180 := by kernel_rfl
theorem G_181_ok : trFunc Go.Proofs.Tryz.prog 181 [0, 1, 2, 3, 8, 9, 10, 43, 59, 64] [] [] = some G_181 := by kernel_rfl
theorem G_182_ok : trFunc Go.Proofs.Tryz.prog 182 [0, 1, 2, 3, 8, 9, 10, 11, 43, 60, 65, 112, 129, 134] [] [] = some G_182 := by kernel_rfl
theorem G_184_ok : trFunc Go.Proofs.Tryz.prog 184 [0, 2, 4, 8, 14] [] [] = some G_184 := by kernel_rfl
theorem G_185_ok : trFunc Go.Proofs.Tryz.prog 185 [0, 2] [] [] = some G_185 := by kernel_rfl
theorem G_186_ok : trFunc Go.Proofs.Tryz.prog 186 [0, 2, 3, 20, 22, 23, 24, 30] [] [] = some G_186 := by kernel_rfl
theorem G_187_ok : trFunc Go.Proofs.Tryz.prog 187 [0, 2, 4] [] [] = some G_187 := by kernel_rfl
theorem G_188_ok : trFunc Go.Proofs.Tryz.prog 188 [0, 1] [(0, [0, 0, 1]), (1, [0, 0, 1, 0, 1])] [100, 205] = some G_188 := by kernel_rfl
theorem G_189_ok : trFunc Go.Proofs.Tryz.prog 189 [0, 1, 4] [(1, [0, 0, 1, 0, 0])] [] = some G_189 := by kernel_rfl
theorem G_190_ok : trFunc Go.Proofs.Tryz.prog 190 [0, 1, 2, 4] [(1, [0, 0, 0, 1, 0])] [] = some G_190 := by kernel_rfl
theorem G_191_ok : trFunc Go.Proofs.Tryz.prog 191 [0, 1, 4, 5] [] [] = some G_191 := by kernel_rfl
theorem G_202_ok : trFunc Go.Proofs.Tryz.prog 202 [0, 1, 2, 3, 4] [(0, [1, 1, 0])] [] = some G_202 := by kernel_rfl
theorem G_203_ok : trFunc Go.Proofs.Tryz.prog 203 [0, 1, 2] [(0, [1, 1]), (1, [0, 0, 0, 0, 1, 0, 0])] [] = some G_203 := by kernel_rfl
theorem G_207_ok : trFunc Go.Proofs.Tryz.prog 207 [0, 2, 4] [] [] = some G_207 := by kernel_rfl
theorem G_214_ok : trFunc Go.Proofs.Tryz.prog 214 [0, 2] [] [] = some G_214 := by kernel_rfl
theorem G_216_ok : trFunc Go.Proofs.Tryz.prog 216 [0, 1, 4, 5, 7, 8, 9, 16] [(4, [0, 0, 0, 0, 0, 1])] [] = some G_216 := by kernel_rfl
theorem G_217_ok : trFunc Go.Proofs.Tryz.prog 217 [0, 1, 2] [(0, [1, 0])] [] = some G_217 := by kernel_rfl
theorem G_218_ok : trFunc Go.Proofs.Tryz.prog 218 [0, 1, 4, 5, 7, 8, 9, 16] [(4, [0, 0, 0, 0, 0, 1])] [] = some G_218 := by kernel_rfl
theorem G_221_ok : trFunc Go.Proofs.Tryz.prog 221 [0, 1, 2, 3, 8, 9, 16, 36, 52] [] [] = some G_221 := by kernel_rfl
theorem G_222_ok : trFunc Go.Proofs.Tryz.prog 222 [0, 2] [] [] = some G_222 := by kernel_rfl
theorem G_223_ok : trFunc Go.Proofs.Tryz.prog 223 [0, 2] [] [] = some G_223 := by kernel_rfl
theorem G_224_ok : trFunc Go.Proofs.Tryz.prog 224 [0, 1, 2, 6] [(1, [0, 0, 0, 0, 0, 0, 0, 1, 0])] [] = some G_224 := by kernel_rfl
theorem G_225_ok : trFunc Go.Proofs.Tryz.prog 225 [0, 1, 2, 3, 4, 10] [(1, [0, 0, 0, 0, 1, 0, 0, 0, 0, 0]), (2, [0, 0, 0, 0, 1, 0, 0, 0, 0, 0]), (3, [0, 0, 0, 0, 1, 0, 0, 0, 0, 0])] [] = some G_225 := by kernel_rfl
theorem G_226_ok : trFunc Go.Proofs.Tryz.prog 226 [0, 2] [] [] = some G_226 := by kernel_rfl
theorem G_227_ok : trFunc Go.Proofs.Tryz.prog 227 [0, 2] [] [] = some G_227 := by kernel_rfl
theorem G_228_ok : trFunc Go.Proofs.Tryz.prog 228 [0, 2] [] [] = some G_228 := by kernel_rfl
theorem G_229_ok : trFunc Go.Proofs.Tryz.prog 229 [0, 1, 4, 17] [(1, [0, 0, 0, 0, 0, 0, 0, 1, 0, 0]), (2, [0, 0, 0, 1])] [100, 205] = some G_229 := by kernel_rfl
theorem G_230_ok : trFunc Go.Proofs.Tryz.prog 230 [0, 1, 4, 5, 7, 8, 9, 16] [(4, [0, 0, 0, 0, 0, 1])] [] = some G_230 := by kernel_rfl
theorem G_231_ok : trFunc Go.Proofs.Tryz.prog 231 [0, 1, 2, 6, 7, 8, 9, 10, 11, 17, 31] [(5, [0, 0, 0, 0, 0, 0, 1, 0]), (8, [0, 0, 0, 0, 0, 0, 0, 0, 0, 0, 0, 1, 0, 0, 0, 0])] [] = some G_231 := by kernel_rfl
theorem G_240_ok : trFunc Go.Proofs.Tryz.prog 240 [0, 1, 4, 5, 10, 14, 25] [] [] = some G_240 := by kernel_rfl
theorem G_241_ok : trFunc Go.Proofs.Tryz.prog 241 [0, 2, 4] [] [] = some G_241 := by kernel_rfl
theorem G_244_ok : trFunc Go.Proofs.Tryz.prog 244 [0, 2] [] [] = some G_244 := by kernel_rfl
theorem G_252_ok : trFunc Go.Proofs.Tryz.prog 252 [0, 1, 2, 3, 8, 9, 18] [] [] = some G_252 := by kernel_rfl
theorem G_305_ok : trFunc Go.Proofs.Tryz.prog 305 [0, 1, 2, 6] [] [] = some G_305 := by kernel_rfl
theorem G_306_ok : trFunc Go.Proofs.Tryz.prog 306 [0, 2, 3] [(1, [0, 0, 0, 0, 0, 0, 0, 0, 0, 0, 0, 0, 1, 0])] [] = some G_306 := by kernel_rfl
theorem G_307_ok : trFunc Go.Proofs.Tryz.prog 307 [0, 1, 4] [(0, [0, 0, 0, 0, 0, 1, 0, 0])] [] = some G_307 := by kernel_rfl
theorem G_308_ok : trFunc Go.Proofs.Tryz.prog 308 [0, 1, 2] [] [] = some G_308 := by kernel_rfl
theorem G_all : AllOk Go.Proofs.Tryz.prog G_tab 0 :=
  .none <| .none <| .none <| .some G_3_ok <| .none <| .none <| .none <| .some G_7_ok <| .some G_8_ok <| .some G_9_ok <| .some G_10_ok <| .some G_11_ok <| .some G_12_ok <| .some G_13_ok <| .some G_14_ok <| .some G_15_ok <| .none <| .some G_17_ok <| .none <| .none <| .none <| .some G_21_ok <| .none <| .some G_23_ok <| .none <| .none <| .some G_26_ok <| .some G_27_ok <| .some G_28_ok <| .some G_29_ok <| .some G_30_ok <| .some G_31_ok <| .some G_32_ok <| .none <| .some G_34_ok <| .some G_35_ok <| .some G_36_ok <| .none <| .none <| .none <| .none <| .none <| .none <| .none <| .some G_44_ok <| .some G_45_ok <| .none <| .none <| .some G_48_ok <| .some G_49_ok <| .none <| .none <| .none <| .none <| .none <| .none <| .some G_56_ok <| .none <| .none <| .none <| .none <| .none <| .some G_62_ok <| .some G_63_ok <| .some G_64_ok <| .none <| .some G_66_ok <| .some G_67_ok <| .some G_68_ok <| .some G_69_ok <| .some G_70_ok <| .some G_71_ok <| .some G_72_ok <| .some G_73_ok <| .some G_74_ok <| .some G_75_ok <| .some G_76_ok <| .none <| .none <| .some G_79_ok <| .some G_80_ok <| .some G_81_ok <| .some G_82_ok <| .some G_83_ok <| .some G_84_ok <| .some G_85_ok <| .some G_86_ok <| .some G_87_ok <| .some G_88_ok <| .none <| .none <| .none <| .some G_92_ok <| .some G_93_ok <| .some G_94_ok <| .some G_95_ok <| .none <| .none <| .none <| .none <| .none <| .none <| .none <| .none <| .some G_104_ok <| .none <| .none <| .none <| .none <| .some G_109_ok <| .none <| .none <| .some G_112_ok <| .none <| .none <| .none <| .none <| .some G_117_ok <| .some G_118_ok <| .some G_119_ok <| .some G_120_ok <| .some G_121_ok <| .some G_122_ok <| .none <| .some G_124_ok <| .some G_125_ok <| .some G_126_ok <| .some G_127_ok <| .some G_128_ok <| .some G_129_ok <| .some G_130_ok <| .some G_131_ok <| .some G_132_ok <| .some G_133_ok <| .some G_134_ok <| .some G_135_ok <| .none <| .none <| .some G_138_ok <| .some G_139_ok <| .none <| .none <| .none <| .none <| .none <| .some G_145_ok <| .none <| .none <| .none <| .none <| .none <| .none <| .none <| .some G_153_ok <| .none <| .none <| .some G_156_ok <| .none <| .none <| .some G_159_ok <| .none <| .some G_161_ok <| .none <| .some G_163_ok <| .some G_164_ok <| .some G_165_ok <| .some G_166_ok <| .some G_167_ok <| .some G_168_ok <| .some G_169_ok <| .some G_170_ok <| .some G_171_ok <| .some G_172_ok <| .none <| .some G_174_ok <| .some G_175_ok <| .some G_176_ok <| .some G_177_ok <| .some G_178_ok <| .some G_179_ok <| .some G_180_ok <| .some G_181_ok <| .some G_182_ok <| .none <| .some G_184_ok <| .some G_185_ok <| .some G_186_ok <| .some G_187_ok <| .some G_188_ok <| .some G_189_ok <| .some G_190_ok <| .some G_191_ok <| .none <| .none <| .none <| .none <| .none <| .none <| .none <| .none <| .none <| .none <| .some G_202_ok <| .some G_203_ok <| .none <| .none <| .none <| .some G_207_ok <| .none <| .none <| .none <| .none <| .none <| .none <| .some G_214_ok <| .none <| .some G_216_ok <| .some G_217_ok <| .some G_218_ok <| .none <| .none <| .some G_221_ok <| .some G_222_ok <| .some G_223_ok <| .some G_224_ok <| .some G_225_ok <| .some G_226_ok <| .some G_227_ok <| .some G_228_ok <| .some G_229_ok <| .some G_230_ok <| .some G_231_ok <| .none <| .none <| .none <| .none <| .none <| .none <| .none <| .none <| .some G_240_ok <| .some G_241_ok <| .none <| .none <| .some G_244_ok <| .none <| .none <| .none <| .none <| .none <| .none <| .none <| .some G_252_ok <| .none <| .none <| .none <| .none <| .none <| .none <| .none <| .none <| .none <| .none <| .none <| .none <| .none <| .none <| .none <| .none <| .none <| .none <| .none <| .none <| .none <| .none <| .none <| .none <| .none <| .none <| .none <| .none <| .none <| .none <| .none <| .none <| .none <| .none <| .none <| .none <| .none <| .none <| .none <| .none <| .none <| .none <| .none <| .none <| .none <| .none <| .none <| .none <| .none <| .none <| .none <| .none <| .some G_305_ok <| .some G_306_ok <| .some G_307_ok <| .some G_308_ok <| trivial
end Go.Vm
