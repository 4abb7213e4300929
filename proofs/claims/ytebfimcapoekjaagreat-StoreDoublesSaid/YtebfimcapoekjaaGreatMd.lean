/-
  A part of the proof: GT Sa Sb Sc Sd Se Xe Sf Sg Sh Si Xf Sj Sk Sl Sm Sn Xg Ua So.
-/
import Derived.Test.YtebfimcapoekjaaGreatMc
namespace Go.Vm
set_option maxRecDepth 100000
def Gext : FuncId → Option (List PV → Heap → Nat → Option (PV × Heap × Nat)) := fun f => if f = 272 then some extCmp else if f = 278 then some extAdd else if f = 279 then some extSub else none
def G_tab : List (Option IFunc) := [none, none, none, some G_3, none, none, none, some G_7, some G_8, some G_9, some G_10, some G_11, some G_12, some G_13, some G_14, some G_15, none, some G_17, none, none, none, some G_21, none, some G_23, none, none, some G_26, some G_27, some G_28, some G_29, some G_30, some G_31, some G_32, none, some G_34, some G_35, some G_36, none, none, none, none, none, none, none, some G_44, some G_45, none, none, some G_48, some G_49, none, none, none, none, none, none, some G_56, none, none, none, none, none, some G_62, some G_63, some G_64, none, some G_66, some G_67, some G_68, some G_69, some G_70, some G_71, some G_72, some G_73, some G_74, some G_75, some G_76, none, none, some G_79, some G_80, some G_81, some G_82, some G_83, some G_84, some G_85, some G_86, some G_87, some G_88, none, none, none, some G_92, some G_93, some G_94, some G_95, none, none, none, none, none, none, none, none, some G_104, none, none, none, none, some G_109, none, none, some G_112, none, none, none, none, some G_117, some G_118, some G_119, some G_120, some G_121, some G_122, none, some G_124, some G_125, some G_126, some G_127, some G_128, some G_129, some G_130, some G_131, some G_132, some G_133, some G_134, some G_135, none, none, some G_138, some G_139, none, none, none, none, none, some G_145, none, none, none, none, none, none, none, some G_153, none, none, some G_156, none, none, some G_159, none, some G_161, none, some G_163, some G_164, some G_165, some G_166, some G_167, some G_168, some G_169, some G_170, some G_171, some G_172, none, some G_174, some G_175, some G_176, some G_177, some G_178, some G_179, some G_180, some G_181, some G_182, none, some G_184, some G_185, some G_186, some G_187, some G_188, some G_189, some G_190, some G_191, none, none, none, none, none, none, none, none, none, none, some G_202, some G_203, none, none, none, some G_207, none, none, none, none, none, none, some G_214, none, some G_216, some G_217, some G_218, none, none, some G_221, some G_222, some G_223, some G_224, some G_225, some G_226, some G_227, some G_228, some G_229, some G_230, some G_231, none, none, none, none, none, none, none, none, some G_240, some G_241, none, none, some G_244, none, none, none, none, none, none, none, some G_252, none, none, none, none, none, none, none, none, none, none, none, none, none, none, none, none, none, none, none, none, none, none, none, none, none, none, none, none, none, none, none, none, none, none, none, none, none, none, none, none, none, none, none, none, none, none, none, none, none, none, none, none, some G_305, some G_306, some G_307, some G_308]
def Genv : Env := ⟨fun f => G_tab.getD f none, Gext⟩
noncomputable def Gf : CallF := lim Genv
theorem R_3 (as : List PV) (H : Heap) (n : Nat) : Gf 3 as H n = answer G_3 (codeL Gf G_3.body ⟨start G_3.live as, H, n⟩) := lim_run rfl rfl
theorem R_7 (as : List PV) (H : Heap) (n : Nat) : Gf 7 as H n = answer G_7 (codeL Gf G_7.body ⟨start G_7.live as, H, n⟩) := lim_run rfl rfl
theorem R_8 (as : List PV) (H : Heap) (n : Nat) : Gf 8 as H n = answer G_8 (codeL Gf G_8.body ⟨start G_8.live as, H, n⟩) := lim_run rfl rfl
theorem R_9 (as : List PV) (H : Heap) (n : Nat) : Gf 9 as H n = answer G_9 (codeL Gf G_9.body ⟨start G_9.live as, H, n⟩) := lim_run rfl rfl
theorem R_10 (as : List PV) (H : Heap) (n : Nat) : Gf 10 as H n = answer G_10 (codeL Gf G_10.body ⟨start G_10.live as, H, n⟩) := lim_run rfl rfl
theorem R_11 (as : List PV) (H : Heap) (n : Nat) : Gf 11 as H n = answer G_11 (codeL Gf G_11.body ⟨start G_11.live as, H, n⟩) := lim_run rfl rfl
theorem R_12 (as : List PV) (H : Heap) (n : Nat) : Gf 12 as H n = answer G_12 (codeL Gf G_12.body ⟨start G_12.live as, H, n⟩) := lim_run rfl rfl
theorem R_13 (as : List PV) (H : Heap) (n : Nat) : Gf 13 as H n = answer G_13 (codeL Gf G_13.body ⟨start G_13.live as, H, n⟩) := lim_run rfl rfl
theorem R_21 (as : List PV) (H : Heap) (n : Nat) : Gf 21 as H n = answer G_21 (codeL Gf G_21.body ⟨start G_21.live as, H, n⟩) := lim_run rfl rfl
theorem R_26 (as : List PV) (H : Heap) (n : Nat) : Gf 26 as H n = answer G_26 (codeL Gf G_26.body ⟨start G_26.live as, H, n⟩) := lim_run rfl rfl
theorem R_27 (as : List PV) (H : Heap) (n : Nat) : Gf 27 as H n = answer G_27 (codeL Gf G_27.body ⟨start G_27.live as, H, n⟩) := lim_run rfl rfl
theorem R_28 (as : List PV) (H : Heap) (n : Nat) : Gf 28 as H n = answer G_28 (codeL Gf G_28.body ⟨start G_28.live as, H, n⟩) := lim_run rfl rfl
theorem R_29 (as : List PV) (H : Heap) (n : Nat) : Gf 29 as H n = answer G_29 (codeL Gf G_29.body ⟨start G_29.live as, H, n⟩) := lim_run rfl rfl
theorem R_30 (as : List PV) (H : Heap) (n : Nat) : Gf 30 as H n = answer G_30 (codeL Gf G_30.body ⟨start G_30.live as, H, n⟩) := lim_run rfl rfl
theorem R_31 (as : List PV) (H : Heap) (n : Nat) : Gf 31 as H n = answer G_31 (codeL Gf G_31.body ⟨start G_31.live as, H, n⟩) := lim_run rfl rfl
theorem R_32 (as : List PV) (H : Heap) (n : Nat) : Gf 32 as H n = answer G_32 (codeL Gf G_32.body ⟨start G_32.live as, H, n⟩) := lim_run rfl rfl
theorem R_44 (as : List PV) (H : Heap) (n : Nat) : Gf 44 as H n = answer G_44 (codeL Gf G_44.body ⟨start G_44.live as, H, n⟩) := lim_run rfl rfl
theorem R_45 (as : List PV) (H : Heap) (n : Nat) : Gf 45 as H n = answer G_45 (codeL Gf G_45.body ⟨start G_45.live as, H, n⟩) := lim_run rfl rfl
theorem R_56 (as : List PV) (H : Heap) (n : Nat) : Gf 56 as H n = answer G_56 (codeL Gf G_56.body ⟨start G_56.live as, H, n⟩) := lim_run rfl rfl
theorem R_62 (as : List PV) (H : Heap) (n : Nat) : Gf 62 as H n = answer G_62 (codeL Gf G_62.body ⟨start G_62.live as, H, n⟩) := lim_run rfl rfl
theorem R_63 (as : List PV) (H : Heap) (n : Nat) : Gf 63 as H n = answer G_63 (codeL Gf G_63.body ⟨start G_63.live as, H, n⟩) := lim_run rfl rfl
theorem R_64 (as : List PV) (H : Heap) (n : Nat) : Gf 64 as H n = answer G_64 (codeL Gf G_64.body ⟨start G_64.live as, H, n⟩) := lim_run rfl rfl
theorem R_67 (as : List PV) (H : Heap) (n : Nat) : Gf 67 as H n = answer G_67 (codeL Gf G_67.body ⟨start G_67.live as, H, n⟩) := lim_run rfl rfl
theorem R_68 (as : List PV) (H : Heap) (n : Nat) : Gf 68 as H n = answer G_68 (codeL Gf G_68.body ⟨start G_68.live as, H, n⟩) := lim_run rfl rfl
theorem R_69 (as : List PV) (H : Heap) (n : Nat) : Gf 69 as H n = answer G_69 (codeL Gf G_69.body ⟨start G_69.live as, H, n⟩) := lim_run rfl rfl
theorem R_70 (as : List PV) (H : Heap) (n : Nat) : Gf 70 as H n = answer G_70 (codeL Gf G_70.body ⟨start G_70.live as, H, n⟩) := lim_run rfl rfl
theorem R_71 (as : List PV) (H : Heap) (n : Nat) : Gf 71 as H n = answer G_71 (codeL Gf G_71.body ⟨start G_71.live as, H, n⟩) := lim_run rfl rfl
theorem R_72 (as : List PV) (H : Heap) (n : Nat) : Gf 72 as H n = answer G_72 (codeL Gf G_72.body ⟨start G_72.live as, H, n⟩) := lim_run rfl rfl
theorem R_73 (as : List PV) (H : Heap) (n : Nat) : Gf 73 as H n = answer G_73 (codeL Gf G_73.body ⟨start G_73.live as, H, n⟩) := lim_run rfl rfl
theorem R_74 (as : List PV) (H : Heap) (n : Nat) : Gf 74 as H n = answer G_74 (codeL Gf G_74.body ⟨start G_74.live as, H, n⟩) := lim_run rfl rfl
theorem R_76 (as : List PV) (H : Heap) (n : Nat) : Gf 76 as H n = answer G_76 (codeL Gf G_76.body ⟨start G_76.live as, H, n⟩) := lim_run rfl rfl
theorem R_79 (as : List PV) (H : Heap) (n : Nat) : Gf 79 as H n = answer G_79 (codeL Gf G_79.body ⟨start G_79.live as, H, n⟩) := lim_run rfl rfl
theorem R_83 (as : List PV) (H : Heap) (n : Nat) : Gf 83 as H n = answer G_83 (codeL Gf G_83.body ⟨start G_83.live as, H, n⟩) := lim_run rfl rfl
theorem R_84 (as : List PV) (H : Heap) (n : Nat) : Gf 84 as H n = answer G_84 (codeL Gf G_84.body ⟨start G_84.live as, H, n⟩) := lim_run rfl rfl
theorem R_85 (as : List PV) (H : Heap) (n : Nat) : Gf 85 as H n = answer G_85 (codeL Gf G_85.body ⟨start G_85.live as, H, n⟩) := lim_run rfl rfl
theorem R_86 (as : List PV) (H : Heap) (n : Nat) : Gf 86 as H n = answer G_86 (codeL Gf G_86.body ⟨start G_86.live as, H, n⟩) := lim_run rfl rfl
theorem R_87 (as : List PV) (H : Heap) (n : Nat) : Gf 87 as H n = answer G_87 (codeL Gf G_87.body ⟨start G_87.live as, H, n⟩) := lim_run rfl rfl
theorem R_88 (as : List PV) (H : Heap) (n : Nat) : Gf 88 as H n = answer G_88 (codeL Gf G_88.body ⟨start G_88.live as, H, n⟩) := lim_run rfl rfl
theorem R_109 (as : List PV) (H : Heap) (n : Nat) : Gf 109 as H n = answer G_109 (codeL Gf G_109.body ⟨start G_109.live as, H, n⟩) := lim_run rfl rfl
theorem R_117 (as : List PV) (H : Heap) (n : Nat) : Gf 117 as H n = answer G_117 (codeL Gf G_117.body ⟨start G_117.live as, H, n⟩) := lim_run rfl rfl
theorem R_118 (as : List PV) (H : Heap) (n : Nat) : Gf 118 as H n = answer G_118 (codeL Gf G_118.body ⟨start G_118.live as, H, n⟩) := lim_run rfl rfl
theorem R_119 (as : List PV) (H : Heap) (n : Nat) : Gf 119 as H n = answer G_119 (codeL Gf G_119.body ⟨start G_119.live as, H, n⟩) := lim_run rfl rfl
theorem R_120 (as : List PV) (H : Heap) (n : Nat) : Gf 120 as H n = answer G_120 (codeL Gf G_120.body ⟨start G_120.live as, H, n⟩) := lim_run rfl rfl
theorem R_125 (as : List PV) (H : Heap) (n : Nat) : Gf 125 as H n = answer G_125 (codeL Gf G_125.body ⟨start G_125.live as, H, n⟩) := lim_run rfl rfl
theorem R_126 (as : List PV) (H : Heap) (n : Nat) : Gf 126 as H n = answer G_126 (codeL Gf G_126.body ⟨start G_126.live as, H, n⟩) := lim_run rfl rfl
theorem R_127 (as : List PV) (H : Heap) (n : Nat) : Gf 127 as H n = answer G_127 (codeL Gf G_127.body ⟨start G_127.live as, H, n⟩) := lim_run rfl rfl
theorem R_128 (as : List PV) (H : Heap) (n : Nat) : Gf 128 as H n = answer G_128 (codeL Gf G_128.body ⟨start G_128.live as, H, n⟩) := lim_run rfl rfl
theorem R_129 (as : List PV) (H : Heap) (n : Nat) : Gf 129 as H n = answer G_129 (codeL Gf G_129.body ⟨start G_129.live as, H, n⟩) := lim_run rfl rfl
theorem R_130 (as : List PV) (H : Heap) (n : Nat) : Gf 130 as H n = answer G_130 (codeL Gf G_130.body ⟨start G_130.live as, H, n⟩) := lim_run rfl rfl
theorem R_131 (as : List PV) (H : Heap) (n : Nat) : Gf 131 as H n = answer G_131 (codeL Gf G_131.body ⟨start G_131.live as, H, n⟩) := lim_run rfl rfl
theorem R_132 (as : List PV) (H : Heap) (n : Nat) : Gf 132 as H n = answer G_132 (codeL Gf G_132.body ⟨start G_132.live as, H, n⟩) := lim_run rfl rfl
theorem R_133 (as : List PV) (H : Heap) (n : Nat) : Gf 133 as H n = answer G_133 (codeL Gf G_133.body ⟨start G_133.live as, H, n⟩) := lim_run rfl rfl
theorem R_134 (as : List PV) (H : Heap) (n : Nat) : Gf 134 as H n = answer G_134 (codeL Gf G_134.body ⟨start G_134.live as, H, n⟩) := lim_run rfl rfl
theorem R_135 (as : List PV) (H : Heap) (n : Nat) : Gf 135 as H n = answer G_135 (codeL Gf G_135.body ⟨start G_135.live as, H, n⟩) := lim_run rfl rfl
theorem R_163 (as : List PV) (H : Heap) (n : Nat) : Gf 163 as H n = answer G_163 (codeL Gf G_163.body ⟨start G_163.live as, H, n⟩) := lim_run rfl rfl
theorem R_164 (as : List PV) (H : Heap) (n : Nat) : Gf 164 as H n = answer G_164 (codeL Gf G_164.body ⟨start G_164.live as, H, n⟩) := lim_run rfl rfl
theorem R_165 (as : List PV) (H : Heap) (n : Nat) : Gf 165 as H n = answer G_165 (codeL Gf G_165.body ⟨start G_165.live as, H, n⟩) := lim_run rfl rfl
theorem R_166 (as : List PV) (H : Heap) (n : Nat) : Gf 166 as H n = answer G_166 (codeL Gf G_166.body ⟨start G_166.live as, H, n⟩) := lim_run rfl rfl
theorem R_167 (as : List PV) (H : Heap) (n : Nat) : Gf 167 as H n = answer G_167 (codeL Gf G_167.body ⟨start G_167.live as, H, n⟩) := lim_run rfl rfl
theorem R_169 (as : List PV) (H : Heap) (n : Nat) : Gf 169 as H n = answer G_169 (codeL Gf G_169.body ⟨start G_169.live as, H, n⟩) := lim_run rfl rfl
theorem R_170 (as : List PV) (H : Heap) (n : Nat) : Gf 170 as H n = answer G_170 (codeL Gf G_170.body ⟨start G_170.live as, H, n⟩) := lim_run rfl rfl
theorem R_171 (as : List PV) (H : Heap) (n : Nat) : Gf 171 as H n = answer G_171 (codeL Gf G_171.body ⟨start G_171.live as, H, n⟩) := lim_run rfl rfl
theorem R_174 (as : List PV) (H : Heap) (n : Nat) : Gf 174 as H n = answer G_174 (codeL Gf G_174.body ⟨start G_174.live as, H, n⟩) := lim_run rfl rfl
theorem R_175 (as : List PV) (H : Heap) (n : Nat) : Gf 175 as H n = answer G_175 (codeL Gf G_175.body ⟨start G_175.live as, H, n⟩) := lim_run rfl rfl
theorem R_176 (as : List PV) (H : Heap) (n : Nat) : Gf 176 as H n = answer G_176 (codeL Gf G_176.body ⟨start G_176.live as, H, n⟩) := lim_run rfl rfl
theorem R_177 (as : List PV) (H : Heap) (n : Nat) : Gf 177 as H n = answer G_177 (codeL Gf G_177.body ⟨start G_177.live as, H, n⟩) := lim_run rfl rfl
theorem R_178 (as : List PV) (H : Heap) (n : Nat) : Gf 178 as H n = answer G_178 (codeL Gf G_178.body ⟨start G_178.live as, H, n⟩) := lim_run rfl rfl
theorem R_179 (as : List PV) (H : Heap) (n : Nat) : Gf 179 as H n = answer G_179 (codeL Gf G_179.body ⟨start G_179.live as, H, n⟩) := lim_run rfl rfl
theorem R_180 (as : List PV) (H : Heap) (n : Nat) : Gf 180 as H n = answer G_180 (codeL Gf G_180.body ⟨start G_180.live as, H, n⟩) := lim_run rfl rfl
theorem R_181 (as : List PV) (H : Heap) (n : Nat) : Gf 181 as H n = answer G_181 (codeL Gf G_181.body ⟨start G_181.live as, H, n⟩) := lim_run rfl rfl
theorem R_182 (as : List PV) (H : Heap) (n : Nat) : Gf 182 as H n = answer G_182 (codeL Gf G_182.body ⟨start G_182.live as, H, n⟩) := lim_run rfl rfl
theorem R_184 (as : List PV) (H : Heap) (n : Nat) : Gf 184 as H n = answer G_184 (codeL Gf G_184.body ⟨start G_184.live as, H, n⟩) := lim_run rfl rfl
theorem R_185 (as : List PV) (H : Heap) (n : Nat) : Gf 185 as H n = answer G_185 (codeL Gf G_185.body ⟨start G_185.live as, H, n⟩) := lim_run rfl rfl
theorem R_187 (as : List PV) (H : Heap) (n : Nat) : Gf 187 as H n = answer G_187 (codeL Gf G_187.body ⟨start G_187.live as, H, n⟩) := lim_run rfl rfl
theorem R_188 (as : List PV) (H : Heap) (n : Nat) : Gf 188 as H n = answer G_188 (codeL Gf G_188.body ⟨start G_188.live as, H, n⟩) := lim_run rfl rfl
theorem R_189 (as : List PV) (H : Heap) (n : Nat) : Gf 189 as H n = answer G_189 (codeL Gf G_189.body ⟨start G_189.live as, H, n⟩) := lim_run rfl rfl
theorem R_190 (as : List PV) (H : Heap) (n : Nat) : Gf 190 as H n = answer G_190 (codeL Gf G_190.body ⟨start G_190.live as, H, n⟩) := lim_run rfl rfl
theorem R_214 (as : List PV) (H : Heap) (n : Nat) : Gf 214 as H n = answer G_214 (codeL Gf G_214.body ⟨start G_214.live as, H, n⟩) := lim_run rfl rfl
theorem R_216 (as : List PV) (H : Heap) (n : Nat) : Gf 216 as H n = answer G_216 (codeL Gf G_216.body ⟨start G_216.live as, H, n⟩) := lim_run rfl rfl
theorem R_218 (as : List PV) (H : Heap) (n : Nat) : Gf 218 as H n = answer G_218 (codeL Gf G_218.body ⟨start G_218.live as, H, n⟩) := lim_run rfl rfl
theorem R_221 (as : List PV) (H : Heap) (n : Nat) : Gf 221 as H n = answer G_221 (codeL Gf G_221.body ⟨start G_221.live as, H, n⟩) := lim_run rfl rfl
theorem R_222 (as : List PV) (H : Heap) (n : Nat) : Gf 222 as H n = answer G_222 (codeL Gf G_222.body ⟨start G_222.live as, H, n⟩) := lim_run rfl rfl
theorem R_223 (as : List PV) (H : Heap) (n : Nat) : Gf 223 as H n = answer G_223 (codeL Gf G_223.body ⟨start G_223.live as, H, n⟩) := lim_run rfl rfl
theorem R_224 (as : List PV) (H : Heap) (n : Nat) : Gf 224 as H n = answer G_224 (codeL Gf G_224.body ⟨start G_224.live as, H, n⟩) := lim_run rfl rfl
theorem R_225 (as : List PV) (H : Heap) (n : Nat) : Gf 225 as H n = answer G_225 (codeL Gf G_225.body ⟨start G_225.live as, H, n⟩) := lim_run rfl rfl
theorem R_226 (as : List PV) (H : Heap) (n : Nat) : Gf 226 as H n = answer G_226 (codeL Gf G_226.body ⟨start G_226.live as, H, n⟩) := lim_run rfl rfl
theorem R_229 (as : List PV) (H : Heap) (n : Nat) : Gf 229 as H n = answer G_229 (codeL Gf G_229.body ⟨start G_229.live as, H, n⟩) := lim_run rfl rfl
theorem R_230 (as : List PV) (H : Heap) (n : Nat) : Gf 230 as H n = answer G_230 (codeL Gf G_230.body ⟨start G_230.live as, H, n⟩) := lim_run rfl rfl
theorem R_252 (as : List PV) (H : Heap) (n : Nat) : Gf 252 as H n = answer G_252 (codeL Gf G_252.body ⟨start G_252.live as, H, n⟩) := lim_run rfl rfl
theorem R_305 (as : List PV) (H : Heap) (n : Nat) : Gf 305 as H n = answer G_305 (codeL Gf G_305.body ⟨start G_305.live as, H, n⟩) := lim_run rfl rfl
theorem R_306 (as : List PV) (H : Heap) (n : Nat) : Gf 306 as H n = answer G_306 (codeL Gf G_306.body ⟨start G_306.live as, H, n⟩) := lim_run rfl rfl
theorem R_307 (as : List PV) (H : Heap) (n : Nat) : Gf 307 as H n = answer G_307 (codeL Gf G_307.body ⟨start G_307.live as, H, n⟩) := lim_run rfl rfl
theorem R_308 (as : List PV) (H : Heap) (n : Nat) : Gf 308 as H n = answer G_308 (codeL Gf G_308.body ⟨start G_308.live as, H, n⟩) := lim_run rfl rfl
@[go_sem] theorem L_3_0 : M_3_0.length = 28 := rfl
@[go_sem] theorem K_3_0 : pairsLeft 0 M_3_0 0 = [] := rfl
@[go_sem] theorem L_9_0 : M_9_0.length = 34 := rfl
@[go_sem] theorem K_9_0 : pairsLeft 0 M_9_0 0 = [] := rfl
@[go_sem] theorem L_13_0 : M_13_0.length = 13 := rfl
@[go_sem] theorem K_13_0 : pairsLeft 5120 M_13_0 0 = [] := rfl
@[go_sem] theorem L_13_1 : M_13_1.length = 14 := rfl
@[go_sem] theorem K_13_1 : pairsLeft 10240 M_13_1 0 = [] := rfl
@[go_sem] theorem L_26_0 : M_26_0.length = 17 := rfl
@[go_sem] theorem K_26_0 : pairsLeft 0 M_26_0 0 = [] := rfl
@[go_sem] theorem L_27_0 : M_27_0.length = 10 := rfl
@[go_sem] theorem K_27_0 : pairsLeft 768 M_27_0 0 = [(4, 8), (3, 8), (2, 8), (1, 8), (0, 8)] := rfl
@[go_sem] theorem L_28_0 : M_28_0.length = 17 := rfl
@[go_sem] theorem K_28_0 : pairsLeft 3136 M_28_0 0 = [(2, 6), (1, 6), (0, 6), (6, 7), (6, 8), (6, 9), (2, 10), (1, 10), (0, 10)] := rfl
@[go_sem] theorem L_28_1 : M_28_1.length = 10 := rfl
@[go_sem] theorem K_28_1 : pairsLeft 512 M_28_1 0 = [] := rfl
@[go_sem] theorem L_28_2 : M_28_2.length = 13 := rfl
@[go_sem] theorem K_28_2 : pairsLeft 2320 M_28_2 0 = [(0, 4), (4, 5), (4, 6), (4, 7), (0, 8)] := rfl
@[go_sem] theorem L_29_0 : M_29_0.length = 11 := rfl
@[go_sem] theorem K_29_0 : pairsLeft 512 M_29_0 0 = [] := rfl
@[go_sem] theorem L_29_1 : M_29_1.length = 11 := rfl
@[go_sem] theorem K_29_1 : pairsLeft 512 M_29_1 0 = [] := rfl
@[go_sem] theorem L_63_0 : M_63_0.length = 12 := rfl
@[go_sem] theorem K_63_0 : pairsLeft 528 M_63_0 0 = [(4, 5), (4, 6), (4, 7), (4, 8)] := rfl
@[go_sem] theorem L_64_0 : M_64_0.length = 12 := rfl
@[go_sem] theorem K_64_0 : pairsLeft 2560 M_64_0 0 = [(8, 9), (7, 9)] := rfl
@[go_sem] theorem L_70_0 : M_70_0.length = 6 := rfl
@[go_sem] theorem K_70_0 : pairsLeft 0 M_70_0 0 = [] := rfl
@[go_sem] theorem L_72_0 : M_72_0.length = 10 := rfl
@[go_sem] theorem K_72_0 : pairsLeft 136 M_72_0 0 = [(3, 4), (3, 5), (3, 6)] := rfl
@[go_sem] theorem L_72_1 : M_72_1.length = 18 := rfl
@[go_sem] theorem K_72_1 : pairsLeft 245760 M_72_1 0 = [(13, 14), (12, 14), (11, 14), (10, 14), (9, 14), (8, 14), (7, 14), (6, 14), (5, 14), (4, 14), (3, 14), (2, 14), (1, 14), (0, 14), (14, 15), (13, 15), (12, 15), (11, 15), (10, 15), (9, 15), (8, 15), (7, 15), (6, 15), (5, 15), (4, 15), (3, 15), (2, 15), (1, 15), (0, 15), (13, 16), (12, 16), (11, 16), (10, 16), (9, 16), (8, 16), (7, 16)] := rfl
@[go_sem] theorem L_72_2 : M_72_2.length = 12 := rfl
@[go_sem] theorem K_72_2 : pairsLeft 2048 M_72_2 0 = [] := rfl
@[go_sem] theorem L_72_3 : M_72_3.length = 15 := rfl
@[go_sem] theorem K_72_3 : pairsLeft 8192 M_72_3 0 = [] := rfl
@[go_sem] theorem L_73_0 : M_73_0.length = 9 := rfl
@[go_sem] theorem K_73_0 : pairsLeft 128 M_73_0 0 = [] := rfl
@[go_sem] theorem L_83_0 : M_83_0.length = 23 := rfl
@[go_sem] theorem K_83_0 : pairsLeft 4194304 M_83_0 0 = [] := rfl
@[go_sem] theorem L_84_0 : M_84_0.length = 15 := rfl
@[go_sem] theorem K_84_0 : pairsLeft 0 M_84_0 0 = [] := rfl
@[go_sem] theorem L_87_0 : M_87_0.length = 11 := rfl
@[go_sem] theorem K_87_0 : pairsLeft 1472 M_87_0 0 = [(1, 6), (0, 6), (1, 7), (0, 7)] := rfl
@[go_sem] theorem L_87_1 : M_87_1.length = 9 := rfl
@[go_sem] theorem K_87_1 : pairsLeft 368 M_87_1 0 = [(1, 4), (0, 4), (1, 5), (0, 5)] := rfl
@[go_sem] theorem L_119_0 : M_119_0.length = 12 := rfl
@[go_sem] theorem K_119_0 : pairsLeft 2304 M_119_0 0 = [(0, 8)] := rfl
@[go_sem] theorem L_119_1 : M_119_1.length = 11 := rfl
@[go_sem] theorem K_119_1 : pairsLeft 1152 M_119_1 0 = [(0, 7)] := rfl
@[go_sem] theorem L_120_0 : M_120_0.length = 10 := rfl
@[go_sem] theorem K_120_0 : pairsLeft 0 M_120_0 0 = [] := rfl
@[go_sem] theorem L_120_1 : M_120_1.length = 10 := rfl
@[go_sem] theorem K_120_1 : pairsLeft 0 M_120_1 0 = [] := rfl
@[go_sem] theorem L_125_0 : M_125_0.length = 15 := rfl
@[go_sem] theorem K_125_0 : pairsLeft 0 M_125_0 0 = [] := rfl
@[go_sem] theorem L_127_0 : M_127_0.length = 21 := rfl
@[go_sem] theorem K_127_0 : pairsLeft 1245184 M_127_0 0 = [(4, 16), (3, 16), (2, 16), (1, 16), (0, 16), (0, 17)] := rfl
@[go_sem] theorem L_130_0 : M_130_0.length = 14 := rfl
@[go_sem] theorem K_130_0 : pairsLeft 8192 M_130_0 0 = [] := rfl
@[go_sem] theorem L_133_0 : M_133_0.length = 8 := rfl
@[go_sem] theorem K_133_0 : pairsLeft 0 M_133_0 0 = [] := rfl
@[go_sem] theorem L_163_0 : M_163_0.length = 11 := rfl
@[go_sem] theorem K_163_0 : pairsLeft 1024 M_163_0 0 = [] := rfl
@[go_sem] theorem L_165_0 : M_165_0.length = 8 := rfl
@[go_sem] theorem K_165_0 : pairsLeft 0 M_165_0 0 = [] := rfl
@[go_sem] theorem L_174_0 : M_174_0.length = 15 := rfl
@[go_sem] theorem K_174_0 : pairsLeft 0 M_174_0 0 = [] := rfl
@[go_sem] theorem L_174_1 : M_174_1.length = 18 := rfl
@[go_sem] theorem K_174_1 : pairsLeft 163840 M_174_1 0 = [(4, 15), (3, 15), (2, 15)] := rfl
@[go_sem] theorem L_175_0 : M_175_0.length = 20 := rfl
@[go_sem] theorem K_175_0 : pairsLeft 655360 M_175_0 0 = [(5, 17), (4, 17), (3, 17), (2, 17)] := rfl
@[go_sem] theorem L_176_0 : M_176_0.length = 20 := rfl
@[go_sem] theorem K_176_0 : pairsLeft 655360 M_176_0 0 = [(5, 17), (4, 17), (3, 17), (2, 17)] := rfl
@[go_sem] theorem L_178_0 : M_178_0.length = 16 := rfl
@[go_sem] theorem K_178_0 : pairsLeft 40960 M_178_0 0 = [(3, 13), (2, 13)] := rfl
@[go_sem] theorem L_179_0 : M_179_0.length = 16 := rfl
@[go_sem] theorem K_179_0 : pairsLeft 0 M_179_0 0 = [] := rfl
@[go_sem] theorem L_179_1 : M_179_1.length = 18 := rfl
@[go_sem] theorem K_179_1 : pairsLeft 163840 M_179_1 0 = [(4, 15), (3, 15), (2, 15)] := rfl
@[go_sem] theorem L_179_2 : M_179_2.length = 11 := rfl
@[go_sem] theorem K_179_2 : pairsLeft 0 M_179_2 0 = [] := rfl
@[go_sem] theorem L_179_3 : M_179_3.length = 18 := rfl
@[go_sem] theorem K_179_3 : pairsLeft 163840 M_179_3 0 = [(4, 15), (3, 15), (2, 15)] := rfl
@[go_sem] theorem L_179_4 : M_179_4.length = 11 := rfl
@[go_sem] theorem K_179_4 : pairsLeft 0 M_179_4 0 = [] := rfl
@[go_sem] theorem L_179_5 : M_179_5.length = 18 := rfl
@[go_sem] theorem K_179_5 : pairsLeft 163840 M_179_5 0 = [(4, 15), (3, 15), (2, 15)] := rfl
@[go_sem] theorem L_181_0 : M_181_0.length = 16 := rfl
@[go_sem] theorem K_181_0 : pairsLeft 40960 M_181_0 0 = [(3, 13), (2, 13)] := rfl
@[go_sem] theorem L_181_1 : M_181_1.length = 15 := rfl
@[go_sem] theorem K_181_1 : pairsLeft 0 M_181_1 0 = [] := rfl
@[go_sem] theorem L_181_2 : M_181_2.length = 14 := rfl
@[go_sem] theorem K_181_2 : pairsLeft 0 M_181_2 0 = [] := rfl
@[go_sem] theorem L_181_3 : M_181_3.length = 16 := rfl
@[go_sem] theorem K_181_3 : pairsLeft 40960 M_181_3 0 = [(3, 13), (2, 13)] := rfl
@[go_sem] theorem L_182_0 : M_182_0.length = 16 := rfl
@[go_sem] theorem K_182_0 : pairsLeft 40960 M_182_0 0 = [(3, 13), (2, 13)] := rfl
@[go_sem] theorem L_182_1 : M_182_1.length = 14 := rfl
@[go_sem] theorem K_182_1 : pairsLeft 0 M_182_1 0 = [] := rfl
@[go_sem] theorem L_182_2 : M_182_2.length = 15 := rfl
@[go_sem] theorem K_182_2 : pairsLeft 0 M_182_2 0 = [] := rfl
@[go_sem] theorem L_182_3 : M_182_3.length = 16 := rfl
@[go_sem] theorem K_182_3 : pairsLeft 40960 M_182_3 0 = [(3, 13), (2, 13)] := rfl
@[go_sem] theorem L_182_4 : M_182_4.length = 16 := rfl
@[go_sem] theorem K_182_4 : pairsLeft 40960 M_182_4 0 = [(3, 13), (2, 13)] := rfl
@[go_sem] theorem L_182_5 : M_182_5.length = 14 := rfl
@[go_sem] theorem K_182_5 : pairsLeft 0 M_182_5 0 = [] := rfl
@[go_sem] theorem L_182_6 : M_182_6.length = 15 := rfl
@[go_sem] theorem K_182_6 : pairsLeft 0 M_182_6 0 = [] := rfl
@[go_sem] theorem L_182_7 : M_182_7.length = 16 := rfl
@[go_sem] theorem K_182_7 : pairsLeft 40960 M_182_7 0 = [(3, 13), (2, 13)] := rfl
@[go_sem] theorem L_182_8 : M_182_8.length = 16 := rfl
@[go_sem] theorem K_182_8 : pairsLeft 40960 M_182_8 0 = [(3, 13), (2, 13)] := rfl
@[go_sem] theorem L_221_0 : M_221_0.length = 20 := rfl
@[go_sem] theorem K_221_0 : pairsLeft 0 M_221_0 0 = [] := rfl
@[go_sem] theorem L_221_1 : M_221_1.length = 14 := rfl
@[go_sem] theorem K_221_1 : pairsLeft 0 M_221_1 0 = [] := rfl
@[go_sem] theorem L_221_2 : M_221_2.length = 24 := rfl
@[go_sem] theorem K_221_2 : pairsLeft 10485760 M_221_2 0 = [(7, 21), (6, 21), (5, 21), (4, 21)] := rfl
@[go_sem] theorem L_223_0 : M_223_0.length = 10 := rfl
@[go_sem] theorem K_223_0 : pairsLeft 512 M_223_0 0 = [] := rfl
@[go_sem] theorem L_223_1 : M_223_1.length = 10 := rfl
@[go_sem] theorem K_223_1 : pairsLeft 512 M_223_1 0 = [] := rfl
@[go_sem] theorem L_223_2 : M_223_2.length = 10 := rfl
@[go_sem] theorem K_223_2 : pairsLeft 512 M_223_2 0 = [] := rfl
@[go_sem] theorem L_252_0 : M_252_0.length = 9 := rfl
@[go_sem] theorem K_252_0 : pairsLeft 0 M_252_0 0 = [] := rfl
@[go_sem] theorem L_305_0 : M_305_0.length = 18 := rfl
@[go_sem] theorem K_305_0 : pairsLeft 0 M_305_0 0 = [] := rfl
@[go_sem] theorem L_306_0 : M_306_0.length = 14 := rfl
@[go_sem] theorem K_306_0 : pairsLeft 12288 M_306_0 0 = [(11, 12), (10, 12), (9, 12), (8, 12), (7, 12), (6, 12), (5, 12), (4, 12), (3, 12), (2, 12), (1, 12), (0, 12)] := rfl
@[go_sem] theorem L_306_1 : M_306_1.length = 15 := rfl
@[go_sem] theorem K_306_1 : pairsLeft 16384 M_306_1 0 = [] := rfl
@[go_sem] theorem L_307_0 : M_307_0.length = 11 := rfl
@[go_sem] theorem K_307_0 : pairsLeft 1152 M_307_0 0 = [(0, 7)] := rfl
@[go_sem] theorem L_308_0 : M_308_0.length = 28 := rfl
@[go_sem] theorem K_308_0 : pairsLeft 167772160 M_308_0 0 = [(9, 25)] := rfl
section
variable {H : Heap} {n idS idP ver len : Nat} {pv nv c0 nm up pl : PV} {rows : List (List PV)}
theorem wait_less {i j : Nat} {c c' : Int} {a b a' b' : PV} (hS : H.get idS = some (.arr 0 7 [[pv, nv, .view idP ver 3 0 len none, c0, nm, up, pl]])) (hP : H.get idP = some (.arr ver 3 rows))
    (hi : i < len) (hj : j < len) (hri : rows[i]? = some [.int .i64 c, a, b]) (hrj : rows[j]? = some [.int .i64 c', a', b']) :
    Gf 305 [.ptr idS 0 7 0 2, .int .i64 i, .int .i64 j] H n = some (.bool (decide (c < c')), H, n) := by
  rw [R_305]
  simp (disch := omega) only [go_sem, Nat.reduceAdd, Nat.reduceMul, Nat.reduceLeDiff, G_305, hS, hP, hri, hrj]
theorem wait_len (hS : H.get idS = some (.arr 0 7 [[pv, nv, .view idP ver 3 0 len none, c0, nm, up, pl]])) :
    Gf 131 [.ptr idS 0 7 0 2] H n = some (.int .i64 len, H, n) := by
  rw [R_131]
  simp (disch := omega) only [go_sem, G_131, hS]
theorem wait_len0 (hS : H.get idS = some (.arr 0 7 [[pv, nv, .nils, c0, nm, up, pl]])) :
    Gf 131 [.ptr idS 0 7 0 2] H n = some (.int .i64 0, H, n) := by
  rw [R_131]
  simp (disch := omega) only [go_sem, G_131, hS]
theorem wait_swap {i j : Nat} {a b c a' b' c' : PV} (hS : H.get idS = some (.arr 0 7 [[pv, nv, .view idP ver 3 0 len none, c0, nm, up, pl]])) (hP : H.get idP = some (.arr ver 3 rows))
    (hi : i < len) (hj : j < len) (hri : rows[i]? = some [a, b, c]) (hrj : rows[j]? = some [a', b', c']) :
    Gf 308 [.ptr idS 0 7 0 2, .int .i64 i, .int .i64 j] H n = some (.tup [], H.set idP (.arr ver 3 ((rows.set i [a', b', c']).set j [a, b, c])), n) := by
  rw [R_308]
  by_cases hij : i = j
  · subst hij
    have e0 := hri.symm.trans hrj
    simp only [Option.some.injEq, List.cons.injEq, and_true] at e0
    obtain ⟨rfl, rfl, rfl⟩ := e0
    have e : (rows.set i [a, b, c])[i]? = some [a, b, c] := by
      rw [List.getElem?_set_self]; exact (List.getElem?_eq_some_iff.1 hri).1
    simp (disch := omega) only [go_sem, Nat.reduceAdd, Nat.reduceMul, Nat.reduceLeDiff, G_308, hS, hP, hri, get_same, e]
  · simp (disch := omega) only [go_sem, Nat.reduceAdd, Nat.reduceMul, Nat.reduceLeDiff, G_308, hS, hP, hri, hrj, get_same, List.getElem?_set_ne]
def VW (H : Heap) (k id : Nat) (v : PV) (xs : List (List PV)) : Prop := ∃ ver rest, v = .view id ver k 0 xs.length none ∧ H.get id = some (.arr ver k (xs ++ rest))
theorem VW.same {H H' : Heap} {k id : Nat} {v : PV} {xs : List (List PV)} (h : VW H k id v xs) (e : H'.get id = H.get id) : VW H' k id v xs := by
  obtain ⟨ver, rest, h1, h2⟩ := h
  exact ⟨ver, rest, h1, e.trans h2⟩
def prow (p : Nat × Nat × Nat) : List PV := [.int .i64 p.1, .int .i64 p.2.1, .int .i64 p.2.2]
abbrev srow (pv nv wv c0 nm up pl : PV) : Obj := .arr 0 7 [[pv, nv, wv, c0, nm, up, pl]]
theorem wait_push {a b c : Nat} {wv : PV} {q : List (Nat × Nat × Nat)} (hS : H.get idS = some (srow pv nv wv c0 nm up pl)) (hG : VW H 3 idP wv (q.map prow)) (h0 : idS ≠ idP) (h1 : idS < n) (h2 : idP < n)
    (hb : q.length < 1000000000) :
    ∃ H' wv', Gf 307 [.ptr idS 0 7 0 2, .iface 203 (.agg [.int .i64 a, .int .i64 b, .int .i64 c])] H n = some (.tup [], H', n + 1) ∧
      H'.get idS = some (srow pv nv wv' c0 nm up pl) ∧ VW H' 3 idP wv' ((q ++ [(a, b, c)]).map prow) ∧ Same [idS, idP] n H H' := by
  have hq : (q.map prow).length = q.length := by simp
  obtain ⟨ver, rest, rfl, hP⟩ := hG
  have h3 : n ≠ idS := by omega
  have h4 : n ≠ idP := by omega
  cases rest with
  | nil =>
    rw [List.append_nil] at hP
    refine ⟨((H.set n (.arr 0 3 [prow (a, b, c)])).set idP (.arr (ver + 1) 3 (q.map prow ++ [prow (a, b, c)]))).set idS (srow pv nv (.view idP (ver + 1) 3 0 ((q.map prow).length + 1) none) c0 nm up pl), _, ?_, get_same _ _ _, ⟨ver + 1, [], ?_, ?_⟩, ?_⟩
    · rw [R_307]
      simp (disch := omega) only [go_sem, Nat.reduceAdd, Nat.reduceMul, Nat.reduceLeDiff, Nat.reduceBEq, Nat.reduceLT, G_307, hS, hP, get_same, get_other, prow]
    · simp
    · rw [get_other _ _ h0, get_same]; simp
    · exact ((Same.refl _ _ _).set _ (.inr (Nat.le_refl n))).set _ (.inl (by simp)) |>.set _ (.inl (by simp))
  | cons r rest =>
    refine ⟨((H.set n (.arr 0 3 [prow (a, b, c)])).set idP (.arr ver 3 (q.map prow ++ prow (a, b, c) :: rest))).set idS (srow pv nv (.view idP ver 3 0 ((q.map prow).length + 1) none) c0 nm up pl), _, ?_, get_same _ _ _, ⟨ver, rest, ?_, ?_⟩, ?_⟩
    · rw [R_307]
      simp (disch := omega) only [go_sem, Nat.reduceAdd, Nat.reduceMul, Nat.reduceLeDiff, Nat.reduceBEq, Nat.reduceLT, G_307, hS, hP, get_same, get_other, prow]
    · simp
    · rw [get_other _ _ h0, get_same]; simp
    · exact ((Same.refl _ _ _).set _ (.inr (Nat.le_refl n))).set _ (.inl (by simp)) |>.set _ (.inl (by simp))
theorem wait_swapQ {wv : PV} {q : List (Nat × Nat × Nat)} {i j : Nat} (hS : H.get idS = some (srow pv nv wv c0 nm up pl)) (hG : VW H 3 idP wv (q.map prow)) (hi : i < q.length) (hj : j < q.length) :
    ∃ (o : Obj) (q' : List (Nat × Nat × Nat)), q'.Perm q ∧ Gf 308 [.ptr idS 0 7 0 2, .int .i64 i, .int .i64 j] H n = some (.tup [], H.set idP o, n) ∧ VW (H.set idP o) 3 idP wv (q'.map prow) := by
  obtain ⟨ver, rest, rfl, hP⟩ := hG
  have hri : (q.map prow ++ rest)[i]? = some (prow q[i]) := by
    rw [List.getElem?_append_left (by simpa using hi)]; simp [hi]
  have hrj : (q.map prow ++ rest)[j]? = some (prow q[j]) := by
    rw [List.getElem?_append_left (by simpa using hj)]; simp [hj]
  refine ⟨_, (q.set i q[j]).set j q[i], List.set_set_perm hi hj, wait_swap hS hP (by simpa using hi) (by simpa using hj) hri hrj, ver, rest, by simp, ?_⟩
  rw [get_same]
  rw [List.set_append_left _ _ (by simpa using hi), List.set_append_left _ _ (by simpa using hj)]
  simp [prow]
theorem wait_lessQ {wv : PV} {q : List (Nat × Nat × Nat)} {i j : Nat} (hS : H.get idS = some (srow pv nv wv c0 nm up pl)) (hG : VW H 3 idP wv (q.map prow)) (hi : i < q.length) (hj : j < q.length) :
    ∃ b, Gf 305 [.ptr idS 0 7 0 2, .int .i64 i, .int .i64 j] H n = some (.bool b, H, n) := by
  obtain ⟨ver, rest, rfl, hP⟩ := hG
  have hri : (q.map prow ++ rest)[i]? = some (prow q[i]) := by
    rw [List.getElem?_append_left (by simpa using hi)]; simp [hi]
  have hrj : (q.map prow ++ rest)[j]? = some (prow q[j]) := by
    rw [List.getElem?_append_left (by simpa using hj)]; simp [hj]
  exact ⟨_, wait_less hS hP (by simpa using hi) (by simpa using hj) hri hrj⟩
theorem up_loop {wv : PV} (h0 : idS ≠ idP) : ∀ (j : Nat) (H : Heap) (q : List (Nat × Nat × Nat)) (x y : PV), H.get idS = some (srow pv nv wv c0 nm up pl) → VW H 3 idP wv (q.map prow) → j < q.length → q.length < 1000000000 →
    ∃ (S' : List PV) (H' : Heap) (q' : List (Nat × Nat × Nat)), codeL Gf (.loop B_229_0) ⟨[.iface 205 (.ptr idS 0 7 0 2), .int .i64 j, x, y], H, n⟩ = some (.exit 0, ⟨S', H', n⟩) ∧ q'.Perm q ∧ VW H' 3 idP wv (q'.map prow) ∧ Same [idP] n H H' := by
  intro j
  induction j using Nat.strongRecOn with
  | ind j ih =>
    intro H q x y hS hG hj hb
    have hd : ((j : Int) - 1).tdiv 2 = (((j - 1) / 2 : Nat) : Int) := by
      cases j with
      | zero => rfl
      | succ j => rw [show ((j + 1 : Nat) : Int) - 1 = (j : Int) by omega, show (j + 1 - 1) = j by omega]; rfl
    by_cases he : (j - 1) / 2 = j
    · have hj0 : j = 0 := by omega
      refine ⟨[.iface 205 (.ptr idS 0 7 0 2), .int .i64 j, .int .i64 j, .bool true], H, q, codeL_loop_end ?_ (by simp), .refl _, hG, .refl _ _ _⟩
      simp (disch := omega) only [go_sem, B_229_0, hd, he]
    · have hi : (j - 1) / 2 < q.length := by omega
      obtain ⟨b, hl⟩ := wait_lessQ (n := n) hS hG hj hi
      cases b with
      | false =>
        refine ⟨[.iface 205 (.ptr idS 0 7 0 2), .int .i64 j, .int .i64 ((j - 1) / 2 : Nat), .bool true], H, q, codeL_loop_end ?_ (by simp), .refl _, hG, .refl _ _ _⟩
        simp (disch := omega) only [go_sem, B_229_0, hd, hl]
      | true =>
        obtain ⟨o, q1, hp, hs, hG1⟩ := wait_swapQ (n := n) hS hG hi hj
        have hlen := hp.length_eq
        obtain ⟨S', H', q', h1, h2, h3, h4⟩ := ih ((j - 1) / 2) (by omega) (H.set idP o) q1 (.int .i64 ((j - 1) / 2 : Nat)) (.bool false) (by rw [get_other _ _ (Ne.symm h0)]; exact hS) hG1 (by omega) (by omega)
        refine ⟨S', H', q', ?_, h2.trans hp, h3, ((Same.refl _ _ _).set _ (.inl (by simp))).trans h4 (Nat.le_refl _)⟩
        rw [← h1]
        refine codeL_loop_iff ?_
        simp (disch := omega) only [go_sem, B_229_0, hd, hl, hs]
theorem heap_push {a b c : Nat} {wv : PV} {q : List (Nat × Nat × Nat)} (hS : H.get idS = some (srow pv nv wv c0 nm up pl)) (hG : VW H 3 idP wv (q.map prow)) (h0 : idS ≠ idP) (h1 : idS < n) (h2 : idP < n)
    (hb : q.length < 999999999) :
    ∃ (H' : Heap) (wv' : PV) (q' : List (Nat × Nat × Nat)), Gf 188 [.iface 205 (.ptr idS 0 7 0 2), .iface 203 (.agg [.int .i64 a, .int .i64 b, .int .i64 c])] H n = some (.tup [], H', n + 1) ∧
      H'.get idS = some (srow pv nv wv' c0 nm up pl) ∧ q'.Perm (q ++ [(a, b, c)]) ∧ VW H' 3 idP wv' (q'.map prow) ∧ Same [idS, idP] n H H' := by
  obtain ⟨H1, wv1, e1, hS1, hG1, hs1⟩ := wait_push (a := a) (b := b) (c := c) hS hG h0 h1 h2 (by omega)
  obtain ⟨ver, rest, hwv, hP⟩ := id hG1
  have el : Gf 131 [.ptr idS 0 7 0 2] H1 (n + 1) = some (.int .i64 ((q.length + 1 : Nat) : Int), H1, n + 1) := by
    rw [wait_len (by rw [← hwv]; exact hS1)]; simp
  obtain ⟨S', H', q', hu, hp, hG', hs'⟩ := up_loop (n := n + 1) h0 q.length H1 (q ++ [(a, b, c)]) (.tup []) (.tup []) hS1 hG1 (by simp) (by simp; omega)
  have eu : Gf 229 [.iface 205 (.ptr idS 0 7 0 2), .int .i64 q.length] H1 (n + 1) = some (.tup [], H', n + 1) := by
    rw [R_229]
    simp (disch := omega) only [go_sem, G_229, hu]
  refine ⟨H', wv1, q', ?_, ?_, hp, hG', ?_⟩
  · rw [R_188]
    have e3 : ((q.length + 1 : Nat) : Int) - 1 = (q.length : Int) := by omega
    simp (disch := omega) only [go_sem, G_188, e1, el, e3, eu]
  · rw [hs' _ (by omega) (by simpa using h0)]; exact hS1
  · exact hs1.trans (hs'.mono (fun x hx => by simp at hx; simp [hx]) (Nat.le_succ n)) (Nat.le_refl n)
theorem down_loop {wv : PV} (h0 : idS ≠ idP) (m : Nat) (x1 x3 : PV) : ∀ (d i : Nat) (H : Heap) (q : List (Nat × Nat × Nat)) (y5 y6 y7 y8 y9 y10 : PV), d = m - i → H.get idS = some (srow pv nv wv c0 nm up pl) → VW H 3 idP wv (q.map prow) → i < q.length → m ≤ q.length → q.length < 1000000000 →
    ∃ (H' : Heap) (q' : List (Nat × Nat × Nat)) (i' : Nat) (z5 z6 z7 z8 z9 z10 : PV), codeL Gf (.loop B_109_0) ⟨[.iface 205 (.ptr idS 0 7 0 2), x1, .int .i64 m, x3, .int .i64 i, y5, y6, y7, y8, y9, y10], H, n⟩ =
        some (.exit 0, ⟨[.iface 205 (.ptr idS 0 7 0 2), x1, .int .i64 m, x3, .int .i64 i', z5, z6, z7, z8, z9, z10], H', n⟩) ∧ q'.Perm q ∧ VW H' 3 idP wv (q'.map prow) ∧ Same [idP] n H H' := by
  intro d
  induction d using Nat.strongRecOn with
  | ind d ih =>
    intro i H q y5 y6 y7 y8 y9 y10 hd hS hG hi hm hb
    have c1 : 2 * (i : Int) + 1 = ((2 * i + 1 : Nat) : Int) := by omega
    have c2 : ((2 * i + 1 : Nat) : Int) + 1 = ((2 * i + 2 : Nat) : Int) := by omega
    by_cases hA : m ≤ 2 * i + 1
    · refine ⟨H, q, i, .int .i64 ((2 * i + 1 : Nat) : Int), y6, y7, .bool true, y9, y10, codeL_loop_end ?_ (by simp), .refl _, hG, .refl _ _ _⟩
      simp (disch := omega) only [go_sem, B_109_0, c1]
    · -- which one is less
      have key : ∃ j y7' y9', (j = 2 * i + 1 ∨ j = 2 * i + 2) ∧ j < m ∧ ∀ b, Gf 305 [.ptr idS 0 7 0 2, .int .i64 j, .int .i64 i] H n = some (.bool b, H, n) →
          (b = false → codeL Gf B_109_0 ⟨[.iface 205 (.ptr idS 0 7 0 2), x1, .int .i64 m, x3, .int .i64 i, y5, y6, y7, y8, y9, y10], H, n⟩ = some (.exit 0, ⟨[.iface 205 (.ptr idS 0 7 0 2), x1, .int .i64 m, x3, .int .i64 i, .int .i64 ((2 * i + 1 : Nat) : Int), .int .i64 j, y7', .bool false, y9', .bool true], H, n⟩)) ∧
          (b = true → ∀ H', Gf 308 [.ptr idS 0 7 0 2, .int .i64 i, .int .i64 j] H n = some (.tup [], H', n) → codeL Gf B_109_0 ⟨[.iface 205 (.ptr idS 0 7 0 2), x1, .int .i64 m, x3, .int .i64 i, y5, y6, y7, y8, y9, y10], H, n⟩ = some (.normal, ⟨[.iface 205 (.ptr idS 0 7 0 2), x1, .int .i64 m, x3, .int .i64 j, .int .i64 ((2 * i + 1 : Nat) : Int), .int .i64 j, y7', .bool false, y9', .bool false], H', n⟩)) := by
        by_cases hB : 2 * i + 2 < m
        · obtain ⟨b1, hl1⟩ := wait_lessQ (n := n) (i := 2 * i + 2) (j := 2 * i + 1) hS hG (by omega) (by omega)
          cases b1 with
          | true =>
            refine ⟨2 * i + 2, .int .i64 ((2 * i + 2 : Nat) : Int), .bool true, .inr rfl, hB, fun b hb => ⟨?_, ?_⟩⟩
            · rintro rfl
              simp (disch := omega) only [go_sem, B_109_0, c1, c2, hl1, hb]
            · rintro rfl H' hs
              simp (disch := omega) only [go_sem, B_109_0, c1, c2, hl1, hb, hs]
          | false =>
            refine ⟨2 * i + 1, .int .i64 ((2 * i + 2 : Nat) : Int), .bool false, .inl rfl, by omega, fun b hb => ⟨?_, ?_⟩⟩
            · rintro rfl
              simp (disch := omega) only [go_sem, B_109_0, c1, c2, hl1, hb]
            · rintro rfl H' hs
              simp (disch := omega) only [go_sem, B_109_0, c1, c2, hl1, hb, hs]
        · refine ⟨2 * i + 1, .int .i64 ((2 * i + 2 : Nat) : Int), .bool false, .inl rfl, by omega, fun b hb => ⟨?_, ?_⟩⟩
          · rintro rfl
            simp (disch := omega) only [go_sem, B_109_0, c1, c2, hb]
          · rintro rfl H' hs
            simp (disch := omega) only [go_sem, B_109_0, c1, c2, hb, hs]
      obtain ⟨j, y7', y9', hj, hjm, hk⟩ := key
      obtain ⟨b, hl⟩ := wait_lessQ (n := n) (i := j) (j := i) hS hG (by omega) (by omega)
      obtain ⟨k1, k2⟩ := hk b hl
      cases b with
      | false => exact ⟨H, q, i, _, _, _, _, _, _, codeL_loop_end (k1 rfl) (by simp), .refl _, hG, .refl _ _ _⟩
      | true =>
        obtain ⟨o, q1, hp, hs, hG1⟩ := wait_swapQ (n := n) hS hG hi (show j < q.length by omega)
        have hlen := hp.length_eq
        obtain ⟨H', q', i', z5, z6, z7, z8, z9, z10, h1, h2, h3, h4⟩ := ih (m - j) (by omega) j (H.set idP o) q1 _ _ _ _ _ _ rfl (by rw [get_other _ _ (Ne.symm h0)]; exact hS) hG1 (by omega) (by omega) (by omega)
        exact ⟨H', q', i', z5, z6, z7, z8, z9, z10, by rw [← h1]; exact codeL_loop_iff (k2 rfl _ hs), h2.trans hp, h3, ((Same.refl _ _ _).set _ (.inl (by simp))).trans h4 (Nat.le_refl _)⟩
theorem wait_pop {a b c : Nat} {wv : PV} {q : List (Nat × Nat × Nat)} (hS : H.get idS = some (srow pv nv wv c0 nm up pl)) (hG : VW H 3 idP wv ((q ++ [(a, b, c)]).map prow)) (h0 : idS ≠ idP) (h1 : idS < n) (h2 : idP < n)
    (hb : q.length < 1000000000) :
    ∃ (H' : Heap) (wv' : PV), Gf 306 [.ptr idS 0 7 0 2] H n = some (.iface 203 (.agg (prow (a, b, c))), H', n + 1) ∧
      H'.get idS = some (srow pv nv wv' c0 nm up pl) ∧ VW H' 3 idP wv' (q.map prow) ∧ Same [idS] n H H' := by
  obtain ⟨ver, rest, rfl, hP⟩ := hG
  have h3 : n ≠ idS := by omega
  have h4 : n ≠ idP := by omega
  have hq : ((q ++ [(a, b, c)]).map prow).length = q.length + 1 := by simp
  have hr : ((q ++ [(a, b, c)]).map prow ++ rest)[q.length]? = some (prow (a, b, c)) := by
    rw [List.getElem?_append_left (by simp)]; simp
  have e3 : ((q.length + 1 : Nat) : Int) - 1 = (q.length : Int) := by omega
  rw [hq] at hS
  refine ⟨((H.set n (.arr 0 3 [prow (a, b, c)])).set idS (srow pv nv (.view idP ver 3 0 q.length none) c0 nm up pl)), _, ?_, get_same _ _ _, ⟨ver, prow (a, b, c) :: rest, ?_, ?_⟩, ?_⟩
  · rw [R_306]
    have hr' : ((q ++ [(a, b, c)]).map prow ++ rest)[q.length]? = some [.int .i64 a, .int .i64 b, .int .i64 c] := hr
    have es : sliceV 3 (.view idP ver 3 0 (q.length + 1) none) 0 q.length none = some (.view idP ver 3 0 q.length none) := by simp [sliceV]
    simp (disch := omega) only [go_sem, Nat.reduceAdd, Nat.reduceMul, Nat.reduceLeDiff, G_306, hS, hP, get_same, get_other, prow, e3, hr', es, Option.map_none, Option.isSome_none]
  · simp
  · rw [get_other _ _ h0, get_other _ _ h4, hP]; simp
  · exact ((Same.refl _ _ _).set _ (.inr (Nat.le_refl n))).set _ (.inl (by simp))
theorem heap_pop {wv : PV} {q : List (Nat × Nat × Nat)} (hS : H.get idS = some (srow pv nv wv c0 nm up pl)) (hG : VW H 3 idP wv (q.map prow)) (h0 : idS ≠ idP) (h1 : idS < n) (h2 : idP < n)
    (hb : q.length < 999999999) (hne : q ≠ []) :
    ∃ (H' : Heap) (wv' : PV) (q' : List (Nat × Nat × Nat)) (p : Nat × Nat × Nat), Gf 56 [.iface 205 (.ptr idS 0 7 0 2)] H n = some (.iface 203 (.agg (prow p)), H', n + 1) ∧
      H'.get idS = some (srow pv nv wv' c0 nm up pl) ∧ (p :: q').Perm q ∧ VW H' 3 idP wv' (q'.map prow) ∧ Same [idS, idP] n H H' := by
  have hlen : 0 < q.length := List.length_pos_iff.2 hne
  obtain ⟨ver, rest, hwv, hP⟩ := id hG
  have el : Gf 131 [.ptr idS 0 7 0 2] H n = some (.int .i64 (q.length : Int), H, n) := by
    rw [wait_len (by rw [← hwv]; exact hS)]; simp
  obtain ⟨o, q1, hp1, hs, hG1⟩ := wait_swapQ (n := n) (i := 0) (j := q.length - 1) hS hG hlen (by omega)
  have hl1 := hp1.length_eq
  have hS1 : (H.set idP o).get idS = some (srow pv nv wv c0 nm up pl) := by rw [get_other _ _ (Ne.symm h0)]; exact hS
  obtain ⟨H2, q2, i', z5, z6, z7, z8, z9, z10, hd, hp2, hG2, hs2⟩ := down_loop (n := n) h0 (q.length - 1) (.int .i64 0) (.bool false) _ 0 (H.set idP o) q1 (.tup []) (.tup []) (.tup []) (.tup []) (.tup []) (.tup []) rfl hS1 hG1 (by omega) (by omega) (by omega)
  have hl2 := hp2.length_eq
  have ed : Gf 109 [.iface 205 (.ptr idS 0 7 0 2), .int .i64 0, .int .i64 ((q.length - 1 : Nat) : Int)] (H.set idP o) n = some (.bool (decide ((i' : Int) > 0)), H2, n) := by
    have hd' := hd
    rw [show ((0 : Nat) : Int) = 0 from rfl] at hd'
    rw [R_109]
    simp (disch := omega) only [go_sem, G_109, hd']
  obtain ⟨q3, p, rfl⟩ : ∃ q3 p, q2 = q3 ++ [p] := ⟨q2.dropLast, q2.getLast (by intro h; simp [h] at hl2; omega), (List.dropLast_concat_getLast _).symm⟩
  have hS2 : H2.get idS = some (srow pv nv wv c0 nm up pl) := by rw [hs2 _ h1 (by simpa using h0)]; exact hS1
  obtain ⟨a, b, c⟩ := p
  obtain ⟨H3, wv3, ep, hS3, hG3, hs3⟩ := wait_pop (a := a) (b := b) (c := c) hS2 hG2 h0 h1 h2 (by simp at hl2; omega)
  refine ⟨H3, wv3, q3, (a, b, c), ?_, hS3, ?_, hG3, ?_⟩
  · rw [R_56]
    have e3 : (q.length : Int) - 1 = ((q.length - 1 : Nat) : Int) := by omega
    have hs' := hs
    rw [show ((0 : Nat) : Int) = 0 from rfl] at hs'
    simp (disch := omega) only [go_sem, G_56, el, e3, hs', ed, ep]
  · exact (List.perm_append_comm (l₁ := [(a, b, c)]) (l₂ := q3)).trans (hp2.trans hp1)
  · exact (((Same.refl _ _ _).set _ (.inl (by simp))).trans (hs2.mono (fun x hx => by simp at hx; simp [hx]) (Nat.le_refl n)) (Nat.le_refl n)).trans (hs3.mono (fun x hx => by simp at hx; simp [hx]) (Nat.le_refl n)) (Nat.le_refl n)
end
structure Nd where
  kind : Int
  num : Int
  name : ByteArray
  av : PV
  uv : PV
def nrow (d : Nd) (p : Nat) : List PV := [.int .i64 d.kind, .int .i64 d.num, .str d.name, d.av, d.uv, .int .i64 p]
def nrows (len : Nat) (D : Nat → Nd) (P : Nat → Nat) : List (List PV) := (List.range len).map fun i => nrow (D i) (P i)
theorem nrows_length (len : Nat) (D : Nat → Nd) (P : Nat → Nat) : (nrows len D P).length = len := by simp [nrows]
theorem nrows_at {len : Nat} (D : Nat → Nd) (P : Nat → Nat) {i : Nat} (h : i < len) : (nrows len D P)[i]? = some (nrow (D i) (P i)) := by
  simp [nrows, h]
def upd (P : Nat → Nat) (i v : Nat) : Nat → Nat := fun j => if j = i then v else P j
theorem upd_self (P : Nat → Nat) (i v : Nat) : upd P i v i = v := by simp [upd]
theorem upd_ne (P : Nat → Nat) {i j : Nat} (v : Nat) (h : j ≠ i) : upd P i v j = P j := by simp [upd, h]
theorem nrows_set (len : Nat) (D : Nat → Nd) (P : Nat → Nat) (i v : Nat) : (nrows len D P).set i (nrow (D i) v) = nrows len D (upd P i v) := by
  apply List.ext_getElem?
  intro j
  by_cases hj : j < len
  · rw [nrows_at _ _ hj]
    by_cases e : i = j
    · subst e
      rw [List.getElem?_set_self (by simpa [nrows_length] using hj), upd_self]
    · rw [List.getElem?_set_ne e, nrows_at _ _ hj, upd_ne _ _ (Ne.symm e)]
  · rw [List.getElem?_eq_none (by simp [nrows_length]; omega), List.getElem?_eq_none (by simp [nrows_length]; omega)]
theorem nrows_snoc (len : Nat) (D : Nat → Nd) (P : Nat → Nat) : nrows len D P ++ [nrow (D len) (P len)] = nrows (len + 1) D P := by
  simp [nrows, List.range_succ]
theorem nrows_congr {len : Nat} {D D' : Nat → Nd} {P P' : Nat → Nat} (hD : ∀ i, i < len → D i = D' i) (hP : ∀ i, i < len → P i = P' i) : nrows len D P = nrows len D' P' := by
  simp only [nrows]
  apply List.map_congr_left
  intro i hi
  simp at hi
  rw [hD i hi, hP i hi]
def Ups (len : Nat) (P R rk : Nat → Nat) : Prop := ∀ i, i < len → P i < len ∧ R i < len ∧ P (R i) = R i ∧ R (P i) = R i ∧ (P i = i → R i = i) ∧ (P i ≠ i → rk (P i) < rk i)
theorem Ups.rr {len : Nat} {P R rk : Nat → Nat} (h : Ups len P R rk) {i : Nat} (hi : i < len) : R (R i) = R i := by
  obtain ⟨_, h2, h3, _⟩ := h i hi
  exact (h _ h2).2.2.2.2.1 h3
theorem Ups.halve {len : Nat} {P R rk : Nat → Nat} (h : Ups len P R rk) {i : Nat} (hi : i < len) (hne : P i ≠ i) : Ups len (upd P i (P (P i))) R rk := by
  intro j hj
  obtain ⟨a1, a2, a3, a4, a5, a6⟩ := h i hi
  obtain ⟨b1, b2, b3, b4, b5, b6⟩ := h (P i) a1
  obtain ⟨c1, c2, c3, c4, c5, c6⟩ := h j hj
  have hR : R j ≠ i := by
    intro e
    rw [e] at c3
    exact hne c3
  refine ⟨?_, c2, ?_, ?_, ?_, ?_⟩
  · by_cases e : j = i
    · subst e; rw [upd_self]; exact b1
    · rw [upd_ne _ _ e]; exact c1
  · rw [upd_ne _ _ hR]; exact c3
  · by_cases e : j = i
    · subst e; rw [upd_self, b4, a4]
    · rw [upd_ne _ _ e]; exact c4
  · by_cases e : j = i
    · subst e
      rw [upd_self]
      intro e2
      exfalso
      by_cases e3 : P (P j) = P j
      · rw [e3] at e2; exact hne e2
      · have := a6 hne; have := b6 e3; rw [e2] at this; omega
    · rw [upd_ne _ _ e]; exact c5
  · by_cases e : j = i
    · subst e
      rw [upd_self]
      intro e2
      by_cases e3 : P (P j) = P j
      · rw [e3]; exact a6 hne
      · have := a6 hne; have := b6 e3; omega
    · rw [upd_ne _ _ e]; exact c6
theorem Ups.join {len : Nat} {P R rk : Nat → Nat} (h : Ups len P R rk) {i k : Nat} (hi : i < len) (hk : k < len) (hri : P i = i) (hrk : P k = k) (hne : i ≠ k) :
    Ups len (upd P i k) (fun j => if R j = i then k else R j) (fun j => if R j = i then rk j + rk k + 1 else rk j) := by
  have Ri : R i = i := (h i hi).2.2.2.2.1 hri
  have Rk : R k = k := (h k hk).2.2.2.2.1 hrk
  intro j hj
  obtain ⟨c1, c2, c3, c4, c5, c6⟩ := h j hj
  simp only
  by_cases e : j = i
  · subst e
    rw [upd_self]
    simp only [Ri, if_true, Rk, if_neg (Ne.symm hne)]
    refine ⟨hk, hk, ?_, trivial, fun e => absurd e.symm hne, fun _ => by omega⟩
    rw [upd_ne _ _ (Ne.symm hne)]; exact hrk
  · rw [upd_ne _ _ e]
    by_cases e2 : R j = i
    · simp only [e2, c4, if_true]
      refine ⟨c1, hk, by rw [upd_ne _ _ (Ne.symm hne)]; exact hrk, trivial, fun e3 => ?_, fun e3 => by have := c6 e3; omega⟩
      exact absurd ((c5 e3).symm.trans e2) e
    · simp only [e2, c4, if_false]
      refine ⟨c1, c2, ?_, trivial, c5, c6⟩
      rw [upd_ne _ _ e2]; exact c3
section
variable {n idS idN ver len : Nat} {pv wv c0 nm up pl : PV} {D : Nat → Nd} {R rk : Nat → Nat}
theorem find_loop (h0 : idS ≠ idN) (hl : len < 1000000000) : ∀ (d i : Nat) (P : Nat → Nat) (H : Heap) (x y : PV), rk i = d → H.get idS = some (srow pv (.view idN ver 6 0 len none) wv c0 nm up pl) → H.get idN = some (.arr ver 6 (nrows len D P)) → Ups len P R rk → i < len →
    ∃ (P' : Nat → Nat) (H' : Heap) (x' y' : PV), codeL Gf (.loop B_83_0) ⟨[.ptr idS 0 7 0 1, .int .i64 i, x, y], H, n⟩ = some (.exit 0, ⟨[.ptr idS 0 7 0 1, .int .i64 (R i), x', y'], H', n⟩) ∧
      Ups len P' R rk ∧ H'.get idN = some (.arr ver 6 (nrows len D P')) ∧ H'.get idS = H.get idS ∧ Same [idN] n H H' := by
  intro d
  induction d using Nat.strongRecOn with
  | ind d ih =>
    intro i P H x y hd hS hN hu hi
    obtain ⟨a1, a2, a3, a4, a5, a6⟩ := hu i hi
    have hri := nrows_at D P hi
    have hrp := nrows_at D P a1
    by_cases hp : P i = i
    · refine ⟨P, H, x, .bool false, codeL_loop_end ?_ (by simp), hu, hN, rfl, .refl _ _ _⟩
      have hri' := hri
      rw [hp] at hri'
      simp (disch := omega) only [go_sem, B_83_0, hS, hN, hri', nrow, a5 hp]
    · have hh := hu.halve hi hp
      obtain ⟨b1, _, _, b4, b5, b6⟩ := hu (P i) a1
      have hlt : rk (P (P i)) < d := by
        have := a6 hp
        by_cases e : P (P i) = P i
        · rw [e]; omega
        · have := b6 e; omega
      have hset : (nrows len D P).set i (nrow (D i) (P (P i))) = nrows len D (upd P i (P (P i))) := nrows_set len D P i _
      have hN' : (H.set idN (.arr ver 6 (nrows len D (upd P i (P (P i)))))).get idN = some (.arr ver 6 (nrows len D (upd P i (P (P i))))) := get_same _ _ _
      have hS' : (H.set idN (.arr ver 6 (nrows len D (upd P i (P (P i)))))).get idS = some (srow pv (.view idN ver 6 0 len none) wv c0 nm up pl) := by rw [get_other _ _ (Ne.symm h0)]; exact hS
      obtain ⟨P', H', x', y', e1, e2, e3, e4, e5⟩ := ih _ hlt (P (P i)) (upd P i (P (P i))) _ x (.bool true) rfl hS' hN' hh b1
      refine ⟨P', H', x', y', ?_, e2, e3, e4.trans (hS'.trans hS.symm), ((Same.refl _ _ _).set _ (.inl (by simp))).trans e5 (Nat.le_refl _)⟩
      rw [show R i = R (P (P i)) by rw [b4, a4], ← e1]
      refine codeL_loop_iff ?_
      have hri2 : (nrows len D (upd P i (P (P i))))[i]? = some (nrow (D i) (P (P i))) := by rw [nrows_at _ _ hi, upd_self]
      simp only [nrow] at hri hrp hset hri2
      simp (disch := omega) only [go_sem, Nat.reduceAdd, Nat.reduceMul, Nat.reduceLeDiff, B_83_0, hS, hN, hri, hrp, hset, get_same, get_other, hri2]
theorem find_run {i : Nat} {P : Nat → Nat} {H : Heap} (h0 : idS ≠ idN) (hl : len < 1000000000) (hS : H.get idS = some (srow pv (.view idN ver 6 0 len none) wv c0 nm up pl)) (hN : H.get idN = some (.arr ver 6 (nrows len D P)))
    (hu : Ups len P R rk) (hi : i < len) :
    ∃ (P' : Nat → Nat) (H' : Heap), Gf 83 [.ptr idS 0 7 0 1, .int .i64 i] H n = some (.int .i64 (R i), H', n) ∧
      Ups len P' R rk ∧ H'.get idN = some (.arr ver 6 (nrows len D P')) ∧ H'.get idS = H.get idS ∧ Same [idN] n H H' := by
  obtain ⟨P', H', x', y', e1, e2, e3, e4, e5⟩ := find_loop (n := n) h0 hl _ i P H (.int .i64 0) (.tup []) rfl hS hN hu hi
  refine ⟨P', H', ?_, e2, e3, e4, e5⟩
  rw [R_83]
  simp (disch := omega) only [go_sem, G_83, e1]
end
section
variable {H : Heap} {n idS idP cnt : Nat} {pv nv nm up pl : PV}
theorem lay_pair {a b : Nat} {wv : PV} {q : List (Nat × Nat × Nat)} (hS : H.get idS = some (srow pv nv wv (.int .i64 cnt) nm up pl)) (hG : VW H 3 idP wv (q.map prow)) (h0 : idS ≠ idP) (h1 : idS < n) (h2 : idP < n)
    (hb : q.length < 999999999) (hc : cnt < 999999999999) :
    ∃ (H' : Heap) (wv' : PV) (q' : List (Nat × Nat × Nat)), Gf 130 [.ptr idS 0 7 0 1, .int .i64 a, .int .i64 b] H n = some (.tup [], H', n + 1) ∧
      H'.get idS = some (srow pv nv wv' (.int .i64 (cnt + 1 : Nat)) nm up pl) ∧ q'.Perm (q ++ [(cnt, a, b)]) ∧ VW H' 3 idP wv' (q'.map prow) ∧ Same [idS, idP] n H H' := by
  obtain ⟨H1, wv1, q1, e1, hS1, hp, hG1, hs1⟩ := heap_push (a := cnt) (b := a) (c := b) hS hG h0 h1 h2 hb
  refine ⟨H1.set idS (srow pv nv wv1 (.int .i64 (cnt + 1 : Nat)) nm up pl), wv1, q1, ?_, get_same _ _ _, hp, hG1.same (get_other _ _ h0), hs1.set _ (.inl (by simp))⟩
  rw [R_130]
  simp (disch := omega) only [go_sem, Nat.reduceAdd, Nat.reduceMul, Nat.reduceLeDiff, G_130, hS, e1, hS1, cast_add1]
theorem lay_first {a b : Nat} (hS : H.get idS = some (srow pv nv .nils (.int .i64 cnt) nm up pl)) (h1 : idS < n) (hc : cnt < 999999999999) :
    ∃ (H' : Heap) (wv' : PV), Gf 130 [.ptr idS 0 7 0 1, .int .i64 a, .int .i64 b] H n = some (.tup [], H', n + 2) ∧
      H'.get idS = some (srow pv nv wv' (.int .i64 (cnt + 1 : Nat)) nm up pl) ∧ VW H' 3 (n + 1) wv' ([(cnt, a, b)].map prow) ∧ Same [idS] n H H' := by
  have h3 : n ≠ idS := by omega
  have h4 : n + 1 ≠ idS := by omega
  have e1 : Gf 307 [.ptr idS 0 7 0 2, .iface 203 (.agg [.int .i64 cnt, .int .i64 a, .int .i64 b])] H n =
      some (.tup [], ((H.set n (.arr 0 3 [prow (cnt, a, b)])).set (n + 1) (.arr 0 3 [prow (cnt, a, b)])).set idS (srow pv nv (.view (n + 1) 0 3 0 1 none) (.int .i64 cnt) nm up pl), n + 2) := by
    rw [R_307]
    simp (disch := omega) only [go_sem, Nat.reduceAdd, Nat.reduceMul, Nat.reduceLeDiff, Nat.reduceBEq, Nat.reduceLT, G_307, hS, get_same, get_other, prow]
  generalize hH1 : ((H.set n (.arr 0 3 [prow (cnt, a, b)])).set (n + 1) (.arr 0 3 [prow (cnt, a, b)])).set idS (srow pv nv (.view (n + 1) 0 3 0 1 none) (.int .i64 cnt) nm up pl) = H1 at e1
  have hS1 : H1.get idS = some (srow pv nv (.view (n + 1) 0 3 0 1 none) (.int .i64 cnt) nm up pl) := by rw [← hH1]; exact get_same _ _ _
  have hP1 : H1.get (n + 1) = some (.arr 0 3 [prow (cnt, a, b)]) := by rw [← hH1, get_other _ _ (by omega), get_same]
  have hs1 : Same [idS] n H H1 := by
    rw [← hH1]
    exact (((Same.refl _ _ _).set _ (.inr (Nat.le_refl n))).set _ (.inr (by omega))).set _ (.inl (by simp))
  have el : Gf 131 [.ptr idS 0 7 0 2] H1 (n + 2) = some (.int .i64 ((1 : Nat) : Int), H1, n + 2) := wait_len hS1
  obtain ⟨S', H2, q2, hu, hp, hG2, hs2⟩ := up_loop (n := n + 2) (idP := n + 1) (wv := .view (n + 1) 0 3 0 1 none) (Ne.symm h4) 0 H1 [(cnt, a, b)] (.tup []) (.tup []) hS1 ⟨0, [], by simp, by rw [hP1]; simp⟩ (by simp) (by simp)
  have eu : Gf 229 [.iface 205 (.ptr idS 0 7 0 2), .int .i64 ((0 : Nat) : Int)] H1 (n + 2) = some (.tup [], H2, n + 2) := by
    rw [R_229]
    simp (disch := omega) only [go_sem, G_229, hu]
  have e2 : Gf 188 [.iface 205 (.ptr idS 0 7 0 2), .iface 203 (.agg [.int .i64 cnt, .int .i64 a, .int .i64 b])] H n = some (.tup [], H2, n + 2) := by
    rw [R_188]
    have e3 : ((1 : Nat) : Int) - 1 = ((0 : Nat) : Int) := by omega
    simp (disch := omega) only [go_sem, G_188, e1, el, e3, eu]
  have hS2 : H2.get idS = some (srow pv nv (.view (n + 1) 0 3 0 1 none) (.int .i64 cnt) nm up pl) := by rw [hs2 _ (by omega) (by simp; omega)]; exact hS1
  refine ⟨H2.set idS (srow pv nv (.view (n + 1) 0 3 0 1 none) (.int .i64 (cnt + 1 : Nat)) nm up pl), _, ?_, get_same _ _ _, ?_, ?_⟩
  · rw [R_130]
    simp (disch := omega) only [go_sem, Nat.reduceAdd, Nat.reduceMul, Nat.reduceLeDiff, G_130, hS, e2, hS2, cast_add1]
  · have : q2 = [(cnt, a, b)] := List.perm_singleton.1 hp
    subst this
    exact hG2.same (get_other _ _ (by omega))
  · exact (hs1.step hs2 (fun x hx => by simp at hx; omega) (by omega)).set _ (.inl (by simp))
end
def eqS (x0 x1 x2 x3 x4 x5 x6 x7 x8 x9 x10 x11 x12 x13 x14 x15 x16 x17 x18 x19 x20 x21 x22 : PV) : List PV := [x0, x1, x2, x3, x4, x5, x6, x7, x8, x9, x10, x11, x12, x13, x14, x15, x16, x17, x18, x19, x20, x21, x22]
def irows (l : List Nat) : List (List PV) := l.map fun (a : Nat) => [PV.int .i64 (a : Int)]
theorem irows_at {l : List Nat} {i : Nat} (h : i < l.length) (rest : List (List PV)) : (irows l ++ rest)[i]? = some [.int .i64 (l[i] : Nat)] := by
  rw [List.getElem?_append_left (by simpa [irows] using h)]; simp [irows, h]
def urows (l : List PV) : List (List PV) := l.map fun a => [a]
theorem urows_at {l : List PV} {i : Nat} (h : i < l.length) (rest : List (List PV)) : (urows l ++ rest)[i]? = some [l[i]] := by
  rw [List.getElem?_append_left (by simpa [urows] using h)]; simp [urows, h]
section
variable {pv nv nm up pl k1 m1 s1 u1 p1 k2 m2 s2 u2 p2 av bv : PV} {idS idP idX idY ida idb m : Nat} {A B : List Nat} {x1 x2 x3 x4 x5 x6 x7 x11 x12 x13 x14 x15 x16 x20 x21 x22 : PV}
theorem args_loop (h0 : idS ≠ idP) (hXS : idX ≠ idS) (hXP : idX ≠ idP) (hYS : idY ≠ idS) (hYP : idY ≠ idP) (haS : ida ≠ idS) (haP : ida ≠ idP) (hbS : idb ≠ idS) (hbP : idb ≠ idP) (hA : A.length = m) (hB : B.length = m) (hm : m < 1000000) :
    ∀ (d t : Nat) (H : Heap) (n cnt : Nat) (wv : PV) (q : List (Nat × Nat × Nat)) (x10 x19 : PV), d = m - t → t ≤ m → H.get idS = some (srow pv nv wv (.int .i64 cnt) nm up pl) → VW H 3 idP wv (q.map prow) →
      H.get idX = some (.arr 0 6 [[k1, m1, s1, av, u1, p1]]) → H.get idY = some (.arr 0 6 [[k2, m2, s2, bv, u2, p2]]) → VW H 1 ida av (irows A) → VW H 1 idb bv (irows B) →
      idS < n → idP < n → idX < n → idY < n → ida < n → idb < n → q.length + d < 999999999 → cnt + d < 999999999999 →
      ∃ (H' : Heap) (n' : Nat) (wv' : PV) (q' : List (Nat × Nat × Nat)) (y10 : PV), codeL Gf (.loop B_72_1) ⟨eqS (.ptr idS 0 7 0 1) x1 x2 x3 x4 x5 x6 x7 (.ptr idX 0 6 0 0) (.ptr idY 0 6 0 0) x10 x11 x12 x13 x14 x15 x16 (.int .i64 m) (.int .i64 t) x19 x20 x21 x22, H, n⟩ =
          some (.exit 3, ⟨eqS (.ptr idS 0 7 0 1) x1 x2 x3 x4 x5 x6 x7 (.ptr idX 0 6 0 0) (.ptr idY 0 6 0 0) y10 x11 x12 x13 x14 x15 x16 (.int .i64 m) (.int .i64 m) (.bool false) x20 x21 x22, H', n'⟩) ∧
        H'.get idS = some (srow pv nv wv' (.int .i64 (cnt + d : Nat)) nm up pl) ∧ (q'.map Prod.snd).Perm (q.map Prod.snd ++ (A.zip B).drop t) ∧ VW H' 3 idP wv' (q'.map prow) ∧ Same [idS, idP] n H H' ∧ n ≤ n' := by
  intro d
  induction d with
  | zero =>
    intro t H n cnt wv q x10 x19 hd ht hS hG hX hY hVA hVB _ _ _ _ _ _ _ _
    have e : t = m := by omega
    subst e
    refine ⟨H, n, wv, q, x10, codeL_loop_end ?_ (by simp), by rw [Nat.add_zero]; exact hS, ?_, hG, .refl _ _ _, Nat.le_refl _⟩
    · simp (disch := omega) only [go_sem, B_72_1, eqS]
    · rw [List.drop_eq_nil_of_le (by simp; omega), List.append_nil]
  | succ d ih =>
    intro t H n cnt wv q x10 x19 hd ht hS hG hX hY hVA hVB l1 l2 l3 l4 l5 l6 hq hc
    obtain ⟨va, ra, rfl, hHA⟩ := id hVA
    obtain ⟨vb, rb, rfl, hHB⟩ := id hVB
    have eA : (irows A).length = m := by simp [irows, hA]
    have eB : (irows B).length = m := by simp [irows, hB]
    have htA : t < A.length := by omega
    have htB : t < B.length := by omega
    have hra := irows_at htA ra
    have hrb := irows_at htB rb
    obtain ⟨H1, wv1, q1, e1, hS1, hp1, hG1, hs1⟩ := lay_pair (a := A[t]) (b := B[t]) hS hG h0 l1 l2 (by omega) (by omega)
    have hX1 : H1.get idX = some (.arr 0 6 [[k1, m1, s1, .view ida va 1 0 (irows A).length none, u1, p1]]) := by rw [hs1 _ l3 (by simp [hXS, hXP])]; exact hX
    have hY1 : H1.get idY = some (.arr 0 6 [[k2, m2, s2, .view idb vb 1 0 (irows B).length none, u2, p2]]) := by rw [hs1 _ l4 (by simp [hYS, hYP])]; exact hY
    have hVA1 := hVA.same (hs1 _ l5 (by simp [haS, haP]))
    have hVB1 := hVB.same (hs1 _ l6 (by simp [hbS, hbP]))
    have hl1 : q1.length = q.length + 1 := by rw [hp1.length_eq]; simp
    obtain ⟨H', n', wv', q', y10, h1, h2, h3, h4, h5, h6⟩ := ih (t + 1) H1 (n + 1) (cnt + 1) wv1 q1 (.int .i64 t) (.bool true) (by omega) (by omega) hS1 hG1 hX1 hY1 hVA1 hVB1 (by omega) (by omega) (by omega) (by omega) (by omega) (by omega) (by omega) (by omega)
    refine ⟨H', n', wv', q', y10, ?_, by rw [show cnt + (d + 1) = cnt + 1 + d by omega]; exact h2, ?_, h4, hs1.trans h5 (by omega), by omega⟩
    · rw [← h1]
      refine codeL_loop_iff ?_
      rw [eA] at hX
      rw [eB] at hY
      simp (disch := omega) only [go_sem, Nat.reduceAdd, Nat.reduceMul, Nat.reduceLeDiff, B_72_1, eqS, hX, hY, hHA, hHB, hra, hrb, e1, cast_add1]
    · refine h3.trans ?_
      have e2 : (A.zip B).drop t = (A[t], B[t]) :: (A.zip B).drop (t + 1) := by
        rw [List.drop_eq_getElem_cons (by simp; omega)]; simp
      rw [e2]
      have := (hp1.map Prod.snd).append_right ((A.zip B).drop (t + 1))
      simpa using this
def lrow (p : PV × PV) : List PV := [p.1, p.2]
def LV (H : Heap) (n0 n idL : Nat) (v : PV) (L : List (PV × PV)) : Prop := (v = .nils ∧ L = []) ∨ (n0 ≤ idL ∧ idL < n ∧ VW H 2 idL v (L.map lrow))
theorem LV.same {H H' : Heap} {n0 n n' idL : Nat} {v : PV} {L : List (PV × PV)} (h : LV H n0 n idL v L) (e : idL < n → H'.get idL = H.get idL) (hn : n ≤ n') : LV H' n0 n' idL v L := by
  rcases h with h | ⟨h1, h2, h3⟩
  · exact .inl h
  · exact .inr ⟨h1, by omega, h3.same (e h2)⟩
theorem flat_cells {p : PV} (h : flat p = true) : p.cells? = some [p] := by
  cases p <;> first | rfl | (simp [flat] at h)
theorem units_loop {x0 x10 x17 x18 x19 : PV} {n0 : Nat} {a1 a2 : PV} {A B : List PV} (hA : A.length = m) (hB : B.length = m) (hm : m < 1000000) (hfA : ∀ u ∈ A, flat u = true) (hfB : ∀ u ∈ B, flat u = true) :
    ∀ (d t : Nat) (H : Heap) (n idL : Nat) (x3 : PV) (L : List (PV × PV)) (x11 x22 : PV), d = m - t → t ≤ m → LV H n0 n idL x3 L →
      H.get idX = some (.arr 0 6 [[k1, m1, s1, a1, av, p1]]) → H.get idY = some (.arr 0 6 [[k2, m2, s2, a2, bv, p2]]) → VW H 1 ida av (urows A) → VW H 1 idb bv (urows B) →
      idX < n → idY < n → ida < n → idb < n → n0 ≤ n → idX ≠ idL → idY ≠ idL → ida ≠ idL → idb ≠ idL → L.length + d < 1000000000 →
      ∃ (H' : Heap) (n' idL' : Nat) (y3 y11 : PV), codeL Gf (.loop B_72_0) ⟨eqS x0 x1 x2 x3 x4 x5 x6 x7 (.ptr idX 0 6 0 0) (.ptr idY 0 6 0 0) x10 x11 x12 x13 x14 x15 x16 x17 x18 x19 (.int .i64 m) (.int .i64 t) x22, H, n⟩ =
          some (.exit 5, ⟨eqS x0 x1 x2 y3 x4 x5 x6 x7 (.ptr idX 0 6 0 0) (.ptr idY 0 6 0 0) x10 y11 x12 x13 x14 x15 x16 x17 x18 x19 (.int .i64 m) (.int .i64 m) (.bool false), H', n'⟩) ∧
        LV H' n0 n' idL' y3 (L ++ (A.zip B).drop t) ∧ (idL' = idL ∨ n ≤ idL') ∧ Same [idL] n H H' ∧ n ≤ n' := by
  intro d
  induction d with
  | zero =>
    intro t H n idL x3 L x11 x22 hd ht hL hX hY hVA hVB _ _ _ _ _ _ _ _ _ _
    have e : t = m := by omega
    subst e
    refine ⟨H, n, idL, x3, x11, codeL_loop_end ?_ (by simp), ?_, .inl rfl, .refl _ _ _, Nat.le_refl _⟩
    · simp (disch := omega) only [go_sem, B_72_0, eqS]
    · rw [List.drop_eq_nil_of_le (by simp; omega), List.append_nil]; exact hL
  | succ d ih =>
    intro t H n idL x3 L x11 x22 hd ht hL hX hY hVA hVB l3 l4 l5 l6 l7 n1 n2 n3 n4 hl
    obtain ⟨va, ra, rfl, hHA⟩ := id hVA
    obtain ⟨vb, rb, rfl, hHB⟩ := id hVB
    have eA : (urows A).length = m := by simp [urows, hA]
    have eB : (urows B).length = m := by simp [urows, hB]
    have htA : t < A.length := by omega
    have htB : t < B.length := by omega
    have hra := urows_at htA ra
    have hrb := urows_at htB rb
    have fa : flat A[t] = true := hfA _ (List.getElem_mem _)
    have fb : flat B[t] = true := hfB _ (List.getElem_mem _)
    have ca : A[t].cells? = some [A[t]] := flat_cells fa
    have cb : B[t].cells? = some [B[t]] := flat_cells fb
    have e2 : (A.zip B).drop t = (A[t], B[t]) :: (A.zip B).drop (t + 1) := by
      rw [List.drop_eq_getElem_cons (by simp; omega)]; simp
    -- one round
    have key : ∃ (H1 : Heap) (n1 idL1 : Nat) (y3 : PV), codeL Gf B_72_0 ⟨eqS x0 x1 x2 x3 x4 x5 x6 x7 (.ptr idX 0 6 0 0) (.ptr idY 0 6 0 0) x10 x11 x12 x13 x14 x15 x16 x17 x18 x19 (.int .i64 m) (.int .i64 t) x22, H, n⟩ =
          some (.normal, ⟨eqS x0 x1 x2 y3 x4 x5 x6 x7 (.ptr idX 0 6 0 0) (.ptr idY 0 6 0 0) x10 (.int .i64 t) x12 x13 x14 x15 x16 x17 x18 x19 (.int .i64 m) (.int .i64 (t + 1 : Nat)) (.bool true), H1, n1⟩) ∧
        LV H1 n0 n1 idL1 y3 (L ++ [(A[t], B[t])]) ∧ (idL1 = idL ∨ n ≤ idL1) ∧ Same [idL] n H H1 ∧ n ≤ n1 := by
      rw [eA] at hX
      rw [eB] at hY
      rcases hL with ⟨rfl, rfl⟩ | ⟨h1, h2, ver, rest, rfl, hHL⟩
      · refine ⟨H.set n (.arr 0 2 [[A[t], B[t]]]), n + 1, n, .view n 0 2 0 1 none, ?_, .inr ⟨l7, by omega, 0, [], by simp, ?_⟩, .inr (Nat.le_refl n), (Same.refl _ _ _).set _ (.inr (Nat.le_refl n)), by omega⟩
        · simp (disch := omega) only [go_sem, Nat.reduceAdd, Nat.reduceMul, Nat.reduceLeDiff, Nat.reduceBEq, Nat.reduceLT, B_72_0, eqS, hX, hY, hHA, hHB, hra, hrb, cast_add1, fa, fb, ca, cb]
        · rw [get_same]; simp [lrow]
      · have eL : (L.map lrow).length = L.length := by simp
        cases rest with
        | nil =>
          rw [List.append_nil] at hHL
          refine ⟨H.set idL (.arr (ver + 1) 2 (L.map lrow ++ [[A[t], B[t]]])), n, idL, .view idL (ver + 1) 2 0 ((L.map lrow).length + 1) none, ?_, .inr ⟨h1, h2, ver + 1, [], by simp, ?_⟩, .inl rfl, (Same.refl _ _ _).set _ (.inl (by simp)), by omega⟩
          · simp (disch := omega) only [go_sem, Nat.reduceAdd, Nat.reduceMul, Nat.reduceLeDiff, Nat.reduceBEq, Nat.reduceLT, B_72_0, eqS, hX, hY, hHA, hHB, hHL, hra, hrb, cast_add1, fa, fb, ca, cb]
          · rw [get_same]; simp [lrow]
        | cons r rest =>
          refine ⟨H.set idL (.arr ver 2 (L.map lrow ++ [A[t], B[t]] :: rest)), n, idL, .view idL ver 2 0 ((L.map lrow).length + 1) none, ?_, .inr ⟨h1, h2, ver, rest, by simp, ?_⟩, .inl rfl, (Same.refl _ _ _).set _ (.inl (by simp)), by omega⟩
          · simp (disch := omega) only [go_sem, Nat.reduceAdd, Nat.reduceMul, Nat.reduceLeDiff, Nat.reduceBEq, Nat.reduceLT, B_72_0, eqS, hX, hY, hHA, hHB, hHL, hra, hrb, cast_add1, fa, fb, ca, cb]
          · rw [get_same]; simp [lrow]
    obtain ⟨H1, n1', idL1, y3, k1', k2', k3', k4', k5'⟩ := key
    have hX1 := (k4' _ l3 (by simp [n1])).trans hX
    have hY1 := (k4' _ l4 (by simp [n2])).trans hY
    have hVA1 := hVA.same (k4' _ l5 (by simp [n3]))
    have hVB1 := hVB.same (k4' _ l6 (by simp [n4]))
    obtain ⟨H', n', idL', z3, y11, h1, h2, h3, h4, h5⟩ := ih (t + 1) H1 n1' idL1 y3 (L ++ [(A[t], B[t])]) (.int .i64 t) (.bool true) (by omega) (by omega) k2' hX1 hY1 hVA1 hVB1 (by omega) (by omega) (by omega) (by omega) (by omega) (by omega) (by omega) (by omega) (by omega) (by simp; omega)
    refine ⟨H', n', idL', z3, y11, by rw [← h1]; exact codeL_loop_iff k1', ?_, by omega, k4'.step h4 (fun x hx => by simp at hx; subst hx; rcases k3' with e | e <;> simp [e]) k5', by omega⟩
    rw [e2]
    simpa using h2
end
section
variable {len : Nat} {D : Nat → Nd} {A : Nat → List Nat} {U : Nat → List PV}
def Head (D : Nat → Nd) (A : Nat → List Nat) (U : Nat → List PV) (i j : Nat) : Prop :=
  (D i).kind = (D j).kind ∧ (D i).num = (D j).num ∧ (D i).name.toList = (D j).name.toList ∧ (A i).length = (A j).length ∧ (U i).length = (U j).length
theorem Head.symm {i j : Nat} (h : Head D A U i j) : Head D A U j i := ⟨h.1.symm, h.2.1.symm, h.2.2.1.symm, h.2.2.2.1.symm, h.2.2.2.2.symm⟩
theorem Head.trans {i j k : Nat} (h : Head D A U i j) (g : Head D A U j k) : Head D A U i k :=
  ⟨h.1.trans g.1, h.2.1.trans g.2.1, h.2.2.1.trans g.2.2.1, h.2.2.2.1.trans g.2.2.2.1, h.2.2.2.2.trans g.2.2.2.2⟩
structure Cong (len : Nat) (D : Nat → Nd) (A : Nat → List Nat) (U : Nat → List PV) (E : Nat → Nat → Prop) : Prop where
  eqv : Equivalence E
  cmp : ∀ i j, i < len → j < len → E i j → (D i).kind ≠ 1 → (D j).kind ≠ 1 → Head D A U i j ∧ ∀ p ∈ (A i).zip (A j), E p.1 p.2
structure EInv (len : Nat) (D : Nat → Nd) (A : Nat → List Nat) (U : Nat → List PV) (R0 : Nat → Nat) (a b : Nat) (R : Nat → Nat) (Q : List (Nat × Nat)) (L : List (PV × PV)) : Prop where
  clo : ∀ E : Nat → Nat → Prop, Equivalence E → (∀ i, i < len → E i (R i)) → (∀ p ∈ Q, E p.1 p.2) → ∀ i j, i < len → j < len → R i = R j → (D i).kind ≠ 1 → (D j).kind ≠ 1 →
    Head D A U i j ∧ ∀ p ∈ (A i).zip (A j), E p.1 p.2
  var : ∀ i, i < len → (D (R i)).kind = 1 → (D i).kind = 1
  min : ∀ E, Cong len D A U E → (∀ i, i < len → E i (R0 i)) → E a b → (∀ i, i < len → E i (R i)) ∧ (∀ p ∈ Q, E p.1 p.2) ∧
    ∀ p ∈ L, ∃ (i j t : Nat), i < len ∧ j < len ∧ E i j ∧ (D i).kind ≠ 1 ∧ (D j).kind ≠ 1 ∧ (U i)[t]? = some p.1 ∧ (U j)[t]? = some p.2
  ref : ∀ i j, i < len → j < len → R0 i = R0 j → R i = R j
  ab : ∀ E : Nat → Nat → Prop, Equivalence E → (∀ i, i < len → E i (R i)) → (∀ p ∈ Q, E p.1 p.2) → E a b
  lu : ∀ p ∈ L, ∃ i j, i < len ∧ j < len ∧ p.1 ∈ U i ∧ p.2 ∈ U j
variable {R0 R : Nat → Nat} {a b p q : Nat} {Q : List (Nat × Nat)} {L : List (PV × PV)}
theorem EInv.perm (h : EInv len D A U R0 a b R Q L) {Q' : List (Nat × Nat)} (e : ∀ x, x ∈ Q' ↔ x ∈ Q) : EInv len D A U R0 a b R Q' L where
  clo E h1 h2 h3 := h.clo E h1 h2 (fun x hx => h3 x ((e x).2 hx))
  var := h.var
  min E h1 h2 h3 := ⟨(h.min E h1 h2 h3).1, fun x hx => (h.min E h1 h2 h3).2.1 x ((e x).1 hx), (h.min E h1 h2 h3).2.2⟩
  ref := h.ref
  ab E h1 h2 h3 := h.ab E h1 h2 (fun x hx => h3 x ((e x).2 hx))
  lu := h.lu
theorem EInv.same (h : EInv len D A U R0 a b R ((p, q) :: Q) L) (hp : p < len) (hq : q < len) (e : R p = R q) : EInv len D A U R0 a b R Q L := by
  have key : ∀ E : Nat → Nat → Prop, Equivalence E → (∀ i, i < len → E i (R i)) → (∀ x ∈ Q, E x.1 x.2) → ∀ x ∈ (p, q) :: Q, E x.1 x.2 := by
    intro E h1 h2 h3 x hx
    rcases List.mem_cons.1 hx with rfl | hx
    · have := h2 p hp
      rw [e] at this
      exact h1.trans this (h1.symm (h2 q hq))
    · exact h3 x hx
  exact { clo := fun E h1 h2 h3 => h.clo E h1 h2 (key E h1 h2 h3), var := h.var, min := fun E h1 h2 h3 => ⟨(h.min E h1 h2 h3).1, fun x hx => (h.min E h1 h2 h3).2.1 x (List.mem_cons_of_mem _ hx), (h.min E h1 h2 h3).2.2⟩, ref := h.ref, ab := fun E h1 h2 h3 => h.ab E h1 h2 (key E h1 h2 h3), lu := h.lu }
def joinR (R : Nat → Nat) (i k : Nat) : Nat → Nat := fun j => if R j = i then k else R j
theorem joinR_back {E : Nat → Nat → Prop} {i k : Nat} (hE : Equivalence E) (hi : i < len) (Ri : R i = i) (h : ∀ j, j < len → E j (joinR R i k j)) : ∀ j, j < len → E j (R j) := by
  intro j hj
  have h1 := h j hj
  by_cases e : R j = i
  · have h2 := h i hi
    simp only [joinR, e, Ri, if_true] at h1 h2
    rw [e]; exact hE.trans h1 (hE.symm h2)
  · simpa [joinR, e] using h1
theorem EInv.join (h : EInv len D A U R0 a b R ((p, q) :: Q) L) (hp : p < len) (hq : q < len) {i k : Nat} (hi : i < len) (hk : k < len) (Ri : R i = i) (Rk : R k = k) (hne : i ≠ k) (rr : ∀ j, j < len → R j < len)
    (hpq : (R p = i ∧ R q = k) ∨ (R p = k ∧ R q = i)) {Q' : List (Nat × Nat)} {L' : List (PV × PV)}
    (hQ' : (∀ j, j < len → R j = i → (D j).kind = 1) ∧ Q' = Q ∧ L' = L ∨
      ((D i).kind ≠ 1 ∧ (D k).kind ≠ 1 ∧ Head D A U i k ∧ (∀ x, x ∈ Q' ↔ x ∈ (A i).zip (A k) ∨ x ∈ Q) ∧ L' = L ++ (U i).zip (U k))) :
    EInv len D A U R0 a b (joinR R i k) Q' L' := by
  have sub : ∀ x ∈ Q, x ∈ Q' := by
    intro x hx
    rcases hQ' with ⟨_, rfl, _⟩ | ⟨_, _, _, e, _⟩
    · exact hx
    · exact (e x).2 (.inr hx)
  have key : ∀ E : Nat → Nat → Prop, Equivalence E → (∀ j, j < len → E j (joinR R i k j)) → (∀ x ∈ Q', E x.1 x.2) → ∀ x ∈ (p, q) :: Q, E x.1 x.2 := by
    intro E h1 h2 h3 x hx
    have hik : E i k := by have := h2 i hi; simpa [joinR, Ri] using this
    have hb := joinR_back (R := R) h1 hi Ri h2
    rcases List.mem_cons.1 hx with rfl | hx
    · have e1 := hb p hp
      have e2 := hb q hq
      rcases hpq with ⟨g1, g2⟩ | ⟨g1, g2⟩
      · rw [g1] at e1; rw [g2] at e2; exact h1.trans e1 (h1.trans hik (h1.symm e2))
      · rw [g1] at e1; rw [g2] at e2; exact h1.trans e1 (h1.trans (h1.symm hik) (h1.symm e2))
    · exact h3 x (sub x hx)
  refine { clo := ?_, var := ?_, min := ?_, ref := ?_, ab := ?_, lu := ?_ }
  · intro E h1 h2 h3 x y hx hy hxy kx ky
    have hb := joinR_back (R := R) h1 hi Ri h2
    have hc := h.clo E h1 hb (key E h1 h2 h3)
    by_cases ex : R x = i <;> by_cases ey : R y = i
    · exact hc x y hx hy (ex.trans ey.symm) kx ky
    · -- x with i, y with k
      have ey' : R y = k := by simpa [joinR, ex, ey] using hxy.symm
      rcases hQ' with ⟨hv, _, _⟩ | ⟨ki, kk, hh, hm, _⟩
      · exact absurd (hv x hx ex) kx
      · have c1 := hc x i hx hi (ex.trans Ri.symm) kx ki
        have c2 := hc k y hk hy (Rk.trans ey'.symm) kk ky
        refine ⟨c1.1.trans (hh.trans c2.1), fun z hz => ?_⟩
        obtain ⟨t, ht, rfl⟩ := List.getElem_of_mem hz
        simp only [List.length_zip] at ht
        have l1 := c1.1.2.2.2.1
        have l2 := hh.2.2.2.1
        have l3 := c2.1.2.2.2.1
        have z1 := c1.2 ((A x)[t]'(by omega), (A i)[t]'(by omega)) (by rw [← List.getElem_zip (h := by simp; omega)]; exact List.getElem_mem _)
        have z2 := h3 ((A i)[t]'(by omega), (A k)[t]'(by omega)) ((hm _).2 (.inl (by rw [← List.getElem_zip (h := by simp; omega)]; exact List.getElem_mem _)))
        have z3 := c2.2 ((A k)[t]'(by omega), (A y)[t]'(by omega)) (by rw [← List.getElem_zip (h := by simp; omega)]; exact List.getElem_mem _)
        simpa using h1.trans z1 (h1.trans z2 z3)
    · have ex' : R x = k := by simpa [joinR, ex, ey] using hxy
      rcases hQ' with ⟨hv, _, _⟩ | ⟨ki, kk, hh, hm, _⟩
      · exact absurd (hv y hy ey) ky
      · have c1 := hc i y hi hy (Ri.trans ey.symm) ki ky
        have c2 := hc x k hx hk (ex'.trans Rk.symm) kx kk
        refine ⟨c2.1.trans (hh.symm.trans c1.1), fun z hz => ?_⟩
        obtain ⟨t, ht, rfl⟩ := List.getElem_of_mem hz
        simp only [List.length_zip] at ht
        have l1 := c1.1.2.2.2.1
        have l2 := hh.2.2.2.1
        have l3 := c2.1.2.2.2.1
        have z1 := c1.2 ((A i)[t]'(by omega), (A y)[t]'(by omega)) (by rw [← List.getElem_zip (h := by simp; omega)]; exact List.getElem_mem _)
        have z2 := h3 ((A i)[t]'(by omega), (A k)[t]'(by omega)) ((hm _).2 (.inl (by rw [← List.getElem_zip (h := by simp; omega)]; exact List.getElem_mem _)))
        have z3 := c2.2 ((A x)[t]'(by omega), (A k)[t]'(by omega)) (by rw [← List.getElem_zip (h := by simp; omega)]; exact List.getElem_mem _)
        simpa using h1.trans z3 (h1.trans (h1.symm z2) z1)
    · exact hc x y hx hy (by simpa [joinR, ex, ey] using hxy) kx ky
  · intro x hx hv
    by_cases ex : R x = i
    · rcases hQ' with ⟨hv', _, _⟩ | ⟨ki, kk, hh, hm, _⟩
      · exact hv' x hx ex
      · simp only [joinR, ex, if_true] at hv; exact absurd hv kk
    · simp only [joinR, ex, if_false] at hv
      exact h.var x hx hv
  · intro E hc h0 hab
    obtain ⟨m1, m2, m3⟩ := h.min E hc h0 hab
    have hE := hc.eqv
    have hpq' := m2 (p, q) (by simp)
    have hik : E i k := by
      have e1 := m1 p hp
      have e2 := m1 q hq
      rcases hpq with ⟨g1, g2⟩ | ⟨g1, g2⟩
      · rw [g1] at e1; rw [g2] at e2; exact hE.trans (hE.symm e1) (hE.trans hpq' e2)
      · rw [g1] at e1; rw [g2] at e2; exact hE.trans (hE.symm e2) (hE.trans (hE.symm hpq') e1)
    refine ⟨fun x hx => ?_, ?_, ?_⟩
    · by_cases ex : R x = i
      · simp only [joinR, ex, if_true]
        have := m1 x hx
        rw [ex] at this
        exact hE.trans this hik
      · simp only [joinR, ex, if_false]; exact m1 x hx
    · intro x hx
      rcases hQ' with ⟨_, rfl, _⟩ | ⟨ki, kk, hh, hm, _⟩
      · exact m2 x (List.mem_cons_of_mem _ hx)
      · rcases (hm x).1 hx with h1 | h1
        · exact (hc.cmp i k hi hk hik ki kk).2 x h1
        · exact m2 x (List.mem_cons_of_mem _ h1)
    · intro x hx
      rcases hQ' with ⟨_, _, rfl⟩ | ⟨ki, kk, hh, hm, rfl⟩
      · exact m3 x hx
      · rcases List.mem_append.1 hx with h1 | h1
        · exact m3 x h1
        · obtain ⟨t, ht, rfl⟩ := List.getElem_of_mem h1
          simp only [List.length_zip] at ht
          exact ⟨i, k, t, hi, hk, hik, ki, kk, by simp, by simp⟩
  · intro x y hx hy e
    have := h.ref x y hx hy e
    simp [joinR, this]
  · intro E h1 h2 h3
    exact h.ab E h1 (joinR_back h1 hi Ri h2) (key E h1 h2 h3)
  · intro x hx
    rcases hQ' with ⟨_, _, rfl⟩ | ⟨ki, kk, hh, hm, rfl⟩
    · exact h.lu x hx
    · rcases List.mem_append.1 hx with h1 | h1
      · exact h.lu x h1
      · obtain ⟨m1, m2⟩ := List.of_mem_zip (show (x.1, x.2) ∈ _ from h1)
        exact ⟨i, k, hi, hk, m1, m2⟩
theorem EInv.clash (h : EInv len D A U R0 a b R ((p, q) :: Q) L) (hp : p < len) (hq : q < len) (rr : ∀ j, j < len → R j < len) (k1 : (D (R p)).kind ≠ 1) (k2 : (D (R q)).kind ≠ 1) (hn : ¬ Head D A U (R p) (R q)) :
    ¬ ∃ E, Cong len D A U E ∧ (∀ i, i < len → E i (R0 i)) ∧ E a b := by
  rintro ⟨E, hc, h0, hab⟩
  obtain ⟨m1, m2, _⟩ := h.min E hc h0 hab
  have e := hc.eqv.trans (hc.eqv.symm (m1 p hp)) (hc.eqv.trans (m2 (p, q) (by simp)) (m1 q hq))
  exact hn (hc.cmp _ _ (rr p hp) (rr q hq) e k1 k2).1
def roots (len : Nat) (R : Nat → Nat) : Nat := (List.range len).countP fun i => R i == i
theorem roots_join {i k : Nat} (hi : i < len) (Ri : R i = i) (hne : i ≠ k) (hk : R k = k) : roots len (joinR R i k) < roots len R := by
  unfold roots
  have : ∀ l : List Nat, l.countP (fun j => joinR R i k j == j) + (if i ∈ l then 1 else 0) ≤ l.countP (fun j => R j == j) := by
    intro l
    induction l with
    | nil => simp
    | cons x l ih =>
      simp only [List.countP_cons]
      by_cases e : x = i
      · subst e
        have e1 : (joinR R x k x == x) = false := by simp [joinR, Ri]; omega
        simp only [e1, Ri, beq_self_eq_true, if_true, List.mem_cons, true_or]
        split at ih <;> simp <;> omega
      · have e2 : (joinR R i k x == x) = true → (R x == x) = true := by
          simp only [joinR, beq_iff_eq]
          split
          · rename_i h1; intro h2; subst h2; rw [hk] at h1; omega
          · exact id
        have hm : (i ∈ x :: l) ↔ i ∈ l := by simp [Ne.symm e]
        simp only [hm]
        by_cases e3 : (joinR R i k x == x) = true
        · simp only [e3, e2 e3, if_true]; omega
        · simp only [e3]
          simp
          omega
  have h2 := this (List.range len)
  simp only [List.mem_range, hi, if_true] at h2
  omega
theorem roots_le : roots len R ≤ len := by
  unfold roots
  have := List.countP_le_length (p := fun i => R i == i) (l := List.range len)
  simpa using this
end
theorem ordIf_ok {cf : CallF} {ops : List IOper} {ms : List Nat} {s : St} {T S' : List PV} {H : Heap} {n : Nat} {L : List Fp} (h : orderly cf s.S ops s.H s.n T ms L = true) (b : Bool) : ordIf cf ops ms s T L S' H n b = some ⟨S', H, n⟩ := by
  cases b
  · simp only [ordIf, h, if_true]
  · rfl
def ICode.a : ICode → ICode
  | .seq x _ => x
  | .block _ x => x
  | .cond _ x _ => x
  | .loop x => x
  | _ => .bad
def ICode.b : ICode → ICode
  | .seq _ y => y
  | .cond _ _ y => y
  | _ => .bad
section
variable {cf : CallF} {S T : List PV} {ops : List IOper} {ms : List Nat} {H : Heap} {n : Nat} {L : List Fp}
theorem orderly_mix (hl : L.length ≤ ms.length) (W : Nat) (hW : wbits L 1 = W) (ps : List (Nat × Nat)) (hps : pairsLeft W ms 0 = ps)
    (hp : ∀ x ∈ ps, (L.getD x.1 .no).apart (L.getD x.2 .no) = true ∨ freeRead cf S ops H n T L ms x.1 = true ∨ freeRead cf S ops H n T L ms x.2 = true) : orderly cf S ops H n T ms L = true := by
  unfold orderly
  simp only [List.all_eq_true, List.mem_range, Bool.or_eq_true]
  intro j hj i hi
  have h1 := pairsLeft_spec (wbits L 1) (ms := ms) (k := 0) j (by omega)
  rw [Nat.zero_add] at h1
  rcases pairsRow_spec (ms.getD j 0) (wbits L 1) j i hi with h2 | ⟨h2, h3⟩ | h2
  · exact .inl (.inl (.inl h2))
  · rw [wbits_at] at h2 h3
    refine .inl (.inl (.inr (ro_apart ?_ ?_)))
    · simpa [show i < L.length by omega] using h2
    · simpa [hj] using h3
  · have := h1 _ h2
    rw [hW, hps] at this
    rcases hp _ this with h4 | h4 | h4
    · exact .inl (.inl (.inr h4))
    · exact .inl (.inr h4)
    · exact .inr h4
def freeAt (cf : CallF) (S T : List PV) (ops : List IOper) (H : Heap) (n r a m : Nat) : Bool :=
  match evalOps cf S (ops.take m) [] H n [] with
  | some (_, H1, n1, _) =>
    match evalOp cf (ops.getD r default).op (Src.ev S (T.take r)) H1 n1 with
    | some ⟨v, _, _, ⟨[b], [], false⟩⟩ => PV.sameF deep v (T.getD r .any) && decide (a = b)
    | _ => false
  | none => false
theorem free_of {r a : Nat} (js : List Nat) (W : Nat) (hW : wbits L 1 = W) (hlen : ops.length ≤ L.length)
    (hq : (List.range ops.length).all (fun j => js.contains j || !W.testBit j || (ms.getD j 0).testBit r || j == r) = true) (hL : L.getD r .no = ⟨[a], [], false⟩)
    (hg0 : freeAt cf S T ops H n r a 0 = true) (hg : ∀ j ∈ js, freeAt cf S T ops H n r a (j + 1) = true) :
    freeRead cf S ops H n T L ms r = true := by
  unfold freeRead
  simp only [hL]
  simp only [List.all_eq_true, List.mem_range, Bool.or_eq_true] at hq ⊢
  intro m hm
  cases m with
  | zero => exact .inr hg0
  | succ j =>
    rcases hq j (by omega) with ((h1 | h1) | h1) | h1
    · exact .inr (hg j (by simpa using h1))
    · have h2 : roFp (L.getD j .no) = true := by
        rw [← hW, wbits_at] at h1
        simpa [show j < L.length by omega] using h1
      simp only [roFp, Bool.and_eq_true, List.isEmpty_iff, Bool.not_eq_true'] at h2
      refine .inl ?_
      simp only [h2.1, h2.2]; rfl
    · refine .inl ?_
      simp only [h1, Bool.or_true, Bool.true_or]
    · refine .inl ?_
      simp only [h1, Bool.or_true]
end
attribute [go_sem] List.take_zero List.take_succ_cons
theorem same_int (k : IntKind) (x : Int) : PV.sameF deep (.int k x) (.int k x) = true := by
  unfold deep PV.sameF
  simp [PV.same]
theorem same_view (id ver k off len : Nat) (cap : Option Nat) : PV.sameF deep (.view id ver k off len cap) (.view id ver k off len cap) = true := by
  unfold deep PV.sameF
  simp [PV.same]
theorem same_ptr (id ver k i off : Nat) : PV.sameF deep (.ptr id ver k i off) (.ptr id ver k i off) = true := by
  unfold deep PV.sameF
  simp [PV.same]
theorem same_map (id : Nat) : PV.sameF deep (.map id) (.map id) = true := by
  unfold deep PV.sameF
  simp [PV.same]
attribute [go_sem] same_int same_view same_ptr same_map
section
variable {H H1 H2 H3 : Heap} {n idS idN idP ver len cnt : Nat} {pv wv nm up pl : PV} {P : Nat → Nat} {D : Nat → Nd}
variable {x1 x2 x3 x4 x5 x6 x7 x8 x9 x10 x11 x12 x13 x14 x15 x16 x17 x18 x19 x20 x21 x22 : PV}
def eqT : ICode := B_72_2.b.a.b.b
theorem eqT_eq : B_72_2 = .seq B_72_2.a (.block 1 (.seq B_72_2.b.a.a (.seq B_72_2.b.a.b.a eqT))) := rfl
theorem eq_take {p q r m c k : Nat} (el : Gf 131 [.ptr idS 0 7 0 2] H n = some (.int .i64 (m + 1 : Nat), H, n)) (ep : Gf 56 [.iface 205 (.ptr idS 0 7 0 2)] H n = some (.iface 203 (.agg (prow (c, p, q))), H1, n + 1))
    (e1 : Gf 83 [.ptr idS 0 7 0 1, .int .i64 p] (H1.set (n + 1) (.arr 0 3 [prow (c, p, q)])) (n + 2) = some (.int .i64 r, H2, n + 2)) (hp2 : H2.get (n + 1) = some (.arr 0 3 [prow (c, p, q)]))
    (e2 : Gf 83 [.ptr idS 0 7 0 1, .int .i64 q] H2 (n + 2) = some (.int .i64 k, H3, n + 2)) :
    codeL Gf B_72_2 ⟨eqS (.ptr idS 0 7 0 1) x1 x2 x3 x4 x5 x6 x7 x8 x9 x10 x11 x12 x13 x14 x15 x16 x17 x18 x19 x20 x21 x22, H, n⟩ =
      contB 1 (codeL Gf eqT ⟨eqS (.ptr idS 0 7 0 1) x1 x2 x3 x4 (.ptr (n + 1) 0 3 0 0) (.int .i64 r) (.int .i64 k) x8 x9 x10 x11 (.bool true) x13 x14 x15 x16 x17 x18 x19 x20 x21 x22, H3, n + 2⟩) := by
  simp only [prow] at ep e1 hp2
  rw [eqT_eq]
  simp (disch := omega) only [go_sem, Nat.reduceAdd, Nat.reduceMul, Nat.reduceLeDiff, B_72_2, ICode.a, ICode.b, eqS, el, ep, e1, e2, hp2, get_same]
  rw [ordIf_ok]
  · simp (disch := omega) only [go_sem]
  · refine orderly_mix (by simp [M_72_0]) 136 rfl _ K_72_0 ?_
    intro x hx
    simp only [List.mem_cons, List.not_mem_nil, or_false] at hx
    rcases hx with rfl | rfl | rfl
    · exact .inl rfl
    · exact .inl rfl
    · refine .inr (.inr (free_of [3] 136 rfl (by simp) rfl rfl ?_ ?_))
      · simp (disch := omega) only [go_sem, freeAt, get_same]
      · intro j hj
        simp only [List.mem_cons, List.not_mem_nil, or_false] at hj
        subst hj
        simp (disch := omega) only [go_sem, Nat.reduceAdd, freeAt, get_same, e1, hp2]
theorem eq_empty (el : Gf 131 [.ptr idS 0 7 0 2] H n = some (.int .i64 ((0 : Nat) : Int), H, n)) :
    codeL Gf B_72_2 ⟨eqS (.ptr idS 0 7 0 1) x1 x2 x3 x4 x5 x6 x7 x8 x9 x10 x11 x12 x13 x14 x15 x16 x17 x18 x19 x20 x21 x22, H, n⟩ =
      some (.exit 0, ⟨eqS (.ptr idS 0 7 0 1) x1 x2 x3 x4 x5 x6 x7 x8 x9 x10 x11 (.bool false) x13 x14 x15 x16 x17 x18 x19 x20 x21 x22, H, n⟩) := by
  simp (disch := omega) only [go_sem, Nat.reduceAdd, B_72_2, eqS, el]
theorem eq_same {r k : Nat} (hrk : r = k) :
    codeL Gf eqT ⟨eqS (.ptr idS 0 7 0 1) x1 x2 x3 x4 x5 (.int .i64 r) (.int .i64 k) x8 x9 x10 x11 x12 x13 x14 x15 x16 x17 x18 x19 x20 x21 x22, H, n⟩ =
      some (.exit 1, ⟨eqS (.ptr idS 0 7 0 1) x1 x2 x3 x4 x5 (.int .i64 r) (.int .i64 k) x8 x9 x10 x11 x12 (.bool true) x14 x15 x16 x17 x18 x19 x20 x21 x22, H, n⟩) := by
  simp (disch := omega) only [go_sem, B_72_2, eqT, ICode.a, ICode.b, eqS]
def zrow : Obj := .arr 0 6 [[.int .i64 0, .int .i64 0, .str ⟨#[]⟩, .nils, .nils, .int .i64 0]]
theorem eq_var1 {r k pr pk : Nat} {a2 a3 a4 a5 b1 b2 b3 b4 b5 : PV} {rows : List (List PV)} (hne : r ≠ k) (hS : H.get idS = some (srow pv (.view idN ver 6 0 len none) wv (.int .i64 cnt) nm up pl)) (hN : H.get idN = some (.arr ver 6 rows)) (l1 : idS < n) (l2 : idN < n)
    (h0 : idS ≠ idN) (lr : r < len) (lk : k < len) (hr : rows[r]? = some [.int .i64 1, a2, a3, a4, a5, .int .i64 pr]) (hk : rows[k]? = some [b1, b2, b3, b4, b5, .int .i64 pk]) :
    codeL Gf eqT ⟨eqS (.ptr idS 0 7 0 1) x1 x2 x3 x4 x5 (.int .i64 r) (.int .i64 k) x8 x9 x10 x11 x12 x13 x14 x15 x16 x17 x18 x19 x20 x21 x22, H, n⟩ =
      some (.exit 1, ⟨eqS (.ptr idS 0 7 0 1) x1 x2 x3 x4 x5 (.int .i64 r) (.int .i64 k) (.ptr n 0 6 0 0) (.ptr (n + 1) 0 6 0 0) x10 x11 x12 (.bool false) (.bool true) x15 x16 x17 x18 x19 x20 x21 x22,
        ((((H.set n zrow).set (n + 1) zrow).set n (.arr 0 6 [[.int .i64 1, a2, a3, a4, a5, .int .i64 pr]])).set (n + 1) (.arr 0 6 [[b1, b2, b3, b4, b5, .int .i64 pk]])).set idN (.arr ver 6 (rows.set r [.int .i64 1, a2, a3, a4, a5, .int .i64 k])), n + 2⟩) := by
  simp (disch := omega) only [go_sem, Nat.reduceAdd, Nat.reduceMul, Nat.reduceLeDiff, B_72_2, eqT, ICode.a, ICode.b, eqS, hS, hN, hr, hk, get_same, get_other, zrow]
theorem eq_var2 {r k pr pk : Nat} {kr : Int} {a2 a3 a4 a5 b2 b3 b4 b5 : PV} {rows : List (List PV)} (hne : r ≠ k) (hk1 : kr ≠ 1) (hS : H.get idS = some (srow pv (.view idN ver 6 0 len none) wv (.int .i64 cnt) nm up pl)) (hN : H.get idN = some (.arr ver 6 rows)) (l1 : idS < n) (l2 : idN < n)
    (h0 : idS ≠ idN) (lr : r < len) (lk : k < len) (hr : rows[r]? = some [.int .i64 kr, a2, a3, a4, a5, .int .i64 pr]) (hk : rows[k]? = some [.int .i64 1, b2, b3, b4, b5, .int .i64 pk]) :
    codeL Gf eqT ⟨eqS (.ptr idS 0 7 0 1) x1 x2 x3 x4 x5 (.int .i64 r) (.int .i64 k) x8 x9 x10 x11 x12 x13 x14 x15 x16 x17 x18 x19 x20 x21 x22, H, n⟩ =
      some (.exit 1, ⟨eqS (.ptr idS 0 7 0 1) x1 x2 x3 x4 x5 (.int .i64 r) (.int .i64 k) (.ptr n 0 6 0 0) (.ptr (n + 1) 0 6 0 0) x10 x11 x12 (.bool false) (.bool false) (.bool true) x16 x17 x18 x19 x20 x21 x22,
        ((((H.set n zrow).set (n + 1) zrow).set n (.arr 0 6 [[.int .i64 kr, a2, a3, a4, a5, .int .i64 pr]])).set (n + 1) (.arr 0 6 [[.int .i64 1, b2, b3, b4, b5, .int .i64 pk]])).set idN (.arr ver 6 (rows.set k [.int .i64 1, b2, b3, b4, b5, .int .i64 r])), n + 2⟩) := by
  simp (disch := omega) only [go_sem, Nat.reduceAdd, Nat.reduceMul, Nat.reduceLeDiff, B_72_2, eqT, ICode.a, ICode.b, eqS, hS, hN, hr, hk, get_same, get_other, zrow]
theorem eq_clash {r k pr pk la lb ua ub : Nat} {kr kk mr mk : Int} {sr sk : ByteArray} {a4 a5 b4 b5 : PV} {rows : List (List PV)} (hne : r ≠ k) (hk1 : kr ≠ 1) (hk2 : kk ≠ 1) (hS : H.get idS = some (srow pv (.view idN ver 6 0 len none) wv (.int .i64 cnt) nm up pl)) (hN : H.get idN = some (.arr ver 6 rows)) (l1 : idS < n) (l2 : idN < n)
    (h0 : idS ≠ idN) (lr : r < len) (lk : k < len) (hr : rows[r]? = some [.int .i64 kr, .int .i64 mr, .str sr, a4, a5, .int .i64 pr]) (hk : rows[k]? = some [.int .i64 kk, .int .i64 mk, .str sk, b4, b5, .int .i64 pk])
    (ha : ∀ H n, lenX .slice H n a4 = some ⟨.int .i64 la, H, n, .no⟩) (hb : ∀ H n, lenX .slice H n b4 = some ⟨.int .i64 lb, H, n, .no⟩) (hu : ∀ H n, lenX .slice H n a5 = some ⟨.int .i64 ua, H, n, .no⟩) (hv : ∀ H n, lenX .slice H n b5 = some ⟨.int .i64 ub, H, n, .no⟩)
    (hn : ¬ (kr = kk ∧ mr = mk ∧ sr.toList = sk.toList ∧ la = lb ∧ ua = ub)) :
    ∃ (S' : List PV) (H' : Heap), codeL Gf eqT ⟨eqS (.ptr idS 0 7 0 1) x1 x2 x3 x4 x5 (.int .i64 r) (.int .i64 k) x8 x9 x10 x11 x12 x13 x14 x15 x16 x17 x18 x19 x20 x21 x22, H, n⟩ =
      some (.ret, ⟨[.ptr idS 0 7 0 1, x1, x2, .nils, .bool false] ++ S', H', n + 2⟩) ∧ Same [idS] n H H' := by
  refine ⟨[x5, .int .i64 r, .int .i64 k, .ptr n 0 6 0 0, .ptr (n + 1) 0 6 0 0, x10, x11, x12, .bool false, .bool false, .bool false, .bool true, x17, x18, x19, x20, x21, x22],
    ((((H.set n zrow).set (n + 1) zrow).set n (.arr 0 6 [[.int .i64 kr, .int .i64 mr, .str sr, a4, a5, .int .i64 pr]])).set (n + 1) (.arr 0 6 [[.int .i64 kk, .int .i64 mk, .str sk, b4, b5, .int .i64 pk]])).set idS (srow pv (.view idN ver 6 0 len none) .nils (.int .i64 0) nm up pl), ?_, ((((Same.refl _ _ _).set _ (.inr (by omega))).set _ (.inr (by omega))).set _ (.inr (by omega))).set _ (.inr (by omega)) |>.set _ (.inl (by simp))⟩
  by_cases c1 : kr = kk
  · subst c1
    by_cases c2 : mr = mk
    · subst c2
      by_cases c3 : sr.toList = sk.toList
      · have e3 : (sr.toList == sk.toList) = true := by simp [c3]
        by_cases c4 : la = lb
        · subst c4
          have c5 : ua ≠ ub := fun e => hn ⟨rfl, rfl, c3, rfl, e⟩
          simp (disch := omega) only [go_sem, Nat.reduceAdd, Nat.reduceMul, Nat.reduceLeDiff, B_72_2, eqT, ICode.a, ICode.b, eqS, hS, hN, hr, hk, get_same, get_other, zrow, ha, hb, hu, hv, e3]
        · simp (disch := omega) only [go_sem, Nat.reduceAdd, Nat.reduceMul, Nat.reduceLeDiff, B_72_2, eqT, ICode.a, ICode.b, eqS, hS, hN, hr, hk, get_same, get_other, zrow, ha, hb, e3]
      · have e3 : (sr.toList == sk.toList) = false := by simp [c3]
        simp (disch := omega) only [go_sem, Nat.reduceAdd, Nat.reduceMul, Nat.reduceLeDiff, B_72_2, eqT, ICode.a, ICode.b, eqS, hS, hN, hr, hk, get_same, get_other, zrow, e3]
    · simp (disch := omega) only [go_sem, Nat.reduceAdd, Nat.reduceMul, Nat.reduceLeDiff, B_72_2, eqT, ICode.a, ICode.b, eqS, hS, hN, hr, hk, get_same, get_other, zrow]
  · simp (disch := omega) only [go_sem, Nat.reduceAdd, Nat.reduceMul, Nat.reduceLeDiff, B_72_2, eqT, ICode.a, ICode.b, eqS, hS, hN, hr, hk, get_same, get_other, zrow]
theorem eq_join {H6 H7 : Heap} {n6 n7 : Nat} {y3 y10 y11 : PV} {r k pr pk la lb ua ub : Nat} {kr kk mr mk : Int} {sr sk : ByteArray} {a4 a5 b4 b5 : PV} {rows : List (List PV)} (hne : r ≠ k) (hk1 : kr ≠ 1) (hk2 : kk ≠ 1) (hS : H.get idS = some (srow pv (.view idN ver 6 0 len none) wv (.int .i64 cnt) nm up pl)) (hN : H.get idN = some (.arr ver 6 rows)) (l1 : idS < n) (l2 : idN < n)
    (h0 : idS ≠ idN) (lr : r < len) (lk : k < len) (hr : rows[r]? = some [.int .i64 kr, .int .i64 mr, .str sr, a4, a5, .int .i64 pr]) (hk : rows[k]? = some [.int .i64 kk, .int .i64 mk, .str sk, b4, b5, .int .i64 pk])
    (ha : ∀ H n, lenX .slice H n a4 = some ⟨.int .i64 la, H, n, .no⟩) (hb : ∀ H n, lenX .slice H n b4 = some ⟨.int .i64 lb, H, n, .no⟩) (hu : ∀ H n, lenX .slice H n a5 = some ⟨.int .i64 ua, H, n, .no⟩) (hv : ∀ H n, lenX .slice H n b5 = some ⟨.int .i64 ub, H, n, .no⟩)
    (hn : kr = kk ∧ mr = mk ∧ sr.toList = sk.toList ∧ la = lb ∧ ua = ub)
    (ea : codeL Gf (.loop B_72_1) ⟨eqS (.ptr idS 0 7 0 1) x1 x2 x3 x4 x5 (.int .i64 r) (.int .i64 k) (.ptr n 0 6 0 0) (.ptr (n + 1) 0 6 0 0) x10 x11 x12 (.bool false) (.bool false) (.bool false) (.bool false) (.int .i64 la) (.int .i64 0) x19 x20 x21 x22,
        ((((H.set n zrow).set (n + 1) zrow).set n (.arr 0 6 [[.int .i64 kr, .int .i64 mr, .str sr, a4, a5, .int .i64 pr]])).set (n + 1) (.arr 0 6 [[.int .i64 kk, .int .i64 mk, .str sk, b4, b5, .int .i64 pk]])).set idN (.arr ver 6 (rows.set r [.int .i64 kr, .int .i64 mr, .str sr, a4, a5, .int .i64 k])), n + 2⟩ =
      some (.exit 3, ⟨eqS (.ptr idS 0 7 0 1) x1 x2 x3 x4 x5 (.int .i64 r) (.int .i64 k) (.ptr n 0 6 0 0) (.ptr (n + 1) 0 6 0 0) y10 x11 x12 (.bool false) (.bool false) (.bool false) (.bool false) (.int .i64 la) (.int .i64 la) (.bool false) x20 x21 x22, H6, n6⟩))
    (hX : H6.get n = some (.arr 0 6 [[.int .i64 kr, .int .i64 mr, .str sr, a4, a5, .int .i64 pr]]))
    (eu : codeL Gf (.loop B_72_0) ⟨eqS (.ptr idS 0 7 0 1) x1 x2 x3 x4 x5 (.int .i64 r) (.int .i64 k) (.ptr n 0 6 0 0) (.ptr (n + 1) 0 6 0 0) y10 x11 x12 (.bool false) (.bool false) (.bool false) (.bool false) (.int .i64 la) (.int .i64 la) (.bool false) (.int .i64 ua) (.int .i64 0) x22, H6, n6⟩ =
      some (.exit 5, ⟨eqS (.ptr idS 0 7 0 1) x1 x2 y3 x4 x5 (.int .i64 r) (.int .i64 k) (.ptr n 0 6 0 0) (.ptr (n + 1) 0 6 0 0) y10 y11 x12 (.bool false) (.bool false) (.bool false) (.bool false) (.int .i64 la) (.int .i64 la) (.bool false) (.int .i64 ua) (.int .i64 ua) (.bool false), H7, n7⟩)) :
    codeL Gf eqT ⟨eqS (.ptr idS 0 7 0 1) x1 x2 x3 x4 x5 (.int .i64 r) (.int .i64 k) x8 x9 x10 x11 x12 x13 x14 x15 x16 x17 x18 x19 x20 x21 x22, H, n⟩ =
      some (.normal, ⟨eqS (.ptr idS 0 7 0 1) x1 x2 y3 x4 x5 (.int .i64 r) (.int .i64 k) (.ptr n 0 6 0 0) (.ptr (n + 1) 0 6 0 0) y10 y11 x12 (.bool false) (.bool false) (.bool false) (.bool false) (.int .i64 la) (.int .i64 la) (.bool false) (.int .i64 ua) (.int .i64 ua) (.bool false), H7, n7⟩) := by
  obtain ⟨rfl, rfl, e3, rfl, rfl⟩ := hn
  have e3' : (sr.toList == sk.toList) = true := by simp [e3]
  simp only [eqS, zrow] at ea eu
  simp (disch := omega) only [go_sem, Nat.reduceAdd, Nat.reduceMul, Nat.reduceLeDiff, B_72_2, eqT, ICode.a, ICode.b, eqS, hS, hN, hr, hk, get_same, get_other, ha, hb, hu, hv, e3', ea, hX, eu]
end
structure Sto (H : Heap) (n : Nat) (W : List Nat) (len : Nat) (D : Nat → Nd) (A : Nat → List Nat) (U : Nat → List PV) : Prop where
  arg : ∀ i, i < len → ((D i).av = .nils ∧ A i = []) ∨ ∃ id, id < n ∧ id ∉ W ∧ VW H 1 id (D i).av (irows (A i))
  uni : ∀ i, i < len → ((D i).uv = .nils ∧ U i = []) ∨ ∃ id, id < n ∧ id ∉ W ∧ VW H 1 id (D i).uv (urows (U i))
  sub : ∀ i, i < len → ∀ a ∈ A i, a < len
  flt : ∀ i, i < len → ∀ u ∈ U i, flat u = true
section
variable {H H' : Heap} {n n' len : Nat} {W : List Nat} {D : Nat → Nd} {A : Nat → List Nat} {U : Nat → List PV}
theorem Sto.same (h : Sto H n W len D A U) (hs : Same W n H H') : Sto H' n W len D A U where
  arg i hi := by
    rcases h.arg i hi with h1 | ⟨id, h1, h2, h3⟩
    · exact .inl h1
    · exact .inr ⟨id, h1, h2, h3.same (hs id h1 h2)⟩
  uni i hi := by
    rcases h.uni i hi with h1 | ⟨id, h1, h2, h3⟩
    · exact .inl h1
    · exact .inr ⟨id, h1, h2, h3.same (hs id h1 h2)⟩
  sub := h.sub
  flt := h.flt
theorem Sto.alen (h : Sto H n W len D A U) {i : Nat} (hi : i < len) (H' : Heap) (n' : Nat) : lenX .slice H' n' (D i).av = some ⟨.int .i64 ((A i).length : Nat), H', n', .no⟩ := by
  rcases h.arg i hi with ⟨h1, h2⟩ | ⟨id, _, _, ver, rest, h1, _⟩
  · rw [h1, h2]; rfl
  · rw [h1]; simp [lenX, irows]
theorem Sto.ulen (h : Sto H n W len D A U) {i : Nat} (hi : i < len) (H' : Heap) (n' : Nat) : lenX .slice H' n' (D i).uv = some ⟨.int .i64 ((U i).length : Nat), H', n', .no⟩ := by
  rcases h.uni i hi with ⟨h1, h2⟩ | ⟨id, _, _, ver, rest, h1, _⟩
  · rw [h1, h2]; rfl
  · rw [h1]; simp [lenX, urows]
end
section
variable {pv nv nm up pl k1 m1 s1 u1 p1 k2 m2 s2 u2 p2 av bv : PV} {idS idP idX idY m : Nat} {A B : List Nat} {x0 x1 x2 x3 x4 x5 x6 x7 x10 x11 x12 x13 x14 x15 x16 x17 x18 x19 x20 x21 x22 : PV}
theorem args_all {H : Heap} {n n0 cnt : Nat} {wv : PV} {q : List (Nat × Nat × Nat)} (h0 : idS ≠ idP) (hXS : idX ≠ idS) (hXP : idX ≠ idP) (hYS : idY ≠ idS) (hYP : idY ≠ idP) (hA : A.length = m) (hB : B.length = m) (hm : m < 1000000)
    (ca : (av = .nils ∧ A = []) ∨ ∃ id, id < n ∧ id ≠ idS ∧ id ≠ idP ∧ VW H 1 id av (irows A)) (cb : (bv = .nils ∧ B = []) ∨ ∃ id, id < n ∧ id ≠ idS ∧ id ≠ idP ∧ VW H 1 id bv (irows B))
    (hS : H.get idS = some (srow pv nv wv (.int .i64 cnt) nm up pl)) (hG : VW H 3 idP wv (q.map prow))
    (hX : H.get idX = some (.arr 0 6 [[k1, m1, s1, av, u1, p1]])) (hY : H.get idY = some (.arr 0 6 [[k2, m2, s2, bv, u2, p2]]))
    (l1 : idS < n) (l2 : idP < n) (l3 : idX < n) (l4 : idY < n) (hq : q.length + m < 999999999) (hc : cnt + m < 999999999999) :
    ∃ (H' : Heap) (n' : Nat) (wv' : PV) (q' : List (Nat × Nat × Nat)) (y10 : PV), codeL Gf (.loop B_72_1) ⟨eqS (.ptr idS 0 7 0 1) x1 x2 x3 x4 x5 x6 x7 (.ptr idX 0 6 0 0) (.ptr idY 0 6 0 0) x10 x11 x12 x13 x14 x15 x16 (.int .i64 m) (.int .i64 0) x19 x20 x21 x22, H, n⟩ =
          some (.exit 3, ⟨eqS (.ptr idS 0 7 0 1) x1 x2 x3 x4 x5 x6 x7 (.ptr idX 0 6 0 0) (.ptr idY 0 6 0 0) y10 x11 x12 x13 x14 x15 x16 (.int .i64 m) (.int .i64 m) (.bool false) x20 x21 x22, H', n'⟩) ∧
        H'.get idS = some (srow pv nv wv' (.int .i64 (cnt + m : Nat)) nm up pl) ∧ (q'.map Prod.snd).Perm (q.map Prod.snd ++ A.zip B) ∧ VW H' 3 idP wv' (q'.map prow) ∧ Same [idS, idP] n H H' ∧ n ≤ n' := by
  have hz : A = [] → ∃ (H' : Heap) (n' : Nat) (wv' : PV) (q' : List (Nat × Nat × Nat)) (y10 : PV), codeL Gf (.loop B_72_1) ⟨eqS (.ptr idS 0 7 0 1) x1 x2 x3 x4 x5 x6 x7 (.ptr idX 0 6 0 0) (.ptr idY 0 6 0 0) x10 x11 x12 x13 x14 x15 x16 (.int .i64 m) (.int .i64 0) x19 x20 x21 x22, H, n⟩ =
          some (.exit 3, ⟨eqS (.ptr idS 0 7 0 1) x1 x2 x3 x4 x5 x6 x7 (.ptr idX 0 6 0 0) (.ptr idY 0 6 0 0) y10 x11 x12 x13 x14 x15 x16 (.int .i64 m) (.int .i64 m) (.bool false) x20 x21 x22, H', n'⟩) ∧
        H'.get idS = some (srow pv nv wv' (.int .i64 (cnt + m : Nat)) nm up pl) ∧ (q'.map Prod.snd).Perm (q.map Prod.snd ++ A.zip B) ∧ VW H' 3 idP wv' (q'.map prow) ∧ Same [idS, idP] n H H' ∧ n ≤ n' := by
    intro hA0
    subst hA0
    simp at hA
    subst hA
    refine ⟨H, n, wv, q, x10, codeL_loop_end ?_ (by simp), by rw [Nat.add_zero]; exact hS, by simp, hG, .refl _ _ _, Nat.le_refl _⟩
    simp (disch := omega) only [go_sem, B_72_1, eqS]
    simp
  rcases ca with ⟨_, h1⟩ | ⟨ida, a1, a2, a3, a4⟩
  · exact hz h1
  · rcases cb with ⟨_, h1⟩ | ⟨idb, b1, b2, b3, b4⟩
    · subst h1
      simp at hB
      exact hz (List.length_eq_zero_iff.1 (by omega))
    · have := args_loop (x1 := x1) (x2 := x2) (x3 := x3) (x4 := x4) (x5 := x5) (x6 := x6) (x7 := x7) (x11 := x11) (x12 := x12) (x13 := x13) (x14 := x14) (x15 := x15) (x16 := x16) (x20 := x20) (x21 := x21) (x22 := x22) h0 hXS hXP hYS hYP a2 a3 b2 b3 hA hB hm m 0 H n cnt wv q x10 x19 (by omega) (by omega) hS hG hX hY a4 b4 l1 l2 l3 l4 a1 b1 hq hc
      rw [show ((0 : Nat) : Int) = 0 from rfl, List.drop_zero] at this
      exact this
theorem units_all {H : Heap} {n n0 idL : Nat} {a1 a2 : PV} {A B : List PV} {L : List (PV × PV)} (hA : A.length = m) (hB : B.length = m) (hm : m < 1000000) (hfA : ∀ u ∈ A, flat u = true) (hfB : ∀ u ∈ B, flat u = true)
    (ca : (av = .nils ∧ A = []) ∨ ∃ id, id < n ∧ id ≠ idL ∧ VW H 1 id av (urows A)) (cb : (bv = .nils ∧ B = []) ∨ ∃ id, id < n ∧ id ≠ idL ∧ VW H 1 id bv (urows B)) (hL : LV H n0 n idL x3 L)
    (hX : H.get idX = some (.arr 0 6 [[k1, m1, s1, a1, av, p1]])) (hY : H.get idY = some (.arr 0 6 [[k2, m2, s2, a2, bv, p2]]))
    (l3 : idX < n) (l4 : idY < n) (l7 : n0 ≤ n) (n1 : idX ≠ idL) (n2 : idY ≠ idL) (hl : L.length + m < 1000000000) :
    ∃ (H' : Heap) (n' idL' : Nat) (y3 y11 : PV), codeL Gf (.loop B_72_0) ⟨eqS x0 x1 x2 x3 x4 x5 x6 x7 (.ptr idX 0 6 0 0) (.ptr idY 0 6 0 0) x10 x11 x12 x13 x14 x15 x16 x17 x18 x19 (.int .i64 m) (.int .i64 0) x22, H, n⟩ =
          some (.exit 5, ⟨eqS x0 x1 x2 y3 x4 x5 x6 x7 (.ptr idX 0 6 0 0) (.ptr idY 0 6 0 0) x10 y11 x12 x13 x14 x15 x16 x17 x18 x19 (.int .i64 m) (.int .i64 m) (.bool false), H', n'⟩) ∧
        LV H' n0 n' idL' y3 (L ++ A.zip B) ∧ (idL' = idL ∨ n ≤ idL') ∧ Same [idL] n H H' ∧ n ≤ n' := by
  have hz : A = [] → ∃ (H' : Heap) (n' idL' : Nat) (y3 y11 : PV), codeL Gf (.loop B_72_0) ⟨eqS x0 x1 x2 x3 x4 x5 x6 x7 (.ptr idX 0 6 0 0) (.ptr idY 0 6 0 0) x10 x11 x12 x13 x14 x15 x16 x17 x18 x19 (.int .i64 m) (.int .i64 0) x22, H, n⟩ =
          some (.exit 5, ⟨eqS x0 x1 x2 y3 x4 x5 x6 x7 (.ptr idX 0 6 0 0) (.ptr idY 0 6 0 0) x10 y11 x12 x13 x14 x15 x16 x17 x18 x19 (.int .i64 m) (.int .i64 m) (.bool false), H', n'⟩) ∧
        LV H' n0 n' idL' y3 (L ++ A.zip B) ∧ (idL' = idL ∨ n ≤ idL') ∧ Same [idL] n H H' ∧ n ≤ n' := by
    intro hA0
    subst hA0
    simp at hA
    subst hA
    refine ⟨H, n, idL, x3, x11, codeL_loop_end ?_ (by simp), by simpa using hL, .inl rfl, .refl _ _ _, Nat.le_refl _⟩
    simp (disch := omega) only [go_sem, B_72_0, eqS]
    simp
  rcases ca with ⟨_, h1⟩ | ⟨ida, a1', a2', a3'⟩
  · exact hz h1
  · rcases cb with ⟨_, h1⟩ | ⟨idb, b1, b2, b3⟩
    · subst h1
      simp at hB
      exact hz (List.length_eq_zero_iff.1 (by omega))
    · have := units_loop (x0 := x0) (x1 := x1) (x2 := x2) (x4 := x4) (x5 := x5) (x6 := x6) (x7 := x7) (x10 := x10) (x12 := x12) (x13 := x13) (x14 := x14) (x15 := x15) (x16 := x16) (x17 := x17) (x18 := x18) (x19 := x19) hA hB hm hfA hfB m 0 H n idL x3 L x11 x22 (by omega) (by omega) hL hX hY a3' b3 l3 l4 a1' b1 l7 n1 n2 a2' b2 hl
      rw [show ((0 : Nat) : Int) = 0 from rfl, List.drop_zero] at this
      exact this
end
section
variable {idS idN idP ver len n0 M MU B1 B2 B3 a b : Nat} {pv nm up pl : PV} {D : Nat → Nd} {A : Nat → List Nat} {U : Nat → List PV} {R0 : Nat → Nat}
structure EqSt (idS idN idP ver len n0 M MU B1 B2 B3 a b : Nat) (pv nm up pl : PV) (D : Nat → Nd) (A : Nat → List Nat) (U : Nat → List PV) (R0 : Nat → Nat)
    (H : Heap) (n cnt : Nat) (wv : PV) (P R rk : Nat → Nat) (q : List (Nat × Nat × Nat)) (idL : Nat) (x3 : PV) (L : List (PV × PV)) : Prop where
  hS : H.get idS = some (srow pv (.view idN ver 6 0 len none) wv (.int .i64 cnt) nm up pl)
  hN : H.get idN = some (.arr ver 6 (nrows len D P))
  hG : VW H 3 idP wv (q.map prow)
  hu : Ups len P R rk
  hL : LV H n0 n idL x3 L
  l0 : n0 ≤ idL
  ln : n0 ≤ n
  sto : Sto H n0 [idS, idN, idP] len D A U
  qr : ∀ p ∈ q, p.2.1 < len ∧ p.2.2 < len
  inv : EInv len D A U R0 a b R (q.map Prod.snd) L
  bq : q.length + roots len R * M ≤ B1
  bc : cnt + roots len R * M ≤ B2
  bl : L.length + roots len R * MU ≤ B3
structure EqFix (idS idN idP len n0 M MU B1 B2 B3 : Nat) (A : Nat → List Nat) (U : Nat → List PV) : Prop where
  dSN : idS ≠ idN
  dSP : idS ≠ idP
  dNP : idN ≠ idP
  lS : idS < n0
  lN : idN < n0
  lP : idP < n0
  ll : len < 1000000000
  mA : ∀ i, i < len → (A i).length ≤ M
  mU : ∀ i, i < len → (U i).length ≤ MU
  M : M < 1000000
  MU : MU < 1000000
  b1 : B1 < 999999999
  b2 : B2 < 999999999999
  b3 : B3 < 1000000000
def EqOut (idS idN idP ver len n0 M MU B1 B2 B3 a b : Nat) (pv nm up pl : PV) (D : Nat → Nd) (A : Nat → List Nat) (U : Nat → List PV) (R0 : Nat → Nat) (H : Heap) (n : Nat) (x1 x2 x4 : PV) (S : List PV) : Prop :=
  (∃ (H' : Heap) (n' cnt' : Nat) (wv' : PV) (P' R' rk' : Nat → Nat) (idL' : Nat) (y3 : PV) (L' : List (PV × PV)) (T : List PV),
    codeL Gf (.loop B_72_2) ⟨S, H, n⟩ = some (.exit 0, ⟨[.ptr idS 0 7 0 1, x1, x2, y3, x4] ++ T, H', n'⟩) ∧
      EqSt idS idN idP ver len n0 M MU B1 B2 B3 a b pv nm up pl D A U R0 H' n' cnt' wv' P' R' rk' [] idL' y3 L' ∧ Same [idS, idN, idP] n0 H H' ∧ n ≤ n') ∨
  (∃ (H' : Heap) (n' : Nat) (T : List PV), codeL Gf (.loop B_72_2) ⟨S, H, n⟩ = some (.ret, ⟨[.ptr idS 0 7 0 1, x1, x2, .nils, .bool false] ++ T, H', n'⟩) ∧
    (¬ ∃ E, Cong len D A U E ∧ (∀ i, i < len → E i (R0 i)) ∧ E a b) ∧ Same [idS, idN, idP] n0 H H')
theorem equal_loop (F : EqFix idS idN idP len n0 M MU B1 B2 B3 A U) : ∀ (d : Nat) (H : Heap) (n cnt : Nat) (wv : PV) (P R rk : Nat → Nat) (q : List (Nat × Nat × Nat)) (idL : Nat) (x3 : PV) (L : List (PV × PV))
    (x1 x2 x4 x5 x6 x7 x8 x9 x10 x11 x12 x13 x14 x15 x16 x17 x18 x19 x20 x21 x22 : PV), roots len R * (M + 1) + q.length = d →
    EqSt idS idN idP ver len n0 M MU B1 B2 B3 a b pv nm up pl D A U R0 H n cnt wv P R rk q idL x3 L →
    EqOut idS idN idP ver len n0 M MU B1 B2 B3 a b pv nm up pl D A U R0 H n x1 x2 x4 (eqS (.ptr idS 0 7 0 1) x1 x2 x3 x4 x5 x6 x7 x8 x9 x10 x11 x12 x13 x14 x15 x16 x17 x18 x19 x20 x21 x22) := by
  intro d
  induction d using Nat.strongRecOn with
  | ind d ih =>
    intro H n cnt wv P R rk q idL x3 L x1 x2 x4 x5 x6 x7 x8 x9 x10 x11 x12 x13 x14 x15 x16 x17 x18 x19 x20 x21 x22 hd st
    obtain ⟨hS, hN, hG, hu, hL, l0, ln, sto, qr, inv, bq, bc, bl⟩ := st
    obtain ⟨dSN, dSP, dNP, lS, lN, lP, hlen, mA, mU, hM, hMU, b1, b2, b3⟩ := id F
    by_cases hq : q = []
    · subst hq
      refine .inl ⟨H, n, cnt, wv, P, R, rk, idL, x3, L, [x5, x6, x7, x8, x9, x10, x11, .bool false, x13, x14, x15, x16, x17, x18, x19, x20, x21, x22], codeL_loop_end (eq_empty ?_) (by simp), ⟨hS, hN, hG, hu, hL, l0, ln, sto, qr, inv, bq, bc, bl⟩, .refl _ _ _, Nat.le_refl _⟩
      obtain ⟨v1, r1, rfl, _⟩ := hG
      exact wait_len hS
    · have hql : q.length ≤ B1 := by omega
      obtain ⟨H1, wv1, q1, p, ep, hS1, hp1, hG1, hs1⟩ := heap_pop (n := n) hS hG dSP (by omega) (by omega) (by omega) hq
      obtain ⟨c, p, t⟩ := p
      have hl1 : q1.length + 1 = q.length := by rw [← hp1.length_eq]; simp
      have el : Gf 131 [.ptr idS 0 7 0 2] H n = some (.int .i64 ((q1.length + 1 : Nat) : Int), H, n) := by
        obtain ⟨v1, r1, rfl, _⟩ := hG
        rw [wait_len hS]; simp [hl1]
      have hpm : (c, p, t) ∈ q := hp1.mem_iff.1 (by simp)
      obtain ⟨lp, lt⟩ := qr _ hpm
      simp only at lp lt
      have qr1 : ∀ x ∈ q1, x.2.1 < len ∧ x.2.2 < len := fun x hx => qr x (hp1.mem_iff.1 (by simp [hx]))
      have inv1 : EInv len D A U R0 a b R ((p, t) :: q1.map Prod.snd) L := inv.perm (fun x => by
        have := (hp1.map Prod.snd).mem_iff (a := x)
        simpa using this)
      -- the box
      have hN1 : H1.get idN = some (.arr ver 6 (nrows len D P)) := by rw [hs1 _ (by omega) (by simp [Ne.symm dSN, dNP])]; exact hN
      have sB : Same [idS, idN, idP] n H1 (H1.set (n + 1) (.arr 0 3 [prow (c, p, t)])) := (Same.refl _ _ _).set _ (.inr (by omega))
      have hSb : (H1.set (n + 1) (.arr 0 3 [prow (c, p, t)])).get idS = some (srow pv (.view idN ver 6 0 len none) wv1 (.int .i64 cnt) nm up pl) := by rw [get_other _ _ (by omega)]; exact hS1
      have hNb : (H1.set (n + 1) (.arr 0 3 [prow (c, p, t)])).get idN = some (.arr ver 6 (nrows len D P)) := by rw [get_other _ _ (by omega)]; exact hN1
      obtain ⟨P1, H2, e1, hu1, hN2, hS2', hs2⟩ := find_run (n := n + 2) dSN hlen hSb hNb hu lp
      have hS2 := hS2'.trans hSb
      have hp2 : H2.get (n + 1) = some (.arr 0 3 [prow (c, p, t)]) := by rw [hs2 _ (by omega) (by simp; omega), get_same]
      obtain ⟨P2, H3, e2, hu2, hN3, hS3', hs3⟩ := find_run (n := n + 2) dSN hlen hS2 hN2 hu1 lt
      have hS3 := hS3'.trans hS2
      have hs13 : Same [idS, idN, idP] n H H3 := (((hs1.mono (fun x hx => by simp at hx; rcases hx with e | e <;> simp [e]) (Nat.le_refl n)).trans sB (Nat.le_refl n)).step hs2 (fun x hx => by simp at hx; simp [hx]) (by omega)).step hs3 (fun x hx => by simp at hx; simp [hx]) (by omega)
      have hP3 : H3.get idP = H1.get idP := by
        rw [hs3 _ (by omega) (by simp; omega), hs2 _ (by omega) (by simp; omega), get_other _ _ (by omega)]
      have hG3 := hG1.same hP3
      have hL3 : LV H3 n0 (n + 2) idL x3 L := hL.same (fun h => by
        have g1 : idL ∉ [idS, idN, idP] := by simp; omega
        exact hs13 _ h g1) (by omega)
      have sto3 := sto.same (hs13.mono (fun x hx => hx) ln)
      have hs03 : Same [idS, idN, idP] n0 H H3 := hs13.mono (fun x hx => hx) ln
      have hstep := eq_take (x1 := x1) (x2 := x2) (x3 := x3) (x4 := x4) (x5 := x5) (x6 := x6) (x7 := x7) (x8 := x8) (x9 := x9) (x10 := x10) (x11 := x11) (x12 := x12) (x13 := x13) (x14 := x14) (x15 := x15) (x16 := x16) (x17 := x17) (x18 := x18) (x19 := x19) (x20 := x20) (x21 := x21) (x22 := x22) el ep e1 hp2 e2
      -- going on
      have next : ∀ {H' : Heap} {n' cnt' : Nat} {wv' : PV} {P' R' rk' : Nat → Nat} {q' : List (Nat × Nat × Nat)} {idL' : Nat} {y3 : PV} {L' : List (PV × PV)} {y5 y6 y7 y8 y9 y10 y11 y12 y13 y14 y15 y16 y17 y18 y19 y20 y21 y22 : PV},
          codeL Gf B_72_2 ⟨eqS (.ptr idS 0 7 0 1) x1 x2 x3 x4 x5 x6 x7 x8 x9 x10 x11 x12 x13 x14 x15 x16 x17 x18 x19 x20 x21 x22, H, n⟩ = some (.normal, ⟨eqS (.ptr idS 0 7 0 1) x1 x2 y3 x4 y5 y6 y7 y8 y9 y10 y11 y12 y13 y14 y15 y16 y17 y18 y19 y20 y21 y22, H', n'⟩) →
          EqSt idS idN idP ver len n0 M MU B1 B2 B3 a b pv nm up pl D A U R0 H' n' cnt' wv' P' R' rk' q' idL' y3 L' → roots len R' * (M + 1) + q'.length < d → Same [idS, idN, idP] n0 H H' → n ≤ n' →
          EqOut idS idN idP ver len n0 M MU B1 B2 B3 a b pv nm up pl D A U R0 H n x1 x2 x4 (eqS (.ptr idS 0 7 0 1) x1 x2 x3 x4 x5 x6 x7 x8 x9 x10 x11 x12 x13 x14 x15 x16 x17 x18 x19 x20 x21 x22) := by
        intro H' n' cnt' wv' P' R' rk' q' idL' y3 L' y5 y6 y7 y8 y9 y10 y11 y12 y13 y14 y15 y16 y17 y18 y19 y20 y21 y22 h1 h2 h3 h4 h5
        unfold EqOut
        rw [codeL_loop_iff h1]
        rcases ih _ h3 H' n' cnt' wv' P' R' rk' q' idL' y3 L' x1 x2 x4 y5 y6 y7 y8 y9 y10 y11 y12 y13 y14 y15 y16 y17 y18 y19 y20 y21 y22 rfl h2 with ⟨H'', n'', cnt'', wv'', P'', R'', rk'', idL'', z3, L'', T, g1, g2, g3, g4⟩ | ⟨H'', n'', T, g1, g2, g3⟩
        · exact .inl ⟨H'', n'', cnt'', wv'', P'', R'', rk'', idL'', z3, L'', T, g1, g2, h4.trans g3 (Nat.le_refl _), by omega⟩
        · exact .inr ⟨H'', n'', T, g1, g2, h4.trans g3 (Nat.le_refl _)⟩
      by_cases hrk : R p = R t
      · refine next (hstep.trans (by rw [eq_same hrk]; rfl)) ⟨hS3, hN3, hG3, hu2, hL3, l0, by omega, sto3, qr1, inv1.same lp lt hrk, by omega, bc, bl⟩ (by omega) hs03 (by omega)
      · obtain ⟨lr, _⟩ : R p < len ∧ True := ⟨(hu2 p lp).2.1, trivial⟩
        obtain ⟨lk, _⟩ : R t < len ∧ True := ⟨(hu2 t lt).2.1, trivial⟩
        have rr : ∀ j, j < len → R j < len := fun j hj => (hu2 j hj).2.1
        have Rr : R (R p) = R p := hu2.rr lp
        have Rk : R (R t) = R t := hu2.rr lt
        have Pr : P2 (R p) = R p := (hu2 p lp).2.2.1
        have Pk : P2 (R t) = R t := (hu2 t lt).2.2.1
        have hr := nrows_at D P2 lr
        have hk := nrows_at D P2 lk
        simp only [nrow] at hr hk
        have key : ∀ {R' : Nat → Nat}, roots len R' < roots len R → roots len R' * (M + 1) + (M + 1) ≤ roots len R * (M + 1) ∧ roots len R' * M + M ≤ roots len R * M ∧ roots len R' * MU + MU ≤ roots len R * MU := by
          intro R' h
          have g1 := Nat.mul_le_mul_right (M + 1) (show roots len R' + 1 ≤ roots len R from h)
          have g2 := Nat.mul_le_mul_right M (show roots len R' + 1 ≤ roots len R from h)
          have g3 := Nat.mul_le_mul_right MU (show roots len R' + 1 ≤ roots len R from h)
          rw [Nat.add_mul, Nat.one_mul] at g1 g2 g3
          exact ⟨g1, g2, g3⟩
        by_cases hv1 : (D (R p)).kind = 1
        · -- the first is a variable
          have hr1 := hr
          rw [hv1] at hr1
          have hset : (nrows len D P2).set (R p) [.int .i64 1, .int .i64 (D (R p)).num, .str (D (R p)).name, (D (R p)).av, (D (R p)).uv, .int .i64 (R t)] = nrows len D (upd P2 (R p) (R t)) := by
            have := nrows_set len D P2 (R p) (R t)
            simp only [nrow, hv1] at this
            exact this
          have hrun := eq_var1 (x1 := x1) (x2 := x2) (x3 := x3) (x4 := x4) (x5 := .ptr (n + 1) 0 3 0 0) (x8 := x8) (x9 := x9) (x10 := x10) (x11 := x11) (x12 := .bool true) (x13 := x13) (x14 := x14) (x15 := x15) (x16 := x16) (x17 := x17) (x18 := x18) (x19 := x19) (x20 := x20) (x21 := x21) (x22 := x22)
            hrk hS3 hN3 (show idS < n + 2 by omega) (show idN < n + 2 by omega) dSN lr lk hr1 hk
          rw [hset] at hrun
          have hlt := roots_join (R := R) (len := len) lr Rr hrk Rk
          obtain ⟨g1, g2, g3⟩ := key hlt
          refine next (hstep.trans (by rw [hrun]; rfl)) (P' := upd P2 (R p) (R t)) (R' := joinR R (R p) (R t)) (rk' := fun j => if R j = R p then rk j + rk (R t) + 1 else rk j) (q' := q1) (L' := L) (cnt' := cnt) (wv' := wv1) (idL' := idL) ⟨?_, get_same _ _ _, ?_, hu2.join lr lk Pr Pk hrk, ?_, l0, by omega, ?_, qr1, ?_, by omega, by omega, by omega⟩ (by omega) ?_ (by omega)
          · rw [get_other _ _ (Ne.symm dSN), get_other _ _ (by omega), get_other _ _ (by omega), get_other _ _ (by omega), get_other _ _ (by omega)]; exact hS3
          · refine hG3.same ?_
            rw [get_other _ _ dNP, get_other _ _ (by omega), get_other _ _ (by omega), get_other _ _ (by omega), get_other _ _ (by omega)]
          · refine hL3.same (fun h => ?_) (by omega)
            rw [get_other _ _ (by omega), get_other _ _ (by omega), get_other _ _ (by omega), get_other _ _ (by omega), get_other _ _ (by omega)]
          · exact sto3.same (((((Same.refl _ _ _).set _ (.inr (by omega))).set _ (.inr (by omega))).set _ (.inr (by omega))).set _ (.inr (by omega)) |>.set _ (.inl (by simp)))
          · exact inv1.join lp lt lr lk Rr Rk hrk rr (.inl ⟨rfl, rfl⟩) (.inl ⟨fun j hj e => inv1.var j hj (by rw [e]; exact hv1), rfl, rfl⟩)
          · exact hs03.trans ((((((Same.refl _ _ _).set _ (.inr (by omega))).set _ (.inr (by omega))).set _ (.inr (by omega))).set _ (.inr (by omega)) |>.set _ (.inl (by simp)))) (Nat.le_refl _)
        · by_cases hv2 : (D (R t)).kind = 1
          · have hk1 := hk
            rw [hv2] at hk1
            have hset : (nrows len D P2).set (R t) [.int .i64 1, .int .i64 (D (R t)).num, .str (D (R t)).name, (D (R t)).av, (D (R t)).uv, .int .i64 (R p)] = nrows len D (upd P2 (R t) (R p)) := by
              have := nrows_set len D P2 (R t) (R p)
              simp only [nrow, hv2] at this
              exact this
            have hrun := eq_var2 (x1 := x1) (x2 := x2) (x3 := x3) (x4 := x4) (x5 := .ptr (n + 1) 0 3 0 0) (x8 := x8) (x9 := x9) (x10 := x10) (x11 := x11) (x12 := .bool true) (x13 := x13) (x14 := x14) (x15 := x15) (x16 := x16) (x17 := x17) (x18 := x18) (x19 := x19) (x20 := x20) (x21 := x21) (x22 := x22)
              hrk hv1 hS3 hN3 (show idS < n + 2 by omega) (show idN < n + 2 by omega) dSN lr lk hr hk1
            rw [hset] at hrun
            have hlt := roots_join (R := R) (len := len) lk Rk (Ne.symm hrk) Rr
            obtain ⟨g1, g2, g3⟩ := key hlt
            refine next (hstep.trans (by rw [hrun]; rfl)) (P' := upd P2 (R t) (R p)) (R' := joinR R (R t) (R p)) (rk' := fun j => if R j = R t then rk j + rk (R p) + 1 else rk j) (q' := q1) (L' := L) (cnt' := cnt) (wv' := wv1) (idL' := idL) ⟨?_, get_same _ _ _, ?_, hu2.join lk lr Pk Pr (Ne.symm hrk), ?_, l0, by omega, ?_, qr1, ?_, by omega, by omega, by omega⟩ (by omega) ?_ (by omega)
            · rw [get_other _ _ (Ne.symm dSN), get_other _ _ (by omega), get_other _ _ (by omega), get_other _ _ (by omega), get_other _ _ (by omega)]; exact hS3
            · refine hG3.same ?_
              rw [get_other _ _ dNP, get_other _ _ (by omega), get_other _ _ (by omega), get_other _ _ (by omega), get_other _ _ (by omega)]
            · refine hL3.same (fun h => ?_) (by omega)
              rw [get_other _ _ (by omega), get_other _ _ (by omega), get_other _ _ (by omega), get_other _ _ (by omega), get_other _ _ (by omega)]
            · exact sto3.same (((((Same.refl _ _ _).set _ (.inr (by omega))).set _ (.inr (by omega))).set _ (.inr (by omega))).set _ (.inr (by omega)) |>.set _ (.inl (by simp)))
            · exact inv1.join lp lt lk lr Rk Rr (Ne.symm hrk) rr (.inr ⟨rfl, rfl⟩) (.inl ⟨fun j hj e => inv1.var j hj (by rw [e]; exact hv2), rfl, rfl⟩)
            · exact hs03.trans ((((((Same.refl _ _ _).set _ (.inr (by omega))).set _ (.inr (by omega))).set _ (.inr (by omega))).set _ (.inr (by omega)) |>.set _ (.inl (by simp)))) (Nat.le_refl _)
          · by_cases hh : Head D A U (R p) (R t)
            · have hset : (nrows len D P2).set (R p) [.int .i64 (D (R p)).kind, .int .i64 (D (R p)).num, .str (D (R p)).name, (D (R p)).av, (D (R p)).uv, .int .i64 (R t)] = nrows len D (upd P2 (R p) (R t)) := nrows_set len D P2 (R p) (R t)
              have hlt := roots_join (R := R) (len := len) lr Rr hrk Rk
              obtain ⟨g1, g2, g3⟩ := key hlt
              have mAr := mA _ lr
              have mUr := mU _ lr
              have hh' := hh
              obtain ⟨h1, h2, h3, h4, h5⟩ := hh'
              -- the heap with both boxes, joined
              generalize hH5 : ((((H3.set (n + 2) zrow).set (n + 2 + 1) zrow).set (n + 2) (.arr 0 6 [[.int .i64 (D (R p)).kind, .int .i64 (D (R p)).num, .str (D (R p)).name, (D (R p)).av, (D (R p)).uv, .int .i64 (P2 (R p))]])).set (n + 2 + 1) (.arr 0 6 [[.int .i64 (D (R t)).kind, .int .i64 (D (R t)).num, .str (D (R t)).name, (D (R t)).av, (D (R t)).uv, .int .i64 (P2 (R t))]])).set idN
                (.arr ver 6 (nrows len D (upd P2 (R p) (R t)))) = H5
              have s35 : Same [idS, idN, idP] (n + 2) H3 H5 := by
                rw [← hH5]
                exact ((((Same.refl _ _ _).set _ (.inr (by omega))).set _ (.inr (by omega))).set _ (.inr (by omega))).set _ (.inr (by omega)) |>.set _ (.inl (by simp))
              have hS5 : H5.get idS = some (srow pv (.view idN ver 6 0 len none) wv1 (.int .i64 cnt) nm up pl) := by
                rw [← hH5, get_other _ _ (Ne.symm dSN), get_other _ _ (by omega), get_other _ _ (by omega), get_other _ _ (by omega), get_other _ _ (by omega)]; exact hS3
              have hG5 : VW H5 3 idP wv1 (q1.map prow) := by
                refine hG3.same ?_
                rw [← hH5, get_other _ _ dNP, get_other _ _ (by omega), get_other _ _ (by omega), get_other _ _ (by omega), get_other _ _ (by omega)]
              have hN5 : H5.get idN = some (.arr ver 6 (nrows len D (upd P2 (R p) (R t)))) := by rw [← hH5, get_same]
              have hX5 : H5.get (n + 2) = some (.arr 0 6 [[.int .i64 (D (R p)).kind, .int .i64 (D (R p)).num, .str (D (R p)).name, (D (R p)).av, (D (R p)).uv, .int .i64 (P2 (R p))]]) := by
                rw [← hH5, get_other _ _ (by omega), get_other _ _ (by omega), get_same]
              have hY5 : H5.get (n + 2 + 1) = some (.arr 0 6 [[.int .i64 (D (R t)).kind, .int .i64 (D (R t)).num, .str (D (R t)).name, (D (R t)).av, (D (R t)).uv, .int .i64 (P2 (R t))]]) := by
                rw [← hH5, get_other _ _ (by omega), get_same]
              have sto5 := sto3.same (s35.mono (fun x hx => hx) (by omega))
              have cond : ∀ i, i < len → ((D i).av = .nils ∧ A i = []) ∨ ∃ id, id < n + 2 + 2 ∧ id ≠ idS ∧ id ≠ idP ∧ VW H5 1 id (D i).av (irows (A i)) := by
                intro i hi
                rcases sto5.arg i hi with c1 | ⟨id, c1, c2, c3⟩
                · exact .inl c1
                · simp at c2
                  exact .inr ⟨id, by omega, c2.1, c2.2.2, c3⟩
              have hkt := cond _ lk
              rw [show (A (R p)).length = (A (R t)).length from h4] at mAr
              obtain ⟨H6, n6, wv6, q6, y10, ea, hS6, hp6, hG6, hs6, hn6⟩ := args_all (x1 := x1) (x2 := x2) (x3 := x3) (x4 := x4) (x5 := .ptr (n + 1) 0 3 0 0) (x6 := .int .i64 (R p)) (x7 := .int .i64 (R t)) (x10 := x10) (x11 := x11) (x12 := .bool true) (x13 := .bool false) (x14 := .bool false) (x15 := .bool false) (x16 := .bool false) (x19 := x19) (x20 := x20) (x21 := x21) (x22 := x22)
                (n0 := n0) dSP (show n + 2 ≠ idS by omega) (show n + 2 ≠ idP by omega) (show n + 2 + 1 ≠ idS by omega) (show n + 2 + 1 ≠ idP by omega) rfl h4.symm (show (A (R p)).length < 1000000 by omega) (cond _ lr) (cond _ lk) hS5 hG5 hX5 hY5 (by omega) (by omega) (by omega) (by omega) (by omega) (by omega)
              have hX6 : H6.get (n + 2) = some (.arr 0 6 [[.int .i64 (D (R p)).kind, .int .i64 (D (R p)).num, .str (D (R p)).name, (D (R p)).av, (D (R p)).uv, .int .i64 (P2 (R p))]]) := by rw [hs6 _ (by omega) (by simp; omega)]; exact hX5
              have hY6 : H6.get (n + 2 + 1) = some (.arr 0 6 [[.int .i64 (D (R t)).kind, .int .i64 (D (R t)).num, .str (D (R t)).name, (D (R t)).av, (D (R t)).uv, .int .i64 (P2 (R t))]]) := by rw [hs6 _ (by omega) (by simp; omega)]; exact hY5
              have s36 : Same [idS, idN, idP] (n + 2) H3 H6 := s35.step hs6 (fun x hx => by simp at hx; rcases hx with e | e <;> simp [e]) (by omega)
              have sto6 := sto3.same (s36.mono (fun x hx => hx) (by omega))
              have hL6 : LV H6 n0 n6 idL x3 L := by
                rcases hL3 with c1 | ⟨c1, c2, c3⟩
                · exact .inl c1
                · have gi : idL ≠ n + 2 ∧ idL ≠ n + 2 + 1 := by
                    rcases hL with c4 | ⟨_, c4, _⟩
                    · obtain ⟨v, r, c5, _⟩ := c3
                      rw [c4.1] at c5; cases c5
                    · omega
                  exact .inr ⟨c1, by omega, c3.same (s36 _ c2 (by simp; omega))⟩
              have hLne : ∃ idL2, n0 ≤ idL2 ∧ idL2 ≠ n + 2 ∧ idL2 ≠ n + 2 + 1 ∧ LV H6 n0 n6 idL2 x3 L ∧ (idL2 = idL ∨ n ≤ idL2) := by
                rcases hL with c4 | ⟨c4, c5, _⟩
                · exact ⟨n6 + n + 4, by omega, by omega, by omega, .inl c4, .inr (by omega)⟩
                · exact ⟨idL, c4, by omega, by omega, hL6, .inl rfl⟩
              obtain ⟨idL2, d1, d2, d3, hL6', d4⟩ := hLne
              have condU : ∀ i, i < len → ((D i).uv = .nils ∧ U i = []) ∨ ∃ id, id < n6 ∧ id ≠ idL2 ∧ VW H6 1 id (D i).uv (urows (U i)) := by
                intro i hi
                rcases sto6.uni i hi with c1 | ⟨id, c1, c2, c3⟩
                · exact .inl c1
                · exact .inr ⟨id, by omega, by omega, c3⟩
              obtain ⟨H7, n7, idL7, y3, y11, eu, hL7, hid7, hs7, hn7⟩ := units_all (x0 := .ptr idS 0 7 0 1) (x1 := x1) (x2 := x2) (x3 := x3) (x4 := x4) (x5 := .ptr (n + 1) 0 3 0 0) (x6 := .int .i64 (R p)) (x7 := .int .i64 (R t)) (x10 := y10) (x11 := x11) (x12 := .bool true) (x13 := .bool false) (x14 := .bool false) (x15 := .bool false) (x16 := .bool false) (x17 := .int .i64 ((A (R p)).length : Nat)) (x18 := .int .i64 ((A (R p)).length : Nat)) (x19 := .bool false) (x22 := x22)
                (n0 := n0) rfl h5.symm (show (U (R p)).length < 1000000 by omega) (sto6.flt _ lr) (sto6.flt _ lk) (condU _ lr) (condU _ lk) hL6' hX6 hY6 (by omega) (by omega) (by omega) (Ne.symm d2) (Ne.symm d3) (by omega)
              have hrun := eq_join (x1 := x1) (x2 := x2) (x3 := x3) (x4 := x4) (x5 := .ptr (n + 1) 0 3 0 0) (x8 := x8) (x9 := x9) (x10 := x10) (x11 := x11) (x12 := .bool true) (x13 := x13) (x14 := x14) (x15 := x15) (x16 := x16) (x17 := x17) (x18 := x18) (x19 := x19) (x20 := x20) (x21 := x21) (x22 := x22) (y3 := y3) (y10 := y10) (y11 := y11) (H6 := H6) (H7 := H7) (n6 := n6) (n7 := n7)
                hrk hv1 hv2 hS3 hN3 (show idS < n + 2 by omega) (show idN < n + 2 by omega) dSN lr lk hr hk (sto3.alen lr) (sto3.alen lk) (sto3.ulen lr) (sto3.ulen lk) (by rw [h4, h5]; exact ⟨h1, h2, h3, rfl, rfl⟩) (by rw [hset, hH5]; exact ea) hX6 eu
              have s37 : Same [idS, idN, idP] n0 H3 H7 := (s36.mono (fun x hx => hx) (by omega)).step hs7 (fun x hx => by simp at hx; omega) (by omega)
              have hlq : q6.length = q1.length + (A (R p)).length := by
                have := hp6.length_eq
                simp only [List.length_map, List.length_append, List.length_zip] at this
                omega
              refine next (hstep.trans (by rw [hrun]; rfl)) (P' := upd P2 (R p) (R t)) (R' := joinR R (R p) (R t)) (rk' := fun j => if R j = R p then rk j + rk (R t) + 1 else rk j) (q' := q6) (idL' := idL7) (L' := L ++ (U (R p)).zip (U (R t))) (cnt' := cnt + (A (R p)).length) (wv' := wv6)
                ⟨?_, ?_, ?_, hu2.join lr lk Pr Pk hrk, hL7, by omega, by omega, sto3.same s37, ?_, ?_, by omega, by omega, ?_⟩ (by omega) (hs03.trans s37 (Nat.le_refl _)) (by omega)
              · rw [hs7 _ (by omega) (by simp; omega)]; exact hS6
              · rw [hs7 _ (by omega) (by simp; omega), hs6 _ (by omega) (by simp [Ne.symm dSN, dNP])]; exact hN5
              · exact hG6.same (hs7 _ (by omega) (by simp; omega))
              · intro x hx
                have : x.2 ∈ q6.map Prod.snd := List.mem_map_of_mem hx
                rw [hp6.mem_iff, List.mem_append] at this
                rcases this with c1 | c1
                · obtain ⟨z, c2, c3⟩ := List.mem_map.1 c1
                  rw [← c3]; exact qr1 z c2
                · obtain ⟨c2, c3⟩ := List.of_mem_zip (show (x.2.1, x.2.2) ∈ _ from c1)
                  exact ⟨sto.sub _ lr _ c2, sto.sub _ lk _ c3⟩
              · refine inv1.join lp lt lr lk Rr Rk hrk rr (.inl ⟨rfl, rfl⟩) (.inr ⟨hv1, hv2, hh, fun x => ?_, rfl⟩)
                rw [hp6.mem_iff, List.mem_append]
                exact Or.comm
              · simp only [List.length_append, List.length_zip]
                omega
            · obtain ⟨S', H', hc, hsc⟩ := eq_clash (x1 := x1) (x2 := x2) (x3 := x3) (x4 := x4) (x5 := .ptr (n + 1) 0 3 0 0) (x8 := x8) (x9 := x9) (x10 := x10) (x11 := x11) (x12 := .bool true) (x13 := x13) (x14 := x14) (x15 := x15) (x16 := x16) (x17 := x17) (x18 := x18) (x19 := x19) (x20 := x20) (x21 := x21) (x22 := x22)
                hrk hv1 hv2 hS3 hN3 (show idS < n + 2 by omega) (show idN < n + 2 by omega) dSN lr lk hr hk (sto3.alen lr) (sto3.alen lk) (sto3.ulen lr) (sto3.ulen lk) hh
              exact .inr ⟨H', n + 2 + 2, S', codeL_loop_end (hstep.trans (by rw [hc]; rfl)) (by simp), inv1.clash lp lt rr hv1 hv2 hh, hs03.trans (hsc.mono (fun x hx => by simp at hx; simp [hx]) (by omega)) (Nat.le_refl _)⟩
end
structure Shut (len : Nat) (D : Nat → Nd) (A : Nat → List Nat) (U : Nat → List PV) (R : Nat → Nat) : Prop where
  clo : ∀ i j, i < len → j < len → R i = R j → (D i).kind ≠ 1 → (D j).kind ≠ 1 → Head D A U i j ∧ ∀ p ∈ (A i).zip (A j), R p.1 = R p.2
  var : ∀ i, i < len → (D (R i)).kind = 1 → (D i).kind = 1
structure Store (H : Heap) (n idS : Nat) (W : List Nat) (pv nm up pl : PV) (cnt len : Nat) (D : Nat → Nd) (A : Nat → List Nat) (U : Nat → List PV) (P R rk : Nat → Nat) : Prop where
  row : ∃ nv wv, H.get idS = some (srow pv nv wv (.int .i64 cnt) nm up pl) ∧
    ((len = 0 ∧ nv = .nils) ∨ ∃ idN ver, idN ∈ W ∧ nv = .view idN ver 6 0 len none ∧ H.get idN = some (.arr ver 6 (nrows len D P))) ∧
    (wv = .nils ∨ ∃ idP, idP ∈ W ∧ VW H 3 idP wv [])
  own : idS ∈ W
  lt : ∀ x ∈ W, x < n
  ups : Ups len P R rk
  sto : Sto H n W len D A U
section
variable {H : Heap} {n idS len cnt M MU a b : Nat} {W : List Nat} {pv nm up pl : PV} {D : Nat → Nd} {A : Nat → List Nat} {U : Nat → List PV} {P R rk : Nat → Nat}
theorem shut_start (hs : ∀ i, i < len → ∀ a ∈ A i, a < len) (h : Shut len D A U R) : EInv len D A U R a b R [(a, b)] [] where
  clo E h1 h2 _ i j hi hj e k1 k2 := by
    obtain ⟨g1, g2⟩ := h.clo i j hi hj e k1 k2
    refine ⟨g1, fun p hp => ?_⟩
    have e1 := g2 p hp
    obtain ⟨l1, l2⟩ := List.of_mem_zip (show (p.1, p.2) ∈ _ from hp)
    have e2 := h2 _ (hs i hi _ l1)
    have e3 := h2 _ (hs j hj _ l2)
    rw [e1] at e2
    exact h1.trans e2 (h1.symm e3)
  var := h.var
  min E h1 h2 h3 := ⟨h2, fun p hp => by simp at hp; subst hp; exact h3, fun p hp => by simp at hp⟩
  ref _ _ _ _ e := e
  ab E _ _ h := h (a, b) (by simp)
  lu p hp := by simp at hp
theorem shut_end {R' : Nat → Nat} {L : List (PV × PV)} (hu : Ups len P R' rk) (h : EInv len D A U R a b R' [] L) : Shut len D A U R' where
  clo i j hi hj e k1 k2 := h.clo (fun x y => R' x = R' y) ⟨fun _ => rfl, Eq.symm, Eq.trans⟩ (fun x hx => (hu.rr hx).symm) (fun p hp => by simp at hp) i j hi hj e k1 k2
  var := h.var
theorem shut_ab {R' : Nat → Nat} {L : List (PV × PV)} (hu : Ups len P R' rk) (h : EInv len D A U R a b R' [] L) : R' a = R' b :=
  h.ab (fun x y => R' x = R' y) ⟨fun _ => rfl, Eq.symm, Eq.trans⟩ (fun x hx => (hu.rr hx).symm) (fun p hp => by simp at hp)
def Gave (H : Heap) (v : PV) (L : List (PV × PV)) : Prop := (v = .nils ∧ L = []) ∨ ∃ id, VW H 2 id v (L.map lrow)
theorem Sto.wider {W' : List Nat} {n' : Nat} (h : Sto H n W len D A U) (hw : ∀ x ∈ W', x ∈ W ∨ n ≤ x) (hn : n ≤ n') : Sto H n' W' len D A U where
  arg i hi := by
    rcases h.arg i hi with h1 | ⟨id, h1, h2, h3⟩
    · exact .inl h1
    · exact .inr ⟨id, by omega, fun hm => by rcases hw _ hm with e | e; exact h2 e; omega, h3⟩
  uni i hi := by
    rcases h.uni i hi with h1 | ⟨id, h1, h2, h3⟩
    · exact .inl h1
    · exact .inr ⟨id, by omega, fun hm => by rcases hw _ hm with e | e; exact h2 e; omega, h3⟩
  sub := h.sub
  flt := h.flt
theorem equal_run (st : Store H n idS W pv nm up pl cnt len D A U P R rk) (hsh : Shut len D A U R) (ha : a < len) (hb : b < len) (hl : len < 1000000)
    (mA : ∀ i, i < len → (A i).length ≤ M) (mU : ∀ i, i < len → (U i).length ≤ MU) (hM : M < 1000000) (hMU : MU < 1000000) (b1 : len * M < 900000000) (b2 : cnt + len * M < 900000000000) (b3 : len * MU < 900000000) :
    (∃ (H' : Heap) (n' cnt' : Nat) (W' : List Nat) (P' R' rk' : Nat → Nat) (y : PV) (L : List (PV × PV)), Gf 72 [.ptr idS 0 7 0 1, .int .i64 a, .int .i64 b] H n = some (.tup [y, .bool true], H', n') ∧
      Store H' n' idS W' pv nm up pl cnt' len D A U P' R' rk' ∧ Shut len D A U R' ∧ EInv len D A U R a b R' [] L ∧ Gave H' y L ∧ Same W n H H' ∧ (∀ x ∈ W', x ∈ W ∨ n ≤ x) ∧ n ≤ n' ∧ cnt' ≤ cnt + 1 + len * M ∧ L.length ≤ len * MU) ∨
    (∃ (H' : Heap) (n' : Nat), Gf 72 [.ptr idS 0 7 0 1, .int .i64 a, .int .i64 b] H n = some (.tup [.nils, .bool false], H', n') ∧ (¬ ∃ E, Cong len D A U E ∧ (∀ i, i < len → E i (R i)) ∧ E a b) ∧ Same W n H H') := by
  obtain ⟨⟨nv, wv, hS, hnv, hwv⟩, own, lt, ups, sto⟩ := st
  rcases hnv with ⟨h0, _⟩ | ⟨idN, ver, hNW, rfl, hN⟩
  · omega
  have dSN : idS ≠ idN := by rintro rfl; rw [hS] at hN; cases hN
  have hr1 := Nat.mul_le_mul_right M (roots_le (len := len) (R := R))
  have hr2 := Nat.mul_le_mul_right MU (roots_le (len := len) (R := R))
  -- the first pair is laid
  have first : ∃ (H1 : Heap) (n1 : Nat) (wv1 : PV) (idP : Nat), Gf 130 [.ptr idS 0 7 0 1, .int .i64 a, .int .i64 b] H n = some (.tup [], H1, n1) ∧
      H1.get idS = some (srow pv (.view idN ver 6 0 len none) wv1 (.int .i64 (cnt + 1 : Nat)) nm up pl) ∧ VW H1 3 idP wv1 ([(cnt, a, b)].map prow) ∧ Same W n H H1 ∧ (idP ∈ W ∨ n ≤ idP) ∧ idP < n1 ∧ n ≤ n1 ∧ H1.get idN = H.get idN ∧ idP ≠ idS ∧ idP ≠ idN := by
    rcases hwv with rfl | ⟨idP, hPW, hG⟩
    · obtain ⟨H1, wv1, e1, g1, g2, g3⟩ := lay_first (a := a) (b := b) hS (lt _ own) (by omega)
      have := lt _ hNW
      have := lt _ own
      exact ⟨H1, n + 2, wv1, n + 1, e1, g1, g2, g3.mono (fun x hx => by simp at hx; subst hx; exact own) (Nat.le_refl n), .inr (by omega), by omega, by omega, g3 _ (by omega) (by simp [Ne.symm dSN]), by omega, by omega⟩
    · have dSP : idS ≠ idP := by
        rintro rfl
        obtain ⟨v, r, _, g⟩ := hG
        rw [hS] at g; cases g
      have dNP : idN ≠ idP := by
        rintro rfl
        obtain ⟨v, r, _, g⟩ := hG
        rw [hN] at g; cases g
      obtain ⟨H1, wv1, q1, e1, g1, g2, g3, g4⟩ := lay_pair (a := a) (b := b) (q := []) hS hG dSP (lt _ own) (lt _ hPW) (by simp) (by omega)
      have hq : q1 = [(cnt, a, b)] := List.perm_singleton.1 g2
      subst hq
      exact ⟨H1, n + 1, wv1, idP, e1, g1, g3, g4.mono (fun x hx => by simp at hx; rcases hx with rfl | rfl; exact own; exact hPW) (Nat.le_refl n), .inl hPW, by have := lt _ hPW; omega, by omega, g4 _ (lt _ hNW) (by simp [Ne.symm dSN, dNP]), Ne.symm dSP, Ne.symm dNP⟩
  obtain ⟨H1, n1, wv1, idP, e1, hS1, hG1, hs1, hidP, lP, ln, hN1, dPS, dPN⟩ := first
  have lS := lt _ own
  have lN := lt _ hNW
  have hw3 : ∀ x ∈ [idS, idN, idP], x ∈ W ∨ n ≤ x := by
    intro x hx
    simp at hx
    rcases hx with rfl | rfl | rfl
    · exact .inl own
    · exact .inl hNW
    · exact hidP
  have F : EqFix idS idN idP len n1 M MU (1 + roots len R * M) (cnt + 1 + roots len R * M) (roots len R * MU) A U :=
    ⟨dSN, Ne.symm dPS, Ne.symm dPN, by omega, by omega, lP, by omega, mA, mU, hM, hMU, by omega, by omega, by omega⟩
  have st1 : EqSt idS idN idP ver len n1 M MU (1 + roots len R * M) (cnt + 1 + roots len R * M) (roots len R * MU) a b pv nm up pl D A U R H1 n1 (cnt + 1) wv1 P R rk [(cnt, a, b)] n1 .nils [] :=
    ⟨hS1, hN1.trans hN, hG1, ups, .inl ⟨rfl, rfl⟩, Nat.le_refl _, Nat.le_refl _, (sto.same hs1).wider hw3 ln, fun p hp => by simp at hp; subst hp; exact ⟨ha, hb⟩, shut_start sto.sub hsh, by simp, by omega, by simp⟩
  rcases equal_loop F _ H1 n1 (cnt + 1) wv1 P R rk [(cnt, a, b)] n1 .nils [] (.int .i64 a) (.int .i64 b) (.bool false) (.tup []) (.tup []) (.tup []) (.tup []) (.tup []) (.tup []) (.tup []) (.tup []) (.tup []) (.tup []) (.tup []) (.tup []) (.tup []) (.tup []) (.tup []) (.tup []) (.tup []) (.tup []) rfl st1 with
    ⟨H', n', cnt', wv', P', R', rk', idL', y3, L', T, g1, ⟨i1, i2, i3, i4, i5, i6, i7, i8, i9, i10, i11, i12, i13⟩, g3, g4⟩ | ⟨H', n', T, g1, g2, g3⟩
  · refine .inl ⟨H', n', cnt', idP :: W, P', R', rk', y3, L', ?_, ⟨⟨_, _, i1, .inr ⟨idN, ver, by simp [hNW], rfl, i2⟩, .inr ⟨idP, by simp, i3⟩⟩, by simp [own], ?_, i4, ?_⟩, shut_end i4 i10, i10, ?_, ?_, ?_, by omega, ?_, ?_⟩
    · simp only [eqS] at g1
      rw [R_72]
      simp (disch := omega) only [go_sem, G_72, e1, g1]
    · intro x hx
      rcases List.mem_cons.1 hx with rfl | hx
      · omega
      · have := lt _ hx; omega
    · have hw4 : ∀ x ∈ idP :: W, x ∈ W ∨ n ≤ x := by
        intro x hx
        rcases List.mem_cons.1 hx with rfl | hx
        · exact hidP
        · exact .inl hx
      exact ((sto.same hs1).wider (W' := idP :: W) hw4 ln |>.same (g3.mono (fun x hx => by simp at hx; rcases hx with rfl | rfl | rfl <;> simp [own, hNW]) (Nat.le_refl _))).wider (fun x hx => .inl hx) g4
    · rcases i5 with c1 | ⟨_, _, c3⟩
      · exact .inl c1
      · exact .inr ⟨idL', c3⟩
    · exact hs1.step g3 hw3 ln
    · intro x hx
      rcases List.mem_cons.1 hx with rfl | hx
      · exact hidP
      · exact .inl hx
    · omega
    · omega
  · refine .inr ⟨H', n', ?_, g2, hs1.step g3 hw3 ln⟩
    simp only [eqS] at g1
    rw [R_72]
    simp (disch := omega) only [go_sem, G_72, e1, g1]
end
abbrev Ents := List (PV × PV × Nat)
def IKeys (es : Ents) : Prop := ∀ e ∈ es, ∃ k : Int, e.1 = .int .i64 k
def imGet : Ents → Int → Option PV
  | [], _ => none
  | (.int .i64 k, v, _) :: r, j => if k = j then some v else imGet r j
  | _ :: r, j => imGet r j
def imSet : Ents → Int → PV → Nat → Ents
  | [], j, w, c => [(.int .i64 j, w, c)]
  | (.int .i64 k, v, b) :: r, j, w, c => if k = j then (.int .i64 j, w, b) :: r else (.int .i64 k, v, b) :: imSet r j w c
  | e :: r, j, w, c => e :: imSet r j w c
def imClock (es : Ents) (j : Int) (c : Nat) : Nat := if (imGet es j).isSome then c else c + 1
theorem imGet_nil (j : Int) : imGet [] j = none := rfl
theorem imGet_cons (k : Int) (v : PV) (b : Nat) (r : Ents) (j : Int) : imGet ((.int .i64 k, v, b) :: r) j = if k = j then some v else imGet r j := rfl
theorem imSet_cons (k : Int) (v : PV) (b : Nat) (r : Ents) (j : Int) (w : PV) (c : Nat) : imSet ((.int .i64 k, v, b) :: r) j w c = if k = j then (.int .i64 j, w, b) :: r else (.int .i64 k, v, b) :: imSet r j w c := rfl
theorem IKeys.tail {e : PV × PV × Nat} {es : Ents} (h : IKeys (e :: es)) : IKeys es := fun x hx => h x (List.mem_cons_of_mem _ hx)
theorem IKeys.nil : IKeys [] := fun e he => by simp at he
theorem IKeys.head {k v : PV} {b : Nat} {es : Ents} (h : IKeys ((k, v, b) :: es)) : ∃ j : Int, k = .int .i64 j := h _ List.mem_cons_self
theorem imSet_keys : ∀ {es : Ents} (_ : IKeys es) (j : Int) (w : PV) (c : Nat), IKeys (imSet es j w c)
  | [], _, j, w, c => fun e he => by simp [imSet] at he; exact ⟨j, by rw [he]⟩
  | (k, v, b) :: r, h, j, w, c => by
    obtain ⟨i, rfl⟩ := h.head
    rw [imSet_cons]
    split
    · intro e he
      rcases List.mem_cons.1 he with rfl | he
      · exact ⟨j, rfl⟩
      · exact h.tail e he
    · intro e he
      rcases List.mem_cons.1 he with rfl | he
      · exact ⟨i, rfl⟩
      · exact imSet_keys h.tail j w c e he
theorem imGet_set : ∀ {es : Ents} (_ : IKeys es) (j : Int) (w : PV) (c : Nat) (i : Int), imGet (imSet es j w c) i = if i = j then some w else imGet es i
  | [], _, j, w, c, i => by
    simp only [imSet, imGet_cons, imGet_nil]
    by_cases e : j = i
    · simp [e]
    · simp [e, Ne.symm e]
  | (k, v, b) :: r, h, j, w, c, i => by
    obtain ⟨x, rfl⟩ := h.head
    rw [imSet_cons]
    by_cases e : x = j
    · subst e
      simp only [if_true, imGet_cons]
      by_cases e2 : x = i
      · simp [e2]
      · simp [e2, Ne.symm e2]
    · simp only [e, if_false, imGet_cons, imGet_set h.tail j w c i]
      by_cases e2 : x = i
      · subst e2; simp [e]
      · simp [e2]
theorem findKey_im : ∀ {es : Ents} (_ : IKeys es) (j : Int) (i : Nat), findKey .int (.int .i64 j) es i = some (match es.findIdx? (fun e => match e.1 with | .int .i64 k => k == j | _ => false) with | some t => some (i + t) | none => none)
  | [], _, j, i => rfl
  | (k, v, b) :: r, h, j, i => by
    obtain ⟨x, rfl⟩ := h.head
    simp only [findKey, keyEq, if_true, List.findIdx?_cons]
    by_cases e : j = x
    · subst e; simp
    · have e1 : (j == x) = false := by simp [e]
      have e2 : (x == j) = false := by simp [Ne.symm e]
      simp only [e1, e2, findKey_im h.tail j (i + 1)]
      cases List.findIdx? (fun e => match e.1 with | .int .i64 k => k == j | _ => false) r with
      | none => simp
      | some t => simp; omega
theorem findIn_some : ∀ {es : Ents} (_ : IKeys es) (j : Int), (∃ v, imGet es j = some v) → ∃ t, findIn .int (.int .i64 j) es = some (some t) ∧ some (es.getD t (.any, .any, 0)).2.1 = imGet es j ∧ ∀ w c, es.set t (.int .i64 j, w, (es.getD t (.any, .any, 0)).2.2) = imSet es j w c
  | [], _, j, ⟨v, h⟩ => by simp [imGet] at h
  | (k, v, b) :: r, h, j, hv => by
    obtain ⟨x, rfl⟩ := h.head
    by_cases e : x = j
    · subst e
      refine ⟨0, ?_, ?_, ?_⟩
      · simp [findIn, keyOk, findKey, keyEq]
      · simp [imGet_cons]
      · intro w c; simp [imSet_cons]
    · have hv' : ∃ v, imGet r j = some v := by rw [imGet_cons, if_neg e] at hv; exact hv
      obtain ⟨t, h1, h2, h3⟩ := findIn_some h.tail j hv'
      refine ⟨t + 1, ?_, ?_, ?_⟩
      · simp only [findIn, keyOk, if_true] at h1 ⊢
        rw [findKey_im h.tail] at h1
        rw [findKey_im h]
        have e2 : (x == j) = false := by simp [e]
        simp only [List.findIdx?_cons, e2]
        cases hq : List.findIdx? (fun e => match e.1 with | .int .i64 k => k == j | _ => false) r with
        | none => rw [hq] at h1; simp at h1
        | some y => rw [hq] at h1; simp at h1 ⊢; omega
      · rw [imGet_cons, if_neg e]; simpa using h2
      · intro w c
        rw [imSet_cons, if_neg e, ← h3 w c]
        simp
theorem findIn_none : ∀ {es : Ents} (_ : IKeys es) (j : Int), imGet es j = none → findIn .int (.int .i64 j) es = some none ∧ ∀ w c, es ++ [(.int .i64 j, w, c)] = imSet es j w c
  | [], _, j, _ => ⟨rfl, fun w c => rfl⟩
  | (k, v, b) :: r, h, j, hv => by
    obtain ⟨x, rfl⟩ := h.head
    rw [imGet_cons] at hv
    by_cases e : x = j
    · simp [e] at hv
    · rw [if_neg e] at hv
      obtain ⟨h1, h2⟩ := findIn_none h.tail j hv
      refine ⟨?_, fun w c => ?_⟩
      · simp only [findIn, keyOk, if_true] at h1 ⊢
        rw [findKey_im h.tail] at h1
        rw [findKey_im h]
        have e2 : (x == j) = false := by simp [e]
        simp only [List.findIdx?_cons, e2]
        cases hq : List.findIdx? (fun e => match e.1 with | .int .i64 k => k == j | _ => false) r with
        | none => rfl
        | some y => rw [hq] at h1; simp at h1
      · rw [imSet_cons, if_neg e, ← h2 w c]
        rfl
section
variable {es : Ents} {j : Int} {zero w : PV} {id clock : Nat} {H : Heap} {n : Nat}
@[go_sem] theorem lookupV_map (ck : CK) (key : PV) (c : Bool) (H : Heap) (n : Nat) (id : Nat) : lookupV ck zero key c H n (.map id) = lookO ck zero key c id H n (H.get id) := rfl
@[go_sem] theorem mapSetV_map (ck : CK) (key v : PV) (H : Heap) (n : Nat) (id : Nat) : mapSetV ck key v H n (.map id) = mapSetO ck id key v H n (H.get id) := rfl
theorem lookO_im (h : IKeys es) (H : Heap) (n : Nat) (j : Int) : lookO .int zero (.int .i64 j) false id H n (some (.map es clock)) = some ⟨(imGet es j).getD zero, H, n, ⟨[id], [], false⟩⟩ := by
  cases hg : imGet es j with
  | none => simp only [lookO, (findIn_none h j hg).1, lookF, Bool.false_eq_true, if_false, Option.getD_none]
  | some v =>
    obtain ⟨t, h1, h2, _⟩ := findIn_some h j ⟨v, hg⟩
    rw [hg] at h2
    simp only [lookO, h1, lookF, Bool.false_eq_true, if_false, Option.getD_some, Option.some.inj h2]
theorem lookO_im2 (h : IKeys es) (H : Heap) (n : Nat) (j : Int) : lookO .int zero (.int .i64 j) true id H n (some (.map es clock)) = some ⟨.tup [(imGet es j).getD zero, .bool (imGet es j).isSome], H, n, ⟨[id], [], false⟩⟩ := by
  cases hg : imGet es j with
  | none => simp only [lookO, (findIn_none h j hg).1, lookF, if_true, Option.getD_none, Option.isSome_none]
  | some v =>
    obtain ⟨t, h1, h2, _⟩ := findIn_some h j ⟨v, hg⟩
    rw [hg] at h2
    simp only [lookO, h1, lookF, if_true, Option.getD_some, Option.some.inj h2, Option.isSome_some]
theorem mapSetO_im (h : IKeys es) (H : Heap) (n : Nat) (j : Int) (w : PV) : mapSetO .int id (.int .i64 j) w H n (some (.map es clock)) = some ⟨.tup [], H.set id (.map (imSet es j w clock) (imClock es j clock)), n, ⟨[], [id], false⟩⟩ := by
  cases hg : imGet es j with
  | none =>
    obtain ⟨h1, h2⟩ := findIn_none h j hg
    simp only [mapSetO, h1, mapSetF, h2, imClock, hg, Option.isSome_none, Bool.false_eq_true, if_false]
  | some v =>
    obtain ⟨t, h1, _, h3⟩ := findIn_some h j ⟨v, hg⟩
    simp only [mapSetO, h1, mapSetF, h3 w clock, imClock, hg, Option.isSome_some, if_true]
end
def ext {α : Type} (f : Nat → α) (len : Nat) (v : α) : Nat → α := fun i => if i = len then v else f i
theorem ext_at {α : Type} (f : Nat → α) (len : Nat) (v : α) : ext f len v len = v := by simp [ext]
theorem ext_lt {α : Type} (f : Nat → α) {len : Nat} (v : α) {i : Nat} (h : i < len) : ext f len v i = f i := by simp [ext]; omega
section
variable {H : Heap} {n idS len cnt : Nat} {W : List Nat} {pv nm up pl : PV} {D : Nat → Nd} {A : Nat → List Nat} {U : Nat → List PV} {P R rk : Nat → Nat}
theorem nrows_ext (d : Nd) : nrows len D P ++ [nrow d len] = nrows (len + 1) (ext D len d) (ext P len len) := by
  rw [← nrows_snoc, ext_at, ext_at]
  congr 1
  exact nrows_congr (fun i hi => (ext_lt D d hi).symm) (fun i hi => (ext_lt P len hi).symm)
theorem Ups.ext (h : Ups len P R rk) : Ups (len + 1) (ext P len len) (ext R len len) (ext rk len 0) := by
  intro i hi
  by_cases e : i = len
  · subst e
    simp only [ext_at]
    exact ⟨by omega, by omega, trivial, trivial, fun _ => trivial, fun h => absurd rfl h⟩
  · have hi' : i < len := by omega
    obtain ⟨h1, h2, h3, h4, h5, h6⟩ := h i hi'
    rw [ext_lt _ _ hi', ext_lt _ _ hi', ext_lt _ _ hi', ext_lt _ _ h2, ext_lt _ _ h1, ext_lt _ _ h1]
    exact ⟨by omega, by omega, h3, h4, h5, h6⟩
def PartA (H : Heap) (n : Nat) (W : List Nat) (av : PV) (As : List Nat) : Prop := (av = .nils ∧ As = []) ∨ ∃ id, id < n ∧ id ∉ W ∧ VW H 1 id av (irows As)
def PartU (H : Heap) (n : Nat) (W : List Nat) (uv : PV) (Us : List PV) : Prop := (uv = .nils ∧ Us = []) ∨ ∃ id, id < n ∧ id ∉ W ∧ VW H 1 id uv (urows Us)
theorem PartA.same {H' : Heap} {av : PV} {As : List Nat} (h : PartA H n W av As) (hs : Same W n H H') {n' : Nat} {W' : List Nat} (hw : ∀ x ∈ W', x ∈ W ∨ n ≤ x) (hn : n ≤ n') : PartA H' n' W' av As := by
  rcases h with h | ⟨id, h1, h2, h3⟩
  · exact .inl h
  · exact .inr ⟨id, by omega, fun hm => by rcases hw _ hm with e | e; exact h2 e; omega, h3.same (hs _ h1 h2)⟩
theorem PartU.same {H' : Heap} {av : PV} {As : List PV} (h : PartU H n W av As) (hs : Same W n H H') {n' : Nat} {W' : List Nat} (hw : ∀ x ∈ W', x ∈ W ∨ n ≤ x) (hn : n ≤ n') : PartU H' n' W' av As := by
  rcases h with h | ⟨id, h1, h2, h3⟩
  · exact .inl h
  · exact .inr ⟨id, by omega, fun hm => by rcases hw _ hm with e | e; exact h2 e; omega, h3.same (hs _ h1 h2)⟩
theorem Sto.ext (h : Sto H n W len D A U) {d : Nd} {As : List Nat} {Us : List PV} (ha : PartA H n W d.av As) (hu : PartU H n W d.uv Us) (hs : ∀ a ∈ As, a < len) (hf : ∀ u ∈ Us, flat u = true) :
    Sto H n W (len + 1) (Vm.ext D len d) (Vm.ext A len As) (Vm.ext U len Us) where
  arg i hi := by
    by_cases e : i = len
    · subst e; simp only [ext_at]; exact ha
    · have hi' : i < len := by omega
      rw [ext_lt _ _ hi', ext_lt _ _ hi']; exact h.arg i hi'
  uni i hi := by
    by_cases e : i = len
    · subst e; simp only [ext_at]; exact hu
    · have hi' : i < len := by omega
      rw [ext_lt _ _ hi', ext_lt _ _ hi']; exact h.uni i hi'
  sub i hi a ha' := by
    by_cases e : i = len
    · subst e; simp only [ext_at] at ha'; have := hs a ha'; omega
    · have hi' : i < len := by omega
      rw [ext_lt _ _ hi'] at ha'; have := h.sub i hi' a ha'; omega
  flt i hi u hu' := by
    by_cases e : i = len
    · subst e; simp only [ext_at] at hu'; exact hf u hu'
    · have hi' : i < len := by omega
      rw [ext_lt _ _ hi'] at hu'; exact h.flt i hi' u hu'
theorem make_run (st : Store H n idS W pv nm up pl cnt len D A U P R rk) (d : Nd) {As : List Nat} {Us : List PV} (ha : PartA H n W d.av As) (hu : PartU H n W d.uv Us) (hs : ∀ a ∈ As, a < len) (hf : ∀ u ∈ Us, flat u = true) (hl : len < 1000000) :
    ∃ (H' : Heap) (n' : Nat) (W' : List Nat), Gf 127 [.ptr idS 0 7 0 1, .int .i64 d.kind, .int .i64 d.num, .str d.name, d.av, d.uv] H n = some (.int .i64 len, H', n') ∧
      Store H' n' idS W' pv nm up pl cnt (len + 1) (ext D len d) (ext A len As) (ext U len Us) (ext P len len) (ext R len len) (ext rk len 0) ∧ Same W n H H' ∧ (∀ x ∈ W', x ∈ W ∨ n ≤ x) ∧ n ≤ n' := by
  have hwv := st.row
  obtain ⟨⟨nv, wv, hS, hnv, hwv⟩, own, lt, ups, sto⟩ := st
  have lS := lt _ own
  have ea : ∀ {x : PV} {As : List Nat}, PartA H n W x As → x.cells? = some [x] := by
    intro x As h
    rcases h with ⟨rfl, _⟩ | ⟨_, _, _, _, _, rfl, _⟩ <;> rfl
  have eu : ∀ {x : PV} {As : List PV}, PartU H n W x As → x.cells? = some [x] := by
    intro x As h
    rcases h with ⟨rfl, _⟩ | ⟨_, _, _, _, _, rfl, _⟩ <;> rfl
  have ca := ea ha
  have cu := eu hu
  -- what remains is the same for both
  have fin : ∀ (H' : Heap) (n' : Nat) (W' : List Nat) (idN ver : Nat), H'.get idS = some (srow pv (.view idN ver 6 0 (len + 1) none) wv (.int .i64 cnt) nm up pl) → H'.get idN = some (.arr ver 6 (nrows (len + 1) (ext D len d) (ext P len len))) →
      Same W n H H' → (∀ x ∈ W', x ∈ W ∨ n ≤ x) → (∀ x ∈ W, x ∈ W') → idN ∈ W' → (∀ x ∈ W', x < n') → n ≤ n' → (∀ idP, idP ∈ W → VW H 3 idP wv [] → H'.get idP = H.get idP) →
      Store H' n' idS W' pv nm up pl cnt (len + 1) (ext D len d) (ext A len As) (ext U len Us) (ext P len len) (ext R len len) (ext rk len 0) := by
    intro H' n' W' idN ver h1 h2 h3 h4 h5 h6 h7 h8 h9
    refine ⟨⟨_, wv, h1, .inr ⟨idN, ver, h6, rfl, h2⟩, ?_⟩, h5 _ own, h7, ups.ext, ((sto.ext ha hu hs hf).same h3).wider h4 h8⟩
    rcases hwv with c | ⟨idP, c1, c2⟩
    · exact .inl c
    · exact .inr ⟨idP, h5 _ c1, c2.same (h9 _ c1 c2)⟩
  rcases hnv with ⟨h0, rfl⟩ | ⟨idN, ver, hNW, rfl, hN⟩
  · subst h0
    refine ⟨((H.set n (.arr 0 6 [nrow d 0])).set (n + 1) (.arr 0 6 [nrow d 0])).set idS (srow pv (.view (n + 1) 0 6 0 1 none) wv (.int .i64 cnt) nm up pl), n + 2, (n + 1) :: W, ?_, fin _ _ _ (n + 1) 0 (get_same _ _ _) ?_ ?_ ?_ ?_ ?_ ?_ ?_ ?_, ?_, ?_, by omega⟩
    · rw [R_127]
      simp (disch := omega) only [go_sem, Nat.reduceAdd, Nat.reduceMul, Nat.reduceLeDiff, Nat.reduceBEq, Nat.reduceLT, G_127, hS, ca, cu, get_same, get_other, nrow, elems, List.drop_zero, List.take_succ_cons, List.take_zero]
      rfl
    · rw [get_other _ _ (by omega), get_same]; simp [nrows, ext]
    · exact ((Same.refl _ _ _).set _ (.inr (by omega))).set _ (.inr (by omega)) |>.set _ (.inl own)
    · intro x hx; rcases List.mem_cons.1 hx with rfl | hx; exact .inr (by omega); exact .inl hx
    · intro x hx; simp [hx]
    · simp
    · intro x hx; rcases List.mem_cons.1 hx with rfl | hx; omega; have := lt _ hx; omega
    · omega
    · intro idP h1 h2
      have := lt _ h1
      have hne : idS ≠ idP := by rintro rfl; obtain ⟨v, r, _, g⟩ := h2; rw [hS] at g; cases g
      rw [get_other _ _ hne, get_other _ _ (by omega), get_other _ _ (by omega)]
    · exact ((Same.refl _ _ _).set _ (.inr (by omega))).set _ (.inr (by omega)) |>.set _ (.inl own)
    · intro x hx; rcases List.mem_cons.1 hx with rfl | hx; exact .inr (by omega); exact .inl hx
  · have lN := lt _ hNW
    have dSN : idS ≠ idN := by rintro rfl; rw [hS] at hN; cases hN
    have hnl : (nrows len D P).length = len := nrows_length len D P
    refine ⟨((H.set n (.arr 0 6 [nrow d len])).set idN (.arr (ver + 1) 6 (nrows len D P ++ [nrow d len]))).set idS (srow pv (.view idN (ver + 1) 6 0 (len + 1) none) wv (.int .i64 cnt) nm up pl), n + 1, W, ?_, fin _ _ _ idN (ver + 1) (get_same _ _ _) ?_ ?_ ?_ ?_ hNW ?_ ?_ ?_, ?_, ?_, by omega⟩
    · rw [R_127]
      have e3 : ((len + 1 : Nat) : Int) - 1 = (len : Int) := by omega
      simp (disch := omega) only [go_sem, Nat.reduceAdd, Nat.reduceMul, Nat.reduceLeDiff, Nat.reduceBEq, Nat.reduceLT, G_127, hS, hN, ca, cu, get_same, get_other, nrow, elems, List.drop_zero, List.take_succ_cons, List.take_zero, e3]
    · rw [get_other _ _ dSN, get_same, nrows_ext]
    · exact ((Same.refl _ _ _).set _ (.inr (by omega))).set _ (.inl hNW) |>.set _ (.inl own)
    · intro x hx; exact .inl hx
    · intro x hx; exact hx
    · intro x hx; have := lt _ hx; omega
    · omega
    · intro idP h1 h2
      have := lt _ h1
      have hne : idS ≠ idP := by rintro rfl; obtain ⟨v, r, _, g⟩ := h2; rw [hS] at g; cases g
      have hne2 : idN ≠ idP := by rintro rfl; obtain ⟨v, r, _, g⟩ := h2; rw [hN] at g; cases g
      rw [get_other _ _ hne, get_other _ _ hne2, get_other _ _ (by omega)]
    · exact ((Same.refl _ _ _).set _ (.inr (by omega))).set _ (.inl hNW) |>.set _ (.inl own)
    · intro x hx; exact .inl hx
end
inductive Fin' (A : Nat → List Nat) (R : Nat → Nat) : Nat → Prop
  | mk (r : Nat) : (∀ a ∈ A r, Fin' A R (R a)) → Fin' A R r
structure Mk (es : Ents) (mk : Nat → Nat) : Prop where
  keys : IKeys es
  get : ∀ i : Nat, imGet es i = if mk i = 0 then none else some (.int .i64 (mk i))
  le : ∀ i, mk i ≤ 2
theorem Mk.look {es : Ents} {mk : Nat → Nat} (h : Mk es mk) (i : Nat) : (imGet es i).getD (.int .i64 0) = .int .i64 (mk i) := by
  rw [h.get]
  split
  · rename_i e; rw [e]; rfl
  · rfl
theorem Mk.put {es : Ents} {mk : Nat → Nat} (h : Mk es mk) (i v c : Nat) (hv : v ≤ 2) (h0 : v ≠ 0) : Mk (imSet es i (.int .i64 v) c) (upd mk i v) where
  keys := imSet_keys h.keys _ _ _
  get j := by
    rw [imGet_set h.keys]
    by_cases e : j = i
    · subst e; simp [upd_self, h0]
    · have : ¬ ((j : Int) = (i : Int)) := by omega
      rw [if_neg this, upd_ne _ _ e, h.get]
  le j := by
    by_cases e : j = i
    · subst e; rw [upd_self]; exact hv
    · rw [upd_ne _ _ e]; exact h.le j
def unmarked (len : Nat) (mk : Nat → Nat) : Nat := (List.range len).countP fun i => mk i == 0
theorem unmarked_le {len : Nat} {mk mk' : Nat → Nat} (h : ∀ j, mk j ≠ 0 → mk' j = mk j) : unmarked len mk' ≤ unmarked len mk := by
  unfold unmarked
  apply List.countP_mono_left
  intro i _ hi
  simp only [beq_iff_eq] at hi ⊢
  exact Decidable.byContradiction fun h2 => h2 (by rw [← hi, h i h2])
theorem unmarked_lt {len : Nat} {mk : Nat → Nat} {i v : Nat} (hi : i < len) (h0 : mk i = 0) (hv : v ≠ 0) : unmarked len (upd mk i v) < unmarked len mk := by
  unfold unmarked
  have : ∀ l : List Nat, l.countP (fun j => upd mk i v j == 0) + (if i ∈ l then 1 else 0) ≤ l.countP (fun j => mk j == 0) := by
    intro l
    induction l with
    | nil => simp
    | cons x l ih =>
      simp only [List.countP_cons]
      by_cases e : x = i
      · subst e
        have e1 : (upd mk x v x == 0) = false := by rw [upd_self]; simp [hv]
        simp only [e1, h0, beq_self_eq_true, if_true, List.mem_cons, true_or]
        split at ih <;> simp <;> omega
      · have hm : (i ∈ x :: l) ↔ i ∈ l := by simp [Ne.symm e]
        simp only [hm, upd_ne _ _ e]
        omega
  have h2 := this (List.range len)
  simp only [List.mem_range, hi, if_true] at h2
  omega
section
variable {n idS idN idK ver len : Nat} {pv wv c0 nm up pl : PV} {D : Nat → Nd} {A : Nat → List Nat} {U : Nat → List PV} {R rk : Nat → Nat}
theorem ring_closure {H H' : Heap} {n' nf nk a : Nat} {b : PV} (hf : H.get nf = some (.arr 0 1 [[.ptr idS 0 7 0 1]])) (hm : H.get nk = some (.arr 0 1 [[.map idK]])) (h : Gf 134 [.ptr idS 0 7 0 1, .int .i64 a, .map idK] H n = some (b, H', n')) :
    Gf 190 [.int .i64 a, .ptr nf 0 1 0 0, .ptr nk 0 1 0 0] H n = some (b, H', n') := by
  rw [R_190]
  simp (disch := omega) only [go_sem, G_190, hf, hm, h]
def RingOut (idS idN idK ver len : Nat) (pv wv c0 nm up pl : PV) (D : Nat → Nd) (A : Nat → List Nat) (R rk : Nat → Nat) (W : List Nat) (i : Nat) (mk : Nat → Nat) (H : Heap) (n : Nat) (r : Option (PV × Heap × Nat)) : Prop :=
  ∃ (b : Bool) (mk' : Nat → Nat) (es' : Ents) (clock' : Nat) (H' : Heap) (n' : Nat) (P' : Nat → Nat), r = some (.bool b, H', n') ∧ H'.get idK = some (.map es' clock') ∧ Mk es' mk' ∧
    H'.get idS = some (srow pv (.view idN ver 6 0 len none) wv c0 nm up pl) ∧ H'.get idN = some (.arr ver 6 (nrows len D P')) ∧ Ups len P' R rk ∧ Same [idN, idK] n H H' ∧ n ≤ n' ∧
    (∀ j, mk j ≠ 0 → mk' j = mk j) ∧
    (b = false → (∀ j, mk' j = 1 → mk j = 1) ∧ mk' (R i) = 2 ∧ ((∀ r, mk r = 2 → Fin' A R r) → ∀ r, mk' r = 2 → Fin' A R r)) ∧
    (∀ dep : Nat → Nat, (∀ r, r < len → R r = r → ∀ a ∈ A r, dep (R a) < dep r) → (∀ o, mk o = 1 → dep (R i) < dep o) → b = false)
def LoopR (b : Bool) (S f x2 : PV) (H' : Heap) (n' : Nat) (r : Option (Ex × St)) : Prop :=
  (b = true ∧ ∃ (j : Nat) (T : List PV), r = some (.ret, ⟨[S, f, .int .i64 (j : Nat)] ++ T, H', n'⟩)) ∨ (b = false ∧ ∃ T : List PV, r = some (.exit 0, ⟨[S, f, x2] ++ T, H', n'⟩))
theorem ring_args {u ida nf nk : Nat} {av : PV} {As : List Nat} (hAs : ∀ a ∈ As, a < len) (hAl : As.length < 1000000) (hfN : nf ≠ idN) (hfK : nf ≠ idK) (hkN : nk ≠ idN) (hkK : nk ≠ idK) (haN : ida ≠ idN) (haK : ida ≠ idK) {W : List Nat}
    (ih : ∀ (a : Nat) (mk : Nat → Nat) (es : Ents) (clock : Nat) (H : Heap) (n : Nat) (P : Nat → Nat), unmarked len mk < u → a < len → H.get idK = some (.map es clock) → Mk es mk → H.get idS = some (srow pv (.view idN ver 6 0 len none) wv c0 nm up pl) →
      H.get idN = some (.arr ver 6 (nrows len D P)) → Ups len P R rk → Sto H n W len D A U → (∀ x ∈ W, x < n) → idK < n → RingOut idS idN idK ver len pv wv c0 nm up pl D A R rk W a mk H n (Gf 134 [.ptr idS 0 7 0 1, .int .i64 a, .map idK] H n))
    (hNW : idN ∈ W) (hKW : idK ∈ W) :
    ∀ (d t : Nat) (mk : Nat → Nat) (es : Ents) (clock : Nat) (H : Heap) (n : Nat) (P : Nat → Nat) (x2 x3 x6 x7 : PV), As.length - t = d → t ≤ As.length → unmarked len mk < u → H.get idK = some (.map es clock) → Mk es mk →
      H.get idS = some (srow pv (.view idN ver 6 0 len none) wv c0 nm up pl) → H.get idN = some (.arr ver 6 (nrows len D P)) → Ups len P R rk → Sto H n W len D A U → (∀ x ∈ W, x < n) → idK < n → nf < n → nk < n → ida < n →
      H.get nf = some (.arr 0 1 [[.ptr idS 0 7 0 1]]) → H.get nk = some (.arr 0 1 [[.map idK]]) → VW H 1 ida av (irows As) →
      ∃ (b : Bool) (mk' : Nat → Nat) (es' : Ents) (clock' : Nat) (H' : Heap) (n' : Nat) (P' : Nat → Nat),
        LoopR b av (.func 190 [] [.ptr nf 0 1 0 0, .ptr nk 0 1 0 0]) x2 H' n' (codeL Gf (.loop B_230_0) ⟨[av, .func 190 [] [.ptr nf 0 1 0 0, .ptr nk 0 1 0 0], x2, x3, .int .i64 As.length, .int .i64 t, x6, x7], H, n⟩) ∧ H'.get idK = some (.map es' clock') ∧ Mk es' mk' ∧
        H'.get idS = some (srow pv (.view idN ver 6 0 len none) wv c0 nm up pl) ∧ H'.get idN = some (.arr ver 6 (nrows len D P')) ∧ Ups len P' R rk ∧ Same [idN, idK] n H H' ∧ n ≤ n' ∧
        (∀ j, mk j ≠ 0 → mk' j = mk j) ∧
        (b = false → (∀ j, mk' j = 1 → mk j = 1) ∧ (∀ a ∈ As.drop t, mk' (R a) = 2) ∧ ((∀ r, mk r = 2 → Fin' A R r) → ∀ r, mk' r = 2 → Fin' A R r)) ∧
        (∀ dep : Nat → Nat, (∀ r, r < len → R r = r → ∀ a ∈ A r, dep (R a) < dep r) → (∀ o, mk o = 1 → ∀ a ∈ As.drop t, dep (R a) < dep o) → b = false) := by
  intro d
  induction d with
  | zero =>
    intro t mk es clock H n P x2 x3 x6 x7 hd ht hu hK hMk hS hN hUps hSto hW l1 l2 l3 l4 hf hk hV
    have e : t = As.length := by omega
    subst e
    refine ⟨false, mk, es, clock, H, n, P, .inr ⟨rfl, [x3, .int .i64 As.length, .int .i64 As.length, .bool false, x7], codeL_loop_end ?_ (by simp)⟩, hK, hMk, hS, hN, hUps, .refl _ _ _, Nat.le_refl _, fun _ _ => rfl, fun _ => ⟨fun _ h => h, by simp, fun h => h⟩, fun _ _ _ => rfl⟩
    simp (disch := omega) only [go_sem, B_230_0]
  | succ d ihd =>
    intro t mk es clock H n P x2 x3 x6 x7 hd ht hu hK hMk hS hN hUps hSto hW l1 l2 l3 l4 hf hk hV
    obtain ⟨va, ra, rfl, hHA⟩ := id hV
    have eA : (irows As).length = As.length := by simp [irows]
    have htA : t < As.length := by omega
    have hra := irows_at htA ra
    obtain ⟨b1, mk1, es1, clock1, H1, n1, P1, r1, r2, r3, r4, r5, r6, r7, r8, r9, r10, r11⟩ := ih As[t] mk es clock H n P hu (hAs _ (List.getElem_mem _)) hK hMk hS hN hUps hSto hW l1
    have hc := ring_closure (n := n) hf hk r1
    have hdrop : As.drop t = As[t] :: As.drop (t + 1) := List.drop_eq_getElem_cons htA
    cases b1 with
    | true =>
      refine ⟨true, mk1, es1, clock1, H1, n1, P1, .inl ⟨rfl, t, [.int .i64 t, .int .i64 As.length, .int .i64 t, .bool true, .bool true], codeL_loop_end ?_ (by simp)⟩, r2, r3, r4, r5, r6, r7, r8, r9, fun h => (by cases h), fun dep h1 h2 => ?_⟩
      · rw [eA]
        simp (disch := omega) only [go_sem, B_230_0, hHA, hra, hc]
      · exact r11 dep h1 (fun o ho => h2 o ho As[t] (by rw [hdrop]; exact List.mem_cons_self))
    | false =>
      obtain ⟨q1, q2, q3⟩ := r10 rfl
      have hu1 : unmarked len mk1 < u := Nat.lt_of_le_of_lt (unmarked_le r9) hu
      obtain ⟨b, mk', es', clock', H', n', P', s1, s2, s3, s4, s5, s6, s7, s8, s9, s10, s11⟩ := ihd (t + 1) mk1 es1 clock1 H1 n1 P1 x2 (.int .i64 t) (.bool true) (.bool false) (by omega) (by omega) hu1 r2 r3 r4 r5 r6 ((hSto.same (r7.mono (fun x hx => by simp at hx; rcases hx with rfl | rfl; exact hNW; exact hKW) (Nat.le_refl n))).wider (fun x hx => .inl hx) r8) (fun x hx => by have := hW x hx; omega) (by omega) (by omega) (by omega) (by omega)
        (by rw [r7 _ l2 (by simp [hfN, hfK])]; exact hf) (by rw [r7 _ l3 (by simp [hkN, hkK])]; exact hk) (hV.same (r7 _ l4 (by simp [haN, haK])))
      refine ⟨b, mk', es', clock', H', n', P', ?_, s2, s3, s4, s5, s6, r7.trans s7 r8, by omega, fun j hj => by rw [s9 j (by rw [r9 j hj]; exact hj), r9 j hj], fun hb => ?_, fun dep h1 h2 => ?_⟩
      · have hstep : codeL Gf B_230_0 ⟨[.view ida va 1 0 (irows As).length none, .func 190 [] [.ptr nf 0 1 0 0, .ptr nk 0 1 0 0], x2, x3, .int .i64 As.length, .int .i64 t, x6, x7], H, n⟩ =
            some (.normal, ⟨[.view ida va 1 0 (irows As).length none, .func 190 [] [.ptr nf 0 1 0 0, .ptr nk 0 1 0 0], x2, .int .i64 t, .int .i64 As.length, .int .i64 (t + 1 : Nat), .bool true, .bool false], H1, n1⟩) := by
          rw [eA]
          simp (disch := omega) only [go_sem, B_230_0, hHA, hra, hc, cast_add1]
        rw [codeL_loop_iff hstep]
        exact s1
      · obtain ⟨t1, t2, t3⟩ := s10 hb
        refine ⟨fun j hj => q1 j (t1 j hj), ?_, fun h => t3 (q3 h)⟩
        rw [hdrop]
        intro a ha
        rcases List.mem_cons.1 ha with rfl | ha
        · rw [s9 _ (by omega)]; exact q2
        · exact t2 a ha
      · exact s11 dep h1 (fun o ho a ha => h2 o (q1 o ho) a (by rw [hdrop]; exact List.mem_cons_of_mem _ ha))
theorem ring_run {W : List Nat} (dSN : idS ≠ idN) (dSK : idS ≠ idK) (dNK : idN ≠ idK) (hNW : idN ∈ W) (hSW : idS ∈ W) (hKW : idK ∈ W) (hl : len < 1000000) (mA : ∀ i, i < len → (A i).length < 1000000) :
    ∀ (u i : Nat) (mk : Nat → Nat) (es : Ents) (clock : Nat) (H : Heap) (n : Nat) (P : Nat → Nat), unmarked len mk = u → i < len → H.get idK = some (.map es clock) → Mk es mk → H.get idS = some (srow pv (.view idN ver 6 0 len none) wv c0 nm up pl) →
      H.get idN = some (.arr ver 6 (nrows len D P)) → Ups len P R rk → Sto H n W len D A U → (∀ x ∈ W, x < n) → idK < n → RingOut idS idN idK ver len pv wv c0 nm up pl D A R rk W i mk H n (Gf 134 [.ptr idS 0 7 0 1, .int .i64 i, .map idK] H n) := by
  intro u
  induction u using Nat.strongRecOn with
  | ind u ih =>
    intro i mk es clock H n P hu hi hK hMk hS hN hUps hSto hW l1
    have lS := hW _ hSW
    have lN := hW _ hNW
    -- the boxes
    generalize hB : (H.set n (.arr 0 1 [[.ptr idS 0 7 0 1]])).set (n + 1) (.arr 0 1 [[.map idK]]) = HB
    have sB : Same [idN, idK] n H HB := by rw [← hB]; exact ((Same.refl _ _ _).set _ (.inr (by omega))).set _ (.inr (by omega))
    have hfB : HB.get n = some (.arr 0 1 [[.ptr idS 0 7 0 1]]) := by rw [← hB, get_other _ _ (by omega), get_same]
    have hkB : HB.get (n + 1) = some (.arr 0 1 [[.map idK]]) := by rw [← hB, get_same]
    have hSB : HB.get idS = some (srow pv (.view idN ver 6 0 len none) wv c0 nm up pl) := by rw [← hB, get_other _ _ (by omega), get_other _ _ (by omega)]; exact hS
    have hNB : HB.get idN = some (.arr ver 6 (nrows len D P)) := by rw [← hB, get_other _ _ (by omega), get_other _ _ (by omega)]; exact hN
    have hKB : HB.get idK = some (.map es clock) := by rw [← hB, get_other _ _ (by omega), get_other _ _ (by omega)]; exact hK
    obtain ⟨P1, H1, e1, hU1, hN1, hS1', hs1⟩ := find_run (n := n + 2) dSN (by omega) hSB hNB hUps hi
    have hS1 := hS1'.trans hSB
    have hK1 : H1.get idK = some (.map es clock) := by rw [hs1 _ (by omega) (by simp [Ne.symm dNK])]; exact hKB
    have hf1 : H1.get n = some (.arr 0 1 [[.ptr idS 0 7 0 1]]) := by rw [hs1 _ (by omega) (by simp; omega)]; exact hfB
    have hk1 : H1.get (n + 1) = some (.arr 0 1 [[.map idK]]) := by rw [hs1 _ (by omega) (by simp; omega)]; exact hkB
    have s1 : Same [idN, idK] n H H1 := sB.step hs1 (fun x hx => by simp at hx; simp [hx]) (by omega)
    have lr : R i < len := (hU1 i hi).2.1
    have Rr : R (R i) = R i := hU1.rr hi
    have hlook := hMk.look (R i)
    by_cases hm : mk (R i) = 0
    · -- it is opened
      have hMk2 := hMk.put (R i) 1 clock (by decide) (by decide)
      have hu2 : unmarked len (upd mk (R i) 1) < u := by rw [← hu]; exact unmarked_lt lr hm (by decide)
      generalize hC : H1.set idK (.map (imSet es (R i) (.int .i64 (1 : Nat)) clock) (imClock es (R i) clock)) = HC
      have hKC : HC.get idK = some (.map (imSet es (R i) (.int .i64 (1 : Nat)) clock) (imClock es (R i) clock)) := by rw [← hC, get_same]
      have hSC : HC.get idS = some (srow pv (.view idN ver 6 0 len none) wv c0 nm up pl) := by rw [← hC, get_other _ _ (Ne.symm dSK)]; exact hS1
      have hNC : HC.get idN = some (.arr ver 6 (nrows len D P1)) := by rw [← hC, get_other _ _ (Ne.symm dNK)]; exact hN1
      have hfC : HC.get n = some (.arr 0 1 [[.ptr idS 0 7 0 1]]) := by rw [← hC, get_other _ _ (by omega)]; exact hf1
      have hkC : HC.get (n + 1) = some (.arr 0 1 [[.map idK]]) := by rw [← hC, get_other _ _ (by omega)]; exact hk1
      have sC : Same [idN, idK] n H HC := by rw [← hC]; exact s1.set _ (.inl (by simp))
      have hStoC : Sto HC (n + 2) W len D A U := (hSto.same (sC.mono (fun x hx => by simp at hx; rcases hx with rfl | rfl; exact hNW; exact hKW) (Nat.le_refl n))).wider (fun x hx => .inl hx) (by omega)
      have hrow := nrows_at D P1 lr
      simp only [nrow] at hrow
      have c1 : ((mk (R i) : Int) != 0) = false := bne_f (by omega)
      have c0' : (1 : Int) = ((1 : Nat) : Int) := rfl
      -- what the parts come to
      have parts : ∃ (b : Bool) (mk' : Nat → Nat) (es' : Ents) (clock' : Nat) (H' : Heap) (n' : Nat) (P' : Nat → Nat),
          Gf 189 [(D (R i)).av, .func 190 [] [.ptr n 0 1 0 0, .ptr (n + 1) 0 1 0 0]] HC (n + 2) = some (.bool b, H', n') ∧ H'.get idK = some (.map es' clock') ∧ Mk es' mk' ∧
          H'.get idS = some (srow pv (.view idN ver 6 0 len none) wv c0 nm up pl) ∧ H'.get idN = some (.arr ver 6 (nrows len D P')) ∧ Ups len P' R rk ∧ Same [idN, idK] (n + 2) HC H' ∧ n + 2 ≤ n' ∧
          (∀ j, upd mk (R i) 1 j ≠ 0 → mk' j = upd mk (R i) 1 j) ∧
          (b = false → (∀ j, mk' j = 1 → upd mk (R i) 1 j = 1) ∧ (∀ a ∈ A (R i), mk' (R a) = 2) ∧ ((∀ r, upd mk (R i) 1 r = 2 → Fin' A R r) → ∀ r, mk' r = 2 → Fin' A R r)) ∧
          (∀ dep : Nat → Nat, (∀ r, r < len → R r = r → ∀ a ∈ A r, dep (R a) < dep r) → (∀ o, upd mk (R i) 1 o = 1 → ∀ a ∈ A (R i), dep (R a) < dep o) → b = false) := by
        rcases hStoC.arg _ lr with ⟨g1, g2⟩ | ⟨ida, g1, g2, g3⟩
        · rw [g1, g2]
          refine ⟨false, _, _, _, HC, n + 2, P1, ?_, hKC, hMk2, hSC, hNC, hU1, .refl _ _ _, Nat.le_refl _, fun _ _ => rfl, fun _ => ⟨fun _ h => h, fun a ha => by simp at ha, fun h => h⟩, fun _ _ _ => rfl⟩
          have hend : codeL Gf (.loop B_230_0) ⟨[.nils, .func 190 [] [.ptr n 0 1 0 0, .ptr (n + 1) 0 1 0 0], .int .i64 0, .tup [], .int .i64 0, .int .i64 0, .tup [], .tup []], HC, n + 2⟩ =
              some (.exit 0, ⟨[.nils, .func 190 [] [.ptr n 0 1 0 0, .ptr (n + 1) 0 1 0 0], .int .i64 0, .tup [], .int .i64 0, .int .i64 0, .bool false, .tup []], HC, n + 2⟩) :=
            codeL_loop_end (by simp (disch := omega) only [go_sem, Int.reduceLT, B_230_0]) (by simp)
          have h230 : Gf 230 [.nils, .func 190 [] [.ptr n 0 1 0 0, .ptr (n + 1) 0 1 0 0]] HC (n + 2) = some (.int .i64 (-1), HC, n + 2) := by
            rw [R_230]
            simp (disch := omega) only [go_sem, Int.reduceNeg, G_230, hend]
          rw [R_189]
          simp (disch := omega) only [go_sem, Int.reduceNeg, G_189, h230]
        · have g2' : ida ≠ idN ∧ ida ≠ idK := ⟨fun e => g2 (e ▸ hNW), fun e => g2 (e ▸ hKW)⟩
          obtain ⟨va, ra, hav, _⟩ := id g3
          have eA : (irows (A (R i))).length = (A (R i)).length := by simp [irows]
          obtain ⟨b, mk', es', clock', H', n', P', t1, t2, t3, t4, t5, t6, t7, t8, t9, t10, t11⟩ := ring_args (u := u) (nf := n) (nk := n + 1) (ida := ida) (av := (D (R i)).av) (As := A (R i)) (hSto.sub _ lr) (mA _ lr) (show n ≠ idN by omega) (show n ≠ idK by omega) (show n + 1 ≠ idN by omega) (show n + 1 ≠ idK by omega) g2'.1 g2'.2
            (fun a mk es clock H n P hlt ha q1 q2 q3 q4 q5 q6 q7 q8 => ih _ hlt a mk es clock H n P rfl ha q1 q2 q3 q4 q5 q6 q7 q8) hNW hKW _ 0 (upd mk (R i) 1) _ _ HC (n + 2) P1 (.int .i64 0) (.tup []) (.tup []) (.tup []) rfl (Nat.zero_le _) hu2 hKC hMk2 hSC hNC hU1 hStoC (fun x hx => by have := hW x hx; omega) (by omega) (by omega) (by omega) g1 hfC hkC g3
          rw [List.drop_zero] at t10 t11
          refine ⟨b, mk', es', clock', H', n', P', ?_, t2, t3, t4, t5, t6, t7, t8, t9, t10, t11⟩
          have h230 : ∃ z : Int, Gf 230 [(D (R i)).av, .func 190 [] [.ptr n 0 1 0 0, .ptr (n + 1) 0 1 0 0]] HC (n + 2) = some (.int .i64 z, H', n') ∧ (decide (z ≥ 0) = b) := by
            rw [hav] at t1 ⊢
            rcases t1 with ⟨rfl, j, T, t1⟩ | ⟨rfl, T, t1⟩
            · refine ⟨j, ?_, by simp⟩
              rw [eA] at t1 ⊢
              rw [show ((0 : Nat) : Int) = 0 from rfl] at t1
              rw [R_230]
              simp (disch := omega) only [go_sem, Int.reduceNeg, G_230, t1]
            · refine ⟨-1, ?_, by simp⟩
              rw [eA] at t1 ⊢
              rw [show ((0 : Nat) : Int) = 0 from rfl] at t1
              rw [R_230]
              simp (disch := omega) only [go_sem, Int.reduceNeg, G_230, t1]
          obtain ⟨z, h230, hz⟩ := h230
          rw [R_189]
          simp (disch := omega) only [go_sem, G_189, h230, hz]
      obtain ⟨b, mk', es', clock', H', n', P', t1, t2, t3, t4, t5, t6, t7, t8, t9, t10, t11⟩ := parts
      have hfk : (imSet es (R i) (.int .i64 1) clock) = (imSet es (R i) (.int .i64 (1 : Nat)) clock) := rfl
      have dep1 : ∀ dep : Nat → Nat, (∀ r, r < len → R r = r → ∀ a ∈ A r, dep (R a) < dep r) → (∀ o, mk o = 1 → dep (R i) < dep o) → b = false := by
        intro dep h1 h2
        refine t11 dep h1 (fun o ho a ha => ?_)
        have hd := h1 _ lr Rr a ha
        by_cases e : o = R i
        · rw [e]; exact hd
        · rw [upd_ne _ _ e] at ho
          have := h2 o ho
          omega
      have s2 : Same [idN, idK] n H H' := sC.step t7 (fun x hx => .inl hx) (by omega)
      have mono : ∀ j, mk j ≠ 0 → mk' j = mk j := by
        intro j hj
        have e : j ≠ R i := fun e => hj (by rw [e]; exact hm)
        have := t9 j (by rw [upd_ne _ _ e]; exact hj)
        rw [this, upd_ne _ _ e]
      have hf2 : H'.get n = some (.arr 0 1 [[.ptr idS 0 7 0 1]]) := by rw [t7 _ (by omega) (by simp; omega)]; exact hfC
      have hk2 : H'.get (n + 1) = some (.arr 0 1 [[.map idK]]) := by rw [t7 _ (by omega) (by simp; omega)]; exact hkC
      cases b with
      | true =>
        refine ⟨true, mk', es', clock', H', n', P', ?_, t2, t3, t4, t5, t6, s2, by omega, mono, fun h => (by cases h), fun dep h1 h2 => dep1 dep h1 h2⟩
        rw [R_134]
        simp (disch := omega) only [go_sem, G_134, hB, hfB, e1, hk1, hK1, lookO_im hMk.keys, hlook, c1, mapSetO_im hMk.keys, c0', hC, hfC, hSC, hNC, hrow, t1]
      | false =>
        obtain ⟨w1, w2, w3⟩ := t10 rfl
        have hr1 : mk' (R i) = 1 := by rw [t9 _ (by rw [upd_self]; decide), upd_self]
        have hMk3 := t3.put (R i) 2 clock' (by decide) (by decide)
        refine ⟨false, upd mk' (R i) 2, imSet es' (R i) (.int .i64 (2 : Nat)) clock', imClock es' (R i) clock', H'.set idK (.map (imSet es' (R i) (.int .i64 (2 : Nat)) clock') (imClock es' (R i) clock')), n', P', ?_, get_same _ _ _, hMk3, ?_, ?_, t6, s2.set _ (.inl (by simp)), by omega, ?_, fun _ => ⟨?_, ?_, ?_⟩, fun _ _ _ => rfl⟩
        · have c2' : (2 : Int) = ((2 : Nat) : Int) := rfl
          rw [R_134]
          simp (disch := omega) only [go_sem, G_134, hB, hfB, e1, hk1, hK1, lookO_im hMk.keys, hlook, c1, mapSetO_im hMk.keys, mapSetO_im t3.keys, c0', c2', hC, hfC, hSC, hNC, hrow, t1, hk2, t2]
        · rw [get_other _ _ (Ne.symm dSK)]; exact t4
        · rw [get_other _ _ (Ne.symm dNK)]; exact t5
        · intro j hj
          have e : j ≠ R i := fun e => hj (by rw [e]; exact hm)
          rw [upd_ne _ _ e]; exact mono j hj
        · intro j hj
          by_cases e : j = R i
          · subst e; rw [upd_self] at hj; omega
          · rw [upd_ne _ _ e] at hj
            have := w1 j hj
            rw [upd_ne _ _ e] at this; exact this
        · rw [upd_self]
        · intro h r hr
          have hfin := w3 (fun r hr => by
            by_cases e : r = R i
            · subst e; rw [upd_self] at hr; omega
            · rw [upd_ne _ _ e] at hr; exact h r hr)
          by_cases e : r = R i
          · subst e; exact .mk _ (fun a ha => hfin _ (w2 a ha))
          · rw [upd_ne _ _ e] at hr; exact hfin r hr
    · -- it bears a mark
      refine ⟨decide (mk (R i) = 1), mk, es, clock, H1, n + 2, P1, ?_, hK1, hMk, hS1, hN1, hU1, s1, by omega, fun _ _ => rfl, fun hb => ⟨fun _ h => h, ?_, fun h => h⟩, fun dep h1 h2 => ?_⟩
      · have c1 : ((mk (R i) : Int) != 0) = true := bne_t (by omega)
        have c2 : ((mk (R i) : Int) == 1) = decide (mk (R i) = 1) := by
          by_cases e : mk (R i) = 1
          · rw [e]; rfl
          · have : ¬ ((mk (R i) : Int) = 1) := by omega
            simp [e, this]
        rw [R_134]
        simp (disch := omega) only [go_sem, G_134, hB, hfB, e1, hk1, hK1, lookO_im hMk.keys, hlook, c1, c2]
      · have := hMk.le (R i)
        have : mk (R i) ≠ 1 := by simpa using hb
        omega
      · rw [decide_eq_false_iff_not]
        intro e
        have := h2 _ e
        omega
theorem ring_store {H : Heap} {cnt : Nat} {W : List Nat} {P : Nat → Nat} {i : Nat} (st : Store H n idS W pv nm up pl cnt len D A U P R rk) (hi : i < len) (hl : len < 1000000) (mA : ∀ i, i < len → (A i).length < 1000000) :
    ∃ (b : Bool) (H' : Heap) (n' : Nat) (P' : Nat → Nat), Gf 74 [.ptr idS 0 7 0 1, .int .i64 i] H n = some (.bool b, H', n') ∧ Store H' n' idS W pv nm up pl cnt len D A U P' R rk ∧ Same W n H H' ∧ n ≤ n' ∧
      (b = false → Fin' A R (R i)) ∧ (∀ dep : Nat → Nat, (∀ r, r < len → R r = r → ∀ a ∈ A r, dep (R a) < dep r) → b = false) := by
  obtain ⟨⟨nv, wv, hS, hnv, hwv⟩, own, lt, ups, sto⟩ := st
  rcases hnv with ⟨h0, _⟩ | ⟨idN, ver, hNW, rfl, hN⟩
  · omega
  have dSN : idS ≠ idN := by rintro rfl; rw [hS] at hN; cases hN
  have lS := lt _ own
  have lN := lt _ hNW
  have s1 : Same W n H (H.set n (.map [] 0)) := (Same.refl _ _ _).set _ (.inr (Nat.le_refl n))
  have hSto : Sto (H.set n (.map [] 0)) (n + 1) (n :: W) len D A U := (sto.same s1).wider (fun x hx => by rcases List.mem_cons.1 hx with rfl | hx; exact .inr (Nat.le_refl _); exact .inl hx) (by omega)
  have hMk : Mk [] (fun _ => 0) := ⟨IKeys.nil, fun i => rfl, fun _ => by omega⟩
  obtain ⟨b, mk', es', clock', H', n', P', r1, r2, r3, r4, r5, r6, r7, r8, r9, r10, r11⟩ := ring_run (W := n :: W) (U := U) dSN (show idS ≠ n by omega) (show idN ≠ n by omega) (by simp [hNW]) (by simp [own]) (by simp) hl mA _ i (fun _ => 0) [] 0 (H.set n (.map [] 0)) (n + 1) P rfl hi (get_same _ _ _) hMk
    (by rw [get_other _ _ (by omega)]; exact hS) (by rw [get_other _ _ (by omega)]; exact hN) ups hSto (fun x hx => by rcases List.mem_cons.1 hx with rfl | hx; omega; have := lt _ hx; omega) (by omega)
  have s2 : Same W n H H' := s1.step r7 (fun x hx => by simp at hx; rcases hx with rfl | rfl; exact .inl hNW; exact .inr (Nat.le_refl _)) (by omega)
  refine ⟨b, H', n', P', ?_, ⟨⟨_, wv, r4, .inr ⟨idN, ver, hNW, rfl, r5⟩, ?_⟩, own, fun x hx => by have := lt _ hx; omega, r6, (sto.same s2).wider (fun x hx => .inl hx) (by omega)⟩, s2, by omega, fun hb => ?_, fun dep h => r11 dep h (fun o ho => by simp at ho)⟩
  · rw [R_74]
    simp (disch := omega) only [go_sem, G_74, r1]
  · rcases hwv with c | ⟨idP, c1, c2⟩
    · exact .inl c
    · refine .inr ⟨idP, c1, c2.same ?_⟩
      have lP := lt _ c1
      have hne : idP ≠ idN := by rintro rfl; obtain ⟨v, r, _, g⟩ := c2; rw [hN] at g; cases g
      rw [r7 _ (by omega) (by simp [hne]; omega), get_other _ _ (by omega)]
  · obtain ⟨_, q2, q3⟩ := r10 hb
    exact q3 (fun r hr => by simp at hr) _ q2
end
inductive Ty where
  | mk (kind num : Int) (name : ByteArray) (args : List Ty) (units : List PV)
def Ty.kind : Ty → Int | .mk k _ _ _ _ => k
def Ty.num : Ty → Int | .mk _ n _ _ _ => n
def Ty.name : Ty → ByteArray | .mk _ _ s _ _ => s
def Ty.args : Ty → List Ty | .mk _ _ _ a _ => a
def Ty.units : Ty → List PV | .mk _ _ _ _ u => u
mutual
def Ty.size : Ty → Nat
  | .mk _ _ _ as us => 1 + us.length + Ty.sizes as
def Ty.sizes : List Ty → Nat
  | [] => 0
  | t :: ts => t.size + Ty.sizes ts
end
theorem Ty.size_mem {t : Ty} : ∀ {l : List Ty}, t ∈ l → t.size ≤ Ty.sizes l
  | [], h => by simp at h
  | x :: l, h => by
    simp only [Ty.sizes]
    rcases List.mem_cons.1 h with rfl | h
    · omega
    · have := Ty.size_mem h; omega
theorem Ty.size_pos (t : Ty) : 0 < t.size := by
  cases t; simp only [Ty.size]; omega
theorem Ty.sizes_len : ∀ l : List Ty, l.length ≤ Ty.sizes l
  | [] => by simp
  | x :: l => by
    have := Ty.sizes_len l
    have := x.size_pos
    simp only [Ty.sizes, List.length_cons]; omega
def UsR (u : PV) (us : List PV) : Prop := ((u = .nils ∧ us = []) ∨ ∃ fl, u = .data 1 (urows us) fl) ∧ ∀ v ∈ us, flat v = true ∧ PV.sameF 1000 v v = true
mutual
inductive TyR : List PV → Ty → Prop
  | mk (k n : Int) (s : ByteArray) (a u : PV) (as : List Ty) (us : List PV) : TysR a as → UsR u us → TyR [.int .i64 k, .int .i64 n, .str s, a, u] (.mk k n s as us)
inductive TysR : PV → List Ty → Prop
  | nil : TysR .nils []
  | data (xs : List (List PV)) (ts : List Ty) (fl : Fl) : TyLR xs ts → TysR (.data 5 xs fl) ts
inductive TyLR : List (List PV) → List Ty → Prop
  | nil : TyLR [] []
  | cons (x : List PV) (xs : List (List PV)) (t : Ty) (ts : List Ty) : TyR x t → TyLR xs ts → TyLR (x :: xs) (t :: ts)
end
theorem TyLR.len : ∀ {xs : List (List PV)} {ts : List Ty}, TyLR xs ts → xs.length = ts.length
  | [], [], _ => rfl
  | _ :: _, _ :: _, .cons _ _ _ _ _ h => by simp [h.len]
theorem TyLR.at : ∀ {xs : List (List PV)} {ts : List Ty}, TyLR xs ts → ∀ i, (h : i < ts.length) → ∃ x, xs[i]? = some x ∧ TyR x ts[i]
  | [], [], _, i, h => by simp at h
  | x :: xs, t :: ts, .cons _ _ _ _ h1 h2, i, h => by
    cases i with
    | zero => exact ⟨x, rfl, h1⟩
    | succ i =>
      obtain ⟨y, e, g⟩ := h2.at i (by simpa using h)
      exact ⟨y, by simpa using e, by simpa using g⟩
theorem TyR.five {x : List PV} {t : Ty} (h : TyR x t) : ∃ a u, x = [.int .i64 t.kind, .int .i64 t.num, .str t.name, a, u] ∧ TysR a t.args ∧ UsR u t.units := by
  cases h with
  | mk k n s a u as us h1 h2 => exact ⟨a, u, rfl, h1, h2⟩
mutual
inductive Rep (len : Nat) (D : Nat → Nd) (A : Nat → List Nat) (U : Nat → List PV) (leaf : Int → Nat) (inn : PV → PV) : Nat → Ty → Prop
  | var (t : Ty) : t.kind = 1 → leaf t.num < len → (D (leaf t.num)).kind = 1 → Rep len D A U leaf inn (leaf t.num) t
  | node (r : Nat) (t : Ty) : t.kind ≠ 1 → r < len → (D r).kind = t.kind → (D r).num = t.num → (D r).name = t.name → U r = t.units.map inn → RepL len D A U leaf inn (A r) t.args → Rep len D A U leaf inn r t
inductive RepL (len : Nat) (D : Nat → Nd) (A : Nat → List Nat) (U : Nat → List PV) (leaf : Int → Nat) (inn : PV → PV) : List Nat → List Ty → Prop
  | nil : RepL len D A U leaf inn [] []
  | cons (a : Nat) (as : List Nat) (t : Ty) (ts : List Ty) : Rep len D A U leaf inn a t → RepL len D A U leaf inn as ts → RepL len D A U leaf inn (a :: as) (t :: ts)
end
structure Grown (len : Nat) (D : Nat → Nd) (A : Nat → List Nat) (U : Nat → List PV) (len' : Nat) (D' : Nat → Nd) (A' : Nat → List Nat) (U' : Nat → List PV) : Prop where
  le : len ≤ len'
  D : ∀ i, i < len → D' i = D i
  A : ∀ i, i < len → A' i = A i
  U : ∀ i, i < len → U' i = U i
section
variable {len len' len'' : Nat} {D D' D'' : Nat → Nd} {A A' A'' : Nat → List Nat} {U U' U'' : Nat → List PV} {leaf : Int → Nat} {inn : PV → PV}
theorem Grown.refl (len : Nat) (D : Nat → Nd) (A : Nat → List Nat) (U : Nat → List PV) : Grown len D A U len D A U := ⟨Nat.le_refl _, fun _ _ => rfl, fun _ _ => rfl, fun _ _ => rfl⟩
theorem Grown.trans (h : Grown len D A U len' D' A' U') (g : Grown len' D' A' U' len'' D'' A'' U'') : Grown len D A U len'' D'' A'' U'' :=
  ⟨Nat.le_trans h.le g.le, fun i hi => (g.D i (by have := h.le; omega)).trans (h.D i hi), fun i hi => (g.A i (by have := h.le; omega)).trans (h.A i hi), fun i hi => (g.U i (by have := h.le; omega)).trans (h.U i hi)⟩
theorem Grown.ext (len : Nat) (D : Nat → Nd) (A : Nat → List Nat) (U : Nat → List PV) (d : Nd) (a : List Nat) (u : List PV) : Grown len D A U (len + 1) (Vm.ext D len d) (Vm.ext A len a) (Vm.ext U len u) :=
  ⟨Nat.le_succ _, fun _ h => ext_lt _ _ h, fun _ h => ext_lt _ _ h, fun _ h => ext_lt _ _ h⟩
mutual
theorem Rep.grown (g : Grown len D A U len' D' A' U') : ∀ {r : Nat} {t : Ty}, Rep len D A U leaf inn r t → Rep len' D' A' U' leaf inn r t
  | _, _, .var t h1 h2 h3 => .var t h1 (Nat.lt_of_lt_of_le h2 g.le) (by rw [g.D _ h2]; exact h3)
  | r, t, .node _ _ h1 h2 h3 h4 h5 h6 h7 => .node r t h1 (Nat.lt_of_lt_of_le h2 g.le) (by rw [g.D r h2]; exact h3) (by rw [g.D r h2]; exact h4) (by rw [g.D r h2]; exact h5) (by rw [g.U r h2]; exact h6) (by rw [g.A r h2]; exact RepL.grown g h7)
theorem RepL.grown (g : Grown len D A U len' D' A' U') : ∀ {rs : List Nat} {ts : List Ty}, RepL len D A U leaf inn rs ts → RepL len' D' A' U' leaf inn rs ts
  | _, _, .nil => .nil
  | _, _, .cons a as t ts h1 h2 => .cons a as t ts (Rep.grown g h1) (RepL.grown g h2)
end
theorem RepL.snoc : ∀ {rs : List Nat} {ts : List Ty} {r : Nat} {t : Ty}, RepL len D A U leaf inn rs ts → Rep len D A U leaf inn r t → RepL len D A U leaf inn (rs ++ [r]) (ts ++ [t])
  | _, _, r, t, .nil, h => .cons r [] t [] h .nil
  | _, _, r, t, .cons a as s ss h1 h2, h => .cons a _ s _ h1 (h2.snoc h)
theorem Rep.lt {r : Nat} {t : Ty} : Rep len D A U leaf inn r t → r < len
  | .var _ _ h _ => h
  | .node _ _ _ h _ _ _ _ _ => h
theorem RepL.lts : ∀ {rs : List Nat} {ts : List Ty}, RepL len D A U leaf inn rs ts → ∀ a ∈ rs, a < len
  | _, _, .nil, a, h => by simp at h
  | _, _, .cons b bs t ts h1 h2, a, h => by
    rcases List.mem_cons.1 h with rfl | h
    · exact h1.lt
    · exact h2.lts a h
theorem RepL.length : ∀ {rs : List Nat} {ts : List Ty}, RepL len D A U leaf inn rs ts → rs.length = ts.length
  | _, _, .nil => rfl
  | _, _, .cons _ _ _ _ _ h => by simp [h.length]
end
theorem app1 {k bytes n : Nat} {v : PV} {rows : List (List PV)} {row : List PV} {H : Heap} (h : (v = .nils ∧ rows = []) ∨ ∃ id, VW H k id v rows ∧ id < n) (hb : (rows.length + 1) * bytes ≤ 140737488355328) :
    ∃ (v' : PV) (H' : Heap) (n' w : Nat), appendV k bytes v [row] [] H n = some ⟨v', H', n', ⟨[], [w], false⟩⟩ ∧ VW H' k w v' (rows ++ [row]) ∧ (∀ j, j ≠ w → H'.get j = H.get j) ∧ w < n' ∧ n ≤ n' ∧ (w = n ∨ VW H k w v rows) := by
  rcases h with ⟨rfl, rfl⟩ | ⟨id, ⟨ver, rest, rfl, hH⟩, hid⟩
  · refine ⟨.view n 0 k 0 1 none, H.set n (.arr 0 k [row]), n + 1, n, appendV_nils k bytes [] H n row (by simpa using hb), ⟨0, [], by simp, by rw [get_same]; simp⟩, fun j hj => get_other _ _ (Ne.symm hj), by omega, by omega, .inl rfl⟩
  · cases rest with
    | nil =>
      rw [List.append_nil] at hH
      refine ⟨.view id (ver + 1) k 0 (rows.length + 1) none, H.set id (.arr (ver + 1) k (rows ++ [row])), n, id, ?_, ⟨ver + 1, [], by simp, by rw [get_same]; simp⟩, fun j hj => get_other _ _ (Ne.symm hj), hid, Nat.le_refl _, .inr ⟨ver, [], rfl, by rw [hH]; simp⟩⟩
      rw [appendV_view, hH, appO_grow1 k bytes id ver rows.length [] H n row rows rfl hb]
    | cons r rest =>
      refine ⟨.view id ver k 0 (rows.length + 1) none, H.set id (.arr ver k (rows ++ row :: rest)), n, id, ?_, ⟨ver, rest, by simp, by rw [get_same]; simp⟩, fun j hj => get_other _ _ (Ne.symm hj), hid, Nat.le_refl _, .inr ⟨ver, r :: rest, rfl, hH⟩⟩
      rw [appendV_view, hH, appO_over1 k bytes id ver rows.length [] H n row r rows rest rfl]
def lyS (x0 x1 x2 x3 x4 x5 x6 x7 x8 x9 x10 x11 x12 x13 x14 x15 x16 x17 x18 : PV) : List PV := [x0, x1, x2, x3, x4, x5, x6, x7, x8, x9, x10, x11, x12, x13, x14, x15, x16, x17, x18]
def New (H : Heap) (n0 n k : Nat) (v : PV) (rows : List (List PV)) : Prop := (v = .nils ∧ rows = []) ∨ ∃ id, n0 ≤ id ∧ id < n ∧ VW H k id v rows
section
variable {x0 x1 x2 x4 x5 x6 x7 x9 x10 x11 x12 x13 x14 x15 x18 : PV} {idS : Nat} {inn : PV → PV} {pl : PV}
theorem lay_units {n0 : Nat} {us : List PV} {u : PV} (hu : UsR u us) (hl : us.length < 1000000) {G : Heap → Prop} (hG : ∀ H H' : Heap, G H → (∀ id, id < n0 → H'.get id = H.get id) → G H')
    (hin : ∀ v ∈ us, ∀ (H : Heap) (n : Nat), G H → Gf 75 [.ptr idS 0 7 0 0, v] H n = some (inn v, H, n) ∧ flat (inn v) = true) :
    ∀ (d t : Nat) (H : Heap) (n : Nat) (x8 x9 x18 : PV), us.length - t = d → t ≤ us.length → n0 ≤ n → New H n0 n 1 x8 (urows ((us.take t).map inn)) → G H →
      ∃ (H' : Heap) (n' : Nat) (y8 y9 : PV), codeL Gf (.loop B_132_0) ⟨lyS x0 x1 x2 (.func 75 [.ptr idS 0 7 0 0] []) x4 x5 x6 x7 x8 x9 x10 x11 x12 x13 x14 u (.int .i64 us.length) (.int .i64 t) x18, H, n⟩ =
          some (.exit 2, ⟨lyS x0 x1 x2 (.func 75 [.ptr idS 0 7 0 0] []) x4 x5 x6 x7 y8 y9 x10 x11 x12 x13 x14 u (.int .i64 us.length) (.int .i64 us.length) (.bool false), H', n'⟩) ∧
        New H' n0 n' 1 y8 (urows (us.map inn)) ∧ (∀ id, id < n0 → H'.get id = H.get id) ∧ n ≤ n' := by
  intro d
  induction d with
  | zero =>
    intro t H n x8 x9 x18 hd ht hn hN hGH
    have e : t = us.length := by omega
    subst e
    rw [List.take_length] at hN
    refine ⟨H, n, x8, x9, codeL_loop_end ?_ (by simp), hN, fun _ _ => rfl, Nat.le_refl _⟩
    simp (disch := omega) only [go_sem, B_132_0, lyS]
  | succ d ih =>
    intro t H n x8 x9 x18 hd ht hn hN hGH
    have htl : t < us.length := by omega
    obtain ⟨h1, h2⟩ := hu
    have hu0 : ∃ fl, u = .data 1 (urows us) fl := by
      rcases h1 with ⟨_, h⟩ | h
      · subst h; simp at htl
      · exact h
    obtain ⟨fl, rfl⟩ := hu0
    have hrow : (urows us)[t]? = some [us[t]] := by simpa using urows_at htl []
    have hix : idxAddrV 1 (.data 1 (urows us) fl) (.int .i64 (t : Nat)) = some (.dp fl.isTmp [us[t]] 0) := idxAddr_data 1 _ fl .i64 t _ hrow
    obtain ⟨hc, hf⟩ := hin us[t] (List.getElem_mem _) H n hGH
    have hcell := flat_cells hf
    have hN' : (x8 = .nils ∧ urows ((us.take t).map inn) = []) ∨ ∃ id, VW H 1 id x8 (urows ((us.take t).map inn)) ∧ id < n := by
      rcases hN with h | ⟨id, _, b, c⟩
      · exact .inl h
      · exact .inr ⟨id, c, b⟩
    have hlen : (urows ((us.take t).map inn)).length = t := by simp [urows]; omega
    obtain ⟨v', H1, n1, w, happ, hV, hs, hw, hn1, hwn⟩ := app1 (k := 1) (bytes := 24) (n := n) (row := [inn us[t]]) hN' (by rw [hlen]; omega)
    have hw0 : n0 ≤ w := by
      rcases hwn with rfl | hwn
      · exact hn
      · rcases hN with ⟨rfl, _⟩ | ⟨id, a, _, c⟩
        · obtain ⟨_, _, e, _⟩ := hwn; cases e
        · obtain ⟨_, _, e, _⟩ := hwn
          obtain ⟨_, _, e2, _⟩ := c
          rw [e] at e2; cases e2; exact a
    have hsame : ∀ id, id < n0 → H1.get id = H.get id := fun id hid => hs id (by omega)
    have etake : (us.take (t + 1)).map inn = (us.take t).map inn ++ [inn us[t]] := by rw [List.take_succ_eq_append_getElem htl, List.map_append]; rfl
    obtain ⟨H', n', y8, y9, g1, g2, g3, g4⟩ := ih (t + 1) H1 n1 v' us[t] (.bool true) (by omega) (by omega) (by omega) (.inr ⟨w, hw0, hw, by rw [etake]; simpa [urows] using hV⟩) (hG _ _ hGH hsame)
    refine ⟨H', n', y8, y9, ?_, g2, fun id hid => (g3 id hid).trans (hsame id hid), by omega⟩
    rw [← g1]
    refine codeL_loop_iff ?_
    simp (disch := omega) only [go_sem, Nat.reduceAdd, Nat.reduceBEq, Nat.reduceLT, B_132_0, lyS, hix, hc, hf, hcell, happ, cast_add1]
end
inductive Fit (V : Int → Prop) (Q : PV → Prop) : Ty → Prop
  | var (t : Ty) : t.kind = 1 → V t.num → Fit V Q t
  | node (t : Ty) : t.kind ≠ 1 → t.kind ≠ 8 → (∀ u ∈ t.units, Q u) → (∀ s ∈ t.args, Fit V Q s) → Fit V Q t
structure LayEnv (H : Heap) (n : Nat) (W : List Nat) (idS nb idM : Nat) (es : Ents) (clock : Nat) (pl : PV) (prows : List (List PV)) : Prop where
  hb : H.get nb = some (.arr 0 1 [[.ptr idS 0 7 0 0]])
  lb : nb < n
  wb : nb ∉ W
  hm : H.get idM = some (.map es clock)
  lm : idM < n
  wm : idM ∉ W
  keys : IKeys es
  place : (pl = .nils ∧ prows = []) ∨ ∃ id, id < n ∧ id ∉ W ∧ VW H 2 id pl prows
theorem LayEnv.same {H H' : Heap} {n n' : Nat} {W W' : List Nat} {idS nb idM : Nat} {es : Ents} {clock : Nat} {pl : PV} {prows : List (List PV)} (h : LayEnv H n W idS nb idM es clock pl prows) (hs : Same W n H H') (hw : ∀ x ∈ W', x ∈ W ∨ n ≤ x) (hn : n ≤ n') :
    LayEnv H' n' W' idS nb idM es clock pl prows where
  hb := (hs _ h.lb h.wb).trans h.hb
  lb := by have := h.lb; omega
  wb hm := by have := h.lb; rcases hw _ hm with e | e; exact h.wb e; omega
  hm := (hs _ h.lm h.wm).trans h.hm
  lm := by have := h.lm; omega
  wm hm := by have := h.lm; rcases hw _ hm with e | e; exact h.wm e; omega
  keys := h.keys
  place := by
    rcases h.place with c | ⟨id, c1, c2, c3⟩
    · exact .inl c
    · exact .inr ⟨id, by omega, fun hm => by rcases hw _ hm with e | e; exact c2 e; omega, c3.same (hs _ c1 c2)⟩
def InnOk (idS : Nat) (pv nm up pl : PV) (prows : List (List PV)) (inn : PV → PV) (v : PV) : Prop :=
  ∀ (H : Heap) (n : Nat), (∃ nv wv c0, H.get idS = some (srow pv nv wv c0 nm up pl)) → ((pl = .nils ∧ prows = []) ∨ ∃ id, VW H 2 id pl prows) → Gf 75 [.ptr idS 0 7 0 0, v] H n = some (inn v, H, n) ∧ flat (inn v) = true
structure LayOut (UP : PV → Prop) (idS : Nat) (pv nm up pl : PV) (cnt : Nat) (sz : Nat) (H : Heap) (n : Nat) (W : List Nat) (len : Nat) (D : Nat → Nd) (A : Nat → List Nat) (U : Nat → List PV) (R : Nat → Nat)
    (H' : Heap) (n' : Nat) (W' : List Nat) (len' : Nat) (D' : Nat → Nd) (A' : Nat → List Nat) (U' : Nat → List PV) (P' R' rk' : Nat → Nat) : Prop where
  st : Store H' n' idS W' pv nm up pl cnt len' D' A' U' P' R' rk'
  gr : Grown len D A U len' D' A' U'
  r1 : ∀ i, i < len → R' i = R i
  r2 : ∀ i, len ≤ i → i < len' → R' i = i
  sm : Same W n H H'
  w : ∀ x ∈ W', x ∈ W ∨ n ≤ x
  ln : n ≤ n'
  ll : len' ≤ len + sz
  ba : ∀ i, len ≤ i → i < len' → (A' i).length + (U' i).length ≤ sz
  fx : ∀ X : List Nat, (∀ x ∈ X, x < n) → Sto H n (X ++ W) len D A U → Sto H' n' (X ++ W') len' D' A' U'
  nw : ∀ i, len ≤ i → i < len' → (D' i).kind ≠ 1 ∧ ∀ a ∈ A' i, a < i
  uq : ∀ i, len ≤ i → i < len' → ∀ u ∈ U' i, UP u
section
variable {UP : PV → Prop} {idS : Nat} {pv nm up pl : PV} {cnt sz sz' : Nat} {H H' H'' : Heap} {n n' n'' : Nat} {W W' W'' : List Nat} {len len' len'' : Nat} {D D' D'' : Nat → Nd} {A A' A'' : Nat → List Nat} {U U' U'' : Nat → List PV} {P R rk P' R' rk' P'' R'' rk'' : Nat → Nat}
theorem LayOut.refl (st : Store H n idS W pv nm up pl cnt len D A U P R rk) : LayOut UP idS pv nm up pl cnt 0 H n W len D A U R H n W len D A U P R rk :=
  ⟨st, .refl _ _ _ _, fun _ _ => rfl, fun _ h1 h2 => by omega, .refl _ _ _, fun _ h => .inl h, Nat.le_refl _, by omega, fun _ h1 h2 => by omega, fun _ _ h => h, fun _ h1 h2 => by omega, fun _ h1 h2 => by omega⟩
theorem LayOut.trans (h : LayOut UP idS pv nm up pl cnt sz H n W len D A U R H' n' W' len' D' A' U' P' R' rk') (g : LayOut UP idS pv nm up pl cnt sz' H' n' W' len' D' A' U' R' H'' n'' W'' len'' D'' A'' U'' P'' R'' rk'') :
    LayOut UP idS pv nm up pl cnt (sz + sz') H n W len D A U R H'' n'' W'' len'' D'' A'' U'' P'' R'' rk'' where
  st := g.st
  gr := h.gr.trans g.gr
  r1 i hi := by rw [g.r1 i (by have := h.gr.le; omega), h.r1 i hi]
  r2 i h1 h2 := by
    by_cases e : i < len'
    · rw [g.r1 i e, h.r2 i h1 e]
    · exact g.r2 i (by omega) h2
  sm := h.sm.step g.sm h.w h.ln
  w x hx := by
    rcases g.w x hx with e | e
    · exact h.w x e
    · exact .inr (by have := h.ln; omega)
  ln := by have := h.ln; have := g.ln; omega
  ll := by have := h.ll; have := g.ll; omega
  ba i h1 h2 := by
    by_cases e : i < len'
    · rw [g.gr.A i e, g.gr.U i e]; have := h.ba i h1 e; omega
    · have := g.ba i (by omega) h2; omega
  fx X hX hs := g.fx X (fun x hx => by have := hX x hx; have := h.ln; omega) (h.fx X hX hs)
  nw i h1 h2 := by
    by_cases e : i < len'
    · rw [g.gr.A i e, g.gr.D i e]; exact h.nw i h1 e
    · exact g.nw i (by omega) h2
  uq i h1 h2 := by
    by_cases e : i < len'
    · rw [g.gr.U i e]; exact h.uq i h1 e
    · exact g.uq i (by omega) h2
theorem LayOut.mono (h : LayOut UP idS pv nm up pl cnt sz H n W len D A U R H' n' W' len' D' A' U' P' R' rk') (hz : sz ≤ sz') : LayOut UP idS pv nm up pl cnt sz' H n W len D A U R H' n' W' len' D' A' U' P' R' rk' :=
  ⟨h.st, h.gr, h.r1, h.r2, h.sm, h.w, h.ln, by have := h.ll; omega, fun i h1 h2 => by have := h.ba i h1 h2; omega, h.fx, h.nw, h.uq⟩
theorem LayOut.beside (h : LayOut UP idS pv nm up pl cnt sz H n W len D A U R H' n' W' len' D' A' U' P' R' rk') {H1 : Heap} {n1 w : Nat} (hw : n ≤ w) (hwW : w ∉ W') (hX : Sto H' n' ([w] ++ W') len' D' A' U') (hs : ∀ id, id ≠ w → H1.get id = H'.get id) (hn : n' ≤ n1) :
    LayOut UP idS pv nm up pl cnt sz H n W len D A U R H1 n1 W' len' D' A' U' P' R' rk' := by
  obtain ⟨⟨⟨nv, wv, hS, hnv, hwv⟩, own, lt, ups, sto⟩, gr, r1, r2, sm, w1, ln, ll, ba, fx, nw, uq⟩ := h
  have hne : ∀ x ∈ W', x ≠ w := fun x hx e => hwW (e ▸ hx)
  have sW : Same [w] n' H' H1 := fun id _ h2 => hs id (by simpa using h2)
  refine ⟨⟨⟨nv, wv, by rw [hs _ (hne _ own)]; exact hS, ?_, ?_⟩, own, fun x hx => by have := lt x hx; omega, ups, ?_⟩, gr, r1, r2, fun id h1 h2 => (hs id (by omega)).trans (sm id h1 h2), w1, by omega, ll, ba, fun X hX1 hX2 => ?_, nw, uq⟩
  · rcases hnv with c | ⟨idN, ver, c1, c2, c3⟩
    · exact .inl c
    · exact .inr ⟨idN, ver, c1, c2, (hs _ (hne _ c1)).trans c3⟩
  · rcases hwv with c | ⟨idP, c1, c2⟩
    · exact .inl c
    · exact .inr ⟨idP, c1, c2.same (hs _ (hne _ c1))⟩
  · exact ((hX.same (sW.mono (fun x hx => by simp at hx; simp [hx]) (Nat.le_refl _))).wider (fun x hx => .inl (by simp [hx])) hn)
  · have h3 := fx X hX1 hX2
    exact {
      arg := fun i hi => by
        rcases h3.arg i hi with c | ⟨id, c1, c2, c3⟩
        · exact .inl c
        · rcases hX.arg i hi with d | ⟨id', d1, d2, d3⟩
          · exact .inl d
          · have e : id = id' := by
              obtain ⟨_, _, e1, _⟩ := c3
              obtain ⟨_, _, e2, _⟩ := d3
              rw [e1] at e2; cases e2; rfl
            subst e
            exact .inr ⟨id, by omega, c2, c3.same (hs id (by simp at d2; exact d2.1))⟩
      uni := fun i hi => by
        rcases h3.uni i hi with c | ⟨id, c1, c2, c3⟩
        · exact .inl c
        · rcases hX.uni i hi with d | ⟨id', d1, d2, d3⟩
          · exact .inl d
          · have e : id = id' := by
              obtain ⟨_, _, e1, _⟩ := c3
              obtain ⟨_, _, e2, _⟩ := d3
              rw [e1] at e2; cases e2; rfl
            subst e
            exact .inr ⟨id, by omega, c2, c3.same (hs id (by simp at d2; exact d2.1))⟩
      sub := h3.sub
      flt := h3.flt }
end
def LayArg (UP : PV → Prop) (idS nb idM : Nat) (es : Ents) (clock : Nat) (pv up pl : PV) (cnt len0 : Nat) (prows : List (List PV)) (leaf : Int → Nat) (inn : PV → PV) (t : Ty) : Prop :=
  ∀ (row : List PV) (H : Heap) (n : Nat) (W : List Nat) (len : Nat) (D : Nat → Nd) (A : Nat → List Nat) (U : Nat → List PV) (P R rk : Nat → Nat), TyR row t → len0 ≤ len → (∀ i, i < len0 → (D i).kind = 1) → Store H n idS W pv (.map idM) up pl cnt len D A U P R rk →
    LayEnv H n W idS nb idM es clock pl prows → len + t.size < 1000000 →
    ∃ (r : Nat) (H' : Heap) (n' : Nat) (W' : List Nat) (len' : Nat) (D' : Nat → Nd) (A' : Nat → List Nat) (U' : Nat → List PV) (P' R' rk' : Nat → Nat),
      Gf 132 [.ptr idS 0 7 0 1, .agg row, .func 133 [] [.ptr nb 0 1 0 0], .func 75 [.ptr idS 0 7 0 0] []] H n = some (.int .i64 r, H', n') ∧
      LayOut UP idS pv (.map idM) up pl cnt t.size H n W len D A U R H' n' W' len' D' A' U' P' R' rk' ∧ Rep len' D' A' U' leaf inn r t
section
variable {UP : PV → Prop} {idS nb idM clock cnt len0 : Nat} {es : Ents} {pv up pl : PV} {prows : List (List PV)} {leaf : Int → Nat} {inn : PV → PV} {x1 x4 x5 x8 x9 x10 x15 x16 x17 x18 : PV}
theorem Ty.sizes_take {ts : List Ty} {t : Nat} (h : t < ts.length) : Ty.sizes (ts.take (t + 1)) = Ty.sizes (ts.take t) + ts[t].size := by
  have : ∀ (a : List Ty) (x : Ty), Ty.sizes (a ++ [x]) = Ty.sizes a + x.size := by
    intro a x
    induction a with
    | nil => simp [Ty.sizes]
    | cons y a ih => simp only [List.cons_append, Ty.sizes, ih]; omega
  rw [List.take_succ_eq_append_getElem h, this]
theorem Ty.sizes_take_le (ts : List Ty) : ∀ t, Ty.sizes (ts.take t) ≤ Ty.sizes ts := by
  induction ts with
  | nil => intro t; simp
  | cons x ts ih =>
    intro t
    cases t with
    | zero => simp [Ty.sizes]
    | succ t => simp only [List.take_succ_cons, Ty.sizes]; have := ih t; omega
theorem lay_args {ts : List Ty} {xs : List (List PV)} {fl : Fl} (hts : TyLR xs ts) (hall : ∀ t ∈ ts, LayArg UP idS nb idM es clock pv up pl cnt len0 prows leaf inn t) {H0 : Heap} {n0 : Nat} {W0 : List Nat} {lenS : Nat} {D0 : Nat → Nd} {A0 : Nat → List Nat} {U0 : Nat → List PV} {R0 : Nat → Nat} (hl0 : len0 ≤ lenS) (hD0 : ∀ i, i < len0 → (D0 i).kind = 1)
    (hsz : lenS + Ty.sizes ts < 1000000) (hE : LayEnv H0 n0 W0 idS nb idM es clock pl prows) :
    ∀ (d t : Nat) (H : Heap) (n : Nat) (W : List Nat) (len : Nat) (D : Nat → Nd) (A : Nat → List Nat) (U : Nat → List PV) (P R rk : Nat → Nat) (x6 x7 x14 : PV) (As : List Nat), ts.length - t = d → t ≤ ts.length →
      LayOut UP idS pv (.map idM) up pl cnt (Ty.sizes (ts.take t)) H0 n0 W0 lenS D0 A0 U0 R0 H n W len D A U P R rk → RepL len D A U leaf inn As (ts.take t) →
      ((x6 = .nils ∧ As = []) ∨ ∃ w, n0 ≤ w ∧ w < n ∧ w ∉ W ∧ VW H 1 w x6 (irows As) ∧ Sto H n ([w] ++ W) len D A U) →
      ∃ (H' : Heap) (n' : Nat) (W' : List Nat) (len' : Nat) (D' : Nat → Nd) (A' : Nat → List Nat) (U' : Nat → List PV) (P' R' rk' : Nat → Nat) (y6 y7 : PV) (As' : List Nat),
        codeL Gf (.loop B_132_1) ⟨lyS (.ptr idS 0 7 0 1) x1 (.func 133 [] [.ptr nb 0 1 0 0]) (.func 75 [.ptr idS 0 7 0 0] []) x4 x5 x6 x7 x8 x9 x10 (.data 5 xs fl) (.int .i64 ts.length) (.int .i64 t) x14 x15 x16 x17 x18, H, n⟩ =
          some (.exit 0, ⟨lyS (.ptr idS 0 7 0 1) x1 (.func 133 [] [.ptr nb 0 1 0 0]) (.func 75 [.ptr idS 0 7 0 0] []) x4 x5 y6 y7 x8 x9 x10 (.data 5 xs fl) (.int .i64 ts.length) (.int .i64 ts.length) (.bool false) x15 x16 x17 x18, H', n'⟩) ∧
        LayOut UP idS pv (.map idM) up pl cnt (Ty.sizes ts) H0 n0 W0 lenS D0 A0 U0 R0 H' n' W' len' D' A' U' P' R' rk' ∧ RepL len' D' A' U' leaf inn As' ts ∧
        ((y6 = .nils ∧ As' = []) ∨ ∃ w, n0 ≤ w ∧ w < n' ∧ w ∉ W' ∧ VW H' 1 w y6 (irows As') ∧ Sto H' n' ([w] ++ W') len' D' A' U') := by
  have htl : ts.length ≤ Ty.sizes ts := Ty.sizes_len ts
  intro d
  induction d with
  | zero =>
    intro t H n W len D A U P R rk x6 x7 x14 As hd ht hlo hrep hx6
    have e : t = ts.length := by omega
    subst e
    rw [List.take_length] at hlo hrep
    refine ⟨H, n, W, len, D, A, U, P, R, rk, x6, x7, As, codeL_loop_end ?_ (by simp), hlo, hrep, hx6⟩
    simp (disch := omega) only [go_sem, B_132_1, lyS]
  | succ d ih =>
    intro t H n W len D A U P R rk x6 x7 x14 As hd ht hlo hrep hx6
    have ht' : t < ts.length := by omega
    obtain ⟨row, hrow, hR⟩ := hts.at t ht'
    have hix : idxAddrV 5 (.data 5 xs fl) (.int .i64 (t : Nat)) = some (.dp fl.isTmp row 0) := idxAddr_data 5 _ fl .i64 t _ hrow
    have hstep0 := Ty.sizes_take ht'
    have hle := Ty.sizes_take_le ts (t + 1)
    have hlt := hlo.st.lt
    have hll := hlo.ll
    have hnW : n ∉ W := fun hm => by have := hlt _ hm; omega
    have hn0 := hlo.ln
    -- the box
    have hlo1 := hlo.beside (H1 := H.set n (.arr 0 5 [row])) (n1 := n + 1) (w := n) hn0 hnW (hlo.st.sto.wider (fun x hx => by simp at hx; rcases hx with rfl | hx; exact .inr (Nat.le_refl _); exact .inl hx) (Nat.le_refl _)) (fun id hid => get_other _ _ (Ne.symm hid)) (by omega)
    have hE1 := hE.same hlo1.sm hlo1.w hlo1.ln
    obtain ⟨r, H2, n2, W2, len2, D2, A2, U2, P2, R2, rk2, e1, hlo2, hrep2⟩ := hall ts[t] (List.getElem_mem _) row (H.set n (.arr 0 5 [row])) (n + 1) W len D A U P R rk hR (by have := hlo.gr.le; omega) (fun i hi => by rw [hlo.gr.D i (by omega)]; exact hD0 i hi) hlo1.st hE1 (by omega)
    have hlo12 := hlo1.trans hlo2
    rw [← hstep0] at hlo12
    -- the slice so far
    have hx6' : (x6 = .nils ∧ As = []) ∨ ∃ w, n0 ≤ w ∧ w < n2 ∧ w ∉ W2 ∧ VW H2 1 w x6 (irows As) ∧ Sto H2 n2 ([w] ++ W2) len2 D2 A2 U2 := by
      rcases hx6 with c | ⟨w, c1, c2, c3, c4, c5⟩
      · exact .inl c
      · have g1 : (H.set n (.arr 0 5 [row])).get w = H.get w := get_other _ _ (by omega)
        have g2 : Sto (H.set n (.arr 0 5 [row])) (n + 1) ([w] ++ W) len D A U := (c5.same ((Same.refl _ _ _).set _ (.inr (Nat.le_refl n)))).wider (fun x hx => .inl hx) (by omega)
        refine .inr ⟨w, c1, by have := hlo2.ln; omega, fun hm => by rcases hlo2.w _ hm with e | e; exact c3 e; omega, (c4.same g1).same (hlo2.sm _ (by omega) c3), hlo2.fx [w] (fun x hx => by simp at hx; omega) g2⟩
    have hN' : (x6 = .nils ∧ irows As = []) ∨ ∃ id, VW H2 1 id x6 (irows As) ∧ id < n2 := by
      rcases hx6' with ⟨c1, c2⟩ | ⟨w, _, c2, _, c4, _⟩
      · exact .inl ⟨c1, by rw [c2]; rfl⟩
      · exact .inr ⟨w, c4, c2⟩
    have hAl : As.length ≤ ts.length := by rw [hrep.length, List.length_take]; omega
    obtain ⟨v', H3, n3, w3, happ, hV3, hs3, hw3, hn3, hw3'⟩ := app1 (k := 1) (bytes := 8) (n := n2) (row := [.int .i64 (r : Nat)]) hN' (by simp [irows]; omega)
    have hW3 : n0 ≤ w3 ∧ w3 ∉ W2 ∧ Sto H2 n2 ([w3] ++ W2) len2 D2 A2 U2 := by
      rcases hw3' with rfl | hv
      · refine ⟨by have := hlo12.ln; omega, fun hm => by have := hlo2.st.lt _ hm; omega, hlo2.st.sto.wider (fun x hx => by simp at hx; rcases hx with rfl | hx; exact .inr (Nat.le_refl _); exact .inl hx) (Nat.le_refl _)⟩
      · rcases hx6' with ⟨c1, _⟩ | ⟨w, c1, c2, c3, c4, c5⟩
        · obtain ⟨_, _, e, _⟩ := hv; rw [c1] at e; cases e
        · have e : w3 = w := by
            obtain ⟨_, _, e1, _⟩ := hv
            obtain ⟨_, _, e2, _⟩ := c4
            rw [e1] at e2; cases e2; rfl
          rw [e]; exact ⟨c1, c3, c5⟩
    have hlo3 := hlo12.beside (H1 := H3) (n1 := n3) hW3.1 hW3.2.1 hW3.2.2 hs3 hn3
    have hrep3 : RepL len2 D2 A2 U2 leaf inn (As ++ [r]) (ts.take (t + 1)) := by
      rw [List.take_succ_eq_append_getElem ht']
      exact (hrep.grown hlo2.gr).snoc hrep2
    have hsto3 : Sto H3 n3 ([w3] ++ W2) len2 D2 A2 U2 := (hW3.2.2.same (fun id _ h2 => hs3 id (by simp at h2; exact h2.1))).wider (fun x hx => .inl hx) hn3
    obtain ⟨H', n', W', len', D', A', U', P', R', rk', y6, y7, As', g1, g2, g3, g4⟩ := ih (t + 1) H3 n3 W2 len2 D2 A2 U2 P2 R2 rk2 v' (.ptr n 0 5 0 0) (.bool true) (As ++ [r]) (by omega) (by omega) hlo3 hrep3 (.inr ⟨w3, hW3.1, hw3, hW3.2.1, by simpa [irows] using hV3, hsto3⟩)
    refine ⟨H', n', W', len', D', A', U', P', R', rk', y6, y7, As', ?_, g2, g3, g4⟩
    rw [← g1]
    refine codeL_loop_iff ?_
    obtain ⟨a, u, rfl, _, _⟩ := hR.five
    simp (disch := omega) only [go_sem, Nat.reduceAdd, Nat.reduceLeDiff, Nat.reduceBEq, Nat.reduceLT, B_132_1, lyS, hix, e1, happ, cast_add1, get_same]
end
section
variable {UP : PV → Prop} {idS : Nat} {pv nm up pl : PV} {cnt sz sz' : Nat} {H H' H'' : Heap} {n n' n'' : Nat} {W W' W'' : List Nat} {len len' len'' : Nat} {D D' D'' : Nat → Nd} {A A' A'' : Nat → List Nat} {U U' U'' : Nat → List PV} {P R rk P' R' rk' P'' R'' rk'' : Nat → Nat}
theorem LayOut.fresh (h : LayOut UP idS pv nm up pl cnt sz H n W len D A U R H' n' W' len' D' A' U' P' R' rk') {H1 : Heap} {n1 : Nat} (hs : ∀ id, id < n' → H1.get id = H'.get id) (hn : n' ≤ n1) :
    LayOut UP idS pv nm up pl cnt sz H n W len D A U R H1 n1 W' len' D' A' U' P' R' rk' := by
  obtain ⟨⟨⟨nv, wv, hS, hnv, hwv⟩, own, lt, ups, sto⟩, gr, r1, r2, sm, w, ln, ll, ba, fx, nw, uq⟩ := h
  refine ⟨⟨⟨nv, wv, by rw [hs _ (lt _ own)]; exact hS, ?_, ?_⟩, own, fun x hx => by have := lt x hx; omega, ups, (sto.same (fun id h1 _ => hs id h1)).wider (fun x hx => .inl hx) hn⟩, gr, r1, r2, fun id h1 h2 => (hs id (by omega)).trans (sm id h1 h2), w, by omega, ll, ba,
    fun X h1 h2 => ((fx X h1 h2).same (fun id h1 _ => hs id h1)).wider (fun x hx => .inl hx) hn, nw, uq⟩
  · rcases hnv with c | ⟨idN, ver, c1, c2, c3⟩
    · exact .inl c
    · exact .inr ⟨idN, ver, c1, c2, (hs _ (lt _ c1)).trans c3⟩
  · rcases hwv with c | ⟨idP, c1, c2⟩
    · exact .inl c
    · exact .inr ⟨idP, c1, c2.same (hs _ (lt _ c1))⟩
def SinceA (H : Heap) (n0 n : Nat) (W : List Nat) (av : PV) (As : List Nat) : Prop := (av = .nils ∧ As = []) ∨ ∃ id, n0 ≤ id ∧ id < n ∧ id ∉ W ∧ VW H 1 id av (irows As)
def SinceU (H : Heap) (n0 n : Nat) (W : List Nat) (uv : PV) (Us : List PV) : Prop := (uv = .nils ∧ Us = []) ∨ ∃ id, n0 ≤ id ∧ id < n ∧ id ∉ W ∧ VW H 1 id uv (urows Us)
theorem LayOut.make (h : LayOut UP idS pv nm up pl cnt sz H n W len D A U R H' n' W' len' D' A' U' P' R' rk') (d : Nd) {As : List Nat} {Us : List PV} (ha : SinceA H' n n' W' d.av As) (hu : SinceU H' n n' W' d.uv Us) (hs : ∀ a ∈ As, a < len') (hf : ∀ u ∈ Us, flat u = true) (hl : len' < 1000000) (hk : d.kind ≠ 1) (hq : ∀ u ∈ Us, UP u)
    (hz : sz + 1 ≤ sz') (hb : As.length + Us.length ≤ sz') :
    ∃ (H1 : Heap) (n1 : Nat) (W1 : List Nat), Gf 127 [.ptr idS 0 7 0 1, .int .i64 d.kind, .int .i64 d.num, .str d.name, d.av, d.uv] H' n' = some (.int .i64 len', H1, n1) ∧
      LayOut UP idS pv nm up pl cnt sz' H n W len D A U R H1 n1 W1 (len' + 1) (ext D' len' d) (ext A' len' As) (ext U' len' Us) (ext P' len' len') (ext R' len' len') (ext rk' len' 0) := by
  have pa : ∀ X : List Nat, (∀ x ∈ X, x < n) → PartA H' n' (X ++ W') d.av As := by
    intro X hX
    rcases ha with c | ⟨id, c1, c2, c3, c4⟩
    · exact .inl c
    · exact .inr ⟨id, c2, fun hm => by rcases List.mem_append.1 hm with e | e; have := hX _ e; omega; exact c3 e, c4⟩
  have pu : ∀ X : List Nat, (∀ x ∈ X, x < n) → PartU H' n' (X ++ W') d.uv Us := by
    intro X hX
    rcases hu with c | ⟨id, c1, c2, c3, c4⟩
    · exact .inl c
    · exact .inr ⟨id, c2, fun hm => by rcases List.mem_append.1 hm with e | e; have := hX _ e; omega; exact c3 e, c4⟩
  obtain ⟨H1, n1, W1, e1, st1, sm1, w1, ln1⟩ := make_run h.st d (pa [] (fun x hx => by simp at hx)) (pu [] (fun x hx => by simp at hx)) hs hf hl
  have hle := h.gr.le
  have hln := h.ln
  have hll := h.ll
  refine ⟨H1, n1, W1, e1, st1, h.gr.trans (.ext _ _ _ _ _ _ _), fun i hi => by rw [ext_lt _ _ (by omega)]; exact h.r1 i hi, fun i h1 h2 => ?_, h.sm.step sm1 h.w hln, fun x hx => ?_, by omega, by omega, fun i h1 h2 => ?_, fun X hX1 hX2 => ?_, fun i h1 h2 => ?_, fun i h1 h2 => ?_⟩
  · by_cases e : i = len'
    · rw [e, ext_at]
    · rw [ext_lt _ _ (by omega)]; exact h.r2 i h1 (by omega)
  · rcases w1 x hx with e | e
    · exact h.w x e
    · exact .inr (by omega)
  · by_cases e : i = len'
    · rw [e, ext_at, ext_at]; exact hb
    · rw [ext_lt _ _ (by omega), ext_lt _ _ (by omega)]; have := h.ba i h1 (by omega); omega
  · have h3 := h.fx X hX1 hX2
    exact ((h3.ext (pa X hX1) (pu X hX1) hs hf).same (sm1.mono (fun x hx => by simp [hx]) (Nat.le_refl _))).wider (fun x hx => by
      rcases List.mem_append.1 hx with e | e
      · exact .inl (by simp [e])
      · rcases w1 x e with e | e
        · exact .inl (by simp [e])
        · exact .inr e) ln1
  · by_cases e : i = len'
    · subst e; rw [ext_at, ext_at]; exact ⟨hk, hs⟩
    · rw [ext_lt _ _ (by omega), ext_lt _ _ (by omega)]; exact h.nw i h1 (by omega)
  · by_cases e : i = len'
    · subst e; rw [ext_at]; exact hq
    · rw [ext_lt _ _ (by omega)]; exact h.uq i h1 (by omega)
end
section
variable {UP : PV → Prop} {idS nb idM clock cnt len0 : Nat} {es : Ents} {pv up pl : PV} {prows : List (List PV)} {leaf : Int → Nat} {inn : PV → PV}
theorem leaf_run {H : Heap} {n r : Nat} {nv wv c0 a u : PV} {k num : Int} {s : ByteArray} (hb : H.get nb = some (.arr 0 1 [[.ptr idS 0 7 0 0]])) (hS : H.get idS = some (srow pv nv wv c0 (.map idM) up pl)) (hm : H.get idM = some (.map es clock)) (hk : IKeys es)
    (hg : imGet es num = some (.int .i64 r)) (l1 : nb < n) (l2 : idS < n) (l3 : idM < n) (ca : a.cells? = some [a]) (cu : u.cells? = some [u]) :
    Gf 133 [.agg [.int .i64 k, .int .i64 num, .str s, a, u], .ptr nb 0 1 0 0] H n = some (.int .i64 r, H.set n (.arr 0 5 [[.int .i64 k, .int .i64 num, .str s, a, u]]), n + 1) := by
  have h1 : n ≠ nb := by omega
  have h2 : n ≠ idS := by omega
  have h3 : n ≠ idM := by omega
  have hg' : (imGet es num).getD (.int .i64 0) = .int .i64 r := by rw [hg]; rfl
  rw [R_133]
  simp (disch := omega) only [go_sem, Nat.reduceAdd, Nat.reduceMul, Nat.reduceLeDiff, G_133, get_same, get_other, hb, hS, hm, lookO_im hk, hg']
theorem tys_cells {a : PV} {ts : List Ty} (h : TysR a ts) : a.cells? = some [a] := by cases h <;> rfl
theorem us_cells {a : PV} {ts : List PV} (h : UsR a ts) : a.cells? = some [a] := by rcases h.1 with ⟨rfl, _⟩ | ⟨fl, rfl⟩ <;> rfl
theorem lay_run {V : Int → Prop} {Q : PV → Prop} (hUP : ∀ u, Q u → UP (inn u)) (hQ : ∀ u, Q u → InnOk idS pv (.map idM) up pl prows inn u) (hV : ∀ v, V v → imGet es v = some (.int .i64 (leaf v : Nat)) ∧ leaf v < len0) :
    ∀ (s : Nat) (t : Ty), t.size ≤ s → Fit V Q t → LayArg UP idS nb idM es clock pv up pl cnt len0 prows leaf inn t := by
  intro s
  induction s with
  | zero => intro t hs; have := t.size_pos; omega
  | succ s ih =>
    intro t hs hfit row H n W len D A U P R rk hrow hl0 hD hst hE hsz
    obtain ⟨a, u, rfl, hta, hus⟩ := hrow.five
    have ca := tys_cells hta
    have cu := us_cells hus
    have hlt := hst.lt
    have lS := hlt _ hst.own
    -- the box
    have hlo1 := (LayOut.refl (UP := UP) hst).fresh (H1 := H.set n (.arr 0 5 [[.int .i64 t.kind, .int .i64 t.num, .str t.name, a, u]])) (n1 := n + 1) (fun id hid => get_other _ _ (by omega)) (by omega)
    have hE1 := hE.same hlo1.sm hlo1.w hlo1.ln
    cases hfit with
    | var _ hk hv =>
      obtain ⟨hg, hlf⟩ := hV _ hv
      obtain ⟨nv, wv, hS1, _, _⟩ := hlo1.st.row
      have e1 := leaf_run (n := n + 1) (k := t.kind) (num := t.num) (s := t.name) (a := a) (u := u) hE1.hb hS1 hE1.hm hE1.keys hg hE1.lb (by omega) hE1.lm ca cu
      have hlo2 := hlo1.fresh (H1 := (H.set n (.arr 0 5 [[.int .i64 t.kind, .int .i64 t.num, .str t.name, a, u]])).set (n + 1) (.arr 0 5 [[.int .i64 t.kind, .int .i64 t.num, .str t.name, a, u]])) (n1 := n + 2) (fun id hid => get_other _ _ (by omega)) (by omega)
      refine ⟨leaf t.num, _, n + 2, W, len, D, A, U, P, R, rk, ?_, hlo2.mono (by omega), .var t hk (by omega) (hD _ hlf)⟩
      rw [hk] at e1 ⊢
      rw [R_132]
      simp (disch := omega) only [go_sem, Nat.reduceAdd, G_132, get_same, e1]
    | node _ hk1 hk8 hq hargs =>
      -- its parts
      have hsize : t.size = 1 + t.units.length + Ty.sizes t.args := by cases t; rfl
      have hall : ∀ x ∈ t.args, LayArg UP idS nb idM es clock pv up pl cnt len0 prows leaf inn x := fun x hx => ih x (by have := Ty.size_mem hx; omega) (hargs x hx)
      have hsl := Ty.sizes_len t.args
      have hnW : n ∉ W := fun hm => by have := hlt _ hm; omega
      -- the parts
      have parts : ∃ (H' : Heap) (n' : Nat) (W' : List Nat) (len' : Nat) (D' : Nat → Nd) (A' : Nat → List Nat) (U' : Nat → List PV) (P' R' rk' : Nat → Nat) (y6 y7 : PV) (As' : List Nat),
          codeL Gf (.loop B_132_1) ⟨lyS (.ptr idS 0 7 0 1) (.agg [.int .i64 t.kind, .int .i64 t.num, .str t.name, a, u]) (.func 133 [] [.ptr nb 0 1 0 0]) (.func 75 [.ptr idS 0 7 0 0] []) (.ptr n 0 5 0 0) (.int .i64 0) .nils (.tup []) (.tup []) (.tup []) (.bool false) a (.int .i64 t.args.length) (.int .i64 0) (.tup []) (.tup []) (.tup []) (.tup []) (.tup []), H.set n (.arr 0 5 [[.int .i64 t.kind, .int .i64 t.num, .str t.name, a, u]]), n + 1⟩ =
            some (.exit 0, ⟨lyS (.ptr idS 0 7 0 1) (.agg [.int .i64 t.kind, .int .i64 t.num, .str t.name, a, u]) (.func 133 [] [.ptr nb 0 1 0 0]) (.func 75 [.ptr idS 0 7 0 0] []) (.ptr n 0 5 0 0) (.int .i64 0) y6 y7 (.tup []) (.tup []) (.bool false) a (.int .i64 t.args.length) (.int .i64 t.args.length) (.bool false) (.tup []) (.tup []) (.tup []) (.tup []), H', n'⟩) ∧
          LayOut UP idS pv (.map idM) up pl cnt (Ty.sizes t.args) (H.set n (.arr 0 5 [[.int .i64 t.kind, .int .i64 t.num, .str t.name, a, u]])) (n + 1) W len D A U R H' n' W' len' D' A' U' P' R' rk' ∧ RepL len' D' A' U' leaf inn As' t.args ∧
          ((y6 = .nils ∧ As' = []) ∨ ∃ w, n + 1 ≤ w ∧ w < n' ∧ w ∉ W' ∧ VW H' 1 w y6 (irows As') ∧ Sto H' n' ([w] ++ W') len' D' A' U') := by
        generalize hts : t.args = ts at *
        cases hta with
        | nil =>
          refine ⟨_, n + 1, W, len, D, A, U, P, R, rk, .nils, .tup [], [], codeL_loop_end ?_ (by simp), LayOut.refl hlo1.st, .nil, .inl ⟨rfl, rfl⟩⟩
          simp (disch := omega) only [go_sem, B_132_1, lyS]
          rfl
        | data xs _ fl hxs =>
          have := lay_args (x1 := .agg [.int .i64 t.kind, .int .i64 t.num, .str t.name, .data 5 xs fl, u]) (x4 := .ptr n 0 5 0 0) (x5 := .int .i64 0) (x8 := .tup []) (x9 := .tup []) (x10 := .bool false) (x15 := .tup []) (x16 := .tup []) (x17 := .tup []) (x18 := .tup []) (fl := fl) hxs hall hl0 hD (by omega) hE1
            ts.length 0 _ (n + 1) W len D A U P R rk .nils (.tup []) (.tup []) [] rfl (Nat.zero_le _) (LayOut.refl hlo1.st) .nil (.inl ⟨rfl, rfl⟩)
          rw [show ((0 : Nat) : Int) = 0 from rfl] at this
          exact this
      obtain ⟨H2, n2, W2, len2, D2, A2, U2, P2, R2, rk2, y6, y7, As, g1, hlo2, hrep, hy6⟩ := parts
      have hb2 : H2.get n = some (.arr 0 5 [[.int .i64 t.kind, .int .i64 t.num, .str t.name, a, u]]) := by rw [hlo2.sm _ (by omega) hnW, get_same]
      have hE2 := hE1.same hlo2.sm hlo2.w hlo2.ln
      have hln2 := hlo2.ln
      have hll2 := hlo2.ll
      -- the units
      have hlt2 := hlo2.st.lt
      have lS2 := hlt2 _ hlo2.st.own
      obtain ⟨H3, n3, y8, y9, g3, hN3, hs3, ln3⟩ := lay_units (x0 := .ptr idS 0 7 0 1) (x1 := .agg [.int .i64 t.kind, .int .i64 t.num, .str t.name, a, u]) (x2 := .func 133 [] [.ptr nb 0 1 0 0]) (x4 := .ptr n 0 5 0 0) (x5 := .int .i64 0) (x6 := y6) (x7 := y7) (x10 := .bool false) (x11 := a) (x12 := .int .i64 t.args.length) (x13 := .int .i64 t.args.length) (x14 := .bool false)
        (idS := idS) (inn := inn) (n0 := n2) hus (by omega)
        (G := fun H => (∃ nv wv c0, H.get idS = some (srow pv nv wv c0 (.map idM) up pl)) ∧ ((pl = .nils ∧ prows = []) ∨ ∃ id, id < n2 ∧ VW H 2 id pl prows))
        (fun H H' hG hs => ⟨by obtain ⟨nv, wv, c0, h⟩ := hG.1; exact ⟨nv, wv, c0, (hs _ lS2).trans h⟩, by
          rcases hG.2 with c | ⟨id, c1, c2⟩
          · exact .inl c
          · exact .inr ⟨id, c1, c2.same (hs _ c1)⟩⟩)
        (fun v hv H n hG => hQ v (hq v hv) H n hG.1 (by
          rcases hG.2 with c | ⟨id, c1, c2⟩
          · exact .inl c
          · exact .inr ⟨id, c2⟩))
        t.units.length 0 H2 n2 .nils (.tup []) (.tup []) rfl (Nat.zero_le _) (Nat.le_refl _) (.inl ⟨rfl, by simp [urows]⟩)
        ⟨by obtain ⟨nv, wv, h, _⟩ := hlo2.st.row; exact ⟨nv, wv, _, h⟩, by
          rcases hE2.place with c | ⟨id, c1, _, c3⟩
          · exact .inl c
          · exact .inr ⟨id, c1, c3⟩⟩
      rw [show ((0 : Nat) : Int) = 0 from rfl] at g3
      have hlo3 := hlo2.fresh hs3 ln3
      have hflt : ∀ v ∈ t.units.map inn, flat v = true := by
        intro v hv
        obtain ⟨w, hw, rfl⟩ := List.mem_map.1 hv
        obtain ⟨nv, wv, h, _⟩ := hlo2.st.row
        exact (hQ w (hq w hw) H2 n2 ⟨nv, wv, _, h⟩ (by
          rcases hE2.place with c | ⟨id, _, _, c3⟩
          · exact .inl c
          · exact .inr ⟨id, c3⟩)).2
      obtain ⟨H4, n4, W4, e4, hlo4⟩ := hlo3.make (sz' := t.size) ⟨t.kind, t.num, t.name, y6, y8⟩ (As := As) (Us := t.units.map inn)
        (by
          rcases hy6 with c | ⟨w, c1, c2, c3, c4, _⟩
          · exact .inl c
          · exact .inr ⟨w, c1, by omega, c3, c4.same (hs3 _ c2)⟩)
        (by
          rcases hN3 with ⟨c1, c2⟩ | ⟨id, c1, c2, c3⟩
          · exact .inl ⟨c1, by simpa [urows] using c2⟩
          · exact .inr ⟨id, by omega, c2, fun hm => by have := hlt2 _ hm; omega, c3⟩)
        hrep.lts hflt (by omega) hk1 (fun v hv => by obtain ⟨w, hw, rfl⟩ := List.mem_map.1 hv; exact hUP w (hq w hw)) (by omega) (by rw [hrep.length, List.length_map]; omega)
      have hbox3 : H3.get n = some (.arr 0 5 [[.int .i64 t.kind, .int .i64 t.num, .str t.name, a, u]]) := by rw [hs3 _ (by omega)]; exact hb2
      have hla : ∀ H n, lenX .slice H n a = some ⟨.int .i64 (t.args.length : Nat), H, n, .no⟩ := by
        intro H n
        have hta' := hta
        revert hta'
        generalize t.args = ts
        intro hta'
        cases hta' with
        | nil => rfl
        | data xs _ fl hxs => simp [lenX, hxs.len]
      have hlu : ∀ H n, lenX .slice H n u = some ⟨.int .i64 (t.units.length : Nat), H, n, .no⟩ := by
        intro H n
        rcases hus.1 with ⟨rfl, h⟩ | ⟨fl, rfl⟩
        · rw [h]; rfl
        · simp [lenX, urows]
      refine ⟨len2, H4, n4, W4, _, _, _, _, _, _, _, ?_, by simpa using hlo1.trans hlo4, ?_⟩
      · simp only [lyS] at g1 g3
        simp only at e4
        rw [R_132]
        simp (disch := omega) only [go_sem, Nat.reduceAdd, G_132, get_same, hla, g1, hb2, hlu, g3, hbox3, e4]
      · have hg4 : Grown len2 D2 A2 U2 (len2 + 1) (ext D2 len2 ⟨t.kind, t.num, t.name, y6, y8⟩) (ext A2 len2 As) (ext U2 len2 (t.units.map inn)) := .ext _ _ _ _ _ _ _
        exact .node len2 t hk1 (by omega) (by rw [ext_at]) (by rw [ext_at]) (by rw [ext_at]) (by rw [ext_at]) (by rw [ext_at]; exact hrep.grown hg4)
end
def thawFst : Option (PV × List Nat) → Option PV
  | some (v, _) => some v
  | none => none
def pureR : Option (PV × Heap × Nat) → Option PV
  | some (r, H, _) => thawFst (thaw false H 4096 r)
  | none => none
theorem pureV_eq (cf : CallF) (f : FuncId) (as : List PV) : pureV cf f as = pureR (cf f as [] 0) := by
  simp only [pureV, pureR, thawFst, deep]
  rcases cf f as [] 0 with _ | ⟨r, H, n⟩
  · rfl
  · simp only
    rcases thaw false H 4096 r with _ | ⟨v, is⟩ <;> rfl
@[go_sem] theorem pureR_some (r : PV) (H : Heap) (n : Nat) : pureR (some (r, H, n)) = thawFst (thaw false H 4096 r) := rfl
@[go_sem] theorem thawFst_some (v : PV) (is : List Nat) : thawFst (some (v, is)) = some v := rfl
def thawCons : Option (PV × List Nat) → Option (List PV × List Nat) → Option (List PV × List Nat)
  | some (x, is), some (xs, js) => some (x :: xs, is ++ js)
  | _, _ => none
def thawAgg : Option (List PV × List Nat) → Option (PV × List Nat)
  | some (xs, is) => some (.agg xs, is)
  | none => none
def thawTup : Option (List PV × List Nat) → Option (PV × List Nat)
  | some (xs, is) => some (.tup xs, is)
  | none => none
theorem thaw_flat {t : Bool} {H : Heap} {d : Nat} {p : PV} (h : flat p = true) : thaw t H (d + 2) p = some (p, []) := by
  cases p with
  | func f a b =>
    cases a <;> cases b <;> simp [flat] at h
    simp [thaw, thawL]
  | dp u cs o => simp [flat] at h; simp [thaw, h]
  | data k xs fl => simp [flat] at h; simp [thaw, h]
  | _ => first | rfl | (simp [flat] at h)
section
variable (t : Bool) (H : Heap) (d : Nat)
@[go_sem] theorem thaw_int (k : IntKind) (x : Int) : thaw t H (d + 1) (.int k x) = some (.int k x, []) := rfl
@[go_sem] theorem thaw_bool (x : Bool) : thaw t H (d + 1) (.bool x) = some (.bool x, []) := rfl
@[go_sem] theorem thaw_str (x : ByteArray) : thaw t H (d + 1) (.str x) = some (.str x, []) := rfl
@[go_sem] theorem thaw_nils : thaw t H (d + 1) .nils = some (.nils, []) := rfl
@[go_sem] theorem thaw_full (k : Nat) (xs : List (List PV)) : thaw t H (d + 1) (.data k xs .full) = some (.data k xs .full, []) := rfl
@[go_sem] theorem thaw_part (k : Nat) (xs : List (List PV)) : thaw t H (d + 1) (.data k xs .part) = some (.data k xs .part, []) := rfl
@[go_sem] theorem thaw_agg (l : List PV) : thaw t H (d + 1) (.agg l) = thawAgg (thawL t H d l) := by
  simp only [thaw, thawAgg]; rcases thawL t H d l with _ | ⟨a, b⟩ <;> rfl
@[go_sem] theorem thaw_tup (l : List PV) : thaw t H (d + 1) (.tup l) = thawTup (thawL t H d l) := by
  simp only [thaw, thawTup]; rcases thawL t H d l with _ | ⟨a, b⟩ <;> rfl
@[go_sem] theorem thawL_nil : thawL t H (d + 1) [] = some ([], []) := by simp [thawL]
theorem thawL_all (l : List PV) (h : l.all flat = true) : thawL t H (d + 1) l = some (l, []) := by unfold thawL; simp only [h, if_true]
@[go_sem] theorem thawL_cons (p : PV) (r : List PV) : thawL t H (d + 3) (p :: r) = thawCons (thaw t H (d + 2) p) (thawL t H (d + 2) r) := by
  by_cases h : (p :: r).all flat = true
  · rw [thawL_all t H _ _ h]
    simp only [List.all_cons, Bool.and_eq_true] at h
    rw [thaw_flat h.1, thawL_all t H _ _ h.2]
    rfl
  · conv => lhs; unfold thawL
    rw [if_neg h]
    simp only [thawCons]
    rcases thaw t H (d + 2) p with _ | ⟨a, b⟩
    · rfl
    · rcases thawL t H (d + 2) r with _ | ⟨a, b⟩ <;> rfl
@[go_sem] theorem thawCons_some (x : PV) (is : List Nat) (xs : List PV) (js : List Nat) : thawCons (some (x, is)) (some (xs, js)) = some (x :: xs, is ++ js) := rfl
@[go_sem] theorem thawAgg_some (xs : List PV) (js : List Nat) : thawAgg (some (xs, js)) = some (.agg xs, js) := rfl
@[go_sem] theorem thawTup_some (xs : List PV) (js : List Nat) : thawTup (some (xs, js)) = some (.tup xs, js) := rfl
end
theorem thaw_view {t : Bool} {H : Heap} {d id ver k off len : Nat} {cap : Option Nat} {xs : List (List PV)} (hH : H.get id = some (.arr ver k xs)) (hl : off + len ≤ xs.length) (hf : ((xs.drop off).take len).all (fun x => x.all flat) = true) :
    thaw t H (d + 2) (.view id ver k off len cap) = some (.data k ((xs.drop off).take len) (if t then .tmp else if cap = some len then .full else .part), [id]) := by
  have h2 : thawLL t H (d + 1) ((xs.drop off).take len) = some ((xs.drop off).take len, []) := by
    unfold thawLL; rw [if_pos hf]
  unfold thaw
  simp only [hH, hl, and_self, if_true, h2]
theorem thaw_VW {H : Heap} {d k : Nat} {v : PV} {xs : List (List PV)} {id ver : Nat} {rest : List (List PV)} (hv : v = .view id ver k 0 xs.length none) (hH : H.get id = some (.arr ver k (xs ++ rest))) (hf : xs.all (fun x => x.all flat) = true) :
    thaw false H (d + 2) v = some (.data k xs .part, [id]) := by
  subst hv
  have := thaw_view (t := false) (d := d) (cap := none) (off := 0) (len := xs.length) hH (by simp) (by simpa using hf)
  simpa using this
theorem thaw_VW' {H : Heap} {d k : Nat} {v : PV} {xs : List (List PV)} {id ver : Nat} {rest : List (List PV)} (hv : v = .view id ver k 0 xs.length none) (hH : H.get id = some (.arr ver k (xs ++ rest))) (hf : xs.all (fun x => x.all flat) = true) :
    thaw true H (d + 2) v = some (.data k xs .tmp, [id]) := by
  subst hv
  have := thaw_view (t := true) (d := d) (cap := none) (off := 0) (len := xs.length) hH (by simp) (by simpa using hf)
  simpa using this
@[go_sem] theorem thawC_false (t : Bool) (H : Heap) (l : List PV) : thawC t H l false = thawL t H 4096 l := rfl
@[go_sem] theorem flat_agg (l : List PV) : flat (.agg l) = false := rfl
@[go_sem] theorem flat_tup (l : List PV) : flat (.tup l) = false := rfl
@[go_sem] theorem flat_view (id ver k off len : Nat) (cap : Option Nat) : flat (.view id ver k off len cap) = false := rfl
@[go_sem] theorem flat_ptr (id ver k i off : Nat) : flat (.ptr id ver k i off) = false := rfl
@[go_sem] theorem flat_map (id : Nat) : flat (.map id) = false := rfl
@[go_sem] theorem flat_iface (t : TypeId) (v : PV) : flat (.iface t v) = false := rfl
@[go_sem] theorem flat_tmp (k : Nat) (xs : List (List PV)) : flat (.data k xs .tmp) = false := rfl
theorem natFrom_one : pureV Gf 187 [.int .u64 1] = some (.data 1 [[.int .u64 1]] .full) := by
  rw [pureV_eq, R_187]
  simp (disch := omega) only [go_sem, Nat.reduceBEq, Nat.reduceLT, G_187]
theorem wholeFrom_one : pureV Gf 129 [.int .i64 1] = some (.agg [.bool false, .data 1 [[.int .u64 1]] .full]) := by
  rw [pureV_eq, R_129]
  simp (disch := omega) only [go_sem, Nat.reduceAdd, Nat.reduceLeDiff, Int.reduceLT, G_129, natFrom_one, wrapu64, get_same]
theorem number_run (i : Int) (h0 : 0 ≤ i) (h1 : i ≤ 2147483647) : pureV Gf 185 [.int .i64 i] = some (.bool true) := by
  rw [pureV_eq, R_185]
  simp (disch := omega) only [go_sem, G_185]
def uvar (i : Int) : PV := .data 5 [[.int .i64 1, .int .i64 i, .str ⟨#[]⟩, .bool false, .data 1 [[.int .u64 1]] .full]] .full
theorem atom_var (i : Int) (h0 : 0 ≤ i) (h1 : i ≤ 2147483647) : pureV Gf 128 [.agg [.int .i64 1, .int .i64 i, .str ⟨#[]⟩]] = some (.bool true) := by
  rw [pureV_eq, R_128]
  have e : ((ByteArray.mk #[]).toList == (ByteArray.mk #[]).toList) = true := by simp
  simp (disch := omega) only [go_sem, Nat.reduceAdd, G_128, get_same, number_run i h0 h1, e]
theorem unitOf_var (i : Int) (h0 : 0 ≤ i) (h1 : i ≤ 2147483647) : pureV Gf 70 [.agg [.int .i64 1, .int .i64 i, .str ⟨#[]⟩]] = some (.tup [uvar i, .int .i64 0]) := by
  rw [pureV_eq, R_70]
  simp (disch := omega) only [go_sem, Nat.reduceAdd, Nat.reduceMul, Nat.reduceLeDiff, Nat.reduceBEq, Nat.reduceLT, G_70, get_same, atom_var i h0 h1, wholeFrom_one, uvar]
theorem VW.cells {H : Heap} {k id : Nat} {v : PV} {xs : List (List PV)} (h : VW H k id v xs) : v.cells? = some [v] := by
  obtain ⟨_, _, rfl, _⟩ := h; rfl
def vnode : Nd := ⟨1, 0, ⟨#[]⟩, .nils, .nils⟩
section
variable {idS idM idT : Nat} {pv up pl : PV}
theorem units_new {H : Heap} {n : Nat} {next : Int} : Gf 68 [.int .i64 next] H n = some (.ptr (n + 2) 0 3 0 0, ((H.set n (.map [] 0)).set (n + 1) (.map [] 0)).set (n + 2) (.arr 0 3 [[.map n, .map (n + 1), .int .i64 next]]), n + 3) := by
  rw [R_68]
  simp (disch := omega) only [go_sem, Nat.reduceAdd, Nat.reduceLeDiff, G_68]
theorem units_fresh {H : Heap} {n idU k : Nat} {a b : PV} (hU : H.get idU = some (.arr 0 3 [[a, b, .int .i64 k]])) (hk : k < 1000000000) :
    Gf 71 [.ptr idU 0 3 0 0] H n = some (.int .i64 k, H.set idU (.arr 0 3 [[a, b, .int .i64 (k + 1 : Nat)]]), n) := by
  have e3 : ((k + 1 : Nat) : Int) - 1 = (k : Int) := by omega
  rw [R_71]
  simp (disch := omega) only [go_sem, Nat.reduceAdd, Nat.reduceLeDiff, G_71, hU, get_same, cast_add1, e3]
theorem var_run {H : Heap} {n cnt len : Nat} {W : List Nat} {nm : PV} {D : Nat → Nd} {A : Nat → List Nat} {U : Nat → List PV} {P R rk : Nat → Nat} (st : Store H n idS W pv nm up pl cnt len D A U P R rk) (hl : len < 1000000) :
    ∃ (H' : Heap) (n' : Nat) (W' : List Nat), Gf 69 [.ptr idS 0 7 0 1] H n = some (.int .i64 len, H', n') ∧
      Store H' n' idS W' pv nm up pl cnt (len + 1) (ext D len vnode) (ext A len []) (ext U len []) (ext P len len) (ext R len len) (ext rk len 0) ∧ Same W n H H' ∧ (∀ x ∈ W', x ∈ W ∨ n ≤ x) ∧ n ≤ n' := by
  obtain ⟨H', n', W', e1, h1, h2, h3, h4⟩ := make_run st vnode (As := []) (Us := []) (.inl ⟨rfl, rfl⟩) (.inl ⟨rfl, rfl⟩) (by simp) (by simp) hl
  refine ⟨H', n', W', ?_, h1, h2, h3, h4⟩
  simp only [vnode] at e1
  rw [R_69]
  simp (disch := omega) only [go_sem, G_69, e1]
def lvS (x0 x1 x2 x3 x4 x5 x6 x7 x8 x9 x10 x11 x12 x13 : PV) : List PV := [x0, x1, x2, x3, x4, x5, x6, x7, x8, x9, x10, x11, x12, x13]
variable {x0 x1 x3 x4 x5 x6 x7 x8 x9 x10 x11 x12 x13 tv : PV} {ts : List Nat}
theorem lay_vars (hnd : ts.Nodup) (hl : ts.length < 100000) : ∀ (d t : Nat) (H : Heap) (n : Nat) (W : List Nat) (es : Ents) (clock : Nat) (D : Nat → Nd) (A : Nat → List Nat) (U : Nat → List PV) (P R rk : Nat → Nat) (x3 x9 : PV), ts.length - t = d → t ≤ ts.length →
    Store H n idS W pv (.map idM) up pl 0 t D A U P R rk → (∀ i, i < t → D i = vnode ∧ A i = [] ∧ U i = [] ∧ R i = i) → H.get idM = some (.map es clock) → IKeys es → (∀ j, (h : j < ts.length) → j < t → imGet es ts[j] = some (.int .i64 (j : Nat))) →
    idM < n → idM ∉ W → VW H 1 idT tv (irows ts) → idT < n → idT ∉ W → idT ≠ idM →
    ∃ (H' : Heap) (n' : Nat) (W' : List Nat) (es' : Ents) (clock' : Nat) (D' : Nat → Nd) (A' : Nat → List Nat) (U' : Nat → List PV) (P' R' rk' : Nat → Nat) (y3 : PV),
      codeL Gf (.loop B_27_1) ⟨lvS x0 x1 (.ptr idS 0 7 0 0) x3 x4 x5 tv (.int .i64 ts.length) (.int .i64 t) x9 x10 x11 x12 x13, H, n⟩ =
        some (.exit 0, ⟨lvS x0 x1 (.ptr idS 0 7 0 0) y3 x4 x5 tv (.int .i64 ts.length) (.int .i64 ts.length) (.bool false) x10 x11 x12 x13, H', n'⟩) ∧
      Store H' n' idS W' pv (.map idM) up pl 0 ts.length D' A' U' P' R' rk' ∧ (∀ i, i < ts.length → D' i = vnode ∧ A' i = [] ∧ U' i = [] ∧ R' i = i) ∧ H'.get idM = some (.map es' clock') ∧ IKeys es' ∧
      (∀ j, (h : j < ts.length) → imGet es' ts[j] = some (.int .i64 (j : Nat))) ∧ Same (idM :: W) n H H' ∧ (∀ x ∈ W', x ∈ W ∨ n ≤ x) ∧ n ≤ n' := by
  intro d
  induction d with
  | zero =>
    intro t H n W es clock D A U P R rk x3 x9 hd ht st hnode hM hk hget lM wM hV lT wT dT
    have e : t = ts.length := by omega
    subst e
    refine ⟨H, n, W, es, clock, D, A, U, P, R, rk, x3, codeL_loop_end ?_ (by simp), st, hnode, hM, hk, fun j h => hget j h h, .refl _ _ _, fun x h => .inl h, Nat.le_refl _⟩
    simp (disch := omega) only [go_sem, B_27_1, lvS]
  | succ d ih =>
    intro t H n W es clock D A U P R rk x3 x9 hd ht st hnode hM hk hget lM wM hV lT wT dT
    have htl : t < ts.length := by omega
    have lS := st.lt _ st.own
    have wMS : idM ≠ idS := fun e => wM (e ▸ st.own)
    obtain ⟨va, ra, rfl, hHA⟩ := id hV
    have eA : (irows ts).length = ts.length := by simp [irows]
    have hra := irows_at htl ra
    obtain ⟨H1, n1, W1, e1, st1, sm1, w1, ln1⟩ := var_run st (by omega)
    obtain ⟨nv0, wv0, hS0, _, _⟩ := st.row
    obtain ⟨nv1, wv1, hS1, _, _⟩ := st1.row
    have hM1 : H1.get idM = some (.map es clock) := (sm1 _ lM wM).trans hM
    generalize hH2 : H1.set idM (.map (imSet es ts[t] (.int .i64 (t : Nat)) clock) (imClock es ts[t] clock)) = H2
    have hw1M : idM ∉ W1 := fun hm => by rcases w1 _ hm with e | e; exact wM e; omega
    have hw1T : idT ∉ W1 := fun hm => by rcases w1 _ hm with e | e; exact wT e; omega
    have st2 : Store H2 n1 idS W1 pv (.map idM) up pl 0 (t + 1) (ext D t vnode) (ext A t []) (ext U t []) (ext P t t) (ext R t t) (ext rk t 0) := by
      have hne : ∀ x ∈ W1, H2.get x = H1.get x := fun x hx => by rw [← hH2]; exact get_other _ _ (fun e => hw1M (e ▸ hx))
      obtain ⟨⟨nv, wv, h1, h2, h3⟩, h4, h5, h6, h7⟩ := st1
      refine ⟨⟨nv, wv, (hne _ h4).trans h1, ?_, ?_⟩, h4, h5, h6, ?_⟩
      · rcases h2 with c | ⟨idN, ver, c1, c2, c3⟩
        · exact .inl c
        · exact .inr ⟨idN, ver, c1, c2, (hne _ c1).trans c3⟩
      · rcases h3 with c | ⟨idP, c1, c2⟩
        · exact .inl c
        · exact .inr ⟨idP, c1, c2.same (hne _ c1)⟩
      · refine ⟨fun i hi => .inl ?_, fun i hi => .inl ?_, h7.sub, h7.flt⟩
        · by_cases e : i = t
          · subst e; simp [ext_at, vnode]
          · rw [ext_lt _ _ (by omega), ext_lt _ _ (by omega)]; obtain ⟨g1, g2, _, _⟩ := hnode i (by omega); rw [g1, g2]; exact ⟨rfl, rfl⟩
        · by_cases e : i = t
          · subst e; simp [ext_at, vnode]
          · rw [ext_lt _ _ (by omega), ext_lt _ _ (by omega)]; obtain ⟨g1, _, g2, _⟩ := hnode i (by omega); rw [g1, g2]; exact ⟨rfl, rfl⟩
    have hnode2 : ∀ i, i < t + 1 → ext D t vnode i = vnode ∧ ext A t [] i = [] ∧ ext U t [] i = [] ∧ ext R t t i = i := by
      intro i hi
      by_cases e : i = t
      · subst e; simp [ext_at]
      · rw [ext_lt _ _ (by omega), ext_lt _ _ (by omega), ext_lt _ _ (by omega), ext_lt _ _ (by omega)]; exact hnode i (by omega)
    have hM2 : H2.get idM = some (.map (imSet es ts[t] (.int .i64 (t : Nat)) clock) (imClock es ts[t] clock)) := by rw [← hH2, get_same]
    have hget2 : ∀ j, (h : j < ts.length) → j < t + 1 → imGet (imSet es ts[t] (.int .i64 (t : Nat)) clock) ts[j] = some (.int .i64 (j : Nat)) := by
      intro j hj hjt
      rw [imGet_set hk]
      by_cases e : j = t
      · subst e; simp
      · have hne : ts[j] ≠ ts[t] := fun h => e ((List.getElem_inj hnd).1 h)
        have : ¬ ((ts[j] : Nat) : Int) = ((ts[t] : Nat) : Int) := by omega
        rw [if_neg this]
        exact hget j hj (by omega)
    have sm2 : Same (idM :: W) n H H2 := by rw [← hH2]; exact (sm1.mono (fun x hx => by simp [hx]) (Nat.le_refl n)).set _ (.inl (by simp))
    have hV2 : VW H2 1 idT (.view idT va 1 0 (irows ts).length none) (irows ts) := hV.same (sm2 _ lT (by simp [dT, wT]))
    obtain ⟨H', n', W', es', clock', D', A', U', P', R', rk', y3, g1, g2, g3, g4, g5, g6, g7, g8, g9⟩ := ih (t + 1) H2 n1 W1 _ _ _ _ _ _ _ _ (.int .i64 ts[t]) (.bool true) (by omega) (by omega) st2 hnode2 hM2 (imSet_keys hk _ _ _) hget2 (by omega) hw1M hV2 (by omega) hw1T dT
    refine ⟨H', n', W', es', clock', D', A', U', P', R', rk', y3, ?_, g2, g3, g4, g5, g6, sm2.step g7 (fun x hx => ?_) ln1, fun x hx => ?_, by omega⟩
    · rw [← g1]
      refine codeL_loop_iff ?_
      rw [eA]
      simp (disch := omega) only [go_sem, Nat.reduceAdd, Nat.reduceMul, Nat.reduceLeDiff, B_27_1, lvS, hHA, hra, hS0, e1, hM1, mapSetO_im hk, hH2]
      rw [ordIf_ok]
      · simp (disch := omega) only [go_sem, cast_add1]
      · refine orderly_mix (by simp [M_27_0]) 768 rfl _ K_27_0 ?_
        intro x hx
        simp only [List.mem_cons, List.not_mem_nil, or_false] at hx
        rcases hx with rfl | rfl | rfl | rfl | rfl
        · exact .inl rfl
        · refine .inr (.inl (free_of [8] 768 rfl (by simp) rfl rfl ?_ ?_))
          · simp (disch := omega) only [go_sem, freeAt, hS0]
          · intro j hj
            simp only [List.mem_cons, List.not_mem_nil, or_false] at hj
            subst hj
            simp (disch := omega) only [go_sem, Nat.reduceAdd, freeAt, hS0, e1, hS1]
        · exact .inl rfl
        · exact .inl rfl
        · exact .inl rfl
    · rcases List.mem_cons.1 hx with rfl | hx
      · exact .inl (by simp)
      · rcases w1 _ hx with e | e
        · exact .inl (by simp [e])
        · exact .inr e
    · rcases g8 x hx with e | e
      · exact w1 x e
      · exact .inr (by omega)
def prows (us : List Nat) (t : Nat) : List (List PV) := (List.range t).map fun j => [.int .i64 (us.getD j 0 : Nat), uvar (j : Nat)]
theorem prows_succ (us : List Nat) (t : Nat) : prows us (t + 1) = prows us t ++ [[.int .i64 (us.getD t 0 : Nat), uvar (t : Nat)]] := by simp [prows, List.range_succ]
theorem Store.setpl {H : Heap} {n cnt len : Nat} {W : List Nat} {nm pl' : PV} {D : Nat → Nd} {A : Nat → List Nat} {U : Nat → List PV} {P R rk : Nat → Nat} (st : Store H n idS W pv nm up pl cnt len D A U P R rk) {nv wv : PV}
    (hS : H.get idS = some (srow pv nv wv (.int .i64 cnt) nm up pl)) : Store (H.set idS (srow pv nv wv (.int .i64 cnt) nm up pl')) n idS W pv nm up pl' cnt len D A U P R rk := by
  obtain ⟨⟨nv', wv', h1, h2, h3⟩, h4, h5, h6, h7⟩ := st
  have e : nv' = nv ∧ wv' = wv := by rw [hS] at h1; cases h1; exact ⟨rfl, rfl⟩
  obtain ⟨rfl, rfl⟩ := e
  refine ⟨⟨nv', wv', get_same _ _ _, ?_, ?_⟩, h4, h5, h6, h7.same ((Same.refl _ _ _).set _ (.inl h4))⟩
  · rcases h2 with c | ⟨idN, ver, c1, c2, c3⟩
    · exact .inl c
    · refine .inr ⟨idN, ver, c1, c2, ?_⟩
      rw [get_other _ _ (by rintro rfl; rw [hS] at c3; cases c3)]; exact c3
  · rcases h3 with c | ⟨idP, c1, c2⟩
    · exact .inl c
    · refine .inr ⟨idP, c1, c2.same (get_other _ _ ?_)⟩
      rintro rfl
      obtain ⟨v, r, _, g⟩ := c2
      rw [hS] at g; cases g
theorem Store.beside {H H1 : Heap} {n n1 cnt len : Nat} {W : List Nat} {nm : PV} {D : Nat → Nd} {A : Nat → List Nat} {U : Nat → List PV} {P R rk : Nat → Nat} (st : Store H n idS W pv nm up pl cnt len D A U P R rk) {w : Nat} (hw : w ∉ W)
    (hX : Sto H n ([w] ++ W) len D A U) (hs : ∀ id, id ≠ w → H1.get id = H.get id) (hn : n ≤ n1) : Store H1 n1 idS W pv nm up pl cnt len D A U P R rk := by
  obtain ⟨⟨nv, wv, hS, hnv, hwv⟩, own, lt, ups, sto⟩ := st
  have hne : ∀ x ∈ W, x ≠ w := fun x hx e => hw (e ▸ hx)
  refine ⟨⟨nv, wv, by rw [hs _ (hne _ own)]; exact hS, ?_, ?_⟩, own, fun x hx => by have := lt x hx; omega, ups, (hX.same (fun id _ h2 => hs id (by simp at h2; exact h2.1))).wider (fun x hx => .inl (by simp [hx])) hn⟩
  · rcases hnv with c | ⟨idN, ver, c1, c2, c3⟩
    · exact .inl c
    · exact .inr ⟨idN, ver, c1, c2, (hs _ (hne _ c1)).trans c3⟩
  · rcases hwv with c | ⟨idP, c1, c2⟩
    · exact .inl c
    · exact .inr ⟨idP, c1, c2.same (hs _ (hne _ c1))⟩
theorem lay_place {nm : PV} {len idU idQ n0 : Nat} {m1 m2 uv : PV} {us : List Nat} {W : List Nat} {D : Nat → Nd} {A : Nat → List Nat} {U : Nat → List PV} {P R rk : Nat → Nat} (hl : us.length < 100000) (wU : idU ∉ W) (wQ : idQ ∉ W) (dUQ : idQ ≠ idU)
    (hv : ∀ i, i < len → D i = vnode ∧ A i = [] ∧ U i = []) : ∀ (d t : Nat) (H : Heap) (n : Nat) (pl x4 x5 x13 : PV), us.length - t = d → t ≤ us.length → Store H n idS W pv nm (.ptr idU 0 3 0 0) pl 0 len D A U P R rk →
    H.get idU = some (.arr 0 3 [[m1, m2, .int .i64 t]]) → ((pl = .nils ∧ prows us t = []) ∨ ∃ id, n0 ≤ id ∧ id < n ∧ id ∉ W ∧ VW H 2 id pl (prows us t)) → idU < n0 → n0 ≤ n → VW H 1 idQ uv (irows us) → idQ < n0 → (∀ x ∈ W, x < n0) →
    ∃ (H' : Heap) (n' : Nat) (pl' y4 y5 : PV), codeL Gf (.loop B_27_0) ⟨lvS x0 x1 (.ptr idS 0 7 0 0) x3 x4 x5 x6 x7 x8 x9 uv (.int .i64 us.length) (.int .i64 t) x13, H, n⟩ =
        some (.exit 2, ⟨lvS x0 x1 (.ptr idS 0 7 0 0) x3 y4 y5 x6 x7 x8 x9 uv (.int .i64 us.length) (.int .i64 us.length) (.bool false), H', n'⟩) ∧
      Store H' n' idS W pv nm (.ptr idU 0 3 0 0) pl' 0 len D A U P R rk ∧ H'.get idU = some (.arr 0 3 [[m1, m2, .int .i64 us.length]]) ∧ ((pl' = .nils ∧ prows us us.length = []) ∨ ∃ id, n0 ≤ id ∧ id < n' ∧ id ∉ W ∧ VW H' 2 id pl' (prows us us.length)) ∧
      (∀ id, id < n0 → id ≠ idU → id ≠ idS → H'.get id = H.get id) ∧ n ≤ n' := by
  intro d
  induction d with
  | zero =>
    intro t H n pl x4 x5 x13 hd ht st hU hpl lU ln hQ lQ hW
    have e : t = us.length := by omega
    subst e
    refine ⟨H, n, pl, x4, x5, codeL_loop_end ?_ (by simp), st, hU, hpl, fun _ _ _ _ => rfl, Nat.le_refl _⟩
    simp (disch := omega) only [go_sem, B_27_0, lvS]
  | succ d ih =>
    intro t H n pl x4 x5 x13 hd ht st hU hpl lU ln hQ lQ hW
    have htl : t < us.length := by omega
    have lS := hW _ st.own
    have dSU : idS ≠ idU := fun e => wU (e ▸ st.own)
    have dSQ : idS ≠ idQ := fun e => wQ (e ▸ st.own)
    obtain ⟨va, ra, rfl, hHA⟩ := id hQ
    have eA : (irows us).length = us.length := by simp [irows]
    have hra := irows_at htl ra
    have eg : us.getD t 0 = us[t] := by simp [List.getD_eq_getElem?_getD, htl]
    obtain ⟨nv, wv, hS, _, _⟩ := id st.row
    have e1 := units_fresh (n := n) hU (by omega)
    generalize hH1 : H.set idU (.arr 0 3 [[m1, m2, .int .i64 (t + 1 : Nat)]]) = H1 at e1
    have hH1o : ∀ id, id ≠ idU → H1.get id = H.get id := fun id hid => by rw [← hH1]; exact get_other _ _ (Ne.symm hid)
    have noA : ∀ (H : Heap) (n : Nat) (W : List Nat), Sto H n W len D A U := fun H n W =>
      ⟨fun i hi => by obtain ⟨g1, g2, g3⟩ := hv i hi; rw [g1, g2]; exact .inl ⟨rfl, rfl⟩, fun i hi => by obtain ⟨g1, g2, g3⟩ := hv i hi; rw [g1, g3]; exact .inl ⟨rfl, rfl⟩, fun i hi a ha => by obtain ⟨_, g2, _⟩ := hv i hi; rw [g2] at ha; simp at ha, fun i hi u hu => by obtain ⟨_, _, g2⟩ := hv i hi; rw [g2] at hu; simp at hu⟩
    have st1 : Store H1 n idS W pv nm (.ptr idU 0 3 0 0) pl 0 len D A U P R rk := st.beside wU (noA _ _ _) hH1o (Nat.le_refl _)
    have hS1 : H1.get idS = some (srow pv nv wv (.int .i64 (0 : Nat)) nm (.ptr idU 0 3 0 0) pl) := (hH1o _ dSU).trans hS
    have hpl1 : (pl = .nils ∧ prows us t = []) ∨ ∃ id, VW H1 2 id pl (prows us t) ∧ id < n := by
      rcases hpl with c | ⟨id, c1, c2, _, c3⟩
      · exact .inl c
      · exact .inr ⟨id, c3.same (hH1o _ (by omega)), c2⟩
    obtain ⟨pl', H2, n2, w, happ, hV2, hs2, hw2, hn2, hww⟩ := app1 (k := 2) (bytes := 32) (n := n) (row := [.int .i64 (us[t] : Nat), uvar (t : Nat)]) hpl1 (by simp [prows]; omega)
    have hw0 : n0 ≤ w ∧ w ∉ W := by
      rcases hww with rfl | hww
      · exact ⟨ln, fun hm => by have := hW _ hm; omega⟩
      · rcases hpl with ⟨c, _⟩ | ⟨id, c1, c2, c3, c4⟩
        · obtain ⟨_, _, e, _⟩ := hww; rw [c] at e; cases e
        · have e : w = id := by
            obtain ⟨_, _, e1, _⟩ := hww
            obtain ⟨_, _, e2, _⟩ := c4
            rw [e1] at e2; cases e2; rfl
          rw [e]; exact ⟨c1, c3⟩
    have st2 : Store H2 n2 idS W pv nm (.ptr idU 0 3 0 0) pl 0 len D A U P R rk := st1.beside hw0.2 (noA _ _ _) hs2 hn2
    have hS2 : H2.get idS = some (srow pv nv wv (.int .i64 (0 : Nat)) nm (.ptr idU 0 3 0 0) pl) := (hs2 _ (by omega)).trans hS1
    have st3 := st2.setpl (pl' := pl') hS2
    have hU3 : (H2.set idS (srow pv nv wv (.int .i64 (0 : Nat)) nm (.ptr idU 0 3 0 0) pl')).get idU = some (.arr 0 3 [[m1, m2, .int .i64 (t + 1 : Nat)]]) := by
      rw [get_other _ _ dSU, hs2 _ (by omega), ← hH1, get_same]
    obtain ⟨H', n', plE, y4, y5, g1, g2, g3, g4, g5, g6⟩ := ih (t + 1) _ n2 pl' (.int .i64 us[t]) (uvar (t : Nat)) (.bool true) (by omega) (by omega) st3 hU3
      (.inr ⟨w, hw0.1, hw2, hw0.2, by rw [prows_succ, eg]; exact hV2.same (get_other _ _ (by omega))⟩) lU (by omega) (hQ.same (by rw [get_other _ _ dSQ, hs2 _ (by omega), hH1o _ dUQ])) lQ hW
    refine ⟨H', n', plE, y4, y5, ?_, g2, g3, g4, fun id h1 h2 h3 => by rw [g5 id h1 h2 h3, get_other _ _ (Ne.symm h3), hs2 _ (by omega), hH1o _ h2], by omega⟩
    rw [← g1]
    refine codeL_loop_iff ?_
    rw [eA]
    have eof := unitOf_var (t : Int) (by omega) (by omega)
    have hS1' : H1.get idS = some (srow pv nv wv (.int .i64 0) nm (.ptr idU 0 3 0 0) pl) := hS1
    have hS2' : H2.get idS = some (srow pv nv wv (.int .i64 0) nm (.ptr idU 0 3 0 0) pl) := hS2
    have hS0' : H.get idS = some (srow pv nv wv (.int .i64 0) nm (.ptr idU 0 3 0 0) pl) := hS
    have hcp := hV2.cells
    simp only [uvar] at eof happ ⊢
    simp (disch := omega) only [go_sem, Nat.reduceAdd, Nat.reduceLeDiff, Nat.reduceBEq, Nat.reduceLT, B_27_0, lvS, hHA, hra, hS0', e1, eof, hS1', happ, hcp, hS2', cast_add1]
    rfl
end
end Go.Vm
