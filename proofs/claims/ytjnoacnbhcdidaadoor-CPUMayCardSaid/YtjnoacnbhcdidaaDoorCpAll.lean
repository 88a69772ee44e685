/- The processor: all ways of its functions. (Printed by gencp.py.) -/
import Derived.Test.YtjnoacnbhcdidaaDoorCpEqA
import Derived.Test.YtjnoacnbhcdidaaDoorCpEqB
import Derived.Test.YtjnoacnbhcdidaaDoorCpEqC
import Derived.Test.YtjnoacnbhcdidaaDoorCpEqD
import Derived.Test.YtjnoacnbhcdidaaDoorCpShA
import Derived.Test.YtjnoacnbhcdidaaDoorCpShB
import Derived.Test.YtjnoacnbhcdidaaDoorCpShC
import Derived.Test.YtjnoacnbhcdidaaDoorCpShD
namespace Go.Proofs.YtjnoacnbhcdidaaDoor.K
open Go Sy
set_option maxRecDepth 100000
set_option linter.unusedVariables false
set_option linter.unusedSimpArgs false
def gs1 : List (Int × Int) := [(0, 255)]
theorem st1 : (gs1.all fun g => stepEq 1 g) = true := by
  simp only [gs1, List.all_cons, List.all_nil, Bool.and_true, st1_0, Bool.and_self]
theorem dr1 : (gs1.all fun g => driveEq 1 g) = true := by
  simp only [gs1, List.all_cons, List.all_nil, Bool.and_true, dr1_0, Bool.and_self]
theorem my1 : (gs1.all fun g => stepMay 1 g) = true := by
  simp only [gs1, List.all_cons, List.all_nil, Bool.and_true, my1_0, Bool.and_self]
theorem ds1 : (gs1.all fun g => driveShp 1 g) = true := by
  simp only [gs1, List.all_cons, List.all_nil, Bool.and_true, ds1_0, Bool.and_self]
def gs2 : List (Int × Int) := [(0, 0), (1, 15), (16, 31), (32, 47), (48, 48), (49, 49), (50, 50), (51, 51), (52, 52), (53, 53), (54, 54), (55, 55), (56, 56), (57, 57), (58, 58), (59, 59), (60, 60), (61, 61), (62, 62), (63, 63), (64, 79), (80, 95), (96, 96), (97, 103), (104, 104), (105, 111), (112, 112), (113, 113), (114, 114), (115, 115), (116, 116), (117, 117), (118, 118), (119, 119), (120, 120), (121, 121), (122, 122), (123, 123), (124, 124), (125, 125), (126, 126), (127, 127), (128, 143), (144, 159), (160, 175), (176, 191), (192, 192), (193, 193), (194, 194), (195, 195), (196, 196), (197, 197), (198, 198), (199, 199), (200, 200), (201, 201), (202, 202), (203, 203), (204, 204), (205, 205), (206, 206), (207, 207), (208, 223), (224, 239), (240, 240), (241, 241), (242, 242), (243, 243), (244, 244), (245, 245), (246, 246), (247, 247), (248, 248), (249, 249), (250, 250), (251, 251), (252, 252), (253, 253), (254, 254), (255, 255)]
theorem st2 : (gs2.all fun g => stepEq 2 g) = true := by
  simp only [gs2, List.all_cons, List.all_nil, Bool.and_true, st2_0, st2_1, st2_16, st2_32, st2_48, st2_49, st2_50, st2_51, st2_52, st2_53, st2_54, st2_55, st2_56, st2_57, st2_58, st2_59, st2_60, st2_61, st2_62, st2_63, st2_64, st2_80, st2_96, st2_97, st2_104, st2_105, st2_112, st2_113, st2_114, st2_115, st2_116, st2_117, st2_118, st2_119, st2_120, st2_121, st2_122, st2_123, st2_124, st2_125, st2_126, st2_127, st2_128, st2_144, st2_160, st2_176, st2_192, st2_193, st2_194, st2_195, st2_196, st2_197, st2_198, st2_199, st2_200, st2_201, st2_202, st2_203, st2_204, st2_205, st2_206, st2_207, st2_208, st2_224, st2_240, st2_241, st2_242, st2_243, st2_244, st2_245, st2_246, st2_247, st2_248, st2_249, st2_250, st2_251, st2_252, st2_253, st2_254, st2_255, Bool.and_self]
theorem dr2 : (gs2.all fun g => driveEq 2 g) = true := by
  simp only [gs2, List.all_cons, List.all_nil, Bool.and_true, dr2_0, dr2_1, dr2_16, dr2_32, dr2_48, dr2_49, dr2_50, dr2_51, dr2_52, dr2_53, dr2_54, dr2_55, dr2_56, dr2_57, dr2_58, dr2_59, dr2_60, dr2_61, dr2_62, dr2_63, dr2_64, dr2_80, dr2_96, dr2_97, dr2_104, dr2_105, dr2_112, dr2_113, dr2_114, dr2_115, dr2_116, dr2_117, dr2_118, dr2_119, dr2_120, dr2_121, dr2_122, dr2_123, dr2_124, dr2_125, dr2_126, dr2_127, dr2_128, dr2_144, dr2_160, dr2_176, dr2_192, dr2_193, dr2_194, dr2_195, dr2_196, dr2_197, dr2_198, dr2_199, dr2_200, dr2_201, dr2_202, dr2_203, dr2_204, dr2_205, dr2_206, dr2_207, dr2_208, dr2_224, dr2_240, dr2_241, dr2_242, dr2_243, dr2_244, dr2_245, dr2_246, dr2_247, dr2_248, dr2_249, dr2_250, dr2_251, dr2_252, dr2_253, dr2_254, dr2_255, Bool.and_self]
theorem my2 : (gs2.all fun g => stepMay 2 g) = true := by
  simp only [gs2, List.all_cons, List.all_nil, Bool.and_true, my2_0, my2_1, my2_16, my2_32, my2_48, my2_49, my2_50, my2_51, my2_52, my2_53, my2_54, my2_55, my2_56, my2_57, my2_58, my2_59, my2_60, my2_61, my2_62, my2_63, my2_64, my2_80, my2_96, my2_97, my2_104, my2_105, my2_112, my2_113, my2_114, my2_115, my2_116, my2_117, my2_118, my2_119, my2_120, my2_121, my2_122, my2_123, my2_124, my2_125, my2_126, my2_127, my2_128, my2_144, my2_160, my2_176, my2_192, my2_193, my2_194, my2_195, my2_196, my2_197, my2_198, my2_199, my2_200, my2_201, my2_202, my2_203, my2_204, my2_205, my2_206, my2_207, my2_208, my2_224, my2_240, my2_241, my2_242, my2_243, my2_244, my2_245, my2_246, my2_247, my2_248, my2_249, my2_250, my2_251, my2_252, my2_253, my2_254, my2_255, Bool.and_self]
theorem ds2 : (gs2.all fun g => driveShp 2 g) = true := by
  simp only [gs2, List.all_cons, List.all_nil, Bool.and_true, ds2_0, ds2_1, ds2_16, ds2_32, ds2_48, ds2_49, ds2_50, ds2_51, ds2_52, ds2_53, ds2_54, ds2_55, ds2_56, ds2_57, ds2_58, ds2_59, ds2_60, ds2_61, ds2_62, ds2_63, ds2_64, ds2_80, ds2_96, ds2_97, ds2_104, ds2_105, ds2_112, ds2_113, ds2_114, ds2_115, ds2_116, ds2_117, ds2_118, ds2_119, ds2_120, ds2_121, ds2_122, ds2_123, ds2_124, ds2_125, ds2_126, ds2_127, ds2_128, ds2_144, ds2_160, ds2_176, ds2_192, ds2_193, ds2_194, ds2_195, ds2_196, ds2_197, ds2_198, ds2_199, ds2_200, ds2_201, ds2_202, ds2_203, ds2_204, ds2_205, ds2_206, ds2_207, ds2_208, ds2_224, ds2_240, ds2_241, ds2_242, ds2_243, ds2_244, ds2_245, ds2_246, ds2_247, ds2_248, ds2_249, ds2_250, ds2_251, ds2_252, ds2_253, ds2_254, ds2_255, Bool.and_self]
def gs3 : List (Int × Int) := [(0, 191), (192, 192), (193, 193), (194, 194), (195, 195), (196, 196), (197, 197), (198, 198), (199, 199), (200, 200), (201, 201), (202, 202), (203, 203), (204, 204), (205, 205), (206, 206), (207, 207), (208, 255)]
theorem st3 : (gs3.all fun g => stepEq 3 g) = true := by
  simp only [gs3, List.all_cons, List.all_nil, Bool.and_true, st3_0, st3_192, st3_193, st3_194, st3_195, st3_196, st3_197, st3_198, st3_199, st3_200, st3_201, st3_202, st3_203, st3_204, st3_205, st3_206, st3_207, st3_208, Bool.and_self]
theorem dr3 : (gs3.all fun g => driveEq 3 g) = true := by
  simp only [gs3, List.all_cons, List.all_nil, Bool.and_true, dr3_0, dr3_192, dr3_193, dr3_194, dr3_195, dr3_196, dr3_197, dr3_198, dr3_199, dr3_200, dr3_201, dr3_202, dr3_203, dr3_204, dr3_205, dr3_206, dr3_207, dr3_208, Bool.and_self]
theorem my3 : (gs3.all fun g => stepMay 3 g) = true := by
  simp only [gs3, List.all_cons, List.all_nil, Bool.and_true, my3_0, my3_192, my3_193, my3_194, my3_195, my3_196, my3_197, my3_198, my3_199, my3_200, my3_201, my3_202, my3_203, my3_204, my3_205, my3_206, my3_207, my3_208, Bool.and_self]
theorem ds3 : (gs3.all fun g => driveShp 3 g) = true := by
  simp only [gs3, List.all_cons, List.all_nil, Bool.and_true, ds3_0, ds3_192, ds3_193, ds3_194, ds3_195, ds3_196, ds3_197, ds3_198, ds3_199, ds3_200, ds3_201, ds3_202, ds3_203, ds3_204, ds3_205, ds3_206, ds3_207, ds3_208, Bool.and_self]
def gs4 : List (Int × Int) := [(0, 0), (1, 255)]
theorem st4 : (gs4.all fun g => stepEq 4 g) = true := by
  simp only [gs4, List.all_cons, List.all_nil, Bool.and_true, st4_0, st4_1, Bool.and_self]
theorem dr4 : (gs4.all fun g => driveEq 4 g) = true := by
  simp only [gs4, List.all_cons, List.all_nil, Bool.and_true, dr4_0, dr4_1, Bool.and_self]
theorem my4 : (gs4.all fun g => stepMay 4 g) = true := by
  simp only [gs4, List.all_cons, List.all_nil, Bool.and_true, my4_0, my4_1, Bool.and_self]
theorem ds4 : (gs4.all fun g => driveShp 4 g) = true := by
  simp only [gs4, List.all_cons, List.all_nil, Bool.and_true, ds4_0, ds4_1, Bool.and_self]
def gs5 : List (Int × Int) := [(0, 0), (1, 255)]
theorem st5 : (gs5.all fun g => stepEq 5 g) = true := by
  simp only [gs5, List.all_cons, List.all_nil, Bool.and_true, st5_0, st5_1, Bool.and_self]
theorem dr5 : (gs5.all fun g => driveEq 5 g) = true := by
  simp only [gs5, List.all_cons, List.all_nil, Bool.and_true, dr5_0, dr5_1, Bool.and_self]
theorem my5 : (gs5.all fun g => stepMay 5 g) = true := by
  simp only [gs5, List.all_cons, List.all_nil, Bool.and_true, my5_0, my5_1, Bool.and_self]
theorem ds5 : (gs5.all fun g => driveShp 5 g) = true := by
  simp only [gs5, List.all_cons, List.all_nil, Bool.and_true, ds5_0, ds5_1, Bool.and_self]
def gs6 : List (Int × Int) := [(0, 255)]
theorem st6 : (gs6.all fun g => stepEq 6 g) = true := by
  simp only [gs6, List.all_cons, List.all_nil, Bool.and_true, st6_0, Bool.and_self]
theorem dr6 : (gs6.all fun g => driveEq 6 g) = true := by
  simp only [gs6, List.all_cons, List.all_nil, Bool.and_true, dr6_0, Bool.and_self]
theorem my6 : (gs6.all fun g => stepMay 6 g) = true := by
  simp only [gs6, List.all_cons, List.all_nil, Bool.and_true, my6_0, Bool.and_self]
theorem ds6 : (gs6.all fun g => driveShp 6 g) = true := by
  simp only [gs6, List.all_cons, List.all_nil, Bool.and_true, ds6_0, Bool.and_self]
def gs7 : List (Int × Int) := [(0, 255)]
theorem st7 : (gs7.all fun g => stepEq 7 g) = true := by
  simp only [gs7, List.all_cons, List.all_nil, Bool.and_true, st7_0, Bool.and_self]
theorem dr7 : (gs7.all fun g => driveEq 7 g) = true := by
  simp only [gs7, List.all_cons, List.all_nil, Bool.and_true, dr7_0, Bool.and_self]
theorem my7 : (gs7.all fun g => stepMay 7 g) = true := by
  simp only [gs7, List.all_cons, List.all_nil, Bool.and_true, my7_0, Bool.and_self]
theorem ds7 : (gs7.all fun g => driveShp 7 g) = true := by
  simp only [gs7, List.all_cons, List.all_nil, Bool.and_true, ds7_0, Bool.and_self]
def gs8 : List (Int × Int) := [(0, 255)]
theorem st8 : (gs8.all fun g => stepEq 8 g) = true := by
  simp only [gs8, List.all_cons, List.all_nil, Bool.and_true, st8_0, Bool.and_self]
theorem dr8 : (gs8.all fun g => driveEq 8 g) = true := by
  simp only [gs8, List.all_cons, List.all_nil, Bool.and_true, dr8_0, Bool.and_self]
theorem my8 : (gs8.all fun g => stepMay 8 g) = true := by
  simp only [gs8, List.all_cons, List.all_nil, Bool.and_true, my8_0, Bool.and_self]
theorem ds8 : (gs8.all fun g => driveShp 8 g) = true := by
  simp only [gs8, List.all_cons, List.all_nil, Bool.and_true, ds8_0, Bool.and_self]
end Go.Proofs.YtjnoacnbhcdidaaDoor.K
