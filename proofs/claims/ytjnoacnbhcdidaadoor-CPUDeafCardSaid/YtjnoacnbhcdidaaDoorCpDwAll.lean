/- deafQ: all its ways. (Printed by genways.py.) -/
import Derived.Test.YtjnoacnbhcdidaaDoorCpDwA
import Derived.Test.YtjnoacnbhcdidaaDoorCpDwB
import Derived.Test.YtjnoacnbhcdidaaDoorCpDwC
import Derived.Test.YtjnoacnbhcdidaaDoorCpDwJ
import Derived.Test.YtjnoacnbhcdidaaDoorCpDwK
import Derived.Test.YtjnoacnbhcdidaaDoorCpDwL
import Derived.Test.YtjnoacnbhcdidaaDoorCpDwG
import Derived.Test.YtjnoacnbhcdidaaDoorCpDwH
import Derived.Test.YtjnoacnbhcdidaaDoorCpDwI
import Derived.Test.YtjnoacnbhcdidaaDoorCpDwD
import Derived.Test.YtjnoacnbhcdidaaDoorCpDwE
import Derived.Test.YtjnoacnbhcdidaaDoorCpDwF
namespace Go.Proofs.YtjnoacnbhcdidaaDoor.K
open Go Sy
set_option maxRecDepth 100000
set_option linter.unusedVariables false
set_option linter.unusedSimpArgs false
theorem dw1 : (gs1.all fun g => deafQ (grp .u8 4 g).1 (.lit 1) (grp .u8 4 g).2) = true := by
  simp only [gs1, List.all_cons, List.all_nil, Bool.and_true, dw1_0, Bool.and_self]
def gs2D : List (Int × Int) := [(0, 0), (1, 15), (16, 31), (32, 47), (48, 48), (49, 49), (50, 50), (51, 51), (52, 52), (53, 53), (54, 54), (55, 55), (56, 56), (57, 57), (58, 58), (59, 59), (60, 60), (61, 61), (62, 62), (63, 63), (64, 79), (80, 95), (96, 96), (97, 97), (98, 98), (99, 99), (100, 100), (101, 101), (102, 102), (103, 103), (104, 104), (105, 105), (106, 106), (107, 107), (108, 108), (109, 109), (110, 110), (111, 111), (112, 112), (113, 113), (114, 114), (115, 115), (116, 116), (117, 117), (118, 118), (119, 119), (120, 120), (121, 121), (122, 122), (123, 123), (124, 124), (125, 125), (126, 126), (127, 127), (128, 143), (144, 159), (160, 175), (176, 191), (192, 192), (193, 193), (194, 194), (195, 195), (196, 196), (197, 197), (198, 198), (199, 199), (200, 200), (201, 201), (202, 202), (203, 203), (204, 204), (205, 205), (206, 206), (207, 207), (208, 223), (224, 239), (240, 240), (241, 241), (242, 242), (243, 243), (244, 244), (245, 245), (246, 246), (247, 247), (248, 248), (249, 249), (250, 250), (251, 251), (252, 252), (253, 253), (254, 254), (255, 255)]
theorem dw2 : (gs2D.all fun g => deafQ (grp .u8 4 g).1 (.lit 2) (grp .u8 4 g).2) = true := by
  simp only [gs2D, List.all_cons, List.all_nil, Bool.and_true, dw2_0, dw2_1, dw2_16, dw2_32, dw2_48, dw2_49, dw2_50, dw2_51, dw2_52, dw2_53, dw2_54, dw2_55, dw2_56, dw2_57, dw2_58, dw2_59, dw2_60, dw2_61, dw2_62, dw2_63, dw2_64, dw2_80, dw2_96, dw2_97, dw2_98, dw2_99, dw2_100, dw2_101, dw2_102, dw2_103, dw2_104, dw2_105, dw2_106, dw2_107, dw2_108, dw2_109, dw2_110, dw2_111, dw2_112, dw2_113, dw2_114, dw2_115, dw2_116, dw2_117, dw2_118, dw2_119, dw2_120, dw2_121, dw2_122, dw2_123, dw2_124, dw2_125, dw2_126, dw2_127, dw2_128, dw2_144, dw2_160, dw2_176, dw2_192, dw2_193, dw2_194, dw2_195, dw2_196, dw2_197, dw2_198, dw2_199, dw2_200, dw2_201, dw2_202, dw2_203, dw2_204, dw2_205, dw2_206, dw2_207, dw2_208, dw2_224, dw2_240, dw2_241, dw2_242, dw2_243, dw2_244, dw2_245, dw2_246, dw2_247, dw2_248, dw2_249, dw2_250, dw2_251, dw2_252, dw2_253, dw2_254, dw2_255, Bool.and_self]
theorem dw3 : (gs3.all fun g => deafQ (grp .u8 4 g).1 (.lit 3) (grp .u8 4 g).2) = true := by
  simp only [gs3, List.all_cons, List.all_nil, Bool.and_true, dw3_0, dw3_192, dw3_193, dw3_194, dw3_195, dw3_196, dw3_197, dw3_198, dw3_199, dw3_200, dw3_201, dw3_202, dw3_203, dw3_204, dw3_205, dw3_206, dw3_207, dw3_208, Bool.and_self]
theorem dw4 : (gs4.all fun g => deafQ (grp .u8 4 g).1 (.lit 4) (grp .u8 4 g).2) = true := by
  simp only [gs4, List.all_cons, List.all_nil, Bool.and_true, dw4_0, dw4_1, Bool.and_self]
theorem dw5 : (gs5.all fun g => deafQ (grp .u8 4 g).1 (.lit 5) (grp .u8 4 g).2) = true := by
  simp only [gs5, List.all_cons, List.all_nil, Bool.and_true, dw5_0, dw5_1, Bool.and_self]
theorem dw6 : (gs6.all fun g => deafQ (grp .u8 4 g).1 (.lit 6) (grp .u8 4 g).2) = true := by
  simp only [gs6, List.all_cons, List.all_nil, Bool.and_true, dw6_0, Bool.and_self]
theorem dw7 : (gs7.all fun g => deafQ (grp .u8 4 g).1 (.lit 7) (grp .u8 4 g).2) = true := by
  simp only [gs7, List.all_cons, List.all_nil, Bool.and_true, dw7_0, Bool.and_self]
theorem dw8 : (gs8.all fun g => deafQ (grp .u8 4 g).1 (.lit 8) (grp .u8 4 g).2) = true := by
  simp only [gs8, List.all_cons, List.all_nil, Bool.and_true, dw8_0, Bool.and_self]
end Go.Proofs.YtjnoacnbhcdidaaDoor.K
