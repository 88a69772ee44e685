/- mayL: all its ways. (Printed by genways.py.) -/
import Derived.Test.YtjnoacnbhcdidaaDoorCpMwA
import Derived.Test.YtjnoacnbhcdidaaDoorCpMwB
import Derived.Test.YtjnoacnbhcdidaaDoorCpMwC
namespace Go.Proofs.YtjnoacnbhcdidaaDoor.K
open Go Sy
set_option maxRecDepth 100000
set_option linter.unusedVariables false
set_option linter.unusedSimpArgs false
theorem mq1 : (gs1.all fun g => mayL (grp .u8 4 g).1 (.lit 1) (grp .u8 4 g).2) = true := by
  simp only [gs1, List.all_cons, List.all_nil, Bool.and_true, mq1_0, Bool.and_self]
theorem mq2 : (gs2.all fun g => mayL (grp .u8 4 g).1 (.lit 2) (grp .u8 4 g).2) = true := by
  simp only [gs2, List.all_cons, List.all_nil, Bool.and_true, mq2_0, mq2_1, mq2_16, mq2_32, mq2_48, mq2_49, mq2_50, mq2_51, mq2_52, mq2_53, mq2_54, mq2_55, mq2_56, mq2_57, mq2_58, mq2_59, mq2_60, mq2_61, mq2_62, mq2_63, mq2_64, mq2_80, mq2_96, mq2_97, mq2_104, mq2_105, mq2_112, mq2_113, mq2_114, mq2_115, mq2_116, mq2_117, mq2_118, mq2_119, mq2_120, mq2_121, mq2_122, mq2_123, mq2_124, mq2_125, mq2_126, mq2_127, mq2_128, mq2_144, mq2_160, mq2_176, mq2_192, mq2_193, mq2_194, mq2_195, mq2_196, mq2_197, mq2_198, mq2_199, mq2_200, mq2_201, mq2_202, mq2_203, mq2_204, mq2_205, mq2_206, mq2_207, mq2_208, mq2_224, mq2_240, mq2_241, mq2_242, mq2_243, mq2_244, mq2_245, mq2_246, mq2_247, mq2_248, mq2_249, mq2_250, mq2_251, mq2_252, mq2_253, mq2_254, mq2_255, Bool.and_self]
theorem mq3 : (gs3.all fun g => mayL (grp .u8 4 g).1 (.lit 3) (grp .u8 4 g).2) = true := by
  simp only [gs3, List.all_cons, List.all_nil, Bool.and_true, mq3_0, mq3_192, mq3_193, mq3_194, mq3_195, mq3_196, mq3_197, mq3_198, mq3_199, mq3_200, mq3_201, mq3_202, mq3_203, mq3_204, mq3_205, mq3_206, mq3_207, mq3_208, Bool.and_self]
theorem mq4 : (gs4.all fun g => mayL (grp .u8 4 g).1 (.lit 4) (grp .u8 4 g).2) = true := by
  simp only [gs4, List.all_cons, List.all_nil, Bool.and_true, mq4_0, mq4_1, Bool.and_self]
theorem mq5 : (gs5.all fun g => mayL (grp .u8 4 g).1 (.lit 5) (grp .u8 4 g).2) = true := by
  simp only [gs5, List.all_cons, List.all_nil, Bool.and_true, mq5_0, mq5_1, Bool.and_self]
theorem mq6 : (gs6.all fun g => mayL (grp .u8 4 g).1 (.lit 6) (grp .u8 4 g).2) = true := by
  simp only [gs6, List.all_cons, List.all_nil, Bool.and_true, mq6_0, Bool.and_self]
theorem mq7 : (gs7.all fun g => mayL (grp .u8 4 g).1 (.lit 7) (grp .u8 4 g).2) = true := by
  simp only [gs7, List.all_cons, List.all_nil, Bool.and_true, mq7_0, Bool.and_self]
theorem mq8 : (gs8.all fun g => mayL (grp .u8 4 g).1 (.lit 8) (grp .u8 4 g).2) = true := by
  simp only [gs8, List.all_cons, List.all_nil, Bool.and_true, mq8_0, Bool.and_self]
theorem mqAll : phases mayL := ⟨mq1, mq2, mq3, mq4, mq5, mq6, mq7, mq8⟩
end Go.Proofs.YtjnoacnbhcdidaaDoor.K
