/- mayL: some of its ways. (Printed by genways.py.) -/
import Derived.Test.YtjnoacnbhcdidaaDoorCpMay0
namespace Go.Proofs.YtjnoacnbhcdidaaDoor.K
open Go Sy
set_option maxRecDepth 100000
set_option linter.unusedVariables false
set_option linter.unusedSimpArgs false

theorem mq2_0 : mayL (grp .u8 4 (0, 0)).1 (.lit 2) (grp .u8 4 (0, 0)).2 = true := by kernel_rfl
theorem mq2_32 : mayL (grp .u8 4 (32, 47)).1 (.lit 2) (grp .u8 4 (32, 47)).2 = true := by kernel_rfl
theorem mq2_50 : mayL (grp .u8 4 (50, 50)).1 (.lit 2) (grp .u8 4 (50, 50)).2 = true := by kernel_rfl
theorem mq2_53 : mayL (grp .u8 4 (53, 53)).1 (.lit 2) (grp .u8 4 (53, 53)).2 = true := by kernel_rfl
theorem mq2_56 : mayL (grp .u8 4 (56, 56)).1 (.lit 2) (grp .u8 4 (56, 56)).2 = true := by kernel_rfl
theorem mq2_59 : mayL (grp .u8 4 (59, 59)).1 (.lit 2) (grp .u8 4 (59, 59)).2 = true := by kernel_rfl
theorem mq2_62 : mayL (grp .u8 4 (62, 62)).1 (.lit 2) (grp .u8 4 (62, 62)).2 = true := by kernel_rfl
theorem mq2_80 : mayL (grp .u8 4 (80, 95)).1 (.lit 2) (grp .u8 4 (80, 95)).2 = true := by kernel_rfl
theorem mq2_104 : mayL (grp .u8 4 (104, 104)).1 (.lit 2) (grp .u8 4 (104, 104)).2 = true := by kernel_rfl
theorem mq2_113 : mayL (grp .u8 4 (113, 113)).1 (.lit 2) (grp .u8 4 (113, 113)).2 = true := by kernel_rfl
theorem mq2_116 : mayL (grp .u8 4 (116, 116)).1 (.lit 2) (grp .u8 4 (116, 116)).2 = true := by kernel_rfl
theorem mq2_119 : mayL (grp .u8 4 (119, 119)).1 (.lit 2) (grp .u8 4 (119, 119)).2 = true := by kernel_rfl
theorem mq2_122 : mayL (grp .u8 4 (122, 122)).1 (.lit 2) (grp .u8 4 (122, 122)).2 = true := by kernel_rfl
theorem mq2_125 : mayL (grp .u8 4 (125, 125)).1 (.lit 2) (grp .u8 4 (125, 125)).2 = true := by kernel_rfl
theorem mq2_128 : mayL (grp .u8 4 (128, 143)).1 (.lit 2) (grp .u8 4 (128, 143)).2 = true := by kernel_rfl
theorem mq2_176 : mayL (grp .u8 4 (176, 191)).1 (.lit 2) (grp .u8 4 (176, 191)).2 = true := by kernel_rfl
theorem mq2_194 : mayL (grp .u8 4 (194, 194)).1 (.lit 2) (grp .u8 4 (194, 194)).2 = true := by kernel_rfl
theorem mq2_197 : mayL (grp .u8 4 (197, 197)).1 (.lit 2) (grp .u8 4 (197, 197)).2 = true := by kernel_rfl
theorem mq2_200 : mayL (grp .u8 4 (200, 200)).1 (.lit 2) (grp .u8 4 (200, 200)).2 = true := by kernel_rfl
theorem mq2_203 : mayL (grp .u8 4 (203, 203)).1 (.lit 2) (grp .u8 4 (203, 203)).2 = true := by kernel_rfl
theorem mq2_206 : mayL (grp .u8 4 (206, 206)).1 (.lit 2) (grp .u8 4 (206, 206)).2 = true := by kernel_rfl
theorem mq2_224 : mayL (grp .u8 4 (224, 239)).1 (.lit 2) (grp .u8 4 (224, 239)).2 = true := by kernel_rfl
theorem mq2_242 : mayL (grp .u8 4 (242, 242)).1 (.lit 2) (grp .u8 4 (242, 242)).2 = true := by kernel_rfl
theorem mq2_245 : mayL (grp .u8 4 (245, 245)).1 (.lit 2) (grp .u8 4 (245, 245)).2 = true := by kernel_rfl
theorem mq2_248 : mayL (grp .u8 4 (248, 248)).1 (.lit 2) (grp .u8 4 (248, 248)).2 = true := by kernel_rfl
theorem mq2_251 : mayL (grp .u8 4 (251, 251)).1 (.lit 2) (grp .u8 4 (251, 251)).2 = true := by kernel_rfl
theorem mq2_254 : mayL (grp .u8 4 (254, 254)).1 (.lit 2) (grp .u8 4 (254, 254)).2 = true := by kernel_rfl
theorem mq3_192 : mayL (grp .u8 4 (192, 192)).1 (.lit 3) (grp .u8 4 (192, 192)).2 = true := by kernel_rfl
theorem mq3_195 : mayL (grp .u8 4 (195, 195)).1 (.lit 3) (grp .u8 4 (195, 195)).2 = true := by kernel_rfl
theorem mq3_198 : mayL (grp .u8 4 (198, 198)).1 (.lit 3) (grp .u8 4 (198, 198)).2 = true := by kernel_rfl
theorem mq3_201 : mayL (grp .u8 4 (201, 201)).1 (.lit 3) (grp .u8 4 (201, 201)).2 = true := by kernel_rfl
theorem mq3_204 : mayL (grp .u8 4 (204, 204)).1 (.lit 3) (grp .u8 4 (204, 204)).2 = true := by kernel_rfl
theorem mq3_207 : mayL (grp .u8 4 (207, 207)).1 (.lit 3) (grp .u8 4 (207, 207)).2 = true := by kernel_rfl
theorem mq4_1 : mayL (grp .u8 4 (1, 255)).1 (.lit 4) (grp .u8 4 (1, 255)).2 = true := by kernel_rfl
theorem mq6_0 : mayL (grp .u8 4 (0, 255)).1 (.lit 6) (grp .u8 4 (0, 255)).2 = true := by kernel_rfl
end Go.Proofs.YtjnoacnbhcdidaaDoor.K
