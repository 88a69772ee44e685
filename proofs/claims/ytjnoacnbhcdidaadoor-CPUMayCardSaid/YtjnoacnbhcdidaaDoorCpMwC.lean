/- mayL: some of its ways. (Printed by genways.py.) -/
import Derived.Test.YtjnoacnbhcdidaaDoorCpMay0
namespace Go.Proofs.YtjnoacnbhcdidaaDoor.K
open Go Sy
set_option maxRecDepth 100000
set_option linter.unusedVariables false
set_option linter.unusedSimpArgs false

theorem mq2_1 : mayL (grp .u8 4 (1, 15)).1 (.lit 2) (grp .u8 4 (1, 15)).2 = true := by kernel_rfl
theorem mq2_48 : mayL (grp .u8 4 (48, 48)).1 (.lit 2) (grp .u8 4 (48, 48)).2 = true := by kernel_rfl
theorem mq2_51 : mayL (grp .u8 4 (51, 51)).1 (.lit 2) (grp .u8 4 (51, 51)).2 = true := by kernel_rfl
theorem mq2_54 : mayL (grp .u8 4 (54, 54)).1 (.lit 2) (grp .u8 4 (54, 54)).2 = true := by kernel_rfl
theorem mq2_57 : mayL (grp .u8 4 (57, 57)).1 (.lit 2) (grp .u8 4 (57, 57)).2 = true := by kernel_rfl
theorem mq2_60 : mayL (grp .u8 4 (60, 60)).1 (.lit 2) (grp .u8 4 (60, 60)).2 = true := by kernel_rfl
theorem mq2_63 : mayL (grp .u8 4 (63, 63)).1 (.lit 2) (grp .u8 4 (63, 63)).2 = true := by kernel_rfl
theorem mq2_96 : mayL (grp .u8 4 (96, 96)).1 (.lit 2) (grp .u8 4 (96, 96)).2 = true := by kernel_rfl
theorem mq2_105 : mayL (grp .u8 4 (105, 111)).1 (.lit 2) (grp .u8 4 (105, 111)).2 = true := by kernel_rfl
theorem mq2_114 : mayL (grp .u8 4 (114, 114)).1 (.lit 2) (grp .u8 4 (114, 114)).2 = true := by kernel_rfl
theorem mq2_117 : mayL (grp .u8 4 (117, 117)).1 (.lit 2) (grp .u8 4 (117, 117)).2 = true := by kernel_rfl
theorem mq2_120 : mayL (grp .u8 4 (120, 120)).1 (.lit 2) (grp .u8 4 (120, 120)).2 = true := by kernel_rfl
theorem mq2_123 : mayL (grp .u8 4 (123, 123)).1 (.lit 2) (grp .u8 4 (123, 123)).2 = true := by kernel_rfl
theorem mq2_126 : mayL (grp .u8 4 (126, 126)).1 (.lit 2) (grp .u8 4 (126, 126)).2 = true := by kernel_rfl
theorem mq2_144 : mayL (grp .u8 4 (144, 159)).1 (.lit 2) (grp .u8 4 (144, 159)).2 = true := by kernel_rfl
theorem mq2_192 : mayL (grp .u8 4 (192, 192)).1 (.lit 2) (grp .u8 4 (192, 192)).2 = true := by kernel_rfl
theorem mq2_195 : mayL (grp .u8 4 (195, 195)).1 (.lit 2) (grp .u8 4 (195, 195)).2 = true := by kernel_rfl
theorem mq2_198 : mayL (grp .u8 4 (198, 198)).1 (.lit 2) (grp .u8 4 (198, 198)).2 = true := by kernel_rfl
theorem mq2_201 : mayL (grp .u8 4 (201, 201)).1 (.lit 2) (grp .u8 4 (201, 201)).2 = true := by kernel_rfl
theorem mq2_204 : mayL (grp .u8 4 (204, 204)).1 (.lit 2) (grp .u8 4 (204, 204)).2 = true := by kernel_rfl
theorem mq2_207 : mayL (grp .u8 4 (207, 207)).1 (.lit 2) (grp .u8 4 (207, 207)).2 = true := by kernel_rfl
theorem mq2_240 : mayL (grp .u8 4 (240, 240)).1 (.lit 2) (grp .u8 4 (240, 240)).2 = true := by kernel_rfl
theorem mq2_243 : mayL (grp .u8 4 (243, 243)).1 (.lit 2) (grp .u8 4 (243, 243)).2 = true := by kernel_rfl
theorem mq2_246 : mayL (grp .u8 4 (246, 246)).1 (.lit 2) (grp .u8 4 (246, 246)).2 = true := by kernel_rfl
theorem mq2_249 : mayL (grp .u8 4 (249, 249)).1 (.lit 2) (grp .u8 4 (249, 249)).2 = true := by kernel_rfl
theorem mq2_252 : mayL (grp .u8 4 (252, 252)).1 (.lit 2) (grp .u8 4 (252, 252)).2 = true := by kernel_rfl
theorem mq2_255 : mayL (grp .u8 4 (255, 255)).1 (.lit 2) (grp .u8 4 (255, 255)).2 = true := by kernel_rfl
theorem mq3_193 : mayL (grp .u8 4 (193, 193)).1 (.lit 3) (grp .u8 4 (193, 193)).2 = true := by kernel_rfl
theorem mq3_196 : mayL (grp .u8 4 (196, 196)).1 (.lit 3) (grp .u8 4 (196, 196)).2 = true := by kernel_rfl
theorem mq3_199 : mayL (grp .u8 4 (199, 199)).1 (.lit 3) (grp .u8 4 (199, 199)).2 = true := by kernel_rfl
theorem mq3_202 : mayL (grp .u8 4 (202, 202)).1 (.lit 3) (grp .u8 4 (202, 202)).2 = true := by kernel_rfl
theorem mq3_205 : mayL (grp .u8 4 (205, 205)).1 (.lit 3) (grp .u8 4 (205, 205)).2 = true := by kernel_rfl
theorem mq3_208 : mayL (grp .u8 4 (208, 255)).1 (.lit 3) (grp .u8 4 (208, 255)).2 = true := by kernel_rfl
theorem mq5_0 : mayL (grp .u8 4 (0, 0)).1 (.lit 5) (grp .u8 4 (0, 0)).2 = true := by kernel_rfl
theorem mq7_0 : mayL (grp .u8 4 (0, 255)).1 (.lit 7) (grp .u8 4 (0, 255)).2 = true := by kernel_rfl
end Go.Proofs.YtjnoacnbhcdidaaDoor.K
