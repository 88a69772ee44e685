/- deafQ: some of its ways. (Printed by genways.py.) -/
import Derived.Test.YtjnoacnbhcdidaaDoorCpDf0
namespace Go.Proofs.YtjnoacnbhcdidaaDoor.K
open Go Sy
set_option maxRecDepth 100000
set_option linter.unusedVariables false
set_option linter.unusedSimpArgs false

theorem dw2_32 : deafQ (grp .u8 4 (32, 47)).1 (.lit 2) (grp .u8 4 (32, 47)).2 = true := by kernel_rfl
theorem dw2_53 : deafQ (grp .u8 4 (53, 53)).1 (.lit 2) (grp .u8 4 (53, 53)).2 = true := by kernel_rfl
theorem dw2_59 : deafQ (grp .u8 4 (59, 59)).1 (.lit 2) (grp .u8 4 (59, 59)).2 = true := by kernel_rfl
theorem dw2_80 : deafQ (grp .u8 4 (80, 95)).1 (.lit 2) (grp .u8 4 (80, 95)).2 = true := by kernel_rfl
theorem dw2_113 : deafQ (grp .u8 4 (113, 113)).1 (.lit 2) (grp .u8 4 (113, 113)).2 = true := by kernel_rfl
theorem dw2_119 : deafQ (grp .u8 4 (119, 119)).1 (.lit 2) (grp .u8 4 (119, 119)).2 = true := by kernel_rfl
theorem dw2_125 : deafQ (grp .u8 4 (125, 125)).1 (.lit 2) (grp .u8 4 (125, 125)).2 = true := by kernel_rfl
theorem dw2_176 : deafQ (grp .u8 4 (176, 191)).1 (.lit 2) (grp .u8 4 (176, 191)).2 = true := by kernel_rfl
theorem dw2_197 : deafQ (grp .u8 4 (197, 197)).1 (.lit 2) (grp .u8 4 (197, 197)).2 = true := by kernel_rfl
theorem dw2_203 : deafQ (grp .u8 4 (203, 203)).1 (.lit 2) (grp .u8 4 (203, 203)).2 = true := by kernel_rfl
theorem dw2_224 : deafQ (grp .u8 4 (224, 239)).1 (.lit 2) (grp .u8 4 (224, 239)).2 = true := by kernel_rfl
theorem dw2_245 : deafQ (grp .u8 4 (245, 245)).1 (.lit 2) (grp .u8 4 (245, 245)).2 = true := by kernel_rfl
theorem dw2_251 : deafQ (grp .u8 4 (251, 251)).1 (.lit 2) (grp .u8 4 (251, 251)).2 = true := by kernel_rfl
theorem dw3_192 : deafQ (grp .u8 4 (192, 192)).1 (.lit 3) (grp .u8 4 (192, 192)).2 = true := by kernel_rfl
theorem dw3_198 : deafQ (grp .u8 4 (198, 198)).1 (.lit 3) (grp .u8 4 (198, 198)).2 = true := by kernel_rfl
theorem dw3_204 : deafQ (grp .u8 4 (204, 204)).1 (.lit 3) (grp .u8 4 (204, 204)).2 = true := by kernel_rfl
theorem dw4_1 : deafQ (grp .u8 4 (1, 255)).1 (.lit 4) (grp .u8 4 (1, 255)).2 = true := by kernel_rfl
end Go.Proofs.YtjnoacnbhcdidaaDoor.K
