/- deafQ: some of its ways. (Printed by genways.py.) -/
import Derived.Test.YtjnoacnbhcdidaaDoorCpDf0
namespace Go.Proofs.YtjnoacnbhcdidaaDoor.K
open Go Sy
set_option maxRecDepth 100000
set_option linter.unusedVariables false
set_option linter.unusedSimpArgs false

theorem dw2_48 : deafQ (grp .u8 4 (48, 48)).1 (.lit 2) (grp .u8 4 (48, 48)).2 = true := by kernel_rfl
theorem dw2_54 : deafQ (grp .u8 4 (54, 54)).1 (.lit 2) (grp .u8 4 (54, 54)).2 = true := by kernel_rfl
theorem dw2_60 : deafQ (grp .u8 4 (60, 60)).1 (.lit 2) (grp .u8 4 (60, 60)).2 = true := by kernel_rfl
theorem dw2_96 : deafQ (grp .u8 4 (96, 96)).1 (.lit 2) (grp .u8 4 (96, 96)).2 = true := by kernel_rfl
theorem dw2_114 : deafQ (grp .u8 4 (114, 114)).1 (.lit 2) (grp .u8 4 (114, 114)).2 = true := by kernel_rfl
theorem dw2_120 : deafQ (grp .u8 4 (120, 120)).1 (.lit 2) (grp .u8 4 (120, 120)).2 = true := by kernel_rfl
theorem dw2_126 : deafQ (grp .u8 4 (126, 126)).1 (.lit 2) (grp .u8 4 (126, 126)).2 = true := by kernel_rfl
theorem dw2_192 : deafQ (grp .u8 4 (192, 192)).1 (.lit 2) (grp .u8 4 (192, 192)).2 = true := by kernel_rfl
theorem dw2_198 : deafQ (grp .u8 4 (198, 198)).1 (.lit 2) (grp .u8 4 (198, 198)).2 = true := by kernel_rfl
theorem dw2_204 : deafQ (grp .u8 4 (204, 204)).1 (.lit 2) (grp .u8 4 (204, 204)).2 = true := by kernel_rfl
theorem dw2_240 : deafQ (grp .u8 4 (240, 240)).1 (.lit 2) (grp .u8 4 (240, 240)).2 = true := by kernel_rfl
theorem dw2_246 : deafQ (grp .u8 4 (246, 246)).1 (.lit 2) (grp .u8 4 (246, 246)).2 = true := by kernel_rfl
theorem dw2_252 : deafQ (grp .u8 4 (252, 252)).1 (.lit 2) (grp .u8 4 (252, 252)).2 = true := by kernel_rfl
theorem dw3_193 : deafQ (grp .u8 4 (193, 193)).1 (.lit 3) (grp .u8 4 (193, 193)).2 = true := by kernel_rfl
theorem dw3_199 : deafQ (grp .u8 4 (199, 199)).1 (.lit 3) (grp .u8 4 (199, 199)).2 = true := by kernel_rfl
theorem dw3_205 : deafQ (grp .u8 4 (205, 205)).1 (.lit 3) (grp .u8 4 (205, 205)).2 = true := by kernel_rfl
theorem dw5_0 : deafQ (grp .u8 4 (0, 0)).1 (.lit 5) (grp .u8 4 (0, 0)).2 = true := by kernel_rfl
end Go.Proofs.YtjnoacnbhcdidaaDoor.K
