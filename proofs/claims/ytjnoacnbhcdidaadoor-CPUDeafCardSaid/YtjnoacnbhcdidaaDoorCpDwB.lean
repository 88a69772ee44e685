/- deafQ: some of its ways. (Printed by genways.py.) -/
import Derived.Test.YtjnoacnbhcdidaaDoorCpDf0
namespace Go.Proofs.YtjnoacnbhcdidaaDoor.K
open Go Sy
set_option maxRecDepth 100000
set_option linter.unusedVariables false
set_option linter.unusedSimpArgs false

theorem dw2_0 : deafQ (grp .u8 4 (0, 0)).1 (.lit 2) (grp .u8 4 (0, 0)).2 = true := by kernel_rfl
theorem dw2_50 : deafQ (grp .u8 4 (50, 50)).1 (.lit 2) (grp .u8 4 (50, 50)).2 = true := by kernel_rfl
theorem dw2_56 : deafQ (grp .u8 4 (56, 56)).1 (.lit 2) (grp .u8 4 (56, 56)).2 = true := by kernel_rfl
theorem dw2_62 : deafQ (grp .u8 4 (62, 62)).1 (.lit 2) (grp .u8 4 (62, 62)).2 = true := by kernel_rfl
theorem dw2_104 : deafQ (grp .u8 4 (104, 104)).1 (.lit 2) (grp .u8 4 (104, 104)).2 = true := by kernel_rfl
theorem dw2_116 : deafQ (grp .u8 4 (116, 116)).1 (.lit 2) (grp .u8 4 (116, 116)).2 = true := by kernel_rfl
theorem dw2_122 : deafQ (grp .u8 4 (122, 122)).1 (.lit 2) (grp .u8 4 (122, 122)).2 = true := by kernel_rfl
theorem dw2_128 : deafQ (grp .u8 4 (128, 143)).1 (.lit 2) (grp .u8 4 (128, 143)).2 = true := by kernel_rfl
theorem dw2_194 : deafQ (grp .u8 4 (194, 194)).1 (.lit 2) (grp .u8 4 (194, 194)).2 = true := by kernel_rfl
theorem dw2_200 : deafQ (grp .u8 4 (200, 200)).1 (.lit 2) (grp .u8 4 (200, 200)).2 = true := by kernel_rfl
theorem dw2_206 : deafQ (grp .u8 4 (206, 206)).1 (.lit 2) (grp .u8 4 (206, 206)).2 = true := by kernel_rfl
theorem dw2_242 : deafQ (grp .u8 4 (242, 242)).1 (.lit 2) (grp .u8 4 (242, 242)).2 = true := by kernel_rfl
theorem dw2_248 : deafQ (grp .u8 4 (248, 248)).1 (.lit 2) (grp .u8 4 (248, 248)).2 = true := by kernel_rfl
theorem dw2_254 : deafQ (grp .u8 4 (254, 254)).1 (.lit 2) (grp .u8 4 (254, 254)).2 = true := by kernel_rfl
theorem dw3_195 : deafQ (grp .u8 4 (195, 195)).1 (.lit 3) (grp .u8 4 (195, 195)).2 = true := by kernel_rfl
theorem dw3_201 : deafQ (grp .u8 4 (201, 201)).1 (.lit 3) (grp .u8 4 (201, 201)).2 = true := by kernel_rfl
theorem dw3_207 : deafQ (grp .u8 4 (207, 207)).1 (.lit 3) (grp .u8 4 (207, 207)).2 = true := by kernel_rfl
theorem dw6_0 : deafQ (grp .u8 4 (0, 255)).1 (.lit 6) (grp .u8 4 (0, 255)).2 = true := by kernel_rfl
end Go.Proofs.YtjnoacnbhcdidaaDoor.K
