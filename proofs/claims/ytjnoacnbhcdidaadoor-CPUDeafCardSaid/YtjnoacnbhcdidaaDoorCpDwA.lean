/- deafQ: some of its ways. (Printed by genways.py.) -/
import Derived.Test.YtjnoacnbhcdidaaDoorCpDf0
namespace Go.Proofs.YtjnoacnbhcdidaaDoor.K
open Go Sy
set_option maxRecDepth 100000
set_option linter.unusedVariables false
set_option linter.unusedSimpArgs false

theorem dw1_0 : deafQ (grp .u8 4 (0, 255)).1 (.lit 1) (grp .u8 4 (0, 255)).2 = true := by kernel_rfl
theorem dw2_115 : deafQ (grp .u8 4 (115, 115)).1 (.lit 2) (grp .u8 4 (115, 115)).2 = true := by kernel_rfl
theorem dw2_199 : deafQ (grp .u8 4 (199, 199)).1 (.lit 2) (grp .u8 4 (199, 199)).2 = true := by kernel_rfl
theorem dw2_253 : deafQ (grp .u8 4 (253, 253)).1 (.lit 2) (grp .u8 4 (253, 253)).2 = true := by kernel_rfl
theorem dw5_1 : deafQ (grp .u8 4 (1, 255)).1 (.lit 5) (grp .u8 4 (1, 255)).2 = true := by kernel_rfl
theorem dw2_98 : deafQ (grp .u8 4 (98, 98)).1 (.lit 2) (grp .u8 4 (98, 98)).2 = true := by kernel_rfl
theorem dw2_102 : deafQ (grp .u8 4 (102, 102)).1 (.lit 2) (grp .u8 4 (102, 102)).2 = true := by kernel_rfl
end Go.Proofs.YtjnoacnbhcdidaaDoor.K
