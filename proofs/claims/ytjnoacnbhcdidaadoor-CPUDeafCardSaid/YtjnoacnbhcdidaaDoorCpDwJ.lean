/- deafQ: some of its ways. (Printed by genways.py.) -/
import Derived.Test.YtjnoacnbhcdidaaDoorCpDf0
namespace Go.Proofs.YtjnoacnbhcdidaaDoor.K
open Go Sy
set_option maxRecDepth 100000
set_option linter.unusedVariables false
set_option linter.unusedSimpArgs false

theorem dw2_49 : deafQ (grp .u8 4 (49, 49)).1 (.lit 2) (grp .u8 4 (49, 49)).2 = true := by kernel_rfl
theorem dw2_121 : deafQ (grp .u8 4 (121, 121)).1 (.lit 2) (grp .u8 4 (121, 121)).2 = true := by kernel_rfl
theorem dw2_205 : deafQ (grp .u8 4 (205, 205)).1 (.lit 2) (grp .u8 4 (205, 205)).2 = true := by kernel_rfl
theorem dw3_194 : deafQ (grp .u8 4 (194, 194)).1 (.lit 3) (grp .u8 4 (194, 194)).2 = true := by kernel_rfl
theorem dwLow : deafQ op ph [(.le ph (.lit 0), true)] = true := by kernel_rfl
theorem dw2_99 : deafQ (grp .u8 4 (99, 99)).1 (.lit 2) (grp .u8 4 (99, 99)).2 = true := by kernel_rfl
theorem dw2_103 : deafQ (grp .u8 4 (103, 103)).1 (.lit 2) (grp .u8 4 (103, 103)).2 = true := by kernel_rfl
end Go.Proofs.YtjnoacnbhcdidaaDoor.K
