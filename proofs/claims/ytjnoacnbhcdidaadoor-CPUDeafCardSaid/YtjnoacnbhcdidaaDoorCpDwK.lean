/- deafQ: some of its ways. (Printed by genways.py.) -/
import Derived.Test.YtjnoacnbhcdidaaDoorCpDf0
namespace Go.Proofs.YtjnoacnbhcdidaaDoor.K
open Go Sy
set_option maxRecDepth 100000
set_option linter.unusedVariables false
set_option linter.unusedSimpArgs false

theorem dw2_55 : deafQ (grp .u8 4 (55, 55)).1 (.lit 2) (grp .u8 4 (55, 55)).2 = true := by kernel_rfl
theorem dw2_127 : deafQ (grp .u8 4 (127, 127)).1 (.lit 2) (grp .u8 4 (127, 127)).2 = true := by kernel_rfl
theorem dw2_241 : deafQ (grp .u8 4 (241, 241)).1 (.lit 2) (grp .u8 4 (241, 241)).2 = true := by kernel_rfl
theorem dw3_200 : deafQ (grp .u8 4 (200, 200)).1 (.lit 3) (grp .u8 4 (200, 200)).2 = true := by kernel_rfl
theorem dwHigh : deafQ op ph [(.le ph (.lit 8), false)] = true := by kernel_rfl
theorem dw2_100 : deafQ (grp .u8 4 (100, 100)).1 (.lit 2) (grp .u8 4 (100, 100)).2 = true := by kernel_rfl
end Go.Proofs.YtjnoacnbhcdidaaDoor.K
