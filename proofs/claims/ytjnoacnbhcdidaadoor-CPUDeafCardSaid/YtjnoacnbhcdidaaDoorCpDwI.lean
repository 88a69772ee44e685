/- deafQ: some of its ways. (Printed by genways.py.) -/
import Derived.Test.YtjnoacnbhcdidaaDoorCpDf0
namespace Go.Proofs.YtjnoacnbhcdidaaDoor.K
open Go Sy
set_option maxRecDepth 100000
set_option linter.unusedVariables false
set_option linter.unusedSimpArgs false

theorem dw2_63 : deafQ (grp .u8 4 (63, 63)).1 (.lit 2) (grp .u8 4 (63, 63)).2 = true := by kernel_rfl
theorem dw2_195 : deafQ (grp .u8 4 (195, 195)).1 (.lit 2) (grp .u8 4 (195, 195)).2 = true := by kernel_rfl
theorem dw2_249 : deafQ (grp .u8 4 (249, 249)).1 (.lit 2) (grp .u8 4 (249, 249)).2 = true := by kernel_rfl
theorem dw3_208 : deafQ (grp .u8 4 (208, 255)).1 (.lit 3) (grp .u8 4 (208, 255)).2 = true := by kernel_rfl
theorem dw2_107 : deafQ (grp .u8 4 (107, 107)).1 (.lit 2) (grp .u8 4 (107, 107)).2 = true := by kernel_rfl
theorem dw2_111 : deafQ (grp .u8 4 (111, 111)).1 (.lit 2) (grp .u8 4 (111, 111)).2 = true := by kernel_rfl
end Go.Proofs.YtjnoacnbhcdidaaDoor.K
