/- deafQ: some of its ways. (Printed by genways.py.) -/
import Derived.Test.YtjnoacnbhcdidaaDoorCpDf0
namespace Go.Proofs.YtjnoacnbhcdidaaDoor.K
open Go Sy
set_option maxRecDepth 100000
set_option linter.unusedVariables false
set_option linter.unusedSimpArgs false

theorem dw2_57 : deafQ (grp .u8 4 (57, 57)).1 (.lit 2) (grp .u8 4 (57, 57)).2 = true := by kernel_rfl
theorem dw2_144 : deafQ (grp .u8 4 (144, 159)).1 (.lit 2) (grp .u8 4 (144, 159)).2 = true := by kernel_rfl
theorem dw2_243 : deafQ (grp .u8 4 (243, 243)).1 (.lit 2) (grp .u8 4 (243, 243)).2 = true := by kernel_rfl
theorem dw3_202 : deafQ (grp .u8 4 (202, 202)).1 (.lit 3) (grp .u8 4 (202, 202)).2 = true := by kernel_rfl
theorem dw2_106 : deafQ (grp .u8 4 (106, 106)).1 (.lit 2) (grp .u8 4 (106, 106)).2 = true := by kernel_rfl
theorem dw2_110 : deafQ (grp .u8 4 (110, 110)).1 (.lit 2) (grp .u8 4 (110, 110)).2 = true := by kernel_rfl
end Go.Proofs.YtjnoacnbhcdidaaDoor.K
