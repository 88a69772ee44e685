/- deafQ: some of its ways. (Printed by genways.py.) -/
import Derived.Test.YtjnoacnbhcdidaaDoorCpDf0
namespace Go.Proofs.YtjnoacnbhcdidaaDoor.K
open Go Sy
set_option maxRecDepth 100000
set_option linter.unusedVariables false
set_option linter.unusedSimpArgs false

theorem dw2_1 : deafQ (grp .u8 4 (1, 15)).1 (.lit 2) (grp .u8 4 (1, 15)).2 = true := by kernel_rfl
theorem dw2_117 : deafQ (grp .u8 4 (117, 117)).1 (.lit 2) (grp .u8 4 (117, 117)).2 = true := by kernel_rfl
theorem dw2_201 : deafQ (grp .u8 4 (201, 201)).1 (.lit 2) (grp .u8 4 (201, 201)).2 = true := by kernel_rfl
theorem dw2_255 : deafQ (grp .u8 4 (255, 255)).1 (.lit 2) (grp .u8 4 (255, 255)).2 = true := by kernel_rfl
theorem dw7_0 : deafQ (grp .u8 4 (0, 255)).1 (.lit 7) (grp .u8 4 (0, 255)).2 = true := by kernel_rfl
theorem dw2_108 : deafQ (grp .u8 4 (108, 108)).1 (.lit 2) (grp .u8 4 (108, 108)).2 = true := by kernel_rfl
end Go.Proofs.YtjnoacnbhcdidaaDoor.K
