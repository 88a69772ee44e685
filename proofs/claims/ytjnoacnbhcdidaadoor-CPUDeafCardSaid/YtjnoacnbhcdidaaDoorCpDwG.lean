/- deafQ: some of its ways. (Printed by genways.py.) -/
import Derived.Test.YtjnoacnbhcdidaaDoorCpDf0
namespace Go.Proofs.YtjnoacnbhcdidaaDoor.K
open Go Sy
set_option maxRecDepth 100000
set_option linter.unusedVariables false
set_option linter.unusedSimpArgs false

theorem dw2_51 : deafQ (grp .u8 4 (51, 51)).1 (.lit 2) (grp .u8 4 (51, 51)).2 = true := by kernel_rfl
theorem dw2_123 : deafQ (grp .u8 4 (123, 123)).1 (.lit 2) (grp .u8 4 (123, 123)).2 = true := by kernel_rfl
theorem dw2_207 : deafQ (grp .u8 4 (207, 207)).1 (.lit 2) (grp .u8 4 (207, 207)).2 = true := by kernel_rfl
theorem dw3_196 : deafQ (grp .u8 4 (196, 196)).1 (.lit 3) (grp .u8 4 (196, 196)).2 = true := by kernel_rfl
theorem dw2_105 : deafQ (grp .u8 4 (105, 105)).1 (.lit 2) (grp .u8 4 (105, 105)).2 = true := by kernel_rfl
theorem dw2_109 : deafQ (grp .u8 4 (109, 109)).1 (.lit 2) (grp .u8 4 (109, 109)).2 = true := by kernel_rfl
end Go.Proofs.YtjnoacnbhcdidaaDoor.K
