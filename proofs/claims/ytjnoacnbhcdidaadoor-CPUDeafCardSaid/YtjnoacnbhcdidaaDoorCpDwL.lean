/- deafQ: some of its ways. (Printed by genways.py.) -/
import Derived.Test.YtjnoacnbhcdidaaDoorCpDf0
namespace Go.Proofs.YtjnoacnbhcdidaaDoor.K
open Go Sy
set_option maxRecDepth 100000
set_option linter.unusedVariables false
set_option linter.unusedSimpArgs false

theorem dw2_61 : deafQ (grp .u8 4 (61, 61)).1 (.lit 2) (grp .u8 4 (61, 61)).2 = true := by kernel_rfl
theorem dw2_193 : deafQ (grp .u8 4 (193, 193)).1 (.lit 2) (grp .u8 4 (193, 193)).2 = true := by kernel_rfl
theorem dw2_247 : deafQ (grp .u8 4 (247, 247)).1 (.lit 2) (grp .u8 4 (247, 247)).2 = true := by kernel_rfl
theorem dw3_206 : deafQ (grp .u8 4 (206, 206)).1 (.lit 3) (grp .u8 4 (206, 206)).2 = true := by kernel_rfl
theorem dw2_97 : deafQ (grp .u8 4 (97, 97)).1 (.lit 2) (grp .u8 4 (97, 97)).2 = true := by kernel_rfl
theorem dw2_101 : deafQ (grp .u8 4 (101, 101)).1 (.lit 2) (grp .u8 4 (101, 101)).2 = true := by kernel_rfl
end Go.Proofs.YtjnoacnbhcdidaaDoor.K
