/- deafQ: some of its ways. (Printed by genways.py.) -/
import Derived.Test.YtjnoacnbhcdidaaDoorCpDf0
namespace Go.Proofs.YtjnoacnbhcdidaaDoor.K
open Go Sy
set_option maxRecDepth 100000
set_option linter.unusedVariables false
set_option linter.unusedSimpArgs false

theorem dw2_16 : deafQ (grp .u8 4 (16, 31)).1 (.lit 2) (grp .u8 4 (16, 31)).2 = true := by kernel_rfl
theorem dw2_52 : deafQ (grp .u8 4 (52, 52)).1 (.lit 2) (grp .u8 4 (52, 52)).2 = true := by kernel_rfl
theorem dw2_58 : deafQ (grp .u8 4 (58, 58)).1 (.lit 2) (grp .u8 4 (58, 58)).2 = true := by kernel_rfl
theorem dw2_64 : deafQ (grp .u8 4 (64, 79)).1 (.lit 2) (grp .u8 4 (64, 79)).2 = true := by kernel_rfl
theorem dw2_112 : deafQ (grp .u8 4 (112, 112)).1 (.lit 2) (grp .u8 4 (112, 112)).2 = true := by kernel_rfl
theorem dw2_118 : deafQ (grp .u8 4 (118, 118)).1 (.lit 2) (grp .u8 4 (118, 118)).2 = true := by kernel_rfl
theorem dw2_124 : deafQ (grp .u8 4 (124, 124)).1 (.lit 2) (grp .u8 4 (124, 124)).2 = true := by kernel_rfl
theorem dw2_160 : deafQ (grp .u8 4 (160, 175)).1 (.lit 2) (grp .u8 4 (160, 175)).2 = true := by kernel_rfl
theorem dw2_196 : deafQ (grp .u8 4 (196, 196)).1 (.lit 2) (grp .u8 4 (196, 196)).2 = true := by kernel_rfl
theorem dw2_202 : deafQ (grp .u8 4 (202, 202)).1 (.lit 2) (grp .u8 4 (202, 202)).2 = true := by kernel_rfl
theorem dw2_208 : deafQ (grp .u8 4 (208, 223)).1 (.lit 2) (grp .u8 4 (208, 223)).2 = true := by kernel_rfl
theorem dw2_244 : deafQ (grp .u8 4 (244, 244)).1 (.lit 2) (grp .u8 4 (244, 244)).2 = true := by kernel_rfl
theorem dw2_250 : deafQ (grp .u8 4 (250, 250)).1 (.lit 2) (grp .u8 4 (250, 250)).2 = true := by kernel_rfl
theorem dw3_0 : deafQ (grp .u8 4 (0, 191)).1 (.lit 3) (grp .u8 4 (0, 191)).2 = true := by kernel_rfl
theorem dw3_197 : deafQ (grp .u8 4 (197, 197)).1 (.lit 3) (grp .u8 4 (197, 197)).2 = true := by kernel_rfl
theorem dw3_203 : deafQ (grp .u8 4 (203, 203)).1 (.lit 3) (grp .u8 4 (203, 203)).2 = true := by kernel_rfl
theorem dw4_0 : deafQ (grp .u8 4 (0, 0)).1 (.lit 4) (grp .u8 4 (0, 0)).2 = true := by kernel_rfl
theorem dw8_0 : deafQ (grp .u8 4 (0, 255)).1 (.lit 8) (grp .u8 4 (0, 255)).2 = true := by kernel_rfl
end Go.Proofs.YtjnoacnbhcdidaaDoor.K
