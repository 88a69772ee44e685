/- mayL: some of its ways. (Printed by genways.py.) -/
import Derived.Test.YtjnoacnbhcdidaaDoorCpMay0
namespace Go.Proofs.YtjnoacnbhcdidaaDoor.K
open Go Sy
set_option maxRecDepth 100000
set_option linter.unusedVariables false
set_option linter.unusedSimpArgs false

theorem mq1_0 : mayL (grp .u8 4 (0, 255)).1 (.lit 1) (grp .u8 4 (0, 255)).2 = true := by kernel_rfl
theorem mq2_16 : mayL (grp .u8 4 (16, 31)).1 (.lit 2) (grp .u8 4 (16, 31)).2 = true := by kernel_rfl
theorem mq2_49 : mayL (grp .u8 4 (49, 49)).1 (.lit 2) (grp .u8 4 (49, 49)).2 = true := by kernel_rfl
theorem mq2_52 : mayL (grp .u8 4 (52, 52)).1 (.lit 2) (grp .u8 4 (52, 52)).2 = true := by kernel_rfl
theorem mq2_55 : mayL (grp .u8 4 (55, 55)).1 (.lit 2) (grp .u8 4 (55, 55)).2 = true := by kernel_rfl
theorem mq2_58 : mayL (grp .u8 4 (58, 58)).1 (.lit 2) (grp .u8 4 (58, 58)).2 = true := by kernel_rfl
theorem mq2_61 : mayL (grp .u8 4 (61, 61)).1 (.lit 2) (grp .u8 4 (61, 61)).2 = true := by kernel_rfl
theorem mq2_64 : mayL (grp .u8 4 (64, 79)).1 (.lit 2) (grp .u8 4 (64, 79)).2 = true := by kernel_rfl
theorem mq2_97 : mayL (grp .u8 4 (97, 103)).1 (.lit 2) (grp .u8 4 (97, 103)).2 = true := by kernel_rfl
theorem mq2_112 : mayL (grp .u8 4 (112, 112)).1 (.lit 2) (grp .u8 4 (112, 112)).2 = true := by kernel_rfl
theorem mq2_115 : mayL (grp .u8 4 (115, 115)).1 (.lit 2) (grp .u8 4 (115, 115)).2 = true := by kernel_rfl
theorem mq2_118 : mayL (grp .u8 4 (118, 118)).1 (.lit 2) (grp .u8 4 (118, 118)).2 = true := by kernel_rfl
theorem mq2_121 : mayL (grp .u8 4 (121, 121)).1 (.lit 2) (grp .u8 4 (121, 121)).2 = true := by kernel_rfl
theorem mq2_124 : mayL (grp .u8 4 (124, 124)).1 (.lit 2) (grp .u8 4 (124, 124)).2 = true := by kernel_rfl
theorem mq2_127 : mayL (grp .u8 4 (127, 127)).1 (.lit 2) (grp .u8 4 (127, 127)).2 = true := by kernel_rfl
theorem mq2_160 : mayL (grp .u8 4 (160, 175)).1 (.lit 2) (grp .u8 4 (160, 175)).2 = true := by kernel_rfl
theorem mq2_193 : mayL (grp .u8 4 (193, 193)).1 (.lit 2) (grp .u8 4 (193, 193)).2 = true := by kernel_rfl
theorem mq2_196 : mayL (grp .u8 4 (196, 196)).1 (.lit 2) (grp .u8 4 (196, 196)).2 = true := by kernel_rfl
theorem mq2_199 : mayL (grp .u8 4 (199, 199)).1 (.lit 2) (grp .u8 4 (199, 199)).2 = true := by kernel_rfl
theorem mq2_202 : mayL (grp .u8 4 (202, 202)).1 (.lit 2) (grp .u8 4 (202, 202)).2 = true := by kernel_rfl
theorem mq2_205 : mayL (grp .u8 4 (205, 205)).1 (.lit 2) (grp .u8 4 (205, 205)).2 = true := by kernel_rfl
theorem mq2_208 : mayL (grp .u8 4 (208, 223)).1 (.lit 2) (grp .u8 4 (208, 223)).2 = true := by kernel_rfl
theorem mq2_241 : mayL (grp .u8 4 (241, 241)).1 (.lit 2) (grp .u8 4 (241, 241)).2 = true := by kernel_rfl
theorem mq2_244 : mayL (grp .u8 4 (244, 244)).1 (.lit 2) (grp .u8 4 (244, 244)).2 = true := by kernel_rfl
theorem mq2_247 : mayL (grp .u8 4 (247, 247)).1 (.lit 2) (grp .u8 4 (247, 247)).2 = true := by kernel_rfl
theorem mq2_250 : mayL (grp .u8 4 (250, 250)).1 (.lit 2) (grp .u8 4 (250, 250)).2 = true := by kernel_rfl
theorem mq2_253 : mayL (grp .u8 4 (253, 253)).1 (.lit 2) (grp .u8 4 (253, 253)).2 = true := by kernel_rfl
theorem mq3_0 : mayL (grp .u8 4 (0, 191)).1 (.lit 3) (grp .u8 4 (0, 191)).2 = true := by kernel_rfl
theorem mq3_194 : mayL (grp .u8 4 (194, 194)).1 (.lit 3) (grp .u8 4 (194, 194)).2 = true := by kernel_rfl
theorem mq3_197 : mayL (grp .u8 4 (197, 197)).1 (.lit 3) (grp .u8 4 (197, 197)).2 = true := by kernel_rfl
theorem mq3_200 : mayL (grp .u8 4 (200, 200)).1 (.lit 3) (grp .u8 4 (200, 200)).2 = true := by kernel_rfl
theorem mq3_203 : mayL (grp .u8 4 (203, 203)).1 (.lit 3) (grp .u8 4 (203, 203)).2 = true := by kernel_rfl
theorem mq3_206 : mayL (grp .u8 4 (206, 206)).1 (.lit 3) (grp .u8 4 (206, 206)).2 = true := by kernel_rfl
theorem mq4_0 : mayL (grp .u8 4 (0, 0)).1 (.lit 4) (grp .u8 4 (0, 0)).2 = true := by kernel_rfl
theorem mq5_1 : mayL (grp .u8 4 (1, 255)).1 (.lit 5) (grp .u8 4 (1, 255)).2 = true := by kernel_rfl
theorem mq8_0 : mayL (grp .u8 4 (0, 255)).1 (.lit 8) (grp .u8 4 (0, 255)).2 = true := by kernel_rfl
theorem mqLow : mayL op ph [(.le ph (.lit 0), true)] = true := by kernel_rfl
theorem mqHigh : mayL op ph [(.le ph (.lit 8), false)] = true := by kernel_rfl
end Go.Proofs.YtjnoacnbhcdidaaDoor.K
