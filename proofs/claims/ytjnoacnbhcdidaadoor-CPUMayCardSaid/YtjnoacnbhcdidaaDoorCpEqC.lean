/- The processor's functions answer as the reference's: some of the ways. (Printed by gencp.py.) -/
import Derived.Test.YtjnoacnbhcdidaaDoorCpEqv
namespace Go.Proofs.YtjnoacnbhcdidaaDoor.K
open Go Sy
set_option maxRecDepth 100000

theorem st2_16 : stepEq 2 (16, 31) = true := by kernel_rfl
theorem st2_50 : stepEq 2 (50, 50) = true := by kernel_rfl
theorem st2_54 : stepEq 2 (54, 54) = true := by kernel_rfl
theorem st2_58 : stepEq 2 (58, 58) = true := by kernel_rfl
theorem st2_62 : stepEq 2 (62, 62) = true := by kernel_rfl
theorem st2_96 : stepEq 2 (96, 96) = true := by kernel_rfl
theorem st2_112 : stepEq 2 (112, 112) = true := by kernel_rfl
theorem st2_116 : stepEq 2 (116, 116) = true := by kernel_rfl
theorem st2_120 : stepEq 2 (120, 120) = true := by kernel_rfl
theorem st2_124 : stepEq 2 (124, 124) = true := by kernel_rfl
theorem st2_128 : stepEq 2 (128, 143) = true := by kernel_rfl
theorem st2_192 : stepEq 2 (192, 192) = true := by kernel_rfl
theorem st2_196 : stepEq 2 (196, 196) = true := by kernel_rfl
theorem st2_200 : stepEq 2 (200, 200) = true := by kernel_rfl
theorem st2_204 : stepEq 2 (204, 204) = true := by kernel_rfl
theorem st2_208 : stepEq 2 (208, 223) = true := by kernel_rfl
theorem st2_242 : stepEq 2 (242, 242) = true := by kernel_rfl
theorem st2_246 : stepEq 2 (246, 246) = true := by kernel_rfl
theorem st2_250 : stepEq 2 (250, 250) = true := by kernel_rfl
theorem st2_254 : stepEq 2 (254, 254) = true := by kernel_rfl
theorem st3_193 : stepEq 3 (193, 193) = true := by kernel_rfl
theorem st3_197 : stepEq 3 (197, 197) = true := by kernel_rfl
theorem st3_201 : stepEq 3 (201, 201) = true := by kernel_rfl
theorem st3_205 : stepEq 3 (205, 205) = true := by kernel_rfl
theorem dr2_0 : driveEq 2 (0, 0) = true := by kernel_rfl
theorem dr2_16 : driveEq 2 (16, 31) = true := by kernel_rfl
theorem dr2_50 : driveEq 2 (50, 50) = true := by kernel_rfl
theorem dr2_54 : driveEq 2 (54, 54) = true := by kernel_rfl
theorem dr2_58 : driveEq 2 (58, 58) = true := by kernel_rfl
theorem dr2_62 : driveEq 2 (62, 62) = true := by kernel_rfl
theorem dr2_96 : driveEq 2 (96, 96) = true := by kernel_rfl
theorem dr2_112 : driveEq 2 (112, 112) = true := by kernel_rfl
theorem dr2_116 : driveEq 2 (116, 116) = true := by kernel_rfl
theorem dr2_120 : driveEq 2 (120, 120) = true := by kernel_rfl
theorem dr2_124 : driveEq 2 (124, 124) = true := by kernel_rfl
theorem dr2_128 : driveEq 2 (128, 143) = true := by kernel_rfl
theorem dr2_192 : driveEq 2 (192, 192) = true := by kernel_rfl
theorem dr2_196 : driveEq 2 (196, 196) = true := by kernel_rfl
theorem dr2_200 : driveEq 2 (200, 200) = true := by kernel_rfl
theorem dr2_204 : driveEq 2 (204, 204) = true := by kernel_rfl
theorem dr2_208 : driveEq 2 (208, 223) = true := by kernel_rfl
theorem dr2_242 : driveEq 2 (242, 242) = true := by kernel_rfl
theorem dr2_246 : driveEq 2 (246, 246) = true := by kernel_rfl
theorem dr2_250 : driveEq 2 (250, 250) = true := by kernel_rfl
theorem dr2_254 : driveEq 2 (254, 254) = true := by kernel_rfl
theorem dr3_193 : driveEq 3 (193, 193) = true := by kernel_rfl
theorem dr3_197 : driveEq 3 (197, 197) = true := by kernel_rfl
theorem dr3_201 : driveEq 3 (201, 201) = true := by kernel_rfl
theorem dr3_205 : driveEq 3 (205, 205) = true := by kernel_rfl
theorem st1_0 : stepEq 1 (0, 255) = true := by kernel_rfl
theorem st4_0 : stepEq 4 (0, 0) = true := by kernel_rfl
theorem st5_0 : stepEq 5 (0, 0) = true := by kernel_rfl
theorem st6_0 : stepEq 6 (0, 255) = true := by kernel_rfl
theorem st8_0 : stepEq 8 (0, 255) = true := by kernel_rfl
theorem checkAll : eqvT 17 18 [cpuV op ph] [] = true := by kernel_rfl
end Go.Proofs.YtjnoacnbhcdidaaDoor.K
