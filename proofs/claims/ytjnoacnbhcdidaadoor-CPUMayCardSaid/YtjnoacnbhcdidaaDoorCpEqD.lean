/- The processor's functions answer as the reference's: some of the ways. (Printed by gencp.py.) -/
import Derived.Test.YtjnoacnbhcdidaaDoorCpEqv
namespace Go.Proofs.YtjnoacnbhcdidaaDoor.K
open Go Sy
set_option maxRecDepth 100000

theorem st2_32 : stepEq 2 (32, 47) = true := by kernel_rfl
theorem st2_51 : stepEq 2 (51, 51) = true := by kernel_rfl
theorem st2_55 : stepEq 2 (55, 55) = true := by kernel_rfl
theorem st2_59 : stepEq 2 (59, 59) = true := by kernel_rfl
theorem st2_63 : stepEq 2 (63, 63) = true := by kernel_rfl
theorem st2_97 : stepEq 2 (97, 103) = true := by kernel_rfl
theorem st2_113 : stepEq 2 (113, 113) = true := by kernel_rfl
theorem st2_117 : stepEq 2 (117, 117) = true := by kernel_rfl
theorem st2_121 : stepEq 2 (121, 121) = true := by kernel_rfl
theorem st2_125 : stepEq 2 (125, 125) = true := by kernel_rfl
theorem st2_144 : stepEq 2 (144, 159) = true := by kernel_rfl
theorem st2_193 : stepEq 2 (193, 193) = true := by kernel_rfl
theorem st2_197 : stepEq 2 (197, 197) = true := by kernel_rfl
theorem st2_201 : stepEq 2 (201, 201) = true := by kernel_rfl
theorem st2_205 : stepEq 2 (205, 205) = true := by kernel_rfl
theorem st2_224 : stepEq 2 (224, 239) = true := by kernel_rfl
theorem st2_243 : stepEq 2 (243, 243) = true := by kernel_rfl
theorem st2_247 : stepEq 2 (247, 247) = true := by kernel_rfl
theorem st2_251 : stepEq 2 (251, 251) = true := by kernel_rfl
theorem st2_255 : stepEq 2 (255, 255) = true := by kernel_rfl
theorem st3_194 : stepEq 3 (194, 194) = true := by kernel_rfl
theorem st3_198 : stepEq 3 (198, 198) = true := by kernel_rfl
theorem st3_202 : stepEq 3 (202, 202) = true := by kernel_rfl
theorem st3_206 : stepEq 3 (206, 206) = true := by kernel_rfl
theorem dr2_1 : driveEq 2 (1, 15) = true := by kernel_rfl
theorem dr2_32 : driveEq 2 (32, 47) = true := by kernel_rfl
theorem dr2_51 : driveEq 2 (51, 51) = true := by kernel_rfl
theorem dr2_55 : driveEq 2 (55, 55) = true := by kernel_rfl
theorem dr2_59 : driveEq 2 (59, 59) = true := by kernel_rfl
theorem dr2_63 : driveEq 2 (63, 63) = true := by kernel_rfl
theorem dr2_97 : driveEq 2 (97, 103) = true := by kernel_rfl
theorem dr2_113 : driveEq 2 (113, 113) = true := by kernel_rfl
theorem dr2_117 : driveEq 2 (117, 117) = true := by kernel_rfl
theorem dr2_121 : driveEq 2 (121, 121) = true := by kernel_rfl
theorem dr2_125 : driveEq 2 (125, 125) = true := by kernel_rfl
theorem dr2_144 : driveEq 2 (144, 159) = true := by kernel_rfl
theorem dr2_193 : driveEq 2 (193, 193) = true := by kernel_rfl
theorem dr2_197 : driveEq 2 (197, 197) = true := by kernel_rfl
theorem dr2_201 : driveEq 2 (201, 201) = true := by kernel_rfl
theorem dr2_205 : driveEq 2 (205, 205) = true := by kernel_rfl
theorem dr2_224 : driveEq 2 (224, 239) = true := by kernel_rfl
theorem dr2_243 : driveEq 2 (243, 243) = true := by kernel_rfl
theorem dr2_247 : driveEq 2 (247, 247) = true := by kernel_rfl
theorem dr2_251 : driveEq 2 (251, 251) = true := by kernel_rfl
theorem dr2_255 : driveEq 2 (255, 255) = true := by kernel_rfl
theorem dr3_194 : driveEq 3 (194, 194) = true := by kernel_rfl
theorem dr3_198 : driveEq 3 (198, 198) = true := by kernel_rfl
theorem dr3_202 : driveEq 3 (202, 202) = true := by kernel_rfl
theorem dr3_206 : driveEq 3 (206, 206) = true := by kernel_rfl
theorem dr1_0 : driveEq 1 (0, 255) = true := by kernel_rfl
theorem dr4_0 : driveEq 4 (0, 0) = true := by kernel_rfl
theorem dr5_0 : driveEq 5 (0, 0) = true := by kernel_rfl
theorem dr6_0 : driveEq 6 (0, 255) = true := by kernel_rfl
theorem dr8_0 : driveEq 8 (0, 255) = true := by kernel_rfl
end Go.Proofs.YtjnoacnbhcdidaaDoor.K
