/- The processor's functions answer as the reference's: some of the ways. (Printed by gencp.py.) -/
import Derived.Test.YtjnoacnbhcdidaaDoorCpEqv
namespace Go.Proofs.YtjnoacnbhcdidaaDoor.K
open Go Sy
set_option maxRecDepth 100000

theorem st2_1 : stepEq 2 (1, 15) = true := by kernel_rfl
theorem st2_49 : stepEq 2 (49, 49) = true := by kernel_rfl
theorem st2_53 : stepEq 2 (53, 53) = true := by kernel_rfl
theorem st2_57 : stepEq 2 (57, 57) = true := by kernel_rfl
theorem st2_61 : stepEq 2 (61, 61) = true := by kernel_rfl
theorem st2_80 : stepEq 2 (80, 95) = true := by kernel_rfl
theorem st2_105 : stepEq 2 (105, 111) = true := by kernel_rfl
theorem st2_115 : stepEq 2 (115, 115) = true := by kernel_rfl
theorem st2_119 : stepEq 2 (119, 119) = true := by kernel_rfl
theorem st2_123 : stepEq 2 (123, 123) = true := by kernel_rfl
theorem st2_127 : stepEq 2 (127, 127) = true := by kernel_rfl
theorem st2_176 : stepEq 2 (176, 191) = true := by kernel_rfl
theorem st2_195 : stepEq 2 (195, 195) = true := by kernel_rfl
theorem st2_199 : stepEq 2 (199, 199) = true := by kernel_rfl
theorem st2_203 : stepEq 2 (203, 203) = true := by kernel_rfl
theorem st2_207 : stepEq 2 (207, 207) = true := by kernel_rfl
theorem st2_241 : stepEq 2 (241, 241) = true := by kernel_rfl
theorem st2_245 : stepEq 2 (245, 245) = true := by kernel_rfl
theorem st2_249 : stepEq 2 (249, 249) = true := by kernel_rfl
theorem st2_253 : stepEq 2 (253, 253) = true := by kernel_rfl
theorem st3_192 : stepEq 3 (192, 192) = true := by kernel_rfl
theorem st3_196 : stepEq 3 (196, 196) = true := by kernel_rfl
theorem st3_200 : stepEq 3 (200, 200) = true := by kernel_rfl
theorem st3_204 : stepEq 3 (204, 204) = true := by kernel_rfl
theorem st3_208 : stepEq 3 (208, 255) = true := by kernel_rfl
theorem dr2_49 : driveEq 2 (49, 49) = true := by kernel_rfl
theorem dr2_53 : driveEq 2 (53, 53) = true := by kernel_rfl
theorem dr2_57 : driveEq 2 (57, 57) = true := by kernel_rfl
theorem dr2_61 : driveEq 2 (61, 61) = true := by kernel_rfl
theorem dr2_80 : driveEq 2 (80, 95) = true := by kernel_rfl
theorem dr2_105 : driveEq 2 (105, 111) = true := by kernel_rfl
theorem dr2_115 : driveEq 2 (115, 115) = true := by kernel_rfl
theorem dr2_119 : driveEq 2 (119, 119) = true := by kernel_rfl
theorem dr2_123 : driveEq 2 (123, 123) = true := by kernel_rfl
theorem dr2_127 : driveEq 2 (127, 127) = true := by kernel_rfl
theorem dr2_176 : driveEq 2 (176, 191) = true := by kernel_rfl
theorem dr2_195 : driveEq 2 (195, 195) = true := by kernel_rfl
theorem dr2_199 : driveEq 2 (199, 199) = true := by kernel_rfl
theorem dr2_203 : driveEq 2 (203, 203) = true := by kernel_rfl
theorem dr2_207 : driveEq 2 (207, 207) = true := by kernel_rfl
theorem dr2_241 : driveEq 2 (241, 241) = true := by kernel_rfl
theorem dr2_245 : driveEq 2 (245, 245) = true := by kernel_rfl
theorem dr2_249 : driveEq 2 (249, 249) = true := by kernel_rfl
theorem dr2_253 : driveEq 2 (253, 253) = true := by kernel_rfl
theorem dr3_192 : driveEq 3 (192, 192) = true := by kernel_rfl
theorem dr3_196 : driveEq 3 (196, 196) = true := by kernel_rfl
theorem dr3_200 : driveEq 3 (200, 200) = true := by kernel_rfl
theorem dr3_204 : driveEq 3 (204, 204) = true := by kernel_rfl
theorem dr3_208 : driveEq 3 (208, 255) = true := by kernel_rfl
theorem dr4_1 : driveEq 4 (1, 255) = true := by kernel_rfl
theorem dr5_1 : driveEq 5 (1, 255) = true := by kernel_rfl
theorem dr7_0 : driveEq 7 (0, 255) = true := by kernel_rfl
theorem drLow : driveQ op ph [(.le ph (.lit 0), true)] = true := by kernel_rfl
theorem drHigh : driveQ op ph [(.le ph (.lit 8), false)] = true := by kernel_rfl
end Go.Proofs.YtjnoacnbhcdidaaDoor.K
