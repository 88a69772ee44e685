/- The processor's functions answer as the reference's: some of the ways. (Printed by gencp.py.) -/
import Derived.Test.YtjnoacnbhcdidaaDoorCpEqv
namespace Go.Proofs.YtjnoacnbhcdidaaDoor.K
open Go Sy
set_option maxRecDepth 100000

theorem st2_0 : stepEq 2 (0, 0) = true := by kernel_rfl
theorem st2_48 : stepEq 2 (48, 48) = true := by kernel_rfl
theorem st2_52 : stepEq 2 (52, 52) = true := by kernel_rfl
theorem st2_56 : stepEq 2 (56, 56) = true := by kernel_rfl
theorem st2_60 : stepEq 2 (60, 60) = true := by kernel_rfl
theorem st2_64 : stepEq 2 (64, 79) = true := by kernel_rfl
theorem st2_104 : stepEq 2 (104, 104) = true := by kernel_rfl
theorem st2_114 : stepEq 2 (114, 114) = true := by kernel_rfl
theorem st2_118 : stepEq 2 (118, 118) = true := by kernel_rfl
theorem st2_122 : stepEq 2 (122, 122) = true := by kernel_rfl
theorem st2_126 : stepEq 2 (126, 126) = true := by kernel_rfl
theorem st2_160 : stepEq 2 (160, 175) = true := by kernel_rfl
theorem st2_194 : stepEq 2 (194, 194) = true := by kernel_rfl
theorem st2_198 : stepEq 2 (198, 198) = true := by kernel_rfl
theorem st2_202 : stepEq 2 (202, 202) = true := by kernel_rfl
theorem st2_206 : stepEq 2 (206, 206) = true := by kernel_rfl
theorem st2_240 : stepEq 2 (240, 240) = true := by kernel_rfl
theorem st2_244 : stepEq 2 (244, 244) = true := by kernel_rfl
theorem st2_248 : stepEq 2 (248, 248) = true := by kernel_rfl
theorem st2_252 : stepEq 2 (252, 252) = true := by kernel_rfl
theorem st3_0 : stepEq 3 (0, 191) = true := by kernel_rfl
theorem st3_195 : stepEq 3 (195, 195) = true := by kernel_rfl
theorem st3_199 : stepEq 3 (199, 199) = true := by kernel_rfl
theorem st3_203 : stepEq 3 (203, 203) = true := by kernel_rfl
theorem st3_207 : stepEq 3 (207, 207) = true := by kernel_rfl
theorem dr2_48 : driveEq 2 (48, 48) = true := by kernel_rfl
theorem dr2_52 : driveEq 2 (52, 52) = true := by kernel_rfl
theorem dr2_56 : driveEq 2 (56, 56) = true := by kernel_rfl
theorem dr2_60 : driveEq 2 (60, 60) = true := by kernel_rfl
theorem dr2_64 : driveEq 2 (64, 79) = true := by kernel_rfl
theorem dr2_104 : driveEq 2 (104, 104) = true := by kernel_rfl
theorem dr2_114 : driveEq 2 (114, 114) = true := by kernel_rfl
theorem dr2_118 : driveEq 2 (118, 118) = true := by kernel_rfl
theorem dr2_122 : driveEq 2 (122, 122) = true := by kernel_rfl
theorem dr2_126 : driveEq 2 (126, 126) = true := by kernel_rfl
theorem dr2_160 : driveEq 2 (160, 175) = true := by kernel_rfl
theorem dr2_194 : driveEq 2 (194, 194) = true := by kernel_rfl
theorem dr2_198 : driveEq 2 (198, 198) = true := by kernel_rfl
theorem dr2_202 : driveEq 2 (202, 202) = true := by kernel_rfl
theorem dr2_206 : driveEq 2 (206, 206) = true := by kernel_rfl
theorem dr2_240 : driveEq 2 (240, 240) = true := by kernel_rfl
theorem dr2_244 : driveEq 2 (244, 244) = true := by kernel_rfl
theorem dr2_248 : driveEq 2 (248, 248) = true := by kernel_rfl
theorem dr2_252 : driveEq 2 (252, 252) = true := by kernel_rfl
theorem dr3_0 : driveEq 3 (0, 191) = true := by kernel_rfl
theorem dr3_195 : driveEq 3 (195, 195) = true := by kernel_rfl
theorem dr3_199 : driveEq 3 (199, 199) = true := by kernel_rfl
theorem dr3_203 : driveEq 3 (203, 203) = true := by kernel_rfl
theorem dr3_207 : driveEq 3 (207, 207) = true := by kernel_rfl
theorem st4_1 : stepEq 4 (1, 255) = true := by kernel_rfl
theorem st5_1 : stepEq 5 (1, 255) = true := by kernel_rfl
theorem st7_0 : stepEq 7 (0, 255) = true := by kernel_rfl
theorem stLow : stepQ op ph [(.le ph (.lit 0), true)] = true := by kernel_rfl
theorem stHigh : stepQ op ph [(.le ph (.lit 8), false)] = true := by kernel_rfl
end Go.Proofs.YtjnoacnbhcdidaaDoor.K
