/- The processor's functions answer as the reference's: some of the ways. (Printed by gencp.py.) -/
import Derived.Test.YtjnoacnbhcdidaaDoorCpShp
namespace Go.Proofs.YtjnoacnbhcdidaaDoor.K
open Go Sy
set_option maxRecDepth 100000

theorem my2_0 : stepMay 2 (0, 0) = true := by kernel_rfl
theorem my2_48 : stepMay 2 (48, 48) = true := by kernel_rfl
theorem my2_52 : stepMay 2 (52, 52) = true := by kernel_rfl
theorem my2_56 : stepMay 2 (56, 56) = true := by kernel_rfl
theorem my2_60 : stepMay 2 (60, 60) = true := by kernel_rfl
theorem my2_64 : stepMay 2 (64, 79) = true := by kernel_rfl
theorem my2_104 : stepMay 2 (104, 104) = true := by kernel_rfl
theorem my2_114 : stepMay 2 (114, 114) = true := by kernel_rfl
theorem my2_118 : stepMay 2 (118, 118) = true := by kernel_rfl
theorem my2_122 : stepMay 2 (122, 122) = true := by kernel_rfl
theorem my2_126 : stepMay 2 (126, 126) = true := by kernel_rfl
theorem my2_160 : stepMay 2 (160, 175) = true := by kernel_rfl
theorem my2_194 : stepMay 2 (194, 194) = true := by kernel_rfl
theorem my2_198 : stepMay 2 (198, 198) = true := by kernel_rfl
theorem my2_202 : stepMay 2 (202, 202) = true := by kernel_rfl
theorem my2_206 : stepMay 2 (206, 206) = true := by kernel_rfl
theorem my2_240 : stepMay 2 (240, 240) = true := by kernel_rfl
theorem my2_244 : stepMay 2 (244, 244) = true := by kernel_rfl
theorem my2_248 : stepMay 2 (248, 248) = true := by kernel_rfl
theorem my2_252 : stepMay 2 (252, 252) = true := by kernel_rfl
theorem my3_0 : stepMay 3 (0, 191) = true := by kernel_rfl
theorem my3_195 : stepMay 3 (195, 195) = true := by kernel_rfl
theorem my3_199 : stepMay 3 (199, 199) = true := by kernel_rfl
theorem my3_203 : stepMay 3 (203, 203) = true := by kernel_rfl
theorem my3_207 : stepMay 3 (207, 207) = true := by kernel_rfl
theorem my7_0 : stepMay 7 (0, 255) = true := by kernel_rfl
theorem ds2_1 : driveShp 2 (1, 15) = true := by kernel_rfl
theorem ds2_49 : driveShp 2 (49, 49) = true := by kernel_rfl
theorem ds2_53 : driveShp 2 (53, 53) = true := by kernel_rfl
theorem ds2_57 : driveShp 2 (57, 57) = true := by kernel_rfl
theorem ds2_61 : driveShp 2 (61, 61) = true := by kernel_rfl
theorem ds2_80 : driveShp 2 (80, 95) = true := by kernel_rfl
theorem ds2_105 : driveShp 2 (105, 111) = true := by kernel_rfl
theorem ds2_115 : driveShp 2 (115, 115) = true := by kernel_rfl
theorem ds2_119 : driveShp 2 (119, 119) = true := by kernel_rfl
theorem ds2_123 : driveShp 2 (123, 123) = true := by kernel_rfl
theorem ds2_127 : driveShp 2 (127, 127) = true := by kernel_rfl
theorem ds2_176 : driveShp 2 (176, 191) = true := by kernel_rfl
theorem ds2_195 : driveShp 2 (195, 195) = true := by kernel_rfl
theorem ds2_199 : driveShp 2 (199, 199) = true := by kernel_rfl
theorem ds2_203 : driveShp 2 (203, 203) = true := by kernel_rfl
theorem ds2_207 : driveShp 2 (207, 207) = true := by kernel_rfl
theorem ds2_241 : driveShp 2 (241, 241) = true := by kernel_rfl
theorem ds2_245 : driveShp 2 (245, 245) = true := by kernel_rfl
theorem ds2_249 : driveShp 2 (249, 249) = true := by kernel_rfl
theorem ds2_253 : driveShp 2 (253, 253) = true := by kernel_rfl
theorem ds3_192 : driveShp 3 (192, 192) = true := by kernel_rfl
theorem ds3_196 : driveShp 3 (196, 196) = true := by kernel_rfl
theorem ds3_200 : driveShp 3 (200, 200) = true := by kernel_rfl
theorem ds3_204 : driveShp 3 (204, 204) = true := by kernel_rfl
theorem ds3_208 : driveShp 3 (208, 255) = true := by kernel_rfl
theorem ds5_1 : driveShp 5 (1, 255) = true := by kernel_rfl
theorem myLow : stepM op ph [(.le ph (.lit 0), true)] = true := by kernel_rfl
theorem myHigh : stepM op ph [(.le ph (.lit 8), false)] = true := by kernel_rfl
end Go.Proofs.YtjnoacnbhcdidaaDoor.K
