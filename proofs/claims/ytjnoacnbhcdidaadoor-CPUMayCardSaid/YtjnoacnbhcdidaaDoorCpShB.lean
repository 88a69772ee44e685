/- The processor's functions answer as the reference's: some of the ways. (Printed by gencp.py.) -/
import Derived.Test.YtjnoacnbhcdidaaDoorCpShp
namespace Go.Proofs.YtjnoacnbhcdidaaDoor.K
open Go Sy
set_option maxRecDepth 100000

theorem my2_1 : stepMay 2 (1, 15) = true := by kernel_rfl
theorem my2_49 : stepMay 2 (49, 49) = true := by kernel_rfl
theorem my2_53 : stepMay 2 (53, 53) = true := by kernel_rfl
theorem my2_57 : stepMay 2 (57, 57) = true := by kernel_rfl
theorem my2_61 : stepMay 2 (61, 61) = true := by kernel_rfl
theorem my2_80 : stepMay 2 (80, 95) = true := by kernel_rfl
theorem my2_105 : stepMay 2 (105, 111) = true := by kernel_rfl
theorem my2_115 : stepMay 2 (115, 115) = true := by kernel_rfl
theorem my2_119 : stepMay 2 (119, 119) = true := by kernel_rfl
theorem my2_123 : stepMay 2 (123, 123) = true := by kernel_rfl
theorem my2_127 : stepMay 2 (127, 127) = true := by kernel_rfl
theorem my2_176 : stepMay 2 (176, 191) = true := by kernel_rfl
theorem my2_195 : stepMay 2 (195, 195) = true := by kernel_rfl
theorem my2_199 : stepMay 2 (199, 199) = true := by kernel_rfl
theorem my2_203 : stepMay 2 (203, 203) = true := by kernel_rfl
theorem my2_207 : stepMay 2 (207, 207) = true := by kernel_rfl
theorem my2_241 : stepMay 2 (241, 241) = true := by kernel_rfl
theorem my2_245 : stepMay 2 (245, 245) = true := by kernel_rfl
theorem my2_249 : stepMay 2 (249, 249) = true := by kernel_rfl
theorem my2_253 : stepMay 2 (253, 253) = true := by kernel_rfl
theorem my3_192 : stepMay 3 (192, 192) = true := by kernel_rfl
theorem my3_196 : stepMay 3 (196, 196) = true := by kernel_rfl
theorem my3_200 : stepMay 3 (200, 200) = true := by kernel_rfl
theorem my3_204 : stepMay 3 (204, 204) = true := by kernel_rfl
theorem my3_208 : stepMay 3 (208, 255) = true := by kernel_rfl
theorem my8_0 : stepMay 8 (0, 255) = true := by kernel_rfl
theorem ds2_16 : driveShp 2 (16, 31) = true := by kernel_rfl
theorem ds2_50 : driveShp 2 (50, 50) = true := by kernel_rfl
theorem ds2_54 : driveShp 2 (54, 54) = true := by kernel_rfl
theorem ds2_58 : driveShp 2 (58, 58) = true := by kernel_rfl
theorem ds2_62 : driveShp 2 (62, 62) = true := by kernel_rfl
theorem ds2_96 : driveShp 2 (96, 96) = true := by kernel_rfl
theorem ds2_112 : driveShp 2 (112, 112) = true := by kernel_rfl
theorem ds2_116 : driveShp 2 (116, 116) = true := by kernel_rfl
theorem ds2_120 : driveShp 2 (120, 120) = true := by kernel_rfl
theorem ds2_124 : driveShp 2 (124, 124) = true := by kernel_rfl
theorem ds2_128 : driveShp 2 (128, 143) = true := by kernel_rfl
theorem ds2_192 : driveShp 2 (192, 192) = true := by kernel_rfl
theorem ds2_196 : driveShp 2 (196, 196) = true := by kernel_rfl
theorem ds2_200 : driveShp 2 (200, 200) = true := by kernel_rfl
theorem ds2_204 : driveShp 2 (204, 204) = true := by kernel_rfl
theorem ds2_208 : driveShp 2 (208, 223) = true := by kernel_rfl
theorem ds2_242 : driveShp 2 (242, 242) = true := by kernel_rfl
theorem ds2_246 : driveShp 2 (246, 246) = true := by kernel_rfl
theorem ds2_250 : driveShp 2 (250, 250) = true := by kernel_rfl
theorem ds2_254 : driveShp 2 (254, 254) = true := by kernel_rfl
theorem ds3_193 : driveShp 3 (193, 193) = true := by kernel_rfl
theorem ds3_197 : driveShp 3 (197, 197) = true := by kernel_rfl
theorem ds3_201 : driveShp 3 (201, 201) = true := by kernel_rfl
theorem ds3_205 : driveShp 3 (205, 205) = true := by kernel_rfl
theorem ds4_0 : driveShp 4 (0, 0) = true := by kernel_rfl
theorem ds6_0 : driveShp 6 (0, 255) = true := by kernel_rfl
theorem dsLow : driveS op ph [(.le ph (.lit 0), true)] = true := by kernel_rfl
theorem dsHigh : driveS op ph [(.le ph (.lit 8), false)] = true := by kernel_rfl
end Go.Proofs.YtjnoacnbhcdidaaDoor.K
