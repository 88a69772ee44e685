/- The processor's functions answer as the reference's: some of the ways. (Printed by gencp.py.) -/
import Derived.Test.YtjnoacnbhcdidaaDoorCpShp
namespace Go.Proofs.YtjnoacnbhcdidaaDoor.K
open Go Sy
set_option maxRecDepth 100000

theorem my2_16 : stepMay 2 (16, 31) = true := by kernel_rfl
theorem my2_50 : stepMay 2 (50, 50) = true := by kernel_rfl
theorem my2_54 : stepMay 2 (54, 54) = true := by kernel_rfl
theorem my2_58 : stepMay 2 (58, 58) = true := by kernel_rfl
theorem my2_62 : stepMay 2 (62, 62) = true := by kernel_rfl
theorem my2_96 : stepMay 2 (96, 96) = true := by kernel_rfl
theorem my2_112 : stepMay 2 (112, 112) = true := by kernel_rfl
theorem my2_116 : stepMay 2 (116, 116) = true := by kernel_rfl
theorem my2_120 : stepMay 2 (120, 120) = true := by kernel_rfl
theorem my2_124 : stepMay 2 (124, 124) = true := by kernel_rfl
theorem my2_128 : stepMay 2 (128, 143) = true := by kernel_rfl
theorem my2_192 : stepMay 2 (192, 192) = true := by kernel_rfl
theorem my2_196 : stepMay 2 (196, 196) = true := by kernel_rfl
theorem my2_200 : stepMay 2 (200, 200) = true := by kernel_rfl
theorem my2_204 : stepMay 2 (204, 204) = true := by kernel_rfl
theorem my2_208 : stepMay 2 (208, 223) = true := by kernel_rfl
theorem my2_242 : stepMay 2 (242, 242) = true := by kernel_rfl
theorem my2_246 : stepMay 2 (246, 246) = true := by kernel_rfl
theorem my2_250 : stepMay 2 (250, 250) = true := by kernel_rfl
theorem my2_254 : stepMay 2 (254, 254) = true := by kernel_rfl
theorem my3_193 : stepMay 3 (193, 193) = true := by kernel_rfl
theorem my3_197 : stepMay 3 (197, 197) = true := by kernel_rfl
theorem my3_201 : stepMay 3 (201, 201) = true := by kernel_rfl
theorem my3_205 : stepMay 3 (205, 205) = true := by kernel_rfl
theorem my1_0 : stepMay 1 (0, 255) = true := by kernel_rfl
theorem my4_1 : stepMay 4 (1, 255) = true := by kernel_rfl
theorem my5_1 : stepMay 5 (1, 255) = true := by kernel_rfl
theorem ds1_0 : driveShp 1 (0, 255) = true := by kernel_rfl
theorem ds2_32 : driveShp 2 (32, 47) = true := by kernel_rfl
theorem ds2_51 : driveShp 2 (51, 51) = true := by kernel_rfl
theorem ds2_55 : driveShp 2 (55, 55) = true := by kernel_rfl
theorem ds2_59 : driveShp 2 (59, 59) = true := by kernel_rfl
theorem ds2_63 : driveShp 2 (63, 63) = true := by kernel_rfl
theorem ds2_97 : driveShp 2 (97, 103) = true := by kernel_rfl
theorem ds2_113 : driveShp 2 (113, 113) = true := by kernel_rfl
theorem ds2_117 : driveShp 2 (117, 117) = true := by kernel_rfl
theorem ds2_121 : driveShp 2 (121, 121) = true := by kernel_rfl
theorem ds2_125 : driveShp 2 (125, 125) = true := by kernel_rfl
theorem ds2_144 : driveShp 2 (144, 159) = true := by kernel_rfl
theorem ds2_193 : driveShp 2 (193, 193) = true := by kernel_rfl
theorem ds2_197 : driveShp 2 (197, 197) = true := by kernel_rfl
theorem ds2_201 : driveShp 2 (201, 201) = true := by kernel_rfl
theorem ds2_205 : driveShp 2 (205, 205) = true := by kernel_rfl
theorem ds2_224 : driveShp 2 (224, 239) = true := by kernel_rfl
theorem ds2_243 : driveShp 2 (243, 243) = true := by kernel_rfl
theorem ds2_247 : driveShp 2 (247, 247) = true := by kernel_rfl
theorem ds2_251 : driveShp 2 (251, 251) = true := by kernel_rfl
theorem ds2_255 : driveShp 2 (255, 255) = true := by kernel_rfl
theorem ds3_194 : driveShp 3 (194, 194) = true := by kernel_rfl
theorem ds3_198 : driveShp 3 (198, 198) = true := by kernel_rfl
theorem ds3_202 : driveShp 3 (202, 202) = true := by kernel_rfl
theorem ds3_206 : driveShp 3 (206, 206) = true := by kernel_rfl
theorem ds4_1 : driveShp 4 (1, 255) = true := by kernel_rfl
theorem ds7_0 : driveShp 7 (0, 255) = true := by kernel_rfl
theorem checkShp_ok : checkShp = true := by kernel_rfl
end Go.Proofs.YtjnoacnbhcdidaaDoor.K
