/- The processor's functions answer as the reference's: some of the ways. (Printed by gencp.py.) -/
import Derived.Test.YtjnoacnbhcdidaaDoorCpShp
namespace Go.Proofs.YtjnoacnbhcdidaaDoor.K
open Go Sy
set_option maxRecDepth 100000

theorem my2_32 : stepMay 2 (32, 47) = true := by kernel_rfl
theorem my2_51 : stepMay 2 (51, 51) = true := by kernel_rfl
theorem my2_55 : stepMay 2 (55, 55) = true := by kernel_rfl
theorem my2_59 : stepMay 2 (59, 59) = true := by kernel_rfl
theorem my2_63 : stepMay 2 (63, 63) = true := by kernel_rfl
theorem my2_97 : stepMay 2 (97, 103) = true := by kernel_rfl
theorem my2_113 : stepMay 2 (113, 113) = true := by kernel_rfl
theorem my2_117 : stepMay 2 (117, 117) = true := by kernel_rfl
theorem my2_121 : stepMay 2 (121, 121) = true := by kernel_rfl
theorem my2_125 : stepMay 2 (125, 125) = true := by kernel_rfl
theorem my2_144 : stepMay 2 (144, 159) = true := by kernel_rfl
theorem my2_193 : stepMay 2 (193, 193) = true := by kernel_rfl
theorem my2_197 : stepMay 2 (197, 197) = true := by kernel_rfl
theorem my2_201 : stepMay 2 (201, 201) = true := by kernel_rfl
theorem my2_205 : stepMay 2 (205, 205) = true := by kernel_rfl
theorem my2_224 : stepMay 2 (224, 239) = true := by kernel_rfl
theorem my2_243 : stepMay 2 (243, 243) = true := by kernel_rfl
theorem my2_247 : stepMay 2 (247, 247) = true := by kernel_rfl
theorem my2_251 : stepMay 2 (251, 251) = true := by kernel_rfl
theorem my2_255 : stepMay 2 (255, 255) = true := by kernel_rfl
theorem my3_194 : stepMay 3 (194, 194) = true := by kernel_rfl
theorem my3_198 : stepMay 3 (198, 198) = true := by kernel_rfl
theorem my3_202 : stepMay 3 (202, 202) = true := by kernel_rfl
theorem my3_206 : stepMay 3 (206, 206) = true := by kernel_rfl
theorem my4_0 : stepMay 4 (0, 0) = true := by kernel_rfl
theorem my5_0 : stepMay 5 (0, 0) = true := by kernel_rfl
theorem my6_0 : stepMay 6 (0, 255) = true := by kernel_rfl
theorem ds2_0 : driveShp 2 (0, 0) = true := by kernel_rfl
theorem ds2_48 : driveShp 2 (48, 48) = true := by kernel_rfl
theorem ds2_52 : driveShp 2 (52, 52) = true := by kernel_rfl
theorem ds2_56 : driveShp 2 (56, 56) = true := by kernel_rfl
theorem ds2_60 : driveShp 2 (60, 60) = true := by kernel_rfl
theorem ds2_64 : driveShp 2 (64, 79) = true := by kernel_rfl
theorem ds2_104 : driveShp 2 (104, 104) = true := by kernel_rfl
theorem ds2_114 : driveShp 2 (114, 114) = true := by kernel_rfl
theorem ds2_118 : driveShp 2 (118, 118) = true := by kernel_rfl
theorem ds2_122 : driveShp 2 (122, 122) = true := by kernel_rfl
theorem ds2_126 : driveShp 2 (126, 126) = true := by kernel_rfl
theorem ds2_160 : driveShp 2 (160, 175) = true := by kernel_rfl
theorem ds2_194 : driveShp 2 (194, 194) = true := by kernel_rfl
theorem ds2_198 : driveShp 2 (198, 198) = true := by kernel_rfl
theorem ds2_202 : driveShp 2 (202, 202) = true := by kernel_rfl
theorem ds2_206 : driveShp 2 (206, 206) = true := by kernel_rfl
theorem ds2_240 : driveShp 2 (240, 240) = true := by kernel_rfl
theorem ds2_244 : driveShp 2 (244, 244) = true := by kernel_rfl
theorem ds2_248 : driveShp 2 (248, 248) = true := by kernel_rfl
theorem ds2_252 : driveShp 2 (252, 252) = true := by kernel_rfl
theorem ds3_0 : driveShp 3 (0, 191) = true := by kernel_rfl
theorem ds3_195 : driveShp 3 (195, 195) = true := by kernel_rfl
theorem ds3_199 : driveShp 3 (199, 199) = true := by kernel_rfl
theorem ds3_203 : driveShp 3 (203, 203) = true := by kernel_rfl
theorem ds3_207 : driveShp 3 (207, 207) = true := by kernel_rfl
theorem ds5_0 : driveShp 5 (0, 0) = true := by kernel_rfl
theorem ds8_0 : driveShp 8 (0, 255) = true := by kernel_rfl
end Go.Proofs.YtjnoacnbhcdidaaDoor.K
