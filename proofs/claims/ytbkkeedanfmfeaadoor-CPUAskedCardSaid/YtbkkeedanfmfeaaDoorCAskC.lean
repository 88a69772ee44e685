/- CPUAsked: some of its ways, each true. -/
import Derived.Test.YtbkkeedanfmfeaaDoorCAsk0
namespace Go.Proofs.YtbkkeedanfmfeaaDoor.Cpu
open Go Sx
set_option maxRecDepth 100000
theorem ask2_c : askG 2 [(192, 192), (193, 193), (194, 194), (195, 195), (196, 196), (197, 197), (198, 198), (199, 199), (200, 200), (201, 201), (202, 202), (203, 203), (204, 204), (205, 205), (206, 206), (207, 207)] = true := by kernel_rfl
theorem ask2_f : askG 2 [(240, 240), (241, 241), (242, 242), (243, 243), (244, 244), (245, 245), (246, 246), (247, 247), (248, 248), (249, 249), (250, 250), (251, 251), (252, 252), (253, 253), (254, 254), (255, 255)] = true := by kernel_rfl
end Go.Proofs.YtbkkeedanfmfeaaDoor.Cpu
