/- CPUAsked: some of its ways, each true. -/
import Derived.Test.YtbkkeedanfmfeaaDoorCAsk0
namespace Go.Proofs.YtbkkeedanfmfeaaDoor.Cpu
open Go Sx
set_option maxRecDepth 100000
theorem askLow : (ask op ph [(.le ph (.lit 0), true)]).all isT = true := by kernel_rfl
theorem askHigh : (ask op ph [(.le ph (.lit 8), false)]).all isT = true := by kernel_rfl
theorem ask1 : askG 1 [(0, 255)] = true := by kernel_rfl
theorem ask4 : askG 4 [(0, 255)] = true := by kernel_rfl
theorem ask5 : askG 5 [(0, 255)] = true := by kernel_rfl
theorem ask6 : askG 6 [(0, 255)] = true := by kernel_rfl
theorem ask7 : askG 7 [(0, 255)] = true := by kernel_rfl
theorem ask8 : askG 8 [(0, 255)] = true := by kernel_rfl
theorem ask3 : askG 3 [(0, 191), (192, 192), (193, 193), (194, 194), (195, 195), (196, 196), (197, 197), (198, 198), (199, 199), (200, 200), (201, 201), (202, 202), (203, 203), (204, 204), (205, 205), (206, 206), (207, 207), (208, 255)] = true := by kernel_rfl
theorem ask2a : askG 2 [(0, 0), (1, 15), (16, 31), (32, 47), (64, 79), (80, 95), (96, 103), (104, 104), (105, 111), (128, 143), (144, 159), (160, 175), (176, 191), (208, 223), (224, 239)] = true := by kernel_rfl
end Go.Proofs.YtbkkeedanfmfeaaDoor.Cpu
