/- CPUAsked: some of its ways, each true. -/
import Derived.Test.YtbkkeedanfmfeaaDoorCAsk0
namespace Go.Proofs.YtbkkeedanfmfeaaDoor.Cpu
open Go Sx
set_option maxRecDepth 100000
theorem ask2_3 : askG 2 [(48, 48), (49, 49), (50, 50), (51, 51), (52, 52), (53, 53), (54, 54), (55, 55), (56, 56), (57, 57), (58, 58), (59, 59), (60, 60), (61, 61), (62, 62), (63, 63)] = true := by kernel_rfl
theorem ask2_7 : askG 2 [(112, 112), (113, 113), (114, 114), (115, 115), (116, 116), (117, 117), (118, 118), (119, 119), (120, 120), (121, 121), (122, 122), (123, 123), (124, 124), (125, 125), (126, 126), (127, 127)] = true := by kernel_rfl
end Go.Proofs.YtbkkeedanfmfeaaDoor.Cpu
