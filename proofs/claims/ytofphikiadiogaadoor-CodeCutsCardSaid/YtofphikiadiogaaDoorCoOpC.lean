/- CodeOps: some of its groups. (Printed.) -/
import Derived.Test.YtofphikiadiogaaDoorCoOps
namespace Go.Proofs.YtofphikiadiogaaDoor.K
open Go Sy
set_option maxRecDepth 100000
theorem opsOk10 : opsOk 40 4 = true := by kernel_rfl
theorem opsOk11 : opsOk 44 4 = true := by kernel_rfl
theorem opsOk12 : opsOk 48 4 = true := by kernel_rfl
theorem opsOk13 : opsOk 52 4 = true := by kernel_rfl
theorem opsOk14 : opsOk 56 4 = true := by kernel_rfl
end Go.Proofs.YtofphikiadiogaaDoor.K
