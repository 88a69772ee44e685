/- CodeOps: some of its groups. (Printed.) -/
import Derived.Test.YtofphikiadiogaaDoorCoOps
namespace Go.Proofs.YtofphikiadiogaaDoor.K
open Go Sy
set_option maxRecDepth 100000
theorem opsOk0 : opsOk 0 4 = true := by kernel_rfl
theorem opsOk1 : opsOk 4 4 = true := by kernel_rfl
theorem opsOk2 : opsOk 8 4 = true := by kernel_rfl
theorem opsOk3 : opsOk 12 4 = true := by kernel_rfl
theorem opsOk4 : opsOk 16 4 = true := by kernel_rfl
end Go.Proofs.YtofphikiadiogaaDoor.K
