/- CodeOps: some of its groups. (Printed.) -/
import Derived.Test.YtofphikiadiogaaDoorCoOps
namespace Go.Proofs.YtofphikiadiogaaDoor.K
open Go Sy
set_option maxRecDepth 100000
theorem opsOk5 : opsOk 20 4 = true := by kernel_rfl
theorem opsOk6 : opsOk 24 4 = true := by kernel_rfl
theorem opsOk7 : opsOk 28 4 = true := by kernel_rfl
theorem opsOk8 : opsOk 32 4 = true := by kernel_rfl
theorem opsOk9 : opsOk 36 4 = true := by kernel_rfl
end Go.Proofs.YtofphikiadiogaaDoor.K
