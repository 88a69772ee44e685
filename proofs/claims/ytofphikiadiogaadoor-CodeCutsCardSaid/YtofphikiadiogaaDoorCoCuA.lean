/- CodeCuts: some of its groups. (Printed.) -/
import Derived.Test.YtofphikiadiogaaDoorCoCuts
namespace Go.Proofs.YtofphikiadiogaaDoor.K
open Go Sy
set_option maxRecDepth 100000
theorem cutsOk0 : cutsOk 0 4 = true := by kernel_rfl
theorem cutsOk1 : cutsOk 4 4 = true := by kernel_rfl
theorem cutsOk2 : cutsOk 8 4 = true := by kernel_rfl
theorem cutsOk3 : cutsOk 12 4 = true := by kernel_rfl
theorem cutsOk4 : cutsOk 16 4 = true := by kernel_rfl
end Go.Proofs.YtofphikiadiogaaDoor.K
