/- CodeCuts: some of its groups. (Printed.) -/
import Derived.Test.YtofphikiadiogaaDoorCoCuts
namespace Go.Proofs.YtofphikiadiogaaDoor.K
open Go Sy
set_option maxRecDepth 100000
theorem cutsOk5 : cutsOk 20 4 = true := by kernel_rfl
theorem cutsOk6 : cutsOk 24 4 = true := by kernel_rfl
theorem cutsOk7 : cutsOk 28 4 = true := by kernel_rfl
theorem cutsOk8 : cutsOk 32 4 = true := by kernel_rfl
theorem cutsOk9 : cutsOk 36 4 = true := by kernel_rfl
end Go.Proofs.YtofphikiadiogaaDoor.K
