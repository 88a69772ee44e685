/- CodeCuts: some of its groups. (Printed.) -/
import Derived.Test.YtofphikiadiogaaDoorCoCuts
namespace Go.Proofs.YtofphikiadiogaaDoor.K
open Go Sy
set_option maxRecDepth 100000
theorem cutsOk10 : cutsOk 40 4 = true := by kernel_rfl
theorem cutsOk11 : cutsOk 44 4 = true := by kernel_rfl
theorem cutsOk12 : cutsOk 48 4 = true := by kernel_rfl
theorem cutsOk13 : cutsOk 52 4 = true := by kernel_rfl
theorem cutsOk14 : cutsOk 56 4 = true := by kernel_rfl
end Go.Proofs.YtofphikiadiogaaDoor.K
