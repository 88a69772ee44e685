/- CodeCuts: some of its groups. (Printed.) -/
import Derived.Test.YtofphikiadiogaaDoorCoCuts
namespace Go.Proofs.YtofphikiadiogaaDoor.K
open Go Sy
set_option maxRecDepth 100000
theorem cutsOk15 : cutsOk 60 4 = true := by kernel_rfl
theorem cutsOk16 : cutsOk 64 4 = true := by kernel_rfl
theorem cutsOk17 : cutsOk 68 4 = true := by kernel_rfl
theorem cutsOk18 : cutsOk 72 4 = true := by kernel_rfl
theorem cutsOk19 : cutsOk 76 4 = true := by kernel_rfl
theorem cutsEnd : (cuH 80).all isGoC = true := by kernel_rfl
end Go.Proofs.YtofphikiadiogaaDoor.K
