/- StorePlays: some of its ways. -/
import Derived.Test.YtopgnohobmlegaaStPlays
namespace Go.Proofs.Ytopgnohobmlegaa.K
open Go Sy
set_option maxRecDepth 100000
set_option linter.unusedVariables false
set_option linter.unusedSimpArgs false
theorem plH0 : (plHd 0).all isGoP = true := by kernel_rfl
theorem plH1 : (plHd 1).all isGoP = true := by kernel_rfl
theorem plH2 : (plHd 2).all isGoP = true := by kernel_rfl
theorem plH3 : (plHd 3).all isGoP = true := by kernel_rfl
end Go.Proofs.Ytopgnohobmlegaa.K
