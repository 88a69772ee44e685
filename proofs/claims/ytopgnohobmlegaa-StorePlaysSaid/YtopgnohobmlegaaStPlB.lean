/- StorePlays: some of its ways. -/
import Derived.Test.YtopgnohobmlegaaStPlays
namespace Go.Proofs.Ytopgnohobmlegaa.K
open Go Sy
set_option maxRecDepth 100000
set_option linter.unusedVariables false
set_option linter.unusedSimpArgs false
theorem plH4 : (plHd 4).all isGoP = true := by kernel_rfl
theorem plH5 : (plHd 5).all isGoP = true := by kernel_rfl
theorem plH6 : (plHd 6).all isGoP = true := by kernel_rfl
theorem plH7 : (plHd 7).all isGoP = true := by kernel_rfl
end Go.Proofs.Ytopgnohobmlegaa.K
