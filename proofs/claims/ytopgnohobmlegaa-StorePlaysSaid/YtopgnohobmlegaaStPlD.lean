/- StorePlays: some of its ways. -/
import Derived.Test.YtopgnohobmlegaaStPlays
namespace Go.Proofs.Ytopgnohobmlegaa.K
open Go Sy
set_option maxRecDepth 100000
set_option linter.unusedVariables false
set_option linter.unusedSimpArgs false
theorem plH12 : (plHd 12).all isGoP = true := by kernel_rfl
theorem plH13 : (plHd 13).all isGoP = true := by kernel_rfl
theorem plH14 : (plHd 14).all isGoP = true := by kernel_rfl
theorem plH15 : (plHd 15).all isGoP = true := by kernel_rfl
end Go.Proofs.Ytopgnohobmlegaa.K
