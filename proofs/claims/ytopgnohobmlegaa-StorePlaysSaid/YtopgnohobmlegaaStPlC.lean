/- StorePlays: some of its ways. -/
import Derived.Test.YtopgnohobmlegaaStPlays
namespace Go.Proofs.Ytopgnohobmlegaa.K
open Go Sy
set_option maxRecDepth 100000
set_option linter.unusedVariables false
set_option linter.unusedSimpArgs false
theorem plH8 : (plHd 8).all isGoP = true := by kernel_rfl
theorem plH9 : (plHd 9).all isGoP = true := by kernel_rfl
theorem plH10 : (plHd 10).all isGoP = true := by kernel_rfl
theorem plH11 : (plHd 11).all isGoP = true := by kernel_rfl
end Go.Proofs.Ytopgnohobmlegaa.K
