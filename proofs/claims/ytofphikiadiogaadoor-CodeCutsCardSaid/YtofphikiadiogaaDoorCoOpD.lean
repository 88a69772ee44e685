/- CodeOps: some of its groups. (Printed.) -/
import Derived.Test.YtofphikiadiogaaDoorCoOps
namespace Go.Proofs.YtofphikiadiogaaDoor.K
open Go Sy
set_option maxRecDepth 100000
theorem opsOk15 : opsOk 60 4 = true := by kernel_rfl
theorem opsOk16 : opsOk 64 4 = true := by kernel_rfl
theorem opsOk17 : opsOk 68 4 = true := by kernel_rfl
theorem opsOk18 : opsOk 72 4 = true := by kernel_rfl
theorem opsOk19 : opsOk 76 4 = true := by kernel_rfl
theorem opsOk20 : opsOk 80 1 = true := by kernel_rfl
def isEndO : Sy.Go → Bool
  | .done v _ => isT1 v
  | _ => false
theorem opsEnd : (opsH 80).all isEndO = true := by kernel_rfl
theorem opsStart : opsS.all (fun o => match o with | .go q l => decide (q = (qOps, 0)) && (match getI l .i64 1000 with | some x => x.same (.lit 0) | none => false) | _ => false) = true := by kernel_rfl
end Go.Proofs.YtofphikiadiogaaDoor.K
