/- The names of the ops. -/
import Derived.Test.YtofphikiadiogaaDoorCoGlob
namespace Go.Proofs.YtofphikiadiogaaDoor.K
open Go Sy
set_option maxRecDepth 100000
set_option linter.unusedVariables false
set_option linter.unusedSimpArgs false
def gS (len dig : Bool) : SHeap := [if len then gBlk c_lengths 62 else none, if dig then gBlk c_digits 62 else none, gBlk c_threes 74, gBlk c_sevens 74, gBlk c_twelves 74, gBlk c_fifteens 74, gBlk c_rows 74]
def eqL : List Int → List Int → Bool
  | [], [] => true
  | a :: r, b :: s => decide (a = b) && eqL r s
  | _, _ => false
def isName (w : List Int) : WT (SVal × St) → Bool
  | .leaf (.v (.c (.s (.cst l))), _) => eqL l w
  | _ => false
noncomputable def nameRun (f v : Nat) : WT (SVal × St) := xCall Tryd.prog 7 plan noTab 100 7 f [.v (.c (.i .u8 (.lit v)))] ⟨gS false false, []⟩
noncomputable def namesOk (f : Nat) : Nat → List (List Int) → Bool
  | _, [] => true
  | v, w :: r => isName w (nameRun f v) && namesOk f (v + 1) r
theorem name0 : namesOk 21 0 (nameT.take 64) = true := by kernel_rfl
theorem name1 : namesOk 21 64 ((nameT.drop 64).take 64) = true := by kernel_rfl
theorem name2 : namesOk 21 128 ((nameT.drop 128).take 64) = true := by kernel_rfl
theorem name3 : namesOk 21 192 (nameT.drop 192) = true := by kernel_rfl
end Go.Proofs.YtofphikiadiogaaDoor.K
