/- The orders in which regions that draw theirs are walked; each is held good. (Printed by mkplan.py.) -/
import Derived.Test.YtopgnohobmlegaaSyExec
import Derived.Test.YtopgnohobmlegaaProg
import Derived.KernelRfl
namespace Go.Proofs.Ytopgnohobmlegaa.Sy
open Go
set_option maxRecDepth 100000
def s6_20 : Sch := .pure 0 <| .pure 1 <| .load 2 <| .pure 3 <| .pure 4 <| .load 5 <| .last 6 .done
def s6_34 : Sch := .pure 0 <| .pure 1 <| .pure 2 <| .pure 4 <| .pure 5 <| .pure 6 <| .alt (.last 3 <| .step 7 <| .pure 8 .done) (.step 7 <| .last 3 <| .pure 8 .done)
def s14_6 : Sch := .pure 0 <| .pure 1 <| .pure 2 <| .load 3 <| .pure 4 <| .pure 5 <| .pure 6 <| .load 7 <| .pure 8 .done
def s19_6 : Sch := .pure 0 <| .pure 2 <| .alt (.step 1 <| .last 3 <| .pure 4 <| .step 5 <| .pure 6 <| .pure 7 .done) (.last 3 <| .step 1 <| .pure 4 <| .step 5 <| .pure 6 <| .pure 7 .done)
def s28_6 : Sch := .pure 0 <| .pure 1 <| .pure 2 <| .load 3 <| .pure 4 <| .pure 5 <| .pure 6 <| .load 7 <| .pure 8 .done
def s35_3 : Sch := .pure 0 <| .pure 1 <| .pure 2 <| .load 3 <| .pure 5 <| .pure 6 <| .pure 7 <| .pure 10 <| .pure 11 <| .pure 12 <| .alt (.last 4 <| .alt (.step 8 <| .alt (.last 9 <| .step 13 <| .pure 14 <| .step 15 <| .pure 16 .done) (.step 13 <| .last 9 <| .pure 14 <| .step 15 <| .pure 16 .done)) (.step 13 <| .step 8 <| .last 9 <| .pure 14 <| .step 15 <| .pure 16 .done)) (.alt (.step 8 <| .alt (.last 4 <| .alt (.last 9 <| .step 13 <| .pure 14 <| .step 15 <| .pure 16 .done) (.step 13 <| .last 9 <| .pure 14 <| .step 15 <| .pure 16 .done)) (.step 13 <| .last 4 <| .last 9 <| .pure 14 <| .step 15 <| .pure 16 .done)) (.step 13 <| .alt (.last 4 <| .step 8 <| .last 9 <| .pure 14 <| .step 15 <| .pure 16 .done) (.step 8 <| .last 4 <| .last 9 <| .pure 14 <| .step 15 <| .pure 16 .done)))
def s36_10 : Sch := .pure 0 <| .pure 1 <| .load 2 <| .pure 4 <| .pure 5 <| .alt (.last 3 <| .step 6 <| .last 7 <| .pure 8 <| .pure 9 .done) (.step 6 <| .last 3 <| .last 7 <| .pure 8 <| .pure 9 .done)
def s36_21 : Sch := .pure 0 <| .pure 1 <| .load 2 <| .pure 4 <| .pure 5 <| .alt (.last 3 <| .step 6 <| .last 7 <| .pure 8 <| .pure 9 .done) (.step 6 <| .last 3 <| .last 7 <| .pure 8 <| .pure 9 .done)
def s45_1 : Sch := .pure 0 <| .pure 1 <| .pure 2 <| .pure 3 <| .pure 4 <| .pure 5 <| .load 6 <| .pure 7 <| .pure 8 .done
def sch : List (List (Nat × Sch)) := [[], [], [], [], [], [], [(20, s6_20), (34, s6_34)], [], [], [], [], [], [], [], [(6, s14_6)], [], [], [], [], [(6, s19_6)], [], [], [], [], [], [], [], [], [(6, s28_6)], [], [], [], [], [], [], [(3, s35_3)], [(10, s36_10), (21, s36_21)], [], [], [], [], [], [], [], [], [(1, s45_1)]]
theorem plan_ok : planB Try.prog Try.prog.funcs.toList sch = true := by kernel_rfl
end Go.Proofs.Ytopgnohobmlegaa.Sy
