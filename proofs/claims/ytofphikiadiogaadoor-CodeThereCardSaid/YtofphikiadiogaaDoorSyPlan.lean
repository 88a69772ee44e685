/- The orders in which regions that draw theirs are walked; each is held good. (Printed by mkplan.py.) -/
import Derived.Test.YtofphikiadiogaaDoorSyExec
import Derived.Test.YtofphikiadiogaaDoorProg
import Derived.KernelRfl
namespace Go.Proofs.YtofphikiadiogaaDoor.Sy
open Go
set_option maxRecDepth 100000
def s7_8 : Sch := .pure 0 <| .pure 1 <| .pure 2 <| .pure 3 <| .pure 4 <| .load 5 <| .pure 6 <| .pure 7 <| .pure 8 <| .pure 9 <| .pure 10 <| .pure 11 <| .load 12 <| .pure 13 <| .pure 14 <| .pure 15 <| .pure 16 <| .pure 17 <| .pure 18 <| .pure 19 <| .load 20 <| .pure 21 <| .pure 22 <| .pure 23 .done
def s8_16 : Sch := .pure 0 <| .pure 1 <| .load 2 <| .pure 3 <| .pure 4 <| .load 5 <| .step 6 <| .pure 7 <| .pure 8 <| .last 9 .done
def s8_17 : Sch := .load 0 <| .pure 1 <| .alt (.step 2 <| .last 3 <| .pure 4 <| .pure 5 .done) (.last 3 <| .step 2 <| .pure 4 <| .pure 5 .done)
def s9_2 : Sch := .pure 0 <| .pure 2 <| .pure 3 <| .pure 4 <| .load 5 <| .alt (.step 1 <| .pure 6 <| .step 7 <| .last 8 .done) (.step 7 <| .step 1 <| .pure 6 <| .last 8 .done)
def s10_30 : Sch := .pure 0 <| .pure 1 <| .pure 2 <| .load 3 <| .pure 4 <| .pure 6 <| .load 7 <| .pure 8 <| .step 5 <| .step 9 <| .step 10 <| .pure 11 <| .pure 12 .done
def s11_6 : Sch := .pure 0 <| .pure 1 <| .pure 2 <| .load 3 <| .pure 4 <| .pure 5 <| .pure 6 <| .load 7 <| .pure 8 .done
def s16_7 : Sch := .pure 0 <| .load 1 <| .pure 2 <| .pure 3 <| .load 4 <| .pure 5 <| .load 6 <| .pure 7 <| .load 8 <| .step 9 <| .pure 10 <| .pure 11 <| .pure 12 .done
def s17_3 : Sch := .pure 0 <| .load 1 <| .pure 3 <| .load 4 <| .step 2 <| .step 5 <| .pure 6 <| .pure 7 .done
def s17_9 : Sch := .pure 0 <| .load 1 <| .pure 2 <| .load 3 <| .pure 5 <| .load 6 <| .pure 7 <| .load 8 <| .step 4 <| .step 9 <| .pure 10 <| .pure 11 .done
def s18_4 : Sch := .pure 0 <| .pure 1 <| .pure 2 <| .load 3 <| .pure 4 <| .pure 5 <| .load 6 <| .pure 7 <| .pure 8 <| .pure 9 <| .load 10 <| .pure 11 <| .pure 12 <| .load 13 <| .last 14 <| .pure 15 .done
def s18_9 : Sch := .pure 0 <| .pure 1 <| .pure 2 <| .load 3 <| .pure 4 <| .pure 5 <| .load 6 <| .pure 7 <| .pure 8 <| .pure 9 <| .load 10 <| .pure 11 <| .pure 12 <| .load 13 <| .last 14 <| .pure 15 .done
def s35_4 : Sch := .pure 0 <| .pure 1 <| .pure 2 <| .pure 3 <| .pure 6 <| .alt (.step 4 <| .step 5 <| .last 7 <| .step 8 <| .last 9 <| .pure 10 <| .pure 11 <| .last 12 .done) (.step 5 <| .alt (.step 4 <| .last 7 <| .step 8 <| .last 9 <| .pure 10 <| .pure 11 <| .last 12 .done) (.last 7 <| .alt (.step 4 <| .step 8 <| .last 9 <| .pure 10 <| .pure 11 <| .last 12 .done) (.step 8 <| .step 4 <| .last 9 <| .pure 10 <| .pure 11 <| .last 12 .done)))
def s37_18 : Sch := .pure 0 <| .pure 1 <| .load 2 <| .pure 3 <| .pure 4 <| .pure 5 <| .pure 6 <| .load 7 <| .pure 8 <| .pure 9 <| .pure 10 .done
def s38_5 : Sch := .pure 0 <| .pure 1 <| .pure 2 <| .pure 3 <| .pure 4 <| .pure 5 <| .pure 6 <| .pure 7 <| .load 8 <| .pure 9 <| .pure 10 <| .pure 11 <| .load 12 <| .pure 13 <| .pure 14 <| .pure 15 <| .pure 16 <| .pure 17 <| .pure 18 <| .pure 19 <| .pure 20 <| .pure 21 <| .pure 22 <| .pure 23 <| .load 24 <| .pure 25 <| .pure 26 <| .pure 27 .done
def s39_7 : Sch := .pure 0 <| .load 1 <| .pure 2 <| .pure 3 <| .load 4 <| .pure 5 <| .step 6 <| .pure 7 <| .pure 8 <| .pure 9 .done
def sch : List (List (Nat × Sch)) := [[], [], [], [], [], [], [], [(8, s7_8)], [(16, s8_16), (17, s8_17)], [(2, s9_2)], [(30, s10_30)], [(6, s11_6)], [], [], [], [], [(7, s16_7)], [(3, s17_3), (9, s17_9)], [(4, s18_4), (9, s18_9)], [], [], [], [], [], [], [], [], [], [], [], [], [], [], [], [], [(4, s35_4)], [], [(18, s37_18)], [(5, s38_5)], [(7, s39_7)]]
theorem plan_ok : planB Tryd.prog Tryd.prog.funcs.toList sch = true := by kernel_rfl
end Go.Proofs.YtofphikiadiogaaDoor.Sy
