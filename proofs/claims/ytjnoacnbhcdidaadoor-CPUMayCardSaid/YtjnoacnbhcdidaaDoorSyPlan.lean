/- The orders in which regions that draw theirs are walked; each is held good. (Printed by mkplan.py.) -/
import Derived.Test.YtjnoacnbhcdidaaDoorSyExec
import Derived.Test.YtjnoacnbhcdidaaDoorProg
import Derived.KernelRfl
namespace Go.Proofs.YtjnoacnbhcdidaaDoor.Sy
open Go
set_option maxRecDepth 100000
def s3_10 : Sch := .load 0 <| .pure 1 <| .pure 2 <| .load 3 <| .pure 4 <| .pure 5 <| .load 6 <| .last 7 <| .last 8 .done
def s3_11 : Sch := .load 0 <| .pure 1 <| .load 2 <| .pure 3 <| .pure 4 <| .pure 5 <| .load 6 <| .alt (.step 7 <| .step 8 <| .last 9 .done) (.step 8 <| .step 7 <| .last 9 .done)
def s3_25 : Sch := .pure 0 <| .pure 1 <| .pure 2 <| .load 3 <| .pure 4 <| .pure 5 <| .pure 6 <| .load 7 <| .pure 8 .done
def s4_9 : Sch := .load 0 <| .load 2 <| .step 1 <| .step 3 <| .pure 4 .done
def s4_14 : Sch := .load 0 <| .pure 1 <| .load 3 <| .pure 4 <| .step 2 <| .step 5 <| .pure 6 .done
def s4_16 : Sch := .load 0 <| .pure 1 <| .pure 2 <| .pure 3 <| .load 4 <| .alt (.step 5 <| .step 6 <| .last 7 .done) (.step 6 <| .step 5 <| .last 7 .done)
def s4_17 : Sch := .load 0 <| .pure 1 <| .pure 2 <| .pure 3 <| .pure 4 <| .load 5 <| .load 7 <| .pure 8 <| .pure 9 <| .pure 10 <| .pure 11 <| .load 12 <| .step 6 <| .step 13 <| .pure 14 <| .pure 15 <| .load 16 <| .load 17 <| .pure 18 <| .pure 19 <| .pure 20 <| .load 21 <| .step 22 <| .pure 23 <| .pure 24 .done
def s4_20 : Sch := .load 0 <| .load 2 <| .step 1 <| .step 3 <| .pure 4 <| .pure 5 .done
def s5_15 : Sch := .load 0 <| .load 1 <| .load 3 <| .step 2 <| .pure 4 <| .pure 5 <| .load 6 <| .pure 7 <| .load 8 <| .pure 9 <| .load 10 <| .pure 11 <| .pure 12 <| .pure 13 .done
def s5_26 : Sch := .pure 0 <| .pure 1 <| .pure 2 <| .load 3 <| .pure 4 <| .pure 5 <| .pure 6 <| .load 7 <| .pure 8 .done
def s6_13 : Sch := .load 0 <| .load 1 <| .load 3 <| .step 2 <| .pure 4 .done
def s6_19 : Sch := .load 0 <| .load 1 <| .load 3 <| .step 2 <| .pure 4 .done
def s6_27 : Sch := .load 0 <| .load 1 <| .load 3 <| .step 2 <| .pure 4 <| .pure 5 .done
def s7_22 : Sch := .load 0 <| .load 1 <| .pure 2 <| .pure 3 <| .load 4 <| .pure 5 <| .load 6 <| .pure 7 <| .pure 8 <| .pure 9 <| .load 10 <| .pure 11 <| .pure 12 <| .pure 13 .done
def s10_19 : Sch := .load 0 <| .load 1 <| .pure 2 <| .pure 3 <| .pure 4 <| .pure 5 <| .pure 6 <| .pure 7 <| .load 8 <| .pure 9 <| .load 10 <| .pure 11 <| .pure 12 <| .pure 13 .done
def s30_17 : Sch := .load 0 <| .pure 1 <| .load 2 <| .pure 4 <| .load 5 <| .pure 6 <| .load 7 <| .pure 8 <| .load 9 <| .pure 10 <| .load 11 <| .alt (.step 3 <| .pure 12 <| .step 13 <| .last 14 .done) (.step 13 <| .step 3 <| .pure 12 <| .last 14 .done)
def s33_1 : Sch := .pure 1 <| .load 2 <| .pure 3 <| .load 5 <| .step 0 <| .pure 4 <| .last 6 .done
def s34_2 : Sch := .pure 0 <| .load 1 <| .pure 2 <| .load 3 <| .pure 4 <| .pure 6 <| .step 5 <| .pure 7 <| .last 8 .done
def s36_2 : Sch := .load 0 <| .pure 1 <| .load 2 <| .pure 4 <| .load 5 <| .pure 6 <| .load 7 <| .pure 8 <| .load 9 <| .pure 10 <| .load 11 <| .alt (.step 3 <| .pure 12 <| .step 13 <| .last 14 .done) (.step 13 <| .step 3 <| .pure 12 <| .last 14 .done)
def s40_25 : Sch := .pure 0 <| .pure 1 <| .pure 2 <| .pure 3 <| .load 4 <| .pure 6 <| .load 7 <| .pure 9 <| .step 5 <| .step 8 <| .pure 10 <| .last 11 .done
def s40_27 : Sch := .pure 0 <| .pure 1 <| .load 2 <| .pure 3 <| .pure 4 <| .pure 5 <| .load 6 <| .pure 9 <| .step 7 <| .step 8 <| .pure 10 <| .last 11 .done
def s42_9 : Sch := .pure 0 <| .load 1 <| .pure 2 <| .load 3 <| .pure 4 <| .load 5 <| .pure 7 <| .step 6 <| .pure 8 <| .last 9 .done
def s54_3 : Sch := .pure 0 <| .load 1 <| .pure 2 <| .load 3 <| .pure 4 <| .pure 5 <| .load 6 <| .pure 8 <| .load 9 <| .pure 11 <| .step 7 <| .step 10 <| .pure 12 <| .last 13 .done
def s56_30 : Sch := .load 0 <| .pure 1 <| .load 2 <| .pure 4 <| .load 5 <| .step 3 <| .step 6 <| .last 7 .done
def s56_32 : Sch := .load 0 <| .pure 1 <| .load 2 <| .pure 4 <| .load 5 <| .step 3 <| .step 6 <| .last 7 .done
def s56_36 : Sch := .load 0 <| .pure 1 <| .load 2 <| .pure 4 <| .load 5 <| .step 3 <| .step 6 <| .last 7 .done
def s60_8 : Sch := .load 0 <| .pure 1 <| .pure 2 <| .pure 3 <| .pure 4 <| .load 5 <| .pure 6 <| .load 7 <| .step 8 <| .last 9 .done
def s69_1 : Sch := .pure 0 <| .pure 1 <| .pure 2 <| .pure 3 <| .load 4 <| .pure 5 <| .pure 6 <| .pure 7 <| .pure 8 <| .load 9 <| .pure 10 <| .pure 11 <| .pure 12 <| .pure 13 <| .last 14 .done
def s70_1 : Sch := .pure 0 <| .pure 1 <| .pure 2 <| .pure 3 <| .load 4 <| .pure 5 <| .pure 6 <| .pure 7 <| .pure 8 <| .load 9 <| .pure 10 <| .pure 11 <| .pure 12 <| .pure 13 <| .last 14 .done
def s71_2 : Sch := .pure 0 <| .pure 1 <| .load 2 <| .pure 3 <| .pure 4 <| .pure 5 <| .load 6 <| .pure 8 <| .pure 9 <| .step 7 <| .pure 10 .done
def s71_3 : Sch := .pure 0 <| .pure 1 <| .pure 2 <| .pure 3 <| .load 4 <| .pure 5 <| .pure 6 <| .pure 7 <| .pure 8 <| .load 9 <| .pure 10 <| .pure 11 <| .pure 12 <| .load 13 <| .pure 15 <| .load 16 <| .pure 18 <| .pure 19 <| .step 14 <| .step 17 <| .pure 20 <| .last 21 .done
def s71_4 : Sch := .pure 0 <| .pure 1 <| .pure 2 <| .pure 3 <| .load 4 <| .pure 5 <| .pure 6 <| .pure 7 <| .load 8 <| .pure 9 <| .pure 10 <| .pure 11 <| .pure 12 <| .last 13 .done
def s72_2 : Sch := .pure 0 <| .pure 1 <| .pure 2 <| .pure 3 <| .load 4 <| .pure 5 <| .pure 6 <| .pure 7 <| .pure 8 <| .load 9 <| .pure 10 <| .pure 11 <| .pure 12 <| .pure 13 <| .last 14 .done
def s74_3 : Sch := .pure 0 <| .pure 1 <| .pure 2 <| .pure 3 <| .load 4 <| .pure 5 <| .pure 6 <| .pure 7 <| .load 8 <| .pure 9 <| .pure 10 <| .pure 11 <| .pure 12 <| .last 13 .done
def s75_4 : Sch := .pure 0 <| .pure 1 <| .pure 2 <| .pure 3 <| .load 4 <| .pure 5 <| .pure 6 <| .pure 7 <| .load 8 <| .pure 9 <| .pure 10 <| .pure 11 <| .pure 12 <| .last 13 .done
def s75_5 : Sch := .pure 0 <| .pure 1 <| .pure 2 <| .pure 3 <| .load 4 <| .pure 5 <| .pure 6 <| .pure 9 <| .pure 10 <| .pure 11 <| .load 12 <| .pure 13 <| .pure 14 <| .pure 15 <| .alt (.step 7 <| .pure 8 <| .last 16 <| .pure 17 <| .pure 18 <| .last 19 <| .pure 20 <| .pure 21 <| .last 22 .done) (.last 16 <| .step 7 <| .pure 8 <| .pure 17 <| .pure 18 <| .last 19 <| .pure 20 <| .pure 21 <| .last 22 .done)
def s75_8 : Sch := .pure 0 <| .pure 1 <| .pure 2 <| .pure 3 <| .load 4 <| .pure 5 <| .pure 6 <| .pure 7 <| .load 8 <| .pure 9 <| .pure 10 <| .pure 11 <| .pure 12 <| .last 13 .done
def s75_10 : Sch := .pure 0 <| .pure 1 <| .pure 2 <| .pure 3 <| .load 4 <| .pure 5 <| .pure 6 <| .pure 7 <| .load 8 <| .pure 9 <| .pure 10 <| .pure 11 <| .pure 12 <| .last 13 .done
def s75_23 : Sch := .pure 0 <| .pure 1 <| .pure 2 <| .pure 3 <| .load 4 <| .pure 5 <| .pure 6 <| .pure 7 <| .pure 8 <| .load 9 <| .pure 10 <| .pure 11 <| .pure 12 <| .last 13 .done
def s75_25 : Sch := .pure 0 <| .pure 1 <| .pure 2 <| .pure 3 <| .load 4 <| .pure 5 <| .pure 6 <| .pure 7 <| .pure 8 <| .last 9 .done
def s75_32 : Sch := .pure 0 <| .pure 1 <| .pure 2 <| .pure 3 <| .load 4 <| .pure 5 <| .pure 6 <| .pure 7 <| .load 8 <| .pure 9 <| .pure 10 <| .pure 11 <| .pure 12 <| .last 13 .done
def s76_1 : Sch := .pure 0 <| .pure 1 <| .pure 2 <| .pure 3 <| .pure 4 <| .load 5 <| .pure 6 <| .pure 7 <| .pure 8 <| .pure 9 <| .load 10 <| .step 11 <| .pure 12 <| .pure 13 <| .last 14 .done
def s77_1 : Sch := .pure 0 <| .pure 1 <| .pure 2 <| .pure 3 <| .pure 4 <| .load 5 <| .pure 6 <| .pure 7 <| .pure 8 <| .pure 9 <| .load 10 <| .step 11 <| .pure 12 <| .pure 13 <| .last 14 .done
def s78_1 : Sch := .pure 0 <| .pure 1 <| .pure 2 <| .pure 3 <| .load 4 <| .pure 5 <| .pure 6 <| .pure 7 <| .pure 8 <| .pure 9 <| .load 10 <| .pure 11 <| .pure 12 <| .pure 13 <| .pure 14 <| .load 15 <| .pure 17 <| .pure 18 <| .pure 19 <| .load 20 <| .pure 22 <| .pure 23 <| .step 16 <| .step 21 <| .pure 24 <| .last 25 .done
def s79_1 : Sch := .pure 0 <| .pure 1 <| .pure 2 <| .pure 3 <| .load 4 <| .pure 5 <| .pure 6 <| .pure 7 <| .pure 8 <| .load 9 <| .pure 10 <| .pure 11 <| .pure 12 <| .pure 13 <| .load 14 <| .pure 15 <| .pure 16 <| .pure 17 <| .pure 18 <| .load 19 <| .pure 22 <| .pure 23 <| .step 20 <| .step 21 <| .pure 24 <| .last 25 .done
def s80_3 : Sch := .pure 0 <| .pure 1 <| .pure 2 <| .pure 3 <| .load 4 <| .pure 5 <| .pure 6 <| .pure 7 <| .load 8 <| .pure 9 <| .pure 10 <| .pure 11 <| .pure 12 <| .last 13 .done
def s80_5 : Sch := .pure 0 <| .pure 1 <| .pure 2 <| .pure 3 <| .load 4 <| .pure 5 <| .pure 6 <| .pure 7 <| .load 8 <| .pure 9 <| .pure 10 <| .pure 11 <| .pure 12 <| .last 13 .done
def s83_2 : Sch := .pure 0 <| .pure 1 <| .pure 2 <| .pure 3 <| .load 4 <| .pure 5 <| .pure 6 <| .load 7 <| .pure 8 <| .load 9 <| .last 10 .done
def s83_4 : Sch := .pure 0 <| .pure 1 <| .pure 2 <| .pure 3 <| .load 4 <| .pure 5 <| .pure 6 <| .pure 7 <| .load 8 <| .pure 9 <| .pure 10 <| .pure 11 <| .pure 12 <| .last 13 .done
def s93_0 : Sch := .pure 0 <| .pure 1 <| .pure 2 <| .pure 3 <| .pure 4 <| .pure 5 <| .load 6 <| .pure 7 <| .pure 8 <| .pure 9 <| .pure 10 <| .load 11 <| .step 12 <| .pure 13 <| .pure 14 <| .pure 15 <| .pure 16 <| .pure 17 <| .last 18 <| .pure 19 <| .pure 20 <| .last 21 .done
def sch : List (List (Nat × Sch)) := [[], [], [], [(10, s3_10), (11, s3_11), (25, s3_25)], [(9, s4_9), (14, s4_14), (16, s4_16), (17, s4_17), (20, s4_20)], [(15, s5_15), (26, s5_26)], [(13, s6_13), (19, s6_19), (27, s6_27)], [(22, s7_22)], [], [], [(19, s10_19)], [], [], [], [], [], [], [], [], [], [], [], [], [], [], [], [], [], [], [], [(17, s30_17)], [], [], [(1, s33_1)], [(2, s34_2)], [], [(2, s36_2)], [], [], [], [(25, s40_25), (27, s40_27)], [], [(9, s42_9)], [], [], [], [], [], [], [], [], [], [], [], [(3, s54_3)], [], [(30, s56_30), (32, s56_32), (36, s56_36)], [], [], [], [(8, s60_8)], [], [], [], [], [], [], [], [], [(1, s69_1)], [(1, s70_1)], [(2, s71_2), (3, s71_3), (4, s71_4)], [(2, s72_2)], [], [(3, s74_3)], [(4, s75_4), (5, s75_5), (8, s75_8), (10, s75_10), (23, s75_23), (25, s75_25), (32, s75_32)], [(1, s76_1)], [(1, s77_1)], [(1, s78_1)], [(1, s79_1)], [(3, s80_3), (5, s80_5)], [], [], [(2, s83_2), (4, s83_4)], [], [], [], [], [], [], [], [], [], [(0, s93_0)]]
theorem plan_ok : planB Tryd.prog Tryd.prog.funcs.toList sch = true := by kernel_rfl
end Go.Proofs.YtjnoacnbhcdidaaDoor.Sy
