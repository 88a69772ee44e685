/- Every sum is the reference's sum: part 1. -/
import Derived.Test.YtkndkecbajfehaaBTab
namespace Go.Proofs.Ytkndkecbajfehaa.Bits
open Go Sy
set_option maxRecDepth 100000
set_option linter.unusedVariables false
set_option linter.unusedSimpArgs false

theorem do_1 : (xCall Try.prog 0 plan tabA 1000 0 4 [.v (.agg [.c (.i .u8 (grp .u8 0 (1, 1)).1), .c (.i .u8 (.var .u8 1)), .c (.i .u8 (.var .u8 2)), .c (.b (.var 0))])] ⟨[], (grp .u8 0 (1, 1)).2⟩).all isT = true := by kernel_rfl
theorem do_4 : (xCall Try.prog 0 plan tabA 1000 0 4 [.v (.agg [.c (.i .u8 (grp .u8 0 (4, 4)).1), .c (.i .u8 (.var .u8 1)), .c (.i .u8 (.var .u8 2)), .c (.b (.var 0))])] ⟨[], (grp .u8 0 (4, 4)).2⟩).all isT = true := by kernel_rfl
theorem do_7 : (xCall Try.prog 0 plan tabA 1000 0 4 [.v (.agg [.c (.i .u8 (grp .u8 0 (7, 7)).1), .c (.i .u8 (.var .u8 1)), .c (.i .u8 (.var .u8 2)), .c (.b (.var 0))])] ⟨[], (grp .u8 0 (7, 7)).2⟩).all isT = true := by kernel_rfl
theorem do_10 : (xCall Try.prog 0 plan tabA 1000 0 4 [.v (.agg [.c (.i .u8 (grp .u8 0 (10, 10)).1), .c (.i .u8 (.var .u8 1)), .c (.i .u8 (.var .u8 2)), .c (.b (.var 0))])] ⟨[], (grp .u8 0 (10, 10)).2⟩).all isT = true := by kernel_rfl
theorem do_13 : (xCall Try.prog 0 plan tabA 1000 0 4 [.v (.agg [.c (.i .u8 (grp .u8 0 (13, 13)).1), .c (.i .u8 (.var .u8 1)), .c (.i .u8 (.var .u8 2)), .c (.b (.var 0))])] ⟨[], (grp .u8 0 (13, 13)).2⟩).all isT = true := by kernel_rfl
end Go.Proofs.Ytkndkecbajfehaa.Bits
