/- Every sum is the reference's sum: part 2. -/
import Derived.Test.YtkndkecbajfehaaBTab
namespace Go.Proofs.Ytkndkecbajfehaa.Bits
open Go Sy
set_option maxRecDepth 100000
set_option linter.unusedVariables false
set_option linter.unusedSimpArgs false

theorem do_2 : (xCall Try.prog 0 plan tabA 1000 0 4 [.v (.agg [.c (.i .u8 (grp .u8 0 (2, 2)).1), .c (.i .u8 (.var .u8 1)), .c (.i .u8 (.var .u8 2)), .c (.b (.var 0))])] ⟨[], (grp .u8 0 (2, 2)).2⟩).all isT = true := by kernel_rfl
theorem do_5 : (xCall Try.prog 0 plan tabA 1000 0 4 [.v (.agg [.c (.i .u8 (grp .u8 0 (5, 5)).1), .c (.i .u8 (.var .u8 1)), .c (.i .u8 (.var .u8 2)), .c (.b (.var 0))])] ⟨[], (grp .u8 0 (5, 5)).2⟩).all isT = true := by kernel_rfl
theorem do_8 : (xCall Try.prog 0 plan tabA 1000 0 4 [.v (.agg [.c (.i .u8 (grp .u8 0 (8, 8)).1), .c (.i .u8 (.var .u8 1)), .c (.i .u8 (.var .u8 2)), .c (.b (.var 0))])] ⟨[], (grp .u8 0 (8, 8)).2⟩).all isT = true := by kernel_rfl
theorem do_11 : (xCall Try.prog 0 plan tabA 1000 0 4 [.v (.agg [.c (.i .u8 (grp .u8 0 (11, 11)).1), .c (.i .u8 (.var .u8 1)), .c (.i .u8 (.var .u8 2)), .c (.b (.var 0))])] ⟨[], (grp .u8 0 (11, 11)).2⟩).all isT = true := by kernel_rfl
theorem do_14 : (xCall Try.prog 0 plan tabA 1000 0 4 [.v (.agg [.c (.i .u8 (grp .u8 0 (14, 255)).1), .c (.i .u8 (.var .u8 1)), .c (.i .u8 (.var .u8 2)), .c (.b (.var 0))])] ⟨[], (grp .u8 0 (14, 255)).2⟩).all isT = true := by kernel_rfl
end Go.Proofs.Ytkndkecbajfehaa.Bits
