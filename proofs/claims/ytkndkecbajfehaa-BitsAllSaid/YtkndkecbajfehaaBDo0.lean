/- Every sum is the reference's sum: part 0. -/
import Derived.Test.YtkndkecbajfehaaBTab
namespace Go.Proofs.Ytkndkecbajfehaa.Bits
open Go Sy
set_option maxRecDepth 100000
set_option linter.unusedVariables false
set_option linter.unusedSimpArgs false

theorem do_0 : (xCall Try.prog 0 plan tabA 1000 0 4 [.v (.agg [.c (.i .u8 (grp .u8 0 (0, 0)).1), .c (.i .u8 (.var .u8 1)), .c (.i .u8 (.var .u8 2)), .c (.b (.var 0))])] ⟨[], (grp .u8 0 (0, 0)).2⟩).all isT = true := by kernel_rfl
theorem do_3 : (xCall Try.prog 0 plan tabA 1000 0 4 [.v (.agg [.c (.i .u8 (grp .u8 0 (3, 3)).1), .c (.i .u8 (.var .u8 1)), .c (.i .u8 (.var .u8 2)), .c (.b (.var 0))])] ⟨[], (grp .u8 0 (3, 3)).2⟩).all isT = true := by kernel_rfl
theorem do_6 : (xCall Try.prog 0 plan tabA 1000 0 4 [.v (.agg [.c (.i .u8 (grp .u8 0 (6, 6)).1), .c (.i .u8 (.var .u8 1)), .c (.i .u8 (.var .u8 2)), .c (.b (.var 0))])] ⟨[], (grp .u8 0 (6, 6)).2⟩).all isT = true := by kernel_rfl
theorem do_9 : (xCall Try.prog 0 plan tabA 1000 0 4 [.v (.agg [.c (.i .u8 (grp .u8 0 (9, 9)).1), .c (.i .u8 (.var .u8 1)), .c (.i .u8 (.var .u8 2)), .c (.b (.var 0))])] ⟨[], (grp .u8 0 (9, 9)).2⟩).all isT = true := by kernel_rfl
theorem do_12 : (xCall Try.prog 0 plan tabA 1000 0 4 [.v (.agg [.c (.i .u8 (grp .u8 0 (12, 12)).1), .c (.i .u8 (.var .u8 1)), .c (.i .u8 (.var .u8 2)), .c (.b (.var 0))])] ⟨[], (grp .u8 0 (12, 12)).2⟩).all isT = true := by kernel_rfl
end Go.Proofs.Ytkndkecbajfehaa.Bits
