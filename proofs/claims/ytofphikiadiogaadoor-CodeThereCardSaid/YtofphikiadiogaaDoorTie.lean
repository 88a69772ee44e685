/-
  DERIVED. GIVEN WITH THE SEED: THE PROGRAM's TIES (one call each: nine closed facts by the kernel) AND EACH ROW's TIE, after the 31st guide's Derived/Test/Toyas{Tie, Card}.lean. No idea stands in it: it is a product of the set-up. Laid BY PROGRAM, IN A SANDBOX (cutbox-door.mjs). By AI agents, Wed Nov 11 2026. No macro, syntax, notation, axiom, sorry.
-/
import Derived.Test.YtofphikiadiogaaDoorRows
import Derived.LaidByTextLater
import Derived.SevenTiedAt
import Derived.LaidSub
import Derived.LaidOnce
namespace Go.Proofs.YtofphikiadiogaaDoor
open Go
set_option maxRecDepth 100000
theorem seatTie1 : Tryd.prog.laidByTextLater [("vesper/code.rows", Rows.laid_vesper_code_rows), ("vesper/code.threes", Rows.laid_vesper_code_threes), ("vesper/code.sevens", Rows.laid_vesper_code_sevens), ("vesper/code.twelves", Rows.laid_vesper_code_twelves), ("vesper/code.fifteens", Rows.laid_vesper_code_fifteens), ("vesper/code.lengths", Rows.laid_vesper_code_lengths), ("vesper/code.digits", Rows.laid_vesper_code_digits)] [.data, .data, .data, .data, .data, .data, .data] true :=
  Program.laidByTextLater_by_one 44 8 17 (by kernel_rfl) (by kernel_rfl) (by kernel_rfl) (by kernel_rfl) (by kernel_rfl) (by kernel_rfl) (fun _ _ => by kernel_rfl)
theorem noOwnUnsafe : Tryd.pinned.checked.prog.headLifts.contains "ownunsafe" = false := by kernel_rfl
theorem tie : Tryd.prog.laidByTextLater [("vesper/code.rows", Rows.laid_vesper_code_rows), ("vesper/code.threes", Rows.laid_vesper_code_threes), ("vesper/code.sevens", Rows.laid_vesper_code_sevens), ("vesper/code.twelves", Rows.laid_vesper_code_twelves), ("vesper/code.fifteens", Rows.laid_vesper_code_fifteens), ("vesper/code.lengths", Rows.laid_vesper_code_lengths)] [.data, .data, .data, .data, .data, .data] true :=
  Program.laidByTextLater.sub seatTie1 ["vesper/code.rows", "vesper/code.threes", "vesper/code.sevens", "vesper/code.twelves", "vesper/code.fifteens", "vesper/code.lengths"] (by kernel_rfl) (by kernel_rfl)
theorem codeCuts_row_tie : Rows.codeCutsRow.laidByTextAt .later Tryd.pinned [.data, .data, .data, .data, .data, .data] true :=
  OpenClaim.laidByTextAt_later rfl rfl tie noOwnUnsafe
theorem codeOps_row_tie : Rows.codeOpsRow.laidByTextAt .later Tryd.pinned [.data, .data, .data, .data, .data, .data] true :=
  OpenClaim.laidByTextAt_later rfl rfl tie noOwnUnsafe
theorem tie2 : Tryd.prog.laidByTextLater [("vesper/code.rows", Rows.laid_vesper_code_rows), ("vesper/code.threes", Rows.laid_vesper_code_threes), ("vesper/code.sevens", Rows.laid_vesper_code_sevens), ("vesper/code.twelves", Rows.laid_vesper_code_twelves), ("vesper/code.fifteens", Rows.laid_vesper_code_fifteens), ("vesper/code.lengths", Rows.laid_vesper_code_lengths), ("vesper/code.digits", Rows.laid_vesper_code_digits)] [.data, .data, .data, .data, .data, .data, .data] true :=
  Program.laidByTextLater.sub seatTie1 ["vesper/code.rows", "vesper/code.threes", "vesper/code.sevens", "vesper/code.twelves", "vesper/code.fifteens", "vesper/code.lengths", "vesper/code.digits"] (by kernel_rfl) (by kernel_rfl)
theorem codeLines_row_tie : Rows.codeLinesRow.laidByTextAt .later Tryd.pinned [.data, .data, .data, .data, .data, .data, .data] true :=
  OpenClaim.laidByTextAt_later rfl rfl tie2 noOwnUnsafe
theorem codeThere_row_tie : Rows.codeThereRow.laidByTextAt .later Tryd.pinned [.data, .data, .data, .data, .data, .data, .data] true :=
  OpenClaim.laidByTextAt_later rfl rfl tie2 noOwnUnsafe
theorem codeExact_row_tie : Rows.codeExactRow.laidByTextAt .later Tryd.pinned [.data, .data, .data, .data, .data, .data, .data] true :=
  OpenClaim.laidByTextAt_later rfl rfl tie2 noOwnUnsafe
theorem codeCutsUpto_row_tie : Rows.codeCutsUptoRow.laidByTextAt .later Tryd.pinned [.data, .data, .data, .data, .data, .data] true :=
  OpenClaim.laidByTextAt_later rfl rfl tie noOwnUnsafe
theorem codeOpsUpto_row_tie : Rows.codeOpsUptoRow.laidByTextAt .later Tryd.pinned [.data, .data, .data, .data, .data, .data] true :=
  OpenClaim.laidByTextAt_later rfl rfl tie noOwnUnsafe
theorem codeLinesUpto_row_tie : Rows.codeLinesUptoRow.laidByTextAt .later Tryd.pinned [.data, .data, .data, .data, .data, .data, .data] true :=
  OpenClaim.laidByTextAt_later rfl rfl tie2 noOwnUnsafe
theorem codeThereUpto_row_tie : Rows.codeThereUptoRow.laidByTextAt .later Tryd.pinned [.data, .data, .data, .data, .data, .data, .data] true :=
  OpenClaim.laidByTextAt_later rfl rfl tie2 noOwnUnsafe
theorem codeExactUpto_row_tie : Rows.codeExactUptoRow.laidByTextAt .later Tryd.pinned [.data, .data, .data, .data, .data, .data, .data] true :=
  OpenClaim.laidByTextAt_later rfl rfl tie2 noOwnUnsafe
end Go.Proofs.YtofphikiadiogaaDoor
