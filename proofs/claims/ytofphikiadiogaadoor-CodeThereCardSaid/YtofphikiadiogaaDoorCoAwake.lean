/- The code's laws: awake; the laid variables. -/
import Derived.Test.YtofphikiadiogaaDoorCoFind
import Derived.Test.YtofphikiadiogaaDoorKFnE
namespace Go.Proofs.YtofphikiadiogaaDoor.K
open Go Sy
set_option maxRecDepth 100000
set_option linter.unusedVariables false
set_option linter.unusedSimpArgs false
def coSrc0 : Src := { i := fun _ => [], b := [], a := fun _ _ => [], fa := coFa, fi := coFi }
theorem awake_calls (W : World) (hG : GlobsAt true true W) : Calls Tryd.prog 14 #[] W (Yes W) := by
  have ok := (Src.know coSrc0 W []).ok
  have hE : CoE (Src.know coSrc0 W []).env := coFa_env rfl
  have hE2 : CoE2 (Src.know coSrc0 W []).env := coFi_env rfl
  have hk : KnowsG true true (Src.know coSrc0 W []).env := ⟨W, rfl, rfl, hG⟩
  have hkn : Knows (Src.know coSrc0 W []).env W (globs 7) := ⟨fun i x h => by simp [Src.know, Src.env, coSrc0] at h, Nat.le_refl _, fun k _ => rfl⟩
  generalize (Src.know coSrc0 W []).env = E at ok hE hE2 hk hkn
  exact run_true (plan := plan) (tab := tabAw) (n := 1000) (G := 7) (ov := 7) (f := 14) ok mixed plan_ok LtOk.none (TabOk.or (TabOk.or (tabName_ok names_a ok hE hk 7 7) (tabFirst_ok first_a ok hE2 hk 7 7)) (tabNumL_ok ok 7 7)) (args := []) (vs := []) (h0 := gS true true) (ρ := globs 7) rfl (AsmOk.nil _) (hG.hrel hkn) (globs_ok 7) (Nat.le_refl _) coAwake
abbrev laidB : List (String × DataW Unit) := [("vesper/code.rows", Rows.laid_vesper_code_rows), ("vesper/code.threes", Rows.laid_vesper_code_threes), ("vesper/code.sevens", Rows.laid_vesper_code_sevens), ("vesper/code.twelves", Rows.laid_vesper_code_twelves), ("vesper/code.fifteens", Rows.laid_vesper_code_fifteens), ("vesper/code.lengths", Rows.laid_vesper_code_lengths), ("vesper/code.digits", Rows.laid_vesper_code_digits)]
theorem globs_laid {W : World} (hL : laidMetH Tryd.prog laidB W) : GlobsAt true true W := (globs_of hL (by kernel_rfl) true (fun x h => List.mem_append_left [("vesper/code.digits", Rows.laid_vesper_code_digits)] h) (fun _ => List.mem_append_right laidA (List.mem_singleton.2 rfl)))
end Go.Proofs.YtofphikiadiogaaDoor.K
