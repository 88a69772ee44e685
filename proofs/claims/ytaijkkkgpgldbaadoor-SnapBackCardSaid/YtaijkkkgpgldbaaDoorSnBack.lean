/- SnapBack: the law. -/
import Derived.Test.YtaijkkkgpgldbaaDoorSnAwake
import Derived.Test.YtaijkkkgpgldbaaDoorKGlue
namespace Go.Proofs.YtaijkkkgpgldbaaDoor.K
open Go Sy
set_option maxRecDepth 100000
set_option linter.unusedVariables false
set_option linter.unusedSimpArgs false
/-- The machine's letters 0 to 34; the bytes' 35. -/
def sbPs : List Shr := [.agg bdKs, .c (.row .u8)]
noncomputable def sbS : WT GoF := lawS 2000 7 tabSn snG sbPs []
theorem sbOk : okR refGlue [.c .b] [] (fun _ => 0) (fun _ => .lit 0) chkT none (canonRAs 0 (shrFlat sbPs)) sbS = true := by kernel_rfl
theorem back_walk (W : World) (cs : List Value) (hc : CellsIs W bdCk cs) (a : Option Addr) (n c : Nat) (z : List Int) (hz : IsRow .u8 W a n c z) (hL : laidMetH Tryd.prog laidS W) :
    Calls Tryd.prog 7 #[.agg cs.toArray, .slice a n c] W (Yes W) := by
  obtain ⟨lv, h1, h2⟩ := ArgsIn.agg bdCk_frs hc (ArgsIn.row hz (ArgsIn.nil W))
  exact law_run refGlue_ok (n := 2000) (f := 7) (tab := tabSn) (gs := snG) (ps := sbPs) (by rfl) (by kernel_rfl) (by kernel_rfl) sbOk snSrc (fun e ok hi ha hb hfx hk => tabSn_ok ⟨ok, hi, ha, hb, hk⟩ _ _ (Nat.le_refl _)) W (pre_laid hL) lv _ h1 h2
end Go.Proofs.YtaijkkkgpgldbaaDoor.K
