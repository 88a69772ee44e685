/- CPUAsked answers true, whatever the processor and its pins. -/
import Derived.Test.YtbkkeedanfmfeaaDoorCAskA
import Derived.Test.YtbkkeedanfmfeaaDoorCAskB
import Derived.Test.YtbkkeedanfmfeaaDoorCAskC
namespace Go.Proofs.YtbkkeedanfmfeaaDoor.Cpu
open Go Sx
set_option maxRecDepth 100000

theorem askG_append {p : Int} {a b : List (Int × Int)} (ha : askG p a = true) (hb : askG p b = true) : askG p (a ++ b) = true := by
  unfold askG at ha hb ⊢
  rw [List.all_append, ha, hb]; rfl

theorem ask_walk (cs0 : List Value) (k0 : Flat.AllOk cpuFs cs0) (cs1 : List Value) (k1 : Flat.AllOk pinFs cs1) (W : World) (hL : laidMetH Tryd.prog [("vesper/cpu.lasts", Rows.laid_vesper_cpu_lasts)] W) :
    Calls Tryd.prog 7 #[.agg cs0.toArray, .agg cs1.toArray] W fun en W' => en = .returned (.bool true) ∧ RowKit.Below W.heap.size W W' := by
  obtain ⟨R, D, P, X, T, Op, B, Ph, DF, IE, Q, hc⟩ := cpu_open k0
  obtain ⟨m, d, f0, f1, f2, f3, i, o, t, hp⟩ := pin_open k1
  let e : Env := (srcC R (D :: P :: X :: T :: Op :: B :: Ph :: [m, d]) (DF :: IE :: Q :: [f0, f1, f2, f3, i, o, t])).env
  have eOp : e.i .u8 4 = Op := srcC_u8 (j := 4) rfl hc.hOp
  have ePh : e.i .u8 6 = Ph := srcC_u8 (j := 6) rfl hc.hPh
  have go : ∀ (x y : IExp) (q : Asm), x.den e = Op → y.den e = Ph → AsmOk e q → (ask x y q).all isT = true →
      Calls Tryd.prog 7 #[.agg cs0.toArray, .agg cs1.toArray] W fun en W' => en = .returned (.bool true) ∧ RowKit.Below W.heap.size W W' := by
    intro x y q hx hy hq hall
    exact run_true (e := e) (Src.ok _) mixed plan_ok (tab_ok e) (G := 1) (args := [cpuV x y, pinsV mode 8 3]) (vs := [.agg cs0.toArray, .agg cs1.toArray])
      ⟨_, _, rfl, cpuV_D hc hx hy, _, _, rfl, pinsV_D hp (srcC_u8 (j := 7) rfl hp.hm) rfl rfl rfl rfl rfl rfl rfl rfl, rfl⟩ hq (of_laid hL e) hall
  have goG : ∀ (p : Int) (gs : List (Int × Int)), Ph = p → covers gs 0 255 = true → askG p gs = true →
      Calls Tryd.prog 7 #[.agg cs0.toArray, .agg cs1.toArray] W fun en W' => en = .returned (.bool true) ∧ RowKit.Below W.heap.size W W' := by
    intro p gs hph hcov hall
    obtain ⟨g, hg, h1, h2⟩ := covers_get (n := Op) hcov hc.hOp.1 hc.hOp.2
    have hd := grp_den (e := e) (k := .u8) (v := 4) (g := g) (by rw [eOp]; exact h1) (by rw [eOp]; exact h2)
    exact go _ (.lit p) _ (hd.1.trans eOp) (by rw [litD]; exact hph.symm) hd.2 (List.all_eq_true.1 hall g hg)
  have hlo := hc.hPh.1
  have hhi := hc.hPh.2
  by_cases c1 : Ph ≤ 0
  · exact go op ph _ eOp ePh (AsmOk.cons (by show decide (e.i .u8 6 ≤ 0) = true; rw [ePh]; exact decide_eq_true c1) (AsmOk.nil _)) askLow
  by_cases c2 : Ph ≤ 8
  · have : Ph = 1 ∨ Ph = 2 ∨ Ph = 3 ∨ Ph = 4 ∨ Ph = 5 ∨ Ph = 6 ∨ Ph = 7 ∨ Ph = 8 := by omega
    rcases this with h | h | h | h | h | h | h | h
    · exact goG 1 _ h (by kernel_rfl) ask1
    · exact goG 2 _ h (by kernel_rfl) (askG_append ask2a (askG_append ask2_3 (askG_append ask2_7 (askG_append ask2_c ask2_f))))
    · exact goG 3 _ h (by kernel_rfl) ask3
    · exact goG 4 _ h (by kernel_rfl) ask4
    · exact goG 5 _ h (by kernel_rfl) ask5
    · exact goG 6 _ h (by kernel_rfl) ask6
    · exact goG 7 _ h (by kernel_rfl) ask7
    · exact goG 8 _ h (by kernel_rfl) ask8
  · exact go op ph _ eOp ePh (AsmOk.cons (by show decide (e.i .u8 6 ≤ 8) = false; rw [ePh]; exact decide_eq_false c2) (AsmOk.nil _)) askHigh
end Go.Proofs.YtbkkeedanfmfeaaDoor.Cpu
