/- CPUMay answers true, whatever the processor and its pins. -/
import Derived.Test.YtjnoacnbhcdidaaDoorCpMayT
import Derived.Test.YtjnoacnbhcdidaaDoorCpMwAll
namespace Go.Proofs.YtjnoacnbhcdidaaDoor.K
open Go Sy
set_option maxRecDepth 100000
set_option linter.unusedVariables false
set_option linter.unusedSimpArgs false
theorem may_walk (W : World) (cs0 : List Value) (k0 : Flat.AllOk cpuFs cs0) (cs1 : List Value) (k1 : Flat.AllOk pinFs cs1) (cs2 : List Value) (k2 : Flat.AllOk pinFs cs2) (hL : laidMetH Tryd.prog [("vesper/cpu.lasts", Rows.laid_vesper_cpu_lasts)] W) :
    Calls Tryd.prog 5 #[.agg cs0.toArray, .agg cs1.toArray, .agg cs2.toArray] W (Yes W) := by
  obtain ⟨c, hc, rfl⟩ := cpu_of k0
  obtain ⟨p, hp, rfl⟩ := pins_of k1
  obtain ⟨q, hq, rfl⟩ := pins_of k2
  have ok := (srcQ c p q).ok
  have he : CpuEnv (srcQ c p q).env := withCpu_env _
  have hh := srcQ_has hc p q
  have h1 := srcQ_p (c := c) (q := q) hp
  have h2 := srcQ_q (c := c) (p := p) hq
  have hlaid := of_laid hL (srcQ c p q).env
  generalize (srcQ c p q).env = e at ok he hh h1 h2 hlaid
  obtain ⟨x, y, aq, hx, hy, ha, hQ⟩ := waysE hc hh.Op hh.Ph mqLow mqHigh mqAll
  unfold mayL at hQ
  obtain ⟨hQ1, hQ2⟩ := (Bool.and_eq_true _ _).mp hQ
  have go : ∀ b, AsmOk e ((.le mode (.lit 3), b) :: aq) → (mayT x y ((.le mode (.lit 3), b) :: aq)).all isT = true → Calls Tryd.prog 5 #[c.val, p.val, q.val] W (Yes W) := fun b hb hall => by
    unfold mayT at hall
    exact run_true (e := e) ok mixed plan_ok LtOk.none (tabMay_ok ok he _) (G := 1) (args := [cpuV x y, pinsV mode 8 3, pinsV (.var .u8 9) 10 10]) (vs := [c.val, p.val, q.val])
      ⟨_, _, rfl, cpuX_D hh hc hx hy, _, _, rfl, pinsX_D h1, _, _, rfl, pinsX_D h2, rfl⟩ hb hlaid glob1 (Nat.le_refl 1) hall
  rcases hb : (BExp.le mode (.lit 3)).den e with _ | _
  · exact go false (AsmOk.cons hb ha) hQ2
  · exact go true (AsmOk.cons hb ha) hQ1
end Go.Proofs.YtjnoacnbhcdidaaDoor.K
