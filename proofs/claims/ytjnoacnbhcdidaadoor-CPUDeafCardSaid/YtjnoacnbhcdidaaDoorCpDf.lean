/- CPUDeaf answers true, whatever the processor and its pins. -/
import Derived.Test.YtjnoacnbhcdidaaDoorCpDfT
import Derived.Test.YtjnoacnbhcdidaaDoorCpDwAll
import Derived.Test.YtjnoacnbhcdidaaDoorCpDfM
namespace Go.Proofs.YtjnoacnbhcdidaaDoor.K
open Go Sy
set_option maxRecDepth 100000
set_option linter.unusedVariables false
set_option linter.unusedSimpArgs false
/-- One of the ways is this processor's, whatever else the letters say. -/
theorem waysU {c : Cpu} (hc : c.Ok) {Q : IExp → IExp → Asm → Bool} (hlow : Q op ph [(.le ph (.lit 0), true)] = true) (hhigh : Q op ph [(.le ph (.lit 8), false)] = true)
    (q1 : (gs1.all fun g => Q (grp .u8 4 g).1 (.lit 1) (grp .u8 4 g).2) = true) (q2 : (gs2D.all fun g => Q (grp .u8 4 g).1 (.lit 2) (grp .u8 4 g).2) = true) (q3 : (gs3.all fun g => Q (grp .u8 4 g).1 (.lit 3) (grp .u8 4 g).2) = true) (q4 : (gs4.all fun g => Q (grp .u8 4 g).1 (.lit 4) (grp .u8 4 g).2) = true)
    (q5 : (gs5.all fun g => Q (grp .u8 4 g).1 (.lit 5) (grp .u8 4 g).2) = true) (q6 : (gs6.all fun g => Q (grp .u8 4 g).1 (.lit 6) (grp .u8 4 g).2) = true) (q7 : (gs7.all fun g => Q (grp .u8 4 g).1 (.lit 7) (grp .u8 4 g).2) = true) (q8 : (gs8.all fun g => Q (grp .u8 4 g).1 (.lit 8) (grp .u8 4 g).2) = true) :
    ∃ x y q, Q x y q = true ∧ ∀ e : Env, e.i .u8 4 = c.Op → e.i .u8 6 = c.Ph → x.den e = c.Op ∧ y.den e = c.Ph ∧ AsmOk e q := by
  have goG : ∀ (k : Int) (gs : List (Int × Int)), c.Ph = k → covers gs 0 255 = true → (gs.all fun g => Q (grp .u8 4 g).1 (.lit k) (grp .u8 4 g).2) = true → ∃ x y q, Q x y q = true ∧ ∀ e : Env, e.i .u8 4 = c.Op → e.i .u8 6 = c.Ph → x.den e = c.Op ∧ y.den e = c.Ph ∧ AsmOk e q := by
    intro k gs hk hcov hall
    obtain ⟨g, hg, h1, h2⟩ := covers_get (n := c.Op) hcov hc.hOp.1 hc.hOp.2
    refine ⟨_, .lit k, _, List.all_eq_true.1 hall g hg, fun e eOp ePh => ?_⟩
    have hd := grp_den (e := e) (k := .u8) (v := 4) (g := g) (by rw [eOp]; exact h1) (by rw [eOp]; exact h2)
    exact ⟨hd.1.trans eOp, by rw [litD]; exact hk.symm, hd.2⟩
  by_cases c1 : c.Ph ≤ 0
  · exact ⟨op, ph, _, hlow, fun e eOp ePh => ⟨eOp, ePh, AsmOk.cons (by show decide (e.i .u8 6 ≤ 0) = true; rw [ePh]; exact decide_eq_true c1) (AsmOk.nil _)⟩⟩
  by_cases c2 : c.Ph ≤ 8
  · have : c.Ph = 1 ∨ c.Ph = 2 ∨ c.Ph = 3 ∨ c.Ph = 4 ∨ c.Ph = 5 ∨ c.Ph = 6 ∨ c.Ph = 7 ∨ c.Ph = 8 := by omega
    rcases this with h | h | h | h | h | h | h | h
    · exact goG 1 _ h (by kernel_rfl) q1
    · exact goG 2 _ h (by kernel_rfl) q2
    · exact goG 3 _ h (by kernel_rfl) q3
    · exact goG 4 _ h (by kernel_rfl) q4
    · exact goG 5 _ h (by kernel_rfl) q5
    · exact goG 6 _ h (by kernel_rfl) q6
    · exact goG 7 _ h (by kernel_rfl) q7
    · exact goG 8 _ h (by kernel_rfl) q8
  · exact ⟨op, ph, _, hhigh, fun e eOp ePh => ⟨eOp, ePh, AsmOk.cons (by show decide (e.i .u8 6 ≤ 8) = false; rw [ePh]; exact decide_eq_false c2) (AsmOk.nil _)⟩⟩
theorem cpuX_den {e : Env} {c : Cpu} (h : CpuHas e c) {x y : IExp} (hx : x.den e = c.Op) (hy : y.den e = c.Ph) : (cpuX x y).den e = c := by
  obtain ⟨h1, h2, h3, h4, h5, h6, h7, h8, h9, h10, h11⟩ := h
  cases c
  simp only [CpuE.den, cpuX, IExp.den, BExp.den, AExp.den, Cpu.mk.injEq]
  exact ⟨h1, h2, h3, h4, h5, hx, h7, hy, h9, h10, h11⟩
theorem deaf_walk (W : World) (cs0 : List Value) (k0 : Flat.AllOk cpuFs cs0) (cs1 : List Value) (k1 : Flat.AllOk pinFs cs1) (cs2 : List Value) (k2 : Flat.AllOk pinFs cs2) (hL : laidMetH Tryd.prog [("vesper/cpu.lasts", Rows.laid_vesper_cpu_lasts)] W) :
    Calls Tryd.prog 6 #[.agg cs0.toArray, .agg cs1.toArray, .agg cs2.toArray] W (Yes W) := by
  obtain ⟨c, hc, rfl⟩ := cpu_of k0
  obtain ⟨p, hp, rfl⟩ := pins_of k1
  obtain ⟨q, hq, rfl⟩ := pins_of k2
  have hLaid : Laid W := fun e => of_laid hL e
  have ok := (srcQ c p q).ok
  have he : CpuEnv (srcQ c p q).env := withCpu_env _
  have hh := srcQ_has hc p q
  have h1 := srcQ_p (c := c) (q := q) hp
  have h2 := srcQ_q (c := c) (p := p) hq
  have hlaid := of_laid hL (srcQ c p q).env
  generalize (srcQ c p q).env = e at ok he hh h1 h2 hlaid
  have go : ∀ (x y : IExp) (m : Int) (aq : Asm) (dD dF dL drv : Bool), p.m = m → deafC x y m aq dD dF dL drv = true → (∀ e : Env, e.i .u8 4 = c.Op → e.i .u8 6 = c.Ph → x.den e = c.Op ∧ y.den e = c.Ph ∧ AsmOk e aq) →
      Calls Tryd.prog 6 #[c.val, p.val, q.val] W (Yes W) := by
    intro x y m aq dD dF dL drv hm hC hxy
    unfold deafC at hC
    obtain ⟨hC1, hC2⟩ := (Bool.and_eq_true _ _).mp hC
    have hS := deaf_to hc hC1 hxy hLaid
    obtain ⟨hx, hy, ha⟩ := hxy e hh.Op hh.Ph
    have g1 : (pinsX (.lit m) 8 3).den e = p := by
      rw [← h1]
      simp only [PinsE.den, pinsX, Pins.mk.injEq, and_true]
      have := congrArg Pins.m h1
      rw [litD, ← hm, ← this]; rfl
    unfold deafT at hC2
    exact run_true (e := e) ok mixed plan_ok LtOk.none (tabDeaf_ok ok he _ hc (cpuX_den hh hx hy) hS) (G := 1) (args := [cpuV x y, (pinsA m).v, pinsV (.var .u8 9) 10 10]) (vs := [c.val, p.val, q.val])
      ⟨_, _, rfl, cpuX_D hh hc hx hy, _, _, rfl, pinsX_D g1, _, _, rfl, pinsX_D h2, rfl⟩ ha hlaid glob1 (Nat.le_refl 1) hC2
  have sym : ∀ e : Env, e.i .u8 4 = c.Op → e.i .u8 6 = c.Ph → op.den e = c.Op ∧ ph.den e = c.Ph ∧ AsmOk e [] := fun e h1 h2 => ⟨h1, h2, AsmOk.nil _⟩
  by_cases hm3 : p.m ≤ 3
  · have := hp.1.1
    simp only [IntKind.min_u8] at this
    have : p.m = 0 ∨ p.m = 1 ∨ p.m = 2 ∨ p.m = 3 := by omega
    rcases this with h | h | h | h
    · obtain ⟨x, y, aq, hQ, hxy⟩ := waysU hc dwLow dwHigh dw1 dw2 dw3 dw4 dw5 dw6 dw7 dw8
      exact go _ _ 0 _ _ _ _ _ h hQ hxy
    · exact go _ _ 1 _ _ _ _ _ h df1 sym
    · exact go _ _ 2 _ _ _ _ _ h df2 sym
    · exact go _ _ 3 _ _ _ _ _ h df3 sym
  · have hb : (BExp.le mode (.lit 3)).den e = false := by
      have := congrArg Pins.m h1
      have : mode.den e = p.m := this
      rw [le_den, litD, this]; exact decide_eq_false hm3
    have h4 := df4
    unfold deafHi at h4
    exact run_true (e := e) ok mixed plan_ok LtOk.none (TabOk.none _ _ _ _) (G := 1) (args := [cpuV op ph, pinsV mode 8 3, pinsV (.var .u8 9) 10 10]) (vs := [c.val, p.val, q.val])
      ⟨_, _, rfl, cpuX_D hh hc hh.Op hh.Ph, _, _, rfl, pinsX_D h1, _, _, rfl, pinsX_D h2, rfl⟩ (AsmOk.cons hb (AsmOk.nil _)) hlaid glob1 (Nat.le_refl 1) h4
end Go.Proofs.YtjnoacnbhcdidaaDoor.K
