/- A call that returns returns one value; what is checked of a processor that may be; one of the ways is a processor's, whatever else is named. -/
import Derived.Test.YtjnoacnbhcdidaaDoorCpTabs
namespace Go.Proofs.YtjnoacnbhcdidaaDoor.K
open Go Sy
set_option maxRecDepth 100000
set_option linter.unusedVariables false
set_option linter.unusedSimpArgs false

theorem runN_ends {P : Program} {m m1 : Machine} {o : Outcome} {w : World} {n : Nat} (h : runN P n m = .next m1) (h1 : Go.step P m1 = .ended o w) : runN P (n + 1) m = .ended o w := by
  rw [runN_add, h]
  simp only [runN, h1]
theorem runN_stays {P : Program} {m : Machine} {o : Outcome} {w : World} {n : Nat} (h : runN P n m = .ended o w) (k : Nat) : runN P (n + k) m = .ended o w := by
  rw [runN_add, h]
theorem calls_det {f : Nat} (hi : Tryd.prog.inits.idxOf? f = none) {vs : Array Value} {W : World} {V V' : Value} (h : Calls Tryd.prog f vs W (Ret V W)) (h' : Calls Tryd.prog f vs W (Ret V' W)) : V = V' := by
  obtain ⟨en, W1, fr, ⟨rfl, _⟩, ⟨n, hn⟩, hf, hl⟩ := h []
  obtain ⟨en', W1', fr', ⟨rfl, _⟩, ⟨n', hn'⟩, hf', hl'⟩ := h' []
  have s1 := runN_stays (runN_ends hn (step_leave_done hl (by rw [hf]; exact hi))) (n' + 1)
  have s2 := runN_stays (runN_ends hn' (step_leave_done hl' (by rw [hf']; exact hi))) (n + 1)
  rw [Nat.add_comm] at s2
  rw [s1] at s2
  cases s2
  rfl
theorem no_init (f : Nat) : f = 20 → Tryd.prog.inits.idxOf? f = none := by
  rintro rfl
  kernel_rfl

theorem waysE {c : Cpu} (hc : c.Ok) {e : Env} (eOp : e.i .u8 4 = c.Op) (ePh : e.i .u8 6 = c.Ph) {Q : IExp → IExp → Asm → Bool} (hlow : Q op ph [(.le ph (.lit 0), true)] = true) (hhigh : Q op ph [(.le ph (.lit 8), false)] = true) (hph : phases Q) :
    ∃ x y q, x.den e = c.Op ∧ y.den e = c.Ph ∧ AsmOk e q ∧ Q x y q = true := by
  have goG : ∀ (k : Int) (gs : List (Int × Int)), c.Ph = k → covers gs 0 255 = true → (gs.all fun g => Q (grp .u8 4 g).1 (.lit k) (grp .u8 4 g).2) = true → ∃ x y q, x.den e = c.Op ∧ y.den e = c.Ph ∧ AsmOk e q ∧ Q x y q = true := by
    intro k gs hk hcov hall
    obtain ⟨g, hg, h1, h2⟩ := covers_get (n := c.Op) hcov hc.hOp.1 hc.hOp.2
    have hd := grp_den (e := e) (k := .u8) (v := 4) (g := g) (by rw [eOp]; exact h1) (by rw [eOp]; exact h2)
    exact ⟨_, .lit k, _, hd.1.trans eOp, by rw [litD]; exact hk.symm, hd.2, List.all_eq_true.1 hall g hg⟩
  obtain ⟨q1, q2, q3, q4, q5, q6, q7, q8⟩ := hph
  by_cases c1 : c.Ph ≤ 0
  · exact ⟨op, ph, _, eOp, ePh, AsmOk.cons (by show decide (e.i .u8 6 ≤ 0) = true; rw [ePh]; exact decide_eq_true c1) (AsmOk.nil _), hlow⟩
  by_cases c2 : c.Ph ≤ 8
  · have : c.Ph = 1 ∨ c.Ph = 2 ∨ c.Ph = 3 ∨ c.Ph = 4 ∨ c.Ph = 5 ∨ c.Ph = 6 ∨ c.Ph = 7 ∨ c.Ph = 8 := by omega
    rcases this with h | h | h | h | h | h | h | h
    · exact goG 1 _ h (by kernel_rfl) q1
    · exact goG 2 _ h (by kernel_rfl) q2
    · exact goG 3 _ h (by kernel_rfl) q3
    · exact goG 4 _ h (by kernel_rfl) q4
    · exact goG 5 _ h (by kernel_rfl) q5
    · exact goG 6 _ h (by kernel_rfl) q6
    · exact goG 7 _ h (by kernel_rfl) q7
    · exact goG 8 _ h (by kernel_rfl) q8
  · exact ⟨op, ph, _, eOp, ePh, AsmOk.cons (by show decide (e.i .u8 6 ≤ 8) = false; rw [ePh]; exact decide_eq_false c2) (AsmOk.nil _), hhigh⟩
theorem isB_den {e : Env} (ok : EnvOk e) {aq : Asm} (has : AsmOk e aq) {b : BExp} {v : Bool} (h : isB (decideB aq b) v = true) : b.den e = v := by
  unfold isB at h
  split at h
  · rename_i w hw
    rw [decideB_ok ok has hw]
    exact eq_of_beq h
  · cases h

/-! ### A processor that may be is checked so -/
def chkOk (c : SVal) (q : SVal × St) : Bool := (match q.1 with
  | .v (.c (.i .i64 x)) => isB (decideB q.2.as (.eq x (.lit 0))) true
  | _ => false) || isB (decideB q.2.as (validB c)) false
noncomputable def chkQ (x y : IExp) (aq : Asm) : Bool := allOne (chkOk (cpuV x y)) (run1 17 [cpuV x y] aq)
theorem chkLow : chkQ op ph [(.le ph (.lit 0), true)] = true := by kernel_rfl
theorem chkHigh : chkQ op ph [(.le ph (.lit 8), false)] = true := by kernel_rfl
theorem chkAll : phases chkQ := ⟨by kernel_rfl, by kernel_rfl, by kernel_rfl, by kernel_rfl, by kernel_rfl, by kernel_rfl, by kernel_rfl, by kernel_rfl⟩
theorem check_may {c : Cpu} (hc : c.Ok) (hm : c.may) {W : World} (hW : Laid W) : check c = 0 := by
  have hp : (⟨0, 0, false, false, false, false, false, false, false⟩ : Pins).Ok := ⟨(show In .u8 0 from u8_in (by omega) (by omega)), (show In .u8 0 from u8_in (by omega) (by omega))⟩
  generalize (⟨0, 0, false, false, false, false, false, false, false⟩ : Pins) = p at hp
  have ok := (srcP c p).ok
  obtain ⟨x, y, q, hx, hy, ha, hQ⟩ := ways hc hp chkLow chkHigh chkAll
  obtain ⟨a, _, hz, hh⟩ := allOne_pick (srcP c p).env hQ
  have hcv : (validB (cpuV x y)).den (srcP c p).env = true := by
    have : (validE (.var .u8 1) (.var .u8 2) x (.var .u8 5) y).den (srcP c p).env = true := by
      rw [validE_den, hx, hy, show (IExp.var .u8 1).den (srcP c p).env = c.P from srcC_u8 (j := 1) rfl hc.hP, show (IExp.var .u8 2).den (srcP c p).env = c.X from srcC_u8 (j := 2) rfl hc.hX, show (IExp.var .u8 5).den (srcP c p).env = c.B from srcC_u8 (j := 5) rfl hc.hB]
      exact hm
    exact this
  have cc := run1_calls ok (args := [cpuV x y]) (vs := [c.val]) ⟨_, _, rfl, cpuP_D hc hx hy, rfl⟩ ha hh hW
  obtain ⟨_, _, V1, ρ1, _, d1, ha1, _⟩ := calls_some cc
  simp only [chkOk, Bool.or_eq_true] at hz
  rcases hz with hz | hz
  · split at hz
    · rename_i z hzz
      have h0 := isB_den ok ha1 hz
      have h0 : z.den (srcP c p).env = 0 := by
        have : decide (z.den (srcP c p).env = (IExp.lit 0).den (srcP c p).env) = true := h0
        rw [litD] at this
        exact of_decide_eq_true this
      have c2 : Calls Tryd.prog 17 #[c.val] W (Ret (.int .i64 0) W) := by
        refine cc.mono ?_
        rintro en W' ⟨V, ρ', rfl, hD, _, hb⟩
        rw [hzz] at hD
        have hD : V = .int .i64 (z.den (srcP c p).env) := hD
        rw [h0] at hD
        subst hD
        exact ⟨rfl, hb⟩
      have c3 := ((check_is hc hW).2 W hW).1
      have := calls_det (by kernel_rfl) c3 c2
      exact (Value.int.inj this).2
    · cases hz
  · rw [isB_den ok ha1 hz] at hcv; cases hcv
end Go.Proofs.YtjnoacnbhcdidaaDoor.K
