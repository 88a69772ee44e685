/- The processor's functions as functions: what each answers, wherever it is called. -/
import Derived.Test.YtjnoacnbhcdidaaDoorCpAll
namespace Go.Proofs.YtjnoacnbhcdidaaDoor.K
open Go Sy
set_option maxRecDepth 100000
set_option linter.unusedVariables false
set_option linter.unusedSimpArgs false

structure Cpu where
  R : List Int
  D : Int
  P : Int
  X : Int
  T : Int
  Op : Int
  B : Int
  Ph : Int
  DF : Bool
  IE : Bool
  Q : Bool
def Cpu.cells (c : Cpu) : List Value := c.R.map (.int .u16) ++ [.int .u8 c.D, .bool c.DF, .int .u8 c.P, .int .u8 c.X, .int .u8 c.T, .bool c.IE, .bool c.Q, .int .u8 c.Op, .int .u8 c.B, .int .u8 c.Ph]
def Cpu.val (c : Cpu) : Value := .agg c.cells.toArray
def Cpu.Ok (c : Cpu) : Prop := CpuIs c.cells c.R c.D c.P c.X c.T c.Op c.B c.Ph c.DF c.IE c.Q
structure Pins where
  m : Int
  d : Int
  f0 : Bool
  f1 : Bool
  f2 : Bool
  f3 : Bool
  i : Bool
  o : Bool
  t : Bool
def Pins.cells (p : Pins) : List Value := [.int .u8 p.m, .int .u8 p.d, .bool p.f0, .bool p.f1, .bool p.f2, .bool p.f3, .bool p.i, .bool p.o, .bool p.t]
def Pins.val (p : Pins) : Value := .agg p.cells.toArray
def Pins.Ok (p : Pins) : Prop := In .u8 p.m ∧ In .u8 p.d
theorem cpu_of {cs : List Value} (h : Flat.AllOk cpuFs cs) : ∃ c : Cpu, c.Ok ∧ cs = c.cells := by
  obtain ⟨R, D, P, X, T, Op, B, Ph, DF, IE, Q, hc⟩ := cpu_open h
  have := hc.hcs
  subst this
  exact ⟨⟨R, D, P, X, T, Op, B, Ph, DF, IE, Q⟩, hc, rfl⟩
theorem pins_of {cs : List Value} (h : Flat.AllOk pinFs cs) : ∃ p : Pins, p.Ok ∧ cs = p.cells := by
  obtain ⟨m, d, f0, f1, f2, f3, i, o, t, hp⟩ := pin_open h
  exact ⟨⟨m, d, f0, f1, f2, f3, i, o, t⟩, ⟨hp.hm, hp.hd⟩, hp.hcs⟩
def srcP (c : Cpu) (p : Pins) : Src := srcC c.R (c.D :: c.P :: c.X :: c.T :: c.Op :: c.B :: c.Ph :: [p.m, p.d]) (c.DF :: c.IE :: c.Q :: [p.f0, p.f1, p.f2, p.f3, p.i, p.o, p.t])
def phases (Q : IExp → IExp → Asm → Bool) : Prop :=
  (gs1.all fun g => Q (grp .u8 4 g).1 (.lit 1) (grp .u8 4 g).2) = true ∧ (gs2.all fun g => Q (grp .u8 4 g).1 (.lit 2) (grp .u8 4 g).2) = true ∧ (gs3.all fun g => Q (grp .u8 4 g).1 (.lit 3) (grp .u8 4 g).2) = true ∧
  (gs4.all fun g => Q (grp .u8 4 g).1 (.lit 4) (grp .u8 4 g).2) = true ∧ (gs5.all fun g => Q (grp .u8 4 g).1 (.lit 5) (grp .u8 4 g).2) = true ∧ (gs6.all fun g => Q (grp .u8 4 g).1 (.lit 6) (grp .u8 4 g).2) = true ∧
  (gs7.all fun g => Q (grp .u8 4 g).1 (.lit 7) (grp .u8 4 g).2) = true ∧ (gs8.all fun g => Q (grp .u8 4 g).1 (.lit 8) (grp .u8 4 g).2) = true
/-- One of the ways is this processor's. -/
theorem ways {c : Cpu} {p : Pins} (hc : c.Ok) (hp : p.Ok) {Q : IExp → IExp → Asm → Bool} (hlow : Q op ph [(.le ph (.lit 0), true)] = true) (hhigh : Q op ph [(.le ph (.lit 8), false)] = true) (hph : phases Q) :
    ∃ x y q, x.den (srcP c p).env = c.Op ∧ y.den (srcP c p).env = c.Ph ∧ AsmOk (srcP c p).env q ∧ Q x y q = true := by
  have eOp : (srcP c p).env.i .u8 4 = c.Op := srcC_u8 (j := 4) rfl hc.hOp
  have ePh : (srcP c p).env.i .u8 6 = c.Ph := srcC_u8 (j := 6) rfl hc.hPh
  generalize (srcP c p).env = e at eOp ePh
  have goG : ∀ (k : Int) (gs : List (Int × Int)), c.Ph = k → covers gs 0 255 = true → (gs.all fun g => Q (grp .u8 4 g).1 (.lit k) (grp .u8 4 g).2) = true → ∃ x y q, x.den e = c.Op ∧ y.den e = c.Ph ∧ AsmOk e q ∧ Q x y q = true := by
    intro k gs hk hcov hall
    obtain ⟨g, hg, h1, h2⟩ := covers_get (n := c.Op) hcov hc.hOp.1 hc.hOp.2
    have hd := grp_den (e := e) (k := .u8) (v := 4) (g := g) (by rw [eOp]; exact h1) (by rw [eOp]; exact h2)
    exact ⟨_, .lit k, _, hd.1.trans eOp, by rw [litD]; exact hk.symm, hd.2, List.all_eq_true.1 hall g hg⟩
  obtain ⟨q1, q2, q3, q4, q5, q6, q7, q8⟩ := hph
  by_cases c1 : c.Ph ≤ 0
  · exact ⟨op, ph, _, eOp, ePh, AsmOk.cons (by show decide (e.i .u8 6 ≤ 0) = true; rw [ePh]; exact decide_eq_true c1) (AsmOk.nil _), hlow⟩
  by_cases c2 : c.Ph ≤ 8
  · have : c.Ph = 1 ∨ c.Ph = 2 ∨ c.Ph = 3 ∨ c.Ph = 4 ∨ c.Ph = 5 ∨ c.Ph = 6 ∨ c.Ph = 7 ∨ c.Ph = 8 := by omega
    rcases this with h | h | h | h | h | h | h | h
    · exact goG 1 _ h (by kernel_rfl) q1
    · exact goG 2 _ h (by kernel_rfl) q2
    · exact goG 3 _ h (by kernel_rfl) q3
    · exact goG 4 _ h (by kernel_rfl) q4
    · exact goG 5 _ h (by kernel_rfl) q5
    · exact goG 6 _ h (by kernel_rfl) q6
    · exact goG 7 _ h (by kernel_rfl) q7
    · exact goG 8 _ h (by kernel_rfl) q8
  · exact ⟨op, ph, _, eOp, ePh, AsmOk.cons (by show decide (e.i .u8 6 ≤ 8) = false; rw [ePh]; exact decide_eq_false c2) (AsmOk.nil _), hhigh⟩
theorem cpuP_D {c : Cpu} {p : Pins} (hc : c.Ok) {ρ : Rho} {x y : IExp} (hx : x.den (srcP c p).env = c.Op) (hy : y.den (srcP c p).env = c.Ph) : (cpuV x y).D (srcP c p).env ρ c.val := cpuV_D hc hx hy
theorem pinsP_D {c : Cpu} {p : Pins} (hp : p.Ok) {ρ : Rho} : (pinsV mode 8 3).D (srcP c p).env ρ p.val :=
  pinsV_D (cs := p.cells) ⟨hp.1, hp.2, rfl⟩ (srcC_u8 (j := 7) rfl hp.1) rfl rfl rfl rfl rfl rfl rfl rfl
def Cpu.may (c : Cpu) : Prop := c.P ≤ 15 ∧ c.X ≤ 15 ∧ 1 ≤ c.Ph ∧ c.Ph ≤ 8 ∧ (c.Ph = 3 → 192 ≤ c.Op ∧ c.Op ≤ 207) ∧ (c.Ph ≠ 3 → c.B = 0) ∧ (c.Ph = 4 → c.Op = 0) ∧ (c.Ph = 5 → c.Op = 0)
theorem impB_den {e : Env} {x y : BExp} : (impB x y).den e = true ↔ (x.den e = true → y.den e = true) := by
  simp only [impB, BExp.den]
  cases x.den e <;> cases y.den e <;> simp
theorem validE_den {e : Env} {p x o b h : IExp} : (validE p x o b h).den e = true ↔ (p.den e ≤ 15 ∧ x.den e ≤ 15 ∧ 1 ≤ h.den e ∧ h.den e ≤ 8 ∧ (h.den e = 3 → 192 ≤ o.den e ∧ o.den e ≤ 207) ∧ (h.den e ≠ 3 → b.den e = 0) ∧ (h.den e = 4 → o.den e = 0) ∧ (h.den e = 5 → o.den e = 0)) := by
  unfold validE
  simp only [BExp.den, Bool.and_eq_true, impB_den, litD, decide_eq_true_eq, Bool.not_eq_true', decide_eq_false_iff_not]
  constructor
  · rintro ⟨h1, h2, h3, h4, h5, h6, h7, h8⟩
    exact ⟨h1, h2, by omega, h4, fun hh => ⟨by have := (h5 hh).1; omega, (h5 hh).2⟩, h6, h7, h8⟩
  · rintro ⟨h1, h2, h3, h4, h5, h6, h7, h8⟩
    exact ⟨h1, h2, by omega, h4, fun hh => ⟨by have := (h5 hh).1; omega, (h5 hh).2⟩, h6, h7, h8⟩
theorem validB_D {e : Env} {ρ : Rho} {v : SVal} {c : Cpu} (h : (validB v).den e = true) (hD : v.D e ρ c.val) : c.may := by
  unfold validB at h
  split at h
  · rename_i k n a x1 x2 k3 p k4 x x5 x6 x7 k8 o k9 b k10 hh
    obtain ⟨vs, hv, vs', h1, h2, hr⟩ := hD
    have hv : c.cells = vs := by
      have := Value.agg.inj hv
      simpa using congrArg Array.toList this
    subst hv
    obtain ⟨w1, _, rfl, d1, w2, _, rfl, d2, w3, _, rfl, d3, w4, _, rfl, d4, w5, _, rfl, d5, w6, _, rfl, d6, w7, _, rfl, d7, w8, _, rfl, d8, w9, _, rfl, d9, w10, _, rfl, d10, rfl⟩ := hr
    have hl : ((a.den e).map (Value.int k)).length = (c.R.map (Value.int .u16)).length := by
      have := congrArg List.length h1
      simp only [Cpu.cells, List.length_append, List.length_cons, List.length_nil] at this
      omega
    obtain ⟨_, h3⟩ := List.append_inj h1 (by omega)
    simp only [List.cons.injEq, and_true] at h3
    obtain ⟨_, _, g3, g4, _, _, _, g8, g9, g10⟩ := h3
    have d3 : w3 = .int k3 (p.den e) := d3
    have d4 : w4 = .int k4 (x.den e) := d4
    have d8 : w8 = .int k8 (o.den e) := d8
    have d9 : w9 = .int k9 (b.den e) := d9
    have d10 : w10 = .int k10 (hh.den e) := d10
    rw [← g3] at d3; rw [← g4] at d4; rw [← g8] at d8; rw [← g9] at d9; rw [← g10] at d10
    have e3 := (Value.int.inj d3).2
    have e4 := (Value.int.inj d4).2
    have e8 := (Value.int.inj d8).2
    have e9 := (Value.int.inj d9).2
    have e10 := (Value.int.inj d10).2
    have := validE_den.1 h
    rw [← e3, ← e4, ← e8, ← e9, ← e10] at this
    exact this
  · simp [BExp.den] at h
end Go.Proofs.YtjnoacnbhcdidaaDoor.K
