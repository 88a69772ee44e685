/- CPUMay: its table is sound; a processor and pins by letters. -/
import Derived.Test.YtjnoacnbhcdidaaDoorCpMay0
namespace Go.Proofs.YtjnoacnbhcdidaaDoor.K
open Go Sy
set_option maxRecDepth 100000
set_option linter.unusedVariables false
set_option linter.unusedSimpArgs false
theorem tabMay_ok {e : Env} (ok : EnvOk e) (he : CpuEnv e) (ov : Nat) : TabOk Tryd.prog 1 ov tabMay e := by
  intro ro f args st t Z ht hov hz ρ vs W R hv ha hr hg hR
  unfold tabMay at ht
  split at ht
  · rename_i hf
    subst hf
    split at ht
    · split at ht
      · rename_i c p hc hp
        split at ht
        · rename_i hcond
          cases ht
          simp only [Bool.and_eq_true] at hcond
          obtain ⟨⟨_, ⟨⟨h1, h2⟩, h3⟩, h4⟩, h5, h6⟩ := hcond
          obtain ⟨v1, _, rfl, d1, v2, _, rfl, d2, rfl⟩ := hv
          rw [cpuOf_eq hc] at d1
          rw [pinsOf_eq hp] at d2
          obtain ⟨rfl, hl⟩ := CpuE.val_of d1
          have := PinsE.val_of d2
          subst this
          have hcok := CpuE.ok ok ha h1 hl
          have hpok : (p.den e).Ok := ⟨inKind_spec h2 (IExp.rng_ok ok ha _), inKind_spec h3 (IExp.rng_ok ok ha _)⟩
          have hlaid := laid_of hr hg h4
          have hs := step_is hcok hpok hlaid
          have hden : (stepE (c.l p.l)).den e = step (c.den e) (p.den e) := stepE_den he hcok hpok (by rw [CpuE.l_den, PinsE.l_den])
          have hD : ∀ ρ', (stepE (c.l p.l)).v.D e ρ' (step (c.den e) (p.den e)).val := fun ρ' => by
            rw [← hden]
            refine CpuE.isV ?_
            have := hs.1.hlen
            rw [← hden] at this
            exact this
          have hmay : (c.den e).may := validE_den.1 (isB_den ok ha h5)
          have hm3 : (p.den e).m ≤ 3 := by
            have : decide (p.m.den e ≤ (IExp.lit 3).den e) = true := isB_den ok ha h6
            rw [litD] at this
            exact of_decide_eq_true this
          have hchk : (chk0 (stepE (c.l p.l))).den e = true := by
            have hll : ((stepE (c.l p.l)).l .nil).den e = cpuLV (step (c.den e) (p.den e)) [] := by rw [CpuE.l_den, hden]; simp only [LExp.den]
            have h0 : (IExp.fn .i64 3 0 ((stepE (c.l p.l)).l .nil)).den e = 0 := by
              show e.fi .i64 3 0 (((stepE (c.l p.l)).l .nil).den e) = 0
              rw [hll, he.check, check_may hs.1 (step_may hmay hm3) hlaid]
            show decide (_ = _) = true
            rw [h0, litD]; rfl
          have hW := hs.2.2 W hlaid
          refine hW.1.mono ?_
          rintro en W' ⟨rfl, hb⟩
          exact hR _ _ hz ρ _ W' (Post.of_below hr hb) (hD ρ) (AsmOk.cons hchk ha)
        · cases ht
      · cases ht
    · cases ht
  split at ht
  · rename_i hf0 hf
    subst hf
    split at ht
    · rename_i x
      split at ht
      · split at ht
        · exact tabCpu_ok ok he ov ro _ _ st t Z (by unfold tabCpu; rw [if_neg (by decide), if_neg (by decide), if_pos (by decide)]; exact ht) hov hz ρ vs W R hv ha hr hg hR
        · cases ht
      · cases ht
    · cases ht
  · cases ht

def cpuX (x y : IExp) : CpuE := ⟨.var .u16 0, .var .u8 0, .var 0, .var .u8 1, .var .u8 2, .var .u8 3, .var 1, .var 2, x, .var .u8 5, y⟩
structure CpuHas (e : Env) (c : Cpu) : Prop where
  R : e.a .u16 0 = c.R
  D : e.i .u8 0 = c.D
  P : e.i .u8 1 = c.P
  X : e.i .u8 2 = c.X
  T : e.i .u8 3 = c.T
  Op : e.i .u8 4 = c.Op
  B : e.i .u8 5 = c.B
  Ph : e.i .u8 6 = c.Ph
  DF : e.b 0 = c.DF
  IE : e.b 1 = c.IE
  Q : e.b 2 = c.Q
theorem cpuX_D {e : Env} {ρ : Rho} {c : Cpu} (h : CpuHas e c) (hc : c.Ok) {x y : IExp} (hx : x.den e = c.Op) (hy : y.den e = c.Ph) : (cpuV x y).D e ρ c.val := by
  have : (cpuX x y).den e = c := by
    obtain ⟨h1, h2, h3, h4, h5, h6, h7, h8, h9, h10, h11⟩ := h
    cases c
    simp only [CpuE.den, cpuX, IExp.den, BExp.den, AExp.den, Cpu.mk.injEq]
    exact ⟨h1, h2, h3, h4, h5, hx, h7, hy, h9, h10, h11⟩
  have hv : (cpuX x y).v.D e ρ ((cpuX x y).den e).val := CpuE.isV (by show ((cpuX x y).den e).R.length = 16; rw [this]; exact hc.hlen)
  rw [this] at hv
  exact hv
theorem pinsE_D {e : Env} {ρ : Rho} {p : PinsE} : p.v.D e ρ (p.den e).val :=
  ⟨_, rfl, _, _, rfl, rfl, _, _, rfl, rfl, _, _, rfl, rfl, _, _, rfl, rfl, _, _, rfl, rfl, _, _, rfl, rfl, _, _, rfl, rfl, _, _, rfl, rfl, _, _, rfl, rfl, rfl⟩
def pinsX (m : IExp) (d b : Nat) : PinsE := ⟨m, .var .u8 d, .var b, .var (b + 1), .var (b + 2), .var (b + 3), .var (b + 4), .var (b + 5), .var (b + 6)⟩
theorem pinsX_D {e : Env} {ρ : Rho} {p : Pins} {m : IExp} {d b : Nat} (h : (pinsX m d b).den e = p) : (pinsV m d b).D e ρ p.val := by
  have hv : (pinsX m d b).v.D e ρ ((pinsX m d b).den e).val := pinsE_D
  rw [h] at hv
  exact hv
/-- A processor, two pins. -/
def usQ (c : Cpu) (p q : Pins) : List Int := [c.D, c.P, c.X, c.T, c.Op, c.B, c.Ph, p.m, p.d, q.m, q.d]
def bsQ (c : Cpu) (p q : Pins) : List Bool := [c.DF, c.IE, c.Q, p.f0, p.f1, p.f2, p.f3, p.i, p.o, p.t, q.f0, q.f1, q.f2, q.f3, q.i, q.o, q.t]
noncomputable def srcQ (c : Cpu) (p q : Pins) : Src := withCpu (srcC c.R (usQ c p q) (bsQ c p q))
theorem srcQ_u8 {c : Cpu} {p q : Pins} {j : Nat} {n : Int} (h : (usQ c p q)[j]? = some n) (hn : In .u8 n) : (srcQ c p q).env.i .u8 j = n := srcC_u8 (R := c.R) (us := usQ c p q) (bs := bsQ c p q) h hn
theorem srcQ_b {c : Cpu} {p q : Pins} {j : Nat} {x : Bool} (h : (bsQ c p q)[j]? = some x) : (srcQ c p q).env.b j = x := srcC_b (R := c.R) (us := usQ c p q) (bs := bsQ c p q) h
theorem srcQ_R {c : Cpu} (hc : c.Ok) (p q : Pins) : (srcQ c p q).env.a .u16 0 = c.R := srcC_R (us := usQ c p q) (bs := bsQ c p q) hc.hR hc.hlen
theorem srcQ_has {c : Cpu} (hc : c.Ok) (p q : Pins) : CpuHas (srcQ c p q).env c :=
  ⟨srcQ_R hc p q, srcQ_u8 (j := 0) rfl hc.hD, srcQ_u8 (j := 1) rfl hc.hP, srcQ_u8 (j := 2) rfl hc.hX, srcQ_u8 (j := 3) rfl hc.hT, srcQ_u8 (j := 4) rfl hc.hOp, srcQ_u8 (j := 5) rfl hc.hB, srcQ_u8 (j := 6) rfl hc.hPh, srcQ_b (j := 0) rfl, srcQ_b (j := 1) rfl, srcQ_b (j := 2) rfl⟩
theorem srcQ_p {c : Cpu} {p q : Pins} (hp : p.Ok) : (pinsX mode 8 3).den (srcQ c p q).env = p := by
  cases p
  simp only [PinsE.den, pinsX, mode, IExp.den, BExp.den, Pins.mk.injEq]
  exact ⟨srcQ_u8 (j := 7) rfl hp.1, srcQ_u8 (j := 8) rfl hp.2, srcQ_b (j := 3) rfl, srcQ_b (j := 4) rfl, srcQ_b (j := 5) rfl, srcQ_b (j := 6) rfl, srcQ_b (j := 7) rfl, srcQ_b (j := 8) rfl, srcQ_b (j := 9) rfl⟩
theorem srcQ_q {c : Cpu} {p q : Pins} (hq : q.Ok) : (pinsX (.var .u8 9) 10 10).den (srcQ c p q).env = q := by
  cases q
  simp only [PinsE.den, pinsX, IExp.den, BExp.den, Pins.mk.injEq]
  exact ⟨srcQ_u8 (j := 9) rfl hq.1, srcQ_u8 (j := 10) rfl hq.2, srcQ_b (j := 10) rfl, srcQ_b (j := 11) rfl, srcQ_b (j := 12) rfl, srcQ_b (j := 13) rfl, srcQ_b (j := 14) rfl, srcQ_b (j := 15) rfl, srcQ_b (j := 16) rfl⟩
end Go.Proofs.YtjnoacnbhcdidaaDoor.K
