/- A symbolic executor for Go code: equations between sums, told by the equations that are known. -/
import Derived.Test.YtaijkkkgpgldbaaDoorSyCfg
namespace Go.Proofs.YtaijkkkgpgldbaaDoor.Sy
noncomputable section
set_option linter.unusedVariables false
set_option linter.unusedSimpArgs false
open Go

/-- Equal, by what is known. -/
def eqLin (as : Asm) (x y : IExp) : Bool :=
  let qs := eqnsOf as []
  let d := reduceAll qs (reduceAll qs (lcDiff x y))
  d.1.isEmpty && decide (d.2 % 18446744073709551616 = 0) && inKind .i64 (x.rng as) && inKind .i64 (y.rng as)
theorem eqLin_ok {e : Env} (ok : EnvOk e) {as : Asm} (ha : AsmOk e as) {x y : IExp} (h : eqLin as x y = true) : x.den e = y.den e := by
  simp only [eqLin, Bool.and_eq_true, decide_eq_true_eq, List.isEmpty_iff] at h
  obtain ⟨⟨⟨h1, h2⟩, h3⟩, h4⟩ := h
  have hx := inKind_spec h3 (IExp.rng_ok ok ha x)
  have hy := inKind_spec h4 (IExp.rng_ok ok ha y)
  have hq := eqnsOf_ok (qs := []) ha (fun q hq => by cases hq)
  obtain ⟨a, ha'⟩ := lcDiff_ok (e := e) x y
  obtain ⟨b, hb⟩ := reduceAll_ok hq (lcDiff x y)
  obtain ⟨c, hc⟩ := reduceAll_ok hq (reduceAll (eqnsOf as []) (lcDiff x y))
  rw [h1] at hc
  simp only [lcSum] at hc
  simp only [In, IntKind.min_i64, IntKind.max_i64] at hx hy
  omega
end
end Go.Proofs.YtaijkkkgpgldbaaDoor.Sy
