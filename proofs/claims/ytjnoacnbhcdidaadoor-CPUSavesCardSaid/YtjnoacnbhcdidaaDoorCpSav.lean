/- CPUSaves answers true, whatever the processor and its stack. -/
import Derived.Test.YtjnoacnbhcdidaaDoorCpSavA
import Derived.Test.YtjnoacnbhcdidaaDoorCpSavB
import Derived.Test.YtjnoacnbhcdidaaDoorCpSavC
namespace Go.Proofs.YtjnoacnbhcdidaaDoor.K
open Go Sy
set_option maxRecDepth 100000
set_option linter.unusedVariables false
set_option linter.unusedSimpArgs false
def savGs : List (Int × Int) := [(0, 0), (1, 16383), (16384, 16639), (16640, 65535)]
theorem savAll : (savGs.all savQ) = true := by
  simp only [savGs, List.all_cons, List.all_nil, Bool.and_true, sav0, sav1, sav2, sav3, Bool.and_self]
def usS (c : Cpu) : List Int := [c.D, c.P, c.X, c.T, c.Op, c.B, c.Ph]
def bsS (c : Cpu) : List Bool := [c.DF, c.IE, c.Q]
def srcS (c : Cpu) (s : Int) : Src := { srcC c.R (usS c) (bsS c) with i := fun k => match k with
  | .u8 => usS c
  | .u16 => [s]
  | _ => [] }
theorem srcS_u8 {c : Cpu} {s : Int} {j : Nat} {n : Int} (h : (usS c)[j]? = some n) (hn : In .u8 n) : (srcS c s).env.i .u8 j = n := srcC_u8 (R := c.R) (us := usS c) (bs := bsS c) h hn
theorem srcS_b {c : Cpu} {s : Int} {j : Nat} {x : Bool} (h : (bsS c)[j]? = some x) : (srcS c s).env.b j = x := srcC_b (R := c.R) (us := usS c) (bs := bsS c) h
theorem srcS_has {c : Cpu} (hc : c.Ok) (s : Int) : CpuHas (srcS c s).env c :=
  ⟨srcC_R (us := usS c) (bs := bsS c) hc.hR hc.hlen, srcS_u8 (j := 0) rfl hc.hD, srcS_u8 (j := 1) rfl hc.hP, srcS_u8 (j := 2) rfl hc.hX, srcS_u8 (j := 3) rfl hc.hT, srcS_u8 (j := 4) rfl hc.hOp, srcS_u8 (j := 5) rfl hc.hB, srcS_u8 (j := 6) rfl hc.hPh, srcS_b (j := 0) rfl, srcS_b (j := 1) rfl, srcS_b (j := 2) rfl⟩
theorem saves_walk (W : World) (cs0 : List Value) (k0 : Flat.AllOk cpuFs cs0) (s : Int) (hs : In .u16 s) (hL : laidMetH Tryd.prog [("vesper/cpu.lasts", Rows.laid_vesper_cpu_lasts)] W) :
    Calls Tryd.prog 10 #[.agg cs0.toArray, .int .u16 s] W (Yes W) := by
  obtain ⟨c, hc, rfl⟩ := cpu_of k0
  have ok := (srcS c s).ok
  have hh := srcS_has hc s
  have eS : (srcS c s).env.i .u16 0 = s := clip_of hs
  have hlaid := of_laid hL (srcS c s).env
  generalize (srcS c s).env = e at ok hh eS hlaid
  have hcov : ∃ g ∈ savGs, g.1 ≤ s ∧ s ≤ g.2 := by
    obtain ⟨k1, k2⟩ := hs
    simp only [IntKind.min_u16, IntKind.max_u16] at k1 k2
    by_cases c1 : s ≤ 0
    · exact ⟨(0, 0), by simp [savGs], k1, c1⟩
    by_cases c2 : s ≤ 16383
    · exact ⟨(1, 16383), by simp [savGs], by show (1 : Int) ≤ s; omega, c2⟩
    by_cases c3 : s ≤ 16639
    · exact ⟨(16384, 16639), by simp [savGs], by show (16384 : Int) ≤ s; omega, c3⟩
    · exact ⟨(16640, 65535), by simp [savGs], by show (16640 : Int) ≤ s; omega, k2⟩
  obtain ⟨g, hg, h1, h2⟩ := hcov
  have hd := grp_den (e := e) (k := .u16) (v := 0) (g := g) (by rw [eS]; exact h1) (by rw [eS]; exact h2)
  have hall := List.all_eq_true.1 savAll g hg
  unfold savQ savT at hall
  exact run_true (e := e) ok mixed plan_ok LtOk.none (TabOk.none _ _ _ _) (G := 1) (args := [cpuV op ph, .v (.c (.i .u16 (grp .u16 0 g).1))]) (vs := [c.val, .int .u16 s])
    ⟨_, _, rfl, cpuX_D hh hc hh.Op hh.Ph, _, _, rfl, congrArg _ (by rw [hd.1, eS]), rfl⟩ hd.2 hlaid glob1 (Nat.le_refl 1) hall
end Go.Proofs.YtjnoacnbhcdidaaDoor.K
