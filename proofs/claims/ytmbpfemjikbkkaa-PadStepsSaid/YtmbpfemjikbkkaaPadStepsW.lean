/- The walk and the plain law of PadSteps: for any latch, drive and byte the call returns true and writes nothing that was there. -/
import Derived.Test.YtmbpfemjikbkkaaPPadStepsx3
import Derived.Laws.BitsAllLaws
import Derived.DataShut
namespace Go.Proofs.Ytmbpfemjikbkkaa.PadStepsW
open Go.RowKit Go.Proofs.Ytmbpfemjikbkkaa.PPadSteps Go.Proofs.YtmbpfemjikbkkaaW.PrintWords Go.Proofs.YtmbpfemjikbkkaaW.PrintLast Go.Proofs.YtmbpfemjikbkkaaW.PrintMore

theorem awake_true : vesperlaw06_awake.f 300 = some true := by kernel_rfl

theorem j_eq (k : Nat) (p d : Int) (x : Bool) (h0 : 0 ≤ d) (h1 : d ≤ 255) : ∃ r, pad_Step.j0 (k + 1) d x p = some r ∧ vesperref06_Step.j0 (k + 1) d x p = some r := by
  have e : Go.bits .and .u8 d 15 = Int.tmod d 16 := by
    rw [u8_and15 d h0 (by omega), Int.tmod_eq_emod_of_nonneg h0]
  simp only [pad_Step.j0, vesperref06_Step.j0]
  rw [e]
  cases x with
  | true => exact ⟨_, rfl, rfl⟩
  | false =>
    by_cases c : p ≥ 16
    · rw [if_pos c, if_pos (by omega : p > 15)]; exact ⟨_, rfl, rfl⟩
    · rw [if_neg c, if_neg (by omega : ¬ p > 15)]; exact ⟨_, rfl, rfl⟩

theorem pure_law (p : Int) (x0 x1 : Int) (x2 x3 x4 : Bool) (x5 x6 : Int) (x7 : Bool) (d : Int) (h0 : 0 ≤ d) (h1 : d ≤ 255) :
    vesperlaw06_PadSteps.f 300 p x0 x1 x2 x3 x4 x5 x6 x7 d = some true := by
  have h : ∃ r, pad_Step.f 300 p x0 x1 x2 x3 x4 x5 x6 x7 d = some r ∧ vesperref06_Step.f 300 p x0 x1 x2 x3 x4 x5 x6 x7 d = some r := by
    unfold pad_Step.f vesperref06_Step.f
    by_cases c : x6 = 2
    · rw [if_pos c, if_pos c]; exact j_eq 299 p d x2 h0 h1
    · rw [if_neg c, if_neg c]; exact j_eq 299 p d false h0 h1
  obtain ⟨r, e1, e2⟩ := h
  unfold vesperlaw06_PadSteps.f
  rw [e1, e2]; simp only [Option.bind_some]
  rw [awake_true]; simp

theorem walk (p : Int) (g : IntKind.u8.min ≤ p ∧ p ≤ IntKind.u8.max) (x0 : Int) (g0 : IntKind.u8.min ≤ x0 ∧ x0 ≤ IntKind.u8.max) (x1 : Int) (g1 : IntKind.u16.min ≤ x1 ∧ x1 ≤ IntKind.u16.max)
    (x2 x3 x4 : Bool) (x5 : Int) (g5 : IntKind.u8.min ≤ x5 ∧ x5 ≤ IntKind.u8.max) (x6 : Int) (g6 : IntKind.u8.min ≤ x6 ∧ x6 ≤ IntKind.u8.max) (x7 : Bool)
    (d : Int) (h : IntKind.u8.min ≤ d ∧ d ≤ IntKind.u8.max) (w : World) :
    Calls Try.prog 6 #[.agg #[.int .u8 p], .agg #[.int .u8 x0, .int .u16 x1, .bool x2, .bool x3, .bool x4, .int .u8 x5, .int .u8 x6, .bool x7], .int .u8 d] w
      fun e w' => e = .returned (.bool true) ∧ Below w.heap.size w w' := by
  have _ := g; have _ := g0; have _ := g1; have _ := g5; have _ := g6
  rw [IntKind.min_u8, IntKind.max_u8] at h
  exact vesperlaw06_PadSteps.calls 300 p x0 x1 x2 x3 x4 x5 x6 x7 d true w (pure_law p x0 x1 x2 x3 x4 x5 x6 x7 d h.1 h.2)
end Go.Proofs.Ytmbpfemjikbkkaa.PadStepsW
