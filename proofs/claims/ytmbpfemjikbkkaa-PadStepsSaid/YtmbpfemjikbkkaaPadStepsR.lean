/- The law PadSteps returns true for every input, and its arguments read afterwards as they read before. No condition. -/
import Derived.Test.YtmbpfemjikbkkaaRows
import Derived.Test.YtmbpfemjikbkkaaPadStepsW
import Derived.Test.YtmbpfemjikbkkaaFlat
import Derived.WalkKit
import Derived.ProofKit
import Derived.OpenShut
import Derived.ShutString
import Derived.ChangeOld
import Derived.Below
namespace Go.Proofs.Ytmbpfemjikbkkaa.padSteps
open Go.ChangeShapes Go.WideShapes Go.ChangeAt Go.RowKit
open Go.ChangeMaps (open_string shut_string)
set_option linter.unusedVariables false

theorem own : ownKnob Try.prog.godebug = none := by kernel_rfl
theorem laidOut : laidOutB Try.prog = true := by kernel_rfl
theorem cts0 : Try.prog.cellTypes Try.prog.depth 24 = some [5] := by kernel_rfl
theorem cks0 : [5].map (Flat.fkOf Try.prog) = [Flat.Fk.i .u8].map some := by kernel_rfl
theorem cts1 : Try.prog.cellTypes Try.prog.depth 28 = some [5, 25, 4, 4, 4, 5, 5, 4] := by kernel_rfl
theorem cks1 : [5, 25, 4, 4, 4, 5, 5, 4].map (Flat.fkOf Try.prog) = [Flat.Fk.i .u8, Flat.Fk.i .u16, Flat.Fk.b, Flat.Fk.b, Flat.Fk.b, Flat.Fk.i .u8, Flat.Fk.i .u8, Flat.Fk.b].map some := by kernel_rfl
set_option maxRecDepth 100000 in
theorem lifted (os : Os) (started : os.Started) (H : Type) (enc : TypeId × Value → H) :
    ReturnsInHanded {} Try.checked os 6 .any (Rows.padStepsSpec.pre6 enc Try.prog Try.f6 Rows.padStepsRow.domain false) (Rows.padStepsSpec.post enc Try.prog Try.f6 false true false false) := by
  refine returnsInHanded_of_change (C := Try.checked) own started (by kernel_rfl) Try.func6
    (ChangeSpec.witness6 (enc := enc) (C := Try.checked) false ⟨#[], #[.agg #[.int .u8 0], .agg #[.int .u8 0, .int .u16 0, .bool false, .bool false, .bool false, .int .u8 0, .int .u8 0, .bool false], .int .u8 0], []⟩ 8 (by kernel_rfl) (by kernel_rfl) (by kernel_rfl) (by kernel_rfl)) ?_
  intro W base args ds gs before hval0 hW hcnd _
  have hval : ∀ (j : Nat) t v, Try.f6.params[j]? = some t → args[j]? = some v → Value.okWide Try.prog W .any base t v := hval0
  have hW' := hW
  obtain ⟨p, q, hA0, hV, rfl, hfz, hnd⟩ := hW
  have hA : DataW.TrodAll enc Try.prog W 0 (fun _ => true) true Try.f6.params.toList args.toList ds p := hA0
  rw [Try.params6] at hA hval
  obtain ⟨v0, vs0, d0, ds0, p0, q0, hargs, rfl, rfl, h0, r0⟩ := trodAll_cons hA
  obtain ⟨v1, vs1, d1, ds1, p1, q1, rfl, rfl, rfl, h1, r1⟩ := trodAll_cons r0
  obtain ⟨v2, vs2, d2, ds2, p2, q2, rfl, rfl, rfl, h2, r2⟩ := trodAll_cons r1
  obtain ⟨rfl, rfl, rfl⟩ := trodAll_nil r2
  obtain rfl : args = #[v0, v1, v2] := by cases args; simp_all
  obtain ⟨rfl, rfl⟩ := trodVars_none hV
  have k0 := h0
  have lt0 : ∀ x ∈ p0, x.block < W.heap.size := by obtain ⟨m, hm⟩ := k0; exact DataW.trod_lt m _ _ _ hm
  obtain ⟨cs0, rfl, g0_0⟩ := Flat.open_flat _ _ _ Try.underlying24 cts0 (by kernel_rfl) cks0 (hval 0 24 v0 rfl rfl)
  obtain ⟨x0_0, c0_0, rfl, bx0_0, g0_1⟩ := Flat.allOk_i g0_0
  obtain rfl := Flat.allOk_nil g0_1
  have k1 := h1
  have lt1 : ∀ x ∈ p1, x.block < W.heap.size := by obtain ⟨m, hm⟩ := k1; exact DataW.trod_lt m _ _ _ hm
  obtain ⟨cs1, rfl, g1_0⟩ := Flat.open_flat _ _ _ Try.underlying28 cts1 (by kernel_rfl) cks1 (hval 1 28 v1 rfl rfl)
  obtain ⟨x1_0, c1_0, rfl, bx1_0, g1_1⟩ := Flat.allOk_i g1_0
  obtain ⟨x1_1, c1_1, rfl, bx1_1, g1_2⟩ := Flat.allOk_i g1_1
  obtain ⟨x1_2, c1_2, rfl, g1_3⟩ := Flat.allOk_b g1_2
  obtain ⟨x1_3, c1_3, rfl, g1_4⟩ := Flat.allOk_b g1_3
  obtain ⟨x1_4, c1_4, rfl, g1_5⟩ := Flat.allOk_b g1_4
  obtain ⟨x1_5, c1_5, rfl, bx1_5, g1_6⟩ := Flat.allOk_i g1_5
  obtain ⟨x1_6, c1_6, rfl, bx1_6, g1_7⟩ := Flat.allOk_i g1_6
  obtain ⟨x1_7, c1_7, rfl, g1_8⟩ := Flat.allOk_b g1_7
  obtain rfl := Flat.allOk_nil g1_8
  have k2 := h2
  have lt2 : ∀ x ∈ p2, x.block < W.heap.size := by obtain ⟨m, hm⟩ := k2; exact DataW.trod_lt m _ _ _ hm
  obtain ⟨a2, rfl, rfl, rfl, w2⟩ := open_int Try.underlying5 (hval 2 5 v2 rfl rfl) h2
  clear hA0 hval0
  refine (PadStepsW.walk x0_0 bx0_0 x1_0 bx1_0 x1_1 bx1_1 x1_2 x1_3 x1_4 x1_5 bx1_5 x1_6 bx1_6 x1_7 a2 ((Lit.wf_int_iff _ _).1 w2) W).mono fun e W' ⟨he, bel⟩ => ?_
  subst he
  exact ⟨_, rfl, _, _, _, [], _, [], hW', trodAll_mk1 (shut_bool Try.underlying4 _), (trodAll_cons_mk (Below.trod laidOut (by kernel_rfl) (of_decide_eq_true (by kernel_rfl)) k0 bel lt0) (trodAll_cons_mk (Below.trod laidOut (by kernel_rfl) (of_decide_eq_true (by kernel_rfl)) k1 bel lt1) (trodAll_cons_mk (Below.trod laidOut (by kernel_rfl) (of_decide_eq_true (by kernel_rfl)) k2 bel lt2) trodAll_mk0))), rfl, bel.frame _, fun h => by cases h⟩

theorem over : Rows.padStepsRow.holds Try.pinned (OpenSpec.ofChange Rows.padStepsSpec) :=
  OpenClaim.holds_of_wide 6 Try.f6 rfl rfl rfl rfl rfl rfl rfl ⟨rfl, rfl, rfl, rfl, rfl⟩ rfl rfl rfl rfl rfl (by kernel_rfl) Try.func6 (by kernel_rfl)
    (of_decide_eq_true (by kernel_rfl)) (by unfold Func.isWrapper; first | (rw [if_pos (by decide +kernel)]; kernel_rfl) | (rw [if_neg (by decide +kernel)]; exact ⟨rfl, rfl⟩))
    (fun os started H enc _ => lifted os started H enc)
theorem proved : Rows.PadStepsSaid := over
#print axioms proved
end Go.Proofs.Ytmbpfemjikbkkaa.padSteps
