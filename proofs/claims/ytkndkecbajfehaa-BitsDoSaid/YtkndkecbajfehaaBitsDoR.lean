/- The law BitsDo returns true for every input, and its arguments read afterwards as they read before. No condition. -/
import Derived.Test.YtkndkecbajfehaaRows
import Derived.Test.YtkndkecbajfehaaBDo
import Derived.WalkKit
import Derived.ProofKit
import Derived.OpenShut
import Derived.ShutString
import Derived.ChangeOld
import Derived.Below
namespace Go.Proofs.Ytkndkecbajfehaa.bitsDo
open Go.ChangeShapes Go.WideShapes Go.ChangeAt Go.RowKit
open Go.ChangeMaps (open_string shut_string)
set_option linter.unusedVariables false

theorem own : ownKnob Try.prog.godebug = none := by kernel_rfl
theorem laidOut : laidOutB Try.prog = true := by kernel_rfl
theorem cts0 : Try.prog.cellTypes Try.prog.depth 25 = some [23, 5, 5, 4] := by kernel_rfl
theorem cks0 : [23, 5, 5, 4].map (Flat.fkOf Try.prog) = [Flat.Fk.i .u8, Flat.Fk.i .u8, Flat.Fk.i .u8, Flat.Fk.b].map some := by kernel_rfl
set_option maxRecDepth 100000 in
theorem lifted (os : Os) (started : os.Started) (H : Type) (enc : TypeId × Value → H) :
    ReturnsInHanded {} Try.checked os 4 .any (Rows.bitsDoSpec.pre6 enc Try.prog Try.f4 Rows.bitsDoRow.domain false) (Rows.bitsDoSpec.post enc Try.prog Try.f4 false true false false) := by
  refine returnsInHanded_of_change (C := Try.checked) own started (by kernel_rfl) Try.func4
    (ChangeSpec.witness6 (enc := enc) (C := Try.checked) false ⟨#[], #[.agg #[.int .u8 0, .int .u8 0, .int .u8 0, .bool false]], []⟩ 8 (by kernel_rfl) (by kernel_rfl) (by kernel_rfl) (by kernel_rfl)) ?_
  intro W base args ds gs before hval0 hW hcnd _
  have hval : ∀ (j : Nat) t v, Try.f4.params[j]? = some t → args[j]? = some v → Value.okWide Try.prog W .any base t v := hval0
  have hW' := hW
  obtain ⟨p, q, hA0, hV, rfl, hfz, hnd⟩ := hW
  have hA : DataW.TrodAll enc Try.prog W 0 (fun _ => true) true Try.f4.params.toList args.toList ds p := hA0
  rw [Try.params4] at hA hval
  obtain ⟨v0, vs0, d0, ds0, p0, q0, hargs, rfl, rfl, h0, r0⟩ := trodAll_cons hA
  obtain ⟨rfl, rfl, rfl⟩ := trodAll_nil r0
  obtain rfl : args = #[v0] := by cases args; simp_all
  obtain ⟨rfl, rfl⟩ := trodVars_none hV
  have k0 := h0
  have lt0 : ∀ x ∈ p0, x.block < W.heap.size := by obtain ⟨m, hm⟩ := k0; exact DataW.trod_lt m _ _ _ hm
  obtain ⟨cs0, rfl, g0_0⟩ := Flat.open_flat _ _ _ Try.underlying25 cts0 (by kernel_rfl) cks0 (hval 0 25 v0 rfl rfl)
  obtain ⟨x0_0, c0_0, rfl, bx0_0, g0_1⟩ := Flat.allOk_i g0_0
  obtain ⟨x0_1, c0_1, rfl, bx0_1, g0_2⟩ := Flat.allOk_i g0_1
  obtain ⟨x0_2, c0_2, rfl, bx0_2, g0_3⟩ := Flat.allOk_i g0_2
  obtain ⟨x0_3, c0_3, rfl, g0_4⟩ := Flat.allOk_b g0_3
  obtain rfl := Flat.allOk_nil g0_4
  clear hA0 hval0
  refine (Bits.do_walk x0_0 bx0_0 x0_1 bx0_1 x0_2 bx0_2 x0_3 W).mono fun e W' ⟨he, bel⟩ => ?_
  subst he
  exact ⟨_, rfl, _, _, _, [], _, [], hW', trodAll_mk1 (shut_bool Try.underlying4 _), (trodAll_cons_mk (Below.trod laidOut (by kernel_rfl) (of_decide_eq_true (by kernel_rfl)) k0 bel lt0) trodAll_mk0), rfl, bel.frame _, fun h => by cases h⟩

theorem over : Rows.bitsDoRow.holds Try.pinned (OpenSpec.ofChange Rows.bitsDoSpec) :=
  OpenClaim.holds_of_wide 4 Try.f4 rfl rfl rfl rfl rfl rfl rfl ⟨rfl, rfl, rfl, rfl, rfl⟩ rfl rfl rfl rfl rfl (by kernel_rfl) Try.func4 (by kernel_rfl)
    (of_decide_eq_true (by kernel_rfl)) (by unfold Func.isWrapper; first | (rw [if_pos (by decide +kernel)]; kernel_rfl) | (rw [if_neg (by decide +kernel)]; exact ⟨rfl, rfl⟩))
    (fun os started H enc _ => lifted os started H enc)
theorem proved : Rows.BitsDoSaid := over
#print axioms proved
end Go.Proofs.Ytkndkecbajfehaa.bitsDo
