/- The law CPUMay returns true for every input, and its arguments read afterwards as they read before. No condition. -/
import Derived.Test.YtjnoacnbhcdidaaDoorRows
import Derived.Test.YtjnoacnbhcdidaaDoorCpMay
import Derived.Test.YtjnoacnbhcdidaaDoorCards
import Derived.Test.YtjnoacnbhcdidaaDoorTie
import Derived.LaidMore
import Derived.Lay
import Derived.SevenTiedAt
import Derived.WalkKit
import Derived.ProofKit
import Derived.OpenShut
import Derived.ShutString
import Derived.ChangeOld
import Derived.Below
namespace Go.Proofs.YtjnoacnbhcdidaaDoor.cPUMay
open Go.ChangeShapes Go.WideShapes Go.ChangeAt Go.RowKit
open Go.ChangeMaps (open_string shut_string)
set_option linter.unusedVariables false

theorem own : ownKnob Tryd.prog.godebug = none := by kernel_rfl
theorem laidOut : laidOutB Tryd.prog = true := by kernel_rfl
theorem cts0 : Tryd.prog.cellTypes Tryd.prog.depth 26 = some [22, 22, 22, 22, 22, 22, 22, 22, 22, 22, 22, 22, 22, 22, 22, 22, 5, 4, 5, 5, 5, 4, 4, 5, 5, 24] := by kernel_rfl
theorem cks0 : [22, 22, 22, 22, 22, 22, 22, 22, 22, 22, 22, 22, 22, 22, 22, 22, 5, 4, 5, 5, 5, 4, 4, 5, 5, 24].map (Flat.fkOf Tryd.prog) = [Flat.Fk.i .u16, Flat.Fk.i .u16, Flat.Fk.i .u16, Flat.Fk.i .u16, Flat.Fk.i .u16, Flat.Fk.i .u16, Flat.Fk.i .u16, Flat.Fk.i .u16, Flat.Fk.i .u16, Flat.Fk.i .u16, Flat.Fk.i .u16, Flat.Fk.i .u16, Flat.Fk.i .u16, Flat.Fk.i .u16, Flat.Fk.i .u16, Flat.Fk.i .u16, Flat.Fk.i .u8, Flat.Fk.b, Flat.Fk.i .u8, Flat.Fk.i .u8, Flat.Fk.i .u8, Flat.Fk.b, Flat.Fk.b, Flat.Fk.i .u8, Flat.Fk.i .u8, Flat.Fk.i .u8].map some := by kernel_rfl
theorem cts1 : Tryd.prog.cellTypes Tryd.prog.depth 36 = some [33, 5, 4, 4, 4, 4, 4, 4, 4] := by kernel_rfl
theorem cks1 : [33, 5, 4, 4, 4, 4, 4, 4, 4].map (Flat.fkOf Tryd.prog) = [Flat.Fk.i .u8, Flat.Fk.i .u8, Flat.Fk.b, Flat.Fk.b, Flat.Fk.b, Flat.Fk.b, Flat.Fk.b, Flat.Fk.b, Flat.Fk.b].map some := by kernel_rfl
theorem cts2 : Tryd.prog.cellTypes Tryd.prog.depth 36 = some [33, 5, 4, 4, 4, 4, 4, 4, 4] := by kernel_rfl
theorem cks2 : [33, 5, 4, 4, 4, 4, 4, 4, 4].map (Flat.fkOf Tryd.prog) = [Flat.Fk.i .u8, Flat.Fk.i .u8, Flat.Fk.b, Flat.Fk.b, Flat.Fk.b, Flat.Fk.b, Flat.Fk.b, Flat.Fk.b, Flat.Fk.b].map some := by kernel_rfl
set_option maxRecDepth 100000 in
theorem lifted (os : Os) (started : os.Started) (H : Type) (enc : TypeId × Value → H) :
    ReturnsInHanded {} Tryd.checked os 5 .any (fun w args => (Rows.cPUMaySpec.pre enc Tryd.prog Tryd.f5 Rows.cPUMayRow.domain false w args ∧ laidMetH Tryd.prog [("vesper/cpu.lasts", Rows.laid_vesper_cpu_lasts)] w) ∧ sizedMet enc Tryd.prog Tryd.f5 (OpenSpec.ofChange Rows.cPUMaySpec) false w args) (Rows.cPUMaySpec.post enc Tryd.prog Tryd.f5 false true false false) := by
  refine returnsInHanded_of_change_and (C := Tryd.checked) (X := fun w _ => laidMetH Tryd.prog [("vesper/cpu.lasts", Rows.laid_vesper_cpu_lasts)] w) (fun _ _ _ hh h => h.of_heap hh) own started (by kernel_rfl) Tryd.func5
    (ChangeSpec.witness_shaped (enc := enc) (C := Tryd.checked) (os := os) (X := fun w _ => laidMetH Tryd.prog [("vesper/cpu.lasts", Rows.laid_vesper_cpu_lasts)] w) false (World.laidAll Tryd.prog os [("vesper/cpu.lasts", Rows.laid_vesper_cpu_lasts)]) #[.agg #[.int .u16 0, .int .u16 0, .int .u16 0, .int .u16 0, .int .u16 0, .int .u16 0, .int .u16 0, .int .u16 0, .int .u16 0, .int .u16 0, .int .u16 0, .int .u16 0, .int .u16 0, .int .u16 0, .int .u16 0, .int .u16 0, .int .u8 0, .bool false, .int .u8 0, .int .u8 0, .int .u8 0, .bool false, .bool false, .int .u8 0, .int .u8 0, .int .u8 0], .agg #[.int .u8 0, .int .u8 0, .bool false, .bool false, .bool false, .bool false, .bool false, .bool false, .bool false], .agg #[.int .u8 0, .int .u8 0, .bool false, .bool false, .bool false, .bool false, .bool false, .bool false, .bool false]] 8 (World.laidAll_os _ _ _)
      (World.shaped_of_ZipB (by kernel_rfl) (by kernel_rfl)) (by kernel_rfl) (by kernel_rfl) (by kernel_rfl)
      (by rw [MakeChecks.laidMetH_plain _ _ _ (by kernel_rfl)]; exact laidMet_laidAll _ (by kernel_rfl) (by kernel_rfl))) ?_
  intro W base args ds gs before hval0 hW hcnd _ hL _
  have hval : ∀ (j : Nat) t v, Tryd.f5.params[j]? = some t → args[j]? = some v → Value.okWide Tryd.prog W .any base t v := hval0
  have hW' := hW
  obtain ⟨p, q, hA0, hV, rfl, hfz, hnd⟩ := hW
  have hA : DataW.TrodAll enc Tryd.prog W 0 (fun _ => true) true Tryd.f5.params.toList args.toList ds p := hA0
  rw [Tryd.params5] at hA hval
  obtain ⟨v0, vs0, d0, ds0, p0, q0, hargs, rfl, rfl, h0, r0⟩ := trodAll_cons hA
  obtain ⟨v1, vs1, d1, ds1, p1, q1, rfl, rfl, rfl, h1, r1⟩ := trodAll_cons r0
  obtain ⟨v2, vs2, d2, ds2, p2, q2, rfl, rfl, rfl, h2, r2⟩ := trodAll_cons r1
  obtain ⟨rfl, rfl, rfl⟩ := trodAll_nil r2
  obtain rfl : args = #[v0, v1, v2] := by cases args; simp_all
  obtain ⟨rfl, rfl⟩ := trodVars_none hV
  have k0 := h0
  have lt0 : ∀ x ∈ p0, x.block < W.heap.size := by obtain ⟨m, hm⟩ := k0; exact DataW.trod_lt m _ _ _ hm
  obtain ⟨cs0, rfl, g0_0⟩ := Flat.open_flat _ _ _ Tryd.underlying26 cts0 (by kernel_rfl) cks0 (hval 0 26 v0 rfl rfl)
  have k1 := h1
  have lt1 : ∀ x ∈ p1, x.block < W.heap.size := by obtain ⟨m, hm⟩ := k1; exact DataW.trod_lt m _ _ _ hm
  obtain ⟨cs1, rfl, g1_0⟩ := Flat.open_flat _ _ _ Tryd.underlying36 cts1 (by kernel_rfl) cks1 (hval 1 36 v1 rfl rfl)
  have k2 := h2
  have lt2 : ∀ x ∈ p2, x.block < W.heap.size := by obtain ⟨m, hm⟩ := k2; exact DataW.trod_lt m _ _ _ hm
  obtain ⟨cs2, rfl, g2_0⟩ := Flat.open_flat _ _ _ Tryd.underlying36 cts2 (by kernel_rfl) cks2 (hval 2 36 v2 rfl rfl)
  clear hA0 hval0
  refine (K.may_walk W cs0 g0_0 cs1 g1_0 cs2 g2_0 hL).mono fun e W' ⟨he, bel⟩ => ?_
  subst he
  exact ⟨_, rfl, _, _, _, [], _, [], hW', trodAll_mk1 (shut_bool Tryd.underlying4 _), (trodAll_cons_mk (Below.trod laidOut (by kernel_rfl) (of_decide_eq_true (by kernel_rfl)) k0 bel lt0) (trodAll_cons_mk (Below.trod laidOut (by kernel_rfl) (of_decide_eq_true (by kernel_rfl)) k1 bel lt1) (trodAll_cons_mk (Below.trod laidOut (by kernel_rfl) (of_decide_eq_true (by kernel_rfl)) k2 bel lt2) trodAll_mk0))), rfl, bel.frame _, fun h => by cases h⟩

theorem over : Rows.cPUMayRow.holds Tryd.pinned (OpenSpec.ofChange Rows.cPUMaySpec) :=
  OpenClaim.holds_of_wide 5 Tryd.f5 rfl rfl rfl rfl rfl rfl rfl ⟨rfl, rfl, rfl, rfl, rfl⟩ rfl rfl rfl rfl rfl (by kernel_rfl) Tryd.func5 (by kernel_rfl)
    (of_decide_eq_true (by kernel_rfl)) (by unfold Func.isWrapper; first | (rw [if_pos (by decide +kernel)]; kernel_rfl) | (rw [if_neg (by decide +kernel)]; exact ⟨rfl, rfl⟩))
    (fun os started H enc _ => lifted os started H enc)
theorem proved : Rows.CPUMayCardSaid :=
  Claim7.holds_tied_plain_at .later [] [.data] true (true, "98511fce54f280b5b40febb657e91666cb70590ac639b19bf718eb3ee594e96a") false
    over (fun _ h => by cases h) (by kernel_rfl) (fun _ h => by cases h) cPUMay_row_tie rfl ⟨rfl, rfl⟩ (by kernel_rfl) rfl
    (fun f fn hf hfn => by
      obtain rfl : f = 5 := Option.some.inj ((show Tryd.prog.funcNamed "vesper/vesperlaw04.CPUMay" = some 5 by kernel_rfl).symm.trans hf) |>.symm
      obtain rfl : fn = Tryd.f5 := (Option.some.inj (Tryd.func5.symm.trans hfn)).symm
      exact ⟨by kernel_rfl, fun j t ht => by
        rw [Tryd.params5] at ht
        have hm : t ∈ [26, 36, 36] := by simpa using Array.mem_of_getElem? ht
        have hall : ([26, 36, 36].all fun u => !Tryd.prog.wantsStandIn u) = true := by kernel_rfl
        exact (show Tryd.prog.wantsStandIn t = false by simpa using List.all_eq_true.1 hall t hm)⟩)
    (by kernel_rfl)
#print axioms proved
end Go.Proofs.YtjnoacnbhcdidaaDoor.cPUMay
