/- The store's laws: the document's store; the limits; a nil store. -/
import Derived.Test.YtopgnohobmlegaaStRom
import Derived.Test.YtopgnohobmlegaaKRow
namespace Go.Proofs.Ytopgnohobmlegaa.K
open Go Sy
set_option maxRecDepth 100000
set_option linter.unusedVariables false
set_option linter.unusedSimpArgs false
abbrev Yes (W : World) (en : Ending) (W' : World) : Prop := en = .returned (.bool true) ∧ RowKit.Below W.heap.size W W'
theorem awake_true : (xCall Try.prog 0 plan tabRom 1000 0 16 [] ⟨[], []⟩).all isT = true := by kernel_rfl
theorem awake (W : World) : Calls Try.prog 16 #[] W (Yes W) :=
  run_true (srcI []).ok mixed plan_ok LtOk.none (tabRom_ok (srcI []).env 0 0) (args := []) (vs := []) rfl (AsmOk.nil _) (HRel.none _ _ W) (noGlob _) (Nat.le_refl _) awake_true
def tabA : Tab := fun ro f args st => match tabRom ro f args st with
  | some x => some x
  | none => match args with
    | [] => if f = 16 then some (.leaf (.v (.c (.b (.lit true))), st)) else none
    | _ => none
theorem tabA_ok (e : Env) (G ov : Nat) : TabOk Try.prog G ov tabA e := by
  refine TabOk.or (tabRom_ok e G ov) ?_
  intro ro f args st t Z ht hov hz ρ vs W R hv ha hr hg hR
  simp only at ht
  split at ht
  · split at ht
    · rename_i hf
      cases ht
      subst hf
      cases hv
      refine (awake W).mono ?_
      rintro en W' ⟨rfl, hb⟩
      exact hR _ _ hz ρ _ W' (Post.of_below hr hb) rfl ha
    · cases ht
  · cases ht
theorem names_true : (xCall Try.prog 0 plan tabA 1000 0 4 [] ⟨[], []⟩).all isT = true := by kernel_rfl
theorem names_walk (W : World) : Calls Try.prog 4 #[] W (Yes W) :=
  run_true (srcI []).ok mixed plan_ok LtOk.none (tabA_ok (srcI []).env 0 0) (args := []) (vs := []) rfl (AsmOk.nil _) (HRel.none _ _ W) (noGlob _) (Nat.le_refl _) names_true
theorem nil_true : (xCall Try.prog 0 plan tabA 1000 0 8 [.v (.c (.i .u16 (.var .u16 0))), .v (.c (.i .i64 (.var .i64 0))), .any, .v (.c (.b (.var 0)))] ⟨[], []⟩).all isT = true := by kernel_rfl
def srcN (a at' : Int) (on : Bool) : Src := { i := fun k => match k with | .i64 => [at'] | .u16 => [a] | _ => [], b := [on], a := fun _ _ => [] }
theorem nil_walk (W : World) (a : Int) (ha : IntKind.u16.min ≤ a ∧ a ≤ IntKind.u16.max) (at' : Int) (hat : IntKind.i64.min ≤ at' ∧ at' ≤ IntKind.i64.max) (p : Option Addr) (n c : Nat) (z : List Int) (hz : IsRow .u8 W p n c z) (on : Bool) :
    Calls Try.prog 8 #[.int .u16 a, .int .i64 at', .slice p n c, .bool on] W (Yes W) := by
  refine run_true (srcN a at' on).ok mixed plan_ok LtOk.none (tabA_ok _ 0 0) (args := _) (vs := [.int .u16 a, .int .i64 at', .slice p n c, .bool on]) ?_ (AsmOk.nil _) (HRel.none _ _ W) (noGlob _) (Nat.le_refl _) nil_true
  refine ⟨_, _, rfl, ?_, _, _, rfl, ?_, _, _, rfl, trivial, _, _, rfl, rfl, rfl⟩
  · exact congrArg (Value.int .u16) (clip_of (k := .u16) (n := a) ha).symm
  · exact congrArg (Value.int .i64) (clip_of (k := .i64) (n := at') hat).symm
/-- The ROM's bytes by a letter. -/
def tabV : Tab := fun _ f args st => match args with
  | [] => if f = 18 then some (.leaf (.v (.c (.sl (some ⟨st.h.length, 0, none⟩) (.lit 512) (some (.lit 512)))), ⟨st.h ++ [some ([.row .u8 (.var .u8 9)], 5)], st.as⟩)) else
    if f = 16 then some (.leaf (.v (.c (.b (.lit true))), st)) else none
  | _ => none
theorem tabV_ok {e : Env} (he : e.a .u8 9 = romL) (G ov : Nat) : TabOk Try.prog G ov tabV e := by
  intro ro f args st t Z ht hov hz ρ vs W R hv ha hr hg hR
  unfold tabV at ht
  split at ht
  · split at ht
    · rename_i hf
      cases ht
      subst hf
      cases hv
      refine (rom_calls W).mono ?_
      rintro en W' ⟨b, o, r, rfl, hn⟩
      have hl : (ρ ++ [(b, o, r)])[st.h.length]? = some (b, o, r) := by rw [hr.len]; simp
      exact hR _ _ hz _ _ W' (post_new hr hn (A := .var .u8 9) (by simp only [AExp.den, he])) (slice_D hl (litD _ _) (litD _ _) (Nat.le_refl _)) ha
    · split at ht
      · rename_i hf
        cases ht
        subst hf
        cases hv
        refine (awake W).mono ?_
        rintro en W' ⟨rfl, hb⟩
        exact hR _ _ hz ρ _ W' (Post.of_below hr hb) rfl ha
      · cases ht
  · cases ht
/-- What is known of the ROM's letter. -/
def asV : Asm := [(.eq (.len (.var .u8 9)) (.lit 512), true)]
theorem romL_len : romL.length = 512 := by simp [romL]
end Go.Proofs.Ytopgnohobmlegaa.K
