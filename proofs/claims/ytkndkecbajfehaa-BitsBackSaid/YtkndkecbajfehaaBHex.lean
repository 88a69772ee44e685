/- What a call of Hex answers, and the reference's. -/
import Derived.Test.YtkndkecbajfehaaBRolls
import Derived.Test.YtkndkecbajfehaaBHexLaw
namespace Go.Proofs.Ytkndkecbajfehaa.Bits
open Go Sy
set_option maxRecDepth 100000
set_option linter.unusedVariables false
set_option linter.unusedSimpArgs false

/-- A digit's letter. -/
def tabG : Tab := fun _ f args st => if f = 27 then match args with
    | [.v (.c (.i .i64 x))] => match x.rng st.as with
      | some (l, h) => if 0 ≤ l ∧ h ≤ 15 then some (.leaf (.v (.c (.i .u8 (.sel .u8 (.cst digs) x))), st)) else none
      | none => none
    | _ => none
  else none
def isDig (i : Nat) (v : SVal) : Bool := match v with
  | .v (.c (.i .u8 (.lit n))) => decide (n = dig i)
  | _ => false
theorem digit_runs : ((List.range 16).all fun i => (xCall Try.prog 0 plan tabA 1000 0 27 [.v (.c (.i .i64 (.lit (i : Int))))] ⟨[], []⟩).all fun q => isDig i q.1) = true := by kernel_rfl
theorem digs_get : ∀ i : Nat, i < 16 → digs.getD i 0 = dig i := by decide
theorem digit_calls {i : Nat} (hi : i < 16) (W : World) : Calls Try.prog 27 #[.int .i64 (i : Int)] W fun en W' => en = .returned (.int .u8 (dig i)) ∧ RowKit.Below W.heap.size W W' := by
  have hall := List.all_eq_true.1 digit_runs i (List.mem_range.2 hi)
  have ok := (srcW [] [] [] [] []).ok
  generalize (srcW [] [] [] [] []).env = E at ok
  refine (run_call ok mixed plan_ok LtOk.none (tabA_ok _ 0 0) (args := [.v (.c (.i .i64 (.lit (i : Int))))]) (vs := [.int .i64 (i : Int)]) ⟨_, _, rfl, ?_, rfl⟩ (AsmOk.nil _) (HRel.none _ _ W) (noGlob []) (Nat.le_refl _) (WT.all_holds hall)).mono ?_
  · show Value.int .i64 (i : Int) = .int .i64 ((IExp.lit (i : Int)).den E)
    rw [litD]
  · rintro en W' ⟨v, st', ρ', V, hz, rfl, hV, ha, hbl⟩
    refine ⟨?_, hbl⟩
    unfold isDig at hz
    split at hz
    · rename_i n hv
      have hn := of_decide_eq_true hz
      simp only at hv
      subst hv
      have hV : V = .int .u8 ((IExp.lit n).den E) := hV
      rw [hV, litD, hn]
    · cases hz
theorem tabG_ok {e : Env} (ok : EnvOk e) (G ov : Nat) : TabOk Try.prog G ov tabG e := by
  intro ro f args st t Z ht hov hz ρ vs W R hv ha hr hg hR
  unfold tabG at ht
  split at ht
  · rename_i hf
    subst hf
    split at ht
    · rename_i x
      split at ht
      · rename_i l h hrng
        split at ht
        · rename_i hlh
          cases ht
          obtain ⟨v1, _, rfl, h1, rfl⟩ := hv
          have h1 : v1 = .int .i64 (x.den e) := h1
          subst h1
          have hx := IExp.rng_ok ok ha x
          rw [hrng] at hx
          obtain ⟨i, hi⟩ := Int.eq_ofNat_of_zero_le (show 0 ≤ x.den e from Int.le_trans hlh.1 hx.1)
          have hi16 : i < 16 := by have h2 := Int.le_trans hx.2 hlh.2; rw [hi] at h2; omega
          rw [hi]
          refine (digit_calls hi16 W).mono ?_
          rintro en W' ⟨rfl, hbl⟩
          refine hR _ _ hz ρ _ W' (Post.of_below hr hbl) ?_ ha
          show Value.int .u8 _ = .int .u8 ((IExp.sel .u8 (.cst digs) x).den e)
          rw [show (IExp.sel .u8 (.cst digs) x).den e = digs.getD (x.den e).toNat 0 by simp only [IExp.den, AExp.den], hi, Int.toNat_natCast, digs_get i hi16]
        · cases ht
      · cases ht
    · cases ht
  · cases ht
def digE (t : Bool) (d i : Nat) : IExp :=
  let b := if i = 0 then N0 else .bin .quo .i64 N0 (.lit (16 ^ i))
  if t = true ∧ i + 1 = d then b else .bin .rem .i64 b (.lit 16)
def hexE (t : Bool) (d : Nat) : Nat → AExp
  | 0 => .zeros (.lit d)
  | k + 1 => .upd (hexE t d k) (.lit ((d - 1 - k : Nat) : Int)) (.sel .u8 (.cst digs) (digE t d k))
def hexTree (d : Nat) : WT SVal := .node (.le N0 (.lit (-1))) (.leaf (.v (.c (.s (.cst []))))) (.node (.le N0 (.lit (16 ^ d - 1))) (.leaf (.v (.c (.s (hexE true d d))))) (.leaf (.v (.c (.s (.cst []))))))
def refTree (d : Nat) : WT SVal := .node (.le N0 (.lit (-1))) (.leaf (.v (.c (.s (.cst []))))) (.node (.le (.bin .quo .i64 N0 (.lit (16 ^ d))) (.lit 0)) (.leaf (.v (.c (.s (hexE false d d))))) (.leaf (.v (.c (.s (.cst []))))))
noncomputable def hexT (f : Nat) (d : Int) : WT SVal := (xCall Try.prog 0 plan tabG 1000 0 f [.v (.c (.i .i64 N0)), .v (.c (.i .i64 (.lit d)))] ⟨[], []⟩).map (fun q => q.1)
theorem hex14_1 : hexT 14 1 = hexTree 1 := by kernel_rfl
theorem hex14_2 : hexT 14 2 = hexTree 2 := by kernel_rfl
theorem hex14_3 : hexT 14 3 = hexTree 3 := by kernel_rfl
theorem hex14_4 : hexT 14 4 = hexTree 4 := by kernel_rfl
theorem hex14_5 : hexT 14 5 = hexTree 5 := by kernel_rfl
theorem hex14_6 : hexT 14 6 = hexTree 6 := by kernel_rfl
theorem hex14_7 : hexT 14 7 = hexTree 7 := by kernel_rfl
theorem hex14_8 : hexT 14 8 = hexTree 8 := by kernel_rfl
theorem hex17_1 : hexT 17 1 = refTree 1 := by kernel_rfl
theorem hex17_2 : hexT 17 2 = refTree 2 := by kernel_rfl
theorem hex17_3 : hexT 17 3 = refTree 3 := by kernel_rfl
theorem hex17_4 : hexT 17 4 = refTree 4 := by kernel_rfl
theorem hex17_5 : hexT 17 5 = refTree 5 := by kernel_rfl
theorem hex17_6 : hexT 17 6 = refTree 6 := by kernel_rfl
theorem hex17_7 : hexT 17 7 = refTree 7 := by kernel_rfl
theorem hex17_8 : hexT 17 8 = refTree 8 := by kernel_rfl
end Go.Proofs.Ytkndkecbajfehaa.Bits
