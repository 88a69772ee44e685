/- A call of Hex, of either; the contract. -/
import Derived.Test.YtkndkecbajfehaaBHex2
namespace Go.Proofs.Ytkndkecbajfehaa.Bits
open Go Sy
set_option maxRecDepth 100000
set_option linter.unusedVariables false
set_option linter.unusedSimpArgs false

abbrev D1 : IExp := .var .i64 1
def isNil (q : SVal × St) : Bool := match q.1 with
  | .v (.c (.s (.cst []))) => true
  | _ => false
theorem out_14 : (xCall Try.prog 0 plan tabG 1000 0 14 [.v (.c (.i .i64 N0)), .v (.c (.i .i64 D1))] ⟨[], [(.le D1 (.lit 0), true)]⟩).all isNil = true := by kernel_rfl
theorem out_14' : (xCall Try.prog 0 plan tabG 1000 0 14 [.v (.c (.i .i64 N0)), .v (.c (.i .i64 D1))] ⟨[], [(.le D1 (.lit 8), false)]⟩).all isNil = true := by kernel_rfl
theorem out_17 : (xCall Try.prog 0 plan tabG 1000 0 17 [.v (.c (.i .i64 N0)), .v (.c (.i .i64 D1))] ⟨[], [(.le D1 (.lit 0), true)]⟩).all isNil = true := by kernel_rfl
theorem out_17' : (xCall Try.prog 0 plan tabG 1000 0 17 [.v (.c (.i .i64 N0)), .v (.c (.i .i64 D1))] ⟨[], [(.le D1 (.lit 8), false)]⟩).all isNil = true := by kernel_rfl
theorem trees {f : Nat} (hf : f = 14 ∨ f = 17) {d : Nat} (h1 : 1 ≤ d) (h8 : d ≤ 8) : hexT f d = hexTree d ∨ hexT f d = refTree d := by
  obtain rfl | rfl | rfl | rfl | rfl | rfl | rfl | rfl : d = 1 ∨ d = 2 ∨ d = 3 ∨ d = 4 ∨ d = 5 ∨ d = 6 ∨ d = 7 ∨ d = 8 := by omega
  all_goals rcases hf with rfl | rfl
  · exact .inl hex14_1
  · exact .inr hex17_1
  · exact .inl hex14_2
  · exact .inr hex17_2
  · exact .inl hex14_3
  · exact .inr hex17_3
  · exact .inl hex14_4
  · exact .inr hex17_4
  · exact .inl hex14_5
  · exact .inr hex17_5
  · exact .inl hex14_6
  · exact .inr hex17_6
  · exact .inl hex14_7
  · exact .inr hex17_7
  · exact .inl hex14_8
  · exact .inr hex17_8
theorem hex_calls {f : Nat} (hf : f = 14 ∨ f = 17) {n d : Int} (hn : In .i64 n) (hd : In .i64 d) (W : World) :
    Calls Try.prog f #[.int .i64 n, .int .i64 d] W fun en W' => en = .returned (.string (strOf (hexR n d))) ∧ RowKit.Below W.heap.size W W' := by
  have ok := (srcW [] [] [n, d] [] []).ok
  have e0 : (srcW [] [] [n, d] [] []).env.i .i64 0 = n := clip_of (k := .i64) (n := n) hn
  have e1 : (srcW [] [] [n, d] [] []).env.i .i64 1 = d := clip_of (k := .i64) (n := d) hd
  generalize (srcW [] [] [n, d] [] []).env = E at ok e0 e1
  have vn : N0.den E = n := e0
  have vd : D1.den E = d := e1
  have n1 : n ≤ 9223372036854775807 := by simpa only [IntKind.max_i64] using hn.2
  by_cases hin : 1 ≤ d ∧ d ≤ 8
  · obtain ⟨m, rfl⟩ := Int.eq_ofNat_of_zero_le (show 0 ≤ d by omega)
    have m1 : 1 ≤ m := by omega
    have m8 : m ≤ 8 := by omega
    have hT : ∃ T, hexT f m = T ∧ T.holds E (okHex n m E) := by
      rcases trees hf m1 m8 with h | h
      · exact ⟨_, h, hexTree_ok vn n1 m1 m8⟩
      · exact ⟨_, h, refTree_ok vn n1 m1 m8⟩
    obtain ⟨T, hT, hh⟩ := hT
    refine (call_any ok (tabG_ok ok 0 0) (args := [.v (.c (.i .i64 N0)), .v (.c (.i .i64 (.lit m)))]) (vs := [.int .i64 n, .int .i64 m]) W ⟨_, _, rfl, ?_, _, _, rfl, ?_, rfl⟩ (AsmOk.nil _) hT hh).mono ?_
    · exact congrArg _ e0.symm
    · show Value.int .i64 (m : Int) = .int .i64 ((IExp.lit (m : Int)).den E)
      rw [litD]
    · rintro en W' ⟨v, ρ, V, hz, rfl, hV, hbl⟩
      exact ⟨by rw [hz ρ V hV], hbl⟩
  · have hR : hexR n d = [] := by unfold hexR; rw [if_pos (by omega)]
    have fin : ∀ q : Asm, AsmOk E q → (xCall Try.prog 0 plan tabG 1000 0 f [.v (.c (.i .i64 N0)), .v (.c (.i .i64 D1))] ⟨[], q⟩).all isNil = true → Calls Try.prog f #[.int .i64 n, .int .i64 d] W fun en W' => en = .returned (.string (strOf (hexR n d))) ∧ RowKit.Below W.heap.size W W' := by
      intro q hq hall
      refine (run_call ok mixed plan_ok LtOk.none (tabG_ok ok 0 0) (args := [.v (.c (.i .i64 N0)), .v (.c (.i .i64 D1))]) (vs := [.int .i64 n, .int .i64 d]) ⟨_, _, rfl, ?_, _, _, rfl, ?_, rfl⟩ hq (HRel.none _ _ W) (noGlob []) (Nat.le_refl _) (WT.all_holds hall)).mono ?_
      · exact congrArg _ e0.symm
      · exact congrArg _ e1.symm
      · rintro en W' ⟨v, st', ρ', V, hz, rfl, hV, ha, hbl⟩
        refine ⟨?_, hbl⟩
        unfold isNil at hz
        split at hz
        · rename_i hv
          simp only at hv
          subst hv
          rw [nil_ok hR ρ' V hV]
        · cases hz
    by_cases h0 : d ≤ 0
    · refine fin [(.le D1 (.lit 0), true)] (AsmOk.cons (by rw [le_den, vd, litD]; exact decide_eq_true h0) (AsmOk.nil _)) ?_
      rcases hf with rfl | rfl
      · exact out_14
      · exact out_17
    · refine fin [(.le D1 (.lit 8), false)] (AsmOk.cons (by rw [le_den, vd, litD]; exact decide_eq_false (by omega)) (AsmOk.nil _)) ?_
      rcases hf with rfl | rfl
      · exact out_14'
      · exact out_17'
def tabH : Tab := fun _ f args st => match args with
  | [.v (.c (.i .i64 n)), .v (.c (.i .i64 d))] => if (f = 14 ∨ f = 17) ∧ inKind .i64 (n.rng st.as) = true ∧ inKind .i64 (d.rng st.as) = true then
      some (.leaf (.v (.c (.s (.fn .u8 3 0 (.i n (.i d .nil))))), st)) else none
  | _ => none
def HexEnv (e : Env) : Prop := ∀ n d, e.fa .u8 3 0 [.i n, .i d] = hexR n d
theorem tabH_ok {e : Env} (ok : EnvOk e) (he : HexEnv e) (G ov : Nat) : TabOk Try.prog G ov tabH e := by
  intro ro f args st t Z ht hov hz ρ vs W R hv ha hr hg hR
  unfold tabH at ht
  split at ht
  · rename_i n d
    split at ht
    · rename_i hc
      obtain ⟨hf, hn, hd⟩ := hc
      cases ht
      obtain ⟨v1, _, rfl, h1, v2, _, rfl, h2, rfl⟩ := hv
      have h1 : v1 = .int .i64 (n.den e) := h1
      have h2 : v2 = .int .i64 (d.den e) := h2
      subst h1 h2
      refine (hex_calls hf (inKind_spec hn (IExp.rng_ok ok ha n)) (inKind_spec hd (IExp.rng_ok ok ha d)) W).mono ?_
      rintro en W' ⟨rfl, hbl⟩
      refine hR _ _ hz ρ _ W' (Post.of_below hr hbl) ?_ ha
      show Value.string _ = .string (strOf ((AExp.fn .u8 3 0 (.i n (.i d .nil))).den e))
      simp only [AExp.den, LExp.den]
      rw [he]
    · cases ht
  · cases ht
def tabHNA : Tab := fun ro f args st => match tabH ro f args st with
  | some x => some x
  | none => match tabN ro f args st with
    | some x => some x
    | none => tabA ro f args st
noncomputable def hexLaw : WT SVal := (xCall Try.prog 0 plan tabHNA 1000 0 6 [.v (.c (.i .i64 N0)), .v (.c (.i .i64 D1)), .v (.c (.s (.var .u8 0)))] ⟨[], []⟩).map (fun q => q.1)
noncomputable def backLaw : WT SVal := (xCall Try.prog 0 plan tabHNA 1000 0 7 [.v (.c (.i .i64 N0)), .v (.c (.i .i64 D1)), .v (.c (.s (.var .u8 0)))] ⟨[], []⟩).map (fun q => q.1)
end Go.Proofs.Ytkndkecbajfehaa.Bits
