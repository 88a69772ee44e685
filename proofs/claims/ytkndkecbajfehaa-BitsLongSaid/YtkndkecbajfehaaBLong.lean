/- Sums of two bytes: what Add, AddC, Back, BackC, Sub, SubC give. -/
import Derived.Test.YtkndkecbajfehaaBRolls
namespace Go.Proofs.Ytkndkecbajfehaa.Bits
open Go Sy
set_option maxRecDepth 100000
set_option linter.unusedVariables false
set_option linter.unusedSimpArgs false

def opV (o a b : Int) (c : Bool) : Int := if o = 4 then a + b else if o = 5 then a + b + (if c then 1 else 0) else if o = 6 then b - a else if o = 7 then b - a - (if c then 0 else 1) else if o = 8 then a - b else a - b - (if c then 0 else 1)
def opC (o a b : Int) (c : Bool) : Bool := if o ≤ 5 then decide (255 < opV o a b c) else decide (0 ≤ opV o a b c)
abbrev X1 : IExp := .var .u8 1
abbrev tupE (x : IExp) (b : BExp) : WT SVal := .leaf (.tup [.c (.i .u8 x), .c (.b b)])
noncomputable def opT (o : Int) : WT SVal := (xCall Try.prog 0 plan tabA 1000 0 12 [.v (.c (.i .u8 (.lit o))), .v (.c (.i .u8 X0)), .v (.c (.i .u8 X1)), .v (.c (.b (.var 0)))] ⟨[], []⟩).map (fun q => q.1)
abbrev sumE : IExp := .bin .add .i64 X0 X1
abbrev subE : IExp := .bin .sub .i64 X0 X1
abbrev busE : IExp := .bin .sub .i64 X1 X0
theorem op4 : opT 4 = .node (.var 0) (tupE (.bin .rem .i64 sumE (.lit 256)) (.not (.le sumE (.lit 255)))) (tupE (.bin .rem .i64 sumE (.lit 256)) (.not (.le sumE (.lit 255)))) := by kernel_rfl
theorem op5 : opT 5 = .node (.var 0) (tupE (.conv .u8 (.bin .add .i64 sumE (.lit 1))) (.not (.le sumE (.lit 254)))) (tupE (.bin .rem .i64 sumE (.lit 256)) (.not (.le sumE (.lit 255)))) := by kernel_rfl
theorem op6 : opT 6 = .node (.var 0) (tupE (.conv .u8 busE) (.le X0 X1)) (tupE (.conv .u8 busE) (.le X0 X1)) := by kernel_rfl
theorem op7 : opT 7 = .node (.var 0) (tupE (.conv .u8 busE) (.le X0 X1)) (tupE (.conv .u8 (.bin .add .i64 busE (.lit (-1)))) (.lt X0 X1)) := by kernel_rfl
theorem op8 : opT 8 = .node (.var 0) (tupE (.conv .u8 subE) (.le X1 X0)) (tupE (.conv .u8 subE) (.le X1 X0)) := by kernel_rfl
theorem op9 : opT 9 = .node (.var 0) (tupE (.conv .u8 subE) (.le X1 X0)) (tupE (.conv .u8 (.bin .add .i64 subE (.lit (-1)))) (.lt X1 X0)) := by kernel_rfl
theorem small64 {n : Int} (h0 : -1000000 ≤ n) (h1 : n ≤ 1000000) : IntKind.i64.wrap n = n := wrap64 (by omega) (by omega)
theorem c5 (a b : Int) : 254 < a + b ↔ 255 < a + b + 1 := by omega
theorem cle (a b : Int) : a ≤ b ↔ 0 ≤ b - a := by omega
theorem clt (a b : Int) : a < b ↔ 0 ≤ b - a - 1 := by omega
theorem cnot (n x : Int) : ¬ x ≤ n ↔ n < x := by omega
theorem neg1 (x : Int) : x + -1 = x - 1 := by omega
theorem op_calls {o a b : Int} (ho : 4 ≤ o ∧ o ≤ 9) (ha : IntKind.u8.min ≤ a ∧ a ≤ IntKind.u8.max) (hb : IntKind.u8.min ≤ b ∧ b ≤ IntKind.u8.max) (c : Bool) (W : World) :
    Calls Try.prog 12 #[.int .u8 o, .int .u8 a, .int .u8 b, .bool c] W fun en W' => en = .returned (.tuple #[.int .u8 (opV o a b c % 256), .bool (opC o a b c)]) ∧ RowKit.Below W.heap.size W W' := by
  have ok := (srcW [a, b] [] [] [c] []).ok
  have e0 : (srcW [a, b] [] [] [c] []).env.i .u8 0 = a := clip_of (k := .u8) (n := a) ha
  have e1 : (srcW [a, b] [] [] [c] []).env.i .u8 1 = b := clip_of (k := .u8) (n := b) hb
  have eb : (srcW [a, b] [] [] [c] []).env.b 0 = c := rfl
  generalize (srcW [a, b] [] [] [c] []).env = E at ok e0 e1 eb
  have a0 : 0 ≤ a := by simpa only [IntKind.min_u8] using ha.1
  have a1 : a ≤ 255 := by simpa only [IntKind.max_u8] using ha.2
  have b0 : 0 ≤ b := by simpa only [IntKind.min_u8] using hb.1
  have b1 : b ≤ 255 := by simpa only [IntKind.max_u8] using hb.2
  have ws : IntKind.i64.wrap (a + b) = a + b := small64 (by omega) (by omega)
  have wd : IntKind.i64.wrap (a - b) = a - b := small64 (by omega) (by omega)
  have wb : IntKind.i64.wrap (b - a) = b - a := small64 (by omega) (by omega)
  have ws1 : IntKind.i64.wrap (a + b + 1) = a + b + 1 := small64 (by omega) (by omega)
  have wd1 : IntKind.i64.wrap (a - b + -1) = a - b + -1 := small64 (by omega) (by omega)
  have wb1 : IntKind.i64.wrap (b - a + -1) = b - a + -1 := small64 (by omega) (by omega)
  have m0 : Int.tmod (a + b) 256 = (a + b) % 256 := Int.tmod_eq_emod_of_nonneg (by omega)
  have ho6 : o = 4 ∨ o = 5 ∨ o = 6 ∨ o = 7 ∨ o = 8 ∨ o = 9 := by omega
  have v0 : X0.den E = a := e0
  have v1 : X1.den E = b := e1
  have hv : (BExp.var 0).den E = c := by simp only [BExp.den, eb]
  have key : ∀ q x1 k1 x2 k2, q = o → opT q = .node (.var 0) (tupE x1 k1) (tupE x2 k2) → (c = true → x1.den E = opV q a b c % 256 ∧ k1.den E = opC q a b c) → (c = false → x2.den E = opV q a b c % 256 ∧ k2.den E = opC q a b c) →
      Calls Try.prog 12 #[.int .u8 o, .int .u8 a, .int .u8 b, .bool c] W fun en W' => en = .returned (.tuple #[.int .u8 (opV o a b c % 256), .bool (opC o a b c)]) ∧ RowKit.Below W.heap.size W W' := by
    rintro q x1 k1 x2 k2 rfl hT h1 h2
    have hh : (WT.node (.var 0) (tupE x1 k1) (tupE x2 k2)).holds E (fun v : SVal => ∀ ρ V, v.D E ρ V → V = .tuple #[.int .u8 (opV q a b c % 256), .bool (opC q a b c)]) := by
      simp only [WT.holds, hv]
      split
      · rename_i hc
        intro ρ V hV
        rw [tup2 hV, (h1 hc).1, (h1 hc).2]
      · rename_i hc
        intro ρ V hV
        have hc : c = false := by simpa using hc
        rw [tup2 hV, (h2 hc).1, (h2 hc).2]
    refine (call_any ok (tabA_ok _ 0 0) (args := [.v (.c (.i .u8 (.lit q))), .v (.c (.i .u8 X0)), .v (.c (.i .u8 X1)), .v (.c (.b (.var 0)))]) (vs := [.int .u8 q, .int .u8 a, .int .u8 b, .bool c]) W ?_ (AsmOk.nil _) hT hh).mono ?_
    · refine ⟨_, _, rfl, ?_, _, _, rfl, ?_, _, _, rfl, ?_, _, _, rfl, ?_, rfl⟩
      · show Value.int .u8 q = .int .u8 ((IExp.lit q).den E)
        rw [litD]
      · exact congrArg _ e0.symm
      · exact congrArg _ e1.symm
      · exact congrArg _ eb.symm
    · rintro en W' ⟨v, ρ', V, hz, rfl, hV, hbl⟩
      exact ⟨by rw [hz ρ' V hV], hbl⟩
  have hsum : sumE.den E = a + b := by
    show binDen .add .i64 (X0.den E) (X1.den E) = _
    rw [v0, v1]; exact ws
  have hsub : subE.den E = a - b := by
    show binDen .sub .i64 (X0.den E) (X1.den E) = _
    rw [v0, v1]; exact wd
  have hbus : busE.den E = b - a := by
    show binDen .sub .i64 (X1.den E) (X0.den E) = _
    rw [v0, v1]; exact wb
  have hrem : (IExp.bin .rem .i64 sumE (.lit 256)).den E = (a + b) % 256 := by
    rw [binE, hsum, litD]
    exact m0
  have hgt : ∀ n : Int, (BExp.not (.le sumE (.lit n))).den E = decide (n < a + b) := fun n => by
    simp only [BExp.den, hsum, litD]
    exact not_decide_same (cnot _ _)
  have hinc : (IExp.conv .u8 (.bin .add .i64 sumE (.lit 1))).den E = (a + b + 1) % 256 := by
    rw [convE, binE, hsum, litD, wrapU8_mod]
    simp only [binDen]
    rw [ws1]
  have hcs : (IExp.conv .u8 subE).den E = (a - b) % 256 := by rw [convE, hsub, wrapU8_mod]
  have hcb : (IExp.conv .u8 busE).den E = (b - a) % 256 := by rw [convE, hbus, wrapU8_mod]
  have hcs1 : (IExp.conv .u8 (.bin .add .i64 subE (.lit (-1)))).den E = (a - b - 1) % 256 := by
    rw [convE, binE, hsub, litD, wrapU8_mod]
    simp only [binDen]
    rw [wd1, neg1]
  have hcb1 : (IExp.conv .u8 (.bin .add .i64 busE (.lit (-1)))).den E = (b - a - 1) % 256 := by
    rw [convE, binE, hbus, litD, wrapU8_mod]
    simp only [binDen]
    rw [wb1, neg1]
  have l01 : (BExp.le X0 X1).den E = decide (a ≤ b) := by simp only [BExp.den, v0, v1]
  have l10 : (BExp.le X1 X0).den E = decide (b ≤ a) := by simp only [BExp.den, v0, v1]
  have t01 : (BExp.lt X0 X1).den E = decide (a < b) := by simp only [BExp.den, v0, v1]
  have t10 : (BExp.lt X1 X0).den E = decide (b < a) := by simp only [BExp.den, v0, v1]
  obtain rfl | rfl | rfl | rfl | rfl | rfl := ho6
  · refine key 4 _ _ _ _ rfl op4 (fun hc => ?_) (fun hc => ?_)
    · have hV : opV 4 a b c = a + b := by simp [opV, hc]
      exact ⟨by rw [hV]; exact hrem, by unfold opC; rw [if_pos (by decide), hV]; exact hgt 255⟩
    · have hV : opV 4 a b c = a + b := by simp [opV, hc]
      exact ⟨by rw [hV]; exact hrem, by unfold opC; rw [if_pos (by decide), hV]; exact hgt 255⟩
  · refine key 5 _ _ _ _ rfl op5 (fun hc => ?_) (fun hc => ?_)
    · have hV : opV 5 a b c = a + b + 1 := by simp [opV, hc]
      exact ⟨by rw [hV]; exact hinc, by unfold opC; rw [if_pos (by decide), hV]; exact (hgt 254).trans (decide_same (c5 a b))⟩
    · have hV : opV 5 a b c = a + b := by simp [opV, hc]
      exact ⟨by rw [hV]; exact hrem, by unfold opC; rw [if_pos (by decide), hV]; exact hgt 255⟩
  · refine key 6 _ _ _ _ rfl op6 (fun hc => ?_) (fun hc => ?_)
    · have hV : opV 6 a b c = b - a := by simp [opV, hc]
      exact ⟨by rw [hV]; exact hcb, by unfold opC; rw [if_neg (by decide), hV]; exact l01.trans (decide_same (cle a b))⟩
    · have hV : opV 6 a b c = b - a := by simp [opV, hc]
      exact ⟨by rw [hV]; exact hcb, by unfold opC; rw [if_neg (by decide), hV]; exact l01.trans (decide_same (cle a b))⟩
  · refine key 7 _ _ _ _ rfl op7 (fun hc => ?_) (fun hc => ?_)
    · have hV : opV 7 a b c = b - a := by simp [opV, hc]
      exact ⟨by rw [hV]; exact hcb, by unfold opC; rw [if_neg (by decide), hV]; exact l01.trans (decide_same (cle a b))⟩
    · have hV : opV 7 a b c = b - a - 1 := by simp [opV, hc]
      exact ⟨by rw [hV]; exact hcb1, by unfold opC; rw [if_neg (by decide), hV]; exact t01.trans (decide_same (clt a b))⟩
  · refine key 8 _ _ _ _ rfl op8 (fun hc => ?_) (fun hc => ?_)
    · have hV : opV 8 a b c = a - b := by simp [opV, hc]
      exact ⟨by rw [hV]; exact hcs, by unfold opC; rw [if_neg (by decide), hV]; exact l10.trans (decide_same (cle b a))⟩
    · have hV : opV 8 a b c = a - b := by simp [opV, hc]
      exact ⟨by rw [hV]; exact hcs, by unfold opC; rw [if_neg (by decide), hV]; exact l10.trans (decide_same (cle b a))⟩
  · refine key 9 _ _ _ _ rfl op9 (fun hc => ?_) (fun hc => ?_)
    · have hV : opV 9 a b c = a - b := by simp [opV, hc]
      exact ⟨by rw [hV]; exact hcs, by unfold opC; rw [if_neg (by decide), hV]; exact l10.trans (decide_same (cle b a))⟩
    · have hV : opV 9 a b c = a - b - 1 := by simp [opV, hc]
      exact ⟨by rw [hV]; exact hcs1, by unfold opC; rw [if_neg (by decide), hV]; exact t10.trans (decide_same (clt b a))⟩
end Go.Proofs.Ytkndkecbajfehaa.Bits
