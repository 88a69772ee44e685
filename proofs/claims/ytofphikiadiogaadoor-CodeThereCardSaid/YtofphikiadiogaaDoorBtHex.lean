/- A call of Hex with one, two or four digits. -/
import Derived.Test.YtofphikiadiogaaDoorBtHexL
import Derived.Test.YtofphikiadiogaaDoorKFnE
namespace Go.Proofs.YtofphikiadiogaaDoor.Bits
open Go Sy K
set_option maxRecDepth 100000
set_option linter.unusedVariables false
set_option linter.unusedSimpArgs false
theorem digs_get : ∀ i : Nat, i < 16 → digs.getD i 0 = dig i := by decide
abbrev NX : IExp := .var .i64 0
def digE (t : Bool) (d i : Nat) : IExp :=
  let b := if i = 0 then NX else .bin .quo .i64 NX (.lit (16 ^ i))
  if t = true ∧ i + 1 = d then b else .bin .rem .i64 b (.lit 16)
def hexE (t : Bool) (d : Nat) : Nat → AExp
  | 0 => .zeros (.lit d)
  | k + 1 => .upd (hexE t d k) (.lit ((d - 1 - k : Nat) : Int)) (.sel .u8 (.cst digs) (digE t d k))
def hexTree (d : Nat) : WT SVal := .node (.le NX (.lit (-1))) (.leaf (.v (.c (.s (.cst []))))) (.node (.le NX (.lit (16 ^ d - 1))) (.leaf (.v (.c (.s (hexE true d d))))) (.leaf (.v (.c (.s (.cst []))))))
noncomputable def hexT (d : Int) : WT SVal := (xCall Tryd.prog 0 plan noTab 1000 0 30 [.v (.c (.i .i64 NX)), .v (.c (.i .i64 (.lit d)))] ⟨[], []⟩).map (fun q => q.1)
theorem hexT1 : hexT 1 = hexTree 1 := by kernel_rfl
theorem hexT2 : hexT 2 = hexTree 2 := by kernel_rfl
theorem hexT4 : hexT 4 = hexTree 4 := by kernel_rfl
theorem hexL_front : ∀ (k n : Nat), hexL (k + 1) n = dig (n / 16 ^ k % 16) :: hexL k n
  | 0, n => by simp [hexL]
  | k + 1, n => by
    rw [hexL, hexL_front k (n / 16)]
    rw [show n / 16 / 16 ^ k = n / 16 ^ (k + 1) by rw [Nat.div_div_eq_div_mul, Nat.pow_succ, Nat.mul_comm]]
    simp only [hexL, List.cons_append]
theorem set_rep (m : Nat) (v : Int) (l : List Int) : (List.replicate (m + 1) 0 ++ l).set m v = List.replicate m 0 ++ v :: l := by
  induction m with
  | zero => rfl
  | succ m ih => rw [List.replicate_succ, List.cons_append, List.set_cons_succ, ih, List.replicate_succ, List.cons_append]
theorem litPow (e : Env) (i : Nat) : (IExp.lit (16 ^ i)).den e = ((16 ^ i : Nat) : Int) := by
  rw [litD]; norm_cast
theorem digE_den {e : Env} {n : Nat} (hn : NX.den e = n) (h63 : n ≤ 9223372036854775807) {t : Bool} {d i : Nat} (ht : t = true → n < 16 ^ d) : (digE t d i).den e = ((n / 16 ^ i % 16 : Nat) : Int) := by
  have hb : (if i = 0 then NX else IExp.bin .quo .i64 NX (.lit (16 ^ i))).den e = ((n / 16 ^ i : Nat) : Int) := by
    split
    · rename_i h0
      subst h0
      rw [hn]; simp
    · rw [binE, hn, litPow]
      simp only [binDen]
      rw [Int.tdiv_eq_ediv_of_nonneg (Int.natCast_nonneg _), ← Int.natCast_ediv]
      have := Nat.div_le_self n (16 ^ i)
      generalize n / 16 ^ i = q at this ⊢
      exact wrap64 (by omega) (by omega)
  unfold digE
  simp only
  split
  · rename_i hc
    have h := ht hc.1
    rw [hb, Nat.mod_eq_of_lt]
    apply Nat.div_lt_of_lt_mul
    rw [← Nat.pow_succ, show i.succ = d from hc.2]
    exact h
  · rw [binE, hb, litD]
    simp only [binDen]
    rw [Int.tmod_eq_emod_of_nonneg (Int.natCast_nonneg _)]
    norm_cast
theorem hexE_den {e : Env} {n : Nat} (hn : NX.den e = n) (h63 : n ≤ 9223372036854775807) {t : Bool} {d : Nat} (ht : t = true → n < 16 ^ d) : ∀ k, k ≤ d → (hexE t d k).den e = List.replicate (d - k) 0 ++ hexL k n
  | 0, _ => by
    simp only [hexE, AExp.den, IExp.den, hexL, List.append_nil]
    rfl
  | k + 1, hk => by
    have ih := hexE_den hn h63 ht k (by omega)
    have hd : (IExp.sel .u8 (.cst digs) (digE t d k)).den e = dig (n / 16 ^ k % 16) := by
      rw [show (IExp.sel .u8 (.cst digs) (digE t d k)).den e = digs.getD ((digE t d k).den e).toNat 0 by simp only [IExp.den, AExp.den], digE_den hn h63 ht, Int.toNat_natCast, digs_get _ (Nat.mod_lt _ (by omega))]
    rw [show (hexE t d (k + 1)).den e = ((hexE t d k).den e).set ((IExp.lit ((d - 1 - k : Nat) : Int)).den e).toNat ((IExp.sel .u8 (.cst digs) (digE t d k)).den e) by simp only [hexE, AExp.den]]
    rw [ih, hd, litD, Int.toNat_natCast, show d - k = (d - 1 - k) + 1 by omega, set_rep, hexL_front, show d - (k + 1) = d - 1 - k by omega]
theorem hex_calls {d : Nat} (hT : hexT d = hexTree d) {n : Nat} (h63 : n ≤ 9223372036854775807) (hd0 : 1 ≤ d) (hd : d ≤ 8) (hn : n < 16 ^ d) (W : World) : Calls Tryd.prog 30 #[.int .i64 n, .int .i64 d] W fun en W' => en = .returned (.string (strOf (hexL d n))) ∧ RowKit.Below W.heap.size W W' := by
  have ok := (srcI [(n : Int)]).ok
  have hb : (srcI [(n : Int)]).env.base = 0 := rfl
  have hx : (srcI [(n : Int)]).env.fx = [] := rfl
  have hN : NX.den (srcI [(n : Int)]).env = n := clip_of (k := .i64) (n := (n : Int)) (i64_in (by omega) (by omega))
  generalize (srcI [(n : Int)]).env = E at ok hb hx hN
  refine (run_call (plan := plan) (tab := noTab) (n := 1000) (G := 0) (ov := 0) (f := 30) ok mixed plan_ok LtOk.none (TabOk.none _ 0 0 _) (args := [.v (.c (.i .i64 NX)), .v (.c (.i .i64 (.lit (d : Int))))]) (vs := [.int .i64 n, .int .i64 d]) ⟨_, _, rfl, ?_, _, _, rfl, ?_, rfl⟩ (AsmOk.nil _) (HRel.none _ _ W hb hx) (noGlob []) (Nat.le_refl _) (Z := fun q => ∀ ρ V, q.1.D E ρ V → V = .string (strOf (hexL d n))) ?_).mono ?_
  · show Value.int .i64 (n : Int) = .int .i64 (NX.den E); rw [hN]
  · show Value.int .i64 (d : Int) = .int .i64 ((IExp.lit (d : Int)).den E); rw [litD]
  · refine WT.holds_of_map (f := fun q : SVal × St => q.1) (Q := fun v : SVal => ∀ ρ V, v.D E ρ V → V = .string (strOf (hexL d n))) ?_
    show (hexT d).holds E _
    have hp : ((16 ^ d : Nat) : Int) = (16 : Int) ^ d := by norm_cast
    rw [hT]
    simp only [hexTree, WT.holds, le_den, hN, litD, decide_eq_true_eq]
    rw [if_neg (by omega), if_pos (by rw [← hp]; omega)]
    intro ρ V hV
    have hV : V = .string (strOf ((hexE true d d).den E)) := hV
    rw [hV, hexE_den hN h63 (fun _ => hn) d (Nat.le_refl _), Nat.sub_self]
    rfl
  · rintro en W' ⟨v, st', ρ', V, hz, rfl, hV, ha, hbl⟩
    exact ⟨congrArg _ (hz _ _ hV), hbl⟩
end Go.Proofs.YtofphikiadiogaaDoor.Bits
