/- Hex and the reference's Hex answer alike. -/
import Derived.Test.YtkndkecbajfehaaBHex
namespace Go.Proofs.Ytkndkecbajfehaa.Bits
open Go Sy
set_option maxRecDepth 100000
set_option linter.unusedVariables false
set_option linter.unusedSimpArgs false

theorem hexL_front : ∀ (k n : Nat), hexL (k + 1) n = dig (n / 16 ^ k % 16) :: hexL k n
  | 0, n => by simp [hexL]
  | k + 1, n => by
    rw [hexL, hexL_front k (n / 16)]
    rw [show n / 16 / 16 ^ k = n / 16 ^ (k + 1) by rw [Nat.div_div_eq_div_mul, Nat.pow_succ, Nat.mul_comm]]
    simp only [hexL, List.cons_append]
theorem set_rep (m : Nat) (v : Int) (l : List Int) : (List.replicate (m + 1) 0 ++ l).set m v = List.replicate m 0 ++ v :: l := by
  induction m with
  | zero => rfl
  | succ m ih => rw [List.replicate_succ, List.cons_append, List.set_cons_succ, ih, List.replicate_succ, List.cons_append]
theorem litPow (e : Env) (i : Nat) : (IExp.lit (16 ^ i)).den e = ((16 ^ i : Nat) : Int) := by
  rw [litD]; norm_cast
theorem digE_den {e : Env} {n : Nat} (hn : N0.den e = n) (h63 : n ≤ 9223372036854775807) {t : Bool} {d i : Nat} (ht : t = true → n < 16 ^ d) : (digE t d i).den e = ((n / 16 ^ i % 16 : Nat) : Int) := by
  have hb : (if i = 0 then N0 else IExp.bin .quo .i64 N0 (.lit (16 ^ i))).den e = ((n / 16 ^ i : Nat) : Int) := by
    split
    · rename_i h0
      subst h0
      rw [hn]; simp
    · rw [binE, hn, litPow]
      simp only [binDen]
      rw [Int.tdiv_eq_ediv_of_nonneg (Int.natCast_nonneg _), ← Int.natCast_ediv]
      have := Nat.div_le_self n (16 ^ i)
      generalize n / 16 ^ i = q at this ⊢
      exact wrap64 (by omega) (by omega)
  unfold digE
  simp only
  split
  · rename_i hc
    have h := ht hc.1
    rw [hb, Nat.mod_eq_of_lt]
    apply Nat.div_lt_of_lt_mul
    rw [← Nat.pow_succ, show i.succ = d from hc.2]
    exact h
  · rw [binE, hb, litD]
    simp only [binDen]
    rw [Int.tmod_eq_emod_of_nonneg (Int.natCast_nonneg _)]
    norm_cast
theorem hexE_den {e : Env} {n : Nat} (hn : N0.den e = n) (h63 : n ≤ 9223372036854775807) {t : Bool} {d : Nat} (ht : t = true → n < 16 ^ d) : ∀ k, k ≤ d → (hexE t d k).den e = List.replicate (d - k) 0 ++ hexL k n
  | 0, _ => by
    simp only [hexE, AExp.den, IExp.den, hexL, List.append_nil]
    rfl
  | k + 1, hk => by
    have ih := hexE_den hn h63 ht k (by omega)
    have hd : (IExp.sel .u8 (.cst digs) (digE t d k)).den e = dig (n / 16 ^ k % 16) := by
      rw [show (IExp.sel .u8 (.cst digs) (digE t d k)).den e = digs.getD ((digE t d k).den e).toNat 0 by simp only [IExp.den, AExp.den], digE_den hn h63 ht, Int.toNat_natCast, digs_get _ (Nat.mod_lt _ (by omega))]
    rw [show (hexE t d (k + 1)).den e = ((hexE t d k).den e).set ((IExp.lit ((d - 1 - k : Nat) : Int)).den e).toNat ((IExp.sel .u8 (.cst digs) (digE t d k)).den e) by simp only [hexE, AExp.den]]
    rw [ih, hd, litD, Int.toNat_natCast, show d - k = (d - 1 - k) + 1 by omega, set_rep, hexL_front, show d - (k + 1) = d - 1 - k by omega]
def okHex (n : Int) (d : Int) (e : Env) (v : SVal) : Prop := ∀ ρ V, v.D e ρ V → V = .string (strOf (hexR n d))
theorem nil_ok {n d : Int} {e : Env} (h : hexR n d = []) : okHex n d e (.v (.c (.s (.cst [])))) := by
  intro ρ V hV
  have hV : V = .string (strOf ((AExp.cst []).den e)) := hV
  rw [hV, h]
  simp only [AExp.den]
theorem row_ok {n : Nat} {d : Nat} {t : Bool} {e : Env} (hn : N0.den e = n) (h63 : n ≤ 9223372036854775807) (h1 : 1 ≤ d) (h8 : d ≤ 8) (hlt : n < 16 ^ d) : okHex n d e (.v (.c (.s (hexE t d d)))) := by
  intro ρ V hV
  have hV : V = .string (strOf ((hexE t d d).den e)) := hV
  have hR : hexR n d = hexL d n := by
    unfold hexR
    have : ((16 ^ d : Nat) : Int) = (16 : Int) ^ d := by norm_cast
    rw [if_neg (by rw [Int.toNat_natCast, ← this]; omega), Int.toNat_natCast, Int.toNat_natCast]
  rw [hV, hexE_den hn h63 (fun _ => hlt) d (Nat.le_refl _), hR, Nat.sub_self]
  rfl
theorem hexR_neg {n d : Int} (h : n < 0) : hexR n d = [] := by unfold hexR; rw [if_pos (by omega)]
theorem hexR_big {n : Int} {d : Nat} (h : ((16 ^ d : Nat) : Int) ≤ n) : hexR n d = [] := by
  unfold hexR
  have : ((16 ^ d : Nat) : Int) = (16 : Int) ^ d := by norm_cast
  rw [if_pos (by rw [Int.toNat_natCast, ← this]; omega)]
theorem hexTree_ok {n : Int} {d : Nat} {e : Env} (hn : N0.den e = n) (h63 : n ≤ 9223372036854775807) (h1 : 1 ≤ d) (h8 : d ≤ 8) : (hexTree d).holds e (okHex n d e) := by
  have hp : ((16 ^ d : Nat) : Int) = (16 : Int) ^ d := by norm_cast
  simp only [hexTree, WT.holds, le_den, hn, litD, decide_eq_true_eq]
  split
  · exact nil_ok (hexR_neg (by omega))
  · obtain ⟨m, rfl⟩ := Int.eq_ofNat_of_zero_le (show 0 ≤ n by omega)
    split
    · exact row_ok hn (by omega) h1 h8 (by omega)
    · exact nil_ok (hexR_big (by omega))
theorem refTree_ok {n : Int} {d : Nat} {e : Env} (hn : N0.den e = n) (h63 : n ≤ 9223372036854775807) (h1 : 1 ≤ d) (h8 : d ≤ 8) : (refTree d).holds e (okHex n d e) := by
  simp only [refTree, WT.holds, le_den, hn, litD, decide_eq_true_eq]
  split
  · exact nil_ok (hexR_neg (by omega))
  · obtain ⟨m, rfl⟩ := Int.eq_ofNat_of_zero_le (show 0 ≤ n by omega)
    have hq : (IExp.bin .quo .i64 N0 (.lit (16 ^ d))).den e = ((m / 16 ^ d : Nat) : Int) := by
      rw [binE, hn, litPow]
      simp only [binDen]
      rw [Int.tdiv_eq_ediv_of_nonneg (Int.natCast_nonneg _), ← Int.natCast_ediv]
      have := Nat.div_le_self m (16 ^ d)
      generalize m / 16 ^ d = q at this ⊢
      exact wrap64 (by omega) (by omega)
    have hpos : 0 < 16 ^ d := Nat.pow_pos (by omega)
    rw [hq]
    split
    · rename_i h
      exact row_ok hn (by omega) h1 h8 ((Nat.div_eq_zero_iff_lt hpos).1 (Int.ofNat_eq_zero.1 (Int.le_antisymm h (Int.natCast_nonneg _))))
    · rename_i h
      refine nil_ok (hexR_big ?_)
      have h0 : ¬ m / 16 ^ d = 0 := fun h0 => h (by rw [h0]; exact Int.le_refl _)
      rw [Nat.div_eq_zero_iff_lt hpos] at h0
      omega
end Go.Proofs.Ytkndkecbajfehaa.Bits
