/- A number as digits and back: plain. -/
import Derived.Test.YtofphikiadiogaaDoorBtNum
namespace Go.Proofs.YtofphikiadiogaaDoor.Bits
open Go Sy
set_option linter.unusedVariables false
set_option linter.unusedSimpArgs false

def dig (x : Nat) : Int := if x < 10 then 48 + x else 87 + x
def digs : List Int := [48, 49, 50, 51, 52, 53, 54, 55, 56, 57, 97, 98, 99, 100, 101, 102]
def hexL : Nat → Nat → List Int
  | 0, _ => []
  | d + 1, n => hexL d (n / 16) ++ [dig (n % 16)]
/-- What Hex answers. -/
def hexR (n d : Int) : List Int := if d < 1 ∨ 8 < d ∨ n < 0 ∨ (16 : Int) ^ d.toNat ≤ n then [] else hexL d.toNat n.toNat
theorem hexL_length : ∀ (d n : Nat), (hexL d n).length = d
  | 0, _ => rfl
  | d + 1, n => by simp only [hexL, List.length_append, List.length_cons, List.length_nil, hexL_length d]
theorem numF_append : ∀ (l : List Int) (c n : Int), numF (l ++ [c]) n = (numF l n).bind (numF [c])
  | [], c, n => rfl
  | x :: l, c, n => by
    simp only [List.cons_append, numF]
    split
    · exact numF_append l c _
    · split
      · exact numF_append l c _
      · rfl
theorem numF_dig {x : Nat} (hx : x < 16) (n : Int) : numF [dig x] n = some (16 * n + x) := by
  unfold dig
  split
  · simp only [numF]
    rw [if_pos (by omega)]
    congr 1; omega
  · simp only [numF]
    rw [if_neg (by omega), if_pos (by omega)]
    congr 1; omega
theorem numF_hexL : ∀ (d n : Nat), numF (hexL d n) 0 = some ((n % 16 ^ d : Nat) : Int)
  | 0, n => by simp [hexL, numF, Nat.mod_one]
  | d + 1, n => by
    rw [hexL, numF_append, numF_hexL d (n / 16), Option.bind_some, numF_dig (Nat.mod_lt _ (by omega))]
    congr 1
    have h : n % 16 ^ (d + 1) = n % 16 + 16 * (n / 16 % 16 ^ d) := by
      rw [Nat.pow_succ, Nat.mul_comm, Nat.mod_mul]
    rw [h]
    omega
theorem back : ∀ (d : Nat) (l : List Int) (n m : Nat), l.length = d → numF l n = some (m : Int) → hexL d m = l
  | 0, l, n, m, hl, h => by
    have := List.eq_nil_of_length_eq_zero hl
    subst this; rfl
  | d + 1, l, n, m, hl, h => by
    obtain ⟨l', c, rfl⟩ : ∃ l' c, l = l' ++ [c] := ⟨l.dropLast, l.getLast (by intro h0; rw [h0] at hl; cases hl), (List.dropLast_concat_getLast _).symm⟩
    have hl' : l'.length = d := by simpa using hl
    rw [numF_append] at h
    cases hq : numF l' n with
    | none => rw [hq] at h; cases h
    | some q =>
      rw [hq, Option.bind_some] at h
      have hq0 : 0 ≤ q := by
        have : ∀ (l : List Int) (a b : Int), 0 ≤ a → numF l a = some b → 0 ≤ b := by
          intro l
          induction l with
          | nil => intro a b h0 h; cases h; exact h0
          | cons x l ih =>
            intro a b h0 h
            simp only [numF] at h
            split at h
            · exact ih _ _ (by omega) h
            · split at h
              · exact ih _ _ (by omega) h
              · cases h
        exact this l' n q (by omega) hq
      obtain ⟨p, rfl⟩ := Int.eq_ofNat_of_zero_le hq0
      have hb := back d l' n p hl' hq
      simp only [numF] at h
      rw [hexL]
      split at h
      · rename_i hc
        have h := Option.some.inj h
        have e1 : m / 16 = p := by omega
        have e2 : dig (m % 16) = c := by unfold dig; rw [if_pos (by omega)]; omega
        rw [e1, e2, hb]
      · split at h
        · rename_i h9 hc
          have h := Option.some.inj h
          have e1 : m / 16 = p := by omega
          have e2 : dig (m % 16) = c := by unfold dig; rw [if_neg (by omega)]; omega
          rw [e1, e2, hb]
        · cases h
theorem numR_hexR {n d : Int} (h : hexR n d ≠ []) : numR (hexR n d) = (n, 0) ∧ ((hexR n d).length : Int) = d := by
  unfold hexR at h ⊢
  split at h
  · exact absurd rfl h
  · rename_i hc
    rw [if_neg hc]
    have hl := hexL_length d.toNat n.toNat
    refine ⟨?_, by rw [hl]; omega⟩
    unfold numR
    rw [if_neg (by rw [hl]; omega), numF_hexL]
    have hlt : n.toNat < 16 ^ d.toNat := by
      have h1 : n < (16 : Int) ^ d.toNat := by omega
      have h2 : ((16 ^ d.toNat : Nat) : Int) = (16 : Int) ^ d.toNat := by norm_cast
      omega
    rw [Nat.mod_eq_of_lt hlt]
    simp only [Prod.mk.injEq, and_true]
    omega
end Go.Proofs.YtofphikiadiogaaDoor.Bits
