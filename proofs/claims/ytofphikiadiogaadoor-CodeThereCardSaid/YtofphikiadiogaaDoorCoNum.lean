/- Number and Print by letters. -/
import Derived.Test.YtofphikiadiogaaDoorKFn2
import Derived.Test.YtofphikiadiogaaDoorBtCalls
import Derived.Test.YtofphikiadiogaaDoorCoFirst
namespace Go.Proofs.YtofphikiadiogaaDoor.K
open Go Sy
set_option maxRecDepth 100000
set_option linter.unusedVariables false
set_option linter.unusedSimpArgs false
theorem numF_range : ∀ {l : List Int} {p : Nat} {n m : Int}, Bits.numF l n = some m → 0 ≤ n → n < 16 ^ p → 0 ≤ m ∧ m < 16 ^ (p + l.length)
  | [], p, n, m, h, h0, h1 => by
    simp only [Bits.numF, Option.some.injEq] at h
    subst h; exact ⟨h0, h1⟩
  | c :: r, p, n, m, h, h0, h1 => by
    have hs16 : (16 : Int) ^ (p + 1) = 16 ^ p * 16 := Int.pow_succ _ _
    simp only [Bits.numF] at h
    rw [List.length_cons, show p + (r.length + 1) = p + 1 + r.length by omega]
    split at h
    · exact numF_range h (by omega) (by omega)
    · split at h
      · exact numF_range h (by omega) (by omega)
      · cases h
theorem numR_in (l : List Int) : In .i64 (Bits.numR l).1 ∧ In .i64 (Bits.numR l).2 := by
  unfold Bits.numR
  split
  · exact ⟨i64_in (by omega) (by omega), i64_in (by omega) (by omega)⟩
  · rename_i hl
    split
    · rename_i n hn
      obtain ⟨h0, h1⟩ := numF_range (p := 0) hn (by omega) (by omega)
      have h16 : (16 : Int) ^ (0 + l.length) ≤ 16 ^ 8 := by exact_mod_cast Nat.pow_le_pow_right (show 0 < 16 by omega) (show 0 + l.length ≤ 8 by omega)
      have h168 : (16 : Int) ^ 8 = 4294967296 := by decide
      exact ⟨i64_in (by simp only; omega) (by simp only; omega), i64_in (by simp only; omega) (by simp only; omega)⟩
    · exact ⟨i64_in (by omega) (by omega), i64_in (by omega) (by omega)⟩
def numPs : List Sh := [.c .s]
def numRs : List Sh := [.c (.i .i64), .c (.i .i64)]
def numFn : List LV → List LV
  | [.a l] => [.i (Bits.numR l).1, .i (Bits.numR l).2]
  | _ => []
def numSpec : FnSpec 28 numPs numRs (fun _ => True) where
  F := numFn
  calls := fun W _ lv hlv => by
    rcases lv with _ | ⟨x, _ | ⟨y, r⟩⟩
    · exact hlv.elim
    · cases x with
      | a l =>
        obtain ⟨⟨h1, h2⟩, _⟩ := hlv
        have hi : ints (strOf l) = l := ints_strOf h1
        have htop : lenTop = 9223372036854775807 := rfl
        have hs : ((strOf l).size : Int) ≤ IntKind.i64.max := by rw [strOf_size]; simp only [IntKind.max_i64]; omega
        refine (Bits.num_calls hs W).mono ?_
        rintro en W' ⟨rfl, hb⟩
        rw [hi]
        exact ⟨rfl, ⟨(numR_in l).1, (numR_in l).2, trivial⟩, hb⟩
      | b _ => exact hlv.1.elim
      | i _ => exact hlv.1.elim
    · exact hlv.2.elim
def tabNm : Tab := fun ro f args st => match tabName 21 ro f args st with
  | some x => some x
  | none => tabFirst 23 ro f args st
def prPs : List Sh := [.agg [.s, .i .i64]]
def prRs : List Sh := [.c .s, .c (.i .i64)]
noncomputable def prT : WT (SVal × St) := fnTree 1000 16 7 tabNm (gS true true) prPs
end Go.Proofs.YtofphikiadiogaaDoor.K
