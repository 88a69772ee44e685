/- The walk and the plain law of PadDowns: for any latch byte and any mask the call returns true and writes nothing that was there. -/
import Derived.Test.YtmbpfemjikbkkaaPPadDownsx2
import Derived.Laws.BitsAllLaws
import Derived.DataShut
namespace Go.Proofs.Ytmbpfemjikbkkaa.PadDownsW
open Go.RowKit Go.Proofs.Ytmbpfemjikbkkaa.PPadDowns Go.Proofs.YtmbpfemjikbkkaaW.PrintWords Go.Proofs.YtmbpfemjikbkkaaW.PrintLast Go.Proofs.YtmbpfemjikbkkaaW.PrintMore

theorem and1 (x : Int) (h0 : 0 ≤ x) (h1 : x < 65536) : Go.bits .and .u16 x 1 = x % 2 := by
  have h := u16_and x 1 h0 h1 (by omega) (by omega)
  rw [h]
  have e : (1 : Int).toNat = 1 := rfl
  rw [e, nat_mask1]; omega

theorem bit_tells (d : Nat) : ∀ (k : Nat) (K n i : Int), 0 ≤ n → n < 65536 → 0 ≤ i → K ≤ 255 → K - i = d → d < k →
    vesperref06_bit.l0 k K n i = some ((n / 2 ^ d) % 2 == 1) := by
  induction d with
  | zero =>
    intro k K n i hn hn2 hi hK hd hk
    obtain ⟨k, rfl⟩ : ∃ m, k = m + 1 := ⟨k - 1, by omega⟩
    simp only [vesperref06_bit.l0]; rw [if_neg (by omega)]
    rw [Int.tmod_eq_emod_of_nonneg hn]; simp
  | succ d ih =>
    intro k K n i hn hn2 hi hK hd hk
    obtain ⟨k, rfl⟩ : ∃ m, k = m + 1 := ⟨k - 1, by omega⟩
    simp only [vesperref06_bit.l0]; rw [if_pos (by omega)]
    have e1 : wrap64 (i + 1) = i + 1 := by unfold wrap64; omega
    have e2 : wrap64 (Int.tdiv n 2) = n / 2 := by
      rw [Int.tdiv_eq_ediv_of_nonneg hn]; unfold wrap64; omega
    rw [e1, e2, ih k K (n / 2) (i + 1) (by omega) (by omega) (by omega) hK (by omega) (by omega)]
    rw [Int.pow_succ', Int.ediv_ediv_of_nonneg (by omega)]

theorem bit_f (k : Nat) (a1 K : Int) (h0 : 0 ≤ a1) (h1 : a1 < 65536) (hK0 : 0 ≤ K) (hK : K ≤ 255) (hk : K.toNat < k) :
    vesperref06_bit.f k a1 K = some ((a1 / 2 ^ K.toNat) % 2 == 1) := by
  unfold vesperref06_bit.f
  have e : wrap64 a1 = a1 := by unfold wrap64; omega
  rw [e]
  exact bit_tells K.toNat k K a1 0 h0 h1 (by omega) hK (by omega) hk

theorem awake_true : vesperlaw06_awake.f 300 = some true := by kernel_rfl

theorem shr_u16 (a1 a0 : Int) (h0 : 0 ≤ a1) (h1 : a1 < 65536) (hi : a0.toNat ≤ 16) : 0 ≤ shr .u16 a1 a0 ∧ shr .u16 a1 a0 < 65536 ∧ shr .u16 a1 a0 = a1 / 2 ^ a0.toNat := by
  have e : min a0.toNat IntKind.u16.bits = a0.toNat := by simp [IntKind.bits]; omega
  have hp : (0 : Int) < 2 ^ a0.toNat := by exact_mod_cast Nat.two_pow_pos _
  unfold shr; rw [e]
  refine ⟨Int.ediv_nonneg h0 (by omega), ?_, rfl⟩
  exact Int.lt_of_le_of_lt (Int.ediv_le_self _ h0) h1

theorem down_eq (k : Nat) (a0 a1 : Int) (g0 : 0 ≤ a0) (g1 : a0 ≤ 255) (h0 : 0 ≤ a1) (h1 : a1 < 65536) (hk : 255 < k) :
    ∃ b, pad_Down.f a0 a1 = some b ∧ vesperref06_Down.f k a0 a1 = some b := by
  have e : wrap64 a0 = a0 := by unfold wrap64; omega
  unfold pad_Down.f vesperref06_Down.f
  rw [e, bit_f k a1 a0 h0 h1 g0 g1 (by omega)]
  simp only [Option.bind_some]
  by_cases c : a0 < 16
  · obtain ⟨s0, s1, s2⟩ := shr_u16 a1 a0 h0 h1 (by omega)
    rw [if_pos c, if_pos g0, if_pos (by omega), and1 _ s0 s1, s2]
    exact ⟨_, rfl, rfl⟩
  · rw [if_neg c, if_neg (by omega)]
    exact ⟨_, rfl, rfl⟩

theorem pure_law (a0 a1 : Int) (g0 : 0 ≤ a0) (g1 : a0 ≤ 255) (h0 : 0 ≤ a1) (h1 : a1 < 65536) : vesperlaw06_PadDowns.f 300 a0 a1 = some true := by
  obtain ⟨b, e1, e2⟩ := down_eq 300 a0 a1 g0 g1 h0 h1 (by omega)
  unfold vesperlaw06_PadDowns.f
  rw [e1, e2]; simp only [Option.bind_some]
  rw [awake_true]; simp

theorem walk (a0 : Int) (g : IntKind.u8.min ≤ a0 ∧ a0 ≤ IntKind.u8.max) (a1 : Int) (h : IntKind.u16.min ≤ a1 ∧ a1 ≤ IntKind.u16.max) (w : World) :
    Calls Try.prog 5 #[.agg #[.int .u8 a0], .int .u16 a1] w fun e w' => e = .returned (.bool true) ∧ Below w.heap.size w w' := by
  rw [IntKind.min_u8, IntKind.max_u8] at g
  rw [IntKind.min_u16, IntKind.max_u16] at h
  exact vesperlaw06_PadDowns.calls 300 a0 a1 true w (pure_law a0 a1 g.1 g.2 h.1 (by omega))
end Go.Proofs.Ytmbpfemjikbkkaa.PadDownsW
