/- The walk and the plain law of PadLooks: for any latch, mask and byte the call returns true and writes nothing that was there. -/
import Derived.Test.YtmbpfemjikbkkaaPPadLooksx3
import Derived.Laws.BitsAllLaws
import Derived.DataShut
namespace Go.Proofs.Ytmbpfemjikbkkaa.PadLooksW
set_option linter.unusedVariables false
open Go.RowKit Go.Proofs.Ytmbpfemjikbkkaa.PPadLooks Go.Proofs.YtmbpfemjikbkkaaW.PrintWords Go.Proofs.YtmbpfemjikbkkaaW.PrintLast Go.Proofs.YtmbpfemjikbkkaaW.PrintMore

theorem awake_true (k : Nat) (h : 40 ≤ k) : vesperlaw06_awake.f k = some true := by
  obtain ⟨j, rfl⟩ : ∃ j, k = 40 + j := ⟨k - 40, by omega⟩
  have h40 : vesperlaw06_awake.f 40 = some true := by kernel_rfl
  clear h
  induction j with
  | zero => exact h40
  | succ j ih => exact vesperlaw06_awake.mono _ _ ih

/-- The keys of a mask, from i on, d of them to come. -/
def ks (a : Nat) : Nat → Nat → List Int
  | 0, _ => []
  | d + 1, i => if a / 2 ^ i % 2 = 1 then (i : Int) :: ks a d (i + 1) else ks a d (i + 1)

theorem ks_length (a d : Nat) : ∀ i, (ks a d i).length ≤ d := by
  induction d with
  | zero => intro i; simp [ks]
  | succ d ih => intro i; unfold ks; have := ih (i + 1); split <;> simp <;> omega
theorem ks_ge (a d : Nat) : ∀ i, ∀ x ∈ ks a d i, (i : Int) ≤ x := by
  induction d with
  | zero => intro i x h; simp [ks] at h
  | succ d ih =>
    intro i x h; unfold ks at h
    split at h
    · rcases List.mem_cons.mp h with rfl | h
      · omega
      · have := ih (i + 1) x h; omega
    · have := ih (i + 1) x h; omega

theorem bit_eq (a i : Nat) (ha : a < 65536) (hi : i < 16) : Go.bits .and .u16 (shr .u16 (a : Int) (i : Int)) 1 = ((a / 2 ^ i % 2 : Nat) : Int) := by
  have e : min ((i : Int)).toNat IntKind.u16.bits = i := by simp [IntKind.bits]; omega
  have es : shr .u16 (a : Int) (i : Int) = ((a / 2 ^ i : Nat) : Int) := by unfold shr; rw [e]; norm_cast
  have hlt : a / 2 ^ i < 65536 := Nat.lt_of_le_of_lt (Nat.div_le_self _ _) ha
  rw [es, show (1 : Int) = ((1 : Nat) : Int) from rfl, u16_and_nat _ _ hlt (by omega), nat_mask1]

theorem keys_from (a : Nat) (ha : a < 65536) (d : Nat) : ∀ (k i : Nat) (acc : List Int), i + d = 16 → acc.length ≤ i → d < k →
    pad_Keys.l0 k (a : Int) acc (i : Int) = some (acc ++ ks a d i) := by
  induction d with
  | zero =>
    intro k i acc hi hl hk
    obtain ⟨k, rfl⟩ : ∃ m, k = m + 1 := ⟨k - 1, by omega⟩
    simp only [pad_Keys.l0]; rw [if_neg (by omega)]; simp [ks]
  | succ d ih =>
    intro k i acc hi hl hk
    obtain ⟨k, rfl⟩ : ∃ m, k = m + 1 := ⟨k - 1, by omega⟩
    have e1 : wrap64 ((i : Int) + 1) = ((i + 1 : Nat) : Int) := by unfold wrap64; omega
    simp only [pad_Keys.l0]; rw [if_pos (by omega), if_pos (by omega), bit_eq a i ha (by omega), e1]
    by_cases c : a / 2 ^ i % 2 = 1
    · rw [if_pos (by omega), if_pos (by omega), ih k (i + 1) _ (by omega) (by simp; omega) (by omega)]
      rw [show ks a (d + 1) i = (i : Int) :: ks a d (i + 1) from by rw [ks, if_pos c]]
      simp
    · rw [if_neg (by omega), ih k (i + 1) _ (by omega) (by omega) (by omega)]
      rw [show ks a (d + 1) i = ks a d (i + 1) from by rw [ks, if_neg c]]

theorem keys_f (a : Nat) (ha : a < 65536) (k : Nat) (hk : 16 < k) : pad_Keys.f k (a : Int) = some (ks a 16 0) := by
  unfold pad_Keys.f
  have h := keys_from a ha 16 k 0 [] rfl (by simp) hk
  simpa using h

theorem rd_drop (l r : List Int) (x : Int) (n : Nat) (h : l.drop n = x :: r) : rd l (n : Int) = x := by
  have hn : n < l.length := by
    rcases Nat.lt_or_ge n l.length with h' | h'
    · exact h'
    · rw [List.drop_eq_nil_of_le h'] at h; cases h
  have : l[n]? = some x := by
    have := congrArg (fun q => q[0]?) h
    simpa using this
  unfold rd; simp [this]

theorem or_bit (m i : Nat) (hm : m < 2 ^ i) (hi : i < 16) : Go.bits .or .u16 (m : Int) (shl .u16 1 (i : Int)) = ((m + 2 ^ i : Nat) : Int) := by
  have e : min ((i : Int)).toNat IntKind.u16.bits = i := by simp [IntKind.bits]; omega
  have hp : 2 ^ i < 65536 := Nat.lt_of_lt_of_le (Nat.pow_lt_pow_right (by omega) hi) (by omega)
  have es : shl .u16 1 (i : Int) = ((2 ^ i : Nat) : Int) := by
    unfold shl; rw [e, IntKind.wrap_u16]
    have : (1 : Int) * 2 ^ i = ((2 ^ i : Nat) : Int) := by simp
    rw [this]; omega
  rw [es, u16_or_nat _ _ (by omega) hp, Nat.or_comm, nat_join i (2 ^ i) m (Nat.mod_self _) hm, Nat.add_comm]

theorem mask_from (a : Nat) (l : List Int) (hL : l.length ≤ 16) (d : Nat) : ∀ (k i n : Nat), i + d = 16 → l.drop n = ks a d i → n ≤ l.length → d < k →
    pad_Mask.l0 k ((a % 2 ^ i : Nat) : Int) l (l.length : Int) (n : Int) = some (((a % 2 ^ 16 : Nat) : Int), 0) := by
  induction d with
  | zero =>
    intro k i n hi hd hn hk
    obtain ⟨k, rfl⟩ : ∃ m, k = m + 1 := ⟨k - 1, by omega⟩
    have : l.length ≤ n := by
      have := congrArg List.length hd; simp [ks] at this; omega
    simp only [pad_Mask.l0]; rw [if_neg (by omega)]
    rw [show i = 16 from by omega]
  | succ d ih =>
    intro k i n hi hd hn hk
    by_cases c : a / 2 ^ i % 2 = 1
    · obtain ⟨k, rfl⟩ : ∃ m, k = m + 1 := ⟨k - 1, by omega⟩
      rw [show ks a (d + 1) i = (i : Int) :: ks a d (i + 1) from by rw [ks, if_pos c]] at hd
      have hlen : n < l.length := by
        have := congrArg List.length hd; simp at this; omega
      have hr := rd_drop _ _ _ _ hd
      have e1 : wrap64 ((n : Int) + 1) = ((n + 1 : Nat) : Int) := by unfold wrap64; omega
      have q1 : (n : Int) < (l.length : Int) := by omega
      have q2 : (0 : Int) ≤ (n : Int) := by omega
      have q3 : ¬ (i : Int) < 0 := by omega
      have q4 : ¬ (i : Int) ≥ 16 := by omega
      have q5 : (0 : Int) ≤ (i : Int) := by omega
      have q6 := or_bit (a % 2 ^ i) i (Nat.mod_lt _ (Nat.two_pow_pos i)) (by omega)
      have hm2 : a % 2 ^ i + 2 ^ i = a % 2 ^ (i + 1) := by rw [Nat.mod_pow_succ, c, Nat.mul_one]
      rw [hm2] at q6
      generalize hz : a % 2 ^ i = z at q6 ⊢
      clear hz hm2
      rw [pad_Mask.l0, if_pos q1, if_pos q2, if_pos q1, hr, if_neg q3, if_neg q4, if_pos q5, q6, e1]
      refine ih k (i + 1) (n + 1) (by omega) ?_ (by omega) (by omega)
      have := congrArg List.tail hd
      rw [List.tail_drop] at this
      simpa using this
    · rw [show ks a (d + 1) i = ks a d (i + 1) from by rw [ks, if_neg c]] at hd
      have hm2 : a % 2 ^ i = a % 2 ^ (i + 1) := by rw [Nat.mod_pow_succ, show a / 2 ^ i % 2 = 0 from by omega]; simp
      rw [hm2]
      exact ih k (i + 1) n (by omega) hd hn (by omega)

theorem mask_f (a : Nat) (ha : a < 65536) (k : Nat) (hk : 16 < k) : pad_Mask.f k (ks a 16 0) = some ((a : Int), 0) := by
  unfold pad_Mask.f
  have h := mask_from a (ks a 16 0) (ks_length a 16 0) 16 k 0 0 rfl (by simp) (by omega) hk
  rw [show a % 2 ^ 16 = a from Nat.mod_eq_of_lt ha] at h
  simpa [Nat.mod_one] using h

/-- A step with OUT 2 takes the byte's low four bits. -/
theorem step_out2 (k : Nat) (hk : 0 < k) (p x2 : Int) (i : Nat) (h0 : 0 ≤ x2) (h1 : x2 ≤ 255) (hi : i < 16) :
    pad_Step.f k p 0 0 true false false 0 2 false ((((16 * (Int.tmod x2 16)) % 256) + (((i : Int)) % 256)) % 256) = some (i : Int) := by
  obtain ⟨k, rfl⟩ : ∃ m, k = m + 1 := ⟨k - 1, by omega⟩
  have e : Int.tmod x2 16 = x2 % 16 := Int.tmod_eq_emod_of_nonneg h0
  rw [e]
  have hb := u8_and15 ((((16 * (x2 % 16)) % 256) + (((i : Int)) % 256)) % 256) (by omega) (by omega)
  simp only [pad_Step.f, pad_Step.j0, if_true]
  rw [hb]
  congr 1
  omega
/-- Any other step leaves a latch below 16 as it is. -/
theorem step_other (k : Nat) (hk : 0 < k) (q : Int) (r w : Bool) (port x2 : Int) (i : Nat) (hq : q = (i : Int)) (hi : i < 16) (h : port = 2 → r = false) :
    pad_Step.f k q 0 0 r w false 0 port false x2 = some q := by
  obtain ⟨k, rfl⟩ : ∃ m, k = m + 1 := ⟨k - 1, by omega⟩
  subst hq
  simp only [pad_Step.f, pad_Step.j0]
  by_cases c : port = 2
  · rw [if_pos c, h c]; simp only [Bool.false_eq_true, if_false]; rw [if_neg (by omega)]
  · rw [if_neg c]; simp only [Bool.false_eq_true, if_false]; rw [if_neg (by omega)]

theorem down_bit (a i : Nat) (ha : a < 65536) (hi : i < 16) : pad_Down.f (i : Int) (a : Int) = some (decide (a / 2 ^ i % 2 = 1)) := by
  unfold pad_Down.f
  rw [if_pos (by omega), if_pos (by omega), bit_eq a i ha hi]
  congr 1
  by_cases c : a / 2 ^ i % 2 = 1
  · simp [c]
  · have : a / 2 ^ i % 2 = 0 := by omega
    simp [this]

theorem tail_j3 (a : Nat) (ha : a < 65536) (k i : Nat) (hi : i < 16) (x2 p : Int) (l : List Int) (n : Int) (b : Bool) (hb : b = decide (a / 2 ^ i % 2 = 1))
    (hl : vesperlaw06_PadLooks.l0 (k + 1) (a : Int) x2 l n ((i + 1 : Nat) : Int) p = some true) :
    vesperlaw06_PadLooks.j3 (k + 3) (a : Int) x2 l n (i : Int) b p (i : Int) = some true := by
  have ew : wrap64 (i : Int) = (i : Int) := by unfold wrap64; omega
  have e1 : wrap64 ((i : Int) + 1) = ((i + 1 : Nat) : Int) := by unfold wrap64; omega
  rw [vesperlaw06_PadLooks.j3, ew, if_pos rfl, down_bit a i ha hi]
  simp only [Option.bind_some]
  rw [← hb]
  rw [vesperlaw06_PadLooks.j4]
  simp only [bne_self_eq_false, Bool.false_eq_true, if_false]
  rw [step_other (k + 1) (by omega) (i : Int) false true 2 x2 i rfl hi (fun _ => rfl)]
  simp only [Option.bind_some, beq_self_eq_true, Bool.not_true, Bool.false_eq_true, if_false]
  rw [step_other (k + 1) (by omega) (i : Int) true false 3 x2 i rfl hi (fun h => absurd h (by omega))]
  simp only [Option.bind_some, beq_self_eq_true, Bool.not_true, Bool.false_eq_true, if_false]
  rw [e1]; exact hl

theorem looks_from (a : Nat) (ha : a < 65536) (x2 p : Int) (h0 : 0 ≤ x2) (h1 : x2 ≤ 255) (l : List Int) (hL : l.length ≤ 16) (d : Nat) :
    ∀ (k i n : Nat), i + d = 16 → l.drop n = ks a d i → n ≤ l.length → 4 * d + 60 ≤ k →
    vesperlaw06_PadLooks.l0 k (a : Int) x2 l (n : Int) (i : Int) p = some true := by
  induction d with
  | zero =>
    intro k i n hi hd hn hk
    obtain ⟨k, rfl⟩ : ∃ m, k = m + 1 := ⟨k - 1, by omega⟩
    have : l.length ≤ n := by
      have := congrArg List.length hd; simp [ks] at this; omega
    rw [vesperlaw06_PadLooks.l0, if_neg (by omega), if_pos (by omega), awake_true k (by omega)]; rfl
  | succ d ih =>
    intro k i n hi hd hn hk
    obtain ⟨k, rfl⟩ : ∃ m, k = m + 1 + 3 + 1 := ⟨k - 5, by omega⟩
    have q1 : (i : Int) < 16 := by omega
    have q2 : (0 : Int) ≤ (n : Int) := by omega
    have e1 : wrap64 ((n : Int) + 1) = ((n + 1 : Nat) : Int) := by unfold wrap64; omega
    rw [vesperlaw06_PadLooks.l0, if_pos q1, step_out2 _ (by omega) p x2 i h0 h1 (by omega)]
    simp only [Option.bind_some]
    by_cases c : a / 2 ^ i % 2 = 1
    · rw [show ks a (d + 1) i = (i : Int) :: ks a d (i + 1) from by rw [ks, if_pos c]] at hd
      have hlen : n < l.length := by
        have := congrArg List.length hd; simp at this; omega
      have hr := rd_drop _ _ _ _ hd
      rw [if_pos (by omega), if_pos q2, hr, vesperlaw06_PadLooks.j2]
      simp only [beq_self_eq_true, if_true]
      rw [e1]
      refine tail_j3 a ha k i (by omega) x2 p l _ true (by simp [c]) ?_
      refine ih (k + 1) (i + 1) (n + 1) (by omega) ?_ (by omega) (by omega)
      have := congrArg List.tail hd
      rw [List.tail_drop] at this
      simpa using this
    · rw [show ks a (d + 1) i = ks a d (i + 1) from by rw [ks, if_neg c]] at hd
      have hj : ∀ b : Bool, b = false → vesperlaw06_PadLooks.j2 (k + 1 + 3) (a : Int) x2 l (n : Int) (i : Int) b p (i : Int) = some true := by
        intro b hb; subst hb
        rw [vesperlaw06_PadLooks.j2]
        simp only [Bool.false_eq_true, if_false]
        refine tail_j3 a ha k i (by omega) x2 p l _ false (by simp [c]) ?_
        exact ih (k + 1) (i + 1) n (by omega) hd hn (by omega)
      by_cases cn : (n : Int) < (l.length : Int)
      · rw [if_pos cn, if_pos q2]
        refine hj _ ?_
        have hne : ∀ x ∈ l.drop n, (i : Int) < x := by
          intro x hx; rw [hd] at hx
          have := ks_ge a d (i + 1) x hx; omega
        have hx : rd l (n : Int) ∈ l.drop n := by
          unfold rd
          have hn' : n < l.length := by omega
          have e2 : l[((n : Int)).toNat]?.getD 0 = l[n] := by simp [hn']
          first
            | (rw [e2, List.drop_eq_getElem_cons hn']; exact List.mem_cons_self)
            | (simp [hn']; rw [List.drop_eq_getElem_cons hn']; exact List.mem_cons_self)
        have := hne _ hx
        simp; omega
      · rw [if_neg cn]; exact hj false rfl

theorem pure_law (a : Nat) (ha : a < 65536) (p x2 : Int) (h0 : 0 ≤ x2) (h1 : x2 ≤ 255) : vesperlaw06_PadLooks.f 300 p (a : Int) x2 = some true := by
  unfold vesperlaw06_PadLooks.f
  rw [keys_f a ha 300 (by omega)]; simp only [Option.bind_some]
  rw [mask_f a ha 300 (by omega)]; simp only [Option.bind_some, if_true]
  rw [show (300 : Nat) = 299 + 1 from rfl, vesperlaw06_PadLooks.j0]
  simp only [bne_self_eq_false, Bool.false_eq_true, if_false]
  exact looks_from a ha x2 p h0 h1 _ (ks_length a 16 0) 16 299 0 0 rfl (by simp) (by omega) (by omega)

theorem walk (p : Int) (g : IntKind.u8.min ≤ p ∧ p ≤ IntKind.u8.max) (a1 : Int) (h : IntKind.u16.min ≤ a1 ∧ a1 ≤ IntKind.u16.max) (x2 : Int) (h2 : IntKind.u8.min ≤ x2 ∧ x2 ≤ IntKind.u8.max) (w : World) :
    Calls Try.prog 8 #[.agg #[.int .u8 p], .int .u16 a1, .int .u8 x2] w fun e w' => e = .returned (.bool true) ∧ Below w.heap.size w w' := by
  have _ := g
  rw [IntKind.min_u8, IntKind.max_u8] at h2
  rw [IntKind.min_u16, IntKind.max_u16] at h
  obtain ⟨a, rfl⟩ : ∃ a : Nat, a1 = (a : Int) := ⟨a1.toNat, by omega⟩
  exact vesperlaw06_PadLooks.calls 300 p a x2 true w (pure_law a (by omega) p x2 h2.1 h2.2)
end Go.Proofs.Ytmbpfemjikbkkaa.PadLooksW
