/- What a call of the reference's Number answers; the contract of both; the program is awake. -/
import Derived.Test.YtkndkecbajfehaaBRef
namespace Go.Proofs.Ytkndkecbajfehaa.Bits
open Go Sy
set_option maxRecDepth 100000
set_option linter.unusedVariables false
set_option linter.unusedSimpArgs false

theorem ref16 : ∃ fn, Try.prog.funcs[16]? = some fn ∧ fn.body = some (body 16) ∧ fn.results = #[.tmp 2, .tmp 3] ∧ fn.ntmps = 52 := fn_of (by kernel_rfl)
theorem ref_calls {s : ByteArray} (hs : (s.size : Int) ≤ IntKind.i64.max) (W : World) : Calls Try.prog 16 #[.string s] W (numPost s W) := by
  have hlen : (ints s).length = s.size := by unfold ints; rw [List.length_map, Array.length_toList]; rfl
  obtain ⟨fn, hf, hb, hr, hk⟩ := ref16
  refine calls_of_wp hf hb ?_
  rw [ref_body]
  have ok := (srcR (ints s) 0 0).ok
  have ea := refs_at (n := 0) (i := 0) hs
  generalize hE : (srcR (ints s) 0 0).env = E at ok ea
  have eS : ∀ ρ, (SVal.v (.c (.s (.var .u8 0)))).D E ρ (.string s) := fun ρ => by
    show Value.string s = .string (strOf (E.a .u8 0))
    rw [ea, strOf_ints]
  have fin : ∀ (a : Act) (W' : World), a.defers = [] → a.tmps.toList.getD 2 undef = .int .i64 (numR (ints s)).1 → a.tmps.toList.getD 3 undef = .int .i64 (numR (ints s)).2 → RowKit.Below W.heap.size W W' → bodyPost Try.prog fn (numPost s W) .ret a W' :=
    fun a W' hd h2 h3 hbl => ⟨hd, _, results_two hr a.tmps W', by rw [h2, h3]; exact ⟨rfl, hbl⟩⟩
  refine wp_seq ?_
  refine pieceL ok refA (by kernel_rfl) (Qs := fun q => q = (.normal, [strV, intV (.lit 0), intV (.lit 0)], 52)) (by simp only [WT.holds]) (by simp [hk]) ?_ rfl (AsmOk.nil _) ?_
  · intro q hq
    simp only [rowR, List.mem_cons, List.not_mem_nil, or_false] at hq
    subst hq
    exact (str_at s _).symm ▸ eS []
  rintro ex l k hq a1 W1 hd1 hn1 hsl1 hb1
  simp only [Prod.mk.injEq] at hq
  obtain ⟨rfl, rfl, rfl⟩ := hq
  obtain ⟨_, hA0⟩ := hsl1 0 0 _ rfl rfl
  simp only [XE.to, Exit.then]
  refine wp_seq ?_
  refine pieceL ok refB (by kernel_rfl) (Qs := fun q => (q.1 = .ret ∧ q.2.1[1]? = some (intV (.lit 0)) ∧ q.2.1[2]? = some (intV (.lit 1)) ∧ ((ints s).length = 0 ∨ 8 < (ints s).length)) ∨
    (q = (.normal, [strV, .any, .any], 52) ∧ 0 < (ints s).length ∧ (ints s).length ≤ 8)) ?_ hn1 ?_ hd1 (AsmOk.nil _) ?_
  · simp only [WT.holds, BExp.den, IExp.den, AExp.den, ea, decide_eq_true_eq]
    split
    · exact .inl ⟨by simp, by simp, by simp, .inl (by omega)⟩
    · split
      · exact .inr ⟨by simp, by omega, by omega⟩
      · exact .inl ⟨by simp, by simp, by simp, .inr (by omega)⟩
  · intro q hq
    simp only [rowR, List.mem_cons, List.not_mem_nil, or_false] at hq
    subst hq
    exact hA0
  rintro ex l k hq a2 W2 hd2 hn2 hsl2 hb2
  have hb12 := below_trans hb1 rfl hb2
  rcases hq with ⟨hex, h1, h2, hL⟩ | ⟨hq, hL0, hL8⟩
  · simp only at hex h1 h2
    subst hex
    obtain ⟨_, hB2⟩ := hsl2 1 2 _ rfl h1
    obtain ⟨_, hB3⟩ := hsl2 2 3 _ rfl h2
    refine fin a2 W2 hd2 ?_ ?_ hb12
    · rw [show numR (ints s) = (0, 1) from if_pos hL]; exact hB2
    · rw [show numR (ints s) = (0, 1) from if_pos hL]; exact hB3
  simp only [Prod.mk.injEq] at hq
  obtain ⟨rfl, rfl, rfl⟩ := hq
  obtain ⟨_, hB0⟩ := hsl2 0 0 _ rfl rfl
  simp only [XE.to, Exit.then]
  refine wp_seq ?_
  refine pieceL ok refC (by kernel_rfl) (Qs := fun q => q = (.normal, [strV, intV (.lit 0)], 52)) (by simp only [WT.holds]) hn2 ?_ hd2 (AsmOk.nil _) ?_
  · intro q hq
    simp only [rowR, List.mem_cons, List.not_mem_nil, or_false] at hq
    subst hq
    exact hB0
  rintro ex l k hq a3 W3 hd3 hn3 hsl3 hb3
  have hb13 := below_trans hb12 rfl hb3
  simp only [Prod.mk.injEq] at hq
  obtain ⟨rfl, rfl, rfl⟩ := hq
  obtain ⟨_, hC0⟩ := hsl3 0 0 _ rfl rfl
  obtain ⟨_, hC4⟩ := hsl3 1 4 _ rfl rfl
  simp only [XE.to, Exit.then]
  refine wp_seq ?_
  refine wp_seq ?_
  refine pieceL ok refC2 (by kernel_rfl) (Qs := fun q => q = (.normal, [strV, intV (.lit 0), intV (.lit 0)], 52)) (by simp only [WT.holds]) hn3 ?_ hd3 (AsmOk.nil _) ?_
  · intro q hq
    simp only [rowR, List.mem_cons, List.not_mem_nil, or_false] at hq
    rcases hq with rfl | rfl
    · exact hC0
    · exact hC4
  rintro ex l k hq a4 W4 hd4 hn4 hsl4 hb4
  have hb14 := below_trans hb13 rfl hb4
  simp only [Prod.mk.injEq] at hq
  obtain ⟨rfl, rfl, rfl⟩ := hq
  obtain ⟨_, hD0⟩ := hsl4 0 0 _ rfl rfl
  obtain ⟨_, hD4⟩ := hsl4 1 4 _ rfl rfl
  obtain ⟨_, hD5⟩ := hsl4 2 5 _ rfl rfl
  have hD0 : a4.tmps.toList.getD 0 undef = .string (strOf (E.a .u8 0)) := hD0
  simp only [XE.to, Exit.then]
  refine wp_block (wp_loop_rounds (s.size + 1) ?_)
  refine ref_rounds s (by omega) W4 _ ?_ ?_ s.size 0 0 _ _ ⟨rfl, rfl, rfl, Nat.le_refl _, fun k _ => rfl⟩ (by omega) (by omega) (by omega) (by rw [List.drop_zero]) ⟨hn4, hd4, by rw [hD0, ea, strOf_ints], hD4, hD5⟩
  · intro n a w hw hF h0 h1 hsz hdf ht4
    simp only [Exit.inBlock, Exit.then]
    have oks := (srcR (ints s) n 0).ok
    have e4 : (srcR (ints s) n 0).env.i .i64 0 = n := clip_of (k := .i64) (n := n) (in64 (by omega) (by omega))
    refine pieceL oks refD (by kernel_rfl) (Qs := fun q => q = (.ret, [intV (.var .i64 0), intV (.lit 0)], 52)) (by simp only [WT.holds]) hsz ?_ hdf (AsmOk.nil _) ?_
    · intro q hq
      simp only [List.mem_cons, List.not_mem_nil, or_false] at hq
      subst hq
      show a.tmps.toList.getD 4 undef = .int .i64 ((srcR (ints s) n 0).env.i .i64 0)
      rw [e4]; exact ht4
    rintro ex l k hq a5 W5 hd5 hn5 hsl5 hb5
    simp only [Prod.mk.injEq] at hq
    obtain ⟨rfl, rfl, rfl⟩ := hq
    obtain ⟨_, h2⟩ := hsl5 0 2 _ rfl rfl
    obtain ⟨_, h3⟩ := hsl5 1 3 _ rfl rfl
    have hR : numR (ints s) = (n, 0) := by
      unfold numR
      rw [if_neg (by omega), hF]
    refine fin a5 W5 hd5 ?_ ?_ (below_trans (below_trans hb14 rfl hw) rfl hb5)
    · have h : a5.tmps.toList.getD 2 undef = .int .i64 ((srcR (ints s) n 0).env.i .i64 0) := h2
      rw [h, e4, hR]
    · rw [hR]; exact h3
  · intro a w hw hF hd h2 h3
    have hR : numR (ints s) = (0, 1) := by
      unfold numR
      rw [if_neg (by omega), hF]
    simp only [Exit.inBlock, Exit.then]
    refine fin a w hd ?_ ?_ (below_trans hb14 rfl hw)
    · rw [hR]; exact h2
    · rw [hR]; exact h3
end Go.Proofs.Ytkndkecbajfehaa.Bits
