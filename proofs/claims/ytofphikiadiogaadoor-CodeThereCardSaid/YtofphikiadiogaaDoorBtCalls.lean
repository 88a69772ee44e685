/- What a call of Number answers. -/
import Derived.Test.YtofphikiadiogaaDoorBtNum
namespace Go.Proofs.YtofphikiadiogaaDoor.Bits
open Go Sy
set_option maxRecDepth 100000
set_option linter.unusedVariables false
set_option linter.unusedSimpArgs false

theorem numF_none_of : True := trivial
theorem below_trans {n : Nat} {W W1 W2 : World} (h : RowKit.Below n W W1) (hn : n = W.heap.size) (k : RowKit.Below W1.heap.size W1 W2) : RowKit.Below n W W2 := by
  subst hn
  exact ⟨k.os.trans h.os, k.tape.trans h.tape, k.output.trans h.output, Nat.le_trans h.size k.size, fun q hq => by rw [k.block q (Nat.lt_of_lt_of_le hq h.size)]; exact h.block q hq⟩
theorem numbers_at {s : ByteArray} {v : Int} (hs : (s.size : Int) ≤ IntKind.i64.max) : (srcS (ints s) v).env.a .u8 0 = ints s := by
  have hl : (ints s).length = s.size := by unfold ints; rw [List.length_map, Array.length_toList]; rfl
  exact clipL_of (ints_in s) (by show ((ints s).length : Int) ≤ lenTop; rw [hl]; simpa only [IntKind.max_i64, lenTop] using hs)
theorem str_at (s : ByteArray) (k : Nat) : (#[Value.string s] ++ Array.replicate k undef).toList.getD 0 undef = .string s := by simp
theorem num15 : ∃ fn, Tryd.prog.funcs[28]? = some fn ∧ fn.body = some (body 28) ∧ fn.results = #[.tmp 2, .tmp 3] ∧ fn.ntmps = 48 := fn_of (by kernel_rfl)

theorem iter_reads (W : World) (s : ByteArray) : Reads W s W.heap.size 0 (W.iter s 0) := by
  refine ⟨World.iter_heap W s 0, Nat.le_refl _, ⟨rfl, rfl, rfl, ?_, fun k hk => ?_⟩⟩
  · show W.heap.size ≤ (W.heap.push _).size
    rw [Array.size_push]; omega
  · show (W.heap.push _)[k]? = _
    rw [Array.getElem?_push_lt hk, Array.getElem?_eq_getElem hk]
def numPost (s : ByteArray) (W : World) (en : Ending) (W' : World) : Prop := en = .returned (.tuple #[.int .i64 (numR (ints s)).1, .int .i64 (numR (ints s)).2]) ∧ RowKit.Below W.heap.size W W'
theorem num_calls {s : ByteArray} (hs : (s.size : Int) ≤ IntKind.i64.max) (W : World) : Calls Tryd.prog 28 #[.string s] W (numPost s W) := by
  have hlen : (ints s).length = s.size := by unfold ints; rw [List.length_map, Array.length_toList]; rfl
  obtain ⟨fn, hf, hb, hr, hk⟩ := num15
  refine calls_of_wp hf hb ?_
  rw [num_body]
  have ok := (srcS (ints s) 0).ok
  have ea := numbers_at (v := 0) hs
  generalize hE : (srcS (ints s) 0).env = E at ok ea
  have eS : ∀ ρ, (SVal.v (.c (.s (.var .u8 0)))).D E ρ (.string s) := fun ρ => by
    show Value.string s = .string (strOf (E.a .u8 0))
    rw [ea, strOf_ints]
  have fin : ∀ (a : Act) (W' : World), a.defers = [] → a.tmps.toList.getD 2 undef = .int .i64 (numR (ints s)).1 → a.tmps.toList.getD 3 undef = .int .i64 (numR (ints s)).2 → RowKit.Below W.heap.size W W' → bodyPost Tryd.prog fn (numPost s W) .ret a W' :=
    fun a W' hd h2 h3 hbl => ⟨hd, _, results_two hr a.tmps W', by rw [h2, h3]; exact ⟨rfl, hbl⟩⟩
  -- the first words
  refine wp_seq ?_
  refine pieceL ok numA (by kernel_rfl) (Qs := fun q => q = (.normal, [.v (.c (.s (.var .u8 0))), .v (.c (.i .i64 (.lit 0))), .v (.c (.i .i64 (.lit 0)))], 48)) (by simp only [WT.holds]) (k := 48) (l := [(0, .v (.c (.s (.var .u8 0))))]) ?_ ?_ rfl (AsmOk.nil _) ?_
  · simp [hk]
  · intro q hq
    simp only [List.mem_cons, List.not_mem_nil, or_false] at hq
    subst hq
    exact (str_at s _).symm ▸ eS []
  rintro ex l k hq a1 W1 hd1 hn1 hsl1 hb1
  simp only [Prod.mk.injEq] at hq
  obtain ⟨rfl, rfl, rfl⟩ := hq
  obtain ⟨_, hA0⟩ := hsl1 0 0 _ rfl rfl
  obtain ⟨_, hA2⟩ := hsl1 1 2 _ rfl rfl
  obtain ⟨_, hA3⟩ := hsl1 2 3 _ rfl rfl
  simp only [XE.to, Exit.then]
  -- too short, too long
  refine wp_seq ?_
  refine pieceL ok numB (by kernel_rfl) (Qs := fun q => (q.1 = .ret ∧ q.2.1[1]? = some (.v (.c (.i .i64 (.lit 0)))) ∧ q.2.1[2]? = some (.v (.c (.i .i64 (.lit 1)))) ∧ ((ints s).length = 0 ∨ 8 < (ints s).length)) ∨
    (q = (.normal, [.v (.c (.s (.var .u8 0))), .v (.c (.i .i64 (.lit 0))), .v (.c (.i .i64 (.lit 0)))], 48) ∧ 0 < (ints s).length ∧ (ints s).length ≤ 8)) ?_ (k := 48) hn1 ?_ hd1 (AsmOk.nil _) ?_
  · simp only [WT.holds, BExp.den, IExp.den, AExp.den, ea, decide_eq_true_eq]
    split
    · exact .inl ⟨by simp, by simp, by simp, .inl (by omega)⟩
    · split
      · exact .inr ⟨by simp, by omega, by omega⟩
      · exact .inl ⟨by simp, by simp, by simp, .inr (by omega)⟩
  · intro q hq
    simp only [List.mem_cons, List.not_mem_nil, or_false] at hq
    rcases hq with rfl | rfl | rfl
    · exact hA0
    · exact hA2
    · exact hA3
  rintro ex l k hq a2 W2 hd2 hn2 hsl2 hb2
  have hb12 := below_trans hb1 rfl hb2
  rcases hq with ⟨hex, h1, h2, hL⟩ | ⟨hq, hL0, hL8⟩
  · simp only at hex h1 h2
    subst hex
    obtain ⟨_, hB2⟩ := hsl2 1 2 _ rfl h1
    obtain ⟨_, hB3⟩ := hsl2 2 3 _ rfl h2
    refine fin a2 W2 hd2 ?_ ?_ hb12
    · rw [show numR (ints s) = (0, 1) from if_pos hL]; exact hB2
    · rw [show numR (ints s) = (0, 1) from if_pos hL]; exact hB3
  simp only [Prod.mk.injEq] at hq
  obtain ⟨rfl, rfl, rfl⟩ := hq
  obtain ⟨_, hB0⟩ := hsl2 0 0 _ rfl rfl
  simp only [XE.to, Exit.then]
  -- n = 0
  refine wp_seq ?_
  refine pieceL ok numC (by kernel_rfl) (Qs := fun q => q = (.normal, [.v (.c (.s (.var .u8 0))), .v (.c (.i .i64 (.lit 0)))], 48)) (by simp only [WT.holds]) (k := 48) hn2 ?_ hd2 (AsmOk.nil _) ?_
  · intro q hq
    simp only [List.mem_cons, List.not_mem_nil, or_false] at hq
    subst hq
    exact hB0
  rintro ex l k hq a3 W3 hd3 hn3 hsl3 hb3
  have hb13 := below_trans hb12 rfl hb3
  simp only [Prod.mk.injEq] at hq
  obtain ⟨rfl, rfl, rfl⟩ := hq
  obtain ⟨_, hC0⟩ := hsl3 0 0 _ rfl rfl
  obtain ⟨_, hC4⟩ := hsl3 1 4 _ rfl rfl
  have hC0 : a3.tmps.toList.getD 0 undef = .string s := by
    have h : a3.tmps.toList.getD 0 undef = .string (strOf (E.a .u8 0)) := hC0
    rw [h, ea, strOf_ints]
  have hC4 : a3.tmps.toList.getD 4 undef = .int .i64 0 := hC4
  simp only [XE.to, Exit.then]
  -- the reader
  refine wp_seq ?_
  refine wp_seq ?_
  rw [num_r4]
  refine wp_region_list ?_
  refine wpList_value (V := .string s) (W' := W3) rfl ?_ ?_
  · simp only [execOp, eval_tmp, hC0]
    rfl
  refine wpList_value (V := .pointer (some ⟨W3.heap.size, 0, none⟩)) (W' := W3.iter s 0) rfl ?_ ?_
  · simp only [execOp, eval_tmp, getD_put (show 15 < a3.tmps.size by rw [hn3]; omega), if_true]
    exact run_v (run_range_string W3 9 s (by kernel_rfl))
  show Exit.then _ _ _ _ _
  simp only [Exit.then]
  refine wp_block (wp_loop_rounds (s.size + 1) ?_)
  have hreads := iter_reads W3 s
  refine num_rounds s (by omega) W3 W3.heap.size _ ?_ ?_ s.size 0 0 _ _ hreads (by omega) (by omega) (by omega) (by rw [List.drop_zero]) ⟨by rw [size_put, size_put, hn3], hd3, ?_, ?_⟩
  · intro n a p w hw hF h0 h1 hH
    simp only [Exit.inBlock, Exit.then]
    have oks := (srcS (ints s) n).ok
    have e4 : (srcS (ints s) n).env.i .i64 0 = n := clip_of (k := .i64) (n := n) (in64 (by omega) (by omega))
    refine pieceL oks numD (by kernel_rfl) (Qs := fun q => q = (.ret, [.v (.c (.i .i64 (.var .i64 0))), .v (.c (.i .i64 (.lit 0)))], 48)) (by simp only [WT.holds]) (k := 48) hH.size ?_ hH.df (AsmOk.nil _) ?_
    · intro q hq
      simp only [List.mem_cons, List.not_mem_nil, or_false] at hq
      subst hq
      show a.tmps.toList.getD 4 undef = .int .i64 ((srcS (ints s) n).env.i .i64 0)
      rw [e4]; exact hH.t4
    rintro ex l k hq a4 W4 hd4 hn4 hsl4 hb4
    simp only [Prod.mk.injEq] at hq
    obtain ⟨rfl, rfl, rfl⟩ := hq
    obtain ⟨_, hD2⟩ := hsl4 0 2 _ rfl rfl
    obtain ⟨_, hD3⟩ := hsl4 1 3 _ rfl rfl
    have hR : numR (ints s) = (n, 0) := by
      unfold numR
      rw [if_neg (by omega), hF]
    refine fin a4 W4 hd4 ?_ ?_ (below_trans (below_trans hb13 rfl hw.below) rfl hb4)
    · have h : a4.tmps.toList.getD 2 undef = .int .i64 ((srcS (ints s) n).env.i .i64 0) := hD2
      rw [h, e4, hR]
    · rw [hR]; exact hD3
  · intro a p w hw hF hd h2 h3
    have hR : numR (ints s) = (0, 1) := by
      unfold numR
      rw [if_neg (by omega), hF]
    simp only [Exit.inBlock, Exit.then]
    refine fin a w hd ?_ ?_ (below_trans hb13 rfl hw.below)
    · rw [hR]; exact h2
    · rw [hR]; exact h3
  · rw [getD_put (by rw [size_put, hn3]; omega), getD_put (by rw [hn3]; omega)]
    exact hC4
  · rw [getD_put (by rw [size_put, hn3]; omega)]
    rfl
end Go.Proofs.YtofphikiadiogaaDoor.Bits
