/- What a text is as a number: the reference's function. -/
import Derived.Test.YtkndkecbajfehaaBCalls
namespace Go.Proofs.Ytkndkecbajfehaa.Bits
open Go Sy
set_option maxRecDepth 100000
set_option linter.unusedVariables false
set_option linter.unusedSimpArgs false

noncomputable def loopR : Code := sub (body 16) [true, true, true, false, true, false, false]
theorem ref_body : body 16 = .seq (sub (body 16) [false]) (.seq (sub (body 16) [true, false]) (.seq (sub (body 16) [true, true, false]) (.seq (.seq (sub (body 16) [true, true, true, false, false]) (.block 0 (.loop loopR))) (sub (body 16) [true, true, true, true])))) := by kernel_rfl
def srcR (l : List Int) (n i : Int) : Src :=
  { i := fun k => match k with
      | .i64 => [n, i]
      | _ => [],
    b := [],
    a := fun k j => match k, j with
      | .u8, 0 => l
      | _, _ => [] }
theorem refs_at {s : ByteArray} {n i : Int} (hs : (s.size : Int) ≤ IntKind.i64.max) : (srcR (ints s) n i).env.a .u8 0 = ints s := by
  have hl : (ints s).length = s.size := by unfold ints; rw [List.length_map, Array.length_toList]; rfl
  exact clipL_of (ints_in s) (by show ((ints s).length : Int) ≤ lenTop; rw [hl]; simpa only [IntKind.max_i64, lenTop] using hs)
abbrev S0 : IExp := .sel .u8 (.var .u8 0) (.var .i64 1)
abbrev N1 : IExp := .var .i64 1
def rowR (l : List (Nat × SVal)) : List (Nat × SVal) := (0, .v (.c (.s (.var .u8 0)))) :: l
def asR : Asm := [(.le (.var .i64 0) (.lit 4294967295), true), (.le (.var .i64 0) (.lit (-1)), false), (.le (.var .i64 1) (.lit 8), true), (.le (.var .i64 1) (.lit (-1)), false)]
abbrev strV : SVal := .v (.c (.s (.var .u8 0)))
abbrev intV (x : IExp) : SVal := .v (.c (.i .i64 x))
theorem refL : (xCode Try.prog 0 plan (fun _ _ _ _ => none) 1000 (plan.at 16) 0 loopR ⟨52, rowR [(4, intV N0), (5, intV N1)], true⟩ ⟨[], asR⟩).map (slotsOf [0, 4, 5, 2, 3]) =
  .node (.lt N1 (.len (.var .u8 0)))
    (.node (.le S0 (.lit 47)) (.leaf (.ret, [strV, intV N0, intV N1, intV (.lit 0), intV (.lit 1)], 52))
      (.node (.le S0 (.lit 57)) (.leaf (.normal, [strV, intV (.bin .add .i64 (.bin .mul .i64 N0 (.lit 16)) (.bin .add .u8 S0 (.lit (-48)))), intV (.bin .add .i64 N1 (.lit 1)), .any, .any], 52))
        (.node (.le S0 (.lit 96)) (.leaf (.ret, [strV, intV N0, intV N1, intV (.lit 0), intV (.lit 1)], 52))
          (.node (.le S0 (.lit 102)) (.leaf (.normal, [strV, intV (.bin .add .i64 (.bin .add .i64 (.bin .mul .i64 N0 (.lit 16)) (.bin .add .u8 S0 (.lit (-97)))) (.lit 10)), intV (.bin .add .i64 N1 (.lit 1)), .any, .any], 52))
            (.leaf (.ret, [strV, intV N0, intV N1, intV (.lit 0), intV (.lit 1)], 52))))))
    (.leaf (.exit 0, [strV, intV N0, intV N1, .any, .any], 52)) := by kernel_rfl
theorem refA : (xCode Try.prog 0 plan (fun _ _ _ _ => none) 1000 (plan.at 16) 0 (sub (body 16) [false]) ⟨52, rowR [], true⟩ ⟨[], []⟩).map (slotsOf [0, 2, 3]) =
    .leaf (.normal, [strV, intV (.lit 0), intV (.lit 0)], 52) := by kernel_rfl
theorem refB : (xCode Try.prog 0 plan (fun _ _ _ _ => none) 1000 (plan.at 16) 0 (sub (body 16) [true, false]) ⟨52, rowR [], true⟩ ⟨[], []⟩).map (slotsOf [0, 2, 3]) =
    .node (.le (.len (.var .u8 0)) (.lit 0)) (.leaf (.ret, [strV, intV (.lit 0), intV (.lit 1)], 52))
      (.node (.le (.len (.var .u8 0)) (.lit 8)) (.leaf (.normal, [strV, .any, .any], 52))
        (.leaf (.ret, [strV, intV (.lit 0), intV (.lit 1)], 52))) := by kernel_rfl
theorem refC : (xCode Try.prog 0 plan (fun _ _ _ _ => none) 1000 (plan.at 16) 0 (sub (body 16) [true, true, false]) ⟨52, rowR [], true⟩ ⟨[], []⟩).map (slotsOf [0, 4]) =
    .leaf (.normal, [strV, intV (.lit 0)], 52) := by kernel_rfl
theorem refC2 : (xCode Try.prog 0 plan (fun _ _ _ _ => none) 1000 (plan.at 16) 0 (sub (body 16) [true, true, true, false, false]) ⟨52, rowR [(4, intV (.lit 0))], true⟩ ⟨[], []⟩).map (slotsOf [0, 4, 5]) =
    .leaf (.normal, [strV, intV (.lit 0), intV (.lit 0)], 52) := by kernel_rfl
theorem refD : (xCode Try.prog 0 plan (fun _ _ _ _ => none) 1000 (plan.at 16) 0 (sub (body 16) [true, true, true, true]) ⟨52, [(4, intV (.var .i64 0))], true⟩ ⟨[], []⟩).map (slotsOf [2, 3]) =
    .leaf (.ret, [intV (.var .i64 0), intV (.lit 0)], 52) := by kernel_rfl
theorem wrapU8 {n : Int} (h0 : 0 ≤ n) (h1 : n ≤ 255) : IntKind.u8.wrap n = n := wrap_id ⟨by simp only [IntKind.min_u8]; exact h0, by simp only [IntKind.max_u8]; exact h1⟩

theorem binE {e : Env} {op : BinOp} {k : IntKind} {x y : IExp} : (IExp.bin op k x y).den e = binDen op k (x.den e) (y.den e) := by simp only [IExp.den]
/-- The frame at the loop's head. -/
structure HeadR (s : ByteArray) (n i : Int) (a : Act) : Prop where
  size : a.tmps.size = 52
  df : a.defers = []
  t0 : a.tmps.toList.getD 0 undef = .string s
  t4 : a.tmps.toList.getD 4 undef = .int .i64 n
  t5 : a.tmps.toList.getD 5 undef = .int .i64 i
theorem ref_rounds (s : ByteArray) (h8 : s.size ≤ 8) (W0 : World) (Q : Exit → Act → World → Prop)
    (hend : ∀ n a w, RowKit.Below W0.heap.size W0 w → numF (ints s) 0 = some n → 0 ≤ n → n ≤ 4294967295 → a.tmps.size = 52 → a.defers = [] → a.tmps.toList.getD 4 undef = .int .i64 n → Q (.exit 0) a w)
    (hbad : ∀ a w, RowKit.Below W0.heap.size W0 w → numF (ints s) 0 = none → a.defers = [] → a.tmps.toList.getD 2 undef = .int .i64 0 → a.tmps.toList.getD 3 undef = .int .i64 1 → Q .ret a w) :
    ∀ d (pos : Nat) n a w, RowKit.Below W0.heap.size W0 w → pos + d = s.size → 0 ≤ n → n < 16 ^ pos → numF (ints s) 0 = numF ((ints s).drop pos) n → HeadR s n pos a → Code.rounds Try.prog loopR Q (d + 1) a w := by
  have hlen : (ints s).length = s.size := by unfold ints; rw [List.length_map, Array.length_toList]; rfl
  have hs : (s.size : Int) ≤ IntKind.i64.max := by simp only [IntKind.max_i64]; omega
  intro d
  induction d with
  | zero =>
    intro pos n a w hb hpd h0 hn hF hH
    rw [rounds_succ]
    have h16 : (16 : Int) ^ pos ≤ 16 ^ 8 := by exact_mod_cast Nat.pow_le_pow_right (show 0 < 16 by omega) (show pos ≤ 8 by omega)
    have h168 : (16 : Int) ^ 8 = 4294967296 := by decide
    have ok := (srcR (ints s) n pos).ok
    have ea := refs_at (n := n) (i := pos) hs
    have e0 : (srcR (ints s) n pos).env.i .i64 0 = n := clip_of (k := .i64) (n := n) (in64 (by omega) (by omega))
    have e1 : (srcR (ints s) n pos).env.i .i64 1 = pos := clip_of (k := .i64) (n := (pos : Int)) (in64 (by omega) (by omega))
    generalize (srcR (ints s) n pos).env = E at ok ea e0 e1
    refine pieceL ok refL (by kernel_rfl) (Qs := fun q => q = (.exit 0, [strV, intV N0, intV N1, .any, .any], 52)) ?_ hH.size ?_ hH.df ?_ ?_
    · simp only [WT.holds, BExp.den, IExp.den, AExp.den, ea, e0, e1, decide_eq_true_eq]
      rw [if_neg (by omega)]
      trivial
    · intro q hq
      simp only [rowR, List.mem_cons, List.not_mem_nil, or_false] at hq
      rcases hq with rfl | rfl | rfl
      · show a.tmps.toList.getD 0 undef = .string (strOf (E.a .u8 0))
        rw [ea, strOf_ints]; exact hH.t0
      · show a.tmps.toList.getD 4 undef = .int .i64 (E.i .i64 0)
        rw [e0]; exact hH.t4
      · show a.tmps.toList.getD 5 undef = .int .i64 (E.i .i64 1)
        rw [e1]; exact hH.t5
    · refine AsmOk.cons ?_ (AsmOk.cons ?_ (AsmOk.cons ?_ (AsmOk.cons ?_ (AsmOk.nil _))))
      · simp only [BExp.den, IExp.den, e0]; exact decide_eq_true (by omega)
      · simp only [BExp.den, IExp.den, e0]; exact decide_eq_false (by omega)
      · simp only [BExp.den, IExp.den, e1]; exact decide_eq_true (by omega)
      · simp only [BExp.den, IExp.den, e1]; exact decide_eq_false (by omega)
    rintro ex l k hq a1 W1 hd1 hn1 hsl1 hb1
    simp only [Prod.mk.injEq] at hq
    obtain ⟨rfl, rfl, rfl⟩ := hq
    obtain ⟨_, h4⟩ := hsl1 1 4 _ rfl rfl
    have h4 : a1.tmps.toList.getD 4 undef = .int .i64 (E.i .i64 0) := h4
    refine hend n a1 W1 (below_trans hb rfl hb1) ?_ h0 (by omega) hn1 hd1 (by rw [h4, e0])
    rw [hF, List.drop_eq_nil_of_le (by omega)]; rfl
  | succ d ih =>
    intro pos n a w hb hpd h0 hn hF hH
    rw [rounds_succ]
    have h16 : (16 : Int) ^ pos ≤ 16 ^ 7 := by exact_mod_cast Nat.pow_le_pow_right (show 0 < 16 by omega) (show pos ≤ 7 by omega)
    have h167 : (16 : Int) ^ 7 = 268435456 := by decide
    have hs16 : (16 : Int) ^ (pos + 1) = 16 ^ pos * 16 := Int.pow_succ _ _
    have hc : (ints s).drop pos = (ints s).getD pos 0 :: (ints s).drop (pos + 1) := by
      rw [List.drop_eq_getElem_cons (by omega), List.getD_eq_getElem?_getD, List.getElem?_eq_getElem (by omega)]; rfl
    have hcin := ints_in s ((ints s).getD pos 0) (by rw [List.getD_eq_getElem?_getD, List.getElem?_eq_getElem (by omega), Option.getD_some]; exact List.getElem_mem _)
    obtain ⟨c0, c1⟩ := hcin
    simp only [IntKind.min_u8, IntKind.max_u8] at c0 c1
    generalize hcc : (ints s).getD pos 0 = c at hc c0 c1
    rw [hc] at hF
    simp only [numF] at hF
    have ok := (srcR (ints s) n pos).ok
    have ea := refs_at (n := n) (i := pos) hs
    have e0 : (srcR (ints s) n pos).env.i .i64 0 = n := clip_of (k := .i64) (n := n) (in64 (by omega) (by omega))
    have e1 : (srcR (ints s) n pos).env.i .i64 1 = pos := clip_of (k := .i64) (n := (pos : Int)) (in64 (by omega) (by omega))
    generalize (srcR (ints s) n pos).env = E at ok ea e0 e1
    have hsel : S0.den E = c := by
      simp only [IExp.den, AExp.den, ea, e1, Int.toNat_natCast]
      exact hcc
    have v0 : N0.den E = n := e0
    refine pieceL ok refL (by kernel_rfl) (Qs := fun q => (q.1 = .ret ∧ numF (ints s) 0 = none ∧ q.2.1[3]? = some (intV (.lit 0)) ∧ q.2.1[4]? = some (intV (.lit 1))) ∨
      (q.1 = .normal ∧ q.2.2 = 52 ∧ q.2.1[0]? = some strV ∧ ∃ x, q.2.1[1]? = some (intV x) ∧ q.2.1[2]? = some (intV (.bin .add .i64 N1 (.lit 1))) ∧ 0 ≤ x.den E ∧ x.den E < 16 ^ (pos + 1) ∧ numF (ints s) 0 = numF ((ints s).drop (pos + 1)) (x.den E))) ?_ hH.size ?_ hH.df ?_ ?_
    · have h1 : (BExp.lt N1 (.len (.var .u8 0))).den E = true := by
        simp only [BExp.den, IExp.den, AExp.den, ea, e1]
        exact decide_eq_true (by omega)
      have hle : ∀ n : Int, (BExp.le S0 (.lit n)).den E = decide (c ≤ n) := fun n => by rw [le_den, hsel, litD]
      simp only [WT.holds, h1, hle, if_true, decide_eq_true_eq]
      split
      · refine .inl ⟨by simp, ?_, by simp, by simp⟩
        rw [hF, if_neg (by omega), if_neg (by omega)]
      · split
        · refine .inr ⟨by simp, by simp, by simp, _, rfl, by simp, ?_⟩
          have hd : (IExp.bin .add .i64 (.bin .mul .i64 N0 (.lit 16)) (.bin .add .u8 S0 (.lit (-48)))).den E = 16 * n + (c - 48) := by
            simp only [binE, litD, hsel, v0, binDen]
            rw [wrap64 (show -9223372036854775808 ≤ n * 16 by omega) (by omega), wrapU8 (show 0 ≤ c + -48 by omega) (by omega), wrap64 (by omega) (by omega)]
            omega
          rw [hd]
          refine ⟨by omega, by omega, ?_⟩
          rw [hF, if_pos (by omega)]
        · split
          · refine .inl ⟨by simp, ?_, by simp, by simp⟩
            rw [hF, if_neg (by omega), if_neg (by omega)]
          · split
            · refine .inr ⟨by simp, by simp, by simp, _, rfl, by simp, ?_⟩
              have hd : (IExp.bin .add .i64 (.bin .add .i64 (.bin .mul .i64 N0 (.lit 16)) (.bin .add .u8 S0 (.lit (-97)))) (.lit 10)).den E = 16 * n + (c - 87) := by
                simp only [binE, litD, hsel, v0, binDen]
                rw [wrap64 (show -9223372036854775808 ≤ n * 16 by omega) (by omega), wrapU8 (show 0 ≤ c + -97 by omega) (by omega), wrap64 (show -9223372036854775808 ≤ n * 16 + (c + -97) by omega) (by omega), wrap64 (by omega) (by omega)]
                omega
              rw [hd]
              refine ⟨by omega, by omega, ?_⟩
              rw [hF, if_neg (by omega), if_pos (by omega)]
            · refine .inl ⟨by simp, ?_, by simp, by simp⟩
              rw [hF, if_neg (by omega), if_neg (by omega)]
    · intro q hq
      simp only [rowR, List.mem_cons, List.not_mem_nil, or_false] at hq
      rcases hq with rfl | rfl | rfl
      · show a.tmps.toList.getD 0 undef = .string (strOf (E.a .u8 0))
        rw [ea, strOf_ints]; exact hH.t0
      · show a.tmps.toList.getD 4 undef = .int .i64 (E.i .i64 0)
        rw [e0]; exact hH.t4
      · show a.tmps.toList.getD 5 undef = .int .i64 (E.i .i64 1)
        rw [e1]; exact hH.t5
    · refine AsmOk.cons ?_ (AsmOk.cons ?_ (AsmOk.cons ?_ (AsmOk.cons ?_ (AsmOk.nil _))))
      · simp only [BExp.den, IExp.den, e0]; exact decide_eq_true (by omega)
      · simp only [BExp.den, IExp.den, e0]; exact decide_eq_false (by omega)
      · simp only [BExp.den, IExp.den, e1]; exact decide_eq_true (by omega)
      · simp only [BExp.den, IExp.den, e1]; exact decide_eq_false (by omega)
    rintro ex l k hq a1 W1 hd1 hn1 hsl1 hb1
    have hbb := below_trans hb rfl hb1
    rcases hq with ⟨hex, hnone, h2, h3⟩ | ⟨hex, h52, h0', x, hx, hi, hx0, hx1, hxF⟩
    · simp only at hex h2 h3
      subst hex
      obtain ⟨_, h2⟩ := hsl1 3 2 _ rfl h2
      obtain ⟨_, h3⟩ := hsl1 4 3 _ rfl h3
      exact hbad a1 W1 hbb hnone hd1 h2 h3
    · simp only at hex h52 h0' hx hi
      subst hex h52
      simp only [XE.to, Exit.then]
      obtain ⟨_, g0⟩ := hsl1 0 0 _ rfl h0'
      obtain ⟨_, g4⟩ := hsl1 1 4 _ rfl hx
      obtain ⟨_, g5⟩ := hsl1 2 5 _ rfl hi
      have g0 : a1.tmps.toList.getD 0 undef = .string (strOf (E.a .u8 0)) := g0
      have g5 : a1.tmps.toList.getD 5 undef = .int .i64 ((IExp.bin .add .i64 N1 (.lit 1)).den E) := g5
      refine ih (pos + 1) (x.den E) a1 W1 hbb (by omega) hx0 hx1 hxF ⟨hn1, hd1, by rw [g0, ea, strOf_ints], g4, ?_⟩
      rw [g5]
      simp only [IExp.den, binDen, e1]
      rw [wrap64 (by omega) (by omega)]
      rfl
end Go.Proofs.Ytkndkecbajfehaa.Bits
