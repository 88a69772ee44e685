/- BitsAll: the loops, and the walk. -/
import Derived.Test.YtkndkecbajfehaaBAll0
namespace Go.Proofs.Ytkndkecbajfehaa.Bits
open Go Sy
set_option maxRecDepth 100000
set_option linter.unusedVariables false
set_option linter.unusedSimpArgs false

structure HeadA (s a b : Int) (x : Act) : Prop where
  size : x.tmps.size = 95
  df : x.defers = []
  t1 : x.tmps.toList.getD 1 undef = .int .i64 s
  t2 : x.tmps.toList.getD 2 undef = .int .i64 a
  t3 : x.tmps.toList.getD 3 undef = .int .i64 b
theorem round_any {s : Nat} (hs : s < 15) : (round3 s).all (isRound s) = true := by
  obtain rfl | rfl | rfl | rfl | rfl | rfl | rfl | rfl | rfl | rfl | rfl | rfl | rfl | rfl | rfl : s = 0 ∨ s = 1 ∨ s = 2 ∨ s = 3 ∨ s = 4 ∨ s = 5 ∨ s = 6 ∨ s = 7 ∨ s = 8 ∨ s = 9 ∨ s = 10 ∨ s = 11 ∨ s = 12 ∨ s = 13 ∨ s = 14 := by omega
  · exact round_0
  · exact round_1
  · exact round_2
  · exact round_3
  · exact round_4
  · exact round_5
  · exact round_6
  · exact round_7
  · exact round_8
  · exact round_9
  · exact round_10
  · exact round_11
  · exact round_12
  · exact round_13
  · exact round_14
theorem loop3_planned : planned Try.prog (plan.at 5).sch loop3 = true := by kernel_rfl
theorem inner {s : Nat} (hs : s < 15) {a : Int} (a0 : 0 ≤ a) (a1 : a ≤ 255) (W0 : World) (Q : Exit → Act → World → Prop)
    (hend : ∀ x w, RowKit.Below W0.heap.size W0 w → HeadA s a 256 x → Q (.exit 4) x w) :
    ∀ (d : Nat) (b : Int) x w, RowKit.Below W0.heap.size W0 w → 0 ≤ b → b + d = 256 → HeadA s a b x → Code.rounds Try.prog loop3 Q (d + 1) x w := by
  intro d
  induction d with
  | zero =>
    intro b x w hb b0 hd hH
    obtain rfl : b = 256 := by omega
    rw [rounds_succ]
    have ok := (srcW [] [] [(s : Int), a] [] []).ok
    have e0 : (srcW [] [] [(s : Int), a] [] []).env.i .i64 0 = s := clip_of (k := .i64) (n := (s : Int)) (in64 (by omega) (by omega))
    have e1 : (srcW [] [] [(s : Int), a] [] []).env.i .i64 1 = a := clip_of (k := .i64) (n := a) (in64 (by omega) (by omega))
    generalize (srcW [] [] [(s : Int), a] [] []).env = E at ok e0 e1
    have ht := TmD.of_list (e := E) (ρ := []) (n := 95) (vs := x.tmps.toList) (l := [(1, .v (.c (.i .i64 (.var .i64 0)))), (2, .v (.c (.i .i64 (.var .i64 1)))), (3, .v (.c (.i .i64 (.lit 256))))]) (by rw [Array.length_toList, hH.size]) (by
      intro q hq
      simp only [List.mem_cons, List.not_mem_nil, or_false] at hq
      rcases hq with rfl | rfl | rfl
      · exact hH.t1.trans (congrArg _ e0.symm)
      · exact hH.t2.trans (congrArg _ e1.symm)
      · exact hH.t3)
    refine piece ok (tabA_ok _ 0 0) round_end loop3_planned (Qs := fun q => q = (.exit 4, [.v (.c (.i .i64 (.var .i64 0))), .v (.c (.i .i64 (.var .i64 1))), .v (.c (.i .i64 (.lit 256)))], 95)) (by simp only [WT.holds]) hH.size.symm ht.2 hH.df (AsmOk.nil _) ?_
    rintro ex l k hq x' w' hd' hn' hsl hbl
    simp only [Prod.mk.injEq] at hq
    obtain ⟨rfl, rfl, rfl⟩ := hq
    obtain ⟨_, g1⟩ := hsl 0 1 _ rfl rfl
    obtain ⟨_, g2⟩ := hsl 1 2 _ rfl rfl
    obtain ⟨_, g3⟩ := hsl 2 3 _ rfl rfl
    have g1 : x'.tmps.toList.getD 1 undef = .int .i64 (E.i .i64 0) := g1
    have g2 : x'.tmps.toList.getD 2 undef = .int .i64 (E.i .i64 1) := g2
    exact hend x' w' (below_trans hb rfl hbl) ⟨hn', hd', by rw [g1, e0], by rw [g2, e1], g3⟩
  | succ d ih =>
    intro b x w hb b0 hd hH
    have b1 : b ≤ 255 := by omega
    rw [rounds_succ]
    have ok := (srcW [] [] [a, b] [] []).ok
    have e0 : (srcW [] [] [a, b] [] []).env.i .i64 0 = a := clip_of (k := .i64) (n := a) (in64 (by omega) (by omega))
    have e1 : (srcW [] [] [a, b] [] []).env.i .i64 1 = b := clip_of (k := .i64) (n := b) (in64 (by omega) (by omega))
    generalize (srcW [] [] [a, b] [] []).env = E at ok e0 e1
    have hw : IntKind.i64.wrap (b + 1) = b + 1 := wrap64 (by omega) (by omega)
    have ht := TmD.of_list (e := E) (ρ := []) (n := 95) (vs := x.tmps.toList) (l := [(1, .v (.c (.i .i64 (.lit (s : Int))))), (2, .v (.c (.i .i64 (.var .i64 0)))), (3, .v (.c (.i .i64 (.var .i64 1))))]) (by rw [Array.length_toList, hH.size]) (by
      intro q hq
      simp only [List.mem_cons, List.not_mem_nil, or_false] at hq
      rcases hq with rfl | rfl | rfl
      · show x.tmps.toList.getD 1 undef = .int .i64 ((IExp.lit (s : Int)).den E)
        rw [litD]; exact hH.t1
      · exact hH.t2.trans (congrArg _ e0.symm)
      · exact hH.t3.trans (congrArg _ e1.symm))
    have has : AsmOk E asB := by
      have v0 : (IExp.var .i64 0).den E = a := e0
      have v1 : (IExp.var .i64 1).den E = b := e1
      refine AsmOk.cons ?_ (AsmOk.cons ?_ (AsmOk.cons ?_ (AsmOk.cons ?_ (AsmOk.nil _))))
      · rw [le_den, v0, litD]; exact decide_eq_true a1
      · rw [le_den, v0, litD]; exact decide_eq_false (by omega)
      · rw [le_den, v1, litD]; exact decide_eq_true b1
      · rw [le_den, v1, litD]; exact decide_eq_false (by omega)
    refine piece ok (tabA_ok _ 0 0) (T := round3 s) rfl loop3_planned (WT.all_holds (round_any hs)) hH.size.symm ht.2 hH.df has ?_
    intro ex l k hq x' w' hd' hn' hsl hbl
    unfold isRound at hq
    split at hq
    · rename_i s' hs'
      have hq := of_decide_eq_true hq
      subst hq
      simp only [Prod.mk.injEq] at hs'
      obtain ⟨rfl, rfl, rfl⟩ := hs'
      obtain ⟨_, g1⟩ := hsl 0 1 _ rfl rfl
      obtain ⟨_, g2⟩ := hsl 1 2 _ rfl rfl
      obtain ⟨_, g3⟩ := hsl 2 3 _ rfl rfl
      have g1 : x'.tmps.toList.getD 1 undef = .int .i64 ((IExp.lit (s : Int)).den E) := g1
      have g2 : x'.tmps.toList.getD 2 undef = .int .i64 (E.i .i64 0) := g2
      have g3 : x'.tmps.toList.getD 3 undef = .int .i64 (IntKind.i64.wrap (E.i .i64 1 + 1)) := g3
      simp only [XE.to, Exit.then]
      exact ih (b + 1) x' w' (below_trans hb rfl hbl) (by omega) (by omega) ⟨hn', hd', by rw [g1, litD], by rw [g2, e0], by rw [g3, e1, hw]⟩
    · cases hq
end Go.Proofs.Ytkndkecbajfehaa.Bits
