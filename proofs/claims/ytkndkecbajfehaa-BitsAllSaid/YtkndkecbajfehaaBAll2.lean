/- BitsAll: the middle loop, the outer loop, the walk. -/
import Derived.Test.YtkndkecbajfehaaBAll
namespace Go.Proofs.Ytkndkecbajfehaa.Bits
open Go Sy
set_option maxRecDepth 100000
set_option linter.unusedVariables false
set_option linter.unusedSimpArgs false

structure At2 (s a : Int) (x : Act) : Prop where
  size : x.tmps.size = 95
  df : x.defers = []
  t1 : x.tmps.toList.getD 1 undef = .int .i64 s
  t2 : x.tmps.toList.getD 2 undef = .int .i64 a
abbrev V0 : SVal := .v (.c (.i .i64 (.var .i64 0)))
abbrev V1 : SVal := .v (.c (.i .i64 (.var .i64 1)))
noncomputable abbrev pc (l : List Nat) : Code := sub (body 5) (path l)
def as2 : Asm := [(.le (.var .i64 0) (.lit 15), true), (.le (.var .i64 0) (.lit (-1)), false), (.le (.var .i64 1) (.lit 256), true), (.le (.var .i64 1) (.lit (-1)), false)]
abbrev rowV : List (Nat × SVal) := [(1, V0), (2, V1)]
theorem m_test : (xCode Try.prog 0 plan tabA 1000 (plan.at 5) 0 (pc [1, 0, 1, 0, 0, 1, 0, 0, 1, 0, 0, 0]) ⟨95, rowV, true⟩ ⟨[], as2⟩).map (slotsOf [1, 2, 3]) = .node (.le (.var .i64 1) (.lit 255)) (.leaf (.normal, [V0, V1, .any], 95)) (.leaf (.exit 2, [V0, V1, .any], 95)) := by kernel_rfl
theorem m_init : (xCode Try.prog 0 plan tabA 1000 (plan.at 5) 0 (pc [1, 0, 1, 0, 0, 1, 0, 0, 1, 0, 0, 1, 0, 0, 0]) ⟨95, rowV, true⟩ ⟨[], as2⟩).map (slotsOf [1, 2, 3]) = .leaf (.normal, [V0, V1, intV (.lit 0)], 95) := by kernel_rfl
theorem m_next : (xCode Try.prog 0 plan tabA 1000 (plan.at 5) 0 (pc [1, 0, 1, 0, 0, 1, 0, 0, 1, 0, 0, 1, 1]) ⟨95, rowV, true⟩ ⟨[], as2⟩).map (slotsOf [1, 2, 3]) = .leaf (.normal, [V0, intV (.bin .add .i64 (.var .i64 1) (.lit 1)), .any], 95) := by kernel_rfl
/-- A piece between the loops. -/
theorem step2 {l : List Nat} {T : WT (XE × List SVal × Nat)} {s a : Int} (s0 : 0 ≤ s) (s1 : s ≤ 15) (a0 : 0 ≤ a) (a1 : a ≤ 256)
    (hT : (xCode Try.prog 0 plan tabA 1000 (plan.at 5) 0 (pc l) ⟨95, rowV, true⟩ ⟨[], as2⟩).map (slotsOf [1, 2, 3]) = T) (hpl : planned Try.prog (plan.at 5).sch (pc l) = true) {W0 w : World} {x : Act} (hb : RowKit.Below W0.heap.size W0 w) (hH : At2 s a x) {Q : Exit → Act → World → Prop}
    (hh : ∀ E : Env, E.i .i64 0 = s → E.i .i64 1 = a → T.holds E (fun q => ∃ y z, q.2.1[0]? = some V0 ∧ q.2.1[1]? = some (intV y) ∧ q.2.1[2]? = some z ∧ q.2.2 = 95 ∧
      ∀ x' w', RowKit.Below W0.heap.size W0 w' → At2 s (y.den E) x' → (∃ ρ, z.D E ρ (x'.tmps.toList.getD 3 undef)) → Q q.1.to x' w')) : (pc l).wp Try.prog Q x w := by
  have ok := (srcW [] [] [s, a] [] []).ok
  have e0 : (srcW [] [] [s, a] [] []).env.i .i64 0 = s := clip_of (k := .i64) (n := s) (in64 (by omega) (by omega))
  have e1 : (srcW [] [] [s, a] [] []).env.i .i64 1 = a := clip_of (k := .i64) (n := a) (in64 (by omega) (by omega))
  generalize (srcW [] [] [s, a] [] []).env = E at ok e0 e1
  have v0 : (IExp.var .i64 0).den E = s := e0
  have v1 : (IExp.var .i64 1).den E = a := e1
  have has : AsmOk E as2 := by
    refine AsmOk.cons ?_ (AsmOk.cons ?_ (AsmOk.cons ?_ (AsmOk.cons ?_ (AsmOk.nil _))))
    · rw [le_den, v0, litD]; exact decide_eq_true s1
    · rw [le_den, v0, litD]; exact decide_eq_false (by omega)
    · rw [le_den, v1, litD]; exact decide_eq_true a1
    · rw [le_den, v1, litD]; exact decide_eq_false (by omega)
  have ht := TmD.of_list (e := E) (ρ := []) (n := 95) (vs := x.tmps.toList) (l := rowV) (by rw [Array.length_toList, hH.size]) (by
    intro q hq
    simp only [List.mem_cons, List.not_mem_nil, or_false] at hq
    rcases hq with rfl | rfl
    · exact hH.t1.trans (congrArg _ e0.symm)
    · exact hH.t2.trans (congrArg _ e1.symm))
  refine piece ok (tabA_ok _ 0 0) hT hpl (hh E e0 e1) hH.size.symm ht.2 hH.df has ?_
  rintro ex l' k ⟨y, z, h0, h1, h2, h95, hQ⟩ x' w' hd' hn' hsl hbl
  simp only at h0 h1 h2 h95
  obtain ⟨_, g1⟩ := hsl 0 1 _ rfl h0
  obtain ⟨_, g2⟩ := hsl 1 2 _ rfl h1
  obtain ⟨ρ, g3⟩ := hsl 2 3 _ rfl h2
  have g1 : x'.tmps.toList.getD 1 undef = .int .i64 (E.i .i64 0) := g1
  exact hQ x' w' (below_trans hb rfl hbl) ⟨hn'.trans h95, hd', by rw [g1, e0], g2⟩ ⟨ρ, g3⟩

theorem middle {s : Nat} (hs : s < 15) (W0 : World) (Q : Exit → Act → World → Prop) (hend : ∀ x w, RowKit.Below W0.heap.size W0 w → At2 s 256 x → Q (.exit 2) x w) :
    ∀ (d : Nat) (a : Int) x w, RowKit.Below W0.heap.size W0 w → 0 ≤ a → a + d = 256 → At2 s a x → Code.rounds Try.prog (pc [1, 0, 1, 0, 0, 1, 0, 0, 1, 0, 0]) Q (d + 1) x w := by
  intro d
  induction d with
  | zero =>
    intro a x w hb a0 hd hH
    obtain rfl : a = 256 := by omega
    rw [rounds_succ]
    show Code.wp Try.prog (sub (body 5) (path [1, 0, 1, 0, 0, 1, 0, 0, 1, 0, 0])) _ _ _
    rw [all_loop2]
    refine wp_seq ?_
    refine step2 (by omega) (by omega) a0 (by omega) m_test (by kernel_rfl) hb hH fun E e0 e1 => ?_
    have v1 : (IExp.var .i64 1).den E = 256 := e1
    have q1 : (BExp.le (.var .i64 1) (.lit 255)).den E = false := by rw [le_den, v1, litD]; rfl
    rw [WT.holds, if_neg (by rw [q1]; exact Bool.false_ne_true)]
    refine ⟨.var .i64 1, .any, rfl, rfl, rfl, rfl, fun x' w' hb' hH' _ => ?_⟩
    rw [v1] at hH'
    exact hend x' w' hb' hH'
  | succ d ih =>
    intro a x w hb a0 hd hH
    rw [rounds_succ]
    show Code.wp Try.prog (sub (body 5) (path [1, 0, 1, 0, 0, 1, 0, 0, 1, 0, 0])) _ _ _
    rw [all_loop2]
    refine wp_seq ?_
    refine step2 (by omega) (by omega) a0 (by omega) m_test (by kernel_rfl) hb hH fun E e0 e1 => ?_
    have v1 : (IExp.var .i64 1).den E = a := e1
    have q1 : (BExp.le (.var .i64 1) (.lit 255)).den E = true := by rw [le_den, v1, litD]; exact decide_eq_true (by omega)
    rw [WT.holds, if_pos q1]
    refine ⟨.var .i64 1, .any, rfl, rfl, rfl, rfl, fun x' w' hb' hH' _ => ?_⟩
    rw [v1] at hH'
    simp only [XE.to, Exit.then]
    refine wp_seq (wp_block (wp_seq ?_))
    refine step2 (by omega) (by omega) a0 (by omega) m_init (by kernel_rfl) hb' hH' fun E e0 e1 => ?_
    have v1 : (IExp.var .i64 1).den E = a := e1
    rw [WT.holds]
    refine ⟨.var .i64 1, .v (.c (.i .i64 (.lit 0))), rfl, rfl, rfl, rfl, fun x2 w2 hb2 hH2 h3 => ?_⟩
    rw [v1] at hH2
    obtain ⟨_, h3⟩ := h3
    simp only [XE.to, Exit.then]
    refine wp_block (wp_loop_rounds 257 ?_)
    refine inner hs a0 (by omega) W0 _ ?_ 256 0 x2 w2 hb2 (by omega) (by omega) ⟨hH2.size, hH2.df, hH2.t1, hH2.t2, h3⟩
    intro x3 w3 hb3 hH3
    simp only [Exit.inBlock, Exit.then]
    refine step2 (by omega) (by omega) a0 (by omega) m_next (by kernel_rfl) hb3 ⟨hH3.size, hH3.df, hH3.t1, hH3.t2⟩ fun E e0 e1 => ?_
    have v1 : (IExp.var .i64 1).den E = a := e1
    have v2 : (IExp.bin .add .i64 (.var .i64 1) (.lit 1)).den E = a + 1 := by
      rw [binE, v1, litD]; exact wrap64 (by omega) (by omega)
    rw [WT.holds]
    refine ⟨_, .any, rfl, rfl, rfl, rfl, fun x4 w4 hb4 hH4 _ => ?_⟩
    rw [v2] at hH4
    simp only [XE.to, Exit.then]
    exact ih (a + 1) x4 w4 hb4 (by omega) (by omega) hH4
end Go.Proofs.Ytkndkecbajfehaa.Bits
