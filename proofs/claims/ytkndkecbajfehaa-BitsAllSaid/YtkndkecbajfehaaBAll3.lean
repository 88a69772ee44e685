/- BitsAll: the outer loop, the walk. -/
import Derived.Test.YtkndkecbajfehaaBAll2
namespace Go.Proofs.Ytkndkecbajfehaa.Bits
open Go Sy
set_option maxRecDepth 100000
set_option linter.unusedVariables false
set_option linter.unusedSimpArgs false

theorem o_test : (xCode Try.prog 0 plan tabA 1000 (plan.at 5) 0 (pc [1, 0, 1, 0, 0, 0]) ⟨95, [(1, V0)], true⟩ ⟨[], as2⟩).map (slotsOf [1, 2, 3]) = .node (.le (.var .i64 0) (.lit 14)) (.leaf (.normal, [V0, .any, .any], 95)) (.leaf (.exit 0, [V0, .any, .any], 95)) := by kernel_rfl
theorem o_init : (xCode Try.prog 0 plan tabA 1000 (plan.at 5) 0 (pc [1, 0, 1, 0, 0, 1, 0, 0, 0]) ⟨95, [(1, V0)], true⟩ ⟨[], as2⟩).map (slotsOf [1, 2, 3]) = .leaf (.normal, [V0, intV (.lit 0), .any], 95) := by kernel_rfl
theorem o_next : (xCode Try.prog 0 plan tabA 1000 (plan.at 5) 0 (pc [1, 0, 1, 0, 0, 1, 1]) ⟨95, [(1, V0)], true⟩ ⟨[], as2⟩).map (slotsOf [1, 2, 3]) = .leaf (.normal, [intV (.bin .add .i64 (.var .i64 0) (.lit 1)), .any, .any], 95) := by kernel_rfl
theorem o_last : (xCode Try.prog 0 plan tabA 1000 (plan.at 5) 0 (pc [1, 1]) ⟨95, [], true⟩ ⟨[], []⟩).map (slotsOf [0]) = .leaf (.ret, [.v (.c (.b (.lit true)))], 95) := by kernel_rfl

structure At1 (s : Int) (x : Act) : Prop where
  size : x.tmps.size = 95
  df : x.defers = []
  t1 : x.tmps.toList.getD 1 undef = .int .i64 s
theorem step1 {l : List Nat} {T : WT (XE × List SVal × Nat)} {s : Int} (s0 : 0 ≤ s) (s1 : s ≤ 15)
    (hT : (xCode Try.prog 0 plan tabA 1000 (plan.at 5) 0 (pc l) ⟨95, [(1, V0)], true⟩ ⟨[], as2⟩).map (slotsOf [1, 2, 3]) = T) (hpl : planned Try.prog (plan.at 5).sch (pc l) = true) {W0 w : World} {x : Act} (hb : RowKit.Below W0.heap.size W0 w) (hH : At1 s x) {Q : Exit → Act → World → Prop}
    (hh : ∀ E : Env, E.i .i64 0 = s → T.holds E (fun q => ∃ y z, q.2.1[0]? = some (intV y) ∧ q.2.1[1]? = some z ∧ q.2.2 = 95 ∧
      ∀ x' w', RowKit.Below W0.heap.size W0 w' → At1 (y.den E) x' → (∃ ρ, z.D E ρ (x'.tmps.toList.getD 2 undef)) → Q q.1.to x' w')) : (pc l).wp Try.prog Q x w := by
  have ok := (srcW [] [] [s, 0] [] []).ok
  have e0 : (srcW [] [] [s, 0] [] []).env.i .i64 0 = s := clip_of (k := .i64) (n := s) (in64 (by omega) (by omega))
  have e1 : (srcW [] [] [s, 0] [] []).env.i .i64 1 = 0 := clip_of (k := .i64) (n := 0) (in64 (by omega) (by omega))
  generalize (srcW [] [] [s, 0] [] []).env = E at ok e0 e1
  have v0 : (IExp.var .i64 0).den E = s := e0
  have v1 : (IExp.var .i64 1).den E = 0 := e1
  have has : AsmOk E as2 := by
    refine AsmOk.cons ?_ (AsmOk.cons ?_ (AsmOk.cons ?_ (AsmOk.cons ?_ (AsmOk.nil _))))
    · rw [le_den, v0, litD]; exact decide_eq_true s1
    · rw [le_den, v0, litD]; exact decide_eq_false (by omega)
    · rw [le_den, v1, litD]; exact decide_eq_true (by omega)
    · rw [le_den, v1, litD]; exact decide_eq_false (by omega)
  have ht := TmD.of_list (e := E) (ρ := []) (n := 95) (vs := x.tmps.toList) (l := [(1, V0)]) (by rw [Array.length_toList, hH.size]) (by
    intro q hq
    simp only [List.mem_cons, List.not_mem_nil, or_false] at hq
    subst hq
    exact hH.t1.trans (congrArg _ e0.symm))
  refine piece ok (tabA_ok _ 0 0) hT hpl (hh E e0) hH.size.symm ht.2 hH.df has ?_
  rintro ex l' k ⟨y, z, h0, h1, h95, hQ⟩ x' w' hd' hn' hsl hbl
  simp only at h0 h1 h95
  obtain ⟨_, g1⟩ := hsl 0 1 _ rfl h0
  obtain ⟨ρ, g2⟩ := hsl 1 2 _ rfl h1
  exact hQ x' w' (below_trans hb rfl hbl) ⟨hn'.trans h95, hd', g1⟩ ⟨ρ, g2⟩
theorem outer (W0 : World) (Q : Exit → Act → World → Prop) (hend : ∀ x w, RowKit.Below W0.heap.size W0 w → At1 15 x → Q (.exit 0) x w) :
    ∀ (d s : Nat) x w, RowKit.Below W0.heap.size W0 w → s + d = 15 → At1 s x → Code.rounds Try.prog (pc [1, 0, 1, 0, 0]) Q (d + 1) x w := by
  intro d
  induction d with
  | zero =>
    intro s x w hb hd hH
    obtain rfl : s = 15 := by omega
    rw [rounds_succ]
    show Code.wp Try.prog (sub (body 5) (path [1, 0, 1, 0, 0])) _ _ _
    rw [all_loop1]
    refine wp_seq ?_
    refine step1 (by omega) (by omega) o_test (by kernel_rfl) hb hH fun E e0 => ?_
    have v0 : (IExp.var .i64 0).den E = 15 := e0
    have q1 : (BExp.le (.var .i64 0) (.lit 14)).den E = false := by rw [le_den, v0, litD]; rfl
    rw [WT.holds, if_neg (by rw [q1]; exact Bool.false_ne_true)]
    refine ⟨.var .i64 0, .any, rfl, rfl, rfl, fun x' w' hb' hH' _ => ?_⟩
    rw [v0] at hH'
    exact hend x' w' hb' hH'
  | succ d ih =>
    intro s x w hb hd hH
    rw [rounds_succ]
    show Code.wp Try.prog (sub (body 5) (path [1, 0, 1, 0, 0])) _ _ _
    rw [all_loop1]
    refine wp_seq ?_
    refine step1 (by omega) (by omega) o_test (by kernel_rfl) hb hH fun E e0 => ?_
    have v0 : (IExp.var .i64 0).den E = s := e0
    have q1 : (BExp.le (.var .i64 0) (.lit 14)).den E = true := by rw [le_den, v0, litD]; exact decide_eq_true (by omega)
    rw [WT.holds, if_pos q1]
    refine ⟨.var .i64 0, .any, rfl, rfl, rfl, fun x' w' hb' hH' _ => ?_⟩
    rw [v0] at hH'
    simp only [XE.to, Exit.then]
    refine wp_seq (wp_block (wp_seq ?_))
    refine step1 (by omega) (by omega) o_init (by kernel_rfl) hb' hH' fun E e0 => ?_
    have v0 : (IExp.var .i64 0).den E = s := e0
    rw [WT.holds]
    refine ⟨.var .i64 0, intV (.lit 0), rfl, rfl, rfl, fun x2 w2 hb2 hH2 h2 => ?_⟩
    rw [v0] at hH2
    obtain ⟨_, h2⟩ := h2
    simp only [XE.to, Exit.then]
    refine wp_block (wp_loop_rounds 257 ?_)
    refine middle (show s < 15 by omega) W0 _ ?_ 256 0 x2 w2 hb2 (by omega) (by omega) ⟨hH2.size, hH2.df, hH2.t1, h2⟩
    intro x3 w3 hb3 hH3
    simp only [Exit.inBlock, Exit.then]
    refine step1 (by omega) (by omega) o_next (by kernel_rfl) hb3 ⟨hH3.size, hH3.df, hH3.t1⟩ fun E e0 => ?_
    have v0 : (IExp.var .i64 0).den E = s := e0
    have v2 : (IExp.bin .add .i64 (.var .i64 0) (.lit 1)).den E = ((s + 1 : Nat) : Int) := by
      rw [binE, v0, litD]; exact wrap64 (by omega) (by omega)
    rw [WT.holds]
    refine ⟨_, .any, rfl, rfl, rfl, fun x4 w4 hb4 hH4 _ => ?_⟩
    rw [v2] at hH4
    simp only [XE.to, Exit.then]
    exact ih (s + 1) x4 w4 hb4 (by omega) hH4

theorem p_first : (xCode Try.prog 0 plan tabA 1000 (plan.at 5) 0 (pc [0]) ⟨95, [], true⟩ ⟨[], []⟩).map (slotsOf [0]) = .leaf (.normal, [.v (.c (.b (.lit false)))], 95) := by kernel_rfl
theorem p_zero : (xCode Try.prog 0 plan tabA 1000 (plan.at 5) 0 (pc [1, 0, 0]) ⟨95, [], true⟩ ⟨[], []⟩).map (slotsOf [1]) = .leaf (.normal, [intV (.lit 0)], 95) := by kernel_rfl
theorem fn5 : ∃ fn, Try.prog.funcs[5]? = some fn ∧ fn.body = some (body 5) ∧ fn.results = #[.tmp 0] ∧ fn.ntmps = 95 := fn_of (by kernel_rfl)
theorem results_one {P : Program} {fn : Func} {i : Nat} (h : fn.results = #[.tmp i]) (t : Array Value) (w : World) : (results fn t).run P w = .ok (t.toList.getD i undef) w := by
  simp [results, h, Array.getD_eq_getD_getElem?, List.getD_eq_getElem?_getD]
theorem all_walk (W : World) : Calls Try.prog 5 #[] W fun en W' => en = .returned (.bool true) ∧ RowKit.Below W.heap.size W W' := by
  obtain ⟨fn, hf, hb, hr, hk⟩ := fn5
  refine calls_of_wp hf hb ?_
  rw [all_body]
  have ok := (srcW [] [] [] [] []).ok
  generalize (srcW [] [] [] [] []).env = E at ok
  have empty : ∀ (x : Act) (q : Nat × SVal), q ∈ ([] : List (Nat × SVal)) → q.2.D E [] (x.tmps.toList.getD q.1 undef) := fun x q hq => by cases hq
  refine wp_seq ?_
  have ht := fun (x : Act) (h : x.tmps.size = 95) => TmD.of_list (e := E) (ρ := []) (n := 95) (vs := x.tmps.toList) (l := []) (by rw [Array.length_toList, h]) (empty x)
  have sz : ({ tmps := #[] ++ Array.replicate (fn.ntmps - (#[] : Array Value).size) undef, defers := [] } : Act).tmps.size = 95 := by simp [hk]
  refine piece ok (tabA_ok _ 0 0) p_first (by kernel_rfl) (Qs := fun q => q = (.normal, [.v (.c (.b (.lit false)))], 95)) (by simp only [WT.holds]) sz.symm (ht _ sz).2 rfl (AsmOk.nil _) ?_
  rintro ex l k hq x1 w1 hd1 hn1 hsl1 hb1
  simp only [Prod.mk.injEq] at hq
  obtain ⟨rfl, rfl, rfl⟩ := hq
  simp only [XE.to, Exit.then]
  refine wp_seq (wp_seq ?_)
  refine piece ok (tabA_ok _ 0 0) p_zero (by kernel_rfl) (Qs := fun q => q = (.normal, [intV (.lit 0)], 95)) (by simp only [WT.holds]) hn1.symm (ht _ hn1).2 hd1 (AsmOk.nil _) ?_
  rintro ex l k hq x2 w2 hd2 hn2 hsl2 hb2
  simp only [Prod.mk.injEq] at hq
  obtain ⟨rfl, rfl, rfl⟩ := hq
  obtain ⟨_, g1⟩ := hsl2 0 1 _ rfl rfl
  simp only [XE.to, Exit.then]
  refine wp_block (wp_loop_rounds 16 ?_)
  refine outer W _ ?_ 15 0 x2 w2 (below_trans hb1 rfl hb2) (by omega) ⟨hn2, hd2, g1⟩
  intro x3 w3 hb3 hH3
  simp only [Exit.inBlock, Exit.then]
  refine piece ok (tabA_ok _ 0 0) o_last (by kernel_rfl) (Qs := fun q => q = (.ret, [.v (.c (.b (.lit true)))], 95)) (by simp only [WT.holds]) hH3.size.symm (ht _ hH3.size).2 hH3.df (AsmOk.nil _) ?_
  rintro ex l k hq x4 w4 hd4 hn4 hsl4 hb4
  simp only [Prod.mk.injEq] at hq
  obtain ⟨rfl, rfl, rfl⟩ := hq
  obtain ⟨_, g0⟩ := hsl4 0 0 _ rfl rfl
  exact ⟨hd4, _, results_one hr x4.tmps w4, by rw [show x4.tmps.toList.getD 0 undef = .bool true from g0], below_trans hb3 rfl hb4⟩
end Go.Proofs.Ytkndkecbajfehaa.Bits
