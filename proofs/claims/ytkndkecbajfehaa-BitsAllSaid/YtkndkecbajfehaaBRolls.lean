/- Nine rolls through the carry change nothing. -/
import Derived.Test.YtkndkecbajfehaaBDo
namespace Go.Proofs.Ytkndkecbajfehaa.Bits
open Go Sy
set_option maxRecDepth 100000
set_option linter.unusedVariables false
set_option linter.unusedSimpArgs false

/-- A call over plain arguments: what its leaves have in common. -/
theorem call_any {e : Env} (ok : EnvOk e) {tab : Tab} (htab : TabOk Try.prog 0 0 tab e) {f n : Nat} {args : List SVal} {vs : List Value} {q : Asm} (W : World) (hargs : SValsD e [] args vs) (hq : AsmOk e q) {T : WT SVal} {Qv : SVal → Prop}
    (hT : (xCall Try.prog 0 plan tab n 0 f args ⟨[], q⟩).map (fun q => q.1) = T) (hh : T.holds e Qv) : Calls Try.prog f vs.toArray W fun en W' => ∃ v ρ V, Qv v ∧ en = .returned V ∧ v.D e ρ V ∧ RowKit.Below W.heap.size W W' := by
  have hw := WT.holds_of_map (e := e) (f := fun q : SVal × St => q.1) (Q := Qv) (t := xCall Try.prog 0 plan tab n 0 f args ⟨[], q⟩) (by rw [hT]; exact hh)
  refine (run_call ok mixed plan_ok LtOk.none htab hargs hq (HRel.none _ _ W) (noGlob _) (Nat.le_refl _) hw).mono ?_
  rintro en W' ⟨v, st', ρ', V, hz, rfl, hV, ha, hbl⟩
  exact ⟨v, ρ', V, hz, rfl, hV, hbl⟩
/-- A roll: what it gives, and the carry. -/
def rollF (op x : Int) (c : Bool) : Int := if op = 11 then x / 2 + (if c then 128 else 0) else (x * 2 + (if c then 1 else 0)) % 256
def rollC (op x : Int) : Bool := if op = 11 then decide (x % 2 = 1) else decide (127 < x)
abbrev X0 : IExp := .var .u8 0
abbrev rollArgs (op : Int) : List SVal := [.v (.c (.i .u8 (.lit op))), .v (.c (.i .u8 X0)), .v (.c (.i .u8 (.var .u8 1))), .v (.c (.b (.var 0)))]
theorem roll11 : (xCall Try.prog 0 plan tabA 1000 0 12 (rollArgs 11) ⟨[], []⟩).map (fun q => q.1) = .node (.var 0)
    (.leaf (.tup [.c (.i .u8 (.bin .add .i64 (.bin .quo .i64 X0 (.lit 2)) (.lit 128))), .c (.b (.eq (.bin .rem .i64 X0 (.lit 2)) (.lit 1)))]))
    (.leaf (.tup [.c (.i .u8 (.bin .quo .i64 X0 (.lit 2))), .c (.b (.eq (.bin .rem .i64 X0 (.lit 2)) (.lit 1)))])) := by kernel_rfl
theorem roll13 : (xCall Try.prog 0 plan tabA 1000 0 12 (rollArgs 13) ⟨[], []⟩).map (fun q => q.1) = .node (.var 0)
    (.leaf (.tup [.c (.i .u8 (.conv .u8 (.bin .add .i64 (.bin .mul .i64 X0 (.lit 2)) (.lit 1)))), .c (.b (.not (.le X0 (.lit 127))))]))
    (.leaf (.tup [.c (.i .u8 (.bin .rem .i64 (.bin .mul .i64 X0 (.lit 2)) (.lit 256))), .c (.b (.not (.le X0 (.lit 127))))])) := by kernel_rfl
theorem wrapU8_mod (n : Int) : IntKind.u8.wrap n = n % 256 := by
  unfold IntKind.wrap
  simp [IntKind.bits, IntKind.signed]
theorem convE {e : Env} {k : IntKind} {x : IExp} : (IExp.conv k x).den e = k.wrap (x.den e) := by simp only [IExp.den]
theorem tup2 {e : Env} {ρ : Rho} {x : IExp} {b : BExp} {V : Value} (h : (SVal.tup [.c (.i .u8 x), .c (.b b)]).D e ρ V) : V = .tuple #[.int .u8 (x.den e), .bool (b.den e)] := by
  obtain ⟨vs, rfl, v1, vs1, rfl, h1, v2, vs2, rfl, h2, rfl⟩ := h
  have h1 : v1 = .int .u8 (x.den e) := h1
  have h2 : v2 = .bool (b.den e) := h2
  rw [h1, h2]
theorem roll_calls {op x b : Int} (hop : op = 11 ∨ op = 13) (hx : IntKind.u8.min ≤ x ∧ x ≤ IntKind.u8.max) (hb : IntKind.u8.min ≤ b ∧ b ≤ IntKind.u8.max) (c : Bool) (W : World) :
    Calls Try.prog 12 #[.int .u8 op, .int .u8 x, .int .u8 b, .bool c] W fun en W' => en = .returned (.tuple #[.int .u8 (rollF op x c), .bool (rollC op x)]) ∧ RowKit.Below W.heap.size W W' := by
  have ok := (srcW [x, b] [] [] [c] []).ok
  have e0 : (srcW [x, b] [] [] [c] []).env.i .u8 0 = x := clip_of (k := .u8) (n := x) hx
  have e1 : (srcW [x, b] [] [] [c] []).env.i .u8 1 = b := clip_of (k := .u8) (n := b) hb
  have eb : (srcW [x, b] [] [] [c] []).env.b 0 = c := rfl
  generalize (srcW [x, b] [] [] [c] []).env = E at ok e0 e1 eb
  have x0 : 0 ≤ x := by simpa only [IntKind.min_u8] using hx.1
  have x1 : x ≤ 255 := by simpa only [IntKind.max_u8] using hx.2
  have key : ∀ o T, o = op → (xCall Try.prog 0 plan tabA 1000 0 12 (rollArgs o) ⟨[], []⟩).map (fun q => q.1) = T → T.holds E (fun v => ∀ ρ V, v.D E ρ V → V = .tuple #[.int .u8 (rollF op x c), .bool (rollC op x)]) →
      Calls Try.prog 12 #[.int .u8 op, .int .u8 x, .int .u8 b, .bool c] W fun en W' => en = .returned (.tuple #[.int .u8 (rollF op x c), .bool (rollC op x)]) ∧ RowKit.Below W.heap.size W W' := by
    rintro o T rfl hT hh
    refine (call_any ok (tabA_ok _ 0 0) (vs := [.int .u8 o, .int .u8 x, .int .u8 b, .bool c]) W ?_ (AsmOk.nil _) hT hh).mono ?_
    · refine ⟨_, _, rfl, ?_, _, _, rfl, ?_, _, _, rfl, ?_, _, _, rfl, ?_, rfl⟩
      · show Value.int .u8 o = .int .u8 ((IExp.lit o).den E)
        rw [litD]
      · exact congrArg _ e0.symm
      · exact congrArg _ e1.symm
      · exact congrArg _ eb.symm
    · rintro en W' ⟨v, ρ', V, hz, rfl, hV, hbl⟩
      exact ⟨by rw [hz ρ' V hV], hbl⟩
  have v0 : X0.den E = x := e0
  rcases hop with rfl | rfl
  · refine key 11 _ rfl roll11 ?_
    simp only [WT.holds, BExp.den, eb]
    split
    · rename_i hc
      intro ρ V hV
      rw [tup2 hV]
      simp only [binE, litD, v0, BExp.den, binDen, rollF, rollC, hc, if_true]
      have : Int.tdiv x 2 = x / 2 := Int.tdiv_eq_ediv_of_nonneg x0
      have h2 : Int.tmod x 2 = x % 2 := Int.tmod_eq_emod_of_nonneg x0
      rw [this, h2, wrap64 (show -9223372036854775808 ≤ x / 2 by omega) (by omega), wrap64 (by omega) (by omega)]
    · rename_i hc
      intro ρ V hV
      rw [tup2 hV]
      simp only [binE, litD, v0, BExp.den, binDen, rollF, rollC, hc, if_true]
      have : Int.tdiv x 2 = x / 2 := Int.tdiv_eq_ediv_of_nonneg x0
      have h2 : Int.tmod x 2 = x % 2 := Int.tmod_eq_emod_of_nonneg x0
      rw [this, h2, wrap64 (show -9223372036854775808 ≤ x / 2 by omega) (by omega)]
      simp [hc]
  · have hd : (BExp.not (.le X0 (.lit 127))).den E = decide (127 < x) := by
      simp only [BExp.den, v0, litD]
      exact not_decide_same (by omega)
    refine key 13 _ rfl roll13 ?_
    have hv : (BExp.var 0).den E = c := by simp only [BExp.den, eb]
    simp only [WT.holds, hv]
    split
    · rename_i hc
      intro ρ V hV
      rw [tup2 hV, hd, convE, binE, binE, litD, litD, v0]
      simp only [binDen, rollF, rollC]
      rw [wrap64 (show -9223372036854775808 ≤ x * 2 by omega) (by omega), wrap64 (by omega) (by omega), wrapU8_mod]
      simp [hc]
    · rename_i hc
      intro ρ V hV
      rw [tup2 hV, hd, binE, binE, litD, litD, v0]
      simp only [binDen, rollF, rollC]
      rw [wrap64 (show -9223372036854775808 ≤ x * 2 by omega) (by omega), Int.tmod_eq_emod_of_nonneg (by omega)]
      simp [hc]
def tabD : Tab := fun _ f args st => if f = 12 then match args with
    | [.v (.c (.i .u8 (.lit op))), .v (.c (.i .u8 a)), .v (.c (.i .u8 b)), .v (.c (.b c))] =>
      if (op = 11 ∨ op = 13) ∧ inKind .u8 (a.rng st.as) = true ∧ inKind .u8 (b.rng st.as) = true then
        some (.leaf (.tup [.c (.i .u8 (.fn .u8 1 op.toNat (.i a (.b c .nil)))), .c (.b (.fn 1 op.toNat (.i a .nil)))], st)) else none
    | _ => none
  else none
structure RollEnv (e : Env) : Prop where
  f : ∀ op, op = 11 ∨ op = 13 → ∀ x c, 0 ≤ x → x ≤ 255 → e.fi .u8 1 op [.i x, .b c] = rollF (op : Nat) x c
  c : ∀ op, op = 11 ∨ op = 13 → ∀ x, e.fb 1 op [.i x] = rollC (op : Nat) x
theorem tabD_ok {e : Env} (ok : EnvOk e) (he : RollEnv e) (G ov : Nat) : TabOk Try.prog G ov tabD e := by
  intro ro f args st t Z ht hov hz ρ vs W R hv ha hr hg hR
  unfold tabD at ht
  split at ht
  · rename_i hf
    subst hf
    split at ht
    · rename_i op x b c
      split at ht
      · rename_i hc
        obtain ⟨hop, hx, hb⟩ := hc
        cases ht
        obtain ⟨v1, _, rfl, h1, v2, _, rfl, h2, v3, _, rfl, h3, v4, _, rfl, h4, rfl⟩ := hv
        have h1 : v1 = .int .u8 op := by have h1 : v1 = .int .u8 ((IExp.lit op).den e) := h1; rw [h1, litD]
        have h2 : v2 = .int .u8 (x.den e) := h2
        have h3 : v3 = .int .u8 (b.den e) := h3
        have h4 : v4 = .bool (c.den e) := h4
        subst h1 h2 h3 h4
        have hxx := inKind_spec hx (IExp.rng_ok ok ha x)
        have x0 : 0 ≤ x.den e := by simpa only [IntKind.min_u8] using hxx.1
        have x1 : x.den e ≤ 255 := by simpa only [IntKind.max_u8] using hxx.2
        have hop' : op.toNat = 11 ∨ op.toNat = 13 := by omega
        have hopc : ((op.toNat : Nat) : Int) = op := by omega
        refine (roll_calls hop hxx (inKind_spec hb (IExp.rng_ok ok ha b)) (c.den e) W).mono ?_
        rintro en W' ⟨rfl, hbl⟩
        refine hR _ _ hz ρ _ W' (Post.of_below hr hbl) ⟨[_, _], rfl, _, _, rfl, ?_, _, _, rfl, ?_, rfl⟩ ha
        · show Value.int .u8 _ = .int .u8 (IExp.den e _)
          simp only [IExp.den, LExp.den, he.f _ hop' _ _ x0 x1, hopc]
        · show Value.bool _ = .bool (BExp.den e _)
          simp only [BExp.den, LExp.den, he.c _ hop', hopc]
      · cases ht
    · cases ht
  · cases ht
def tabDA : Tab := fun ro f args st => match tabD ro f args st with
    | some x => some x
    | none => tabA ro f args st
/-- A roll n times over: as letters, as values. -/
def itE (op : Nat) : Nat → IExp × BExp
  | 0 => (X0, .var 0)
  | n + 1 => (.fn .u8 1 op (.i (itE op n).1 (.b (itE op n).2 .nil)), .fn 1 op (.i (itE op n).1 .nil))
def it (op : Nat) : Nat → Int → Bool → Int × Bool
  | 0, x, c => (x, c)
  | n + 1, x, c => (rollF op (it op n x c).1 (it op n x c).2, rollC op (it op n x c).1)
abbrev backE : IExp × BExp := (.fn .u8 1 13 (.i (itE 11 1).1 (.b (itE 11 1).2 .nil)), .fn 1 13 (.i (itE 11 1).1 .nil))
abbrev yes : WT SVal := .leaf (.v (.c (.b (.lit true))))
abbrev no : WT SVal := .leaf (.v (.c (.b (.lit false))))
def rollTree : WT SVal :=
  .node (.eq (itE 11 9).1 X0) (.node (itE 11 9).2 (.node (.var 0) (.node (.eq (itE 13 9).1 X0) (.node (itE 13 9).2 (.node (.eq backE.1 X0) (.node backE.2 yes no) no) no) no) no)
    (.node (.var 0) no (.node (.eq (itE 13 9).1 X0) (.node (itE 13 9).2 no (.node (.eq backE.1 X0) (.node backE.2 no yes) no)) no))) no
theorem rolls_tree : (xCall Try.prog 0 plan tabDA 1000 0 8 [.v (.c (.i .u8 (.var .u8 0))), .v (.c (.b (.var 0))), .v (.c (.i .u8 (.var .u8 1)))] ⟨[], []⟩).map (fun q => q.1) =
  rollTree := by kernel_rfl
theorem rolls_plain : ((List.range 256).all fun x => [true, false].all fun c => decide (it 11 9 x c = ((x : Int), c)) && decide (it 13 9 x c = ((x : Int), c)) && decide (rollF 13 (rollF 11 x c) (rollC 11 x) = (x : Int)) && decide (rollC 13 (rollF 11 x c) = c)) = true := by kernel_rfl
theorem roll_range {op x : Int} {c : Bool} (h0 : 0 ≤ x) (h1 : x ≤ 255) : 0 ≤ rollF op x c ∧ rollF op x c ≤ 255 := by
  unfold rollF
  split
  · cases c <;> simp <;> omega
  · exact ⟨Int.emod_nonneg _ (by omega), by have := Int.emod_lt_of_pos (x * 2 + (if c then 1 else 0)) (show (0 : Int) < 256 by omega); omega⟩
theorem it_range {op : Nat} {x : Int} {c : Bool} (h0 : 0 ≤ x) (h1 : x ≤ 255) : ∀ n, 0 ≤ (it op n x c).1 ∧ (it op n x c).1 ≤ 255
  | 0 => ⟨h0, h1⟩
  | n + 1 => by
    have := it_range (op := op) (c := c) h0 h1 n
    exact roll_range this.1 this.2
theorem itE_den {e : Env} (he : RollEnv e) {op : Nat} (hop : op = 11 ∨ op = 13) {x : Int} {c : Bool} (hx : X0.den e = x) (hc : (BExp.var 0).den e = c) (h0 : 0 ≤ x) (h1 : x ≤ 255) : ∀ n, (itE op n).1.den e = (it op n x c).1 ∧ (itE op n).2.den e = (it op n x c).2
  | 0 => ⟨hx, hc⟩
  | n + 1 => by
    obtain ⟨g1, g2⟩ := itE_den he hop hx hc h0 h1 n
    obtain ⟨r0, r1⟩ := it_range (op := op) (c := c) h0 h1 n
    constructor
    · simp only [itE, IExp.den, LExp.den, g1, g2, he.f op hop _ _ r0 r1, it]
    · simp only [itE, BExp.den, LExp.den, g1, he.c op hop, it]
def srcRoll (a b : Int) (c : Bool) : Src := { srcW [a, b] [] [] [c] [] with
  fi := fun k f j l => match k, f, l with
    | .u8, 1, [.i x, .b c] => rollF (j : Nat) x c
    | _, _, _ => 0,
  fb := fun f j l => match f, l with
    | 1, [.i x] => rollC (j : Nat) x
    | _, _ => false }
theorem srcRoll_env (a b : Int) (c : Bool) : RollEnv (srcRoll a b c).env := by
  refine ⟨fun op hop x d h0 h1 => ?_, fun op hop x => rfl⟩
  have := roll_range (op := (op : Int)) (c := d) h0 h1
  exact clip_of (k := .u8) (n := rollF (op : Nat) x d) ⟨by simp only [IntKind.min_u8]; exact this.1, by simp only [IntKind.max_u8]; exact this.2⟩
theorem rolls_walk (a : Int) (ha : IntKind.u8.min ≤ a ∧ a ≤ IntKind.u8.max) (c : Bool) (b : Int) (hb : IntKind.u8.min ≤ b ∧ b ≤ IntKind.u8.max) (W : World) :
    Calls Try.prog 8 #[.int .u8 a, .bool c, .int .u8 b] W fun en W' => en = .returned (.bool true) ∧ RowKit.Below W.heap.size W W' := by
  have ok := (srcRoll a b c).ok
  have he := srcRoll_env a b c
  have x0 : 0 ≤ a := by simpa only [IntKind.min_u8] using ha.1
  have x1 : a ≤ 255 := by simpa only [IntKind.max_u8] using ha.2
  have e0 : (srcRoll a b c).env.i .u8 0 = a := clip_of (k := .u8) (n := a) ha
  have e1 : (srcRoll a b c).env.i .u8 1 = b := clip_of (k := .u8) (n := b) hb
  have eb : (srcRoll a b c).env.b 0 = c := rfl
  generalize (srcRoll a b c).env = E at ok he e0 e1 eb
  have hall := List.all_eq_true.1 (List.all_eq_true.1 rolls_plain a.toNat (List.mem_range.2 (by omega))) c (by cases c <;> simp)
  rw [Int.toNat_of_nonneg x0] at hall
  simp only [Bool.and_eq_true, decide_eq_true_eq] at hall
  obtain ⟨⟨⟨h11, h13⟩, hbk⟩, hbc⟩ := hall
  have hv : (BExp.var 0).den E = c := by simp only [BExp.den, eb]
  have hx : X0.den E = a := e0
  obtain ⟨d1, d2⟩ := itE_den he (.inl rfl) hx hv x0 x1 9
  obtain ⟨d3, d4⟩ := itE_den he (.inr rfl) hx hv x0 x1 9
  obtain ⟨d5, d6⟩ := itE_den he (.inl rfl) hx hv x0 x1 1
  rw [h11] at d1 d2
  rw [h13] at d3 d4
  have hr := roll_range (op := 11) (c := c) x0 x1
  have d7 : backE.1.den E = a := by
    simp only [backE, IExp.den, LExp.den, d5, d6]
    show E.fi .u8 1 13 [.i (rollF 11 a c), .b (rollC 11 a)] = a
    rw [he.f 13 (.inr rfl) _ _ hr.1 hr.2]
    exact hbk
  have d8 : backE.2.den E = c := by
    simp only [backE, BExp.den, LExp.den, d5]
    show E.fb 1 13 [.i (rollF 11 a c)] = c
    rw [he.c 13 (.inr rfl)]
    exact hbc
  have hh : rollTree.holds E (fun v : SVal => ∀ ρ V, v.D E ρ V → V = .bool true) := by
      have q1 : (BExp.eq (itE 11 9).1 X0).den E = true := by simp only [BExp.den, d1, hx, decide_true]
      have q2 : (BExp.eq (itE 13 9).1 X0).den E = true := by simp only [BExp.den, d3, hx, decide_true]
      have q3 : (BExp.eq backE.1 X0).den E = true := by
        show decide (backE.1.den E = X0.den E) = true
        rw [d7, hx]; exact decide_eq_true rfl
      have hy : ∀ ρ V, (SVal.v (.c (.b (.lit true)))).D E ρ V → V = .bool true := fun ρ V hV => by
        have hV : V = .bool ((BExp.lit true).den E) := hV
        rw [hV]; simp only [BExp.den]
      simp only [rollTree, WT.holds, q1, q2, q3, d2, d4, d8, hv, if_true]
      cases c
      · simp only [Bool.false_eq_true, if_false]; exact hy
      · simp only [if_true]; exact hy
  refine (call_any ok (TabOk.or (tabD_ok ok he 0 0) (tabA_ok _ 0 0)) (args := [.v (.c (.i .u8 (.var .u8 0))), .v (.c (.b (.var 0))), .v (.c (.i .u8 (.var .u8 1)))]) (vs := [.int .u8 a, .bool c, .int .u8 b]) W ⟨_, _, rfl, ?_, _, _, rfl, ?_, _, _, rfl, ?_, rfl⟩ (AsmOk.nil _) rolls_tree hh).mono ?_
  · exact congrArg _ e0.symm
  · exact congrArg _ eb.symm
  · exact congrArg _ e1.symm
  · rintro en W' ⟨v, ρ, V, hz, rfl, hV, hbl⟩
    exact ⟨by rw [hz ρ V hV], hbl⟩
end Go.Proofs.Ytkndkecbajfehaa.Bits
