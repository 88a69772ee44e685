/- BitsLong: the walk. -/
import Derived.Test.YtkndkecbajfehaaBLong
namespace Go.Proofs.Ytkndkecbajfehaa.Bits
open Go Sy
set_option maxRecDepth 100000
set_option linter.unusedVariables false
set_option linter.unusedSimpArgs false

def tabS : Tab := fun _ f args st => if f = 12 then match args with
    | [.v (.c (.i .u8 (.lit op))), .v (.c (.i .u8 a)), .v (.c (.i .u8 b)), .v (.c (.b c))] =>
      if (4 ≤ op ∧ op ≤ 9) ∧ inKind .u8 (a.rng st.as) = true ∧ inKind .u8 (b.rng st.as) = true then
        some (.leaf (.tup [.c (.i .u8 (.fn .u8 2 op.toNat (.i a (.i b (.b c .nil))))), .c (.b (.fn 2 op.toNat (.i a (.i b (.b c .nil)))))], st)) else none
    | _ => none
  else none
structure SumEnv (e : Env) : Prop where
  f : ∀ op a b c, e.fi .u8 2 op [.i a, .i b, .b c] = opV (op : Nat) a b c % 256
  c : ∀ op a b c, e.fb 2 op [.i a, .i b, .b c] = opC (op : Nat) a b c
theorem tabS_ok {e : Env} (ok : EnvOk e) (he : SumEnv e) (G ov : Nat) : TabOk Try.prog G ov tabS e := by
  intro ro f args st t Z ht hov hz ρ vs W R hv ha hr hg hR
  unfold tabS at ht
  split at ht
  · rename_i hf
    subst hf
    split at ht
    · rename_i op x b c
      split at ht
      · rename_i hc
        obtain ⟨hop, hx, hb⟩ := hc
        cases ht
        obtain ⟨v1, _, rfl, h1, v2, _, rfl, h2, v3, _, rfl, h3, v4, _, rfl, h4, rfl⟩ := hv
        have h1 : v1 = .int .u8 op := by have h1 : v1 = .int .u8 ((IExp.lit op).den e) := h1; rw [h1, litD]
        have h2 : v2 = .int .u8 (x.den e) := h2
        have h3 : v3 = .int .u8 (b.den e) := h3
        have h4 : v4 = .bool (c.den e) := h4
        subst h1 h2 h3 h4
        have hopc : ((op.toNat : Nat) : Int) = op := Int.toNat_of_nonneg (by omega)
        refine (op_calls hop (inKind_spec hx (IExp.rng_ok ok ha x)) (inKind_spec hb (IExp.rng_ok ok ha b)) (c.den e) W).mono ?_
        rintro en W' ⟨rfl, hbl⟩
        refine hR _ _ hz ρ _ W' (Post.of_below hr hbl) ⟨[_, _], rfl, _, _, rfl, ?_, _, _, rfl, ?_, rfl⟩ ha
        · show Value.int .u8 _ = .int .u8 (IExp.den e _)
          simp only [IExp.den, LExp.den, he.f, hopc]
        · show Value.bool _ = .bool (BExp.den e _)
          simp only [BExp.den, LExp.den, he.c, hopc]
      · cases ht
    · cases ht
  · cases ht
def tabSA : Tab := fun ro f args st => match tabS ro f args st with
    | some x => some x
    | none => tabA ro f args st

theorem wrapU16_mod (n : Int) : IntKind.u16.wrap n = n % 65536 := by
  unfold IntKind.wrap
  simp [IntKind.bits, IntKind.signed]
theorem long_add {xh xl yh yl : Int} (h1 : 0 ≤ xh ∧ xh ≤ 255) (h2 : 0 ≤ xl ∧ xl ≤ 255) (h3 : 0 ≤ yh ∧ yh ≤ 255) (h4 : 0 ≤ yl ∧ yl ≤ 255) (c : Bool) :
    ((opV 5 xh yh (opC 4 xl yl c) % 256 * 256) % 65536 + opV 4 xl yl c % 256) % 65536 = (256 * xh + xl + (256 * yh + yl)) % 65536 ∧ opC 5 xh yh (opC 4 xl yl c) = !decide (256 * xh + xl + (256 * yh + yl) ≤ 65535) := by
  have e4 : opV 4 xl yl c = xl + yl := by simp [opV]
  have ec : opC 4 xl yl c = decide (255 < xl + yl) := by simp [opC, e4]
  rw [ec, e4]
  by_cases hk : 255 < xl + yl
  · have e5 : opV 5 xh yh (decide (255 < xl + yl)) = xh + yh + 1 := by simp [opV, hk]
    have e6 : opC 5 xh yh (decide (255 < xl + yl)) = decide (255 < xh + yh + 1) := by simp [opC, e5]
    rw [e5, e6]
    exact ⟨by omega, (not_decide_same (by omega)).symm⟩
  · have e5 : opV 5 xh yh (decide (255 < xl + yl)) = xh + yh := by simp [opV, hk]
    have e6 : opC 5 xh yh (decide (255 < xl + yl)) = decide (255 < xh + yh) := by simp [opC, e5]
    rw [e5, e6]
    exact ⟨by omega, (not_decide_same (by omega)).symm⟩
theorem long_sub {xh xl yh yl : Int} (h1 : 0 ≤ xh ∧ xh ≤ 255) (h2 : 0 ≤ xl ∧ xl ≤ 255) (h3 : 0 ≤ yh ∧ yh ≤ 255) (h4 : 0 ≤ yl ∧ yl ≤ 255) (c : Bool) :
    ((opV 9 xh yh (opC 8 xl yl c) % 256 * 256) % 65536 + opV 8 xl yl c % 256) % 65536 = (256 * xh + xl - (256 * yh + yl)) % 65536 ∧ opC 9 xh yh (opC 8 xl yl c) = decide (256 * yh + yl ≤ 256 * xh + xl) := by
  have e4 : opV 8 xl yl c = xl - yl := by simp [opV]
  have ec : opC 8 xl yl c = decide (0 ≤ xl - yl) := by simp [opC, e4]
  rw [ec, e4]
  by_cases hk : 0 ≤ xl - yl
  · have e5 : opV 9 xh yh true = xh - yh := by simp [opV]
    have e6 : opC 9 xh yh true = decide (0 ≤ xh - yh) := by unfold opC; rw [if_neg (by decide), e5]
    rw [decide_eq_true hk, e5, e6]
    exact ⟨by omega, decide_same (by omega)⟩
  · have e5 : opV 9 xh yh false = xh - yh - 1 := by simp [opV]
    have e6 : opC 9 xh yh false = decide (0 ≤ xh - yh - 1) := by unfold opC; rw [if_neg (by decide), e5]
    rw [decide_eq_false hk, e5, e6]
    exact ⟨by omega, decide_same (by omega)⟩
theorem turned (a b : Int) (c : Bool) : opV 6 a b c = opV 8 b a c ∧ opC 6 a b c = opC 8 b a c := by
  have h : opV 6 a b c = opV 8 b a c := by simp [opV]
  exact ⟨h, by simp [opC, h]⟩
theorem turned' (a b : Int) (c : Bool) : opV 7 a b c = opV 9 b a c ∧ opC 7 a b c = opC 9 b a c := by
  have h : opV 7 a b c = opV 9 b a c := by simp [opV]
  exact ⟨h, by simp [opC, h]⟩
theorem with_true (a b : Int) (c : Bool) : opV 7 a b true = opV 6 a b c ∧ opC 7 a b true = opC 6 a b c := by
  have h : opV 7 a b true = opV 6 a b c := by simp [opV]
  exact ⟨h, by simp [opC, h]⟩
theorem with_false (a b : Int) (c : Bool) : opV 5 a b false = opV 4 a b c ∧ opC 5 a b false = opC 4 a b c := by
  have h : opV 5 a b false = opV 4 a b c := by simp [opV]
  exact ⟨h, by simp [opC, h]⟩

abbrev XE' : IExp := .var .u16 0
abbrev YE' : IExp := .var .u16 1
abbrev hi (x : IExp) : IExp := .bin .quo .i64 x (.lit 256)
abbrev lo (x : IExp) : IExp := .bin .rem .i64 x (.lit 256)
abbrev fv (op : Nat) (a b : IExp) (c : BExp) : IExp := .fn .u8 2 op (.i a (.i b (.b c .nil)))
abbrev fc (op : Nat) (a b : IExp) (c : BExp) : BExp := .fn 2 op (.i a (.i b (.b c .nil)))
abbrev wd (o1 o2 : Nat) (x y : IExp) : IExp := .bin .add .u16 (.bin .mul .u16 (fv o2 (hi x) (hi y) (fc o1 (lo x) (lo y) (.var 0))) (.lit 256)) (fv o1 (lo x) (lo y) (.var 0))
abbrev kd (o1 o2 : Nat) (x y : IExp) : BExp := fc o2 (hi x) (hi y) (fc o1 (lo x) (lo y) (.var 0))
abbrev tail2 : WT SVal := .node (.eq (fv 5 (lo XE') (lo YE') (.lit false)) (fv 4 (lo XE') (lo YE') (.var 0))) (.node (fc 5 (lo XE') (lo YE') (.lit false)) (.node (fc 4 (lo XE') (lo YE') (.var 0)) yes no) (.node (fc 4 (lo XE') (lo YE') (.var 0)) no yes)) no
abbrev tail1 : WT SVal := .node (.eq (fv 7 (lo XE') (lo YE') (.lit true)) (fv 6 (lo XE') (lo YE') (.var 0))) (.node (fc 7 (lo XE') (lo YE') (.lit true)) (.node (fc 6 (lo XE') (lo YE') (.var 0)) tail2 no) (.node (fc 6 (lo XE') (lo YE') (.var 0)) no tail2)) no
abbrev mid : WT SVal := .node (.eq (wd 8 9 XE' YE') (.bin .sub .u16 XE' YE'))
  (.node (kd 8 9 XE' YE') (.node (.le YE' XE') (.node (.eq (wd 6 7 YE' XE') (wd 8 9 XE' YE')) (.node (kd 6 7 YE' XE') tail1 no) no) no)
    (.node (.le YE' XE') no (.node (.eq (wd 6 7 YE' XE') (wd 8 9 XE' YE')) (.node (kd 6 7 YE' XE') no tail1) no))) no
def longTree : WT SVal := .node (.eq (wd 4 5 XE' YE') (.bin .add .u16 XE' YE'))
  (.node (kd 4 5 XE' YE') (.node (.le (.bin .add .i64 XE' YE') (.lit 65535)) no mid) (.node (.le (.bin .add .i64 XE' YE') (.lit 65535)) mid no)) no
theorem long_tree : (xCall Try.prog 0 plan tabSA 1000 0 10 [.v (.c (.i .u16 XE')), .v (.c (.i .u16 YE')), .v (.c (.b (.var 0)))] ⟨[], []⟩).map (fun q => q.1) = longTree := by kernel_rfl

theorem opC_bound (o a b : Int) (c : Bool) : 0 ≤ opV o a b c % 256 ∧ opV o a b c % 256 ≤ 255 := ⟨Int.emod_nonneg _ (by omega), by have := Int.emod_lt_of_pos (opV o a b c) (show (0 : Int) < 256 by omega); omega⟩
def srcLong (x y : Int) (c : Bool) : Src := { srcW [] [x, y] [] [c] [] with
  fi := fun k f j l => match k, f, l with
    | .u8, 2, [.i a, .i b, .b c] => opV (j : Nat) a b c % 256
    | _, _, _ => 0,
  fb := fun f j l => match f, l with
    | 2, [.i a, .i b, .b c] => opC (j : Nat) a b c
    | _, _ => false }
theorem srcLong_env (x y : Int) (c : Bool) : SumEnv (srcLong x y c).env := by
  refine ⟨fun op a b d => ?_, fun op a b d => rfl⟩
  have := opC_bound (op : Nat) a b d
  exact clip_of (k := .u8) (n := opV (op : Nat) a b d % 256) ⟨by simp only [IntKind.min_u8]; exact this.1, by simp only [IntKind.max_u8]; exact this.2⟩
theorem long_yes {E : Env} (he : SumEnv E) {x y : Int} {c : Bool} (ex : XE'.den E = x) (ey : YE'.den E = y) (ec : (BExp.var 0).den E = c) (x0 : 0 ≤ x) (x1 : x ≤ 65535) (y0 : 0 ≤ y) (y1 : y ≤ 65535) :
    longTree.holds E (fun v : SVal => ∀ ρ V, v.D E ρ V → V = .bool true) := by
  have wx : IntKind.i64.wrap (x / 256) = x / 256 := small64 (by omega) (by omega)
  have wy : IntKind.i64.wrap (y / 256) = y / 256 := small64 (by omega) (by omega)
  have wxy : IntKind.i64.wrap (x + y) = x + y := small64 (by omega) (by omega)
  have tx : Int.tdiv x 256 = x / 256 := Int.tdiv_eq_ediv_of_nonneg x0
  have ty : Int.tdiv y 256 = y / 256 := Int.tdiv_eq_ediv_of_nonneg y0
  have mx : Int.tmod x 256 = x % 256 := Int.tmod_eq_emod_of_nonneg x0
  have my : Int.tmod y 256 = y % 256 := Int.tmod_eq_emod_of_nonneg y0
  have hx : x = 256 * (x / 256) + x % 256 := by omega
  have hy : y = 256 * (y / 256) + y % 256 := by omega
  have r1 : 0 ≤ x / 256 ∧ x / 256 ≤ 255 := by omega
  have r2 : 0 ≤ x % 256 ∧ x % 256 ≤ 255 := by omega
  have r3 : 0 ≤ y / 256 ∧ y / 256 ≤ 255 := by omega
  have r4 : 0 ≤ y % 256 ∧ y % 256 ≤ 255 := by omega
  obtain ⟨p1, p2⟩ := long_add r1 r2 r3 r4 c
  obtain ⟨p3, p4⟩ := long_sub r1 r2 r3 r4 c
  rw [← hx, ← hy] at p1 p2 p3 p4
  have dhx : (hi XE').den E = x / 256 := by
    show binDen .quo .i64 (XE'.den E) ((IExp.lit 256).den E) = _
    rw [ex, litD]; simp only [binDen]; rw [tx, wx]
  have dhy : (hi YE').den E = y / 256 := by
    show binDen .quo .i64 (YE'.den E) ((IExp.lit 256).den E) = _
    rw [ey, litD]; simp only [binDen]; rw [ty, wy]
  have dlx : (lo XE').den E = x % 256 := by
    show binDen .rem .i64 (XE'.den E) ((IExp.lit 256).den E) = _
    rw [ex, litD]; simp only [binDen]; rw [mx]
  have dly : (lo YE').den E = y % 256 := by
    show binDen .rem .i64 (YE'.den E) ((IExp.lit 256).den E) = _
    rw [ey, litD]; simp only [binDen]; rw [my]
  have dfv : ∀ o a b k, (fv o a b k).den E = opV (o : Nat) (a.den E) (b.den E) (k.den E) % 256 := fun o a b k => by simp only [IExp.den, LExp.den, he.f]
  have dfc : ∀ o a b k, (fc o a b k).den E = opC (o : Nat) (a.den E) (b.den E) (k.den E) := fun o a b k => by simp only [BExp.den, LExp.den, he.c]
  have dwd : ∀ o1 o2 u v, (wd o1 o2 u v).den E = ((opV (o2 : Nat) ((hi u).den E) ((hi v).den E) (opC (o1 : Nat) ((lo u).den E) ((lo v).den E) c) % 256 * 256) % 65536 + opV (o1 : Nat) ((lo u).den E) ((lo v).den E) c % 256) % 65536 := fun o1 o2 u v => by
    show IntKind.u16.wrap (IntKind.u16.wrap ((fv o2 (hi u) (hi v) (fc o1 (lo u) (lo v) (.var 0))).den E * (IExp.lit 256).den E) + (fv o1 (lo u) (lo v) (.var 0)).den E) = _
    rw [wrapU16_mod, wrapU16_mod, dfv, dfv, dfc, litD, ec]
  have dkd : ∀ o1 o2 u v, (kd o1 o2 u v).den E = opC (o2 : Nat) ((hi u).den E) ((hi v).den E) (opC (o1 : Nat) ((lo u).den E) ((lo v).den E) c) := fun o1 o2 u v => by
    show (fc o2 (hi u) (hi v) (fc o1 (lo u) (lo v) (.var 0))).den E = _
    rw [dfc, dfc, ec]
  have dadd : (IExp.bin .add .u16 XE' YE').den E = (x + y) % 65536 := by rw [binE, ex, ey]; simp only [binDen]; rw [wrapU16_mod]
  have dsub : (IExp.bin .sub .u16 XE' YE').den E = (x - y) % 65536 := by rw [binE, ex, ey]; simp only [binDen]; rw [wrapU16_mod]
  have dadd64 : (IExp.bin .add .i64 XE' YE').den E = x + y := by rw [binE, ex, ey]; simp only [binDen]; rw [wxy]
  have eqD : ∀ a b : IExp, a.den E = b.den E → (BExp.eq a b).den E = true := fun a b h => by
    show decide (a.den E = b.den E) = true
    rw [h]; exact decide_eq_true rfl
  have C1 := eqD (wd 4 5 XE' YE') (.bin .add .u16 XE' YE') (by rw [dwd, dadd, dhx, dhy, dlx, dly]; exact p1)
  have C2 := eqD (wd 8 9 XE' YE') (.bin .sub .u16 XE' YE') (by rw [dwd, dsub, dhx, dhy, dlx, dly]; exact p3)
  have C3 := eqD (wd 6 7 YE' XE') (wd 8 9 XE' YE') (by
    rw [dwd, dwd, dhx, dhy, dlx, dly]
    show (opV 7 _ _ (opC 6 _ _ c) % 256 * 256 % 65536 + opV 6 _ _ c % 256) % 65536 = _
    rw [(turned' _ _ _).1, (turned _ _ _).1, (turned _ _ _).2]
    rfl)
  have E1 := eqD (fv 7 (lo XE') (lo YE') (.lit true)) (fv 6 (lo XE') (lo YE') (.var 0)) (by
    rw [dfv, dfv, ec]
    show opV 7 _ _ ((BExp.lit true).den E) % 256 = opV 6 _ _ c % 256
    rw [show (BExp.lit true).den E = true by simp only [BExp.den], (with_true _ _ c).1])
  have E2 := eqD (fv 5 (lo XE') (lo YE') (.lit false)) (fv 4 (lo XE') (lo YE') (.var 0)) (by
    rw [dfv, dfv, ec]
    show opV 5 _ _ ((BExp.lit false).den E) % 256 = opV 4 _ _ c % 256
    rw [show (BExp.lit false).den E = false by simp only [BExp.den], (with_false _ _ c).1])
  have K1 : (kd 4 5 XE' YE').den E = !(BExp.le (.bin .add .i64 XE' YE') (.lit 65535)).den E := by
    rw [dkd, dhx, dhy, dlx, dly, le_den, dadd64, litD]; exact p2
  have K2 : (kd 8 9 XE' YE').den E = (BExp.le YE' XE').den E := by
    rw [dkd, dhx, dhy, dlx, dly, le_den, ex, ey]; exact p4
  have K3 : (kd 6 7 YE' XE').den E = (kd 8 9 XE' YE').den E := by
    rw [dkd, dkd]
    show opC 7 _ _ (opC 6 _ _ c) = _
    rw [(turned' _ _ _).2, (turned _ _ _).2]
    rfl
  have A : (fc 7 (lo XE') (lo YE') (.lit true)).den E = (fc 6 (lo XE') (lo YE') (.var 0)).den E := by
    rw [dfc, dfc, ec]
    show opC 7 _ _ ((BExp.lit true).den E) = opC 6 _ _ c
    rw [show (BExp.lit true).den E = true by simp only [BExp.den], (with_true _ _ c).2]
  have P : (fc 5 (lo XE') (lo YE') (.lit false)).den E = (fc 4 (lo XE') (lo YE') (.var 0)).den E := by
    rw [dfc, dfc, ec]
    show opC 5 _ _ ((BExp.lit false).den E) = opC 4 _ _ c
    rw [show (BExp.lit false).den E = false by simp only [BExp.den], (with_false _ _ c).2]
  have hy : ∀ ρ V, (SVal.v (.c (.b (.lit true)))).D E ρ V → V = .bool true := fun ρ V hV => by
    have hV : V = .bool ((BExp.lit true).den E) := hV
    rw [hV]; simp only [BExp.den]
  simp only [longTree, WT.holds, C1, C2, C3, E1, E2, K1, K3, K2, A, P, if_true]
  generalize (BExp.le (.bin .add .i64 XE' YE') (.lit 65535)).den E = g
  generalize (BExp.le YE' XE').den E = l
  generalize (fc 6 (lo XE') (lo YE') (.var 0)).den E = m
  generalize (fc 4 (lo XE') (lo YE') (.var 0)).den E = p
  cases g <;> cases l <;> cases m <;> cases p <;> simp only [Bool.not_true, Bool.not_false, Bool.false_eq_true, if_true, if_false] <;> exact hy
theorem long_walk (x : Int) (hx : IntKind.u16.min ≤ x ∧ x ≤ IntKind.u16.max) (y : Int) (hy : IntKind.u16.min ≤ y ∧ y ≤ IntKind.u16.max) (c : Bool) (W : World) :
    Calls Try.prog 10 #[.int .u16 x, .int .u16 y, .bool c] W fun en W' => en = .returned (.bool true) ∧ RowKit.Below W.heap.size W W' := by
  have ok := (srcLong x y c).ok
  have he := srcLong_env x y c
  have e0 : (srcLong x y c).env.i .u16 0 = x := clip_of (k := .u16) (n := x) hx
  have e1 : (srcLong x y c).env.i .u16 1 = y := clip_of (k := .u16) (n := y) hy
  have eb : (srcLong x y c).env.b 0 = c := rfl
  generalize (srcLong x y c).env = E at ok he e0 e1 eb
  have hh := long_yes he (x := x) (y := y) (c := c) e0 e1 (by simp only [BExp.den, eb]) (by simpa only [IntKind.min_u16] using hx.1) (by simpa only [IntKind.max_u16] using hx.2) (by simpa only [IntKind.min_u16] using hy.1) (by simpa only [IntKind.max_u16] using hy.2)
  refine (call_any ok (TabOk.or (tabS_ok ok he 0 0) (tabA_ok _ 0 0)) (args := [.v (.c (.i .u16 XE')), .v (.c (.i .u16 YE')), .v (.c (.b (.var 0)))]) (vs := [.int .u16 x, .int .u16 y, .bool c]) W ⟨_, _, rfl, ?_, _, _, rfl, ?_, _, _, rfl, ?_, rfl⟩ (AsmOk.nil _) long_tree hh).mono ?_
  · exact congrArg _ e0.symm
  · exact congrArg _ e1.symm
  · exact congrArg _ eb.symm
  · rintro en W' ⟨v, ρ, V, hz, rfl, hV, hbl⟩
    exact ⟨by rw [hz ρ V hV], hbl⟩
end Go.Proofs.Ytkndkecbajfehaa.Bits
