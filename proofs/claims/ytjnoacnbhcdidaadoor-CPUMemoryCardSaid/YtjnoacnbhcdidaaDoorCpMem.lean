/- CPUMemory. -/
import Derived.Test.YtjnoacnbhcdidaaDoorCpExact
import Derived.Test.YtjnoacnbhcdidaaDoorCpRoom
import Derived.Test.YtjnoacnbhcdidaaDoorKMore
namespace Go.Proofs.YtjnoacnbhcdidaaDoor.K
open Go Sy
set_option maxRecDepth 100000
set_option linter.unusedVariables false
set_option linter.unusedSimpArgs false

def qMm : Path := [true, true, true, true, true, true, false, true, false]
def qMc : Path := [true, true, true, true, true, true, true, false, true, false]
/-- The program's slice: of letters, or none. -/
def mmSl : SV := .c (.sl (some ⟨2, 0, none⟩) (.var .i64 2) (some (.var .i64 3)))
def mmSl0 : SV := .c (.sl (some ⟨2, 0, none⟩) (.lit 0) (some (.lit 0)))
def svC : SV → Seg
  | .c x => .c x
  | .agg _ => .c .nf
def mmK (sl : SV) : List Seg := [.c (.i .u16 (.var .u16 0)), svC sl, .c (.sl (some ⟨1, 0, none⟩) (.var .i64 0) (some (.var .i64 1)))]
def mmBlk : Blk := some ([.row .u8 (.var .u8 20)], 5)
def mmArgs (sl : SV) : List SVal := [cpuV op ph, .v (.agg (mmK sl))]
def mmAs : Asm := [(.le (.var .i64 2) (.len (.var .u8 20)), true), (.le (.var .i64 2) (.lit (-1)), false)]
def mmSt (x : Blk) (q : Asm) : St := ⟨g0 ++ [none, x], (.eq (.len (.var .u8 9)) (.lit 65536), true) :: (.le (.var .i64 0) (.lit (-1)), false) :: q⟩
/-- The memory by a letter. -/
def tabM (x : Blk) (b : BExp) (sl : SV) : Tab := fun ro f args st => match tabCpu ro f args st with
  | some x => some x
  | none => match args with
    | [.v (.c (.i .i64 a)), y] => if f = 11 ∧ a.same (.var .u16 0) = true ∧ y.same (.v sl) = true ∧ blkSame ((st.h[2]?).getD none) x = true ∧ isB (decideB st.as b) true = true then
        some (.leaf (.v (.c (.sl (some ⟨st.h.length, 0, none⟩) (.lit 65536) (some (.lit 65536)))), ⟨st.h ++ [some ([.row .u8 (.var .u8 9)], 5)], st.as⟩)) else none
    | _ => none
def mmB : BExp := .le (.var .i64 2) (.lit 2147483647)
def tabM1 : Tab := tabM mmBlk mmB mmSl
def tabM0 : Tab := tabM none (.lit true) mmSl0
def mmTm : List (Nat × SVal) := [(3, .v (.c (.p (some ⟨3, 0, none⟩)))), (5, .v (.c (.sl (some ⟨4, 0, none⟩) (.lit 65536) (some (.lit 65536))))), (6, .v (.c (.sl (some ⟨5, 0, none⟩) (.lit 65536) (some (.lit 65536))))),
  (7, .v (.c (.p (some ⟨6, 0, none⟩)))), (8, .v (.c (.p (some ⟨7, 0, none⟩)))), (9, .v (.c (.i .i64 (.var .i64 1000))))]
def mmOwn (sl : SV) : SHeap := [some (mmK sl, 30), some ([.row .u8 (.var .u8 1010)], 5), some ([.row .u8 (.var .u8 1010)], 5), some (cpuSegs (cpuN 1000), 26), some (cpuSegs (cpuN 1000), 26)]
def pMm0 (sl : SV) : Pat := ⟨g0 ++ [some ([.el (.var .i64 1) 9 (.var .i64 1000) (pinsCells 5000)], 36), none] ++ mmOwn sl, 117, mmTm,
  [(.le (.var .i64 1000) (.lit (-1)), false), (.lt (.var .i64 1000) (.var .i64 0), true), (.le (.var .i64 0) (.var .i64 1), true), (.le (.var .i64 0) (.lit 2147483647), true), (.eq (.len (.var .u8 1010)) (.lit 65536), true)]⟩
def pMm1 (sl : SV) : Pat := ⟨g0 ++ [none, none] ++ mmOwn sl, 117, mmTm, [(.lt (.var .i64 1000) (.var .i64 0), false), (.eq (.len (.var .u8 1010)) (.lit 65536), true)]⟩
def pMc : Pat := ⟨g0 ++ [none, none, some ([.row .u8 (.var .u8 1010)], 5), some ([.row .u8 (.var .u8 1010)], 5)], 117,
  [(5, .v (.c (.sl (some ⟨3, 0, none⟩) (.lit 65536) (some (.lit 65536))))), (6, .v (.c (.sl (some ⟨4, 0, none⟩) (.lit 65536) (some (.lit 65536))))), (12, .v (.c (.i .i64 (.var .i64 1000))))],
  [(.eq (.len (.var .u8 1010)) (.lit 65536), true), (.le (.var .i64 1000) (.lit 65536), true), (.le (.var .i64 1000) (.lit (-1)), false)]⟩
def mmPats (sl : SV) : Pats := [((qMm, 0), pMm0 sl), ((qMm, 1), pMm1 sl), ((qMc, 0), pMc)]
/-- One round further. -/
def isGoM : Sy.Go → Bool
  | .go q l => decide (q = (qMm, 0)) && (match getI l .i64 1000 with | some x => x.same (.bin .add .i64 (.var .i64 1000) (.lit 1)) | none => false) && (getI l .i64 0).isNone && (getI l .i64 1).isNone &&
    (match getA l .u8 1010 with | some (.var k j) => (AExp.var k j).same (.var .u8 1010) | some (.upd (.var k j) _ _) => (AExp.var k j).same (.var .u8 1010) | _ => false)
  | _ => false
def mmST : WT Sy.Go := WT.node (BExp.le (IExp.var .i64 2) (IExp.lit 2147483647)) (WT.node (BExp.le (IExp.var .i64 0) (IExp.lit 2147483647)) (WT.node (BExp.le (IExp.bin BinOp.add .i64 (IExp.var .i64 2) (IExp.var .i64 0)) (IExp.lit 2147483647)) (WT.leaf (Go.go ([true, true, true, true, true, true, false, true, false], 0) [Asg.a .u8 1010 (AExp.var .u8 9), Asg.i .u8 1006 (IExp.var .u8 6), Asg.i .u8 1005 (IExp.var .u8 5), Asg.i .u8 1004 (IExp.var .u8 4), Asg.b 1002 (BExp.var 2), Asg.b 1001 (BExp.var 1), Asg.i .u8 1003 (IExp.var .u8 3), Asg.i .u8 1002 (IExp.var .u8 2), Asg.i .u8 1001 (IExp.var .u8 1), Asg.b 1000 (BExp.var 0), Asg.i .u8 1000 (IExp.var .u8 0), Asg.a .u16 1000 (AExp.var .u16 0), Asg.i .i64 1000 (IExp.lit 0)])) (WT.leaf (Go.done (SVal.v (SV.c (Cell.b (BExp.lit true)))) { h := [some ([Seg.c (Cell.i .u8 (IExp.lit 0)), Seg.c (Cell.i .u8 (IExp.lit 1)), Seg.c (Cell.i .u8 (IExp.lit 2)), Seg.c (Cell.i .u8 (IExp.lit 3)), Seg.c (Cell.i .u8 (IExp.lit 4)), Seg.c (Cell.i .u8 (IExp.lit 6)), Seg.c (Cell.i .u8 (IExp.lit 10)), Seg.c (Cell.i .u8 (IExp.lit 8))], 0), none, some ([Seg.row .u8 (AExp.var .u8 20)], 5)], «as» := [] }))) (WT.leaf (Go.done (SVal.v (SV.c (Cell.b (BExp.lit true)))) { h := [some ([Seg.c (Cell.i .u8 (IExp.lit 0)), Seg.c (Cell.i .u8 (IExp.lit 1)), Seg.c (Cell.i .u8 (IExp.lit 2)), Seg.c (Cell.i .u8 (IExp.lit 3)), Seg.c (Cell.i .u8 (IExp.lit 4)), Seg.c (Cell.i .u8 (IExp.lit 6)), Seg.c (Cell.i .u8 (IExp.lit 10)), Seg.c (Cell.i .u8 (IExp.lit 8))], 0), none, some ([Seg.row .u8 (AExp.var .u8 20)], 5)], «as» := [] }))) (WT.leaf (Go.done (SVal.v (SV.c (Cell.b (BExp.lit true)))) { h := [some ([Seg.c (Cell.i .u8 (IExp.lit 0)), Seg.c (Cell.i .u8 (IExp.lit 1)), Seg.c (Cell.i .u8 (IExp.lit 2)), Seg.c (Cell.i .u8 (IExp.lit 3)), Seg.c (Cell.i .u8 (IExp.lit 4)), Seg.c (Cell.i .u8 (IExp.lit 6)), Seg.c (Cell.i .u8 (IExp.lit 10)), Seg.c (Cell.i .u8 (IExp.lit 8))], 0), none, some ([Seg.row .u8 (AExp.var .u8 20)], 5)], «as» := [] }))
theorem mmS : startT Tryd.prog 1 plan tabM1 1000 1000 3 3 (fnOf 3) (bodyOf 3) (mmPats mmSl) (mmArgs mmSl) (mmSt mmBlk mmAs) = mmST := by kernel_rfl
def mmS0T : WT Sy.Go := WT.node (BExp.le (IExp.var .i64 0) (IExp.lit 2147483647)) (WT.leaf (Go.go ([true, true, true, true, true, true, false, true, false], 0) [Asg.a .u8 1010 (AExp.var .u8 9), Asg.i .u8 1006 (IExp.var .u8 6), Asg.i .u8 1005 (IExp.var .u8 5), Asg.i .u8 1004 (IExp.var .u8 4), Asg.b 1002 (BExp.var 2), Asg.b 1001 (BExp.var 1), Asg.i .u8 1003 (IExp.var .u8 3), Asg.i .u8 1002 (IExp.var .u8 2), Asg.i .u8 1001 (IExp.var .u8 1), Asg.b 1000 (BExp.var 0), Asg.i .u8 1000 (IExp.var .u8 0), Asg.a .u16 1000 (AExp.var .u16 0), Asg.i .i64 1000 (IExp.lit 0)])) (WT.leaf (Go.done (SVal.v (SV.c (Cell.b (BExp.lit true)))) { h := [some ([Seg.c (Cell.i .u8 (IExp.lit 0)), Seg.c (Cell.i .u8 (IExp.lit 1)), Seg.c (Cell.i .u8 (IExp.lit 2)), Seg.c (Cell.i .u8 (IExp.lit 3)), Seg.c (Cell.i .u8 (IExp.lit 4)), Seg.c (Cell.i .u8 (IExp.lit 6)), Seg.c (Cell.i .u8 (IExp.lit 10)), Seg.c (Cell.i .u8 (IExp.lit 8))], 0), none, none], «as» := [] }))
theorem mmS0 : startT Tryd.prog 1 plan tabM0 1000 1000 3 3 (fnOf 3) (bodyOf 3) (mmPats mmSl0) (mmArgs mmSl0) (mmSt none []) = mmS0T := by kernel_rfl
theorem mmH0 : (headT Tryd.prog 1 plan tabM1 1000 1000 3 3 3 (fnOf 3) (bodyOf 3) (mmPats mmSl) (qMm, 0)).all isGoM = true := by kernel_rfl
def mmH1T : WT Sy.Go := WT.leaf (Go.go ([true, true, true, true, true, true, true, false, true, false], 0) [Asg.a .u8 1010 (AExp.var .u8 1010), Asg.i .i64 1000 (IExp.lit 0)])
theorem mmH1 : headT Tryd.prog 1 plan tabM1 1000 1000 3 3 3 (fnOf 3) (bodyOf 3) (mmPats mmSl) (qMm, 1) = mmH1T := by kernel_rfl
def mmCT : WT Sy.Go := WT.node (BExp.le (IExp.var .i64 1000) (IExp.lit 65535)) (WT.leaf (Go.go ([true, true, true, true, true, true, true, false, true, false], 0) [Asg.a .u8 1010 (AExp.var .u8 1010), Asg.i .i64 1000 (IExp.bin BinOp.add .i64 (IExp.var .i64 1000) (IExp.lit 1))])) (WT.leaf (Go.done (SVal.v (SV.c (Cell.b (BExp.lit true)))) { h := [some ([Seg.c (Cell.i .u8 (IExp.lit 0)), Seg.c (Cell.i .u8 (IExp.lit 1)), Seg.c (Cell.i .u8 (IExp.lit 2)), Seg.c (Cell.i .u8 (IExp.lit 3)), Seg.c (Cell.i .u8 (IExp.lit 4)), Seg.c (Cell.i .u8 (IExp.lit 6)), Seg.c (Cell.i .u8 (IExp.lit 10)), Seg.c (Cell.i .u8 (IExp.lit 8))], 0), none, none], «as» := [] }))
theorem mmC : headT Tryd.prog 1 plan tabM1 1000 1000 3 3 3 (fnOf 3) (bodyOf 3) (mmPats mmSl) (qMc, 0) = mmCT := by kernel_rfl
theorem mmH00 : (headT Tryd.prog 1 plan tabM0 1000 1000 3 3 3 (fnOf 3) (bodyOf 3) (mmPats mmSl0) (qMm, 0)).all isGoM = true := by kernel_rfl
def mmH10T : WT Sy.Go := WT.leaf (Go.go ([true, true, true, true, true, true, true, false, true, false], 0) [Asg.a .u8 1010 (AExp.var .u8 1010), Asg.i .i64 1000 (IExp.lit 0)])
theorem mmH10 : headT Tryd.prog 1 plan tabM0 1000 1000 3 3 3 (fnOf 3) (bodyOf 3) (mmPats mmSl0) (qMm, 1) = mmH10T := by kernel_rfl
def mmC0T : WT Sy.Go := WT.node (BExp.le (IExp.var .i64 1000) (IExp.lit 65535)) (WT.leaf (Go.go ([true, true, true, true, true, true, true, false, true, false], 0) [Asg.a .u8 1010 (AExp.var .u8 1010), Asg.i .i64 1000 (IExp.bin BinOp.add .i64 (IExp.var .i64 1000) (IExp.lit 1))])) (WT.leaf (Go.done (SVal.v (SV.c (Cell.b (BExp.lit true)))) { h := [some ([Seg.c (Cell.i .u8 (IExp.lit 0)), Seg.c (Cell.i .u8 (IExp.lit 1)), Seg.c (Cell.i .u8 (IExp.lit 2)), Seg.c (Cell.i .u8 (IExp.lit 3)), Seg.c (Cell.i .u8 (IExp.lit 4)), Seg.c (Cell.i .u8 (IExp.lit 6)), Seg.c (Cell.i .u8 (IExp.lit 10)), Seg.c (Cell.i .u8 (IExp.lit 8))], 0), none, none], «as» := [] }))
theorem mmC0 : headT Tryd.prog 1 plan tabM0 1000 1000 3 3 3 (fnOf 3) (bodyOf 3) (mmPats mmSl0) (qMc, 0) = mmC0T := by kernel_rfl

/-- The slice of the program, wherever it is handed on. -/
def SliceIs (x : Blk) (sl : SV) (e : Env) (n : Nat) (z : List Int) : Prop := ∀ ov ρ (st : St) W V, HRel e ov ρ st.h W → blkSame ((st.h[2]?).getD none) x = true → (SVal.v sl).D e ρ V → ∃ p c, V = .slice p n c ∧ IsRow .u8 W p n c z
theorem slice1 {e : Env} {n c : Nat} {z : List Int} (e2 : e.i .i64 2 = n) (e3 : e.i .i64 3 = c) (ez : e.a .u8 20 = z) (hc : 0 < c) (hn : n ≤ c) (hct : (c : Int) ≤ lenTop) (hzl : z.length = c) (hin : ∀ x ∈ z, In .u8 x) : SliceIs mmBlk mmSl e n z := by
  intro ov ρ st W V hr hb hV
  cases hq : st.h[2]? with
  | none => rw [hq] at hb; simp [blkSame, mmBlk] at hb
  | some y =>
    rw [hq, Option.getD_some] at hb
    have := blkSame_eq hb
    subst this
    obtain ⟨b, o, r, vs, h1, h2, h3⟩ := hr.blk 2 _ _ hq
    obtain ⟨vs', rfl, h4⟩ := h3
    cases h4
    have hA : (AExp.var .u8 20).den e = z := ez
    rw [hA, List.append_nil] at h2
    exact ⟨_, c, slice_of (x := .var .i64 2) (y := .var .i64 3) h1 (n := n) (c := c) e2 e3 hc hV, isRow_of h2 hzl hn hct hin⟩
theorem slice0 (e : Env) : SliceIs none mmSl0 e 0 [] := by
  intro ov ρ st W V hr hb hV
  obtain ⟨o, n, c, rfl, h1, h2, h3⟩ := hV
  rw [litD] at h1
  have hn : n = 0 := by omega
  subst hn
  have hc : c = 0 := by
    rcases h3 with ⟨_, _, _, h⟩ | ⟨_, h, _⟩
    · have h : (c : Int) = (IExp.lit 0).den e := h
      rw [litD] at h; omega
    · exact h
  subst hc
  exact ⟨o, 0, rfl, isRow_none⟩
theorem tabM_ok {e : Env} (ok : EnvOk e) (he : CpuEnv e) {x : Blk} {b : BExp} {sl : SV} {at' n : Nat} {z : List Int} (hs : SliceIs x sl e n z) (hat : e.i .u16 0 = at') (hat2 : at' ≤ 65535) (h9 : e.a .u8 9 = roomK at' z n) (hn31 : b.den e = true → (n : Int) ≤ 2147483647) (ov : Nat) : TabOk Tryd.prog 1 ov (tabM x b sl) e := by
  refine TabOk.or (tabCpu_ok ok he ov) ?_
  intro ro f args st t Z ht hov hz ρ vs W R hv ha hr hg hR
  simp only at ht
  split at ht
  · split at ht
    · rename_i hc
      obtain ⟨rfl, hx, hy, hb, hd⟩ := hc
      cases ht
      obtain ⟨v1, _, rfl, d1, v2, _, rfl, d2, rfl⟩ := hv
      rw [IExp.same_eq _ _ hx] at d1
      rw [SVal.same_eq hy] at d2
      have d1 : v1 = .int .i64 (e.i .u16 0) := d1
      rw [hat] at d1
      subst d1
      obtain ⟨p, c, rfl, hrow⟩ := hs ov ρ st W v2 hr hb d2
      have hbd : b.den e = true := by
        unfold isB at hd
        split at hd
        · rename_i w hw
          rw [decideB_ok ok ha hw]; exact eq_of_beq hd
        · cases hd
      refine (room_calls W hat2 hrow (hn31 hbd)).mono ?_
      rintro en W' ⟨b1, o1, r1, rfl, hnew⟩
      have hl : (ρ ++ [(b1, o1, r1)])[st.h.length]? = some (b1, o1, r1) := by rw [hr.len]; simp
      exact hR _ _ hz _ _ W' (post_new hr hnew (A := .var .u8 9) (by simp only [AExp.den, h9])) (slice_D hl (litD _ _) (litD _ _) (Nat.le_refl _)) ha
    · cases ht
  · cases ht

def mmInv (n : Nat) : Inv := ⟨fun k e => ∃ i : Nat, e.i .i64 1000 = i ∧ (k.1 = qMm → i ≤ n ∧ (k.2 = 0 → i < n) ∧ (n : Int) ≤ 2147483647) ∧ (k.1 = qMc → i ≤ 65536) ∧ (e.a .u8 1010).length = 65536, fun k e => (if k.1 = qMm then 65537 + n else 65536) - (e.i .i64 1000).toNat⟩
theorem mmPats_get {sl : SV} {k : Key} {p : Pat} (h : patAt (mmPats sl) k = some p) : (k = (qMm, 0) ∧ p = pMm0 sl) ∨ (k = (qMm, 1) ∧ p = pMm1 sl) ∨ (k = (qMc, 0) ∧ p = pMc) := by
  have hm : (k, p) ∈ mmPats sl := by
    have key : ∀ {ps : Pats} {q : Key} {p : Pat}, patAt ps q = some p → (q, p) ∈ ps := by
      intro ps
      induction ps with
      | nil => intro q p h; cases h
      | cons x r ih =>
        intro q p h
        obtain ⟨y, z⟩ := x
        simp only [patAt] at h
        by_cases hq : y = q
        · subst hq
          rw [show decide (y = y) = true from decide_eq_true rfl, cond_true] at h
          cases h
          exact List.mem_cons_self
        · rw [show decide (y = q) = false from decide_eq_false hq] at h
          exact List.mem_cons_of_mem _ (ih h)
    exact key h
  simp only [mmPats, List.mem_cons, List.not_mem_nil, or_false, Prod.mk.injEq] at hm
  exact hm
section
variable {sl : SV} {W : World} {b o c n : Nat} {x2 : Nat × Nat × Nat} {Z : List (List Value)} (hL : Laid W) (hZ : 0 < c → RecsAt W pinKs b o c Z) (hn : n ≤ c)
include hL in
theorem mm_glob (e' : Env) {h : SHeap} (h0 : h[0]? = g0[0]?) (h1 : h[1]? = some none) (h2 : h[2]? = some none) : RoOk e' 3 [(0, 0, 0), (b, o, 0), x2] [(0, 0, 0), (b, o, 0), x2] W h := by
  intro i l t hi hl
  rcases i with _ | i
  · rw [h0] at hl
    obtain ⟨b', o', r', vs, g1, g2, g3⟩ := (hL e').blk 0 l t hl
    cases g1
    exact ⟨0, 0, 0, vs, rfl, g2.weak (fun q => q.elim), Segs.mono0 g3, fun x hx => by simp at hx⟩
  · rcases i with _ | i
    · rw [h1] at hl; cases hl
    · rcases i with _ | i
      · rw [h2] at hl; cases hl
      · omega
include hL hZ hn in
theorem mm_next {e : Env} {l : List Asg} {i : Nat} {m : Option Nat} {D : Env → SVal → St → Prop} (e0 : (Env.upd e e l).i .i64 0 = n) (e1 : (Env.upd e e l).i .i64 1 = c) (hi : (Env.upd e e l).i .i64 1000 = i) (hle : i ≤ n) (htop : (n : Int) ≤ 2147483647) (hmem : ((Env.upd e e l).a .u8 1010).length = 65536) (hm : ∀ m', m = some m' → 65537 + n - i < m') :
    Owed 1000 5000 3 3 [(0, 0, 0), (b, o, 0), x2] W (mmPats sl) (mmInv n) D e m (.go (qMm, 0) l) := by
  intro ok' hag
  generalize Env.upd e e l = E at *
  have ne : qMm ≠ qMc := by decide
  by_cases hlt : i < n
  · have hc : 0 < c := by omega
    have hR := hZ hc
    obtain ⟨r, hr⟩ : ∃ r, Z[i]? = some r := ⟨_, List.getElem?_eq_getElem (by rw [hR.len]; omega)⟩
    obtain ⟨p, hp, rfl⟩ := pins_ck (hR.each i r hr)
    have a0 : (over E 5000 (pinSrc p)).i .i64 0 = n := e0
    have a1 : (over E 5000 (pinSrc p)).i .i64 1 = c := e1
    have a2 : (over E 5000 (pinSrc p)).i .i64 1000 = i := hi
    have a3 : ((over E 5000 (pinSrc p)).a .u8 1010).length = 65536 := hmem
    refine ⟨over E 5000 (pinSrc p), [(0, 0, 0), (b, o, 0), x2], (qMm, 0), pMm0 sl, over_ok ok' _ _, over_agree _ _ _, Base.refl _ _ _, rfl, rfl, fun p2 hp2 => ?_, ?_, ?_, ⟨i, a2, fun _ => ⟨hle, fun _ => hlt, htop⟩, fun h => absurd h ne, a3⟩, fun m' hm' => ?_⟩
    · rcases mmPats_get hp2 with ⟨_, rfl⟩ | ⟨h, _⟩ | ⟨h, _⟩
      · exact ⟨rfl, rfl, rfl⟩
      · cases h
      · cases h
    · refine AsmOk.cons ?_ (AsmOk.cons ?_ (AsmOk.cons ?_ (AsmOk.cons ?_ (AsmOk.cons ?_ (AsmOk.nil _))))) <;> simp only [BExp.den, IExp.den, AExp.den, a0, a1, a2, a3]
      · exact decide_eq_false (by omega)
      · exact decide_eq_true (by omega)
      · exact decide_eq_true (by omega)
      · exact decide_eq_true htop
      · rfl
    · intro j l1 t1 hj hl1
      rcases j with _ | j
      · exact mm_glob hL _ (h := g0 ++ [none, none]) rfl rfl rfl 0 l1 t1 (by omega) hl1
      · rcases j with _ | j
        · have hl1 : some ([Seg.el (.var .i64 1) 9 (.var .i64 1000) (pinsCells 5000)], _) = some (l1, t1) := Option.some.inj hl1
          cases hl1
          exact ⟨b, o, 0, _, rfl, hR.at', hR.el (i := i) hr (pinsCells_D hp) a1 a2, fun x hx => by simp at hx⟩
        · rcases j with _ | j
          · cases (Option.some.inj hl1)
          · omega
    · simp only [mmInv, if_true, a2, Int.toNat_natCast]
      exact hm m' hm'
  · refine ⟨E, [(0, 0, 0), (b, o, 0), x2], (qMm, 1), pMm1 sl, ok', Agree.refl _ _, Base.refl _ _ _, rfl, rfl, fun p2 hp2 => ?_, ?_, mm_glob hL _ rfl rfl rfl, ⟨i, hi, fun _ => ⟨hle, (fun h => by cases h), htop⟩, fun h => absurd h ne, hmem⟩, fun m' hm' => ?_⟩
    · rcases mmPats_get hp2 with ⟨_, rfl⟩ | ⟨h, _⟩ | ⟨h, _⟩
      · exact ⟨rfl, rfl, rfl⟩
      · cases h
      · cases h
    · refine AsmOk.cons ?_ (AsmOk.cons ?_ (AsmOk.nil _)) <;> simp only [BExp.den, IExp.den, AExp.den, e0, hi, hmem]
      · exact decide_eq_false (by omega)
      · rfl
    · simp only [mmInv, if_true, hi, Int.toNat_natCast]
      exact hm m' hm'
include hL in
/-- The last loop. -/
theorem mc_next {e : Env} {l : List Asg} {i : Nat} {m : Option Nat} {D : Env → SVal → St → Prop} (hi : (Env.upd e e l).i .i64 1000 = i) (hle : i ≤ 65536) (hmem : ((Env.upd e e l).a .u8 1010).length = 65536) (hm : ∀ m', m = some m' → 65536 - i < m') :
    Owed 1000 5000 3 3 [(0, 0, 0), (b, o, 0), x2] W (mmPats sl) (mmInv n) D e m (.go (qMc, 0) l) := by
  intro ok' hag
  generalize Env.upd e e l = E at *
  have ne : qMc ≠ qMm := by decide
  refine ⟨E, [(0, 0, 0), (b, o, 0), x2], (qMc, 0), pMc, ok', Agree.refl _ _, Base.refl _ _ _, rfl, rfl, fun p2 hp2 => ?_, ?_, mm_glob hL _ rfl rfl rfl, ⟨i, hi, fun h => absurd h ne, fun _ => hle, hmem⟩, fun m' hm' => ?_⟩
  · rcases mmPats_get hp2 with ⟨h, _⟩ | ⟨h, _⟩ | ⟨_, rfl⟩
    · cases h
    · cases h
    · exact ⟨rfl, rfl, rfl⟩
  · refine AsmOk.cons ?_ (AsmOk.cons ?_ (AsmOk.cons ?_ (AsmOk.nil _))) <;> simp only [BExp.den, IExp.den, AExp.den, hi, hmem]
    · rfl
    · exact decide_eq_true (by omega)
    · exact decide_eq_false (by omega)
  · simp only [mmInv, if_neg ne, hi, Int.toNat_natCast]
    exact hm m' hm'
end

theorem isGoM_ok {sl : SV} {W : World} {b o c n : Nat} {x2 : Nat × Nat × Nat} {Z : List (List Value)} (hL : Laid W) (hZ : 0 < c → RecsAt W pinKs b o c Z) (hn : n ≤ c) {e : Env} {D : Env → SVal → St → Prop} (a0 : e.i .i64 0 = n) (a1 : e.i .i64 1 = c) {i : Nat} (hi : e.i .i64 1000 = i) (hlt : i < n) (htop : (n : Int) ≤ 2147483647) (hmem : (e.a .u8 1010).length = 65536)
    {g : Sy.Go} (h : isGoM g = true) : Owed 1000 5000 3 3 [(0, 0, 0), (b, o, 0), x2] W (mmPats sl) (mmInv n) D e (some ((mmInv n).μ (qMm, 0) e)) g := by
  cases g with
  | bad => cases h
  | done v st => cases h
  | go q l =>
    simp only [isGoM, Bool.and_eq_true, decide_eq_true_eq, Option.isNone_iff_eq_none] at h
    obtain ⟨⟨⟨⟨rfl, h1⟩, h2⟩, h3⟩, h4⟩ := h
    have hi1 : (Env.upd e e l).i .i64 1000 = ((i + 1 : Nat) : Int) := by
      split at h1
      · rename_i x hx
        rw [updI hx, IExp.same_eq _ _ h1, binE, litD, show (IExp.var .i64 1000).den e = i from hi]
        simp only [binDen]; rw [wrap64 (by omega) (by omega)]; simp
      · cases h1
    refine mm_next hL hZ hn ((updI_none h2).trans a0) ((updI_none h3).trans a1) hi1 hlt htop ?_ ?_
    · split at h4
      · rename_i k j hx
        have := AExp.same_eq _ _ h4
        rw [updA hx, this]; exact hmem
      · rename_i k j u v hx
        have := AExp.same_eq _ _ h4
        rw [updA hx, this]
        simp only [AExp.den, List.length_set]; exact hmem
      · cases h4
    · intro m' hm'
      cases hm'
      simp only [mmInv, if_true, hi, Int.toNat_natCast]
      omega
noncomputable def mmSrc (c : Cpu) (at' : Int) (n cap n2 c2 : Nat) (z mem : List Int) : Src := withCpu { i := fun k => match k with | .u8 => [c.D, c.P, c.X, c.T, c.Op, c.B, c.Ph] | .i64 => [n, cap, n2, c2] | .u16 => [at'] | _ => [], b := [c.DF, c.IE, c.Q], a := fun k j => match k, j with | .u16, 0 => c.R | .u8, 20 => z | .u8, 9 => mem | _, _ => [] }
theorem mm_core {W : World} (hlaid : Laid W) {c : Cpu} (hc : c.Ok) {at' n cap n2 c2 b o : Nat} {a a2 : Option Addr} {z : List Int} {Z : List (List Value)} {x : Blk} {bq : BExp} {sl : SV} {q0 : Asm} {x2 : Nat × Nat × Nat} {ST : WT Sy.Go}
    (hat : at' ≤ 65535) (hnc : n ≤ cap) (hcap : (cap : Int) ≤ lenTop) (hsl : (cap = 0 ∧ n = 0) ∨ (0 < cap ∧ a = some ⟨b, o, none⟩)) (hZ : 0 < cap → RecsAt W pinKs b o cap Z) (hn2 : (n2 : Int) ≤ lenTop) (hc2 : (c2 : Int) ≤ lenTop) (hzl : (z.length : Int) ≤ lenTop) (hzin : ∀ y ∈ z, In .u8 y)
    (hslice : ∀ e : Env, e.i .i64 2 = n2 → e.i .i64 3 = c2 → e.a .u8 20 = z → SliceIs x sl e n2 z) (hbq : ∀ e : Env, e.i .i64 2 = n2 → bq.den e = true → (n2 : Int) ≤ 2147483647) (hq0 : ∀ e : Env, e.i .i64 2 = n2 → e.a .u8 20 = z → AsmOk e q0)
    (hD : ∀ e : Env, e.i .i64 2 = n2 → e.i .i64 3 = c2 → (SV.D e [(0, 0, 0), (b, o, 0), x2] sl (.slice a2 n2 c2)) ∧ svC sl = .c (match sl with | .c y => y | .agg _ => .nf) ∧ ∃ y, sl = .c y)
    (hro : ∀ e : Env, e.a .u8 20 = z → ∀ l t, x = some (l, t) → ∃ b' o' r' vs, x2 = (b', o', r') ∧ At False W b' o' r' vs ∧ SegsD e [(0, 0, 0), (b, o, 0), x2] l vs)
    (hfine : ∀ k p, (k, p) ∈ mmPats sl → patFine 5000 3 3 p = true) (hnd : ∀ k p, (k, p) ∈ mmPats sl → patAt (mmPats sl) k = some p)
    (hS : startT Tryd.prog 1 plan (tabM x bq sl) 1000 1000 3 3 (fnOf 3) (bodyOf 3) (mmPats sl) (mmArgs sl) (mmSt x q0) = ST)
    (hST : ∀ e : Env, e.i .i64 0 = n → e.i .i64 2 = n2 → ST.holds e (fun g => (∃ l, g = .go (qMm, 0) l ∧ (n : Int) ≤ 2147483647 ∧ getI l .i64 1000 = some (.lit 0) ∧ getI l .i64 0 = none ∧ getI l .i64 1 = none ∧ getA l .u8 1010 = some (.var .u8 9)) ∨ ∃ st, g = .done (.v (.c (.b (.lit true)))) st))
    (hH0 : (headT Tryd.prog 1 plan (tabM x bq sl) 1000 1000 3 3 3 (fnOf 3) (bodyOf 3) (mmPats sl) (qMm, 0)).all isGoM = true)
    (hH1 : headT Tryd.prog 1 plan (tabM x bq sl) 1000 1000 3 3 3 (fnOf 3) (bodyOf 3) (mmPats sl) (qMm, 1) = mmH1T)
    (hC : headT Tryd.prog 1 plan (tabM x bq sl) 1000 1000 3 3 3 (fnOf 3) (bodyOf 3) (mmPats sl) (qMc, 0) = mmCT) :
    Calls Tryd.prog 3 #[c.val, .agg #[.int .u16 at', .slice a2 n2 c2, .slice a n cap]] W (Yes W) := by
  obtain ⟨hf, hb⟩ := fn_of (f := 3) (by kernel_rfl)
  have htop : lenTop = 9223372036854775807 := rfl
  have ok := (mmSrc c at' n cap n2 c2 z (roomK at' z n2)).ok
  have he : CpuEnv (mmSrc c at' n cap n2 c2 z (roomK at' z n2)).env := withCpu_env _
  have e0 : (mmSrc c at' n cap n2 c2 z (roomK at' z n2)).env.i .i64 0 = n := clip_of (k := .i64) (n := (n : Int)) (i64_in (by omega) (by omega))
  have e1 : (mmSrc c at' n cap n2 c2 z (roomK at' z n2)).env.i .i64 1 = cap := clip_of (k := .i64) (n := (cap : Int)) (i64_in (by omega) (by omega))
  have e2 : (mmSrc c at' n cap n2 c2 z (roomK at' z n2)).env.i .i64 2 = n2 := clip_of (k := .i64) (n := (n2 : Int)) (i64_in (by omega) (by omega))
  have e3 : (mmSrc c at' n cap n2 c2 z (roomK at' z n2)).env.i .i64 3 = c2 := clip_of (k := .i64) (n := (c2 : Int)) (i64_in (by omega) (by omega))
  have ea : (mmSrc c at' n cap n2 c2 z (roomK at' z n2)).env.i .u16 0 = at' := clip_of (k := .u16) (n := (at' : Int)) (u16_in (by omega) (by omega))
  have ez : (mmSrc c at' n cap n2 c2 z (roomK at' z n2)).env.a .u8 20 = z := clipL_of hzin hzl
  have e9 : (mmSrc c at' n cap n2 c2 z (roomK at' z n2)).env.a .u8 9 = roomK at' z n2 := clipL_of (roomK_in hzin n2) (by show (((roomK at' z n2).length : Nat) : Int) ≤ lenTop; rw [roomK_len]; decide)
  have hcD : ∀ ρ, (cpuV op ph).D (mmSrc c at' n cap n2 c2 z (roomK at' z n2)).env ρ c.val := by
    intro ρ
    have hR : (AExp.var .u16 0).den (mmSrc c at' n cap n2 c2 z (roomK at' z n2)).env = c.R := clipL_of hc.hR (by show ((c.R.length : Nat) : Int) ≤ lenTop; rw [hc.hlen]; decide)
    refine ⟨c.cells, rfl, _, by rw [hR]; exact hc.hcs, by rw [hR]; exact hc.hlen, ?_⟩
    refine ⟨_, _, rfl, ?_, _, _, rfl, ?_, _, _, rfl, ?_, _, _, rfl, ?_, _, _, rfl, ?_, _, _, rfl, ?_, _, _, rfl, ?_, _, _, rfl, ?_, _, _, rfl, ?_, _, _, rfl, ?_, rfl⟩
    · exact congrArg _ (clip_of hc.hD).symm
    · rfl
    · exact congrArg _ (clip_of hc.hP).symm
    · exact congrArg _ (clip_of hc.hX).symm
    · exact congrArg _ (clip_of hc.hT).symm
    · rfl
    · rfl
    · exact congrArg _ (clip_of hc.hOp).symm
    · exact congrArg _ (clip_of hc.hB).symm
    · exact congrArg _ (clip_of hc.hPh).symm
  generalize (mmSrc c at' n cap n2 c2 z (roomK at' z n2)).env = E at ok he e0 e1 e2 e3 ea ez e9 hcD
  have hr : HRel E 3 [(0, 0, 0), (b, o, 0), x2] (g0 ++ [none, x]) W := by
    have := HRel.ro (e := E) (W := W) (ρ := [(0, 0, 0), (b, o, 0), x2]) (h := g0 ++ [none, x]) rfl (fun i l t hi => by
      rcases i with _ | i
      · obtain ⟨b', o', r', vs, h1, h2, h3⟩ := (hlaid E).blk 0 l t hi
        cases h1
        exact ⟨0, 0, 0, vs, rfl, h2.weak (fun q => q.elim), Segs.mono0 h3⟩
      · rcases i with _ | i
        · simp [g0] at hi
        · rcases i with _ | i
          · have hi : x = some (l, t) := Option.some.inj hi
            obtain ⟨b', o', r', vs, rfl, h2, h3⟩ := hro E ez l t hi
            exact ⟨b', o', r', vs, rfl, h2, h3⟩
          · simp [g0] at hi)
    exact this
  refine cfgR (G := 1) (ov := 3) (plan := plan) (tab := tabM x bq sl) (n := 1000) (N := 1000) (NE := 5000) (sv := 3) (ro := 3) (base := 3) (pats := mmPats sl) (args := mmArgs sl) (st := mmSt x q0) (e0 := E) (ρ0 := [(0, 0, 0), (b, o, 0), x2]) (vs := [c.val, .agg #[.int .u16 at', .slice a2 n2 c2, .slice a n cap]]) (W0 := W) (mmInv n) (fun e v _ => ∀ ρ V, v.D e ρ V → V = .bool true)
    mixed plan_ok rfl (fun _ _ _ => LtOk.none) (fun e ok g => tabM_ok ok (he.agree g) (hslice e (by rw [g.i .i64 2 (by omega)]; exact e2) (by rw [g.i .i64 3 (by omega)]; exact e3) (by rw [g.a .u8 20 (by omega)]; exact ez)) (by rw [g.i .u16 0 (by omega)]; exact ea) hat (by rw [g.a .u8 9 (by omega)]; exact e9) (hbq e (by rw [g.i .i64 2 (by omega)]; exact e2)) _) rfl hf hb ok ?_ ?_ hr ?_ (Nat.le_refl _) (show 3 ≤ 3 by omega) (by decide) (by decide) (by decide) hfine ?_ ?_ hnd ?_
  · obtain ⟨d1, d2, y, rfl⟩ := hD E e2 e3
    refine ⟨_, _, rfl, hcD _, _, _, rfl, ⟨_, rfl, _, _, rfl, congrArg _ ea.symm, _, _, rfl, d1, _, _, rfl, ?_, rfl⟩, rfl⟩
    rcases hsl with ⟨h1, h2⟩ | ⟨h1, rfl⟩
    · subst h1 h2
      exact ⟨_, _, _, rfl, by show _ = E.i .i64 0; rw [e0], Nat.le_refl _, .inr ⟨rfl, rfl, fun x hx => by cases hx; exact e1⟩⟩
    · exact slice_D (i := 1) rfl e0 e1 hnc
  · refine AsmOk.cons ?_ (AsmOk.cons ?_ (hq0 E e2 ez)) <;> simp only [BExp.den, IExp.den, AExp.den, e9, e0, roomK_len]
    · rfl
    · exact decide_eq_false (by omega)
  · intro g hg
    have : g = 0 := by omega
    subst this; rfl
  · rw [hS]
    refine WT.holds_mono (fun g hg => ?_) (hST E e0 e2)
    rcases hg with ⟨l, rfl, h1, h2, h3, h4, h5⟩ | ⟨st, rfl⟩
    · exact mm_next hlaid hZ hnc (i := 0) ((updI_none h3).trans e0) ((updI_none h4).trans e1) ((updI h2).trans (litD _ _)) (Nat.zero_le _) h1 (by rw [updA h5]; show (E.a .u8 9).length = _; rw [e9, roomK_len]) (fun m' hm' => by cases hm')
    · intro ρ V hV
      exact hV
  · intro q hq e ok' g ha hI
    have a0 : e.i .i64 0 = n := by rw [g.i .i64 0 (by omega)]; exact e0
    have a1 : e.i .i64 1 = cap := by rw [g.i .i64 1 (by omega)]; exact e1
    obtain ⟨i, hi, hm, hmc, hmem⟩ := hI
    simp only [mmPats, List.map_cons, List.map_nil, List.mem_cons, List.not_mem_nil, or_false] at hq
    rcases hq with rfl | rfl | rfl
    · obtain ⟨hle, hlt, h31⟩ := hm rfl
      exact WT.holds_mono (fun gg hg => isGoM_ok hlaid hZ hnc a0 a1 hi (hlt rfl) h31 hmem hg) (WT.all_holds hH0)
    · obtain ⟨hle, _, h31⟩ := hm rfl
      rw [hH1]
      simp only [mmH1T, WT.holds]
      refine mc_next hlaid (i := 0) ((updI rfl).trans (litD _ _)) (by omega) (by rw [updA (x := .var .u8 1010) rfl]; exact hmem) (fun m' hm' => ?_)
      cases hm'
      simp only [mmInv, if_true, hi, Int.toNat_natCast]
      omega
    · have hle := hmc rfl
      have ai : (IExp.var .i64 1000).den e = i := hi
      rw [hC]
      have q1 : (BExp.le (.var .i64 1000) (.lit 65535)).den e = decide ((i : Int) ≤ 65535) := by rw [le_den, ai, litD]
      simp only [mmCT, WT.holds, q1, decide_eq_true_eq]
      split
      · have hi1 : ∀ {l : List Asg}, getI l .i64 1000 = some (.bin .add .i64 (.var .i64 1000) (.lit 1)) → (Env.upd e e l).i .i64 1000 = ((i + 1 : Nat) : Int) := by
          intro l h
          rw [updI h, binE, ai, litD]; simp only [binDen]; rw [wrap64 (by omega) (by omega)]; simp
        refine mc_next hlaid (i := i + 1) (hi1 rfl) (by omega) (by rw [updA (x := .var .u8 1010) rfl]; exact hmem) (fun m' hm' => ?_)
        cases hm'
        simp only [mmInv, if_neg (show qMc ≠ qMm by decide), hi, Int.toNat_natCast]
        omega
      · intro ρ V hV
        exact hV
  · rintro e v st' ok' g hd ρb hbb ρ' V W' hp hV
    exact ⟨congrArg _ (hd _ _ hV), below_of_post hp (by rw [hbb.len]; exact Nat.le_refl _)⟩
end Go.Proofs.YtjnoacnbhcdidaaDoor.K
