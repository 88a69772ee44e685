/- The snap's laws: awake. -/
import Derived.Test.YtaijkkkgpgldbaaDoorSnTab
namespace Go.Proofs.YtaijkkkgpgldbaaDoor.K
open Go Sy
set_option maxRecDepth 100000
set_option linter.unusedVariables false
set_option linter.unusedSimpArgs false
theorem snAwake : (xCall Tryd.prog 1 plan tabSn0 2000 1 9 [] ⟨snG, stAs⟩).all isT = true := by kernel_rfl
theorem ckStart : ckF (stL.den snSrc0.env) = [.i 0] := by kernel_rfl
theorem stDen (e : Env) : stL.den e = stL.den snSrc0.env := rfl
theorem stWf : WfR (shrFlat ckPs) (stL.den snSrc0.env) := by
  have z1 : ∀ n : Nat, n ≤ 5000 → (∀ x ∈ List.replicate n (0 : Int), In .u8 x) ∧ ((List.replicate n (0 : Int)).length : Int) ≤ lenTop := by
    intro n hn
    have htop : lenTop = 9223372036854775807 := rfl
    exact ⟨fun x hx => by rw [(List.mem_replicate.1 hx).2]; exact zero_in _, by rw [List.length_replicate]; omega⟩
  have five : In .u8 5 := ⟨by decide, by decide⟩
  refine ⟨zero_in _, zero_in _, zero_in _, zero_in _, zero_in _, zero_in _, zero_in _, zero_in _, zero_in _, zero_in _, zero_in _, zero_in _, zero_in _, zero_in _, zero_in _, zero_in _, zero_in _, trivial, zero_in _, zero_in _, zero_in _, trivial, trivial, zero_in _, zero_in _, five, zero_in _, zero_in _, trivial, zero_in _, zero_in _, trivial, z1 2048 (by omega), z1 512 (by omega), zero_in _, trivial⟩
theorem stOk {e : Env} (h : SnE e) : AsmOk e stAs := by
  refine AsmOk.cons ?_ (AsmOk.nil _)
  have h30 := (FnER.rows (ps := ckPs) (rs := ckRs) snRow30).same h.hi h.hb h.ha
  have := h30 (stL.den snSrc0.env) stWf (by rw [ckStart]; exact ⟨zero_in _, trivial⟩)
  rw [ckStart] at this
  have g : e.fi .i64 30 0 (stL.den snSrc0.env) = 0 := this.1
  simp only [BExp.den, IExp.den, stDen e, g]
  exact decide_eq_true trivial
abbrev Yes (W : World) (en : Ending) (W' : World) : Prop := en = .returned (.bool true) ∧ RowKit.Below W.heap.size W W'
theorem snHrel {W : World} (hW : Pre snG W) : HRel (Src.know snSrc W []).env 1 (globs 1) snG W := by
  have := HRel.ro (e := (Src.know snSrc W []).env) (W := W) (ρ := globs 1) (h := snG) rfl (fun i l t hi => by
    obtain ⟨us, h1, h2⟩ := hW.gs i l t hi
    have hlt : i < 1 := (List.getElem?_eq_some_iff.1 hi).1
    have h0 : i = 0 := Nat.lt_one_iff.1 hlt
    subst h0
    exact ⟨0, 0, 0, us, rfl, h1, h2 _ _⟩) ⟨fun i x h => by simp [Src.know, Src.env, snSrc, Src.fns, snSrc0] at h, Nat.le_refl _, fun k _ => rfl⟩
  exact this
theorem snE_know {W : World} (hW : Pre snG W) : SnE (Src.know snSrc W []).env := ⟨(Src.know snSrc W []).ok, rfl, rfl, rfl, ⟨W, rfl, rfl, hW⟩⟩
theorem awake_calls (W : World) (hW : Pre snG W) : Calls Tryd.prog 9 #[] W (Yes W) := by
  have h := snE_know hW
  exact run_true (plan := plan) (tab := tabSn0) (n := 2000) (G := 1) (ov := 1) (f := 9) h.ok mixed plan_ok LtOk.none (tabSn0_ok h 1 1 (Nat.le_refl _)) (args := []) (vs := []) (h0 := snG) (ρ := globs 1) rfl (stOk h) (snHrel hW) (globs_ok 1) (Nat.le_refl _) snAwake
theorem tabAw_ok {e : Env} (hk : KnowsP snG e) (G ov : Nat) : TabOk Tryd.prog G ov (tabYes 9) e := tabYes_ok awake_calls G ov (fun ρ W' ho => hk.at' ho)
def tabSn : Tab := orTab (tabYes 9) tabSn0
theorem tabSn_ok {e : Env} (h : SnE e) (G ov : Nat) (hG : snG.length ≤ G) : TabOk Tryd.prog G ov tabSn e := orTab_ok (tabAw_ok h.hk G ov) (tabSn0_ok h G ov hG)
theorem snNames : (xCall Tryd.prog 1 plan (tabYes 9) 1000 1 3 [] ⟨snG, []⟩).all isT = true := by kernel_rfl
abbrev laidS : List (String × DataW Unit) := [("vesper/pixie.shown", Rows.laid_vesper_pixie_shown)]
theorem pre_laid {W : World} (hL : laidMetH Tryd.prog laidS W) : Pre snG W := by
  obtain ⟨vs, h1, h2⟩ := laid_blk2 (P := Tryd.prog) (W := W) (laid := laidS) hL (by kernel_rfl) (n := "vesper/pixie.shown") (d := Rows.laid_vesper_pixie_shown) (List.mem_cons_self) (g := 0) (t := 93) (el := 92) (el2 := 3) (a := 1) (b := 2) (L := [[.i .i64 (.lit 80), .i .i64 (.lit 207)]]) (by kernel_rfl) (by kernel_rfl) (by kernel_rfl) (by kernel_rfl) (.inr ⟨.i64, by kernel_rfl⟩) (by kernel_rfl) (by kernel_rfl) (by kernel_rfl) (by rfl) (by decide)
  refine ⟨fun i l t hi => ?_, ?_⟩
  · cases i with
    | zero =>
      have hi : some ([Seg.c (.i .i64 (.lit 80)), Seg.c (.i .i64 (.lit 207))], _) = some (l, t) := Option.some.inj hi
      cases hi
      exact ⟨vs, h1, h2⟩
    | succ i => simp [snG] at hi
  · obtain ⟨cs, t, fz, pre, rest, w1, _⟩ := h1.ex
    exact ⟨cs, t, fz, w1⟩
theorem snapNames_walk (W : World) (hL : laidMetH Tryd.prog laidS W) : Calls Tryd.prog 3 #[] W (Yes W) := by
  have hW := pre_laid hL
  have h := snE_know hW
  exact run_true (plan := plan) (tab := tabYes 9) (n := 1000) (G := 1) (ov := 1) (f := 3) h.ok mixed plan_ok LtOk.none (tabAw_ok h.hk 1 1) (args := []) (vs := []) (h0 := snG) (ρ := globs 1) rfl (AsmOk.nil _) (snHrel hW) (globs_ok 1) (Nat.le_refl _) snNames
/-- A machine that comes in. -/
abbrev bdCk : List Ck := [.i .u16, .i .u16, .i .u16, .i .u16, .i .u16, .i .u16, .i .u16, .i .u16, .i .u16, .i .u16, .i .u16, .i .u16, .i .u16, .i .u16, .i .u16, .i .u16, .i .u8, .b, .i .u8, .i .u8, .i .u8, .b, .b, .i .u8, .i .u8, .i .u8, .i .i64, .i .i64, .b, .i .i64, .i .u8, .b, .rows .u8, .rows .u8, .i .u64]
theorem bdCk_frs : bdCk.map frOf = bdKs.map some := rfl
end Go.Proofs.YtaijkkkgpgldbaaDoor.K
