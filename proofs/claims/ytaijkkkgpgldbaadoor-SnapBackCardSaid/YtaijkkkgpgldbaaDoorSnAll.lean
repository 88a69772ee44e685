/- The contracts of the snap's laws; awake. -/
import Derived.Test.YtaijkkkgpgldbaaDoorSnSame
import Derived.Test.YtaijkkkgpgldbaaDoorKLaid2
namespace Go.Proofs.YtaijkkkgpgldbaaDoor.K
open Go Sy
set_option maxRecDepth 100000
set_option linter.unusedVariables false
set_option linter.unusedSimpArgs false
/-- A row that is known. -/
def knownL : AExp → Option (List Int)
  | .cst l => some l
  | .nil => some []
  | .one x => (match isLit x with
    | some n => some [n]
    | none => none)
  | .cat x y => (match knownL x, knownL y with
    | some a, some b => some (a ++ b)
    | _, _ => none)
  | .zeros x => (match isLit x with
    | some n => if 0 ≤ n ∧ n ≤ 100000 then some (List.replicate n.toNat 0) else none
    | none => none)
  | _ => none
theorem knownL_den (e : Env) : ∀ {A : AExp} {l : List Int}, knownL A = some l → A.den e = l
  | .cst _, _, h => by cases h; simp only [AExp.den]
  | .nil, _, h => by cases h; simp only [AExp.den]
  | .one x, _, h => by
    simp only [knownL] at h
    split at h
    · rename_i n hn
      cases h
      simp only [AExp.den, isLit_eq hn, litD]
    · cases h
  | .cat x y, _, h => by
    simp only [knownL] at h
    split at h
    · rename_i a b ha hb
      cases h
      simp only [AExp.den, knownL_den e ha, knownL_den e hb]
    · cases h
  | .zeros x, _, h => by
    simp only [knownL] at h
    split at h
    · rename_i n hn
      split at h
      · cases h
        simp only [AExp.den, isLit_eq hn, litD]
      · cases h
    · cases h
  | .var _ _, _, h => by cases h
  | .upd _ _ _, _, h => by cases h
  | .sub _ _ _, _, h => by cases h
  | .fn _ _ _ _, _, h => by cases h
/-- The sum of bytes that are known. -/
def tabSumL (f : Nat) : Tab := fun _ g args st => if g = f then (match args with
  | [.v (.c (.sl a n cap))] => (match rowAt st.as st.h .u8 a n cap with
    | some A => (match knownL A with
      | some l => some (.leaf (.v (.c (.i .u64 (.lit (sumL l)))), st))
      | none => none)
    | none => none)
  | _ => none) else none
theorem tabSumL_ok {f : Nat} (S : FnSpecR f sumPs sumRs snG) (hS : S.F = sumF) {e : Env} (ok : EnvOk e) (hk : KnowsP snG e) (G ov : Nat) : TabOk Tryd.prog G ov (tabSumL f) e := by
  intro ro g args st t Z ht hov hz ρ vs W R hv ha hr hg hR
  unfold tabSumL at ht
  split at ht
  · rename_i hgf
    subst hgf
    split at ht
    · rename_i a n cap
      split at ht
      · rename_i A hA
        split at ht
        · rename_i l hl
          cases ht
          obtain ⟨v1, _, rfl, d1, rfl⟩ := hv
          obtain ⟨r1, r2, r3⟩ := rowAt_ok ok ha hr hA d1
          rw [knownL_den e hl] at r1 r2 r3
          refine (S.calls W (hk.at' hr.old) [.a l] [v1] ⟨⟨r2, r3⟩, trivial⟩ ⟨v1, [], rfl, ⟨[v1], [], rfl, ⟨v1, rfl, r1⟩, rfl⟩, rfl, rfl⟩).mono ?_
          rintro en W' ⟨rfl, _, _, hb⟩
          rw [hS]
          exact hR _ _ hz ρ _ W' (Post.of_below hr hb) (congrArg _ (litD _ _).symm) ha
        · cases ht
      · cases ht
    · cases ht
  · cases ht
/-- The sums and the comparison. -/
def tabSum : Tab := orTab (tabFnC 23 33 sumPs sumRs noCt) (tabFnC 17 33 sumPs sumRs noCt)
/-- The checks by letters. -/
def tabCk (f : Nat) : Tab := tabFnC f 30 ckPs ckRs (ctZ 30 (shrFlat ckPs) ckFacts)
def tabAwS : Tab := orTab (tabCk 19) (orTab tabSum (tabSm 16 (.agg bdKs)))
def z16 : Nat → LExp → LExp
  | 0, l => l
  | n + 1, l => .i (.lit 0) (z16 n l)
/-- The machine at power on. -/
def stL : LExp := z16 16 (.i (.lit 0) (.b (.lit false) (.i (.lit 0) (.i (.lit 0) (.i (.lit 0) (.b (.lit true) (.b (.lit false) (.i (.lit 0) (.i (.lit 0) (.i (.lit 5) (.i (.lit 0) (.i (.lit 0) (.b (.lit false) (.i (.lit 0) (.i (.lit 0) (.b (.lit true) (.a (.zeros (.lit 2048)) (.a (.zeros (.lit 512)) (.i (.lit 0) .nil)))))))))))))))))))
def stAs : Asm := [(.eq (.fn .i64 30 0 stL) (.lit 0), true)]
end Go.Proofs.YtaijkkkgpgldbaaDoor.K
