/- Functions that read slices: what is known of the arguments where the answer is 0. -/
import Derived.Test.YtaijkkkgpgldbaaDoorKFr2
namespace Go.Proofs.YtaijkkkgpgldbaaDoor.K
open Go Sy
set_option maxRecDepth 100000
set_option linter.unusedVariables false
set_option linter.unusedSimpArgs false
theorem nbeq (p q : Nat) : Nat.beq (p + (q + 1)) p = false := by
  cases h : Nat.beq (p + (q + 1)) p with
  | false => rfl
  | true => have := Nat.eq_of_beq_eq_true h; omega
/-- The letters stand for the arguments. -/
def asgOf : Nat → List Fr → LExp → List Asg
  | p, .f (.i k) :: ks, .i x l => .i k p x :: asgOf (p + 1) ks l
  | p, .f .b :: ks, .b x l => .b p x :: asgOf (p + 1) ks l
  | p, .f .s :: ks, .a x l => .a .u8 p x :: asgOf (p + 1) ks l
  | p, .f (.arr k _) :: ks, .a x l => .a k p x :: asgOf (p + 1) ks l
  | p, .row k :: ks, .a x l => .a k p x :: asgOf (p + 1) ks l
  | _, _, _ => []
def frI (ks : List Fr) (k : IntKind) (p : Nat) : Bool := match ks[p]? with
  | some (.f (.i k')) => decide (k' = k)
  | _ => false
def frB (ks : List Fr) (p : Nat) : Bool := match ks[p]? with
  | some (.f .b) => true
  | _ => false
def frA (ks : List Fr) (k : IntKind) (p : Nat) : Bool := match ks[p]? with
  | some (.f .s) => decide (k = .u8)
  | some (.f (.arr k' _)) => decide (k' = k)
  | some (.row k') => decide (k' = k)
  | _ => false
/-- Of these letters alone, without functions. -/
def IExp.inF (ks : List Fr) : IExp → Bool
  | .lit _ => true
  | .var k p => frI ks k p
  | .bin _ _ x y => IExp.inF ks x && IExp.inF ks y
  | .conv _ x => IExp.inF ks x
  | .len (.var k p) => frA ks k p
  | _ => false
def BExp.inF (ks : List Fr) : BExp → Bool
  | .lit _ => true
  | .var p => frB ks p
  | .eq x y => IExp.inF ks x && IExp.inF ks y
  | .lt x y => IExp.inF ks x && IExp.inF ks y
  | .le x y => IExp.inF ks x && IExp.inF ks y
  | .not x => BExp.inF ks x
  | _ => false
/-- Two readings that agree at these letters. -/
structure AgreeF (ks : List Fr) (e e' : Env) : Prop where
  i : ∀ k p, frI ks k p = true → e.i k p = e'.i k p
  b : ∀ p, frB ks p = true → e.b p = e'.b p
  a : ∀ k p, frA ks k p = true → e.a k p = e'.a k p
theorem IExp.inF_den {ks : List Fr} {e e' : Env} (g : AgreeF ks e e') : ∀ (x : IExp), IExp.inF ks x = true → x.den e = x.den e'
  | .lit _, _ => by rw [litD, litD]
  | .var k p, h => g.i k p h
  | .bin op k x y, h => by
    simp only [IExp.inF, Bool.and_eq_true] at h
    rw [binE, binE, IExp.inF_den g x h.1, IExp.inF_den g y h.2]
  | .conv k x, h => by
    have := IExp.inF_den g x h
    simp only [IExp.den, this]
  | .len (.var k p), h => by
    have := g.a k p h
    simp only [IExp.den, AExp.den, this]
  | .len (.upd _ _ _), h => by cases h
  | .len .nil, h => by cases h
  | .len (.one _), h => by cases h
  | .len (.cat _ _), h => by cases h
  | .len (.zeros _), h => by cases h
  | .len (.sub _ _ _), h => by cases h
  | .len (.cst _), h => by cases h
  | .len (.fn _ _ _ _), h => by cases h
  | .sel _ _ _, h => by cases h
  | .fn _ _ _ _, h => by cases h
  | .bit _, h => by cases h
theorem BExp.inF_den {ks : List Fr} {e e' : Env} (g : AgreeF ks e e') : ∀ (x : BExp), BExp.inF ks x = true → x.den e = x.den e'
  | .lit _, _ => by simp only [BExp.den]
  | .var p, h => g.b p h
  | .eq x y, h => by
    simp only [BExp.inF, Bool.and_eq_true] at h
    simp only [BExp.den, IExp.inF_den g x h.1, IExp.inF_den g y h.2]
  | .lt x y, h => by
    simp only [BExp.inF, Bool.and_eq_true] at h
    simp only [BExp.den, IExp.inF_den g x h.1, IExp.inF_den g y h.2]
  | .le x y, h => by
    simp only [BExp.inF, Bool.and_eq_true] at h
    simp only [BExp.den, IExp.inF_den g x h.1, IExp.inF_den g y h.2]
  | .not x, h => by
    have := BExp.inF_den g x h
    simp only [BExp.den, this]
  | .beq _ _, h => by cases h
  | .and _ _, h => by cases h
  | .aeq _ _, h => by cases h
  | .fn _ _ _, h => by cases h
theorem asgOf_get {e : Env} : ∀ {ks : List Fr} {p : Nat} {L : LExp}, WfR ks (L.den e) → ∀ (q : Nat),
    (∀ k, frI ks k q = true → ∃ x, getI (asgOf p ks L) k (p + q) = some x ∧ (L.den e)[q]? = some (.i (x.den e)) ∧ In k (x.den e)) ∧
    (frB ks q = true → ∃ x, getB (asgOf p ks L) (p + q) = some x ∧ (L.den e)[q]? = some (.b (x.den e))) ∧
    (∀ k, frA ks k q = true → ∃ x, getA (asgOf p ks L) k (p + q) = some x ∧ (L.den e)[q]? = some (.a (x.den e)) ∧ clipL k (x.den e) = x.den e)
  | [], p, L, hw, q => ⟨fun k h => by simp [frI] at h, fun h => by simp [frB] at h, fun k h => by simp [frA] at h⟩
  | f :: ks, p, L, hw, q => by
    have htop : lenTop = 9223372036854775807 := rfl
    cases L with
    | nil => simp only [LExp.den] at hw; exact hw.elim
    | i x l =>
      simp only [LExp.den] at hw ⊢
      obtain ⟨h1, h2⟩ := hw
      have ih := asgOf_get (p := p + 1) h2
      cases f with
      | row k => exact h1.elim
      | f c => cases c with
        | b => exact h1.elim
        | s => exact h1.elim
        | arr k n => exact h1.elim
        | i k =>
          cases q with
          | zero =>
            refine ⟨fun k' h => ?_, fun h => by simp [frB] at h, fun k' h => by simp [frA] at h⟩
            simp only [frI, List.getElem?_cons_zero, decide_eq_true_eq] at h
            subst h
            exact ⟨x, by simp [asgOf, getI], rfl, h1⟩
          | succ q =>
            obtain ⟨i1, i2, i3⟩ := ih q
            have hp : p + 1 + q = p + (q + 1) := by omega
            rw [hp] at i1 i2 i3
            refine ⟨fun k' h => ?_, fun h => ?_, fun k' h => ?_⟩
            · obtain ⟨y, g1, g2, g3⟩ := i1 k' (by simpa [frI] using h)
              exact ⟨y, by simp only [asgOf, getI]; rw [nbeq p q, Bool.and_false, cond_false]; exact g1, by simpa using g2, g3⟩
            · obtain ⟨y, g1, g2⟩ := i2 (by simpa [frB] using h)
              exact ⟨y, by simp only [asgOf, getB]; exact g1, by simpa using g2⟩
            · obtain ⟨y, g1, g2, g3⟩ := i3 k' (by simpa [frA] using h)
              exact ⟨y, by simp only [asgOf, getA]; exact g1, by simpa using g2, g3⟩
    | b x l =>
      simp only [LExp.den] at hw ⊢
      obtain ⟨h1, h2⟩ := hw
      have ih := asgOf_get (p := p + 1) h2
      cases f with
      | row k => exact h1.elim
      | f c => cases c with
        | i k => exact h1.elim
        | s => exact h1.elim
        | arr k n => exact h1.elim
        | b =>
          cases q with
          | zero =>
            refine ⟨fun k' h => by simp [frI] at h, fun h => ?_, fun k' h => by simp [frA] at h⟩
            exact ⟨x, by simp [asgOf, getB], rfl⟩
          | succ q =>
            obtain ⟨i1, i2, i3⟩ := ih q
            have hp : p + 1 + q = p + (q + 1) := by omega
            rw [hp] at i1 i2 i3
            refine ⟨fun k' h => ?_, fun h => ?_, fun k' h => ?_⟩
            · obtain ⟨y, g1, g2, g3⟩ := i1 k' (by simpa [frI] using h)
              exact ⟨y, by simp only [asgOf, getI]; exact g1, by simpa using g2, g3⟩
            · obtain ⟨y, g1, g2⟩ := i2 (by simpa [frB] using h)
              exact ⟨y, by simp only [asgOf, getB]; rw [nbeq p q, cond_false]; exact g1, by simpa using g2⟩
            · obtain ⟨y, g1, g2, g3⟩ := i3 k' (by simpa [frA] using h)
              exact ⟨y, by simp only [asgOf, getA]; exact g1, by simpa using g2, g3⟩
    | a x l =>
      simp only [LExp.den] at hw ⊢
      obtain ⟨h1, h2⟩ := hw
      have ih := asgOf_get (p := p + 1) h2
      obtain ⟨k0, hk0, hcl, hasg⟩ : ∃ k0, (∀ k', frA (f :: ks) k' 0 = true → k' = k0) ∧ clipL k0 (x.den e) = x.den e ∧ asgOf p (f :: ks) (.a x l) = .a k0 p x :: asgOf (p + 1) ks l ∧ True := by
        cases f with
        | row k => exact ⟨k, fun k' h => by simp [frA] at h; exact h.symm, clipL_of h1.1 h1.2, rfl, trivial⟩
        | f c => cases c with
          | b => exact h1.elim
          | i k => exact h1.elim
          | s => exact ⟨.u8, fun k' h => by simp [frA] at h; exact h, clipL_of h1.1 h1.2, rfl, trivial⟩
          | arr k n =>
            obtain ⟨w1, w2, w3⟩ := h1
            exact ⟨k, fun k' h => by simp [frA] at h; exact h.symm, clipL_of w1 (by omega), rfl, trivial⟩
      have hI : ∀ k', frI (f :: ks) k' 0 = false := fun k' => by
        cases f with
        | row k => rfl
        | f c => cases c with
          | b => rfl
          | i k => exact h1.elim
          | s => rfl
          | arr k n => rfl
      have hB : frB (f :: ks) 0 = false := by
        cases f with
        | row k => rfl
        | f c => cases c with
          | b => exact h1.elim
          | i k => rfl
          | s => rfl
          | arr k n => rfl
      rw [hasg.1]
      cases q with
      | zero =>
        refine ⟨fun k' h => by rw [hI] at h; (cases h), fun h => by rw [hB] at h; (cases h), fun k' h => ?_⟩
        obtain rfl := hk0 k' h
        exact ⟨x, by simp [getA], rfl, hcl⟩
      | succ q =>
        obtain ⟨i1, i2, i3⟩ := ih q
        have hp : p + 1 + q = p + (q + 1) := by omega
        rw [hp] at i1 i2 i3
        refine ⟨fun k' h => ?_, fun h => ?_, fun k' h => ?_⟩
        · obtain ⟨y, g1, g2, g3⟩ := i1 k' (by simpa [frI] using h)
          exact ⟨y, by simp only [getI]; exact g1, by simpa using g2, g3⟩
        · obtain ⟨y, g1, g2⟩ := i2 (by simpa [frB] using h)
          exact ⟨y, by simp only [getB]; exact g1, by simpa using g2⟩
        · obtain ⟨y, g1, g2, g3⟩ := i3 k' (by simpa [frA] using h)
          exact ⟨y, by simp only [getA]; rw [nbeq p q, Bool.and_false, cond_false]; exact g1, by simpa using g2, g3⟩
/-- The letters read as the arguments, and as the function's own reading has them. -/
theorem asgOf_agree {e : Env} {ks : List Fr} {L : LExp} (hw : WfR ks (L.den e)) (s : Src) : AgreeF ks (Env.upd e e (asgOf 0 ks L)) (envOf s (L.den e)).env := by
  refine ⟨fun k p h => ?_, fun p h => ?_, fun k p h => ?_⟩
  · obtain ⟨x, g1, g2, g3⟩ := (asgOf_get (p := 0) hw p).1 k h
    rw [Nat.zero_add] at g1
    rw [updI g1]
    show _ = clip k (((L.den e).map lvI).getD p 0)
    rw [List.getD_eq_getElem?_getD, List.getElem?_map, g2]
    exact (clip_of g3).symm
  · obtain ⟨x, g1, g2⟩ := (asgOf_get (p := 0) hw p).2.1 h
    rw [Nat.zero_add] at g1
    rw [updB g1]
    show _ = ((L.den e).map lvB).getD p false
    rw [List.getD_eq_getElem?_getD, List.getElem?_map, g2]; rfl
  · obtain ⟨x, g1, g2, g3⟩ := (asgOf_get (p := 0) hw p).2.2 k h
    rw [Nat.zero_add] at g1
    rw [updA g1]
    show _ = clipL k (lvA ((L.den e).getD p (.i 0)))
    rw [List.getD_eq_getElem?_getD, g2]
    exact g3.symm
/-- Facts at the arguments. -/
def factsAt (ks : List Fr) (bs : Asm) (L : LExp) : Asm → Asm
  | [] => []
  | p :: r => match p.1.sbst bs (asgOf 0 ks L) with
    | some (.lit _) => factsAt ks bs L r
    | some b => (b, p.2) :: factsAt ks bs L r
    | none => factsAt ks bs L r
theorem factsAt_ok {e : Env} (ok : EnvOk e) {ks : List Fr} {bs : Asm} (ha : AsmOk e bs) {L : LExp} (hw : WfR ks (L.den e)) {s : Src} : ∀ {fs : Asm}, (fs.all fun p => BExp.inF ks p.1) = true → AsmOk (envOf s (L.den e)).env fs → AsmOk e (factsAt ks bs L fs)
  | [], _, _ => AsmOk.nil _
  | p :: r, hin, h => by
    simp only [List.all_cons, Bool.and_eq_true] at hin
    have ih := factsAt_ok ok ha hw (s := s) (fs := r) hin.2 (fun q hq => h q (List.mem_cons_of_mem _ hq))
    simp only [factsAt]
    split
    · exact ih
    · rename_i b hne hb
      refine AsmOk.cons ?_ ih
      rw [← BExp.sbst_ok ok ha p.1 hb, BExp.inF_den (asgOf_agree hw s) p.1 hin.1]
      exact h p List.mem_cons_self
    · exact ih
def ctZ (id : Nat) (ks : List Fr) (fs : Asm) (bs : Asm) (L : LExp) : WT Asm := match decideB bs (.eq (.fn .i64 id 0 L) (.lit 0)) with
  | some true => .leaf (factsAt ks bs L fs)
  | some false => .leaf []
  | none => .node (.eq (.fn .i64 id 0 L) (.lit 0)) (.leaf ((.eq (.fn .i64 id 0 L) (.lit 0), true) :: factsAt ks bs L fs)) (.leaf [(.eq (.fn .i64 id 0 L) (.lit 0), false)])
theorem ctZ_ok {f id : Nat} {ps : List Shr} {rs : List Sh} {gs : SHeap} (S : FnSpecR f ps rs gs) {r : List Fc} (hrs : shFlat rs = .i .i64 :: r) (hin : (S.fs.all fun p => BExp.inF (shrFlat ps) p.1) = true) {e : Env} (ok : EnvOk e) : CtOk S id (ctZ id (shrFlat ps) S.fs) e := by
  intro bs L ha hw hle hfz
  have key : (BExp.eq (.fn .i64 id 0 L) (.lit 0)).den e = true → AsmOk e (factsAt (shrFlat ps) bs L S.fs) := by
    intro h0
    refine factsAt_ok ok ha hw hin (s := S.s) (hfz ?_)
    rw [hrs] at hle
    have h0' : (IExp.fn .i64 id 0 L).den e = (IExp.lit 0).den e := eqT h0
    rw [litD] at h0'
    simp only [IExp.den] at h0'
    cases hF : S.F (L.den e) with
    | nil => rw [hF] at hle; exact hle.elim
    | cons x l =>
      rw [hF] at hle
      have h1 := hle.1
      cases x with
      | b _ => exact h1.elim
      | a _ => exact h1.elim
      | i n =>
        have h1 : e.fi .i64 id 0 (L.den e) = n := h1
        rw [h1] at h0'
        rw [h0']; rfl
  unfold ctZ
  split
  · rename_i hd
    exact key (decideB_ok ok ha hd)
  · exact AsmOk.nil _
  · simp only [WT.holds]
    split
    · rename_i hb
      exact AsmOk.cons hb (key hb)
    · rename_i hb
      exact AsmOk.cons (by simpa using hb) (AsmOk.nil _)
end Go.Proofs.YtaijkkkgpgldbaaDoor.K
