/- What the processor's functions answer is of the kinds that it should be; what may be stays so: what is checked. -/
import Derived.Test.YtjnoacnbhcdidaaDoorCpFun
namespace Go.Proofs.YtjnoacnbhcdidaaDoor.K
open Go Sy
set_option maxRecDepth 100000
set_option linter.unusedVariables false
set_option linter.unusedSimpArgs false
def takeK (k : IntKind) : Nat → List Flat.Fk → Option (List Flat.Fk)
  | 0, ks => some ks
  | n + 1, .i k' :: ks => if k' = k then takeK k n ks else none
  | _ + 1, _ => none
def segsOk (aq : Asm) : List Seg → List Flat.Fk → Bool
  | [], [] => true
  | .c (.i k x) :: r, .i k' :: ks => decide (k = k') && inKind k (x.rng aq) && segsOk aq r ks
  | .c (.b _) :: r, .b :: ks => segsOk aq r ks
  | .arr k n a :: r, ks => a.inK aq k && (match takeK k n ks with
    | some ks' => segsOk aq r ks'
    | none => false)
  | _, _ => false
def valOk (aq : Asm) (ks : List Flat.Fk) : SVal → Bool
  | .v (.agg l) => segsOk aq l ks
  | .v (.c (.i .i64 x)) => ks.isEmpty && inKind .i64 (x.rng aq)
  | _ => false
theorem allOk_append {k : IntKind} : ∀ {n : Nat} {l : List Int} {ks ks' : List Flat.Fk} {vs : List Value}, takeK k n ks = some ks' → l.length = n → (∀ x ∈ l, In k x) → Flat.AllOk ks' vs → Flat.AllOk ks (l.map (.int k) ++ vs)
  | 0, l, ks, ks', vs, h, hl, _, hv => by
    have : l = [] := List.length_eq_zero_iff.1 hl
    subst this
    simp only [takeK, Option.some.injEq] at h
    subst h
    exact hv
  | n + 1, [], _, _, _, _, hl, _, _ => by simp at hl
  | n + 1, x :: l, ks, ks', vs, h, hl, hin, hv => by
    cases ks with
    | nil => simp [takeK] at h
    | cons f ks =>
      cases f with
      | i k' =>
        simp only [takeK] at h
        split at h
        · rename_i hk
          subst hk
          exact ⟨⟨x, rfl, (hin x List.mem_cons_self).1, (hin x List.mem_cons_self).2⟩, allOk_append h (by simpa using hl) (fun y hy => hin y (List.mem_cons_of_mem _ hy)) hv⟩
        · cases h
      | b => simp [takeK] at h
      | s => simp [takeK] at h
theorem segsOk_ok {e : Env} (ok : EnvOk e) {aq : Asm} (ha : AsmOk e aq) {ρ : Rho} : ∀ {l : List Seg} {ks : List Flat.Fk} {vs : List Value}, segsOk aq l ks = true → SegsD e ρ l vs → Flat.AllOk ks vs
  | [], [], _, _, hD => by cases hD; trivial
  | .c (.i k x) :: r, .i k' :: ks, _, h, ⟨v, vs', h1, h2, h3⟩ => by
    simp only [segsOk, Bool.and_eq_true, decide_eq_true_eq] at h
    obtain ⟨⟨rfl, hk⟩, hr⟩ := h
    have hin := inKind_spec hk (IExp.rng_ok ok ha x)
    rw [h1]
    exact ⟨⟨_, h2, hin.1, hin.2⟩, segsOk_ok ok ha hr h3⟩
  | .c (.b x) :: r, .b :: ks, _, h, ⟨v, vs', h1, h2, h3⟩ => by
    simp only [segsOk] at h
    rw [h1]
    exact ⟨⟨_, h2⟩, segsOk_ok ok ha h h3⟩
  | .arr k n a :: r, ks, _, h, ⟨vs', h1, h2, h3⟩ => by
    simp only [segsOk, Bool.and_eq_true] at h
    obtain ⟨hk, hr⟩ := h
    split at hr
    · rename_i ks' hks
      rw [h1]
      exact allOk_append hks h2 (AExp.inK_ok ok ha _ _ hk) (segsOk_ok ok ha hr h3)
    · cases hr
  | [], _ :: _, _, h, _ => by cases h
  | .c (.i _ _) :: _, [], _, h, _ => by cases h
  | .c (.i _ _) :: _, .b :: _, _, h, _ => by cases h
  | .c (.i _ _) :: _, .s :: _, _, h, _ => by cases h
  | .c (.b _) :: _, [], _, h, _ => by cases h
  | .c (.b _) :: _, .i _ :: _, _, h, _ => by cases h
  | .c (.b _) :: _, .s :: _, _, h, _ => by cases h
  | .c (.s _) :: _, _, _, h, _ => by simp [segsOk] at h
  | .c (.p _) :: _, _, _, h, _ => by simp [segsOk] at h
  | .c (.sl _ _ _) :: _, _, _, h, _ => by simp [segsOk] at h
  | .c (.fn _ _) :: _, _, _, h, _ => by simp [segsOk] at h
  | .c .nf :: _, _, _, h, _ => by simp [segsOk] at h
  | .row _ _ :: _, _, _, h, _ => by simp [segsOk] at h
  | .el _ _ _ _ :: _, _, _, h, _ => by simp [segsOk] at h
noncomputable def shpT (f : Nat) (ks : List Flat.Fk) (args : List SVal) (aq : Asm) : Bool := allOne (fun q => valOk q.2.«as» ks q.1) (run1 f args aq)
/-! ### What may be stays so -/
def impB (x y : BExp) : BExp := .not (.and x (.not y))
def validE (p x o b h : IExp) : BExp :=
  .and (.le p (.lit 15)) (.and (.le x (.lit 15)) (.and (.not (.le h (.lit 0))) (.and (.le h (.lit 8)) (.and (impB (.eq h (.lit 3)) (.and (.not (.le o (.lit 191))) (.le o (.lit 207))))
    (.and (impB (.not (.eq h (.lit 3))) (.eq b (.lit 0))) (.and (impB (.eq h (.lit 4)) (.eq o (.lit 0))) (impB (.eq h (.lit 5)) (.eq o (.lit 0)))))))))
def validB : SVal → BExp
  | .v (.agg [.arr _ _ _, .c _, .c _, .c (.i _ p), .c (.i _ x), .c _, .c _, .c _, .c (.i _ o), .c (.i _ b), .c (.i _ h)]) => validE p x o b h
  | _ => .lit false
def isB (o : Option Bool) (b : Bool) : Bool := match o with
  | some x => x == b
  | none => false
/-- A Step in a mode that is one leaves what may be. -/
def mayOk (aq : Asm) (c v : SVal) : Bool := isB (decideB aq (validB c)) false || isB (decideB aq (.le mode (.lit 3))) false || isB (decideB aq (validB v)) true
noncomputable def stepM (x y : IExp) (aq : Asm) : Bool := allOne (fun q => valOk q.2.«as» cpuFs q.1 && mayOk q.2.«as» (cpuV x y) q.1) (run1 20 [cpuV x y, pinsV mode 8 3] aq)
noncomputable def stepMay (p : Int) (g : Int × Int) : Bool := stepM (grp .u8 4 g).1 (.lit p) (grp .u8 4 g).2
def driveFs : List Flat.Fk := [.i .u8, .i .u16, .b, .b, .b, .i .u8, .i .u8, .b]
noncomputable def driveS (x y : IExp) (aq : Asm) : Bool := shpT 19 driveFs [cpuV x y, .v (.c (.i .u8 mode))] aq
noncomputable def driveShp (p : Int) (g : Int × Int) : Bool := driveS (grp .u8 4 g).1 (.lit p) (grp .u8 4 g).2
noncomputable def checkShp : Bool := shpT 17 [] [cpuV op ph] []
end Go.Proofs.YtjnoacnbhcdidaaDoor.K
