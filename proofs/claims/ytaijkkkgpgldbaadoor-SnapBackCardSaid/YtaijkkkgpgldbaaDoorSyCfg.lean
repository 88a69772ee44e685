/- A symbolic executor for Go code: a body is cut at the heads of its loops; each head has a pattern, its letters an invariant. -/
import Derived.Test.YtaijkkkgpgldbaaDoorSyLoop
namespace Go.Proofs.YtaijkkkgpgldbaaDoor.Sy
noncomputable section
open Go
set_option linter.unusedVariables false
set_option linter.unusedSimpArgs false

/-! ### Heads -/
/-- The loop's round comes next. -/
def Head (P : Program) (c : Code) (Q : Exit → Act → World → Prop) (a : Act) (w : World) : Prop :=
  ∀ (b : Frame) (k : List Item) (cs : List Frame), ∃ e a' w', Q e a' w' ∧ Arrives P (lone (b.at a (.code c :: .inLoop c :: k)) cs w) b k cs e a' w'
theorem loop_of_head {P : Program} {c : Code} {Q : Exit → Act → World → Prop} {a : Act} {w : World} (h : Head P c Q a w) : (Code.loop c).wp P Q a w := by
  intro b k cs
  obtain ⟨e, a', w', hq, harr⟩ := h b k cs
  exact ⟨e, a', w', hq, .of_steps (.one step_loop) harr⟩
theorem head_step {P : Program} {c : Code} {Q : Exit → Act → World → Prop} {a : Act} {w : World} (h : c.wp P (Exit.then (Head P c Q) Q) a w) : Head P c Q a w := by
  intro b k cs
  obtain ⟨e, a₁, w₁, hq, harr⟩ := h b (.inLoop c :: k) cs
  cases e with
  | normal =>
    obtain ⟨e₂, a₂, w₂, hq₂, harr₂⟩ := hq b k cs
    exact ⟨e₂, a₂, w₂, hq₂, .of_steps (Steps.trans harr (.one step_inLoop)) harr₂⟩
  | exit id => exact ⟨_, a₁, w₁, hq, .pass (x := .inLoop c) rfl (fun _ _ => .inl (by simp)) harr⟩
  | goto l => exact ⟨_, a₁, w₁, hq, .pass (x := .inLoop c) rfl (fun _ _ => .inl (by simp)) harr⟩
  | ret => exact ⟨_, a₁, w₁, hq, .pass (x := .inLoop c) rfl (fun _ _ => .inl (by simp)) harr⟩
  | panic ch => exact ⟨_, a₁, w₁, hq, .pass (x := .inLoop c) rfl (fun _ _ => .inl (by simp)) harr⟩
  | outgrown => exact ⟨_, a₁, w₁, hq, .pass (x := .inLoop c) rfl (fun _ _ => .inl (by simp)) harr⟩

/-! ### What is still to do -/
abbrev Path := List Bool
inductive Fm where
  | seq (q : Path) (c : Code)
  | block (id : Nat)
  | loop (q : Path) (c : Code)
  | scope
def wpK (P : Program) (Q : Exit → Act → World → Prop) : List Fm → Exit → Act → World → Prop
  | [] => Q
  | .seq _ c :: k => Exit.then (c.wp P (wpK P Q k)) (wpK P Q k)
  | .block id :: k => Exit.inBlock id (wpK P Q k)
  | .loop _ c :: k => Exit.then (Head P c (wpK P Q k)) (wpK P Q k)
  | .scope :: k => Exit.noGoto (wpK P Q k)

/-- A piece of code at a place, and what is to do behind it. -/
def goTo (q : Path) (c : Code) (k : List Fm) : Path → Code × List Fm
  | [] => (c, k)
  | x :: r => match c with
    | .seq a b => cond x (goTo (q ++ [true]) b k r) (goTo (q ++ [false]) a (.seq (q ++ [true]) b :: k) r)
    | .cond _ a b => cond x (goTo (q ++ [true]) b k r) (goTo (q ++ [false]) a k r)
    | .block id b => goTo (q ++ [x]) b (.block id :: k) r
    | .loop b => goTo (q ++ [x]) b (.loop q b :: k) r
    | .scope b => goTo (q ++ [x]) b (.scope :: k) r
    | _ => (.skip, [])
def placeOf (body : Code) (q : Path) : Code × List Fm := goTo [] body [] q
theorem goTo_append (r : Path) : ∀ (p q : Path) (c : Code) (k : List Fm), goTo q c k (p ++ r) = goTo (q ++ p) (goTo q c k p).1 (goTo q c k p).2 r ∨ (goTo q c k p = (.skip, []))
  | [], q, c, k => .inl (by simp [goTo])
  | x :: p, q, c, k => by
    cases c with
    | seq a b =>
      cases x
      · rcases goTo_append r p (q ++ [false]) a (.seq (q ++ [true]) b :: k) with h | h
        · left; simpa [goTo] using h
        · right; simpa [goTo] using h
      · rcases goTo_append r p (q ++ [true]) b k with h | h
        · left; simpa [goTo] using h
        · right; simpa [goTo] using h
    | cond o a b =>
      cases x
      · rcases goTo_append r p (q ++ [false]) a k with h | h
        · left; simpa [goTo] using h
        · right; simpa [goTo] using h
      · rcases goTo_append r p (q ++ [true]) b k with h | h
        · left; simpa [goTo] using h
        · right; simpa [goTo] using h
    | block id b =>
      rcases goTo_append r p (q ++ [x]) b (.block id :: k) with h | h
      · left; simpa [goTo] using h
      · right; simpa [goTo] using h
    | loop b =>
      rcases goTo_append r p (q ++ [x]) b (.loop q b :: k) with h | h
      · left; simpa [goTo] using h
      · right; simpa [goTo] using h
    | scope b =>
      rcases goTo_append r p (q ++ [x]) b (.scope :: k) with h | h
      · left; simpa [goTo] using h
      · right; simpa [goTo] using h
    | _ => right; rfl
theorem place_step {body : Code} {q : Path} {c : Code} {k : List Fm} (h : placeOf body q = (c, k)) (hc : c ≠ .skip) (x : Bool) : placeOf body (q ++ [x]) = goTo q c k [x] := by
  unfold placeOf at h ⊢
  rcases goTo_append [x] q [] body [] with h2 | h2
  · rw [h2, h]; simp
  · rw [h2] at h
    cases h
    exact absurd rfl hc

/-! ### The walk from head to head -/
inductive Out where
  | cut (q : Path) (tm : Tm) (st : St)
  | fin (x : XE) (tm : Tm) (st : St)
def condW {α : Type} (G : Nat) (c : Operand) (a b : Tm → St → WT α) (tmps : Tm) (st : St) : WT α :=
  match asCell (seval G tmps c) with
  | some (.b x) => withSt st fun h as => (fork as x).bindW fun r => withP r fun v as' => cond v (a tmps ⟨h, as'⟩) (b tmps ⟨h, as'⟩)
  | _ => .stop
def pathIn : List Path → Path → Bool
  | [], _ => false
  | p :: r, q => cond (decide (p = q)) true (pathIn r q)
mutual
def kCode (P : Program) (G : Nat) (plan : Plan) (tab : Tab) (n : Nat) (pl : FPlan) (ro : Nat) (cuts : List Path) : Nat → Path → Code → List Fm → Tm → St → WT Out
  | 0, _, _, _, _, _ => .stop
  | m + 1, q, c, k, tm, st => match c with
    | .seq a b => kCode P G plan tab n pl ro cuts m (q ++ [false]) a (.seq (q ++ [true]) b :: k) tm st
    | .block id b => kCode P G plan tab n pl ro cuts m (q ++ [false]) b (.block id :: k) tm st
    | .scope b => kCode P G plan tab n pl ro cuts m (q ++ [false]) b (.scope :: k) tm st
    | .cond o a b => condW G o (kCode P G plan tab n pl ro cuts m (q ++ [false]) a k) (kCode P G plan tab n pl ro cuts m (q ++ [true]) b k) tm st
    | .loop b => cond (pathIn cuts q) (.leaf (.cut q tm st)) ((xCode P G plan tab n pl ro (.loop b) tm st).bind fun x => withP x fun ex r => withP r fun tm st => kRun P G plan tab n pl ro cuts m k ex tm st)
    | c => (xCode P G plan tab n pl ro c tm st).bind fun x => withP x fun ex r => withP r fun tm st => kRun P G plan tab n pl ro cuts m k ex tm st
termination_by structural m _ _ _ _ _ => m
def kRun (P : Program) (G : Nat) (plan : Plan) (tab : Tab) (n : Nat) (pl : FPlan) (ro : Nat) (cuts : List Path) : Nat → List Fm → XE → Tm → St → WT Out
  | 0, _, _, _, _ => .stop
  | m + 1, k, ex, tm, st => match k with
    | [] => .leaf (.fin ex tm st)
    | .seq q c :: k => (match ex with
      | .normal => kCode P G plan tab n pl ro cuts m q c k tm st
      | ex => kRun P G plan tab n pl ro cuts m k ex tm st)
    | .loop q c :: k => (match ex with
      | .normal => .leaf (.cut q tm st)
      | ex => kRun P G plan tab n pl ro cuts m k ex tm st)
    | .scope :: k => kRun P G plan tab n pl ro cuts m k ex tm st
    | .block id :: k => (match ex with
      | .exit id' => cond (Nat.beq id' id) (kRun P G plan tab n pl ro cuts m k .normal tm st) (kRun P G plan tab n pl ro cuts m k (.exit id') tm st)
      | ex => kRun P G plan tab n pl ro cuts m k ex tm st)
termination_by structural m _ _ _ _ => m
end

def GoodC (P : Program) (G ov : Nat) (e : Env) (pl : FPlan) (c : Code) : Prop := planned P pl.sch c = true ∧ LtAll P G ov e pl.lt c
def OkK (P : Program) (G ov : Nat) (e : Env) (pl : FPlan) (body : Code) : List Fm → Prop
  | [] => True
  | .seq q c :: k => placeOf body q = (c, k) ∧ GoodC P G ov e pl c ∧ OkK P G ov e pl body k
  | .block _ :: k => OkK P G ov e pl body k
  | .scope :: k => OkK P G ov e pl body k
  | .loop q c :: k => placeOf body q = (.loop c, k) ∧ GoodC P G ov e pl c ∧ OkK P G ov e pl body k
theorem goTo_ok {P : Program} {G ov : Nat} {e : Env} {pl : FPlan} {body : Code} : ∀ (r : Path) (q : Path) (c : Code) (k : List Fm), placeOf body q = (c, k) → GoodC P G ov e pl c → OkK P G ov e pl body k →
    GoodC P G ov e pl (goTo q c k r).1 ∧ OkK P G ov e pl body (goTo q c k r).2
  | [], q, c, k, _, hc, hk => ⟨hc, hk⟩
  | x :: r, q, c, k, hp, hc, hk => by
    have skip : GoodC P G ov e pl .skip ∧ OkK P G ov e pl body [] := ⟨⟨rfl, trivial⟩, trivial⟩
    cases c with
    | seq a b =>
      have h1 := place_step hp (by simp) true
      have h0 := place_step hp (by simp) false
      obtain ⟨hpl, hla⟩ := hc
      simp only [planned, Bool.and_eq_true] at hpl
      cases x
      · exact goTo_ok r _ _ _ (by simpa [goTo] using h0) ⟨hpl.1, hla.1⟩ ⟨by simpa [goTo] using h1, ⟨hpl.2, hla.2⟩, hk⟩
      · exact goTo_ok r _ _ _ (by simpa [goTo] using h1) ⟨hpl.2, hla.2⟩ hk
    | cond o a b =>
      have h1 := place_step hp (by simp) true
      have h0 := place_step hp (by simp) false
      obtain ⟨hpl, hla⟩ := hc
      simp only [planned, Bool.and_eq_true] at hpl
      cases x
      · exact goTo_ok r _ _ _ (by simpa [goTo] using h0) ⟨hpl.1, hla.1⟩ hk
      · exact goTo_ok r _ _ _ (by simpa [goTo] using h1) ⟨hpl.2, hla.2⟩ hk
    | block id b =>
      have h1 := place_step hp (by simp) x
      obtain ⟨hpl, hla⟩ := hc
      exact goTo_ok r _ _ _ (by simpa [goTo] using h1) ⟨hpl, hla.2⟩ hk
    | scope b =>
      have h1 := place_step hp (by simp) x
      obtain ⟨hpl, hla⟩ := hc
      exact goTo_ok r _ _ _ (by simpa [goTo] using h1) ⟨hpl, hla⟩ hk
    | loop b =>
      have h1 := place_step hp (by simp) x
      obtain ⟨hpl, hla⟩ := hc
      exact goTo_ok r _ _ _ (by simpa [goTo] using h1) ⟨hpl, hla⟩ ⟨hp, ⟨hpl, hla⟩, hk⟩
    | _ => exact skip
theorem place_ok {P : Program} {G ov : Nat} {e : Env} {pl : FPlan} {body : Code} (h : GoodC P G ov e pl body) (q : Path) : GoodC P G ov e pl (placeOf body q).1 ∧ OkK P G ov e pl body (placeOf body q).2 :=
  goTo_ok q [] body [] rfl h trivial

section
variable {P : Program} {G ov : Nat} {plan : Plan} {tab : Tab} {e : Env} {n : Nat} {pl : FPlan} {ro : Nat} {cuts : List Path} {body : Code} {Q : Exit → Act → World → Prop}

/-- What is to hold where the walk stops. -/
def OutOk (P : Program) (body : Code) (Q : Exit → Act → World → Prop) : Out → Act → World → Prop
  | .cut q _ _, a, W => ∃ b k, placeOf body q = (.loop b, k) ∧ Head P b (wpK P Q k) a W
  | .fin ex _ _, a, W => Q ex.to a W
def Out.tm : Out → Tm
  | .cut _ tm _ => tm
  | .fin _ tm _ => tm
def Out.st : Out → St
  | .cut _ _ st => st
  | .fin _ _ st => st
def OutsOk (P : Program) (G ov ro : Nat) (e : Env) (body : Code) (Q : Exit → Act → World → Prop) (Z : Out → Prop) (ρ : Rho) (W : World) : Prop :=
  ∀ o, Z o → ∀ ρ' a' W', Post e ov ro ρ W ρ' o.st.h W' → Rl e G ov ρ' o.tm o.st a' W' → OutOk P body Q o a' W'
theorem OutsOk.next {Z : Out → Prop} {ρ ρ' : Rho} {W W' : World} {h' : SHeap} (h : OutsOk P G ov ro e body Q Z ρ W) (hp : Post e ov ro ρ W ρ' h' W') : OutsOk P G ov ro e body Q Z ρ' W' :=
  fun o hz ρ'' a'' W'' hp2 hR2 => h o hz ρ'' a'' W'' (hp.trans hp2) hR2

theorem k_sound (ok : EnvOk e) (hcode : CodeOk P G ov plan tab e n) (hov : ov ≤ ro) : ∀ m,
    (∀ q c k tm st Z, placeOf body q = (c, k) → GoodC P G ov e pl c → OkK P G ov e pl body k → (kCode P G plan tab n pl ro cuts m q c k tm st).holds e Z → ∀ ρ a W, Rl e G ov ρ tm st a W → OutsOk P G ov ro e body Q Z ρ W → c.wp P (wpK P Q k) a W) ∧
    (∀ k ex tm st Z, OkK P G ov e pl body k → (kRun P G plan tab n pl ro cuts m k ex tm st).holds e Z → ∀ ρ a W, Rl e G ov ρ tm st a W → OutsOk P G ov ro e body Q Z ρ W → wpK P Q k ex.to a W)
  | 0 => by
    refine ⟨?_, ?_⟩
    · intro q c k tm st Z _ _ _ h; simp [kCode, WT.holds] at h
    · intro k ex tm st Z _ h; simp [kRun, WT.holds] at h
  | m + 1 => by
    obtain ⟨hC, hK⟩ := k_sound ok hcode hov m
    refine ⟨?_, ?_⟩
    · intro q c k tm st Z hp hc hk h ρ a W hR hO
      have other : (kCode P G plan tab n pl ro cuts (m + 1) q c k tm st = (xCode P G plan tab n pl ro c tm st).bind fun x => withP x fun ex r => withP r fun tm st => kRun P G plan tab n pl ro cuts m k ex tm st) → c.wp P (wpK P Q k) a W := by
        intro heq
        rw [heq] at h
        refine hcode pl ro c tm st _ hc.1 hc.2 hov (WT.holds_bind h) ρ a W _ hR fun ex tm' st' hz ρ' a' W' hp' hR' => ?_
        exact hK _ _ _ _ _ hk hz ρ' a' W' hR' (hO.next hp')
      cases c with
      | seq x y =>
        have h1 := place_step hp (by simp) true
        have h0 := place_step hp (by simp) false
        obtain ⟨hpl, hla⟩ := hc
        simp only [planned, Bool.and_eq_true] at hpl
        exact wp_seq (hC (q ++ [false]) x (.seq (q ++ [true]) y :: k) _ _ _ (by simpa [goTo] using h0) ⟨hpl.1, hla.1⟩ ⟨by simpa [goTo] using h1, ⟨hpl.2, hla.2⟩, hk⟩ h ρ a W hR hO)
      | block id b =>
        have h1 := place_step hp (by simp) false
        obtain ⟨hpl, hla⟩ := hc
        exact wp_block (hC (q ++ [false]) b (.block id :: k) _ _ _ (by simpa [goTo] using h1) ⟨hpl, hla.2⟩ hk h ρ a W hR hO)
      | scope b =>
        have h1 := place_step hp (by simp) false
        obtain ⟨hpl, hla⟩ := hc
        exact wp_scope_straight (hC (q ++ [false]) b (.scope :: k) _ _ _ (by simpa [goTo] using h1) ⟨hpl, hla⟩ hk h ρ a W hR hO)
      | cond o x y =>
        have h1 := place_step hp (by simp) true
        have h0 := place_step hp (by simp) false
        obtain ⟨hpl, hla⟩ := hc
        simp only [planned, Bool.and_eq_true] at hpl
        simp only [kCode, condW] at h
        split at h
        · rename_i b hb
          obtain ⟨⟨r, as1⟩, g1, g2⟩ := Tree.holds_bindW h
          simp only [withP_eq] at g2
          have hf := fork_ok ok hR.as g1
          have hcc := evalCell hR.gl hR.tm hb
          simp only [Cell.D, hf.1] at hcc
          refine wp_cond hcc ?_
          cases r with
          | true =>
            simp only [cond_true] at g2; simp only [if_true]
            exact hC _ _ _ _ _ _ (by simpa [goTo] using h0) ⟨hpl.1, hla.1⟩ hk g2 ρ a W ⟨hR.tm, hR.df, hf.2, hR.hr, hR.gl⟩ hO
          | false =>
            simp only [cond_false] at g2; simp only [Bool.false_eq_true, if_false]
            exact hC _ _ _ _ _ _ (by simpa [goTo] using h1) ⟨hpl.2, hla.2⟩ hk g2 ρ a W ⟨hR.tm, hR.df, hf.2, hR.hr, hR.gl⟩ hO
        · exact h.elim
      | loop b =>
        cases hq : pathIn cuts q with
        | true =>
          simp only [kCode, hq, cond_true, WT.holds] at h
          obtain ⟨b', k', hp', hh⟩ := hO _ h ρ a W (Post.refl hR.hr) hR
          rw [hp] at hp'
          simp only [Prod.mk.injEq, Code.loop.injEq] at hp'
          obtain ⟨rfl, rfl⟩ := hp'
          exact loop_of_head hh
        | false => exact other (by simp only [kCode, hq, cond_false])
      | _ => exact other rfl
    · intro k ex tm st Z hk h ρ a W hR hO
      cases k with
      | nil => exact hO _ h ρ a W (Post.refl hR.hr) hR
      | cons f k =>
        cases f with
        | seq q c =>
          obtain ⟨hp, hc, hk⟩ := hk
          cases ex with
          | normal => exact hC _ _ _ _ _ _ hp hc hk h ρ a W hR hO
          | exit id => exact hK _ _ _ _ _ hk h ρ a W hR hO
          | ret => exact hK _ _ _ _ _ hk h ρ a W hR hO
        | scope =>
          have := hK k ex tm st Z hk h ρ a W hR hO
          cases ex <;> exact this
        | loop q c =>
          obtain ⟨hp, hc, hk⟩ := hk
          cases ex with
          | normal =>
            obtain ⟨b', k', hp', hh⟩ := hO _ h ρ a W (Post.refl hR.hr) hR
            rw [hp] at hp'
            simp only [Prod.mk.injEq, Code.loop.injEq] at hp'
            obtain ⟨rfl, rfl⟩ := hp'
            exact hh
          | exit id => exact hK _ _ _ _ _ hk h ρ a W hR hO
          | ret => exact hK _ _ _ _ _ hk h ρ a W hR hO
        | block id =>
          cases ex with
          | normal => exact hK k .normal _ _ _ hk h ρ a W hR hO
          | ret => exact hK k .ret _ _ _ hk h ρ a W hR hO
          | exit id' =>
            simp only [kRun] at h
            cases hq : Nat.beq id' id with
            | true =>
              have hid := Nat.eq_of_beq_eq_true hq
              rw [hq] at h
              simp only [cond_true] at h
              simp only [XE.to, wpK, Exit.inBlock, if_pos hid]
              exact hK k .normal _ _ _ hk h ρ a W hR hO
            | false =>
              have hid : ¬ id' = id := fun hh => by rw [hh] at hq; simp at hq
              rw [hq] at h
              simp only [cond_false] at h
              simp only [XE.to, wpK, Exit.inBlock, if_neg hid]
              exact hK k (.exit id') _ _ _ hk h ρ a W hR hO
end

/-! ### Patterns -/
structure Pat where
  h : SHeap
  n : Nat
  tm : List (Nat × SVal)
  as : Asm
def Pat.tms (p : Pat) : Tm := ⟨p.n, p.tm, true⟩
def Pat.st (p : Pat) : St := ⟨p.h, p.as⟩
/-- A head, and which of its patterns. -/
abbrev Key := Path × Nat
abbrev Pats := List (Key × Pat)
def patAt : Pats → Key → Option Pat
  | [], _ => none
  | (p, x) :: r, q => cond (decide (p = q)) (some x) (patAt r q)
def cutsOf (p : Pats) : List Path := p.map (·.1.1)

/-- What has been found of blocks and letters. -/
structure Mt where
  bs : List (Nat × Nat)
  l : List Asg
def hasL : List Asg → (Asg → Bool) → Bool
  | [], _ => false
  | x :: r, f => cond (f x) true (hasL r f)
def addI (N : Nat) (k : IntKind) (j : Nat) (x : IExp) (m : Mt) : Mt :=
  cond (Nat.ble N j && !(hasL m.l fun y => match y with | .i k' j' _ => decide (k = k') && Nat.beq j j' | _ => false)) ⟨m.bs, .i k j x :: m.l⟩ m
def addB (N : Nat) (j : Nat) (x : BExp) (m : Mt) : Mt :=
  cond (Nat.ble N j && !(hasL m.l fun y => match y with | .b j' _ => Nat.beq j j' | _ => false)) ⟨m.bs, .b j x :: m.l⟩ m
def addA (N : Nat) (k : IntKind) (j : Nat) (x : AExp) (m : Mt) : Mt :=
  cond (Nat.ble N j && !(hasL m.l fun y => match y with | .a k' j' _ => decide (k = k') && Nat.beq j j' | _ => false)) ⟨m.bs, .a k j x :: m.l⟩ m
def mtI (N : Nat) : IExp → IExp → Mt → Mt
  | .var k j, x, m => addI N k j x m
  | .len (.var k j), x, m => (match x with | .len y => addA N k j y m | _ => m)
  | .bin _ _ p q, x, m => (match x with | .bin _ _ y z => mtI N q z (mtI N p y m) | _ => m)
  | _, _, m => m
def mtB (N : Nat) (p x : BExp) (m : Mt) : Mt := match p with
  | .var j => addB N j x m
  | _ => m
def mtA (N : Nat) : AExp → AExp → Mt → Mt
  | .var k j, x, m => addA N k j x m
  | .cat p q, x, m => (match x with | .cat y z => mtA N q z (mtA N p y m) | _ => m)
  | _, _, m => m
def findB : List (Nat × Nat) → Nat → Option Nat
  | [], _ => none
  | (i, j) :: r, x => cond (Nat.beq i x) (some j) (findB r x)
def mtAd (a b : Ad) (m : Mt) : Mt := match findB m.bs a.b with
  | some _ => m
  | none => ⟨(a.b, b.b) :: m.bs, m.l⟩
def mtAds : List Ad → List Ad → Mt → Mt
  | a :: r, b :: s, m => mtAds r s (mtAd a b m)
  | _, _, m => m
def mtC (N : Nat) (p x : Cell) (m : Mt) : Mt := match p, x with
  | .b x, .b y => mtB N x y m
  | .i _ x, .i _ y => mtI N x y m
  | .s x, .s y => mtA N x y m
  | .p (some a), .p (some b) => mtAd a b m
  | .sl none n none, .sl none n' none => mtI N n n' m
  | .sl none n (some c), .sl none n' (some d) => mtI N c d (mtI N n n' m)
  | .sl (some a) n none, .sl (some b) n' none => mtI N n n' (mtAd a b m)
  | .sl (some a) n (some c), .sl (some b) n' (some d) => mtI N c d (mtI N n n' (mtAd a b m))
  | .fn _ c, .fn _ d => mtAds c d m
  | _, _ => m
def mtCs (N : Nat) : List Cell → List Cell → Mt → Mt
  | a :: r, b :: s, m => mtCs N r s (mtC N a b m)
  | _, _, m => m
def mtCols (N : Nat) : List Col → List Col → Mt → Mt
  | .b x :: r, .b y :: s, m => mtCols N r s (mtA N x y m)
  | .i _ x :: r, .i _ y :: s, m => mtCols N r s (mtA N x y m)
  | _, _, m => m
def mtS (N : Nat) (p x : Seg) (m : Mt) : Mt := match p, x with
  | .c x, .c y => mtC N x y m
  | .arr _ _ x, .arr _ _ y => mtA N x y m
  | .row _ x, .row _ y => mtA N x y m
  | .el n _ j x, .el n' _ j' y => mtCs N x y (mtI N j j' (mtI N n n' m))
  | .tab n c, .tab n' c' => mtCols N c c' (mtI N n n' m)
  | _, _ => m
def mtSs (N : Nat) : List Seg → List Seg → Mt → Mt
  | a :: r, b :: s, m => mtSs N r s (mtS N a b m)
  | _, _, m => m
def mtV (N : Nat) (p x : SV) (m : Mt) : Mt := match p, x with
  | .c x, .c y => mtC N x y m
  | .agg x, .agg y => mtSs N x y m
  | _, _ => m
def mtVs (N : Nat) : List SV → List SV → Mt → Mt
  | a :: r, b :: s, m => mtVs N r s (mtV N a b m)
  | _, _, m => m
def mtVal (N : Nat) (p x : SVal) (m : Mt) : Mt := match p, x with
  | .v x, .v y => mtV N x y m
  | .tup x, .tup y => mtVs N x y m
  | _, _ => m
def mtTm (N : Nat) (tm : Tm) : List (Nat × SVal) → Mt → Mt
  | [], m => m
  | (t, p) :: r, m => mtTm N tm r (mtVal N p (tm.get t) m)
def mtBlk (N : Nat) (h h' : SHeap) (i j : Nat) (m : Mt) : Mt := match h[i]?, h'[j]? with
  | some (some (x, _)), some (some (y, _)) => mtSs N x y m
  | _, _ => m
def mtBs (N : Nat) (h h' : SHeap) : List (Nat × Nat) → Mt → Mt
  | [], m => m
  | (i, j) :: r, m => mtBs N h h' r (mtBlk N h h' i j m)
def mtRounds (N : Nat) (h h' : SHeap) : Nat → Mt → Mt
  | 0, m => m
  | d + 1, m => mtRounds N h h' d (mtBs N h h' m.bs m)
/-- Blocks and letters of a pattern, as a state has them; the first blocks are the same. -/
def mtAll (N base : Nat) (p : Pat) (tm : Tm) (st : St) : List Nat × List Asg :=
  let m := mtRounds N p.h st.h 3 (mtTm N tm p.tm ⟨(List.range base).map fun i => (i, i), []⟩)
  ((List.range p.h.length).map fun i => (findB m.bs i).getD st.h.length, m.l)

/-! What a letter stands for. -/
def getI : List Asg → IntKind → Nat → Option IExp
  | [], _, _ => none
  | .i k' j' x :: r, k, j => cond (decide (k = k') && Nat.beq j j') (some x) (getI r k j)
  | _ :: r, k, j => getI r k j
def getB : List Asg → Nat → Option BExp
  | [], _ => none
  | .b j' x :: r, j => cond (Nat.beq j j') (some x) (getB r j)
  | _ :: r, j => getB r j
def getA : List Asg → IntKind → Nat → Option AExp
  | [], _, _ => none
  | .a k' j' x :: r, k, j => cond (decide (k = k') && Nat.beq j j') (some x) (getA r k j)
  | _ :: r, k, j => getA r k j
theorem updI {e0 e : Env} {k : IntKind} {j : Nat} {x : IExp} : ∀ {l : List Asg}, getI l k j = some x → (Env.upd e0 e l).i k j = x.den e
  | [], h => by cases h
  | .i k' j' y :: r, h => by
    simp only [getI] at h
    simp only [Env.upd]
    by_cases hc : k = k' ∧ j = j'
    · obtain ⟨rfl, rfl⟩ := hc
      simp only [decide_true, Nat.beq_refl, Bool.and_self, cond_true, Option.some.injEq] at h
      subst h
      simp
    · have : (decide (k = k') && Nat.beq j j') = false := by
        rcases Classical.em (k = k') with hk | hk
        · have hj : ¬ j = j' := fun hj => hc ⟨hk, hj⟩
          have : Nat.beq j j' = false := by cases hq : Nat.beq j j' with | false => rfl | true => exact absurd (Nat.eq_of_beq_eq_true hq) hj
          rw [this, Bool.and_false]
        · rw [decide_eq_false hk, Bool.false_and]
      rw [this, cond_false] at h
      rw [if_neg hc]
      exact updI h
  | .b j' y :: r, h => updI (l := r) h
  | .a k' j' y :: r, h => updI (l := r) h
theorem updB {e0 e : Env} {j : Nat} {x : BExp} : ∀ {l : List Asg}, getB l j = some x → (Env.upd e0 e l).b j = x.den e
  | [], h => by cases h
  | .b j' y :: r, h => by
    simp only [getB] at h
    simp only [Env.upd]
    by_cases hc : j = j'
    · subst hc
      simp only [Nat.beq_refl, cond_true, Option.some.injEq] at h
      subst h
      simp
    · have : Nat.beq j j' = false := by cases hq : Nat.beq j j' with | false => rfl | true => exact absurd (Nat.eq_of_beq_eq_true hq) hc
      rw [this, cond_false] at h
      rw [if_neg hc]
      exact updB h
  | .i k' j' y :: r, h => updB (l := r) h
  | .a k' j' y :: r, h => updB (l := r) h
theorem updA {e0 e : Env} {k : IntKind} {j : Nat} {x : AExp} : ∀ {l : List Asg}, getA l k j = some x → (Env.upd e0 e l).a k j = x.den e
  | [], h => by cases h
  | .a k' j' y :: r, h => by
    simp only [getA] at h
    simp only [Env.upd]
    by_cases hc : k = k' ∧ j = j'
    · obtain ⟨rfl, rfl⟩ := hc
      simp only [decide_true, Nat.beq_refl, Bool.and_self, cond_true, Option.some.injEq] at h
      subst h
      simp
    · have : (decide (k = k') && Nat.beq j j') = false := by
        rcases Classical.em (k = k') with hk | hk
        · have hj : ¬ j = j' := fun hj => hc ⟨hk, hj⟩
          have : Nat.beq j j' = false := by cases hq : Nat.beq j j' with | false => rfl | true => exact absurd (Nat.eq_of_beq_eq_true hq) hj
          rw [this, Bool.and_false]
        · rw [decide_eq_false hk, Bool.false_and]
      rw [this, cond_false] at h
      rw [if_neg hc]
      exact updA h
  | .b j' y :: r, h => updA (l := r) h
  | .i k' j' y :: r, h => updA (l := r) h
theorem updI_none {e0 e : Env} {k : IntKind} {j : Nat} : ∀ {l : List Asg}, getI l k j = none → (Env.upd e0 e l).i k j = e0.i k j
  | [], _ => rfl
  | .i k' j' y :: r, h => by
    simp only [getI] at h
    simp only [Env.upd]
    by_cases hc : k = k' ∧ j = j'
    · obtain ⟨rfl, rfl⟩ := hc
      simp at h
    · rw [if_neg hc]
      cases hq : (decide (k = k') && Nat.beq j j') with
      | true => rw [hq] at h; cases h
      | false => rw [hq] at h; exact updI_none h
  | .b j' y :: r, h => updI_none (l := r) h
  | .a k' j' y :: r, h => updI_none (l := r) h
theorem updA_none {e0 e : Env} {k : IntKind} {j : Nat} : ∀ {l : List Asg}, getA l k j = none → (Env.upd e0 e l).a k j = e0.a k j
  | [], _ => rfl
  | .a k' j' y :: r, h => by
    simp only [getA] at h
    simp only [Env.upd]
    by_cases hc : k = k' ∧ j = j'
    · obtain ⟨rfl, rfl⟩ := hc
      simp at h
    · rw [if_neg hc]
      cases hq : (decide (k = k') && Nat.beq j j') with
      | true => rw [hq] at h; cases h
      | false => rw [hq] at h; exact updA_none h
  | .b j' y :: r, h => updA_none (l := r) h
  | .i k' j' y :: r, h => updA_none (l := r) h
theorem updB_none {e0 e : Env} {j : Nat} : ∀ {l : List Asg}, getB l j = none → (Env.upd e0 e l).b j = e0.b j
  | [], _ => rfl
  | .b j' y :: r, h => by
    simp only [getB] at h
    simp only [Env.upd]
    by_cases hc : j = j'
    · subst hc
      simp at h
    · rw [if_neg hc]
      cases hq : Nat.beq j j' with
      | true => rw [hq] at h; cases h
      | false => rw [hq] at h; exact updB_none h
  | .i k' j' y :: r, h => updB_none (l := r) h
  | .a k' j' y :: r, h => updB_none (l := r) h

inductive Go where
  | go (q : Key) (l : List Asg)
  | done (v : SVal) (st : St)
  | bad
def doneOf (P : Program) (G k : Nat) (rs : List ResultVar) (x : XE) (tm : Tm) (st : St) : Go := match retF P G k rs (x, tm, st) with
  | .leaf q => .done q.1 ⟨q.2.h, []⟩
  | _ => .bad
/-- The first blocks forgotten. -/
def roNone : Nat → SHeap → SHeap
  | 0, h => h
  | _ + 1, [] => []
  | n + 1, _ :: r => none :: roNone n r
theorem roNone_len : ∀ (n : Nat) (h : SHeap), (roNone n h).length = h.length
  | 0, _ => rfl
  | _ + 1, [] => rfl
  | n + 1, _ :: r => by simp [roNone, roNone_len n r]
theorem roNone_get : ∀ (n : Nat) (h : SHeap) (i : Nat), (roNone n h)[i]? = if i < n then (h[i]?).map (fun _ => none) else h[i]?
  | 0, h, i => by simp [roNone]
  | n + 1, [], i => by simp [roNone]
  | n + 1, x :: r, 0 => by simp [roNone]
  | n + 1, x :: r, i + 1 => by
    simp only [roNone, List.getElem?_cons_succ, roNone_get n r i]
    by_cases h : i < n
    · rw [if_pos h, if_pos (by omega)]
    · rw [if_neg h, if_neg (by omega)]
def Ad.fine (N : Nat) (okB : Nat → Bool) (a : Ad) : Bool := okB a.b && (match a.ix with | some (i, _) => i.old N | none => true)
def oOld (N : Nat) : Option IExp → Bool
  | some x => x.old N
  | none => true
def Cell.fine (N : Nat) (okB : Nat → Bool) : Cell → Bool
  | .b x => x.old N
  | .i _ x => x.old N
  | .s x => x.old N
  | .p none => true
  | .p (some a) => a.fine N okB
  | .sl none l c => l.old N && oOld N c
  | .sl (some a) l c => a.fine N okB && l.old N && oOld N c
  | .fn _ l => l.all (Ad.fine N okB)
  | .nf => true
def Seg.fine (N : Nat) (okB : Nat → Bool) : Seg → Bool
  | .c x => x.fine N okB
  | .arr _ _ a => a.old N
  | .row _ a => a.old N
  | .el n _ j l => n.old N && j.old N && l.all (Cell.fine N okB)
  | .tab n cl => n.old N && cl.all fun x => x.a.old N
def SV.fine (N : Nat) (okB : Nat → Bool) : SV → Bool
  | .c x => x.fine N okB
  | .agg l => l.all (Seg.fine N okB)
def SVal.fine (N : Nat) (okB : Nat → Bool) : SVal → Bool
  | .v x => x.fine N okB
  | .tup l => l.all (SV.fine N okB)
  | .any => true
  | .val _ => true
section fine
variable {N : Nat} {okB : Nat → Bool} {e e' : Env} {ρ ρ' : Rho} (g : Agree N e e') (hρ : ∀ b, okB b = true → ρ'[b]? = ρ[b]?)
include g hρ
theorem Ad.conv {a : Ad} {A : Addr} (h : a.fine N okB = true) (hD : a.D e ρ A) : a.D e' ρ' A := by
  simp only [Ad.fine, Bool.and_eq_true] at h
  obtain ⟨b', o, r, hb, hA⟩ := hD
  refine ⟨b', o, r, by rw [hρ _ h.1]; exact hb, ?_⟩
  cases hix : a.ix with
  | none => rw [hix] at hA; exact hA
  | some q =>
    obtain ⟨i, w⟩ := q
    rw [hix] at hA h
    simp only at hA h ⊢
    rw [IExp.den_old g i h.2]; exact hA
theorem oOld_conv {a : Ad} {c : Nat} {cap : Option IExp} (hf : a.fine N okB = true) (h : oOld N cap = true) (hD : CapIs e ρ a cap c) : CapIs e' ρ' a cap c := by
  simp only [Ad.fine, Bool.and_eq_true] at hf
  cases cap with
  | none =>
    obtain ⟨b', o, r, hb', hw⟩ := hD
    refine ⟨b', o, r, by rw [hρ _ hf.1]; exact hb', ?_⟩
    rw [← hw]
    unfold Ad.pos
    cases hix : a.ix with
    | none => rfl
    | some q =>
      obtain ⟨i, w⟩ := q
      rw [hix] at hf
      simp only
      rw [IExp.den_old g i hf.2]
  | some x =>
    have hD : (c : Int) = x.den e := hD
    show (c : Int) = x.den e'
    rw [IExp.den_old g x h]; exact hD
theorem Ads.conv : ∀ {l : List Ad} {vs : List Value}, l.all (Ad.fine N okB) = true → AdsD e ρ l vs → AdsD e' ρ' l vs
  | [], _, _, h => h
  | _ :: _, _, hf, ⟨A, vs', h1, h2, h3⟩ => by
    simp only [List.all_cons, Bool.and_eq_true] at hf
    exact ⟨A, vs', Ad.conv g hρ hf.1 h1, h2, Ads.conv hf.2 h3⟩
theorem Cell.conv {x : Cell} {v : Value} (h : x.fine N okB = true) (hD : x.D e ρ v) : x.D e' ρ' v := by
  cases x with
  | b x => rw [Cell.D, BExp.den_old g x h]; exact hD
  | i k x => rw [Cell.D, IExp.den_old g x h]; exact hD
  | s x => rw [Cell.D, AExp.den_old g x h]; exact hD
  | p a => cases a with
    | none => exact hD
    | some a => obtain ⟨A, h1, h2⟩ := hD; exact ⟨A, Ad.conv g hρ h h1, h2⟩
  | sl a l c => cases a with
    | none =>
      simp only [Cell.fine, Bool.and_eq_true] at h
      obtain ⟨h1, h2, x, rfl, h4⟩ := hD
      exact ⟨h1, by rw [IExp.den_old g l h.1]; exact h2, x, rfl, by rw [IExp.den_old g x h.2]; exact h4⟩
    | some a =>
      simp only [Cell.fine, Bool.and_eq_true] at h
      obtain ⟨o, n, q, h1, h2, h3, h4⟩ := hD
      refine ⟨o, n, q, h1, by rw [IExp.den_old g l h.1.2]; exact h2, h3, ?_⟩
      rcases h4 with ⟨A, h4, h5, h6⟩ | ⟨h4, h5, h6⟩
      · have hb : okB a.b = true := by
          have := h.1.1
          simp only [Ad.fine, Bool.and_eq_true] at this
          exact this.1
        exact .inl ⟨A, Ad.conv g hρ h.1.1 h4, h5, oOld_conv g hρ h.1.1 h.2 h6⟩
      · refine .inr ⟨h4, h5, fun x hx => ?_⟩
        subst hx
        rw [IExp.den_old g x h.2]; exact h6 x rfl
  | fn f caps => obtain ⟨vs, h1, h2⟩ := hD; exact ⟨vs, Ads.conv g hρ h h1, h2⟩
  | nf => exact hD
theorem Cells.conv : ∀ {l : List Cell} {vs : List Value}, l.all (Cell.fine N okB) = true → CellsD e ρ l vs → CellsD e' ρ' l vs
  | [], _, _, h => h
  | _ :: _, _, hf, ⟨v, vs', h1, h2, h3⟩ => by
    simp only [List.all_cons, Bool.and_eq_true] at hf
    exact ⟨v, vs', h1, Cell.conv g hρ hf.1 h2, Cells.conv hf.2 h3⟩
theorem Segs.conv : ∀ {l : List Seg} {vs : List Value}, l.all (Seg.fine N okB) = true → SegsD e ρ l vs → SegsD e' ρ' l vs
  | [], _, _, h => h
  | .c _ :: _, _, hf, ⟨v, vs', h1, h2, h3⟩ => by
    simp only [List.all_cons, Bool.and_eq_true, Seg.fine] at hf
    exact ⟨v, vs', h1, Cell.conv g hρ hf.1 h2, Segs.conv hf.2 h3⟩
  | .arr _ _ a :: _, _, hf, ⟨vs', h1, h2, h3⟩ => by
    simp only [List.all_cons, Bool.and_eq_true, Seg.fine] at hf
    exact ⟨vs', by rw [AExp.den_old g a hf.1]; exact h1, by rw [AExp.den_old g a hf.1]; exact h2, Segs.conv hf.2 h3⟩
  | .row _ a :: _, _, hf, ⟨vs', h1, h3⟩ => by
    simp only [List.all_cons, Bool.and_eq_true, Seg.fine] at hf
    exact ⟨vs', by rw [AExp.den_old g a hf.1]; exact h1, Segs.conv hf.2 h3⟩
  | .el n w j l :: _, _, hf, ⟨p, m, q, vs', h1, h2, h3⟩ => by
    simp only [List.all_cons, Bool.and_eq_true, Seg.fine] at hf
    obtain ⟨⟨⟨f1, f2⟩, f3⟩, f4⟩ := hf
    exact ⟨p, m, q, vs', h1, ⟨Cells.conv g hρ f3 h2.md, h2.wid, by rw [IExp.den_old g j f2]; exact h2.j0, by rw [IExp.den_old g j f2]; exact h2.at', by rw [IExp.den_old g n f1]; exact h2.all, h2.one⟩, Segs.conv f4 h3⟩
  | .tab n c :: _, _, hf, ⟨tv, vs', h1, h2, h3⟩ => by
    simp only [List.all_cons, Bool.and_eq_true, Seg.fine] at hf
    obtain ⟨⟨f1, f2⟩, f4⟩ := hf
    exact ⟨tv, vs', h1, h2.of_cols (IExp.den_old g n f1) rfl (fun r x hx => ⟨x, hx, AExp.den_old g x.a (List.all_eq_true.1 f2 x (List.mem_of_getElem? hx)), fun _ => rfl⟩), Segs.conv f4 h3⟩
theorem SV.conv {x : SV} {v : Value} (h : x.fine N okB = true) (hD : x.D e ρ v) : x.D e' ρ' v := by
  cases x with
  | c x => exact Cell.conv g hρ h hD
  | agg l => obtain ⟨vs, h1, h2⟩ := hD; exact ⟨vs, h1, Segs.conv g hρ h h2⟩
theorem SVs.conv : ∀ {l : List SV} {vs : List Value}, l.all (SV.fine N okB) = true → SVsD e ρ l vs → SVsD e' ρ' l vs
  | [], _, _, h => h
  | _ :: _, _, hf, ⟨v, vs', h1, h2, h3⟩ => by
    simp only [List.all_cons, Bool.and_eq_true] at hf
    exact ⟨v, vs', h1, SV.conv g hρ hf.1 h2, SVs.conv hf.2 h3⟩
theorem SVal.conv {x : SVal} {v : Value} (h : x.fine N okB = true) (hD : x.D e ρ v) : x.D e' ρ' v := by
  cases x with
  | v x => exact SV.conv g hρ h hD
  | tup l => obtain ⟨vs, h1, h2⟩ := hD; exact ⟨vs, h1, SVs.conv g hρ h h2⟩
  | any => trivial
  | val j => show v = _; rw [g.v]; exact hD
end fine
/-- A pattern's slots and own blocks speak of no letter from NE on, and of no block that may turn. -/
def patFine (NE sv ov : Nat) (p : Pat) : Bool :=
  (p.tm.all fun q => q.2.fine NE fun b => Nat.blt b sv || Nat.ble ov b) && ((p.h.drop ov).all fun x => match x with | some (l, _) => l.all (Seg.fine NE fun b => Nat.blt b sv || Nat.ble ov b) | none => true)
/-- What the pattern says of read-only blocks stands for blocks of which something is known. -/
def roLive : Nat → SHeap → SHeap → Bool
  | 0, _, _ => true
  | _ + 1, [], _ => true
  | _ + 1, some _ :: _, [] => false
  | n + 1, none :: r, _ :: s => roLive n r s
  | _ + 1, none :: _, [] => true
  | n + 1, some _ :: r, x :: s => x.isSome && roLive n r s

/-- The first of the head's patterns that fits. -/
def tryFit (G N base ov : Nat) (q : Path) (tm : Tm) (st : St) : Pats → Go
  | [] => .bad
  | (k, p) :: r => cond (decide (k.1 = q))
    (match mtAll N base ⟨roNone ov p.h, p.n, p.tm, p.as⟩ tm st with
    | (pp, l) => cond (fitAll N G pp l p.tms tm (roNone ov p.h) st && decide (pp.take base = List.range base)) (.go k l) (tryFit G N base ov q tm st r))
    (tryFit G N base ov q tm st r)
def goOf (P : Program) (G N base ov : Nat) (rs : List ResultVar) (pats : Pats) : Out → Go
  | .cut q tm st => tryFit G N base ov q tm st pats
  | .fin x tm st => doneOf P G base rs x tm st
theorem tryFit_ok {G N base ov : Nat} {q : Path} {tm : Tm} {st : St} : ∀ {ps : Pats}, tryFit G N base ov q tm st ps = .bad ∨ ∃ k p pp l, (k, p) ∈ ps ∧ k.1 = q ∧ fitAll N G pp l p.tms tm (roNone ov p.h) st = true ∧ pp.take base = List.range base ∧ tryFit G N base ov q tm st ps = .go k l
  | [] => .inl rfl
  | (k, p) :: r => by
    have ih := tryFit_ok (G := G) (N := N) (base := base) (ov := ov) (q := q) (tm := tm) (st := st) (ps := r)
    have later : tryFit G N base ov q tm st r = .bad ∨ ∃ k' p' pp l, (k', p') ∈ (k, p) :: r ∧ k'.1 = q ∧ fitAll N G pp l p'.tms tm (roNone ov p'.h) st = true ∧ pp.take base = List.range base ∧ tryFit G N base ov q tm st r = .go k' l := by
      rcases ih with h | ⟨k', p', pp, l, h1, h2⟩
      · exact .inl h
      · exact .inr ⟨k', p', pp, l, List.mem_cons_of_mem _ h1, h2⟩
    simp only [tryFit]
    by_cases hq : k.1 = q
    · rw [show decide (k.1 = q) = true from decide_eq_true hq, cond_true]
      cases hc : (fitAll N G (mtAll N base ⟨roNone ov p.h, p.n, p.tm, p.as⟩ tm st).1 (mtAll N base ⟨roNone ov p.h, p.n, p.tm, p.as⟩ tm st).2 p.tms tm (roNone ov p.h) st && decide ((mtAll N base ⟨roNone ov p.h, p.n, p.tm, p.as⟩ tm st).1.take base = List.range base)) with
      | true =>
        have hc' := hc
        simp only [Bool.and_eq_true, decide_eq_true_eq] at hc'
        rw [cond_true]
        exact .inr ⟨k, p, _, _, List.mem_cons_self, hq, hc'.1, hc'.2, rfl⟩
      | false => rw [cond_false]; exact later
    · rw [show decide (k.1 = q) = false from decide_eq_false hq, cond_false]
      exact later

theorem done_ok {P : Program} {G ov ro : Nat} {e : Env} (ok : EnvOk e) {fn : Func} {x : XE} {tm : Tm} {st : St} {v : SVal} {st' : St} {ρ0 ρ : Rho} {W0 W : World} {a : Act} (hfl : e.fx.length ≤ ρ0.length) (hd : doneOf P G ρ0.length fn.results.toList x tm st = .done v st')
    (hp : Post e ov ro ρ0 W0 ρ st.h W) (hR : Rl e G ov ρ tm st a W) {R : Ending → World → Prop} (hRR : ∀ ρ' V, Post e ov ro ρ0 W0 ρ' st'.h W → v.D e ρ' V → R (.returned V) W) : bodyPost P fn R x.to a W := by
  have key : ∀ (q : WT (SVal × St)) (st1 : St), st'.h = st1.h → (q = match sresults P G tm st.as st.h fn.results.toList with
        | some [x] => .leaf (cutOut ρ0.length (.v x, st))
        | some l => .leaf (cutOut ρ0.length (.tup l, st))
        | none => .stop) → q = .leaf (v, st1) →
      a.defers = [] ∧ ∃ V, (results fn a.tmps).run P W = .ok V W ∧ R (.returned V) W := by
    intro q st1 hh hq hz
    subst hz
    refine ⟨hR.df, ?_⟩
    rw [hh] at hRR
    split at hq
    · rename_i y hy
      obtain ⟨ws, hws, hrun⟩ := results_ok ok hR.gl hR.as hR.hr hR.tm hy
      obtain ⟨V, _, rfl, hV, rfl⟩ := hws
      have hq := WT.leaf.inj hq
      obtain ⟨ρ'', hp2, hV2, has2⟩ := cutOut_ok (h0 := List.replicate ρ0.length none) (v := .v y) (by simp) hp hV hR.as hfl
      rw [List.length_replicate, ← hq] at hp2 hV2 has2
      exact ⟨V, by simpa using hrun, hRR ρ'' V hp2 hV2⟩
    · rename_i l hne hl
      obtain ⟨ws, hws, hrun⟩ := results_ok ok hR.gl hR.as hR.hr hR.tm hl
      have hl1 : ws.toArray.size ≠ 1 := by
        intro hh
        have : ws.length = 1 := by simpa using hh
        obtain ⟨w0, rfl⟩ := List.length_eq_one_iff.1 this
        cases l with
        | nil => cases hws
        | cons y r =>
          obtain ⟨v0, vs0, he, _, hrest⟩ := hws
          simp only [List.cons.injEq] at he
          obtain ⟨rfl, rfl⟩ := he
          cases r with
          | nil => exact hne y rfl
          | cons z r => obtain ⟨_, _, he, _⟩ := hrest; cases he
      rw [dif_neg hl1] at hrun
      have hq := WT.leaf.inj hq
      obtain ⟨ρ'', hp2, hV2, has2⟩ := cutOut_ok (h0 := List.replicate ρ0.length none) (v := .tup l) (V := .tuple ws.toArray) (by simp) hp ⟨ws, rfl, hws⟩ hR.as hfl
      rw [List.length_replicate, ← hq] at hp2 hV2 has2
      exact ⟨_, hrun, hRR ρ'' _ hp2 hV2⟩
    · cases hq
  unfold doneOf at hd
  cases x with
  | exit id => simp [retF, withP_eq, withSt_eq] at hd
  | normal =>
    simp only [retF, withP_eq, withSt_eq] at hd
    split at hd
    · rename_i q hq
      obtain ⟨v1, s1⟩ := q
      cases hd
      exact key _ s1 rfl rfl hq
    · cases hd
  | ret =>
    simp only [retF, withP_eq, withSt_eq] at hd
    split at hd
    · rename_i q hq
      obtain ⟨v1, s1⟩ := q
      cases hd
      exact key _ s1 rfl rfl hq
    · cases hd

/-! ### A function whose loops have invariants -/
def firstTm (fn : Func) (args : List SVal) : Tm := ⟨args.length + (fn.ntmps - args.length), tmArgs 0 args, false⟩
/-- Some slots and the blocks where a walk stops (to look at). -/
def Out.brief (l : List Nat) : Out → Option Path × List SVal × SHeap
  | .cut q tm st => (some q, l.map tm.get, st.h)
  | .fin _ tm st => (none, l.map tm.get, st.h)
/-- What stands at heads and ends (to look at). -/
def rawT (P : Program) (G : Nat) (plan : Plan) (tab : Tab) (n f ro : Nat) (fn : Func) (body : Code) (cuts : List Path) (args : List SVal) (st : St) : WT Out :=
  kCode P G plan tab n (plan.at f) ro cuts n [] body [] (firstTm fn args) st
/-- From the function's front to heads and ends. -/
def startT (P : Program) (G : Nat) (plan : Plan) (tab : Tab) (n N f ov : Nat) (fn : Func) (body : Code) (pats : Pats) (args : List SVal) (st : St) (ro : Nat := ov) : WT Go :=
  (kCode P G plan tab n (plan.at f) ro (cutsOf pats) n [] body [] (firstTm fn args) st).map (goOf P G N st.h.length ov fn.results.toList pats)
/-- From a head on. -/
def headT (P : Program) (G : Nat) (plan : Plan) (tab : Tab) (n N f ov base : Nat) (fn : Func) (body : Code) (pats : Pats) (q : Key) (ro : Nat := ov) : WT Go := match patAt pats q, placeOf body q.1 with
  | some p, (.loop b, k) => (kCode P G plan tab n (plan.at f) ro (cutsOf pats) n (q.1 ++ [false]) b (.loop q.1 b :: k) p.tms p.st).map (goOf P G N base ov fn.results.toList pats)
  | _, _ => .stop

/-- What is known of read-only blocks; none of them is one that may be written. -/
def RoOk (e : Env) (ov : Nat) (ρ0 ρb : Rho) (W0 : World) (h : SHeap) : Prop :=
  ∀ i l t, i < ov → h[i]? = some (some (l, t)) → ∃ b o r vs, ρb[i]? = some (b, o, r) ∧ At False W0 b o r vs ∧ SegsD e ρb l vs ∧ ∀ x ∈ ρ0.drop ov, x.1 ≠ b
/-- The first entries of the map may be others. -/
structure Base (sv ov : Nat) (ρ0 ρb : Rho) : Prop where
  len : ρb.length = ρ0.length
  stay : ρb.take sv = ρ0.take sv
  rest : ρb.drop ov = ρ0.drop ov
theorem Base.refl (sv ov : Nat) (ρ : Rho) : Base sv ov ρ ρ := ⟨rfl, rfl, rfl⟩

structure Inv where
  I : Key → Env → Prop
  μ : Key → Env → Nat
/-- What is owed at each end of a walk. -/
def Owed (N NE sv ov : Nat) (ρ0 : Rho) (W0 : World) (pats : Pats) (inv : Inv) (D : Env → SVal → St → Prop) (e : Env) (m : Option Nat) : Go → Prop
  | .go q l => EnvOk (Env.upd e e l) → Agree N e (Env.upd e e l) → ∃ e' ρb q' p', EnvOk e' ∧ Agree NE (Env.upd e e l) e' ∧ Base sv ov ρ0 ρb ∧ q'.1 = q.1 ∧ patAt pats q' = some p' ∧ (∀ p, patAt pats q = some p → p'.tm = p.tm ∧ p'.n = p.n ∧ roNone ov p'.h = roNone ov p.h) ∧ AsmOk e' p'.as ∧ RoOk e' ov ρ0 ρb W0 p'.h ∧ inv.I q' e' ∧ (∀ m', m = some m' → inv.μ q' e' < m')
  | .done v st => D e v st
  | .bad => False

theorem cfgR {P : Program} {G ov : Nat} {plan : Plan} {tab : Tab} {n N NE sv f ro base : Nat} {fn : Func} {body : Code} {pats : Pats} {args : List SVal} {vs : List Value} {st : St} {e0 : Env} {ρ0 : Rho} {W0 : World} {R : Ending → World → Prop}
    (inv : Inv) (D : Env → SVal → St → Prop)
    (hmix : P.follows .mixedOrders = true) (hplan : planB P P.funcs.toList plan.sch = true) (hltn : plan.lt f = fun _ => none) (hlt : ∀ e, EnvOk e → Agree N e0 e → LtOk P G ov e plan) (htab : ∀ e, EnvOk e → Agree N e0 e → TabOk P G ov tab e)
    (hbs : st.h.length = base) (hf : P.funcs[f]? = some fn) (hb : fn.body = some body) (ok0 : EnvOk e0) (hargs : SValsD e0 ρ0 args vs) (has : AsmOk e0 st.as) (hr : HRel e0 ov ρ0 st.h W0) (hg : Glob G ρ0) (hov : ov ≤ ro) (hov2 : ov ≤ ρ0.length)
    (hN : N ≤ NE) (hGs : G ≤ sv) (hsv : sv ≤ ov) (hfine : ∀ k p, (k, p) ∈ pats → patFine NE sv ov p = true)
    (hstart : (startT P G plan tab n N f ov fn body pats args st ro).holds e0 (Owed N NE sv ov ρ0 W0 pats inv D e0 none))
    (hheads : ∀ q, q ∈ pats.map (·.1) → ∀ e, EnvOk e → Agree N e0 e → (∀ p, patAt pats q = some p → AsmOk e p.as) → inv.I q e → (headT P G plan tab n N f ov base fn body pats q ro).holds e (Owed N NE sv ov ρ0 W0 pats inv D e (some (inv.μ q e))))
    (hnd : ∀ k p, (k, p) ∈ pats → patAt pats k = some p)
    (hdone : ∀ e v st', EnvOk e → Agree N e0 e → D e v st' → ∀ ρb, Base sv ov ρ0 ρb → ∀ ρ' V W', Post e ov ro ρb W0 ρ' st'.h W' → v.D e ρ' V → R (.returned V) W') (hfx : e0.fx.length ≤ sv) : Calls P f vs.toArray W0 R := by
  subst hbs
  refine calls_of_wp hf hb ?_
  have hlen := hargs.length
  have hbase : st.h.length = ρ0.length := hr.len
  have good : ∀ e, GoodC P G ov e (plan.at f) body := fun e => ⟨planB_get hplan (by simpa using hf) hb, LtAll.none (fun id => by show plan.lt f id = none; rw [hltn]) _⟩
  have mem_of : ∀ {ps : Pats} {q : Key} {p : Pat}, patAt ps q = some p → (q, p) ∈ ps := by
    intro ps
    induction ps with
    | nil => intro q p h; cases h
    | cons x r ih =>
      intro q p h
      obtain ⟨y, z⟩ := x
      simp only [patAt] at h
      by_cases hq : y = q
      · subst hq
        rw [show decide (y = y) = true from decide_eq_true rfl, cond_true] at h
        cases h
        exact List.mem_cons_self
      · rw [show decide (y = q) = false from decide_eq_false hq] at h
        exact List.mem_cons_of_mem _ (ih h)
  -- the ends of a walk
  have ends : ∀ (m : Option Nat) (ihm : ∀ q e' ρb ρ' a' W', (∀ m', m = some m' → inv.μ q e' < m') → EnvOk e' → Agree N e0 e' → inv.I q e' → ∀ p, patAt pats q = some p → AsmOk e' p.as → Base sv ov ρ0 ρb → Since ro ρb W0 ρ' W' → Rl e' G ov ρ' p.tms p.st a' W' → OutOk P body (bodyPost P fn R) (.cut q.1 p.tms p.st) a' W')
      (e : Env) (ok : EnvOk e) (g : Agree N e0 e) (ρb ρ : Rho) (W : World), Base sv ov ρ0 ρb → Since ro ρb W0 ρ W → OutsOk P G ov ro e body (bodyPost P fn R) (fun o => Owed N NE sv ov ρ0 W0 pats inv D e m (goOf P G N st.h.length ov fn.results.toList pats o)) ρ W := by
    intro m ihm e ok g ρb ρ W hbb hs o hz ρ' a' W' hp hR'
    have hs' := hs.step hp
    have hbl : st.h.length = ρb.length := hbase.trans hbb.len.symm
    cases o with
    | fin x tm' st' =>
      simp only [goOf] at hz
      cases hd : doneOf P G st.h.length fn.results.toList x tm' st' with
      | go q l =>
        exfalso
        unfold doneOf at hd
        split at hd <;> cases hd
      | bad => rw [hd] at hz; exact hz.elim
      | done v st1 =>
        rw [hd] at hz
        rw [hbl] at hd
        exact done_ok ok (by rw [g.fx, hbb.len]; exact hr.old.len) hd ⟨hs'.pre, hs'.new, hR'.hr, hs'.fr⟩ hR' fun ρ'' V hp2 hV => hdone e v st1 ok g hz ρb hbb ρ'' V W' hp2 hV
    | cut q tm' st' =>
      simp only [goOf] at hz
      rcases tryFit_ok (G := G) (N := N) (base := st.h.length) (ov := ov) (q := q) (tm := tm') (st := st') (ps := pats) with hbad | ⟨k, p, pp, l, hmem, hkq, hfit, htake, hgo⟩
      · rw [hbad] at hz; exact hz.elim
      · rw [hgo] at hz
        simp only [Owed] at hz
        have hpk : patAt pats k = some p := hnd k p hmem
        subst hkq
        have fit := fitAll_ok hfit
        obtain ⟨e', ρb', k', p', ok', hag, hbb', hkk, hpk', hcore, has', hro', hz2, hz3⟩ := hz (Env.upd_ok ok ok hR'.as fit.oks) (Env.upd_agree fit.lets)
        obtain ⟨hc1, hc2, hc3⟩ := hcore p hpk
        have hov3 : pp.take ov = List.range ov := by
          have := congrArg (List.take ov) htake
          rw [List.take_take, Nat.min_eq_left (by omega)] at this
          rw [this, List.take_range, Nat.min_eq_left (by omega)]
        have hRl := fit.rl (Agree.refl N e) hR' hov3 (AsmOk.nil _)
        have htms : p.tms = p'.tms := by simp only [Pat.tms, hc1, hc2]
        rw [htms, ← hc3] at hRl
        have hs2 : Since ro ρb W0 (pickRho ρ' pp) W' := hs'.pick (by rw [← hbl]; exact htake) fit.inj (by
          have h1 := fit.lt
          have h2 := hR'.hr.len
          simp only [Out.st, Out.tm] at h2
          rw [← h2]; exact h1)
        have hagu : Agree N e (Env.upd e e l) := Env.upd_agree fit.lets
        have hmem' := mem_of hpk'
        have hfn := hfine _ _ hmem'
        simp only [patFine, Bool.and_eq_true] at hfn
        obtain ⟨hf1, hf2⟩ := hfn
        generalize pickRho ρ' pp = ρ1 at hRl hs2
        generalize Env.upd e e l = E1 at hRl hag hagu
        obtain ⟨ρx, rfl⟩ := hs2.pre
        have hlb : ρb'.length = ρb.length := hbb'.len.trans hbb.len.symm
        have hgetlow : ∀ b, (Nat.blt b sv || Nat.ble ov b) = true → (ρb' ++ ρx)[b]? = (ρb ++ ρx)[b]? := by
          intro b hb
          simp only [Bool.or_eq_true] at hb
          rcases Nat.lt_or_ge b ρb.length with hlt | hge
          · rw [List.getElem?_append_left (by omega), List.getElem?_append_left hlt]
            rcases hb with hb | hb
            · have hb := Nat.le_of_ble_eq_true hb
              have h1 := congrArg (fun l => l[b]?) (hbb'.stay.trans hbb.stay.symm)
              simpa [List.getElem?_take_of_lt (show b < sv from hb)] using h1
            · have hb := Nat.le_of_ble_eq_true hb
              have h1 := congrArg (fun l => l[b - ov]?) (hbb'.rest.trans hbb.rest.symm)
              simp only [List.getElem?_drop] at h1
              rwa [show ov + (b - ov) = b by omega] at h1
          · rw [List.getElem?_append_right (by omega), List.getElem?_append_right hge, hlb]
        have hdrop : ρb'.drop ro = ρb.drop ro := by
          have h1 := congrArg (List.drop (ro - ov)) (hbb'.rest.trans hbb.rest.symm)
          simp only [List.drop_drop] at h1
          rwa [show ov + (ro - ov) = ro by omega] at h1
        have hs3 : Since ro ρb' W0 (ρb' ++ ρx) W' := by
          refine ⟨⟨ρx, rfl⟩, fun x hx => ?_, ⟨hs2.fr.os, hs2.fr.tape, hs2.fr.output, hs2.fr.size, fun k hk hn => hs2.fr.same k hk (by rw [← hdrop]; exact hn)⟩⟩
          rw [List.drop_left] at hx
          rw [hdrop]
          exact hs2.new x (by rw [List.drop_left]; exact hx)
        have hrl : Rl e' G ov (ρb' ++ ρx) p'.tms p'.st a' W' := by
          have hlen1 := hRl.hr.len
          simp only [roNone_len] at hlen1
          refine ⟨⟨hRl.tm.1, fun t => ?_⟩, hRl.df, has', ⟨?_, ?_, ?_, ⟨?_, ?_, ?_, ?_, ?_⟩⟩, fun q hq => ?_⟩
          · have h1 := hRl.tm.2 t
            show SVal.D _ _ (tmFind true p'.tm t) _
            rcases tmFind_mem (l := p'.tm) (t := t) with hm | hm
            · rw [hm]; trivial
            · exact SVal.conv hag hgetlow (List.all_eq_true.1 hf1 _ hm) h1
          · show p'.h.length = _
            rw [hlen1, List.length_append, List.length_append, hlb]
          · intro i j b c hi hj hbi hcj hij hovv
            have ro_ne : ∀ i j (b c : Nat × Nat × Nat), i < ov → ov ≤ j → live p'.h i → live p'.h j → (ρb' ++ ρx)[i]? = some b → (ρb' ++ ρx)[j]? = some c → b.1 ≠ c.1 := by
              intro i j b c hi hj hli hlj hb hc
              obtain ⟨⟨l1, t1⟩, h1⟩ := hli
              obtain ⟨b1, o1, r1, vs1, g1, g2, _, g4⟩ := hro' i l1 t1 hi h1
              have hil : i < ρb'.length := (List.getElem?_eq_some_iff.1 g1).1
              rw [List.getElem?_append_left hil, g1] at hb
              cases hb
              have hlt1 := g2.lt
              simp only
              rcases Nat.lt_or_ge j ρb'.length with hjl | hjl
              · rw [List.getElem?_append_left hjl] at hc
                have h2 := congrArg (fun l => l[j - ov]?) hbb'.rest
                simp only [List.getElem?_drop] at h2
                rw [show ov + (j - ov) = j by omega, hc] at h2
                have h3 : c ∈ ρ0.drop ov := List.mem_of_getElem? (i := j - ov) (by rw [List.getElem?_drop, show ov + (j - ov) = j by omega]; exact h2.symm)
                exact fun hh => g4 c h3 hh.symm
              · rw [List.getElem?_append_right hjl] at hc
                have h2 := hs3.new c (by rw [List.drop_left]; exact List.mem_of_getElem? hc)
                rcases h2 with h2 | ⟨o2, h2⟩
                · omega
                · have h3 : (c.1, o2) ∈ ρ0.drop ov := by
                    rw [← hbb'.rest]; exact mem_lower hov h2
                  exact fun hh => g4 _ h3 hh.symm
            have liv : ∀ {i}, ov ≤ i → live p'.h i → live (roNone ov p'.h) i := by
              rintro i hi ⟨s, hs⟩
              exact ⟨s, by rw [roNone_get, if_neg (by omega)]; exact hs⟩
            rcases Nat.lt_or_ge i ov with hio | hio
            · rcases Nat.lt_or_ge j ov with hjo | hjo
              · omega
              · exact ro_ne i j b c hio hjo hi hj hbi hcj
            · rcases Nat.lt_or_ge j ov with hjo | hjo
              · exact fun hh => ro_ne j i c b hjo hio hj hi hcj hbi hh.symm
              · rw [hgetlow i (by simp [hio])] at hbi
                rw [hgetlow j (by simp [hjo])] at hcj
                exact hRl.hr.apart i j b c (liv hio hi) (liv hjo hj) hbi hcj hij hovv
          · intro i l1 t1 hi
            have hi : p'.h[i]? = some (some (l1, t1)) := hi
            rcases Nat.lt_or_ge i ov with hio | hio
            · obtain ⟨b1, o1, r1, vs1, g1, g2, g3, g4⟩ := hro' i l1 t1 hio hi
              have hil : i < ρb'.length := (List.getElem?_eq_some_iff.1 g1).1
              refine ⟨b1, o1, r1, vs1, by rw [List.getElem?_append_left hil]; exact g1, ?_, SegsD.mono ⟨ρx, rfl⟩ g3⟩
              refine (g2.same (hs3.fr.same b1 g2.lt ?_)).weak (fun q => by omega)
              rintro ⟨o2, h2⟩
              have h3 : (b1, o2) ∈ ρ0.drop ov := by rw [← hbb'.rest]; exact mem_lower hov h2
              exact g4 _ h3 rfl
            · obtain ⟨b1, o1, r1, vs1, g1, g2, g3⟩ := hRl.hr.blk i l1 t1 (by rw [roNone_get, if_neg (by omega)]; exact hi)
              refine ⟨b1, o1, r1, vs1, by rw [hgetlow i (by simp [hio])]; exact g1, g2, Segs.conv hag hgetlow ?_ g3⟩
              have h1 : some (l1, t1) ∈ p'.h.drop ov := List.mem_of_getElem? (i := i - ov) (by rw [List.getElem?_drop, show ov + (i - ov) = i by omega]; exact hi)
              exact List.all_eq_true.1 hf2 _ h1
          · intro i x hx
            rw [hag.fx] at hx
            rw [hgetlow i (by
              have h1 := (List.getElem?_eq_some_iff.1 hx).1
              have h2 : E1.fx = e0.fx := by rw [hagu.fx, g.fx]
              rw [h2] at h1
              have : Nat.blt i sv = true := Nat.ble_eq_true_of_le (by omega)
              simp [this])]
            exact hRl.hr.old.fx i x hx
          · rw [hag.fx]; exact hRl.hr.old.fl
          · rw [hag.base]; exact hRl.hr.old.size
          · intro k hk
            rw [hag.base] at hk
            rw [hag.h0]; exact hRl.hr.old.same k hk
          · intro b hb
            rw [hag.base]
            refine hRl.hr.old.own b ?_
            rw [List.drop_append] at hb ⊢
            have h1 : ρb'.drop ov = ρb.drop ov := hbb'.rest.trans hbb.rest.symm
            rw [h1, hlb] at hb
            exact hb
          · rw [hgetlow q (by have : Nat.blt q sv = true := Nat.ble_eq_true_of_le (by omega); simp [this])]
            exact hRl.gl q hq
        have hago : Agree N E1 e' := ⟨fun k j hj => hag.i k j (by omega), fun j hj => hag.b j (by omega), fun k j hj => hag.a k j (by omega), hag.fi, hag.fb, hag.fa, hag.v, hag.base, hag.h0, hag.fx⟩
        rw [← hkk]
        have := ihm k' e' ρb' _ a' W' hz3 ok' ((g.trans hagu).trans hago) hz2 p' hpk' has' hbb' hs3 hrl
        exact this
  -- heads
  have heads : ∀ m q e ρb ρ a W, inv.μ q e = m → EnvOk e → Agree N e0 e → inv.I q e → ∀ p, patAt pats q = some p → AsmOk e p.as → Base sv ov ρ0 ρb → Since ro ρb W0 ρ W → Rl e G ov ρ p.tms p.st a W → OutOk P body (bodyPost P fn R) (.cut q.1 p.tms p.st) a W := by
    intro m
    induction m using Nat.strongRecOn with
    | _ m ih =>
      intro q e ρb ρ a W hm ok g hI p hpq hasp hbb hs hR
      have hq : q ∈ pats.map (·.1) := List.mem_map.2 ⟨_, mem_of hpq, rfl⟩
      have hh := hheads q hq e ok g (fun p' hp' => by rw [hpq] at hp'; cases hp'; exact hasp) hI
      unfold headT at hh
      rw [hpq] at hh
      split at hh
      · rename_i p2 b k he1 heq
        cases he1
        refine ⟨b, k, heq, head_step ?_⟩
        have hpl := place_ok (good e) q.1
        rw [heq] at hpl
        have h1 := place_step heq (by simp) false
        have hw := (k_sound (Q := bodyPost P fn R) (pl := plan.at f) (cuts := cutsOf pats) (body := body) ok (sound ok hmix hplan (hlt e ok g) (htab e ok g) n).1 hov n).1 (q.1 ++ [false]) b (.loop q.1 b :: k) _ _ _
          (by simpa [goTo] using h1) hpl.1 ⟨heq, hpl.1, hpl.2⟩ (WT.holds_of_map hh) ρ a W hR (ends (some (inv.μ q e)) (fun q' e' ρb' ρ' a' W' hlt' ok' g' hI' p' hp' has' hb' hs' hR' => ih _ (by rw [← hm]; exact hlt' _ rfl) q' e' ρb' ρ' a' W' rfl ok' g' hI' p' hp' has' hb' hs' hR') e ok g ρb ρ W hbb hs)
        exact hw
      · exact hh.elim
  have ht : TmD e0 ρ0 (firstTm fn args) (vs.toArray ++ Array.replicate (fn.ntmps - vs.toArray.size) undef).toList := by
    rw [Array.toList_append, Array.toList_replicate, List.size_toArray]
    have := TmD.init hargs (fn.ntmps - vs.length)
    unfold firstTm
    rwa [hlen] at this ⊢
  have hw := (k_sound (Q := bodyPost P fn R) (pl := plan.at f) (cuts := cutsOf pats) (body := body) ok0 (sound ok0 hmix hplan (hlt e0 ok0 (Agree.refl _ _)) (htab e0 ok0 (Agree.refl _ _)) n).1 hov n).1 [] body [] _ _ _ rfl (good e0) trivial (WT.holds_of_map hstart) ρ0 { tmps := vs.toArray ++ Array.replicate (fn.ntmps - vs.toArray.size) undef, defers := [] } W0
    ⟨ht, rfl, has, hr, hg⟩ (ends none (fun q' e' ρb' ρ' a' W' _ ok' g' hI' p' hp' has' hb' hs' hR' => heads _ q' e' ρb' ρ' a' W' rfl ok' g' hI' p' hp' has' hb' hs' hR') e0 ok0 (Agree.refl _ _) ρ0 ρ0 W0 (Base.refl _ _ _) (Since.refl _ _ _))
  exact hw

/-! ### Where what is only read stays as it was told at first -/
def roPlain (N ov : Nat) : SHeap → SHeap → Bool
  | _, [] => true
  | [], none :: r => roPlain N ov [] r
  | [], some _ :: _ => false
  | _ :: s, none :: r => roPlain N ov s r
  | none :: _, some _ :: _ => false
  | some (l, _) :: s, some (l', _) :: r => allSame Seg.same l l' && l'.all (Seg.fine N fun _ => true) && roPlain N ov s r
theorem roPlain_get {N ov : Nat} : ∀ {h h' : SHeap} {i : Nat} {l : List Seg} {t : TypeId}, roPlain N ov h h' = true → h'[i]? = some (some (l, t)) → l.all (Seg.fine N fun _ => true) = true ∧ ∃ t', h[i]? = some (some (l, t'))
  | _, [], i, l, t, _, hi => by simp at hi
  | [], none :: r, i, l, t, hp, hi => by
    cases i with
    | zero => simp at hi
    | succ i =>
      have := roPlain_get (i := i) (h := []) (h' := r) (by simpa [roPlain] using hp) (by simpa using hi)
      obtain ⟨_, t', h⟩ := this
      simp at h
  | [], some _ :: _, i, l, t, hp, hi => by simp [roPlain] at hp
  | x :: s, none :: r, i, l, t, hp, hi => by
    cases i with
    | zero => simp at hi
    | succ i =>
      have := roPlain_get (i := i) (h := s) (h' := r) (by cases x <;> simpa [roPlain] using hp) (by simpa using hi)
      exact this
  | none :: _, some _ :: _, i, l, t, hp, hi => by simp [roPlain] at hp
  | some (l0, t0) :: s, some (l1, t1) :: r, i, l, t, hp, hi => by
    simp only [roPlain, Bool.and_eq_true] at hp
    cases i with
    | zero =>
      simp only [List.getElem?_cons_zero, Option.some.injEq, Prod.mk.injEq] at hi
      obtain ⟨rfl, rfl⟩ := hi
      have h1 := allSame_eq (fun a b h => Seg.same_eq h) hp.1.1
      subst h1
      exact ⟨hp.1.2, t0, rfl⟩
    | succ i => exact roPlain_get (i := i) hp.2 (by simpa using hi)
def plainB (N ov : Nat) (h : SHeap) (pats : Pats) : Bool := (h.drop ov).all (·.isSome) && pats.all fun q => roPlain N ov (h.take ov) (q.2.h.take ov) && patFine 1000000000 ov ov q.2
def Owed1 (pats : Pats) (inv : Inv) (D : Env → SVal → St → Prop) (e : Env) (m : Option Nat) : Go → Prop
  | .go q l => (∃ p, patAt pats q = some p) ∧ (∀ p, patAt pats q = some p → AsmOk (Env.upd e e l) p.as) ∧ inv.I q (Env.upd e e l) ∧ (∀ m', m = some m' → inv.μ q (Env.upd e e l) < m')
  | .done v st => D e v st
  | .bad => False
theorem cfg {P : Program} {G ov : Nat} {plan : Plan} {tab : Tab} {n N f ro base : Nat} {fn : Func} {body : Code} {pats : Pats} {args : List SVal} {vs : List Value} {st : St} {e0 : Env} {ρ0 : Rho} {W0 : World} {R : Ending → World → Prop}
    (inv : Inv) (D : Env → SVal → St → Prop)
    (hmix : P.follows .mixedOrders = true) (hplan : planB P P.funcs.toList plan.sch = true) (hltn : plan.lt f = fun _ => none) (hlt : ∀ e, EnvOk e → Agree N e0 e → LtOk P G ov e plan) (htab : ∀ e, EnvOk e → Agree N e0 e → TabOk P G ov tab e)
    (hbs : st.h.length = base) (hf : P.funcs[f]? = some fn) (hb : fn.body = some body) (ok0 : EnvOk e0) (hargs : SValsD e0 ρ0 args vs) (has : AsmOk e0 st.as) (hr : HRel e0 ov ρ0 st.h W0) (hg : Glob G ρ0) (hov : ov ≤ ro) (hov2 : ov ≤ ρ0.length)
    (hGs : G ≤ ov) (hN : N ≤ 1000000000) (hplain : plainB N ov st.h pats = true)
    (hstart : (startT P G plan tab n N f ov fn body pats args st ro).holds e0 (Owed1 pats inv D e0 none))
    (hheads : ∀ q, q ∈ pats.map (·.1) → ∀ e, EnvOk e → Agree N e0 e → (∀ p, patAt pats q = some p → AsmOk e p.as) → inv.I q e → (headT P G plan tab n N f ov base fn body pats q ro).holds e (Owed1 pats inv D e (some (inv.μ q e))))
    (hnd : ∀ k p, (k, p) ∈ pats → patAt pats k = some p)
    (hdone : ∀ e v st', EnvOk e → Agree N e0 e → D e v st' → ∀ ρ' V W', Post e ov ro ρ0 W0 ρ' st'.h W' → v.D e ρ' V → R (.returned V) W') : Calls P f vs.toArray W0 R := by
  simp only [plainB, Bool.and_eq_true, List.all_eq_true] at hplain
  obtain ⟨hlive, hpl⟩ := hplain
  have mem_of : ∀ {ps : Pats} {q : Key} {p : Pat}, patAt ps q = some p → (q, p) ∈ ps := by
    intro ps
    induction ps with
    | nil => intro q p h; cases h
    | cons x r ih =>
      intro q p h
      obtain ⟨y, z⟩ := x
      simp only [patAt] at h
      by_cases hq : y = q
      · subst hq
        rw [show decide (y = y) = true from decide_eq_true rfl, cond_true] at h
        cases h
        exact List.mem_cons_self
      · rw [show decide (y = q) = false from decide_eq_false hq] at h
        exact List.mem_cons_of_mem _ (ih h)
  have up : ∀ (e : Env) (g : Agree N e0 e) (m : Option Nat) (o : Go), Owed1 pats inv D e m o → Owed N 1000000000 ov ov ρ0 W0 pats inv D e m o := by
    intro e g m o ho
    cases o with
    | bad => exact ho
    | done v st => exact ho
    | go q l =>
      obtain ⟨h0, h1, h2, h3⟩ := ho
      intro ok' hag
      obtain ⟨p, hp⟩ := h0
      refine ⟨Env.upd e e l, ρ0, q, p, ok', Agree.refl _ _, Base.refl _ _ _, rfl, hp, fun p2 hp2 => by rw [hp] at hp2; cases hp2; exact ⟨rfl, rfl, rfl⟩, h1 p hp, ?_, h2, h3⟩
      intro i l1 t1 hi hl
      have hp2 := (hpl _ (mem_of hp)).1
      have hl' : (p.h.take ov)[i]? = some (some (l1, t1)) := by rw [List.getElem?_take_of_lt hi]; exact hl
      obtain ⟨hfine, t', ht'⟩ := roPlain_get hp2 hl'
      rw [List.getElem?_take_of_lt hi] at ht'
      obtain ⟨b, o, r, vs, g1, g2, g3⟩ := hr.blk i l1 t' ht'
      refine ⟨b, o, r, vs, g1, g2.weak (fun q => q.elim), Segs.conv (g.trans hag) (fun b _ => rfl) hfine g3, fun x hx => ?_⟩
      obtain ⟨j, hj⟩ := List.mem_iff_getElem?.1 hx
      rw [List.getElem?_drop] at hj
      have hjl : ov + j < st.h.length := by rw [hr.len]; exact (List.getElem?_eq_some_iff.1 hj).1
      have hlv : live st.h (ov + j) := by
        have := hlive _ (List.mem_of_getElem? (i := j) (by rw [List.getElem?_drop, List.getElem?_eq_getElem hjl]))
        obtain ⟨s, hs⟩ := Option.isSome_iff_exists.1 this
        exact ⟨s, by rw [List.getElem?_eq_getElem hjl, hs]⟩
      exact fun hh => hr.apart i (ov + j) _ _ ⟨_, ht'⟩ hlv g1 hj (by omega) (.inr (by omega)) hh.symm
  refine cfgR (NE := 1000000000) (sv := ov) inv D hmix hplan hltn hlt htab hbs hf hb ok0 hargs has hr hg hov hov2 hN hGs (Nat.le_refl _) (fun k p hm => (hpl _ hm).2) (WT.holds_mono (fun o ho => up e0 (Agree.refl _ _) none o ho) hstart)
    (fun q hq e ok g ha hI => WT.holds_mono (fun o ho => up e g _ o ho) (hheads q hq e ok g ha hI)) hnd (fun e v st' ok g hd ρb hbb ρ' V W' hp hV => ?_) hr.old.fl
  have : ρb = ρ0 := by
    have h1 := List.take_append_drop ov ρb
    rw [hbb.stay, hbb.rest, List.take_append_drop] at h1
    exact h1.symm
  subst this
  exact hdone e v st' ok g hd ρ' V W' hp hV
theorem patAt_one {k : Key} {p : Pat} : ∀ k' p', (k', p') ∈ [(k, p)] → patAt [(k, p)] k' = some p' := by
  intro k' p' h
  simp only [List.mem_singleton, Prod.mk.injEq] at h
  obtain ⟨rfl, rfl⟩ := h
  simp [patAt]
end
end Go.Proofs.YtaijkkkgpgldbaaDoor.Sy
