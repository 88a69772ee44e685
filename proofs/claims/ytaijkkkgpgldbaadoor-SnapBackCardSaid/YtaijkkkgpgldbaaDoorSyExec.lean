/- A small symbolic executor for loop-free Go code: whole bodies and calls. -/
import Derived.Test.YtaijkkkgpgldbaaDoorSyEff
import Derived.Test.YtaijkkkgpgldbaaDoorWLast
import Derived.LoopN
import Derived.Scope
namespace Go.Proofs.YtaijkkkgpgldbaaDoor.Sy
noncomputable section
set_option linter.unusedVariables false
set_option linter.unusedSimpArgs false
open Go Go.Proofs.YtaijkkkgpgldbaaDoorW.PrintLast

structure St where
  h : SHeap
  as : Asm

/-! Structures taken apart ahead of what works on them (the kernel would walk a chain of fields else). -/
def withSt {γ : Type} (st : St) (k : SHeap → Asm → γ) : γ := match st with
  | ⟨h, as⟩ => k h as
theorem withSt_eq {γ : Type} (st : St) (k : SHeap → Asm → γ) : withSt st k = k st.h st.as := rfl
def withTm {γ : Type} (tm : Tm) (k : Tm → γ) : γ := match tm with
  | ⟨n, l, d⟩ => k ⟨n, l, d⟩
theorem withTm_eq {γ : Type} (tm : Tm) (k : Tm → γ) : withTm tm k = k tm := rfl
def withP {α β γ : Type} (q : α × β) (k : α → β → γ) : γ := match q with
  | (a, b) => k a b
theorem withP_eq {α β γ : Type} (q : α × β) (k : α → β → γ) : withP q k = k q.1 q.2 := rfl
/-- The spine of a list, evaluated. -/
def withL {α γ : Type} (l : List α) : (List α → γ) → γ := List.rec (motive := fun _ => (List α → γ) → γ) (fun k => k []) (fun x _ ih k => ih fun r => k (x :: r)) l
theorem withL_eq {α γ : Type} : ∀ (l : List α) (k : List α → γ), withL l k = k l
  | [], _ => rfl
  | x :: r, k => withL_eq r fun r => k (x :: r)
def withN {γ : Type} (n : Nat) : (Nat → γ) → γ := Nat.rec (motive := fun _ => (Nat → γ) → γ) (fun k => k (nat_lit 0)) (fun m _ k => k (Nat.succ m)) n
theorem withN_eq {γ : Type} : ∀ (n : Nat) (k : Nat → γ), withN n k = k n
  | 0, _ => rfl
  | _ + 1, _ => rfl
def withCe {γ : Type} (x : Cell) (k : Cell → γ) : γ := match x with
  | .p (some ⟨b, o, i⟩) => withN b fun b => k (.p (some ⟨b, o, i⟩))
  | .sl (some ⟨b, o, i⟩) n c => withN b fun b => k (.sl (some ⟨b, o, i⟩) n c)
  | x => k x
theorem withCe_eq {γ : Type} (x : Cell) (k : Cell → γ) : withCe x k = k x := by
  unfold withCe
  split
  · exact withN_eq _ _
  · exact withN_eq _ _
  · rfl
def withV {γ : Type} (x : SVal) (k : SVal → γ) : γ := match x with
  | .v (.c x) => withCe x fun x => k (.v (.c x))
  | x => k x
theorem withV_eq {γ : Type} (x : SVal) (k : SVal → γ) : withV x k = k x := by
  unfold withV
  split
  · exact withCe_eq _ _
  · rfl

inductive XE where
  | normal
  | exit (id : Nat)
  | ret

def XE.to : XE → Exit
  | .normal => .normal
  | .exit id => .exit id
  | .ret => .ret

/-! ### Ways: trees in which two orders may stand side by side -/
inductive WT (α : Type) where
  | leaf (a : α)
  | node (b : BExp) (t f : WT α)
  | both (t f : WT α)
  | stop

def WT.holds {α : Type} (e : Env) (Q : α → Prop) : WT α → Prop
  | .leaf a => Q a
  | .node b t f => if b.den e = true then t.holds e Q else f.holds e Q
  | .both t f => t.holds e Q ∧ f.holds e Q
  | .stop => False
def WT.bind {α β : Type} : WT α → (α → WT β) → WT β
  | .leaf a, f => f a
  | .node b t u, f => .node b (t.bind f) (u.bind f)
  | .both t u, f => .both (t.bind f) (u.bind f)
  | .stop, _ => .stop
def Tree.bindW {α β : Type} : Tree α → (α → WT β) → WT β
  | .leaf a, f => f a
  | .node b t u, f => .node b (t.bindW f) (u.bindW f)
  | .stop, _ => .stop
theorem WT.holds_bind {α β : Type} {e : Env} {f : α → WT β} {Q : β → Prop} : ∀ {t : WT α}, (t.bind f).holds e Q → t.holds e (fun a => (f a).holds e Q)
  | .leaf _, h => h
  | .node b t u, h => by
    simp only [WT.bind, WT.holds] at h ⊢
    split at h
    · rename_i hb; rw [if_pos hb]; exact WT.holds_bind h
    · rename_i hb; rw [if_neg hb]; exact WT.holds_bind h
  | .both t u, h => ⟨WT.holds_bind h.1, WT.holds_bind h.2⟩
  | .stop, h => h
theorem Tree.holds_bindW {α β : Type} {e : Env} {f : α → WT β} {Q : β → Prop} : ∀ {t : Tree α}, (t.bindW f).holds e Q → ∃ a, t.pick e = some a ∧ (f a).holds e Q
  | .leaf a, h => ⟨a, rfl, h⟩
  | .node b t u, h => by
    simp only [Tree.bindW, WT.holds] at h
    simp only [Tree.pick]
    split at h
    · rename_i hb; rw [if_pos hb]; exact Tree.holds_bindW h
    · rename_i hb; rw [if_neg hb]; exact Tree.holds_bindW h
  | .stop, h => h.elim
theorem WT.holds_mono {α : Type} {e : Env} {Q R : α → Prop} (hQR : ∀ a, Q a → R a) : ∀ {t : WT α}, t.holds e Q → t.holds e R
  | .leaf _, h => hQR _ h
  | .node b t u, h => by
    simp only [WT.holds] at h ⊢
    split at h
    · rename_i hb; rw [if_pos hb]; exact WT.holds_mono hQR h
    · rename_i hb; rw [if_neg hb]; exact WT.holds_mono hQR h
  | .both t u, h => ⟨WT.holds_mono hQR h.1, WT.holds_mono hQR h.2⟩
  | .stop, h => h

/-- Every leaf meets p, and nothing stops. -/
def WT.all {α : Type} (p : α → Bool) : WT α → Bool
  | .leaf a => p a
  | .node _ t f => t.all p && f.all p
  | .both t f => t.all p && f.all p
  | .stop => false
theorem WT.all_holds {α : Type} {p : α → Bool} {e : Env} : ∀ {t : WT α}, t.all p = true → t.holds e (fun a => p a = true)
  | .leaf _, h => h
  | .node b t f, h => by
    simp only [WT.all, Bool.and_eq_true] at h
    simp only [WT.holds]
    split
    · exact WT.all_holds h.1
    · exact WT.all_holds h.2
  | .both t f, h => by
    simp only [WT.all, Bool.and_eq_true] at h
    exact ⟨WT.all_holds h.1, WT.all_holds h.2⟩
  | .stop, h => by cases h

def bothAll {α : Type} : List (WT α) → WT α
  | [] => .stop
  | [x] => x
  | x :: r => .both x (bothAll r)
theorem bothAll_mem {α : Type} {e : Env} {Q : α → Prop} : ∀ {l : List (WT α)}, (bothAll l).holds e Q → ∀ x ∈ l, x.holds e Q
  | [], h, _, _ => h.elim
  | [x], h, y, hy => by rcases List.mem_singleton.1 hy with rfl; exact h
  | x :: z :: r, h, y, hy => by
    rcases List.mem_cons.1 hy with rfl | hy
    · exact h.1
    · exact bothAll_mem h.2 y hy

/-! ### The same text -/
def Ad.same (a b : Ad) : Bool :=
  Nat.beq a.b b.b && Nat.beq a.off b.off && match a.ix, b.ix with
    | none, none => true
    | some (i, n), some (j, m) => i.same j && Nat.beq n m
    | _, _ => false
theorem Ad.same_eq {a b : Ad} (h : a.same b = true) : a = b := by
  obtain ⟨x, y, z⟩ := a
  obtain ⟨x', y', z'⟩ := b
  simp only [Ad.same, Bool.and_eq_true] at h
  obtain ⟨⟨h1, h2⟩, h3⟩ := h
  have h1 : x = x' := Nat.eq_of_beq_eq_true h1
  have h2 : y = y' := Nat.eq_of_beq_eq_true h2
  subst h1 h2
  split at h3
  · rfl
  · simp only [Bool.and_eq_true] at h3
    rw [IExp.same_eq _ _ h3.1, Nat.eq_of_beq_eq_true h3.2]
  · cases h3
def allSame {α : Type} (f : α → α → Bool) : List α → List α → Bool
  | [], [] => true
  | a :: r, b :: s => f a b && allSame f r s
  | _, _ => false
theorem allSame_eq {α : Type} {f : α → α → Bool} (hf : ∀ a b, f a b = true → a = b) : ∀ {l m : List α}, allSame f l m = true → l = m
  | [], [], _ => rfl
  | a :: r, b :: s, h => by
    simp only [allSame, Bool.and_eq_true] at h
    rw [hf _ _ h.1, allSame_eq hf h.2]
  | [], _ :: _, h => by cases h
  | _ :: _, [], h => by cases h
def oAdSame : Option Ad → Option Ad → Bool
  | none, none => true
  | some a, some b => a.same b
  | _, _ => false
theorem oAdSame_eq : ∀ {a b : Option Ad}, oAdSame a b = true → a = b
  | none, none, _ => rfl
  | some a, some b, h => by rw [Ad.same_eq h]
  | none, some _, h => by cases h
  | some _, none, h => by cases h
def oISame : Option IExp → Option IExp → Bool
  | none, none => true
  | some a, some b => a.same b
  | _, _ => false
theorem oISame_eq : ∀ {a b : Option IExp}, oISame a b = true → a = b
  | none, none, _ => rfl
  | some a, some b, h => by rw [IExp.same_eq _ _ h]
  | none, some _, h => by cases h
  | some _, none, h => by cases h
def Cell.same : Cell → Cell → Bool
  | .b x, .b y => x.same y
  | .i k x, .i k' y => decide (k = k') && x.same y
  | .s x, .s y => x.same y
  | .p x, .p y => oAdSame x y
  | .sl x l m, .sl y l' m' => oAdSame x y && l.same l' && oISame m m'
  | .fn f l, .fn g m => Nat.beq f g && allSame Ad.same l m
  | .nf, .nf => true
  | _, _ => false
theorem Cell.same_eq {x y : Cell} (h : x.same y = true) : x = y := by
  cases x <;> cases y <;> simp only [Cell.same, Bool.and_eq_true, decide_eq_true_eq] at h <;> first | contradiction | skip
  · rw [BExp.same_eq _ _ h]
  · rw [h.1, IExp.same_eq _ _ h.2]
  · rw [AExp.same_eq _ _ h]
  · rw [oAdSame_eq h]
  · rw [oAdSame_eq h.1.1, IExp.same_eq _ _ h.1.2, oISame_eq h.2]
  · rw [Nat.eq_of_beq_eq_true h.1, allSame_eq (fun _ _ => Ad.same_eq) h.2]
  · rfl
def Col.same : Col → Col → Bool
  | .b a, .b a' => a.same a'
  | .i k a, .i k' a' => decide (k = k') && a.same a'
  | _, _ => false
theorem Col.same_eq {x y : Col} (h : x.same y = true) : x = y := by
  cases x <;> cases y <;> simp only [Col.same, Bool.and_eq_true, decide_eq_true_eq] at h <;> first | contradiction | skip
  · rw [AExp.same_eq _ _ h]
  · rw [h.1, AExp.same_eq _ _ h.2]
def Seg.same : Seg → Seg → Bool
  | .c x, .c y => x.same y
  | .arr k n a, .arr k' n' a' => decide (k = k') && Nat.beq n n' && a.same a'
  | .row k a, .row k' a' => decide (k = k') && a.same a'
  | .el n w j l, .el n' w' j' l' => n.same n' && Nat.beq w w' && j.same j' && allSame Cell.same l l'
  | .tab n cl, .tab n' cl' => n.same n' && allSame Col.same cl cl'
  | _, _ => false
theorem Seg.same_eq {x y : Seg} (h : x.same y = true) : x = y := by
  cases x <;> cases y <;> simp only [Seg.same, Bool.and_eq_true, decide_eq_true_eq] at h <;> first | contradiction | skip
  · rw [Cell.same_eq h]
  · rw [h.1.1, Nat.eq_of_beq_eq_true h.1.2, AExp.same_eq _ _ h.2]
  · rw [h.1, AExp.same_eq _ _ h.2]
  · rw [IExp.same_eq _ _ h.1.1.1, Nat.eq_of_beq_eq_true h.1.1.2, IExp.same_eq _ _ h.1.2, allSame_eq (fun _ _ => Cell.same_eq) h.2]
  · rw [IExp.same_eq _ _ h.1, allSame_eq (fun _ _ => Col.same_eq) h.2]
def SV.same : SV → SV → Bool
  | .c x, .c y => x.same y
  | .agg l, .agg m => allSame Seg.same l m
  | _, _ => false
theorem SV.same_eq {x y : SV} (h : x.same y = true) : x = y := by
  cases x <;> cases y <;> simp only [SV.same] at h <;> first | contradiction | skip
  · rw [Cell.same_eq h]
  · rw [allSame_eq (fun _ _ => Seg.same_eq) h]
def SVal.same : SVal → SVal → Bool
  | .v x, .v y => x.same y
  | .tup l, .tup m => allSame SV.same l m
  | .any, .any => true
  | .val i, .val j => Nat.beq i j
  | _, _ => false
theorem SVal.same_eq {x y : SVal} (h : x.same y = true) : x = y := by
  cases x <;> cases y <;> simp only [SVal.same] at h <;> first | contradiction | skip
  · rw [SV.same_eq h]
  · rw [allSame_eq (fun _ _ => SV.same_eq) h]
  · rfl
  · rw [Nat.eq_of_beq_eq_true h]
def blkSame : Blk → Blk → Bool
  | none, none => true
  | some (l, t), some (m, u) => decide (t = u) && allSame Seg.same l m
  | _, _ => false
theorem blkSame_eq : ∀ {a b : Blk}, blkSame a b = true → a = b
  | none, none, _ => rfl
  | some (l, t), some (m, u), h => by
    simp only [blkSame, Bool.and_eq_true, decide_eq_true_eq] at h
    rw [h.1, allSame_eq (fun _ _ => Seg.same_eq) h.2]
  | none, some _, h => by cases h
  | some _, none, h => by cases h
def asm1Same (p q : BExp × Bool) : Bool := (p.2 == q.2) && p.1.same q.1
theorem asm1Same_eq {p q : BExp × Bool} (h : asm1Same p q = true) : p = q := by
  obtain ⟨a, b⟩ := p
  obtain ⟨c, d⟩ := q
  simp only [asm1Same, Bool.and_eq_true, beq_iff_eq] at h
  rw [h.1, BExp.same_eq _ _ h.2]
def St.same (a b : St) : Bool := allSame blkSame a.h b.h && allSame asm1Same a.as b.as
theorem St.same_eq {a b : St} (h : a.same b = true) : a = b := by
  obtain ⟨x, y⟩ := a
  obtain ⟨x', y'⟩ := b
  simp only [St.same, Bool.and_eq_true] at h
  rw [allSame_eq (fun _ _ => blkSame_eq) h.1, allSame_eq (fun _ _ => asm1Same_eq) h.2]
def outSame (a b : SVal × St) : Bool := a.1.same b.1 && a.2.same b.2
theorem outSame_eq {a b : SVal × St} (h : outSame a b = true) : a = b := by
  obtain ⟨x, y⟩ := a
  obtain ⟨x', y'⟩ := b
  simp only [outSame, Bool.and_eq_true] at h
  rw [SVal.same_eq h.1, St.same_eq h.2]
def WT.same : WT (SVal × St) → WT (SVal × St) → Bool
  | .leaf a, .leaf b => outSame a b
  | .node c t f, .node c' t' f' => c.same c' && t.same t' && f.same f'
  | _, _ => false
theorem WT.same_eq : ∀ {a b : WT (SVal × St)}, a.same b = true → a = b
  | .leaf a, y, h => by
    cases y <;> simp only [WT.same] at h <;> first | contradiction | skip
    rw [outSame_eq h]
  | .node c t f, y, h => by
    cases y <;> simp only [WT.same, Bool.and_eq_true] at h <;> first | contradiction | skip
    rw [BExp.same_eq _ _ h.1.1, WT.same_eq h.1.2, WT.same_eq h.2]
  | .both _ _, _, h => by simp [WT.same] at h
  | .stop, _, h => by simp [WT.same] at h
/-- Two orders that came to the same are one. -/
def WT.merge : WT (SVal × St) → WT (SVal × St)
  | .both a b => if a.merge.same b.merge then a.merge else .both a.merge b.merge
  | .node c a b => .node c a.merge b.merge
  | .leaf a => .leaf a
  | .stop => .stop
theorem WT.holds_merge {e : Env} {Q : SVal × St → Prop} : ∀ {t : WT (SVal × St)}, t.merge.holds e Q → t.holds e Q
  | .leaf _, h => h
  | .stop, h => h
  | .node c a b, h => by
    simp only [WT.merge, WT.holds] at h ⊢
    split at h
    · rename_i hb; rw [if_pos hb]; exact WT.holds_merge h
    · rename_i hb; rw [if_neg hb]; exact WT.holds_merge h
  | .both a b, h => by
    simp only [WT.merge] at h
    split at h
    · rename_i hs
      have hs := WT.same_eq hs
      exact ⟨WT.holds_merge h, WT.holds_merge (hs ▸ h)⟩
    · exact ⟨WT.holds_merge h.1, WT.holds_merge h.2⟩

/-! ### What names no new block -/
def Cell.under (k : Nat) : Cell → Bool
  | .p (some a) => Nat.blt a.b k
  | .sl (some a) _ _ => Nat.blt a.b k
  | .fn _ l => l.all fun a => Nat.blt a.b k
  | _ => true
def Seg.under (k : Nat) : Seg → Bool
  | .c x => x.under k
  | .arr _ _ _ => true
  | .row _ _ => true
  | .el _ _ _ l => l.all (Cell.under k)
  | .tab _ _ => true
def SV.under (k : Nat) : SV → Bool
  | .c x => x.under k
  | .agg l => l.all (Seg.under k)
def SVal.under (k : Nat) : SVal → Bool
  | .v x => x.under k
  | .tup l => l.all (SV.under k)
  | .any => true
  | .val _ => true
def blkUnder (k : Nat) : Blk → Bool
  | none => true
  | some (l, _) => l.all (Seg.under k)
/-- Behind a call: blocks that it has laid and that nobody names are forgotten. -/
def cutOut (k : Nat) (q : SVal × St) : SVal × St :=
  withP q fun v st => withSt st fun h as => cond (v.under k && (h.take k).all (blkUnder k)) (withL (h.take k) fun h' => (v, ⟨h', as⟩)) (v, ⟨h, as⟩)

section under
variable {e : Env} {ρ ρ' : Rho} {k : Nat} (hp : Pre ρ ρ') (hk : ρ.length = k)
include hp hk
theorem Ad.low {a : Ad} {A : Addr} (h : a.D e ρ' A) (hb : Nat.blt a.b k = true) : a.D e ρ A := by
  obtain ⟨b', o, q, h1, h2⟩ := h
  obtain ⟨r, rfl⟩ := hp
  have hb : a.b < ρ.length := by rw [hk]; exact Nat.le_of_ble_eq_true hb
  exact ⟨b', o, q, by rwa [List.getElem?_append_left hb] at h1, h2⟩
theorem CapIs.low {a : Ad} {c : Nat} {cap : Option IExp} (h : CapIs e ρ' a cap c) (hb : Nat.blt a.b k = true) : CapIs e ρ a cap c := by
  cases cap with
  | some x => exact h
  | none =>
    obtain ⟨b', o, q, h1, h2⟩ := h
    obtain ⟨r, rfl⟩ := hp
    have hb : a.b < ρ.length := by rw [hk]; exact Nat.le_of_ble_eq_true hb
    exact ⟨b', o, q, by rwa [List.getElem?_append_left hb] at h1, h2⟩
theorem AdsD.low : ∀ {l : List Ad} {vs : List Value}, AdsD e ρ' l vs → l.all (fun a => Nat.blt a.b k) = true → AdsD e ρ l vs
  | [], _, h, _ => h
  | _ :: _, _, ⟨A, vs', h1, h2, h3⟩, hb => by
    simp only [List.all_cons, Bool.and_eq_true] at hb
    exact ⟨A, vs', Ad.low hp hk h1 hb.1, h2, AdsD.low h3 hb.2⟩
theorem Cell.low {x : Cell} {v : Value} (h : x.D e ρ' v) (hb : x.under k = true) : x.D e ρ v := by
  cases x with
  | p a => cases a with
    | none => exact h
    | some a => obtain ⟨A, h1, h2⟩ := h; exact ⟨A, Ad.low hp hk h1 hb, h2⟩
  | sl a l c => cases a with
    | none => exact h
    | some a =>
      obtain ⟨o, n, c', h1, h2, h3, h4⟩ := h
      refine ⟨o, n, c', h1, h2, h3, ?_⟩
      rcases h4 with ⟨A, h4, h5, h6⟩ | h4
      · exact .inl ⟨A, Ad.low hp hk h4 hb, h5, CapIs.low hp hk h6 hb⟩
      · exact .inr h4
  | fn f caps => obtain ⟨vs, h1, h2⟩ := h; exact ⟨vs, AdsD.low hp hk h1 hb, h2⟩
  | _ => exact h
theorem CellsD.low : ∀ {l : List Cell} {vs : List Value}, CellsD e ρ' l vs → l.all (Cell.under k) = true → CellsD e ρ l vs
  | [], _, h, _ => h
  | _ :: _, _, ⟨v, vs', h1, h2, h3⟩, hb => by
    simp only [List.all_cons, Bool.and_eq_true] at hb
    exact ⟨v, vs', h1, Cell.low hp hk h2 hb.1, CellsD.low h3 hb.2⟩
theorem SegsD.low : ∀ {l : List Seg} {vs : List Value}, SegsD e ρ' l vs → l.all (Seg.under k) = true → SegsD e ρ l vs
  | [], _, h, _ => h
  | .c _ :: _, _, ⟨v, vs', h1, h2, h3⟩, hb => by
    simp only [List.all_cons, Bool.and_eq_true] at hb
    exact ⟨v, vs', h1, Cell.low hp hk h2 hb.1, SegsD.low h3 hb.2⟩
  | .arr _ _ _ :: _, _, ⟨vs', h1, h2, h3⟩, hb => by
    simp only [List.all_cons, Bool.and_eq_true] at hb
    exact ⟨vs', h1, h2, SegsD.low h3 hb.2⟩
  | .row _ _ :: _, _, ⟨vs', h1, h3⟩, hb => by
    simp only [List.all_cons, Bool.and_eq_true] at hb
    exact ⟨vs', h1, SegsD.low h3 hb.2⟩
  | .el _ _ _ _ :: _, _, ⟨p, m, q, vs', h1, h2, h3⟩, hb => by
    simp only [List.all_cons, Bool.and_eq_true] at hb
    exact ⟨p, m, q, vs', h1, ⟨CellsD.low hp hk h2.md hb.1, h2.wid, h2.j0, h2.at', h2.all, h2.one⟩, SegsD.low h3 hb.2⟩
  | .tab _ _ :: _, _, ⟨tv, vs', h1, h2, h3⟩, hb => by
    simp only [List.all_cons, Bool.and_eq_true] at hb
    exact ⟨tv, vs', h1, h2, SegsD.low h3 hb.2⟩
theorem SV.low {x : SV} {v : Value} (h : x.D e ρ' v) (hb : x.under k = true) : x.D e ρ v := by
  cases x with
  | c x => exact Cell.low hp hk h hb
  | agg l => obtain ⟨vs, h1, h2⟩ := h; exact ⟨vs, h1, SegsD.low hp hk h2 hb⟩
theorem SVsD.low : ∀ {l : List SV} {vs : List Value}, SVsD e ρ' l vs → l.all (SV.under k) = true → SVsD e ρ l vs
  | [], _, h, _ => h
  | _ :: _, _, ⟨v, vs', h1, h2, h3⟩, hb => by
    simp only [List.all_cons, Bool.and_eq_true] at hb
    exact ⟨v, vs', h1, SV.low hp hk h2 hb.1, SVsD.low h3 hb.2⟩
theorem SVal.low {x : SVal} {v : Value} (h : x.D e ρ' v) (hb : x.under k = true) : x.D e ρ v := by
  cases x with
  | v x => exact SV.low hp hk h hb
  | tup l => obtain ⟨vs, h1, h2⟩ := h; exact ⟨vs, h1, SVsD.low hp hk h2 hb⟩
  | any => trivial
  | val j => exact h
end under

theorem Post.cut {e : Env} {ov ro : Nat} {ρ ρ' : Rho} {W W' : World} {h' : SHeap} (p : Post e ov ro ρ W ρ' h' W') {k : Nat} (hk : ρ.length = k) (hc : (h'.take k).all (blkUnder k) = true) (hfl : e.fx.length ≤ ρ.length) : Post e ov ro ρ W ρ (h'.take k) W' := by
  have hpre := p.pre
  have hle := hpre.length
  have hget : ∀ {i : Nat} {b : Nat × Nat × Nat}, i < k → ρ'[i]? = some b → ρ[i]? = some b := by
    intro i b hik h1
    obtain ⟨r, hr⟩ := hpre
    rw [hr, List.getElem?_append_left (by omega)] at h1
    exact h1
  have hlive : ∀ {i : Nat}, live (h'.take k) i → live h' i ∧ i < k := by
    rintro i ⟨s, hs⟩
    have hik : i < k := by
      have := (List.getElem?_eq_some_iff.1 hs).1
      rw [List.length_take] at this; omega
    rw [List.getElem?_take_of_lt hik] at hs
    exact ⟨⟨s, hs⟩, hik⟩
  refine ⟨Pre.refl _, New.refl _ _ _, ⟨?_, fun i j b c hi hj hb hcc => p.rel.apart i j b c (hlive hi).1 (hlive hj).1 (hpre.get hb) (hpre.get hcc), fun i l t hi => ?_, ⟨fun i x hx => hget (by have := (List.getElem?_eq_some_iff.1 hx).1; omega) (p.rel.old.fx i x hx), p.rel.old.fl, p.rel.old.size, p.rel.old.same, fun b hb => ?_⟩⟩, p.fr⟩
  · rw [List.length_take, p.rel.len]; omega
  · have hik := (hlive ⟨_, hi⟩).2
    have hm := List.mem_of_getElem? hi
    have hu := List.all_eq_true.1 hc _ hm
    rw [List.getElem?_take_of_lt hik] at hi
    obtain ⟨b, o, r, vs, h1, h2, h3⟩ := p.rel.blk i l t hi
    exact ⟨b, o, r, vs, hget hik h1, h2, SegsD.low hpre hk h3 hu⟩
  · refine p.rel.old.own b ?_
    obtain ⟨r, hr⟩ := hpre
    rw [hr, List.drop_append]
    exact List.mem_append_left _ hb

abbrev undefS : SVal := .tup []
def putS (tmps : Tm) (dst : Option Tmp) (v : SVal) : Tm :=
  match dst with
  | some d => tmps.put d v
  | none => tmps

def guardOf (ops : Array Oper) (tmps : Tm) (as : Asm) (g : Option (Nat × Bool)) : Tree (Bool × Asm) :=
  match g with
  | none => .leaf (true, as)
  | some (j, want) =>
    match (ops[j]?).bind (·.dst) with
    | some d =>
      match tmps.get d with
      | .v (.c (.b x)) => (fork as x).bind fun r => match r with | (v, as1) => .leaf (v == want, as1)
      | .tup [] => .leaf (false, as)
      | _ => .stop
    | none => .stop

/-- Operations that lay or look at memory beside loads. -/
def effOp (P : Program) (op : Op) : Bool :=
  match op with
  | .alloc _ | .box _ _ | .store _ _ _ | .buildSlice _ _ _ | .makeSlice _ _ _ => true
  | .convert s _ _ => (match P.underlying s with | some (.slice _) => true | _ => false)
  | .call c => (match c.callee with | .builtin .append | .builtin .copy => true | _ => false)
  | _ => false
def outS : Option SV → SVal
  | some x => .v x
  | none => undefS
def sstep (P : Program) (G ro : Nat) (tmps : Tm) (st : St) (op : Op) : Tree (SVal × St) :=
  withSt st fun h as =>
  match sload P G tmps as h op with
  | some x => .leaf (.v x, ⟨h, as⟩)
  | none =>
    if effOp P op then (seff P G ro tmps as h op).bind fun r => match r with | ((y, h'), as') => withL h' fun h' => .leaf (outS y, ⟨h', as'⟩)
    else (spure P G tmps as op).bind fun r => match r with | (v, as') => .leaf (v, ⟨h, as'⟩)

/-- Numbers, truths and texts alone. -/
def flatT (P : Program) (t : TypeId) : Bool := (leaves P 10000 t).isSome
def dsOf (P : Program) (ops : Array Oper) : List Nat :=
  (List.range ops.size).filter fun i =>
    match ops[i]? with
    | some o =>
      match o.op with
      | .store _ _ _ => true
      | .call c => (match c.callee with
        | .value _ => c.argTypes.any fun t => !flatT P t
        | .builtin .append => true
        | .builtin .copy => true
        | _ => false)
      | _ => false
    | none => false

def isPureOp (P : Program) : Op → Bool
  | .move _ | .assign _ | .pick _ _ _ | .nilCheck _ | .binOp _ _ _ _ _ | .unOp _ _ _ | .makeFunc _ _ _ | .build _ _ | .fieldAddr _ _ _ | .indexAddr _ _ _ | .index _ _ _ | .field _ _ _ | .extract _ _ | .slice _ _ _ _ _ => true
  | .convert s _ _ => (match P.underlying s with | some (.slice _) => false | _ => true)
  | .call c => match c.callee with | .builtin .len | .builtin .cap | .builtin .min | .builtin .max => true | _ => false
  | _ => false
def isLoadOp : Op → Bool
  | .load _ _ => true
  | _ => false

/-- An order in which a region is walked: fixed ahead, and held good once for each region. -/
inductive Sch where
  | done
  | pure (i : Nat) (r : Sch)
  | load (i : Nat) (r : Sch)
  | last (i : Nat) (r : Sch)
  | step (i : Nat) (r : Sch)
  | alt (a b : Sch)

def Sch.heads : Sch → List Nat
  | .last i _ => [i]
  | .step i _ => [i]
  | .alt a b => a.heads ++ b.heads
  | _ => []

def lastFast (ops : Array Oper) (listed : Array Bool) (ds : List Nat) (i : Nat) : Bool :=
  ds.all fun d => listed.getD d true || ((ops[d]?).map fun o => o.after.any fun e => Region.binds .any e && e.on == i).getD false || Region.reachB .any ops i ops.size d
def isOp (ops : Array Oper) (i : Nat) (p : Op → Bool) : Bool := ((ops[i]?).map fun o => p o.op).getD false

mutual
def Sch.ok (P : Program) (ops : Array Oper) (ds : List Nat) : Sch → Nat → Array Bool → Bool → Bool
  | .done, _, listed, _ => (Region.ready .any ops listed).isEmpty
  | .pure _ _, 0, _, _ => false
  | .pure i r, m + 1, listed, dirty => (Region.ready .any ops listed).contains i && Region.free .any ops listed i && isOp ops i (isPureOp P) && r.ok P ops ds m (listed.setIfInBounds i true) dirty
  | .load _ _, 0, _, _ => false
  | .load i r, m + 1, listed, dirty => (Region.ready .any ops listed).contains i && Region.free .any ops listed i && isOp ops i isLoadOp && !dirty && Region.closedB .any ops listed && lastFast ops listed ds i && r.ok P ops ds m (listed.setIfInBounds i true) dirty
  | .last _ _, 0, _, _ => false
  | .last i r, m + 1, listed, _ => decide (Region.ready .any ops listed = [i]) && ds.contains i && r.ok P ops ds m (listed.setIfInBounds i true) true
  | .step _ _, 0, _, _ => false
  | .step i r, m + 1, listed, dirty => decide (Region.ready .any ops listed = [i]) && !ds.contains i && r.ok P ops ds m (listed.setIfInBounds i true) dirty
  | .alt _ _, 0, _, _ => false
  | .alt a b, m + 1, listed, dirty => decide (Region.ready .any ops listed = a.heads ++ b.heads) && a.tails P ops ds m listed dirty && b.tails P ops ds m listed dirty && !(Region.ready .any ops listed).isEmpty
def Sch.tails (P : Program) (ops : Array Oper) (ds : List Nat) : Sch → Nat → Array Bool → Bool → Bool
  | .last i r, m, listed, _ => ds.contains i && r.ok P ops ds m (listed.setIfInBounds i true) true
  | .step i r, m, listed, dirty => !ds.contains i && r.ok P ops ds m (listed.setIfInBounds i true) dirty
  | .alt a b, m, listed, dirty => a.tails P ops ds m listed dirty && b.tails P ops ds m listed dirty
  | _, _, _, _ => false
end

/-- What a loop's block leaves, told ahead: the lock, the slots, the state. -/
abbrev LTab := Nat → Tm → St → Option (WT (XE × Tm × St))
structure FPlan where
  sch : List (Nat × Sch)
  lt : Nat → Option LTab
structure Plan where
  sch : List (List (Nat × Sch))
  lt : Nat → Nat → Option LTab
def Plan.at (p : Plan) (f : Nat) : FPlan := ⟨p.sch.getD f [], p.lt f⟩
def noLt : Nat → Nat → Option LTab := fun _ _ => none
def planAt : List (Nat × Sch) → Nat → Option Sch
  | [], _ => none
  | (i, s) :: r, id => if Nat.beq i id then some s else planAt r id
/-- The orders of a body are good. -/
def planned (P : Program) (pl : List (Nat × Sch)) : Code → Bool
  | .seq a b => planned P pl a && planned P pl b
  | .cond _ a b => planned P pl a && planned P pl b
  | .block _ b => planned P pl b
  | .loop b => planned P pl b
  | .scope b => planned P pl b
  | .region id ops true => match planAt pl id with
    | some s => Region.noSelect ops && s.ok P ops (dsOf P ops) ops.size (Array.replicate ops.size false) false
    | none => true
  | _ => true
def planB (P : Program) : List Func → List (List (Nat × Sch)) → Bool
  | fn :: r, p :: q => (match fn.body with
    | some c => planned P p c
    | none => true) && planB P r q
  | _, _ => true
theorem planned_nil {P : Program} : ∀ {c : Code}, planned P [] c = true
  | .seq _ _ => by simp only [planned, planned_nil, Bool.and_true]
  | .cond _ _ _ => by simp only [planned, planned_nil, Bool.and_true]
  | .block _ _ => by simp only [planned, planned_nil]
  | .loop _ => by simp only [planned, planned_nil]
  | .scope _ => by simp only [planned, planned_nil]
  | .region _ _ d => by cases d <;> rfl
  | .skip => rfl
  | .exit _ => rfl
  | .ret => rfl
  | .rangeFunc .. => rfl
  | .label _ => rfl
  | .goto _ => rfl
  | .refuse _ => rfl
theorem planB_get {P : Program} : ∀ {fs : List Func} {plan : List (List (Nat × Sch))}, planB P fs plan = true → ∀ {f : Nat} {fn : Func} {c : Code}, fs[f]? = some fn → fn.body = some c → planned P (plan.getD f []) c = true
  | [], _, _, f, fn, c, h, _ => by simp at h
  | _ :: _, [], _, f, fn, c, _, _ => by simpa using planned_nil
  | g :: r, p :: q, hb, 0, fn, c, h, hc => by
    simp only [List.getElem?_cons_zero, Option.some.injEq] at h
    subst h
    simp only [planB, hc, Bool.and_eq_true] at hb
    exact hb.1
  | g :: r, p :: q, hb, f + 1, fn, c, h, hc => by
    simp only [planB, Bool.and_eq_true] at hb
    simp only [List.getElem?_cons_succ] at h
    exact planB_get hb.2 h hc

/-- Result variables. -/
def sresult (P : Program) (G : Nat) (tmps : Tm) (as : Asm) (h : SHeap) : ResultVar → Option SV
  | .tmp t => asSV (some (tmps.get t))
  | .cell a t =>
    match asCell (some (tmps.get a)) with
    | some (.p (some ad)) => sload P G ⟨1, [(0, .v (.c (.p (some ad))))], false⟩ as h (.load t (.tmp 0))
    | _ => none
def sresults (P : Program) (G : Nat) (tmps : Tm) (as : Asm) (h : SHeap) : List ResultVar → Option (List SV)
  | [] => some []
  | r :: rs => match sresult P G tmps as h r, sresults P G tmps as h rs with
    | some x, some l => some (x :: l)
    | _, _ => none

/-- Contracts: the lock, the function, its arguments, the state; the ways that it may end. -/
abbrev Tab := Nat → Nat → List SVal → St → Option (WT (SVal × St))

/-! The four walks, each a plain function of the walks one step down (small bodies: the kernel copies a body at each step). -/
abbrev TOps := Nat → Array Oper → List Oper → Tm → St → WT (Tm × St)
abbrev TDraw := Nat → SHeap → Array Oper → Sch → Tm → St → WT (Tm × St)
abbrev TCode := FPlan → Nat → Code → Tm → St → WT (XE × Tm × St)
abbrev TCall := Nat → Nat → List SVal → St → WT (SVal × St)

/-- One operation that is wanted. -/
def runOp (P : Program) (G : Nat) (call : TCall) (ro : Nat) (tmps : Tm) (st : St) (op : Op) (k : SVal → St → WT (Tm × St)) : WT (Tm × St) :=
  withSt st fun h as =>
  match scall P G tmps op with
  | some (f, args) => (call ro f args ⟨h, as⟩).bind fun q => withP q k
  | none => match sroom P G ro tmps as h op with
    | some (q1, q2) => .both (withP q1 fun v h' => withL h' fun h' => k v ⟨h', as⟩) (withP q2 fun v h' => withL h' fun h' => k v ⟨h', as⟩)
    | none => (sstep P G ro tmps ⟨h, as⟩ op).bindW fun q => withP q fun v st' => withV v fun v => k v st'
def opsF (P : Program) (G : Nat) (ops' : TOps) (call : TCall) (ro : Nat) (ops : Array Oper) (o : Oper) (r : List Oper) (tmps : Tm) (st : St) : WT (Tm × St) :=
  withTm tmps fun tmps => withSt st fun h as => (guardOf ops tmps as o.guard).bindW fun g => withP g fun b as' =>
    cond b (runOp P G call ro tmps ⟨h, as'⟩ o.op fun v st' => ops' ro ops r (putS tmps o.dst v) st') (ops' ro ops r (putS tmps o.dst undefS) ⟨h, as'⟩)
def drawPure (P : Program) (G : Nat) (draw : Sch → Tm → St → WT (Tm × St)) (ops : Array Oper) (o : Oper) (r : Sch) (tmps : Tm) (st : St) : WT (Tm × St) :=
  withTm tmps fun tmps => withSt st fun h as => (guardOf ops tmps as o.guard).bindW fun g => withP g fun b as' =>
    cond b ((spure P G tmps as' o.op).bindW fun q => withP q fun v as2 => draw r (putS tmps o.dst v) ⟨h, as2⟩) (draw r (putS tmps o.dst undefS) ⟨h, as'⟩)
def drawLoad (P : Program) (G : Nat) (h0 : SHeap) (draw : Sch → Tm → St → WT (Tm × St)) (ops : Array Oper) (o : Oper) (r : Sch) (tmps : Tm) (st : St) : WT (Tm × St) :=
  withTm tmps fun tmps => withSt st fun h as => (guardOf ops tmps as o.guard).bindW fun g => withP g fun b as' =>
    cond b (match sload P G tmps as' h0 o.op with
      | some x => draw r (putS tmps o.dst (.v x)) ⟨h, as'⟩
      | none => .stop) (draw r (putS tmps o.dst undefS) ⟨h, as'⟩)
def drawStep (P : Program) (G : Nat) (call : TCall) (ro : Nat) (draw : Sch → Tm → St → WT (Tm × St)) (ops : Array Oper) (o : Oper) (r : Sch) (tmps : Tm) (st : St) : WT (Tm × St) :=
  withTm tmps fun tmps => withSt st fun h as => (guardOf ops tmps as o.guard).bindW fun g => withP g fun b as' =>
    cond b (runOp P G call ro tmps ⟨h, as'⟩ o.op fun v st' => draw r (putS tmps o.dst v) st') (draw r (putS tmps o.dst undefS) ⟨h, as'⟩)
def withOp (ops : Array Oper) (i : Nat) (k : Oper → WT (Tm × St)) : WT (Tm × St) :=
  match ops[i]? with
  | some o => k o
  | none => .stop
def drawF (P : Program) (G : Nat) (draw : TDraw) (call : TCall) (ro : Nat) (h0 : SHeap) (ops : Array Oper) (s : Sch) (tmps : Tm) (st : St) : WT (Tm × St) :=
  match s with
  | .done => .leaf (tmps, st)
  | .alt a b => .both (draw ro h0 ops a tmps st) (draw ro h0 ops b tmps st)
  | .pure i r => withOp ops i fun o => drawPure P G (draw ro h0 ops) ops o r tmps st
  | .load i r => withOp ops i fun o => drawLoad P G h0 (draw ro h0 ops) ops o r tmps st
  | .last i r => withOp ops i fun o => drawStep P G call ro (draw ro h0 ops) ops o r tmps st
  | .step i r => withOp ops i fun o => drawStep P G call (max ro st.h.length) (draw ro h0 ops) ops o r tmps st
def seqF (b : Tm → St → WT (XE × Tm × St)) (q : XE × Tm × St) : WT (XE × Tm × St) :=
  withP q fun x r => match x with
  | .normal => withP r b
  | .exit id => .leaf (.exit id, r)
  | .ret => .leaf (.ret, r)
def blockF (id : Nat) (q : XE × Tm × St) : WT (XE × Tm × St) :=
  withP q fun x r => match x with
  | .exit id' => cond (Nat.beq id' id) (.leaf (.normal, r)) (.leaf (.exit id', r))
  | .normal => .leaf (.normal, r)
  | .ret => .leaf (.ret, r)
def condF (G : Nat) (c : Operand) (a b : Tm → St → WT (XE × Tm × St)) (tmps : Tm) (st : St) : WT (XE × Tm × St) :=
  match asCell (seval G tmps c) with
  | some (.b x) => withSt st fun h as => (fork as x).bindW fun r => withP r fun v as' => cond v (a tmps ⟨h, as'⟩) (b tmps ⟨h, as'⟩)
  | _ => .stop
def regionF (o : TOps) (d : TDraw) (pl : FPlan) (ro id : Nat) (ops : Array Oper) (draw : Bool) (tmps : Tm) (st : St) : WT (XE × Tm × St) :=
  cond draw (match planAt pl.sch id with
    | some s => (d ro st.h ops s tmps st).bind fun q => .leaf (.normal, q)
    | none => .stop) ((o ro ops ops.toList tmps st).bind fun q => .leaf (.normal, q))
def codeF (G : Nat) (o : TOps) (d : TDraw) (x : TCode) (pl : FPlan) (ro : Nat) (c : Code) (tmps : Tm) (st : St) : WT (XE × Tm × St) :=
  match c with
  | .skip => .leaf (.normal, tmps, st)
  | .seq a b => (x pl ro a tmps st).bind (seqF (x pl ro b))
  | .cond c a b => condF G c (x pl ro a) (x pl ro b) tmps st
  | .block id b => (match pl.lt id with
    | some L => (match L ro tmps st with
      | some t => t
      | none => .stop)
    | none => (x pl ro b tmps st).bind (blockF id))
  | .loop b => (x pl ro b tmps st).bind (seqF (x pl ro (.loop b)))
  | .exit id => .leaf (.exit id, tmps, st)
  | .ret => .leaf (.ret, tmps, st)
  | .scope b => x pl ro b tmps st
  | .label _ => .leaf (.normal, tmps, st)
  | .region id ops draw => regionF o d pl ro id ops draw tmps st
  | _ => .stop
def retF (P : Program) (G : Nat) (k : Nat) (rs : List ResultVar) (q : XE × Tm × St) : WT (SVal × St) :=
  withP q fun x r => withP r fun tm st => withSt st fun h as => match x with
  | .exit _ => .stop
  | _ =>
    match sresults P G tm as h rs with
    | some [x] => .leaf (cutOut k (.v x, ⟨h, as⟩))
    | some l => .leaf (cutOut k (.tup l, ⟨h, as⟩))
    | none => .stop
def bodyF (P : Program) (G : Nat) (plan : Plan) (x : TCode) (ro f : Nat) (args : List SVal) (st : St) : WT (SVal × St) :=
  match P.funcs[f]? with
  | some fn =>
    match fn.body with
    | some c => ((x (plan.at f) ro c ⟨args.length + (fn.ntmps - args.length), tmArgs 0 args, false⟩ st).bind (retF P G st.h.length fn.results.toList)).merge
    | none => .stop
  | none => .stop
def callF (P : Program) (G : Nat) (plan : Plan) (tab : Tab) (x : TCode) (ro f : Nat) (args : List SVal) (st : St) : WT (SVal × St) :=
  match tab ro f args st with
  | some r => r
  | none => bodyF P G plan x ro f args st

mutual
def xOps (P : Program) (G : Nat) (plan : Plan) (tab : Tab) : Nat → TOps
  | 0, _, _, _, _, _ => .stop
  | _ + 1, _, _, [], tmps, st => .leaf (tmps, st)
  | n + 1, ro, ops, o :: r, tmps, st => opsF P G (xOps P G plan tab n) (xCall P G plan tab n) ro ops o r tmps st
termination_by structural n _ _ _ _ _ => n
def xDraw (P : Program) (G : Nat) (plan : Plan) (tab : Tab) : Nat → TDraw
  | 0, _, _, _, _, _, _ => .stop
  | n + 1, ro, h0, ops, s, tmps, st => drawF P G (xDraw P G plan tab n) (xCall P G plan tab n) ro h0 ops s tmps st
termination_by structural n _ _ _ _ _ _ => n
def xCode (P : Program) (G : Nat) (plan : Plan) (tab : Tab) : Nat → TCode
  | 0, _, _, _, _, _ => .stop
  | n + 1, pl, ro, c, tmps, st => codeF G (xOps P G plan tab n) (xDraw P G plan tab n) (xCode P G plan tab n) pl ro c tmps st
termination_by structural n _ _ _ _ _ => n
def xCall (P : Program) (G : Nat) (plan : Plan) (tab : Tab) : Nat → TCall
  | 0, _, _, _, _ => .stop
  | n + 1, ro, f, args, st => callF P G plan tab (xCode P G plan tab n) ro f args st
termination_by structural n _ _ _ _ => n
end

/-! ### Small laws -/
theorem SValsD.get {e : Env} {ρ : Rho} : ∀ {l : List SVal} {vs : List Value} {i : Nat} {x : SVal}, SValsD e ρ l vs → l[i]? = some x → ∃ v, vs[i]? = some v ∧ x.D e ρ v
  | [], _, _, _, _, h => by simp at h
  | y :: r, _, 0, x, ⟨v, vs', h1, h2, _⟩, h => by subst h1; simp at h; subst h; exact ⟨v, rfl, h2⟩
  | y :: r, _, i + 1, x, ⟨v, vs', h1, _, h3⟩, h => by
    subst h1
    obtain ⟨u, hu, hx⟩ := SValsD.get h3 (by simpa using h)
    exact ⟨u, by simpa using hu, hx⟩
theorem SValsD.set {e : Env} {ρ : Rho} {x : SVal} {v : Value} (hx : x.D e ρ v) : ∀ {l : List SVal} {vs : List Value} {i : Nat}, SValsD e ρ l vs → SValsD e ρ (l.set i x) (vs.set i v)
  | [], _, _, h => by cases h; exact rfl
  | y :: r, _, 0, ⟨u, vs', h1, h2, h3⟩ => by subst h1; exact ⟨v, vs', rfl, hx, h3⟩
  | y :: r, _, i + 1, ⟨u, vs', h1, h2, h3⟩ => by subst h1; exact ⟨u, vs'.set i v, rfl, h2, SValsD.set hx h3⟩
theorem SValsD.length {e : Env} {ρ : Rho} : ∀ {l : List SVal} {vs : List Value}, SValsD e ρ l vs → l.length = vs.length
  | [], _, h => by cases h; rfl
  | _ :: _, _, ⟨v, vs', h1, _, h3⟩ => by subst h1; simp [SValsD.length h3]
theorem undef_D {e : Env} {ρ : Rho} : undefS.D e ρ undef := ⟨[], rfl, rfl⟩
theorem put_D {e : Env} {ρ : Rho} {tmps : Tm} {a : Act} {x : SVal} {V : Value} (ht : TmD e ρ tmps a.tmps.toList) (hx : x.D e ρ V) (dst : Option Tmp) : TmD e ρ (putS tmps dst x) (a.put dst V).tmps.toList := by
  cases dst with
  | none => exact ht
  | some d =>
    show TmD e ρ (tmps.put d x) (a.tmps.setIfInBounds d V).toList
    rw [Array.toList_setIfInBounds]
    exact TmD.put hx ht d
theorem put_defers (a : Act) (dst : Option Tmp) (V : Value) : (a.put dst V).defers = a.defers := by cases dst <;> rfl

theorem guardOf_ok {e : Env} (ok : EnvOk e) {ρ : Rho} {ops : Array Oper} {tmps : Tm} {a : Act} (ht : TmD e ρ tmps a.tmps.toList) {as as' : Asm} (ha : AsmOk e as) {o : Oper} {b : Bool}
    (h : (guardOf ops tmps as o.guard).pick e = some (b, as')) : Region.wanted o (yielded ops a.tmps) = b ∧ AsmOk e as' := by
  unfold guardOf at h
  split at h
  · rename_i hg
    have h := leaf_inv h
    cases h
    exact ⟨by simp [Region.wanted, hg], ha⟩
  · rename_i j want hg
    split at h
    · rename_i d hd
      split at h
      · rename_i x hx
        obtain ⟨⟨r, as1⟩, h1, h2⟩ := Tree.pick_bind h
        have h2 := leaf_inv h2
        cases h2
        have hf := fork_ok ok ha h1
        have hD := ht.2 d
        rw [hx] at hD
        have hD : a.tmps.toList.getD d undef = .bool (x.den e) := hD
        rw [hf.1] at hD
        refine ⟨?_, hf.2⟩
        have hv' : a.tmps[d]? = some (.bool r) := by
          rw [List.getD_eq_getElem?_getD, Array.getElem?_toList] at hD
          cases hq : a.tmps[d]? with
          | none => rw [hq] at hD; cases hD
          | some v => rw [hq] at hD; simp only [Option.getD_some] at hD; rw [hD]
        simp only [Region.wanted, hg, yielded, hd, Option.bind_some, hv']
        cases r <;> cases want <;> rfl
      · rename_i hx
        have h := leaf_inv h
        cases h
        have hD := ht.2 d
        rw [hx] at hD
        obtain ⟨vs, hD, hvs⟩ := hD
        cases hvs
        refine ⟨?_, ha⟩
        simp only [Region.wanted, hg, yielded, hd, Option.bind_some]
        rw [List.getD_eq_getElem?_getD, Array.getElem?_toList] at hD
        cases hq : a.tmps[d]? with
        | none => rfl
        | some v => rw [hq] at hD; simp only [Option.getD_some] at hD; rw [hD]; rfl
      · cases h
    · cases h

theorem sstep_ok {e : Env} (ok : EnvOk e) {P : Program} {ρ : Rho} {G ov ro : Nat} (hov : ov ≤ ro) (hG : Glob G ρ) {tmps : Tm} {a : Act} (ht : TmD e ρ tmps a.tmps.toList) {st st' : St} (ha : AsmOk e st.as) {o : Oper} {x : SVal}
    (hs : (sstep P G ro tmps st o.op).pick e = some (x, st')) {W : World} (hr : HRel e ov ρ st.h W) :
    ∃ ρ' W', AsmOk e st'.as ∧ Post e ov ro ρ W ρ' st'.h W' ∧ ((∃ V, (execOp a.eval o).run P W = .ok (.value V) W' ∧ x.D e ρ' V) ∨ ((execOp a.eval o).run P W = .ok .skip W' ∧ x = undefS)) := by
  unfold sstep at hs
  simp only [withSt_eq] at hs
  split at hs
  · rename_i y hy
    have hs := leaf_inv hs
    cases hs
    obtain ⟨V, hV, hrun⟩ := sload_run (ov := ov) ok hG ht ha hy hr.blk rfl
    exact ⟨ρ, W, ha, Post.refl hr, .inl ⟨V, hrun W (Stay.refl _ _ _), hV⟩⟩
  · split at hs
    · obtain ⟨⟨⟨y, h'⟩, as1⟩, h1, h2⟩ := Tree.pick_bind hs
      simp only [withL_eq] at h2
      have h2 := leaf_inv h2
      cases h2
      obtain ⟨N, ρ', W', hrun, hN, hp, has⟩ := seff_ok ok hov hG ht ha h1 hr
      cases y with
      | some y => obtain ⟨V, rfl, hV⟩ := hN; exact ⟨ρ', W', has, hp, .inl ⟨V, hrun, hV⟩⟩
      | none => cases hN; exact ⟨ρ', W', has, hp, .inr ⟨hrun, rfl⟩⟩
    · obtain ⟨⟨r, as1⟩, h1, h2⟩ := Tree.pick_bind hs
      have h2 := leaf_inv h2
      cases h2
      obtain ⟨q, V, hV, hrun⟩ := spure_ok ok hG ht ha h1
      exact ⟨ρ, W, q, Post.refl hr, .inl ⟨V, hrun W, hV⟩⟩

theorem tmArgs_D {e : Env} {ρ : Rho} : ∀ {args : List SVal} {vs : List Value} (i t : Nat), SValsD e ρ args vs → i ≤ t → (tmFind false (tmArgs i args) t).D e ρ (vs.getD (t - i) undef)
  | [], vs, i, t, h, _ => by cases h; exact undef_D
  | x :: r, _, i, t, ⟨v, vs', h1, h2, h3⟩, hle => by
    subst h1
    simp only [tmArgs, tmFind]
    cases hq : Nat.beq i t with
    | true =>
      have := Nat.eq_of_beq_eq_true hq
      subst this
      simpa using h2
    | false =>
      have hne : i ≠ t := fun hh => by rw [hh] at hq; simp at hq
      have := tmArgs_D (i + 1) t h3 (by omega)
      rw [show t - i = (t - (i + 1)) + 1 by omega]
      simpa using this
theorem TmD.init {e : Env} {ρ : Rho} {args : List SVal} {vs : List Value} (h : SValsD e ρ args vs) (k : Nat) : TmD e ρ ⟨args.length + k, tmArgs 0 args, false⟩ (vs ++ List.replicate k undef) := by
  refine ⟨by simp [h.length], fun t => ?_⟩
  have := tmArgs_D 0 t h (Nat.zero_le _)
  rw [Nat.sub_zero] at this
  have e1 : (vs ++ List.replicate k undef).getD t undef = vs.getD t undef := by
    rw [List.getD_eq_getElem?_getD, List.getD_eq_getElem?_getD]
    rcases Nat.lt_or_ge t vs.length with hl | hg
    · rw [List.getElem?_append_left hl]
    · rw [List.getElem?_append_right hg, List.getElem?_eq_none hg, List.getElem?_replicate]
      split <;> rfl
  rw [e1]
  exact this

theorem loadVar_of {P : Program} {G : Nat} {e : Env} (ok : EnvOk e) {ρ : Rho} (hG : Glob G ρ) {ov : Nat} {as : Asm} (ha : AsmOk e as) {h : SHeap} {W : World} (hr : HRel e ov ρ h W) {ad : Ad} {A : Addr} {t : TypeId} {x : SV} (hA : ad.D e ρ A)
    (hs : sload P G ⟨1, [(0, .v (.c (.p (some ad))))], false⟩ as h (.load t (.tmp 0)) = some x) : ∃ V, x.D e ρ V ∧ (loadVar t A).run P W = .ok V W := by
  let o : Oper := { dst := none, op := .load t (.tmp 0), type := 0, pos := "", after := #[], guard := none }
  let a : Act := { tmps := #[.pointer (some A)], defers := [] }
  have ht : TmD e ρ ⟨1, [(0, .v (.c (.p (some ad))))], false⟩ a.tmps.toList := ⟨rfl, fun t => by
    cases t with
    | zero => exact ⟨A, hA, rfl⟩
    | succ t => exact undef_D⟩
  obtain ⟨V, hV, hrun⟩ := sload_run (o := o) (ov := ov) ok hG ht ha hs hr.blk rfl
  have hrun := hrun W (Stay.refl _ _ _)
  refine ⟨V, hV, ?_⟩
  have e1 : (execOp a.eval o).run P W = ((loadVar t A).run P W).andThen fun v w => .ok (.value v) w := by
    show (do pure (Next.value (← Instr.loadAt t (.pointer (some A)))) : Sem Next).run P W = _
    rw [Sem.run_bind]
    simp only [Instr.loadAt, Instr.sureAddr, Sem.run_bind, Sem.run_pure, Result.andThen_ok]
  rw [e1] at hrun
  cases hq : (loadVar t A).run P W with
  | ok v w =>
    rw [hq] at hrun
    simp only [Result.andThen_ok, Result.ok.injEq, Next.value.injEq] at hrun
    rw [hrun.1, hrun.2]
  | halt x w => rw [hq] at hrun; cases hrun

def resFn (tmps : Array Value) : ResultVar → Sem Value
  | .tmp t => pure (tmps.getD t undef)
  | .cell c t => do loadVar t (← asAddr (tmps.getD c undef))

theorem sresults_ok {P : Program} {G : Nat} {e : Env} (ok : EnvOk e) {ρ : Rho} (hG : Glob G ρ) {ov : Nat} {as : Asm} (ha : AsmOk e as) {h : SHeap} {W : World} (hr : HRel e ov ρ h W) {tmps : Tm} {a : Act} (ht : TmD e ρ tmps a.tmps.toList) :
    ∀ {rs : List ResultVar} {l : List SV}, sresults P G tmps as h rs = some l →
      ∃ vs, SVsD e ρ l vs ∧ (rs.mapM (resFn a.tmps)).run P W = .ok vs W
  | [], l, hs => by
    simp only [sresults, Option.some.injEq] at hs
    subst hs
    exact ⟨[], rfl, rfl⟩
  | r :: rs, l, hs => by
    simp only [sresults] at hs
    split at hs
    · rename_i x q h1 h2
      cases hs
      obtain ⟨vs, hvs, hrun⟩ := sresults_ok ok hG ha hr ht h2
      have gd : ∀ t, a.tmps.getD t undef = a.tmps.toList.getD t undef := fun t => by
        simp [Array.getD_eq_getD_getElem?, List.getD_eq_getElem?_getD]
      cases r with
      | tmp t =>
        have hx : x.D e ρ (a.tmps.getD t undef) := by
          have := ht.2 t
          rw [gd]
          simp only [sresult] at h1
          have h1 := asSV_eq h1
          simp only [Option.some.injEq] at h1
          rw [h1] at this
          exact this
        refine ⟨_ :: vs, ⟨_, vs, rfl, hx, hvs⟩, ?_⟩
        rw [List.mapM_cons]
        simp only [resFn, Sem.run_bind, Sem.run_pure, Result.andThen_ok, hrun]
      | cell c t =>
        simp only [sresult] at h1
        split at h1
        · rename_i ad had
          have h3 := asCell_eq had
          simp only [Option.some.injEq] at h3
          have hD := ht.2 c
          rw [h3, ← gd] at hD
          obtain ⟨A, hA, hv⟩ := hD
          obtain ⟨V, hV, hl⟩ := loadVar_of ok hG ha hr hA h1
          refine ⟨V :: vs, ⟨_, vs, rfl, hV, hvs⟩, ?_⟩
          have hasd : asAddr (a.tmps.getD c undef) = pure A := by rw [hv]; rfl
          rw [List.mapM_cons]
          simp only [resFn, Sem.run_bind, hasd, Sem.run_pure, Result.andThen_ok, hl, hrun]
        · cases h1
    · cases hs

theorem results_ok {P : Program} {G : Nat} {e : Env} (ok : EnvOk e) {ρ : Rho} (hG : Glob G ρ) {ov : Nat} {as : Asm} (ha : AsmOk e as) {h : SHeap} {W : World} (hr : HRel e ov ρ h W) {tmps : Tm} {a : Act} (ht : TmD e ρ tmps a.tmps.toList) {fn : Func} {l : List SV}
    (hs : sresults P G tmps as h fn.results.toList = some l) : ∃ vs, SVsD e ρ l vs ∧ (results fn a.tmps).run P W = .ok (if h : vs.toArray.size = 1 then vs.toArray[0] else .tuple vs.toArray) W := by
  obtain ⟨vs, hvs, hrun⟩ := sresults_ok ok hG ha hr ht hs
  refine ⟨vs, hvs, ?_⟩
  have e2 : results fn a.tmps = (do let vs ← fn.results.mapM (resFn a.tmps); pure (if h : vs.size = 1 then vs[0] else .tuple vs)) := rfl
  rw [e2, Sem.run_bind, Array.mapM_eq_mapM_toList, Sem.run_map, hrun]
  simp only [Result.andThen_ok, Sem.run_pure]

theorem Post.of_below {e : Env} {ov ro : Nat} {ρ : Rho} {h : SHeap} {W W' : World} (hr : HRel e ov ρ h W) (hb : RowKit.Below W.heap.size W W') : Post e ov ro ρ W ρ h W' := by
  refine ⟨Pre.refl _, New.refl _ _ _, ⟨hr.len, hr.apart, fun i l t hi => ?_, ⟨hr.old.fx, hr.old.fl, Nat.le_trans hr.old.size hb.size, fun k hk => by rw [hb.block k (Nat.lt_of_lt_of_le hk hr.old.size)]; exact hr.old.same k hk, hr.old.own⟩⟩, ⟨hb.os, hb.tape, hb.output, hb.size, fun k hk _ => hb.block k hk⟩⟩
  obtain ⟨b, o, r, vs, h1, h2, h3⟩ := hr.blk i l t hi
  exact ⟨b, o, r, vs, h1, h2.same (hb.block b h2.lt), h3⟩
end
end Go.Proofs.YtaijkkkgpgldbaaDoor.Sy
