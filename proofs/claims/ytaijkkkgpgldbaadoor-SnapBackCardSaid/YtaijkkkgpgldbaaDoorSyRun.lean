/- A small symbolic executor for loop-free Go code: the way in: a call whose every way ends in true. -/
import Derived.Test.YtaijkkkgpgldbaaDoorSySound
import Derived.Test.YtaijkkkgpgldbaaDoorFlat
namespace Go.Proofs.YtaijkkkgpgldbaaDoor.Sy
noncomputable section
set_option linter.unusedVariables false
set_option linter.unusedSimpArgs false
open Go

def clip (k : IntKind) (n : Int) : Int := if k.min ≤ n ∧ n ≤ k.max then n else 0
theorem clip_in (k : IntKind) (n : Int) : In k (clip k n) := by
  unfold clip
  split
  · assumption
  · exact zero_in k
theorem clip_of {k : IntKind} {n : Int} (h : In k n) : clip k n = n := if_pos h
theorem clip_map {k : IntKind} {l : List Int} (h : ∀ x ∈ l, In k x) : l.map (clip k) = l := by
  induction l with
  | nil => rfl
  | cons x l ih => rw [List.map_cons, clip_of (h x List.mem_cons_self), ih fun y hy => h y (List.mem_cons_of_mem _ hy)]

/-- Where the letters' values come from. -/
structure Src where
  i : IntKind → List Int
  b : List Bool
  a : IntKind → Nat → List Int
  fi : IntKind → Nat → Nat → List LV → Int := fun _ _ _ _ => 0
  fb : Nat → Nat → List LV → Bool := fun _ _ _ => false
  fa : IntKind → Nat → Nat → List LV → List Int := fun _ _ _ _ => []
  v : Nat → Value := fun _ => undef
  base : Nat := 0
  h0 : Nat → Option Obj := fun _ => none
  fx : List (Nat × Nat × Nat) := []
/-- As long as a list may be, each number of its kind. -/
def clipL (k : IntKind) (l : List Int) : List Int := (l.take lenTop.toNat).map (clip k)
theorem clipL_of {k : IntKind} {l : List Int} (h : ∀ x ∈ l, In k x) (hl : (l.length : Int) ≤ lenTop) : clipL k l = l := by
  unfold clipL
  have h0 : (0 : Int) ≤ lenTop := by decide
  rw [List.take_of_length_le (by omega), clip_map h]
theorem clipL_in {k : IntKind} {l : List Int} {x : Int} (h : x ∈ clipL k l) : In k x := by
  obtain ⟨y, _, rfl⟩ := List.mem_map.1 h
  exact clip_in _ _
theorem clipL_len {k : IntKind} {l : List Int} : ((clipL k l).length : Int) ≤ lenTop := by
  have h0 : (0 : Int) ≤ lenTop := by decide
  simp only [clipL, List.length_map, List.length_take]
  omega
def Src.env (s : Src) : Env :=
  { i := fun k j => clip k ((s.i k).getD j 0), b := fun j => s.b.getD j false, a := fun k j => clipL k (s.a k j), fi := fun k f j l => clip k (s.fi k f j l), fb := s.fb, fa := fun k f j l => clipL k (s.fa k f j l), v := s.v, base := s.base, h0 := s.h0, fx := s.fx }
theorem Src.ok (s : Src) : EnvOk s.env := by
  exact ⟨fun k j => clip_in _ _, fun k j x hx => clipL_in hx, fun k j => clipL_len, fun k f j l => clip_in _ _, fun k f j l x hx => clipL_in hx, fun k f j l => clipL_len⟩

theorem TabOk.none (P : Program) (G ov : Nat) (e : Env) : TabOk P G ov (fun _ _ _ _ => none) e := fun _ _ _ _ _ _ h => by cases h

def isT (q : SVal × St) : Bool :=
  match q.1 with
  | .v (.c (.b (.lit b))) => b
  | .v (.c (.b x)) => match decideB q.2.as x with
    | some b => b
    | none => false
  | _ => false
theorem isT_D {e : Env} (ok : EnvOk e) {ρ : Rho} {v : SVal} {st : St} {V : Value} (ha : AsmOk e st.as) (h : isT (v, st) = true) (hD : v.D e ρ V) : V = .bool true := by
  unfold isT at h
  split at h
  · rename_i b hv
    simp only at hv
    subst hv h
    exact hD
  · rename_i x _ hv
    simp only at hv
    subst hv
    split at h
    · rename_i b hb
      subst h
      have := decideB_ok ok ha hb
      have hD : V = .bool (x.den e) := hD
      rw [hD, this]
    · cases h
  · cases h

/-- A call over blocks that stay as they are. -/
theorem run_call {P : Program} {plan : Plan} {tab : Tab} {e : Env} (ok : EnvOk e) (hmix : P.follows .mixedOrders = true) (hplan : planB P P.funcs.toList plan.sch = true) {n G f ov : Nat} (hlt : LtOk P G ov e plan) (htab : TabOk P G ov tab e) {args : List SVal}
    {vs : List Value} {as : Asm} {h0 : SHeap} {W : World} {ρ : Rho} {Z : SVal × St → Prop} (hargs : SValsD e ρ args vs) (has : AsmOk e as) (hr : HRel e ov ρ h0 W) (hg : Glob G ρ) (hov : ov ≤ h0.length)
    (hall : (xCall P G plan tab n h0.length f args ⟨h0, as⟩).holds e Z) :
    Calls P f vs.toArray W fun en W' => ∃ v st' ρ' V, Z (v, st') ∧ en = .returned V ∧ v.D e ρ' V ∧ AsmOk e st'.as ∧ RowKit.Below W.heap.size W W' := by
  refine (sound ok hmix hplan hlt htab n).2.2.2.2 h0.length f args ⟨h0, as⟩ _ hov hall ρ vs W _ hargs has hr hg fun v st' hz ρ' V W' hp hV has' => ?_
  refine ⟨v, st', ρ', V, hz, rfl, hV, has', ⟨hp.fr.os, hp.fr.tape, hp.fr.output, hp.fr.size, fun k hk => hp.fr.same k hk ?_⟩⟩
  rintro ⟨o, hm⟩
  rw [List.drop_eq_nil_of_le (by rw [← hr.len]; exact Nat.le_refl _)] at hm
  cases hm

theorem run_true {P : Program} {plan : Plan} {tab : Tab} {e : Env} (ok : EnvOk e) (hmix : P.follows .mixedOrders = true) (hplan : planB P P.funcs.toList plan.sch = true) {n G f ov : Nat} (hlt : LtOk P G ov e plan) (htab : TabOk P G ov tab e) {args : List SVal}
    {vs : List Value} {as : Asm} {h0 : SHeap} {W : World} {ρ : Rho} (hargs : SValsD e ρ args vs) (has : AsmOk e as) (hr : HRel e ov ρ h0 W) (hg : Glob G ρ) (hov : ov ≤ h0.length)
    (hall : (xCall P G plan tab n h0.length f args ⟨h0, as⟩).all isT = true) :
    Calls P f vs.toArray W fun en W' => en = .returned (.bool true) ∧ RowKit.Below W.heap.size W W' := by
  refine (run_call ok hmix hplan hlt htab hargs has hr hg hov (WT.all_holds hall)).mono ?_
  rintro en W' ⟨v, st', ρ', V, hz, rfl, hV, ha, hb⟩
  exact ⟨by rw [isT_D ok ha hz hV], hb⟩

/-- The globals' blocks. -/
def globs (G : Nat) : Rho := (List.range G).map fun g => (g, 0, 0)
theorem globs_ok (G : Nat) : Glob G (globs G) := fun g hg => by simp [globs, hg]
/-- No block is known. -/
theorem HRel.none (e : Env) (ov : Nat) (W : World) (hb : e.base = 0 := by rfl) (hx : e.fx = [] := by rfl) : HRel e ov [] [] W := ⟨rfl, (fun i _ _ _ h => by obtain ⟨s, hs⟩ := h; simp at hs), (fun _ _ _ h => by simp at h), Old.of_none hb hx _ _ _⟩

/-- Numbers from lo to hi: one alone is a literal, else a letter with its bounds. -/
def grp (k : IntKind) (v : Nat) (g : Int × Int) : IExp × Asm :=
  if g.1 = g.2 then (.lit g.1, []) else (.var k v, [(.le (.var k v) (.lit g.2), true), (.le (.var k v) (.lit (g.1 - 1)), false)])
theorem grp_den {e : Env} {k : IntKind} {v : Nat} {g : Int × Int} (h1 : g.1 ≤ e.i k v) (h2 : e.i k v ≤ g.2) : (grp k v g).1.den e = e.i k v ∧ AsmOk e (grp k v g).2 := by
  unfold grp
  split
  · rename_i h
    exact ⟨by rw [litD]; omega, fun _ hp => by cases hp⟩
  · refine ⟨rfl, fun p hp => ?_⟩
    simp only [List.mem_cons, List.not_mem_nil, or_false] at hp
    rcases hp with rfl | rfl
    · simp only [BExp.den, IExp.den]; exact decide_eq_true h2
    · simp only [BExp.den, IExp.den]; exact decide_eq_false (by omega)
def covers (gs : List (Int × Int)) (lo hi : Int) : Bool := (List.range (hi - lo + 1).toNat).all fun n => gs.any fun g => decide (g.1 ≤ lo + n) && decide (lo + n ≤ g.2)
theorem covers_get {gs : List (Int × Int)} {lo hi n : Int} (h : covers gs lo hi = true) (h1 : lo ≤ n) (h2 : n ≤ hi) : ∃ g ∈ gs, g.1 ≤ n ∧ n ≤ g.2 := by
  have := List.all_eq_true.1 h (n - lo).toNat (List.mem_range.2 (by omega))
  obtain ⟨g, hg, hb⟩ := List.any_eq_true.1 this
  simp only [Bool.and_eq_true, decide_eq_true_eq] at hb
  exact ⟨g, hg, by omega, by omega⟩
theorem AsmOk.append {e : Env} {as bs : Asm} (h : AsmOk e as) (k : AsmOk e bs) : AsmOk e (as ++ bs) := fun p hp => by
  rcases List.mem_append.1 hp with hp | hp
  · exact h p hp
  · exact k p hp
theorem AsmOk.nil (e : Env) : AsmOk e [] := fun _ hp => by cases hp
theorem AsmOk.cons {e : Env} {b : BExp} {v : Bool} {as : Asm} (h : b.den e = v) (k : AsmOk e as) : AsmOk e ((b, v) :: as) := fun p hp => by
  rcases List.mem_cons.1 hp with rfl | hp
  · exact h
  · exact k p hp
end
end Go.Proofs.YtaijkkkgpgldbaaDoor.Sy
