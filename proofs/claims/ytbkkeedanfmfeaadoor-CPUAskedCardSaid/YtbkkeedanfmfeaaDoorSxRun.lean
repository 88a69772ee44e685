/- A small symbolic executor for loop-free Go code: the way in: a call whose every way ends in true. -/
import Derived.Test.YtbkkeedanfmfeaaDoorSxSound
import Derived.Test.YtbkkeedanfmfeaaDoorFlat
namespace Go.Proofs.YtbkkeedanfmfeaaDoor.Sx
open Go

def clip (k : IntKind) (n : Int) : Int := if k.min ≤ n ∧ n ≤ k.max then n else 0
theorem clip_in (k : IntKind) (n : Int) : In k (clip k n) := by
  unfold clip
  split
  · assumption
  · exact zero_in k
theorem clip_of {k : IntKind} {n : Int} (h : In k n) : clip k n = n := if_pos h
theorem clip_map {k : IntKind} {l : List Int} (h : ∀ x ∈ l, In k x) : l.map (clip k) = l := by
  induction l with
  | nil => rfl
  | cons x l ih => rw [List.map_cons, clip_of (h x List.mem_cons_self), ih fun y hy => h y (List.mem_cons_of_mem _ hy)]

/-- Where the letters' values come from. -/
structure Src where
  i : IntKind → List Int
  b : List Bool
  a : IntKind → Nat → List Int
  fi : IntKind → Nat → Int → Int → Int → Bool → Int
  fb : Nat → Int → Int → Int → Bool → Bool
def Src.env (s : Src) : Env :=
  { i := fun k j => clip k ((s.i k).getD j 0), b := fun j => s.b.getD j false, a := fun k j => (s.a k j).map (clip k), fi := fun k f x y z b => clip k (s.fi k f x y z b), fb := s.fb }
theorem Src.ok (s : Src) : EnvOk s.env := by
  refine ⟨fun k j => clip_in _ _, fun k j x hx => ?_, fun k f x y z b => clip_in _ _⟩
  obtain ⟨y, _, rfl⟩ := List.mem_map.1 hx
  exact clip_in _ _

theorem TabOk.none (P : Program) (e : Env) : TabOk P (fun _ _ _ => none) e := fun _ _ _ _ h => by cases h

def isT (q : SVal × St) : Bool :=
  match q.1 with
  | .v (.c (.b (.lit b))) => b
  | .v (.c (.b x)) => match decideB q.2.as x with
    | some b => b
    | none => false
  | _ => false
theorem isT_D {e : Env} (ok : EnvOk e) {ρ : List Nat} {v : SVal} {st : St} {V : Value} (ha : AsmOk e st.as) (h : isT (v, st) = true) (hD : v.D e ρ V) : V = .bool true := by
  unfold isT at h
  split at h
  · rename_i b hv
    simp only at hv
    subst hv h
    exact hD
  · rename_i x _ hv
    simp only at hv
    subst hv
    split at h
    · rename_i b hb
      subst h
      have := decideB_ok ok ha hb
      have hD : V = .bool (x.den e) := hD
      rw [hD, this]
    · cases h
  · cases h

/-- A call over the global blocks alone, whatever it gives. -/
theorem run_call {P : Program} {plan : Plan} {tab : Tab} {e : Env} (ok : EnvOk e) (hmix : P.follows .mixedOrders = true) (hplan : planB P P.funcs.toList plan = true) (htab : TabOk P tab e) {n G f : Nat} {args : List SVal}
    {vs : List Value} {as : Asm} {h0 : SHeap} {W : World} {Z : SVal × St → Prop} (hargs : SValsD e (List.range G) args vs) (has : AsmOk e as) (hr : HRel e (List.range G) h0 W)
    (hall : (xCall P G plan tab n G f args ⟨h0, as⟩).holds e Z) :
    Calls P f vs.toArray W fun en W' => ∃ v st' ρ' V, Z (v, st') ∧ en = .returned V ∧ v.D e ρ' V ∧ AsmOk e st'.as ∧ RowKit.Below W.heap.size W W' := by
  have hg : Glob G (List.range G) := fun g hg => by rw [List.getElem?_range hg]
  refine (sound ok hmix hplan htab n).2.2.2.2 G f args ⟨h0, as⟩ _ hall (List.range G) vs W _ hargs has hr hg fun v st' hz ρ' V W' hp hV has' => ?_
  refine ⟨v, st', ρ', V, hz, rfl, hV, has', ⟨hp.fr.os, hp.fr.tape, hp.fr.output, hp.fr.size, fun k hk => hp.fr.same k hk (by rw [List.drop_eq_nil_of_le (by simp)]; simp)⟩⟩

theorem run_true {P : Program} {plan : Plan} {tab : Tab} {e : Env} (ok : EnvOk e) (hmix : P.follows .mixedOrders = true) (hplan : planB P P.funcs.toList plan = true) (htab : TabOk P tab e) {n G f : Nat} {args : List SVal}
    {vs : List Value} {as : Asm} {h0 : SHeap} {W : World} (hargs : SValsD e (List.range G) args vs) (has : AsmOk e as) (hr : HRel e (List.range G) h0 W)
    (hall : (xCall P G plan tab n G f args ⟨h0, as⟩).all isT = true) :
    Calls P f vs.toArray W fun en W' => en = .returned (.bool true) ∧ RowKit.Below W.heap.size W W' := by
  refine (run_call ok hmix hplan htab hargs has hr (WT.all_holds hall)).mono ?_
  rintro en W' ⟨v, st', ρ', V, hz, rfl, hV, ha, hb⟩
  exact ⟨by rw [isT_D ok ha hz hV], hb⟩

/-- No block is known. -/
theorem HRel.none (e : Env) (W : World) : HRel e (List.range 0) [] W := ⟨rfl, List.nodup_nil, (fun _ h => by cases h), (fun _ _ _ h => by cases h)⟩

/-- Numbers from lo to hi: one alone is a literal, else a letter with its bounds. -/
def grp (k : IntKind) (v : Nat) (g : Int × Int) : IExp × Asm :=
  if g.1 = g.2 then (.lit g.1, []) else (.var k v, [(.le (.var k v) (.lit g.2), true), (.le (.var k v) (.lit (g.1 - 1)), false)])
theorem grp_den {e : Env} {k : IntKind} {v : Nat} {g : Int × Int} (h1 : g.1 ≤ e.i k v) (h2 : e.i k v ≤ g.2) : (grp k v g).1.den e = e.i k v ∧ AsmOk e (grp k v g).2 := by
  unfold grp
  split
  · rename_i h
    exact ⟨by rw [litD]; omega, fun _ hp => by cases hp⟩
  · refine ⟨rfl, fun p hp => ?_⟩
    simp only [List.mem_cons, List.not_mem_nil, or_false] at hp
    rcases hp with rfl | rfl
    · simp only [BExp.den, IExp.den]; exact decide_eq_true h2
    · simp only [BExp.den, IExp.den]; exact decide_eq_false (by omega)
def covers (gs : List (Int × Int)) (lo hi : Int) : Bool := (List.range (hi - lo + 1).toNat).all fun n => gs.any fun g => decide (g.1 ≤ lo + n) && decide (lo + n ≤ g.2)
theorem covers_get {gs : List (Int × Int)} {lo hi n : Int} (h : covers gs lo hi = true) (h1 : lo ≤ n) (h2 : n ≤ hi) : ∃ g ∈ gs, g.1 ≤ n ∧ n ≤ g.2 := by
  have := List.all_eq_true.1 h (n - lo).toNat (List.mem_range.2 (by omega))
  obtain ⟨g, hg, hb⟩ := List.any_eq_true.1 this
  simp only [Bool.and_eq_true, decide_eq_true_eq] at hb
  exact ⟨g, hg, by omega, by omega⟩
theorem AsmOk.append {e : Env} {as bs : Asm} (h : AsmOk e as) (k : AsmOk e bs) : AsmOk e (as ++ bs) := fun p hp => by
  rcases List.mem_append.1 hp with hp | hp
  · exact h p hp
  · exact k p hp
theorem AsmOk.nil (e : Env) : AsmOk e [] := fun _ hp => by cases hp
theorem AsmOk.cons {e : Env} {b : BExp} {v : Bool} {as : Asm} (h : b.den e = v) (k : AsmOk e as) : AsmOk e ((b, v) :: as) := fun p hp => by
  rcases List.mem_cons.1 hp with rfl | hp
  · exact h
  · exact k p hp
end Go.Proofs.YtbkkeedanfmfeaaDoor.Sx
