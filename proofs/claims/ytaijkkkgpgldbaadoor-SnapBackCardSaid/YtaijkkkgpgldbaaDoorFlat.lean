/- Opening a struct argument whose cells are all integers, bools and strings: each cell is a plain value within its kind's bounds. No condition. -/
import Derived.WalkKit
import Derived.ProofKit
import Derived.OpenShut
import Derived.ChangeOld
import Derived.Below
import Derived.KernelRfl
namespace Go.Proofs.YtaijkkkgpgldbaaDoor.Flat

/-- What a plain cell holds, by its type. -/
inductive Fk where
  | b | i (k : IntKind) | s

def Fk.Ok : Fk → Value → Prop
  | .b, v => ∃ x : Bool, v = .bool x
  | .i k, v => ∃ n : Int, v = .int k n ∧ k.min ≤ n ∧ n ≤ k.max
  | .s, v => ∃ x : ByteArray, v = .string x ∧ (x.size : Int) ≤ IntKind.i64.max

def fkOf (P : Program) (t : TypeId) : Option Fk :=
  match P.underlying t with
  | some .bool => some .b
  | some (.int k) => some (.i k)
  | some .string => some .s
  | _ => none

theorem cell_ok {P : Program} {w : World} {r : Reach} {base : Nat} {t : TypeId} {v : Value} {f : Fk} (hf : fkOf P t = some f) (h : Cell.okWide P w r base t v) : f.Ok v := by
  unfold fkOf at hf
  unfold Cell.okWide at h
  split at hf
  · rename_i hu; cases hf
    rw [hu] at h
    unfold Cell.ok at h; rw [hu] at h
    cases v <;> simp at h
    exact ⟨_, rfl⟩
  · rename_i k hu; cases hf
    rw [hu] at h
    unfold Cell.ok at h; rw [hu] at h
    cases v <;> simp at h
    obtain ⟨rfl, h⟩ := h
    exact ⟨_, rfl, h.1, h.2⟩
  · rename_i hu; cases hf
    rw [hu] at h
    unfold Cell.ok at h; rw [hu] at h
    cases v <;> simp at h
    exact ⟨_, rfl, h⟩
  · cases hf

/-- All cells in a row. -/
def AllOk : List Fk → List Value → Prop
  | [], [] => True
  | f :: fs, v :: vs => f.Ok v ∧ AllOk fs vs
  | _, _ => False

theorem allOk_of {P : Program} {w : World} {r : Reach} {base : Nat} : ∀ (fs : List Fk) (ts : List TypeId) (cs : List Value), ts.map (fkOf P) = fs.map some → cs.length = ts.length →
    (∀ (i : Nat) (v : Value), cs[i]? = some v → ∃ u : TypeId, ts[i]? = some u ∧ Cell.okWide P w r base u v) → AllOk fs cs
  | [], [], [], _, _, _ => trivial
  | [], _ :: _, _, h, _, _ => by simp at h
  | _ :: _, [], _, h, _, _ => by simp at h
  | [], [], _ :: _, _, h, _ => by simp at h
  | _ :: _, _ :: _, [], _, h, _ => by simp at h
  | f :: fs, t :: ts, c :: cs, h, hl, hc => by
    simp only [List.map_cons, List.cons.injEq] at h
    refine ⟨?_, allOk_of (w := w) (r := r) (base := base) fs ts cs h.2 (by simpa using hl) fun i v hv => ?_⟩
    · obtain ⟨u, hu, hk⟩ := hc 0 c rfl
      simp only [List.getElem?_cons_zero, Option.some.injEq] at hu
      subst hu
      exact cell_ok h.1 hk
    · obtain ⟨u, hu, hk⟩ := hc (i + 1) v (by simpa using hv)
      exact ⟨u, by simpa using hu, hk⟩

theorem open_flat {P : Program} {w : World} {r : Reach} {base : Nat} {t : TypeId} {v : Value} (fl : Array Field) (ts : List TypeId) (fs : List Fk) (ht : P.underlying t = some (.struct fl))
    (hts : P.cellTypes P.depth t = some ts) (hn : P.cellsOf t = ts.length) (hk : ts.map (fkOf P) = fs.map some) (h : Value.okWide P w r base t v) :
    ∃ cs : List Value, v = .agg cs.toArray ∧ AllOk fs cs := by
  unfold Value.okWide at h
  rw [ht] at h
  obtain ⟨cs, rfl, hsz, ts', hts', -, hcells⟩ := h
  rw [hts] at hts'
  cases hts'
  obtain ⟨cs⟩ := cs
  refine ⟨cs, rfl, allOk_of (w := w) (r := r) (base := base) fs ts cs hk (by simpa [hn] using hsz) fun i x hx => ?_⟩
  obtain ⟨u, hu, hc⟩ := hcells i x (by simpa using hx)
  have hi : i < ts.length := by
    have : i < cs.length := (List.getElem?_eq_some_iff.mp hx).1
    have h2 : cs.length = P.cellsOf t := by simpa using hsz
    omega
  rw [Nat.mod_eq_of_lt hi] at hu
  exact ⟨u, hu, hc⟩

theorem allOk_nil {cs : List Value} (h : AllOk [] cs) : cs = [] := by cases cs <;> simp_all [AllOk]
theorem allOk_b {fs : List Fk} {cs : List Value} (h : AllOk (.b :: fs) cs) : ∃ (x : Bool) (cs' : List Value), cs = .bool x :: cs' ∧ AllOk fs cs' := by
  cases cs with
  | nil => exact h.elim
  | cons c cs => obtain ⟨⟨x, rfl⟩, h⟩ := h; exact ⟨x, cs, rfl, h⟩
theorem allOk_i {k : IntKind} {fs : List Fk} {cs : List Value} (h : AllOk (.i k :: fs) cs) : ∃ (n : Int) (cs' : List Value), cs = .int k n :: cs' ∧ (k.min ≤ n ∧ n ≤ k.max) ∧ AllOk fs cs' := by
  cases cs with
  | nil => exact h.elim
  | cons c cs => obtain ⟨⟨x, rfl, hb⟩, h⟩ := h; exact ⟨x, cs, rfl, hb, h⟩
theorem allOk_s {fs : List Fk} {cs : List Value} (h : AllOk (.s :: fs) cs) : ∃ (x : ByteArray) (cs' : List Value), cs = .string x :: cs' ∧ (x.size : Int) ≤ IntKind.i64.max ∧ AllOk fs cs' := by
  cases cs with
  | nil => exact h.elim
  | cons c cs => obtain ⟨⟨x, rfl, hb⟩, h⟩ := h; exact ⟨x, cs, rfl, hb, h⟩
end Go.Proofs.YtaijkkkgpgldbaaDoor.Flat
