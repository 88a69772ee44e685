/- Structs that come in; rows that are read. -/
import Derived.Test.YtaijkkkgpgldbaaDoorKRecs
namespace Go.Proofs.YtaijkkkgpgldbaaDoor.K
open Go Sy
set_option maxRecDepth 100000
set_option linter.unusedVariables false
set_option linter.unusedSimpArgs false
theorem open_struct {P : Program} {w : World} {r : Reach} {base : Nat} {t : TypeId} {v : Value} {fl : Array Field} (ht : P.underlying t = some (.struct fl)) (h : Value.okWide P w r base t v) : ∃ cs : List Value, v = .agg cs.toArray := by
  unfold Value.okWide at h
  rw [ht] at h
  obtain ⟨cs, rfl, _⟩ := h
  exact ⟨cs.toList, rfl⟩
theorem at_cells {W : World} {w : Prop} {b o r : Nat} {vs : List Value} (h : At w W b o r vs) {i : Nat} (hi : i < vs.length) : W.cell? ((⟨b, o, none⟩ : Addr).add i) = some (vs.getD i undef) := by
  obtain ⟨cs, t, fz, pre, rest, h1, _, h3, h4, _⟩ := h.ex
  rw [Addr.add_lit, cell_block h1, ← Array.getElem?_toList, h3, List.append_assoc, List.getElem?_append_right (by omega), List.getElem?_append_left (by omega), List.getD_eq_getElem?_getD]
  rw [show o + i - pre.length = i by omega, List.getElem?_eq_getElem hi]; rfl
theorem isRow_of {W : World} {w : Prop} {b o r n c : Nat} {k : IntKind} {z : List Int} (h : At w W b o r (z.map (.int k))) (hz : z.length = c) (hn : n ≤ c) (hc : (c : Int) ≤ lenTop) (hin : ∀ x ∈ z, In k x) : IsRow k W (some ⟨b, o, none⟩) n c z := by
  refine .inr ⟨_, rfl, hn, ?_, hz, fun i hi => ?_, fun m hm => ?_⟩
  · have : lenTop = ((maxLen : Nat) : Int) := by decide
    omega
  · rw [at_cells h (by simpa using hi)]
    simp [List.getD_eq_getElem?_getD, List.getElem?_map, List.getElem?_eq_getElem hi]
  · rw [Lit.wf_int_iff]; exact hin m hm
theorem isRow_none {W : World} {k : IntKind} {p : Option Addr} : IsRow k W p 0 0 [] := by
  cases p with
  | none => exact .inl ⟨rfl, rfl, rfl, rfl⟩
  | some x => exact .inr ⟨x, rfl, Nat.le_refl _, Nat.zero_le _, rfl, fun i hi => by simp at hi, fun m hm => by cases hm⟩
end Go.Proofs.YtaijkkkgpgldbaaDoor.K
