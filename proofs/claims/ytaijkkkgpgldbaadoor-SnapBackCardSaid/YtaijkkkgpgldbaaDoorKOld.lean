/- What stood in the old world stands there still. -/
import Derived.Test.YtaijkkkgpgldbaaDoorKMore
namespace Go.Proofs.YtaijkkkgpgldbaaDoor.K
open Go Sy
set_option maxRecDepth 100000
set_option linter.unusedVariables false
set_option linter.unusedSimpArgs false
/-- The blocks of W stand in W'. -/
def Still (W W' : World) : Prop := ∀ k, k < W.heap.size → W'.heap[k]? = W.heap[k]?
theorem Still.refl (W : World) : Still W W := fun _ _ => rfl
theorem Still.of_below {W W' : World} (h : RowKit.Below W.heap.size W W') : Still W W' := fun k hk => h.block k hk
theorem Still.cell {W W' : World} (h : Still W W') {x : Addr} {v : Value} (hc : W.cell? x = some v) : W'.cell? x = some v := by
  obtain ⟨b, o, s⟩ := x
  have hb : b < W.heap.size := by
    rcases Nat.lt_or_ge b W.heap.size with h1 | h1
    · exact h1
    · simp only [World.cell?] at hc
      rw [Array.getElem?_eq_none h1] at hc
      cases hc
  simp only [World.cell?] at hc ⊢
  rw [h b hb]
  exact hc
theorem Still.row {W W' : World} (h : Still W W') {k : IntKind} {a : Option Addr} {n c : Nat} {z : List Int} (hz : IsRow k W a n c z) : IsRow k W' a n c z := by
  rcases hz with hz | ⟨x, h1, h2, h3, h4, h5, h6⟩
  · exact .inl hz
  · exact .inr ⟨x, h1, h2, h3, h4, fun i hi => h.cell (h5 i hi), h6⟩
mutual
theorem Still.cellIs {W W' : World} (h : Still W W') : ∀ (k : Ck) (v : Value), CellIs W k v → CellIs W' k v
  | .b, v, hv => by simp only [CellIs] at hv ⊢; exact hv
  | .i k, v, hv => by simp only [CellIs] at hv ⊢; exact hv
  | .s, v, hv => by simp only [CellIs] at hv ⊢; exact hv
  | .rows k, v, hv => by
    simp only [CellIs] at hv ⊢
    obtain ⟨a, n, c, z, h1, h2⟩ := hv
    exact ⟨a, n, c, z, h1, h.row h2⟩
  | .recs ks, v, hv => by
    simp only [CellIs] at hv ⊢
    obtain ⟨a, n, c, Z, h1, h2⟩ := hv
    refine ⟨a, n, c, Z, h1, ?_⟩
    rcases h2 with h2 | ⟨x, g1, g2, g3, g4, g5⟩
    · exact .inl h2
    · exact .inr ⟨x, g1, g2, g3, g4, fun r i hr => ⟨fun j hj => h.cell ((g5 r i hr).1 j hj), Still.cellsIs h ks r (g5 r i hr).2⟩⟩
theorem Still.cellsIs {W W' : World} (h : Still W W') : ∀ (ks : List Ck) (vs : List Value), CellsIs W ks vs → CellsIs W' ks vs
  | [], vs, hv => by simp only [CellsIs] at hv ⊢; exact hv
  | k :: ks, vs, hv => by
    simp only [CellsIs] at hv ⊢
    obtain ⟨v, r, h1, h2, h3⟩ := hv
    exact ⟨v, r, h1, Still.cellIs h k v h2, Still.cellsIs h ks r h3⟩
end
theorem Still.at' {W W' : World} (h : Still W W') {w : Prop} {b o r : Nat} {vs : List Value} (ha : At w W b o r vs) : At w W' b o r vs := ha.same (h b ha.lt)
theorem Still.recs {W W' : World} (h : Still W W') {ks : List Ck} {b o c : Nat} {Z : List (List Value)} (hz : RecsAt W ks b o c Z) : RecsAt W' ks b o c Z :=
  ⟨hz.len, hz.top, h.at' hz.at', fun i r hr => h.cellsIs ks r (hz.each i r hr)⟩
/-- A world that the reading knows. -/
theorem Still.of_old {e : Env} {ov : Nat} {ρ : Rho} {W0 W : World} (h : Old e ov ρ W) (hb : e.base = W0.heap.size) (hh : e.h0 = fun k => W0.heap[k]?) : Still W0 W := fun k hk => by
  rw [h.same k (by omega), hh]
/-- A slice of structs, or none. -/
def SlRecs (W : World) (ks : List Ck) (p : Option Addr) (n c : Nat) (b o : Nat) (Z : List (List Value)) : Prop :=
  n ≤ c ∧ (c : Int) ≤ lenTop ∧ ((c = 0 ∧ Z = []) ∨ (0 < c ∧ p = some ⟨b, o, none⟩ ∧ RecsAt W ks b o c Z))
theorem slRecs_of {W : World} {ks : List Ck} (hk : 0 < ks.length) {a : Option Addr} {n c : Nat} (h : CellsIs W [.recs ks] [.slice a n c]) : ∃ b o Z, SlRecs W ks a n c b o Z := by
  rcases recs_open hk h with ⟨h1, h2⟩ | ⟨b, o, Z, h1, h2, h3, h4⟩
  · exact ⟨0, 0, [], by omega, by rw [h1]; decide, .inl ⟨h1, rfl⟩⟩
  · exact ⟨b, o, Z, h3, h4.top, .inr ⟨h2, h1, h4⟩⟩
theorem SlRecs.still {W W' : World} (h : Still W W') {ks : List Ck} {p : Option Addr} {n c b o : Nat} {Z : List (List Value)} (hz : SlRecs W ks p n c b o Z) : SlRecs W' ks p n c b o Z := by
  obtain ⟨h1, h2, h3⟩ := hz
  refine ⟨h1, h2, ?_⟩
  rcases h3 with h3 | ⟨g1, g2, g3⟩
  · exact .inl h3
  · exact .inr ⟨g1, g2, h.recs g3⟩
theorem SlRecs.len {W : World} {ks : List Ck} {p : Option Addr} {n c b o : Nat} {Z : List (List Value)} (hz : SlRecs W ks p n c b o Z) : Z.length = c := by
  rcases hz.2.2 with ⟨h1, h2⟩ | ⟨_, _, h3⟩
  · rw [h2, h1]; rfl
  · exact h3.len
theorem SlRecs.get {W : World} {ks : List Ck} {p : Option Addr} {n c b o : Nat} {Z : List (List Value)} (hz : SlRecs W ks p n c b o Z) {i : Nat} (hi : i < n) : ∃ r, Z[i]? = some r ∧ CellsIs W ks r ∧ RecsAt W ks b o c Z := by
  have hl := hz.len
  have hn := hz.1
  rcases hz.2.2 with ⟨h1, _⟩ | ⟨_, _, h3⟩
  · omega
  · exact ⟨_, List.getElem?_eq_getElem (by omega), h3.each i _ (List.getElem?_eq_getElem (by omega)), h3⟩
/-- As a cell: its length and its capacity by numbers. -/
theorem SlRecs.cell {W : World} {ks : List Ck} {p : Option Addr} {n c b o : Nat} {Z : List (List Value)} (hz : SlRecs W ks p n c b o Z) {e : Env} {ρ : Rho} {i r : Nat} {x y : IExp} (hρ : ρ[i]? = some (b, o, r)) (hx : x.den e = n) (hy : y.den e = c) : (Cell.sl (some ⟨i, 0, none⟩) x (some y)).D e ρ (.slice p n c) := by
  rcases hz.2.2 with ⟨h1, _⟩ | ⟨h1, h2, _⟩
  · have hn := hz.1
    refine ⟨_, n, c, rfl, hx.symm, hn, .inr ⟨by omega, h1, fun q hq => ?_⟩⟩
    cases hq
    rw [hy, h1]; rfl
  · rw [h2]
    exact slice_D hρ hx hy hz.1
theorem SlRecs.val {W W' : World} {ks : List Ck} {p : Option Addr} {n c b o : Nat} {Z : List (List Value)} (hz : SlRecs W ks p n c b o Z) (hst : Still W W') {e : Env} {ρ : Rho} {i r : Nat} {x y : IExp} {V : Value} (hρ : ρ[i]? = some (b, o, r)) (hx : x.den e = n) (hy : y.den e = c) (hD : (SVal.v (.c (.sl (some ⟨i, 0, none⟩) x (some y)))).D e ρ V) :
    ∃ p', V = .slice p' n c ∧ SlRecs W' ks p' n c b o Z := by
  obtain ⟨o', n', c', rfl, h1, h2, h3⟩ := hD
  have hn : n' = n := by omega
  subst hn
  have hz' := hz.still hst
  obtain ⟨g1, g2, g3⟩ := hz'
  rcases h3 with ⟨A, hA, rfl, hcap⟩ | ⟨h4, h5, h6⟩
  · have hcap : (c' : Int) = y.den e := hcap
    have hc : c' = c := by omega
    subst hc
    obtain ⟨hA', _⟩ := Ad.at' hA hρ
    have hA' : A = ⟨b, o, none⟩ := hA'
    refine ⟨_, rfl, g1, g2, ?_⟩
    rcases g3 with g3 | ⟨q1, _, q3⟩
    · exact .inl g3
    · exact .inr ⟨q1, by rw [hA'], q3⟩
  · have := h6 _ rfl
    have hc : c = 0 := by omega
    refine ⟨o', by rw [hc, h5], g1, g2, ?_⟩
    rcases g3 with g3 | ⟨q1, _, _⟩
    · exact .inl g3
    · omega
/-- A slice of numbers as a cell. -/
theorem row_cell {k : IntKind} {W : World} {p : Option Addr} {n c b o : Nat} {z : List Int} (hz : IsRow k W p n c z) (hp : 0 < c → p = some ⟨b, o, none⟩) {e : Env} {ρ : Rho} {i r : Nat} {x y : IExp} (hρ : ρ[i]? = some (b, o, r)) (hx : x.den e = n) (hy : y.den e = c) : (Cell.sl (some ⟨i, 0, none⟩) x (some y)).D e ρ (.slice p n c) := by
  have hnc : n ≤ c := by
    rcases isRow_cases hz with ⟨h1, h2, _⟩ | ⟨_, _, _, _, h, _⟩
    · omega
    · exact h
  rcases Nat.eq_zero_or_pos c with h0 | h0
  · refine ⟨_, n, c, rfl, hx.symm, hnc, .inr ⟨by omega, h0, fun q hq => ?_⟩⟩
    cases hq
    rw [hy, h0]; rfl
  · rw [hp h0]
    exact slice_D hρ hx hy hnc
/-- A reading that knows the world. -/
def Src.know (s : Src) (W : World) (ρ : Rho) : Src := { s with base := W.heap.size, h0 := fun k => W.heap[k]?, fx := ρ }
theorem know_knows (s : Src) (W : World) (ρ : Rho) : Knows (Src.know s W ρ).env W ρ := Knows.full rfl rfl rfl
theorem patAt_mem' {ps : Pats} {q : Key} {p : Pat} (h : patAt ps q = some p) : (q, p) ∈ ps := by
  induction ps with
  | nil => cases h
  | cons x r ih =>
    obtain ⟨y, z⟩ := x
    simp only [patAt] at h
    by_cases hq : y = q
    · subst hq
      rw [show decide (y = y) = true from decide_eq_true rfl, cond_true] at h
      cases h
      exact List.mem_cons_self
    · rw [show decide (y = q) = false from decide_eq_false hq] at h
      exact List.mem_cons_of_mem _ (ih h)
end Go.Proofs.YtaijkkkgpgldbaaDoor.K
