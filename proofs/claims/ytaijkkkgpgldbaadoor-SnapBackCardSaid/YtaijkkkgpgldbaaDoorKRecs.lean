/- Slices of structs that come in: one element told, as a loop goes on. -/
import Derived.Test.YtaijkkkgpgldbaaDoorKData
namespace Go.Proofs.YtaijkkkgpgldbaaDoor.K
open Go Sy
set_option maxRecDepth 100000
set_option linter.unusedVariables false
set_option linter.unusedSimpArgs false

theorem CellIs.one {W : World} {k : Ck} {v : Value} (h : CellIs W k v) : v.oneCell' = true := by
  cases k with
  | b => simp only [CellIs] at h; obtain ⟨x, rfl⟩ := h; rfl
  | i k => simp only [CellIs] at h; obtain ⟨x, rfl, _⟩ := h; rfl
  | s => simp only [CellIs] at h; obtain ⟨x, rfl, _⟩ := h; rfl
  | rows k => simp only [CellIs] at h; obtain ⟨_, _, _, _, rfl, _⟩ := h; rfl
  | recs ks => simp only [CellIs] at h; obtain ⟨_, _, _, _, rfl, _⟩ := h; rfl
theorem CellsIs.one {W : World} : ∀ {ks : List Ck} {vs : List Value}, CellsIs W ks vs → ∀ v ∈ vs, v.oneCell' = true
  | [], _, h, v, hv => by simp only [CellsIs] at h; subst h; cases hv
  | k :: ks, _, h, v, hv => by
    simp only [CellsIs] at h
    obtain ⟨u, r, rfl, h1, h2⟩ := h
    rcases List.mem_cons.1 hv with rfl | hv
    · exact h1.one
    · exact CellsIs.one h2 v hv
theorem flatten_len {α : Type} {w : Nat} : ∀ {Z : List (List α)}, (∀ r ∈ Z, r.length = w) → Z.flatten.length = Z.length * w
  | [], _ => by simp
  | r :: Z, h => by
    rw [List.flatten_cons, List.length_append, flatten_len (fun r hr => h r (List.mem_cons_of_mem _ hr)), h r List.mem_cons_self, List.length_cons, Nat.succ_mul, Nat.add_comm]
theorem flatten_get {α : Type} {w : Nat} : ∀ {Z : List (List α)}, (∀ r ∈ Z, r.length = w) → ∀ {i : Nat} {r : List α}, Z[i]? = some r → Z.flatten = (Z.take i).flatten ++ r ++ (Z.drop (i + 1)).flatten ∧ (Z.take i).flatten.length = i * w
  | [], _, _, _, h => by simp at h
  | x :: Z, hw, 0, r, h => by
    simp only [List.getElem?_cons_zero, Option.some.injEq] at h
    subst h
    simp
  | x :: Z, hw, i + 1, r, h => by
    obtain ⟨h1, h2⟩ := flatten_get (fun r hr => hw r (List.mem_cons_of_mem _ hr)) (i := i) (r := r) (by simpa using h)
    constructor
    · rw [List.flatten_cons, h1]; simp
    · rw [List.take_succ_cons, List.flatten_cons, List.length_append, h2, hw x List.mem_cons_self, Nat.succ_mul, Nat.add_comm]
/-- The elements of a slice of structs. -/
structure RecsAt (W : World) (ks : List Ck) (b o c : Nat) (Z : List (List Value)) : Prop where
  len : Z.length = c
  top : (c : Int) ≤ lenTop
  at' : At False W b o 0 Z.flatten
  each : ∀ (i : Nat) r, Z[i]? = some r → CellsIs W ks r
theorem recs_open {W : World} {ks : List Ck} {a : Option Addr} {n c : Nat} (hk : 0 < ks.length) (h : CellsIs W [.recs ks] [.slice a n c]) :
    (c = 0 ∧ n = 0) ∨ ∃ b o Z, a = some ⟨b, o, none⟩ ∧ 0 < c ∧ n ≤ c ∧ RecsAt W ks b o c Z := by
  simp only [CellsIs, CellIs] at h
  obtain ⟨v, r, hv, ⟨a', n', c', Z, rfl, h⟩, rfl⟩ := h
  simp only [List.cons.injEq, Value.slice.injEq, and_true] at hv
  obtain ⟨rfl, rfl, rfl⟩ := hv
  rcases h with ⟨rfl, rfl, rfl, rfl⟩ | ⟨x, rfl, hn, hc, hZ, hel⟩
  · exact .inl ⟨rfl, rfl⟩
  by_cases h0 : c = 0
  · exact .inl ⟨h0, by omega⟩
  right
  have hw : ∀ r ∈ Z, r.length = ks.length := by
    intro r hr
    obtain ⟨i, hi⟩ := List.mem_iff_getElem?.1 hr
    exact (hel r i hi).2.length
  have hfl := flatten_len hw
  have hpos : 0 < Z.flatten.length := by rw [hfl, hZ]; exact Nat.mul_pos (by omega) hk
  obtain ⟨hx, hat⟩ := cells_row (W := W) (x := x) (vs := Z.flatten) (List.length_pos_iff.1 hpos) (fun q hq => by
    rw [hfl] at hq
    have hi : q / ks.length < Z.length := Nat.div_lt_of_lt_mul (by rwa [Nat.mul_comm] at hq)
    obtain ⟨h1, h2⟩ := flatten_get hw (i := q / ks.length) (r := Z[q / ks.length]) (List.getElem?_eq_getElem hi)
    have h3 := (hel _ _ (List.getElem?_eq_getElem hi)).1 (q % ks.length) (by rw [hw _ (List.getElem_mem hi)]; exact Nat.mod_lt _ hk)
    have h4 : q / ks.length * ks.length + q % ks.length = q := by rw [Nat.mul_comm]; exact Nat.div_add_mod q ks.length
    rw [h4] at h3
    rw [h3]
    congr 1
    rw [h1, List.getD_eq_getElem?_getD, List.getD_eq_getElem?_getD, List.append_assoc, List.getElem?_append_right (by rw [h2]; omega), h2,
      List.getElem?_append_left (by rw [hw _ (List.getElem_mem hi)]; have := Nat.mod_lt q hk; omega)]
    congr 2
    omega)
  refine ⟨x.block, x.off, Z, by rw [← hx], by omega, hn, hZ, ?_, ?_, fun i r hi => (hel r i hi).2⟩
  · have : lenTop = ((maxLen : Nat) : Int) := by decide
    omega
  · obtain ⟨cs, t, fz, pre, rest, h1, h2, h3, h4, h5⟩ := hat.ex
    exact ⟨cs, t, fz, pre, rest, h1, h2, h3, h4, fun _ => Nat.zero_le _⟩
theorem RecsAt.el {W : World} {ks : List Ck} {b o c : Nat} {Z : List (List Value)} (h : RecsAt W ks b o c Z) {e : Env} {ρ : Rho} {i : Nat} {r : List Value} (hi : Z[i]? = some r) {n j : IExp} {l : List Cell} (hl : CellsD e ρ l r) (hn : n.den e = c) (hj : j.den e = i) :
    SegsD e ρ [.el n ks.length j l] Z.flatten := by
  have hw : ∀ r ∈ Z, r.length = ks.length := by
    intro r hr
    obtain ⟨i, hi⟩ := List.mem_iff_getElem?.1 hr
    exact (h.each i r hi).length
  obtain ⟨h1, h2⟩ := flatten_get hw hi
  have hone : ∀ v ∈ Z.flatten, v.oneCell' = true := by
    intro v hv
    obtain ⟨r, hr, hv⟩ := List.mem_flatten.1 hv
    obtain ⟨i, hi⟩ := List.mem_iff_getElem?.1 hr
    exact CellsIs.one (h.each i r hi) v hv
  refine ⟨(Z.take i).flatten, r, (Z.drop (i + 1)).flatten, [], by rw [h1]; simp, ⟨hl, hw r (List.mem_of_getElem? hi), by omega, ?_, ?_, ?_⟩, rfl⟩
  · rw [h2, hj]; simp
  · rw [← h1, flatten_len hw, h.len, hn]; simp
  · intro v hv
    refine hone v ?_
    rw [h1]
    rcases List.mem_append.1 hv with hv | hv
    · exact List.mem_append_left _ (List.mem_append_left _ hv)
    · exact List.mem_append_right _ hv
/-- Letters from N on are given anew. -/
def over (E : Env) (N : Nat) (s : Src) : Env :=
  { i := fun k j => if j < N then E.i k j else s.env.i k (j - N), b := fun j => if j < N then E.b j else s.env.b (j - N), a := fun k j => if j < N then E.a k j else s.env.a k (j - N), fi := E.fi, fb := E.fb, fa := E.fa, v := E.v, base := E.base, h0 := E.h0, fx := E.fx }
theorem over_ok {E : Env} (ok : EnvOk E) (N : Nat) (s : Src) : EnvOk (over E N s) := by
  have h := s.ok
  refine ⟨fun k j => ?_, fun k j x hx => ?_, fun k j => ?_, ok.fi, ok.fa, ok.fal⟩
  · simp only [over]; split
    · exact ok.i _ _
    · exact h.i _ _
  · simp only [over] at hx; split at hx
    · exact ok.a _ _ _ hx
    · exact h.a _ _ _ hx
  · simp only [over]; split
    · exact ok.al _ _
    · exact h.al _ _
theorem over_agree (E : Env) (N : Nat) (s : Src) : Agree N E (over E N s) :=
  ⟨fun k j h => by simp only [over, if_pos h], fun j h => by simp only [over, if_pos h], fun k j h => by simp only [over, if_pos h], rfl, rfl, rfl, rfl, rfl, rfl, rfl⟩
theorem over_i (E : Env) (N : Nat) (s : Src) (k : IntKind) (j : Nat) : (over E N s).i k (N + j) = s.env.i k j := by
  simp only [over, if_neg (show ¬ N + j < N by omega), Nat.add_sub_cancel_left]
theorem over_b (E : Env) (N : Nat) (s : Src) (j : Nat) : (over E N s).b (N + j) = s.env.b j := by
  simp only [over, if_neg (show ¬ N + j < N by omega), Nat.add_sub_cancel_left]
theorem over_a (E : Env) (N : Nat) (s : Src) (k : IntKind) (j : Nat) : (over E N s).a k (N + j) = s.env.a k j := by
  simp only [over, if_neg (show ¬ N + j < N by omega), Nat.add_sub_cancel_left]
end Go.Proofs.YtaijkkkgpgldbaaDoor.K
