/- What an argument that can be read as data looks like in the memory: numbers, texts, slices of them and of structs of such. -/
import Derived.Test.YtaijkkkgpgldbaaDoorKRow
import Derived.OpenShut
namespace Go.Proofs.YtaijkkkgpgldbaaDoor.K
open Go Sy
set_option maxRecDepth 100000
set_option linter.unusedVariables false
set_option linter.unusedSimpArgs false

inductive Ck where
  | b
  | i (k : IntKind)
  | s
  | rows (k : IntKind)
  | recs (ks : List Ck)
mutual
def CellIs (W : World) : Ck → Value → Prop
  | .b, v => ∃ x : Bool, v = .bool x
  | .i k, v => ∃ n : Int, v = .int k n ∧ In k n
  | .s, v => ∃ x : ByteArray, v = .string x ∧ x.size ≤ maxLen
  | .rows k, v => ∃ a n c z, v = .slice a n c ∧ IsRow k W a n c z
  | .recs ks, v => ∃ (a : Option Addr) (n c : Nat) (Z : List (List Value)), v = .slice a n c ∧
      ((a = none ∧ n = 0 ∧ c = 0 ∧ Z = []) ∨ ∃ x, a = some x ∧ n ≤ c ∧ c ≤ maxLen ∧ Z.length = c ∧ ∀ r (i : Nat), Z[i]? = some r → (∀ j, j < r.length → W.cell? (x.add (i * ks.length + j)) = some (r.getD j undef)) ∧ CellsIs W ks r)
def CellsIs (W : World) : List Ck → List Value → Prop
  | [], vs => vs = []
  | k :: ks, vs => ∃ v r, vs = v :: r ∧ CellIs W k v ∧ CellsIs W ks r
end
theorem CellsIs.length {W : World} : ∀ {ks : List Ck} {vs : List Value}, CellsIs W ks vs → vs.length = ks.length
  | [], _, h => by simp only [CellsIs] at h; simp [h]
  | k :: ks, _, h => by
    simp only [CellsIs] at h
    obtain ⟨v, r, rfl, _, h2⟩ := h
    simp [CellsIs.length h2]
theorem CellsIs.append {W : World} : ∀ {ks ks' : List Ck} {vs vs' : List Value}, CellsIs W ks vs → CellsIs W ks' vs' → CellsIs W (ks ++ ks') (vs ++ vs')
  | [], _, _, _, h, h' => by simp only [CellsIs] at h; subst h; exact h'
  | k :: ks, _, _, _, h, h' => by
    simp only [CellsIs] at h
    obtain ⟨v, r, rfl, h1, h2⟩ := h
    show CellsIs W (k :: (ks ++ _)) _
    simp only [CellsIs]
    exact ⟨v, r ++ _, rfl, h1, CellsIs.append h2 h'⟩

/-- A type's cells, told so. -/
def fieldsCk (P : Program) (g : TypeId → Option (List Ck)) : List Field → Nat → Option (List Ck)
  | [], _ => some []
  | f :: fs, off => match g f.type with
    | some ks => if f.offset = off ∧ P.cellsOf f.type = ks.length then (fieldsCk P g fs (off + ks.length)).map (ks ++ ·) else none
    | none => none
def repl (ks : List Ck) : Nat → List Ck
  | 0 => []
  | n + 1 => ks ++ repl ks n
theorem repl_len (ks : List Ck) : ∀ n, (repl ks n).length = n * ks.length
  | 0 => by simp [repl]
  | n + 1 => by simp [repl, repl_len ks n, Nat.succ_mul, Nat.add_comm]
def ckOf (P : Program) : Nat → TypeId → Option (List Ck)
  | 0, _ => none
  | d + 1, t => match P.underlying t with
    | some .bool => some [.b]
    | some (.int k) => some [.i k]
    | some .string => some [.s]
    | some (.slice e) => (match ckOf P d e with
      | some ks => if P.cellsOf e = ks.length ∧ 0 < ks.length then (match P.underlying e, ks with
        | some (.int k), [.i _] => some [.rows k]
        | _, ks => some [.recs ks]) else none
      | none => none)
    | some (.struct fs) => (match fieldsCk P (ckOf P d) fs.toList 0 with
      | some ks => if P.cellsOf t = ks.length then some ks else none
      | none => none)
    | some (.array n e) => (match ckOf P d e with
      | some ks => if P.cellsOf e = ks.length ∧ P.cellsOf t = n * ks.length then some (repl ks n) else none
      | none => none)
    | _ => none

def firstInt : List Value → Int
  | [.int _ n] => n
  | _ => 0
section
variable {H : Type} {enc : TypeId × Value → H} {P : Program} {W : World} {held : Bool}
theorem mapM_get {α β : Type} {f : α → Option β} : ∀ {l : List α} {r : List β}, l.mapM f = some r → ∀ {i : Nat} {x : α}, l[i]? = some x → ∃ y, r[i]? = some y ∧ f x = some y
  | [], _, _, _, _, hx => by simp at hx
  | a :: l, r, h, i, x, hx => by
    rw [List.mapM_cons] at h
    obtain ⟨y, hy, h⟩ := Option.bind_eq_some_iff.1 h
    obtain ⟨r', hr', h⟩ := Option.bind_eq_some_iff.1 h
    cases h
    cases i with
    | zero => simp at hx; subst hx; exact ⟨y, rfl, hy⟩
    | succ i => exact mapM_get hr' (by simpa using hx)
theorem fields_is {d fuel : Nat} (ih : ∀ (t : TypeId) (ks : List Ck) (cs : List Value) x, ckOf P d t = some ks → DataW.trod enc P W 0 (fun _ => true) held fuel t cs = some x → CellsIs W ks cs) (cs : List Value) :
    ∀ (fs : List Field) (off : Nat) (ks : List Ck), fieldsCk P (ckOf P d) fs off = some ks → (∀ f ∈ fs, ∃ x, DataW.trod enc P W 0 (fun _ => true) held fuel f.type ((cs.drop f.offset).take (P.cellsOf f.type)) = some x) → CellsIs W ks ((cs.drop off).take ks.length)
  | [], off, ks, h, _ => by
    simp only [fieldsCk, Option.some.injEq] at h
    subst h
    simp [CellsIs]
  | f :: fs, off, ks, h, hx => by
    simp only [fieldsCk] at h
    split at h
    · rename_i k1 hk1
      split at h
      · rename_i hc
        obtain ⟨ho, hl⟩ := hc
        obtain ⟨k2, hk2, rfl⟩ := Option.map_eq_some_iff.1 h
        obtain ⟨x, hx1⟩ := hx f List.mem_cons_self
        have h1 := ih f.type k1 _ x hk1 hx1
        have h2 := fields_is ih cs fs (off + k1.length) k2 hk2 fun g hg => hx g (List.mem_cons_of_mem _ hg)
        rw [ho, hl] at h1
        have hlen := h1.length
        have e1 : (cs.drop off).take (k1 ++ k2).length = (cs.drop off).take k1.length ++ (cs.drop (off + k1.length)).take k2.length := by
          rw [List.length_append, List.take_add, List.drop_drop]
        rw [e1]
        exact h1.append h2
      · cases h
    · cases h
theorem mapM_len {α β : Type} {f : α → Option β} : ∀ {l : List α} {r : List β}, l.mapM f = some r → r.length = l.length
  | [], _, h => by simp at h; simp [h]
  | a :: l, r, h => by
    rw [List.mapM_cons] at h
    obtain ⟨y, hy, h⟩ := Option.bind_eq_some_iff.1 h
    obtain ⟨r', hr', h⟩ := Option.bind_eq_some_iff.1 h
    cases h
    simp [mapM_len hr']
theorem cells_get {a : Addr} {n : Nat} {cs : List Value} (h : W.cells? 0 a n = some cs) : cs.length = n ∧ ∀ j, j < cs.length → W.cell? (a.add j) = some (cs.getD j undef) := by
  unfold World.cells? at h
  rw [if_pos (Nat.zero_le _)] at h
  have hl := mapM_len h
  rw [List.length_range] at hl
  refine ⟨hl, fun j hj => ?_⟩
  obtain ⟨y, hy, h2⟩ := mapM_get h (i := j) (x := j) (by rw [List.getElem?_range (by omega)])
  rw [h2, List.getD_eq_getElem?_getD, hy]; rfl
theorem addr_add_add (a : Addr) (i j : Nat) : (a.add i).add j = a.add (i + j) := by
  unfold Addr.add
  by_cases hj : j = 0
  · subst hj; simp
  · by_cases hi : i = 0
    · subst hi; simp [hj]
    · simp [hi, hj, Nat.add_assoc]
theorem repl_is {k1 : List Ck} : ∀ (m : Nat) (cs : List Value), cs.length = m * k1.length → (∀ i, i < m → CellsIs W k1 ((cs.drop (i * k1.length)).take k1.length)) → CellsIs W (repl k1 m) cs
  | 0, cs, hl, _ => by
    have : cs = [] := List.length_eq_zero_iff.1 (by simpa using hl)
    subst this
    simp [repl, CellsIs]
  | m + 1, cs, hl, h => by
    have h0 := h 0 (by omega)
    rw [Nat.zero_mul, List.drop_zero] at h0
    have hr := repl_is (k1 := k1) m (cs.drop k1.length) (by rw [List.length_drop, hl, Nat.succ_mul]; omega) fun i hi => by
      have := h (i + 1) (by omega)
      rw [List.drop_drop]
      rwa [Nat.succ_mul, Nat.add_comm] at this
    have := h0.append hr
    rwa [List.take_append_drop] at this
theorem ck_is : ∀ (d fuel : Nat) (t : TypeId) (ks : List Ck) (cs : List Value) x, ckOf P d t = some ks → DataW.trod enc P W 0 (fun _ => true) held fuel t cs = some x → CellsIs W ks cs
  | 0, _, _, _, _, _, h, _ => by cases h
  | d + 1, fuel, t, ks, cs, x, hk, h => by
    have ih := fun (fuel : Nat) (t : TypeId) (ks : List Ck) (cs : List Value) x => ck_is d fuel t ks cs x
    unfold ckOf at hk
    split at hk
    · rename_i hu
      cases hk
      obtain ⟨b, rfl, _⟩ := DataW.trod_bool hu h
      simp only [CellsIs]
      exact ⟨_, _, rfl, ⟨b, rfl⟩, rfl⟩
    · rename_i k hu
      cases hk
      obtain ⟨n, rfl, _, hw⟩ := DataW.trod_int hu h
      rw [Lit.wf_int_iff] at hw
      simp only [CellsIs]
      exact ⟨_, _, rfl, ⟨n, rfl, hw⟩, rfl⟩
    · rename_i hu
      cases hk
      obtain ⟨s, rfl, _, hw⟩ := DataW.trod_string hu h
      simp only [CellsIs]
      exact ⟨_, _, rfl, ⟨s, rfl, hw⟩, rfl⟩
    · rename_i e hu
      split at hk
      · rename_i ke hke
        split at hk
        · rename_i hc
          obtain ⟨hce, hpos⟩ := hc
          rcases DataW.trod_slice hu h with ⟨rfl, _⟩ | ⟨a, len, cap, elems, rest, m, rfl, rfl, _, _, hlc, hcm, hle, hel, hsp, _⟩
          · split at hk
            · cases hk
              simp only [CellsIs, CellIs]
              exact ⟨_, _, rfl, ⟨_, _, _, [], rfl, .inl ⟨rfl, rfl, rfl, rfl⟩⟩, rfl⟩
            · cases hk
              simp only [CellsIs, CellIs]
              exact ⟨_, _, rfl, ⟨_, _, _, [], rfl, .inl ⟨rfl, rfl, rfl, rfl⟩⟩, rfl⟩
          · obtain ⟨hrl, hrest⟩ := hsp rfl
            have hall : ∀ i, i < cap → ∃ y r, W.cells? 0 (a.add (i * P.cellsOf e)) (P.cellsOf e) = some r ∧ DataW.trod enc P W 0 (fun _ => true) held m e r = some y := by
              intro i hi
              by_cases hil : i < len
              · have h1 := hel i hil
                rw [List.getElem?_eq_getElem (by omega)] at h1
                obtain ⟨r, hr, h2⟩ := Option.bind_eq_some_iff.1 h1
                exact ⟨_, r, hr, h2⟩
              · have h1 := hrest (i - len) (by omega)
                rw [List.getElem?_eq_getElem (by omega), show len + (i - len) = i by omega] at h1
                obtain ⟨r, hr, h2⟩ := Option.bind_eq_some_iff.1 h1
                exact ⟨_, r, hr, h2⟩
            have hZ : ∃ Z : List (List Value), Z.length = cap ∧ ∀ r (i : Nat), Z[i]? = some r → W.cells? 0 (a.add (i * ke.length)) ke.length = some r ∧ CellsIs W ke r := by
              refine ⟨(List.range cap).map fun i => (W.cells? 0 (a.add (i * P.cellsOf e)) (P.cellsOf e)).getD [], by simp, fun r i hi => ?_⟩
              rw [List.getElem?_map] at hi
              obtain ⟨i', hi', rfl⟩ := Option.map_eq_some_iff.1 hi
              obtain ⟨hlt, rfl⟩ := List.getElem?_eq_some_iff.1 hi'
              rw [List.getElem_range]
              rw [List.length_range] at hlt
              obtain ⟨y, r, h1, h2⟩ := hall i hlt
              rw [← hce, h1]
              exact ⟨rfl, ih m e ke r y hke h2⟩
            obtain ⟨Z, hZl, hZ⟩ := hZ
            have hrows : ∀ r (i : Nat), Z[i]? = some r → (∀ j, j < r.length → W.cell? (a.add (i * ke.length + j)) = some (r.getD j undef)) ∧ CellsIs W ke r := by
              intro r i hi
              obtain ⟨h1, h2⟩ := hZ r i hi
              refine ⟨fun j hj => ?_, h2⟩
              rw [← addr_add_add]
              exact (cells_get h1).2 j hj
            split at hk
            · rename_i k k' hue
              cases hk
              have hkk : k' = k := by
                cases d with
                | zero => cases hke
                | succ d =>
                  unfold ckOf at hke
                  rw [hue] at hke
                  simp only [Option.some.injEq, List.cons.injEq, Ck.i.injEq, and_true] at hke
                  exact hke.symm
              subst hkk
              have each : ∀ (i : Nat) (r : List Value), Z[i]? = some r → ∃ n, r = [.int k' n] ∧ In k' n ∧ W.cell? (a.add i) = some (.int k' n) := by
                intro i r hi
                obtain ⟨h1, h2⟩ := hrows r i hi
                simp only [CellsIs, CellIs] at h2
                obtain ⟨v, r', rfl, ⟨n, rfl, hn⟩, rfl⟩ := h2
                have := h1 0 (by simp)
                simp only [List.length_cons, List.length_nil, Nat.zero_add, Nat.mul_one, Nat.add_zero, List.getD_cons_zero] at this
                exact ⟨n, rfl, hn, this⟩
              simp only [CellsIs, CellIs]
              refine ⟨_, _, rfl, ⟨_, _, _, Z.map firstInt, rfl, .inr ⟨a, rfl, hlc, hcm, by rw [List.length_map, hZl], fun i hi => ?_, fun m hm => ?_⟩⟩, rfl⟩
              · rw [List.length_map] at hi
                obtain ⟨n, hr, hn, hcell⟩ := each i _ (List.getElem?_eq_getElem hi)
                rw [hcell, List.getD_eq_getElem?_getD, List.getElem?_map, List.getElem?_eq_getElem hi, hr]
                rfl
              · obtain ⟨r, hr, rfl⟩ := List.mem_map.1 hm
                obtain ⟨i, hi⟩ := List.mem_iff_getElem?.1 hr
                obtain ⟨n, rfl, hn, _⟩ := each i r hi
                rw [Lit.wf_int_iff]
                exact hn
            · cases hk
              simp only [CellsIs, CellIs]
              exact ⟨_, _, rfl, ⟨_, _, _, Z, rfl, .inr ⟨a, rfl, hlc, hcm, hZl, hrows⟩⟩, rfl⟩
        · cases hk
      · cases hk
    · rename_i fs hu
      split at hk
      · rename_i k1 hk1
        split at hk
        · rename_i hc
          cases hk
          obtain ⟨xs, m, rfl, _, hl, hxl, hel⟩ := DataW.trod_struct hu h
          have := fields_is (P := P) (W := W) (d := d) (fuel := m) (held := held) (enc := enc) (fun t ks cs x => ih m t ks cs x) cs fs.toList 0 _ hk1 (fun f hf => by
            obtain ⟨i, hi⟩ := List.mem_iff_getElem?.1 hf
            have hi' : fs[i]? = some f := by simpa using hi
            have h1 := hel i f hi'
            have hlt : i < xs.length := by
              rw [hxl]; exact (Array.getElem?_eq_some_iff.1 hi').1
            rw [List.getElem?_eq_getElem hlt] at h1
            exact ⟨_, h1⟩)
          rw [List.drop_zero, List.take_of_length_le (by omega)] at this
          exact this
        · cases hk
      · cases hk
    · rename_i n e hu
      split at hk
      · rename_i ke hke
        split at hk
        · rename_i hc
          obtain ⟨h1, h2⟩ := hc
          cases hk
          obtain ⟨xs, m, rfl, _, hl, hxl, hel⟩ := DataW.trod_array hu h
          refine repl_is n cs (by rw [hl, h2]) fun i hi => ?_
          have := hel i hi
          rw [h1, List.getElem?_eq_getElem (by omega)] at this
          exact ih m e ke _ _ hke this
        · cases hk
      · cases hk
    · cases hk
end
end Go.Proofs.YtaijkkkgpgldbaaDoor.K
