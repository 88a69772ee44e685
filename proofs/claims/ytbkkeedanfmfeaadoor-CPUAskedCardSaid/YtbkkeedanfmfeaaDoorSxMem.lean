/- A small symbolic executor for loop-free Go code, second part: cells, values, memory. -/
import Derived.Test.YtbkkeedanfmfeaaDoorSxBase
import Derived.Laws.CopyRow
namespace Go.Proofs.YtbkkeedanfmfeaaDoor.Sx
open Go

/-- A symbolic address: block number b of the small memory, a cell, perhaps behind it element i of an array of n elements of one cell each. -/
structure Ad where
  b : Nat
  off : Nat
  ix : Option (IExp × Nat)

inductive Cell where
  | b (x : BExp)
  | i (k : IntKind) (x : IExp)
  | s (x : ByteArray)
  | p (a : Option Ad)
  | sl (a : Option Ad) (len cap : Nat)
  | fn (f : Nat) (caps : List Ad)
  | nf

inductive Seg where
  | c (x : Cell)
  | arr (k : IntKind) (n : Nat) (a : AExp)

inductive SV where
  | c (x : Cell)
  | agg (l : List Seg)

inductive SVal where
  | v (x : SV)
  | tup (l : List SV)

instance : Inhabited SVal := ⟨.tup []⟩

def Ad.D (e : Env) (ρ : List Nat) (a : Ad) (A : Addr) : Prop :=
  ∃ b', ρ[a.b]? = some b' ∧ match a.ix with
    | none => A = ⟨b', a.off, none⟩
    | some (i, n) => 0 ≤ i.den e ∧ i.den e < n ∧ A = ⟨b', a.off + (i.den e).toNat, none⟩

def AdsD (e : Env) (ρ : List Nat) : List Ad → List Value → Prop
  | [], vs => vs = []
  | a :: r, vs => ∃ A vs', a.D e ρ A ∧ vs = .pointer (some A) :: vs' ∧ AdsD e ρ r vs'

def Cell.D (e : Env) (ρ : List Nat) : Cell → Value → Prop
  | .b x, v => v = .bool (x.den e)
  | .i k x, v => v = .int k (x.den e)
  | .s x, v => v = .string x
  | .p none, v => v = .pointer none
  | .p (some a), v => ∃ A, a.D e ρ A ∧ v = .pointer (some A)
  | .sl none l c, v => v = .slice none l c
  | .sl (some a) l c, v => ∃ A, a.D e ρ A ∧ v = .slice (some A) l c
  | .fn f caps, v => ∃ vs, AdsD e ρ caps vs ∧ v = .func (.func f) #[] vs.toArray
  | .nf, v => v = .nilFunc

def SegsD (e : Env) (ρ : List Nat) : List Seg → List Value → Prop
  | [], vs => vs = []
  | .c x :: r, vs => ∃ v vs', vs = v :: vs' ∧ x.D e ρ v ∧ SegsD e ρ r vs'
  | .arr k n a :: r, vs => ∃ vs', vs = (a.den e).map (.int k) ++ vs' ∧ (a.den e).length = n ∧ SegsD e ρ r vs'

def SV.D (e : Env) (ρ : List Nat) : SV → Value → Prop
  | .c x, v => x.D e ρ v
  | .agg l, v => ∃ vs, v = .agg vs.toArray ∧ SegsD e ρ l vs

def SVsD (e : Env) (ρ : List Nat) : List SV → List Value → Prop
  | [], vs => vs = []
  | x :: r, vs => ∃ v vs', vs = v :: vs' ∧ x.D e ρ v ∧ SVsD e ρ r vs'

def SVal.D (e : Env) (ρ : List Nat) : SVal → Value → Prop
  | .v x, w => x.D e ρ w
  | .tup l, w => ∃ vs, w = .tuple vs.toArray ∧ SVsD e ρ l vs

def SValsD (e : Env) (ρ : List Nat) : List SVal → List Value → Prop
  | [], vs => vs = []
  | x :: r, vs => ∃ v vs', vs = v :: vs' ∧ x.D e ρ v ∧ SValsD e ρ r vs'

/-- The map of blocks has grown. -/
def Pre (ρ ρ' : List Nat) : Prop := ∃ r, ρ' = ρ ++ r
theorem Pre.refl (ρ : List Nat) : Pre ρ ρ := ⟨[], by simp⟩
theorem Pre.trans {a b c : List Nat} (h : Pre a b) (k : Pre b c) : Pre a c := by
  obtain ⟨r, rfl⟩ := h; obtain ⟨q, rfl⟩ := k; exact ⟨r ++ q, by simp⟩
theorem Pre.get {a b : List Nat} (h : Pre a b) {i x : Nat} (hx : a[i]? = some x) : b[i]? = some x := by
  obtain ⟨r, rfl⟩ := h
  have hi : i < a.length := (List.getElem?_eq_some_iff.1 hx).1
  rw [List.getElem?_append_left hi, hx]
theorem Pre.length {a b : List Nat} (h : Pre a b) : a.length ≤ b.length := by obtain ⟨r, rfl⟩ := h; simp

section mono
variable {e : Env} {ρ ρ' : List Nat} (hp : Pre ρ ρ')
include hp
theorem Ad.mono {a : Ad} {A : Addr} (h : a.D e ρ A) : a.D e ρ' A := by
  obtain ⟨b', hb, h⟩ := h; exact ⟨b', hp.get hb, h⟩
theorem AdsD.mono : ∀ {l : List Ad} {vs : List Value}, AdsD e ρ l vs → AdsD e ρ' l vs
  | [], _, h => h
  | _ :: _, _, ⟨A, vs', h1, h2, h3⟩ => ⟨A, vs', Ad.mono hp h1, h2, AdsD.mono h3⟩
theorem Cell.mono {x : Cell} {v : Value} (h : x.D e ρ v) : x.D e ρ' v := by
  cases x with
  | p a => cases a with
    | none => exact h
    | some a => obtain ⟨A, h1, h2⟩ := h; exact ⟨A, Ad.mono hp h1, h2⟩
  | sl a l c => cases a with
    | none => exact h
    | some a => obtain ⟨A, h1, h2⟩ := h; exact ⟨A, Ad.mono hp h1, h2⟩
  | fn f caps => obtain ⟨vs, h1, h2⟩ := h; exact ⟨vs, AdsD.mono hp h1, h2⟩
  | _ => exact h
theorem SegsD.mono : ∀ {l : List Seg} {vs : List Value}, SegsD e ρ l vs → SegsD e ρ' l vs
  | [], _, h => h
  | .c _ :: _, _, ⟨v, vs', h1, h2, h3⟩ => ⟨v, vs', h1, Cell.mono hp h2, SegsD.mono h3⟩
  | .arr _ _ _ :: _, _, ⟨vs', h1, h2, h3⟩ => ⟨vs', h1, h2, SegsD.mono h3⟩
theorem SV.mono {x : SV} {v : Value} (h : x.D e ρ v) : x.D e ρ' v := by
  cases x with
  | c x => exact Cell.mono hp h
  | agg l => obtain ⟨vs, h1, h2⟩ := h; exact ⟨vs, h1, SegsD.mono hp h2⟩
theorem SVsD.mono : ∀ {l : List SV} {vs : List Value}, SVsD e ρ l vs → SVsD e ρ' l vs
  | [], _, h => h
  | _ :: _, _, ⟨v, vs', h1, h2, h3⟩ => ⟨v, vs', h1, SV.mono hp h2, SVsD.mono h3⟩
theorem SVal.mono {x : SVal} {v : Value} (h : x.D e ρ v) : x.D e ρ' v := by
  cases x with
  | v x => exact SV.mono hp h
  | tup l => obtain ⟨vs, h1, h2⟩ := h; exact ⟨vs, h1, SVsD.mono hp h2⟩
theorem SValsD.mono : ∀ {l : List SVal} {vs : List Value}, SValsD e ρ l vs → SValsD e ρ' l vs
  | [], _, h => h
  | _ :: _, _, ⟨v, vs', h1, h2, h3⟩ => ⟨v, vs', h1, SVal.mono hp h2, SValsD.mono h3⟩
end mono

theorem Cell.one {e : Env} {ρ : List Nat} {x : Cell} {v : Value} (h : x.D e ρ v) : v.oneCell' = true ∧ v.cells = #[v] := by
  cases x with
  | p a => cases a with
    | none => cases h; exact ⟨rfl, rfl⟩
    | some a => obtain ⟨A, _, rfl⟩ := h; exact ⟨rfl, rfl⟩
  | sl a l c => cases a with
    | none => cases h; exact ⟨rfl, rfl⟩
    | some a => obtain ⟨A, _, rfl⟩ := h; exact ⟨rfl, rfl⟩
  | fn f caps => obtain ⟨vs, _, rfl⟩ := h; exact ⟨rfl, rfl⟩
  | _ => cases h; exact ⟨rfl, rfl⟩

theorem SegsD.one {e : Env} {ρ : List Nat} : ∀ {l : List Seg} {vs : List Value}, SegsD e ρ l vs → ∀ v ∈ vs, v.oneCell' = true
  | [], _, h, v, hv => by cases h; cases hv
  | .c _ :: _, _, ⟨u, vs', h1, h2, h3⟩, v, hv => by
    subst h1
    rcases List.mem_cons.1 hv with rfl | hv
    · exact (Cell.one h2).1
    · exact SegsD.one h3 v hv
  | .arr k _ a :: _, _, ⟨vs', h1, _, h3⟩, v, hv => by
    subst h1
    rcases List.mem_append.1 hv with hv | hv
    · obtain ⟨n, _, rfl⟩ := List.mem_map.1 hv; rfl
    · exact SegsD.one h3 v hv

def SV.segs : SV → List Seg
  | .c x => [.c x]
  | .agg l => l
theorem SV.segs_D {e : Env} {ρ : List Nat} {x : SV} {v : Value} (h : x.D e ρ v) : SegsD e ρ x.segs v.cells.toList := by
  cases x with
  | c x => exact ⟨v, [], by rw [Cell.one h |>.2], h, rfl⟩
  | agg l => obtain ⟨vs, rfl, h⟩ := h; exact h

def Seg.len : Seg → Nat
  | .c _ => 1
  | .arr _ n _ => n
def segsLen : List Seg → Nat
  | [] => 0
  | s :: r => s.len + segsLen r
theorem segsLen_eq {e : Env} {ρ : List Nat} : ∀ {l : List Seg} {vs : List Value}, SegsD e ρ l vs → segsLen l = vs.length
  | [], _, h => by cases h; rfl
  | .c _ :: _, _, ⟨u, vs', h1, _, h3⟩ => by subst h1; simp only [segsLen, Seg.len, List.length_cons, segsLen_eq h3]; omega
  | .arr k n a :: _, _, ⟨vs', h1, h2, h3⟩ => by
    subst h1; simp only [segsLen, Seg.len, List.length_append, List.length_map, segsLen_eq h3, h2]

theorem SegsD.append {e : Env} {ρ : List Nat} : ∀ {l l' : List Seg} {vs vs' : List Value}, SegsD e ρ l vs → SegsD e ρ l' vs' → SegsD e ρ (l ++ l') (vs ++ vs')
  | [], _, _, _, h, h' => by cases h; exact h'
  | .c _ :: _, _, _, _, ⟨u, vs2, h1, h2, h3⟩, h' => by subst h1; exact ⟨u, vs2 ++ _, rfl, h2, h3.append h'⟩
  | .arr k n a :: _, _, _, _, ⟨vs2, h1, h2, h3⟩, h' => by subst h1; exact ⟨vs2 ++ _, by simp, h2, h3.append h'⟩

/-- Elements lo, lo+1, .. (n of them) of an array, cell by cell. -/
def spread (k : IntKind) (a : AExp) (lo : Nat) : Nat → List Seg
  | 0 => []
  | n + 1 => .c (.i k (.sel k a (.lit lo))) :: spread k a (lo + 1) n
theorem spread_D {e : Env} {ρ : List Nat} {k : IntKind} {a : AExp} : ∀ {n lo : Nat}, lo + n ≤ (a.den e).length → SegsD e ρ (spread k a lo n) ((((a.den e).map (Value.int k)).drop lo).take n)
  | 0, lo, _ => by simp [spread, SegsD]
  | n + 1, lo, h => by
    have hl : lo < ((a.den e).map (Value.int k)).length := by simp; omega
    refine ⟨Value.int k ((a.den e).getD lo 0), ((((a.den e).map (Value.int k)).drop (lo + 1)).take n), ?_, ?_, spread_D (by omega)⟩
    · rw [List.drop_eq_getElem_cons hl, List.take_succ_cons]
      simp only [List.getElem_map, List.getD_eq_getElem?_getD]
      rw [List.getElem?_eq_getElem (by omega)]; rfl
    · simp [Cell.D, IExp.den]

def readAt : List Seg → Nat → Option Cell
  | [], _ => none
  | .c x :: _, 0 => some x
  | .c _ :: r, n + 1 => readAt r n
  | .arr k n a :: r, off => if off < n then some (.i k (.sel k a (.lit off))) else readAt r (off - n)
theorem readAt_ok {e : Env} {ρ : List Nat} : ∀ {l : List Seg} {vs : List Value} {off : Nat} {x : Cell}, SegsD e ρ l vs → readAt l off = some x → ∃ v, vs[off]? = some v ∧ x.D e ρ v
  | [], _, _, _, _, h => by cases h
  | .c y :: _, _, 0, x, ⟨u, vs', h1, h2, h3⟩, h => by
    simp only [readAt, Option.some.injEq] at h
    subst h1 h; exact ⟨u, rfl, h2⟩
  | .c y :: r, _, n + 1, x, ⟨u, vs', h1, h2, h3⟩, h => by
    simp only [readAt] at h
    subst h1
    obtain ⟨v, hv, hx⟩ := readAt_ok h3 h
    exact ⟨v, by simpa using hv, hx⟩
  | .arr k n a :: r, _, off, x, ⟨vs', h1, h2, h3⟩, h => by
    simp only [readAt] at h
    subst h1
    split at h
    · rename_i hlt
      cases h
      refine ⟨.int k ((a.den e).getD off 0), ?_, by simp [Cell.D, IExp.den]⟩
      rw [List.getElem?_append_left (by simp; omega)]
      simp [List.getElem?_map, List.getD_eq_getElem?_getD, List.getElem?_eq_getElem (show off < (a.den e).length by omega)]
    · rename_i hge
      obtain ⟨v, hv, hx⟩ := readAt_ok h3 h
      refine ⟨v, ?_, hx⟩
      rw [List.getElem?_append_right (by simp; omega)]
      simpa [h2] using hv

def takeSegs : List Seg → Nat → Option (List Seg)
  | _, 0 => some []
  | [], _ + 1 => none
  | .c x :: r, n + 1 => (takeSegs r n).map (.c x :: ·)
  | .arr k m a :: r, n + 1 => if m ≤ n + 1 then (takeSegs r (n + 1 - m)).map (.arr k m a :: ·) else some (spread k a 0 (n + 1))
theorem takeSegs_ok {e : Env} {ρ : List Nat} : ∀ {l l' : List Seg} {vs : List Value} {n : Nat}, SegsD e ρ l vs → takeSegs l n = some l' → n ≤ vs.length ∧ SegsD e ρ l' (vs.take n)
  | l, l', vs, 0, _, h => by
    have : l' = [] := by cases l <;> simp [takeSegs] at h <;> first | exact h | exact h.symm
    subst this; exact ⟨by simp, by simp [SegsD]⟩
  | [], _, _, n + 1, _, h => by simp [takeSegs] at h
  | .c x :: r, l', _, n + 1, ⟨u, vs', h1, h2, h3⟩, h => by
    simp only [takeSegs, Option.map_eq_some_iff] at h
    obtain ⟨q, hq, rfl⟩ := h
    subst h1
    have := takeSegs_ok h3 hq
    exact ⟨by simp; omega, u, vs'.take n, rfl, h2, this.2⟩
  | .arr k m a :: r, l', _, n + 1, ⟨vs', h1, h2, h3⟩, h => by
    simp only [takeSegs] at h
    subst h1
    split at h
    · rename_i hle
      simp only [Option.map_eq_some_iff] at h
      obtain ⟨q, hq, rfl⟩ := h
      have := takeSegs_ok h3 hq
      refine ⟨by simp; omega, vs'.take (n + 1 - m), ?_, h2, this.2⟩
      rw [List.take_append, List.take_of_length_le (by simp; omega)]
      simp [h2]
    · rename_i hgt
      cases h
      have := spread_D (e := e) (ρ := ρ) (k := k) (a := a) (n := n + 1) (lo := 0) (by omega)
      refine ⟨by simp; omega, ?_⟩
      rw [List.take_append_of_le_length (by simp; omega)]
      simpa using this

def dropSegs : List Seg → Nat → Option (List Seg)
  | l, 0 => some l
  | [], _ + 1 => none
  | .c _ :: r, n + 1 => dropSegs r n
  | .arr k m a :: r, n + 1 => if m ≤ n + 1 then dropSegs r (n + 1 - m) else some (spread k a (n + 1) (m - (n + 1)) ++ r)
theorem dropSegs_ok {e : Env} {ρ : List Nat} : ∀ {l l' : List Seg} {vs : List Value} {n : Nat}, SegsD e ρ l vs → dropSegs l n = some l' → n ≤ vs.length ∧ SegsD e ρ l' (vs.drop n)
  | l, l', vs, 0, hl, h => by
    have : l' = l := by cases l <;> simp [dropSegs] at h <;> first | exact h | exact h.symm
    subst this; exact ⟨by simp, by simpa using hl⟩
  | [], _, _, n + 1, _, h => by simp [dropSegs] at h
  | .c x :: r, l', _, n + 1, ⟨u, vs', h1, h2, h3⟩, h => by
    simp only [dropSegs] at h
    subst h1
    have := dropSegs_ok h3 h
    exact ⟨by simp; omega, by simpa using this.2⟩
  | .arr k m a :: r, l', _, n + 1, ⟨vs', h1, h2, h3⟩, h => by
    simp only [dropSegs] at h
    subst h1
    split at h
    · rename_i hle
      have := dropSegs_ok h3 h
      refine ⟨by simp; omega, ?_⟩
      rw [List.drop_append, List.drop_eq_nil_of_le (by simp; omega)]
      simpa [h2] using this.2
    · rename_i hgt
      cases h
      have := spread_D (e := e) (ρ := ρ) (k := k) (a := a) (n := m - (n + 1)) (lo := n + 1) (by omega)
      refine ⟨by simp; omega, ?_⟩
      rw [List.drop_append_of_le_length (by simp; omega)]
      refine SegsD.append ?_ h3
      rwa [List.take_of_length_le (by simp; omega)] at this

def readSegs (l : List Seg) (off n : Nat) : Option (List Seg) := (dropSegs l off).bind (takeSegs · n)
theorem readSegs_ok {e : Env} {ρ : List Nat} {l l' : List Seg} {vs : List Value} {off n : Nat} (hl : SegsD e ρ l vs) (h : readSegs l off n = some l') :
    off + n ≤ vs.length ∧ SegsD e ρ l' ((vs.drop off).take n) := by
  simp only [readSegs, Option.bind_eq_some_iff] at h
  obtain ⟨q, h1, h2⟩ := h
  have t1 := dropSegs_ok hl h1
  have t2 := takeSegs_ok t1.2 h2
  exact ⟨by have := t2.1; simp at this; omega, t2.2⟩

def write1 : List Seg → Nat → Cell → Option (List Seg)
  | [], _, _ => none
  | .c _ :: r, 0, x => some (.c x :: r)
  | .c y :: r, n + 1, x => (write1 r n x).map (.c y :: ·)
  | .arr k n a :: r, off, x =>
    if off < n then
      match x with
      | .i k' v => if k' = k then some (.arr k n (.upd a (.lit off) v) :: r) else none
      | _ => none
    else (write1 r (off - n) x).map (.arr k n a :: ·)
theorem write1_ok {e : Env} {ρ : List Nat} : ∀ {l l' : List Seg} {vs : List Value} {off : Nat} {x : Cell} {v : Value}, SegsD e ρ l vs → x.D e ρ v → write1 l off x = some l' →
    off < vs.length ∧ SegsD e ρ l' (vs.set off v)
  | [], _, _, _, _, _, _, _, h => by cases h
  | .c y :: _, _, _, 0, x, v, ⟨u, vs', h1, h2, h3⟩, hx, h => by
    simp only [write1, Option.some.injEq] at h
    subst h1 h; exact ⟨by simp, v, vs', rfl, hx, h3⟩
  | .c y :: r, _, _, n + 1, x, v, ⟨u, vs', h1, h2, h3⟩, hx, h => by
    simp only [write1, Option.map_eq_some_iff] at h
    obtain ⟨q, hq, rfl⟩ := h
    subst h1
    have := write1_ok h3 hx hq
    exact ⟨by simp; omega, u, vs'.set n v, rfl, h2, this.2⟩
  | .arr k n a :: r, _, _, off, x, v, ⟨vs', h1, h2, h3⟩, hx, h => by
    simp only [write1] at h
    subst h1
    split at h
    · rename_i hlt
      split at h
      · rename_i k' w
        split at h
        · rename_i hk
          cases h
          subst hk
          cases hx
          refine ⟨by simp; omega, vs', ?_, by simp [AExp.den, h2], h3⟩
          rw [List.set_append_left _ _ (by simp; omega)]
          simp [AExp.den, IExp.den, List.map_set]
        · cases h
      · cases h
    · rename_i hge
      simp only [Option.map_eq_some_iff] at h
      obtain ⟨q, hq, rfl⟩ := h
      have := write1_ok h3 hx hq
      refine ⟨by simp; omega, vs'.set (off - n) v, ?_, h2, this.2⟩
      rw [List.set_append_right _ _ (by simp; omega)]
      simp [h2]

def readIx : List Seg → Nat → IExp → Nat → Option Cell
  | [], _, _, _ => none
  | .c _ :: _, 0, _, _ => none
  | .c _ :: r, off + 1, i, n => readIx r off i n
  | .arr k m a :: r, off, i, n => if off = 0 then (if m = n then some (.i k (.sel k a i)) else none) else if m ≤ off then readIx r (off - m) i n else none
theorem readIx_ok {e : Env} {ρ : List Nat} {i : IExp} {n : Nat} (h0 : 0 ≤ i.den e) (hn : i.den e < n) : ∀ {l : List Seg} {vs : List Value} {off : Nat} {x : Cell}, SegsD e ρ l vs → readIx l off i n = some x →
    ∃ v, vs[off + (i.den e).toNat]? = some v ∧ x.D e ρ v
  | [], _, _, _, _, h => by cases h
  | .c y :: _, _, 0, x, _, h => by cases h
  | .c y :: r, _, m + 1, x, ⟨u, vs', h1, h2, h3⟩, h => by
    simp only [readIx] at h
    subst h1
    obtain ⟨v, hv, hx⟩ := readIx_ok h0 hn h3 h
    exact ⟨v, by rw [show m + 1 + (i.den e).toNat = (m + (i.den e).toNat) + 1 by omega]; simpa using hv, hx⟩
  | .arr k m a :: r, _, off, x, ⟨vs', h1, h2, h3⟩, h => by
    simp only [readIx] at h
    subst h1
    split at h
    · rename_i hoff
      subst hoff
      split at h
      · rename_i hm
        subst hm
        cases h
        refine ⟨.int k ((a.den e).getD (i.den e).toNat 0), ?_, by simp [Cell.D, IExp.den]⟩
        rw [Nat.zero_add, List.getElem?_append_left (by simp; omega)]
        simp [List.getElem?_map, List.getD_eq_getElem?_getD, List.getElem?_eq_getElem (show (i.den e).toNat < (a.den e).length by omega)]
      · cases h
    · split at h
      · rename_i hle
        obtain ⟨v, hv, hx⟩ := readIx_ok h0 hn h3 h
        refine ⟨v, ?_, hx⟩
        rw [List.getElem?_append_right (by simp; omega)]
        simpa [h2, show off + (i.den e).toNat - m = off - m + (i.den e).toNat by omega] using hv
      · cases h

def writeIx : List Seg → Nat → IExp → Nat → Cell → Option (List Seg)
  | [], _, _, _, _ => none
  | .c _ :: _, 0, _, _, _ => none
  | .c y :: r, off + 1, i, n, x => (writeIx r off i n x).map (.c y :: ·)
  | .arr k m a :: r, off, i, n, x =>
    if off = 0 then
      match x with
      | .i k' v => if k' = k then (if m = n then some (.arr k m (.upd a i v) :: r) else none) else none
      | _ => none
    else if m ≤ off then (writeIx r (off - m) i n x).map (.arr k m a :: ·) else none
theorem writeIx_ok {e : Env} {ρ : List Nat} {i : IExp} {n : Nat} (h0 : 0 ≤ i.den e) (hn : i.den e < n) : ∀ {l l' : List Seg} {vs : List Value} {off : Nat} {x : Cell} {v : Value}, SegsD e ρ l vs → x.D e ρ v → writeIx l off i n x = some l' →
    off + (i.den e).toNat < vs.length ∧ SegsD e ρ l' (vs.set (off + (i.den e).toNat) v)
  | [], _, _, _, _, _, _, _, h => by cases h
  | .c y :: _, _, _, 0, x, v, _, _, h => by cases h
  | .c y :: r, _, _, m + 1, x, v, ⟨u, vs', h1, h2, h3⟩, hx, h => by
    simp only [writeIx, Option.map_eq_some_iff] at h
    obtain ⟨q, hq, rfl⟩ := h
    subst h1
    have := writeIx_ok h0 hn h3 hx hq
    rw [show m + 1 + (i.den e).toNat = (m + (i.den e).toNat) + 1 by omega]
    exact ⟨by simp; omega, u, vs'.set (m + (i.den e).toNat) v, rfl, h2, this.2⟩
  | .arr k m a :: r, _, _, off, x, v, ⟨vs', h1, h2, h3⟩, hx, h => by
    simp only [writeIx] at h
    subst h1
    split at h
    · rename_i hoff
      subst hoff
      split at h
      · rename_i k' w
        split at h
        · rename_i hk
          split at h
          · rename_i hm
            cases h
            subst hk hm
            cases hx
            rw [Nat.zero_add]
            refine ⟨by simp; omega, vs', ?_, by simp [AExp.den, h2], h3⟩
            rw [List.set_append_left _ _ (by simp; omega)]
            simp [AExp.den, List.map_set]
          · cases h
        · cases h
      · cases h
    · split at h
      · rename_i hle
        simp only [Option.map_eq_some_iff] at h
        obtain ⟨q, hq, rfl⟩ := h
        have := writeIx_ok h0 hn h3 hx hq
        refine ⟨by simp; omega, vs'.set (off - m + (i.den e).toNat) v, ?_, h2, this.2⟩
        rw [List.set_append_right _ _ (by simp; omega)]
        simp [h2, show off + (i.den e).toNat - m = off - m + (i.den e).toNat by omega]
      · cases h

/-- A range of cells is laid anew. -/
def writeSegs (l : List Seg) (off : Nat) (new : List Seg) : Option (List Seg) :=
  (takeSegs l off).bind fun a => (dropSegs l (off + segsLen new)).map fun r => a ++ (new ++ r)
theorem writeSegs_ok {e : Env} {ρ : List Nat} {l l' new : List Seg} {vs nv : List Value} {off : Nat} (hl : SegsD e ρ l vs) (hn : SegsD e ρ new nv) (h : writeSegs l off new = some l') :
    off + nv.length ≤ vs.length ∧ SegsD e ρ l' (vs.take off ++ nv ++ vs.drop (off + nv.length)) := by
  simp only [writeSegs, Option.bind_eq_some_iff, Option.map_eq_some_iff] at h
  obtain ⟨a, h1, r, h2, rfl⟩ := h
  rw [segsLen_eq hn] at h2
  have t1 := takeSegs_ok hl h1
  have t2 := dropSegs_ok hl h2
  refine ⟨t2.1, ?_⟩
  rw [List.append_assoc]
  exact t1.2.append (hn.append t2.2)

/-! ### The memory -/
abbrev Blk := Option (List Seg × TypeId)
abbrev SHeap := List Blk

structure HRel (e : Env) (ρ : List Nat) (h : SHeap) (W : World) : Prop where
  len : h.length = ρ.length
  nodup : ρ.Nodup
  lt : ∀ b ∈ ρ, b < W.heap.size
  blk : ∀ (i : Nat) (l : List Seg) (t : TypeId), h[i]? = some (some (l, t)) → ∃ b cs t', ρ[i]? = some b ∧ W.heap[b]? = some (.cells cs t' (0, 0)) ∧ SegsD e ρ l cs.toList

/-- From W to W' nothing that was there has turned but the blocks of ρ from ro on. -/
structure Fr (ro : Nat) (ρ : List Nat) (W W' : World) : Prop where
  os : W'.os = W.os
  tape : W'.tape = W.tape
  output : W'.output = W.output
  size : W.heap.size ≤ W'.heap.size
  same : ∀ k, k < W.heap.size → k ∉ ρ.drop ro → W'.heap[k]? = W.heap[k]?

theorem Fr.refl (ro : Nat) (ρ : List Nat) (W : World) : Fr ro ρ W W := ⟨rfl, rfl, rfl, Nat.le_refl _, fun _ _ _ => rfl⟩

/-- Two steps; what the second one may write besides is new. -/
theorem Fr.trans {ro : Nat} {ρ ρ' : List Nat} {W W' W'' : World} (h : Fr ro ρ W W') (k : Fr ro ρ' W' W'') (hp : Pre ρ ρ') (hnew : ∀ b ∈ ρ'.drop ρ.length, W.heap.size ≤ b) : Fr ro ρ W W'' := by
  refine ⟨k.os.trans h.os, k.tape.trans h.tape, k.output.trans h.output, Nat.le_trans h.size k.size, fun i hi hn => ?_⟩
  have hs := h.size
  rw [k.same i (by omega) ?_]
  · exact h.same i hi hn
  · intro hm
    obtain ⟨r, rfl⟩ := hp
    rw [List.drop_append] at hm
    rcases List.mem_append.1 hm with hm | hm
    · exact hn hm
    · have : i ∈ (ρ ++ r).drop ρ.length := by
        rw [List.drop_left]
        exact List.mem_of_mem_drop hm
      have := hnew i this
      omega

/-- What a step leaves: a grown map, the relation in the new world, and the frame. -/
structure Post (e : Env) (ro : Nat) (ρ : List Nat) (W : World) (ρ' : List Nat) (h' : SHeap) (W' : World) : Prop where
  pre : Pre ρ ρ'
  new : ∀ b ∈ ρ'.drop ρ.length, W.heap.size ≤ b
  rel : HRel e ρ' h' W'
  fr : Fr ro ρ W W'

theorem Post.refl {e : Env} {ro : Nat} {ρ : List Nat} {W : World} {h : SHeap} (hr : HRel e ρ h W) : Post e ro ρ W ρ h W :=
  ⟨Pre.refl ρ, by simp, hr, Fr.refl _ _ _⟩
theorem Post.trans {e : Env} {ro : Nat} {ρ ρ' ρ'' : List Nat} {W W' W'' : World} {h' h'' : SHeap} (a : Post e ro ρ W ρ' h' W') (b : Post e ro ρ' W' ρ'' h'' W'') : Post e ro ρ W ρ'' h'' W'' := by
  refine ⟨a.pre.trans b.pre, fun x hx => ?_, b.rel, a.fr.trans b.fr a.pre a.new⟩
  obtain ⟨r, rfl⟩ := a.pre
  obtain ⟨q, rfl⟩ := b.pre
  have hb := b.new
  have ha := a.new
  rw [List.append_assoc, List.drop_left] at hx
  rcases List.mem_append.1 hx with hx | hx
  · exact ha x (by rw [List.drop_left]; exact hx)
  · have := hb x (by rw [List.drop_left]; exact hx)
    have := a.fr.size
    omega

theorem HRel.drew {e : Env} {ρ : List Nat} {h : SHeap} {W : World} (hr : HRel e ρ h W) (n : Nat) : HRel e ρ h { W with drawn := n } := ⟨hr.len, hr.nodup, hr.lt, hr.blk⟩
theorem Post.drew {e : Env} {ro : Nat} {ρ : List Nat} {h : SHeap} {W : World} (hr : HRel e ρ h W) (n : Nat) : Post e ro ρ W ρ h { W with drawn := n } :=
  ⟨Pre.refl _, by simp, hr.drew n, ⟨rfl, rfl, rfl, Nat.le_refl _, fun _ _ _ => rfl⟩⟩

/-- A new block. -/
theorem Post.alloc {e : Env} {ro : Nat} {ρ : List Nat} {h : SHeap} {W : World} (hr : HRel e ρ h W) {l : List Seg} {t : TypeId} {cs : Array Value} (hl : SegsD e ρ l cs.toList) :
    Post e ro ρ W (ρ ++ [W.heap.size]) (h ++ [some (l, t)]) (W.alloc (.cells cs t)) := by
  have hpre : Pre ρ (ρ ++ [W.heap.size]) := ⟨_, rfl⟩
  have hget : ∀ b, b < W.heap.size → (W.alloc (.cells cs t)).heap[b]? = W.heap[b]? := fun b hb => RowKit.Below.heap_alloc _ _ _ hb
  have hsz : (W.alloc (.cells cs t)).heap.size = W.heap.size + 1 := Array.size_push _
  refine ⟨hpre, fun b hb => by simp at hb; omega, ⟨by simp [hr.len], ?_, ?_, ?_⟩, ⟨rfl, rfl, rfl, by omega, fun k hk _ => hget k hk⟩⟩
  · rw [List.nodup_append]
    refine ⟨hr.nodup, by simp, fun a ha b hb => ?_⟩
    simp at hb
    have := hr.lt a ha
    omega
  · intro b hb
    rw [hsz]
    rcases List.mem_append.1 hb with hb | hb
    · have := hr.lt b hb; omega
    · simp at hb; omega
  · intro i l' t' hi
    by_cases hlt : i < h.length
    · rw [List.getElem?_append_left hlt] at hi
      obtain ⟨b, cs', tt, h1, h2, h3⟩ := hr.blk i l' t' hi
      have hb : b < W.heap.size := hr.lt b (List.mem_of_getElem? h1)
      exact ⟨b, cs', tt, hpre.get h1, by rw [hget b hb]; exact h2, h3.mono hpre⟩
    · have hi2 : i = h.length := by
        have := (List.getElem?_eq_some_iff.1 hi).1
        simp at this; omega
      subst hi2
      rw [List.getElem?_append_right (Nat.le_refl _)] at hi
      simp at hi
      obtain ⟨rfl, rfl⟩ := hi
      refine ⟨W.heap.size, cs, _, ?_, Array.getElem?_push_size, hl.mono hpre⟩
      rw [hr.len, List.getElem?_append_right (Nat.le_refl _)]; simp

theorem nodup_get {ρ : List Nat} (h : ρ.Nodup) {i j b : Nat} (hi : ρ[i]? = some b) (hj : ρ[j]? = some b) : i = j := by
  obtain ⟨hi1, hi2⟩ := List.getElem?_eq_some_iff.1 hi
  obtain ⟨hj1, hj2⟩ := List.getElem?_eq_some_iff.1 hj
  exact (List.getElem_inj h).1 (hi2.trans hj2.symm)

/-- A known block's cells are laid anew. -/
theorem Post.set {e : Env} {ro : Nat} {ρ : List Nat} {h : SHeap} {W : World} (hr : HRel e ρ h W) {i b : Nat} {l l' : List Seg} {t u : TypeId} {cs cs' : Array Value} (hro : ro ≤ i)
    (hi : h[i]? = some (some (l, t))) (hb : ρ[i]? = some b) (hW : W.heap[b]? = some (.cells cs u (0, 0))) (hl : SegsD e ρ l' cs'.toList) :
    Post e ro ρ W ρ (h.set i (some (l', t))) (W.setRow b cs') := by
  refine ⟨Pre.refl _, by simp, ⟨by simp [hr.len], hr.nodup, fun x hx => by rw [setRow_size]; exact hr.lt x hx, ?_⟩, ⟨rfl, rfl, rfl, by rw [setRow_size]; exact Nat.le_refl _, fun k hk hn => ?_⟩⟩
  · intro j l2 t2 hj
    by_cases hji : j = i
    · subst hji
      rw [List.getElem?_set_self (by exact (List.getElem?_eq_some_iff.1 hi).1)] at hj
      simp at hj
      obtain ⟨rfl, rfl⟩ := hj
      exact ⟨b, cs', u, hb, setRow_heap W b cs cs' u _ hW, hl⟩
    · rw [List.getElem?_set_ne (fun h => hji h.symm)] at hj
      obtain ⟨b2, cs2, tt, h1, h2, h3⟩ := hr.blk j l2 t2 hj
      have hne : b2 ≠ b := fun hbb => hji (nodup_get hr.nodup (hbb ▸ h1) hb)
      exact ⟨b2, cs2, tt, h1, by rw [setRow_other _ _ _ _ hne]; exact h2, h3⟩
  · have hne : k ≠ b := by
      rintro rfl
      refine hn ?_
      have hlen : i < ρ.length := (List.getElem?_eq_some_iff.1 hb).1
      have : (ρ.drop ro)[i - ro]? = some k := by rw [List.getElem?_drop, show ro + (i - ro) = i by omega]; exact hb
      exact List.mem_of_getElem? this
    exact setRow_other _ _ _ _ hne
end Go.Proofs.YtbkkeedanfmfeaaDoor.Sx
