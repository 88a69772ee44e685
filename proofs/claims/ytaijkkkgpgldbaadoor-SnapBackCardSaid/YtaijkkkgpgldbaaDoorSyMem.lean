/- A symbolic executor for Go code, second part: cells, values, memory. -/
import Derived.Test.YtaijkkkgpgldbaaDoorSyBase
import Derived.Laws.CopyRow
namespace Go.Proofs.YtaijkkkgpgldbaaDoor.Sy
set_option linter.unusedVariables false
set_option linter.unusedSimpArgs false
open Go

/-- A symbolic address: block number b of the small memory, a cell, perhaps behind it so many elements of so many cells each. -/
structure Ad where
  b : Nat
  off : Nat
  ix : Option (IExp × Nat)

inductive Cell where
  | b (x : BExp)
  | i (k : IntKind) (x : IExp)
  | s (x : AExp)
  | p (a : Option Ad)
  | sl (a : Option Ad) (len : IExp) (cap : Option IExp)
  | fn (f : Nat) (caps : List Ad)
  | nf

/-- A column of a table of flat structs; a truth is a number that is not 0. -/
inductive Col where
  | b (a : AExp)
  | i (k : IntKind) (a : AExp)
inductive Seg where
  | c (x : Cell)
  | arr (k : IntKind) (n : Nat) (a : AExp)
  | row (k : IntKind) (a : AExp)
  | el (n : IExp) (w : Nat) (j : IExp) (l : List Cell)
  | tab (n : IExp) (cols : List Col)

inductive SV where
  | c (x : Cell)
  | agg (l : List Seg)

inductive SVal where
  | v (x : SV)
  | tup (l : List SV)
  | any
  | val (j : Nat)

instance : Inhabited SVal := ⟨.tup []⟩

/-- Of each block: the machine's block, where it begins in that, and how many elements a slice of it may have whose capacity is not known. -/
abbrev Rho := List (Nat × Nat × Nat)

/-- The bytes of a text. -/
def strOf (l : List Int) : ByteArray := ⟨(l.map fun n => UInt8.ofNat n.toNat).toArray⟩
def ints (s : ByteArray) : List Int := s.data.toList.map fun b => (b.toNat : Int)
theorem strOf_ints (s : ByteArray) : strOf (ints s) = s := by
  obtain ⟨⟨l⟩⟩ := s
  simp [strOf, ints, List.map_map, Function.comp_def]
theorem ints_strOf {l : List Int} (h : ∀ x ∈ l, In .u8 x) : ints (strOf l) = l := by
  simp only [strOf, ints, List.map_map, Function.comp_def]
  have : ∀ x ∈ l, (((UInt8.ofNat x.toNat).toNat : Nat) : Int) = x := by
    intro x hx
    have := h x hx
    obtain ⟨h1, h2⟩ := this
    simp only [IntKind.min_u8, IntKind.max_u8] at h1 h2
    rw [UInt8.toNat_ofNat']
    omega
  rw [List.map_congr_left this]; simp
theorem strOf_inj {l m : List Int} (hl : ∀ x ∈ l, In .u8 x) (hm : ∀ x ∈ m, In .u8 x) : strOf l = strOf m ↔ l = m := by
  constructor
  · intro h
    rw [← ints_strOf hl, ← ints_strOf hm, h]
  · rintro rfl; rfl
theorem strOf_size (l : List Int) : (strOf l).size = l.length := by simp [strOf, ByteArray.size]
theorem ints_in (s : ByteArray) : ∀ x ∈ ints s, In .u8 x := by
  intro x hx
  simp only [ints, List.mem_map] at hx
  obtain ⟨b, _, rfl⟩ := hx
  have := b.toNat_lt
  refine ⟨?_, ?_⟩
  · show IntKind.u8.min ≤ _
    rw [IntKind.min_u8]; omega
  · rw [IntKind.max_u8]; omega
theorem strOf_append (l m : List Int) : strOf l ++ strOf m = strOf (l ++ m) := by
  apply ByteArray.ext
  simp [strOf, ByteArray.data_append]

def Ad.D (e : Env) (ρ : Rho) (a : Ad) (A : Addr) : Prop :=
  ∃ b' o r, ρ[a.b]? = some (b', o, r) ∧ match a.ix with
    | none => A = ⟨b', o + a.off, none⟩
    | some (i, w) => 0 ≤ i.den e ∧ A = ⟨b', o + a.off + (i.den e).toNat * w, none⟩

def AdsD (e : Env) (ρ : Rho) : List Ad → List Value → Prop
  | [], vs => vs = []
  | a :: r, vs => ∃ A vs', a.D e ρ A ∧ vs = .pointer (some A) :: vs' ∧ AdsD e ρ r vs'

/-- A capacity: known, or its block's room. -/
def Ad.wid (a : Ad) : Nat := match a.ix with
  | none => 1
  | some (_, w) => w
/-- Where an address stands in what is known of its block. -/
def Ad.pos (e : Env) (a : Ad) : Nat := match a.ix with
  | none => a.off
  | some (i, w) => a.off + (i.den e).toNat * w
def CapIs (e : Env) (ρ : Rho) (a : Ad) (cap : Option IExp) (c : Nat) : Prop := match cap with
  | some x => (c : Int) = x.den e
  | none => ∃ b' o r, ρ[a.b]? = some (b', o, r) ∧ c * a.wid + a.pos e = r

def Cell.D (e : Env) (ρ : Rho) : Cell → Value → Prop
  | .b x, v => v = .bool (x.den e)
  | .i k x, v => v = .int k (x.den e)
  | .s x, v => v = .string (strOf (x.den e))
  | .p none, v => v = .pointer none
  | .p (some a), v => ∃ A, a.D e ρ A ∧ v = .pointer (some A)
  | .sl none l cap, v => v = .slice none 0 0 ∧ l.den e = 0 ∧ ∃ x, cap = some x ∧ x.den e = 0
  | .sl (some a) l cap, v => ∃ o n c, v = .slice o n c ∧ (n : Int) = l.den e ∧ n ≤ c ∧ ((∃ A, a.D e ρ A ∧ o = some A ∧ CapIs e ρ a cap c) ∨ (n = 0 ∧ c = 0 ∧ ∀ x, cap = some x → x.den e = 0))
  | .fn f caps, v => ∃ vs, AdsD e ρ caps vs ∧ v = .func (.func f) #[] vs.toArray
  | .nf, v => v = .nilFunc

def CellsD (e : Env) (ρ : Rho) : List Cell → List Value → Prop
  | [], vs => vs = []
  | x :: r, vs => ∃ v vs', vs = v :: vs' ∧ x.D e ρ v ∧ CellsD e ρ r vs'


/-! ### Tables: rows of flat structs, told column by column -/
def grid (F : Nat → Nat → Value) (w : Nat) : Nat → List Value
  | 0 => []
  | n + 1 => grid F w n ++ (List.range w).map (F n)
theorem grid_len (F : Nat → Nat → Value) (w : Nat) : ∀ n, (grid F w n).length = n * w
  | 0 => by simp [grid]
  | n + 1 => by simp [grid, grid_len F w n, Nat.succ_mul]
theorem grid_congr {F G : Nat → Nat → Value} {w : Nat} : ∀ {n : Nat}, (∀ j r, j < n → r < w → F j r = G j r) → grid F w n = grid G w n
  | 0, _ => rfl
  | n + 1, h => by
    simp only [grid]
    rw [grid_congr (fun j r hj hr => h j r (by omega) hr)]
    congr 1
    apply List.map_congr_left
    intro r hr
    exact h n r (by omega) (List.mem_range.1 hr)
theorem grid_add (F : Nat → Nat → Value) (w n : Nat) : ∀ m, grid F w (n + m) = grid F w n ++ grid (fun j r => F (n + j) r) w m
  | 0 => by simp [grid]
  | m + 1 => by
    rw [show n + (m + 1) = (n + m) + 1 by omega]
    simp only [grid]
    rw [grid_add F w n m, List.append_assoc]
theorem grid_take {F : Nat → Nat → Value} {w m n : Nat} (h : m ≤ n) : (grid F w n).take (m * w) = grid F w m := by
  obtain ⟨k, rfl⟩ : ∃ k, n = m + k := ⟨n - m, by omega⟩
  rw [grid_add, List.take_append_of_le_length (by rw [grid_len]; exact Nat.le_refl _), List.take_of_length_le (by rw [grid_len]; exact Nat.le_refl _)]
theorem grid_drop {F : Nat → Nat → Value} {w m n : Nat} (h : m ≤ n) : (grid F w n).drop (m * w) = grid (fun j r => F (m + j) r) w (n - m) := by
  obtain ⟨k, rfl⟩ : ∃ k, n = m + k := ⟨n - m, by omega⟩
  rw [grid_add, List.drop_append_of_le_length (by rw [grid_len]; exact Nat.le_refl _), List.drop_eq_nil_of_le (by rw [grid_len]; exact Nat.le_refl _), List.nil_append]
  congr 1; omega
theorem grid_get {F : Nat → Nat → Value} {w n q r : Nat} (hq : q < n) (hr : r < w) : (grid F w n)[q * w + r]? = some (F q r) := by
  obtain ⟨k, rfl⟩ : ∃ k, n = q + (1 + k) := ⟨n - q - 1, by omega⟩
  rw [grid_add, List.getElem?_append_right (by rw [grid_len]; omega), grid_len, Nat.add_sub_cancel_left, grid_add, List.getElem?_append_left (by rw [grid_len]; omega)]
  simp only [grid, List.nil_append, List.getElem?_map, List.getElem?_range hr, Option.map_some, Nat.add_zero]
theorem grid_out {F : Nat → Nat → Value} {w n x : Nat} (h : n * w ≤ x) : (grid F w n)[x]? = none := List.getElem?_eq_none (by rw [grid_len]; exact h)
theorem grid_mem {F : Nat → Nat → Value} {w n : Nat} {v : Value} (h : v ∈ grid F w n) : ∃ j r, j < n ∧ r < w ∧ v = F j r := by
  obtain ⟨x, hx⟩ := List.mem_iff_getElem?.1 h
  by_cases hlt : x < n * w
  · have hw : 0 < w := by
      rcases Nat.eq_zero_or_pos w with h0 | h0
      · subst h0; simp at hlt
      · exact h0
    have h1 : x / w < n := Nat.div_lt_of_lt_mul (by rwa [Nat.mul_comm] at hlt)
    have h2 : x % w < w := Nat.mod_lt _ hw
    have h3 := grid_get (F := F) h1 h2
    rw [Nat.mul_comm, Nat.div_add_mod] at h3
    rw [h3] at hx
    exact ⟨_, _, h1, h2, (Option.some.inj hx).symm⟩
  · rw [grid_out (by omega)] at hx; cases hx
/-- Some cells of one row laid anew. -/
theorem grid_put {F G : Nat → Nat → Value} {w n q off : Nat} {nv : List Value} (hq : q < n) (hl : off + nv.length ≤ w) (hF : ∀ j r, j < n → r < w → (j ≠ q ∨ r < off ∨ off + nv.length ≤ r) → G j r = F j r) (hG : ∀ r v, nv[r]? = some v → G q (off + r) = v) :
    grid G w n = (grid F w n).take (off + q * w) ++ nv ++ (grid F w n).drop (off + q * w + nv.length) := by
  have hlen := grid_len F w n
  have hqw : q * w + w ≤ n * w := by rw [← Nat.succ_mul]; exact Nat.mul_le_mul_right _ hq
  apply List.ext_getElem?
  intro x
  by_cases hx : x < n * w
  · have hw : 0 < w := by
      rcases Nat.eq_zero_or_pos w with h0 | h0
      · subst h0; simp at hx
      · exact h0
    have h1 : x / w < n := Nat.div_lt_of_lt_mul (by rwa [Nat.mul_comm] at hx)
    have h2 : x % w < w := Nat.mod_lt _ hw
    have h3 := Nat.div_add_mod x w
    rw [Nat.mul_comm] at h3
    have g1 : (grid G w n)[x]? = some (G (x / w) (x % w)) := by have := grid_get (F := G) h1 h2; rwa [h3] at this
    have g2 : (grid F w n)[x]? = some (F (x / w) (x % w)) := by have := grid_get (F := F) h1 h2; rwa [h3] at this
    rw [g1]
    have far : ∀ j r, j * w + r = x → r < w → x / w = j ∧ x % w = r := by
      intro j r hj hr
      rw [← hj]
      exact ⟨by rw [Nat.mul_comm, Nat.mul_add_div hw, Nat.div_eq_of_lt hr, Nat.add_zero], by rw [Nat.mul_comm, Nat.mul_add_mod, Nat.mod_eq_of_lt hr]⟩
    by_cases hlo : x < off + q * w
    · rw [List.append_assoc, List.getElem?_append_left (by rw [List.length_take]; omega), List.getElem?_take_of_lt hlo, g2]
      congr 1
      refine hF _ _ h1 h2 ?_
      by_cases hjq : x / w = q
      · right; left
        rw [hjq] at h3; omega
      · exact .inl hjq
    · by_cases hmid : x < off + q * w + nv.length
      · rw [List.append_assoc, List.getElem?_append_right (by rw [List.length_take]; omega), List.length_take, Nat.min_eq_left (by omega), List.getElem?_append_left (by omega)]
        obtain ⟨k1, k2⟩ := far q (x - q * w) (by omega) (by omega)
        have hg := hG (x - (off + q * w)) _ (List.getElem?_eq_getElem (by omega))
        rw [List.getElem?_eq_getElem (by omega), ← hg, k1, k2]
        congr 2; omega
      · rw [List.getElem?_append_right (by rw [List.length_append, List.length_take]; omega), List.length_append, List.length_take, Nat.min_eq_left (by omega), List.getElem?_drop, show off + q * w + nv.length + (x - (off + q * w + nv.length)) = x by omega, g2]
        congr 1
        refine hF _ _ h1 h2 ?_
        by_cases hjq : x / w = q
        · right; right
          rw [hjq] at h3; omega
        · exact .inl hjq
  · rw [grid_out (by omega), List.getElem?_eq_none (by simp only [List.length_append, List.length_take, List.length_drop, hlen]; omega)]

def Col.a : Col → AExp
  | .b a => a
  | .i _ a => a
def Col.val (c : Col) (n : Int) : Value := match c with
  | .b _ => .bool (decide (n ≠ 0))
  | .i k _ => .int k n
def tabF (e : Env) (cols : List Col) (j r : Nat) : Value := match cols[r]? with
  | some c => c.val ((c.a.den e).getD j 0)
  | none => undef
structure TabD (e : Env) (n : IExp) (cols : List Col) (vs : List Value) : Prop where
  n0 : 0 ≤ n.den e
  w : 0 < cols.length
  len : ∀ c ∈ cols, (c.a.den e).length = (n.den e).toNat
  is : vs = grid (tabF e cols) cols.length (n.den e).toNat
theorem TabD.one {e : Env} {n : IExp} {cols : List Col} {vs : List Value} (h : TabD e n cols vs) : ∀ v ∈ vs, v.oneCell' = true := by
  intro v hv
  rw [h.is] at hv
  obtain ⟨j, r, _, hr, rfl⟩ := grid_mem hv
  unfold tabF
  rw [List.getElem?_eq_getElem hr]
  cases cols[r] <;> rfl
theorem TabD.length {e : Env} {n : IExp} {cols : List Col} {vs : List Value} (h : TabD e n cols vs) : vs.length = (n.den e).toNat * cols.length := by
  rw [h.is, grid_len]

/-- A row of elements of which one is known. -/
structure ElD (e : Env) (ρ : Rho) (n : IExp) (w : Nat) (j : IExp) (l : List Cell) (pre mid post : List Value) : Prop where
  md : CellsD e ρ l mid
  wid : mid.length = w
  j0 : 0 ≤ j.den e
  at' : (pre.length : Int) = j.den e * w
  all : ((pre ++ mid ++ post).length : Int) = n.den e * w
  one : ∀ v ∈ pre ++ post, v.oneCell' = true

def SegsD (e : Env) (ρ : Rho) : List Seg → List Value → Prop
  | [], vs => vs = []
  | .c x :: r, vs => ∃ v vs', vs = v :: vs' ∧ x.D e ρ v ∧ SegsD e ρ r vs'
  | .arr k n a :: r, vs => ∃ vs', vs = (a.den e).map (.int k) ++ vs' ∧ (a.den e).length = n ∧ SegsD e ρ r vs'
  | .row k a :: r, vs => ∃ vs', vs = (a.den e).map (.int k) ++ vs' ∧ SegsD e ρ r vs'
  | .el n w j l :: r, vs => ∃ pre mid post vs', vs = pre ++ mid ++ post ++ vs' ∧ ElD e ρ n w j l pre mid post ∧ SegsD e ρ r vs'
  | .tab n cols :: r, vs => ∃ tv vs', vs = tv ++ vs' ∧ TabD e n cols tv ∧ SegsD e ρ r vs'

def SV.D (e : Env) (ρ : Rho) : SV → Value → Prop
  | .c x, v => x.D e ρ v
  | .agg l, v => ∃ vs, v = .agg vs.toArray ∧ SegsD e ρ l vs

def SVsD (e : Env) (ρ : Rho) : List SV → List Value → Prop
  | [], vs => vs = []
  | x :: r, vs => ∃ v vs', vs = v :: vs' ∧ x.D e ρ v ∧ SVsD e ρ r vs'

def SVal.D (e : Env) (ρ : Rho) : SVal → Value → Prop
  | .v x, w => x.D e ρ w
  | .tup l, w => ∃ vs, w = .tuple vs.toArray ∧ SVsD e ρ l vs
  | .any, _ => True
  | .val j, w => w = e.v j

def SValsD (e : Env) (ρ : Rho) : List SVal → List Value → Prop
  | [], vs => vs = []
  | x :: r, vs => ∃ v vs', vs = v :: vs' ∧ x.D e ρ v ∧ SValsD e ρ r vs'

/-- The map of blocks has grown. -/
def Pre (ρ ρ' : Rho) : Prop := ∃ r, ρ' = ρ ++ r
theorem Pre.refl (ρ : Rho) : Pre ρ ρ := ⟨[], by simp⟩
theorem Pre.trans {a b c : Rho} (h : Pre a b) (k : Pre b c) : Pre a c := by
  obtain ⟨r, rfl⟩ := h; obtain ⟨q, rfl⟩ := k; exact ⟨r ++ q, by simp⟩
theorem Pre.get {a b : Rho} (h : Pre a b) {i : Nat} {x : Nat × Nat × Nat} (hx : a[i]? = some x) : b[i]? = some x := by
  obtain ⟨r, rfl⟩ := h
  have hi : i < a.length := (List.getElem?_eq_some_iff.1 hx).1
  rw [List.getElem?_append_left hi, hx]
theorem Pre.length {a b : Rho} (h : Pre a b) : a.length ≤ b.length := by obtain ⟨r, rfl⟩ := h; simp

section mono
variable {e : Env} {ρ ρ' : Rho} (hp : Pre ρ ρ')
include hp
theorem Ad.mono {a : Ad} {A : Addr} (h : a.D e ρ A) : a.D e ρ' A := by
  obtain ⟨b', o, r, hb, h⟩ := h; exact ⟨b', o, r, hp.get hb, h⟩
theorem CapIs.mono {a : Ad} {c : Nat} {cap : Option IExp} (h : CapIs e ρ a cap c) : CapIs e ρ' a cap c := by
  cases cap with
  | some x => exact h
  | none => obtain ⟨b', o, r, h, h'⟩ := h; exact ⟨b', o, r, hp.get h, h'⟩
theorem AdsD.mono : ∀ {l : List Ad} {vs : List Value}, AdsD e ρ l vs → AdsD e ρ' l vs
  | [], _, h => h
  | _ :: _, _, ⟨A, vs', h1, h2, h3⟩ => ⟨A, vs', Ad.mono hp h1, h2, AdsD.mono h3⟩
theorem Cell.mono {x : Cell} {v : Value} (h : x.D e ρ v) : x.D e ρ' v := by
  cases x with
  | p a => cases a with
    | none => exact h
    | some a => obtain ⟨A, h1, h2⟩ := h; exact ⟨A, Ad.mono hp h1, h2⟩
  | sl a l c => cases a with
    | none => exact h
    | some a =>
      obtain ⟨o, n, c, h1, h2, h3, h4⟩ := h
      refine ⟨o, n, c, h1, h2, h3, ?_⟩
      rcases h4 with ⟨A, h4, h5, h6⟩ | h4
      · exact .inl ⟨A, Ad.mono hp h4, h5, CapIs.mono hp h6⟩
      · exact .inr h4
  | fn f caps => obtain ⟨vs, h1, h2⟩ := h; exact ⟨vs, AdsD.mono hp h1, h2⟩
  | _ => exact h
theorem CellsD.mono : ∀ {l : List Cell} {vs : List Value}, CellsD e ρ l vs → CellsD e ρ' l vs
  | [], _, h => h
  | _ :: _, _, ⟨v, vs', h1, h2, h3⟩ => ⟨v, vs', h1, Cell.mono hp h2, CellsD.mono h3⟩
theorem ElD.mono {n : IExp} {w : Nat} {j : IExp} {l : List Cell} {pre mid post : List Value} (h : ElD e ρ n w j l pre mid post) : ElD e ρ' n w j l pre mid post :=
  ⟨CellsD.mono hp h.md, h.wid, h.j0, h.at', h.all, h.one⟩
theorem SegsD.mono : ∀ {l : List Seg} {vs : List Value}, SegsD e ρ l vs → SegsD e ρ' l vs
  | [], _, h => h
  | .c _ :: _, _, ⟨v, vs', h1, h2, h3⟩ => ⟨v, vs', h1, Cell.mono hp h2, SegsD.mono h3⟩
  | .arr _ _ _ :: _, _, ⟨vs', h1, h2, h3⟩ => ⟨vs', h1, h2, SegsD.mono h3⟩
  | .row _ _ :: _, _, ⟨vs', h1, h3⟩ => ⟨vs', h1, SegsD.mono h3⟩
  | .el _ _ _ _ :: _, _, ⟨p, m, q, vs', h1, h2, h3⟩ => ⟨p, m, q, vs', h1, ElD.mono hp h2, SegsD.mono h3⟩
  | .tab _ _ :: _, _, ⟨tv, vs', h1, h2, h3⟩ => ⟨tv, vs', h1, h2, SegsD.mono h3⟩
theorem SV.mono {x : SV} {v : Value} (h : x.D e ρ v) : x.D e ρ' v := by
  cases x with
  | c x => exact Cell.mono hp h
  | agg l => obtain ⟨vs, h1, h2⟩ := h; exact ⟨vs, h1, SegsD.mono hp h2⟩
theorem SVsD.mono : ∀ {l : List SV} {vs : List Value}, SVsD e ρ l vs → SVsD e ρ' l vs
  | [], _, h => h
  | _ :: _, _, ⟨v, vs', h1, h2, h3⟩ => ⟨v, vs', h1, SV.mono hp h2, SVsD.mono h3⟩
theorem SVal.mono {x : SVal} {v : Value} (h : x.D e ρ v) : x.D e ρ' v := by
  cases x with
  | v x => exact SV.mono hp h
  | tup l => obtain ⟨vs, h1, h2⟩ := h; exact ⟨vs, h1, SVsD.mono hp h2⟩
  | any => trivial
  | val j => exact h
theorem SValsD.mono : ∀ {l : List SVal} {vs : List Value}, SValsD e ρ l vs → SValsD e ρ' l vs
  | [], _, h => h
  | _ :: _, _, ⟨v, vs', h1, h2, h3⟩ => ⟨v, vs', h1, SVal.mono hp h2, SValsD.mono h3⟩
end mono

theorem Cell.one {e : Env} {ρ : Rho} {x : Cell} {v : Value} (h : x.D e ρ v) : v.oneCell' = true ∧ v.cells = #[v] := by
  cases x with
  | p a => cases a with
    | none => cases h; exact ⟨rfl, rfl⟩
    | some a => obtain ⟨A, _, rfl⟩ := h; exact ⟨rfl, rfl⟩
  | sl a l c => cases a with
    | none => obtain ⟨rfl, _⟩ := h; exact ⟨rfl, rfl⟩
    | some a => obtain ⟨o, n, c, rfl, _⟩ := h; exact ⟨rfl, rfl⟩
  | fn f caps => obtain ⟨vs, _, rfl⟩ := h; exact ⟨rfl, rfl⟩
  | _ => cases h; exact ⟨rfl, rfl⟩

theorem CellsD.one {e : Env} {ρ : Rho} : ∀ {l : List Cell} {vs : List Value}, CellsD e ρ l vs → ∀ v ∈ vs, v.oneCell' = true
  | [], _, h, v, hv => by cases h; cases hv
  | _ :: _, _, ⟨u, vs', h1, h2, h3⟩, v, hv => by
    subst h1
    rcases List.mem_cons.1 hv with rfl | hv
    · exact (Cell.one h2).1
    · exact CellsD.one h3 v hv
theorem CellsD.length {e : Env} {ρ : Rho} : ∀ {l : List Cell} {vs : List Value}, CellsD e ρ l vs → l.length = vs.length
  | [], _, h => by cases h; rfl
  | _ :: _, _, ⟨u, vs', h1, _, h3⟩ => by subst h1; simp [CellsD.length h3]
theorem CellsD.get {e : Env} {ρ : Rho} : ∀ {l : List Cell} {vs : List Value} {i : Nat} {x : Cell}, CellsD e ρ l vs → l[i]? = some x → ∃ v, vs[i]? = some v ∧ x.D e ρ v
  | [], _, _, _, _, h => by simp at h
  | y :: r, _, 0, x, ⟨v, vs', h1, h2, _⟩, h => by subst h1; simp at h; subst h; exact ⟨v, rfl, h2⟩
  | y :: r, _, i + 1, x, ⟨v, vs', h1, _, h3⟩, h => by
    subst h1
    obtain ⟨u, hu, hx⟩ := CellsD.get h3 (by simpa using h)
    exact ⟨u, by simpa using hu, hx⟩
theorem CellsD.drop {e : Env} {ρ : Rho} : ∀ {l : List Cell} {vs : List Value} (n : Nat), CellsD e ρ l vs → CellsD e ρ (l.drop n) (vs.drop n)
  | l, vs, 0, h => by simpa using h
  | [], _, n + 1, h => by cases h; rfl
  | _ :: _, _, n + 1, ⟨u, vs', h1, _, h3⟩ => by subst h1; simpa using CellsD.drop n h3
theorem CellsD.take {e : Env} {ρ : Rho} : ∀ {l : List Cell} {vs : List Value} (n : Nat), CellsD e ρ l vs → CellsD e ρ (l.take n) (vs.take n)
  | l, vs, 0, h => by simp [CellsD]
  | [], _, n + 1, h => by cases h; rfl
  | _ :: _, _, n + 1, ⟨u, vs', h1, h2, h3⟩ => by subst h1; exact ⟨u, vs'.take n, by simp, h2, CellsD.take n h3⟩
theorem CellsD.segs {e : Env} {ρ : Rho} : ∀ {l : List Cell} {vs : List Value}, CellsD e ρ l vs → SegsD e ρ (l.map Seg.c) vs
  | [], _, h => h
  | _ :: _, _, ⟨u, vs', h1, h2, h3⟩ => ⟨u, vs', h1, h2, CellsD.segs h3⟩

theorem SegsD.one {e : Env} {ρ : Rho} : ∀ {l : List Seg} {vs : List Value}, SegsD e ρ l vs → ∀ v ∈ vs, v.oneCell' = true
  | [], _, h, v, hv => by cases h; cases hv
  | .c _ :: _, _, ⟨u, vs', h1, h2, h3⟩, v, hv => by
    subst h1
    rcases List.mem_cons.1 hv with rfl | hv
    · exact (Cell.one h2).1
    · exact SegsD.one h3 v hv
  | .arr k _ a :: _, _, ⟨vs', h1, _, h3⟩, v, hv => by
    subst h1
    rcases List.mem_append.1 hv with hv | hv
    · obtain ⟨n, _, rfl⟩ := List.mem_map.1 hv; rfl
    · exact SegsD.one h3 v hv
  | .row k a :: _, _, ⟨vs', h1, h3⟩, v, hv => by
    subst h1
    rcases List.mem_append.1 hv with hv | hv
    · obtain ⟨n, _, rfl⟩ := List.mem_map.1 hv; rfl
    · exact SegsD.one h3 v hv
  | .el _ _ _ _ :: _, _, ⟨p, m, q, vs', h1, h2, h3⟩, v, hv => by
    subst h1
    rcases List.mem_append.1 hv with hv | hv
    · rcases List.mem_append.1 hv with hv | hv
      · rcases List.mem_append.1 hv with hv | hv
        · exact h2.one v (List.mem_append_left _ hv)
        · exact CellsD.one h2.md v hv
      · exact h2.one v (List.mem_append_right _ hv)
    · exact SegsD.one h3 v hv
  | .tab _ _ :: _, _, ⟨tv, vs', h1, h2, h3⟩, v, hv => by
    subst h1
    rcases List.mem_append.1 hv with hv | hv
    · exact h2.one v hv
    · exact SegsD.one h3 v hv

def SV.segs : SV → List Seg
  | .c x => [.c x]
  | .agg l => l
theorem SV.segs_D {e : Env} {ρ : Rho} {x : SV} {v : Value} (h : x.D e ρ v) : SegsD e ρ x.segs v.cells.toList := by
  cases x with
  | c x => exact ⟨v, [], by rw [Cell.one h |>.2], h, rfl⟩
  | agg l => obtain ⟨vs, rfl, h⟩ := h; exact h

/-- How many cells, where that is a number. -/
def segsLen : List Seg → Option Nat
  | [] => some 0
  | .c _ :: r => (segsLen r).map (1 + ·)
  | .arr _ n _ :: r => (segsLen r).map (n + ·)
  | .row _ _ :: _ => none
  | .el _ _ _ _ :: _ => none
  | .tab _ _ :: _ => none
theorem segsLen_eq {e : Env} {ρ : Rho} : ∀ {l : List Seg} {vs : List Value} {n : Nat}, SegsD e ρ l vs → segsLen l = some n → n = vs.length
  | [], _, _, h, hn => by cases h; simp only [segsLen, Option.some.injEq] at hn; simp [← hn]
  | .c _ :: _, _, _, ⟨u, vs', h1, _, h3⟩, hn => by
    subst h1
    simp only [segsLen, Option.map_eq_some_iff] at hn
    obtain ⟨m, hm, rfl⟩ := hn
    rw [List.length_cons, ← segsLen_eq h3 hm]; omega
  | .arr k n a :: _, _, _, ⟨vs', h1, h2, h3⟩, hn => by
    subst h1
    simp only [segsLen, Option.map_eq_some_iff] at hn
    obtain ⟨m, hm, rfl⟩ := hn
    rw [List.length_append, List.length_map, ← segsLen_eq h3 hm, h2]
  | .row _ _ :: _, _, _, _, hn => by cases hn
  | .el _ _ _ _ :: _, _, _, _, hn => by cases hn
  | .tab _ _ :: _, _, _, _, hn => by cases hn

theorem SegsD.append {e : Env} {ρ : Rho} : ∀ {l l' : List Seg} {vs vs' : List Value}, SegsD e ρ l vs → SegsD e ρ l' vs' → SegsD e ρ (l ++ l') (vs ++ vs')
  | [], _, _, _, h, h' => by cases h; exact h'
  | .c _ :: _, _, _, _, ⟨u, vs2, h1, h2, h3⟩, h' => by subst h1; exact ⟨u, vs2 ++ _, rfl, h2, h3.append h'⟩
  | .arr k n a :: _, _, _, _, ⟨vs2, h1, h2, h3⟩, h' => by subst h1; exact ⟨vs2 ++ _, by simp, h2, h3.append h'⟩
  | .row k a :: _, _, _, _, ⟨vs2, h1, h3⟩, h' => by subst h1; exact ⟨vs2 ++ _, by simp, h3.append h'⟩
  | .el _ _ _ _ :: _, _, _, _, ⟨p, m, q, vs2, h1, h2, h3⟩, h' => by subst h1; exact ⟨p, m, q, vs2 ++ _, by simp, h2, h3.append h'⟩
  | .tab _ _ :: _, _, _, _, ⟨tv, vs2, h1, h2, h3⟩, h' => by subst h1; exact ⟨tv, vs2 ++ _, by simp, h2, h3.append h'⟩

/-- Elements lo, lo+1, .. (n of them) of an array, cell by cell. -/
def spread (as : Asm) (k : IntKind) (a : AExp) (lo : Nat) : Nat → List Seg
  | 0 => []
  | n + 1 => .c (.i k (mkSel as k a (.lit lo))) :: spread as k a (lo + 1) n
theorem spread_D {e : Env} (ok : EnvOk e) {as : Asm} (ha : AsmOk e as) {ρ : Rho} {k : IntKind} {a : AExp} : ∀ {n lo : Nat}, lo + n ≤ (a.den e).length → SegsD e ρ (spread as k a lo n) ((((a.den e).map (Value.int k)).drop lo).take n)
  | 0, lo, _ => by simp [spread, SegsD]
  | n + 1, lo, h => by
    have hl : lo < ((a.den e).map (Value.int k)).length := by simp; omega
    have hs := mkSel_den ok ha (k := k) a (.lit lo) (by rw [litD]; omega) (by rw [litD]; omega)
    rw [litD, Int.toNat_natCast] at hs
    refine ⟨Value.int k ((a.den e).getD lo 0), ((((a.den e).map (Value.int k)).drop (lo + 1)).take n), ?_, ?_, spread_D ok ha (by omega)⟩
    · rw [List.drop_eq_getElem_cons hl, List.take_succ_cons]
      simp only [List.getElem_map, List.getD_eq_getElem?_getD]
      rw [List.getElem?_eq_getElem (by omega)]; rfl
    · simp only [Cell.D, hs]

theorem get_map_int {k : IntKind} {l : List Int} {i : Nat} (h : i < l.length) : (l.map (Value.int k))[i]? = some (.int k (l.getD i 0)) := by
  simp [List.getElem?_map, List.getD_eq_getElem?_getD, List.getElem?_eq_getElem h]

section reads
variable {e : Env} (ok : EnvOk e) {as : Asm} (ha : AsmOk e as) {ρ : Rho}

def ofBit : IExp → BExp
  | .bit b => b
  | .lit n => .lit (decide (n ≠ 0))
  | x => .not (.eq x (.lit 0))
theorem ofBit_den (e : Env) (x : IExp) : (ofBit x).den e = decide (x.den e ≠ 0) := by
  unfold ofBit
  split
  · rename_i b
    simp only [IExp.den]
    by_cases hb : b.den e = true
    · simp [hb]
    · simp [hb]
  · simp only [BExp.den]
    exact decide_eq_decide.2 (by rw [litD])
  · simp only [BExp.den, litD]
    exact not_decide_same Iff.rfl
/-- A cell of a table. -/
def colCell (as : Asm) (c : Col) (i : IExp) : Cell := match c with
  | .b a => .b (ofBit (mkSel as .u8 a i))
  | .i k a => .i k (mkSel as k a i)
include ok ha in
theorem colCell_D {c : Col} {i : IExp} (h0 : 0 ≤ i.den e) (h1 : i.den e < ((c.a.den e).length : Int)) : (colCell as c i).D e ρ (c.val ((c.a.den e).getD (i.den e).toNat 0)) := by
  cases c with
  | b a => simp only [colCell, Cell.D, Col.val, ofBit_den, mkSel_den ok ha a i h0 h1]; rfl
  | i k a => simp only [colCell, Cell.D, Col.val, mkSel_den ok ha a i h0 h1]; rfl
theorem tabF_of {cols : List Col} {r : Nat} {c : Col} (h : cols[r]? = some c) (j : Nat) : tabF e cols j r = c.val ((c.a.den e).getD j 0) := by simp only [tabF, h]
include ok ha in
theorem tab_cell {n : IExp} {cols : List Col} {tv : List Value} (hT : TabD e n cols tv) {off : Nat} {c : Col} {i : IExp} (h0 : 0 ≤ i.den e) (h1 : i.den e < n.den e) (hc : cols[off]? = some c) :
    ∃ v, tv[off + (i.den e).toNat * cols.length]? = some v ∧ (colCell as c i).D e ρ v := by
  have hn := hT.n0
  have hoff := (List.getElem?_eq_some_iff.1 hc).1
  have hl := hT.len c (List.mem_of_getElem? hc)
  refine ⟨_, ?_, colCell_D ok ha h0 (by omega)⟩
  rw [hT.is, Nat.add_comm, grid_get (by omega) hoff, tabF_of hc]
theorem segs_map {α : Type} (f : α → Cell) (g : α → Value) : ∀ (l : List α), (∀ c ∈ l, (f c).D e ρ (g c)) → SegsD e ρ (l.map fun c => Seg.c (f c)) (l.map g)
  | [], _ => rfl
  | c :: l, h => ⟨g c, l.map g, rfl, h c List.mem_cons_self, segs_map f g l fun d hd => h d (List.mem_cons_of_mem _ hd)⟩
include ok ha in
theorem tab_cells {n : IExp} {cols : List Col} {tv : List Value} (hT : TabD e n cols tv) {off m : Nat} {i : IExp} (h0 : 0 ≤ i.den e) (h1 : i.den e < n.den e) (hm : off + m ≤ cols.length) :
    off + (i.den e).toNat * cols.length + m ≤ tv.length ∧ SegsD e ρ (((cols.drop off).take m).map fun c => Seg.c (colCell as c i)) ((tv.drop (off + (i.den e).toNat * cols.length)).take m) := by
  have hn := hT.n0
  have hq : (i.den e).toNat < (n.den e).toNat := by omega
  have hqw : (i.den e).toNat * cols.length + cols.length ≤ (n.den e).toNat * cols.length := by rw [← Nat.succ_mul]; exact Nat.mul_le_mul_right _ hq
  have hlen := hT.length
  refine ⟨by omega, ?_⟩
  have hv : (tv.drop (off + (i.den e).toNat * cols.length)).take m = ((cols.drop off).take m).map fun c => c.val ((c.a.den e).getD (i.den e).toNat 0) := by
    apply List.ext_getElem?
    intro x
    by_cases hx : x < m
    · rw [List.getElem?_take_of_lt hx, List.getElem?_drop, List.getElem?_map, List.getElem?_take_of_lt hx, List.getElem?_drop, hT.is, show off + (i.den e).toNat * cols.length + x = (i.den e).toNat * cols.length + (off + x) by omega, grid_get hq (by omega), List.getElem?_eq_getElem (by omega), Option.map_some, tabF_of (List.getElem?_eq_getElem (by omega))]
    · rw [List.getElem?_eq_none (by rw [List.length_take]; omega), List.getElem?_eq_none (by rw [List.length_map, List.length_take]; omega)]
  rw [hv]
  refine segs_map (fun c => colCell as c i) _ _ fun c hc => colCell_D ok ha h0 ?_
  have hc : c ∈ cols := List.mem_of_mem_drop (List.mem_of_mem_take hc)
  rw [hT.len c hc]; omega

def readAt (as : Asm) : List Seg → Nat → Option Cell
  | [], _ => none
  | .c x :: _, 0 => some x
  | .c _ :: r, n + 1 => readAt as r n
  | .arr k n a :: r, off => if off < n then some (.i k (mkSel as k a (.lit off))) else readAt as r (off - n)
  | .row k a :: _, off => if knowsLt as (.lit off) (mkLen as a) then some (.i k (mkSel as k a (.lit off))) else none
  | .el _ _ _ _ :: _, _ => none
  | .tab n cols :: _, off => if knowsLt as (.lit ((off / cols.length : Nat) : Int)) n = true then (cols[off % cols.length]?).map fun c => colCell as c (.lit ((off / cols.length : Nat) : Int)) else none
include ok ha in
theorem readAt_ok : ∀ {l : List Seg} {vs : List Value} {off : Nat} {x : Cell}, SegsD e ρ l vs → readAt as l off = some x → ∃ v, vs[off]? = some v ∧ x.D e ρ v
  | [], _, _, _, _, h => by cases h
  | .c y :: _, _, 0, x, ⟨u, vs', h1, h2, h3⟩, h => by
    simp only [readAt, Option.some.injEq] at h
    subst h1 h; exact ⟨u, rfl, h2⟩
  | .c y :: r, _, n + 1, x, ⟨u, vs', h1, h2, h3⟩, h => by
    simp only [readAt] at h
    subst h1
    obtain ⟨v, hv, hx⟩ := readAt_ok h3 h
    exact ⟨v, by simpa using hv, hx⟩
  | .arr k n a :: r, _, off, x, ⟨vs', h1, h2, h3⟩, h => by
    simp only [readAt] at h
    subst h1
    split at h
    · rename_i hlt
      cases h
      have hs := mkSel_den ok ha (k := k) a (.lit off) (by rw [litD]; omega) (by rw [litD]; omega)
      rw [litD, Int.toNat_natCast] at hs
      refine ⟨.int k ((a.den e).getD off 0), ?_, by simp only [Cell.D, hs]⟩
      rw [List.getElem?_append_left (by simp; omega), get_map_int (by omega)]
    · rename_i hge
      obtain ⟨v, hv, hx⟩ := readAt_ok h3 h
      refine ⟨v, ?_, hx⟩
      rw [List.getElem?_append_right (by simp; omega)]
      simpa [h2] using hv
  | .row k a :: r, _, off, x, ⟨vs', h1, h3⟩, h => by
    simp only [readAt] at h
    subst h1
    split at h
    · rename_i hk
      cases h
      have hlt := knowsLt_ok ok ha hk
      rw [litD, mkLen_den ok ha] at hlt
      have hs := mkSel_den ok ha (k := k) a (.lit off) (by rw [litD]; omega) (by rw [litD]; omega)
      rw [litD, Int.toNat_natCast] at hs
      refine ⟨.int k ((a.den e).getD off 0), ?_, by simp only [Cell.D, hs]⟩
      rw [List.getElem?_append_left (by simp; omega), get_map_int (by omega)]
    · cases h
  | .el _ _ _ _ :: _, _, _, _, _, h => by cases h
  | .tab n cols :: _, _, off, x, ⟨tv, vs', h1, h2, h3⟩, h => by
    subst h1
    simp only [readAt] at h
    split at h
    · rename_i hk
      obtain ⟨c, hc, rfl⟩ := Option.map_eq_some_iff.1 h
      have hlt := knowsLt_ok ok ha hk
      rw [litD] at hlt
      obtain ⟨v, hv, hD⟩ := tab_cell (ρ := ρ) ok ha h2 (i := .lit ((off / cols.length : Nat) : Int)) (by rw [litD]; exact Int.natCast_nonneg _) (by rw [litD]; exact hlt) hc
      rw [litD, Int.toNat_natCast, Nat.add_comm, Nat.mul_comm, Nat.div_add_mod] at hv
      exact ⟨v, by rw [List.getElem?_append_left (List.getElem?_eq_some_iff.1 hv).1]; exact hv, hD⟩
    · cases h

def takeSegs (as : Asm) : List Seg → Nat → Option (List Seg)
  | _, 0 => some []
  | [], _ + 1 => none
  | .c x :: r, n + 1 => (takeSegs as r n).map (.c x :: ·)
  | .arr k m a :: r, n + 1 => if m ≤ n + 1 then (takeSegs as r (n + 1 - m)).map (.arr k m a :: ·) else some (spread as k a 0 (n + 1))
  | .row _ _ :: _, _ + 1 => none
  | .el _ _ _ _ :: _, _ + 1 => none
  | .tab _ _ :: _, _ + 1 => none
include ok ha in
theorem takeSegs_ok : ∀ {l l' : List Seg} {vs : List Value} {n : Nat}, SegsD e ρ l vs → takeSegs as l n = some l' → n ≤ vs.length ∧ SegsD e ρ l' (vs.take n)
  | l, l', vs, 0, _, h => by
    have : l' = [] := by cases l <;> simp [takeSegs] at h <;> first | exact h | exact h.symm
    subst this; exact ⟨by simp, by simp [SegsD]⟩
  | [], _, _, n + 1, _, h => by simp [takeSegs] at h
  | .c x :: r, l', _, n + 1, ⟨u, vs', h1, h2, h3⟩, h => by
    simp only [takeSegs, Option.map_eq_some_iff] at h
    obtain ⟨q, hq, rfl⟩ := h
    subst h1
    have := takeSegs_ok h3 hq
    exact ⟨by simp; omega, u, vs'.take n, rfl, h2, this.2⟩
  | .arr k m a :: r, l', _, n + 1, ⟨vs', h1, h2, h3⟩, h => by
    simp only [takeSegs] at h
    subst h1
    split at h
    · rename_i hle
      simp only [Option.map_eq_some_iff] at h
      obtain ⟨q, hq, rfl⟩ := h
      have := takeSegs_ok h3 hq
      refine ⟨by simp; omega, vs'.take (n + 1 - m), ?_, h2, this.2⟩
      rw [List.take_append, List.take_of_length_le (by simp; omega)]
      simp [h2]
    · rename_i hgt
      cases h
      have := spread_D ok ha (ρ := ρ) (k := k) (a := a) (n := n + 1) (lo := 0) (by omega)
      refine ⟨by simp; omega, ?_⟩
      rw [List.take_append_of_le_length (by simp; omega)]
      simpa using this
  | .row _ _ :: _, _, _, _ + 1, _, h => by simp [takeSegs] at h
  | .el _ _ _ _ :: _, _, _, _ + 1, _, h => by simp [takeSegs] at h
  | .tab _ _ :: _, _, _, _ + 1, _, h => by simp [takeSegs] at h

def dropSegs (as : Asm) : List Seg → Nat → Option (List Seg)
  | l, 0 => some l
  | [], _ + 1 => none
  | .c _ :: r, n + 1 => dropSegs as r n
  | .arr k m a :: r, n + 1 => if m ≤ n + 1 then dropSegs as r (n + 1 - m) else some (spread as k a (n + 1) (m - (n + 1)) ++ r)
  | .row _ _ :: _, _ + 1 => none
  | .el _ _ _ _ :: _, _ + 1 => none
  | .tab _ _ :: _, _ + 1 => none
include ok ha in
theorem dropSegs_ok : ∀ {l l' : List Seg} {vs : List Value} {n : Nat}, SegsD e ρ l vs → dropSegs as l n = some l' → n ≤ vs.length ∧ SegsD e ρ l' (vs.drop n)
  | l, l', vs, 0, hl, h => by
    have : l' = l := by cases l <;> simp [dropSegs] at h <;> first | exact h | exact h.symm
    subst this; exact ⟨by simp, by simpa using hl⟩
  | [], _, _, n + 1, _, h => by simp [dropSegs] at h
  | .c x :: r, l', _, n + 1, ⟨u, vs', h1, h2, h3⟩, h => by
    simp only [dropSegs] at h
    subst h1
    have := dropSegs_ok h3 h
    exact ⟨by simp; omega, by simpa using this.2⟩
  | .arr k m a :: r, l', _, n + 1, ⟨vs', h1, h2, h3⟩, h => by
    simp only [dropSegs] at h
    subst h1
    split at h
    · rename_i hle
      have := dropSegs_ok h3 h
      refine ⟨by simp; omega, ?_⟩
      rw [List.drop_append, List.drop_eq_nil_of_le (by simp; omega)]
      simpa [h2] using this.2
    · rename_i hgt
      cases h
      have := spread_D ok ha (ρ := ρ) (k := k) (a := a) (n := m - (n + 1)) (lo := n + 1) (by omega)
      refine ⟨by simp; omega, ?_⟩
      rw [List.drop_append_of_le_length (by simp; omega)]
      refine SegsD.append ?_ h3
      rwa [List.take_of_length_le (by simp; omega)] at this
  | .row _ _ :: _, _, _, _ + 1, _, h => by simp [dropSegs] at h
  | .el _ _ _ _ :: _, _, _, _ + 1, _, h => by simp [dropSegs] at h
  | .tab _ _ :: _, _, _, _ + 1, _, h => by simp [dropSegs] at h

def readSegs (as : Asm) (l : List Seg) (off n : Nat) : Option (List Seg) := (dropSegs as l off).bind (takeSegs as · n)
include ok ha in
theorem readSegs_ok {l l' : List Seg} {vs : List Value} {off n : Nat} (hl : SegsD e ρ l vs) (h : readSegs as l off n = some l') :
    off + n ≤ vs.length ∧ SegsD e ρ l' ((vs.drop off).take n) := by
  simp only [readSegs, Option.bind_eq_some_iff] at h
  obtain ⟨q, h1, h2⟩ := h
  have t1 := dropSegs_ok ok ha hl h1
  have t2 := takeSegs_ok ok ha t1.2 h2
  exact ⟨by have := t2.1; simp at this; omega, t2.2⟩

def write1 (as : Asm) : List Seg → Nat → Cell → Option (List Seg)
  | [], _, _ => none
  | .c _ :: r, 0, x => some (.c x :: r)
  | .c y :: r, n + 1, x => (write1 as r n x).map (.c y :: ·)
  | .arr k n a :: r, off, x =>
    if off < n then
      match x with
      | .i k' v => if k' = k then some (.arr k n (mkUpd as a (.lit off) v) :: r) else none
      | _ => none
    else (write1 as r (off - n) x).map (.arr k n a :: ·)
  | .row k a :: r, off, x =>
    if knowsLt as (.lit off) (mkLen as a) then
      match x with
      | .i k' v => if k' = k then some (.row k (mkUpd as a (.lit off) v) :: r) else none
      | _ => none
    else none
  | .el _ _ _ _ :: _, _, _ => none
  | .tab _ _ :: _, _, _ => none
include ok ha in
theorem write1_ok : ∀ {l l' : List Seg} {vs : List Value} {off : Nat} {x : Cell} {v : Value}, SegsD e ρ l vs → x.D e ρ v → write1 as l off x = some l' →
    off < vs.length ∧ SegsD e ρ l' (vs.set off v)
  | [], _, _, _, _, _, _, _, h => by cases h
  | .c y :: _, _, _, 0, x, v, ⟨u, vs', h1, h2, h3⟩, hx, h => by
    simp only [write1, Option.some.injEq] at h
    subst h1 h; exact ⟨by simp, v, vs', rfl, hx, h3⟩
  | .c y :: r, _, _, n + 1, x, v, ⟨u, vs', h1, h2, h3⟩, hx, h => by
    simp only [write1, Option.map_eq_some_iff] at h
    obtain ⟨q, hq, rfl⟩ := h
    subst h1
    have := write1_ok h3 hx hq
    exact ⟨by simp; omega, u, vs'.set n v, rfl, h2, this.2⟩
  | .arr k n a :: r, _, _, off, x, v, ⟨vs', h1, h2, h3⟩, hx, h => by
    simp only [write1] at h
    subst h1
    split at h
    · rename_i hlt
      split at h
      · rename_i k' w
        split at h
        · rename_i hk
          cases h
          subst hk
          cases hx
          have hu := mkUpd_den ok ha a (.lit off) w
          rw [litD, Int.toNat_natCast] at hu
          refine ⟨by simp; omega, vs', ?_, by rw [hu]; simp [h2], h3⟩
          rw [List.set_append_left _ _ (by simp; omega), hu, List.map_set]
        · cases h
      · cases h
    · rename_i hge
      simp only [Option.map_eq_some_iff] at h
      obtain ⟨q, hq, rfl⟩ := h
      have := write1_ok h3 hx hq
      refine ⟨by simp; omega, vs'.set (off - n) v, ?_, h2, this.2⟩
      rw [List.set_append_right _ _ (by simp; omega)]
      simp [h2]
  | .row k a :: r, _, _, off, x, v, ⟨vs', h1, h3⟩, hx, h => by
    simp only [write1] at h
    subst h1
    split at h
    · rename_i hkn
      have hlt := knowsLt_ok ok ha hkn
      rw [litD, mkLen_den ok ha] at hlt
      split at h
      · rename_i k' w
        split at h
        · rename_i hk
          cases h
          subst hk
          cases hx
          have hu := mkUpd_den ok ha a (.lit off) w
          rw [litD, Int.toNat_natCast] at hu
          refine ⟨by simp; omega, vs', ?_, h3⟩
          rw [List.set_append_left _ _ (by simp; omega), hu, List.map_set]
        · cases h
      · cases h
    · cases h
  | .el _ _ _ _ :: _, _, _, _, _, _, _, _, h => by cases h
  | .tab _ _ :: _, _, _, _, _, _, _, _, h => by cases h

/-- The cell behind so many elements. -/
def readIx (as : Asm) : List Seg → Nat → IExp → Nat → Option Cell
  | [], _, _, _ => none
  | .c _ :: _, 0, _, _ => none
  | .c _ :: r, off + 1, i, w => readIx as r off i w
  | .arr k m a :: r, off, i, w => if off = 0 then (if w = 1 ∧ knowsLt as i (.lit m) = true then some (.i k (mkSel as k a i)) else none) else if m ≤ off then readIx as r (off - m) i w else none
  | .row k a :: _, off, i, w => if off = 0 ∧ w = 1 ∧ knowsLt as i (mkLen as a) = true then some (.i k (mkSel as k a i)) else none
  | .el _ w' j l :: _, off, i, w => if w' = w ∧ i.same j = true then l[off]? else none
  | .tab n cols :: _, off, i, w => if w = cols.length ∧ knowsLt as i n = true then (cols[off]?).map fun c => colCell as c i else none
include ok ha in
theorem readIx_ok {i : IExp} {w : Nat} (h0 : 0 ≤ i.den e) : ∀ {l : List Seg} {vs : List Value} {off : Nat} {x : Cell}, SegsD e ρ l vs → readIx as l off i w = some x →
    ∃ v, vs[off + (i.den e).toNat * w]? = some v ∧ x.D e ρ v
  | [], _, _, _, _, h => by cases h
  | .c y :: _, _, 0, x, _, h => by cases h
  | .c y :: r, _, m + 1, x, ⟨u, vs', h1, h2, h3⟩, h => by
    simp only [readIx] at h
    subst h1
    obtain ⟨v, hv, hx⟩ := readIx_ok h0 h3 h
    exact ⟨v, by rw [show m + 1 + (i.den e).toNat * w = (m + (i.den e).toNat * w) + 1 by omega]; simpa using hv, hx⟩
  | .arr k m a :: r, _, off, x, ⟨vs', h1, h2, h3⟩, h => by
    simp only [readIx] at h
    subst h1
    split at h
    · rename_i hoff
      subst hoff
      split at h
      · rename_i hm
        obtain ⟨rfl, hk⟩ := hm
        have hn := knowsLt_ok ok ha hk
        rw [litD] at hn
        cases h
        have hs := mkSel_den ok ha (k := k) a i h0 (by omega)
        refine ⟨.int k ((a.den e).getD (i.den e).toNat 0), ?_, by simp only [Cell.D, hs]⟩
        rw [Nat.zero_add, Nat.mul_one, List.getElem?_append_left (by simp; omega), get_map_int (by omega)]
      · cases h
    · split at h
      · rename_i hle
        obtain ⟨v, hv, hx⟩ := readIx_ok h0 h3 h
        refine ⟨v, ?_, hx⟩
        rw [List.getElem?_append_right (by simp; omega)]
        simpa [h2, show off + (i.den e).toNat * w - m = off - m + (i.den e).toNat * w by omega] using hv
      · cases h
  | .row k a :: r, _, off, x, ⟨vs', h1, h3⟩, h => by
    simp only [readIx] at h
    subst h1
    split at h
    · rename_i hc
      obtain ⟨rfl, rfl, hk⟩ := hc
      have hn := knowsLt_ok ok ha hk
      rw [mkLen_den ok ha] at hn
      cases h
      have hs := mkSel_den ok ha (k := k) a i h0 (by omega)
      refine ⟨.int k ((a.den e).getD (i.den e).toNat 0), ?_, by simp only [Cell.D, hs]⟩
      rw [Nat.zero_add, Nat.mul_one, List.getElem?_append_left (by simp; omega), get_map_int (by omega)]
    · cases h
  | .el n w' j l :: r, _, off, x, ⟨pre, mid, post, vs', h1, h2, h3⟩, h => by
    simp only [readIx] at h
    subst h1
    split at h
    · rename_i hc
      obtain ⟨rfl, hs⟩ := hc
      have hs := IExp.same_eq _ _ hs
      subst hs
      obtain ⟨v, hv, hx⟩ := CellsD.get h2.md h
      refine ⟨v, ?_, hx⟩
      have hlt : off < mid.length := (List.getElem?_eq_some_iff.1 hv).1
      have e1 : off + (i.den e).toNat * w' = pre.length + off := by
        have := h2.at'
        have e2 : (((i.den e).toNat * w' : Nat) : Int) = i.den e * w' := by push_cast; rw [Int.toNat_of_nonneg h0]
        omega
      rw [e1, List.append_assoc, List.append_assoc, List.getElem?_append_right (by omega), Nat.add_sub_cancel_left, List.getElem?_append_left hlt]
      exact hv
    · cases h
  | .tab n cols :: r, _, off, x, ⟨tv, vs', h1, h2, h3⟩, h => by
    simp only [readIx] at h
    subst h1
    split at h
    · rename_i hc
      obtain ⟨rfl, hk⟩ := hc
      obtain ⟨c, hc, rfl⟩ := Option.map_eq_some_iff.1 h
      obtain ⟨v, hv, hD⟩ := tab_cell (ρ := ρ) ok ha h2 h0 (knowsLt_ok ok ha hk) hc
      exact ⟨v, by rw [List.getElem?_append_left (List.getElem?_eq_some_iff.1 hv).1]; exact hv, hD⟩
    · cases h

/-- So many cells behind so many elements. -/
def readIxs (as : Asm) : List Seg → Nat → IExp → Nat → Nat → Option (List Seg)
  | .c _ :: r, off + 1, i, w, n => readIxs as r off i w n
  | .arr _ m _ :: r, off, i, w, n => if 0 < off ∧ m ≤ off then readIxs as r (off - m) i w n else none
  | .el _ w' j l :: _, off, i, w, n => if w' = w ∧ i.same j = true ∧ off + n ≤ l.length then some (((l.drop off).take n).map Seg.c) else none
  | .tab m cols :: _, off, i, w, n => if w = cols.length ∧ knowsLt as i m = true ∧ off + n ≤ cols.length then some (((cols.drop off).take n).map fun c => Seg.c (colCell as c i)) else none
  | _, _, _, _, _ => none
include ok ha in
theorem readIxs_ok {i : IExp} {w n : Nat} (h0 : 0 ≤ i.den e) : ∀ {l l' : List Seg} {vs : List Value} {off : Nat}, SegsD e ρ l vs → readIxs as l off i w n = some l' →
    off + (i.den e).toNat * w + n ≤ vs.length ∧ SegsD e ρ l' ((vs.drop (off + (i.den e).toNat * w)).take n)
  | [], _, _, _, _, h => by simp [readIxs] at h
  | .c y :: _, _, _, 0, _, h => by simp [readIxs] at h
  | .c y :: r, _, _, m + 1, ⟨u, vs', h1, h2, h3⟩, h => by
    simp only [readIxs] at h
    subst h1
    have := readIxs_ok h0 h3 h
    rw [show m + 1 + (i.den e).toNat * w = (m + (i.den e).toNat * w) + 1 by omega]
    exact ⟨by simp; omega, by simpa using this.2⟩
  | .arr k m a :: r, _, _, off, ⟨vs', h1, h2, h3⟩, h => by
    simp only [readIxs] at h
    subst h1
    split at h
    · rename_i hle
      have := readIxs_ok h0 h3 h
      have e1 : off + (i.den e).toNat * w - m = off - m + (i.den e).toNat * w := by omega
      refine ⟨by simp; omega, ?_⟩
      rw [List.drop_append, List.drop_eq_nil_of_le (by simp; omega)]
      simpa [h2, e1] using this.2
    · cases h
  | .row k a :: r, _, _, off, _, h => by simp [readIxs] at h
  | .el m w' j l :: r, _, _, off, ⟨pre, mid, post, vs', h1, h2, h3⟩, h => by
    simp only [readIxs] at h
    subst h1
    split at h
    · rename_i hc
      obtain ⟨rfl, hs, hlen⟩ := hc
      have hs := IExp.same_eq _ _ hs
      subst hs
      cases h
      have hml := CellsD.length h2.md
      have e1 : off + (i.den e).toNat * w' = pre.length + off := by
        have := h2.at'
        have e2 : (((i.den e).toNat * w' : Nat) : Int) = i.den e * w' := by push_cast; rw [Int.toNat_of_nonneg h0]
        omega
      rw [e1]
      refine ⟨by simp; omega, ?_⟩
      have e3 : ((pre ++ mid ++ post ++ vs').drop (pre.length + off)).take n = (mid.drop off).take n := by
        rw [List.append_assoc, List.append_assoc, ← List.drop_drop, List.drop_left, List.drop_append_of_le_length (by omega), List.take_append_of_le_length (by simp; omega)]
      rw [e3]
      exact CellsD.segs (CellsD.take _ (CellsD.drop _ h2.md))
    · cases h
  | .tab m cols :: r, _, _, off, ⟨tv, vs', h1, h2, h3⟩, h => by
    simp only [readIxs] at h
    subst h1
    split at h
    · rename_i hc
      obtain ⟨rfl, hk, hlen⟩ := hc
      cases h
      obtain ⟨g1, g2⟩ := tab_cells (ρ := ρ) ok ha h2 h0 (knowsLt_ok ok ha hk) hlen
      refine ⟨by rw [List.length_append]; omega, ?_⟩
      rw [List.drop_append_of_le_length (by omega), List.take_append_of_le_length (by rw [List.length_drop]; omega)]
      exact g2
    · cases h

def writeIx (as : Asm) : List Seg → Nat → IExp → Nat → Cell → Option (List Seg)
  | [], _, _, _, _ => none
  | .c _ :: _, 0, _, _, _ => none
  | .c y :: r, off + 1, i, w, x => (writeIx as r off i w x).map (.c y :: ·)
  | .arr k m a :: r, off, i, w, x =>
    if off = 0 then
      match x with
      | .i k' v => if k' = k ∧ w = 1 ∧ knowsLt as i (.lit m) = true then some (.arr k m (mkUpd as a i v) :: r) else none
      | _ => none
    else if m ≤ off then (writeIx as r (off - m) i w x).map (.arr k m a :: ·) else none
  | .row k a :: r, off, i, w, x =>
    match x with
    | .i k' v => if k' = k ∧ off = 0 ∧ w = 1 ∧ knowsLt as i (mkLen as a) = true then some (.row k (mkUpd as a i v) :: r) else none
    | _ => none
  | .el _ _ _ _ :: _, _, _, _, _ => none
  | .tab _ _ :: _, _, _, _, _ => none
include ok ha in
theorem writeIx_ok {i : IExp} {w : Nat} (h0 : 0 ≤ i.den e) : ∀ {l l' : List Seg} {vs : List Value} {off : Nat} {x : Cell} {v : Value}, SegsD e ρ l vs → x.D e ρ v → writeIx as l off i w x = some l' →
    off + (i.den e).toNat * w < vs.length ∧ SegsD e ρ l' (vs.set (off + (i.den e).toNat * w) v)
  | [], _, _, _, _, _, _, _, h => by cases h
  | .c y :: _, _, _, 0, x, v, _, _, h => by cases h
  | .c y :: r, _, _, m + 1, x, v, ⟨u, vs', h1, h2, h3⟩, hx, h => by
    simp only [writeIx, Option.map_eq_some_iff] at h
    obtain ⟨q, hq, rfl⟩ := h
    subst h1
    have := writeIx_ok h0 h3 hx hq
    rw [show m + 1 + (i.den e).toNat * w = (m + (i.den e).toNat * w) + 1 by omega]
    exact ⟨by simp; omega, u, vs'.set (m + (i.den e).toNat * w) v, rfl, h2, this.2⟩
  | .arr k m a :: r, _, _, off, x, v, ⟨vs', h1, h2, h3⟩, hx, h => by
    simp only [writeIx] at h
    subst h1
    split at h
    · rename_i hoff
      subst hoff
      split at h
      · rename_i k' z
        split at h
        · rename_i hk
          obtain ⟨rfl, rfl, hk⟩ := hk
          have hn := knowsLt_ok ok ha hk
          rw [litD] at hn
          cases h
          cases hx
          have hu := mkUpd_den ok ha a i z
          rw [Nat.zero_add, Nat.mul_one]
          refine ⟨by simp; omega, vs', ?_, by rw [hu]; simp [h2], h3⟩
          rw [List.set_append_left _ _ (by simp; omega), hu, List.map_set]
        · cases h
      · cases h
    · split at h
      · rename_i hle
        simp only [Option.map_eq_some_iff] at h
        obtain ⟨q, hq, rfl⟩ := h
        have := writeIx_ok h0 h3 hx hq
        refine ⟨by simp; omega, vs'.set (off - m + (i.den e).toNat * w) v, ?_, h2, this.2⟩
        rw [List.set_append_right _ _ (by simp; omega)]
        simp [h2, show off + (i.den e).toNat * w - m = off - m + (i.den e).toNat * w by omega]
      · cases h
  | .row k a :: r, _, _, off, x, v, ⟨vs', h1, h3⟩, hx, h => by
    simp only [writeIx] at h
    subst h1
    split at h
    · rename_i k' z
      split at h
      · rename_i hk
        obtain ⟨rfl, rfl, rfl, hk⟩ := hk
        have hn := knowsLt_ok ok ha hk
        rw [mkLen_den ok ha] at hn
        cases h
        cases hx
        have hu := mkUpd_den ok ha a i z
        rw [Nat.zero_add, Nat.mul_one]
        refine ⟨by simp; omega, vs', ?_, h3⟩
        rw [List.set_append_left _ _ (by simp; omega), hu, List.map_set]
      · cases h
    · cases h
  | .el _ _ _ _ :: _, _, _, _, _, _, _, _, h => by cases h
  | .tab _ _ :: _, _, _, _, _, _, _, _, h => by cases h

/-- A range of cells is laid anew. -/
def writeSegs (as : Asm) (l : List Seg) (off : Nat) (new : List Seg) : Option (List Seg) :=
  (segsLen new).bind fun n => (takeSegs as l off).bind fun a => (dropSegs as l (off + n)).map fun r => a ++ (new ++ r)
include ok ha in
theorem writeSegs_ok {l l' new : List Seg} {vs nv : List Value} {off : Nat} (hl : SegsD e ρ l vs) (hn : SegsD e ρ new nv) (h : writeSegs as l off new = some l') :
    off + nv.length ≤ vs.length ∧ SegsD e ρ l' (vs.take off ++ nv ++ vs.drop (off + nv.length)) := by
  simp only [writeSegs, Option.bind_eq_some_iff, Option.map_eq_some_iff] at h
  obtain ⟨n, h0, a, h1, r, h2, rfl⟩ := h
  rw [segsLen_eq hn h0] at h2
  have t1 := takeSegs_ok ok ha hl h1
  have t2 := dropSegs_ok ok ha hl h2
  refine ⟨t2.1, ?_⟩
  rw [List.append_assoc]
  exact t1.2.append (hn.append t2.2)
end reads

/-! ### The memory -/
abbrev Blk := Option (List Seg × TypeId)
abbrev SHeap := List Blk
def live (h : SHeap) (i : Nat) : Prop := ∃ s, h[i]? = some (some s)

/-- Nothing of the block's cells is frozen. -/
def Thaw (cs : Array Value) (fz : Nat × Nat) : Prop := fz = (0, 0) ∨ cs.size ≤ fz.1
/-- The cells of a block that are spoken of, and where they stand in it. -/
structure At (w : Prop) (W : World) (b o : Nat) (r : Nat) (vs : List Value) : Prop where
  ex : ∃ cs t fz pre rest, W.heap[b]? = some (.cells cs t fz) ∧ (w → Thaw cs fz) ∧ cs.toList = pre ++ vs ++ rest ∧ pre.length = o ∧ (w → r ≤ (vs ++ rest).length)

/-- What is known of the memory; blocks below ov may be of one block of the machine's. -/
structure Old (e : Env) (ov : Nat) (ρ : Rho) (W : World) : Prop where
  fx : ∀ (i : Nat) x, e.fx[i]? = some x → ρ[i]? = some x
  fl : e.fx.length ≤ ov
  size : e.base ≤ W.heap.size
  same : ∀ k, k < e.base → W.heap[k]? = e.h0 k
  own : ∀ b ∈ ρ.drop ov, e.base ≤ b.1
/-- Nothing is asked. -/
theorem Old.of_none {e : Env} (hb : e.base = 0) (hx : e.fx = []) (ov : Nat) (ρ : Rho) (W : World) : Old e ov ρ W :=
  ⟨fun i x h => by rw [hx] at h; simp at h, by rw [hx]; exact Nat.zero_le _, by rw [hb]; exact Nat.zero_le _, fun k hk => by rw [hb] at hk; exact absurd hk (Nat.not_lt_zero _), fun b _ => by rw [hb]; exact Nat.zero_le _⟩
theorem Old.len {e : Env} {ov : Nat} {ρ : Rho} {W : World} (h : Old e ov ρ W) : e.fx.length ≤ ρ.length := by
  rcases Nat.eq_zero_or_pos e.fx.length with h0 | h0
  · omega
  · have := h.fx (e.fx.length - 1) _ (List.getElem?_eq_getElem (by omega))
    have := (List.getElem?_eq_some_iff.1 this).1
    omega
structure HRel (e : Env) (ov : Nat) (ρ : Rho) (h : SHeap) (W : World) : Prop where
  len : h.length = ρ.length
  apart : ∀ (i j : Nat) (b c : Nat × Nat × Nat), live h i → live h j → ρ[i]? = some b → ρ[j]? = some c → i ≠ j → (ov ≤ i ∨ ov ≤ j) → b.1 ≠ c.1
  blk : ∀ (i : Nat) (l : List Seg) (t : TypeId), h[i]? = some (some (l, t)) → ∃ b o r vs, ρ[i]? = some (b, o, r) ∧ At (ov ≤ i) W b o r vs ∧ SegsD e ρ l vs
  old : Old e ov ρ W

def inBlk (k : Nat) (ρ : Rho) : Prop := ∃ o : Nat × Nat, (k, o) ∈ ρ
theorem inBlk.mono {k : Nat} {ρ ρ' : Rho} (h : inBlk k ρ) (hs : ∀ x ∈ ρ, x ∈ ρ') : inBlk k ρ' := by obtain ⟨o, h⟩ := h; exact ⟨o, hs _ h⟩

/-- From W to W' nothing that was there has turned but the blocks of ρ from ro on. -/
structure Fr (ro : Nat) (ρ : Rho) (W W' : World) : Prop where
  os : W'.os = W.os
  tape : W'.tape = W.tape
  output : W'.output = W.output
  size : W.heap.size ≤ W'.heap.size
  same : ∀ k, k < W.heap.size → ¬ inBlk k (ρ.drop ro) → W'.heap[k]? = W.heap[k]?

theorem Fr.refl (ro : Nat) (ρ : Rho) (W : World) : Fr ro ρ W W := ⟨rfl, rfl, rfl, Nat.le_refl _, fun _ _ _ => rfl⟩

/-- What is new: blocks that are new, or such that could be written. -/
def New (ro : Nat) (ρ ρ' : Rho) (W : World) : Prop := ∀ b ∈ ρ'.drop ρ.length, W.heap.size ≤ b.1 ∨ inBlk b.1 (ρ.drop ro)

theorem drop_grown {ro : Nat} {ρ r : Rho} {x : Nat × Nat × Nat} (h : x ∈ (ρ ++ r).drop ro) : x ∈ ρ.drop ro ∨ x ∈ (ρ ++ r).drop ρ.length := by
  rw [List.drop_append] at h
  rcases List.mem_append.1 h with h | h
  · exact .inl h
  · right
    rw [List.drop_left]
    exact List.mem_of_mem_drop h

/-- Two steps; what the second one may write besides is new. -/
theorem Fr.trans {ro : Nat} {ρ ρ' : Rho} {W W' W'' : World} (h : Fr ro ρ W W') (k : Fr ro ρ' W' W'') (hp : Pre ρ ρ') (hnew : New ro ρ ρ' W) : Fr ro ρ W W'' := by
  refine ⟨k.os.trans h.os, k.tape.trans h.tape, k.output.trans h.output, Nat.le_trans h.size k.size, fun i hi hn => ?_⟩
  have hs := h.size
  rw [k.same i (by omega) ?_]
  · exact h.same i hi hn
  · rintro ⟨o, hm⟩
    obtain ⟨r, rfl⟩ := hp
    rcases drop_grown hm with hm | hm
    · exact hn ⟨o, hm⟩
    · rcases hnew _ hm with h1 | h1
      · simp only at h1; omega
      · exact hn h1

/-- What a step leaves: a grown map, the relation in the new world, and the frame. -/
structure Post (e : Env) (ov ro : Nat) (ρ : Rho) (W : World) (ρ' : Rho) (h' : SHeap) (W' : World) : Prop where
  pre : Pre ρ ρ'
  new : New ro ρ ρ' W
  rel : HRel e ov ρ' h' W'
  fr : Fr ro ρ W W'

theorem New.refl (ro : Nat) (ρ : Rho) (W : World) : New ro ρ ρ W := by intro b hb; simp at hb
theorem Post.refl {e : Env} {ov ro : Nat} {ρ : Rho} {W : World} {h : SHeap} (hr : HRel e ov ρ h W) : Post e ov ro ρ W ρ h W :=
  ⟨Pre.refl ρ, New.refl _ _ _, hr, Fr.refl _ _ _⟩
theorem New.trans {ro : Nat} {ρ ρ' ρ'' : Rho} {W W' : World} (a : New ro ρ ρ' W) (hp : Pre ρ ρ') (hq : Pre ρ' ρ'') (hs : W.heap.size ≤ W'.heap.size) (b : New ro ρ' ρ'' W') : New ro ρ ρ'' W := by
  intro x hx
  obtain ⟨r, rfl⟩ := hp
  obtain ⟨q, rfl⟩ := hq
  rw [List.append_assoc, List.drop_left] at hx
  rcases List.mem_append.1 hx with hx | hx
  · exact a x (by rw [List.drop_left]; exact hx)
  · rcases b x (by rw [List.drop_left]; exact hx) with h | ⟨o, h⟩
    · left; omega
    · rcases drop_grown h with h | h
      · exact .inr ⟨o, h⟩
      · exact a (x.1, o) h
theorem Post.trans {e : Env} {ov ro : Nat} {ρ ρ' ρ'' : Rho} {W W' W'' : World} {h' h'' : SHeap} (a : Post e ov ro ρ W ρ' h' W') (b : Post e ov ro ρ' W' ρ'' h'' W'') : Post e ov ro ρ W ρ'' h'' W'' :=
  ⟨a.pre.trans b.pre, a.new.trans a.pre b.pre a.fr.size b.new, b.rel, a.fr.trans b.fr a.pre a.new⟩

theorem HRel.drew {e : Env} {ov : Nat} {ρ : Rho} {h : SHeap} {W : World} (hr : HRel e ov ρ h W) (n : Nat) : HRel e ov ρ h { W with drawn := n } :=
  ⟨hr.len, hr.apart, fun i l t hi => by obtain ⟨b, o, r, vs, h1, ⟨h2⟩, h3⟩ := hr.blk i l t hi; exact ⟨b, o, r, vs, h1, ⟨h2⟩, h3⟩, ⟨hr.old.fx, hr.old.fl, hr.old.size, hr.old.same, hr.old.own⟩⟩
theorem Post.drew {e : Env} {ov ro : Nat} {ρ : Rho} {h : SHeap} {W : World} (hr : HRel e ov ρ h W) (n : Nat) : Post e ov ro ρ W ρ h { W with drawn := n } :=
  ⟨Pre.refl _, New.refl _ _ _, hr.drew n, ⟨rfl, rfl, rfl, Nat.le_refl _, fun _ _ _ => rfl⟩⟩

theorem At.weak {w w' : Prop} {W : World} {b o r : Nat} {vs : List Value} (h : At w W b o r vs) (hw : w' → w) : At w' W b o r vs := by
  obtain ⟨cs, t, fz, pre, rest, h1, h2, h3, h4, h5⟩ := h.ex
  exact ⟨cs, t, fz, pre, rest, h1, fun q => h2 (hw q), h3, h4, fun q => h5 (hw q)⟩
theorem At.same {w : Prop} {W W' : World} {b o r : Nat} {vs : List Value} (h : At w W b o r vs) (hb : W'.heap[b]? = W.heap[b]?) : At w W' b o r vs := by
  obtain ⟨cs, t, fz, pre, rest, h1, h2, h3⟩ := h.ex
  exact ⟨cs, t, fz, pre, rest, by rw [hb]; exact h1, h2, h3⟩
theorem At.lt {w : Prop} {W : World} {b o r : Nat} {vs : List Value} (h : At w W b o r vs) : b < W.heap.size := by
  obtain ⟨cs, t, fz, pre, rest, h1, h2, h3⟩ := h.ex
  exact (Array.getElem?_eq_some_iff.1 h1).1

theorem HRel.lt {e : Env} {ov : Nat} {ρ : Rho} {h : SHeap} {W : World} (hr : HRel e ov ρ h W) {i : Nat} {c : Nat × Nat × Nat} (hi : live h i) (hc : ρ[i]? = some c) : c.1 < W.heap.size := by
  obtain ⟨⟨l, t⟩, hs⟩ := hi
  obtain ⟨b, o, r, vs, h1, h2, _⟩ := hr.blk i l t hs
  rw [hc] at h1
  cases h1
  exact h2.lt
theorem live_append {h : SHeap} {i : Nat} {x : Blk} (hl : live (h ++ [x]) i) : live h i ∨ i = h.length := by
  obtain ⟨s, hs⟩ := hl
  by_cases hlt : i < h.length
  · rw [List.getElem?_append_left hlt] at hs; exact .inl ⟨s, hs⟩
  · right
    have := (List.getElem?_eq_some_iff.1 hs).1
    simp at this; omega

/-- One block more: new, or one that could be written and of which nothing else is known any more. -/
theorem Post.more {e : Env} {ov ro : Nat} {ρ : Rho} {h : SHeap} {W W' : World} (hr : HRel e ov ρ h W) {b o r : Nat} {l : List Seg} {u : TypeId} {vs : List Value}
    (hos : W'.os = W.os) (htape : W'.tape = W.tape) (hout : W'.output = W.output) (hsize : W.heap.size ≤ W'.heap.size)
    (hsame : ∀ k, k < W.heap.size → k ≠ b → W'.heap[k]? = W.heap[k]?) (hb : b < W'.heap.size)
    (hown : W.heap.size ≤ b ∨ inBlk b (ρ.drop ro)) (hbase : e.base ≤ b) (hfree : ∀ i c, live h i → ρ[i]? = some c → c.1 ≠ b) (hat : At True W' b o r vs) (hl : SegsD e ρ l vs) :
    Post e ov ro ρ W (ρ ++ [(b, o, r)]) (h ++ [some (l, u)]) W' := by
  have hpre : Pre ρ (ρ ++ [(b, o, r)]) := ⟨_, rfl⟩
  have hlen := hr.len
  refine ⟨hpre, fun x hx => ?_, ⟨by simp [hr.len], ?_, ?_, ?_⟩, ⟨hos, htape, hout, hsize, fun k hk hn => ?_⟩⟩
  · rw [List.drop_left, List.mem_singleton] at hx
    subst hx
    exact hown
  · intro i j x y hi hj hx hy hij hov
    have old : ∀ i x, i < ρ.length → (ρ ++ [(b, o, r)])[i]? = some x → ρ[i]? = some x := by
      intro i x hlt hx
      rwa [List.getElem?_append_left hlt] at hx
    have new : ∀ i x, i = ρ.length → (ρ ++ [(b, o, r)])[i]? = some x → x.1 = b := by
      intro i x hi hx
      subst hi
      rw [List.getElem?_append_right (Nat.le_refl _)] at hx
      simp at hx
      rw [← hx]
    rcases live_append hi with hi | hi <;> rcases live_append hj with hj | hj
    · obtain ⟨s, hs⟩ := hi
      obtain ⟨s', hs'⟩ := hj
      have l1 := (List.getElem?_eq_some_iff.1 hs).1
      have l2 := (List.getElem?_eq_some_iff.1 hs').1
      exact hr.apart i j x y ⟨s, hs⟩ ⟨s', hs'⟩ (old i x (by omega) hx) (old j y (by omega) hy) hij hov
    · obtain ⟨s, hs⟩ := hi
      have l1 := (List.getElem?_eq_some_iff.1 hs).1
      have h2 := new j y (by omega) hy
      rw [h2]
      exact hfree i x ⟨s, hs⟩ (old i x (by omega) hx)
    · obtain ⟨s, hs⟩ := hj
      have l1 := (List.getElem?_eq_some_iff.1 hs).1
      have h2 := new i x (by omega) hx
      rw [h2]
      exact fun hh => hfree j y ⟨s, hs⟩ (old j y (by omega) hy) hh.symm
    · omega
  · intro i l' t' hi
    by_cases hlt : i < h.length
    · rw [List.getElem?_append_left hlt] at hi
      obtain ⟨b2, o2, r2, vs', h1, h2, h3⟩ := hr.blk i l' t' hi
      exact ⟨b2, o2, r2, vs', hpre.get h1, h2.same (hsame b2 h2.lt (hfree i _ ⟨_, hi⟩ h1)), h3.mono hpre⟩
    · have hi2 : i = h.length := by
        have := (List.getElem?_eq_some_iff.1 hi).1
        simp at this; omega
      subst hi2
      rw [List.getElem?_append_right (Nat.le_refl _)] at hi
      simp at hi
      obtain ⟨rfl, rfl⟩ := hi
      refine ⟨b, o, r, vs, ?_, hat.weak (fun _ => trivial), hl.mono hpre⟩
      rw [hr.len, List.getElem?_append_right (Nat.le_refl _)]; simp
  · refine ⟨fun i x hx => hpre.get (hr.old.fx i x hx), hr.old.fl, Nat.le_trans hr.old.size hsize, fun k hk => ?_, fun x hx => ?_⟩
    · have := hr.old.size
      rw [hsame k (by omega) (by omega)]
      exact hr.old.same k hk
    · rw [List.drop_append] at hx
      rcases List.mem_append.1 hx with hx | hx
      · exact hr.old.own x hx
      · have := List.mem_of_mem_drop hx
        rw [List.mem_singleton] at this
        rw [this]; exact hbase
  · by_cases hkb : k = b
    · subst hkb
      rcases hown with h1 | h1
      · omega
      · exact absurd h1 hn
    · exact hsame k hk hkb

/-- A new block. -/
theorem Post.alloc {e : Env} {ov ro : Nat} {ρ : Rho} {h : SHeap} {W : World} (hr : HRel e ov ρ h W) {l : List Seg} {t u : TypeId} {cs : Array Value} {vs rest : List Value} {r : Nat} (hcs : cs.toList = vs ++ rest) (hl : SegsD e ρ l vs) (hrm : r ≤ cs.size) :
    Post e ov ro ρ W (ρ ++ [(W.heap.size, 0, r)]) (h ++ [some (l, u)]) (W.alloc (.cells cs t)) := by
  have hget : ∀ b, b < W.heap.size → (W.alloc (.cells cs t)).heap[b]? = W.heap[b]? := fun b hb => RowKit.Below.heap_alloc _ _ _ hb
  have hsz : (W.alloc (.cells cs t)).heap.size = W.heap.size + 1 := Array.size_push _
  refine Post.more hr rfl rfl rfl (by omega) (fun k hk _ => hget k hk) (by omega) (.inl (Nat.le_refl _)) hr.old.size (fun i c hi hc => ?_) ⟨cs, t, (0, 0), [], rest, Array.getElem?_push_size, fun _ => .inl rfl, by rw [hcs]; rfl, rfl, by rw [← hcs]; simpa using hrm⟩ hl
  have := hr.lt hi hc
  omega

/-- A block is forgotten. -/
theorem HRel.drop {e : Env} {ov : Nat} {ρ : Rho} {h : SHeap} {W : World} (hr : HRel e ov ρ h W) (i : Nat) : HRel e ov ρ (h.set i none) W := by
  have hlive : ∀ j, live (h.set i none) j → live h j ∧ j ≠ i := by
    rintro j ⟨s, hs⟩
    by_cases hji : j = i
    · subst hji
      rw [List.getElem?_set_self'] at hs
      cases hq : h[j]? with
      | none => rw [hq] at hs; simp at hs
      | some v => rw [hq] at hs; simp at hs
    · rw [List.getElem?_set_ne (fun h => hji h.symm)] at hs
      exact ⟨⟨s, hs⟩, hji⟩
  refine ⟨by simp [hr.len], fun p q b c hp hq => hr.apart p q b c (hlive p hp).1 (hlive q hq).1, fun j l t hj => ?_, hr.old⟩
  have := hlive j ⟨_, hj⟩
  rw [List.getElem?_set_ne (fun h => this.2 h.symm)] at hj
  exact hr.blk j l t hj

/-- A known block's cells are laid anew. -/
theorem Post.set' {e : Env} {ov ro : Nat} {ρ : Rho} {h : SHeap} {W : World} (hr : HRel e ov ρ h W) {i b o r : Nat} {l l' : List Seg} {t u u' : TypeId} {cs cs' : Array Value} {fz : Nat × Nat} {pre rest rest' vs vs' : List Value} (hro : ro ≤ i) (hov : ov ≤ ro)
    (hi : h[i]? = some (some (l, t))) (hb : ρ[i]? = some (b, o, r)) (hW : W.heap[b]? = some (.cells cs u fz)) (hth : Thaw cs fz) (hcs : cs.toList = pre ++ vs ++ rest) (hcs' : cs'.toList = pre ++ vs' ++ rest') (hsz : cs'.size = cs.size) (hpre : pre.length = o) (hrm : r ≤ (vs' ++ rest').length) (hl : SegsD e ρ l' vs') :
    Post e ov ro ρ W ρ (h.set i (some (l', u'))) (W.setRow b cs') := by
  have hlive : ∀ j, live (h.set i (some (l', u'))) j → live h j := by
    rintro j ⟨s, hs⟩
    by_cases hji : j = i
    · subst hji; exact ⟨_, hi⟩
    · rw [List.getElem?_set_ne (fun h => hji h.symm)] at hs; exact ⟨s, hs⟩
  have hbb : e.base ≤ b := hr.old.own (b, o, r) (by
    have : (ρ.drop ov)[i - ov]? = some (b, o, r) := by rw [List.getElem?_drop, show ov + (i - ov) = i by omega]; exact hb
    exact List.mem_of_getElem? this)
  refine ⟨Pre.refl _, New.refl _ _ _, ⟨by simp [hr.len], ?_, ?_, ⟨hr.old.fx, hr.old.fl, by rw [setRow_size]; exact hr.old.size, fun k hk => by rw [setRow_other _ _ _ _ (by omega)]; exact hr.old.same k hk, hr.old.own⟩⟩, ⟨rfl, rfl, rfl, by rw [setRow_size]; exact Nat.le_refl _, fun k hk hn => ?_⟩⟩
  · intro p q b c hp hq
    exact hr.apart p q b c (hlive p hp) (hlive q hq)
  · intro j l2 t2 hj
    by_cases hji : j = i
    · subst hji
      rw [List.getElem?_set_self (by exact (List.getElem?_eq_some_iff.1 hi).1)] at hj
      simp at hj
      obtain ⟨rfl, rfl⟩ := hj
      exact ⟨b, o, r, vs', hb, ⟨cs', u, fz, pre, rest', setRow_heap W b cs cs' u _ hW, fun _ => by unfold Thaw; rw [hsz]; exact hth, hcs', hpre, fun _ => hrm⟩, hl⟩
    · rw [List.getElem?_set_ne (fun h => hji h.symm)] at hj
      obtain ⟨b2, o2, r2, vs2, h1, h2, h3⟩ := hr.blk j l2 t2 hj
      have hne : b2 ≠ b := hr.apart j i (b2, o2, r2) (b, o, r) ⟨_, hj⟩ ⟨_, hi⟩ h1 hb hji (.inr (by omega))
      exact ⟨b2, o2, r2, vs2, h1, h2.same (setRow_other _ _ _ _ hne), h3⟩
  · have hne : k ≠ b := by
      rintro rfl
      refine hn ⟨(o, r), ?_⟩
      have : (ρ.drop ro)[i - ro]? = some (k, o, r) := by rw [List.getElem?_drop, show ro + (i - ro) = i by omega]; exact hb
      exact List.mem_of_getElem? this
    exact setRow_other _ _ _ _ hne
theorem Post.set {e : Env} {ov ro : Nat} {ρ : Rho} {h : SHeap} {W : World} (hr : HRel e ov ρ h W) {i b o r : Nat} {l l' : List Seg} {t u u' : TypeId} {cs cs' : Array Value} {fz : Nat × Nat} {pre rest vs vs' : List Value} (hro : ro ≤ i) (hov : ov ≤ ro)
    (hi : h[i]? = some (some (l, t))) (hb : ρ[i]? = some (b, o, r)) (hW : W.heap[b]? = some (.cells cs u fz)) (hth : Thaw cs fz) (hcs : cs.toList = pre ++ vs ++ rest) (hcs' : cs'.toList = pre ++ vs' ++ rest) (hlen : vs'.length = vs.length) (hpre : pre.length = o) (hrm : r ≤ (vs ++ rest).length) (hl : SegsD e ρ l' vs') :
    Post e ov ro ρ W ρ (h.set i (some (l', u'))) (W.setRow b cs') :=
  Post.set' hr hro hov hi hb hW hth hcs hcs' (by rw [← Array.length_toList, ← Array.length_toList, hcs, hcs']; simp [hlen]) hpre (by simpa [hlen] using hrm) hl
/-- A block is marked behind its last cell. -/
theorem Post.mark {e : Env} {ov ro : Nat} {ρ : Rho} {h : SHeap} {W W' : World} (hr : HRel e ov ρ h W) {i b o r : Nat} {l : List Seg} {t u : TypeId} {cs : Array Value} {fz fz' : Nat × Nat} (hro : ro ≤ i) (hov : ov ≤ ro)
    (hi : h[i]? = some (some (l, t))) (hb : ρ[i]? = some (b, o, r)) (hW : W.heap[b]? = some (.cells cs u fz)) (hW' : W'.heap[b]? = some (.cells cs u fz')) (hth : Thaw cs fz') (hos : W'.os = W.os) (htape : W'.tape = W.tape) (hout : W'.output = W.output) (hsize : W'.heap.size = W.heap.size) (hsame : ∀ k, k ≠ b → W'.heap[k]? = W.heap[k]?) :
    Post e ov ro ρ W ρ h W' := by
  have hbb : e.base ≤ b := hr.old.own (b, o, r) (by
    have : (ρ.drop ov)[i - ov]? = some (b, o, r) := by rw [List.getElem?_drop, show ov + (i - ov) = i by omega]; exact hb
    exact List.mem_of_getElem? this)
  refine ⟨Pre.refl _, New.refl _ _ _, ⟨hr.len, hr.apart, ?_, ⟨hr.old.fx, hr.old.fl, by rw [hsize]; exact hr.old.size, fun k hk => by rw [hsame k (by omega)]; exact hr.old.same k hk, hr.old.own⟩⟩, ⟨hos, htape, hout, by rw [hsize]; exact Nat.le_refl _, fun k hk hn => ?_⟩⟩
  · intro j l2 t2 hj
    obtain ⟨b2, o2, r2, vs2, h1, h2, h3⟩ := hr.blk j l2 t2 hj
    by_cases hji : j = i
    · subst hji
      rw [hb] at h1
      cases h1
      obtain ⟨cs2, u2, fz2, pre, rest, w1, w2, w3, w4, w5⟩ := h2.ex
      rw [hW] at w1
      cases w1
      exact ⟨b, o, r, vs2, hb, ⟨cs, u, fz', pre, rest, hW', fun _ => hth, w3, w4, w5⟩, h3⟩
    · have hne : b2 ≠ b := hr.apart j i (b2, o2, r2) (b, o, r) ⟨_, hj⟩ ⟨_, hi⟩ h1 hb hji (.inr (by omega))
      exact ⟨b2, o2, r2, vs2, h1, h2.same (hsame b2 hne), h3⟩
  · have hne : k ≠ b := by
      rintro rfl
      refine hn ⟨(o, r), ?_⟩
      have : (ρ.drop ro)[i - ro]? = some (k, o, r) := by rw [List.getElem?_drop, show ro + (i - ro) = i by omega]; exact hb
      exact List.mem_of_getElem? this
    exact hsame k hne
end Go.Proofs.YtaijkkkgpgldbaaDoor.Sy
