/- Summaries: what a function's run over letters told, at a call: texts, values. -/
import Derived.Test.YtaijkkkgpgldbaaDoorSySub
import Derived.Test.YtaijkkkgpgldbaaDoorKFr3
namespace Go.Proofs.YtaijkkkgpgldbaaDoor.K
open Go Sy
set_option maxRecDepth 100000
set_option linter.unusedVariables false
set_option linter.unusedSimpArgs false
/-! ### Of these letters alone -/
mutual
def iL (ks : List Fr) : IExp → Bool
  | .lit _ => true
  | .var k p => frI ks k p
  | .bin _ _ x y => iL ks x && iL ks y
  | .conv _ x => iL ks x
  | .sel _ a i => aL ks a && iL ks i
  | .len a => aL ks a
  | .fn _ _ _ m => lL ks m
  | .bit b => bL ks b
def bL (ks : List Fr) : BExp → Bool
  | .lit _ => true
  | .var p => frB ks p
  | .eq x y => iL ks x && iL ks y
  | .lt x y => iL ks x && iL ks y
  | .le x y => iL ks x && iL ks y
  | .not x => bL ks x
  | .beq x y => bL ks x && bL ks y
  | .and x y => bL ks x && bL ks y
  | .aeq x y => aL ks x && aL ks y
  | .fn _ _ m => lL ks m
def aL (ks : List Fr) : AExp → Bool
  | .var k p => frA ks k p
  | .upd a i v => aL ks a && iL ks i && iL ks v
  | .nil => true
  | .one x => iL ks x
  | .cat x y => aL ks x && aL ks y
  | .zeros n => iL ks n
  | .sub a i n => aL ks a && iL ks i && iL ks n
  | .cst _ => true
  | .fn _ _ _ m => lL ks m
def lL (ks : List Fr) : LExp → Bool
  | .nil => true
  | .i x m => iL ks x && lL ks m
  | .b x m => bL ks x && lL ks m
  | .a x m => aL ks x && lL ks m
end
section
variable {ks : List Fr} {e e' : Env} (g : AgreeF ks e e') (hi : e.fi = e'.fi) (hb : e.fb = e'.fb) (ha : e.fa = e'.fa)
include g hi hb ha
mutual
theorem iL_den : ∀ (x : IExp), iL ks x = true → x.den e = x.den e'
  | .lit _, _ => by
    have _ := g
    have _ := hi
    have _ := hb
    have _ := ha
    simp only [IExp.den]
  | .var k p, h => g.i k p (by simpa only [iL] using h)
  | .bin op k x y, h => by
    simp only [iL, Bool.and_eq_true] at h
    simp only [IExp.den, iL_den x h.1, iL_den y h.2]
  | .conv k x, h => by
    simp only [iL] at h
    simp only [IExp.den, iL_den x h]
  | .sel k a i, h => by
    simp only [iL, Bool.and_eq_true] at h
    simp only [IExp.den, aL_den a h.1, iL_den i h.2]
  | .len a, h => by
    simp only [iL] at h
    simp only [IExp.den, aL_den a h]
  | .fn k f j m, h => by
    simp only [iL] at h
    simp only [IExp.den, lL_den m h, hi]
  | .bit b, h => by
    simp only [iL] at h
    simp only [IExp.den, bL_den b h]
theorem bL_den : ∀ (x : BExp), bL ks x = true → x.den e = x.den e'
  | .lit _, _ => by
    have _ := g
    have _ := hi
    have _ := hb
    have _ := ha
    simp only [BExp.den]
  | .var p, h => g.b p (by simpa only [bL] using h)
  | .eq x y, h => by
    simp only [bL, Bool.and_eq_true] at h
    simp only [BExp.den, iL_den x h.1, iL_den y h.2]
  | .lt x y, h => by
    simp only [bL, Bool.and_eq_true] at h
    simp only [BExp.den, iL_den x h.1, iL_den y h.2]
  | .le x y, h => by
    simp only [bL, Bool.and_eq_true] at h
    simp only [BExp.den, iL_den x h.1, iL_den y h.2]
  | .not x, h => by
    simp only [bL] at h
    simp only [BExp.den, bL_den x h]
  | .beq x y, h => by
    simp only [bL, Bool.and_eq_true] at h
    simp only [BExp.den, bL_den x h.1, bL_den y h.2]
  | .and x y, h => by
    simp only [bL, Bool.and_eq_true] at h
    simp only [BExp.den, bL_den x h.1, bL_den y h.2]
  | .aeq x y, h => by
    simp only [bL, Bool.and_eq_true] at h
    simp only [BExp.den, aL_den x h.1, aL_den y h.2]
  | .fn f j m, h => by
    simp only [bL] at h
    simp only [BExp.den, lL_den m h, hb]
theorem aL_den : ∀ (x : AExp), aL ks x = true → x.den e = x.den e'
  | .var k p, h => by
    have _ := g
    have _ := hi
    have _ := hb
    have _ := ha
    exact g.a k p (by simpa only [aL] using h)
  | .upd a i v, h => by
    simp only [aL, Bool.and_eq_true] at h
    simp only [AExp.den, aL_den a h.1.1, iL_den i h.1.2, iL_den v h.2]
  | .nil, _ => by simp only [AExp.den]
  | .one x, h => by
    simp only [aL] at h
    simp only [AExp.den, iL_den x h]
  | .cat x y, h => by
    simp only [aL, Bool.and_eq_true] at h
    simp only [AExp.den, aL_den x h.1, aL_den y h.2]
  | .zeros n, h => by
    simp only [aL] at h
    simp only [AExp.den, iL_den n h]
  | .sub a i n, h => by
    simp only [aL, Bool.and_eq_true] at h
    simp only [AExp.den, aL_den a h.1.1, iL_den i h.1.2, iL_den n h.2]
  | .cst _, _ => by simp only [AExp.den]
  | .fn k f j m, h => by
    simp only [aL] at h
    simp only [AExp.den, lL_den m h, ha]
theorem lL_den : ∀ (x : LExp), lL ks x = true → x.den e = x.den e'
  | .nil, _ => by
    have _ := g
    have _ := hi
    have _ := hb
    have _ := ha
    simp only [LExp.den]
  | .i x m, h => by
    simp only [lL, Bool.and_eq_true] at h
    simp only [LExp.den, iL_den x h.1, lL_den m h.2]
  | .b x m, h => by
    simp only [lL, Bool.and_eq_true] at h
    simp only [LExp.den, bL_den x h.1, lL_den m h.2]
  | .a x m, h => by
    simp only [lL, Bool.and_eq_true] at h
    simp only [LExp.den, aL_den x h.1, lL_den m h.2]
end
end
/-! ### Values: new blocks are renumbered -/
/-- How what was told is told anew: its texts, which of them may be, its blocks, which of them may be, where its own blocks begin. -/
structure Lay where
  i : IExp → IExp
  b : BExp → BExp
  a : AExp → AExp
  iOk : IExp → Bool
  bOk : BExp → Bool
  aOk : AExp → Bool
  blk : Nat → Nat
  okB : Nat → Bool
  base : Nat
def Lay.ad (s : Lay) (a : Ad) : Ad := ⟨s.blk a.b, a.off, a.ix.map fun q => (s.i q.1, q.2)⟩
def Lay.adOk (s : Lay) (a : Ad) : Bool := s.okB a.b && (match a.ix with
  | some (i, _) => s.iOk i
  | none => true)
def Lay.cell (s : Lay) : Cell → Cell
  | .b x => .b (s.b x)
  | .i k x => .i k (s.i x)
  | .s x => .s (s.a x)
  | .p a => .p (a.map s.ad)
  | .sl a n c => .sl (a.map s.ad) (s.i n) (c.map s.i)
  | .fn f caps => .fn f (caps.map s.ad)
  | .nf => .nf
def Lay.oIOk (s : Lay) : Option IExp → Bool
  | some x => s.iOk x
  | none => true
def Lay.oAdOk (s : Lay) : Option Ad → Bool
  | some a => s.adOk a
  | none => true
def Lay.cellOk (s : Lay) : Cell → Bool
  | .b x => s.bOk x
  | .i _ x => s.iOk x
  | .s x => s.aOk x
  | .p a => s.oAdOk a
  | .sl a n c => s.oAdOk a && s.iOk n && s.oIOk c
  | .fn _ caps => caps.all s.adOk
  | .nf => true
def Lay.col (s : Lay) : Col → Col
  | .b a => .b (s.a a)
  | .i k a => .i k (s.a a)
def Lay.seg (s : Lay) : Seg → Seg
  | .c x => .c (s.cell x)
  | .arr k n a => .arr k n (s.a a)
  | .row k a => .row k (s.a a)
  | .el n w j l => .el (s.i n) w (s.i j) (l.map s.cell)
  | .tab n cl => .tab (s.i n) (cl.map s.col)
def Lay.segOk (s : Lay) : Seg → Bool
  | .c x => s.cellOk x
  | .arr _ _ a => s.aOk a
  | .row _ a => s.aOk a
  | .el n _ j l => s.iOk n && s.iOk j && l.all s.cellOk
  | .tab n cl => s.iOk n && cl.all fun c => s.aOk c.a
def Lay.sv (s : Lay) : SV → SV
  | .c x => .c (s.cell x)
  | .agg l => .agg (l.map s.seg)
def Lay.svOk (s : Lay) : SV → Bool
  | .c x => s.cellOk x
  | .agg l => l.all s.segOk
def Lay.val (s : Lay) : SVal → SVal
  | .v x => .v (s.sv x)
  | .tup l => .tup (l.map s.sv)
  | .any => .any
  | .val j => .any
def Lay.valOk (s : Lay) : SVal → Bool
  | .v x => s.svOk x
  | .tup l => l.all s.svOk
  | .any => true
  | .val _ => true
/-- The two readings. -/
structure LayE (s : Lay) (e0 e : Env) (ρ0 ρ : Rho) : Prop where
  i : ∀ x, s.iOk x = true → x.den e0 = (s.i x).den e
  b : ∀ x, s.bOk x = true → x.den e0 = (s.b x).den e
  a : ∀ x, s.aOk x = true → x.den e0 = (s.a x).den e
  ρ : ∀ j y, s.okB j = true → ρ0[j]? = some y → ρ[s.blk j]? = some y
section
variable {s : Lay} {e0 e : Env} {ρ0 ρ : Rho} (h : LayE s e0 e ρ0 ρ)
include h
theorem lay_ad {a : Ad} {A : Addr} (ho : s.adOk a = true) (hD : a.D e0 ρ0 A) : (s.ad a).D e ρ A := by
  simp only [Lay.adOk, Bool.and_eq_true] at ho
  obtain ⟨b', o, r, hb, hA⟩ := hD
  refine ⟨b', o, r, h.ρ _ _ ho.1 hb, ?_⟩
  simp only [Lay.ad]
  cases hix : a.ix with
  | none => rw [hix] at hA; exact hA
  | some q =>
    obtain ⟨i, w⟩ := q
    rw [hix] at hA ho
    simp only [Option.map_some] at hA ho ⊢
    rw [← h.i i ho.2]; exact hA
theorem lay_pos {a : Ad} (ho : s.adOk a = true) : (s.ad a).pos e = a.pos e0 ∧ (s.ad a).wid = a.wid := by
  simp only [Lay.adOk, Bool.and_eq_true] at ho
  unfold Ad.pos Ad.wid
  simp only [Lay.ad]
  cases hix : a.ix with
  | none => exact ⟨rfl, rfl⟩
  | some q =>
    obtain ⟨i, w⟩ := q
    rw [hix] at ho
    simp only [Option.map_some] at ho ⊢
    rw [← h.i i ho.2]
    exact ⟨rfl, trivial⟩
theorem lay_ads : ∀ {l : List Ad} {vs : List Value}, l.all s.adOk = true → AdsD e0 ρ0 l vs → AdsD e ρ (l.map s.ad) vs
  | [], _, _, hD => hD
  | a :: r, vs, ho, hD => by
    simp only [List.all_cons, Bool.and_eq_true] at ho
    obtain ⟨A, vs', h1, rfl, h3⟩ := hD
    exact ⟨A, vs', lay_ad h ho.1 h1, rfl, lay_ads ho.2 h3⟩
theorem lay_cell {x : Cell} {v : Value} (ho : s.cellOk x = true) (hD : x.D e0 ρ0 v) : (s.cell x).D e ρ v := by
  cases x with
  | b x => have hD : v = .bool (x.den e0) := hD; show v = .bool _; rw [← h.b x ho]; exact hD
  | i k x => have hD : v = .int k (x.den e0) := hD; show v = .int k _; rw [← h.i x ho]; exact hD
  | s x => have hD : v = .string (strOf (x.den e0)) := hD; show v = .string (strOf _); rw [← h.a x ho]; exact hD
  | p a =>
    cases a with
    | none => exact hD
    | some a =>
      obtain ⟨A, h1, h2⟩ := hD
      exact ⟨A, lay_ad h ho h1, h2⟩
  | sl a n c =>
    simp only [Lay.cellOk, Bool.and_eq_true] at ho
    obtain ⟨⟨o1, o2⟩, o3⟩ := ho
    have hn := h.i n o2
    cases a with
    | none =>
      obtain ⟨h1, h2, x, rfl, h3⟩ := hD
      exact ⟨h1, by rw [← hn]; exact h2, s.i x, rfl, by rw [← h.i x o3]; exact h3⟩
    | some a =>
      obtain ⟨o, n', c', rfl, h1, h2, h3⟩ := hD
      refine ⟨o, n', c', rfl, by rw [← hn]; exact h1, h2, ?_⟩
      rcases h3 with ⟨A, hA, rfl, hc⟩ | ⟨h4, h5, h6⟩
      · refine .inl ⟨A, lay_ad h o1 hA, rfl, ?_⟩
        cases c with
        | none =>
          obtain ⟨b', o, r, g1, g2⟩ := hc
          obtain ⟨p1, p2⟩ := lay_pos h o1
          have ob : s.okB a.b = true := by
            have o1 : s.adOk a = true := o1
            simp only [Lay.adOk, Bool.and_eq_true] at o1
            exact o1.1
          exact ⟨b', o, r, h.ρ _ _ ob g1, by rw [p1, p2]; exact g2⟩
        | some x =>
          have hc : (c' : Int) = x.den e0 := hc
          show (c' : Int) = (s.i x).den e
          rw [← h.i x o3]; exact hc
      · refine .inr ⟨h4, h5, fun x hx => ?_⟩
        cases c with
        | none => cases hx
        | some y =>
          cases hx
          rw [← h.i y o3]
          exact h6 y rfl
  | fn f caps =>
    obtain ⟨vs, h1, h2⟩ := hD
    exact ⟨vs, lay_ads h ho h1, h2⟩
  | nf => exact hD
theorem lay_cells : ∀ {l : List Cell} {vs : List Value}, l.all s.cellOk = true → CellsD e0 ρ0 l vs → CellsD e ρ (l.map s.cell) vs
  | [], _, _, hD => hD
  | a :: r, vs, ho, hD => by
    simp only [List.all_cons, Bool.and_eq_true] at ho
    obtain ⟨v, vs', rfl, h2, h3⟩ := hD
    exact ⟨v, vs', rfl, lay_cell h ho.1 h2, lay_cells ho.2 h3⟩
theorem lay_tab {n : IExp} {cl : List Col} {vs : List Value} (h1 : s.iOk n = true) (h2 : (cl.all fun c => s.aOk c.a) = true) (hD : TabD e0 n cl vs) : TabD e (s.i n) (cl.map s.col) vs := by
  have hc : ∀ c ∈ cl, (s.col c).a.den e = c.a.den e0 := fun c hm => by
    have := List.all_eq_true.1 h2 c hm
    cases c with
    | b a => exact (h.a a this).symm
    | i k a => exact (h.a a this).symm
  refine TabD.of_cols hD (h.i n h1).symm (by simp) fun r x hx => ?_
  rw [List.getElem?_map] at hx
  cases hq : cl[r]? with
  | none => rw [hq] at hx; cases hx
  | some c =>
    rw [hq] at hx
    cases hx
    refine ⟨c, rfl, hc c (List.mem_of_getElem? hq), fun m => ?_⟩
    cases c <;> rfl
theorem lay_segs : ∀ {l : List Seg} {vs : List Value}, l.all s.segOk = true → SegsD e0 ρ0 l vs → SegsD e ρ (l.map s.seg) vs
  | [], _, _, hD => hD
  | .c x :: r, vs, ho, hD => by
    simp only [List.all_cons, Bool.and_eq_true] at ho
    obtain ⟨v, vs', rfl, h2, h3⟩ := hD
    exact ⟨v, vs', rfl, lay_cell h ho.1 h2, lay_segs ho.2 h3⟩
  | .arr k n a :: r, vs, ho, hD => by
    simp only [List.all_cons, Bool.and_eq_true] at ho
    obtain ⟨vs', rfl, h2, h3⟩ := hD
    have := h.a a ho.1
    exact ⟨vs', by rw [this], by rw [← this]; exact h2, lay_segs ho.2 h3⟩
  | .row k a :: r, vs, ho, hD => by
    simp only [List.all_cons, Bool.and_eq_true] at ho
    obtain ⟨vs', rfl, h3⟩ := hD
    have := h.a a ho.1
    exact ⟨vs', by rw [this], lay_segs ho.2 h3⟩
  | .el n w j l :: r, vs, ho, hD => by
    simp only [List.all_cons, Bool.and_eq_true, Lay.segOk] at ho
    obtain ⟨⟨⟨o1, o2⟩, o3⟩, o4⟩ := ho
    obtain ⟨pre, mid, post, vs', rfl, hE, h3⟩ := hD
    refine ⟨pre, mid, post, vs', rfl, ⟨lay_cells h o3 hE.md, hE.wid, ?_, ?_, ?_, hE.one⟩, lay_segs o4 h3⟩
    · rw [← h.i j o2]; exact hE.j0
    · rw [← h.i j o2]; exact hE.at'
    · rw [← h.i n o1]; exact hE.all
  | .tab n cl :: r, vs, ho, hD => by
    simp only [List.all_cons, Bool.and_eq_true, Lay.segOk] at ho
    obtain ⟨⟨o1, o2⟩, o3⟩ := ho
    obtain ⟨tv, vs', rfl, h2, h3⟩ := hD
    exact ⟨tv, vs', rfl, lay_tab h o1 o2 h2, lay_segs o3 h3⟩
theorem lay_sv {x : SV} {v : Value} (ho : s.svOk x = true) (hD : x.D e0 ρ0 v) : (s.sv x).D e ρ v := by
  cases x with
  | c x => exact lay_cell h ho hD
  | agg l =>
    obtain ⟨vs, h1, h2⟩ := hD
    exact ⟨vs, h1, lay_segs h ho h2⟩
theorem lay_svs : ∀ {l : List SV} {vs : List Value}, l.all s.svOk = true → SVsD e0 ρ0 l vs → SVsD e ρ (l.map s.sv) vs
  | [], _, _, hD => hD
  | a :: r, vs, ho, hD => by
    simp only [List.all_cons, Bool.and_eq_true] at ho
    obtain ⟨v, vs', rfl, h2, h3⟩ := hD
    exact ⟨v, vs', rfl, lay_sv h ho.1 h2, lay_svs ho.2 h3⟩
theorem lay_val {x : SVal} {v : Value} (ho : s.valOk x = true) (hD : x.D e0 ρ0 v) : (s.val x).D e ρ v := by
  cases x with
  | v x => exact lay_sv h ho hD
  | tup l =>
    obtain ⟨vs, h1, h2⟩ := hD
    exact ⟨vs, h1, lay_svs h ho h2⟩
  | any => trivial
  | val j => trivial
end
end Go.Proofs.YtaijkkkgpgldbaaDoor.K
