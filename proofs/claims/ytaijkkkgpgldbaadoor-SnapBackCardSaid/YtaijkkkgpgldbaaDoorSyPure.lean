/- A small symbolic executor for loop-free Go code: the operations that look at no memory. -/
import Derived.Test.YtaijkkkgpgldbaaDoorSyOps
namespace Go.Proofs.YtaijkkkgpgldbaaDoor.Sy
set_option linter.unusedVariables false
set_option linter.unusedSimpArgs false
open Go

def spart (as : Asm) (P : Program) (l : List Seg) (t : TypeId) (off : Nat) : Option SV :=
  match P.underlying t with
  | some d =>
    if isAggD d then
      match P.info? t with
      | some i => (readSegs as l off i.size).map .agg
      | none => none
    else (readAt as l off).map .c
  | none => none

theorem cellsOf_eq {P : Program} {t : TypeId} {i : TypeInfo} (h : P.info? t = some i) : P.cellsOf t = i.size := by simp [Program.cellsOf, h]

theorem spart_ok {e : Env} (ok : EnvOk e) {as : Asm} (ha : AsmOk e as) {ρ : Rho} {P : Program} {l : List Seg} {vs : List Value} {t : TypeId} {off : Nat} {x : SV} (hl : SegsD e ρ l vs) (h : spart as P l t off = some x) :
    ∃ V, x.D e ρ V ∧ ∀ w, (part t vs.toArray off).run P w = .ok V w := by
  unfold spart at h
  split at h
  · rename_i d hd
    split at h
    · rename_i hag
      split at h
      · rename_i i hi
        simp only [Option.map_eq_some_iff] at h
        obtain ⟨q, hq, rfl⟩ := h
        have := readSegs_ok ok ha hl hq
        refine ⟨.agg ((vs.drop off).take i.size).toArray, ⟨_, rfl, this.2⟩, fun w => ?_⟩
        simp [part, run_isAgg hd, hag, run_sizeOf' hi, cellsOf_eq hi]
      · cases h
    · rename_i hag
      simp only [Option.map_eq_some_iff] at h
      obtain ⟨q, hq, rfl⟩ := h
      obtain ⟨v, hv, hx⟩ := readAt_ok ok ha hl hq
      exact ⟨v, hx, fun w => by simp [part, run_isAgg hd, hag, hv]⟩
  · cases h

/-- So many elements of so many cells on. -/
def addAd (as : Asm) (a : Ad) (i : IExp) (size : Nat) : Option Ad :=
  match a.ix with
  | none => match isLit i with
    | some m => some ⟨a.b, a.off + m.toNat * size, none⟩
    | none => some ⟨a.b, a.off, some (i, size)⟩
  | some (j, w) => if w = size then (sumI as j i).map fun z => ⟨a.b, a.off, some (z, w)⟩ else none
/-- Element i of n elements of so many cells, from an address on. -/
def sindex (as : Asm) (a : Ad) (n : IExp) (size : Nat) (i : IExp) : Option Ad :=
  if knowsLe as (.lit 0) i && knowsLt as i n then addAd as a i size else none

theorem addr_add (b o n : Nat) : (⟨b, o, none⟩ : Addr).add n = ⟨b, o + n, none⟩ := Addr.add_lit b o n

theorem addAd_ok {e : Env} (ok : EnvOk e) {ρ : Rho} {as : Asm} (ha : AsmOk e as) {a x : Ad} {A : Addr} {size : Nat} {i : IExp} (h0 : 0 ≤ i.den e) (hA : a.D e ρ A) (h : addAd as a i size = some x) : x.D e ρ (A.add ((i.den e).toNat * size)) := by
  unfold addAd at h
  obtain ⟨b', o, r, hb, hA⟩ := hA
  split at h
  · rename_i hix
    rw [hix] at hA
    simp only at hA
    subst hA
    split at h
    · rename_i m hm
      have := isLit_eq hm
      subst this
      cases h
      exact ⟨b', o, r, hb, by simp only [litD, addr_add]; congr 1; omega⟩
    · cases h
      exact ⟨b', o, r, hb, h0, by simp only [addr_add]⟩
  · rename_i j w hix
    rw [hix] at hA
    simp only at hA
    obtain ⟨h1, rfl⟩ := hA
    split at h
    · rename_i hw
      subst hw
      simp only [Option.map_eq_some_iff] at h
      obtain ⟨z, hz, rfl⟩ := h
      have hz := sumI_ok ok ha hz
      refine ⟨b', o, r, hb, by omega, ?_⟩
      simp only [addr_add]
      congr 1
      rw [hz, show (j.den e + i.den e).toNat = (j.den e).toNat + (i.den e).toNat by omega, Nat.add_mul]
      omega
    · cases h
theorem addAd_pos {e : Env} (ok : EnvOk e) {ρ : Rho} {as : Asm} (ha : AsmOk e as) {a x : Ad} {A : Addr} {size : Nat} {i : IExp} (h0 : 0 ≤ i.den e) (hA : a.D e ρ A) (h : addAd as a i size = some x) : x.b = a.b ∧ x.pos e = a.pos e + (i.den e).toNat * size := by
  obtain ⟨b', o', r', _, hA⟩ := hA
  unfold addAd at h
  cases hix : a.ix with
  | none =>
    rw [hix] at h
    simp only at h
    split at h
    · rename_i m hm
      cases h
      rw [isLit_eq hm, litD]
      exact ⟨rfl, by unfold Ad.pos; rw [hix]⟩
    · cases h
      exact ⟨rfl, by unfold Ad.pos; rw [hix]⟩
  | some p =>
    obtain ⟨j, w⟩ := p
    rw [hix] at h hA
    simp only at h
    split at h
    · rename_i hw
      subst hw
      simp only [Option.map_eq_some_iff] at h
      obtain ⟨z, hz, rfl⟩ := h
      have hz := sumI_ok ok ha hz
      have hj : 0 ≤ j.den e := hA.1
      refine ⟨rfl, ?_⟩
      unfold Ad.pos
      rw [hix]
      simp only [hz]
      rw [Int.toNat_add hj h0, Nat.add_mul, Nat.add_assoc]
    · cases h
theorem sindex_ok {e : Env} (ok : EnvOk e) {ρ : Rho} {as : Asm} (ha : AsmOk e as) {a x : Ad} {n : IExp} {size : Nat} {i : IExp} (h : sindex as a n size i = some x) :
    0 ≤ i.den e ∧ i.den e < n.den e ∧ ∀ A, a.D e ρ A → x.D e ρ (A.add ((i.den e).toNat * size)) := by
  unfold sindex at h
  split at h
  · rename_i hk
    simp only [Bool.and_eq_true] at hk
    have h0 := knowsLe_ok ok ha hk.1
    rw [litD] at h0
    exact ⟨h0, knowsLt_ok ok ha hk.2, fun A hA => addAd_ok ok ha h0 hA h⟩
  · cases h

def T1 {α : Type} (as : Asm) : Option α → Tree (α × Asm)
  | some x => .leaf (x, as)
  | none => .stop
theorem T1_inv {α : Type} {e : Env} {as as' : Asm} {o : Option α} {x : α} (h : (T1 as o).pick e = some (x, as')) : o = some x ∧ as' = as := by
  cases o with
  | none => cases h
  | some y => have := leaf_inv h; cases this; exact ⟨rfl, rfl⟩

/-- An array value's element at an index that is not known. -/
def sindexV (P : Program) (as : Asm) (l : List Seg) (len : Nat) (el : TypeId) (size : Nat) (i : IExp) : Option SVal :=
  match P.underlying el with
  | some d =>
    if isAggD d then none
    else if size = 1 ∧ knowsLe as (.lit 0) i = true ∧ knowsLt as i (.lit len) = true then (readIx as l 0 i 1).map fun c => .v (.c c)
    else none
  | none => none
theorem sindexV_ok {e : Env} (ok : EnvOk e) {ρ : Rho} {P : Program} {as : Asm} (ha : AsmOk e as) {l : List Seg} {vs : List Value} {len : Nat} {el : TypeId} {size : Nat} {i : IExp} {x : SVal} (hl : SegsD e ρ l vs)
    (h : sindexV P as l len el size i = some x) :
    0 ≤ i.den e ∧ i.den e < len ∧ ∃ V, x.D e ρ V ∧ ∀ w, (part el vs.toArray ((i.den e).toNat * size)).run P w = .ok V w := by
  unfold sindexV at h
  split at h
  · rename_i d hd
    split at h
    · cases h
    · rename_i hagg
      split at h
      · rename_i hs
        obtain ⟨rfl, h0, h1⟩ := hs
        have g1 := knowsLe_ok ok ha h0
        have g2 := knowsLt_ok ok ha h1
        rw [litD] at g1 g2
        simp only [Option.map_eq_some_iff] at h
        obtain ⟨c, hc, rfl⟩ := h
        obtain ⟨v, hv, hx⟩ := readIx_ok ok ha g1 hl hc
        refine ⟨g1, g2, v, hx, fun w => ?_⟩
        rw [Nat.zero_add] at hv
        simp only [Nat.mul_one] at hv ⊢
        simp [part, run_isAgg hd, hagg, hv]
      · cases h
  · cases h

def evalCaps (G : Nat) (tmps : Tm) : List Operand → Option (List Ad)
  | [] => some []
  | o :: r => match asCell (seval G tmps o), evalCaps G tmps r with
    | some (.p (some a)), some l => some (a :: l)
    | _, _ => none
theorem evalCaps_ok {e : Env} {ρ : Rho} {G : Nat} (hG : Glob G ρ) {tmps : Tm} {a : Act} (ht : TmD e ρ tmps a.tmps.toList) : ∀ {os : List Operand} {l : List Ad}, evalCaps G tmps os = some l → AdsD e ρ l (os.map a.eval)
  | [], l, h => by simp only [evalCaps, Option.some.injEq] at h; subst h; rfl
  | o :: r, l, h => by
    simp only [evalCaps] at h
    split at h
    · rename_i x q h1 h2
      cases h
      obtain ⟨A, hA, hv⟩ := evalCell hG ht h1
      exact ⟨A, _, hA, by rw [List.map_cons, hv], evalCaps_ok hG ht h2⟩
    · cases h

def evalI (G : Nat) (tmps : Tm) (o : Operand) : Option IExp := match asCell (seval G tmps o) with
  | some (.i _ x) => some x
  | _ => none
theorem evalI_ok {e : Env} {ρ : Rho} {G : Nat} (hG : Glob G ρ) {tmps : Tm} {a : Act} (ht : TmD e ρ tmps a.tmps.toList) {o : Operand} {x : IExp} (h : evalI G tmps o = some x) : ∃ k, a.eval o = .int k (x.den e) := by
  unfold evalI at h
  split at h
  · rename_i k y hy
    cases h
    exact ⟨k, evalCell hG ht hy⟩
  · cases h
def optI (G : Nat) (tmps : Tm) (d : IExp) : Option Operand → Option IExp
  | none => some d
  | some o => evalI G tmps o

def capOk (as : Asm) (n : IExp) : Option IExp → Option IExp → Bool
  | none, _ => true
  | some q, some c => knowsLe as q c
  | some q, none => knowsLe as q n
/-- A part of a slice, of a text, of an array. -/
def sslice (P : Program) (as : Asm) (t : TypeId) (x : Cell) (l : IExp) (h : Option IExp) : Option Cell :=
  match P.underlying t, x with
  | some (.slice el), .sl (some a) n cap =>
    match P.info? el, lessI as (h.getD n) l with
    | some ie, some m =>
      if knowsLe as (.lit 0) l && knowsLe as l (h.getD n) && capOk as n h cap then
        match addAd as a l ie.size, cap with
        | some b, some c => (lessI as c l).map fun r => .sl (some b) m (some r)
        | some b, none => if isZ l then some (.sl (some a) m none) else if b.wid = ie.size ∧ a.wid = ie.size then some (.sl (some b) m none) else none
        | none, _ => none
      else none
    | _, _ => none
  | some .string, .s a =>
    match lessI as (h.getD (mkLen as a)) l with
    | some m => if knowsLe as (.lit 0) l && knowsLe as l (h.getD (mkLen as a)) && knowsLe as (h.getD (mkLen as a)) (mkLen as a) then some (.s (mkPart as a l m)) else none
    | none => none
  | some (.array n el), .p (some a) =>
    match P.info? el, lessI as (h.getD (.lit n)) l, lessI as (.lit n) l with
    | some ie, some m, some r =>
      if knowsLe as (.lit 0) l && knowsLe as l (h.getD (.lit n)) && knowsLe as (h.getD (.lit n)) (.lit n) then
        (addAd as a l ie.size).map fun b => .sl (some b) m (some r)
      else none
    | _, _, _ => none
  | _, _ => none

theorem run_sliceBound {P : Program} {w : World} {k : IntKind} {i : Int} {y : Nat} {code : BoundsCode} (h0 : 0 ≤ i) (h1 : i ≤ y) : (Instr.sliceBound (.int k i) y code).run P w = .ok i.toNat w := by
  simp [Instr.sliceBound, asIntOf, h0, h1]

/-- Low and high bound. -/
def Bd (v : Option Value) (d : Nat) (x : Int) : Prop := (v = none ∧ x = d) ∨ ∃ k, v = some (.int k x)
theorem run_sliceBounds {P : Program} {w : World} {isS : Bool} {len cap : Nat} {lo hi : Option Value} {l h : Int} (hl : Bd lo 0 l) (hh : Bd hi len h) (h0 : 0 ≤ l) (h1 : l ≤ h) (h2 : h ≤ cap) :
    (Instr.sliceBounds isS len cap lo hi none).run P w = .ok (l.toNat, h.toNat, cap) w := by
  unfold Instr.sliceBounds
  rcases hh with ⟨rfl, rfl⟩ | ⟨k, rfl⟩
  · rcases hl with ⟨rfl, rfl⟩ | ⟨k', rfl⟩
    · simp
    · simp only [Sem.run_bind, Sem.run_pure, Result.andThen_ok, run_sliceBound h0 h1]
      simp
  · rcases hl with ⟨rfl, rfl⟩ | ⟨k', rfl⟩
    · simp only [Sem.run_bind, Sem.run_pure, Result.andThen_ok, run_sliceBound (show 0 ≤ h by omega) h2]
      simp
    · simp only [Sem.run_bind, Sem.run_pure, Result.andThen_ok, run_sliceBound (show 0 ≤ h by omega) h2]
      have e1 : l ≤ ((h.toNat : Nat) : Int) := by omega
      simp only [run_sliceBound h0 e1, Result.andThen_ok]

theorem sslice_ok {e : Env} (ok : EnvOk e) {P : Program} {ρ : Rho} {as : Asm} (ha : AsmOk e as) {t : TypeId} {x y : Cell} {l : IExp} {h : Option IExp} {X : Value} {lo hi : Option Value} (hX : x.D e ρ X)
    (hlo : Bd lo 0 (l.den e)) (hhi : ∀ len : Nat, (∀ d : IExp, h = none → d.den e = len → Bd hi len (d.den e)) ∧ ∀ q, h = some q → Bd hi len (q.den e)) (hs : sslice P as t x l h = some y) :
    ∃ Y, y.D e ρ Y ∧ ∀ w, (Instr.sliceAt t X lo hi none).run P w = .ok Y w := by
  unfold sslice at hs
  split at hs
  · rename_i el a n cap hu
    obtain ⟨o, n', c', rfl, hn, hle', ho⟩ := hX
    have hB : Bd hi n' ((h.getD n).den e) := by
      cases h with
      | none => exact (hhi n').1 n rfl hn.symm
      | some q => exact (hhi n').2 q rfl
    have hcx : ∀ c, cap = some c → (c' : Int) = c.den e := by
      intro c hc
      subst hc
      rcases ho with ⟨A, _, _, h5⟩ | ⟨h4, h5, h6⟩
      · exact h5
      · rw [h6 c rfl, h5]; rfl
    split at hs
    · rename_i ie m hie hm
      split at hs
      · rename_i hc
        simp only [Bool.and_eq_true] at hc
        obtain ⟨⟨h1, h2⟩, h3⟩ := hc
        have h1 := knowsLe_ok ok ha h1
        have h2 := knowsLe_ok ok ha h2
        rw [litD] at h1
        have hm := lessI_ok ok ha hm
        have hle : (h.getD n).den e ≤ c' := by
          cases h with
          | none => rw [Option.getD_none]; omega
          | some q =>
            rw [Option.getD_some]
            cases cap with
            | none => have := knowsLe_ok ok ha h3; omega
            | some c => have := knowsLe_ok ok ha h3; have := hcx c rfl; omega
        have hrun : ∀ w, (Instr.sliceAt t (.slice o n' c') lo hi none).run P w = .ok (.slice (if c' = (l.den e).toNat then o else o.map (·.add ((l.den e).toNat * ie.size))) (((h.getD n).den e).toNat - (l.den e).toNat) (c' - (l.den e).toNat)) w := by
          intro w
          simp only [Instr.sliceAt, Sem.run_bind, run_underlying hu, Result.andThen_ok, Instr.slice, run_sliceBounds hlo hB h1 h2 hle, run_sizeOf' hie, cellsOf_eq hie, Sem.run_pure]
        split at hs
        · rename_i b c hb
          simp only [Option.map_eq_some_iff] at hs
          obtain ⟨r, hr, rfl⟩ := hs
          have hr := lessI_ok ok ha hr
          have h4 := hcx c rfl
          refine ⟨_, ⟨_, _, _, rfl, by omega, by omega, ?_⟩, hrun⟩
          by_cases hcl : c' = (l.den e).toNat
          · right; exact ⟨by omega, by omega, fun x hx => by cases hx; omega⟩
          · rcases ho with ⟨A, hA, rfl, _⟩ | ⟨h5, h6, _⟩
            · left
              exact ⟨_, addAd_ok ok ha h1 hA hb, by rw [if_neg hcl]; rfl, by show _ = r.den e; omega⟩
            · right; exact ⟨by omega, by omega, fun x hx => by cases hx; omega⟩
        · rename_i b hb
          split at hs
          · rename_i hz
            cases hs
            have hl0 : l.den e = 0 := by rw [isZ_eq hz]; rfl
            refine ⟨_, ⟨_, _, _, rfl, by omega, by omega, ?_⟩, hrun⟩
            by_cases hcl : c' = (l.den e).toNat
            · right; exact ⟨by omega, by omega, fun x hx => by cases hx⟩
            · rcases ho with ⟨A, hA, rfl, h7⟩ | ⟨h5, h6, _⟩
              · left
                refine ⟨A, hA, ?_, ?_⟩
                · rw [if_neg hcl, hl0]
                  obtain ⟨b', o', r', _, hA'⟩ := hA
                  have : ∃ q w, A = ⟨q, w, none⟩ := by
                    cases hix : a.ix with
                    | none => rw [hix] at hA'; exact ⟨_, _, hA'⟩
                    | some p => obtain ⟨i, w⟩ := p; rw [hix] at hA'; exact ⟨_, _, hA'.2⟩
                  obtain ⟨q, w, rfl⟩ := this
                  simp [addr_add]
                · rw [hl0]; exact h7
              · right; exact ⟨by omega, by omega, fun x hx => by cases hx⟩
          · split at hs
            · rename_i hw
              obtain ⟨w1, w2⟩ := hw
              cases hs
              refine ⟨_, ⟨_, _, _, rfl, by omega, by omega, ?_⟩, hrun⟩
              by_cases hcl : c' = (l.den e).toNat
              · right; exact ⟨by omega, by omega, fun x hx => by cases hx⟩
              · rcases ho with ⟨A, hA, rfl, h7⟩ | ⟨h5, h6, _⟩
                · left
                  refine ⟨_, addAd_ok ok ha h1 hA hb, by rw [if_neg hcl]; rfl, ?_⟩
                  obtain ⟨b', o', r', g1, g2⟩ := h7
                  obtain ⟨p1, p2⟩ := addAd_pos ok ha h1 hA hb
                  refine ⟨b', o', r', by rw [p1]; exact g1, ?_⟩
                  rw [p2, w1]
                  rw [w2] at g2
                  rw [← g2]
                  have hlc : (l.den e).toNat ≤ c' := by omega
                  obtain ⟨d, rfl⟩ := Nat.exists_eq_add_of_le hlc
                  rw [show (l.den e).toNat + d - (l.den e).toNat = d by omega, Nat.add_mul]
                  omega
                · right; exact ⟨by omega, by omega, fun x hx => by cases hx⟩
            · cases hs
        · cases hs
      · cases hs
    · cases hs
  · rename_i a hu
    cases hX
    have hz := strOf_size (a.den e)
    have hl := mkLen_den ok ha a
    have hB : Bd hi (strOf (a.den e)).size ((h.getD (mkLen as a)).den e) := by
      cases h with
      | none => exact (hhi _).1 (mkLen as a) rfl (by rw [hl, hz])
      | some q => exact (hhi _).2 q rfl
    split at hs
    · rename_i m hm
      split at hs
      · rename_i hc
        cases hs
        simp only [Bool.and_eq_true] at hc
        obtain ⟨⟨h1, h2⟩, h3⟩ := hc
        have h1 := knowsLe_ok ok ha h1
        have h2 := knowsLe_ok ok ha h2
        have h3 := knowsLe_ok ok ha h3
        rw [litD] at h1
        have hm := lessI_ok ok ha hm
        refine ⟨_, rfl, fun w => ?_⟩
        have hrb := run_sliceBounds (P := P) (w := w) (isS := false) (len := (strOf (a.den e)).size) (cap := (strOf (a.den e)).size) hlo hB h1 h2 (by rw [hz]; omega)
        simp only [Instr.sliceAt, Sem.run_bind, run_underlying hu, Result.andThen_ok, Instr.slice, hrb, Option.isSome_none, Bool.false_eq_true, if_false, Sem.run_pure]
        rw [mkPart_den ok ha]
        congr 2
        apply ByteArray.ext
        simp only [strOf, ByteArray.data_extract, List.extract_toArray, List.extract_eq_take_drop, List.map_take, List.map_drop]
        congr 2; omega
      · cases hs
    · cases hs
  · rename_i n el a hu
    obtain ⟨A, hA, rfl⟩ := hX
    have hB : Bd hi n ((h.getD (.lit n)).den e) := by
      cases h with
      | none => exact (hhi n).1 (.lit n) rfl rfl
      | some q => exact (hhi n).2 q rfl
    split at hs
    · rename_i ie m r hie hm hr
      split at hs
      · rename_i hc
        simp only [Bool.and_eq_true] at hc
        obtain ⟨⟨h1, h2⟩, h3⟩ := hc
        have h1 := knowsLe_ok ok ha h1
        have h2 := knowsLe_ok ok ha h2
        have h3 := knowsLe_ok ok ha h3
        rw [litD] at h1 h3
        have hm := lessI_ok ok ha hm
        have hr := lessI_ok ok ha hr
        rw [litD] at hr
        simp only [Option.map_eq_some_iff] at hs
        obtain ⟨b, hb, rfl⟩ := hs
        have hrun : ∀ w, (Instr.sliceAt t (.pointer (some A)) lo hi none).run P w = .ok (.slice (some (if n = (l.den e).toNat then A else A.add ((l.den e).toNat * ie.size))) (((h.getD (.lit n)).den e).toNat - (l.den e).toNat) (n - (l.den e).toNat)) w := by
          intro w
          simp only [Instr.sliceAt, Sem.run_bind, run_underlying hu, Result.andThen_ok, Instr.sureAddr, run_sliceBounds hlo hB h1 h2 h3, run_sizeOf' hie, cellsOf_eq hie, Sem.run_pure]
        refine ⟨_, ⟨_, _, _, rfl, by omega, by omega, ?_⟩, hrun⟩
        by_cases hcl : n = (l.den e).toNat
        · right; exact ⟨by omega, by omega, fun x hx => by cases hx; omega⟩
        · left
          exact ⟨_, addAd_ok ok ha h1 hA hb, by rw [if_neg hcl], by show _ = r.den e; omega⟩
      · cases hs
    · cases hs
  · cases hs

def spure (P : Program) (G : Nat) (tmps : Tm) (as : Asm) (op : Op) : Tree (SVal × Asm) :=
  match op with
  | .move x => T1 as (seval G tmps x)
  | .assign x => T1 as (seval G tmps x)
  | .pick c a b =>
    match asCell (seval G tmps c) with
    | some (.b x) => (fork as x).bind fun r => match r with | (v, as1) => if v then T1 as1 (seval G tmps a) else T1 as1 (seval G tmps b)
    | _ => .stop
  | .nilCheck x =>
    match asCell (seval G tmps x) with
    | some (.p (some a)) => .leaf (.v (.c (.p (some a))), as)
    | some (.fn f caps) => .leaf (.v (.c (.fn f caps)), as)
    | _ => .stop
  | .slice t x lo hi none =>
    match asCell (seval G tmps x), optI G tmps (.lit 0) lo with
    | some c, some l => match hi with
      | none => T1 as ((sslice P as t c l none).map fun y => .v (.c y))
      | some o => match evalI G tmps o with
        | some q => T1 as ((sslice P as t c l (some q)).map fun y => .v (.c y))
        | none => .stop
    | _, _ => .stop
  | .binOp op t x y _ =>
    match asSV (seval G tmps x), asSV (seval G tmps y) with
    | some (.c a), some (.c b) => (sbin P as op t a b).bind fun r => match r with | (v, as1) => .leaf (.v (.c v), as1)
    | some (.agg l), some (.agg l') =>
      if P.eqGuardType P.depth t || !((P.underlying t).map isAggD).getD false then .stop
      else
        match leaves P 10000 t, segKinds l, segKinds l' with
        | some L, some K, some K' =>
          if lfsSame L K && lfsSame L K' then
            match op with
            | .eql => (cmpSegs (2 * ((segsLen l).getD 0 + (segsLen l').getD 0) + 10) as l l').bind fun q => match q with | (v, as1) => .leaf (.v (.c (.b (.lit v))), as1)
            | .neq => (cmpSegs (2 * ((segsLen l).getD 0 + (segsLen l').getD 0) + 10) as l l').bind fun q => match q with | (v, as1) => .leaf (.v (.c (.b (.lit (!v)))), as1)
            | _ => .stop
          else .stop
        | _, _, _ => .stop
    | _, _ => .stop
  | .unOp op _ x =>
    match asCell (seval G tmps x), op with
    | some (.b x), .not => .leaf (.v (.c (.b (mkNot x))), as)
    | some (.i k x), .neg => .leaf (.v (.c (.i k (mkBin .sub k (.lit 0) x))), as)
    | _, _ => .stop
  | .convert s d x =>
    match asCell (seval G tmps x), P.underlying s, P.underlying d with
    | some (.i _ x), some _, some (.int k) => .leaf (.v (.c (.i k (mkConv as k x))), as)
    | some (.s x), some .string, some .string => .leaf (.v (.c (.s x)), as)
    | _, _, _ => .stop
  | .makeFunc fn first captured =>
    match fn, first.toList, evalCaps G tmps captured.toList with
    | .func f, [], some l => .leaf (.v (.c (.fn f l)), as)
    | _, _, _ => .stop
  | .build t parts =>
    match evalParts G tmps parts.toList with
    | some ps => T1 as ((sbuild as P t ps).map fun l => .v (.agg l))
    | none => .stop
  | .fieldAddr t x f =>
    match asCell (seval G tmps x), P.underlying t with
    | some (.p (some a)), some (.struct fs) =>
      match fs[f]? with
      | some fl =>
        match P.info? fl.type with
        | some i => if i.size = 0 then .stop else .leaf (.v (.c (.p (some ⟨a.b, a.off + fl.offset, a.ix⟩))), as)
        | none => .stop
      | none => .stop
    | _, _ => .stop
  | .indexAddr t x ix =>
    match asCell (seval G tmps x), asCell (seval G tmps ix), P.underlying t with
    | some (.p (some a)), some (.i _ i), some (.array len el) =>
      match P.info? el with
      | some ie => T1 as ((sindex as a (.lit len) ie.size i).map fun r => .v (.c (.p (some r))))
      | none => .stop
    | some (.sl (some a) len _), some (.i _ i), some (.slice el) =>
      match P.info? el with
      | some ie => T1 as ((sindex as a len ie.size i).map fun r => .v (.c (.p (some r))))
      | none => .stop
    | _, _, _ => .stop
  | .index t x ix =>
    match asSV (seval G tmps x), asCell (seval G tmps ix), P.underlying t with
    | some (.agg l), some (.i _ i), some (.array len el) =>
      match P.info? el, isLit i with
      | some ie, some m => if 0 ≤ m ∧ m < len then T1 as ((spart as P l el (m.toNat * ie.size)).map .v) else .stop
      | some ie, none => T1 as (sindexV P as l len el ie.size i)
      | _, _ => .stop
    | some (.c (.s y)), some (.i _ i), some .string =>
      if knowsLe as (.lit 0) i && knowsLt as i (mkLen as y) && y.inK as .u8 then .leaf (.v (.c (.i .u8 (mkSel as .u8 y i))), as) else .stop
    | _, _, _ => .stop
  | .field t x f =>
    match asSV (seval G tmps x), P.underlying t with
    | some (.agg l), some (.struct fs) =>
      match fs[f]? with
      | some fl => T1 as ((spart as P l fl.type fl.offset).map .v)
      | none => .stop
    | _, _ => .stop
  | .extract x i =>
    match seval G tmps x with
    | some (.tup l) => T1 as ((l[i]?).map .v)
    | _ => .stop
  | .call c =>
    match c.callee, c.args.toList, (c.argTypes[0]?).bind P.underlying with
    | .builtin .len, [o], some (.slice _) =>
      match asCell (seval G tmps o) with
      | some (.sl _ n _) => .leaf (.v (.c (.i .i64 n)), as)
      | _ => .stop
    | .builtin .len, [o], some .string =>
      match asCell (seval G tmps o) with
      | some (.s x) => .leaf (.v (.c (.i .i64 (mkLen as x))), as)
      | _ => .stop
    | .builtin .cap, [o], some (.slice _) =>
      match asCell (seval G tmps o) with
      | some (.sl _ _ (some n)) => .leaf (.v (.c (.i .i64 n)), as)
      | _ => .stop
    | .builtin .min, [o, q], _ =>
      match asCell (seval G tmps o), asCell (seval G tmps q) with
      | some (.i k x), some (.i _ y) => (fork as (mkLt as y x)).bind fun r => match r with | (v, as1) => .leaf (.v (.c (.i k (if v then y else x))), as1)
      | _, _ => .stop
    | .builtin .max, [o, q], _ =>
      match asCell (seval G tmps o), asCell (seval G tmps q) with
      | some (.i k x), some (.i _ y) => (fork as (mkLt as x y)).bind fun r => match r with | (v, as1) => .leaf (.v (.c (.i k (if v then y else x))), as1)
      | _, _ => .stop
    | _, _, _ => .stop
  | _ => .stop

theorem run_v {P : Program} {s : Sem Value} {w w' : World} {V : Value} (h : s.run P w = .ok V w') : (do pure (Next.value (← s)) : Sem Next).run P w = .ok (.value V) w' := by
  rw [Sem.run_bind, h]; rfl

theorem SVsD.get {e : Env} {ρ : Rho} : ∀ {l : List SV} {vs : List Value} {i : Nat} {x : SV}, SVsD e ρ l vs → l[i]? = some x → ∃ v, vs[i]? = some v ∧ x.D e ρ v
  | [], _, _, _, _, h => by simp at h
  | y :: r, _, 0, x, ⟨v, vs', h1, h2, _⟩, h => by subst h1; simp at h; subst h; exact ⟨v, rfl, h2⟩
  | y :: r, _, i + 1, x, ⟨v, vs', h1, _, h3⟩, h => by
    subst h1
    obtain ⟨u, hu, hx⟩ := SVsD.get h3 (by simpa using h)
    exact ⟨u, by simpa using hu, hx⟩

theorem spure_ok {e : Env} (ok : EnvOk e) {P : Program} {ρ : Rho} {G : Nat} (hG : Glob G ρ) {tmps : Tm} {a : Act} (ht : TmD e ρ tmps a.tmps.toList) {as as' : Asm} (ha : AsmOk e as) {o : Oper} {x : SVal}
    (h : (spure P G tmps as o.op).pick e = some (x, as')) : AsmOk e as' ∧ ∃ V, x.D e ρ V ∧ ∀ w, (execOp a.eval o).run P w = .ok (.value V) w := by
  obtain ⟨dst, op, ty, pos, after, guard⟩ := o
  simp only at h
  cases op <;> simp only [spure] at h <;> simp only [execOp]
  case move y =>
    obtain ⟨h1, rfl⟩ := T1_inv h
    exact ⟨ha, _, seval_ok hG ht h1, fun w => rfl⟩
  case assign y =>
    obtain ⟨h1, rfl⟩ := T1_inv h
    exact ⟨ha, _, seval_ok hG ht h1, fun w => rfl⟩
  case pick c y z =>
    split at h
    · rename_i b hb
      have hc := evalCell hG ht hb
      obtain ⟨⟨q, as1⟩, h1, h2⟩ := Tree.pick_bind h
      have hf := fork_ok ok ha h1
      cases q with
      | true =>
        simp only [if_true] at h2
        obtain ⟨h3, rfl⟩ := T1_inv h2
        refine ⟨hf.2, _, seval_ok hG ht h3, fun w => ?_⟩
        simp only [Cell.D, hf.1] at hc
        simp [hc, asBool]
      | false =>
        simp only [Bool.false_eq_true, if_false] at h2
        obtain ⟨h3, rfl⟩ := T1_inv h2
        refine ⟨hf.2, _, seval_ok hG ht h3, fun w => ?_⟩
        simp only [Cell.D, hf.1] at hc
        simp [hc, asBool]
    · cases h
  case nilCheck y =>
    split at h
    · rename_i b hb
      have hc := evalCell hG ht hb
      have h2 := leaf_inv h
      cases h2
      obtain ⟨A, hA, hv⟩ := hc
      exact ⟨ha, _, ⟨A, hA, rfl⟩, fun w => by rw [hv]; rfl⟩
    · rename_i f caps hb
      have hc := evalCell hG ht hb
      have h2 := leaf_inv h
      cases h2
      obtain ⟨vs, hA, hv⟩ := hc
      exact ⟨ha, _, ⟨vs, hA, rfl⟩, fun w => by rw [hv]; rfl⟩
    · cases h
  case binOp op t y z yt =>
    split at h
    · rename_i c1 c2 h1 h2
      obtain ⟨⟨r, as1⟩, h3, h4⟩ := Tree.pick_bind h
      have h4 := leaf_inv h4
      cases h4
      obtain ⟨q1, V, hV, hrun⟩ := sbin_ok ok ha (evalSV hG ht h1) (evalSV hG ht h2) y z h3
      exact ⟨q1, V, hV, fun w => run_v (hrun w)⟩
    · rename_i l l' h1 h2
      split at h
      · cases h
      · rename_i hg
        simp only [Bool.or_eq_true, not_or, Bool.not_eq_true, Bool.not_eq_false'] at hg
        obtain ⟨hg1, hg2⟩ := hg
        split at h
        · rename_i L K K' hL hK hK'
          split at h
          · rename_i hs
            simp only [Bool.and_eq_true] at hs
            have e1 := lfsSame_eq hs.1
            have e2 := lfsSame_eq hs.2
            subst e1
            subst e2
            obtain ⟨vs, hv, d1⟩ := evalSV hG ht h1
            obtain ⟨ws, hw, d2⟩ := evalSV hG ht h2
            have k1 := segKinds_ok d1 hK
            have k2 := segKinds_ok d2 hK'
            obtain ⟨d', hd', _⟩ := leaves_ul _ _ _ hL
            have hm : ∀ xs, mkv P t xs = .agg xs.toArray := by
              intro xs; unfold mkv
              rw [hd'] at hg2 ⊢
              cases d' <;> first | rfl | (simp [isAggD] at hg2)
            have key : ∀ w, ∃ b, (Op.equalIn 10000 t (.agg vs.toArray) (.agg ws.toArray)).run P w = .ok b w ∧ (b = true ↔ vs = ws) := by
              intro w
              have := equalIn_ok 10000 t L vs ws hL k1 k2 w
              rwa [hm, hm] at this
            have hgd : ∀ op', ∀ w, (eqGuard op' t y z (.agg vs.toArray) (.agg ws.toArray)).run P w = .ok () w := fun op' w => run_eqGuard_agg w op' t y z _ _ hg1
            rw [hv, hw]
            split at h
            · obtain ⟨⟨b, as1⟩, h3, h4⟩ := Tree.pick_bind h
              have h4 := leaf_inv h4
              cases h4
              have hc := cmpSegs_ok ok ha d1 d2 h3
              refine ⟨hc.2, _, rfl, fun w => run_v ?_⟩
              obtain ⟨b2, hb2, hbi⟩ := key w
              have : b2 = b := by rw [Bool.eq_iff_iff, hbi, hc.1]
              subst this
              rw [Sem.run_bind, hgd, Result.andThen_ok, run_eql_struct, hb2]; rfl
            · obtain ⟨⟨b, as1⟩, h3, h4⟩ := Tree.pick_bind h
              have h4 := leaf_inv h4
              cases h4
              have hc := cmpSegs_ok ok ha d1 d2 h3
              refine ⟨hc.2, _, rfl, fun w => run_v ?_⟩
              obtain ⟨b2, hb2, hbi⟩ := key w
              have : b2 = b := by rw [Bool.eq_iff_iff, hbi, hc.1]
              subst this
              rw [Sem.run_bind, hgd, Result.andThen_ok, run_neq_struct, hb2]; rfl
            · cases h
          · cases h
        · cases h
    · cases h
  case unOp op t y =>
    split at h
    · rename_i b hb
      have hc := evalCell hG ht hb
      have h2 := leaf_inv h
      cases h2
      simp only [Cell.D] at hc
      exact ⟨ha, _, rfl, fun w => run_v (by rw [hc]; simp [Op.unary, mkNot_den])⟩
    · rename_i k b hb
      have hc := evalCell hG ht hb
      have h2 := leaf_inv h
      cases h2
      simp only [Cell.D] at hc
      exact ⟨ha, _, rfl, fun w => run_v (by rw [hc]; simp [Op.unary, Op.intArith, mkBin_den, binDen, litD])⟩
    · cases h
  case convert s d y =>
    split at h
    · rename_i k0 b u k hb h1 h2
      have hc := evalCell hG ht hb
      have h2' := leaf_inv h
      cases h2'
      simp only [Cell.D] at hc
      refine ⟨ha, _, rfl, fun w => run_v ?_⟩
      rw [hc, mkConv_den ok ha]
      unfold convert
      simp only [Sem.run_bind, run_underlying h1, run_underlying h2, Result.andThen_ok]
      cases u <;> rfl
    · rename_i b hb h1 h2
      have hc := evalCell hG ht hb
      have h2' := leaf_inv h
      cases h2'
      simp only [Cell.D] at hc
      refine ⟨ha, _, rfl, fun w => run_v ?_⟩
      rw [hc]
      unfold convert
      simp only [Sem.run_bind, run_underlying h1, run_underlying h2, Result.andThen_ok]
      rfl
    · cases h
  case makeFunc fn first captured =>
    split at h
    · rename_i f l h1 h2
      have h3 := leaf_inv h
      cases h3
      have hc := evalCaps_ok hG ht h2
      have hf : first = #[] := by cases first; simp_all
      subst hf
      refine ⟨ha, _, ⟨_, hc, rfl⟩, fun w => run_v ?_⟩
      have e1 : captured.map a.eval = (List.map a.eval captured.toList).toArray := by apply Array.ext'; simp
      rw [e1]
      simp [Instr.makeFunc]
    · cases h
  case build t parts =>
    split at h
    · rename_i ps h1
      obtain ⟨h2, rfl⟩ := T1_inv h
      simp only [Option.map_eq_some_iff] at h2
      obtain ⟨l, hl, rfl⟩ := h2
      have hp := evalParts_ok hG ht h1
      obtain ⟨cs, hb, hd⟩ := sbuild_ok ok ha hp hl
      refine ⟨ha, _, ⟨cs.toList, rfl, hd⟩, fun w => run_v ?_⟩
      refine run_build w t _ _ ?_
      simpa using hb
    · cases h
  case slice t y lo hi mx =>
    cases mx with
    | some m => simp only at h; cases h
    | none =>
      simp only at h
      split at h
      · rename_i c l hc hl
        have hC := evalCell hG ht hc
        have hlo : Bd (lo.map a.eval) 0 (l.den e) := by
          cases lo with
          | none => cases hl; exact .inl ⟨rfl, rfl⟩
          | some q => obtain ⟨k, hk⟩ := evalI_ok hG ht hl; exact .inr ⟨k, by rw [← hk]; rfl⟩
        split at h
        · obtain ⟨h2, rfl⟩ := T1_inv h
          simp only [Option.map_eq_some_iff] at h2
          obtain ⟨y', hy, rfl⟩ := h2
          obtain ⟨Y, hY, hrun⟩ := sslice_ok (hi := none) ok ha hC hlo (fun len => ⟨(fun d _ hd => .inl ⟨rfl, hd⟩), (fun q hq => by cases hq)⟩) hy
          exact ⟨ha, Y, hY, fun w => run_v (hrun w)⟩
        · rename_i o'
          split at h
          · rename_i q hq
            obtain ⟨h2, rfl⟩ := T1_inv h
            simp only [Option.map_eq_some_iff] at h2
            obtain ⟨y', hy, rfl⟩ := h2
            obtain ⟨k, hk⟩ := evalI_ok hG ht hq
            obtain ⟨Y, hY, hrun⟩ := sslice_ok (hi := some (a.eval o')) ok ha hC hlo (fun len => ⟨(fun d hd _ => by cases hd), (fun q' hq' => by cases hq'; exact .inr ⟨k, by rw [hk]⟩)⟩) hy
            exact ⟨ha, Y, hY, fun w => run_v (hrun w)⟩
          · cases h
      · cases h
  case fieldAddr t y f =>
    split at h
    · rename_i ad fs h1 h2
      split at h
      · rename_i fl hf
        split at h
        · rename_i i hi
          split at h
          · cases h
          · rename_i hz
            have h3 := leaf_inv h
            cases h3
            obtain ⟨A, ⟨b', o, r', hb, hA⟩, hv⟩ := evalCell hG ht h1
            have hA2 : Ad.D e ρ ⟨ad.b, ad.off + fl.offset, ad.ix⟩ (A.add fl.offset) := by
              refine ⟨b', o, r', hb, ?_⟩
              cases hix : ad.ix with
              | none =>
                rw [hix] at hA
                simp only at hA ⊢
                rw [hA, addr_add]; congr 1; omega
              | some p =>
                obtain ⟨j, q⟩ := p
                rw [hix] at hA
                simp only at hA ⊢
                refine ⟨hA.1, ?_⟩
                rw [hA.2, addr_add]; congr 1; omega
            refine ⟨ha, _, ⟨A.add fl.offset, hA2, rfl⟩, fun w => run_v ?_⟩
            have hsz : P.cellsOf fl.type ≠ 0 := by rw [cellsOf_eq hi]; exact hz
            rw [hv]
            simp [Instr.fieldAt, run_underlying h2, hf, Instr.sureAddr, fieldPlace, run_sizeOf' hi, hsz]
        · cases h
      · cases h
    · cases h
  case indexAddr t y z =>
    split at h
    · rename_i ad k i len el h1 h2 h3
      split at h
      · rename_i ie hie
        obtain ⟨h4, rfl⟩ := T1_inv h
        simp only [Option.map_eq_some_iff] at h4
        obtain ⟨x1, h4, rfl⟩ := h4
        obtain ⟨A, hA, hv⟩ := evalCell hG ht h1
        have hi := evalCell hG ht h2
        simp only [Cell.D] at hi
        obtain ⟨q2, q3, q4⟩ := sindex_ok (ρ := ρ) ok ha h4
        rw [litD] at q3
        refine ⟨ha, _, ⟨_, q4 A hA, rfl⟩, fun w => run_v ?_⟩
        rw [hv, hi]
        simp [Instr.indexAt, run_underlying h3, asIntOf, Instr.sureAddr, q2, q3, run_sizeOf' hie, cellsOf_eq hie]
      · cases h
    · rename_i ad len cap k i el h1 h2 h3
      split at h
      · rename_i ie hie
        obtain ⟨h4, rfl⟩ := T1_inv h
        simp only [Option.map_eq_some_iff] at h4
        obtain ⟨x1, h4, rfl⟩ := h4
        obtain ⟨o', n', c', hv, hn, hcap, ho⟩ := evalCell hG ht h1
        have hi := evalCell hG ht h2
        simp only [Cell.D] at hi
        obtain ⟨q2, q3, q4⟩ := sindex_ok (ρ := ρ) ok ha h4
        rcases ho with ⟨A, hA, rfl, _⟩ | ⟨h5, h6, _⟩
        · rw [← hn] at q3
          refine ⟨ha, _, ⟨_, q4 A hA, rfl⟩, fun w => run_v ?_⟩
          rw [hv, hi]
          simp [Instr.indexAt, run_underlying h3, asIntOf, q2, q3, run_sizeOf' hie, cellsOf_eq hie]
        · omega
      · cases h
    · cases h
  case index t y z =>
    split at h
    · rename_i l k i len el h1 h2 h3
      split at h
      · rename_i ie m hie hm
        split at h
        · rename_i hb
          obtain ⟨h4, rfl⟩ := T1_inv h
          simp only [Option.map_eq_some_iff] at h4
          obtain ⟨sv, hsv, rfl⟩ := h4
          obtain ⟨vs, hv, hd⟩ := evalSV hG ht h1
          have hi := evalCell hG ht h2
          simp only [Cell.D] at hi
          have := isLit_eq hm
          subst this
          rw [litD] at hi
          obtain ⟨V, hV, hrun⟩ := spart_ok (P := P) ok ha hd hsv
          refine ⟨ha, V, hV, fun w => run_v ?_⟩
          rw [hv, hi]
          have := hrun w
          simp [Instr.index, run_underlying h3, asIntOf, hb.1, hb.2, run_sizeOf' hie, cellsOf_eq hie, this]
        · cases h
      · rename_i ie hie hm
        obtain ⟨vs, hv, hd⟩ := evalSV hG ht h1
        have hi := evalCell hG ht h2
        simp only [Cell.D] at hi
        obtain ⟨h4, rfl⟩ := T1_inv h
        obtain ⟨q2, q3, V, hV, hrun⟩ := sindexV_ok ok ha hd h4
        refine ⟨ha, V, hV, fun w => run_v ?_⟩
        rw [hv, hi]
        have := hrun w
        simp [Instr.index, run_underlying h3, asIntOf, q2, q3, run_sizeOf' hie, cellsOf_eq hie, this]
      · cases h
    · rename_i y k i h1 h2 h3
      split at h
      · rename_i hk
        simp only [Bool.and_eq_true] at hk
        have h4 := leaf_inv h
        cases h4
        have hs := evalSV hG ht h1
        have hi := evalCell hG ht h2
        simp only [SV.D, Cell.D] at hs hi
        have g1 := knowsLe_ok ok ha hk.1.1
        have g2 := knowsLt_ok ok ha hk.1.2
        rw [litD] at g1
        rw [mkLen_den ok ha] at g2
        have hsel := mkSel_den ok ha (k := .u8) y i g1 g2
        have hin := AExp.inK_ok ok ha _ _ hk.2
        refine ⟨ha, _, rfl, fun w => run_v ?_⟩
        rw [hs, hi, hsel]
        have hlt : (i.den e).toNat < (y.den e).length := by omega
        have hget : (strOf (y.den e))[(i.den e).toNat]? = some (UInt8.ofNat ((y.den e)[(i.den e).toNat]).toNat) := by
          have hz : (i.den e).toNat < (strOf (y.den e)).size := by rw [strOf_size]; exact hlt
          rw [getElem?_pos (strOf (y.den e)) (i.den e).toNat hz]
          simp [strOf, ByteArray.getElem_eq_getElem_data]
        have hb := hin _ (List.getElem_mem hlt)
        obtain ⟨b1, b2⟩ := hb
        simp only [IntKind.min_u8, IntKind.max_u8] at b1 b2
        have e1 : (((UInt8.ofNat ((y.den e)[(i.den e).toNat]).toNat).toNat : Nat) : Int) = (y.den e)[(i.den e).toNat] := by
          rw [UInt8.toNat_ofNat']; omega
        rw [List.getD_eq_getElem?_getD, List.getElem?_eq_getElem hlt, Option.getD_some]
        simp only [Instr.index, Sem.run_bind, asIntOf, Sem.run_pure, Result.andThen_ok, run_underlying h3, g1, if_true, hget, e1]
      · cases h
    · cases h
  case field t y f =>
    split at h
    · rename_i l fs h1 h2
      split at h
      · rename_i fl hf
        obtain ⟨h4, rfl⟩ := T1_inv h
        simp only [Option.map_eq_some_iff] at h4
        obtain ⟨sv, hsv, rfl⟩ := h4
        obtain ⟨vs, hv, hd⟩ := evalSV hG ht h1
        obtain ⟨V, hV, hrun⟩ := spart_ok (P := P) ok ha hd hsv
        refine ⟨ha, V, hV, fun w => run_v ?_⟩
        rw [hv]
        have := hrun w
        simp [Instr.field, run_underlying h2, hf, asAgg, this]
      · cases h
    · cases h
  case extract y i =>
    split at h
    · rename_i l h1
      obtain ⟨h4, rfl⟩ := T1_inv h
      simp only [Option.map_eq_some_iff] at h4
      obtain ⟨sv, hsv, rfl⟩ := h4
      obtain ⟨vs, hv, hd⟩ := seval_ok hG ht h1
      obtain ⟨v, hv2, hd2⟩ := SVsD.get hd hsv
      refine ⟨ha, v, hd2, fun w => run_v ?_⟩
      rw [hv]
      simp [Instr.extract, hv2]
    · cases h
  case call c =>
    obtain ⟨callee, args, argTypes⟩ := c
    simp only at h
    split at h
    · rename_i td o' el hargs hty
      split at h
      · rename_i aa n cc hcell
        have h2 := leaf_inv h
        cases h2
        have hd := evalCell hG ht hcell
        have hargs' : args = #[o'] := by cases args; simp_all
        subst hargs'
        obtain ⟨t0, ht0, hu⟩ := Option.bind_eq_some_iff.1 hty
        have hsl : ∃ A m c, a.eval o' = .slice A m c ∧ (m : Int) = n.den e := by
          cases aa with
          | none => obtain ⟨hv, hl, _⟩ := hd; exact ⟨none, 0, 0, hv, by rw [hl]; rfl⟩
          | some q => obtain ⟨A, m, c, hv, hl, _⟩ := hd; exact ⟨A, m, c, hv, hl⟩
        obtain ⟨A, m, c, hsl, hl⟩ := hsl
        refine ⟨ha, _, rfl, fun w => ?_⟩
        simp [resolve, invoke, builtin, Builtin.len_, ht0, hsl, run_underlying hu, goInt, ← hl]
      · cases h
    · rename_i td o' hargs hty
      split at h
      · rename_i s hcell
        have h2 := leaf_inv h
        cases h2
        have hd := evalCell hG ht hcell
        have hargs' : args = #[o'] := by cases args; simp_all
        subst hargs'
        obtain ⟨t0, ht0, hu⟩ := Option.bind_eq_some_iff.1 hty
        simp only [Cell.D] at hd
        refine ⟨ha, _, rfl, fun w => ?_⟩
        simp [resolve, invoke, builtin, Builtin.len_, ht0, hd, run_underlying hu, strOf_size, mkLen_den ok ha, goInt]
      · cases h
    · rename_i td o' el hargs hty
      split at h
      · rename_i aa nn n hcell
        have h2 := leaf_inv h
        cases h2
        have hd := evalCell hG ht hcell
        have hargs' : args = #[o'] := by cases args; simp_all
        subst hargs'
        obtain ⟨t0, ht0, hu⟩ := Option.bind_eq_some_iff.1 hty
        have hsl : ∃ A m c, a.eval o' = .slice A m c ∧ (c : Int) = n.den e := by
          cases aa with
          | none => obtain ⟨hv, _, x, hl, hx⟩ := hd; cases hl; exact ⟨none, 0, 0, hv, by rw [hx]; rfl⟩
          | some q =>
            obtain ⟨A, m, c, hv, _, _, hl⟩ := hd
            refine ⟨A, m, c, hv, ?_⟩
            rcases hl with ⟨_, _, _, h5⟩ | ⟨_, h5, h6⟩
            · exact h5
            · rw [h6 n rfl, h5]; rfl
        obtain ⟨A, m, c, hsl, hl⟩ := hsl
        refine ⟨ha, _, rfl, fun w => ?_⟩
        simp [resolve, invoke, builtin, Builtin.cap_, ht0, hsl, run_underlying hu, goInt, ← hl]
      · cases h
    · rename_i td o' q' hargs
      split at h
      · rename_i k x k' y hx hy
        obtain ⟨⟨b, as1⟩, h3, h4⟩ := Tree.pick_bind h
        have h4 := leaf_inv h4
        cases h4
        have hf := fork_ok ok ha h3
        rw [mkLt_den ok ha] at hf
        have hargs' : args = #[o', q'] := by cases args; simp_all
        subst hargs'
        have dx := evalCell hG ht hx
        have dy := evalCell hG ht hy
        simp only [Cell.D] at dx dy
        refine ⟨hf.2, _, rfl, fun w => ?_⟩
        cases b with
        | true =>
          have := of_decide_eq_true hf.1
          simp [resolve, invoke, builtin, Builtin.min_, Builtin.min2, dx, dy, this]
        | false =>
          have := of_decide_eq_false hf.1
          simp [resolve, invoke, builtin, Builtin.min_, Builtin.min2, dx, dy, this]
      · cases h
    · rename_i td o' q' hargs
      split at h
      · rename_i k x k' y hx hy
        obtain ⟨⟨b, as1⟩, h3, h4⟩ := Tree.pick_bind h
        have h4 := leaf_inv h4
        cases h4
        have hf := fork_ok ok ha h3
        rw [mkLt_den ok ha] at hf
        have hargs' : args = #[o', q'] := by cases args; simp_all
        subst hargs'
        have dx := evalCell hG ht hx
        have dy := evalCell hG ht hy
        simp only [Cell.D] at dx dy
        refine ⟨hf.2, _, rfl, fun w => ?_⟩
        cases b with
        | true =>
          have := of_decide_eq_true hf.1
          simp [resolve, invoke, builtin, Builtin.max_, Builtin.max2, dx, dy, this]
        | false =>
          have := of_decide_eq_false hf.1
          simp [resolve, invoke, builtin, Builtin.max_, Builtin.max2, dx, dy, this]
      · cases h
    · cases h
  all_goals (exfalso; cases h)
end Go.Proofs.YtaijkkkgpgldbaaDoor.Sy
