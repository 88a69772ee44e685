/- A small symbolic executor for loop-free Go code: comparing structs and arrays of plain cells. -/
import Derived.Test.YtaijkkkgpgldbaaDoorSyMem
import Derived.Laws.StructEq
namespace Go.Proofs.YtaijkkkgpgldbaaDoor.Sy
set_option linter.unusedVariables false
set_option linter.unusedSimpArgs false
open Go

inductive Lf where
  | lb
  | li (k : IntKind)
  | ls

def Lf.D : Lf → Value → Prop
  | .lb, v => ∃ x, v = .bool x
  | .li k, v => ∃ n, v = .int k n
  | .ls, v => ∃ x, v = .string x

def KD : List Lf → List Value → Prop
  | [], vs => vs = []
  | f :: r, vs => ∃ v vs', vs = v :: vs' ∧ f.D v ∧ KD r vs'

theorem KD.length : ∀ {L : List Lf} {vs : List Value}, KD L vs → vs.length = L.length
  | [], _, h => by cases h; rfl
  | _ :: _, _, ⟨v, vs', h1, _, h3⟩ => by subst h1; simp [KD.length h3]

theorem KD.split : ∀ {L L' : List Lf} {vs : List Value}, KD (L ++ L') vs → KD L (vs.take L.length) ∧ KD L' (vs.drop L.length)
  | [], _, vs, h => ⟨by simp [KD], by simpa using h⟩
  | f :: r, L', vs, ⟨v, vs', h1, h2, h3⟩ => by
    subst h1
    have := KD.split (L := r) h3
    exact ⟨⟨v, vs'.take r.length, by simp, h2, this.1⟩, by simpa using this.2⟩

def leavesF (P : Program) (g : TypeId → Option (List Lf)) : List Field → Nat → Option (List Lf)
  | [], _ => some []
  | f :: r, off =>
    if f.name ≠ "_" ∧ f.offset = off then
      match g f.type with
      | some l => if l.length = P.cellsOf f.type then (leavesF P g r (off + l.length)).map (l ++ ·) else none
      | none => none
    else none

def leaves (P : Program) : Nat → TypeId → Option (List Lf)
  | 0, _ => none
  | d + 1, t =>
    match P.underlying t with
    | some .bool => some [.lb]
    | some (.int k) => some [.li k]
    | some .string => some [.ls]
    | some (.struct fs) => if P.stoodInHeld t then none else leavesF P (leaves P d) fs.toList 0
    | some (.array n e) =>
      match leaves P d e with
      | some l => if l.length = P.cellsOf e ∧ 0 < l.length then some (List.replicate n l).flatten else none
      | none => none
    | _ => none

def isAggD : TypeDesc → Bool
  | .struct _ | .array _ _ => true
  | _ => false
def hd : List Value → Value
  | v :: _ => v
  | [] => undef

/-- The value that cells make at a type. -/
def mkv (P : Program) (t : TypeId) (xs : List Value) : Value :=
  match P.underlying t with
  | some (.struct _) | some (.array _ _) => .agg xs.toArray
  | _ => hd xs

theorem run_isAgg {P : Program} {t : TypeId} {d : TypeDesc} (h : P.underlying t = some d) (w : World) :
    (isAgg t).run P w = .ok (isAggD d) w := by
  simp only [isAgg, Sem.run_bind, run_underlying h, Result.andThen_ok]
  cases d <;> rfl

theorem info_of_underlying {P : Program} {t : TypeId} {d : TypeDesc} (h : P.underlying t = some d) : ∃ i, P.info? t = some i := by
  unfold Program.underlying at h
  cases hi : P.info? t with
  | none => rw [hi] at h; cases h
  | some i => exact ⟨i, rfl⟩

theorem run_sizeOf' {P : Program} {t : TypeId} {i : TypeInfo} (h : P.info? t = some i) (w : World) : (sizeOf t).run P w = .ok (P.cellsOf t) w := by
  simp [sizeOf, typeInfo, h, Program.cellsOf]

/-- A part of an aggregate. -/
theorem run_part_mkv {P : Program} {t : TypeId} {d : TypeDesc} (h : P.underlying t = some d) {xs : List Value} {off : Nat} (hl : off + P.cellsOf t ≤ xs.length) (hpos : isAggD d = false → 0 < P.cellsOf t) (w : World) :
    (part t xs.toArray off).run P w = .ok (mkv P t ((xs.drop off).take (P.cellsOf t))) w := by
  obtain ⟨i, hi⟩ := info_of_underlying h
  unfold part
  simp only [Sem.run_bind, run_isAgg h, Result.andThen_ok]
  have hext : (xs.toArray.extract off (off + P.cellsOf t)) = ((xs.drop off).take (P.cellsOf t)).toArray := by
    simp [List.extract_toArray, List.extract_eq_take_drop]
  have scalar : 0 < P.cellsOf t → ∃ v, xs[off]? = some v ∧ hd ((xs.drop off).take (P.cellsOf t)) = v := by
    intro hp
    have hlt : off < xs.length := by omega
    refine ⟨xs[off], by simp [hlt], ?_⟩
    rw [List.drop_eq_getElem_cons hlt]
    obtain ⟨n, hn⟩ : ∃ n, P.cellsOf t = n + 1 := ⟨P.cellsOf t - 1, by omega⟩
    rw [hn, List.take_succ_cons]; rfl
  cases hd' : isAggD d with
  | true =>
    have hm : mkv P t ((xs.drop off).take (P.cellsOf t)) = .agg ((xs.drop off).take (P.cellsOf t)).toArray := by
      unfold mkv; rw [h]; cases d <;> first | rfl | cases hd'
    rw [hm]
    simp [run_sizeOf' hi]
  | false =>
    obtain ⟨v, hv, hh⟩ := scalar (hpos hd')
    have hm : mkv P t ((xs.drop off).take (P.cellsOf t)) = v := by
      rw [← hh]
      unfold mkv; rw [h]; cases d <;> first | rfl | cases hd'
    rw [hm]
    simp [hv]

theorem eqFields_ok {P : Program} {d : Nat} (IH : ∀ (t : TypeId) (L : List Lf) (xs ys : List Value), leaves P d t = some L → KD L xs → KD L ys → ∀ w, ∃ b, (Op.equalIn d t (mkv P t xs) (mkv P t ys)).run P w = .ok b w ∧ (b = true ↔ xs = ys)) (ul : ∀ t L, leaves P d t = some L → ∃ d', P.underlying t = some d' ∧ (isAggD d' = false → L.length = 1)) (xs ys : List Value) :
    ∀ (fs : List Field) (off : Nat) (L : List Lf), leavesF P (leaves P d) fs off = some L → KD L (xs.drop off) → KD L (ys.drop off) → off ≤ xs.length → off ≤ ys.length → ∀ w,
      ∃ b, (Op.eqFields d xs.toArray ys.toArray fs).run P w = .ok b w ∧ (b = true ↔ xs.drop off = ys.drop off)
  | [], off, L, h, hx, hy, _, _, w => by
    simp only [leavesF, Option.some.injEq] at h
    subst h
    exact ⟨true, rfl, by simp only [KD] at hx hy; simp [hx, hy]⟩
  | f :: fs, off, L, h, hx, hy, hlx, hly, w => by
    simp only [leavesF] at h
    split at h
    · rename_i hf
      obtain ⟨hname, hoff⟩ := hf
      split at h
      · rename_i l hl
        split at h
        · rename_i hlen
          simp only [Option.map_eq_some_iff] at h
          obtain ⟨q, hq, rfl⟩ := h
          obtain ⟨d', hd', hone⟩ := ul _ _ hl
          have hx2 := KD.split hx
          have hy2 := KD.split hy
          have lx := KD.length hx
          have ly := KD.length hy
          simp only [List.length_append, List.length_drop] at lx ly
          have px := run_part_mkv hd' (xs := xs) (off := off) (by omega) (fun hh => by rw [← hlen, hone hh]; omega) w
          have py := run_part_mkv hd' (xs := ys) (off := off) (by omega) (fun hh => by rw [← hlen, hone hh]; omega) w
          obtain ⟨b, hb, hbi⟩ := IH f.type l ((xs.drop off).take (P.cellsOf f.type)) ((ys.drop off).take (P.cellsOf f.type)) hl (hlen ▸ hx2.1) (hlen ▸ hy2.1) w
          have hxd : KD q (xs.drop (off + l.length)) := by have := hx2.2; rwa [List.drop_drop] at this
          have hyd : KD q (ys.drop (off + l.length)) := by have := hy2.2; rwa [List.drop_drop] at this
          obtain ⟨b2, hb2, hbi2⟩ := eqFields_ok IH ul xs ys fs (off + l.length) q hq hxd hyd (by omega) (by omega) w
          have e1 : xs.drop off = (xs.drop off).take (P.cellsOf f.type) ++ xs.drop (off + l.length) := by
            rw [← hlen, ← List.drop_drop, List.take_append_drop]
          have e2 : ys.drop off = (ys.drop off).take (P.cellsOf f.type) ++ ys.drop (off + l.length) := by
            rw [← hlen, ← List.drop_drop, List.take_append_drop]
          simp only [Op.eqFields, if_pos hname, Sem.run_bind, hoff, px, py, Result.andThen_ok, hb]
          cases b with
          | true =>
            refine ⟨b2, by simpa using hb2, ?_⟩
            have := hbi.1 rfl
            rw [hbi2, e1, e2, this]; simp
          | false =>
            refine ⟨false, by simp, ?_⟩
            have hne : ¬ (xs.drop off).take (P.cellsOf f.type) = (ys.drop off).take (P.cellsOf f.type) := fun hh => by simpa using hbi.2 hh
            simp only [Bool.false_eq_true, false_iff]
            intro hh
            exact hne (by rw [hh])
        · cases h
      · cases h
    · cases h

theorem leaves_ul {P : Program} : ∀ (d : Nat) (t : TypeId) (L : List Lf), leaves P d t = some L → ∃ d', P.underlying t = some d' ∧ (isAggD d' = false → L.length = 1)
  | 0, _, _, h => by cases h
  | d + 1, t, L, h => by
    simp only [leaves] at h
    split at h
    · rename_i hu; cases h; exact ⟨_, hu, fun _ => rfl⟩
    · rename_i k hu; cases h; exact ⟨_, hu, fun _ => rfl⟩
    · rename_i hu; cases h; exact ⟨_, hu, fun _ => rfl⟩
    · rename_i fs hu; exact ⟨_, hu, fun hh => by cases hh⟩
    · rename_i n e hu; exact ⟨_, hu, fun hh => by cases hh⟩
    · cases h

def eqElems (P : Program) (d : Nat) (e : TypeId) (n : Nat) (xs ys : Array Value) : List Nat → Sem Bool
  | [] => pure true
  | i :: r => do
    let a ← part e xs (i * n)
    let b ← part e ys (i * n)
    let q ← Op.equalIn d e a b
    if (!q) = true then pure false else eqElems P d e n xs ys r

theorem run_equalIn_array {P : Program} (w : World) (d : Nat) (t e : TypeId) (len : Nat) (xs ys : Array Value) (ht : P.underlying t = some (.array len e)) {ie : TypeInfo} (hi : P.info? e = some ie) :
    (Op.equalIn (d + 1) t (.agg xs) (.agg ys)).run P w = (eqElems P d e (P.cellsOf e) xs ys (List.range len)).run P w := by
  simp only [Op.equalIn, Sem.run_bind, run_underlying ht, Result.andThen_ok, run_sizeOf' hi]
  rw [Std.Legacy.Range.forIn_eq_forIn_range']
  simp only [Std.Legacy.Range.size, Nat.sub_zero, Nat.add_sub_cancel, Nat.div_one]
  rw [← List.range_eq_range']
  generalize List.range len = l
  induction l generalizing w with
  | nil => simp [eqElems]
  | cons i l ih =>
    simp only [List.forIn_cons, eqElems, Sem.run_bind]
    generalize (part e xs (i * P.cellsOf e)).run P w = r1
    cases r1 with
    | ok a w1 =>
      simp only [Result.andThen_ok]
      generalize (part e ys (i * P.cellsOf e)).run P w1 = r2
      cases r2 with
      | ok b w2 =>
        simp only [Result.andThen_ok]
        generalize (Op.equalIn d e a b).run P w2 = r3
        cases r3 with
        | ok r w3 =>
          cases r
          · simp only [Result.andThen_ok, Bool.not_false, if_true, Sem.run_pure]
          · simp only [Result.andThen_ok, Bool.not_true, Bool.false_eq_true, if_false, Sem.run_pure]
            exact ih w3
        | halt x w3 => simp [Result.andThen]
      | halt x w2 => simp [Result.andThen]
    | halt x w1 => simp [Result.andThen]

theorem eqElems_ok {P : Program} {d : Nat} {e : TypeId} {l : List Lf} (hl : leaves P d e = some l) (hlen : l.length = P.cellsOf e) (hpos : 0 < l.length)
    (IH : ∀ (xs ys : List Value), KD l xs → KD l ys → ∀ w, ∃ b, (Op.equalIn d e (mkv P e xs) (mkv P e ys)).run P w = .ok b w ∧ (b = true ↔ xs = ys)) (xs ys : List Value) :
    ∀ (n lo : Nat), KD (List.replicate n l).flatten (xs.drop (lo * P.cellsOf e)) → KD (List.replicate n l).flatten (ys.drop (lo * P.cellsOf e)) → ∀ w,
      ∃ b, (eqElems P d e (P.cellsOf e) xs.toArray ys.toArray (List.range' lo n)).run P w = .ok b w ∧ (b = true ↔ xs.drop (lo * P.cellsOf e) = ys.drop (lo * P.cellsOf e))
  | 0, lo, hx, hy, w => ⟨true, rfl, by simp only [List.replicate_zero, List.flatten_nil, KD] at hx hy; simp [hx, hy]⟩
  | n + 1, lo, hx, hy, w => by
    rw [List.replicate_succ, List.flatten_cons] at hx hy
    obtain ⟨d', hd', _⟩ := leaves_ul _ _ _ hl
    have hx2 := KD.split hx
    have hy2 := KD.split hy
    have lx := KD.length hx
    have ly := KD.length hy
    simp only [List.length_append, List.length_drop] at lx ly
    have px := run_part_mkv hd' (xs := xs) (off := lo * P.cellsOf e) (by omega) (fun _ => by omega) w
    have py := run_part_mkv hd' (xs := ys) (off := lo * P.cellsOf e) (by omega) (fun _ => by omega) w
    obtain ⟨b, hb, hbi⟩ := IH ((xs.drop (lo * P.cellsOf e)).take (P.cellsOf e)) ((ys.drop (lo * P.cellsOf e)).take (P.cellsOf e)) (hlen ▸ hx2.1) (hlen ▸ hy2.1) w
    have eoff : lo * P.cellsOf e + l.length = (lo + 1) * P.cellsOf e := by rw [hlen, Nat.add_mul, Nat.one_mul]
    have hxd : KD (List.replicate n l).flatten (xs.drop ((lo + 1) * P.cellsOf e)) := by have := hx2.2; rwa [List.drop_drop, eoff] at this
    have hyd : KD (List.replicate n l).flatten (ys.drop ((lo + 1) * P.cellsOf e)) := by have := hy2.2; rwa [List.drop_drop, eoff] at this
    obtain ⟨b2, hb2, hbi2⟩ := eqElems_ok hl hlen hpos IH xs ys n (lo + 1) hxd hyd w
    have e1 : xs.drop (lo * P.cellsOf e) = (xs.drop (lo * P.cellsOf e)).take (P.cellsOf e) ++ xs.drop ((lo + 1) * P.cellsOf e) := by
      rw [← eoff, hlen, ← List.drop_drop, List.take_append_drop]
    have e2 : ys.drop (lo * P.cellsOf e) = (ys.drop (lo * P.cellsOf e)).take (P.cellsOf e) ++ ys.drop ((lo + 1) * P.cellsOf e) := by
      rw [← eoff, hlen, ← List.drop_drop, List.take_append_drop]
    rw [List.range'_succ]
    simp only [eqElems, Sem.run_bind, px, py, Result.andThen_ok, hb]
    cases b with
    | true =>
      refine ⟨b2, by simpa using hb2, ?_⟩
      have := hbi.1 rfl
      rw [hbi2, e1, e2, this]; simp
    | false =>
      refine ⟨false, by simp, ?_⟩
      have hne : ¬ (xs.drop (lo * P.cellsOf e)).take (P.cellsOf e) = (ys.drop (lo * P.cellsOf e)).take (P.cellsOf e) := fun hh => by simpa using hbi.2 hh
      simp only [Bool.false_eq_true, false_iff]
      intro hh
      exact hne (by rw [hh])

theorem bytes_eq_iff (a b : ByteArray) : (a == b) = true ↔ a = b := by
  rw [beq_toListBytes, ByteArray.toList_eq, ByteArray.toList_eq]
  obtain ⟨⟨a⟩⟩ := a; obtain ⟨⟨b⟩⟩ := b
  simp

theorem equalIn_ok {P : Program} : ∀ (d : Nat) (t : TypeId) (L : List Lf) (xs ys : List Value), leaves P d t = some L → KD L xs → KD L ys → ∀ w,
    ∃ b, (Op.equalIn d t (mkv P t xs) (mkv P t ys)).run P w = .ok b w ∧ (b = true ↔ xs = ys)
  | 0, _, _, _, _, h, _, _, _ => by cases h
  | d + 1, t, L, xs, ys, h, hx, hy, w => by
    simp only [leaves] at h
    split at h
    · rename_i hu
      cases h
      obtain ⟨v, _, rfl, ⟨a, rfl⟩, rfl⟩ := hx
      obtain ⟨v, _, rfl, ⟨b, rfl⟩, rfl⟩ := hy
      exact ⟨a == b, by simp [mkv, hd, hu, run_equalIn_bool' w d t a b hu], by simp⟩
    · rename_i k hu
      cases h
      obtain ⟨v, _, rfl, ⟨a, rfl⟩, rfl⟩ := hx
      obtain ⟨v, _, rfl, ⟨b, rfl⟩, rfl⟩ := hy
      exact ⟨@BEq.beq Int (@instBEqOfDecidableEq Int Int.instDecidableEq) a b, by simp [mkv, hd, hu, run_equalIn_int w d t k k a b hu], by simp⟩
    · rename_i hu
      cases h
      obtain ⟨v, _, rfl, ⟨a, rfl⟩, rfl⟩ := hx
      obtain ⟨v, _, rfl, ⟨b, rfl⟩, rfl⟩ := hy
      refine ⟨a == b, by simp [mkv, hd, hu, run_equalIn_string w d t a b hu, beq_toListBytes], by rw [bytes_eq_iff]; simp⟩
    · rename_i fs hu
      split at h
      · cases h
      · rename_i hs
        have hf : P.underlying t = some (.struct (P.fieldsOf t)) := by rw [hu]; simp [Program.fieldsOf, hu]
        have hfs : P.fieldsOf t = fs := by simp [Program.fieldsOf, hu]
        have := eqFields_ok (fun t L xs ys => equalIn_ok d t L xs ys) (leaves_ul d) xs ys fs.toList 0 L h (by simpa using hx) (by simpa using hy) (by omega) (by omega) w
        obtain ⟨b, hb, hbi⟩ := this
        refine ⟨b, ?_, by simpa using hbi⟩
        simp only [mkv, hu]
        rw [run_equalIn_struct w d t _ _ hf (by simpa using hs), hfs]
        exact hb
    · rename_i n e hu
      split at h
      · rename_i l hl
        split at h
        · rename_i hlen2
          obtain ⟨hlen, hpos⟩ := hlen2
          cases h
          obtain ⟨d', hd', _⟩ := leaves_ul _ _ _ hl
          obtain ⟨ie, hie⟩ := info_of_underlying hd'
          have := eqElems_ok hl hlen hpos (fun xs ys => equalIn_ok d e l xs ys hl) xs ys n 0 (by simpa using hx) (by simpa using hy) w
          obtain ⟨b, hb, hbi⟩ := this
          refine ⟨b, ?_, by simpa using hbi⟩
          simp only [mkv, hu]
          rw [run_equalIn_array w d t e n _ _ hu hie, List.range_eq_range']
          exact hb
        · cases h
      · cases h
    · cases h

/-! ### The symbolic side -/
def segKinds : List Seg → Option (List Lf)
  | [] => some []
  | .c (.b _) :: r => (segKinds r).map (.lb :: ·)
  | .c (.i k _) :: r => (segKinds r).map (.li k :: ·)
  | .c (.s _) :: r => (segKinds r).map (.ls :: ·)
  | .c _ :: _ => none
  | .arr k n _ :: r => (segKinds r).map (List.replicate n (.li k) ++ ·)
  | .row _ _ :: _ => none
  | .el _ _ _ _ :: _ => none
  | .tab _ _ :: _ => none

theorem KD.append : ∀ {L L' : List Lf} {vs vs' : List Value}, KD L vs → KD L' vs' → KD (L ++ L') (vs ++ vs')
  | [], _, _, _, h, h' => by cases h; exact h'
  | _ :: _, _, _, _, ⟨v, vs2, h1, h2, h3⟩, h' => by subst h1; exact ⟨v, vs2 ++ _, rfl, h2, KD.append h3 h'⟩
theorem KD.ints (k : IntKind) : ∀ (l : List Int), KD (List.replicate l.length (.li k)) (l.map (.int k))
  | [] => rfl
  | n :: l => ⟨.int k n, _, rfl, ⟨n, rfl⟩, KD.ints k l⟩

theorem segKinds_ok {e : Env} {ρ : Rho} : ∀ {l : List Seg} {vs : List Value} {L : List Lf}, SegsD e ρ l vs → segKinds l = some L → KD L vs
  | [], _, _, h, hk => by cases h; simp only [segKinds, Option.some.injEq] at hk; subst hk; rfl
  | .c x :: r, _, L, ⟨v, vs', h1, h2, h3⟩, hk => by
    subst h1
    cases x <;> simp only [segKinds, Option.map_eq_some_iff, reduceCtorEq] at hk
    all_goals
      obtain ⟨q, hq, rfl⟩ := hk
      exact ⟨v, vs', rfl, ⟨_, h2⟩, segKinds_ok h3 hq⟩
  | .arr k n a :: r, _, L, ⟨vs', h1, h2, h3⟩, hk => by
    subst h1
    simp only [segKinds, Option.map_eq_some_iff] at hk
    obtain ⟨q, hq, rfl⟩ := hk
    subst h2
    exact (KD.ints k _).append (segKinds_ok h3 hq)
  | .row _ _ :: _, _, _, _, hk => by cases hk
  | .el _ _ _ _ :: _, _, _, _, hk => by cases hk
  | .tab _ _ :: _, _, _, _, hk => by cases hk

def lfSame : Lf → Lf → Bool
  | .lb, .lb => true
  | .li k, .li k' => decide (k = k')
  | .ls, .ls => true
  | _, _ => false
def lfsSame : List Lf → List Lf → Bool
  | [], [] => true
  | a :: r, b :: q => lfSame a b && lfsSame r q
  | _, _ => false
theorem lfsSame_eq : ∀ {a b : List Lf}, lfsSame a b = true → a = b
  | [], [], _ => rfl
  | [], _ :: _, h => by cases h
  | _ :: _, [], h => by cases h
  | a :: r, b :: q, h => by
    simp only [lfsSame, Bool.and_eq_true] at h
    have := lfsSame_eq h.2
    subst this
    have h1 := h.1
    cases a <;> cases b <;> simp [lfSame] at h1 <;> simp [h1]

def cmpCell (as : Asm) : Cell → Cell → Tree (Bool × Asm)
  | .b x, .b y => if x.same y then .leaf (true, as) else fork as (mkBeq x y)
  | .i k x, .i k' y => if k = k' then fork as (mkEq as x y) else .stop
  | .s x, .s y => if x.inK as .u8 && y.inK as .u8 then fork as (mkAeq as x y) else .stop
  | _, _ => .stop
theorem cmpCell_ok {e : Env} (ok : EnvOk e) {ρ : Rho} {as as' : Asm} (ha : AsmOk e as) {x y : Cell} {v w : Value} {b : Bool} (hx : x.D e ρ v) (hy : y.D e ρ w) (h : (cmpCell as x y).pick e = some (b, as')) :
    (b = true ↔ v = w) ∧ AsmOk e as' := by
  unfold cmpCell at h
  split at h
  · cases hx; cases hy
    split at h
    · rename_i hsame
      have := BExp.same_eq _ _ hsame
      subst this
      simp only [Tree.pick, Option.some.injEq, Prod.mk.injEq] at h
      obtain ⟨rfl, rfl⟩ := h
      exact ⟨by simp, ha⟩
    · have := fork_ok ok ha h
      rw [mkBeq_den] at this
      exact ⟨by rw [← this.1]; simp, this.2⟩
  · split at h
    · rename_i hk
      subst hk
      cases hx; cases hy
      have := fork_ok ok ha h
      rw [mkEq_den ok ha] at this
      exact ⟨by rw [← this.1]; simp, this.2⟩
    · cases h
  · split at h
    · rename_i hk
      simp only [Bool.and_eq_true] at hk
      cases hx; cases hy
      have := fork_ok ok ha h
      rw [mkAeq_den ok ha] at this
      exact ⟨by rw [← this.1]; simp [strOf_inj (AExp.inK_ok ok ha _ _ hk.1) (AExp.inK_ok ok ha _ _ hk.2)], this.2⟩
    · cases h
  · cases h

def cmpSegs : Nat → Asm → List Seg → List Seg → Tree (Bool × Asm)
  | 0, _, _, _ => .stop
  | _ + 1, as, [], [] => .leaf (true, as)
  | n + 1, as, .arr k m a :: r, .arr k' m' a' :: r' =>
    if decide (k = k') && decide (m = m') && a.same a' then cmpSegs n as r r' else cmpSegs n as (spread as k a 0 m ++ r) (spread as k' a' 0 m' ++ r')
  | n + 1, as, .arr k m a :: r, .c y :: r' => cmpSegs n as (spread as k a 0 m ++ r) (.c y :: r')
  | n + 1, as, .c x :: r, .arr k m a :: r' => cmpSegs n as (.c x :: r) (spread as k a 0 m ++ r')
  | n + 1, as, .c x :: r, .c y :: r' => (cmpCell as x y).bind fun q => match q with | (v, as1) => if v then cmpSegs n as1 r r' else .leaf (false, as1)
  | _ + 1, _, _, _ => .stop

theorem spread_all {e : Env} (ok : EnvOk e) {as : Asm} (ha : AsmOk e as) {ρ : Rho} {k : IntKind} {m : Nat} {a : AExp} {r : List Seg} {vs : List Value} (h : SegsD e ρ (.arr k m a :: r) vs) : SegsD e ρ (spread as k a 0 m ++ r) vs := by
  obtain ⟨vs', h1, h2, h3⟩ := h
  subst h1
  refine SegsD.append ?_ h3
  have := spread_D ok ha (ρ := ρ) (k := k) (a := a) (n := m) (lo := 0) (by omega)
  rw [List.drop_zero, List.take_of_length_le (by simp; omega)] at this
  exact this

theorem cmpSegs_ok {e : Env} (ok : EnvOk e) {ρ : Rho} : ∀ {n : Nat} {as as' : Asm} {l l' : List Seg} {vs ws : List Value} {b : Bool}, AsmOk e as → SegsD e ρ l vs → SegsD e ρ l' ws → (cmpSegs n as l l').pick e = some (b, as') →
    (b = true ↔ vs = ws) ∧ AsmOk e as'
  | 0, _, _, _, _, _, _, _, _, _, _, h => by cases h
  | n + 1, as, as', [], [], vs, ws, b, ha, hl, hl', h => by
    cases hl; cases hl'
    simp only [cmpSegs, Tree.pick, Option.some.injEq, Prod.mk.injEq] at h
    obtain ⟨rfl, rfl⟩ := h
    exact ⟨by simp, ha⟩
  | n + 1, as, as', .arr k m a :: r, .arr k' m' a' :: r', vs, ws, b, ha, hl, hl', h => by
    simp only [cmpSegs] at h
    split at h
    · rename_i hs
      simp only [Bool.and_eq_true, decide_eq_true_eq] at hs
      obtain ⟨⟨rfl, rfl⟩, hs⟩ := hs
      have := AExp.same_eq _ _ hs
      subst this
      obtain ⟨vs', h1, h2, h3⟩ := hl
      obtain ⟨ws', h1', h2', h3'⟩ := hl'
      subst h1 h1'
      have := cmpSegs_ok ok ha h3 h3' h
      exact ⟨by rw [this.1]; simp, this.2⟩
    · exact cmpSegs_ok ok ha (spread_all ok ha hl) (spread_all ok ha hl') h
  | n + 1, as, as', .arr k m a :: r, .c y :: r', vs, ws, b, ha, hl, hl', h => by
    simp only [cmpSegs] at h
    exact cmpSegs_ok ok ha (spread_all ok ha hl) hl' h
  | n + 1, as, as', .c x :: r, .arr k m a :: r', vs, ws, b, ha, hl, hl', h => by
    simp only [cmpSegs] at h
    exact cmpSegs_ok ok ha hl (spread_all ok ha hl') h
  | n + 1, as, as', .c x :: r, .c y :: r', vs, ws, b, ha, hl, hl', h => by
    simp only [cmpSegs] at h
    obtain ⟨⟨q, as1⟩, h1, h2⟩ := Tree.pick_bind h
    obtain ⟨v, vs', e1, d1, t1⟩ := hl
    obtain ⟨w, ws', e2, d2, t2⟩ := hl'
    subst e1 e2
    have hc := cmpCell_ok ok ha d1 d2 h1
    cases q with
    | true =>
      simp only [if_true] at h2
      have := cmpSegs_ok ok hc.2 t1 t2 h2
      refine ⟨?_, this.2⟩
      rw [this.1, hc.1.1 rfl]; simp
    | false =>
      simp only [Bool.false_eq_true, if_false, Tree.pick, Option.some.injEq, Prod.mk.injEq] at h2
      obtain ⟨rfl, rfl⟩ := h2
      refine ⟨?_, hc.2⟩
      have : ¬ v = w := fun hh => by simpa using hc.1.2 hh
      simp [this]
  | n + 1, as, as', [], .c _ :: _, vs, ws, b, ha, hl, hl', h => by simp [cmpSegs, Tree.pick] at h
  | n + 1, as, as', [], .arr _ _ _ :: _, vs, ws, b, ha, hl, hl', h => by simp [cmpSegs, Tree.pick] at h
  | n + 1, as, as', [], .row _ _ :: _, vs, ws, b, ha, hl, hl', h => by simp [cmpSegs, Tree.pick] at h
  | n + 1, as, as', [], .el _ _ _ _ :: _, vs, ws, b, ha, hl, hl', h => by simp [cmpSegs, Tree.pick] at h
  | n + 1, as, as', [], .tab _ _ :: _, vs, ws, b, ha, hl, hl', h => by simp [cmpSegs, Tree.pick] at h
  | n + 1, as, as', .c _ :: _, [], vs, ws, b, ha, hl, hl', h => by simp [cmpSegs, Tree.pick] at h
  | n + 1, as, as', .c _ :: _, .row _ _ :: _, vs, ws, b, ha, hl, hl', h => by simp [cmpSegs, Tree.pick] at h
  | n + 1, as, as', .c _ :: _, .el _ _ _ _ :: _, vs, ws, b, ha, hl, hl', h => by simp [cmpSegs, Tree.pick] at h
  | n + 1, as, as', .c _ :: _, .tab _ _ :: _, vs, ws, b, ha, hl, hl', h => by simp [cmpSegs, Tree.pick] at h
  | n + 1, as, as', .arr _ _ _ :: _, [], vs, ws, b, ha, hl, hl', h => by simp [cmpSegs, Tree.pick] at h
  | n + 1, as, as', .arr _ _ _ :: _, .row _ _ :: _, vs, ws, b, ha, hl, hl', h => by simp [cmpSegs, Tree.pick] at h
  | n + 1, as, as', .arr _ _ _ :: _, .el _ _ _ _ :: _, vs, ws, b, ha, hl, hl', h => by simp [cmpSegs, Tree.pick] at h
  | n + 1, as, as', .arr _ _ _ :: _, .tab _ _ :: _, vs, ws, b, ha, hl, hl', h => by simp [cmpSegs, Tree.pick] at h
  | n + 1, as, as', .row _ _ :: _, _, vs, ws, b, ha, hl, hl', h => by simp [cmpSegs, Tree.pick] at h
  | n + 1, as, as', .el _ _ _ _ :: _, _, vs, ws, b, ha, hl, hl', h => by simp [cmpSegs, Tree.pick] at h
  | n + 1, as, as', .tab _ _ :: _, _, vs, ws, b, ha, hl, hl', h => by simp [cmpSegs, Tree.pick] at h
end Go.Proofs.YtaijkkkgpgldbaaDoor.Sy
