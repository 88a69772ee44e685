/- CodeThere: Hex and Number of what it tells, as contracts; the runs. -/
import Derived.Test.YtofphikiadiogaaDoorBtHex
import Derived.Test.YtofphikiadiogaaDoorCoFind
namespace Go.Proofs.YtofphikiadiogaaDoor.K
open Go Sy
set_option maxRecDepth 100000
set_option linter.unusedVariables false
set_option linter.unusedSimpArgs false
def hexF : List LV → List LV
  | [.i n, .i d] => [.a (Bits.hexL d.toNat n.toNat)]
  | _ => []
/-- One, two or four digits of a number that has so many. -/
def hexFits (bs : Asm) (X : IExp) (d : Int) : Bool := (decide (d = 1) || decide (d = 2) || decide (d = 4)) && inKind .i64 (X.rng bs) && (match X.rng bs with
  | some (l, h) => decide (0 ≤ l) && decide (h < 16 ^ d.toNat)
  | none => false)
def hexT (X : IExp) (d : Int) : AExp := .fn .u8 40 0 (.i X (.i (.lit d) .nil))
def tabHex : Tab := fun _ g args st => if g = 30 then (match args with
  | [.v (.c (.i .i64 X)), .v (.c (.i .i64 (.lit d)))] => if hexFits st.as X d = true then some (.leaf (.v (.c (.s (hexT X d))), ⟨st.h, (.eq (.len (hexT X d)) (.lit d), true) :: st.as⟩)) else none
  | _ => none) else none
/-- A text that Hex told. -/
def hexOf : AExp → Option (IExp × Int)
  | .fn .u8 40 0 (.i X (.i (.lit d) .nil)) => some (X, d)
  | .sub (.fn .u8 40 0 (.i X (.i (.lit d) .nil))) (.lit z) (.lit n) => if z = 0 ∧ n = d then some (X, d) else none
  | _ => none
def tabNumH : Tab := fun _ g args st => if g = 28 then (match args with
  | [.v (.c (.s A))] => (match hexOf A with
    | some (X, d) => if hexFits st.as X d = true then some (.leaf (.tup [.c (.i .i64 X), .c (.i .i64 (.lit 0))], st)) else none
    | none => none)
  | _ => none) else none
structure HexE (e : Env) : Prop where
  hex : ∀ (n d : Nat), d ≤ 8 → e.fa .u8 40 0 [.i n, .i d] = Bits.hexL d n
theorem hexFits_ok {e : Env} (ok : EnvOk e) {bs : Asm} (ha : AsmOk e bs) {X : IExp} {d : Int} (h : hexFits bs X d = true) : ∃ (n m : Nat), X.den e = n ∧ d = m ∧ (m = 1 ∨ m = 2 ∨ m = 4) ∧ n < 16 ^ m := by
  unfold hexFits at h
  simp only [Bool.and_eq_true, Bool.or_eq_true, decide_eq_true_eq] at h
  obtain ⟨⟨h1, _⟩, h3⟩ := h
  have hx := IExp.rng_ok ok ha X
  split at h3
  · rename_i l u hr
    rw [hr] at hx
    simp only [Bool.and_eq_true, decide_eq_true_eq] at h3
    obtain ⟨n, hn⟩ := Int.eq_ofNat_of_zero_le (Int.le_trans h3.1 hx.1)
    have hlt := Int.lt_of_le_of_lt hx.2 h3.2
    rw [hn] at hlt
    refine ⟨n, d.toNat, hn, by omega, by omega, ?_⟩
    have : ((16 ^ d.toNat : Nat) : Int) = (16 : Int) ^ d.toNat := by norm_cast
    rw [← this] at hlt
    exact_mod_cast hlt
  · cases h3
theorem hexT_den {e : Env} (hE : HexE e) {X : IExp} {n m : Nat} (hn : X.den e = n) (hm : m ≤ 8) : (hexT X m).den e = Bits.hexL m n := by
  unfold hexT
  simp only [AExp.den, LExp.den, litD, hn]
  exact hE.hex n m hm
theorem tabHex_ok {e : Env} (ok : EnvOk e) (hE : HexE e) (G ov : Nat) : TabOk Tryd.prog G ov tabHex e := by
  intro ro g args st t Z ht hov hz ρ vs W R hv ha hr hg hR
  unfold tabHex at ht
  split at ht
  · rename_i hgf
    subst hgf
    split at ht
    · rename_i X d
      split at ht
      · rename_i hc
        cases ht
        obtain ⟨n, m, hn, rfl, hm, hlt⟩ := hexFits_ok ok ha hc
        obtain ⟨v1, _, rfl, d1, v2, _, rfl, d2, rfl⟩ := hv
        have d1 : v1 = .int .i64 (X.den e) := d1
        have d2 : v2 = .int .i64 ((IExp.lit (m : Int)).den e) := d2
        rw [litD] at d2
        rw [hn] at d1
        subst d1 d2
        have hT : Bits.hexT m = Bits.hexTree m := by
          rcases hm with rfl | rfl | rfl
          · exact Bits.hexT1
          · exact Bits.hexT2
          · exact Bits.hexT4
        have h16 : 16 ^ m ≤ 16 ^ 4 := Nat.pow_le_pow_right (by omega) (by omega)
        have h164 : 16 ^ 4 = 65536 := by decide
        refine (Bits.hex_calls hT (n := n) (by omega) (by omega) (by omega) hlt W).mono ?_
        rintro en W' ⟨rfl, hb⟩
        have hd := hexT_den hE hn (show m ≤ 8 by omega)
        refine hR _ _ hz ρ _ W' (Post.of_below hr hb) (congrArg (fun l => Value.string (strOf l)) hd.symm) (AsmOk.cons ?_ ha)
        have h1 : (IExp.len (hexT X (m : Int))).den e = (IExp.lit (m : Int)).den e := by
          simp only [IExp.den]
          rw [hd, Bits.hexL_length]
        simp only [BExp.den]
        exact decide_eq_true h1
      · cases ht
    · cases ht
  · cases ht
theorem hexOf_eq {A : AExp} {X : IExp} {d : Int} (h : hexOf A = some (X, d)) : A = hexT X d ∨ A = .sub (hexT X d) (.lit 0) (.lit d) := by
  unfold hexOf at h
  split at h
  · cases h; exact .inl rfl
  · split at h
    · rename_i hc
      cases h
      obtain ⟨rfl, rfl⟩ := hc
      exact .inr rfl
    · cases h
  · cases h
theorem hexL_in : ∀ (d n : Nat), ∀ x ∈ Bits.hexL d n, In .u8 x
  | 0, _, x, h => by cases h
  | d + 1, n, x, h => by
    simp only [Bits.hexL, List.mem_append, List.mem_cons, List.not_mem_nil, or_false] at h
    rcases h with h | rfl
    · exact hexL_in d _ x h
    · have := Nat.mod_lt n (show 0 < 16 by omega)
      unfold Bits.dig
      split <;> exact u8_in (by omega) (by omega)
theorem tabNumH_ok {e : Env} (ok : EnvOk e) (hE : HexE e) (G ov : Nat) : TabOk Tryd.prog G ov tabNumH e := by
  intro ro g args st t Z ht hov hz ρ vs W R hv ha hr hg hR
  unfold tabNumH at ht
  split at ht
  · rename_i hgf
    subst hgf
    split at ht
    · rename_i A
      split at ht
      · rename_i X d hA
        split at ht
        · rename_i hc
          cases ht
          obtain ⟨n, m, hn, rfl, hm, hlt⟩ := hexFits_ok ok ha hc
          obtain ⟨v1, _, rfl, d1, rfl⟩ := hv
          have d1 : v1 = .string (strOf (A.den e)) := d1
          have hd := hexT_den hE hn (show m ≤ 8 by omega)
          have hl : (Bits.hexL m n).length = m := Bits.hexL_length m n
          have hAd : A.den e = Bits.hexL m n := by
            rcases hexOf_eq hA with rfl | rfl
            · exact hd
            · simp only [AExp.den, litD]
              rw [hd, show (0 : Int).toNat = 0 from rfl, List.drop_zero, Int.toNat_natCast, List.take_of_length_le (by omega)]
          rw [hAd] at d1
          subst d1
          have hs : ((strOf (Bits.hexL m n)).size : Int) ≤ IntKind.i64.max := by rw [strOf_size, hl]; simp only [IntKind.max_i64]; omega
          refine (Bits.num_calls hs W).mono ?_
          rintro en W' ⟨rfl, hb⟩
          rw [ints_strOf (hexL_in m n)]
          have hR' : Bits.numR (Bits.hexL m n) = ((n : Int), 0) := by
            unfold Bits.numR
            rw [if_neg (by rw [hl]; omega), Bits.numF_hexL, Nat.mod_eq_of_lt hlt]
          rw [hR']
          exact hR _ _ hz ρ _ W' (Post.of_below hr hb) ⟨_, rfl, _, _, rfl, congrArg _ hn.symm, _, _, rfl, congrArg _ (litD _ _).symm, rfl⟩ ha
        · cases ht
      · cases ht
    · cases ht
  · cases ht
def tabTh : Tab := orTab (tabYes 14) (orTab tabNm (orTab tabHex (orTab tabNumH (tabNumL 28))))
/-- The tail: told, or none. -/
def thSl (t : Bool) : SVal := .v (.c (.sl (some ⟨7, 0, none⟩) (cond t (.var .i64 2) (.lit 0)) (some (cond t (.var .i64 3) (.lit 0)))))
def thH (t : Bool) : SHeap := gS true true ++ [cond t (some ([.row .u8 (.var .u8 4)], 5)) none]
def thAs (t : Bool) : Asm := cond t [(.le (.var .i64 2) (.lit (-1)), false), (.le (.var .i64 2) (.var .i64 3), true), (.eq (.len (.var .u8 4)) (.var .i64 3), true)] []
noncomputable def thRun (t : Bool) (nm : AExp) (more : Asm) : WT (SVal × St) := xCall Tryd.prog 7 plan tabTh 1000 8 6 [.v (.agg [.c (.s nm), .c (.i .i64 (.var .i64 1))]), thSl t] ⟨thH t, more ++ thAs t⟩
noncomputable def nmOk (v : Nat) : Bool := cond (decide (firstL (nameL v) = (v : Int))) ((thRun true (.cst (nameL v)) []).all isT) true
/-- No op of that name. -/
def thNo : Asm := [(.le (.fn .i64 2 0 (.a (.var .u8 0) .nil)) (.lit (-1)), true)]
end Go.Proofs.YtofphikiadiogaaDoor.K
