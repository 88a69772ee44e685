/- Two rows held against each other: what a law's own function answers, as a contract. -/
import Derived.Test.YtofphikiadiogaaDoorKOld
import Derived.Test.YtofphikiadiogaaDoorCoSame
namespace Go.Proofs.YtofphikiadiogaaDoor.K
open Go Sy
set_option maxRecDepth 100000
set_option linter.unusedVariables false
set_option linter.unusedSimpArgs false
/-- The numbers of a slice whose capacity is told. -/
def rowC (k : IntKind) (aq : Asm) (h : SHeap) (x : SVal) : Option AExp := match x with
  | .v (.c (.sl a n (some c))) => (match srcOf aq h (.sl a n (some c)) n with
    | some (k', A) => if (k' = k ∨ isZ n = true) ∧ inKind .i64 (c.rng aq) = true ∧ A.inK aq k = true then some A else none
    | none => none)
  | _ => none
theorem rowC_ok {e : Env} (ok : EnvOk e) {aq : Asm} (ha : AsmOk e aq) {ov : Nat} {ρ : Rho} {h : SHeap} {W : World} (hr : HRel e ov ρ h W) {k : IntKind} {x : SVal} {A : AExp} (hx : rowC k aq h x = some A) {V : Value} (hD : x.D e ρ V) :
    ∃ p n c, V = .slice p n c ∧ RowN k W p n c (A.den e) := by
  unfold rowC at hx
  split at hx
  · rename_i a n c
    split at hx
    · rename_i k' A' hs
      split at hx
      · rename_i hc
        obtain ⟨hk, hcap, hin⟩ := hc
        cases hx
        have hins := AExp.inK_ok ok ha _ _ hin
        have hcr := inKind_spec hcap (IExp.rng_ok ok ha c)
        have htop : lenTop = 9223372036854775807 := rfl
        have hci : c.den e ≤ lenTop := by
          have := hcr.2
          simp only [IntKind.max_i64] at this
          omega
        cases a with
        | none =>
          obtain ⟨rfl, h1, _⟩ := hD
          simp only [srcOf] at hs
          split at hs
          · cases hs
            exact ⟨none, 0, 0, rfl, rfl, Nat.le_refl _, by rw [htop]; decide, fun hh => by omega, hins⟩
          · cases hs
        | some a =>
          obtain ⟨o, n', c', rfl, h1, h2, h3⟩ := hD
          have hc' : (c' : Int) ≤ lenTop := by
            rcases h3 with ⟨_, _, _, hcc⟩ | ⟨_, h5, _⟩
            · have hcc : (c' : Int) = c.den e := hcc
              omega
            · omega
          simp only [srcOf] at hs
          split at hs
          · rename_i hz
            cases hs
            have hn : n.den e = 0 := by rw [isZ_eq hz, litD]
            have hn0 : n' = 0 := by omega
            subst hn0
            refine ⟨o, 0, c', rfl, rfl, h2, hc', fun hpos => ?_, hins⟩
            rcases h3 with ⟨Ad', ⟨b', o', r', hb, hA⟩, rfl, _⟩ | ⟨_, h5, _⟩
            · obtain ⟨rfl, _⟩ := Ad.at' ⟨b', o', r', hb, hA⟩ hb
              exact ⟨_, _, rfl, fun hh => by omega⟩
            · omega
          · rename_i hz
            have hkk : k' = k := by
              rcases hk with hk | hk
              · exact hk
              · exact absurd hk hz
            subst hkk
            obtain ⟨g1, g2, b, o1, r, hb, hread⟩ := rowOf_ok ok ha hr hs
            have hn2 : (n.den e).toNat = n' := by omega
            rw [hn2] at g2
            refine ⟨o, n', c', rfl, g2, h2, hc', fun hpos => ?_, hins⟩
            rcases h3 with ⟨Ad', hA, rfl, _⟩ | ⟨_, h5, _⟩
            · have hA2 := hA
              obtain ⟨hAd, _⟩ := Ad.at' hA hb
              refine ⟨b, o1 + a.pos e, by rw [hAd], fun hn0 => ?_⟩
              have hne : (A.den e).map (Value.int k') ≠ [] := by
                intro hh
                have := congrArg List.length hh
                rw [List.length_map, g2] at this
                simp at this
                omega
              obtain ⟨q1, q2⟩ := cells_row (W := W) (x := Ad') hne (fun i hi => by
                have := hread W (Stay.refl _ _ _) Ad' hA2 i _ (List.getElem?_eq_getElem hi)
                rw [this, List.getD_eq_getElem?_getD, List.getElem?_eq_getElem hi]; rfl)
              rw [hAd] at q2
              obtain ⟨cs, t, fz, pre, rest, w1, w2, w3, w4, w5⟩ := q2.ex
              exact ⟨cs, t, fz, pre, rest, w1, w2, w3, w4, Nat.zero_le _⟩
            · omega
      · cases hx
    · cases hx
  · cases hx
def tabSame (f : Nat) : Tab := fun _ g args st => if g = f then (match args with
  | [x, y] => (match rowC .u8 st.as st.h x, rowC .u8 st.as st.h y with
    | some A, some B => some (.leaf (.v (.c (.b (mkAeq st.as A B))), st))
    | _, _ => none)
  | _ => none) else none
def SameIs (P : Program) (k : IntKind) (f : Nat) : Prop := ∀ (W : World) (p p' : Option Addr) (n n' c c' : Nat) (z z' : List Int), RowN k W p n c z → RowN k W p' n' c' z' →
  Calls P f #[.slice p n c, .slice p' n' c'] W fun en W' => en = .returned (.bool (decide (z = z'))) ∧ RowKit.Below W.heap.size W W'
theorem tabSame_ok {e : Env} (ok : EnvOk e) {f : Nat} (hf : SameIs Tryd.prog .u8 f) (G ov : Nat) : TabOk Tryd.prog G ov (tabSame f) e := by
  intro ro g args st t Z ht hov hz ρ vs W R hv ha hr hg hR
  unfold tabSame at ht
  split at ht
  · rename_i hg'
    subst hg'
    split at ht
    · rename_i x y
      split at ht
      · rename_i A B hA hB
        cases ht
        obtain ⟨v1, _, rfl, d1, v2, _, rfl, d2, rfl⟩ := hv
        obtain ⟨p, n, c, rfl, r1⟩ := rowC_ok ok ha hr hA d1
        obtain ⟨p', n', c', rfl, r2⟩ := rowC_ok ok ha hr hB d2
        refine (hf W p p' n n' c c' _ _ r1 r2).mono ?_
        rintro en W' ⟨rfl, hb⟩
        refine hR _ _ hz ρ _ W' (Post.of_below hr hb) ?_ ha
        show Value.bool _ = .bool ((mkAeq st.as A B).den e)
        rw [mkAeq_den ok ha]
      · cases ht
    · cases ht
  · cases ht
end Go.Proofs.YtofphikiadiogaaDoor.K
