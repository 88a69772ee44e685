/- StorePlays answers true. -/
import Derived.Test.YtopgnohobmlegaaStPlA
import Derived.Test.YtopgnohobmlegaaStPlB
import Derived.Test.YtopgnohobmlegaaStPlC
import Derived.Test.YtopgnohobmlegaaStPlD
namespace Go.Proofs.Ytopgnohobmlegaa.K
open Go Sy
set_option maxRecDepth 100000
set_option linter.unusedVariables false
set_option linter.unusedSimpArgs false
theorem row_val {k : IntKind} {W W' : World} {p : Option Addr} {n c b o : Nat} {z : List Int} (hz : IsRow k W p n c z) (hp : 0 < c → p = some ⟨b, o, none⟩) (hst : Still W W') {e : Env} {ρ : Rho} {i r : Nat} {x y : IExp} {V : Value} (hρ : ρ[i]? = some (b, o, r)) (hx : x.den e = n) (hy : y.den e = c) (hD : (SVal.v (.c (.sl (some ⟨i, 0, none⟩) x (some y)))).D e ρ V) :
    ∃ p', V = .slice p' n c ∧ IsRow k W' p' n c z := by
  obtain ⟨o', n', c', rfl, h1, h2, h3⟩ := hD
  have hn : n' = n := by omega
  subst hn
  have hrow := hst.row hz
  rcases Nat.eq_zero_or_pos c with h0 | h0
  · subst h0
    have hc' : c' = 0 := by
      rcases h3 with ⟨_, _, _, hcap⟩ | ⟨_, h5, _⟩
      · have hcap : (c' : Int) = y.den e := hcap
        omega
      · exact h5
    subst hc'
    have hn0 : n' = 0 := by omega
    subst hn0
    have hz0 : z = [] := by
      rcases isRow_cases hz with ⟨_, _, h⟩ | ⟨_, _, _, h, _⟩
      · exact h
      · omega
    subst hz0
    exact ⟨o', rfl, isRow_none⟩
  · rcases h3 with ⟨A, hA, rfl, hcap⟩ | ⟨_, h5, h6⟩
    · have hcap : (c' : Int) = y.den e := hcap
      have hc : c' = c := by omega
      subst hc
      obtain ⟨hA', _⟩ := Ad.at' hA hρ
      have hA' : A = ⟨b, o, none⟩ := hA'
      refine ⟨_, rfl, ?_⟩
      rw [hA', ← hp h0]
      exact hrow
    · have := h6 _ rfl
      omega
theorem asm_agree {N : Nat} {e e' : Env} (g : Agree N e e') {bs : Asm} (h : (bs.all fun p => p.1.old N) = true) (ha : AsmOk e bs) : AsmOk e' bs := fun p hp => by
  rw [BExp.den_old g _ (List.all_eq_true.1 h p hp)]
  exact ha p hp
theorem vastB_false {nr n : Nat} {Z : List (List Value)} (h : vastB nr n Z = false) : (nr : Int) ≤ 2147483647 ∧ (n : Int) ≤ 2147483647 := by
  unfold vastB at h
  split at h
  · cases h
  · omega
theorem vastF_each : ∀ {l : List Nat} {s : Int}, vastF s l = false → ∀ d ∈ l, (d : Int) ≤ 2147483647
  | [], _, _, d, hd => by cases hd
  | x :: l, s, h, d, hd => by
    unfold vastF at h
    split at h
    · cases h
    · rcases List.mem_cons.1 hd with rfl | hd
      · omega
      · exact vastF_each h d hd
theorem vastB_each {nr n : Nat} {Z : List (List Value)} (h : vastB nr n Z = false) {a : ActV} {i : Nat} (hi : Z[i]? = some a.row) (hn : i < n) : (a.m : Int) ≤ 2147483647 := by
  unfold vastB at h
  split at h
  · cases h
  · refine vastF_each h a.m (List.mem_map.2 ⟨a.row, ?_, rfl⟩)
    exact List.mem_of_getElem? (i := i) (by rw [List.getElem?_take_of_lt hn]; exact hi)
/-- What was handed in. -/
structure PlIn (W : World) (p : Option Addr) (nr cr br obr : Nat) (z : List Int) (q : Option Addr) (n c b o : Nat) (Z : List (List Value)) : Prop where
  row : IsRow .u8 W p nr cr z
  at' : 0 < cr → p = some ⟨br, obr, none⟩
  recs : SlRecs W actKs q n c b o Z
theorem tabVast2_ok {W0 : World} {p q : Option Addr} {nr cr br obr n c b o : Nat} {z : List Int} {Z : List (List Value)} (hz : PlIn W0 p nr cr br obr z q n c b o Z) {e : Env} (hb : e.base = W0.heap.size) (hh : e.h0 = fun k => W0.heap[k]?) {r r' : Nat} (hf0 : e.fx[0]? = some (br, obr, r)) (hf1 : e.fx[1]? = some (b, o, r'))
    (e3 : e.i .i64 3 = n) (e4 : e.i .i64 4 = c) {x y : IExp} (ex : x.den e = nr) (ey : y.den e = cr) {l : Nat} (hl : e.b l = vastB nr n Z) (G ov : Nat) : TabOk Try.prog G ov (tabVast2 (.v (.c (.sl (some ⟨0, 0, none⟩) x (some y)))) plS x l) e := by
  intro ro f args st t Z' ht hov hzz ρ vs W R hv ha hr hg hR
  unfold tabVast2 at ht
  split at ht
  · rename_i u v
    split at ht
    · rename_i hc
      obtain ⟨rfl, hu, hv'⟩ := hc
      cases ht
      obtain ⟨v1, _, rfl, d1, v2, _, rfl, d2, rfl⟩ := hv
      rw [SVal.same_eq hu] at d1
      rw [SVal.same_eq hv'] at d2
      have hst : Still W0 W := Still.of_old hr.old hb hh
      obtain ⟨p1, rfl, hz1⟩ := row_val hz.row hz.at' hst (hr.old.fx 0 _ hf0) ex ey d1
      obtain ⟨p2, rfl, hz2⟩ := hz.recs.val hst (hr.old.fx 1 _ hf1) (x := .var .i64 3) (y := .var .i64 4) e3 e4 d2
      refine (vast_calls hz1 hz2).mono ?_
      rintro en W' ⟨rfl, hb'⟩
      simp only [WT.holds] at hzz
      cases hB : vastB nr n Z with
      | true =>
        rw [if_pos (show (BExp.var l).den e = true from hl.trans hB)] at hzz
        exact hR _ _ hzz ρ _ W' (Post.of_below hr hb') rfl ha
      | false =>
        rw [if_neg (show ¬ (BExp.var l).den e = true by rw [show (BExp.var l).den e = false from hl.trans hB]; simp)] at hzz
        obtain ⟨h1, h2⟩ := vastB_false hB
        refine hR _ _ hzz ρ _ W' (Post.of_below hr hb') rfl (AsmOk.cons ?_ (AsmOk.cons ?_ ha))
        · simp only [BExp.den, ex, litD]; exact decide_eq_true h1
        · simp only [BExp.den, IExp.den, e3]; exact decide_eq_true h2
    · cases ht
  · cases ht
theorem tabP_ok {W0 : World} {p q : Option Addr} {nr cr br obr n c b o : Nat} {z : List Int} {Z : List (List Value)} (hz : PlIn W0 p nr cr br obr z q n c b o Z) {e : Env} (ok : EnvOk e) (hb : e.base = W0.heap.size) (hh : e.h0 = fun k => W0.heap[k]?) (hfx : e.fx = [(br, obr, 0), (b, o, 0)])
    (e3 : e.i .i64 3 = n) (e4 : e.i .i64 4 = c) {x y : IExp} (ex : x.den e = nr) (ey : y.den e = cr) (hl : e.b 9 = vastB nr n Z) (e9 : e.a .u8 9 = romL) (ov : Nat) : TabOk Try.prog 0 ov (tabP (.v (.c (.sl (some ⟨0, 0, none⟩) x (some y)))) x) e :=
  TabOk.or (tabV_ok e9 0 ov) (TabOk.or (tabSame_ok ok same_is 0 ov) (TabOk.or (tabBack_ok ok 0 ov) (TabOk.or (tabBytes_ok ok 0 ov) (TabOk.or (tabNew_ok ok ov) (tabVast2_ok hz hb hh (by rw [hfx]; rfl) (by rw [hfx]; rfl) e3 e4 ex ey hl 0 ov)))))

theorem plPat (c : Nat) (hc : c < 8) (o : Bool) : patAt plPats (qPl, 2 * c + o.toNat) = some (pPlE c o) := by
  cases o <;> (rcases c with _ | _ | _ | _ | _ | _ | _ | _ | c <;> first | rfl | omega)
theorem plKind_ex (K : Int) : ∃ c, c < 8 ∧ ∀ e : Env, e.i .i64 5000 = K → AsmOk e (plCase c) := by
  by_cases h : ∃ c, c < 7 ∧ K = plKind c
  · obtain ⟨c, hc, rfl⟩ := h
    refine ⟨c, by omega, fun e he => ?_⟩
    rw [plCase, if_pos hc]
    refine AsmOk.cons ?_ (AsmOk.nil _)
    simp only [BExp.den, IExp.den, he]
    exact decide_eq_true trivial
  · refine ⟨7, by omega, fun e he => ?_⟩
    rw [plCase, if_neg (by omega)]
    intro p hp
    obtain ⟨d, hd, rfl⟩ := List.mem_map.1 hp
    simp only [BExp.den, IExp.den, he]
    exact decide_eq_false fun hh => h ⟨d, List.mem_range.1 hd, hh⟩
def plInv (n : Nat) (V : Bool) : Inv := ⟨fun k e => V = false ∧ ∃ i : Nat, e.i .i64 1000 = i ∧ i ≤ n ∧ (k.2 < 16 → i < n), fun _ e => n - (e.i .i64 1000).toNat⟩
abbrev plD : Env → SVal → St → Prop := fun e v _ => ∀ ρ V, v.D e ρ V → V = .bool true
section
variable {W : World} {p q : Option Addr} {nr cr br obr n c b o : Nat} {z : List Int} {Z : List (List Value)} (hz : PlIn W p nr cr br obr z q n c b o Z)
include hz
theorem pl_go (hV : vastB nr n Z = false) {e : Env} {l : List Asg} {left : List Nat} {i : Nat} {m : Option Nat} (hleft : left.all (fun j => decide (j < 9)) = true) (e3 : (Env.upd e e l).i .i64 3 = n) (e4 : (Env.upd e e l).i .i64 4 = c) (hi : (Env.upd e e l).i .i64 1000 = i) (hle : i ≤ n) (hm : ∀ m', m = some m' → n - i < m') :
    OwedF 1000 5000 2 3 [(br, obr, 0), (b, o, 0), (0, 0, 0)] W plPats (plInv n (vastB nr n Z)) plD e m (.go (qPl, 0) l left) := by
  intro ok' hag hfound
  generalize Env.upd e e l = E at *
  have hn := hz.recs.1
  have ht := hz.recs.2.1
  have htop : lenTop = 9223372036854775807 := rfl
  have hAs : AsmOk E plAs := by
    have := hfound (pPlE 0 false) rfl
    intro x hx
    obtain ⟨j, hj⟩ := List.mem_iff_getElem?.1 hx
    refine this (9 + j) x ?_ ?_
    · show (plCase 0 ++ ((.var 5000, false) :: (plElA ++ plAs)))[9 + j]? = some x
      rw [show (plCase 0 ++ ((.var 5000, false) :: (plElA ++ plAs)) : Asm) = (plCase 0 ++ (BExp.var 5000, false) :: plElA) ++ plAs by simp, List.getElem?_append_right (show 9 ≤ 9 + j by omega)]
      rw [show 9 + j - (plCase 0 ++ (BExp.var 5000, false) :: plElA).length = j from Nat.add_sub_cancel_left 9 j]
      exact hj
    · intro hmem
      have := of_decide_eq_true (List.all_eq_true.1 hleft _ hmem)
      omega
  have hp0 : ∀ p2, patAt plPats (qPl, 0) = some p2 → p2 = pPlE 0 false := fun p2 h => by
    have : some (pPlE 0 false) = some p2 := h
    cases this; rfl
  by_cases hlt : i < n
  · obtain ⟨r, hr, hkk, hR⟩ := hz.recs.get hlt
    obtain ⟨a, ha, rfl⟩ := act_open hkk
    have L := act_let ha E
    obtain ⟨bd, od, hp, hat⟩ := act_at ha hR.at'
    have ag := over_agree E 5000 a.src
    have a3 : (over E 5000 a.src).i .i64 3 = n := e3
    have a4 : (over E 5000 a.src).i .i64 4 = c := e4
    have ai : (over E 5000 a.src).i .i64 1000 = i := hi
    obtain ⟨am, aq, az, ain⟩ := row_le ha.z
    obtain ⟨ck, hck, hcase⟩ := plKind_ex a.K
    refine ⟨over E 5000 a.src, [(br, obr, 0), (b, o, 0), (bd, od, 0)], (qPl, 2 * ck + a.oth.toNat), pPlE ck a.oth, over_ok ok' _ _, ag, ⟨rfl, rfl, rfl⟩, rfl, plPat ck hck a.oth, fun p2 hp2 => ?_, ?_, ?_, ⟨hV, i, ai, hle, fun _ => hlt⟩, fun m' hm' => ?_⟩
    · rw [hp0 p2 hp2]; exact ⟨rfl, rfl, rfl⟩
    · refine AsmOk.append (hcase _ L.K) (AsmOk.cons L.oth (AsmOk.append ?_ (asm_agree ag (by kernel_rfl) hAs)))
      refine AsmOk.cons ?_ (AsmOk.cons ?_ (AsmOk.cons ?_ (AsmOk.cons ?_ (AsmOk.cons ?_ (AsmOk.cons ?_ (AsmOk.cons ?_ (AsmOk.nil _))))))) <;> simp only [BExp.den, IExp.den, AExp.den, a3, a4, ai, L.m, L.q, L.z, az]
      · exact decide_eq_true (by omega)
      · exact decide_eq_true (by omega)
      · exact decide_eq_false (by omega)
      · have := vastB_each hV hr hlt; exact decide_eq_true (by omega)
      · exact decide_eq_true (by omega)
      · exact decide_eq_true (by omega)
      · exact decide_eq_true trivial
    · intro j l1 t1 hj hl1
      rcases j with _ | _ | _ | j
      · cases (Option.some.inj hl1)
      · have hl1 : some ([Seg.el (.var .i64 4) 7 (.var .i64 1000) (actCells 2)], _) = some (l1, t1) := Option.some.inj hl1
        cases hl1
        exact ⟨b, o, 0, _, rfl, hR.at', hR.el (i := i) hr (act_D (d := 2) L ha rfl hp) a4 ai, fun x hx => by simp at hx⟩
      · have hl1 : some ([Seg.row .u8 (.var .u8 5000)], _) = some (l1, t1) := Option.some.inj hl1
        cases hl1
        exact ⟨bd, od, 0, _, rfl, hat, ⟨[], by rw [show (AExp.var .u8 5000).den (over E 5000 a.src) = a.z from L.z, List.append_nil], rfl⟩, fun x hx => by simp at hx⟩
      · omega
    · simp only [plInv, ai, Int.toNat_natCast]; exact hm m' hm'
  · refine ⟨E, [(br, obr, 0), (b, o, 0), (0, 0, 0)], (qPl, 16), pPl1, ok', Agree.refl _ _, Base.refl _ _ _, rfl, rfl, fun p2 hp2 => ?_, ?_, ?_, ⟨hV, i, hi, hle, fun h => by simp at h⟩, fun m' hm' => ?_⟩
    · rw [hp0 p2 hp2]; exact ⟨rfl, rfl, rfl⟩
    · refine AsmOk.cons ?_ hAs
      simp only [BExp.den, IExp.den, e3, hi]
      exact decide_eq_false (by omega)
    · intro j l1 t1 hj hl1
      rcases j with _ | _ | _ | j
      · cases (Option.some.inj hl1)
      · cases (Option.some.inj hl1)
      · cases (Option.some.inj hl1)
      · omega
    · simp only [plInv, hi, Int.toNat_natCast]; exact hm m' hm'
end
end Go.Proofs.Ytopgnohobmlegaa.K
