/- The store's laws: how much was handed in. -/
import Derived.Test.YtopgnohobmlegaaKOld
import Derived.Test.YtopgnohobmlegaaStSame
namespace Go.Proofs.Ytopgnohobmlegaa.K
open Go Sy
set_option maxRecDepth 100000
set_option linter.unusedVariables false
set_option linter.unusedSimpArgs false
def actKs : List Ck := [.i .i64, .b, .i .i64, .i .u16, .i .u8, .b, .rows .u8]
structure ActV where
  K : Int
  At : Int
  A : Int
  B : Int
  oth : Bool
  on : Bool
  p : Option Addr
  m : Nat
  q : Nat
  z : List Int
def ActV.row (a : ActV) : List Value := [.int .i64 a.K, .bool a.oth, .int .i64 a.At, .int .u16 a.A, .int .u8 a.B, .bool a.on, .slice a.p a.m a.q]
structure ActV.Ok (a : ActV) (W : World) : Prop where
  K : In .i64 a.K
  At : In .i64 a.At
  A : In .u16 a.A
  B : In .u8 a.B
  z : IsRow .u8 W a.p a.m a.q a.z
theorem act_open {W : World} {r : List Value} (h : CellsIs W actKs r) : ∃ a : ActV, a.Ok W ∧ r = a.row := by
  simp only [actKs, CellsIs, CellIs] at h
  obtain ⟨_, _, rfl, ⟨K, rfl, hK⟩, _, _, rfl, ⟨oth, rfl⟩, _, _, rfl, ⟨At, rfl, hAt⟩, _, _, rfl, ⟨A, rfl, hA⟩, _, _, rfl, ⟨B, rfl, hB⟩, _, _, rfl, ⟨on, rfl⟩, _, _, rfl, ⟨p, m, q, z, rfl, hz⟩, rfl⟩ := h
  exact ⟨⟨K, At, A, B, oth, on, p, m, q, z⟩, ⟨hK, hAt, hA, hB, hz⟩, rfl⟩
def ActV.src (a : ActV) : Src := { i := fun k => match k with | .i64 => [a.K, a.At, a.m, a.q] | .u16 => [a.A] | .u8 => [a.B] | _ => [], b := [a.oth, a.on], a := fun k j => match k, j with | .u8, 0 => a.z | _, _ => [] }
def actCells (d : Nat) : List Cell := [.i .i64 (.var .i64 5000), .b (.var 5000), .i .i64 (.var .i64 5001), .i .u16 (.var .u16 5000), .i .u8 (.var .u8 5000), .b (.var 5001), .sl (some ⟨d, 0, none⟩) (.var .i64 5002) (some (.var .i64 5003))]
theorem row_le {k : IntKind} {W : World} {p : Option Addr} {n c : Nat} {z : List Int} (h : IsRow k W p n c z) : n ≤ c ∧ (c : Int) ≤ lenTop ∧ z.length = c ∧ ∀ x ∈ z, In k x := by
  rcases isRow_cases h with ⟨h1, h2, h3⟩ | ⟨_, _, _, _, h4, h5, h6, _, h7⟩
  · rw [h1, h2, h3]; exact ⟨Nat.le_refl _, by decide, rfl, fun x hx => by cases hx⟩
  · exact ⟨h4, h5, h6, h7⟩
structure ActLet (e : Env) (a : ActV) : Prop where
  K : e.i .i64 5000 = a.K
  At : e.i .i64 5001 = a.At
  m : e.i .i64 5002 = a.m
  q : e.i .i64 5003 = a.q
  A : e.i .u16 5000 = a.A
  B : e.i .u8 5000 = a.B
  oth : e.b 5000 = a.oth
  on : e.b 5001 = a.on
  z : e.a .u8 5000 = a.z
theorem act_let {W : World} {a : ActV} (h : a.Ok W) (E : Env) : ActLet (over E 5000 a.src) a := by
  obtain ⟨h1, h2, h3, h4⟩ := row_le h.z
  have ht : lenTop = 9223372036854775807 := rfl
  exact ⟨(over_i E 5000 a.src .i64 0).trans (clip_of h.K), (over_i E 5000 a.src .i64 1).trans (clip_of h.At),
    (over_i E 5000 a.src .i64 2).trans (clip_of (k := .i64) (n := (a.m : Int)) (i64_in (by omega) (by omega))), (over_i E 5000 a.src .i64 3).trans (clip_of (k := .i64) (n := (a.q : Int)) (i64_in (by omega) (by omega))),
    (over_i E 5000 a.src .u16 0).trans (clip_of h.A), (over_i E 5000 a.src .u8 0).trans (clip_of h.B), over_b E 5000 a.src 0, over_b E 5000 a.src 1,
    (over_a E 5000 a.src .u8 0).trans (clipL_of h4 (by show ((a.z.length : Nat) : Int) ≤ lenTop; rw [h3]; exact h2))⟩
theorem act_D {e : Env} {W : World} {a : ActV} (hl : ActLet e a) (h : a.Ok W) {ρ : Rho} {d b o r : Nat} (hρ : ρ[d]? = some (b, o, r)) (hp : 0 < a.q → a.p = some ⟨b, o, none⟩) : CellsD e ρ (actCells d) a.row := by
  refine ⟨_, _, rfl, congrArg _ hl.K.symm, _, _, rfl, congrArg _ hl.oth.symm, _, _, rfl, congrArg _ hl.At.symm, _, _, rfl, congrArg _ hl.A.symm, _, _, rfl, congrArg _ hl.B.symm, _, _, rfl, congrArg _ hl.on.symm, _, _, rfl, ?_, rfl⟩
  exact row_cell h.z hp hρ hl.m hl.q
/-- Where the element's own bytes lie. -/
theorem act_at {W : World} {a : ActV} (h : a.Ok W) {b1 o1 r1 : Nat} {vs1 : List Value} (h1 : At False W b1 o1 r1 vs1) : ∃ b o, (0 < a.q → a.p = some ⟨b, o, none⟩) ∧ At False W b o 0 (a.z.map (.int .u8)) := by
  rcases isRow_cases h.z with ⟨g1, g2, g3⟩ | ⟨b, o, g1, g2, _, _, _, g6, _⟩
  · refine ⟨b1, o1, fun hh => by omega, ?_⟩
    rw [g3]
    obtain ⟨cs, t, fz, pre, rest, q1, q2, q3, q4, q5⟩ := h1.ex
    exact ⟨cs, t, fz, pre, vs1 ++ rest, q1, fun q => q.elim, by rw [q3]; simp, q4, Nat.zero_le _⟩
  · obtain ⟨cs, t, fz, pre, rest, q1, q2, q3, q4, q5⟩ := g6.ex
    exact ⟨b, o, fun _ => g1, ⟨cs, t, fz, pre, rest, q1, q2, q3, q4, Nat.zero_le _⟩⟩

def actLen (r : List Value) : Nat := match r.getD 6 undef with
  | .slice _ m _ => m
  | _ => 0
def vastF : Int → List Nat → Bool
  | s, [] => decide (2147483647 < s)
  | s, d :: l => if 2147483647 < (d : Int) ∨ 2147483647 < s then true else vastF (s + d) l
def vastB (nr n : Nat) (Z : List (List Value)) : Bool := if 2147483647 < (nr : Int) ∨ 2147483647 < (n : Int) then true else vastF (nr + n) ((Z.take n).map actLen)

def qVa : Path := [true, true, true, true, false, true, false]
def vaArgs : List SVal := [.v (.c (.sl (some ⟨0, 0, none⟩) (.var .i64 0) (some (.var .i64 1)))), .v (.c (.sl (some ⟨1, 0, none⟩) (.var .i64 2) (some (.var .i64 3))))]
def vaTm : List (Nat × SVal) := [(1, .v (.c (.sl (some ⟨1, 0, none⟩) (.var .i64 2) (some (.var .i64 3))))), (5, .v (.c (.i .i64 (.var .i64 1001)))), (6, .v (.c (.i .i64 (.var .i64 1000))))]
def pVa0 : Pat := ⟨[none, some ([.el (.var .i64 3) 7 (.var .i64 1000) (actCells 2)], 48), none], 47, vaTm,
  [(.le (.var .i64 1000) (.lit (-1)), false), (.lt (.var .i64 1000) (.var .i64 2), true), (.le (.var .i64 2) (.var .i64 3), true), (.le (.var .i64 1001) (.lit (-1)), false), (.le (.var .i64 1001) (.lit 4294967294), true), (.le (.var .i64 5002) (.lit (-1)), false)]⟩
def pVa1 : Pat := ⟨[none, none, none], 47, vaTm, [(.lt (.var .i64 1000) (.var .i64 2), false)]⟩
def vaPats : Pats := [((qVa, 0), pVa0), ((qVa, 1), pVa1)]
def vaSt : St := ⟨[none, none, none], [(.le (.var .i64 0) (.lit (-1)), false), (.le (.var .i64 2) (.lit (-1)), false)]⟩
def vaST : WT Sy.Go := WT.node (BExp.le (IExp.var .i64 0) (IExp.lit 2147483647)) (WT.node (BExp.le (IExp.var .i64 2) (IExp.lit 2147483647)) (WT.leaf (Go.go ([true, true, true, true, false, true, false], 0) [Asg.i .i64 1000 (IExp.lit 0), Asg.i .i64 1001 (IExp.bin BinOp.add .i64 (IExp.var .i64 0) (IExp.var .i64 2))])) (WT.leaf (Go.done (SVal.v (SV.c (Cell.b (BExp.lit true)))) { h := [none, none, none], «as» := [] }))) (WT.leaf (Go.done (SVal.v (SV.c (Cell.b (BExp.lit true)))) { h := [none, none, none], «as» := [] }))
theorem vaS : startT Try.prog 0 plan noTab 1000 1000 26 3 (fnOf 26) (bodyOf 26) vaPats vaArgs vaSt = vaST := by kernel_rfl
def vaH0T : WT Sy.Go := WT.node (BExp.le (IExp.var .i64 5002) (IExp.lit 2147483647)) (WT.node (BExp.le (IExp.var .i64 1001) (IExp.lit 2147483647)) (WT.leaf (Go.go ([true, true, true, true, false, true, false], 0) [Asg.i .i64 1000 (IExp.bin BinOp.add .i64 (IExp.var .i64 1000) (IExp.lit 1)), Asg.i .i64 1001 (IExp.bin BinOp.add .i64 (IExp.var .i64 1001) (IExp.var .i64 5002))])) (WT.leaf (Go.done (SVal.v (SV.c (Cell.b (BExp.lit true)))) { h := [none, some ([Seg.el (IExp.var .i64 3) 7 (IExp.var .i64 1000) [Cell.i .i64 (IExp.var .i64 5000), Cell.b (BExp.var 5000), Cell.i .i64 (IExp.var .i64 5001), Cell.i .u16 (IExp.var .u16 5000), Cell.i .u8 (IExp.var .u8 5000), Cell.b (BExp.var 5001), Cell.sl (some { b := 2, off := 0, ix := none }) (IExp.var .i64 5002) (some (IExp.var .i64 5003))]], 48), none], «as» := [] }))) (WT.leaf (Go.done (SVal.v (SV.c (Cell.b (BExp.lit true)))) { h := [none, some ([Seg.el (IExp.var .i64 3) 7 (IExp.var .i64 1000) [Cell.i .i64 (IExp.var .i64 5000), Cell.b (BExp.var 5000), Cell.i .i64 (IExp.var .i64 5001), Cell.i .u16 (IExp.var .u16 5000), Cell.i .u8 (IExp.var .u8 5000), Cell.b (BExp.var 5001), Cell.sl (some { b := 2, off := 0, ix := none }) (IExp.var .i64 5002) (some (IExp.var .i64 5003))]], 48), none], «as» := [] }))
theorem vaH0 : headT Try.prog 0 plan noTab 1000 1000 26 3 3 (fnOf 26) (bodyOf 26) vaPats (qVa, 0) = vaH0T := by kernel_rfl
def vaH1T : WT Sy.Go := WT.leaf (Go.done (SVal.v (SV.c (Cell.b (BExp.not (BExp.le (IExp.var .i64 1001) (IExp.lit 2147483647)))))) { h := [none, none, none], «as» := [] })
theorem vaH1 : headT Try.prog 0 plan noTab 1000 1000 26 3 3 (fnOf 26) (bodyOf 26) vaPats (qVa, 1) = vaH1T := by kernel_rfl

theorem vaPats_get {k : Key} {p : Pat} (h : patAt vaPats k = some p) : (k = (qVa, 0) ∧ p = pVa0) ∨ (k = (qVa, 1) ∧ p = pVa1) := by
  have := patAt_mem' h
  simpa [vaPats] using this
def vaInv (nr n : Nat) (Z : List (List Value)) : Inv := ⟨fun k e => ∃ i s : Nat, e.i .i64 1000 = i ∧ e.i .i64 1001 = s ∧ i ≤ n ∧ (k.2 = 0 → i < n) ∧ (k.2 = 1 → i = n) ∧ s ≤ 4294967294 ∧ vastB nr n Z = vastF s (((Z.take n).drop i).map actLen) ∧ (k.2 = 0 → ∃ a : ActV, Z[i]? = some a.row ∧ e.i .i64 5002 = a.m ∧ (a.m : Int) ≤ lenTop), fun _ e => n - (e.i .i64 1000).toNat⟩
section
variable {W : World} {p : Option Addr} {nr n c b o br obr : Nat} {Z : List (List Value)} (hz : SlRecs W actKs p n c b o Z)
include hz
theorem va_next {e : Env} {l : List Asg} {i s : Nat} {m : Option Nat} {D : Env → SVal → St → Prop} (e2 : (Env.upd e e l).i .i64 2 = n) (e3 : (Env.upd e e l).i .i64 3 = c) (hi : (Env.upd e e l).i .i64 1000 = i) (hs : (Env.upd e e l).i .i64 1001 = s) (hle : i ≤ n) (hsle : s ≤ 4294967294) (hv : vastB nr n Z = vastF s (((Z.take n).drop i).map actLen)) (hm : ∀ m', m = some m' → n - i < m') :
    Owed 1000 5000 2 3 [(br, obr, 0), (b, o, 0), (0, 0, 0)] W vaPats (vaInv nr n Z) D e m (.go (qVa, 0) l) := by
  intro ok' hag
  generalize Env.upd e e l = E at *
  have hn := hz.1
  have htop : lenTop = 9223372036854775807 := rfl
  have ht := hz.2.1
  by_cases hlt : i < n
  · obtain ⟨r, hr, hk, hR⟩ := hz.get hlt
    obtain ⟨a, ha, rfl⟩ := act_open hk
    have L := act_let ha E
    obtain ⟨bd, od, hp, hat⟩ := act_at ha hR.at'
    have a2 : (over E 5000 a.src).i .i64 2 = n := e2
    have a3 : (over E 5000 a.src).i .i64 3 = c := e3
    have ai : (over E 5000 a.src).i .i64 1000 = i := hi
    have as' : (over E 5000 a.src).i .i64 1001 = s := hs
    have am := (row_le ha.z).1
    have aq := (row_le ha.z).2.1
    refine ⟨over E 5000 a.src, [(br, obr, 0), (b, o, 0), (bd, od, 0)], (qVa, 0), pVa0, over_ok ok' _ _, over_agree _ _ _, ⟨rfl, rfl, rfl⟩, rfl, rfl, fun p2 hp2 => ?_, ?_, ?_, ⟨i, s, ai, as', hle, fun _ => hlt, (fun h => by cases h), hsle, hv, fun _ => ⟨a, hr, L.m, by omega⟩⟩, fun m' hm' => ?_⟩
    · rcases vaPats_get hp2 with ⟨_, rfl⟩ | ⟨h, _⟩
      · exact ⟨rfl, rfl, rfl⟩
      · cases h
    · refine AsmOk.cons ?_ (AsmOk.cons ?_ (AsmOk.cons ?_ (AsmOk.cons ?_ (AsmOk.cons ?_ (AsmOk.cons ?_ (AsmOk.nil _)))))) <;> simp only [BExp.den, IExp.den, a2, a3, ai, as', L.m]
      · exact decide_eq_false (by omega)
      · exact decide_eq_true (by omega)
      · exact decide_eq_true (by omega)
      · exact decide_eq_false (by omega)
      · exact decide_eq_true (by omega)
      · exact decide_eq_false (by omega)
    · intro j l1 t1 hj hl1
      rcases j with _ | j
      · cases (Option.some.inj hl1)
      · rcases j with _ | j
        · have hl1 : some ([Seg.el (.var .i64 3) 7 (.var .i64 1000) (actCells 2)], _) = some (l1, t1) := Option.some.inj hl1
          cases hl1
          exact ⟨b, o, 0, _, rfl, hR.at', hR.el (i := i) hr (act_D (d := 2) L ha rfl hp) a3 ai, fun x hx => by simp at hx⟩
        · rcases j with _ | j
          · cases (Option.some.inj hl1)
          · omega
    · simp only [vaInv, ai, Int.toNat_natCast]; exact hm m' hm'
  · refine ⟨E, [(br, obr, 0), (b, o, 0), (0, 0, 0)], (qVa, 1), pVa1, ok', Agree.refl _ _, Base.refl _ _ _, rfl, rfl, fun p2 hp2 => ?_, ?_, ?_, ⟨i, s, hi, hs, hle, (fun h => by cases h), fun _ => by omega, hsle, hv, (fun h => by cases h)⟩, fun m' hm' => ?_⟩
    · rcases vaPats_get hp2 with ⟨_, rfl⟩ | ⟨h, _⟩
      · exact ⟨rfl, rfl, rfl⟩
      · cases h
    · refine AsmOk.cons ?_ (AsmOk.nil _)
      simp only [BExp.den, IExp.den, e2, hi]
      exact decide_eq_false (by omega)
    · intro j l1 t1 hj hl1
      rcases j with _ | _ | _ | j
      · cases (Option.some.inj hl1)
      · cases (Option.some.inj hl1)
      · cases (Option.some.inj hl1)
      · omega
    · simp only [vaInv, hi, Int.toNat_natCast]; exact hm m' hm'
end
theorem vast_calls {W : World} {pr p : Option Addr} {nr cr n c b o : Nat} {zr : List Int} {Z : List (List Value)} (hrom : IsRow .u8 W pr nr cr zr) (hz : SlRecs W actKs p n c b o Z) :
    Calls Try.prog 26 #[.slice pr nr cr, .slice p n c] W fun en W' => en = .returned (.bool (vastB nr n Z)) ∧ RowKit.Below W.heap.size W W' := by
  obtain ⟨hf, hb⟩ := fn_of (f := 26) (by kernel_rfl)
  have htop : lenTop = 9223372036854775807 := rfl
  obtain ⟨r1, r2, _, _⟩ := row_le hrom
  have hn := hz.1
  have ht := hz.2.1
  obtain ⟨br, obr, hpr⟩ : ∃ br obr, 0 < cr → pr = some ⟨br, obr, none⟩ := by
    rcases isRow_cases hrom with ⟨h1, _, _⟩ | ⟨b, o, h1, _⟩
    · exact ⟨0, 0, fun h => by omega⟩
    · exact ⟨b, o, fun _ => h1⟩
  have ok := (srcI [nr, cr, n, c]).ok
  have e0 : (srcI [nr, cr, n, c]).env.i .i64 0 = nr := clip_of (k := .i64) (n := (nr : Int)) (i64_in (by omega) (by omega))
  have e1 : (srcI [nr, cr, n, c]).env.i .i64 1 = cr := clip_of (k := .i64) (n := (cr : Int)) (i64_in (by omega) (by omega))
  have e2 : (srcI [nr, cr, n, c]).env.i .i64 2 = n := clip_of (k := .i64) (n := (n : Int)) (i64_in (by omega) (by omega))
  have e3 : (srcI [nr, cr, n, c]).env.i .i64 3 = c := clip_of (k := .i64) (n := (c : Int)) (i64_in (by omega) (by omega))
  have hfx : (srcI [nr, cr, n, c]).env.fx = [] := rfl
  have hb0 : (srcI [nr, cr, n, c]).env.base = 0 := rfl
  generalize (srcI [nr, cr, n, c]).env = E at ok e0 e1 e2 e3 hfx hb0
  have hr : HRel E 3 [(br, obr, 0), (b, o, 0), (0, 0, 0)] [none, none, none] W := by
    have := HRel.ro (e := E) (W := W) (ρ := [(br, obr, 0), (b, o, 0), (0, 0, 0)]) (h := [none, none, none]) rfl (fun i l t hi => by
      rcases i with _ | _ | _ | i <;> simp at hi) (Knows.none hb0 hfx)
    exact this
  refine cfgR (G := 0) (ov := 3) (plan := plan) (tab := noTab) (n := 1000) (N := 1000) (NE := 5000) (sv := 2) (ro := 3) (base := 3) (pats := vaPats) (args := vaArgs) (st := vaSt) (e0 := E) (ρ0 := [(br, obr, 0), (b, o, 0), (0, 0, 0)]) (vs := [.slice pr nr cr, .slice p n c]) (W0 := W) (vaInv nr n Z) (fun e v _ => ∀ ρ V, v.D e ρ V → V = .bool (vastB nr n Z))
    mixed plan_ok rfl (fun _ _ _ => LtOk.none) (fun e ok g => TabOk.none _ _ _ _) rfl hf hb ok ⟨_, _, rfl, row_cell hrom hpr (i := 0) rfl e0 e1, _, _, rfl, hz.cell (i := 1) rfl e2 e3, rfl⟩ (AsmOk.cons ?_ (AsmOk.cons ?_ (AsmOk.nil _))) hr (noGlob _) (Nat.le_refl _) (show 3 ≤ 3 by omega) (by decide) (by decide) (by decide) ?_ ?_ ?_ ?_ ?_ (by rw [hfx]; exact Nat.zero_le _)
  · simp only [BExp.den, IExp.den, e0]; exact decide_eq_false (by omega)
  · simp only [BExp.den, IExp.den, e2]; exact decide_eq_false (by omega)
  · intro k p hm
    have hm : (k = (qVa, 0) ∧ p = pVa0) ∨ (k = (qVa, 1) ∧ p = pVa1) := by simpa [vaPats] using hm
    rcases hm with ⟨rfl, rfl⟩ | ⟨rfl, rfl⟩
    · show patFine 5000 2 3 pVa0 = true; kernel_rfl
    · show patFine 5000 2 3 pVa1 = true; kernel_rfl
  · rw [vaS]
    have q0 : (BExp.le (.var .i64 0) (.lit 2147483647)).den E = decide ((nr : Int) ≤ 2147483647) := by simp only [BExp.den, IExp.den, e0]
    have q2 : (BExp.le (.var .i64 2) (.lit 2147483647)).den E = decide ((n : Int) ≤ 2147483647) := by simp only [BExp.den, IExp.den, e2]
    simp only [vaST, WT.holds, q0, q2, decide_eq_true_eq]
    have big : 2147483647 < (nr : Int) ∨ 2147483647 < (n : Int) → ∀ ρ V, (SVal.v (.c (.b (.lit true)))).D E ρ V → V = .bool (vastB nr n Z) := by
      intro h ρ V hV
      have hV : V = .bool true := hV
      rw [hV, vastB, if_pos h]
    split
    · split
      · refine va_next (i := 0) (s := nr + n) hz ((updI_none rfl).trans e2) ((updI_none rfl).trans e3) ((updI rfl).trans (litD _ _)) ((updI rfl).trans ?_) (Nat.zero_le _) (by omega) ?_ (fun m' hm' => by cases hm')
        · rw [binE, show (IExp.var .i64 0).den E = nr from e0, show (IExp.var .i64 2).den E = n from e2]
          simp only [binDen]
          rw [wrap64 (by omega) (by omega)]; rfl
        · rw [vastB, if_neg (by omega), List.drop_zero]; rfl
      · exact big (.inr (by omega))
    · exact big (.inl (by omega))
  · intro q hq e ok' g ha hI
    have a2 : e.i .i64 2 = n := by rw [g.i .i64 2 (by omega)]; exact e2
    have a3 : e.i .i64 3 = c := by rw [g.i .i64 3 (by omega)]; exact e3
    obtain ⟨i, s, hi, hs, hle, hlt, heq, hsle, hv, hel⟩ := hI
    have hq : q = (qVa, 0) ∨ q = (qVa, 1) := by simpa [vaPats] using hq
    rcases hq with rfl | rfl
    · have hlt := hlt rfl
      obtain ⟨a, hr, hm, hmt⟩ := hel rfl
      rw [vaH0]
      have q0 : (BExp.le (.var .i64 5002) (.lit 2147483647)).den e = decide ((a.m : Int) ≤ 2147483647) := by simp only [BExp.den, IExp.den, hm]
      have q2 : (BExp.le (.var .i64 1001) (.lit 2147483647)).den e = decide ((s : Int) ≤ 2147483647) := by simp only [BExp.den, IExp.den, hs]
      have hsplit : ((Z.take n).drop i).map actLen = a.m :: ((Z.take n).drop (i + 1)).map actLen := by
        have hil : i < (Z.take n).length := by rw [List.length_take, hz.len]; omega
        rw [List.drop_eq_getElem_cons hil, List.map_cons]
        have h1 : (Z.take n)[i]? = some a.row := by rw [List.getElem?_take_of_lt hlt]; exact hr
        rw [List.getElem?_eq_getElem hil] at h1
        rw [Option.some.inj h1]; rfl
      rw [hsplit, vastF] at hv
      simp only [vaH0T, WT.holds, q0, q2, decide_eq_true_eq]
      have big : 2147483647 < (a.m : Int) ∨ 2147483647 < (s : Int) → ∀ ρ V, (SVal.v (.c (.b (.lit true)))).D e ρ V → V = .bool (vastB nr n Z) := by
        intro h ρ V hV
        have hV : V = .bool true := hV
        rw [hV, hv, if_pos h]
      split
      · split
        · rw [if_neg (by omega)] at hv
          refine va_next (i := i + 1) (s := s + a.m) hz ((updI_none rfl).trans a2) ((updI_none rfl).trans a3) ((updI rfl).trans ?_) ((updI rfl).trans ?_) hlt (by omega) (by rw [hv]; rfl) (fun m' hm' => ?_)
          · rw [binE, litD, show (IExp.var .i64 1000).den e = i from hi]; simp only [binDen]
            have := hz.2.1
            have := hz.1
            rw [wrap64 (by omega) (by omega)]; simp
          · rw [binE, show (IExp.var .i64 1001).den e = s from hs, show (IExp.var .i64 5002).den e = a.m from hm]; simp only [binDen]
            rw [wrap64 (by omega) (by omega)]; simp
          · cases hm'
            simp only [vaInv, hi, Int.toNat_natCast]
            omega
        · exact big (.inr (by omega))
      · exact big (.inl (by omega))
    · have heq := heq rfl
      rw [vaH1]
      intro ρ V hV
      have hV : V = .bool ((BExp.not (.le (.var .i64 1001) (.lit 2147483647))).den e) := hV
      rw [hV, hv, heq, List.drop_eq_nil_of_le (by rw [List.length_take]; omega)]
      simp only [List.map_nil, vastF, BExp.den, IExp.den, hs]
      congr 1
      rw [← decide_not]
      exact decide_eq_decide.2 (by omega)
  · intro k p hm
    have hm : (k = (qVa, 0) ∧ p = pVa0) ∨ (k = (qVa, 1) ∧ p = pVa1) := by simpa [vaPats] using hm
    rcases hm with ⟨rfl, rfl⟩ | ⟨rfl, rfl⟩ <;> rfl
  · rintro e v st' ok' g hd ρb hbb ρ' V W' hp hV
    exact ⟨congrArg _ (hd _ _ hV), below_of_post hp (by rw [hbb.len]; exact Nat.le_refl _)⟩
end Go.Proofs.Ytopgnohobmlegaa.K
