/- The processor: its letters, the table that is laid. -/
import Derived.Test.YtjnoacnbhcdidaaDoorKRow
import Derived.LaidMore
import Derived.OpenShut
import Derived.FnData
import Derived.MakeChecks
namespace Go.Proofs.YtjnoacnbhcdidaaDoor.K
open Go Sy
set_option maxRecDepth 100000
set_option linter.unusedVariables false
set_option linter.unusedSimpArgs false
abbrev Yes (W : World) (en : Ending) (W' : World) : Prop := en = .returned (.bool true) ∧ RowKit.Below W.heap.size W W'

def v8 (i : Nat) : Seg := .c (.i .u8 (.var .u8 i))
def e8 (x : IExp) : Seg := .c (.i .u8 x)
def l8 (n : Int) : Seg := .c (.i .u8 (.lit n))
def vb (i : Nat) : Seg := .c (.b (.var i))
/-- A processor: R, D, DF, P, X, T, IE, Q, Op, B, Phase. -/
def cpuV (op ph : IExp) : SVal := .v (.agg [.arr .u16 16 (.var .u16 0), v8 0, vb 0, v8 1, v8 2, v8 3, vb 1, vb 2, e8 op, v8 5, e8 ph])
/-- Pins: mode, data, flags, lines. -/
def pinsV (m : IExp) (d b : Nat) : SVal := .v (.agg [e8 m, v8 d, vb b, vb (b + 1), vb (b + 2), vb (b + 3), vb (b + 4), vb (b + 5), vb (b + 6)])
def g0 : SHeap := [some ([l8 0, l8 1, l8 2, l8 3, l8 4, l8 6, l8 10, l8 8], 0)]
def op : IExp := .var .u8 4
def ph : IExp := .var .u8 6
def mode : IExp := .var .u8 7

/-! ### The laid table -/
theorem l8_D {e : Env} {ρ : Rho} (n : Int) : (Cell.i .u8 (.lit n)).D e ρ (.int .u8 n) := by simp [Cell.D, IExp.den]
theorem of_laid {W : World} (h : laidMetH Tryd.prog [("vesper/cpu.lasts", Rows.laid_vesper_cpu_lasts)] W) (e : Env) : HRel e 1 [(0, 0, 0)] g0 W := by
  rw [MakeChecks.laidMetH_plain _ _ _ (by kernel_rfl)] at h
  obtain ⟨ps, ⟨g, t, cs, fuel, p, q, hg, ht, hv, hd, hrest, hps⟩, hnd, hcell⟩ := h
  obtain rfl := Option.some.inj ((show Tryd.prog.globalNamed "vesper/cpu.lasts" = some 0 by kernel_rfl).symm.trans hg)
  obtain rfl := Option.some.inj ((show (Tryd.prog.globals[0]?).map (·.type) = some 90 by kernel_rfl).symm.trans ht)
  obtain ⟨xs, m, rfl, ex, hlx, hl, hel⟩ := DataW.trod_array Tryd.underlying90 hd
  have cB : Tryd.prog.cellsOf 87 = 1 := by kernel_rfl
  have cA : Tryd.prog.cellsOf 90 = 8 := by kernel_rfl
  rw [cA] at hlx
  have ex1 : xs.map (·.1) = [.lit (.int .u8 0), .lit (.int .u8 1), .lit (.int .u8 2), .lit (.int .u8 3), .lit (.int .u8 4), .lit (.int .u8 6), .lit (.int .u8 10), .lit (.int .u8 8)] := (DataW.agg.inj (Prod.mk.inj ex).1).symm
  have key : ∀ r, r < 8 → ∃ z, cs.toList[r]? = some (.int .u8 z) ∧ (xs.map (·.1))[r]? = some (.lit (.int .u8 z)) := by
    intro r hr
    have hE := hel r hr
    rw [cB, Nat.mul_one, List.getElem?_eq_getElem (by omega)] at hE
    obtain ⟨z, e1, e2, _⟩ := DataW.trod_int Tryd.underlying87 hE
    refine ⟨z, ?_, by rw [List.getElem?_map, List.getElem?_eq_getElem (by omega : r < xs.length), e2]; rfl⟩
    have h0 : ((cs.toList.drop r).take 1)[0]? = some (.int .u8 z) := by rw [e1]; rfl
    simpa using h0
  have hcs : cs.toList = [.int .u8 0, .int .u8 1, .int .u8 2, .int .u8 3, .int .u8 4, .int .u8 6, .int .u8 10, .int .u8 8] := by
    apply List.ext_getElem?
    intro r
    rcases Nat.lt_or_ge r 8 with hr | hr
    · obtain ⟨z, h1, h2⟩ := key r hr
      rw [h1]
      rw [ex1] at h2
      rcases r with _ | _ | _ | _ | _ | _ | _ | _ | r <;> first | (simp at h2; subst h2; rfl) | omega
    · rw [List.getElem?_eq_none (by omega), List.getElem?_eq_none (by simpa using hr)]
  have hpos : MemPlace.cell 0 0 ∈ ps := by
    rw [hps]
    refine List.mem_append_left _ (List.mem_append_left _ ?_)
    unfold MemPlace.row
    have h8 : cs.size = 8 := by simpa using hlx
    rw [h8]
    exact List.mem_map.2 ⟨0, by decide, rfl⟩
  obtain ⟨⟨c, t, hblk⟩, _⟩ := hcell 0 0 hpos
  have hc : c = cs := by
    have := hv
    simp only [World.var?, hg, Option.bind_some, hblk] at this
    exact Option.some.inj this
  subst hc
  refine HRel.ro (ρ := [(0, 0, 0)]) rfl (fun i l t' hi => ?_)
  rcases i with _ | i
  · simp only [g0, List.getElem?_cons_zero, Option.some.injEq, Prod.mk.injEq] at hi
    obtain ⟨rfl, rfl⟩ := hi
    refine ⟨0, 0, 0, c.toList, rfl, ⟨c, t, _, [], [], hblk, fun q => q.elim, by simp, rfl, Nat.zero_le _⟩, ?_⟩
    rw [hcs]
    exact ⟨_, _, rfl, l8_D 0, _, _, rfl, l8_D 1, _, _, rfl, l8_D 2, _, _, rfl, l8_D 3, _, _, rfl, l8_D 4, _, _, rfl, l8_D 6, _, _, rfl, l8_D 10, _, _, rfl, l8_D 8, rfl⟩
  · simp [g0] at hi

/-! ### Letters -/
def srcC (R : List Int) (us : List Int) (bs : List Bool) : Src :=
  { i := fun k => match k with
      | .u8 => us
      | _ => [],
    b := bs,
    a := fun k j => match k, j with
      | .u16, 0 => R
      | _, _ => [] }
theorem srcC_u8 {R us : List Int} {bs : List Bool} {j : Nat} {n : Int} (h : us[j]? = some n) (hn : In .u8 n) : (srcC R us bs).env.i .u8 j = n := by
  show clip .u8 (us.getD j 0) = n
  rw [List.getD_eq_getElem?_getD, h]; exact clip_of hn
theorem srcC_b {R us : List Int} {bs : List Bool} {j : Nat} {x : Bool} (h : bs[j]? = some x) : (srcC R us bs).env.b j = x := by
  show bs.getD j false = x
  rw [List.getD_eq_getElem?_getD, h]; rfl
theorem srcC_R {R us : List Int} {bs : List Bool} (h : ∀ x ∈ R, In .u16 x) (hl : R.length = 16) : (srcC R us bs).env.a .u16 0 = R := clipL_of h (by show ((R.length : Nat) : Int) ≤ lenTop; rw [hl]; decide)

def cpuFs : List Flat.Fk := [.i .u16, .i .u16, .i .u16, .i .u16, .i .u16, .i .u16, .i .u16, .i .u16, .i .u16, .i .u16, .i .u16, .i .u16, .i .u16, .i .u16, .i .u16, .i .u16, .i .u8, .b, .i .u8, .i .u8, .i .u8, .b, .b, .i .u8, .i .u8, .i .u8]
def pinFs : List Flat.Fk := [.i .u8, .i .u8, .b, .b, .b, .b, .b, .b, .b]
structure CpuIs (cs : List Value) (R : List Int) (D P X T Op B Ph : Int) (DF IE Q : Bool) : Prop where
  hlen : R.length = 16
  hR : ∀ x ∈ R, In .u16 x
  hD : In .u8 D
  hP : In .u8 P
  hX : In .u8 X
  hT : In .u8 T
  hOp : In .u8 Op
  hB : In .u8 B
  hPh : In .u8 Ph
  hcs : cs = R.map (.int .u16) ++ [.int .u8 D, .bool DF, .int .u8 P, .int .u8 X, .int .u8 T, .bool IE, .bool Q, .int .u8 Op, .int .u8 B, .int .u8 Ph]
theorem cpu_open {cs : List Value} (h : Flat.AllOk cpuFs cs) : ∃ R D P X T Op B Ph DF IE Q, CpuIs cs R D P X T Op B Ph DF IE Q := by
  obtain ⟨r0, _, rfl, b0, h1⟩ := Flat.allOk_i h
  obtain ⟨r1, _, rfl, b1, h2⟩ := Flat.allOk_i h1
  obtain ⟨r2, _, rfl, b2, h3⟩ := Flat.allOk_i h2
  obtain ⟨r3, _, rfl, b3, h4⟩ := Flat.allOk_i h3
  obtain ⟨r4, _, rfl, b4, h5⟩ := Flat.allOk_i h4
  obtain ⟨r5, _, rfl, b5, h6⟩ := Flat.allOk_i h5
  obtain ⟨r6, _, rfl, b6, h7⟩ := Flat.allOk_i h6
  obtain ⟨r7, _, rfl, b7, h8⟩ := Flat.allOk_i h7
  obtain ⟨r8, _, rfl, b8, h9⟩ := Flat.allOk_i h8
  obtain ⟨r9, _, rfl, b9, h10⟩ := Flat.allOk_i h9
  obtain ⟨r10, _, rfl, b10, h11⟩ := Flat.allOk_i h10
  obtain ⟨r11, _, rfl, b11, h12⟩ := Flat.allOk_i h11
  obtain ⟨r12, _, rfl, b12, h13⟩ := Flat.allOk_i h12
  obtain ⟨r13, _, rfl, b13, h14⟩ := Flat.allOk_i h13
  obtain ⟨r14, _, rfl, b14, h15⟩ := Flat.allOk_i h14
  obtain ⟨r15, _, rfl, b15, h16⟩ := Flat.allOk_i h15
  obtain ⟨D, _, rfl, bD, h17⟩ := Flat.allOk_i h16
  obtain ⟨DF, _, rfl, h18⟩ := Flat.allOk_b h17
  obtain ⟨P, _, rfl, bP, h19⟩ := Flat.allOk_i h18
  obtain ⟨X, _, rfl, bX, h20⟩ := Flat.allOk_i h19
  obtain ⟨T, _, rfl, bT, h21⟩ := Flat.allOk_i h20
  obtain ⟨IE, _, rfl, h22⟩ := Flat.allOk_b h21
  obtain ⟨Q, _, rfl, h23⟩ := Flat.allOk_b h22
  obtain ⟨Op, _, rfl, bOp, h24⟩ := Flat.allOk_i h23
  obtain ⟨B, _, rfl, bB, h25⟩ := Flat.allOk_i h24
  obtain ⟨Ph, _, rfl, bPh, h26⟩ := Flat.allOk_i h25
  obtain rfl := Flat.allOk_nil h26
  refine ⟨[r0, r1, r2, r3, r4, r5, r6, r7, r8, r9, r10, r11, r12, r13, r14, r15], D, P, X, T, Op, B, Ph, DF, IE, Q, rfl, ?_, bD, bP, bX, bT, bOp, bB, bPh, rfl⟩
  intro x hx
  simp only [List.mem_cons, List.not_mem_nil, or_false] at hx
  rcases hx with rfl | rfl | rfl | rfl | rfl | rfl | rfl | rfl | rfl | rfl | rfl | rfl | rfl | rfl | rfl | rfl <;> assumption
structure PinIs (cs : List Value) (m d : Int) (f0 f1 f2 f3 i o t : Bool) : Prop where
  hm : In .u8 m
  hd : In .u8 d
  hcs : cs = [.int .u8 m, .int .u8 d, .bool f0, .bool f1, .bool f2, .bool f3, .bool i, .bool o, .bool t]
theorem pin_open {cs : List Value} (h : Flat.AllOk pinFs cs) : ∃ m d f0 f1 f2 f3 i o t, PinIs cs m d f0 f1 f2 f3 i o t := by
  obtain ⟨m, _, rfl, bm, h1⟩ := Flat.allOk_i h
  obtain ⟨d, _, rfl, bd, h2⟩ := Flat.allOk_i h1
  obtain ⟨f0, _, rfl, h3⟩ := Flat.allOk_b h2
  obtain ⟨f1, _, rfl, h4⟩ := Flat.allOk_b h3
  obtain ⟨f2, _, rfl, h5⟩ := Flat.allOk_b h4
  obtain ⟨f3, _, rfl, h6⟩ := Flat.allOk_b h5
  obtain ⟨i, _, rfl, h7⟩ := Flat.allOk_b h6
  obtain ⟨o, _, rfl, h8⟩ := Flat.allOk_b h7
  obtain ⟨t, _, rfl, h9⟩ := Flat.allOk_b h8
  obtain rfl := Flat.allOk_nil h9
  exact ⟨m, d, f0, f1, f2, f3, i, o, t, bm, bd, rfl⟩

theorem cpuV_D {ρ : Rho} {cs : List Value} {R us : List Int} {D P X T Op B Ph : Int} {DF IE Q : Bool} {bs : List Bool} (h : CpuIs cs R D P X T Op B Ph DF IE Q) {o p : IExp}
    (ho : o.den (srcC R (D :: P :: X :: T :: Op :: B :: Ph :: us) (DF :: IE :: Q :: bs)).env = Op) (hp : p.den (srcC R (D :: P :: X :: T :: Op :: B :: Ph :: us) (DF :: IE :: Q :: bs)).env = Ph) :
    (cpuV o p).D (srcC R (D :: P :: X :: T :: Op :: B :: Ph :: us) (DF :: IE :: Q :: bs)).env ρ (.agg cs.toArray) := by
  refine ⟨cs, rfl, [.int .u8 D, .bool DF, .int .u8 P, .int .u8 X, .int .u8 T, .bool IE, .bool Q, .int .u8 Op, .int .u8 B, .int .u8 Ph], ?_, ?_, ?_⟩
  · rw [show (AExp.var .u16 0).den (srcC R (D :: P :: X :: T :: Op :: B :: Ph :: us) (DF :: IE :: Q :: bs)).env = R from srcC_R h.hR h.hlen]; exact h.hcs
  · rw [show (AExp.var .u16 0).den (srcC R (D :: P :: X :: T :: Op :: B :: Ph :: us) (DF :: IE :: Q :: bs)).env = R from srcC_R h.hR h.hlen]; exact h.hlen
  · refine ⟨_, _, rfl, ?_, _, _, rfl, ?_, _, _, rfl, ?_, _, _, rfl, ?_, _, _, rfl, ?_, _, _, rfl, ?_, _, _, rfl, ?_, _, _, rfl, ?_, _, _, rfl, ?_, _, _, rfl, ?_, rfl⟩
    · exact congrArg _ (srcC_u8 (j := 0) rfl h.hD).symm
    · exact congrArg _ (srcC_b (j := 0) rfl).symm
    · exact congrArg _ (srcC_u8 (j := 1) rfl h.hP).symm
    · exact congrArg _ (srcC_u8 (j := 2) rfl h.hX).symm
    · exact congrArg _ (srcC_u8 (j := 3) rfl h.hT).symm
    · exact congrArg _ (srcC_b (j := 1) rfl).symm
    · exact congrArg _ (srcC_b (j := 2) rfl).symm
    · exact congrArg _ ho.symm
    · exact congrArg _ (srcC_u8 (j := 5) rfl h.hB).symm
    · exact congrArg _ hp.symm
theorem pinsV_D {ρ : Rho} {cs : List Value} {R us : List Int} {m d : Int} {f0 f1 f2 f3 i o t : Bool} {bs : List Bool} (h : PinIs cs m d f0 f1 f2 f3 i o t) {x : IExp} {jd jb : Nat}
    (hx : x.den (srcC R us bs).env = m) (hd : us[jd]? = some d) (h0 : bs[jb]? = some f0) (h1 : bs[jb + 1]? = some f1) (h2 : bs[jb + 2]? = some f2) (h3 : bs[jb + 3]? = some f3)
    (h4 : bs[jb + 4]? = some i) (h5 : bs[jb + 5]? = some o) (h6 : bs[jb + 6]? = some t) : (pinsV x jd jb).D (srcC R us bs).env ρ (.agg cs.toArray) := by
  refine ⟨cs, rfl, ?_⟩
  rw [h.hcs]
  refine ⟨_, _, rfl, ?_, _, _, rfl, ?_, _, _, rfl, ?_, _, _, rfl, ?_, _, _, rfl, ?_, _, _, rfl, ?_, _, _, rfl, ?_, _, _, rfl, ?_, _, _, rfl, ?_, rfl⟩
  · exact congrArg _ hx.symm
  · exact congrArg _ (srcC_u8 hd h.hd).symm
  · exact congrArg _ (srcC_b h0).symm
  · exact congrArg _ (srcC_b h1).symm
  · exact congrArg _ (srcC_b h2).symm
  · exact congrArg _ (srcC_b h3).symm
  · exact congrArg _ (srcC_b h4).symm
  · exact congrArg _ (srcC_b h5).symm
  · exact congrArg _ (srcC_b h6).symm

end Go.Proofs.YtjnoacnbhcdidaaDoor.K
