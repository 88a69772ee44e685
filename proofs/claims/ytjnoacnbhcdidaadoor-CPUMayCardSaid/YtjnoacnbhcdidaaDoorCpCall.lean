/- Step, Drive, Check: what each answers, wherever it is called. -/
import Derived.Test.YtjnoacnbhcdidaaDoorCpTab
namespace Go.Proofs.YtjnoacnbhcdidaaDoor.K
open Go Sy
set_option maxRecDepth 100000
set_option linter.unusedVariables false
set_option linter.unusedSimpArgs false

theorem phases_step : phases stepQ := by
  have h1 := st1
  have h2 := st2
  have h3 := st3
  have h4 := st4
  have h5 := st5
  have h6 := st6
  have h7 := st7
  have h8 := st8
  unfold stepEq at h1 h2 h3 h4 h5 h6 h7 h8
  exact ⟨h1, h2, h3, h4, h5, h6, h7, h8⟩
theorem phases_drive : phases driveQ := by
  have h1 := dr1
  have h2 := dr2
  have h3 := dr3
  have h4 := dr4
  have h5 := dr5
  have h6 := dr6
  have h7 := dr7
  have h8 := dr8
  unfold driveEq at h1 h2 h3 h4 h5 h6 h7 h8
  exact ⟨h1, h2, h3, h4, h5, h6, h7, h8⟩
theorem phases_may : phases stepM := by
  have h1 := my1
  have h2 := my2
  have h3 := my3
  have h4 := my4
  have h5 := my5
  have h6 := my6
  have h7 := my7
  have h8 := my8
  unfold stepMay at h1 h2 h3 h4 h5 h6 h7 h8
  exact ⟨h1, h2, h3, h4, h5, h6, h7, h8⟩
theorem phases_shp : phases driveS := by
  have h1 := ds1
  have h2 := ds2
  have h3 := ds3
  have h4 := ds4
  have h5 := ds5
  have h6 := ds6
  have h7 := ds7
  have h8 := ds8
  unfold driveShp at h1 h2 h3 h4 h5 h6 h7 h8
  exact ⟨h1, h2, h3, h4, h5, h6, h7, h8⟩
theorem phases_and {Q Q' : IExp → IExp → Asm → Bool} (h : phases Q) (k : phases Q') : phases fun x y q => Q x y q && Q' x y q := by
  have key : ∀ {gs : List (Int × Int)} {n : Int}, (gs.all fun g => Q (grp .u8 4 g).1 (.lit n) (grp .u8 4 g).2) = true → (gs.all fun g => Q' (grp .u8 4 g).1 (.lit n) (grp .u8 4 g).2) = true → (gs.all fun g => Q (grp .u8 4 g).1 (.lit n) (grp .u8 4 g).2 && Q' (grp .u8 4 g).1 (.lit n) (grp .u8 4 g).2) = true := by
    intro gs n h1 h2
    refine List.all_eq_true.2 fun g hg => ?_
    rw [List.all_eq_true.1 h1 g hg, List.all_eq_true.1 h2 g hg]; rfl
  exact ⟨key h.1 k.1, key h.2.1 k.2.1, key h.2.2.1 k.2.2.1, key h.2.2.2.1 k.2.2.2.1, key h.2.2.2.2.1 k.2.2.2.2.1, key h.2.2.2.2.2.1 k.2.2.2.2.2.1, key h.2.2.2.2.2.2.1 k.2.2.2.2.2.2.1, key h.2.2.2.2.2.2.2 k.2.2.2.2.2.2.2⟩
/-- Two functions held alike, the first one's answer of a kind. -/
theorem eqv_shp {e : Env} (ok : EnvOk e) {f g : Nat} {args : List SVal} {vs : List Value} {aq : Asm} {Z : SVal × St → Bool} (h : eqvT f g args aq = true) (hz : allOne Z (run1 f args aq) = true) (hvs : SValsD e [(0, 0, 0)] args vs) (ha : AsmOk e aq) :
    (∃ W, Laid W) → ∃ V ρ a, Z a = true ∧ a.1.D e ρ V ∧ AsmOk e a.2.as ∧ ∀ W, Laid W → Calls Tryd.prog f vs.toArray W (Ret V W) ∧ Calls Tryd.prog g vs.toArray W (Ret V W) := by
  rintro ⟨W0, hW0⟩
  obtain ⟨q, hp, hq, hq2⟩ := allOne_pick e h
  obtain ⟨r, _, hr, hr2⟩ := allOne_pick e hq
  obtain ⟨q', hp', hz', _⟩ := allOne_pick e hz
  rw [hp] at hp'
  cases hp'
  have c1 := fun W (hW : Laid W) => run1_calls ok hvs ha hq2 hW
  obtain ⟨_, _, V1, ρ1, _, d1, ha1, _⟩ := calls_some (c1 W0 hW0)
  have c2 := fun W (hW : Laid W) => run1_calls ok hvs ha1 hr2 hW
  obtain ⟨_, _, V2, ρ2, _, d2, ha2, _⟩ := calls_some (c2 W0 hW0)
  obtain ⟨⟨V, v1⟩, ⟨V', v2⟩, hvv⟩ := sameVal_ok ok ha2 hr
  have : V = V' := by rw [← svalV_eq v1 d1, ← svalV_eq v2 d2]; exact hvv _ _ _ _ d1 d2
  subst this
  have : V1 = V := svalV_eq v1 d1
  subst this
  refine ⟨V1, ρ1, q, hz', d1, ha1, fun W hW => ⟨(c1 W hW).mono ?_, (c2 W hW).mono ?_⟩⟩
  · rintro en W' ⟨V', ρ', rfl, hD, _, hb⟩
    exact ⟨by rw [svalV_eq v1 hD], hb⟩
  · rintro en W' ⟨V', ρ', rfl, hD, _, hb⟩
    exact ⟨by rw [svalV_eq v2 hD], hb⟩

def StepIs (c : Cpu) (p : Pins) (n : Cpu) : Prop := n.Ok ∧ (c.may → p.m ≤ 3 → n.may) ∧ ∀ W, Laid W → Calls Tryd.prog 20 #[c.val, p.val] W (Ret n.val W) ∧ Calls Tryd.prog 14 #[c.val, p.val] W (Ret n.val W)
theorem step_ex {c : Cpu} {p : Pins} (hc : c.Ok) (hp : p.Ok) (hL : ∃ W, Laid W) : ∃ n, StepIs c p n := by
  have hlow : (stepQ op ph [(.le ph (.lit 0), true)] && stepM op ph [(.le ph (.lit 0), true)]) = true := by rw [stLow, myLow]; rfl
  have hhigh : (stepQ op ph [(.le ph (.lit 8), false)] && stepM op ph [(.le ph (.lit 8), false)]) = true := by rw [stHigh, myHigh]; rfl
  obtain ⟨x, y, q, hx, hy, ha, hQ⟩ := ways (Q := fun x y q => stepQ x y q && stepM x y q) hc hp hlow hhigh (phases_and phases_step phases_may)
  obtain ⟨hQ1, hQ2⟩ := (Bool.and_eq_true _ _).mp hQ
  unfold stepQ at hQ1
  unfold stepM at hQ2
  have ok := (srcP c p).ok
  have hm : mode.den (srcP c p).env = p.m := srcC_u8 (j := 7) rfl hp.1
  obtain ⟨V, ρ, a, hz, hD, has, hcalls⟩ := eqv_shp ok (args := [cpuV x y, pinsV mode 8 3]) (vs := [c.val, p.val]) hQ1 hQ2 ⟨_, _, rfl, cpuP_D hc hx hy, _, _, rfl, pinsP_D hp, rfl⟩ ha hL
  simp only [Bool.and_eq_true] at hz
  obtain ⟨hz1, hz2⟩ := hz
  have hcells : ∃ cs, V = .agg cs.toArray ∧ Flat.AllOk cpuFs cs := by
    unfold valOk at hz1
    split at hz1
    · rename_i l heq
      rw [heq] at hD
      obtain ⟨vs, rfl, hvs⟩ := hD
      exact ⟨vs, rfl, segsOk_ok ok has hz1 hvs⟩
    · simp [cpuFs] at hz1
    · cases hz1
  obtain ⟨cs, rfl, hcs⟩ := hcells
  obtain ⟨n, hn, rfl⟩ := cpu_of hcs
  refine ⟨n, hn, fun hmay hm3 => ?_, hcalls⟩
  have hcv : (validB (cpuV x y)).den (srcP c p).env = true := by
    have : (validE (.var .u8 1) (.var .u8 2) x (.var .u8 5) y).den (srcP c p).env = true := by
      rw [validE_den, hx, hy, show (IExp.var .u8 1).den (srcP c p).env = c.P from srcC_u8 (j := 1) rfl hc.hP, show (IExp.var .u8 2).den (srcP c p).env = c.X from srcC_u8 (j := 2) rfl hc.hX, show (IExp.var .u8 5).den (srcP c p).env = c.B from srcC_u8 (j := 5) rfl hc.hB]
      exact hmay
    exact this
  have hisB : ∀ {b : BExp} {v : Bool}, isB (decideB a.2.as b) v = true → b.den (srcP c p).env = v := by
    intro b v h
    unfold isB at h
    split at h
    · rename_i w hw
      rw [decideB_ok ok has hw]
      exact eq_of_beq h
    · cases h
  simp only [mayOk, Bool.or_eq_true] at hz2
  rcases hz2 with (hz2 | hz2) | hz2
  · rw [hisB hz2] at hcv; cases hcv
  · have := hisB hz2
    rw [le_den, hm, litD] at this
    exact absurd hm3 (of_decide_eq_false this)
  · exact validB_D (hisB hz2) hD
noncomputable def step (c : Cpu) (p : Pins) : Cpu := open Classical in if h : ∃ n, StepIs c p n then h.choose else c
theorem step_is {c : Cpu} {p : Pins} (hc : c.Ok) (hp : p.Ok) {W : World} (hW : Laid W) : StepIs c p (step c p) := by
  unfold step
  have h := step_ex hc hp ⟨W, hW⟩
  rw [dif_pos h]
  exact h.choose_spec
theorem step_ok {c : Cpu} {p : Pins} (hc : c.Ok) : (step c p).Ok := by
  unfold step
  split
  · rename_i h; exact h.choose_spec.1
  · exact hc
theorem step_may {c : Cpu} {p : Pins} (hc : c.may) (hp : p.m ≤ 3) : (step c p).may := by
  unfold step
  split
  · rename_i h; exact h.choose_spec.2.1 hc hp
  · exact hc

/-! ### What it does to the bus -/
structure Drv where
  code : Int
  addr : Int
  rd : Bool
  wr : Bool
  own : Bool
  data : Int
  port : Int
  pulse : Bool
def Drv.cells (d : Drv) : List Value := [.int .u8 d.code, .int .u16 d.addr, .bool d.rd, .bool d.wr, .bool d.own, .int .u8 d.data, .int .u8 d.port, .bool d.pulse]
def Drv.val (d : Drv) : Value := .agg d.cells.toArray
structure Drv.Ok (d : Drv) : Prop where
  code : In .u8 d.code
  addr : In .u16 d.addr
  data : In .u8 d.data
  port : In .u8 d.port
theorem drv_of {cs : List Value} (h : Flat.AllOk driveFs cs) : ∃ d : Drv, d.Ok ∧ cs = d.cells := by
  obtain ⟨x1, c1, rfl, b1, h1⟩ := Flat.allOk_i h
  obtain ⟨x2, c2, rfl, b2, h2⟩ := Flat.allOk_i h1
  obtain ⟨x3, c3, rfl, h3⟩ := Flat.allOk_b h2
  obtain ⟨x4, c4, rfl, h4⟩ := Flat.allOk_b h3
  obtain ⟨x5, c5, rfl, h5⟩ := Flat.allOk_b h4
  obtain ⟨x6, c6, rfl, b6, h6⟩ := Flat.allOk_i h5
  obtain ⟨x7, c7, rfl, b7, h7⟩ := Flat.allOk_i h6
  obtain ⟨x8, c8, rfl, h8⟩ := Flat.allOk_b h7
  obtain rfl := Flat.allOk_nil h8
  exact ⟨⟨x1, x2, x3, x4, x5, x6, x7, x8⟩, ⟨b1, b2, b6, b7⟩, rfl⟩
def DriveIs (c : Cpu) (m : Int) (d : Drv) : Prop := d.Ok ∧ ∀ W, Laid W → Calls Tryd.prog 19 #[c.val, .int .u8 m] W (Ret d.val W) ∧ Calls Tryd.prog 13 #[c.val, .int .u8 m] W (Ret d.val W)
theorem drive_ex {c : Cpu} {m : Int} (hc : c.Ok) (hm : In .u8 m) (hL : ∃ W, Laid W) : ∃ d, DriveIs c m d := by
  have hp : (⟨m, 0, false, false, false, false, false, false, false⟩ : Pins).Ok := ⟨hm, (show In .u8 0 from u8_in (by omega) (by omega))⟩
  generalize hpp : (⟨m, 0, false, false, false, false, false, false, false⟩ : Pins) = p at hp
  have hlow : (driveQ op ph [(.le ph (.lit 0), true)] && driveS op ph [(.le ph (.lit 0), true)]) = true := by rw [drLow, dsLow]; rfl
  have hhigh : (driveQ op ph [(.le ph (.lit 8), false)] && driveS op ph [(.le ph (.lit 8), false)]) = true := by rw [drHigh, dsHigh]; rfl
  obtain ⟨x, y, q, hx, hy, ha, hQ⟩ := ways (Q := fun x y q => driveQ x y q && driveS x y q) hc hp hlow hhigh (phases_and phases_drive phases_shp)
  obtain ⟨hQ1, hQ2⟩ := (Bool.and_eq_true _ _).mp hQ
  unfold driveQ at hQ1
  unfold driveS shpT at hQ2
  have ok := (srcP c p).ok
  have hm : mode.den (srcP c p).env = p.m := srcC_u8 (j := 7) rfl hp.1
  have hpm : p.m = m := by rw [← hpp]
  obtain ⟨V, ρ, a, hz, hD, has, hcalls⟩ := eqv_shp ok (args := [cpuV x y, .v (.c (.i .u8 mode))]) (vs := [c.val, .int .u8 m]) hQ1 hQ2 ⟨_, _, rfl, cpuP_D hc hx hy, _, _, rfl, congrArg _ (by rw [hm, hpm]), rfl⟩ ha hL
  have hcells : ∃ cs, V = .agg cs.toArray ∧ Flat.AllOk driveFs cs := by
    unfold valOk at hz
    split at hz
    · rename_i l heq
      rw [heq] at hD
      obtain ⟨vs, rfl, hvs⟩ := hD
      exact ⟨vs, rfl, segsOk_ok ok has hz hvs⟩
    · simp [driveFs] at hz
    · cases hz
  obtain ⟨cs, rfl, hcs⟩ := hcells
  obtain ⟨n, hn, rfl⟩ := drv_of hcs
  exact ⟨n, hn, hcalls⟩
noncomputable def drive (c : Cpu) (m : Int) : Drv := open Classical in if h : ∃ d, DriveIs c m d then h.choose else ⟨0, 0, false, false, false, 0, 0, false⟩
theorem drive_is {c : Cpu} {m : Int} (hc : c.Ok) (hm : In .u8 m) {W : World} (hW : Laid W) : DriveIs c m (drive c m) := by
  unfold drive
  have h := drive_ex hc hm ⟨W, hW⟩
  rw [dif_pos h]
  exact h.choose_spec
theorem drive_ok (c : Cpu) (m : Int) : (drive c m).Ok := by
  unfold drive
  split
  · rename_i h; exact h.choose_spec.1
  · exact ⟨(show In .u8 0 from u8_in (by omega) (by omega)), (show In .u16 0 from u16_in (by omega) (by omega)), (show In .u8 0 from u8_in (by omega) (by omega)), (show In .u8 0 from u8_in (by omega) (by omega))⟩

/-! ### Whether it may be so -/
def CheckIs (c : Cpu) (n : Int) : Prop := In .i64 n ∧ ∀ W, Laid W → Calls Tryd.prog 17 #[c.val] W (Ret (.int .i64 n) W) ∧ Calls Tryd.prog 18 #[c.val] W (Ret (.int .i64 n) W)
def isI64 (q : SVal × St) : Bool := match q.1 with
  | .v (.c (.i .i64 x)) => inKind .i64 (x.rng q.2.as)
  | _ => false
theorem checkI : allOne isI64 (run1 17 [cpuV op ph] []) = true := by kernel_rfl
theorem check_ex {c : Cpu} (hc : c.Ok) (hL : ∃ W, Laid W) : ∃ n, CheckIs c n := by
  have hp : (⟨0, 0, false, false, false, false, false, false, false⟩ : Pins).Ok := ⟨(show In .u8 0 from u8_in (by omega) (by omega)), (show In .u8 0 from u8_in (by omega) (by omega))⟩
  generalize (⟨0, 0, false, false, false, false, false, false, false⟩ : Pins) = p at hp
  have eOp : op.den (srcP c p).env = c.Op := srcC_u8 (j := 4) rfl hc.hOp
  have ePh : ph.den (srcP c p).env = c.Ph := srcC_u8 (j := 6) rfl hc.hPh
  have ok := (srcP c p).ok
  obtain ⟨V, ρ, a, hz, hD, has, hcalls⟩ := eqv_shp ok (args := [cpuV op ph]) (vs := [c.val]) checkAll checkI ⟨_, _, rfl, cpuP_D hc eOp ePh, rfl⟩ (AsmOk.nil _) hL
  unfold isI64 at hz
  split at hz
  · rename_i x hx
    rw [hx] at hD
    have hD : V = .int .i64 (x.den _) := hD
    subst hD
    exact ⟨_, inKind_spec hz (IExp.rng_ok ok has x), hcalls⟩
  · cases hz
noncomputable def check (c : Cpu) : Int := open Classical in if h : ∃ n, CheckIs c n then h.choose else 0
theorem check_is {c : Cpu} (hc : c.Ok) {W : World} (hW : Laid W) : CheckIs c (check c) := by
  unfold check
  have h := check_ex hc ⟨W, hW⟩
  rw [dif_pos h]
  exact h.choose_spec
theorem check_in (c : Cpu) : In .i64 (check c) := by
  unfold check
  split
  · rename_i h; exact h.choose_spec.1
  · exact i64_in (by omega) (by omega)
end Go.Proofs.YtjnoacnbhcdidaaDoor.K
