/- BitsHex, BitsBack: the walks. -/
import Derived.Test.YtkndkecbajfehaaBHex3
namespace Go.Proofs.Ytkndkecbajfehaa.Bits
open Go Sy
set_option maxRecDepth 100000
set_option linter.unusedVariables false
set_option linter.unusedSimpArgs false

theorem dig_in {i : Nat} (hi : i < 16) : In .u8 (dig i) := by
  refine ⟨?_, ?_⟩
  · simp only [IntKind.min_u8]; unfold dig; split <;> omega
  · simp only [IntKind.max_u8]; unfold dig; split <;> omega
theorem hexL_in : ∀ (d n : Nat), ∀ x ∈ hexL d n, In .u8 x
  | 0, n, x, hx => by cases hx
  | d + 1, n, x, hx => by
    rw [hexL] at hx
    rcases List.mem_append.1 hx with h | h
    · exact hexL_in d _ x h
    · rw [List.mem_singleton.1 h]; exact dig_in (Nat.mod_lt _ (by omega))
theorem hexR_in (n d : Int) : ∀ x ∈ hexR n d, In .u8 x := by
  intro x hx
  unfold hexR at hx
  split at hx
  · cases hx
  · exact hexL_in _ _ x hx
theorem hexR_len (n d : Int) : (hexR n d).length ≤ 8 := by
  unfold hexR
  split
  · simp
  · rw [hexL_length]; omega
theorem numR_cases (l : List Int) (hl : ∀ x ∈ l, 0 ≤ x) : numR l = (0, 1) ∨ ((numR l).2 = 0 ∧ 0 < l.length ∧ l.length ≤ 8 ∧ hexR (numR l).1 l.length = l) := by
  unfold numR
  split
  · exact .inl rfl
  · rename_i hc
    split
    · rename_i m hm
      obtain ⟨h0, h1⟩ := numF_in l 0 m (by omega) hl hm
      obtain ⟨k, rfl⟩ := Int.eq_ofNat_of_zero_le h0
      refine .inr ⟨rfl, by omega, by omega, ?_⟩
      have hb := back l.length l 0 k rfl hm
      show hexR (k : Int) (l.length : Int) = l
      unfold hexR
      rw [if_neg (by rw [Int.toNat_natCast]; omega), Int.toNat_natCast, Int.toNat_natCast, hb]
    · exact .inl rfl
def srcHex (n d : Int) (s : List Int) : Src := { srcW [] [] [n, d] [] s with
  fi := fiN,
  fa := fun k f j l => match k, f, j, l with
    | .u8, 3, 0, [.i n, .i d] => hexR n d
    | _, _, _, _ => [] }
theorem srcHex_num (n d : Int) (s : List Int) : NumEnv (srcHex n d s).env := by
  constructor
  · intro l
    have := (numR_in _ (ints_nonneg (strOf l))).1
    exact clip_of (k := .i64) (n := (numR (ints (strOf l))).1) (in64 (by omega) (by omega))
  · intro l
    have := (numR_in _ (ints_nonneg (strOf l))).2
    exact clip_of (k := .i64) (n := (numR (ints (strOf l))).2) (in64 (by omega) (by omega))
theorem srcHex_hex (n d : Int) (s : List Int) : HexEnv (srcHex n d s).env := by
  intro m e
  have := hexR_len m e
  exact clipL_of (k := .u8) (hexR_in m e) (by show ((hexR m e).length : Int) ≤ lenTop; simp only [lenTop]; omega)
theorem hexLaw_eq : hexLaw = .leaf (.v (.c (.b (.lit true)))) := by kernel_rfl
abbrev HX : AExp := .fn .u8 3 0 (.i N0 (.i D1 .nil))
abbrev SA : AExp := .var .u8 0
abbrev numV (a : AExp) : IExp := .fn .i64 0 0 (.a a .nil)
abbrev numK (a : AExp) : IExp := .fn .i64 0 1 (.a a .nil)
abbrev backTail : WT SVal := .node (.eq (numK SA) (.lit 0))
  (.node (.le (.len SA) (.lit 0)) no (.node (.le (.len SA) (.lit 8)) (.node (.aeq (.fn .u8 3 0 (.i (numV SA) (.i (.len SA) .nil))) SA) yes no) no))
  (.node (.eq (numV SA) (.lit 0)) (.node (.eq (numK SA) (.lit 1)) yes no) no)
def backTree : WT SVal := .node (.aeq HX (.cst [])) backTail
  (.node (.eq (numV HX) N0) (.node (.eq (numK HX) (.lit 0)) (.node (.eq (.len HX) D1) backTail no) no) no)
theorem backLaw_eq : backLaw = backTree := by kernel_rfl
theorem str_len {s : ByteArray} : (ints s).length = s.size := by unfold ints; rw [List.length_map, Array.length_toList]; rfl
theorem text_at {s : ByteArray} {n d : Int} (hs : (s.size : Int) ≤ IntKind.i64.max) : (srcHex n d (ints s)).env.a .u8 0 = ints s :=
  clipL_of (ints_in s) (by show ((ints s).length : Int) ≤ lenTop; rw [str_len]; simpa only [IntKind.max_i64, lenTop] using hs)
/-- The law by a tree. -/
theorem law3 {f : Nat} {n d : Int} {s : ByteArray} (hn : IntKind.i64.min ≤ n ∧ n ≤ IntKind.i64.max) (hd : IntKind.i64.min ≤ d ∧ d ≤ IntKind.i64.max) (hs : (s.size : Int) ≤ IntKind.i64.max) (W : World) {T : WT SVal}
    (hT : (xCall Try.prog 0 plan tabHNA 1000 0 f [.v (.c (.i .i64 N0)), .v (.c (.i .i64 D1)), .v (.c (.s (.var .u8 0)))] ⟨[], []⟩).map (fun q => q.1) = T)
    (hh : T.holds (srcHex n d (ints s)).env (fun v : SVal => ∀ ρ V, v.D (srcHex n d (ints s)).env ρ V → V = .bool true)) :
    Calls Try.prog f #[.int .i64 n, .int .i64 d, .string s] W fun en W' => en = .returned (.bool true) ∧ RowKit.Below W.heap.size W W' := by
  have ok := (srcHex n d (ints s)).ok
  have he := srcHex_num n d (ints s)
  have hx := srcHex_hex n d (ints s)
  have e0 : (srcHex n d (ints s)).env.i .i64 0 = n := clip_of (k := .i64) (n := n) hn
  have e1 : (srcHex n d (ints s)).env.i .i64 1 = d := clip_of (k := .i64) (n := d) hd
  have ea := text_at (n := n) (d := d) hs
  generalize (srcHex n d (ints s)).env = E at *
  refine (call_any ok (TabOk.or (tabH_ok ok hx 0 0) (TabOk.or (tabN_ok ok he 0 0) (tabA_ok _ 0 0))) (args := [.v (.c (.i .i64 N0)), .v (.c (.i .i64 D1)), .v (.c (.s (.var .u8 0)))]) (vs := [.int .i64 n, .int .i64 d, .string s]) W ⟨_, _, rfl, ?_, _, _, rfl, ?_, _, _, rfl, ?_, rfl⟩ (AsmOk.nil _) hT hh).mono ?_
  · exact congrArg _ e0.symm
  · exact congrArg _ e1.symm
  · show Value.string s = .string (strOf (E.a .u8 0))
    rw [ea, strOf_ints]
  · rintro en W' ⟨v, ρ, V, hz, rfl, hV, hbl⟩
    exact ⟨by rw [hz ρ V hV], hbl⟩
theorem yes_ok (E : Env) : ∀ ρ V, (SVal.v (.c (.b (.lit true)))).D E ρ V → V = .bool true := fun ρ V hV => by
  have hV : V = .bool ((BExp.lit true).den E) := hV
  rw [hV]; simp only [BExp.den]
theorem hex_walk (n : Int) (hn : IntKind.i64.min ≤ n ∧ n ≤ IntKind.i64.max) (d : Int) (hd : IntKind.i64.min ≤ d ∧ d ≤ IntKind.i64.max) (s : ByteArray) (hs : (s.size : Int) ≤ IntKind.i64.max) (W : World) :
    Calls Try.prog 6 #[.int .i64 n, .int .i64 d, .string s] W fun en W' => en = .returned (.bool true) ∧ RowKit.Below W.heap.size W W' :=
  law3 hn hd hs W hexLaw_eq (by simp only [WT.holds]; exact yes_ok _)
theorem back_walk (n : Int) (hn : IntKind.i64.min ≤ n ∧ n ≤ IntKind.i64.max) (d : Int) (hd : IntKind.i64.min ≤ d ∧ d ≤ IntKind.i64.max) (s : ByteArray) (hs : (s.size : Int) ≤ IntKind.i64.max) (W : World) :
    Calls Try.prog 7 #[.int .i64 n, .int .i64 d, .string s] W fun en W' => en = .returned (.bool true) ∧ RowKit.Below W.heap.size W W' := by
  refine law3 hn hd hs W backLaw_eq ?_
  have he := srcHex_num n d (ints s)
  have hx := srcHex_hex n d (ints s)
  have e0 : (srcHex n d (ints s)).env.i .i64 0 = n := clip_of (k := .i64) (n := n) hn
  have e1 : (srcHex n d (ints s)).env.i .i64 1 = d := clip_of (k := .i64) (n := d) hd
  have ea := text_at (n := n) (d := d) hs
  generalize (srcHex n d (ints s)).env = E at he hx e0 e1 ea
  have vn : N0.den E = n := e0
  have vd : D1.den E = d := e1
  have va : SA.den E = ints s := by simp only [AExp.den, ea]
  have vh : HX.den E = hexR n d := by simp only [AExp.den, LExp.den, vn, vd]; exact hx n d
  have nv : ∀ a, (numV a).den E = (numR (ints (strOf (a.den E)))).1 := fun a => by simp only [IExp.den, LExp.den, he.n]
  have nk : ∀ a, (numK a).den E = (numR (ints (strOf (a.den E)))).2 := fun a => by simp only [IExp.den, LExp.den, he.k]
  have vl : (IExp.len SA).den E = ((ints s).length : Int) := by rw [show (IExp.len SA).den E = ((SA.den E).length : Int) by simp only [IExp.den], va]
  have vlh : (IExp.len HX).den E = ((hexR n d).length : Int) := by rw [show (IExp.len HX).den E = ((HX.den E).length : Int) by simp only [IExp.den], vh]
  have sv : (numV SA).den E = (numR (ints s)).1 := by rw [nv, va, strOf_ints]
  have sk : (numK SA).den E = (numR (ints s)).2 := by rw [nk, va, strOf_ints]
  have hv : (numV HX).den E = (numR (hexR n d)).1 := by rw [nv, vh, ints_strOf (hexR_in n d)]
  have hk : (numK HX).den E = (numR (hexR n d)).2 := by rw [nk, vh, ints_strOf (hexR_in n d)]
  have eqD : ∀ a b : IExp, (BExp.eq a b).den E = decide (a.den E = b.den E) := fun a b => by simp only [BExp.den]
  have aeqD : ∀ a b : AExp, (BExp.aeq a b).den E = decide (a.den E = b.den E) := fun a b => by simp only [BExp.den]
  have tail : backTail.holds E (fun v : SVal => ∀ ρ V, v.D E ρ V → V = .bool true) := by
    rcases numR_cases (ints s) (ints_nonneg s) with h | ⟨h2, hp, h8, hb⟩
    · have q1 : (BExp.eq (numK SA) (.lit 0)).den E = false := by rw [eqD, sk, litD, h]; rfl
      have q2 : (BExp.eq (numV SA) (.lit 0)).den E = true := by rw [eqD, sv, litD, h]; rfl
      have q3 : (BExp.eq (numK SA) (.lit 1)).den E = true := by rw [eqD, sk, litD, h]; rfl
      simp only [WT.holds, q1, q2, q3, if_true, Bool.false_eq_true, if_false]
      exact yes_ok E
    · have q1 : (BExp.eq (numK SA) (.lit 0)).den E = true := by rw [eqD, sk, litD, h2]; rfl
      have q2 : (BExp.le (.len SA) (.lit 0)).den E = false := by rw [le_den, vl, litD]; exact decide_eq_false (by omega)
      have q3 : (BExp.le (.len SA) (.lit 8)).den E = true := by rw [le_den, vl, litD]; exact decide_eq_true (by omega)
      have q4 : (BExp.aeq (.fn .u8 3 0 (.i (numV SA) (.i (.len SA) .nil))) SA).den E = true := by
        rw [aeqD, va, show (AExp.fn .u8 3 0 (.i (numV SA) (.i (.len SA) .nil))).den E = E.fa .u8 3 0 [.i ((numV SA).den E), .i ((IExp.len SA).den E)] by simp only [AExp.den, LExp.den], hx, sv, vl, hb]
        exact decide_eq_true rfl
      simp only [WT.holds, q1, q2, q3, q4, if_true, Bool.false_eq_true, if_false]
      exact yes_ok E
  by_cases hnil : hexR n d = []
  · have q1 : (BExp.aeq HX (.cst [])).den E = true := by
      rw [aeqD, vh, hnil, show (AExp.cst []).den E = [] by simp only [AExp.den]]
      exact decide_eq_true rfl
    show WT.holds E _ backTree
    unfold backTree
    rw [WT.holds, if_pos q1]
    exact tail
  · obtain ⟨g1, g2⟩ := numR_hexR hnil
    have q1 : (BExp.aeq HX (.cst [])).den E = false := by
      rw [aeqD, vh, show (AExp.cst []).den E = [] by simp only [AExp.den]]
      exact decide_eq_false hnil
    have q2 : (BExp.eq (numV HX) N0).den E = true := by rw [eqD, hv, vn, g1]; exact decide_eq_true rfl
    have q3 : (BExp.eq (numK HX) (.lit 0)).den E = true := by rw [eqD, hk, litD, g1]; rfl
    have q4 : (BExp.eq (.len HX) D1).den E = true := by rw [eqD, vlh, vd, g2]; exact decide_eq_true rfl
    show WT.holds E _ backTree
    unfold backTree
    rw [WT.holds, if_neg (by rw [q1]; exact Bool.false_ne_true), WT.holds, if_pos q2, WT.holds, if_pos q3, WT.holds, if_pos q4]
    exact tail
end Go.Proofs.Ytkndkecbajfehaa.Bits
