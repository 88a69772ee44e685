/- The executor over this program: its plan, its functions' bodies, rows that are new. -/
import Derived.Test.YtaijkkkgpgldbaaDoorSyCfgF
import Derived.Test.YtaijkkkgpgldbaaDoorSyPlan
import Derived.Test.YtaijkkkgpgldbaaDoorRows
namespace Go.Proofs.YtaijkkkgpgldbaaDoor.K
open Go Sy
set_option maxRecDepth 100000
set_option linter.unusedVariables false
set_option linter.unusedSimpArgs false

theorem mixed : Tryd.prog.follows .mixedOrders = true := by kernel_rfl
def plan : Plan := ⟨sch, noLt⟩
noncomputable def fnOf (f : Nat) : Func := (Tryd.prog.funcs[f]?).getD default
noncomputable def bodyOf (f : Nat) : Code := (fnOf f).body.getD .skip
noncomputable def hasBody (f : Nat) : Bool := match Tryd.prog.funcs[f]? with
  | some fn => fn.body.isSome
  | none => false
theorem fn_of {f : Nat} (h : hasBody f = true) : Tryd.prog.funcs[f]? = some (fnOf f) ∧ (fnOf f).body = some (bodyOf f) := by
  unfold hasBody at h
  cases hf : Tryd.prog.funcs[f]? with
  | none => rw [hf] at h; cases h
  | some fn =>
    rw [hf] at h
    obtain ⟨b, hb⟩ := Option.isSome_iff_exists.1 h
    have h1 : fnOf f = fn := by simp [fnOf, hf]
    exact ⟨by rw [h1], by rw [bodyOf, h1, hb]; rfl⟩
def noTab : Tab := fun _ _ _ _ => none

/-- A row of numbers that is new. -/
structure RowNew (W W' : World) (k : IntKind) (l : List Int) (b o r : Nat) : Prop where
  new : W.heap.size ≤ b
  at' : At True W' b o r (l.map (.int k))
  below : RowKit.Below W.heap.size W W'
theorem post_new {e : Env} {ov ro : Nat} {ρ : Rho} {h : SHeap} {W W' : World} (hr : HRel e ov ρ h W) {k : IntKind} {l : List Int} {b o r : Nat} (hn : RowNew W W' k l b o r) {A : AExp} (hA : A.den e = l) {u : TypeId} :
    Post e ov ro ρ W (ρ ++ [(b, o, r)]) (h ++ [some ([.row k A], u)]) W' := by
  refine Post.more hr hn.below.os hn.below.tape hn.below.output hn.below.size (fun q hq _ => hn.below.block q hq) hn.at'.lt (.inl hn.new) (Nat.le_trans hr.old.size hn.new) (fun i c hi hc => ?_) hn.at' ⟨[], by rw [hA, List.append_nil], rfl⟩
  have := hr.lt hi hc
  have := hn.new
  omega
theorem below_of_post {e : Env} {ov ro : Nat} {ρ ρ' : Rho} {W W' : World} {h' : SHeap} (hp : Post e ov ro ρ W ρ' h' W') (h : ρ.length ≤ ro) : RowKit.Below W.heap.size W W' :=
  ⟨hp.fr.os, hp.fr.tape, hp.fr.output, hp.fr.size, fun k hk => hp.fr.same k hk (by
    rintro ⟨o, hm⟩
    rw [List.drop_eq_nil_of_le h] at hm
    cases hm)⟩
theorem row_of_post {e : Env} {ov ro : Nat} {ρ ρ' : Rho} {W W' : World} {h' : SHeap} {k : IntKind} {A : AExp} {u : TypeId} {i : Nat} (hp : Post e ov ro ρ W ρ' h' W') (hro : ρ.length ≤ ro) (hi : ρ.length ≤ i) (hov : ov ≤ i) (hh : h'[i]? = some (some ([.row k A], u))) :
    ∃ b o r, ρ'[i]? = some (b, o, r) ∧ RowNew W W' k (A.den e) b o r := by
  obtain ⟨b, o, r, vs, h1, h2, h3⟩ := hp.rel.blk i _ _ hh
  obtain ⟨vs', rfl, h4⟩ := h3
  cases h4
  refine ⟨b, o, r, h1, ?_, ?_, below_of_post hp hro⟩
  · obtain ⟨q, rfl⟩ := hp.pre
    have hm : (b, o, r) ∈ (ρ ++ q).drop ρ.length := by
      rw [List.drop_left]
      rw [List.getElem?_append_right hi] at h1
      exact List.mem_of_getElem? h1
    rcases hp.new _ hm with h5 | ⟨_, h5⟩
    · exact h5
    · rw [List.drop_eq_nil_of_le hro] at h5; cases h5
  · rw [List.append_nil] at h2; exact h2.weak (fun _ => hov)
/-- A slice of known capacity. -/
theorem slice_of {e : Env} {ρ : Rho} {b o r n c : Nat} {i : Nat} {x y : IExp} {V : Value} (hb : ρ[i]? = some (b, o, r)) (hx : x.den e = n) (hy : y.den e = c) (hc : 0 < c) (h : (SVal.v (.c (.sl (some ⟨i, 0, none⟩) x (some y)))).D e ρ V) : V = .slice (some ⟨b, o, none⟩) n c := by
  obtain ⟨o', n', c', rfl, h1, h2, h3⟩ := h
  have hn : n' = n := by omega
  subst hn
  rcases h3 with ⟨A, ⟨b2, o2, r2, hb2, hA⟩, rfl, hcap⟩ | ⟨h4, h5, h6⟩
  · rw [hb] at hb2
    cases hb2
    simp only at hA
    subst hA
    have hcap : (c' : Int) = y.den e := hcap
    have : c' = c := by omega
    subst this
    rfl
  · have := h6 _ rfl
    omega
theorem slice_D {e : Env} {ρ : Rho} {b o r n c : Nat} {i : Nat} {x y : IExp} (hb : ρ[i]? = some (b, o, r)) (hx : x.den e = n) (hy : y.den e = c) (hle : n ≤ c) : (SVal.v (.c (.sl (some ⟨i, 0, none⟩) x (some y)))).D e ρ (.slice (some ⟨b, o, none⟩) n c) :=
  ⟨_, n, c, rfl, hx.symm, hle, .inl ⟨_, ⟨b, o, r, hb, rfl⟩, rfl, hy.symm⟩⟩
theorem TabOk.or {P : Program} {G ov : Nat} {t u : Tab} {e : Env} (h : TabOk P G ov t e) (k : TabOk P G ov u e) : TabOk P G ov (fun ro f args st => match t ro f args st with
    | some x => some x
    | none => u ro f args st) e := by
  intro ro f args st x Z hx
  simp only at hx
  split at hx
  · rename_i y hy
    cases hx
    exact h ro f args st x Z hy
  · exact k ro f args st x Z hx
theorem noGlob (ρ : Rho) : Glob 0 ρ := fun g hg => absurd hg (Nat.not_lt_zero _)
theorem i64_in {n : Int} (h0 : -9223372036854775808 ≤ n) (h1 : n ≤ 9223372036854775807) : In .i64 n := ⟨by simpa only [IntKind.min_i64] using h0, by simpa only [IntKind.max_i64] using h1⟩
theorem u8_in {n : Int} (h0 : 0 ≤ n) (h1 : n ≤ 255) : In .u8 n := ⟨by simpa only [IntKind.min_u8] using h0, by simpa only [IntKind.max_u8] using h1⟩
theorem u16_in {n : Int} (h0 : 0 ≤ n) (h1 : n ≤ 65535) : In .u16 n := ⟨by simpa only [IntKind.min_u16] using h0, by simpa only [IntKind.max_u16] using h1⟩
theorem wrap64 {n : Int} (h0 : -9223372036854775808 ≤ n) (h1 : n ≤ 9223372036854775807) : IntKind.i64.wrap n = n := wrap_id (i64_in h0 h1)
theorem binE {e : Env} {op : BinOp} {k : IntKind} {x y : IExp} : (IExp.bin op k x y).den e = binDen op k (x.den e) (y.den e) := by simp only [IExp.den]
/-- Letters that are given by hand. -/
def srcI (l : List Int) : Src := { i := fun k => match k with | .i64 => l | _ => [], b := [], a := fun _ _ => [] }
end Go.Proofs.YtaijkkkgpgldbaaDoor.K
