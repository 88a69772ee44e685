/- A small symbolic executor for loop-free Go code: what it tells is what the machine does. -/
import Derived.Test.YtaijkkkgpgldbaaDoorSyExec
namespace Go.Proofs.YtaijkkkgpgldbaaDoor.Sy
noncomputable section
set_option linter.unusedVariables false
set_option linter.unusedSimpArgs false
open Go Go.Proofs.YtaijkkkgpgldbaaDoorW.PrintLast

/-- Contracts that are given. -/
def TabOk (P : Program) (G ov : Nat) (tab : Tab) (e : Env) : Prop :=
  ∀ ro f args st t Z, tab ro f args st = some t → ov ≤ ro → t.holds e Z → ∀ ρ vs W (R : Ending → World → Prop), SValsD e ρ args vs → AsmOk e st.as → HRel e ov ρ st.h W → Glob G ρ →
    (∀ v st', Z (v, st') → ∀ ρ' V W', Post e ov ro ρ W ρ' st'.h W' → v.D e ρ' V → AsmOk e st'.as → R (.returned V) W') → Calls P f vs.toArray W R

structure Rl (e : Env) (G ov : Nat) (ρ : Rho) (tmps : Tm) (st : St) (a : Act) (W : World) : Prop where
  tm : TmD e ρ tmps a.tmps.toList
  df : a.defers = []
  as : AsmOk e st.as
  hr : HRel e ov ρ st.h W
  gl : Glob G ρ

/-- A loop's block leaves what is told. -/
def LtSound (P : Program) (G ov : Nat) (e : Env) (L : LTab) (c : Code) : Prop :=
  ∀ ro tm st t Z, ov ≤ ro → L ro tm st = some t → t.holds e Z → ∀ ρ a W Q, Rl e G ov ρ tm st a W →
    (∀ ex tm' st', Z (ex, tm', st') → ∀ ρ' a' W', Post e ov ro ρ W ρ' st'.h W' → Rl e G ov ρ' tm' st' a' W' → Q ex.to a' W') → c.wp P Q a W
def LtAll (P : Program) (G ov : Nat) (e : Env) (lt : Nat → Option LTab) : Code → Prop
  | .seq a b => LtAll P G ov e lt a ∧ LtAll P G ov e lt b
  | .cond _ a b => LtAll P G ov e lt a ∧ LtAll P G ov e lt b
  | .block id b => (∀ L, lt id = some L → LtSound P G ov e L (.block id b)) ∧ LtAll P G ov e lt b
  | .loop b => LtAll P G ov e lt b
  | .scope b => LtAll P G ov e lt b
  | _ => True
def LtOk (P : Program) (G ov : Nat) (e : Env) (plan : Plan) : Prop := ∀ f fn c, P.funcs[f]? = some fn → fn.body = some c → LtAll P G ov e (plan.lt f) c
theorem LtAll.none {P : Program} {G ov : Nat} {e : Env} {lt : Nat → Option LTab} (h : ∀ id, lt id = .none) : ∀ (c : Code), LtAll P G ov e lt c
  | .seq a b => ⟨LtAll.none h a, LtAll.none h b⟩
  | .cond _ a b => ⟨LtAll.none h a, LtAll.none h b⟩
  | .block id b => ⟨(fun L hL => by rw [h id] at hL; cases hL), LtAll.none h b⟩
  | .loop b => LtAll.none (c := b) h
  | .scope b => LtAll.none (c := b) h
  | .skip | .region _ _ _ | .rangeFunc _ _ _ _ | .exit _ | .label _ | .goto _ | .ret | .refuse _ => trivial
theorem LtOk.none {P : Program} {G ov : Nat} {e : Env} {sch : List (List (Nat × Sch))} : LtOk P G ov e ⟨sch, noLt⟩ := fun _ _ c _ _ => LtAll.none (fun _ => rfl) c

theorem Rl.put {e : Env} {G ov : Nat} {ρ : Rho} {tmps : Tm} {a : Act} (ht : TmD e ρ tmps a.tmps.toList) (hd : a.defers = []) {h : SHeap} {as : Asm} (ha : AsmOk e as) {W : World} (hr : HRel e ov ρ h W) (hg : Glob G ρ)
    (dst : Option Tmp) {x : SVal} {V : Value} (hx : x.D e ρ V) : Rl e G ov ρ (putS tmps dst x) ⟨h, as⟩ (a.put dst V) W :=
  ⟨put_D ht hx dst, by rw [put_defers]; exact hd, ha, hr, hg⟩

theorem mem_lower {ro ro' : Nat} (hle : ro ≤ ro') {ρ : Rho} {x : Nat × Nat × Nat} (hm : x ∈ ρ.drop ro') : x ∈ ρ.drop ro := by
  obtain ⟨d, rfl⟩ : ∃ d, ro' = ro + d := ⟨ro' - ro, by omega⟩
  rw [← List.drop_drop] at hm
  exact List.mem_of_mem_drop hm
theorem Post.lower {e : Env} {ov ro ro' : Nat} {ρ ρ' : Rho} {W W' : World} {h' : SHeap} (hle : ro ≤ ro') (p : Post e ov ro' ρ W ρ' h' W') : Post e ov ro ρ W ρ' h' W' := by
  refine ⟨p.pre, fun b hb => (p.new b hb).imp id fun hh => ?_, p.rel, ⟨p.fr.os, p.fr.tape, p.fr.output, p.fr.size, fun k hk hn => p.fr.same k hk fun hh => hn ?_⟩⟩
  · obtain ⟨o, hm⟩ := hh; exact ⟨o, mem_lower hle hm⟩
  · obtain ⟨o, hm⟩ := hh; exact ⟨o, mem_lower hle hm⟩

theorem Stay.mono {ρ0 ρ : Rho} {h0 : SHeap} {W W' : World} (hlen : h0.length = ρ0.length) (hp : Pre ρ0 ρ) (h : Stay ρ0 h0 W W') : Stay ρ h0 W W' := by
  intro i c hi hc
  have hil : i < ρ0.length := by
    obtain ⟨s, hs⟩ := hi
    rw [← hlen]; exact (List.getElem?_eq_some_iff.1 hs).1
  obtain ⟨r, rfl⟩ := hp
  rw [List.getElem?_append_left hil] at hc
  exact h i c hi hc
/-- What writes no block that was there leaves all as it stood. -/
theorem Stay.keep {e : Env} {ov lock : Nat} {ρ0 ρ ρ' : Rho} {h h0 h' : SHeap} {W0 W W' : World} (hr0 : HRel e ov ρ0 h0 W0) (hlock : h.length ≤ lock) (hr : HRel e ov ρ h W) (p : Post e ov lock ρ W ρ' h' W') (hS : Stay ρ0 h0 W0 W) : Stay ρ0 h0 W0 W' := by
  intro i c hi hc
  rw [← hS i c hi hc]
  have h1 := hr0.lt hi hc
  have h2 := hS i c hi hc
  rw [Array.getElem?_eq_getElem h1] at h2
  refine p.fr.same _ (Array.getElem?_eq_some_iff.1 h2).1 ?_
  rintro ⟨o, hm⟩
  rw [List.drop_eq_nil_of_le (by rw [← hr.len]; exact hlock)] at hm
  cases hm

section
variable {P : Program} {G ov : Nat} {plan : Plan} {tab : Tab} {e : Env} (ok : EnvOk e) (hmix : P.follows .mixedOrders = true) (hplan : planB P P.funcs.toList plan.sch = true) (hlt : LtOk P G ov e plan) (htab : TabOk P G ov tab e)

def CodeOk (P : Program) (G ov : Nat) (plan : Plan) (tab : Tab) (e : Env) (n : Nat) : Prop :=
  ∀ pl ro c tmps st Z, planned P pl.sch c = true → LtAll P G ov e pl.lt c → ov ≤ ro → (xCode P G plan tab n pl ro c tmps st).holds e Z → ∀ ρ a W Q, Rl e G ov ρ tmps st a W →
    (∀ ex tmps' st', Z (ex, tmps', st') → ∀ ρ' a' W', Post e ov ro ρ W ρ' st'.h W' → Rl e G ov ρ' tmps' st' a' W' → Q ex.to a' W') → c.wp P Q a W
def LoopOk (P : Program) (G ov : Nat) (plan : Plan) (tab : Tab) (e : Env) (n : Nat) : Prop :=
  ∀ pl ro c tmps st Z, planned P pl.sch c = true → LtAll P G ov e pl.lt c → ov ≤ ro → (xCode P G plan tab n pl ro (.loop c) tmps st).holds e Z → ∀ ρ a W Q, Rl e G ov ρ tmps st a W →
    (∀ ex tmps' st', Z (ex, tmps', st') → ∀ ρ' a' W', Post e ov ro ρ W ρ' st'.h W' → Rl e G ov ρ' tmps' st' a' W' → Q ex.to a' W') → Code.rounds P c Q n a W
def OpsOk (P : Program) (G ov : Nat) (plan : Plan) (tab : Tab) (e : Env) (n : Nat) : Prop :=
  ∀ ro ops l tmps st Z, ov ≤ ro → (xOps P G plan tab n ro ops l tmps st).holds e Z → ∀ ρ a W Q, Rl e G ov ρ tmps st a W →
    (∀ tmps' st', Z (tmps', st') → ∀ ρ' a' W', Post e ov ro ρ W ρ' st'.h W' → Rl e G ov ρ' tmps' st' a' W' → Q .normal a' W') → wpList P ops Q l a W
def DrawOk (P : Program) (G ov : Nat) (plan : Plan) (tab : Tab) (e : Env) (n : Nat) : Prop :=
  ∀ ro h0 ops s tmps st Z, ov ≤ ro → (xDraw P G plan tab n ro h0 ops s tmps st).holds e Z → ∀ ds m listed dirty, Region.noSelect ops = true → ∀ ρ0 W0 ρ a W (Q : Exit → Act → World → Prop), (∀ c a w, ¬ Q (.panic c) a w) → Rl e G ov ρ tmps st a W →
    Pre ρ0 ρ → HRel e ov ρ0 h0 W0 → (dirty = false → Stay ρ0 h0 W0 W) →
    (∀ tmps' st', Z (tmps', st') → ∀ ρ' a' W', Post e ov ro ρ W ρ' st'.h W' → Rl e G ov ρ' tmps' st' a' W' → Q .normal a' W') →
    (s.ok P ops ds m listed dirty = true → wpAnyLast P .any ops Q (Stay ρ0 h0 W0) ds m listed a W) ∧
    (s.tails P ops ds m listed dirty = true → AllReadyL P .any ops Q (Stay ρ0 h0 W0) ds m listed a W s.heads)
def CallOk (P : Program) (G ov : Nat) (plan : Plan) (tab : Tab) (e : Env) (n : Nat) : Prop :=
  ∀ ro f args st Z, ov ≤ ro → (xCall P G plan tab n ro f args st).holds e Z → ∀ ρ vs W (R : Ending → World → Prop), SValsD e ρ args vs → AsmOk e st.as → HRel e ov ρ st.h W → Glob G ρ →
    (∀ v st', Z (v, st') → ∀ ρ' V W', Post e ov ro ρ W ρ' st'.h W' → v.D e ρ' V → AsmOk e st'.as → R (.returned V) W') → Calls P f vs.toArray W R

include ok in
theorem ops_step {n : Nat} (hO : OpsOk P G ov plan tab e n) (hC : CallOk P G ov plan tab e n) : OpsOk P G ov plan tab e (n + 1) := by
  intro ro ops l tmps st Z hov h ρ a W Q hR hQ
  cases l with
  | nil =>
    simp only [xOps, WT.holds] at h
    exact hQ _ _ h ρ a W (Post.refl hR.hr) hR
  | cons o r =>
    simp only [xOps, opsF, withTm_eq, withSt_eq, withP_eq] at h
    obtain ⟨⟨g, as1⟩, h1, h2⟩ := Tree.holds_bindW h
    have hg := guardOf_ok ok hR.tm hR.as h1
    unfold wpList
    cases g with
    | false =>
      simp only [cond_false] at h2
      rw [if_neg (by rw [hg.1]; simp)]
      exact hO _ _ _ _ _ _ hov h2 ρ _ W Q (Rl.put hR.tm hR.df hg.2 hR.hr hR.gl o.dst undef_D) hQ
    | true =>
      simp only [cond_true, runOp, withSt_eq, withP_eq, withL_eq, withV_eq] at h2
      rw [if_pos hg.1]
      left
      unfold Oper.wp
      split at h2
      · rename_i f args hs
        obtain ⟨vs, hvs, hrun⟩ := scall_ok hR.gl hR.tm hs
        rw [hrun W, Oper.upon_enter]
        refine hC _ _ _ _ _ hov (WT.holds_bind h2) ρ vs W _ hvs hg.2 hR.hr hR.gl fun v st1 h4 ρ' V W' hp hV has => ?_
        refine hO _ _ _ _ _ _ hov h4 ρ' _ W' Q (Rl.put (hR.tm.mono hp.pre) hR.df has hp.rel (hR.gl.mono hp.pre) o.dst hV) fun tmps' st' hz ρ'' a'' W'' hp2 hR2 => ?_
        exact hQ _ _ hz ρ'' a'' W'' (hp.trans hp2) hR2
      · split at h2
        · rename_i q1 q2 hroom
          obtain ⟨q, hq, V, ρ', W', hrun, hV, hp⟩ := sroom_ok ok hov hR.gl hR.tm hg.2 hroom hR.hr
          rcases hq with rfl | rfl
          · have h4 := h2.1
            have has := hg.2
            rw [hrun, Oper.upon_value]
            refine hO _ _ _ _ _ _ hov h4 ρ' _ W' Q (Rl.put (hR.tm.mono hp.pre) hR.df has hp.rel (hR.gl.mono hp.pre) o.dst hV) fun tmps' st' hz ρ'' a'' W'' hp2 hR2 => ?_
            exact hQ _ _ hz ρ'' a'' W'' (hp.trans hp2) hR2
          · have h4 := h2.2
            have has := hg.2
            rw [hrun, Oper.upon_value]
            refine hO _ _ _ _ _ _ hov h4 ρ' _ W' Q (Rl.put (hR.tm.mono hp.pre) hR.df has hp.rel (hR.gl.mono hp.pre) o.dst hV) fun tmps' st' hz ρ'' a'' W'' hp2 hR2 => ?_
            exact hQ _ _ hz ρ'' a'' W'' (hp.trans hp2) hR2
        · obtain ⟨⟨v, st1⟩, h3, h4⟩ := Tree.holds_bindW h2
          obtain ⟨ρ', W', has, hp, hres⟩ := sstep_ok ok hov hR.gl hR.tm (st := ⟨st.h, as1⟩) hg.2 h3 hR.hr
          rcases hres with ⟨V, hrun, hV⟩ | ⟨hrun, hv⟩
          · rw [hrun, Oper.upon_value]
            refine hO _ _ _ _ _ _ hov h4 ρ' _ W' Q (Rl.put (hR.tm.mono hp.pre) hR.df has hp.rel (hR.gl.mono hp.pre) o.dst hV) fun tmps' st' hz ρ'' a'' W'' hp2 hR2 => ?_
            exact hQ _ _ hz ρ'' a'' W'' (hp.trans hp2) hR2
          · rw [hrun, Oper.upon_skip]
            subst hv
            refine hO _ _ _ _ _ _ hov h4 ρ' _ W' Q (Rl.put (hR.tm.mono hp.pre) hR.df has hp.rel (hR.gl.mono hp.pre) o.dst undef_D) fun tmps' st' hz ρ'' a'' W'' hp2 hR2 => ?_
            exact hQ _ _ hz ρ'' a'' W'' (hp.trans hp2) hR2

theorem lastFast_ok {ops : Array Oper} {listed : Array Bool} {ds : List Nat} {i : Nat} (h : lastFast ops listed ds i = true) : Region.lastB .any ops listed ds i = true := by
  simp only [lastFast, Region.lastB, List.all_eq_true] at h ⊢
  intro d hd
  have := h d hd
  simp only [Bool.or_eq_true] at this ⊢
  rcases this with (this | this) | this
  · exact .inl this
  · right
    cases ho : ops[d]? with
    | none => rw [ho] at this; simp at this
    | some o =>
      rw [ho] at this
      simp only [Option.map_some, Option.getD_some] at this
      have hlt : d < ops.size := (Array.getElem?_eq_some_iff.1 ho).1
      obtain ⟨k, hk⟩ : ∃ k, ops.size = k + 1 := ⟨ops.size - 1, by omega⟩
      rw [hk]
      simp only [Region.reachB, ho]
      refine Array.any_eq_true'.2 ?_
      obtain ⟨x, hx, hb⟩ := Array.any_eq_true'.1 this
      simp only [Bool.and_eq_true] at hb
      exact ⟨x, hx, by simp only [Bool.and_eq_true, Bool.or_eq_true]; exact ⟨hb.1, .inl hb.2⟩⟩
  · exact .inr this

theorem AllReadyL.append {ops : Array Oper} {Q : Exit → Act → World → Prop} {S : World → Prop} {ds : List Nat} {m : Nat} {listed : Array Bool} {a : Act} {w : World} {rs rs' : List Nat}
    (h : AllReadyL P .any ops Q S ds m listed a w rs) (h' : AllReadyL P .any ops Q S ds m listed a w rs') : AllReadyL P .any ops Q S ds m listed a w (rs ++ rs') := fun i hi => by
  rcases List.mem_append.1 hi with hi | hi
  · exact h i hi
  · exact h' i hi

theorem AllReadyL.one {ops : Array Oper} {Q : Exit → Act → World → Prop} {S : World → Prop} {ds : List Nat} {m : Nat} {listed : Array Bool} {a : Act} {w : World} {i : Nat} {o : Oper} (ho : ops[i]? = some o)
    (h : ∀ K' : Act → World → Prop, Shut (∀ a' w', (S w → S w') → wpAnyLast P .any ops Q S ds m (listed.setIfInBounds i true) a' w' → K' a' w') → if Region.wanted o (yielded ops a.tmps) = true then Oper.wp P o a w K' Q else K' (a.put o.dst undef) w) :
    AllReadyL P .any ops Q S ds m listed a w [i] := fun j hj => by
  rcases List.mem_singleton.1 hj with rfl
  exact wpOp_step ho (fun K' hK => h K' (fun a' w' hS hW => hK a' w' ⟨fun _ => hS, hW⟩))

include ok in
theorem draw_step {n : Nat} (hD : DrawOk P G ov plan tab e n) (hC : CallOk P G ov plan tab e n) : DrawOk P G ov plan tab e (n + 1) := by
  intro ro h0 ops s tmps st Z hov h ds m listed dirty hns ρ0 W0 ρ a W Q hQp hR hpre hr0 hS hQ
  have hQ' : ∀ (o : Oper) (v : Value) c a w, Q (.panic c) (a.put o.dst v) w → Q (.panic c) a w := fun o v c a w hh => absurd hh (hQp _ _ _)
  cases s with
  | done =>
    simp only [xDraw, drawF, WT.holds] at h
    refine ⟨fun hok => ?_, fun ht => by simp [Sch.tails] at ht⟩
    simp only [Sch.ok, List.isEmpty_iff] at hok
    exact wpAnyLast_done hok (hQ _ _ h ρ a W (Post.refl hR.hr) hR) m
  | alt x y =>
    simp only [xDraw, drawF, WT.holds] at h
    have hx := hD _ _ _ _ _ _ _ hov h.1
    have hy := hD _ _ _ _ _ _ _ hov h.2
    have ht : (Sch.alt x y).tails P ops ds m listed dirty = true → AllReadyL P .any ops Q (Stay ρ0 h0 W0) ds m listed a W (Sch.alt x y).heads := fun ht => by
      simp only [Sch.tails, Bool.and_eq_true] at ht
      exact AllReadyL.append ((hx ds m listed dirty hns ρ0 W0 ρ a W Q hQp hR hpre hr0 hS hQ).2 ht.1) ((hy ds m listed dirty hns ρ0 W0 ρ a W Q hQp hR hpre hr0 hS hQ).2 ht.2)
    refine ⟨fun hok => ?_, ht⟩
    cases m with
    | zero => simp [Sch.ok] at hok
    | succ m =>
      simp only [Sch.ok, Bool.and_eq_true, decide_eq_true_eq, Bool.not_eq_true', List.isEmpty_eq_false_iff] at hok
      obtain ⟨⟨⟨h1, h2⟩, h3⟩, h4⟩ := hok
      refine wpAnyLast_ready h1 (by rw [← h1]; exact h4) ?_
      exact AllReadyL.append ((hx ds m listed dirty hns ρ0 W0 ρ a W Q hQp hR hpre hr0 hS hQ).2 h2) ((hy ds m listed dirty hns ρ0 W0 ρ a W Q hQp hR hpre hr0 hS hQ).2 h3)
  | pure i r =>
    simp only [xDraw, drawF, withOp, drawPure, withTm_eq, withSt_eq, withP_eq] at h
    refine ⟨fun hok => ?_, fun ht => by simp [Sch.tails] at ht⟩
    cases m with
    | zero => simp [Sch.ok] at hok
    | succ m =>
      simp only [Sch.ok, Bool.and_eq_true] at hok
      obtain ⟨⟨⟨h1, h2⟩, h3⟩, h4⟩ := hok
      split at h
      · rename_i o ho
        obtain ⟨⟨g, as1⟩, hg1, hg2⟩ := Tree.holds_bindW h
        simp only at hg2
        have hg := guardOf_ok ok hR.tm hR.as hg1
        cases g with
        | false =>
          simp only [cond_false] at hg2
          refine wpAnyLast_any ho (Region.noSelect_spec hns) (hQ' o undef) m listed a W (Region.free_spec ho h2) (by simpa using h1) (.inr ⟨hg.1, rfl⟩) ?_
          exact (hD _ _ _ _ _ _ _ hov hg2 ds m _ dirty hns ρ0 W0 ρ _ W Q hQp (Rl.put hR.tm hR.df hg.2 hR.hr hR.gl o.dst undef_D) hpre hr0 hS hQ).1 h4
        | true =>
          simp only [cond_true] at hg2
          obtain ⟨⟨x, as2⟩, h5, h6⟩ := Tree.holds_bindW hg2
          obtain ⟨has, V, hV, hrun⟩ := spure_ok ok hR.gl hR.tm hg.2 h5
          refine wpAnyLast_any ho (Region.noSelect_spec hns) (hQ' o V) m listed a W (Region.free_spec ho h2) (by simpa using h1) (.inl ⟨hg.1, hrun⟩) ?_
          exact (hD _ _ _ _ _ _ _ hov h6 ds m _ dirty hns ρ0 W0 ρ _ W Q hQp (Rl.put hR.tm hR.df has hR.hr hR.gl o.dst hV) hpre hr0 hS hQ).1 h4
      · exact h.elim
  | load i r =>
    simp only [xDraw, drawF, withOp, drawLoad, withTm_eq, withSt_eq, withP_eq] at h
    refine ⟨fun hok => ?_, fun ht => by simp [Sch.tails] at ht⟩
    cases m with
    | zero => simp [Sch.ok] at hok
    | succ m =>
      simp only [Sch.ok, Bool.and_eq_true, Bool.not_eq_true'] at hok
      obtain ⟨⟨⟨⟨⟨⟨h1, h2⟩, h3⟩, hd⟩, hcl⟩, hla⟩, h4⟩ := hok
      have hSW := hS hd
      split at h
      · rename_i o ho
        obtain ⟨⟨g, as1⟩, hg1, hg2⟩ := Tree.holds_bindW h
        simp only at hg2
        have hg := guardOf_ok ok hR.tm hR.as hg1
        cases g with
        | false =>
          simp only [cond_false] at hg2
          refine wpAnyLast_any ho (Region.noSelect_spec hns) (hQ' o undef) m listed a W (Region.free_spec ho h2) (by simpa using h1) (.inr ⟨hg.1, rfl⟩) ?_
          exact (hD _ _ _ _ _ _ _ hov hg2 ds m _ dirty hns ρ0 W0 ρ _ W Q hQp (Rl.put hR.tm hR.df hg.2 hR.hr hR.gl o.dst undef_D) hpre hr0 hS hQ).1 h4
        | true =>
          simp only [cond_true] at hg2
          split at hg2
          · rename_i x hx
            obtain ⟨V, hV, hrun⟩ := sload_run (ov := ov) (W := W0) ok hR.gl hR.tm hg.2 hx (fun i l t hi => by
              obtain ⟨b, o, r, vs, q1, q2, q3⟩ := hr0.blk i l t hi
              exact ⟨b, o, r, vs, hpre.get q1, q2, q3.mono hpre⟩) rfl
            refine wpAnyLast_take ho hns h2 h1 hcl (lastFast_ok hla) (hQ' o V) (.inl ⟨hg.1, fun w hw => hrun w (Stay.mono hr0.len hpre hw)⟩) hSW ?_
            exact (hD _ _ _ _ _ _ _ hov hg2 ds m _ dirty hns ρ0 W0 ρ _ W Q hQp (Rl.put (x := .v x) hR.tm hR.df hg.2 hR.hr hR.gl o.dst hV) hpre hr0 hS hQ).1 h4
          · exact hg2.elim
      · exact h.elim
  | last i r =>
    simp only [xDraw, drawF, withOp, drawStep, withTm_eq, withSt_eq, withP_eq] at h
    have ht : ∀ m, (Sch.last i r).tails P ops ds m listed dirty = true → AllReadyL P .any ops Q (Stay ρ0 h0 W0) ds m listed a W [i] := fun m ht => by
      simp only [Sch.tails, Bool.and_eq_true] at ht
      obtain ⟨hin, h4⟩ := ht
      split at h
      · rename_i o ho
        obtain ⟨⟨g, as1⟩, hg1, hg2⟩ := Tree.holds_bindW h
        simp only at hg2
        have hg := guardOf_ok ok hR.tm hR.as hg1
        refine AllReadyL.cons_last ho (by simpa using hin) (fun K hK => ?_) AllReadyL.nil
        have hK := Shut.out hK
        cases g with
        | false =>
          simp only [cond_false] at hg2
          rw [if_neg (by rw [hg.1]; simp)]
          refine hK _ _ ?_
          exact (hD _ _ _ _ _ _ _ hov hg2 ds m _ true hns ρ0 W0 ρ _ W Q hQp (Rl.put hR.tm hR.df hg.2 hR.hr hR.gl o.dst undef_D) hpre hr0 (fun hh => by cases hh) hQ).1 h4
        | true =>
          simp only [cond_true, runOp, withSt_eq, withP_eq, withL_eq, withV_eq] at hg2
          rw [if_pos hg.1]
          unfold Oper.wp
          split at hg2
          · rename_i f args hs
            obtain ⟨vs, hvs, hrun⟩ := scall_ok hR.gl hR.tm hs
            rw [hrun W, Oper.upon_enter]
            refine hC _ _ _ _ _ hov (WT.holds_bind hg2) ρ vs W _ hvs hg.2 hR.hr hR.gl fun v st1 h6 ρ' V W' hp hV has => ?_
            refine hK _ _ ?_
            exact (hD _ _ _ _ _ _ _ hov h6 ds m _ true hns ρ0 W0 ρ' _ W' Q hQp (Rl.put (hR.tm.mono hp.pre) hR.df has hp.rel (hR.gl.mono hp.pre) o.dst hV) (hpre.trans hp.pre) hr0 (fun hh => by cases hh)
              (fun tmps' st' hz ρ'' a'' W'' hp2 hR2 => hQ _ _ hz ρ'' a'' W'' (hp.trans hp2) hR2)).1 h4
          · split at hg2
            · rename_i q1 q2 hroom
              obtain ⟨q, hq, V, ρ', W', hrun, hV, hp⟩ := sroom_ok ok hov hR.gl hR.tm hg.2 hroom hR.hr
              rcases hq with rfl | rfl
              · have h6 := hg2.1
                have has := hg.2
                rw [hrun, Oper.upon_value]
                refine hK _ _ ?_
                exact (hD _ _ _ _ _ _ _ hov h6 ds m _ true hns ρ0 W0 ρ' _ W' Q hQp (Rl.put (hR.tm.mono hp.pre) hR.df has hp.rel (hR.gl.mono hp.pre) o.dst hV) (hpre.trans hp.pre) hr0 (fun hh => by cases hh)
                  (fun tmps' st' hz ρ'' a'' W'' hp2 hR2 => hQ _ _ hz ρ'' a'' W'' (hp.trans hp2) hR2)).1 h4
              · have h6 := hg2.2
                have has := hg.2
                rw [hrun, Oper.upon_value]
                refine hK _ _ ?_
                exact (hD _ _ _ _ _ _ _ hov h6 ds m _ true hns ρ0 W0 ρ' _ W' Q hQp (Rl.put (hR.tm.mono hp.pre) hR.df has hp.rel (hR.gl.mono hp.pre) o.dst hV) (hpre.trans hp.pre) hr0 (fun hh => by cases hh)
                  (fun tmps' st' hz ρ'' a'' W'' hp2 hR2 => hQ _ _ hz ρ'' a'' W'' (hp.trans hp2) hR2)).1 h4
            · obtain ⟨⟨v, st1⟩, h5, h6⟩ := Tree.holds_bindW hg2
              obtain ⟨ρ', W', has, hp, hres⟩ := sstep_ok ok hov hR.gl hR.tm (st := ⟨st.h, as1⟩) hg.2 h5 hR.hr
              rcases hres with ⟨V, hrun, hV⟩ | ⟨hrun, hv⟩
              · rw [hrun, Oper.upon_value]
                refine hK _ _ ?_
                exact (hD _ _ _ _ _ _ _ hov h6 ds m _ true hns ρ0 W0 ρ' _ W' Q hQp (Rl.put (hR.tm.mono hp.pre) hR.df has hp.rel (hR.gl.mono hp.pre) o.dst hV) (hpre.trans hp.pre) hr0 (fun hh => by cases hh)
                  (fun tmps' st' hz ρ'' a'' W'' hp2 hR2 => hQ _ _ hz ρ'' a'' W'' (hp.trans hp2) hR2)).1 h4
              · rw [hrun, Oper.upon_skip]
                subst hv
                refine hK _ _ ?_
                exact (hD _ _ _ _ _ _ _ hov h6 ds m _ true hns ρ0 W0 ρ' _ W' Q hQp (Rl.put (hR.tm.mono hp.pre) hR.df has hp.rel (hR.gl.mono hp.pre) o.dst undef_D) (hpre.trans hp.pre) hr0 (fun hh => by cases hh)
                  (fun tmps' st' hz ρ'' a'' W'' hp2 hR2 => hQ _ _ hz ρ'' a'' W'' (hp.trans hp2) hR2)).1 h4
      · exact h.elim
    refine ⟨fun hok => ?_, ht m⟩
    cases m with
    | zero => simp [Sch.ok] at hok
    | succ m =>
      simp only [Sch.ok, Bool.and_eq_true, decide_eq_true_eq] at hok
      refine wpAnyLast_ready hok.1.1 (by simp) (ht m ?_)
      simp only [Sch.tails, Bool.and_eq_true]
      exact ⟨hok.1.2, hok.2⟩
  | step i r =>
    simp only [xDraw, drawF, withOp, drawStep, withTm_eq, withSt_eq, withP_eq] at h
    have ht : ∀ m, (Sch.step i r).tails P ops ds m listed dirty = true → AllReadyL P .any ops Q (Stay ρ0 h0 W0) ds m listed a W [i] := fun m ht => by
      simp only [Sch.tails, Bool.and_eq_true, Bool.not_eq_true'] at ht
      obtain ⟨hin, h4⟩ := ht
      split at h
      · rename_i o ho
        obtain ⟨⟨g, as1⟩, hg1, hg2⟩ := Tree.holds_bindW h
        simp only at hg2
        have hg := guardOf_ok ok hR.tm hR.as hg1
        refine AllReadyL.one ho (fun K hK => ?_)
        have hK := Shut.out hK
        cases g with
        | false =>
          simp only [cond_false] at hg2
          rw [if_neg (by rw [hg.1]; simp)]
          refine hK _ _ id ?_
          exact (hD _ _ _ _ _ _ _ hov hg2 ds m _ dirty hns ρ0 W0 ρ _ W Q hQp (Rl.put hR.tm hR.df hg.2 hR.hr hR.gl o.dst undef_D) hpre hr0 hS hQ).1 h4
        | true =>
          simp only [cond_true, runOp, withSt_eq, withP_eq, withL_eq, withV_eq] at hg2
          rw [if_pos hg.1]
          unfold Oper.wp
          split at hg2
          · rename_i f args hs
            obtain ⟨vs, hvs, hrun⟩ := scall_ok hR.gl hR.tm hs
            rw [hrun W, Oper.upon_enter]
            refine hC _ _ _ _ _ (Nat.le_trans hov (Nat.le_max_left _ _)) (WT.holds_bind hg2) ρ vs W _ hvs hg.2 hR.hr hR.gl fun v st1 h6 ρ' V W' hp hV has => ?_
            have hS2 := fun hSW : Stay ρ0 h0 W0 W => Stay.keep hr0 (Nat.le_max_right ro st.h.length) hR.hr hp hSW
            have hp := Post.lower (Nat.le_max_left ro st.h.length) hp
            refine hK _ _ hS2 ?_
            exact (hD _ _ _ _ _ _ _ hov h6 ds m _ dirty hns ρ0 W0 ρ' _ W' Q hQp (Rl.put (hR.tm.mono hp.pre) hR.df has hp.rel (hR.gl.mono hp.pre) o.dst hV) (hpre.trans hp.pre) hr0 (fun hd => hS2 (hS hd))
              (fun tmps' st' hz ρ'' a'' W'' hp2 hR2 => hQ _ _ hz ρ'' a'' W'' (hp.trans hp2) hR2)).1 h4
          · split at hg2
            · rename_i q1 q2 hroom
              obtain ⟨q, hq, V, ρ', W', hrun, hV, hp⟩ := sroom_ok ok (Nat.le_trans hov (Nat.le_max_left ro st.h.length)) hR.gl hR.tm hg.2 hroom hR.hr
              have hS2 := fun hSW : Stay ρ0 h0 W0 W => Stay.keep hr0 (Nat.le_max_right ro st.h.length) hR.hr hp hSW
              have hp := Post.lower (Nat.le_max_left ro st.h.length) hp
              rcases hq with rfl | rfl
              · have h6 := hg2.1
                have has := hg.2
                rw [hrun, Oper.upon_value]
                refine hK _ _ hS2 ?_
                exact (hD _ _ _ _ _ _ _ hov h6 ds m _ dirty hns ρ0 W0 ρ' _ W' Q hQp (Rl.put (hR.tm.mono hp.pre) hR.df has hp.rel (hR.gl.mono hp.pre) o.dst hV) (hpre.trans hp.pre) hr0 (fun hd => hS2 (hS hd))
                  (fun tmps' st' hz ρ'' a'' W'' hp2 hR2 => hQ _ _ hz ρ'' a'' W'' (hp.trans hp2) hR2)).1 h4
              · have h6 := hg2.2
                have has := hg.2
                rw [hrun, Oper.upon_value]
                refine hK _ _ hS2 ?_
                exact (hD _ _ _ _ _ _ _ hov h6 ds m _ dirty hns ρ0 W0 ρ' _ W' Q hQp (Rl.put (hR.tm.mono hp.pre) hR.df has hp.rel (hR.gl.mono hp.pre) o.dst hV) (hpre.trans hp.pre) hr0 (fun hd => hS2 (hS hd))
                  (fun tmps' st' hz ρ'' a'' W'' hp2 hR2 => hQ _ _ hz ρ'' a'' W'' (hp.trans hp2) hR2)).1 h4
            · obtain ⟨⟨v, st1⟩, h5, h6⟩ := Tree.holds_bindW hg2
              obtain ⟨ρ', W', has, hp, hres⟩ := sstep_ok ok (Nat.le_trans hov (Nat.le_max_left ro st.h.length)) hR.gl hR.tm (st := ⟨st.h, as1⟩) hg.2 h5 hR.hr
              have hS2 := fun hSW : Stay ρ0 h0 W0 W => Stay.keep hr0 (Nat.le_max_right ro st.h.length) hR.hr hp hSW
              have hp := Post.lower (Nat.le_max_left ro st.h.length) hp
              rcases hres with ⟨V, hrun, hV⟩ | ⟨hrun, hv⟩
              · rw [hrun, Oper.upon_value]
                refine hK _ _ hS2 ?_
                exact (hD _ _ _ _ _ _ _ hov h6 ds m _ dirty hns ρ0 W0 ρ' _ W' Q hQp (Rl.put (hR.tm.mono hp.pre) hR.df has hp.rel (hR.gl.mono hp.pre) o.dst hV) (hpre.trans hp.pre) hr0 (fun hd => hS2 (hS hd))
                  (fun tmps' st' hz ρ'' a'' W'' hp2 hR2 => hQ _ _ hz ρ'' a'' W'' (hp.trans hp2) hR2)).1 h4
              · rw [hrun, Oper.upon_skip]
                subst hv
                refine hK _ _ hS2 ?_
                exact (hD _ _ _ _ _ _ _ hov h6 ds m _ dirty hns ρ0 W0 ρ' _ W' Q hQp (Rl.put (hR.tm.mono hp.pre) hR.df has hp.rel (hR.gl.mono hp.pre) o.dst undef_D) (hpre.trans hp.pre) hr0 (fun hd => hS2 (hS hd))
                  (fun tmps' st' hz ρ'' a'' W'' hp2 hR2 => hQ _ _ hz ρ'' a'' W'' (hp.trans hp2) hR2)).1 h4
      · exact h.elim
    refine ⟨fun hok => ?_, ht m⟩
    cases m with
    | zero => simp [Sch.ok] at hok
    | succ m =>
      simp only [Sch.ok, Bool.and_eq_true, decide_eq_true_eq] at hok
      refine wpAnyLast_ready hok.1.1 (by simp) (ht m ?_)
      simp only [Sch.tails, Bool.and_eq_true]
      exact ⟨hok.1.2, hok.2⟩

theorem loop_step {n : Nat} (hX : CodeOk P G ov plan tab e n) (hL : LoopOk P G ov plan tab e n) : LoopOk P G ov plan tab e (n + 1) := by
  intro pl ro c tmps st Z hpl hla hov h ρ a W Q hR hQ
  simp only [xCode, codeF] at h
  rw [rounds_succ]
  refine hX _ _ _ _ _ _ hpl hla hov (WT.holds_bind h) ρ a W _ hR fun ex1 tmps1 st1 h2 ρ' a' W' hp hR' => ?_
  cases ex1 with
  | normal => exact hL _ _ _ _ _ _ hpl hla hov h2 ρ' a' W' Q hR' fun ex tmps' st' hz ρ'' a'' W'' hp2 hR2 => hQ _ _ _ hz ρ'' a'' W'' (hp.trans hp2) hR2
  | exit id => exact hQ _ _ _ h2 ρ' a' W' hp hR'
  | ret => exact hQ _ _ _ h2 ρ' a' W' hp hR'

include ok hmix in
theorem code_step {n : Nat} (hX : CodeOk P G ov plan tab e n) (hL : LoopOk P G ov plan tab e (n + 1)) (hO : OpsOk P G ov plan tab e n) (hD : DrawOk P G ov plan tab e n) : CodeOk P G ov plan tab e (n + 1) := by
  intro pl ro c tmps st Z hpl hla hov h ρ a W Q hR hQ
  cases c
  case loop b => exact wp_loop_rounds (n + 1) (hL _ _ b _ _ _ (by simpa only [planned] using hpl) hla hov h ρ a W Q hR hQ)
  all_goals simp only [xCode, codeF] at h
  case skip => exact wp_skip (hQ _ _ _ h ρ a W (Post.refl hR.hr) hR)
  case label l => exact wp_label (hQ _ _ _ h ρ a W (Post.refl hR.hr) hR)
  case scope b => exact wp_scope_straight (hX _ _ b _ _ _ (by simpa only [planned] using hpl) hla hov h ρ a W _ hR fun ex tmps1 st1 h2 ρ' a' W' hp hR' => by
    cases ex with
    | normal => exact hQ _ _ _ h2 ρ' a' W' hp hR'
    | exit id => exact hQ _ _ _ h2 ρ' a' W' hp hR'
    | ret => exact hQ _ _ _ h2 ρ' a' W' hp hR')
  case region id ops draw =>
    cases draw with
    | true =>
      simp only [regionF, cond_true] at h
      split at h
      · rename_i s hs
        simp only [planned, hs, Bool.and_eq_true] at hpl
        obtain ⟨hns, hok⟩ := hpl
        let Q0 : Exit → Act → World → Prop := fun ex a w => (∀ c, ex ≠ .panic c) ∧ Q ex a w
        refine wp_mono (Q := Q0) (wp_region_last hmix (S := Stay ρ st.h { W with drawn := W.drawn + 1 }) (ds := dsOf P ops) ?_) (fun _ _ _ hh => hh.2)
        have hr' := hR.hr.drew (W.drawn + 1)
        refine (hD _ _ _ _ _ _ _ hov (WT.holds_bind h) _ _ _ false hns ρ _ ρ a _ Q0 (fun c a w hh => hh.1 c rfl) ⟨hR.tm, hR.df, hR.as, hr', hR.gl⟩ (Pre.refl _) hr' (fun _ => Stay.refl _ _ _) fun tmps' st' hz ρ' a' W' hp hR' => ?_).1 hok
        exact ⟨(fun c hh => by cases hh), hQ .normal _ _ hz ρ' a' W' ((Post.drew hR.hr _).trans hp) hR'⟩
      · exact h.elim
    | false =>
      simp only [regionF, cond_false] at h
      exact wp_region_list (hO _ _ _ _ _ _ hov (WT.holds_bind h) ρ a W Q hR fun tmps' st' hz ρ' a' W' hp hR' => hQ .normal _ _ hz ρ' a' W' hp hR')
  case seq x y =>
    simp only [planned, Bool.and_eq_true] at hpl
    refine wp_seq (hX _ _ _ _ _ _ hpl.1 hla.1 hov (WT.holds_bind h) ρ a W _ hR fun ex1 tmps1 st1 h2 ρ' a' W' hp hR' => ?_)
    cases ex1 with
    | normal => exact hX _ _ _ _ _ _ hpl.2 hla.2 hov h2 ρ' a' W' Q hR' fun ex tmps' st' hz ρ'' a'' W'' hp2 hR2 => hQ _ _ _ hz ρ'' a'' W'' (hp.trans hp2) hR2
    | exit id => exact hQ _ _ _ h2 ρ' a' W' hp hR'
    | ret => exact hQ _ _ _ h2 ρ' a' W' hp hR'
  case cond c x y =>
    simp only [planned, Bool.and_eq_true] at hpl
    simp only [condF] at h
    split at h
    · rename_i b hb
      obtain ⟨⟨r, as1⟩, h1, h2⟩ := Tree.holds_bindW h
      simp only [withP_eq] at h2
      have hf := fork_ok ok hR.as h1
      have hc := evalCell hR.gl hR.tm hb
      simp only [Cell.D, hf.1] at hc
      refine wp_cond hc ?_
      cases r with
      | true =>
        simp only [cond_true] at h2; simp only [if_true]
        exact hX _ _ _ _ _ _ hpl.1 hla.1 hov h2 ρ a W Q ⟨hR.tm, hR.df, hf.2, hR.hr, hR.gl⟩ hQ
      | false =>
        simp only [cond_false] at h2; simp only [Bool.false_eq_true, if_false]
        exact hX _ _ _ _ _ _ hpl.2 hla.2 hov h2 ρ a W Q ⟨hR.tm, hR.df, hf.2, hR.hr, hR.gl⟩ hQ
    · exact h.elim
  case block id b =>
    simp only [planned] at hpl
    split at h
    · rename_i L hL
      split at h
      · rename_i t ht
        exact hla.1 L hL ro tmps st t Z hov ht h ρ a W Q hR hQ
      · exact h.elim
    refine wp_block (hX _ _ _ _ _ _ hpl hla.2 hov (WT.holds_bind h) ρ a W _ hR fun ex1 tmps1 st1 h2 ρ' a' W' hp hR' => ?_)
    cases ex1 with
    | normal => exact hQ _ _ _ h2 ρ' a' W' hp hR'
    | exit id' =>
      simp only [blockF, withP_eq] at h2
      cases hq : Nat.beq id' id with
      | true =>
        have hid := Nat.eq_of_beq_eq_true hq
        rw [hq] at h2
        simp only [cond_true] at h2
        simp only [XE.to, Exit.inBlock, if_pos hid]
        exact hQ .normal _ _ h2 ρ' a' W' hp hR'
      | false =>
        have hid : ¬ id' = id := fun hh => by rw [hh] at hq; simp at hq
        rw [hq] at h2
        simp only [cond_false] at h2
        simp only [XE.to, Exit.inBlock, if_neg hid]
        exact hQ (.exit id') _ _ h2 ρ' a' W' hp hR'
    | ret => exact hQ _ _ _ h2 ρ' a' W' hp hR'
  case exit id => exact wp_exit (hQ (.exit id) _ _ h ρ a W (Post.refl hR.hr) hR)
  case ret => exact wp_ret (hQ .ret _ _ h ρ a W (Post.refl hR.hr) hR)
  all_goals (exfalso; exact h)

/-- What a call leaves, its own blocks forgotten where nobody names them. -/
theorem cutOut_ok {ro : Nat} {ρ ρ' : Rho} {W W' : World} {h0 : SHeap} {v : SVal} {st1 : St} {V : Value} (h0len : h0.length = ρ.length) (hp : Post e ov ro ρ W ρ' st1.h W') (hV : v.D e ρ' V) (has : AsmOk e st1.as) (hfl : e.fx.length ≤ ρ.length) :
    ∃ ρ'', Post e ov ro ρ W ρ'' (cutOut h0.length (v, st1)).2.h W' ∧ (cutOut h0.length (v, st1)).1.D e ρ'' V ∧ AsmOk e (cutOut h0.length (v, st1)).2.as := by
  simp only [cutOut, withP_eq, withSt_eq, withL_eq]
  cases hc : (v.under h0.length && (st1.h.take h0.length).all (blkUnder h0.length)) with
  | true =>
    simp only [Bool.and_eq_true] at hc
    exact ⟨ρ, Post.cut hp h0len.symm hc.2 hfl, SVal.low hp.pre h0len.symm hV hc.1, has⟩
  | false => exact ⟨ρ', hp, hV, has⟩

include ok hplan hlt htab in
theorem call_step {n : Nat} (hX : CodeOk P G ov plan tab e n) : CallOk P G ov plan tab e (n + 1) := by
  intro ro f args st Z hov h ρ vs W R hvs has hr hg hRR
  simp only [xCall, callF] at h
  split at h
  · rename_i r hr2
    exact htab ro f args st r Z hr2 hov h ρ vs W R hvs has hr hg hRR
  · simp only [bodyF] at h
    split at h
    · rename_i fn hfn
      split at h
      · rename_i c hc
        have h := WT.holds_bind (WT.holds_merge h)
        refine calls_of_wp hfn hc ?_
        have hlen := hvs.length
        have ht : TmD e ρ ⟨args.length + (fn.ntmps - args.length), tmArgs 0 args, false⟩ (vs.toArray ++ Array.replicate (fn.ntmps - vs.toArray.size) undef).toList := by
          rw [Array.toList_append, Array.toList_replicate]
          rw [hlen, List.size_toArray]
          have := TmD.init hvs (fn.ntmps - vs.length)
          rwa [hlen] at this
        refine hX _ _ _ _ _ _ (planB_get hplan (by simpa using hfn) hc) (hlt f fn c hfn hc) hov h ρ _ W _ ⟨ht, rfl, has, hr, hg⟩ fun ex tmps1 st1 h2 ρ' a' W' hp hR' => ?_
        have fin : ∀ (q : WT (SVal × St)), (q = match sresults P G tmps1 st1.as st1.h fn.results.toList with
              | some [x] => .leaf (cutOut st.h.length (.v x, st1))
              | some l => .leaf (cutOut st.h.length (.tup l, st1))
              | none => .stop) → q.holds e Z →
            a'.defers = [] ∧ ∃ V, (results fn a'.tmps).run P W' = .ok V W' ∧ R (.returned V) W' := by
          intro q hq hz
          refine ⟨hR'.df, ?_⟩
          subst hq
          split at hz
          · rename_i x hx
            obtain ⟨ws, hws, hrun⟩ := results_ok ok hR'.gl hR'.as hR'.hr hR'.tm hx
            obtain ⟨V, _, rfl, hV, rfl⟩ := hws
            obtain ⟨ρ'', hp2, hV2, has2⟩ := cutOut_ok (v := .v x) hr.len hp hV hR'.as hr.old.len
            refine ⟨V, by simpa using hrun, hRR _ _ hz ρ'' V W' hp2 hV2 has2⟩
          · rename_i l hne hx
            obtain ⟨ws, hws, hrun⟩ := results_ok ok hR'.gl hR'.as hR'.hr hR'.tm hx
            have hl1 : ws.toArray.size ≠ 1 := by
              intro hh
              have : ws.length = 1 := by simpa using hh
              obtain ⟨w0, rfl⟩ := List.length_eq_one_iff.1 this
              cases l with
              | nil => cases hws
              | cons y r =>
                obtain ⟨v0, vs0, he, _, hrest⟩ := hws
                simp only [List.cons.injEq] at he
                obtain ⟨rfl, rfl⟩ := he
                cases r with
                | nil => exact hne y rfl
                | cons z r => obtain ⟨_, _, he, _⟩ := hrest; cases he
            rw [dif_neg hl1] at hrun
            obtain ⟨ρ'', hp2, hV2, has2⟩ := cutOut_ok (v := .tup l) (V := .tuple ws.toArray) hr.len hp ⟨ws, rfl, hws⟩ hR'.as hr.old.len
            exact ⟨_, hrun, hRR _ _ hz ρ'' _ W' hp2 hV2 has2⟩
          · exact hz.elim
        cases ex with
        | normal => exact fin _ rfl h2
        | ret => exact fin _ rfl h2
        | exit id => exact h2.elim
      · exact h.elim
    · exact h.elim

include ok hmix hplan hlt htab in
theorem sound : ∀ n, CodeOk P G ov plan tab e n ∧ LoopOk P G ov plan tab e n ∧ OpsOk P G ov plan tab e n ∧ DrawOk P G ov plan tab e n ∧ CallOk P G ov plan tab e n
  | 0 => by
    refine ⟨?_, ?_, ?_, ?_, ?_⟩
    · intro pl ro c tmps st Z _ _ _ h; simp [xCode, WT.holds] at h
    · intro pl ro c tmps st Z _ _ _ h; simp [xCode, WT.holds] at h
    · intro ro ops l tmps st Z _ h; simp [xOps, WT.holds] at h
    · intro ro h0 ops s tmps st Z _ h; simp [xDraw, WT.holds] at h
    · intro ro f args st Z _ h; simp [xCall, WT.holds] at h
  | n + 1 => by
    obtain ⟨hX, hL, hO, hD, hC⟩ := sound n
    have hL' := loop_step hX hL
    exact ⟨code_step ok hmix hX hL' hO hD, hL', ops_step ok hO hC, draw_step ok hD hC, call_step ok hplan hlt htab hX⟩
end
end
end Go.Proofs.YtaijkkkgpgldbaaDoor.Sy
