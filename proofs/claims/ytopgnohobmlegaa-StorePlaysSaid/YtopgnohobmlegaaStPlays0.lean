/- StorePlays: what its calls answer. -/
import Derived.Test.YtopgnohobmlegaaStBytesW
namespace Go.Proofs.Ytopgnohobmlegaa.K
open Go Sy
set_option maxRecDepth 100000
set_option linter.unusedVariables false
set_option linter.unusedSimpArgs false
/-- Where the numbers of a slice lie. -/
theorem rowOf_at {e : Env} (ok : EnvOk e) {aq : Asm} (ha : AsmOk e aq) {ov : Nat} {ρ : Rho} {h : SHeap} {W : World} (hr : HRel e ov ρ h W) {a : Ad} {n : IExp} {k : IntKind} {A : AExp} (hs : rowOf aq h a n = some (k, A)) :
    0 ≤ n.den e ∧ (A.den e).length = (n.den e).toNat ∧ live h a.b ∧ ∃ b o r, ρ[a.b]? = some (b, o, r) ∧ At False W b (o + a.pos e) 0 ((A.den e).map (.int k)) := by
  unfold rowOf at hs
  split at hs
  · rename_i l bt off j hblk hst
    obtain ⟨b, o, r, vs, hb, hat, hseg⟩ := hr.blk _ _ _ hblk
    obtain ⟨cs, tt, fz, pre, rest, hW, hth, hcs, hpre, hrm⟩ := hat.ex
    obtain ⟨h1, h2, h3, h4⟩ := region_ok ok ha hseg hs
    have hpos := Ad.start_pos hst h1
    rw [← hpos] at h3 h4
    refine ⟨h2, ?_, ⟨_, hblk⟩, b, o, r, hb, ⟨cs, tt, fz, pre ++ vs.take (a.pos e), vs.drop (a.pos e + (n.den e).toNat) ++ rest, hW, fun q => q.elim, ?_, ?_, Nat.zero_le _⟩⟩
    · have := congrArg List.length h4
      simp at this; omega
    · rw [hcs, ← h4]
      have : vs = vs.take (a.pos e) ++ ((vs.drop (a.pos e)).take (n.den e).toNat ++ vs.drop (a.pos e + (n.den e).toNat)) := by
        rw [← List.drop_drop, List.take_append_drop, List.take_append_drop]
      conv => lhs; rw [this]
      simp only [List.append_assoc]
    · rw [List.length_append, List.length_take, hpre]; omega
  · cases hs
/-- A row that is all of its block. -/
def ownRow (h : SHeap) (a : Ad) : Option AExp := match a.ix, h[a.b]? with
  | none, some (some ([.row .u8 A], _)) => if a.off = 0 then some A else none
  | _, _ => none
theorem ownRow_eq {h : SHeap} {a : Ad} {A : AExp} (hs : ownRow h a = some A) : a = ⟨a.b, 0, none⟩ ∧ ∃ t, h[a.b]? = some (some ([.row .u8 A], t)) := by
  unfold ownRow at hs
  split at hs
  · rename_i t hix hb
    split at hs
    · rename_i h0
      cases hs
      refine ⟨?_, _, hb⟩
      obtain ⟨b, off, ix⟩ := a
      simp only at hix h0
      rw [hix, h0]
    · cases hs
  · cases hs
def andB (x y : BExp) : BExp := match x, y with
  | .lit true, y => y
  | x, .lit true => x
  | x, y => .and x y
theorem andB_den (e : Env) (x y : BExp) : (andB x y).den e = (x.den e && y.den e) := by
  unfold andB
  split
  · simp [BExp.den]
  · simp [BExp.den]
  · simp only [BExp.den]
def marks (aq : Asm) (A : AExp) (n : IExp) : Option BExp := match sumI aq n (.lit 1) with
  | some z1 => some (andB (mkEq aq (mkSel aq .u8 A n) (.lit 201)) (mkEq aq (mkSel aq .u8 A z1) (.lit 202)))
  | none => none
def tabBack : Tab := fun ro f args st => if f = 33 then (match args with
  | [.v (.c (.sl (some a) n (some c))), .v (.c (.sl (some d) m (some q)))] => (match ownRow st.h a, rowOf st.as st.h d m, sumI st.as n (.lit 2), marks st.as ((ownRow st.h a).getD .nil) n with
    | some A, some (.u8, B), some z, some r => if ro ≤ a.b ∧ a.b ≠ d.b ∧ m.same n = true ∧ z.same c = true ∧ (mkLen st.as A).same c = true ∧ A.inK st.as .u8 = true ∧ B.inK st.as .u8 = true ∧ inKind .i64 (q.rng st.as) = true ∧ knowsLe st.as n (.lit 2147483647) = true ∧ geZ (n.rng st.as) = true ∧ (mkPart st.as A (.lit 0) n).same B = true then
        some (.leaf (.v (.c (.b r)), ⟨setNone [a.b] st.h, st.as⟩)) else none
    | _, _, _, _ => none)
  | _ => none) else none
theorem tabBack_ok {e : Env} (ok : EnvOk e) (G ov : Nat) : TabOk Try.prog G ov tabBack e := by
  intro ro f args st t Z ht hov hz ρ vs W R hv ha hr hg hR
  unfold tabBack at ht
  split at ht
  · rename_i hf
    subst hf
    split at ht
    · rename_i a n c d m q
      split at ht
      · rename_i A B z r hA hB hz2 hm
        split at ht
        · rename_i hc
          obtain ⟨c1, c2, c3, c4, c5, c6, c7, c8, c9, c10, c11⟩ := hc
          cases ht
          rw [hA, Option.getD_some] at hm
          obtain ⟨ha0, ta, hblk⟩ := ownRow_eq hA
          obtain ⟨v1, _, rfl, d1, v2, _, rfl, d2, rfl⟩ := hv
          have hmn := IExp.same_eq _ _ c3
          subst hmn
          have hzc := IExp.same_eq _ _ c4
          subst hzc
          have hlc := congrArg (IExp.den e) (IExp.same_eq _ _ c5)
          rw [mkLen_den ok ha] at hlc
          have hz2 := sumI_ok ok ha hz2
          rw [litD] at hz2
          have n0 := geZ_ok c10 (IExp.rng_ok ok ha m)
          have n1 := knowsLe_ok ok ha c9
          rw [litD] at n1
          have hin := AExp.inK_ok ok ha _ _ c6
          have hinB := AExp.inK_ok ok ha _ _ c7
          have hqr := inKind_spec c8 (IExp.rng_ok ok ha q)
          obtain ⟨g1, g2, hlv, bd, od, rd, hbd, hatd⟩ := rowOf_at ok ha hr hB
          rw [ha0] at d1
          obtain ⟨b, o, r', n', c', hb, rfl, hn', hc', hle, hat⟩ := own_slice hr hblk d1 (by omega)
          obtain ⟨o2, m', q', rfl, hm', hmq, hoo⟩ := d2
          have hnm : m' = n' := by omega
          subst hnm
          have hcc : c' = m' + 2 := by omega
          subst hcc
          have hq2 : (q' : Int) ≤ lenTop := by
            have h2 := hqr.2
            simp only [IntKind.max_i64] at h2
            have htop : lenTop = 9223372036854775807 := rfl
            rcases hoo with ⟨_, _, _, hcap⟩ | ⟨_, h5, _⟩
            · have hcap : (q' : Int) = q.den e := hcap
              omega
            · omega
          have hp : 0 < q' → o2 = some ⟨bd, od + d.pos e, none⟩ := by
            intro hpos
            rcases hoo with ⟨A', hA', rfl, _⟩ | ⟨_, h5, _⟩
            · rw [(Ad.at' hA' hbd).1]
            · omega
          have hne : bd ≠ b := by
            intro hh
            exact hr.apart a.b d.b (b, o, r') (bd, od, rd) ⟨_, hblk⟩ hlv hb hbd c2 (.inl (by omega)) hh.symm
          have hnt : (m.den e).toNat = m' := by omega
          rw [hnt] at g2
          refine (back_calls (W := W) (z := A.den e) (w := B.den e) (hat.weak (fun _ => by omega)) (by omega) hin g2 hinB (by omega) hmq hq2 hp hatd hne).mono ?_
          rintro en W' ⟨rfl, hbut⟩
          refine hR _ _ hz ρ _ W' (Post.lose hr hov (is := [a.b]) (bs := [b]) (fun i hi => by simp at hi; omega) (fun i hi => by simp at hi; subst hi; exact ⟨_, hblk⟩) (fun k hk => by simp at hk; subst hk; exact ⟨a.b, by simp, (o, r'), hb⟩) hbut) ?_ ha
          show Value.bool _ = .bool (r.den e)
          have hB2 : B.den e = (A.den e).take m' := by
            rw [← AExp.same_eq _ _ c11, mkPart_den ok ha, litD, hnt]; rfl
          unfold marks at hm
          split at hm
          · rename_i z1 hz1
            cases hm
            have hz1 := sumI_ok ok ha hz1
            rw [litD] at hz1
            rw [andB_den, mkEq_den ok ha, mkEq_den ok ha, mkSel_den ok ha A m n0 (by omega), mkSel_den ok ha A z1 (by omega) (by omega), litD, litD, hnt, show (z1.den e).toNat = m' + 1 by omega, backB, hB2]
            simp
          · cases hm
        · cases ht
      · cases ht
    · cases ht
  · cases ht
def tabBytes : Tab := fun ro f args st => if f = 49 then (match args with
  | [.v (.c (.sl (some a) n (some n'))), .v (.c (.sl (some b) m (some m'))), .v (.c (.sl (some w) q (some q')))] => (match ownRow st.h a, ownRow st.h b, ownRow st.h w with
    | some A, some B, some C => if ro ≤ a.b ∧ ro ≤ b.b ∧ a.b ≠ b.b ∧ a.b ≠ w.b ∧ b.b ≠ w.b ∧ n'.same n = true ∧ m.same n = true ∧ m'.same n = true ∧ q.same n = true ∧ q'.same n = true ∧ (mkLen st.as A).same n = true ∧ (mkLen st.as B).same n = true ∧ (mkLen st.as C).same n = true ∧ A.inK st.as .u8 = true ∧ B.inK st.as .u8 = true ∧ C.inK st.as .u8 = true ∧ knowsLe st.as n (.lit 32768) = true ∧ knowsLt st.as (.lit 0) n = true then
        some (.leaf (.v (.c (.b (andB (mkAeq st.as A C) (mkAeq st.as B C)))), ⟨setNone [a.b, b.b] st.h, st.as⟩)) else none
    | _, _, _ => none)
  | _ => none) else none
theorem tabBytes_ok {e : Env} (ok : EnvOk e) (G ov : Nat) : TabOk Try.prog G ov tabBytes e := by
  intro ro f args st t Z ht hov hz ρ vs W R hv ha hr hg hR
  unfold tabBytes at ht
  split at ht
  · rename_i hf
    subst hf
    split at ht
    · rename_i a n n' b m m' w q q'
      split at ht
      · rename_i A B C hA hB hC
        split at ht
        · rename_i hc
          obtain ⟨r1, r2, x1, x2, x3, s1, s2, s3, s4, s5, l1, l2, l3, i1, i2, i3, k1, k2⟩ := hc
          cases ht
          have s1 := IExp.same_eq _ _ s1
          have s2 := IExp.same_eq _ _ s2
          have s3 := IExp.same_eq _ _ s3
          have s4 := IExp.same_eq _ _ s4
          have s5 := IExp.same_eq _ _ s5
          subst s1 s2 s3 s4 s5
          obtain ⟨ha0, ta, hba⟩ := ownRow_eq hA
          obtain ⟨hb0, tb, hbb⟩ := ownRow_eq hB
          obtain ⟨hw0, tw, hbw⟩ := ownRow_eq hC
          obtain ⟨v1, _, rfl, d1, v2, _, rfl, d2, v3, _, rfl, d3, rfl⟩ := hv
          rw [ha0] at d1
          rw [hb0] at d2
          rw [hw0] at d3
          have k1 := knowsLe_ok ok ha k1
          have k2 := knowsLt_ok ok ha k2
          rw [litD] at k1 k2
          obtain ⟨ba, oa, ra, na, ca, pa, rfl, ea1, ea2, _, ata⟩ := own_slice hr hba d1 (by omega)
          obtain ⟨bb, ob, rb, nb, cb, pb, rfl, eb1, eb2, _, atb⟩ := own_slice hr hbb d2 (by omega)
          obtain ⟨bw, ow, rw', nw, cw, pw, rfl, ew1, ew2, _, atw⟩ := own_slice hr hbw d3 (by omega)
          have e1 : ca = na := by omega
          have e2 : nb = na := by omega
          have e3 : cb = na := by omega
          have e4 : nw = na := by omega
          have e5 : cw = na := by omega
          subst e1 e2 e3 e4 e5
          have l1 := congrArg (IExp.den e) (IExp.same_eq _ _ l1)
          have l2 := congrArg (IExp.den e) (IExp.same_eq _ _ l2)
          have l3 := congrArg (IExp.den e) (IExp.same_eq _ _ l3)
          rw [mkLen_den ok ha] at l1 l2 l3
          have y1 := hr.apart a.b b.b _ _ ⟨_, hba⟩ ⟨_, hbb⟩ pa pb x1 (.inl (by omega))
          have y2 := hr.apart a.b w.b _ _ ⟨_, hba⟩ ⟨_, hbw⟩ pa pw x2 (.inl (by omega))
          have y3 := hr.apart b.b w.b _ _ ⟨_, hbb⟩ ⟨_, hbw⟩ pb pw x3 (.inl (by omega))
          refine (bytes_calls (W := W) (ata.weak (fun _ => by omega)) (atb.weak (fun _ => by omega)) (atw.weak (fun q => q.elim)) (by omega) (by omega) (by omega) (AExp.inK_ok ok ha _ _ i1) (AExp.inK_ok ok ha _ _ i2) (AExp.inK_ok ok ha _ _ i3) (by omega) (by omega) y1 y2 y3).mono ?_
          rintro en W' ⟨rfl, hbut⟩
          refine hR _ _ hz ρ _ W' (Post.lose hr hov (is := [a.b, b.b]) (bs := [ba, bb]) (fun i hi => by simp at hi; omega) (fun i hi => by
            simp at hi
            rcases hi with rfl | rfl
            · exact ⟨_, hba⟩
            · exact ⟨_, hbb⟩) (fun k hk => by
            simp at hk
            rcases hk with rfl | rfl
            · exact ⟨a.b, by simp, (oa, ra), pa⟩
            · exact ⟨b.b, by simp, (ob, rb), pb⟩) hbut) ?_ ha
          show Value.bool _ = .bool ((andB (mkAeq st.as A C) (mkAeq st.as B C)).den e)
          rw [andB_den, mkAeq_den ok ha, mkAeq_den ok ha]; rfl
        · cases ht
      · cases ht
    · cases ht
  · cases ht
/-! A new store's bytes in two parts: those that there are, and the others. -/
def fixSegs (aq : Asm) (x : IExp) : List Seg → List Seg
  | .arr k n (.zeros (.lit z)) :: r => if z = 32768 ∧ n = 32768 then .arr k n (.cat (.zeros x) (.zeros (mkSub aq .i64 (.lit 32768) x))) :: r else .arr k n (.zeros (.lit z)) :: r
  | l => l
def fixBlk (aq : Asm) (x : IExp) : Blk → Blk
  | some (l, t) => some (fixSegs aq x l, t)
  | none => none
theorem fixSegs_ok {e : Env} (ok : EnvOk e) {aq : Asm} (ha : AsmOk e aq) {ρ : Rho} {x : IExp} (h0 : 0 ≤ x.den e) (h1 : x.den e ≤ 32768) {l : List Seg} {vs : List Value} (h : SegsD e ρ l vs) : SegsD e ρ (fixSegs aq x l) vs := by
  unfold fixSegs
  split
  · rename_i k n z r
    split
    · rename_i hc
      obtain ⟨rfl, rfl⟩ := hc
      have hd : (AExp.cat (.zeros x) (.zeros (mkSub aq .i64 (.lit 32768) x))).den e = (AExp.zeros (.lit 32768)).den e := by
        simp only [AExp.den]
        rw [mkSub_den ok ha, litD, wrap64 (by omega) (by omega)]
        rw [List.replicate_append_replicate]
        congr 1
        omega
      obtain ⟨vs', g1, g2, g3⟩ := h
      exact ⟨vs', by rw [hd]; exact g1, by rw [hd]; exact g2, g3⟩
    · exact h
  · exact h
noncomputable def tabNew : Tab := fun ro f args st => if f = 17 then (match args with
  | [.v (.c (.i k x)), y] => some ((xCall Try.prog 0 plan noTab 300 ro 17 [.v (.c (.i k x)), y] st).map fun q =>
      cond (knowsLe q.2.as (.lit 0) x && knowsLe q.2.as x (.lit 32768)) (q.1, ⟨q.2.h.map (fixBlk q.2.as x), q.2.as⟩) q)
  | _ => none) else none
theorem tabNew_ok {e : Env} (ok : EnvOk e) (ov : Nat) : TabOk Try.prog 0 ov tabNew e := by
  intro ro f args st t Z ht hov hz ρ vs W R hv ha hr hg hR
  unfold tabNew at ht
  split at ht
  · rename_i hf
    subst hf
    split at ht
    · rename_i k x y
      cases ht
      have hz := WT.holds_of_map hz
      refine (sound (plan := plan) ok mixed plan_ok LtOk.none (TabOk.none _ _ _ _) 300).2.2.2.2 ro _ _ st _ hov hz ρ vs W R hv ha hr hg fun v st' hz' ρ' V W' hp hV has => ?_
      simp only at hz'
      cases hc : (knowsLe st'.as (.lit 0) x && knowsLe st'.as x (.lit 32768)) with
      | false =>
        rw [hc, cond_false] at hz'
        exact hR _ _ hz' ρ' V W' hp hV has
      | true =>
        rw [hc, cond_true] at hz'
        simp only [Bool.and_eq_true] at hc
        have k1 := knowsLe_ok ok has hc.1
        have k2 := knowsLe_ok ok has hc.2
        rw [litD] at k1 k2
        refine hR _ _ hz' ρ' V W' (Post.reseg hp (by simp) fun i l t hi => ?_) hV has
        simp only [List.getElem?_map, Option.map_eq_some_iff] at hi
        obtain ⟨bl, hbl, hfx⟩ := hi
        cases bl with
        | none => cases hfx
        | some bl =>
          obtain ⟨l', t'⟩ := bl
          simp only [fixBlk, Option.some.injEq, Prod.mk.injEq] at hfx
          obtain ⟨rfl, rfl⟩ := hfx
          exact ⟨l', t', hbl, fun vs h => fixSegs_ok ok has k1 k2 h⟩
    · cases ht
  · cases ht
end Go.Proofs.Ytopgnohobmlegaa.K
