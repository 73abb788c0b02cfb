/- The calculus and the walks, part 9: DenPair3, Q33L, DenBuild, Q33N, Q33P, DenAlloc, Q33Q, Q33R, Q33T. -/
import Derived.Test.YtlhmimpbpphchaaDoorP8
import Derived.Test.YtlhmimpbpphchaaDoorP6
/- Pairs in regions that draw, of which the first adds to the blocks. -/
namespace Go.Den
open Go
set_option linter.unusedSectionVars false
set_option linter.unusedVariables false
section
variable {C : Cx} {env : Env} {σ : List Blk} {Q : Post} {ts : List Nat}
/-- Two that may come up, and no other: whichever comes first, the same is told behind both. -/
theorem VH_pairS {σi : List Blk} {l : List Oper} {i j : Nat} {oi oj : Oper} {di dj : D} {fuel : Nat} {listed : Array Bool} (hi : l[i]? = some oi) (hj : l[j]? = some oj) (hri : i ∈ Region.ready .any l.toArray listed) (hr : ∀ k ∈ Region.ready .any l.toArray listed, k = i ∨ k = j)
    (hrj : ∀ k ∈ Region.ready .any l.toArray (listed.setIfInBounds i true), k = j) (hjr : j ∈ Region.ready .any l.toArray (listed.setIfInBounds i true))
    (hrji : ∀ k ∈ Region.ready .any l.toArray (listed.setIfInBounds j true), k = i) (hir : i ∈ Region.ready .any l.toArray (listed.setIfInBounds j true)) (hij : i ≠ j)
    (hwi : wants l env oi = some true) (hwj : wants l env oj = some true) (hwi' : wants l (putD env oj.dst dj) oi = some true) (hwj' : wants l (putD env oi.dst di) oj = some true) (hni : dstOk C.n oi.dst = true) (hnj : dstOk C.n oj.dst = true)
    (fi : OpF C oi env σ ts (fun d s => d = di ∧ s = σi)) (fj : OpF C oj env σ ts (fun d s => d = dj ∧ s = σ)) (fi' : OpF C oi (putD env oj.dst dj) σ ts (fun d s => d = di ∧ s = σi)) (fj' : OpF C oj (putD env oi.dst di) σi ts (fun d s => d = dj ∧ s = σi))
    (hsw : ∀ t, getD (putD (putD env oi.dst di) oj.dst dj) t = getD (putD (putD env oj.dst dj) oi.dst di) t)
    (k : VH C l.toArray ts fuel ((listed.setIfInBounds i true).setIfInBounds j true) (putD (putD env oi.dst di) oj.dst dj) σi Q) : VH C l.toArray ts (fuel + 2) listed env σ Q := by
  have k2 : VH C l.toArray ts fuel ((listed.setIfInBounds j true).setIfInBounds i true) (putD (putD env oj.dst dj) oi.dst di) σi Q := fun H β a w hr he => by
    rw [Array.setIfInBounds_comm _ _ hij.symm]
    exact k H β a w hr ⟨he.1, fun t => by rw [hsw t]; exact he.2 t⟩
  have g1 : VH C l.toArray ts (fuel + 1) (listed.setIfInBounds i true) (putD env oi.dst di) σi Q := VH_one hj hjr hrj hwj' hnj fj' fun d s ⟨h1, h2⟩ => by subst h1; subst h2; exact k
  have g2 : VH C l.toArray ts (fuel + 1) (listed.setIfInBounds j true) (putD env oj.dst dj) σ Q := VH_one hi hir hrji hwi' hni fi' fun d s ⟨h1, h2⟩ => by subst h1; subst h2; exact k2
  have key : ∀ (m : Nat) (om : Oper) (dm : D) (σm : List Blk), l[m]? = some om → wants l env om = some true → dstOk C.n om.dst = true → OpF C om env σ ts (fun d s => d = dm ∧ s = σm) → VH C l.toArray ts (fuel + 1) (listed.setIfInBounds m true) (putD env om.dst dm) σm Q →
      m ∈ Region.ready .any l.toArray listed → ∀ H β a w, Rel C.tb H β σ w → EnvRel C.tb H β σ C.n a env → a.defers = [] → ∀ tk : Tk, TkOk l.toArray ts listed H w tk →
      wpOp C.P l.toArray (lift C H β σ w Q) m (fun a' w' => (w' = w ∨ sOf l.toArray tk m w') ∧ wpAnyD C.P .any l.toArray (lift C H β σ w Q) (sOf l.toArray tk) (fuel + 1) (listed.setIfInBounds m true) a' w') a w := by
    intro m om dm σm hm hwm hnm fm gm hmr H β a w hr' he hdef tk hS
    have hjun := (mem_ready.1 hmr).1
    unfold wpOp
    have hi' : l.toArray[m]? = some om := by simpa using hm
    simp only [hi', wants_rel he hwm, if_true]
    refine .inl (fm H β a w hr' he hdef _ _ ?_)
    intro v d w' H' β' σ' hR hr2 hv hs hev hfr
    obtain ⟨e1, e2⟩ := hR
    subst e1; subst e2
    have hd' : (a.put om.dst v).defers = [] := by cases om.dst <;> exact hdef
    refine ⟨.inr fun p hp hw => (((hS p hp).2.2 m hjun hw).frm hfr).here, ?_⟩
    exact wpAnyD_mono2 (fun _ _ _ hl => hl.trans hs (hev.kp C.k0)) (fun _ _ h => h) _ _ _ _ (gm H' β' (a.put om.dst v) w' hr2 ((he.mono hev).put hv hnm) hd' tk
      (fun p hp => ⟨(hS.set m p hp).1, (hS.set m p hp).2.1, fun q hq hw => ((hS.set m p hp).2.2 q hq hw).frm hfr⟩))
  intro H β a w hr' he hdef tk hS
  refine wpAnyD_all rfl (fun h => by rw [h] at hri; cases hri) fun m hm => ?_
  rcases hr m hm with e | e
  · subst e; exact key m oi di σi hi hwi hni fi g1 hm H β a w hr' he hdef tk hS
  · subst e; exact key m oj dj σ hj hwj hnj fj g2 hm H β a w hr' he hdef tk hS

theorem VO_pairS {σi : List Blk} {l : List Oper} {i j : Nat} {oi oj : Oper} {di dj : D} {rest : List (Nat × Bool)} (hi : l[i]? = some oi) (hj : l[j]? = some oj) (hp : pairB l ((i, false) :: (j, false) :: rest) = true)
    (hwi : wants l env oi = some true) (hwj : wants l env oj = some true) (hwi' : wants l (putD env oj.dst dj) oi = some true) (hwj' : wants l (putD env oi.dst di) oj = some true) (hni : dstOk C.n oi.dst = true) (hnj : dstOk C.n oj.dst = true)
    (fi : OpF C oi env σ ts (fun d s => d = di ∧ s = σi)) (fj : OpF C oj env σ ts (fun d s => d = dj ∧ s = σ)) (fi' : OpF C oi (putD env oj.dst dj) σ ts (fun d s => d = di ∧ s = σi)) (fj' : OpF C oj (putD env oi.dst di) σi ts (fun d s => d = dj ∧ s = σi))
    (hsw : ∀ t, getD (putD (putD env oi.dst di) oj.dst dj) t = getD (putD (putD env oj.dst dj) oi.dst di) t)
    (k : VO C l ts rest (putD (putD env oi.dst di) oj.dst dj) σi Q) : VO C l ts ((i, false) :: (j, false) :: rest) env σ Q := by
  intro listed hns hs hcv hsz
  simp only [okSched, Bool.and_eq_true] at hs
  simp only [pairB, Bool.and_eq_true, Bool.not_eq_true'] at hp
  have hij : i ≠ j := fun e => by have := hp.1; rw [e, beq_self'] at this; cases this
  have lt : ∀ {r : List (Nat × Bool)} {k : Nat}, rdyB l r k = true → k < l.length := fun {r k} h => by
    rcases Nat.lt_or_ge k l.length with h' | h'
    · exact h'
    · unfold rdyB at h; rw [List.getElem?_eq_none h'] at h; simp at h
  have hcv1 := hcv.step
  have hcov2 : Cov ((i, true) :: rest) (listed.setIfInBounds j true) := by
    obtain ⟨h1, h2⟩ := hcv
    simp only [nodB, Bool.and_eq_true, Bool.not_eq_true', memB, Bool.or_eq_false_iff] at h1
    refine ⟨by simp only [nodB, Bool.and_eq_true, Bool.not_eq_true']; exact ⟨h1.1.2, h1.2.2⟩, fun k => ⟨fun hk => ?_, fun hk => ?_⟩⟩
    · obtain ⟨hne, hun⟩ := unl_set hk
      have := (h2 k).1 hun
      simp only [memB, Bool.or_eq_true] at this ⊢
      rcases this with h | h | h
      · exact .inl h
      · exact absurd (Nat.eq_of_beq_eq_true h).symm hne
      · exact .inr h
    · simp only [memB, Bool.or_eq_true] at hk
      have hkj : j ≠ k := fun e => by
        subst e
        rcases hk with h | h
        · exact hij (Nat.eq_of_beq_eq_true h)
        · rw [h1.2.1] at h; cases h
      rw [getD_set_ne true hkj]
      refine (h2 k).2 ?_
      simp only [memB, Bool.or_eq_true]
      rcases hk with h | h
      · exact .inl h
      · exact .inr (.inr h)
  have hsz1 : (listed.setIfInBounds i true).size = l.length := by simpa using hsz
  have hsz2 : (listed.setIfInBounds j true).size = l.length := by simpa using hsz
  have hir : i ∈ Region.ready .any l.toArray listed := by simpa using hs.1
  have hjr : j ∈ Region.ready .any l.toArray listed := (rdy_iff hcv hsz j).2 hp.2.2.1
  have hcv1' : Cov ((j, true) :: rest) (listed.setIfInBounds i true) := hcv1
  refine VH_pairS hi hj hir (fun k hk => ?_) (fun k hk => ?_) (ready_mono hjr hij.symm) (fun k hk => ?_) (ready_mono hir hij) hij hwi hwj hwi' hwj' hni hnj fi fj fi' fj' hsw (k _ hns hs.2.2 hcv.step.step (by simpa using hsz))
  · have h1 := (rdy_iff hcv hsz k).1 hk
    have := List.all_eq_true.1 hp.2.1 k (List.mem_range.2 (lt h1))
    rw [h1] at this
    simp only [Bool.not_true, Bool.false_or, Bool.or_eq_true] at this
    exact this.imp Nat.eq_of_beq_eq_true Nat.eq_of_beq_eq_true
  · have h1 := (rdy_iff hcv1' hsz1 k).1 hk
    have := List.all_eq_true.1 hp.2.2.2.1 k (List.mem_range.2 (lt h1))
    rw [h1] at this
    simp only [Bool.not_true, Bool.false_or] at this
    exact Nat.eq_of_beq_eq_true this
  · have h1 := (rdy_iff hcov2 hsz2 k).1 hk
    have := List.all_eq_true.1 hp.2.2.2.2 k (List.mem_range.2 (lt h1))
    rw [h1] at this
    simp only [Bool.not_true, Bool.false_or] at this
    exact Nat.eq_of_beq_eq_true this
/-- A call that adds a row of its own beside a list that is written out. -/
theorem VX_callRowLit (hC : Ok C) {σi : List Blk} {k : List It} {full : List Oper} {ts : List Nat} {i j ti tj : Nat} {oi oj : Oper} {ord : List (Nat × Bool)} {di : D} {t : TypeId} {len : Nat} {ps : Array (Nat × Operand)} {d : D} {pp pp' : Prop}
    (hi : full[i]? = some oi) (hj : full[j]? = some oj) (hp : pairB full ((i, false) :: (j, false) :: ord) = true)
    (hwi : wants full env oi = some true) (hwj : wants full env oj = some true) (hdi : oi.dst = some ti) (hdj : oj.dst = some tj) (hti : Nat.blt ti C.n = true) (htj : Nat.blt tj C.n = true) (hne : Nat.beq ti tj = false)
    (fi : OpF C oi env σ ts (fun d s => d = di ∧ s = σi)) (fi' : OpF C oi ((tj, d) :: env) σ ts (fun d s => d = di ∧ s = σi))
    (hoj : oj.op = .buildSlice t len ps) (hl : dLit C env σ t len ps.toList = some ⟨pp, d, σ⟩)
    (hwi' : wants full ((tj, d) :: env) oi = some true) (hwj' : wants full ((ti, di) :: env) oj = some true)
    (hl' : dLit C ((ti, di) :: env) σi t len ps.toList = some ⟨pp', d, σi⟩)
    (hk : VX C Q (.o full ts ord :: k) .nrm ((tj, d) :: (ti, di) :: env) σi) : VX C Q (.o full ts ((i, false) :: (j, false) :: ord) :: k) .nrm env σ := by
  refine VO_pairS (di := di) (dj := d) hi hj hp hwi hwj (by rw [hdj]; exact hwi') (by rw [hdi]; exact hwj') (by rw [hdi]; exact hti) (by rw [hdj]; exact htj)
    fi (dLit_okF hC hoj hl) (by rw [hdj]; exact fi') (by rw [hdi]; exact dLit_okF hC hoj hl') (by rw [hdi, hdj]; exact swap2 hne) ?_
  rw [hdi, hdj]; exact hk
theorem OpF_callX (hC : Ok C) {o : Oper} {f : FuncId} {xs : Array Operand} {tys : Array TypeId} (pts : List TypeId) {ds args : List D} {σ0 s0 τ s : List Blk} {d0 di : D} {ti : Nat} (idx : List Nat)
    (ho : o.op = .call { callee := .value (.func f), args := xs, argTypes := tys }) (hx : argsD C.tb env pts xs.toList = some ds) (hds : D.rens (idxOf idx) ds = some args) (hp : pickB σ (idxOf idx) idx 0 = some σ0)
    (hts : disj idx ts = true) (h : FnG C.P C.tb f σ0 args (fun d s => d = d0 ∧ s = s0))
    (hr : retK env (some ti) (D.ren (fun j => some (backI idx σ.length j)) d0) = some ((ti, di) :: env)) (hb : renBs (fun j => some (backI idx σ.length j)) s0 = some τ) (hs : normBs (putBack σ idx τ) some = some s) : OpF C o env σ ts (fun d s' => d = di ∧ s' = s) := by
  intro H β a w hrel he hd K Qx hK
  refine OpF_call hC ho hx hds hp h hts H β a w hrel he hd K Qx fun v d' w' H' β' s' hR => ?_
  obtain ⟨d1, s1, τ1, ⟨h1, h2⟩, h3, h4, h5⟩ := hR
  refine hK v d' w' H' β' s' ?_
  subst h1; subst h2
  rw [h3, retK_eq] at hr
  simp only [putD, Option.some.injEq, List.cons.injEq, Prod.mk.injEq, and_true, true_and] at hr
  rw [hb] at h4; cases h4
  rw [normBs_eq] at hs; cases hs
  exact ⟨hr, h5⟩
/-- A call whose answer has blocks of its own, beside a list that is written out. -/
theorem VX_callGLit (hC : Ok C) {k : List It} {full : List Oper} {ts : List Nat} {i j ti tj : Nat} {oi oj : Oper} {ord : List (Nat × Bool)} {f : FuncId} {xs : Array Operand} {tys : Array TypeId} (pts : List TypeId) {ds args : List D} {σ0 s0 τ σi : List Blk} {d0 di : D} {t : TypeId} {len : Nat} {ps : Array (Nat × Operand)} {d : D} {pp pp' : Prop} (idx : List Nat)
    (hi : full[i]? = some oi) (hj : full[j]? = some oj) (hp : pairB full ((i, false) :: (j, false) :: ord) = true)
    (hwi : wants full env oi = some true) (hwj : wants full env oj = some true) (hdi : oi.dst = some ti) (hdj : oj.dst = some tj) (hti : Nat.blt ti C.n = true) (htj : Nat.blt tj C.n = true) (hne : Nat.beq ti tj = false)
    (ho : oi.op = .call { callee := .value (.func f), args := xs, argTypes := tys }) (hx : argsD C.tb env pts xs.toList = some ds) (hds : D.rens (idxOf idx) ds = some args) (hpk : pickB σ (idxOf idx) idx 0 = some σ0)
    (hts : disj idx ts = true) (h : FnG C.P C.tb f σ0 args (fun d s => d = d0 ∧ s = s0))
    (hr : retK env (some ti) (D.ren (fun j => some (backI idx σ.length j)) d0) = some ((ti, di) :: env)) (hb : renBs (fun j => some (backI idx σ.length j)) s0 = some τ) (hs : normBs (putBack σ idx τ) some = some σi)
    (hoj : oj.op = .buildSlice t len ps) (hl : dLit C env σ t len ps.toList = some ⟨pp, d, σ⟩)
    (hwi' : wants full ((tj, d) :: env) oi = some true) (hwj' : wants full ((ti, di) :: env) oj = some true)
    (hx' : argsD C.tb ((tj, d) :: env) pts xs.toList = some ds) (hr' : retK ((tj, d) :: env) (some ti) (D.ren (fun j => some (backI idx σ.length j)) d0) = some ((ti, di) :: (tj, d) :: env))
    (hl' : dLit C ((ti, di) :: env) σi t len ps.toList = some ⟨pp', d, σi⟩)
    (hk : VX C Q (.o full ts ord :: k) .nrm ((tj, d) :: (ti, di) :: env) σi) : VX C Q (.o full ts ((i, false) :: (j, false) :: ord) :: k) .nrm env σ :=
  VX_callRowLit hC hi hj hp hwi hwj hdi hdj hti htj hne (OpF_callX hC pts idx ho hx hds hpk hts h hr hb hs) (OpF_callX hC pts idx ho hx' hds hpk hts h hr' hb hs) hoj hl hwi' hwj' hl' hk
end
end Go.Den
/- Law 33: heads, their hashes; leaves. -/
namespace Go.Den.Q33
open Go Go.Den Go.Proofs Go.Den.Q33.Dg
set_option maxRecDepth 8000
set_option linter.unusedVariables false
set_option linter.unusedSimpArgs false
open Go.Den.Q33.Sh (dgE)
open Go.Den.Q33.Me (Dig dsE All32 z0 rootB eqDg)

structure Bk where
  h : Nat
  p : Dig
  b : Nat
  cs : List (List UInt8)
  rs : List Int
  s : Dig
structure Bk.ok (x : Bk) : Prop where
  h : x.h < 18446744073709551616
  p : x.p.length = 32
  b : x.b < 18446744073709551616
  s : x.s.length = 32
def Bk.E (x : Bk) : E := .agg [.int x.h, dgE x.p, .int x.b, .sl (x.cs.map E.str), .sl (x.rs.map E.int), dgE x.s]
structure Hd where
  h : Nat
  p : Dig
  b : Nat
  s : Dig
  c : Dig
  r : Dig
  n : Nat
structure Hd.ok (x : Hd) : Prop where
  h : x.h < 18446744073709551616
  p : x.p.length = 32
  b : x.b < 18446744073709551616
  s : x.s.length = 32
  c : x.c.length = 32
  r : x.r.length = 32
  n : x.n < 4294967296
def Hd.E (x : Hd) : E := .agg [.int x.h, dgE x.p, .int x.b, dgE x.s, dgE x.c, dgE x.r, .int x.n]
def Hd.bytes (x : Hd) : List UInt8 := Wi.bigB x.h 8 ++ x.p ++ Wi.bigB x.b 8 ++ x.s ++ x.c ++ x.r ++ Wi.bigB x.n 4
def hashB (x : Hd) : Dig := ofB 205 [x.bytes]
theorem Hd.bytes_length {x : Hd} (h : x.ok) : x.bytes.length = 148 := by simp [Hd.bytes, Wi.bigB_length, h.p, h.s, h.c, h.r]
theorem hash_input {x : Hd} (h : x.ok) : (inputB 205 [x.bytes]).length ≤ 400000 := by simp [inputB, Wi.textB, Wi.bigB_length, Hd.bytes_length h]
theorem u64n (n : Nat) (h : n < 18446744073709551616) : IntKind.wrap .u64 (n : Int) = n := inR_wrap (by simp [inR]; omega)
theorem u32n (n : Nat) (h : n < 4294967296) : IntKind.wrap .u32 (n : Int) = n := inR_wrap (by simp [inR]; omega)

set_option maxHeartbeats 800000 in
theorem hash_ok {x : Hd} (h : x.ok) : FnOk Tryd.prog tb 23 [78, 59] [24] [.nilp, x.E] [dgE (hashB x)] := by
  refine FnOk_of_V (fn := Tryd.f23) (bt := 4) (ok 0 _) Tryd.func23 rfl rfl rfl (by decide) fun hw => ?_
  clear hw
  have hi := hash_input h
  obtain ⟨hh, p, b, s, c, r, n⟩ := x
  obtain ⟨h1, h2, h3, h4, h5, h6, h7⟩ := h
  simp only at h1 h2 h3 h4 h5 h6 h7
  unfold hashB
  unfold Hd.bytes at hi ⊢
  simp only at hi ⊢
  have l1 := Wi.bigB_length hh 8
  have l2 := Wi.bigB_length b 8
  have l3 := Wi.bigB_length n 4
  apply V_of_VX
  refine VX_go4 (fs := []) (ok 0 _) eqs trivial 100 [] rfl trivial ?_
  refine VX_draw [] [(0, true), (1, true), (3, true), (4, true), (7, true), (8, true), (11, true), (12, true), (15, true), (16, true), (19, true), (20, true), (23, true), (24, true), (2, false), (5, false), (6, true), (9, false), (10, true), (13, false), (14, true), (17, false), (18, true), (21, false), (22, true), (25, false), (26, true), (27, true)] mixed (by kernel_rfl) (by kernel_rfl) (by kernel_rfl) ?_
  refine VX_go4 (fs := []) (ok 0 _) eqs trivial 100 [] rfl trivial ?_
  refine VX_callO (ok 0 _) [22] [] rfl rfl rfl rfl rfl rfl rfl rfl (Wi.long_ok hh h1).g rfl rfl rfl ?_
  refine VX_callO (ok 0 _) [24] [] rfl rfl rfl rfl rfl rfl rfl rfl (digest_ok p h2).g rfl rfl rfl ?_
  refine VX_go4 (fs := []) (ok 0 _) eqs trivial 100 [] rfl (by simp [allP, maxI, l1, h2]) ?_
  refine VX_callO (ok 0 _) [22] [] rfl rfl rfl rfl rfl rfl rfl rfl (Wi.long_ok b h3).g rfl rfl rfl ?_
  refine VX_go4 (fs := []) (ok 0 _) eqs trivial 100 [] rfl (by simp [allP, maxI, l1, h2, l2]) ?_
  refine VX_callO (ok 0 _) [24] [] rfl rfl rfl rfl rfl rfl rfl rfl (digest_ok s h4).g rfl rfl rfl ?_
  refine VX_go4 (fs := []) (ok 0 _) eqs trivial 100 [] rfl (by simp [allP, maxI, l1, h2, l2, h4]) ?_
  refine VX_callO (ok 0 _) [24] [] rfl rfl rfl rfl rfl rfl rfl rfl (digest_ok c h5).g rfl rfl rfl ?_
  refine VX_go4 (fs := []) (ok 0 _) eqs trivial 100 [] rfl (by simp [allP, maxI, l1, h2, l2, h4, h5]) ?_
  refine VX_callO (ok 0 _) [24] [] rfl rfl rfl rfl rfl rfl rfl rfl (digest_ok r h6).g rfl rfl rfl ?_
  refine VX_go4 (fs := []) (ok 0 _) eqs trivial 100 [] rfl (by simp [allP, maxI, l1, h2, l2, h4, h5, h6]) ?_
  refine VX_callO (ok 0 _) [32] [] rfl rfl rfl rfl rfl rfl rfl rfl (Wi.word_ok n h7).g rfl rfl rfl ?_
  refine VX_go4 (fs := []) (ok 0 _) eqs trivial 100 [] rfl (by simp [allP, maxI, l1, h2, l2, h4, h5, h6, l3]) ?_
  generalize Wi.bigB hh 8 ++ p ++ Wi.bigB b 8 ++ s ++ c ++ r ++ Wi.bigB n 4 = X at hi ⊢
  have c2 := (of_nil 205 [X] hi).g
  generalize ofB 205 [X] = d at c2 ⊢
  refine VX_callD (ok 0 _) [78, 5, 25] [] rfl rfl rfl rfl rfl rfl c2 rfl rfl rfl ?_
  refine VX_go4 (fs := []) (ok 0 _) eqs trivial 100 [] rfl trivial ?_
  exact ⟨.inr rfl, rfl⟩
set_option maxHeartbeats 800000 in
theorem rhash_ok {x : Hd} (h : x.ok) : FnOk Tryd.prog tb 24 [61, 63] [24] [.nilp, x.E] [dgE (hashB x)] := by
  refine FnOk_of_V (fn := Tryd.f24) (bt := 4) (ok 0 _) Tryd.func24 rfl rfl rfl (by decide) fun hw => ?_
  clear hw
  have hi := hash_input h
  obtain ⟨hh, p, b, s, c, r, n⟩ := x
  obtain ⟨h1, h2, h3, h4, h5, h6, h7⟩ := h
  simp only at h1 h2 h3 h4 h5 h6 h7
  unfold hashB
  unfold Hd.bytes at hi ⊢
  simp only at hi ⊢
  have l1 := Wi.bigB_length hh 8
  have l2 := Wi.bigB_length b 8
  have l3 := Wi.bigB_length n 4
  apply V_of_VX
  refine VX_go4 (fs := []) (ok 0 _) eqs trivial 100 [] rfl trivial ?_
  refine VX_draw [] [(0, true), (1, true), (3, true), (4, true), (7, true), (8, true), (11, true), (12, true), (2, false), (5, false), (6, true), (9, false), (10, true), (13, false), (14, true), (15, true)] mixed (by kernel_rfl) (by kernel_rfl) (by kernel_rfl) ?_
  refine VX_go4 (fs := []) (ok 0 _) eqs trivial 100 [] rfl trivial ?_
  refine VX_callO (ok 0 _) [22, 3] [] rfl rfl rfl rfl rfl rfl rfl rfl (Wi.Big_ok hh 8 (by omega) (by omega) h1).g rfl rfl rfl ?_
  refine VX_callO (ok 0 _) [24] [] rfl rfl rfl rfl rfl rfl rfl rfl (bytes_ok p h2).g rfl rfl rfl ?_
  refine VX_go4 (fs := []) (ok 0 _) eqs trivial 100 [] rfl (by simp [allP, maxI, l1, h2]) ?_
  refine VX_callO (ok 0 _) [22, 3] [] rfl rfl rfl rfl rfl rfl rfl rfl (Wi.Big_ok b 8 (by omega) (by omega) h3).g rfl rfl rfl ?_
  refine VX_go4 (fs := []) (ok 0 _) eqs trivial 100 [] rfl (by simp [allP, maxI, l1, h2, l2]) ?_
  refine VX_callO (ok 0 _) [24] [] rfl rfl rfl rfl rfl rfl rfl rfl (bytes_ok s h4).g rfl rfl rfl ?_
  refine VX_go4 (fs := []) (ok 0 _) eqs trivial 100 [] rfl (by simp [allP, maxI, l1, h2, l2, h4]) ?_
  refine VX_draw [] [(0, true), (1, true), (2, true), (5, true), (6, true), (9, true), (10, true), (11, true), (3, false), (4, true), (7, false), (8, true), (12, false), (13, true), (14, true)] mixed (by kernel_rfl) (by kernel_rfl) (by kernel_rfl) ?_
  refine VX_go4 (fs := []) (ok 0 _) eqs trivial 100 [24] rfl trivial ?_
  refine VX_eq 32 rfl rfl (d' := .t 22 (.e (.int n))) (congrArg (fun x => D.t 22 (.e (.int x))) (u64n n (by omega))) ?_
  refine VX_callO (ok 0 _) [24] [] rfl rfl rfl rfl rfl rfl rfl rfl (bytes_ok c h5).g rfl rfl rfl ?_
  refine VX_go4 (fs := []) (ok 0 _) eqs trivial 100 [] rfl (by simp [allP, maxI, l1, h2, l2, h4, h5]) ?_
  refine VX_callO (ok 0 _) [24] [] rfl rfl rfl rfl rfl rfl rfl rfl (bytes_ok r h6).g rfl rfl rfl ?_
  refine VX_go4 (fs := []) (ok 0 _) eqs trivial 100 [] rfl (by simp [allP, maxI, l1, h2, l2, h4, h5, h6]) ?_
  refine VX_callO (ok 0 _) [22, 3] [] rfl rfl rfl rfl rfl rfl rfl rfl (Wi.Big_ok n 4 (by omega) (by omega) (by omega)).g rfl rfl rfl ?_
  refine VX_go4 (fs := []) (ok 0 _) eqs trivial 100 [] rfl (by simp [allP, maxI, l1, h2, l2, h4, h5, h6, l3]) ?_
  generalize Wi.bigB hh 8 ++ p ++ Wi.bigB b 8 ++ s ++ c ++ r ++ Wi.bigB n 4 = X at hi ⊢
  have c2 := (rof_nil 205 [X] hi).g
  generalize ofB 205 [X] = d at c2 ⊢
  refine VX_callD (ok 0 _) [61, 5, 25] [] rfl rfl rfl rfl rfl rfl c2 rfl rfl rfl ?_
  refine VX_go4 (fs := []) (ok 0 _) eqs trivial 100 [] rfl trivial ?_
  exact ⟨.inr rfl, rfl⟩

/-! ### leaves -/
def callB (s : List UInt8) : Dig := ofB 203 [s]
def recB (i : Nat) (e : Int) : Dig := ofB 204 [Wi.bigB i 4, Wi.bigB (e % 18446744073709551616).toNat 8]
theorem call_input {s : List UInt8} (h : s.length ≤ 30000) : (inputB 203 [s]).length ≤ 400000 := by simp [inputB, Wi.textB, Wi.bigB_length]; omega
theorem rec_input (i : Nat) (e : Int) : (inputB 204 [Wi.bigB i 4, Wi.bigB (e % 18446744073709551616).toNat 8]).length ≤ 400000 := by simp [inputB, Wi.textB, Wi.bigB_length]
theorem u64e (e : Int) : IntKind.wrap .u64 e = (((e % 18446744073709551616).toNat : Nat) : Int) ∧ (e % 18446744073709551616).toNat < 18446744073709551616 := by
  have h1 := Int.emod_nonneg e (show (18446744073709551616 : Int) ≠ 0 by decide)
  have h2 := Int.emod_lt_of_pos e (show (0 : Int) < 18446744073709551616 by decide)
  rw [wrap_eq]; simp only; omega
theorem call_ok {s : List UInt8} (h : s.length ≤ 30000) : FnOk Tryd.prog tb 36 [78, 9] [24] [.nilp, .str s] [dgE (callB s)] := by
  refine FnOk_of_V (fn := Tryd.f36) (bt := 4) (ok 0 _) Tryd.func36 rfl rfl rfl (by decide) fun hw => ?_
  clear hw
  apply V_of_VX
  have c2 := (of_nil 203 [s] (call_input h)).g
  unfold callB
  generalize ofB 203 [s] = d at c2 ⊢
  refine VX_go4 (fs := []) (ok 0 _) eqs trivial 100 [] rfl trivial ?_
  refine VX_callD (ok 0 _) [78, 5, 25] [] rfl rfl rfl rfl rfl rfl c2 rfl rfl rfl ?_
  refine VX_go4 (fs := []) (ok 0 _) eqs trivial 100 [] rfl trivial ?_
  exact ⟨.inr rfl, rfl⟩
theorem rec_ok {i : Nat} (h : i < 4294967296) (e : Int) : FnOk Tryd.prog tb 37 [78, 3, 33] [24] [.nilp, .int i, .int e] [dgE (recB i e)] := by
  refine FnOk_of_V (fn := Tryd.f37) (bt := 4) (ok 0 _) Tryd.func37 rfl rfl rfl (by decide) fun hw => ?_
  clear hw
  apply V_of_VX
  have hi := rec_input i e
  have he := u64e e
  unfold recB
  generalize (e % 18446744073709551616).toNat = n at hi he ⊢
  have c2 := (of_nil 204 [Wi.bigB i 4, Wi.bigB n 8] hi).g
  generalize ofB 204 [Wi.bigB i 4, Wi.bigB n 8] = d at c2 ⊢
  refine VX_go4 (fs := []) (ok 0 _) eqs trivial 100 [10] rfl trivial ?_
  refine VX_eq 9 rfl rfl (d' := .t 32 (.e (.int i))) (congrArg (fun x => D.t 32 (.e (.int x))) (u32n i h)) ?_
  refine VX_callD (ok 0 _) [32] [] rfl rfl rfl rfl rfl rfl (Wi.word_ok i h).g rfl rfl rfl ?_
  refine VX_go4 (fs := []) (ok 0 _) eqs trivial 100 [13] rfl trivial ?_
  refine VX_eq 12 rfl rfl (d' := .t 22 (.e (.int n))) (congrArg (fun x => D.t 22 (.e (.int x))) he.1) ?_
  refine VX_callD (ok 0 _) [22] [] rfl rfl rfl rfl rfl rfl (Wi.long_ok n he.2).g rfl rfl rfl ?_
  refine VX_go4 (fs := []) (ok 0 _) eqs trivial 100 [] rfl trivial ?_
  refine VX_callD (ok 0 _) [78, 5, 25] [] rfl rfl rfl rfl rfl rfl c2 rfl rfl rfl ?_
  refine VX_go4 (fs := []) (ok 0 _) eqs trivial 100 [] rfl trivial ?_
  exact ⟨.inr rfl, rfl⟩
theorem rrec_ok {i : Nat} (h : i < 4294967296) (e : Int) : FnOk Tryd.prog tb 40 [61, 22, 3] [24] [.nilp, .int i, .int e] [dgE (recB i e)] := by
  refine FnOk_of_V (fn := Tryd.f40) (bt := 4) (ok 0 _) Tryd.func40 rfl rfl rfl (by decide) fun hw => ?_
  clear hw
  apply V_of_VX
  have hi := rec_input i e
  have he := u64e e
  unfold recB
  generalize (e % 18446744073709551616).toNat = n at hi he ⊢
  have c2 := (rof_nil 204 [Wi.bigB i 4, Wi.bigB n 8] hi).g
  generalize ofB 204 [Wi.bigB i 4, Wi.bigB n 8] = d at c2 ⊢
  refine VX_go4 (fs := []) (ok 0 _) eqs trivial 100 [] rfl trivial ?_
  refine VX_callD (ok 0 _) [22, 3] [] rfl rfl rfl rfl rfl rfl (Wi.Big_ok i 4 (by omega) (by omega) (by omega)).g rfl rfl rfl ?_
  refine VX_go4 (fs := []) (ok 0 _) eqs trivial 100 [12] rfl trivial ?_
  refine VX_eq 11 rfl rfl (d' := .t 22 (.e (.int n))) (congrArg (fun x => D.t 22 (.e (.int x))) he.1) ?_
  refine VX_callD (ok 0 _) [22, 3] [] rfl rfl rfl rfl rfl rfl (Wi.Big_ok n 8 (by omega) (by omega) he.2).g rfl rfl rfl ?_
  refine VX_go4 (fs := []) (ok 0 _) eqs trivial 100 [] rfl trivial ?_
  refine VX_callD (ok 0 _) [61, 5, 25] [] rfl rfl rfl rfl rfl rfl c2 rfl rfl rfl ?_
  refine VX_go4 (fs := []) (ok 0 _) eqs trivial 100 [] rfl trivial ?_
  exact ⟨.inr rfl, rfl⟩
end Go.Den.Q33
/- A struct that is written out, its parts kept apart. -/
namespace Go.Den
open Go
set_option linter.unusedSectionVars false
set_option linter.unusedSimpArgs false
set_option linter.unusedVariables false
section
variable {C : Cx} (hC : Ok C) {o : Oper} {env : Env} {σ : List Blk}
include hC
theorem Ok_buildT {t : TypeId} {ps : Array (Nat × Operand)} {fs : List (TypeId × Nat)} {qs : List (Nat × T)} (ho : o.op = .build t ps) (hst : td C.tb t = .st fs) (hz : plain C.tb zf t = true)
    (hps : partsT C.tb env (fieldTy fs) ps.toList = some qs) : OpOk C o env σ ⟨True, .t t (buildT qs (zeroT C.tb zf t)), σ⟩ :=
  OpOk_val fun H β a w hr he => by
    obtain ⟨z, hzr, hzc⟩ := hC.zero.all hC.tab hz
    have hz0 := zeroT_rel hC.tab (H := H) (β := β) (σ := σ) zf t hz
    obtain ⟨gs, hg, hge⟩ := hC.tab.st hst
    have hall : ∀ f ∈ gs.toList, f.type < C.tb.rows.length := fun f hf => by
      obtain ⟨i, hi⟩ := List.getElem?_of_mem hf
      have hf2 : fs[i]? = some (f.type, f.offset) := by rw [← hge]; simp at hi ⊢; exact ⟨f, hi, rfl, rfl⟩
      have hp : plain C.tb zf t = true := hz
      have : ∃ n, zf = n + 1 := ⟨11, rfl⟩
      obtain ⟨n, hn⟩ := this
      rw [hn] at hp
      unfold plain at hp
      rw [hst] at hp
      simp only at hp
      have := List.all_eq_true.1 hp _ (List.mem_of_getElem? hf2)
      exact hC.tab.lt_of_td (plain_ne this)
    have hpl : ∀ (w : World) (gs : List Field), (∀ f ∈ gs, f.type < C.tb.rows.length) → (gs.mapM (fun f => do pure (f.offset, ← sizeOf f.type) : Field → Sem (Nat × Nat))).run C.P w = .ok (gs.map fun f => (f.offset, sz C.tb f.type)) w := by
      intro w gs
      induction gs with
      | nil => intro _; rfl
      | cons g gs ih =>
        intro h
        simp only [List.mapM_cons, Sem.run_bind, run_sizeOf_of hC.tab (h g (by simp)), Result.andThen, Sem.run_pure, ih (fun f hf => h f (by simp [hf]))]
        rfl
    obtain ⟨cs', k1, k2⟩ := fill_struct hC he hst (place := ((gs.map fun f => (f.offset, sz C.tb f.type))[·]?)) (fun i f hf => by
      rw [← hge] at hf
      simp only [List.getElem?_map, Option.map_eq_some_iff] at hf
      obtain ⟨g, hg1, rfl⟩ := hf
      simp only [Array.getElem?_map]
      simp at hg1
      rw [hg1]; rfl) ps.toList qs (zc C.tb zf t) _ hps hz0
    refine ⟨.agg cs'.toArray, fun w' hw' => ?_, DRel.t (by simp [VC, isAggT, hst]) k2⟩
    have hm := hpl w' gs.toList hall
    have hzca : z.cells = (zc C.tb zf t).toArray := by rw [← hzc]
    simp only [execOp, ho, Instr.build, Sem.run_bind, hzr, Result.andThen, run_underlying_of hC.tab hg]
    rw [Array.mapM_eq_mapM_toList]
    simp only [Sem.run_map, hm, Result.andThen]
    have hmap : (ps.map fun (i, x) => (i, a.eval x)).toList = ps.toList.map fun p => (p.1, a.eval p.2) := by simp
    have hk : Instr.fill (((gs.toList.map fun f => (f.offset, sz C.tb f.type)).toArray)[·]?) z.cells (ps.map fun (i, x) => (i, a.eval x)).toList = some cs'.toArray := by
      rw [hmap, hzca, ← k1]
      congr 1
      funext i
      simp
    rw [hk]
    rfl
end
end Go.Den
/- Law 33: leaves; what is gone through; conversions. -/
namespace Go.Den.Q33
open Go Go.Den Go.Proofs Go.Den.Q33.Dg
set_option maxRecDepth 8000
set_option linter.unusedVariables false
set_option linter.unusedSimpArgs false
open Go.Den.Q33.Sh (dgE)
open Go.Den.Q33.Me (Dig dsE All32 z0 rootB eqDg)

def cL (cs : List (List UInt8)) : List Dig := cs.map callB
def rL (rs : List Int) : List Dig := (List.range rs.length).map fun i => recB i (rs.getD i 0)
theorem cL_length (cs : List (List UInt8)) : (cL cs).length = cs.length := by simp [cL]
theorem rL_length (rs : List Int) : (rL rs).length = rs.length := by simp [rL]
theorem cL_all (cs : List (List UInt8)) : All32 (cL cs) := fun d hd => by
  obtain ⟨x, _, rfl⟩ := List.mem_map.1 hd; exact ofB_length _ _
theorem rL_all (rs : List Int) : All32 (rL rs) := fun d hd => by
  obtain ⟨x, _, rfl⟩ := List.mem_map.1 hd; exact ofB_length _ _
theorem cL_take (cs : List (List UInt8)) (i : Nat) (h : i < cs.length) : (cL cs).take (i + 1) = (cL cs).take i ++ [callB (cs.getD i [])] := by
  rw [List.take_add_one, List.getElem?_eq_getElem (by rw [cL_length]; exact h)]
  simp [cL, List.getD, h]
theorem rL_take (rs : List Int) (i : Nat) (h : i < rs.length) : (rL rs).take (i + 1) = (rL rs).take i ++ [recB i (rs.getD i 0)] := by
  rw [List.take_add_one, List.getElem?_eq_getElem (by rw [rL_length]; exact h)]
  simp [rL]
theorem str_get {cs : List (List UInt8)} {i : Nat} (h : i < cs.length) : (cs.map E.str).getD i .nilp = .str (cs.getD i []) := by simp [List.getD, h]
theorem int_get {rs : List Int} {i : Nat} (h : i < rs.length) : (rs.map E.int).getD i .nilp = .int (rs.getD i 0) := by simp [List.getD, h]
theorem getD_mem {cs : List (List UInt8)} {i : Nat} (h : i < cs.length) : cs.getD i [] ∈ cs := by
  simp [List.getD, h]
def Small (x : Bk) : Prop := x.cs.length ≤ 1000 ∧ x.rs.length ≤ 1000 ∧ ∀ s ∈ x.cs, s.length ≤ 30000

set_option maxHeartbeats 800000 in
theorem leaves_ok {x : Bk} (h : Small x) : FnOk Tryd.prog tb 28 [78, 28] [34, 34] [.nilp, x.E] [dsE (cL x.cs), dsE (rL x.rs)] := by
  refine FnOk_of_V (fn := Tryd.f28) (bt := 4) (ok 0 _) Tryd.func28 rfl rfl rfl (by decide) fun hw => ?_
  clear hw
  obtain ⟨xh, xp, xb, cs, rs, xs⟩ := x
  obtain ⟨hc, hr, hs⟩ := h
  simp only at hc hr hs ⊢
  have hcm : (cs.map E.str).length = cs.length := by simp
  have hrm : (rs.map E.int).length = rs.length := by simp
  apply V_of_VX
  refine VX_go4 (fs := []) (ok 0 _) eqs trivial 100 [] rfl trivial ?_
  refine VX_promote 6 (u := 24) rfl rfl ?_
  refine VX_loopA (fun i : Nat => i ≤ cs.length) (fun i => [(15, .t 3 (.e (.int i))), (14, .t 3 (.e (.int cs.length))), (13, .t 25 (.e (.sl (cs.map E.str)))), (7, .t 34 .nsl), (6, .t 34 (.lsl 1 (((cL cs).take i).map dgE))), (3, .ptr 0 []), (0, .t 78 (.e .nilp))])
    (fun i => [.tree 28 (.e (Bk.E ⟨xh, xp, xb, cs, rs, xs⟩)), .row 24 (((cL cs).take i).map dgE).length]) (fun i => cs.length - i) 0 (by omega) ?_ ?_
  · exact wk1 rfl rfl (by simp [Blk.under, T.under]) (lc (ls rfl rfl) (lc (li (by rw [hcm])) (lc (ls rfl rfl) (lc (ls rfl rfl) (lc (ls rfl rfl) (lc (ls rfl rfl) (lc (ls rfl rfl) lnil)))))))
  · intro i hi
    have htl : (((cL cs).take i).map dgE).length ≤ 1000 := by simp; omega
    refine VX_go4 (fs := []) (ok 0 _) eqs trivial 100 [] rfl trivial ?_
    refine VX_split 16 rfl rfl (fun h => ?_) (fun h => ?_)
    · have hi : i < cs.length := by simpa using h
      have ei : IntKind.wrap .i64 ((i : Int) + 1) = ((i + 1 : Nat) : Int) := by rw [w64 (by omega) (by omega)]; simp
      have hg := str_get hi
      have hb := hs _ (getD_mem hi)
      have hm : ((cL cs).take (i + 1)).map dgE = ((cL cs).take i).map dgE ++ [dgE (callB (cs.getD i []))] := by rw [cL_take cs i hi]; simp
      have c1 := (call_ok hb).g
      generalize callB (cs.getD i []) = d at c1 hm
      generalize cs.getD i [] = s at c1 hg
      generalize ((cL cs).take i).map dgE = O at hm htl ⊢
      refine VX_go4 (fs := []) (ok 0 _) eqs trivial 100 [9] rfl (by simp [allP]; omega) ?_
      refine VX_eq 18 rfl rfl (d' := .t 9 (.e (.str s))) (congrArg (fun x => D.t 9 (.e x)) hg) ?_
      refine VX_go4 (fs := []) (ok 0 _) eqs trivial 100 [] rfl trivial ?_
      refine VX_callD (ok 0 _) [78, 9] [] rfl rfl rfl rfl rfl rfl c1 rfl rfl rfl ?_
      refine VX_go4 (fs := []) (ok 0 _) eqs trivial 100 [] rfl (by simp [allP, nb, tb, maxL]; omega) ?_
      refine loop_nrm ⟨i + 1, by omega, by omega, ?_⟩
      exact wk1 (by rw [hm]) rfl (by simp [Blk.under, T.under]) (lc (li (by rw [ei])) (lc (ls rfl rfl) (lc (ls rfl rfl) (lc (ls rfl rfl) (lc (ls (by rw [hm]; rfl) rfl) (lc (ls rfl rfl) (lc (ls rfl rfl) lnil)))))))
    · have hi' : i = cs.length := by simp at h; omega
      subst hi'
      have : (cL cs).take cs.length = cL cs := List.take_of_length_le (by rw [cL_length]; exact Nat.le_refl _)
      rw [this]
      generalize cL cs = A
      refine VX_go4 (fs := []) (ok 0 _) eqs trivial 100 [] rfl trivial ?_
      apply loop_brk
      refine VX_go4 (fs := []) (ok 0 _) eqs trivial 100 [] rfl trivial ?_
      refine VX_promote 7 (u := 24) rfl rfl ?_
      refine VX_loopA (fun i : Nat => i ≤ rs.length) (fun i => [(29, .t 3 (.e (.int i))), (28, .t 3 (.e (.int rs.length))), (27, .t 26 (.e (.sl (rs.map E.int)))), (7, .t 34 (.lsl 2 (((rL rs).take i).map dgE))), (6, .t 34 (.lsl 1 (A.map dgE))), (3, .ptr 0 []), (0, .t 78 (.e .nilp))])
        (fun i => [.tree 28 (.e (Bk.E ⟨xh, xp, xb, cs, rs, xs⟩)), .row 24 (A.map dgE).length, .row 24 (((rL rs).take i).map dgE).length]) (fun i => rs.length - i) 0 (by omega) ?_ ?_
      · exact wk1 rfl rfl (by simp [Blk.under, T.under]) (lc (ls rfl rfl) (lc (li (by rw [hrm])) (lc (ls rfl rfl) (lc (ls rfl rfl) (lc (ls rfl rfl) (lc (ls rfl rfl) (lc (ls rfl rfl) lnil)))))))
      · intro i hi
        have htl : (((rL rs).take i).map dgE).length ≤ 1000 := by simp; omega
        refine VX_go4 (fs := []) (ok 0 _) eqs trivial 100 [] rfl trivial ?_
        refine VX_split 30 rfl rfl (fun h => ?_) (fun h => ?_)
        · have hi : i < rs.length := by simpa using h
          have ei : IntKind.wrap .i64 ((i : Int) + 1) = ((i + 1 : Nat) : Int) := by rw [w64 (by omega) (by omega)]; simp
          have hg := int_get hi
          have hm : ((rL rs).take (i + 1)).map dgE = ((rL rs).take i).map dgE ++ [dgE (recB i (rs.getD i 0))] := by rw [rL_take rs i hi]; simp
          have c1 := (rec_ok (i := i) (by omega) (rs.getD i 0)).g
          generalize recB i (rs.getD i 0) = d at c1 hm
          generalize rs.getD i 0 = s at c1 hg
          generalize ((rL rs).take i).map dgE = O at hm htl ⊢
          refine VX_go4 (fs := []) (ok 0 _) eqs trivial 100 [11] rfl (by simp [allP]; omega) ?_
          refine VX_eq 33 rfl rfl (d' := .t 33 (.e (.int s))) (congrArg (fun x => D.t 33 (.e x)) hg) ?_
          refine VX_go4 (fs := []) (ok 0 _) eqs trivial 100 [] rfl trivial ?_
          refine VX_callD (ok 0 _) [78, 3, 33] [] rfl rfl rfl rfl rfl rfl c1 rfl rfl rfl ?_
          refine VX_go4 (fs := []) (ok 0 _) eqs trivial 100 [] rfl (by simp [allP, nb, tb, maxL]; omega) ?_
          refine loop_nrm ⟨i + 1, by omega, by omega, ?_⟩
          exact wk1 (by rw [hm]) rfl (by simp [Blk.under, T.under]) (lc (li (by rw [ei])) (lc (ls rfl rfl) (lc (ls rfl rfl) (lc (ls (by rw [hm]; rfl) rfl) (lc (ls rfl rfl) (lc (ls rfl rfl) (lc (ls rfl rfl) lnil)))))))
        · have hi' : i = rs.length := by simp at h; omega
          subst hi'
          have : (rL rs).take rs.length = rL rs := List.take_of_length_le (by rw [rL_length]; exact Nat.le_refl _)
          rw [this]
          generalize rL rs = R
          refine VX_go4 (fs := []) (ok 0 _) eqs trivial 100 [] rfl trivial ?_
          apply loop_brk
          refine VX_go4 (fs := []) (ok 0 _) eqs trivial 100 [] rfl trivial ?_
          exact ⟨.inr rfl, rfl⟩
set_option maxHeartbeats 800000 in
theorem rleaves_ok {x : Bk} (h : Small x) : FnOk Tryd.prog tb 30 [61, 47] [34, 34] [.nilp, x.E] [dsE (cL x.cs), dsE (rL x.rs)] := by
  refine FnOk_of_V (fn := Tryd.f30) (bt := 4) (ok 0 _) Tryd.func30 rfl rfl rfl (by decide) fun hw => ?_
  clear hw
  obtain ⟨xh, xp, xb, cs, rs, xs⟩ := x
  obtain ⟨hc, hr, hs⟩ := h
  simp only at hc hr hs ⊢
  have hcm : (cs.map E.str).length = cs.length := by simp
  have hrm : (rs.map E.int).length = rs.length := by simp
  apply V_of_VX
  refine VX_go4 (fs := []) (ok 0 _) eqs trivial 100 [] rfl trivial ?_
  refine VX_promote 6 (u := 24) rfl rfl ?_
  refine VX_loopA (fun i : Nat => i ≤ cs.length) (fun i => [(13, .t 3 (.e (.int i))), (12, .t 3 (.e (.int cs.length))), (7, .t 34 .nsl), (6, .t 34 (.lsl 1 (((cL cs).take i).map dgE))), (3, .ptr 0 []), (0, .t 61 (.e .nilp))])
    (fun i => [.tree 47 (.e (Bk.E ⟨xh, xp, xb, cs, rs, xs⟩)), .row 24 (((cL cs).take i).map dgE).length]) (fun i => cs.length - i) 0 (by omega) ?_ ?_
  · exact wk1 rfl rfl (by simp [Blk.under, T.under]) (lc (ls rfl rfl) (lc (li (by rw [hcm])) (lc (ls rfl rfl) (lc (ls rfl rfl) (lc (ls rfl rfl) (lc (ls rfl rfl) lnil))))))
  · intro i hi
    have htl : (((cL cs).take i).map dgE).length ≤ 1000 := by simp; omega
    refine VX_go4 (fs := []) (ok 0 _) eqs trivial 100 [] rfl trivial ?_
    refine VX_split 14 rfl rfl (fun h => ?_) (fun h => ?_)
    · have hi : i < cs.length := by simpa using h
      have ei : IntKind.wrap .i64 ((i : Int) + 1) = ((i + 1 : Nat) : Int) := by rw [w64 (by omega) (by omega)]; simp
      have hg := str_get hi
      have hb := hs _ (getD_mem hi)
      have hm : ((cL cs).take (i + 1)).map dgE = ((cL cs).take i).map dgE ++ [dgE (callB (cs.getD i []))] := by rw [cL_take cs i hi]; simp
      have c1 := (rof_nil 203 [cs.getD i []] (call_input hb)).g
      have hd : callB (cs.getD i []) = ofB 203 [cs.getD i []] := rfl
      rw [hd] at hm
      generalize ofB 203 [cs.getD i []] = d at c1 hm
      generalize cs.getD i [] = s at c1 hg
      generalize ((cL cs).take i).map dgE = O at hm htl ⊢
      refine VX_go4 (fs := []) (ok 0 _) eqs trivial 100 [23] rfl (by simp [allP]; omega) ?_
      refine VX_eq 22 rfl rfl (d' := .t 9 (.e (.str s))) (congrArg (fun x => D.t 9 (.e x)) hg) ?_
      refine VX_go4 (fs := []) (ok 0 _) eqs trivial 100 [] rfl trivial ?_
      refine VX_callD (ok 0 _) [61, 5, 25] [] rfl rfl rfl rfl rfl rfl c1 rfl rfl rfl ?_
      refine VX_go4 (fs := []) (ok 0 _) eqs trivial 100 [] rfl (by simp [allP, nb, tb, maxL]; omega) ?_
      refine loop_nrm ⟨i + 1, by omega, by omega, ?_⟩
      exact wk1 (by rw [hm]) rfl (by simp [Blk.under, T.under]) (lc (li (by rw [ei])) (lc (ls rfl rfl) (lc (ls rfl rfl) (lc (ls (by rw [hm]; rfl) rfl) (lc (ls rfl rfl) (lc (ls rfl rfl) lnil))))))
    · have hi' : i = cs.length := by simp at h; omega
      subst hi'
      have : (cL cs).take cs.length = cL cs := List.take_of_length_le (by rw [cL_length]; exact Nat.le_refl _)
      rw [this]
      generalize cL cs = A
      refine VX_go4 (fs := []) (ok 0 _) eqs trivial 100 [] rfl trivial ?_
      apply loop_brk
      refine VX_go4 (fs := []) (ok 0 _) eqs trivial 100 [] rfl trivial ?_
      refine VX_promote 7 (u := 24) rfl rfl ?_
      refine VX_loopA (fun i : Nat => i ≤ rs.length) (fun i => [(31, .t 3 (.e (.int i))), (30, .t 3 (.e (.int rs.length))), (7, .t 34 (.lsl 2 (((rL rs).take i).map dgE))), (6, .t 34 (.lsl 1 (A.map dgE))), (3, .ptr 0 []), (0, .t 61 (.e .nilp))])
        (fun i => [.tree 47 (.e (Bk.E ⟨xh, xp, xb, cs, rs, xs⟩)), .row 24 (A.map dgE).length, .row 24 (((rL rs).take i).map dgE).length]) (fun i => rs.length - i) 0 (by omega) ?_ ?_
      · exact wk1 rfl rfl (by simp [Blk.under, T.under]) (lc (ls rfl rfl) (lc (li (by rw [hrm])) (lc (ls rfl rfl) (lc (ls rfl rfl) (lc (ls rfl rfl) (lc (ls rfl rfl) lnil))))))
      · intro i hi
        have htl : (((rL rs).take i).map dgE).length ≤ 1000 := by simp; omega
        refine VX_go4 (fs := []) (ok 0 _) eqs trivial 100 [] rfl trivial ?_
        refine VX_split 32 rfl rfl (fun h => ?_) (fun h => ?_)
        · have hi : i < rs.length := by simpa using h
          have ei : IntKind.wrap .i64 ((i : Int) + 1) = ((i + 1 : Nat) : Int) := by rw [w64 (by omega) (by omega)]; simp
          have hg := int_get hi
          have hm : ((rL rs).take (i + 1)).map dgE = ((rL rs).take i).map dgE ++ [dgE (recB i (rs.getD i 0))] := by rw [rL_take rs i hi]; simp
          have c1 := (rrec_ok (i := i) (by omega) (rs.getD i 0)).g
          generalize recB i (rs.getD i 0) = d at c1 hm
          generalize rs.getD i 0 = s at c1 hg
          generalize ((rL rs).take i).map dgE = O at hm htl ⊢
          refine VX_go4 (fs := []) (ok 0 _) eqs trivial 100 [38] rfl trivial ?_
          refine VX_eq 37 rfl rfl (d' := .t 22 (.e (.int i))) (congrArg (fun x => D.t 22 (.e (.int x))) (u64n i (by omega))) ?_
          refine VX_go4 (fs := []) (ok 0 _) eqs trivial 100 [43] rfl (by simp [allP]; omega) ?_
          refine VX_eq 42 rfl rfl (d' := .t 3 (.e (.int s))) (congrArg (fun x => D.t 3 (.e x)) hg) ?_
          refine VX_callD (ok 0 _) [61, 22, 3] [] rfl rfl rfl rfl rfl rfl c1 rfl rfl rfl ?_
          refine VX_go4 (fs := []) (ok 0 _) eqs trivial 100 [] rfl (by simp [allP, nb, tb, maxL]; omega) ?_
          refine loop_nrm ⟨i + 1, by omega, by omega, ?_⟩
          exact wk1 (by rw [hm]) rfl (by simp [Blk.under, T.under]) (lc (li (by rw [ei])) (lc (ls rfl rfl) (lc (ls (by rw [hm]; rfl) rfl) (lc (ls rfl rfl) (lc (ls rfl rfl) (lc (ls rfl rfl) lnil))))))
        · have hi' : i = rs.length := by simp at h; omega
          subst hi'
          have : (rL rs).take rs.length = rL rs := List.take_of_length_le (by rw [rL_length]; exact Nat.le_refl _)
          rw [this]
          generalize rL rs = R
          refine VX_go4 (fs := []) (ok 0 _) eqs trivial 100 [] rfl trivial ?_
          apply loop_brk
          refine VX_go4 (fs := []) (ok 0 _) eqs trivial 100 [] rfl trivial ?_
          exact ⟨.inr rfl, rfl⟩

/-! ### conversions -/
set_option maxHeartbeats 800000 in
theorem to_ok (x : Bk) (hr : x.rs.length ≤ 100000) : FnOk Tryd.prog tb 11 [28] [47] [x.E] [x.E] := by
  refine FnOk_of_V (fn := Tryd.f11) (bt := 4) (ok 0 _) Tryd.func11 rfl rfl rfl (by decide) fun hw => ?_
  clear hw
  obtain ⟨xh, xp, xb, cs, rs, xs⟩ := x
  simp only at hr
  have hrm : (rs.map E.int).length = rs.length := by simp
  apply V_of_VX
  refine VX_go4 (fs := []) (ok 0 _) eqs trivial 100 [16] rfl trivial ?_
  refine VX_op rfl rfl (Ok_buildT (ok 0 _) rfl rfl rfl rfl).v ?_
  rintro d s ⟨rfl, rfl⟩
  refine VX_go4 (fs := []) (ok 0 _) eqs trivial 100 [] rfl trivial ?_
  refine VX_promT (ok 0 _) rfl 2 [4] rfl rfl rfl rfl rfl ?_
  refine VX_loopA (fun i : Nat => i ≤ rs.length) (fun i => [(20, .t 3 (.e (.int i))), (19, .t 3 (.e (.int rs.length))), (18, .t 26 (.e (.sl (rs.map E.int)))), (3, .ptr 2 []), (2, .ptr 1 [])])
    (fun i => [.tree 28 (.e (Bk.E ⟨xh, xp, xb, cs, rs, xs⟩)), .tree 47 (.st [.e (.int 0), .e (dgE z0), .e (.int 0), .nsl, .nsl, .e (dgE z0)]), .tree 47 (.st [.e (.int xh), .e (dgE xp), .e (.int xb), .e (.sl (cs.map E.str)), .lsl 3 ((rs.take i).map E.int), .e (dgE xs)]), .row 3 ((rs.take i).map E.int).length]) (fun i => rs.length - i) 0 (by omega) ?_ ?_
  · exact wk1 rfl rfl (by simp [Blk.under, T.under, T.unders]) (lc (ls rfl rfl) (lc (li (by rw [hrm])) (lc (ls rfl rfl) (lc (ls rfl rfl) (lc (ls rfl rfl) lnil)))))
  · intro i hi
    have htl : ((rs.take i).map E.int).length ≤ 100000 := by simp; omega
    refine VX_go4 (fs := []) (ok 0 _) eqs trivial 100 [] rfl trivial ?_
    refine VX_split 21 rfl rfl (fun h => ?_) (fun h => ?_)
    · have hi : i < rs.length := by simpa using h
      have ei : IntKind.wrap .i64 ((i : Int) + 1) = ((i + 1 : Nat) : Int) := by rw [w64 (by omega) (by omega)]; simp
      have hg := int_get hi
      have hm : (rs.take (i + 1)).map E.int = (rs.take i).map E.int ++ [.int (rs.getD i 0)] := by
        rw [List.take_add_one, List.getElem?_eq_getElem hi, List.map_append]; simp [List.getD, hi]
      generalize rs.getD i 0 = r at hg hm
      generalize (rs.take i).map E.int = O at hm htl ⊢
      refine VX_go4 (fs := []) (ok 0 _) eqs trivial 100 [5] rfl (by simp [allP]; omega) ?_
      refine VX_eq 23 rfl rfl (d' := .t 33 (.e (.int r))) (congrArg (fun x => D.t 33 (.e x)) hg) ?_
      refine VX_go4 (fs := []) (ok 0 _) eqs trivial 100 [] rfl (by simp [allP, nb, tb, maxL]; omega) ?_
      refine loop_nrm ⟨i + 1, by omega, by omega, ?_⟩
      exact wk1 (by rw [hm]; rfl) rfl (by simp [Blk.under, T.under, T.unders]) (lc (li (by rw [ei])) (lc (ls rfl rfl) (lc (ls rfl rfl) (lc (ls rfl rfl) (lc (ls rfl rfl) lnil)))))
    · have hi' : i = rs.length := by simp at h; omega
      subst hi'
      rw [List.take_length]
      refine VX_go4 (fs := []) (ok 0 _) eqs trivial 100 [] rfl trivial ?_
      apply loop_brk
      refine VX_go4 (fs := []) (ok 0 _) eqs trivial 100 [] rfl trivial ?_
      exact ⟨.inr rfl, rfl⟩
structure Pf where
  a : Nat
  c : List UInt8
  e : Int
  cs : List Dig
  rs : List Dig
def Pf.E (x : Pf) : E := .agg [.int x.a, .str x.c, .int x.e, dsE x.cs, dsE x.rs]
theorem proof_ok (x : Pf) : FnOk Tryd.prog tb 13 [36] [42] [x.E] [x.E] := by
  refine FnOk_of_V (fn := Tryd.f13) (bt := 4) (ok 0 _) Tryd.func13 rfl rfl rfl (by decide) fun hw => ?_
  clear hw
  obtain ⟨a, c, e, cs, rs⟩ := x
  apply V_of_VX
  refine VX_go4 (fs := []) (ok 0 _) eqs trivial 100 [] rfl trivial ?_
  exact ⟨.inr rfl, rfl⟩
theorem same_ok (x : Pf) (h1 : x.cs.length ≤ 100000) (h2 : x.rs.length ≤ 100000) : FnOk Tryd.prog tb 12 [42, 42] [4] [x.E, x.E] [.bool true] := by
  refine FnOk_of_V (fn := Tryd.f12) (bt := 4) (ok 0 _) Tryd.func12 rfl rfl rfl (by decide) fun hw => ?_
  clear hw
  obtain ⟨a, c, e, cs, rs⟩ := x
  simp only at h1 h2
  apply V_of_VX
  refine VX_go4 (fs := []) (ok 0 _) eqs trivial 100 [] rfl trivial ?_
  refine VX_known 10 true rfl rfl (by simp) ?_
  refine VX_go4 (fs := []) (ok 0 _) eqs trivial 100 [] rfl trivial ?_
  refine VX_known 17 true rfl rfl (by simp) ?_
  refine VX_go4 (fs := []) (ok 0 _) eqs trivial 100 [] rfl trivial ?_
  refine VX_known 24 true rfl rfl (by simp) ?_
  refine VX_go4 (fs := []) (ok 0 _) eqs trivial 100 [] rfl trivial ?_
  refine VX_callD (ok 0 _) [34, 34] [] rfl rfl rfl rfl rfl rfl (Me.sameList_ok (L := cs) h1).g rfl rfl rfl ?_
  refine VX_go4 (fs := []) (ok 0 _) eqs trivial 100 [] rfl trivial ?_
  refine VX_known 31 true rfl rfl rfl ?_
  refine VX_go4 (fs := []) (ok 0 _) eqs trivial 100 [] rfl trivial ?_
  refine VX_callD (ok 0 _) [34, 34] [] rfl rfl rfl rfl rfl rfl (Me.sameList_ok (L := rs) h2).g rfl rfl rfl ?_
  refine VX_go4 (fs := []) (ok 0 _) eqs trivial 100 [] rfl trivial ?_
  exact ⟨.inr rfl, rfl⟩

def z0h : Hd := ⟨0, z0, 0, z0, z0, z0, 0⟩
def hsE (hs : List Hd) : E := .sl (hs.map Hd.E)
def liE (hs : List Hd) : E := .agg [hsE hs]
theorem hd_get {hs : List Hd} {i : Nat} (h : i < hs.length) : (hs.map Hd.E).getD i .nilp = (hs.getD i z0h).E := by simp [List.getD, h]
theorem hd_take (hs : List Hd) (i : Nat) (h : i < hs.length) : (hs.take (i + 1)).map Hd.E = (hs.take i).map Hd.E ++ [(hs.getD i z0h).E] := by
  rw [List.take_add_one, List.getElem?_eq_getElem h, List.map_append]; simp [List.getD, h]
theorem heads_ok (hs : List Hd) (hl : hs.length ≤ 100000) : FnOk Tryd.prog tb 16 [31] [53] [liE hs] [hsE hs] := by
  refine FnOk_of_V (fn := Tryd.f16) (bt := 4) (ok 0 _) Tryd.func16 rfl rfl rfl (by decide) fun hw => ?_
  clear hw
  have hrm : (hs.map Hd.E).length = hs.length := by simp
  apply V_of_VX
  refine VX_go4 (fs := []) (ok 0 _) eqs trivial 100 [] rfl trivial ?_
  refine VX_promote 3 (u := 63) rfl rfl ?_
  refine VX_loopA (fun i : Nat => i ≤ hs.length) (fun i => [(9, .t 3 (.e (.int i))), (8, .t 3 (.e (.int hs.length))), (7, .t 29 (.e (hsE hs))), (3, .t 53 (.lsl 1 ((hs.take i).map Hd.E)))])
    (fun i => [.tree 31 (.e (liE hs)), .row 63 ((hs.take i).map Hd.E).length]) (fun i => hs.length - i) 0 (by omega) ?_ ?_
  · exact wk1 rfl rfl (by simp [Blk.under, T.under]) (lc (ls rfl rfl) (lc (li (by rw [hrm])) (lc (ls rfl rfl) (lc (ls rfl rfl) lnil))))
  · intro i hi
    have htl : ((hs.take i).map Hd.E).length ≤ 100000 := by simp; omega
    refine VX_go4 (fs := []) (ok 0 _) eqs trivial 100 [] rfl trivial ?_
    refine VX_split 10 rfl rfl (fun h => ?_) (fun h => ?_)
    · have hi : i < hs.length := by simpa using h
      have ei : IntKind.wrap .i64 ((i : Int) + 1) = ((i + 1 : Nat) : Int) := by rw [w64 (by omega) (by omega)]; simp
      have hg := hd_get hi
      have hm := hd_take hs i hi
      generalize hs.getD i z0h = r at hg hm
      obtain ⟨r1, r2, r3, r4, r5, r6, r7⟩ := r
      generalize (hs.take i).map Hd.E = O at hm htl ⊢
      refine VX_go4 (fs := []) (ok 0 _) eqs trivial 100 [5] rfl (by simp [allP]; omega) ?_
      refine VX_eq 12 rfl rfl (d' := .t 59 (.e (Hd.E ⟨r1, r2, r3, r4, r5, r6, r7⟩))) (congrArg (fun x => D.t 59 (.e x)) hg) ?_
      refine VX_go4 (fs := []) (ok 0 _) eqs trivial 100 [] rfl (by simp [allP, nb, tb, maxL]; omega) ?_
      refine loop_nrm ⟨i + 1, by omega, by omega, ?_⟩
      exact wkc [.tree 59 (.e (Hd.E ⟨r1, r2, r3, r4, r5, r6, r7⟩))] (by rw [hm]; rfl) rfl (by simp [Blk.under, T.under]) (lc (li (by rw [ei])) (lc (ls rfl rfl) (lc (ls rfl rfl) (lc (ls (by rw [hm]; rfl) rfl) lnil))))
    · have hi' : i = hs.length := by simp at h; omega
      subst hi'
      rw [List.take_length]
      refine VX_go4 (fs := []) (ok 0 _) eqs trivial 100 [] rfl trivial ?_
      apply loop_brk
      refine VX_go4 (fs := []) (ok 0 _) eqs trivial 100 [] rfl trivial ?_
      exact ⟨.inr rfl, rfl⟩

/-! ### what is gone through -/
def lightB (cs : List (List UInt8)) : Bool := cs.all fun s => decide (s.length ≤ 21000)
theorem light_ok (cs : List (List UInt8)) (hc : cs.length ≤ 12) : FnOk Tryd.prog tb 27 [25, 3] [4] [.sl (cs.map E.str), .int 12] [.bool (lightB cs)] := by
  refine FnOk_of_V (fn := Tryd.f27) (bt := 4) (ok 0 _) Tryd.func27 rfl rfl rfl (by decide) fun hw => ?_
  clear hw
  have hcm : (cs.map E.str).length = cs.length := by simp
  apply V_of_VX
  refine VX_go4 (fs := []) (ok 0 _) eqs trivial 100 [] rfl trivial ?_
  refine VX_loopA (fun i : Nat => i ≤ cs.length ∧ ∀ j, j < i → (cs.getD j []).length ≤ 21000) (fun i => [(9, .t 3 (.e (.int i))), (8, .t 3 (.e (.int cs.length))), (7, .t 25 (.e (.sl (cs.map E.str)))), (1, .t 3 (.e (.int 12))), (0, .t 25 (.e (.sl (cs.map E.str))))])
    (fun i => []) (fun i => cs.length - i) 0 ⟨by omega, fun j h => by omega⟩ ?_ ?_
  · exact wk1 rfl rfl (by simp) (lc (ls rfl rfl) (lc (li (by rw [hcm])) (lc (ls rfl rfl) (lc (ls rfl rfl) (lc (ls rfl rfl) lnil)))))
  · rintro i ⟨hi, hall⟩
    refine VX_go4 (fs := []) (ok 0 _) eqs trivial 100 [] rfl trivial ?_
    refine VX_split 10 rfl rfl (fun h => ?_) (fun h => ?_)
    · have hi : i < cs.length := by simpa using h
      have ei : IntKind.wrap .i64 ((i : Int) + 1) = ((i + 1 : Nat) : Int) := by rw [w64 (by omega) (by omega)]; simp
      have hg := str_get hi
      have hno : ¬ (cs.getD i []).length ≤ 21000 → lightB cs = false := fun hn => by
        cases hb : lightB cs with
        | false => rfl
        | true =>
          have := List.all_eq_true.1 hb _ (getD_mem hi)
          simp only [decide_eq_true_eq] at this
          exact absurd this hn
      have hnx : (cs.getD i []).length ≤ 21000 → ∀ j, j < i + 1 → (cs.getD j []).length ≤ 21000 := fun hn j hj => by
        rcases Nat.lt_or_ge j i with h | h
        · exact hall j h
        · rw [show j = i by omega]; exact hn
      generalize cs.getD i [] = s at hg hno hnx
      refine VX_go4 (fs := []) (ok 0 _) eqs trivial 100 [6] rfl (by simp [allP]; omega) ?_
      refine VX_eq 12 rfl rfl (d' := .t 9 (.e (.str s))) (congrArg (fun x => D.t 9 (.e x)) hg) ?_
      refine VX_go4 (fs := []) (ok 0 _) eqs trivial 100 [] rfl trivial ?_
      refine VX_known 17 false rfl rfl (by simp; omega) ?_
      refine VX_go4 (fs := []) (ok 0 _) eqs trivial 100 [] rfl trivial ?_
      refine VX_split 21 rfl rfl (fun h => ?_) (fun h => ?_)
      · have h1 : ¬ s.length ≤ 21000 := by simp at h; omega
        rw [hno h1]
        refine VX_go4 (fs := []) (ok 0 _) eqs trivial 100 [] rfl trivial ?_
        apply loop_ret
        exact ⟨.inr rfl, rfl⟩
      · have h1 : s.length ≤ 21000 := by simp at h; omega
        refine VX_go4 (fs := []) (ok 0 _) eqs trivial 100 [] rfl trivial ?_
        refine loop_nrm ⟨i + 1, by omega, ⟨by omega, hnx h1⟩, ?_⟩
        exact wk1 rfl rfl (by simp) (lc (li (by rw [ei])) (lc (ls rfl rfl) (lc (ls rfl rfl) (lc (ls rfl rfl) (lc (ls rfl rfl) lnil)))))
    · have hi' : i = cs.length := by simp at h; omega
      subst hi'
      have hb : lightB cs = true := List.all_eq_true.2 fun s hs => by
        obtain ⟨j, hj, rfl⟩ := List.getElem_of_mem hs
        have := hall j hj
        simpa [List.getD, hj] using this
      rw [hb]
      refine VX_go4 (fs := []) (ok 0 _) eqs trivial 100 [] rfl trivial ?_
      apply loop_brk
      refine VX_go4 (fs := []) (ok 0 _) eqs trivial 100 [] rfl trivial ?_
      exact ⟨.inr rfl, rfl⟩
def fewB (x : Bk) : Bool := decide (x.cs.length ≤ 12) && decide (x.rs.length ≤ 12) && lightB x.cs
theorem few_small {x : Bk} (h : fewB x = true) : Small x ∧ x.cs.length ≤ 12 ∧ x.rs.length ≤ 12 := by
  simp only [fewB, Bool.and_eq_true, decide_eq_true_eq] at h
  refine ⟨⟨by omega, by omega, fun s hs => ?_⟩, h.1.1, h.1.2⟩
  have := List.all_eq_true.1 h.2 s hs
  simp only [decide_eq_true_eq] at this; omega
theorem few_ok (x : Bk) : FnOk Tryd.prog tb 8 [28] [4] [x.E] [.bool (fewB x)] := by
  refine FnOk_of_V (fn := Tryd.f8) (bt := 4) (ok 0 _) Tryd.func8 rfl rfl rfl (by decide) fun hw => ?_
  clear hw
  obtain ⟨xh, xp, xb, cs, rs, xs⟩ := x
  have hcm : (cs.map E.str).length = cs.length := by simp
  have hrm : (rs.map E.int).length = rs.length := by simp
  unfold fewB
  simp only
  apply V_of_VX
  refine VX_go4 (fs := []) (ok 0 _) eqs trivial 100 [] rfl trivial ?_
  refine VX_split 7 rfl rfl (fun h => ?_) (fun h => ?_)
  · have h1 : cs.length ≤ 12 := by simp only [hcm, decide_eq_true_eq] at h; omega
    rw [decide_eq_true h1, Bool.true_and]
    refine VX_go4 (fs := []) (ok 0 _) eqs trivial 100 [] rfl trivial ?_
    refine VX_split 13 rfl rfl (fun h => ?_) (fun h => ?_)
    · have h2 : rs.length ≤ 12 := by simp only [hrm, decide_eq_true_eq] at h; omega
      rw [decide_eq_true h2, Bool.true_and]
      refine VX_go4 (fs := []) (ok 0 _) eqs trivial 100 [] rfl trivial ?_
      refine VX_callD (ok 0 _) [25, 3] [] rfl rfl rfl rfl rfl rfl (light_ok cs h1).g rfl rfl rfl ?_
      refine VX_go4 (fs := []) (ok 0 _) eqs trivial 100 [] rfl trivial ?_
      exact ⟨.inr rfl, rfl⟩
    · have h2 : ¬ rs.length ≤ 12 := by simp only [hrm, decide_eq_false_iff_not] at h; omega
      rw [decide_eq_false h2, Bool.false_and]
      refine VX_go4 (fs := []) (ok 0 _) eqs trivial 100 [] rfl trivial ?_
      exact ⟨.inr rfl, rfl⟩
  · have h1 : ¬ cs.length ≤ 12 := by simp only [hcm, decide_eq_false_iff_not] at h; omega
    rw [decide_eq_false h1, Bool.false_and, Bool.false_and]
    refine VX_go4 (fs := []) (ok 0 _) eqs trivial 100 [] rfl trivial ?_
    exact ⟨.inr rfl, rfl⟩
end Go.Den.Q33
/- Law 33: heads of blocks; what may follow. -/
namespace Go.Den.Q33
open Go Go.Den Go.Proofs Go.Den.Q33.Dg
set_option maxRecDepth 8000
set_option linter.unusedVariables false
set_option linter.unusedSimpArgs false
open Go.Den.Q33.Sh (dgE)
open Go.Den.Q33.Me (Dig dsE All32 z0 rootB eqDg)

theorem first_ok (L : List Dig) (h : L.length ≤ 4096) : FnOk Tryd.prog tb 61 [34] [34] [dsE L] [dsE L] := by
  refine FnOk_of_V (fn := Tryd.f61) (bt := 4) (ok 0 _) Tryd.func61 rfl rfl rfl (by decide) fun hw => ?_
  clear hw
  apply V_of_VX
  refine VX_go4 (fs := []) (ok 0 _) eqs trivial 100 [] rfl trivial ?_
  refine VX_known 5 false rfl rfl (by simp; omega) ?_
  refine VX_go4 (fs := []) (ok 0 _) eqs trivial 100 [] rfl trivial ?_
  exact ⟨.inr rfl, rfl⟩
theorem rof_ok {L : List Dig} (h : L.length ≤ 4096) (hL : All32 L) : FnOk Tryd.prog tb 44 [61, 34] [24] [.nilp, dsE L] [dgE (rootB L)] := by
  refine FnOk_of_V (fn := Tryd.f44) (bt := 4) (ok 0 _) Tryd.func44 rfl rfl rfl (by decide) fun hw => ?_
  clear hw
  apply V_of_VX
  have c1 := Me.rnoughts_ok.g
  have c2 := (first_ok L h).g
  have c3 := (Me.rnode_ok (by omega) hL 32 0 (by omega) (by simp)).g
  have hr : rootB L = Me.nd L 32 0 := rfl
  rw [hr]
  generalize Me.nd L 32 0 = r at c3 ⊢
  generalize Me.zP 32 = Z at c1 c3
  refine VX_go4 (fs := []) (ok 0 _) eqs trivial 100 [] rfl trivial ?_
  refine VX_callD (ok 0 _) [61] [] rfl rfl rfl rfl rfl rfl c1 rfl rfl rfl ?_
  refine VX_go4 (fs := []) (ok 0 _) eqs trivial 100 [] rfl trivial ?_
  refine VX_callD (ok 0 _) [34] [] rfl rfl rfl rfl rfl rfl c2 rfl rfl rfl ?_
  refine VX_callD (ok 0 _) [61, 34, 34, 3, 3] [] rfl rfl rfl rfl rfl rfl c3 rfl rfl rfl ?_
  refine VX_go4 (fs := []) (ok 0 _) eqs trivial 100 [] rfl trivial ?_
  exact ⟨.inr rfl, rfl⟩

def ofHB (x : Bk) (p : Dig) : Hd := ⟨x.h, p, x.b, x.s, rootB (cL x.cs), rootB (rL x.rs), x.cs.length⟩
theorem root_len {L : List Dig} (h : All32 L) : (rootB L).length = 32 := Me.nd_length h 32 0
theorem ofHB_ok {x : Bk} (h : x.ok) (hs : Small x) {p : Dig} (hp : p.length = 32) : (ofHB x p).ok :=
  ⟨h.h, hp, h.b, h.s, root_len (cL_all _), root_len (rL_all _), by have := hs.1; show x.cs.length < _; omega⟩
theorem of_ok {x : Bk} (hs : Small x) (p : Dig) : FnOk Tryd.prog tb 18 [78, 28, 24] [59] [.nilp, x.E, dgE p] [(ofHB x p).E] := by
  refine FnOk_of_V (fn := Tryd.f18) (bt := 4) (ok 0 _) Tryd.func18 rfl rfl rfl (by decide) fun hw => ?_
  clear hw
  have c1 := (leaves_ok hs).g
  have c2 := (Me.of_ok (L := cL x.cs) (by rw [cL_length]; have := hs.1; omega) (cL_all _)).g
  have c3 := (Me.of_ok (L := rL x.rs) (by rw [rL_length]; have := hs.2.1; omega) (rL_all _)).g
  have hl := hs.1
  obtain ⟨xh, xp, xb, cs, rs, xs⟩ := x
  unfold ofHB
  simp only at c1 c2 c3 hl ⊢
  have hcm : (cs.map E.str).length = cs.length := by simp
  have e31 : IntKind.wrap .u32 ((((cs.map E.str).length : Nat) : Int)) = (cs.length : Int) := by rw [hcm]; exact u32n _ (by omega)
  generalize rootB (cL cs) = A at c2 ⊢
  generalize rootB (rL rs) = B at c3 ⊢
  generalize cL cs = LA at c1 c2
  generalize rL rs = LB at c1 c3
  apply V_of_VX
  refine VX_go4 (fs := []) (ok 0 _) eqs trivial 100 [] rfl trivial ?_
  refine VX_callD (ok 0 _) [78, 28] [] rfl rfl rfl rfl rfl rfl c1 rfl rfl rfl ?_
  refine VX_go4 (fs := []) (ok 0 _) eqs trivial 100 [] rfl trivial ?_
  refine VX_draw [2] [(0, true), (1, true), (2, true), (3, true), (4, true), (5, true), (6, true), (7, true), (8, true), (10, true), (11, true), (13, true), (14, true), (15, true), (16, true), (9, false), (12, false), (17, true), (18, false)] mixed (by kernel_rfl) (by kernel_rfl) (by kernel_rfl) ?_
  refine VX_go4 (fs := []) (ok 0 _) eqs trivial 100 [] rfl trivial ?_
  refine VX_eq 31 rfl rfl (d' := .t 32 (.e (.int cs.length))) (congrArg (fun x => D.t 32 (.e (.int x))) e31) ?_
  refine VX_callO (ok 0 _) [78, 34] [] rfl rfl rfl rfl rfl rfl rfl rfl c2 rfl rfl rfl ?_
  refine VX_callO (ok 0 _) [78, 34] [] rfl rfl rfl rfl rfl rfl rfl rfl c3 rfl rfl rfl ?_
  refine VX_go4 (fs := []) (ok 0 _) eqs trivial 100 [] rfl trivial ?_
  refine VX_storeO (ok 0 _) rfl rfl rfl rfl rfl rfl (by simp) ?_
  refine VX_go4 (fs := []) (ok 0 _) eqs trivial 100 [] rfl trivial ?_
  exact ⟨.inr rfl, rfl⟩
theorem rofh_ok {x : Bk} (hs : Small x) (p : Dig) : FnOk Tryd.prog tb 20 [61, 47, 24] [63] [.nilp, x.E, dgE p] [(ofHB x p).E] := by
  refine FnOk_of_V (fn := Tryd.f20) (bt := 4) (ok 0 _) Tryd.func20 rfl rfl rfl (by decide) fun hw => ?_
  clear hw
  have c1 := (rleaves_ok hs).g
  have c2 := (rof_ok (L := cL x.cs) (by rw [cL_length]; have := hs.1; omega) (cL_all _)).g
  have c3 := (rof_ok (L := rL x.rs) (by rw [rL_length]; have := hs.2.1; omega) (rL_all _)).g
  have hl := hs.1
  obtain ⟨xh, xp, xb, cs, rs, xs⟩ := x
  unfold ofHB
  simp only at c1 c2 c3 hl ⊢
  have hcm : (cs.map E.str).length = cs.length := by simp
  have e31 : IntKind.wrap .u32 ((((cs.map E.str).length : Nat) : Int)) = (cs.length : Int) := by rw [hcm]; exact u32n _ (by omega)
  generalize rootB (cL cs) = A at c2 ⊢
  generalize rootB (rL rs) = B at c3 ⊢
  generalize cL cs = LA at c1 c2
  generalize rL rs = LB at c1 c3
  apply V_of_VX
  refine VX_go4 (fs := []) (ok 0 _) eqs trivial 100 [] rfl trivial ?_
  refine VX_callD (ok 0 _) [61, 47] [] rfl rfl rfl rfl rfl rfl c1 rfl rfl rfl ?_
  refine VX_go4 (fs := []) (ok 0 _) eqs trivial 100 [] rfl trivial ?_
  refine VX_callD (ok 0 _) [61, 34] [] rfl rfl rfl rfl rfl rfl c2 rfl rfl rfl ?_
  refine VX_go4 (fs := []) (ok 0 _) eqs trivial 100 [] rfl trivial ?_
  refine VX_callD (ok 0 _) [61, 34] [] rfl rfl rfl rfl rfl rfl c3 rfl rfl rfl ?_
  refine VX_go4 (fs := []) (ok 0 _) eqs trivial 100 [39] rfl trivial ?_
  refine VX_eq 38 rfl rfl (d' := .t 32 (.e (.int cs.length))) (congrArg (fun x => D.t 32 (.e (.int x))) e31) ?_
  refine VX_go4 (fs := []) (ok 0 _) eqs trivial 100 [] rfl trivial ?_
  exact ⟨.inr rfl, rfl⟩

/-! ### what may follow -/
def lastH (hs : List Hd) : Hd := hs.getD (hs.length - 1) z0h
def folB (hs : List Hd) (h : Hd) : Int :=
  if 4096 ≤ hs.length then 6 else if hs.length = 0 then 0 else if h.h = (lastH hs).h + 1 ∧ h.p = hashB (lastH hs) then 0 else 32
theorem last_mem {hs : List Hd} (h : 0 < hs.length) : lastH hs ∈ hs := by
  unfold lastH
  rw [List.getD, List.getElem?_eq_getElem (by omega)]; exact List.getElem_mem _
set_option maxHeartbeats 800000 in
theorem follows_ok {hs : List Hd} (hh : ∀ x ∈ hs, x.ok) (hl : hs.length ≤ 100000) {h : Hd} (ho : h.ok) : FnOk Tryd.prog tb 41 [78, 29, 59] [33] [.nilp, hsE hs, h.E] [.int (folB hs h)] := by
  refine FnOk_of_V (fn := Tryd.f41) (bt := 4) (ok 0 _) Tryd.func41 rfl rfl rfl (by decide) fun hw => ?_
  clear hw
  have hrm : (hs.map Hd.E).length = hs.length := by simp
  apply V_of_VX
  unfold folB
  refine VX_go4 (fs := []) (ok 0 _) eqs trivial 100 [] rfl trivial ?_
  refine VX_split 10 rfl rfl (fun c => ?_) (fun c => ?_)
  · have h1 : 4096 ≤ hs.length := by simp only [hrm, decide_eq_true_eq] at c; omega
    rw [if_pos h1]
    refine VX_go4 (fs := []) (ok 0 _) eqs trivial 100 [] rfl trivial ?_
    exact ⟨.inr rfl, rfl⟩
  have h1 : ¬ 4096 ≤ hs.length := by simp only [hrm, decide_eq_false_iff_not] at c; omega
  rw [if_neg h1]
  refine VX_go4 (fs := []) (ok 0 _) eqs trivial 100 [] rfl trivial ?_
  refine VX_split 13 rfl rfl (fun c => ?_) (fun c => ?_)
  · have h2 : hs.length = 0 := by simp only [hrm, decide_eq_true_eq] at c; omega
    rw [if_pos h2]
    refine VX_go4 (fs := []) (ok 0 _) eqs trivial 100 [] rfl trivial ?_
    exact ⟨.inr rfl, rfl⟩
  have h2 : ¬ hs.length = 0 := by simp only [hrm, decide_eq_false_iff_not] at c; omega
  rw [if_neg h2]
  have hlo := hh _ (last_mem (hs := hs) (by omega))
  have hg : (hs.map Hd.E).getD (hs.length - 1) .nilp = (lastH hs).E := hd_get (by omega)
  have c1 := (hash_ok hlo).g
  have hlh := hlo.h
  have hhh := ho.h
  have hpd := Me.eqDgD h.p (hashB (lastH hs))
  generalize hashB (lastH hs) = H at c1 hpd ⊢
  generalize lastH hs = l at hg c1 hlh ⊢
  obtain ⟨l1, l2, l3, l4, l5, l6, l7⟩ := l
  obtain ⟨h1', hp, h3, h4, h5, h6, h7⟩ := h
  simp only at hlh hhh hpd ⊢
  have e17 : IntKind.wrap .i64 ((((hs.map Hd.E).length : Nat) : Int) - 1) = ((hs.length - 1 : Nat) : Int) := by rw [hrm, w64 (by omega) (by omega)]; omega
  refine VX_go4 (fs := []) (ok 0 _) eqs trivial 100 [18] rfl trivial ?_
  refine VX_eq 17 rfl rfl (d' := .t 3 (.e (.int (hs.length - 1 : Nat)))) (congrArg (fun x => D.t 3 (.e (.int x))) e17) ?_
  refine VX_go4 (fs := []) (ok 0 _) eqs trivial 100 [7] rfl (by simp [allP]; omega) ?_
  refine VX_eq 19 rfl rfl (d' := .t 59 (.e (Hd.E ⟨l1, l2, l3, l4, l5, l6, l7⟩))) (congrArg (fun x => D.t 59 (.e x)) hg) ?_
  refine VX_go4 (fs := []) (ok 0 _) eqs trivial 100 [] rfl trivial ?_
  refine VX_draw [] [(0, true), (1, true), (2, true), (3, true), (4, true), (5, true), (6, true), (7, true), (8, true), (9, true), (10, true), (11, true), (12, true), (13, true), (14, true), (15, true), (16, false), (17, true), (18, true)] mixed (by kernel_rfl) (by kernel_rfl) (by kernel_rfl) ?_
  refine VX_go4 (fs := []) (ok 0 _) eqs trivial 100 [] rfl trivial ?_
  by_cases hz : h1' = 0
  · rw [if_neg (by omega)]
    refine VX_known 23 true rfl rfl (by simp; omega) ?_
    refine VX_go4 (fs := []) (ok 0 _) eqs trivial 100 [] rfl trivial ?_
    exact ⟨.inr rfl, rfl⟩
  · refine VX_known 23 false rfl rfl (by simp; omega) ?_
    have e26 : IntKind.wrap .u64 ((h1' : Int) - 1) = ((h1' - 1 : Nat) : Int) := by rw [inR_wrap (by simp [inR]; omega)]; omega
    refine VX_go4 (fs := []) (ok 0 _) eqs trivial 100 [27] rfl trivial ?_
    refine VX_eq 26 rfl rfl (d' := .t 22 (.e (.int (h1' - 1 : Nat)))) (congrArg (fun x => D.t 22 (.e (.int x))) e26) ?_
    refine VX_go4 (fs := []) (ok 0 _) eqs trivial 100 [] rfl trivial ?_
    by_cases hq : h1' = l1 + 1
    · refine VX_known 31 false rfl rfl (by simp; omega) ?_
      refine VX_go4 (fs := []) (ok 0 _) eqs trivial 100 [] rfl trivial ?_
      refine VX_callO (ok 0 _) [78, 59] [] rfl rfl rfl rfl rfl rfl rfl rfl c1 rfl rfl rfl ?_
      refine VX_go4 (fs := []) (ok 0 _) eqs trivial 100 [] rfl trivial ?_
      by_cases hpe : hp = H
      · rw [if_pos ⟨hq, hpe⟩]
        refine VX_known 38 false rfl rfl (by show (!eqE (dgE hp) (dgE H)) = _; rw [hpd]; simp [hpe]) ?_
        refine VX_go4 (fs := []) (ok 0 _) eqs trivial 100 [] rfl trivial ?_
        exact ⟨.inr rfl, rfl⟩
      · rw [if_neg (fun h => hpe h.2)]
        refine VX_known 38 true rfl rfl (by show (!eqE (dgE hp) (dgE H)) = _; rw [hpd]; simp [hpe]) ?_
        refine VX_go4 (fs := []) (ok 0 _) eqs trivial 100 [] rfl trivial ?_
        exact ⟨.inr rfl, rfl⟩
    · rw [if_neg (fun h => hq h.1)]
      refine VX_known 31 true rfl rfl (by simp; omega) ?_
      refine VX_go4 (fs := []) (ok 0 _) eqs trivial 100 [] rfl trivial ?_
      exact ⟨.inr rfl, rfl⟩
set_option maxHeartbeats 800000 in
theorem rextend_ok {hs : List Hd} (hh : ∀ x ∈ hs, x.ok) (hl : hs.length ≤ 100000) {h : Hd} (ho : h.ok) : FnOk Tryd.prog tb 22 [61, 53, 63] [3] [.nilp, hsE hs, h.E] [.int (folB hs h)] := by
  refine FnOk_of_V (fn := Tryd.f22) (bt := 4) (ok 0 _) Tryd.func22 rfl rfl rfl (by decide) fun hw => ?_
  clear hw
  have hrm : (hs.map Hd.E).length = hs.length := by simp
  apply V_of_VX
  unfold folB
  refine VX_go4 (fs := []) (ok 0 _) eqs trivial 100 [] rfl trivial ?_
  refine VX_split 10 rfl rfl (fun c => ?_) (fun c => ?_)
  · have h1 : 4096 ≤ hs.length := by simp only [hrm, decide_eq_true_eq] at c; omega
    rw [if_pos h1]
    refine VX_go4 (fs := []) (ok 0 _) eqs trivial 100 [] rfl trivial ?_
    exact ⟨.inr rfl, rfl⟩
  have h1 : ¬ 4096 ≤ hs.length := by simp only [hrm, decide_eq_false_iff_not] at c; omega
  rw [if_neg h1]
  refine VX_go4 (fs := []) (ok 0 _) eqs trivial 100 [] rfl trivial ?_
  refine VX_split 13 rfl rfl (fun c => ?_) (fun c => ?_)
  · have h2 : hs.length = 0 := by simp only [hrm, decide_eq_true_eq] at c; omega
    rw [if_pos h2]
    refine VX_go4 (fs := []) (ok 0 _) eqs trivial 100 [] rfl trivial ?_
    exact ⟨.inr rfl, rfl⟩
  have h2 : ¬ hs.length = 0 := by simp only [hrm, decide_eq_false_iff_not] at c; omega
  rw [if_neg h2]
  have hlo := hh _ (last_mem (hs := hs) (by omega))
  have hg : (hs.map Hd.E).getD (hs.length - 1) .nilp = (lastH hs).E := hd_get (by omega)
  have c1 := (rhash_ok hlo).g
  have hlh := hlo.h
  have hhh := ho.h
  have hpd := Me.eqDgD h.p (hashB (lastH hs))
  generalize hashB (lastH hs) = H at c1 hpd ⊢
  generalize lastH hs = l at hg c1 hlh ⊢
  obtain ⟨l1, l2, l3, l4, l5, l6, l7⟩ := l
  obtain ⟨h1', hp, h3, h4, h5, h6, h7⟩ := h
  simp only at hlh hhh hpd ⊢
  have e17 : IntKind.wrap .i64 ((((hs.map Hd.E).length : Nat) : Int) - 1) = ((hs.length - 1 : Nat) : Int) := by rw [hrm, w64 (by omega) (by omega)]; omega
  refine VX_go4 (fs := []) (ok 0 _) eqs trivial 100 [18] rfl trivial ?_
  refine VX_eq 17 rfl rfl (d' := .t 3 (.e (.int (hs.length - 1 : Nat)))) (congrArg (fun x => D.t 3 (.e (.int x))) e17) ?_
  refine VX_go4 (fs := []) (ok 0 _) eqs trivial 100 [7] rfl (by simp [allP]; omega) ?_
  refine VX_eq 19 rfl rfl (d' := .t 63 (.e (Hd.E ⟨l1, l2, l3, l4, l5, l6, l7⟩))) (congrArg (fun x => D.t 63 (.e x)) hg) ?_
  refine VX_go4 (fs := []) (ok 0 _) eqs trivial 100 [] rfl trivial ?_
  by_cases hz : l1 = 18446744073709551615
  · rw [if_neg (by omega)]
    refine VX_known 23 true rfl rfl (by simp; omega) ?_
    refine VX_go4 (fs := []) (ok 0 _) eqs trivial 100 [] rfl trivial ?_
    exact ⟨.inr rfl, rfl⟩
  · refine VX_known 23 false rfl rfl (by simp; omega) ?_
    have e28 : IntKind.wrap .u64 ((l1 : Int) + 1) = ((l1 + 1 : Nat) : Int) := by rw [inR_wrap (by simp [inR]; omega)]; omega
    refine VX_go4 (fs := []) (ok 0 _) eqs trivial 100 [29] rfl trivial ?_
    refine VX_eq 28 rfl rfl (d' := .t 22 (.e (.int (l1 + 1 : Nat)))) (congrArg (fun x => D.t 22 (.e (.int x))) e28) ?_
    refine VX_go4 (fs := []) (ok 0 _) eqs trivial 100 [] rfl trivial ?_
    by_cases hq : h1' = l1 + 1
    · refine VX_known 30 false rfl rfl (by simp; omega) ?_
      refine VX_go4 (fs := []) (ok 0 _) eqs trivial 100 [] rfl trivial ?_
      refine VX_draw [] [(0, true), (1, true), (2, true), (3, true), (4, false), (5, true)] mixed (by kernel_rfl) (by kernel_rfl) (by kernel_rfl) ?_
      refine VX_go4 (fs := []) (ok 0 _) eqs trivial 100 [] rfl trivial ?_
      refine VX_callO (ok 0 _) [61, 63] [] rfl rfl rfl rfl rfl rfl rfl rfl c1 rfl rfl rfl ?_
      refine VX_go4 (fs := []) (ok 0 _) eqs trivial 100 [] rfl trivial ?_
      by_cases hpe : hp = H
      · rw [if_pos ⟨hq, hpe⟩]
        refine VX_known 36 false rfl rfl (by show (!eqE (dgE hp) (dgE H)) = _; rw [hpd]; simp [hpe]) ?_
        refine VX_go4 (fs := []) (ok 0 _) eqs trivial 100 [] rfl trivial ?_
        exact ⟨.inr rfl, rfl⟩
      · rw [if_neg (fun h => hpe h.2)]
        refine VX_known 36 true rfl rfl (by show (!eqE (dgE hp) (dgE H)) = _; rw [hpd]; simp [hpe]) ?_
        refine VX_go4 (fs := []) (ok 0 _) eqs trivial 100 [] rfl trivial ?_
        exact ⟨.inr rfl, rfl⟩
    · rw [if_neg (fun h => hq h.1)]
      refine VX_known 30 true rfl rfl (by simp; omega) ?_
      refine VX_go4 (fs := []) (ok 0 _) eqs trivial 100 [] rfl trivial ?_
      exact ⟨.inr rfl, rfl⟩

theorem cloneH (q : List E) (hq : q.length ≤ 100000) : FnG Tryd.prog tb 42 [] [.t 29 (.e (.sl q))] (fun d s => d = .t 29 (.lsl 0 q) ∧ s = [.row 59 q.length]) := by
  refine FnG_of_V (fn := Tryd.f42) (bt := 4) true [0] [29] (ok 0 _) Tryd.func42 rfl rfl rfl fun _ _ _ _ _ _ => ?_
  apply V_of_VX
  refine VX_go4 (fs := []) (ok 0 _) eqs trivial 100 [] rfl trivial ?_
  refine VX_op rfl rfl (OpV_nilS (ok 0 _) rfl (.inl rfl) rfl rfl rfl rfl) ?_
  rintro d s ⟨b, hb, rfl, rfl⟩
  refine VX_go4 (fs := []) (ok 0 _) eqs trivial 100 [] rfl trivial ?_
  refine VX_split 4 rfl rfl (fun h => ?_) (fun h => ?_)
  · refine VX_go4 (fs := []) (ok 0 _) eqs trivial 5 [] rfl trivial ?_
    refine VX_promote 2 (u := 59) rfl rfl ?_
    refine VX_go4 (fs := []) (ok 0 _) eqs trivial 100 [] rfl trivial ?_
    refine ⟨.inr rfl, _, _, _, rfl, rfl, rfl, ?_⟩
    rw [hb h]; exact ⟨rfl, rfl⟩
  · refine VX_go4 (fs := []) (ok 0 _) eqs trivial 100 [] rfl (by simp [allP, nb, tb, maxL]; omega) ?_
    exact ⟨.inr rfl, _, _, _, rfl, rfl, rfl, rfl, rfl⟩
def extB (hs : List Hd) (h : Hd) : List Hd := if folB hs h = 0 then hs ++ [h] else hs
set_option maxHeartbeats 800000 in
theorem extend_ok {hs : List Hd} (hh : ∀ x ∈ hs, x.ok) (hl : hs.length ≤ 90000) {h : Hd} (ho : h.ok) : FnOk Tryd.prog tb 17 [78, 31, 59] [31, 33] [.nilp, liE hs, h.E] [liE (extB hs h), .int (folB hs h)] := by
  refine FnOk_of_V (fn := Tryd.f17) (bt := 4) (ok 0 _) Tryd.func17 rfl rfl rfl (by decide) fun hw => ?_
  clear hw
  have hrm : (hs.map Hd.E).length = hs.length := by simp
  have c1 := (follows_ok hh (by omega) ho).g
  unfold extB
  generalize folB hs h = e at c1 ⊢
  have hap : (hs ++ [h]).map Hd.E = hs.map Hd.E ++ [h.E] := by simp
  obtain ⟨h1, h2, h3, h4, h5, h6, h7⟩ := h
  apply V_of_VX
  refine VX_go4 (fs := []) (ok 0 _) eqs trivial 100 [] rfl trivial ?_
  refine VX_callD (ok 0 _) [78, 29, 59] [] rfl rfl rfl rfl rfl rfl c1 rfl rfl rfl ?_
  refine VX_go4 (fs := []) (ok 0 _) eqs trivial 100 [] rfl trivial ?_
  by_cases he : e = 0
  · rw [if_pos he]
    refine VX_known 15 false rfl rfl (by simp [he]) ?_
    refine VX_go4 (fs := []) (ok 0 _) eqs trivial 100 [] rfl trivial ?_
    refine VX_draw [2, 3] [(0, true), (1, true), (3, true), (2, false), (4, false), (5, false), (6, true), (7, false), (8, true)] mixed (by kernel_rfl) (by kernel_rfl) (by kernel_rfl) ?_
    refine VX_go4 (fs := []) (ok 0 _) eqs trivial 100 [] rfl trivial ?_
    refine VX_callGLit (ok 0 _) [29] [] rfl rfl (by kernel_rfl) rfl rfl rfl rfl rfl rfl rfl rfl rfl rfl rfl rfl (cloneH (hs.map Hd.E) (by simp; omega)) rfl rfl rfl rfl rfl rfl rfl rfl rfl rfl ?_
    refine VX_appendO (ok 0 _) rfl rfl rfl rfl rfl (by simp [nb, tb, maxL]; omega) rfl ?_
    refine VX_go4 (fs := []) (ok 0 _) eqs trivial 100 [] rfl trivial ?_
    refine VX_storeO (ok 0 _) rfl rfl rfl rfl rfl rfl (by simp) ?_
    refine VX_go4 (fs := []) (ok 0 _) eqs trivial 100 [] rfl trivial ?_
    refine ⟨.inr rfl, ?_⟩
    rw [he]
    unfold liE hsE
    rw [hap]; rfl
  · rw [if_neg he]
    refine VX_known 15 true rfl rfl (by simp [he]) ?_
    refine VX_go4 (fs := []) (ok 0 _) eqs trivial 100 [] rfl trivial ?_
    exact ⟨.inr rfl, rfl⟩
end Go.Den.Q33
/- A new block in a region that draws. -/
namespace Go.Den
open Go
set_option linter.unusedSectionVars false
set_option linter.unusedSimpArgs false
set_option linter.unusedVariables false
theorem Rel.newTreeF {P : Program} {tb H β σ w} (h : Rel tb H β σ w) (hT : TabOk P tb) {ty : TypeId} {cs : List Value} {x : T} (hx : TRel tb H β σ ty cs x) (elem : TypeId) (he : elem = ty) (ts : List Nat) :
    ∃ H', Rel tb H' (β ++ [.pointer (some ⟨w.heap.size, 0, none⟩)]) (σ ++ [.tree ty x]) (w.alloc (.cells cs.toArray elem)) ∧
      Ev H β σ H' (β ++ [.pointer (some ⟨w.heap.size, 0, none⟩)]) (σ ++ [.tree ty x]) ∧ Stp H w H' (w.alloc (.cells cs.toArray elem)) ∧ Frm ts H w H' (w.alloc (.cells cs.toArray elem)) := by
  have r := h.alloc (.cells cs.toArray elem) (fun o => if o < cs.length then .mine σ.length else .none) [.pointer (some ⟨w.heap.size, 0, none⟩)] [.tree ty x] rfl
    (fun o v hv => by split at hv <;> cases hv)
    (fun i k bv hk hv => by
      have hi : i = 0 := by have := (List.getElem?_eq_some_iff.1 hk).1; simp at this; omega
      subst hi
      simp at hk hv; subst hk; subst hv
      refine ⟨w.heap.size, 0, cs, rfl, hx.len hT, fun _ => ⟨rfl, by rw [shape?_alloc_new, he, ← hx.len hT]; simp⟩, fun j v hj => ?_, ?_⟩
      · have hjl : j < cs.length := (List.getElem?_eq_some_iff.1 hj).1
        refine ⟨?_, ?_, ?_⟩
        · simp [World.cell?_alloc_new, hj]
        · rw [hAlloc_new]; simp [hjl]
        · exact World.frozen?_alloc_new w _ _ _
      · refine hx.mono (Ev.app h.len fun b o v hb => ?_)
        have := h.dom b o (by rw [hb]; simp)
        rw [hAlloc_old (by omega)]; exact hb)
  exact ⟨_, r.1, r.2, Stp.alloc h.dom _ _, .alloc h.dom _ _⟩
section
variable {C : Cx} {o : Oper} {env : Env} {σ : List Blk} {ts : List Nat} {Q : Post}
theorem OpF_alloc (hC : Ok C) {elem : TypeId} (ho : o.op = .alloc elem) (hp : plain C.tb zf elem = true) :
    OpF C o env σ ts (fun d s => d = .ptr σ.length [] ∧ s = σ ++ [.tree elem (zeroT C.tb zf elem)]) := by
  intro H β a w hr he hd K Qx hK
  obtain ⟨v, hv, hc⟩ := hC.zero.get hC.tab hp w
  have hx := zeroT_rel hC.tab (H := H) (β := β) (σ := σ) zf elem hp
  obtain ⟨H', r1, r2, r3, r4⟩ := hr.newTreeF hC.tab hx elem rfl ts
  have hrun : (execOp a.eval o).run C.P w = .ok (.value (.pointer (some ⟨w.heap.size, 0, none⟩))) (w.alloc (.cells (zc C.tb zf elem).toArray elem)) := by
    rw [← hc]
    simp [execOp, ho, Instr.alloc, hv, newVar, newRow]
  simp only [Oper.wp, hrun, Oper.upon]
  exact hK _ _ _ H' _ _ ⟨rfl, rfl⟩ r1 (.ptr (newPtr hr.len rfl)) r3 r2 r4
theorem VX_allocO (hC : Ok C) {k : List It} {full : List Oper} {i : Nat} {ord : List (Nat × Bool)} {elem : TypeId} {z : T} {n : Nat} {env' : Env}
    (hi : full[i]? = some o) (hw : wants full env o = some true) (hn : dstOk C.n o.dst = true) (ho : o.op = .alloc elem) (hp : plain C.tb zf elem = true) (hl : σ.length = n) (hz : zeroT C.tb zf elem = z)
    (he : putD env o.dst (.ptr n []) = env')
    (hk : VX C Q (.o full ts ord :: k) .nrm env' (σ ++ [.tree elem z])) (hal : aloneB full ((i, false) :: ord) = true := by kernel_rfl) : VX C Q (.o full ts ((i, false) :: ord) :: k) .nrm env σ :=
  VX_opO hi hw hn (OpF_alloc hC ho hp) (fun d1 s1 ⟨a1, a2⟩ => by subst a1; subst a2; subst hl; subst hz; subst he; exact hk) hal
/-- All that is left, but for i, waits for all that has come up but i. -/
def settledX (ops : Array Oper) (n i : Nat) (r : List (Nat × Bool)) : Bool := r.all fun p => (List.range n).all fun k => memB k r || (Nat.beq k i || waits ops p.1 k)
/-- A value that hangs on no block of ours is taken first; from here on other blocks may be turned. -/
theorem VO_takeTs {l : List Oper} {i : Nat} {rest : List (Nat × Bool)} {r : DR} (ts' : List Nat) (hi : l[i]? = some o) (hw : wants l env o = some true) (hn : dstOk C.n o.dst = true) (ho : OpOk C o env σ r) (hv : isVal o.op = true) (hd : rsOf env o.op = [])
    (hs' : settledX l.toArray l.length i rest = true) (k : VO C l ts' rest (putD env o.dst r.d) r.s Q) : VO C l ts ((i, true) :: rest) env σ Q := by
  intro listed hns hs hcv hsz
  simp only [okSched, Bool.and_eq_true] at hs
  have hk0 := k _ hns hs.2 hcv.step (by simpa using hsz)
  intro H β a w hr' he hdef tk hS
  obtain ⟨hval, hss⟩ := ho.val hv
  rw [hss] at hk0
  rw [hd] at hval
  obtain ⟨v, hrun, hrel⟩ := hval H β a w hr' he
  let T : World → Prop := fun w' => (execOp a.eval o).run C.P w' = .ok (.value v) w'
  have hTa : ∀ ts, StabS ts H w T := fun ts w' hk => hrun w' fun b o' u hu h => hk b o' u hu (h.imp id fun ⟨i, hi, hm⟩ => by cases hi)
  have hd' : (a.put o.dst v).defers = [] := by cases o.dst <;> exact hdef
  have hia : l.toArray[i]? = some o := by simpa using hi
  have hk := hk0 H β (a.put o.dst v) w hr' (he.put hrel hn) hd' ((i, T) :: tk) (fun p hp => by
    rcases List.mem_cons.1 hp with rfl | hp
    · exact ⟨(Array.getElem?_eq_some_iff.1 hia).1, getD_set_self _ _, fun _ _ _ => hTa _⟩
    · obtain ⟨h0, h1, h2⟩ := hS.set i p hp
      refine ⟨h0, h1, fun j hj hw => ?_⟩
      obtain ⟨b, hb⟩ := memB_iff.1 ((hcv.step.2 j).1 hj)
      have h3 := List.all_eq_true.1 (List.all_eq_true.1 hs' _ hb) p.1 (List.mem_range.2 (by simpa using h0))
      simp only [hw, Bool.or_false, Bool.or_eq_true] at h3
      rcases h3 with h3 | h3
      · have := (hcv.step.2 p.1).2 h3
        rw [h1] at this; cases this
      · have he' := Nat.eq_of_beq_eq_true h3
        have h5 : listed.getD p.1 true = true := (hS p hp).2.1
        have h6 : listed.getD p.1 true = false := (hcv.2 p.1).2 (by rw [he']; simp [memB])
        rw [h5] at h6; cases h6)
  refine wpAnyD_mono2 (fun _ _ _ h => h) (fun j w h p hp => h p (List.mem_cons_of_mem _ hp)) _ _ _ _ (wpAnyD_first (S := sOf l.toArray ((i, T) :: tk)) (T := T) (v := v) (i := i) (oi := o) hia (Region.noSelect_spec hns) (fun c a w h => (lift_panic h).elim) rest.length listed a w
    (fun j oj hj hne hun hno => ⟨Region.free_spec hia hs.1.1 j oj hj hne hun hno, fun w' h => h (i, T) (by simp) ?_⟩) (by simpa using hs.1.2) (.inl ⟨wants_rel he hw, fun w' h => h⟩) (hTa []).here hk)
  simp only [waits, hj]
  refine Bool.eq_false_iff.2 fun h => ?_
  obtain ⟨e, he1, hb⟩ := Array.any_eq_true'.1 h
  simp only [Bool.and_eq_true, beq_iff_eq] at hb
  exact hno e he1 hb.1 hb.2
theorem VX_extractTs {k : List It} {full : List Oper} {i t n : Nat} {ord : List (Nat × Bool)} {ds : List D} {d : D} (ts' : List Nat)
    (hi : full[i]? = some o) (hw : wants full env o = some true) (hn : dstOk C.n o.dst = true) (ho : o.op = .extract (.tmp t) n) (ht : getD env t = .tup ds) (hd : ds[n]? = some d)
    (hs' : settledX full.toArray full.length i ord = true) (hk : VX C Q (.o full ts' ord :: k) .nrm (putD env o.dst d) σ) : VX C Q (.o full ts ((i, true) :: ord) :: k) .nrm env σ :=
  VO_takeTs ts' hi hw hn (Ok_extract ho ht hd) (by simp [isVal, ho]) (by rw [ho]; rfl) hs' hk
end
end Go.Den
/- Law 33: proofs. -/
namespace Go.Den.Q33
open Go Go.Den Go.Proofs Go.Den.Q33.Dg
set_option maxRecDepth 8000
set_option linter.unusedVariables false
set_option linter.unusedSimpArgs false
open Go.Den.Q33.Sh (dgE)
open Go.Den.Q33.Me (Dig dsE All32 z0 rootB eqDg brL)

def z0p : Pf := ⟨0, [], 0, [], []⟩
theorem prove_bad {x : Bk} (k : Int) (h : k < 0 ∨ (x.cs.length : Int) ≤ k ∨ (x.rs.length : Int) ≤ k) : FnOk Tryd.prog tb 9 [78, 28, 3] [36, 33] [.nilp, x.E, .int k] [z0p.E, .int 2] := by
  refine FnOk_of_V (fn := Tryd.f9) (bt := 4) (ok 0 _) Tryd.func9 rfl rfl rfl (by decide) fun hw => ?_
  clear hw
  obtain ⟨xh, xp, xb, cs, rs, xs⟩ := x
  have hcm : (cs.map E.str).length = cs.length := by simp
  have hrm : (rs.map E.int).length = rs.length := by simp
  simp only at h
  apply V_of_VX
  refine VX_go4 (fs := []) (ok 0 _) eqs trivial 100 [] rfl trivial ?_
  refine VX_split 15 rfl rfl (fun _ => ?_) (fun h1 => ?_)
  · refine VX_go4 (fs := []) (ok 0 _) eqs trivial 100 [] rfl trivial ?_
    exact ⟨.inr rfl, rfl⟩
  · refine VX_go4 (fs := []) (ok 0 _) eqs trivial 100 [] rfl trivial ?_
    refine VX_split 22 rfl rfl (fun _ => ?_) (fun h2 => ?_)
    · refine VX_go4 (fs := []) (ok 0 _) eqs trivial 100 [] rfl trivial ?_
      exact ⟨.inr rfl, rfl⟩
    · refine VX_go4 (fs := []) (ok 0 _) eqs trivial 100 [] rfl trivial ?_
      refine VX_known 28 true rfl rfl (by simp at h1 h2 ⊢; omega) ?_
      refine VX_go4 (fs := []) (ok 0 _) eqs trivial 100 [] rfl trivial ?_
      exact ⟨.inr rfl, rfl⟩
theorem rprove_bad {x : Bk} (k : Int) (h : k < 0 ∨ (x.cs.length : Int) ≤ k ∨ (x.rs.length : Int) ≤ k) : FnOk Tryd.prog tb 10 [61, 47, 3] [42, 3] [.nilp, x.E, .int k] [z0p.E, .int 2] := by
  refine FnOk_of_V (fn := Tryd.f10) (bt := 4) (ok 0 _) Tryd.func10 rfl rfl rfl (by decide) fun hw => ?_
  clear hw
  obtain ⟨xh, xp, xb, cs, rs, xs⟩ := x
  have hcm : (cs.map E.str).length = cs.length := by simp
  have hrm : (rs.map E.int).length = rs.length := by simp
  simp only at h
  apply V_of_VX
  refine VX_go4 (fs := []) (ok 0 _) eqs trivial 100 [] rfl trivial ?_
  refine VX_split 13 rfl rfl (fun _ => ?_) (fun h1 => ?_)
  · refine VX_go4 (fs := []) (ok 0 _) eqs trivial 100 [] rfl trivial ?_
    exact ⟨.inr rfl, rfl⟩
  · refine VX_go4 (fs := []) (ok 0 _) eqs trivial 100 [] rfl trivial ?_
    refine VX_split 20 rfl rfl (fun _ => ?_) (fun h2 => ?_)
    · refine VX_go4 (fs := []) (ok 0 _) eqs trivial 100 [] rfl trivial ?_
      exact ⟨.inr rfl, rfl⟩
    · refine VX_go4 (fs := []) (ok 0 _) eqs trivial 100 [] rfl trivial ?_
      refine VX_known 26 true rfl rfl (by simp at h1 h2 ⊢; omega) ?_
      refine VX_go4 (fs := []) (ok 0 _) eqs trivial 100 [] rfl trivial ?_
      exact ⟨.inr rfl, rfl⟩
def prvB (x : Bk) (k : Nat) : Pf := ⟨k, x.cs.getD k [], x.rs.getD k 0, brL (cL x.cs) k 32, brL (rL x.rs) k 32⟩
set_option maxHeartbeats 800000 in
theorem prove_ok {x : Bk} (hs : Small x) (k : Nat) (h1 : k < x.cs.length) (h2 : k < x.rs.length) : FnOk Tryd.prog tb 9 [78, 28, 3] [36, 33] [.nilp, x.E, .int k] [(prvB x k).E, .int 0] := by
  refine FnOk_of_V (fn := Tryd.f9) (bt := 4) (ok 0 _) Tryd.func9 rfl rfl rfl (by decide) fun hw => ?_
  clear hw
  have c1 := (leaves_ok hs).g
  have c2 := (Me.branch_ok (L := cL x.cs) (by rw [cL_length]; have := hs.1; omega) (cL_all _) k (by rw [cL_length]; exact h1)).g
  have c3 := (Me.branch_ok (L := rL x.rs) (by rw [rL_length]; have := hs.2.1; omega) (rL_all _) k (by rw [rL_length]; exact h2)).g
  have hl := hs.1
  obtain ⟨xh, xp, xb, cs, rs, xs⟩ := x
  unfold prvB
  simp only at c1 c2 c3 hl h1 h2 ⊢
  have hcm : (cs.map E.str).length = cs.length := by simp
  have hrm : (rs.map E.int).length = rs.length := by simp
  have g1 := str_get h1
  have g2 := int_get h2
  have e37 := u32n k (by omega)
  generalize cs.getD k [] = s at g1 ⊢
  generalize rs.getD k 0 = r at g2 ⊢
  generalize brL (cL cs) k 32 = A at c2 ⊢
  generalize brL (rL rs) k 32 = B at c3 ⊢
  generalize cL cs = LA at c1 c2
  generalize rL rs = LB at c1 c3
  apply V_of_VX
  refine VX_go4 (fs := []) (ok 0 _) eqs trivial 100 [] rfl trivial ?_
  refine VX_known 15 false rfl rfl (by simp) ?_
  refine VX_go4 (fs := []) (ok 0 _) eqs trivial 100 [] rfl trivial ?_
  refine VX_known 22 false rfl rfl (by simp; omega) ?_
  refine VX_go4 (fs := []) (ok 0 _) eqs trivial 100 [] rfl trivial ?_
  refine VX_known 28 false rfl rfl (by simp; omega) ?_
  refine VX_go4 (fs := []) (ok 0 _) eqs trivial 100 [] rfl trivial ?_
  refine VX_callD (ok 0 _) [78, 28] [] rfl rfl rfl rfl rfl rfl c1 rfl rfl rfl ?_
  refine VX_go4 (fs := []) (ok 0 _) eqs trivial 100 [] rfl trivial ?_
  refine VX_draw [2] [(0, true), (1, true), (2, true), (3, true), (4, true), (5, true), (6, true), (7, true), (8, true), (9, true), (10, true), (11, true), (12, true), (13, false), (14, false)] mixed (by kernel_rfl) (by kernel_rfl) (by kernel_rfl) ?_
  refine VX_go4 (fs := []) (ok 0 _) eqs trivial 100 [48] rfl (by simp [allP]; omega) ?_
  refine VX_eq 37 rfl rfl (d' := .t 32 (.e (.int k))) (congrArg (fun x => D.t 32 (.e (.int x))) e37) ?_
  refine VX_eq 42 rfl rfl (d' := .t 9 (.e (.str s))) (congrArg (fun x => D.t 9 (.e x)) g1) ?_
  refine VX_eq 47 rfl rfl (d' := .t 33 (.e (.int r))) (congrArg (fun x => D.t 33 (.e x)) g2) ?_
  refine VX_go4 (fs := []) (ok 0 _) eqs trivial 100 [] rfl trivial ?_
  refine VX_allocO (ok 0 _) rfl rfl rfl rfl rfl rfl rfl rfl ?_
  refine VX_storeO (ok 0 _) rfl rfl rfl rfl rfl rfl (by simp) ?_
  refine VX_go4 (fs := []) (ok 0 _) eqs trivial 100 [] rfl trivial ?_
  refine VX_callD (ok 0 _) [78, 34, 3] [] rfl rfl rfl rfl rfl rfl c2 rfl rfl rfl ?_
  refine VX_go4 (fs := []) (ok 0 _) eqs trivial 100 [] rfl trivial ?_
  refine VX_callD (ok 0 _) [78, 34, 3] [] rfl rfl rfl rfl rfl rfl c3 rfl rfl rfl ?_
  refine VX_go4 (fs := []) (ok 0 _) eqs trivial 100 [] rfl trivial ?_
  refine VX_known 67 false rfl rfl rfl ?_
  refine VX_go4 (fs := []) (ok 0 _) eqs trivial 100 [] rfl trivial ?_
  refine VX_known 70 false rfl rfl rfl ?_
  refine VX_go4 (fs := []) (ok 0 _) eqs trivial 100 [] rfl trivial ?_
  exact ⟨.inr rfl, rfl⟩
set_option maxHeartbeats 800000 in
theorem rprove_ok {x : Bk} (hs : Small x) (k : Nat) (h1 : k < x.cs.length) (h2 : k < x.rs.length) : FnOk Tryd.prog tb 10 [61, 47, 3] [42, 3] [.nilp, x.E, .int k] [(prvB x k).E, .int 0] := by
  refine FnOk_of_V (fn := Tryd.f10) (bt := 4) (ok 0 _) Tryd.func10 rfl rfl rfl (by decide) fun hw => ?_
  clear hw
  have c1 := (rleaves_ok hs).g
  have c2 := (Me.rbranch_ok (L := cL x.cs) (by rw [cL_length]; have := hs.1; omega) (cL_all _) k (by rw [cL_length]; exact h1)).g
  have c3 := (Me.rbranch_ok (L := rL x.rs) (by rw [rL_length]; have := hs.2.1; omega) (rL_all _) k (by rw [rL_length]; exact h2)).g
  have hl := hs.1
  obtain ⟨xh, xp, xb, cs, rs, xs⟩ := x
  unfold prvB
  simp only at c1 c2 c3 hl h1 h2 ⊢
  have hcm : (cs.map E.str).length = cs.length := by simp
  have hrm : (rs.map E.int).length = rs.length := by simp
  have g1 := str_get h1
  have g2 := int_get h2
  have e37 := u32n k (by omega)
  generalize cs.getD k [] = s at g1 ⊢
  generalize rs.getD k 0 = r at g2 ⊢
  generalize brL (cL cs) k 32 = A at c2 ⊢
  generalize brL (rL rs) k 32 = B at c3 ⊢
  generalize cL cs = LA at c1 c2
  generalize rL rs = LB at c1 c3
  apply V_of_VX
  refine VX_go4 (fs := []) (ok 0 _) eqs trivial 100 [] rfl trivial ?_
  refine VX_known 13 false rfl rfl (by simp) ?_
  refine VX_go4 (fs := []) (ok 0 _) eqs trivial 100 [] rfl trivial ?_
  refine VX_known 20 false rfl rfl (by simp; omega) ?_
  refine VX_go4 (fs := []) (ok 0 _) eqs trivial 100 [] rfl trivial ?_
  refine VX_known 26 false rfl rfl (by simp; omega) ?_
  refine VX_go4 (fs := []) (ok 0 _) eqs trivial 100 [] rfl trivial ?_
  refine VX_callD (ok 0 _) [61, 47] [] rfl rfl rfl rfl rfl rfl c1 rfl rfl rfl ?_
  refine VX_go4 (fs := []) (ok 0 _) eqs trivial 100 [36] rfl trivial ?_
  refine VX_eq 35 rfl rfl (d' := .t 32 (.e (.int k))) (congrArg (fun x => D.t 32 (.e (.int x))) e37) ?_
  refine VX_go4 (fs := []) (ok 0 _) eqs trivial 100 [42] rfl (by simp [allP]; omega) ?_
  refine VX_eq 41 rfl rfl (d' := .t 9 (.e (.str s))) (congrArg (fun x => D.t 9 (.e x)) g1) ?_
  refine VX_go4 (fs := []) (ok 0 _) eqs trivial 100 [48] rfl (by simp [allP]; omega) ?_
  refine VX_eq 47 rfl rfl (d' := .t 3 (.e (.int r))) (congrArg (fun x => D.t 3 (.e x)) g2) ?_
  refine VX_go4 (fs := []) (ok 0 _) eqs trivial 100 [] rfl trivial ?_
  refine VX_callD (ok 0 _) [61, 34, 3] [] rfl rfl rfl rfl rfl rfl c2 rfl rfl rfl ?_
  refine VX_go4 (fs := []) (ok 0 _) eqs trivial 100 [] rfl trivial ?_
  refine VX_callD (ok 0 _) [61, 34, 3] [] rfl rfl rfl rfl rfl rfl c3 rfl rfl rfl ?_
  refine VX_go4 (fs := []) (ok 0 _) eqs trivial 100 [] rfl trivial ?_
  exact ⟨.inr rfl, rfl⟩
end Go.Den.Q33
/- Law 33: what a light client is shown. -/
namespace Go.Den.Q33
open Go Go.Den Go.Proofs Go.Den.Q33.Dg
set_option maxRecDepth 8000
set_option linter.unusedVariables false
set_option linter.unusedSimpArgs false
open Go.Den.Q33.Sh (dgE)
open Go.Den.Q33.Me (Dig dsE All32 z0 rootB eqDg brL provesB)

/-! ### all heads in order -/
theorem right_ok {hs : List Hd} (hh : ∀ x ∈ hs, x.ok) (hl : hs.length ≤ 100000) (hf : ∀ i, i < hs.length → folB (hs.take i) (hs.getD i z0h) = 0) : FnOk Tryd.prog tb 25 [78, 31] [4] [.nilp, liE hs] [.bool true] := by
  refine FnOk_of_V (fn := Tryd.f25) (bt := 4) (ok 0 _) Tryd.func25 rfl rfl rfl (by decide) fun hw => ?_
  clear hw
  have hrm : (hs.map Hd.E).length = hs.length := by simp
  apply V_of_VX
  refine VX_go4 (fs := []) (ok 0 _) eqs trivial 100 [] rfl trivial ?_
  refine VX_loopA (fun i : Nat => i ≤ hs.length) (fun i => [(10, .t 3 (.e (.int i))), (9, .t 3 (.e (.int hs.length))), (8, .t 29 (.e (hsE hs))), (3, .ptr 0 []), (0, .t 78 (.e .nilp))])
    (fun i => [.tree 31 (.e (liE hs))]) (fun i => hs.length - i) 0 (by omega) ?_ ?_
  · exact wk1 rfl rfl (by simp [Blk.under, T.under]) (lc (ls rfl rfl) (lc (li (by rw [hrm])) (lc (ls rfl rfl) (lc (ls rfl rfl) (lc (ls rfl rfl) lnil)))))
  · intro i hi
    refine VX_go4 (fs := []) (ok 0 _) eqs trivial 100 [] rfl trivial ?_
    refine VX_split 11 rfl rfl (fun h => ?_) (fun h => ?_)
    · have hi : i < hs.length := by simpa using h
      have ei : IntKind.wrap .i64 ((i : Int) + 1) = ((i + 1 : Nat) : Int) := by rw [w64 (by omega) (by omega)]; simp
      have hg := hd_get hi
      have hxo : (hs.getD i z0h).ok := by
        rw [List.getD, List.getElem?_eq_getElem hi]; exact hh _ (List.getElem_mem _)
      have c1 := (follows_ok (hs := hs.take i) (fun x hx => hh x (List.mem_of_mem_take hx)) (by simp; omega) hxo).g
      rw [hf i hi] at c1
      generalize hs.getD i z0h = r at hg c1
      obtain ⟨r1, r2, r3, r4, r5, r6, r7⟩ := r
      refine VX_go4 (fs := []) (ok 0 _) eqs trivial 100 [6] rfl (by simp [allP]; omega) ?_
      refine VX_eq 14 rfl rfl (d' := .t 59 (.e (Hd.E ⟨r1, r2, r3, r4, r5, r6, r7⟩))) (congrArg (fun x => D.t 59 (.e x)) hg) ?_
      refine VX_go4 (fs := []) (ok 0 _) eqs trivial 100 [] rfl trivial ?_
      refine VX_draw [] [(0, true), (1, true), (2, true), (3, true), (4, true), (5, true), (6, false), (7, true)] mixed (by kernel_rfl) (by kernel_rfl) (by kernel_rfl) ?_
      refine VX_go4 (fs := []) (ok 0 _) eqs trivial 100 [] rfl (by simp [allP]; omega) ?_
      refine VX_eq 19 rfl rfl (d' := .t 29 (.e (hsE (hs.take i)))) (show D.t 29 (.e (.sl (((hs.map Hd.E).take i).drop 0))) = D.t 29 (.e (.sl ((hs.take i).map Hd.E))) by rw [List.map_take]; rfl) ?_
      refine VX_callO (ok 0 _) [78, 29, 59] [] rfl rfl rfl rfl rfl rfl rfl rfl c1 rfl rfl rfl ?_
      refine VX_go4 (fs := []) (ok 0 _) eqs trivial 100 [] rfl trivial ?_
      refine VX_known 22 false rfl rfl rfl ?_
      refine VX_go4 (fs := []) (ok 0 _) eqs trivial 100 [] rfl trivial ?_
      refine loop_nrm ⟨i + 1, by omega, by omega, ?_⟩
      exact wkc [.tree 59 (.e (Hd.E ⟨r1, r2, r3, r4, r5, r6, r7⟩))] rfl rfl (by simp [Blk.under, T.under]) (lc (li (by rw [ei])) (lc (ls rfl rfl) (lc (ls rfl rfl) (lc (ls rfl rfl) (lc (ls rfl rfl) lnil)))))
    · refine VX_go4 (fs := []) (ok 0 _) eqs trivial 100 [] rfl trivial ?_
      apply loop_brk
      refine VX_go4 (fs := []) (ok 0 _) eqs trivial 100 [] rfl trivial ?_
      exact ⟨.inr rfl, rfl⟩

/-! ### the head of a height -/
theorem clos_ok (x : Hd) (g : Nat) : FnG Tryd.prog tb 34 [.tree 22 (.e (.int g))] [.t 59 (.e x.E), .ptr 0 []] (fun d t => d = .t 4 (.e (.bool (decide (x.h = g)))) ∧ t = [.tree 22 (.e (.int g))]) := by
  refine FnG_of_V (fn := Tryd.f34) (bt := 4) false [] [4] (ok 1 _) Tryd.func34 rfl rfl rfl fun _ _ _ _ _ _ => ?_
  obtain ⟨r1, r2, r3, r4, r5, r6, r7⟩ := x
  apply V_of_VX
  refine VX_go4 (fs := []) (ok 1 _) eqs trivial 100 [] rfl trivial ?_
  refine ⟨.inr rfl, _, _, _, rfl, rfl, rfl, ?_, rfl⟩
  have : decide ((r1 : Int) = (g : Int)) = decide (r1 = g) := by rw [decide_eq_decide]; omega
  show D.t 4 (.e (.bool (decide ((r1 : Int) = (g : Int))))) = _
  rw [this]
def hidx (g : Nat) : List Hd → Nat → Int
  | [], _ => -1
  | x :: l, i => if decide (x.h = g) = true then i else hidx g l (i + 1)
def findH (g : Nat) : List Hd → Option Hd
  | [] => none
  | x :: l => if x.h = g then some x else findH g l
theorem hidx_spec (g : Nat) : ∀ (l : List Hd) (k : Nat), (hidx g l k = -1 ∧ findH g l = none) ∨ ∃ j, j < l.length ∧ hidx g l k = ((k + j : Nat) : Int) ∧ findH g l = some (l.getD j z0h)
  | [], k => .inl ⟨rfl, rfl⟩
  | x :: l, k => by
    by_cases h : x.h = g
    · exact .inr ⟨0, by simp, by simp [hidx, h], by simp [findH, h]⟩
    · rcases hidx_spec g l (k + 1) with ⟨h1, h2⟩ | ⟨j, h1, h2, h3⟩
      · exact .inl ⟨by simp [hidx, h, h1], by simp [findH, h, h2]⟩
      · exact .inr ⟨j + 1, by simp; omega, by simp only [hidx, h, decide_false, Bool.false_eq_true, if_false, h2]; congr 1; omega, by simp [findH, h, h3]⟩
theorem index_ok (hs : List Hd) (g : Nat) (hl : hs.length ≤ 100000) : FnG Tryd.prog tb 33 [.tree 22 (.e (.int g))] [.t 29 (.e (hsE hs)), .t 88 (.fn 34 [(0, [])])] (fun d t => d = .t 3 (.e (.int (hidx g hs 0))) ∧ t = [.tree 22 (.e (.int g))]) := by
  refine FnG_of_V (fn := Tryd.f33) (bt := 4) false [] [3] (ok 1 _) Tryd.func33 rfl rfl rfl fun _ _ _ _ _ _ => ?_
  have hrm : (hs.map Hd.E).length = hs.length := by simp
  apply V_of_VX
  refine VX_go4 (fs := []) (ok 1 _) eqs trivial 100 [] rfl trivial ?_
  refine VX_loopA (fun i : Nat => i ≤ hs.length ∧ hidx g (hs.drop i) i = hidx g hs 0) (fun i => [(8, .t 3 (.e (.int i))), (7, .t 3 (.e (.int hs.length))), (0, .t 29 (.e (hsE hs))), (1, .t 88 (.fn 34 [(0, [])]))]) (fun _ => [.tree 22 (.e (.int g))]) (fun i => hs.length - i) 0 ⟨by simp, by simp⟩ ?_ ?_
  · exact wk1 rfl rfl (by simp [Blk.under, T.under]) (lc (ls rfl rfl) (lc (li (by rw [hrm])) (lc (ls rfl rfl) (lc (ls rfl rfl) lnil))))
  · rintro i ⟨hi, hpq⟩
    refine VX_go4 (fs := []) (ok 1 _) eqs trivial 100 [] rfl trivial ?_
    refine VX_split 9 rfl rfl (fun h => ?_) (fun h => ?_)
    · have hi : i < hs.length := by simpa using h
      have hg := hd_get hi
      have hd1 : hs.drop i = hs.getD i z0h :: hs.drop (i + 1) := by rw [List.drop_eq_getElem_cons hi]; simp [List.getD, hi]
      rw [hd1] at hpq
      generalize hs.getD i z0h = r at hg hpq
      refine VX_go4 (fs := []) (ok 1 _) eqs trivial 100 [] rfl (by simp [allP]; omega) ?_
      refine VX_eq 15 rfl rfl (d' := .t 59 (.e r.E)) (congrArg (fun x => D.t 59 (.e x)) hg) ?_
      refine VX_callC (ok 1 _) [59] [0] rfl rfl rfl rfl rfl rfl rfl (clos_ok r g) rfl rfl rfl ?_
      refine VX_split 16 rfl rfl (fun h => ?_) (fun h => ?_)
      · refine VX_go4 (fs := []) (ok 1 _) eqs trivial 100 [] rfl trivial ?_
        have : hidx g hs 0 = i := by rw [← hpq]; simp [hidx, h]
        refine loop_ret ⟨.inr rfl, _, _, _, rfl, rfl, rfl, ?_⟩
        rw [this]; exact ⟨rfl, rfl⟩
      · refine VX_go4 (fs := []) (ok 1 _) eqs trivial 100 [] rfl trivial ?_
        refine loop_nrm ⟨i + 1, by omega, ⟨by omega, ?_⟩, ?_⟩
        · rw [← hpq]; simp only [hidx, h]; simp
        · refine wk1 rfl rfl (by simp [Blk.under, T.under]) (lc (li ?_) (lc (ls rfl rfl) (lc (ls rfl rfl) (lc (ls rfl rfl) lnil))))
          rw [w64 (by omega) (by omega)]; simp
    · refine VX_go4 (fs := []) (ok 1 _) eqs trivial 100 [] rfl trivial ?_
      apply loop_brk
      refine VX_go4 (fs := []) (ok 1 _) eqs trivial 100 [] rfl trivial ?_
      have : i = hs.length := by simp at h; omega
      refine ⟨.inr rfl, _, _, _, rfl, rfl, rfl, ?_⟩
      rw [← hpq, this, List.drop_length]; exact ⟨rfl, rfl⟩

/-! ### what is shown -/
structure Pf.ok (x : Pf) : Prop where
  a : x.a < 4294967296
  c : x.c.length ≤ 30000
  cs : All32 x.cs
  rs : All32 x.rs
  lc : x.cs.length ≤ 100000
  lr : x.rs.length ≤ 100000
def shwB (x : Hd) (p : Pf) : Int :=
  if x.n ≤ p.a then 2 else if provesB x.c (callB p.c) p.a p.cs = false then 35 else if provesB x.r (recB p.a p.e) p.a p.rs = false then 35 else 0
def showO (F : Hd → Int) : Option Hd → Int
  | none => 14
  | some x => F x
def showB (hs : List Hd) (g : Nat) (p : Pf) : Int := showO (fun x => shwB x p) (findH g hs)
theorem callB_length (s : List UInt8) : (callB s).length = 32 := ofB_length _ _
theorem recB_length (i : Nat) (e : Int) : (recB i e).length = 32 := ofB_length _ _
set_option maxHeartbeats 1600000 in
theorem shows_ok {hs : List Hd} (hl : hs.length ≤ 100000) (g : Nat) {p : Pf} (hp : p.ok) : FnOk Tryd.prog tb 14 [78, 31, 22, 36] [33] [.nilp, liE hs, .int g, p.E] [.int (showB hs g p)] := by
  refine FnOk_of_V (fn := Tryd.f14) (bt := 4) (ok 0 _) Tryd.func14 rfl rfl rfl (by decide) fun hw => ?_
  clear hw
  have hrm : (hs.map Hd.E).length = hs.length := by simp
  have c0 := index_ok hs g hl
  have hsp := hidx_spec g hs 0
  generalize hidx g hs 0 = k at c0 hsp
  unfold showB
  apply V_of_VX
  refine VX_go4 (fs := []) (ok 0 _) eqs trivial 100 [] rfl trivial ?_
  refine VX_makeFunc rfl rfl rfl rfl rfl rfl ?_
  refine VX_callD (ok 0 _) [29, 88] [1] rfl rfl rfl rfl rfl rfl c0 rfl rfl rfl ?_
  refine VX_go4 (fs := []) (ok 0 _) eqs trivial 100 [] rfl trivial ?_
  rcases hsp with ⟨rfl, hn⟩ | ⟨j, hj, rfl, hn⟩
  · rw [hn]
    refine VX_known 16 true rfl rfl rfl ?_
    refine VX_go4 (fs := []) (ok 0 _) eqs trivial 100 [] rfl trivial ?_
    exact ⟨.inr rfl, rfl⟩
  rw [hn]
  simp only [showO]
  have hg := hd_get hj
  generalize hs.getD j z0h = x at hg ⊢
  rw [Nat.zero_add]
  obtain ⟨x1, x2, x3, x4, x5, x6, x7⟩ := x
  have c1 := (call_ok hp.c).g
  have c2 := (Me.proves_ok (root := x5) (callB_length p.c) hp.cs hp.lc p.a hp.a).g
  have c3 := (rec_ok hp.a p.e).g
  have c4 := (Me.proves_ok (root := x6) (recB_length p.a p.e) hp.rs hp.lr p.a hp.a).g
  obtain ⟨pa, pc, pe, pcs, prs⟩ := p
  have hpa := hp.a
  unfold shwB
  simp only at c1 c2 c3 c4 hpa ⊢
  generalize provesB x5 (callB pc) pa pcs = b1 at c2 ⊢
  generalize provesB x6 (recB pa pe) pa prs = b2 at c4 ⊢
  generalize callB pc = d1 at c1 c2
  generalize recB pa pe = d2 at c3 c4
  have ew : IntKind.wrap .i64 (pa : Int) = (pa : Int) := w64 (by omega) (by omega)
  refine VX_known 16 false rfl rfl (by simp) ?_
  refine VX_go4 (fs := []) (ok 0 _) eqs trivial 100 [10] rfl (by simp [allP]; omega) ?_
  refine VX_eq 21 rfl rfl (d' := .t 59 (.e (Hd.E ⟨x1, x2, x3, x4, x5, x6, x7⟩))) (congrArg (fun x => D.t 59 (.e x)) hg) ?_
  refine VX_go4 (fs := []) (ok 0 _) eqs trivial 100 [] rfl trivial ?_
  by_cases hq : x7 ≤ pa
  · rw [if_pos hq]
    refine VX_known 22 true rfl rfl (by simp; omega) ?_
    refine VX_go4 (fs := []) (ok 0 _) eqs trivial 100 [] rfl trivial ?_
    exact ⟨.inr rfl, rfl⟩
  rw [if_neg hq]
  refine VX_known 22 false rfl rfl (by simp; omega) ?_
  refine VX_go4 (fs := []) (ok 0 _) eqs trivial 100 [] rfl trivial ?_
  refine VX_draw [] [(0, true), (1, true), (2, true), (3, true), (4, true), (5, true), (7, true), (8, true), (9, true), (10, true), (6, false), (11, false), (12, true), (13, true)] mixed (by kernel_rfl) (by kernel_rfl) (by kernel_rfl) ?_
  refine VX_go4 (fs := []) (ok 0 _) eqs trivial 100 [] rfl trivial ?_
  refine VX_callO (ok 0 _) [78, 9] [] rfl rfl rfl rfl rfl rfl rfl rfl c1 rfl rfl rfl ?_
  refine VX_callO (ok 0 _) [78, 24, 24, 32, 34] [] rfl rfl rfl rfl rfl rfl rfl rfl c2 rfl rfl rfl ?_
  refine VX_go4 (fs := []) (ok 0 _) eqs trivial 100 [] rfl trivial ?_
  cases b1 with
  | false =>
    rw [if_pos rfl]
    refine VX_known 28 true rfl rfl rfl ?_
    refine VX_go4 (fs := []) (ok 0 _) eqs trivial 100 [] rfl trivial ?_
    exact ⟨.inr rfl, rfl⟩
  | true =>
  rw [if_neg (by simp)]
  refine VX_known 28 false rfl rfl rfl ?_
  refine VX_go4 (fs := []) (ok 0 _) eqs trivial 100 [] rfl trivial ?_
  refine VX_draw [] [(0, true), (1, true), (2, true), (3, true), (4, true), (5, true), (6, true), (7, true), (8, true), (10, true), (11, true), (12, true), (13, true), (9, false), (14, false), (15, true), (16, true)] mixed (by kernel_rfl) (by kernel_rfl) (by kernel_rfl) ?_
  refine VX_go4 (fs := []) (ok 0 _) eqs trivial 100 [] rfl trivial ?_
  refine VX_eq 48 rfl rfl (d' := .t 3 (.e (.int pa))) (congrArg (fun x => D.t 3 (.e (.int x))) ew) ?_
  refine VX_callO (ok 0 _) [78, 3, 33] [] rfl rfl rfl rfl rfl rfl rfl rfl c3 rfl rfl rfl ?_
  refine VX_callO (ok 0 _) [78, 24, 24, 32, 34] [] rfl rfl rfl rfl rfl rfl rfl rfl c4 rfl rfl rfl ?_
  refine VX_go4 (fs := []) (ok 0 _) eqs trivial 100 [] rfl trivial ?_
  cases b2 with
  | false =>
    rw [if_pos rfl]
    refine VX_known 28 true rfl rfl rfl ?_
    refine VX_go4 (fs := []) (ok 0 _) eqs trivial 100 [] rfl trivial ?_
    exact ⟨.inr rfl, rfl⟩
  | true =>
    rw [if_neg (by simp)]
    refine VX_known 28 false rfl rfl rfl ?_
    refine VX_go4 (fs := []) (ok 0 _) eqs trivial 100 [] rfl trivial ?_
    exact ⟨.inr rfl, rfl⟩
end Go.Den.Q33
/- Law 33: what a light client is shown, in the other's words. -/
namespace Go.Den.Q33
open Go Go.Den Go.Proofs Go.Den.Q33.Dg
set_option maxRecDepth 8000
set_option linter.unusedVariables false
set_option linter.unusedSimpArgs false
open Go.Den.Q33.Sh (dgE)
open Go.Den.Q33.Me (Dig dsE All32 z0 rootB eqDg brL provesB)
theorem rcall_ok {s : List UInt8} (h : s.length ≤ 30000) : FnOk Tryd.prog tb 39 [61, 5, 25] [24] [.nilp, byteE 203, .sl [.str s]] [dgE (callB s)] := rof_nil 203 [s] (call_input h)
set_option maxHeartbeats 1600000 in
theorem rshows_ok {hs : List Hd} (hl : hs.length ≤ 100000) (g : Nat) {p : Pf} (hp : p.ok) : FnOk Tryd.prog tb 15 [61, 53, 22, 42] [3] [.nilp, hsE hs, .int g, p.E] [.int (showB hs g p)] := by
  refine FnOk_of_V (fn := Tryd.f15) (bt := 4) (ok 0 _) Tryd.func15 rfl rfl rfl (by decide) fun hw => ?_
  clear hw
  have hrm : (hs.map Hd.E).length = hs.length := by simp
  unfold showB
  have c1 := (rcall_ok hp.c).g
  have c3 := (rrec_ok hp.a p.e).g
  have hpa := hp.a
  have ew := u64n p.a (by omega)
  obtain ⟨F, hF⟩ : ∃ F : Hd → Int, F = fun x => shwB x p := ⟨_, rfl⟩
  rw [← hF]
  have key' : ∀ x : Hd, ∃ b1 b2 : Bool, (FnOk Tryd.prog tb 38 [61, 24, 24, 32, 34] [4] [.nilp, dgE x.c, dgE (callB p.c), .int p.a, dsE p.cs] [.bool b1]) ∧
      (FnOk Tryd.prog tb 38 [61, 24, 24, 32, 34] [4] [.nilp, dgE x.r, dgE (recB p.a p.e), .int p.a, dsE p.rs] [.bool b2]) ∧
      F x = if x.n ≤ p.a then 2 else if b1 = false then 35 else if b2 = false then 35 else 0 := fun x =>
    ⟨_, _, Me.rproves_ok (callB_length p.c) hp.cs hp.lc p.a hp.a, Me.rproves_ok (recB_length p.a p.e) hp.rs hp.lr p.a hp.a, by rw [hF]; rfl⟩
  clear hF
  generalize callB p.c = d1 at c1 key'
  generalize recB p.a p.e = d2 at c3 key'
  clear hp
  obtain ⟨pa, pc, pe, pcs, prs⟩ := p
  simp only at c1 c3 hpa ew key'
  apply V_of_VX
  refine VX_go4 (fs := []) (ok 0 _) eqs trivial 100 [] rfl trivial ?_
  refine VX_loopA (fun i : Nat => i ≤ hs.length ∧ findH g (hs.drop i) = findH g hs) (fun i => [(13, .t 3 (.e (.int i))), (12, .t 3 (.e (.int hs.length))), (11, .t 53 (.e (hsE hs))), (7, .ptr 0 []), (2, .t 22 (.e (.int g))), (0, .t 61 (.e .nilp))])
    (fun i => [.tree 42 (.e (Pf.E ⟨pa, pc, pe, pcs, prs⟩))]) (fun i => hs.length - i) 0 ⟨by omega, by simp⟩ ?_ ?_
  · exact wk1 rfl rfl (by simp [Blk.under, T.under]) (lc (ls rfl rfl) (lc (li (by rw [hrm])) (lc (ls rfl rfl) (lc (ls rfl rfl) (lc (ls rfl rfl) (lc (ls rfl rfl) lnil))))))
  · rintro i ⟨hi, hpq⟩
    refine VX_go4 (fs := []) (ok 0 _) eqs trivial 100 [] rfl trivial ?_
    refine VX_split 14 rfl rfl (fun h => ?_) (fun h => ?_)
    · have hi : i < hs.length := by simpa using h
      have ei : IntKind.wrap .i64 ((i : Int) + 1) = ((i + 1 : Nat) : Int) := by rw [w64 (by omega) (by omega)]; simp
      have hg := hd_get hi
      have hd1 : hs.drop i = hs.getD i z0h :: hs.drop (i + 1) := by rw [List.drop_eq_getElem_cons hi]; simp [List.getD, hi]
      rw [hd1] at hpq
      generalize hs.getD i z0h = x at hg hpq
      obtain ⟨b1, b2, c2, c4, hF⟩ := key' x
      have c2 := c2.g
      have c4 := c4.g
      obtain ⟨x1, x2, x3, x4, x5, x6, x7⟩ := x
      simp only at c2 c4 hF
      refine VX_go4 (fs := []) (ok 0 _) eqs trivial 100 [10] rfl (by simp [allP]; omega) ?_
      refine VX_eq 16 rfl rfl (d' := .t 63 (.e (Hd.E ⟨x1, x2, x3, x4, x5, x6, x7⟩))) (congrArg (fun x => D.t 63 (.e x)) hg) ?_
      refine VX_go4 (fs := []) (ok 0 _) eqs trivial 100 [] rfl trivial ?_
      by_cases hh : x1 = g
      · have hfd : findH g hs = some ⟨x1, x2, x3, x4, x5, x6, x7⟩ := by rw [← hpq]; simp [findH, hh]
        rw [hfd]
        simp only [showO]
        rw [hF]
        refine VX_known 20 false rfl rfl (by simp [hh]; try omega) ?_
        refine VX_go4 (fs := []) (ok 0 _) eqs trivial 100 [] rfl trivial ?_
        by_cases hq : x7 ≤ pa
        · rw [if_pos hq]
          refine VX_known 25 true rfl rfl (by simp; omega) ?_
          refine VX_go4 (fs := []) (ok 0 _) eqs trivial 100 [] rfl trivial ?_
          apply loop_ret
          exact ⟨.inr rfl, rfl⟩
        rw [if_neg hq]
        refine VX_known 25 false rfl rfl (by simp; omega) ?_
        refine VX_go4 (fs := []) (ok 0 _) eqs trivial 100 [] rfl trivial ?_
        refine VX_draw [] [(0, true), (1, true), (2, true), (3, true), (4, true), (5, true), (8, true), (9, true), (10, true), (11, true), (6, false), (7, false), (12, false), (13, true)] mixed (by kernel_rfl) (by kernel_rfl) (by kernel_rfl) ?_
        refine VX_go4 (fs := []) (ok 0 _) eqs trivial 100 [] rfl trivial ?_
        refine VX_litO (ok 0 _) rfl rfl rfl rfl rfl ?_
        refine VX_callO (ok 0 _) [61, 5, 25] [] rfl rfl rfl rfl rfl rfl rfl rfl c1 rfl rfl rfl ?_
        refine VX_callO (ok 0 _) [61, 24, 24, 32, 34] [] rfl rfl rfl rfl rfl rfl rfl rfl c2 rfl rfl rfl ?_
        refine VX_go4 (fs := []) (ok 0 _) eqs trivial 100 [] rfl trivial ?_
        cases b1 with
        | false =>
          rw [if_pos rfl]
          refine VX_known 39 true rfl rfl rfl ?_
          refine VX_go4 (fs := []) (ok 0 _) eqs trivial 100 [] rfl trivial ?_
          apply loop_ret
          exact ⟨.inr rfl, rfl⟩
        | true =>
        rw [if_neg (by simp)]
        refine VX_known 39 false rfl rfl rfl ?_
        refine VX_go4 (fs := []) (ok 0 _) eqs trivial 100 [] rfl trivial ?_
        refine VX_draw [] [(0, true), (1, true), (2, true), (3, true), (4, true), (5, true), (6, true), (7, true), (8, true), (10, true), (11, true), (12, true), (13, true), (9, false), (14, false), (15, true)] mixed (by kernel_rfl) (by kernel_rfl) (by kernel_rfl) ?_
        refine VX_go4 (fs := []) (ok 0 _) eqs trivial 100 [] rfl trivial ?_
        refine VX_eq 46 rfl rfl (d' := .t 22 (.e (.int pa))) (congrArg (fun x => D.t 22 (.e (.int x))) ew) ?_
        refine VX_callO (ok 0 _) [61, 22, 3] [] rfl rfl rfl rfl rfl rfl rfl rfl c3 rfl rfl rfl ?_
        refine VX_callO (ok 0 _) [61, 24, 24, 32, 34] [] rfl rfl rfl rfl rfl rfl rfl rfl c4 rfl rfl rfl ?_
        refine VX_go4 (fs := []) (ok 0 _) eqs trivial 100 [] rfl trivial ?_
        cases b2 with
        | false =>
          rw [if_pos rfl]
          refine VX_known 55 true rfl rfl rfl ?_
          refine VX_go4 (fs := []) (ok 0 _) eqs trivial 100 [] rfl trivial ?_
          apply loop_ret
          exact ⟨.inr rfl, rfl⟩
        | true =>
          rw [if_neg (by simp)]
          refine VX_known 55 false rfl rfl rfl ?_
          refine VX_go4 (fs := []) (ok 0 _) eqs trivial 100 [] rfl trivial ?_
          apply loop_ret
          exact ⟨.inr rfl, rfl⟩
      · refine VX_known 20 true rfl rfl (by simp; omega) ?_
        refine VX_go4 (fs := []) (ok 0 _) eqs trivial 100 [] rfl trivial ?_
        refine loop_nrm ⟨i + 1, by omega, ⟨by omega, by rw [← hpq]; simp [findH, hh]⟩, ?_⟩
        exact wkc [.tree 63 (.e (Hd.E ⟨x1, x2, x3, x4, x5, x6, x7⟩))] rfl rfl (by simp [Blk.under, T.under]) (lc (li (by rw [ei])) (lc (ls rfl rfl) (lc (ls rfl rfl) (lc (ls rfl rfl) (lc (ls rfl rfl) (lc (ls rfl rfl) lnil))))))
    · have : i = hs.length := by simp at h; omega
      have hfd : findH g hs = none := by rw [← hpq, this, List.drop_length]; rfl
      rw [hfd]
      refine VX_go4 (fs := []) (ok 0 _) eqs trivial 100 [] rfl trivial ?_
      apply loop_brk
      refine VX_go4 (fs := []) (ok 0 _) eqs trivial 100 [] rfl trivial ?_
      exact ⟨.inr rfl, rfl⟩
end Go.Den.Q33
