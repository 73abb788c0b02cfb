/- Regions that draw the order of their operations: what only reckons or reads may be taken first; a call waits until it stands alone. -/
import Derived.Test.YtgdfegmdjdnbdaaDenCall2
import Derived.Test.YtgdfegmdjdnbdaaDenDop
import Derived.OrdersHeld
namespace Go.Den
open Go
set_option linter.unusedSectionVars false
set_option linter.unusedSimpArgs false
set_option linter.unusedVariables false

/-- What stands, of a world, but for the blocks in ts. -/
def Keeps (ts : List Nat) (H : Gh) (w w' : World) : Prop := ∀ b o u, w.cell? ⟨b, o, none⟩ = some u → ((∃ x, H b o = .pers x) ∨ ∃ i, i ∉ ts ∧ H b o = .mine i) → w'.cell? ⟨b, o, none⟩ = some u
def Frm (ts : List Nat) (H : Gh) (w : World) (H' : Gh) (w' : World) : Prop :=
  ∀ b o u, w.cell? ⟨b, o, none⟩ = some u → ((∃ x, H b o = .pers x) ∨ ∃ i, i ∉ ts ∧ H b o = .mine i) → w'.cell? ⟨b, o, none⟩ = some u ∧ ((∃ x, H' b o = .pers x) ∨ ∃ i, i ∉ ts ∧ H' b o = .mine i)
def StabS (ts : List Nat) (H : Gh) (w : World) (S : World → Prop) : Prop := ∀ w', Keeps ts H w w' → S w'
theorem StabS.frm {ts H w H' w' S} (h : StabS ts H w S) (hf : Frm ts H w H' w') : StabS ts H' w' S := fun w'' hk => h w'' fun b o u hu hs => by
  obtain ⟨h1, h2⟩ := hf b o u hu hs
  exact hk b o u h1 h2
theorem StabS.here {ts H w S} (h : StabS ts H w S) : S w := h w fun _ _ _ hu _ => hu

/-- What an operation does, and what it leaves alone. -/
def OpF (C : Cx) (o : Oper) (env : Env) (σ : List Blk) (ts : List Nat) (R : D → List Blk → Prop) : Prop :=
  ∀ H β a w, Rel C.tb H β σ w → EnvRel C.tb H β σ C.n a env → a.defers = [] → ∀ (K : Act → World → Prop) (Qx : Exit → Act → World → Prop),
    (∀ v d w' H' β' σ', R d σ' → Rel C.tb H' β' σ' w' → DRel C.tb H' β' σ' v d → Stp H w H' w' → Ev H β σ H' β' σ' → Frm ts H w H' w' → K (a.put o.dst v) w') → o.wp C.P a w K Qx
theorem OpF.v {C o env σ ts R} (h : OpF C o env σ ts R) : OpV C o env σ R := fun H β a w hr he hd K Qx hK => h H β a w hr he hd K Qx fun v d w' H' β' σ' h1 h2 h3 h4 h5 _ => hK v d w' H' β' σ' h1 h2 h3 h4 h5

section
variable {C : Cx} {env : Env} {σ : List Blk} {Q : Post} {ops : Array Oper} {o : Oper} {ts : List Nat}

theorem Frm.same (ts : List Nat) (H : Gh) (w : World) : Frm ts H w H w := fun _ _ _ h k => ⟨h, k⟩

theorem OpF_val {r : DR} (h : OpOk C o env σ r) (hv : isVal o.op = true) : OpF C o env σ ts (fun d s => d = r.d ∧ s = r.s) := by
  intro H β a w hr he hd K Qx hK
  obtain ⟨hval, hs⟩ := h.val hv
  obtain ⟨v, hrun, hd⟩ := hval H β a w hr he
  simp only [Oper.wp, hrun w (.refl _ _ _), Oper.upon]
  exact hK v _ w H β σ ⟨rfl, hs.symm⟩ hr hd (.refl _ _) (.refl _ _ _) (.same _ _ _)

theorem wpOp_mono2 {P : Program} {Q Q' : Exit → Act → World → Prop} {K K' : Act → World → Prop} (hq : ∀ e a w, Q e a w → Q' e a w) (hk : ∀ a w, K a w → K' a w) {i : Nat} {a : Act} {w : World} (h : wpOp P ops Q i K a w) : wpOp P ops Q' i K' a w := by
  unfold wpOp at *
  split
  · rename_i h0; rw [h0] at h; exact hk _ _ h
  · rename_i o ho
    rw [ho] at h
    simp only at h
    split
    · rename_i hw
      rw [if_pos hw] at h
      rcases h with h | ⟨h1, ⟨a2, w2, h2⟩⟩
      · refine .inl ?_
        unfold Oper.wp at *
        generalize (execOp a.eval o).run P w = r at *
        cases r with
        | ok n w' =>
          cases n <;> simp only [Oper.upon] at h ⊢ <;>
            first
              | exact hk _ _ h
              | exact Calls.mono h (fun e w'' he => by
                  cases e <;> first
                    | exact hk _ _ he
                    | exact hq _ _ _ he
                    | (obtain ⟨a3, w3, h3⟩ := he; exact ⟨a3, w3, hq _ _ _ h3⟩))
              | exact Rows.mono h (fun _ _ he => hk _ _ he)
        | halt x w' => cases x <;> simp only [Oper.upon] at h ⊢ <;> first | exact hq _ _ _ h | exact h
      · exact .inr ⟨h1, a2, w2, hq _ _ _ h2⟩
    · rename_i hw; rw [if_neg hw] at h; exact hk _ _ h
theorem wpAnyH_mono2 {P : Program} {md : Region.Mode} {Q Q' : Exit → Act → World → Prop} {S S' : World → Prop} (hq : ∀ e a w, Q e a w → Q' e a w) (hs : ∀ w, S w → S' w) : ∀ (fuel : Nat) (listed : Array Bool) (a : Act) (w : World),
    wpAnyH P md ops Q S fuel listed a w → wpAnyH P md ops Q' S' fuel listed a w
  | 0, _, _, _, h => ⟨h.1, hq _ _ _ h.2⟩
  | fuel + 1, _, _, _, h => ⟨fun h0 => hq _ _ _ (h.1 h0), fun i hi => wpOp_mono2 hq (fun a' w' h' => ⟨hs _ h'.1, wpAnyH_mono2 hq hs fuel _ a' w' h'.2⟩) (h.2 i hi)⟩

def VH (C : Cx) (ops : Array Oper) (ts : List Nat) (fuel : Nat) (listed : Array Bool) (env : Env) (σ : List Blk) (Q : Post) : Prop :=
  ∀ H β a w, Rel C.tb H β σ w → EnvRel C.tb H β σ C.n a env → a.defers = [] → ∀ S, StabS ts H w S → wpAnyH C.P .any ops (lift C H β σ w Q) S fuel listed a w

theorem lift_panic {H β w c a w'} (h : lift C H β σ w Q (.panic c) a w') : False := by obtain ⟨x, hx, _⟩ := h; cases hx

theorem VH_done {listed : Array Bool} (hr : Region.ready .any ops listed = []) (h : Q .nrm env σ) (fuel : Nat) : VH C ops ts fuel listed env σ Q :=
  fun _ _ _ _ hr' he hd _ _ => wpAnyH_done hr (lift.here hr' he hd rfl h) fuel

/-- Whether an operation is wanted, as far as the temporaries tell. -/
def wants (ops : List Oper) (env : Env) (o : Oper) : Option Bool := match o.guard with
  | none => some true
  | some (j, want) => match ops[j]? with
    | some oj => match oj.dst with
      | some t => match getD env t with
        | .kb _ true => some want
        | .kb _ false => match want with
          | true => some false
          | false => some true
        | .tup [] => some false
        | _ => none
      | none => none
    | none => none

theorem DRel.undef {tb : Tab} {H β} {σ : List Blk} : DRel tb H β σ undef (.tup []) := .tup rfl fun i v d hv hd => by simp at hd
theorem yielded_undef {tb : Tab} {H β n a} (he : EnvRel tb H β σ n a env) {ops : Array Oper} {j t : Nat} {oj : Oper} (hj : ops[j]? = some oj) (ht : oj.dst = some t) (hb : getD env t = .tup []) : yielded ops a.tmps j = none := by
  have hv := he.get t
  rw [hb] at hv
  generalize hve : a.tmps.getD t Go.undef = v at hv
  cases hv with
  | tup h1 h2 =>
    rename_i vs
    have hvs : vs = #[] := Array.eq_empty_of_size_eq_zero h1
    subst hvs
    unfold yielded
    rw [hj]
    simp only [Option.bind_some, ht]
    rw [Array.getD_eq_getD_getElem?] at hve
    cases hx : a.tmps[t]? with
    | none => rfl
    | some x => rw [hx] at hve; simp at hve; subst hve; rfl

theorem wants_rel {l : List Oper} {H β n a b} {tb : Tab} (he : EnvRel tb H β σ n a env) (h : wants l env o = some b) : Region.wanted o (yielded l.toArray a.tmps) = b := by
  unfold wants at h
  split at h
  · rename_i hg; cases h; simp [Region.wanted, hg]
  · rename_i j want hg
    split at h
    · rename_i oj hj
      split at h
      · rename_i t ht
        split at h
        · rename_i ty hb
          have hbb := Option.some.inj h
          rw [← hbb]
          have := yielded_of he (ops := l.toArray) (b := true) (by simpa using hj) ht (by rw [hb]; rfl)
          cases want <;> simp [Region.wanted, hg, this]
        · rename_i ty hb
          have := yielded_of he (ops := l.toArray) (b := false) (by simpa using hj) ht (by rw [hb]; rfl)
          split at h <;> cases h <;> simp [Region.wanted, hg, this]
        · rename_i hb
          have hbb := Option.some.inj h
          rw [← hbb]
          have := yielded_undef he (ops := l.toArray) (by simpa using hj) ht hb
          simp [Region.wanted, hg, this]
        · cases h
      · cases h
    · cases h

theorem VH_take {l : List Oper} {i : Nat} {fuel : Nat} {listed : Array Bool} {r : DR} (hi : l[i]? = some o) (hs : Region.noSelect l.toArray = true) (hf : Region.free .any l.toArray listed i = true) (hr : (Region.ready .any l.toArray listed).contains i = true)
    (hw : wants l env o = some true) (hn : dstOk C.n o.dst = true) (ho : OpOk C o env σ r) (hv : isVal o.op = true) (hd : ∀ j ∈ rsOf env o.op, j ∉ ts)
    (k : VH C l.toArray ts fuel (listed.setIfInBounds i true) (putD env o.dst r.d) r.s Q) : VH C l.toArray ts (fuel + 1) listed env σ Q := by
  intro H β a w hr' he hdef S hS
  obtain ⟨hval, hss⟩ := ho.val hv
  rw [hss] at k
  obtain ⟨v, hrun, hrel⟩ := hval H β a w hr' he
  let S' : World → Prop := fun w' => S w' ∧ (execOp a.eval o).run C.P w' = .ok (.value v) w'
  have hS' : StabS ts H w S' := fun w' hk => ⟨hS w' hk, hrun w' fun b o' u hu h => hk b o' u hu (h.imp id fun ⟨i, hi, hm⟩ => ⟨i, hd i hi, hm⟩)⟩
  have hd' : (a.put o.dst v).defers = [] := by cases o.dst <;> exact hdef
  have hk := k H β (a.put o.dst v) w hr' (he.put hrel hn) hd' S' hS'
  refine wpAnyH_mono2 (fun _ _ _ h => h) (fun w h => h.1) _ _ _ _ (wpAnyH_take (S := S') (v := v) (i := i) (oi := o) (by simpa using hi) hs hf hr (fun c a w h => (lift_panic h).elim) (.inl ⟨wants_rel he hw, fun w' h => h.2⟩) hS'.here hk)

theorem VH_skip {l : List Oper} {i : Nat} {fuel : Nat} {listed : Array Bool} (hi : l[i]? = some o) (hs : Region.noSelect l.toArray = true) (hf : Region.free .any l.toArray listed i = true) (hr : (Region.ready .any l.toArray listed).contains i = true)
    (hw : wants l env o = some false) (hn : dstOk C.n o.dst = true)
    (k : VH C l.toArray ts fuel (listed.setIfInBounds i true) (putD env o.dst (.tup [])) σ Q) : VH C l.toArray ts (fuel + 1) listed env σ Q := by
  intro H β a w hr' he hdef S hS
  have hd' : (a.put o.dst undef).defers = [] := by cases o.dst <;> exact hdef
  have hk := k H β (a.put o.dst undef) w hr' (he.put .undef hn) hd' S hS
  exact wpAnyH_take (S := S) (v := undef) (i := i) (oi := o) (by simpa using hi) hs hf hr (fun c a w h => (lift_panic h).elim) (.inr ⟨wants_rel he hw, rfl⟩) hS.here hk

theorem VH_one {l : List Oper} {i : Nat} {fuel : Nat} {listed : Array Bool} {R : D → List Blk → Prop} (hi : l[i]? = some o) (hr : Region.ready .any l.toArray listed = [i])
    (hw : wants l env o = some true) (hn : dstOk C.n o.dst = true) (ho : OpF C o env σ ts R)
    (k : ∀ d s, R d s → VH C l.toArray ts fuel (listed.setIfInBounds i true) (putD env o.dst d) s Q) : VH C l.toArray ts (fuel + 1) listed env σ Q := by
  intro H β a w hr' he hdef S hS
  refine wpAnyH_all hr (by simp) fun j hj => ?_
  simp only [List.mem_singleton] at hj
  subst hj
  unfold wpOp
  have hi' : l.toArray[j]? = some o := by simpa using hi
  simp only [hi', wants_rel he hw, if_true]
  refine .inl (ho H β a w hr' he hdef _ _ ?_)
  intro v d w' H' β' σ' hR hr2 hv hs hev hfr
  have hd' : (a.put o.dst v).defers = [] := by cases o.dst <;> exact hdef
  have hS' := hS.frm hfr
  refine ⟨hS'.here, ?_⟩
  exact wpAnyH_mono2 (fun _ _ _ hl => hl.trans hs (hev.kp C.k0)) (fun _ h => h) _ _ _ _ (k d σ' hR H' β' (a.put o.dst v) w' hr2 ((he.mono hev).put hv hn) hd' S hS')
theorem VH_oneSkip {l : List Oper} {i : Nat} {fuel : Nat} {listed : Array Bool} (hi : l[i]? = some o) (hr : Region.ready .any l.toArray listed = [i])
    (hw : wants l env o = some false) (hn : dstOk C.n o.dst = true)
    (k : VH C l.toArray ts fuel (listed.setIfInBounds i true) (putD env o.dst (.tup [])) σ Q) : VH C l.toArray ts (fuel + 1) listed env σ Q := by
  intro H β a w hr' he hdef S hS
  refine wpAnyH_all hr (by simp) fun j hj => ?_
  simp only [List.mem_singleton] at hj
  subst hj
  unfold wpOp
  have hi' : l.toArray[j]? = some o := by simpa using hi
  simp only [hi', wants_rel he hw]
  have hd' : (a.put o.dst undef).defers = [] := by cases o.dst <;> exact hdef
  exact ⟨hS.here, k H β (a.put o.dst undef) w hr' (he.put .undef hn) hd' S hS⟩

/-! ### a schedule: the numbers in an order, and whether each is taken first -/
def okSched (ops : Array Oper) : List (Nat × Bool) → Array Bool → Bool
  | [], listed => (Region.ready .any ops listed).isEmpty
  | (i, true) :: r, listed => Region.free .any ops listed i && (Region.ready .any ops listed).contains i && okSched ops r (listed.setIfInBounds i true)
  | (i, false) :: r, listed => (Region.ready .any ops listed == [i]) && okSched ops r (listed.setIfInBounds i true)

/-- The rest of a drawing region, by a schedule. -/
def VO (C : Cx) (l : List Oper) (ts : List Nat) (r : List (Nat × Bool)) (env : Env) (σ : List Blk) (Q : Post) : Prop :=
  ∀ listed, Region.noSelect l.toArray = true → okSched l.toArray r listed = true → VH C l.toArray ts r.length listed env σ Q

theorem VO_nil {l : List Oper} (h : Q .nrm env σ) : VO C l ts [] env σ Q := fun listed _ hs => VH_done (by simpa [okSched] using hs) h _

theorem VO_take {l : List Oper} {i : Nat} {rest : List (Nat × Bool)} {r : DR} (hi : l[i]? = some o) (hw : wants l env o = some true) (hn : dstOk C.n o.dst = true) (ho : OpOk C o env σ r) (hv : isVal o.op = true) (hd : ∀ j ∈ rsOf env o.op, j ∉ ts)
    (k : VO C l ts rest (putD env o.dst r.d) r.s Q) (b : Bool) : VO C l ts ((i, b) :: rest) env σ Q := by
  intro listed hns hs
  cases b with
  | true =>
    simp only [okSched, Bool.and_eq_true] at hs
    exact VH_take hi hns hs.1.1 hs.1.2 hw hn ho hv hd (k _ hns hs.2)
  | false =>
    simp only [okSched, Bool.and_eq_true, beq_iff_eq] at hs
    exact VH_one hi hs.1 hw hn (OpF_val ho hv) fun d s ⟨h1, h2⟩ => by subst h1; subst h2; exact k _ hns hs.2
theorem VO_skip {l : List Oper} {i : Nat} {rest : List (Nat × Bool)} (hi : l[i]? = some o) (hw : wants l env o = some false) (hn : dstOk C.n o.dst = true)
    (k : VO C l ts rest (putD env o.dst (.tup [])) σ Q) (b : Bool) : VO C l ts ((i, b) :: rest) env σ Q := by
  intro listed hns hs
  cases b with
  | true =>
    simp only [okSched, Bool.and_eq_true] at hs
    exact VH_skip hi hns hs.1.1 hs.1.2 hw hn (k _ hns hs.2)
  | false =>
    simp only [okSched, Bool.and_eq_true, beq_iff_eq] at hs
    exact VH_oneSkip hi hs.1 hw hn (k _ hns hs.2)
theorem VO_one {l : List Oper} {i : Nat} {rest : List (Nat × Bool)} {R : D → List Blk → Prop} (hi : l[i]? = some o) (hw : wants l env o = some true) (hn : dstOk C.n o.dst = true) (ho : OpF C o env σ ts R)
    (k : ∀ d s, R d s → VO C l ts rest (putD env o.dst d) s Q) : VO C l ts ((i, false) :: rest) env σ Q := by
  intro listed hns hs
  simp only [okSched, Bool.and_eq_true, beq_iff_eq] at hs
  exact VH_one hi hs.1 hw hn ho fun d s h => k d s h _ hns hs.2

theorem V_draw {id : Nat} {l : List Oper} (ts : List Nat) (r : List (Nat × Bool)) (hm : C.P.follows .mixedOrders = true) (hns : Region.noSelect l.toArray = true)
    (hl : Nat.beq r.length l.length = true) (hs : okSched l.toArray r (Array.replicate l.toArray.size false) = true) (h : VO C l ts r env σ Q) : V C (.region id l.toArray true) env σ Q := by
  intro H β a w hr he hd
  have hw : w.drew = { w with drawn := w.drawn + 1 } := rfl
  refine wp_region_held (S := fun _ => True) hm ?_
  rw [← hw]
  have hl' := Nat.eq_of_beq_eq_true hl
  have hk := h _ hns hs H β a w.drew hr.drew he hd (fun _ => True) (fun _ _ => trivial)
  rw [hl'] at hk
  exact wpAnyH_mono2 (fun _ _ _ hl => hl.trans (Stp.drew H w) (.refl _ _ _)) (fun _ h => h) _ _ _ _ hk
end
end Go.Den
