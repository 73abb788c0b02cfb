/- The calculus and the walks, part 3: DenDraw, DenCall3, DenRun, DenDop2, DenDop3. -/
import Derived.Test.YtgdfegmdjdnbdaaP2
import Derived.OrdersHeld
import Derived.Laws.Cover3
/- Regions that draw the order of their operations: what only reckons or reads may be taken first; a call waits until it stands alone. -/
namespace Go.Den
open Go
set_option linter.unusedSectionVars false
set_option linter.unusedSimpArgs false
set_option linter.unusedVariables false

section
variable {P : Program} {ops : Array Oper} {Q : Exit → Act → World → Prop} {md : Region.Mode}
/-- Whatever order is picked: behind each operation that turns the world, what S asks of that operation holds. -/
def wpAnyD (P : Program) (md : Region.Mode) (ops : Array Oper) (Q : Exit → Act → World → Prop) (S : Nat → World → Prop) : Nat → Array Bool → Act → World → Prop
  | 0, listed, a, w => Region.ready md ops listed = [] ∧ Q .normal a w
  | fuel + 1, listed, a, w =>
    (Region.ready md ops listed = [] → Q .normal a w) ∧
    ∀ i ∈ Region.ready md ops listed, wpOp P ops Q i (fun a' w' => (w' = w ∨ S i w') ∧ wpAnyD P md ops Q S fuel (listed.setIfInBounds i true) a' w') a w
theorem wpAny_of_D {S : Nat → World → Prop} : ∀ (fuel : Nat) (listed : Array Bool) (a : Act) (w : World), wpAnyD P md ops Q S fuel listed a w → wpAny P md ops Q fuel listed a w
  | 0, _, _, _, h => h
  | fuel + 1, _, _, _, h => ⟨h.1, fun i hi => wpOp_mono (fun a' w' h' => wpAny_of_D fuel _ a' w' h'.2) (h.2 i hi)⟩
/-- An operation that yields its value wherever T holds may be taken first, where what S asks of all that don't wait for it says T. -/
theorem wpAnyD_first {S : Nat → World → Prop} {T : World → Prop} {i : Nat} {oi : Oper} {v : Value} (hi : ops[i]? = some oi) (hsel : ∀ (j : Nat) (o : Oper) cs b, ops[j]? = some o → o.op ≠ .select cs b)
    (hQ : ∀ c a w, Q (.panic c) (a.put oi.dst v) w → Q (.panic c) a w) :
    ∀ (fuel : Nat) (listed : Array Bool) (a : Act) (w : World),
      (∀ j oj, ops[j]? = some oj → j ≠ i → listed.getD j true = false → (∀ e ∈ oj.after, Region.binds md e = true → e.on ≠ i) → oi.apart ops oj = true ∧ ∀ w, S j w → T w) →
      i ∈ Region.ready md ops listed → YieldsIf P ops T oi v a → T w →
      wpAnyD P md ops Q S fuel (listed.setIfInBounds i true) (a.put oi.dst v) w → wpAnyD P md ops Q S (fuel + 1) listed a w := by
  intro fuel
  induction fuel with
  | zero =>
    intro listed a w _ hr hy hS H
    refine ⟨fun h => (by rw [h] at hr; cases hr), fun j hj => ?_⟩
    by_cases hji : j = i
    · subst hji; exact hy.wpOp hi hS ⟨.inl rfl, H⟩
    · have := ready_mono hj hji
      rw [H.1] at this
      cases this
  | succ fuel ih =>
    intro listed a w hfree hr hy hS H
    refine ⟨fun h => (by rw [h] at hr; cases hr), fun j hj => ?_⟩
    by_cases hji : j = i
    · subst hji; exact hy.wpOp hi hS ⟨.inl rfl, H⟩
    · have h1 := H.2 j (ready_mono hj hji)
      obtain ⟨hjun, oj, hoj, hall⟩ := mem_ready.1 hj
      have hnot : ∀ e ∈ oj.after, Region.binds md e = true → e.on ≠ i := fun e he hb heq => by
        have h1 := hall e he hb
        have h0 := (mem_ready.1 hr).1
        rw [heq] at h1
        rcases Nat.lt_or_ge i listed.size with h' | h'
        · simp [h'] at h0 h1; rw [h0] at h1; cases h1
        · simp [Array.getElem?_eq_none h'] at h1
      obtain ⟨hap, hST⟩ := hfree j oj hoj hji hjun hnot
      have h2 := wpOp_putIf hoj hap (fun cs b => hsel i oi cs b hi) (fun cs b => hsel j oj cs b hoj) hQ hy h1
      have hfree' : ∀ k ok, ops[k]? = some ok → k ≠ i → (listed.setIfInBounds j true).getD k true = false →
          (∀ e ∈ ok.after, Region.binds md e = true → e.on ≠ i) → oi.apart ops ok = true ∧ ∀ w, S k w → T w := fun k ok hk hki hun hno => by
        refine hfree k ok hk hki ?_ hno
        by_cases hjk : j = k
        · subst hjk; exact hjun
        · rw [getD_set_ne true hjk] at hun; exact hun
      refine wpOp_mono (fun a' w' h3 => ⟨h3.2.1, ih (listed.setIfInBounds j true) a' w' hfree' (ready_mono hr (Ne.symm hji)) h3.1 ?_ ?_⟩) h2
      · rcases h3.2.1 with h | h
        · rw [h]; exact hS
        · exact hST _ h
      · rw [Array.setIfInBounds_comm _ _ hji]
        exact h3.2.2
theorem wpAnyD_all {S : Nat → World → Prop} {rs : List Nat} {fuel : Nat} {listed : Array Bool} {a : Act} {w : World} (hr : Region.ready md ops listed = rs) (hne : rs ≠ [])
    (h : ∀ i ∈ rs, wpOp P ops Q i (fun a' w' => (w' = w ∨ S i w') ∧ wpAnyD P md ops Q S fuel (listed.setIfInBounds i true) a' w') a w) : wpAnyD P md ops Q S (fuel + 1) listed a w :=
  ⟨fun h0 => absurd (hr ▸ h0) hne, hr ▸ h⟩
theorem wpAnyD_done {S : Nat → World → Prop} {listed : Array Bool} {a : Act} {w : World} (hr : Region.ready md ops listed = []) (h : Q .normal a w) :
    ∀ fuel, wpAnyD P md ops Q S fuel listed a w
  | 0 => ⟨hr, h⟩
  | _ + 1 => ⟨fun _ => h, by rw [hr]; simp⟩
end
/-- Whether number j waits for number i. -/
def waits (ops : Array Oper) (j i : Nat) : Bool := match ops[j]? with
  | some oj => oj.after.any fun e => Region.binds .any e && e.on == i
  | none => true
/-- What has been taken first: its number, and what its value hangs on. -/
abbrev Tk := List (Nat × (World → Prop))
def sOf (ops : Array Oper) (tk : Tk) : Nat → World → Prop := fun j w => ∀ p ∈ tk, waits ops j p.1 = false → p.2 w

/-- What stands, of a world, but for the blocks in ts. -/
def Keeps (ts : List Nat) (H : Gh) (w w' : World) : Prop := ∀ b o u, w.cell? ⟨b, o, none⟩ = some u → ((∃ x, H b o = .pers x) ∨ ∃ i, i ∉ ts ∧ H b o = .mine i) → w'.cell? ⟨b, o, none⟩ = some u
def Frm (ts : List Nat) (H : Gh) (w : World) (H' : Gh) (w' : World) : Prop :=
  ∀ b o u, w.cell? ⟨b, o, none⟩ = some u → ((∃ x, H b o = .pers x) ∨ ∃ i, i ∉ ts ∧ H b o = .mine i) → w'.cell? ⟨b, o, none⟩ = some u ∧ ((∃ x, H' b o = .pers x) ∨ ∃ i, i ∉ ts ∧ H' b o = .mine i)
def StabS (ts : List Nat) (H : Gh) (w : World) (S : World → Prop) : Prop := ∀ w', Keeps ts H w w' → S w'
theorem StabS.frm {ts H w H' w' S} (h : StabS ts H w S) (hf : Frm ts H w H' w') : StabS ts H' w' S := fun w'' hk => h w'' fun b o u hu hs => by
  obtain ⟨h1, h2⟩ := hf b o u hu hs
  exact hk b o u h1 h2
theorem StabS.here {ts H w S} (h : StabS ts H w S) : S w := h w fun _ _ _ hu _ => hu

/-- What an operation does, and what it leaves alone. -/
def OpF (C : Cx) (o : Oper) (env : Env) (σ : List Blk) (ts : List Nat) (R : D → List Blk → Prop) : Prop :=
  ∀ H β a w, Rel C.tb H β σ w → EnvRel C.tb H β σ C.n a env → a.defers = [] → ∀ (K : Act → World → Prop) (Qx : Exit → Act → World → Prop),
    (∀ v d w' H' β' σ', R d σ' → Rel C.tb H' β' σ' w' → DRel C.tb H' β' σ' v d → Stp H w H' w' → Ev H β σ H' β' σ' → Frm ts H w H' w' → K (a.put o.dst v) w') → o.wp C.P a w K Qx
theorem OpF.v {C o env σ ts R} (h : OpF C o env σ ts R) : OpV C o env σ R := fun H β a w hr he hd K Qx hK => h H β a w hr he hd K Qx fun v d w' H' β' σ' h1 h2 h3 h4 h5 _ => hK v d w' H' β' σ' h1 h2 h3 h4 h5

section
variable {C : Cx} {env : Env} {σ : List Blk} {Q : Post} {ops : Array Oper} {o : Oper} {ts : List Nat}

theorem Frm.same (ts : List Nat) (H : Gh) (w : World) : Frm ts H w H w := fun _ _ _ h k => ⟨h, k⟩

theorem OpF_val {r : DR} (h : OpOk C o env σ r) (hv : isVal o.op = true) : OpF C o env σ ts (fun d s => d = r.d ∧ s = r.s) := by
  intro H β a w hr he hd K Qx hK
  obtain ⟨hval, hs⟩ := h.val hv
  obtain ⟨v, hrun, hd⟩ := hval H β a w hr he
  simp only [Oper.wp, hrun w (.refl _ _ _), Oper.upon]
  exact hK v _ w H β σ ⟨rfl, hs.symm⟩ hr hd (.refl _ _) (.refl _ _ _) (.same _ _ _)

theorem wpOp_mono2 {P : Program} {Q Q' : Exit → Act → World → Prop} {K K' : Act → World → Prop} (hq : ∀ e a w, Q e a w → Q' e a w) (hk : ∀ a w, K a w → K' a w) {i : Nat} {a : Act} {w : World} (h : wpOp P ops Q i K a w) : wpOp P ops Q' i K' a w := by
  unfold wpOp at *
  split
  · rename_i h0; rw [h0] at h; exact hk _ _ h
  · rename_i o ho
    rw [ho] at h
    simp only at h
    split
    · rename_i hw
      rw [if_pos hw] at h
      rcases h with h | ⟨h1, ⟨a2, w2, h2⟩⟩
      · refine .inl ?_
        unfold Oper.wp at *
        generalize (execOp a.eval o).run P w = r at *
        cases r with
        | ok n w' =>
          cases n <;> simp only [Oper.upon] at h ⊢ <;>
            first
              | exact hk _ _ h
              | exact Calls.mono h (fun e w'' he => by
                  cases e <;> first
                    | exact hk _ _ he
                    | exact hq _ _ _ he
                    | (obtain ⟨a3, w3, h3⟩ := he; exact ⟨a3, w3, hq _ _ _ h3⟩))
              | exact Rows.mono h (fun _ _ he => hk _ _ he)
        | halt x w' => cases x <;> simp only [Oper.upon] at h ⊢ <;> first | exact hq _ _ _ h | exact h
      · exact .inr ⟨h1, a2, w2, hq _ _ _ h2⟩
    · rename_i hw; rw [if_neg hw] at h; exact hk _ _ h
theorem wpAnyD_mono2 {P : Program} {md : Region.Mode} {Q Q' : Exit → Act → World → Prop} {S S' : Nat → World → Prop} (hq : ∀ e a w, Q e a w → Q' e a w) (hs : ∀ i w, S i w → S' i w) : ∀ (fuel : Nat) (listed : Array Bool) (a : Act) (w : World),
    wpAnyD P md ops Q S fuel listed a w → wpAnyD P md ops Q' S' fuel listed a w
  | 0, _, _, _, h => ⟨h.1, hq _ _ _ h.2⟩
  | fuel + 1, _, _, _, h => ⟨fun h0 => hq _ _ _ (h.1 h0), fun i hi => wpOp_mono2 hq (fun a' w' h' => ⟨h'.1.imp id (hs i _), wpAnyD_mono2 hq hs fuel _ a' w' h'.2⟩) (h.2 i hi)⟩

def TkOk (ops : Array Oper) (ts : List Nat) (listed : Array Bool) (H : Gh) (w : World) (tk : Tk) : Prop :=
  ∀ p ∈ tk, p.1 < ops.size ∧ listed.getD p.1 true = true ∧ ∀ j, listed.getD j true = false → waits ops j p.1 = false → StabS ts H w p.2
theorem getD_set_self (listed : Array Bool) (i : Nat) : (listed.setIfInBounds i true).getD i true = true := by
  rcases Nat.lt_or_ge i listed.size with h | h
  · simp [h]
  · simp [Array.getElem?_eq_none h]
theorem unl_set {listed : Array Bool} {i j : Nat} (h : (listed.setIfInBounds i true).getD j true = false) : j ≠ i ∧ listed.getD j true = false := by
  by_cases hij : i = j
  · subst hij; rw [getD_set_self] at h; cases h
  · rw [getD_set_ne true hij] at h; exact ⟨fun e => hij e.symm, h⟩
theorem TkOk.set {ops : Array Oper} {ts : List Nat} {listed : Array Bool} {H : Gh} {w : World} {tk : Tk} (h : TkOk ops ts listed H w tk) (i : Nat) : TkOk ops ts (listed.setIfInBounds i true) H w tk := fun p hp => by
  obtain ⟨h0, h1, h2⟩ := h p hp
  refine ⟨h0, ?_, fun j hj => h2 j (unl_set hj).2⟩
  by_cases hij : i = p.1
  · rw [hij, getD_set_self]
  · rw [getD_set_ne true hij]; exact h1
def VH (C : Cx) (ops : Array Oper) (ts : List Nat) (fuel : Nat) (listed : Array Bool) (env : Env) (σ : List Blk) (Q : Post) : Prop :=
  ∀ H β a w, Rel C.tb H β σ w → EnvRel C.tb H β σ C.n a env → a.defers = [] → ∀ tk : Tk, TkOk ops ts listed H w tk → wpAnyD C.P .any ops (lift C H β σ w Q) (sOf ops tk) fuel listed a w

theorem lift_panic {H β w c a w'} (h : lift C H β σ w Q (.panic c) a w') : False := by obtain ⟨x, hx, _⟩ := h; cases hx

theorem VH_done {listed : Array Bool} (hr : Region.ready .any ops listed = []) (h : Q .nrm env σ) (fuel : Nat) : VH C ops ts fuel listed env σ Q :=
  fun _ _ _ _ hr' he hd _ _ => wpAnyD_done hr (lift.here hr' he hd rfl h) fuel

/-- Whether an operation is wanted, as far as the temporaries tell. -/
def wants (ops : List Oper) (env : Env) (o : Oper) : Option Bool := match o.guard with
  | none => some true
  | some (j, want) => match ops[j]? with
    | some oj => match oj.dst with
      | some t => match getD env t with
        | .kb _ true => some want
        | .kb _ false => match want with
          | true => some false
          | false => some true
        | .tup [] => some false
        | _ => none
      | none => none
    | none => none

theorem DRel.undef {tb : Tab} {H β} {σ : List Blk} : DRel tb H β σ undef (.tup []) := .tup rfl fun i v d hv hd => by simp at hd
theorem yielded_undef {tb : Tab} {H β n a} (he : EnvRel tb H β σ n a env) {ops : Array Oper} {j t : Nat} {oj : Oper} (hj : ops[j]? = some oj) (ht : oj.dst = some t) (hb : getD env t = .tup []) : yielded ops a.tmps j = none := by
  have hv := he.get t
  rw [hb] at hv
  generalize hve : a.tmps.getD t Go.undef = v at hv
  cases hv with
  | tup h1 h2 =>
    rename_i vs
    have hvs : vs = #[] := Array.eq_empty_of_size_eq_zero h1
    subst hvs
    unfold yielded
    rw [hj]
    simp only [Option.bind_some, ht]
    rw [Array.getD_eq_getD_getElem?] at hve
    cases hx : a.tmps[t]? with
    | none => rfl
    | some x => rw [hx] at hve; simp at hve; subst hve; rfl

theorem wants_rel {l : List Oper} {H β n a b} {tb : Tab} (he : EnvRel tb H β σ n a env) (h : wants l env o = some b) : Region.wanted o (yielded l.toArray a.tmps) = b := by
  unfold wants at h
  split at h
  · rename_i hg; cases h; simp [Region.wanted, hg]
  · rename_i j want hg
    split at h
    · rename_i oj hj
      split at h
      · rename_i t ht
        split at h
        · rename_i ty hb
          have hbb := Option.some.inj h
          rw [← hbb]
          have := yielded_of he (ops := l.toArray) (b := true) (by simpa using hj) ht (by rw [hb]; rfl)
          cases want <;> simp [Region.wanted, hg, this]
        · rename_i ty hb
          have := yielded_of he (ops := l.toArray) (b := false) (by simpa using hj) ht (by rw [hb]; rfl)
          split at h <;> cases h <;> simp [Region.wanted, hg, this]
        · rename_i hb
          have hbb := Option.some.inj h
          rw [← hbb]
          have := yielded_undef he (ops := l.toArray) (by simpa using hj) ht hb
          simp [Region.wanted, hg, this]
        · cases h
      · cases h
    · cases h

theorem VH_take {l : List Oper} {i : Nat} {fuel : Nat} {listed : Array Bool} {r : DR} (hi : l[i]? = some o) (hs : Region.noSelect l.toArray = true) (hf : Region.free .any l.toArray listed i = true) (hr : (Region.ready .any l.toArray listed).contains i = true)
    (hw : wants l env o = some true) (hn : dstOk C.n o.dst = true) (ho : OpOk C o env σ r) (hv : isVal o.op = true) (hd : ∀ j ∈ rsOf env o.op, j ∉ ts)
    (k : VH C l.toArray ts fuel (listed.setIfInBounds i true) (putD env o.dst r.d) r.s Q) : VH C l.toArray ts (fuel + 1) listed env σ Q := by
  intro H β a w hr' he hdef tk hS
  obtain ⟨hval, hss⟩ := ho.val hv
  rw [hss] at k
  obtain ⟨v, hrun, hrel⟩ := hval H β a w hr' he
  let T : World → Prop := fun w' => (execOp a.eval o).run C.P w' = .ok (.value v) w'
  have hT : StabS ts H w T := fun w' hk => hrun w' fun b o' u hu h => hk b o' u hu (h.imp id fun ⟨i, hi, hm⟩ => ⟨i, hd i hi, hm⟩)
  have hd' : (a.put o.dst v).defers = [] := by cases o.dst <;> exact hdef
  have hia : l.toArray[i]? = some o := by simpa using hi
  have hk := k H β (a.put o.dst v) w hr' (he.put hrel hn) hd' ((i, T) :: tk) (fun p hp => by
    rcases List.mem_cons.1 hp with rfl | hp
    · exact ⟨(Array.getElem?_eq_some_iff.1 hia).1, getD_set_self _ _, fun _ _ _ => hT⟩
    · exact hS.set i p hp)
  refine wpAnyD_mono2 (fun _ _ _ h => h) (fun j w h p hp => h p (List.mem_cons_of_mem _ hp)) _ _ _ _ (wpAnyD_first (S := sOf l.toArray ((i, T) :: tk)) (T := T) (v := v) (i := i) (oi := o) hia (Region.noSelect_spec hs) (fun c a w h => (lift_panic h).elim) fuel listed a w
    (fun j oj hj hne hun hno => ⟨Region.free_spec hia hf j oj hj hne hun hno, fun w' h => h (i, T) (by simp) ?_⟩) (by simpa using hr) (.inl ⟨wants_rel he hw, fun w' h => h⟩) hT.here hk)
  simp only [waits, hj]
  refine Bool.eq_false_iff.2 fun h => ?_
  obtain ⟨e, he1, hb⟩ := Array.any_eq_true'.1 h
  simp only [Bool.and_eq_true, beq_iff_eq] at hb
  exact hno e he1 hb.1 hb.2

theorem VH_skip {l : List Oper} {i : Nat} {fuel : Nat} {listed : Array Bool} (hi : l[i]? = some o) (hs : Region.noSelect l.toArray = true) (hf : Region.free .any l.toArray listed i = true) (hr : (Region.ready .any l.toArray listed).contains i = true)
    (hw : wants l env o = some false) (hn : dstOk C.n o.dst = true)
    (k : VH C l.toArray ts fuel (listed.setIfInBounds i true) (putD env o.dst (.tup [])) σ Q) : VH C l.toArray ts (fuel + 1) listed env σ Q := by
  intro H β a w hr' he hdef tk hS
  have hd' : (a.put o.dst undef).defers = [] := by cases o.dst <;> exact hdef
  have hia : l.toArray[i]? = some o := by simpa using hi
  have hk := k H β (a.put o.dst undef) w hr' (he.put .undef hn) hd' tk (hS.set i)
  exact wpAnyD_first (S := sOf l.toArray tk) (T := fun _ => True) (v := undef) (i := i) (oi := o) hia (Region.noSelect_spec hs) (fun c a w h => (lift_panic h).elim) fuel listed a w
    (fun j oj hj hne hun hno => ⟨Region.free_spec hia hf j oj hj hne hun hno, fun _ _ => trivial⟩) (by simpa using hr) (.inr ⟨wants_rel he hw, rfl⟩) trivial hk

theorem VH_one {l : List Oper} {i : Nat} {fuel : Nat} {listed : Array Bool} {R : D → List Blk → Prop} (hi : l[i]? = some o) (hri : i ∈ Region.ready .any l.toArray listed) (hr : ∀ j ∈ Region.ready .any l.toArray listed, j = i)
    (hw : wants l env o = some true) (hn : dstOk C.n o.dst = true) (ho : OpF C o env σ ts R)
    (k : ∀ d s, R d s → VH C l.toArray ts fuel (listed.setIfInBounds i true) (putD env o.dst d) s Q) : VH C l.toArray ts (fuel + 1) listed env σ Q := by
  intro H β a w hr' he hdef tk hS
  refine wpAnyD_all rfl (fun h => by rw [h] at hri; cases hri) fun j hj => ?_
  have hjun := (mem_ready.1 hj).1
  have := hr j hj
  subst this
  unfold wpOp
  have hi' : l.toArray[j]? = some o := by simpa using hi
  simp only [hi', wants_rel he hw, if_true]
  refine .inl (ho H β a w hr' he hdef _ _ ?_)
  intro v d w' H' β' σ' hR hr2 hv hs hev hfr
  have hd' : (a.put o.dst v).defers = [] := by cases o.dst <;> exact hdef
  refine ⟨.inr fun p hp hw => (((hS p hp).2.2 j hjun hw).frm hfr).here, ?_⟩
  exact wpAnyD_mono2 (fun _ _ _ hl => hl.trans hs (hev.kp C.k0)) (fun _ _ h => h) _ _ _ _ (k d σ' hR H' β' (a.put o.dst v) w' hr2 ((he.mono hev).put hv hn) hd' tk
    (fun p hp => ⟨(hS.set j p hp).1, (hS.set j p hp).2.1, fun q hq hw => ((hS.set j p hp).2.2 q hq hw).frm hfr⟩))
theorem VH_oneSkip {l : List Oper} {i : Nat} {fuel : Nat} {listed : Array Bool} (hi : l[i]? = some o) (hri : i ∈ Region.ready .any l.toArray listed) (hr : ∀ j ∈ Region.ready .any l.toArray listed, j = i)
    (hw : wants l env o = some false) (hn : dstOk C.n o.dst = true)
    (k : VH C l.toArray ts fuel (listed.setIfInBounds i true) (putD env o.dst (.tup [])) σ Q) : VH C l.toArray ts (fuel + 1) listed env σ Q := by
  intro H β a w hr' he hdef tk hS
  refine wpAnyD_all rfl (fun h => by rw [h] at hri; cases hri) fun j hj => ?_
  have := hr j hj
  subst this
  unfold wpOp
  have hi' : l.toArray[j]? = some o := by simpa using hi
  simp only [hi', wants_rel he hw]
  have hd' : (a.put o.dst undef).defers = [] := by cases o.dst <;> exact hdef
  exact ⟨.inl trivial, k H β (a.put o.dst undef) w hr' (he.put .undef hn) hd' tk (hS.set j)⟩

/-- Two that may come up, and no other: whichever comes first, the same is told behind both. -/
theorem VH_pair {l : List Oper} {i j : Nat} {oi oj : Oper} {di dj : D} {fuel : Nat} {listed : Array Bool} (hi : l[i]? = some oi) (hj : l[j]? = some oj) (hri : i ∈ Region.ready .any l.toArray listed) (hr : ∀ k ∈ Region.ready .any l.toArray listed, k = i ∨ k = j)
    (hrj : ∀ k ∈ Region.ready .any l.toArray (listed.setIfInBounds i true), k = j) (hjr : j ∈ Region.ready .any l.toArray (listed.setIfInBounds i true))
    (hrji : ∀ k ∈ Region.ready .any l.toArray (listed.setIfInBounds j true), k = i) (hir : i ∈ Region.ready .any l.toArray (listed.setIfInBounds j true)) (hij : i ≠ j)
    (hwi : wants l env oi = some true) (hwj : wants l env oj = some true) (hwi' : wants l (putD env oj.dst dj) oi = some true) (hwj' : wants l (putD env oi.dst di) oj = some true) (hni : dstOk C.n oi.dst = true) (hnj : dstOk C.n oj.dst = true)
    (fi : OpF C oi env σ ts (fun d s => d = di ∧ s = σ)) (fj : OpF C oj env σ ts (fun d s => d = dj ∧ s = σ)) (fi' : OpF C oi (putD env oj.dst dj) σ ts (fun d s => d = di ∧ s = σ)) (fj' : OpF C oj (putD env oi.dst di) σ ts (fun d s => d = dj ∧ s = σ))
    (hsw : ∀ t, getD (putD (putD env oi.dst di) oj.dst dj) t = getD (putD (putD env oj.dst dj) oi.dst di) t)
    (k : VH C l.toArray ts fuel ((listed.setIfInBounds i true).setIfInBounds j true) (putD (putD env oi.dst di) oj.dst dj) σ Q) : VH C l.toArray ts (fuel + 2) listed env σ Q := by
  have k2 : VH C l.toArray ts fuel ((listed.setIfInBounds j true).setIfInBounds i true) (putD (putD env oj.dst dj) oi.dst di) σ Q := fun H β a w hr he => by
    rw [Array.setIfInBounds_comm _ _ hij.symm]
    exact k H β a w hr ⟨he.1, fun t => by rw [hsw t]; exact he.2 t⟩
  have g1 : VH C l.toArray ts (fuel + 1) (listed.setIfInBounds i true) (putD env oi.dst di) σ Q := VH_one hj hjr hrj hwj' hnj fj' fun d s ⟨h1, h2⟩ => by subst h1; subst h2; exact k
  have g2 : VH C l.toArray ts (fuel + 1) (listed.setIfInBounds j true) (putD env oj.dst dj) σ Q := VH_one hi hir hrji hwi' hni fi' fun d s ⟨h1, h2⟩ => by subst h1; subst h2; exact k2
  have key : ∀ (m : Nat) (om : Oper) (dm : D), l[m]? = some om → wants l env om = some true → dstOk C.n om.dst = true → OpF C om env σ ts (fun d s => d = dm ∧ s = σ) → VH C l.toArray ts (fuel + 1) (listed.setIfInBounds m true) (putD env om.dst dm) σ Q →
      m ∈ Region.ready .any l.toArray listed → ∀ H β a w, Rel C.tb H β σ w → EnvRel C.tb H β σ C.n a env → a.defers = [] → ∀ tk : Tk, TkOk l.toArray ts listed H w tk →
      wpOp C.P l.toArray (lift C H β σ w Q) m (fun a' w' => (w' = w ∨ sOf l.toArray tk m w') ∧ wpAnyD C.P .any l.toArray (lift C H β σ w Q) (sOf l.toArray tk) (fuel + 1) (listed.setIfInBounds m true) a' w') a w := by
    intro m om dm hm hwm hnm fm gm hmr H β a w hr' he hdef tk hS
    have hjun := (mem_ready.1 hmr).1
    unfold wpOp
    have hi' : l.toArray[m]? = some om := by simpa using hm
    simp only [hi', wants_rel he hwm, if_true]
    refine .inl (fm H β a w hr' he hdef _ _ ?_)
    intro v d w' H' β' σ' hR hr2 hv hs hev hfr
    obtain ⟨e1, e2⟩ := hR
    subst e1; subst e2
    have hd' : (a.put om.dst v).defers = [] := by cases om.dst <;> exact hdef
    refine ⟨.inr fun p hp hw => (((hS p hp).2.2 m hjun hw).frm hfr).here, ?_⟩
    exact wpAnyD_mono2 (fun _ _ _ hl => hl.trans hs (hev.kp C.k0)) (fun _ _ h => h) _ _ _ _ (gm H' β' (a.put om.dst v) w' hr2 ((he.mono hev).put hv hnm) hd' tk
      (fun p hp => ⟨(hS.set m p hp).1, (hS.set m p hp).2.1, fun q hq hw => ((hS.set m p hp).2.2 q hq hw).frm hfr⟩))
  intro H β a w hr' he hdef tk hS
  refine wpAnyD_all rfl (fun h => by rw [h] at hri; cases hri) fun m hm => ?_
  rcases hr m hm with e | e
  · subst e; exact key m oi di hi hwi hni fi g1 hm H β a w hr' he hdef tk hS
  · subst e; exact key m oj dj hj hwj hnj fj g2 hm H β a w hr' he hdef tk hS

/-! ### a schedule: the numbers in an order, and whether each is taken first -/
def okSched (ops : Array Oper) : List (Nat × Bool) → Array Bool → Bool
  | [], listed => (Region.ready .any ops listed).isEmpty
  | (i, true) :: r, listed => Region.free .any ops listed i && (Region.ready .any ops listed).contains i && okSched ops r (listed.setIfInBounds i true)
  | (i, false) :: r, listed => (Region.ready .any ops listed).contains i && okSched ops r (listed.setIfInBounds i true)

def memB (i : Nat) : List (Nat × Bool) → Bool
  | [] => false
  | p :: r => Nat.beq p.1 i || memB i r
theorem beq_self' (n : Nat) : Nat.beq n n = true := by simp
theorem memB_iff {i : Nat} : ∀ {r : List (Nat × Bool)}, memB i r = true ↔ ∃ b, (i, b) ∈ r
  | [] => by simp [memB]
  | (j, c) :: r => by
    have ih := memB_iff (i := i) (r := r)
    constructor
    · intro h
      simp only [memB, Bool.or_eq_true] at h
      rcases h with h | h
      · have := Nat.eq_of_beq_eq_true h
        subst this
        exact ⟨c, by simp⟩
      · obtain ⟨b, h⟩ := ih.1 h
        exact ⟨b, by simp [h]⟩
    · rintro ⟨b, h⟩
      simp only [memB, Bool.or_eq_true]
      rcases List.mem_cons.1 h with h | h
      · cases h; exact .inl (beq_self' _)
      · exact .inr (ih.2 ⟨b, h⟩)
def nodB : List (Nat × Bool) → Bool
  | [] => true
  | p :: r => !memB p.1 r && nodB r
/-- The schedule names each number once. -/
def okAll (r : List (Nat × Bool)) (n : Nat) : Bool := Nat.beq r.length n && (nodB r && (r.all (fun p => Nat.blt p.1 n) && (List.range n).all (fun i => memB i r)))
/-- What has not come up is what the rest of the schedule names. -/
def Cov (r : List (Nat × Bool)) (listed : Array Bool) : Prop := nodB r = true ∧ ∀ j, listed.getD j true = false ↔ memB j r = true
theorem Cov.step {i : Nat} {b : Bool} {r : List (Nat × Bool)} {listed : Array Bool} (h : Cov ((i, b) :: r) listed) : Cov r (listed.setIfInBounds i true) := by
  obtain ⟨h1, h2⟩ := h
  simp only [nodB, Bool.and_eq_true, Bool.not_eq_true'] at h1
  refine ⟨h1.2, fun j => ⟨fun hj => ?_, fun hj => ?_⟩⟩
  · obtain ⟨hne, hun⟩ := unl_set hj
    have := (h2 j).1 hun
    simp only [memB, Bool.or_eq_true] at this
    exact this.resolve_left (fun e => hne (Nat.eq_of_beq_eq_true e).symm)
  · have hij : i ≠ j := fun e => by subst e; rw [h1.1] at hj; cases hj
    rw [getD_set_ne true hij]
    exact (h2 j).2 (by simp [memB, hj])
/-- Which may come up, told by the rest of the schedule alone. -/
def rdyB (ops : List Oper) (r : List (Nat × Bool)) (j : Nat) : Bool := memB j r && match ops[j]? with
  | some o => o.after.toList.all fun e => !Region.binds .any e || (Nat.blt e.on ops.length && !memB e.on r)
  | none => false
def aloneB (ops : List Oper) (r : List (Nat × Bool)) : Bool := match r with
  | [] => false
  | (i, _) :: _ => (List.range ops.length).all fun j => !rdyB ops r j || Nat.beq j i
def pairB (ops : List Oper) (r : List (Nat × Bool)) : Bool := match r with
  | (i, _) :: (j, _) :: q => (!Nat.beq i j) && (((List.range ops.length).all fun k => !rdyB ops r k || (Nat.beq k i || Nat.beq k j)) && (rdyB ops r j && (((List.range ops.length).all fun k => !rdyB ops ((j, true) :: q) k || Nat.beq k j) && ((List.range ops.length).all fun k => !rdyB ops ((i, true) :: q) k || Nat.beq k i))))
  | _ => false
theorem rdy_iff {ops : List Oper} {r : List (Nat × Bool)} {listed : Array Bool} (h : Cov r listed) (hsz : listed.size = ops.length) (j : Nat) : j ∈ Region.ready .any ops.toArray listed ↔ rdyB ops r j = true := by
  rw [mem_ready, h.2 j]
  unfold rdyB
  simp only [Bool.and_eq_true, List.getElem?_toArray]
  refine and_congr_right fun _ => ?_
  cases ho : ops[j]? with
  | none => simp
  | some o =>
    simp only [Option.some.injEq, exists_eq_left', List.all_eq_true, Array.mem_toList_iff]
    refine forall_congr' fun e => forall_congr' fun he => ?_
    have hcv := h.2 e.on
    cases hb : Region.binds .any e with
    | false => simp
    | true =>
      simp only [forall_const, Bool.not_true, Bool.false_or, Bool.and_eq_true, Bool.not_eq_true']
      have hlt : Nat.blt e.on ops.length = true ↔ e.on < ops.length := by simp [Nat.blt]; exact Iff.rfl
      rw [hlt]
      rcases Nat.lt_or_ge e.on listed.size with h' | h'
      · have e1 : listed.getD e.on false = listed.getD e.on true := by simp [h']
        rw [e1]
        cases hm : memB e.on r with
        | true => have := hcv.2 hm; rw [this]; simp
        | false =>
          have : listed.getD e.on true = true := by
            cases hx : listed.getD e.on true with
            | true => rfl
            | false => have := hcv.1 hx; rw [hm] at this; cases this
          rw [this]; simp; omega
      · have e1 : listed.getD e.on false = false := by simp [Array.getElem?_eq_none h']
        rw [e1]; simp; omega
theorem alone_of {ops : List Oper} {i : Nat} {b : Bool} {q : List (Nat × Bool)} {listed : Array Bool} (h : Cov ((i, b) :: q) listed) (hsz : listed.size = ops.length) (ha : aloneB ops ((i, b) :: q) = true) : ∀ j ∈ Region.ready .any ops.toArray listed, j = i := fun j hj => by
  have h1 := (rdy_iff h hsz j).1 hj
  have hlt : j < ops.length := by
    unfold rdyB at h1
    rcases Nat.lt_or_ge j ops.length with h' | h'
    · exact h'
    · rw [List.getElem?_eq_none h'] at h1; simp at h1
  have := List.all_eq_true.1 ha j (List.mem_range.2 hlt)
  rw [h1] at this
  simp only [Bool.not_true, Bool.false_or] at this
  exact Nat.eq_of_beq_eq_true this
/-- All that is left waits for all that has come up. -/
def settled (ops : Array Oper) (n : Nat) (r : List (Nat × Bool)) : Bool := r.all fun p => (List.range n).all fun i => memB i r || waits ops p.1 i

/-- The rest of a drawing region, by a schedule. -/
def VO (C : Cx) (l : List Oper) (ts : List Nat) (r : List (Nat × Bool)) (env : Env) (σ : List Blk) (Q : Post) : Prop :=
  ∀ listed, Region.noSelect l.toArray = true → okSched l.toArray r listed = true → Cov r listed → listed.size = l.length → VH C l.toArray ts r.length listed env σ Q

theorem VO_nil {l : List Oper} (h : Q .nrm env σ) : VO C l ts [] env σ Q := fun listed _ hs _ _ => VH_done (by simpa [okSched] using hs) h _

theorem VO_take {l : List Oper} {i : Nat} {rest : List (Nat × Bool)} {r : DR} (hi : l[i]? = some o) (hw : wants l env o = some true) (hn : dstOk C.n o.dst = true) (ho : OpOk C o env σ r) (hv : isVal o.op = true) (hd : ∀ j ∈ rsOf env o.op, j ∉ ts)
    (k : VO C l ts rest (putD env o.dst r.d) r.s Q) (b : Bool) (hal : b = false → aloneB l ((i, b) :: rest) = true) : VO C l ts ((i, b) :: rest) env σ Q := by
  intro listed hns hs hcv hsz
  cases b with
  | true =>
    simp only [okSched, Bool.and_eq_true] at hs
    exact VH_take hi hns hs.1.1 hs.1.2 hw hn ho hv hd (k _ hns hs.2 hcv.step (by simpa using hsz))
  | false =>
    simp only [okSched, Bool.and_eq_true] at hs
    exact VH_one hi (by simpa using hs.1) (alone_of hcv hsz (hal rfl)) hw hn (OpF_val ho hv) fun d s ⟨h1, h2⟩ => by subst h1; subst h2; exact k _ hns hs.2 hcv.step (by simpa using hsz)
theorem VO_skip {l : List Oper} {i : Nat} {rest : List (Nat × Bool)} (hi : l[i]? = some o) (hw : wants l env o = some false) (hn : dstOk C.n o.dst = true)
    (k : VO C l ts rest (putD env o.dst (.tup [])) σ Q) (b : Bool) (hal : b = false → aloneB l ((i, b) :: rest) = true) : VO C l ts ((i, b) :: rest) env σ Q := by
  intro listed hns hs hcv hsz
  cases b with
  | true =>
    simp only [okSched, Bool.and_eq_true] at hs
    exact VH_skip hi hns hs.1.1 hs.1.2 hw hn (k _ hns hs.2 hcv.step (by simpa using hsz))
  | false =>
    simp only [okSched, Bool.and_eq_true] at hs
    exact VH_oneSkip hi (by simpa using hs.1) (alone_of hcv hsz (hal rfl)) hw hn (k _ hns hs.2 hcv.step (by simpa using hsz))
theorem VO_one {l : List Oper} {i : Nat} {rest : List (Nat × Bool)} {R : D → List Blk → Prop} (hi : l[i]? = some o) (hw : wants l env o = some true) (hn : dstOk C.n o.dst = true) (ho : OpF C o env σ ts R)
    (k : ∀ d s, R d s → VO C l ts rest (putD env o.dst d) s Q) (hal : aloneB l ((i, false) :: rest) = true) : VO C l ts ((i, false) :: rest) env σ Q := by
  intro listed hns hs hcv hsz
  simp only [okSched, Bool.and_eq_true] at hs
  exact VH_one hi (by simpa using hs.1) (alone_of hcv hsz hal) hw hn ho fun d s h => k d s h _ hns hs.2 hcv.step (by simpa using hsz)

theorem VO_pair {l : List Oper} {i j : Nat} {oi oj : Oper} {di dj : D} {rest : List (Nat × Bool)} (hi : l[i]? = some oi) (hj : l[j]? = some oj) (hp : pairB l ((i, false) :: (j, false) :: rest) = true)
    (hwi : wants l env oi = some true) (hwj : wants l env oj = some true) (hwi' : wants l (putD env oj.dst dj) oi = some true) (hwj' : wants l (putD env oi.dst di) oj = some true) (hni : dstOk C.n oi.dst = true) (hnj : dstOk C.n oj.dst = true)
    (fi : OpF C oi env σ ts (fun d s => d = di ∧ s = σ)) (fj : OpF C oj env σ ts (fun d s => d = dj ∧ s = σ)) (fi' : OpF C oi (putD env oj.dst dj) σ ts (fun d s => d = di ∧ s = σ)) (fj' : OpF C oj (putD env oi.dst di) σ ts (fun d s => d = dj ∧ s = σ))
    (hsw : ∀ t, getD (putD (putD env oi.dst di) oj.dst dj) t = getD (putD (putD env oj.dst dj) oi.dst di) t)
    (k : VO C l ts rest (putD (putD env oi.dst di) oj.dst dj) σ Q) : VO C l ts ((i, false) :: (j, false) :: rest) env σ Q := by
  intro listed hns hs hcv hsz
  simp only [okSched, Bool.and_eq_true] at hs
  simp only [pairB, Bool.and_eq_true, Bool.not_eq_true'] at hp
  have hij : i ≠ j := fun e => by have := hp.1; rw [e, beq_self'] at this; cases this
  have lt : ∀ {r : List (Nat × Bool)} {k : Nat}, rdyB l r k = true → k < l.length := fun {r k} h => by
    rcases Nat.lt_or_ge k l.length with h' | h'
    · exact h'
    · unfold rdyB at h; rw [List.getElem?_eq_none h'] at h; simp at h
  have hcv1 := hcv.step
  have hcov2 : Cov ((i, true) :: rest) (listed.setIfInBounds j true) := by
    obtain ⟨h1, h2⟩ := hcv
    simp only [nodB, Bool.and_eq_true, Bool.not_eq_true', memB, Bool.or_eq_false_iff] at h1
    refine ⟨by simp only [nodB, Bool.and_eq_true, Bool.not_eq_true']; exact ⟨h1.1.2, h1.2.2⟩, fun k => ⟨fun hk => ?_, fun hk => ?_⟩⟩
    · obtain ⟨hne, hun⟩ := unl_set hk
      have := (h2 k).1 hun
      simp only [memB, Bool.or_eq_true] at this ⊢
      rcases this with h | h | h
      · exact .inl h
      · exact absurd (Nat.eq_of_beq_eq_true h).symm hne
      · exact .inr h
    · simp only [memB, Bool.or_eq_true] at hk
      have hkj : j ≠ k := fun e => by
        subst e
        rcases hk with h | h
        · exact hij (Nat.eq_of_beq_eq_true h)
        · rw [h1.2.1] at h; cases h
      rw [getD_set_ne true hkj]
      refine (h2 k).2 ?_
      simp only [memB, Bool.or_eq_true]
      rcases hk with h | h
      · exact .inl h
      · exact .inr (.inr h)
  have hsz1 : (listed.setIfInBounds i true).size = l.length := by simpa using hsz
  have hsz2 : (listed.setIfInBounds j true).size = l.length := by simpa using hsz
  have hir : i ∈ Region.ready .any l.toArray listed := by simpa using hs.1
  have hjr : j ∈ Region.ready .any l.toArray listed := (rdy_iff hcv hsz j).2 hp.2.2.1
  have hcv1' : Cov ((j, true) :: rest) (listed.setIfInBounds i true) := hcv1
  refine VH_pair hi hj hir (fun k hk => ?_) (fun k hk => ?_) (ready_mono hjr hij.symm) (fun k hk => ?_) (ready_mono hir hij) hij hwi hwj hwi' hwj' hni hnj fi fj fi' fj' hsw (k _ hns hs.2.2 hcv.step.step (by simpa using hsz))
  · have h1 := (rdy_iff hcv hsz k).1 hk
    have := List.all_eq_true.1 hp.2.1 k (List.mem_range.2 (lt h1))
    rw [h1] at this
    simp only [Bool.not_true, Bool.false_or, Bool.or_eq_true] at this
    exact this.imp Nat.eq_of_beq_eq_true Nat.eq_of_beq_eq_true
  · have h1 := (rdy_iff hcv1' hsz1 k).1 hk
    have := List.all_eq_true.1 hp.2.2.2.1 k (List.mem_range.2 (lt h1))
    rw [h1] at this
    simp only [Bool.not_true, Bool.false_or] at this
    exact Nat.eq_of_beq_eq_true this
  · have h1 := (rdy_iff hcov2 hsz2 k).1 hk
    have := List.all_eq_true.1 hp.2.2.2.2 k (List.mem_range.2 (lt h1))
    rw [h1] at this
    simp only [Bool.not_true, Bool.false_or] at this
    exact Nat.eq_of_beq_eq_true this
theorem V_draw {id : Nat} {l : List Oper} (ts : List Nat) (r : List (Nat × Bool)) (hm : C.P.follows .mixedOrders = true) (hns : Region.noSelect l.toArray = true)
    (hl : okAll r l.length = true) (hs : okSched l.toArray r (Array.replicate l.toArray.size false) = true) (h : VO C l ts r env σ Q) : V C (.region id l.toArray true) env σ Q := by
  intro H β a w hr he hd
  have hw : w.drew = { w with drawn := w.drawn + 1 } := rfl
  simp only [okAll, Bool.and_eq_true] at hl
  have hl' := Nat.eq_of_beq_eq_true hl.1
  have hcv : Cov r (Array.replicate l.toArray.size false) := by
    refine ⟨hl.2.1, fun j => ⟨fun hj => ?_, fun hj => ?_⟩⟩
    · have hlt : j < l.length := by
        rcases Nat.lt_or_ge j l.length with h | h
        · exact h
        · simp [Array.getElem?_eq_none, h] at hj
      exact List.all_eq_true.1 hl.2.2.2 j (List.mem_range.2 hlt)
    · obtain ⟨b, hb⟩ := memB_iff.1 hj
      have := List.all_eq_true.1 hl.2.2.1 _ hb
      have hlt : j < l.length := Nat.le_of_ble_eq_true this
      simp [hlt]
  have hk := h _ hns hs hcv (by simp) H β a w.drew hr.drew he hd [] (fun p hp => by cases hp)
  rw [hl'] at hk
  refine wp_region_any hm (wpAny_of_D (S := sOf l.toArray []) _ _ _ _ ?_)
  show wpAnyD C.P .any l.toArray (lift C H β σ w Q) (sOf l.toArray []) l.toArray.size (Array.replicate l.toArray.size false) a w.drew
  exact wpAnyD_mono2 (fun _ _ _ hl => hl.trans (Stp.drew H w) (.refl _ _ _)) (fun _ _ h => h) _ _ _ _ hk
/-- From here on other blocks may be turned: all that is left waits for all that has come up. -/
theorem VO_ts {l : List Oper} {r : List (Nat × Bool)} (ts' : List Nat) (hs' : settled l.toArray l.length r = true) (k : VO C l ts' r env σ Q) : VO C l ts r env σ Q := by
  intro listed hns hs hcv hsz H β a w hr he hd tk hS
  refine k listed hns hs hcv hsz H β a w hr he hd tk fun p hp => ?_
  obtain ⟨h0, h1, _⟩ := hS p hp
  refine ⟨h0, h1, fun j hj hw => ?_⟩
  obtain ⟨b, hb⟩ := memB_iff.1 ((hcv.2 j).1 hj)
  have := List.all_eq_true.1 (List.all_eq_true.1 hs' _ hb) p.1 (List.mem_range.2 (by simpa using h0))
  simp only [hw, Bool.or_false] at this
  have := (hcv.2 p.1).2 this
  rw [h1] at this; cases this
end
end Go.Den
/- Calls as operations, with what they leave alone; how a contract with blocks is proved. -/
namespace Go.Den
open Go
set_option linter.unusedSectionVars false
set_option linter.unusedSimpArgs false
set_option linter.unusedVariables false

/-- What a call hands back, in the caller's numbers. -/
def backR (σ : List Blk) (idx : List Nat) (Q0 : D → List Blk → Prop) : D → List Blk → Prop := fun d s =>
  ∃ d0 s0 τ, Q0 d0 s0 ∧ D.ren (fun j => some (backI idx σ.length j)) d0 = some d ∧ renBs (fun j => some (backI idx σ.length j)) s0 = some τ ∧ s = putBack σ idx τ

def disj (idx ts : List Nat) : Bool := idx.all fun i => ts.contains i

theorem T.ren_total {f : Nat → Nat} : ∀ (x : T), ∃ y, T.ren (fun j => some (f j)) x = some y := by
  have caps : ∀ l : List (Nat × List Nat), ∃ y, renCaps (fun j => some (f j)) l = some y := by
    intro l
    induction l with
    | nil => exact ⟨_, rfl⟩
    | cons c cs ih => obtain ⟨y, hy⟩ := ih; exact ⟨_, by simp only [renCaps, hy]; rfl⟩
  intro x
  induction x using T.rec (motive_2 := fun xs => ∃ ys, T.rens (fun j => some (f j)) xs = some ys) with
  | e x => exact ⟨_, rfl⟩
  | st xs ih => obtain ⟨ys, h⟩ := ih; exact ⟨_, by simp only [T.ren, h]; rfl⟩
  | nsl => exact ⟨_, rfl⟩
  | bsl xs => exact ⟨_, rfl⟩
  | lsl i xs => exact ⟨_, rfl⟩
  | ptr i p => exact ⟨_, rfl⟩
  | fn f' cs => obtain ⟨ys, h⟩ := caps cs; exact ⟨_, by simp only [T.ren, h]; rfl⟩
  | msl i n => exact ⟨_, rfl⟩
  | nil => exact ⟨_, rfl⟩
  | cons x xs h1 h2 => obtain ⟨y, hy⟩ := h1; obtain ⟨ys, hys⟩ := h2; exact ⟨_, by simp only [T.rens, hy, hys]; rfl⟩
theorem D.ren_total {f : Nat → Nat} : ∀ (x : D), ∃ y, D.ren (fun j => some (f j)) x = some y := by
  intro x
  induction x using D.rec (motive_2 := fun xs => ∃ ys, D.rens (fun j => some (f j)) xs = some ys) with
  | t ty x => obtain ⟨y, h⟩ := T.ren_total (f := f) x; exact ⟨_, by simp only [D.ren, h]; rfl⟩
  | ptr i p => exact ⟨_, rfl⟩
  | el => exact ⟨_, rfl⟩
  | asl => exact ⟨_, rfl⟩
  | tup xs ih => obtain ⟨ys, h⟩ := ih; exact ⟨_, by simp only [D.ren, h]; rfl⟩
  | it i => exact ⟨_, rfl⟩
  | kb => exact ⟨_, rfl⟩
  | mel => exact ⟨_, rfl⟩
  | any => exact ⟨_, rfl⟩
  | nil => exact ⟨_, rfl⟩
  | cons x xs h1 h2 => obtain ⟨y, hy⟩ := h1; obtain ⟨ys, hys⟩ := h2; exact ⟨_, by simp only [D.rens, hy, hys]; rfl⟩
theorem renBs_total {f : Nat → Nat} : ∀ (l : List Blk), ∃ y, renBs (fun j => some (f j)) l = some y
  | [] => ⟨_, rfl⟩
  | b :: l => by
    obtain ⟨ys, h⟩ := renBs_total (f := f) l
    cases b with
    | tree ty x => obtain ⟨y, hy⟩ := T.ren_total (f := f) x; exact ⟨_, by simp only [renBs, Blk.ren, hy, h]; rfl⟩
    | row u n => exact ⟨_, by simp only [renBs, Blk.ren, h]; rfl⟩
    | iter s p => exact ⟨_, by simp only [renBs, Blk.ren, h]; rfl⟩
    | dead => exact ⟨_, by simp only [renBs, Blk.ren, h]; rfl⟩
    | mrow u o xs => exact ⟨_, by simp only [renBs, Blk.ren, h]; rfl⟩

section
variable {C : Cx} (hC : Ok C) {o : Oper} {env : Env} {σ : List Blk}
include hC

theorem argsD_rel {H β n a} (he : EnvRel C.tb H β σ n a env) : ∀ {ts : List TypeId} {xs : List Operand} {ys : List D}, argsD C.tb env ts xs = some ys →
    ys.length = ts.length ∧ xs.length = ts.length ∧ ∀ (i : Nat) x d, xs[i]? = some x → ys[i]? = some d → DRel C.tb H β σ (a.eval x) d
  | [], [], ys, h => by simp [argsD] at h; subst h; exact ⟨rfl, rfl, fun i x d hx => by simp at hx⟩
  | t :: ts, x :: xs, ys, h => by
    unfold argsD at h
    split at h
    · rename_i y hy
      split at h
      · rename_i zs hz
        cases h
        obtain ⟨h1, h2, h3⟩ := argsD_rel he hz
        refine ⟨by simp [h1], by simp [h2], fun i q d hq hd => ?_⟩
        cases i with
        | zero =>
          simp at hq hd; subst hq; subst hd
          unfold argD at hy
          split at hy
          · rename_i dx hdx
            split at hy
            · rename_i z hz2
              cases hy
              obtain ⟨cs, h1, h2⟩ := asT_rel hC (opd_rel he hdx) hz2
              unfold outD
              simp only []
              split
              · rename_i e he2; exact .t h1 (.e (h2.toE he2))
              · exact ldD_rel h1 h2
            · cases hy; exact opd_rel he hdx
          · cases hy
        | succ i => exact h3 i q d (by simpa using hq) (by simpa using hd)
      · cases h
    · cases h
  | [], _ :: _, _, h => by simp [argsD] at h
  | _ :: _, [], _, h => by simp [argsD] at h

theorem OpF_call {f : FuncId} {xs : Array Operand} {tys : Array TypeId} {pts : List TypeId} {ds args : List D} {σ0 : List Blk} {Q0 : D → List Blk → Prop} {idx ts : List Nat}
    (ho : o.op = .call { callee := .value (.func f), args := xs, argTypes := tys }) (hx : argsD C.tb env pts xs.toList = some ds) (hds : D.rens (idxOf idx) ds = some args) (hp : pickB σ (idxOf idx) idx 0 = some σ0)
    (h : FnG C.P C.tb f σ0 args Q0) (hts : disj idx ts = true) : OpF C o env σ ts (backR σ idx Q0) := by
  intro H β a w hr he hd K Qx hK
  obtain ⟨⟨fn, hf, hn, hb⟩, hcall⟩ := h
  obtain ⟨l1, l2, l3⟩ := argsD_rel hC he hx
  have hrun : (execOp a.eval o).run C.P w = .ok (.enter f (xs.map a.eval)) w := by
    simp [execOp, ho, resolve, Act.eval, Deferred.ofValue, invoke, run_callFunc hf hn hb]
  simp only [Oper.wp, hrun, Oper.upon]
  obtain ⟨hpr, hren⟩ := hr.pick hp
  obtain ⟨d1, d2⟩ := D.rens_get hds
  obtain ⟨p1, p2⟩ := pickB_get hp
  have hargs : ArgsAt C.tb (pickH (idxOf idx) H) (idx.map fun i => β.getD i undef) σ0 (xs.map a.eval) args := by
    refine ⟨⟨by simp [d1, l1]; simpa using l2, he.1.2.mono fun _ _ _ e => pickH_pers.2 e⟩, fun i v d hv hd => ?_⟩
    obtain ⟨x, hx1, hx2⟩ := d2 i d hd
    simp only [Array.getElem?_map, Option.map_eq_some_iff] at hv
    obtain ⟨y, hy, rfl⟩ := hv
    exact (l3 i y x (by simpa using hy) hx1).ren hren hx2
  have hmine : ∀ b o i, pickH (idxOf idx) H b o = .mine i → i < σ0.length := fun b o i e => by
    obtain ⟨i', _, e2⟩ := pickH_mine.1 e
    rw [p1]; exact (List.getElem?_eq_some_iff.1 (idxOf_get e2)).1
  refine (hcall _ _ w _ hpr hmine hargs).mono ?_
  rintro e w' ⟨v, d0, H', β', σ', rfl, hq, hle, hr', hv', hs, hk⟩
  rw [p1] at hle hk
  obtain ⟨τ, hτ⟩ := renBs_total (f := fun j => backI idx σ.length j) σ'
  obtain ⟨d, hd⟩ := D.ren_total (f := fun j => backI idx σ.length j) d0
  obtain ⟨k1, k2, k3, k4⟩ := hr.back hp hr' hs hk hle hτ
  refine hK v d w' _ _ _ ⟨d0, σ', τ, hq, hd, hτ, rfl⟩ k1 (hv'.ren k4 hd) k2 k3 ?_
  intro b o' u hu hst
  have hlt : b < w.heap.size := by
    rcases hst with ⟨x, hx⟩ | ⟨i, _, hi⟩
    · exact hr.dom b o' (by rw [hx]; simp)
    · exact hr.dom b o' (by rw [hi]; simp)
  have hni : ∀ i, H b o' = .mine i → i ∉ ts → i ∉ idx := fun i _ hi hc => hi (by simpa [disj] using (List.all_eq_true.1 hts i hc))
  have hnm : ∀ j, pickH (idxOf idx) H b o' ≠ .mine j := fun j e => by
    obtain ⟨i, e1, e2⟩ := pickH_mine.1 e
    rcases hst with ⟨x, hx⟩ | ⟨i', hi', hm⟩
    · rw [hx] at e1; cases e1
    · have he1 := hm.symm.trans e1
      cases he1
      exact hni _ hm hi' (List.mem_of_getElem? (idxOf_get e2))
  refine ⟨(hs.cell b hlt o' hnm).trans hu, ?_⟩
  rcases hst with ⟨x, hx⟩ | ⟨i, hi, hm⟩
  · exact .inl ⟨x, k3.pers _ _ _ hx⟩
  · refine .inr ⟨i, hi, ?_⟩
    have h0 : pickH (idxOf idx) H b o' = .none := by
      unfold pickH; rw [hm]
      cases hx : idxOf idx i with
      | none => simp [hx]
      | some q => exact absurd (List.mem_of_getElem? (idxOf_get hx)) (hni i hm hi)
    have h1 : H' b o' = .none := by rw [hs.gh b hlt o' hnm, h0]
    have hx : idxOf idx i = none := by
      cases hx : idxOf idx i with
      | none => rfl
      | some q => exact absurd (List.mem_of_getElem? (idxOf_get hx)) (hni i hm hi)
    simp [backH, h1, hm, hx]

/-! ### how a contract is proved -/

def resD (rows : Bool) (tb : Tab) (env : Env) (σ : List Blk) : List TypeId → List ResultVar → Option (List D)
  | [], [] => some []
  | t :: ts, r :: rs => match resOf tb env σ r with
    | some d => match asT tb t d with
      | some y => match resD rows tb env σ ts rs with
        | some zs => some (outD rows t y :: zs)
        | none => none
      | none => none
    | none => none
  | _, _ => none
def oneD : List D → D
  | [d] => d
  | ds => .tup ds

theorem outD_rel {rows t y H β v cs} (h1 : VC C.tb t v cs) (h2 : TRel C.tb H β σ t cs y) : DRel C.tb H β σ v (outD rows t y) := by
  unfold outD
  cases rows with
  | true => exact ldD_rel h1 h2
  | false =>
    simp only []
    split
    · rename_i e he2; exact .t h1 (.e (h2.toE he2))
    · exact ldD_rel h1 h2

theorem resD_rel {rows : Bool} {H β n a w} (hr : Rel C.tb H β σ w) (he : EnvRel C.tb H β σ n a env) : ∀ {ts : List TypeId} {rs : List ResultVar} {ys : List D}, resD rows C.tb env σ ts rs = some ys →
    ∃ vs : List Value, (rs.mapM (resRun a.tmps)).run C.P w = .ok vs w ∧ vs.length = ts.length ∧ ys.length = ts.length ∧
      ∀ (i : Nat) v d, vs[i]? = some v → ys[i]? = some d → DRel C.tb H β σ v d
  | [], [], ys, h => by simp [resD] at h; subst h; exact ⟨[], rfl, rfl, rfl, fun i v d hv => by simp at hv⟩
  | t :: ts, r :: rs, ys, h => by
    unfold resD at h
    split at h
    · rename_i d hd
      split at h
      · rename_i y hy
        split at h
        · rename_i zs hzs
          cases h
          obtain ⟨v, hrun, hv⟩ := resOf_rel hC hr he hd
          obtain ⟨vs, hrun2, h1, h2, h3⟩ := resD_rel hr he hzs
          obtain ⟨cs, hvc, htr⟩ := asT_rel hC hv hy
          refine ⟨v :: vs, ?_, by simp [h1], by simp [h2], fun i u q hu hq => ?_⟩
          · simp only [List.mapM_cons, Sem.run_bind, hrun, Result.andThen, hrun2]; rfl
          · cases i with
            | zero => simp at hu hq; subst hu; subst hq; exact outD_rel hC hvc htr
            | succ i => exact h3 i u q (by simpa using hu) (by simpa using hq)
        · cases h
      · cases h
    · cases h
  | [], _ :: _, _, h => by simp [resD] at h
  | _ :: _, [], _, h => by simp [resD] at h
end

def upto : Nat → List Nat
  | 0 => []
  | n + 1 => upto n ++ [n]
/-- What a body must come to. -/
def retP (rows : Bool) (tb : Tab) (k : Nat) (ts : List TypeId) (rs : List ResultVar) (keep : List Nat) (Q : D → List Blk → Prop) : Post := fun x e s =>
  (x = .nrm ∨ x = .ret) ∧ ∃ ds ds' s', resD rows tb e s ts rs = some ds ∧ pickB s (idxOf (upto k ++ keep)) (upto k ++ keep) 0 = some s' ∧ D.rens (idxOf (upto k ++ keep)) ds = some ds' ∧ Q (oneD ds') s'

theorem upto_get : ∀ {n i : Nat}, i < n → (upto n)[i]? = some i
  | 0, i, h => by omega
  | n + 1, i, h => by
    have hl : (upto n).length = n := by
      clear h
      induction n with
      | zero => rfl
      | succ n ih => simp [upto, ih]
    simp only [upto]
    rcases Nat.lt_or_ge i n with h1 | h1
    · rw [List.getElem?_append_left (by omega)]; exact upto_get h1
    · have : i = n := by omega
      subst this
      rw [List.getElem?_append_right (by omega), hl]; simp
theorem upto_length (n : Nat) : (upto n).length = n := by
  induction n with
  | zero => rfl
  | succ n ih => simp [upto, ih]

theorem FnG_of_V {P : Program} {tb : Tab} {bt : TypeId} {f : FuncId} {fn : Func} {c : Code} {σ0 : List Blk} {args : List D} {Q : D → List Blk → Prop} (rows : Bool) (keep : List Nat) (ts : List TypeId)
    (hC : Ok ⟨P, tb, σ0.length, fn.ntmps, bt⟩) (hf : P.funcs[f]? = some fn) (hn : (fn.name == "runtime.NumGoroutine") = false) (hb : fn.body = some c) (hle : Nat.ble args.length fn.ntmps = true)
    (hV : (∀ H β w vals, Rel tb H β σ0 w → ArgsAt tb H β σ0 vals args → V ⟨P, tb, σ0.length, fn.ntmps, bt⟩ c (argEnv 0 args) σ0 (retP rows tb σ0.length ts fn.results.toList keep Q))) :
    FnG P tb f σ0 args Q := by
  refine ⟨⟨fn, hf, hn, by rw [hb]; rfl⟩, fun H β w vals hr0 hmine hargs => ?_⟩
  have hle := Nat.le_of_ble_eq_true hle
  have hVV := hV H β w vals hr0 hargs
  obtain ⟨⟨hsz, hgl⟩, hrel⟩ := hargs
  refine calls_of_wp hf hb ?_
  have henv : EnvRel tb H β σ0 fn.ntmps { tmps := vals ++ Array.replicate (fn.ntmps - vals.size) undef, defers := [] } (argEnv 0 args) := by
    refine ⟨⟨by simp; omega, hgl⟩, fun t => ?_⟩
    rw [argEnv_get, if_pos (Nat.zero_le _), Nat.sub_zero]
    cases hd : args[t]? with
    | none => exact .any
    | some d =>
      have ht : t < vals.size := by rw [hsz]; exact (List.getElem?_eq_some_iff.1 hd).1
      have := hrel t vals[t] d (Array.getElem?_eq_getElem ht) hd
      have hge : (vals ++ Array.replicate (fn.ntmps - vals.size) undef).getD t undef = vals[t] := by
        rw [Array.getD_eq_getD_getElem?, Array.getElem?_append_left ht, Array.getElem?_eq_getElem ht]; rfl
      simp only [Option.getD_some]
      rw [hge]; exact this
  refine wp_mono (hVV H β _ w hr0 henv rfl) ?_
  rintro e a' w' ⟨x, hx, env', σ', H', β', ⟨hxx, ds, ds', s', hres, hpick, hren, hq⟩, r⟩
  obtain ⟨vs, hrun, h1, h2, h3⟩ := resD_rel hC r.rel r.env hres
  have hrr := run_results hrun
  obtain ⟨hpr, hR⟩ := r.rel.pick hpick
  obtain ⟨g1, g2⟩ := D.rens_get hren
  obtain ⟨p1, p2⟩ := pickB_get hpick
  have hitem : ∀ (i : Nat) v d, vs[i]? = some v → ds'[i]? = some d → DRel tb (pickH (idxOf (upto σ0.length ++ keep)) H') ((upto σ0.length ++ keep).map fun i => β'.getD i undef) s' v d := fun i v d hv hd => by
    obtain ⟨x, hx1, hx2⟩ := g2 i d hd
    exact (h3 i v x hv hx1).ren hR hx2
  have hv : DRel tb (pickH (idxOf (upto σ0.length ++ keep)) H') ((upto σ0.length ++ keep).map fun i => β'.getD i undef) s' (oneOf vs) (oneD ds') := by
    have tup : DRel tb (pickH (idxOf (upto σ0.length ++ keep)) H') ((upto σ0.length ++ keep).map fun i => β'.getD i undef) s' (.tuple vs.toArray) (.tup ds') :=
      .tup (by simp; omega) fun i v d hv hd => hitem i v d (by simpa using hv) hd
    have hll : vs.length = ds'.length := by omega
    match vs, ds', hll, hitem, tup with
    | [v], [y], _, hitem, _ => exact hitem 0 v _ rfl rfl
    | [], [], _, _, tup => exact tup
    | _ :: _ :: _, _ :: _ :: _, _, _, tup => exact tup
  have hst : Stp H w (pickH (idxOf (upto σ0.length ++ keep)) H') w' := by
    have hs := r.stp
    refine ⟨hs.os, hs.tape, hs.output, hs.size, fun b hb o hn => ?_, fun b hb o i h => ?_, hs.blk, hs.cell, hs.frz, hs.shp⟩
    · have := hs.gh b hb o hn
      rw [← this]
      unfold pickH
      split
      · rename_i i hi; rw [this] at hi; exact absurd hi (hn i)
      · rfl
    · obtain ⟨i', e1, _⟩ := pickH_mine.1 h
      exact hs.own b hb o i' e1
  have hidx : ∀ i, i < σ0.length → (upto σ0.length ++ keep)[i]? = some i := fun i hi => by
    rw [List.getElem?_append_left (by rw [upto_length]; exact hi)]; exact upto_get hi
  have hget : ∀ i, i < σ0.length → ∀ k, σ'[i]? = some k → ((upto σ0.length ++ keep).map fun i => β'.getD i undef)[i]? = β'[i]? ∧ ∃ k', s'[i]? = some k' ∧ alike k k' := fun i hi k hk => by
    have hil : i < s'.length := by rw [p1]; simp [upto_length]; omega
    obtain ⟨i2, k2, a1, a2, a3, a4⟩ := p2 i _ (List.getElem?_eq_getElem hil)
    rw [hidx i hi] at a1; cases a1
    rw [hk] at a3; cases a3
    have hib : i < β'.length := by rw [r.rel.len]; exact (List.getElem?_eq_some_iff.1 hk).1
    exact ⟨by rw [List.getElem?_map, hidx i hi]; simp [List.getD, List.getElem?_eq_getElem hib], _, List.getElem?_eq_getElem hil, Blk.ren_alike a4⟩
  have hkp : Kp σ0.length β σ0 ((upto σ0.length ++ keep).map fun i => β'.getD i undef) s' := by
    refine ⟨fun i hi ty x h => ?_, fun i hi u n h => ?_, fun i hi s p h => ?_, fun i hi u o xs h => ?_⟩
    · obtain ⟨e1, x', e2⟩ := r.kp.tree i hi ty x h
      obtain ⟨f1, k', f2, f3⟩ := hget i hi _ e2
      cases k' with
      | tree ty' x2 => cases f3; exact ⟨f1.trans e1, x2, f2⟩
      | row => cases f3
      | iter => cases f3
      | dead => cases f3
      | mrow => cases f3
    · obtain ⟨n', e2, e3, e4⟩ := r.kp.row i hi u n h
      obtain ⟨f1, k', f2, f3⟩ := hget i hi _ e2
      cases k' with
      | row u' n2 => obtain ⟨rfl, rfl⟩ := f3; exact ⟨n', f2, e3, fun e => f1.trans (e4 e)⟩
      | tree => cases f3
      | iter => cases f3
      | dead => cases f3
      | mrow => cases f3
    · obtain ⟨e1, s2, p2', e2⟩ := r.kp.iter i hi s p h
      obtain ⟨f1, k', f2, f3⟩ := hget i hi _ e2
      cases k' with
      | iter s' p' => obtain ⟨rfl, rfl⟩ := f3; exact ⟨f1.trans e1, s2, p2', f2⟩
      | tree => cases f3
      | row => cases f3
      | dead => cases f3
      | mrow => cases f3
    · obtain ⟨o2, xs2, e2, e3, e4⟩ := r.kp.mrow i hi u o xs h
      obtain ⟨f1, k', f2, f3⟩ := hget i hi _ e2
      cases k' with
      | mrow u' o3 xs3 => obtain ⟨rfl, rfl, rfl⟩ := f3; exact ⟨_, _, f2, e3, fun e => f1.trans (e4 e)⟩
      | tree => cases f3
      | row => cases f3
      | dead => cases f3
      | iter => cases f3
  have goal : ∃ v d H'' β'' σ'', Ending.returned (oneOf vs) = .returned v ∧ Q d σ'' ∧ σ0.length ≤ σ''.length ∧ Rel tb H'' β'' σ'' w' ∧ DRel tb H'' β'' σ'' v d ∧ Stp H w H'' w' ∧ Kp σ0.length β σ0 β'' σ'' :=
    ⟨_, _, _, _, _, rfl, hq, by rw [p1]; simp [upto_length], hpr, hv, hst, hkp⟩
  cases e with
  | normal => exact ⟨r.defers, _, hrr, goal⟩
  | ret => exact ⟨r.defers, _, hrr, goal⟩
  | exit id => cases hx; rcases hxx with h | h <;> cases h
  | goto l => cases hx
  | panic ch => cases hx
  | outgrown => cases hx
end Go.Den
/- A machine that runs a function's code over what is known, as far as it tells. -/
namespace Go.Den
open Go
set_option linter.unusedSectionVars false
set_option linter.unusedSimpArgs false
set_option linter.unusedVariables false

/-- What is still to be done. -/
inductive It where
  | c (code : Code)
  | r (full l : List Oper)
  | o (full : List Oper) (ts : List Nat) (ord : List (Nat × Bool))
  | b (id : Nat)

def VX (C : Cx) (Q : Post) : List It → X → Env → List Blk → Prop
  | [], x, e, s => Q x e s
  | .c code :: k, .nrm, e, s => V C code e s (fun x e s => VX C Q k x e s)
  | .r full l :: k, .nrm, e, s => VL C full.toArray l e s (fun x e s => VX C Q k x e s)
  | .o full ts ord :: k, .nrm, e, s => VO C full ts ord e s (fun x e s => VX C Q k x e s)
  | .b id :: k, .ext j, e, s => match Nat.beq j id with
    | true => VX C Q k .nrm e s
    | false => VX C Q k (.ext j) e s
  | _ :: k, x, e, s => VX C Q k x e s

/-- What a function that is handed data, and hands back data, answers. -/
structure Kon where
  pts : List TypeId
  rts : List TypeId
  f : List E → Option (Prop × List E)
structure Kit where
  bk : List Nat
  dx : Cx → Env → List Blk → Oper → Option DR
  fs : List (FuncId × Kon)
def kok (P : Program) (tb : Tab) : List (FuncId × Kon) → Prop
  | [] => True
  | (f, k) :: r => (∀ args p rs, k.f args = some (p, rs) → p → FnOk P tb f k.pts k.rts args rs) ∧ kok P tb r
def kget : List (FuncId × Kon) → FuncId → Option Kon
  | [], _ => none
  | (g, k) :: r, f => match Nat.beq g f with
    | true => some k
    | false => kget r f
structure KitOk (P : Program) (tb : Tab) (K : Kit) : Prop where
  dx : ∀ (C : Cx), C.P = P → C.tb = tb → Ok C → ∀ env σ o r, K.dx C env σ o = some r → r.p → OpOk C o env σ r
  fs : kok P tb K.fs
theorem kget_ok {P : Program} {tb : Tab} : ∀ {l : List (FuncId × Kon)} {f : FuncId} {k : Kon}, kok P tb l → kget l f = some k → ∀ args p rs, k.f args = some (p, rs) → p → FnOk P tb f k.pts k.rts args rs
  | [], _, _, _, h => by cases h
  | (g, k) :: r, f, k', hk, h => by
    simp only [kget] at h
    split at h
    · rename_i hb; cases h; have := Nat.eq_of_beq_eq_true hb; subst this; exact hk.1
    · exact kget_ok hk.2 h

def trivB (C : Cx) (op : BinOp) (xt : TypeId) : Bool := match op with
  | .eql | .neq | .lss | .leq | .gtr | .geq | .sub | .mul | .and | .or | .xor | .andNot => true
  | .add => match td C.tb xt with
    | .int _ => true
    | _ => false
  | _ => false
/-- What an operation does; whether its terms are plain. -/
def triv (C : Cx) (o : Oper) : Bool := match o.op with
  | .move _ | .assign _ | .pick _ _ _ | .extract _ _ | .alloc _ | .box _ _ | .build _ _ | .buildSlice _ _ _ | .load _ _ | .store _ _ _ | .nilCheck _ | .convert _ _ _ | .unOp _ _ _ | .fieldAddr _ _ _ | .field _ _ _ => true
  | .call { callee := .builtin .len, args := _, argTypes := _ } => true
  | .binOp op xt _ _ _ => trivB C op xt
  | _ => false
structure OS where
  ps : List Prop
  d : D
  s : List Blk
def allP : List Prop → Prop
  | [] => True
  | p :: r => match r with
    | [] => p
    | q :: r' => p ∧ allP (q :: r')
theorem allP_cons {p : Prop} {r : List Prop} (h : allP (p :: r)) : p ∧ allP r := by
  cases r with
  | nil => exact ⟨h, trivial⟩
  | cons q r => exact h
def callOf : Op → Option (FuncId × List Operand)
  | .call { callee := .value (.func f), args := ⟨xs⟩, argTypes := _ } => some (f, xs)
  | _ => none
def stops : List Nat → Option Tmp → Bool
  | [], _ => false
  | _ :: _, none => false
  | i :: r, some t => match Nat.beq i t with
    | true => true
    | false => stops r (some t)
def opS (K : Kit) (C : Cx) (env : Env) (σ : List Blk) (o : Oper) (ps : List Prop) : Option OS :=
  match stops K.bk o.dst with
  | true => none
  | false => match callOf o.op with
    | some (f, xs) => match kget K.fs f with
      | some k => match argsE C.tb env k.pts xs with
        | some args => match k.f args with
          | some (p, rs) => some ⟨p :: ps, retD k.rts rs, σ⟩
          | none => none
        | none => none
      | none => none
    | none => match dop C env σ o with
      | some ⟨p, d, s⟩ => match triv C o with
        | true => some ⟨ps, d, s⟩
        | false => some ⟨p :: ps, d, s⟩
      | none => match K.dx C env σ o with
        | some ⟨p, d, s⟩ => some ⟨p :: ps, d, s⟩
        | none => none

theorem triv_bin {C : Cx} {env σ rt op xt x y yt p d s} (h : dBin C env σ rt op xt x y yt = some ⟨p, d, s⟩)
    (ht : trivB C op xt = true) : p := by
  unfold trivB at ht
  unfold dBin at h
  cases op <;> simp only [] at ht <;> try (cases ht)
  all_goals (repeat' split at h)
  all_goals first
    | (cases h; done)
    | (cases h; first | trivial | (simp [arithP]; done) | (exfalso; simp_all; done) | simp_all)
theorem triv_p {C : Cx} {env σ o p d s} (h : dop C env σ o = some ⟨p, d, s⟩) (ht : triv C o = true) : p := by
  unfold triv at ht
  unfold dop at h
  split at h <;> rename_i ho <;> simp only [ho] at ht <;> try (cases ht)
  case h_8 => 
    unfold dLoad at h
    repeat' split at h
    all_goals first | (cases h; trivial) | cases h
  case h_9 =>
    unfold dStore at h
    repeat' split at h
    all_goals first | (rw [setK_eq] at h; cases h; trivial) | cases h
  case h_11 => exact triv_bin h ht
  case h_12 =>
    unfold dUn at h
    repeat' split at h
    all_goals first | (cases h; trivial) | cases h
  case h_15 =>
    unfold dFieldAddr at h
    repeat' split at h
    all_goals first | (cases h; trivial) | (simp only [litK_eq, appK_eq, pathK] at h; cases h; trivial) | cases h
  case h_16 =>
    unfold dField at h
    repeat' split at h
    all_goals first | (cases h; trivial) | cases h
  case h_20 =>
    unfold dLen at h
    repeat' split at h
    all_goals first | (cases h; trivial) | cases h
  all_goals (repeat' split at h)
  all_goals first | (cases h; trivial) | (rw [litK_eq, appK_eq] at h; cases h; trivial) | cases h

def isCall (o : Oper) : Bool := match callOf o.op with
  | some _ => true
  | none => false
theorem callOf_some {op : Op} {f : FuncId} {xs : List Operand} (h : callOf op = some (f, xs)) : ∃ tys, op = .call { callee := .value (.func f), args := ⟨xs⟩, argTypes := tys } := by
  unfold callOf at h
  split at h
  · cases h; exact ⟨_, rfl⟩
  · cases h
theorem isVal_call {o : Oper} (h : isVal o.op = true) : isCall o = false := by
  unfold isCall
  cases hc : callOf o.op with
  | none => rfl
  | some p =>
    obtain ⟨f, xs⟩ := p
    obtain ⟨tys, ho⟩ := callOf_some hc
    rw [ho] at h; simp [isVal] at h

theorem OpF_callE {C : Cx} (hC : Ok C) {o : Oper} {env : Env} {σ : List Blk} {ts : List Nat} {f : FuncId} {xs : Array Operand} {tys : Array TypeId} {pts rts : List TypeId} {args rs : List E} (ho : o.op = .call { callee := .value (.func f), args := xs, argTypes := tys })
    (hx : argsE C.tb env pts xs.toList = some args) (h : FnOk C.P C.tb f pts rts args rs) : OpF C o env σ ts (fun d s => d = retD rts rs ∧ s = σ) := by
  intro H β a w hr he hd K Qx hK
  obtain ⟨⟨fn, hf, hn, hb⟩, hal, hcall⟩ := h
  obtain ⟨l1, l2, l3⟩ := argsE_rel hC he hx
  have hrun : (execOp a.eval o).run C.P w = .ok (.enter f (xs.map a.eval)) w := by
    simp [execOp, ho, resolve, Act.eval, Deferred.ofValue, invoke, run_callFunc hf hn hb]
  simp only [Oper.wp, hrun, Oper.upon]
  have hargs : ArgsAt C.tb (strip H) [] [] (xs.map a.eval) (typed pts args) := by
    refine ⟨⟨by rw [typed_length l1]; simpa using l2, he.1.2.mono fun _ _ _ e => strip_pers.2 e⟩, fun i v d hv hd => ?_⟩
    simp only [Array.getElem?_map, Option.map_eq_some_iff] at hv
    obtain ⟨x, hx, rfl⟩ := hv
    exact l3 i x d (by simpa using hx) hd
  refine (hcall (strip H) w _ ⟨fun b o v e => hr.pers b o v (strip_pers.1 e), fun b o e => hr.dom b o fun h0 => e (by simp [strip, h0])⟩ (fun _ _ _ => strip_mine) hargs).mono ?_
  rintro e w' ⟨v, H', rfl, hb', hv', hs⟩
  obtain ⟨k1, k2, k3, k4⟩ := hr.after hb' hs
  refine hK v _ w' _ β σ ⟨rfl, rfl⟩ k1 (hv'.lift0 β σ k4) k2 k3 fun b o' u hu hst => ?_
  have hlt : b < w.heap.size := by
    rcases hst with ⟨x, hx⟩ | ⟨i, _, hi⟩
    · exact hr.dom b o' (by rw [hx]; simp)
    · exact hr.dom b o' (by rw [hi]; simp)
  refine ⟨(hs.cell b hlt o' fun _ => strip_mine).trans hu, ?_⟩
  simp only [merge, hlt, if_true]; exact hst

theorem opS_ok {K : Kit} {C : Cx} (hK : KitOk C.P C.tb K) (hC : Ok C) {env : Env} {σ : List Blk} {o : Oper} {ps : List Prop} {r : OS} (h : opS K C env σ o ps = some r) (hp : allP r.ps) :
    allP ps ∧ (isCall o = false → OpOk C o env σ ⟨True, r.d, r.s⟩) ∧ (isCall o = true → ∀ ts, OpF C o env σ ts (fun d s => d = r.d ∧ s = r.s)) := by
  unfold opS at h
  split at h
  · cases h
  split at h
  · rename_i f xs hc
    obtain ⟨tys, ho⟩ := callOf_some hc
    split at h
    · rename_i k hk
      split at h
      · rename_i args hx
        split at h
        · rename_i p rs hrs
          cases h
          obtain ⟨h1, h2⟩ := allP_cons hp
          exact ⟨h2, fun hn => by simp [isCall, hc] at hn, fun _ ts => OpF_callE hC ho hx (kget_ok hK.fs hk args p rs hrs h1)⟩
        · cases h
      · cases h
    · cases h
  · rename_i hc
    have hnc : isCall o ≠ true := by simp [isCall, hc]
    split at h
    · rename_i p d s hd
      split at h
      · rename_i ht; cases h; have := dop_ok hC hd (triv_p hd ht); exact ⟨hp, fun _ => ⟨this.v, this.val⟩, fun h => absurd h hnc⟩
      · cases h
        obtain ⟨h1, h2⟩ := allP_cons hp
        have := dop_ok hC hd h1; exact ⟨h2, fun _ => ⟨this.v, this.val⟩, fun h => absurd h hnc⟩
    · split at h
      · rename_i p d s hd
        cases h
        obtain ⟨h1, h2⟩ := allP_cons hp
        have := hK.dx C rfl rfl hC _ _ _ _ hd h1; exact ⟨h2, fun _ => ⟨this.v, this.val⟩, fun h => absurd h hnc⟩
      · cases h
theorem opS_v {K : Kit} {C : Cx} (hK : KitOk C.P C.tb K) (hC : Ok C) {env : Env} {σ : List Blk} {o : Oper} {ps : List Prop} {r : OS} (h : opS K C env σ o ps = some r) (hp : allP r.ps) :
    allP ps ∧ OpV C o env σ (fun d s => d = r.d ∧ s = r.s) := by
  obtain ⟨h1, h2, h3⟩ := opS_ok hK hC h hp
  refine ⟨h1, ?_⟩
  cases hc : isCall o with
  | true => exact (h3 hc []).v
  | false => exact (h2 hc).v

structure Out where
  ps : List Prop
  k : List It
  x : X
  e : Env
  s : List Blk

def unw (id : Nat) : List It → Option (List It)
  | [] => none
  | .b j :: k => match Nat.beq id j with
    | true => some k
    | false => unw id k
  | _ :: k => unw id k

def tyK {α : Type _} (o : Oper) (k : TypeId → α) : α := match o with
  | ⟨_, _, ty, _, _, _⟩ => k ty
theorem tyK_eq {α : Type _} (o : Oper) (k : TypeId → α) : tyK o k = k o.type := by cases o; rfl
/-- A datum put into a temporary, written out. -/
def putK {α : Type _} (t : Nat) (d : D) (type : TypeId) (e : Env) (k : Env → α) : α := match d with
  | .t ty x => match Nat.beq ty type with
    | true => match x with
      | .e y => k ((t, .t type (.e y)) :: e)
      | .st xs => k ((t, .t type (.st xs)) :: e)
      | .nsl => k ((t, .t type .nsl) :: e)
      | .bsl xs => k ((t, .t type (.bsl xs)) :: e)
      | .lsl i xs => k ((t, .t type (.lsl i xs)) :: e)
      | .ptr i p => k ((t, .t type (.ptr i p)) :: e)
      | .fn f c => k ((t, .t type (.fn f c)) :: e)
      | .msl i n => k ((t, .t type (.msl i n)) :: e)
    | false => match x with
      | .e y => k ((t, .t ty (.e y)) :: e)
      | .st xs => k ((t, .t ty (.st xs)) :: e)
      | .nsl => k ((t, .t ty .nsl) :: e)
      | .bsl xs => k ((t, .t ty (.bsl xs)) :: e)
      | .lsl i xs => k ((t, .t ty (.lsl i xs)) :: e)
      | .ptr i p => k ((t, .t ty (.ptr i p)) :: e)
      | .fn f c => k ((t, .t ty (.fn f c)) :: e)
      | .msl i n => k ((t, .t ty (.msl i n)) :: e)
  | .kb ty b => match b with
    | true => k ((t, .kb ty true) :: e)
    | false => k ((t, .kb ty false) :: e)
  | .ptr i p => k ((t, .ptr i p) :: e)
  | .el u xs j p => k ((t, .el u xs j p) :: e)
  | .asl i p u o n => k ((t, .asl i p u o n) :: e)
  | .tup xs => k ((t, .tup xs) :: e)
  | .it i => k ((t, .it i) :: e)
  | .mel u i n j p => k ((t, .mel u i n j p) :: e)
  | .any => k ((t, .any) :: e)
theorem putK_eq {α : Type _} (t : Nat) (d : D) (type : TypeId) (e : Env) (k : Env → α) : putK t d type e k = k ((t, d) :: e) := by
  unfold putK
  split
  · split
    · rename_i hb; have := Nat.eq_of_beq_eq_true hb; subst this; split <;> rfl
    · split <;> rfl
  · split <;> rfl
  all_goals rfl

/-- Whether an operation may come up in a drawing region, taken first or alone. -/
def mayO (e : Env) (ts : List Nat) (o : Oper) (b : Bool) : Bool := match isVal o.op with
  | true => (rsOf e o.op).all fun j => !ts.contains j
  | false => isCall o && !b

def okB (full : List Oper) (i : Nat) (b : Bool) (ord : List (Nat × Bool)) : Bool := match b with
  | true => true
  | false => aloneB full ((i, false) :: ord)
theorem okB_al {full : List Oper} {i : Nat} {b : Bool} {ord : List (Nat × Bool)} (h : okB full i b ord = true) : b = false → aloneB full ((i, b) :: ord) = true := fun e => by subst e; exact h

def run (K : Kit) (C : Cx) : Nat → List Prop → List It → Env → List Blk → Out
  | 0, ps, k, e, s => ⟨ps, k, .nrm, e, s⟩
  | n + 1, ps, k, e, s => match k with
    | [] => ⟨ps, [], .nrm, e, s⟩
    | .b id :: k => run K C n ps k e s
    | .r full l :: k => match l with
      | [] => run K C n ps k e s
      | o :: l => match wants full e o with
        | some true => match opS K C e s o ps with
          | some ⟨ps', d, s'⟩ => match o.dst with
            | some t => match Nat.blt t C.n with
              | true => tyK o fun ty => putK t d ty e fun e' => run K C n ps' (.r full l :: k) e' s'
              | false => ⟨ps, .r full (o :: l) :: k, .nrm, e, s⟩
            | none => run K C n ps' (.r full l :: k) e s'
          | none => ⟨ps, .r full (o :: l) :: k, .nrm, e, s⟩
        | some false => match o.dst with
          | some t => match Nat.blt t C.n with
            | true => run K C n ps (.r full l :: k) ((t, .tup []) :: e) s
            | false => ⟨ps, .r full (o :: l) :: k, .nrm, e, s⟩
          | none => run K C n ps (.r full l :: k) e s
        | none => ⟨ps, .r full (o :: l) :: k, .nrm, e, s⟩
    | .o full ts ord :: k => match ord with
      | [] => run K C n ps k e s
      | (i, b) :: ord => match full[i]? with
        | some o => match wants full e o with
          | some true => match mayO e ts o b with
            | true => match opS K C e s o ps with
              | some ⟨ps', d, s'⟩ => match okB full i b ord with
                | true => match o.dst with
                  | some t => match Nat.blt t C.n with
                    | true => tyK o fun ty => putK t d ty e fun e' => run K C n ps' (.o full ts ord :: k) e' s'
                    | false => ⟨ps, .o full ts ((i, b) :: ord) :: k, .nrm, e, s⟩
                  | none => run K C n ps' (.o full ts ord :: k) e s'
                | false => ⟨ps, .o full ts ((i, b) :: ord) :: k, .nrm, e, s⟩
              | none => ⟨ps, .o full ts ((i, b) :: ord) :: k, .nrm, e, s⟩
            | false => ⟨ps, .o full ts ((i, b) :: ord) :: k, .nrm, e, s⟩
          | some false => match okB full i b ord with
            | true => match o.dst with
              | some t => match Nat.blt t C.n with
                | true => run K C n ps (.o full ts ord :: k) ((t, .tup []) :: e) s
                | false => ⟨ps, .o full ts ((i, b) :: ord) :: k, .nrm, e, s⟩
              | none => run K C n ps (.o full ts ord :: k) e s
            | false => ⟨ps, .o full ts ((i, b) :: ord) :: k, .nrm, e, s⟩
          | none => ⟨ps, .o full ts ((i, b) :: ord) :: k, .nrm, e, s⟩
        | none => ⟨ps, .o full ts ((i, b) :: ord) :: k, .nrm, e, s⟩
    | .c c :: k => match c with
      | .skip => run K C n ps k e s
      | .seq a b => run K C n ps (.c a :: .c b :: k) e s
      | .region id ⟨l⟩ false => run K C n ps (.r l l :: k) e s
      | .block id c => run K C n ps (.c c :: .b id :: k) e s
      | .cond (.tmp t) a b => match getD e t with
        | .kb _ true => run K C n ps (.c a :: k) e s
        | .kb _ false => run K C n ps (.c b :: k) e s
        | _ => ⟨ps, .c c :: k, .nrm, e, s⟩
      | .ret => ⟨ps, [], .ret, e, s⟩
      | .exit id => match unw id k with
        | some k' => run K C n ps k' e s
        | none => ⟨ps, [], .ext id, e, s⟩
      | c => ⟨ps, .c c :: k, .nrm, e, s⟩

section
variable {C : Cx} {env : Env} {σ : List Blk} {Q : Post}

theorem VX_ret : ∀ {k : List It} {e s}, Q .ret e s → VX C Q k .ret e s
  | [], _, _, h => h
  | .c _ :: k, _, _, h => VX_ret (k := k) h
  | .r _ _ :: k, _, _, h => VX_ret (k := k) h
  | .o _ _ _ :: k, _, _, h => VX_ret (k := k) h
  | .b _ :: k, _, _, h => VX_ret (k := k) h
theorem VX_unw {id : Nat} : ∀ {k k' : List It} {e s}, unw id k = some k' → VX C Q k' .nrm e s → VX C Q k (.ext id) e s
  | [], _, _, _, h, _ => by cases h
  | .b j :: k, k', e, s, h, hv => by
    simp only [unw] at h
    simp only [VX]
    cases hb : Nat.beq id j with
    | true => rw [hb] at h; cases h; exact hv
    | false => rw [hb] at h; exact VX_unw h hv
  | .c _ :: k, k', e, s, h, hv => VX_unw (k := k) (by simpa only [unw] using h) hv
  | .r _ _ :: k, k', e, s, h, hv => VX_unw (k := k) (by simpa only [unw] using h) hv
  | .o _ _ _ :: k, k', e, s, h, hv => VX_unw (k := k) (by simpa only [unw] using h) hv
theorem VX_unw0 {id : Nat} : ∀ {k : List It} {e s}, unw id k = none → Q (.ext id) e s → VX C Q k (.ext id) e s
  | [], _, _, _, hv => hv
  | .b j :: k, e, s, h, hv => by
    simp only [unw] at h
    simp only [VX]
    cases hb : Nat.beq id j with
    | true => rw [hb] at h; cases h
    | false => rw [hb] at h; exact VX_unw0 h hv
  | .c _ :: k, e, s, h, hv => VX_unw0 (k := k) (by simpa only [unw] using h) hv
  | .r _ _ :: k, e, s, h, hv => VX_unw0 (k := k) (by simpa only [unw] using h) hv
  | .o _ _ _ :: k, e, s, h, hv => VX_unw0 (k := k) (by simpa only [unw] using h) hv

theorem wants_false_put {l : List Oper} {o : Oper} {rest : List Oper} (hw : wants l env o = some false) (hn : dstOk C.n o.dst = true)
    (h : VL C l.toArray rest (putD env o.dst (.tup [])) σ Q) : VL C l.toArray (o :: rest) env σ Q := by
  intro H β a w hr he hd
  unfold wpList
  rw [wants_rel he hw]
  have hd' : (a.put o.dst undef).defers = [] := by cases o.dst <;> exact hd
  exact h H β (a.put o.dst undef) w hr (he.put .undef hn) hd'

theorem VL_wants {l : List Oper} {o : Oper} {rest : List Oper} {R : D → List Blk → Prop} (hw : wants l env o = some true) (hn : dstOk C.n o.dst = true)
    (h : OpV C o env σ R) (k : ∀ d σ', R d σ' → VL C l.toArray rest (putD env o.dst d) σ' Q) : VL C l.toArray (o :: rest) env σ Q :=
  VL_cons_wanted hn (fun H β a he => wants_rel he hw) h k

theorem VO_step {l : List Oper} {i : Nat} {b : Bool} {o : Oper} {ts : List Nat} {rest : List (Nat × Bool)} {r : OS} (hi : l[i]? = some o) (hw : wants l env o = some true) (hn : dstOk C.n o.dst = true) (hm : mayO env ts o b = true)
    (h2 : isCall o = false → OpOk C o env σ ⟨True, r.d, r.s⟩) (h3 : isCall o = true → ∀ ts, OpF C o env σ ts (fun d s => d = r.d ∧ s = r.s)) (hk : VO C l ts rest (putD env o.dst r.d) r.s Q) (hal : b = false → aloneB l ((i, b) :: rest) = true) : VO C l ts ((i, b) :: rest) env σ Q := by
  unfold mayO at hm
  split at hm
  · rename_i hval
    have hrs' : ∀ j ∈ rsOf env o.op, j ∉ ts := fun j hj hc => by
      have := List.all_eq_true.1 hm j hj
      simp [hc] at this
    exact VO_take hi hw hn (h2 (isVal_call hval)) hval hrs' hk b hal
  · simp only [Bool.and_eq_true] at hm
    have hb : b = false := by simpa using hm.2
    subst hb
    exact VO_one hi hw hn (h3 hm.1 ts) (fun d1 s1 ⟨a1, a2⟩ => by subst a1; subst a2; exact hk) (hal rfl)

theorem run_ok {K : Kit} (hK : KitOk C.P C.tb K) (hC : Ok C) : ∀ (n : Nat) (ps : List Prop) (k : List It) (e : Env) (s : List Blk) (r : Out), run K C n ps k e s = r →
    allP r.ps → VX C Q r.k r.x r.e r.s → allP ps ∧ VX C Q k .nrm e s := by
  intro n
  induction n with
  | zero => intro ps k e s r hr hp hv; subst hr; exact ⟨hp, hv⟩
  | succ n ih =>
    intro ps k e s r hr hp hv
    unfold run at hr
    split at hr
    · subst hr; exact ⟨hp, hv⟩
    · rename_i id k; exact ih ps k e s r hr hp hv
    · rename_i full l k
      split at hr
      · obtain ⟨h1, h2⟩ := ih _ _ _ _ _ hr hp hv; exact ⟨h1, VL_nil h2⟩
      · rename_i o l
        split at hr
        · rename_i hw
          split at hr
          · rename_i ps' d s' hop
            split at hr
            · rename_i t ht
              split at hr
              · rename_i hlt
                rw [tyK_eq, putK_eq] at hr
                obtain ⟨h1, h2⟩ := ih _ _ _ _ _ hr hp hv
                obtain ⟨h3, h4⟩ := opS_v hK hC hop h1
                refine ⟨h3, VL_wants hw (by simp [dstOk, ht, hlt]) h4 fun d1 s1 ⟨a1, a2⟩ => ?_⟩
                subst a1; subst a2; rw [ht]; exact h2
              · subst hr; exact ⟨hp, hv⟩
            · rename_i ht
              obtain ⟨h1, h2⟩ := ih _ _ _ _ _ hr hp hv
              obtain ⟨h3, h4⟩ := opS_v hK hC hop h1
              refine ⟨h3, VL_wants hw (by simp [dstOk, ht]) h4 fun d1 s1 ⟨a1, a2⟩ => ?_⟩
              subst a1; subst a2; rw [ht]; exact h2
          · subst hr; exact ⟨hp, hv⟩
        · rename_i hw
          split at hr
          · rename_i t ht
            split at hr
            · rename_i hlt
              obtain ⟨h1, h2⟩ := ih _ _ _ _ _ hr hp hv
              exact ⟨h1, wants_false_put hw (by simp [dstOk, ht, hlt]) (by rw [ht]; exact h2)⟩
            · subst hr; exact ⟨hp, hv⟩
          · rename_i ht
            obtain ⟨h1, h2⟩ := ih _ _ _ _ _ hr hp hv
            exact ⟨h1, wants_false_put hw (by simp [dstOk, ht]) (by rw [ht]; exact h2)⟩
        · subst hr; exact ⟨hp, hv⟩
    · rename_i full ts ord k
      split at hr
      · obtain ⟨h1, h2⟩ := ih _ _ _ _ _ hr hp hv; exact ⟨h1, VO_nil h2⟩
      · rename_i i b ord
        split at hr
        · rename_i o hi
          split at hr
          · rename_i hw
            split at hr
            · rename_i hm
              split at hr
              · rename_i ps' d s' hop
                split at hr
                · rename_i hob
                  split at hr
                  · rename_i t ht
                    split at hr
                    · rename_i hlt
                      rw [tyK_eq, putK_eq] at hr
                      obtain ⟨h1, h2⟩ := ih _ _ _ _ _ hr hp hv
                      obtain ⟨h3, h4, h5⟩ := opS_ok hK hC hop h1
                      exact ⟨h3, VO_step hi hw (by simp [dstOk, ht, hlt]) hm h4 h5 (by rw [ht]; exact h2) (okB_al hob)⟩
                    · subst hr; exact ⟨hp, hv⟩
                  · rename_i ht
                    obtain ⟨h1, h2⟩ := ih _ _ _ _ _ hr hp hv
                    obtain ⟨h3, h4, h5⟩ := opS_ok hK hC hop h1
                    exact ⟨h3, VO_step hi hw (by simp [dstOk, ht]) hm h4 h5 (by rw [ht]; exact h2) (okB_al hob)⟩
                · subst hr; exact ⟨hp, hv⟩
              · subst hr; exact ⟨hp, hv⟩
            · subst hr; exact ⟨hp, hv⟩
          · rename_i hw
            split at hr
            · rename_i hob
              split at hr
              · rename_i t ht
                split at hr
                · rename_i hlt
                  obtain ⟨h1, h2⟩ := ih _ _ _ _ _ hr hp hv
                  exact ⟨h1, VO_skip hi hw (by simp [dstOk, ht, hlt]) (by rw [ht]; exact h2) b (okB_al hob)⟩
                · subst hr; exact ⟨hp, hv⟩
              · rename_i ht
                obtain ⟨h1, h2⟩ := ih _ _ _ _ _ hr hp hv
                exact ⟨h1, VO_skip hi hw (by simp [dstOk, ht]) (by rw [ht]; exact h2) b (okB_al hob)⟩
            · subst hr; exact ⟨hp, hv⟩
          · subst hr; exact ⟨hp, hv⟩
        · subst hr; exact ⟨hp, hv⟩
    · rename_i c k
      split at hr
      · obtain ⟨h1, h2⟩ := ih _ _ _ _ _ hr hp hv; exact ⟨h1, V_skip h2⟩
      · obtain ⟨h1, h2⟩ := ih _ _ _ _ _ hr hp hv
        refine ⟨h1, V_seq (V.mono h2 fun x e s hx => ?_)⟩
        cases x <;> exact hx
      · obtain ⟨h1, h2⟩ := ih _ _ _ _ _ hr hp hv; exact ⟨h1, V_region h2⟩
      · rename_i id c
        obtain ⟨h1, h2⟩ := ih _ _ _ _ _ hr hp hv
        refine ⟨h1, V_block (V.mono h2 fun x e s hx => ?_)⟩
        cases x with
        | nrm => exact hx
        | ret => exact hx
        | ext j =>
          simp only [VX] at hx
          simp only [blockP]
          by_cases hj : j = id
          · subst hj; simp only [Nat.beq_refl] at hx; simp only [if_true]; exact hx
          · have : Nat.beq j id = false := by
              cases hb : Nat.beq j id with
              | false => rfl
              | true => exact absurd (Nat.eq_of_beq_eq_true hb) hj
            simp only [this] at hx; simp only [if_neg hj]; exact hx
      · rename_i t a b
        split at hr
        · rename_i ty ht
          obtain ⟨h1, h2⟩ := ih _ _ _ _ _ hr hp hv
          exact ⟨h1, V_cond (b := true) (by rw [ht]; rfl) (fun _ => h2) (fun h => by cases h)⟩
        · rename_i ty ht
          obtain ⟨h1, h2⟩ := ih _ _ _ _ _ hr hp hv
          exact ⟨h1, V_cond (b := false) (by rw [ht]; rfl) (fun h => by cases h) (fun _ => h2)⟩
        · subst hr; exact ⟨hp, hv⟩
      · subst hr; exact ⟨hp, V_ret (VX_ret hv)⟩
      · rename_i id
        split at hr
        · rename_i k' hk
          obtain ⟨h1, h2⟩ := ih _ _ _ _ _ hr hp hv
          exact ⟨h1, V_exit (VX_unw hk h2)⟩
        · rename_i hk; subst hr; exact ⟨hp, V_exit (VX_unw0 hk hv)⟩
      · subst hr; exact ⟨hp, hv⟩

theorem VX_run {K : Kit} (n : Nat) (hK : KitOk C.P C.tb K) (hC : Ok C) {k k' : List It} {e e' : Env} {s s' : List Blk} {x : X} {ps : List Prop} (h : run K C n [] k e s = ⟨ps, k', x, e', s'⟩) (hp : allP ps)
    (hv : VX C Q k' x e' s') : VX C Q k .nrm e s := (run_ok hK hC n [] k e s _ h hp hv).2
theorem V_of_VX {c : Code} (h : VX C Q [.c c] .nrm env σ) : V C c env σ Q := h.mono fun x e s hx => hx

def splits : List It → Bool
  | .c _ :: _ | .r _ _ :: _ | .o _ _ _ :: _ => true
  | _ => false
/-- What a temporary's datum is besides. -/
theorem VX_put {k : List It} (t : Nat) {d : D} (hk : splits k = true) (hd : ∀ H β v, DRel C.tb H β σ v (getD env t) → DRel C.tb H β σ v d) (h : VX C Q k .nrm ((t, d) :: env) σ) : VX C Q k .nrm env σ := by
  match k, hk with
  | .c code :: k, _ => exact fun H β a w hr he hdf => h H β a w hr (he.shadow fun v hv => hd H β v hv) hdf
  | .r full l :: k, _ => exact fun H β a w hr he hdf => h H β a w hr (he.shadow fun v hv => hd H β v hv) hdf
  | .o full ts ord :: k, _ => exact fun listed h1 h2 h3 h4 H β a w hr he hdf => h listed h1 h2 h3 h4 H β a w hr (he.shadow fun v hv => hd H β v hv) hdf
/-- A truth in a temporary. -/
theorem VX_split {k : List It} (t : Nat) {ty : TypeId} {b : Bool} (hk : splits k = true) (hb : getD env t = .t ty (.e (.bool b)))
    (h1 : b = true → VX C Q k .nrm ((t, .kb ty true) :: env) σ) (h0 : b = false → VX C Q k .nrm ((t, .kb ty false) :: env) σ) : VX C Q k .nrm env σ := by
  have key : ∀ H β v, DRel C.tb H β σ v (getD env t) → DRel C.tb H β σ v (.kb ty b) := fun H β v hv => by
    rw [hb] at hv
    have := boolAny_rel hv rfl
    subst this
    cases hv with
    | t a c => cases c with
      | e r => cases r with
        | bool hc => exact .kb hc
  cases b with
  | true => exact VX_put t hk key (h1 rfl)
  | false => exact VX_put t hk key (h0 rfl)
/-- An operation by its own rule. -/
theorem VX_op {k : List It} {full l : List Oper} {o : Oper} {R : D → List Blk → Prop} (hw : wants full env o = some true) (hn : dstOk C.n o.dst = true) (ho : OpV C o env σ R)
    (h : ∀ d s, R d s → VX C Q (.r full l :: k) .nrm (putD env o.dst d) s) : VX C Q (.r full (o :: l) :: k) .nrm env σ := VL_wants hw hn ho h
theorem VX_opO {k : List It} {full : List Oper} {ts : List Nat} {i : Nat} {ord : List (Nat × Bool)} {o : Oper} {R : D → List Blk → Prop} (hi : full[i]? = some o) (hw : wants full env o = some true) (hn : dstOk C.n o.dst = true) (ho : OpF C o env σ ts R)
    (h : ∀ d s, R d s → VX C Q (.o full ts ord :: k) .nrm (putD env o.dst d) s) (hal : aloneB full ((i, false) :: ord) = true := by kernel_rfl) : VX C Q (.o full ts ((i, false) :: ord) :: k) .nrm env σ := VO_one hi hw hn ho h hal
theorem VX_draw {k : List It} {id : Nat} {l : List Oper} (ts : List Nat) (r : List (Nat × Bool)) (hm : C.P.follows .mixedOrders = true) (hns : Region.noSelect l.toArray = true)
    (hl : okAll r l.length = true) (hs : okSched l.toArray r (Array.replicate l.toArray.size false) = true) (h : VX C Q (.o l ts r :: k) .nrm env σ) : VX C Q (.c (.region id l.toArray true) :: k) .nrm env σ :=
  V_draw ts r hm hns hl hs h
/-- Two that may come up together, of which neither turns a block that is told of. -/
theorem VX_pair {k : List It} {full : List Oper} {ts : List Nat} {i j : Nat} {oi oj : Oper} {di dj : D} {ord : List (Nat × Bool)} (hi : full[i]? = some oi) (hj : full[j]? = some oj) (hp : pairB full ((i, false) :: (j, false) :: ord) = true)
    (hwi : wants full env oi = some true) (hwj : wants full env oj = some true) (hwi' : wants full (putD env oj.dst dj) oi = some true) (hwj' : wants full (putD env oi.dst di) oj = some true) (hni : dstOk C.n oi.dst = true) (hnj : dstOk C.n oj.dst = true)
    (fi : OpF C oi env σ ts (fun d s => d = di ∧ s = σ)) (fj : OpF C oj env σ ts (fun d s => d = dj ∧ s = σ)) (fi' : OpF C oi (putD env oj.dst dj) σ ts (fun d s => d = di ∧ s = σ)) (fj' : OpF C oj (putD env oi.dst di) σ ts (fun d s => d = dj ∧ s = σ))
    (hsw : ∀ t, getD (putD (putD env oi.dst di) oj.dst dj) t = getD (putD (putD env oj.dst dj) oi.dst di) t)
    (h : VX C Q (.o full ts ord :: k) .nrm (putD (putD env oi.dst di) oj.dst dj) σ) : VX C Q (.o full ts ((i, false) :: (j, false) :: ord) :: k) .nrm env σ :=
  VO_pair hi hj hp hwi hwj hwi' hwj' hni hnj fi fj fi' fj' hsw h
/-- In a region that draws: from here on other blocks may be turned. -/
theorem VX_ts {k : List It} {l : List Oper} {ts : List Nat} {r : List (Nat × Bool)} (ts' : List Nat) (hs' : settled l.toArray l.length r = true) (h : VX C Q (.o l ts' r :: k) .nrm env σ) : VX C Q (.o l ts r :: k) .nrm env σ :=
  VO_ts ts' hs' h
theorem VX_weak {k : List It} {c : Code} {env' : Env} {σ' : List Blk} (hw : Weak C.k0 env' σ' env σ) (h : VX C Q (.c c :: k) .nrm env' σ') : VX C Q (.c c :: k) .nrm env σ := V_weak hw h
/-- A loop: an invariant with a number that every round lowers. -/
theorem VX_loop {k : List It} {c : Code} (I : Nat → Env → List Blk → Prop) (m0 : Nat) (h0 : I m0 env σ)
    (step : ∀ m e s, I m e s → VX C (fun x e1 s1 => match x with
      | .nrm => ∃ m', m' < m ∧ ∃ e' s', Weak C.k0 e' s' e1 s1 ∧ I m' e' s'
      | x => VX C Q k x e1 s1) [.c c] .nrm e s) : VX C Q (.c (.loop c) :: k) .nrm env σ := by
  refine V_loop I m0 h0 fun m e s hI => (V_of_VX (step m e s hI)).mono fun x e1 s1 hx => ?_
  cases x <;> exact hx
theorem VX_brk {k : List It} {id : Nat} (h : VX C Q k .nrm env σ) : VX C Q (.b id :: k) (.ext id) env σ := by
  simp only [VX, Nat.beq_refl]; exact h
/-- What a loop's body must come to. -/
def loopQ (C : Cx) (Q : Post) (k : List It) (cont : Env → List Blk → Prop) : Post := fun x e s => match x with
  | .nrm => cont e s
  | .ext id => VX C Q k (.ext id) e s
  | .ret => VX C Q k .ret e s
theorem loop_brk {k : List It} {id : Nat} {cont : Env → List Blk → Prop} (h : VX C Q k .nrm env σ) : VX C (loopQ C Q (.b id :: k) cont) [] (.ext id) env σ := VX_brk h
theorem loop_ext {k k' : List It} {id : Nat} {cont : Env → List Blk → Prop} (hu : unw id k = some k') (h : VX C Q k' .nrm env σ) : VX C (loopQ C Q k cont) [] (.ext id) env σ := by
  show VX C Q k (.ext id) env σ
  exact VX_unw (k := k) hu h
theorem loop_ret {k : List It} {cont : Env → List Blk → Prop} (h : Q .ret env σ) : VX C (loopQ C Q k cont) [] .ret env σ := VX_ret (k := k) h
theorem loop_nrm {k : List It} {cont : Env → List Blk → Prop} (h : cont env σ) : VX C (loopQ C Q k cont) [] .nrm env σ := h
/-- A loop over states that are told by something. -/
theorem VX_loopA {k : List It} {c : Code} {α : Type _} (inv : α → Prop) (envOf : α → Env) (sOf : α → List Blk) (meas : α → Nat) (a0 : α) (h0 : inv a0) (hw : Weak C.k0 (envOf a0) (sOf a0) env σ)
    (step : ∀ a, inv a → VX C (loopQ C Q k fun e1 s1 => ∃ a', meas a' < meas a ∧ inv a' ∧ Weak C.k0 (envOf a') (sOf a') e1 s1) [.c c] .nrm (envOf a) (sOf a)) : VX C Q (.c (.loop c) :: k) .nrm env σ := by
  refine VX_weak hw (VX_loop (fun m e s => ∃ a, inv a ∧ meas a = m ∧ e = envOf a ∧ s = sOf a) (meas a0) ⟨a0, h0, rfl, rfl, rfl⟩ ?_)
  rintro m e s ⟨a, ha, rfl, rfl, rfl⟩
  refine V.mono (V_of_VX (step a ha)) fun x e1 s1 hx => ?_
  cases x with
  | nrm => obtain ⟨a', h1, h2, h3⟩ := hx; exact ⟨_, h1, _, _, h3, a', h2, rfl, rfl, rfl⟩
  | ext j => exact hx
  | ret => exact hx
end
end Go.Den
/- More operations: the greater and the smaller of numbers; a slice against nil; a nil slice as a row. -/
namespace Go.Den
open Go
set_option linter.unusedSectionVars false
set_option linter.unusedSimpArgs false
set_option linter.unusedVariables false

section
variable {C : Cx} (hC : Ok C) {o : Oper} {env : Env} {σ : List Blk}

theorem opdArg2 {a : Act} {x y : Operand} {b : Builtin} {ts : Array TypeId} (ho : o.op = .call { callee := .builtin b, args := #[x, y], argTypes := ts }) {P : Program} {w : World} :
    (execOp a.eval o).run P w = (builtin b ts o.type (#[x, y].map fun | .const _ => true | _ => false) #[a.eval x, a.eval y]).run P w := by
  simp [execOp, ho, resolve, invoke]
  rfl

theorem Ok_max {x y : Operand} {t t2 : TypeId} {dx dy : D} {k : IntKind} {a b : Int} (ho : o.op = .call { callee := .builtin .max, args := #[x, y], argTypes := #[t, t2] }) (ht : td C.tb t = .int k) (ht2 : td C.tb t2 = .int k) (hr : td C.tb o.type = .int k)
    (hx : opd C.tb env t x = some dx) (hy : opd C.tb env t2 y = some dy) (ha : intAt C.tb t dx = some a) (hb : intAt C.tb t2 dy = some b) : OpOk C o env σ ⟨True, .t o.type (.e (.int (if b > a then b else a))), σ⟩ :=
  OpOk_val fun H β ac w hr' he => by
    obtain ⟨h1, h2⟩ := intAt_rel (opd_rel he hx) ha ht
    obtain ⟨h3, h4⟩ := intAt_rel (opd_rel he hy) hb ht2
    refine ⟨.int k (if b > a then b else a), fun w' hw' => ?_, .mkInt hr (by split <;> assumption)⟩
    rw [opdArg2 ho]
    simp [builtin, Builtin.max_, Builtin.max2, h1, h3]
theorem Ok_min {x y : Operand} {t t2 : TypeId} {dx dy : D} {k : IntKind} {a b : Int} (ho : o.op = .call { callee := .builtin .min, args := #[x, y], argTypes := #[t, t2] }) (ht : td C.tb t = .int k) (ht2 : td C.tb t2 = .int k) (hr : td C.tb o.type = .int k)
    (hx : opd C.tb env t x = some dx) (hy : opd C.tb env t2 y = some dy) (ha : intAt C.tb t dx = some a) (hb : intAt C.tb t2 dy = some b) : OpOk C o env σ ⟨True, .t o.type (.e (.int (if b < a then b else a))), σ⟩ :=
  OpOk_val fun H β ac w hr' he => by
    obtain ⟨h1, h2⟩ := intAt_rel (opd_rel he hx) ha ht
    obtain ⟨h3, h4⟩ := intAt_rel (opd_rel he hy) hb ht2
    refine ⟨.int k (if b < a then b else a), fun w' hw' => ?_, .mkInt hr (by split <;> assumption)⟩
    rw [opdArg2 ho]
    simp [builtin, Builtin.min_, Builtin.min2, h1, h3]

/-- A slice of data against nil: of a slice with elements the answer is known, of another one it is not. -/
theorem OpV_nilS (hC : Ok C) {op : BinOp} {xt yt u : TypeId} {x : Operand} {dx : D} {xs : List E} (ho : o.op = .binOp op xt x (.const (.slice none 0 0)) yt) (hop : op = .eql ∨ op = .neq) (ht : td C.tb xt = .sl u)
    (hx : opd C.tb env xt x = some dx) (hd : slE dx = some xs) (hs : same C.tb (tagD dx) xt = true) :
    OpV C o env σ (fun d s => ∃ b : Bool, (b = true → xs = []) ∧ d = .t C.bt (.e (.bool (if op = .eql then b else !b))) ∧ s = σ) := by
  intro H β a w hr he hd' K Qx hK
  have hrd := (slE_rel (opd_rel he hx) hd).cast hC.tab (same_td hs)
  obtain ⟨ad, c, u', g1, g2, g3, g4⟩ := hrd.sl_inv
  have heq := run_equalIn_slice_nil (P := C.P) w 9999 xt u ad xs.length c (hC.tab.sl ht)
  have hgd : eqGuard op xt x (.const (.slice none 0 0)) (.slice ad xs.length c) (.slice none 0 0) = pure () := by
    unfold eqGuard; split <;> rfl
  have hcv : a.eval (.const (.slice none 0 0)) = .slice none 0 0 := rfl
  have hrun : (execOp a.eval o).run C.P w = .ok (.value (.bool (if op = .eql then ad.isNone else !ad.isNone))) w := by
    rcases hop with rfl | rfl
    · simp [execOp, ho, g1, hcv, hgd, binOp, Op.equal, Op.maxDepth, heq]
    · simp [execOp, ho, g1, hcv, hgd, binOp, Op.equal, Op.maxDepth, heq]
  simp only [Oper.wp, hrun, Oper.upon]
  refine hK _ _ w H β σ ⟨ad.isNone, fun hb => ?_, rfl, rfl⟩ hr (.mkBool hC.bt) (.refl _ _) (.refl _ _ _)
  rcases Nat.eq_zero_or_pos xs.length with h | h
  · exact List.length_eq_zero_iff.1 h
  · obtain ⟨u2, b, off, c2, cs, k1, k2, k3, k4, k5, k6, k7⟩ := hrd.sl_row h
    rw [g1] at k2
    simp only [Value.slice.injEq] at k2
    rw [k2.1] at hb; simp at hb
end

def dop2 (C : Cx) (env : Env) (σ : List Blk) (o : Oper) : Option DR := match o.op with
  | .call { callee := .builtin b, args := ⟨[x, y]⟩, argTypes := ⟨[t, t2]⟩ } => match b with
    | .max => match td C.tb t with
      | .int k => match td C.tb t2 == .int k && td C.tb o.type == .int k with
        | true => match opd C.tb env t x with
          | some dx => match opd C.tb env t2 y with
            | some dy => match intAt C.tb t dx with
              | some a => match intAt C.tb t2 dy with
                | some b => some ⟨True, .t o.type (.e (.int (if b > a then b else a))), σ⟩
                | none => none
              | none => none
            | none => none
          | none => none
        | false => none
      | _ => none
    | .min => match td C.tb t with
      | .int k => match td C.tb t2 == .int k && td C.tb o.type == .int k with
        | true => match opd C.tb env t x with
          | some dx => match opd C.tb env t2 y with
            | some dy => match intAt C.tb t dx with
              | some a => match intAt C.tb t2 dy with
                | some b => some ⟨True, .t o.type (.e (.int (if b < a then b else a))), σ⟩
                | none => none
              | none => none
            | none => none
          | none => none
        | false => none
      | _ => none
    | _ => none
  | _ => none
theorem dop2_ok {C : Cx} (hC : Ok C) {env : Env} {σ : List Blk} {o : Oper} {r : DR} (h : dop2 C env σ o = some r) (hp : r.p) : OpOk C o env σ r := by
  unfold dop2 at h
  split at h
  · rename_i bi x y t t2 ho
    split at h
    · split at h
      · rename_i k hk
        split at h
        · rename_i hh
          simp only [Bool.and_eq_true] at hh
          split at h
          · rename_i dx hx
            split at h
            · rename_i dy hy
              split at h
              · rename_i a ha
                split at h
                · rename_i b hb; cases h; exact Ok_max ho hk (td_beq hh.1) (td_beq hh.2) hx hy ha hb
                · cases h
              · cases h
            · cases h
          · cases h
        · cases h
      · cases h
    · split at h
      · rename_i k hk
        split at h
        · rename_i hh
          simp only [Bool.and_eq_true] at hh
          split at h
          · rename_i dx hx
            split at h
            · rename_i dy hy
              split at h
              · rename_i a ha
                split at h
                · rename_i b hb; cases h; exact Ok_min ho hk (td_beq hh.1) (td_beq hh.2) hx hy ha hb
                · cases h
              · cases h
            · cases h
          · cases h
        · cases h
      · cases h
    · cases h
  · cases h

def kit (bk : List Nat) (fs : List (FuncId × Kon)) : Kit := ⟨bk, dop2, fs⟩
theorem kit_ok {P : Program} {tb : Tab} {fs : List (FuncId × Kon)} (bk : List Nat) (h : kok P tb fs) : KitOk P tb (kit bk fs) := ⟨fun C _ _ hC env σ o r h hp => dop2_ok hC h hp, h⟩

/-! ### a nil slice becomes a row -/
theorem Rel.addRow {tb H β σ w} (h : Rel tb H β σ w) (u : TypeId) : Rel tb H (β ++ [.slice none 0 0]) (σ ++ [.row u 0]) w ∧ Ev H β σ H (β ++ [.slice none 0 0]) (σ ++ [.row u 0]) := by
  have hl := h.len
  have hev : Ev H β σ H (β ++ [.slice none 0 0]) (σ ++ [.row u 0]) := by
    refine ⟨fun _ _ _ e => e, fun i ty x e => ?_, fun i ety n e => ?_, fun i s p e => ?_, fun i ety o xs e => ?_⟩
    all_goals have hi := (List.getElem?_eq_some_iff.1 e).1
    · exact ⟨List.getElem?_append_left (by omega), x, by rw [List.getElem?_append_left hi]; exact e⟩
    · exact ⟨n, by rw [List.getElem?_append_left hi]; exact e, Nat.le_refl _, fun _ => List.getElem?_append_left (by omega)⟩
    · exact ⟨List.getElem?_append_left (by omega), s, p, by rw [List.getElem?_append_left hi]; exact e⟩
    · exact ⟨o, xs, by rw [List.getElem?_append_left hi]; exact e, Nat.le_refl _, fun _ => List.getElem?_append_left (by omega)⟩
  refine ⟨⟨h.pers, h.dom, by simp [hl], fun i k bv hk hv => ?_⟩, hev⟩
  rcases Nat.lt_or_ge i σ.length with hi | hi
  · rw [List.getElem?_append_left hi] at hk
    rw [List.getElem?_append_left (by omega)] at hv
    exact (h.blk i k bv hk hv).mono hev (fun b o e => ⟨e, rfl, fun _ _ => rfl, rfl⟩) (fun b s p _ e => e)
  · have : i = σ.length := by have := (List.getElem?_eq_some_iff.1 hk).1; simp at this; omega
    subst this
    rw [List.getElem?_append_right (Nat.le_refl _)] at hk
    rw [List.getElem?_append_right (by omega)] at hv
    simp [hl] at hk hv
    subst hk; subst hv
    exact .inl ⟨rfl, rfl⟩

theorem DRel.promote {tb : Tab} {H β σ v ty u} (hl : β.length = σ.length) (h : DRel tb H β σ v (.t ty .nsl)) (hu : td tb ty = .sl u) : DRel tb H (β ++ [.slice none 0 0]) (σ ++ [.row u 0]) v (.t ty (.lsl σ.length [])) := by
  cases h with
  | t a b =>
    cases b with
    | nsl c =>
      refine .t a (.lsl hu (.sl0 c) ⟨0, by simp, Nat.le_refl _, fun _ => ?_⟩)
      rw [List.getElem?_append_right (by omega)]; simp [hl]

/-- The temporary t holds a nil slice: from here on it is the newest of a row that is empty. -/
theorem VX_promote {C : Cx} {Q : Post} {env : Env} {σ : List Blk} {k : List It} {c : Code} (t : Nat) {ty u : TypeId} (ht : getD env t = .t ty .nsl) (hu : td C.tb ty = .sl u)
    (h : VX C Q (.c c :: k) .nrm ((t, .t ty (.lsl σ.length [])) :: env) (σ ++ [.row u 0])) : VX C Q (.c c :: k) .nrm env σ := by
  intro H β a w hr he hd
  obtain ⟨hr2, hev⟩ := hr.addRow u
  have he2 := he.mono hev
  have hv := he.get t
  rw [ht] at hv
  have hp := hv.promote hr.len hu
  have he3 : EnvRel C.tb H (β ++ [.slice none 0 0]) (σ ++ [.row u 0]) C.n a ((t, .t ty (.lsl σ.length [])) :: env) := by
    refine ⟨he.1, fun t' => ?_⟩
    have hg : getD ((t, .t ty (.lsl σ.length [])) :: env) t' = match Nat.beq t t' with | true => .t ty (.lsl σ.length []) | false => getD env t' := rfl
    rw [hg]
    cases hb : Nat.beq t t' with
    | true => have := Nat.eq_of_beq_eq_true hb; subst this; exact hp
    | false => exact he2.2 t'
  exact wp_mono (h H _ a w hr2 he3 hd) fun _ _ _ hl => hl.trans (.refl _ _) (hev.kp C.k0)
end Go.Den
namespace Go.Den
open Go
section
variable {C : Cx} {env : Env} {σ : List Blk} {Q : Post}
theorem VX_go (hC : Ok C) {fs : List (FuncId × Kon)} (hk : kok C.P C.tb fs) (n : Nat) (bk : List Nat) {k k' : List It} {e e' : Env} {s s' : List Blk} {x : X} {ps : List Prop} (h : run (kit bk fs) C n [] k e s = ⟨ps, k', x, e', s'⟩) (hp : allP ps)
    (hv : VX C Q k' x e' s') : VX C Q k .nrm e s := VX_run n (kit_ok bk hk) hC h hp hv
/-- A number in a temporary, told otherwise. -/
theorem VX_eq {k : List It} (t : Nat) {d d' : D} (hk : splits k = true) (hd : getD env t = d) (h : d = d') (hv : VX C Q k .nrm ((t, d') :: env) σ) : VX C Q k .nrm env σ :=
  VX_put t hk (fun H β v hv => by rw [hd, h] at hv; exact hv) hv
end
theorem wk0 {k0 : Nat} {env' env : Env} {σ : List Blk} (h0 : Nat.ble k0 σ.length = true) (hb : ∀ k ∈ σ, k.under σ.length = true) (h : leL σ.length env' env) : Weak k0 env' σ env σ :=
  ⟨⟨[], by simp⟩, Nat.le_of_ble_eq_true h0, hb, h⟩
theorem lc {k : Nat} {t : Nat} {d' : D} {e' e : Env} (h : leD k d' (getD e t)) (r : leL k e' e) : leL k ((t, d') :: e') e := ⟨h, r⟩
theorem lnil {k : Nat} {e : Env} : leL k [] e := trivial
theorem ls {k : Nat} {d d' : D} (h : d' = d) (hu : d.under k = true) : leD k d' d := .inr (.inl ⟨h, hu⟩)
theorem li {k : Nat} {ty : TypeId} {a b : Int} (h : a = b) : leD k (.t ty (.e (.int a))) (.t ty (.e (.int b))) := .inr (.inl ⟨by rw [h], rfl⟩)
theorem lsr {k : Nat} {ty ty' : TypeId} {x y : E} (ht : ty = ty') (h : x = y) : leD k (.t ty (.e x)) (.t ty' (.e y)) := .inr (.inl ⟨by rw [h, ht], rfl⟩)
theorem lrow {k : Nat} {ty i xs} : leD k (.t ty (.e (.sl xs))) (.t ty (.lsl i xs)) := .inr (.inr (.inl ⟨ty, i, xs, rfl, rfl⟩))
theorem lnsl {k : Nat} {ty} : leD k (.t ty (.e (.sl []))) (.t ty .nsl) := .inr (.inr (.inr (.inl ⟨ty, rfl, rfl⟩)))
theorem lbsl {k : Nat} {ty xs} : leD k (.t ty (.e (.sl xs))) (.t ty (.bsl xs)) := .inr (.inr (.inr (.inr (.inl ⟨ty, xs, rfl, rfl⟩))))
theorem lkb {k : Nat} {ty b} : leD k (.t ty (.e (.bool b))) (.kb ty b) := .inr (.inr (.inr (.inr (.inr ⟨ty, b, rfl, rfl⟩))))
end Go.Den
/- Calls that hand over blocks, as steps of the machine. -/
namespace Go.Den
open Go
/-! what a call hands back, written out -/
mutual
def normT {α : Type _} : T → (T → α) → α
  | .e x, k => k (.e x)
  | .st xs, k => normTs xs fun ys => k (.st ys)
  | .nsl, k => k .nsl
  | .bsl xs, k => k (.bsl xs)
  | .lsl i xs, k => litK i fun j => k (.lsl j xs)
  | .ptr i p, k => litK i fun j => k (.ptr j p)
  | .fn f c, k => k (.fn f c)
  | .msl i n, k => litK i fun j => k (.msl j n)
def normTs {α : Type _} : List T → (List T → α) → α
  | [], k => k []
  | x :: xs, k => normT x fun y => normTs xs fun ys => k (y :: ys)
end
mutual
theorem normT_eq {α : Type _} : ∀ (x : T) (k : T → α), normT x k = k x
  | .e x, k => rfl
  | .st xs, k => by simp only [normT]; rw [normTs_eq xs]
  | .nsl, k => rfl
  | .bsl xs, k => rfl
  | .lsl i xs, k => by simp only [normT]; rw [litK_eq]
  | .ptr i p, k => by simp only [normT]; rw [litK_eq]
  | .fn f c, k => rfl
  | .msl i n, k => by simp only [normT]; rw [litK_eq]
theorem normTs_eq {α : Type _} : ∀ (xs : List T) (k : List T → α), normTs xs k = k xs
  | [], k => rfl
  | x :: xs, k => by simp only [normTs]; rw [normT_eq x, normTs_eq xs]
end
mutual
def normD {α : Type _} : D → (D → α) → α
  | .t ty x, k => normT x fun y => k (.t ty y)
  | .ptr i p, k => litK i fun j => k (.ptr j p)
  | .el u xs j p, k => k (.el u xs j p)
  | .asl i p u off n, k => litK i fun j => k (.asl j p u off n)
  | .tup xs, k => normDs xs fun ys => k (.tup ys)
  | .it i, k => litK i fun j => k (.it j)
  | .kb ty b, k => k (.kb ty b)
  | .mel u i n j p, k => litK i fun i' => k (.mel u i' n j p)
  | .any, k => k .any
def normDs {α : Type _} : List D → (List D → α) → α
  | [], k => k []
  | x :: xs, k => normD x fun y => normDs xs fun ys => k (y :: ys)
end
mutual
theorem normD_eq {α : Type _} : ∀ (x : D) (k : D → α), normD x k = k x
  | .t ty x, k => by simp only [normD]; rw [normT_eq x]
  | .ptr i p, k => by simp only [normD]; rw [litK_eq]
  | .el u xs j p, k => rfl
  | .asl i p u off n, k => by simp only [normD]; rw [litK_eq]
  | .tup xs, k => by simp only [normD]; rw [normDs_eq xs]
  | .it i, k => by simp only [normD]; rw [litK_eq]
  | .kb ty b, k => rfl
  | .mel u i n j p, k => by simp only [normD]; rw [litK_eq]
  | .any, k => rfl
theorem normDs_eq {α : Type _} : ∀ (xs : List D) (k : List D → α), normDs xs k = k xs
  | [], k => rfl
  | x :: xs, k => by simp only [normDs]; rw [normD_eq x, normDs_eq xs]
end
def normB {α : Type _} : Blk → (Blk → α) → α
  | .tree ty x, k => normT x fun y => k (.tree ty y)
  | .row u n, k => k (.row u n)
  | .iter s p, k => k (.iter s p)
  | .dead, k => k .dead
  | .mrow u o xs, k => k (.mrow u o xs)
theorem normB_eq {α : Type _} (x : Blk) (k : Blk → α) : normB x k = k x := by
  cases x with
  | tree ty x => simp only [normB]; rw [normT_eq x]
  | _ => rfl
def normBs {α : Type _} : List Blk → (List Blk → α) → α
  | [], k => k []
  | x :: xs, k => normB x fun y => normBs xs fun ys => k (y :: ys)
theorem normBs_eq {α : Type _} : ∀ (xs : List Blk) (k : List Blk → α), normBs xs k = k xs
  | [], k => rfl
  | x :: xs, k => by simp only [normBs]; rw [normB_eq x, normBs_eq xs]
def retK (env : Env) (dst : Option Tmp) : Option D → Option Env
  | some d => match dst with
    | some t => normD d fun d' => some ((t, d') :: env)
    | none => some env
  | none => none
theorem retK_eq (env : Env) (dst : Option Tmp) (d : D) : retK env dst (some d) = some (putD env dst d) := by
  cases dst with
  | none => rfl
  | some t => simp only [retK]; rw [normD_eq d]; rfl
section
variable {C : Cx} {env : Env} {σ : List Blk} {Q : Post}
theorem VX_callR (hC : Ok C) {k : List It} {full l : List Oper} {o : Oper} {f : FuncId} {xs : Array Operand} {tys : Array TypeId} (pts : List TypeId) {ds args : List D} {σ0 : List Blk} {Q0 : D → List Blk → Prop} (idx : List Nat)
    (hw : wants full env o = some true) (hn : dstOk C.n o.dst = true) (ho : o.op = .call { callee := .value (.func f), args := xs, argTypes := tys }) (hx : argsD C.tb env pts xs.toList = some ds) (hds : D.rens (idxOf idx) ds = some args) (hp : pickB σ (idxOf idx) idx 0 = some σ0)
    (h : FnG C.P C.tb f σ0 args Q0)
    (hk : ∀ d s, backR σ idx Q0 d s → VX C Q (.r full l :: k) .nrm (putD env o.dst d) s) : VX C Q (.r full (o :: l) :: k) .nrm env σ :=
  VX_op hw hn (OpF_call (ts := idx) hC ho hx hds hp h (by simp [disj])).v hk
theorem VX_callD (hC : Ok C) {k : List It} {full l : List Oper} {o : Oper} {f : FuncId} {xs : Array Operand} {tys : Array TypeId} (pts : List TypeId) {ds args : List D} {σ0 s0 τ s : List Blk} {d0 : D} {env' : Env} (idx : List Nat)
    (hw : wants full env o = some true) (hn : dstOk C.n o.dst = true) (ho : o.op = .call { callee := .value (.func f), args := xs, argTypes := tys }) (hx : argsD C.tb env pts xs.toList = some ds) (hds : D.rens (idxOf idx) ds = some args) (hp : pickB σ (idxOf idx) idx 0 = some σ0)
    (h : FnG C.P C.tb f σ0 args (fun d s => d = d0 ∧ s = s0))
    (hr : retK env o.dst (D.ren (fun j => some (backI idx σ.length j)) d0) = some env') (hb : renBs (fun j => some (backI idx σ.length j)) s0 = some τ) (hs : normBs (putBack σ idx τ) some = some s)
    (hk : VX C Q (.r full l :: k) .nrm env' s) : VX C Q (.r full (o :: l) :: k) .nrm env σ :=
  VX_callR hC pts idx hw hn ho hx hds hp h fun d' s' ⟨d1, s1, τ1, ⟨h1, h2⟩, h3, h4, h5⟩ => by
    subst h1; subst h2
    rw [h3, retK_eq] at hr; cases hr
    rw [hb] at h4; cases h4
    rw [normBs_eq] at hs; cases hs
    subst h5; exact hk
theorem VX_callO (hC : Ok C) {k : List It} {full : List Oper} {ts : List Nat} {i : Nat} {ord : List (Nat × Bool)} {o : Oper} {f : FuncId} {xs : Array Operand} {tys : Array TypeId} (pts : List TypeId) {ds args : List D} {σ0 s0 τ s : List Blk} {d0 : D} {env' : Env} (idx : List Nat)
    (hi : full[i]? = some o) (hw : wants full env o = some true) (hn : dstOk C.n o.dst = true) (ho : o.op = .call { callee := .value (.func f), args := xs, argTypes := tys }) (hx : argsD C.tb env pts xs.toList = some ds) (hds : D.rens (idxOf idx) ds = some args) (hp : pickB σ (idxOf idx) idx 0 = some σ0)
    (hts : disj idx ts = true) (h : FnG C.P C.tb f σ0 args (fun d s => d = d0 ∧ s = s0))
    (hr : retK env o.dst (D.ren (fun j => some (backI idx σ.length j)) d0) = some env') (hb : renBs (fun j => some (backI idx σ.length j)) s0 = some τ) (hs : normBs (putBack σ idx τ) some = some s)
    (hk : VX C Q (.o full ts ord :: k) .nrm env' s) (hal : aloneB full ((i, false) :: ord) = true := by kernel_rfl) : VX C Q (.o full ts ((i, false) :: ord) :: k) .nrm env σ :=
  VX_opO hi hw hn (OpF_call hC ho hx hds hp h hts) (fun d' s' ⟨d1, s1, τ1, ⟨h1, h2⟩, h3, h4, h5⟩ => by
    subst h1; subst h2
    rw [h3, retK_eq] at hr; cases hr
    rw [hb] at h4; cases h4
    rw [normBs_eq] at hs; cases hs
    subst h5; exact hk) hal
/-- A truth that is known. -/
theorem VX_known {k : List It} (t : Nat) (b' : Bool) {ty : TypeId} {b : Bool} (hk : splits k = true) (hb : getD env t = .t ty (.e (.bool b))) (h : b = b') (hv : VX C Q k .nrm ((t, .kb ty b') :: env) σ) : VX C Q k .nrm env σ := by
  subst h
  cases b with
  | true => exact VX_split t hk hb (fun _ => hv) (fun h => by cases h)
  | false => exact VX_split t hk hb (fun h => by cases h) (fun _ => hv)
end
end Go.Den
