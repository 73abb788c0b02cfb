/- Functions that hold variables; functions without a body. -/
import Derived.Test.YtgdfegmdjdnbdaaDenIter
namespace Go.Den
open Go
set_option linter.unusedSectionVars false
set_option linter.unusedSimpArgs false
set_option linter.unusedVariables false

/-- The variables that a function value holds. -/
def capsOf (env : Env) : List Operand → Option (List (Nat × List Nat))
  | [] => some []
  | .tmp t :: r => match getD env t with
    | .ptr i p => match capsOf env r with
      | some c => some ((i, p) :: c)
      | none => none
    | _ => none
  | _ :: _ => none
def capD (c : List (Nat × List Nat)) : List D := c.map fun q => D.ptr q.1 q.2

section
variable {C : Cx} (hC : Ok C) {o : Oper} {env : Env} {σ : List Blk}

theorem capsOf_rel {H β n a} (he : EnvRel C.tb H β σ n a env) : ∀ {l : List Operand} {c : List (Nat × List Nat)}, capsOf env l = some c →
    ∃ as : List Addr, l.map a.eval = as.map (fun x => Value.pointer (some x)) ∧ as.length = c.length ∧ ∀ (i : Nat) (q : Nat × List Nat) (x : Addr), c[i]? = some q → as[i]? = some x → PtrAt C.tb β σ q.1 q.2 x
  | [], c, h => by simp [capsOf] at h; subst h; exact ⟨[], rfl, rfl, fun i q x hq => by simp at hq⟩
  | .tmp t :: r, c, h => by
    simp only [capsOf] at h
    split at h
    · rename_i i p ht
      split at h
      · rename_i c' hc'
        cases h
        obtain ⟨as, h1, h2, h3⟩ := capsOf_rel he hc'
        have hv := he.get t
        rw [ht] at hv
        obtain ⟨ad, hve, hp⟩ := hv.ptr_inv
        refine ⟨ad :: as, by simp only [List.map_cons, h1]; congr 1, by simp [h2], fun j q x hq hx => ?_⟩
        cases j with
        | zero => simp at hq hx; subst hq; subst hx; exact hp
        | succ j => exact h3 j q x (by simpa using hq) (by simpa using hx)
      · cases h
    · cases h
  | .const _ :: _, _, h => by simp [capsOf] at h
  | .global _ :: _, _, h => by simp [capsOf] at h
  | .func _ :: _, _, h => by simp [capsOf] at h

/-- A function value that holds variables. -/
theorem OpV_makeFunc {f : FuncId} {cs : Array Operand} {c : List (Nat × List Nat)} (ho : o.op = .makeFunc (.func f) #[] cs) (hr : td C.tb o.type = .fn) (hc : capsOf env cs.toList = some c) :
    OpV C o env σ (fun d s => d = .t o.type (.fn f c) ∧ s = σ) := by
  intro H β a w hrel he hd K Qx hK
  obtain ⟨as, h1, h2, h3⟩ := capsOf_rel he hc
  have hcs : cs.map a.eval = (as.map fun x => Value.pointer (some x)).toArray := by
    apply Array.ext'
    simp [← h1]
  have hex : (execOp a.eval o).run C.P w = .ok (.value (.func (.func f) #[] (as.map fun x => Value.pointer (some x)).toArray)) w := by
    simp [execOp, ho, Instr.makeFunc, hcs]
  simp only [Oper.wp, hex, Oper.upon]
  refine hK _ _ w H β σ ⟨rfl, rfl⟩ hrel ?_ (.refl _ _) (.refl _ _ _)
  exact .t (cs := [_]) (by simp [VC, isAggT, hr]) (.fn hr h2 h3)

include hC in
/-- A call of a function value. -/
theorem OpF_callC {f : FuncId} {xs : Array Operand} {tys : Array TypeId} {pts : List TypeId} {ds args : List D} {σ0 : List Blk} {Q0 : D → List Blk → Prop} {idx ts : List Nat} {t : Nat} {ty : TypeId} {c : List (Nat × List Nat)}
    (ho : o.op = .call { callee := .value (.tmp t), args := xs, argTypes := tys }) (ht : getD env t = .t ty (.fn f c)) (hx : argsD C.tb env pts xs.toList = some ds) (hds : D.rens (idxOf idx) (ds ++ capD c) = some args) (hp : pickB σ (idxOf idx) idx 0 = some σ0)
    (h : FnG C.P C.tb f σ0 args Q0) (hts : disj idx ts = true) : OpF C o env σ ts (backR σ idx Q0) := by
  intro H β a w hr he hd K Qx hK
  obtain ⟨⟨fn, hf, hn, hb⟩, hcall⟩ := h
  obtain ⟨l1, l2, l3⟩ := argsD_rel hC he hx
  have hv := he.get t
  rw [ht] at hv
  obtain ⟨as, hva, hal, hpt⟩ : ∃ as : List Addr, a.tmps.getD t undef = .func (.func f) #[] (as.map fun x => Value.pointer (some x)).toArray ∧ as.length = c.length ∧ ∀ (i : Nat) (q : Nat × List Nat) (x : Addr), c[i]? = some q → as[i]? = some x → PtrAt C.tb β σ q.1 q.2 x := by
    generalize a.tmps.getD t undef = v at hv
    cases hv with
    | t e1 e2 => cases e2 with
      | @fn t0 f0 caps as q1 q2 q3 =>
        have e1' := e1
        simp [VC, isAggT, q1] at e1'
        exact ⟨as, e1'.symm, q2, q3⟩
  let vals : Array Value := xs.map a.eval ++ (as.map fun x => Value.pointer (some x)).toArray
  have hrun : (execOp a.eval o).run C.P w = .ok (.enter f vals) w := by
    have hva' : a.eval (.tmp t) = .func (.func f) #[] (as.map fun x => Value.pointer (some x)).toArray := hva
    have := run_callFunc (P := C.P) (args := vals) (w := w) hf hn hb
    simp only [execOp, ho, resolve, hva', Deferred.ofValue, Sem.run_bind, Sem.run_pure, Result.andThen, invoke]
    rw [show (#[] ++ xs.map a.eval : Array Value) ++ (as.map fun x => Value.pointer (some x)).toArray = vals by simp [vals]]
    exact this
  simp only [Oper.wp, hrun, Oper.upon]
  obtain ⟨hpr, hren⟩ := hr.pick hp
  obtain ⟨d1, d2⟩ := D.rens_get hds
  obtain ⟨p1, p2⟩ := pickB_get hp
  have hargs : ArgsAt C.tb (pickH (idxOf idx) H) (idx.map fun i => β.getD i undef) σ0 vals args := by
    have hxl : xs.size = ds.length := by have : xs.toList.length = ds.length := by rw [l2, l1]
                                         simpa using this
    have hcl : (capD c).length = as.length := by simp [capD, hal]
    refine ⟨by simp only [vals, Array.size_append, Array.size_map, List.size_toArray, List.length_map, d1, List.length_append, hcl, hxl], fun i v d hv hd => ?_⟩
    obtain ⟨x, hx1, hx2⟩ := d2 i d hd
    have hrel : DRel C.tb H β σ v x := by
      rcases Nat.lt_or_ge i ds.length with hi | hi
      · rw [List.getElem?_append_left hi] at hx1
        rw [Array.getElem?_append_left (by simp; omega)] at hv
        simp only [Array.getElem?_map, Option.map_eq_some_iff] at hv
        obtain ⟨y, hy, rfl⟩ := hv
        exact l3 i y x (by simpa using hy) hx1
      · rw [List.getElem?_append_right hi] at hx1
        rw [Array.getElem?_append_right (by simp; omega)] at hv
        have hidx : i - (xs.map a.eval).size = i - ds.length := by simp [hxl]
        rw [hidx] at hv
        simp only [capD, List.getElem?_map, Option.map_eq_some_iff] at hx1
        obtain ⟨q, hq, rfl⟩ := hx1
        have hv' : (as.map fun x => Value.pointer (some x))[i - ds.length]? = some v := by simpa using hv
        simp only [List.getElem?_map, Option.map_eq_some_iff] at hv'
        obtain ⟨ad, had, rfl⟩ := hv'
        exact .ptr (hpt _ q ad hq had)
    exact hrel.ren hren hx2
  have hmine : ∀ b o i, pickH (idxOf idx) H b o = .mine i → i < σ0.length := fun b o i e => by
    obtain ⟨i', _, e2⟩ := pickH_mine.1 e
    rw [p1]; exact (List.getElem?_eq_some_iff.1 (idxOf_get e2)).1
  refine (hcall _ _ w _ hpr hmine hargs).mono ?_
  rintro e w' ⟨v, d0, H', β', σ', rfl, hq, hle, hr', hv', hs, hk⟩
  rw [p1] at hle hk
  obtain ⟨τ, hτ⟩ := renBs_total (f := fun j => backI idx σ.length j) σ'
  obtain ⟨d, hd⟩ := D.ren_total (f := fun j => backI idx σ.length j) d0
  obtain ⟨k1, k2, k3, k4⟩ := hr.back hp hr' hs hk hle hτ
  refine hK v d w' _ _ _ ⟨d0, σ', τ, hq, hd, hτ, rfl⟩ k1 (hv'.ren k4 hd) k2 k3 ?_
  intro b o' u hu hst
  have hlt : b < w.heap.size := by
    rcases hst with ⟨x, hx⟩ | ⟨i, _, hi⟩
    · exact hr.dom b o' (by rw [hx]; simp)
    · exact hr.dom b o' (by rw [hi]; simp)
  have hni : ∀ i, H b o' = .mine i → i ∉ ts → i ∉ idx := fun i _ hi hc => hi (by simpa [disj] using (List.all_eq_true.1 hts i hc))
  have hnm : ∀ j, pickH (idxOf idx) H b o' ≠ .mine j := fun j e => by
    obtain ⟨i, e1, e2⟩ := pickH_mine.1 e
    rcases hst with ⟨x, hx⟩ | ⟨i', hi', hm⟩
    · rw [hx] at e1; cases e1
    · have he1 := hm.symm.trans e1
      cases he1
      exact hni _ hm hi' (List.mem_of_getElem? (idxOf_get e2))
  refine ⟨(hs.cell b hlt o' hnm).trans hu, ?_⟩
  rcases hst with ⟨x, hx⟩ | ⟨i, hi, hm⟩
  · exact .inl ⟨x, k3.pers _ _ _ hx⟩
  · refine .inr ⟨i, hi, ?_⟩
    have hx : idxOf idx i = none := by
      cases hx : idxOf idx i with
      | none => rfl
      | some q => exact absurd (List.mem_of_getElem? (idxOf_get hx)) (hni i hm hi)
    have h0 : pickH (idxOf idx) H b o' = .none := by
      unfold pickH; rw [hm]; simp [hx]
    have h1 : H' b o' = .none := by rw [hs.gh b hlt o' hnm, h0]
    simp [backH, h1, hm, hx]
end

section
variable {C : Cx} {env : Env} {σ : List Blk} {Q : Post}
theorem VX_callC (hC : Ok C) {k : List It} {full l : List Oper} {o : Oper} {f : FuncId} {xs : Array Operand} {tys : Array TypeId} {t : Nat} {ty : TypeId} {c : List (Nat × List Nat)} (pts : List TypeId) {ds args : List D} {σ0 s0 τ s : List Blk} {d0 : D} {env' : Env} (idx : List Nat)
    (hw : wants full env o = some true) (hn : dstOk C.n o.dst = true) (ho : o.op = .call { callee := .value (.tmp t), args := xs, argTypes := tys }) (ht : getD env t = .t ty (.fn f c)) (hx : argsD C.tb env pts xs.toList = some ds) (hds : D.rens (idxOf idx) (ds ++ capD c) = some args) (hp : pickB σ (idxOf idx) idx 0 = some σ0)
    (h : FnG C.P C.tb f σ0 args (fun d s => d = d0 ∧ s = s0))
    (hr : retK env o.dst (D.ren (fun j => some (backI idx σ.length j)) d0) = some env') (hb : renBs (fun j => some (backI idx σ.length j)) s0 = some τ) (hs : normBs (putBack σ idx τ) some = some s)
    (hk : VX C Q (.r full l :: k) .nrm env' s) : VX C Q (.r full (o :: l) :: k) .nrm env σ :=
  VX_op hw hn (OpF_callC (ts := idx) hC ho ht hx hds hp h (by simp [disj])).v fun d' s' ⟨d1, s1, τ1, ⟨h1, h2⟩, h3, h4, h5⟩ => by
    subst h1; subst h2
    rw [h3, retK_eq] at hr; cases hr
    rw [hb] at h4; cases h4
    rw [normBs_eq] at hs; cases hs
    subst h5; exact hk
theorem VX_makeFunc {k : List It} {full l : List Oper} {o : Oper} {f : FuncId} {cs : Array Operand} {c : List (Nat × List Nat)} {q : Nat} (hw : wants full env o = some true) (hn : dstOk C.n o.dst = true) (ho : o.op = .makeFunc (.func f) #[] cs) (hr : td C.tb o.type = .fn) (hc : capsOf env cs.toList = some c) (hq : o.dst = some q)
    (h : VX C Q (.r full l :: k) .nrm ((q, .t o.type (.fn f c)) :: env) σ) : VX C Q (.r full (o :: l) :: k) .nrm env σ :=
  VX_op hw hn (OpV_makeFunc ho hr hc) fun d s ⟨h1, h2⟩ => by subst h1; subst h2; rw [hq]; exact h
/-- A sum of two numbers, with its carry. -/
theorem VX_add64 {k : List It} {full l : List Oper} {o : Oper} {f : FuncId} {x y : Nat} {t : TypeId} {tys : Array TypeId} {p q r : Nat} (hC : Ok C) (hw : wants full env o = some true) (hn : dstOk C.n o.dst = true)
    (ho : o.op = .call { callee := .value (.func f), args := #[.tmp p, .tmp q, .const (.int .u64 0)], argTypes := tys }) (ht : td C.tb t = .int .u64) (hp : getD env p = .t t (.e (.int x))) (hq : getD env q = .t t (.e (.int y))) (hr : o.dst = some r) (hx : x < 18446744073709551616) (hy : y < 18446744073709551616)
    (hf : ∀ (x y : Nat) (w : World), (callFunc f #[.int .u64 x, .int .u64 y, .int .u64 0]).run C.P w = .ok (.value (.tuple #[.int .u64 ((x + y) % 18446744073709551616 : Nat), .int .u64 ((x + y) / 18446744073709551616 : Nat)])) w)
    (h : VX C Q (.r full l :: k) .nrm ((r, .tup [.t t (.e (.int ((x + y) % 18446744073709551616 : Nat))), .t t (.e (.int ((x + y) / 18446744073709551616 : Nat)))]) :: env) σ) : VX C Q (.r full (o :: l) :: k) .nrm env σ := by
  refine VX_op hw hn (R := fun d s => d = .tup [.t t (.e (.int ((x + y) % 18446744073709551616 : Nat))), .t t (.e (.int ((x + y) / 18446744073709551616 : Nat)))] ∧ s = σ) ?_ fun d s ⟨h1, h2⟩ => by subst h1; subst h2; rw [hr]; exact h
  intro H β a w hrel he hd K Qx hK
  have v1 := he.get p
  rw [hp] at v1
  have v2 := he.get q
  rw [hq] at v2
  obtain ⟨e1, _⟩ := intAt_rel (ty := t) (n := x) v1 (by simp [intAt, same]) ht
  obtain ⟨e2, _⟩ := intAt_rel (ty := t) (n := y) v2 (by simp [intAt, same]) ht
  have hex : (execOp a.eval o).run C.P w = .ok (.value (.tuple #[.int .u64 ((x + y) % 18446744073709551616 : Nat), .int .u64 ((x + y) / 18446744073709551616 : Nat)])) w := by
    have := hf x y w
    have e1' : a.eval (.tmp p) = .int .u64 x := e1
    have e2' : a.eval (.tmp q) = .int .u64 y := e2
    have e3 : a.eval (.const (.int .u64 0)) = .int .u64 0 := rfl
    have e4 : a.eval (.func f) = .func (.func f) #[] #[] := rfl
    simp only [execOp, ho, resolve, e4, Deferred.ofValue, Sem.run_bind, Sem.run_pure, Result.andThen, invoke]
    simp [e1', e2', e3]
    simpa using this
  simp only [Oper.wp, hex, Oper.upon]
  refine hK _ _ w H β σ ⟨rfl, rfl⟩ hrel (.tup rfl fun i v d hv hd => ?_) (.refl _ _) (.refl _ _ _)
  match i with
  | 0 => cases hd; simp at hv; subst hv; exact .mkInt ht (inR_wrap (by simp [inR]; omega))
  | 1 => cases hd; simp at hv; subst hv; exact .mkInt ht (inR_wrap (by simp [inR]; omega))
  | i + 2 => simp at hd
end
end Go.Den
