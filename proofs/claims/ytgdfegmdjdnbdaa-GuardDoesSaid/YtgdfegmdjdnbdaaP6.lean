/- The calculus and the walks, part 6: DenClos, Q34Tb, Q34A, Q34B, Q34N, DenFrm, DenGlob, DenKit4. -/
import Derived.Test.YtgdfegmdjdnbdaaP5
import Derived.Test.YtgdfegmdjdnbdaaProg
/- Functions that hold variables; functions without a body. -/
namespace Go.Den
open Go
set_option linter.unusedSectionVars false
set_option linter.unusedSimpArgs false
set_option linter.unusedVariables false

/-- The variables that a function value holds. -/
def capsOf (env : Env) : List Operand → Option (List (Nat × List Nat))
  | [] => some []
  | .tmp t :: r => match getD env t with
    | .ptr i p => match capsOf env r with
      | some c => some ((i, p) :: c)
      | none => none
    | _ => none
  | _ :: _ => none
def capD (c : List (Nat × List Nat)) : List D := c.map fun q => D.ptr q.1 q.2

section
variable {C : Cx} (hC : Ok C) {o : Oper} {env : Env} {σ : List Blk}

theorem capsOf_rel {H β n a} (he : EnvRel C.tb H β σ n a env) : ∀ {l : List Operand} {c : List (Nat × List Nat)}, capsOf env l = some c →
    ∃ ads : List Addr, l.map a.eval = ads.map (fun x => Value.pointer (some x)) ∧ ads.length = c.length ∧ ∀ (i : Nat) (q : Nat × List Nat) (x : Addr), c[i]? = some q → ads[i]? = some x → PtrAt C.tb β σ q.1 q.2 x
  | [], c, h => by simp [capsOf] at h; subst h; exact ⟨[], rfl, rfl, fun i q x hq => by simp at hq⟩
  | .tmp t :: r, c, h => by
    simp only [capsOf] at h
    split at h
    · rename_i i p ht
      split at h
      · rename_i c' hc'
        cases h
        obtain ⟨ads, h1, h2, h3⟩ := capsOf_rel he hc'
        have hv := he.get t
        rw [ht] at hv
        obtain ⟨ad, hve, hp⟩ := hv.ptr_inv
        refine ⟨ad :: ads, by simp only [List.map_cons, h1]; congr 1, by simp [h2], fun j q x hq hx => ?_⟩
        cases j with
        | zero => simp at hq hx; subst hq; subst hx; exact hp
        | succ j => exact h3 j q x (by simpa using hq) (by simpa using hx)
      · cases h
    · cases h
  | .const _ :: _, _, h => by simp [capsOf] at h
  | .global _ :: _, _, h => by simp [capsOf] at h
  | .func _ :: _, _, h => by simp [capsOf] at h

/-- A function value that holds variables. -/
theorem OpV_makeFunc {f : FuncId} {cs : Array Operand} {c : List (Nat × List Nat)} (ho : o.op = .makeFunc (.func f) #[] cs) (hr : td C.tb o.type = .fn) (hc : capsOf env cs.toList = some c) :
    OpV C o env σ (fun d s => d = .t o.type (.fn f c) ∧ s = σ) := by
  intro H β a w hrel he hd K Qx hK
  obtain ⟨ads, h1, h2, h3⟩ := capsOf_rel he hc
  have hcs : cs.map a.eval = (ads.map fun x => Value.pointer (some x)).toArray := by
    apply Array.ext'
    simp [← h1]
  have hex : (execOp a.eval o).run C.P w = .ok (.value (.func (.func f) #[] (ads.map fun x => Value.pointer (some x)).toArray)) w := by
    simp [execOp, ho, Instr.makeFunc, hcs]
  simp only [Oper.wp, hex, Oper.upon]
  refine hK _ _ w H β σ ⟨rfl, rfl⟩ hrel ?_ (.refl _ _) (.refl _ _ _)
  exact .t (cs := [_]) (by simp [VC, isAggT, hr]) (.fn hr h2 h3)

include hC in
/-- A call of a function value. -/
theorem OpF_callC {f : FuncId} {xs : Array Operand} {tys : Array TypeId} {pts : List TypeId} {ds args : List D} {σ0 : List Blk} {Q0 : D → List Blk → Prop} {idx ts : List Nat} {t : Nat} {ty : TypeId} {c : List (Nat × List Nat)}
    (ho : o.op = .call { callee := .value (.tmp t), args := xs, argTypes := tys }) (ht : getD env t = .t ty (.fn f c)) (hx : argsD C.tb env pts xs.toList = some ds) (hds : D.rens (idxOf idx) (ds ++ capD c) = some args) (hp : pickB σ (idxOf idx) idx 0 = some σ0)
    (h : FnG C.P C.tb f σ0 args Q0) (hts : disj idx ts = true) : OpF C o env σ ts (backR σ idx Q0) := by
  intro H β a w hr he hd K Qx hK
  obtain ⟨⟨fn, hf, hn, hb⟩, hcall⟩ := h
  obtain ⟨l1, l2, l3⟩ := argsD_rel hC he hx
  have hv := he.get t
  rw [ht] at hv
  obtain ⟨ads, hva, hal, hpt⟩ : ∃ ads : List Addr, a.tmps.getD t undef = .func (.func f) #[] (ads.map fun x => Value.pointer (some x)).toArray ∧ ads.length = c.length ∧ ∀ (i : Nat) (q : Nat × List Nat) (x : Addr), c[i]? = some q → ads[i]? = some x → PtrAt C.tb β σ q.1 q.2 x := by
    generalize a.tmps.getD t undef = v at hv
    cases hv with
    | t e1 e2 => cases e2 with
      | @fn t0 f0 caps ads q1 q2 q3 =>
        have e1' := e1
        simp [VC, isAggT, q1] at e1'
        exact ⟨ads, e1'.symm, q2, q3⟩
  let vals : Array Value := xs.map a.eval ++ (ads.map fun x => Value.pointer (some x)).toArray
  have hrun : (execOp a.eval o).run C.P w = .ok (.enter f vals) w := by
    have hva' : a.eval (.tmp t) = .func (.func f) #[] (ads.map fun x => Value.pointer (some x)).toArray := hva
    have := run_callFunc (P := C.P) (args := vals) (w := w) hf hn hb
    simp only [execOp, ho, resolve, hva', Deferred.ofValue, Sem.run_bind, Sem.run_pure, Result.andThen, invoke]
    rw [show (#[] ++ xs.map a.eval : Array Value) ++ (ads.map fun x => Value.pointer (some x)).toArray = vals by simp [vals]]
    exact this
  simp only [Oper.wp, hrun, Oper.upon]
  obtain ⟨hpr, hren⟩ := hr.pick hp
  obtain ⟨d1, d2⟩ := D.rens_get hds
  obtain ⟨p1, p2⟩ := pickB_get hp
  have hargs : ArgsAt C.tb (pickH (idxOf idx) H) (idx.map fun i => β.getD i undef) σ0 vals args := by
    have hxl : xs.size = ds.length := by have : xs.toList.length = ds.length := by rw [l2, l1]
                                         simpa using this
    have hcl : (capD c).length = ads.length := by simp [capD, hal]
    refine ⟨⟨by simp only [vals, Array.size_append, Array.size_map, List.size_toArray, List.length_map, d1, List.length_append, hcl, hxl], he.1.2.mono fun _ _ _ e => pickH_pers.2 e⟩, fun i v d hv hd => ?_⟩
    obtain ⟨x, hx1, hx2⟩ := d2 i d hd
    have hrel : DRel C.tb H β σ v x := by
      rcases Nat.lt_or_ge i ds.length with hi | hi
      · rw [List.getElem?_append_left hi] at hx1
        rw [Array.getElem?_append_left (by simp; omega)] at hv
        simp only [Array.getElem?_map, Option.map_eq_some_iff] at hv
        obtain ⟨y, hy, rfl⟩ := hv
        exact l3 i y x (by simpa using hy) hx1
      · rw [List.getElem?_append_right hi] at hx1
        rw [Array.getElem?_append_right (by simp; omega)] at hv
        have hidx : i - (xs.map a.eval).size = i - ds.length := by simp [hxl]
        rw [hidx] at hv
        simp only [capD, List.getElem?_map, Option.map_eq_some_iff] at hx1
        obtain ⟨q, hq, rfl⟩ := hx1
        have hv' : (ads.map fun x => Value.pointer (some x))[i - ds.length]? = some v := by simpa using hv
        simp only [List.getElem?_map, Option.map_eq_some_iff] at hv'
        obtain ⟨ad, had, rfl⟩ := hv'
        exact .ptr (hpt _ q ad hq had)
    exact hrel.ren hren hx2
  have hmine : ∀ b o i, pickH (idxOf idx) H b o = .mine i → i < σ0.length := fun b o i e => by
    obtain ⟨i', _, e2⟩ := pickH_mine.1 e
    rw [p1]; exact (List.getElem?_eq_some_iff.1 (idxOf_get e2)).1
  refine (hcall _ _ w _ hpr hmine hargs).mono ?_
  rintro e w' ⟨v, d0, H', β', σ', rfl, hq, hle, hr', hv', hs, hk⟩
  rw [p1] at hle hk
  obtain ⟨τ, hτ⟩ := renBs_total (f := fun j => backI idx σ.length j) σ'
  obtain ⟨d, hd⟩ := D.ren_total (f := fun j => backI idx σ.length j) d0
  obtain ⟨k1, k2, k3, k4⟩ := hr.back hp hr' hs hk hle hτ
  refine hK v d w' _ _ _ ⟨d0, σ', τ, hq, hd, hτ, rfl⟩ k1 (hv'.ren k4 hd) k2 k3 ?_
  intro b o' u hu hst
  have hlt : b < w.heap.size := by
    rcases hst with ⟨x, hx⟩ | ⟨i, _, hi⟩
    · exact hr.dom b o' (by rw [hx]; simp)
    · exact hr.dom b o' (by rw [hi]; simp)
  have hni : ∀ i, H b o' = .mine i → i ∉ ts → i ∉ idx := fun i _ hi hc => hi (by simpa [disj] using (List.all_eq_true.1 hts i hc))
  have hnm : ∀ j, pickH (idxOf idx) H b o' ≠ .mine j := fun j e => by
    obtain ⟨i, e1, e2⟩ := pickH_mine.1 e
    rcases hst with ⟨x, hx⟩ | ⟨i', hi', hm⟩
    · rw [hx] at e1; cases e1
    · have he1 := hm.symm.trans e1
      cases he1
      exact hni _ hm hi' (List.mem_of_getElem? (idxOf_get e2))
  refine ⟨(hs.cell b hlt o' hnm).trans hu, ?_⟩
  rcases hst with ⟨x, hx⟩ | ⟨i, hi, hm⟩
  · exact .inl ⟨x, k3.pers _ _ _ hx⟩
  · refine .inr ⟨i, hi, ?_⟩
    have hx : idxOf idx i = none := by
      cases hx : idxOf idx i with
      | none => rfl
      | some q => exact absurd (List.mem_of_getElem? (idxOf_get hx)) (hni i hm hi)
    have h0 : pickH (idxOf idx) H b o' = .none := by
      unfold pickH; rw [hm]; simp [hx]
    have h1 : H' b o' = .none := by rw [hs.gh b hlt o' hnm, h0]
    simp [backH, h1, hm, hx]
end

section
variable {C : Cx} {env : Env} {σ : List Blk} {Q : Post}
theorem VX_callC (hC : Ok C) {k : List It} {full l : List Oper} {o : Oper} {f : FuncId} {xs : Array Operand} {tys : Array TypeId} {t : Nat} {ty : TypeId} {c : List (Nat × List Nat)} (pts : List TypeId) {ds args : List D} {σ0 s0 τ s : List Blk} {d0 : D} {env' : Env} (idx : List Nat)
    (hw : wants full env o = some true) (hn : dstOk C.n o.dst = true) (ho : o.op = .call { callee := .value (.tmp t), args := xs, argTypes := tys }) (ht : getD env t = .t ty (.fn f c)) (hx : argsD C.tb env pts xs.toList = some ds) (hds : D.rens (idxOf idx) (ds ++ capD c) = some args) (hp : pickB σ (idxOf idx) idx 0 = some σ0)
    (h : FnG C.P C.tb f σ0 args (fun d s => d = d0 ∧ s = s0))
    (hr : retK env o.dst (D.ren (fun j => some (backI idx σ.length j)) d0) = some env') (hb : renBs (fun j => some (backI idx σ.length j)) s0 = some τ) (hs : normBs (putBack σ idx τ) some = some s)
    (hk : VX C Q (.r full l :: k) .nrm env' s) : VX C Q (.r full (o :: l) :: k) .nrm env σ :=
  VX_op hw hn (OpF_callC (ts := idx) hC ho ht hx hds hp h (by simp [disj])).v fun d' s' ⟨d1, s1, τ1, ⟨h1, h2⟩, h3, h4, h5⟩ => by
    subst h1; subst h2
    rw [h3, retK_eq] at hr; cases hr
    rw [hb] at h4; cases h4
    rw [normBs_eq] at hs; cases hs
    subst h5; exact hk
theorem VX_makeFunc {k : List It} {full l : List Oper} {o : Oper} {f : FuncId} {cs : Array Operand} {c : List (Nat × List Nat)} {q : Nat} (hw : wants full env o = some true) (hn : dstOk C.n o.dst = true) (ho : o.op = .makeFunc (.func f) #[] cs) (hr : td C.tb o.type = .fn) (hc : capsOf env cs.toList = some c) (hq : o.dst = some q)
    (h : VX C Q (.r full l :: k) .nrm ((q, .t o.type (.fn f c)) :: env) σ) : VX C Q (.r full (o :: l) :: k) .nrm env σ :=
  VX_op hw hn (OpV_makeFunc ho hr hc) fun d s ⟨h1, h2⟩ => by subst h1; subst h2; rw [hq]; exact h
/-- A sum of two numbers, with its carry. -/
theorem VX_add64 {k : List It} {full l : List Oper} {o : Oper} {f : FuncId} {x y : Nat} {t : TypeId} {tys : Array TypeId} {p q r : Nat} (hC : Ok C) (hw : wants full env o = some true) (hn : dstOk C.n o.dst = true)
    (ho : o.op = .call { callee := .value (.func f), args := #[.tmp p, .tmp q, .const (.int .u64 0)], argTypes := tys }) (ht : td C.tb t = .int .u64) (hp : getD env p = .t t (.e (.int x))) (hq : getD env q = .t t (.e (.int y))) (hr : o.dst = some r) (hx : x < 18446744073709551616) (hy : y < 18446744073709551616)
    (hf : ∀ (x y : Nat) (w : World), (callFunc f #[.int .u64 x, .int .u64 y, .int .u64 0]).run C.P w = .ok (.value (.tuple #[.int .u64 ((x + y) % 18446744073709551616 : Nat), .int .u64 ((x + y) / 18446744073709551616 : Nat)])) w)
    (h : VX C Q (.r full l :: k) .nrm ((r, .tup [.t t (.e (.int ((x + y) % 18446744073709551616 : Nat))), .t t (.e (.int ((x + y) / 18446744073709551616 : Nat)))]) :: env) σ) : VX C Q (.r full (o :: l) :: k) .nrm env σ := by
  refine VX_op hw hn (R := fun d s => d = .tup [.t t (.e (.int ((x + y) % 18446744073709551616 : Nat))), .t t (.e (.int ((x + y) / 18446744073709551616 : Nat)))] ∧ s = σ) ?_ fun d s ⟨h1, h2⟩ => by subst h1; subst h2; rw [hr]; exact h
  intro H β a w hrel he hd K Qx hK
  have v1 := he.get p
  rw [hp] at v1
  have v2 := he.get q
  rw [hq] at v2
  obtain ⟨e1, _⟩ := intAt_rel (ty := t) (n := x) v1 (by simp [intAt, same]) ht
  obtain ⟨e2, _⟩ := intAt_rel (ty := t) (n := y) v2 (by simp [intAt, same]) ht
  have hex : (execOp a.eval o).run C.P w = .ok (.value (.tuple #[.int .u64 ((x + y) % 18446744073709551616 : Nat), .int .u64 ((x + y) / 18446744073709551616 : Nat)])) w := by
    have := hf x y w
    have e1' : a.eval (.tmp p) = .int .u64 x := e1
    have e2' : a.eval (.tmp q) = .int .u64 y := e2
    have e3 : a.eval (.const (.int .u64 0)) = .int .u64 0 := rfl
    have e4 : a.eval (.func f) = .func (.func f) #[] #[] := rfl
    simp only [execOp, ho, resolve, e4, Deferred.ofValue, Sem.run_bind, Sem.run_pure, Result.andThen, invoke]
    simp [e1', e2', e3]
    simpa using this
  simp only [Oper.wp, hex, Oper.upon]
  refine hK _ _ w H β σ ⟨rfl, rfl⟩ hrel (.tup rfl fun i v d hv hd => ?_) (.refl _ _) (.refl _ _ _)
  match i with
  | 0 => cases hd; simp at hv; subst hv; exact .mkInt ht (inR_wrap (by simp [inR]; omega))
  | 1 => cases hd; simp at hv; subst hv; exact .mkInt ht (inR_wrap (by simp [inR]; omega))
  | i + 2 => simp at hd
end
end Go.Den
/- Law 34: the table of types. -/
namespace Go.Den.Q34
open Go Go.Den Go.Proofs
def tb : Tab :=
⟨[⟨.other, 1, 0, 0⟩,
  ⟨.fn, 1, 8, 1⟩,
  ⟨.int .i64, 1, 8, 2⟩,
  ⟨.int .i64, 1, 8, 3⟩,
  ⟨.bool, 1, 1, 4⟩,
  ⟨.int .u8, 1, 1, 5⟩,
  ⟨.int .u8, 1, 1, 5⟩,
  ⟨.st [(2, 0), (3, 1), (4, 2), (6, 3)], 4, 24, 7⟩,
  ⟨.st [(2, 0), (3, 1), (4, 2), (6, 3)], 4, 24, 7⟩,
  ⟨.str, 1, 16, 9⟩,
  ⟨.str, 1, 16, 9⟩,
  ⟨.str, 1, 16, 9⟩,
  ⟨.int .u64, 1, 8, 12⟩,
  ⟨.st [(9, 0), (12, 1)], 2, 24, 13⟩,
  ⟨.st [(9, 0), (12, 1)], 2, 24, 13⟩,
  ⟨.ptr 91, 1, 8, 15⟩,
  ⟨.ptr 94, 1, 8, 16⟩,
  ⟨.ptr 103, 1, 8, 17⟩,
  ⟨.st [(17, 0)], 1, 8, 18⟩,
  ⟨.st [(17, 0)], 1, 8, 18⟩,
  ⟨.ifc, 1, 16, 20⟩,
  ⟨.int .i32, 1, 4, 21⟩,
  ⟨.sl 47, 1, 24, 22⟩,
  ⟨.sl 62, 1, 24, 23⟩,
  ⟨.st [(22, 0), (23, 1)], 2, 48, 24⟩,
  ⟨.st [(22, 0), (23, 1)], 2, 48, 24⟩,
  ⟨.int .u64, 1, 8, 26⟩,
  ⟨.int .u32, 1, 4, 27⟩,
  ⟨.fn, 1, 8, 28⟩,
  ⟨.fn, 1, 8, 29⟩,
  ⟨.fn, 1, 8, 30⟩,
  ⟨.int .i64, 1, 8, 3⟩,
  ⟨.other, 1, 0, 32⟩,
  ⟨.fn, 1, 8, 33⟩,
  ⟨.other, 1, 0, 34⟩,
  ⟨.fn, 1, 8, 35⟩,
  ⟨.fn, 1, 8, 36⟩,
  ⟨.sl 56, 1, 24, 37⟩,
  ⟨.sl 70, 1, 24, 38⟩,
  ⟨.st [(37, 0), (38, 1)], 2, 48, 39⟩,
  ⟨.st [(37, 0), (38, 1)], 2, 48, 39⟩,
  ⟨.fn, 1, 8, 41⟩,
  ⟨.fn, 1, 8, 42⟩,
  ⟨.int .u16, 1, 2, 43⟩,
  ⟨.sl 50, 1, 24, 44⟩,
  ⟨.fn, 1, 8, 45⟩,
  ⟨.st [(27, 0), (9, 1), (26, 2), (26, 3)], 4, 40, 46⟩,
  ⟨.st [(27, 0), (9, 1), (26, 2), (26, 3)], 4, 40, 46⟩,
  ⟨.sl 52, 1, 24, 48⟩,
  ⟨.st [(43, 0), (26, 1)], 2, 16, 49⟩,
  ⟨.st [(43, 0), (26, 1)], 2, 16, 49⟩,
  ⟨.st [(26, 0), (26, 1)], 2, 16, 51⟩,
  ⟨.st [(26, 0), (26, 1)], 2, 16, 51⟩,
  ⟨.fn, 1, 8, 53⟩,
  ⟨.other, 1, 0, 54⟩,
  ⟨.fn, 1, 8, 55⟩,
  ⟨.st [(27, 0), (9, 1), (26, 2), (26, 3)], 4, 40, 46⟩,
  ⟨.fn, 1, 8, 57⟩,
  ⟨.fn, 1, 8, 58⟩,
  ⟨.fn, 1, 8, 59⟩,
  ⟨.fn, 1, 8, 60⟩,
  ⟨.st [(27, 0), (9, 1), (26, 2), (26, 3)], 4, 40, 61⟩,
  ⟨.st [(27, 0), (9, 1), (26, 2), (26, 3)], 4, 40, 61⟩,
  ⟨.fn, 1, 8, 63⟩,
  ⟨.fn, 1, 8, 64⟩,
  ⟨.fn, 1, 8, 65⟩,
  ⟨.other, 1, 0, 66⟩,
  ⟨.fn, 1, 8, 67⟩,
  ⟨.fn, 1, 8, 68⟩,
  ⟨.fn, 1, 8, 69⟩,
  ⟨.st [(27, 0), (9, 1), (26, 2), (26, 3)], 4, 40, 61⟩,
  ⟨.fn, 1, 8, 71⟩,
  ⟨.other, 1, 0, 72⟩,
  ⟨.fn, 1, 8, 73⟩,
  ⟨.fn, 1, 8, 74⟩,
  ⟨.fn, 1, 8, 75⟩,
  ⟨.fn, 1, 8, 76⟩,
  ⟨.fn, 1, 8, 77⟩,
  ⟨.other, 1, 0, 78⟩,
  ⟨.fn, 1, 8, 79⟩,
  ⟨.fn, 1, 8, 80⟩,
  ⟨.sl 3, 1, 24, 81⟩,
  ⟨.fn, 1, 8, 82⟩,
  ⟨.fn, 1, 8, 83⟩,
  ⟨.other, 1, 0, 84⟩,
  ⟨.fn, 1, 8, 85⟩,
  ⟨.other, 1, 0, 86⟩,
  ⟨.fn, 1, 8, 87⟩,
  ⟨.fn, 1, 8, 88⟩,
  ⟨.fn, 1, 8, 89⟩,
  ⟨.st [(17, 0), (17, 1), (17, 2), (9, 3)], 4, 40, 90⟩,
  ⟨.st [(17, 0), (17, 1), (17, 2), (9, 3)], 4, 40, 90⟩,
  ⟨.arr 0 16, 0, 0, 92⟩,
  ⟨.st [(92, 0)], 0, 0, 93⟩,
  ⟨.st [(92, 0)], 0, 0, 93⟩,
  ⟨.fn, 1, 8, 95⟩,
  ⟨.int .u8, 1, 1, 5⟩,
  ⟨.int .u8, 1, 1, 5⟩,
  ⟨.fn, 1, 8, 98⟩,
  ⟨.ptr 5, 1, 8, 99⟩,
  ⟨.int .i32, 1, 4, 21⟩,
  ⟨.int .i32, 1, 4, 21⟩,
  ⟨.st [(12, 0), (12, 1), (27, 2), (96, 3), (5, 4), (5, 5), (97, 6), (98, 7), (99, 8), (100, 9), (101, 10)], 11, 48, 102⟩,
  ⟨.st [(12, 0), (12, 1), (27, 2), (96, 3), (5, 4), (5, 5), (97, 6), (98, 7), (99, 8), (100, 9), (101, 10)], 11, 48, 102⟩,
  ⟨.other, 1, 8, 104⟩], []⟩

theorem tabOk : TabOk Try.prog tb := ⟨by kernel_rfl, by kernel_rfl, by kernel_rfl, by kernel_rfl⟩
theorem zeroOk : ZeroOk Try.prog tb := by unfold ZeroOk; kernel_rfl
theorem ok (k n : Nat) : Ok ⟨Try.prog, tb, k, n, 4⟩ := ⟨tabOk, zeroOk, rfl⟩
theorem mixed : Try.prog.follows .mixedOrders = true := by kernel_rfl
theorem eqs : eqTys Try.prog tb [47, 62, 56, 70] := by unfold eqTys; kernel_rfl
theorem w64 {a : Int} (h1 : -9223372036854775808 ≤ a) (h2 : a ≤ 9223372036854775807) : IntKind.wrap .i64 a = a := inR_wrap (by simp [inR]; omega)
/-- From one state to a weaker one, the blocks told otherwise. -/
theorem wk1 {k0 : Nat} {env' env : Env} {σ σ' : List Blk} (hs : σ = σ') (h0 : Nat.ble k0 σ'.length = true) (hb : ∀ k ∈ σ', k.under σ'.length = true) (h : leL σ'.length env' env) : Weak k0 env' σ' env σ := by
  subst hs; exact wk0 h0 hb h
/-- A weaker state with fewer blocks. -/
theorem wkc {k0 : Nat} {env' env : Env} {σ σ' : List Blk} (τ : List Blk) (hs : σ = σ' ++ τ) (h0 : Nat.ble k0 σ'.length = true) (hb : ∀ k ∈ σ', k.under σ'.length = true) (h : leL σ'.length env' env) : Weak k0 env' σ' env σ :=
  ⟨⟨τ, hs⟩, Nat.le_of_ble_eq_true h0, hb, h⟩
end Go.Den.Q34
/- Law 34: rules, what counts, sums. -/
namespace Go.Den.Q34
open Go Go.Den Go.Proofs
set_option maxRecDepth 8000
set_option linter.unusedVariables false

structure Rl where
  o : Nat
  nm : List UInt8
  most : Nat
  span : Nat
  deriving DecidableEq
structure En where
  o : Nat
  nm : List UInt8
  at_ : Nat
  n : Nat
  deriving DecidableEq
def Rl.e (r : Rl) : E := .agg [.int r.o, .str r.nm, .int r.most, .int r.span]
def En.e (x : En) : E := .agg [.int x.o, .str x.nm, .int x.at_, .int x.n]
def gE (rs : List Rl) (es : List En) : E := .agg [.sl (rs.map Rl.e), .sl (es.map En.e)]
def m64 : Nat := 18446744073709551616
structure Rl.ok (r : Rl) : Prop where
  o : r.o < 4294967296
  most : r.most < 18446744073709551616
  span : r.span < 18446744073709551616
structure En.ok (x : En) : Prop where
  o : x.o < 4294967296
  at_ : x.at_ < 18446744073709551616
  n : x.n < 18446744073709551616

theorem getD_rl {p : List Rl} {i : Nat} (h : i < p.length) : (p.map Rl.e).getD i .nilp = p[i].e := by simp [List.getD, h]
theorem getD_en {p : List En} {i : Nat} (h : i < p.length) : (p.map En.e).getD i .nilp = p[i].e := by simp [List.getD, h]

def hits (o : Nat) (nm : List UInt8) (r : Rl) : Bool := decide (r.o = o) && decide (r.nm = nm)
theorem clos_ok (r : Rl) (o : Nat) (nm : List UInt8) : FnG Try.prog tb 33 [.tree 27 (.e (.int o)), .tree 9 (.e (.str nm))] [.t 47 (.e r.e), .ptr 0 [], .ptr 1 []] (fun d t => d = .t 4 (.e (.bool (hits o nm r))) ∧ t = [.tree 27 (.e (.int o)), .tree 9 (.e (.str nm))]) := by
  refine FnG_of_V (fn := Try.f33) (bt := 4) false [] [4] (ok 2 _) Try.func33 rfl rfl rfl fun _ _ _ _ _ _ => ?_
  apply V_of_VX
  refine VX_go3 (fs := []) (ok 2 _) eqs trivial 100 [] rfl trivial ?_
  refine VX_split 9 rfl rfl (fun h => ?_) (fun h => ?_)
  · have h : r.o = o := by simp at h; omega
    refine VX_go3 (fs := []) (ok 2 _) eqs trivial 100 [] rfl trivial ?_
    refine ⟨.inr rfl, _, _, _, rfl, rfl, rfl, ?_⟩
    have : hits o nm r = decide (r.nm = nm) := by simp [hits, h]
    rw [this]; exact ⟨rfl, rfl⟩
  · have h : ¬ r.o = o := by simp at h; omega
    refine VX_go3 (fs := []) (ok 2 _) eqs trivial 100 [] rfl trivial ?_
    refine ⟨.inr rfl, _, _, _, rfl, rfl, rfl, ?_⟩
    have : hits o nm r = false := by simp [hits, h]
    rw [this]; exact ⟨rfl, rfl⟩

/-- The place of a rule; -1. -/
def ridx (o : Nat) (nm : List UInt8) : List Rl → Nat → Int
  | [], _ => -1
  | r :: rs, i => if hits o nm r = true then i else ridx o nm rs (i + 1)
def cell2 (o : Nat) (nm : List UInt8) : List Blk := [.tree 27 (.e (.int o)), .tree 9 (.e (.str nm))]
theorem index_ok (rs : List Rl) (o : Nat) (nm : List UInt8) (hl : rs.length ≤ 100000) : FnG Try.prog tb 32 (cell2 o nm) [.t 22 (.e (.sl (rs.map Rl.e))), .t 77 (.fn 33 [(0, []), (1, [])])] (fun d t => d = .t 3 (.e (.int (ridx o nm rs 0))) ∧ t = cell2 o nm) := by
  refine FnG_of_V (fn := Try.f32) (bt := 4) false [] [3] (ok 2 _) Try.func32 rfl rfl rfl fun _ _ _ _ _ _ => ?_
  apply V_of_VX
  refine VX_go3 (fs := []) (ok 2 _) eqs trivial 100 [] rfl trivial ?_
  refine VX_loopA (fun i : Nat => i ≤ rs.length ∧ ridx o nm (rs.drop i) i = ridx o nm rs 0) (fun i => [(8, .t 3 (.e (.int i))), (7, .t 3 (.e (.int rs.length))), (0, .t 22 (.e (.sl (rs.map Rl.e)))), (1, .t 77 (.fn 33 [(0, []), (1, [])]))]) (fun _ => cell2 o nm) (fun i => rs.length - i) 0 ⟨by simp, by simp⟩ ?_ ?_
  · exact wk1 rfl rfl (by simp [cell2, Blk.under, T.under]) (lc (ls rfl rfl) (lc (li (by simp)) (lc (ls rfl rfl) (lc (ls rfl rfl) lnil))))
  · rintro i ⟨hi, hpq⟩
    refine VX_go3 (fs := []) (ok 2 _) eqs trivial 100 [] rfl trivial ?_
    refine VX_split 9 rfl rfl (fun h => ?_) (fun h => ?_)
    · have hi : i < rs.length := by simpa using h
      refine VX_go3 (fs := []) (ok 2 _) eqs trivial 100 [] rfl ?_ ?_
      · simp [allP]; omega
      refine VX_eq 15 rfl rfl (d' := .t 47 (.e rs[i].e)) (congrArg (fun x => D.t 47 (.e x)) (getD_rl hi)) ?_
      refine VX_callC (ok 2 _) [47] [0, 1] rfl rfl rfl rfl rfl rfl rfl (clos_ok rs[i] o nm) rfl rfl rfl ?_
      have hd1 : rs.drop i = rs[i] :: rs.drop (i + 1) := List.drop_eq_getElem_cons hi
      rw [hd1] at hpq
      refine VX_split 16 rfl rfl (fun h => ?_) (fun h => ?_)
      · refine VX_go3 (fs := []) (ok 2 _) eqs trivial 100 [] rfl trivial ?_
        have : ridx o nm rs 0 = i := by rw [← hpq]; simp [ridx, h]
        refine loop_ret ⟨.inr rfl, _, _, _, rfl, rfl, rfl, ?_⟩
        rw [this]; exact ⟨rfl, rfl⟩
      · refine VX_go3 (fs := []) (ok 2 _) eqs trivial 100 [] rfl trivial ?_
        refine loop_nrm ⟨i + 1, by omega, ⟨by omega, ?_⟩, ?_⟩
        · rw [← hpq]; simp [ridx, h]
        · refine wk1 rfl rfl (by simp [cell2, Blk.under, T.under]) (lc (li ?_) (lc (ls rfl rfl) (lc (ls rfl rfl) (lc (ls rfl rfl) lnil))))
          rw [w64 (by omega) (by omega)]; simp
    · refine VX_go3 (fs := []) (ok 2 _) eqs trivial 100 [] rfl trivial ?_
      apply loop_brk
      refine VX_go3 (fs := []) (ok 2 _) eqs trivial 100 [] rfl trivial ?_
      have : i = rs.length := by simp at h; omega
      refine ⟨.inr rfl, _, _, _, rfl, rfl, rfl, ?_⟩
      rw [← hpq, this, List.drop_length]; exact ⟨rfl, rfl⟩
theorem rule_ok (rs : List Rl) (es : List En) (o : Nat) (nm : List UInt8) (hl : rs.length ≤ 100000) : FnOk Try.prog tb 20 [25, 27, 9] [3] [gE rs es, .int o, .str nm] [.int (ridx o nm rs 0)] := by
  refine FnOk_of_V (fn := Try.f20) (bt := 4) (ok 0 _) Try.func20 rfl rfl rfl (by decide) fun hw => ?_
  apply V_of_VX
  refine VX_go3 (fs := []) (ok 0 _) eqs trivial 100 [] rfl trivial ?_
  refine VX_makeFunc rfl rfl rfl rfl rfl rfl ?_
  refine VX_callD (ok 0 _) [22, 77] [1, 2] rfl rfl rfl rfl rfl rfl (index_ok rs o nm hl) rfl rfl rfl ?_
  refine VX_go3 (fs := []) (ok 0 _) eqs trivial 100 [] rfl trivial ?_
  exact ⟨.inr rfl, rfl⟩

theorem add64 (x y : Nat) (w : World) : (callFunc 34 #[.int .u64 x, .int .u64 y, .int .u64 0]).run Try.prog w = .ok (.value (.tuple #[.int .u64 ((x + y) % 18446744073709551616 : Nat), .int .u64 ((x + y) / 18446744073709551616 : Nat)])) w := rfl

/-- A sum, or too much. -/
def addB (x y : Nat) : Nat × Int := if x + y < 18446744073709551616 then (x + y, 0) else (0, 10)
theorem add_ok (x y : Nat) (hx : x < 18446744073709551616) (hy : y < 18446744073709551616) : FnOk Try.prog tb 24 [26, 26] [26, 31] [.int x, .int y] [.int (addB x y).1, .int (addB x y).2] := by
  refine FnOk_of_V (fn := Try.f24) (bt := 4) (ok 0 _) Try.func24 rfl rfl rfl (by decide) fun hw => ?_
  apply V_of_VX
  refine VX_go3 (fs := []) (ok 0 _) eqs trivial 100 [] rfl trivial ?_
  refine VX_add64 (t := 26) (ok 0 _) rfl rfl rfl rfl rfl rfl rfl hx hy add64 ?_
  refine VX_go3 (fs := []) (ok 0 _) eqs trivial 100 [] rfl trivial ?_
  refine VX_split 15 rfl rfl (fun h => ?_) (fun h => ?_)
  · have h : x + y < 18446744073709551616 := by simp at h; omega
    refine VX_go3 (fs := []) (ok 0 _) eqs trivial 100 [] rfl trivial ?_
    refine ⟨.inr rfl, ?_⟩
    simp only [addB, if_pos h]
    rw [Nat.mod_eq_of_lt h]; rfl
  · have h : ¬ x + y < 18446744073709551616 := by simp at h; omega
    refine VX_go3 (fs := []) (ok 0 _) eqs trivial 100 [] rfl trivial ?_
    refine ⟨.inr rfl, ?_⟩
    simp only [addB, if_neg h]; rfl

/-- Does an entry count? -/
def cnt (x : En) (r : Rl) (now : Nat) : Bool := decide (x.o = r.o) && decide (x.nm = r.nm) && decide (now < x.at_ + r.span)
theorem counts_ok (x : En) (r : Rl) (now : Nat) (hx : x.ok) (hr : r.ok) (hn : now < 18446744073709551616) : FnOk Try.prog tb 21 [62, 47, 26] [4] [x.e, r.e, .int now] [.bool (cnt x r now)] := by
  refine FnOk_of_V (fn := Try.f21) (bt := 4) (ok 0 _) Try.func21 rfl rfl rfl (by decide) fun hw => ?_
  apply V_of_VX
  refine VX_go3 (fs := []) (ok 0 _) eqs trivial 100 [] rfl trivial ?_
  refine VX_split 14 rfl rfl (fun h => ?_) (fun h => ?_)
  · have h : ¬ x.o = r.o := by simp at h; omega
    refine VX_go3 (fs := []) (ok 0 _) eqs trivial 100 [] rfl trivial ?_
    refine ⟨.inr rfl, ?_⟩
    have : cnt x r now = false := by simp [cnt, h]
    rw [this]; rfl
  · have ho : x.o = r.o := by simp at h; omega
    refine VX_go3 (fs := []) (ok 0 _) eqs trivial 100 [] rfl trivial ?_
    refine VX_split 20 rfl rfl (fun h => ?_) (fun h => ?_)
    · have h : ¬ x.nm = r.nm := by simpa using h
      refine VX_go3 (fs := []) (ok 0 _) eqs trivial 100 [] rfl trivial ?_
      refine ⟨.inr rfl, ?_⟩
      have : cnt x r now = false := by simp [cnt, h]
      rw [this]; rfl
    · have hm : x.nm = r.nm := by simpa using h
      refine VX_go3 (fs := []) (ok 0 _) eqs trivial 100 [] rfl trivial ?_
      refine VX_callD (ok 0 _) [26, 26] [] rfl rfl rfl rfl rfl rfl (add_ok x.at_ r.span hx.at_ hr.span).g rfl rfl rfl ?_
      refine VX_go3 (fs := []) (ok 0 _) eqs trivial 100 [] rfl trivial ?_
      by_cases hs : x.at_ + r.span < 18446744073709551616
      · have hB : addB x.at_ r.span = (x.at_ + r.span, 0) := by simp only [addB, if_pos hs]
        rw [hB]
        refine VX_known 31 false rfl rfl (by simp) ?_
        refine VX_go3 (fs := []) (ok 0 _) eqs trivial 100 [] rfl trivial ?_
        refine ⟨.inr rfl, ?_⟩
        have : cnt x r now = decide ((now : Int) < (x.at_ + r.span : Nat)) := by simp only [cnt, ho, hm, decide_true, Bool.true_and, decide_eq_decide]; omega
        rw [this]; rfl
      · have hB : addB x.at_ r.span = (0, 10) := by simp only [addB, if_neg hs]
        rw [hB]
        refine VX_known 31 true rfl rfl (by decide) ?_
        refine VX_go3 (fs := []) (ok 0 _) eqs trivial 100 [] rfl trivial ?_
        refine ⟨.inr rfl, ?_⟩
        have : cnt x r now = true := by simp only [cnt, ho, hm, decide_true, Bool.true_and, decide_eq_true_eq]; omega
        rw [this]; rfl

/-- The sum of what counts. -/
def sumF (r : Rl) (now : Nat) : List En → Nat → Nat × Int
  | [], n => (n, 0)
  | x :: xs, n => if cnt x r now = true then if n + x.n < 18446744073709551616 then sumF r now xs (n + x.n) else (0, 10) else sumF r now xs n
theorem sumF_lt (r : Rl) (now : Nat) : ∀ (xs : List En) (n : Nat), n < 18446744073709551616 → (sumF r now xs n).1 < 18446744073709551616
  | [], n, h => h
  | x :: xs, n, h => by
    unfold sumF
    split
    · split
      · exact sumF_lt r now xs _ (by assumption)
      · simp
    · exact sumF_lt r now xs n h
theorem sum_ok (rs : List Rl) (es : List En) (r : Rl) (now : Nat) (hes : ∀ x ∈ es, x.ok) (hr : r.ok) (hn : now < 18446744073709551616) (hl : es.length ≤ 100000) :
    FnOk Try.prog tb 23 [25, 47, 26] [26, 31] [gE rs es, r.e, .int now] [.int (sumF r now es 0).1, .int (sumF r now es 0).2] := by
  refine FnOk_of_V (fn := Try.f23) (bt := 4) (ok 0 _) Try.func23 rfl rfl rfl (by decide) fun hw => ?_
  apply V_of_VX
  refine VX_go3 (fs := []) (ok 0 _) eqs trivial 100 [] rfl trivial ?_
  refine VX_loopA (fun a : Nat × Nat => a.1 ≤ es.length ∧ a.2 < 18446744073709551616 ∧ sumF r now (es.drop a.1) a.2 = sumF r now es 0) (fun a => [(15, .t 3 (.e (.int a.1))), (14, .t 3 (.e (.int es.length))), (13, .t 23 (.e (.sl (es.map En.e)))), (8, .t 26 (.e (.int a.2))), (4, .ptr 1 []), (2, .t 26 (.e (.int now)))]) (fun _ => [.tree 25 (.e (gE rs es)), .tree 47 (.e r.e)]) (fun a => es.length - a.1) (0, 0) ⟨by simp, by simp, by simp⟩ ?_ ?_
  · exact wk1 rfl rfl (by simp [Blk.under, T.under]) (lc (ls rfl rfl) (lc (li (by simp)) (lc (ls rfl rfl) (lc (ls rfl rfl) (lc (ls rfl rfl) (lc (ls rfl rfl) lnil))))))
  · rintro ⟨i, n⟩ ⟨hi, hnn, hpq⟩
    simp only at hi hnn hpq
    refine VX_go3 (fs := []) (ok 0 _) eqs trivial 100 [] rfl trivial ?_
    refine VX_split 16 rfl rfl (fun h => ?_) (fun h => ?_)
    · have hi : i < es.length := by simpa using h
      have hxok := hes es[i] (List.getElem_mem hi)
      refine VX_go3 (fs := []) (ok 0 _) eqs trivial 100 [10] rfl ?_ ?_
      · simp [allP]; omega
      refine VX_eq 18 rfl rfl (d' := .t 62 (.e es[i].e)) (congrArg (fun x => D.t 62 (.e x)) (getD_en hi)) ?_
      refine VX_go3 (fs := []) (ok 0 _) eqs trivial 100 [] rfl trivial ?_
      refine VX_callD (ok 0 _) [62, 47, 26] [] rfl rfl rfl rfl rfl rfl (counts_ok es[i] r now hxok hr hn).g rfl rfl rfl ?_
      have hd1 : es.drop i = es[i] :: es.drop (i + 1) := List.drop_eq_getElem_cons hi
      rw [hd1] at hpq
      have ei : IntKind.wrap .i64 ((i : Int) + 1) = ((i + 1 : Nat) : Int) := by rw [w64 (by omega) (by omega)]; simp
      refine VX_split 22 rfl rfl (fun hc => ?_) (fun hc => ?_)
      · refine VX_go3 (fs := []) (ok 0 _) eqs trivial 100 [] rfl trivial ?_
        refine VX_callD (ok 0 _) [26, 26] [] rfl rfl rfl rfl rfl rfl (add_ok n es[i].n hnn hxok.n).g rfl rfl rfl ?_
        refine VX_go3 (fs := []) (ok 0 _) eqs trivial 100 [] rfl trivial ?_
        by_cases hs : n + es[i].n < 18446744073709551616
        · have hB : addB n es[i].n = (n + es[i].n, 0) := by simp only [addB, if_pos hs]
          rw [hB]
          refine VX_known 32 false rfl rfl (by simp) ?_
          refine VX_go3 (fs := []) (ok 0 _) eqs trivial 100 [] rfl trivial ?_
          refine loop_nrm ⟨(i + 1, n + es[i].n), by simp only; omega, ⟨by simp only; omega, hs, ?_⟩, ?_⟩
          · rw [← hpq]; simp only [sumF, hc, if_true, hs]
          · exact wkc [.tree 62 (.e es[i].e)] rfl rfl (by simp [Blk.under, T.under]) (lc (li (by rw [ei])) (lc (ls rfl rfl) (lc (ls rfl rfl) (lc (ls rfl rfl) (lc (ls rfl rfl) (lc (ls rfl rfl) lnil))))))
        · have hB : addB n es[i].n = (0, 10) := by simp only [addB, if_neg hs]
          rw [hB]
          refine VX_known 32 true rfl rfl (by decide) ?_
          refine VX_go3 (fs := []) (ok 0 _) eqs trivial 100 [] rfl trivial ?_
          refine loop_ret ⟨.inr rfl, ?_⟩
          have : sumF r now es 0 = (0, 10) := by rw [← hpq]; simp only [sumF, hc, if_true, hs, if_false]
          rw [this]; rfl
      · refine VX_go3 (fs := []) (ok 0 _) eqs trivial 100 [] rfl trivial ?_
        refine loop_nrm ⟨(i + 1, n), by simp only; omega, ⟨by simp only; omega, hnn, ?_⟩, ?_⟩
        · rw [← hpq]; simp only [sumF, hc]; rfl
        · exact wkc [.tree 62 (.e es[i].e)] rfl rfl (by simp [Blk.under, T.under]) (lc (li (by rw [ei])) (lc (ls rfl rfl) (lc (ls rfl rfl) (lc (ls rfl rfl) (lc (ls rfl rfl) (lc (ls rfl rfl) lnil))))))
    · have hi' : i = es.length := by simp at h; omega
      refine VX_go3 (fs := []) (ok 0 _) eqs trivial 100 [] rfl trivial ?_
      apply loop_brk
      refine VX_go3 (fs := []) (ok 0 _) eqs trivial 100 [] rfl trivial ?_
      refine ⟨.inr rfl, ?_⟩
      rw [← hpq, hi', List.drop_length]; rfl
end Go.Den.Q34
/- Law 34: copies; what is swept; what counts. -/
namespace Go.Den.Q34
open Go Go.Den Go.Proofs
set_option maxRecDepth 8000
set_option linter.unusedVariables false

theorem cloneR_ok (q : List E) (hq : q.length ≤ 100000) : FnOk Try.prog tb 22 [22] [22] [.sl q] [.sl q] := by
  refine FnOk_of_V (fn := Try.f22) (bt := 4) (ok 0 _) Try.func22 rfl rfl rfl (by decide) fun hw => ?_
  apply V_of_VX
  refine VX_go3 (fs := []) (ok 0 _) eqs trivial 100 [] rfl trivial ?_
  refine VX_op rfl rfl (OpV_nilS (ok 0 _) rfl (.inl rfl) rfl rfl rfl rfl) ?_
  rintro d s ⟨b, hb, rfl, rfl⟩
  refine VX_go3 (fs := []) (ok 0 _) eqs trivial 100 [] rfl trivial ?_
  refine VX_split 4 rfl rfl (fun h => ?_) (fun h => ?_)
  · refine VX_go3 (fs := []) (ok 0 _) eqs trivial 100 [] rfl trivial ?_
    exact ⟨.inr rfl, by rw [hb h]; rfl⟩
  · refine VX_go3 (fs := []) (ok 0 _) eqs trivial 100 [] rfl ?_ ?_
    · simp [allP, nb, tb, maxL]; omega
    exact ⟨.inr rfl, rfl⟩
theorem cloneE_ok (q : List E) (hq : q.length ≤ 100000) : FnOk Try.prog tb 25 [23] [23] [.sl q] [.sl q] := by
  refine FnOk_of_V (fn := Try.f25) (bt := 4) (ok 0 _) Try.func25 rfl rfl rfl (by decide) fun hw => ?_
  apply V_of_VX
  refine VX_go3 (fs := []) (ok 0 _) eqs trivial 100 [] rfl trivial ?_
  refine VX_op rfl rfl (OpV_nilS (ok 0 _) rfl (.inl rfl) rfl rfl rfl rfl) ?_
  rintro d s ⟨b, hb, rfl, rfl⟩
  refine VX_go3 (fs := []) (ok 0 _) eqs trivial 100 [] rfl trivial ?_
  refine VX_split 4 rfl rfl (fun h => ?_) (fun h => ?_)
  · refine VX_go3 (fs := []) (ok 0 _) eqs trivial 100 [] rfl trivial ?_
    exact ⟨.inr rfl, by rw [hb h]; rfl⟩
  · refine VX_go3 (fs := []) (ok 0 _) eqs trivial 100 [] rfl ?_ ?_
    · simp [allP, nb, tb, maxL]; omega
    exact ⟨.inr rfl, rfl⟩

/-- What a sweep leaves. -/
def keepB (rs : List Rl) (now : Nat) (x : En) : Bool := match ridx x.o x.nm rs 0 with
  | .ofNat i => match rs[i]? with
    | some r => cnt x r now
    | none => false
  | .negSucc _ => false
theorem ridx_range (o : Nat) (nm : List UInt8) : ∀ (rs : List Rl) (i : Nat), ridx o nm rs i = -1 ∨ ∃ j, ridx o nm rs i = ((i + j : Nat) : Int) ∧ j < rs.length ∧ ∃ r, rs[j]? = some r ∧ hits o nm r = true
  | [], i => .inl rfl
  | r :: rs, i => by
    unfold ridx
    by_cases h : hits o nm r = true
    · rw [if_pos h]; exact .inr ⟨0, rfl, by simp, r, rfl, h⟩
    · rw [if_neg h]
      rcases ridx_range o nm rs (i + 1) with h' | ⟨j, h1, h2, r', h3, h4⟩
      · exact .inl h'
      · exact .inr ⟨j + 1, by rw [h1]; congr 1; omega, by simp; omega, r', by simpa using h3, h4⟩
theorem ridx_cases (o : Nat) (nm : List UInt8) (rs : List Rl) : ridx o nm rs 0 = -1 ∨ ∃ (j : Nat) (h : j < rs.length), ridx o nm rs 0 = (j : Nat) ∧ hits o nm rs[j] = true := by
  rcases ridx_range o nm rs 0 with h | ⟨j, h1, h2, r, h3, h4⟩
  · exact .inl h
  · refine .inr ⟨j, h2, by rw [h1, Nat.zero_add], ?_⟩
    rw [List.getElem?_eq_getElem h2] at h3; cases h3; exact h4

theorem sweep_ok (rs : List Rl) (es : List En) (now : Nat) (hrs : ∀ r ∈ rs, r.ok) (hes : ∀ x ∈ es, x.ok) (hn : now < 18446744073709551616) (hl : es.length ≤ 10000) (hlr : rs.length ≤ 10000) :
    FnOk Try.prog tb 8 [25, 26] [25] [gE rs es, .int now] [gE rs (es.filter (keepB rs now))] := by
  refine FnOk_of_V (fn := Try.f8) (bt := 4) (ok 0 _) Try.func8 rfl rfl rfl (by decide) fun hw => ?_
  apply V_of_VX
  refine VX_go3 (fs := []) (ok 0 _) eqs trivial 100 [] rfl trivial ?_
  refine VX_promote 5 (u := 62) rfl rfl ?_
  refine VX_loopA (fun i : Nat => i ≤ es.length) (fun i => [(12, .t 3 (.e (.int i))), (11, .t 3 (.e (.int es.length))), (10, .t 23 (.e (.sl (es.map En.e)))), (5, .t 23 (.lsl 2 (((es.take i).filter (keepB rs now)).map En.e))), (4, .ptr 1 []), (2, .ptr 0 []), (1, .t 26 (.e (.int now)))])
    (fun i => [.tree 25 (.e (gE rs es)), .tree 25 (.st [.nsl, .nsl]), .row 62 (((es.take i).filter (keepB rs now)).map En.e).length]) (fun i => es.length - i) 0 (by simp) ?_ ?_
  · exact wk1 rfl rfl (by simp [Blk.under, T.under, T.unders]) (lc (ls rfl rfl) (lc (li (by simp)) (lc (ls rfl rfl) (lc (ls rfl rfl) (lc (ls rfl rfl) (lc (ls rfl rfl) (lc (ls rfl rfl) lnil)))))))
  · intro i hi
    refine VX_go3 (fs := []) (ok 0 _) eqs trivial 100 [] rfl trivial ?_
    refine VX_split 13 rfl rfl (fun h => ?_) (fun h => ?_)
    · have hi : i < es.length := by simpa using h
      have hxok := hes es[i] (List.getElem_mem hi)
      have ei : IntKind.wrap .i64 ((i : Int) + 1) = ((i + 1 : Nat) : Int) := by rw [w64 (by omega) (by omega)]; simp
      have htk : es.take (i + 1) = es.take i ++ [es[i]] := by rw [List.take_add_one, List.getElem?_eq_getElem hi]; rfl
      have hfl : ((es.take i).filter (keepB rs now)).length ≤ 10000 := by
        have := List.length_filter_le (keepB rs now) (es.take i)
        have h2 : (es.take i).length ≤ es.length := by simp; omega
        omega
      refine VX_go3 (fs := []) (ok 0 _) eqs trivial 100 [7] rfl ?_ ?_
      · simp [allP]; omega
      refine VX_eq 15 rfl rfl (d' := .t 62 (.e es[i].e)) (congrArg (fun x => D.t 62 (.e x)) (getD_en hi)) ?_
      refine VX_go3 (fs := []) (ok 0 _) eqs trivial 100 [] rfl trivial ?_
      refine VX_callD (ok 0 _) [25, 27, 9] [] rfl rfl rfl rfl rfl rfl (rule_ok rs es es[i].o es[i].nm (by omega)).g rfl rfl rfl ?_
      refine VX_go3 (fs := []) (ok 0 _) eqs trivial 100 [] rfl trivial ?_
      refine VX_draw [] [(0, true), (1, true), (2, true), (3, true), (4, true), (5, true), (6, true), (7, true), (8, true), (9, true), (10, false), (11, true)] mixed (by kernel_rfl) (by kernel_rfl) (by kernel_rfl) ?_
      refine VX_go3 (fs := []) (ok 0 _) eqs trivial 100 [] rfl trivial ?_
      rcases ridx_cases es[i].o es[i].nm rs with hx | ⟨j, hj, hx, hh⟩
      · have hk : keepB rs now es[i] = false := by unfold keepB; rw [hx]; rfl
        rw [hx]
        refine VX_known 24 false rfl rfl (by decide) ?_
        refine VX_go3 (fs := []) (ok 0 _) eqs trivial 100 [] rfl trivial ?_
        refine loop_nrm ⟨i + 1, by omega, by omega, ?_⟩
        have he : (es.take (i + 1)).filter (keepB rs now) = (es.take i).filter (keepB rs now) := by rw [htk, List.filter_append]; simp [hk]
        refine wkc [.tree 62 (.e es[i].e)] (by rw [he]; rfl) rfl (by simp [Blk.under, T.under, T.unders]) (lc (li (by rw [ei])) (lc (ls rfl rfl) (lc (ls rfl rfl) (lc (ls (by rw [he]; rfl) rfl) (lc (ls rfl rfl) (lc (ls rfl rfl) (lc (ls rfl rfl) lnil)))))))
      · have hk : keepB rs now es[i] = cnt es[i] rs[j] now := by
          unfold keepB; rw [hx]
          show (match rs[j]? with | some r => cnt es[i] r now | none => false) = _
          rw [List.getElem?_eq_getElem hj]
        rw [hx]
        refine VX_known 24 true rfl rfl (by simp) ?_
        refine VX_go3 (fs := []) (ok 0 _) eqs trivial 100 [] rfl ?_ ?_
        · simp [allP]; omega
        refine VX_eq 30 rfl rfl (d' := .t 47 (.e rs[j].e)) (congrArg (fun x => D.t 47 (.e x)) (getD_rl hj)) ?_
        refine VX_callO (ok 0 _) [62, 47, 26] [] rfl rfl rfl rfl rfl rfl rfl rfl (counts_ok es[i] rs[j] now hxok (hrs _ (List.getElem_mem hj)) hn).g rfl rfl rfl ?_
        refine VX_split 32 rfl rfl (fun hc => ?_) (fun hc => ?_)
        · have hk1 : keepB rs now es[i] = true := by rw [hk, hc]
          refine VX_go3 (fs := []) (ok 0 _) eqs trivial 100 [] rfl ?_ ?_
          · simp [allP, nb, tb, maxL]; omega
          refine loop_nrm ⟨i + 1, by omega, by omega, ?_⟩
          have he : ((es.take (i + 1)).filter (keepB rs now)).map En.e = ((es.take i).filter (keepB rs now)).map En.e ++ [es[i].e] := by rw [htk, List.filter_append]; simp [hk1]
          refine wkc [.tree 62 (.e es[i].e)] (by rw [he]; rfl) rfl (by simp [Blk.under, T.under, T.unders]) (lc (li (by rw [ei])) (lc (ls rfl rfl) (lc (ls rfl rfl) (lc (ls (by rw [he]; rfl) rfl) (lc (ls rfl rfl) (lc (ls rfl rfl) (lc (ls rfl rfl) lnil)))))))
        · have hk0 : keepB rs now es[i] = false := by rw [hk, hc]
          refine VX_go3 (fs := []) (ok 0 _) eqs trivial 100 [] rfl trivial ?_
          refine loop_nrm ⟨i + 1, by omega, by omega, ?_⟩
          have he : (es.take (i + 1)).filter (keepB rs now) = (es.take i).filter (keepB rs now) := by rw [htk, List.filter_append]; simp [hk0]
          refine wkc [.tree 62 (.e es[i].e)] (by rw [he]; rfl) rfl (by simp [Blk.under, T.under, T.unders]) (lc (li (by rw [ei])) (lc (ls rfl rfl) (lc (ls rfl rfl) (lc (ls (by rw [he]; rfl) rfl) (lc (ls rfl rfl) (lc (ls rfl rfl) (lc (ls rfl rfl) lnil)))))))
    · have hi' : i = es.length := by simp at h; omega
      refine VX_go3 (fs := []) (ok 0 _) eqs trivial 100 [] rfl trivial ?_
      apply loop_brk
      refine VX_go3 (fs := []) (ok 0 _) eqs trivial 100 [] rfl trivial ?_
      refine VX_callD (ok 0 _) [22] [] rfl rfl rfl rfl rfl rfl (cloneR_ok (rs.map Rl.e) (by simp; omega)).g rfl rfl rfl ?_
      refine VX_go3 (fs := []) (ok 0 _) eqs trivial 100 [] rfl trivial ?_
      refine ⟨.inr rfl, ?_⟩
      rw [hi', List.take_length]; rfl

def countsB (rs : List Rl) (es : List En) (o : Nat) (nm : List UInt8) (now : Nat) : Nat × Bool := match ridx o nm rs 0 with
  | .ofNat i => match rs[i]? with
    | some r => ((sumF r now es 0).1, decide ((sumF r now es 0).2 = 0))
    | none => (0, false)
  | .negSucc _ => (0, false)
theorem countsG_ok (rs : List Rl) (es : List En) (o : Nat) (nm : List UInt8) (now : Nat) (hrs : ∀ r ∈ rs, r.ok) (hes : ∀ x ∈ es, x.ok) (hn : now < 18446744073709551616) (hl : es.length ≤ 10000) (hlr : rs.length ≤ 10000) :
    FnOk Try.prog tb 10 [25, 27, 9, 26] [26, 4] [gE rs es, .int o, .str nm, .int now] [.int (countsB rs es o nm now).1, .bool (countsB rs es o nm now).2] := by
  refine FnOk_of_V (fn := Try.f10) (bt := 4) (ok 0 _) Try.func10 rfl rfl rfl (by decide) fun hw => ?_
  apply V_of_VX
  refine VX_go3 (fs := []) (ok 0 _) eqs trivial 100 [] rfl trivial ?_
  refine VX_callD (ok 0 _) [25, 27, 9] [] rfl rfl rfl rfl rfl rfl (rule_ok rs es o nm (by omega)).g rfl rfl rfl ?_
  refine VX_go3 (fs := []) (ok 0 _) eqs trivial 100 [] rfl trivial ?_
  rcases ridx_cases o nm rs with hx | ⟨j, hj, hx, hh⟩
  · have hk : countsB rs es o nm now = (0, false) := by unfold countsB; rw [hx]; rfl
    rw [hx]
    refine VX_known 18 true rfl rfl (by decide) ?_
    refine VX_go3 (fs := []) (ok 0 _) eqs trivial 100 [] rfl trivial ?_
    refine ⟨.inr rfl, ?_⟩
    rw [hk]; rfl
  · have hk : countsB rs es o nm now = ((sumF rs[j] now es 0).1, decide ((sumF rs[j] now es 0).2 = 0)) := by
      unfold countsB; rw [hx]
      show (match rs[j]? with | some r => ((sumF r now es 0).1, decide ((sumF r now es 0).2 = 0)) | none => (0, false)) = _
      rw [List.getElem?_eq_getElem hj]
    rw [hx]
    refine VX_known 18 false rfl rfl (by simp) ?_
    refine VX_go3 (fs := []) (ok 0 _) eqs trivial 100 [] rfl trivial ?_
    refine VX_draw [] [(0, true), (1, true), (2, true), (3, true), (4, true), (5, true), (6, true), (7, false), (8, true), (9, true), (10, true), (11, true), (12, true)] mixed (by kernel_rfl) (by kernel_rfl) (by kernel_rfl) ?_
    refine VX_go3 (fs := []) (ok 0 _) eqs trivial 100 [] rfl ?_ ?_
    · simp [allP]; omega
    refine VX_eq 25 rfl rfl (d' := .t 47 (.e rs[j].e)) (congrArg (fun x => D.t 47 (.e x)) (getD_rl hj)) ?_
    refine VX_callO (ok 0 _) [25, 47, 26] [] rfl rfl rfl rfl rfl rfl rfl rfl (sum_ok rs es rs[j] now hes (hrs _ (List.getElem_mem hj)) hn (by omega)).g rfl rfl rfl ?_
    refine VX_go3 (fs := []) (ok 0 _) eqs trivial 100 [] rfl trivial ?_
    refine ⟨.inr rfl, ?_⟩
    rw [hk]; rfl
end Go.Den.Q34
/- Law 34: names. -/
namespace Go.Den.Q34
open Go Go.Den Go.Proofs
set_option maxRecDepth 8000
set_option linter.unusedVariables false

def smallR (c : Nat) : Bool := (decide (97 ≤ c) && decide (c ≤ 122)) || (decide (945 ≤ c) && decide (c ≤ 969))

def badR (c n : Nat) : Bool := !smallR c && (decide (n = 1) || decide (c < 48) || decide (57 < c))

def nameF (s : List UInt8) : Nat → Nat → Nat → Bool
  | 0, _, _ => false
  | f + 1, pos, n => if pos < s.length then if badR (runeAt s pos).1 (n + 1) then false else nameF s f (pos + (runeAt s pos).2) (n + 1) else decide (0 < n) && decide (n ≤ 12)

def nameB (s : List UInt8) : Bool := nameF s (s.length + 1) 0 0

theorem small_ok (c : Nat) : FnOk Try.prog tb 35 [21] [4] [.int c] [.bool (smallR c)] := by
  refine FnOk_of_V (fn := Try.f35) (bt := 4) (ok 0 _) Try.func35 rfl rfl rfl (by decide) fun hw => ?_
  apply V_of_VX
  refine VX_go3 (fs := []) (ok 0 _) eqs trivial 100 [] rfl trivial ?_
  refine VX_split 5 rfl rfl (fun h => ?_) (fun h => ?_)
  · have h1 : 97 ≤ c := by simp at h; omega
    refine VX_go3 (fs := []) (ok 0 _) eqs trivial 100 [] rfl trivial ?_
    refine VX_split 9 rfl rfl (fun h => ?_) (fun h => ?_)
    · have h2 : c ≤ 122 := by simp at h; omega
      refine VX_go3 (fs := []) (ok 0 _) eqs trivial 100 [] rfl trivial ?_
      refine ⟨.inr rfl, ?_⟩
      have : smallR c = true := by simp [smallR, h1, h2]
      rw [this]; rfl
    · have h2 : ¬ c ≤ 122 := by simp at h; omega
      refine VX_go3 (fs := []) (ok 0 _) eqs trivial 100 [] rfl trivial ?_
      refine VX_split 12 rfl rfl (fun h => ?_) (fun h => ?_)
      · have h3 : 945 ≤ c := by simp at h; omega
        refine VX_go3 (fs := []) (ok 0 _) eqs trivial 100 [] rfl trivial ?_
        refine ⟨.inr rfl, ?_⟩
        have : smallR c = decide ((c : Int) ≤ 969) := by simp [smallR, h1, h2, h3]; omega
        rw [this]; rfl
      · have h3 : ¬ 945 ≤ c := by simp at h; omega
        refine VX_go3 (fs := []) (ok 0 _) eqs trivial 100 [] rfl trivial ?_
        refine ⟨.inr rfl, ?_⟩
        have : smallR c = false := by simp [smallR, h2, h3]
        rw [this]; rfl
  · have h1 : ¬ 97 ≤ c := by simp at h; omega
    refine VX_go3 (fs := []) (ok 0 _) eqs trivial 100 [] rfl trivial ?_
    refine VX_split 12 rfl rfl (fun h => ?_) (fun h => ?_)
    · have h3 : 945 ≤ c := by simp at h; omega
      exact absurd h3 (by omega)
    · have h3 : ¬ 945 ≤ c := by simp at h; omega
      refine VX_go3 (fs := []) (ok 0 _) eqs trivial 100 [] rfl trivial ?_
      refine ⟨.inr rfl, ?_⟩
      have : smallR c = false := by simp [smallR, h1, h3]
      rw [this]; rfl

theorem name_ok (s : List UInt8) (hs : s.length ≤ 1000000) : FnOk Try.prog tb 26 [9] [4] [.str s] [.bool (nameB s)] := by
  refine FnOk_of_V (fn := Try.f26) (bt := 4) (ok 0 _) Try.func26 rfl rfl rfl (by decide) fun hw => ?_
  apply V_of_VX
  refine VX_go3 (fs := []) (ok 0 _) eqs trivial 100 [] rfl trivial ?_
  refine VX_range (ok 0 _) rfl rfl rfl rfl rfl rfl rfl rfl rfl ?_
  refine VX_go3 (fs := []) (ok 0 _) eqs trivial 100 [] rfl trivial ?_
  refine VX_loopA (fun a : Nat × Nat × Nat => nameF s a.1 a.2.1 a.2.2 = nameB s ∧ a.1 + a.2.2 = s.length + 1 ∧ a.2.2 ≤ a.2.1 ∧ a.2.2 ≤ s.length) (fun a => [(7, .it 0), (3, .t 3 (.e (.int a.2.2)))]) (fun a => [.iter s a.2.1]) (fun a => a.1) (s.length + 1, 0, 0) ⟨rfl, rfl, Nat.le_refl _, Nat.zero_le _⟩ ?_ ?_
  · exact wk1 rfl rfl (by simp [Blk.under]) (lc (ls rfl rfl) (lc (ls rfl rfl) lnil))
  · rintro ⟨f, pos, n⟩ ⟨h1, h2, h3, h4⟩
    simp only at h1 h2 h3 h4
    refine VX_go3 (fs := []) (ok 0 _) eqs trivial 100 [] rfl trivial ?_
    refine VX_next (ok 0 _) 3 21 rfl rfl rfl rfl rfl rfl rfl rfl (by simp [maxI]; omega) rfl (fun hp => ?_) (fun hp => ?_)
    · have hp : pos < s.length := hp
      obtain ⟨g, rfl⟩ : ∃ g, f = g + 1 := ⟨f - 1, by omega⟩
      have hw := (runeAt_w s pos).1
      have e1 : IntKind.wrap .i64 ((n : Int) + 1) = ((n + 1 : Nat) : Int) := by rw [w64 (by omega) (by omega)]; rfl
      unfold nameF at h1; rw [if_pos hp] at h1
      have go : ∀ x : Bool, badR (runeAt s pos).1 (n + 1) = false → nameF s g (pos + (runeAt s pos).2) (n + 1) = nameB s := fun _ hb => by rw [hb] at h1; simpa using h1
      have stop : badR (runeAt s pos).1 (n + 1) = true → nameB s = false := fun hb => by rw [hb] at h1; simpa using h1.symm
      generalize hc : (runeAt s pos).1 = c at *
      generalize (runeAt s pos).2 = w at *
      refine VX_go3 (fs := []) (ok 0 _) eqs trivial 100 [] rfl trivial ?_
      refine VX_callD (ok 0 _) [21] [] rfl rfl rfl rfl rfl rfl (small_ok c).g rfl rfl rfl ?_
      refine VX_go3 (fs := []) (ok 0 _) eqs trivial 100 [] rfl trivial ?_
      refine VX_split 16 rfl rfl (fun hsm => ?_) (fun hsm => ?_)
      · have hsm : smallR c = false := by simpa using hsm
        refine VX_go3 (fs := []) (ok 0 _) eqs trivial 100 [] rfl trivial ?_
        refine VX_split 19 rfl rfl (fun hn => ?_) (fun hn => ?_)
        · have hn : n + 1 = 1 := by simp at hn; rw [w64 (by omega) (by omega)] at hn; omega
          refine VX_go3 (fs := []) (ok 0 _) eqs trivial 100 [] rfl trivial ?_
          refine loop_ret ⟨.inr rfl, ?_⟩
          rw [stop (by simp [badR, hsm, hn])]; rfl
        · have hn : ¬ n + 1 = 1 := by simp at hn; rw [w64 (by omega) (by omega)] at hn; omega
          refine VX_go3 (fs := []) (ok 0 _) eqs trivial 100 [] rfl trivial ?_
          refine VX_split 23 rfl rfl (fun hl => ?_) (fun hl => ?_)
          · have hl : c < 48 := by simp at hl; omega
            refine VX_go3 (fs := []) (ok 0 _) eqs trivial 100 [] rfl trivial ?_
            refine loop_ret ⟨.inr rfl, ?_⟩
            rw [stop (by simp [badR, hsm, hl])]; rfl
          · have hl : ¬ c < 48 := by simp at hl; omega
            refine VX_go3 (fs := []) (ok 0 _) eqs trivial 100 [] rfl trivial ?_
            refine VX_split 27 rfl rfl (fun hu => ?_) (fun hu => ?_)
            · have hu : 57 < c := by simp at hu; omega
              refine VX_go3 (fs := []) (ok 0 _) eqs trivial 100 [] rfl trivial ?_
              refine loop_ret ⟨.inr rfl, ?_⟩
              rw [stop (by simp [badR, hsm, hu])]; rfl
            · have hu : ¬ 57 < c := by simp at hu; omega
              refine VX_go3 (fs := []) (ok 0 _) eqs trivial 100 [] rfl trivial ?_
              refine loop_nrm ⟨(g, pos + w, n + 1), by simp, ⟨go true (by simp [badR, hsm, hl, hu]; omega), by simp only; omega, by simp only; omega, by simp only; omega⟩, ?_⟩
              exact wk1 rfl rfl (by simp [Blk.under]) (lc (ls rfl rfl) (lc (li (by rw [e1])) lnil))
      · have hsm : smallR c = true := by simpa using hsm
        refine VX_go3 (fs := []) (ok 0 _) eqs trivial 100 [] rfl trivial ?_
        refine loop_nrm ⟨(g, pos + w, n + 1), by simp, ⟨go true (by simp [badR, hsm]), by simp only; omega, by simp only; omega, by simp only; omega⟩, ?_⟩
        exact wk1 rfl rfl (by simp [Blk.under]) (lc (ls rfl rfl) (lc (li (by rw [e1])) lnil))
    · have hp : ¬ pos < s.length := hp
      have hf : ∃ g, f = g + 1 := by
        cases f with
        | zero => exfalso; omega
        | succ g => exact ⟨g, rfl⟩
      obtain ⟨g, rfl⟩ := hf
      unfold nameF at h1; rw [if_neg hp] at h1
      refine VX_go3 (fs := []) (ok 0 _) eqs trivial 100 [] rfl trivial ?_
      apply loop_brk
      refine VX_go3 (fs := []) (ok 0 _) eqs trivial 100 [] rfl trivial ?_
      refine VX_split 30 rfl rfl (fun hn => ?_) (fun hn => ?_)
      · have hn : 0 < n := by simp at hn; omega
        refine VX_go3 (fs := []) (ok 0 _) eqs trivial 100 [] rfl trivial ?_
        refine ⟨.inr rfl, ?_⟩
        have : nameB s = decide ((n : Int) ≤ 12) := by rw [← h1]; simp [hn]; omega
        rw [this]; rfl
      · have hn : ¬ 0 < n := by simp at hn; omega
        refine VX_go3 (fs := []) (ok 0 _) eqs trivial 100 [] rfl trivial ?_
        refine ⟨.inr rfl, ?_⟩
        have : nameB s = false := by rw [← h1]; simp [hn]
        rw [this]; rfl

end Go.Den.Q34
/- What store, append and literal leave alone: for regions that draw. -/
namespace Go.Den
open Go
set_option linter.unusedSectionVars false
set_option linter.unusedSimpArgs false
set_option linter.unusedVariables false
theorem Frm.of {ts : List Nat} {H : Gh} {w : World} {H' : Gh} {w' : World} (hd : ∀ b o, H b o ≠ .none → b < w.heap.size) (hst : Stp H w H' w')
    (hoth : ∀ b o j, H b o = .mine j → j ∉ ts → H' b o = .mine j ∧ w'.cell? ⟨b, o, none⟩ = w.cell? ⟨b, o, none⟩) : Frm ts H w H' w' := by
  rintro b o u hu (⟨x, hx⟩ | ⟨i, hi, hm⟩)
  · have hlt := hd b o (by rw [hx]; simp)
    exact ⟨(hst.cell b hlt o (by rw [hx]; simp)).trans hu, .inl ⟨x, (hst.gh b hlt o (by rw [hx]; simp)).trans hx⟩⟩
  · obtain ⟨h1, h2⟩ := hoth b o i hm hi
    exact ⟨h2.trans hu, .inr ⟨i, hi, h1⟩⟩
theorem Frm.write {ts : List Nat} {H : Gh} {w : World} {i b o : Nat} {vs : List Value} (hm : ∀ j, j < vs.length → H b (o + j) = .mine i) (hi : i ∈ ts) : Frm ts H w H (w.setCells b o vs) := by
  intro b' o' u hu hs
  refine ⟨(setCells_cell fun e => ?_).trans hu, hs⟩
  subst e
  rcases Nat.lt_or_ge o' o with h1 | h1
  · exact .inl h1
  · rcases Nat.lt_or_ge o' (o + vs.length) with h2 | h2
    · have h3 := hm (o' - o) (by omega)
      rw [show o + (o' - o) = o' by omega] at h3
      rcases hs with ⟨x, hx⟩ | ⟨k, hk, hx⟩
      · rw [h3] at hx; cases hx
      · rw [h3] at hx; cases hx; exact absurd hi hk
    · exact .inr h2
theorem Frm.alloc {ts : List Nat} {H : Gh} {w : World} (hd : ∀ b o, H b o ≠ .none → b < w.heap.size) (ob : Obj) (f : Nat → Own) : Frm ts H w (hAlloc H w.heap.size f) (w.alloc ob) := by
  intro b o u hu hs
  have hne : b ≠ w.heap.size := by
    have : b < w.heap.size := hd b o (by rcases hs with ⟨x, hx⟩ | ⟨k, hk, hx⟩ <;> rw [hx] <;> simp)
    omega
  rw [hAlloc_old hne]
  exact ⟨(World.cell?_alloc_old w ob _ hne).trans hu, hs⟩
section
variable {C : Cx} (hC : Ok C) {o : Oper} {env : Env} {σ : List Blk} {ts : List Nat}
include hC

theorem OpF_store {t : TypeId} {s i : Nat} {p : List Nat} {ty : TypeId} {X : T} {x : Operand} {d : D} {y : T} (ho : o.op = .store t (.tmp s) x) (hs : getD env s = .ptr i p) (hi : σ[i]? = some (.tree ty X))
    (ht : same C.tb t (tyAt C.tb ty p) = true) (hx : opd C.tb env t x = some d) (hy : asT C.tb t d = some y) (hts : i ∈ ts) :
    OpF C o env σ ts (fun d' s' => d' = .any ∧ s' = σ.set i (.tree ty (setT p y X))) := by
  intro H β a w hr he hd K Qx hK
  have hv := he.get s
  rw [hs] at hv
  obtain ⟨ad, hv, hp⟩ := hv.ptr_inv
  obtain ⟨b, off, ty', X', o', u, rfl, e2, e1, e3, e4, cs, f2, f3, f4, f0⟩ := hr.at hC hp
  rw [hi] at e2; cases e2
  rw [e4] at ht
  have ht' := same_td ht
  obtain ⟨vs, hvc, hvt⟩ := asT_rel hC (opd_rel he hx) hy
  have hvu := hvt.cast hC.tab ht'
  have hle := offT_le hC.tab e3
  have hvl := hvu.len hC.tab
  have hcs : ∀ j, j < vs.length → ∃ v, w.cell? ⟨b, off + o' + j, none⟩ = some v ∧ H b (off + o' + j) = .mine i ∧ w.frozen? ⟨b, off + o' + j, none⟩ = false := fun j hj => by
    have hlt : o' + j < cs.length := by omega
    have := f3 (o' + j) cs[o' + j] (List.getElem?_eq_getElem hlt)
    rw [← Nat.add_assoc] at this
    exact ⟨_, this⟩
  have hcells := hvc.cells hvt hC.tab
  have hst := run_storeVar hC (t := t) (b := b) (off := off + o') (w := w) hcells (hvt.len hC.tab) hvt.td_ne (hvt.one hC.tab)
    (fun j hj => by obtain ⟨v, h1, _⟩ := hcs j hj; simp [h1]) (fun j hj => by obtain ⟨v, _, _, h3⟩ := hcs j hj; exact h3)
  have hrun : (execOp a.eval o).run C.P w = .ok .skip (w.setCells b (off + o') vs) := by
    have hve : a.eval (.tmp s) = .pointer (some ⟨b, off + o', none⟩) := hv
    simp [execOp, ho, hve, Instr.storeAt, Instr.sureAddr, hst]
  have r := hr.write (i := i) (b := b) (o := off + o') (vs := vs) (fun j hj => by obtain ⟨v, _, h2, _⟩ := hcs j hj; exact h2) (k := .tree ty (setT p y X)) e1
    ⟨_, hi, fun ty2 x2 h2 => by cases h2; exact ⟨_, rfl⟩, fun _ _ h2 => (by cases h2), fun _ _ h2 => (by cases h2), fun _ _ _ h2 => (by cases h2), fun _ _ _ h2 => (by cases h2)⟩
    (fun hev => by
      refine ⟨b, off, splice cs o' vs, rfl, by rw [splice_length (by omega)]; exact f2, fun hz => ⟨(f0 hz).1, (shape?_setCells b vs _ w _).trans (f0 hz).2⟩, fun j v hj => ?_, (f4.put hC.tab e3 hvu).mono hev⟩
      rw [splice_get (by omega)] at hj
      have hfz : ∀ q, (w.setCells b (off + o') vs).frozen? ⟨b, q, none⟩ = w.frozen? ⟨b, q, none⟩ := fun q => World.frozen?_setCells b vs _ w _
      by_cases h1 : j < o'
      · rw [if_pos h1] at hj
        obtain ⟨g1, g2, g3⟩ := f3 j v hj
        exact ⟨by rw [setCells_cell (fun _ => .inl (by omega))]; exact g1, g2, (hfz _).trans g3⟩
      · rw [if_neg h1] at hj
        by_cases h2 : j < o' + vs.length
        · rw [if_pos h2] at hj
          obtain ⟨u1, g1, g2, g3⟩ := hcs (j - o') (by omega)
          have hidx : off + o' + (j - o') = off + j := by omega
          rw [hidx] at g1 g2 g3
          refine ⟨?_, g2, (hfz _).trans g3⟩
          have := World.cell?_setCells_in b vs (off + o') w (fun q hq => by obtain ⟨v, k1, _⟩ := hcs q hq; simp [k1]) (j - o') (by omega)
          rw [hidx] at this
          rw [this]
          rw [List.getElem?_eq_getElem (by omega)] at hj; exact hj
        · rw [if_neg h2] at hj
          obtain ⟨g1, g2, g3⟩ := f3 j v hj
          exact ⟨by rw [setCells_cell (fun _ => .inr (by omega))]; exact g1, g2, (hfz _).trans g3⟩)
  simp only [Oper.wp, hrun, Oper.upon]
  exact hK _ _ _ H _ _ ⟨rfl, rfl⟩ r.1 .any r.2.2 r.2.1 (Frm.write (fun j hj => by obtain ⟨v, _, h2, _⟩ := hcs j hj; exact h2) hts)

theorem OpF_appendNew {x y : Operand} {t t2 u : TypeId} {dx dy : D} {xs ys : List E} (ho : o.op = .call { callee := .builtin .append, args := #[x, y], argTypes := #[t, t2] }) (ht : td C.tb t = .sl u) (hz : plain C.tb zf u = true)
    (hx : opd C.tb env t x = some dx) (hxs : freshE dx = some xs) (hsx : same C.tb (tagD dx) t = true) (hy : opd C.tb env t2 y = some dy) (hys : srcE C.tb t t2 dy = some ys)
    (hp : (xs.length + ys.length) * nb C.tb u ≤ maxL ∧ xs.length + ys.length ≤ maxL) (hts : σ.length ∈ ts) :
    OpF C o env σ ts (fun d' s' => d' = .t t (.lsl σ.length (xs ++ ys)) ∧ s' = σ ++ [.row u (xs ++ ys).length]) := by
  intro H β a w hr he hd K Qx hK
  have hvx := opd_rel he hx
  have hvy := opd_rel he hy
  obtain ⟨h2, hlen, news, hrow, hnew⟩ := srcE_rel hC ht hr.base hvy hys
  have hx0 : Rd C.tb H t [a.eval x] (.sl xs) ∧ RowRel C.tb H w σ.length (a.eval x) u xs.length := by
    generalize a.eval x = vx at hvx ⊢
    unfold freshE at hxs
    split at hxs <;> cases hxs
    · cases hvx with
      | @t ty v cs z aa bb => cases bb with
        | nsl b1 =>
          have ht' := same_td hsx
          have a' := aa
          simp [VC, isAggT, b1] at a'
          rw [← a']
          exact ⟨.sl0 ht, .inl ⟨rfl, rfl⟩⟩
    · cases hvx with
      | @t ty v cs z aa bb => cases bb with
        | @bsl t0 u0 b off xs b1 b2 =>
          have ht' := same_td hsx
          have a' := aa
          simp [VC, isAggT, b1] at a'
          rw [← a']
          exact ⟨b2.cast hC.tab ht', .inr ⟨b, off, _, rfl, Nat.le_refl _, fun j h1 h2 => by omega⟩⟩
  obtain ⟨v', w', H', hrun, hb', hpm, hrd', hrow', hoth, hit, hstp, hsame⟩ := append_core hC (ty := o.type) ht hz hr.base hx0.1 rfl hx0.2 h2 hlen rfl hnew hrow hp.1 hp.2
  have hex : (execOp a.eval o).run C.P w = .ok (.value v') w' := by
    rw [opdArgs2 ho]
    simp [builtin, hrun]
  have hev : Ev H β σ H' (β ++ [v']) (σ ++ [.row u (xs ++ ys).length]) := Ev.app hr.len hpm
  have hrel : Rel C.tb H' (β ++ [v']) (σ ++ [.row u (xs ++ ys).length]) w' := by
    refine ⟨hb'.pers, hb'.dom, by simp [hr.len], fun i k bv hk hv => ?_⟩
    rcases Nat.lt_or_ge i σ.length with hi | hi
    · rw [List.getElem?_append_left hi] at hk
      rw [List.getElem?_append_left (by rw [hr.len]; exact hi)] at hv
      exact (hr.blk i k bv hk hv).mono hev (fun b o h => have q := hoth b o i h (by omega); ⟨q.1, q.2.1, fun _ _ => q.2.2.1, q.2.2.2⟩) (fun b x h ho hh => hit b x i h (by omega) ho hh)
    · rw [List.getElem?_append_right hi] at hk
      rw [List.getElem?_append_right (by rw [hr.len]; exact hi), hr.len] at hv
      have hi0 : i - σ.length = 0 := by have := (List.getElem?_eq_some_iff.1 hk).1; simp at this; omega
      rw [hi0] at hk hv
      simp at hk hv
      subst hk; subst hv
      rw [show i = σ.length by omega]
      have : (xs ++ ys).length = xs.length + ys.length := by simp
      simpa [BlkRel, RowRel, this] using hrow'
  simp only [Oper.wp, hex, Oper.upon]
  refine hK v' _ w' H' _ _ ⟨rfl, rfl⟩ hrel ?_ hstp hev (.of hr.dom hstp fun b o j hj hn => have q := hoth b o j hj (fun e => hn (e ▸ hts)); ⟨q.1, q.2.1⟩)
  refine .t (cs := [v']) (by simp [VC, isAggT, ht]) (.lsl ht hrd' ⟨_, by simp, Nat.le_refl _, fun _ => by simp [← hr.len]⟩)

theorem OpF_appendRow {x y : Operand} {t t2 u : TypeId} {dx dy : D} {i n : Nat} {xs ys : List E} {tx : TypeId} (ho : o.op = .call { callee := .builtin .append, args := #[x, y], argTypes := #[t, t2] }) (ht : td C.tb t = .sl u) (hz : plain C.tb zf u = true)
    (hx : opd C.tb env t x = some dx) (hxs : dx = .t tx (.lsl i xs)) (hsx : same C.tb tx t = true) (hi : σ[i]? = some (.row u n)) (hn : n = xs.length) (hy : opd C.tb env t2 y = some dy) (hys : srcE C.tb t t2 dy = some ys)
    (hp : (xs.length + ys.length) * nb C.tb u ≤ maxL ∧ xs.length + ys.length ≤ maxL) (hts : i ∈ ts) :
    OpF C o env σ ts (fun d' s' => d' = .t t (.lsl i (xs ++ ys)) ∧ s' = σ.set i (.row u (xs ++ ys).length)) := by
  intro H β a w hr he hd K Qx hK
  have hvx := opd_rel he hx
  have hvy := opd_rel he hy
  subst hxs
  obtain ⟨h2, hlen, news, hrow, hnew⟩ := srcE_rel hC ht hr.base hvy hys
  have hil : i < σ.length := (List.getElem?_eq_some_iff.1 hi).1
  obtain ⟨hx0, hβ⟩ : Rd C.tb H t [a.eval x] (.sl xs) ∧ β[i]? = some (a.eval x) := by
    generalize a.eval x = vx at hvx ⊢
    cases hvx with
    | @t ty v cs z aa bb => cases bb with
      | lsl b1 b2 b3 =>
        have a' := aa
        simp [VC, isAggT, b1] at a'
        subst a'
        obtain ⟨n', k1, k2, k3⟩ := b3
        rw [hi] at k1; cases k1
        exact ⟨b2.cast hC.tab (same_td hsx), k3 hn⟩
  have hrw : RowRel C.tb H w i (a.eval x) u xs.length := by
    have := hr.blk i _ _ hi hβ
    rw [hn] at this
    exact this
  obtain ⟨v', w', H', hrun, hb', hpm, hrd', hrow', hoth, hit, hstp, hsame⟩ := append_core hC (ty := o.type) ht hz hr.base hx0 rfl hrw h2 hlen rfl hnew hrow hp.1 hp.2
  have hex : (execOp a.eval o).run C.P w = .ok (.value v') w' := by
    rw [opdArgs2 ho]
    simp [builtin, hrun]
  have hlenl : (xs ++ ys).length = xs.length + ys.length := by simp
  have hev : Ev H β σ H' (β.set i v') (σ.set i (.row u (xs ++ ys).length)) := by
    have hself : (σ.set i (.row u (xs ++ ys).length))[i]? = some (.row u (xs ++ ys).length) := by simp [hil]
    refine ⟨hpm, fun j ty z hj => ?_, fun j ety m hj => ?_, fun j s p hj => ?_, fun j ety oo zs hj => ?_, fun j k9 e9 zs hj => ?_⟩
    · have hne : i ≠ j := fun e => by subst e; rw [hi] at hj; cases hj
      exact ⟨List.getElem?_set_ne hne, z, by rw [List.getElem?_set_ne hne]; exact hj⟩
    · by_cases hji : i = j
      · subst hji
        rw [hi] at hj; cases hj
        refine ⟨_, hself, by omega, fun e => ?_⟩
        rw [List.getElem?_set_self (by rw [hr.len]; exact hil), hsame (by omega), hβ]
      · exact ⟨m, by rw [List.getElem?_set_ne hji]; exact hj, Nat.le_refl _, fun _ => List.getElem?_set_ne hji⟩
    · have hne : i ≠ j := fun e => by subst e; rw [hi] at hj; cases hj
      exact ⟨List.getElem?_set_ne hne, s, p, by rw [List.getElem?_set_ne hne]; exact hj⟩
    · have hne : i ≠ j := fun e => by subst e; rw [hi] at hj; cases hj
      exact ⟨oo, zs, by rw [List.getElem?_set_ne hne]; exact hj, Nat.le_refl _, fun _ => List.getElem?_set_ne hne⟩
    · have hne : i ≠ j := fun e => by subst e; rw [hi] at hj; cases hj
      exact ⟨List.getElem?_set_ne hne, zs, by rw [List.getElem?_set_ne hne]; exact hj⟩
  have hrel : Rel C.tb H' (β.set i v') (σ.set i (.row u (xs ++ ys).length)) w' := by
    refine ⟨hb'.pers, hb'.dom, by simp [hr.len], fun j k bv hk hv => ?_⟩
    by_cases hji : i = j
    · subst hji
      rw [List.getElem?_set_self hil] at hk
      rw [List.getElem?_set_self (by rw [hr.len]; exact hil)] at hv
      cases hk; cases hv
      rw [hlenl]
      exact hrow'
    · rw [List.getElem?_set_ne hji] at hk hv
      exact (hr.blk j k bv hk hv).mono hev (fun b o h => have q := hoth b o j h (fun e => hji e.symm); ⟨q.1, q.2.1, fun _ _ => q.2.2.1, q.2.2.2⟩) (fun b x h ho hh => hit b x j h (fun e => hji e.symm) ho hh)
  simp only [Oper.wp, hex, Oper.upon]
  refine hK v' _ w' H' _ _ ⟨rfl, rfl⟩ hrel ?_ hstp hev (.of hr.dom hstp fun b o j hj hn => have q := hoth b o j hj (fun e => hn (e ▸ hts)); ⟨q.1, q.2.1⟩)
  refine .t (cs := [v']) (by simp [VC, isAggT, ht]) (.lsl ht hrd' ⟨_, by simp [hil], Nat.le_refl _, fun _ => by simp [hr.len, hil]⟩)

theorem OpF_buildSlice {t u : TypeId} {len : Nat} {ps : Array (Nat × Operand)} {ys : List E} (ho : o.op = .buildSlice t len ps) (ht : td C.tb t = .sl u) (hz : plain C.tb zf u = true)
    (hys : denseE C.tb env u 0 ps.toList = some ys) (hl : ys.length = len) (hb : len * sz C.tb u ≤ 16777216) (hlm : len ≤ maxN) : OpF C o env σ ts (fun d' s' => d' = .t t (.bsl ys) ∧ s' = σ) := by
  intro H β a w hr he hd K Qx hK
  have hu := plain_ne hz
  have hlt := hC.tab.lt_of_td hu
  obtain ⟨z, hzr, hzc⟩ := hC.zero.get hC.tab hz w
  have hmap : (ps.map fun (i, x) => (i, a.eval x)).toList = ps.toList.map fun p => (p.1, a.eval p.2) := by simp
  have key : ∀ Z : Array Value, Z.size = len * sz C.tb u → ∃ cs, Instr.fill (fun i => some (i * sz C.tb u, sz C.tb u)) Z (ps.map fun (i, x) => (i, a.eval x)).toList = some cs.toArray ∧ RowC C.tb H u cs ys := fun Z hZ => by
    obtain ⟨cs, k1, k2⟩ := fill_dense hC he ps.toList ys 0 [] Z.toList hys (by simp) (by rw [hl]; simpa using hZ)
    exact ⟨cs, by rw [hmap]; simpa using k1, k2⟩
  have hnb : ¬ (len * sz C.tb u > 2 ^ 24) := by omega
  have hrun : ∃ cs, RowC C.tb H u cs ys ∧ (execOp a.eval o).run C.P w = .ok (.value (.slice (some ⟨w.heap.size, 0, none⟩) len len)) (w.alloc (.cells cs.toArray u)) := by
    simp only [execOp, ho, Instr.buildSlice, Sem.run_bind, run_underlying_of hC.tab (hC.tab.sl ht), Result.andThen, run_sizeOf_of hC.tab hlt, if_neg hnb, Sem.run_pure]
    by_cases h0 : len * sz C.tb u = 0
    · obtain ⟨cs, k1, k2⟩ := key #[] (by simp [h0])
      refine ⟨cs, k2, ?_⟩
      have h00 : Array.range 0 = #[] := rfl
      simp only [h0, if_true, Sem.run_pure, h00, Array.map_empty, k1]
      simp [newRow]
    · obtain ⟨cs, k1, k2⟩ := key ((Array.range (len * sz C.tb u)).map fun j => z.cells[j % z.cells.size]!) (by simp)
      refine ⟨cs, k2, ?_⟩
      simp only [if_neg h0, Sem.run_bind, hzr, Result.andThen, Sem.run_pure, k1]
      simp [newRow]
  obtain ⟨cs, k2, hrun⟩ := hrun
  let f : Nat → Own := fun o => if o < cs.length then .pers (cs.getD o undef) else .none
  have r := hr.alloc (.cells cs.toArray u) f [] [] rfl (fun o v hv => by
      have hv' : (if o < cs.length then Own.pers (cs.getD o undef) else .none) = .pers v := hv
      split at hv'
      · rename_i h; cases hv'
        rw [World.cell?_alloc_new]; simp only [List.getElem?_toArray, List.getD, List.getElem?_eq_getElem h, Option.getD_some]
      · cases hv') (fun i k bv hk => by simp at hk)
  simp only [List.append_nil] at r
  simp only [Oper.wp, hrun, Oper.upon]
  refine hK _ _ _ _ β σ ⟨rfl, rfl⟩ r.1 ?_ (Stp.alloc hr.dom _ _) r.2 (.alloc hr.dom _ _)
  have hpm := r.2.pers
  have hnag : isAggT C.tb t = false := by simp [isAggT, ht]
  refine .t (cs := [.slice (some ⟨w.heap.size, 0, none⟩) len len]) (by simp [VC, hnag]) ?_
  rw [← hl]
  refine .bsl ht ?_
  refine .sl (cs := cs) ht k2.len (fun j v hj => ?_) (fun i x hx => (k2.el i x hx).mono hpm) (Nat.le_refl _) (by rw [hl]; exact hlm)
  have hjl := (List.getElem?_eq_some_iff.1 hj).1
  rw [Nat.zero_add, hAlloc_new]
  show (if j < cs.length then Own.pers (cs.getD j undef) else .none) = _
  rw [if_pos hjl]; simp [List.getD, hj]

end
section
variable {C : Cx} (hC : Ok C) {o : Oper} {env : Env} {σ : List Blk} {ts : List Nat}
include hC
theorem dStore_okF {t s x} {r : DR} (ho : o.op = .store t (.tmp s) x) (h : dStore C env σ t s x = some r) (hts : ∀ i p, getD env s = .ptr i p → i ∈ ts) : OpF C o env σ ts (fun d s => d = r.d ∧ s = r.s) := by
  unfold dStore at h
  split at h
  · rename_i i p hs
    split at h
    · rename_i ty X hi
      split at h
      · rename_i ht
        split at h
        · rename_i d hd
          split at h
          · rename_i y hy; rw [setK_eq] at h; cases h; exact OpF_store hC ho hs hi ht hd hy (hts i p hs)
          · cases h
        · cases h
      · cases h
    · cases h
  · cases h
def apT (C : Cx) (env : Env) (σ : List Blk) (t : TypeId) (x : Operand) : Nat := match opd C.tb env t x with
  | some (.t _ (.lsl i _)) => i
  | _ => σ.length
theorem dAppend_okF {t t2 x y} {r : DR} (ho : o.op = .call { callee := .builtin .append, args := #[x, y], argTypes := #[t, t2] }) (h : dAppend C env σ t t2 x y = some r) (hp : r.p) (hts : apT C env σ t x ∈ ts) : OpF C o env σ ts (fun d s => d = r.d ∧ s = r.s) := by
  unfold dAppend at h
  split at h
  · rename_i u ht
    split at h
    · rename_i hz
      split at h
      · rename_i dx hx
        unfold apT at hts
        rw [hx] at hts
        split at h
        · rename_i dy hy
          split at h
          · rename_i ys hys
            split at h
            · rename_i xs hxs
              split at h
              · rename_i hsm
                rw [litK_eq, appK_eq] at h; cases h
                have hl : σ.length ∈ ts := by
                  revert hts
                  split
                  · rename_i i xs e; cases e; simp [freshE] at hxs
                  · exact id
                exact OpF_appendNew hC ho ht hz hx hxs hsm hy hys hp hl
              · cases h
            · split at h
              · split at h
                · rename_i hsm
                  split at h
                  · rename_i u' n hi
                    split at h
                    · rename_i hu
                      have hu := Nat.eq_of_beq_eq_true hu
                      subst hu
                      rw [setK_eq] at h; cases h; exact OpF_appendRow hC ho ht hz hx rfl hsm hi hp.1 hy hys hp.2 hts
                    · cases h
                  · cases h
                · cases h
              · cases h
          · cases h
        · cases h
      · cases h
    · cases h
  · cases h
def dLit (C : Cx) (env : Env) (σ : List Blk) (t : TypeId) (len : Nat) (ps : List (Nat × Operand)) : Option DR := match td C.tb t with
    | .sl u => match plain C.tb zf u with
      | true => match denseE C.tb env u 0 ps with
        | some ys => match Nat.beq ys.length len with
          | true => match Nat.ble (len * sz C.tb u) 16777216 && Nat.ble len 1000000 with
            | true => some ⟨True, .t t (.bsl ys), σ⟩
            | false => none
          | false => none
        | none => none
      | false => none
    | _ => none
theorem dLit_okF {t len} {ps : Array (Nat × Operand)} {r : DR} (ho : o.op = .buildSlice t len ps) (h : dLit C env σ t len ps.toList = some r) : OpF C o env σ ts (fun d s => d = r.d ∧ s = r.s) := by
  unfold dLit at h
  split at h
  · rename_i u ht
    split at h
    · rename_i hz
      split at h
      · rename_i ys hys
        split at h
        · rename_i hl
          split at h
          · rename_i hb
            simp only [Bool.and_eq_true] at hb
            have h1 := Nat.le_of_ble_eq_true hb.1
            have h2 := Nat.le_of_ble_eq_true hb.2
            cases h; exact OpF_buildSlice hC ho ht hz hys (Nat.eq_of_beq_eq_true hl) h1 (by unfold maxN; omega)
          · cases h
        · cases h
      · cases h
    · cases h
  · cases h
end
section
variable {C : Cx} {env : Env} {σ : List Blk} {Q : Post}
/-- A store in a region that draws. -/
theorem VX_storeO (hC : Ok C) {k : List It} {full : List Oper} {ts : List Nat} {i : Nat} {ord : List (Nat × Bool)} {o : Oper} {t : TypeId} {s j : Nat} {p : List Nat} {x : Operand} {d : D} {σ' : List Blk} {pp : Prop}
    (hi : full[i]? = some o) (hw : wants full env o = some true) (hn : dstOk C.n o.dst = true) (ho : o.op = .store t (.tmp s) x)
    (h : dStore C env σ t s x = some ⟨pp, d, σ'⟩) (hs : getD env s = .ptr j p) (hts : j ∈ ts)
    (hk : VX C Q (.o full ts ord :: k) .nrm (putD env o.dst d) σ') (hal : aloneB full ((i, false) :: ord) = true := by kernel_rfl) : VX C Q (.o full ts ((i, false) :: ord) :: k) .nrm env σ :=
  VX_opO hi hw hn (dStore_okF hC ho h fun i p e => by rw [hs] at e; cases e; exact hts) (fun d1 s1 ⟨a1, a2⟩ => by subst a1; subst a2; exact hk) hal
theorem VX_appendO (hC : Ok C) {k : List It} {full : List Oper} {ts : List Nat} {i : Nat} {ord : List (Nat × Bool)} {o : Oper} {t t2 : TypeId} {x y : Operand} {d : D} {σ' : List Blk} {pp : Prop}
    (hi : full[i]? = some o) (hw : wants full env o = some true) (hn : dstOk C.n o.dst = true) (ho : o.op = .call { callee := .builtin .append, args := #[x, y], argTypes := #[t, t2] })
    (h : dAppend C env σ t t2 x y = some ⟨pp, d, σ'⟩) (hp : pp) (hts : ts.contains (apT C env σ t x) = true)
    (hk : VX C Q (.o full ts ord :: k) .nrm (putD env o.dst d) σ') (hal : aloneB full ((i, false) :: ord) = true := by kernel_rfl) : VX C Q (.o full ts ((i, false) :: ord) :: k) .nrm env σ :=
  VX_opO hi hw hn (dAppend_okF hC ho h hp (by simpa using hts)) (fun d1 s1 ⟨a1, a2⟩ => by subst a1; subst a2; exact hk) hal
theorem VX_litO (hC : Ok C) {k : List It} {full : List Oper} {ts : List Nat} {i : Nat} {ord : List (Nat × Bool)} {o : Oper} {t : TypeId} {len : Nat} {ps : Array (Nat × Operand)} {d : D} {σ' : List Blk} {pp : Prop}
    (hi : full[i]? = some o) (hw : wants full env o = some true) (hn : dstOk C.n o.dst = true) (ho : o.op = .buildSlice t len ps)
    (h : dLit C env σ t len ps.toList = some ⟨pp, d, σ'⟩)
    (hk : VX C Q (.o full ts ord :: k) .nrm (putD env o.dst d) σ') (hal : aloneB full ((i, false) :: ord) = true := by kernel_rfl) : VX C Q (.o full ts ((i, false) :: ord) :: k) .nrm env σ :=
  VX_opO hi hw hn (dLit_okF hC ho h) (fun d1 s1 ⟨a1, a2⟩ => by subst a1; subst a2; exact hk) hal
end
end Go.Den
/- Variables of the package; places in rows that are written. -/
namespace Go.Den
open Go
set_option linter.unusedSectionVars false
set_option linter.unusedSimpArgs false
set_option linter.unusedVariables false

section
variable {C : Cx} (hC : Ok C) {o : Oper} {env : Env} {σ : List Blk}
include hC

/-- A load from what stands for good, of any operand. -/
theorem Ok_loadX {t : TypeId} {x : Operand} {pt : TypeId} {j : Nat} {u : TypeId} {xs : List E} {p : List Nat} (ho : o.op = .load t x) (hs : opd C.tb env pt x = some (.el u xs j p))
    (ht : same C.tb (tyAt C.tb u p) t = true) : OpOk C o env σ ⟨True, .t t (.e (getE p (xs.getD j .nilp))), σ⟩ :=
  OpOk_val fun H β a w hr he => by
    have hv := opd_rel he hs
    generalize hx : a.eval x = vx at hv
    cases hv with
    | @el u b off cs xs j p o' vt h1 h2 h3 h4 h5 =>
      rw [tyAt_of h5] at ht
      have ht' := same_td ht
      have hel := h3 j xs[j] (List.getElem?_eq_getElem h4)
      have hpart := (hel.part hC.tab h5).cast hC.tab ht'
      have hle := offT_le hC.tab h5
      have hin : j * sz C.tb u + sz C.tb u ≤ cs.length := by
        rw [h1]; have := Nat.mul_le_mul_right (sz C.tb u) (show j + 1 ≤ xs.length from h4); rwa [Nat.add_mul, Nat.one_mul] at this
      rw [seg_seg hle] at hpart
      obtain ⟨v, hrun, hvc⟩ := run_loadVar_all hC.tab (P := C.P) (b := b) (o := off + (j * sz C.tb u + o')) (hpart.len hC.tab) hpart.td_ne
      refine ⟨v, fun w' hw' => ?_, ?_⟩
      have hrun := hrun w' (fun i v hi => by
        have hil : i < sz C.tb vt := by
          rcases Nat.lt_or_ge i (sz C.tb vt) with h | h
          · exact h
          · rw [List.getElem?_eq_none (by simp [seg]; omega)] at hi; cases hi
        rw [seg_get hil] at hi
        have := hw' _ _ _ (hr.pers _ _ _ (h2 _ v hi)) (.inl ⟨_, h2 _ v hi⟩)
        rwa [← Nat.add_assoc] at this)
      · simp [execOp, ho, hx, Instr.loadAt, Instr.sureAddr, hrun]
      · have hg : xs.getD j .nilp = xs[j] := by simp [h4]
        rw [hg]
        exact .t hvc (.e hpart)

/-- A place in an array that stands for good. -/
theorem Ok_indexAddrX {t n j : Nat} {u v pt : TypeId} {xs : List E} {p : List Nat} {x ix : Operand} {iv : Int} (ho : o.op = .indexAddr t x ix) (hs : opd C.tb env pt x = some (.el u xs j p))
    (ht : td C.tb t = .arr n v) (hty : td C.tb (tyAt C.tb u p) = .arr n v) (hz : sz C.tb v ≠ 0) (hx : opdN env ix = some iv) (h0 : 0 ≤ iv) (h1 : iv < n) : OpOk C o env σ ⟨True, .el u xs j (p ++ [iv.toNat]), σ⟩ :=
  OpOk_val fun H β a w hr he => by
    have hv := opd_rel he hs
    generalize hve : a.eval x = vx at hv
    obtain ⟨k, hk⟩ := opdN_rel he hx
    cases hv with
    | @el u b off cs xs j p o' vt g1 g2 g3 g4 g5 =>
      rw [tyAt_of g5] at hty
      have := DRel.el (tb := C.tb) (H := H) (β := β) (σ := σ) g1 g2 g3 g4 (path := p ++ [iv.toNat]) (o := o' + iv.toNat * sz C.tb v) (v := v) (offT_snoc g5 (by simp [offT, hty]; omega))
      refine ⟨_, fun w' hw' => ?_, this⟩
      simp [execOp, ho, hve, hk, Instr.indexAt, asIntOf, run_underlying_of hC.tab (hC.tab.arr ht), Instr.sureAddr, h0, h1, run_sizeOf_of hC.tab (lt_of_sz hC hz), add_plain, Nat.add_assoc]

theorem msl_val {H : Gh} {β : List Value} {w : World} {ty u : TypeId} {i n : Nat} {ow : Bool} {xs : List E} {v : Value} (hr : Rel C.tb H β σ w) (hv : DRel C.tb H β σ v (.t ty (.msl i n))) (hi : σ[i]? = some (.mrow u ow xs)) (hn : n = xs.length) : β[i]? = some v := by
  cases hv with
  | @t ty v cs z aa bb => cases bb with
    | msl b1 b2 b3 =>
      have a' := aa
      simp [VC, isAggT, b1] at a'
      subst a'
      obtain ⟨ow, xs', k1, k2, k3⟩ := b3
      rw [hi] at k1; cases k1
      exact k3 hn

/-- A place in a row that is written. -/
theorem Ok_indexAddrM {t s i n : Nat} {u ty : TypeId} {xs : List E} {ix : Operand} {iv : Int} (ho : o.op = .indexAddr t (.tmp s) ix) (hs : getD env s = .t ty (.msl i n)) (hi : σ[i]? = some (.mrow u true xs)) (hn : n = xs.length)
    (ht : td C.tb t = .sl u) (hz : sz C.tb u ≠ 0) (hx : opdN env ix = some iv) (h0 : 0 ≤ iv) (h1 : iv < n) : OpOk C o env σ ⟨True, .mel u i n iv.toNat [], σ⟩ :=
  OpOk_val fun H β a w hr he => by
    have hv := he.get s
    rw [hs] at hv
    have hβ := msl_val hC hr hv hi hn
    obtain ⟨k, hk⟩ := opdN_rel he hx
    have hM : MRel C.tb H w i (a.tmps.getD s undef) u true xs := hr.blk i _ _ hi hβ
    rcases hM with ⟨a0, e0, e1, _⟩ | ⟨b, c, cs, zs, e1, e2, e3, e4, e5, e6, e7⟩
    · rw [e1] at hn; simp at hn; omega
    · have hve : a.eval (.tmp s) = .slice (some ⟨b, 0, none⟩) xs.length c := e1
      refine ⟨.pointer (some ⟨b, iv.toNat * sz C.tb u, none⟩), fun w' hw' => ?_, .mel (o := 0) (v := u) rfl ⟨true, xs, hi, by omega, fun _ _ => ⟨b, c, by rw [hβ, e1, hn], by simp⟩⟩⟩
      have h1' : iv < (xs.length : Int) := by omega
      simp [execOp, ho, hve, hk, Instr.indexAt, asIntOf, run_underlying_of hC.tab (hC.tab.sl ht), h0, h1', run_sizeOf_of hC.tab (lt_of_sz hC hz), add_plain]

/-- A load out of a row that is written. -/
theorem Ok_loadM {t : TypeId} {s i n j : Nat} {u : TypeId} {xs : List E} {p : List Nat} (ho : o.op = .load t (.tmp s)) (hs : getD env s = .mel u i n j p) (hi : σ[i]? = some (.mrow u true xs)) (hn : n = xs.length) (hj : j < n)
    (ht : same C.tb (tyAt C.tb u p) t = true) : OpOk C o env σ ⟨True, .t t (.e (getE p (xs.getD j .nilp))), σ⟩ :=
  OpOk_val fun H β a w hr he => by
    have hv := he.get s
    rw [hs] at hv
    generalize hx : a.tmps.getD s undef = vx at hv
    cases hv with
    | @mel u i n j path o' vt pa q1 q2 =>
      obtain ⟨ow, xs', k1, k2, k3⟩ := q2
      rw [hi] at k1; cases k1
      obtain ⟨b, c, h1, h2⟩ := k3 hn hj
      subst h2
      have hM : MRel C.tb H w i _ u true xs := hr.blk i _ _ hi h1
      rcases hM with ⟨a0, e0, e1, _⟩ | ⟨b', c', cs, zs, e1, e2, e3, e4, e5, e6, e7⟩
      · rw [e1] at hn; simp at hn; omega
      · cases e1
        have hjx : j < xs.length := by omega
        rw [tyAt_of q1] at ht
        have ht' := same_td ht
        have hel := e4.el j xs[j] (List.getElem?_eq_getElem hjx)
        have hpart := (hel.part hC.tab q1).cast hC.tab ht'
        have hle := offT_le hC.tab q1
        have hin : j * sz C.tb u + sz C.tb u ≤ cs.length := by
          rw [e4.len]; have := Nat.mul_le_mul_right (sz C.tb u) (show j + 1 ≤ xs.length from hjx); rwa [Nat.add_mul, Nat.one_mul] at this
        rw [seg_seg hle] at hpart
        obtain ⟨v, hrun, hvc⟩ := run_loadVar_all hC.tab (P := C.P) (b := b) (o := j * sz C.tb u + o') (hpart.len hC.tab) hpart.td_ne
        refine ⟨v, fun w' hw' => ?_, ?_⟩
        have hrun := hrun w' (fun k v hk => by
          have hkl : k < sz C.tb vt := by
            rcases Nat.lt_or_ge k (sz C.tb vt) with h | h
            · exact h
            · rw [List.getElem?_eq_none (by simp [seg]; omega)] at hk; cases hk
          rw [seg_get hkl] at hk
          have hkc := (List.getElem?_eq_some_iff.1 hk).1
          obtain ⟨g1, g2, g3⟩ := e7 _ v (by rw [List.getElem?_append_left hkc]; exact hk)
          exact hw' _ _ _ g1 (.inr ⟨i, by simp [rsOf, ho, hs], g2⟩))
        · simp [execOp, ho, Act.eval, hx, Instr.loadAt, Instr.sureAddr, hrun]
        · have hg : xs.getD j .nilp = xs[j] := by simp [hjx]
          rw [hg]
          exact .t hvc (.e hpart)

/-- A store into a row that is written. -/
theorem OpF_storeM {t : TypeId} {s i n j : Nat} {u : TypeId} {xs : List E} {x : Operand} {d : D} {y : E} {ts : List Nat} (ho : o.op = .store t (.tmp s) x) (hs : getD env s = .mel u i n j []) (hi : σ[i]? = some (.mrow u true xs)) (hn : n = xs.length) (hj : j < n)
    (ht : same C.tb t u = true) (hx : opd C.tb env t x = some d) (hy : asT C.tb t d = some (.e y)) (hts : i ∈ ts) :
    OpF C o env σ ts (fun d s => d = .any ∧ s = σ.set i (.mrow u true (xs.set j y))) := by
  intro H β a w hr he hd K Qx hK
  have hv := he.get s
  rw [hs] at hv
  generalize hvx : a.tmps.getD s undef = vx at hv
  cases hv with
  | @mel u i n j path o' vt pa q1 q2 =>
    obtain ⟨ow, xs', k1, k2, k3⟩ := q2
    rw [hi] at k1; cases k1
    obtain ⟨b, c, h1, h2⟩ := k3 hn hj
    subst h2
    have ho' : o' = 0 := by simp [offT] at q1; exact q1.1.symm
    subst ho'
    have hM : MRel C.tb H w i _ u true xs := hr.blk i _ _ hi h1
    rcases hM with ⟨a0, e0, e1, _⟩ | ⟨b', c', cs, zs, e1, e2, e3, e4, e5, e6, e7⟩
    · rw [e1] at hn; simp at hn; omega
    · cases e1
      simp only [Nat.add_zero] at hvx
      have hjx : j < xs.length := by omega
      have ht' := same_td ht
      obtain ⟨vs, hvc, hvt⟩ := asT_rel hC (opd_rel he hx) hy
      have hvu := hvt.cast hC.tab ht'
      have hvl := hvu.len hC.tab
      have hin : j * sz C.tb u + sz C.tb u ≤ cs.length := by
        rw [e4.len]; have := Nat.mul_le_mul_right (sz C.tb u) (show j + 1 ≤ xs.length from hjx); rwa [Nat.add_mul, Nat.one_mul] at this
      have hcs : ∀ k, k < vs.length → ∃ v, w.cell? ⟨b, j * sz C.tb u + k, none⟩ = some v ∧ H b (j * sz C.tb u + k) = .mine i ∧ w.frozen? ⟨b, j * sz C.tb u + k, none⟩ = false := fun k hk => by
        have hlt : j * sz C.tb u + k < cs.length := by omega
        exact ⟨_, e7 _ cs[j * sz C.tb u + k] (by rw [List.getElem?_append_left hlt, List.getElem?_eq_getElem hlt])⟩
      have hcells := hvc.cells hvt hC.tab
      have hst := run_storeVar hC (t := t) (b := b) (off := j * sz C.tb u) (w := w) hcells (hvt.len hC.tab) hvt.td_ne (hvt.one hC.tab)
        (fun k hk => by obtain ⟨v, h1, _⟩ := hcs k hk; simp [h1]) (fun k hk => by obtain ⟨v, _, _, h3⟩ := hcs k hk; exact h3)
      have hrun : (execOp a.eval o).run C.P w = .ok .skip (w.setCells b (j * sz C.tb u) vs) := by
        have hve : a.eval (.tmp s) = .pointer (some ⟨b, j * sz C.tb u, none⟩) := hvx
        simp [execOp, ho, hve, Instr.storeAt, Instr.sureAddr, hst]
      have hone : RowC C.tb H u vs [y] := ⟨by simp [hvl], fun k z hk => by
        have hk0 : k = 0 := by have := (List.getElem?_eq_some_iff.1 hk).1; simp at this; omega
        subst hk0
        simp at hk; subst hk
        have : seg vs (0 * sz C.tb u) (sz C.tb u) = vs := by simp [seg, ← hvl]
        rw [this]; exact hvu.rd⟩
      have hset : xs.set j y = putAt xs j [y] := by
        rw [List.set_eq_take_append_cons_drop, if_pos hjx]; simp [putAt]
      have hput := e4.put hone (off := j) (by simp; omega)
      rw [← hset] at hput
      have r := hr.write (i := i) (b := b) (o := j * sz C.tb u) (vs := vs) (fun k hk => by obtain ⟨v, _, h2, _⟩ := hcs k hk; exact h2) (k := .mrow u true (xs.set j y)) h1
        ⟨_, hi, fun _ _ h2 => (by cases h2), fun _ _ h2 => (by cases h2), fun _ _ h2 => (by cases h2), fun _ _ _ h2 => (by cases h2; exact ⟨_, rfl, by simp⟩), fun _ _ _ h2 => (by cases h2)⟩
        (fun hev => by
          refine .inr ⟨b, c, splice cs (j * sz C.tb u) vs, zs, by simp, by simpa using e2, by simpa using e3, hput, by rw [List.length_append, splice_length (by omega), ← List.length_append]; exact e5, fun hz => (shape?_setCells b vs _ w _).trans (e6 hz), fun k v hk => ?_⟩
          have hfz : ∀ q, (w.setCells b (j * sz C.tb u) vs).frozen? ⟨b, q, none⟩ = w.frozen? ⟨b, q, none⟩ := fun q => World.frozen?_setCells b vs _ w _
          by_cases h3 : k < j * sz C.tb u ∨ j * sz C.tb u + vs.length ≤ k
          · have hk' : (cs ++ zs)[k]? = some v := by
              rw [← hk]
              rcases Nat.lt_or_ge k cs.length with hkc | hkc
              · rw [List.getElem?_append_left hkc, List.getElem?_append_left (by rw [splice_length (by omega)]; exact hkc), splice_get (by omega)]
                rcases h3 with h3 | h3
                · rw [if_pos h3]
                · rw [if_neg (by omega), if_neg (by omega)]
              · rw [List.getElem?_append_right hkc, List.getElem?_append_right (by rw [splice_length (by omega)]; exact hkc), splice_length (by omega)]
            obtain ⟨g1, g2, g3⟩ := e7 k v hk'
            exact ⟨by rw [setCells_cell (fun _ => h3)]; exact g1, g2, (hfz _).trans g3⟩
          · have hk1 : j * sz C.tb u ≤ k := by omega
            have hk2 : k < j * sz C.tb u + vs.length := by omega
            rw [List.getElem?_append_left (by rw [splice_length (by omega)]; omega), splice_get (by omega), if_neg (by omega), if_pos hk2] at hk
            obtain ⟨u1, g1, g2, g3⟩ := hcs (k - j * sz C.tb u) (by omega)
            have hidx : j * sz C.tb u + (k - j * sz C.tb u) = k := by omega
            rw [hidx] at g1 g2 g3
            refine ⟨?_, g2, (hfz _).trans g3⟩
            have := World.cell?_setCells_in b vs (j * sz C.tb u) w (fun q hq => by obtain ⟨v, k1, _⟩ := hcs q hq; simp [k1]) (k - j * sz C.tb u) (by omega)
            rw [hidx] at this
            rw [this, ← hk, List.getElem?_eq_getElem (by omega)])
      simp only [Oper.wp, hrun, Oper.upon]
      exact hK _ _ _ H _ _ ⟨rfl, rfl⟩ r.1 .any r.2.2 r.2.1 (Frm.write (fun k hk => by obtain ⟨v, _, h2, _⟩ := hcs k hk; exact h2) hts)
end
end Go.Den
/- The machine, wider: variables of the package, rows that are written. -/
namespace Go.Den
open Go
set_option linter.unusedSectionVars false
set_option linter.unusedSimpArgs false
set_option linter.unusedVariables false

def d4Load (C : Cx) (env : Env) (σ : List Blk) (t : TypeId) (x : Operand) : Option DR := match opd C.tb env t x with
  | some (.el u xs j p) => match same C.tb (tyAt C.tb u p) t with
    | true => some ⟨True, .t t (.e (getE p (xs.getD j .nilp))), σ⟩
    | false => none
  | some (.mel u i n j p) => match x with
    | .tmp s => match σ[i]? with
      | some (.mrow u' true xs) => match Nat.beq u u' with
        | true => match same C.tb (tyAt C.tb u p) t with
          | true => some ⟨n = xs.length ∧ j < n, .t t (.e (getE p (xs.getD j .nilp))), σ⟩
          | false => none
        | false => none
      | _ => none
    | _ => none
  | _ => none
theorem d4Load_ok {C : Cx} (hC : Ok C) {o : Oper} {env : Env} {σ : List Blk} {t x} {r : DR} (ho : o.op = .load t x) (h : d4Load C env σ t x = some r) (hp : r.p) : OpOk C o env σ r := by
  have key : OpOk C o env σ ⟨True, r.d, r.s⟩ → OpOk C o env σ r := fun h => ⟨h.v, h.val⟩
  refine key ?_
  unfold d4Load at h
  split at h
  · rename_i u xs j p hx
    split at h
    · rename_i ht; cases h; exact Ok_loadX hC ho hx ht
    · cases h
  · rename_i u i n j p hx
    split at h
    · rename_i s
      split at h
      · rename_i u' xs hi
        split at h
        · rename_i hu
          have hu := Nat.eq_of_beq_eq_true hu
          subst hu
          split at h
          · rename_i ht
            cases h
            simp only [opd, Option.some.injEq] at hx
            exact Ok_loadM hC ho hx hi hp.1 hp.2 ht
          · cases h
        · cases h
      · cases h
    · cases h
  · cases h

def d4Index (C : Cx) (env : Env) (σ : List Blk) (t : TypeId) (x ix : Operand) : Option DR := match opdN env ix with
  | some iv => match td C.tb t with
    | .arr n v => match opd C.tb env t x with
      | some (.el u xs j p) => match td C.tb (tyAt C.tb u p) == .arr n v with
        | true => match Nat.beq (sz C.tb v) 0 with
          | false => pathK p iv.toNat fun q => some ⟨0 ≤ iv ∧ iv < n, .el u xs j q, σ⟩
          | true => none
        | false => none
      | _ => none
    | .sl u => match x with
      | .tmp s => match getD env s with
        | .t ty (.msl i n) => match σ[i]? with
          | some (.mrow u' true xs) => match Nat.beq u u' with
            | true => match Nat.beq (sz C.tb u) 0 with
              | false => some ⟨n = xs.length ∧ 0 ≤ iv ∧ iv < n, .mel u i n iv.toNat [], σ⟩
              | true => none
            | false => none
          | _ => none
        | _ => none
      | _ => none
    | _ => none
  | none => none
theorem d4Index_ok {C : Cx} (hC : Ok C) {o : Oper} {env : Env} {σ : List Blk} {t x ix} {r : DR} (ho : o.op = .indexAddr t x ix) (h : d4Index C env σ t x ix = some r) (hp : r.p) : OpOk C o env σ r := by
  have key : OpOk C o env σ ⟨True, r.d, r.s⟩ → OpOk C o env σ r := fun h => ⟨h.v, h.val⟩
  refine key ?_
  unfold d4Index pathK at h
  split at h
  · rename_i iv hiv
    split at h
    · rename_i n v ht
      split at h
      · rename_i u xs j p hx
        split at h
        · rename_i hty
          split at h
          · rename_i hz
            rw [appK_eq] at h; cases h
            exact Ok_indexAddrX hC ho hx ht (td_beq hty) (Nat.ne_of_beq_eq_false hz) hiv hp.1 hp.2
          · cases h
        · cases h
      · cases h
    · rename_i u ht
      split at h
      · rename_i s
        split at h
        · rename_i ty i n hs
          split at h
          · rename_i u' xs hi
            split at h
            · rename_i hu
              have hu := Nat.eq_of_beq_eq_true hu
              subst hu
              split at h
              · rename_i hz
                cases h
                exact Ok_indexAddrM hC ho hs hi hp.1 ht (Nat.ne_of_beq_eq_false hz) hiv hp.2.1 hp.2.2
              · cases h
            · cases h
          · cases h
        · cases h
      · cases h
    · cases h
  · cases h

def d4Store (C : Cx) (env : Env) (σ : List Blk) (t : TypeId) (s : Nat) (x : Operand) : Option DR := match getD env s with
  | .mel u i n j p => match p with
    | [] => match σ[i]? with
      | some (.mrow u' true xs) => match Nat.beq u u' with
        | true => match same C.tb t u with
          | true => match opd C.tb env t x with
            | some d => match asT C.tb t d with
              | some (.e y) => setK σ i (.mrow u true (xs.set j y)) fun σ' => some ⟨n = xs.length ∧ j < n, .any, σ'⟩
              | _ => none
            | none => none
          | false => none
        | false => none
      | _ => none
    | _ => none
  | _ => none
theorem d4Store_okF {C : Cx} (hC : Ok C) {o : Oper} {env : Env} {σ : List Blk} {t s x} {r : DR} {ts : List Nat} (ho : o.op = .store t (.tmp s) x) (h : d4Store C env σ t s x = some r) (hp : r.p) (hts : ∀ u i n j p, getD env s = .mel u i n j p → i ∈ ts) :
    OpF C o env σ ts (fun d s => d = r.d ∧ s = r.s) := by
  unfold d4Store at h
  split at h
  · rename_i u i n j p hs
    split at h
    · split at h
      · rename_i u' xs hi
        split at h
        · rename_i hu
          have hu := Nat.eq_of_beq_eq_true hu
          subst hu
          split at h
          · rename_i ht
            split at h
            · rename_i d hx
              split at h
              · rename_i y hy
                rw [setK_eq] at h; cases h
                exact OpF_storeM hC ho hs hi hp.1 hp.2 ht hx hy (hts _ _ _ _ _ hs)
              · cases h
            · cases h
          · cases h
        · cases h
      · cases h
    · cases h
  · cases h
theorem d4Store_ok {C : Cx} (hC : Ok C) {o : Oper} {env : Env} {σ : List Blk} {t s x} {r : DR} (ho : o.op = .store t (.tmp s) x) (h : d4Store C env σ t s x = some r) (hp : r.p) : OpOk C o env σ r := by
  have := d4Store_okF (ts := match getD env s with | .mel _ i _ _ _ => [i] | _ => []) hC ho h hp (fun u i n j p e => by rw [e]; simp)
  exact ⟨this.v, fun e => by simp [isVal, ho] at e⟩

def dop4 (eqs : List TypeId) (C : Cx) (env : Env) (σ : List Blk) (o : Oper) : Option DR := match dop3 eqs C env σ o with
  | some r => some r
  | none => match o.op with
    | .load t x => d4Load C env σ t x
    | .indexAddr t x ix => d4Index C env σ t x ix
    | .store t (.tmp s) x => d4Store C env σ t s x
    | _ => none
theorem dop4_ok {eqs : List TypeId} {C : Cx} (hC : Ok C) (he : eqTys C.P C.tb eqs) {env : Env} {σ : List Blk} {o : Oper} {r : DR} (h : dop4 eqs C env σ o = some r) (hp : r.p) : OpOk C o env σ r := by
  unfold dop4 at h
  split at h
  · rename_i r' h2; cases h; exact dop3_ok hC he h2 hp
  · split at h
    · rename_i ho; exact d4Load_ok hC ho h hp
    · rename_i ho; exact d4Index_ok hC ho h hp
    · rename_i ho; exact d4Store_ok hC ho h hp
    · cases h

def kit4 (eqs : List TypeId) (bk : List Nat) (fs : List (FuncId × Kon)) : Kit := ⟨bk, dop4 eqs, fs⟩
theorem kit4_ok {P : Program} {tb : Tab} {eqs : List TypeId} {fs : List (FuncId × Kon)} (he : eqTys P tb eqs) (bk : List Nat) (h : kok P tb fs) : KitOk P tb (kit4 eqs bk fs) :=
  ⟨fun C hP hT hC env σ o r h hp => dop4_ok hC (by rw [hP, hT]; exact he) h hp, h⟩
section
variable {C : Cx} {env : Env} {σ : List Blk} {Q : Post}
/-- Runs on, with the wider function. -/
theorem VX_go4 (hC : Ok C) {eqs : List TypeId} (he : eqTys C.P C.tb eqs) {fs : List (FuncId × Kon)} (hk : kok C.P C.tb fs) (n : Nat) (bk : List Nat) {k k' : List It} {e e' : Env} {s s' : List Blk} {x : X} {ps : List Prop} (h : run (kit4 eqs bk fs) C n [] k e s = ⟨ps, k', x, e', s'⟩) (hp : allP ps)
    (hv : VX C Q k' x e' s') : VX C Q k .nrm e s := VX_run n (kit4_ok he bk hk) hC h hp hv
/-- A store into a row in a region that draws. -/
theorem VX_storeMO (hC : Ok C) {k : List It} {full : List Oper} {ts : List Nat} {i : Nat} {ord : List (Nat × Bool)} {o : Oper} {t : TypeId} {s u b n j : Nat} {p : List Nat} {x : Operand} {d : D} {σ' : List Blk} {pp : Prop}
    (hi : full[i]? = some o) (hw : wants full env o = some true) (hn : dstOk C.n o.dst = true) (ho : o.op = .store t (.tmp s) x)
    (h : d4Store C env σ t s x = some ⟨pp, d, σ'⟩) (hp : pp) (hs : getD env s = .mel u b n j p) (hts : b ∈ ts)
    (hk : VX C Q (.o full ts ord :: k) .nrm (putD env o.dst d) σ') (hal : aloneB full ((i, false) :: ord) = true := by kernel_rfl) : VX C Q (.o full ts ((i, false) :: ord) :: k) .nrm env σ :=
  VX_opO hi hw hn (d4Store_okF hC ho h hp fun u i n j p e => by rw [hs] at e; cases e; exact hts) (fun d1 s1 ⟨a1, a2⟩ => by subst a1; subst a2; exact hk) hal
end
end Go.Den
