/- Calls as operations, with what they leave alone; how a contract with blocks is proved. -/
import Derived.Test.YtgdfegmdjdnbdaaDenDraw
namespace Go.Den
open Go
set_option linter.unusedSectionVars false
set_option linter.unusedSimpArgs false
set_option linter.unusedVariables false

/-- What a call hands back, in the caller's numbers. -/
def backR (σ : List Blk) (idx : List Nat) (Q0 : D → List Blk → Prop) : D → List Blk → Prop := fun d s =>
  ∃ d0 s0 τ, Q0 d0 s0 ∧ D.ren (fun j => some (backI idx σ.length j)) d0 = some d ∧ renBs (fun j => some (backI idx σ.length j)) s0 = some τ ∧ s = putBack σ idx τ

def disj (idx ts : List Nat) : Bool := idx.all fun i => ts.contains i

theorem T.ren_total {f : Nat → Nat} : ∀ (x : T), ∃ y, T.ren (fun j => some (f j)) x = some y := by
  have caps : ∀ l : List (Nat × List Nat), ∃ y, renCaps (fun j => some (f j)) l = some y := by
    intro l
    induction l with
    | nil => exact ⟨_, rfl⟩
    | cons c cs ih => obtain ⟨y, hy⟩ := ih; exact ⟨_, by simp only [renCaps, hy]; rfl⟩
  intro x
  induction x using T.rec (motive_2 := fun xs => ∃ ys, T.rens (fun j => some (f j)) xs = some ys) with
  | e x => exact ⟨_, rfl⟩
  | st xs ih => obtain ⟨ys, h⟩ := ih; exact ⟨_, by simp only [T.ren, h]; rfl⟩
  | nsl => exact ⟨_, rfl⟩
  | bsl xs => exact ⟨_, rfl⟩
  | lsl i xs => exact ⟨_, rfl⟩
  | ptr i p => exact ⟨_, rfl⟩
  | fn f' cs => obtain ⟨ys, h⟩ := caps cs; exact ⟨_, by simp only [T.ren, h]; rfl⟩
  | msl i n => exact ⟨_, rfl⟩
  | nil => exact ⟨_, rfl⟩
  | cons x xs h1 h2 => obtain ⟨y, hy⟩ := h1; obtain ⟨ys, hys⟩ := h2; exact ⟨_, by simp only [T.rens, hy, hys]; rfl⟩
theorem D.ren_total {f : Nat → Nat} : ∀ (x : D), ∃ y, D.ren (fun j => some (f j)) x = some y := by
  intro x
  induction x using D.rec (motive_2 := fun xs => ∃ ys, D.rens (fun j => some (f j)) xs = some ys) with
  | t ty x => obtain ⟨y, h⟩ := T.ren_total (f := f) x; exact ⟨_, by simp only [D.ren, h]; rfl⟩
  | ptr i p => exact ⟨_, rfl⟩
  | el => exact ⟨_, rfl⟩
  | asl => exact ⟨_, rfl⟩
  | tup xs ih => obtain ⟨ys, h⟩ := ih; exact ⟨_, by simp only [D.ren, h]; rfl⟩
  | it i => exact ⟨_, rfl⟩
  | kb => exact ⟨_, rfl⟩
  | mel => exact ⟨_, rfl⟩
  | any => exact ⟨_, rfl⟩
  | nil => exact ⟨_, rfl⟩
  | cons x xs h1 h2 => obtain ⟨y, hy⟩ := h1; obtain ⟨ys, hys⟩ := h2; exact ⟨_, by simp only [D.rens, hy, hys]; rfl⟩
theorem renBs_total {f : Nat → Nat} : ∀ (l : List Blk), ∃ y, renBs (fun j => some (f j)) l = some y
  | [] => ⟨_, rfl⟩
  | b :: l => by
    obtain ⟨ys, h⟩ := renBs_total (f := f) l
    cases b with
    | tree ty x => obtain ⟨y, hy⟩ := T.ren_total (f := f) x; exact ⟨_, by simp only [renBs, Blk.ren, hy, h]; rfl⟩
    | row u n => exact ⟨_, by simp only [renBs, Blk.ren, h]; rfl⟩
    | iter s p => exact ⟨_, by simp only [renBs, Blk.ren, h]; rfl⟩
    | dead => exact ⟨_, by simp only [renBs, Blk.ren, h]; rfl⟩
    | mrow u o xs => exact ⟨_, by simp only [renBs, Blk.ren, h]; rfl⟩

section
variable {C : Cx} (hC : Ok C) {o : Oper} {env : Env} {σ : List Blk}
include hC

theorem argsD_rel {H β n a} (he : EnvRel C.tb H β σ n a env) : ∀ {ts : List TypeId} {xs : List Operand} {ys : List D}, argsD C.tb env ts xs = some ys →
    ys.length = ts.length ∧ xs.length = ts.length ∧ ∀ (i : Nat) x d, xs[i]? = some x → ys[i]? = some d → DRel C.tb H β σ (a.eval x) d
  | [], [], ys, h => by simp [argsD] at h; subst h; exact ⟨rfl, rfl, fun i x d hx => by simp at hx⟩
  | t :: ts, x :: xs, ys, h => by
    unfold argsD at h
    split at h
    · rename_i y hy
      split at h
      · rename_i zs hz
        cases h
        obtain ⟨h1, h2, h3⟩ := argsD_rel he hz
        refine ⟨by simp [h1], by simp [h2], fun i q d hq hd => ?_⟩
        cases i with
        | zero =>
          simp at hq hd; subst hq; subst hd
          unfold argD at hy
          split at hy
          · rename_i dx hdx
            split at hy
            · rename_i z hz2
              cases hy
              obtain ⟨cs, h1, h2⟩ := asT_rel hC (opd_rel he hdx) hz2
              unfold outD
              simp only []
              split
              · rename_i e he2; exact .t h1 (.e (h2.toE he2))
              · exact ldD_rel h1 h2
            · cases hy; exact opd_rel he hdx
          · cases hy
        | succ i => exact h3 i q d (by simpa using hq) (by simpa using hd)
      · cases h
    · cases h
  | [], _ :: _, _, h => by simp [argsD] at h
  | _ :: _, [], _, h => by simp [argsD] at h

theorem OpF_call {f : FuncId} {xs : Array Operand} {tys : Array TypeId} {pts : List TypeId} {ds args : List D} {σ0 : List Blk} {Q0 : D → List Blk → Prop} {idx ts : List Nat}
    (ho : o.op = .call { callee := .value (.func f), args := xs, argTypes := tys }) (hx : argsD C.tb env pts xs.toList = some ds) (hds : D.rens (idxOf idx) ds = some args) (hp : pickB σ (idxOf idx) idx 0 = some σ0)
    (h : FnG C.P C.tb f σ0 args Q0) (hts : disj idx ts = true) : OpF C o env σ ts (backR σ idx Q0) := by
  intro H β a w hr he hd K Qx hK
  obtain ⟨⟨fn, hf, hn, hb⟩, hcall⟩ := h
  obtain ⟨l1, l2, l3⟩ := argsD_rel hC he hx
  have hrun : (execOp a.eval o).run C.P w = .ok (.enter f (xs.map a.eval)) w := by
    simp [execOp, ho, resolve, Act.eval, Deferred.ofValue, invoke, run_callFunc hf hn hb]
  simp only [Oper.wp, hrun, Oper.upon]
  obtain ⟨hpr, hren⟩ := hr.pick hp
  obtain ⟨d1, d2⟩ := D.rens_get hds
  obtain ⟨p1, p2⟩ := pickB_get hp
  have hargs : ArgsAt C.tb (pickH (idxOf idx) H) (idx.map fun i => β.getD i undef) σ0 (xs.map a.eval) args := by
    refine ⟨by simp [d1, l1]; simpa using l2, fun i v d hv hd => ?_⟩
    obtain ⟨x, hx1, hx2⟩ := d2 i d hd
    simp only [Array.getElem?_map, Option.map_eq_some_iff] at hv
    obtain ⟨y, hy, rfl⟩ := hv
    exact (l3 i y x (by simpa using hy) hx1).ren hren hx2
  have hmine : ∀ b o i, pickH (idxOf idx) H b o = .mine i → i < σ0.length := fun b o i e => by
    obtain ⟨i', _, e2⟩ := pickH_mine.1 e
    rw [p1]; exact (List.getElem?_eq_some_iff.1 (idxOf_get e2)).1
  refine (hcall _ _ w _ hpr hmine hargs).mono ?_
  rintro e w' ⟨v, d0, H', β', σ', rfl, hq, hle, hr', hv', hs, hk⟩
  rw [p1] at hle hk
  obtain ⟨τ, hτ⟩ := renBs_total (f := fun j => backI idx σ.length j) σ'
  obtain ⟨d, hd⟩ := D.ren_total (f := fun j => backI idx σ.length j) d0
  obtain ⟨k1, k2, k3, k4⟩ := hr.back hp hr' hs hk hle hτ
  refine hK v d w' _ _ _ ⟨d0, σ', τ, hq, hd, hτ, rfl⟩ k1 (hv'.ren k4 hd) k2 k3 ?_
  intro b o' u hu hst
  have hlt : b < w.heap.size := by
    rcases hst with ⟨x, hx⟩ | ⟨i, _, hi⟩
    · exact hr.dom b o' (by rw [hx]; simp)
    · exact hr.dom b o' (by rw [hi]; simp)
  have hni : ∀ i, H b o' = .mine i → i ∉ ts → i ∉ idx := fun i _ hi hc => hi (by simpa [disj] using (List.all_eq_true.1 hts i hc))
  have hnm : ∀ j, pickH (idxOf idx) H b o' ≠ .mine j := fun j e => by
    obtain ⟨i, e1, e2⟩ := pickH_mine.1 e
    rcases hst with ⟨x, hx⟩ | ⟨i', hi', hm⟩
    · rw [hx] at e1; cases e1
    · have he1 := hm.symm.trans e1
      cases he1
      exact hni _ hm hi' (List.mem_of_getElem? (idxOf_get e2))
  refine ⟨(hs.cell b hlt o' hnm).trans hu, ?_⟩
  rcases hst with ⟨x, hx⟩ | ⟨i, hi, hm⟩
  · exact .inl ⟨x, k3.pers _ _ _ hx⟩
  · refine .inr ⟨i, hi, ?_⟩
    have h0 : pickH (idxOf idx) H b o' = .none := by
      unfold pickH; rw [hm]
      cases hx : idxOf idx i with
      | none => simp [hx]
      | some q => exact absurd (List.mem_of_getElem? (idxOf_get hx)) (hni i hm hi)
    have h1 : H' b o' = .none := by rw [hs.gh b hlt o' hnm, h0]
    have hx : idxOf idx i = none := by
      cases hx : idxOf idx i with
      | none => rfl
      | some q => exact absurd (List.mem_of_getElem? (idxOf_get hx)) (hni i hm hi)
    simp [backH, h1, hm, hx]

/-! ### how a contract is proved -/

def resD (rows : Bool) (tb : Tab) (env : Env) (σ : List Blk) : List TypeId → List ResultVar → Option (List D)
  | [], [] => some []
  | t :: ts, r :: rs => match resOf tb env σ r with
    | some d => match asT tb t d with
      | some y => match resD rows tb env σ ts rs with
        | some zs => some (outD rows t y :: zs)
        | none => none
      | none => none
    | none => none
  | _, _ => none
def oneD : List D → D
  | [d] => d
  | ds => .tup ds

theorem outD_rel {rows t y H β v cs} (h1 : VC C.tb t v cs) (h2 : TRel C.tb H β σ t cs y) : DRel C.tb H β σ v (outD rows t y) := by
  unfold outD
  cases rows with
  | true => exact ldD_rel h1 h2
  | false =>
    simp only []
    split
    · rename_i e he2; exact .t h1 (.e (h2.toE he2))
    · exact ldD_rel h1 h2

theorem resD_rel {rows : Bool} {H β n a w} (hr : Rel C.tb H β σ w) (he : EnvRel C.tb H β σ n a env) : ∀ {ts : List TypeId} {rs : List ResultVar} {ys : List D}, resD rows C.tb env σ ts rs = some ys →
    ∃ vs : List Value, (rs.mapM (resRun a.tmps)).run C.P w = .ok vs w ∧ vs.length = ts.length ∧ ys.length = ts.length ∧
      ∀ (i : Nat) v d, vs[i]? = some v → ys[i]? = some d → DRel C.tb H β σ v d
  | [], [], ys, h => by simp [resD] at h; subst h; exact ⟨[], rfl, rfl, rfl, fun i v d hv => by simp at hv⟩
  | t :: ts, r :: rs, ys, h => by
    unfold resD at h
    split at h
    · rename_i d hd
      split at h
      · rename_i y hy
        split at h
        · rename_i zs hzs
          cases h
          obtain ⟨v, hrun, hv⟩ := resOf_rel hC hr he hd
          obtain ⟨vs, hrun2, h1, h2, h3⟩ := resD_rel hr he hzs
          obtain ⟨cs, hvc, htr⟩ := asT_rel hC hv hy
          refine ⟨v :: vs, ?_, by simp [h1], by simp [h2], fun i u q hu hq => ?_⟩
          · simp only [List.mapM_cons, Sem.run_bind, hrun, Result.andThen, hrun2]; rfl
          · cases i with
            | zero => simp at hu hq; subst hu; subst hq; exact outD_rel hC hvc htr
            | succ i => exact h3 i u q (by simpa using hu) (by simpa using hq)
        · cases h
      · cases h
    · cases h
  | [], _ :: _, _, h => by simp [resD] at h
  | _ :: _, [], _, h => by simp [resD] at h
end

def upto : Nat → List Nat
  | 0 => []
  | n + 1 => upto n ++ [n]
/-- What a body must come to. -/
def retP (rows : Bool) (tb : Tab) (k : Nat) (ts : List TypeId) (rs : List ResultVar) (keep : List Nat) (Q : D → List Blk → Prop) : Post := fun x e s =>
  (x = .nrm ∨ x = .ret) ∧ ∃ ds ds' s', resD rows tb e s ts rs = some ds ∧ pickB s (idxOf (upto k ++ keep)) (upto k ++ keep) 0 = some s' ∧ D.rens (idxOf (upto k ++ keep)) ds = some ds' ∧ Q (oneD ds') s'

theorem upto_get : ∀ {n i : Nat}, i < n → (upto n)[i]? = some i
  | 0, i, h => by omega
  | n + 1, i, h => by
    have hl : (upto n).length = n := by
      clear h
      induction n with
      | zero => rfl
      | succ n ih => simp [upto, ih]
    simp only [upto]
    rcases Nat.lt_or_ge i n with h1 | h1
    · rw [List.getElem?_append_left (by omega)]; exact upto_get h1
    · have : i = n := by omega
      subst this
      rw [List.getElem?_append_right (by omega), hl]; simp
theorem upto_length (n : Nat) : (upto n).length = n := by
  induction n with
  | zero => rfl
  | succ n ih => simp [upto, ih]

theorem FnG_of_V {P : Program} {tb : Tab} {bt : TypeId} {f : FuncId} {fn : Func} {c : Code} {σ0 : List Blk} {args : List D} {Q : D → List Blk → Prop} (rows : Bool) (keep : List Nat) (ts : List TypeId)
    (hC : Ok ⟨P, tb, σ0.length, fn.ntmps, bt⟩) (hf : P.funcs[f]? = some fn) (hn : (fn.name == "runtime.NumGoroutine") = false) (hb : fn.body = some c) (hle : Nat.ble args.length fn.ntmps = true)
    (hV : (∀ H β w vals, Rel tb H β σ0 w → ArgsAt tb H β σ0 vals args → V ⟨P, tb, σ0.length, fn.ntmps, bt⟩ c (argEnv 0 args) σ0 (retP rows tb σ0.length ts fn.results.toList keep Q))) :
    FnG P tb f σ0 args Q := by
  refine ⟨⟨fn, hf, hn, by rw [hb]; rfl⟩, fun H β w vals hr0 hmine hargs => ?_⟩
  have hle := Nat.le_of_ble_eq_true hle
  have hVV := hV H β w vals hr0 hargs
  obtain ⟨hsz, hrel⟩ := hargs
  refine calls_of_wp hf hb ?_
  have henv : EnvRel tb H β σ0 fn.ntmps { tmps := vals ++ Array.replicate (fn.ntmps - vals.size) undef, defers := [] } (argEnv 0 args) := by
    refine ⟨by simp; omega, fun t => ?_⟩
    rw [argEnv_get, if_pos (Nat.zero_le _), Nat.sub_zero]
    cases hd : args[t]? with
    | none => exact .any
    | some d =>
      have ht : t < vals.size := by rw [hsz]; exact (List.getElem?_eq_some_iff.1 hd).1
      have := hrel t vals[t] d (Array.getElem?_eq_getElem ht) hd
      have hge : (vals ++ Array.replicate (fn.ntmps - vals.size) undef).getD t undef = vals[t] := by
        rw [Array.getD_eq_getD_getElem?, Array.getElem?_append_left ht, Array.getElem?_eq_getElem ht]; rfl
      simp only [Option.getD_some]
      rw [hge]; exact this
  refine wp_mono (hVV H β _ w hr0 henv rfl) ?_
  rintro e a' w' ⟨x, hx, env', σ', H', β', ⟨hxx, ds, ds', s', hres, hpick, hren, hq⟩, r⟩
  obtain ⟨vs, hrun, h1, h2, h3⟩ := resD_rel hC r.rel r.env hres
  have hrr := run_results hrun
  obtain ⟨hpr, hR⟩ := r.rel.pick hpick
  obtain ⟨g1, g2⟩ := D.rens_get hren
  obtain ⟨p1, p2⟩ := pickB_get hpick
  have hitem : ∀ (i : Nat) v d, vs[i]? = some v → ds'[i]? = some d → DRel tb (pickH (idxOf (upto σ0.length ++ keep)) H') ((upto σ0.length ++ keep).map fun i => β'.getD i undef) s' v d := fun i v d hv hd => by
    obtain ⟨x, hx1, hx2⟩ := g2 i d hd
    exact (h3 i v x hv hx1).ren hR hx2
  have hv : DRel tb (pickH (idxOf (upto σ0.length ++ keep)) H') ((upto σ0.length ++ keep).map fun i => β'.getD i undef) s' (oneOf vs) (oneD ds') := by
    have tup : DRel tb (pickH (idxOf (upto σ0.length ++ keep)) H') ((upto σ0.length ++ keep).map fun i => β'.getD i undef) s' (.tuple vs.toArray) (.tup ds') :=
      .tup (by simp; omega) fun i v d hv hd => hitem i v d (by simpa using hv) hd
    have hll : vs.length = ds'.length := by omega
    match vs, ds', hll, hitem, tup with
    | [v], [y], _, hitem, _ => exact hitem 0 v _ rfl rfl
    | [], [], _, _, tup => exact tup
    | _ :: _ :: _, _ :: _ :: _, _, _, tup => exact tup
  have hst : Stp H w (pickH (idxOf (upto σ0.length ++ keep)) H') w' := by
    have hs := r.stp
    refine ⟨hs.os, hs.tape, hs.output, hs.size, fun b hb o hn => ?_, fun b hb o i h => ?_, hs.blk, hs.cell, hs.frz, hs.shp⟩
    · have := hs.gh b hb o hn
      rw [← this]
      unfold pickH
      split
      · rename_i i hi; rw [this] at hi; exact absurd hi (hn i)
      · rfl
    · obtain ⟨i', e1, _⟩ := pickH_mine.1 h
      exact hs.own b hb o i' e1
  have hidx : ∀ i, i < σ0.length → (upto σ0.length ++ keep)[i]? = some i := fun i hi => by
    rw [List.getElem?_append_left (by rw [upto_length]; exact hi)]; exact upto_get hi
  have hget : ∀ i, i < σ0.length → ∀ k, σ'[i]? = some k → ((upto σ0.length ++ keep).map fun i => β'.getD i undef)[i]? = β'[i]? ∧ ∃ k', s'[i]? = some k' ∧ alike k k' := fun i hi k hk => by
    have hil : i < s'.length := by rw [p1]; simp [upto_length]; omega
    obtain ⟨i2, k2, a1, a2, a3, a4⟩ := p2 i _ (List.getElem?_eq_getElem hil)
    rw [hidx i hi] at a1; cases a1
    rw [hk] at a3; cases a3
    have hib : i < β'.length := by rw [r.rel.len]; exact (List.getElem?_eq_some_iff.1 hk).1
    exact ⟨by rw [List.getElem?_map, hidx i hi]; simp [List.getD, List.getElem?_eq_getElem hib], _, List.getElem?_eq_getElem hil, Blk.ren_alike a4⟩
  have hkp : Kp σ0.length β σ0 ((upto σ0.length ++ keep).map fun i => β'.getD i undef) s' := by
    refine ⟨fun i hi ty x h => ?_, fun i hi u n h => ?_, fun i hi s p h => ?_, fun i hi u o xs h => ?_⟩
    · obtain ⟨e1, x', e2⟩ := r.kp.tree i hi ty x h
      obtain ⟨f1, k', f2, f3⟩ := hget i hi _ e2
      cases k' with
      | tree ty' x2 => cases f3; exact ⟨f1.trans e1, x2, f2⟩
      | row => cases f3
      | iter => cases f3
      | dead => cases f3
      | mrow => cases f3
    · obtain ⟨n', e2, e3, e4⟩ := r.kp.row i hi u n h
      obtain ⟨f1, k', f2, f3⟩ := hget i hi _ e2
      cases k' with
      | row u' n2 => obtain ⟨rfl, rfl⟩ := f3; exact ⟨n', f2, e3, fun e => f1.trans (e4 e)⟩
      | tree => cases f3
      | iter => cases f3
      | dead => cases f3
      | mrow => cases f3
    · obtain ⟨e1, s2, p2', e2⟩ := r.kp.iter i hi s p h
      obtain ⟨f1, k', f2, f3⟩ := hget i hi _ e2
      cases k' with
      | iter s' p' => obtain ⟨rfl, rfl⟩ := f3; exact ⟨f1.trans e1, s2, p2', f2⟩
      | tree => cases f3
      | row => cases f3
      | dead => cases f3
      | mrow => cases f3
    · obtain ⟨o2, xs2, e2, e3, e4⟩ := r.kp.mrow i hi u o xs h
      obtain ⟨f1, k', f2, f3⟩ := hget i hi _ e2
      cases k' with
      | mrow u' o3 xs3 => obtain ⟨rfl, rfl, rfl⟩ := f3; exact ⟨_, _, f2, e3, fun e => f1.trans (e4 e)⟩
      | tree => cases f3
      | row => cases f3
      | dead => cases f3
      | iter => cases f3
  have goal : ∃ v d H'' β'' σ'', Ending.returned (oneOf vs) = .returned v ∧ Q d σ'' ∧ σ0.length ≤ σ''.length ∧ Rel tb H'' β'' σ'' w' ∧ DRel tb H'' β'' σ'' v d ∧ Stp H w H'' w' ∧ Kp σ0.length β σ0 β'' σ'' :=
    ⟨_, _, _, _, _, rfl, hq, by rw [p1]; simp [upto_length], hpr, hv, hst, hkp⟩
  cases e with
  | normal => exact ⟨r.defers, _, hrr, goal⟩
  | ret => exact ⟨r.defers, _, hrr, goal⟩
  | exit id => cases hx; rcases hxx with h | h <;> cases h
  | goto l => cases hx
  | panic ch => cases hx
  | outgrown => cases hx
end Go.Den
