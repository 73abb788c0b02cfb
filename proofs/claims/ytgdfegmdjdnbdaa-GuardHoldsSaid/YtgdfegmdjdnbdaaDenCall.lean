/- Contracts of functions, calls, and how a contract is proved. -/
import Derived.Test.YtgdfegmdjdnbdaaDenOp8
namespace Go.Den
open Go
set_option linter.unusedSectionVars false
set_option linter.unusedSimpArgs false
set_option linter.unusedVariables false

/-- Data that some memory could hold at a type. -/
def Wt (tb : Tab) (t : TypeId) (x : E) : Prop := ∃ H cs, Rd tb H t cs x

def typed : List TypeId → List E → List D
  | t :: ts, x :: xs => .t t (.e x) :: typed ts xs
  | _, _ => []
def retD (ts : List TypeId) (rs : List E) : D := match ts, rs with
  | [t], [x] => .t t (.e x)
  | ts, rs => .tup (typed ts rs)

structure Base (H : Gh) (w : World) : Prop where
  pers : ∀ b o v, H b o = .pers v → w.cell? ⟨b, o, none⟩ = some v
  dom : ∀ b o, H b o ≠ .none → b < w.heap.size

theorem Rel.base {tb H β σ w} (h : Rel tb H β σ w) : Base H w := ⟨h.pers, h.dom⟩
theorem Base.rel {tb H w} (h : Base H w) : Rel tb H [] [] w := ⟨h.pers, h.dom, rfl, fun i k bv hk _ => by simp at hk⟩

def ArgsAt (tb : Tab) (H : Gh) (β : List Value) (σ : List Blk) (vals : Array Value) (ds : List D) : Prop :=
  vals.size = ds.length ∧ ∀ (i : Nat) v d, vals[i]? = some v → ds[i]? = some d → DRel tb H β σ v d

/-- The contract of a function that is handed data and hands back data. -/
def FnOk (P : Program) (tb : Tab) (f : FuncId) (pts rts : List TypeId) (args rs : List E) : Prop :=
  (∃ fn, P.funcs[f]? = some fn ∧ (fn.name == "runtime.NumGoroutine") = false ∧ fn.body.isNone = false) ∧ args.length = pts.length ∧
  ∀ H w vals, Base H w → (∀ b o i, H b o ≠ .mine i) → ArgsAt tb H [] [] vals (typed pts args) →
    Calls P f vals w fun e w' => ∃ v H', e = .returned v ∧ Base H' w' ∧ DRel tb H' [] [] v (retD rts rs) ∧ Stp H w H' w'

def argE (tb : Tab) (env : Env) (t : TypeId) (x : Operand) : Option E := match opd tb env t x with
  | some d => match asT tb t d with
    | some y => toE y
    | none => none
  | none => none
def argsE (tb : Tab) (env : Env) : List TypeId → List Operand → Option (List E)
  | [], [] => some []
  | t :: ts, x :: xs => match argE tb env t x with
    | some y => match argsE tb env ts xs with
      | some ys => some (y :: ys)
      | none => none
    | none => none
  | _, _ => none

/-- A ghost without a function's own cells. -/
def strip (H : Gh) : Gh := fun b o => match H b o with
  | .mine _ => .none
  | x => x
theorem strip_pers {H b o v} : strip H b o = .pers v ↔ H b o = .pers v := by unfold strip; split <;> simp_all
theorem strip_mine {H b o i} : strip H b o ≠ .mine i := by
  unfold strip; split
  · simp
  · rename_i x hx; exact fun h => hx i h
/-- The caller's ghost behind a call. -/
def merge (H : Gh) (n : Nat) (H' : Gh) : Gh := fun b o => if b < n then H b o else strip H' b o

theorem Rd.strip {tb H t cs x} (h : Rd tb H t cs x) : Rd tb (Den.strip H) t cs x := h.mono fun _ _ _ h => strip_pers.2 h

section
variable {C : Cx} (hC : Ok C) {o : Oper} {env : Env} {σ : List Blk}

include hC in
theorem argE_rel {t x y H β n a} (he : EnvRel C.tb H β σ n a env) (h : argE C.tb env t x = some y) : DRel C.tb (strip H) [] [] (a.eval x) (.t t (.e y)) := by
  unfold argE at h
  split at h
  · rename_i d hd
    split at h
    · rename_i z hz
      obtain ⟨cs, h1, h2⟩ := asT_rel hC (opd_rel he hd) hz
      exact .t h1 (.e (h2.toE h).strip)
    · cases h
  · cases h
include hC in
theorem argsE_rel {H β n a} (he : EnvRel C.tb H β σ n a env) : ∀ {ts : List TypeId} {xs : List Operand} {ys : List E}, argsE C.tb env ts xs = some ys →
    ys.length = ts.length ∧ xs.length = ts.length ∧ ∀ (i : Nat) x d, xs[i]? = some x → (typed ts ys)[i]? = some d → DRel C.tb (strip H) [] [] (a.eval x) d
  | [], [], ys, h => by simp [argsE] at h; subst h; exact ⟨rfl, rfl, fun i x d hx => by simp at hx⟩
  | t :: ts, x :: xs, ys, h => by
    unfold argsE at h
    split at h
    · rename_i y hy
      split at h
      · rename_i zs hz
        cases h
        obtain ⟨h1, h2, h3⟩ := argsE_rel he hz
        refine ⟨by simp [h1], by simp [h2], fun i q d hq hd => ?_⟩
        cases i with
        | zero => simp at hq; simp [typed] at hd; subst hq; subst hd; exact argE_rel hC he hy
        | succ i => exact h3 i q d (by simpa using hq) (by simpa [typed] using hd)
      · cases h
    · cases h
  | [], _ :: _, _, h => by simp [argsE] at h
  | _ :: _, [], _, h => by simp [argsE] at h

theorem typed_length : ∀ {ts : List TypeId} {xs : List E}, xs.length = ts.length → (typed ts xs).length = ts.length
  | [], [], _ => rfl
  | t :: ts, x :: xs, h => by simp [typed, typed_length (ts := ts) (xs := xs) (by simpa using h)]

/-- What a call leaves of the caller's state. -/
theorem Rel.after {tb H β σ w H' w'} (h : Rel tb H β σ w) (hb : Base H' w') (hs : Stp (strip H) w H' w') :
    Rel tb (merge H w.heap.size H') β σ w' ∧ Stp H w (merge H w.heap.size H') w' ∧ Ev H β σ (merge H w.heap.size H') β σ ∧ (∀ b o v, H' b o = .pers v → merge H w.heap.size H' b o = .pers v) := by
  have old : ∀ b o, b < w.heap.size → merge H w.heap.size H' b o = H b o := fun b o hb => by simp [merge, hb]
  have hold : ∀ b o, b < w.heap.size → H' b o = strip H b o := fun b o hb => hs.gh b hb o (fun i => strip_mine)
  have hcell : ∀ b o, b < w.heap.size → w'.cell? ⟨b, o, none⟩ = w.cell? ⟨b, o, none⟩ := fun b o hb => hs.cell b hb o (fun i => strip_mine)
  have hfrz : ∀ b o v, w.cell? ⟨b, o, none⟩ = some v → b < w.heap.size → w'.frozen? ⟨b, o, none⟩ = w.frozen? ⟨b, o, none⟩ := fun b o v hv hb => hs.frz b hb o v hv (fun i => strip_mine)
  have hblk : ∀ b, b < w.heap.size → w'.heap[b]? = w.heap[b]? := fun b hb => hs.blk b hb (fun o i => strip_mine)
  have hpm : ∀ b o v, H b o = .pers v → merge H w.heap.size H' b o = .pers v := fun b o v e => by rw [old b o (h.dom b o (by rw [e]; simp))]; exact e
  have hev : Ev H β σ (merge H w.heap.size H') β σ := ⟨hpm, fun _ _ x e => ⟨rfl, x, e⟩, fun _ _ n e => ⟨n, e, Nat.le_refl _, fun _ => rfl⟩, fun _ s p e => ⟨rfl, s, p, e⟩, fun _ _ o xs e => ⟨o, xs, e, Nat.le_refl _, fun _ => rfl⟩⟩
  refine ⟨⟨?_, ?_, h.len, ?_⟩, ?_, hev, ?_⟩
  · intro b o v e
    by_cases hb' : b < w.heap.size
    · rw [old b o hb'] at e; rw [hcell b o hb']; exact h.pers b o v e
    · have : strip H' b o = .pers v := by simpa [merge, hb'] using e
      exact hb.pers b o v (strip_pers.1 this)
  · intro b o e
    by_cases hb' : b < w.heap.size
    · exact Nat.lt_of_lt_of_le hb' hs.size
    · refine hb.dom b o fun h0 => e ?_
      simp [merge, hb', strip, h0]
  · intro i k bv hk hv
    refine (h.blk i k bv hk hv).mono hev (fun b o e => ?_) (fun b s p e he => ?_)
    · have hb' := h.dom b o (by rw [e]; simp)
      exact ⟨by rw [old b o hb']; exact e, hcell b o hb', fun v hv => hfrz b o v hv hb', hs.shp b hb'⟩
    · have hb' := h.dom b 0 (by rw [e 0]; simp)
      rw [hblk b hb']; exact he
  · exact ⟨hs.os, hs.tape, hs.output, hs.size, fun b hb' o _ => old b o hb', fun b hb' o i e => ⟨i, by rw [old b o hb'] at e; exact e⟩, fun b hb' _ => hblk b hb', fun b hb' o _ => hcell b o hb', fun b hb' o v hv _ => hfrz b o v hv hb', hs.shp⟩
  · intro b o v e
    by_cases hb' : b < w.heap.size
    · rw [old b o hb']; rw [hold b o hb'] at e; exact strip_pers.1 e
    · simp only [merge, hb', if_false]; exact strip_pers.2 e

theorem DRel.lift0 {tb H v d} (h : DRel tb H [] [] v d) (β' : List Value) (σ' : List Blk) {H' : Gh} (hp : ∀ b o v, H b o = .pers v → H' b o = .pers v) : DRel tb H' β' σ' v d :=
  h.mono ⟨hp, fun i ty x e => by simp at e, fun i ety n e => by simp at e, fun i s p e => by simp at e, fun i u o xs e => by simp at e⟩

theorem run_callFunc {P : Program} {f : FuncId} {args : Array Value} {fn : Func} {w : World} (hf : P.funcs[f]? = some fn) (hn : (fn.name == "runtime.NumGoroutine") = false) (hb : fn.body.isNone = false) :
    (callFunc f args).run P w = .ok (.enter f args) w := by
  have hb' : fn.body ≠ none := by intro h; rw [h] at hb; cases hb
  have hn' : fn.name ≠ "runtime.NumGoroutine" := by intro h; rw [h] at hn; cases hn
  simp [callFunc, hf, hb', hn']

include hC in
theorem Ok_call {f : FuncId} {xs : Array Operand} {ts : Array TypeId} {pts rts : List TypeId} {args rs : List E} (ho : o.op = .call { callee := .value (.func f), args := xs, argTypes := ts })
    (hx : argsE C.tb env pts xs.toList = some args) (h : FnOk C.P C.tb f pts rts args rs) : OpOk C o env σ ⟨True, retD rts rs, σ⟩ := by
  refine OpOk_do (by simp [isVal, ho]) ?_
  intro H β a w hr he hd K Qx hK
  obtain ⟨⟨fn, hf, hn, hb⟩, hal, hcall⟩ := h
  obtain ⟨l1, l2, l3⟩ := argsE_rel hC he hx
  have hrun : (execOp a.eval o).run C.P w = .ok (.enter f (xs.map a.eval)) w := by
    simp [execOp, ho, resolve, Act.eval, Deferred.ofValue, invoke, run_callFunc hf hn hb]
  simp only [Oper.wp, hrun, Oper.upon]
  have hargs : ArgsAt C.tb (strip H) [] [] (xs.map a.eval) (typed pts args) := by
    refine ⟨by rw [typed_length l1]; simpa using l2, fun i v d hv hd => ?_⟩
    simp only [Array.getElem?_map, Option.map_eq_some_iff] at hv
    obtain ⟨x, hx, rfl⟩ := hv
    exact l3 i x d (by simpa using hx) hd
  refine (hcall (strip H) w _ ⟨fun b o v e => hr.pers b o v (strip_pers.1 e), fun b o e => hr.dom b o fun h0 => e (by simp [strip, h0])⟩ (fun _ _ _ => strip_mine) hargs).mono ?_
  rintro e w' ⟨v, H', rfl, hb', hv', hs⟩
  obtain ⟨k1, k2, k3, k4⟩ := hr.after hb' hs
  exact hK v _ w' _ β σ ⟨rfl, rfl⟩ k1 (hv'.lift0 β σ k4) k2 k3

/-! ### how a contract is proved -/

def argEnv : Nat → List D → Env
  | _, [] => []
  | i, d :: ds => (i, d) :: argEnv (i + 1) ds
theorem argEnv_get : ∀ (ds : List D) (i t : Nat), getD (argEnv i ds) t = if i ≤ t then (ds[t - i]?).getD .any else .any
  | [], i, t => by simp [argEnv, getD]
  | d :: ds, i, t => by
    have hg : getD (argEnv i (d :: ds)) t = match Nat.beq i t with | true => d | false => getD (argEnv (i + 1) ds) t := rfl
    rw [hg]
    cases hb : Nat.beq i t with
    | true => have := Nat.eq_of_beq_eq_true hb; subst this; simp
    | false =>
      have hne := Nat.ne_of_beq_eq_false hb
      simp only []
      rw [argEnv_get ds (i + 1) t]
      by_cases h : i + 1 ≤ t
      · rw [if_pos h, if_pos (by omega), show t - i = (t - (i + 1)) + 1 by omega]; simp
      · rw [if_neg h, if_neg (by omega)]

def resOf (tb : Tab) (env : Env) (σ : List Blk) : ResultVar → Option D
  | .tmp t => some (getD env t)
  | .cell a ty => match getD env a with
    | .ptr i p => match σ[i]? with
      | some (.tree ty' X) => match same tb (tyAt tb ty' p) ty with
        | true => some (ldD ty (getT p X))
        | false => none
      | _ => none
    | _ => none
/-- What the model reads as a result. -/
def resRun (tmps : Array Value) : ResultVar → Sem Value
  | .tmp t => pure (tmps.getD t undef)
  | .cell a t => do loadVar t (← asAddr (tmps.getD a undef))
def resE (tb : Tab) (env : Env) (σ : List Blk) : List TypeId → List ResultVar → Option (List E)
  | [], [] => some []
  | t :: ts, r :: rs => match resOf tb env σ r with
    | some d => match asT tb t d with
      | some y => match toE y with
        | some z => match resE tb env σ ts rs with
          | some zs => some (z :: zs)
          | none => none
        | none => none
      | none => none
    | none => none
  | _, _ => none

include hC in
theorem resOf_rel {H β n a w r d} (hr : Rel C.tb H β σ w) (he : EnvRel C.tb H β σ n a env) (h : resOf C.tb env σ r = some d) :
    ∃ v, (resRun a.tmps r).run C.P w = .ok v w ∧ DRel C.tb H β σ v d := by
  cases r with
  | tmp t => simp only [resOf, Option.some.injEq] at h; subst h; exact ⟨_, rfl, he.get t⟩
  | cell x t =>
    simp only [resOf] at h
    split at h
    · rename_i i p hp
      split at h
      · rename_i ty' X hi
        split at h
        · rename_i hs
          cases h
          have hv := he.get x
          rw [hp] at hv
          obtain ⟨ad, hv, hpa⟩ := hv.ptr_inv
          obtain ⟨b, off, ty2, X2, o', u, rfl, e2, e1, e3, e4, cs, f2, f3, f4, _⟩ := hr.at hC hpa
          rw [hi] at e2; cases e2
          rw [e4] at hs
          have ht' := same_td hs
          have hpart := (f4.part hC.tab e3).cast hC.tab ht'
          have hle := offT_le hC.tab e3
          obtain ⟨v, hrun, hvc⟩ := run_loadVar_cells hC.tab (b := b) (o := off + o') (vs := seg cs o' (sz C.tb u)) (w := w) (hpart.len hC.tab) hpart.td_ne (fun j v hj => by
            have hjl : j < sz C.tb u := by
              rcases Nat.lt_or_ge j (sz C.tb u) with h | h
              · exact h
              · rw [List.getElem?_eq_none (by simp [seg]; omega)] at hj; cases hj
            rw [seg_get hjl] at hj
            have := (f3 (o' + j) v hj).1
            rwa [← Nat.add_assoc] at this)
          refine ⟨v, ?_, ldD_rel hvc hpart⟩
          simp [resRun, hv, asAddr, hrun]
        · cases h
      · cases h
    · cases h

include hC in
theorem resE_rel {H β n a w} (hr : Rel C.tb H β σ w) (he : EnvRel C.tb H β σ n a env) : ∀ {ts : List TypeId} {rs : List ResultVar} {ys : List E}, resE C.tb env σ ts rs = some ys →
    ∃ vs : List Value, (rs.mapM (resRun a.tmps)).run C.P w = .ok vs w ∧ vs.length = ts.length ∧ ys.length = ts.length ∧
      ∀ (i : Nat) v d, vs[i]? = some v → (typed ts ys)[i]? = some d → DRel C.tb H [] [] v d
  | [], [], ys, h => by simp [resE] at h; subst h; exact ⟨[], rfl, rfl, rfl, fun i v d hv => by simp at hv⟩
  | t :: ts, r :: rs, ys, h => by
    unfold resE at h
    split at h
    · rename_i d hd
      split at h
      · rename_i y hy
        split at h
        · rename_i z hz
          split at h
          · rename_i zs hzs
            cases h
            obtain ⟨v, hrun, hv⟩ := resOf_rel hC hr he hd
            obtain ⟨vs, hrun2, h1, h2, h3⟩ := resE_rel hr he hzs
            obtain ⟨cs, hvc, htr⟩ := asT_rel hC hv hy
            refine ⟨v :: vs, ?_, by simp [h1], by simp [h2], fun i u q hu hq => ?_⟩
            · simp only [List.mapM_cons, Sem.run_bind, hrun, Result.andThen, hrun2]; rfl
            · cases i with
              | zero => simp at hu; simp [typed] at hq; subst hu; subst hq; exact .t hvc (.e (htr.toE hz))
              | succ i => exact h3 i u q (by simpa using hu) (by simpa [typed] using hq)
          · cases h
        · cases h
      · cases h
    · cases h
  | [], _ :: _, _, h => by simp [resE] at h
  | _ :: _, [], _, h => by simp [resE] at h

def oneOf : List Value → Value
  | [v] => v
  | vs => .tuple vs.toArray
theorem run_results {P : Program} {fn : Func} {tmps : Array Value} {vs : List Value} {w : World} (h : (fn.results.toList.mapM (resRun tmps)).run P w = .ok vs w) :
    (results fn tmps).run P w = .ok (oneOf vs) w := by
  have key : results fn tmps = (do let vs ← fn.results.mapM (resRun tmps); pure (if h : vs.size = 1 then vs[0] else .tuple vs)) := rfl
  rw [key, Array.mapM_eq_mapM_toList]
  simp only [Sem.run_bind, Sem.run_map, h, Result.andThen]
  match vs with
  | [] => rfl
  | [v] => rfl
  | u :: v :: r => simp [oneOf]

theorem FnOk_of_V {P : Program} {tb : Tab} {bt : TypeId} {f : FuncId} {fn : Func} {c : Code} {pts rts : List TypeId} {args rs : List E}
    (hC : Ok ⟨P, tb, 0, fn.ntmps, bt⟩) (hf : P.funcs[f]? = some fn) (hn : (fn.name == "runtime.NumGoroutine") = false) (hb : fn.body = some c) (hl : args.length = pts.length) (hle : pts.length ≤ fn.ntmps)
    (hV : (∀ (i : Nat) t x, pts[i]? = some t → args[i]? = some x → Wt tb t x) → V ⟨P, tb, 0, fn.ntmps, bt⟩ c (argEnv 0 (typed pts args)) [] (fun x e s => (x = .nrm ∨ x = .ret) ∧ resE tb e s rts fn.results.toList = some rs)) :
    FnOk P tb f pts rts args rs := by
  refine ⟨⟨fn, hf, hn, by rw [hb]; rfl⟩, hl, fun H w vals hbase hmine hargs => ?_⟩
  have htl := typed_length hl
  obtain ⟨hsz, hrel⟩ := hargs
  have hwt : ∀ (i : Nat) t x, pts[i]? = some t → args[i]? = some x → Wt tb t x := by
    have key : ∀ (ts : List TypeId) (xs : List E) (i : Nat) t x, ts[i]? = some t → xs[i]? = some x → (typed ts xs)[i]? = some (.t t (.e x)) := by
      intro ts
      induction ts with
      | nil => intro xs i t x ht; simp at ht
      | cons u ts ih =>
        intro xs i t x ht hx
        cases xs with
        | nil => simp at hx
        | cons y ys =>
          cases i with
          | zero => simp at ht hx; subst ht; subst hx; rfl
          | succ i => simpa [typed] using ih ys i t x (by simpa using ht) (by simpa using hx)
    intro i t x ht hx
    have hd := key pts args i t x ht hx
    have hi : i < vals.size := by rw [hsz]; exact (List.getElem?_eq_some_iff.1 hd).1
    have := hrel i vals[i] _ (Array.getElem?_eq_getElem hi) hd
    generalize vals[i] = vi at this
    cases this with
    | t a b => exact ⟨H, _, b.rd⟩
  refine calls_of_wp hf hb ?_
  have henv : EnvRel tb H [] [] fn.ntmps { tmps := vals ++ Array.replicate (fn.ntmps - vals.size) undef, defers := [] } (argEnv 0 (typed pts args)) := by
    refine ⟨by simp; omega, fun t => ?_⟩
    rw [argEnv_get, if_pos (Nat.zero_le _), Nat.sub_zero]
    cases hd : (typed pts args)[t]? with
    | none => exact .any
    | some d =>
      have ht : t < vals.size := by rw [hsz]; exact (List.getElem?_eq_some_iff.1 hd).1
      have := hrel t vals[t] d (Array.getElem?_eq_getElem ht) hd
      have hge : (vals ++ Array.replicate (fn.ntmps - vals.size) undef).getD t undef = vals[t] := by
        rw [Array.getD_eq_getD_getElem?, Array.getElem?_append_left ht, Array.getElem?_eq_getElem ht]; rfl
      simp only [Option.getD_some]
      rw [hge]; exact this
  have hw := hV hwt H [] _ w (hbase.rel (tb := tb)) henv rfl
  refine wp_mono hw ?_
  rintro e a' w' ⟨x, hx, env', σ', H', β', ⟨hxx, hres⟩, r⟩
  obtain ⟨vs, hrun, h1, h2, h3⟩ := resE_rel hC r.rel r.env hres
  have hrr := run_results hrun
  have hv : DRel tb H' [] [] (oneOf vs) (retD rts rs) := by
    have tup : DRel tb H' [] [] (.tuple vs.toArray) (.tup (typed rts rs)) := by
      refine .tup (by rw [typed_length h2]; simpa using h1) fun i v d hv hd => h3 i v d (by simpa using hv) hd
    match vs, rts, rs, h1, h2, h3, tup with
    | [v], [t], [y], _, _, h3, _ => exact h3 0 v _ rfl rfl
    | [], [], [], _, _, _, tup => exact tup
    | _ :: _ :: _, _ :: _ :: _, _ :: _ :: _, _, _, _, tup => exact tup
  have goal : ∃ v H'', Ending.returned (oneOf vs) = .returned v ∧ Base H'' w' ∧ DRel tb H'' [] [] v (retD rts rs) ∧ Stp H w H'' w' :=
    ⟨_, H', rfl, r.rel.base, hv, r.stp⟩
  cases e with
  | normal => exact ⟨r.defers, _, hrr, goal⟩
  | ret => exact ⟨r.defers, _, hrr, goal⟩
  | exit id => cases hx; rcases hxx with h | h <;> cases h
  | goto l => cases hx
  | panic ch => cases hx
  | outgrown => cases hx
end
end Go.Den
