/- Calls that hand over blocks, as steps of the machine. -/
import Derived.Test.YtoanljcmkmjcbaaDenDop2
namespace Go.Den
open Go
section
variable {C : Cx} {env : Env} {σ : List Blk} {Q : Post}
theorem VX_callR (hC : Ok C) {k : List It} {full l : List Oper} {o : Oper} {f : FuncId} {xs : Array Operand} {tys : Array TypeId} (pts : List TypeId) {ds args : List D} {σ0 : List Blk} {Q0 : D → List Blk → Prop} (idx : List Nat)
    (hw : wants full env o = some true) (hn : dstOk C.n o.dst = true) (ho : o.op = .call { callee := .value (.func f), args := xs, argTypes := tys }) (hx : argsD C.tb env pts xs.toList = some ds) (hds : D.rens (idxOf idx) ds = some args) (hp : pickB σ (idxOf idx) idx 0 = some σ0)
    (h : FnG C.P C.tb f σ0 args Q0)
    (hk : ∀ d s, backR σ idx Q0 d s → VX C Q (.r full l :: k) .nrm (putD env o.dst d) s) : VX C Q (.r full (o :: l) :: k) .nrm env σ :=
  VX_op hw hn (OpF_call (ts := idx) hC ho hx hds hp h (by simp [disj])).v hk
theorem VX_callD (hC : Ok C) {k : List It} {full l : List Oper} {o : Oper} {f : FuncId} {xs : Array Operand} {tys : Array TypeId} (pts : List TypeId) {ds args : List D} {σ0 s0 τ s : List Blk} {d0 d : D} (idx : List Nat)
    (hw : wants full env o = some true) (hn : dstOk C.n o.dst = true) (ho : o.op = .call { callee := .value (.func f), args := xs, argTypes := tys }) (hx : argsD C.tb env pts xs.toList = some ds) (hds : D.rens (idxOf idx) ds = some args) (hp : pickB σ (idxOf idx) idx 0 = some σ0)
    (h : FnG C.P C.tb f σ0 args (fun d s => d = d0 ∧ s = s0))
    (hr : D.ren (fun j => some (backI idx σ.length j)) d0 = some d) (hb : renBs (fun j => some (backI idx σ.length j)) s0 = some τ) (hs : putBack σ idx τ = s)
    (hk : VX C Q (.r full l :: k) .nrm (putD env o.dst d) s) : VX C Q (.r full (o :: l) :: k) .nrm env σ :=
  VX_callR hC pts idx hw hn ho hx hds hp h fun d' s' ⟨d1, s1, τ1, ⟨h1, h2⟩, h3, h4, h5⟩ => by
    subst h1; subst h2
    rw [hr] at h3; cases h3
    rw [hb] at h4; cases h4
    subst h5; subst hs; exact hk
theorem VX_callO (hC : Ok C) {k : List It} {full : List Oper} {ts : List Nat} {i : Nat} {ord : List (Nat × Bool)} {o : Oper} {f : FuncId} {xs : Array Operand} {tys : Array TypeId} (pts : List TypeId) {ds args : List D} {σ0 s0 τ s : List Blk} {d0 d : D} (idx : List Nat)
    (hi : full[i]? = some o) (hw : wants full env o = some true) (hn : dstOk C.n o.dst = true) (ho : o.op = .call { callee := .value (.func f), args := xs, argTypes := tys }) (hx : argsD C.tb env pts xs.toList = some ds) (hds : D.rens (idxOf idx) ds = some args) (hp : pickB σ (idxOf idx) idx 0 = some σ0)
    (hts : disj idx ts = true) (h : FnG C.P C.tb f σ0 args (fun d s => d = d0 ∧ s = s0))
    (hr : D.ren (fun j => some (backI idx σ.length j)) d0 = some d) (hb : renBs (fun j => some (backI idx σ.length j)) s0 = some τ) (hs : putBack σ idx τ = s)
    (hk : VX C Q (.o full ts ord :: k) .nrm (putD env o.dst d) s) : VX C Q (.o full ts ((i, false) :: ord) :: k) .nrm env σ :=
  VX_opO hi hw hn (OpF_call hC ho hx hds hp h hts) fun d' s' ⟨d1, s1, τ1, ⟨h1, h2⟩, h3, h4, h5⟩ => by
    subst h1; subst h2
    rw [hr] at h3; cases h3
    rw [hb] at h4; cases h4
    subst h5; subst hs; exact hk
/-- A truth that is known. -/
theorem VX_known {k : List It} (t : Nat) (b' : Bool) {ty : TypeId} {b : Bool} (hk : splits k = true) (hb : getD env t = .t ty (.e (.bool b))) (h : b = b') (hv : VX C Q k .nrm ((t, .kb ty b') :: env) σ) : VX C Q k .nrm env σ := by
  subst h
  cases b with
  | true => exact VX_split t hk hb (fun _ => hv) (fun h => by cases h)
  | false => exact VX_split t hk hb (fun h => by cases h) (fun _ => hv)
end
end Go.Den
