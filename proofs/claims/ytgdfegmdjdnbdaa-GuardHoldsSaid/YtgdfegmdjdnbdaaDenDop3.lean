/- Calls that hand over blocks, as steps of the machine. -/
import Derived.Test.YtgdfegmdjdnbdaaDenDop2
namespace Go.Den
open Go
/-! what a call hands back, written out -/
mutual
def normT {α : Type _} : T → (T → α) → α
  | .e x, k => k (.e x)
  | .st xs, k => normTs xs fun ys => k (.st ys)
  | .nsl, k => k .nsl
  | .bsl xs, k => k (.bsl xs)
  | .lsl i xs, k => litK i fun j => k (.lsl j xs)
  | .ptr i p, k => litK i fun j => k (.ptr j p)
  | .fn f c, k => k (.fn f c)
  | .msl i n, k => litK i fun j => k (.msl j n)
def normTs {α : Type _} : List T → (List T → α) → α
  | [], k => k []
  | x :: xs, k => normT x fun y => normTs xs fun ys => k (y :: ys)
end
mutual
theorem normT_eq {α : Type _} : ∀ (x : T) (k : T → α), normT x k = k x
  | .e x, k => rfl
  | .st xs, k => by simp only [normT]; rw [normTs_eq xs]
  | .nsl, k => rfl
  | .bsl xs, k => rfl
  | .lsl i xs, k => by simp only [normT]; rw [litK_eq]
  | .ptr i p, k => by simp only [normT]; rw [litK_eq]
  | .fn f c, k => rfl
  | .msl i n, k => by simp only [normT]; rw [litK_eq]
theorem normTs_eq {α : Type _} : ∀ (xs : List T) (k : List T → α), normTs xs k = k xs
  | [], k => rfl
  | x :: xs, k => by simp only [normTs]; rw [normT_eq x, normTs_eq xs]
end
mutual
def normD {α : Type _} : D → (D → α) → α
  | .t ty x, k => normT x fun y => k (.t ty y)
  | .ptr i p, k => litK i fun j => k (.ptr j p)
  | .el u xs j p, k => k (.el u xs j p)
  | .asl i p u off n, k => litK i fun j => k (.asl j p u off n)
  | .tup xs, k => normDs xs fun ys => k (.tup ys)
  | .it i, k => litK i fun j => k (.it j)
  | .kb ty b, k => k (.kb ty b)
  | .mel u i n j p, k => litK i fun i' => k (.mel u i' n j p)
  | .any, k => k .any
def normDs {α : Type _} : List D → (List D → α) → α
  | [], k => k []
  | x :: xs, k => normD x fun y => normDs xs fun ys => k (y :: ys)
end
mutual
theorem normD_eq {α : Type _} : ∀ (x : D) (k : D → α), normD x k = k x
  | .t ty x, k => by simp only [normD]; rw [normT_eq x]
  | .ptr i p, k => by simp only [normD]; rw [litK_eq]
  | .el u xs j p, k => rfl
  | .asl i p u off n, k => by simp only [normD]; rw [litK_eq]
  | .tup xs, k => by simp only [normD]; rw [normDs_eq xs]
  | .it i, k => by simp only [normD]; rw [litK_eq]
  | .kb ty b, k => rfl
  | .mel u i n j p, k => by simp only [normD]; rw [litK_eq]
  | .any, k => rfl
theorem normDs_eq {α : Type _} : ∀ (xs : List D) (k : List D → α), normDs xs k = k xs
  | [], k => rfl
  | x :: xs, k => by simp only [normDs]; rw [normD_eq x, normDs_eq xs]
end
def normB {α : Type _} : Blk → (Blk → α) → α
  | .tree ty x, k => normT x fun y => k (.tree ty y)
  | .row u n, k => k (.row u n)
  | .iter s p, k => k (.iter s p)
  | .dead, k => k .dead
  | .mrow u o xs, k => k (.mrow u o xs)
theorem normB_eq {α : Type _} (x : Blk) (k : Blk → α) : normB x k = k x := by
  cases x with
  | tree ty x => simp only [normB]; rw [normT_eq x]
  | _ => rfl
def normBs {α : Type _} : List Blk → (List Blk → α) → α
  | [], k => k []
  | x :: xs, k => normB x fun y => normBs xs fun ys => k (y :: ys)
theorem normBs_eq {α : Type _} : ∀ (xs : List Blk) (k : List Blk → α), normBs xs k = k xs
  | [], k => rfl
  | x :: xs, k => by simp only [normBs]; rw [normB_eq x, normBs_eq xs]
def retK (env : Env) (dst : Option Tmp) : Option D → Option Env
  | some d => match dst with
    | some t => normD d fun d' => some ((t, d') :: env)
    | none => some env
  | none => none
theorem retK_eq (env : Env) (dst : Option Tmp) (d : D) : retK env dst (some d) = some (putD env dst d) := by
  cases dst with
  | none => rfl
  | some t => simp only [retK]; rw [normD_eq d]; rfl
section
variable {C : Cx} {env : Env} {σ : List Blk} {Q : Post}
theorem VX_callR (hC : Ok C) {k : List It} {full l : List Oper} {o : Oper} {f : FuncId} {xs : Array Operand} {tys : Array TypeId} (pts : List TypeId) {ds args : List D} {σ0 : List Blk} {Q0 : D → List Blk → Prop} (idx : List Nat)
    (hw : wants full env o = some true) (hn : dstOk C.n o.dst = true) (ho : o.op = .call { callee := .value (.func f), args := xs, argTypes := tys }) (hx : argsD C.tb env pts xs.toList = some ds) (hds : D.rens (idxOf idx) ds = some args) (hp : pickB σ (idxOf idx) idx 0 = some σ0)
    (h : FnG C.P C.tb f σ0 args Q0)
    (hk : ∀ d s, backR σ idx Q0 d s → VX C Q (.r full l :: k) .nrm (putD env o.dst d) s) : VX C Q (.r full (o :: l) :: k) .nrm env σ :=
  VX_op hw hn (OpF_call (ts := idx) hC ho hx hds hp h (by simp [disj])).v hk
theorem VX_callD (hC : Ok C) {k : List It} {full l : List Oper} {o : Oper} {f : FuncId} {xs : Array Operand} {tys : Array TypeId} (pts : List TypeId) {ds args : List D} {σ0 s0 τ s : List Blk} {d0 : D} {env' : Env} (idx : List Nat)
    (hw : wants full env o = some true) (hn : dstOk C.n o.dst = true) (ho : o.op = .call { callee := .value (.func f), args := xs, argTypes := tys }) (hx : argsD C.tb env pts xs.toList = some ds) (hds : D.rens (idxOf idx) ds = some args) (hp : pickB σ (idxOf idx) idx 0 = some σ0)
    (h : FnG C.P C.tb f σ0 args (fun d s => d = d0 ∧ s = s0))
    (hr : retK env o.dst (D.ren (fun j => some (backI idx σ.length j)) d0) = some env') (hb : renBs (fun j => some (backI idx σ.length j)) s0 = some τ) (hs : normBs (putBack σ idx τ) some = some s)
    (hk : VX C Q (.r full l :: k) .nrm env' s) : VX C Q (.r full (o :: l) :: k) .nrm env σ :=
  VX_callR hC pts idx hw hn ho hx hds hp h fun d' s' ⟨d1, s1, τ1, ⟨h1, h2⟩, h3, h4, h5⟩ => by
    subst h1; subst h2
    rw [h3, retK_eq] at hr; cases hr
    rw [hb] at h4; cases h4
    rw [normBs_eq] at hs; cases hs
    subst h5; exact hk
theorem VX_callO (hC : Ok C) {k : List It} {full : List Oper} {ts : List Nat} {i : Nat} {ord : List (Nat × Bool)} {o : Oper} {f : FuncId} {xs : Array Operand} {tys : Array TypeId} (pts : List TypeId) {ds args : List D} {σ0 s0 τ s : List Blk} {d0 : D} {env' : Env} (idx : List Nat)
    (hi : full[i]? = some o) (hw : wants full env o = some true) (hn : dstOk C.n o.dst = true) (ho : o.op = .call { callee := .value (.func f), args := xs, argTypes := tys }) (hx : argsD C.tb env pts xs.toList = some ds) (hds : D.rens (idxOf idx) ds = some args) (hp : pickB σ (idxOf idx) idx 0 = some σ0)
    (hts : disj idx ts = true) (h : FnG C.P C.tb f σ0 args (fun d s => d = d0 ∧ s = s0))
    (hr : retK env o.dst (D.ren (fun j => some (backI idx σ.length j)) d0) = some env') (hb : renBs (fun j => some (backI idx σ.length j)) s0 = some τ) (hs : normBs (putBack σ idx τ) some = some s)
    (hk : VX C Q (.o full ts ord :: k) .nrm env' s) : VX C Q (.o full ts ((i, false) :: ord) :: k) .nrm env σ :=
  VX_opO hi hw hn (OpF_call hC ho hx hds hp h hts) fun d' s' ⟨d1, s1, τ1, ⟨h1, h2⟩, h3, h4, h5⟩ => by
    subst h1; subst h2
    rw [h3, retK_eq] at hr; cases hr
    rw [hb] at h4; cases h4
    rw [normBs_eq] at hs; cases hs
    subst h5; exact hk
/-- A truth that is known. -/
theorem VX_known {k : List It} (t : Nat) (b' : Bool) {ty : TypeId} {b : Bool} (hk : splits k = true) (hb : getD env t = .t ty (.e (.bool b))) (h : b = b') (hv : VX C Q k .nrm ((t, .kb ty b') :: env) σ) : VX C Q k .nrm env σ := by
  subst h
  cases b with
  | true => exact VX_split t hk hb (fun _ => hv) (fun h => by cases h)
  | false => exact VX_split t hk hb (fun h => by cases h) (fun _ => hv)
end
end Go.Den
