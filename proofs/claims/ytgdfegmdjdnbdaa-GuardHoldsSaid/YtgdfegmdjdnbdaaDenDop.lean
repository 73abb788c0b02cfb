/- One function that tells what an operation does; and what it tells is so. -/
import Derived.Test.YtgdfegmdjdnbdaaDenOp10
namespace Go.Den
open Go
set_option linter.unusedSectionVars false
set_option linter.unusedSimpArgs false
set_option linter.unusedVariables false

/-! forced forms, so that what is told stands written out -/
def litK {α : Sort _} (n : Nat) (k : Nat → α) : α := match n with
  | 0 => k 0 | 1 => k 1 | 2 => k 2 | 3 => k 3 | 4 => k 4 | 5 => k 5 | 6 => k 6 | 7 => k 7 | 8 => k 8 | 9 => k 9
  | 10 => k 10 | 11 => k 11 | 12 => k 12 | 13 => k 13 | 14 => k 14 | 15 => k 15 | 16 => k 16 | 17 => k 17 | 18 => k 18 | 19 => k 19
  | n => k n
theorem litK_eq {α : Sort _} (n : Nat) (k : Nat → α) : litK n k = k n := by unfold litK; split <;> rfl
def appK {α : Type _} {β : Sort _} : List α → α → (List α → β) → β
  | [], x, k => k [x]
  | y :: ys, x, k => appK ys x fun zs => k (y :: zs)
theorem appK_eq {α : Type _} {β : Sort _} : ∀ (l : List α) (x : α) (k : List α → β), appK l x k = k (l ++ [x])
  | [], _, _ => rfl
  | y :: ys, x, k => by simp only [appK]; rw [appK_eq ys x]; rfl
def setK {α : Type _} {β : Sort _} : List α → Nat → α → (List α → β) → β
  | [], _, _, k => k []
  | _ :: ys, 0, x, k => k (x :: ys)
  | y :: ys, n + 1, x, k => setK ys n x fun zs => k (y :: zs)
theorem setK_eq {α : Type _} {β : Sort _} : ∀ (l : List α) (n : Nat) (x : α) (k : List α → β), setK l n x k = k (l.set n x)
  | [], _, _, _ => rfl
  | _ :: _, 0, _, _ => rfl
  | y :: ys, n + 1, x, k => by simp only [setK]; rw [setK_eq ys n x]; rfl
def pathK {β : Sort _} : List Nat → Nat → (List Nat → β) → β := appK

/-! operations -/
def dBin (C : Cx) (env : Env) (σ : List Blk) (rt : TypeId) (op : BinOp) (xt : TypeId) (x y : Operand) (yt : TypeId) : Option DR :=
  match td C.tb xt with
  | .int k => match opd C.tb env xt x with
    | some dx => match intAt C.tb xt dx with
      | some a => match op with
        | .shl | .shr => match opd C.tb env yt y with
          | some dy => match intAny dy with
            | some b => match td C.tb rt == .int k with
              | true => match shiftOp k op a b with
                | some n => some ⟨arithP op b, .t rt (.e (.int n)), σ⟩
                | none => none
              | false => none
            | none => none
          | none => none
        | _ => match opd C.tb env xt y with
          | some dy => match intAt C.tb xt dy with
            | some b => match cmpI op a b with
              | some c => some ⟨True, .t C.bt (.e (.bool c)), σ⟩
              | none => match td C.tb rt == .int k with
                | true => match arith k op a b with
                  | some n => some ⟨arithP op b, .t rt (.e (.int n)), σ⟩
                  | none => none
                | false => none
            | none => none
          | none => none
      | none => none
    | none => none
  | .str => match opd C.tb env xt x with
    | some dx => match strAny dx with
      | some a => match opd C.tb env xt y with
        | some dy => match strAny dy with
          | some b => match cmpS op a b with
            | some c => some ⟨True, .t C.bt (.e (.bool c)), σ⟩
            | none => match op with
              | .add => match td C.tb rt with
                | .str => some ⟨((a.length + b.length : Nat) : Int) ≤ maxI, .t rt (.e (.str (a ++ b))), σ⟩
                | _ => none
              | _ => none
          | none => none
        | none => none
      | none => none
    | none => none
  | .bool => match opd C.tb env xt x with
    | some dx => match boolAny dx with
      | some a => match opd C.tb env xt y with
        | some dy => match boolAny dy with
          | some b => match op with
            | .eql => some ⟨True, .t C.bt (.e (.bool (a == b))), σ⟩
            | .neq => some ⟨True, .t C.bt (.e (.bool (!(a == b)))), σ⟩
            | _ => none
          | none => none
        | none => none
      | none => none
    | none => none
  | _ => none

theorem td_beq {tb : Tab} {t : TypeId} {d : TD} (h : (td tb t == d) = true) : td tb t = d := by simpa using h

theorem dBin_ok {C : Cx} (hC : Ok C) {o : Oper} {env : Env} {σ : List Blk} {op xt x y yt} {r : DR} (ho : o.op = .binOp op xt x y yt) (h : dBin C env σ o.type op xt x y yt = some r) (hp : r.p) : OpOk C o env σ r := by
  have key : OpOk C o env σ ⟨True, r.d, r.s⟩ → OpOk C o env σ r := fun h => ⟨h.v, h.val⟩
  refine key ?_
  unfold dBin at h
  split at h
  · rename_i k hk
    split at h
    · rename_i dx hx
      split at h
      · rename_i a ha
        split at h
        · split at h
          · rename_i dy hy
            split at h
            · rename_i b hb
              split at h
              · rename_i hr
                split at h
                · rename_i n hn; cases h; exact Ok_shift ho hk (td_beq hr) hx hy ha hb hn hp
                · cases h
              · cases h
            · cases h
          · cases h
        · split at h
          · rename_i dy hy
            split at h
            · rename_i b hb
              split at h
              · rename_i hr
                split at h
                · rename_i n hn; cases h; exact Ok_shift ho hk (td_beq hr) hx hy ha hb hn hp
                · cases h
              · cases h
            · cases h
          · cases h
        · split at h
          · rename_i dy hy
            split at h
            · rename_i b hb
              split at h
              · rename_i c hc; cases h; exact Ok_cmpI hC.bt ho hk hx hy ha hb hc
              · split at h
                · rename_i hr
                  split at h
                  · rename_i n hn; cases h; exact Ok_arith ho hk (td_beq hr) hx hy ha hb hn hp
                  · cases h
                · cases h
            · cases h
          · cases h
      · cases h
    · cases h
  · rename_i hk
    split at h
    · rename_i dx hx
      split at h
      · rename_i a ha
        split at h
        · rename_i dy hy
          split at h
          · rename_i b hb
            split at h
            · rename_i c hc; cases h; exact Ok_cmpS hC.bt ho hx hy ha hb hc
            · split at h
              · split at h
                · rename_i hr; cases h; exact Ok_addS ho hr hx hy ha hb hp
                · cases h
              · cases h
          · cases h
        · cases h
      · cases h
    · cases h
  · rename_i hk
    split at h
    · rename_i dx hx
      split at h
      · rename_i a ha
        split at h
        · rename_i dy hy
          split at h
          · rename_i b hb
            split at h
            · cases h; exact Ok_eqB hC ho (.inl rfl) hk hx hy ha hb
            · cases h; exact Ok_eqB hC ho (.inr rfl) hk hx hy ha hb
            · cases h
          · cases h
        · cases h
      · cases h
    · cases h
  · cases h

def dUn (C : Cx) (env : Env) (σ : List Blk) (rt : TypeId) (op : UnOp) (t : TypeId) (x : Operand) : Option DR :=
  match opd C.tb env t x with
  | some dx => match op with
    | .not => match dx with
      | .kb _ true => some ⟨True, .kb C.bt false, σ⟩
      | .kb _ false => some ⟨True, .kb C.bt true, σ⟩
      | .t _ (.e (.bool a)) => some ⟨True, .t C.bt (.e (.bool (!a))), σ⟩
      | _ => none
    | .xor => match td C.tb t with
      | .int k => match td C.tb rt == .int k with
        | true => match intAt C.tb t dx with
          | some a => some ⟨True, .t rt (.e (.int (xorAll k a))), σ⟩
          | none => none
        | false => none
      | _ => none
    | .neg => match td C.tb t with
      | .int k => match td C.tb rt == .int k with
        | true => match intAt C.tb t dx with
          | some a => some ⟨True, .t rt (.e (.int (k.wrap (-a)))), σ⟩
          | none => none
        | false => none
      | _ => none
    | _ => none
  | none => none
theorem dUn_ok {C : Cx} (hC : Ok C) {o : Oper} {env : Env} {σ : List Blk} {op t x} {r : DR} (ho : o.op = .unOp op t x) (h : dUn C env σ o.type op t x = some r) : OpOk C o env σ r := by
  have key : OpOk C o env σ ⟨True, r.d, r.s⟩ → OpOk C o env σ r := fun h => ⟨h.v, h.val⟩
  refine key ?_
  unfold dUn at h
  split at h
  · rename_i dx hx
    split at h
    · split at h
      · cases h; exact Ok_notK hC.bt ho hx rfl
      · cases h; exact Ok_notK hC.bt ho hx rfl
      · cases h; exact Ok_not hC.bt ho hx rfl
      · cases h
    · split at h
      · rename_i k hk
        split at h
        · rename_i hr
          split at h
          · rename_i a ha; cases h; exact Ok_xorU ho hk (td_beq hr) hx ha
          · cases h
        · cases h
      · cases h
    · split at h
      · rename_i k hk
        split at h
        · rename_i hr
          split at h
          · rename_i a ha; cases h; exact Ok_neg ho hk (td_beq hr) hx ha
          · cases h
        · cases h
      · cases h
    · cases h
  · cases h

/-! addresses, loads, stores -/
def dFieldAddr (C : Cx) (env : Env) (σ : List Blk) (st : TypeId) (s k : Nat) : Option DR :=
  match td C.tb st with
  | .st fs => match fs[k]? with
    | some f => match Nat.beq (sz C.tb f.1) 0 with
      | false => match getD env s with
        | .ptr i p => match σ[i]? with
          | some (.tree ty _) => match same C.tb (tyAt C.tb ty p) st with
            | true => pathK p k fun q => some ⟨True, .ptr i q, σ⟩
            | false => none
          | _ => none
        | .el u xs j p => match same C.tb (tyAt C.tb u p) st with
          | true => pathK p k fun q => some ⟨True, .el u xs j q, σ⟩
          | false => none
        | _ => none
      | true => none
    | none => none
  | _ => none
theorem dFieldAddr_ok {C : Cx} (hC : Ok C) {o : Oper} {env : Env} {σ : List Blk} {st s k} {r : DR} (ho : o.op = .fieldAddr st (.tmp s) k) (h : dFieldAddr C env σ st s k = some r) : OpOk C o env σ r := by
  have key : OpOk C o env σ ⟨True, r.d, r.s⟩ → OpOk C o env σ r := fun h => ⟨h.v, h.val⟩
  refine key ?_
  unfold dFieldAddr pathK at h
  split at h
  · rename_i fs hst
    split at h
    · rename_i f hf
      split at h
      · rename_i hz
        have hz := Nat.ne_of_beq_eq_false hz
        split at h
        · rename_i i p hs
          split at h
          · rename_i ty X hi
            split at h
            · rename_i ht; rw [appK_eq] at h; cases h; exact Ok_fieldAddr hC ho hs hi ht hst hf hz
            · cases h
          · cases h
        · rename_i u xs j p hs
          split at h
          · rename_i ht; rw [appK_eq] at h; cases h; exact Ok_fieldAddrE hC ho hs ht hst hf hz
          · cases h
        · cases h
      · cases h
    · cases h
  · cases h

def dLoad (C : Cx) (env : Env) (σ : List Blk) (t : TypeId) (s : Nat) : Option DR :=
  match getD env s with
  | .ptr i p => match σ[i]? with
    | some (.tree ty X) => match same C.tb (tyAt C.tb ty p) t with
      | true => match getT p X with
        | .ptr j q => some ⟨True, .ptr j q, σ⟩
        | .st ys => match toE (.st ys) with
          | some e => some ⟨True, .t t (.e e), σ⟩
          | none => some ⟨True, .t t (.st ys), σ⟩
        | .e x => some ⟨True, .t t (.e x), σ⟩
        | .nsl => some ⟨True, .t t .nsl, σ⟩
        | .bsl ys => some ⟨True, .t t (.bsl ys), σ⟩
        | .lsl j ys => some ⟨True, .t t (.lsl j ys), σ⟩
        | .fn f c => some ⟨True, .t t (.fn f c), σ⟩
        | .msl j n => some ⟨True, .t t (.msl j n), σ⟩
      | false => none
    | _ => none
  | .el u xs j p => match same C.tb (tyAt C.tb u p) t with
    | true => some ⟨True, .t t (.e (getE p (xs.getD j .nilp))), σ⟩
    | false => none
  | _ => none
theorem dLoad_ok {C : Cx} (hC : Ok C) {o : Oper} {env : Env} {σ : List Blk} {t s} {r : DR} (ho : o.op = .load t (.tmp s)) (h : dLoad C env σ t s = some r) : OpOk C o env σ r := by
  have key : OpOk C o env σ ⟨True, r.d, r.s⟩ → OpOk C o env σ r := fun h => ⟨h.v, h.val⟩
  refine key ?_
  unfold dLoad at h
  split at h
  · rename_i i p hs
    split at h
    · rename_i ty X hi
      split at h
      · rename_i ht
        have hl := Ok_load hC ho hs hi ht
        split at h
        · rename_i hg; cases h; rw [hg] at hl; exact hl
        · rename_i ys hg
          split at h
          · rename_i e he; cases h; rw [hg] at hl; simp only [ldD, he] at hl; exact hl
          · rename_i he; cases h; rw [hg] at hl; simp only [ldD, he] at hl; exact hl
        · rename_i hg; cases h; rw [hg] at hl; exact hl
        · rename_i hg; cases h; rw [hg] at hl; exact hl
        · rename_i hg; cases h; rw [hg] at hl; exact hl
        · rename_i hg; cases h; rw [hg] at hl; exact hl
        · rename_i hg; cases h; rw [hg] at hl; exact hl
        · rename_i hg; cases h; rw [hg] at hl; exact hl
      · cases h
    · cases h
  · rename_i hs
    split at h
    · rename_i ht; cases h; exact Ok_loadE hC ho hs ht
    · cases h
  · cases h

def dStore (C : Cx) (env : Env) (σ : List Blk) (t : TypeId) (s : Nat) (x : Operand) : Option DR :=
  match getD env s with
  | .ptr i p => match σ[i]? with
    | some (.tree ty X) => match same C.tb t (tyAt C.tb ty p) with
      | true => match opd C.tb env t x with
        | some d => match asT C.tb t d with
          | some y => setK σ i (.tree ty (setT p y X)) fun σ' => some ⟨True, .any, σ'⟩
          | none => none
        | none => none
      | false => none
    | _ => none
  | _ => none
theorem dStore_ok {C : Cx} (hC : Ok C) {o : Oper} {env : Env} {σ : List Blk} {t s x} {r : DR} (ho : o.op = .store t (.tmp s) x) (h : dStore C env σ t s x = some r) : OpOk C o env σ r := by
  have key : OpOk C o env σ ⟨True, r.d, r.s⟩ → OpOk C o env σ r := fun h => ⟨h.v, h.val⟩
  refine key ?_
  unfold dStore at h
  split at h
  · rename_i i p hs
    split at h
    · rename_i ty X hi
      split at h
      · rename_i ht
        split at h
        · rename_i d hd
          split at h
          · rename_i y hy; rw [setK_eq] at h; cases h; exact Ok_store hC ho hs hi ht hd hy
          · cases h
        · cases h
      · cases h
    · cases h
  · cases h

def dIndexAddr (C : Cx) (env : Env) (σ : List Blk) (t : TypeId) (s : Nat) (ix : Operand) : Option DR :=
  match opdN env ix with
  | some iv => match td C.tb t with
    | .arr n u => match Nat.beq (sz C.tb u) 0 with
      | false => match getD env s with
        | .ptr i p => match σ[i]? with
          | some (.tree ty _) => match td C.tb (tyAt C.tb ty p) == .arr n u with
            | true => pathK p iv.toNat fun q => some ⟨0 ≤ iv ∧ iv < n, .ptr i q, σ⟩
            | false => none
          | _ => none
        | _ => none
      | true => none
    | .sl u => match Nat.beq (sz C.tb u) 0 with
      | false => match slE (getD env s) with
        | some xs => match same C.tb (tagD (getD env s)) t with
          | true => some ⟨0 ≤ iv ∧ iv < xs.length, .el u xs iv.toNat [], σ⟩
          | false => none
        | none => none
      | true => none
    | _ => none
  | none => none
theorem dIndexAddr_ok {C : Cx} (hC : Ok C) {o : Oper} {env : Env} {σ : List Blk} {t s ix} {r : DR} (ho : o.op = .indexAddr t (.tmp s) ix) (h : dIndexAddr C env σ t s ix = some r) (hp : r.p) : OpOk C o env σ r := by
  have key : OpOk C o env σ ⟨True, r.d, r.s⟩ → OpOk C o env σ r := fun h => ⟨h.v, h.val⟩
  refine key ?_
  unfold dIndexAddr pathK at h
  split at h
  · rename_i iv hiv
    split at h
    · rename_i n u ht
      split at h
      · rename_i hz
        split at h
        · rename_i i p hs
          split at h
          · rename_i ty X hi
            split at h
            · rename_i hty; rw [appK_eq] at h; cases h; exact Ok_indexAddrA hC ho hs hi ht (td_beq hty) (Nat.ne_of_beq_eq_false hz) hiv hp.1 hp.2
            · cases h
          · cases h
        · cases h
      · cases h
    · rename_i u ht
      split at h
      · rename_i hz
        split at h
        · rename_i xs hxs
          split at h
          · rename_i hsm; cases h; exact Ok_indexAddrS hC ho rfl hxs ht hsm (Nat.ne_of_beq_eq_false hz) hiv hp.1 hp.2
          · cases h
        · cases h
      · cases h
    · cases h
  · cases h

def dIndex (C : Cx) (env : Env) (σ : List Blk) (rt t : TypeId) (x ix : Operand) : Option DR :=
  match opdN env ix with
  | some iv => match opd C.tb env t x with
    | some dx => match td C.tb t with
      | .str => match td C.tb rt with
        | .int .u8 => match strAny dx with
          | some s => some ⟨0 ≤ iv ∧ iv < s.length, .t rt (.e (.int (s.getD iv.toNat 0).toNat)), σ⟩
          | none => none
        | _ => none
      | .arr n u => match td C.tb u with
        | .other => none
        | _ => match dx with
          | .t ty (.e y) => match same C.tb ty t with
            | true => some ⟨0 ≤ iv ∧ iv < n, .t u (.e (childE iv.toNat y)), σ⟩
            | false => none
          | _ => none
      | _ => none
    | none => none
  | none => none
theorem dIndex_ok {C : Cx} (hC : Ok C) {o : Oper} {env : Env} {σ : List Blk} {t x ix} {r : DR} (ho : o.op = .index t x ix) (h : dIndex C env σ o.type t x ix = some r) (hp : r.p) : OpOk C o env σ r := by
  have key : OpOk C o env σ ⟨True, r.d, r.s⟩ → OpOk C o env σ r := fun h => ⟨h.v, h.val⟩
  refine key ?_
  unfold dIndex at h
  split at h
  · rename_i iv hiv
    split at h
    · rename_i dx hx
      split at h
      · rename_i ht
        split at h
        · rename_i hr
          split at h
          · rename_i s hs; cases h; exact Ok_indexStr hC ho ht hr hx hs hiv hp.1 hp.2
          · cases h
        · cases h
      · rename_i n u ht
        split at h
        · cases h
        · rename_i hu
          split at h
          · split at h
            · rename_i ty y hsm; cases h; exact Ok_indexA hC ho ht hx rfl hsm hiv hp.1 hp.2 hu
            · cases h
          · cases h
      · cases h
    · cases h
  · cases h

def dField (C : Cx) (env : Env) (σ : List Blk) (xt : TypeId) (x : Operand) (k : Nat) : Option DR :=
  match td C.tb xt with
  | .st fs => match fs[k]? with
    | some f => match opd C.tb env xt x with
      | some (.t ty (.e y)) => match same C.tb ty xt with
        | true => some ⟨True, .t f.1 (.e (childE k y)), σ⟩
        | false => none
      | _ => none
    | none => none
  | _ => none
theorem dField_ok {C : Cx} (hC : Ok C) {o : Oper} {env : Env} {σ : List Blk} {xt x k} {r : DR} (ho : o.op = .field xt x k) (h : dField C env σ xt x k = some r) : OpOk C o env σ r := by
  have key : OpOk C o env σ ⟨True, r.d, r.s⟩ → OpOk C o env σ r := fun h => ⟨h.v, h.val⟩
  refine key ?_
  unfold dField at h
  split at h
  · rename_i fs hst
    split at h
    · rename_i f hf
      split at h
      · rename_i ty y hx
        split at h
        · rename_i hs; cases h; exact Ok_field hC ho hx rfl hs hst hf
        · cases h
      · cases h
    · cases h
  · cases h

def dSlice (C : Cx) (env : Env) (σ : List Blk) (rt t : TypeId) (x : Operand) (lo hi : Option Operand) : Option DR :=
  match opd C.tb env t x with
  | some dx => match bnd env 0 lo with
    | some l => match td C.tb t with
      | .str => match td C.tb rt with
        | .str => match strAny dx with
          | some s => match bnd env s.length hi with
            | some h => some ⟨0 ≤ l ∧ l ≤ h ∧ h ≤ s.length, .t rt (.e (.str ((s.take h.toNat).drop l.toNat))), σ⟩
            | none => none
          | none => none
        | _ => none
      | .sl u => match Nat.beq (sz C.tb u) 0 with
        | false => match slE dx with
          | some xs => match same C.tb (tagD dx) t with
            | true => match bnd env xs.length hi with
              | some h => some ⟨0 ≤ l ∧ l ≤ h ∧ h ≤ xs.length, .t t (.e (.sl ((xs.take h.toNat).drop l.toNat))), σ⟩
              | none => none
            | false => none
          | none => none
        | true => none
      | _ => none
    | none => none
  | none => none
theorem dSlice_ok {C : Cx} (hC : Ok C) {o : Oper} {env : Env} {σ : List Blk} {t x lo hi} {r : DR} (ho : o.op = .slice t x lo hi none) (h : dSlice C env σ o.type t x lo hi = some r) (hp : r.p) : OpOk C o env σ r := by
  have key : OpOk C o env σ ⟨True, r.d, r.s⟩ → OpOk C o env σ r := fun h => ⟨h.v, h.val⟩
  refine key ?_
  unfold dSlice at h
  split at h
  · rename_i dx hx
    split at h
    · rename_i l hl
      split at h
      · rename_i ht
        split at h
        · rename_i hr
          split at h
          · rename_i s hs
            split at h
            · rename_i hv hh; cases h; exact Ok_sliceStr hC ho ht hr hx hs hl hh hp.1 hp.2.1 hp.2.2
            · cases h
          · cases h
        · cases h
      · rename_i u ht
        split at h
        · rename_i hz
          split at h
          · rename_i xs hxs
            split at h
            · rename_i hsm
              split at h
              · rename_i hv hh; cases h; exact Ok_sliceL hC ho ht hx hxs hsm (Nat.ne_of_beq_eq_false hz) hl hh hp.1 hp.2.1 hp.2.2
              · cases h
            · cases h
          · cases h
        · cases h
      · cases h
    · cases h
  · cases h

def dLen (C : Cx) (env : Env) (σ : List Blk) (rt t : TypeId) (x : Operand) : Option DR :=
  match td C.tb rt with
  | .int .i64 => match opd C.tb env t x with
    | some dx => match td C.tb t with
      | .str => match strAny dx with
        | some s => some ⟨True, .t rt (.e (.int s.length)), σ⟩
        | none => none
      | .sl _ => match slLen dx with
        | some n => some ⟨True, .t rt (.e (.int n)), σ⟩
        | none => none
      | _ => none
    | none => none
  | _ => none
theorem dLen_ok {C : Cx} (hC : Ok C) {o : Oper} {env : Env} {σ : List Blk} {t x} {r : DR} (ho : o.op = .call { callee := .builtin .len, args := #[x], argTypes := #[t] }) (h : dLen C env σ o.type t x = some r) : OpOk C o env σ r := by
  have key : OpOk C o env σ ⟨True, r.d, r.s⟩ → OpOk C o env σ r := fun h => ⟨h.v, h.val⟩
  refine key ?_
  unfold dLen at h
  split at h
  · rename_i hr
    split at h
    · rename_i dx hx
      split at h
      · rename_i ht
        split at h
        · rename_i s hs; cases h; exact Ok_lenS hC ho ht hr hx hs
        · cases h
      · rename_i u ht
        split at h
        · rename_i n hn; cases h; exact Ok_lenL hC ho ht hr hx hn
        · cases h
      · cases h
    · cases h
  · cases h

def dAppend (C : Cx) (env : Env) (σ : List Blk) (t t2 : TypeId) (x y : Operand) : Option DR :=
  match td C.tb t with
  | .sl u => match plain C.tb zf u with
    | true => match opd C.tb env t x with
      | some dx => match opd C.tb env t2 y with
        | some dy => match srcE C.tb t t2 dy with
          | some ys => match freshE dx with
            | some xs => match same C.tb (tagD dx) t with
              | true => litK σ.length fun i => appK σ (.row u (xs ++ ys).length) fun σ' => some ⟨(xs.length + ys.length) * nb C.tb u ≤ maxL ∧ xs.length + ys.length ≤ maxL, .t t (.lsl i (xs ++ ys)), σ'⟩
              | false => none
            | none => match dx with
              | .t tx (.lsl i xs) => match same C.tb tx t with
                | true => match σ[i]? with
                  | some (.row u' n) => match Nat.beq u u' with
                    | true => setK σ i (.row u (xs ++ ys).length) fun σ' => some ⟨n = xs.length ∧ (xs.length + ys.length) * nb C.tb u ≤ maxL ∧ xs.length + ys.length ≤ maxL, .t t (.lsl i (xs ++ ys)), σ'⟩
                    | false => none
                  | _ => none
                | false => none
              | _ => none
          | none => none
        | none => none
      | none => none
    | false => none
  | _ => none
theorem dAppend_ok {C : Cx} (hC : Ok C) {o : Oper} {env : Env} {σ : List Blk} {t t2 x y} {r : DR} (ho : o.op = .call { callee := .builtin .append, args := #[x, y], argTypes := #[t, t2] }) (h : dAppend C env σ t t2 x y = some r) (hp : r.p) : OpOk C o env σ r := by
  have key : OpOk C o env σ ⟨True, r.d, r.s⟩ → OpOk C o env σ r := fun h => ⟨h.v, h.val⟩
  refine key ?_
  unfold dAppend at h
  split at h
  · rename_i u ht
    split at h
    · rename_i hz
      split at h
      · rename_i dx hx
        split at h
        · rename_i dy hy
          split at h
          · rename_i ys hys
            split at h
            · rename_i xs hxs
              split at h
              · rename_i hsm; rw [litK_eq, appK_eq] at h; cases h; exact Ok_appendNew hC ho ht hz hx hxs hsm hy hys hp
              · cases h
            · split at h
              · split at h
                · rename_i hsm
                  split at h
                  · rename_i u' n hi
                    split at h
                    · rename_i hu
                      have hu := Nat.eq_of_beq_eq_true hu
                      subst hu
                      rw [setK_eq] at h; cases h; exact Ok_appendRow hC ho ht hz hx rfl hsm hi hp.1 hy hys hp.2
                    · cases h
                  · cases h
                · cases h
              · cases h
          · cases h
        · cases h
      · cases h
    · cases h
  · cases h

/-- What an operation does, if this calculus tells it: on what terms, what the temporary holds, what the blocks are behind it. -/
def dop (C : Cx) (env : Env) (σ : List Blk) (o : Oper) : Option DR := match o.op with
  | .move x => match opd C.tb env o.type x with | some d => some ⟨True, d, σ⟩ | none => none
  | .assign x => match opd C.tb env o.type x with | some d => some ⟨True, d, σ⟩ | none => none
  | .pick c x y => match opd C.tb env o.type c with
    | some (.kb _ true) => match opd C.tb env o.type x with | some d => some ⟨True, d, σ⟩ | none => none
    | some (.kb _ false) => match opd C.tb env o.type y with | some d => some ⟨True, d, σ⟩ | none => none
    | _ => none
  | .alloc elem => match plain C.tb zf elem with
    | true => litK σ.length fun i => appK σ (.tree elem (zeroT C.tb zf elem)) fun σ' => some ⟨True, .ptr i [], σ'⟩
    | false => none
  | .box elem x => match opd C.tb env elem x with
    | some d => match asT C.tb elem d with
      | some y => litK σ.length fun i => appK σ (.tree elem y) fun σ' => some ⟨True, .ptr i [], σ'⟩
      | none => none
    | none => none
  | .build t ps => match td C.tb t with
    | .st fs => match plain C.tb zf t with
      | true => match partsT C.tb env (fieldTy fs) ps.toList with
        | some qs => match buildT qs (zeroT C.tb zf t) with
          | .st ys => match toE (.st ys) with
            | some e => some ⟨True, .t t (.e e), σ⟩
            | none => some ⟨True, .t t (.st ys), σ⟩
          | .e x => some ⟨True, .t t (.e x), σ⟩
          | _ => none
        | none => none
      | false => none
    | _ => none
  | .buildSlice t len ps => match td C.tb t with
    | .sl u => match plain C.tb zf u with
      | true => match denseE C.tb env u 0 ps.toList with
        | some ys => match Nat.beq ys.length len with
          | true => match Nat.ble (len * sz C.tb u) 16777216 && Nat.ble len 1000000 with
            | true => some ⟨True, .t t (.bsl ys), σ⟩
            | false => none
          | false => none
        | none => none
      | false => none
    | _ => none
  | .load t (.tmp s) => dLoad C env σ t s
  | .store t (.tmp s) x => dStore C env σ t s x
  | .nilCheck (.tmp s) => match getD env s with
    | .ptr i p => some ⟨True, .ptr i p, σ⟩
    | .el u xs j p => some ⟨True, .el u xs j p, σ⟩
    | _ => none
  | .binOp op xt x y yt => dBin C env σ o.type op xt x y yt
  | .unOp op t x => dUn C env σ o.type op t x
  | .convert s d x => match td C.tb s with
    | .int _ => match td C.tb d with
      | .int k' => match opd C.tb env s x with
        | some dx => match intAt C.tb s dx with
          | some a => some ⟨True, .t d (.e (.int (k'.wrap a))), σ⟩
          | none => none
        | none => none
      | _ => none
    | _ => none
  | .slice t x lo hi none => dSlice C env σ o.type t x lo hi
  | .fieldAddr st (.tmp s) k => dFieldAddr C env σ st s k
  | .field xt x k => dField C env σ xt x k
  | .indexAddr t (.tmp s) ix => dIndexAddr C env σ t s ix
  | .index t x ix => dIndex C env σ o.type t x ix
  | .extract (.tmp s) i => match getD env s with
    | .tup ds => match ds[i]? with
      | some d => some ⟨True, d, σ⟩
      | none => none
    | _ => none
  | .call { callee := .builtin .len, args := ⟨[x]⟩, argTypes := ⟨[t]⟩ } => dLen C env σ o.type t x
  | .call { callee := .builtin .append, args := ⟨[x, y]⟩, argTypes := ⟨[t, t2]⟩ } => dAppend C env σ t t2 x y
  | _ => none

theorem dop_ok {C : Cx} (hC : Ok C) {o : Oper} {env : Env} {σ : List Blk} {r : DR} (h : dop C env σ o = some r) (hp : r.p) : OpOk C o env σ r := by
  have key : OpOk C o env σ ⟨True, r.d, r.s⟩ → OpOk C o env σ r := fun h => ⟨h.v, h.val⟩
  unfold dop at h
  split at h
  · rename_i x ho; split at h
    · rename_i d hd; cases h; exact Ok_move (.inl ho) hd
    · cases h
  · rename_i x ho; split at h
    · rename_i d hd; cases h; exact Ok_move (.inr ho) hd
    · cases h
  · rename_i c x y ho; split at h
    · rename_i ty hc; split at h
      · rename_i d hd; cases h; exact Ok_pick ho hc rfl (fun _ => hd) (fun h => by cases h)
      · cases h
    · rename_i ty hc; split at h
      · rename_i d hd; cases h; exact Ok_pick ho hc rfl (fun h => by cases h) (fun _ => hd)
      · cases h
    · cases h
  · rename_i elem ho; split at h
    · rename_i hz; rw [litK_eq, appK_eq] at h; cases h; exact Ok_alloc hC ho hz
    · cases h
  · rename_i elem x ho; split at h
    · rename_i d hd; split at h
      · rename_i y hy; rw [litK_eq, appK_eq] at h; cases h; exact Ok_box hC ho hd hy
      · cases h
    · cases h
  · rename_i t ps ho; split at h
    · rename_i fs hst; split at h
      · rename_i hz; split at h
        · rename_i qs hqs
          have hl := Ok_buildS (σ := σ) hC ho hst hz hqs
          split at h
          · rename_i ys hy; rw [hy] at hl
            split at h
            · rename_i e he; cases h; simp only [ldD, he] at hl; exact hl
            · rename_i he; cases h; simp only [ldD, he] at hl; exact hl
          · rename_i x hy; rw [hy] at hl; cases h; exact hl
          · cases h
        · cases h
      · cases h
    · cases h
  · rename_i t len ps ho; split at h
    · rename_i u ht; split at h
      · rename_i hz; split at h
        · rename_i ys hys; split at h
          · rename_i hl; split at h
            · rename_i hb
              simp only [Bool.and_eq_true] at hb
              have h1 := Nat.le_of_ble_eq_true hb.1
              have h2 := Nat.le_of_ble_eq_true hb.2
              cases h; exact Ok_buildSlice hC ho ht hz hys (Nat.eq_of_beq_eq_true hl) h1 (by unfold maxN; omega)
            · cases h
          · cases h
        · cases h
      · cases h
    · cases h
  · rename_i t s ho; exact dLoad_ok hC ho h
  · rename_i t s x ho; exact dStore_ok hC ho h
  · rename_i s ho; split at h
    · rename_i i p hs; cases h; exact Ok_nilCheck ho hs ⟨i, p, .inl rfl⟩
    · rename_i u xs j p hs; cases h; exact Ok_nilCheck ho hs ⟨0, p, .inr ⟨u, xs, j, rfl⟩⟩
    · cases h
  · rename_i op xt x y yt ho; exact dBin_ok hC ho h hp
  · rename_i op t x ho; exact dUn_ok hC ho h
  · rename_i s d x ho; split at h
    · rename_i k hk; split at h
      · rename_i k' hk'; split at h
        · rename_i dx hx; split at h
          · rename_i a ha; cases h; exact Ok_convI hC ho hk hk' hx ha
          · cases h
        · cases h
      · cases h
    · cases h
  · rename_i t x lo hi ho; exact dSlice_ok hC ho h hp
  · rename_i st s k ho; exact dFieldAddr_ok hC ho h
  · rename_i xt x k ho; exact dField_ok hC ho h
  · rename_i t s ix ho; exact dIndexAddr_ok hC ho h hp
  · rename_i t x ix ho; exact dIndex_ok hC ho h hp
  · rename_i s i ho; split at h
    · rename_i ds hs; split at h
      · rename_i d hd; cases h; exact Ok_extract ho hs hd
      · cases h
    · cases h
  · rename_i x t ho; exact dLen_ok hC ho h
  · rename_i x y t t2 ho; exact dAppend_ok hC ho h hp
  · cases h

section
variable {C : Cx} {env : Env} {σ : List Blk}
theorem EnvRel.shadow {tb H β n a t d} (he : EnvRel tb H β σ n a env) (hd : ∀ v, DRel tb H β σ v (getD env t) → DRel tb H β σ v d) : EnvRel tb H β σ n a ((t, d) :: env) := by
  refine ⟨he.1, fun u => ?_⟩
  have hg : getD ((t, d) :: env) u = match Nat.beq t u with | true => d | false => getD env u := rfl
  rw [hg]
  cases hb : Nat.beq t u with
  | true => have := Nat.eq_of_beq_eq_true hb; subst this; exact hd _ (he.2 t)
  | false => exact he.2 u
theorem DRel.known {tb H β v d b} (h : DRel tb H β σ v d) (hb : boolAny d = some b) : ∃ ty, DRel tb H β σ v (.kb ty b) := by
  have hv := boolAny_rel h hb
  subst hv
  unfold boolAny at hb
  split at hb
  · cases hb
    cases h with
    | t a c => cases c with
      | e r => cases r with
        | bool hc => exact ⟨_, .kb hc⟩
  · cases hb; exact ⟨_, h⟩
  · cases hb
end
end Go.Den
