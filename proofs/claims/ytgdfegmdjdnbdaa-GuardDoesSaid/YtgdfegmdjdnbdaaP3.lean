/- The calculus and the walks, part 3: DenDop, DenDraw, DenCall3. -/
import Derived.Test.YtgdfegmdjdnbdaaP2
import Derived.OrdersHeld
/- One function that tells what an operation does; and what it tells is so. -/
namespace Go.Den
open Go
set_option linter.unusedSectionVars false
set_option linter.unusedSimpArgs false
set_option linter.unusedVariables false

/-! forced forms, so that what is told stands written out -/
def litK {α : Sort _} (n : Nat) (k : Nat → α) : α := match n with
  | 0 => k 0 | 1 => k 1 | 2 => k 2 | 3 => k 3 | 4 => k 4 | 5 => k 5 | 6 => k 6 | 7 => k 7 | 8 => k 8 | 9 => k 9
  | 10 => k 10 | 11 => k 11 | 12 => k 12 | 13 => k 13 | 14 => k 14 | 15 => k 15 | 16 => k 16 | 17 => k 17 | 18 => k 18 | 19 => k 19
  | n => k n
theorem litK_eq {α : Sort _} (n : Nat) (k : Nat → α) : litK n k = k n := by unfold litK; split <;> rfl
def appK {α : Type _} {β : Sort _} : List α → α → (List α → β) → β
  | [], x, k => k [x]
  | y :: ys, x, k => appK ys x fun zs => k (y :: zs)
theorem appK_eq {α : Type _} {β : Sort _} : ∀ (l : List α) (x : α) (k : List α → β), appK l x k = k (l ++ [x])
  | [], _, _ => rfl
  | y :: ys, x, k => by simp only [appK]; rw [appK_eq ys x]; rfl
def setK {α : Type _} {β : Sort _} : List α → Nat → α → (List α → β) → β
  | [], _, _, k => k []
  | _ :: ys, 0, x, k => k (x :: ys)
  | y :: ys, n + 1, x, k => setK ys n x fun zs => k (y :: zs)
theorem setK_eq {α : Type _} {β : Sort _} : ∀ (l : List α) (n : Nat) (x : α) (k : List α → β), setK l n x k = k (l.set n x)
  | [], _, _, _ => rfl
  | _ :: _, 0, _, _ => rfl
  | y :: ys, n + 1, x, k => by simp only [setK]; rw [setK_eq ys n x]; rfl
def pathK {β : Sort _} : List Nat → Nat → (List Nat → β) → β := appK

/-! operations -/
def dBin (C : Cx) (env : Env) (σ : List Blk) (rt : TypeId) (op : BinOp) (xt : TypeId) (x y : Operand) (yt : TypeId) : Option DR :=
  match td C.tb xt with
  | .int k => match opd C.tb env xt x with
    | some dx => match intAt C.tb xt dx with
      | some a => match op with
        | .shl | .shr => match opd C.tb env yt y with
          | some dy => match intAny dy with
            | some b => match td C.tb rt == .int k with
              | true => match shiftOp k op a b with
                | some n => some ⟨arithP op b, .t rt (.e (.int n)), σ⟩
                | none => none
              | false => none
            | none => none
          | none => none
        | _ => match opd C.tb env xt y with
          | some dy => match intAt C.tb xt dy with
            | some b => match cmpI op a b with
              | some c => some ⟨True, .t C.bt (.e (.bool c)), σ⟩
              | none => match td C.tb rt == .int k with
                | true => match arith k op a b with
                  | some n => some ⟨arithP op b, .t rt (.e (.int n)), σ⟩
                  | none => none
                | false => none
            | none => none
          | none => none
      | none => none
    | none => none
  | .str => match opd C.tb env xt x with
    | some dx => match strAny dx with
      | some a => match opd C.tb env xt y with
        | some dy => match strAny dy with
          | some b => match cmpS op a b with
            | some c => some ⟨True, .t C.bt (.e (.bool c)), σ⟩
            | none => match op with
              | .add => match td C.tb rt with
                | .str => some ⟨((a.length + b.length : Nat) : Int) ≤ maxI, .t rt (.e (.str (a ++ b))), σ⟩
                | _ => none
              | _ => none
          | none => none
        | none => none
      | none => none
    | none => none
  | .bool => match opd C.tb env xt x with
    | some dx => match boolAny dx with
      | some a => match opd C.tb env xt y with
        | some dy => match boolAny dy with
          | some b => match op with
            | .eql => some ⟨True, .t C.bt (.e (.bool (a == b))), σ⟩
            | .neq => some ⟨True, .t C.bt (.e (.bool (!(a == b)))), σ⟩
            | _ => none
          | none => none
        | none => none
      | none => none
    | none => none
  | _ => none

theorem td_beq {tb : Tab} {t : TypeId} {d : TD} (h : (td tb t == d) = true) : td tb t = d := by simpa using h

theorem dBin_ok {C : Cx} (hC : Ok C) {o : Oper} {env : Env} {σ : List Blk} {op xt x y yt} {r : DR} (ho : o.op = .binOp op xt x y yt) (h : dBin C env σ o.type op xt x y yt = some r) (hp : r.p) : OpOk C o env σ r := by
  have key : OpOk C o env σ ⟨True, r.d, r.s⟩ → OpOk C o env σ r := fun h => ⟨h.v, h.val⟩
  refine key ?_
  unfold dBin at h
  split at h
  · rename_i k hk
    split at h
    · rename_i dx hx
      split at h
      · rename_i a ha
        split at h
        · split at h
          · rename_i dy hy
            split at h
            · rename_i b hb
              split at h
              · rename_i hr
                split at h
                · rename_i n hn; cases h; exact Ok_shift ho hk (td_beq hr) hx hy ha hb hn hp
                · cases h
              · cases h
            · cases h
          · cases h
        · split at h
          · rename_i dy hy
            split at h
            · rename_i b hb
              split at h
              · rename_i hr
                split at h
                · rename_i n hn; cases h; exact Ok_shift ho hk (td_beq hr) hx hy ha hb hn hp
                · cases h
              · cases h
            · cases h
          · cases h
        · split at h
          · rename_i dy hy
            split at h
            · rename_i b hb
              split at h
              · rename_i c hc; cases h; exact Ok_cmpI hC.bt ho hk hx hy ha hb hc
              · split at h
                · rename_i hr
                  split at h
                  · rename_i n hn; cases h; exact Ok_arith ho hk (td_beq hr) hx hy ha hb hn hp
                  · cases h
                · cases h
            · cases h
          · cases h
      · cases h
    · cases h
  · rename_i hk
    split at h
    · rename_i dx hx
      split at h
      · rename_i a ha
        split at h
        · rename_i dy hy
          split at h
          · rename_i b hb
            split at h
            · rename_i c hc; cases h; exact Ok_cmpS hC.bt ho hx hy ha hb hc
            · split at h
              · split at h
                · rename_i hr; cases h; exact Ok_addS ho hr hx hy ha hb hp
                · cases h
              · cases h
          · cases h
        · cases h
      · cases h
    · cases h
  · rename_i hk
    split at h
    · rename_i dx hx
      split at h
      · rename_i a ha
        split at h
        · rename_i dy hy
          split at h
          · rename_i b hb
            split at h
            · cases h; exact Ok_eqB hC ho (.inl rfl) hk hx hy ha hb
            · cases h; exact Ok_eqB hC ho (.inr rfl) hk hx hy ha hb
            · cases h
          · cases h
        · cases h
      · cases h
    · cases h
  · cases h

def dUn (C : Cx) (env : Env) (σ : List Blk) (rt : TypeId) (op : UnOp) (t : TypeId) (x : Operand) : Option DR :=
  match opd C.tb env t x with
  | some dx => match op with
    | .not => match dx with
      | .kb _ true => some ⟨True, .kb C.bt false, σ⟩
      | .kb _ false => some ⟨True, .kb C.bt true, σ⟩
      | .t _ (.e (.bool a)) => some ⟨True, .t C.bt (.e (.bool (!a))), σ⟩
      | _ => none
    | .xor => match td C.tb t with
      | .int k => match td C.tb rt == .int k with
        | true => match intAt C.tb t dx with
          | some a => some ⟨True, .t rt (.e (.int (xorAll k a))), σ⟩
          | none => none
        | false => none
      | _ => none
    | .neg => match td C.tb t with
      | .int k => match td C.tb rt == .int k with
        | true => match intAt C.tb t dx with
          | some a => some ⟨True, .t rt (.e (.int (k.wrap (-a)))), σ⟩
          | none => none
        | false => none
      | _ => none
    | _ => none
  | none => none
theorem dUn_ok {C : Cx} (hC : Ok C) {o : Oper} {env : Env} {σ : List Blk} {op t x} {r : DR} (ho : o.op = .unOp op t x) (h : dUn C env σ o.type op t x = some r) : OpOk C o env σ r := by
  have key : OpOk C o env σ ⟨True, r.d, r.s⟩ → OpOk C o env σ r := fun h => ⟨h.v, h.val⟩
  refine key ?_
  unfold dUn at h
  split at h
  · rename_i dx hx
    split at h
    · split at h
      · cases h; exact Ok_notK hC.bt ho hx rfl
      · cases h; exact Ok_notK hC.bt ho hx rfl
      · cases h; exact Ok_not hC.bt ho hx rfl
      · cases h
    · split at h
      · rename_i k hk
        split at h
        · rename_i hr
          split at h
          · rename_i a ha; cases h; exact Ok_xorU ho hk (td_beq hr) hx ha
          · cases h
        · cases h
      · cases h
    · split at h
      · rename_i k hk
        split at h
        · rename_i hr
          split at h
          · rename_i a ha; cases h; exact Ok_neg ho hk (td_beq hr) hx ha
          · cases h
        · cases h
      · cases h
    · cases h
  · cases h

/-! addresses, loads, stores -/
def dFieldAddr (C : Cx) (env : Env) (σ : List Blk) (st : TypeId) (s k : Nat) : Option DR :=
  match td C.tb st with
  | .st fs => match fs[k]? with
    | some f => match Nat.beq (sz C.tb f.1) 0 with
      | false => match getD env s with
        | .ptr i p => match σ[i]? with
          | some (.tree ty _) => match same C.tb (tyAt C.tb ty p) st with
            | true => pathK p k fun q => some ⟨True, .ptr i q, σ⟩
            | false => none
          | _ => none
        | .el u xs j p => match same C.tb (tyAt C.tb u p) st with
          | true => pathK p k fun q => some ⟨True, .el u xs j q, σ⟩
          | false => none
        | _ => none
      | true => none
    | none => none
  | _ => none
theorem dFieldAddr_ok {C : Cx} (hC : Ok C) {o : Oper} {env : Env} {σ : List Blk} {st s k} {r : DR} (ho : o.op = .fieldAddr st (.tmp s) k) (h : dFieldAddr C env σ st s k = some r) : OpOk C o env σ r := by
  have key : OpOk C o env σ ⟨True, r.d, r.s⟩ → OpOk C o env σ r := fun h => ⟨h.v, h.val⟩
  refine key ?_
  unfold dFieldAddr pathK at h
  split at h
  · rename_i fs hst
    split at h
    · rename_i f hf
      split at h
      · rename_i hz
        have hz := Nat.ne_of_beq_eq_false hz
        split at h
        · rename_i i p hs
          split at h
          · rename_i ty X hi
            split at h
            · rename_i ht; rw [appK_eq] at h; cases h; exact Ok_fieldAddr hC ho hs hi ht hst hf hz
            · cases h
          · cases h
        · rename_i u xs j p hs
          split at h
          · rename_i ht; rw [appK_eq] at h; cases h; exact Ok_fieldAddrE hC ho hs ht hst hf hz
          · cases h
        · cases h
      · cases h
    · cases h
  · cases h

def dLoad (C : Cx) (env : Env) (σ : List Blk) (t : TypeId) (s : Nat) : Option DR :=
  match getD env s with
  | .ptr i p => match σ[i]? with
    | some (.tree ty X) => match same C.tb (tyAt C.tb ty p) t with
      | true => match getT p X with
        | .ptr j q => some ⟨True, .ptr j q, σ⟩
        | .st ys => match toE (.st ys) with
          | some e => some ⟨True, .t t (.e e), σ⟩
          | none => some ⟨True, .t t (.st ys), σ⟩
        | .e x => some ⟨True, .t t (.e x), σ⟩
        | .nsl => some ⟨True, .t t .nsl, σ⟩
        | .bsl ys => some ⟨True, .t t (.bsl ys), σ⟩
        | .lsl j ys => some ⟨True, .t t (.lsl j ys), σ⟩
        | .fn f c => some ⟨True, .t t (.fn f c), σ⟩
        | .msl j n => some ⟨True, .t t (.msl j n), σ⟩
        | .tsl ys => some ⟨True, .t t (.tsl ys), σ⟩
        | .mp j => some ⟨True, .t t (.mp j), σ⟩
      | false => none
    | _ => none
  | .el u xs j p => match same C.tb (tyAt C.tb u p) t with
    | true => some ⟨True, .t t (.e (getE p (xs.getD j .nilp))), σ⟩
    | false => none
  | _ => none
theorem dLoad_ok {C : Cx} (hC : Ok C) {o : Oper} {env : Env} {σ : List Blk} {t s} {r : DR} (ho : o.op = .load t (.tmp s)) (h : dLoad C env σ t s = some r) : OpOk C o env σ r := by
  have key : OpOk C o env σ ⟨True, r.d, r.s⟩ → OpOk C o env σ r := fun h => ⟨h.v, h.val⟩
  refine key ?_
  unfold dLoad at h
  split at h
  · rename_i i p hs
    split at h
    · rename_i ty X hi
      split at h
      · rename_i ht
        have hl := Ok_load hC ho hs hi ht
        split at h
        · rename_i hg; cases h; rw [hg] at hl; exact hl
        · rename_i ys hg
          split at h
          · rename_i e he; cases h; rw [hg] at hl; simp only [ldD, he] at hl; exact hl
          · rename_i he; cases h; rw [hg] at hl; simp only [ldD, he] at hl; exact hl
        · rename_i hg; cases h; rw [hg] at hl; exact hl
        · rename_i hg; cases h; rw [hg] at hl; exact hl
        · rename_i hg; cases h; rw [hg] at hl; exact hl
        · rename_i hg; cases h; rw [hg] at hl; exact hl
        · rename_i hg; cases h; rw [hg] at hl; exact hl
        · rename_i hg; cases h; rw [hg] at hl; exact hl
        · rename_i hg; cases h; rw [hg] at hl; exact hl
        · rename_i hg; cases h; rw [hg] at hl; exact hl
      · cases h
    · cases h
  · rename_i hs
    split at h
    · rename_i ht; cases h; exact Ok_loadE hC ho hs ht
    · cases h
  · cases h

def dStore (C : Cx) (env : Env) (σ : List Blk) (t : TypeId) (s : Nat) (x : Operand) : Option DR :=
  match getD env s with
  | .ptr i p => match σ[i]? with
    | some (.tree ty X) => match same C.tb t (tyAt C.tb ty p) with
      | true => match opd C.tb env t x with
        | some d => match asT C.tb t d with
          | some y => setK σ i (.tree ty (setT p y X)) fun σ' => some ⟨True, .any, σ'⟩
          | none => none
        | none => none
      | false => none
    | _ => none
  | _ => none
theorem dStore_ok {C : Cx} (hC : Ok C) {o : Oper} {env : Env} {σ : List Blk} {t s x} {r : DR} (ho : o.op = .store t (.tmp s) x) (h : dStore C env σ t s x = some r) : OpOk C o env σ r := by
  have key : OpOk C o env σ ⟨True, r.d, r.s⟩ → OpOk C o env σ r := fun h => ⟨h.v, h.val⟩
  refine key ?_
  unfold dStore at h
  split at h
  · rename_i i p hs
    split at h
    · rename_i ty X hi
      split at h
      · rename_i ht
        split at h
        · rename_i d hd
          split at h
          · rename_i y hy; rw [setK_eq] at h; cases h; exact Ok_store hC ho hs hi ht hd hy
          · cases h
        · cases h
      · cases h
    · cases h
  · cases h

def dIndexAddr (C : Cx) (env : Env) (σ : List Blk) (t : TypeId) (s : Nat) (ix : Operand) : Option DR :=
  match opdN env ix with
  | some iv => match td C.tb t with
    | .arr n u => match Nat.beq (sz C.tb u) 0 with
      | false => match getD env s with
        | .ptr i p => match σ[i]? with
          | some (.tree ty _) => match td C.tb (tyAt C.tb ty p) == .arr n u with
            | true => pathK p iv.toNat fun q => some ⟨0 ≤ iv ∧ iv < n, .ptr i q, σ⟩
            | false => none
          | _ => none
        | _ => none
      | true => none
    | .sl u => match Nat.beq (sz C.tb u) 0 with
      | false => match slE (getD env s) with
        | some xs => match same C.tb (tagD (getD env s)) t with
          | true => some ⟨0 ≤ iv ∧ iv < xs.length, .el u xs iv.toNat [], σ⟩
          | false => none
        | none => none
      | true => none
    | _ => none
  | none => none
theorem dIndexAddr_ok {C : Cx} (hC : Ok C) {o : Oper} {env : Env} {σ : List Blk} {t s ix} {r : DR} (ho : o.op = .indexAddr t (.tmp s) ix) (h : dIndexAddr C env σ t s ix = some r) (hp : r.p) : OpOk C o env σ r := by
  have key : OpOk C o env σ ⟨True, r.d, r.s⟩ → OpOk C o env σ r := fun h => ⟨h.v, h.val⟩
  refine key ?_
  unfold dIndexAddr pathK at h
  split at h
  · rename_i iv hiv
    split at h
    · rename_i n u ht
      split at h
      · rename_i hz
        split at h
        · rename_i i p hs
          split at h
          · rename_i ty X hi
            split at h
            · rename_i hty; rw [appK_eq] at h; cases h; exact Ok_indexAddrA hC ho hs hi ht (td_beq hty) (Nat.ne_of_beq_eq_false hz) hiv hp.1 hp.2
            · cases h
          · cases h
        · cases h
      · cases h
    · rename_i u ht
      split at h
      · rename_i hz
        split at h
        · rename_i xs hxs
          split at h
          · rename_i hsm; cases h; exact Ok_indexAddrS hC ho rfl hxs ht hsm (Nat.ne_of_beq_eq_false hz) hiv hp.1 hp.2
          · cases h
        · cases h
      · cases h
    · cases h
  · cases h

def dIndex (C : Cx) (env : Env) (σ : List Blk) (rt t : TypeId) (x ix : Operand) : Option DR :=
  match opdN env ix with
  | some iv => match opd C.tb env t x with
    | some dx => match td C.tb t with
      | .str => match td C.tb rt with
        | .int .u8 => match strAny dx with
          | some s => some ⟨0 ≤ iv ∧ iv < s.length, .t rt (.e (.int (s.getD iv.toNat 0).toNat)), σ⟩
          | none => none
        | _ => none
      | .arr n u => match td C.tb u with
        | .other => none
        | _ => match dx with
          | .t ty (.e y) => match same C.tb ty t with
            | true => some ⟨0 ≤ iv ∧ iv < n, .t u (.e (childE iv.toNat y)), σ⟩
            | false => none
          | _ => none
      | _ => none
    | none => none
  | none => none
theorem dIndex_ok {C : Cx} (hC : Ok C) {o : Oper} {env : Env} {σ : List Blk} {t x ix} {r : DR} (ho : o.op = .index t x ix) (h : dIndex C env σ o.type t x ix = some r) (hp : r.p) : OpOk C o env σ r := by
  have key : OpOk C o env σ ⟨True, r.d, r.s⟩ → OpOk C o env σ r := fun h => ⟨h.v, h.val⟩
  refine key ?_
  unfold dIndex at h
  split at h
  · rename_i iv hiv
    split at h
    · rename_i dx hx
      split at h
      · rename_i ht
        split at h
        · rename_i hr
          split at h
          · rename_i s hs; cases h; exact Ok_indexStr hC ho ht hr hx hs hiv hp.1 hp.2
          · cases h
        · cases h
      · rename_i n u ht
        split at h
        · cases h
        · rename_i hu
          split at h
          · split at h
            · rename_i ty y hsm; cases h; exact Ok_indexA hC ho ht hx rfl hsm hiv hp.1 hp.2 hu
            · cases h
          · cases h
      · cases h
    · cases h
  · cases h

def dField (C : Cx) (env : Env) (σ : List Blk) (xt : TypeId) (x : Operand) (k : Nat) : Option DR :=
  match td C.tb xt with
  | .st fs => match fs[k]? with
    | some f => match opd C.tb env xt x with
      | some (.t ty (.e y)) => match same C.tb ty xt with
        | true => some ⟨True, .t f.1 (.e (childE k y)), σ⟩
        | false => none
      | _ => none
    | none => none
  | _ => none
theorem dField_ok {C : Cx} (hC : Ok C) {o : Oper} {env : Env} {σ : List Blk} {xt x k} {r : DR} (ho : o.op = .field xt x k) (h : dField C env σ xt x k = some r) : OpOk C o env σ r := by
  have key : OpOk C o env σ ⟨True, r.d, r.s⟩ → OpOk C o env σ r := fun h => ⟨h.v, h.val⟩
  refine key ?_
  unfold dField at h
  split at h
  · rename_i fs hst
    split at h
    · rename_i f hf
      split at h
      · rename_i ty y hx
        split at h
        · rename_i hs; cases h; exact Ok_field hC ho hx rfl hs hst hf
        · cases h
      · cases h
    · cases h
  · cases h

def dSlice (C : Cx) (env : Env) (σ : List Blk) (rt t : TypeId) (x : Operand) (lo hi : Option Operand) : Option DR :=
  match opd C.tb env t x with
  | some dx => match bnd env 0 lo with
    | some l => match td C.tb t with
      | .str => match td C.tb rt with
        | .str => match strAny dx with
          | some s => match bnd env s.length hi with
            | some h => some ⟨0 ≤ l ∧ l ≤ h ∧ h ≤ s.length, .t rt (.e (.str ((s.take h.toNat).drop l.toNat))), σ⟩
            | none => none
          | none => none
        | _ => none
      | .sl u => match Nat.beq (sz C.tb u) 0 with
        | false => match slE dx with
          | some xs => match same C.tb (tagD dx) t with
            | true => match bnd env xs.length hi with
              | some h => some ⟨0 ≤ l ∧ l ≤ h ∧ h ≤ xs.length, .t t (.e (.sl ((xs.take h.toNat).drop l.toNat))), σ⟩
              | none => none
            | false => none
          | none => none
        | true => none
      | _ => none
    | none => none
  | none => none
theorem dSlice_ok {C : Cx} (hC : Ok C) {o : Oper} {env : Env} {σ : List Blk} {t x lo hi} {r : DR} (ho : o.op = .slice t x lo hi none) (h : dSlice C env σ o.type t x lo hi = some r) (hp : r.p) : OpOk C o env σ r := by
  have key : OpOk C o env σ ⟨True, r.d, r.s⟩ → OpOk C o env σ r := fun h => ⟨h.v, h.val⟩
  refine key ?_
  unfold dSlice at h
  split at h
  · rename_i dx hx
    split at h
    · rename_i l hl
      split at h
      · rename_i ht
        split at h
        · rename_i hr
          split at h
          · rename_i s hs
            split at h
            · rename_i hv hh; cases h; exact Ok_sliceStr hC ho ht hr hx hs hl hh hp.1 hp.2.1 hp.2.2
            · cases h
          · cases h
        · cases h
      · rename_i u ht
        split at h
        · rename_i hz
          split at h
          · rename_i xs hxs
            split at h
            · rename_i hsm
              split at h
              · rename_i hv hh; cases h; exact Ok_sliceL hC ho ht hx hxs hsm (Nat.ne_of_beq_eq_false hz) hl hh hp.1 hp.2.1 hp.2.2
              · cases h
            · cases h
          · cases h
        · cases h
      · cases h
    · cases h
  · cases h

def dLen (C : Cx) (env : Env) (σ : List Blk) (rt t : TypeId) (x : Operand) : Option DR :=
  match td C.tb rt with
  | .int .i64 => match opd C.tb env t x with
    | some dx => match td C.tb t with
      | .str => match strAny dx with
        | some s => some ⟨True, .t rt (.e (.int s.length)), σ⟩
        | none => none
      | .sl _ => match slLen dx with
        | some n => some ⟨True, .t rt (.e (.int n)), σ⟩
        | none => none
      | _ => none
    | none => none
  | _ => none
theorem dLen_ok {C : Cx} (hC : Ok C) {o : Oper} {env : Env} {σ : List Blk} {t x} {r : DR} (ho : o.op = .call { callee := .builtin .len, args := #[x], argTypes := #[t] }) (h : dLen C env σ o.type t x = some r) : OpOk C o env σ r := by
  have key : OpOk C o env σ ⟨True, r.d, r.s⟩ → OpOk C o env σ r := fun h => ⟨h.v, h.val⟩
  refine key ?_
  unfold dLen at h
  split at h
  · rename_i hr
    split at h
    · rename_i dx hx
      split at h
      · rename_i ht
        split at h
        · rename_i s hs; cases h; exact Ok_lenS hC ho ht hr hx hs
        · cases h
      · rename_i u ht
        split at h
        · rename_i n hn; cases h; exact Ok_lenL hC ho ht hr hx hn
        · cases h
      · cases h
    · cases h
  · cases h

def dAppend (C : Cx) (env : Env) (σ : List Blk) (t t2 : TypeId) (x y : Operand) : Option DR :=
  match td C.tb t with
  | .sl u => match plain C.tb zf u with
    | true => match opd C.tb env t x with
      | some dx => match opd C.tb env t2 y with
        | some dy => match srcE C.tb t t2 dy with
          | some ys => match freshE dx with
            | some xs => match same C.tb (tagD dx) t with
              | true => litK σ.length fun i => appK σ (.row u (xs ++ ys).length) fun σ' => some ⟨(xs.length + ys.length) * nb C.tb u ≤ maxL ∧ xs.length + ys.length ≤ maxL, .t t (.lsl i (xs ++ ys)), σ'⟩
              | false => none
            | none => match dx with
              | .t tx (.lsl i xs) => match same C.tb tx t with
                | true => match σ[i]? with
                  | some (.row u' n) => match Nat.beq u u' with
                    | true => setK σ i (.row u (xs ++ ys).length) fun σ' => some ⟨n = xs.length ∧ (xs.length + ys.length) * nb C.tb u ≤ maxL ∧ xs.length + ys.length ≤ maxL, .t t (.lsl i (xs ++ ys)), σ'⟩
                    | false => none
                  | _ => none
                | false => none
              | _ => none
          | none => none
        | none => none
      | none => none
    | false => none
  | _ => none
theorem dAppend_ok {C : Cx} (hC : Ok C) {o : Oper} {env : Env} {σ : List Blk} {t t2 x y} {r : DR} (ho : o.op = .call { callee := .builtin .append, args := #[x, y], argTypes := #[t, t2] }) (h : dAppend C env σ t t2 x y = some r) (hp : r.p) : OpOk C o env σ r := by
  have key : OpOk C o env σ ⟨True, r.d, r.s⟩ → OpOk C o env σ r := fun h => ⟨h.v, h.val⟩
  refine key ?_
  unfold dAppend at h
  split at h
  · rename_i u ht
    split at h
    · rename_i hz
      split at h
      · rename_i dx hx
        split at h
        · rename_i dy hy
          split at h
          · rename_i ys hys
            split at h
            · rename_i xs hxs
              split at h
              · rename_i hsm; rw [litK_eq, appK_eq] at h; cases h; exact Ok_appendNew hC ho ht hz hx hxs hsm hy hys hp
              · cases h
            · split at h
              · split at h
                · rename_i hsm
                  split at h
                  · rename_i u' n hi
                    split at h
                    · rename_i hu
                      have hu := Nat.eq_of_beq_eq_true hu
                      subst hu
                      rw [setK_eq] at h; cases h; exact Ok_appendRow hC ho ht hz hx rfl hsm hi hp.1 hy hys hp.2
                    · cases h
                  · cases h
                · cases h
              · cases h
          · cases h
        · cases h
      · cases h
    · cases h
  · cases h

/-- What an operation does, if this calculus tells it: on what terms, what the temporary holds, what the blocks are behind it. -/
def dop (C : Cx) (env : Env) (σ : List Blk) (o : Oper) : Option DR := match o.op with
  | .move x => match opd C.tb env o.type x with | some d => some ⟨True, d, σ⟩ | none => none
  | .assign x => match opd C.tb env o.type x with | some d => some ⟨True, d, σ⟩ | none => none
  | .pick c x y => match opd C.tb env o.type c with
    | some (.kb _ true) => match opd C.tb env o.type x with | some d => some ⟨True, d, σ⟩ | none => none
    | some (.kb _ false) => match opd C.tb env o.type y with | some d => some ⟨True, d, σ⟩ | none => none
    | _ => none
  | .alloc elem => match plain C.tb zf elem with
    | true => litK σ.length fun i => appK σ (.tree elem (zeroT C.tb zf elem)) fun σ' => some ⟨True, .ptr i [], σ'⟩
    | false => none
  | .box elem x => match opd C.tb env elem x with
    | some d => match asT C.tb elem d with
      | some y => litK σ.length fun i => appK σ (.tree elem y) fun σ' => some ⟨True, .ptr i [], σ'⟩
      | none => none
    | none => none
  | .build t ps => match td C.tb t with
    | .st fs => match plain C.tb zf t with
      | true => match partsT C.tb env (fieldTy fs) ps.toList with
        | some qs => match buildT qs (zeroT C.tb zf t) with
          | .st ys => match toE (.st ys) with
            | some e => some ⟨True, .t t (.e e), σ⟩
            | none => some ⟨True, .t t (.st ys), σ⟩
          | .e x => some ⟨True, .t t (.e x), σ⟩
          | _ => none
        | none => none
      | false => none
    | _ => none
  | .buildSlice t len ps => match td C.tb t with
    | .sl u => match plain C.tb zf u with
      | true => match denseE C.tb env u 0 ps.toList with
        | some ys => match Nat.beq ys.length len with
          | true => match Nat.ble (len * sz C.tb u) 16777216 && Nat.ble len 1000000 with
            | true => some ⟨True, .t t (.bsl ys), σ⟩
            | false => none
          | false => none
        | none => none
      | false => none
    | _ => none
  | .load t (.tmp s) => dLoad C env σ t s
  | .store t (.tmp s) x => dStore C env σ t s x
  | .nilCheck (.tmp s) => match getD env s with
    | .ptr i p => some ⟨True, .ptr i p, σ⟩
    | .el u xs j p => some ⟨True, .el u xs j p, σ⟩
    | _ => none
  | .binOp op xt x y yt => dBin C env σ o.type op xt x y yt
  | .unOp op t x => dUn C env σ o.type op t x
  | .convert s d x => match td C.tb s with
    | .int _ => match td C.tb d with
      | .int k' => match opd C.tb env s x with
        | some dx => match intAt C.tb s dx with
          | some a => some ⟨True, .t d (.e (.int (k'.wrap a))), σ⟩
          | none => none
        | none => none
      | _ => none
    | _ => none
  | .slice t x lo hi none => dSlice C env σ o.type t x lo hi
  | .fieldAddr st (.tmp s) k => dFieldAddr C env σ st s k
  | .field xt x k => dField C env σ xt x k
  | .indexAddr t (.tmp s) ix => dIndexAddr C env σ t s ix
  | .index t x ix => dIndex C env σ o.type t x ix
  | .extract (.tmp s) i => match getD env s with
    | .tup ds => match ds[i]? with
      | some d => some ⟨True, d, σ⟩
      | none => none
    | _ => none
  | .call { callee := .builtin .len, args := ⟨[x]⟩, argTypes := ⟨[t]⟩ } => dLen C env σ o.type t x
  | .call { callee := .builtin .append, args := ⟨[x, y]⟩, argTypes := ⟨[t, t2]⟩ } => dAppend C env σ t t2 x y
  | _ => none

theorem dop_ok {C : Cx} (hC : Ok C) {o : Oper} {env : Env} {σ : List Blk} {r : DR} (h : dop C env σ o = some r) (hp : r.p) : OpOk C o env σ r := by
  have key : OpOk C o env σ ⟨True, r.d, r.s⟩ → OpOk C o env σ r := fun h => ⟨h.v, h.val⟩
  unfold dop at h
  split at h
  · rename_i x ho; split at h
    · rename_i d hd; cases h; exact Ok_move (.inl ho) hd
    · cases h
  · rename_i x ho; split at h
    · rename_i d hd; cases h; exact Ok_move (.inr ho) hd
    · cases h
  · rename_i c x y ho; split at h
    · rename_i ty hc; split at h
      · rename_i d hd; cases h; exact Ok_pick ho hc rfl (fun _ => hd) (fun h => by cases h)
      · cases h
    · rename_i ty hc; split at h
      · rename_i d hd; cases h; exact Ok_pick ho hc rfl (fun h => by cases h) (fun _ => hd)
      · cases h
    · cases h
  · rename_i elem ho; split at h
    · rename_i hz; rw [litK_eq, appK_eq] at h; cases h; exact Ok_alloc hC ho hz
    · cases h
  · rename_i elem x ho; split at h
    · rename_i d hd; split at h
      · rename_i y hy; rw [litK_eq, appK_eq] at h; cases h; exact Ok_box hC ho hd hy
      · cases h
    · cases h
  · rename_i t ps ho; split at h
    · rename_i fs hst; split at h
      · rename_i hz; split at h
        · rename_i qs hqs
          have hl := Ok_buildS (σ := σ) hC ho hst hz hqs
          split at h
          · rename_i ys hy; rw [hy] at hl
            split at h
            · rename_i e he; cases h; simp only [ldD, he] at hl; exact hl
            · rename_i he; cases h; simp only [ldD, he] at hl; exact hl
          · rename_i x hy; rw [hy] at hl; cases h; exact hl
          · cases h
        · cases h
      · cases h
    · cases h
  · rename_i t len ps ho; split at h
    · rename_i u ht; split at h
      · rename_i hz; split at h
        · rename_i ys hys; split at h
          · rename_i hl; split at h
            · rename_i hb
              simp only [Bool.and_eq_true] at hb
              have h1 := Nat.le_of_ble_eq_true hb.1
              have h2 := Nat.le_of_ble_eq_true hb.2
              cases h; exact Ok_buildSlice hC ho ht hz hys (Nat.eq_of_beq_eq_true hl) h1 (by unfold maxN; omega)
            · cases h
          · cases h
        · cases h
      · cases h
    · cases h
  · rename_i t s ho; exact dLoad_ok hC ho h
  · rename_i t s x ho; exact dStore_ok hC ho h
  · rename_i s ho; split at h
    · rename_i i p hs; cases h; exact Ok_nilCheck ho hs ⟨i, p, .inl rfl⟩
    · rename_i u xs j p hs; cases h; exact Ok_nilCheck ho hs ⟨0, p, .inr ⟨u, xs, j, rfl⟩⟩
    · cases h
  · rename_i op xt x y yt ho; exact dBin_ok hC ho h hp
  · rename_i op t x ho; exact dUn_ok hC ho h
  · rename_i s d x ho; split at h
    · rename_i k hk; split at h
      · rename_i k' hk'; split at h
        · rename_i dx hx; split at h
          · rename_i a ha; cases h; exact Ok_convI hC ho hk hk' hx ha
          · cases h
        · cases h
      · cases h
    · cases h
  · rename_i t x lo hi ho; exact dSlice_ok hC ho h hp
  · rename_i st s k ho; exact dFieldAddr_ok hC ho h
  · rename_i xt x k ho; exact dField_ok hC ho h
  · rename_i t s ix ho; exact dIndexAddr_ok hC ho h hp
  · rename_i t x ix ho; exact dIndex_ok hC ho h hp
  · rename_i s i ho; split at h
    · rename_i ds hs; split at h
      · rename_i d hd; cases h; exact Ok_extract ho hs hd
      · cases h
    · cases h
  · rename_i x t ho; exact dLen_ok hC ho h
  · rename_i x y t t2 ho; exact dAppend_ok hC ho h hp
  · cases h

section
variable {C : Cx} {env : Env} {σ : List Blk}
theorem EnvRel.shadow {tb H β n a t d} (he : EnvRel tb H β σ n a env) (hd : ∀ v, DRel tb H β σ v (getD env t) → DRel tb H β σ v d) : EnvRel tb H β σ n a ((t, d) :: env) := by
  refine ⟨he.1, fun u => ?_⟩
  have hg : getD ((t, d) :: env) u = match Nat.beq t u with | true => d | false => getD env u := rfl
  rw [hg]
  cases hb : Nat.beq t u with
  | true => have := Nat.eq_of_beq_eq_true hb; subst this; exact hd _ (he.2 t)
  | false => exact he.2 u
theorem DRel.known {tb H β v d b} (h : DRel tb H β σ v d) (hb : boolAny d = some b) : ∃ ty, DRel tb H β σ v (.kb ty b) := by
  have hv := boolAny_rel h hb
  subst hv
  unfold boolAny at hb
  split at hb
  · cases hb
    cases h with
    | t a c => cases c with
      | e r => cases r with
        | bool hc => exact ⟨_, .kb hc⟩
  · cases hb; exact ⟨_, h⟩
  · cases hb
end
end Go.Den
/- Regions that draw the order of their operations: what only reckons or reads may be taken first; a call waits until it stands alone. -/
namespace Go.Den
open Go
set_option linter.unusedSectionVars false
set_option linter.unusedSimpArgs false
set_option linter.unusedVariables false

section
variable {P : Program} {ops : Array Oper} {Q : Exit → Act → World → Prop} {md : Region.Mode}
/-- Whatever order is picked: behind each operation that turns the world, what S asks of that operation holds. -/
def wpAnyD (P : Program) (md : Region.Mode) (ops : Array Oper) (Q : Exit → Act → World → Prop) (S : Nat → World → Prop) : Nat → Array Bool → Act → World → Prop
  | 0, listed, a, w => Region.ready md ops listed = [] ∧ Q .normal a w
  | fuel + 1, listed, a, w =>
    (Region.ready md ops listed = [] → Q .normal a w) ∧
    ∀ i ∈ Region.ready md ops listed, wpOp P ops Q i (fun a' w' => (w' = w ∨ S i w') ∧ wpAnyD P md ops Q S fuel (listed.setIfInBounds i true) a' w') a w
theorem wpAny_of_D {S : Nat → World → Prop} : ∀ (fuel : Nat) (listed : Array Bool) (a : Act) (w : World), wpAnyD P md ops Q S fuel listed a w → wpAny P md ops Q fuel listed a w
  | 0, _, _, _, h => h
  | fuel + 1, _, _, _, h => ⟨h.1, fun i hi => wpOp_mono (fun a' w' h' => wpAny_of_D fuel _ a' w' h'.2) (h.2 i hi)⟩
/-- An operation that yields its value wherever T holds may be taken first, where what S asks of all that don't wait for it says T. -/
theorem wpAnyD_first {S : Nat → World → Prop} {T : World → Prop} {i : Nat} {oi : Oper} {v : Value} (hi : ops[i]? = some oi) (hsel : ∀ (j : Nat) (o : Oper) cs b, ops[j]? = some o → o.op ≠ .select cs b)
    (hQ : ∀ c a w, Q (.panic c) (a.put oi.dst v) w → Q (.panic c) a w) :
    ∀ (fuel : Nat) (listed : Array Bool) (a : Act) (w : World),
      (∀ j oj, ops[j]? = some oj → j ≠ i → listed.getD j true = false → (∀ e ∈ oj.after, Region.binds md e = true → e.on ≠ i) → oi.apart ops oj = true ∧ ∀ w, S j w → T w) →
      i ∈ Region.ready md ops listed → YieldsIf P ops T oi v a → T w →
      wpAnyD P md ops Q S fuel (listed.setIfInBounds i true) (a.put oi.dst v) w → wpAnyD P md ops Q S (fuel + 1) listed a w := by
  intro fuel
  induction fuel with
  | zero =>
    intro listed a w _ hr hy hS H
    refine ⟨fun h => (by rw [h] at hr; cases hr), fun j hj => ?_⟩
    by_cases hji : j = i
    · subst hji; exact hy.wpOp hi hS ⟨.inl rfl, H⟩
    · have := ready_mono hj hji
      rw [H.1] at this
      cases this
  | succ fuel ih =>
    intro listed a w hfree hr hy hS H
    refine ⟨fun h => (by rw [h] at hr; cases hr), fun j hj => ?_⟩
    by_cases hji : j = i
    · subst hji; exact hy.wpOp hi hS ⟨.inl rfl, H⟩
    · have h1 := H.2 j (ready_mono hj hji)
      obtain ⟨hjun, oj, hoj, hall⟩ := mem_ready.1 hj
      have hnot : ∀ e ∈ oj.after, Region.binds md e = true → e.on ≠ i := fun e he hb heq => by
        have h1 := hall e he hb
        have h0 := (mem_ready.1 hr).1
        rw [heq] at h1
        rcases Nat.lt_or_ge i listed.size with h' | h'
        · simp [h'] at h0 h1; rw [h0] at h1; cases h1
        · simp [Array.getElem?_eq_none h'] at h1
      obtain ⟨hap, hST⟩ := hfree j oj hoj hji hjun hnot
      have h2 := wpOp_putIf hoj hap (fun cs b => hsel i oi cs b hi) (fun cs b => hsel j oj cs b hoj) hQ hy h1
      have hfree' : ∀ k ok, ops[k]? = some ok → k ≠ i → (listed.setIfInBounds j true).getD k true = false →
          (∀ e ∈ ok.after, Region.binds md e = true → e.on ≠ i) → oi.apart ops ok = true ∧ ∀ w, S k w → T w := fun k ok hk hki hun hno => by
        refine hfree k ok hk hki ?_ hno
        by_cases hjk : j = k
        · subst hjk; exact hjun
        · rw [getD_set_ne true hjk] at hun; exact hun
      refine wpOp_mono (fun a' w' h3 => ⟨h3.2.1, ih (listed.setIfInBounds j true) a' w' hfree' (ready_mono hr (Ne.symm hji)) h3.1 ?_ ?_⟩) h2
      · rcases h3.2.1 with h | h
        · rw [h]; exact hS
        · exact hST _ h
      · rw [Array.setIfInBounds_comm _ _ hji]
        exact h3.2.2
theorem wpAnyD_all {S : Nat → World → Prop} {rs : List Nat} {fuel : Nat} {listed : Array Bool} {a : Act} {w : World} (hr : Region.ready md ops listed = rs) (hne : rs ≠ [])
    (h : ∀ i ∈ rs, wpOp P ops Q i (fun a' w' => (w' = w ∨ S i w') ∧ wpAnyD P md ops Q S fuel (listed.setIfInBounds i true) a' w') a w) : wpAnyD P md ops Q S (fuel + 1) listed a w :=
  ⟨fun h0 => absurd (hr ▸ h0) hne, hr ▸ h⟩
theorem wpAnyD_done {S : Nat → World → Prop} {listed : Array Bool} {a : Act} {w : World} (hr : Region.ready md ops listed = []) (h : Q .normal a w) :
    ∀ fuel, wpAnyD P md ops Q S fuel listed a w
  | 0 => ⟨hr, h⟩
  | _ + 1 => ⟨fun _ => h, by rw [hr]; simp⟩
end
/-- Whether number j waits for number i. -/
def waits (ops : Array Oper) (j i : Nat) : Bool := match ops[j]? with
  | some oj => oj.after.any fun e => Region.binds .any e && e.on == i
  | none => true
/-- What has been taken first: its number, and what its value hangs on. -/
abbrev Tk := List (Nat × (World → Prop))
def sOf (ops : Array Oper) (tk : Tk) : Nat → World → Prop := fun j w => ∀ p ∈ tk, waits ops j p.1 = false → p.2 w

/-- What stands, of a world, but for the blocks in ts. -/
def Keeps (ts : List Nat) (H : Gh) (w w' : World) : Prop := ∀ b o u, w.cell? ⟨b, o, none⟩ = some u → ((∃ x, H b o = .pers x) ∨ ∃ i, i ∉ ts ∧ H b o = .mine i) → w'.cell? ⟨b, o, none⟩ = some u
def Frm (ts : List Nat) (H : Gh) (w : World) (H' : Gh) (w' : World) : Prop :=
  ∀ b o u, w.cell? ⟨b, o, none⟩ = some u → ((∃ x, H b o = .pers x) ∨ ∃ i, i ∉ ts ∧ H b o = .mine i) → w'.cell? ⟨b, o, none⟩ = some u ∧ ((∃ x, H' b o = .pers x) ∨ ∃ i, i ∉ ts ∧ H' b o = .mine i)
def StabS (ts : List Nat) (H : Gh) (w : World) (S : World → Prop) : Prop := ∀ w', Keeps ts H w w' → S w'
theorem StabS.frm {ts H w H' w' S} (h : StabS ts H w S) (hf : Frm ts H w H' w') : StabS ts H' w' S := fun w'' hk => h w'' fun b o u hu hs => by
  obtain ⟨h1, h2⟩ := hf b o u hu hs
  exact hk b o u h1 h2
theorem StabS.here {ts H w S} (h : StabS ts H w S) : S w := h w fun _ _ _ hu _ => hu

/-- What an operation does, and what it leaves alone. -/
def OpF (C : Cx) (o : Oper) (env : Env) (σ : List Blk) (ts : List Nat) (R : D → List Blk → Prop) : Prop :=
  ∀ H β a w, Rel C.tb H β σ w → EnvRel C.tb H β σ C.n a env → a.defers = [] → ∀ (K : Act → World → Prop) (Qx : Exit → Act → World → Prop),
    (∀ v d w' H' β' σ', R d σ' → Rel C.tb H' β' σ' w' → DRel C.tb H' β' σ' v d → Stp H w H' w' → Ev H β σ H' β' σ' → Frm ts H w H' w' → K (a.put o.dst v) w') → o.wp C.P a w K Qx
theorem OpF.v {C o env σ ts R} (h : OpF C o env σ ts R) : OpV C o env σ R := fun H β a w hr he hd K Qx hK => h H β a w hr he hd K Qx fun v d w' H' β' σ' h1 h2 h3 h4 h5 _ => hK v d w' H' β' σ' h1 h2 h3 h4 h5

section
variable {C : Cx} {env : Env} {σ : List Blk} {Q : Post} {ops : Array Oper} {o : Oper} {ts : List Nat}

theorem Frm.same (ts : List Nat) (H : Gh) (w : World) : Frm ts H w H w := fun _ _ _ h k => ⟨h, k⟩

theorem OpF_val {r : DR} (h : OpOk C o env σ r) (hv : isVal o.op = true) : OpF C o env σ ts (fun d s => d = r.d ∧ s = r.s) := by
  intro H β a w hr he hd K Qx hK
  obtain ⟨hval, hs⟩ := h.val hv
  obtain ⟨v, hrun, hd⟩ := hval H β a w hr he
  simp only [Oper.wp, hrun w (.refl _ _ _), Oper.upon]
  exact hK v _ w H β σ ⟨rfl, hs.symm⟩ hr hd (.refl _ _) (.refl _ _ _) (.same _ _ _)

theorem wpOp_mono2 {P : Program} {Q Q' : Exit → Act → World → Prop} {K K' : Act → World → Prop} (hq : ∀ e a w, Q e a w → Q' e a w) (hk : ∀ a w, K a w → K' a w) {i : Nat} {a : Act} {w : World} (h : wpOp P ops Q i K a w) : wpOp P ops Q' i K' a w := by
  unfold wpOp at *
  split
  · rename_i h0; rw [h0] at h; exact hk _ _ h
  · rename_i o ho
    rw [ho] at h
    simp only at h
    split
    · rename_i hw
      rw [if_pos hw] at h
      rcases h with h | ⟨h1, ⟨a2, w2, h2⟩⟩
      · refine .inl ?_
        unfold Oper.wp at *
        generalize (execOp a.eval o).run P w = r at *
        cases r with
        | ok n w' =>
          cases n <;> simp only [Oper.upon] at h ⊢ <;>
            first
              | exact hk _ _ h
              | exact Calls.mono h (fun e w'' he => by
                  cases e <;> first
                    | exact hk _ _ he
                    | exact hq _ _ _ he
                    | (obtain ⟨a3, w3, h3⟩ := he; exact ⟨a3, w3, hq _ _ _ h3⟩))
              | exact Rows.mono h (fun _ _ he => hk _ _ he)
        | halt x w' => cases x <;> simp only [Oper.upon] at h ⊢ <;> first | exact hq _ _ _ h | exact h
      · exact .inr ⟨h1, a2, w2, hq _ _ _ h2⟩
    · rename_i hw; rw [if_neg hw] at h; exact hk _ _ h
theorem wpAnyD_mono2 {P : Program} {md : Region.Mode} {Q Q' : Exit → Act → World → Prop} {S S' : Nat → World → Prop} (hq : ∀ e a w, Q e a w → Q' e a w) (hs : ∀ i w, S i w → S' i w) : ∀ (fuel : Nat) (listed : Array Bool) (a : Act) (w : World),
    wpAnyD P md ops Q S fuel listed a w → wpAnyD P md ops Q' S' fuel listed a w
  | 0, _, _, _, h => ⟨h.1, hq _ _ _ h.2⟩
  | fuel + 1, _, _, _, h => ⟨fun h0 => hq _ _ _ (h.1 h0), fun i hi => wpOp_mono2 hq (fun a' w' h' => ⟨h'.1.imp id (hs i _), wpAnyD_mono2 hq hs fuel _ a' w' h'.2⟩) (h.2 i hi)⟩

def TkOk (ops : Array Oper) (ts : List Nat) (listed : Array Bool) (H : Gh) (w : World) (tk : Tk) : Prop :=
  ∀ p ∈ tk, p.1 < ops.size ∧ listed.getD p.1 true = true ∧ ∀ j, listed.getD j true = false → waits ops j p.1 = false → StabS ts H w p.2
theorem getD_set_self (listed : Array Bool) (i : Nat) : (listed.setIfInBounds i true).getD i true = true := by
  rcases Nat.lt_or_ge i listed.size with h | h
  · simp [h]
  · simp [Array.getElem?_eq_none h]
theorem unl_set {listed : Array Bool} {i j : Nat} (h : (listed.setIfInBounds i true).getD j true = false) : j ≠ i ∧ listed.getD j true = false := by
  by_cases hij : i = j
  · subst hij; rw [getD_set_self] at h; cases h
  · rw [getD_set_ne true hij] at h; exact ⟨fun e => hij e.symm, h⟩
theorem TkOk.set {ops : Array Oper} {ts : List Nat} {listed : Array Bool} {H : Gh} {w : World} {tk : Tk} (h : TkOk ops ts listed H w tk) (i : Nat) : TkOk ops ts (listed.setIfInBounds i true) H w tk := fun p hp => by
  obtain ⟨h0, h1, h2⟩ := h p hp
  refine ⟨h0, ?_, fun j hj => h2 j (unl_set hj).2⟩
  by_cases hij : i = p.1
  · rw [hij, getD_set_self]
  · rw [getD_set_ne true hij]; exact h1
def VH (C : Cx) (ops : Array Oper) (ts : List Nat) (fuel : Nat) (listed : Array Bool) (env : Env) (σ : List Blk) (Q : Post) : Prop :=
  ∀ H β a w, Rel C.tb H β σ w → EnvRel C.tb H β σ C.n a env → a.defers = [] → ∀ tk : Tk, TkOk ops ts listed H w tk → wpAnyD C.P .any ops (lift C H β σ w Q) (sOf ops tk) fuel listed a w

theorem lift_panic {H β w c a w'} (h : lift C H β σ w Q (.panic c) a w') : False := by obtain ⟨x, hx, _⟩ := h; cases hx

theorem VH_done {listed : Array Bool} (hr : Region.ready .any ops listed = []) (h : Q .nrm env σ) (fuel : Nat) : VH C ops ts fuel listed env σ Q :=
  fun _ _ _ _ hr' he hd _ _ => wpAnyD_done hr (lift.here hr' he hd rfl h) fuel

/-- Whether an operation is wanted, as far as the temporaries tell. -/
def wants (ops : List Oper) (env : Env) (o : Oper) : Option Bool := match o.guard with
  | none => some true
  | some (j, want) => match ops[j]? with
    | some oj => match oj.dst with
      | some t => match getD env t with
        | .kb _ true => some want
        | .kb _ false => match want with
          | true => some false
          | false => some true
        | .tup [] => some false
        | _ => none
      | none => none
    | none => none

theorem DRel.undef {tb : Tab} {H β} {σ : List Blk} : DRel tb H β σ undef (.tup []) := .tup rfl fun i v d hv hd => by simp at hd
theorem yielded_undef {tb : Tab} {H β n a} (he : EnvRel tb H β σ n a env) {ops : Array Oper} {j t : Nat} {oj : Oper} (hj : ops[j]? = some oj) (ht : oj.dst = some t) (hb : getD env t = .tup []) : yielded ops a.tmps j = none := by
  have hv := he.get t
  rw [hb] at hv
  generalize hve : a.tmps.getD t Go.undef = v at hv
  cases hv with
  | tup h1 h2 =>
    rename_i vs
    have hvs : vs = #[] := Array.eq_empty_of_size_eq_zero h1
    subst hvs
    unfold yielded
    rw [hj]
    simp only [Option.bind_some, ht]
    rw [Array.getD_eq_getD_getElem?] at hve
    cases hx : a.tmps[t]? with
    | none => rfl
    | some x => rw [hx] at hve; simp at hve; subst hve; rfl

theorem wants_rel {l : List Oper} {H β n a b} {tb : Tab} (he : EnvRel tb H β σ n a env) (h : wants l env o = some b) : Region.wanted o (yielded l.toArray a.tmps) = b := by
  unfold wants at h
  split at h
  · rename_i hg; cases h; simp [Region.wanted, hg]
  · rename_i j want hg
    split at h
    · rename_i oj hj
      split at h
      · rename_i t ht
        split at h
        · rename_i ty hb
          have hbb := Option.some.inj h
          rw [← hbb]
          have := yielded_of he (ops := l.toArray) (b := true) (by simpa using hj) ht (by rw [hb]; rfl)
          cases want <;> simp [Region.wanted, hg, this]
        · rename_i ty hb
          have := yielded_of he (ops := l.toArray) (b := false) (by simpa using hj) ht (by rw [hb]; rfl)
          split at h <;> cases h <;> simp [Region.wanted, hg, this]
        · rename_i hb
          have hbb := Option.some.inj h
          rw [← hbb]
          have := yielded_undef he (ops := l.toArray) (by simpa using hj) ht hb
          simp [Region.wanted, hg, this]
        · cases h
      · cases h
    · cases h

theorem VH_take {l : List Oper} {i : Nat} {fuel : Nat} {listed : Array Bool} {r : DR} (hi : l[i]? = some o) (hs : Region.noSelect l.toArray = true) (hf : Region.free .any l.toArray listed i = true) (hr : (Region.ready .any l.toArray listed).contains i = true)
    (hw : wants l env o = some true) (hn : dstOk C.n o.dst = true) (ho : OpOk C o env σ r) (hv : isVal o.op = true) (hd : ∀ j ∈ rsOf env o.op, j ∉ ts)
    (k : VH C l.toArray ts fuel (listed.setIfInBounds i true) (putD env o.dst r.d) r.s Q) : VH C l.toArray ts (fuel + 1) listed env σ Q := by
  intro H β a w hr' he hdef tk hS
  obtain ⟨hval, hss⟩ := ho.val hv
  rw [hss] at k
  obtain ⟨v, hrun, hrel⟩ := hval H β a w hr' he
  let T : World → Prop := fun w' => (execOp a.eval o).run C.P w' = .ok (.value v) w'
  have hT : StabS ts H w T := fun w' hk => hrun w' fun b o' u hu h => hk b o' u hu (h.imp id fun ⟨i, hi, hm⟩ => ⟨i, hd i hi, hm⟩)
  have hd' : (a.put o.dst v).defers = [] := by cases o.dst <;> exact hdef
  have hia : l.toArray[i]? = some o := by simpa using hi
  have hk := k H β (a.put o.dst v) w hr' (he.put hrel hn) hd' ((i, T) :: tk) (fun p hp => by
    rcases List.mem_cons.1 hp with rfl | hp
    · exact ⟨(Array.getElem?_eq_some_iff.1 hia).1, getD_set_self _ _, fun _ _ _ => hT⟩
    · exact hS.set i p hp)
  refine wpAnyD_mono2 (fun _ _ _ h => h) (fun j w h p hp => h p (List.mem_cons_of_mem _ hp)) _ _ _ _ (wpAnyD_first (S := sOf l.toArray ((i, T) :: tk)) (T := T) (v := v) (i := i) (oi := o) hia (Region.noSelect_spec hs) (fun c a w h => (lift_panic h).elim) fuel listed a w
    (fun j oj hj hne hun hno => ⟨Region.free_spec hia hf j oj hj hne hun hno, fun w' h => h (i, T) (by simp) ?_⟩) (by simpa using hr) (.inl ⟨wants_rel he hw, fun w' h => h⟩) hT.here hk)
  simp only [waits, hj]
  refine Bool.eq_false_iff.2 fun h => ?_
  obtain ⟨e, he1, hb⟩ := Array.any_eq_true'.1 h
  simp only [Bool.and_eq_true, beq_iff_eq] at hb
  exact hno e he1 hb.1 hb.2

theorem VH_skip {l : List Oper} {i : Nat} {fuel : Nat} {listed : Array Bool} (hi : l[i]? = some o) (hs : Region.noSelect l.toArray = true) (hf : Region.free .any l.toArray listed i = true) (hr : (Region.ready .any l.toArray listed).contains i = true)
    (hw : wants l env o = some false) (hn : dstOk C.n o.dst = true)
    (k : VH C l.toArray ts fuel (listed.setIfInBounds i true) (putD env o.dst (.tup [])) σ Q) : VH C l.toArray ts (fuel + 1) listed env σ Q := by
  intro H β a w hr' he hdef tk hS
  have hd' : (a.put o.dst undef).defers = [] := by cases o.dst <;> exact hdef
  have hia : l.toArray[i]? = some o := by simpa using hi
  have hk := k H β (a.put o.dst undef) w hr' (he.put .undef hn) hd' tk (hS.set i)
  exact wpAnyD_first (S := sOf l.toArray tk) (T := fun _ => True) (v := undef) (i := i) (oi := o) hia (Region.noSelect_spec hs) (fun c a w h => (lift_panic h).elim) fuel listed a w
    (fun j oj hj hne hun hno => ⟨Region.free_spec hia hf j oj hj hne hun hno, fun _ _ => trivial⟩) (by simpa using hr) (.inr ⟨wants_rel he hw, rfl⟩) trivial hk

theorem VH_one {l : List Oper} {i : Nat} {fuel : Nat} {listed : Array Bool} {R : D → List Blk → Prop} (hi : l[i]? = some o) (hri : i ∈ Region.ready .any l.toArray listed) (hr : ∀ j ∈ Region.ready .any l.toArray listed, j = i)
    (hw : wants l env o = some true) (hn : dstOk C.n o.dst = true) (ho : OpF C o env σ ts R)
    (k : ∀ d s, R d s → VH C l.toArray ts fuel (listed.setIfInBounds i true) (putD env o.dst d) s Q) : VH C l.toArray ts (fuel + 1) listed env σ Q := by
  intro H β a w hr' he hdef tk hS
  refine wpAnyD_all rfl (fun h => by rw [h] at hri; cases hri) fun j hj => ?_
  have hjun := (mem_ready.1 hj).1
  have := hr j hj
  subst this
  unfold wpOp
  have hi' : l.toArray[j]? = some o := by simpa using hi
  simp only [hi', wants_rel he hw, if_true]
  refine .inl (ho H β a w hr' he hdef _ _ ?_)
  intro v d w' H' β' σ' hR hr2 hv hs hev hfr
  have hd' : (a.put o.dst v).defers = [] := by cases o.dst <;> exact hdef
  refine ⟨.inr fun p hp hw => (((hS p hp).2.2 j hjun hw).frm hfr).here, ?_⟩
  exact wpAnyD_mono2 (fun _ _ _ hl => hl.trans hs (hev.kp C.k0)) (fun _ _ h => h) _ _ _ _ (k d σ' hR H' β' (a.put o.dst v) w' hr2 ((he.mono hev).put hv hn) hd' tk
    (fun p hp => ⟨(hS.set j p hp).1, (hS.set j p hp).2.1, fun q hq hw => ((hS.set j p hp).2.2 q hq hw).frm hfr⟩))
theorem VH_oneSkip {l : List Oper} {i : Nat} {fuel : Nat} {listed : Array Bool} (hi : l[i]? = some o) (hri : i ∈ Region.ready .any l.toArray listed) (hr : ∀ j ∈ Region.ready .any l.toArray listed, j = i)
    (hw : wants l env o = some false) (hn : dstOk C.n o.dst = true)
    (k : VH C l.toArray ts fuel (listed.setIfInBounds i true) (putD env o.dst (.tup [])) σ Q) : VH C l.toArray ts (fuel + 1) listed env σ Q := by
  intro H β a w hr' he hdef tk hS
  refine wpAnyD_all rfl (fun h => by rw [h] at hri; cases hri) fun j hj => ?_
  have := hr j hj
  subst this
  unfold wpOp
  have hi' : l.toArray[j]? = some o := by simpa using hi
  simp only [hi', wants_rel he hw]
  have hd' : (a.put o.dst undef).defers = [] := by cases o.dst <;> exact hdef
  exact ⟨.inl trivial, k H β (a.put o.dst undef) w hr' (he.put .undef hn) hd' tk (hS.set j)⟩

/-- Two that may come up, and no other: whichever comes first, the same is told behind both. -/
theorem VH_pair {l : List Oper} {i j : Nat} {oi oj : Oper} {di dj : D} {fuel : Nat} {listed : Array Bool} (hi : l[i]? = some oi) (hj : l[j]? = some oj) (hri : i ∈ Region.ready .any l.toArray listed) (hr : ∀ k ∈ Region.ready .any l.toArray listed, k = i ∨ k = j)
    (hrj : ∀ k ∈ Region.ready .any l.toArray (listed.setIfInBounds i true), k = j) (hjr : j ∈ Region.ready .any l.toArray (listed.setIfInBounds i true))
    (hrji : ∀ k ∈ Region.ready .any l.toArray (listed.setIfInBounds j true), k = i) (hir : i ∈ Region.ready .any l.toArray (listed.setIfInBounds j true)) (hij : i ≠ j)
    (hwi : wants l env oi = some true) (hwj : wants l env oj = some true) (hwi' : wants l (putD env oj.dst dj) oi = some true) (hwj' : wants l (putD env oi.dst di) oj = some true) (hni : dstOk C.n oi.dst = true) (hnj : dstOk C.n oj.dst = true)
    (fi : OpF C oi env σ ts (fun d s => d = di ∧ s = σ)) (fj : OpF C oj env σ ts (fun d s => d = dj ∧ s = σ)) (fi' : OpF C oi (putD env oj.dst dj) σ ts (fun d s => d = di ∧ s = σ)) (fj' : OpF C oj (putD env oi.dst di) σ ts (fun d s => d = dj ∧ s = σ))
    (hsw : ∀ t, getD (putD (putD env oi.dst di) oj.dst dj) t = getD (putD (putD env oj.dst dj) oi.dst di) t)
    (k : VH C l.toArray ts fuel ((listed.setIfInBounds i true).setIfInBounds j true) (putD (putD env oi.dst di) oj.dst dj) σ Q) : VH C l.toArray ts (fuel + 2) listed env σ Q := by
  have k2 : VH C l.toArray ts fuel ((listed.setIfInBounds j true).setIfInBounds i true) (putD (putD env oj.dst dj) oi.dst di) σ Q := fun H β a w hr he => by
    rw [Array.setIfInBounds_comm _ _ hij.symm]
    exact k H β a w hr ⟨he.1, fun t => by rw [hsw t]; exact he.2 t⟩
  have g1 : VH C l.toArray ts (fuel + 1) (listed.setIfInBounds i true) (putD env oi.dst di) σ Q := VH_one hj hjr hrj hwj' hnj fj' fun d s ⟨h1, h2⟩ => by subst h1; subst h2; exact k
  have g2 : VH C l.toArray ts (fuel + 1) (listed.setIfInBounds j true) (putD env oj.dst dj) σ Q := VH_one hi hir hrji hwi' hni fi' fun d s ⟨h1, h2⟩ => by subst h1; subst h2; exact k2
  have key : ∀ (m : Nat) (om : Oper) (dm : D), l[m]? = some om → wants l env om = some true → dstOk C.n om.dst = true → OpF C om env σ ts (fun d s => d = dm ∧ s = σ) → VH C l.toArray ts (fuel + 1) (listed.setIfInBounds m true) (putD env om.dst dm) σ Q →
      m ∈ Region.ready .any l.toArray listed → ∀ H β a w, Rel C.tb H β σ w → EnvRel C.tb H β σ C.n a env → a.defers = [] → ∀ tk : Tk, TkOk l.toArray ts listed H w tk →
      wpOp C.P l.toArray (lift C H β σ w Q) m (fun a' w' => (w' = w ∨ sOf l.toArray tk m w') ∧ wpAnyD C.P .any l.toArray (lift C H β σ w Q) (sOf l.toArray tk) (fuel + 1) (listed.setIfInBounds m true) a' w') a w := by
    intro m om dm hm hwm hnm fm gm hmr H β a w hr' he hdef tk hS
    have hjun := (mem_ready.1 hmr).1
    unfold wpOp
    have hi' : l.toArray[m]? = some om := by simpa using hm
    simp only [hi', wants_rel he hwm, if_true]
    refine .inl (fm H β a w hr' he hdef _ _ ?_)
    intro v d w' H' β' σ' hR hr2 hv hs hev hfr
    obtain ⟨e1, e2⟩ := hR
    subst e1; subst e2
    have hd' : (a.put om.dst v).defers = [] := by cases om.dst <;> exact hdef
    refine ⟨.inr fun p hp hw => (((hS p hp).2.2 m hjun hw).frm hfr).here, ?_⟩
    exact wpAnyD_mono2 (fun _ _ _ hl => hl.trans hs (hev.kp C.k0)) (fun _ _ h => h) _ _ _ _ (gm H' β' (a.put om.dst v) w' hr2 ((he.mono hev).put hv hnm) hd' tk
      (fun p hp => ⟨(hS.set m p hp).1, (hS.set m p hp).2.1, fun q hq hw => ((hS.set m p hp).2.2 q hq hw).frm hfr⟩))
  intro H β a w hr' he hdef tk hS
  refine wpAnyD_all rfl (fun h => by rw [h] at hri; cases hri) fun m hm => ?_
  rcases hr m hm with e | e
  · subst e; exact key m oi di hi hwi hni fi g1 hm H β a w hr' he hdef tk hS
  · subst e; exact key m oj dj hj hwj hnj fj g2 hm H β a w hr' he hdef tk hS

/-! ### a schedule: the numbers in an order, and whether each is taken first -/
def okSched (ops : Array Oper) : List (Nat × Bool) → Array Bool → Bool
  | [], listed => (Region.ready .any ops listed).isEmpty
  | (i, true) :: r, listed => Region.free .any ops listed i && (Region.ready .any ops listed).contains i && okSched ops r (listed.setIfInBounds i true)
  | (i, false) :: r, listed => (Region.ready .any ops listed).contains i && okSched ops r (listed.setIfInBounds i true)

def memB (i : Nat) : List (Nat × Bool) → Bool
  | [] => false
  | p :: r => Nat.beq p.1 i || memB i r
theorem beq_self' (n : Nat) : Nat.beq n n = true := by simp
theorem memB_iff {i : Nat} : ∀ {r : List (Nat × Bool)}, memB i r = true ↔ ∃ b, (i, b) ∈ r
  | [] => by simp [memB]
  | (j, c) :: r => by
    have ih := memB_iff (i := i) (r := r)
    constructor
    · intro h
      simp only [memB, Bool.or_eq_true] at h
      rcases h with h | h
      · have := Nat.eq_of_beq_eq_true h
        subst this
        exact ⟨c, by simp⟩
      · obtain ⟨b, h⟩ := ih.1 h
        exact ⟨b, by simp [h]⟩
    · rintro ⟨b, h⟩
      simp only [memB, Bool.or_eq_true]
      rcases List.mem_cons.1 h with h | h
      · cases h; exact .inl (beq_self' _)
      · exact .inr (ih.2 ⟨b, h⟩)
def nodB : List (Nat × Bool) → Bool
  | [] => true
  | p :: r => !memB p.1 r && nodB r
/-- The schedule names each number once. -/
def okAll (r : List (Nat × Bool)) (n : Nat) : Bool := Nat.beq r.length n && (nodB r && (r.all (fun p => Nat.blt p.1 n) && (List.range n).all (fun i => memB i r)))
/-- What has not come up is what the rest of the schedule names. -/
def Cov (r : List (Nat × Bool)) (listed : Array Bool) : Prop := nodB r = true ∧ ∀ j, listed.getD j true = false ↔ memB j r = true
theorem Cov.step {i : Nat} {b : Bool} {r : List (Nat × Bool)} {listed : Array Bool} (h : Cov ((i, b) :: r) listed) : Cov r (listed.setIfInBounds i true) := by
  obtain ⟨h1, h2⟩ := h
  simp only [nodB, Bool.and_eq_true, Bool.not_eq_true'] at h1
  refine ⟨h1.2, fun j => ⟨fun hj => ?_, fun hj => ?_⟩⟩
  · obtain ⟨hne, hun⟩ := unl_set hj
    have := (h2 j).1 hun
    simp only [memB, Bool.or_eq_true] at this
    exact this.resolve_left (fun e => hne (Nat.eq_of_beq_eq_true e).symm)
  · have hij : i ≠ j := fun e => by subst e; rw [h1.1] at hj; cases hj
    rw [getD_set_ne true hij]
    exact (h2 j).2 (by simp [memB, hj])
/-- Which may come up, told by the rest of the schedule alone. -/
def rdyB (ops : List Oper) (r : List (Nat × Bool)) (j : Nat) : Bool := memB j r && match ops[j]? with
  | some o => o.after.toList.all fun e => !Region.binds .any e || (Nat.blt e.on ops.length && !memB e.on r)
  | none => false
def aloneB (ops : List Oper) (r : List (Nat × Bool)) : Bool := match r with
  | [] => false
  | (i, _) :: _ => (List.range ops.length).all fun j => !rdyB ops r j || Nat.beq j i
def pairB (ops : List Oper) (r : List (Nat × Bool)) : Bool := match r with
  | (i, _) :: (j, _) :: q => (!Nat.beq i j) && (((List.range ops.length).all fun k => !rdyB ops r k || (Nat.beq k i || Nat.beq k j)) && (rdyB ops r j && (((List.range ops.length).all fun k => !rdyB ops ((j, true) :: q) k || Nat.beq k j) && ((List.range ops.length).all fun k => !rdyB ops ((i, true) :: q) k || Nat.beq k i))))
  | _ => false
theorem rdy_iff {ops : List Oper} {r : List (Nat × Bool)} {listed : Array Bool} (h : Cov r listed) (hsz : listed.size = ops.length) (j : Nat) : j ∈ Region.ready .any ops.toArray listed ↔ rdyB ops r j = true := by
  rw [mem_ready, h.2 j]
  unfold rdyB
  simp only [Bool.and_eq_true, List.getElem?_toArray]
  refine and_congr_right fun _ => ?_
  cases ho : ops[j]? with
  | none => simp
  | some o =>
    simp only [Option.some.injEq, exists_eq_left', List.all_eq_true, Array.mem_toList_iff]
    refine forall_congr' fun e => forall_congr' fun he => ?_
    have hcv := h.2 e.on
    cases hb : Region.binds .any e with
    | false => simp
    | true =>
      simp only [forall_const, Bool.not_true, Bool.false_or, Bool.and_eq_true, Bool.not_eq_true']
      have hlt : Nat.blt e.on ops.length = true ↔ e.on < ops.length := by simp [Nat.blt]; exact Iff.rfl
      rw [hlt]
      rcases Nat.lt_or_ge e.on listed.size with h' | h'
      · have e1 : listed.getD e.on false = listed.getD e.on true := by simp [h']
        rw [e1]
        cases hm : memB e.on r with
        | true => have := hcv.2 hm; rw [this]; simp
        | false =>
          have : listed.getD e.on true = true := by
            cases hx : listed.getD e.on true with
            | true => rfl
            | false => have := hcv.1 hx; rw [hm] at this; cases this
          rw [this]; simp; omega
      · have e1 : listed.getD e.on false = false := by simp [Array.getElem?_eq_none h']
        rw [e1]; simp; omega
theorem alone_of {ops : List Oper} {i : Nat} {b : Bool} {q : List (Nat × Bool)} {listed : Array Bool} (h : Cov ((i, b) :: q) listed) (hsz : listed.size = ops.length) (ha : aloneB ops ((i, b) :: q) = true) : ∀ j ∈ Region.ready .any ops.toArray listed, j = i := fun j hj => by
  have h1 := (rdy_iff h hsz j).1 hj
  have hlt : j < ops.length := by
    unfold rdyB at h1
    rcases Nat.lt_or_ge j ops.length with h' | h'
    · exact h'
    · rw [List.getElem?_eq_none h'] at h1; simp at h1
  have := List.all_eq_true.1 ha j (List.mem_range.2 hlt)
  rw [h1] at this
  simp only [Bool.not_true, Bool.false_or] at this
  exact Nat.eq_of_beq_eq_true this
/-- All that is left waits for all that has come up. -/
def settled (ops : Array Oper) (n : Nat) (r : List (Nat × Bool)) : Bool := r.all fun p => (List.range n).all fun i => memB i r || waits ops p.1 i

/-- The rest of a drawing region, by a schedule. -/
def VO (C : Cx) (l : List Oper) (ts : List Nat) (r : List (Nat × Bool)) (env : Env) (σ : List Blk) (Q : Post) : Prop :=
  ∀ listed, Region.noSelect l.toArray = true → okSched l.toArray r listed = true → Cov r listed → listed.size = l.length → VH C l.toArray ts r.length listed env σ Q

theorem VO_nil {l : List Oper} (h : Q .nrm env σ) : VO C l ts [] env σ Q := fun listed _ hs _ _ => VH_done (by simpa [okSched] using hs) h _

theorem VO_take {l : List Oper} {i : Nat} {rest : List (Nat × Bool)} {r : DR} (hi : l[i]? = some o) (hw : wants l env o = some true) (hn : dstOk C.n o.dst = true) (ho : OpOk C o env σ r) (hv : isVal o.op = true) (hd : ∀ j ∈ rsOf env o.op, j ∉ ts)
    (k : VO C l ts rest (putD env o.dst r.d) r.s Q) (b : Bool) (hal : b = false → aloneB l ((i, b) :: rest) = true) : VO C l ts ((i, b) :: rest) env σ Q := by
  intro listed hns hs hcv hsz
  cases b with
  | true =>
    simp only [okSched, Bool.and_eq_true] at hs
    exact VH_take hi hns hs.1.1 hs.1.2 hw hn ho hv hd (k _ hns hs.2 hcv.step (by simpa using hsz))
  | false =>
    simp only [okSched, Bool.and_eq_true] at hs
    exact VH_one hi (by simpa using hs.1) (alone_of hcv hsz (hal rfl)) hw hn (OpF_val ho hv) fun d s ⟨h1, h2⟩ => by subst h1; subst h2; exact k _ hns hs.2 hcv.step (by simpa using hsz)
theorem VO_skip {l : List Oper} {i : Nat} {rest : List (Nat × Bool)} (hi : l[i]? = some o) (hw : wants l env o = some false) (hn : dstOk C.n o.dst = true)
    (k : VO C l ts rest (putD env o.dst (.tup [])) σ Q) (b : Bool) (hal : b = false → aloneB l ((i, b) :: rest) = true) : VO C l ts ((i, b) :: rest) env σ Q := by
  intro listed hns hs hcv hsz
  cases b with
  | true =>
    simp only [okSched, Bool.and_eq_true] at hs
    exact VH_skip hi hns hs.1.1 hs.1.2 hw hn (k _ hns hs.2 hcv.step (by simpa using hsz))
  | false =>
    simp only [okSched, Bool.and_eq_true] at hs
    exact VH_oneSkip hi (by simpa using hs.1) (alone_of hcv hsz (hal rfl)) hw hn (k _ hns hs.2 hcv.step (by simpa using hsz))
theorem VO_one {l : List Oper} {i : Nat} {rest : List (Nat × Bool)} {R : D → List Blk → Prop} (hi : l[i]? = some o) (hw : wants l env o = some true) (hn : dstOk C.n o.dst = true) (ho : OpF C o env σ ts R)
    (k : ∀ d s, R d s → VO C l ts rest (putD env o.dst d) s Q) (hal : aloneB l ((i, false) :: rest) = true) : VO C l ts ((i, false) :: rest) env σ Q := by
  intro listed hns hs hcv hsz
  simp only [okSched, Bool.and_eq_true] at hs
  exact VH_one hi (by simpa using hs.1) (alone_of hcv hsz hal) hw hn ho fun d s h => k d s h _ hns hs.2 hcv.step (by simpa using hsz)

theorem VO_pair {l : List Oper} {i j : Nat} {oi oj : Oper} {di dj : D} {rest : List (Nat × Bool)} (hi : l[i]? = some oi) (hj : l[j]? = some oj) (hp : pairB l ((i, false) :: (j, false) :: rest) = true)
    (hwi : wants l env oi = some true) (hwj : wants l env oj = some true) (hwi' : wants l (putD env oj.dst dj) oi = some true) (hwj' : wants l (putD env oi.dst di) oj = some true) (hni : dstOk C.n oi.dst = true) (hnj : dstOk C.n oj.dst = true)
    (fi : OpF C oi env σ ts (fun d s => d = di ∧ s = σ)) (fj : OpF C oj env σ ts (fun d s => d = dj ∧ s = σ)) (fi' : OpF C oi (putD env oj.dst dj) σ ts (fun d s => d = di ∧ s = σ)) (fj' : OpF C oj (putD env oi.dst di) σ ts (fun d s => d = dj ∧ s = σ))
    (hsw : ∀ t, getD (putD (putD env oi.dst di) oj.dst dj) t = getD (putD (putD env oj.dst dj) oi.dst di) t)
    (k : VO C l ts rest (putD (putD env oi.dst di) oj.dst dj) σ Q) : VO C l ts ((i, false) :: (j, false) :: rest) env σ Q := by
  intro listed hns hs hcv hsz
  simp only [okSched, Bool.and_eq_true] at hs
  simp only [pairB, Bool.and_eq_true, Bool.not_eq_true'] at hp
  have hij : i ≠ j := fun e => by have := hp.1; rw [e, beq_self'] at this; cases this
  have lt : ∀ {r : List (Nat × Bool)} {k : Nat}, rdyB l r k = true → k < l.length := fun {r k} h => by
    rcases Nat.lt_or_ge k l.length with h' | h'
    · exact h'
    · unfold rdyB at h; rw [List.getElem?_eq_none h'] at h; simp at h
  have hcv1 := hcv.step
  have hcov2 : Cov ((i, true) :: rest) (listed.setIfInBounds j true) := by
    obtain ⟨h1, h2⟩ := hcv
    simp only [nodB, Bool.and_eq_true, Bool.not_eq_true', memB, Bool.or_eq_false_iff] at h1
    refine ⟨by simp only [nodB, Bool.and_eq_true, Bool.not_eq_true']; exact ⟨h1.1.2, h1.2.2⟩, fun k => ⟨fun hk => ?_, fun hk => ?_⟩⟩
    · obtain ⟨hne, hun⟩ := unl_set hk
      have := (h2 k).1 hun
      simp only [memB, Bool.or_eq_true] at this ⊢
      rcases this with h | h | h
      · exact .inl h
      · exact absurd (Nat.eq_of_beq_eq_true h).symm hne
      · exact .inr h
    · simp only [memB, Bool.or_eq_true] at hk
      have hkj : j ≠ k := fun e => by
        subst e
        rcases hk with h | h
        · exact hij (Nat.eq_of_beq_eq_true h)
        · rw [h1.2.1] at h; cases h
      rw [getD_set_ne true hkj]
      refine (h2 k).2 ?_
      simp only [memB, Bool.or_eq_true]
      rcases hk with h | h
      · exact .inl h
      · exact .inr (.inr h)
  have hsz1 : (listed.setIfInBounds i true).size = l.length := by simpa using hsz
  have hsz2 : (listed.setIfInBounds j true).size = l.length := by simpa using hsz
  have hir : i ∈ Region.ready .any l.toArray listed := by simpa using hs.1
  have hjr : j ∈ Region.ready .any l.toArray listed := (rdy_iff hcv hsz j).2 hp.2.2.1
  have hcv1' : Cov ((j, true) :: rest) (listed.setIfInBounds i true) := hcv1
  refine VH_pair hi hj hir (fun k hk => ?_) (fun k hk => ?_) (ready_mono hjr hij.symm) (fun k hk => ?_) (ready_mono hir hij) hij hwi hwj hwi' hwj' hni hnj fi fj fi' fj' hsw (k _ hns hs.2.2 hcv.step.step (by simpa using hsz))
  · have h1 := (rdy_iff hcv hsz k).1 hk
    have := List.all_eq_true.1 hp.2.1 k (List.mem_range.2 (lt h1))
    rw [h1] at this
    simp only [Bool.not_true, Bool.false_or, Bool.or_eq_true] at this
    exact this.imp Nat.eq_of_beq_eq_true Nat.eq_of_beq_eq_true
  · have h1 := (rdy_iff hcv1' hsz1 k).1 hk
    have := List.all_eq_true.1 hp.2.2.2.1 k (List.mem_range.2 (lt h1))
    rw [h1] at this
    simp only [Bool.not_true, Bool.false_or] at this
    exact Nat.eq_of_beq_eq_true this
  · have h1 := (rdy_iff hcov2 hsz2 k).1 hk
    have := List.all_eq_true.1 hp.2.2.2.2 k (List.mem_range.2 (lt h1))
    rw [h1] at this
    simp only [Bool.not_true, Bool.false_or] at this
    exact Nat.eq_of_beq_eq_true this
theorem V_draw {id : Nat} {l : List Oper} (ts : List Nat) (r : List (Nat × Bool)) (hm : C.P.follows .mixedOrders = true) (hns : Region.noSelect l.toArray = true)
    (hl : okAll r l.length = true) (hs : okSched l.toArray r (Array.replicate l.toArray.size false) = true) (h : VO C l ts r env σ Q) : V C (.region id l.toArray true) env σ Q := by
  intro H β a w hr he hd
  have hw : w.drew = { w with drawn := w.drawn + 1 } := rfl
  simp only [okAll, Bool.and_eq_true] at hl
  have hl' := Nat.eq_of_beq_eq_true hl.1
  have hcv : Cov r (Array.replicate l.toArray.size false) := by
    refine ⟨hl.2.1, fun j => ⟨fun hj => ?_, fun hj => ?_⟩⟩
    · have hlt : j < l.length := by
        rcases Nat.lt_or_ge j l.length with h | h
        · exact h
        · simp [Array.getElem?_eq_none, h] at hj
      exact List.all_eq_true.1 hl.2.2.2 j (List.mem_range.2 hlt)
    · obtain ⟨b, hb⟩ := memB_iff.1 hj
      have := List.all_eq_true.1 hl.2.2.1 _ hb
      have hlt : j < l.length := Nat.le_of_ble_eq_true this
      simp [hlt]
  have hk := h _ hns hs hcv (by simp) H β a w.drew hr.drew he hd [] (fun p hp => by cases hp)
  rw [hl'] at hk
  refine wp_region_any hm (wpAny_of_D (S := sOf l.toArray []) _ _ _ _ ?_)
  show wpAnyD C.P .any l.toArray (lift C H β σ w Q) (sOf l.toArray []) l.toArray.size (Array.replicate l.toArray.size false) a w.drew
  exact wpAnyD_mono2 (fun _ _ _ hl => hl.trans (Stp.drew H w) (.refl _ _ _)) (fun _ _ h => h) _ _ _ _ hk
/-- From here on other blocks may be turned: all that is left waits for all that has come up. -/
theorem VO_ts {l : List Oper} {r : List (Nat × Bool)} (ts' : List Nat) (hs' : settled l.toArray l.length r = true) (k : VO C l ts' r env σ Q) : VO C l ts r env σ Q := by
  intro listed hns hs hcv hsz H β a w hr he hd tk hS
  refine k listed hns hs hcv hsz H β a w hr he hd tk fun p hp => ?_
  obtain ⟨h0, h1, _⟩ := hS p hp
  refine ⟨h0, h1, fun j hj hw => ?_⟩
  obtain ⟨b, hb⟩ := memB_iff.1 ((hcv.2 j).1 hj)
  have := List.all_eq_true.1 (List.all_eq_true.1 hs' _ hb) p.1 (List.mem_range.2 (by simpa using h0))
  simp only [hw, Bool.or_false] at this
  have := (hcv.2 p.1).2 this
  rw [h1] at this; cases this
end
end Go.Den
/- Calls as operations, with what they leave alone; how a contract with blocks is proved. -/
namespace Go.Den
open Go
set_option linter.unusedSectionVars false
set_option linter.unusedSimpArgs false
set_option linter.unusedVariables false

/-- What a call hands back, in the caller's numbers. -/
def backR (σ : List Blk) (idx : List Nat) (Q0 : D → List Blk → Prop) : D → List Blk → Prop := fun d s =>
  ∃ d0 s0 τ, Q0 d0 s0 ∧ D.ren (fun j => some (backI idx σ.length j)) d0 = some d ∧ renBs (fun j => some (backI idx σ.length j)) s0 = some τ ∧ s = putBack σ idx τ

def disj (idx ts : List Nat) : Bool := idx.all fun i => ts.contains i

theorem T.ren_total {f : Nat → Nat} : ∀ (x : T), ∃ y, T.ren (fun j => some (f j)) x = some y := by
  have caps : ∀ l : List (Nat × List Nat), ∃ y, renCaps (fun j => some (f j)) l = some y := by
    intro l
    induction l with
    | nil => exact ⟨_, rfl⟩
    | cons c cs ih => obtain ⟨y, hy⟩ := ih; exact ⟨_, by simp only [renCaps, hy]; rfl⟩
  intro x
  induction x using T.rec (motive_2 := fun xs => ∃ ys, T.rens (fun j => some (f j)) xs = some ys) with
  | e x => exact ⟨_, rfl⟩
  | st xs ih => obtain ⟨ys, h⟩ := ih; exact ⟨_, by simp only [T.ren, h]; rfl⟩
  | nsl => exact ⟨_, rfl⟩
  | bsl xs => exact ⟨_, rfl⟩
  | lsl i xs => exact ⟨_, rfl⟩
  | ptr i p => exact ⟨_, rfl⟩
  | fn f' cs => obtain ⟨ys, h⟩ := caps cs; exact ⟨_, by simp only [T.ren, h]; rfl⟩
  | msl i n => exact ⟨_, rfl⟩
  | tsl xs ih => obtain ⟨ys, h⟩ := ih; exact ⟨_, by simp only [T.ren, h]; rfl⟩
  | mp i => exact ⟨_, rfl⟩
  | nil => exact ⟨_, rfl⟩
  | cons x xs h1 h2 => obtain ⟨y, hy⟩ := h1; obtain ⟨ys, hys⟩ := h2; exact ⟨_, by simp only [T.rens, hy, hys]; rfl⟩
theorem T.rens_total {f : Nat → Nat} : ∀ (xs : List T), ∃ ys, T.rens (fun j => some (f j)) xs = some ys
  | [] => ⟨_, rfl⟩
  | x :: xs => by
    obtain ⟨y, hy⟩ := T.ren_total (f := f) x
    obtain ⟨ys, hys⟩ := T.rens_total (f := f) xs
    exact ⟨_, by simp only [T.rens, hy, hys]; rfl⟩
theorem D.ren_total {f : Nat → Nat} : ∀ (x : D), ∃ y, D.ren (fun j => some (f j)) x = some y := by
  intro x
  induction x using D.rec (motive_2 := fun xs => ∃ ys, D.rens (fun j => some (f j)) xs = some ys) with
  | t ty x => obtain ⟨y, h⟩ := T.ren_total (f := f) x; exact ⟨_, by simp only [D.ren, h]; rfl⟩
  | ptr i p => exact ⟨_, rfl⟩
  | el => exact ⟨_, rfl⟩
  | asl => exact ⟨_, rfl⟩
  | tup xs ih => obtain ⟨ys, h⟩ := ih; exact ⟨_, by simp only [D.ren, h]; rfl⟩
  | it i => exact ⟨_, rfl⟩
  | kb => exact ⟨_, rfl⟩
  | mel => exact ⟨_, rfl⟩
  | tel u xs j => obtain ⟨ys, h⟩ := T.rens_total (f := f) xs; exact ⟨_, by simp only [D.ren, h]; rfl⟩
  | any => exact ⟨_, rfl⟩
  | nil => exact ⟨_, rfl⟩
  | cons x xs h1 h2 => obtain ⟨y, hy⟩ := h1; obtain ⟨ys, hys⟩ := h2; exact ⟨_, by simp only [D.rens, hy, hys]; rfl⟩
theorem renBs_total {f : Nat → Nat} : ∀ (l : List Blk), ∃ y, renBs (fun j => some (f j)) l = some y
  | [] => ⟨_, rfl⟩
  | b :: l => by
    obtain ⟨ys, h⟩ := renBs_total (f := f) l
    cases b with
    | tree ty x => obtain ⟨y, hy⟩ := T.ren_total (f := f) x; exact ⟨_, by simp only [renBs, Blk.ren, hy, h]; rfl⟩
    | row u n => exact ⟨_, by simp only [renBs, Blk.ren, h]; rfl⟩
    | iter s p => exact ⟨_, by simp only [renBs, Blk.ren, h]; rfl⟩
    | dead => exact ⟨_, by simp only [renBs, Blk.ren, h]; rfl⟩
    | mrow u o xs => exact ⟨_, by simp only [renBs, Blk.ren, h]; rfl⟩
    | mp kt e es => exact ⟨_, by simp only [renBs, Blk.ren, h]; rfl⟩

section
variable {C : Cx} (hC : Ok C) {o : Oper} {env : Env} {σ : List Blk}
include hC

theorem argsD_rel {H β n a} (he : EnvRel C.tb H β σ n a env) : ∀ {ts : List TypeId} {xs : List Operand} {ys : List D}, argsD C.tb env ts xs = some ys →
    ys.length = ts.length ∧ xs.length = ts.length ∧ ∀ (i : Nat) x d, xs[i]? = some x → ys[i]? = some d → DRel C.tb H β σ (a.eval x) d
  | [], [], ys, h => by simp [argsD] at h; subst h; exact ⟨rfl, rfl, fun i x d hx => by simp at hx⟩
  | t :: ts, x :: xs, ys, h => by
    unfold argsD at h
    split at h
    · rename_i y hy
      split at h
      · rename_i zs hz
        cases h
        obtain ⟨h1, h2, h3⟩ := argsD_rel he hz
        refine ⟨by simp [h1], by simp [h2], fun i q d hq hd => ?_⟩
        cases i with
        | zero =>
          simp at hq hd; subst hq; subst hd
          unfold argD at hy
          split at hy
          · rename_i dx hdx
            split at hy
            · rename_i z hz2
              cases hy
              obtain ⟨cs, h1, h2⟩ := asT_rel hC (opd_rel he hdx) hz2
              unfold outD
              simp only []
              split
              · rename_i e he2; exact .t h1 (.e (h2.toE he2))
              · exact ldD_rel h1 h2
            · cases hy; exact opd_rel he hdx
          · cases hy
        | succ i => exact h3 i q d (by simpa using hq) (by simpa using hd)
      · cases h
    · cases h
  | [], _ :: _, _, h => by simp [argsD] at h
  | _ :: _, [], _, h => by simp [argsD] at h

theorem OpF_call {f : FuncId} {xs : Array Operand} {tys : Array TypeId} {pts : List TypeId} {ds args : List D} {σ0 : List Blk} {Q0 : D → List Blk → Prop} {idx ts : List Nat}
    (ho : o.op = .call { callee := .value (.func f), args := xs, argTypes := tys }) (hx : argsD C.tb env pts xs.toList = some ds) (hds : D.rens (idxOf idx) ds = some args) (hp : pickB σ (idxOf idx) idx 0 = some σ0)
    (h : FnG C.P C.tb f σ0 args Q0) (hts : disj idx ts = true) : OpF C o env σ ts (backR σ idx Q0) := by
  intro H β a w hr he hd K Qx hK
  obtain ⟨⟨fn, hf, hn, hb⟩, hcall⟩ := h
  obtain ⟨l1, l2, l3⟩ := argsD_rel hC he hx
  have hrun : (execOp a.eval o).run C.P w = .ok (.enter f (xs.map a.eval)) w := by
    simp [execOp, ho, resolve, Act.eval, Deferred.ofValue, invoke, run_callFunc hf hn hb]
  simp only [Oper.wp, hrun, Oper.upon]
  obtain ⟨hpr, hren⟩ := hr.pick hp
  obtain ⟨d1, d2⟩ := D.rens_get hds
  obtain ⟨p1, p2⟩ := pickB_get hp
  have hargs : ArgsAt C.tb (pickH (idxOf idx) H) (idx.map fun i => β.getD i undef) σ0 (xs.map a.eval) args := by
    refine ⟨⟨by simp [d1, l1]; simpa using l2, he.1.2.mono fun _ _ _ e => pickH_pers.2 e⟩, fun i v d hv hd => ?_⟩
    obtain ⟨x, hx1, hx2⟩ := d2 i d hd
    simp only [Array.getElem?_map, Option.map_eq_some_iff] at hv
    obtain ⟨y, hy, rfl⟩ := hv
    exact (l3 i y x (by simpa using hy) hx1).ren hren hx2
  have hmine : ∀ b o i, pickH (idxOf idx) H b o = .mine i → i < σ0.length := fun b o i e => by
    obtain ⟨i', _, e2⟩ := pickH_mine.1 e
    rw [p1]; exact (List.getElem?_eq_some_iff.1 (idxOf_get e2)).1
  refine (hcall _ _ w _ hpr hmine hargs).mono ?_
  rintro e w' ⟨v, d0, H', β', σ', rfl, hq, hle, hr', hv', hs, hk⟩
  rw [p1] at hle hk
  obtain ⟨τ, hτ⟩ := renBs_total (f := fun j => backI idx σ.length j) σ'
  obtain ⟨d, hd⟩ := D.ren_total (f := fun j => backI idx σ.length j) d0
  obtain ⟨k1, k2, k3, k4⟩ := hr.back hp hr' hs hk hle hτ
  refine hK v d w' _ _ _ ⟨d0, σ', τ, hq, hd, hτ, rfl⟩ k1 (hv'.ren k4 hd) k2 k3 ?_
  intro b o' u hu hst
  have hlt : b < w.heap.size := by
    rcases hst with ⟨x, hx⟩ | ⟨i, _, hi⟩
    · exact hr.dom b o' (by rw [hx]; simp)
    · exact hr.dom b o' (by rw [hi]; simp)
  have hni : ∀ i, H b o' = .mine i → i ∉ ts → i ∉ idx := fun i _ hi hc => hi (by simpa [disj] using (List.all_eq_true.1 hts i hc))
  have hnm : ∀ j, pickH (idxOf idx) H b o' ≠ .mine j := fun j e => by
    obtain ⟨i, e1, e2⟩ := pickH_mine.1 e
    rcases hst with ⟨x, hx⟩ | ⟨i', hi', hm⟩
    · rw [hx] at e1; cases e1
    · have he1 := hm.symm.trans e1
      cases he1
      exact hni _ hm hi' (List.mem_of_getElem? (idxOf_get e2))
  refine ⟨(hs.cell b hlt o' hnm).trans hu, ?_⟩
  rcases hst with ⟨x, hx⟩ | ⟨i, hi, hm⟩
  · exact .inl ⟨x, k3.pers _ _ _ hx⟩
  · refine .inr ⟨i, hi, ?_⟩
    have h0 : pickH (idxOf idx) H b o' = .none := by
      unfold pickH; rw [hm]
      cases hx : idxOf idx i with
      | none => simp [hx]
      | some q => exact absurd (List.mem_of_getElem? (idxOf_get hx)) (hni i hm hi)
    have h1 : H' b o' = .none := by rw [hs.gh b hlt o' hnm, h0]
    have hx : idxOf idx i = none := by
      cases hx : idxOf idx i with
      | none => rfl
      | some q => exact absurd (List.mem_of_getElem? (idxOf_get hx)) (hni i hm hi)
    simp [backH, h1, hm, hx]

/-! ### how a contract is proved -/

def resD (rows : Bool) (tb : Tab) (env : Env) (σ : List Blk) : List TypeId → List ResultVar → Option (List D)
  | [], [] => some []
  | t :: ts, r :: rs => match resOf tb env σ r with
    | some d => match asT tb t d with
      | some y => match resD rows tb env σ ts rs with
        | some zs => some (outD rows t y :: zs)
        | none => none
      | none => none
    | none => none
  | _, _ => none
def oneD : List D → D
  | [d] => d
  | ds => .tup ds

theorem outD_rel {rows t y H β v cs} (h1 : VC C.tb t v cs) (h2 : TRel C.tb H β σ t cs y) : DRel C.tb H β σ v (outD rows t y) := by
  unfold outD
  cases rows with
  | true => exact ldD_rel h1 h2
  | false =>
    simp only []
    split
    · rename_i e he2; exact .t h1 (.e (h2.toE he2))
    · exact ldD_rel h1 h2

theorem resD_rel {rows : Bool} {H β n a w} (hr : Rel C.tb H β σ w) (he : EnvRel C.tb H β σ n a env) : ∀ {ts : List TypeId} {rs : List ResultVar} {ys : List D}, resD rows C.tb env σ ts rs = some ys →
    ∃ vs : List Value, (rs.mapM (resRun a.tmps)).run C.P w = .ok vs w ∧ vs.length = ts.length ∧ ys.length = ts.length ∧
      ∀ (i : Nat) v d, vs[i]? = some v → ys[i]? = some d → DRel C.tb H β σ v d
  | [], [], ys, h => by simp [resD] at h; subst h; exact ⟨[], rfl, rfl, rfl, fun i v d hv => by simp at hv⟩
  | t :: ts, r :: rs, ys, h => by
    unfold resD at h
    split at h
    · rename_i d hd
      split at h
      · rename_i y hy
        split at h
        · rename_i zs hzs
          cases h
          obtain ⟨v, hrun, hv⟩ := resOf_rel hC hr he hd
          obtain ⟨vs, hrun2, h1, h2, h3⟩ := resD_rel hr he hzs
          obtain ⟨cs, hvc, htr⟩ := asT_rel hC hv hy
          refine ⟨v :: vs, ?_, by simp [h1], by simp [h2], fun i u q hu hq => ?_⟩
          · simp only [List.mapM_cons, Sem.run_bind, hrun, Result.andThen, hrun2]; rfl
          · cases i with
            | zero => simp at hu hq; subst hu; subst hq; exact outD_rel hC hvc htr
            | succ i => exact h3 i u q (by simpa using hu) (by simpa using hq)
        · cases h
      · cases h
    · cases h
  | [], _ :: _, _, h => by simp [resD] at h
  | _ :: _, [], _, h => by simp [resD] at h
end

def upto : Nat → List Nat
  | 0 => []
  | n + 1 => upto n ++ [n]
/-- What a body must come to. -/
def retP (rows : Bool) (tb : Tab) (k : Nat) (ts : List TypeId) (rs : List ResultVar) (keep : List Nat) (Q : D → List Blk → Prop) : Post := fun x e s =>
  (x = .nrm ∨ x = .ret) ∧ ∃ ds ds' s', resD rows tb e s ts rs = some ds ∧ pickB s (idxOf (upto k ++ keep)) (upto k ++ keep) 0 = some s' ∧ D.rens (idxOf (upto k ++ keep)) ds = some ds' ∧ Q (oneD ds') s'

theorem upto_get : ∀ {n i : Nat}, i < n → (upto n)[i]? = some i
  | 0, i, h => by omega
  | n + 1, i, h => by
    have hl : (upto n).length = n := by
      clear h
      induction n with
      | zero => rfl
      | succ n ih => simp [upto, ih]
    simp only [upto]
    rcases Nat.lt_or_ge i n with h1 | h1
    · rw [List.getElem?_append_left (by omega)]; exact upto_get h1
    · have : i = n := by omega
      subst this
      rw [List.getElem?_append_right (by omega), hl]; simp
theorem upto_length (n : Nat) : (upto n).length = n := by
  induction n with
  | zero => rfl
  | succ n ih => simp [upto, ih]

theorem FnG_of_V {P : Program} {tb : Tab} {bt : TypeId} {f : FuncId} {fn : Func} {c : Code} {σ0 : List Blk} {args : List D} {Q : D → List Blk → Prop} (rows : Bool) (keep : List Nat) (ts : List TypeId)
    (hC : Ok ⟨P, tb, σ0.length, fn.ntmps, bt⟩) (hf : P.funcs[f]? = some fn) (hn : (fn.name == "runtime.NumGoroutine") = false) (hb : fn.body = some c) (hle : Nat.ble args.length fn.ntmps = true)
    (hV : (∀ H β w vals, Rel tb H β σ0 w → ArgsAt tb H β σ0 vals args → V ⟨P, tb, σ0.length, fn.ntmps, bt⟩ c (argEnv 0 args) σ0 (retP rows tb σ0.length ts fn.results.toList keep Q))) :
    FnG P tb f σ0 args Q := by
  refine ⟨⟨fn, hf, hn, by rw [hb]; rfl⟩, fun H β w vals hr0 hmine hargs => ?_⟩
  have hle := Nat.le_of_ble_eq_true hle
  have hVV := hV H β w vals hr0 hargs
  obtain ⟨⟨hsz, hgl⟩, hrel⟩ := hargs
  refine calls_of_wp hf hb ?_
  have henv : EnvRel tb H β σ0 fn.ntmps { tmps := vals ++ Array.replicate (fn.ntmps - vals.size) undef, defers := [] } (argEnv 0 args) := by
    refine ⟨⟨by simp; omega, hgl⟩, fun t => ?_⟩
    rw [argEnv_get, if_pos (Nat.zero_le _), Nat.sub_zero]
    cases hd : args[t]? with
    | none => exact .any
    | some d =>
      have ht : t < vals.size := by rw [hsz]; exact (List.getElem?_eq_some_iff.1 hd).1
      have := hrel t vals[t] d (Array.getElem?_eq_getElem ht) hd
      have hge : (vals ++ Array.replicate (fn.ntmps - vals.size) undef).getD t undef = vals[t] := by
        rw [Array.getD_eq_getD_getElem?, Array.getElem?_append_left ht, Array.getElem?_eq_getElem ht]; rfl
      simp only [Option.getD_some]
      rw [hge]; exact this
  refine wp_mono (hVV H β _ w hr0 henv rfl) ?_
  rintro e a' w' ⟨x, hx, env', σ', H', β', ⟨hxx, ds, ds', s', hres, hpick, hren, hq⟩, r⟩
  obtain ⟨vs, hrun, h1, h2, h3⟩ := resD_rel hC r.rel r.env hres
  have hrr := run_results hrun
  obtain ⟨hpr, hR⟩ := r.rel.pick hpick
  obtain ⟨g1, g2⟩ := D.rens_get hren
  obtain ⟨p1, p2⟩ := pickB_get hpick
  have hitem : ∀ (i : Nat) v d, vs[i]? = some v → ds'[i]? = some d → DRel tb (pickH (idxOf (upto σ0.length ++ keep)) H') ((upto σ0.length ++ keep).map fun i => β'.getD i undef) s' v d := fun i v d hv hd => by
    obtain ⟨x, hx1, hx2⟩ := g2 i d hd
    exact (h3 i v x hv hx1).ren hR hx2
  have hv : DRel tb (pickH (idxOf (upto σ0.length ++ keep)) H') ((upto σ0.length ++ keep).map fun i => β'.getD i undef) s' (oneOf vs) (oneD ds') := by
    have tup : DRel tb (pickH (idxOf (upto σ0.length ++ keep)) H') ((upto σ0.length ++ keep).map fun i => β'.getD i undef) s' (.tuple vs.toArray) (.tup ds') :=
      .tup (by simp; omega) fun i v d hv hd => hitem i v d (by simpa using hv) hd
    have hll : vs.length = ds'.length := by omega
    match vs, ds', hll, hitem, tup with
    | [v], [y], _, hitem, _ => exact hitem 0 v _ rfl rfl
    | [], [], _, _, tup => exact tup
    | _ :: _ :: _, _ :: _ :: _, _, _, tup => exact tup
  have hst : Stp H w (pickH (idxOf (upto σ0.length ++ keep)) H') w' := by
    have hs := r.stp
    refine ⟨hs.os, hs.tape, hs.output, hs.size, fun b hb o hn => ?_, fun b hb o i h => ?_, hs.blk, hs.cell, hs.frz, hs.shp⟩
    · have := hs.gh b hb o hn
      rw [← this]
      unfold pickH
      split
      · rename_i i hi; rw [this] at hi; exact absurd hi (hn i)
      · rfl
    · obtain ⟨i', e1, _⟩ := pickH_mine.1 h
      exact hs.own b hb o i' e1
  have hidx : ∀ i, i < σ0.length → (upto σ0.length ++ keep)[i]? = some i := fun i hi => by
    rw [List.getElem?_append_left (by rw [upto_length]; exact hi)]; exact upto_get hi
  have hget : ∀ i, i < σ0.length → ∀ k, σ'[i]? = some k → ((upto σ0.length ++ keep).map fun i => β'.getD i undef)[i]? = β'[i]? ∧ ∃ k', s'[i]? = some k' ∧ alike k k' := fun i hi k hk => by
    have hil : i < s'.length := by rw [p1]; simp [upto_length]; omega
    obtain ⟨i2, k2, a1, a2, a3, a4⟩ := p2 i _ (List.getElem?_eq_getElem hil)
    rw [hidx i hi] at a1; cases a1
    rw [hk] at a3; cases a3
    have hib : i < β'.length := by rw [r.rel.len]; exact (List.getElem?_eq_some_iff.1 hk).1
    exact ⟨by rw [List.getElem?_map, hidx i hi]; simp [List.getD, List.getElem?_eq_getElem hib], _, List.getElem?_eq_getElem hil, Blk.ren_alike a4⟩
  have hkp : Kp σ0.length β σ0 ((upto σ0.length ++ keep).map fun i => β'.getD i undef) s' := by
    refine ⟨fun i hi ty x h => ?_, fun i hi u n h => ?_, fun i hi s p h => ?_, fun i hi u o xs h => ?_, fun i hi k9 e9 es h => ?_⟩
    · obtain ⟨e1, x', e2⟩ := r.kp.tree i hi ty x h
      obtain ⟨f1, k', f2, f3⟩ := hget i hi _ e2
      cases k' with
      | tree ty' x2 => cases f3; exact ⟨f1.trans e1, x2, f2⟩
      | row => cases f3
      | iter => cases f3
      | dead => cases f3
      | mrow => cases f3
      | mp => cases f3
    · obtain ⟨n', e2, e3, e4⟩ := r.kp.row i hi u n h
      obtain ⟨f1, k', f2, f3⟩ := hget i hi _ e2
      cases k' with
      | row u' n2 => obtain ⟨rfl, rfl⟩ := f3; exact ⟨n', f2, e3, fun e => f1.trans (e4 e)⟩
      | tree => cases f3
      | iter => cases f3
      | dead => cases f3
      | mrow => cases f3
      | mp => cases f3
    · obtain ⟨e1, s2, p2', e2⟩ := r.kp.iter i hi s p h
      obtain ⟨f1, k', f2, f3⟩ := hget i hi _ e2
      cases k' with
      | iter s' p' => obtain ⟨rfl, rfl⟩ := f3; exact ⟨f1.trans e1, s2, p2', f2⟩
      | tree => cases f3
      | row => cases f3
      | dead => cases f3
      | mrow => cases f3
      | mp => cases f3
    · obtain ⟨o2, xs2, e2, e3, e4⟩ := r.kp.mrow i hi u o xs h
      obtain ⟨f1, k', f2, f3⟩ := hget i hi _ e2
      cases k' with
      | mrow u' o3 xs3 => obtain ⟨rfl, rfl, rfl⟩ := f3; exact ⟨_, _, f2, e3, fun e => f1.trans (e4 e)⟩
      | tree => cases f3
      | row => cases f3
      | dead => cases f3
      | iter => cases f3
      | mp => cases f3
    · obtain ⟨e1, es2, e2⟩ := r.kp.mp i hi k9 e9 es h
      obtain ⟨f1, k', f2, f3⟩ := hget i hi _ e2
      cases k' with
      | mp k8 e8 es8 => obtain ⟨rfl, rfl, rfl⟩ := f3; exact ⟨f1.trans e1, es2, f2⟩
      | tree => cases f3
      | row => cases f3
      | dead => cases f3
      | iter => cases f3
      | mrow => cases f3
  have goal : ∃ v d H'' β'' σ'', Ending.returned (oneOf vs) = .returned v ∧ Q d σ'' ∧ σ0.length ≤ σ''.length ∧ Rel tb H'' β'' σ'' w' ∧ DRel tb H'' β'' σ'' v d ∧ Stp H w H'' w' ∧ Kp σ0.length β σ0 β'' σ'' :=
    ⟨_, _, _, _, _, rfl, hq, by rw [p1]; simp [upto_length], hpr, hv, hst, hkp⟩
  cases e with
  | normal => exact ⟨r.defers, _, hrr, goal⟩
  | ret => exact ⟨r.defers, _, hrr, goal⟩
  | exit id => cases hx; rcases hxx with h | h <;> cases h
  | goto l => cases hx
  | panic ch => cases hx
  | outgrown => cases hx
end Go.Den
