/- A wider function that tells what an operation does. -/
import Derived.Test.YtgdfegmdjdnbdaaDenEq
namespace Go.Den
open Go
set_option linter.unusedSectionVars false
set_option linter.unusedSimpArgs false
set_option linter.unusedVariables false

def memN (t : Nat) : List Nat → Bool
  | [] => false
  | i :: r => match Nat.beq i t with
    | true => true
    | false => memN t r
theorem memN_mem {t : Nat} : ∀ {l : List Nat}, memN t l = true → t ∈ l
  | [], h => by cases h
  | i :: r, h => by
    simp only [memN] at h
    split at h
    · rename_i hb; simp [Nat.eq_of_beq_eq_true hb]
    · exact List.mem_cons_of_mem _ (memN_mem h)

def eqOp : BinOp → Option Bool
  | .eql => some true
  | .neq => some false
  | _ => none

def d3Bin (eqs : List TypeId) (C : Cx) (env : Env) (σ : List Blk) (op : BinOp) (xt : TypeId) (x y : Operand) : Option DR :=
  match eqOp op with
  | some w => match td C.tb xt with
    | .ptr u => match opd C.tb env xt x with
      | some dx => match opd C.tb env xt y with
        | some dy => match ptrD dx with
          | some none => match ptrD dy with
            | some none => match w with
              | true => some ⟨True, .kb C.bt true, σ⟩
              | false => some ⟨True, .kb C.bt false, σ⟩
            | some (some _) => match w with
              | true => some ⟨True, .kb C.bt false, σ⟩
              | false => some ⟨True, .kb C.bt true, σ⟩
            | none => none
          | some (some (i, p)) => match ptrD dy with
            | some none => match w with
              | true => some ⟨True, .kb C.bt false, σ⟩
              | false => some ⟨True, .kb C.bt true, σ⟩
            | some (some (j, q)) => match w with
              | true => some ⟨i = j ∧ p = q ∧ td C.tb u ≠ .other, .kb C.bt true, σ⟩
              | false => some ⟨i = j ∧ p = q ∧ td C.tb u ≠ .other, .kb C.bt false, σ⟩
            | none => none
          | none => none
        | none => none
      | none => none
    | _ => match memN xt eqs with
      | true => match isAggT C.tb xt with
        | true => match opd C.tb env xt x with
          | some (.t tx (.e a)) => match opd C.tb env xt y with
            | some (.t ty (.e b)) => match same C.tb tx xt with
              | true => match same C.tb ty xt with
                | true => match w with
                  | true => some ⟨True, .t C.bt (.e (.bool (eqE a b))), σ⟩
                  | false => some ⟨True, .t C.bt (.e (.bool (!(eqE a b)))), σ⟩
                | false => none
              | false => none
            | _ => none
          | _ => none
        | false => none
      | false => none
  | none => none

theorem eqOp_some {op : BinOp} {w : Bool} (h : eqOp op = some w) : (op = .eql ∧ w = true) ∨ (op = .neq ∧ w = false) := by
  cases op <;> simp [eqOp] at h <;> subst h <;> simp

theorem d3Bin_ok {eqs : List TypeId} {C : Cx} (hC : Ok C) (he : eqTys C.P C.tb eqs) {o : Oper} {env : Env} {σ : List Blk} {op xt x y yt} {r : DR} (ho : o.op = .binOp op xt x y yt) (h : d3Bin eqs C env σ op xt x y = some r) (hp : r.p) : OpOk C o env σ r := by
  have key : OpOk C o env σ ⟨True, r.d, r.s⟩ → OpOk C o env σ r := fun h => ⟨h.v, h.val⟩
  refine key ?_
  unfold d3Bin at h
  split at h
  · rename_i w hw
    have hop := eqOp_some hw
    have hop' : op = .eql ∨ op = .neq := by rcases hop with ⟨h, _⟩ | ⟨h, _⟩; exact .inl h; exact .inr h
    split at h
    · rename_i u ht
      split at h
      · rename_i dx hx
        split at h
        · rename_i dy hy
          split at h
          · rename_i ha
            split at h
            · rename_i hb
              have := Ok_eqP (σ := σ) hC ho hop' ht hx hy ha hb (.inl (.inl rfl))
              rcases hop with ⟨rfl, rfl⟩ | ⟨rfl, rfl⟩ <;> (cases h; simpa using this)
            · rename_i q hb
              have := Ok_eqP (σ := σ) hC ho hop' ht hx hy ha hb (.inl (.inl rfl))
              rcases hop with ⟨rfl, rfl⟩ | ⟨rfl, rfl⟩ <;> (cases h; simpa using this)
            · cases h
          · rename_i i p ha
            split at h
            · rename_i hb
              have := Ok_eqP (σ := σ) hC ho hop' ht hx hy ha hb (.inl (.inr rfl))
              rcases hop with ⟨rfl, rfl⟩ | ⟨rfl, rfl⟩ <;> (cases h; simpa using this)
            · rename_i j q hb
              rcases hop with ⟨rfl, rfl⟩ | ⟨rfl, rfl⟩
              · cases h
                have := Ok_eqP (σ := σ) hC ho (.inl rfl) ht hx hy ha hb (.inr ⟨by rw [hp.1, hp.2.1], hp.2.2⟩)
                simpa using this
              · cases h
                have := Ok_eqP (σ := σ) hC ho (.inr rfl) ht hx hy ha hb (.inr ⟨by rw [hp.1, hp.2.1], hp.2.2⟩)
                simpa using this
            · cases h
          · cases h
        · cases h
      · cases h
    · split at h
      · rename_i hm
        have hh := List.all_eq_true.1 he xt (memN_mem hm)
        simp only [Bool.and_eq_true, Bool.not_eq_true'] at hh
        split at h
        · rename_i hag
          split at h
          · rename_i tx a hx
            split at h
            · rename_i ty b hy
              split at h
              · rename_i hsx
                split at h
                · rename_i hsy
                  have := Ok_eqA (σ := σ) hC ho hop' hh.1 hh.2 hag hx hy rfl rfl hsx hsy
                  rcases hop with ⟨rfl, rfl⟩ | ⟨rfl, rfl⟩ <;> (cases h; simpa using this)
                · cases h
              · cases h
            · cases h
          · cases h
        · cases h
      · cases h
  · cases h

def d3Slice (C : Cx) (env : Env) (σ : List Blk) (t s : TypeId) (lo hi : Option Operand) : Option DR :=
  match td C.tb t with
  | .arr n u => match getD env s with
    | .ptr i p => match σ[i]? with
      | some (.tree ty _) => match td C.tb (tyAt C.tb ty p) == .arr n u with
        | true => match Nat.beq (sz C.tb u) 0 with
          | false => match Nat.ble n maxN with
            | true => match bnd env 0 lo with
              | some l => match bnd env n hi with
                | some h => some ⟨0 ≤ l ∧ l ≤ h ∧ h ≤ n ∧ l < n, .asl i p u l.toNat (h.toNat - l.toNat), σ⟩
                | none => none
              | none => none
            | false => none
          | true => none
        | false => none
      | _ => none
    | _ => none
  | _ => none
theorem d3Slice_ok {C : Cx} (hC : Ok C) {o : Oper} {env : Env} {σ : List Blk} {t s lo hi} {r : DR} (ho : o.op = .slice t (.tmp s) lo hi none) (h : d3Slice C env σ t s lo hi = some r) (hp : r.p) : OpOk C o env σ r := by
  have key : OpOk C o env σ ⟨True, r.d, r.s⟩ → OpOk C o env σ r := fun h => ⟨h.v, h.val⟩
  refine key ?_
  unfold d3Slice at h
  split at h
  · rename_i n u ht
    split at h
    · rename_i i p hs
      split at h
      · rename_i ty X hi
        split at h
        · rename_i hty
          split at h
          · rename_i hz
            split at h
            · rename_i hn
              split at h
              · rename_i l hl
                split at h
                · rename_i hh hhe; cases h; exact Ok_sliceA hC ho hs hi ht (td_beq hty) (Nat.ne_of_beq_eq_false hz) (Nat.le_of_ble_eq_true hn) hl hhe hp.1 hp.2.1 hp.2.2.1 hp.2.2.2
                · cases h
              · cases h
            · cases h
          · cases h
        · cases h
      · cases h
    · cases h
  · cases h

def d3Conv (C : Cx) (env : Env) (σ : List Blk) (s d : TypeId) (x : Operand) : Option DR :=
  match td C.tb s with
  | .sl u => match td C.tb u with
    | .int .u8 => match td C.tb d with
      | .str => match opd C.tb env s x with
        | some (.asl i p u' off n) => match x with
          | .tmp _ => match Nat.beq u u' with
            | true => match σ[i]? with
              | some (.tree _ X) => match getT p X with
                | .e (.agg ds) => some ⟨True, .t d (.e (.str (((ds.drop off).take n).map byteOf))), σ⟩
                | _ => none
              | _ => none
            | false => none
          | _ => none
        | some dx => match slE dx with
          | some xs => match same C.tb (tagD dx) s with
            | true => some ⟨True, .t d (.e (.str (xs.map byteOf))), σ⟩
            | false => none
          | none => none
        | none => none
      | _ => none
    | _ => none
  | _ => none
theorem d3Conv_ok {C : Cx} (hC : Ok C) {o : Oper} {env : Env} {σ : List Blk} {s d x} {r : DR} (ho : o.op = .convert s d x) (h : d3Conv C env σ s d x = some r) : OpOk C o env σ r := by
  have key : OpOk C o env σ ⟨True, r.d, r.s⟩ → OpOk C o env σ r := fun h => ⟨h.v, h.val⟩
  refine key ?_
  unfold d3Conv at h
  split at h
  · rename_i u hs
    split at h
    · rename_i hu
      split at h
      · rename_i hd
        split at h
        · rename_i i p u' off n hx
          split at h
          · rename_i q
            split at h
            · rename_i hb
              have := Nat.eq_of_beq_eq_true hb; subst this
              split at h
              · rename_i ty X hi
                split at h
                · rename_i ds hX; cases h; exact Ok_strOfA hC ho hs hu hd (by simpa [opd] using hx) hi hX
                · cases h
              · cases h
            · cases h
          · cases h
        · rename_i dx _ hx
          split at h
          · rename_i xs hxs
            split at h
            · rename_i hsm; cases h; exact Ok_strOf hC ho hs hu hd hx hxs hsm
            · cases h
          · cases h
        · cases h
      · cases h
    · cases h
  · cases h

/-- What is appended or copied. -/
def srcK (C : Cx) (env : Env) (σ : List Blk) (t t2 : TypeId) (y : Operand) : Option (List E) :=
  match opd C.tb env t2 y with
  | some (.asl i p u' off n) => match y with
    | .tmp _ => match Nat.beq t t2 with
      | true => match td C.tb t == .sl u' with
        | true => match σ[i]? with
          | some (.tree _ X) => match getT p X with
            | .e (.agg ds) => some ((ds.drop off).take n)
            | _ => none
          | _ => none
        | false => none
      | false => none
    | _ => none
  | some dy => srcE C.tb t t2 dy
  | none => none
theorem srcK_at {C : Cx} (hC : Ok C) {env : Env} {σ : List Blk} {t t2 y ys} (h : srcK C env σ t t2 y = some ys) : SrcAt C env σ t t2 y ys := by
  unfold srcK at h
  split at h
  · rename_i i p u' off n hx
    split at h
    · rename_i q
      split at h
      · rename_i hb
        have := Nat.eq_of_beq_eq_true hb; subst this
        split at h
        · rename_i ht
          split at h
          · rename_i ty X hi
            split at h
            · rename_i ds hX; cases h; exact SrcAt_asl hC (by simpa [opd] using hx) (td_beq ht) hi hX
            · cases h
          · cases h
        · cases h
      · cases h
    · cases h
  · rename_i dy _ hy; exact SrcAt_E hC hy h
  · cases h

def d3Append (C : Cx) (env : Env) (σ : List Blk) (t t2 : TypeId) (x y : Operand) : Option DR :=
  match td C.tb t with
  | .sl u => match plain C.tb zf u with
    | true => match opd C.tb env t x with
      | some (.t tx (.msl i n)) => match σ[i]? with
        | some (.mrow u' true xs) => match Nat.beq u u' with
          | true => match srcK C env σ t t2 y with
            | some ys => setK σ i (.mrow u true (xs ++ ys)) fun σ' => some ⟨n = xs.length ∧ (xs.length + ys.length) * nb C.tb u ≤ maxL ∧ xs.length + ys.length ≤ maxL, .t t (.msl i (n + ys.length)), σ'⟩
            | none => none
          | false => none
        | _ => none
      | _ => none
    | false => none
  | _ => none
theorem d3Append_ok {C : Cx} (hC : Ok C) {o : Oper} {env : Env} {σ : List Blk} {t t2 x y} {r : DR} (ho : o.op = .call { callee := .builtin .append, args := #[x, y], argTypes := #[t, t2] }) (h : d3Append C env σ t t2 x y = some r) (hp : r.p) : OpOk C o env σ r := by
  have key : OpOk C o env σ ⟨True, r.d, r.s⟩ → OpOk C o env σ r := fun h => ⟨h.v, h.val⟩
  refine key ?_
  unfold d3Append at h
  split at h
  · rename_i u ht
    split at h
    · rename_i hz
      split at h
      · rename_i tx i n hx
        split at h
        · rename_i u' xs hi
          split at h
          · rename_i hb
            have := Nat.eq_of_beq_eq_true hb; subst this
            split at h
            · rename_i ys hys
              rw [setK_eq] at h; cases h
              exact Ok_appendM hC ho ht hz hx rfl hi hp.1 (srcK_at hC hys) hp.2
            · cases h
          · cases h
        · cases h
      · cases h
    · cases h
  · cases h

def d3Copy (C : Cx) (env : Env) (σ : List Blk) (rt t t2 : TypeId) (s : Nat) (y : Operand) : Option DR :=
  match td C.tb rt with
  | .int .i64 => match getD env s with
    | .asl i p u off n => match td C.tb t == .sl u with
      | true => match Nat.beq (sz C.tb u) 0 with
        | false => match σ[i]? with
          | some (.tree ty X) => match getT p X with
            | .e (.agg ds) => match srcK C env σ t t2 y with
              | some ys => setK σ i (.tree ty (setT p (.e (.agg (putAt ds off (ys.take (min ys.length n))))) X)) fun σ' => some ⟨True, .t rt (.e (.int (min ys.length n : Nat))), σ'⟩
              | none => none
            | _ => none
          | _ => none
        | true => none
      | false => none
    | _ => none
  | _ => none
theorem d3Copy_okF {C : Cx} (hC : Ok C) {o : Oper} {env : Env} {σ : List Blk} {t t2 s y} {r : DR} (ho : o.op = .call { callee := .builtin .copy, args := #[.tmp s, y], argTypes := #[t, t2] }) (h : d3Copy C env σ o.type t t2 s y = some r) {ts : List Nat} (hts : ∀ i p u off n, getD env s = .asl i p u off n → i ∈ ts) :
    OpF C o env σ ts (fun d s => d = r.d ∧ s = r.s) := by
  unfold d3Copy at h
  split at h
  · rename_i hr
    split at h
    · rename_i i p u off n hs
      split at h
      · rename_i ht
        split at h
        · rename_i hz
          split at h
          · rename_i ty X hi
            split at h
            · rename_i ds hX
              split at h
              · rename_i ys hys
                rw [setK_eq] at h; cases h
                exact OpF_copyA hC ho (td_beq ht) hr hs hi hX (srcK_at hC hys) (Nat.ne_of_beq_eq_false hz) (hts _ _ _ _ _ hs)
              · cases h
            · cases h
          · cases h
        · cases h
      · cases h
    · cases h
  · cases h
theorem d3Copy_ok {C : Cx} (hC : Ok C) {o : Oper} {env : Env} {σ : List Blk} {t t2 s y} {r : DR} (ho : o.op = .call { callee := .builtin .copy, args := #[.tmp s, y], argTypes := #[t, t2] }) (h : d3Copy C env σ o.type t t2 s y = some r) : OpOk C o env σ r := by
  have := d3Copy_okF hC ho h (ts := match getD env s with | .asl i _ _ _ _ => [i] | _ => []) (fun i p u off n e => by rw [e]; simp)
  exact ⟨this.v, fun hv => by simp [isVal, ho] at hv⟩

def d3SliceData (C : Cx) (env : Env) (σ : List Blk) (t : TypeId) (x : Operand) : Option DR :=
  match td C.tb t with
  | .sl u => match td C.tb u with
    | .int .u8 => match opd C.tb env t x with
      | some (.t tx (.msl i n)) => match same C.tb tx t with
        | true => match σ[i]? with
          | some (.mrow u' true xs) => match Nat.beq u u' with
            | true => some ⟨n = xs.length, .mel u i n 0 [], σ⟩
            | false => none
          | _ => none
        | false => none
      | _ => none
    | _ => none
  | _ => none
theorem d3SliceData_ok {C : Cx} (hC : Ok C) {o : Oper} {env : Env} {σ : List Blk} {t x} {r : DR} (ho : o.op = .call { callee := .builtin .unsafeSliceData, args := #[x], argTypes := #[t] }) (h : d3SliceData C env σ t x = some r) (hp : r.p) : OpOk C o env σ r := by
  have key : OpOk C o env σ ⟨True, r.d, r.s⟩ → OpOk C o env σ r := fun h => ⟨h.v, h.val⟩
  refine key ?_
  unfold d3SliceData at h
  split at h
  · rename_i u ht
    split at h
    · rename_i hu
      split at h
      · rename_i tx i n hx
        split at h
        · rename_i hsx
          split at h
          · rename_i u' xs hi
            split at h
            · rename_i hb
              have := Nat.eq_of_beq_eq_true hb; subst this
              cases h
              exact Ok_sliceData (v := u) hC ho ht hu hx hsx hi hp
            · cases h
          · cases h
        · cases h
      · cases h
    · cases h
  · cases h

theorem Ok_buildA {C : Cx} (hC : Ok C) {o : Oper} {env : Env} {σ : List Blk} {t u : TypeId} {m : Nat} {ps : Array (Nat × Operand)} {qs : List (Nat × T)} (ho : o.op = .build t ps) (hst : td C.tb t = .arr m u) (hz : plain C.tb zf t = true) (hzu : sz C.tb u ≠ 0)
    (hps : partsT C.tb env (fun i => if i < m then some u else none) ps.toList = some qs) : OpOk C o env σ ⟨True, ldD t (buildT qs (zeroT C.tb zf t)), σ⟩ :=
  OpOk_val fun H β a w hr he => by
    obtain ⟨z, hzr, hzc⟩ := hC.zero.all hC.tab hz
    have hz0 := zeroT_rel hC.tab (H := H) (β := β) (σ := σ) zf t hz
    obtain ⟨cs', k1, k2⟩ := fill_array hC he hst ps.toList qs (zc C.tb zf t) _ hps hz0
    refine ⟨.agg cs'.toArray, fun w' hw' => ?_, ldD_rel (by simp [VC, isAggT, hst]) k2⟩
    have hzca : z.cells = (zc C.tb zf t).toArray := by rw [← hzc]
    simp only [execOp, ho, Instr.build, Sem.run_bind, hzr, Result.andThen, run_underlying_of hC.tab (hC.tab.arr hst), run_sizeOf_of hC.tab (lt_of_sz hC hzu)]
    have hmap : (ps.map fun (i, x) => (i, a.eval x)).toList = ps.toList.map fun p => (p.1, a.eval p.2) := by simp
    rw [hmap, hzca, k1]
    rfl

def d3Build (C : Cx) (env : Env) (σ : List Blk) (t : TypeId) (ps : List (Nat × Operand)) : Option DR :=
  match td C.tb t with
  | .arr m u => match plain C.tb zf t with
    | true => match Nat.beq (sz C.tb u) 0 with
      | false => match partsT C.tb env (fun i => if i < m then some u else none) ps with
        | some qs => match buildT qs (zeroT C.tb zf t) with
          | .st ys => match toE (.st ys) with
            | some e => some ⟨True, .t t (.e e), σ⟩
            | none => some ⟨True, .t t (.st ys), σ⟩
          | .e x => some ⟨True, .t t (.e x), σ⟩
          | _ => none
        | none => none
      | true => none
    | false => none
  | _ => none
theorem d3Build_ok {C : Cx} (hC : Ok C) {o : Oper} {env : Env} {σ : List Blk} {t ps} {r : DR} (ho : o.op = .build t ps) (h : d3Build C env σ t ps.toList = some r) : OpOk C o env σ r := by
  unfold d3Build at h
  split at h
  · rename_i m u hst
    split at h
    · rename_i hz
      split at h
      · rename_i hzu
        split at h
        · rename_i qs hqs
          have hl := Ok_buildA (σ := σ) hC ho hst hz (Nat.ne_of_beq_eq_false hzu) hqs
          split at h
          · rename_i ys hy; rw [hy] at hl
            split at h
            · rename_i e he; cases h; simp only [ldD, he] at hl; exact hl
            · rename_i he; cases h; simp only [ldD, he] at hl; exact hl
          · rename_i x hy; rw [hy] at hl; cases h; exact hl
          · cases h
        · cases h
      · cases h
    · cases h
  · cases h

def dop3 (eqs : List TypeId) (C : Cx) (env : Env) (σ : List Blk) (o : Oper) : Option DR := match dop2 C env σ o with
  | some r => some r
  | none => match o.op with
    | .binOp op xt x y _ => d3Bin eqs C env σ op xt x y
    | .slice t (.tmp s) lo hi none => d3Slice C env σ t s lo hi
    | .convert s d x => d3Conv C env σ s d x
    | .build t ps => d3Build C env σ t ps.toList
    | .call { callee := .builtin .append, args := ⟨[x, y]⟩, argTypes := ⟨[t, t2]⟩ } => d3Append C env σ t t2 x y
    | .call { callee := .builtin .copy, args := ⟨[.tmp s, y]⟩, argTypes := ⟨[t, t2]⟩ } => d3Copy C env σ o.type t t2 s y
    | .call { callee := .builtin .unsafeSliceData, args := ⟨[x]⟩, argTypes := ⟨[t]⟩ } => d3SliceData C env σ t x
    | _ => none
theorem dop3_ok {eqs : List TypeId} {C : Cx} (hC : Ok C) (he : eqTys C.P C.tb eqs) {env : Env} {σ : List Blk} {o : Oper} {r : DR} (h : dop3 eqs C env σ o = some r) (hp : r.p) : OpOk C o env σ r := by
  unfold dop3 at h
  split at h
  · rename_i r' h2; cases h; exact dop2_ok hC h2 hp
  · split at h
    · rename_i ho; exact d3Bin_ok hC he ho h hp
    · rename_i ho; exact d3Slice_ok hC ho h hp
    · rename_i ho; exact d3Conv_ok hC ho h
    · rename_i ho; exact d3Build_ok hC ho h
    · rename_i ho; exact d3Append_ok hC ho h hp
    · rename_i ho; exact d3Copy_ok hC ho h
    · rename_i ho; exact d3SliceData_ok hC ho h hp
    · cases h

def kit3 (eqs : List TypeId) (bk : List Nat) (fs : List (FuncId × Kon)) : Kit := ⟨bk, dop3 eqs, fs⟩
theorem kit3_ok {P : Program} {tb : Tab} {eqs : List TypeId} {fs : List (FuncId × Kon)} (he : eqTys P tb eqs) (bk : List Nat) (h : kok P tb fs) : KitOk P tb (kit3 eqs bk fs) :=
  ⟨fun C hP hT hC env σ o r h hp => dop3_ok hC (by rw [hP, hT]; exact he) h hp, h⟩
section
variable {C : Cx} {env : Env} {σ : List Blk} {Q : Post}
/-- Runs on, with the wider function. -/
theorem VX_go3 (hC : Ok C) {eqs : List TypeId} (he : eqTys C.P C.tb eqs) {fs : List (FuncId × Kon)} (hk : kok C.P C.tb fs) (n : Nat) (bk : List Nat) {k k' : List It} {e e' : Env} {s s' : List Blk} {x : X} {ps : List Prop} (h : run (kit3 eqs bk fs) C n [] k e s = ⟨ps, k', x, e', s'⟩) (hp : allP ps)
    (hv : VX C Q k' x e' s') : VX C Q k .nrm e s := VX_run n (kit3_ok he bk hk) hC h hp hv
end
end Go.Den
