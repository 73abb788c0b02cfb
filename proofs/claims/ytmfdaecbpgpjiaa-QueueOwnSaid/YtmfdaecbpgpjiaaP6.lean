/- The calculus and the walks, part 6: DenKit3, DenWt, DenJoin, DenIter, DenClos, DenFrm, DenGlob, DenKit4, DenNewM. -/
import Derived.Test.YtmfdaecbpgpjiaaP5
import Derived.Lib.OthersKept
import Derived.Laws.RangeAny
/- A wider function that tells what an operation does. -/
namespace Go.Den
open Go
set_option linter.unusedSectionVars false
set_option linter.unusedSimpArgs false
set_option linter.unusedVariables false

def memN (t : Nat) : List Nat → Bool
  | [] => false
  | i :: r => match Nat.beq i t with
    | true => true
    | false => memN t r
theorem memN_mem {t : Nat} : ∀ {l : List Nat}, memN t l = true → t ∈ l
  | [], h => by cases h
  | i :: r, h => by
    simp only [memN] at h
    split at h
    · rename_i hb; simp [Nat.eq_of_beq_eq_true hb]
    · exact List.mem_cons_of_mem _ (memN_mem h)

def eqOp : BinOp → Option Bool
  | .eql => some true
  | .neq => some false
  | _ => none

def d3Bin (eqs : List TypeId) (C : Cx) (env : Env) (σ : List Blk) (op : BinOp) (xt : TypeId) (x y : Operand) : Option DR :=
  match eqOp op with
  | some w => match td C.tb xt with
    | .ptr u => match opd C.tb env xt x with
      | some dx => match opd C.tb env xt y with
        | some dy => match ptrD dx with
          | some none => match ptrD dy with
            | some none => match w with
              | true => some ⟨True, .kb C.bt true, σ⟩
              | false => some ⟨True, .kb C.bt false, σ⟩
            | some (some _) => match w with
              | true => some ⟨True, .kb C.bt false, σ⟩
              | false => some ⟨True, .kb C.bt true, σ⟩
            | none => none
          | some (some (i, p)) => match ptrD dy with
            | some none => match w with
              | true => some ⟨True, .kb C.bt false, σ⟩
              | false => some ⟨True, .kb C.bt true, σ⟩
            | some (some (j, q)) => match w with
              | true => some ⟨i = j ∧ p = q ∧ td C.tb u ≠ .other, .kb C.bt true, σ⟩
              | false => some ⟨i = j ∧ p = q ∧ td C.tb u ≠ .other, .kb C.bt false, σ⟩
            | none => none
          | none => none
        | none => none
      | none => none
    | _ => match memN xt eqs with
      | true => match isAggT C.tb xt with
        | true => match opd C.tb env xt x with
          | some (.t tx (.e a)) => match opd C.tb env xt y with
            | some (.t ty (.e b)) => match same C.tb tx xt with
              | true => match same C.tb ty xt with
                | true => match w with
                  | true => some ⟨True, .t C.bt (.e (.bool (eqE a b))), σ⟩
                  | false => some ⟨True, .t C.bt (.e (.bool (!(eqE a b)))), σ⟩
                | false => none
              | false => none
            | _ => none
          | _ => none
        | false => none
      | false => none
  | none => none

theorem eqOp_some {op : BinOp} {w : Bool} (h : eqOp op = some w) : (op = .eql ∧ w = true) ∨ (op = .neq ∧ w = false) := by
  cases op <;> simp [eqOp] at h <;> subst h <;> simp

theorem d3Bin_ok {eqs : List TypeId} {C : Cx} (hC : Ok C) (he : eqTys C.P C.tb eqs) {o : Oper} {env : Env} {σ : List Blk} {op xt x y yt} {r : DR} (ho : o.op = .binOp op xt x y yt) (h : d3Bin eqs C env σ op xt x y = some r) (hp : r.p) : OpOk C o env σ r := by
  have key : OpOk C o env σ ⟨True, r.d, r.s⟩ → OpOk C o env σ r := fun h => ⟨h.v, h.val⟩
  refine key ?_
  unfold d3Bin at h
  split at h
  · rename_i w hw
    have hop := eqOp_some hw
    have hop' : op = .eql ∨ op = .neq := by rcases hop with ⟨h, _⟩ | ⟨h, _⟩; exact .inl h; exact .inr h
    split at h
    · rename_i u ht
      split at h
      · rename_i dx hx
        split at h
        · rename_i dy hy
          split at h
          · rename_i ha
            split at h
            · rename_i hb
              have := Ok_eqP (σ := σ) hC ho hop' ht hx hy ha hb (.inl (.inl rfl))
              rcases hop with ⟨rfl, rfl⟩ | ⟨rfl, rfl⟩ <;> (cases h; simpa using this)
            · rename_i q hb
              have := Ok_eqP (σ := σ) hC ho hop' ht hx hy ha hb (.inl (.inl rfl))
              rcases hop with ⟨rfl, rfl⟩ | ⟨rfl, rfl⟩ <;> (cases h; simpa using this)
            · cases h
          · rename_i i p ha
            split at h
            · rename_i hb
              have := Ok_eqP (σ := σ) hC ho hop' ht hx hy ha hb (.inl (.inr rfl))
              rcases hop with ⟨rfl, rfl⟩ | ⟨rfl, rfl⟩ <;> (cases h; simpa using this)
            · rename_i j q hb
              rcases hop with ⟨rfl, rfl⟩ | ⟨rfl, rfl⟩
              · cases h
                have := Ok_eqP (σ := σ) hC ho (.inl rfl) ht hx hy ha hb (.inr ⟨by rw [hp.1, hp.2.1], hp.2.2⟩)
                simpa using this
              · cases h
                have := Ok_eqP (σ := σ) hC ho (.inr rfl) ht hx hy ha hb (.inr ⟨by rw [hp.1, hp.2.1], hp.2.2⟩)
                simpa using this
            · cases h
          · cases h
        · cases h
      · cases h
    · split at h
      · rename_i hm
        have hh := List.all_eq_true.1 he xt (memN_mem hm)
        simp only [Bool.and_eq_true, Bool.not_eq_true'] at hh
        split at h
        · rename_i hag
          split at h
          · rename_i tx a hx
            split at h
            · rename_i ty b hy
              split at h
              · rename_i hsx
                split at h
                · rename_i hsy
                  have := Ok_eqA (σ := σ) hC ho hop' hh.1 hh.2 hag hx hy rfl rfl hsx hsy
                  rcases hop with ⟨rfl, rfl⟩ | ⟨rfl, rfl⟩ <;> (cases h; simpa using this)
                · cases h
              · cases h
            · cases h
          · cases h
        · cases h
      · cases h
  · cases h

def d3Slice (C : Cx) (env : Env) (σ : List Blk) (t s : TypeId) (lo hi : Option Operand) : Option DR :=
  match td C.tb t with
  | .arr n u => match getD env s with
    | .ptr i p => match σ[i]? with
      | some (.tree ty _) => match td C.tb (tyAt C.tb ty p) == .arr n u with
        | true => match Nat.beq (sz C.tb u) 0 with
          | false => match Nat.ble n maxN with
            | true => match bnd env 0 lo with
              | some l => match bnd env n hi with
                | some h => some ⟨0 ≤ l ∧ l ≤ h ∧ h ≤ n ∧ l < n, .asl i p u l.toNat (h.toNat - l.toNat), σ⟩
                | none => none
              | none => none
            | false => none
          | true => none
        | false => none
      | _ => none
    | _ => none
  | _ => none
theorem d3Slice_ok {C : Cx} (hC : Ok C) {o : Oper} {env : Env} {σ : List Blk} {t s lo hi} {r : DR} (ho : o.op = .slice t (.tmp s) lo hi none) (h : d3Slice C env σ t s lo hi = some r) (hp : r.p) : OpOk C o env σ r := by
  have key : OpOk C o env σ ⟨True, r.d, r.s⟩ → OpOk C o env σ r := fun h => ⟨h.v, h.val⟩
  refine key ?_
  unfold d3Slice at h
  split at h
  · rename_i n u ht
    split at h
    · rename_i i p hs
      split at h
      · rename_i ty X hi
        split at h
        · rename_i hty
          split at h
          · rename_i hz
            split at h
            · rename_i hn
              split at h
              · rename_i l hl
                split at h
                · rename_i hh hhe; cases h; exact Ok_sliceA hC ho hs hi ht (td_beq hty) (Nat.ne_of_beq_eq_false hz) (Nat.le_of_ble_eq_true hn) hl hhe hp.1 hp.2.1 hp.2.2.1 hp.2.2.2
                · cases h
              · cases h
            · cases h
          · cases h
        · cases h
      · cases h
    · cases h
  · cases h

def d3Conv (C : Cx) (env : Env) (σ : List Blk) (s d : TypeId) (x : Operand) : Option DR :=
  match td C.tb s with
  | .sl u => match td C.tb u with
    | .int .u8 => match td C.tb d with
      | .str => match opd C.tb env s x with
        | some (.asl i p u' off n) => match x with
          | .tmp _ => match Nat.beq u u' with
            | true => match σ[i]? with
              | some (.tree _ X) => match getT p X with
                | .e (.agg ds) => some ⟨True, .t d (.e (.str (((ds.drop off).take n).map byteOf))), σ⟩
                | _ => none
              | _ => none
            | false => none
          | _ => none
        | some dx => match slE dx with
          | some xs => match same C.tb (tagD dx) s with
            | true => some ⟨True, .t d (.e (.str (xs.map byteOf))), σ⟩
            | false => none
          | none => none
        | none => none
      | _ => none
    | _ => none
  | _ => none
theorem d3Conv_ok {C : Cx} (hC : Ok C) {o : Oper} {env : Env} {σ : List Blk} {s d x} {r : DR} (ho : o.op = .convert s d x) (h : d3Conv C env σ s d x = some r) : OpOk C o env σ r := by
  have key : OpOk C o env σ ⟨True, r.d, r.s⟩ → OpOk C o env σ r := fun h => ⟨h.v, h.val⟩
  refine key ?_
  unfold d3Conv at h
  split at h
  · rename_i u hs
    split at h
    · rename_i hu
      split at h
      · rename_i hd
        split at h
        · rename_i i p u' off n hx
          split at h
          · rename_i q
            split at h
            · rename_i hb
              have := Nat.eq_of_beq_eq_true hb; subst this
              split at h
              · rename_i ty X hi
                split at h
                · rename_i ds hX; cases h; exact Ok_strOfA hC ho hs hu hd (by simpa [opd] using hx) hi hX
                · cases h
              · cases h
            · cases h
          · cases h
        · rename_i dx _ hx
          split at h
          · rename_i xs hxs
            split at h
            · rename_i hsm; cases h; exact Ok_strOf hC ho hs hu hd hx hxs hsm
            · cases h
          · cases h
        · cases h
      · cases h
    · cases h
  · cases h

/-- What is appended or copied. -/
def srcK (C : Cx) (env : Env) (σ : List Blk) (t t2 : TypeId) (y : Operand) : Option (List E) :=
  match opd C.tb env t2 y with
  | some (.asl i p u' off n) => match y with
    | .tmp _ => match Nat.beq t t2 with
      | true => match td C.tb t == .sl u' with
        | true => match σ[i]? with
          | some (.tree _ X) => match getT p X with
            | .e (.agg ds) => some ((ds.drop off).take n)
            | _ => none
          | _ => none
        | false => none
      | false => none
    | _ => none
  | some dy => srcE C.tb t t2 dy
  | none => none
theorem srcK_at {C : Cx} (hC : Ok C) {env : Env} {σ : List Blk} {t t2 y ys} (h : srcK C env σ t t2 y = some ys) : SrcAt C env σ t t2 y ys := by
  unfold srcK at h
  split at h
  · rename_i i p u' off n hx
    split at h
    · rename_i q
      split at h
      · rename_i hb
        have := Nat.eq_of_beq_eq_true hb; subst this
        split at h
        · rename_i ht
          split at h
          · rename_i ty X hi
            split at h
            · rename_i ds hX; cases h; exact SrcAt_asl hC (by simpa [opd] using hx) (td_beq ht) hi hX
            · cases h
          · cases h
        · cases h
      · cases h
    · cases h
  · rename_i dy _ hy; exact SrcAt_E hC hy h
  · cases h

def d3Append (C : Cx) (env : Env) (σ : List Blk) (t t2 : TypeId) (x y : Operand) : Option DR :=
  match td C.tb t with
  | .sl u => match plain C.tb zf u with
    | true => match opd C.tb env t x with
      | some (.t tx (.msl i n)) => match σ[i]? with
        | some (.mrow u' true xs) => match Nat.beq u u' with
          | true => match srcK C env σ t t2 y with
            | some ys => setK σ i (.mrow u true (xs ++ ys)) fun σ' => some ⟨n = xs.length ∧ (xs.length + ys.length) * nb C.tb u ≤ maxL ∧ xs.length + ys.length ≤ maxL, .t t (.msl i (n + ys.length)), σ'⟩
            | none => none
          | false => none
        | _ => none
      | _ => none
    | false => none
  | _ => none
theorem d3Append_ok {C : Cx} (hC : Ok C) {o : Oper} {env : Env} {σ : List Blk} {t t2 x y} {r : DR} (ho : o.op = .call { callee := .builtin .append, args := #[x, y], argTypes := #[t, t2] }) (h : d3Append C env σ t t2 x y = some r) (hp : r.p) : OpOk C o env σ r := by
  have key : OpOk C o env σ ⟨True, r.d, r.s⟩ → OpOk C o env σ r := fun h => ⟨h.v, h.val⟩
  refine key ?_
  unfold d3Append at h
  split at h
  · rename_i u ht
    split at h
    · rename_i hz
      split at h
      · rename_i tx i n hx
        split at h
        · rename_i u' xs hi
          split at h
          · rename_i hb
            have := Nat.eq_of_beq_eq_true hb; subst this
            split at h
            · rename_i ys hys
              rw [setK_eq] at h; cases h
              exact Ok_appendM hC ho ht hz hx rfl hi hp.1 (srcK_at hC hys) hp.2
            · cases h
          · cases h
        · cases h
      · cases h
    · cases h
  · cases h

def d3Copy (C : Cx) (env : Env) (σ : List Blk) (rt t t2 : TypeId) (s : Nat) (y : Operand) : Option DR :=
  match td C.tb rt with
  | .int .i64 => match getD env s with
    | .asl i p u off n => match td C.tb t == .sl u with
      | true => match Nat.beq (sz C.tb u) 0 with
        | false => match σ[i]? with
          | some (.tree ty X) => match getT p X with
            | .e (.agg ds) => match srcK C env σ t t2 y with
              | some ys => setK σ i (.tree ty (setT p (.e (.agg (putAt ds off (ys.take (min ys.length n))))) X)) fun σ' => some ⟨True, .t rt (.e (.int (min ys.length n : Nat))), σ'⟩
              | none => none
            | _ => none
          | _ => none
        | true => none
      | false => none
    | _ => none
  | _ => none
theorem d3Copy_okF {C : Cx} (hC : Ok C) {o : Oper} {env : Env} {σ : List Blk} {t t2 s y} {r : DR} (ho : o.op = .call { callee := .builtin .copy, args := #[.tmp s, y], argTypes := #[t, t2] }) (h : d3Copy C env σ o.type t t2 s y = some r) {ts : List Nat} (hts : ∀ i p u off n, getD env s = .asl i p u off n → i ∈ ts) :
    OpF C o env σ ts (fun d s => d = r.d ∧ s = r.s) := by
  unfold d3Copy at h
  split at h
  · rename_i hr
    split at h
    · rename_i i p u off n hs
      split at h
      · rename_i ht
        split at h
        · rename_i hz
          split at h
          · rename_i ty X hi
            split at h
            · rename_i ds hX
              split at h
              · rename_i ys hys
                rw [setK_eq] at h; cases h
                exact OpF_copyA hC ho (td_beq ht) hr hs hi hX (srcK_at hC hys) (Nat.ne_of_beq_eq_false hz) (hts _ _ _ _ _ hs)
              · cases h
            · cases h
          · cases h
        · cases h
      · cases h
    · cases h
  · cases h
theorem d3Copy_ok {C : Cx} (hC : Ok C) {o : Oper} {env : Env} {σ : List Blk} {t t2 s y} {r : DR} (ho : o.op = .call { callee := .builtin .copy, args := #[.tmp s, y], argTypes := #[t, t2] }) (h : d3Copy C env σ o.type t t2 s y = some r) : OpOk C o env σ r := by
  have := d3Copy_okF hC ho h (ts := match getD env s with | .asl i _ _ _ _ => [i] | _ => []) (fun i p u off n e => by rw [e]; simp)
  exact ⟨this.v, fun hv => by simp [isVal, ho] at hv⟩

def d3SliceData (C : Cx) (env : Env) (σ : List Blk) (t : TypeId) (x : Operand) : Option DR :=
  match td C.tb t with
  | .sl u => match td C.tb u with
    | .int .u8 => match opd C.tb env t x with
      | some (.t tx (.msl i n)) => match same C.tb tx t with
        | true => match σ[i]? with
          | some (.mrow u' true xs) => match Nat.beq u u' with
            | true => some ⟨n = xs.length, .mel u i n 0 [], σ⟩
            | false => none
          | _ => none
        | false => none
      | _ => none
    | _ => none
  | _ => none
theorem d3SliceData_ok {C : Cx} (hC : Ok C) {o : Oper} {env : Env} {σ : List Blk} {t x} {r : DR} (ho : o.op = .call { callee := .builtin .unsafeSliceData, args := #[x], argTypes := #[t] }) (h : d3SliceData C env σ t x = some r) (hp : r.p) : OpOk C o env σ r := by
  have key : OpOk C o env σ ⟨True, r.d, r.s⟩ → OpOk C o env σ r := fun h => ⟨h.v, h.val⟩
  refine key ?_
  unfold d3SliceData at h
  split at h
  · rename_i u ht
    split at h
    · rename_i hu
      split at h
      · rename_i tx i n hx
        split at h
        · rename_i hsx
          split at h
          · rename_i u' xs hi
            split at h
            · rename_i hb
              have := Nat.eq_of_beq_eq_true hb; subst this
              cases h
              exact Ok_sliceData (v := u) hC ho ht hu hx hsx hi hp
            · cases h
          · cases h
        · cases h
      · cases h
    · cases h
  · cases h

theorem Ok_buildA {C : Cx} (hC : Ok C) {o : Oper} {env : Env} {σ : List Blk} {t u : TypeId} {m : Nat} {ps : Array (Nat × Operand)} {qs : List (Nat × T)} (ho : o.op = .build t ps) (hst : td C.tb t = .arr m u) (hz : plain C.tb zf t = true) (hzu : sz C.tb u ≠ 0)
    (hps : partsT C.tb env (fun i => if i < m then some u else none) ps.toList = some qs) : OpOk C o env σ ⟨True, ldD t (buildT qs (zeroT C.tb zf t)), σ⟩ :=
  OpOk_val fun H β a w hr he => by
    obtain ⟨z, hzr, hzc⟩ := hC.zero.all hC.tab hz
    have hz0 := zeroT_rel hC.tab (H := H) (β := β) (σ := σ) zf t hz
    obtain ⟨cs', k1, k2⟩ := fill_array hC he hst ps.toList qs (zc C.tb zf t) _ hps hz0
    refine ⟨.agg cs'.toArray, fun w' hw' => ?_, ldD_rel (by simp [VC, isAggT, hst]) k2⟩
    have hzca : z.cells = (zc C.tb zf t).toArray := by rw [← hzc]
    simp only [execOp, ho, Instr.build, Sem.run_bind, hzr, Result.andThen, run_underlying_of hC.tab (hC.tab.arr hst), run_sizeOf_of hC.tab (lt_of_sz hC hzu)]
    have hmap : (ps.map fun (i, x) => (i, a.eval x)).toList = ps.toList.map fun p => (p.1, a.eval p.2) := by simp
    rw [hmap, hzca, k1]
    rfl

def d3Build (C : Cx) (env : Env) (σ : List Blk) (t : TypeId) (ps : List (Nat × Operand)) : Option DR :=
  match td C.tb t with
  | .arr m u => match plain C.tb zf t with
    | true => match Nat.beq (sz C.tb u) 0 with
      | false => match partsT C.tb env (fun i => if i < m then some u else none) ps with
        | some qs => match buildT qs (zeroT C.tb zf t) with
          | .st ys => match toE (.st ys) with
            | some e => some ⟨True, .t t (.e e), σ⟩
            | none => some ⟨True, .t t (.st ys), σ⟩
          | .e x => some ⟨True, .t t (.e x), σ⟩
          | _ => none
        | none => none
      | true => none
    | false => none
  | _ => none
theorem d3Build_ok {C : Cx} (hC : Ok C) {o : Oper} {env : Env} {σ : List Blk} {t ps} {r : DR} (ho : o.op = .build t ps) (h : d3Build C env σ t ps.toList = some r) : OpOk C o env σ r := by
  unfold d3Build at h
  split at h
  · rename_i m u hst
    split at h
    · rename_i hz
      split at h
      · rename_i hzu
        split at h
        · rename_i qs hqs
          have hl := Ok_buildA (σ := σ) hC ho hst hz (Nat.ne_of_beq_eq_false hzu) hqs
          split at h
          · rename_i ys hy; rw [hy] at hl
            split at h
            · rename_i e he; cases h; simp only [ldD, he] at hl; exact hl
            · rename_i he; cases h; simp only [ldD, he] at hl; exact hl
          · rename_i x hy; rw [hy] at hl; cases h; exact hl
          · cases h
        · cases h
      · cases h
    · cases h
  · cases h

def dop3 (eqs : List TypeId) (C : Cx) (env : Env) (σ : List Blk) (o : Oper) : Option DR := match dop2 C env σ o with
  | some r => some r
  | none => match o.op with
    | .binOp op xt x y _ => d3Bin eqs C env σ op xt x y
    | .slice t (.tmp s) lo hi none => d3Slice C env σ t s lo hi
    | .convert s d x => d3Conv C env σ s d x
    | .build t ps => d3Build C env σ t ps.toList
    | .call { callee := .builtin .append, args := ⟨[x, y]⟩, argTypes := ⟨[t, t2]⟩ } => d3Append C env σ t t2 x y
    | .call { callee := .builtin .copy, args := ⟨[.tmp s, y]⟩, argTypes := ⟨[t, t2]⟩ } => d3Copy C env σ o.type t t2 s y
    | .call { callee := .builtin .unsafeSliceData, args := ⟨[x]⟩, argTypes := ⟨[t]⟩ } => d3SliceData C env σ t x
    | _ => none
theorem dop3_ok {eqs : List TypeId} {C : Cx} (hC : Ok C) (he : eqTys C.P C.tb eqs) {env : Env} {σ : List Blk} {o : Oper} {r : DR} (h : dop3 eqs C env σ o = some r) (hp : r.p) : OpOk C o env σ r := by
  unfold dop3 at h
  split at h
  · rename_i r' h2; cases h; exact dop2_ok hC h2 hp
  · split at h
    · rename_i ho; exact d3Bin_ok hC he ho h hp
    · rename_i ho; exact d3Slice_ok hC ho h hp
    · rename_i ho; exact d3Conv_ok hC ho h
    · rename_i ho; exact d3Build_ok hC ho h
    · rename_i ho; exact d3Append_ok hC ho h hp
    · rename_i ho; exact d3Copy_ok hC ho h
    · rename_i ho; exact d3SliceData_ok hC ho h hp
    · cases h

def kit3 (eqs : List TypeId) (bk : List Nat) (fs : List (FuncId × Kon)) : Kit := ⟨bk, dop3 eqs, fs⟩
theorem kit3_ok {P : Program} {tb : Tab} {eqs : List TypeId} {fs : List (FuncId × Kon)} (he : eqTys P tb eqs) (bk : List Nat) (h : kok P tb fs) : KitOk P tb (kit3 eqs bk fs) :=
  ⟨fun C hP hT hC env σ o r h hp => dop3_ok hC (by rw [hP, hT]; exact he) h hp, h⟩
section
variable {C : Cx} {env : Env} {σ : List Blk} {Q : Post}
/-- Runs on, with the wider function. -/
theorem VX_go3 (hC : Ok C) {eqs : List TypeId} (he : eqTys C.P C.tb eqs) {fs : List (FuncId × Kon)} (hk : kok C.P C.tb fs) (n : Nat) (bk : List Nat) {k k' : List It} {e e' : Env} {s s' : List Blk} {x : X} {ps : List Prop} (h : run (kit3 eqs bk fs) C n [] k e s = ⟨ps, k', x, e', s'⟩) (hp : allP ps)
    (hv : VX C Q k' x e' s') : VX C Q k .nrm e s := VX_run n (kit3_ok he bk hk) hC h hp hv
end
end Go.Den
/- What data of a type looks like. -/
namespace Go.Den
open Go
set_option linter.unusedVariables false
variable {tb : Tab} {t : TypeId} {x : E}
theorem wt_int {k : IntKind} (h : Wt tb t x) (ht : td tb t = .int k) : ∃ n, x = .int n ∧ inR k n = true := by
  obtain ⟨H, cs, h⟩ := h
  cases h with
  | @int _ k' n a b =>
    rw [ht] at a; cases a
    have := wrap_inR k n
    rw [b] at this
    exact ⟨n, rfl, this⟩
  | _ a => rw [ht] at a; cases a
theorem wt_bool (h : Wt tb t x) (ht : td tb t = .bool) : ∃ b, x = .bool b := by
  obtain ⟨H, cs, h⟩ := h
  cases h with
  | bool a => exact ⟨_, rfl⟩
  | _ a => rw [ht] at a; cases a
theorem wt_str (h : Wt tb t x) (ht : td tb t = .str) : ∃ s : List UInt8, x = .str s := by
  obtain ⟨H, cs, h⟩ := h
  cases h with
  | str a b => exact ⟨_, rfl⟩
  | _ a => rw [ht] at a; cases a
theorem wt_arr {n : Nat} {u : TypeId} (h : Wt tb t x) (ht : td tb t = .arr n u) : ∃ xs, x = .agg xs ∧ xs.length = n ∧ ∀ y ∈ xs, Wt tb u y := by
  obtain ⟨H, cs, h⟩ := h
  cases h with
  | arr a b c d =>
    rw [ht] at a; cases a
    refine ⟨_, rfl, c, fun y hy => ?_⟩
    obtain ⟨i, hi⟩ := List.getElem?_of_mem hy
    exact ⟨H, _, d i y hi⟩
  | _ a => rw [ht] at a; cases a
theorem wt_st {fs : List (TypeId × Nat)} (h : Wt tb t x) (ht : td tb t = .st fs) : ∃ xs, x = .agg xs ∧ xs.length = fs.length ∧ ∀ (i : Nat) f y, fs[i]? = some f → xs[i]? = some y → Wt tb f.1 y := by
  obtain ⟨H, cs, h⟩ := h
  cases h with
  | st a b c d => rw [ht] at a; cases a; exact ⟨_, rfl, c, fun i f y hf hy => ⟨H, _, d i f y hf hy⟩⟩
  | _ a => rw [ht] at a; cases a
theorem wt_sl {u : TypeId} (h : Wt tb t x) (ht : td tb t = .sl u) : ∃ xs, x = .sl xs ∧ ∀ y ∈ xs, Wt tb u y := by
  obtain ⟨H, cs, h⟩ := h
  cases h with
  | sl0 a => exact ⟨[], rfl, fun y hy => by simp at hy⟩
  | sl a b c d e f =>
    rw [ht] at a; cases a
    refine ⟨_, rfl, fun y hy => ?_⟩
    obtain ⟨i, hi⟩ := List.getElem?_of_mem hy
    exact ⟨H, _, d i y hi⟩
  | _ a => rw [ht] at a; cases a
theorem map_ex {α β : Type} {f : α → β} : ∀ {l : List β}, (∀ y ∈ l, ∃ x, y = f x) → ∃ m : List α, l = m.map f
  | [], _ => ⟨[], rfl⟩
  | y :: l, h => by
    obtain ⟨x, rfl⟩ := h y (by simp)
    obtain ⟨m, rfl⟩ := map_ex (l := l) (fun z hz => h z (by simp [hz]))
    exact ⟨x :: m, rfl⟩
theorem list1 {α : Type} {l : List α} (h : l.length = 1) : ∃ a, l = [a] := by
  match l, h with | [a], _ => exact ⟨a, rfl⟩
theorem list2 {α : Type} {l : List α} (h : l.length = 2) : ∃ a b, l = [a, b] := by
  match l, h with | [a, b], _ => exact ⟨a, b, rfl⟩
theorem list3 {α : Type} {l : List α} (h : l.length = 3) : ∃ a b c, l = [a, b, c] := by
  match l, h with | [a, b, c], _ => exact ⟨a, b, c, rfl⟩
theorem list4 {α : Type} {l : List α} (h : l.length = 4) : ∃ a b c d, l = [a, b, c, d] := by
  match l, h with | [a, b, c, d], _ => exact ⟨a, b, c, d, rfl⟩
theorem list5 {α : Type} {l : List α} (h : l.length = 5) : ∃ a b c d e, l = [a, b, c, d, e] := by
  match l, h with | [a, b, c, d, e], _ => exact ⟨a, b, c, d, e, rfl⟩
theorem list6 {α : Type} {l : List α} (h : l.length = 6) : ∃ a b c d e f, l = [a, b, c, d, e, f] := by
  match l, h with | [a, b, c, d, e, f], _ => exact ⟨a, b, c, d, e, f, rfl⟩
end Go.Den
namespace Go.Den
open Go
section
variable {C : Cx} {env : Env} {σ : List Blk} {Q : Post}
/-- A copy in a region that draws. -/
theorem VX_copyO (hC : Ok C) {k : List It} {full : List Oper} {ts : List Nat} {i : Nat} {ord : List (Nat × Bool)} {o : Oper} {t t2 : TypeId} {s j off n : Nat} {p : List Nat} {u : TypeId} {y : Operand} {d : D} {σ' : List Blk} {pp : Prop}
    (hi : full[i]? = some o) (hw : wants full env o = some true) (hn : dstOk C.n o.dst = true) (ho : o.op = .call { callee := .builtin .copy, args := #[.tmp s, y], argTypes := #[t, t2] })
    (h : d3Copy C env σ o.type t t2 s y = some ⟨pp, d, σ'⟩) (hs : getD env s = .asl j p u off n) (hts : j ∈ ts)
    (hk : VX C Q (.o full ts ord :: k) .nrm (putD env o.dst d) σ') (hal : aloneB full ((i, false) :: ord) = true := by kernel_rfl) : VX C Q (.o full ts ((i, false) :: ord) :: k) .nrm env σ :=
  VX_opO hi hw hn (d3Copy_okF hC ho h fun i p u off n e => by rw [hs] at e; cases e; exact hts) (fun d1 s1 ⟨a1, a2⟩ => by subst a1; subst a2; exact hk) hal
end
end Go.Den
namespace Go.Den
open Go
theorem wt_len {tb : Tab} {t : TypeId} {xs : List E} (h : Wt tb t (.sl xs)) : xs.length ≤ maxN := by
  obtain ⟨H, cs, h⟩ := h
  cases h with
  | sl0 a => simp
  | sl a b c d e f => exact f
end Go.Den
/- Two ways that meet again. -/
namespace Go.Den
open Go
set_option linter.unusedVariables false

/-- A stack with its next region unfolded. -/
def unf : Nat → List It → List It
  | 0, k => k
  | n + 1, k => match k with
    | .c (.seq a b) :: k => unf n (.c a :: .c b :: k)
    | .c (.region _ ⟨l⟩ false) :: k => .r l l :: k
    | .c (.block id c) :: k => unf n (.c c :: .b id :: k)
    | .c .skip :: k => unf n k
    | k => k
/-- What comes behind the next test. -/
def behind : Nat → List It → List It
  | 0, k => k
  | n + 1, k => match k with
    | .r _ _ :: k => behind n k
    | .o _ _ _ :: k => behind n k
    | .c (.seq a b) :: k => behind n (.c a :: .c b :: k)
    | .c (.region _ _ _) :: k => behind n k
    | .c (.cond _ _ _) :: k => unf 40 k
    | .c .skip :: k => behind n k
    | k => k
def splitsCR : List It → Bool
  | .c _ :: _ | .r _ _ :: _ => true
  | _ => false
section
variable {C : Cx} {env : Env} {σ : List Blk} {Q : Post}
theorem VX_weakS {k : List It} {env' : Env} {σ' : List Blk} (hk : splitsCR k = true) (hw : Weak C.k0 env' σ' env σ) (h : VX C Q k .nrm env' σ') : VX C Q k .nrm env σ := by
  match k, hk with
  | .c code :: k, _ => exact V_weak hw h
  | .r full l :: k, _ =>
    intro H β a w hr he hd
    have r := hw.res (C := C) (H := H) (β := β) (σ := σ) (w := w) (a' := a) (w' := w) (H' := H) (β' := β) ⟨hr, he, hd, .refl _ _, .refl _ _ _⟩
    exact wpList_mono (fun _ _ _ hl => hl.trans r.stp r.kp) _ _ _ (h H _ a w r.rel r.env hd)
/-- A truth in a temporary; both ways come to one state behind the next test. -/
theorem VX_splitJ {k k' : List It} (t : Nat) (env' : Env) (σ' : List Blk) {ty : TypeId} {b : Bool} (hk : splits k = true) (hb : getD env t = .t ty (.e (.bool b))) (hj : behind 60 k = k')
    (rest : VX C Q k' .nrm env' σ')
    (h1 : b = true → VX C Q k' .nrm env' σ' → VX C Q k .nrm ((t, .kb ty true) :: env) σ) (h0 : b = false → VX C Q k' .nrm env' σ' → VX C Q k .nrm ((t, .kb ty false) :: env) σ) : VX C Q k .nrm env σ :=
  VX_split t hk hb (fun h => h1 h rest) (fun h => h0 h rest)
end
end Go.Den
namespace Go.Den
open Go
section
variable {C : Cx} {env : Env} {σ : List Blk} {Q : Post}

set_option linter.unusedVariables false in
theorem VX_via {k k' : List It} (env' : Env) (σ' : List Blk) (hj : behind 60 k = k') (rest : VX C Q k' .nrm env' σ') (h : VX C Q k' .nrm env' σ' → VX C Q k .nrm env σ) : VX C Q k .nrm env σ := h rest
end
end Go.Den
/- The runes of a text. -/
namespace Go.Den
open Go
set_option linter.unusedSectionVars false
set_option linter.unusedSimpArgs false
set_option linter.unusedVariables false

/-- What stands in a text at a place: the rune, and how many bytes it takes. -/
def runeAt (s : List UInt8) (pos : Nat) : Nat × Nat := Utf8.decode ⟨⟨s⟩⟩ pos
theorem runeAt_w (s : List UInt8) (pos : Nat) : 1 ≤ (runeAt s pos).2 ∧ (runeAt s pos).2 ≤ 4 := by
  unfold runeAt Utf8.decode
  simp only []
  repeat' split
  all_goals simp

theorem iterAt_cell (w : World) (k : Nat) (s : ByteArray) (pos pos' : Nat) (hk : w.heap[k]? = some (.stringIter s pos)) (b o : Nat) : (w.iterAt k s pos').cell? ⟨b, o, none⟩ = w.cell? ⟨b, o, none⟩ := by
  by_cases h : b = k
  · subst h
    have := Lib.iterAt_heap w b s pos pos' hk
    simp [World.cell?, this, hk]
  · have : (w.iterAt k s pos').heap[b]? = w.heap[b]? := by simp [World.iterAt, Array.getElem?_setIfInBounds_ne (Ne.symm h)]
    simp [World.cell?, this]
theorem iterAt_other (w : World) (k : Nat) (s : ByteArray) (pos' b : Nat) (h : b ≠ k) : (w.iterAt k s pos').heap[b]? = w.heap[b]? := by simp [World.iterAt, Array.getElem?_setIfInBounds_ne (Ne.symm h)]
theorem iterAt_shape (w : World) (k : Nat) (s : ByteArray) (pos pos' : Nat) (hk : w.heap[k]? = some (.stringIter s pos)) (b : Nat) : (w.iterAt k s pos').shape? b = w.shape? b := by
  by_cases h : b = k
  · subst h
    have := Lib.iterAt_heap w b s pos pos' hk
    simp [World.shape?, this, hk]
  · simp [World.shape?, iterAt_other w k s pos' b h]
theorem iterAt_frozen (w : World) (k : Nat) (s : ByteArray) (pos pos' : Nat) (hk : w.heap[k]? = some (.stringIter s pos)) (b o : Nat) : (w.iterAt k s pos').frozen? ⟨b, o, none⟩ = w.frozen? ⟨b, o, none⟩ := by
  by_cases h : b = k
  · subst h
    have := Lib.iterAt_heap w b s pos pos' hk
    simp [World.frozen?, this, hk]
  · simp [World.frozen?, iterAt_other w k s pos' b h]

theorem Rel.iterTo {tb H β σ w} (h : Rel tb H β σ w) {i pos pos' : Nat} {s : List UInt8} (hi : σ[i]? = some (.iter s pos)) {r : Nat} (hβ : β[i]? = some (.pointer (some ⟨r, 0, none⟩))) (hr : w.heap[r]? = some (.stringIter ⟨⟨s⟩⟩ pos)) (hm : ∀ o, H r o = .mine i) :
    Rel tb H β (σ.set i (.iter s pos')) (w.iterAt r ⟨⟨s⟩⟩ pos') ∧ Stp H w H (w.iterAt r ⟨⟨s⟩⟩ pos') ∧ Ev H β σ H β (σ.set i (.iter s pos')) := by
  have hil : i < σ.length := (List.getElem?_eq_some_iff.1 hi).1
  have hself : (σ.set i (.iter s pos'))[i]? = some (.iter s pos') := by simp [hil]
  have hev : Ev H β σ H β (σ.set i (.iter s pos')) := by
    refine ⟨fun _ _ _ e => e, fun j ty z hj => ?_, fun j ety m hj => ?_, fun j s2 p hj => ?_, fun j ety oo zs hj => ?_, fun j k9 e9 zs hj => ?_⟩
    · have hne : i ≠ j := fun e => by subst e; rw [hi] at hj; cases hj
      exact ⟨rfl, z, by rw [List.getElem?_set_ne hne]; exact hj⟩
    · have hne : i ≠ j := fun e => by subst e; rw [hi] at hj; cases hj
      exact ⟨m, by rw [List.getElem?_set_ne hne]; exact hj, Nat.le_refl _, fun _ => rfl⟩
    · by_cases hji : i = j
      · subst hji; exact ⟨rfl, s, pos', hself⟩
      · exact ⟨rfl, s2, p, by rw [List.getElem?_set_ne hji]; exact hj⟩
    · have hne : i ≠ j := fun e => by subst e; rw [hi] at hj; cases hj
      exact ⟨oo, zs, by rw [List.getElem?_set_ne hne]; exact hj, Nat.le_refl _, fun _ => rfl⟩
    · have hne : i ≠ j := fun e => by subst e; rw [hi] at hj; cases hj
      exact ⟨rfl, zs, by rw [List.getElem?_set_ne hne]; exact hj⟩
  have hc := iterAt_cell w r ⟨⟨s⟩⟩ pos pos' hr
  have hf := iterAt_frozen w r ⟨⟨s⟩⟩ pos pos' hr
  have hs := iterAt_shape w r ⟨⟨s⟩⟩ pos pos' hr
  have hsz : (w.iterAt r ⟨⟨s⟩⟩ pos').heap.size = w.heap.size := by simp [World.iterAt]
  refine ⟨⟨fun b o v e => (hc b o).trans (h.pers b o v e), fun b o e => by rw [hsz]; exact h.dom b o e, by simp [h.len], fun j k bv hk hv => ?_⟩, ?_, hev⟩
  · by_cases hji : i = j
    · subst hji
      rw [hself] at hk; cases hk
      rw [hβ] at hv; cases hv
      exact ⟨r, rfl, Lib.iterAt_heap w r _ pos pos' hr, hm⟩
    · rw [List.getElem?_set_ne hji] at hk
      refine (h.blk j k bv hk hv).mono hev (fun b o e => ⟨e, hc b o, fun _ _ => hf b o, hs b⟩) (fun b x9 e _ he => ?_)
      have hne : b ≠ r := fun e2 => by subst e2; have := (e 0).symm.trans (hm 0); cases this; exact hji rfl
      rw [iterAt_other _ _ _ _ _ hne]; exact he
  · exact ⟨rfl, rfl, rfl, by rw [hsz]; exact Nat.le_refl _, fun _ _ _ _ => rfl, fun _ _ _ j e => ⟨j, e⟩, fun b _ hn => iterAt_other _ _ _ _ _ (fun e => by subst e; exact hn 0 i (hm 0)), fun b _ o _ => hc b o, fun b _ o _ _ _ => hf b o, fun b _ => hs b⟩

section
variable {C : Cx} {env : Env} {σ : List Blk} {Q : Post}
theorem VX_range (hC : Ok C) {k : List It} {full l : List Oper} {o : Oper} {t : TypeId} {x : Operand} {dx : D} {s : List UInt8} {q : Nat} (hw : wants full env o = some true) (hn : dstOk C.n o.dst = true) (ho : o.op = .range t x) (ht : td C.tb t = .str)
    (hx : opd C.tb env t x = some dx) (hs : strAny dx = some s) (hq : o.dst = some q) {σ' : List Blk} {j : Nat} (hj : σ.length = j) (hσ : normBs (σ ++ [.iter s 0]) some = some σ')
    (h : VX C Q (.r full l :: k) .nrm ((q, .it j) :: env) σ') : VX C Q (.r full (o :: l) :: k) .nrm env σ := by
  rw [normBs_eq] at hσ; cases hσ
  subst hj
  refine VX_op hw hn (R := fun d s' => d = .it σ.length ∧ s' = σ ++ [.iter s 0]) ?_ ?_
  · intro H β a w hr he hd K Qx hK
    obtain ⟨hv, _⟩ := strAny_rel (opd_rel he hx) hs
    have hex : (execOp a.eval o).run C.P w = .ok (.value (.pointer (some ⟨w.heap.size, 0, none⟩))) (w.alloc (.stringIter ⟨⟨s⟩⟩ 0)) := by
      simp [execOp, ho, Instr.range, run_underlying_of hC.tab (hC.tab.str ht), hv, sv]
    obtain ⟨r1, r2⟩ := hr.alloc (.stringIter ⟨⟨s⟩⟩ 0) (fun _ => .mine σ.length) [.pointer (some ⟨w.heap.size, 0, none⟩)] [.iter s 0] rfl (fun o v hv => by cases hv)
      (fun i k bv hk hv => by
        have hi : i = 0 := by have := (List.getElem?_eq_some_iff.1 hk).1; simp at this; omega
        subst hi
        simp at hk hv; subst hk; subst hv
        exact ⟨w.heap.size, rfl, heap_alloc_new w _, fun o => by rw [hAlloc_new]; rfl⟩)
    simp only [Oper.wp, hex, Oper.upon]
    exact hK _ _ _ _ _ _ ⟨rfl, rfl⟩ r1 (.it (s := s) (pos := 0) (by simp) (by simp [← hr.len])) (Stp.alloc hr.dom _ _) r2
  · rintro d s' ⟨rfl, rfl⟩
    rw [hq]; exact h

/-- The next rune. -/
theorem VX_next (hC : Ok C) {k : List It} {full l : List Oper} {o : Oper} {t : Nat} {s : List UInt8} {q i pos : Nat} (ti tr : TypeId) (hw : wants full env o = some true) (hn : dstOk C.n o.dst = true) (ho : o.op = .next (.tmp t) true)
    (ht : getD env t = .it i) (hi : σ[i]? = some (.iter s pos)) (hq : o.dst = some q) (hti : td C.tb ti = .int .i64) (htr : td C.tb tr = .int .i32) (hp : (s.length : Int) ≤ maxI) {σ' : List Blk} (hσ : normBs (σ.set i (.iter s (pos + (runeAt s pos).2))) some = some σ')
    (h1 : pos < s.length → VX C Q (.r full l :: k) .nrm ((q, .tup [.kb C.bt true, .t ti (.e (.int pos)), .t tr (.e (.int (runeAt s pos).1))]) :: env) σ')
    (h0 : ¬ pos < s.length → VX C Q (.r full l :: k) .nrm ((q, .tup [.kb C.bt false]) :: env) σ) : VX C Q (.r full (o :: l) :: k) .nrm env σ := by
  rw [normBs_eq] at hσ; cases hσ
  by_cases hpos : pos < s.length
  · refine VX_op hw hn (R := fun d s' => d = .tup [.kb C.bt true, .t ti (.e (.int pos)), .t tr (.e (.int (runeAt s pos).1))] ∧ s' = σ.set i (.iter s (pos + (runeAt s pos).2))) ?_ ?_
    · intro H β a w hr he hd K Qx hK
      have hv := he.get t
      rw [ht] at hv
      generalize hve : a.tmps.getD t undef = vt at hv
      cases hv with
      | @it i v s0 p0 hσi hβ =>
        rw [hi] at hσi; cases hσi
        obtain ⟨r, rfl, hrh, hm⟩ := hr.blk i _ _ hi hβ
        have hrun := Lib.run_next_any_at (P := C.P) w r ⟨⟨s⟩⟩ pos o.type hrh hpos
        have hve' : a.eval (.tmp t) = .pointer (some ⟨r, 0, none⟩) := hve
        have hex : (execOp a.eval o).run C.P w = .ok (.value (.tuple #[.bool true, .int .i64 pos, .int .i32 (Utf8.decode ⟨⟨s⟩⟩ pos).1])) (w.iterAt r ⟨⟨s⟩⟩ (pos + (Utf8.decode ⟨⟨s⟩⟩ pos).2)) := by
          simp [execOp, ho, hve', hrun]
        obtain ⟨r1, r2, r3⟩ := hr.iterTo (pos' := pos + (runeAt s pos).2) hi hβ hrh hm
        simp only [Oper.wp, hex, Oper.upon]
        refine hK _ _ _ H β _ ⟨rfl, rfl⟩ r1 (.tup rfl fun j v d hv hd => ?_) r2 r3
        have hpw : IntKind.wrap .i64 (pos : Int) = pos := inR_wrap (by simp [inR, maxI] at *; omega)
        have hrw : IntKind.wrap .i32 ((Utf8.decode ⟨⟨s⟩⟩ pos).1 : Int) = (Utf8.decode ⟨⟨s⟩⟩ pos).1 := inR_wrap (by have := decode_le ⟨⟨s⟩⟩ pos; simp [inR]; omega)
        match j with
        | 0 => cases hd; simp at hv; subst hv; exact .kb hC.bt
        | 1 => cases hd; simp at hv; subst hv; exact .mkInt hti hpw
        | 2 => cases hd; simp at hv; subst hv; exact .mkInt htr hrw
        | j + 3 => simp at hd
    · rintro d s' ⟨rfl, rfl⟩
      rw [hq]; exact h1 hpos
  · refine VX_op hw hn (R := fun d s' => d = .tup [.kb C.bt false] ∧ s' = σ) ?_ ?_
    · intro H β a w hr he hd K Qx hK
      have hv := he.get t
      rw [ht] at hv
      generalize hve : a.tmps.getD t undef = vt at hv
      cases hv with
      | @it i v s0 p0 hσi hβ =>
        rw [hi] at hσi; cases hσi
        obtain ⟨r, rfl, hrh, hm⟩ := hr.blk i _ _ hi hβ
        have hrun := Lib.run_next_end_at (P := C.P) w r ⟨⟨s⟩⟩ pos o.type hrh hpos
        have hve' : a.eval (.tmp t) = .pointer (some ⟨r, 0, none⟩) := hve
        have hex : (execOp a.eval o).run C.P w = .ok (.value (.tuple #[.bool false])) w := by simp [execOp, ho, hve', hrun]
        simp only [Oper.wp, hex, Oper.upon]
        refine hK _ _ w H β σ ⟨rfl, rfl⟩ hr (.tup rfl fun j v d hv hd => ?_) (.refl _ _) (.refl _ _ _)
        match j with
        | 0 => cases hd; simp at hv; subst hv; exact .kb hC.bt
        | j + 1 => simp at hd
    · rintro d s' ⟨rfl, rfl⟩
      rw [hq]; exact h0 hpos
end
end Go.Den
/- Functions that hold variables; functions without a body. -/
namespace Go.Den
open Go
set_option linter.unusedSectionVars false
set_option linter.unusedSimpArgs false
set_option linter.unusedVariables false

/-- The variables that a function value holds. -/
def capsOf (env : Env) : List Operand → Option (List (Nat × List Nat))
  | [] => some []
  | .tmp t :: r => match getD env t with
    | .ptr i p => match capsOf env r with
      | some c => some ((i, p) :: c)
      | none => none
    | _ => none
  | _ :: _ => none
def capD (c : List (Nat × List Nat)) : List D := c.map fun q => D.ptr q.1 q.2

section
variable {C : Cx} (hC : Ok C) {o : Oper} {env : Env} {σ : List Blk}

theorem capsOf_rel {H β n a} (he : EnvRel C.tb H β σ n a env) : ∀ {l : List Operand} {c : List (Nat × List Nat)}, capsOf env l = some c →
    ∃ ads : List Addr, l.map a.eval = ads.map (fun x => Value.pointer (some x)) ∧ ads.length = c.length ∧ ∀ (i : Nat) (q : Nat × List Nat) (x : Addr), c[i]? = some q → ads[i]? = some x → PtrAt C.tb β σ q.1 q.2 x
  | [], c, h => by simp [capsOf] at h; subst h; exact ⟨[], rfl, rfl, fun i q x hq => by simp at hq⟩
  | .tmp t :: r, c, h => by
    simp only [capsOf] at h
    split at h
    · rename_i i p ht
      split at h
      · rename_i c' hc'
        cases h
        obtain ⟨ads, h1, h2, h3⟩ := capsOf_rel he hc'
        have hv := he.get t
        rw [ht] at hv
        obtain ⟨ad, hve, hp⟩ := hv.ptr_inv
        refine ⟨ad :: ads, by simp only [List.map_cons, h1]; congr 1, by simp [h2], fun j q x hq hx => ?_⟩
        cases j with
        | zero => simp at hq hx; subst hq; subst hx; exact hp
        | succ j => exact h3 j q x (by simpa using hq) (by simpa using hx)
      · cases h
    · cases h
  | .const _ :: _, _, h => by simp [capsOf] at h
  | .global _ :: _, _, h => by simp [capsOf] at h
  | .func _ :: _, _, h => by simp [capsOf] at h

/-- A function value that holds variables. -/
theorem OpV_makeFunc {f : FuncId} {cs : Array Operand} {c : List (Nat × List Nat)} (ho : o.op = .makeFunc (.func f) #[] cs) (hr : td C.tb o.type = .fn) (hc : capsOf env cs.toList = some c) :
    OpV C o env σ (fun d s => d = .t o.type (.fn f c) ∧ s = σ) := by
  intro H β a w hrel he hd K Qx hK
  obtain ⟨ads, h1, h2, h3⟩ := capsOf_rel he hc
  have hcs : cs.map a.eval = (ads.map fun x => Value.pointer (some x)).toArray := by
    apply Array.ext'
    simp [← h1]
  have hex : (execOp a.eval o).run C.P w = .ok (.value (.func (.func f) #[] (ads.map fun x => Value.pointer (some x)).toArray)) w := by
    simp [execOp, ho, Instr.makeFunc, hcs]
  simp only [Oper.wp, hex, Oper.upon]
  refine hK _ _ w H β σ ⟨rfl, rfl⟩ hrel ?_ (.refl _ _) (.refl _ _ _)
  exact .t (cs := [_]) (by simp [VC, isAggT, hr]) (.fn hr h2 h3)

include hC in
/-- A call of a function value. -/
theorem OpF_callC {f : FuncId} {xs : Array Operand} {tys : Array TypeId} {pts : List TypeId} {ds args : List D} {σ0 : List Blk} {Q0 : D → List Blk → Prop} {idx ts : List Nat} {t : Nat} {ty : TypeId} {c : List (Nat × List Nat)}
    (ho : o.op = .call { callee := .value (.tmp t), args := xs, argTypes := tys }) (ht : getD env t = .t ty (.fn f c)) (hx : argsD C.tb env pts xs.toList = some ds) (hds : D.rens (idxOf idx) (ds ++ capD c) = some args) (hp : pickB σ (idxOf idx) idx 0 = some σ0)
    (h : FnG C.P C.tb f σ0 args Q0) (hts : disj idx ts = true) : OpF C o env σ ts (backR σ idx Q0) := by
  intro H β a w hr he hd K Qx hK
  obtain ⟨⟨fn, hf, hn, hb⟩, hcall⟩ := h
  obtain ⟨l1, l2, l3⟩ := argsD_rel hC he hx
  have hv := he.get t
  rw [ht] at hv
  obtain ⟨ads, hva, hal, hpt⟩ : ∃ ads : List Addr, a.tmps.getD t undef = .func (.func f) #[] (ads.map fun x => Value.pointer (some x)).toArray ∧ ads.length = c.length ∧ ∀ (i : Nat) (q : Nat × List Nat) (x : Addr), c[i]? = some q → ads[i]? = some x → PtrAt C.tb β σ q.1 q.2 x := by
    generalize a.tmps.getD t undef = v at hv
    cases hv with
    | t e1 e2 => cases e2 with
      | @fn t0 f0 caps ads q1 q2 q3 =>
        have e1' := e1
        simp [VC, isAggT, q1] at e1'
        exact ⟨ads, e1'.symm, q2, q3⟩
  let vals : Array Value := xs.map a.eval ++ (ads.map fun x => Value.pointer (some x)).toArray
  have hrun : (execOp a.eval o).run C.P w = .ok (.enter f vals) w := by
    have hva' : a.eval (.tmp t) = .func (.func f) #[] (ads.map fun x => Value.pointer (some x)).toArray := hva
    have := run_callFunc (P := C.P) (args := vals) (w := w) hf hn hb
    simp only [execOp, ho, resolve, hva', Deferred.ofValue, Sem.run_bind, Sem.run_pure, Result.andThen, invoke]
    rw [show (#[] ++ xs.map a.eval : Array Value) ++ (ads.map fun x => Value.pointer (some x)).toArray = vals by simp [vals]]
    exact this
  simp only [Oper.wp, hrun, Oper.upon]
  obtain ⟨hpr, hren⟩ := hr.pick hp
  obtain ⟨d1, d2⟩ := D.rens_get hds
  obtain ⟨p1, p2⟩ := pickB_get hp
  have hargs : ArgsAt C.tb (pickH (idxOf idx) H) (idx.map fun i => β.getD i undef) σ0 vals args := by
    have hxl : xs.size = ds.length := by have : xs.toList.length = ds.length := by rw [l2, l1]
                                         simpa using this
    have hcl : (capD c).length = ads.length := by simp [capD, hal]
    refine ⟨⟨by simp only [vals, Array.size_append, Array.size_map, List.size_toArray, List.length_map, d1, List.length_append, hcl, hxl], he.1.2.mono fun _ _ _ e => pickH_pers.2 e⟩, fun i v d hv hd => ?_⟩
    obtain ⟨x, hx1, hx2⟩ := d2 i d hd
    have hrel : DRel C.tb H β σ v x := by
      rcases Nat.lt_or_ge i ds.length with hi | hi
      · rw [List.getElem?_append_left hi] at hx1
        rw [Array.getElem?_append_left (by simp; omega)] at hv
        simp only [Array.getElem?_map, Option.map_eq_some_iff] at hv
        obtain ⟨y, hy, rfl⟩ := hv
        exact l3 i y x (by simpa using hy) hx1
      · rw [List.getElem?_append_right hi] at hx1
        rw [Array.getElem?_append_right (by simp; omega)] at hv
        have hidx : i - (xs.map a.eval).size = i - ds.length := by simp [hxl]
        rw [hidx] at hv
        simp only [capD, List.getElem?_map, Option.map_eq_some_iff] at hx1
        obtain ⟨q, hq, rfl⟩ := hx1
        have hv' : (ads.map fun x => Value.pointer (some x))[i - ds.length]? = some v := by simpa using hv
        simp only [List.getElem?_map, Option.map_eq_some_iff] at hv'
        obtain ⟨ad, had, rfl⟩ := hv'
        exact .ptr (hpt _ q ad hq had)
    exact hrel.ren hren hx2
  have hmine : ∀ b o i, pickH (idxOf idx) H b o = .mine i → i < σ0.length := fun b o i e => by
    obtain ⟨i', _, e2⟩ := pickH_mine.1 e
    rw [p1]; exact (List.getElem?_eq_some_iff.1 (idxOf_get e2)).1
  refine (hcall _ _ w _ hpr hmine hargs).mono ?_
  rintro e w' ⟨v, d0, H', β', σ', rfl, hq, hle, hr', hv', hs, hk⟩
  rw [p1] at hle hk
  obtain ⟨τ, hτ⟩ := renBs_total (f := fun j => backI idx σ.length j) σ'
  obtain ⟨d, hd⟩ := D.ren_total (f := fun j => backI idx σ.length j) d0
  obtain ⟨k1, k2, k3, k4⟩ := hr.back hp hr' hs hk hle hτ
  refine hK v d w' _ _ _ ⟨d0, σ', τ, hq, hd, hτ, rfl⟩ k1 (hv'.ren k4 hd) k2 k3 ?_
  intro b o' u hu hst
  have hlt : b < w.heap.size := by
    rcases hst with ⟨x, hx⟩ | ⟨i, _, hi⟩
    · exact hr.dom b o' (by rw [hx]; simp)
    · exact hr.dom b o' (by rw [hi]; simp)
  have hni : ∀ i, H b o' = .mine i → i ∉ ts → i ∉ idx := fun i _ hi hc => hi (by simpa [disj] using (List.all_eq_true.1 hts i hc))
  have hnm : ∀ j, pickH (idxOf idx) H b o' ≠ .mine j := fun j e => by
    obtain ⟨i, e1, e2⟩ := pickH_mine.1 e
    rcases hst with ⟨x, hx⟩ | ⟨i', hi', hm⟩
    · rw [hx] at e1; cases e1
    · have he1 := hm.symm.trans e1
      cases he1
      exact hni _ hm hi' (List.mem_of_getElem? (idxOf_get e2))
  refine ⟨(hs.cell b hlt o' hnm).trans hu, ?_⟩
  rcases hst with ⟨x, hx⟩ | ⟨i, hi, hm⟩
  · exact .inl ⟨x, k3.pers _ _ _ hx⟩
  · refine .inr ⟨i, hi, ?_⟩
    have hx : idxOf idx i = none := by
      cases hx : idxOf idx i with
      | none => rfl
      | some q => exact absurd (List.mem_of_getElem? (idxOf_get hx)) (hni i hm hi)
    have h0 : pickH (idxOf idx) H b o' = .none := by
      unfold pickH; rw [hm]; simp [hx]
    have h1 : H' b o' = .none := by rw [hs.gh b hlt o' hnm, h0]
    simp [backH, h1, hm, hx]
end

section
variable {C : Cx} {env : Env} {σ : List Blk} {Q : Post}
theorem VX_callC (hC : Ok C) {k : List It} {full l : List Oper} {o : Oper} {f : FuncId} {xs : Array Operand} {tys : Array TypeId} {t : Nat} {ty : TypeId} {c : List (Nat × List Nat)} (pts : List TypeId) {ds args : List D} {σ0 s0 τ s : List Blk} {d0 : D} {env' : Env} (idx : List Nat)
    (hw : wants full env o = some true) (hn : dstOk C.n o.dst = true) (ho : o.op = .call { callee := .value (.tmp t), args := xs, argTypes := tys }) (ht : getD env t = .t ty (.fn f c)) (hx : argsD C.tb env pts xs.toList = some ds) (hds : D.rens (idxOf idx) (ds ++ capD c) = some args) (hp : pickB σ (idxOf idx) idx 0 = some σ0)
    (h : FnG C.P C.tb f σ0 args (fun d s => d = d0 ∧ s = s0))
    (hr : retK env o.dst (D.ren (fun j => some (backI idx σ.length j)) d0) = some env') (hb : renBs (fun j => some (backI idx σ.length j)) s0 = some τ) (hs : normBs (putBack σ idx τ) some = some s)
    (hk : VX C Q (.r full l :: k) .nrm env' s) : VX C Q (.r full (o :: l) :: k) .nrm env σ :=
  VX_op hw hn (OpF_callC (ts := idx) hC ho ht hx hds hp h (by simp [disj])).v fun d' s' ⟨d1, s1, τ1, ⟨h1, h2⟩, h3, h4, h5⟩ => by
    subst h1; subst h2
    rw [h3, retK_eq] at hr; cases hr
    rw [hb] at h4; cases h4
    rw [normBs_eq] at hs; cases hs
    subst h5; exact hk
theorem VX_makeFunc {k : List It} {full l : List Oper} {o : Oper} {f : FuncId} {cs : Array Operand} {c : List (Nat × List Nat)} {q : Nat} (hw : wants full env o = some true) (hn : dstOk C.n o.dst = true) (ho : o.op = .makeFunc (.func f) #[] cs) (hr : td C.tb o.type = .fn) (hc : capsOf env cs.toList = some c) (hq : o.dst = some q)
    (h : VX C Q (.r full l :: k) .nrm ((q, .t o.type (.fn f c)) :: env) σ) : VX C Q (.r full (o :: l) :: k) .nrm env σ :=
  VX_op hw hn (OpV_makeFunc ho hr hc) fun d s ⟨h1, h2⟩ => by subst h1; subst h2; rw [hq]; exact h
/-- A sum of two numbers, with its carry. -/
theorem VX_add64 {k : List It} {full l : List Oper} {o : Oper} {f : FuncId} {x y : Nat} {t : TypeId} {tys : Array TypeId} {p q r : Nat} (hC : Ok C) (hw : wants full env o = some true) (hn : dstOk C.n o.dst = true)
    (ho : o.op = .call { callee := .value (.func f), args := #[.tmp p, .tmp q, .const (.int .u64 0)], argTypes := tys }) (ht : td C.tb t = .int .u64) (hp : getD env p = .t t (.e (.int x))) (hq : getD env q = .t t (.e (.int y))) (hr : o.dst = some r) (hx : x < 18446744073709551616) (hy : y < 18446744073709551616)
    (hf : ∀ (x y : Nat) (w : World), (callFunc f #[.int .u64 x, .int .u64 y, .int .u64 0]).run C.P w = .ok (.value (.tuple #[.int .u64 ((x + y) % 18446744073709551616 : Nat), .int .u64 ((x + y) / 18446744073709551616 : Nat)])) w)
    (h : VX C Q (.r full l :: k) .nrm ((r, .tup [.t t (.e (.int ((x + y) % 18446744073709551616 : Nat))), .t t (.e (.int ((x + y) / 18446744073709551616 : Nat)))]) :: env) σ) : VX C Q (.r full (o :: l) :: k) .nrm env σ := by
  refine VX_op hw hn (R := fun d s => d = .tup [.t t (.e (.int ((x + y) % 18446744073709551616 : Nat))), .t t (.e (.int ((x + y) / 18446744073709551616 : Nat)))] ∧ s = σ) ?_ fun d s ⟨h1, h2⟩ => by subst h1; subst h2; rw [hr]; exact h
  intro H β a w hrel he hd K Qx hK
  have v1 := he.get p
  rw [hp] at v1
  have v2 := he.get q
  rw [hq] at v2
  obtain ⟨e1, _⟩ := intAt_rel (ty := t) (n := x) v1 (by simp [intAt, same]) ht
  obtain ⟨e2, _⟩ := intAt_rel (ty := t) (n := y) v2 (by simp [intAt, same]) ht
  have hex : (execOp a.eval o).run C.P w = .ok (.value (.tuple #[.int .u64 ((x + y) % 18446744073709551616 : Nat), .int .u64 ((x + y) / 18446744073709551616 : Nat)])) w := by
    have := hf x y w
    have e1' : a.eval (.tmp p) = .int .u64 x := e1
    have e2' : a.eval (.tmp q) = .int .u64 y := e2
    have e3 : a.eval (.const (.int .u64 0)) = .int .u64 0 := rfl
    have e4 : a.eval (.func f) = .func (.func f) #[] #[] := rfl
    simp only [execOp, ho, resolve, e4, Deferred.ofValue, Sem.run_bind, Sem.run_pure, Result.andThen, invoke]
    simp [e1', e2', e3]
    simpa using this
  simp only [Oper.wp, hex, Oper.upon]
  refine hK _ _ w H β σ ⟨rfl, rfl⟩ hrel (.tup rfl fun i v d hv hd => ?_) (.refl _ _) (.refl _ _ _)
  match i with
  | 0 => cases hd; simp at hv; subst hv; exact .mkInt ht (inR_wrap (by simp [inR]; omega))
  | 1 => cases hd; simp at hv; subst hv; exact .mkInt ht (inR_wrap (by simp [inR]; omega))
  | i + 2 => simp at hd
end
end Go.Den
/- What store, append and literal leave alone: for regions that draw. -/
namespace Go.Den
open Go
set_option linter.unusedSectionVars false
set_option linter.unusedSimpArgs false
set_option linter.unusedVariables false
theorem Frm.of {ts : List Nat} {H : Gh} {w : World} {H' : Gh} {w' : World} (hd : ∀ b o, H b o ≠ .none → b < w.heap.size) (hst : Stp H w H' w')
    (hoth : ∀ b o j, H b o = .mine j → j ∉ ts → H' b o = .mine j ∧ w'.cell? ⟨b, o, none⟩ = w.cell? ⟨b, o, none⟩) : Frm ts H w H' w' := by
  rintro b o u hu (⟨x, hx⟩ | ⟨i, hi, hm⟩)
  · have hlt := hd b o (by rw [hx]; simp)
    exact ⟨(hst.cell b hlt o (by rw [hx]; simp)).trans hu, .inl ⟨x, (hst.gh b hlt o (by rw [hx]; simp)).trans hx⟩⟩
  · obtain ⟨h1, h2⟩ := hoth b o i hm hi
    exact ⟨h2.trans hu, .inr ⟨i, hi, h1⟩⟩
theorem Frm.write {ts : List Nat} {H : Gh} {w : World} {i b o : Nat} {vs : List Value} (hm : ∀ j, j < vs.length → H b (o + j) = .mine i) (hi : i ∈ ts) : Frm ts H w H (w.setCells b o vs) := by
  intro b' o' u hu hs
  refine ⟨(setCells_cell fun e => ?_).trans hu, hs⟩
  subst e
  rcases Nat.lt_or_ge o' o with h1 | h1
  · exact .inl h1
  · rcases Nat.lt_or_ge o' (o + vs.length) with h2 | h2
    · have h3 := hm (o' - o) (by omega)
      rw [show o + (o' - o) = o' by omega] at h3
      rcases hs with ⟨x, hx⟩ | ⟨k, hk, hx⟩
      · rw [h3] at hx; cases hx
      · rw [h3] at hx; cases hx; exact absurd hi hk
    · exact .inr h2
theorem Frm.alloc {ts : List Nat} {H : Gh} {w : World} (hd : ∀ b o, H b o ≠ .none → b < w.heap.size) (ob : Obj) (f : Nat → Own) : Frm ts H w (hAlloc H w.heap.size f) (w.alloc ob) := by
  intro b o u hu hs
  have hne : b ≠ w.heap.size := by
    have : b < w.heap.size := hd b o (by rcases hs with ⟨x, hx⟩ | ⟨k, hk, hx⟩ <;> rw [hx] <;> simp)
    omega
  rw [hAlloc_old hne]
  exact ⟨(World.cell?_alloc_old w ob _ hne).trans hu, hs⟩
section
variable {C : Cx} (hC : Ok C) {o : Oper} {env : Env} {σ : List Blk} {ts : List Nat}
include hC

theorem OpF_store {t : TypeId} {s i : Nat} {p : List Nat} {ty : TypeId} {X : T} {x : Operand} {d : D} {y : T} (ho : o.op = .store t (.tmp s) x) (hs : getD env s = .ptr i p) (hi : σ[i]? = some (.tree ty X))
    (ht : same C.tb t (tyAt C.tb ty p) = true) (hx : opd C.tb env t x = some d) (hy : asT C.tb t d = some y) (hts : i ∈ ts) :
    OpF C o env σ ts (fun d' s' => d' = .any ∧ s' = σ.set i (.tree ty (setT p y X))) := by
  intro H β a w hr he hd K Qx hK
  have hv := he.get s
  rw [hs] at hv
  obtain ⟨ad, hv, hp⟩ := hv.ptr_inv
  obtain ⟨b, off, ty', X', o', u, rfl, e2, e1, e3, e4, cs, f2, f3, f4, f0⟩ := hr.at hC hp
  rw [hi] at e2; cases e2
  rw [e4] at ht
  have ht' := same_td ht
  obtain ⟨vs, hvc, hvt⟩ := asT_rel hC (opd_rel he hx) hy
  have hvu := hvt.cast hC.tab ht'
  have hle := offT_le hC.tab e3
  have hvl := hvu.len hC.tab
  have hcs : ∀ j, j < vs.length → ∃ v, w.cell? ⟨b, off + o' + j, none⟩ = some v ∧ H b (off + o' + j) = .mine i ∧ w.frozen? ⟨b, off + o' + j, none⟩ = false := fun j hj => by
    have hlt : o' + j < cs.length := by omega
    have := f3 (o' + j) cs[o' + j] (List.getElem?_eq_getElem hlt)
    rw [← Nat.add_assoc] at this
    exact ⟨_, this⟩
  have hcells := hvc.cells hvt hC.tab
  have hst := run_storeVar hC (t := t) (b := b) (off := off + o') (w := w) hcells (hvt.len hC.tab) hvt.td_ne (hvt.one hC.tab)
    (fun j hj => by obtain ⟨v, h1, _⟩ := hcs j hj; simp [h1]) (fun j hj => by obtain ⟨v, _, _, h3⟩ := hcs j hj; exact h3)
  have hrun : (execOp a.eval o).run C.P w = .ok .skip (w.setCells b (off + o') vs) := by
    have hve : a.eval (.tmp s) = .pointer (some ⟨b, off + o', none⟩) := hv
    simp [execOp, ho, hve, Instr.storeAt, Instr.sureAddr, hst]
  have r := hr.write (i := i) (b := b) (o := off + o') (vs := vs) (fun j hj => by obtain ⟨v, _, h2, _⟩ := hcs j hj; exact h2) (k := .tree ty (setT p y X)) e1
    ⟨_, hi, fun ty2 x2 h2 => by cases h2; exact ⟨_, rfl⟩, fun _ _ h2 => (by cases h2), fun _ _ h2 => (by cases h2), fun _ _ _ h2 => (by cases h2), fun _ _ _ h2 => (by cases h2)⟩
    (fun hev => by
      refine ⟨b, off, splice cs o' vs, rfl, by rw [splice_length (by omega)]; exact f2, fun hz => ⟨(f0 hz).1, (shape?_setCells b vs _ w _).trans (f0 hz).2⟩, fun j v hj => ?_, (f4.put hC.tab e3 hvu).mono hev⟩
      rw [splice_get (by omega)] at hj
      have hfz : ∀ q, (w.setCells b (off + o') vs).frozen? ⟨b, q, none⟩ = w.frozen? ⟨b, q, none⟩ := fun q => World.frozen?_setCells b vs _ w _
      by_cases h1 : j < o'
      · rw [if_pos h1] at hj
        obtain ⟨g1, g2, g3⟩ := f3 j v hj
        exact ⟨by rw [setCells_cell (fun _ => .inl (by omega))]; exact g1, g2, (hfz _).trans g3⟩
      · rw [if_neg h1] at hj
        by_cases h2 : j < o' + vs.length
        · rw [if_pos h2] at hj
          obtain ⟨u1, g1, g2, g3⟩ := hcs (j - o') (by omega)
          have hidx : off + o' + (j - o') = off + j := by omega
          rw [hidx] at g1 g2 g3
          refine ⟨?_, g2, (hfz _).trans g3⟩
          have := World.cell?_setCells_in b vs (off + o') w (fun q hq => by obtain ⟨v, k1, _⟩ := hcs q hq; simp [k1]) (j - o') (by omega)
          rw [hidx] at this
          rw [this]
          rw [List.getElem?_eq_getElem (by omega)] at hj; exact hj
        · rw [if_neg h2] at hj
          obtain ⟨g1, g2, g3⟩ := f3 j v hj
          exact ⟨by rw [setCells_cell (fun _ => .inr (by omega))]; exact g1, g2, (hfz _).trans g3⟩)
  simp only [Oper.wp, hrun, Oper.upon]
  exact hK _ _ _ H _ _ ⟨rfl, rfl⟩ r.1 .any r.2.2 r.2.1 (Frm.write (fun j hj => by obtain ⟨v, _, h2, _⟩ := hcs j hj; exact h2) hts)

theorem OpF_appendNew {x y : Operand} {t t2 u : TypeId} {dx dy : D} {xs ys : List E} (ho : o.op = .call { callee := .builtin .append, args := #[x, y], argTypes := #[t, t2] }) (ht : td C.tb t = .sl u) (hz : plain C.tb zf u = true)
    (hx : opd C.tb env t x = some dx) (hxs : freshE dx = some xs) (hsx : same C.tb (tagD dx) t = true) (hy : opd C.tb env t2 y = some dy) (hys : srcE C.tb t t2 dy = some ys)
    (hp : (xs.length + ys.length) * nb C.tb u ≤ maxL ∧ xs.length + ys.length ≤ maxL) (hts : σ.length ∈ ts) :
    OpF C o env σ ts (fun d' s' => d' = .t t (.lsl σ.length (xs ++ ys)) ∧ s' = σ ++ [.row u (xs ++ ys).length]) := by
  intro H β a w hr he hd K Qx hK
  have hvx := opd_rel he hx
  have hvy := opd_rel he hy
  obtain ⟨h2, hlen, news, hrow, hnew⟩ := srcE_rel hC ht hr.base hvy hys
  have hx0 : Rd C.tb H t [a.eval x] (.sl xs) ∧ RowRel C.tb H w σ.length (a.eval x) u xs.length := by
    generalize a.eval x = vx at hvx ⊢
    unfold freshE at hxs
    split at hxs <;> cases hxs
    · cases hvx with
      | @t ty v cs z aa bb => cases bb with
        | nsl b1 =>
          have ht' := same_td hsx
          have a' := aa
          simp [VC, isAggT, b1] at a'
          rw [← a']
          exact ⟨.sl0 ht, .inl ⟨rfl, rfl⟩⟩
    · cases hvx with
      | @t ty v cs z aa bb => cases bb with
        | @bsl t0 u0 b off xs b1 b2 =>
          have ht' := same_td hsx
          have a' := aa
          simp [VC, isAggT, b1] at a'
          rw [← a']
          exact ⟨b2.cast hC.tab ht', .inr ⟨b, off, _, rfl, Nat.le_refl _, fun j h1 h2 => by omega⟩⟩
  obtain ⟨v', w', H', hrun, hb', hpm, hrd', hrow', hoth, hit, hstp, hsame⟩ := append_core hC (ty := o.type) ht hz hr.base hx0.1 rfl hx0.2 h2 hlen rfl hnew hrow hp.1 hp.2
  have hex : (execOp a.eval o).run C.P w = .ok (.value v') w' := by
    rw [opdArgs2 ho]
    simp [builtin, hrun]
  have hev : Ev H β σ H' (β ++ [v']) (σ ++ [.row u (xs ++ ys).length]) := Ev.app hr.len hpm
  have hrel : Rel C.tb H' (β ++ [v']) (σ ++ [.row u (xs ++ ys).length]) w' := by
    refine ⟨hb'.pers, hb'.dom, by simp [hr.len], fun i k bv hk hv => ?_⟩
    rcases Nat.lt_or_ge i σ.length with hi | hi
    · rw [List.getElem?_append_left hi] at hk
      rw [List.getElem?_append_left (by rw [hr.len]; exact hi)] at hv
      exact (hr.blk i k bv hk hv).mono hev (fun b o h => have q := hoth b o i h (by omega); ⟨q.1, q.2.1, fun _ _ => q.2.2.1, q.2.2.2⟩) (fun b x h ho hh => hit b x i h (by omega) ho hh)
    · rw [List.getElem?_append_right hi] at hk
      rw [List.getElem?_append_right (by rw [hr.len]; exact hi), hr.len] at hv
      have hi0 : i - σ.length = 0 := by have := (List.getElem?_eq_some_iff.1 hk).1; simp at this; omega
      rw [hi0] at hk hv
      simp at hk hv
      subst hk; subst hv
      rw [show i = σ.length by omega]
      have : (xs ++ ys).length = xs.length + ys.length := by simp
      simpa [BlkRel, RowRel, this] using hrow'
  simp only [Oper.wp, hex, Oper.upon]
  refine hK v' _ w' H' _ _ ⟨rfl, rfl⟩ hrel ?_ hstp hev (.of hr.dom hstp fun b o j hj hn => have q := hoth b o j hj (fun e => hn (e ▸ hts)); ⟨q.1, q.2.1⟩)
  refine .t (cs := [v']) (by simp [VC, isAggT, ht]) (.lsl ht hrd' ⟨_, by simp, Nat.le_refl _, fun _ => by simp [← hr.len]⟩)

theorem OpF_appendRow {x y : Operand} {t t2 u : TypeId} {dx dy : D} {i n : Nat} {xs ys : List E} {tx : TypeId} (ho : o.op = .call { callee := .builtin .append, args := #[x, y], argTypes := #[t, t2] }) (ht : td C.tb t = .sl u) (hz : plain C.tb zf u = true)
    (hx : opd C.tb env t x = some dx) (hxs : dx = .t tx (.lsl i xs)) (hsx : same C.tb tx t = true) (hi : σ[i]? = some (.row u n)) (hn : n = xs.length) (hy : opd C.tb env t2 y = some dy) (hys : srcE C.tb t t2 dy = some ys)
    (hp : (xs.length + ys.length) * nb C.tb u ≤ maxL ∧ xs.length + ys.length ≤ maxL) (hts : i ∈ ts) :
    OpF C o env σ ts (fun d' s' => d' = .t t (.lsl i (xs ++ ys)) ∧ s' = σ.set i (.row u (xs ++ ys).length)) := by
  intro H β a w hr he hd K Qx hK
  have hvx := opd_rel he hx
  have hvy := opd_rel he hy
  subst hxs
  obtain ⟨h2, hlen, news, hrow, hnew⟩ := srcE_rel hC ht hr.base hvy hys
  have hil : i < σ.length := (List.getElem?_eq_some_iff.1 hi).1
  obtain ⟨hx0, hβ⟩ : Rd C.tb H t [a.eval x] (.sl xs) ∧ β[i]? = some (a.eval x) := by
    generalize a.eval x = vx at hvx ⊢
    cases hvx with
    | @t ty v cs z aa bb => cases bb with
      | lsl b1 b2 b3 =>
        have a' := aa
        simp [VC, isAggT, b1] at a'
        subst a'
        obtain ⟨n', k1, k2, k3⟩ := b3
        rw [hi] at k1; cases k1
        exact ⟨b2.cast hC.tab (same_td hsx), k3 hn⟩
  have hrw : RowRel C.tb H w i (a.eval x) u xs.length := by
    have := hr.blk i _ _ hi hβ
    rw [hn] at this
    exact this
  obtain ⟨v', w', H', hrun, hb', hpm, hrd', hrow', hoth, hit, hstp, hsame⟩ := append_core hC (ty := o.type) ht hz hr.base hx0 rfl hrw h2 hlen rfl hnew hrow hp.1 hp.2
  have hex : (execOp a.eval o).run C.P w = .ok (.value v') w' := by
    rw [opdArgs2 ho]
    simp [builtin, hrun]
  have hlenl : (xs ++ ys).length = xs.length + ys.length := by simp
  have hev : Ev H β σ H' (β.set i v') (σ.set i (.row u (xs ++ ys).length)) := by
    have hself : (σ.set i (.row u (xs ++ ys).length))[i]? = some (.row u (xs ++ ys).length) := by simp [hil]
    refine ⟨hpm, fun j ty z hj => ?_, fun j ety m hj => ?_, fun j s p hj => ?_, fun j ety oo zs hj => ?_, fun j k9 e9 zs hj => ?_⟩
    · have hne : i ≠ j := fun e => by subst e; rw [hi] at hj; cases hj
      exact ⟨List.getElem?_set_ne hne, z, by rw [List.getElem?_set_ne hne]; exact hj⟩
    · by_cases hji : i = j
      · subst hji
        rw [hi] at hj; cases hj
        refine ⟨_, hself, by omega, fun e => ?_⟩
        rw [List.getElem?_set_self (by rw [hr.len]; exact hil), hsame (by omega), hβ]
      · exact ⟨m, by rw [List.getElem?_set_ne hji]; exact hj, Nat.le_refl _, fun _ => List.getElem?_set_ne hji⟩
    · have hne : i ≠ j := fun e => by subst e; rw [hi] at hj; cases hj
      exact ⟨List.getElem?_set_ne hne, s, p, by rw [List.getElem?_set_ne hne]; exact hj⟩
    · have hne : i ≠ j := fun e => by subst e; rw [hi] at hj; cases hj
      exact ⟨oo, zs, by rw [List.getElem?_set_ne hne]; exact hj, Nat.le_refl _, fun _ => List.getElem?_set_ne hne⟩
    · have hne : i ≠ j := fun e => by subst e; rw [hi] at hj; cases hj
      exact ⟨List.getElem?_set_ne hne, zs, by rw [List.getElem?_set_ne hne]; exact hj⟩
  have hrel : Rel C.tb H' (β.set i v') (σ.set i (.row u (xs ++ ys).length)) w' := by
    refine ⟨hb'.pers, hb'.dom, by simp [hr.len], fun j k bv hk hv => ?_⟩
    by_cases hji : i = j
    · subst hji
      rw [List.getElem?_set_self hil] at hk
      rw [List.getElem?_set_self (by rw [hr.len]; exact hil)] at hv
      cases hk; cases hv
      rw [hlenl]
      exact hrow'
    · rw [List.getElem?_set_ne hji] at hk hv
      exact (hr.blk j k bv hk hv).mono hev (fun b o h => have q := hoth b o j h (fun e => hji e.symm); ⟨q.1, q.2.1, fun _ _ => q.2.2.1, q.2.2.2⟩) (fun b x h ho hh => hit b x j h (fun e => hji e.symm) ho hh)
  simp only [Oper.wp, hex, Oper.upon]
  refine hK v' _ w' H' _ _ ⟨rfl, rfl⟩ hrel ?_ hstp hev (.of hr.dom hstp fun b o j hj hn => have q := hoth b o j hj (fun e => hn (e ▸ hts)); ⟨q.1, q.2.1⟩)
  refine .t (cs := [v']) (by simp [VC, isAggT, ht]) (.lsl ht hrd' ⟨_, by simp [hil], Nat.le_refl _, fun _ => by simp [hr.len, hil]⟩)

theorem OpF_buildSlice {t u : TypeId} {len : Nat} {ps : Array (Nat × Operand)} {ys : List E} (ho : o.op = .buildSlice t len ps) (ht : td C.tb t = .sl u) (hz : plain C.tb zf u = true)
    (hys : denseE C.tb env u 0 ps.toList = some ys) (hl : ys.length = len) (hb : len * sz C.tb u ≤ 16777216) (hlm : len ≤ maxN) : OpF C o env σ ts (fun d' s' => d' = .t t (.bsl ys) ∧ s' = σ) := by
  intro H β a w hr he hd K Qx hK
  have hu := plain_ne hz
  have hlt := hC.tab.lt_of_td hu
  obtain ⟨z, hzr, hzc⟩ := hC.zero.get hC.tab hz w
  have hmap : (ps.map fun (i, x) => (i, a.eval x)).toList = ps.toList.map fun p => (p.1, a.eval p.2) := by simp
  have key : ∀ Z : Array Value, Z.size = len * sz C.tb u → ∃ cs, Instr.fill (fun i => some (i * sz C.tb u, sz C.tb u)) Z (ps.map fun (i, x) => (i, a.eval x)).toList = some cs.toArray ∧ RowC C.tb H u cs ys := fun Z hZ => by
    obtain ⟨cs, k1, k2⟩ := fill_dense hC he ps.toList ys 0 [] Z.toList hys (by simp) (by rw [hl]; simpa using hZ)
    exact ⟨cs, by rw [hmap]; simpa using k1, k2⟩
  have hnb : ¬ (len * sz C.tb u > 2 ^ 24) := by omega
  have hrun : ∃ cs, RowC C.tb H u cs ys ∧ (execOp a.eval o).run C.P w = .ok (.value (.slice (some ⟨w.heap.size, 0, none⟩) len len)) (w.alloc (.cells cs.toArray u)) := by
    simp only [execOp, ho, Instr.buildSlice, Sem.run_bind, run_underlying_of hC.tab (hC.tab.sl ht), Result.andThen, run_sizeOf_of hC.tab hlt, if_neg hnb, Sem.run_pure]
    by_cases h0 : len * sz C.tb u = 0
    · obtain ⟨cs, k1, k2⟩ := key #[] (by simp [h0])
      refine ⟨cs, k2, ?_⟩
      have h00 : Array.range 0 = #[] := rfl
      simp only [h0, if_true, Sem.run_pure, h00, Array.map_empty, k1]
      simp [newRow]
    · obtain ⟨cs, k1, k2⟩ := key ((Array.range (len * sz C.tb u)).map fun j => z.cells[j % z.cells.size]!) (by simp)
      refine ⟨cs, k2, ?_⟩
      simp only [if_neg h0, Sem.run_bind, hzr, Result.andThen, Sem.run_pure, k1]
      simp [newRow]
  obtain ⟨cs, k2, hrun⟩ := hrun
  let f : Nat → Own := fun o => if o < cs.length then .pers (cs.getD o undef) else .none
  have r := hr.alloc (.cells cs.toArray u) f [] [] rfl (fun o v hv => by
      have hv' : (if o < cs.length then Own.pers (cs.getD o undef) else .none) = .pers v := hv
      split at hv'
      · rename_i h; cases hv'
        rw [World.cell?_alloc_new]; simp only [List.getElem?_toArray, List.getD, List.getElem?_eq_getElem h, Option.getD_some]
      · cases hv') (fun i k bv hk => by simp at hk)
  simp only [List.append_nil] at r
  simp only [Oper.wp, hrun, Oper.upon]
  refine hK _ _ _ _ β σ ⟨rfl, rfl⟩ r.1 ?_ (Stp.alloc hr.dom _ _) r.2 (.alloc hr.dom _ _)
  have hpm := r.2.pers
  have hnag : isAggT C.tb t = false := by simp [isAggT, ht]
  refine .t (cs := [.slice (some ⟨w.heap.size, 0, none⟩) len len]) (by simp [VC, hnag]) ?_
  rw [← hl]
  refine .bsl ht ?_
  refine .sl (cs := cs) ht k2.len (fun j v hj => ?_) (fun i x hx => (k2.el i x hx).mono hpm) (Nat.le_refl _) (by rw [hl]; exact hlm)
  have hjl := (List.getElem?_eq_some_iff.1 hj).1
  rw [Nat.zero_add, hAlloc_new]
  show (if j < cs.length then Own.pers (cs.getD j undef) else .none) = _
  rw [if_pos hjl]; simp [List.getD, hj]

end
section
variable {C : Cx} (hC : Ok C) {o : Oper} {env : Env} {σ : List Blk} {ts : List Nat}
include hC
theorem dStore_okF {t s x} {r : DR} (ho : o.op = .store t (.tmp s) x) (h : dStore C env σ t s x = some r) (hts : ∀ i p, getD env s = .ptr i p → i ∈ ts) : OpF C o env σ ts (fun d s => d = r.d ∧ s = r.s) := by
  unfold dStore at h
  split at h
  · rename_i i p hs
    split at h
    · rename_i ty X hi
      split at h
      · rename_i ht
        split at h
        · rename_i d hd
          split at h
          · rename_i y hy; rw [setK_eq] at h; cases h; exact OpF_store hC ho hs hi ht hd hy (hts i p hs)
          · cases h
        · cases h
      · cases h
    · cases h
  · cases h
def apT (C : Cx) (env : Env) (σ : List Blk) (t : TypeId) (x : Operand) : Nat := match opd C.tb env t x with
  | some (.t _ (.lsl i _)) => i
  | _ => σ.length
theorem dAppend_okF {t t2 x y} {r : DR} (ho : o.op = .call { callee := .builtin .append, args := #[x, y], argTypes := #[t, t2] }) (h : dAppend C env σ t t2 x y = some r) (hp : r.p) (hts : apT C env σ t x ∈ ts) : OpF C o env σ ts (fun d s => d = r.d ∧ s = r.s) := by
  unfold dAppend at h
  split at h
  · rename_i u ht
    split at h
    · rename_i hz
      split at h
      · rename_i dx hx
        unfold apT at hts
        rw [hx] at hts
        split at h
        · rename_i dy hy
          split at h
          · rename_i ys hys
            split at h
            · rename_i xs hxs
              split at h
              · rename_i hsm
                rw [litK_eq, appK_eq] at h; cases h
                have hl : σ.length ∈ ts := by
                  revert hts
                  split
                  · rename_i i xs e; cases e; simp [freshE] at hxs
                  · exact id
                exact OpF_appendNew hC ho ht hz hx hxs hsm hy hys hp hl
              · cases h
            · split at h
              · split at h
                · rename_i hsm
                  split at h
                  · rename_i u' n hi
                    split at h
                    · rename_i hu
                      have hu := Nat.eq_of_beq_eq_true hu
                      subst hu
                      rw [setK_eq] at h; cases h; exact OpF_appendRow hC ho ht hz hx rfl hsm hi hp.1 hy hys hp.2 hts
                    · cases h
                  · cases h
                · cases h
              · cases h
          · cases h
        · cases h
      · cases h
    · cases h
  · cases h
def dLit (C : Cx) (env : Env) (σ : List Blk) (t : TypeId) (len : Nat) (ps : List (Nat × Operand)) : Option DR := match td C.tb t with
    | .sl u => match plain C.tb zf u with
      | true => match denseE C.tb env u 0 ps with
        | some ys => match Nat.beq ys.length len with
          | true => match Nat.ble (len * sz C.tb u) 16777216 && Nat.ble len 1000000 with
            | true => some ⟨True, .t t (.bsl ys), σ⟩
            | false => none
          | false => none
        | none => none
      | false => none
    | _ => none
theorem dLit_okF {t len} {ps : Array (Nat × Operand)} {r : DR} (ho : o.op = .buildSlice t len ps) (h : dLit C env σ t len ps.toList = some r) : OpF C o env σ ts (fun d s => d = r.d ∧ s = r.s) := by
  unfold dLit at h
  split at h
  · rename_i u ht
    split at h
    · rename_i hz
      split at h
      · rename_i ys hys
        split at h
        · rename_i hl
          split at h
          · rename_i hb
            simp only [Bool.and_eq_true] at hb
            have h1 := Nat.le_of_ble_eq_true hb.1
            have h2 := Nat.le_of_ble_eq_true hb.2
            cases h; exact OpF_buildSlice hC ho ht hz hys (Nat.eq_of_beq_eq_true hl) h1 (by unfold maxN; omega)
          · cases h
        · cases h
      · cases h
    · cases h
  · cases h
end
section
variable {C : Cx} {env : Env} {σ : List Blk} {Q : Post}
/-- A store in a region that draws. -/
theorem VX_storeO (hC : Ok C) {k : List It} {full : List Oper} {ts : List Nat} {i : Nat} {ord : List (Nat × Bool)} {o : Oper} {t : TypeId} {s j : Nat} {p : List Nat} {x : Operand} {d : D} {σ' : List Blk} {pp : Prop}
    (hi : full[i]? = some o) (hw : wants full env o = some true) (hn : dstOk C.n o.dst = true) (ho : o.op = .store t (.tmp s) x)
    (h : dStore C env σ t s x = some ⟨pp, d, σ'⟩) (hs : getD env s = .ptr j p) (hts : j ∈ ts)
    (hk : VX C Q (.o full ts ord :: k) .nrm (putD env o.dst d) σ') (hal : aloneB full ((i, false) :: ord) = true := by kernel_rfl) : VX C Q (.o full ts ((i, false) :: ord) :: k) .nrm env σ :=
  VX_opO hi hw hn (dStore_okF hC ho h fun i p e => by rw [hs] at e; cases e; exact hts) (fun d1 s1 ⟨a1, a2⟩ => by subst a1; subst a2; exact hk) hal
theorem VX_appendO (hC : Ok C) {k : List It} {full : List Oper} {ts : List Nat} {i : Nat} {ord : List (Nat × Bool)} {o : Oper} {t t2 : TypeId} {x y : Operand} {d : D} {σ' : List Blk} {pp : Prop}
    (hi : full[i]? = some o) (hw : wants full env o = some true) (hn : dstOk C.n o.dst = true) (ho : o.op = .call { callee := .builtin .append, args := #[x, y], argTypes := #[t, t2] })
    (h : dAppend C env σ t t2 x y = some ⟨pp, d, σ'⟩) (hp : pp) (hts : ts.contains (apT C env σ t x) = true)
    (hk : VX C Q (.o full ts ord :: k) .nrm (putD env o.dst d) σ') (hal : aloneB full ((i, false) :: ord) = true := by kernel_rfl) : VX C Q (.o full ts ((i, false) :: ord) :: k) .nrm env σ :=
  VX_opO hi hw hn (dAppend_okF hC ho h hp (by simpa using hts)) (fun d1 s1 ⟨a1, a2⟩ => by subst a1; subst a2; exact hk) hal
theorem VX_litO (hC : Ok C) {k : List It} {full : List Oper} {ts : List Nat} {i : Nat} {ord : List (Nat × Bool)} {o : Oper} {t : TypeId} {len : Nat} {ps : Array (Nat × Operand)} {d : D} {σ' : List Blk} {pp : Prop}
    (hi : full[i]? = some o) (hw : wants full env o = some true) (hn : dstOk C.n o.dst = true) (ho : o.op = .buildSlice t len ps)
    (h : dLit C env σ t len ps.toList = some ⟨pp, d, σ'⟩)
    (hk : VX C Q (.o full ts ord :: k) .nrm (putD env o.dst d) σ') (hal : aloneB full ((i, false) :: ord) = true := by kernel_rfl) : VX C Q (.o full ts ((i, false) :: ord) :: k) .nrm env σ :=
  VX_opO hi hw hn (dLit_okF hC ho h) (fun d1 s1 ⟨a1, a2⟩ => by subst a1; subst a2; exact hk) hal
end
end Go.Den
/- Variables of the package; places in rows that are written. -/
namespace Go.Den
open Go
set_option linter.unusedSectionVars false
set_option linter.unusedSimpArgs false
set_option linter.unusedVariables false

section
variable {C : Cx} (hC : Ok C) {o : Oper} {env : Env} {σ : List Blk}
include hC

/-- A load from what stands for good, of any operand. -/
theorem Ok_loadX {t : TypeId} {x : Operand} {pt : TypeId} {j : Nat} {u : TypeId} {xs : List E} {p : List Nat} (ho : o.op = .load t x) (hs : opd C.tb env pt x = some (.el u xs j p))
    (ht : same C.tb (tyAt C.tb u p) t = true) : OpOk C o env σ ⟨True, .t t (.e (getE p (xs.getD j .nilp))), σ⟩ :=
  OpOk_val fun H β a w hr he => by
    have hv := opd_rel he hs
    generalize hx : a.eval x = vx at hv
    cases hv with
    | @el u b off cs xs j p o' vt h1 h2 h3 h4 h5 =>
      rw [tyAt_of h5] at ht
      have ht' := same_td ht
      have hel := h3 j xs[j] (List.getElem?_eq_getElem h4)
      have hpart := (hel.part hC.tab h5).cast hC.tab ht'
      have hle := offT_le hC.tab h5
      have hin : j * sz C.tb u + sz C.tb u ≤ cs.length := by
        rw [h1]; have := Nat.mul_le_mul_right (sz C.tb u) (show j + 1 ≤ xs.length from h4); rwa [Nat.add_mul, Nat.one_mul] at this
      rw [seg_seg hle] at hpart
      obtain ⟨v, hrun, hvc⟩ := run_loadVar_all hC.tab (P := C.P) (b := b) (o := off + (j * sz C.tb u + o')) (hpart.len hC.tab) hpart.td_ne
      refine ⟨v, fun w' hw' => ?_, ?_⟩
      have hrun := hrun w' (fun i v hi => by
        have hil : i < sz C.tb vt := by
          rcases Nat.lt_or_ge i (sz C.tb vt) with h | h
          · exact h
          · rw [List.getElem?_eq_none (by simp [seg]; omega)] at hi; cases hi
        rw [seg_get hil] at hi
        have := hw' _ _ _ (hr.pers _ _ _ (h2 _ v hi)) (.inl ⟨_, h2 _ v hi⟩)
        rwa [← Nat.add_assoc] at this)
      · simp [execOp, ho, hx, Instr.loadAt, Instr.sureAddr, hrun]
      · have hg : xs.getD j .nilp = xs[j] := by simp [h4]
        rw [hg]
        exact .t hvc (.e hpart)

/-- A place in an array that stands for good. -/
theorem Ok_indexAddrX {t n j : Nat} {u v pt : TypeId} {xs : List E} {p : List Nat} {x ix : Operand} {iv : Int} (ho : o.op = .indexAddr t x ix) (hs : opd C.tb env pt x = some (.el u xs j p))
    (ht : td C.tb t = .arr n v) (hty : td C.tb (tyAt C.tb u p) = .arr n v) (hz : sz C.tb v ≠ 0) (hx : opdN env ix = some iv) (h0 : 0 ≤ iv) (h1 : iv < n) : OpOk C o env σ ⟨True, .el u xs j (p ++ [iv.toNat]), σ⟩ :=
  OpOk_val fun H β a w hr he => by
    have hv := opd_rel he hs
    generalize hve : a.eval x = vx at hv
    obtain ⟨k, hk⟩ := opdN_rel he hx
    cases hv with
    | @el u b off cs xs j p o' vt g1 g2 g3 g4 g5 =>
      rw [tyAt_of g5] at hty
      have := DRel.el (tb := C.tb) (H := H) (β := β) (σ := σ) g1 g2 g3 g4 (path := p ++ [iv.toNat]) (o := o' + iv.toNat * sz C.tb v) (v := v) (offT_snoc g5 (by simp [offT, hty]; omega))
      refine ⟨_, fun w' hw' => ?_, this⟩
      simp [execOp, ho, hve, hk, Instr.indexAt, asIntOf, run_underlying_of hC.tab (hC.tab.arr ht), Instr.sureAddr, h0, h1, run_sizeOf_of hC.tab (lt_of_sz hC hz), add_plain, Nat.add_assoc]

theorem msl_val {H : Gh} {β : List Value} {w : World} {ty u : TypeId} {i n : Nat} {ow : Bool} {xs : List E} {v : Value} (hr : Rel C.tb H β σ w) (hv : DRel C.tb H β σ v (.t ty (.msl i n))) (hi : σ[i]? = some (.mrow u ow xs)) (hn : n = xs.length) : β[i]? = some v := by
  cases hv with
  | @t ty v cs z aa bb => cases bb with
    | msl b1 b2 b3 =>
      have a' := aa
      simp [VC, isAggT, b1] at a'
      subst a'
      obtain ⟨ow, xs', k1, k2, k3⟩ := b3
      rw [hi] at k1; cases k1
      exact k3 hn

/-- A place in a row that is written. -/
theorem Ok_indexAddrM {t s i n : Nat} {u ty : TypeId} {xs : List E} {ix : Operand} {iv : Int} (ho : o.op = .indexAddr t (.tmp s) ix) (hs : getD env s = .t ty (.msl i n)) (hi : σ[i]? = some (.mrow u true xs)) (hn : n = xs.length)
    (ht : td C.tb t = .sl u) (hz : sz C.tb u ≠ 0) (hx : opdN env ix = some iv) (h0 : 0 ≤ iv) (h1 : iv < n) : OpOk C o env σ ⟨True, .mel u i n iv.toNat [], σ⟩ :=
  OpOk_val fun H β a w hr he => by
    have hv := he.get s
    rw [hs] at hv
    have hβ := msl_val hC hr hv hi hn
    obtain ⟨k, hk⟩ := opdN_rel he hx
    have hM : MRel C.tb H w i (a.tmps.getD s undef) u true xs := hr.blk i _ _ hi hβ
    rcases hM with ⟨a0, e0, e1, _⟩ | ⟨b, c, cs, zs, e1, e2, e3, e4, e5, e6, e7⟩
    · rw [e1] at hn; simp at hn; omega
    · have hve : a.eval (.tmp s) = .slice (some ⟨b, 0, none⟩) xs.length c := e1
      refine ⟨.pointer (some ⟨b, iv.toNat * sz C.tb u, none⟩), fun w' hw' => ?_, .mel (o := 0) (v := u) rfl ⟨true, xs, hi, by omega, fun _ _ => ⟨b, c, by rw [hβ, e1, hn], by simp⟩⟩⟩
      have h1' : iv < (xs.length : Int) := by omega
      simp [execOp, ho, hve, hk, Instr.indexAt, asIntOf, run_underlying_of hC.tab (hC.tab.sl ht), h0, h1', run_sizeOf_of hC.tab (lt_of_sz hC hz), add_plain]

/-- A load out of a row that is written. -/
theorem Ok_loadM {t : TypeId} {s i n j : Nat} {u : TypeId} {xs : List E} {p : List Nat} (ho : o.op = .load t (.tmp s)) (hs : getD env s = .mel u i n j p) (hi : σ[i]? = some (.mrow u true xs)) (hn : n = xs.length) (hj : j < n)
    (ht : same C.tb (tyAt C.tb u p) t = true) : OpOk C o env σ ⟨True, .t t (.e (getE p (xs.getD j .nilp))), σ⟩ :=
  OpOk_val fun H β a w hr he => by
    have hv := he.get s
    rw [hs] at hv
    generalize hx : a.tmps.getD s undef = vx at hv
    cases hv with
    | @mel u i n j path o' vt pa q1 q2 =>
      obtain ⟨ow, xs', k1, k2, k3⟩ := q2
      rw [hi] at k1; cases k1
      obtain ⟨b, c, h1, h2⟩ := k3 hn hj
      subst h2
      have hM : MRel C.tb H w i _ u true xs := hr.blk i _ _ hi h1
      rcases hM with ⟨a0, e0, e1, _⟩ | ⟨b', c', cs, zs, e1, e2, e3, e4, e5, e6, e7⟩
      · rw [e1] at hn; simp at hn; omega
      · cases e1
        have hjx : j < xs.length := by omega
        rw [tyAt_of q1] at ht
        have ht' := same_td ht
        have hel := e4.el j xs[j] (List.getElem?_eq_getElem hjx)
        have hpart := (hel.part hC.tab q1).cast hC.tab ht'
        have hle := offT_le hC.tab q1
        have hin : j * sz C.tb u + sz C.tb u ≤ cs.length := by
          rw [e4.len]; have := Nat.mul_le_mul_right (sz C.tb u) (show j + 1 ≤ xs.length from hjx); rwa [Nat.add_mul, Nat.one_mul] at this
        rw [seg_seg hle] at hpart
        obtain ⟨v, hrun, hvc⟩ := run_loadVar_all hC.tab (P := C.P) (b := b) (o := j * sz C.tb u + o') (hpart.len hC.tab) hpart.td_ne
        refine ⟨v, fun w' hw' => ?_, ?_⟩
        have hrun := hrun w' (fun k v hk => by
          have hkl : k < sz C.tb vt := by
            rcases Nat.lt_or_ge k (sz C.tb vt) with h | h
            · exact h
            · rw [List.getElem?_eq_none (by simp [seg]; omega)] at hk; cases hk
          rw [seg_get hkl] at hk
          have hkc := (List.getElem?_eq_some_iff.1 hk).1
          obtain ⟨g1, g2, g3⟩ := e7 _ v (by rw [List.getElem?_append_left hkc]; exact hk)
          exact hw' _ _ _ g1 (.inr ⟨i, by simp [rsOf, ho, hs], g2⟩))
        · simp [execOp, ho, Act.eval, hx, Instr.loadAt, Instr.sureAddr, hrun]
        · have hg : xs.getD j .nilp = xs[j] := by simp [hjx]
          rw [hg]
          exact .t hvc (.e hpart)

/-- A store into a row that is written. -/
theorem OpF_storeM {t : TypeId} {s i n j : Nat} {u : TypeId} {xs : List E} {x : Operand} {d : D} {y : E} {ts : List Nat} (ho : o.op = .store t (.tmp s) x) (hs : getD env s = .mel u i n j []) (hi : σ[i]? = some (.mrow u true xs)) (hn : n = xs.length) (hj : j < n)
    (ht : same C.tb t u = true) (hx : opd C.tb env t x = some d) (hy : asT C.tb t d = some (.e y)) (hts : i ∈ ts) :
    OpF C o env σ ts (fun d s => d = .any ∧ s = σ.set i (.mrow u true (xs.set j y))) := by
  intro H β a w hr he hd K Qx hK
  have hv := he.get s
  rw [hs] at hv
  generalize hvx : a.tmps.getD s undef = vx at hv
  cases hv with
  | @mel u i n j path o' vt pa q1 q2 =>
    obtain ⟨ow, xs', k1, k2, k3⟩ := q2
    rw [hi] at k1; cases k1
    obtain ⟨b, c, h1, h2⟩ := k3 hn hj
    subst h2
    have ho' : o' = 0 := by simp [offT] at q1; exact q1.1.symm
    subst ho'
    have hM : MRel C.tb H w i _ u true xs := hr.blk i _ _ hi h1
    rcases hM with ⟨a0, e0, e1, _⟩ | ⟨b', c', cs, zs, e1, e2, e3, e4, e5, e6, e7⟩
    · rw [e1] at hn; simp at hn; omega
    · cases e1
      simp only [Nat.add_zero] at hvx
      have hjx : j < xs.length := by omega
      have ht' := same_td ht
      obtain ⟨vs, hvc, hvt⟩ := asT_rel hC (opd_rel he hx) hy
      have hvu := hvt.cast hC.tab ht'
      have hvl := hvu.len hC.tab
      have hin : j * sz C.tb u + sz C.tb u ≤ cs.length := by
        rw [e4.len]; have := Nat.mul_le_mul_right (sz C.tb u) (show j + 1 ≤ xs.length from hjx); rwa [Nat.add_mul, Nat.one_mul] at this
      have hcs : ∀ k, k < vs.length → ∃ v, w.cell? ⟨b, j * sz C.tb u + k, none⟩ = some v ∧ H b (j * sz C.tb u + k) = .mine i ∧ w.frozen? ⟨b, j * sz C.tb u + k, none⟩ = false := fun k hk => by
        have hlt : j * sz C.tb u + k < cs.length := by omega
        exact ⟨_, e7 _ cs[j * sz C.tb u + k] (by rw [List.getElem?_append_left hlt, List.getElem?_eq_getElem hlt])⟩
      have hcells := hvc.cells hvt hC.tab
      have hst := run_storeVar hC (t := t) (b := b) (off := j * sz C.tb u) (w := w) hcells (hvt.len hC.tab) hvt.td_ne (hvt.one hC.tab)
        (fun k hk => by obtain ⟨v, h1, _⟩ := hcs k hk; simp [h1]) (fun k hk => by obtain ⟨v, _, _, h3⟩ := hcs k hk; exact h3)
      have hrun : (execOp a.eval o).run C.P w = .ok .skip (w.setCells b (j * sz C.tb u) vs) := by
        have hve : a.eval (.tmp s) = .pointer (some ⟨b, j * sz C.tb u, none⟩) := hvx
        simp [execOp, ho, hve, Instr.storeAt, Instr.sureAddr, hst]
      have hone : RowC C.tb H u vs [y] := ⟨by simp [hvl], fun k z hk => by
        have hk0 : k = 0 := by have := (List.getElem?_eq_some_iff.1 hk).1; simp at this; omega
        subst hk0
        simp at hk; subst hk
        have : seg vs (0 * sz C.tb u) (sz C.tb u) = vs := by simp [seg, ← hvl]
        rw [this]; exact hvu.rd⟩
      have hset : xs.set j y = putAt xs j [y] := by
        rw [List.set_eq_take_append_cons_drop, if_pos hjx]; simp [putAt]
      have hput := e4.put hone (off := j) (by simp; omega)
      rw [← hset] at hput
      have r := hr.write (i := i) (b := b) (o := j * sz C.tb u) (vs := vs) (fun k hk => by obtain ⟨v, _, h2, _⟩ := hcs k hk; exact h2) (k := .mrow u true (xs.set j y)) h1
        ⟨_, hi, fun _ _ h2 => (by cases h2), fun _ _ h2 => (by cases h2), fun _ _ h2 => (by cases h2), fun _ _ _ h2 => (by cases h2; exact ⟨_, rfl, by simp⟩), fun _ _ _ h2 => (by cases h2)⟩
        (fun hev => by
          refine .inr ⟨b, c, splice cs (j * sz C.tb u) vs, zs, by simp, by simpa using e2, by simpa using e3, hput, by rw [List.length_append, splice_length (by omega), ← List.length_append]; exact e5, fun hz => (shape?_setCells b vs _ w _).trans (e6 hz), fun k v hk => ?_⟩
          have hfz : ∀ q, (w.setCells b (j * sz C.tb u) vs).frozen? ⟨b, q, none⟩ = w.frozen? ⟨b, q, none⟩ := fun q => World.frozen?_setCells b vs _ w _
          by_cases h3 : k < j * sz C.tb u ∨ j * sz C.tb u + vs.length ≤ k
          · have hk' : (cs ++ zs)[k]? = some v := by
              rw [← hk]
              rcases Nat.lt_or_ge k cs.length with hkc | hkc
              · rw [List.getElem?_append_left hkc, List.getElem?_append_left (by rw [splice_length (by omega)]; exact hkc), splice_get (by omega)]
                rcases h3 with h3 | h3
                · rw [if_pos h3]
                · rw [if_neg (by omega), if_neg (by omega)]
              · rw [List.getElem?_append_right hkc, List.getElem?_append_right (by rw [splice_length (by omega)]; exact hkc), splice_length (by omega)]
            obtain ⟨g1, g2, g3⟩ := e7 k v hk'
            exact ⟨by rw [setCells_cell (fun _ => h3)]; exact g1, g2, (hfz _).trans g3⟩
          · have hk1 : j * sz C.tb u ≤ k := by omega
            have hk2 : k < j * sz C.tb u + vs.length := by omega
            rw [List.getElem?_append_left (by rw [splice_length (by omega)]; omega), splice_get (by omega), if_neg (by omega), if_pos hk2] at hk
            obtain ⟨u1, g1, g2, g3⟩ := hcs (k - j * sz C.tb u) (by omega)
            have hidx : j * sz C.tb u + (k - j * sz C.tb u) = k := by omega
            rw [hidx] at g1 g2 g3
            refine ⟨?_, g2, (hfz _).trans g3⟩
            have := World.cell?_setCells_in b vs (j * sz C.tb u) w (fun q hq => by obtain ⟨v, k1, _⟩ := hcs q hq; simp [k1]) (k - j * sz C.tb u) (by omega)
            rw [hidx] at this
            rw [this, ← hk, List.getElem?_eq_getElem (by omega)])
      simp only [Oper.wp, hrun, Oper.upon]
      exact hK _ _ _ H _ _ ⟨rfl, rfl⟩ r.1 .any r.2.2 r.2.1 (Frm.write (fun k hk => by obtain ⟨v, _, h2, _⟩ := hcs k hk; exact h2) hts)
end
end Go.Den
/- The machine, wider: variables of the package, rows that are written. -/
namespace Go.Den
open Go
set_option linter.unusedSectionVars false
set_option linter.unusedSimpArgs false
set_option linter.unusedVariables false

def d4Load (C : Cx) (env : Env) (σ : List Blk) (t : TypeId) (x : Operand) : Option DR := match opd C.tb env t x with
  | some (.el u xs j p) => match same C.tb (tyAt C.tb u p) t with
    | true => some ⟨True, .t t (.e (getE p (xs.getD j .nilp))), σ⟩
    | false => none
  | some (.mel u i n j p) => match x with
    | .tmp s => match σ[i]? with
      | some (.mrow u' true xs) => match Nat.beq u u' with
        | true => match same C.tb (tyAt C.tb u p) t with
          | true => some ⟨n = xs.length ∧ j < n, .t t (.e (getE p (xs.getD j .nilp))), σ⟩
          | false => none
        | false => none
      | _ => none
    | _ => none
  | _ => none
theorem d4Load_ok {C : Cx} (hC : Ok C) {o : Oper} {env : Env} {σ : List Blk} {t x} {r : DR} (ho : o.op = .load t x) (h : d4Load C env σ t x = some r) (hp : r.p) : OpOk C o env σ r := by
  have key : OpOk C o env σ ⟨True, r.d, r.s⟩ → OpOk C o env σ r := fun h => ⟨h.v, h.val⟩
  refine key ?_
  unfold d4Load at h
  split at h
  · rename_i u xs j p hx
    split at h
    · rename_i ht; cases h; exact Ok_loadX hC ho hx ht
    · cases h
  · rename_i u i n j p hx
    split at h
    · rename_i s
      split at h
      · rename_i u' xs hi
        split at h
        · rename_i hu
          have hu := Nat.eq_of_beq_eq_true hu
          subst hu
          split at h
          · rename_i ht
            cases h
            simp only [opd, Option.some.injEq] at hx
            exact Ok_loadM hC ho hx hi hp.1 hp.2 ht
          · cases h
        · cases h
      · cases h
    · cases h
  · cases h

def d4Index (C : Cx) (env : Env) (σ : List Blk) (t : TypeId) (x ix : Operand) : Option DR := match opdN env ix with
  | some iv => match td C.tb t with
    | .arr n v => match opd C.tb env t x with
      | some (.el u xs j p) => match td C.tb (tyAt C.tb u p) == .arr n v with
        | true => match Nat.beq (sz C.tb v) 0 with
          | false => pathK p iv.toNat fun q => some ⟨0 ≤ iv ∧ iv < n, .el u xs j q, σ⟩
          | true => none
        | false => none
      | _ => none
    | .sl u => match x with
      | .tmp s => match getD env s with
        | .t ty (.msl i n) => match σ[i]? with
          | some (.mrow u' true xs) => match Nat.beq u u' with
            | true => match Nat.beq (sz C.tb u) 0 with
              | false => some ⟨n = xs.length ∧ 0 ≤ iv ∧ iv < n, .mel u i n iv.toNat [], σ⟩
              | true => none
            | false => none
          | _ => none
        | _ => none
      | _ => none
    | _ => none
  | none => none
theorem d4Index_ok {C : Cx} (hC : Ok C) {o : Oper} {env : Env} {σ : List Blk} {t x ix} {r : DR} (ho : o.op = .indexAddr t x ix) (h : d4Index C env σ t x ix = some r) (hp : r.p) : OpOk C o env σ r := by
  have key : OpOk C o env σ ⟨True, r.d, r.s⟩ → OpOk C o env σ r := fun h => ⟨h.v, h.val⟩
  refine key ?_
  unfold d4Index pathK at h
  split at h
  · rename_i iv hiv
    split at h
    · rename_i n v ht
      split at h
      · rename_i u xs j p hx
        split at h
        · rename_i hty
          split at h
          · rename_i hz
            rw [appK_eq] at h; cases h
            exact Ok_indexAddrX hC ho hx ht (td_beq hty) (Nat.ne_of_beq_eq_false hz) hiv hp.1 hp.2
          · cases h
        · cases h
      · cases h
    · rename_i u ht
      split at h
      · rename_i s
        split at h
        · rename_i ty i n hs
          split at h
          · rename_i u' xs hi
            split at h
            · rename_i hu
              have hu := Nat.eq_of_beq_eq_true hu
              subst hu
              split at h
              · rename_i hz
                cases h
                exact Ok_indexAddrM hC ho hs hi hp.1 ht (Nat.ne_of_beq_eq_false hz) hiv hp.2.1 hp.2.2
              · cases h
            · cases h
          · cases h
        · cases h
      · cases h
    · cases h
  · cases h

def d4Store (C : Cx) (env : Env) (σ : List Blk) (t : TypeId) (s : Nat) (x : Operand) : Option DR := match getD env s with
  | .mel u i n j p => match p with
    | [] => match σ[i]? with
      | some (.mrow u' true xs) => match Nat.beq u u' with
        | true => match same C.tb t u with
          | true => match opd C.tb env t x with
            | some d => match asT C.tb t d with
              | some (.e y) => setK σ i (.mrow u true (xs.set j y)) fun σ' => some ⟨n = xs.length ∧ j < n, .any, σ'⟩
              | _ => none
            | none => none
          | false => none
        | false => none
      | _ => none
    | _ => none
  | _ => none
theorem d4Store_okF {C : Cx} (hC : Ok C) {o : Oper} {env : Env} {σ : List Blk} {t s x} {r : DR} {ts : List Nat} (ho : o.op = .store t (.tmp s) x) (h : d4Store C env σ t s x = some r) (hp : r.p) (hts : ∀ u i n j p, getD env s = .mel u i n j p → i ∈ ts) :
    OpF C o env σ ts (fun d s => d = r.d ∧ s = r.s) := by
  unfold d4Store at h
  split at h
  · rename_i u i n j p hs
    split at h
    · split at h
      · rename_i u' xs hi
        split at h
        · rename_i hu
          have hu := Nat.eq_of_beq_eq_true hu
          subst hu
          split at h
          · rename_i ht
            split at h
            · rename_i d hx
              split at h
              · rename_i y hy
                rw [setK_eq] at h; cases h
                exact OpF_storeM hC ho hs hi hp.1 hp.2 ht hx hy (hts _ _ _ _ _ hs)
              · cases h
            · cases h
          · cases h
        · cases h
      · cases h
    · cases h
  · cases h
theorem d4Store_ok {C : Cx} (hC : Ok C) {o : Oper} {env : Env} {σ : List Blk} {t s x} {r : DR} (ho : o.op = .store t (.tmp s) x) (h : d4Store C env σ t s x = some r) (hp : r.p) : OpOk C o env σ r := by
  have := d4Store_okF (ts := match getD env s with | .mel _ i _ _ _ => [i] | _ => []) hC ho h hp (fun u i n j p e => by rw [e]; simp)
  exact ⟨this.v, fun e => by simp [isVal, ho] at e⟩

def dop4 (eqs : List TypeId) (C : Cx) (env : Env) (σ : List Blk) (o : Oper) : Option DR := match dop3 eqs C env σ o with
  | some r => some r
  | none => match o.op with
    | .load t x => d4Load C env σ t x
    | .indexAddr t x ix => d4Index C env σ t x ix
    | .store t (.tmp s) x => d4Store C env σ t s x
    | _ => none
theorem dop4_ok {eqs : List TypeId} {C : Cx} (hC : Ok C) (he : eqTys C.P C.tb eqs) {env : Env} {σ : List Blk} {o : Oper} {r : DR} (h : dop4 eqs C env σ o = some r) (hp : r.p) : OpOk C o env σ r := by
  unfold dop4 at h
  split at h
  · rename_i r' h2; cases h; exact dop3_ok hC he h2 hp
  · split at h
    · rename_i ho; exact d4Load_ok hC ho h hp
    · rename_i ho; exact d4Index_ok hC ho h hp
    · rename_i ho; exact d4Store_ok hC ho h hp
    · cases h

def kit4 (eqs : List TypeId) (bk : List Nat) (fs : List (FuncId × Kon)) : Kit := ⟨bk, dop4 eqs, fs⟩
theorem kit4_ok {P : Program} {tb : Tab} {eqs : List TypeId} {fs : List (FuncId × Kon)} (he : eqTys P tb eqs) (bk : List Nat) (h : kok P tb fs) : KitOk P tb (kit4 eqs bk fs) :=
  ⟨fun C hP hT hC env σ o r h hp => dop4_ok hC (by rw [hP, hT]; exact he) h hp, h⟩
section
variable {C : Cx} {env : Env} {σ : List Blk} {Q : Post}
/-- Runs on, with the wider function. -/
theorem VX_go4 (hC : Ok C) {eqs : List TypeId} (he : eqTys C.P C.tb eqs) {fs : List (FuncId × Kon)} (hk : kok C.P C.tb fs) (n : Nat) (bk : List Nat) {k k' : List It} {e e' : Env} {s s' : List Blk} {x : X} {ps : List Prop} (h : run (kit4 eqs bk fs) C n [] k e s = ⟨ps, k', x, e', s'⟩) (hp : allP ps)
    (hv : VX C Q k' x e' s') : VX C Q k .nrm e s := VX_run n (kit4_ok he bk hk) hC h hp hv
/-- A store into a row in a region that draws. -/
theorem VX_storeMO (hC : Ok C) {k : List It} {full : List Oper} {ts : List Nat} {i : Nat} {ord : List (Nat × Bool)} {o : Oper} {t : TypeId} {s u b n j : Nat} {p : List Nat} {x : Operand} {d : D} {σ' : List Blk} {pp : Prop}
    (hi : full[i]? = some o) (hw : wants full env o = some true) (hn : dstOk C.n o.dst = true) (ho : o.op = .store t (.tmp s) x)
    (h : d4Store C env σ t s x = some ⟨pp, d, σ'⟩) (hp : pp) (hs : getD env s = .mel u b n j p) (hts : b ∈ ts)
    (hk : VX C Q (.o full ts ord :: k) .nrm (putD env o.dst d) σ') (hal : aloneB full ((i, false) :: ord) = true := by kernel_rfl) : VX C Q (.o full ts ((i, false) :: ord) :: k) .nrm env σ :=
  VX_opO hi hw hn (d4Store_okF hC ho h hp fun u i n j p e => by rw [hs] at e; cases e; exact hts) (fun d1 s1 ⟨a1, a2⟩ => by subst a1; subst a2; exact hk) hal
end
end Go.Den
/- An append to an empty list that is written to afterwards. -/
namespace Go.Den
open Go
set_option linter.unusedSectionVars false
set_option linter.unusedSimpArgs false
set_option linter.unusedVariables false
section
variable {C : Cx} {o : Oper} {env : Env} {σ : List Blk}
theorem OpV_appendNewM (hC : Ok C) {x y : Operand} {t t2 u tx : TypeId} {ys : List E} (ho : o.op = .call { callee := .builtin .append, args := #[x, y], argTypes := #[t, t2] }) (ht : td C.tb t = .sl u) (hz : plain C.tb zf u = true) (hs0 : Nat.beq (sz C.tb u) 0 = false)
    (hx : opd C.tb env t x = some (.t tx (.bsl []))) (hys : SrcAt C env σ t t2 y ys) (hne : 0 < ys.length) (hp : ys.length * nb C.tb u ≤ maxL ∧ ys.length ≤ maxL) :
    OpV C o env σ (fun d s => d = .t t (.msl σ.length ys.length) ∧ s = σ ++ [.mrow u true ys]) := by
  intro H β a w hr he hd K Qx hK
  have hs0' : sz C.tb u ≠ 0 := Nat.ne_of_beq_eq_false hs0
  have hvx := opd_rel he hx
  obtain ⟨h2, hlx, news, hnr, hnew⟩ := hys H β a w u ht hr he
  have hv0 : ∃ b off, a.eval x = .slice (some ⟨b, off, none⟩) 0 0 := by
    generalize a.eval x = vx at hvx ⊢
    cases hvx with
    | @t ty v cs z aa bb => cases bb with
      | @bsl t0 u0 b off xs b1 b2 =>
        have a' := aa
        simp [VC, isAggT, b1] at a'
        exact ⟨b, off, a'.symm⟩
  obtain ⟨b0, off0, hv0⟩ := hv0
  have hnews : ∀ w', (∀ b o v, w.cell? ⟨b, o, none⟩ = some v → w'.cell? ⟨b, o, none⟩ = some v) → (Builtin.firstCells (sz C.tb u) ys.length (a.eval y)).run C.P w' = .ok news.toArray w' := fun w' h => by
    have := hnew ys.length (Nat.le_refl _) w' h
    rwa [← hnr.len, List.take_length] at this
  have hrun := run_append_any hC (ty := o.type) ht hz (ba := some ⟨b0, off0, none⟩) (n := 0) (cap := 0) (m := ys.length) (x := a.eval y) (olds := []) (news := news) (w := w) h2 hlx (fun _ _ => trivial) hnews (by simp)
    (fun b off ha j v hj => by simp at hj) (fun ha => by cases ha) (fun aa haa => by cases haa; rfl) hnr.len (hnr.one hC.tab) (fun hr => by omega) (by simpa using hp.1) (by simpa using hp.2)
  rcases hrun with ⟨h, _⟩ | ⟨_, nc, zs, h1, hzl, hrun⟩
  · omega
  simp only [Nat.zero_add, List.nil_append] at h1 hzl hrun
  let ob : Obj := .cells (news ++ zs).toArray u
  have hlen : (news ++ zs).length = nc * sz C.tb u := by
    rw [List.length_append, hnr.len, hzl, ← Nat.add_mul]; congr 1; omega
  let f : Nat → Own := fun o => if o < (news ++ zs).length then .mine σ.length else .none
  obtain ⟨hr2, hev⟩ := hr.drew.alloc ob f [.slice (some ⟨w.heap.size, 0, none⟩) ys.length nc] [.mrow u true ys] rfl (fun o v hv => by
      have hv' : (if o < (news ++ zs).length then Own.mine σ.length else .none) = .pers v := hv
      split at hv' <;> cases hv') (fun i k bv hk hv => by
    have hi : i = 0 := by have := (List.getElem?_eq_some_iff.1 hk).1; simp at this; omega
    subst hi
    simp at hk hv; subst hk; subst hv
    refine .inr ⟨w.heap.size, nc, news, zs, rfl, ⟨h1, by omega⟩, maxL_N hp.2, ?_, hlen, fun _ => ?_, fun j v hj => ?_⟩
    · refine ⟨hnr.len, fun i x hx => (hnr.el i x hx).mono fun b o v hb => ?_⟩
      have := hr.dom b o (by rw [hb]; simp)
      show hAlloc H w.heap.size f b o = _
      rw [hAlloc_old (by omega)]; exact hb
    · show (w.drew.alloc ob).shape? w.drew.heap.size = _
      rw [shape?_alloc_new]; simp only [List.size_toArray, hlen]
    · have hjl : j < (news ++ zs).length := (List.getElem?_eq_some_iff.1 hj).1
      refine ⟨?_, ?_, ?_⟩
      · have := World.cell?_alloc_new w.drew (news ++ zs).toArray u j
        show (w.drew.alloc ob).cell? ⟨w.drew.heap.size, j, none⟩ = _
        rw [this]; simpa using hj
      · show hAlloc H w.heap.size f w.heap.size j = _
        rw [hAlloc_new]; show (if j < (news ++ zs).length then Own.mine σ.length else .none) = _
        rw [if_pos hjl]; simp
      · exact World.frozen?_alloc_new w.drew _ _ _)
  have hstp : Stp H w _ (w.drew.alloc ob) := (Stp.drew H w).trans (Stp.alloc (w := w.drew) hr.dom ob f)
  have hex : (execOp a.eval o).run C.P w = .ok (.value (.slice (some ⟨w.heap.size, 0, none⟩) ys.length nc)) (w.drew.alloc ob) := by
    rw [opdArgs2 ho, hv0]
    simp [builtin, hrun, ob]
  simp only [Oper.wp, hex, Oper.upon]
  refine hK _ _ _ _ _ _ ⟨rfl, rfl⟩ hr2 ?_ hstp hev
  refine .t (cs := [.slice (some ⟨w.heap.size, 0, none⟩) ys.length nc]) (by simp [VC, isAggT, ht]) (.msl ht ⟨_, _, rfl, maxL_N hp.2⟩ ⟨true, ys, by simp, Nat.le_refl _, fun _ => by simp [← hr.len]⟩)
end
end Go.Den
