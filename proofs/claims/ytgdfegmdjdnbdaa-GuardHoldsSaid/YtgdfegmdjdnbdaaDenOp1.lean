/- Operations that compute alone. -/
import Derived.Test.YtgdfegmdjdnbdaaDenTab
namespace Go.Den
open Go
set_option linter.unusedSectionVars false
set_option linter.unusedSimpArgs false
set_option linter.unusedVariables false

structure DR where
  p : Prop
  d : D
  s : List Blk

/-- The operations that only reckon, or read. -/
def isVal : Op → Bool
  | .move _ | .assign _ | .pick _ _ _ | .extract _ _ | .binOp _ _ _ _ _ | .unOp _ _ _ | .convert _ _ _ | .slice _ _ _ _ _ | .fieldAddr _ _ _ | .field _ _ _ | .indexAddr _ _ _ | .index _ _ _ | .nilCheck _ | .load _ _ | .build _ _ => true
  | .call c => match c.callee with
    | .builtin .len | .builtin .max | .builtin .min | .builtin .unsafeSliceData => true
    | _ => false
  | _ => false
/-- The blocks that an operation reads. -/
def rsOf (env : Env) : Op → List Nat
  | .load _ (.tmp s) => match getD env s with
    | .ptr i _ => [i]
    | .mel _ i _ _ _ => [i]
    | _ => []
  | .convert _ _ (.tmp s) => match getD env s with
    | .asl i _ _ _ _ => [i]
    | .t _ (.msl i _) => [i]
    | _ => []
  | _ => []
def Stab (rs : List Nat) (H : Gh) (w w' : World) : Prop := ∀ b o u, w.cell? ⟨b, o, none⟩ = some u → ((∃ x, H b o = .pers x) ∨ ∃ i, i ∈ rs ∧ H b o = .mine i) → w'.cell? ⟨b, o, none⟩ = some u
theorem Stab.refl (rs : List Nat) (H : Gh) (w : World) : Stab rs H w w := fun _ _ _ h _ => h
/-- It yields one value, in this world and wherever what it reads stands the same. -/
def OpVal (C : Cx) (o : Oper) (env : Env) (σ : List Blk) (rs : List Nat) (d : D) : Prop :=
  ∀ H β a w, Rel C.tb H β σ w → EnvRel C.tb H β σ C.n a env → ∃ v, (∀ w', Stab rs H w w' → (execOp a.eval o).run C.P w' = .ok (.value v) w') ∧ DRel C.tb H β σ v d

/-- What an operation does. -/
structure OpOk (C : Cx) (o : Oper) (env : Env) (σ : List Blk) (r : DR) : Prop where
  v : OpV C o env σ (fun d s => d = r.d ∧ s = r.s)
  val : isVal o.op = true → OpVal C o env σ (rsOf env o.op) r.d ∧ r.s = σ

section
variable {C : Cx} {o : Oper} {env : Env} {σ : List Blk} {r : DR}

theorem VL_op {ops : Array Oper} {rest : List Oper} {Q : Post} (hg : o.guard = none) (hn : dstOk C.n o.dst = true) (h : OpOk C o env σ r)
    (k : VL C ops rest (putD env o.dst r.d) r.s Q) : VL C ops (o :: rest) env σ Q :=
  VL_cons hg hn h.v fun d s ⟨hd, hs⟩ => by subst hd; subst hs; exact k

theorem OpOk_val {d : D} (h : ∀ H β a w, Rel C.tb H β σ w → EnvRel C.tb H β σ C.n a env → ∃ v, (∀ w', Stab (rsOf env o.op) H w w' → (execOp a.eval o).run C.P w' = .ok (.value v) w') ∧ DRel C.tb H β σ v d) :
    OpOk C o env σ ⟨True, d, σ⟩ := by
  refine ⟨?_, fun _ => ⟨h, rfl⟩⟩
  intro H β a w hr he hd K Qx hK
  obtain ⟨v, hrun, hv⟩ := h H β a w hr he
  simp only [Oper.wp, hrun w (.refl _ _ _), Oper.upon]
  exact hK v d w H β σ ⟨rfl, rfl⟩ hr hv (.refl _ _) (.refl _ _ _)
theorem OpOk_do {r : DR} (hn : isVal o.op = false) (h : OpV C o env σ (fun d s => d = r.d ∧ s = r.s)) : OpOk C o env σ r := ⟨h, fun e => by rw [hn] at e; cases e⟩

/-! ### Operands -/

def inR (k : IntKind) (n : Int) : Bool := match k with
  | .i8 => decide (-128 ≤ n) && decide (n ≤ 127)
  | .i16 => decide (-32768 ≤ n) && decide (n ≤ 32767)
  | .i32 => decide (-2147483648 ≤ n) && decide (n ≤ 2147483647)
  | .i64 => decide (-9223372036854775808 ≤ n) && decide (n ≤ 9223372036854775807)
  | .u8 => decide (0 ≤ n) && decide (n ≤ 255)
  | .u16 => decide (0 ≤ n) && decide (n ≤ 65535)
  | .u32 => decide (0 ≤ n) && decide (n ≤ 4294967295)
  | .u64 => decide (0 ≤ n) && decide (n ≤ 18446744073709551615)

theorem wrap_eq {k : IntKind} {n : Int} : k.wrap n = match k with
    | .i8 => if n % 256 ≥ 128 then n % 256 - 256 else n % 256
    | .i16 => if n % 65536 ≥ 32768 then n % 65536 - 65536 else n % 65536
    | .i32 => if n % 4294967296 ≥ 2147483648 then n % 4294967296 - 4294967296 else n % 4294967296
    | .i64 => if n % 18446744073709551616 ≥ 9223372036854775808 then n % 18446744073709551616 - 18446744073709551616 else n % 18446744073709551616
    | .u8 => n % 256 | .u16 => n % 65536 | .u32 => n % 4294967296 | .u64 => n % 18446744073709551616 := by
  cases k <;> simp [IntKind.wrap, IntKind.signed, IntKind.bits]

theorem inR_wrap {k : IntKind} {n : Int} (h : inR k n = true) : k.wrap n = n := by
  rw [wrap_eq]; cases k <;> simp [inR] at h ⊢ <;> omega
theorem wrap_inR (k : IntKind) (n : Int) : inR k (k.wrap n) = true := by
  rw [wrap_eq]; cases k <;> simp [inR] <;> omega
theorem wrap_wrap (k : IntKind) (n : Int) : k.wrap (k.wrap n) = k.wrap n := inR_wrap (wrap_inR k n)

def constD (tb : Tab) (ty : TypeId) (v : Value) : Option D := match td tb ty, v with
  | .int k, .int k' n => if k = k' ∧ inR k n = true then some (.t ty (.e (.int n))) else none
  | .bool, .bool b => some (.kb ty b)
  | .str, .string ⟨⟨l⟩⟩ => if l.length ≤ 1000000 then some (.t ty (.e (.str l))) else none
  | .ptr _, .pointer none => some (.t ty (.e .nilp))
  | .sl _, .slice none 0 0 => some (.t ty .nsl)
  | .ifc, .nilIface => some (.t ty (.e .nili))
  | .fn, .nilFunc => some (.t ty (.e .nilf))
  | .mp _ _, .map none => some (.t ty (.e .nilm))
  | _, _ => none

def opd (tb : Tab) (env : Env) (ty : TypeId) : Operand → Option D
  | .tmp t => some (getD env t)
  | .const v => constD tb ty v
  | _ => none

theorem DRel.of_rd {tb : Tab} {H β ty v x} (h : Rd tb H ty [v] x) (ha : isAggT tb ty = false) : DRel tb H β σ v (.t ty (.e x)) :=
  .t (cs := [v]) (by simp [VC, ha]) (.e h)

theorem constD_rel {tb : Tab} {H β ty v d} (h : constD tb ty v = some d) : DRel tb H β σ v d := by
  unfold constD at h
  split at h
  · rename_i ht; split at h
    · rename_i hk; cases h; obtain ⟨rfl, hk⟩ := hk; exact .of_rd (.int ht (inR_wrap hk)) (by simp [isAggT, ht])
    · cases h
  · rename_i ht; cases h; exact .kb ht
  · rename_i ht; split at h
    · rename_i hl; cases h; exact .of_rd (.str ht (by unfold maxI; omega)) (by simp [isAggT, ht])
    · cases h
  · rename_i ht; cases h; exact .of_rd (.nilp ht) (by simp [isAggT, ht])
  · rename_i ht; cases h; exact .t (cs := [_]) (by simp [VC, isAggT, ht]) (.nsl ht)
  · rename_i ht; cases h; exact .of_rd (.nili ht) (by simp [isAggT, ht])
  · rename_i ht; cases h; exact .of_rd (.nilf ht) (by simp [isAggT, ht])
  · rename_i ht; cases h; exact .of_rd (.nilm ht) (by simp [isAggT, ht])
  · cases h

theorem opd_rel {H β n a ty x d} {tb : Tab} (he : EnvRel tb H β σ n a env) (h : opd tb env ty x = some d) : DRel tb H β σ (a.eval x) d := by
  cases x with
  | tmp t => simp only [opd, Option.some.injEq] at h; subst h; exact he.get t
  | const v => exact constD_rel h
  | global g => cases h
  | func f => cases h

/-! ### Reading a temporary -/

theorem DRel.single {tb : Tab} {H β v ty x} (h : DRel tb H β σ v (.t ty x)) (ha : isAggT tb ty = false) : TRel tb H β σ ty [v] x := by
  cases h with
  | t a b => have a' := a; simp only [VC, ha, Bool.false_eq_true, if_false] at a'; subst a'; exact b
theorem DRel.aggr {tb : Tab} {H β v ty x} (h : DRel tb H β σ v (.t ty x)) (ha : isAggT tb ty = true) : ∃ cs : List Value, v = .agg cs.toArray ∧ TRel tb H β σ ty cs x := by
  cases h with
  | @t ty v cs x a b => have a' := a; simp only [VC, ha, if_true] at a'; exact ⟨cs, a', b⟩
theorem TRel.rd {tb : Tab} {H β t cs x} (h : TRel tb H β σ t cs (.e x)) : Rd tb H t cs x := by
  cases h with | e a => exact a
/-- The type of what reads as a number, a bool, a text is one of these. -/
theorem DRel.int_inv {tb : Tab} {H β v ty n} (h : DRel tb H β σ v (.t ty (.e (.int n)))) : ∃ k, td tb ty = .int k ∧ v = .int k n ∧ k.wrap n = n := by
  cases h with
  | t a b => cases b with | e r => cases r with
    | int h1 h2 => have a' := a; simp [VC, isAggT, h1] at a'; exact ⟨_, h1, a'.symm, h2⟩
theorem DRel.str_inv {tb : Tab} {H β v ty s} (h : DRel tb H β σ v (.t ty (.e (.str s)))) : v = sv s ∧ (s.length : Int) ≤ maxI ∧ td tb ty = .str := by
  cases h with
  | t a b => cases b with | e r => cases r with
    | str h1 h2 => have a' := a; simp [VC, isAggT, h1] at a'; exact ⟨a'.symm, h2, h1⟩

/-! ### move, assign, pick, extract -/

theorem Ok_move {x : Operand} {d : D} (ho : o.op = .move x ∨ o.op = .assign x) (h : opd C.tb env o.type x = some d) : OpOk C o env σ ⟨True, d, σ⟩ :=
  OpOk_val fun H β a w hr he => ⟨a.eval x, fun w' _ => by rcases ho with ho | ho <;> simp [execOp, ho], opd_rel he h⟩

theorem Ok_pick {c x y : Operand} {b : Bool} {d : D} (ho : o.op = .pick c x y) {dc : D} (hc : opd C.tb env o.type c = some dc) (hcb : boolAny dc = some b)
    (hx : b = true → opd C.tb env o.type x = some d) (hy : b = false → opd C.tb env o.type y = some d) : OpOk C o env σ ⟨True, d, σ⟩ :=
  OpOk_val fun H β a w hr he => by
    have hv := boolAny_rel (opd_rel he hc) hcb
    cases b with
    | true => exact ⟨a.eval x, fun w' _ => by simp [execOp, ho, hv, asBool], opd_rel he (hx rfl)⟩
    | false => exact ⟨a.eval y, fun w' _ => by simp [execOp, ho, hv, asBool], opd_rel he (hy rfl)⟩

theorem Ok_extract {t : Nat} {i : Nat} {ds : List D} {d : D} (ho : o.op = .extract (.tmp t) i) (ht : getD env t = .tup ds) (hd : ds[i]? = some d) : OpOk C o env σ ⟨True, d, σ⟩ :=
  OpOk_val fun H β a w hr he => by
    have hv := he.get t
    rw [ht] at hv
    generalize hx : a.tmps.getD t undef = x at hv
    cases hv with
    | @tup vs ds h1 h2 =>
      have hi : i < vs.size := by rw [h1]; exact (List.getElem?_eq_some_iff.1 hd).1
      refine ⟨vs[i], fun w' _ => ?_, h2 i _ _ (Array.getElem?_eq_getElem hi) hd⟩
      simp only [execOp, ho, Act.eval, hx, Instr.extract]
      simp [Array.getElem?_eq_getElem hi]

/-! ### numbers -/

def intD (d : D) : Option Int := match d with
  | .t _ (.e (.int n)) => some n
  | _ => none
def strD (d : D) : Option (List UInt8) := match d with
  | .t _ (.e (.str s)) => some s
  | _ => none
def boolD (d : D) : Option Bool := match d with
  | .t _ (.e (.bool b)) => some b
  | _ => none
def opdI (env : Env) : Operand → Option Int
  | .tmp t => intD (getD env t)
  | .const (.int _ n) => some n
  | _ => none
/-- A number's operand at its type: the value is of that kind. -/
def isK (tb : Tab) (k : IntKind) : Env → Operand → Bool
  | env, .tmp t => match getD env t with
    | .t ty _ => td tb ty == .int k
    | _ => false
  | _, .const (.int k' _) => k == k'
  | _, _ => false

end
end Go.Den
