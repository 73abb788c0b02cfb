/- Operators, conversions, lengths, elements: the operations. -/
import Derived.Test.YtgdfegmdjdnbdaaDenOp6
namespace Go.Den
open Go
set_option linter.unusedSectionVars false
set_option linter.unusedSimpArgs false
set_option linter.unusedVariables false

section
variable {C : Cx} (hC : Ok C) {o : Oper} {env : Env} {σ : List Blk}

theorem eqGuard_int {P : Program} {op : BinOp} {t x y k k' a b} (w : World) : (eqGuard op t x y (.int k a) (.int k' b)).run P w = .ok () w := by cases op <;> rfl
theorem eqGuard_str {P : Program} {op : BinOp} {t x y a b} (w : World) : (eqGuard op t x y (sv a) (sv b)).run P w = .ok () w := by cases op <;> rfl
theorem eqGuard_bool {P : Program} {op : BinOp} {t x y a b} (w : World) : (eqGuard op t x y (.bool a) (.bool b)).run P w = .ok () w := by cases op <;> rfl

theorem Ok_arith {op : BinOp} {xt yt : TypeId} {x y : Operand} {dx dy : D} {k : IntKind} {a b n : Int} (ho : o.op = .binOp op xt x y yt) (hk : td C.tb xt = .int k) (hr : td C.tb o.type = .int k)
    (hx : opd C.tb env xt x = some dx) (hy : opd C.tb env xt y = some dy) (ha : intAt C.tb xt dx = some a) (hb : intAt C.tb xt dy = some b) (hn : arith k op a b = some n) (hp : arithP op b) :
    OpOk C o env σ ⟨True, .t o.type (.e (.int n)), σ⟩ :=
  OpOk_val fun H β ac w hr' he => by
    obtain ⟨h1, h2⟩ := intAt_rel (opd_rel he hx) ha hk
    obtain ⟨h3, h4⟩ := intAt_rel (opd_rel he hy) hb hk
    refine ⟨.int k n, fun w' hw' => ?_, .mkInt hr (arith_wrap h2 hn)⟩
    simp [execOp, ho, h1, h3, eqGuard_int, arith_run hn hp]
theorem Ok_shift {op : BinOp} {xt yt : TypeId} {x y : Operand} {dx dy : D} {k : IntKind} {a b n : Int} (ho : o.op = .binOp op xt x y yt) (hk : td C.tb xt = .int k) (hr : td C.tb o.type = .int k)
    (hx : opd C.tb env xt x = some dx) (hy : opd C.tb env yt y = some dy) (ha : intAt C.tb xt dx = some a) (hb : intAny dy = some b) (hn : shiftOp k op a b = some n) (hp : arithP op b) :
    OpOk C o env σ ⟨True, .t o.type (.e (.int n)), σ⟩ :=
  OpOk_val fun H β ac w hr' he => by
    obtain ⟨h1, h2⟩ := intAt_rel (opd_rel he hx) ha hk
    obtain ⟨k', h3, h4⟩ := intAny_rel (opd_rel he hy) hb
    refine ⟨.int k n, fun w' hw' => ?_, .mkInt hr (shift_wrap h2 hn)⟩
    simp [execOp, ho, h1, h3, eqGuard_int, shift_run hn hp]
theorem Ok_cmpI {op : BinOp} {xt yt : TypeId} {x y : Operand} {dx dy : D} {k : IntKind} {a b : Int} {c : Bool} (hbt : td C.tb C.bt = .bool) (ho : o.op = .binOp op xt x y yt) (hk : td C.tb xt = .int k)
    (hx : opd C.tb env xt x = some dx) (hy : opd C.tb env xt y = some dy) (ha : intAt C.tb xt dx = some a) (hb : intAt C.tb xt dy = some b) (hn : cmpI op a b = some c) :
    OpOk C o env σ ⟨True, .t C.bt (.e (.bool c)), σ⟩ :=
  OpOk_val fun H β ac w hr' he => by
    obtain ⟨h1, h2⟩ := intAt_rel (opd_rel he hx) ha hk
    obtain ⟨h3, h4⟩ := intAt_rel (opd_rel he hy) hb hk
    refine ⟨.bool c, fun w' hw' => ?_, .mkBool hbt⟩
    simp [execOp, ho, h1, h3, eqGuard_int, cmp_run hn]
theorem Ok_cmpS {op : BinOp} {xt yt : TypeId} {x y : Operand} {dx dy : D} {a b : List UInt8} {c : Bool} (hbt : td C.tb C.bt = .bool) (ho : o.op = .binOp op xt x y yt)
    (hx : opd C.tb env xt x = some dx) (hy : opd C.tb env xt y = some dy) (ha : strAny dx = some a) (hb : strAny dy = some b) (hn : cmpS op a b = some c) :
    OpOk C o env σ ⟨True, .t C.bt (.e (.bool c)), σ⟩ :=
  OpOk_val fun H β ac w hr' he => by
    obtain ⟨h1, h2⟩ := strAny_rel (opd_rel he hx) ha
    obtain ⟨h3, h4⟩ := strAny_rel (opd_rel he hy) hb
    refine ⟨.bool c, fun w' hw' => ?_, .mkBool hbt⟩
    simp [execOp, ho, h1, h3, eqGuard_str, cmpS_run hn]
theorem Ok_addS {xt yt : TypeId} {x y : Operand} {dx dy : D} {a b : List UInt8} (ho : o.op = .binOp .add xt x y yt) (ht : td C.tb o.type = .str)
    (hx : opd C.tb env xt x = some dx) (hy : opd C.tb env xt y = some dy) (ha : strAny dx = some a) (hb : strAny dy = some b) (hp : ((a.length + b.length : Nat) : Int) ≤ maxI) :
    OpOk C o env σ ⟨True, .t o.type (.e (.str (a ++ b))), σ⟩ :=
  OpOk_val fun H β ac w hr' he => by
    obtain ⟨h1, h2⟩ := strAny_rel (opd_rel he hx) ha
    obtain ⟨h3, h4⟩ := strAny_rel (opd_rel he hy) hb
    refine ⟨sv (a ++ b), fun w' hw' => ?_, .mkStr ht (by simpa using hp)⟩
    simp [execOp, ho, h1, h3, eqGuard_str, addS_run hp]

include hC in
theorem Ok_eqB {op : BinOp} {xt yt : TypeId} {x y : Operand} {dx dy : D} {a b : Bool} (ho : o.op = .binOp op xt x y yt) (hop : op = .eql ∨ op = .neq) (hk : td C.tb xt = .bool)
    (hx : opd C.tb env xt x = some dx) (hy : opd C.tb env xt y = some dy) (ha : boolAny dx = some a) (hb : boolAny dy = some b) :
    OpOk C o env σ ⟨True, .t C.bt (.e (.bool (if op = .eql then (a == b) else !(a == b)))), σ⟩ :=
  OpOk_val fun H β ac w hr' he => by
    have h1 := boolAny_rel (opd_rel he hx) ha
    have h3 := boolAny_rel (opd_rel he hy) hb
    refine ⟨_, fun w' hw' => ?_, .mkBool hC.bt⟩
    have hu := run_equalIn_bool' (P := C.P) w' 9999 xt a b (hC.tab.bool hk)
    rcases hop with rfl | rfl
    · simp [execOp, ho, h1, h3, eqGuard_bool, binOp, Op.equal, Op.maxDepth, hu]
    · simp [execOp, ho, h1, h3, eqGuard_bool, binOp, Op.equal, Op.maxDepth, hu]

theorem Ok_not {t : TypeId} {x : Operand} {dx : D} {a : Bool} (hbt : td C.tb C.bt = .bool) (ho : o.op = .unOp .not t x) (hx : opd C.tb env t x = some dx) (ha : boolAny dx = some a) :
    OpOk C o env σ ⟨True, .t C.bt (.e (.bool (!a))), σ⟩ :=
  OpOk_val fun H β ac w hr' he => by
    have h1 := boolAny_rel (opd_rel he hx) ha
    exact ⟨_, fun w' hw' => by simp [execOp, ho, h1, Op.unary], .mkBool hbt⟩
theorem Ok_notK {t : TypeId} {x : Operand} {dx : D} {a : Bool} (hbt : td C.tb C.bt = .bool) (ho : o.op = .unOp .not t x) (hx : opd C.tb env t x = some dx) (ha : boolAny dx = some a) :
    OpOk C o env σ ⟨True, .kb C.bt (!a), σ⟩ :=
  OpOk_val fun H β ac w hr' he => by
    have h1 := boolAny_rel (opd_rel he hx) ha
    exact ⟨_, fun w' hw' => by simp [execOp, ho, h1, Op.unary], .kb hbt⟩
def xorAll (k : IntKind) (n : Int) : Int := bitop .xor k (if k.signed then -1 else k.max) n
theorem Ok_xorU {t : TypeId} {x : Operand} {dx : D} {k : IntKind} {a : Int} (ho : o.op = .unOp .xor t x) (hk : td C.tb t = .int k) (hr : td C.tb o.type = .int k) (hx : opd C.tb env t x = some dx) (ha : intAt C.tb t dx = some a) :
    OpOk C o env σ ⟨True, .t o.type (.e (.int (xorAll k a))), σ⟩ :=
  OpOk_val fun H β ac w hr' he => by
    obtain ⟨h1, h2⟩ := intAt_rel (opd_rel he hx) ha hk
    refine ⟨.int k (xorAll k a), fun w' hw' => ?_, .mkInt hr (wrap_wrap _ _)⟩
    simp [execOp, ho, h1, Op.unary, Op.intBits, xorAll, bitop]
theorem Ok_neg {t : TypeId} {x : Operand} {dx : D} {k : IntKind} {a : Int} (ho : o.op = .unOp .neg t x) (hk : td C.tb t = .int k) (hr : td C.tb o.type = .int k) (hx : opd C.tb env t x = some dx) (ha : intAt C.tb t dx = some a) :
    OpOk C o env σ ⟨True, .t o.type (.e (.int (k.wrap (-a)))), σ⟩ :=
  OpOk_val fun H β ac w hr' he => by
    obtain ⟨h1, h2⟩ := intAt_rel (opd_rel he hx) ha hk
    refine ⟨.int k (k.wrap (-a)), fun w' hw' => ?_, .mkInt hr (wrap_wrap _ _)⟩
    simp [execOp, ho, h1, Op.unary, Op.intArith]

include hC in
theorem Ok_convI {s d : TypeId} {x : Operand} {dx : D} {k k' : IntKind} {a : Int} (ho : o.op = .convert s d x) (hs : td C.tb s = .int k) (hd : td C.tb d = .int k') (hx : opd C.tb env s x = some dx) (ha : intAt C.tb s dx = some a) :
    OpOk C o env σ ⟨True, .t d (.e (.int (k'.wrap a))), σ⟩ :=
  OpOk_val fun H β ac w hr' he => by
    obtain ⟨h1, h2⟩ := intAt_rel (opd_rel he hx) ha hs
    refine ⟨.int k' (k'.wrap a), fun w' hw' => ?_, .mkInt hd (wrap_wrap _ _)⟩
    simp [execOp, ho, h1, convert, run_underlying_of hC.tab (hC.tab.int hs), run_underlying_of hC.tab (hC.tab.int hd), Conv.intToInt]

/-! ### lengths -/
def slLen : D → Option Nat
  | .t _ (.e (.sl xs)) => some xs.length
  | .t _ (.lsl _ xs) => some xs.length
  | .t _ (.bsl xs) => some xs.length
  | .t _ .nsl => some 0
  | .t _ (.msl _ n) => some n
  | .asl _ _ _ _ n => some n
  | _ => none
theorem Rd.sl_inv {tb H t v xs} (h : Rd tb H t [v] (.sl xs)) : ∃ a c u, v = .slice a xs.length c ∧ xs.length ≤ c ∧ xs.length ≤ maxN ∧ td tb t = .sl u := by
  cases h with
  | sl0 a => exact ⟨_, _, _, rfl, Nat.zero_le _, Nat.zero_le _, a⟩
  | sl a b c d e f => exact ⟨_, _, _, rfl, e, f, a⟩
theorem slLen_rel {tb H β v d n} (hv : DRel tb H β σ v d) (h : slLen d = some n) : ∃ a c, v = .slice a n c ∧ n ≤ maxN := by
  have one : ∀ {ty : TypeId} {cs : List Value} {xs : List E}, VC tb ty v cs → Rd tb H ty cs (.sl xs) → ∃ a c, v = .slice a xs.length c ∧ xs.length ≤ maxN := by
    intro ty cs xs hvc hr
    have : ∃ u, td tb ty = .sl u ∧ ∃ x, cs = [x] := by
      cases hr with
      | sl0 a => exact ⟨_, a, _, rfl⟩
      | sl a => exact ⟨_, a, _, rfl⟩
    obtain ⟨u, hu, x, rfl⟩ := this
    have hv' := hvc
    simp [VC, isAggT, hu] at hv'
    subst hv'
    obtain ⟨a, c, _, h1, _, h2, _⟩ := hr.sl_inv
    exact ⟨a, c, h1, h2⟩
  unfold slLen at h
  split at h <;> cases h
  · cases hv with | t a b => exact one a b.rd
  · cases hv with | t a b => cases b with | lsl b1 b2 b3 => exact one a b2
  · cases hv with | t a b => cases b with | bsl b1 b2 => exact one a b2
  · cases hv with
    | t a b => cases b with
      | nsl b1 => have a' := a; simp [VC, isAggT, b1] at a'; exact ⟨_, _, a'.symm, Nat.zero_le _⟩
  · cases hv with
    | t a b => cases b with
      | msl b1 b2 b3 => obtain ⟨q, c, rfl, b4⟩ := b2; have a' := a; simp [VC, isAggT, b1] at a'; exact ⟨_, _, a'.symm, b4⟩
  · cases hv with | asl a b c d e => exact ⟨_, _, rfl, e⟩

theorem opdArg {a : Act} {x : Operand} {b : Builtin} {ts : Array TypeId} (ho : o.op = .call { callee := .builtin b, args := #[x], argTypes := ts }) {P : Program} {w : World} :
    (execOp a.eval o).run P w = (builtin b ts o.type (#[x].map fun | .const _ => true | _ => false) #[a.eval x]).run P w := by
  simp [execOp, ho, resolve, invoke]
  rfl

theorem range64 {n : Nat} (h : n ≤ maxN) : IntKind.wrap .i64 (n : Int) = n := inR_wrap (by simp [inR, maxN] at *; omega)
theorem range64s {n : Nat} (h : (n : Int) ≤ maxI) : IntKind.wrap .i64 (n : Int) = n := inR_wrap (by simp [inR, maxI] at *; omega)

include hC in
theorem Ok_lenS {x : Operand} {t : TypeId} {dx : D} {s : List UInt8} (ho : o.op = .call { callee := .builtin .len, args := #[x], argTypes := #[t] }) (ht : td C.tb t = .str) (hr : td C.tb o.type = .int .i64)
    (hx : opd C.tb env t x = some dx) (hs : strAny dx = some s) : OpOk C o env σ ⟨True, .t o.type (.e (.int s.length)), σ⟩ :=
  OpOk_val fun H β ac w hr' he => by
    obtain ⟨h1, h2⟩ := strAny_rel (opd_rel he hx) hs
    refine ⟨.int .i64 s.length, fun w' hw' => ?_, .mkInt hr (range64s h2)⟩
    rw [opdArg ho]
    have hsz : (⟨⟨s⟩⟩ : ByteArray).size = s.length := rfl
    simp [builtin, Builtin.len_, h1, sv, run_underlying_of hC.tab (hC.tab.str ht), goInt, hsz]
include hC in
theorem Ok_lenL {x : Operand} {t u : TypeId} {dx : D} {n : Nat} (ho : o.op = .call { callee := .builtin .len, args := #[x], argTypes := #[t] }) (ht : td C.tb t = .sl u) (hr : td C.tb o.type = .int .i64)
    (hx : opd C.tb env t x = some dx) (hs : slLen dx = some n) : OpOk C o env σ ⟨True, .t o.type (.e (.int n)), σ⟩ :=
  OpOk_val fun H β ac w hr' he => by
    obtain ⟨a, c, h1, h2⟩ := slLen_rel (opd_rel he hx) hs
    refine ⟨.int .i64 n, fun w' hw' => ?_, .mkInt hr (range64 h2)⟩
    rw [opdArg ho]
    simp [builtin, Builtin.len_, h1, run_underlying_of hC.tab (hC.tab.sl ht), goInt]

/-! ### nil checks, nil pointers -/
theorem Ok_nilCheck {s : Nat} {d : D} (ho : o.op = .nilCheck (.tmp s)) (hs : getD env s = d) (hd : ∃ i p, d = .ptr i p ∨ ∃ u xs j, d = .el u xs j p) : OpOk C o env σ ⟨True, d, σ⟩ :=
  OpOk_val fun H β ac w hr' he => by
    have hv := he.get s
    rw [hs] at hv
    have hp : ∃ a, ac.tmps.getD s undef = .pointer (some a) := by
      obtain ⟨i, p, rfl | ⟨u, xs, j, rfl⟩⟩ := hd
      · obtain ⟨a, h, _⟩ := hv.ptr_inv; exact ⟨a, h⟩
      · generalize ac.tmps.getD s undef = v at hv
        cases hv with | el => exact ⟨_, rfl⟩
    obtain ⟨a, ha⟩ := hp
    rw [ha] at hv
    refine ⟨_, fun w' hw' => ?_, hv⟩
    have hve : ac.eval (.tmp s) = .pointer (some a) := ha
    simp [execOp, ho, hve]

end
end Go.Den
