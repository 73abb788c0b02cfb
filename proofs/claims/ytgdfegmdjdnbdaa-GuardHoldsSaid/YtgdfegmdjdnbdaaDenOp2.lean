/- Numbers, texts, bools: the binary operations. -/
import Derived.Test.YtgdfegmdjdnbdaaDenOp1
import Derived.Laws.StructEq
namespace Go.Den
open Go
set_option linter.unusedSectionVars false
set_option linter.unusedSimpArgs false
set_option linter.unusedVariables false

/-- Two types that are told alike. -/
def same (tb : Tab) (t u : TypeId) : Bool := Nat.beq t u || (td tb t == td tb u)
theorem same_td {tb : Tab} {t u : TypeId} (h : same tb t u = true) : td tb t = td tb u := by
  simp only [same, Bool.or_eq_true, beq_iff_eq] at h
  rcases h with h | h
  · rw [Nat.eq_of_beq_eq_true h]
  · exact h

def intAt (tb : Tab) (ty : TypeId) : D → Option Int
  | .t tx (.e (.int n)) => match same tb tx ty with | true => some n | false => none
  | _ => none
def intAny : D → Option Int
  | .t _ (.e (.int n)) => some n
  | _ => none
def strAny : D → Option (List UInt8)
  | .t _ (.e (.str s)) => some s
  | _ => none

section
variable {tb : Tab} {H : Gh} {β : List Value} {σ : List Blk} {v : Value} {d : D}
theorem intAt_rel {ty n k} (hv : DRel tb H β σ v d) (h : intAt tb ty d = some n) (hk : td tb ty = .int k) : v = .int k n ∧ k.wrap n = n := by
  unfold intAt at h
  split at h
  · split at h
    · rename_i hs; cases h
      obtain ⟨k', h1, h2, h3⟩ := hv.int_inv
      rw [same_td hs, hk] at h1
      cases h1; exact ⟨h2, h3⟩
    · cases h
  · cases h
theorem intAny_rel {n} (hv : DRel tb H β σ v d) (h : intAny d = some n) : ∃ k, v = .int k n ∧ k.wrap n = n := by
  unfold intAny at h
  split at h
  · cases h; obtain ⟨k, _, h2, h3⟩ := hv.int_inv; exact ⟨k, h2, h3⟩
  · cases h
theorem strAny_rel {s} (hv : DRel tb H β σ v d) (h : strAny d = some s) : v = sv s ∧ (s.length : Int) ≤ maxI := by
  unfold strAny at h
  split at h
  · cases h; exact ⟨hv.str_inv.1, hv.str_inv.2.1⟩
  · cases h
theorem DRel.mkInt {ty n k} (hk : td tb ty = .int k) (hn : k.wrap n = n) : DRel tb H β σ (.int k n) (.t ty (.e (.int n))) := .of_rd (.int hk hn) (by simp [isAggT, hk])
theorem DRel.mkBool {ty b} (hk : td tb ty = .bool) : DRel tb H β σ (.bool b) (.t ty (.e (.bool b))) := .of_rd (.bool hk) (by simp [isAggT, hk])
theorem DRel.mkStr {ty s} (hk : td tb ty = .str) (hn : (s.length : Int) ≤ maxI) : DRel tb H β σ (sv s) (.t ty (.e (.str s))) := .of_rd (.str hk hn) (by simp [isAggT, hk])
end

def bitop (op : BinOp) (k : IntKind) (x y : Int) : Int :=
  let a := BitVec.ofInt k.bits x
  let b := BitVec.ofInt k.bits y
  match op with
  | .and => k.wrap (a &&& b).toNat
  | .or => k.wrap (a ||| b).toNat
  | .xor => k.wrap (a ^^^ b).toNat
  | _ => k.wrap (a &&& ~~~b).toNat

/-- What a number's operator gives, and on what terms. -/
def arith (k : IntKind) (op : BinOp) (x y : Int) : Option Int := match op with
  | .add => some (k.wrap (x + y))
  | .sub => some (k.wrap (x - y))
  | .mul => some (k.wrap (x * y))
  | .quo => some (k.wrap (x.tdiv y))
  | .rem => some (x.tmod y)
  | .and => some (bitop .and k x y)
  | .or => some (bitop .or k x y)
  | .xor => some (bitop .xor k x y)
  | .andNot => some (bitop .andNot k x y)
  | _ => none
def arithP (op : BinOp) (y : Int) : Prop := match op with
  | .quo | .rem => y ≠ 0
  | .shl | .shr => 0 ≤ y
  | _ => True
def shiftOp (k : IntKind) (op : BinOp) (x y : Int) : Option Int := match op with
  | .shl => some (k.wrap (x * 2 ^ (min y.toNat k.bits)))
  | .shr => some (x.fdiv (2 ^ (min y.toNat k.bits)))
  | _ => none
def cmpI (op : BinOp) (x y : Int) : Option Bool := match op with
  | .eql => some (decide (x = y))
  | .neq => some (!decide (x = y))
  | .lss => some (decide (x < y))
  | .leq => some (decide (x ≤ y))
  | .gtr => some (decide (y < x))
  | .geq => some (decide (y ≤ x))
  | _ => none

theorem between_inR {k : IntKind} {x z : Int} (hx : inR k x = true) (h1 : 0 ≤ x → 0 ≤ z ∧ z ≤ x) (h2 : x < 0 → x ≤ z ∧ z ≤ 0) : inR k z = true := by
  rcases Int.lt_or_le x 0 with h | h
  · have := h2 h; cases k <;> simp [inR] at hx ⊢ <;> omega
  · have := h1 h; cases k <;> simp [inR] at hx ⊢ <;> omega
theorem wrap_iff {k : IntKind} {x : Int} : k.wrap x = x ↔ inR k x = true := ⟨fun h => h ▸ wrap_inR k x, inR_wrap⟩

theorem tmod_inR {k : IntKind} {x y : Int} (hx : inR k x = true) : inR k (x.tmod y) = true := by
  refine between_inR hx (fun h => ⟨Int.tmod_nonneg y h, ?_⟩) (fun h => ⟨?_, ?_⟩)
  · obtain ⟨n, rfl⟩ := Int.eq_ofNat_of_zero_le h
    cases y with
    | ofNat m => exact Int.ofNat_le.2 (Nat.mod_le n m)
    | negSucc m => exact Int.ofNat_le.2 (Nat.mod_le n (m + 1))
  · obtain ⟨n, rfl⟩ : ∃ n : Nat, x = -(n : Int) := ⟨(-x).toNat, by omega⟩
    rw [Int.neg_tmod]
    have : ((n : Int)).tmod y ≤ n := by
      cases y with
      | ofNat m => exact Int.ofNat_le.2 (Nat.mod_le n m)
      | negSucc m => exact Int.ofNat_le.2 (Nat.mod_le n (m + 1))
    omega
  · obtain ⟨n, rfl⟩ : ∃ n : Nat, x = -(n : Int) := ⟨(-x).toNat, by omega⟩
    rw [Int.neg_tmod]
    have := Int.tmod_nonneg (a := (n : Int)) y (by omega)
    omega
theorem fdiv_inR {k : IntKind} {x : Int} (n : Nat) (hx : inR k x = true) : inR k (x.fdiv (2 ^ n)) = true := by
  have hp : (0 : Int) < 2 ^ n := Int.pow_pos (by omega)
  rw [Int.fdiv_eq_ediv_of_nonneg _ (by omega)]
  refine between_inR hx (fun h => ⟨Int.ediv_nonneg h (by omega), Int.ediv_le_self _ h⟩) (fun h => ⟨?_, ?_⟩)
  · have h1 : (1 : Int) ≤ 2 ^ n := hp
    have := Int.le_ediv_of_mul_le hp (a := x) (b := x) (by
      have : x * 2 ^ n ≤ x * 1 := Int.mul_le_mul_of_nonpos_left (by omega) h1
      omega)
    exact this
  · exact Int.le_of_lt (Int.ediv_neg_of_neg_of_pos h hp)

theorem arith_run {P : Program} {k op x y n} (h : arith k op x y = some n) (hp : arithP op y) (t : TypeId) (w : World) :
    (binOp op t (.int k x) (.int k y)).run P w = .ok (.int k n) w := by
  cases op <;> simp [arith] at h <;> subst h <;>
    simp [binOp, Op.intArith, Op.intDiv, Op.intBits, bitop, arithP] at hp ⊢ <;> simp [hp]
theorem arith_wrap {k op x y n} (hx : k.wrap x = x) (h : arith k op x y = some n) : k.wrap n = n := by
  cases op <;> simp [arith] at h <;> subst h <;> first
    | exact wrap_wrap _ _
    | exact inR_wrap (tmod_inR (wrap_iff.1 hx))
theorem shift_run {P : Program} {k k' op x y n} (h : shiftOp k op x y = some n) (hp : arithP op y) (t : TypeId) (w : World) :
    (binOp op t (.int k x) (.int k' y)).run P w = .ok (.int k n) w := by
  cases op <;> simp [shiftOp] at h <;> subst h <;> simp [arithP] at hp <;>
    simp [binOp, Op.shift, show ¬ y < 0 by omega]
theorem shift_wrap {k op x y n} (hx : k.wrap x = x) (h : shiftOp k op x y = some n) : k.wrap n = n := by
  cases op <;> simp [shiftOp] at h <;> subst h <;> first
    | exact wrap_wrap _ _
    | exact inR_wrap (fdiv_inR _ (wrap_iff.1 hx))
theorem cmp_run {P : Program} {k op x y b} (h : cmpI op x y = some b) (t : TypeId) (w : World) :
    (binOp op t (.int k x) (.int k y)).run P w = .ok (.bool b) w := by
  cases op <;> simp only [cmpI, Option.some.injEq, reduceCtorEq] at h <;> subst h <;> simp [binOp, Op.intCmp, bne] <;> rfl

/-! ### texts, bools -/

def cmpS (op : BinOp) (x y : List UInt8) : Option Bool := match op with
  | .eql => some (decide (x = y))
  | .neq => some (!decide (x = y))
  | .lss => some (Op.bytesLess x y)
  | .leq => some (Op.bytesLess x y || decide (x = y))
  | .gtr => some (!(Op.bytesLess x y || decide (x = y)))
  | .geq => some (!Op.bytesLess x y)
  | _ => none
theorem toList_mk (l : List UInt8) : ByteArray.toList ⟨⟨l⟩⟩ = l := by rw [ByteArray.toList_eq]
theorem cmpS_run {P : Program} {op x y b} (h : cmpS op x y = some b) (t : TypeId) (w : World) :
    (binOp op t (sv x) (sv y)).run P w = .ok (.bool b) w := by
  have hb : (x == y) = decide (x = y) := by rw [Bool.eq_iff_iff]; simp
  cases op <;> simp only [cmpS, Option.some.injEq, reduceCtorEq] at h <;> subst h <;> simp [binOp, sv, Op.stringOp, toList_mk, hb]
theorem addS_run {P : Program} {x y} (hl : ((x.length + y.length : Nat) : Int) ≤ maxI) (t : TypeId) (w : World) :
    (binOp .add t (sv x) (sv y)).run P w = .ok (sv (x ++ y)) w := by
  have hs : ∀ l : List UInt8, (⟨⟨l⟩⟩ : ByteArray).size = l.length := fun l => rfl
  have hm : IntKind.max .i64 = maxI := by decide
  have ha : (⟨⟨x⟩⟩ : ByteArray) ++ ⟨⟨y⟩⟩ = ⟨⟨x ++ y⟩⟩ := by
    apply ByteArray.ext; simp
  simp only [binOp, sv, Op.stringOp, hs, hm]
  rw [if_neg (by omega), ha]; rfl

end Go.Den
