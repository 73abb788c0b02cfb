/- Pointers and functions against nil. -/
import Derived.Test.YtgdfegmdjdnbdaaDenDop3
import Derived.Lib.Builder
namespace Go.Den
open Go
set_option linter.unusedSectionVars false
set_option linter.unusedSimpArgs false
set_option linter.unusedVariables false

/-- A pointer: none, or some place. -/
def ptrD : D → Option (Option (Nat × List Nat))
  | .t _ (.e .nilp) => some none
  | .ptr i p => some (some (i, p))
  | _ => none

theorem ptrD_rel {tb H β σ v d o} (hv : DRel tb H β σ v d) (h : ptrD d = some o) : match o with
    | none => v = .pointer none
    | some (i, p) => ∃ a, v = .pointer (some a) ∧ PtrAt tb β σ i p a := by
  unfold ptrD at h
  split at h
  · cases h
    cases hv with
    | t a b => cases b with
      | e r => cases r with
        | nilp c => have a' := a; simp [VC, isAggT, c] at a'; exact a'.symm
  · cases h
    cases hv with
    | ptr a => exact ⟨_, rfl, a⟩
  · cases h

theorem PtrAt.same {tb β σ i p a a'} (h : PtrAt tb β σ i p a) (k : PtrAt tb β σ i p a') : a = a' := by
  obtain ⟨b, off, ty, x, o, u, e1, e2, e3, e4⟩ := h
  obtain ⟨b', off', ty', x', o', u', f1, f2, f3, f4⟩ := k
  rw [e1] at f1; cases f1
  rw [e2] at f2; cases f2
  rw [e3] at f3; cases f3
  rw [e4, f4]

section
variable {C : Cx} (hC : Ok C) {o : Oper} {env : Env} {σ : List Blk}
include hC
theorem Ok_eqP {op : BinOp} {xt yt u : TypeId} {x y : Operand} {dx dy : D} {a b : Option (Nat × List Nat)} (ho : o.op = .binOp op xt x y yt) (hop : op = .eql ∨ op = .neq) (ht : td C.tb xt = .ptr u)
    (hx : opd C.tb env xt x = some dx) (hy : opd C.tb env xt y = some dy) (ha : ptrD dx = some a) (hb : ptrD dy = some b) (hs : (a = none ∨ b = none) ∨ (a = b ∧ td C.tb u ≠ .other)) :
    OpOk C o env σ ⟨True, .kb C.bt (if op = .eql then (a.isNone == b.isNone) else !(a.isNone == b.isNone)), σ⟩ :=
  OpOk_val fun H β ac w hr he => by
    have h1 := ptrD_rel (opd_rel he hx) ha
    have h2 := ptrD_rel (opd_rel he hy) hb
    have hund := hC.tab.ptr ht
    refine ⟨.bool (if op = .eql then (a.isNone == b.isNone) else !(a.isNone == b.isNone)), fun w' hw' => ?_, .kb hC.bt⟩
    have key : ∀ (pa pb : Option Addr) (r : Bool), ac.eval x = .pointer pa → ac.eval y = .pointer pb → (∀ d, (Op.equalIn (d + 1) xt (.pointer pa) (.pointer pb)).run C.P w' = .ok r w') → r = (a.isNone == b.isNone) →
        (execOp ac.eval o).run C.P w' = .ok (.value (.bool (if op = .eql then (a.isNone == b.isNone) else !(a.isNone == b.isNone)))) w' := by
      intro pa pb r e1 e2 hq hr
      have hgd : eqGuard op xt x y (.pointer pa) (.pointer pb) = pure () := by
        unfold eqGuard
        split <;> simp_all
      have hq' := hq 9999
      subst hr
      rcases hop with rfl | rfl
      · simp [execOp, ho, e1, e2, hgd, binOp, Op.equal, Op.maxDepth, hq']
      · simp [execOp, ho, e1, e2, hgd, binOp, Op.equal, Op.maxDepth, hq']
    cases a with
    | none =>
      cases b with
      | none => exact key _ _ true h1 h2 (fun d => by simp [Op.equalIn, run_underlying_of hC.tab hund]) rfl
      | some q => obtain ⟨ad, h2, _⟩ := h2; exact key _ _ false h1 h2 (fun d => by simp [Op.equalIn, run_underlying_of hC.tab hund]) rfl
    | some p =>
      obtain ⟨ad, h1, hp⟩ := h1
      cases b with
      | none => exact key _ _ false h1 h2 (fun d => by simp [Op.equalIn, run_underlying_of hC.tab hund]) rfl
      | some q =>
        obtain ⟨ad', h2, hq⟩ := h2
        have hs' : p = q ∧ td C.tb u ≠ .other := by
          rcases hs with hs | ⟨hs, hu⟩
          · simp at hs
          · exact ⟨by simpa using hs, hu⟩
        obtain ⟨rfl, hu⟩ := hs'
        have := hp.same hq
        subst this
        refine key _ _ true h1 h2 (fun d => ?_) rfl
        obtain ⟨i, hi, _⟩ := hC.tab.info (hC.tab.lt_of_td hu)
        simp [Op.equalIn, run_underlying_of hC.tab hund, sizeOf, typeInfo, hi, run_sameAddr_same]
end
end Go.Den
