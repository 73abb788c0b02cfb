/- Slices of an own array. -/
import Derived.Test.YtgdfegmdjdnbdaaDenDop5
namespace Go.Den
open Go
set_option linter.unusedSectionVars false
set_option linter.unusedSimpArgs false
set_option linter.unusedVariables false
section
variable {C : Cx} (hC : Ok C) {o : Oper} {env : Env} {σ : List Blk}
include hC
theorem Ok_sliceA {t u i n s : Nat} {p : List Nat} {ty : TypeId} {X : T} {lo hi : Option Operand} {l h : Int} (ho : o.op = .slice t (.tmp s) lo hi none) (hs : getD env s = .ptr i p) (hi' : σ[i]? = some (.tree ty X))
    (hta : td C.tb t = .arr n u) (hty : td C.tb (tyAt C.tb ty p) = .arr n u) (hz : sz C.tb u ≠ 0) (hn : n ≤ maxN)
    (hl : bnd env 0 lo = some l) (hh : bnd env n hi = some h) (h0 : 0 ≤ l) (h1 : l ≤ h) (h2 : h ≤ n) (hln : l < n) : OpOk C o env σ ⟨True, .asl i p u l.toNat (h.toNat - l.toNat), σ⟩ :=
  OpOk_val fun H β a w hr he => by
    have hv := he.get s
    rw [hs] at hv
    obtain ⟨ad, hv, hp⟩ := hv.ptr_inv
    have hpa := hp
    obtain ⟨b, off, ty', X', o', z, e1, e2, e3, e4⟩ := hp
    rw [hi'] at e2; cases e2
    subst e4
    rw [tyAt_of e3] at hty
    have hb := fun w : World => run_bounds (P := C.P) he (isSl := false) (len := n) (cap := n) (w := w) hl hh h0 h1 (by omega)
    have hve : a.eval (.tmp s) = .pointer (some ⟨b, off + o', none⟩) := hv
    refine ⟨.slice (some ⟨b, off + o' + l.toNat * sz C.tb u, none⟩) (h.toNat - l.toNat) (n - l.toNat), fun w' hw' => ?_, ?_⟩
    · have hne : ¬ (n = l.toNat) := by omega
      simp [execOp, ho, hve, Instr.sliceAt, Instr.sureAddr, run_underlying_of hC.tab (hC.tab.arr hta), hb, run_sizeOf_of hC.tab (lt_of_sz hC hz), hne, add_plain]
    · exact .asl (m := n) hpa (fun ty2 x2 hx => by rw [hi'] at hx; cases hx; exact ⟨_, _, e3, hty⟩) (by omega) (by omega) (by omega)
end
end Go.Den
