/- The table of the program's types, resolved, and what holds of it. -/
import Derived.Test.YtgdfegmdjdnbdaaDenV
namespace Go.Den
open Go
set_option linter.unusedSectionVars false
set_option linter.unusedSimpArgs false
set_option linter.unusedVariables false

def tdOf : TypeDesc → TD
  | .int k => .int k
  | .bool => .bool
  | .string => .str
  | .pointer t => .ptr t
  | .slice t => .sl t
  | .array n t => .arr n t
  | .struct fs => .st (fs.toList.map fun f => (f.type, f.offset))
  | .interface _ => .ifc
  | .func .. => .fn
  | .map k v => .mp k v
  | _ => .other

def fieldsEnd (tb : Tab) : List (TypeId × Nat) → Nat → Option Nat
  | [], n => some n
  | f :: fs, n => if f.2 = n then fieldsEnd tb fs (n + sz tb f.1) else none

def wfTI (tb : Tab) (i : TI) : Bool := match i.d with
  | .st fs => fieldsEnd tb fs 0 == some i.sz
  | .arr n u => i.sz == n * sz tb u
  | .other => true
  | _ => i.sz == 1

def tiAt (P : Program) (t : TypeId) : TI :=
  { d := ((P.underlying t).map tdOf).getD .other, sz := P.cellsOf t, nb := P.bytesOf t, uid := P.underlyingId t }
def tabOf (P : Program) : Tab := (List.range P.types.size).map (tiAt P)
def knownT (P : Program) (t : TypeId) : Bool := (P.info? t).isSome && (P.underlying t).isSome

structure TabOk (P : Program) (tb : Tab) : Prop where
  tab : tabOf P = tb
  known : (List.range P.types.size).all (knownT P) = true
  wf : tb.all (wfTI tb) = true
  mixed : P.follows .mixedOrders = true

section
variable {P : Program} {tb : Tab} (hT : TabOk P tb)
include hT

theorem TabOk.len : tb.length = P.types.size := by rw [← hT.tab]; simp [tabOf]
theorem TabOk.at {t : TypeId} (h : t < tb.length) : tb[t]? = some (tiAt P t) := by
  have h' : t < P.types.size := by rw [← hT.len]; exact h
  conv => lhs; rw [← hT.tab]
  rw [tabOf, List.getElem?_map, List.getElem?_range h']; rfl
theorem TabOk.lt_of_td {t : TypeId} (h : td tb t ≠ .other) : t < tb.length := by
  rcases Nat.lt_or_ge t tb.length with h' | h'
  · exact h'
  · exact absurd (by simp [td, List.getElem?_eq_none h']) h
theorem TabOk.und {t : TypeId} (h : td tb t ≠ .other) : ∃ d, P.underlying t = some d ∧ tdOf d = td tb t := by
  have hlt := hT.lt_of_td h
  have hk := List.all_eq_true.1 hT.known t (by simp [← hT.len, hlt])
  simp only [knownT, Bool.and_eq_true, Option.isSome_iff_exists] at hk
  obtain ⟨_, d, hd⟩ := hk
  exact ⟨d, hd, by simp [td, hT.at hlt, tiAt, hd]⟩
theorem TabOk.info {t : TypeId} (h : t < tb.length) : ∃ i, P.info? t = some i ∧ i.size = sz tb t ∧ i.bytes = nb tb t := by
  have hk := List.all_eq_true.1 hT.known t (by simp [← hT.len, h])
  simp only [knownT, Bool.and_eq_true, Option.isSome_iff_exists] at hk
  obtain ⟨⟨i, hi⟩, _⟩ := hk
  exact ⟨i, hi, by simp [sz, hT.at h, tiAt, Program.cellsOf, hi], by simp [nb, hT.at h, tiAt, Program.bytesOf, hi]⟩

theorem TabOk.int {t : TypeId} {k : IntKind} (h : td tb t = .int k) : P.underlying t = some (.int k) := by
  obtain ⟨d, hd, he⟩ := hT.und (t := t) (by rw [h]; simp)
  rw [h] at he; cases d <;> simp_all [tdOf]
theorem TabOk.bool {t : TypeId} (h : td tb t = .bool) : P.underlying t = some .bool := by
  obtain ⟨d, hd, he⟩ := hT.und (t := t) (by rw [h]; simp)
  rw [h] at he; cases d <;> simp_all [tdOf]
theorem TabOk.str {t : TypeId} (h : td tb t = .str) : P.underlying t = some .string := by
  obtain ⟨d, hd, he⟩ := hT.und (t := t) (by rw [h]; simp)
  rw [h] at he; cases d <;> simp_all [tdOf]
theorem TabOk.ptr {t u : TypeId} (h : td tb t = .ptr u) : P.underlying t = some (.pointer u) := by
  obtain ⟨d, hd, he⟩ := hT.und (t := t) (by rw [h]; simp)
  rw [h] at he; cases d <;> simp_all [tdOf]
theorem TabOk.sl {t u : TypeId} (h : td tb t = .sl u) : P.underlying t = some (.slice u) := by
  obtain ⟨d, hd, he⟩ := hT.und (t := t) (by rw [h]; simp)
  rw [h] at he; cases d <;> simp_all [tdOf]
theorem TabOk.arr {t u : TypeId} {n : Nat} (h : td tb t = .arr n u) : P.underlying t = some (.array n u) := by
  obtain ⟨d, hd, he⟩ := hT.und (t := t) (by rw [h]; simp)
  rw [h] at he; cases d <;> simp_all [tdOf]
theorem TabOk.st {t : TypeId} {fs : List (TypeId × Nat)} (h : td tb t = .st fs) : ∃ gs, P.underlying t = some (.struct gs) ∧ gs.toList.map (fun f => (f.type, f.offset)) = fs := by
  obtain ⟨d, hd, he⟩ := hT.und (t := t) (by rw [h]; simp)
  rw [h] at he; cases d <;> simp_all [tdOf]
theorem TabOk.ifc {t : TypeId} (h : td tb t = .ifc) : ∃ ms, P.underlying t = some (.interface ms) := by
  obtain ⟨d, hd, he⟩ := hT.und (t := t) (by rw [h]; simp)
  rw [h] at he; cases d <;> simp_all [tdOf]
theorem TabOk.fn {t : TypeId} (h : td tb t = .fn) : ∃ a b c, P.underlying t = some (.func a b c) := by
  obtain ⟨d, hd, he⟩ := hT.und (t := t) (by rw [h]; simp)
  rw [h] at he; cases d <;> simp_all [tdOf]
theorem TabOk.mp {t k v : TypeId} (h : td tb t = .mp k v) : P.underlying t = some (.map k v) := by
  obtain ⟨d, hd, he⟩ := hT.und (t := t) (by rw [h]; simp)
  rw [h] at he; cases d <;> simp_all [tdOf]

theorem TabOk.wfAt {t : TypeId} {i : TI} (h : tb[t]? = some i) : wfTI tb i = true :=
  List.all_eq_true.1 hT.wf i (List.mem_of_getElem? h)
theorem TabOk.wf_td {t : TypeId} (h : td tb t ≠ .other) : wfTI tb ⟨td tb t, sz tb t, nb tb t, uid tb t⟩ = true := by
  have hlt := hT.lt_of_td h
  have := hT.wfAt (hT.at hlt)
  simpa [td, sz, nb, uid, hT.at hlt] using this
theorem TabOk.sz_arr {t u : TypeId} {n : Nat} (h : td tb t = .arr n u) : sz tb t = n * sz tb u := by
  have := hT.wf_td (t := t) (by rw [h]; simp)
  simpa [wfTI, h] using this
theorem TabOk.sz_st {t : TypeId} {fs : List (TypeId × Nat)} (h : td tb t = .st fs) : fieldsEnd tb fs 0 = some (sz tb t) := by
  have := hT.wf_td (t := t) (by rw [h]; simp)
  simpa [wfTI, h] using this
theorem TabOk.sz_one {t : TypeId} (h : isAggT tb t = false) (h' : td tb t ≠ .other) : sz tb t = 1 := by
  have := hT.wf_td (t := t) h'
  unfold wfTI at this
  unfold isAggT at h
  split at this <;> simp_all

theorem run_underlying_of {t : TypeId} {d : TypeDesc} (h : P.underlying t = some d) (w : World) : (underlying t).run P w = .ok d w := by
  simp [underlying, h]
theorem run_sizeOf_of {t : TypeId} (h : t < tb.length) (w : World) : (sizeOf t).run P w = .ok (sz tb t) w := by
  obtain ⟨i, hi, h1, h2⟩ := hT.info h
  simp [sizeOf, typeInfo, hi, h1]
theorem run_isAgg_of {t : TypeId} (h : td tb t ≠ .other) (w : World) : (isAgg t).run P w = .ok (isAggT tb t) w := by
  obtain ⟨d, hd, he⟩ := hT.und h
  simp only [isAgg, Sem.run_bind, run_underlying_of hT hd, Result.andThen]
  unfold isAggT
  rw [← he]
  cases d <;> simp [tdOf]
end

theorem fieldsEnd_spec {tb : Tab} : ∀ {fs : List (TypeId × Nat)} {n m : Nat}, fieldsEnd tb fs n = some m → n ≤ m ∧
    ∀ (i : Nat) (f : TypeId × Nat), fs[i]? = some f → n ≤ f.2 ∧ f.2 + sz tb f.1 ≤ m ∧ ∀ (j : Nat) (g : TypeId × Nat), i < j → fs[j]? = some g → f.2 + sz tb f.1 ≤ g.2
  | [], n, m, h => by
    simp [fieldsEnd] at h; subst h
    exact ⟨Nat.le_refl _, fun i f hf => by simp at hf⟩
  | f :: fs, n, m, h => by
    simp only [fieldsEnd] at h
    split at h
    · rename_i hn
      obtain ⟨h1, h2⟩ := fieldsEnd_spec h
      refine ⟨by omega, fun i g hg => ?_⟩
      cases i with
      | zero =>
        simp at hg; subst hg
        refine ⟨by omega, by omega, fun j k hj hk => ?_⟩
        cases j with
        | zero => omega
        | succ j => have := (h2 j k (by simpa using hk)).1; omega
      | succ i =>
        obtain ⟨a, b, c⟩ := h2 i g (by simpa using hg)
        refine ⟨by omega, b, fun j k hj hk => ?_⟩
        cases j with
        | zero => omega
        | succ j => exact c j k (by omega) (by simpa using hk)
    · cases h

theorem fieldsEnd_cover {tb : Tab} : ∀ {fs : List (TypeId × Nat)} {n m : Nat}, fieldsEnd tb fs n = some m → ∀ j, n ≤ j → j < m →
    ∃ (i : Nat) (f : TypeId × Nat), fs[i]? = some f ∧ f.2 ≤ j ∧ j < f.2 + sz tb f.1
  | [], n, m, h, j, h1, h2 => by simp [fieldsEnd] at h; omega
  | f :: fs, n, m, h, j, h1, h2 => by
    simp only [fieldsEnd] at h
    split at h
    · rename_i hn
      by_cases hj : j < n + sz tb f.1
      · exact ⟨0, f, rfl, by omega, by omega⟩
      · obtain ⟨i, g, hg, h3, h4⟩ := fieldsEnd_cover h j (by omega) h2
        exact ⟨i + 1, g, by simpa using hg, h3, h4⟩
    · cases h

theorem seg_length {cs : List Value} {o n : Nat} (h : o + n ≤ cs.length) : (seg cs o n).length = n := by simp [seg]; omega
theorem seg_get {cs : List Value} {o n j : Nat} (h : j < n) : (seg cs o n)[j]? = cs[o + j]? := by
  simp [seg, List.getElem?_take, h]

theorem Rd.len {P : Program} {tb : Tab} (hT : TabOk P tb) {H : Gh} {t cs x} (r : Rd tb H t cs x) : cs.length = sz tb t := by
  cases r with
  | st a b _ _ => exact b
  | arr a b _ _ => rw [b, hT.sz_arr a]
  | ifc a _ _ => exact (hT.sz_one (by simp [isAggT, a]) (by simp [a])).symm
  | _ a => exact (hT.sz_one (by simp [isAggT, a]) (by simp [a])).symm
theorem TRel.len {P : Program} {tb : Tab} (hT : TabOk P tb) {H : Gh} {β σ t cs x} (r : TRel tb H β σ t cs x) : cs.length = sz tb t := by
  cases r with
  | e a => exact a.len hT
  | st a b _ _ => exact b
  | arr a b _ _ => rw [b, hT.sz_arr a]
  | _ a => exact (hT.sz_one (by simp [isAggT, a]) (by simp [a])).symm

end Go.Den
