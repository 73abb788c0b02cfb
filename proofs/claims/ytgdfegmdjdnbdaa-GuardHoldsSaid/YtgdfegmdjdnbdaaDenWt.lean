/- What data of a type looks like. -/
import Derived.Test.YtgdfegmdjdnbdaaDenKit3
namespace Go.Den
open Go
set_option linter.unusedVariables false
variable {tb : Tab} {t : TypeId} {x : E}
theorem wt_int {k : IntKind} (h : Wt tb t x) (ht : td tb t = .int k) : ∃ n, x = .int n ∧ inR k n = true := by
  obtain ⟨H, cs, h⟩ := h
  cases h with
  | @int _ k' n a b =>
    rw [ht] at a; cases a
    have := wrap_inR k n
    rw [b] at this
    exact ⟨n, rfl, this⟩
  | _ a => rw [ht] at a; cases a
theorem wt_bool (h : Wt tb t x) (ht : td tb t = .bool) : ∃ b, x = .bool b := by
  obtain ⟨H, cs, h⟩ := h
  cases h with
  | bool a => exact ⟨_, rfl⟩
  | _ a => rw [ht] at a; cases a
theorem wt_str (h : Wt tb t x) (ht : td tb t = .str) : ∃ s : List UInt8, x = .str s := by
  obtain ⟨H, cs, h⟩ := h
  cases h with
  | str a b => exact ⟨_, rfl⟩
  | _ a => rw [ht] at a; cases a
theorem wt_arr {n : Nat} {u : TypeId} (h : Wt tb t x) (ht : td tb t = .arr n u) : ∃ xs, x = .agg xs ∧ xs.length = n ∧ ∀ y ∈ xs, Wt tb u y := by
  obtain ⟨H, cs, h⟩ := h
  cases h with
  | arr a b c d =>
    rw [ht] at a; cases a
    refine ⟨_, rfl, c, fun y hy => ?_⟩
    obtain ⟨i, hi⟩ := List.getElem?_of_mem hy
    exact ⟨H, _, d i y hi⟩
  | _ a => rw [ht] at a; cases a
theorem wt_st {fs : List (TypeId × Nat)} (h : Wt tb t x) (ht : td tb t = .st fs) : ∃ xs, x = .agg xs ∧ xs.length = fs.length ∧ ∀ (i : Nat) f y, fs[i]? = some f → xs[i]? = some y → Wt tb f.1 y := by
  obtain ⟨H, cs, h⟩ := h
  cases h with
  | st a b c d => rw [ht] at a; cases a; exact ⟨_, rfl, c, fun i f y hf hy => ⟨H, _, d i f y hf hy⟩⟩
  | _ a => rw [ht] at a; cases a
theorem wt_sl {u : TypeId} (h : Wt tb t x) (ht : td tb t = .sl u) : ∃ xs, x = .sl xs ∧ ∀ y ∈ xs, Wt tb u y := by
  obtain ⟨H, cs, h⟩ := h
  cases h with
  | sl0 a => exact ⟨[], rfl, fun y hy => by simp at hy⟩
  | sl a b c d e f =>
    rw [ht] at a; cases a
    refine ⟨_, rfl, fun y hy => ?_⟩
    obtain ⟨i, hi⟩ := List.getElem?_of_mem hy
    exact ⟨H, _, d i y hi⟩
  | _ a => rw [ht] at a; cases a
theorem map_ex {α β : Type} {f : α → β} : ∀ {l : List β}, (∀ y ∈ l, ∃ x, y = f x) → ∃ m : List α, l = m.map f
  | [], _ => ⟨[], rfl⟩
  | y :: l, h => by
    obtain ⟨x, rfl⟩ := h y (by simp)
    obtain ⟨m, rfl⟩ := map_ex (l := l) (fun z hz => h z (by simp [hz]))
    exact ⟨x :: m, rfl⟩
theorem list1 {α : Type} {l : List α} (h : l.length = 1) : ∃ a, l = [a] := by
  match l, h with | [a], _ => exact ⟨a, rfl⟩
theorem list2 {α : Type} {l : List α} (h : l.length = 2) : ∃ a b, l = [a, b] := by
  match l, h with | [a, b], _ => exact ⟨a, b, rfl⟩
theorem list3 {α : Type} {l : List α} (h : l.length = 3) : ∃ a b c, l = [a, b, c] := by
  match l, h with | [a, b, c], _ => exact ⟨a, b, c, rfl⟩
theorem list4 {α : Type} {l : List α} (h : l.length = 4) : ∃ a b c d, l = [a, b, c, d] := by
  match l, h with | [a, b, c, d], _ => exact ⟨a, b, c, d, rfl⟩
theorem list5 {α : Type} {l : List α} (h : l.length = 5) : ∃ a b c d e, l = [a, b, c, d, e] := by
  match l, h with | [a, b, c, d, e], _ => exact ⟨a, b, c, d, e, rfl⟩
theorem list6 {α : Type} {l : List α} (h : l.length = 6) : ∃ a b c d e f, l = [a, b, c, d, e, f] := by
  match l, h with | [a, b, c, d, e, f], _ => exact ⟨a, b, c, d, e, f, rfl⟩
end Go.Den
namespace Go.Den
open Go
section
variable {C : Cx} {env : Env} {σ : List Blk} {Q : Post}
/-- A copy in a region that draws. -/
theorem VX_copyO (hC : Ok C) {k : List It} {full : List Oper} {ts : List Nat} {i : Nat} {ord : List (Nat × Bool)} {o : Oper} {t t2 : TypeId} {s j off n : Nat} {p : List Nat} {u : TypeId} {y : Operand} {d : D} {σ' : List Blk} {pp : Prop}
    (hi : full[i]? = some o) (hw : wants full env o = some true) (hn : dstOk C.n o.dst = true) (ho : o.op = .call { callee := .builtin .copy, args := #[.tmp s, y], argTypes := #[t, t2] })
    (h : d3Copy C env σ o.type t t2 s y = some ⟨pp, d, σ'⟩) (hs : getD env s = .asl j p u off n) (hts : j ∈ ts)
    (hk : VX C Q (.o full ts ord :: k) .nrm (putD env o.dst d) σ') : VX C Q (.o full ts ((i, false) :: ord) :: k) .nrm env σ :=
  VX_opO hi hw hn (d3Copy_okF hC ho h fun i p u off n e => by rw [hs] at e; cases e; exact hts) fun d1 s1 ⟨a1, a2⟩ => by subst a1; subst a2; exact hk
end
end Go.Den
namespace Go.Den
open Go
theorem wt_len {tb : Tab} {t : TypeId} {xs : List E} (h : Wt tb t (.sl xs)) : xs.length ≤ maxN := by
  obtain ⟨H, cs, h⟩ := h
  cases h with
  | sl0 a => simp
  | sl a b c d e f => exact f
end Go.Den
