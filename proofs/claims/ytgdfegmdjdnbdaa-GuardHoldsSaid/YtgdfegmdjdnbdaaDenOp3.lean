/- Variables: made, read, written. -/
import Derived.Test.YtgdfegmdjdnbdaaDenMem
namespace Go.Den
open Go
set_option linter.unusedSectionVars false
set_option linter.unusedSimpArgs false
set_option linter.unusedVariables false

section
variable {P : Program} {tb : Tab} (hT : TabOk P tb)

include hT in
theorem sz_of_td {t u : TypeId} (h : td tb t = td tb u) (ho : td tb t ≠ .other) : sz tb t = sz tb u := by
  have h1 := hT.wf_td ho
  have h2 := hT.wf_td (t := u) (h ▸ ho)
  simp only [wfTI] at h1 h2
  rw [← h] at h2
  revert h1 h2 ho
  clear h
  generalize td tb t = d
  cases d <;> simp only [beq_iff_eq, ne_eq, reduceCtorEq, not_false_eq_true, not_true_eq_false, false_implies, true_implies, forall_const] <;> intro h1 h2
  all_goals first
    | exact h1.trans h2.symm
    | (rw [h1] at h2; exact Option.some.inj h2)
    | omega
include hT in
theorem Rd.cast {H : Gh} {t u cs x} (r : Rd tb H t cs x) (h : td tb t = td tb u) : Rd tb H u cs x := by
  cases r with
  | st a b c d => exact .st (h ▸ a) (b.trans (sz_of_td hT h (by rw [a]; simp))) c d
  | arr a b c d => exact .arr (h ▸ a) b c d
  | int a b => exact .int (h ▸ a) b
  | bool a => exact .bool (h ▸ a)
  | str a b => exact .str (h ▸ a) b
  | nilp a => exact .nilp (h ▸ a)
  | nilf a => exact .nilf (h ▸ a)
  | nili a => exact .nili (h ▸ a)
  | nilm a => exact .nilm (h ▸ a)
  | sl0 a => exact .sl0 (h ▸ a)
  | sl a b c d e f => exact .sl (h ▸ a) b c d e f
  | ifc a b c => exact .ifc (h ▸ a) b c
include hT in
theorem TRel.cast {H : Gh} {β σ t u cs x} (r : TRel tb H β σ t cs x) (h : td tb t = td tb u) : TRel tb H β σ u cs x := by
  cases r with
  | e a => exact .e (a.cast hT h)
  | st a b c d => exact .st (h ▸ a) (b.trans (sz_of_td hT h (by rw [a]; simp))) c d
  | arr a b c d => exact .arr (h ▸ a) b c d
  | nsl a => exact .nsl (h ▸ a)
  | bsl a b => exact .bsl (h ▸ a) (b.cast hT h)
  | lsl a b c => exact .lsl (h ▸ a) (b.cast hT h) c
  | ptr a b => exact .ptr (h ▸ a) b
  | fn a b c => exact .fn (h ▸ a) b c
  | msl a b c => exact .msl (h ▸ a) b c
theorem isAggT_of {t u : TypeId} (h : td tb t = td tb u) : isAggT tb t = isAggT tb u := by simp [isAggT, h]
theorem Rd.td_ne {H : Gh} {t cs x} (r : Rd tb H t cs x) : td tb t ≠ .other := by
  cases r <;> simp_all
theorem TRel.td_ne {H : Gh} {β σ t cs x} (r : TRel tb H β σ t cs x) : td tb t ≠ .other := by
  cases r with
  | e a => exact a.td_ne
  | _ => simp_all

/-! ### to persistent data -/
mutual
def toE : T → Option E
  | .e x => some x
  | .nsl => some (.sl [])
  | .bsl xs => some (.sl xs)
  | .lsl _ xs => some (.sl xs)
  | .st xs => match toEs xs with
    | some ys => some (.agg ys)
    | none => none
  | .ptr _ _ => none
  | .fn _ _ => none
  | .msl _ _ => none
def toEs : List T → Option (List E)
  | [] => some []
  | x :: xs => match toE x with
    | some y => match toEs xs with
      | some ys => some (y :: ys)
      | none => none
    | none => none
end
theorem toEs_get : ∀ {xs : List T} {ys : List E}, toEs xs = some ys → ys.length = xs.length ∧ ∀ (i : Nat) (y : E), ys[i]? = some y → ∃ x, xs[i]? = some x ∧ toE x = some y
  | [], ys, h => by simp [toEs] at h; subst h; exact ⟨rfl, fun i y hy => by simp at hy⟩
  | x :: xs, ys, h => by
    unfold toEs at h
    split at h
    · rename_i y hy
      split at h
      · rename_i zs hz
        cases h
        obtain ⟨h1, h2⟩ := toEs_get hz
        refine ⟨by simp [h1], fun i z hz => ?_⟩
        cases i with
        | zero => simp at hz; subst hz; exact ⟨x, rfl, hy⟩
        | succ i => simpa using h2 i z (by simpa using hz)
      · cases h
    · cases h
theorem TRel.toE {H : Gh} {β σ t cs x} (r : TRel tb H β σ t cs x) : ∀ {y : E}, Den.toE x = some y → Rd tb H t cs y := by
  induction r with
  | e a => intro y h; simp [Den.toE] at h; subst h; exact a
  | st a b c _ ih =>
    intro y h
    unfold Den.toE at h
    split at h
    · rename_i ys hy; cases h
      obtain ⟨h1, h2⟩ := toEs_get hy
      exact .st a b (h1.trans c) fun i f z hf hz => by obtain ⟨x, hx, hxe⟩ := h2 i z hz; exact ih i f x hf hx hxe
    · cases h
  | arr a b c _ ih =>
    intro y h
    unfold Den.toE at h
    split at h
    · rename_i ys hy; cases h
      obtain ⟨h1, h2⟩ := toEs_get hy
      exact .arr a b (h1.trans c) fun i z hz => by obtain ⟨x, hx, hxe⟩ := h2 i z hz; exact ih i x hx hxe
    · cases h
  | nsl a => intro y h; simp [Den.toE] at h; subst h; exact .sl0 a
  | bsl a b => intro y h; simp [Den.toE] at h; subst h; exact b
  | lsl a b _ => intro y h; simp [Den.toE] at h; subst h; exact b
  | ptr => intro y h; simp [Den.toE] at h
  | fn => intro y h; simp [Den.toE] at h
  | msl => intro y h; simp [Den.toE] at h

/-- What is loaded, as a temporary's datum. -/
def ldD (t : TypeId) : T → D
  | .ptr i p => .ptr i p
  | .st xs => match toE (.st xs) with
    | some e => .t t (.e e)
    | none => .t t (.st xs)
  | x => .t t x
theorem ldD_rel {H : Gh} {β σ t cs x v} (hv : VC tb t v cs) (r : TRel tb H β σ t cs x) : DRel tb H β σ v (ldD t x) := by
  cases x with
  | ptr i p =>
    cases r with
    | ptr a b =>
      have hv' := hv
      simp [VC, isAggT, a] at hv'
      subst hv'
      exact .ptr b
  | st xs =>
    simp only [ldD]
    split
    · rename_i e he; exact .t hv (.e (r.toE he))
    · exact .t hv r
  | e x => exact .t hv r
  | nsl => exact .t hv r
  | bsl xs => exact .t hv r
  | lsl i xs => exact .t hv r
  | fn f c => exact .t hv r
  | msl i n => exact .t hv r

/-! ### loads and stores of the model -/

theorem add_plain (b o n : Nat) : (⟨b, o, none⟩ : Addr).add n = ⟨b, o + n, none⟩ := by unfold Addr.add; split <;> simp_all

include hT in
theorem run_loadVar_all {t b o : Nat} {vs : List Value} (hl : vs.length = sz tb t) (ht : td tb t ≠ .other) :
    ∃ v, (∀ w, (∀ (j : Nat) v, vs[j]? = some v → w.cell? ⟨b, o + j, none⟩ = some v) → (loadVar t ⟨b, o, none⟩).run P w = .ok v w) ∧ VC tb t v vs := by
  have hlt := hT.lt_of_td ht
  simp only [loadVar, Sem.run_bind, run_isAgg_of hT ht, Result.andThen]
  cases ha : isAggT tb t with
  | true =>
    refine ⟨.agg vs.toArray, fun w hc => ?_, by simp [VC, ha]⟩
    simp only [if_true, Sem.run_bind, run_sizeOf_of hT hlt, Result.andThen, ← hl]
    rw [run_loadCells_list w ⟨b, o, none⟩ vs (fun j v hj => by rw [add_plain]; exact hc j v hj)]
    rfl
  | false =>
    have h1 := hT.sz_one ha ht
    rw [h1] at hl
    match vs, hl with
    | [v], _ =>
      refine ⟨v, fun w hc => ?_, by simp [VC, ha]⟩
      have := hc 0 v rfl
      simp only [Nat.add_zero] at this
      simp [this]

include hT in
theorem run_loadVar_cells {t b o : Nat} {vs : List Value} {w : World} (hl : vs.length = sz tb t) (ht : td tb t ≠ .other)
    (hc : ∀ (j : Nat) v, vs[j]? = some v → w.cell? ⟨b, o + j, none⟩ = some v) : ∃ v, (loadVar t ⟨b, o, none⟩).run P w = .ok v w ∧ VC tb t v vs := by
  obtain ⟨v, h1, h2⟩ := run_loadVar_all hT (P := P) (b := b) (o := o) hl ht
  exact ⟨v, h1 w hc, h2⟩

theorem TRel.one {H : Gh} {β σ t cs x} (hT : TabOk P tb) (r : TRel tb H β σ t cs x) : ∀ c ∈ cs, c.oneCell' = true := by
  have rdone : ∀ {t cs x}, Rd tb H t cs x → ∀ c ∈ cs, c.oneCell' = true := by
    intro t cs x r
    induction r with
    | @st t fs cs xs a b c d ih =>
      intro v hv
      obtain ⟨j, hj⟩ := List.getElem?_of_mem hv
      have hjl : j < sz tb t := by rw [← b]; exact (List.getElem?_eq_some_iff.1 hj).1
      obtain ⟨i, f, hf, h1, h2⟩ := fieldsEnd_cover (hT.sz_st a) j (Nat.zero_le _) hjl
      have hi : i < xs.length := by rw [c]; exact (List.getElem?_eq_some_iff.1 hf).1
      refine ih i f xs[i] hf (List.getElem?_eq_getElem hi) v (List.mem_of_getElem? (i := j - f.2) ?_)
      rw [seg_get (by omega), show f.2 + (j - f.2) = j by omega]; exact hj
    | @arr t n u cs xs a b c d ih =>
      intro v hv
      obtain ⟨j, hj⟩ := List.getElem?_of_mem hv
      have hjl : j < n * sz tb u := by rw [← b]; exact (List.getElem?_eq_some_iff.1 hj).1
      have hu : 0 < sz tb u := by rcases Nat.eq_zero_or_pos (sz tb u) with h | h; · rw [h] at hjl; omega
                                  · exact h
      have hq : j / sz tb u < n := (Nat.div_lt_iff_lt_mul hu).2 hjl
      have hi : j / sz tb u < xs.length := by omega
      refine ih _ xs[j / sz tb u] (List.getElem?_eq_getElem hi) v (List.mem_of_getElem? (i := j % sz tb u) ?_)
      rw [seg_get (Nat.mod_lt _ hu), Nat.mul_comm, Nat.div_add_mod]; exact hj
    | @ifc t u cs x v a b c ih => intro v' hv; simp at hv; subst hv; rfl
    | _ => intro v hv; simp [sv] at hv; subst hv; rfl
  induction r with
  | e a => exact rdone a
  | @st t fs cs xs a b c d ih =>
    intro v hv
    obtain ⟨j, hj⟩ := List.getElem?_of_mem hv
    have hjl : j < sz tb t := by rw [← b]; exact (List.getElem?_eq_some_iff.1 hj).1
    obtain ⟨i, f, hf, h1, h2⟩ := fieldsEnd_cover (hT.sz_st a) j (Nat.zero_le _) hjl
    have hi : i < xs.length := by rw [c]; exact (List.getElem?_eq_some_iff.1 hf).1
    refine ih i f xs[i] hf (List.getElem?_eq_getElem hi) v (List.mem_of_getElem? (i := j - f.2) ?_)
    rw [seg_get (by omega), show f.2 + (j - f.2) = j by omega]; exact hj
  | @arr t n u cs xs a b c d ih =>
    intro v hv
    obtain ⟨j, hj⟩ := List.getElem?_of_mem hv
    have hjl : j < n * sz tb u := by rw [← b]; exact (List.getElem?_eq_some_iff.1 hj).1
    have hu : 0 < sz tb u := by rcases Nat.eq_zero_or_pos (sz tb u) with h | h; · rw [h] at hjl; omega
                                · exact h
    have hq : j / sz tb u < n := (Nat.div_lt_iff_lt_mul hu).2 hjl
    have hi : j / sz tb u < xs.length := by omega
    refine ih _ xs[j / sz tb u] (List.getElem?_eq_getElem hi) v (List.mem_of_getElem? (i := j % sz tb u) ?_)
    rw [seg_get (Nat.mod_lt _ hu), Nat.mul_comm, Nat.div_add_mod]; exact hj
  | nsl => intro v hv; simp at hv; subst hv; rfl
  | bsl => intro v hv; simp at hv; subst hv; rfl
  | lsl a b _ => exact rdone b
  | ptr => intro v hv; simp at hv; subst hv; rfl
  | fn => intro v hv; simp at hv; subst hv; rfl
  | msl a b _ => obtain ⟨_, _, rfl, _⟩ := b; intro v hv; simp at hv; subst hv; rfl
end
end Go.Den
