/- Variables: alloc, box, load, store, addresses of parts. -/
import Derived.Test.YtgdfegmdjdnbdaaDenOp4
namespace Go.Den
open Go
set_option linter.unusedSectionVars false
set_option linter.unusedSimpArgs false
set_option linter.unusedVariables false

def zf : Nat := 12
def zeroAt (P : Program) (tb : Tab) (t : TypeId) : Option (List Value) := if plain tb zf t then ((P.info? t).bind (·.zero)).map (·.cells.toList) else none
def zeroWant (tb : Tab) (t : TypeId) : Option (List Value) := if plain tb zf t then some (zc tb zf t) else none
/-- The program's zero values are those that are reckoned off the table. -/
def ZeroOk (P : Program) (tb : Tab) : Prop := (List.range tb.length).map (zeroAt P tb) = (List.range tb.length).map (zeroWant tb)

theorem plain_ne {tb : Tab} {n t} (h : plain tb n t = true) : td tb t ≠ .other := by
  cases n with
  | zero => simp [plain] at h
  | succ n => intro he; simp [plain, he] at h

theorem ZeroOk.all {P : Program} {tb : Tab} (hT : TabOk P tb) (hz : ZeroOk P tb) {t : TypeId} (h : plain tb zf t = true) :
    ∃ v, (∀ w, (zeroValue t).run P w = .ok v w) ∧ v.cells.toList = zc tb zf t := by
  have hlt := hT.lt_of_td (plain_ne h)
  have he : ((List.range tb.length).map (zeroAt P tb))[t]? = ((List.range tb.length).map (zeroWant tb))[t]? := by rw [hz]
  rw [List.getElem?_map, List.getElem?_map, List.getElem?_range hlt] at he
  simp only [Option.map_some, Option.some.injEq, zeroAt, zeroWant, h, if_true] at he
  obtain ⟨i, hi, _, _⟩ := hT.info hlt
  rw [hi] at he
  simp only [Option.bind_some, Option.map_eq_some_iff] at he
  obtain ⟨v, hv, hc⟩ := he
  exact ⟨v, fun w => by simp [zeroValue, typeInfo, hi, hv], hc⟩
theorem ZeroOk.get {P : Program} {tb : Tab} (hT : TabOk P tb) (hz : ZeroOk P tb) {t : TypeId} (h : plain tb zf t = true) (w : World) :
    ∃ v, (zeroValue t).run P w = .ok v w ∧ v.cells.toList = zc tb zf t := by
  obtain ⟨v, h1, h2⟩ := hz.all hT h
  exact ⟨v, h1 w, h2⟩

structure Ok (C : Cx) : Prop where
  tab : TabOk C.P C.tb
  zero : ZeroOk C.P C.tb
  bt : td C.tb C.bt = .bool

section
variable {C : Cx} (hC : Ok C) {o : Oper} {env : Env} {σ : List Blk}
include hC

theorem Ok_alloc {elem : TypeId} (ho : o.op = .alloc elem) (hp : plain C.tb zf elem = true) :
    OpOk C o env σ ⟨True, .ptr σ.length [], σ ++ [.tree elem (zeroT C.tb zf elem)]⟩ := by
  refine OpOk_do (by simp [isVal, ho]) ?_
  intro H β a w hr he hd K Qx hK
  obtain ⟨v, hv, hc⟩ := hC.zero.get hC.tab hp w
  have hx := zeroT_rel hC.tab (H := H) (β := β) (σ := σ) zf elem hp
  obtain ⟨H', r1, r2, r3⟩ := hr.newTree hC.tab hx elem rfl
  have hrun : (execOp a.eval o).run C.P w = .ok (.value (.pointer (some ⟨w.heap.size, 0, none⟩))) (w.alloc (.cells (zc C.tb zf elem).toArray elem)) := by
    rw [← hc]
    simp [execOp, ho, Instr.alloc, hv, newVar, newRow]
  simp only [Oper.wp, hrun, Oper.upon]
  exact hK _ _ _ H' _ _ ⟨rfl, rfl⟩ r1 (.ptr (newPtr hr.len rfl)) r3 r2

/-- A datum as a tree: for a store, a box, a part. -/
def asT (tb : Tab) (t : TypeId) : D → Option T
  | .t u x => match same tb u t with | true => some x | false => none
  | .ptr i p => match td tb t with | .ptr _ => some (.ptr i p) | _ => none
  | .kb u b => match same tb u t with | true => some (.e (.bool b)) | false => none
  | _ => none
omit hC in
theorem VC.cells {tb : Tab} {t v cs} {H β x} (hv : VC tb t v cs) (r : TRel tb H β σ t cs x) (hT : TabOk C.P tb) : v.cells = cs.toArray := by
  unfold VC at hv
  split at hv
  · subst hv; rfl
  · subst hv
    have := r.one hT v (by simp)
    cases v <;> simp_all [Value.cells, Value.oneCell']
theorem asT_rel {t v d x H β} (hv : DRel C.tb H β σ v d) (h : asT C.tb t d = some x) : ∃ cs, VC C.tb t v cs ∧ TRel C.tb H β σ t cs x := by
  unfold asT at h
  split at h
  · split at h
    · rename_i hs; cases h
      have hs' := same_td hs
      cases hv with
      | @t ty v cs x a b => exact ⟨cs, by simpa [VC, isAggT_of hs'] using a, b.cast hC.tab hs'⟩
    · cases h
  · split at h
    · rename_i ht; cases h
      cases hv with
      | ptr a => exact ⟨[_], by simp [VC, isAggT, ht], .ptr ht a⟩
    · cases h
  · split at h
    · rename_i hs; cases h
      have hs' := same_td hs
      cases hv with
      | kb a => exact ⟨[_], by simp [VC, isAggT, hs'.symm.trans a], .e (.bool (hs'.symm.trans a))⟩
    · cases h
  · cases h

theorem Ok_box {elem : TypeId} {x : Operand} {d : D} {y : T} (ho : o.op = .box elem x) (hx : opd C.tb env elem x = some d) (hy : asT C.tb elem d = some y) :
    OpOk C o env σ ⟨True, .ptr σ.length [], σ ++ [.tree elem y]⟩ := by
  refine OpOk_do (by simp [isVal, ho]) ?_
  intro H β a w hr he hd K Qx hK
  obtain ⟨cs, hv, ht⟩ := asT_rel hC (opd_rel he hx) hy
  obtain ⟨H', r1, r2, r3⟩ := hr.newTree hC.tab ht elem rfl
  have hcell := hv.cells ht hC.tab
  have hrun : (execOp a.eval o).run C.P w = .ok (.value (.pointer (some ⟨w.heap.size, 0, none⟩))) (w.alloc (.cells cs.toArray elem)) := by
    simp [execOp, ho, Instr.box, newVar, newRow, hcell]
  simp only [Oper.wp, hrun, Oper.upon]
  exact hK _ _ _ H' _ _ ⟨rfl, rfl⟩ r1 (.ptr (newPtr hr.len rfl)) r3 r2

omit hC in
theorem DRel.ptr_inv {tb H β v i p} (h : DRel tb H β σ v (.ptr i p)) : ∃ a, v = .pointer (some a) ∧ PtrAt tb β σ i p a := by
  cases h with
  | ptr a => exact ⟨_, rfl, a⟩

/-- The cells behind a pointer of our own. -/
theorem Rel.at {H β w i p a} (hr : Rel C.tb H β σ w) (hp : PtrAt C.tb β σ i p a) : ∃ b off ty X o' u, a = ⟨b, off + o', none⟩ ∧ σ[i]? = some (.tree ty X) ∧ β[i]? = some (.pointer (some ⟨b, off, none⟩)) ∧ offT C.tb ty p = some (o', u) ∧ tyAt C.tb ty p = u ∧
    ∃ cs, cs.length = sz C.tb ty ∧ (∀ (j : Nat) v, cs[j]? = some v → w.cell? ⟨b, off + j, none⟩ = some v ∧ H b (off + j) = .mine i ∧ w.frozen? ⟨b, off + j, none⟩ = false) ∧ TRel C.tb H β σ ty cs X ∧ (0 < sz C.tb ty → off = 0 ∧ w.shape? b = some (ty, sz C.tb ty)) := by
  obtain ⟨b, off, ty, X, o', u, e1, e2, e3, e4⟩ := hp
  have hb := hr.blk i _ _ e2 e1
  obtain ⟨b2, off2, cs, f1, f2, f0, f3, f4⟩ := hb
  cases f1
  exact ⟨b, off, ty, X, o', u, e4, e2, e1, e3, tyAt_of e3, cs, f2, f3, f4, f0⟩

theorem Ok_load {t : TypeId} {s i : Nat} {p : List Nat} {ty : TypeId} {X : T} (ho : o.op = .load t (.tmp s)) (hs : getD env s = .ptr i p) (hi : σ[i]? = some (.tree ty X))
    (ht : same C.tb (tyAt C.tb ty p) t = true) : OpOk C o env σ ⟨True, ldD t (getT p X), σ⟩ :=
  OpOk_val fun H β a w hr he => by
    have hv := he.get s
    rw [hs] at hv
    obtain ⟨ad, hv, hp⟩ := hv.ptr_inv
    obtain ⟨b, off, ty', X', o', u, rfl, e2, e1, e3, e4, cs, f2, f3, f4, _⟩ := hr.at hC hp
    rw [hi] at e2; cases e2
    rw [e4] at ht
    have ht' := same_td ht
    have hpart := (f4.part hC.tab e3).cast hC.tab ht'
    have hle := offT_le hC.tab e3
    obtain ⟨v, hrun, hvc⟩ := run_loadVar_all hC.tab (P := C.P) (b := b) (o := off + o') (vs := seg cs o' (sz C.tb u)) (hpart.len hC.tab) hpart.td_ne
    refine ⟨v, fun w' hw' => ?_, ldD_rel hvc hpart⟩
    have hrs : rsOf env o.op = [i] := by simp [rsOf, ho, hs]
    rw [hrs] at hw'
    have hrun := hrun w' (fun j v hj => by
      have hjl : j < sz C.tb u := by
        rcases Nat.lt_or_ge j (sz C.tb u) with h | h
        · exact h
        · rw [List.getElem?_eq_none (by simp [seg]; omega)] at hj; cases hj
      rw [seg_get hjl] at hj
      have := hw' _ _ _ (f3 (o' + j) v hj).1 (.inr ⟨i, by simp, (f3 (o' + j) v hj).2.1⟩)
      rwa [← Nat.add_assoc] at this)
    simp [execOp, ho, Act.eval, hv, Instr.loadAt, Instr.sureAddr, hrun]

theorem Ok_loadE {t : TypeId} {s j : Nat} {u : TypeId} {xs : List E} {p : List Nat} (ho : o.op = .load t (.tmp s)) (hs : getD env s = .el u xs j p)
    (ht : same C.tb (tyAt C.tb u p) t = true) : OpOk C o env σ ⟨True, .t t (.e (getE p (xs.getD j .nilp))), σ⟩ :=
  OpOk_val fun H β a w hr he => by
    have hv := he.get s
    rw [hs] at hv
    generalize hx : a.tmps.getD s undef = vx at hv
    cases hv with
    | @el u b off cs xs j p o' vt h1 h2 h3 h4 h5 =>
      rw [tyAt_of h5] at ht
      have ht' := same_td ht
      have hel := h3 j xs[j] (List.getElem?_eq_getElem h4)
      have hpart := (hel.part hC.tab h5).cast hC.tab ht'
      have hle := offT_le hC.tab h5
      have hin : j * sz C.tb u + sz C.tb u ≤ cs.length := by
        rw [h1]; have := Nat.mul_le_mul_right (sz C.tb u) (show j + 1 ≤ xs.length from h4); rwa [Nat.add_mul, Nat.one_mul] at this
      rw [seg_seg hle] at hpart
      obtain ⟨v, hrun, hvc⟩ := run_loadVar_all hC.tab (P := C.P) (b := b) (o := off + (j * sz C.tb u + o')) (hpart.len hC.tab) hpart.td_ne
      refine ⟨v, fun w' hw' => ?_, ?_⟩
      have hrun := hrun w' (fun i v hi => by
        have hil : i < sz C.tb vt := by
          rcases Nat.lt_or_ge i (sz C.tb vt) with h | h
          · exact h
          · rw [List.getElem?_eq_none (by simp [seg]; omega)] at hi; cases hi
        rw [seg_get hil] at hi
        have := hw' _ _ _ (hr.pers _ _ _ (h2 _ v hi)) (.inl ⟨_, h2 _ v hi⟩)
        rwa [← Nat.add_assoc] at this)
      · simp [execOp, ho, Act.eval, hx, Instr.loadAt, Instr.sureAddr, hrun]
      · have hg : xs.getD j .nilp = xs[j] := by simp [h4]
        rw [hg]
        exact .t hvc (.e hpart)

end
end Go.Den
