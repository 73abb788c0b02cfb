/- Composite values, literals of slices, texts and bytes. -/
import Derived.Test.YtgdfegmdjdnbdaaDenOp9
namespace Go.Den
open Go
set_option linter.unusedSectionVars false
set_option linter.unusedSimpArgs false
set_option linter.unusedVariables false

theorem fold_set (vs : List Value) : ∀ (o k : Nat) (cs : List Value), o + k + vs.length ≤ cs.length →
    ((vs.zipIdx k).foldl (fun (cs : Array Value) (p : Value × Nat) => cs.setIfInBounds (o + p.2) p.1) cs.toArray) = (splice cs (o + k) vs).toArray := by
  induction vs with
  | nil => intro o k cs h; simp [splice]
  | cons v vs ih =>
    intro o k cs h
    simp only [List.zipIdx_cons, List.foldl_cons]
    have h1 : (cs.toArray.setIfInBounds (o + k) v) = (cs.set (o + k) v).toArray := by simp
    rw [h1, ih o (k + 1) (cs.set (o + k) v) (by simp at h ⊢; omega)]
    congr 1
    simp at h
    apply List.ext_getElem?
    intro j
    rw [splice_get (by simp; omega), splice_get (by simp; omega)]
    by_cases h2 : j < o + k
    · rw [if_pos (by omega), if_pos h2, List.getElem?_set_ne (by omega)]
    · rw [if_neg h2]
      by_cases h3 : j = o + k
      · subst h3
        rw [if_pos (by omega), if_pos (by simp), List.getElem?_set_self (by omega)]; simp
      · rw [if_neg (by omega)]
        by_cases h4 : j < o + k + (v :: vs).length
        · rw [if_pos (by simp at h4; omega), if_pos h4]
          rw [show j - (o + k) = (j - (o + (k + 1))) + 1 by omega]; simp
        · rw [if_neg (by simp at h4; omega), if_neg h4, List.getElem?_set_ne (by omega)]

theorem fill_one {place : Nat → Option (Nat × Nat)} {cs vs : List Value} {v : Value} {i off size : Nat} {rest : List (Nat × Value)} (hp : place i = some (off, size)) (hc : v.cells = vs.toArray) (hl : vs.length = size) (hle : off + size ≤ cs.length) :
    Instr.fill place cs.toArray ((i, v) :: rest) = Instr.fill place (splice cs off vs).toArray rest := by
  have h1 : ¬ (v.cells.size ≠ size || decide (off + v.cells.size > cs.toArray.size)) = true := by
    simp [hc, hl]; omega
  simp only [Instr.fill, hp]
  rw [if_neg h1]
  congr 1
  rw [hc]
  have := fold_set vs off 0 cs (by omega)
  simp only [Nat.add_zero] at this
  rw [← this]
  simp [← Array.foldl_toList]

section
variable {C : Cx} (hC : Ok C) {o : Oper} {env : Env} {σ : List Blk}
include hC

/-- The parts of a composite value, put one after the other. -/
def partsT (tb : Tab) (env : Env) (tyOf : Nat → Option TypeId) : List (Nat × Operand) → Option (List (Nat × T))
  | [] => some []
  | (i, x) :: ps => match tyOf i with
    | some u => match opd tb env u x with
      | some d => match asT tb u d with
        | some y => match partsT tb env tyOf ps with
          | some zs => some ((i, y) :: zs)
          | none => none
        | none => none
      | none => none
    | none => none
def buildT : List (Nat × T) → T → T
  | [], z => z
  | (i, y) :: ps, z => buildT ps (putChild i y z)
def fieldTy (fs : List (TypeId × Nat)) (i : Nat) : Option TypeId := match fs[i]? with
  | some f => some f.1
  | none => none

theorem fill_struct {H β a n} (he : EnvRel C.tb H β σ n a env) {t : TypeId} {fs : List (TypeId × Nat)} (hst : td C.tb t = .st fs) {place : Nat → Option (Nat × Nat)} (hp : ∀ i f, fs[i]? = some f → place i = some (f.2, sz C.tb f.1)) :
    ∀ (ps : List (Nat × Operand)) (qs : List (Nat × T)) (cs : List Value) (z : T), partsT C.tb env (fieldTy fs) ps = some qs → TRel C.tb H β σ t cs z →
      ∃ cs', Instr.fill place cs.toArray (ps.map fun p => (p.1, a.eval p.2)) = some cs'.toArray ∧ TRel C.tb H β σ t cs' (buildT qs z)
  | [], qs, cs, z, h, hz => by simp [partsT] at h; subst h; exact ⟨cs, rfl, hz⟩
  | (i, x) :: ps, qs, cs, z, h, hz => by
    unfold partsT at h
    split at h
    · rename_i u hu
      split at h
      · rename_i d hd
        split at h
        · rename_i y hy
          split at h
          · rename_i zs hzs
            cases h
            unfold fieldTy at hu
            split at hu
            · rename_i f hf
              cases hu
              obtain ⟨vs, hvc, hvt⟩ := asT_rel hC (opd_rel he hd) hy
              have hle := ((fieldsEnd_spec (hC.tab.sz_st hst)).2 i f hf).2.1
              have hlen := hz.len hC.tab
              have h1 := (hz.putChild hC.tab).1 fs hst i f vs y hf hvt
              have h2 := fill_one (place := place) (cs := cs) (v := a.eval x) (rest := ps.map fun p => (p.1, a.eval p.2)) (hp i f hf) (hvc.cells hvt hC.tab) (hvt.len hC.tab) (by omega)
              obtain ⟨cs', k1, k2⟩ := fill_struct he hst hp ps zs _ _ hzs h1
              exact ⟨cs', by rw [List.map_cons, h2]; exact k1, k2⟩
            · cases hu
          · cases h
        · cases h
      · cases h
    · cases h
theorem fill_array {H β a n} (he : EnvRel C.tb H β σ n a env) {t u : TypeId} {m : Nat} (hst : td C.tb t = .arr m u) :
    ∀ (ps : List (Nat × Operand)) (qs : List (Nat × T)) (cs : List Value) (z : T), partsT C.tb env (fun i => if i < m then some u else none) ps = some qs → TRel C.tb H β σ t cs z →
      ∃ cs', Instr.fill (fun i => some (i * sz C.tb u, sz C.tb u)) cs.toArray (ps.map fun p => (p.1, a.eval p.2)) = some cs'.toArray ∧ TRel C.tb H β σ t cs' (buildT qs z)
  | [], qs, cs, z, h, hz => by simp [partsT] at h; subst h; exact ⟨cs, rfl, hz⟩
  | (i, x) :: ps, qs, cs, z, h, hz => by
    unfold partsT at h
    split at h
    · rename_i u' hu
      split at h
      · rename_i d hd
        split at h
        · rename_i y hy
          split at h
          · rename_i zs hzs
            cases h
            split at hu
            · rename_i him
              cases hu
              obtain ⟨vs, hvc, hvt⟩ := asT_rel hC (opd_rel he hd) hy
              have hlen := hz.len hC.tab
              rw [hC.tab.sz_arr hst] at hlen
              have hle : i * sz C.tb u + sz C.tb u ≤ m * sz C.tb u := by
                have := Nat.mul_le_mul_right (sz C.tb u) (show i + 1 ≤ m from him); rwa [Nat.add_mul, Nat.one_mul] at this
              have h1 := (hz.putChild hC.tab).2 m u hst i vs y him hvt
              have h2 := fill_one (place := fun i => some (i * sz C.tb u, sz C.tb u)) (cs := cs) (v := a.eval x) (rest := ps.map fun p => (p.1, a.eval p.2)) (i := i) rfl (hvc.cells hvt hC.tab) (hvt.len hC.tab) (by omega)
              obtain ⟨cs', k1, k2⟩ := fill_array he hst ps zs _ _ hzs h1
              exact ⟨cs', by rw [List.map_cons, h2]; exact k1, k2⟩
            · cases hu
          · cases h
        · cases h
      · cases h
    · cases h

theorem Ok_buildS {t : TypeId} {ps : Array (Nat × Operand)} {fs : List (TypeId × Nat)} {qs : List (Nat × T)} (ho : o.op = .build t ps) (hst : td C.tb t = .st fs) (hz : plain C.tb zf t = true)
    (hps : partsT C.tb env (fieldTy fs) ps.toList = some qs) : OpOk C o env σ ⟨True, ldD t (buildT qs (zeroT C.tb zf t)), σ⟩ :=
  OpOk_val fun H β a w hr he => by
    obtain ⟨z, hzr, hzc⟩ := hC.zero.all hC.tab hz
    have hz0 := zeroT_rel hC.tab (H := H) (β := β) (σ := σ) zf t hz
    obtain ⟨gs, hg, hge⟩ := hC.tab.st hst
    have hall : ∀ f ∈ gs.toList, f.type < C.tb.length := fun f hf => by
      obtain ⟨i, hi⟩ := List.getElem?_of_mem hf
      have hf2 : fs[i]? = some (f.type, f.offset) := by rw [← hge]; simp at hi ⊢; exact ⟨f, hi, rfl, rfl⟩
      have hp : plain C.tb zf t = true := hz
      have : ∃ n, zf = n + 1 := ⟨11, rfl⟩
      obtain ⟨n, hn⟩ := this
      rw [hn] at hp
      unfold plain at hp
      rw [hst] at hp
      simp only at hp
      have := List.all_eq_true.1 hp _ (List.mem_of_getElem? hf2)
      exact hC.tab.lt_of_td (plain_ne this)
    have hpl : ∀ (w : World) (gs : List Field), (∀ f ∈ gs, f.type < C.tb.length) → (gs.mapM (fun f => do pure (f.offset, ← sizeOf f.type) : Field → Sem (Nat × Nat))).run C.P w = .ok (gs.map fun f => (f.offset, sz C.tb f.type)) w := by
      intro w gs
      induction gs with
      | nil => intro _; rfl
      | cons g gs ih =>
        intro h
        simp only [List.mapM_cons, Sem.run_bind, run_sizeOf_of hC.tab (h g (by simp)), Result.andThen, Sem.run_pure, ih (fun f hf => h f (by simp [hf]))]
        rfl
    obtain ⟨cs', k1, k2⟩ := fill_struct hC he hst (place := ((gs.map fun f => (f.offset, sz C.tb f.type))[·]?)) (fun i f hf => by
      rw [← hge] at hf
      simp only [List.getElem?_map, Option.map_eq_some_iff] at hf
      obtain ⟨g, hg1, rfl⟩ := hf
      simp only [Array.getElem?_map]
      simp at hg1
      rw [hg1]; rfl) ps.toList qs (zc C.tb zf t) _ hps hz0
    refine ⟨.agg cs'.toArray, fun w' hw' => ?_, ldD_rel (by simp [VC, isAggT, hst]) k2⟩
    have hm := hpl w' gs.toList hall
    have hzca : z.cells = (zc C.tb zf t).toArray := by rw [← hzc]
    simp only [execOp, ho, Instr.build, Sem.run_bind, hzr, Result.andThen, run_underlying_of hC.tab hg]
    rw [Array.mapM_eq_mapM_toList]
    simp only [Sem.run_map, hm, Result.andThen]
    have hmap : (ps.map fun (i, x) => (i, a.eval x)).toList = ps.toList.map fun p => (p.1, a.eval p.2) := by simp
    have hk : Instr.fill (((gs.toList.map fun f => (f.offset, sz C.tb f.type)).toArray)[·]?) z.cells (ps.map fun (i, x) => (i, a.eval x)).toList = some cs'.toArray := by
      rw [hmap, hzca, ← k1]
      congr 1
      funext i
      simp
    rw [hk]
    rfl

/-- The elements of a literal, all of them there and in order. -/
def denseE (tb : Tab) (env : Env) (u : TypeId) : Nat → List (Nat × Operand) → Option (List E)
  | _, [] => some []
  | k, (i, x) :: ps => match Nat.beq i k with
    | true => match argE tb env u x with
      | some y => match denseE tb env u (k + 1) ps with
        | some ys => some (y :: ys)
        | none => none
      | none => none
    | false => none

theorem argE_rel' {t x y H β n a} (he : EnvRel C.tb H β σ n a env) (h : argE C.tb env t x = some y) : ∃ cs, VC C.tb t (a.eval x) cs ∧ Rd C.tb H t cs y := by
  unfold argE at h
  split at h
  · rename_i d hd
    split at h
    · rename_i z hz
      obtain ⟨cs, h1, h2⟩ := asT_rel hC (opd_rel he hd) hz
      exact ⟨cs, h1, h2.toE h⟩
    · cases h
  · cases h

theorem fill_dense {H β a n} (he : EnvRel C.tb H β σ n a env) {u : TypeId} : ∀ (ps : List (Nat × Operand)) (ys : List E) (k : Nat) (done rest : List Value), denseE C.tb env u k ps = some ys → done.length = k * sz C.tb u → rest.length = ys.length * sz C.tb u →
    ∃ cs, Instr.fill (fun i => some (i * sz C.tb u, sz C.tb u)) (done ++ rest).toArray (ps.map fun p => (p.1, a.eval p.2)) = some (done ++ cs).toArray ∧ RowC C.tb H u cs ys
  | [], ys, k, done, rest, h, h1, h2 => by
    simp [denseE] at h; subst h
    have : rest = [] := List.length_eq_zero_iff.1 (by simpa using h2)
    subst this
    exact ⟨[], rfl, ⟨by simp, fun i x hx => by simp at hx⟩⟩
  | (i, x) :: ps, ys, k, done, rest, h, h1, h2 => by
    unfold denseE at h
    split at h
    · rename_i hik
      have hik := Nat.eq_of_beq_eq_true hik
      subst hik
      split at h
      · rename_i y hy
        split at h
        · rename_i zs hzs
          cases h
          obtain ⟨vs, hvc, hrd⟩ := argE_rel' hC he hy
          have hvl := hrd.len hC.tab
          have hrl : rest.length = (zs.length + 1) * sz C.tb u := by simpa using h2
          rw [Nat.add_mul, Nat.one_mul] at hrl
          have hf := fill_one (place := fun i => some (i * sz C.tb u, sz C.tb u)) (cs := done ++ rest) (v := a.eval x) (rest := ps.map fun p => (p.1, a.eval p.2)) (i := i) rfl (hvc.cells (.e hrd : TRel C.tb H β σ u vs (.e y)) hC.tab) hvl (by simp; omega)
          have hsp : splice (done ++ rest) (i * sz C.tb u) vs = (done ++ vs) ++ rest.drop vs.length := by
            unfold splice
            rw [← h1, List.take_left, ← List.drop_drop, List.drop_left]
          obtain ⟨cs, k1, k2⟩ := fill_dense he ps zs (i + 1) (done ++ vs) (rest.drop vs.length) hzs (by simp [h1, hvl, Nat.add_mul]) (by simp; omega)
          refine ⟨vs ++ cs, ?_, ?_⟩
          · rw [List.map_cons, hf, hsp, k1]; simp
          · have h1row : RowC C.tb H u vs [y] := ⟨by simp [hvl], fun j z hz => by
              have hj : j = 0 := by have := (List.getElem?_eq_some_iff.1 hz).1; simp at this; omega
              subst hj
              simp at hz; subst hz
              rw [Nat.zero_mul, ← hvl, seg_all]; exact hrd⟩
            exact h1row.app k2
        · cases h
      · cases h
    · cases h

theorem Ok_buildSlice {t u : TypeId} {len : Nat} {ps : Array (Nat × Operand)} {ys : List E} (ho : o.op = .buildSlice t len ps) (ht : td C.tb t = .sl u) (hz : plain C.tb zf u = true)
    (hys : denseE C.tb env u 0 ps.toList = some ys) (hl : ys.length = len) (hb : len * sz C.tb u ≤ 16777216) (hlm : len ≤ maxN) : OpOk C o env σ ⟨True, .t t (.bsl ys), σ⟩ := by
  refine OpOk_do (by simp [isVal, ho]) ?_
  intro H β a w hr he hd K Qx hK
  have hu := plain_ne hz
  have hlt := hC.tab.lt_of_td hu
  obtain ⟨z, hzr, hzc⟩ := hC.zero.get hC.tab hz w
  have hmap : (ps.map fun (i, x) => (i, a.eval x)).toList = ps.toList.map fun p => (p.1, a.eval p.2) := by simp
  have key : ∀ Z : Array Value, Z.size = len * sz C.tb u → ∃ cs, Instr.fill (fun i => some (i * sz C.tb u, sz C.tb u)) Z (ps.map fun (i, x) => (i, a.eval x)).toList = some cs.toArray ∧ RowC C.tb H u cs ys := fun Z hZ => by
    obtain ⟨cs, k1, k2⟩ := fill_dense hC he ps.toList ys 0 [] Z.toList hys (by simp) (by rw [hl]; simpa using hZ)
    exact ⟨cs, by rw [hmap]; simpa using k1, k2⟩
  have hnb : ¬ (len * sz C.tb u > 2 ^ 24) := by omega
  have hrun : ∃ cs, RowC C.tb H u cs ys ∧ (execOp a.eval o).run C.P w = .ok (.value (.slice (some ⟨w.heap.size, 0, none⟩) len len)) (w.alloc (.cells cs.toArray u)) := by
    simp only [execOp, ho, Instr.buildSlice, Sem.run_bind, run_underlying_of hC.tab (hC.tab.sl ht), Result.andThen, run_sizeOf_of hC.tab hlt, if_neg hnb, Sem.run_pure]
    by_cases h0 : len * sz C.tb u = 0
    · obtain ⟨cs, k1, k2⟩ := key #[] (by simp [h0])
      refine ⟨cs, k2, ?_⟩
      have h00 : Array.range 0 = #[] := rfl
      simp only [h0, if_true, Sem.run_pure, h00, Array.map_empty, k1]
      simp [newRow]
    · obtain ⟨cs, k1, k2⟩ := key ((Array.range (len * sz C.tb u)).map fun j => z.cells[j % z.cells.size]!) (by simp)
      refine ⟨cs, k2, ?_⟩
      simp only [if_neg h0, Sem.run_bind, hzr, Result.andThen, Sem.run_pure, k1]
      simp [newRow]
  obtain ⟨cs, k2, hrun⟩ := hrun
  let f : Nat → Own := fun o => if o < cs.length then .pers (cs.getD o undef) else .none
  have r := hr.alloc (.cells cs.toArray u) f [] [] rfl (fun o v hv => by
      have hv' : (if o < cs.length then Own.pers (cs.getD o undef) else .none) = .pers v := hv
      split at hv'
      · rename_i h; cases hv'
        rw [World.cell?_alloc_new]; simp only [List.getElem?_toArray, List.getD, List.getElem?_eq_getElem h, Option.getD_some]
      · cases hv') (fun i k bv hk => by simp at hk)
  simp only [List.append_nil] at r
  simp only [Oper.wp, hrun, Oper.upon]
  refine hK _ _ _ _ β σ ⟨rfl, rfl⟩ r.1 ?_ (Stp.alloc hr.dom _ _) r.2
  have hpm := r.2.pers
  have hnag : isAggT C.tb t = false := by simp [isAggT, ht]
  refine .t (cs := [.slice (some ⟨w.heap.size, 0, none⟩) len len]) (by simp [VC, hnag]) ?_
  rw [← hl]
  refine .bsl ht ?_
  refine .sl (cs := cs) ht k2.len (fun j v hj => ?_) (fun i x hx => (k2.el i x hx).mono hpm) (Nat.le_refl _) (by rw [hl]; exact hlm)
  have hjl := (List.getElem?_eq_some_iff.1 hj).1
  rw [Nat.zero_add, hAlloc_new]
  show (if j < cs.length then Own.pers (cs.getD j undef) else .none) = _
  rw [if_pos hjl]; simp [List.getD, hj]

end
end Go.Den
