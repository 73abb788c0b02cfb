/- A store into a variable; addresses of parts. -/
import Derived.Test.YtgdfegmdjdnbdaaDenOp5
namespace Go.Den
open Go
set_option linter.unusedSectionVars false
set_option linter.unusedSimpArgs false
set_option linter.unusedVariables false

theorem setCells_os (b : Nat) : ∀ (vs : List Value) (o : Nat) (w : World), (w.setCells b o vs).os = w.os ∧ (w.setCells b o vs).tape = w.tape ∧ (w.setCells b o vs).output = w.output ∧ (w.setCells b o vs).heap.size = w.heap.size
  | [], _, _ => ⟨rfl, rfl, rfl, rfl⟩
  | v :: r, o, w => by
    obtain ⟨h1, h2, h3, h4⟩ := setCells_os b r (o + 1) (w.setCell ⟨b, o, none⟩ v)
    exact ⟨h1, h2, h3, h4.trans (World.size_setCell _ _ _)⟩
theorem setCells_heap (b : Nat) : ∀ (vs : List Value) (o : Nat) (w : World) (k : Nat), k ≠ b → (w.setCells b o vs).heap[k]? = w.heap[k]?
  | [], _, _, _, _ => rfl
  | v :: r, o, w, k, h => (setCells_heap b r (o + 1) _ k h).trans (heap_setCell_other w _ k v h)
theorem setCells_cell {b o : Nat} {vs : List Value} {w : World} {b' o' : Nat} (h : b' = b → o' < o ∨ o + vs.length ≤ o') :
    (w.setCells b o vs).cell? ⟨b', o', none⟩ = w.cell? ⟨b', o', none⟩ := World.cell?_setCells_out b vs o w ⟨b', o', none⟩ fun e _ => h e

theorem shape?_setCell (w : World) (a : Addr) (v : Value) (b : Nat) : (w.setCell a v).shape? b = w.shape? b := by
  simp only [World.shape?, World.setCell, Array.getElem?_modify]
  by_cases h : a.block = b
  · rw [if_pos h]
    cases w.heap[b]? with
    | none => rfl
    | some ob =>
      cases ob <;> try rfl
      simp only [Option.map_some]
      split <;> simp
  · rw [if_neg h]
theorem shape?_setCells (b : Nat) : ∀ (vs : List Value) (o : Nat) (w : World) (b' : Nat), (w.setCells b o vs).shape? b' = w.shape? b'
  | [], _, _, _ => rfl
  | v :: r, o, w, b' => (shape?_setCells b r (o + 1) _ b').trans (shape?_setCell _ _ _ _)

/-- Writing a run of cells that are block i's own. -/
theorem Rel.write {tb H β σ w i} (h : Rel tb H β σ w) {b o : Nat} {vs : List Value} (hm : ∀ j, j < vs.length → H b (o + j) = .mine i) {k : Blk} {bv : Value} (hβ : β[i]? = some bv)
    (hi : ∃ k0, σ[i]? = some k0 ∧ (∀ ty x, k0 = .tree ty x → ∃ x', k = .tree ty x') ∧ (∀ ety n, k0 = .row ety n → k = .row ety n) ∧ (∀ s p, k0 = .iter s p → k = .iter s p) ∧ (∀ u o xs, k0 = .mrow u o xs → ∃ xs', k = .mrow u o xs' ∧ xs'.length = xs.length))
    (hk : Ev H β σ H β (σ.set i k) → BlkRel tb H β (σ.set i k) (w.setCells b o vs) i bv k) :
    Rel tb H β (σ.set i k) (w.setCells b o vs) ∧ Ev H β σ H β (σ.set i k) ∧ Stp H w H (w.setCells b o vs) := by
  obtain ⟨k0, h0, ht, hrw, hit, hmr⟩ := hi
  have hil : i < σ.length := (List.getElem?_eq_some_iff.1 h0).1
  have hget : ∀ (j : Nat) kj, σ[j]? = some kj → j ≠ i → (σ.set i k)[j]? = some kj := fun j kj hj hne => by rw [List.getElem?_set_ne (Ne.symm hne)]; exact hj
  have hself : (σ.set i k)[i]? = some k := by simp [hil]
  have hev : Ev H β σ H β (σ.set i k) := by
    refine ⟨fun _ _ _ e => e, ?_, ?_, ?_, ?_⟩
    · intro j ty x hj
      refine ⟨rfl, ?_⟩
      by_cases hji : j = i
      · subst hji; rw [h0] at hj; cases hj
        obtain ⟨x', rfl⟩ := ht ty x rfl
        exact ⟨x', hself⟩
      · exact ⟨x, hget j _ hj hji⟩
    · intro j ety n hj
      by_cases hji : j = i
      · subst hji; rw [h0] at hj; cases hj
        have := hrw ety n rfl; subst this
        exact ⟨n, hself, Nat.le_refl _, fun _ => rfl⟩
      · exact ⟨n, hget j _ hj hji, Nat.le_refl _, fun _ => rfl⟩
    · intro j s p hj
      refine ⟨rfl, ?_⟩
      by_cases hji : j = i
      · subst hji; rw [h0] at hj; cases hj
        have := hit s p rfl; subst this
        exact ⟨s, p, hself⟩
      · exact ⟨s, p, hget j _ hj hji⟩
    · intro j u o xs hj
      by_cases hji : j = i
      · subst hji; rw [h0] at hj; cases hj
        obtain ⟨xs', rfl, hl⟩ := hmr u o xs rfl
        exact ⟨o, xs', hself, by omega, fun _ => rfl⟩
      · exact ⟨o, xs, hget j _ hj hji, Nat.le_refl _, fun _ => rfl⟩
  have hcell : ∀ b' o', H b' o' ≠ .mine i → (w.setCells b o vs).cell? ⟨b', o', none⟩ = w.cell? ⟨b', o', none⟩ := fun b' o' hne => setCells_cell fun e => by
    subst e
    rcases Nat.lt_or_ge o' o with h1 | h1
    · exact .inl h1
    · rcases Nat.lt_or_ge o' (o + vs.length) with h2 | h2
      · exact absurd (by have := hm (o' - o) (by omega); rwa [show o + (o' - o) = o' by omega] at this) hne
      · exact .inr h2
  have hsz := setCells_os b vs o w
  refine ⟨⟨fun b' o' v hb => (hcell b' o' (by rw [hb]; simp)).trans (h.pers b' o' v hb), fun b' o' hb => by rw [hsz.2.2.2]; exact h.dom b' o' hb, by simp [h.len], ?_⟩, hev, ?_⟩
  · intro j kj bvj hj hvj
    by_cases hji : j = i
    · subst hji
      rw [hself] at hj; cases hj
      rw [hβ] at hvj; cases hvj
      exact hk hev
    · rw [List.getElem?_set_ne (Ne.symm hji)] at hj
      refine (h.blk j kj bvj hj hvj).mono hev (fun b' o' hb => ⟨hb, hcell b' o' (by rw [hb]; simp; omega), fun _ _ => World.frozen?_setCells b vs o w _, shape?_setCells b vs o w _⟩) (fun b' s p hb hs => ?_)
      have hbb : b' ≠ b ∨ vs.length = 0 := by
        rcases Nat.eq_zero_or_pos vs.length with hz | hz
        · exact .inr hz
        · refine .inl fun e => ?_
          subst e
          have h1 := hm 0 hz
          rw [hb] at h1; cases h1; exact hji rfl
      rcases hbb with hbb | hbb
      · rw [setCells_heap b vs o w b' hbb]; exact hs
      · rw [List.length_eq_zero_iff.1 hbb]; exact hs
  · refine ⟨hsz.1, hsz.2.1, hsz.2.2.1, by rw [hsz.2.2.2]; omega, fun _ _ _ _ => rfl, fun _ _ _ i h => ⟨i, h⟩, ?_, ?_, ?_, fun b' _ => shape?_setCells b vs o w _⟩
    · intro b' hb' hn
      rcases Nat.eq_zero_or_pos vs.length with hz | hz
      · rw [List.length_eq_zero_iff.1 hz]; rfl
      · exact setCells_heap b vs o w b' fun e => by subst e; exact hn _ _ (hm 0 hz)
    · exact fun b' hb' o' hn => hcell b' o' (hn i)
    · exact fun b' hb' o' _ _ hn => World.frozen?_setCells b vs o w _

section
variable {C : Cx} (hC : Ok C) {o : Oper} {env : Env} {σ : List Blk}
include hC

theorem run_storeVar {t b off : Nat} {v : Value} {vs : List Value} {w : World} (hc : v.cells = vs.toArray) (hl : vs.length = sz C.tb t) (ht : td C.tb t ≠ .other)
    (h1 : ∀ c ∈ vs, c.oneCell' = true) (hcell : ∀ j, j < vs.length → (w.cell? ⟨b, off + j, none⟩).isSome = true) (hf : ∀ j, j < vs.length → w.frozen? ⟨b, off + j, none⟩ = false) :
    (storeVar t ⟨b, off, none⟩ v).run C.P w = .ok () (w.setCells b off vs) := by
  have hlt := hC.tab.lt_of_td ht
  simp only [storeVar, Sem.run_bind, run_sizeOf_of hC.tab hlt, Result.andThen, hc]
  have := run_storeCells_cells (P := C.P) b off vs 0 w (by simpa using hcell) (by simpa using hf) h1
  simp only [Nat.add_zero] at this
  simp [hl, this]

theorem Ok_store {t : TypeId} {s i : Nat} {p : List Nat} {ty : TypeId} {X : T} {x : Operand} {d : D} {y : T} (ho : o.op = .store t (.tmp s) x) (hs : getD env s = .ptr i p) (hi : σ[i]? = some (.tree ty X))
    (ht : same C.tb t (tyAt C.tb ty p) = true) (hx : opd C.tb env t x = some d) (hy : asT C.tb t d = some y) :
    OpOk C o env σ ⟨True, .any, σ.set i (.tree ty (setT p y X))⟩ := by
  refine OpOk_do (by simp [isVal, ho]) ?_
  intro H β a w hr he hd K Qx hK
  have hv := he.get s
  rw [hs] at hv
  obtain ⟨ad, hv, hp⟩ := hv.ptr_inv
  obtain ⟨b, off, ty', X', o', u, rfl, e2, e1, e3, e4, cs, f2, f3, f4, f0⟩ := hr.at hC hp
  rw [hi] at e2; cases e2
  rw [e4] at ht
  have ht' := same_td ht
  obtain ⟨vs, hvc, hvt⟩ := asT_rel hC (opd_rel he hx) hy
  have hvu := hvt.cast hC.tab ht'
  have hle := offT_le hC.tab e3
  have hvl := hvu.len hC.tab
  have hcs : ∀ j, j < vs.length → ∃ v, w.cell? ⟨b, off + o' + j, none⟩ = some v ∧ H b (off + o' + j) = .mine i ∧ w.frozen? ⟨b, off + o' + j, none⟩ = false := fun j hj => by
    have hlt : o' + j < cs.length := by omega
    have := f3 (o' + j) cs[o' + j] (List.getElem?_eq_getElem hlt)
    rw [← Nat.add_assoc] at this
    exact ⟨_, this⟩
  have hcells := hvc.cells hvt hC.tab
  have hst := run_storeVar hC (t := t) (b := b) (off := off + o') (w := w) hcells (hvt.len hC.tab) hvt.td_ne (hvt.one hC.tab)
    (fun j hj => by obtain ⟨v, h1, _⟩ := hcs j hj; simp [h1]) (fun j hj => by obtain ⟨v, _, _, h3⟩ := hcs j hj; exact h3)
  have hrun : (execOp a.eval o).run C.P w = .ok .skip (w.setCells b (off + o') vs) := by
    have hve : a.eval (.tmp s) = .pointer (some ⟨b, off + o', none⟩) := hv
    simp [execOp, ho, hve, Instr.storeAt, Instr.sureAddr, hst]
  have r := hr.write (i := i) (b := b) (o := off + o') (vs := vs) (fun j hj => by obtain ⟨v, _, h2, _⟩ := hcs j hj; exact h2) (k := .tree ty (setT p y X)) e1
    ⟨_, hi, fun ty2 x2 h2 => by cases h2; exact ⟨_, rfl⟩, fun _ _ h2 => (by cases h2), fun _ _ h2 => (by cases h2), fun _ _ _ h2 => (by cases h2)⟩
    (fun hev => by
      refine ⟨b, off, splice cs o' vs, rfl, by rw [splice_length (by omega)]; exact f2, fun hz => ⟨(f0 hz).1, (shape?_setCells b vs _ w _).trans (f0 hz).2⟩, fun j v hj => ?_, (f4.put hC.tab e3 hvu).mono hev⟩
      rw [splice_get (by omega)] at hj
      have hfz : ∀ q, (w.setCells b (off + o') vs).frozen? ⟨b, q, none⟩ = w.frozen? ⟨b, q, none⟩ := fun q => World.frozen?_setCells b vs _ w _
      by_cases h1 : j < o'
      · rw [if_pos h1] at hj
        obtain ⟨g1, g2, g3⟩ := f3 j v hj
        exact ⟨by rw [setCells_cell (fun _ => .inl (by omega))]; exact g1, g2, (hfz _).trans g3⟩
      · rw [if_neg h1] at hj
        by_cases h2 : j < o' + vs.length
        · rw [if_pos h2] at hj
          obtain ⟨u1, g1, g2, g3⟩ := hcs (j - o') (by omega)
          have hidx : off + o' + (j - o') = off + j := by omega
          rw [hidx] at g1 g2 g3
          refine ⟨?_, g2, (hfz _).trans g3⟩
          have := World.cell?_setCells_in b vs (off + o') w (fun q hq => by obtain ⟨v, k1, _⟩ := hcs q hq; simp [k1]) (j - o') (by omega)
          rw [hidx] at this
          rw [this]
          rw [List.getElem?_eq_getElem (by omega)] at hj; exact hj
        · rw [if_neg h2] at hj
          obtain ⟨g1, g2, g3⟩ := f3 j v hj
          exact ⟨by rw [setCells_cell (fun _ => .inr (by omega))]; exact g1, g2, (hfz _).trans g3⟩)
  simp only [Oper.wp, hrun, Oper.upon]
  exact hK _ _ _ H _ _ ⟨rfl, rfl⟩ r.1 .any r.2.2 r.2.1

/-! ### addresses of parts -/

omit hC in
theorem offT_snoc {tb : Tab} {k : Nat} : ∀ {p : List Nat} {t : TypeId} {o1 : Nat} {u : TypeId} {o2 : Nat} {v : TypeId}, offT tb t p = some (o1, u) → offT tb u [k] = some (o2, v) → offT tb t (p ++ [k]) = some (o1 + o2, v)
  | [], t, o1, u, o2, v, h1, h2 => by simp [offT] at h1; obtain ⟨rfl, rfl⟩ := h1; simpa using h2
  | q :: p, t, o1, u, o2, v, h1, h2 => by
    unfold offT at h1
    rw [List.cons_append]; unfold offT
    split at h1
    · rename_i fs ht
      simp only [ht]
      split at h1
      · rename_i f hf
        cases ho : offT tb f.1 p with
        | none => simp [ho] at h1
        | some r =>
          simp [ho] at h1; obtain ⟨rfl, rfl⟩ := h1
          rw [offT_snoc (o1 := r.1) (u := r.2) ho h2]; simp [Nat.add_assoc]
      · cases h1
    · rename_i n z ht
      simp only [ht]
      split at h1
      · rename_i hk
        rw [if_pos hk]
        cases ho : offT tb z p with
        | none => simp [ho] at h1
        | some r =>
          simp [ho] at h1; obtain ⟨rfl, rfl⟩ := h1
          rw [offT_snoc (o1 := r.1) (u := r.2) ho h2]; simp [Nat.add_assoc]
      · cases h1
    · cases h1

theorem run_fieldPlace {b off : Nat} {f : Field} {w : World} (h : sz C.tb f.type ≠ 0) (ht : f.type < C.tb.length) : (fieldPlace ⟨b, off, none⟩ f).run C.P w = .ok ⟨b, off + f.offset, none⟩ w := by
  simp [fieldPlace, run_sizeOf_of hC.tab ht, h, add_plain]

theorem run_fieldAt {s b off k : Nat} {fs : List (TypeId × Nat)} {f : TypeId × Nat} {w : World} (hs : td C.tb s = .st fs) (hf : fs[k]? = some f) (hz : sz C.tb f.1 ≠ 0) :
    (Instr.fieldAt s (.pointer (some ⟨b, off, none⟩)) k).run C.P w = .ok (.pointer (some ⟨b, off + f.2, none⟩)) w := by
  obtain ⟨gs, hg, he⟩ := hC.tab.st hs
  have hk : k < gs.size := by
    have := (List.getElem?_eq_some_iff.1 hf).1
    rw [← he] at this; simpa using this
  have hgf : f = (gs[k].type, gs[k].offset) := by
    rw [← he] at hf
    simp [hk] at hf
    exact hf.symm
  subst hgf
  have hlt : gs[k].type < C.tb.length := by
    rcases Nat.lt_or_ge gs[k].type C.tb.length with h | h
    · exact h
    · exact absurd (by simp [sz, List.getElem?_eq_none h]) hz
  simp [Instr.fieldAt, run_underlying_of hC.tab hg, Array.getElem?_eq_getElem hk, Instr.sureAddr, run_fieldPlace hC hz hlt]

theorem Ok_fieldAddr {st s i k : Nat} {p : List Nat} {ty : TypeId} {X : T} {fs : List (TypeId × Nat)} {f : TypeId × Nat} (ho : o.op = .fieldAddr st (.tmp s) k) (hs : getD env s = .ptr i p) (hi : σ[i]? = some (.tree ty X))
    (ht : same C.tb (tyAt C.tb ty p) st = true) (hst : td C.tb st = .st fs) (hf : fs[k]? = some f) (hz : sz C.tb f.1 ≠ 0) : OpOk C o env σ ⟨True, .ptr i (p ++ [k]), σ⟩ :=
  OpOk_val fun H β a w hr he => by
    have hv := he.get s
    rw [hs] at hv
    obtain ⟨ad, hv, b, off, ty', X', o', u, e1, e2, e3, e4⟩ := hv.ptr_inv
    rw [hi] at e2; cases e2
    subst e4
    rw [tyAt_of e3] at ht
    have hu : td C.tb u = .st fs := (same_td ht).trans hst
    refine ⟨.pointer (some ⟨b, off + o' + f.2, none⟩), fun w' hw' => ?_, .ptr ⟨b, off, ty, X, o' + f.2, f.1, e1, hi, offT_snoc e3 (by simp [offT, hu, hf]), by simp [Nat.add_assoc]⟩⟩
    simp [execOp, ho, Act.eval, hv, run_fieldAt hC hst hf hz]

theorem Ok_fieldAddrE {st s j k : Nat} {u : TypeId} {xs : List E} {p : List Nat} {fs : List (TypeId × Nat)} {f : TypeId × Nat} (ho : o.op = .fieldAddr st (.tmp s) k) (hs : getD env s = .el u xs j p)
    (ht : same C.tb (tyAt C.tb u p) st = true) (hst : td C.tb st = .st fs) (hf : fs[k]? = some f) (hz : sz C.tb f.1 ≠ 0) : OpOk C o env σ ⟨True, .el u xs j (p ++ [k]), σ⟩ :=
  OpOk_val fun H β a w hr he => by
    have hv := he.get s
    rw [hs] at hv
    generalize hx : a.tmps.getD s undef = vx at hv
    cases hv with
    | @el u b off cs xs j p o' vt h1 h2 h3 h4 h5 =>
      rw [tyAt_of h5] at ht
      have hu : td C.tb vt = .st fs := (same_td ht).trans hst
      refine ⟨.pointer (some ⟨b, off + (j * sz C.tb u + o') + f.2, none⟩), fun w' hw' => ?_, ?_⟩
      · simp [execOp, ho, Act.eval, hx, run_fieldAt hC hst hf hz]
      · have := DRel.el (tb := C.tb) (H := H) (β := β) (σ := σ) h1 h2 h3 h4 (offT_snoc h5 (k := k) (by simp [offT, hu, hf]; exact ⟨rfl, rfl⟩))
        rw [show off + (j * sz C.tb u + o') + f.2 = off + (j * sz C.tb u + (o' + f.2)) by omega]
        exact this

end
end Go.Den
