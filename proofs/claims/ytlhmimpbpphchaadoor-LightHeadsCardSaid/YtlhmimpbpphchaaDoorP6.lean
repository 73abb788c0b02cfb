/- The calculus and the walks, part 6: DenShelf, DenPair, DenLaid, DenPair2, DenPair3, DenBuild, DenAlloc, Q33Tb. -/
import Derived.Test.YtlhmimpbpphchaaDoorP5
import Derived.Below
import Derived.Test.YtlhmimpbpphchaaDoorP4
import Derived.Test.YtlhmimpbpphchaaDoorProg
/- Contracts of the library's shelf, turned into contracts of the calculus. -/
namespace Go.Den
open Go Go.RowKit
set_option linter.unusedVariables false
theorem Stp.below {H : Gh} {w w' : World} (h : Below w.heap.size w w') : Stp H w H w' := by
  have hb : ∀ b, b < w.heap.size → w'.heap[b]? = w.heap[b]? := fun b hb => h.block b hb
  refine ⟨h.os, h.tape, h.output, h.size, fun _ _ _ _ => rfl, fun _ _ _ i e => ⟨i, e⟩, fun b hlt _ => hb b hlt, fun b hlt o _ => ?_, fun b hlt o v _ _ => ?_, fun b hlt => ?_⟩
  · unfold World.cell?; simp only [hb b hlt]
  · unfold World.frozen?; simp only [hb b hlt]
  · unfold World.shape?; simp only [hb b hlt]
theorem Base.below {H : Gh} {w w' : World} (hb : Base H w) (h : Below w.heap.size w w') : Base H w' := by
  refine ⟨fun b o v e => ?_, fun b o e => Nat.lt_of_lt_of_le (hb.dom b o e) h.size⟩
  have hlt := hb.dom b o (by rw [e]; simp)
  have := hb.pers b o v e
  unfold World.cell? at this ⊢
  rw [h.block b hlt]; exact this
/-- A contract that tells the value, and that nothing that stood has turned. -/
theorem FnOk_of_calls {P : Program} {tb : Tab} {f : FuncId} {fn : Func} {c : Code} {pts rts : List TypeId} {args rs : List E} (hf : P.funcs[f]? = some fn) (hn : (fn.name == "runtime.NumGoroutine") = false) (hb : fn.body = some c) (hl : args.length = pts.length)
    (h : ∀ H w vals, Base H w → ArgsAt tb H [] [] vals (typed pts args) → ∃ v, Calls P f vals w (fun e w' => e = .returned v ∧ Below w.heap.size w w') ∧ DRel tb H [] [] v (retD rts rs)) : FnOk P tb f pts rts args rs := by
  refine ⟨⟨fn, hf, hn, by rw [hb]; rfl⟩, hl, fun H w vals hbase hmine hargs => ?_⟩
  obtain ⟨v, hc, hd⟩ := h H w vals hbase hargs
  refine hc.mono ?_
  rintro e w' ⟨rfl, hbl⟩
  exact ⟨v, H, rfl, hbase.below hbl, hd, Stp.below hbl⟩
end Go.Den
/- Pairs in regions that draw: a call, and bytes of a text. -/
namespace Go.Den
open Go
set_option linter.unusedSectionVars false
set_option linter.unusedVariables false
section
variable {C : Cx} (hC : Ok C) {o : Oper} {env : Env} {σ : List Blk} {ts : List Nat}
include hC
/-- A call of data, whatever else may come up. -/
theorem OpF_callD {f : FuncId} {xs : Array Operand} {tys : Array TypeId} {pts rts : List TypeId} {args rs : List E} (ho : o.op = .call { callee := .value (.func f), args := xs, argTypes := tys })
    (hx : argsE C.tb env pts xs.toList = some args) (h : FnOk C.P C.tb f pts rts args rs) : OpF C o env σ ts (fun d s => d = retD rts rs ∧ s = σ) := OpF_callE hC ho hx h
/-- The bytes of a text. -/
theorem OpF_bytes {s d u : TypeId} {x : Operand} {dx : D} {l : List UInt8} (ho : o.op = .convert s d x) (hs : td C.tb s = .str) (hd : td C.tb d = .sl u) (hu : td C.tb u = .int .u8) (hx : opd C.tb env s x = some dx) (hl : strAny dx = some l) :
    OpF C o env σ ts (fun d' s' => d' = .t d (.e (.sl (l.map byteE))) ∧ s' = σ) := by
  intro H β a w hr he hdf K Qx hK
  obtain ⟨hv, hlen⟩ := strAny_rel (opd_rel he hx) hl
  have hsz : sz C.tb u = 1 := hC.tab.sz_one (by simp [isAggT, hu]) (by rw [hu]; simp)
  have hrun := run_bytes_of_string (P := C.P) w s d u ⟨⟨l⟩⟩ (hC.tab.str hs) (hC.tab.sl hd) (hC.tab.int hu)
  generalize hcap : grownCap w (ByteArray.size ⟨⟨l⟩⟩) 0 u = cap at hrun
  have hcap' : l.length ≤ cap := by
    have : (ByteArray.size ⟨⟨l⟩⟩) = l.length := rfl
    rw [← hcap, this]; simp [grownCap, Question.cut]
  let ob : Obj := .cells (bytesRow ⟨⟨l⟩⟩ cap) u ((bytesRow ⟨⟨l⟩⟩ cap).size, (bytesRow ⟨⟨l⟩⟩ cap).size + 1)
  have hcs : ∀ (j : Nat) v, (l.map fun b => Value.int .u8 b.toNat)[j]? = some v → (w.drew.alloc ob).cell? ⟨w.heap.size, j, none⟩ = some v := fun j v hj => by
    have hjl : j < l.length := by have := (List.getElem?_eq_some_iff.1 hj).1; simpa using this
    have : (w.drew.alloc ob).heap[w.drew.heap.size]? = some ob := heap_alloc_new w.drew ob
    rw [show w.drew.heap.size = w.heap.size from rfl] at this
    simp only [World.cell?, this, ob]
    simp only [bytesRow]
    rw [Array.getElem?_append_left (by simpa using hjl)]
    simpa using hj
  let f : Nat → Own := fun o => match (l.map fun b => Value.int .u8 b.toNat)[o]? with
    | some v => .pers v
    | none => .none
  obtain ⟨hr2, hev⟩ := hr.drew.alloc ob f [] [] rfl (fun o v hv => by
    simp only [f] at hv
    split at hv
    · rename_i v' hv'; cases hv; exact hcs o _ hv'
    · cases hv) (fun i k bv hk => by simp at hk)
  simp only [List.append_nil] at hr2 hev
  have hstp : Stp H w _ (w.drew.alloc ob) := (Stp.drew H w).trans (Stp.alloc (w := w.drew) hr.dom ob f)
  have hex : (execOp a.eval o).run C.P w = .ok (.value (.slice (some ⟨w.heap.size, 0, none⟩) l.length cap)) (w.drew.alloc ob) := by
    have hsl : (⟨⟨l⟩⟩ : ByteArray).size = l.length := rfl
    rw [hsl] at hrun
    simp [execOp, ho, hv, sv, hrun, ob]
  simp only [Oper.wp, hex, Oper.upon]
  refine hK _ _ _ _ β σ ⟨rfl, rfl⟩ hr2 ?_ hstp hev (fun b o u hu hs => Frm.alloc (ts := ts) (w := w.drew) hr.dom ob f b o u hu hs)
  refine .t (cs := [.slice (some ⟨w.heap.size, 0, none⟩) l.length cap]) (by simp [VC, isAggT, hd]) (.e ?_)
  have hlm : (l.map byteE).length = l.length := by simp
  rw [← hlm]
  refine .sl (cs := l.map fun b => .int .u8 b.toNat) hd (by simp [hsz]) (fun j v hj => ?_) (fun i x hx => ?_) (by rw [hlm]; exact hcap') (by rw [hlm]; unfold maxI at hlen; unfold maxN; omega)
  · rw [Nat.zero_add]
    show (if _ then _ else _) = _
    rw [if_pos (show w.heap.size = w.drew.heap.size from rfl)]; simp only [f, hj]
  · simp only [List.getElem?_map, Option.map_eq_some_iff] at hx
    obtain ⟨b, hb1, rfl⟩ := hx
    have : seg (l.map fun b => Value.int .u8 b.toNat) (i * sz C.tb u) (sz C.tb u) = [.int .u8 b.toNat] := by
      rw [hsz, Nat.mul_one]
      unfold seg
      rw [List.take_one, List.head?_drop]
      simp [hb1]
    rw [this]
    exact .int hu (inR_wrap (by have := b.toNat_lt; simp [inR]; omega))
end
section
variable {C : Cx} {env : Env} {σ : List Blk} {Q : Post}
theorem swap2 {env : Env} {i j : Nat} {di dj : D} (h : Nat.beq i j = false) (t : Nat) : getD (putD (putD env (some i) di) (some j) dj) t = getD (putD (putD env (some j) dj) (some i) di) t := by
  simp only [putD, getD]
  cases h1 : Nat.beq i t with
  | false => cases Nat.beq j t <;> rfl
  | true =>
    have := Nat.eq_of_beq_eq_true h1
    subst this
    cases h2 : Nat.beq j i with
    | false => rfl
    | true => have := Nat.eq_of_beq_eq_true h2; subst this; rw [beq_self'] at h; cases h
/-- A call of data beside the bytes of a text. -/
theorem VX_callBytes (hC : Ok C) {k : List It} {full : List Oper} {ts : List Nat} {i j ti tj : Nat} {oi oj : Oper} {ord : List (Nat × Bool)} {f : FuncId} {xs : Array Operand} {tys : Array TypeId} {pts rts : List TypeId} {args rs : List E} {sb db u : TypeId} {x : Operand} {dx : D} {l : List UInt8}
    (hi : full[i]? = some oi) (hj : full[j]? = some oj) (hp : pairB full ((i, false) :: (j, false) :: ord) = true)
    (hwi : wants full env oi = some true) (hwj : wants full env oj = some true) (hdi : oi.dst = some ti) (hdj : oj.dst = some tj) (hti : Nat.blt ti C.n = true) (htj : Nat.blt tj C.n = true) (hne : Nat.beq ti tj = false)
    (hoi : oi.op = .call { callee := .value (.func f), args := xs, argTypes := tys }) (hx : argsE C.tb env pts xs.toList = some args) (h : FnOk C.P C.tb f pts rts args rs)
    (hoj : oj.op = .convert sb db x) (hs : td C.tb sb = .str) (hd : td C.tb db = .sl u) (hu : td C.tb u = .int .u8) (hxb : opd C.tb env sb x = some dx) (hl : strAny dx = some l)
    (hwi' : wants full ((tj, .t db (.e (.sl (l.map byteE)))) :: env) oi = some true) (hwj' : wants full ((ti, retD rts rs) :: env) oj = some true)
    (hx' : argsE C.tb ((tj, .t db (.e (.sl (l.map byteE)))) :: env) pts xs.toList = some args) (hxb' : opd C.tb ((ti, retD rts rs) :: env) sb x = some dx)
    (hk : VX C Q (.o full ts ord :: k) .nrm ((tj, .t db (.e (.sl (l.map byteE)))) :: (ti, retD rts rs) :: env) σ) : VX C Q (.o full ts ((i, false) :: (j, false) :: ord) :: k) .nrm env σ := by
  refine VX_pair (di := retD rts rs) (dj := .t db (.e (.sl (l.map byteE)))) hi hj hp hwi hwj (by rw [hdj]; exact hwi') (by rw [hdi]; exact hwj') (by rw [hdi]; exact hti) (by rw [hdj]; exact htj)
    (OpF_callE hC hoi hx h) (OpF_bytes hC hoj hs hd hu hxb hl) (by rw [hdj]; exact OpF_callE hC hoi hx' h) (by rw [hdi]; exact OpF_bytes hC hoj hs hd hu hxb' hl) (by rw [hdi, hdj]; exact swap2 hne) ?_
  rw [hdi, hdj]; exact hk
end
end Go.Den
/- The variables of the package, as a statement's condition lays them. -/
namespace Go.Den
open Go
set_option linter.unusedVariables false
/-- An array of numbers. -/
theorem gl_ints {P : Program} {tb : Tab} (hT : TabOk P tb) {H : Type} {enc : TypeId × Value → H} {w : World} {nm : String} {g : Nat} {cs : Array Value} {fuel : Nat} {t u : TypeId} {n : Nat} {k : IntKind} {ns : List Int} {p : List MemPlace} {base : Nat} {sp : Nat → Bool} {held : Bool}
    (hg : P.globalNamed nm = some g) (hv : w.var? P nm = some cs) (ht : td tb t = .arr n u) (hu : td tb u = .int k)
    (h : DataW.trod enc P w base sp held fuel t cs.toList = some (.agg (ns.map fun n => .lit (.int k n)), p)) :
    ∃ cs' : List Value, cs'.length = sz tb t ∧ Rd tb (Hw w) t cs' (.agg (ns.map E.int)) ∧ ∀ (j : Nat) v, cs'[j]? = some v → Hw w g j = .pers v := by
  have hsz : sz tb u = 1 := hT.sz_one (by simp [isAggT, hu]) (by rw [hu]; simp)
  have hcu : P.cellsOf u = 1 := by rw [cellsOf_sz hT (hT.lt_of_td (by rw [hu]; simp)), hsz]
  have hct : P.cellsOf t = sz tb t := cellsOf_sz hT (hT.lt_of_td (by rw [ht]; simp))
  obtain ⟨xs, m, _, hx, hl, hxn, hel⟩ := DataW.trod_array (hT.arr ht) h
  simp only [Prod.mk.injEq, DataW.agg.injEq] at hx
  have hlen : cs.toList.length = sz tb t := by rw [hl, hct]
  have hns : ns.length = n := by
    have := congrArg List.length hx.1
    simp only [List.length_map] at this
    omega
  refine ⟨cs.toList, hlen, .arr ht (by rw [hlen, hT.sz_arr ht]) (by simpa using hns) (fun i x hi => ?_), fun j v hj => ?_⟩
  · simp only [List.getElem?_map, Option.map_eq_some_iff] at hi
    obtain ⟨a, ha, rfl⟩ := hi
    have hin : i < n := by have := (List.getElem?_eq_some_iff.1 ha).1; omega
    have he := hel i hin
    rw [hcu] at he
    obtain ⟨b, q, hb⟩ : ∃ b q, xs[i]? = some (b, q) := ⟨xs[i].1, xs[i].2, List.getElem?_eq_getElem (by omega)⟩
    rw [hb] at he
    obtain ⟨c, e1, e2, hw⟩ := DataW.trod_int (hT.int hu) he
    have h3 := congrArg (fun l => l[i]?) hx.1
    simp only [List.getElem?_map, ha, hb, Option.map_some, Option.some.injEq] at h3
    simp only [Prod.mk.injEq] at e2
    rw [e2.1] at h3
    have hac : a = c := by simpa using h3
    subst hac
    rw [hsz]
    show Rd tb (Hw w) u ((cs.toList.drop (i * 1)).take 1) (.int a)
    rw [e1]
    exact .int hu (wf_wrap hw)
  · rw [Hw_pers, World.var?_cell hg hv j]
    simpa using hj
end Go.Den
/- Pairs in regions that draw: a call, and a list that is written out. -/
namespace Go.Den
open Go
set_option linter.unusedSectionVars false
set_option linter.unusedVariables false
section
variable {C : Cx} {env : Env} {σ : List Blk} {Q : Post}
/-- A call of data beside a list that is written out. -/
theorem VX_callLit (hC : Ok C) {k : List It} {full : List Oper} {ts : List Nat} {i j ti tj : Nat} {oi oj : Oper} {ord : List (Nat × Bool)} {f : FuncId} {xs : Array Operand} {tys : Array TypeId} {pts rts : List TypeId} {args rs : List E} {t : TypeId} {len : Nat} {ps : Array (Nat × Operand)} {d : D} {pp pp' : Prop}
    (hi : full[i]? = some oi) (hj : full[j]? = some oj) (hp : pairB full ((i, false) :: (j, false) :: ord) = true)
    (hwi : wants full env oi = some true) (hwj : wants full env oj = some true) (hdi : oi.dst = some ti) (hdj : oj.dst = some tj) (hti : Nat.blt ti C.n = true) (htj : Nat.blt tj C.n = true) (hne : Nat.beq ti tj = false)
    (hoi : oi.op = .call { callee := .value (.func f), args := xs, argTypes := tys }) (hx : argsE C.tb env pts xs.toList = some args) (h : FnOk C.P C.tb f pts rts args rs)
    (hoj : oj.op = .buildSlice t len ps) (hl : dLit C env σ t len ps.toList = some ⟨pp, d, σ⟩)
    (hwi' : wants full ((tj, d) :: env) oi = some true) (hwj' : wants full ((ti, retD rts rs) :: env) oj = some true)
    (hx' : argsE C.tb ((tj, d) :: env) pts xs.toList = some args) (hl' : dLit C ((ti, retD rts rs) :: env) σ t len ps.toList = some ⟨pp', d, σ⟩)
    (hk : VX C Q (.o full ts ord :: k) .nrm ((tj, d) :: (ti, retD rts rs) :: env) σ) : VX C Q (.o full ts ((i, false) :: (j, false) :: ord) :: k) .nrm env σ := by
  refine VX_pair (di := retD rts rs) (dj := d) hi hj hp hwi hwj (by rw [hdj]; exact hwi') (by rw [hdi]; exact hwj') (by rw [hdi]; exact hti) (by rw [hdj]; exact htj)
    (OpF_callE hC hoi hx h) (dLit_okF hC hoj hl) (by rw [hdj]; exact OpF_callE hC hoi hx' h) (by rw [hdi]; exact dLit_okF hC hoj hl') (by rw [hdi, hdj]; exact swap2 hne) ?_
  rw [hdi, hdj]; exact hk
end
end Go.Den
/- Pairs in regions that draw, of which the first adds to the blocks. -/
namespace Go.Den
open Go
set_option linter.unusedSectionVars false
set_option linter.unusedVariables false
section
variable {C : Cx} {env : Env} {σ : List Blk} {Q : Post} {ts : List Nat}
/-- Two that may come up, and no other: whichever comes first, the same is told behind both. -/
theorem VH_pairS {σi : List Blk} {l : List Oper} {i j : Nat} {oi oj : Oper} {di dj : D} {fuel : Nat} {listed : Array Bool} (hi : l[i]? = some oi) (hj : l[j]? = some oj) (hri : i ∈ Region.ready .any l.toArray listed) (hr : ∀ k ∈ Region.ready .any l.toArray listed, k = i ∨ k = j)
    (hrj : ∀ k ∈ Region.ready .any l.toArray (listed.setIfInBounds i true), k = j) (hjr : j ∈ Region.ready .any l.toArray (listed.setIfInBounds i true))
    (hrji : ∀ k ∈ Region.ready .any l.toArray (listed.setIfInBounds j true), k = i) (hir : i ∈ Region.ready .any l.toArray (listed.setIfInBounds j true)) (hij : i ≠ j)
    (hwi : wants l env oi = some true) (hwj : wants l env oj = some true) (hwi' : wants l (putD env oj.dst dj) oi = some true) (hwj' : wants l (putD env oi.dst di) oj = some true) (hni : dstOk C.n oi.dst = true) (hnj : dstOk C.n oj.dst = true)
    (fi : OpF C oi env σ ts (fun d s => d = di ∧ s = σi)) (fj : OpF C oj env σ ts (fun d s => d = dj ∧ s = σ)) (fi' : OpF C oi (putD env oj.dst dj) σ ts (fun d s => d = di ∧ s = σi)) (fj' : OpF C oj (putD env oi.dst di) σi ts (fun d s => d = dj ∧ s = σi))
    (hsw : ∀ t, getD (putD (putD env oi.dst di) oj.dst dj) t = getD (putD (putD env oj.dst dj) oi.dst di) t)
    (k : VH C l.toArray ts fuel ((listed.setIfInBounds i true).setIfInBounds j true) (putD (putD env oi.dst di) oj.dst dj) σi Q) : VH C l.toArray ts (fuel + 2) listed env σ Q := by
  have k2 : VH C l.toArray ts fuel ((listed.setIfInBounds j true).setIfInBounds i true) (putD (putD env oj.dst dj) oi.dst di) σi Q := fun H β a w hr he => by
    rw [Array.setIfInBounds_comm _ _ hij.symm]
    exact k H β a w hr ⟨he.1, fun t => by rw [hsw t]; exact he.2 t⟩
  have g1 : VH C l.toArray ts (fuel + 1) (listed.setIfInBounds i true) (putD env oi.dst di) σi Q := VH_one hj hjr hrj hwj' hnj fj' fun d s ⟨h1, h2⟩ => by subst h1; subst h2; exact k
  have g2 : VH C l.toArray ts (fuel + 1) (listed.setIfInBounds j true) (putD env oj.dst dj) σ Q := VH_one hi hir hrji hwi' hni fi' fun d s ⟨h1, h2⟩ => by subst h1; subst h2; exact k2
  have key : ∀ (m : Nat) (om : Oper) (dm : D) (σm : List Blk), l[m]? = some om → wants l env om = some true → dstOk C.n om.dst = true → OpF C om env σ ts (fun d s => d = dm ∧ s = σm) → VH C l.toArray ts (fuel + 1) (listed.setIfInBounds m true) (putD env om.dst dm) σm Q →
      m ∈ Region.ready .any l.toArray listed → ∀ H β a w, Rel C.tb H β σ w → EnvRel C.tb H β σ C.n a env → a.defers = [] → ∀ tk : Tk, TkOk l.toArray ts listed H w tk →
      wpOp C.P l.toArray (lift C H β σ w Q) m (fun a' w' => (w' = w ∨ sOf l.toArray tk m w') ∧ wpAnyD C.P .any l.toArray (lift C H β σ w Q) (sOf l.toArray tk) (fuel + 1) (listed.setIfInBounds m true) a' w') a w := by
    intro m om dm σm hm hwm hnm fm gm hmr H β a w hr' he hdef tk hS
    have hjun := (mem_ready.1 hmr).1
    unfold wpOp
    have hi' : l.toArray[m]? = some om := by simpa using hm
    simp only [hi', wants_rel he hwm, if_true]
    refine .inl (fm H β a w hr' he hdef _ _ ?_)
    intro v d w' H' β' σ' hR hr2 hv hs hev hfr
    obtain ⟨e1, e2⟩ := hR
    subst e1; subst e2
    have hd' : (a.put om.dst v).defers = [] := by cases om.dst <;> exact hdef
    refine ⟨.inr fun p hp hw => (((hS p hp).2.2 m hjun hw).frm hfr).here, ?_⟩
    exact wpAnyD_mono2 (fun _ _ _ hl => hl.trans hs (hev.kp C.k0)) (fun _ _ h => h) _ _ _ _ (gm H' β' (a.put om.dst v) w' hr2 ((he.mono hev).put hv hnm) hd' tk
      (fun p hp => ⟨(hS.set m p hp).1, (hS.set m p hp).2.1, fun q hq hw => ((hS.set m p hp).2.2 q hq hw).frm hfr⟩))
  intro H β a w hr' he hdef tk hS
  refine wpAnyD_all rfl (fun h => by rw [h] at hri; cases hri) fun m hm => ?_
  rcases hr m hm with e | e
  · subst e; exact key m oi di σi hi hwi hni fi g1 hm H β a w hr' he hdef tk hS
  · subst e; exact key m oj dj σ hj hwj hnj fj g2 hm H β a w hr' he hdef tk hS

theorem VO_pairS {σi : List Blk} {l : List Oper} {i j : Nat} {oi oj : Oper} {di dj : D} {rest : List (Nat × Bool)} (hi : l[i]? = some oi) (hj : l[j]? = some oj) (hp : pairB l ((i, false) :: (j, false) :: rest) = true)
    (hwi : wants l env oi = some true) (hwj : wants l env oj = some true) (hwi' : wants l (putD env oj.dst dj) oi = some true) (hwj' : wants l (putD env oi.dst di) oj = some true) (hni : dstOk C.n oi.dst = true) (hnj : dstOk C.n oj.dst = true)
    (fi : OpF C oi env σ ts (fun d s => d = di ∧ s = σi)) (fj : OpF C oj env σ ts (fun d s => d = dj ∧ s = σ)) (fi' : OpF C oi (putD env oj.dst dj) σ ts (fun d s => d = di ∧ s = σi)) (fj' : OpF C oj (putD env oi.dst di) σi ts (fun d s => d = dj ∧ s = σi))
    (hsw : ∀ t, getD (putD (putD env oi.dst di) oj.dst dj) t = getD (putD (putD env oj.dst dj) oi.dst di) t)
    (k : VO C l ts rest (putD (putD env oi.dst di) oj.dst dj) σi Q) : VO C l ts ((i, false) :: (j, false) :: rest) env σ Q := by
  intro listed hns hs hcv hsz
  simp only [okSched, Bool.and_eq_true] at hs
  simp only [pairB, Bool.and_eq_true, Bool.not_eq_true'] at hp
  have hij : i ≠ j := fun e => by have := hp.1; rw [e, beq_self'] at this; cases this
  have lt : ∀ {r : List (Nat × Bool)} {k : Nat}, rdyB l r k = true → k < l.length := fun {r k} h => by
    rcases Nat.lt_or_ge k l.length with h' | h'
    · exact h'
    · unfold rdyB at h; rw [List.getElem?_eq_none h'] at h; simp at h
  have hcv1 := hcv.step
  have hcov2 : Cov ((i, true) :: rest) (listed.setIfInBounds j true) := by
    obtain ⟨h1, h2⟩ := hcv
    simp only [nodB, Bool.and_eq_true, Bool.not_eq_true', memB, Bool.or_eq_false_iff] at h1
    refine ⟨by simp only [nodB, Bool.and_eq_true, Bool.not_eq_true']; exact ⟨h1.1.2, h1.2.2⟩, fun k => ⟨fun hk => ?_, fun hk => ?_⟩⟩
    · obtain ⟨hne, hun⟩ := unl_set hk
      have := (h2 k).1 hun
      simp only [memB, Bool.or_eq_true] at this ⊢
      rcases this with h | h | h
      · exact .inl h
      · exact absurd (Nat.eq_of_beq_eq_true h).symm hne
      · exact .inr h
    · simp only [memB, Bool.or_eq_true] at hk
      have hkj : j ≠ k := fun e => by
        subst e
        rcases hk with h | h
        · exact hij (Nat.eq_of_beq_eq_true h)
        · rw [h1.2.1] at h; cases h
      rw [getD_set_ne true hkj]
      refine (h2 k).2 ?_
      simp only [memB, Bool.or_eq_true]
      rcases hk with h | h
      · exact .inl h
      · exact .inr (.inr h)
  have hsz1 : (listed.setIfInBounds i true).size = l.length := by simpa using hsz
  have hsz2 : (listed.setIfInBounds j true).size = l.length := by simpa using hsz
  have hir : i ∈ Region.ready .any l.toArray listed := by simpa using hs.1
  have hjr : j ∈ Region.ready .any l.toArray listed := (rdy_iff hcv hsz j).2 hp.2.2.1
  have hcv1' : Cov ((j, true) :: rest) (listed.setIfInBounds i true) := hcv1
  refine VH_pairS hi hj hir (fun k hk => ?_) (fun k hk => ?_) (ready_mono hjr hij.symm) (fun k hk => ?_) (ready_mono hir hij) hij hwi hwj hwi' hwj' hni hnj fi fj fi' fj' hsw (k _ hns hs.2.2 hcv.step.step (by simpa using hsz))
  · have h1 := (rdy_iff hcv hsz k).1 hk
    have := List.all_eq_true.1 hp.2.1 k (List.mem_range.2 (lt h1))
    rw [h1] at this
    simp only [Bool.not_true, Bool.false_or, Bool.or_eq_true] at this
    exact this.imp Nat.eq_of_beq_eq_true Nat.eq_of_beq_eq_true
  · have h1 := (rdy_iff hcv1' hsz1 k).1 hk
    have := List.all_eq_true.1 hp.2.2.2.1 k (List.mem_range.2 (lt h1))
    rw [h1] at this
    simp only [Bool.not_true, Bool.false_or] at this
    exact Nat.eq_of_beq_eq_true this
  · have h1 := (rdy_iff hcov2 hsz2 k).1 hk
    have := List.all_eq_true.1 hp.2.2.2.2 k (List.mem_range.2 (lt h1))
    rw [h1] at this
    simp only [Bool.not_true, Bool.false_or] at this
    exact Nat.eq_of_beq_eq_true this
/-- A call that adds a row of its own beside a list that is written out. -/
theorem VX_callRowLit (hC : Ok C) {σi : List Blk} {k : List It} {full : List Oper} {ts : List Nat} {i j ti tj : Nat} {oi oj : Oper} {ord : List (Nat × Bool)} {di : D} {t : TypeId} {len : Nat} {ps : Array (Nat × Operand)} {d : D} {pp pp' : Prop}
    (hi : full[i]? = some oi) (hj : full[j]? = some oj) (hp : pairB full ((i, false) :: (j, false) :: ord) = true)
    (hwi : wants full env oi = some true) (hwj : wants full env oj = some true) (hdi : oi.dst = some ti) (hdj : oj.dst = some tj) (hti : Nat.blt ti C.n = true) (htj : Nat.blt tj C.n = true) (hne : Nat.beq ti tj = false)
    (fi : OpF C oi env σ ts (fun d s => d = di ∧ s = σi)) (fi' : OpF C oi ((tj, d) :: env) σ ts (fun d s => d = di ∧ s = σi))
    (hoj : oj.op = .buildSlice t len ps) (hl : dLit C env σ t len ps.toList = some ⟨pp, d, σ⟩)
    (hwi' : wants full ((tj, d) :: env) oi = some true) (hwj' : wants full ((ti, di) :: env) oj = some true)
    (hl' : dLit C ((ti, di) :: env) σi t len ps.toList = some ⟨pp', d, σi⟩)
    (hk : VX C Q (.o full ts ord :: k) .nrm ((tj, d) :: (ti, di) :: env) σi) : VX C Q (.o full ts ((i, false) :: (j, false) :: ord) :: k) .nrm env σ := by
  refine VO_pairS (di := di) (dj := d) hi hj hp hwi hwj (by rw [hdj]; exact hwi') (by rw [hdi]; exact hwj') (by rw [hdi]; exact hti) (by rw [hdj]; exact htj)
    fi (dLit_okF hC hoj hl) (by rw [hdj]; exact fi') (by rw [hdi]; exact dLit_okF hC hoj hl') (by rw [hdi, hdj]; exact swap2 hne) ?_
  rw [hdi, hdj]; exact hk
theorem OpF_callX (hC : Ok C) {o : Oper} {f : FuncId} {xs : Array Operand} {tys : Array TypeId} (pts : List TypeId) {ds args : List D} {σ0 s0 τ s : List Blk} {d0 di : D} {ti : Nat} (idx : List Nat)
    (ho : o.op = .call { callee := .value (.func f), args := xs, argTypes := tys }) (hx : argsD C.tb env pts xs.toList = some ds) (hds : D.rens (idxOf idx) ds = some args) (hp : pickB σ (idxOf idx) idx 0 = some σ0)
    (hts : disj idx ts = true) (h : FnG C.P C.tb f σ0 args (fun d s => d = d0 ∧ s = s0))
    (hr : retK env (some ti) (D.ren (fun j => some (backI idx σ.length j)) d0) = some ((ti, di) :: env)) (hb : renBs (fun j => some (backI idx σ.length j)) s0 = some τ) (hs : normBs (putBack σ idx τ) some = some s) : OpF C o env σ ts (fun d s' => d = di ∧ s' = s) := by
  intro H β a w hrel he hd K Qx hK
  refine OpF_call hC ho hx hds hp h hts H β a w hrel he hd K Qx fun v d' w' H' β' s' hR => ?_
  obtain ⟨d1, s1, τ1, ⟨h1, h2⟩, h3, h4, h5⟩ := hR
  refine hK v d' w' H' β' s' ?_
  subst h1; subst h2
  rw [h3, retK_eq] at hr
  simp only [putD, Option.some.injEq, List.cons.injEq, Prod.mk.injEq, and_true, true_and] at hr
  rw [hb] at h4; cases h4
  rw [normBs_eq] at hs; cases hs
  exact ⟨hr, h5⟩
/-- A call whose answer has blocks of its own, beside a list that is written out. -/
theorem VX_callGLit (hC : Ok C) {k : List It} {full : List Oper} {ts : List Nat} {i j ti tj : Nat} {oi oj : Oper} {ord : List (Nat × Bool)} {f : FuncId} {xs : Array Operand} {tys : Array TypeId} (pts : List TypeId) {ds args : List D} {σ0 s0 τ σi : List Blk} {d0 di : D} {t : TypeId} {len : Nat} {ps : Array (Nat × Operand)} {d : D} {pp pp' : Prop} (idx : List Nat)
    (hi : full[i]? = some oi) (hj : full[j]? = some oj) (hp : pairB full ((i, false) :: (j, false) :: ord) = true)
    (hwi : wants full env oi = some true) (hwj : wants full env oj = some true) (hdi : oi.dst = some ti) (hdj : oj.dst = some tj) (hti : Nat.blt ti C.n = true) (htj : Nat.blt tj C.n = true) (hne : Nat.beq ti tj = false)
    (ho : oi.op = .call { callee := .value (.func f), args := xs, argTypes := tys }) (hx : argsD C.tb env pts xs.toList = some ds) (hds : D.rens (idxOf idx) ds = some args) (hpk : pickB σ (idxOf idx) idx 0 = some σ0)
    (hts : disj idx ts = true) (h : FnG C.P C.tb f σ0 args (fun d s => d = d0 ∧ s = s0))
    (hr : retK env (some ti) (D.ren (fun j => some (backI idx σ.length j)) d0) = some ((ti, di) :: env)) (hb : renBs (fun j => some (backI idx σ.length j)) s0 = some τ) (hs : normBs (putBack σ idx τ) some = some σi)
    (hoj : oj.op = .buildSlice t len ps) (hl : dLit C env σ t len ps.toList = some ⟨pp, d, σ⟩)
    (hwi' : wants full ((tj, d) :: env) oi = some true) (hwj' : wants full ((ti, di) :: env) oj = some true)
    (hx' : argsD C.tb ((tj, d) :: env) pts xs.toList = some ds) (hr' : retK ((tj, d) :: env) (some ti) (D.ren (fun j => some (backI idx σ.length j)) d0) = some ((ti, di) :: (tj, d) :: env))
    (hl' : dLit C ((ti, di) :: env) σi t len ps.toList = some ⟨pp', d, σi⟩)
    (hk : VX C Q (.o full ts ord :: k) .nrm ((tj, d) :: (ti, di) :: env) σi) : VX C Q (.o full ts ((i, false) :: (j, false) :: ord) :: k) .nrm env σ :=
  VX_callRowLit hC hi hj hp hwi hwj hdi hdj hti htj hne (OpF_callX hC pts idx ho hx hds hpk hts h hr hb hs) (OpF_callX hC pts idx ho hx' hds hpk hts h hr' hb hs) hoj hl hwi' hwj' hl' hk
end
end Go.Den
/- A struct that is written out, its parts kept apart. -/
namespace Go.Den
open Go
set_option linter.unusedSectionVars false
set_option linter.unusedSimpArgs false
set_option linter.unusedVariables false
section
variable {C : Cx} (hC : Ok C) {o : Oper} {env : Env} {σ : List Blk}
include hC
theorem Ok_buildT {t : TypeId} {ps : Array (Nat × Operand)} {fs : List (TypeId × Nat)} {qs : List (Nat × T)} (ho : o.op = .build t ps) (hst : td C.tb t = .st fs) (hz : plain C.tb zf t = true)
    (hps : partsT C.tb env (fieldTy fs) ps.toList = some qs) : OpOk C o env σ ⟨True, .t t (buildT qs (zeroT C.tb zf t)), σ⟩ :=
  OpOk_val fun H β a w hr he => by
    obtain ⟨z, hzr, hzc⟩ := hC.zero.all hC.tab hz
    have hz0 := zeroT_rel hC.tab (H := H) (β := β) (σ := σ) zf t hz
    obtain ⟨gs, hg, hge⟩ := hC.tab.st hst
    have hall : ∀ f ∈ gs.toList, f.type < C.tb.rows.length := fun f hf => by
      obtain ⟨i, hi⟩ := List.getElem?_of_mem hf
      have hf2 : fs[i]? = some (f.type, f.offset) := by rw [← hge]; simp at hi ⊢; exact ⟨f, hi, rfl, rfl⟩
      have hp : plain C.tb zf t = true := hz
      have : ∃ n, zf = n + 1 := ⟨11, rfl⟩
      obtain ⟨n, hn⟩ := this
      rw [hn] at hp
      unfold plain at hp
      rw [hst] at hp
      simp only at hp
      have := List.all_eq_true.1 hp _ (List.mem_of_getElem? hf2)
      exact hC.tab.lt_of_td (plain_ne this)
    have hpl : ∀ (w : World) (gs : List Field), (∀ f ∈ gs, f.type < C.tb.rows.length) → (gs.mapM (fun f => do pure (f.offset, ← sizeOf f.type) : Field → Sem (Nat × Nat))).run C.P w = .ok (gs.map fun f => (f.offset, sz C.tb f.type)) w := by
      intro w gs
      induction gs with
      | nil => intro _; rfl
      | cons g gs ih =>
        intro h
        simp only [List.mapM_cons, Sem.run_bind, run_sizeOf_of hC.tab (h g (by simp)), Result.andThen, Sem.run_pure, ih (fun f hf => h f (by simp [hf]))]
        rfl
    obtain ⟨cs', k1, k2⟩ := fill_struct hC he hst (place := ((gs.map fun f => (f.offset, sz C.tb f.type))[·]?)) (fun i f hf => by
      rw [← hge] at hf
      simp only [List.getElem?_map, Option.map_eq_some_iff] at hf
      obtain ⟨g, hg1, rfl⟩ := hf
      simp only [Array.getElem?_map]
      simp at hg1
      rw [hg1]; rfl) ps.toList qs (zc C.tb zf t) _ hps hz0
    refine ⟨.agg cs'.toArray, fun w' hw' => ?_, DRel.t (by simp [VC, isAggT, hst]) k2⟩
    have hm := hpl w' gs.toList hall
    have hzca : z.cells = (zc C.tb zf t).toArray := by rw [← hzc]
    simp only [execOp, ho, Instr.build, Sem.run_bind, hzr, Result.andThen, run_underlying_of hC.tab hg]
    rw [Array.mapM_eq_mapM_toList]
    simp only [Sem.run_map, hm, Result.andThen]
    have hmap : (ps.map fun (i, x) => (i, a.eval x)).toList = ps.toList.map fun p => (p.1, a.eval p.2) := by simp
    have hk : Instr.fill (((gs.toList.map fun f => (f.offset, sz C.tb f.type)).toArray)[·]?) z.cells (ps.map fun (i, x) => (i, a.eval x)).toList = some cs'.toArray := by
      rw [hmap, hzca, ← k1]
      congr 1
      funext i
      simp
    rw [hk]
    rfl
end
end Go.Den
/- A new block in a region that draws. -/
namespace Go.Den
open Go
set_option linter.unusedSectionVars false
set_option linter.unusedSimpArgs false
set_option linter.unusedVariables false
theorem Rel.newTreeF {P : Program} {tb H β σ w} (h : Rel tb H β σ w) (hT : TabOk P tb) {ty : TypeId} {cs : List Value} {x : T} (hx : TRel tb H β σ ty cs x) (elem : TypeId) (he : elem = ty) (ts : List Nat) :
    ∃ H', Rel tb H' (β ++ [.pointer (some ⟨w.heap.size, 0, none⟩)]) (σ ++ [.tree ty x]) (w.alloc (.cells cs.toArray elem)) ∧
      Ev H β σ H' (β ++ [.pointer (some ⟨w.heap.size, 0, none⟩)]) (σ ++ [.tree ty x]) ∧ Stp H w H' (w.alloc (.cells cs.toArray elem)) ∧ Frm ts H w H' (w.alloc (.cells cs.toArray elem)) := by
  have r := h.alloc (.cells cs.toArray elem) (fun o => if o < cs.length then .mine σ.length else .none) [.pointer (some ⟨w.heap.size, 0, none⟩)] [.tree ty x] rfl
    (fun o v hv => by split at hv <;> cases hv)
    (fun i k bv hk hv => by
      have hi : i = 0 := by have := (List.getElem?_eq_some_iff.1 hk).1; simp at this; omega
      subst hi
      simp at hk hv; subst hk; subst hv
      refine ⟨w.heap.size, 0, cs, rfl, hx.len hT, fun _ => ⟨rfl, by rw [shape?_alloc_new, he, ← hx.len hT]; simp⟩, fun j v hj => ?_, ?_⟩
      · have hjl : j < cs.length := (List.getElem?_eq_some_iff.1 hj).1
        refine ⟨?_, ?_, ?_⟩
        · simp [World.cell?_alloc_new, hj]
        · rw [hAlloc_new]; simp [hjl]
        · exact World.frozen?_alloc_new w _ _ _
      · refine hx.mono (Ev.app h.len fun b o v hb => ?_)
        have := h.dom b o (by rw [hb]; simp)
        rw [hAlloc_old (by omega)]; exact hb)
  exact ⟨_, r.1, r.2, Stp.alloc h.dom _ _, .alloc h.dom _ _⟩
section
variable {C : Cx} {o : Oper} {env : Env} {σ : List Blk} {ts : List Nat} {Q : Post}
theorem OpF_alloc (hC : Ok C) {elem : TypeId} (ho : o.op = .alloc elem) (hp : plain C.tb zf elem = true) :
    OpF C o env σ ts (fun d s => d = .ptr σ.length [] ∧ s = σ ++ [.tree elem (zeroT C.tb zf elem)]) := by
  intro H β a w hr he hd K Qx hK
  obtain ⟨v, hv, hc⟩ := hC.zero.get hC.tab hp w
  have hx := zeroT_rel hC.tab (H := H) (β := β) (σ := σ) zf elem hp
  obtain ⟨H', r1, r2, r3, r4⟩ := hr.newTreeF hC.tab hx elem rfl ts
  have hrun : (execOp a.eval o).run C.P w = .ok (.value (.pointer (some ⟨w.heap.size, 0, none⟩))) (w.alloc (.cells (zc C.tb zf elem).toArray elem)) := by
    rw [← hc]
    simp [execOp, ho, Instr.alloc, hv, newVar, newRow]
  simp only [Oper.wp, hrun, Oper.upon]
  exact hK _ _ _ H' _ _ ⟨rfl, rfl⟩ r1 (.ptr (newPtr hr.len rfl)) r3 r2 r4
theorem VX_allocO (hC : Ok C) {k : List It} {full : List Oper} {i : Nat} {ord : List (Nat × Bool)} {elem : TypeId} {z : T} {n : Nat} {env' : Env}
    (hi : full[i]? = some o) (hw : wants full env o = some true) (hn : dstOk C.n o.dst = true) (ho : o.op = .alloc elem) (hp : plain C.tb zf elem = true) (hl : σ.length = n) (hz : zeroT C.tb zf elem = z)
    (he : putD env o.dst (.ptr n []) = env')
    (hk : VX C Q (.o full ts ord :: k) .nrm env' (σ ++ [.tree elem z])) (hal : aloneB full ((i, false) :: ord) = true := by kernel_rfl) : VX C Q (.o full ts ((i, false) :: ord) :: k) .nrm env σ :=
  VX_opO hi hw hn (OpF_alloc hC ho hp) (fun d1 s1 ⟨a1, a2⟩ => by subst a1; subst a2; subst hl; subst hz; subst he; exact hk) hal
/-- All that is left, but for i, waits for all that has come up but i. -/
def settledX (ops : Array Oper) (n i : Nat) (r : List (Nat × Bool)) : Bool := r.all fun p => (List.range n).all fun k => memB k r || (Nat.beq k i || waits ops p.1 k)
/-- A value that hangs on no block of ours is taken first; from here on other blocks may be turned. -/
theorem VO_takeTs {l : List Oper} {i : Nat} {rest : List (Nat × Bool)} {r : DR} (ts' : List Nat) (hi : l[i]? = some o) (hw : wants l env o = some true) (hn : dstOk C.n o.dst = true) (ho : OpOk C o env σ r) (hv : isVal o.op = true) (hd : rsOf env o.op = [])
    (hs' : settledX l.toArray l.length i rest = true) (k : VO C l ts' rest (putD env o.dst r.d) r.s Q) : VO C l ts ((i, true) :: rest) env σ Q := by
  intro listed hns hs hcv hsz
  simp only [okSched, Bool.and_eq_true] at hs
  have hk0 := k _ hns hs.2 hcv.step (by simpa using hsz)
  intro H β a w hr' he hdef tk hS
  obtain ⟨hval, hss⟩ := ho.val hv
  rw [hss] at hk0
  rw [hd] at hval
  obtain ⟨v, hrun, hrel⟩ := hval H β a w hr' he
  let T : World → Prop := fun w' => (execOp a.eval o).run C.P w' = .ok (.value v) w'
  have hTa : ∀ ts, StabS ts H w T := fun ts w' hk => hrun w' fun b o' u hu h => hk b o' u hu (h.imp id fun ⟨i, hi, hm⟩ => by cases hi)
  have hd' : (a.put o.dst v).defers = [] := by cases o.dst <;> exact hdef
  have hia : l.toArray[i]? = some o := by simpa using hi
  have hk := hk0 H β (a.put o.dst v) w hr' (he.put hrel hn) hd' ((i, T) :: tk) (fun p hp => by
    rcases List.mem_cons.1 hp with rfl | hp
    · exact ⟨(Array.getElem?_eq_some_iff.1 hia).1, getD_set_self _ _, fun _ _ _ => hTa _⟩
    · obtain ⟨h0, h1, h2⟩ := hS.set i p hp
      refine ⟨h0, h1, fun j hj hw => ?_⟩
      obtain ⟨b, hb⟩ := memB_iff.1 ((hcv.step.2 j).1 hj)
      have h3 := List.all_eq_true.1 (List.all_eq_true.1 hs' _ hb) p.1 (List.mem_range.2 (by simpa using h0))
      simp only [hw, Bool.or_false, Bool.or_eq_true] at h3
      rcases h3 with h3 | h3
      · have := (hcv.step.2 p.1).2 h3
        rw [h1] at this; cases this
      · have he' := Nat.eq_of_beq_eq_true h3
        have h5 : listed.getD p.1 true = true := (hS p hp).2.1
        have h6 : listed.getD p.1 true = false := (hcv.2 p.1).2 (by rw [he']; simp [memB])
        rw [h5] at h6; cases h6)
  refine wpAnyD_mono2 (fun _ _ _ h => h) (fun j w h p hp => h p (List.mem_cons_of_mem _ hp)) _ _ _ _ (wpAnyD_first (S := sOf l.toArray ((i, T) :: tk)) (T := T) (v := v) (i := i) (oi := o) hia (Region.noSelect_spec hns) (fun c a w h => (lift_panic h).elim) rest.length listed a w
    (fun j oj hj hne hun hno => ⟨Region.free_spec hia hs.1.1 j oj hj hne hun hno, fun w' h => h (i, T) (by simp) ?_⟩) (by simpa using hs.1.2) (.inl ⟨wants_rel he hw, fun w' h => h⟩) (hTa []).here hk)
  simp only [waits, hj]
  refine Bool.eq_false_iff.2 fun h => ?_
  obtain ⟨e, he1, hb⟩ := Array.any_eq_true'.1 h
  simp only [Bool.and_eq_true, beq_iff_eq] at hb
  exact hno e he1 hb.1 hb.2
theorem VX_extractTs {k : List It} {full : List Oper} {i t n : Nat} {ord : List (Nat × Bool)} {ds : List D} {d : D} (ts' : List Nat)
    (hi : full[i]? = some o) (hw : wants full env o = some true) (hn : dstOk C.n o.dst = true) (ho : o.op = .extract (.tmp t) n) (ht : getD env t = .tup ds) (hd : ds[n]? = some d)
    (hs' : settledX full.toArray full.length i ord = true) (hk : VX C Q (.o full ts' ord :: k) .nrm (putD env o.dst d) σ) : VX C Q (.o full ts ((i, true) :: ord) :: k) .nrm env σ :=
  VO_takeTs ts' hi hw hn (Ok_extract ho ht hd) (by simp [isVal, ho]) (by rw [ho]; rfl) hs' hk
end
end Go.Den
/- Law 33: the table of types. -/
namespace Go.Den.Q33
open Go Go.Den Go.Proofs
def fL : List Int := [1779033703, 3144134277, 1013904242, 2773480762, 1359893119, 2600822924, 528734635, 1541459225]
def kL : List Int := [1116352408, 1899447441, 3049323471, 3921009573, 961987163, 1508970993, 2453635748, 2870763221, 3624381080, 310598401, 607225278, 1426881987, 1925078388, 2162078206, 2614888103, 3248222580, 3835390401, 4022224774, 264347078, 604807628, 770255983, 1249150122, 1555081692, 1996064986, 2554220882, 2821834349, 2952996808, 3210313671, 3336571891, 3584528711, 113926993, 338241895, 666307205, 773529912, 1294757372, 1396182291, 1695183700, 1986661051, 2177026350, 2456956037, 2730485921, 2820302411, 3259730800, 3345764771, 3516065817, 3600352804, 4094571909, 275423344, 430227734, 506948616, 659060556, 883997877, 958139571, 1322822218, 1537002063, 1747873779, 1955562222, 2024104815, 2227730452, 2361852424, 2428436474, 2756734187, 3204031479, 3329325298]
def tb : Tab :=
⟨[⟨.other, 1, 0, 0⟩,
  ⟨.fn, 1, 8, 1⟩,
  ⟨.int .i64, 1, 8, 2⟩,
  ⟨.int .i64, 1, 8, 3⟩,
  ⟨.bool, 1, 1, 4⟩,
  ⟨.int .u8, 1, 1, 5⟩,
  ⟨.int .u8, 1, 1, 5⟩,
  ⟨.st [(2, 0), (3, 1), (4, 2), (6, 3)], 4, 24, 7⟩,
  ⟨.st [(2, 0), (3, 1), (4, 2), (6, 3)], 4, 24, 7⟩,
  ⟨.str, 1, 16, 9⟩,
  ⟨.str, 1, 16, 9⟩,
  ⟨.str, 1, 16, 9⟩,
  ⟨.int .u64, 1, 8, 12⟩,
  ⟨.st [(9, 0), (12, 1)], 2, 24, 13⟩,
  ⟨.st [(9, 0), (12, 1)], 2, 24, 13⟩,
  ⟨.ptr 170, 1, 8, 15⟩,
  ⟨.ptr 173, 1, 8, 16⟩,
  ⟨.ptr 180, 1, 8, 17⟩,
  ⟨.st [(17, 0)], 1, 8, 18⟩,
  ⟨.st [(17, 0)], 1, 8, 18⟩,
  ⟨.ifc, 1, 16, 20⟩,
  ⟨.int .i32, 1, 4, 21⟩,
  ⟨.int .u64, 1, 8, 22⟩,
  ⟨.arr 32 5, 32, 32, 23⟩,
  ⟨.arr 32 5, 32, 32, 23⟩,
  ⟨.sl 9, 1, 24, 25⟩,
  ⟨.sl 33, 1, 24, 26⟩,
  ⟨.st [(22, 0), (24, 1), (22, 33), (25, 34), (26, 35), (24, 36)], 68, 128, 27⟩,
  ⟨.st [(22, 0), (24, 1), (22, 33), (25, 34), (26, 35), (24, 36)], 68, 128, 27⟩,
  ⟨.sl 59, 1, 24, 29⟩,
  ⟨.st [(29, 0)], 1, 24, 30⟩,
  ⟨.st [(29, 0)], 1, 24, 30⟩,
  ⟨.int .u32, 1, 4, 32⟩,
  ⟨.int .i64, 1, 8, 3⟩,
  ⟨.sl 24, 1, 24, 34⟩,
  ⟨.st [(32, 0), (9, 1), (33, 2), (34, 3), (34, 4)], 5, 80, 35⟩,
  ⟨.st [(32, 0), (9, 1), (33, 2), (34, 3), (34, 4)], 5, 80, 35⟩,
  ⟨.fn, 1, 8, 37⟩,
  ⟨.fn, 1, 8, 38⟩,
  ⟨.other, 1, 0, 39⟩,
  ⟨.fn, 1, 8, 40⟩,
  ⟨.st [(32, 0), (9, 1), (3, 2), (34, 3), (34, 4)], 5, 80, 41⟩,
  ⟨.st [(32, 0), (9, 1), (3, 2), (34, 3), (34, 4)], 5, 80, 41⟩,
  ⟨.other, 1, 0, 43⟩,
  ⟨.fn, 1, 8, 44⟩,
  ⟨.sl 3, 1, 24, 45⟩,
  ⟨.st [(22, 0), (24, 1), (22, 33), (25, 34), (45, 35), (24, 36)], 68, 128, 46⟩,
  ⟨.st [(22, 0), (24, 1), (22, 33), (25, 34), (45, 35), (24, 36)], 68, 128, 46⟩,
  ⟨.fn, 1, 8, 48⟩,
  ⟨.fn, 1, 8, 49⟩,
  ⟨.fn, 1, 8, 50⟩,
  ⟨.fn, 1, 8, 51⟩,
  ⟨.fn, 1, 8, 52⟩,
  ⟨.sl 63, 1, 24, 53⟩,
  ⟨.fn, 1, 8, 54⟩,
  ⟨.fn, 1, 8, 55⟩,
  ⟨.other, 1, 0, 56⟩,
  ⟨.fn, 1, 8, 57⟩,
  ⟨.st [(22, 0), (24, 1), (22, 33), (24, 34), (24, 66), (24, 98), (32, 130)], 131, 152, 58⟩,
  ⟨.st [(22, 0), (24, 1), (22, 33), (24, 34), (24, 66), (24, 98), (32, 130)], 131, 152, 58⟩,
  ⟨.fn, 1, 8, 60⟩,
  ⟨.ptr 67, 1, 8, 61⟩,
  ⟨.fn, 1, 8, 62⟩,
  ⟨.st [(22, 0), (24, 1), (22, 33), (24, 34), (24, 66), (24, 98), (32, 130)], 131, 152, 58⟩,
  ⟨.fn, 1, 8, 64⟩,
  ⟨.mp 24 25, 1, 8, 65⟩,
  ⟨.st [(25, 0), (65, 1)], 2, 32, 66⟩,
  ⟨.st [(25, 0), (65, 1)], 2, 32, 66⟩,
  ⟨.fn, 1, 8, 68⟩,
  ⟨.fn, 1, 8, 69⟩,
  ⟨.fn, 1, 8, 70⟩,
  ⟨.fn, 1, 8, 71⟩,
  ⟨.fn, 1, 8, 72⟩,
  ⟨.fn, 1, 8, 73⟩,
  ⟨.fn, 1, 8, 74⟩,
  ⟨.int .u64, 1, 8, 75⟩,
  ⟨.fn, 1, 8, 76⟩,
  ⟨.fn, 1, 8, 77⟩,
  ⟨.ptr 146, 1, 8, 78⟩,
  ⟨.other, 1, 0, 79⟩,
  ⟨.fn, 1, 8, 80⟩,
  ⟨.other, 1, 0, 81⟩,
  ⟨.fn, 1, 8, 82⟩,
  ⟨.fn, 1, 8, 83⟩,
  ⟨.other, 1, 0, 84⟩,
  ⟨.fn, 1, 8, 85⟩,
  ⟨.fn, 1, 8, 86⟩,
  ⟨.fn, 1, 8, 87⟩,
  ⟨.fn, 1, 8, 88⟩,
  ⟨.fn, 1, 8, 89⟩,
  ⟨.fn, 1, 8, 90⟩,
  ⟨.fn, 1, 8, 91⟩,
  ⟨.fn, 1, 8, 92⟩,
  ⟨.fn, 1, 8, 93⟩,
  ⟨.fn, 1, 8, 94⟩,
  ⟨.fn, 1, 8, 95⟩,
  ⟨.fn, 1, 8, 96⟩,
  ⟨.fn, 1, 8, 97⟩,
  ⟨.fn, 1, 8, 98⟩,
  ⟨.fn, 1, 8, 99⟩,
  ⟨.fn, 1, 8, 100⟩,
  ⟨.fn, 1, 8, 101⟩,
  ⟨.fn, 1, 8, 102⟩,
  ⟨.fn, 1, 8, 103⟩,
  ⟨.fn, 1, 8, 104⟩,
  ⟨.arr 33 24, 1056, 1056, 105⟩,
  ⟨.fn, 1, 8, 106⟩,
  ⟨.fn, 1, 8, 107⟩,
  ⟨.fn, 1, 8, 108⟩,
  ⟨.fn, 1, 8, 109⟩,
  ⟨.fn, 1, 8, 110⟩,
  ⟨.fn, 1, 8, 111⟩,
  ⟨.fn, 1, 8, 112⟩,
  ⟨.fn, 1, 8, 113⟩,
  ⟨.fn, 1, 8, 114⟩,
  ⟨.sl 5, 1, 24, 115⟩,
  ⟨.fn, 1, 8, 116⟩,
  ⟨.arr 8 5, 8, 8, 117⟩,
  ⟨.fn, 1, 8, 118⟩,
  ⟨.fn, 1, 8, 119⟩,
  ⟨.fn, 1, 8, 120⟩,
  ⟨.fn, 1, 8, 121⟩,
  ⟨.fn, 1, 8, 122⟩,
  ⟨.arr 8 32, 8, 32, 123⟩,
  ⟨.other, 1, 0, 124⟩,
  ⟨.fn, 1, 8, 125⟩,
  ⟨.fn, 1, 8, 126⟩,
  ⟨.fn, 1, 8, 127⟩,
  ⟨.ptr 130, 1, 8, 128⟩,
  ⟨.st [(128, 0), (115, 1)], 2, 32, 129⟩,
  ⟨.st [(128, 0), (115, 1)], 2, 32, 129⟩,
  ⟨.ifc, 1, 16, 131⟩,
  ⟨.ifc, 1, 16, 131⟩,
  ⟨.fn, 1, 8, 133⟩,
  ⟨.other, 1, 0, 134⟩,
  ⟨.fn, 1, 8, 135⟩,
  ⟨.fn, 1, 8, 136⟩,
  ⟨.st [(123, 0), (9, 8), (22, 9)], 10, 56, 137⟩,
  ⟨.st [(123, 0), (9, 8), (22, 9)], 10, 56, 137⟩,
  ⟨.fn, 1, 8, 139⟩,
  ⟨.fn, 1, 8, 140⟩,
  ⟨.fn, 1, 8, 141⟩,
  ⟨.other, 1, 0, 142⟩,
  ⟨.mp 24 9, 1, 8, 143⟩,
  ⟨.mp 9 4, 1, 8, 144⟩,
  ⟨.st [(143, 0), (144, 1)], 2, 16, 145⟩,
  ⟨.st [(143, 0), (144, 1)], 2, 16, 145⟩,
  ⟨.fn, 1, 8, 147⟩,
  ⟨.ptr 5, 1, 8, 148⟩,
  ⟨.fn, 1, 8, 149⟩,
  ⟨.fn, 1, 8, 150⟩,
  ⟨.arr 64 32, 64, 256, 151⟩,
  ⟨.fn, 1, 8, 152⟩,
  ⟨.fn, 1, 8, 153⟩,
  ⟨.other, 1, 8, 154⟩,
  ⟨.fn, 1, 8, 155⟩,
  ⟨.fn, 1, 8, 156⟩,
  ⟨.fn, 1, 8, 157⟩,
  ⟨.sl 32, 1, 24, 158⟩,
  ⟨.other, 1, 0, 159⟩,
  ⟨.fn, 1, 8, 160⟩,
  ⟨.fn, 1, 8, 161⟩,
  ⟨.fn, 1, 8, 162⟩,
  ⟨.fn, 1, 8, 163⟩,
  ⟨.other, 1, 0, 164⟩,
  ⟨.fn, 1, 8, 165⟩,
  ⟨.other, 1, 0, 166⟩,
  ⟨.fn, 1, 8, 167⟩,
  ⟨.fn, 1, 8, 168⟩,
  ⟨.st [(17, 0), (17, 1), (17, 2), (9, 3)], 4, 40, 169⟩,
  ⟨.st [(17, 0), (17, 1), (17, 2), (9, 3)], 4, 40, 169⟩,
  ⟨.arr 0 16, 0, 0, 171⟩,
  ⟨.st [(171, 0)], 0, 0, 172⟩,
  ⟨.st [(171, 0)], 0, 0, 172⟩,
  ⟨.int .u8, 1, 1, 5⟩,
  ⟨.int .u8, 1, 1, 5⟩,
  ⟨.fn, 1, 8, 176⟩,
  ⟨.int .i32, 1, 4, 21⟩,
  ⟨.int .i32, 1, 4, 21⟩,
  ⟨.st [(12, 0), (12, 1), (32, 2), (174, 3), (5, 4), (5, 5), (175, 6), (176, 7), (148, 8), (177, 9), (178, 10)], 11, 48, 179⟩,
  ⟨.st [(12, 0), (12, 1), (32, 2), (174, 3), (5, 4), (5, 5), (175, 6), (176, 7), (148, 8), (177, 9), (178, 10)], 11, 48, 179⟩], [(1, 151, .agg (kL.map E.int)), (0, 123, .agg (fL.map E.int))]⟩

theorem tabOk : TabOk Tryd.prog tb := ⟨by kernel_rfl, by kernel_rfl, by kernel_rfl, by kernel_rfl⟩
theorem zeroOk : ZeroOk Tryd.prog tb := by unfold ZeroOk; kernel_rfl
theorem ok (k n : Nat) : Ok ⟨Tryd.prog, tb, k, n, 4⟩ := ⟨tabOk, zeroOk, rfl⟩
theorem mixed : Tryd.prog.follows .mixedOrders = true := by kernel_rfl
theorem eqs : eqTys Tryd.prog tb [24, 59, 63, 123] := by unfold eqTys; kernel_rfl
theorem w64 {a : Int} (h1 : -9223372036854775808 ≤ a) (h2 : a ≤ 9223372036854775807) : IntKind.wrap .i64 a = a := inR_wrap (by simp [inR]; omega)
theorem wk1 {k0 : Nat} {env' env : Env} {σ σ' : List Blk} (hs : σ = σ') (h0 : Nat.ble k0 σ'.length = true) (hb : ∀ k ∈ σ', k.under σ'.length = true) (h : leL σ'.length env' env) : Weak k0 env' σ' env σ := by
  subst hs; exact wk0 h0 hb h
theorem wkc {k0 : Nat} {env' env : Env} {σ σ' : List Blk} (τ : List Blk) (hs : σ = σ' ++ τ) (h0 : Nat.ble k0 σ'.length = true) (hb : ∀ k ∈ σ', k.under σ'.length = true) (h : leL σ'.length env' env) : Weak k0 env' σ' env σ :=
  ⟨⟨τ, hs⟩, Nat.le_of_ble_eq_true h0, hb, h⟩
end Go.Den.Q33
