/- The calculus and the walks, part 6: DenShelf, DenPair, DenLaid, DenPair2, DenNewM, Q34Tb, Q34A, Q34B, Q34N, Q34C, Q34D, Q34E, Q34G. -/
import Derived.Test.YtgdfegmdjdnbdaaP5
import Derived.Below
import Derived.Test.YtgdfegmdjdnbdaaP4
import Derived.Test.YtgdfegmdjdnbdaaProg
/- Contracts of the library's shelf, turned into contracts of the calculus. -/
namespace Go.Den
open Go Go.RowKit
set_option linter.unusedVariables false
theorem Stp.below {H : Gh} {w w' : World} (h : Below w.heap.size w w') : Stp H w H w' := by
  have hb : ∀ b, b < w.heap.size → w'.heap[b]? = w.heap[b]? := fun b hb => h.block b hb
  refine ⟨h.os, h.tape, h.output, h.size, fun _ _ _ _ => rfl, fun _ _ _ i e => ⟨i, e⟩, fun b hlt _ => hb b hlt, fun b hlt o _ => ?_, fun b hlt o v _ _ => ?_, fun b hlt => ?_⟩
  · unfold World.cell?; simp only [hb b hlt]
  · unfold World.frozen?; simp only [hb b hlt]
  · unfold World.shape?; simp only [hb b hlt]
theorem Base.below {H : Gh} {w w' : World} (hb : Base H w) (h : Below w.heap.size w w') : Base H w' := by
  refine ⟨fun b o v e => ?_, fun b o e => Nat.lt_of_lt_of_le (hb.dom b o e) h.size⟩
  have hlt := hb.dom b o (by rw [e]; simp)
  have := hb.pers b o v e
  unfold World.cell? at this ⊢
  rw [h.block b hlt]; exact this
/-- A contract that tells the value, and that nothing that stood has turned. -/
theorem FnOk_of_calls {P : Program} {tb : Tab} {f : FuncId} {fn : Func} {c : Code} {pts rts : List TypeId} {args rs : List E} (hf : P.funcs[f]? = some fn) (hn : (fn.name == "runtime.NumGoroutine") = false) (hb : fn.body = some c) (hl : args.length = pts.length)
    (h : ∀ H w vals, Base H w → ArgsAt tb H [] [] vals (typed pts args) → ∃ v, Calls P f vals w (fun e w' => e = .returned v ∧ Below w.heap.size w w') ∧ DRel tb H [] [] v (retD rts rs)) : FnOk P tb f pts rts args rs := by
  refine ⟨⟨fn, hf, hn, by rw [hb]; rfl⟩, hl, fun H w vals hbase hmine hargs => ?_⟩
  obtain ⟨v, hc, hd⟩ := h H w vals hbase hargs
  refine hc.mono ?_
  rintro e w' ⟨rfl, hbl⟩
  exact ⟨v, H, rfl, hbase.below hbl, hd, Stp.below hbl⟩
end Go.Den
/- Pairs in regions that draw: a call, and bytes of a text. -/
namespace Go.Den
open Go
set_option linter.unusedSectionVars false
set_option linter.unusedVariables false
section
variable {C : Cx} (hC : Ok C) {o : Oper} {env : Env} {σ : List Blk} {ts : List Nat}
include hC
/-- A call of data, whatever else may come up. -/
theorem OpF_callD {f : FuncId} {xs : Array Operand} {tys : Array TypeId} {pts rts : List TypeId} {args rs : List E} (ho : o.op = .call { callee := .value (.func f), args := xs, argTypes := tys })
    (hx : argsE C.tb env pts xs.toList = some args) (h : FnOk C.P C.tb f pts rts args rs) : OpF C o env σ ts (fun d s => d = retD rts rs ∧ s = σ) := OpF_callE hC ho hx h
/-- The bytes of a text. -/
theorem OpF_bytes {s d u : TypeId} {x : Operand} {dx : D} {l : List UInt8} (ho : o.op = .convert s d x) (hs : td C.tb s = .str) (hd : td C.tb d = .sl u) (hu : td C.tb u = .int .u8) (hx : opd C.tb env s x = some dx) (hl : strAny dx = some l) :
    OpF C o env σ ts (fun d' s' => d' = .t d (.e (.sl (l.map byteE))) ∧ s' = σ) := by
  intro H β a w hr he hdf K Qx hK
  obtain ⟨hv, hlen⟩ := strAny_rel (opd_rel he hx) hl
  have hsz : sz C.tb u = 1 := hC.tab.sz_one (by simp [isAggT, hu]) (by rw [hu]; simp)
  have hrun := run_bytes_of_string (P := C.P) w s d u ⟨⟨l⟩⟩ (hC.tab.str hs) (hC.tab.sl hd) (hC.tab.int hu)
  generalize hcap : grownCap w (ByteArray.size ⟨⟨l⟩⟩) 0 u = cap at hrun
  have hcap' : l.length ≤ cap := by
    have : (ByteArray.size ⟨⟨l⟩⟩) = l.length := rfl
    rw [← hcap, this]; simp [grownCap, Question.cut]
  let ob : Obj := .cells (bytesRow ⟨⟨l⟩⟩ cap) u ((bytesRow ⟨⟨l⟩⟩ cap).size, (bytesRow ⟨⟨l⟩⟩ cap).size + 1)
  have hcs : ∀ (j : Nat) v, (l.map fun b => Value.int .u8 b.toNat)[j]? = some v → (w.drew.alloc ob).cell? ⟨w.heap.size, j, none⟩ = some v := fun j v hj => by
    have hjl : j < l.length := by have := (List.getElem?_eq_some_iff.1 hj).1; simpa using this
    have : (w.drew.alloc ob).heap[w.drew.heap.size]? = some ob := heap_alloc_new w.drew ob
    rw [show w.drew.heap.size = w.heap.size from rfl] at this
    simp only [World.cell?, this, ob]
    simp only [bytesRow]
    rw [Array.getElem?_append_left (by simpa using hjl)]
    simpa using hj
  let f : Nat → Own := fun o => match (l.map fun b => Value.int .u8 b.toNat)[o]? with
    | some v => .pers v
    | none => .none
  obtain ⟨hr2, hev⟩ := hr.drew.alloc ob f [] [] rfl (fun o v hv => by
    simp only [f] at hv
    split at hv
    · rename_i v' hv'; cases hv; exact hcs o _ hv'
    · cases hv) (fun i k bv hk => by simp at hk)
  simp only [List.append_nil] at hr2 hev
  have hstp : Stp H w _ (w.drew.alloc ob) := (Stp.drew H w).trans (Stp.alloc (w := w.drew) hr.dom ob f)
  have hex : (execOp a.eval o).run C.P w = .ok (.value (.slice (some ⟨w.heap.size, 0, none⟩) l.length cap)) (w.drew.alloc ob) := by
    have hsl : (⟨⟨l⟩⟩ : ByteArray).size = l.length := rfl
    rw [hsl] at hrun
    simp [execOp, ho, hv, sv, hrun, ob]
  simp only [Oper.wp, hex, Oper.upon]
  refine hK _ _ _ _ β σ ⟨rfl, rfl⟩ hr2 ?_ hstp hev (fun b o u hu hs => Frm.alloc (ts := ts) (w := w.drew) hr.dom ob f b o u hu hs)
  refine .t (cs := [.slice (some ⟨w.heap.size, 0, none⟩) l.length cap]) (by simp [VC, isAggT, hd]) (.e ?_)
  have hlm : (l.map byteE).length = l.length := by simp
  rw [← hlm]
  refine .sl (cs := l.map fun b => .int .u8 b.toNat) hd (by simp [hsz]) (fun j v hj => ?_) (fun i x hx => ?_) (by rw [hlm]; exact hcap') (by rw [hlm]; unfold maxI at hlen; unfold maxN; omega)
  · rw [Nat.zero_add]
    show (if _ then _ else _) = _
    rw [if_pos (show w.heap.size = w.drew.heap.size from rfl)]; simp only [f, hj]
  · simp only [List.getElem?_map, Option.map_eq_some_iff] at hx
    obtain ⟨b, hb1, rfl⟩ := hx
    have : seg (l.map fun b => Value.int .u8 b.toNat) (i * sz C.tb u) (sz C.tb u) = [.int .u8 b.toNat] := by
      rw [hsz, Nat.mul_one]
      unfold seg
      rw [List.take_one, List.head?_drop]
      simp [hb1]
    rw [this]
    exact .int hu (inR_wrap (by have := b.toNat_lt; simp [inR]; omega))
end
section
variable {C : Cx} {env : Env} {σ : List Blk} {Q : Post}
theorem swap2 {env : Env} {i j : Nat} {di dj : D} (h : Nat.beq i j = false) (t : Nat) : getD (putD (putD env (some i) di) (some j) dj) t = getD (putD (putD env (some j) dj) (some i) di) t := by
  simp only [putD, getD]
  cases h1 : Nat.beq i t with
  | false => cases Nat.beq j t <;> rfl
  | true =>
    have := Nat.eq_of_beq_eq_true h1
    subst this
    cases h2 : Nat.beq j i with
    | false => rfl
    | true => have := Nat.eq_of_beq_eq_true h2; subst this; rw [beq_self'] at h; cases h
/-- A call of data beside the bytes of a text. -/
theorem VX_callBytes (hC : Ok C) {k : List It} {full : List Oper} {ts : List Nat} {i j ti tj : Nat} {oi oj : Oper} {ord : List (Nat × Bool)} {f : FuncId} {xs : Array Operand} {tys : Array TypeId} {pts rts : List TypeId} {args rs : List E} {sb db u : TypeId} {x : Operand} {dx : D} {l : List UInt8}
    (hi : full[i]? = some oi) (hj : full[j]? = some oj) (hp : pairB full ((i, false) :: (j, false) :: ord) = true)
    (hwi : wants full env oi = some true) (hwj : wants full env oj = some true) (hdi : oi.dst = some ti) (hdj : oj.dst = some tj) (hti : Nat.blt ti C.n = true) (htj : Nat.blt tj C.n = true) (hne : Nat.beq ti tj = false)
    (hoi : oi.op = .call { callee := .value (.func f), args := xs, argTypes := tys }) (hx : argsE C.tb env pts xs.toList = some args) (h : FnOk C.P C.tb f pts rts args rs)
    (hoj : oj.op = .convert sb db x) (hs : td C.tb sb = .str) (hd : td C.tb db = .sl u) (hu : td C.tb u = .int .u8) (hxb : opd C.tb env sb x = some dx) (hl : strAny dx = some l)
    (hwi' : wants full ((tj, .t db (.e (.sl (l.map byteE)))) :: env) oi = some true) (hwj' : wants full ((ti, retD rts rs) :: env) oj = some true)
    (hx' : argsE C.tb ((tj, .t db (.e (.sl (l.map byteE)))) :: env) pts xs.toList = some args) (hxb' : opd C.tb ((ti, retD rts rs) :: env) sb x = some dx)
    (hk : VX C Q (.o full ts ord :: k) .nrm ((tj, .t db (.e (.sl (l.map byteE)))) :: (ti, retD rts rs) :: env) σ) : VX C Q (.o full ts ((i, false) :: (j, false) :: ord) :: k) .nrm env σ := by
  refine VX_pair (di := retD rts rs) (dj := .t db (.e (.sl (l.map byteE)))) hi hj hp hwi hwj (by rw [hdj]; exact hwi') (by rw [hdi]; exact hwj') (by rw [hdi]; exact hti) (by rw [hdj]; exact htj)
    (OpF_callE hC hoi hx h) (OpF_bytes hC hoj hs hd hu hxb hl) (by rw [hdj]; exact OpF_callE hC hoi hx' h) (by rw [hdi]; exact OpF_bytes hC hoj hs hd hu hxb' hl) (by rw [hdi, hdj]; exact swap2 hne) ?_
  rw [hdi, hdj]; exact hk
end
end Go.Den
/- The variables of the package, as a statement's condition lays them. -/
namespace Go.Den
open Go
set_option linter.unusedVariables false
/-- An array of numbers. -/
theorem gl_ints {P : Program} {tb : Tab} (hT : TabOk P tb) {H : Type} {enc : TypeId × Value → H} {w : World} {nm : String} {g : Nat} {cs : Array Value} {fuel : Nat} {t u : TypeId} {n : Nat} {k : IntKind} {ns : List Int} {p : List MemPlace} {base : Nat} {sp : Nat → Bool} {held : Bool}
    (hg : P.globalNamed nm = some g) (hv : w.var? P nm = some cs) (ht : td tb t = .arr n u) (hu : td tb u = .int k)
    (h : DataW.trod enc P w base sp held fuel t cs.toList = some (.agg (ns.map fun n => .lit (.int k n)), p)) :
    ∃ cs' : List Value, cs'.length = sz tb t ∧ Rd tb (Hw w) t cs' (.agg (ns.map E.int)) ∧ ∀ (j : Nat) v, cs'[j]? = some v → Hw w g j = .pers v := by
  have hsz : sz tb u = 1 := hT.sz_one (by simp [isAggT, hu]) (by rw [hu]; simp)
  have hcu : P.cellsOf u = 1 := by rw [cellsOf_sz hT (hT.lt_of_td (by rw [hu]; simp)), hsz]
  have hct : P.cellsOf t = sz tb t := cellsOf_sz hT (hT.lt_of_td (by rw [ht]; simp))
  obtain ⟨xs, m, _, hx, hl, hxn, hel⟩ := DataW.trod_array (hT.arr ht) h
  simp only [Prod.mk.injEq, DataW.agg.injEq] at hx
  have hlen : cs.toList.length = sz tb t := by rw [hl, hct]
  have hns : ns.length = n := by
    have := congrArg List.length hx.1
    simp only [List.length_map] at this
    omega
  refine ⟨cs.toList, hlen, .arr ht (by rw [hlen, hT.sz_arr ht]) (by simpa using hns) (fun i x hi => ?_), fun j v hj => ?_⟩
  · simp only [List.getElem?_map, Option.map_eq_some_iff] at hi
    obtain ⟨a, ha, rfl⟩ := hi
    have hin : i < n := by have := (List.getElem?_eq_some_iff.1 ha).1; omega
    have he := hel i hin
    rw [hcu] at he
    obtain ⟨b, q, hb⟩ : ∃ b q, xs[i]? = some (b, q) := ⟨xs[i].1, xs[i].2, List.getElem?_eq_getElem (by omega)⟩
    rw [hb] at he
    obtain ⟨c, e1, e2, hw⟩ := DataW.trod_int (hT.int hu) he
    have h3 := congrArg (fun l => l[i]?) hx.1
    simp only [List.getElem?_map, ha, hb, Option.map_some, Option.some.injEq] at h3
    simp only [Prod.mk.injEq] at e2
    rw [e2.1] at h3
    have hac : a = c := by simpa using h3
    subst hac
    rw [hsz]
    show Rd tb (Hw w) u ((cs.toList.drop (i * 1)).take 1) (.int a)
    rw [e1]
    exact .int hu (wf_wrap hw)
  · rw [Hw_pers, World.var?_cell hg hv j]
    simpa using hj
end Go.Den
/- Pairs in regions that draw: a call, and a list that is written out. -/
namespace Go.Den
open Go
set_option linter.unusedSectionVars false
set_option linter.unusedVariables false
section
variable {C : Cx} {env : Env} {σ : List Blk} {Q : Post}
/-- A call of data beside a list that is written out. -/
theorem VX_callLit (hC : Ok C) {k : List It} {full : List Oper} {ts : List Nat} {i j ti tj : Nat} {oi oj : Oper} {ord : List (Nat × Bool)} {f : FuncId} {xs : Array Operand} {tys : Array TypeId} {pts rts : List TypeId} {args rs : List E} {t : TypeId} {len : Nat} {ps : Array (Nat × Operand)} {d : D} {pp pp' : Prop}
    (hi : full[i]? = some oi) (hj : full[j]? = some oj) (hp : pairB full ((i, false) :: (j, false) :: ord) = true)
    (hwi : wants full env oi = some true) (hwj : wants full env oj = some true) (hdi : oi.dst = some ti) (hdj : oj.dst = some tj) (hti : Nat.blt ti C.n = true) (htj : Nat.blt tj C.n = true) (hne : Nat.beq ti tj = false)
    (hoi : oi.op = .call { callee := .value (.func f), args := xs, argTypes := tys }) (hx : argsE C.tb env pts xs.toList = some args) (h : FnOk C.P C.tb f pts rts args rs)
    (hoj : oj.op = .buildSlice t len ps) (hl : dLit C env σ t len ps.toList = some ⟨pp, d, σ⟩)
    (hwi' : wants full ((tj, d) :: env) oi = some true) (hwj' : wants full ((ti, retD rts rs) :: env) oj = some true)
    (hx' : argsE C.tb ((tj, d) :: env) pts xs.toList = some args) (hl' : dLit C ((ti, retD rts rs) :: env) σ t len ps.toList = some ⟨pp', d, σ⟩)
    (hk : VX C Q (.o full ts ord :: k) .nrm ((tj, d) :: (ti, retD rts rs) :: env) σ) : VX C Q (.o full ts ((i, false) :: (j, false) :: ord) :: k) .nrm env σ := by
  refine VX_pair (di := retD rts rs) (dj := d) hi hj hp hwi hwj (by rw [hdj]; exact hwi') (by rw [hdi]; exact hwj') (by rw [hdi]; exact hti) (by rw [hdj]; exact htj)
    (OpF_callE hC hoi hx h) (dLit_okF hC hoj hl) (by rw [hdj]; exact OpF_callE hC hoi hx' h) (by rw [hdi]; exact dLit_okF hC hoj hl') (by rw [hdi, hdj]; exact swap2 hne) ?_
  rw [hdi, hdj]; exact hk
end
end Go.Den
/- An append to an empty list that is written to afterwards. -/
namespace Go.Den
open Go
set_option linter.unusedSectionVars false
set_option linter.unusedSimpArgs false
set_option linter.unusedVariables false
section
variable {C : Cx} {o : Oper} {env : Env} {σ : List Blk}
theorem OpV_appendNewM (hC : Ok C) {x y : Operand} {t t2 u tx : TypeId} {ys : List E} (ho : o.op = .call { callee := .builtin .append, args := #[x, y], argTypes := #[t, t2] }) (ht : td C.tb t = .sl u) (hz : plain C.tb zf u = true) (hs0 : Nat.beq (sz C.tb u) 0 = false)
    (hx : opd C.tb env t x = some (.t tx (.bsl []))) (hys : SrcAt C env σ t t2 y ys) (hne : 0 < ys.length) (hp : ys.length * nb C.tb u ≤ maxL ∧ ys.length ≤ maxL) :
    OpV C o env σ (fun d s => d = .t t (.msl σ.length ys.length) ∧ s = σ ++ [.mrow u true ys]) := by
  intro H β a w hr he hd K Qx hK
  have hs0' : sz C.tb u ≠ 0 := Nat.ne_of_beq_eq_false hs0
  have hvx := opd_rel he hx
  obtain ⟨h2, hlx, news, hnr, hnew⟩ := hys H β a w u ht hr he
  have hv0 : ∃ b off, a.eval x = .slice (some ⟨b, off, none⟩) 0 0 := by
    generalize a.eval x = vx at hvx ⊢
    cases hvx with
    | @t ty v cs z aa bb => cases bb with
      | @bsl t0 u0 b off xs b1 b2 =>
        have a' := aa
        simp [VC, isAggT, b1] at a'
        exact ⟨b, off, a'.symm⟩
  obtain ⟨b0, off0, hv0⟩ := hv0
  have hnews : ∀ w', (∀ b o v, w.cell? ⟨b, o, none⟩ = some v → w'.cell? ⟨b, o, none⟩ = some v) → (Builtin.firstCells (sz C.tb u) ys.length (a.eval y)).run C.P w' = .ok news.toArray w' := fun w' h => by
    have := hnew ys.length (Nat.le_refl _) w' h
    rwa [← hnr.len, List.take_length] at this
  have hrun := run_append_any hC (ty := o.type) ht hz (ba := some ⟨b0, off0, none⟩) (n := 0) (cap := 0) (m := ys.length) (x := a.eval y) (olds := []) (news := news) (w := w) h2 hlx (fun _ _ => trivial) hnews (by simp)
    (fun b off ha j v hj => by simp at hj) (fun ha => by cases ha) (fun aa haa => by cases haa; rfl) hnr.len (hnr.one hC.tab) (fun hr => by omega) (by simpa using hp.1) (by simpa using hp.2)
  rcases hrun with ⟨h, _⟩ | ⟨_, nc, zs, h1, hzl, hrun⟩
  · omega
  simp only [Nat.zero_add, List.nil_append] at h1 hzl hrun
  let ob : Obj := .cells (news ++ zs).toArray u
  have hlen : (news ++ zs).length = nc * sz C.tb u := by
    rw [List.length_append, hnr.len, hzl, ← Nat.add_mul]; congr 1; omega
  let f : Nat → Own := fun o => if o < (news ++ zs).length then .mine σ.length else .none
  obtain ⟨hr2, hev⟩ := hr.drew.alloc ob f [.slice (some ⟨w.heap.size, 0, none⟩) ys.length nc] [.mrow u true ys] rfl (fun o v hv => by
      have hv' : (if o < (news ++ zs).length then Own.mine σ.length else .none) = .pers v := hv
      split at hv' <;> cases hv') (fun i k bv hk hv => by
    have hi : i = 0 := by have := (List.getElem?_eq_some_iff.1 hk).1; simp at this; omega
    subst hi
    simp at hk hv; subst hk; subst hv
    refine .inr ⟨w.heap.size, nc, news, zs, rfl, ⟨h1, by omega⟩, maxL_N hp.2, ?_, hlen, fun _ => ?_, fun j v hj => ?_⟩
    · refine ⟨hnr.len, fun i x hx => (hnr.el i x hx).mono fun b o v hb => ?_⟩
      have := hr.dom b o (by rw [hb]; simp)
      show hAlloc H w.heap.size f b o = _
      rw [hAlloc_old (by omega)]; exact hb
    · show (w.drew.alloc ob).shape? w.drew.heap.size = _
      rw [shape?_alloc_new]; simp only [List.size_toArray, hlen]
    · have hjl : j < (news ++ zs).length := (List.getElem?_eq_some_iff.1 hj).1
      refine ⟨?_, ?_, ?_⟩
      · have := World.cell?_alloc_new w.drew (news ++ zs).toArray u j
        show (w.drew.alloc ob).cell? ⟨w.drew.heap.size, j, none⟩ = _
        rw [this]; simpa using hj
      · show hAlloc H w.heap.size f w.heap.size j = _
        rw [hAlloc_new]; show (if j < (news ++ zs).length then Own.mine σ.length else .none) = _
        rw [if_pos hjl]; simp
      · exact World.frozen?_alloc_new w.drew _ _ _)
  have hstp : Stp H w _ (w.drew.alloc ob) := (Stp.drew H w).trans (Stp.alloc (w := w.drew) hr.dom ob f)
  have hex : (execOp a.eval o).run C.P w = .ok (.value (.slice (some ⟨w.heap.size, 0, none⟩) ys.length nc)) (w.drew.alloc ob) := by
    rw [opdArgs2 ho, hv0]
    simp [builtin, hrun, ob]
  simp only [Oper.wp, hex, Oper.upon]
  refine hK _ _ _ _ _ _ ⟨rfl, rfl⟩ hr2 ?_ hstp hev
  refine .t (cs := [.slice (some ⟨w.heap.size, 0, none⟩) ys.length nc]) (by simp [VC, isAggT, ht]) (.msl ht ⟨_, _, rfl, maxL_N hp.2⟩ ⟨true, ys, by simp, Nat.le_refl _, fun _ => by simp [← hr.len]⟩)
end
end Go.Den
/- Law 34: the table of types. -/
namespace Go.Den.Q34
open Go Go.Den Go.Proofs
def tb : Tab :=
⟨[⟨.other, 1, 0, 0⟩,
  ⟨.fn, 1, 8, 1⟩,
  ⟨.int .i64, 1, 8, 2⟩,
  ⟨.int .i64, 1, 8, 3⟩,
  ⟨.bool, 1, 1, 4⟩,
  ⟨.int .u8, 1, 1, 5⟩,
  ⟨.int .u8, 1, 1, 5⟩,
  ⟨.st [(2, 0), (3, 1), (4, 2), (6, 3)], 4, 24, 7⟩,
  ⟨.st [(2, 0), (3, 1), (4, 2), (6, 3)], 4, 24, 7⟩,
  ⟨.str, 1, 16, 9⟩,
  ⟨.str, 1, 16, 9⟩,
  ⟨.str, 1, 16, 9⟩,
  ⟨.int .u64, 1, 8, 12⟩,
  ⟨.st [(9, 0), (12, 1)], 2, 24, 13⟩,
  ⟨.st [(9, 0), (12, 1)], 2, 24, 13⟩,
  ⟨.ptr 91, 1, 8, 15⟩,
  ⟨.ptr 94, 1, 8, 16⟩,
  ⟨.ptr 103, 1, 8, 17⟩,
  ⟨.st [(17, 0)], 1, 8, 18⟩,
  ⟨.st [(17, 0)], 1, 8, 18⟩,
  ⟨.ifc, 1, 16, 20⟩,
  ⟨.int .i32, 1, 4, 21⟩,
  ⟨.sl 47, 1, 24, 22⟩,
  ⟨.sl 62, 1, 24, 23⟩,
  ⟨.st [(22, 0), (23, 1)], 2, 48, 24⟩,
  ⟨.st [(22, 0), (23, 1)], 2, 48, 24⟩,
  ⟨.int .u64, 1, 8, 26⟩,
  ⟨.int .u32, 1, 4, 27⟩,
  ⟨.fn, 1, 8, 28⟩,
  ⟨.fn, 1, 8, 29⟩,
  ⟨.fn, 1, 8, 30⟩,
  ⟨.int .i64, 1, 8, 3⟩,
  ⟨.other, 1, 0, 32⟩,
  ⟨.fn, 1, 8, 33⟩,
  ⟨.other, 1, 0, 34⟩,
  ⟨.fn, 1, 8, 35⟩,
  ⟨.fn, 1, 8, 36⟩,
  ⟨.sl 56, 1, 24, 37⟩,
  ⟨.sl 70, 1, 24, 38⟩,
  ⟨.st [(37, 0), (38, 1)], 2, 48, 39⟩,
  ⟨.st [(37, 0), (38, 1)], 2, 48, 39⟩,
  ⟨.fn, 1, 8, 41⟩,
  ⟨.fn, 1, 8, 42⟩,
  ⟨.int .u16, 1, 2, 43⟩,
  ⟨.sl 50, 1, 24, 44⟩,
  ⟨.fn, 1, 8, 45⟩,
  ⟨.st [(27, 0), (9, 1), (26, 2), (26, 3)], 4, 40, 46⟩,
  ⟨.st [(27, 0), (9, 1), (26, 2), (26, 3)], 4, 40, 46⟩,
  ⟨.sl 52, 1, 24, 48⟩,
  ⟨.st [(43, 0), (26, 1)], 2, 16, 49⟩,
  ⟨.st [(43, 0), (26, 1)], 2, 16, 49⟩,
  ⟨.st [(26, 0), (26, 1)], 2, 16, 51⟩,
  ⟨.st [(26, 0), (26, 1)], 2, 16, 51⟩,
  ⟨.fn, 1, 8, 53⟩,
  ⟨.other, 1, 0, 54⟩,
  ⟨.fn, 1, 8, 55⟩,
  ⟨.st [(27, 0), (9, 1), (26, 2), (26, 3)], 4, 40, 46⟩,
  ⟨.fn, 1, 8, 57⟩,
  ⟨.fn, 1, 8, 58⟩,
  ⟨.fn, 1, 8, 59⟩,
  ⟨.fn, 1, 8, 60⟩,
  ⟨.st [(27, 0), (9, 1), (26, 2), (26, 3)], 4, 40, 61⟩,
  ⟨.st [(27, 0), (9, 1), (26, 2), (26, 3)], 4, 40, 61⟩,
  ⟨.fn, 1, 8, 63⟩,
  ⟨.fn, 1, 8, 64⟩,
  ⟨.fn, 1, 8, 65⟩,
  ⟨.other, 1, 0, 66⟩,
  ⟨.fn, 1, 8, 67⟩,
  ⟨.fn, 1, 8, 68⟩,
  ⟨.fn, 1, 8, 69⟩,
  ⟨.st [(27, 0), (9, 1), (26, 2), (26, 3)], 4, 40, 61⟩,
  ⟨.fn, 1, 8, 71⟩,
  ⟨.other, 1, 0, 72⟩,
  ⟨.fn, 1, 8, 73⟩,
  ⟨.fn, 1, 8, 74⟩,
  ⟨.fn, 1, 8, 75⟩,
  ⟨.fn, 1, 8, 76⟩,
  ⟨.fn, 1, 8, 77⟩,
  ⟨.other, 1, 0, 78⟩,
  ⟨.fn, 1, 8, 79⟩,
  ⟨.fn, 1, 8, 80⟩,
  ⟨.sl 3, 1, 24, 81⟩,
  ⟨.fn, 1, 8, 82⟩,
  ⟨.fn, 1, 8, 83⟩,
  ⟨.other, 1, 0, 84⟩,
  ⟨.fn, 1, 8, 85⟩,
  ⟨.other, 1, 0, 86⟩,
  ⟨.fn, 1, 8, 87⟩,
  ⟨.fn, 1, 8, 88⟩,
  ⟨.fn, 1, 8, 89⟩,
  ⟨.st [(17, 0), (17, 1), (17, 2), (9, 3)], 4, 40, 90⟩,
  ⟨.st [(17, 0), (17, 1), (17, 2), (9, 3)], 4, 40, 90⟩,
  ⟨.arr 0 16, 0, 0, 92⟩,
  ⟨.st [(92, 0)], 0, 0, 93⟩,
  ⟨.st [(92, 0)], 0, 0, 93⟩,
  ⟨.fn, 1, 8, 95⟩,
  ⟨.int .u8, 1, 1, 5⟩,
  ⟨.int .u8, 1, 1, 5⟩,
  ⟨.fn, 1, 8, 98⟩,
  ⟨.ptr 5, 1, 8, 99⟩,
  ⟨.int .i32, 1, 4, 21⟩,
  ⟨.int .i32, 1, 4, 21⟩,
  ⟨.st [(12, 0), (12, 1), (27, 2), (96, 3), (5, 4), (5, 5), (97, 6), (98, 7), (99, 8), (100, 9), (101, 10)], 11, 48, 102⟩,
  ⟨.st [(12, 0), (12, 1), (27, 2), (96, 3), (5, 4), (5, 5), (97, 6), (98, 7), (99, 8), (100, 9), (101, 10)], 11, 48, 102⟩,
  ⟨.other, 1, 8, 104⟩], []⟩

theorem tabOk : TabOk Try.prog tb := ⟨by kernel_rfl, by kernel_rfl, by kernel_rfl, by kernel_rfl⟩
theorem zeroOk : ZeroOk Try.prog tb := by unfold ZeroOk; kernel_rfl
theorem ok (k n : Nat) : Ok ⟨Try.prog, tb, k, n, 4⟩ := ⟨tabOk, zeroOk, rfl⟩
theorem mixed : Try.prog.follows .mixedOrders = true := by kernel_rfl
theorem eqs : eqTys Try.prog tb [47, 62, 56, 70] := by unfold eqTys; kernel_rfl
theorem w64 {a : Int} (h1 : -9223372036854775808 ≤ a) (h2 : a ≤ 9223372036854775807) : IntKind.wrap .i64 a = a := inR_wrap (by simp [inR]; omega)
/-- From one state to a weaker one, the blocks told otherwise. -/
theorem wk1 {k0 : Nat} {env' env : Env} {σ σ' : List Blk} (hs : σ = σ') (h0 : Nat.ble k0 σ'.length = true) (hb : ∀ k ∈ σ', k.under σ'.length = true) (h : leL σ'.length env' env) : Weak k0 env' σ' env σ := by
  subst hs; exact wk0 h0 hb h
/-- A weaker state with fewer blocks. -/
theorem wkc {k0 : Nat} {env' env : Env} {σ σ' : List Blk} (τ : List Blk) (hs : σ = σ' ++ τ) (h0 : Nat.ble k0 σ'.length = true) (hb : ∀ k ∈ σ', k.under σ'.length = true) (h : leL σ'.length env' env) : Weak k0 env' σ' env σ :=
  ⟨⟨τ, hs⟩, Nat.le_of_ble_eq_true h0, hb, h⟩
end Go.Den.Q34
/- Law 34: rules, what counts, sums. -/
namespace Go.Den.Q34
open Go Go.Den Go.Proofs
set_option maxRecDepth 8000
set_option linter.unusedVariables false

structure Rl where
  o : Nat
  nm : List UInt8
  most : Nat
  span : Nat
  deriving DecidableEq
structure En where
  o : Nat
  nm : List UInt8
  at_ : Nat
  n : Nat
  deriving DecidableEq
def Rl.e (r : Rl) : E := .agg [.int r.o, .str r.nm, .int r.most, .int r.span]
def En.e (x : En) : E := .agg [.int x.o, .str x.nm, .int x.at_, .int x.n]
def gE (rs : List Rl) (es : List En) : E := .agg [.sl (rs.map Rl.e), .sl (es.map En.e)]
def m64 : Nat := 18446744073709551616
structure Rl.ok (r : Rl) : Prop where
  o : r.o < 4294967296
  most : r.most < 18446744073709551616
  span : r.span < 18446744073709551616
structure En.ok (x : En) : Prop where
  o : x.o < 4294967296
  at_ : x.at_ < 18446744073709551616
  n : x.n < 18446744073709551616

theorem getD_rl {p : List Rl} {i : Nat} (h : i < p.length) : (p.map Rl.e).getD i .nilp = p[i].e := by simp [List.getD, h]
theorem getD_en {p : List En} {i : Nat} (h : i < p.length) : (p.map En.e).getD i .nilp = p[i].e := by simp [List.getD, h]

def hits (o : Nat) (nm : List UInt8) (r : Rl) : Bool := decide (r.o = o) && decide (r.nm = nm)
theorem clos_ok (r : Rl) (o : Nat) (nm : List UInt8) : FnG Try.prog tb 33 [.tree 27 (.e (.int o)), .tree 9 (.e (.str nm))] [.t 47 (.e r.e), .ptr 0 [], .ptr 1 []] (fun d t => d = .t 4 (.e (.bool (hits o nm r))) ∧ t = [.tree 27 (.e (.int o)), .tree 9 (.e (.str nm))]) := by
  refine FnG_of_V (fn := Try.f33) (bt := 4) false [] [4] (ok 2 _) Try.func33 rfl rfl rfl fun _ _ _ _ _ _ => ?_
  apply V_of_VX
  refine VX_go3 (fs := []) (ok 2 _) eqs trivial 100 [] rfl trivial ?_
  refine VX_split 9 rfl rfl (fun h => ?_) (fun h => ?_)
  · have h : r.o = o := by simp at h; omega
    refine VX_go3 (fs := []) (ok 2 _) eqs trivial 100 [] rfl trivial ?_
    refine ⟨.inr rfl, _, _, _, rfl, rfl, rfl, ?_⟩
    have : hits o nm r = decide (r.nm = nm) := by simp [hits, h]
    rw [this]; exact ⟨rfl, rfl⟩
  · have h : ¬ r.o = o := by simp at h; omega
    refine VX_go3 (fs := []) (ok 2 _) eqs trivial 100 [] rfl trivial ?_
    refine ⟨.inr rfl, _, _, _, rfl, rfl, rfl, ?_⟩
    have : hits o nm r = false := by simp [hits, h]
    rw [this]; exact ⟨rfl, rfl⟩

/-- The place of a rule; -1. -/
def ridx (o : Nat) (nm : List UInt8) : List Rl → Nat → Int
  | [], _ => -1
  | r :: rs, i => if hits o nm r = true then i else ridx o nm rs (i + 1)
def cell2 (o : Nat) (nm : List UInt8) : List Blk := [.tree 27 (.e (.int o)), .tree 9 (.e (.str nm))]
theorem index_ok (rs : List Rl) (o : Nat) (nm : List UInt8) (hl : rs.length ≤ 100000) : FnG Try.prog tb 32 (cell2 o nm) [.t 22 (.e (.sl (rs.map Rl.e))), .t 77 (.fn 33 [(0, []), (1, [])])] (fun d t => d = .t 3 (.e (.int (ridx o nm rs 0))) ∧ t = cell2 o nm) := by
  refine FnG_of_V (fn := Try.f32) (bt := 4) false [] [3] (ok 2 _) Try.func32 rfl rfl rfl fun _ _ _ _ _ _ => ?_
  apply V_of_VX
  refine VX_go3 (fs := []) (ok 2 _) eqs trivial 100 [] rfl trivial ?_
  refine VX_loopA (fun i : Nat => i ≤ rs.length ∧ ridx o nm (rs.drop i) i = ridx o nm rs 0) (fun i => [(8, .t 3 (.e (.int i))), (7, .t 3 (.e (.int rs.length))), (0, .t 22 (.e (.sl (rs.map Rl.e)))), (1, .t 77 (.fn 33 [(0, []), (1, [])]))]) (fun _ => cell2 o nm) (fun i => rs.length - i) 0 ⟨by simp, by simp⟩ ?_ ?_
  · exact wk1 rfl rfl (by simp [cell2, Blk.under, T.under]) (lc (ls rfl rfl) (lc (li (by simp)) (lc (ls rfl rfl) (lc (ls rfl rfl) lnil))))
  · rintro i ⟨hi, hpq⟩
    refine VX_go3 (fs := []) (ok 2 _) eqs trivial 100 [] rfl trivial ?_
    refine VX_split 9 rfl rfl (fun h => ?_) (fun h => ?_)
    · have hi : i < rs.length := by simpa using h
      refine VX_go3 (fs := []) (ok 2 _) eqs trivial 100 [] rfl ?_ ?_
      · simp [allP]; omega
      refine VX_eq 15 rfl rfl (d' := .t 47 (.e rs[i].e)) (congrArg (fun x => D.t 47 (.e x)) (getD_rl hi)) ?_
      refine VX_callC (ok 2 _) [47] [0, 1] rfl rfl rfl rfl rfl rfl rfl (clos_ok rs[i] o nm) rfl rfl rfl ?_
      have hd1 : rs.drop i = rs[i] :: rs.drop (i + 1) := List.drop_eq_getElem_cons hi
      rw [hd1] at hpq
      refine VX_split 16 rfl rfl (fun h => ?_) (fun h => ?_)
      · refine VX_go3 (fs := []) (ok 2 _) eqs trivial 100 [] rfl trivial ?_
        have : ridx o nm rs 0 = i := by rw [← hpq]; simp [ridx, h]
        refine loop_ret ⟨.inr rfl, _, _, _, rfl, rfl, rfl, ?_⟩
        rw [this]; exact ⟨rfl, rfl⟩
      · refine VX_go3 (fs := []) (ok 2 _) eqs trivial 100 [] rfl trivial ?_
        refine loop_nrm ⟨i + 1, by omega, ⟨by omega, ?_⟩, ?_⟩
        · rw [← hpq]; simp [ridx, h]
        · refine wk1 rfl rfl (by simp [cell2, Blk.under, T.under]) (lc (li ?_) (lc (ls rfl rfl) (lc (ls rfl rfl) (lc (ls rfl rfl) lnil))))
          rw [w64 (by omega) (by omega)]; simp
    · refine VX_go3 (fs := []) (ok 2 _) eqs trivial 100 [] rfl trivial ?_
      apply loop_brk
      refine VX_go3 (fs := []) (ok 2 _) eqs trivial 100 [] rfl trivial ?_
      have : i = rs.length := by simp at h; omega
      refine ⟨.inr rfl, _, _, _, rfl, rfl, rfl, ?_⟩
      rw [← hpq, this, List.drop_length]; exact ⟨rfl, rfl⟩
theorem rule_ok (rs : List Rl) (es : List En) (o : Nat) (nm : List UInt8) (hl : rs.length ≤ 100000) : FnOk Try.prog tb 20 [25, 27, 9] [3] [gE rs es, .int o, .str nm] [.int (ridx o nm rs 0)] := by
  refine FnOk_of_V (fn := Try.f20) (bt := 4) (ok 0 _) Try.func20 rfl rfl rfl (by decide) fun hw => ?_
  apply V_of_VX
  refine VX_go3 (fs := []) (ok 0 _) eqs trivial 100 [] rfl trivial ?_
  refine VX_makeFunc rfl rfl rfl rfl rfl rfl ?_
  refine VX_callD (ok 0 _) [22, 77] [1, 2] rfl rfl rfl rfl rfl rfl (index_ok rs o nm hl) rfl rfl rfl ?_
  refine VX_go3 (fs := []) (ok 0 _) eqs trivial 100 [] rfl trivial ?_
  exact ⟨.inr rfl, rfl⟩

theorem add64 (x y : Nat) (w : World) : (callFunc 34 #[.int .u64 x, .int .u64 y, .int .u64 0]).run Try.prog w = .ok (.value (.tuple #[.int .u64 ((x + y) % 18446744073709551616 : Nat), .int .u64 ((x + y) / 18446744073709551616 : Nat)])) w := rfl

/-- A sum, or too much. -/
def addB (x y : Nat) : Nat × Int := if x + y < 18446744073709551616 then (x + y, 0) else (0, 10)
theorem add_ok (x y : Nat) (hx : x < 18446744073709551616) (hy : y < 18446744073709551616) : FnOk Try.prog tb 24 [26, 26] [26, 31] [.int x, .int y] [.int (addB x y).1, .int (addB x y).2] := by
  refine FnOk_of_V (fn := Try.f24) (bt := 4) (ok 0 _) Try.func24 rfl rfl rfl (by decide) fun hw => ?_
  apply V_of_VX
  refine VX_go3 (fs := []) (ok 0 _) eqs trivial 100 [] rfl trivial ?_
  refine VX_add64 (t := 26) (ok 0 _) rfl rfl rfl rfl rfl rfl rfl hx hy add64 ?_
  refine VX_go3 (fs := []) (ok 0 _) eqs trivial 100 [] rfl trivial ?_
  refine VX_split 15 rfl rfl (fun h => ?_) (fun h => ?_)
  · have h : x + y < 18446744073709551616 := by simp at h; omega
    refine VX_go3 (fs := []) (ok 0 _) eqs trivial 100 [] rfl trivial ?_
    refine ⟨.inr rfl, ?_⟩
    simp only [addB, if_pos h]
    rw [Nat.mod_eq_of_lt h]; rfl
  · have h : ¬ x + y < 18446744073709551616 := by simp at h; omega
    refine VX_go3 (fs := []) (ok 0 _) eqs trivial 100 [] rfl trivial ?_
    refine ⟨.inr rfl, ?_⟩
    simp only [addB, if_neg h]; rfl

/-- Does an entry count? -/
def cnt (x : En) (r : Rl) (now : Nat) : Bool := decide (x.o = r.o) && decide (x.nm = r.nm) && decide (now < x.at_ + r.span)
theorem counts_ok (x : En) (r : Rl) (now : Nat) (hx : x.ok) (hr : r.ok) (hn : now < 18446744073709551616) : FnOk Try.prog tb 21 [62, 47, 26] [4] [x.e, r.e, .int now] [.bool (cnt x r now)] := by
  refine FnOk_of_V (fn := Try.f21) (bt := 4) (ok 0 _) Try.func21 rfl rfl rfl (by decide) fun hw => ?_
  apply V_of_VX
  refine VX_go3 (fs := []) (ok 0 _) eqs trivial 100 [] rfl trivial ?_
  refine VX_split 14 rfl rfl (fun h => ?_) (fun h => ?_)
  · have h : ¬ x.o = r.o := by simp at h; omega
    refine VX_go3 (fs := []) (ok 0 _) eqs trivial 100 [] rfl trivial ?_
    refine ⟨.inr rfl, ?_⟩
    have : cnt x r now = false := by simp [cnt, h]
    rw [this]; rfl
  · have ho : x.o = r.o := by simp at h; omega
    refine VX_go3 (fs := []) (ok 0 _) eqs trivial 100 [] rfl trivial ?_
    refine VX_split 20 rfl rfl (fun h => ?_) (fun h => ?_)
    · have h : ¬ x.nm = r.nm := by simpa using h
      refine VX_go3 (fs := []) (ok 0 _) eqs trivial 100 [] rfl trivial ?_
      refine ⟨.inr rfl, ?_⟩
      have : cnt x r now = false := by simp [cnt, h]
      rw [this]; rfl
    · have hm : x.nm = r.nm := by simpa using h
      refine VX_go3 (fs := []) (ok 0 _) eqs trivial 100 [] rfl trivial ?_
      refine VX_callD (ok 0 _) [26, 26] [] rfl rfl rfl rfl rfl rfl (add_ok x.at_ r.span hx.at_ hr.span).g rfl rfl rfl ?_
      refine VX_go3 (fs := []) (ok 0 _) eqs trivial 100 [] rfl trivial ?_
      by_cases hs : x.at_ + r.span < 18446744073709551616
      · have hB : addB x.at_ r.span = (x.at_ + r.span, 0) := by simp only [addB, if_pos hs]
        rw [hB]
        refine VX_known 31 false rfl rfl (by simp) ?_
        refine VX_go3 (fs := []) (ok 0 _) eqs trivial 100 [] rfl trivial ?_
        refine ⟨.inr rfl, ?_⟩
        have : cnt x r now = decide ((now : Int) < (x.at_ + r.span : Nat)) := by simp only [cnt, ho, hm, decide_true, Bool.true_and, decide_eq_decide]; omega
        rw [this]; rfl
      · have hB : addB x.at_ r.span = (0, 10) := by simp only [addB, if_neg hs]
        rw [hB]
        refine VX_known 31 true rfl rfl (by decide) ?_
        refine VX_go3 (fs := []) (ok 0 _) eqs trivial 100 [] rfl trivial ?_
        refine ⟨.inr rfl, ?_⟩
        have : cnt x r now = true := by simp only [cnt, ho, hm, decide_true, Bool.true_and, decide_eq_true_eq]; omega
        rw [this]; rfl

/-- The sum of what counts. -/
def sumF (r : Rl) (now : Nat) : List En → Nat → Nat × Int
  | [], n => (n, 0)
  | x :: xs, n => if cnt x r now = true then if n + x.n < 18446744073709551616 then sumF r now xs (n + x.n) else (0, 10) else sumF r now xs n
theorem sumF_lt (r : Rl) (now : Nat) : ∀ (xs : List En) (n : Nat), n < 18446744073709551616 → (sumF r now xs n).1 < 18446744073709551616
  | [], n, h => h
  | x :: xs, n, h => by
    unfold sumF
    split
    · split
      · exact sumF_lt r now xs _ (by assumption)
      · simp
    · exact sumF_lt r now xs n h
theorem sum_ok (rs : List Rl) (es : List En) (r : Rl) (now : Nat) (hes : ∀ x ∈ es, x.ok) (hr : r.ok) (hn : now < 18446744073709551616) (hl : es.length ≤ 100000) :
    FnOk Try.prog tb 23 [25, 47, 26] [26, 31] [gE rs es, r.e, .int now] [.int (sumF r now es 0).1, .int (sumF r now es 0).2] := by
  refine FnOk_of_V (fn := Try.f23) (bt := 4) (ok 0 _) Try.func23 rfl rfl rfl (by decide) fun hw => ?_
  apply V_of_VX
  refine VX_go3 (fs := []) (ok 0 _) eqs trivial 100 [] rfl trivial ?_
  refine VX_loopA (fun a : Nat × Nat => a.1 ≤ es.length ∧ a.2 < 18446744073709551616 ∧ sumF r now (es.drop a.1) a.2 = sumF r now es 0) (fun a => [(15, .t 3 (.e (.int a.1))), (14, .t 3 (.e (.int es.length))), (13, .t 23 (.e (.sl (es.map En.e)))), (8, .t 26 (.e (.int a.2))), (4, .ptr 1 []), (2, .t 26 (.e (.int now)))]) (fun _ => [.tree 25 (.e (gE rs es)), .tree 47 (.e r.e)]) (fun a => es.length - a.1) (0, 0) ⟨by simp, by simp, by simp⟩ ?_ ?_
  · exact wk1 rfl rfl (by simp [Blk.under, T.under]) (lc (ls rfl rfl) (lc (li (by simp)) (lc (ls rfl rfl) (lc (ls rfl rfl) (lc (ls rfl rfl) (lc (ls rfl rfl) lnil))))))
  · rintro ⟨i, n⟩ ⟨hi, hnn, hpq⟩
    simp only at hi hnn hpq
    refine VX_go3 (fs := []) (ok 0 _) eqs trivial 100 [] rfl trivial ?_
    refine VX_split 16 rfl rfl (fun h => ?_) (fun h => ?_)
    · have hi : i < es.length := by simpa using h
      have hxok := hes es[i] (List.getElem_mem hi)
      refine VX_go3 (fs := []) (ok 0 _) eqs trivial 100 [10] rfl ?_ ?_
      · simp [allP]; omega
      refine VX_eq 18 rfl rfl (d' := .t 62 (.e es[i].e)) (congrArg (fun x => D.t 62 (.e x)) (getD_en hi)) ?_
      refine VX_go3 (fs := []) (ok 0 _) eqs trivial 100 [] rfl trivial ?_
      refine VX_callD (ok 0 _) [62, 47, 26] [] rfl rfl rfl rfl rfl rfl (counts_ok es[i] r now hxok hr hn).g rfl rfl rfl ?_
      have hd1 : es.drop i = es[i] :: es.drop (i + 1) := List.drop_eq_getElem_cons hi
      rw [hd1] at hpq
      have ei : IntKind.wrap .i64 ((i : Int) + 1) = ((i + 1 : Nat) : Int) := by rw [w64 (by omega) (by omega)]; simp
      refine VX_split 22 rfl rfl (fun hc => ?_) (fun hc => ?_)
      · refine VX_go3 (fs := []) (ok 0 _) eqs trivial 100 [] rfl trivial ?_
        refine VX_callD (ok 0 _) [26, 26] [] rfl rfl rfl rfl rfl rfl (add_ok n es[i].n hnn hxok.n).g rfl rfl rfl ?_
        refine VX_go3 (fs := []) (ok 0 _) eqs trivial 100 [] rfl trivial ?_
        by_cases hs : n + es[i].n < 18446744073709551616
        · have hB : addB n es[i].n = (n + es[i].n, 0) := by simp only [addB, if_pos hs]
          rw [hB]
          refine VX_known 32 false rfl rfl (by simp) ?_
          refine VX_go3 (fs := []) (ok 0 _) eqs trivial 100 [] rfl trivial ?_
          refine loop_nrm ⟨(i + 1, n + es[i].n), by simp only; omega, ⟨by simp only; omega, hs, ?_⟩, ?_⟩
          · rw [← hpq]; simp only [sumF, hc, if_true, hs]
          · exact wkc [.tree 62 (.e es[i].e)] rfl rfl (by simp [Blk.under, T.under]) (lc (li (by rw [ei])) (lc (ls rfl rfl) (lc (ls rfl rfl) (lc (ls rfl rfl) (lc (ls rfl rfl) (lc (ls rfl rfl) lnil))))))
        · have hB : addB n es[i].n = (0, 10) := by simp only [addB, if_neg hs]
          rw [hB]
          refine VX_known 32 true rfl rfl (by decide) ?_
          refine VX_go3 (fs := []) (ok 0 _) eqs trivial 100 [] rfl trivial ?_
          refine loop_ret ⟨.inr rfl, ?_⟩
          have : sumF r now es 0 = (0, 10) := by rw [← hpq]; simp only [sumF, hc, if_true, hs, if_false]
          rw [this]; rfl
      · refine VX_go3 (fs := []) (ok 0 _) eqs trivial 100 [] rfl trivial ?_
        refine loop_nrm ⟨(i + 1, n), by simp only; omega, ⟨by simp only; omega, hnn, ?_⟩, ?_⟩
        · rw [← hpq]; simp only [sumF, hc]; rfl
        · exact wkc [.tree 62 (.e es[i].e)] rfl rfl (by simp [Blk.under, T.under]) (lc (li (by rw [ei])) (lc (ls rfl rfl) (lc (ls rfl rfl) (lc (ls rfl rfl) (lc (ls rfl rfl) (lc (ls rfl rfl) lnil))))))
    · have hi' : i = es.length := by simp at h; omega
      refine VX_go3 (fs := []) (ok 0 _) eqs trivial 100 [] rfl trivial ?_
      apply loop_brk
      refine VX_go3 (fs := []) (ok 0 _) eqs trivial 100 [] rfl trivial ?_
      refine ⟨.inr rfl, ?_⟩
      rw [← hpq, hi', List.drop_length]; rfl
end Go.Den.Q34
/- Law 34: copies; what is swept; what counts. -/
namespace Go.Den.Q34
open Go Go.Den Go.Proofs
set_option maxRecDepth 8000
set_option linter.unusedVariables false

theorem cloneR_ok (q : List E) (hq : q.length ≤ 100000) : FnOk Try.prog tb 22 [22] [22] [.sl q] [.sl q] := by
  refine FnOk_of_V (fn := Try.f22) (bt := 4) (ok 0 _) Try.func22 rfl rfl rfl (by decide) fun hw => ?_
  apply V_of_VX
  refine VX_go3 (fs := []) (ok 0 _) eqs trivial 100 [] rfl trivial ?_
  refine VX_op rfl rfl (OpV_nilS (ok 0 _) rfl (.inl rfl) rfl rfl rfl rfl) ?_
  rintro d s ⟨b, hb, rfl, rfl⟩
  refine VX_go3 (fs := []) (ok 0 _) eqs trivial 100 [] rfl trivial ?_
  refine VX_split 4 rfl rfl (fun h => ?_) (fun h => ?_)
  · refine VX_go3 (fs := []) (ok 0 _) eqs trivial 100 [] rfl trivial ?_
    exact ⟨.inr rfl, by rw [hb h]; rfl⟩
  · refine VX_go3 (fs := []) (ok 0 _) eqs trivial 100 [] rfl ?_ ?_
    · simp [allP, nb, tb, maxL]; omega
    exact ⟨.inr rfl, rfl⟩
theorem cloneE_ok (q : List E) (hq : q.length ≤ 100000) : FnOk Try.prog tb 25 [23] [23] [.sl q] [.sl q] := by
  refine FnOk_of_V (fn := Try.f25) (bt := 4) (ok 0 _) Try.func25 rfl rfl rfl (by decide) fun hw => ?_
  apply V_of_VX
  refine VX_go3 (fs := []) (ok 0 _) eqs trivial 100 [] rfl trivial ?_
  refine VX_op rfl rfl (OpV_nilS (ok 0 _) rfl (.inl rfl) rfl rfl rfl rfl) ?_
  rintro d s ⟨b, hb, rfl, rfl⟩
  refine VX_go3 (fs := []) (ok 0 _) eqs trivial 100 [] rfl trivial ?_
  refine VX_split 4 rfl rfl (fun h => ?_) (fun h => ?_)
  · refine VX_go3 (fs := []) (ok 0 _) eqs trivial 100 [] rfl trivial ?_
    exact ⟨.inr rfl, by rw [hb h]; rfl⟩
  · refine VX_go3 (fs := []) (ok 0 _) eqs trivial 100 [] rfl ?_ ?_
    · simp [allP, nb, tb, maxL]; omega
    exact ⟨.inr rfl, rfl⟩

/-- What a sweep leaves. -/
def keepB (rs : List Rl) (now : Nat) (x : En) : Bool := match ridx x.o x.nm rs 0 with
  | .ofNat i => match rs[i]? with
    | some r => cnt x r now
    | none => false
  | .negSucc _ => false
theorem ridx_range (o : Nat) (nm : List UInt8) : ∀ (rs : List Rl) (i : Nat), ridx o nm rs i = -1 ∨ ∃ j, ridx o nm rs i = ((i + j : Nat) : Int) ∧ j < rs.length ∧ ∃ r, rs[j]? = some r ∧ hits o nm r = true
  | [], i => .inl rfl
  | r :: rs, i => by
    unfold ridx
    by_cases h : hits o nm r = true
    · rw [if_pos h]; exact .inr ⟨0, rfl, by simp, r, rfl, h⟩
    · rw [if_neg h]
      rcases ridx_range o nm rs (i + 1) with h' | ⟨j, h1, h2, r', h3, h4⟩
      · exact .inl h'
      · exact .inr ⟨j + 1, by rw [h1]; congr 1; omega, by simp; omega, r', by simpa using h3, h4⟩
theorem ridx_cases (o : Nat) (nm : List UInt8) (rs : List Rl) : ridx o nm rs 0 = -1 ∨ ∃ (j : Nat) (h : j < rs.length), ridx o nm rs 0 = (j : Nat) ∧ hits o nm rs[j] = true := by
  rcases ridx_range o nm rs 0 with h | ⟨j, h1, h2, r, h3, h4⟩
  · exact .inl h
  · refine .inr ⟨j, h2, by rw [h1, Nat.zero_add], ?_⟩
    rw [List.getElem?_eq_getElem h2] at h3; cases h3; exact h4

theorem sweep_ok (rs : List Rl) (es : List En) (now : Nat) (hrs : ∀ r ∈ rs, r.ok) (hes : ∀ x ∈ es, x.ok) (hn : now < 18446744073709551616) (hl : es.length ≤ 10000) (hlr : rs.length ≤ 10000) :
    FnOk Try.prog tb 8 [25, 26] [25] [gE rs es, .int now] [gE rs (es.filter (keepB rs now))] := by
  refine FnOk_of_V (fn := Try.f8) (bt := 4) (ok 0 _) Try.func8 rfl rfl rfl (by decide) fun hw => ?_
  apply V_of_VX
  refine VX_go3 (fs := []) (ok 0 _) eqs trivial 100 [] rfl trivial ?_
  refine VX_promote 5 (u := 62) rfl rfl ?_
  refine VX_loopA (fun i : Nat => i ≤ es.length) (fun i => [(12, .t 3 (.e (.int i))), (11, .t 3 (.e (.int es.length))), (10, .t 23 (.e (.sl (es.map En.e)))), (5, .t 23 (.lsl 2 (((es.take i).filter (keepB rs now)).map En.e))), (4, .ptr 1 []), (2, .ptr 0 []), (1, .t 26 (.e (.int now)))])
    (fun i => [.tree 25 (.e (gE rs es)), .tree 25 (.st [.nsl, .nsl]), .row 62 (((es.take i).filter (keepB rs now)).map En.e).length]) (fun i => es.length - i) 0 (by simp) ?_ ?_
  · exact wk1 rfl rfl (by simp [Blk.under, T.under, T.unders]) (lc (ls rfl rfl) (lc (li (by simp)) (lc (ls rfl rfl) (lc (ls rfl rfl) (lc (ls rfl rfl) (lc (ls rfl rfl) (lc (ls rfl rfl) lnil)))))))
  · intro i hi
    refine VX_go3 (fs := []) (ok 0 _) eqs trivial 100 [] rfl trivial ?_
    refine VX_split 13 rfl rfl (fun h => ?_) (fun h => ?_)
    · have hi : i < es.length := by simpa using h
      have hxok := hes es[i] (List.getElem_mem hi)
      have ei : IntKind.wrap .i64 ((i : Int) + 1) = ((i + 1 : Nat) : Int) := by rw [w64 (by omega) (by omega)]; simp
      have htk : es.take (i + 1) = es.take i ++ [es[i]] := by rw [List.take_add_one, List.getElem?_eq_getElem hi]; rfl
      have hfl : ((es.take i).filter (keepB rs now)).length ≤ 10000 := by
        have := List.length_filter_le (keepB rs now) (es.take i)
        have h2 : (es.take i).length ≤ es.length := by simp; omega
        omega
      refine VX_go3 (fs := []) (ok 0 _) eqs trivial 100 [7] rfl ?_ ?_
      · simp [allP]; omega
      refine VX_eq 15 rfl rfl (d' := .t 62 (.e es[i].e)) (congrArg (fun x => D.t 62 (.e x)) (getD_en hi)) ?_
      refine VX_go3 (fs := []) (ok 0 _) eqs trivial 100 [] rfl trivial ?_
      refine VX_callD (ok 0 _) [25, 27, 9] [] rfl rfl rfl rfl rfl rfl (rule_ok rs es es[i].o es[i].nm (by omega)).g rfl rfl rfl ?_
      refine VX_go3 (fs := []) (ok 0 _) eqs trivial 100 [] rfl trivial ?_
      refine VX_draw [] [(0, true), (1, true), (2, true), (3, true), (4, true), (5, true), (6, true), (7, true), (8, true), (9, true), (10, false), (11, true)] mixed (by kernel_rfl) (by kernel_rfl) (by kernel_rfl) ?_
      refine VX_go3 (fs := []) (ok 0 _) eqs trivial 100 [] rfl trivial ?_
      rcases ridx_cases es[i].o es[i].nm rs with hx | ⟨j, hj, hx, hh⟩
      · have hk : keepB rs now es[i] = false := by unfold keepB; rw [hx]; rfl
        rw [hx]
        refine VX_known 24 false rfl rfl (by decide) ?_
        refine VX_go3 (fs := []) (ok 0 _) eqs trivial 100 [] rfl trivial ?_
        refine loop_nrm ⟨i + 1, by omega, by omega, ?_⟩
        have he : (es.take (i + 1)).filter (keepB rs now) = (es.take i).filter (keepB rs now) := by rw [htk, List.filter_append]; simp [hk]
        refine wkc [.tree 62 (.e es[i].e)] (by rw [he]; rfl) rfl (by simp [Blk.under, T.under, T.unders]) (lc (li (by rw [ei])) (lc (ls rfl rfl) (lc (ls rfl rfl) (lc (ls (by rw [he]; rfl) rfl) (lc (ls rfl rfl) (lc (ls rfl rfl) (lc (ls rfl rfl) lnil)))))))
      · have hk : keepB rs now es[i] = cnt es[i] rs[j] now := by
          unfold keepB; rw [hx]
          show (match rs[j]? with | some r => cnt es[i] r now | none => false) = _
          rw [List.getElem?_eq_getElem hj]
        rw [hx]
        refine VX_known 24 true rfl rfl (by simp) ?_
        refine VX_go3 (fs := []) (ok 0 _) eqs trivial 100 [] rfl ?_ ?_
        · simp [allP]; omega
        refine VX_eq 30 rfl rfl (d' := .t 47 (.e rs[j].e)) (congrArg (fun x => D.t 47 (.e x)) (getD_rl hj)) ?_
        refine VX_callO (ok 0 _) [62, 47, 26] [] rfl rfl rfl rfl rfl rfl rfl rfl (counts_ok es[i] rs[j] now hxok (hrs _ (List.getElem_mem hj)) hn).g rfl rfl rfl ?_
        refine VX_split 32 rfl rfl (fun hc => ?_) (fun hc => ?_)
        · have hk1 : keepB rs now es[i] = true := by rw [hk, hc]
          refine VX_go3 (fs := []) (ok 0 _) eqs trivial 100 [] rfl ?_ ?_
          · simp [allP, nb, tb, maxL]; omega
          refine loop_nrm ⟨i + 1, by omega, by omega, ?_⟩
          have he : ((es.take (i + 1)).filter (keepB rs now)).map En.e = ((es.take i).filter (keepB rs now)).map En.e ++ [es[i].e] := by rw [htk, List.filter_append]; simp [hk1]
          refine wkc [.tree 62 (.e es[i].e)] (by rw [he]; rfl) rfl (by simp [Blk.under, T.under, T.unders]) (lc (li (by rw [ei])) (lc (ls rfl rfl) (lc (ls rfl rfl) (lc (ls (by rw [he]; rfl) rfl) (lc (ls rfl rfl) (lc (ls rfl rfl) (lc (ls rfl rfl) lnil)))))))
        · have hk0 : keepB rs now es[i] = false := by rw [hk, hc]
          refine VX_go3 (fs := []) (ok 0 _) eqs trivial 100 [] rfl trivial ?_
          refine loop_nrm ⟨i + 1, by omega, by omega, ?_⟩
          have he : (es.take (i + 1)).filter (keepB rs now) = (es.take i).filter (keepB rs now) := by rw [htk, List.filter_append]; simp [hk0]
          refine wkc [.tree 62 (.e es[i].e)] (by rw [he]; rfl) rfl (by simp [Blk.under, T.under, T.unders]) (lc (li (by rw [ei])) (lc (ls rfl rfl) (lc (ls rfl rfl) (lc (ls (by rw [he]; rfl) rfl) (lc (ls rfl rfl) (lc (ls rfl rfl) (lc (ls rfl rfl) lnil)))))))
    · have hi' : i = es.length := by simp at h; omega
      refine VX_go3 (fs := []) (ok 0 _) eqs trivial 100 [] rfl trivial ?_
      apply loop_brk
      refine VX_go3 (fs := []) (ok 0 _) eqs trivial 100 [] rfl trivial ?_
      refine VX_callD (ok 0 _) [22] [] rfl rfl rfl rfl rfl rfl (cloneR_ok (rs.map Rl.e) (by simp; omega)).g rfl rfl rfl ?_
      refine VX_go3 (fs := []) (ok 0 _) eqs trivial 100 [] rfl trivial ?_
      refine ⟨.inr rfl, ?_⟩
      rw [hi', List.take_length]; rfl

def countsB (rs : List Rl) (es : List En) (o : Nat) (nm : List UInt8) (now : Nat) : Nat × Bool := match ridx o nm rs 0 with
  | .ofNat i => match rs[i]? with
    | some r => ((sumF r now es 0).1, decide ((sumF r now es 0).2 = 0))
    | none => (0, false)
  | .negSucc _ => (0, false)
theorem countsG_ok (rs : List Rl) (es : List En) (o : Nat) (nm : List UInt8) (now : Nat) (hrs : ∀ r ∈ rs, r.ok) (hes : ∀ x ∈ es, x.ok) (hn : now < 18446744073709551616) (hl : es.length ≤ 10000) (hlr : rs.length ≤ 10000) :
    FnOk Try.prog tb 10 [25, 27, 9, 26] [26, 4] [gE rs es, .int o, .str nm, .int now] [.int (countsB rs es o nm now).1, .bool (countsB rs es o nm now).2] := by
  refine FnOk_of_V (fn := Try.f10) (bt := 4) (ok 0 _) Try.func10 rfl rfl rfl (by decide) fun hw => ?_
  apply V_of_VX
  refine VX_go3 (fs := []) (ok 0 _) eqs trivial 100 [] rfl trivial ?_
  refine VX_callD (ok 0 _) [25, 27, 9] [] rfl rfl rfl rfl rfl rfl (rule_ok rs es o nm (by omega)).g rfl rfl rfl ?_
  refine VX_go3 (fs := []) (ok 0 _) eqs trivial 100 [] rfl trivial ?_
  rcases ridx_cases o nm rs with hx | ⟨j, hj, hx, hh⟩
  · have hk : countsB rs es o nm now = (0, false) := by unfold countsB; rw [hx]; rfl
    rw [hx]
    refine VX_known 18 true rfl rfl (by decide) ?_
    refine VX_go3 (fs := []) (ok 0 _) eqs trivial 100 [] rfl trivial ?_
    refine ⟨.inr rfl, ?_⟩
    rw [hk]; rfl
  · have hk : countsB rs es o nm now = ((sumF rs[j] now es 0).1, decide ((sumF rs[j] now es 0).2 = 0)) := by
      unfold countsB; rw [hx]
      show (match rs[j]? with | some r => ((sumF r now es 0).1, decide ((sumF r now es 0).2 = 0)) | none => (0, false)) = _
      rw [List.getElem?_eq_getElem hj]
    rw [hx]
    refine VX_known 18 false rfl rfl (by simp) ?_
    refine VX_go3 (fs := []) (ok 0 _) eqs trivial 100 [] rfl trivial ?_
    refine VX_draw [] [(0, true), (1, true), (2, true), (3, true), (4, true), (5, true), (6, true), (7, false), (8, true), (9, true), (10, true), (11, true), (12, true)] mixed (by kernel_rfl) (by kernel_rfl) (by kernel_rfl) ?_
    refine VX_go3 (fs := []) (ok 0 _) eqs trivial 100 [] rfl ?_ ?_
    · simp [allP]; omega
    refine VX_eq 25 rfl rfl (d' := .t 47 (.e rs[j].e)) (congrArg (fun x => D.t 47 (.e x)) (getD_rl hj)) ?_
    refine VX_callO (ok 0 _) [25, 47, 26] [] rfl rfl rfl rfl rfl rfl rfl rfl (sum_ok rs es rs[j] now hes (hrs _ (List.getElem_mem hj)) hn (by omega)).g rfl rfl rfl ?_
    refine VX_go3 (fs := []) (ok 0 _) eqs trivial 100 [] rfl trivial ?_
    refine ⟨.inr rfl, ?_⟩
    rw [hk]; rfl
end Go.Den.Q34
/- Law 34: names. -/
namespace Go.Den.Q34
open Go Go.Den Go.Proofs
set_option maxRecDepth 8000
set_option linter.unusedVariables false

def smallR (c : Nat) : Bool := (decide (97 ≤ c) && decide (c ≤ 122)) || (decide (945 ≤ c) && decide (c ≤ 969))

def badR (c n : Nat) : Bool := !smallR c && (decide (n = 1) || decide (c < 48) || decide (57 < c))

def nameF (s : List UInt8) : Nat → Nat → Nat → Bool
  | 0, _, _ => false
  | f + 1, pos, n => if pos < s.length then if badR (runeAt s pos).1 (n + 1) then false else nameF s f (pos + (runeAt s pos).2) (n + 1) else decide (0 < n) && decide (n ≤ 12)

def nameB (s : List UInt8) : Bool := nameF s (s.length + 1) 0 0

theorem small_ok (c : Nat) : FnOk Try.prog tb 35 [21] [4] [.int c] [.bool (smallR c)] := by
  refine FnOk_of_V (fn := Try.f35) (bt := 4) (ok 0 _) Try.func35 rfl rfl rfl (by decide) fun hw => ?_
  apply V_of_VX
  refine VX_go3 (fs := []) (ok 0 _) eqs trivial 100 [] rfl trivial ?_
  refine VX_split 5 rfl rfl (fun h => ?_) (fun h => ?_)
  · have h1 : 97 ≤ c := by simp at h; omega
    refine VX_go3 (fs := []) (ok 0 _) eqs trivial 100 [] rfl trivial ?_
    refine VX_split 9 rfl rfl (fun h => ?_) (fun h => ?_)
    · have h2 : c ≤ 122 := by simp at h; omega
      refine VX_go3 (fs := []) (ok 0 _) eqs trivial 100 [] rfl trivial ?_
      refine ⟨.inr rfl, ?_⟩
      have : smallR c = true := by simp [smallR, h1, h2]
      rw [this]; rfl
    · have h2 : ¬ c ≤ 122 := by simp at h; omega
      refine VX_go3 (fs := []) (ok 0 _) eqs trivial 100 [] rfl trivial ?_
      refine VX_split 12 rfl rfl (fun h => ?_) (fun h => ?_)
      · have h3 : 945 ≤ c := by simp at h; omega
        refine VX_go3 (fs := []) (ok 0 _) eqs trivial 100 [] rfl trivial ?_
        refine ⟨.inr rfl, ?_⟩
        have : smallR c = decide ((c : Int) ≤ 969) := by simp [smallR, h1, h2, h3]; omega
        rw [this]; rfl
      · have h3 : ¬ 945 ≤ c := by simp at h; omega
        refine VX_go3 (fs := []) (ok 0 _) eqs trivial 100 [] rfl trivial ?_
        refine ⟨.inr rfl, ?_⟩
        have : smallR c = false := by simp [smallR, h2, h3]
        rw [this]; rfl
  · have h1 : ¬ 97 ≤ c := by simp at h; omega
    refine VX_go3 (fs := []) (ok 0 _) eqs trivial 100 [] rfl trivial ?_
    refine VX_split 12 rfl rfl (fun h => ?_) (fun h => ?_)
    · have h3 : 945 ≤ c := by simp at h; omega
      exact absurd h3 (by omega)
    · have h3 : ¬ 945 ≤ c := by simp at h; omega
      refine VX_go3 (fs := []) (ok 0 _) eqs trivial 100 [] rfl trivial ?_
      refine ⟨.inr rfl, ?_⟩
      have : smallR c = false := by simp [smallR, h1, h3]
      rw [this]; rfl

theorem name_ok (s : List UInt8) (hs : s.length ≤ 1000000) : FnOk Try.prog tb 26 [9] [4] [.str s] [.bool (nameB s)] := by
  refine FnOk_of_V (fn := Try.f26) (bt := 4) (ok 0 _) Try.func26 rfl rfl rfl (by decide) fun hw => ?_
  apply V_of_VX
  refine VX_go3 (fs := []) (ok 0 _) eqs trivial 100 [] rfl trivial ?_
  refine VX_range (ok 0 _) rfl rfl rfl rfl rfl rfl rfl rfl rfl ?_
  refine VX_go3 (fs := []) (ok 0 _) eqs trivial 100 [] rfl trivial ?_
  refine VX_loopA (fun a : Nat × Nat × Nat => nameF s a.1 a.2.1 a.2.2 = nameB s ∧ a.1 + a.2.2 = s.length + 1 ∧ a.2.2 ≤ a.2.1 ∧ a.2.2 ≤ s.length) (fun a => [(7, .it 0), (3, .t 3 (.e (.int a.2.2)))]) (fun a => [.iter s a.2.1]) (fun a => a.1) (s.length + 1, 0, 0) ⟨rfl, rfl, Nat.le_refl _, Nat.zero_le _⟩ ?_ ?_
  · exact wk1 rfl rfl (by simp [Blk.under]) (lc (ls rfl rfl) (lc (ls rfl rfl) lnil))
  · rintro ⟨f, pos, n⟩ ⟨h1, h2, h3, h4⟩
    simp only at h1 h2 h3 h4
    refine VX_go3 (fs := []) (ok 0 _) eqs trivial 100 [] rfl trivial ?_
    refine VX_next (ok 0 _) 3 21 rfl rfl rfl rfl rfl rfl rfl rfl (by simp [maxI]; omega) rfl (fun hp => ?_) (fun hp => ?_)
    · have hp : pos < s.length := hp
      obtain ⟨g, rfl⟩ : ∃ g, f = g + 1 := ⟨f - 1, by omega⟩
      have hw := (runeAt_w s pos).1
      have e1 : IntKind.wrap .i64 ((n : Int) + 1) = ((n + 1 : Nat) : Int) := by rw [w64 (by omega) (by omega)]; rfl
      unfold nameF at h1; rw [if_pos hp] at h1
      have go : ∀ x : Bool, badR (runeAt s pos).1 (n + 1) = false → nameF s g (pos + (runeAt s pos).2) (n + 1) = nameB s := fun _ hb => by rw [hb] at h1; simpa using h1
      have stop : badR (runeAt s pos).1 (n + 1) = true → nameB s = false := fun hb => by rw [hb] at h1; simpa using h1.symm
      generalize hc : (runeAt s pos).1 = c at *
      generalize (runeAt s pos).2 = w at *
      refine VX_go3 (fs := []) (ok 0 _) eqs trivial 100 [] rfl trivial ?_
      refine VX_callD (ok 0 _) [21] [] rfl rfl rfl rfl rfl rfl (small_ok c).g rfl rfl rfl ?_
      refine VX_go3 (fs := []) (ok 0 _) eqs trivial 100 [] rfl trivial ?_
      refine VX_split 16 rfl rfl (fun hsm => ?_) (fun hsm => ?_)
      · have hsm : smallR c = false := by simpa using hsm
        refine VX_go3 (fs := []) (ok 0 _) eqs trivial 100 [] rfl trivial ?_
        refine VX_split 19 rfl rfl (fun hn => ?_) (fun hn => ?_)
        · have hn : n + 1 = 1 := by simp at hn; rw [w64 (by omega) (by omega)] at hn; omega
          refine VX_go3 (fs := []) (ok 0 _) eqs trivial 100 [] rfl trivial ?_
          refine loop_ret ⟨.inr rfl, ?_⟩
          rw [stop (by simp [badR, hsm, hn])]; rfl
        · have hn : ¬ n + 1 = 1 := by simp at hn; rw [w64 (by omega) (by omega)] at hn; omega
          refine VX_go3 (fs := []) (ok 0 _) eqs trivial 100 [] rfl trivial ?_
          refine VX_split 23 rfl rfl (fun hl => ?_) (fun hl => ?_)
          · have hl : c < 48 := by simp at hl; omega
            refine VX_go3 (fs := []) (ok 0 _) eqs trivial 100 [] rfl trivial ?_
            refine loop_ret ⟨.inr rfl, ?_⟩
            rw [stop (by simp [badR, hsm, hl])]; rfl
          · have hl : ¬ c < 48 := by simp at hl; omega
            refine VX_go3 (fs := []) (ok 0 _) eqs trivial 100 [] rfl trivial ?_
            refine VX_split 27 rfl rfl (fun hu => ?_) (fun hu => ?_)
            · have hu : 57 < c := by simp at hu; omega
              refine VX_go3 (fs := []) (ok 0 _) eqs trivial 100 [] rfl trivial ?_
              refine loop_ret ⟨.inr rfl, ?_⟩
              rw [stop (by simp [badR, hsm, hu])]; rfl
            · have hu : ¬ 57 < c := by simp at hu; omega
              refine VX_go3 (fs := []) (ok 0 _) eqs trivial 100 [] rfl trivial ?_
              refine loop_nrm ⟨(g, pos + w, n + 1), by simp, ⟨go true (by simp [badR, hsm, hl, hu]; omega), by simp only; omega, by simp only; omega, by simp only; omega⟩, ?_⟩
              exact wk1 rfl rfl (by simp [Blk.under]) (lc (ls rfl rfl) (lc (li (by rw [e1])) lnil))
      · have hsm : smallR c = true := by simpa using hsm
        refine VX_go3 (fs := []) (ok 0 _) eqs trivial 100 [] rfl trivial ?_
        refine loop_nrm ⟨(g, pos + w, n + 1), by simp, ⟨go true (by simp [badR, hsm]), by simp only; omega, by simp only; omega, by simp only; omega⟩, ?_⟩
        exact wk1 rfl rfl (by simp [Blk.under]) (lc (ls rfl rfl) (lc (li (by rw [e1])) lnil))
    · have hp : ¬ pos < s.length := hp
      have hf : ∃ g, f = g + 1 := by
        cases f with
        | zero => exfalso; omega
        | succ g => exact ⟨g, rfl⟩
      obtain ⟨g, rfl⟩ := hf
      unfold nameF at h1; rw [if_neg hp] at h1
      refine VX_go3 (fs := []) (ok 0 _) eqs trivial 100 [] rfl trivial ?_
      apply loop_brk
      refine VX_go3 (fs := []) (ok 0 _) eqs trivial 100 [] rfl trivial ?_
      refine VX_split 30 rfl rfl (fun hn => ?_) (fun hn => ?_)
      · have hn : 0 < n := by simp at hn; omega
        refine VX_go3 (fs := []) (ok 0 _) eqs trivial 100 [] rfl trivial ?_
        refine ⟨.inr rfl, ?_⟩
        have : nameB s = decide ((n : Int) ≤ 12) := by rw [← h1]; simp [hn]; omega
        rw [this]; rfl
      · have hn : ¬ 0 < n := by simp at hn; omega
        refine VX_go3 (fs := []) (ok 0 _) eqs trivial 100 [] rfl trivial ?_
        refine ⟨.inr rfl, ?_⟩
        have : nameB s = false := by rw [← h1]; simp [hn]
        rw [this]; rfl

end Go.Den.Q34
/- Law 34: what is allowed; rules that are set; what is told of a guard. -/
namespace Go.Den.Q34
open Go Go.Den Go.Proofs
set_option maxRecDepth 8000
set_option linter.unusedVariables false

theorem cloneE_row (q : List E) (hq : q.length ≤ 100000) : FnG Try.prog tb 25 [] [.t 23 (.e (.sl q))] (fun d s => d = .t 23 (.lsl 0 q) ∧ s = [.row 62 q.length]) := by
  refine FnG_of_V (fn := Try.f25) (bt := 4) true [0] [23] (ok 0 _) Try.func25 rfl rfl rfl fun _ _ _ _ _ _ => ?_
  apply V_of_VX
  refine VX_go3 (fs := []) (ok 0 _) eqs trivial 100 [] rfl trivial ?_
  refine VX_op rfl rfl (OpV_nilS (ok 0 _) rfl (.inl rfl) rfl rfl rfl rfl) ?_
  rintro d s ⟨b, hb, rfl, rfl⟩
  refine VX_go3 (fs := []) (ok 0 _) eqs trivial 100 [] rfl trivial ?_
  refine VX_split 4 rfl rfl (fun h => ?_) (fun h => ?_)
  · refine VX_go3 (fs := []) (ok 0 _) eqs trivial 5 [] rfl trivial ?_
    refine VX_promote 2 (u := 62) rfl rfl ?_
    refine VX_go3 (fs := []) (ok 0 _) eqs trivial 100 [] rfl trivial ?_
    refine ⟨.inr rfl, _, _, _, rfl, rfl, rfl, ?_⟩
    rw [hb h]; exact ⟨rfl, rfl⟩
  · refine VX_go3 (fs := []) (ok 0 _) eqs trivial 100 [] rfl ?_ ?_
    · simp [allP, nb, tb, maxL]; omega
    exact ⟨.inr rfl, _, _, _, rfl, rfl, rfl, rfl, rfl⟩
theorem cloneR_row (q : List E) (hq : q.length ≤ 100000) : FnG Try.prog tb 22 [] [.t 22 (.e (.sl q))] (fun d s => d = .t 22 (.lsl 0 q) ∧ s = [.row 47 q.length]) := by
  refine FnG_of_V (fn := Try.f22) (bt := 4) true [0] [22] (ok 0 _) Try.func22 rfl rfl rfl fun _ _ _ _ _ _ => ?_
  apply V_of_VX
  refine VX_go3 (fs := []) (ok 0 _) eqs trivial 100 [] rfl trivial ?_
  refine VX_op rfl rfl (OpV_nilS (ok 0 _) rfl (.inl rfl) rfl rfl rfl rfl) ?_
  rintro d s ⟨b, hb, rfl, rfl⟩
  refine VX_go3 (fs := []) (ok 0 _) eqs trivial 100 [] rfl trivial ?_
  refine VX_split 4 rfl rfl (fun h => ?_) (fun h => ?_)
  · refine VX_go3 (fs := []) (ok 0 _) eqs trivial 5 [] rfl trivial ?_
    refine VX_promote 2 (u := 47) rfl rfl ?_
    refine VX_go3 (fs := []) (ok 0 _) eqs trivial 100 [] rfl trivial ?_
    refine ⟨.inr rfl, _, _, _, rfl, rfl, rfl, ?_⟩
    rw [hb h]; exact ⟨rfl, rfl⟩
  · refine VX_go3 (fs := []) (ok 0 _) eqs trivial 100 [] rfl ?_ ?_
    · simp [allP, nb, tb, maxL]; omega
    exact ⟨.inr rfl, _, _, _, rfl, rfl, rfl, rfl, rfl⟩

/-- What is allowed, by a rule and the sum of what counts. -/
def allowR (es : List En) (r : Rl) (o : Nat) (nm : List UInt8) (n now : Nat) (s : Nat × Int) : List En × Int :=
  if s.2 ≠ 0 then (es, s.2) else if (addB s.1 n).2 ≠ 0 then (es, (addB s.1 n).2) else if r.most < (addB s.1 n).1 then (es, 12) else if 4096 ≤ es.length then (es, 6) else (es ++ [⟨o, nm, now, n⟩], 0)
def allowB (rs : List Rl) (es : List En) (o : Nat) (nm : List UInt8) (n now : Nat) : List En × Int := match ridx o nm rs 0 with
  | .ofNat i => match rs[i]? with
    | some r => allowR es r o nm n now (sumF r now es 0)
    | none => (es, 0)
  | .negSucc _ => (es, 0)

theorem allow_ok (rs : List Rl) (es : List En) (o : Nat) (nm : List UInt8) (n now : Nat) (hrs : ∀ r ∈ rs, r.ok) (hes : ∀ x ∈ es, x.ok) (hn : n < 18446744073709551616) (hnow : now < 18446744073709551616) (hl : es.length ≤ 10000) (hlr : rs.length ≤ 10000) :
    FnOk Try.prog tb 9 [25, 27, 9, 26, 26] [25, 31] [gE rs es, .int o, .str nm, .int n, .int now] [gE rs (allowB rs es o nm n now).1, .int (allowB rs es o nm n now).2] := by
  refine FnOk_of_V (fn := Try.f9) (bt := 4) (ok 0 _) Try.func9 rfl rfl rfl (by decide) fun hw => ?_
  apply V_of_VX
  refine VX_go3 (fs := []) (ok 0 _) eqs trivial 100 [] rfl trivial ?_
  refine VX_callD (ok 0 _) [25, 27, 9] [] rfl rfl rfl rfl rfl rfl (rule_ok rs es o nm (by omega)).g rfl rfl rfl ?_
  refine VX_go3 (fs := []) (ok 0 _) eqs trivial 100 [] rfl trivial ?_
  rcases ridx_cases o nm rs with hx | ⟨j, hj, hx, hh⟩
  · have hk : allowB rs es o nm n now = (es, 0) := by unfold allowB; rw [hx]; rfl
    rw [hx]
    refine VX_known 21 true rfl rfl (by decide) ?_
    refine VX_go3 (fs := []) (ok 0 _) eqs trivial 100 [] rfl trivial ?_
    refine ⟨.inr rfl, ?_⟩
    rw [hk]; rfl
  · have hk : allowB rs es o nm n now = allowR es rs[j] o nm n now (sumF rs[j] now es 0) := by
      unfold allowB; rw [hx]
      show (match rs[j]? with | some r => allowR es r o nm n now (sumF r now es 0) | none => (es, 0)) = _
      rw [List.getElem?_eq_getElem hj]
    rw [hx]
    refine VX_known 21 false rfl rfl (by simp) ?_
    refine VX_go3 (fs := []) (ok 0 _) eqs trivial 100 [] rfl trivial ?_
    refine VX_draw [] [(0, true), (1, true), (2, true), (3, true), (4, true), (5, true), (6, true), (7, false), (8, true), (9, true), (10, true), (11, true), (12, true)] mixed (by kernel_rfl) (by kernel_rfl) (by kernel_rfl) ?_
    refine VX_go3 (fs := []) (ok 0 _) eqs trivial 100 [] rfl ?_ ?_
    · simp [allP]; omega
    refine VX_eq 29 rfl rfl (d' := .t 47 (.e rs[j].e)) (congrArg (fun x => D.t 47 (.e x)) (getD_rl hj)) ?_
    refine VX_callO (ok 0 _) [25, 47, 26] [] rfl rfl rfl rfl rfl rfl rfl rfl (sum_ok rs es rs[j] now hes (hrs _ (List.getElem_mem hj)) hnow (by omega)).g rfl rfl rfl ?_
    have hsl := sumF_lt rs[j] now es 0 (by decide)
    have hk2 : allowB rs es o nm n now = allowR es rs[j] o nm n now ((sumF rs[j] now es 0).1, (sumF rs[j] now es 0).2) := hk
    generalize (sumF rs[j] now es 0).1 = S at hsl hk2 ⊢
    generalize (sumF rs[j] now es 0).2 = F at hk2 ⊢
    refine VX_go3 (fs := []) (ok 0 _) eqs trivial 100 [] rfl trivial ?_
    refine VX_split 35 rfl rfl (fun h => ?_) (fun h => ?_)
    · have hF : F = 0 := by simpa using h
      subst hF
      refine VX_go3 (fs := []) (ok 0 _) eqs trivial 100 [] rfl trivial ?_
      refine VX_callD (ok 0 _) [26, 26] [] rfl rfl rfl rfl rfl rfl (add_ok S n hsl hn).g rfl rfl rfl ?_
      generalize hAd : addB S n = A at hk2 ⊢
      have hk3 : allowB rs es o nm n now = if A.2 ≠ 0 then (es, A.2) else if rs[j].most < A.1 then (es, 12) else if 4096 ≤ es.length then (es, 6) else (es ++ [⟨o, nm, now, n⟩], 0) := by
        rw [hk2]; simp only [allowR, hAd]; rfl
      refine VX_go3 (fs := []) (ok 0 _) eqs trivial 100 [] rfl trivial ?_
      refine VX_split 42 rfl rfl (fun h => ?_) (fun h => ?_)
      · have h : A.2 ≠ 0 := by simpa using h
        refine VX_go3 (fs := []) (ok 0 _) eqs trivial 100 [] rfl trivial ?_
        refine ⟨.inr rfl, ?_⟩
        rw [hk3, if_pos h]; rfl
      · have h : ¬ A.2 ≠ 0 := by simpa using h
        rw [if_neg h] at hk3
        refine VX_go3 (fs := []) (ok 0 _) eqs trivial 100 [55] rfl ?_ ?_
        · simp [allP]; omega
        have hmost : getE [2] ((rs.map Rl.e).getD j .nilp) = .int rs[j].most := by rw [getD_rl hj]; rfl
        refine VX_eq 54 rfl rfl (d' := .t 26 (.e (.int rs[j].most))) (congrArg (fun x => D.t 26 (.e x)) hmost) ?_
        refine VX_go3 (fs := []) (ok 0 _) eqs trivial 100 [] rfl trivial ?_
        refine VX_split 47 rfl rfl (fun h => ?_) (fun h => ?_)
        · have h : rs[j].most < A.1 := by simp at h; omega
          refine VX_go3 (fs := []) (ok 0 _) eqs trivial 100 [] rfl trivial ?_
          refine ⟨.inr rfl, ?_⟩
          rw [hk3, if_pos h]; rfl
        · have h : ¬ rs[j].most < A.1 := by simp at h; omega
          rw [if_neg h] at hk3
          refine VX_go3 (fs := []) (ok 0 _) eqs trivial 100 [] rfl trivial ?_
          refine VX_split 57 rfl rfl (fun h => ?_) (fun h => ?_)
          · have h : 4096 ≤ es.length := by simp at h; omega
            refine VX_go3 (fs := []) (ok 0 _) eqs trivial 100 [] rfl trivial ?_
            refine ⟨.inr rfl, ?_⟩
            rw [hk3, if_pos h]; rfl
          · have h : ¬ 4096 ≤ es.length := by simp at h; omega
            rw [if_neg h] at hk3
            refine VX_go3 (fs := []) (ok 0 _) eqs trivial 100 [] rfl trivial ?_
            refine VX_callD (ok 0 _) [23] [] rfl rfl rfl rfl rfl rfl (cloneE_row (es.map En.e) (by simp; omega)) rfl rfl rfl ?_
            refine VX_go3 (fs := []) (ok 0 _) eqs trivial 100 [] rfl ?_ ?_
            · simp [allP, nb, tb, maxL]; omega
            refine VX_callD (ok 0 _) [22] [] rfl rfl rfl rfl rfl rfl (cloneR_ok (rs.map Rl.e) (by simp; omega)).g rfl rfl rfl ?_
            refine VX_go3 (fs := []) (ok 0 _) eqs trivial 100 [] rfl trivial ?_
            refine ⟨.inr rfl, ?_⟩
            rw [hk3]
            have he : gE rs (es ++ [⟨o, nm, now, n⟩]) = .agg [.sl (rs.map Rl.e), .sl (es.map En.e ++ [.agg [.int o, .str nm, .int now, .int n]])] := by simp [gE, En.e]
            simp only [he]; rfl
    · have hF : F ≠ 0 := by simpa using h
      refine VX_go3 (fs := []) (ok 0 _) eqs trivial 100 [] rfl trivial ?_
      refine VX_known 42 true rfl rfl (by simp [hF]) ?_
      refine VX_go3 (fs := []) (ok 0 _) eqs trivial 100 [] rfl trivial ?_
      refine ⟨.inr rfl, ?_⟩
      rw [hk2]; simp only [allowR, if_pos hF]; rfl

/-- A rule that is new. -/
theorem set_new (rs : List Rl) (es : List En) (r : Rl) (hl : rs.length < 32) (hle : es.length ≤ 10000) (hi : ridx r.o r.nm rs 0 = -1) (hnm : nameB r.nm = true) (hnl : r.nm.length ≤ 1000000) :
    FnOk Try.prog tb 13 [25, 47] [25, 31] [gE rs es, r.e] [gE (rs ++ [r]) es, .int 0] := by
  refine FnOk_of_V (fn := Try.f13) (bt := 4) (ok 0 _) Try.func13 rfl rfl rfl (by decide) fun hw => ?_
  apply V_of_VX
  refine VX_go3 (fs := []) (ok 0 _) eqs trivial 100 [] rfl trivial ?_
  refine VX_callD (ok 0 _) [25, 27, 9] [] rfl rfl rfl rfl rfl rfl (rule_ok rs es r.o r.nm (by omega)).g rfl rfl rfl ?_
  rw [hi]
  refine VX_go3 (fs := []) (ok 0 _) eqs trivial 100 [] rfl trivial ?_
  refine VX_callD (ok 0 _) [9] [] rfl rfl rfl rfl rfl rfl (name_ok r.nm hnl).g rfl rfl rfl ?_
  refine VX_known 17 true rfl rfl hnm ?_
  refine VX_go3 (fs := []) (ok 0 _) eqs trivial 100 [] rfl trivial ?_
  refine VX_known 23 true rfl rfl (by decide) ?_
  refine VX_go3 (fs := []) (ok 0 _) eqs trivial 100 [] rfl trivial ?_
  refine VX_known 20 false rfl rfl (by simp; omega) ?_
  refine VX_go3 (fs := []) (ok 0 _) eqs trivial 100 [] rfl trivial ?_
  refine VX_callD (ok 0 _) [22] [] rfl rfl rfl rfl rfl rfl (cloneR_row (rs.map Rl.e) (by simp; omega)) rfl rfl rfl ?_
  refine VX_go3 (fs := []) (ok 0 _) eqs trivial 100 [] rfl trivial ?_
  refine VX_known 34 false rfl rfl (by decide) ?_
  refine VX_go3 (fs := []) (ok 0 _) eqs trivial 100 [] rfl ?_ ?_
  · simp [allP, nb, tb, maxL]; omega
  refine VX_callD (ok 0 _) [23] [] rfl rfl rfl rfl rfl rfl (cloneE_ok (es.map En.e) (by simp; omega)).g rfl rfl rfl ?_
  refine VX_go3 (fs := []) (ok 0 _) eqs trivial 100 [] rfl trivial ?_
  refine ⟨.inr rfl, ?_⟩
  have he : gE (rs ++ [r]) es = .agg [.sl (rs.map Rl.e ++ [r.e]), .sl (es.map En.e)] := by simp [gE]
  rw [he]; rfl

/-- A guard as the document's: the same data. -/
theorem to_ok (rs : List Rl) (es : List En) (hl : rs.length ≤ 10000) (hle : es.length ≤ 10000) : FnOk Try.prog tb 12 [25] [40] [gE rs es] [gE rs es] := by
  refine FnOk_of_V (fn := Try.f12) (bt := 4) (ok 0 _) Try.func12 rfl rfl rfl (by decide) fun hw => ?_
  apply V_of_VX
  refine VX_go3 (fs := []) (ok 0 _) eqs trivial 100 [] rfl trivial ?_
  refine VX_promT (ok 0 _) rfl 2 [0] rfl rfl rfl rfl rfl ?_
  refine VX_promT (ok 0 _) rfl 2 [1] rfl rfl rfl rfl rfl ?_
  refine VX_loopA (fun i : Nat => i ≤ rs.length) (fun i => [(11, .t 3 (.e (.int i))), (10, .t 3 (.e (.int rs.length))), (9, .t 22 (.e (.sl (rs.map Rl.e)))), (1, .ptr 0 []), (2, .ptr 1 []), (3, .ptr 2 [])])
    (fun i => [.tree 25 (.e (gE rs es)), .tree 40 (.st [.nsl, .nsl]), .tree 40 (.st [.lsl 3 ((rs.take i).map Rl.e), .lsl 4 []]), .row 56 ((rs.take i).map Rl.e).length, .row 70 0]) (fun i => rs.length - i) 0 (by simp) ?_ ?_
  · exact wk1 rfl rfl (by simp [Blk.under, T.under, T.unders]) (lc (ls rfl rfl) (lc (li (by simp)) (lc (ls rfl rfl) (lc (ls rfl rfl) (lc (ls rfl rfl) (lc (ls rfl rfl) lnil))))))
  · intro i hi
    refine VX_go3 (fs := []) (ok 0 _) eqs trivial 100 [] rfl trivial ?_
    refine VX_split 12 rfl rfl (fun h => ?_) (fun h => ?_)
    · have hi : i < rs.length := by simpa using h
      have ei : IntKind.wrap .i64 ((i : Int) + 1) = ((i + 1 : Nat) : Int) := by rw [w64 (by omega) (by omega)]; simp
      have htk : (rs.take (i + 1)).map Rl.e = (rs.take i).map Rl.e ++ [rs[i].e] := by rw [List.take_add_one, List.getElem?_eq_getElem hi, List.map_append]; rfl
      refine VX_go3 (fs := []) (ok 0 _) eqs trivial 100 [5] rfl ?_ ?_
      · simp [allP]; omega
      refine VX_eq 14 rfl rfl (d' := .t 47 (.e rs[i].e)) (congrArg (fun x => D.t 47 (.e x)) (getD_rl hi)) ?_
      refine VX_go3 (fs := []) (ok 0 _) eqs trivial 100 [] rfl ?_ ?_
      · simp [allP, nb, tb, maxL]; omega
      refine loop_nrm ⟨i + 1, by omega, by omega, ?_⟩
      exact wkc [.tree 47 (.e rs[i].e)] (by rw [htk]; rfl) rfl (by simp [Blk.under, T.under, T.unders]) (lc (li (by rw [ei])) (lc (ls rfl rfl) (lc (ls rfl rfl) (lc (ls rfl rfl) (lc (ls rfl rfl) (lc (ls rfl rfl) lnil))))))
    · have hi' : i = rs.length := by simp at h; omega
      subst hi'
      rw [List.take_length]
      refine VX_go3 (fs := []) (ok 0 _) eqs trivial 100 [] rfl trivial ?_
      apply loop_brk
      refine VX_go3 (fs := []) (ok 0 _) eqs trivial 100 [] rfl trivial ?_
      refine VX_loopA (fun i : Nat => i ≤ es.length) (fun i => [(25, .t 3 (.e (.int i))), (24, .t 3 (.e (.int es.length))), (23, .t 23 (.e (.sl (es.map En.e)))), (1, .ptr 0 []), (2, .ptr 1 []), (3, .ptr 2 [])])
        (fun i => [.tree 25 (.e (gE rs es)), .tree 40 (.st [.nsl, .nsl]), .tree 40 (.st [.lsl 3 (rs.map Rl.e), .lsl 4 ((es.take i).map En.e)]), .row 56 (rs.map Rl.e).length, .row 70 ((es.take i).map En.e).length]) (fun i => es.length - i) 0 (by simp) ?_ ?_
      · exact wk1 rfl rfl (by simp [Blk.under, T.under, T.unders]) (lc (ls rfl rfl) (lc (li (by simp)) (lc (ls rfl rfl) (lc (ls rfl rfl) (lc (ls rfl rfl) (lc (ls rfl rfl) lnil))))))
      · intro i hi
        refine VX_go3 (fs := []) (ok 0 _) eqs trivial 100 [] rfl trivial ?_
        refine VX_split 26 rfl rfl (fun h => ?_) (fun h => ?_)
        · have hi : i < es.length := by simpa using h
          have ei : IntKind.wrap .i64 ((i : Int) + 1) = ((i + 1 : Nat) : Int) := by rw [w64 (by omega) (by omega)]; simp
          have htk : (es.take (i + 1)).map En.e = (es.take i).map En.e ++ [es[i].e] := by rw [List.take_add_one, List.getElem?_eq_getElem hi, List.map_append]; rfl
          refine VX_go3 (fs := []) (ok 0 _) eqs trivial 100 [7] rfl ?_ ?_
          · simp [allP]; omega
          refine VX_eq 28 rfl rfl (d' := .t 62 (.e es[i].e)) (congrArg (fun x => D.t 62 (.e x)) (getD_en hi)) ?_
          refine VX_go3 (fs := []) (ok 0 _) eqs trivial 100 [] rfl ?_ ?_
          · simp [allP, nb, tb, maxL]; omega
          refine loop_nrm ⟨i + 1, by omega, by omega, ?_⟩
          exact wkc [.tree 62 (.e es[i].e)] (by rw [htk]; rfl) rfl (by simp [Blk.under, T.under, T.unders]) (lc (li (by rw [ei])) (lc (ls rfl rfl) (lc (ls rfl rfl) (lc (ls rfl rfl) (lc (ls rfl rfl) (lc (ls rfl rfl) lnil))))))
        · have hi' : i = es.length := by simp at h; omega
          subst hi'
          rw [List.take_length]
          refine VX_go3 (fs := []) (ok 0 _) eqs trivial 100 [] rfl trivial ?_
          apply loop_brk
          refine VX_go3 (fs := []) (ok 0 _) eqs trivial 100 [] rfl trivial ?_
          exact ⟨.inr rfl, rfl⟩
end Go.Den.Q34
/- Law 34: a guard that was swept allows what it would have allowed. -/
namespace Go.Den.Q34
open Go Go.Den Go.Proofs
set_option maxRecDepth 8000
set_option linter.unusedVariables false

theorem eq_rl (r : Rl) : eqE r.e r.e = true := by simp [Rl.e, eqE, eqEs]
theorem eq_en (x : En) : eqE x.e x.e = true := by simp [En.e, eqE, eqEs]
theorem same_ok (rs : List Rl) (es : List En) (hl : rs.length ≤ 10000) (hle : es.length ≤ 10000) : FnOk Try.prog tb 11 [40, 40] [4] [gE rs es, gE rs es] [.bool true] := by
  refine FnOk_of_V (fn := Try.f11) (bt := 4) (ok 0 _) Try.func11 rfl rfl rfl (by decide) fun hw => ?_
  apply V_of_VX
  refine VX_go3 (fs := []) (ok 0 _) eqs trivial 100 [] rfl trivial ?_
  refine VX_known 14 false rfl rfl (by simp) ?_
  refine VX_go3 (fs := []) (ok 0 _) eqs trivial 100 [] rfl trivial ?_
  refine VX_known 22 false rfl rfl (by simp) ?_
  refine VX_go3 (fs := []) (ok 0 _) eqs trivial 100 [] rfl trivial ?_
  refine VX_loopA (fun i : Nat => i ≤ rs.length) (fun i => [(26, .t 3 (.e (.int i))), (25, .t 3 (.e (.int rs.length))), (2, .ptr 0 []), (3, .ptr 1 [])]) (fun i => [.tree 40 (.e (gE rs es)), .tree 40 (.e (gE rs es))]) (fun i => rs.length - i) 0 (by simp) ?_ ?_
  · exact wk1 rfl rfl (by simp [Blk.under, T.under]) (lc (ls rfl rfl) (lc (li (by simp)) (lc (ls rfl rfl) (lc (ls rfl rfl) lnil))))
  · intro i hi
    refine VX_go3 (fs := []) (ok 0 _) eqs trivial 100 [] rfl trivial ?_
    refine VX_split 27 rfl rfl (fun h => ?_) (fun h => ?_)
    · have hi : i < rs.length := by simpa using h
      have ei : IntKind.wrap .i64 ((i : Int) + 1) = ((i + 1 : Nat) : Int) := by rw [w64 (by omega) (by omega)]; simp
      refine VX_go3 (fs := []) (ok 0 _) eqs trivial 100 [] rfl trivial ?_
      refine VX_draw [] [(0, true), (1, true), (2, true), (3, true), (4, true), (5, true), (6, true), (7, true), (8, true), (9, true), (10, true)] mixed (by kernel_rfl) (by kernel_rfl) (by kernel_rfl) ?_
      refine VX_go3 (fs := []) (ok 0 _) eqs trivial 100 [39] rfl ?_ ?_
      · simp [allP]; omega
      refine VX_eq 33 rfl rfl (d' := .t 56 (.e rs[i].e)) (congrArg (fun x => D.t 56 (.e x)) (getD_rl hi)) ?_
      refine VX_eq 38 rfl rfl (d' := .t 56 (.e rs[i].e)) (congrArg (fun x => D.t 56 (.e x)) (getD_rl hi)) ?_
      refine VX_go3 (fs := []) (ok 0 _) eqs trivial 100 [] rfl (by simp [allP]) ?_
      refine VX_known 39 false rfl rfl (by simp [eq_rl]) ?_
      refine VX_go3 (fs := []) (ok 0 _) eqs trivial 100 [] rfl trivial ?_
      refine loop_nrm ⟨i + 1, by omega, by omega, ?_⟩
      exact wk1 rfl rfl (by simp [Blk.under, T.under]) (lc (li (by rw [ei])) (lc (ls rfl rfl) (lc (ls rfl rfl) (lc (ls rfl rfl) lnil))))
    · refine VX_go3 (fs := []) (ok 0 _) eqs trivial 100 [] rfl trivial ?_
      apply loop_brk
      refine VX_go3 (fs := []) (ok 0 _) eqs trivial 100 [] rfl trivial ?_
      refine VX_loopA (fun i : Nat => i ≤ es.length) (fun i => [(44, .t 3 (.e (.int i))), (43, .t 3 (.e (.int es.length))), (2, .ptr 0 []), (3, .ptr 1 [])]) (fun i => [.tree 40 (.e (gE rs es)), .tree 40 (.e (gE rs es))]) (fun i => es.length - i) 0 (by simp) ?_ ?_
      · exact wk1 rfl rfl (by simp [Blk.under, T.under]) (lc (ls rfl rfl) (lc (li (by simp)) (lc (ls rfl rfl) (lc (ls rfl rfl) lnil))))
      · intro i hi
        refine VX_go3 (fs := []) (ok 0 _) eqs trivial 100 [] rfl trivial ?_
        refine VX_split 45 rfl rfl (fun h => ?_) (fun h => ?_)
        · have hi : i < es.length := by simpa using h
          have ei : IntKind.wrap .i64 ((i : Int) + 1) = ((i + 1 : Nat) : Int) := by rw [w64 (by omega) (by omega)]; simp
          refine VX_go3 (fs := []) (ok 0 _) eqs trivial 100 [] rfl trivial ?_
          refine VX_draw [] [(0, true), (1, true), (2, true), (3, true), (4, true), (5, true), (6, true), (7, true), (8, true), (9, true), (10, true)] mixed (by kernel_rfl) (by kernel_rfl) (by kernel_rfl) ?_
          refine VX_go3 (fs := []) (ok 0 _) eqs trivial 100 [57] rfl ?_ ?_
          · simp [allP]; omega
          refine VX_eq 51 rfl rfl (d' := .t 70 (.e es[i].e)) (congrArg (fun x => D.t 70 (.e x)) (getD_en hi)) ?_
          refine VX_eq 56 rfl rfl (d' := .t 70 (.e es[i].e)) (congrArg (fun x => D.t 70 (.e x)) (getD_en hi)) ?_
          refine VX_go3 (fs := []) (ok 0 _) eqs trivial 100 [] rfl (by simp [allP]) ?_
          refine VX_known 57 false rfl rfl (by simp [eq_en]) ?_
          refine VX_go3 (fs := []) (ok 0 _) eqs trivial 100 [] rfl trivial ?_
          refine loop_nrm ⟨i + 1, by omega, by omega, ?_⟩
          exact wk1 rfl rfl (by simp [Blk.under, T.under]) (lc (li (by rw [ei])) (lc (ls rfl rfl) (lc (ls rfl rfl) (lc (ls rfl rfl) lnil))))
        · refine VX_go3 (fs := []) (ok 0 _) eqs trivial 100 [] rfl trivial ?_
          apply loop_brk
          refine VX_go3 (fs := []) (ok 0 _) eqs trivial 100 [] rfl trivial ?_
          exact ⟨.inr rfl, rfl⟩

def fewR (k : Nat) (r : Rl) : Bool := decide (k ≤ 60) && decide (r.nm.length ≤ 200)
def fewB (rs : List Rl) (es : List En) : Bool := rs.all (fewR rs.length) && es.all (fun x => decide (x.nm.length ≤ 200)) && (decide (es.length ≤ 100) || (decide (4094 ≤ es.length) && decide (es.length ≤ 4100)))
theorem few_ok (rs : List Rl) (es : List En) (hl : rs.length ≤ 9223372036854775807) (hle : es.length ≤ 9223372036854775807) : FnOk Try.prog tb 7 [25] [4] [gE rs es] [.bool (fewB rs es)] := by
  refine FnOk_of_V (fn := Try.f7) (bt := 4) (ok 0 _) Try.func7 rfl rfl rfl (by decide) fun hw => ?_
  apply V_of_VX
  have hlen : ((rs.map Rl.e).length : Int) = rs.length := by simp
  have hlen2 : ((es.map En.e).length : Int) = es.length := by simp
  refine VX_go3 (fs := []) (ok 0 _) eqs trivial 100 [] rfl trivial ?_
  refine VX_loopA (fun i : Nat => i ≤ rs.length ∧ (rs.take i).all (fewR rs.length) = true) (fun i => [(10, .t 3 (.e (.int i))), (9, .t 3 (.e (.int rs.length))), (8, .t 22 (.e (.sl (rs.map Rl.e)))), (1, .ptr 0 [])]) (fun i => [.tree 25 (.e (gE rs es))]) (fun i => rs.length - i) 0 (by simp) ?_ ?_
  · exact wk1 rfl rfl (by simp [Blk.under, T.under]) (lc (ls rfl rfl) (lc (li (by simp)) (lc (ls rfl rfl) (lc (ls rfl rfl) lnil))))
  · rintro i ⟨hi, hall⟩
    refine VX_go3 (fs := []) (ok 0 _) eqs trivial 100 [] rfl trivial ?_
    refine VX_split 11 rfl rfl (fun h => ?_) (fun h => ?_)
    · have hi : i < rs.length := by simpa using h
      have bad : fewR rs.length rs[i] = false → fewB rs es = false := fun hb => by
        have : rs.all (fewR rs.length) = false := by
          cases hq : rs.all (fewR rs.length) with
          | false => rfl
          | true => have := List.all_eq_true.1 hq _ (List.getElem_mem hi); rw [hb] at this; cases this
        simp [fewB, this]
      refine VX_go3 (fs := []) (ok 0 _) eqs trivial 100 [4] rfl ?_ ?_
      · simp [allP]; omega
      refine VX_eq 13 rfl rfl (d' := .t 47 (.e rs[i].e)) (congrArg (fun x => D.t 47 (.e x)) (getD_rl hi)) ?_
      refine VX_go3 (fs := []) (ok 0 _) eqs trivial 100 [] rfl trivial ?_
      refine VX_split 18 rfl rfl (fun h => ?_) (fun h => ?_)
      · have h : ¬ rs.length ≤ 60 := by simp at h; omega
        refine VX_go3 (fs := []) (ok 0 _) eqs trivial 100 [] rfl trivial ?_
        refine loop_ret ⟨.inr rfl, ?_⟩
        rw [bad (by simp [fewR, h])]; rfl
      · have h60 : rs.length ≤ 60 := by simp at h; omega
        refine VX_go3 (fs := []) (ok 0 _) eqs trivial 100 [] rfl trivial ?_
        refine VX_split 23 rfl rfl (fun h => ?_) (fun h => ?_)
        · have h : ¬ rs[i].nm.length ≤ 200 := by simp at h; omega
          refine VX_go3 (fs := []) (ok 0 _) eqs trivial 100 [] rfl trivial ?_
          refine loop_ret ⟨.inr rfl, ?_⟩
          rw [bad (by simp [fewR, h])]; rfl
        · have h : rs[i].nm.length ≤ 200 := by simp at h; omega
          have ei : IntKind.wrap .i64 ((i : Int) + 1) = ((i + 1 : Nat) : Int) := by rw [w64 (by omega) (by omega)]; simp
          refine VX_go3 (fs := []) (ok 0 _) eqs trivial 100 [] rfl trivial ?_
          refine loop_nrm ⟨i + 1, by omega, ⟨by omega, ?_⟩, ?_⟩
          · rw [List.take_add_one, List.getElem?_eq_getElem hi]; simp only [Option.toList_some, List.all_append, hall]; simp [fewR, h60, h]
          · exact wkc [.tree 47 (.e rs[i].e)] rfl rfl (by simp [Blk.under, T.under]) (lc (li (by rw [ei])) (lc (ls rfl rfl) (lc (ls rfl rfl) (lc (ls rfl rfl) lnil))))
    · have hi' : i = rs.length := by simp at h; omega
      subst hi'
      rw [List.take_length] at hall
      refine VX_go3 (fs := []) (ok 0 _) eqs trivial 100 [] rfl trivial ?_
      apply loop_brk
      refine VX_go3 (fs := []) (ok 0 _) eqs trivial 100 [] rfl trivial ?_
      refine VX_loopA (fun i : Nat => i ≤ es.length ∧ (es.take i).all (fun x => decide (x.nm.length ≤ 200)) = true) (fun i => [(28, .t 3 (.e (.int i))), (27, .t 3 (.e (.int es.length))), (26, .t 23 (.e (.sl (es.map En.e)))), (1, .ptr 0 [])]) (fun i => [.tree 25 (.e (gE rs es))]) (fun i => es.length - i) 0 (by simp) ?_ ?_
      · exact wk1 rfl rfl (by simp [Blk.under, T.under]) (lc (ls rfl rfl) (lc (li (by simp)) (lc (ls rfl rfl) (lc (ls rfl rfl) lnil))))
      · rintro i ⟨hi, hall2⟩
        refine VX_go3 (fs := []) (ok 0 _) eqs trivial 100 [] rfl trivial ?_
        refine VX_split 29 rfl rfl (fun h => ?_) (fun h => ?_)
        · have hi : i < es.length := by simpa using h
          refine VX_go3 (fs := []) (ok 0 _) eqs trivial 100 [6] rfl ?_ ?_
          · simp [allP]; omega
          refine VX_eq 31 rfl rfl (d' := .t 62 (.e es[i].e)) (congrArg (fun x => D.t 62 (.e x)) (getD_en hi)) ?_
          refine VX_go3 (fs := []) (ok 0 _) eqs trivial 100 [] rfl trivial ?_
          refine VX_split 35 rfl rfl (fun h => ?_) (fun h => ?_)
          · have h : ¬ es[i].nm.length ≤ 200 := by simp at h; omega
            refine VX_go3 (fs := []) (ok 0 _) eqs trivial 100 [] rfl trivial ?_
            refine loop_ret ⟨.inr rfl, ?_⟩
            have hb : es.all (fun x => decide (x.nm.length ≤ 200)) = false := by
              cases hq : es.all (fun x => decide (x.nm.length ≤ 200)) with
              | false => rfl
              | true => have := List.all_eq_true.1 hq _ (List.getElem_mem hi); simp at this; omega
            have : fewB rs es = false := by simp only [fewB, hb]; simp
            rw [this]; rfl
          · have h : es[i].nm.length ≤ 200 := by simp at h; omega
            have ei : IntKind.wrap .i64 ((i : Int) + 1) = ((i + 1 : Nat) : Int) := by rw [w64 (by omega) (by omega)]; simp
            refine VX_go3 (fs := []) (ok 0 _) eqs trivial 100 [] rfl trivial ?_
            refine loop_nrm ⟨i + 1, by omega, ⟨by omega, ?_⟩, ?_⟩
            · rw [List.take_add_one, List.getElem?_eq_getElem hi]; simp only [Option.toList_some, List.all_append, hall2]; simp [h]
            · exact wkc [.tree 62 (.e es[i].e)] rfl rfl (by simp [Blk.under, T.under]) (lc (li (by rw [ei])) (lc (ls rfl rfl) (lc (ls rfl rfl) (lc (ls rfl rfl) lnil))))
        · have hi' : i = es.length := by simp at h; omega
          subst hi'
          rw [List.take_length] at hall2
          have hf : fewB rs es = (decide (es.length ≤ 100) || (decide (4094 ≤ es.length) && decide (es.length ≤ 4100))) := by simp only [fewB, hall, hall2, Bool.true_and]
          refine VX_go3 (fs := []) (ok 0 _) eqs trivial 100 [] rfl trivial ?_
          apply loop_brk
          refine VX_go3 (fs := []) (ok 0 _) eqs trivial 100 [] rfl trivial ?_
          refine VX_split 41 rfl rfl (fun h => ?_) (fun h => ?_)
          · have h : es.length ≤ 100 := by simp at h; omega
            refine VX_go3 (fs := []) (ok 0 _) eqs trivial 100 [] rfl trivial ?_
            refine ⟨.inr rfl, ?_⟩
            rw [hf]; simp [h]; rfl
          · have h : ¬ es.length ≤ 100 := by simp at h; omega
            refine VX_go3 (fs := []) (ok 0 _) eqs trivial 100 [] rfl trivial ?_
            refine VX_split 46 rfl rfl (fun h2 => ?_) (fun h2 => ?_)
            · have h2 : 4094 ≤ es.length := by simp at h2; omega
              refine VX_go3 (fs := []) (ok 0 _) eqs trivial 100 [] rfl trivial ?_
              refine ⟨.inr rfl, ?_⟩
              have : fewB rs es = decide ((((es.map En.e).length : Nat) : Int) ≤ 4100) := by rw [hf]; simp [h, h2]; omega
              rw [this]; rfl
            · have h2 : ¬ 4094 ≤ es.length := by simp at h2; omega
              refine VX_go3 (fs := []) (ok 0 _) eqs trivial 100 [] rfl trivial ?_
              refine ⟨.inr rfl, ?_⟩
              have : fewB rs es = false := by rw [hf]; simp [h, h2]
              rw [this]; rfl

def r0 : Rl := ⟨1, [97], 5, 10⟩
theorem awake_ok : FnOk Try.prog tb 6 [] [4] [] [.bool true] := by
  refine FnOk_of_V (fn := Try.f6) (bt := 4) (ok 0 _) Try.func6 rfl rfl rfl (by decide) fun hw => ?_
  apply V_of_VX
  have ro : ∀ r ∈ [r0], r.ok := fun r hr => by rw [List.mem_singleton.1 hr]; exact ⟨by decide, by decide, by decide⟩
  have c1 := set_new [] [] r0 (by decide) (by decide) rfl (by decide) (by decide)
  have c2 := allow_ok [r0] [] 1 [97] 3 0 ro (fun x hx => by simp at hx) (by decide) (by decide) (by decide) (by decide)
  rw [show allowB [r0] [] 1 [97] 3 0 = ([⟨1, [97], 0, 3⟩], 0) by decide] at c2
  have eo : ∀ x ∈ ([⟨1, [97], 0, 3⟩] : List En), x.ok := fun x hx => by rw [List.mem_singleton.1 hx]; exact ⟨by decide, by decide, by decide⟩
  have c3 := allow_ok [r0] [⟨1, [97], 0, 3⟩] 1 [97] 3 9 ro eo (by decide) (by decide) (by decide) (by decide)
  rw [show allowB [r0] [⟨1, [97], 0, 3⟩] 1 [97] 3 9 = ([⟨1, [97], 0, 3⟩], 12) by decide] at c3
  have c4 := allow_ok [r0] [⟨1, [97], 0, 3⟩] 1 [97] 3 10 ro eo (by decide) (by decide) (by decide) (by decide)
  rw [show allowB [r0] [⟨1, [97], 0, 3⟩] 1 [97] 3 10 = ([⟨1, [97], 0, 3⟩, ⟨1, [97], 10, 3⟩], 0) by decide] at c4
  refine VX_go3 (fs := []) (ok 0 _) eqs trivial 100 [] rfl trivial ?_
  refine VX_callD (ok 0 _) [25, 47] [] rfl rfl rfl rfl rfl rfl c1.g rfl rfl rfl ?_
  refine VX_go3 (fs := []) (ok 0 _) eqs trivial 100 [] rfl trivial ?_
  refine VX_callD (ok 0 _) [25, 27, 9, 26, 26] [] rfl rfl rfl rfl rfl rfl c2.g rfl rfl rfl ?_
  refine VX_go3 (fs := []) (ok 0 _) eqs trivial 100 [] rfl trivial ?_
  refine VX_callD (ok 0 _) [25, 27, 9, 26, 26] [] rfl rfl rfl rfl rfl rfl c3.g rfl rfl rfl ?_
  refine VX_go3 (fs := []) (ok 0 _) eqs trivial 100 [] rfl trivial ?_
  refine VX_callD (ok 0 _) [25, 27, 9, 26, 26] [] rfl rfl rfl rfl rfl rfl c4.g rfl rfl rfl ?_
  refine VX_go3 (fs := []) (ok 0 _) eqs trivial 100 [] rfl trivial ?_
  refine VX_known 31 true rfl rfl (by decide) ?_
  refine VX_go3 (fs := []) (ok 0 _) eqs trivial 100 [] rfl trivial ?_
  refine VX_known 35 true rfl rfl (by decide) ?_
  refine VX_go3 (fs := []) (ok 0 _) eqs trivial 100 [] rfl trivial ?_
  refine VX_known 39 true rfl rfl (by decide) ?_
  refine VX_go3 (fs := []) (ok 0 _) eqs trivial 100 [42] rfl trivial ?_
  refine VX_known 41 true rfl rfl (by decide) ?_
  refine VX_go3 (fs := []) (ok 0 _) eqs trivial 100 [] rfl trivial ?_
  exact ⟨.inr rfl, rfl⟩
end Go.Den.Q34
/- Law 34: GuardSweeps. -/
namespace Go.Den.Q34
open Go Go.Den Go.Proofs
set_option maxRecDepth 8000
set_option linter.unusedVariables false

theorem wt_u32 {t : TypeId} {x : E} (h : Wt tb t x) (ht : td tb t = .int .u32) : ∃ n : Nat, x = .int n ∧ n < 4294967296 := by
  obtain ⟨n, rfl, hn⟩ := wt_int h ht
  simp only [inR, Bool.and_eq_true, decide_eq_true_eq] at hn
  exact ⟨n.toNat, by congr 1; omega, by omega⟩
theorem wt_u64 {t : TypeId} {x : E} (h : Wt tb t x) (ht : td tb t = .int .u64) : ∃ n : Nat, x = .int n ∧ n < 18446744073709551616 := by
  obtain ⟨n, rfl, hn⟩ := wt_int h ht
  simp only [inR, Bool.and_eq_true, decide_eq_true_eq] at hn
  exact ⟨n.toNat, by congr 1; omega, by omega⟩
theorem wt_rl {x : E} (h : Wt tb 47 x) : ∃ r : {r : Rl // r.ok}, x = r.1.e := by
  obtain ⟨l, rfl, hl, hw⟩ := wt_st h rfl
  obtain ⟨a, b, c, d, rfl⟩ := list4 hl
  obtain ⟨n0, rfl, h0⟩ := wt_u32 (hw 0 _ a rfl rfl) rfl
  obtain ⟨s, rfl⟩ := wt_str (hw 1 _ b rfl rfl) rfl
  obtain ⟨n1, rfl, h1⟩ := wt_u64 (hw 2 _ c rfl rfl) rfl
  obtain ⟨n2, rfl, h2⟩ := wt_u64 (hw 3 _ d rfl rfl) rfl
  exact ⟨⟨⟨n0, s, n1, n2⟩, ⟨h0, h1, h2⟩⟩, rfl⟩
theorem wt_en {x : E} (h : Wt tb 62 x) : ∃ r : {r : En // r.ok}, x = r.1.e := by
  obtain ⟨l, rfl, hl, hw⟩ := wt_st h rfl
  obtain ⟨a, b, c, d, rfl⟩ := list4 hl
  obtain ⟨n0, rfl, h0⟩ := wt_u32 (hw 0 _ a rfl rfl) rfl
  obtain ⟨s, rfl⟩ := wt_str (hw 1 _ b rfl rfl) rfl
  obtain ⟨n1, rfl, h1⟩ := wt_u64 (hw 2 _ c rfl rfl) rfl
  obtain ⟨n2, rfl, h2⟩ := wt_u64 (hw 3 _ d rfl rfl) rfl
  exact ⟨⟨⟨n0, s, n1, n2⟩, ⟨h0, h1, h2⟩⟩, rfl⟩
theorem wt_guard {x : E} (h : Wt tb 25 x) : ∃ rs es, x = gE rs es ∧ (∀ r ∈ rs, r.ok) ∧ (∀ x ∈ es, x.ok) ∧ rs.length ≤ 9223372036854775807 ∧ es.length ≤ 9223372036854775807 := by
  obtain ⟨l, rfl, hl, hw⟩ := wt_st h rfl
  obtain ⟨a, b, rfl⟩ := list2 hl
  have ha := hw 0 _ a rfl rfl
  have hb := hw 1 _ b rfl rfl
  obtain ⟨xs, rfl, hx⟩ := wt_sl ha rfl
  obtain ⟨ys, rfl, hy⟩ := wt_sl hb rfl
  obtain ⟨rs, rfl⟩ := map_ex fun y hy' => wt_rl (hx y hy')
  obtain ⟨es, rfl⟩ := map_ex fun y hy' => wt_en (hy y hy')
  have l1 := wt_len ha
  have l2 := wt_len hb
  simp only [List.length_map, maxN] at l1 l2
  refine ⟨rs.map (·.1), es.map (·.1), by simp [gE], ?_, ?_, by simpa using l1, by simpa using l2⟩
  · intro r hr; obtain ⟨z, _, rfl⟩ := List.mem_map.1 hr; exact z.2
  · intro r hr; obtain ⟨z, _, rfl⟩ := List.mem_map.1 hr; exact z.2

theorem ridx_congr {t : Nat} {rs : List Rl} {j : Nat} {hj : j < rs.length} {o : Nat} {nm : List UInt8} (h : hits o nm rs[j] = true) (x : En) (hc : cnt x rs[j] t = true) : x.o = o ∧ x.nm = nm := by
  simp only [hits, cnt, Bool.and_eq_true, decide_eq_true_eq] at h hc
  exact ⟨hc.1.1.trans h.1, hc.1.2.trans h.2⟩
theorem cnt_mono {x : En} {r : Rl} {a b : Nat} (h : a ≤ b) (hc : cnt x r b = true) : cnt x r a = true := by
  simp only [cnt, Bool.and_eq_true, decide_eq_true_eq] at hc ⊢
  exact ⟨hc.1, by omega⟩
/-- What counts later was kept. -/
theorem keep_cnt {rs : List Rl} {o : Nat} {nm : List UInt8} {j : Nat} (hj : j < rs.length) (hx : ridx o nm rs 0 = (j : Nat)) (hh : hits o nm rs[j] = true) {a b : Nat} (hab : a ≤ b) {x : En} (hc : cnt x rs[j] b = true) : keepB rs a x = true := by
  obtain ⟨h1, h2⟩ := ridx_congr hh x hc
  unfold keepB
  rw [h1, h2, hx]
  show (match rs[j]? with | some r => cnt x r a | none => false) = _
  rw [List.getElem?_eq_getElem hj]
  exact cnt_mono hab hc
theorem sumF_filter (r : Rl) (now : Nat) (p : En → Bool) (hp : ∀ x, cnt x r now = true → p x = true) : ∀ (es : List En) (n : Nat), sumF r now (es.filter p) n = sumF r now es n
  | [], n => rfl
  | x :: es, n => by
    rw [List.filter_cons]
    by_cases hc : cnt x r now = true
    · rw [if_pos (hp x hc)]
      simp only [sumF, hc, if_true, sumF_filter r now p hp es]
    · by_cases hpx : p x = true
      · rw [if_pos hpx]; simp only [sumF, hc, sumF_filter r now p hp es]
      · rw [if_neg hpx]; simp only [sumF, hc, sumF_filter r now p hp es]; rfl
theorem filter2 (rs : List Rl) (a : Nat) (es : List En) : (es.filter (keepB rs a)).filter (keepB rs a) = es.filter (keepB rs a) := by simp [List.filter_filter]
theorem counts_sw (rs : List Rl) (es : List En) (o : Nat) (nm : List UInt8) (a b : Nat) (hab : a ≤ b) : countsB rs (es.filter (keepB rs a)) o nm b = countsB rs es o nm b := by
  rcases ridx_cases o nm rs with hx | ⟨j, hj, hx, hh⟩
  · unfold countsB; rw [hx]; rfl
  · unfold countsB; rw [hx]
    show (match rs[j]? with | some r => ((sumF r b (es.filter (keepB rs a)) 0).1, decide ((sumF r b (es.filter (keepB rs a)) 0).2 = 0)) | none => (0, false)) = (match rs[j]? with | some r => ((sumF r b es 0).1, decide ((sumF r b es 0).2 = 0)) | none => (0, false))
    rw [List.getElem?_eq_getElem hj]
    simp only [sumF_filter rs[j] b (keepB rs a) (fun x hc => keep_cnt hj hx hh hab hc) es 0]
theorem allow_sw (rs : List Rl) (es : List En) (o : Nat) (nm : List UInt8) (n a b : Nat) (hab : a ≤ b) (hl : es.length ≤ 100) : (allowB rs (es.filter (keepB rs a)) o nm n b).2 = (allowB rs es o nm n b).2 := by
  rcases ridx_cases o nm rs with hx | ⟨j, hj, hx, hh⟩
  · unfold allowB; rw [hx]; rfl
  · have hfl := List.length_filter_le (keepB rs a) es
    unfold allowB; rw [hx]
    show ((match rs[j]? with | some r => allowR (es.filter (keepB rs a)) r o nm n b (sumF r b (es.filter (keepB rs a)) 0) | none => (es.filter (keepB rs a), 0)) : List En × Int).2 = ((match rs[j]? with | some r => allowR es r o nm n b (sumF r b es 0) | none => (es, 0)) : List En × Int).2
    rw [List.getElem?_eq_getElem hj]
    simp only [sumF_filter rs[j] b (keepB rs a) (fun x hc => keep_cnt hj hx hh hab hc) es 0]
    unfold allowR
    have z1 : ¬ 4096 ≤ (es.filter (keepB rs a)).length := by omega
    have z2 : ¬ 4096 ≤ es.length := by omega
    simp only [z1, z2, if_false]
    split
    · rfl
    · split
      · rfl
      · split <;> rfl

set_option maxHeartbeats 1600000 in
theorem sweeps_ok (x0 x1 x2 x3 x4 x5 : E) : FnOk Try.prog tb 3 [25, 26, 26, 27, 9, 26] [4] [x0, x1, x2, x3, x4, x5] [.bool true] := by
  refine FnOk_of_V (fn := Try.f3) (bt := 4) (ok 0 _) Try.func3 rfl rfl rfl (by decide) fun hw => ?_
  obtain ⟨rs, es, rfl, hrs, hes, hl1, hl2⟩ := wt_guard (hw 0 _ x0 rfl rfl)
  obtain ⟨a, rfl, ha⟩ := wt_u64 (hw 1 _ x1 rfl rfl) rfl
  obtain ⟨b, rfl, hb⟩ := wt_u64 (hw 2 _ x2 rfl rfl) rfl
  obtain ⟨o, rfl, ho⟩ := wt_u32 (hw 3 _ x3 rfl rfl) rfl
  obtain ⟨nm, rfl⟩ := wt_str (hw 4 _ x4 rfl rfl) rfl
  obtain ⟨n, rfl, hn⟩ := wt_u64 (hw 5 _ x5 rfl rfl) rfl
  clear hw
  apply V_of_VX
  refine VX_go3 (fs := []) (ok 0 _) eqs trivial 100 [] rfl trivial ?_
  refine VX_callD (ok 0 _) [] [] rfl rfl rfl rfl rfl rfl awake_ok.g rfl rfl rfl ?_
  refine VX_go3 (fs := []) (ok 0 _) eqs trivial 100 [] rfl trivial ?_
  refine VX_known 23 false rfl rfl rfl ?_
  refine VX_go3 (fs := []) (ok 0 _) eqs trivial 100 [] rfl trivial ?_
  refine VX_callD (ok 0 _) [25] [] rfl rfl rfl rfl rfl rfl (few_ok rs es hl1 hl2).g rfl rfl rfl ?_
  refine VX_go3 (fs := []) (ok 0 _) eqs trivial 100 [] rfl trivial ?_
  refine VX_split 27 rfl rfl (fun h => ?_) (fun hf => ?_)
  · refine VX_go3 (fs := []) (ok 0 _) eqs trivial 100 [] rfl trivial ?_
    exact ⟨.inr rfl, rfl⟩
  refine VX_go3 (fs := []) (ok 0 _) eqs trivial 100 [] rfl trivial ?_
  refine VX_split 33 rfl rfl (fun h => ?_) (fun h1 => ?_)
  · refine VX_go3 (fs := []) (ok 0 _) eqs trivial 100 [] rfl trivial ?_
    exact ⟨.inr rfl, rfl⟩
  refine VX_go3 (fs := []) (ok 0 _) eqs trivial 100 [] rfl trivial ?_
  refine VX_split 38 rfl rfl (fun h => ?_) (fun h2 => ?_)
  · refine VX_go3 (fs := []) (ok 0 _) eqs trivial 100 [] rfl trivial ?_
    exact ⟨.inr rfl, rfl⟩
  refine VX_go3 (fs := []) (ok 0 _) eqs trivial 100 [] rfl trivial ?_
  refine VX_split 42 rfl rfl (fun h => ?_) (fun h3 => ?_)
  · refine VX_go3 (fs := []) (ok 0 _) eqs trivial 100 [] rfl trivial ?_
    exact ⟨.inr rfl, rfl⟩
  have hlen : ((es.map En.e).length : Int) = es.length := by simp
  have hl : es.length ≤ 100 := by have : ¬ (100 : Int) < (((es.map En.e).length : Nat) : Int) := by simpa using h1
                                  rw [hlen] at this; omega
  have hab : a ≤ b := by have : ¬ (b : Int) < a := by simpa using h3
                         omega
  have hlr : rs.length ≤ 60 := by
    have hf' : fewB rs es = true := by simpa using hf
    cases rs with
    | nil => simp
    | cons r rs =>
      simp only [fewB, List.all_cons, fewR, Bool.and_eq_true, decide_eq_true_eq] at hf'
      exact hf'.1.1.1.1
  clear h1 h2 h3 hf
  have hfl := List.length_filter_le (keepB rs a) es
  have hes' : ∀ x ∈ es.filter (keepB rs a), x.ok := fun x hx => hes x (List.mem_filter.1 hx).1
  have c1 := (sweep_ok rs es a hrs hes ha (by omega) (by omega)).g
  have c2 := (allow_ok rs es o nm n b hrs hes hn hb (by omega) (by omega)).g
  have c3 := (allow_ok rs (es.filter (keepB rs a)) o nm n b hrs hes' hn hb (by omega) (by omega)).g
  have c4 := (countsG_ok rs es o nm b hrs hes hb (by omega) (by omega)).g
  have c5 := (countsG_ok rs (es.filter (keepB rs a)) o nm b hrs hes' hb (by omega) (by omega)).g
  have c6 := (sweep_ok rs (es.filter (keepB rs a)) a hrs hes' ha (by omega) (by omega)).g
  have c7 := (to_ok rs (es.filter (keepB rs a)) (by omega) (by omega)).g
  have c8 := (same_ok rs (es.filter (keepB rs a)) (by omega) (by omega)).g
  rw [filter2] at c6
  rw [counts_sw rs es o nm a b hab] at c5
  have e2 := allow_sw rs es o nm n a b hab hl
  rw [e2] at c3
  have hle : ((((es.filter (keepB rs a)).map En.e).length : Nat) : Int) ≤ (((es.map En.e).length : Nat) : Int) := by simp only [List.length_map]; omega
  generalize es.filter (keepB rs a) = fs at *
  generalize (countsB rs es o nm b).1 = k1 at *
  generalize (countsB rs es o nm b).2 = k2 at *
  generalize (allowB rs es o nm n b).2 = k3 at *
  refine VX_go3 (fs := []) (ok 0 _) eqs trivial 100 [] rfl trivial ?_
  refine VX_callD (ok 0 _) [25, 26] [] rfl rfl rfl rfl rfl rfl c1 rfl rfl rfl ?_
  refine VX_go3 (fs := []) (ok 0 _) eqs trivial 100 [] rfl trivial ?_
  refine VX_callD (ok 0 _) [25, 27, 9, 26, 26] [] rfl rfl rfl rfl rfl rfl c2 rfl rfl rfl ?_
  refine VX_go3 (fs := []) (ok 0 _) eqs trivial 100 [] rfl trivial ?_
  refine VX_callD (ok 0 _) [25, 27, 9, 26, 26] [] rfl rfl rfl rfl rfl rfl c3 rfl rfl rfl ?_
  refine VX_go3 (fs := []) (ok 0 _) eqs trivial 100 [] rfl trivial ?_
  refine VX_callD (ok 0 _) [25, 27, 9, 26] [] rfl rfl rfl rfl rfl rfl c4 rfl rfl rfl ?_
  refine VX_go3 (fs := []) (ok 0 _) eqs trivial 100 [] rfl trivial ?_
  refine VX_callD (ok 0 _) [25, 27, 9, 26] [] rfl rfl rfl rfl rfl rfl c5 rfl rfl rfl ?_
  refine VX_go3 (fs := []) (ok 0 _) eqs trivial 100 [] rfl trivial ?_
  refine VX_draw [] [(0,true),(1,true),(2,true),(3,true),(4,true),(5,true),(6,true),(7,true),(8,true),(9,true),(10,true),(11,true),(12,true),(13,true),(14,true),(15,true),(16,true),(17,true),(18,true),(19,true),(20,true),(21,true),(22,true),(23,true),(24,true),(27,true),(25,false),(26,false),(28,false),(29,false),(30,true),(31,true)] mixed (by kernel_rfl) (by kernel_rfl) (by kernel_rfl) ?_
  refine VX_go3 (fs := []) (ok 0 _) eqs trivial 100 [] rfl trivial ?_
  refine VX_known 83 true rfl rfl (by simp) ?_
  refine VX_go3 (fs := []) (ok 0 _) eqs trivial 100 [] rfl trivial ?_
  refine VX_known 88 true rfl rfl (by simp) ?_
  refine VX_go3 (fs := []) (ok 0 _) eqs trivial 100 [] rfl trivial ?_
  refine VX_known 93 true rfl rfl (by simp) ?_
  refine VX_go3 (fs := []) (ok 0 _) eqs trivial 100 [] rfl trivial ?_
  refine VX_known 102 true rfl rfl (by simpa using hle) ?_
  refine VX_go3 (fs := []) (ok 0 _) eqs trivial 100 [] rfl trivial ?_
  refine VX_callO (ok 0 _) [25, 26] [] rfl rfl rfl rfl rfl rfl rfl rfl c6 rfl rfl rfl ?_
  refine VX_go3 (fs := []) (ok 0 _) eqs trivial 100 [] rfl trivial ?_
  refine VX_callO (ok 0 _) [25] [] rfl rfl rfl rfl rfl rfl rfl rfl c7 rfl rfl rfl ?_
  refine VX_go3 (fs := []) (ok 0 _) eqs trivial 100 [] rfl trivial ?_
  refine VX_callO (ok 0 _) [25] [] rfl rfl rfl rfl rfl rfl rfl rfl c7 rfl rfl rfl ?_
  refine VX_go3 (fs := []) (ok 0 _) eqs trivial 100 [] rfl trivial ?_
  refine VX_callO (ok 0 _) [40, 40] [] rfl rfl rfl rfl rfl rfl rfl rfl c8 rfl rfl rfl ?_
  refine VX_go3 (fs := []) (ok 0 _) eqs trivial 100 [] rfl trivial ?_
  exact ⟨.inr rfl, rfl⟩
end Go.Den.Q34
/- Law 34: what is left. -/
namespace Go.Den.Q34
open Go Go.Den Go.Proofs
set_option maxRecDepth 8000
set_option linter.unusedVariables false

def subB (x y : Nat) : Nat × Int := if x < y then (0, 11) else (x - y, 0)
theorem sub_ok (x y : Nat) (hx : x < 18446744073709551616) (hy : y < 18446744073709551616) : FnOk Try.prog tb 27 [26, 26] [26, 31] [.int x, .int y] [.int (subB x y).1, .int (subB x y).2] := by
  refine FnOk_of_V (fn := Try.f27) (bt := 4) (ok 0 _) Try.func27 rfl rfl rfl (by decide) fun hw => ?_
  apply V_of_VX
  refine VX_go3 (fs := []) (ok 0 _) eqs trivial 100 [] rfl trivial ?_
  refine VX_split 8 rfl rfl (fun h => ?_) (fun h => ?_)
  · have h : x < y := by simp at h; omega
    refine VX_go3 (fs := []) (ok 0 _) eqs trivial 100 [] rfl trivial ?_
    refine ⟨.inr rfl, ?_⟩
    simp only [subB, if_pos h]; rfl
  · have h : ¬ x < y := by simp at h; omega
    refine VX_go3 (fs := []) (ok 0 _) eqs trivial 100 [] rfl trivial ?_
    refine ⟨.inr rfl, ?_⟩
    simp only [subB, if_neg h]
    have : (((x - y : Nat)) : Int) = IntKind.wrap .u64 ((x : Int) - y) := by rw [inR_wrap (by simp [inR]; omega)]; omega
    rw [this]; rfl

def leftB (rs : List Rl) (es : List En) (o : Nat) (nm : List UInt8) (now : Nat) : Nat × Bool := match ridx o nm rs 0 with
  | .ofNat i => match rs[i]? with
    | some r => (if (sumF r now es 0).2 ≠ 0 then 0 else (subB r.most (sumF r now es 0).1).1, true)
    | none => (0, false)
  | .negSucc _ => (0, false)
theorem left_ok (rs : List Rl) (es : List En) (o : Nat) (nm : List UInt8) (now : Nat) (hrs : ∀ r ∈ rs, r.ok) (hes : ∀ x ∈ es, x.ok) (hn : now < 18446744073709551616) (hl : es.length ≤ 10000) (hlr : rs.length ≤ 10000) :
    FnOk Try.prog tb 14 [25, 27, 9, 26] [26, 4] [gE rs es, .int o, .str nm, .int now] [.int (leftB rs es o nm now).1, .bool (leftB rs es o nm now).2] := by
  refine FnOk_of_V (fn := Try.f14) (bt := 4) (ok 0 _) Try.func14 rfl rfl rfl (by decide) fun hw => ?_
  apply V_of_VX
  refine VX_go3 (fs := []) (ok 0 _) eqs trivial 100 [] rfl trivial ?_
  refine VX_callD (ok 0 _) [25, 27, 9] [] rfl rfl rfl rfl rfl rfl (rule_ok rs es o nm (by omega)).g rfl rfl rfl ?_
  refine VX_go3 (fs := []) (ok 0 _) eqs trivial 100 [] rfl trivial ?_
  rcases ridx_cases o nm rs with hx | ⟨j, hj, hx, hh⟩
  · have hk : leftB rs es o nm now = (0, false) := by unfold leftB; rw [hx]; rfl
    rw [hx]
    refine VX_known 20 true rfl rfl (by decide) ?_
    refine VX_go3 (fs := []) (ok 0 _) eqs trivial 100 [] rfl trivial ?_
    refine ⟨.inr rfl, ?_⟩
    rw [hk]; rfl
  · have hk : leftB rs es o nm now = (if (sumF rs[j] now es 0).2 ≠ 0 then 0 else (subB rs[j].most (sumF rs[j] now es 0).1).1, true) := by
      unfold leftB; rw [hx]
      show (match rs[j]? with | some r => (if (sumF r now es 0).2 ≠ 0 then 0 else (subB r.most (sumF r now es 0).1).1, true) | none => (0, false)) = _
      rw [List.getElem?_eq_getElem hj]
    rw [hx]
    have hrj := hrs _ (List.getElem_mem hj)
    have hsl := sumF_lt rs[j] now es 0 (by decide)
    refine VX_known 20 false rfl rfl (by simp) ?_
    refine VX_go3 (fs := []) (ok 0 _) eqs trivial 100 [] rfl trivial ?_
    refine VX_draw [] [(0, true), (1, true), (2, true), (3, true), (4, true), (5, true), (6, true), (7, false), (8, true), (9, true), (10, true), (11, true), (12, true)] mixed (by kernel_rfl) (by kernel_rfl) (by kernel_rfl) ?_
    refine VX_go3 (fs := []) (ok 0 _) eqs trivial 100 [] rfl ?_ ?_
    · simp [allP]; omega
    refine VX_eq 27 rfl rfl (d' := .t 47 (.e rs[j].e)) (congrArg (fun x => D.t 47 (.e x)) (getD_rl hj)) ?_
    refine VX_callO (ok 0 _) [25, 47, 26] [] rfl rfl rfl rfl rfl rfl rfl rfl (sum_ok rs es rs[j] now hes hrj hn (by omega)).g rfl rfl rfl ?_
    refine VX_go3 (fs := []) (ok 0 _) eqs trivial 100 [] rfl trivial ?_
    have hk2 : leftB rs es o nm now = (if (sumF rs[j] now es 0).2 ≠ 0 then 0 else (subB rs[j].most (sumF rs[j] now es 0).1).1, true) := hk
    generalize (sumF rs[j] now es 0).1 = S at hsl hk2 ⊢
    generalize (sumF rs[j] now es 0).2 = F at hk2 ⊢
    refine VX_split 33 rfl rfl (fun h => ?_) (fun h => ?_)
    · have hF : F ≠ 0 := by simpa using h
      rw [if_pos hF] at hk2
      refine VX_go3 (fs := []) (ok 0 _) eqs trivial 100 [] rfl trivial ?_
      refine ⟨.inr rfl, ?_⟩
      rw [hk2]; rfl
    · have hF : ¬ F ≠ 0 := by simpa using h
      rw [if_neg hF] at hk2
      refine VX_go3 (fs := []) (ok 0 _) eqs trivial 100 [41] rfl ?_ ?_
      · simp [allP]; omega
      have hmost : getE [2] ((rs.map Rl.e).getD j .nilp) = .int rs[j].most := by rw [getD_rl hj]; rfl
      refine VX_eq 40 rfl rfl (d' := .t 26 (.e (.int rs[j].most))) (congrArg (fun x => D.t 26 (.e x)) hmost) ?_
      refine VX_go3 (fs := []) (ok 0 _) eqs trivial 100 [] rfl trivial ?_
      refine VX_callD (ok 0 _) [26, 26] [] rfl rfl rfl rfl rfl rfl (sub_ok rs[j].most S hrj.most hsl).g rfl rfl rfl ?_
      refine VX_go3 (fs := []) (ok 0 _) eqs trivial 100 [] rfl trivial ?_
      refine ⟨.inr rfl, ?_⟩
      rw [hk2]; rfl
end Go.Den.Q34
