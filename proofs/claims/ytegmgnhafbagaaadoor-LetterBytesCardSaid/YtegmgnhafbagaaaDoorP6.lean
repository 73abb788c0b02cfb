/- The calculus and the walks, part 6: DenShelf, DenPair, DenLaid, DenPair2, Q9dTb. -/
import Derived.Test.YtegmgnhafbagaaaDoorP5
import Derived.Below
import Derived.Test.YtegmgnhafbagaaaDoorP4
import Derived.Test.YtegmgnhafbagaaaDoorProg
/- Contracts of the library's shelf, turned into contracts of the calculus. -/
namespace Go.Den
open Go Go.RowKit
set_option linter.unusedVariables false
theorem Stp.below {H : Gh} {w w' : World} (h : Below w.heap.size w w') : Stp H w H w' := by
  have hb : ∀ b, b < w.heap.size → w'.heap[b]? = w.heap[b]? := fun b hb => h.block b hb
  refine ⟨h.os, h.tape, h.output, h.size, fun _ _ _ _ => rfl, fun _ _ _ i e => ⟨i, e⟩, fun b hlt _ => hb b hlt, fun b hlt o _ => ?_, fun b hlt o v _ _ => ?_, fun b hlt => ?_⟩
  · unfold World.cell?; simp only [hb b hlt]
  · unfold World.frozen?; simp only [hb b hlt]
  · unfold World.shape?; simp only [hb b hlt]
theorem Base.below {H : Gh} {w w' : World} (hb : Base H w) (h : Below w.heap.size w w') : Base H w' := by
  refine ⟨fun b o v e => ?_, fun b o e => Nat.lt_of_lt_of_le (hb.dom b o e) h.size⟩
  have hlt := hb.dom b o (by rw [e]; simp)
  have := hb.pers b o v e
  unfold World.cell? at this ⊢
  rw [h.block b hlt]; exact this
/-- A contract that tells the value, and that nothing that stood has turned. -/
theorem FnOk_of_calls {P : Program} {tb : Tab} {f : FuncId} {fn : Func} {c : Code} {pts rts : List TypeId} {args rs : List E} (hf : P.funcs[f]? = some fn) (hn : (fn.name == "runtime.NumGoroutine") = false) (hb : fn.body = some c) (hl : args.length = pts.length)
    (h : ∀ H w vals, Base H w → ArgsAt tb H [] [] vals (typed pts args) → ∃ v, Calls P f vals w (fun e w' => e = .returned v ∧ Below w.heap.size w w') ∧ DRel tb H [] [] v (retD rts rs)) : FnOk P tb f pts rts args rs := by
  refine ⟨⟨fn, hf, hn, by rw [hb]; rfl⟩, hl, fun H w vals hbase hmine hargs => ?_⟩
  obtain ⟨v, hc, hd⟩ := h H w vals hbase hargs
  refine hc.mono ?_
  rintro e w' ⟨rfl, hbl⟩
  exact ⟨v, H, rfl, hbase.below hbl, hd, Stp.below hbl⟩
end Go.Den
/- Pairs in regions that draw: a call, and bytes of a text. -/
namespace Go.Den
open Go
set_option linter.unusedSectionVars false
set_option linter.unusedVariables false
section
variable {C : Cx} (hC : Ok C) {o : Oper} {env : Env} {σ : List Blk} {ts : List Nat}
include hC
/-- A call of data, whatever else may come up. -/
theorem OpF_callD {f : FuncId} {xs : Array Operand} {tys : Array TypeId} {pts rts : List TypeId} {args rs : List E} (ho : o.op = .call { callee := .value (.func f), args := xs, argTypes := tys })
    (hx : argsE C.tb env pts xs.toList = some args) (h : FnOk C.P C.tb f pts rts args rs) : OpF C o env σ ts (fun d s => d = retD rts rs ∧ s = σ) := OpF_callE hC ho hx h
/-- The bytes of a text. -/
theorem OpF_bytes {s d u : TypeId} {x : Operand} {dx : D} {l : List UInt8} (ho : o.op = .convert s d x) (hs : td C.tb s = .str) (hd : td C.tb d = .sl u) (hu : td C.tb u = .int .u8) (hx : opd C.tb env s x = some dx) (hl : strAny dx = some l) :
    OpF C o env σ ts (fun d' s' => d' = .t d (.e (.sl (l.map byteE))) ∧ s' = σ) := by
  intro H β a w hr he hdf K Qx hK
  obtain ⟨hv, hlen⟩ := strAny_rel (opd_rel he hx) hl
  have hsz : sz C.tb u = 1 := hC.tab.sz_one (by simp [isAggT, hu]) (by rw [hu]; simp)
  have hrun := run_bytes_of_string (P := C.P) w s d u ⟨⟨l⟩⟩ (hC.tab.str hs) (hC.tab.sl hd) (hC.tab.int hu)
  generalize hcap : grownCap w (ByteArray.size ⟨⟨l⟩⟩) 0 u = cap at hrun
  have hcap' : l.length ≤ cap := by
    have : (ByteArray.size ⟨⟨l⟩⟩) = l.length := rfl
    rw [← hcap, this]; simp [grownCap, Question.cut]
  let ob : Obj := .cells (bytesRow ⟨⟨l⟩⟩ cap) u ((bytesRow ⟨⟨l⟩⟩ cap).size, (bytesRow ⟨⟨l⟩⟩ cap).size + 1)
  have hcs : ∀ (j : Nat) v, (l.map fun b => Value.int .u8 b.toNat)[j]? = some v → (w.drew.alloc ob).cell? ⟨w.heap.size, j, none⟩ = some v := fun j v hj => by
    have hjl : j < l.length := by have := (List.getElem?_eq_some_iff.1 hj).1; simpa using this
    have : (w.drew.alloc ob).heap[w.drew.heap.size]? = some ob := heap_alloc_new w.drew ob
    rw [show w.drew.heap.size = w.heap.size from rfl] at this
    simp only [World.cell?, this, ob]
    simp only [bytesRow]
    rw [Array.getElem?_append_left (by simpa using hjl)]
    simpa using hj
  let f : Nat → Own := fun o => match (l.map fun b => Value.int .u8 b.toNat)[o]? with
    | some v => .pers v
    | none => .none
  obtain ⟨hr2, hev⟩ := hr.drew.alloc ob f [] [] rfl (fun o v hv => by
    simp only [f] at hv
    split at hv
    · rename_i v' hv'; cases hv; exact hcs o _ hv'
    · cases hv) (fun i k bv hk => by simp at hk)
  simp only [List.append_nil] at hr2 hev
  have hstp : Stp H w _ (w.drew.alloc ob) := (Stp.drew H w).trans (Stp.alloc (w := w.drew) hr.dom ob f)
  have hex : (execOp a.eval o).run C.P w = .ok (.value (.slice (some ⟨w.heap.size, 0, none⟩) l.length cap)) (w.drew.alloc ob) := by
    have hsl : (⟨⟨l⟩⟩ : ByteArray).size = l.length := rfl
    rw [hsl] at hrun
    simp [execOp, ho, hv, sv, hrun, ob]
  simp only [Oper.wp, hex, Oper.upon]
  refine hK _ _ _ _ β σ ⟨rfl, rfl⟩ hr2 ?_ hstp hev (fun b o u hu hs => Frm.alloc (ts := ts) (w := w.drew) hr.dom ob f b o u hu hs)
  refine .t (cs := [.slice (some ⟨w.heap.size, 0, none⟩) l.length cap]) (by simp [VC, isAggT, hd]) (.e ?_)
  have hlm : (l.map byteE).length = l.length := by simp
  rw [← hlm]
  refine .sl (cs := l.map fun b => .int .u8 b.toNat) hd (by simp [hsz]) (fun j v hj => ?_) (fun i x hx => ?_) (by rw [hlm]; exact hcap') (by rw [hlm]; unfold maxI at hlen; unfold maxN; omega)
  · rw [Nat.zero_add]
    show (if _ then _ else _) = _
    rw [if_pos (show w.heap.size = w.drew.heap.size from rfl)]; simp only [f, hj]
  · simp only [List.getElem?_map, Option.map_eq_some_iff] at hx
    obtain ⟨b, hb1, rfl⟩ := hx
    have : seg (l.map fun b => Value.int .u8 b.toNat) (i * sz C.tb u) (sz C.tb u) = [.int .u8 b.toNat] := by
      rw [hsz, Nat.mul_one]
      unfold seg
      rw [List.take_one, List.head?_drop]
      simp [hb1]
    rw [this]
    exact .int hu (inR_wrap (by have := b.toNat_lt; simp [inR]; omega))
end
section
variable {C : Cx} {env : Env} {σ : List Blk} {Q : Post}
theorem swap2 {env : Env} {i j : Nat} {di dj : D} (h : Nat.beq i j = false) (t : Nat) : getD (putD (putD env (some i) di) (some j) dj) t = getD (putD (putD env (some j) dj) (some i) di) t := by
  simp only [putD, getD]
  cases h1 : Nat.beq i t with
  | false => cases Nat.beq j t <;> rfl
  | true =>
    have := Nat.eq_of_beq_eq_true h1
    subst this
    cases h2 : Nat.beq j i with
    | false => rfl
    | true => have := Nat.eq_of_beq_eq_true h2; subst this; rw [beq_self'] at h; cases h
/-- A call of data beside the bytes of a text. -/
theorem VX_callBytes (hC : Ok C) {k : List It} {full : List Oper} {ts : List Nat} {i j ti tj : Nat} {oi oj : Oper} {ord : List (Nat × Bool)} {f : FuncId} {xs : Array Operand} {tys : Array TypeId} {pts rts : List TypeId} {args rs : List E} {sb db u : TypeId} {x : Operand} {dx : D} {l : List UInt8}
    (hi : full[i]? = some oi) (hj : full[j]? = some oj) (hp : pairB full ((i, false) :: (j, false) :: ord) = true)
    (hwi : wants full env oi = some true) (hwj : wants full env oj = some true) (hdi : oi.dst = some ti) (hdj : oj.dst = some tj) (hti : Nat.blt ti C.n = true) (htj : Nat.blt tj C.n = true) (hne : Nat.beq ti tj = false)
    (hoi : oi.op = .call { callee := .value (.func f), args := xs, argTypes := tys }) (hx : argsE C.tb env pts xs.toList = some args) (h : FnOk C.P C.tb f pts rts args rs)
    (hoj : oj.op = .convert sb db x) (hs : td C.tb sb = .str) (hd : td C.tb db = .sl u) (hu : td C.tb u = .int .u8) (hxb : opd C.tb env sb x = some dx) (hl : strAny dx = some l)
    (hwi' : wants full ((tj, .t db (.e (.sl (l.map byteE)))) :: env) oi = some true) (hwj' : wants full ((ti, retD rts rs) :: env) oj = some true)
    (hx' : argsE C.tb ((tj, .t db (.e (.sl (l.map byteE)))) :: env) pts xs.toList = some args) (hxb' : opd C.tb ((ti, retD rts rs) :: env) sb x = some dx)
    (hk : VX C Q (.o full ts ord :: k) .nrm ((tj, .t db (.e (.sl (l.map byteE)))) :: (ti, retD rts rs) :: env) σ) : VX C Q (.o full ts ((i, false) :: (j, false) :: ord) :: k) .nrm env σ := by
  refine VX_pair (di := retD rts rs) (dj := .t db (.e (.sl (l.map byteE)))) hi hj hp hwi hwj (by rw [hdj]; exact hwi') (by rw [hdi]; exact hwj') (by rw [hdi]; exact hti) (by rw [hdj]; exact htj)
    (OpF_callE hC hoi hx h) (OpF_bytes hC hoj hs hd hu hxb hl) (by rw [hdj]; exact OpF_callE hC hoi hx' h) (by rw [hdi]; exact OpF_bytes hC hoj hs hd hu hxb' hl) (by rw [hdi, hdj]; exact swap2 hne) ?_
  rw [hdi, hdj]; exact hk
end
end Go.Den
/- The variables of the package, as a statement's condition lays them. -/
namespace Go.Den
open Go
set_option linter.unusedVariables false
/-- An array of numbers. -/
theorem gl_ints {P : Program} {tb : Tab} (hT : TabOk P tb) {H : Type} {enc : TypeId × Value → H} {w : World} {nm : String} {g : Nat} {cs : Array Value} {fuel : Nat} {t u : TypeId} {n : Nat} {k : IntKind} {ns : List Int} {p : List MemPlace} {base : Nat} {sp : Nat → Bool} {held : Bool}
    (hg : P.globalNamed nm = some g) (hv : w.var? P nm = some cs) (ht : td tb t = .arr n u) (hu : td tb u = .int k)
    (h : DataW.trod enc P w base sp held fuel t cs.toList = some (.agg (ns.map fun n => .lit (.int k n)), p)) :
    ∃ cs' : List Value, cs'.length = sz tb t ∧ Rd tb (Hw w) t cs' (.agg (ns.map E.int)) ∧ ∀ (j : Nat) v, cs'[j]? = some v → Hw w g j = .pers v := by
  have hsz : sz tb u = 1 := hT.sz_one (by simp [isAggT, hu]) (by rw [hu]; simp)
  have hcu : P.cellsOf u = 1 := by rw [cellsOf_sz hT (hT.lt_of_td (by rw [hu]; simp)), hsz]
  have hct : P.cellsOf t = sz tb t := cellsOf_sz hT (hT.lt_of_td (by rw [ht]; simp))
  obtain ⟨xs, m, _, hx, hl, hxn, hel⟩ := DataW.trod_array (hT.arr ht) h
  simp only [Prod.mk.injEq, DataW.agg.injEq] at hx
  have hlen : cs.toList.length = sz tb t := by rw [hl, hct]
  have hns : ns.length = n := by
    have := congrArg List.length hx.1
    simp only [List.length_map] at this
    omega
  refine ⟨cs.toList, hlen, .arr ht (by rw [hlen, hT.sz_arr ht]) (by simpa using hns) (fun i x hi => ?_), fun j v hj => ?_⟩
  · simp only [List.getElem?_map, Option.map_eq_some_iff] at hi
    obtain ⟨a, ha, rfl⟩ := hi
    have hin : i < n := by have := (List.getElem?_eq_some_iff.1 ha).1; omega
    have he := hel i hin
    rw [hcu] at he
    obtain ⟨b, q, hb⟩ : ∃ b q, xs[i]? = some (b, q) := ⟨xs[i].1, xs[i].2, List.getElem?_eq_getElem (by omega)⟩
    rw [hb] at he
    obtain ⟨c, e1, e2, hw⟩ := DataW.trod_int (hT.int hu) he
    have h3 := congrArg (fun l => l[i]?) hx.1
    simp only [List.getElem?_map, ha, hb, Option.map_some, Option.some.injEq] at h3
    simp only [Prod.mk.injEq] at e2
    rw [e2.1] at h3
    have hac : a = c := by simpa using h3
    subst hac
    rw [hsz]
    show Rd tb (Hw w) u ((cs.toList.drop (i * 1)).take 1) (.int a)
    rw [e1]
    exact .int hu (wf_wrap hw)
  · rw [Hw_pers, World.var?_cell hg hv j]
    simpa using hj
end Go.Den
/- Pairs in regions that draw: a call, and a list that is written out. -/
namespace Go.Den
open Go
set_option linter.unusedSectionVars false
set_option linter.unusedVariables false
section
variable {C : Cx} {env : Env} {σ : List Blk} {Q : Post}
/-- A call of data beside a list that is written out. -/
theorem VX_callLit (hC : Ok C) {k : List It} {full : List Oper} {ts : List Nat} {i j ti tj : Nat} {oi oj : Oper} {ord : List (Nat × Bool)} {f : FuncId} {xs : Array Operand} {tys : Array TypeId} {pts rts : List TypeId} {args rs : List E} {t : TypeId} {len : Nat} {ps : Array (Nat × Operand)} {d : D} {pp pp' : Prop}
    (hi : full[i]? = some oi) (hj : full[j]? = some oj) (hp : pairB full ((i, false) :: (j, false) :: ord) = true)
    (hwi : wants full env oi = some true) (hwj : wants full env oj = some true) (hdi : oi.dst = some ti) (hdj : oj.dst = some tj) (hti : Nat.blt ti C.n = true) (htj : Nat.blt tj C.n = true) (hne : Nat.beq ti tj = false)
    (hoi : oi.op = .call { callee := .value (.func f), args := xs, argTypes := tys }) (hx : argsE C.tb env pts xs.toList = some args) (h : FnOk C.P C.tb f pts rts args rs)
    (hoj : oj.op = .buildSlice t len ps) (hl : dLit C env σ t len ps.toList = some ⟨pp, d, σ⟩)
    (hwi' : wants full ((tj, d) :: env) oi = some true) (hwj' : wants full ((ti, retD rts rs) :: env) oj = some true)
    (hx' : argsE C.tb ((tj, d) :: env) pts xs.toList = some args) (hl' : dLit C ((ti, retD rts rs) :: env) σ t len ps.toList = some ⟨pp', d, σ⟩)
    (hk : VX C Q (.o full ts ord :: k) .nrm ((tj, d) :: (ti, retD rts rs) :: env) σ) : VX C Q (.o full ts ((i, false) :: (j, false) :: ord) :: k) .nrm env σ := by
  refine VX_pair (di := retD rts rs) (dj := d) hi hj hp hwi hwj (by rw [hdj]; exact hwi') (by rw [hdi]; exact hwj') (by rw [hdi]; exact hti) (by rw [hdj]; exact htj)
    (OpF_callE hC hoi hx h) (dLit_okF hC hoj hl) (by rw [hdj]; exact OpF_callE hC hoi hx' h) (by rw [hdi]; exact dLit_okF hC hoj hl') (by rw [hdi, hdj]; exact swap2 hne) ?_
  rw [hdi, hdj]; exact hk
end
end Go.Den
/- Law 9d: the table of types. -/
namespace Go.Den.Q9d
open Go Go.Den Go.Proofs
def fL : List Int := [1779033703, 3144134277, 1013904242, 2773480762, 1359893119, 2600822924, 528734635, 1541459225]
def kL : List Int := [1116352408, 1899447441, 3049323471, 3921009573, 961987163, 1508970993, 2453635748, 2870763221, 3624381080, 310598401, 607225278, 1426881987, 1925078388, 2162078206, 2614888103, 3248222580, 3835390401, 4022224774, 264347078, 604807628, 770255983, 1249150122, 1555081692, 1996064986, 2554220882, 2821834349, 2952996808, 3210313671, 3336571891, 3584528711, 113926993, 338241895, 666307205, 773529912, 1294757372, 1396182291, 1695183700, 1986661051, 2177026350, 2456956037, 2730485921, 2820302411, 3259730800, 3345764771, 3516065817, 3600352804, 4094571909, 275423344, 430227734, 506948616, 659060556, 883997877, 958139571, 1322822218, 1537002063, 1747873779, 1955562222, 2024104815, 2227730452, 2361852424, 2428436474, 2756734187, 3204031479, 3329325298]
def tb : Tab :=
⟨[⟨.other, 1, 0, 0⟩,
  ⟨.fn, 1, 8, 1⟩,
  ⟨.int .i64, 1, 8, 2⟩,
  ⟨.int .i64, 1, 8, 3⟩,
  ⟨.bool, 1, 1, 4⟩,
  ⟨.int .u8, 1, 1, 5⟩,
  ⟨.int .u8, 1, 1, 5⟩,
  ⟨.st [(2, 0), (3, 1), (4, 2), (6, 3)], 4, 24, 7⟩,
  ⟨.st [(2, 0), (3, 1), (4, 2), (6, 3)], 4, 24, 7⟩,
  ⟨.str, 1, 16, 9⟩,
  ⟨.str, 1, 16, 9⟩,
  ⟨.str, 1, 16, 9⟩,
  ⟨.int .u64, 1, 8, 12⟩,
  ⟨.st [(9, 0), (12, 1)], 2, 24, 13⟩,
  ⟨.st [(9, 0), (12, 1)], 2, 24, 13⟩,
  ⟨.ptr 129, 1, 8, 15⟩,
  ⟨.ptr 132, 1, 8, 16⟩,
  ⟨.ptr 139, 1, 8, 17⟩,
  ⟨.st [(17, 0)], 1, 8, 18⟩,
  ⟨.st [(17, 0)], 1, 8, 18⟩,
  ⟨.ifc, 1, 16, 20⟩,
  ⟨.int .i32, 1, 4, 21⟩,
  ⟨.int .u32, 1, 4, 22⟩,
  ⟨.st [(22, 0), (22, 1), (22, 2), (9, 3), (9, 4), (9, 5)], 6, 64, 23⟩,
  ⟨.st [(22, 0), (22, 1), (22, 2), (9, 3), (9, 4), (9, 5)], 6, 64, 23⟩,
  ⟨.fn, 1, 8, 25⟩,
  ⟨.fn, 1, 8, 26⟩,
  ⟨.int .i64, 1, 8, 3⟩,
  ⟨.other, 1, 0, 28⟩,
  ⟨.fn, 1, 8, 29⟩,
  ⟨.fn, 1, 8, 30⟩,
  ⟨.other, 1, 0, 31⟩,
  ⟨.fn, 1, 8, 32⟩,
  ⟨.other, 1, 0, 33⟩,
  ⟨.fn, 1, 8, 34⟩,
  ⟨.fn, 1, 8, 35⟩,
  ⟨.arr 32 5, 32, 32, 36⟩,
  ⟨.arr 32 5, 32, 32, 36⟩,
  ⟨.fn, 1, 8, 38⟩,
  ⟨.fn, 1, 8, 39⟩,
  ⟨.fn, 1, 8, 40⟩,
  ⟨.ptr 63, 1, 8, 41⟩,
  ⟨.fn, 1, 8, 42⟩,
  ⟨.fn, 1, 8, 43⟩,
  ⟨.fn, 1, 8, 44⟩,
  ⟨.int .u64, 1, 8, 45⟩,
  ⟨.fn, 1, 8, 46⟩,
  ⟨.ptr 71, 1, 8, 47⟩,
  ⟨.fn, 1, 8, 48⟩,
  ⟨.fn, 1, 8, 49⟩,
  ⟨.fn, 1, 8, 50⟩,
  ⟨.fn, 1, 8, 51⟩,
  ⟨.ptr 54, 1, 8, 52⟩,
  ⟨.st [(9, 0), (3, 1)], 2, 24, 53⟩,
  ⟨.st [(9, 0), (3, 1)], 2, 24, 53⟩,
  ⟨.fn, 1, 8, 55⟩,
  ⟨.fn, 1, 8, 56⟩,
  ⟨.ptr 102, 1, 8, 57⟩,
  ⟨.fn, 1, 8, 58⟩,
  ⟨.fn, 1, 8, 59⟩,
  ⟨.sl 9, 1, 24, 60⟩,
  ⟨.mp 37 60, 1, 8, 61⟩,
  ⟨.st [(60, 0), (61, 1)], 2, 32, 62⟩,
  ⟨.st [(60, 0), (61, 1)], 2, 32, 62⟩,
  ⟨.fn, 1, 8, 64⟩,
  ⟨.sl 3, 1, 24, 65⟩,
  ⟨.fn, 1, 8, 66⟩,
  ⟨.fn, 1, 8, 67⟩,
  ⟨.arr 8 5, 8, 8, 68⟩,
  ⟨.sl 5, 1, 24, 69⟩,
  ⟨.st [(9, 0), (27, 1)], 2, 24, 70⟩,
  ⟨.st [(9, 0), (27, 1)], 2, 24, 70⟩,
  ⟨.fn, 1, 8, 72⟩,
  ⟨.fn, 1, 8, 73⟩,
  ⟨.fn, 1, 8, 74⟩,
  ⟨.fn, 1, 8, 75⟩,
  ⟨.fn, 1, 8, 76⟩,
  ⟨.fn, 1, 8, 77⟩,
  ⟨.other, 1, 0, 78⟩,
  ⟨.fn, 1, 8, 79⟩,
  ⟨.int .u64, 1, 8, 80⟩,
  ⟨.fn, 1, 8, 81⟩,
  ⟨.fn, 1, 8, 82⟩,
  ⟨.ptr 85, 1, 8, 83⟩,
  ⟨.st [(83, 0), (69, 1)], 2, 32, 84⟩,
  ⟨.st [(83, 0), (69, 1)], 2, 32, 84⟩,
  ⟨.ifc, 1, 16, 86⟩,
  ⟨.ifc, 1, 16, 86⟩,
  ⟨.fn, 1, 8, 88⟩,
  ⟨.other, 1, 0, 89⟩,
  ⟨.fn, 1, 8, 90⟩,
  ⟨.fn, 1, 8, 91⟩,
  ⟨.arr 8 22, 8, 32, 92⟩,
  ⟨.st [(92, 0), (9, 8), (45, 9)], 10, 56, 93⟩,
  ⟨.st [(92, 0), (9, 8), (45, 9)], 10, 56, 93⟩,
  ⟨.fn, 1, 8, 95⟩,
  ⟨.fn, 1, 8, 96⟩,
  ⟨.fn, 1, 8, 97⟩,
  ⟨.other, 1, 0, 98⟩,
  ⟨.mp 37 9, 1, 8, 99⟩,
  ⟨.mp 9 4, 1, 8, 100⟩,
  ⟨.st [(99, 0), (100, 1)], 2, 16, 101⟩,
  ⟨.st [(99, 0), (100, 1)], 2, 16, 101⟩,
  ⟨.other, 1, 0, 103⟩,
  ⟨.fn, 1, 8, 104⟩,
  ⟨.fn, 1, 8, 105⟩,
  ⟨.fn, 1, 8, 106⟩,
  ⟨.fn, 1, 8, 107⟩,
  ⟨.ptr 5, 1, 8, 108⟩,
  ⟨.fn, 1, 8, 109⟩,
  ⟨.fn, 1, 8, 110⟩,
  ⟨.fn, 1, 8, 111⟩,
  ⟨.other, 1, 8, 112⟩,
  ⟨.fn, 1, 8, 113⟩,
  ⟨.arr 64 22, 64, 256, 114⟩,
  ⟨.fn, 1, 8, 115⟩,
  ⟨.fn, 1, 8, 116⟩,
  ⟨.sl 22, 1, 24, 117⟩,
  ⟨.other, 1, 0, 118⟩,
  ⟨.fn, 1, 8, 119⟩,
  ⟨.fn, 1, 8, 120⟩,
  ⟨.fn, 1, 8, 121⟩,
  ⟨.fn, 1, 8, 122⟩,
  ⟨.other, 1, 0, 123⟩,
  ⟨.fn, 1, 8, 124⟩,
  ⟨.other, 1, 0, 125⟩,
  ⟨.fn, 1, 8, 126⟩,
  ⟨.fn, 1, 8, 127⟩,
  ⟨.st [(17, 0), (17, 1), (17, 2), (9, 3)], 4, 40, 128⟩,
  ⟨.st [(17, 0), (17, 1), (17, 2), (9, 3)], 4, 40, 128⟩,
  ⟨.arr 0 16, 0, 0, 130⟩,
  ⟨.st [(130, 0)], 0, 0, 131⟩,
  ⟨.st [(130, 0)], 0, 0, 131⟩,
  ⟨.int .u8, 1, 1, 5⟩,
  ⟨.int .u8, 1, 1, 5⟩,
  ⟨.fn, 1, 8, 135⟩,
  ⟨.int .i32, 1, 4, 21⟩,
  ⟨.int .i32, 1, 4, 21⟩,
  ⟨.st [(12, 0), (12, 1), (22, 2), (133, 3), (5, 4), (5, 5), (134, 6), (135, 7), (108, 8), (136, 9), (137, 10)], 11, 48, 138⟩,
  ⟨.st [(12, 0), (12, 1), (22, 2), (133, 3), (5, 4), (5, 5), (134, 6), (135, 7), (108, 8), (136, 9), (137, 10)], 11, 48, 138⟩,
  ⟨.fn, 1, 8, 140⟩], [(1, 114, .agg (kL.map E.int)), (0, 92, .agg (fL.map E.int))]⟩

theorem tabOk : TabOk Tryd.prog tb := ⟨by kernel_rfl, by kernel_rfl, by kernel_rfl, by kernel_rfl⟩
theorem zeroOk : ZeroOk Tryd.prog tb := by unfold ZeroOk; kernel_rfl
theorem ok (k n : Nat) : Ok ⟨Tryd.prog, tb, k, n, 4⟩ := ⟨tabOk, zeroOk, rfl⟩
theorem mixed : Tryd.prog.follows .mixedOrders = true := by kernel_rfl
theorem eqs : eqTys Tryd.prog tb [24, 37, 92] := by unfold eqTys; kernel_rfl
theorem w64 {a : Int} (h1 : -9223372036854775808 ≤ a) (h2 : a ≤ 9223372036854775807) : IntKind.wrap .i64 a = a := inR_wrap (by simp [inR]; omega)
theorem wk1 {k0 : Nat} {env' env : Env} {σ σ' : List Blk} (hs : σ = σ') (h0 : Nat.ble k0 σ'.length = true) (hb : ∀ k ∈ σ', k.under σ'.length = true) (h : leL σ'.length env' env) : Weak k0 env' σ' env σ := by
  subst hs; exact wk0 h0 hb h
theorem wkc {k0 : Nat} {env' env : Env} {σ σ' : List Blk} (τ : List Blk) (hs : σ = σ' ++ τ) (h0 : Nat.ble k0 σ'.length = true) (hb : ∀ k ∈ σ', k.under σ'.length = true) (h : leL σ'.length env' env) : Weak k0 env' σ' env σ :=
  ⟨⟨τ, hs⟩, Nat.le_of_ble_eq_true h0, hb, h⟩
end Go.Den.Q9d
