/- Equality of data: numbers, truths, texts, arrays and structs of them. -/
import Derived.Test.YtgdfegmdjdnbdaaDenMrow5
import Derived.ChangeKeysEq
import Derived.Laws.StructEq
namespace Go.Den
open Go
set_option linter.unusedSectionVars false
set_option linter.unusedSimpArgs false
set_option linter.unusedVariables false

mutual
def eqE : E → E → Bool
  | .int a, .int b => decide (a = b)
  | .bool a, .bool b => a == b
  | .str a, .str b => decide (a = b)
  | .agg xs, .agg ys => eqEs xs ys
  | _, _ => false
def eqEs : List E → List E → Bool
  | [], [] => true
  | x :: xs, y :: ys => eqE x y && eqEs xs ys
  | _, _ => false
end

/-- A type whose values are compared part by part. -/
def eqTy (P : Program) (tb : Tab) : Nat → TypeId → Bool
  | 0, _ => false
  | n + 1, t => match td tb t with
    | .int _ | .bool | .str => true
    | .arr _ u => eqTy P tb n u
    | .st fs => (!P.stoodInHeld t) && (match P.underlying t with
      | some (.struct gs) => gs.toList.all fun f => f.name != "_"
      | _ => false) && fs.all fun f => eqTy P tb n f.1
    | _ => false
def eqTys (P : Program) (tb : Tab) (l : List TypeId) : Prop := l.all (fun t => eqTy P tb 12 t && !P.eqGuardType P.depth t) = true

theorem eqEs_app : ∀ {a b c d : List E}, a.length = b.length → eqEs (a ++ c) (b ++ d) = (eqEs a b && eqEs c d)
  | [], [], c, d, _ => by simp [eqEs]
  | x :: a, y :: b, c, d, h => by
    simp only [List.cons_append, eqEs]
    rw [eqEs_app (by simpa using h), Bool.and_assoc]
  | [], _ :: _, _, _, h => by simp at h
  | _ :: _, [], _, _, h => by simp at h

section
variable {P : Program} {tb : Tab} (hT : TabOk P tb)
include hT

theorem run_part' {t : TypeId} {cs : List Value} {off : Nat} (ht : td tb t ≠ .other) (hl : off + sz tb t ≤ cs.length) :
    ∃ v, (∀ w, (part t cs.toArray off).run P w = .ok v w) ∧ VC tb t v (seg cs off (sz tb t)) := by
  have hlt := hT.lt_of_td ht
  simp only [part, Sem.run_bind, run_isAgg_of hT ht, Result.andThen]
  cases ha : isAggT tb t with
  | true =>
    refine ⟨.agg (seg cs off (sz tb t)).toArray, fun w => ?_, by simp [VC, ha]⟩
    simp only [if_true, Sem.run_bind, run_sizeOf_of hT hlt, Result.andThen]
    simp [seg, List.extract_eq_take_drop]
  | false =>
    have h1 := hT.sz_one ha ht
    rw [h1] at hl ⊢
    have hg : cs[off]? = some cs[off] := List.getElem?_eq_getElem (by omega)
    refine ⟨cs[off], fun w => by simp [hg], ?_⟩
    simp only [VC, ha]
    unfold seg
    rw [List.take_one, List.head?_drop, hg]; rfl

theorem equalIn_ok {H : Gh} : ∀ (n d : Nat) (t : TypeId), eqTy P tb n t = true → n ≤ d → ∀ (cs ds : List Value) (x y : E) (v v' : Value) (w : World), Rd tb H t cs x → Rd tb H t ds y → VC tb t v cs → VC tb t v' ds →
    (Op.equalIn d t v v').run P w = .ok (eqE x y) w
  | 0, _, _, h, _, _, _, _, _, _, _, _, _, _, _, _ => by simp [eqTy] at h
  | n + 1, 0, _, _, h, _, _, _, _, _, _, _, _, _, _, _ => by omega
  | n + 1, d + 1, t, h, hd, cs, ds, x, y, v, v', w, hx, hy, hv, hv' => by
    unfold eqTy at h
    cases ht : td tb t with
    | int k =>
      cases hx with
      | @int _ k1 n1 a1 b1 =>
        rw [ht] at a1; cases a1
        cases hy with
        | @int _ k2 n2 a2 b2 =>
          rw [ht] at a2; cases a2
          simp [VC, isAggT, ht] at hv hv'
          subst hv; subst hv'
          simp [Op.equalIn, run_underlying_of hT (hT.int ht), eqE]
          by_cases e : n1 = n2 <;> simp [e]
        | _ a => rw [ht] at a; cases a
      | _ a => rw [ht] at a; cases a
    | bool =>
      cases hx with
      | @bool _ n1 a1 =>
        cases hy with
        | @bool _ n2 a2 =>
          simp [VC, isAggT, ht] at hv hv'
          subst hv; subst hv'
          simp [Op.equalIn, run_underlying_of hT (hT.bool ht), eqE]
        | _ a => rw [ht] at a; cases a
      | _ a => rw [ht] at a; cases a
    | str =>
      cases hx with
      | @str _ n1 a1 b1 =>
        cases hy with
        | @str _ n2 a2 b2 =>
          simp [VC, isAggT, ht] at hv hv'
          subst hv; subst hv'
          rw [show sv n1 = .string ⟨⟨n1⟩⟩ from rfl, show sv n2 = .string ⟨⟨n2⟩⟩ from rfl, run_equalIn_string w d t _ _ (hT.str ht), toList_mk, toList_mk]
          simp only [eqE]
          by_cases e : n1 = n2 <;> simp [e]
        | _ a => rw [ht] at a; cases a
      | _ a => rw [ht] at a; cases a
    | arr m u =>
      rw [ht] at h; simp only at h
      cases hx with
      | @arr _ _ _ _ xs a1 a2 a3 a4 =>
        rw [ht] at a1; cases a1
        cases hy with
        | @arr _ _ _ _ ys b1 b2 b3 b4 =>
          rw [ht] at b1; cases b1
          simp [VC, isAggT, ht] at hv hv'
          subst hv; subst hv'
          have hu : td tb u ≠ .other := fun e => by
            cases n with
            | zero => simp [eqTy] at h
            | succ n => unfold eqTy at h; rw [e] at h; simp at h
          have hlt := hT.lt_of_td hu
          have each : ∀ i, i < m → ∃ v1 v2, (part u cs.toArray (i * sz tb u)).run P w = .ok v1 w ∧ (part u ds.toArray (i * sz tb u)).run P w = .ok v2 w ∧
              (Op.equalIn d u v1 v2).run P w = .ok (eqE (xs.getD i .nilp) (ys.getD i .nilp)) w := fun i hi => by
            have hle : i * sz tb u + sz tb u ≤ m * sz tb u := by
              have := Nat.mul_le_mul_right (sz tb u) (show i + 1 ≤ m from hi); rwa [Nat.add_mul, Nat.one_mul] at this
            obtain ⟨v1, h1, h1'⟩ := run_part' hT (cs := cs) hu (by omega : i * sz tb u + sz tb u ≤ cs.length)
            obtain ⟨v2, h2, h2'⟩ := run_part' hT (cs := ds) hu (by omega : i * sz tb u + sz tb u ≤ ds.length)
            refine ⟨v1, v2, h1 w, h2 w, ?_⟩
            have hxi : xs[i]? = some (xs.getD i .nilp) := by rw [List.getD_eq_getElem?_getD, List.getElem?_eq_getElem (by omega)]; rfl
            have hyi : ys[i]? = some (ys.getD i .nilp) := by rw [List.getD_eq_getElem?_getD, List.getElem?_eq_getElem (by omega)]; rfl
            exact equalIn_ok n d u h (by omega) _ _ _ _ v1 v2 w (a4 i _ hxi) (b4 i _ hyi) h1' h2'
          obtain ⟨inf, hi, hsz, _⟩ := hT.info hlt
          have hco : P.cellsOf u = sz tb u := by simp [Program.cellsOf, hi, hsz]
          rw [run_equalIn_array w d _ _ (hT.arr ht) hi, hco]
          have key : ∀ k j, j + k = m → (Op.eqItems d u (sz tb u) cs.toArray ds.toArray (List.range' j k)).run P w = .ok (eqEs (xs.drop j) (ys.drop j)) w := by
            intro k
            induction k with
            | zero =>
              intro j hj
              rw [List.drop_eq_nil_of_le (by omega), List.drop_eq_nil_of_le (by omega)]
              simp [Op.eqItems, eqEs]
            | succ k ih =>
              intro j hj
              obtain ⟨v1, v2, h1, h2, h3⟩ := each j (by omega)
              have e1 : xs.drop j = xs.getD j .nilp :: xs.drop (j + 1) := by
                rw [List.drop_eq_getElem_cons (by omega), List.getD_eq_getElem?_getD, List.getElem?_eq_getElem (by omega)]; rfl
              have e2 : ys.drop j = ys.getD j .nilp :: ys.drop (j + 1) := by
                rw [List.drop_eq_getElem_cons (by omega), List.getD_eq_getElem?_getD, List.getElem?_eq_getElem (by omega)]; rfl
              rw [List.range'_succ]
              simp only [Op.eqItems, Sem.run_bind, h1, h2, h3, Result.andThen_ok]
              rw [e1, e2, eqEs]
              cases hq : eqE (xs.getD j .nilp) (ys.getD j .nilp) with
              | false => simp
              | true => simp [ih (j + 1) (by omega)]
          have := key m 0 (by omega)
          rw [List.range_eq_range']
          simpa [eqE] using this
        | st a => rw [ht] at a; cases a
        | _ a => rw [ht] at a; cases a
      | _ a => rw [ht] at a; cases a
    | st fs =>
      rw [ht] at h; simp only [Bool.and_eq_true, Bool.not_eq_true'] at h
      obtain ⟨⟨hstood, hnames⟩, hall⟩ := h
      obtain ⟨gs, hg, hgf⟩ := hT.st ht
      rw [hg] at hnames
      cases hx with
      | @st _ _ _ xs a1 a2 a3 a4 =>
        rw [ht] at a1; cases a1
        cases hy with
        | @st _ _ _ ys b1 b2 b3 b4 =>
          rw [ht] at b1; cases b1
          simp [VC, isAggT, ht] at hv hv'
          subst hv; subst hv'
          have hfo : P.fieldsOf t = gs := by simp [Program.fieldsOf, hg]
          have hspec := (fieldsEnd_spec (hT.sz_st ht)).2
          rw [run_equalIn_struct w d t _ _ (by rw [hfo]; exact hg) hstood, hfo]
          have hgl : gs.toList.length = fs.length := by rw [← hgf]; simp
          have each : ∀ i (f : Field), gs.toList[i]? = some f → ∃ v1 v2, (part f.type cs.toArray f.offset).run P w = .ok v1 w ∧ (part f.type ds.toArray f.offset).run P w = .ok v2 w ∧
              (Op.equalIn d f.type v1 v2).run P w = .ok (eqE (xs.getD i .nilp) (ys.getD i .nilp)) w ∧ f.name ≠ "_" := fun i f hf => by
            have hfi : fs[i]? = some (f.type, f.offset) := by rw [← hgf, List.getElem?_map, hf]; rfl
            have hil := (List.getElem?_eq_some_iff.1 hfi).1
            have hle := (hspec i _ hfi).2.1
            have hty := List.all_eq_true.1 hall _ (List.mem_of_getElem? hfi)
            have hu : td tb f.type ≠ .other := fun e => by
              cases n with
              | zero => simp [eqTy] at hty
              | succ n => unfold eqTy at hty; rw [e] at hty; simp at hty
            obtain ⟨v1, h1, h1'⟩ := run_part' hT (cs := cs) hu (by simp only at hle; omega : f.offset + sz tb f.type ≤ cs.length)
            obtain ⟨v2, h2, h2'⟩ := run_part' hT (cs := ds) hu (by simp only at hle; omega : f.offset + sz tb f.type ≤ ds.length)
            have hxi : xs[i]? = some (xs.getD i .nilp) := by rw [List.getD_eq_getElem?_getD, List.getElem?_eq_getElem (by omega)]; rfl
            have hyi : ys[i]? = some (ys.getD i .nilp) := by rw [List.getD_eq_getElem?_getD, List.getElem?_eq_getElem (by omega)]; rfl
            refine ⟨v1, v2, h1 w, h2 w, equalIn_ok n d f.type hty (by omega) _ _ _ _ v1 v2 w (a4 i _ _ hfi hxi) (b4 i _ _ hfi hyi) h1' h2', ?_⟩
            have := List.all_eq_true.1 hnames f (List.mem_of_getElem? hf)
            simpa using this
          have key : ∀ k j, j + k = fs.length → (Op.eqFields d cs.toArray ds.toArray (gs.toList.drop j)).run P w = .ok (eqEs (xs.drop j) (ys.drop j)) w := by
            intro k
            induction k with
            | zero =>
              intro j hj
              rw [List.drop_eq_nil_of_le (by omega), List.drop_eq_nil_of_le (by omega), List.drop_eq_nil_of_le (by omega)]
              simp [Op.eqFields, eqEs]
            | succ k ih =>
              intro j hj
              have hjg : j < gs.toList.length := by omega
              obtain ⟨v1, v2, h1, h2, h3, h4⟩ := each j _ (List.getElem?_eq_getElem hjg)
              have e1 : xs.drop j = xs.getD j .nilp :: xs.drop (j + 1) := by
                rw [List.drop_eq_getElem_cons (by omega), List.getD_eq_getElem?_getD, List.getElem?_eq_getElem (by omega)]; rfl
              have e2 : ys.drop j = ys.getD j .nilp :: ys.drop (j + 1) := by
                rw [List.drop_eq_getElem_cons (by omega), List.getD_eq_getElem?_getD, List.getElem?_eq_getElem (by omega)]; rfl
              rw [List.drop_eq_getElem_cons hjg]
              simp only [Op.eqFields, Sem.run_ite, Sem.run_bind, if_pos h4, h1, h2, h3, Result.andThen_ok]
              rw [e1, e2, eqEs]
              cases hq : eqE (xs.getD j .nilp) (ys.getD j .nilp) with
              | false => simp
              | true => simp [ih (j + 1) (by omega)]
          have := key fs.length 0 (by omega)
          simpa [eqE] using this
        | arr a => rw [ht] at a; cases a
        | _ a => rw [ht] at a; cases a
      | arr a => rw [ht] at a; cases a
      | _ a => rw [ht] at a; cases a
    | _ => rw [ht] at h; simp at h
end
end Go.Den
namespace Go.Den
open Go
section
variable {C : Cx} (hC : Ok C) {o : Oper} {env : Env} {σ : List Blk}
include hC
theorem Ok_eqA {op : BinOp} {xt yt : TypeId} {x y : Operand} {dx dy : D} {a b : E} {tx ty : TypeId} (ho : o.op = .binOp op xt x y yt) (hop : op = .eql ∨ op = .neq) (ht : eqTy C.P C.tb 12 xt = true) (hg : C.P.eqGuardType C.P.depth xt = false) (hag : isAggT C.tb xt = true)
    (hx : opd C.tb env xt x = some dx) (hy : opd C.tb env xt y = some dy) (ha : dx = .t tx (.e a)) (hb : dy = .t ty (.e b)) (hsx : same C.tb tx xt = true) (hsy : same C.tb ty xt = true) :
    OpOk C o env σ ⟨True, .t C.bt (.e (.bool (if op = .eql then eqE a b else !(eqE a b)))), σ⟩ :=
  OpOk_val fun H β ac w hr he => by
    have h1 := opd_rel he hx
    have h2 := opd_rel he hy
    rw [ha] at h1
    rw [hb] at h2
    generalize hvx : ac.eval x = vx at h1
    generalize hvy : ac.eval y = vy at h2
    cases h1 with
    | @t _ v1 cs1 _ c1 d1 =>
      cases h2 with
      | @t _ v2 cs2 _ c2 d2 =>
        have r1 := d1.rd.cast hC.tab (same_td hsx)
        have r2 := d2.rd.cast hC.tab (same_td hsy)
        have g1 : VC C.tb xt vx cs1 := by unfold VC at c1 ⊢; rwa [isAggT_of (same_td hsx)] at c1
        have g2 : VC C.tb xt vy cs2 := by unfold VC at c2 ⊢; rwa [isAggT_of (same_td hsy)] at c2
        have e1 : ac.eval x = .agg cs1.toArray := by rw [hvx]; simpa [VC, hag] using g1
        have e2 : ac.eval y = .agg cs2.toArray := by rw [hvy]; simpa [VC, hag] using g2
        refine ⟨.bool (if op = .eql then eqE a b else !(eqE a b)), fun w' hw' => ?_, .mkBool hC.bt⟩
        have hq := equalIn_ok hC.tab (H := H) 12 10000 xt ht (by omega) cs1 cs2 a b _ _ w' r1 r2 g1 g2
        rw [← hvx, ← hvy, e1, e2] at hq
        have hgd := run_eqGuard_agg (P := C.P) w' op xt x y cs1.toArray cs2.toArray hg
        rcases hop with rfl | rfl
        · simp [execOp, ho, e1, e2, hgd, run_eql_struct, hq]
        · simp [execOp, ho, e1, e2, hgd, run_neq_struct, hq]
end
end Go.Den
