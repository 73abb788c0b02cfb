/- The calculus and the walks, part 7: DenTsl, Q15O, Q15Q. -/
import Derived.Test.YtmfdaecbpgpjiaaP6
import Derived.Test.YtmfdaecbpgpjiaaP4
/- Lists whose elements are the function's own slices: made, told of, read. -/
namespace Go.Den
open Go
set_option linter.unusedSectionVars false
set_option linter.unusedSimpArgs false
set_option linter.unusedVariables false

def argT (tb : Tab) (env : Env) (t : TypeId) (x : Operand) : Option T := match opd tb env t x with
  | some d => asT tb t d
  | none => none
/-- The elements of a literal, all of them there and in order, own ones too. -/
def denseT (tb : Tab) (env : Env) (u : TypeId) : Nat → List (Nat × Operand) → Option (List T)
  | _, [] => some []
  | k, (i, x) :: ps => match Nat.beq i k with
    | true => match argT tb env u x with
      | some y => match denseT tb env u (k + 1) ps with
        | some ys => some (y :: ys)
        | none => none
      | none => none
    | false => none

structure RowT (tb : Tab) (H : Gh) (β : List Value) (σ : List Blk) (u : TypeId) (cs : List Value) (xs : List T) : Prop where
  len : cs.length = xs.length * sz tb u
  el : ∀ (i : Nat) (x : T), xs[i]? = some x → TRel tb H β σ u (seg cs (i * sz tb u) (sz tb u)) x

section
variable {C : Cx} (hC : Ok C) {o : Oper} {env : Env} {σ : List Blk}
include hC
theorem argT_rel {H β n a} (he : EnvRel C.tb H β σ n a env) {t x y} (h : argT C.tb env t x = some y) : ∃ cs, VC C.tb t (a.eval x) cs ∧ TRel C.tb H β σ t cs y := by
  unfold argT at h
  split at h
  · rename_i d hd; exact asT_rel hC (opd_rel he hd) h
  · cases h

theorem fill_denseT {H β a n} (he : EnvRel C.tb H β σ n a env) {u : TypeId} : ∀ (ps : List (Nat × Operand)) (ys : List T) (k : Nat) (done rest : List Value), denseT C.tb env u k ps = some ys → done.length = k * sz C.tb u → rest.length = ys.length * sz C.tb u →
    ∃ cs, Instr.fill (fun i => some (i * sz C.tb u, sz C.tb u)) (done ++ rest).toArray (ps.map fun p => (p.1, a.eval p.2)) = some (done ++ cs).toArray ∧ RowT C.tb H β σ u cs ys
  | [], ys, k, done, rest, h, h1, h2 => by
    simp [denseT] at h; subst h
    have : rest = [] := List.length_eq_zero_iff.1 (by simpa using h2)
    subst this
    exact ⟨[], rfl, ⟨by simp, fun i x hx => by simp at hx⟩⟩
  | (i, x) :: ps, ys, k, done, rest, h, h1, h2 => by
    unfold denseT at h
    split at h
    · rename_i hik
      have hik := Nat.eq_of_beq_eq_true hik
      subst hik
      split at h
      · rename_i y hy
        split at h
        · rename_i zs hzs
          cases h
          obtain ⟨vs, hvc, hrd⟩ := argT_rel hC he hy
          have hvl := hrd.len hC.tab
          have hrl : rest.length = (zs.length + 1) * sz C.tb u := by simpa using h2
          rw [Nat.add_mul, Nat.one_mul] at hrl
          have hf := fill_one (place := fun i => some (i * sz C.tb u, sz C.tb u)) (cs := done ++ rest) (v := a.eval x) (rest := ps.map fun p => (p.1, a.eval p.2)) (i := i) rfl (hvc.cells hrd hC.tab) hvl (by simp; omega)
          have hsp : splice (done ++ rest) (i * sz C.tb u) vs = (done ++ vs) ++ rest.drop vs.length := by
            unfold splice
            rw [← h1, List.take_left, ← List.drop_drop, List.drop_left]
          obtain ⟨cs, k1, k2⟩ := fill_denseT he ps zs (i + 1) (done ++ vs) (rest.drop vs.length) hzs (by simp [h1, hvl, Nat.add_mul]) (by simp; omega)
          refine ⟨vs ++ cs, ?_, ?_, ?_⟩
          · rw [List.map_cons, hf, hsp, k1]; simp
          · simp [hvl, k2.len, Nat.add_mul]; omega
          · intro j z hz
            cases j with
            | zero =>
              simp at hz; subst hz
              have : seg (vs ++ cs) (0 * sz C.tb u) (sz C.tb u) = vs := by simp [seg, ← hvl]
              rw [this]; exact hrd
            | succ j =>
              have := k2.el j z (by simpa using hz)
              have e : seg (vs ++ cs) ((j + 1) * sz C.tb u) (sz C.tb u) = seg cs (j * sz C.tb u) (sz C.tb u) := by
                unfold seg
                rw [Nat.add_mul, Nat.one_mul, Nat.add_comm, ← hvl, ← List.drop_drop, List.drop_left]
              rw [e]; exact this
        · cases h
      · cases h
    · cases h

theorem OpV_buildTsl {t u : TypeId} {len : Nat} {ps : Array (Nat × Operand)} {ys : List T} (ho : o.op = .buildSlice t len ps) (ht : td C.tb t = .sl u) (hz : plain C.tb zf u = true)
    (hys : denseT C.tb env u 0 ps.toList = some ys) (hl : ys.length = len) (hb : len * sz C.tb u ≤ 16777216) (hlm : len ≤ maxN) : OpV C o env σ (fun d s => d = .t t (.tsl ys) ∧ s = σ) := by
  intro H β a w hr he hd K Qx hK
  have hu := plain_ne hz
  have hlt := hC.tab.lt_of_td hu
  obtain ⟨z, hzr, hzc⟩ := hC.zero.get hC.tab hz w
  have hmap : (ps.map fun (i, x) => (i, a.eval x)).toList = ps.toList.map fun p => (p.1, a.eval p.2) := by simp
  have key : ∀ Z : Array Value, Z.size = len * sz C.tb u → ∃ cs, Instr.fill (fun i => some (i * sz C.tb u, sz C.tb u)) Z (ps.map fun (i, x) => (i, a.eval x)).toList = some cs.toArray ∧ RowT C.tb H β σ u cs ys := fun Z hZ => by
    obtain ⟨cs, k1, k2⟩ := fill_denseT hC he ps.toList ys 0 [] Z.toList hys (by simp) (by rw [hl]; simpa using hZ)
    exact ⟨cs, by rw [hmap]; simpa using k1, k2⟩
  have hnb : ¬ (len * sz C.tb u > 2 ^ 24) := by omega
  have hrun : ∃ cs, RowT C.tb H β σ u cs ys ∧ (execOp a.eval o).run C.P w = .ok (.value (.slice (some ⟨w.heap.size, 0, none⟩) len len)) (w.alloc (.cells cs.toArray u)) := by
    simp only [execOp, ho, Instr.buildSlice, Sem.run_bind, run_underlying_of hC.tab (hC.tab.sl ht), Result.andThen, run_sizeOf_of hC.tab hlt, if_neg hnb, Sem.run_pure]
    by_cases h0 : len * sz C.tb u = 0
    · obtain ⟨cs, k1, k2⟩ := key #[] (by simp [h0])
      refine ⟨cs, k2, ?_⟩
      have h00 : Array.range 0 = #[] := rfl
      simp only [h0, if_true, Sem.run_pure, h00, Array.map_empty, k1]
      simp [newRow]
    · obtain ⟨cs, k1, k2⟩ := key ((Array.range (len * sz C.tb u)).map fun j => z.cells[j % z.cells.size]!) (by simp)
      refine ⟨cs, k2, ?_⟩
      simp only [if_neg h0, Sem.run_bind, hzr, Result.andThen, Sem.run_pure, k1]
      simp [newRow]
  obtain ⟨cs, k2, hrun⟩ := hrun
  let f : Nat → Own := fun o => if o < cs.length then .pers (cs.getD o undef) else .none
  have r := hr.alloc (.cells cs.toArray u) f [] [] rfl (fun o v hv => by
      have hv' : (if o < cs.length then Own.pers (cs.getD o undef) else .none) = .pers v := hv
      split at hv'
      · rename_i h; cases hv'
        rw [World.cell?_alloc_new]; simp only [List.getElem?_toArray, List.getD, List.getElem?_eq_getElem h, Option.getD_some]
      · cases hv') (fun i k bv hk => by simp at hk)
  simp only [List.append_nil] at r
  simp only [Oper.wp, hrun, Oper.upon]
  refine hK _ _ _ _ β σ ⟨rfl, rfl⟩ r.1 ?_ (Stp.alloc hr.dom _ _) r.2
  have hnag : isAggT C.tb t = false := by simp [isAggT, ht]
  refine .t (cs := [.slice (some ⟨w.heap.size, 0, none⟩) len len]) (by simp [VC, hnag]) ?_
  rw [← hl]
  refine .tsl (cs := cs) ht k2.len (fun j v hj => ?_) (fun i x hx => (k2.el i x hx).mono r.2) (by rw [hl]; exact hlm)
  have hjl := (List.getElem?_eq_some_iff.1 hj).1
  rw [Nat.zero_add, hAlloc_new]
  show (if j < cs.length then Own.pers (cs.getD j undef) else .none) = _
  rw [if_pos hjl]; simp [List.getD, hj]

theorem OpV_indexTsl {t s : Nat} {ty u : TypeId} {xs : List T} {ix : Operand} {iv : Int} (ho : o.op = .indexAddr t (.tmp s) ix) (hs : getD env s = .t ty (.tsl xs))
    (ht : td C.tb t = .sl u) (hsame : same C.tb ty t = true) (hz : sz C.tb u ≠ 0) (hx : opdN env ix = some iv) (h0 : 0 ≤ iv) (h1 : iv < xs.length) : OpV C o env σ (fun d s => d = .tel u xs iv.toNat ∧ s = σ) :=
  OpOk.v (r := ⟨True, .tel u xs iv.toNat, σ⟩) (OpOk_val fun H β a w hr he => by
    have hv := he.get s
    rw [hs] at hv
    obtain ⟨k, hk⟩ := opdN_rel he hx
    generalize hvx : a.tmps.getD s undef = vx at hv
    cases hv with
    | @t ty v cs z aa bb => cases bb with
      | @tsl t0 u0 b off cs' xs' b1 b2 b3 b4 b5 =>
        have a' := aa
        simp [VC, isAggT, b1] at a'
        subst a'
        rw [same_td hsame, ht] at b1; cases b1
        have hve : a.eval (.tmp s) = .slice (some ⟨b, off, none⟩) xs.length xs.length := hvx
        refine ⟨.pointer (some ⟨b, off + iv.toNat * sz C.tb u, none⟩), fun w' hw' => ?_, .tel b2 b3 b4 (by omega)⟩
        simp [execOp, ho, hve, hk, Instr.indexAt, asIntOf, run_underlying_of hC.tab (hC.tab.sl ht), h0, h1, run_sizeOf_of hC.tab (lt_of_sz hC hz), add_plain])

theorem OpV_loadTel {t : TypeId} {s j : Nat} {u : TypeId} {xs : List T} {x : T} (ho : o.op = .load t (.tmp s)) (hs : getD env s = .tel u xs j) (hx : xs[j]? = some x) (ht : same C.tb u t = true) : OpV C o env σ (fun d s => d = ldD t x ∧ s = σ) :=
  OpOk.v (r := ⟨True, ldD t x, σ⟩) (OpOk_val fun H β a w hr he => by
    have hv := he.get s
    rw [hs] at hv
    generalize hvx : a.tmps.getD s undef = vx at hv
    cases hv with
    | @tel u b off cs xs j h1 h2 h3 h4 =>
      have ht' := same_td ht
      have hpart := (h3 j x hx).cast hC.tab ht'
      have hin : j * sz C.tb u + sz C.tb u ≤ cs.length := by
        rw [h1]; have := Nat.mul_le_mul_right (sz C.tb u) (show j + 1 ≤ xs.length from h4); rwa [Nat.add_mul, Nat.one_mul] at this
      obtain ⟨v, hrun, hvc⟩ := run_loadVar_all hC.tab (P := C.P) (b := b) (o := off + j * sz C.tb u) (hpart.len hC.tab) hpart.td_ne
      refine ⟨v, fun w' hw' => ?_, ldD_rel hvc hpart⟩
      have hrun := hrun w' (fun i v hi => by
        have hil : i < sz C.tb u := by
          rcases Nat.lt_or_ge i (sz C.tb u) with h | h
          · exact h
          · rw [List.getElem?_eq_none (by simp [seg]; omega)] at hi; cases hi
        rw [seg_get hil] at hi
        have := hw' _ _ _ (hr.pers _ _ _ (h2 _ v hi)) (.inl ⟨_, h2 _ v hi⟩)
        rwa [← Nat.add_assoc] at this)
      simp [execOp, ho, Act.eval, hvx, Instr.loadAt, Instr.sureAddr, hrun])
end

/-- A new empty row, with an address. -/
theorem Rel.addM' {tb H β σ w} (h : Rel tb H β σ w) (u : TypeId) (a : Option (Nat × Nat)) (hu : td tb u ≠ .int .u8) : Rel tb H (β ++ [.slice (a.map fun p => ⟨p.1, p.2, none⟩) 0 0]) (σ ++ [.mrow u true []]) w ∧ Ev H β σ H (β ++ [.slice (a.map fun p => ⟨p.1, p.2, none⟩) 0 0]) (σ ++ [.mrow u true []]) := by
  have hl := h.len
  have hev : Ev H β σ H (β ++ [.slice (a.map fun p => ⟨p.1, p.2, none⟩) 0 0]) (σ ++ [.mrow u true []]) := Ev.app hl fun _ _ _ e => e
  refine ⟨⟨h.pers, h.dom, by simp [hl], fun i k bv hk hv => ?_⟩, hev⟩
  rcases Nat.lt_or_ge i σ.length with hi | hi
  · rw [List.getElem?_append_left hi] at hk
    rw [List.getElem?_append_left (by omega)] at hv
    exact (h.blk i k bv hk hv).mono hev (fun b o e => ⟨e, rfl, fun _ _ => rfl, rfl⟩) (fun b x _ _ e => e)
  · have : i = σ.length := by have := (List.getElem?_eq_some_iff.1 hk).1; simp at this; omega
    subst this
    rw [List.getElem?_append_right (Nat.le_refl _)] at hk
    rw [List.getElem?_append_right (by omega)] at hv
    simp [hl] at hk hv
    subst hk; subst hv
    exact .inl ⟨a, rfl, rfl, fun e => absurd e hu⟩

section
variable {C : Cx} {env : Env} {σ : List Blk} {Q : Post} {o : Oper}
/-- An append to an empty literal, of nothing or of something: a row that is written to afterwards. -/
theorem OpV_appendNewM0 (hC : Ok C) {x y : Operand} {t t2 u tx : TypeId} {ys : List E} (ho : o.op = .call { callee := .builtin .append, args := #[x, y], argTypes := #[t, t2] }) (ht : td C.tb t = .sl u) (hz : plain C.tb zf u = true) (hs0 : Nat.beq (sz C.tb u) 0 = false) (hu8 : td C.tb u ≠ .int .u8)
    (hx : opd C.tb env t x = some (.t tx (.bsl []))) (hys : SrcAt C env σ t t2 y ys) (hp : ys.length * nb C.tb u ≤ maxL ∧ ys.length ≤ maxL) :
    OpV C o env σ (fun d s => d = .t t (.msl σ.length ys.length) ∧ s = σ ++ [.mrow u true ys]) := by
  rcases Nat.eq_zero_or_pos ys.length with h0 | hpos
  rotate_left
  · exact OpV_appendNewM hC ho ht hz hs0 hx hys hpos hp
  have hnil : ys = [] := List.length_eq_zero_iff.1 h0
  subst hnil
  intro H β a w hr he hd K Qx hK
  have hvx := opd_rel he hx
  obtain ⟨h2, hlx, news, hnr, hnew⟩ := hys H β a w u ht hr he
  have hv0 : ∃ b off, a.eval x = .slice (some ⟨b, off, none⟩) 0 0 := by
    generalize a.eval x = vx at hvx ⊢
    cases hvx with
    | @t ty v cs z aa bb => cases bb with
      | @bsl t0 u0 b off xs b1 b2 =>
        have a' := aa
        simp [VC, isAggT, b1] at a'
        exact ⟨b, off, a'.symm⟩
  obtain ⟨b0, off0, hv0⟩ := hv0
  have hnn : news = [] := List.length_eq_zero_iff.1 (by rw [hnr.len]; simp)
  subst hnn
  have hrun := run_append_any hC (ty := o.type) ht hz (ba := some ⟨b0, off0, none⟩) (n := 0) (cap := 0) (m := 0) (x := a.eval y) (olds := []) (news := []) (w := w) h2 hlx (fun _ _ => trivial) (fun w' h => by
      have := hnew 0 (Nat.le_refl _) w' h
      simpa using this) (by simp)
    (fun b off ha j v hj => by simp at hj) (fun ha => by cases ha) (fun aa haa => by cases haa; rfl) (by simp) (fun v hv => by simp at hv) (fun hr b off _ j hj => by simp at hj) (by simp) (by simp)
  rcases hrun with ⟨_, hrun⟩ | ⟨h, _⟩
  rotate_left
  · omega
  have hip : inPlace w (some ⟨b0, off0, none⟩) (0 * sz C.tb u) [] = w := rfl
  rw [hip] at hrun
  have hex : (execOp a.eval o).run C.P w = .ok (.value (.slice (some ⟨b0, off0, none⟩) 0 0)) w := by
    rw [opdArgs2 ho, hv0]
    simp [builtin, hrun]
  simp only [Oper.wp, hex, Oper.upon]
  obtain ⟨r1, r2⟩ := hr.addM' u (some (b0, off0)) hu8
  refine hK _ _ _ _ _ _ ⟨rfl, rfl⟩ r1 ?_ (.refl _ _) r2
  exact .t (cs := [.slice (some ⟨b0, off0, none⟩) 0 0]) (by simp [VC, isAggT, ht]) (.msl ht ⟨_, _, rfl, Nat.zero_le _⟩ ⟨true, [], by simp, Nat.le_refl _, fun _ => by simp [← hr.len]⟩)
end
end Go.Den
/- Law 15: what is answered, as rows that may be written. -/
namespace Go.Den.Q15
open Go Go.Den Go.Proofs
set_option maxRecDepth 8000
set_option linter.unusedVariables false

theorem eqs : eqTys Try.prog tb [] := rfl

theorem clone_m (q : List E) (hq : q.length ≤ 100000) : FnG Try.prog tb 7 [] [.t 22 (.e (.sl q))] (fun d s => d = .t 22 (.msl 0 q.length) ∧ s = [.mrow 3 true q]) := by
  refine FnG_of_V (fn := Try.f7) (bt := 4) true [0] [22] (ok 0 _) Try.func7 rfl rfl rfl fun _ _ _ _ _ _ => ?_
  apply V_of_VX
  refine VX_go (fs := []) (ok 0 _) trivial 100 [] rfl trivial ?_
  refine VX_op rfl rfl (OpV_nilS (ok 0 _) rfl (.inl rfl) rfl rfl rfl rfl) ?_
  rintro d s ⟨b, hb, rfl, rfl⟩
  refine VX_go (fs := []) (ok 0 _) trivial 100 [] rfl trivial ?_
  refine VX_split 4 rfl rfl (fun h => ?_) (fun h => ?_)
  · refine VX_go (fs := []) (ok 0 _) trivial 5 [] rfl trivial ?_
    refine VX_promMt rfl 2 (u := 3) rfl rfl ?_
    refine VX_go (fs := []) (ok 0 _) trivial 100 [] rfl trivial ?_
    refine ⟨.inr rfl, _, _, _, rfl, rfl, rfl, ?_⟩
    rw [hb h]; exact ⟨rfl, rfl⟩
  · refine VX_go (fs := []) (ok 0 _) trivial 100 [7] rfl trivial ?_
    refine VX_op rfl rfl (OpV_appendNewM0 (ok 0 _) rfl rfl rfl rfl (by decide) rfl (SrcAt_E (ok 0 _) rfl rfl) (by simp [nb, tb, maxL]; omega)) ?_
    rintro d s ⟨rfl, rfl⟩
    refine VX_go (fs := []) (ok 0 _) trivial 100 [] rfl trivial ?_
    exact ⟨.inr rfl, _, _, _, rfl, rfl, rfl, rfl, rfl⟩

theorem push_m (q : List Int) (x m : Int) (hq : q.length ≤ 90000) : FnG Try.prog tb 8 [] [.t 22 (.e (.sl (q.map .int))), .t 3 (.e (.int x)), .t 3 (.e (.int m))]
    (fun d s => d = .tup [.t 22 (.msl 0 ((pushE q x m).map E.int).length), .t 25 (.e (.int (pushN q m)))] ∧ s = [.mrow 3 true ((pushE q x m).map .int)]) := by
  refine FnG_of_V (fn := Try.f8) (bt := 4) true [0] [22, 25] (ok 0 _) Try.func8 rfl rfl rfl fun _ _ _ _ _ _ => ?_
  apply V_of_VX
  refine VX_go4 (fs := []) (ok 0 _) eqs trivial 100 [] rfl trivial ?_
  refine VX_split 11 rfl rfl (fun h => ?_) (fun h => ?_)
  · refine VX_go4 (fs := []) (ok 0 _) eqs trivial 100 [] rfl trivial ?_
    refine VX_callD (ok 0 _) [22] [] rfl rfl rfl rfl rfl rfl (clone_m _ (by simp; omega)) rfl rfl rfl ?_
    refine VX_go4 (fs := []) (ok 0 _) eqs trivial 100 [] rfl trivial ?_
    have h : (q.length : Int) ≥ m := by simpa using h
    simp only [pushE, pushN, h, if_true]
    exact ⟨.inr rfl, _, _, _, rfl, rfl, rfl, rfl, rfl⟩
  · refine VX_go4 (fs := []) (ok 0 _) eqs trivial 100 [] rfl trivial ?_
    refine VX_callD (ok 0 _) [22] [] rfl rfl rfl rfl rfl rfl (clone_m _ (by simp; omega)) rfl rfl rfl ?_
    refine VX_go4 (fs := []) (ok 0 _) eqs trivial 100 [] rfl ?_ ?_
    · simp [allP, nb, tb, maxL]; omega
    have h : ¬ (q.length : Int) ≥ m := by simpa using h
    simp only [pushE, pushN, h, if_false, List.map_append]
    exact ⟨.inr rfl, _, _, _, rfl, rfl, rfl, by simp; rfl, rfl⟩

theorem through_m (q : List Int) (x : Int) (hq : q.length ≤ 100000) : FnG Try.prog tb 9 [] [.t 22 (.e (.sl (q.map .int))), .t 3 (.e (.int x))]
    (fun d s => d = .tup [.t 22 (.msl 0 ((thr q x).map E.int).length), .t 4 (.e (.bool (decide (idx x q 0 ≥ 0))))] ∧ s = [.mrow 3 true ((thr q x).map .int)]) := by
  refine FnG_of_V (fn := Try.f9) (bt := 4) true [0] [22, 4] (ok 0 _) Try.func9 rfl rfl rfl fun _ _ _ _ _ _ => ?_
  have hr := idx_range x q 0
  have hw1 : IntKind.wrap .i64 (idx x q 0 + 1) = idx x q 0 + 1 := w64 (by omega) (by omega)
  apply V_of_VX
  refine VX_go (fs := []) (ok 0 _) trivial 100 [] rfl trivial ?_
  refine VX_callD (ok 0 _) [22, 3] [] rfl rfl rfl rfl rfl rfl (index_ok q x hq).g rfl rfl rfl ?_
  refine VX_go (fs := []) (ok 0 _) trivial 100 [14] rfl ?_ ?_
  · simp only [allP]; rw [hw1]; simp; omega
  refine VX_eq 13 rfl rfl (d' := .t 22 (.e (.sl ((thr q x).map .int)))) (congrArg (fun x => D.t 22 (.e (.sl x))) ?_) ?_
  · rw [hw1]; simp [thr]; rw [List.take_of_length_le (by simp)]
  refine VX_callD (ok 0 _) [22] [] rfl rfl rfl rfl rfl rfl (clone_m _ (by simp [thr]; omega)) rfl rfl rfl ?_
  refine VX_go (fs := []) (ok 0 _) trivial 100 [] rfl trivial ?_
  exact ⟨.inr rfl, _, _, _, rfl, rfl, rfl, rfl, rfl⟩

theorem trim_m (q : List Int) (m : Int) (hm : -9223372036854775808 ≤ m ∧ m ≤ 9223372036854775807) (hq : q.length ≤ 100000) : FnG Try.prog tb 10 [] [.t 22 (.e (.sl (q.map .int))), .t 3 (.e (.int m))]
    (fun d s => d = .t 22 (.msl 0 ((trim q m).map E.int).length) ∧ s = [.mrow 3 true ((trim q m).map .int)]) := by
  refine FnG_of_V (fn := Try.f10) (bt := 4) true [0] [22] (ok 0 _) Try.func10 rfl rfl rfl fun _ _ _ _ _ _ => ?_
  obtain ⟨hm1, hm2⟩ := hm
  have hlen : ((q.map E.int).length : Int) = q.length := by simp
  have hw1 : IntKind.wrap .i64 (((q.map E.int).length : Int) - (if m > 0 then m else 0)) = (q.length : Int) - (if m > 0 then m else 0) := by rw [hlen]; exact w64 (by split <;> omega) (by split <;> omega)
  have hc : (if (q.length : Int) - (if m > 0 then m else 0) > 0 then (q.length : Int) - (if m > 0 then m else 0) else 0) = (cut q.length m : Nat) := by unfold cut; split <;> split <;> omega
  have hcl : cut q.length m ≤ q.length := by unfold cut; split <;> omega
  apply V_of_VX
  refine VX_go (fs := []) (ok 0 _) trivial 100 [12] rfl ?_ ?_
  · simp [allP]
  refine VX_eq 11 rfl rfl (d' := .t 3 (.e (.int (cut q.length m)))) (congrArg (fun x => D.t 3 (.e (.int x))) ?_) ?_
  · rw [hw1, hc]
  refine VX_go (fs := []) (ok 0 _) trivial 100 [13] rfl ?_ ?_
  · simp [allP]; omega
  refine VX_eq 12 rfl rfl (d' := .t 22 (.e (.sl ((trim q m).map .int)))) (congrArg (fun x => D.t 22 (.e (.sl x))) ?_) ?_
  · simp [trim]; rw [List.take_of_length_le (by simp)]
  refine VX_callD (ok 0 _) [22] [] rfl rfl rfl rfl rfl rfl (clone_m _ (by simp [trim]; omega)) rfl rfl rfl ?_
  refine VX_go (fs := []) (ok 0 _) trivial 100 [] rfl trivial ?_
  exact ⟨.inr rfl, _, _, _, rfl, rfl, rfl, rfl, rfl⟩
end Go.Den.Q15
/- Law 15: QueueOwn. -/
namespace Go.Den.Q15
open Go Go.Den Go.Proofs
set_option maxRecDepth 8000
set_option linter.unusedVariables false

theorem own_ok (x0 x1 x2 : E) : FnOk Try.prog tb 3 [22, 3, 3] [4] [x0, x1, x2] [.bool true] := by
  refine FnOk_of_V (fn := Try.f3) (bt := 4) (ok 0 _) Try.func3 rfl rfl rfl (by decide) fun hw => ?_
  obtain ⟨l, rfl, hl⟩ := wt_sl (hw 0 22 _ rfl rfl) (u := 3) rfl
  obtain ⟨q, rfl⟩ := map_ex (f := E.int) (l := l) fun y hy => by obtain ⟨n, rfl, _⟩ := wt_int (hl y hy) (k := .i64) rfl; exact ⟨n, rfl⟩
  obtain ⟨x, rfl, _⟩ := wt_int (hw 1 3 _ rfl rfl) (k := .i64) rfl
  obtain ⟨m, rfl, _⟩ := wt_int (hw 2 3 _ rfl rfl) (k := .i64) rfl
  have hm := wt64 (hw 2 3 _ rfl rfl)
  clear hw
  apply V_of_VX
  refine VX_go4 (fs := []) (ok 0 _) eqs trivial 300 [] rfl trivial ?_
  refine VX_callD (ok 0 _) [] [] rfl rfl rfl rfl rfl rfl awake_ok.g rfl rfl rfl ?_
  refine VX_go4 (fs := []) (ok 0 _) eqs trivial 300 [] rfl trivial ?_
  refine VX_known 22 false rfl rfl rfl ?_
  refine VX_go4 (fs := []) (ok 0 _) eqs trivial 300 [] rfl trivial ?_
  refine VX_split 25 rfl rfl (fun h => ?_) (fun h => ?_)
  · refine VX_go4 (fs := []) (ok 0 _) eqs trivial 300 [] rfl trivial ?_
    exact ⟨.inr rfl, rfl⟩
  have hq : q.length ≤ 500 := by simp at h; omega
  clear h
  refine VX_go4 (fs := []) (ok 0 _) eqs trivial 300 [] rfl trivial ?_
  refine VX_callD (ok 0 _) [22] [] rfl rfl rfl rfl rfl rfl (clone_ok _ (by simp; omega)).g rfl rfl rfl ?_
  refine VX_go4 (fs := []) (ok 0 _) eqs trivial 300 [] rfl trivial ?_
  refine VX_callD (ok 0 _) [22, 3, 3] [] rfl rfl rfl rfl rfl rfl (push_m q x m (by omega)) rfl rfl rfl ?_
  refine VX_go4 (fs := []) (ok 0 _) eqs trivial 300 [] rfl trivial ?_
  refine VX_callD (ok 0 _) [22, 3, 3] [] rfl rfl rfl rfl rfl rfl (push_ok q x m (by omega)).g rfl rfl rfl ?_
  refine VX_go4 (fs := []) (ok 0 _) eqs trivial 300 [] rfl trivial ?_
  refine VX_callD (ok 0 _) [22, 3] [] rfl rfl rfl rfl rfl rfl (through_m q x (by omega)) rfl rfl rfl ?_
  refine VX_go4 (fs := []) (ok 0 _) eqs trivial 300 [] rfl trivial ?_
  refine VX_callD (ok 0 _) [22, 3] [] rfl rfl rfl rfl rfl rfl (trim_m q m hm (by omega)) rfl rfl rfl ?_
  refine VX_go4 (fs := []) (ok 0 _) eqs trivial 300 [54] rfl trivial ?_
  refine VX_op rfl rfl (OpV_buildTsl (ok 0 _) rfl rfl rfl rfl rfl (by decide) (by decide)) ?_
  rintro d s ⟨rfl, rfl⟩
  refine VX_go4 (fs := []) (ok 0 _) eqs trivial 300 [] rfl trivial ?_
  generalize hA0 : pushE q x m = A0
  generalize hC0 : thr q x = C0
  generalize hD0 : trim q m = D0
  have lA : A0.length ≤ 501 := by subst hA0; unfold pushE; split <;> (try simp) <;> omega
  have lC : C0.length ≤ 501 := by subst hC0; simp [thr]; omega
  have lD : D0.length ≤ 501 := by subst hD0; simp [trim]; omega
  refine VX_loopA (fun s : Nat × List Int × List Int × List Int => s.1 ≤ 3 ∧ (s.1 ≤ 0 → s.2.1.length = (A0.map E.int).length) ∧ (s.1 ≤ 1 → s.2.2.1.length = (C0.map E.int).length) ∧ (s.1 ≤ 2 → s.2.2.2.length = (D0.map E.int).length))
    (fun s => [(56, .t 3 (.e (.int s.1))), (55, .t 3 (.e (.int 3))), (54, .t 31 (.tsl [.msl 0 (A0.map E.int).length, .msl 1 (C0.map E.int).length, .msl 2 (D0.map E.int).length])),
      (0, .t 22 (.e (.sl (q.map .int)))), (1, .t 3 (.e (.int x))), (2, .t 3 (.e (.int m))), (7, .t 22 (.e (.sl (q.map .int)))), (10, .t 22 (.e (.sl (A0.map .int))))])
    (fun s => [.mrow 3 true (s.2.1.map .int), .mrow 3 true (s.2.2.1.map .int), .mrow 3 true (s.2.2.2.map .int)]) (fun s => 3 - s.1) (0, A0, C0, D0) ⟨by simp, by simp, by simp, by simp⟩ ?_ ?_
  · exact wk0 rfl (by simp [Blk.under]) (lc (ls rfl rfl) (lc (ls rfl rfl) (lc (ls rfl rfl) (lc (ls rfl rfl) (lc (ls rfl rfl) (lc (ls rfl rfl) (lc (ls rfl rfl) (lc (ls rfl rfl) lnil))))))))
  · rintro ⟨i, A, B, G⟩ ⟨h1, h2, h3, h4⟩
    simp only at h1 h2 h3 h4 ⊢
    refine VX_go4 (fs := []) (ok 0 _) eqs trivial 300 [] rfl trivial ?_
    refine VX_split 57 rfl rfl (fun h => ?_) (fun h => ?_)
    · have hi : i < 3 := by simp at h; omega
      clear h
      have hi3 : i = 0 ∨ i = 1 ∨ i = 2 := by omega
      rcases hi3 with rfl | rfl | rfl
      · have hn := h2 (by omega)
        refine VX_go4 (fs := []) (ok 0 _) eqs trivial 300 [58] rfl trivial ?_
        refine VX_op rfl rfl (OpV_indexTsl (ok 0 _) (iv := 0) rfl rfl rfl rfl (by decide) rfl (by decide) (by simp)) ?_
        rintro d s ⟨rfl, rfl⟩
        refine VX_op rfl rfl (OpV_loadTel (ok 0 _) rfl rfl rfl rfl) ?_
        rintro d s ⟨rfl, rfl⟩
        refine VX_go4 (fs := []) (ok 0 _) eqs trivial 300 [] rfl ?_ ?_
        · simp [allP, nb, tb, maxL]; simp at hn; omega
        have e7 : A.map E.int ++ [.int 7, .int 7, .int 7] = (A ++ [7, 7, 7]).map E.int := by simp
        rw [e7]
        have l7 : (A ++ [7, 7, 7]).length = (A0.map E.int).length + [E.int 7, .int 7, .int 7].length := by simp at hn ⊢; omega
        generalize hN : (A0.map E.int).length + [E.int 7, .int 7, .int 7].length = N at l7 ⊢
        have lN : N ≤ 504 := by rw [← hN]; simp; omega
        generalize A ++ [7, 7, 7] = L0 at l7 ⊢
        refine VX_loopA (fun s : Nat × List Int => s.1 ≤ N ∧ s.2.length = N)
          (fun s => [(65, .t 3 (.e (.int s.1))), (64, .t 3 (.e (.int N))), (17, .t 22 (.msl 0 N)), (56, .t 3 (.e (.int (0 : Nat)))), (55, .t 3 (.e (.int 3))), (54, .t 31 (.tsl [.msl 0 (A0.map E.int).length, .msl 1 (C0.map E.int).length, .msl 2 (D0.map E.int).length])),
            (0, .t 22 (.e (.sl (q.map .int)))), (1, .t 3 (.e (.int x))), (2, .t 3 (.e (.int m))), (7, .t 22 (.e (.sl (q.map .int)))), (10, .t 22 (.e (.sl (A0.map .int))))])
          (fun s => [.mrow 3 true (s.2.map .int), .mrow 3 true (B.map .int), .mrow 3 true (G.map .int)]) (fun s => N - s.1) (0, L0) ⟨by simp, l7⟩ ?_ ?_
        · exact wk0 rfl (by simp [Blk.under]) (lc (ls rfl rfl) (lc (ls rfl rfl) (lc (ls rfl rfl) (lc (ls rfl rfl) (lc (ls rfl rfl) (lc (ls rfl rfl) (lc (ls rfl rfl) (lc (ls rfl rfl) (lc (ls rfl rfl) (lc (ls rfl rfl) (lc (ls rfl rfl) lnil)))))))))))
        · rintro ⟨j, L⟩ ⟨k1, k2⟩
          simp only at k1 k2 ⊢
          refine VX_go4 (fs := []) (ok 0 _) eqs trivial 300 [] rfl trivial ?_
          refine VX_split 66 rfl rfl (fun h => ?_) (fun h => ?_)
          · have hj : j < N := by simp at h; omega
            clear h
            refine VX_go4 (fs := []) (ok 0 _) eqs trivial 300 [72] rfl ?_ ?_
            · simp [allP]; omega
            refine VX_eq 71 rfl rfl (d' := .t 3 (.e (.int (L[j]'(by omega))))) (congrArg (fun x => D.t 3 (.e x)) (getD_int (by omega))) ?_
            refine VX_go4 (fs := []) (ok 0 _) eqs trivial 300 [] rfl ?_ ?_
            · simp [allP]; omega
            refine loop_nrm ⟨(j + 1, L.set j (IntKind.wrap .i64 (L[j]'(by omega) + 1))), by simp; omega, ⟨by simp; omega, by simpa using k2⟩, ?_⟩
            have hwi : IntKind.wrap .i64 ((j : Int) + 1) = ((j + 1 : Nat) : Int) := by rw [w64 (by omega) (by omega)]; simp
            have hset : (L.map E.int).set j (.int (IntKind.wrap .i64 (L[j]'(by omega) + 1))) = (L.set j (IntKind.wrap .i64 (L[j]'(by omega) + 1))).map E.int := by rw [List.map_set]
            show Weak _ _ _ _ [.mrow 3 true ((L.map E.int).set j (.int (IntKind.wrap .i64 (L[j]'(by omega) + 1)))), .mrow 3 true (B.map .int), .mrow 3 true (G.map .int)]
            rw [hset]
            exact wk0 rfl (by simp [Blk.under]) (lc (li hwi.symm) (lc (ls rfl rfl) (lc (ls rfl rfl) (lc (ls rfl rfl) (lc (ls rfl rfl) (lc (ls rfl rfl) (lc (ls rfl rfl) (lc (ls rfl rfl) (lc (ls rfl rfl) (lc (ls rfl rfl) (lc (ls rfl rfl) lnil)))))))))))
          · refine VX_go4 (fs := []) (ok 0 _) eqs trivial 300 [] rfl trivial ?_
            apply loop_brk
            refine VX_go4 (fs := []) (ok 0 _) eqs trivial 300 [] rfl trivial ?_
            refine loop_nrm ⟨(1, L, B, G), by simp, ⟨by simp, fun hh => by simp at hh, fun _ => h3 (by omega), fun _ => h4 (by omega)⟩, ?_⟩
            exact wk0 rfl (by simp [Blk.under]) (lc (ls rfl rfl) (lc (ls rfl rfl) (lc (ls rfl rfl) (lc (ls rfl rfl) (lc (ls rfl rfl) (lc (ls rfl rfl) (lc (ls rfl rfl) (lc (ls rfl rfl) lnil))))))))
      · have hn := h3 (by omega)
        refine VX_go4 (fs := []) (ok 0 _) eqs trivial 300 [58] rfl trivial ?_
        refine VX_op rfl rfl (OpV_indexTsl (ok 0 _) (iv := 1) rfl rfl rfl rfl (by decide) rfl (by decide) (by simp)) ?_
        rintro d s ⟨rfl, rfl⟩
        refine VX_op rfl rfl (OpV_loadTel (ok 0 _) rfl rfl rfl rfl) ?_
        rintro d s ⟨rfl, rfl⟩
        refine VX_go4 (fs := []) (ok 0 _) eqs trivial 300 [] rfl ?_ ?_
        · simp [allP, nb, tb, maxL]; simp at hn; omega
        have e7 : B.map E.int ++ [.int 7, .int 7, .int 7] = (B ++ [7, 7, 7]).map E.int := by simp
        rw [e7]
        have l7 : (B ++ [7, 7, 7]).length = (C0.map E.int).length + [E.int 7, .int 7, .int 7].length := by simp at hn ⊢; omega
        generalize hN : (C0.map E.int).length + [E.int 7, .int 7, .int 7].length = N at l7 ⊢
        have lN : N ≤ 504 := by rw [← hN]; simp; omega
        generalize B ++ [7, 7, 7] = L0 at l7 ⊢
        refine VX_loopA (fun s : Nat × List Int => s.1 ≤ N ∧ s.2.length = N)
          (fun s => [(65, .t 3 (.e (.int s.1))), (64, .t 3 (.e (.int N))), (17, .t 22 (.msl 1 N)), (56, .t 3 (.e (.int (1 : Nat)))), (55, .t 3 (.e (.int 3))), (54, .t 31 (.tsl [.msl 0 (A0.map E.int).length, .msl 1 (C0.map E.int).length, .msl 2 (D0.map E.int).length])),
            (0, .t 22 (.e (.sl (q.map .int)))), (1, .t 3 (.e (.int x))), (2, .t 3 (.e (.int m))), (7, .t 22 (.e (.sl (q.map .int)))), (10, .t 22 (.e (.sl (A0.map .int))))])
          (fun s => [.mrow 3 true (A.map .int), .mrow 3 true (s.2.map .int), .mrow 3 true (G.map .int)]) (fun s => N - s.1) (0, L0) ⟨by simp, l7⟩ ?_ ?_
        · exact wk0 rfl (by simp [Blk.under]) (lc (ls rfl rfl) (lc (ls rfl rfl) (lc (ls rfl rfl) (lc (ls rfl rfl) (lc (ls rfl rfl) (lc (ls rfl rfl) (lc (ls rfl rfl) (lc (ls rfl rfl) (lc (ls rfl rfl) (lc (ls rfl rfl) (lc (ls rfl rfl) lnil)))))))))))
        · rintro ⟨j, L⟩ ⟨k1, k2⟩
          simp only at k1 k2 ⊢
          refine VX_go4 (fs := []) (ok 0 _) eqs trivial 300 [] rfl trivial ?_
          refine VX_split 66 rfl rfl (fun h => ?_) (fun h => ?_)
          · have hj : j < N := by simp at h; omega
            clear h
            refine VX_go4 (fs := []) (ok 0 _) eqs trivial 300 [72] rfl ?_ ?_
            · simp [allP]; omega
            refine VX_eq 71 rfl rfl (d' := .t 3 (.e (.int (L[j]'(by omega))))) (congrArg (fun x => D.t 3 (.e x)) (getD_int (by omega))) ?_
            refine VX_go4 (fs := []) (ok 0 _) eqs trivial 300 [] rfl ?_ ?_
            · simp [allP]; omega
            refine loop_nrm ⟨(j + 1, L.set j (IntKind.wrap .i64 (L[j]'(by omega) + 1))), by simp; omega, ⟨by simp; omega, by simpa using k2⟩, ?_⟩
            have hwi : IntKind.wrap .i64 ((j : Int) + 1) = ((j + 1 : Nat) : Int) := by rw [w64 (by omega) (by omega)]; simp
            have hset : (L.map E.int).set j (.int (IntKind.wrap .i64 (L[j]'(by omega) + 1))) = (L.set j (IntKind.wrap .i64 (L[j]'(by omega) + 1))).map E.int := by rw [List.map_set]
            show Weak _ _ _ _ [.mrow 3 true (A.map .int), .mrow 3 true ((L.map E.int).set j (.int (IntKind.wrap .i64 (L[j]'(by omega) + 1)))), .mrow 3 true (G.map .int)]
            rw [hset]
            exact wk0 rfl (by simp [Blk.under]) (lc (li hwi.symm) (lc (ls rfl rfl) (lc (ls rfl rfl) (lc (ls rfl rfl) (lc (ls rfl rfl) (lc (ls rfl rfl) (lc (ls rfl rfl) (lc (ls rfl rfl) (lc (ls rfl rfl) (lc (ls rfl rfl) (lc (ls rfl rfl) lnil)))))))))))
          · refine VX_go4 (fs := []) (ok 0 _) eqs trivial 300 [] rfl trivial ?_
            apply loop_brk
            refine VX_go4 (fs := []) (ok 0 _) eqs trivial 300 [] rfl trivial ?_
            refine loop_nrm ⟨(2, A, L, G), by simp, ⟨by simp, fun hh => by simp at hh, fun hh => by simp at hh, fun _ => h4 (by omega)⟩, ?_⟩
            exact wk0 rfl (by simp [Blk.under]) (lc (ls rfl rfl) (lc (ls rfl rfl) (lc (ls rfl rfl) (lc (ls rfl rfl) (lc (ls rfl rfl) (lc (ls rfl rfl) (lc (ls rfl rfl) (lc (ls rfl rfl) lnil))))))))
      · have hn := h4 (by omega)
        refine VX_go4 (fs := []) (ok 0 _) eqs trivial 300 [58] rfl trivial ?_
        refine VX_op rfl rfl (OpV_indexTsl (ok 0 _) (iv := 2) rfl rfl rfl rfl (by decide) rfl (by decide) (by simp)) ?_
        rintro d s ⟨rfl, rfl⟩
        refine VX_op rfl rfl (OpV_loadTel (ok 0 _) rfl rfl rfl rfl) ?_
        rintro d s ⟨rfl, rfl⟩
        refine VX_go4 (fs := []) (ok 0 _) eqs trivial 300 [] rfl ?_ ?_
        · simp [allP, nb, tb, maxL]; simp at hn; omega
        have e7 : G.map E.int ++ [.int 7, .int 7, .int 7] = (G ++ [7, 7, 7]).map E.int := by simp
        rw [e7]
        have l7 : (G ++ [7, 7, 7]).length = (D0.map E.int).length + [E.int 7, .int 7, .int 7].length := by simp at hn ⊢; omega
        generalize hN : (D0.map E.int).length + [E.int 7, .int 7, .int 7].length = N at l7 ⊢
        have lN : N ≤ 504 := by rw [← hN]; simp; omega
        generalize G ++ [7, 7, 7] = L0 at l7 ⊢
        refine VX_loopA (fun s : Nat × List Int => s.1 ≤ N ∧ s.2.length = N)
          (fun s => [(65, .t 3 (.e (.int s.1))), (64, .t 3 (.e (.int N))), (17, .t 22 (.msl 2 N)), (56, .t 3 (.e (.int (2 : Nat)))), (55, .t 3 (.e (.int 3))), (54, .t 31 (.tsl [.msl 0 (A0.map E.int).length, .msl 1 (C0.map E.int).length, .msl 2 (D0.map E.int).length])),
            (0, .t 22 (.e (.sl (q.map .int)))), (1, .t 3 (.e (.int x))), (2, .t 3 (.e (.int m))), (7, .t 22 (.e (.sl (q.map .int)))), (10, .t 22 (.e (.sl (A0.map .int))))])
          (fun s => [.mrow 3 true (A.map .int), .mrow 3 true (B.map .int), .mrow 3 true (s.2.map .int)]) (fun s => N - s.1) (0, L0) ⟨by simp, l7⟩ ?_ ?_
        · exact wk0 rfl (by simp [Blk.under]) (lc (ls rfl rfl) (lc (ls rfl rfl) (lc (ls rfl rfl) (lc (ls rfl rfl) (lc (ls rfl rfl) (lc (ls rfl rfl) (lc (ls rfl rfl) (lc (ls rfl rfl) (lc (ls rfl rfl) (lc (ls rfl rfl) (lc (ls rfl rfl) lnil)))))))))))
        · rintro ⟨j, L⟩ ⟨k1, k2⟩
          simp only at k1 k2 ⊢
          refine VX_go4 (fs := []) (ok 0 _) eqs trivial 300 [] rfl trivial ?_
          refine VX_split 66 rfl rfl (fun h => ?_) (fun h => ?_)
          · have hj : j < N := by simp at h; omega
            clear h
            refine VX_go4 (fs := []) (ok 0 _) eqs trivial 300 [72] rfl ?_ ?_
            · simp [allP]; omega
            refine VX_eq 71 rfl rfl (d' := .t 3 (.e (.int (L[j]'(by omega))))) (congrArg (fun x => D.t 3 (.e x)) (getD_int (by omega))) ?_
            refine VX_go4 (fs := []) (ok 0 _) eqs trivial 300 [] rfl ?_ ?_
            · simp [allP]; omega
            refine loop_nrm ⟨(j + 1, L.set j (IntKind.wrap .i64 (L[j]'(by omega) + 1))), by simp; omega, ⟨by simp; omega, by simpa using k2⟩, ?_⟩
            have hwi : IntKind.wrap .i64 ((j : Int) + 1) = ((j + 1 : Nat) : Int) := by rw [w64 (by omega) (by omega)]; simp
            have hset : (L.map E.int).set j (.int (IntKind.wrap .i64 (L[j]'(by omega) + 1))) = (L.set j (IntKind.wrap .i64 (L[j]'(by omega) + 1))).map E.int := by rw [List.map_set]
            show Weak _ _ _ _ [.mrow 3 true (A.map .int), .mrow 3 true (B.map .int), .mrow 3 true ((L.map E.int).set j (.int (IntKind.wrap .i64 (L[j]'(by omega) + 1))))]
            rw [hset]
            exact wk0 rfl (by simp [Blk.under]) (lc (li hwi.symm) (lc (ls rfl rfl) (lc (ls rfl rfl) (lc (ls rfl rfl) (lc (ls rfl rfl) (lc (ls rfl rfl) (lc (ls rfl rfl) (lc (ls rfl rfl) (lc (ls rfl rfl) (lc (ls rfl rfl) (lc (ls rfl rfl) lnil)))))))))))
          · refine VX_go4 (fs := []) (ok 0 _) eqs trivial 300 [] rfl trivial ?_
            apply loop_brk
            refine VX_go4 (fs := []) (ok 0 _) eqs trivial 300 [] rfl trivial ?_
            refine loop_nrm ⟨(3, A, B, L), by simp, ⟨by simp, fun hh => by simp at hh, fun hh => by simp at hh, fun hh => by simp at hh⟩, ?_⟩
            exact wk0 rfl (by simp [Blk.under]) (lc (ls rfl rfl) (lc (ls rfl rfl) (lc (ls rfl rfl) (lc (ls rfl rfl) (lc (ls rfl rfl) (lc (ls rfl rfl) (lc (ls rfl rfl) (lc (ls rfl rfl) lnil))))))))
    · refine VX_go4 (fs := []) (ok 0 _) eqs trivial 300 [] rfl trivial ?_
      apply loop_brk
      refine VX_go4 (fs := []) (ok 0 _) eqs trivial 300 [] rfl trivial ?_
      refine VX_callD (ok 0 _) [22, 3, 3] [] rfl rfl rfl rfl rfl rfl (push_ok q x m (by omega)).g rfl rfl rfl ?_
      refine VX_go4 (fs := []) (ok 0 _) eqs trivial 300 [] rfl trivial ?_
      refine VX_callD (ok 0 _) [22, 22] [] rfl rfl rfl rfl rfl rfl (same_ok q q (by omega)).g rfl rfl rfl ?_
      refine VX_go4 (fs := []) (ok 0 _) eqs trivial 300 [] rfl trivial ?_
      refine VX_known 86 true rfl rfl (by simp) ?_
      refine VX_go4 (fs := []) (ok 0 _) eqs trivial 300 [] rfl trivial ?_
      rw [hA0]
      refine VX_callD (ok 0 _) [22, 22] [] rfl rfl rfl rfl rfl rfl (same_ok A0 A0 (by omega)).g rfl rfl rfl ?_
      refine VX_go4 (fs := []) (ok 0 _) eqs trivial 300 [] rfl trivial ?_
      have e1 : (A0 == A0) = true := by simp
      rw [e1]
      exact ⟨.inr rfl, rfl⟩
end Go.Den.Q15
