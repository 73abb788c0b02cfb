/- What store, append and literal leave alone: for regions that draw. -/
import Derived.Test.YtgdfegmdjdnbdaaDenClos
namespace Go.Den
open Go
set_option linter.unusedSectionVars false
set_option linter.unusedSimpArgs false
set_option linter.unusedVariables false
theorem Frm.of {ts : List Nat} {H : Gh} {w : World} {H' : Gh} {w' : World} (hd : ∀ b o, H b o ≠ .none → b < w.heap.size) (hst : Stp H w H' w')
    (hoth : ∀ b o j, H b o = .mine j → j ∉ ts → H' b o = .mine j ∧ w'.cell? ⟨b, o, none⟩ = w.cell? ⟨b, o, none⟩) : Frm ts H w H' w' := by
  rintro b o u hu (⟨x, hx⟩ | ⟨i, hi, hm⟩)
  · have hlt := hd b o (by rw [hx]; simp)
    exact ⟨(hst.cell b hlt o (by rw [hx]; simp)).trans hu, .inl ⟨x, (hst.gh b hlt o (by rw [hx]; simp)).trans hx⟩⟩
  · obtain ⟨h1, h2⟩ := hoth b o i hm hi
    exact ⟨h2.trans hu, .inr ⟨i, hi, h1⟩⟩
theorem Frm.write {ts : List Nat} {H : Gh} {w : World} {i b o : Nat} {vs : List Value} (hm : ∀ j, j < vs.length → H b (o + j) = .mine i) (hi : i ∈ ts) : Frm ts H w H (w.setCells b o vs) := by
  intro b' o' u hu hs
  refine ⟨(setCells_cell fun e => ?_).trans hu, hs⟩
  subst e
  rcases Nat.lt_or_ge o' o with h1 | h1
  · exact .inl h1
  · rcases Nat.lt_or_ge o' (o + vs.length) with h2 | h2
    · have h3 := hm (o' - o) (by omega)
      rw [show o + (o' - o) = o' by omega] at h3
      rcases hs with ⟨x, hx⟩ | ⟨k, hk, hx⟩
      · rw [h3] at hx; cases hx
      · rw [h3] at hx; cases hx; exact absurd hi hk
    · exact .inr h2
theorem Frm.alloc {ts : List Nat} {H : Gh} {w : World} (hd : ∀ b o, H b o ≠ .none → b < w.heap.size) (ob : Obj) (f : Nat → Own) : Frm ts H w (hAlloc H w.heap.size f) (w.alloc ob) := by
  intro b o u hu hs
  have hne : b ≠ w.heap.size := by
    have : b < w.heap.size := hd b o (by rcases hs with ⟨x, hx⟩ | ⟨k, hk, hx⟩ <;> rw [hx] <;> simp)
    omega
  rw [hAlloc_old hne]
  exact ⟨(World.cell?_alloc_old w ob _ hne).trans hu, hs⟩
section
variable {C : Cx} (hC : Ok C) {o : Oper} {env : Env} {σ : List Blk} {ts : List Nat}
include hC

theorem OpF_store {t : TypeId} {s i : Nat} {p : List Nat} {ty : TypeId} {X : T} {x : Operand} {d : D} {y : T} (ho : o.op = .store t (.tmp s) x) (hs : getD env s = .ptr i p) (hi : σ[i]? = some (.tree ty X))
    (ht : same C.tb t (tyAt C.tb ty p) = true) (hx : opd C.tb env t x = some d) (hy : asT C.tb t d = some y) (hts : i ∈ ts) :
    OpF C o env σ ts (fun d' s' => d' = .any ∧ s' = σ.set i (.tree ty (setT p y X))) := by
  intro H β a w hr he hd K Qx hK
  have hv := he.get s
  rw [hs] at hv
  obtain ⟨ad, hv, hp⟩ := hv.ptr_inv
  obtain ⟨b, off, ty', X', o', u, rfl, e2, e1, e3, e4, cs, f2, f3, f4, f0⟩ := hr.at hC hp
  rw [hi] at e2; cases e2
  rw [e4] at ht
  have ht' := same_td ht
  obtain ⟨vs, hvc, hvt⟩ := asT_rel hC (opd_rel he hx) hy
  have hvu := hvt.cast hC.tab ht'
  have hle := offT_le hC.tab e3
  have hvl := hvu.len hC.tab
  have hcs : ∀ j, j < vs.length → ∃ v, w.cell? ⟨b, off + o' + j, none⟩ = some v ∧ H b (off + o' + j) = .mine i ∧ w.frozen? ⟨b, off + o' + j, none⟩ = false := fun j hj => by
    have hlt : o' + j < cs.length := by omega
    have := f3 (o' + j) cs[o' + j] (List.getElem?_eq_getElem hlt)
    rw [← Nat.add_assoc] at this
    exact ⟨_, this⟩
  have hcells := hvc.cells hvt hC.tab
  have hst := run_storeVar hC (t := t) (b := b) (off := off + o') (w := w) hcells (hvt.len hC.tab) hvt.td_ne (hvt.one hC.tab)
    (fun j hj => by obtain ⟨v, h1, _⟩ := hcs j hj; simp [h1]) (fun j hj => by obtain ⟨v, _, _, h3⟩ := hcs j hj; exact h3)
  have hrun : (execOp a.eval o).run C.P w = .ok .skip (w.setCells b (off + o') vs) := by
    have hve : a.eval (.tmp s) = .pointer (some ⟨b, off + o', none⟩) := hv
    simp [execOp, ho, hve, Instr.storeAt, Instr.sureAddr, hst]
  have r := hr.write (i := i) (b := b) (o := off + o') (vs := vs) (fun j hj => by obtain ⟨v, _, h2, _⟩ := hcs j hj; exact h2) (k := .tree ty (setT p y X)) e1
    ⟨_, hi, fun ty2 x2 h2 => by cases h2; exact ⟨_, rfl⟩, fun _ _ h2 => (by cases h2), fun _ _ h2 => (by cases h2), fun _ _ _ h2 => (by cases h2)⟩
    (fun hev => by
      refine ⟨b, off, splice cs o' vs, rfl, by rw [splice_length (by omega)]; exact f2, fun hz => ⟨(f0 hz).1, (shape?_setCells b vs _ w _).trans (f0 hz).2⟩, fun j v hj => ?_, (f4.put hC.tab e3 hvu).mono hev⟩
      rw [splice_get (by omega)] at hj
      have hfz : ∀ q, (w.setCells b (off + o') vs).frozen? ⟨b, q, none⟩ = w.frozen? ⟨b, q, none⟩ := fun q => World.frozen?_setCells b vs _ w _
      by_cases h1 : j < o'
      · rw [if_pos h1] at hj
        obtain ⟨g1, g2, g3⟩ := f3 j v hj
        exact ⟨by rw [setCells_cell (fun _ => .inl (by omega))]; exact g1, g2, (hfz _).trans g3⟩
      · rw [if_neg h1] at hj
        by_cases h2 : j < o' + vs.length
        · rw [if_pos h2] at hj
          obtain ⟨u1, g1, g2, g3⟩ := hcs (j - o') (by omega)
          have hidx : off + o' + (j - o') = off + j := by omega
          rw [hidx] at g1 g2 g3
          refine ⟨?_, g2, (hfz _).trans g3⟩
          have := World.cell?_setCells_in b vs (off + o') w (fun q hq => by obtain ⟨v, k1, _⟩ := hcs q hq; simp [k1]) (j - o') (by omega)
          rw [hidx] at this
          rw [this]
          rw [List.getElem?_eq_getElem (by omega)] at hj; exact hj
        · rw [if_neg h2] at hj
          obtain ⟨g1, g2, g3⟩ := f3 j v hj
          exact ⟨by rw [setCells_cell (fun _ => .inr (by omega))]; exact g1, g2, (hfz _).trans g3⟩)
  simp only [Oper.wp, hrun, Oper.upon]
  exact hK _ _ _ H _ _ ⟨rfl, rfl⟩ r.1 .any r.2.2 r.2.1 (Frm.write (fun j hj => by obtain ⟨v, _, h2, _⟩ := hcs j hj; exact h2) hts)

theorem OpF_appendNew {x y : Operand} {t t2 u : TypeId} {dx dy : D} {xs ys : List E} (ho : o.op = .call { callee := .builtin .append, args := #[x, y], argTypes := #[t, t2] }) (ht : td C.tb t = .sl u) (hz : plain C.tb zf u = true)
    (hx : opd C.tb env t x = some dx) (hxs : freshE dx = some xs) (hsx : same C.tb (tagD dx) t = true) (hy : opd C.tb env t2 y = some dy) (hys : srcE C.tb t t2 dy = some ys)
    (hp : (xs.length + ys.length) * nb C.tb u ≤ maxL ∧ xs.length + ys.length ≤ maxL) (hts : σ.length ∈ ts) :
    OpF C o env σ ts (fun d' s' => d' = .t t (.lsl σ.length (xs ++ ys)) ∧ s' = σ ++ [.row u (xs ++ ys).length]) := by
  intro H β a w hr he hd K Qx hK
  have hvx := opd_rel he hx
  have hvy := opd_rel he hy
  obtain ⟨h2, hlen, news, hrow, hnew⟩ := srcE_rel hC ht hr.base hvy hys
  have hx0 : Rd C.tb H t [a.eval x] (.sl xs) ∧ RowRel C.tb H w σ.length (a.eval x) u xs.length := by
    generalize a.eval x = vx at hvx ⊢
    unfold freshE at hxs
    split at hxs <;> cases hxs
    · cases hvx with
      | @t ty v cs z aa bb => cases bb with
        | nsl b1 =>
          have ht' := same_td hsx
          have a' := aa
          simp [VC, isAggT, b1] at a'
          rw [← a']
          exact ⟨.sl0 ht, .inl ⟨rfl, rfl⟩⟩
    · cases hvx with
      | @t ty v cs z aa bb => cases bb with
        | @bsl t0 u0 b off xs b1 b2 =>
          have ht' := same_td hsx
          have a' := aa
          simp [VC, isAggT, b1] at a'
          rw [← a']
          exact ⟨b2.cast hC.tab ht', .inr ⟨b, off, _, rfl, Nat.le_refl _, fun j h1 h2 => by omega⟩⟩
  obtain ⟨v', w', H', hrun, hb', hpm, hrd', hrow', hoth, hit, hstp, hsame⟩ := append_core hC (ty := o.type) ht hz hr.base hx0.1 rfl hx0.2 h2 hlen rfl hnew hrow hp.1 hp.2
  have hex : (execOp a.eval o).run C.P w = .ok (.value v') w' := by
    rw [opdArgs2 ho]
    simp [builtin, hrun]
  have hev : Ev H β σ H' (β ++ [v']) (σ ++ [.row u (xs ++ ys).length]) := Ev.app hr.len hpm
  have hrel : Rel C.tb H' (β ++ [v']) (σ ++ [.row u (xs ++ ys).length]) w' := by
    refine ⟨hb'.pers, hb'.dom, by simp [hr.len], fun i k bv hk hv => ?_⟩
    rcases Nat.lt_or_ge i σ.length with hi | hi
    · rw [List.getElem?_append_left hi] at hk
      rw [List.getElem?_append_left (by rw [hr.len]; exact hi)] at hv
      exact (hr.blk i k bv hk hv).mono hev (fun b o h => have q := hoth b o i h (by omega); ⟨q.1, q.2.1, fun _ _ => q.2.2.1, q.2.2.2⟩) (fun b s p h hh => hit b s p i h (by omega) hh)
    · rw [List.getElem?_append_right hi] at hk
      rw [List.getElem?_append_right (by rw [hr.len]; exact hi), hr.len] at hv
      have hi0 : i - σ.length = 0 := by have := (List.getElem?_eq_some_iff.1 hk).1; simp at this; omega
      rw [hi0] at hk hv
      simp at hk hv
      subst hk; subst hv
      rw [show i = σ.length by omega]
      have : (xs ++ ys).length = xs.length + ys.length := by simp
      simpa [BlkRel, RowRel, this] using hrow'
  simp only [Oper.wp, hex, Oper.upon]
  refine hK v' _ w' H' _ _ ⟨rfl, rfl⟩ hrel ?_ hstp hev (.of hr.dom hstp fun b o j hj hn => have q := hoth b o j hj (fun e => hn (e ▸ hts)); ⟨q.1, q.2.1⟩)
  refine .t (cs := [v']) (by simp [VC, isAggT, ht]) (.lsl ht hrd' ⟨_, by simp, Nat.le_refl _, fun _ => by simp [← hr.len]⟩)

theorem OpF_appendRow {x y : Operand} {t t2 u : TypeId} {dx dy : D} {i n : Nat} {xs ys : List E} {tx : TypeId} (ho : o.op = .call { callee := .builtin .append, args := #[x, y], argTypes := #[t, t2] }) (ht : td C.tb t = .sl u) (hz : plain C.tb zf u = true)
    (hx : opd C.tb env t x = some dx) (hxs : dx = .t tx (.lsl i xs)) (hsx : same C.tb tx t = true) (hi : σ[i]? = some (.row u n)) (hn : n = xs.length) (hy : opd C.tb env t2 y = some dy) (hys : srcE C.tb t t2 dy = some ys)
    (hp : (xs.length + ys.length) * nb C.tb u ≤ maxL ∧ xs.length + ys.length ≤ maxL) (hts : i ∈ ts) :
    OpF C o env σ ts (fun d' s' => d' = .t t (.lsl i (xs ++ ys)) ∧ s' = σ.set i (.row u (xs ++ ys).length)) := by
  intro H β a w hr he hd K Qx hK
  have hvx := opd_rel he hx
  have hvy := opd_rel he hy
  subst hxs
  obtain ⟨h2, hlen, news, hrow, hnew⟩ := srcE_rel hC ht hr.base hvy hys
  have hil : i < σ.length := (List.getElem?_eq_some_iff.1 hi).1
  obtain ⟨hx0, hβ⟩ : Rd C.tb H t [a.eval x] (.sl xs) ∧ β[i]? = some (a.eval x) := by
    generalize a.eval x = vx at hvx ⊢
    cases hvx with
    | @t ty v cs z aa bb => cases bb with
      | lsl b1 b2 b3 =>
        have a' := aa
        simp [VC, isAggT, b1] at a'
        subst a'
        obtain ⟨n', k1, k2, k3⟩ := b3
        rw [hi] at k1; cases k1
        exact ⟨b2.cast hC.tab (same_td hsx), k3 hn⟩
  have hrw : RowRel C.tb H w i (a.eval x) u xs.length := by
    have := hr.blk i _ _ hi hβ
    rw [hn] at this
    exact this
  obtain ⟨v', w', H', hrun, hb', hpm, hrd', hrow', hoth, hit, hstp, hsame⟩ := append_core hC (ty := o.type) ht hz hr.base hx0 rfl hrw h2 hlen rfl hnew hrow hp.1 hp.2
  have hex : (execOp a.eval o).run C.P w = .ok (.value v') w' := by
    rw [opdArgs2 ho]
    simp [builtin, hrun]
  have hlenl : (xs ++ ys).length = xs.length + ys.length := by simp
  have hev : Ev H β σ H' (β.set i v') (σ.set i (.row u (xs ++ ys).length)) := by
    have hself : (σ.set i (.row u (xs ++ ys).length))[i]? = some (.row u (xs ++ ys).length) := by simp [hil]
    refine ⟨hpm, fun j ty z hj => ?_, fun j ety m hj => ?_, fun j s p hj => ?_, fun j ety oo zs hj => ?_⟩
    · have hne : i ≠ j := fun e => by subst e; rw [hi] at hj; cases hj
      exact ⟨List.getElem?_set_ne hne, z, by rw [List.getElem?_set_ne hne]; exact hj⟩
    · by_cases hji : i = j
      · subst hji
        rw [hi] at hj; cases hj
        refine ⟨_, hself, by omega, fun e => ?_⟩
        rw [List.getElem?_set_self (by rw [hr.len]; exact hil), hsame (by omega), hβ]
      · exact ⟨m, by rw [List.getElem?_set_ne hji]; exact hj, Nat.le_refl _, fun _ => List.getElem?_set_ne hji⟩
    · have hne : i ≠ j := fun e => by subst e; rw [hi] at hj; cases hj
      exact ⟨List.getElem?_set_ne hne, s, p, by rw [List.getElem?_set_ne hne]; exact hj⟩
    · have hne : i ≠ j := fun e => by subst e; rw [hi] at hj; cases hj
      exact ⟨oo, zs, by rw [List.getElem?_set_ne hne]; exact hj, Nat.le_refl _, fun _ => List.getElem?_set_ne hne⟩
  have hrel : Rel C.tb H' (β.set i v') (σ.set i (.row u (xs ++ ys).length)) w' := by
    refine ⟨hb'.pers, hb'.dom, by simp [hr.len], fun j k bv hk hv => ?_⟩
    by_cases hji : i = j
    · subst hji
      rw [List.getElem?_set_self hil] at hk
      rw [List.getElem?_set_self (by rw [hr.len]; exact hil)] at hv
      cases hk; cases hv
      rw [hlenl]
      exact hrow'
    · rw [List.getElem?_set_ne hji] at hk hv
      exact (hr.blk j k bv hk hv).mono hev (fun b o h => have q := hoth b o j h (fun e => hji e.symm); ⟨q.1, q.2.1, fun _ _ => q.2.2.1, q.2.2.2⟩) (fun b s p h hh => hit b s p j h (fun e => hji e.symm) hh)
  simp only [Oper.wp, hex, Oper.upon]
  refine hK v' _ w' H' _ _ ⟨rfl, rfl⟩ hrel ?_ hstp hev (.of hr.dom hstp fun b o j hj hn => have q := hoth b o j hj (fun e => hn (e ▸ hts)); ⟨q.1, q.2.1⟩)
  refine .t (cs := [v']) (by simp [VC, isAggT, ht]) (.lsl ht hrd' ⟨_, by simp [hil], Nat.le_refl _, fun _ => by simp [hr.len, hil]⟩)

theorem OpF_buildSlice {t u : TypeId} {len : Nat} {ps : Array (Nat × Operand)} {ys : List E} (ho : o.op = .buildSlice t len ps) (ht : td C.tb t = .sl u) (hz : plain C.tb zf u = true)
    (hys : denseE C.tb env u 0 ps.toList = some ys) (hl : ys.length = len) (hb : len * sz C.tb u ≤ 16777216) (hlm : len ≤ maxN) : OpF C o env σ ts (fun d' s' => d' = .t t (.bsl ys) ∧ s' = σ) := by
  intro H β a w hr he hd K Qx hK
  have hu := plain_ne hz
  have hlt := hC.tab.lt_of_td hu
  obtain ⟨z, hzr, hzc⟩ := hC.zero.get hC.tab hz w
  have hmap : (ps.map fun (i, x) => (i, a.eval x)).toList = ps.toList.map fun p => (p.1, a.eval p.2) := by simp
  have key : ∀ Z : Array Value, Z.size = len * sz C.tb u → ∃ cs, Instr.fill (fun i => some (i * sz C.tb u, sz C.tb u)) Z (ps.map fun (i, x) => (i, a.eval x)).toList = some cs.toArray ∧ RowC C.tb H u cs ys := fun Z hZ => by
    obtain ⟨cs, k1, k2⟩ := fill_dense hC he ps.toList ys 0 [] Z.toList hys (by simp) (by rw [hl]; simpa using hZ)
    exact ⟨cs, by rw [hmap]; simpa using k1, k2⟩
  have hnb : ¬ (len * sz C.tb u > 2 ^ 24) := by omega
  have hrun : ∃ cs, RowC C.tb H u cs ys ∧ (execOp a.eval o).run C.P w = .ok (.value (.slice (some ⟨w.heap.size, 0, none⟩) len len)) (w.alloc (.cells cs.toArray u)) := by
    simp only [execOp, ho, Instr.buildSlice, Sem.run_bind, run_underlying_of hC.tab (hC.tab.sl ht), Result.andThen, run_sizeOf_of hC.tab hlt, if_neg hnb, Sem.run_pure]
    by_cases h0 : len * sz C.tb u = 0
    · obtain ⟨cs, k1, k2⟩ := key #[] (by simp [h0])
      refine ⟨cs, k2, ?_⟩
      have h00 : Array.range 0 = #[] := rfl
      simp only [h0, if_true, Sem.run_pure, h00, Array.map_empty, k1]
      simp [newRow]
    · obtain ⟨cs, k1, k2⟩ := key ((Array.range (len * sz C.tb u)).map fun j => z.cells[j % z.cells.size]!) (by simp)
      refine ⟨cs, k2, ?_⟩
      simp only [if_neg h0, Sem.run_bind, hzr, Result.andThen, Sem.run_pure, k1]
      simp [newRow]
  obtain ⟨cs, k2, hrun⟩ := hrun
  let f : Nat → Own := fun o => if o < cs.length then .pers (cs.getD o undef) else .none
  have r := hr.alloc (.cells cs.toArray u) f [] [] rfl (fun o v hv => by
      have hv' : (if o < cs.length then Own.pers (cs.getD o undef) else .none) = .pers v := hv
      split at hv'
      · rename_i h; cases hv'
        rw [World.cell?_alloc_new]; simp only [List.getElem?_toArray, List.getD, List.getElem?_eq_getElem h, Option.getD_some]
      · cases hv') (fun i k bv hk => by simp at hk)
  simp only [List.append_nil] at r
  simp only [Oper.wp, hrun, Oper.upon]
  refine hK _ _ _ _ β σ ⟨rfl, rfl⟩ r.1 ?_ (Stp.alloc hr.dom _ _) r.2 (.alloc hr.dom _ _)
  have hpm := r.2.pers
  have hnag : isAggT C.tb t = false := by simp [isAggT, ht]
  refine .t (cs := [.slice (some ⟨w.heap.size, 0, none⟩) len len]) (by simp [VC, hnag]) ?_
  rw [← hl]
  refine .bsl ht ?_
  refine .sl (cs := cs) ht k2.len (fun j v hj => ?_) (fun i x hx => (k2.el i x hx).mono hpm) (Nat.le_refl _) (by rw [hl]; exact hlm)
  have hjl := (List.getElem?_eq_some_iff.1 hj).1
  rw [Nat.zero_add, hAlloc_new]
  show (if j < cs.length then Own.pers (cs.getD j undef) else .none) = _
  rw [if_pos hjl]; simp [List.getD, hj]

end
section
variable {C : Cx} (hC : Ok C) {o : Oper} {env : Env} {σ : List Blk} {ts : List Nat}
include hC
theorem dStore_okF {t s x} {r : DR} (ho : o.op = .store t (.tmp s) x) (h : dStore C env σ t s x = some r) (hts : ∀ i p, getD env s = .ptr i p → i ∈ ts) : OpF C o env σ ts (fun d s => d = r.d ∧ s = r.s) := by
  unfold dStore at h
  split at h
  · rename_i i p hs
    split at h
    · rename_i ty X hi
      split at h
      · rename_i ht
        split at h
        · rename_i d hd
          split at h
          · rename_i y hy; rw [setK_eq] at h; cases h; exact OpF_store hC ho hs hi ht hd hy (hts i p hs)
          · cases h
        · cases h
      · cases h
    · cases h
  · cases h
def apT (C : Cx) (env : Env) (σ : List Blk) (t : TypeId) (x : Operand) : Nat := match opd C.tb env t x with
  | some (.t _ (.lsl i _)) => i
  | _ => σ.length
theorem dAppend_okF {t t2 x y} {r : DR} (ho : o.op = .call { callee := .builtin .append, args := #[x, y], argTypes := #[t, t2] }) (h : dAppend C env σ t t2 x y = some r) (hp : r.p) (hts : apT C env σ t x ∈ ts) : OpF C o env σ ts (fun d s => d = r.d ∧ s = r.s) := by
  unfold dAppend at h
  split at h
  · rename_i u ht
    split at h
    · rename_i hz
      split at h
      · rename_i dx hx
        unfold apT at hts
        rw [hx] at hts
        split at h
        · rename_i dy hy
          split at h
          · rename_i ys hys
            split at h
            · rename_i xs hxs
              split at h
              · rename_i hsm
                rw [litK_eq, appK_eq] at h; cases h
                have hl : σ.length ∈ ts := by
                  revert hts
                  split
                  · rename_i i xs e; cases e; simp [freshE] at hxs
                  · exact id
                exact OpF_appendNew hC ho ht hz hx hxs hsm hy hys hp hl
              · cases h
            · split at h
              · split at h
                · rename_i hsm
                  split at h
                  · rename_i u' n hi
                    split at h
                    · rename_i hu
                      have hu := Nat.eq_of_beq_eq_true hu
                      subst hu
                      rw [setK_eq] at h; cases h; exact OpF_appendRow hC ho ht hz hx rfl hsm hi hp.1 hy hys hp.2 hts
                    · cases h
                  · cases h
                · cases h
              · cases h
          · cases h
        · cases h
      · cases h
    · cases h
  · cases h
def dLit (C : Cx) (env : Env) (σ : List Blk) (t : TypeId) (len : Nat) (ps : List (Nat × Operand)) : Option DR := match td C.tb t with
    | .sl u => match plain C.tb zf u with
      | true => match denseE C.tb env u 0 ps with
        | some ys => match Nat.beq ys.length len with
          | true => match Nat.ble (len * sz C.tb u) 16777216 && Nat.ble len 1000000 with
            | true => some ⟨True, .t t (.bsl ys), σ⟩
            | false => none
          | false => none
        | none => none
      | false => none
    | _ => none
theorem dLit_okF {t len} {ps : Array (Nat × Operand)} {r : DR} (ho : o.op = .buildSlice t len ps) (h : dLit C env σ t len ps.toList = some r) : OpF C o env σ ts (fun d s => d = r.d ∧ s = r.s) := by
  unfold dLit at h
  split at h
  · rename_i u ht
    split at h
    · rename_i hz
      split at h
      · rename_i ys hys
        split at h
        · rename_i hl
          split at h
          · rename_i hb
            simp only [Bool.and_eq_true] at hb
            have h1 := Nat.le_of_ble_eq_true hb.1
            have h2 := Nat.le_of_ble_eq_true hb.2
            cases h; exact OpF_buildSlice hC ho ht hz hys (Nat.eq_of_beq_eq_true hl) h1 (by unfold maxN; omega)
          · cases h
        · cases h
      · cases h
    · cases h
  · cases h
end
section
variable {C : Cx} {env : Env} {σ : List Blk} {Q : Post}
/-- A store in a region that draws. -/
theorem VX_storeO (hC : Ok C) {k : List It} {full : List Oper} {ts : List Nat} {i : Nat} {ord : List (Nat × Bool)} {o : Oper} {t : TypeId} {s j : Nat} {p : List Nat} {x : Operand} {d : D} {σ' : List Blk} {pp : Prop}
    (hi : full[i]? = some o) (hw : wants full env o = some true) (hn : dstOk C.n o.dst = true) (ho : o.op = .store t (.tmp s) x)
    (h : dStore C env σ t s x = some ⟨pp, d, σ'⟩) (hs : getD env s = .ptr j p) (hts : j ∈ ts)
    (hk : VX C Q (.o full ts ord :: k) .nrm (putD env o.dst d) σ') : VX C Q (.o full ts ((i, false) :: ord) :: k) .nrm env σ :=
  VX_opO hi hw hn (dStore_okF hC ho h fun i p e => by rw [hs] at e; cases e; exact hts) fun d1 s1 ⟨a1, a2⟩ => by subst a1; subst a2; exact hk
theorem VX_appendO (hC : Ok C) {k : List It} {full : List Oper} {ts : List Nat} {i : Nat} {ord : List (Nat × Bool)} {o : Oper} {t t2 : TypeId} {x y : Operand} {d : D} {σ' : List Blk} {pp : Prop}
    (hi : full[i]? = some o) (hw : wants full env o = some true) (hn : dstOk C.n o.dst = true) (ho : o.op = .call { callee := .builtin .append, args := #[x, y], argTypes := #[t, t2] })
    (h : dAppend C env σ t t2 x y = some ⟨pp, d, σ'⟩) (hp : pp) (hts : ts.contains (apT C env σ t x) = true)
    (hk : VX C Q (.o full ts ord :: k) .nrm (putD env o.dst d) σ') : VX C Q (.o full ts ((i, false) :: ord) :: k) .nrm env σ :=
  VX_opO hi hw hn (dAppend_okF hC ho h hp (by simpa using hts)) fun d1 s1 ⟨a1, a2⟩ => by subst a1; subst a2; exact hk
theorem VX_litO (hC : Ok C) {k : List It} {full : List Oper} {ts : List Nat} {i : Nat} {ord : List (Nat × Bool)} {o : Oper} {t : TypeId} {len : Nat} {ps : Array (Nat × Operand)} {d : D} {σ' : List Blk} {pp : Prop}
    (hi : full[i]? = some o) (hw : wants full env o = some true) (hn : dstOk C.n o.dst = true) (ho : o.op = .buildSlice t len ps)
    (h : dLit C env σ t len ps.toList = some ⟨pp, d, σ'⟩)
    (hk : VX C Q (.o full ts ord :: k) .nrm (putD env o.dst d) σ') : VX C Q (.o full ts ((i, false) :: ord) :: k) .nrm env σ :=
  VX_opO hi hw hn (dLit_okF hC ho h) fun d1 s1 ⟨a1, a2⟩ => by subst a1; subst a2; exact hk
end
end Go.Den
