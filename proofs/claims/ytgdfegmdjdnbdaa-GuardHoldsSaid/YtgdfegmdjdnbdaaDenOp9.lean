/- append as an operation; composite values; texts and their bytes. -/
import Derived.Test.YtgdfegmdjdnbdaaDenAppend2
namespace Go.Den
open Go
set_option linter.unusedSectionVars false
set_option linter.unusedSimpArgs false
set_option linter.unusedVariables false

theorem opdArgs2 {o : Oper} {a : Act} {x y : Operand} {b : Builtin} {ts : Array TypeId} (ho : o.op = .call { callee := .builtin b, args := #[x, y], argTypes := ts }) {P : Program} {w : World} :
    (execOp a.eval o).run P w = (builtin b ts o.type (#[x, y].map fun | .const _ => true | _ => false) #[a.eval x, a.eval y]).run P w := by
  simp [execOp, ho, resolve, invoke]
  rfl

def byteE (b : UInt8) : E := .int b.toNat

section
variable {C : Cx} (hC : Ok C) {o : Oper} {env : Env} {σ : List Blk}

/-- What is appended: a list's elements, or a text's bytes. -/
def srcE (tb : Tab) (t t2 : TypeId) (d : D) : Option (List E) := match td tb t2 with
  | .str => match td tb t with
    | .sl u => match td tb u with
      | .int .u8 => (strAny d).map (·.map byteE)
      | _ => none
    | _ => none
  | _ => match Nat.beq t t2 with
    | true => match same tb (tagD d) t with
      | true => slE d
      | false => none
    | false => none

include hC in
theorem srcE_rel {t t2 u d ys H β v w} (ht : td C.tb t = .sl u) (hr : Base H w) (hv : DRel C.tb H β σ v d) (h : srcE C.tb t t2 d = some ys) :
    (t2 = t ∨ td C.tb t2 = .str) ∧ (Builtin.lenOf v).run C.P w = .ok ys.length w ∧ ∃ news, RowC C.tb H u news ys ∧
      ∀ w', (∀ b o v, w.cell? ⟨b, o, none⟩ = some v → w'.cell? ⟨b, o, none⟩ = some v) → (Builtin.firstCells (sz C.tb u) ys.length v).run C.P w' = .ok news.toArray w' := by
  unfold srcE at h
  split at h
  · rename_i h2
    rw [ht] at h
    simp only at h
    split at h
    · rename_i hu
      simp only [Option.map_eq_some_iff] at h
      obtain ⟨s, hs, rfl⟩ := h
      obtain ⟨hv, _⟩ := strAny_rel hv hs
      subst hv
      have hsz1 : sz C.tb u = 1 := hC.tab.sz_one (by simp [isAggT, hu]) (by simp [hu])
      have hb : ∀ b : UInt8, IntKind.wrap .u8 (b.toNat : Int) = b.toNat := fun b => inR_wrap (by have := b.toNat_lt; simp [inR]; omega)
      refine ⟨.inr h2, by simp [sv, Builtin.lenOf]; rfl, s.map fun b => .int .u8 b.toNat, ⟨by simp [hsz1], fun i x hx => ?_⟩, fun w' _ => ?_⟩
      · simp only [List.getElem?_map, Option.map_eq_some_iff] at hx
        obtain ⟨b, hb1, rfl⟩ := hx
        have : seg (s.map fun b => Value.int .u8 b.toNat) (i * sz C.tb u) (sz C.tb u) = [.int .u8 b.toNat] := by
          rw [hsz1, Nat.mul_one]
          have hi := (List.getElem?_eq_some_iff.1 hb1)
          obtain ⟨hi1, hi2⟩ := hi
          unfold seg
          rw [List.take_one, List.head?_drop]
          simp [hb1]
        rw [this]
        exact .int hu (hb b)
      · have hex : (⟨⟨s⟩⟩ : ByteArray).extract 0 s.length = ⟨⟨s⟩⟩ := by
          apply ByteArray.ext; simp
        simp [sv, Builtin.firstCells, hex]
    · cases h
  · split at h
    · rename_i hbeq
      have he := Nat.eq_of_beq_eq_true hbeq
      subst he
      split at h
      · rename_i hs
        have hrd := (slE_rel hv h).cast hC.tab (same_td hs)
        obtain ⟨a, c, cs, rfl, hrow, hpos⟩ := hrd.cells_of ht
        refine ⟨.inl rfl, by simp [Builtin.lenOf], cs, hrow, fun w' hw' => ?_⟩
        rcases Nat.eq_zero_or_pos ys.length with h0 | h0
        · have hcs : cs = [] := List.length_eq_zero_iff.1 (by rw [hrow.len, h0, Nat.zero_mul])
          subst hcs
          rw [h0]
          cases a with
          | none => rfl
          | some a => simp [Builtin.firstCells, loadCells, loadCellsFrom]
        · obtain ⟨b, off, rfl, hp⟩ := hpos h0
          exact run_firstCells_some w' (sz C.tb u) ys.length ⟨b, off, none⟩ _ _ cs hrow.len (fun j v hj => by rw [add_plain]; exact hw' _ _ _ (hr.pers _ _ _ (hp j v hj)))
      · cases h
    · cases h

/-- An append to a slice that is new: nil, or a literal. -/
def freshE : D → Option (List E)
  | .t _ .nsl => some []
  | .t _ (.bsl xs) => some xs
  | _ => none

include hC in
theorem Ok_appendNew {x y : Operand} {t t2 u : TypeId} {dx dy : D} {xs ys : List E} (ho : o.op = .call { callee := .builtin .append, args := #[x, y], argTypes := #[t, t2] }) (ht : td C.tb t = .sl u) (hz : plain C.tb zf u = true)
    (hx : opd C.tb env t x = some dx) (hxs : freshE dx = some xs) (hsx : same C.tb (tagD dx) t = true) (hy : opd C.tb env t2 y = some dy) (hys : srcE C.tb t t2 dy = some ys)
    (hp : (xs.length + ys.length) * nb C.tb u ≤ maxL ∧ xs.length + ys.length ≤ maxL) :
    OpOk C o env σ ⟨True, .t t (.lsl σ.length (xs ++ ys)), σ ++ [.row u (xs ++ ys).length]⟩ := by
  refine OpOk_do (by simp [isVal, ho]) ?_
  intro H β a w hr he hd K Qx hK
  have hvx := opd_rel he hx
  have hvy := opd_rel he hy
  obtain ⟨h2, hlen, news, hrow, hnew⟩ := srcE_rel hC ht hr.base hvy hys
  have hx0 : Rd C.tb H t [a.eval x] (.sl xs) ∧ RowRel C.tb H w σ.length (a.eval x) u xs.length := by
    generalize a.eval x = vx at hvx ⊢
    unfold freshE at hxs
    split at hxs <;> cases hxs
    · cases hvx with
      | @t ty v cs z aa bb => cases bb with
        | nsl b1 =>
          have ht' := same_td hsx
          have a' := aa
          simp [VC, isAggT, b1] at a'
          rw [← a']
          exact ⟨.sl0 ht, .inl ⟨rfl, rfl⟩⟩
    · cases hvx with
      | @t ty v cs z aa bb => cases bb with
        | @bsl t0 u0 b off xs b1 b2 =>
          have ht' := same_td hsx
          have a' := aa
          simp [VC, isAggT, b1] at a'
          rw [← a']
          exact ⟨b2.cast hC.tab ht', .inr ⟨b, off, _, rfl, Nat.le_refl _, fun j h1 h2 => by omega⟩⟩
  obtain ⟨v', w', H', hrun, hb', hpm, hrd', hrow', hoth, hit, hstp, hsame⟩ := append_core hC (ty := o.type) ht hz hr.base hx0.1 rfl hx0.2 h2 hlen rfl hnew hrow hp.1 hp.2
  have hex : (execOp a.eval o).run C.P w = .ok (.value v') w' := by
    rw [opdArgs2 ho]
    simp [builtin, hrun]
  have hev : Ev H β σ H' (β ++ [v']) (σ ++ [.row u (xs ++ ys).length]) := Ev.app hr.len hpm
  have hrel : Rel C.tb H' (β ++ [v']) (σ ++ [.row u (xs ++ ys).length]) w' := by
    refine ⟨hb'.pers, hb'.dom, by simp [hr.len], fun i k bv hk hv => ?_⟩
    rcases Nat.lt_or_ge i σ.length with hi | hi
    · rw [List.getElem?_append_left hi] at hk
      rw [List.getElem?_append_left (by rw [hr.len]; exact hi)] at hv
      exact (hr.blk i k bv hk hv).mono hev (fun b o h => have q := hoth b o i h (by omega); ⟨q.1, q.2.1, fun _ _ => q.2.2.1, q.2.2.2⟩) (fun b s p h hh => hit b s p i h (by omega) hh)
    · rw [List.getElem?_append_right hi] at hk
      rw [List.getElem?_append_right (by rw [hr.len]; exact hi), hr.len] at hv
      have hi0 : i - σ.length = 0 := by have := (List.getElem?_eq_some_iff.1 hk).1; simp at this; omega
      rw [hi0] at hk hv
      simp at hk hv
      subst hk; subst hv
      rw [show i = σ.length by omega]
      have : (xs ++ ys).length = xs.length + ys.length := by simp
      simpa [BlkRel, RowRel, this] using hrow'
  simp only [Oper.wp, hex, Oper.upon]
  refine hK v' _ w' H' _ _ ⟨rfl, rfl⟩ hrel ?_ hstp hev
  refine .t (cs := [v']) (by simp [VC, isAggT, ht]) (.lsl ht hrd' ⟨_, by simp, Nat.le_refl _, fun _ => by simp [← hr.len]⟩)

include hC in
theorem Ok_appendRow {x y : Operand} {t t2 u : TypeId} {dx dy : D} {i n : Nat} {xs ys : List E} {tx : TypeId} (ho : o.op = .call { callee := .builtin .append, args := #[x, y], argTypes := #[t, t2] }) (ht : td C.tb t = .sl u) (hz : plain C.tb zf u = true)
    (hx : opd C.tb env t x = some dx) (hxs : dx = .t tx (.lsl i xs)) (hsx : same C.tb tx t = true) (hi : σ[i]? = some (.row u n)) (hn : n = xs.length) (hy : opd C.tb env t2 y = some dy) (hys : srcE C.tb t t2 dy = some ys)
    (hp : (xs.length + ys.length) * nb C.tb u ≤ maxL ∧ xs.length + ys.length ≤ maxL) :
    OpOk C o env σ ⟨True, .t t (.lsl i (xs ++ ys)), σ.set i (.row u (xs ++ ys).length)⟩ := by
  refine OpOk_do (by simp [isVal, ho]) ?_
  intro H β a w hr he hd K Qx hK
  have hvx := opd_rel he hx
  have hvy := opd_rel he hy
  subst hxs
  obtain ⟨h2, hlen, news, hrow, hnew⟩ := srcE_rel hC ht hr.base hvy hys
  have hil : i < σ.length := (List.getElem?_eq_some_iff.1 hi).1
  obtain ⟨hx0, hβ⟩ : Rd C.tb H t [a.eval x] (.sl xs) ∧ β[i]? = some (a.eval x) := by
    generalize a.eval x = vx at hvx ⊢
    cases hvx with
    | @t ty v cs z aa bb => cases bb with
      | lsl b1 b2 b3 =>
        have a' := aa
        simp [VC, isAggT, b1] at a'
        subst a'
        obtain ⟨n', k1, k2, k3⟩ := b3
        rw [hi] at k1; cases k1
        exact ⟨b2.cast hC.tab (same_td hsx), k3 hn⟩
  have hrw : RowRel C.tb H w i (a.eval x) u xs.length := by
    have := hr.blk i _ _ hi hβ
    rw [hn] at this
    exact this
  obtain ⟨v', w', H', hrun, hb', hpm, hrd', hrow', hoth, hit, hstp, hsame⟩ := append_core hC (ty := o.type) ht hz hr.base hx0 rfl hrw h2 hlen rfl hnew hrow hp.1 hp.2
  have hex : (execOp a.eval o).run C.P w = .ok (.value v') w' := by
    rw [opdArgs2 ho]
    simp [builtin, hrun]
  have hlenl : (xs ++ ys).length = xs.length + ys.length := by simp
  have hev : Ev H β σ H' (β.set i v') (σ.set i (.row u (xs ++ ys).length)) := by
    have hself : (σ.set i (.row u (xs ++ ys).length))[i]? = some (.row u (xs ++ ys).length) := by simp [hil]
    refine ⟨hpm, fun j ty z hj => ?_, fun j ety m hj => ?_, fun j s p hj => ?_, fun j ety oo zs hj => ?_⟩
    · have hne : i ≠ j := fun e => by subst e; rw [hi] at hj; cases hj
      exact ⟨List.getElem?_set_ne hne, z, by rw [List.getElem?_set_ne hne]; exact hj⟩
    · by_cases hji : i = j
      · subst hji
        rw [hi] at hj; cases hj
        refine ⟨_, hself, by omega, fun e => ?_⟩
        rw [List.getElem?_set_self (by rw [hr.len]; exact hil), hsame (by omega), hβ]
      · exact ⟨m, by rw [List.getElem?_set_ne hji]; exact hj, Nat.le_refl _, fun _ => List.getElem?_set_ne hji⟩
    · have hne : i ≠ j := fun e => by subst e; rw [hi] at hj; cases hj
      exact ⟨List.getElem?_set_ne hne, s, p, by rw [List.getElem?_set_ne hne]; exact hj⟩
    · have hne : i ≠ j := fun e => by subst e; rw [hi] at hj; cases hj
      exact ⟨oo, zs, by rw [List.getElem?_set_ne hne]; exact hj, Nat.le_refl _, fun _ => List.getElem?_set_ne hne⟩
  have hrel : Rel C.tb H' (β.set i v') (σ.set i (.row u (xs ++ ys).length)) w' := by
    refine ⟨hb'.pers, hb'.dom, by simp [hr.len], fun j k bv hk hv => ?_⟩
    by_cases hji : i = j
    · subst hji
      rw [List.getElem?_set_self hil] at hk
      rw [List.getElem?_set_self (by rw [hr.len]; exact hil)] at hv
      cases hk; cases hv
      rw [hlenl]
      exact hrow'
    · rw [List.getElem?_set_ne hji] at hk hv
      exact (hr.blk j k bv hk hv).mono hev (fun b o h => have q := hoth b o j h (fun e => hji e.symm); ⟨q.1, q.2.1, fun _ _ => q.2.2.1, q.2.2.2⟩) (fun b s p h hh => hit b s p j h (fun e => hji e.symm) hh)
  simp only [Oper.wp, hex, Oper.upon]
  refine hK v' _ w' H' _ _ ⟨rfl, rfl⟩ hrel ?_ hstp hev
  refine .t (cs := [v']) (by simp [VC, isAggT, ht]) (.lsl ht hrd' ⟨_, by simp [hil], Nat.le_refl _, fun _ => by simp [hr.len, hil]⟩)
end
end Go.Den
