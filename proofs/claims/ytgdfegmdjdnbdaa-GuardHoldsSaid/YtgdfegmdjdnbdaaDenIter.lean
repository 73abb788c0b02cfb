/- The runes of a text. -/
import Derived.Test.YtgdfegmdjdnbdaaDenJoin
import Derived.Lib.OthersKept
import Derived.Laws.RangeAny
namespace Go.Den
open Go
set_option linter.unusedSectionVars false
set_option linter.unusedSimpArgs false
set_option linter.unusedVariables false

/-- What stands in a text at a place: the rune, and how many bytes it takes. -/
def runeAt (s : List UInt8) (pos : Nat) : Nat × Nat := Utf8.decode ⟨⟨s⟩⟩ pos
theorem runeAt_w (s : List UInt8) (pos : Nat) : 1 ≤ (runeAt s pos).2 ∧ (runeAt s pos).2 ≤ 4 := by
  unfold runeAt Utf8.decode
  simp only []
  repeat' split
  all_goals simp

theorem iterAt_cell (w : World) (k : Nat) (s : ByteArray) (pos pos' : Nat) (hk : w.heap[k]? = some (.stringIter s pos)) (b o : Nat) : (w.iterAt k s pos').cell? ⟨b, o, none⟩ = w.cell? ⟨b, o, none⟩ := by
  by_cases h : b = k
  · subst h
    have := Lib.iterAt_heap w b s pos pos' hk
    simp [World.cell?, this, hk]
  · have : (w.iterAt k s pos').heap[b]? = w.heap[b]? := by simp [World.iterAt, Array.getElem?_setIfInBounds_ne (Ne.symm h)]
    simp [World.cell?, this]
theorem iterAt_other (w : World) (k : Nat) (s : ByteArray) (pos' b : Nat) (h : b ≠ k) : (w.iterAt k s pos').heap[b]? = w.heap[b]? := by simp [World.iterAt, Array.getElem?_setIfInBounds_ne (Ne.symm h)]
theorem iterAt_shape (w : World) (k : Nat) (s : ByteArray) (pos pos' : Nat) (hk : w.heap[k]? = some (.stringIter s pos)) (b : Nat) : (w.iterAt k s pos').shape? b = w.shape? b := by
  by_cases h : b = k
  · subst h
    have := Lib.iterAt_heap w b s pos pos' hk
    simp [World.shape?, this, hk]
  · simp [World.shape?, iterAt_other w k s pos' b h]
theorem iterAt_frozen (w : World) (k : Nat) (s : ByteArray) (pos pos' : Nat) (hk : w.heap[k]? = some (.stringIter s pos)) (b o : Nat) : (w.iterAt k s pos').frozen? ⟨b, o, none⟩ = w.frozen? ⟨b, o, none⟩ := by
  by_cases h : b = k
  · subst h
    have := Lib.iterAt_heap w b s pos pos' hk
    simp [World.frozen?, this, hk]
  · simp [World.frozen?, iterAt_other w k s pos' b h]

theorem Rel.iterTo {tb H β σ w} (h : Rel tb H β σ w) {i pos pos' : Nat} {s : List UInt8} (hi : σ[i]? = some (.iter s pos)) {r : Nat} (hβ : β[i]? = some (.pointer (some ⟨r, 0, none⟩))) (hr : w.heap[r]? = some (.stringIter ⟨⟨s⟩⟩ pos)) (hm : ∀ o, H r o = .mine i) :
    Rel tb H β (σ.set i (.iter s pos')) (w.iterAt r ⟨⟨s⟩⟩ pos') ∧ Stp H w H (w.iterAt r ⟨⟨s⟩⟩ pos') ∧ Ev H β σ H β (σ.set i (.iter s pos')) := by
  have hil : i < σ.length := (List.getElem?_eq_some_iff.1 hi).1
  have hself : (σ.set i (.iter s pos'))[i]? = some (.iter s pos') := by simp [hil]
  have hev : Ev H β σ H β (σ.set i (.iter s pos')) := by
    refine ⟨fun _ _ _ e => e, fun j ty z hj => ?_, fun j ety m hj => ?_, fun j s2 p hj => ?_, fun j ety oo zs hj => ?_⟩
    · have hne : i ≠ j := fun e => by subst e; rw [hi] at hj; cases hj
      exact ⟨rfl, z, by rw [List.getElem?_set_ne hne]; exact hj⟩
    · have hne : i ≠ j := fun e => by subst e; rw [hi] at hj; cases hj
      exact ⟨m, by rw [List.getElem?_set_ne hne]; exact hj, Nat.le_refl _, fun _ => rfl⟩
    · by_cases hji : i = j
      · subst hji; exact ⟨rfl, s, pos', hself⟩
      · exact ⟨rfl, s2, p, by rw [List.getElem?_set_ne hji]; exact hj⟩
    · have hne : i ≠ j := fun e => by subst e; rw [hi] at hj; cases hj
      exact ⟨oo, zs, by rw [List.getElem?_set_ne hne]; exact hj, Nat.le_refl _, fun _ => rfl⟩
  have hc := iterAt_cell w r ⟨⟨s⟩⟩ pos pos' hr
  have hf := iterAt_frozen w r ⟨⟨s⟩⟩ pos pos' hr
  have hs := iterAt_shape w r ⟨⟨s⟩⟩ pos pos' hr
  have hsz : (w.iterAt r ⟨⟨s⟩⟩ pos').heap.size = w.heap.size := by simp [World.iterAt]
  refine ⟨⟨fun b o v e => (hc b o).trans (h.pers b o v e), fun b o e => by rw [hsz]; exact h.dom b o e, by simp [h.len], fun j k bv hk hv => ?_⟩, ?_, hev⟩
  · by_cases hji : i = j
    · subst hji
      rw [hself] at hk; cases hk
      rw [hβ] at hv; cases hv
      exact ⟨r, rfl, Lib.iterAt_heap w r _ pos pos' hr, hm⟩
    · rw [List.getElem?_set_ne hji] at hk
      refine (h.blk j k bv hk hv).mono hev (fun b o e => ⟨e, hc b o, fun _ _ => hf b o, hs b⟩) (fun b s2 p e he => ?_)
      have hne : b ≠ r := fun e2 => by subst e2; have := (e 0).symm.trans (hm 0); cases this; exact hji rfl
      rw [iterAt_other _ _ _ _ _ hne]; exact he
  · exact ⟨rfl, rfl, rfl, by rw [hsz]; exact Nat.le_refl _, fun _ _ _ _ => rfl, fun _ _ _ j e => ⟨j, e⟩, fun b _ hn => iterAt_other _ _ _ _ _ (fun e => by subst e; exact hn 0 i (hm 0)), fun b _ o _ => hc b o, fun b _ o _ _ _ => hf b o, fun b _ => hs b⟩

section
variable {C : Cx} {env : Env} {σ : List Blk} {Q : Post}
theorem VX_range (hC : Ok C) {k : List It} {full l : List Oper} {o : Oper} {t : TypeId} {x : Operand} {dx : D} {s : List UInt8} {q : Nat} (hw : wants full env o = some true) (hn : dstOk C.n o.dst = true) (ho : o.op = .range t x) (ht : td C.tb t = .str)
    (hx : opd C.tb env t x = some dx) (hs : strAny dx = some s) (hq : o.dst = some q) {σ' : List Blk} {j : Nat} (hj : σ.length = j) (hσ : normBs (σ ++ [.iter s 0]) some = some σ')
    (h : VX C Q (.r full l :: k) .nrm ((q, .it j) :: env) σ') : VX C Q (.r full (o :: l) :: k) .nrm env σ := by
  rw [normBs_eq] at hσ; cases hσ
  subst hj
  refine VX_op hw hn (R := fun d s' => d = .it σ.length ∧ s' = σ ++ [.iter s 0]) ?_ ?_
  · intro H β a w hr he hd K Qx hK
    obtain ⟨hv, _⟩ := strAny_rel (opd_rel he hx) hs
    have hex : (execOp a.eval o).run C.P w = .ok (.value (.pointer (some ⟨w.heap.size, 0, none⟩))) (w.alloc (.stringIter ⟨⟨s⟩⟩ 0)) := by
      simp [execOp, ho, Instr.range, run_underlying_of hC.tab (hC.tab.str ht), hv, sv]
    obtain ⟨r1, r2⟩ := hr.alloc (.stringIter ⟨⟨s⟩⟩ 0) (fun _ => .mine σ.length) [.pointer (some ⟨w.heap.size, 0, none⟩)] [.iter s 0] rfl (fun o v hv => by cases hv)
      (fun i k bv hk hv => by
        have hi : i = 0 := by have := (List.getElem?_eq_some_iff.1 hk).1; simp at this; omega
        subst hi
        simp at hk hv; subst hk; subst hv
        exact ⟨w.heap.size, rfl, heap_alloc_new w _, fun o => by rw [hAlloc_new]; rfl⟩)
    simp only [Oper.wp, hex, Oper.upon]
    exact hK _ _ _ _ _ _ ⟨rfl, rfl⟩ r1 (.it (s := s) (pos := 0) (by simp) (by simp [← hr.len])) (Stp.alloc hr.dom _ _) r2
  · rintro d s' ⟨rfl, rfl⟩
    rw [hq]; exact h

/-- The next rune. -/
theorem VX_next (hC : Ok C) {k : List It} {full l : List Oper} {o : Oper} {t : Nat} {s : List UInt8} {q i pos : Nat} (ti tr : TypeId) (hw : wants full env o = some true) (hn : dstOk C.n o.dst = true) (ho : o.op = .next (.tmp t) true)
    (ht : getD env t = .it i) (hi : σ[i]? = some (.iter s pos)) (hq : o.dst = some q) (hti : td C.tb ti = .int .i64) (htr : td C.tb tr = .int .i32) (hp : (s.length : Int) ≤ maxI) {σ' : List Blk} (hσ : normBs (σ.set i (.iter s (pos + (runeAt s pos).2))) some = some σ')
    (h1 : pos < s.length → VX C Q (.r full l :: k) .nrm ((q, .tup [.kb C.bt true, .t ti (.e (.int pos)), .t tr (.e (.int (runeAt s pos).1))]) :: env) σ')
    (h0 : ¬ pos < s.length → VX C Q (.r full l :: k) .nrm ((q, .tup [.kb C.bt false]) :: env) σ) : VX C Q (.r full (o :: l) :: k) .nrm env σ := by
  rw [normBs_eq] at hσ; cases hσ
  by_cases hpos : pos < s.length
  · refine VX_op hw hn (R := fun d s' => d = .tup [.kb C.bt true, .t ti (.e (.int pos)), .t tr (.e (.int (runeAt s pos).1))] ∧ s' = σ.set i (.iter s (pos + (runeAt s pos).2))) ?_ ?_
    · intro H β a w hr he hd K Qx hK
      have hv := he.get t
      rw [ht] at hv
      generalize hve : a.tmps.getD t undef = vt at hv
      cases hv with
      | @it i v s0 p0 hσi hβ =>
        rw [hi] at hσi; cases hσi
        obtain ⟨r, rfl, hrh, hm⟩ := hr.blk i _ _ hi hβ
        have hrun := Lib.run_next_any_at (P := C.P) w r ⟨⟨s⟩⟩ pos o.type hrh hpos
        have hve' : a.eval (.tmp t) = .pointer (some ⟨r, 0, none⟩) := hve
        have hex : (execOp a.eval o).run C.P w = .ok (.value (.tuple #[.bool true, .int .i64 pos, .int .i32 (Utf8.decode ⟨⟨s⟩⟩ pos).1])) (w.iterAt r ⟨⟨s⟩⟩ (pos + (Utf8.decode ⟨⟨s⟩⟩ pos).2)) := by
          simp [execOp, ho, hve', hrun]
        obtain ⟨r1, r2, r3⟩ := hr.iterTo (pos' := pos + (runeAt s pos).2) hi hβ hrh hm
        simp only [Oper.wp, hex, Oper.upon]
        refine hK _ _ _ H β _ ⟨rfl, rfl⟩ r1 (.tup rfl fun j v d hv hd => ?_) r2 r3
        have hpw : IntKind.wrap .i64 (pos : Int) = pos := inR_wrap (by simp [inR, maxI] at *; omega)
        have hrw : IntKind.wrap .i32 ((Utf8.decode ⟨⟨s⟩⟩ pos).1 : Int) = (Utf8.decode ⟨⟨s⟩⟩ pos).1 := inR_wrap (by have := decode_le ⟨⟨s⟩⟩ pos; simp [inR]; omega)
        match j with
        | 0 => cases hd; simp at hv; subst hv; exact .kb hC.bt
        | 1 => cases hd; simp at hv; subst hv; exact .mkInt hti hpw
        | 2 => cases hd; simp at hv; subst hv; exact .mkInt htr hrw
        | j + 3 => simp at hd
    · rintro d s' ⟨rfl, rfl⟩
      rw [hq]; exact h1 hpos
  · refine VX_op hw hn (R := fun d s' => d = .tup [.kb C.bt false] ∧ s' = σ) ?_ ?_
    · intro H β a w hr he hd K Qx hK
      have hv := he.get t
      rw [ht] at hv
      generalize hve : a.tmps.getD t undef = vt at hv
      cases hv with
      | @it i v s0 p0 hσi hβ =>
        rw [hi] at hσi; cases hσi
        obtain ⟨r, rfl, hrh, hm⟩ := hr.blk i _ _ hi hβ
        have hrun := Lib.run_next_end_at (P := C.P) w r ⟨⟨s⟩⟩ pos o.type hrh hpos
        have hve' : a.eval (.tmp t) = .pointer (some ⟨r, 0, none⟩) := hve
        have hex : (execOp a.eval o).run C.P w = .ok (.value (.tuple #[.bool false])) w := by simp [execOp, ho, hve', hrun]
        simp only [Oper.wp, hex, Oper.upon]
        refine hK _ _ w H β σ ⟨rfl, rfl⟩ hr (.tup rfl fun j v d hv hd => ?_) (.refl _ _) (.refl _ _ _)
        match j with
        | 0 => cases hd; simp at hv; subst hv; exact .kb hC.bt
        | j + 1 => simp at hd
    · rintro d s' ⟨rfl, rfl⟩
      rw [hq]; exact h0 hpos
end
end Go.Den
