/- Whatever readable data a statement hands over reads as data of the calculus. -/
import Derived.Test.YtgdfegmdjdnbdaaDenClose
import Derived.ChangeArms
import Derived.WideShapes
namespace Go.Den
open Go
set_option linter.unusedVariables false

/-- Types of plain data: numbers, truths, texts, lists, structs, arrays of these. -/
def flatT (tb : Tab) : Nat → TypeId → Bool
  | 0, _ => false
  | n + 1, t => match td tb t with
    | .int _ | .bool | .str => true
    | .sl u => flatT tb n u && !(Nat.beq (sz tb u) 0)
    | .arr _ u => flatT tb n u
    | .st fs => fs.all fun f => flatT tb n f.1
    | _ => false

theorem choose_list {p : Nat → E → Prop} : ∀ (n : Nat), (∀ i, i < n → ∃ x, p i x) → ∃ xs : List E, xs.length = n ∧ ∀ i x, xs[i]? = some x → p i x
  | 0, _ => ⟨[], rfl, fun i x h => by simp at h⟩
  | n + 1, h => by
    obtain ⟨xs, h1, h2⟩ := choose_list n fun i hi => h i (by omega)
    obtain ⟨x, hx⟩ := h n (by omega)
    refine ⟨xs ++ [x], by simp [h1], fun i y hy => ?_⟩
    rcases Nat.lt_or_ge i n with hi | hi
    · rw [List.getElem?_append_left (by omega)] at hy; exact h2 i y hy
    · rw [List.getElem?_append_right (by omega), h1] at hy
      have : i - n = 0 := by
        rcases Nat.eq_zero_or_pos (i - n) with h0 | h0
        · exact h0
        · rw [List.getElem?_eq_none (by simp; omega)] at hy; cases hy
      rw [this] at hy
      simp at hy
      have hin : i = n := by omega
      rw [hin]; exact hy ▸ hx

theorem cellsOf_sz {P : Program} {tb : Tab} (hT : TabOk P tb) {t : TypeId} (h : t < tb.length) : P.cellsOf t = sz tb t := by
  have := hT.at h
  unfold sz; rw [this]; rfl

theorem trod_rd {P : Program} {tb : Tab} (hT : TabOk P tb) {H : Type} {enc : TypeId × Value → H} {w : World} : ∀ (n fuel : Nat) (t : TypeId) (cs : List Value) (d : DataW H × List MemPlace),
    flatT tb n t = true → DataW.trod enc P w 0 (fun _ => true) true fuel t cs = some d → ∃ x, Rd tb (Hw w) t cs x
  | 0, _, _, _, _, hf, _ => by simp [flatT] at hf
  | n + 1, fuel, t, cs, d, hf, h => by
    unfold flatT at hf
    split at hf
    · rename_i k ht
      obtain ⟨m, rfl, _, hw⟩ := DataW.trod_int (hT.int ht) h
      exact ⟨_, .int ht (wf_wrap hw)⟩
    · rename_i ht
      cases fuel with
      | zero => simp [DataW.trod] at h
      | succ m =>
        unfold DataW.trod at h
        rw [hT.bool ht] at h
        split at h <;> simp_all
        exact ⟨_, .bool ht⟩
    · rename_i ht
      cases fuel with
      | zero => simp [DataW.trod] at h
      | succ m =>
        unfold DataW.trod at h
        rw [hT.str ht] at h
        split at h <;> simp_all
        rename_i s
        refine ⟨.str s.data.toList, .str (s := s.data.toList) ht ?_⟩
        have hs2 : s.data.toList.length = s.size := rfl
        have := h.1
        rw [hs2]; unfold maxLen at this; unfold maxI; omega
    · rename_i u ht
      simp only [Bool.and_eq_true, Bool.not_eq_true'] at hf
      obtain ⟨hf, hz⟩ := hf
      have hz0 : sz tb u ≠ 0 := fun e => by rw [e] at hz; simp at hz
      have hu : td tb u ≠ .other := fun e => hz0 (by
        cases n with
        | zero => simp [flatT] at hf
        | succ n => simp [flatT, e] at hf)
      have hcu := cellsOf_sz hT (hT.lt_of_td hu)
      rcases DataW.trod_slice (hT.sl ht) h with ⟨rfl, _⟩ | ⟨a, len, cap, elems, rest, m, _, rfl, _, hb, hl, hm, hlen, hel, _, _⟩
      · exact ⟨.sl [], .sl0 ht⟩
      · rcases Nat.eq_zero_or_pos len with h0 | h0
        · subst h0; exact ⟨.sl [], .sl0 ht⟩
        · have each : ∀ i, i < len → ∃ x : List Value × E, w.cells? 0 (a.add (i * sz tb u)) (sz tb u) = some x.1 ∧ Rd tb (Hw w) u x.1 x.2 := fun i hi => by
            have he := hel i hi
            rw [hcu] at he
            have hsome : elems[i]? = some elems[i] := List.getElem?_eq_getElem (by omega)
            rw [hsome] at he
            cases hc : w.cells? 0 (a.add (i * sz tb u)) (sz tb u) with
            | none => rw [hc] at he; simp at he
            | some vs =>
              rw [hc] at he
              obtain ⟨x, hx⟩ := trod_rd hT n m u vs _ hf (by simpa using he)
              exact ⟨(vs, x), rfl, hx⟩
          have h00 := each 0 h0
          obtain ⟨x0, hx0, _⟩ := h00
          have hspot : a.spot = none := by
            obtain ⟨_, g2, g3⟩ := World.cells?_some hx0
            have := g3 0 (by omega)
            have h1 : x0.1[0]? = some (x0.1[0]'(by omega)) := List.getElem?_eq_getElem (by omega)
            rw [h1] at this
            simp [Addr.add] at this
            exact World.cell?_spot this
          obtain ⟨b, off, sp⟩ := a
          cases hspot
          have hadd : ∀ i, (⟨b, off, none⟩ : Addr).add i = ⟨b, off + i, none⟩ := fun i => Go.WideShapes.add_plain _ _ _
          have cell : ∀ i, i < len → ∀ j, j < sz tb u → ∃ v, w.cell? ⟨b, off + (i * sz tb u + j), none⟩ = some v := fun i hi j hj => by
            obtain ⟨x, hx, _⟩ := each i hi
            obtain ⟨_, g2, g3⟩ := World.cells?_some hx
            have := g3 j hj
            rw [List.getElem?_eq_getElem (by omega), hadd, Go.WideShapes.add_plain] at this
            rw [← Nat.add_assoc]
            exact ⟨_, this⟩
          have cell2 : ∀ j, j < len * sz tb u → ∃ v, w.cell? ⟨b, off + j, none⟩ = some v := fun j hj => by
            have hp : 0 < sz tb u := by omega
            have h1 : j / sz tb u < len := (Nat.div_lt_iff_lt_mul hp).2 hj
            have := cell (j / sz tb u) h1 (j % sz tb u) (Nat.mod_lt _ hp)
            rwa [Nat.mul_comm, Nat.div_add_mod] at this
          let cs : List Value := (List.range (len * sz tb u)).map fun j => (w.cell? ⟨b, off + j, none⟩).getD undef
          have hcs : ∀ j v, cs[j]? = some v → w.cell? ⟨b, off + j, none⟩ = some v := fun j v hj => by
            have hjl : j < len * sz tb u := by have := (List.getElem?_eq_some_iff.1 hj).1; simpa [cs] using this
            obtain ⟨v', hv'⟩ := cell2 j hjl
            simp only [cs, List.getElem?_map, List.getElem?_range hjl, Option.map_some, Option.some.injEq, hv', Option.getD_some] at hj
            rw [hv', hj]
          have hcl : cs.length = len * sz tb u := by simp [cs]
          obtain ⟨xs, hx1, hx2⟩ := choose_list (p := fun i x => Rd tb (Hw w) u (seg cs (i * sz tb u) (sz tb u)) x) len fun i hi => by
            obtain ⟨⟨vs, x⟩, hx, hr⟩ := each i hi
            refine ⟨x, ?_⟩
            have : seg cs (i * sz tb u) (sz tb u) = vs := by
              obtain ⟨_, g2, g3⟩ := World.cells?_some hx
              apply List.ext_getElem?
              intro j
              rcases Nat.lt_or_ge j (sz tb u) with hj | hj
              · rw [seg_get hj]
                have h1 := g3 j hj
                rw [hadd, Go.WideShapes.add_plain] at h1
                have hlt : i * sz tb u + j < cs.length := by
                  rw [hcl]; have := Nat.mul_le_mul_right (sz tb u) (show i + 1 ≤ len from hi); rw [Nat.add_mul, Nat.one_mul] at this; omega
                rw [List.getElem?_eq_getElem hlt]
                have h2 := hcs _ _ (List.getElem?_eq_getElem hlt)
                rw [← Nat.add_assoc, h1] at h2
                exact h2.symm
              · rw [List.getElem?_eq_none (by simp [seg]; omega), List.getElem?_eq_none (by simp only at g2; omega)]
            rw [this]; exact hr
          have := Rd.sl (tb := tb) (H := Hw w) (t := t) (u := u) (b := b) (off := off) (c := cap) (cs := cs) (xs := xs) ht (by rw [hcl, hx1]) (fun j v hj => Hw_pers.2 (hcs j v hj)) hx2 (by omega) (by unfold maxLen at hm; unfold maxN; omega)
          rw [hx1] at this
          exact ⟨_, this⟩
    · rename_i m u ht
      have hu : td tb u ≠ .other := fun e => by
        cases n with
        | zero => simp [flatT] at hf
        | succ n => simp [flatT, e] at hf
      have hcu := cellsOf_sz hT (hT.lt_of_td hu)
      have hct := cellsOf_sz hT (hT.lt_of_td (t := t) (by rw [ht]; simp))
      obtain ⟨ys, q, _, _, hl, hlen, hel⟩ := DataW.trod_array (hT.arr ht) h
      rw [hct, hT.sz_arr ht] at hl
      obtain ⟨xs, hx1, hx2⟩ := choose_list (p := fun i x => Rd tb (Hw w) u (seg cs (i * sz tb u) (sz tb u)) x) m fun i hi => by
        have he := hel i hi
        rw [hcu, List.getElem?_eq_getElem (by omega)] at he
        exact trod_rd hT n q u _ _ hf he
      exact ⟨_, .arr ht hl hx1 hx2⟩
    · rename_i fs ht
      obtain ⟨gs, hg, hge⟩ := hT.st ht
      have hct := cellsOf_sz hT (hT.lt_of_td (t := t) (by rw [ht]; simp))
      obtain ⟨ys, q, _, _, hl, hlen, hel⟩ := DataW.trod_struct hg h
      rw [hct] at hl
      have hfl : fs.length = gs.size := by rw [← hge]; simp
      obtain ⟨xs, hx1, hx2⟩ := choose_list (p := fun i x => ∀ f : TypeId × Nat, fs[i]? = some f → Rd tb (Hw w) f.1 (seg cs f.2 (sz tb f.1)) x) fs.length fun i hi => by
        have hig : i < gs.size := by omega
        have he := hel i gs[i] (Array.getElem?_eq_getElem hig)
        rw [List.getElem?_eq_getElem (by omega)] at he
        have hfi : fs[i]? = some (gs[i].type, gs[i].offset) := by rw [← hge]; simp [hig]
        have hff := List.all_eq_true.1 hf _ (List.mem_of_getElem? hfi)
        have htn : td tb gs[i].type ≠ .other := fun e => by
          cases n with
          | zero => simp [flatT] at hff
          | succ n => simp [flatT, e] at hff
        have hcf := cellsOf_sz hT (hT.lt_of_td htn)
        rw [hcf] at he
        obtain ⟨x, hx⟩ := trod_rd hT n q _ _ _ hff he
        exact ⟨x, fun f hf' => by rw [hfi] at hf'; cases hf'; exact hx⟩
      exact ⟨_, .st ht hl hx1 fun i f x hf' hx => hx2 i x hx f hf'⟩
    · cases hf

/-- An argument of plain data, of whatever shape. -/
theorem arg_rd {P : Program} {tb : Tab} (hT : TabOk P tb) {H : Type} {enc : TypeId × Value → H} {w : World} {r : Reach} {base : Nat} {t : TypeId} {v : Value} {d : DataW H} {p : List MemPlace} (n : Nat) (hf : flatT tb n t = true)
    (hval : Value.okWide P w r base t v) (h : DataW.Trod enc P w 0 (fun _ => true) true t v d p) : ∃ x, DRel tb (Hw w) [] [] v (.t t (.e x)) := by
  obtain ⟨fuel, hh⟩ := h
  obtain ⟨x, hx⟩ := trod_rd hT n fuel t _ _ hf hh
  refine ⟨x, .t (cs := v.cells.toList) ?_ (.e hx)⟩
  unfold VC
  cases hn : n with
  | zero => subst hn; simp [flatT] at hf
  | succ m =>
    subst hn
    unfold flatT at hf
    split at hf
    · rename_i k ht
      simp only [Value.okWide, hT.int ht, Cell.okWide] at hval
      cases v <;> simp_all [Cell.ok, isAggT, Value.cells]
    · rename_i ht
      simp only [Value.okWide, hT.bool ht, Cell.okWide] at hval
      cases v <;> simp_all [Cell.ok, isAggT, Value.cells]
    · rename_i ht
      simp only [Value.okWide, hT.str ht, Cell.okWide] at hval
      cases v <;> simp_all [Cell.ok, isAggT, Value.cells]
    · rename_i u ht
      simp only [Value.okWide, hT.sl ht, Cell.okWide] at hval
      cases v <;> simp_all [Cell.ok, isAggT, Value.cells]
    · rename_i m u ht
      simp only [Value.okWide, hT.arr ht] at hval
      obtain ⟨cs, rfl, _⟩ := hval
      simp [isAggT, ht, Value.cells]
    · rename_i fs ht
      obtain ⟨gs, hg, hge⟩ := hT.st ht
      simp only [Value.okWide, hg] at hval
      obtain ⟨cs, rfl, _⟩ := hval
      simp [isAggT, ht, Value.cells]
    · cases hf
end Go.Den
