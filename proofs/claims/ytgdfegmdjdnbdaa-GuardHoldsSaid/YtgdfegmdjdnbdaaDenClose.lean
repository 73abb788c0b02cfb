/- From what a statement gives of its arguments to the calculus, and back. -/
import Derived.Test.YtgdfegmdjdnbdaaDenDop3
import Derived.Below
import Derived.OpenShut
namespace Go.Den
open Go
open Go.RowKit (Below)
set_option linter.unusedVariables false

/-- All of a world's cells, as they stand. -/
def Hw (w : World) : Gh := fun b o => match w.cell? ⟨b, o, none⟩ with
  | some v => .pers v
  | none => .none
theorem Hw_pers {w b o v} : Hw w b o = .pers v ↔ w.cell? ⟨b, o, none⟩ = some v := by
  unfold Hw
  cases h : w.cell? ⟨b, o, none⟩ <;> simp
theorem Hw_mine {w b o i} : Hw w b o ≠ .mine i := by
  unfold Hw
  cases h : w.cell? ⟨b, o, none⟩ <;> simp
theorem Hw_base (w : World) : Base (Hw w) w := by
  refine ⟨fun b o v h => Hw_pers.1 h, fun b o h => ?_⟩
  rcases Nat.lt_or_ge b w.heap.size with h1 | h1
  · exact h1
  · refine absurd ?_ h
    have : w.cell? ⟨b, o, none⟩ = none := by
      unfold World.cell?
      simp [Array.getElem?_eq_none h1]
    unfold Hw; rw [this]

/-- A law's walk, out of its contract. -/
theorem walk_of {P : Program} {tb : Tab} {f : FuncId} {pts : List TypeId} {t : TypeId} {args : List E} {b : Bool} {vals : Array Value} {w : World} (h : FnOk P tb f pts [t] args [.bool b])
    (hv : ArgsAt tb (Hw w) [] [] vals (typed pts args)) : Calls P f vals w fun e w' => e = .returned (.bool b) ∧ Below w.heap.size w w' := by
  refine (h.2.2 (Hw w) w vals (Hw_base w) (fun _ _ _ => Hw_mine) hv).mono ?_
  rintro e w' ⟨v, H', rfl, hb, hd, hs⟩
  have := boolAny_rel hd (b := b) rfl
  subst this
  exact ⟨rfl, hs.os, hs.tape, hs.output, hs.size, fun k hk => hs.blk k hk fun o i => Hw_mine⟩

theorem argsAt_nil {tb : Tab} {H : Gh} : ArgsAt tb H [] [] #[] (typed [] []) := ⟨rfl, fun i v d h => by simp at h⟩
theorem argsAt_list {tb : Tab} {H : Gh} {vs : List Value} {pts : List TypeId} {args : List E} (hl : args.length = pts.length) (hv : vs.length = pts.length)
    (h : ∀ (i : Nat) v t x, vs[i]? = some v → pts[i]? = some t → args[i]? = some x → DRel tb H [] [] v (.t t (.e x))) : ArgsAt tb H [] [] vs.toArray (typed pts args) := by
  refine ⟨by rw [typed_length hl]; simpa using hv, fun i v d hi hd => ?_⟩
  have key : ∀ (ts : List TypeId) (xs : List E) (i : Nat) d, (typed ts xs)[i]? = some d → ∃ t x, ts[i]? = some t ∧ xs[i]? = some x ∧ d = .t t (.e x) := by
    intro ts
    induction ts with
    | nil => intro xs i d h; simp [typed] at h
    | cons t ts ih =>
      intro xs i d h
      cases xs with
      | nil => simp [typed] at h
      | cons x xs =>
        cases i with
        | zero => simp [typed] at h; exact ⟨t, x, rfl, rfl, h.symm⟩
        | succ i => simpa using ih xs i d (by simpa [typed] using h)
  obtain ⟨t, x, h1, h2, rfl⟩ := key _ _ _ _ hd
  exact h i v t x (by simpa using hi) h1 h2

theorem wf_wrap {k : IntKind} {n : Int} (h : (Lit.int k n).wf = true) : k.wrap n = n := by
  refine inR_wrap ?_
  cases k <;> simpa [Lit.wf, inR, IntKind.min, IntKind.max, IntKind.signed, IntKind.bits] using h
theorem rd_int {tb : Tab} {H : Gh} {t : TypeId} {k : IntKind} {n : Int} (ht : td tb t = .int k) (h : (Lit.int k n).wf = true) : DRel tb H [] [] (.int k n) (.t t (.e (.int n))) := .mkInt ht (wf_wrap h)
theorem rd_ints {tb : Tab} {w : World} {t u : TypeId} {k : IntKind} {a : Option Addr} {len cap : Nat} {zs : List Int} (ht : td tb t = .sl u) (hu : td tb u = .int k) (hsz : sz tb u = 1)
    (h : (a = none ∧ len = 0 ∧ cap = 0 ∧ zs = []) ∨
      ∃ x, a = some x ∧ len ≤ cap ∧ cap ≤ maxLen ∧ zs.length = cap ∧ (∀ i, i < zs.length → w.cell? (x.add i) = some (.int k (zs.getD i 0))) ∧ ∀ n ∈ zs, (Lit.int k n).wf = true) :
    DRel tb (Hw w) [] [] (.slice a len cap) (.t t (.e (.sl ((zs.take len).map .int)))) := by
  refine .of_rd ?_ (by simp [isAggT, ht])
  rcases h with ⟨rfl, rfl, rfl, rfl⟩ | ⟨x, rfl, h1, h2, h3, h4, h5⟩
  · exact .sl0 ht
  · rcases Nat.eq_zero_or_pos len with h0 | h0
    · subst h0; exact .sl0 ht
    · obtain ⟨b, off, rfl, hc⟩ := ints_at h4 (by omega)
      have hlen : ((zs.take len).map E.int).length = len := by simp; omega
      have := Rd.sl (tb := tb) (H := Hw w) (t := t) (u := u) (b := b) (off := off) (c := cap) (cs := (zs.take len).map (.int k)) (xs := (zs.take len).map E.int) ht (by simp [hsz]) (fun j v hj => ?_) (fun i e hi => ?_) (by omega) (by rw [hlen]; unfold maxLen at h2; unfold maxN; omega)
      · rw [hlen] at this; exact this
      · rw [Hw_pers]
        have hjl : j < len := by have := (List.getElem?_eq_some_iff.1 hj).1; simp at this; omega
        rw [hc j (by omega)]
        simp only [List.getElem?_map, List.getElem?_take, hjl, if_true] at hj
        have hz : zs[j]? = some zs[j] := List.getElem?_eq_getElem (by omega)
        rw [hz] at hj
        simp only [Option.map_some, Option.some.injEq] at hj
        rw [← hj]; simp [List.getD, hz]
      · have hil : i < len := by have := (List.getElem?_eq_some_iff.1 hi).1; simp at this; omega
        have hz : zs[i]? = some zs[i] := List.getElem?_eq_getElem (by omega)
        simp only [List.getElem?_map, List.getElem?_take, hil, if_true, hz, Option.map_some, Option.some.injEq] at hi
        subst hi
        have hseg : seg ((zs.take len).map (Value.int k)) (i * sz tb u) (sz tb u) = [.int k zs[i]] := by
          rw [hsz, Nat.mul_one]
          apply List.ext_getElem?
          intro q
          rcases Nat.eq_zero_or_pos q with hq | hq
          · subst hq; rw [seg_get (by omega)]; simp [hil, hz]
          · rw [List.getElem?_eq_none (by simp [seg]; omega), List.getElem?_eq_none (by simp; omega)]
        rw [hseg]
        exact .int hu (wf_wrap (h5 _ (List.getElem_mem _)))

theorem rd_str {tb : Tab} {H : Gh} {t : TypeId} {s : ByteArray} (ht : td tb t = .str) (h : s.size ≤ maxLen) : DRel tb H [] [] (.string s) (.t t (.e (.str s.data.toList))) := by
  have : Value.string s = sv s.data.toList := rfl
  rw [this]
  refine .mkStr ht ?_
  have hs : s.data.toList.length = s.size := rfl
  rw [hs]; unfold maxLen at h; unfold maxI; omega
theorem strs_at {w : World} {a : Addr} {ss : List ByteArray} (h : ∀ i, i < ss.length → w.cell? (a.add i) = some (.string (ss.getD i ByteArray.empty))) (hp : 0 < ss.length) :
    ∃ b off, a = ⟨b, off, none⟩ ∧ ∀ j, j < ss.length → w.cell? ⟨b, off + j, none⟩ = some (.string (ss.getD j ByteArray.empty)) := by
  obtain ⟨b, off, spot⟩ := a
  have hspot : spot = none := by simpa [Addr.add] using World.cell?_spot (h 0 hp)
  subst hspot
  exact ⟨b, off, rfl, fun j hj => by rw [← Go.WideShapes.add_plain]; exact h j hj⟩
theorem rd_strs {tb : Tab} {w : World} {t u : TypeId} {a : Option Addr} {len cap : Nat} {zs : List ByteArray} (ht : td tb t = .sl u) (hu : td tb u = .str) (hsz : sz tb u = 1)
    (h : (a = none ∧ len = 0 ∧ cap = 0 ∧ zs = []) ∨
      ∃ x, a = some x ∧ len ≤ cap ∧ cap ≤ maxLen ∧ zs.length = cap ∧ (∀ i, i < zs.length → w.cell? (x.add i) = some (.string (zs.getD i ByteArray.empty))) ∧ ∀ s ∈ zs, s.size ≤ maxLen) :
    DRel tb (Hw w) [] [] (.slice a len cap) (.t t (.e (.sl (((zs.take len).map fun s => s.data.toList).map .str)))) := by
  refine .of_rd ?_ (by simp [isAggT, ht])
  rcases h with ⟨rfl, rfl, rfl, rfl⟩ | ⟨x, rfl, h1, h2, h3, h4, h5⟩
  · exact .sl0 ht
  · rcases Nat.eq_zero_or_pos len with h0 | h0
    · subst h0; exact .sl0 ht
    · obtain ⟨b, off, rfl, hc⟩ := strs_at h4 (by omega)
      have hlen : (((zs.take len).map fun s => s.data.toList).map E.str).length = len := by simp; omega
      have := Rd.sl (tb := tb) (H := Hw w) (t := t) (u := u) (b := b) (off := off) (c := cap) (cs := (zs.take len).map Value.string) (xs := ((zs.take len).map fun s => s.data.toList).map E.str) ht (by simp [hsz]) (fun j v hj => ?_) (fun i e hi => ?_) (by omega) (by rw [hlen]; unfold maxLen at h2; unfold maxN; omega)
      · rw [hlen] at this; exact this
      · rw [Hw_pers]
        have hjl : j < len := by have := (List.getElem?_eq_some_iff.1 hj).1; simp at this; omega
        rw [hc j (by omega)]
        simp only [List.getElem?_map, List.getElem?_take, hjl, if_true] at hj
        have hz : zs[j]? = some zs[j] := List.getElem?_eq_getElem (by omega)
        rw [hz] at hj
        simp only [Option.map_some, Option.some.injEq] at hj
        rw [← hj]; simp [List.getD, hz]
      · have hil : i < len := by have := (List.getElem?_eq_some_iff.1 hi).1; simp at this; omega
        have hz : zs[i]? = some zs[i] := List.getElem?_eq_getElem (by omega)
        simp only [List.getElem?_map, List.getElem?_take, hil, if_true, hz, Option.map_some, Option.some.injEq] at hi
        subst hi
        have hseg : seg ((zs.take len).map Value.string) (i * sz tb u) (sz tb u) = [Value.string zs[i]] := by
          rw [hsz, Nat.mul_one]
          apply List.ext_getElem?
          intro q
          rcases Nat.eq_zero_or_pos q with hq | hq
          · subst hq; rw [seg_get (by omega)]; simp [hil, hz]
          · rw [List.getElem?_eq_none (by simp [seg]; omega), List.getElem?_eq_none (by simp; omega)]
        rw [hseg]
        have hs := h5 _ (List.getElem_mem (show i < zs.length by omega))
        refine .str (s := zs[i].data.toList) hu ?_
        have hs2 : zs[i].data.toList.length = zs[i].size := rfl
        rw [hs2]; unfold maxLen at hs; unfold maxI; omega
end Go.Den
