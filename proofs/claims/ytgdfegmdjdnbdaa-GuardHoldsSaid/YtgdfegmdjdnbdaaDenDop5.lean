/- Texts of bytes. -/
import Derived.Test.YtgdfegmdjdnbdaaDenDop4
import Derived.Laws.BytesString
namespace Go.Den
open Go
set_option linter.unusedSectionVars false
set_option linter.unusedSimpArgs false
set_option linter.unusedVariables false

def byteOf : E → UInt8
  | .int n => UInt8.ofNat n.toNat
  | _ => 0
theorem byteOf_byteE (b : UInt8) : byteOf (byteE b) = b := by simp [byteOf, byteE]
theorem map_byteOf (l : List UInt8) : (l.map byteE).map byteOf = l := by
  rw [List.map_map]; conv => rhs; rw [← List.map_id l]
  congr 1; funext b; exact byteOf_byteE b

theorem foldl_push (ns : List Int) : ∀ (l : List UInt8), ns.foldl (fun r n => r.push (UInt8.ofNat n.toNat)) (⟨⟨l⟩⟩ : ByteArray) = ⟨⟨l ++ ns.map fun n => UInt8.ofNat n.toNat⟩⟩ := by
  induction ns with
  | nil => intro l; simp
  | cons n ns ih =>
    intro l
    simp only [List.foldl_cons, List.map_cons]
    have : (⟨⟨l⟩⟩ : ByteArray).push (UInt8.ofNat n.toNat) = ⟨⟨l ++ [UInt8.ofNat n.toNat]⟩⟩ := by
      simp [ByteArray.push]
    rw [this, ih]; simp

theorem bytes_of {tb : Tab} {H : Gh} {u : TypeId} (hsz : sz tb u = 1) (hu : td tb u = .int .u8) {cs : List Value} {xs : List E} (g2 : RowC tb H u cs xs) : ∃ ns : List Int, cs = ns.map (Value.int .u8) ∧ xs = ns.map E.int := by
  have hcl := g2.len
  rw [hsz, Nat.mul_one] at hcl
  have each : ∀ (i : Nat) e, xs[i]? = some e → ∃ n, cs[i]? = some (.int .u8 n) ∧ e = .int n := fun i e hi => by
    have h := g2.el i e hi
    rw [hsz, Nat.mul_one] at h
    have hil := (List.getElem?_eq_some_iff.1 hi).1
    have hci : cs[i]? = some cs[i] := List.getElem?_eq_getElem (by omega)
    have hseg : seg cs i 1 = [cs[i]] := by
      apply List.ext_getElem?
      intro q
      rcases Nat.eq_zero_or_pos q with hq | hq
      · subst hq; rw [seg_get (by omega)]; simp [hci]
      · rw [List.getElem?_eq_none (by simp [seg]; omega), List.getElem?_eq_none (by simp; omega)]
    rw [hseg] at h
    generalize hg : [cs[i]] = l at h
    cases h with
    | int hk hw => rw [hu] at hk; cases hk; simp at hg; exact ⟨_, by rw [hci, hg], rfl⟩
    | _ => simp_all
  clear g2
  induction xs generalizing cs with
  | nil => have : cs = [] := List.length_eq_zero_iff.1 (by simpa using hcl); subst this; exact ⟨[], rfl, rfl⟩
  | cons e xs ih =>
    cases cs with
    | nil => simp at hcl
    | cons v cs =>
      obtain ⟨n, h1, h2⟩ := each 0 e rfl
      obtain ⟨ns, h3, h4⟩ := ih (by simpa using hcl) (fun i e hi => each (i + 1) e (by simpa using hi))
      simp at h1
      exact ⟨n :: ns, by simp [h1, h3], by simp [h2, h4]⟩
section
variable {C : Cx} (hC : Ok C) {o : Oper} {env : Env} {σ : List Blk}
include hC
theorem Ok_strOf {s d u : TypeId} {x : Operand} {dx : D} {xs : List E} (ho : o.op = .convert s d x) (hs : td C.tb s = .sl u) (hu : td C.tb u = .int .u8) (hd : td C.tb d = .str) (hx : opd C.tb env s x = some dx) (hsl : slE dx = some xs) (hsame : same C.tb (tagD dx) s = true) :
    OpOk C o env σ ⟨True, .t d (.e (.str (xs.map byteOf))), σ⟩ :=
  OpOk_val fun H β a w hr he => by
    have hrd := (slE_rel (opd_rel he hx) hsl).cast hC.tab (same_td hsame)
    obtain ⟨ad, c, cs, g1, g2, g3⟩ := hrd.cells_of hs
    obtain ⟨_, _, _, k1, _, k3, _⟩ := hrd.sl_inv
    have hsz : sz C.tb u = 1 := hC.tab.sz_one (by simp [isAggT, hu]) (by rw [hu]; simp)
    have hcl := g2.len
    rw [hsz, Nat.mul_one] at hcl
    refine ⟨sv (xs.map byteOf), fun w' hw' => ?_, .mkStr hd (by simp; unfold maxN at k3; unfold maxI; omega)⟩
    have hcv := run_convert_bytes_string (P := C.P) w' s d u ad xs.length c (hC.tab.sl hs) (hC.tab.int hu) (hC.tab.str hd)
    rcases Nat.eq_zero_or_pos xs.length with h0 | h0
    · have hxe : xs = [] := List.length_eq_zero_iff.1 h0
      subst hxe
      cases ad with
      | none => simp only [List.length_nil] at hcv g1; simp [execOp, ho, g1, hcv, Conv.bytesToString, sv]; rfl
      | some ad =>
        have := run_bytesToString (P := C.P) w' ad 0 c [] (by simp [loadCells, loadCellsFrom])
        simp only [List.length_nil] at hcv g1
        simp [execOp, ho, g1, hcv, this, sv]; rfl
    · obtain ⟨b, off, rfl, hp⟩ := g3 h0
      have hns := bytes_of hsz hu g2
      obtain ⟨ns, rfl, rfl⟩ := hns
      have hload : (loadCells ⟨b, off, none⟩ (ns.map E.int).length).run C.P w' = .ok (ns.map (Value.int .u8)).toArray w' := by
        have := run_loadCells_list (P := C.P) w' ⟨b, off, none⟩ (ns.map (Value.int .u8)) (fun j v hj => by rw [add_plain]; exact hw' _ _ _ (hr.pers _ _ _ (hp j v hj)) (.inl ⟨_, hp j v hj⟩))
        simpa using this
      have := run_bytesToString (P := C.P) w' ⟨b, off, none⟩ _ c ns hload
      rw [this] at hcv
      have hf := foldl_push ns []
      have hemp : (⟨⟨[]⟩⟩ : ByteArray) = ByteArray.empty := rfl
      rw [hemp] at hf
      rw [hf] at hcv
      rw [List.length_map] at hcv g1
      simp [execOp, ho, g1, hcv, sv, List.map_map]
      intro n _; rfl
end
end Go.Den
