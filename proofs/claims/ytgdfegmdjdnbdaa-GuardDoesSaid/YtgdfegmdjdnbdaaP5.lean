/- The calculus and the walks, part 5: DenMrow2, DenMrow3, DenMrow4, DenMrow5, DenEq, DenKit3, DenWt, DenJoin, DenIter. -/
import Derived.Test.YtgdfegmdjdnbdaaP4
import Derived.Lib.UnsafeStr
import Derived.Laws.IdiomStrings
import Derived.ChangeKeysEq
import Derived.Laws.StructEq
import Derived.Lib.OthersKept
import Derived.Laws.RangeAny
/- Rows that are written: what is appended and copied, as operations. -/
namespace Go.Den
open Go
set_option linter.unusedSectionVars false
set_option linter.unusedSimpArgs false
set_option linter.unusedVariables false

theorem RowC.take {tb H u cs xs} (h : RowC tb H u cs xs) {n : Nat} (hn : n ≤ xs.length) : RowC tb H u (cs.take (n * sz tb u)) (xs.take n) := by
  have hle : n * sz tb u ≤ cs.length := by rw [h.len]; exact Nat.mul_le_mul_right _ hn
  refine ⟨by simp; rw [Nat.min_eq_left hle, Nat.min_eq_left hn], fun i x hx => ?_⟩
  have hi : i < n := by have := (List.getElem?_eq_some_iff.1 hx).1; simp at this; omega
  rw [List.getElem?_take_of_lt hi] at hx
  have he : seg (cs.take (n * sz tb u)) (i * sz tb u) (sz tb u) = seg cs (i * sz tb u) (sz tb u) := by
    have hb : i * sz tb u + sz tb u ≤ n * sz tb u := by
      have := Nat.mul_le_mul_right (sz tb u) (show i + 1 ≤ n from hi); rwa [Nat.add_mul, Nat.one_mul] at this
    have h0 : cs.take (n * sz tb u) = seg cs 0 (n * sz tb u) := by simp [seg]
    rw [h0, seg_seg hb, Nat.zero_add]
  rw [he]; exact h.el i x hx
theorem RowC.drop {tb H u cs xs} (h : RowC tb H u cs xs) (n : Nat) : RowC tb H u (cs.drop (n * sz tb u)) (xs.drop n) := by
  refine ⟨by simp [h.len, Nat.sub_mul], fun i x hx => ?_⟩
  rw [List.getElem?_drop] at hx
  have := h.el _ x hx
  rwa [Nat.add_mul, show seg cs (n * sz tb u + i * sz tb u) (sz tb u) = seg (cs.drop (n * sz tb u)) (i * sz tb u) (sz tb u) by simp [seg]] at this

theorem Rd.arr_inv {tb H t cs xs n u} (h : Rd tb H t cs (.agg xs)) (a : td tb t = .arr n u) :
    cs.length = n * sz tb u ∧ xs.length = n ∧ ∀ (i : Nat) (x : E), xs[i]? = some x → Rd tb H u (seg cs (i * sz tb u) (sz tb u)) x := by
  cases h with
  | arr a' b c d => rw [a] at a'; cases a'; exact ⟨b, c, d⟩
  | st a' => rw [a] at a'; cases a'

def SrcAt (C : Cx) (env : Env) (σ : List Blk) (t t2 : TypeId) (y : Operand) (ys : List E) : Prop :=
  ∀ H β a w u, td C.tb t = .sl u → Rel C.tb H β σ w → EnvRel C.tb H β σ C.n a env → (t2 = t ∨ td C.tb t2 = .str) ∧ SrcOk C.tb H w C.P u (a.eval y) ys

section
variable {C : Cx} (hC : Ok C) {o : Oper} {env : Env} {σ : List Blk}
include hC

theorem SrcAt_E {t t2 : TypeId} {y : Operand} {dy : D} {ys : List E} (hy : opd C.tb env t2 y = some dy) (h : srcE C.tb t t2 dy = some ys) : SrcAt C env σ t t2 y ys := by
  intro H β a w u ht hr he
  have hv := opd_rel he hy
  unfold srcE at h
  split at h
  · rename_i h2
    rw [ht] at h
    simp only at h
    split at h
    · rename_i hu
      simp only [Option.map_eq_some_iff] at h
      obtain ⟨s, hs, rfl⟩ := h
      obtain ⟨hv, _⟩ := strAny_rel hv hs
      rw [hv]
      have hsz1 : sz C.tb u = 1 := hC.tab.sz_one (by simp [isAggT, hu]) (by simp [hu])
      have hb : ∀ b : UInt8, IntKind.wrap .u8 (b.toNat : Int) = b.toNat := fun b => inR_wrap (by have := b.toNat_lt; simp [inR]; omega)
      refine ⟨.inr h2, by simp [sv, Builtin.lenOf]; rfl, s.map fun b => .int .u8 b.toNat, ⟨by simp [hsz1], fun i x hx => ?_⟩, fun n hn w' _ => ?_⟩
      · simp only [List.getElem?_map, Option.map_eq_some_iff] at hx
        obtain ⟨b, hb1, rfl⟩ := hx
        have : seg (s.map fun b => Value.int .u8 b.toNat) (i * sz C.tb u) (sz C.tb u) = [.int .u8 b.toNat] := by
          rw [hsz1, Nat.mul_one]
          unfold seg
          rw [List.take_one, List.head?_drop]
          simp [hb1]
        rw [this]
        exact .int hu (hb b)
      · have hex : ((⟨⟨s⟩⟩ : ByteArray).extract 0 n).data.toList = s.take n := by
          simp
        simp [sv, Builtin.firstCells, hsz1, ← List.map_take]
    · cases h
  · split at h
    · rename_i hbeq
      have he' := Nat.eq_of_beq_eq_true hbeq
      subst he'
      split at h
      · rename_i hs
        have hrd := (slE_rel hv h).cast hC.tab (same_td hs)
        obtain ⟨ad, c, cs, hve, hrow, hpos⟩ := hrd.cells_of ht
        rw [hve]
        refine ⟨.inl rfl, by simp [Builtin.lenOf], cs, hrow, fun n hn w' hw' => ?_⟩
        rcases Nat.eq_zero_or_pos n with h0 | h0
        · subst h0
          cases ad with
          | none => simp [Builtin.firstCells, loadCells, loadCellsFrom]
          | some a => simp [Builtin.firstCells, loadCells, loadCellsFrom]
        · obtain ⟨b, off, rfl, hp⟩ := hpos (by omega)
          have hle : n * sz C.tb u ≤ cs.length := by rw [hrow.len]; exact Nat.mul_le_mul_right _ hn
          exact run_firstCells_some w' (sz C.tb u) n ⟨b, off, none⟩ _ _ (cs.take (n * sz C.tb u)) (by simp [Nat.min_eq_left hle]) (fun j v hj => by
            rw [add_plain]
            have hjn : j < n * sz C.tb u := by have := (List.getElem?_eq_some_iff.1 hj).1; simp at this; omega
            rw [List.getElem?_take_of_lt hjn] at hj
            exact hw' _ _ _ (hr.pers _ _ _ (hp j v hj)))
      · cases h
    · cases h

/-- The cells of a slice of an own array. -/
theorem asl_cells {H β w v i p u off n} {ty : TypeId} {X : T} {ds : List E} (hr : Rel C.tb H β σ w) (hv : DRel C.tb H β σ v (.asl i p u off n)) (hi : σ[i]? = some (.tree ty X)) (hX : getT p X = .e (.agg ds)) :
    ∃ b q c, v = .slice (some ⟨b, q, none⟩) n c ∧ n ≤ maxN ∧ off + n ≤ ds.length ∧ ∃ cs, RowC C.tb H u cs ((ds.drop off).take n) ∧ (∀ (j : Nat) v, cs[j]? = some v → w.cell? ⟨b, q + j, none⟩ = some v ∧ H b (q + j) = .mine i ∧ w.frozen? ⟨b, q + j, none⟩ = false) := by
  cases hv with
  | @asl i path u off n c a m ha hb hc hd hm =>
    obtain ⟨b, ob, ty', X', o', z, rfl, e2, e1, e3, e4, cs, f2, f3, f4, f0⟩ := hr.at hC ha
    rw [hi] at e2; cases e2
    obtain ⟨o2, v2, g1, g2⟩ := hb ty X hi
    rw [e3] at g1; cases g1
    have hp := (f4.part hC.tab e3)
    rw [hX] at hp
    have hrd := hp.rd
    obtain ⟨a2, a3, a4⟩ := hrd.arr_inv g2
    have hle := offT_le hC.tab e3
    have hsa := hC.tab.sz_arr g2
    have hrow : RowC C.tb H u (seg cs o' (sz C.tb z)) ds := ⟨by rw [a2, a3], a4⟩
    have hr2 := (hrow.drop off).take (n := n) (by simp; omega)
    refine ⟨b, ob + o' + off * sz C.tb u, c, rfl, hm, by omega, _, hr2, fun j v hj => ?_⟩
    have hjl := (List.getElem?_eq_some_iff.1 hj).1
    have hsl := seg_length (cs := cs) (o := o') (n := sz C.tb z) (by omega)
    simp [hsl] at hjl
    rw [List.getElem?_take_of_lt (by omega), List.getElem?_drop, seg_get (by omega)] at hj
    have := f3 _ v hj
    rwa [show ob + (o' + (off * sz C.tb u + j)) = ob + o' + off * sz C.tb u + j by omega] at this

theorem SrcAt_asl {t : TypeId} {s i off n : Nat} {p : List Nat} {u : TypeId} {ty : TypeId} {X : T} {ds : List E} (hs : getD env s = .asl i p u off n) (ht : td C.tb t = .sl u) (hi : σ[i]? = some (.tree ty X)) (hX : getT p X = .e (.agg ds)) :
    SrcAt C env σ t t (.tmp s) ((ds.drop off).take n) := by
  intro H β a w u' ht' hr he
  rw [ht] at ht'; cases ht'
  have hv := he.get s
  rw [hs] at hv
  obtain ⟨b, q, c, h1, h2, h3, cs, hrow, hc⟩ := asl_cells hC hr hv hi hX
  have hve : a.eval (.tmp s) = .slice (some ⟨b, q, none⟩) n c := h1
  have hlen : ((ds.drop off).take n).length = n := by simp; omega
  rw [hve]
  refine ⟨.inl rfl, by simp [Builtin.lenOf]; omega, cs, hrow, fun k hk w' hw' => ?_⟩
  rw [hlen] at hk
  have hle : k * sz C.tb u ≤ cs.length := by rw [hrow.len, hlen]; exact Nat.mul_le_mul_right _ hk
  exact run_firstCells_some w' (sz C.tb u) k ⟨b, q, none⟩ _ _ (cs.take (k * sz C.tb u)) (by simp [Nat.min_eq_left hle]) (fun j v hj => by
    rw [add_plain]
    have hjn : j < k * sz C.tb u := by have := (List.getElem?_eq_some_iff.1 hj).1; simp at this; omega
    rw [List.getElem?_take_of_lt hjn] at hj
    exact hw' _ _ _ (hc j v hj).1)

theorem Ok_appendM {x y : Operand} {t t2 u : TypeId} {dx : D} {i n : Nat} {xs ys : List E} {tx : TypeId} (ho : o.op = .call { callee := .builtin .append, args := #[x, y], argTypes := #[t, t2] }) (ht : td C.tb t = .sl u) (hz : plain C.tb zf u = true)
    (hx : opd C.tb env t x = some dx) (hxs : dx = .t tx (.msl i n)) (hi : σ[i]? = some (.mrow u true xs)) (hn : n = xs.length) (hys : SrcAt C env σ t t2 y ys)
    (hp : (xs.length + ys.length) * nb C.tb u ≤ maxL ∧ xs.length + ys.length ≤ maxL) :
    OpOk C o env σ ⟨True, .t t (.msl i (n + ys.length)), σ.set i (.mrow u true (xs ++ ys))⟩ := by
  refine OpOk_do (by simp [isVal, ho]) ?_
  intro H β a w hr he hd K Qx hK
  have hvx := opd_rel he hx
  subst hxs
  obtain ⟨h2, hsrc⟩ := hys H β a w u ht hr he
  have hil : i < σ.length := (List.getElem?_eq_some_iff.1 hi).1
  have hβ : β[i]? = some (a.eval x) := by
    generalize a.eval x = vx at hvx ⊢
    cases hvx with
    | @t ty v cs z aa bb => cases bb with
      | msl b1 b2 b3 =>
        have a' := aa
        simp [VC, isAggT, b1] at a'
        subst a'
        obtain ⟨ow, xs', k1, k2, k3⟩ := b3
        rw [hi] at k1; cases k1
        exact k3 hn
  have hM : MRel C.tb H w i (a.eval x) u true xs := hr.blk i _ _ hi hβ
  obtain ⟨v', w', H', hrun, hb', hpm, hM', hoth, hit, hstp, hsame⟩ := appendM_core hC (ty := o.type) ht hz hr.base hM h2 hsrc hp.1 hp.2
  have hex : (execOp a.eval o).run C.P w = .ok (.value v') w' := by
    rw [opdArgs2 ho]
    simp [builtin, hrun]
  have hlenl : (xs ++ ys).length = xs.length + ys.length := by simp
  have hself : (σ.set i (.mrow u true (xs ++ ys)))[i]? = some (.mrow u true (xs ++ ys)) := by simp [hil]
  have hev : Ev H β σ H' (β.set i v') (σ.set i (.mrow u true (xs ++ ys))) := by
    refine ⟨hpm, fun j ty z hj => ?_, fun j ety m hj => ?_, fun j s p hj => ?_, fun j ety oo zs hj => ?_, fun j k9 e9 zs hj => ?_⟩
    · have hne : i ≠ j := fun e => by subst e; rw [hi] at hj; cases hj
      exact ⟨List.getElem?_set_ne hne, z, by rw [List.getElem?_set_ne hne]; exact hj⟩
    · have hne : i ≠ j := fun e => by subst e; rw [hi] at hj; cases hj
      exact ⟨m, by rw [List.getElem?_set_ne hne]; exact hj, Nat.le_refl _, fun _ => List.getElem?_set_ne hne⟩
    · have hne : i ≠ j := fun e => by subst e; rw [hi] at hj; cases hj
      exact ⟨List.getElem?_set_ne hne, s, p, by rw [List.getElem?_set_ne hne]; exact hj⟩
    · by_cases hji : i = j
      · subst hji
        rw [hi] at hj; cases hj
        refine ⟨true, _, hself, by omega, fun e => ?_⟩
        rw [List.getElem?_set_self (by rw [hr.len]; exact hil), hsame (by omega), hβ]
      · exact ⟨oo, zs, by rw [List.getElem?_set_ne hji]; exact hj, Nat.le_refl _, fun _ => List.getElem?_set_ne hji⟩
    · have hne : i ≠ j := fun e => by subst e; rw [hi] at hj; cases hj
      exact ⟨List.getElem?_set_ne hne, zs, by rw [List.getElem?_set_ne hne]; exact hj⟩
  have hrel : Rel C.tb H' (β.set i v') (σ.set i (.mrow u true (xs ++ ys))) w' := by
    refine ⟨hb'.pers, hb'.dom, by simp [hr.len], fun j k bv hk hv => ?_⟩
    by_cases hji : i = j
    · subst hji
      rw [hself] at hk
      rw [List.getElem?_set_self (by rw [hr.len]; exact hil)] at hv
      cases hk; cases hv
      exact hM'
    · rw [List.getElem?_set_ne hji] at hk hv
      exact (hr.blk j k bv hk hv).mono hev (fun b o h => have q := hoth b o j h (fun e => hji e.symm); ⟨q.1, q.2.1, fun _ _ => q.2.2.1, q.2.2.2⟩) (fun b x h ho hh => hit b x j h (fun e => hji e.symm) ho hh)
  simp only [Oper.wp, hex, Oper.upon]
  refine hK v' _ w' H' _ _ ⟨rfl, rfl⟩ hrel ?_ hstp hev
  refine .t (cs := [v']) (by simp [VC, isAggT, ht]) (.msl ht ?_ ⟨true, _, hself, by omega, fun _ => by simp [hr.len, hil]⟩)
  rcases hM' with ⟨_, rfl, h0, _⟩ | ⟨b, c, cs, zs, e1, e2, e3, _⟩
  · have : n + ys.length = 0 := by rw [hn, ← hlenl, h0]; rfl
    rw [this]; exact ⟨_, _, rfl, Nat.zero_le _⟩
  · rw [hlenl, ← hn] at e1 e3; exact ⟨_, _, e1, e3⟩

/-- A text of a slice of an own array. -/
theorem Ok_strOfA {s d u ty : TypeId} {q i off n : Nat} {p : List Nat} {X : T} {ds : List E} (ho : o.op = .convert s d (.tmp q)) (hs : td C.tb s = .sl u) (hu : td C.tb u = .int .u8) (hd : td C.tb d = .str)
    (hq : getD env q = .asl i p u off n) (hi : σ[i]? = some (.tree ty X)) (hX : getT p X = .e (.agg ds)) :
    OpOk C o env σ ⟨True, .t d (.e (.str (((ds.drop off).take n).map byteOf))), σ⟩ :=
  OpOk_val fun H β a w hr he => by
    have hv := he.get q
    rw [hq] at hv
    obtain ⟨b, k, c, h1, h2, h3, cs, hrow, hc⟩ := asl_cells hC hr hv hi hX
    have hlen : ((ds.drop off).take n).length = n := by simp; omega
    have hsz : sz C.tb u = 1 := hC.tab.sz_one (by simp [isAggT, hu]) (by rw [hu]; simp)
    refine ⟨sv (((ds.drop off).take n).map byteOf), fun w' hw' => ?_, .mkStr hd (by rw [List.length_map, hlen]; unfold maxN at h2; unfold maxI; omega)⟩
    have hcv := run_convert_bytes_string (P := C.P) w' s d u (some ⟨b, k, none⟩) n c (hC.tab.sl hs) (hC.tab.int hu) (hC.tab.str hd)
    obtain ⟨ns, hcs, hxs⟩ := bytes_of hsz hu hrow
    have hnl : ns.length = n := by rw [← hlen, hxs, List.length_map]
    have hrs : i ∈ rsOf env o.op := by rw [ho]; simp [rsOf, hq]
    have hload : (loadCells ⟨b, k, none⟩ n).run C.P w' = .ok (ns.map (Value.int .u8)).toArray w' := by
      have := run_loadCells_list (P := C.P) w' ⟨b, k, none⟩ (ns.map (Value.int .u8)) (fun j v hj => by
        rw [add_plain]
        obtain ⟨g1, g2, _⟩ := hc j v (by rw [hcs]; exact hj)
        exact hw' _ _ _ g1 (.inr ⟨i, hrs, g2⟩))
      rw [List.length_map, hnl] at this
      exact this
    have := run_bytesToString (P := C.P) w' ⟨b, k, none⟩ _ c ns hload
    rw [this] at hcv
    have hf := foldl_push ns []
    have hemp : (⟨⟨[]⟩⟩ : ByteArray) = ByteArray.empty := rfl
    rw [hemp] at hf
    rw [hf] at hcv
    rw [hxs]
    have hve : a.eval (.tmp q) = .slice (some ⟨b, k, none⟩) n c := h1
    simp [execOp, ho, hve, hcv, sv, List.map_map]
    intro n _; rfl
end
end Go.Den
/- Rows that are written: told once for all; made a text's; copied into an own array. -/
namespace Go.Den
open Go
set_option linter.unusedSectionVars false
set_option linter.unusedSimpArgs false
set_option linter.unusedVariables false

/-! ### freezing -/
theorem cell?_freeze (w : World) (a : Addr) (n : Nat) (b o : Nat) : (w.freeze a n).cell? ⟨b, o, none⟩ = w.cell? ⟨b, o, none⟩ := by
  unfold World.freeze
  split
  · rfl
  · simp only [World.cell?, Array.getElem?_modify]
    by_cases h : a.block = b
    · rw [if_pos h]
      cases w.heap[b]? with
      | none => rfl
      | some ob => cases ob <;> rfl
    · rw [if_neg h]
theorem shape?_freeze (w : World) (a : Addr) (n : Nat) (b : Nat) : (w.freeze a n).shape? b = w.shape? b := by
  unfold World.freeze
  split
  · rfl
  · simp only [World.shape?, Array.getElem?_modify]
    by_cases h : a.block = b
    · rw [if_pos h]
      cases w.heap[b]? with
      | none => rfl
      | some ob => cases ob <;> rfl
    · rw [if_neg h]
theorem heap_freeze (w : World) (a : Addr) (n : Nat) (b : Nat) (h : b ≠ a.block) : (w.freeze a n).heap[b]? = w.heap[b]? := by
  unfold World.freeze
  split
  · rfl
  · simp only [Array.getElem?_modify]; rw [if_neg (fun e => h e.symm)]
theorem frozen?_freeze (w : World) (a : Addr) (n : Nat) (b o : Nat) (h : b ≠ a.block) : (w.freeze a n).frozen? ⟨b, o, none⟩ = w.frozen? ⟨b, o, none⟩ := by
  simp only [World.frozen?]; rw [heap_freeze w a n b h]

/-- The ghost behind a row that is told once for all. -/
def frzH (H : Gh) (b n : Nat) (cs : List Value) : Gh := fun b' o => if b' = b ∧ o < n then .pers (cs.getD o undef) else H b' o

theorem Ev.frz {H H' : Gh} {β : List Value} {σ : List Blk} {i : Nat} {u : TypeId} {xs : List E} (hi : σ[i]? = some (.mrow u true xs)) (hp : ∀ b o v, H b o = .pers v → H' b o = .pers v) : Ev H β σ H' β (σ.set i (.mrow u false xs)) := by
  have hil : i < σ.length := (List.getElem?_eq_some_iff.1 hi).1
  refine ⟨hp, fun j ty z hj => ?_, fun j ety m hj => ?_, fun j s p hj => ?_, fun j ety oo zs hj => ?_, fun j k9 e9 zs hj => ?_⟩
  · have hne : i ≠ j := fun e => by subst e; rw [hi] at hj; cases hj
    exact ⟨rfl, z, by rw [List.getElem?_set_ne hne]; exact hj⟩
  · have hne : i ≠ j := fun e => by subst e; rw [hi] at hj; cases hj
    exact ⟨m, by rw [List.getElem?_set_ne hne]; exact hj, Nat.le_refl _, fun _ => rfl⟩
  · have hne : i ≠ j := fun e => by subst e; rw [hi] at hj; cases hj
    exact ⟨rfl, s, p, by rw [List.getElem?_set_ne hne]; exact hj⟩
  · by_cases hji : i = j
    · subst hji
      rw [hi] at hj; cases hj
      exact ⟨false, xs, by simp [hil], Nat.le_refl _, fun _ => rfl⟩
    · exact ⟨oo, zs, by rw [List.getElem?_set_ne hji]; exact hj, Nat.le_refl _, fun _ => rfl⟩
  · have hne : i ≠ j := fun e => by subst e; rw [hi] at hj; cases hj
    exact ⟨rfl, zs, by rw [List.getElem?_set_ne hne]; exact hj⟩

/-- A world, or that world with a run of cells of the row frozen. -/
def FrzW (w : World) (bv : Value) (u : TypeId) (tb : Tab) (w' : World) : Prop :=
  w' = w ∨ ∃ b n m c, w' = w.freeze ⟨b, 0, none⟩ n ∧ bv = .slice (some ⟨b, 0, none⟩) m c ∧ 0 < m * sz tb u

/-- A row is told once for all; some of its cells may be frozen with it. -/
theorem Rel.frz {tb H β σ w} (h : Rel tb H β σ w) {i : Nat} {u : TypeId} {xs : List E} (hi : σ[i]? = some (.mrow u true xs)) {bv : Value} (hβ : β[i]? = some bv) {w' : World} (hw : FrzW w bv u tb w') :
    ∃ H', Rel tb H' β (σ.set i (.mrow u false xs)) w' ∧ Stp H w H' w' ∧ (∀ ts, i ∈ ts → Frm ts H w H' w') ∧ Ev H β σ H' β (σ.set i (.mrow u false xs)) := by
  have hil : i < σ.length := (List.getElem?_eq_some_iff.1 hi).1
  have hM : MRel tb H w i bv u true xs := h.blk i _ _ hi hβ
  have hself : (σ.set i (.mrow u false xs))[i]? = some (.mrow u false xs) := by simp [hil]
  obtain ⟨b, n, cs, hc, hrd, hbn⟩ : ∃ b n cs, (∀ o, o < n → H b o = .mine i ∧ w.cell? ⟨b, o, none⟩ = some (cs.getD o undef)) ∧ (∀ t, td tb t = .sl u → Rd tb (frzH H b n cs) t [bv] (.sl xs)) ∧
      (∀ m c b', bv = .slice (some ⟨b', 0, none⟩) m c → 0 < m * sz tb u → b' = b ∧ ∀ o v, w.cell? ⟨b, o, none⟩ = some v → H b o = .mine i) := by
    rcases hM with ⟨a, rfl, rfl, h8⟩ | ⟨b, c, cs, zs, rfl, e2, e3, e4, e5, e6, e7⟩
    · exact ⟨0, 0, [], fun o h => by omega, fun t ht => .sl0 ht, fun m c b' e hpos => by simp only [Value.slice.injEq] at e; obtain ⟨_, rfl, _⟩ := e; simp at hpos⟩
    · have hcl : ∀ o, o < cs.length → H b o = .mine i ∧ w.cell? ⟨b, o, none⟩ = some (cs.getD o undef) := fun o ho => by
        have := e7 o cs[o] (by rw [List.getElem?_append_left ho]; exact List.getElem?_eq_getElem ho)
        exact ⟨this.2.1, by rw [this.1]; simp [List.getD, List.getElem?_eq_getElem ho]⟩
      have hpm : ∀ b' o v, H b' o = .pers v → frzH H b cs.length cs b' o = .pers v := fun b' o v e => by
        unfold frzH; split
        · rename_i hh; obtain ⟨rfl, h2⟩ := hh; rw [(hcl o h2).1] at e; cases e
        · exact e
      refine ⟨b, cs.length, cs, hcl, fun t ht => ?_, fun m c' b' e hpos => ?_⟩
      · refine .sl ht e4.len (fun j v hj => ?_) (fun k x hx => (e4.el k x hx).mono hpm) e2.1 e3
        have hjl := (List.getElem?_eq_some_iff.1 hj).1
        rw [Nat.zero_add]
        unfold frzH; rw [if_pos ⟨rfl, hjl⟩]; simp [List.getD, hj]
      · cases e
        refine ⟨rfl, fun o v hv => ?_⟩
        have hsh := e6 (by have := Nat.mul_le_mul_right (sz tb u) e2.1; omega)
        have ho : o < c * sz tb u := by
          simp only [World.shape?] at hsh
          simp only [World.cell?] at hv
          cases hh : w.heap[b]? with
          | none => rw [hh] at hsh; cases hsh
          | some ob =>
            rw [hh] at hsh hv
            cases ob <;> simp at hsh hv
            rw [← hsh.2]; exact (Array.getElem?_eq_some_iff.1 hv).1
        exact (e7 o _ (List.getElem?_eq_getElem (by rw [e5]; exact ho))).2.1
  have hpm : ∀ b' o v, H b' o = .pers v → frzH H b n cs b' o = .pers v := fun b' o v e => by
    unfold frzH; split
    · rename_i hh; obtain ⟨rfl, h2⟩ := hh; rw [(hc o h2).1] at e; cases e
    · exact e
  have hmine : ∀ b' o j, j ≠ i → H b' o = .mine j → frzH H b n cs b' o = .mine j := fun b' o j hne e => by
    unfold frzH; split
    · rename_i hh; obtain ⟨rfl, h2⟩ := hh; rw [(hc o h2).1] at e; cases e; exact absurd rfl hne
    · exact e
  have hev := Ev.frz (β := β) hi hpm
  have hcell : ∀ b' o, w'.cell? ⟨b', o, none⟩ = w.cell? ⟨b', o, none⟩ := fun b' o => by
    rcases hw with rfl | ⟨b2, n2, m, c, rfl, _⟩
    · rfl
    · exact cell?_freeze _ _ _ _ _
  have hshp : ∀ b', w'.shape? b' = w.shape? b' := fun b' => by
    rcases hw with rfl | ⟨b2, n2, m, c, rfl, _⟩
    · rfl
    · exact shape?_freeze _ _ _ _
  have hb2 : ∀ b' , (∃ o v, w.cell? ⟨b', o, none⟩ = some v ∧ H b' o ≠ .mine i) ∨ (∀ o, H b' o ≠ .mine i) → w'.heap[b']? = w.heap[b']? := fun b' hne => by
    rcases hw with rfl | ⟨b2, n2, m, c, rfl, hbv, hpos⟩
    · rfl
    · obtain ⟨rfl, hall⟩ := hbn m c b2 hbv hpos
      by_cases hbb : b' = b2
      · subst hbb
        rcases hne with ⟨o, v, h1, h2⟩ | h1
        · exact absurd (hall o v h1) h2
        · exfalso
          rcases hM with ⟨a, e1, _⟩ | ⟨b, c', cs', zs, e1, e2, e3, e4, e5, e6, e7⟩
          · rw [hbv] at e1; simp only [Value.slice.injEq] at e1; obtain ⟨_, rfl, _⟩ := e1; simp at hpos
          · rw [hbv] at e1; cases e1
            have hlt : 0 < (cs' ++ zs).length := by rw [e5]; have := Nat.mul_le_mul_right (sz tb u) e2.1; omega
            exact h1 0 (e7 0 _ (List.getElem?_eq_getElem hlt)).2.1
      · exact heap_freeze _ _ _ _ hbb
  have hfz : ∀ b' o v, w.cell? ⟨b', o, none⟩ = some v → H b' o ≠ .mine i → w'.frozen? ⟨b', o, none⟩ = w.frozen? ⟨b', o, none⟩ := fun b' o v h1 h2 => by
    simp only [World.frozen?]; rw [hb2 b' (.inl ⟨o, v, h1, h2⟩)]
  have hsize : w'.heap.size = w.heap.size ∧ w'.os = w.os ∧ w'.tape = w.tape ∧ w'.output = w.output := by
    rcases hw with rfl | ⟨b2, n2, m, c, rfl, _⟩
    · exact ⟨rfl, rfl, rfl, rfl⟩
    · unfold World.freeze; split <;> simp
  have hpers' : ∀ b' o v, frzH H b n cs b' o = .pers v → w'.cell? ⟨b', o, none⟩ = some v := fun b' o v e => by
    rw [hcell]
    unfold frzH at e; split at e
    · rename_i hh; obtain ⟨rfl, h2⟩ := hh; cases e; exact (hc o h2).2
    · exact h.pers b' o v e
  refine ⟨frzH H b n cs, ⟨hpers', fun b' o e => ?_, by simp [h.len], fun j k bvj hk hv => ?_⟩, ?_, fun ts hts => ?_, hev⟩
  · rw [hsize.1]
    by_cases hh : H b' o = .none
    · unfold frzH at e; split at e
      · rename_i h2; obtain ⟨rfl, h2⟩ := h2; rw [(hc o h2).1] at hh; cases hh
      · exact absurd hh e
    · exact h.dom b' o hh
  · by_cases hji : i = j
    · subst hji
      rw [hself] at hk; cases hk
      rw [hβ] at hv; cases hv
      exact hrd
    · rw [List.getElem?_set_ne hji] at hk
      refine (h.blk j k bvj hk hv).mono hev (fun b' o e => ⟨hmine b' o j (fun e => hji e.symm) e, hcell b' o, fun v hv => hfz b' o v hv (by rw [e]; simp; exact fun e => hji e.symm), hshp b'⟩) (fun b' x9 e _ he => ?_)
      rw [hb2 b' (.inr fun o => by rw [e o]; simp; exact fun e => hji e.symm)]; exact he
  · refine ⟨hsize.2.1, hsize.2.2.1, hsize.2.2.2, by rw [hsize.1]; exact Nat.le_refl _, fun b' _ o hn => ?_, fun b' _ o j e => ?_, fun b' _ hn => hb2 b' (.inr fun o => hn o i), fun b' _ o _ => hcell b' o, fun b' _ o v hv hn => hfz b' o v hv (hn i), fun b' _ => hshp b'⟩
    · unfold frzH; split
      · rename_i hh; obtain ⟨rfl, h2⟩ := hh; exact absurd (hc o h2).1 (hn i)
      · rfl
    · unfold frzH at e; split at e
      · cases e
      · exact ⟨j, e⟩
  · intro b' o v hv hk
    refine ⟨(hcell b' o).trans hv, ?_⟩
    rcases hk with ⟨x, hx⟩ | ⟨j, hj, hm⟩
    · exact .inl ⟨x, hpm _ _ _ hx⟩
    · exact .inr ⟨j, hj, hmine _ _ _ (fun e => hj (e ▸ hts)) hm⟩

theorem run_sliceData_none {P : Program} {w : World} {ts : Array TypeId} {ty : TypeId} {n c : Nat} : (Builtin.unsafeSliceData_ ts ty #[.slice none n c]).run P w = .ok (.pointer none) w := rfl
theorem run_sliceData_some {P : Program} {w : World} {ts : Array TypeId} {ty : TypeId} {n c : Nat} {a : Addr} (hc : c ≠ 0) : (Builtin.unsafeSliceData_ ts ty #[.slice (some a) n c]).run P w = .ok (.pointer (some a)) w := by
  have : Builtin.unsafeSliceData_ ts ty #[.slice (some a) n c] = (if c ≠ 0 then pure (.pointer (some a)) else do
    if (← viewAt a.block).isSome then pure (.pointer (some a)) else pure (.pointer (some ⟨← newObj (.view a (← elemOf ty)), 0, none⟩))) := rfl
  rw [this, if_pos hc]; rfl

section
variable {C : Cx} (hC : Ok C) {o : Oper} {env : Env} {σ : List Blk}
include hC

/-- unsafe.SliceData of a row that is written. -/
theorem Ok_sliceData {t u v : TypeId} {x : Operand} {tx : TypeId} {i n : Nat} {xs : List E} (ho : o.op = .call { callee := .builtin .unsafeSliceData, args := #[x], argTypes := #[t] }) (ht : td C.tb t = .sl u) (hu : td C.tb u = .int .u8)
    (hx : opd C.tb env t x = some (.t tx (.msl i n))) (hsx : same C.tb tx t = true) (hi : σ[i]? = some (.mrow u true xs)) (hn : n = xs.length) :
    OpOk C o env σ ⟨True, .mel u i n 0 [], σ⟩ :=
  OpOk_val fun H β a w hr he => by
    have hv := opd_rel he hx
    have hβ : β[i]? = some (a.eval x) := by
      generalize a.eval x = vx at hv ⊢
      cases hv with
      | @t ty v cs z aa bb => cases bb with
        | msl b1 b2 b3 =>
          have a' := aa
          simp [VC, isAggT, b1] at a'
          subst a'
          obtain ⟨ow, xs', k1, k2, k3⟩ := b3
          rw [hi] at k1; cases k1
          exact k3 hn
    have hM : MRel C.tb H w i (a.eval x) u true xs := hr.blk i _ _ hi hβ
    rcases hM with ⟨a, e0, e1, h8⟩ | ⟨b, c, cs, zs, e1, e2, e3, e4, e5, e6, e7⟩
    · rw [h8 hu] at e0
      refine ⟨.pointer none, fun w' hw' => ?_, .mel (o := 0) (v := u) rfl ⟨true, xs, hi, by omega, fun _ hj => by rw [e1] at hn; simp at hn; omega⟩⟩
      rw [opdArg ho]
      simp [builtin, e0, run_sliceData_none]
    · refine ⟨.pointer (some ⟨b, 0, none⟩), fun w' hw' => ?_, .mel (o := 0) (v := u) rfl ⟨true, xs, hi, by omega, fun _ hj => ⟨b, c, by rw [hβ, e1, hn], by simp⟩⟩⟩
      rw [opdArg ho]
      have hc : c ≠ 0 := by omega
      simp [builtin, e1, run_sliceData_some hc]

theorem byteOf_of {ns : List Int} : (ns.map E.int).map byteOf = ns.map fun n => UInt8.ofNat n.toNat := by
  rw [List.map_map]; rfl

/-- unsafe.String of a row of bytes: the row is told once for all. -/
theorem OpF_unsafeString {pt it u : TypeId} {x y : Operand} {dx dy : D} {i n : Nat} {m : Int} {xs : List E} {ts : List Nat} (ho : o.op = .call { callee := .builtin .unsafeString, args := #[x, y], argTypes := #[pt, it] }) (hpt : td C.tb pt = .ptr u) (hit : td C.tb it = .int .i64) (hu : td C.tb u = .int .u8) (hrt : td C.tb o.type = .str)
    (hx : opd C.tb env pt x = some dx) (hdx : dx = .mel u i n 0 []) (hy : opd C.tb env it y = some dy) (hm : intAt C.tb it dy = some m) (hi : σ[i]? = some (.mrow u true xs)) (hn : n = xs.length) (hmn : m = xs.length) (hts : i ∈ ts) :
    OpF C o env σ ts (fun d s => d = .t o.type (.e (.str (xs.map byteOf))) ∧ s = σ.set i (.mrow u false xs)) := by
  intro H β a w hr he hd K Qx hK
  have hv := opd_rel he hx
  subst hdx
  obtain ⟨hyv, _⟩ := intAt_rel (opd_rel he hy) hm hit
  have hsz : sz C.tb u = 1 := hC.tab.sz_one (by simp [isAggT, hu]) (by rw [hu]; simp)
  have hil : i < σ.length := (List.getElem?_eq_some_iff.1 hi).1
  have hiβ : i < β.length := by rw [hr.len]; exact hil
  obtain ⟨bv, hβ⟩ : ∃ bv, β[i]? = some bv := ⟨_, List.getElem?_eq_getElem hiβ⟩
  have hM : MRel C.tb H w i bv u true xs := hr.blk i _ _ hi hβ
  have hfin : ∀ w', FrzW w bv u C.tb w' → (execOp a.eval o).run C.P w = .ok (.value (sv (xs.map byteOf))) w' → ((xs.map byteOf).length : Int) ≤ maxI → o.wp C.P a w K Qx := fun w' hw hrun hlen => by
    obtain ⟨H', h1, h2, h3, h4⟩ := hr.frz hi hβ hw
    simp only [Oper.wp, hrun, Oper.upon]
    exact hK _ _ w' H' β _ ⟨rfl, rfl⟩ h1 (.mkStr hrt hlen) h2 h4 (h3 ts hts)
  generalize hvx : a.eval x = vx at hv
  cases hv with
  | @mel u i n j path o' vt pa q1 q2 =>
    obtain ⟨ow, xs', k1, k2, k3⟩ := q2
    rw [hi] at k1; cases k1
    rcases Nat.eq_zero_or_pos n with h0 | hpos
    · have hxs : xs = [] := List.length_eq_zero_iff.1 (by omega)
      subst hxs
      refine hfin w (.inl rfl) ?_ (by simp [maxI])
      rw [opdArgs2 ho, hvx, hyv, hmn]
      have := Lib.run_unsafeString_none (P := C.P) w pt it o.type pa
      simp [builtin, this, sv]; rfl
    · obtain ⟨b, c, h1, h2⟩ := k3 hn hpos
      rw [hβ] at h1; cases h1
      rcases hM with ⟨a0, e0, e1, _⟩ | ⟨b', c', cs, zs, e1, e2, e3, e4, e5, e6, e7⟩
      · rw [e1] at hn; simp at hn; omega
      · cases e1
        have ho' : o' = 0 := by simp [offT] at q1; exact q1.1.symm
        subst ho'
        simp only [Nat.zero_mul, Nat.add_zero] at h2
        obtain ⟨ns, hcs, hxs⟩ := bytes_of hsz hu e4
        have hlen : (xs.map byteOf).length = xs.length := by simp
        have hcellv : ∀ j x, (xs.map byteOf)[j]? = some x → w.cell? ((⟨b, 0, none⟩ : Addr).add j) = some (.int .u8 x.toNat) := fun j x hx => by
          rw [add_plain, Nat.zero_add]
          rw [hxs, byteOf_of hC, List.getElem?_map, Option.map_eq_some_iff] at hx
          obtain ⟨k, hk, rfl⟩ := hx
          have hcj : cs[j]? = some (.int .u8 k) := by rw [hcs, List.getElem?_map, hk]; rfl
          have hjl := (List.getElem?_eq_some_iff.1 hcj).1
          have := e7 j _ (by rw [List.getElem?_append_left hjl]; exact hcj)
          rw [this.1]
          have hel := e4.el j (.int k) (by rw [hxs, List.getElem?_map, hk]; rfl)
          rw [hsz, Nat.mul_one] at hel
          have hseg : seg cs j 1 = [.int .u8 k] := by
            apply List.ext_getElem?
            intro q
            rcases Nat.eq_zero_or_pos q with hq | hq
            · subst hq; rw [seg_get (by omega)]; simp [hcj]
            · rw [List.getElem?_eq_none (by simp [seg]; omega), List.getElem?_eq_none (by simp; omega)]
          rw [hseg] at hel
          cases hel with
          | int g1 g2 =>
            rw [hu] at g1; cases g1
            have hr := wrap_inR .u8 k
            rw [g2] at hr
            simp [inR] at hr
            congr 1
            simp [UInt8.toNat_ofNat']
            omega
        have hlpos : 0 < xs.length := by omega
        have hrow := Lib.run_unsafeString_row (P := C.P) w pt it o.type u (hC.tab.ptr hpt) (by
          obtain ⟨inf, hinf, hs1, _⟩ := hC.tab.info (hC.tab.lt_of_td (t := u) (by rw [hu]; simp))
          simp [Program.cellsOf, hinf, hs1, hsz]) b (c * 1) (by rw [hsz] at e6; exact e6 (by omega)) (xs.map byteOf) (by intro e; rw [e] at hlen; simp at hlen; omega) (by rw [hlen]; omega) (by rw [hlen]; unfold maxN at e3; exact e3) hcellv
        refine hfin (w.freeze ⟨b, 0, none⟩ (xs.map byteOf).length) (.inr ⟨b, _, _, c, rfl, rfl, by rw [hsz]; omega⟩) ?_ (by rw [hlen]; unfold maxN at e3; unfold maxI; omega)
        rw [opdArgs2 ho, hvx, hyv, hmn, h2]
        rw [hlen] at hrow ⊢
        simp [builtin, hrow, sv]
end
end Go.Den
/- Copies into own arrays; rows that begin; bytes of a text; pointers that nobody watches. -/
namespace Go.Den
open Go
set_option linter.unusedSectionVars false
set_option linter.unusedSimpArgs false
set_option linter.unusedVariables false

theorem splice_nest {cs ws : List Value} {f q n : Nat} (h1 : q + ws.length ≤ n) (h2 : f + n ≤ cs.length) : splice cs f (splice (seg cs f n) q ws) = splice cs (f + q) ws := by
  rw [← seg_splice_in h1 h2]
  apply List.ext_getElem?
  intro j
  have hsl : (seg (splice cs (f + q) ws) f n).length = n := seg_length (by rw [splice_length (by omega)]; omega)
  rw [splice_get (by omega), hsl, splice_get (by omega)]
  by_cases h1 : j < f
  · rw [if_pos h1, if_pos (by omega)]
  · rw [if_neg h1]
    by_cases h2 : j < f + n
    · rw [if_pos h2, seg_get (by omega), splice_get (by omega), show f + (j - f) = j by omega]
    · rw [if_neg h2, if_neg (by omega), if_neg (by omega)]

/-- Some elements of a list put in place of others. -/
def putAt (ds : List E) (off : Nat) (ys : List E) : List E := ds.take off ++ ys ++ ds.drop (off + ys.length)
theorem RowC.put {tb H u cs xs ws ys off} (h : RowC tb H u cs xs) (k : RowC tb H u ws ys) (hl : off + ys.length ≤ xs.length) : RowC tb H u (splice cs (off * sz tb u) ws) (putAt xs off ys) := by
  have h1 := (h.take (n := off) (by omega)).app k
  have h2 := h1.app (h.drop (off + ys.length))
  have he : splice cs (off * sz tb u) ws = cs.take (off * sz tb u) ++ ws ++ cs.drop ((off + ys.length) * sz tb u) := by
    unfold splice; rw [k.len, Nat.add_mul]
  rw [he]; exact h2
theorem putAt_length {ds ys : List E} {off : Nat} (h : off + ys.length ≤ ds.length) : (putAt ds off ys).length = ds.length := by
  simp [putAt]; omega

section
variable {C : Cx} (hC : Ok C) {o : Oper} {env : Env} {σ : List Blk}
include hC

/-- copy into a slice of an own array. -/
theorem OpF_copyA {t t2 : TypeId} {s i off n : Nat} {p : List Nat} {u ty : TypeId} {X : T} {y : Operand} {ds ys : List E} {ts : List Nat} (ho : o.op = .call { callee := .builtin .copy, args := #[.tmp s, y], argTypes := #[t, t2] }) (ht : td C.tb t = .sl u) (hr : td C.tb o.type = .int .i64)
    (hs : getD env s = .asl i p u off n) (hi : σ[i]? = some (.tree ty X)) (hX : getT p X = .e (.agg ds)) (hys : SrcAt C env σ t t2 y ys) (hz : sz C.tb u ≠ 0) (hts : i ∈ ts) :
    OpF C o env σ ts (fun d s => d = .t o.type (.e (.int (min ys.length n : Nat))) ∧ s = σ.set i (.tree ty (setT p (.e (.agg (putAt ds off (ys.take (min ys.length n))))) X))) := by
  intro H β a w hrel he hd K Qx hK
  have hv := he.get s
  rw [hs] at hv
  obtain ⟨_, hlx, news, hnr, hfc⟩ := hys H β a w u ht hrel he
  have hk1 : min ys.length n ≤ ys.length := Nat.min_le_left _ _
  have hk2 : min ys.length n ≤ n := Nat.min_le_right _ _
  have hmin : ∀ k, min ys.length n = k → Nat.min ys.length n = k := fun _ h => h
  generalize hk : min ys.length n = k at hK hk1 hk2
  have hmin := hmin k hk
  generalize hve : a.tmps.getD s undef = vx at hv
  cases hv with
  | @asl i path u off n c ad m ha hb hc hd' hm =>
    obtain ⟨b, ob, ty', X', o', z, rfl, e2, e1, e3, e4, cs, f2, f3, f4, f0⟩ := hrel.at hC ha
    rw [hi] at e2; cases e2
    obtain ⟨o2, v2, g1, g2⟩ := hb ty X hi
    rw [e3] at g1; cases g1
    have hp := (f4.part hC.tab e3)
    rw [hX] at hp
    have hrd := hp.rd
    obtain ⟨a2, a3, a4⟩ := hrd.arr_inv g2
    have hle := offT_le hC.tab e3
    have hsa := hC.tab.sz_arr g2
    have hrow : RowC C.tb H u (seg cs o' (sz C.tb z)) ds := ⟨by rw [a2, a3], a4⟩
    have hvs := hnr.take (n := k) hk1
    have hyl : (ys.take k).length = k := by rw [List.length_take]; omega
    let vs := news.take (k * sz C.tb u)
    have hvl : vs.length = k * sz C.tb u := by
      have := hvs.len; rw [hyl] at this; exact this
    have hnew := hrow.put hvs (off := off) (by rw [hyl]; omega)
    have hsg := seg_length (cs := cs) (o := o') (n := sz C.tb z) (by omega)
    have hput : off * sz C.tb u + vs.length ≤ sz C.tb z := by
      rw [hvl, hsa, ← Nat.add_mul]; exact Nat.mul_le_mul_right _ (by omega)
    have hT2 : TRel C.tb H β σ z (splice (seg cs o' (sz C.tb z)) (off * sz C.tb u) vs) (.e (.agg (putAt ds off (ys.take k)))) := by
      refine .e (.arr g2 ?_ ?_ hnew.el)
      · rw [splice_length (by rw [hsg]; exact hput), hsg, hsa]
      · rw [putAt_length (by rw [hyl]; omega), a3]
    have hcs : ∀ j, j < vs.length → ∃ v, w.cell? ⟨b, ob + o' + off * sz C.tb u + j, none⟩ = some v ∧ H b (ob + o' + off * sz C.tb u + j) = .mine i ∧ w.frozen? ⟨b, ob + o' + off * sz C.tb u + j, none⟩ = false := fun j hj => by
      have hlt : o' + (off * sz C.tb u + j) < cs.length := by omega
      have := f3 _ cs[o' + (off * sz C.tb u + j)] (List.getElem?_eq_getElem hlt)
      rw [show ob + (o' + (off * sz C.tb u + j)) = ob + o' + off * sz C.tb u + j by omega] at this
      exact ⟨_, this⟩
    have hone : ∀ v ∈ vs, v.oneCell' = true := hvs.one hC.tab
    have hst := run_storeCells_cells (P := C.P) b (ob + o' + off * sz C.tb u) vs 0 w (fun j hj => by obtain ⟨v, h1, _⟩ := hcs j hj; simp [h1]) (fun j hj => by obtain ⟨v, _, _, h3⟩ := hcs j hj; simpa using h3) hone
    simp only [Nat.add_zero] at hst
    have hrun : (execOp a.eval o).run C.P w = .ok (.value (.int .i64 (k : Nat))) (w.setCells b (ob + o' + off * sz C.tb u) vs) := by
      have hve' : a.eval (.tmp s) = .slice (some ⟨b, ob + o' + off * sz C.tb u, none⟩) n c := hve
      have hfc' := hfc k hk1 w (fun _ _ _ h => h)
      have hul := lt_of_sz hC hz
      rw [opdArgs2 ho, hve']
      simp [builtin, Builtin.copy_, run_underlying_of hC.tab (hC.tab.sl ht), hlx, run_sizeOf_of hC.tab hul, hmin, hfc', goInt, vs, hst]
    have r := hrel.write (i := i) (b := b) (o := ob + o' + off * sz C.tb u) (vs := vs) (fun j hj => by obtain ⟨v, _, h2, _⟩ := hcs j hj; exact h2) (k := .tree ty (setT p (.e (.agg (putAt ds off (ys.take k)))) X)) e1
      ⟨_, hi, fun ty2 x2 h2 => by cases h2; exact ⟨_, rfl⟩, fun _ _ h2 => (by cases h2), fun _ _ h2 => (by cases h2), fun _ _ _ h2 => (by cases h2), fun _ _ _ h2 => (by cases h2)⟩
      (fun hev => by
        have hpt := f4.put hC.tab e3 hT2
        rw [splice_nest hput (by omega)] at hpt
        refine ⟨b, ob, splice cs (o' + off * sz C.tb u) vs, rfl, by rw [splice_length (by omega)]; exact f2, fun hz => ⟨(f0 hz).1, (shape?_setCells b vs _ w _).trans (f0 hz).2⟩, fun j v hj => ?_, hpt.mono hev⟩
        rw [splice_get (by omega)] at hj
        have hfz : ∀ q, (w.setCells b (ob + o' + off * sz C.tb u) vs).frozen? ⟨b, q, none⟩ = w.frozen? ⟨b, q, none⟩ := fun q => World.frozen?_setCells b vs _ w _
        by_cases h1 : j < o' + off * sz C.tb u
        · rw [if_pos h1] at hj
          obtain ⟨g1, g2, g3⟩ := f3 j v hj
          exact ⟨by rw [setCells_cell (fun _ => .inl (by omega))]; exact g1, g2, (hfz _).trans g3⟩
        · rw [if_neg h1] at hj
          by_cases h2 : j < o' + off * sz C.tb u + vs.length
          · rw [if_pos h2] at hj
            obtain ⟨u1, g1, g2, g3⟩ := hcs (j - (o' + off * sz C.tb u)) (by omega)
            have hidx : ob + o' + off * sz C.tb u + (j - (o' + off * sz C.tb u)) = ob + j := by omega
            rw [hidx] at g1 g2 g3
            refine ⟨?_, g2, (hfz _).trans g3⟩
            have := World.cell?_setCells_in b vs (ob + o' + off * sz C.tb u) w (fun q hq => by obtain ⟨v, k1, _⟩ := hcs q hq; simp [k1]) (j - (o' + off * sz C.tb u)) (by omega)
            rw [hidx] at this
            rw [this]
            rw [List.getElem?_eq_getElem (by omega)] at hj; exact hj
          · rw [if_neg h2] at hj
            obtain ⟨g1, g2, g3⟩ := f3 j v hj
            exact ⟨by rw [setCells_cell (fun _ => .inr (by omega))]; exact g1, g2, (hfz _).trans g3⟩)
    simp only [Oper.wp, hrun, Oper.upon]
    have hkM : k ≤ maxN := by omega
    refine hK _ _ _ H _ _ ⟨rfl, rfl⟩ r.1 (.mkInt hr (range64 hkM)) r.2.2 r.2.1 fun b' o'' v hvv hst2 => ?_
    refine ⟨?_, hst2⟩
    rw [setCells_cell fun e => ?_]
    · exact hvv
    · rcases Nat.lt_or_ge o'' (ob + o' + off * sz C.tb u) with h | h
      · exact .inl h
      · rcases Nat.lt_or_ge o'' (ob + o' + off * sz C.tb u + vs.length) with h' | h'
        · exfalso
          obtain ⟨_, _, hm', _⟩ := hcs (o'' - (ob + o' + off * sz C.tb u)) (by omega)
          rw [show ob + o' + off * sz C.tb u + (o'' - (ob + o' + off * sz C.tb u)) = o'' by omega] at hm'
          subst e
          rcases hst2 with ⟨x, hx⟩ | ⟨j, hj, hjm⟩
          · rw [hm'] at hx; cases hx
          · rw [hm'] at hjm; cases hjm; exact hj hts
        · exact .inr h'
end
end Go.Den
/- Rules that turn what is told of a state; bytes of a text; equal arrays; pointers that nobody watches. -/
namespace Go.Den
open Go
set_option linter.unusedSectionVars false
set_option linter.unusedSimpArgs false
set_option linter.unusedVariables false

def splitsC : List It → Bool
  | .c _ :: _ | .r _ _ :: _ => true
  | _ => false

section
variable {C : Cx} {env : Env} {σ : List Blk} {Q : Post}

theorem VX_state {k : List It} {env' : Env} {σ' : List Blk} (hk : splitsC k = true)
    (h : ∀ H β a w, Rel C.tb H β σ w → EnvRel C.tb H β σ C.n a env → ∃ H' β', Rel C.tb H' β' σ' w ∧ EnvRel C.tb H' β' σ' C.n a env' ∧ Stp H w H' w ∧ Kp C.k0 β σ β' σ')
    (hv : VX C Q k .nrm env' σ') : VX C Q k .nrm env σ := by
  match k, hk with
  | .c code :: k, _ =>
    intro H β a w hr he hd
    obtain ⟨H', β', h1, h2, h3, h4⟩ := h H β a w hr he
    exact wp_mono (hv H' β' a w h1 h2 hd) fun _ _ _ hl => hl.trans h3 h4
  | .r full l :: k, _ =>
    intro H β a w hr he hd
    obtain ⟨H', β', h1, h2, h3, h4⟩ := h H β a w hr he
    exact wpList_mono (fun _ _ _ hl => hl.trans h3 h4) _ _ _ (hv H' β' a w h1 h2 hd)

/-- A new empty row. -/
theorem Rel.addM {tb H β σ w} (h : Rel tb H β σ w) (u : TypeId) : Rel tb H (β ++ [.slice none 0 0]) (σ ++ [.mrow u true []]) w ∧ Ev H β σ H (β ++ [.slice none 0 0]) (σ ++ [.mrow u true []]) := by
  have hl := h.len
  have hev : Ev H β σ H (β ++ [.slice none 0 0]) (σ ++ [.mrow u true []]) := Ev.app hl fun _ _ _ e => e
  refine ⟨⟨h.pers, h.dom, by simp [hl], fun i k bv hk hv => ?_⟩, hev⟩
  rcases Nat.lt_or_ge i σ.length with hi | hi
  · rw [List.getElem?_append_left hi] at hk
    rw [List.getElem?_append_left (by omega)] at hv
    exact (h.blk i k bv hk hv).mono hev (fun b o e => ⟨e, rfl, fun _ _ => rfl, rfl⟩) (fun b x _ _ e => e)
  · have : i = σ.length := by have := (List.getElem?_eq_some_iff.1 hk).1; simp at this; omega
    subst this
    rw [List.getElem?_append_right (Nat.le_refl _)] at hk
    rw [List.getElem?_append_right (by omega)] at hv
    simp [hl] at hk hv
    subst hk; subst hv
    exact .inl ⟨none, rfl, rfl, fun _ => rfl⟩

/-- A temporary's nil slice is a row that is written from here on. -/
theorem VX_promMt {k : List It} (hk : splitsC k = true) (t : Nat) {ty u : TypeId} (ht : getD env t = .t ty .nsl) (hu : td C.tb ty = .sl u)
    (h : VX C Q k .nrm ((t, .t ty (.msl σ.length 0)) :: env) (σ ++ [.mrow u true []])) : VX C Q k .nrm env σ := by
  refine VX_state hk (fun H β a w hr he => ?_) h
  obtain ⟨h1, h2⟩ := hr.addM u
  refine ⟨H, _, h1, ?_, .refl _ _, h2.kp _⟩
  refine (he.mono h2).shadow fun v hv => ?_
  rw [ht] at hv
  cases hv with
  | t a b => cases b with
    | nsl c => exact .t a (.msl hu ⟨_, _, rfl, Nat.zero_le _⟩ ⟨true, [], by simp, Nat.le_refl _, fun _ => by simp [← hr.len]⟩)

theorem getT_cell {P : Program} {tb : Tab} (hT : TabOk P tb) {H β σ ty cs X p o v} (h : TRel tb H β σ ty cs X) (ho : offT tb ty p = some (o, v)) (hX : getT p X = .nsl) : seg cs o (sz tb v) = [.slice none 0 0] := by
  have := h.part hT ho
  rw [hX] at this
  generalize seg cs o (sz tb v) = ds at this
  cases this with
  | nsl => rfl

/-- One tree told otherwise. -/
theorem Rel.retree {tb H β σ w} (h : Rel tb H β σ w) {i : Nat} {ty : TypeId} {X X' : T} (hi : σ[i]? = some (.tree ty X)) (hX : ∀ cs, TRel tb H β σ ty cs X → TRel tb H β σ ty cs X') :
    Rel tb H β (σ.set i (.tree ty X')) w ∧ Ev H β σ H β (σ.set i (.tree ty X')) := by
  have hil : i < σ.length := (List.getElem?_eq_some_iff.1 hi).1
  have hev : Ev H β σ H β (σ.set i (.tree ty X')) := by
    refine ⟨fun _ _ _ e => e, fun j ty2 z hj => ?_, fun j ety m hj => ?_, fun j s p hj => ?_, fun j ety oo zs hj => ?_, fun j k9 e9 zs hj => ?_⟩
    · by_cases hji : i = j
      · subst hji; rw [hi] at hj; cases hj; exact ⟨rfl, X', by simp [hil]⟩
      · exact ⟨rfl, z, by rw [List.getElem?_set_ne hji]; exact hj⟩
    · have hne : i ≠ j := fun e => by subst e; rw [hi] at hj; cases hj
      exact ⟨m, by rw [List.getElem?_set_ne hne]; exact hj, Nat.le_refl _, fun _ => rfl⟩
    · have hne : i ≠ j := fun e => by subst e; rw [hi] at hj; cases hj
      exact ⟨rfl, s, p, by rw [List.getElem?_set_ne hne]; exact hj⟩
    · have hne : i ≠ j := fun e => by subst e; rw [hi] at hj; cases hj
      exact ⟨oo, zs, by rw [List.getElem?_set_ne hne]; exact hj, Nat.le_refl _, fun _ => rfl⟩
    · have hne : i ≠ j := fun e => by subst e; rw [hi] at hj; cases hj
      exact ⟨rfl, zs, by rw [List.getElem?_set_ne hne]; exact hj⟩
  refine ⟨⟨h.pers, h.dom, by simp [h.len], fun j k bv hk hv => ?_⟩, hev⟩
  by_cases hji : i = j
  · subst hji
    rw [List.getElem?_set_self hil] at hk; cases hk
    obtain ⟨b, off, cs, e1, e2, e0, e3, e4⟩ := h.blk i _ bv hi hv
    exact ⟨b, off, cs, e1, e2, e0, e3, (hX cs e4).mono hev⟩
  · rw [List.getElem?_set_ne hji] at hk
    exact (h.blk j k bv hk hv).mono hev (fun b o e => ⟨e, rfl, fun _ _ => rfl, rfl⟩) (fun b x _ _ e => e)

/-- A variable's nil slice is a row that is written from here on. -/
theorem VX_promM {k : List It} (hC : Ok C) (hk : splitsC k = true) (i : Nat) (p : List Nat) {ty v u : TypeId} {X : T} {o : Nat} (hi : σ[i]? = some (.tree ty X)) (hX : getT p X = .nsl) (ho : offT C.tb ty p = some (o, v)) (hu : td C.tb v = .sl u)
    {σ' : List Blk} (hσ : ((σ ++ [Blk.mrow u true []]).set i (.tree ty (setT p (.msl σ.length 0) X))) = σ') (h : VX C Q k .nrm env σ') : VX C Q k .nrm env σ := by
  subst hσ
  refine VX_state hk (fun H β a w hr he => ?_) h
  obtain ⟨h1, h2⟩ := hr.addM u
  have hil : i < σ.length := (List.getElem?_eq_some_iff.1 hi).1
  have hi' : (σ ++ [Blk.mrow u true []])[i]? = some (.tree ty X) := by rw [List.getElem?_append_left hil]; exact hi
  obtain ⟨h3, h4⟩ := h1.retree (X' := setT p (.msl σ.length 0) X) hi' fun cs hcs => by
    have hc := getT_cell hC.tab hcs ho hX
    have hsz : sz C.tb v = 1 := hC.tab.sz_one (by simp [isAggT, hu]) (by rw [hu]; simp)
    have hy : TRel C.tb H (β ++ [.slice none 0 0]) (σ ++ [.mrow u true []]) v [.slice none 0 0] (.msl σ.length 0) :=
      .msl hu ⟨_, _, rfl, Nat.zero_le _⟩ ⟨true, [], by simp, Nat.le_refl _, fun _ => by simp [← hr.len]⟩
    have := hcs.put hC.tab ho hy
    have hle := offT_le hC.tab ho
    have hcl := hcs.len hC.tab
    have he : splice cs o [.slice none 0 0] = cs := by
      rw [← hc]
      apply List.ext_getElem?
      intro j
      have hsl : (seg cs o (sz C.tb v)).length = sz C.tb v := seg_length (by omega)
      rw [splice_get (by omega), hsl]
      by_cases h1 : j < o
      · rw [if_pos h1]
      · rw [if_neg h1]
        by_cases h2 : j < o + sz C.tb v
        · rw [if_pos h2, seg_get (by omega), show o + (j - o) = j by omega]
        · rw [if_neg h2]
    rwa [he] at this
  exact ⟨H, _, h3, (he.mono h2).mono h4, .refl _ _, (h2.trans h4).kp _⟩

/-- A row is told once for all. -/
theorem VX_frz {k : List It} (hk : splitsC k = true) (i : Nat) {u : TypeId} {xs : List E} (hi : σ[i]? = some (.mrow u true xs)) {σ' : List Blk} (hσ : σ.set i (.mrow u false xs) = σ')
    (h : VX C Q k .nrm env σ') : VX C Q k .nrm env σ := by
  subst hσ
  refine VX_state hk (fun H β a w hr he => ?_) h
  have hil : i < β.length := by rw [hr.len]; exact (List.getElem?_eq_some_iff.1 hi).1
  obtain ⟨H', h1, h2, _, h4⟩ := hr.frz hi (List.getElem?_eq_getElem hil) (.inl rfl)
  exact ⟨H', β, h1, he.mono h4, h2, h4.kp _⟩

theorem DRel.mE {tb : Tab} {H β σ w v ty u i n xs} (hr : Rel tb H β σ w) (h : DRel tb H β σ v (.t ty (.msl i n))) (hi : σ[i]? = some (.mrow u false xs)) (hn : n = xs.length) : DRel tb H β σ v (.t ty (.e (.sl xs))) := by
  cases h with
  | @t ty v cs z a b => cases b with
    | msl c d e =>
      obtain ⟨ow, xs', k1, k2, k3⟩ := e
      rw [hi] at k1; cases k1
      have hβ := k3 hn
      have hM : MRel tb H w i _ u false xs := hr.blk i _ _ hi hβ
      exact .t a (.e (hM _ c))
/-- A slice of a row that is told: data. -/
theorem VX_mE {k : List It} (hk : splitsC k = true) (t : Nat) {ty u : TypeId} {i n : Nat} {xs : List E} (ht : getD env t = .t ty (.msl i n)) (hi : σ[i]? = some (.mrow u false xs)) (hn : n = xs.length)
    (h : VX C Q k .nrm ((t, .t ty (.e (.sl xs))) :: env) σ) : VX C Q k .nrm env σ :=
  VX_state hk (fun H β a w hr he => ⟨H, β, hr, he.shadow fun v hv => (ht ▸ hv).mE hr hi hn, .refl _ _, .refl _ _ _⟩) h
end

section
variable {C : Cx} (hC : Ok C) {o : Oper} {env : Env} {σ : List Blk}
include hC

/-- The bytes of a text, anew. -/
theorem OpV_bytes {s d u : TypeId} {x : Operand} {dx : D} {l : List UInt8} (ho : o.op = .convert s d x) (hs : td C.tb s = .str) (hd : td C.tb d = .sl u) (hu : td C.tb u = .int .u8) (hx : opd C.tb env s x = some dx) (hl : strAny dx = some l) :
    OpV C o env σ (fun d' s' => d' = .t d (.e (.sl (l.map byteE))) ∧ s' = σ) := by
  intro H β a w hr he hdf K Qx hK
  obtain ⟨hv, hlen⟩ := strAny_rel (opd_rel he hx) hl
  have hsz : sz C.tb u = 1 := hC.tab.sz_one (by simp [isAggT, hu]) (by rw [hu]; simp)
  have hrun := run_bytes_of_string (P := C.P) w s d u ⟨⟨l⟩⟩ (hC.tab.str hs) (hC.tab.sl hd) (hC.tab.int hu)
  generalize hcap : grownCap w (ByteArray.size ⟨⟨l⟩⟩) 0 u = cap at hrun
  have hcap' : l.length ≤ cap := by
    have : (ByteArray.size ⟨⟨l⟩⟩) = l.length := rfl
    rw [← hcap, this]; simp [grownCap, Question.cut]
  let ob : Obj := .cells (bytesRow ⟨⟨l⟩⟩ cap) u ((bytesRow ⟨⟨l⟩⟩ cap).size, (bytesRow ⟨⟨l⟩⟩ cap).size + 1)
  have hcs : ∀ (j : Nat) v, (l.map fun b => Value.int .u8 b.toNat)[j]? = some v → (w.drew.alloc ob).cell? ⟨w.heap.size, j, none⟩ = some v := fun j v hj => by
    have hjl : j < l.length := by have := (List.getElem?_eq_some_iff.1 hj).1; simpa using this
    have : (w.drew.alloc ob).heap[w.drew.heap.size]? = some ob := heap_alloc_new w.drew ob
    rw [show w.drew.heap.size = w.heap.size from rfl] at this
    simp only [World.cell?, this, ob]
    simp only [bytesRow]
    rw [Array.getElem?_append_left (by simpa using hjl)]
    simpa using hj
  let f : Nat → Own := fun o => match (l.map fun b => Value.int .u8 b.toNat)[o]? with
    | some v => .pers v
    | none => .none
  obtain ⟨hr2, hev⟩ := hr.drew.alloc ob f [] [] rfl (fun o v hv => by
    simp only [f] at hv
    split at hv
    · rename_i v' hv'; cases hv; exact hcs o _ hv'
    · cases hv) (fun i k bv hk => by simp at hk)
  simp only [List.append_nil] at hr2 hev
  have hstp : Stp H w _ (w.drew.alloc ob) := (Stp.drew H w).trans (Stp.alloc (w := w.drew) hr.dom ob f)
  have hex : (execOp a.eval o).run C.P w = .ok (.value (.slice (some ⟨w.heap.size, 0, none⟩) l.length cap)) (w.drew.alloc ob) := by
    have hsl : (⟨⟨l⟩⟩ : ByteArray).size = l.length := rfl
    rw [hsl] at hrun
    simp [execOp, ho, hv, sv, hrun, ob]
  simp only [Oper.wp, hex, Oper.upon]
  refine hK _ _ _ _ β σ ⟨rfl, rfl⟩ hr2 ?_ hstp hev
  refine .t (cs := [.slice (some ⟨w.heap.size, 0, none⟩) l.length cap]) (by simp [VC, isAggT, hd]) (.e ?_)
  have hlm : (l.map byteE).length = l.length := by simp
  rw [← hlm]
  refine .sl (cs := l.map fun b => .int .u8 b.toNat) hd (by simp [hsz]) (fun j v hj => ?_) (fun i x hx => ?_) (by rw [hlm]; exact hcap') (by rw [hlm]; unfold maxI at hlen; unfold maxN; omega)
  · rw [Nat.zero_add]
    show (if _ then _ else _) = _
    rw [if_pos (show w.heap.size = w.drew.heap.size from rfl)]; simp only [f, hj]
  · simp only [List.getElem?_map, Option.map_eq_some_iff] at hx
    obtain ⟨b, hb1, rfl⟩ := hx
    have : seg (l.map fun b => Value.int .u8 b.toNat) (i * sz C.tb u) (sz C.tb u) = [.int .u8 b.toNat] := by
      rw [hsz, Nat.mul_one]
      unfold seg
      rw [List.take_one, List.head?_drop]
      simp [hb1]
    rw [this]
    exact .int hu (inR_wrap (by have := b.toNat_lt; simp [inR]; omega))

/-! ### pointers that nobody watches -/
theorem shape_at {H β w i p a} {ty : TypeId} {X : T} {u : TypeId} {o : Nat} (hr : Rel C.tb H β σ w) (hp : PtrAt C.tb β σ i p a) (hi : σ[i]? = some (.tree ty X)) (ho : offT C.tb ty p = some (o, u)) (hz : 0 < sz C.tb u) :
    a.off = o ∧ o < sz C.tb ty ∧ w.shape? a.block = some (ty, sz C.tb ty) := by
  obtain ⟨b, off, ty', X', o', u', rfl, e2, e1, e3, e4, cs, f2, f3, f4, f0⟩ := hr.at hC hp
  rw [hi] at e2; cases e2
  rw [ho] at e3; cases e3
  have hle := offT_le hC.tab ho
  obtain ⟨g1, g2⟩ := f0 (by omega)
  subst g1
  exact ⟨by simp, by omega, g2⟩

/-- A pointer to a part, as an unsafe.Pointer. -/
theorem OpV_toUnsafe {s d v u ty : TypeId} {q i : Nat} {p : List Nat} {X : T} {o' : Nat} (ho : o.op = .convert s d (.tmp q)) (hs : td C.tb s = .ptr v) (hv : sz C.tb v ≠ 0) (hd : C.P.underlying d = some .unsafePointer)
    (hq : getD env q = .ptr i p) (hi : σ[i]? = some (.tree ty X)) (hof : offT C.tb ty p = some (o', u)) (hu : 0 < sz C.tb u) : OpV C o env σ (fun d' s' => d' = .ptr i p ∧ s' = σ) := by
  intro H β a w hr he hdf K Qx hK
  have hv' := he.get q
  rw [hq] at hv'
  obtain ⟨ad, hve, hp⟩ := hv'.ptr_inv
  obtain ⟨h1, h2, h3⟩ := shape_at hC hr hp hi hof hu
  obtain ⟨j, hj, hjs, _⟩ := hC.tab.info (lt_of_sz hC hv)
  have hrun := Lib.run_to_unsafe (P := C.P) w ad (hC.tab.ptr hs) hd hj (by rw [hjs]; exact hv) h3 (by rw [h1]; exact h2)
  have hve' : a.eval (.tmp q) = .pointer (some ad) := hve
  have hex : (execOp a.eval o).run C.P w = .ok (.value (.pointer (some ad))) w := by simp [execOp, ho, hve', hrun]
  simp only [Oper.wp, hex, Oper.upon]
  exact hK _ _ w H β σ ⟨rfl, rfl⟩ hr (.ptr hp) (.refl _ _) (.refl _ _ _)
/-- .. and back. -/
theorem OpV_ofUnsafe {s d v u ty : TypeId} {q i : Nat} {p : List Nat} {X : T} {o' : Nat} (ho : o.op = .convert s d (.tmp q)) (hs : C.P.underlying s = some .unsafePointer) (hd : td C.tb d = .ptr v) (hv : sz C.tb v ≠ 0)
    (hq : getD env q = .ptr i p) (hi : σ[i]? = some (.tree ty X)) (hof : offT C.tb ty p = some (o', u)) (hu : 0 < sz C.tb u) (hl : liesAt C.P C.P.depth ty (sz C.tb ty / C.P.cellsOf ty) o' v 1 = true) : OpV C o env σ (fun d' s' => d' = .ptr i p ∧ s' = σ) := by
  intro H β a w hr he hdf K Qx hK
  have hv' := he.get q
  rw [hq] at hv'
  obtain ⟨ad, hve, hp⟩ := hv'.ptr_inv
  obtain ⟨h1, h2, h3⟩ := shape_at hC hr hp hi hof hu
  obtain ⟨j, hj, hjs, _⟩ := hC.tab.info (lt_of_sz hC hv)
  have hrun := Lib.run_from_unsafe (P := C.P) w ad hs (hC.tab.ptr hd) hj h3 (by rw [h1]; exact hl)
  have hve' : a.eval (.tmp q) = .pointer (some ad) := hve
  have hex : (execOp a.eval o).run C.P w = .ok (.value (.pointer (some ad))) w := by simp [execOp, ho, hve', hrun]
  simp only [Oper.wp, hex, Oper.upon]
  exact hK _ _ w H β σ ⟨rfl, rfl⟩ hr (.ptr hp) (.refl _ _) (.refl _ _ _)
/-- internal/abi.NoEscape. -/
theorem OpV_noEscape {f : FuncId} {q : Nat} {tys : Array TypeId} {dq : D} (ho : o.op = .call { callee := .value (.func f), args := #[.tmp q], argTypes := tys }) (hf : ∀ (x : Value) (w : World), (callFunc f #[x]).run C.P w = .ok (.value x) w)
    (hq : getD env q = dq) : OpV C o env σ (fun d' s' => d' = dq ∧ s' = σ) := by
  intro H β a w hr he hdf K Qx hK
  have hv' := he.get q
  rw [hq] at hv'
  have hex : (execOp a.eval o).run C.P w = .ok (.value (a.tmps.getD q undef)) w := by
    have := hf (a.tmps.getD q undef) w
    simp [execOp, ho, resolve, Act.eval, Deferred.ofValue, invoke] at this ⊢
    exact this
  simp only [Oper.wp, hex, Oper.upon]
  exact hK _ _ w H β σ ⟨rfl, rfl⟩ hr hv' (.refl _ _) (.refl _ _ _)
end
end Go.Den
namespace Go.Den
open Go
section
variable {C : Cx} {env : Env} {σ : List Blk} {Q : Post}
/-- A variable's nil slice is the newest of an empty row. -/
theorem VX_promT {k : List It} (hC : Ok C) (hk : splitsC k = true) (i : Nat) (p : List Nat) {ty v u : TypeId} {X : T} {o : Nat} (hi : σ[i]? = some (.tree ty X)) (hX : getT p X = .nsl) (ho : offT C.tb ty p = some (o, v)) (hu : td C.tb v = .sl u)
    {σ' : List Blk} (hσ : normBs ((σ ++ [Blk.row u 0]).set i (.tree ty (setT p (.lsl σ.length []) X))) some = some σ') (h : VX C Q k .nrm env σ') : VX C Q k .nrm env σ := by
  rw [normBs_eq] at hσ; cases hσ
  refine VX_state hk (fun H β a w hr he => ?_) h
  obtain ⟨h1, h2⟩ := hr.addRow u
  have hil : i < σ.length := (List.getElem?_eq_some_iff.1 hi).1
  have hi' : (σ ++ [Blk.row u 0])[i]? = some (.tree ty X) := by rw [List.getElem?_append_left hil]; exact hi
  obtain ⟨h3, h4⟩ := h1.retree (X' := setT p (.lsl σ.length []) X) hi' fun cs hcs => by
    have hc := getT_cell hC.tab hcs ho hX
    have hsz : sz C.tb v = 1 := hC.tab.sz_one (by simp [isAggT, hu]) (by rw [hu]; simp)
    have hy : TRel C.tb H (β ++ [.slice none 0 0]) (σ ++ [.row u 0]) v [.slice none 0 0] (.lsl σ.length []) :=
      .lsl hu (.sl0 hu) ⟨0, by simp, Nat.le_refl _, fun _ => by simp [← hr.len]⟩
    have := hcs.put hC.tab ho hy
    have hle := offT_le hC.tab ho
    have hcl := hcs.len hC.tab
    have he : splice cs o [.slice none 0 0] = cs := by
      rw [← hc]
      apply List.ext_getElem?
      intro j
      have hsl : (seg cs o (sz C.tb v)).length = sz C.tb v := seg_length (by omega)
      rw [splice_get (by omega), hsl]
      by_cases h1 : j < o
      · rw [if_pos h1]
      · rw [if_neg h1]
        by_cases h2 : j < o + sz C.tb v
        · rw [if_pos h2, seg_get (by omega), show o + (j - o) = j by omega]
        · rw [if_neg h2]
    rwa [he] at this
  exact ⟨H, _, h3, (he.mono h2).mono h4, .refl _ _, (h2.trans h4).kp _⟩
end
end Go.Den
/- Equality of data: numbers, truths, texts, arrays and structs of them. -/
namespace Go.Den
open Go
set_option linter.unusedSectionVars false
set_option linter.unusedSimpArgs false
set_option linter.unusedVariables false

mutual
def eqE : E → E → Bool
  | .int a, .int b => decide (a = b)
  | .bool a, .bool b => a == b
  | .str a, .str b => decide (a = b)
  | .agg xs, .agg ys => eqEs xs ys
  | _, _ => false
def eqEs : List E → List E → Bool
  | [], [] => true
  | x :: xs, y :: ys => eqE x y && eqEs xs ys
  | _, _ => false
end

/-- A type whose values are compared part by part. -/
def eqTy (P : Program) (tb : Tab) : Nat → TypeId → Bool
  | 0, _ => false
  | n + 1, t => match td tb t with
    | .int _ | .bool | .str => true
    | .arr _ u => eqTy P tb n u
    | .st fs => (!P.stoodInHeld t) && (match P.underlying t with
      | some (.struct gs) => gs.toList.all fun f => f.name != "_"
      | _ => false) && fs.all fun f => eqTy P tb n f.1
    | _ => false
def eqTys (P : Program) (tb : Tab) (l : List TypeId) : Prop := l.all (fun t => eqTy P tb 12 t && !P.eqGuardType P.depth t) = true

theorem eqEs_app : ∀ {a b c d : List E}, a.length = b.length → eqEs (a ++ c) (b ++ d) = (eqEs a b && eqEs c d)
  | [], [], c, d, _ => by simp [eqEs]
  | x :: a, y :: b, c, d, h => by
    simp only [List.cons_append, eqEs]
    rw [eqEs_app (by simpa using h), Bool.and_assoc]
  | [], _ :: _, _, _, h => by simp at h
  | _ :: _, [], _, _, h => by simp at h

section
variable {P : Program} {tb : Tab} (hT : TabOk P tb)
include hT

theorem run_part' {t : TypeId} {cs : List Value} {off : Nat} (ht : td tb t ≠ .other) (hl : off + sz tb t ≤ cs.length) :
    ∃ v, (∀ w, (part t cs.toArray off).run P w = .ok v w) ∧ VC tb t v (seg cs off (sz tb t)) := by
  have hlt := hT.lt_of_td ht
  simp only [part, Sem.run_bind, run_isAgg_of hT ht, Result.andThen]
  cases ha : isAggT tb t with
  | true =>
    refine ⟨.agg (seg cs off (sz tb t)).toArray, fun w => ?_, by simp [VC, ha]⟩
    simp only [if_true, Sem.run_bind, run_sizeOf_of hT hlt, Result.andThen]
    simp [seg, List.extract_eq_take_drop]
  | false =>
    have h1 := hT.sz_one ha ht
    rw [h1] at hl ⊢
    have hg : cs[off]? = some cs[off] := List.getElem?_eq_getElem (by omega)
    refine ⟨cs[off], fun w => by simp [hg], ?_⟩
    simp only [VC, ha]
    unfold seg
    rw [List.take_one, List.head?_drop, hg]; rfl

theorem equalIn_ok {H : Gh} : ∀ (n d : Nat) (t : TypeId), eqTy P tb n t = true → n ≤ d → ∀ (cs ds : List Value) (x y : E) (v v' : Value) (w : World), Rd tb H t cs x → Rd tb H t ds y → VC tb t v cs → VC tb t v' ds →
    (Op.equalIn d t v v').run P w = .ok (eqE x y) w
  | 0, _, _, h, _, _, _, _, _, _, _, _, _, _, _, _ => by simp [eqTy] at h
  | n + 1, 0, _, _, h, _, _, _, _, _, _, _, _, _, _, _ => by omega
  | n + 1, d + 1, t, h, hd, cs, ds, x, y, v, v', w, hx, hy, hv, hv' => by
    unfold eqTy at h
    cases ht : td tb t with
    | int k =>
      cases hx with
      | @int _ k1 n1 a1 b1 =>
        rw [ht] at a1; cases a1
        cases hy with
        | @int _ k2 n2 a2 b2 =>
          rw [ht] at a2; cases a2
          simp [VC, isAggT, ht] at hv hv'
          subst hv; subst hv'
          simp [Op.equalIn, run_underlying_of hT (hT.int ht), eqE]
          by_cases e : n1 = n2 <;> simp [e]
        | _ a => rw [ht] at a; cases a
      | _ a => rw [ht] at a; cases a
    | bool =>
      cases hx with
      | @bool _ n1 a1 =>
        cases hy with
        | @bool _ n2 a2 =>
          simp [VC, isAggT, ht] at hv hv'
          subst hv; subst hv'
          simp [Op.equalIn, run_underlying_of hT (hT.bool ht), eqE]
        | _ a => rw [ht] at a; cases a
      | _ a => rw [ht] at a; cases a
    | str =>
      cases hx with
      | @str _ n1 a1 b1 =>
        cases hy with
        | @str _ n2 a2 b2 =>
          simp [VC, isAggT, ht] at hv hv'
          subst hv; subst hv'
          rw [show sv n1 = .string ⟨⟨n1⟩⟩ from rfl, show sv n2 = .string ⟨⟨n2⟩⟩ from rfl, run_equalIn_string w d t _ _ (hT.str ht), toList_mk, toList_mk]
          simp only [eqE]
          by_cases e : n1 = n2 <;> simp [e]
        | _ a => rw [ht] at a; cases a
      | _ a => rw [ht] at a; cases a
    | arr m u =>
      rw [ht] at h; simp only at h
      cases hx with
      | @arr _ _ _ _ xs a1 a2 a3 a4 =>
        rw [ht] at a1; cases a1
        cases hy with
        | @arr _ _ _ _ ys b1 b2 b3 b4 =>
          rw [ht] at b1; cases b1
          simp [VC, isAggT, ht] at hv hv'
          subst hv; subst hv'
          have hu : td tb u ≠ .other := fun e => by
            cases n with
            | zero => simp [eqTy] at h
            | succ n => unfold eqTy at h; rw [e] at h; simp at h
          have hlt := hT.lt_of_td hu
          have each : ∀ i, i < m → ∃ v1 v2, (part u cs.toArray (i * sz tb u)).run P w = .ok v1 w ∧ (part u ds.toArray (i * sz tb u)).run P w = .ok v2 w ∧
              (Op.equalIn d u v1 v2).run P w = .ok (eqE (xs.getD i .nilp) (ys.getD i .nilp)) w := fun i hi => by
            have hle : i * sz tb u + sz tb u ≤ m * sz tb u := by
              have := Nat.mul_le_mul_right (sz tb u) (show i + 1 ≤ m from hi); rwa [Nat.add_mul, Nat.one_mul] at this
            obtain ⟨v1, h1, h1'⟩ := run_part' hT (cs := cs) hu (by omega : i * sz tb u + sz tb u ≤ cs.length)
            obtain ⟨v2, h2, h2'⟩ := run_part' hT (cs := ds) hu (by omega : i * sz tb u + sz tb u ≤ ds.length)
            refine ⟨v1, v2, h1 w, h2 w, ?_⟩
            have hxi : xs[i]? = some (xs.getD i .nilp) := by rw [List.getD_eq_getElem?_getD, List.getElem?_eq_getElem (by omega)]; rfl
            have hyi : ys[i]? = some (ys.getD i .nilp) := by rw [List.getD_eq_getElem?_getD, List.getElem?_eq_getElem (by omega)]; rfl
            exact equalIn_ok n d u h (by omega) _ _ _ _ v1 v2 w (a4 i _ hxi) (b4 i _ hyi) h1' h2'
          obtain ⟨inf, hi, hsz, _⟩ := hT.info hlt
          have hco : P.cellsOf u = sz tb u := by simp [Program.cellsOf, hi, hsz]
          rw [run_equalIn_array w d _ _ (hT.arr ht) hi, hco]
          have key : ∀ k j, j + k = m → (Op.eqItems d u (sz tb u) cs.toArray ds.toArray (List.range' j k)).run P w = .ok (eqEs (xs.drop j) (ys.drop j)) w := by
            intro k
            induction k with
            | zero =>
              intro j hj
              rw [List.drop_eq_nil_of_le (by omega), List.drop_eq_nil_of_le (by omega)]
              simp [Op.eqItems, eqEs]
            | succ k ih =>
              intro j hj
              obtain ⟨v1, v2, h1, h2, h3⟩ := each j (by omega)
              have e1 : xs.drop j = xs.getD j .nilp :: xs.drop (j + 1) := by
                rw [List.drop_eq_getElem_cons (by omega), List.getD_eq_getElem?_getD, List.getElem?_eq_getElem (by omega)]; rfl
              have e2 : ys.drop j = ys.getD j .nilp :: ys.drop (j + 1) := by
                rw [List.drop_eq_getElem_cons (by omega), List.getD_eq_getElem?_getD, List.getElem?_eq_getElem (by omega)]; rfl
              rw [List.range'_succ]
              simp only [Op.eqItems, Sem.run_bind, h1, h2, h3, Result.andThen_ok]
              rw [e1, e2, eqEs]
              cases hq : eqE (xs.getD j .nilp) (ys.getD j .nilp) with
              | false => simp
              | true => simp [ih (j + 1) (by omega)]
          have := key m 0 (by omega)
          rw [List.range_eq_range']
          simpa [eqE] using this
        | st a => rw [ht] at a; cases a
        | _ a => rw [ht] at a; cases a
      | _ a => rw [ht] at a; cases a
    | st fs =>
      rw [ht] at h; simp only [Bool.and_eq_true, Bool.not_eq_true'] at h
      obtain ⟨⟨hstood, hnames⟩, hall⟩ := h
      obtain ⟨gs, hg, hgf⟩ := hT.st ht
      rw [hg] at hnames
      cases hx with
      | @st _ _ _ xs a1 a2 a3 a4 =>
        rw [ht] at a1; cases a1
        cases hy with
        | @st _ _ _ ys b1 b2 b3 b4 =>
          rw [ht] at b1; cases b1
          simp [VC, isAggT, ht] at hv hv'
          subst hv; subst hv'
          have hfo : P.fieldsOf t = gs := by simp [Program.fieldsOf, hg]
          have hspec := (fieldsEnd_spec (hT.sz_st ht)).2
          rw [run_equalIn_struct w d t _ _ (by rw [hfo]; exact hg) hstood, hfo]
          have hgl : gs.toList.length = fs.length := by rw [← hgf]; simp
          have each : ∀ i (f : Field), gs.toList[i]? = some f → ∃ v1 v2, (part f.type cs.toArray f.offset).run P w = .ok v1 w ∧ (part f.type ds.toArray f.offset).run P w = .ok v2 w ∧
              (Op.equalIn d f.type v1 v2).run P w = .ok (eqE (xs.getD i .nilp) (ys.getD i .nilp)) w ∧ f.name ≠ "_" := fun i f hf => by
            have hfi : fs[i]? = some (f.type, f.offset) := by rw [← hgf, List.getElem?_map, hf]; rfl
            have hil := (List.getElem?_eq_some_iff.1 hfi).1
            have hle := (hspec i _ hfi).2.1
            have hty := List.all_eq_true.1 hall _ (List.mem_of_getElem? hfi)
            have hu : td tb f.type ≠ .other := fun e => by
              cases n with
              | zero => simp [eqTy] at hty
              | succ n => unfold eqTy at hty; rw [e] at hty; simp at hty
            obtain ⟨v1, h1, h1'⟩ := run_part' hT (cs := cs) hu (by simp only at hle; omega : f.offset + sz tb f.type ≤ cs.length)
            obtain ⟨v2, h2, h2'⟩ := run_part' hT (cs := ds) hu (by simp only at hle; omega : f.offset + sz tb f.type ≤ ds.length)
            have hxi : xs[i]? = some (xs.getD i .nilp) := by rw [List.getD_eq_getElem?_getD, List.getElem?_eq_getElem (by omega)]; rfl
            have hyi : ys[i]? = some (ys.getD i .nilp) := by rw [List.getD_eq_getElem?_getD, List.getElem?_eq_getElem (by omega)]; rfl
            refine ⟨v1, v2, h1 w, h2 w, equalIn_ok n d f.type hty (by omega) _ _ _ _ v1 v2 w (a4 i _ _ hfi hxi) (b4 i _ _ hfi hyi) h1' h2', ?_⟩
            have := List.all_eq_true.1 hnames f (List.mem_of_getElem? hf)
            simpa using this
          have key : ∀ k j, j + k = fs.length → (Op.eqFields d cs.toArray ds.toArray (gs.toList.drop j)).run P w = .ok (eqEs (xs.drop j) (ys.drop j)) w := by
            intro k
            induction k with
            | zero =>
              intro j hj
              rw [List.drop_eq_nil_of_le (by omega), List.drop_eq_nil_of_le (by omega), List.drop_eq_nil_of_le (by omega)]
              simp [Op.eqFields, eqEs]
            | succ k ih =>
              intro j hj
              have hjg : j < gs.toList.length := by omega
              obtain ⟨v1, v2, h1, h2, h3, h4⟩ := each j _ (List.getElem?_eq_getElem hjg)
              have e1 : xs.drop j = xs.getD j .nilp :: xs.drop (j + 1) := by
                rw [List.drop_eq_getElem_cons (by omega), List.getD_eq_getElem?_getD, List.getElem?_eq_getElem (by omega)]; rfl
              have e2 : ys.drop j = ys.getD j .nilp :: ys.drop (j + 1) := by
                rw [List.drop_eq_getElem_cons (by omega), List.getD_eq_getElem?_getD, List.getElem?_eq_getElem (by omega)]; rfl
              rw [List.drop_eq_getElem_cons hjg]
              simp only [Op.eqFields, Sem.run_ite, Sem.run_bind, if_pos h4, h1, h2, h3, Result.andThen_ok]
              rw [e1, e2, eqEs]
              cases hq : eqE (xs.getD j .nilp) (ys.getD j .nilp) with
              | false => simp
              | true => simp [ih (j + 1) (by omega)]
          have := key fs.length 0 (by omega)
          simpa [eqE] using this
        | arr a => rw [ht] at a; cases a
        | _ a => rw [ht] at a; cases a
      | arr a => rw [ht] at a; cases a
      | _ a => rw [ht] at a; cases a
    | _ => rw [ht] at h; simp at h
end
end Go.Den
namespace Go.Den
open Go
section
variable {C : Cx} (hC : Ok C) {o : Oper} {env : Env} {σ : List Blk}
include hC
theorem Ok_eqA {op : BinOp} {xt yt : TypeId} {x y : Operand} {dx dy : D} {a b : E} {tx ty : TypeId} (ho : o.op = .binOp op xt x y yt) (hop : op = .eql ∨ op = .neq) (ht : eqTy C.P C.tb 12 xt = true) (hg : C.P.eqGuardType C.P.depth xt = false) (hag : isAggT C.tb xt = true)
    (hx : opd C.tb env xt x = some dx) (hy : opd C.tb env xt y = some dy) (ha : dx = .t tx (.e a)) (hb : dy = .t ty (.e b)) (hsx : same C.tb tx xt = true) (hsy : same C.tb ty xt = true) :
    OpOk C o env σ ⟨True, .t C.bt (.e (.bool (if op = .eql then eqE a b else !(eqE a b)))), σ⟩ :=
  OpOk_val fun H β ac w hr he => by
    have h1 := opd_rel he hx
    have h2 := opd_rel he hy
    rw [ha] at h1
    rw [hb] at h2
    generalize hvx : ac.eval x = vx at h1
    generalize hvy : ac.eval y = vy at h2
    cases h1 with
    | @t _ v1 cs1 _ c1 d1 =>
      cases h2 with
      | @t _ v2 cs2 _ c2 d2 =>
        have r1 := d1.rd.cast hC.tab (same_td hsx)
        have r2 := d2.rd.cast hC.tab (same_td hsy)
        have g1 : VC C.tb xt vx cs1 := by unfold VC at c1 ⊢; rwa [isAggT_of (same_td hsx)] at c1
        have g2 : VC C.tb xt vy cs2 := by unfold VC at c2 ⊢; rwa [isAggT_of (same_td hsy)] at c2
        have e1 : ac.eval x = .agg cs1.toArray := by rw [hvx]; simpa [VC, hag] using g1
        have e2 : ac.eval y = .agg cs2.toArray := by rw [hvy]; simpa [VC, hag] using g2
        refine ⟨.bool (if op = .eql then eqE a b else !(eqE a b)), fun w' hw' => ?_, .mkBool hC.bt⟩
        have hq := equalIn_ok hC.tab (H := H) 12 10000 xt ht (by omega) cs1 cs2 a b _ _ w' r1 r2 g1 g2
        rw [← hvx, ← hvy, e1, e2] at hq
        have hgd := run_eqGuard_agg (P := C.P) w' op xt x y cs1.toArray cs2.toArray hg
        rcases hop with rfl | rfl
        · simp [execOp, ho, e1, e2, hgd, run_eql_struct, hq]
        · simp [execOp, ho, e1, e2, hgd, run_neq_struct, hq]
end
end Go.Den
/- A wider function that tells what an operation does. -/
namespace Go.Den
open Go
set_option linter.unusedSectionVars false
set_option linter.unusedSimpArgs false
set_option linter.unusedVariables false

def memN (t : Nat) : List Nat → Bool
  | [] => false
  | i :: r => match Nat.beq i t with
    | true => true
    | false => memN t r
theorem memN_mem {t : Nat} : ∀ {l : List Nat}, memN t l = true → t ∈ l
  | [], h => by cases h
  | i :: r, h => by
    simp only [memN] at h
    split at h
    · rename_i hb; simp [Nat.eq_of_beq_eq_true hb]
    · exact List.mem_cons_of_mem _ (memN_mem h)

def eqOp : BinOp → Option Bool
  | .eql => some true
  | .neq => some false
  | _ => none

def d3Bin (eqs : List TypeId) (C : Cx) (env : Env) (σ : List Blk) (op : BinOp) (xt : TypeId) (x y : Operand) : Option DR :=
  match eqOp op with
  | some w => match td C.tb xt with
    | .ptr u => match opd C.tb env xt x with
      | some dx => match opd C.tb env xt y with
        | some dy => match ptrD dx with
          | some none => match ptrD dy with
            | some none => match w with
              | true => some ⟨True, .kb C.bt true, σ⟩
              | false => some ⟨True, .kb C.bt false, σ⟩
            | some (some _) => match w with
              | true => some ⟨True, .kb C.bt false, σ⟩
              | false => some ⟨True, .kb C.bt true, σ⟩
            | none => none
          | some (some (i, p)) => match ptrD dy with
            | some none => match w with
              | true => some ⟨True, .kb C.bt false, σ⟩
              | false => some ⟨True, .kb C.bt true, σ⟩
            | some (some (j, q)) => match w with
              | true => some ⟨i = j ∧ p = q ∧ td C.tb u ≠ .other, .kb C.bt true, σ⟩
              | false => some ⟨i = j ∧ p = q ∧ td C.tb u ≠ .other, .kb C.bt false, σ⟩
            | none => none
          | none => none
        | none => none
      | none => none
    | _ => match memN xt eqs with
      | true => match isAggT C.tb xt with
        | true => match opd C.tb env xt x with
          | some (.t tx (.e a)) => match opd C.tb env xt y with
            | some (.t ty (.e b)) => match same C.tb tx xt with
              | true => match same C.tb ty xt with
                | true => match w with
                  | true => some ⟨True, .t C.bt (.e (.bool (eqE a b))), σ⟩
                  | false => some ⟨True, .t C.bt (.e (.bool (!(eqE a b)))), σ⟩
                | false => none
              | false => none
            | _ => none
          | _ => none
        | false => none
      | false => none
  | none => none

theorem eqOp_some {op : BinOp} {w : Bool} (h : eqOp op = some w) : (op = .eql ∧ w = true) ∨ (op = .neq ∧ w = false) := by
  cases op <;> simp [eqOp] at h <;> subst h <;> simp

theorem d3Bin_ok {eqs : List TypeId} {C : Cx} (hC : Ok C) (he : eqTys C.P C.tb eqs) {o : Oper} {env : Env} {σ : List Blk} {op xt x y yt} {r : DR} (ho : o.op = .binOp op xt x y yt) (h : d3Bin eqs C env σ op xt x y = some r) (hp : r.p) : OpOk C o env σ r := by
  have key : OpOk C o env σ ⟨True, r.d, r.s⟩ → OpOk C o env σ r := fun h => ⟨h.v, h.val⟩
  refine key ?_
  unfold d3Bin at h
  split at h
  · rename_i w hw
    have hop := eqOp_some hw
    have hop' : op = .eql ∨ op = .neq := by rcases hop with ⟨h, _⟩ | ⟨h, _⟩; exact .inl h; exact .inr h
    split at h
    · rename_i u ht
      split at h
      · rename_i dx hx
        split at h
        · rename_i dy hy
          split at h
          · rename_i ha
            split at h
            · rename_i hb
              have := Ok_eqP (σ := σ) hC ho hop' ht hx hy ha hb (.inl (.inl rfl))
              rcases hop with ⟨rfl, rfl⟩ | ⟨rfl, rfl⟩ <;> (cases h; simpa using this)
            · rename_i q hb
              have := Ok_eqP (σ := σ) hC ho hop' ht hx hy ha hb (.inl (.inl rfl))
              rcases hop with ⟨rfl, rfl⟩ | ⟨rfl, rfl⟩ <;> (cases h; simpa using this)
            · cases h
          · rename_i i p ha
            split at h
            · rename_i hb
              have := Ok_eqP (σ := σ) hC ho hop' ht hx hy ha hb (.inl (.inr rfl))
              rcases hop with ⟨rfl, rfl⟩ | ⟨rfl, rfl⟩ <;> (cases h; simpa using this)
            · rename_i j q hb
              rcases hop with ⟨rfl, rfl⟩ | ⟨rfl, rfl⟩
              · cases h
                have := Ok_eqP (σ := σ) hC ho (.inl rfl) ht hx hy ha hb (.inr ⟨by rw [hp.1, hp.2.1], hp.2.2⟩)
                simpa using this
              · cases h
                have := Ok_eqP (σ := σ) hC ho (.inr rfl) ht hx hy ha hb (.inr ⟨by rw [hp.1, hp.2.1], hp.2.2⟩)
                simpa using this
            · cases h
          · cases h
        · cases h
      · cases h
    · split at h
      · rename_i hm
        have hh := List.all_eq_true.1 he xt (memN_mem hm)
        simp only [Bool.and_eq_true, Bool.not_eq_true'] at hh
        split at h
        · rename_i hag
          split at h
          · rename_i tx a hx
            split at h
            · rename_i ty b hy
              split at h
              · rename_i hsx
                split at h
                · rename_i hsy
                  have := Ok_eqA (σ := σ) hC ho hop' hh.1 hh.2 hag hx hy rfl rfl hsx hsy
                  rcases hop with ⟨rfl, rfl⟩ | ⟨rfl, rfl⟩ <;> (cases h; simpa using this)
                · cases h
              · cases h
            · cases h
          · cases h
        · cases h
      · cases h
  · cases h

def d3Slice (C : Cx) (env : Env) (σ : List Blk) (t s : TypeId) (lo hi : Option Operand) : Option DR :=
  match td C.tb t with
  | .arr n u => match getD env s with
    | .ptr i p => match σ[i]? with
      | some (.tree ty _) => match td C.tb (tyAt C.tb ty p) == .arr n u with
        | true => match Nat.beq (sz C.tb u) 0 with
          | false => match Nat.ble n maxN with
            | true => match bnd env 0 lo with
              | some l => match bnd env n hi with
                | some h => some ⟨0 ≤ l ∧ l ≤ h ∧ h ≤ n ∧ l < n, .asl i p u l.toNat (h.toNat - l.toNat), σ⟩
                | none => none
              | none => none
            | false => none
          | true => none
        | false => none
      | _ => none
    | _ => none
  | _ => none
theorem d3Slice_ok {C : Cx} (hC : Ok C) {o : Oper} {env : Env} {σ : List Blk} {t s lo hi} {r : DR} (ho : o.op = .slice t (.tmp s) lo hi none) (h : d3Slice C env σ t s lo hi = some r) (hp : r.p) : OpOk C o env σ r := by
  have key : OpOk C o env σ ⟨True, r.d, r.s⟩ → OpOk C o env σ r := fun h => ⟨h.v, h.val⟩
  refine key ?_
  unfold d3Slice at h
  split at h
  · rename_i n u ht
    split at h
    · rename_i i p hs
      split at h
      · rename_i ty X hi
        split at h
        · rename_i hty
          split at h
          · rename_i hz
            split at h
            · rename_i hn
              split at h
              · rename_i l hl
                split at h
                · rename_i hh hhe; cases h; exact Ok_sliceA hC ho hs hi ht (td_beq hty) (Nat.ne_of_beq_eq_false hz) (Nat.le_of_ble_eq_true hn) hl hhe hp.1 hp.2.1 hp.2.2.1 hp.2.2.2
                · cases h
              · cases h
            · cases h
          · cases h
        · cases h
      · cases h
    · cases h
  · cases h

def d3Conv (C : Cx) (env : Env) (σ : List Blk) (s d : TypeId) (x : Operand) : Option DR :=
  match td C.tb s with
  | .sl u => match td C.tb u with
    | .int .u8 => match td C.tb d with
      | .str => match opd C.tb env s x with
        | some (.asl i p u' off n) => match x with
          | .tmp _ => match Nat.beq u u' with
            | true => match σ[i]? with
              | some (.tree _ X) => match getT p X with
                | .e (.agg ds) => some ⟨True, .t d (.e (.str (((ds.drop off).take n).map byteOf))), σ⟩
                | _ => none
              | _ => none
            | false => none
          | _ => none
        | some dx => match slE dx with
          | some xs => match same C.tb (tagD dx) s with
            | true => some ⟨True, .t d (.e (.str (xs.map byteOf))), σ⟩
            | false => none
          | none => none
        | none => none
      | _ => none
    | _ => none
  | _ => none
theorem d3Conv_ok {C : Cx} (hC : Ok C) {o : Oper} {env : Env} {σ : List Blk} {s d x} {r : DR} (ho : o.op = .convert s d x) (h : d3Conv C env σ s d x = some r) : OpOk C o env σ r := by
  have key : OpOk C o env σ ⟨True, r.d, r.s⟩ → OpOk C o env σ r := fun h => ⟨h.v, h.val⟩
  refine key ?_
  unfold d3Conv at h
  split at h
  · rename_i u hs
    split at h
    · rename_i hu
      split at h
      · rename_i hd
        split at h
        · rename_i i p u' off n hx
          split at h
          · rename_i q
            split at h
            · rename_i hb
              have := Nat.eq_of_beq_eq_true hb; subst this
              split at h
              · rename_i ty X hi
                split at h
                · rename_i ds hX; cases h; exact Ok_strOfA hC ho hs hu hd (by simpa [opd] using hx) hi hX
                · cases h
              · cases h
            · cases h
          · cases h
        · rename_i dx _ hx
          split at h
          · rename_i xs hxs
            split at h
            · rename_i hsm; cases h; exact Ok_strOf hC ho hs hu hd hx hxs hsm
            · cases h
          · cases h
        · cases h
      · cases h
    · cases h
  · cases h

/-- What is appended or copied. -/
def srcK (C : Cx) (env : Env) (σ : List Blk) (t t2 : TypeId) (y : Operand) : Option (List E) :=
  match opd C.tb env t2 y with
  | some (.asl i p u' off n) => match y with
    | .tmp _ => match Nat.beq t t2 with
      | true => match td C.tb t == .sl u' with
        | true => match σ[i]? with
          | some (.tree _ X) => match getT p X with
            | .e (.agg ds) => some ((ds.drop off).take n)
            | _ => none
          | _ => none
        | false => none
      | false => none
    | _ => none
  | some dy => srcE C.tb t t2 dy
  | none => none
theorem srcK_at {C : Cx} (hC : Ok C) {env : Env} {σ : List Blk} {t t2 y ys} (h : srcK C env σ t t2 y = some ys) : SrcAt C env σ t t2 y ys := by
  unfold srcK at h
  split at h
  · rename_i i p u' off n hx
    split at h
    · rename_i q
      split at h
      · rename_i hb
        have := Nat.eq_of_beq_eq_true hb; subst this
        split at h
        · rename_i ht
          split at h
          · rename_i ty X hi
            split at h
            · rename_i ds hX; cases h; exact SrcAt_asl hC (by simpa [opd] using hx) (td_beq ht) hi hX
            · cases h
          · cases h
        · cases h
      · cases h
    · cases h
  · rename_i dy _ hy; exact SrcAt_E hC hy h
  · cases h

def d3Append (C : Cx) (env : Env) (σ : List Blk) (t t2 : TypeId) (x y : Operand) : Option DR :=
  match td C.tb t with
  | .sl u => match plain C.tb zf u with
    | true => match opd C.tb env t x with
      | some (.t tx (.msl i n)) => match σ[i]? with
        | some (.mrow u' true xs) => match Nat.beq u u' with
          | true => match srcK C env σ t t2 y with
            | some ys => setK σ i (.mrow u true (xs ++ ys)) fun σ' => some ⟨n = xs.length ∧ (xs.length + ys.length) * nb C.tb u ≤ maxL ∧ xs.length + ys.length ≤ maxL, .t t (.msl i (n + ys.length)), σ'⟩
            | none => none
          | false => none
        | _ => none
      | _ => none
    | false => none
  | _ => none
theorem d3Append_ok {C : Cx} (hC : Ok C) {o : Oper} {env : Env} {σ : List Blk} {t t2 x y} {r : DR} (ho : o.op = .call { callee := .builtin .append, args := #[x, y], argTypes := #[t, t2] }) (h : d3Append C env σ t t2 x y = some r) (hp : r.p) : OpOk C o env σ r := by
  have key : OpOk C o env σ ⟨True, r.d, r.s⟩ → OpOk C o env σ r := fun h => ⟨h.v, h.val⟩
  refine key ?_
  unfold d3Append at h
  split at h
  · rename_i u ht
    split at h
    · rename_i hz
      split at h
      · rename_i tx i n hx
        split at h
        · rename_i u' xs hi
          split at h
          · rename_i hb
            have := Nat.eq_of_beq_eq_true hb; subst this
            split at h
            · rename_i ys hys
              rw [setK_eq] at h; cases h
              exact Ok_appendM hC ho ht hz hx rfl hi hp.1 (srcK_at hC hys) hp.2
            · cases h
          · cases h
        · cases h
      · cases h
    · cases h
  · cases h

def d3Copy (C : Cx) (env : Env) (σ : List Blk) (rt t t2 : TypeId) (s : Nat) (y : Operand) : Option DR :=
  match td C.tb rt with
  | .int .i64 => match getD env s with
    | .asl i p u off n => match td C.tb t == .sl u with
      | true => match Nat.beq (sz C.tb u) 0 with
        | false => match σ[i]? with
          | some (.tree ty X) => match getT p X with
            | .e (.agg ds) => match srcK C env σ t t2 y with
              | some ys => setK σ i (.tree ty (setT p (.e (.agg (putAt ds off (ys.take (min ys.length n))))) X)) fun σ' => some ⟨True, .t rt (.e (.int (min ys.length n : Nat))), σ'⟩
              | none => none
            | _ => none
          | _ => none
        | true => none
      | false => none
    | _ => none
  | _ => none
theorem d3Copy_okF {C : Cx} (hC : Ok C) {o : Oper} {env : Env} {σ : List Blk} {t t2 s y} {r : DR} (ho : o.op = .call { callee := .builtin .copy, args := #[.tmp s, y], argTypes := #[t, t2] }) (h : d3Copy C env σ o.type t t2 s y = some r) {ts : List Nat} (hts : ∀ i p u off n, getD env s = .asl i p u off n → i ∈ ts) :
    OpF C o env σ ts (fun d s => d = r.d ∧ s = r.s) := by
  unfold d3Copy at h
  split at h
  · rename_i hr
    split at h
    · rename_i i p u off n hs
      split at h
      · rename_i ht
        split at h
        · rename_i hz
          split at h
          · rename_i ty X hi
            split at h
            · rename_i ds hX
              split at h
              · rename_i ys hys
                rw [setK_eq] at h; cases h
                exact OpF_copyA hC ho (td_beq ht) hr hs hi hX (srcK_at hC hys) (Nat.ne_of_beq_eq_false hz) (hts _ _ _ _ _ hs)
              · cases h
            · cases h
          · cases h
        · cases h
      · cases h
    · cases h
  · cases h
theorem d3Copy_ok {C : Cx} (hC : Ok C) {o : Oper} {env : Env} {σ : List Blk} {t t2 s y} {r : DR} (ho : o.op = .call { callee := .builtin .copy, args := #[.tmp s, y], argTypes := #[t, t2] }) (h : d3Copy C env σ o.type t t2 s y = some r) : OpOk C o env σ r := by
  have := d3Copy_okF hC ho h (ts := match getD env s with | .asl i _ _ _ _ => [i] | _ => []) (fun i p u off n e => by rw [e]; simp)
  exact ⟨this.v, fun hv => by simp [isVal, ho] at hv⟩

def d3SliceData (C : Cx) (env : Env) (σ : List Blk) (t : TypeId) (x : Operand) : Option DR :=
  match td C.tb t with
  | .sl u => match td C.tb u with
    | .int .u8 => match opd C.tb env t x with
      | some (.t tx (.msl i n)) => match same C.tb tx t with
        | true => match σ[i]? with
          | some (.mrow u' true xs) => match Nat.beq u u' with
            | true => some ⟨n = xs.length, .mel u i n 0 [], σ⟩
            | false => none
          | _ => none
        | false => none
      | _ => none
    | _ => none
  | _ => none
theorem d3SliceData_ok {C : Cx} (hC : Ok C) {o : Oper} {env : Env} {σ : List Blk} {t x} {r : DR} (ho : o.op = .call { callee := .builtin .unsafeSliceData, args := #[x], argTypes := #[t] }) (h : d3SliceData C env σ t x = some r) (hp : r.p) : OpOk C o env σ r := by
  have key : OpOk C o env σ ⟨True, r.d, r.s⟩ → OpOk C o env σ r := fun h => ⟨h.v, h.val⟩
  refine key ?_
  unfold d3SliceData at h
  split at h
  · rename_i u ht
    split at h
    · rename_i hu
      split at h
      · rename_i tx i n hx
        split at h
        · rename_i hsx
          split at h
          · rename_i u' xs hi
            split at h
            · rename_i hb
              have := Nat.eq_of_beq_eq_true hb; subst this
              cases h
              exact Ok_sliceData (v := u) hC ho ht hu hx hsx hi hp
            · cases h
          · cases h
        · cases h
      · cases h
    · cases h
  · cases h

theorem Ok_buildA {C : Cx} (hC : Ok C) {o : Oper} {env : Env} {σ : List Blk} {t u : TypeId} {m : Nat} {ps : Array (Nat × Operand)} {qs : List (Nat × T)} (ho : o.op = .build t ps) (hst : td C.tb t = .arr m u) (hz : plain C.tb zf t = true) (hzu : sz C.tb u ≠ 0)
    (hps : partsT C.tb env (fun i => if i < m then some u else none) ps.toList = some qs) : OpOk C o env σ ⟨True, ldD t (buildT qs (zeroT C.tb zf t)), σ⟩ :=
  OpOk_val fun H β a w hr he => by
    obtain ⟨z, hzr, hzc⟩ := hC.zero.all hC.tab hz
    have hz0 := zeroT_rel hC.tab (H := H) (β := β) (σ := σ) zf t hz
    obtain ⟨cs', k1, k2⟩ := fill_array hC he hst ps.toList qs (zc C.tb zf t) _ hps hz0
    refine ⟨.agg cs'.toArray, fun w' hw' => ?_, ldD_rel (by simp [VC, isAggT, hst]) k2⟩
    have hzca : z.cells = (zc C.tb zf t).toArray := by rw [← hzc]
    simp only [execOp, ho, Instr.build, Sem.run_bind, hzr, Result.andThen, run_underlying_of hC.tab (hC.tab.arr hst), run_sizeOf_of hC.tab (lt_of_sz hC hzu)]
    have hmap : (ps.map fun (i, x) => (i, a.eval x)).toList = ps.toList.map fun p => (p.1, a.eval p.2) := by simp
    rw [hmap, hzca, k1]
    rfl

def d3Build (C : Cx) (env : Env) (σ : List Blk) (t : TypeId) (ps : List (Nat × Operand)) : Option DR :=
  match td C.tb t with
  | .arr m u => match plain C.tb zf t with
    | true => match Nat.beq (sz C.tb u) 0 with
      | false => match partsT C.tb env (fun i => if i < m then some u else none) ps with
        | some qs => match buildT qs (zeroT C.tb zf t) with
          | .st ys => match toE (.st ys) with
            | some e => some ⟨True, .t t (.e e), σ⟩
            | none => some ⟨True, .t t (.st ys), σ⟩
          | .e x => some ⟨True, .t t (.e x), σ⟩
          | _ => none
        | none => none
      | true => none
    | false => none
  | _ => none
theorem d3Build_ok {C : Cx} (hC : Ok C) {o : Oper} {env : Env} {σ : List Blk} {t ps} {r : DR} (ho : o.op = .build t ps) (h : d3Build C env σ t ps.toList = some r) : OpOk C o env σ r := by
  unfold d3Build at h
  split at h
  · rename_i m u hst
    split at h
    · rename_i hz
      split at h
      · rename_i hzu
        split at h
        · rename_i qs hqs
          have hl := Ok_buildA (σ := σ) hC ho hst hz (Nat.ne_of_beq_eq_false hzu) hqs
          split at h
          · rename_i ys hy; rw [hy] at hl
            split at h
            · rename_i e he; cases h; simp only [ldD, he] at hl; exact hl
            · rename_i he; cases h; simp only [ldD, he] at hl; exact hl
          · rename_i x hy; rw [hy] at hl; cases h; exact hl
          · cases h
        · cases h
      · cases h
    · cases h
  · cases h

def dop3 (eqs : List TypeId) (C : Cx) (env : Env) (σ : List Blk) (o : Oper) : Option DR := match dop2 C env σ o with
  | some r => some r
  | none => match o.op with
    | .binOp op xt x y _ => d3Bin eqs C env σ op xt x y
    | .slice t (.tmp s) lo hi none => d3Slice C env σ t s lo hi
    | .convert s d x => d3Conv C env σ s d x
    | .build t ps => d3Build C env σ t ps.toList
    | .call { callee := .builtin .append, args := ⟨[x, y]⟩, argTypes := ⟨[t, t2]⟩ } => d3Append C env σ t t2 x y
    | .call { callee := .builtin .copy, args := ⟨[.tmp s, y]⟩, argTypes := ⟨[t, t2]⟩ } => d3Copy C env σ o.type t t2 s y
    | .call { callee := .builtin .unsafeSliceData, args := ⟨[x]⟩, argTypes := ⟨[t]⟩ } => d3SliceData C env σ t x
    | _ => none
theorem dop3_ok {eqs : List TypeId} {C : Cx} (hC : Ok C) (he : eqTys C.P C.tb eqs) {env : Env} {σ : List Blk} {o : Oper} {r : DR} (h : dop3 eqs C env σ o = some r) (hp : r.p) : OpOk C o env σ r := by
  unfold dop3 at h
  split at h
  · rename_i r' h2; cases h; exact dop2_ok hC h2 hp
  · split at h
    · rename_i ho; exact d3Bin_ok hC he ho h hp
    · rename_i ho; exact d3Slice_ok hC ho h hp
    · rename_i ho; exact d3Conv_ok hC ho h
    · rename_i ho; exact d3Build_ok hC ho h
    · rename_i ho; exact d3Append_ok hC ho h hp
    · rename_i ho; exact d3Copy_ok hC ho h
    · rename_i ho; exact d3SliceData_ok hC ho h hp
    · cases h

def kit3 (eqs : List TypeId) (bk : List Nat) (fs : List (FuncId × Kon)) : Kit := ⟨bk, dop3 eqs, fs⟩
theorem kit3_ok {P : Program} {tb : Tab} {eqs : List TypeId} {fs : List (FuncId × Kon)} (he : eqTys P tb eqs) (bk : List Nat) (h : kok P tb fs) : KitOk P tb (kit3 eqs bk fs) :=
  ⟨fun C hP hT hC env σ o r h hp => dop3_ok hC (by rw [hP, hT]; exact he) h hp, h⟩
section
variable {C : Cx} {env : Env} {σ : List Blk} {Q : Post}
/-- Runs on, with the wider function. -/
theorem VX_go3 (hC : Ok C) {eqs : List TypeId} (he : eqTys C.P C.tb eqs) {fs : List (FuncId × Kon)} (hk : kok C.P C.tb fs) (n : Nat) (bk : List Nat) {k k' : List It} {e e' : Env} {s s' : List Blk} {x : X} {ps : List Prop} (h : run (kit3 eqs bk fs) C n [] k e s = ⟨ps, k', x, e', s'⟩) (hp : allP ps)
    (hv : VX C Q k' x e' s') : VX C Q k .nrm e s := VX_run n (kit3_ok he bk hk) hC h hp hv
end
end Go.Den
/- What data of a type looks like. -/
namespace Go.Den
open Go
set_option linter.unusedVariables false
variable {tb : Tab} {t : TypeId} {x : E}
theorem wt_int {k : IntKind} (h : Wt tb t x) (ht : td tb t = .int k) : ∃ n, x = .int n ∧ inR k n = true := by
  obtain ⟨H, cs, h⟩ := h
  cases h with
  | @int _ k' n a b =>
    rw [ht] at a; cases a
    have := wrap_inR k n
    rw [b] at this
    exact ⟨n, rfl, this⟩
  | _ a => rw [ht] at a; cases a
theorem wt_bool (h : Wt tb t x) (ht : td tb t = .bool) : ∃ b, x = .bool b := by
  obtain ⟨H, cs, h⟩ := h
  cases h with
  | bool a => exact ⟨_, rfl⟩
  | _ a => rw [ht] at a; cases a
theorem wt_str (h : Wt tb t x) (ht : td tb t = .str) : ∃ s : List UInt8, x = .str s := by
  obtain ⟨H, cs, h⟩ := h
  cases h with
  | str a b => exact ⟨_, rfl⟩
  | _ a => rw [ht] at a; cases a
theorem wt_arr {n : Nat} {u : TypeId} (h : Wt tb t x) (ht : td tb t = .arr n u) : ∃ xs, x = .agg xs ∧ xs.length = n ∧ ∀ y ∈ xs, Wt tb u y := by
  obtain ⟨H, cs, h⟩ := h
  cases h with
  | arr a b c d =>
    rw [ht] at a; cases a
    refine ⟨_, rfl, c, fun y hy => ?_⟩
    obtain ⟨i, hi⟩ := List.getElem?_of_mem hy
    exact ⟨H, _, d i y hi⟩
  | _ a => rw [ht] at a; cases a
theorem wt_st {fs : List (TypeId × Nat)} (h : Wt tb t x) (ht : td tb t = .st fs) : ∃ xs, x = .agg xs ∧ xs.length = fs.length ∧ ∀ (i : Nat) f y, fs[i]? = some f → xs[i]? = some y → Wt tb f.1 y := by
  obtain ⟨H, cs, h⟩ := h
  cases h with
  | st a b c d => rw [ht] at a; cases a; exact ⟨_, rfl, c, fun i f y hf hy => ⟨H, _, d i f y hf hy⟩⟩
  | _ a => rw [ht] at a; cases a
theorem wt_sl {u : TypeId} (h : Wt tb t x) (ht : td tb t = .sl u) : ∃ xs, x = .sl xs ∧ ∀ y ∈ xs, Wt tb u y := by
  obtain ⟨H, cs, h⟩ := h
  cases h with
  | sl0 a => exact ⟨[], rfl, fun y hy => by simp at hy⟩
  | sl a b c d e f =>
    rw [ht] at a; cases a
    refine ⟨_, rfl, fun y hy => ?_⟩
    obtain ⟨i, hi⟩ := List.getElem?_of_mem hy
    exact ⟨H, _, d i y hi⟩
  | _ a => rw [ht] at a; cases a
theorem map_ex {α β : Type} {f : α → β} : ∀ {l : List β}, (∀ y ∈ l, ∃ x, y = f x) → ∃ m : List α, l = m.map f
  | [], _ => ⟨[], rfl⟩
  | y :: l, h => by
    obtain ⟨x, rfl⟩ := h y (by simp)
    obtain ⟨m, rfl⟩ := map_ex (l := l) (fun z hz => h z (by simp [hz]))
    exact ⟨x :: m, rfl⟩
theorem list1 {α : Type} {l : List α} (h : l.length = 1) : ∃ a, l = [a] := by
  match l, h with | [a], _ => exact ⟨a, rfl⟩
theorem list2 {α : Type} {l : List α} (h : l.length = 2) : ∃ a b, l = [a, b] := by
  match l, h with | [a, b], _ => exact ⟨a, b, rfl⟩
theorem list3 {α : Type} {l : List α} (h : l.length = 3) : ∃ a b c, l = [a, b, c] := by
  match l, h with | [a, b, c], _ => exact ⟨a, b, c, rfl⟩
theorem list4 {α : Type} {l : List α} (h : l.length = 4) : ∃ a b c d, l = [a, b, c, d] := by
  match l, h with | [a, b, c, d], _ => exact ⟨a, b, c, d, rfl⟩
theorem list5 {α : Type} {l : List α} (h : l.length = 5) : ∃ a b c d e, l = [a, b, c, d, e] := by
  match l, h with | [a, b, c, d, e], _ => exact ⟨a, b, c, d, e, rfl⟩
theorem list6 {α : Type} {l : List α} (h : l.length = 6) : ∃ a b c d e f, l = [a, b, c, d, e, f] := by
  match l, h with | [a, b, c, d, e, f], _ => exact ⟨a, b, c, d, e, f, rfl⟩
end Go.Den
namespace Go.Den
open Go
section
variable {C : Cx} {env : Env} {σ : List Blk} {Q : Post}
/-- A copy in a region that draws. -/
theorem VX_copyO (hC : Ok C) {k : List It} {full : List Oper} {ts : List Nat} {i : Nat} {ord : List (Nat × Bool)} {o : Oper} {t t2 : TypeId} {s j off n : Nat} {p : List Nat} {u : TypeId} {y : Operand} {d : D} {σ' : List Blk} {pp : Prop}
    (hi : full[i]? = some o) (hw : wants full env o = some true) (hn : dstOk C.n o.dst = true) (ho : o.op = .call { callee := .builtin .copy, args := #[.tmp s, y], argTypes := #[t, t2] })
    (h : d3Copy C env σ o.type t t2 s y = some ⟨pp, d, σ'⟩) (hs : getD env s = .asl j p u off n) (hts : j ∈ ts)
    (hk : VX C Q (.o full ts ord :: k) .nrm (putD env o.dst d) σ') (hal : aloneB full ((i, false) :: ord) = true := by kernel_rfl) : VX C Q (.o full ts ((i, false) :: ord) :: k) .nrm env σ :=
  VX_opO hi hw hn (d3Copy_okF hC ho h fun i p u off n e => by rw [hs] at e; cases e; exact hts) (fun d1 s1 ⟨a1, a2⟩ => by subst a1; subst a2; exact hk) hal
end
end Go.Den
namespace Go.Den
open Go
theorem wt_len {tb : Tab} {t : TypeId} {xs : List E} (h : Wt tb t (.sl xs)) : xs.length ≤ maxN := by
  obtain ⟨H, cs, h⟩ := h
  cases h with
  | sl0 a => simp
  | sl a b c d e f => exact f
end Go.Den
/- Two ways that meet again. -/
namespace Go.Den
open Go
set_option linter.unusedVariables false

/-- A stack with its next region unfolded. -/
def unf : Nat → List It → List It
  | 0, k => k
  | n + 1, k => match k with
    | .c (.seq a b) :: k => unf n (.c a :: .c b :: k)
    | .c (.region _ ⟨l⟩ false) :: k => .r l l :: k
    | .c (.block id c) :: k => unf n (.c c :: .b id :: k)
    | .c .skip :: k => unf n k
    | k => k
/-- What comes behind the next test. -/
def behind : Nat → List It → List It
  | 0, k => k
  | n + 1, k => match k with
    | .r _ _ :: k => behind n k
    | .o _ _ _ :: k => behind n k
    | .c (.seq a b) :: k => behind n (.c a :: .c b :: k)
    | .c (.region _ _ _) :: k => behind n k
    | .c (.cond _ _ _) :: k => unf 40 k
    | .c .skip :: k => behind n k
    | k => k
def splitsCR : List It → Bool
  | .c _ :: _ | .r _ _ :: _ => true
  | _ => false
section
variable {C : Cx} {env : Env} {σ : List Blk} {Q : Post}
theorem VX_weakS {k : List It} {env' : Env} {σ' : List Blk} (hk : splitsCR k = true) (hw : Weak C.k0 env' σ' env σ) (h : VX C Q k .nrm env' σ') : VX C Q k .nrm env σ := by
  match k, hk with
  | .c code :: k, _ => exact V_weak hw h
  | .r full l :: k, _ =>
    intro H β a w hr he hd
    have r := hw.res (C := C) (H := H) (β := β) (σ := σ) (w := w) (a' := a) (w' := w) (H' := H) (β' := β) ⟨hr, he, hd, .refl _ _, .refl _ _ _⟩
    exact wpList_mono (fun _ _ _ hl => hl.trans r.stp r.kp) _ _ _ (h H _ a w r.rel r.env hd)
/-- A truth in a temporary; both ways come to one state behind the next test. -/
theorem VX_splitJ {k k' : List It} (t : Nat) (env' : Env) (σ' : List Blk) {ty : TypeId} {b : Bool} (hk : splits k = true) (hb : getD env t = .t ty (.e (.bool b))) (hj : behind 60 k = k')
    (rest : VX C Q k' .nrm env' σ')
    (h1 : b = true → VX C Q k' .nrm env' σ' → VX C Q k .nrm ((t, .kb ty true) :: env) σ) (h0 : b = false → VX C Q k' .nrm env' σ' → VX C Q k .nrm ((t, .kb ty false) :: env) σ) : VX C Q k .nrm env σ :=
  VX_split t hk hb (fun h => h1 h rest) (fun h => h0 h rest)
end
end Go.Den
namespace Go.Den
open Go
section
variable {C : Cx} {env : Env} {σ : List Blk} {Q : Post}

set_option linter.unusedVariables false in
theorem VX_via {k k' : List It} (env' : Env) (σ' : List Blk) (hj : behind 60 k = k') (rest : VX C Q k' .nrm env' σ') (h : VX C Q k' .nrm env' σ' → VX C Q k .nrm env σ) : VX C Q k .nrm env σ := h rest
end
end Go.Den
/- The runes of a text. -/
namespace Go.Den
open Go
set_option linter.unusedSectionVars false
set_option linter.unusedSimpArgs false
set_option linter.unusedVariables false

/-- What stands in a text at a place: the rune, and how many bytes it takes. -/
def runeAt (s : List UInt8) (pos : Nat) : Nat × Nat := Utf8.decode ⟨⟨s⟩⟩ pos
theorem runeAt_w (s : List UInt8) (pos : Nat) : 1 ≤ (runeAt s pos).2 ∧ (runeAt s pos).2 ≤ 4 := by
  unfold runeAt Utf8.decode
  simp only []
  repeat' split
  all_goals simp

theorem iterAt_cell (w : World) (k : Nat) (s : ByteArray) (pos pos' : Nat) (hk : w.heap[k]? = some (.stringIter s pos)) (b o : Nat) : (w.iterAt k s pos').cell? ⟨b, o, none⟩ = w.cell? ⟨b, o, none⟩ := by
  by_cases h : b = k
  · subst h
    have := Lib.iterAt_heap w b s pos pos' hk
    simp [World.cell?, this, hk]
  · have : (w.iterAt k s pos').heap[b]? = w.heap[b]? := by simp [World.iterAt, Array.getElem?_setIfInBounds_ne (Ne.symm h)]
    simp [World.cell?, this]
theorem iterAt_other (w : World) (k : Nat) (s : ByteArray) (pos' b : Nat) (h : b ≠ k) : (w.iterAt k s pos').heap[b]? = w.heap[b]? := by simp [World.iterAt, Array.getElem?_setIfInBounds_ne (Ne.symm h)]
theorem iterAt_shape (w : World) (k : Nat) (s : ByteArray) (pos pos' : Nat) (hk : w.heap[k]? = some (.stringIter s pos)) (b : Nat) : (w.iterAt k s pos').shape? b = w.shape? b := by
  by_cases h : b = k
  · subst h
    have := Lib.iterAt_heap w b s pos pos' hk
    simp [World.shape?, this, hk]
  · simp [World.shape?, iterAt_other w k s pos' b h]
theorem iterAt_frozen (w : World) (k : Nat) (s : ByteArray) (pos pos' : Nat) (hk : w.heap[k]? = some (.stringIter s pos)) (b o : Nat) : (w.iterAt k s pos').frozen? ⟨b, o, none⟩ = w.frozen? ⟨b, o, none⟩ := by
  by_cases h : b = k
  · subst h
    have := Lib.iterAt_heap w b s pos pos' hk
    simp [World.frozen?, this, hk]
  · simp [World.frozen?, iterAt_other w k s pos' b h]

theorem Rel.iterTo {tb H β σ w} (h : Rel tb H β σ w) {i pos pos' : Nat} {s : List UInt8} (hi : σ[i]? = some (.iter s pos)) {r : Nat} (hβ : β[i]? = some (.pointer (some ⟨r, 0, none⟩))) (hr : w.heap[r]? = some (.stringIter ⟨⟨s⟩⟩ pos)) (hm : ∀ o, H r o = .mine i) :
    Rel tb H β (σ.set i (.iter s pos')) (w.iterAt r ⟨⟨s⟩⟩ pos') ∧ Stp H w H (w.iterAt r ⟨⟨s⟩⟩ pos') ∧ Ev H β σ H β (σ.set i (.iter s pos')) := by
  have hil : i < σ.length := (List.getElem?_eq_some_iff.1 hi).1
  have hself : (σ.set i (.iter s pos'))[i]? = some (.iter s pos') := by simp [hil]
  have hev : Ev H β σ H β (σ.set i (.iter s pos')) := by
    refine ⟨fun _ _ _ e => e, fun j ty z hj => ?_, fun j ety m hj => ?_, fun j s2 p hj => ?_, fun j ety oo zs hj => ?_, fun j k9 e9 zs hj => ?_⟩
    · have hne : i ≠ j := fun e => by subst e; rw [hi] at hj; cases hj
      exact ⟨rfl, z, by rw [List.getElem?_set_ne hne]; exact hj⟩
    · have hne : i ≠ j := fun e => by subst e; rw [hi] at hj; cases hj
      exact ⟨m, by rw [List.getElem?_set_ne hne]; exact hj, Nat.le_refl _, fun _ => rfl⟩
    · by_cases hji : i = j
      · subst hji; exact ⟨rfl, s, pos', hself⟩
      · exact ⟨rfl, s2, p, by rw [List.getElem?_set_ne hji]; exact hj⟩
    · have hne : i ≠ j := fun e => by subst e; rw [hi] at hj; cases hj
      exact ⟨oo, zs, by rw [List.getElem?_set_ne hne]; exact hj, Nat.le_refl _, fun _ => rfl⟩
    · have hne : i ≠ j := fun e => by subst e; rw [hi] at hj; cases hj
      exact ⟨rfl, zs, by rw [List.getElem?_set_ne hne]; exact hj⟩
  have hc := iterAt_cell w r ⟨⟨s⟩⟩ pos pos' hr
  have hf := iterAt_frozen w r ⟨⟨s⟩⟩ pos pos' hr
  have hs := iterAt_shape w r ⟨⟨s⟩⟩ pos pos' hr
  have hsz : (w.iterAt r ⟨⟨s⟩⟩ pos').heap.size = w.heap.size := by simp [World.iterAt]
  refine ⟨⟨fun b o v e => (hc b o).trans (h.pers b o v e), fun b o e => by rw [hsz]; exact h.dom b o e, by simp [h.len], fun j k bv hk hv => ?_⟩, ?_, hev⟩
  · by_cases hji : i = j
    · subst hji
      rw [hself] at hk; cases hk
      rw [hβ] at hv; cases hv
      exact ⟨r, rfl, Lib.iterAt_heap w r _ pos pos' hr, hm⟩
    · rw [List.getElem?_set_ne hji] at hk
      refine (h.blk j k bv hk hv).mono hev (fun b o e => ⟨e, hc b o, fun _ _ => hf b o, hs b⟩) (fun b x9 e _ he => ?_)
      have hne : b ≠ r := fun e2 => by subst e2; have := (e 0).symm.trans (hm 0); cases this; exact hji rfl
      rw [iterAt_other _ _ _ _ _ hne]; exact he
  · exact ⟨rfl, rfl, rfl, by rw [hsz]; exact Nat.le_refl _, fun _ _ _ _ => rfl, fun _ _ _ j e => ⟨j, e⟩, fun b _ hn => iterAt_other _ _ _ _ _ (fun e => by subst e; exact hn 0 i (hm 0)), fun b _ o _ => hc b o, fun b _ o _ _ _ => hf b o, fun b _ => hs b⟩

section
variable {C : Cx} {env : Env} {σ : List Blk} {Q : Post}
theorem VX_range (hC : Ok C) {k : List It} {full l : List Oper} {o : Oper} {t : TypeId} {x : Operand} {dx : D} {s : List UInt8} {q : Nat} (hw : wants full env o = some true) (hn : dstOk C.n o.dst = true) (ho : o.op = .range t x) (ht : td C.tb t = .str)
    (hx : opd C.tb env t x = some dx) (hs : strAny dx = some s) (hq : o.dst = some q) {σ' : List Blk} {j : Nat} (hj : σ.length = j) (hσ : normBs (σ ++ [.iter s 0]) some = some σ')
    (h : VX C Q (.r full l :: k) .nrm ((q, .it j) :: env) σ') : VX C Q (.r full (o :: l) :: k) .nrm env σ := by
  rw [normBs_eq] at hσ; cases hσ
  subst hj
  refine VX_op hw hn (R := fun d s' => d = .it σ.length ∧ s' = σ ++ [.iter s 0]) ?_ ?_
  · intro H β a w hr he hd K Qx hK
    obtain ⟨hv, _⟩ := strAny_rel (opd_rel he hx) hs
    have hex : (execOp a.eval o).run C.P w = .ok (.value (.pointer (some ⟨w.heap.size, 0, none⟩))) (w.alloc (.stringIter ⟨⟨s⟩⟩ 0)) := by
      simp [execOp, ho, Instr.range, run_underlying_of hC.tab (hC.tab.str ht), hv, sv]
    obtain ⟨r1, r2⟩ := hr.alloc (.stringIter ⟨⟨s⟩⟩ 0) (fun _ => .mine σ.length) [.pointer (some ⟨w.heap.size, 0, none⟩)] [.iter s 0] rfl (fun o v hv => by cases hv)
      (fun i k bv hk hv => by
        have hi : i = 0 := by have := (List.getElem?_eq_some_iff.1 hk).1; simp at this; omega
        subst hi
        simp at hk hv; subst hk; subst hv
        exact ⟨w.heap.size, rfl, heap_alloc_new w _, fun o => by rw [hAlloc_new]; rfl⟩)
    simp only [Oper.wp, hex, Oper.upon]
    exact hK _ _ _ _ _ _ ⟨rfl, rfl⟩ r1 (.it (s := s) (pos := 0) (by simp) (by simp [← hr.len])) (Stp.alloc hr.dom _ _) r2
  · rintro d s' ⟨rfl, rfl⟩
    rw [hq]; exact h

/-- The next rune. -/
theorem VX_next (hC : Ok C) {k : List It} {full l : List Oper} {o : Oper} {t : Nat} {s : List UInt8} {q i pos : Nat} (ti tr : TypeId) (hw : wants full env o = some true) (hn : dstOk C.n o.dst = true) (ho : o.op = .next (.tmp t) true)
    (ht : getD env t = .it i) (hi : σ[i]? = some (.iter s pos)) (hq : o.dst = some q) (hti : td C.tb ti = .int .i64) (htr : td C.tb tr = .int .i32) (hp : (s.length : Int) ≤ maxI) {σ' : List Blk} (hσ : normBs (σ.set i (.iter s (pos + (runeAt s pos).2))) some = some σ')
    (h1 : pos < s.length → VX C Q (.r full l :: k) .nrm ((q, .tup [.kb C.bt true, .t ti (.e (.int pos)), .t tr (.e (.int (runeAt s pos).1))]) :: env) σ')
    (h0 : ¬ pos < s.length → VX C Q (.r full l :: k) .nrm ((q, .tup [.kb C.bt false]) :: env) σ) : VX C Q (.r full (o :: l) :: k) .nrm env σ := by
  rw [normBs_eq] at hσ; cases hσ
  by_cases hpos : pos < s.length
  · refine VX_op hw hn (R := fun d s' => d = .tup [.kb C.bt true, .t ti (.e (.int pos)), .t tr (.e (.int (runeAt s pos).1))] ∧ s' = σ.set i (.iter s (pos + (runeAt s pos).2))) ?_ ?_
    · intro H β a w hr he hd K Qx hK
      have hv := he.get t
      rw [ht] at hv
      generalize hve : a.tmps.getD t undef = vt at hv
      cases hv with
      | @it i v s0 p0 hσi hβ =>
        rw [hi] at hσi; cases hσi
        obtain ⟨r, rfl, hrh, hm⟩ := hr.blk i _ _ hi hβ
        have hrun := Lib.run_next_any_at (P := C.P) w r ⟨⟨s⟩⟩ pos o.type hrh hpos
        have hve' : a.eval (.tmp t) = .pointer (some ⟨r, 0, none⟩) := hve
        have hex : (execOp a.eval o).run C.P w = .ok (.value (.tuple #[.bool true, .int .i64 pos, .int .i32 (Utf8.decode ⟨⟨s⟩⟩ pos).1])) (w.iterAt r ⟨⟨s⟩⟩ (pos + (Utf8.decode ⟨⟨s⟩⟩ pos).2)) := by
          simp [execOp, ho, hve', hrun]
        obtain ⟨r1, r2, r3⟩ := hr.iterTo (pos' := pos + (runeAt s pos).2) hi hβ hrh hm
        simp only [Oper.wp, hex, Oper.upon]
        refine hK _ _ _ H β _ ⟨rfl, rfl⟩ r1 (.tup rfl fun j v d hv hd => ?_) r2 r3
        have hpw : IntKind.wrap .i64 (pos : Int) = pos := inR_wrap (by simp [inR, maxI] at *; omega)
        have hrw : IntKind.wrap .i32 ((Utf8.decode ⟨⟨s⟩⟩ pos).1 : Int) = (Utf8.decode ⟨⟨s⟩⟩ pos).1 := inR_wrap (by have := decode_le ⟨⟨s⟩⟩ pos; simp [inR]; omega)
        match j with
        | 0 => cases hd; simp at hv; subst hv; exact .kb hC.bt
        | 1 => cases hd; simp at hv; subst hv; exact .mkInt hti hpw
        | 2 => cases hd; simp at hv; subst hv; exact .mkInt htr hrw
        | j + 3 => simp at hd
    · rintro d s' ⟨rfl, rfl⟩
      rw [hq]; exact h1 hpos
  · refine VX_op hw hn (R := fun d s' => d = .tup [.kb C.bt false] ∧ s' = σ) ?_ ?_
    · intro H β a w hr he hd K Qx hK
      have hv := he.get t
      rw [ht] at hv
      generalize hve : a.tmps.getD t undef = vt at hv
      cases hv with
      | @it i v s0 p0 hσi hβ =>
        rw [hi] at hσi; cases hσi
        obtain ⟨r, rfl, hrh, hm⟩ := hr.blk i _ _ hi hβ
        have hrun := Lib.run_next_end_at (P := C.P) w r ⟨⟨s⟩⟩ pos o.type hrh hpos
        have hve' : a.eval (.tmp t) = .pointer (some ⟨r, 0, none⟩) := hve
        have hex : (execOp a.eval o).run C.P w = .ok (.value (.tuple #[.bool false])) w := by simp [execOp, ho, hve', hrun]
        simp only [Oper.wp, hex, Oper.upon]
        refine hK _ _ w H β σ ⟨rfl, rfl⟩ hr (.tup rfl fun j v d hv hd => ?_) (.refl _ _) (.refl _ _ _)
        match j with
        | 0 => cases hd; simp at hv; subst hv; exact .kb hC.bt
        | j + 1 => simp at hd
    · rintro d s' ⟨rfl, rfl⟩
      rw [hq]; exact h0 hpos
end
end Go.Den
