/- Rows that are written: what is appended and copied, as operations. -/
import Derived.Test.YtgdfegmdjdnbdaaDenMrow
namespace Go.Den
open Go
set_option linter.unusedSectionVars false
set_option linter.unusedSimpArgs false
set_option linter.unusedVariables false

theorem RowC.take {tb H u cs xs} (h : RowC tb H u cs xs) {n : Nat} (hn : n ≤ xs.length) : RowC tb H u (cs.take (n * sz tb u)) (xs.take n) := by
  have hle : n * sz tb u ≤ cs.length := by rw [h.len]; exact Nat.mul_le_mul_right _ hn
  refine ⟨by simp; rw [Nat.min_eq_left hle, Nat.min_eq_left hn], fun i x hx => ?_⟩
  have hi : i < n := by have := (List.getElem?_eq_some_iff.1 hx).1; simp at this; omega
  rw [List.getElem?_take_of_lt hi] at hx
  have he : seg (cs.take (n * sz tb u)) (i * sz tb u) (sz tb u) = seg cs (i * sz tb u) (sz tb u) := by
    have hb : i * sz tb u + sz tb u ≤ n * sz tb u := by
      have := Nat.mul_le_mul_right (sz tb u) (show i + 1 ≤ n from hi); rwa [Nat.add_mul, Nat.one_mul] at this
    have h0 : cs.take (n * sz tb u) = seg cs 0 (n * sz tb u) := by simp [seg]
    rw [h0, seg_seg hb, Nat.zero_add]
  rw [he]; exact h.el i x hx
theorem RowC.drop {tb H u cs xs} (h : RowC tb H u cs xs) (n : Nat) : RowC tb H u (cs.drop (n * sz tb u)) (xs.drop n) := by
  refine ⟨by simp [h.len, Nat.sub_mul], fun i x hx => ?_⟩
  rw [List.getElem?_drop] at hx
  have := h.el _ x hx
  rwa [Nat.add_mul, show seg cs (n * sz tb u + i * sz tb u) (sz tb u) = seg (cs.drop (n * sz tb u)) (i * sz tb u) (sz tb u) by simp [seg]] at this

theorem Rd.arr_inv {tb H t cs xs n u} (h : Rd tb H t cs (.agg xs)) (a : td tb t = .arr n u) :
    cs.length = n * sz tb u ∧ xs.length = n ∧ ∀ (i : Nat) (x : E), xs[i]? = some x → Rd tb H u (seg cs (i * sz tb u) (sz tb u)) x := by
  cases h with
  | arr a' b c d => rw [a] at a'; cases a'; exact ⟨b, c, d⟩
  | st a' => rw [a] at a'; cases a'

def SrcAt (C : Cx) (env : Env) (σ : List Blk) (t t2 : TypeId) (y : Operand) (ys : List E) : Prop :=
  ∀ H β a w u, td C.tb t = .sl u → Rel C.tb H β σ w → EnvRel C.tb H β σ C.n a env → (t2 = t ∨ td C.tb t2 = .str) ∧ SrcOk C.tb H w C.P u (a.eval y) ys

section
variable {C : Cx} (hC : Ok C) {o : Oper} {env : Env} {σ : List Blk}
include hC

theorem SrcAt_E {t t2 : TypeId} {y : Operand} {dy : D} {ys : List E} (hy : opd C.tb env t2 y = some dy) (h : srcE C.tb t t2 dy = some ys) : SrcAt C env σ t t2 y ys := by
  intro H β a w u ht hr he
  have hv := opd_rel he hy
  unfold srcE at h
  split at h
  · rename_i h2
    rw [ht] at h
    simp only at h
    split at h
    · rename_i hu
      simp only [Option.map_eq_some_iff] at h
      obtain ⟨s, hs, rfl⟩ := h
      obtain ⟨hv, _⟩ := strAny_rel hv hs
      rw [hv]
      have hsz1 : sz C.tb u = 1 := hC.tab.sz_one (by simp [isAggT, hu]) (by simp [hu])
      have hb : ∀ b : UInt8, IntKind.wrap .u8 (b.toNat : Int) = b.toNat := fun b => inR_wrap (by have := b.toNat_lt; simp [inR]; omega)
      refine ⟨.inr h2, by simp [sv, Builtin.lenOf]; rfl, s.map fun b => .int .u8 b.toNat, ⟨by simp [hsz1], fun i x hx => ?_⟩, fun n hn w' _ => ?_⟩
      · simp only [List.getElem?_map, Option.map_eq_some_iff] at hx
        obtain ⟨b, hb1, rfl⟩ := hx
        have : seg (s.map fun b => Value.int .u8 b.toNat) (i * sz C.tb u) (sz C.tb u) = [.int .u8 b.toNat] := by
          rw [hsz1, Nat.mul_one]
          unfold seg
          rw [List.take_one, List.head?_drop]
          simp [hb1]
        rw [this]
        exact .int hu (hb b)
      · have hex : ((⟨⟨s⟩⟩ : ByteArray).extract 0 n).data.toList = s.take n := by
          simp
        simp [sv, Builtin.firstCells, hsz1, ← List.map_take]
    · cases h
  · split at h
    · rename_i hbeq
      have he' := Nat.eq_of_beq_eq_true hbeq
      subst he'
      split at h
      · rename_i hs
        have hrd := (slE_rel hv h).cast hC.tab (same_td hs)
        obtain ⟨ad, c, cs, hve, hrow, hpos⟩ := hrd.cells_of ht
        rw [hve]
        refine ⟨.inl rfl, by simp [Builtin.lenOf], cs, hrow, fun n hn w' hw' => ?_⟩
        rcases Nat.eq_zero_or_pos n with h0 | h0
        · subst h0
          cases ad with
          | none => simp [Builtin.firstCells, loadCells, loadCellsFrom]
          | some a => simp [Builtin.firstCells, loadCells, loadCellsFrom]
        · obtain ⟨b, off, rfl, hp⟩ := hpos (by omega)
          have hle : n * sz C.tb u ≤ cs.length := by rw [hrow.len]; exact Nat.mul_le_mul_right _ hn
          exact run_firstCells_some w' (sz C.tb u) n ⟨b, off, none⟩ _ _ (cs.take (n * sz C.tb u)) (by simp [Nat.min_eq_left hle]) (fun j v hj => by
            rw [add_plain]
            have hjn : j < n * sz C.tb u := by have := (List.getElem?_eq_some_iff.1 hj).1; simp at this; omega
            rw [List.getElem?_take_of_lt hjn] at hj
            exact hw' _ _ _ (hr.pers _ _ _ (hp j v hj)))
      · cases h
    · cases h

/-- The cells of a slice of an own array. -/
theorem asl_cells {H β w v i p u off n} {ty : TypeId} {X : T} {ds : List E} (hr : Rel C.tb H β σ w) (hv : DRel C.tb H β σ v (.asl i p u off n)) (hi : σ[i]? = some (.tree ty X)) (hX : getT p X = .e (.agg ds)) :
    ∃ b q c, v = .slice (some ⟨b, q, none⟩) n c ∧ n ≤ maxN ∧ off + n ≤ ds.length ∧ ∃ cs, RowC C.tb H u cs ((ds.drop off).take n) ∧ (∀ (j : Nat) v, cs[j]? = some v → w.cell? ⟨b, q + j, none⟩ = some v ∧ H b (q + j) = .mine i ∧ w.frozen? ⟨b, q + j, none⟩ = false) := by
  cases hv with
  | @asl i path u off n c a m ha hb hc hd hm =>
    obtain ⟨b, ob, ty', X', o', z, rfl, e2, e1, e3, e4, cs, f2, f3, f4, f0⟩ := hr.at hC ha
    rw [hi] at e2; cases e2
    obtain ⟨o2, v2, g1, g2⟩ := hb ty X hi
    rw [e3] at g1; cases g1
    have hp := (f4.part hC.tab e3)
    rw [hX] at hp
    have hrd := hp.rd
    obtain ⟨a2, a3, a4⟩ := hrd.arr_inv g2
    have hle := offT_le hC.tab e3
    have hsa := hC.tab.sz_arr g2
    have hrow : RowC C.tb H u (seg cs o' (sz C.tb z)) ds := ⟨by rw [a2, a3], a4⟩
    have hr2 := (hrow.drop off).take (n := n) (by simp; omega)
    refine ⟨b, ob + o' + off * sz C.tb u, c, rfl, hm, by omega, _, hr2, fun j v hj => ?_⟩
    have hjl := (List.getElem?_eq_some_iff.1 hj).1
    have hsl := seg_length (cs := cs) (o := o') (n := sz C.tb z) (by omega)
    simp [hsl] at hjl
    rw [List.getElem?_take_of_lt (by omega), List.getElem?_drop, seg_get (by omega)] at hj
    have := f3 _ v hj
    rwa [show ob + (o' + (off * sz C.tb u + j)) = ob + o' + off * sz C.tb u + j by omega] at this

theorem SrcAt_asl {t : TypeId} {s i off n : Nat} {p : List Nat} {u : TypeId} {ty : TypeId} {X : T} {ds : List E} (hs : getD env s = .asl i p u off n) (ht : td C.tb t = .sl u) (hi : σ[i]? = some (.tree ty X)) (hX : getT p X = .e (.agg ds)) :
    SrcAt C env σ t t (.tmp s) ((ds.drop off).take n) := by
  intro H β a w u' ht' hr he
  rw [ht] at ht'; cases ht'
  have hv := he.get s
  rw [hs] at hv
  obtain ⟨b, q, c, h1, h2, h3, cs, hrow, hc⟩ := asl_cells hC hr hv hi hX
  have hve : a.eval (.tmp s) = .slice (some ⟨b, q, none⟩) n c := h1
  have hlen : ((ds.drop off).take n).length = n := by simp; omega
  rw [hve]
  refine ⟨.inl rfl, by simp [Builtin.lenOf]; omega, cs, hrow, fun k hk w' hw' => ?_⟩
  rw [hlen] at hk
  have hle : k * sz C.tb u ≤ cs.length := by rw [hrow.len, hlen]; exact Nat.mul_le_mul_right _ hk
  exact run_firstCells_some w' (sz C.tb u) k ⟨b, q, none⟩ _ _ (cs.take (k * sz C.tb u)) (by simp [Nat.min_eq_left hle]) (fun j v hj => by
    rw [add_plain]
    have hjn : j < k * sz C.tb u := by have := (List.getElem?_eq_some_iff.1 hj).1; simp at this; omega
    rw [List.getElem?_take_of_lt hjn] at hj
    exact hw' _ _ _ (hc j v hj).1)

theorem Ok_appendM {x y : Operand} {t t2 u : TypeId} {dx : D} {i n : Nat} {xs ys : List E} {tx : TypeId} (ho : o.op = .call { callee := .builtin .append, args := #[x, y], argTypes := #[t, t2] }) (ht : td C.tb t = .sl u) (hz : plain C.tb zf u = true)
    (hx : opd C.tb env t x = some dx) (hxs : dx = .t tx (.msl i n)) (hi : σ[i]? = some (.mrow u true xs)) (hn : n = xs.length) (hys : SrcAt C env σ t t2 y ys)
    (hp : (xs.length + ys.length) * nb C.tb u ≤ maxL ∧ xs.length + ys.length ≤ maxL) :
    OpOk C o env σ ⟨True, .t t (.msl i (n + ys.length)), σ.set i (.mrow u true (xs ++ ys))⟩ := by
  refine OpOk_do (by simp [isVal, ho]) ?_
  intro H β a w hr he hd K Qx hK
  have hvx := opd_rel he hx
  subst hxs
  obtain ⟨h2, hsrc⟩ := hys H β a w u ht hr he
  have hil : i < σ.length := (List.getElem?_eq_some_iff.1 hi).1
  have hβ : β[i]? = some (a.eval x) := by
    generalize a.eval x = vx at hvx ⊢
    cases hvx with
    | @t ty v cs z aa bb => cases bb with
      | msl b1 b2 b3 =>
        have a' := aa
        simp [VC, isAggT, b1] at a'
        subst a'
        obtain ⟨ow, xs', k1, k2, k3⟩ := b3
        rw [hi] at k1; cases k1
        exact k3 hn
  have hM : MRel C.tb H w i (a.eval x) u true xs := hr.blk i _ _ hi hβ
  obtain ⟨v', w', H', hrun, hb', hpm, hM', hoth, hit, hstp, hsame⟩ := appendM_core hC (ty := o.type) ht hz hr.base hM h2 hsrc hp.1 hp.2
  have hex : (execOp a.eval o).run C.P w = .ok (.value v') w' := by
    rw [opdArgs2 ho]
    simp [builtin, hrun]
  have hlenl : (xs ++ ys).length = xs.length + ys.length := by simp
  have hself : (σ.set i (.mrow u true (xs ++ ys)))[i]? = some (.mrow u true (xs ++ ys)) := by simp [hil]
  have hev : Ev H β σ H' (β.set i v') (σ.set i (.mrow u true (xs ++ ys))) := by
    refine ⟨hpm, fun j ty z hj => ?_, fun j ety m hj => ?_, fun j s p hj => ?_, fun j ety oo zs hj => ?_⟩
    · have hne : i ≠ j := fun e => by subst e; rw [hi] at hj; cases hj
      exact ⟨List.getElem?_set_ne hne, z, by rw [List.getElem?_set_ne hne]; exact hj⟩
    · have hne : i ≠ j := fun e => by subst e; rw [hi] at hj; cases hj
      exact ⟨m, by rw [List.getElem?_set_ne hne]; exact hj, Nat.le_refl _, fun _ => List.getElem?_set_ne hne⟩
    · have hne : i ≠ j := fun e => by subst e; rw [hi] at hj; cases hj
      exact ⟨List.getElem?_set_ne hne, s, p, by rw [List.getElem?_set_ne hne]; exact hj⟩
    · by_cases hji : i = j
      · subst hji
        rw [hi] at hj; cases hj
        refine ⟨true, _, hself, by omega, fun e => ?_⟩
        rw [List.getElem?_set_self (by rw [hr.len]; exact hil), hsame (by omega), hβ]
      · exact ⟨oo, zs, by rw [List.getElem?_set_ne hji]; exact hj, Nat.le_refl _, fun _ => List.getElem?_set_ne hji⟩
  have hrel : Rel C.tb H' (β.set i v') (σ.set i (.mrow u true (xs ++ ys))) w' := by
    refine ⟨hb'.pers, hb'.dom, by simp [hr.len], fun j k bv hk hv => ?_⟩
    by_cases hji : i = j
    · subst hji
      rw [hself] at hk
      rw [List.getElem?_set_self (by rw [hr.len]; exact hil)] at hv
      cases hk; cases hv
      exact hM'
    · rw [List.getElem?_set_ne hji] at hk hv
      exact (hr.blk j k bv hk hv).mono hev (fun b o h => have q := hoth b o j h (fun e => hji e.symm); ⟨q.1, q.2.1, fun _ _ => q.2.2.1, q.2.2.2⟩) (fun b s p h hh => hit b s p j h (fun e => hji e.symm) hh)
  simp only [Oper.wp, hex, Oper.upon]
  refine hK v' _ w' H' _ _ ⟨rfl, rfl⟩ hrel ?_ hstp hev
  refine .t (cs := [v']) (by simp [VC, isAggT, ht]) (.msl ht ?_ ⟨true, _, hself, by omega, fun _ => by simp [hr.len, hil]⟩)
  rcases hM' with ⟨rfl, h0⟩ | ⟨b, c, cs, zs, e1, e2, e3, _⟩
  · have : n + ys.length = 0 := by rw [hn, ← hlenl, h0]; rfl
    rw [this]; exact ⟨_, _, rfl, Nat.zero_le _⟩
  · rw [hlenl, ← hn] at e1 e3; exact ⟨_, _, e1, e3⟩

/-- A text of a slice of an own array. -/
theorem Ok_strOfA {s d u ty : TypeId} {q i off n : Nat} {p : List Nat} {X : T} {ds : List E} (ho : o.op = .convert s d (.tmp q)) (hs : td C.tb s = .sl u) (hu : td C.tb u = .int .u8) (hd : td C.tb d = .str)
    (hq : getD env q = .asl i p u off n) (hi : σ[i]? = some (.tree ty X)) (hX : getT p X = .e (.agg ds)) :
    OpOk C o env σ ⟨True, .t d (.e (.str (((ds.drop off).take n).map byteOf))), σ⟩ :=
  OpOk_val fun H β a w hr he => by
    have hv := he.get q
    rw [hq] at hv
    obtain ⟨b, k, c, h1, h2, h3, cs, hrow, hc⟩ := asl_cells hC hr hv hi hX
    have hlen : ((ds.drop off).take n).length = n := by simp; omega
    have hsz : sz C.tb u = 1 := hC.tab.sz_one (by simp [isAggT, hu]) (by rw [hu]; simp)
    refine ⟨sv (((ds.drop off).take n).map byteOf), fun w' hw' => ?_, .mkStr hd (by rw [List.length_map, hlen]; unfold maxN at h2; unfold maxI; omega)⟩
    have hcv := run_convert_bytes_string (P := C.P) w' s d u (some ⟨b, k, none⟩) n c (hC.tab.sl hs) (hC.tab.int hu) (hC.tab.str hd)
    obtain ⟨ns, hcs, hxs⟩ := bytes_of hsz hu hrow
    have hnl : ns.length = n := by rw [← hlen, hxs, List.length_map]
    have hrs : i ∈ rsOf env o.op := by rw [ho]; simp [rsOf, hq]
    have hload : (loadCells ⟨b, k, none⟩ n).run C.P w' = .ok (ns.map (Value.int .u8)).toArray w' := by
      have := run_loadCells_list (P := C.P) w' ⟨b, k, none⟩ (ns.map (Value.int .u8)) (fun j v hj => by
        rw [add_plain]
        obtain ⟨g1, g2, _⟩ := hc j v (by rw [hcs]; exact hj)
        exact hw' _ _ _ g1 (.inr ⟨i, hrs, g2⟩))
      rw [List.length_map, hnl] at this
      exact this
    have := run_bytesToString (P := C.P) w' ⟨b, k, none⟩ _ c ns hload
    rw [this] at hcv
    have hf := foldl_push ns []
    have hemp : (⟨⟨[]⟩⟩ : ByteArray) = ByteArray.empty := rfl
    rw [hemp] at hf
    rw [hf] at hcv
    rw [hxs]
    have hve : a.eval (.tmp q) = .slice (some ⟨b, k, none⟩) n c := h1
    simp [execOp, ho, hve, hcv, sv, List.map_map]
    intro n _; rfl
end
end Go.Den
