/- Elements, parts, slices. -/
import Derived.Test.YtgdfegmdjdnbdaaDenOp7
namespace Go.Den
open Go
set_option linter.unusedSectionVars false
set_option linter.unusedSimpArgs false
set_option linter.unusedVariables false

theorem Rd.sl_row {tb H t v xs} (h : Rd tb H t [v] (.sl xs)) (hne : 0 < xs.length) : ∃ u b off c cs, td tb t = .sl u ∧ v = .slice (some ⟨b, off, none⟩) xs.length c ∧ cs.length = xs.length * sz tb u ∧
    (∀ (j : Nat) v, cs[j]? = some v → H b (off + j) = .pers v) ∧ (∀ (i : Nat) x, xs[i]? = some x → Rd tb H u (seg cs (i * sz tb u) (sz tb u)) x) ∧ xs.length ≤ c ∧ xs.length ≤ maxN := by
  cases h with
  | sl0 a => simp at hne
  | sl a b c d e f => exact ⟨_, _, _, _, _, a, rfl, b, c, d, e, f⟩

/-- The elements of a slice that reads as persistent data. -/
def slE : D → Option (List E)
  | .t _ (.e (.sl xs)) => some xs
  | .t _ (.lsl _ xs) => some xs
  | .t _ (.bsl xs) => some xs
  | .t _ .nsl => some []
  | _ => none
def tagD : D → TypeId
  | .t ty _ => ty
  | _ => 0
theorem VC.one {tb t v x u} (h : VC tb t v [x]) (hu : td tb t = .sl u) : v = x := by
  have h' := h
  simp [VC, isAggT, hu] at h'
  exact h'.symm
theorem slE_rel {tb H β σ v d xs} (hv : DRel tb H β σ v d) (h : slE d = some xs) : Rd tb H (tagD d) [v] (.sl xs) := by
  have one : ∀ {ty : TypeId} {cs : List Value} {xs : List E}, VC tb ty v cs → Rd tb H ty cs (.sl xs) → Rd tb H ty [v] (.sl xs) := by
    intro ty cs xs hvc hr
    have : ∃ u, td tb ty = .sl u ∧ ∃ x, cs = [x] := by
      cases hr with
      | sl0 a => exact ⟨_, a, _, rfl⟩
      | sl a => exact ⟨_, a, _, rfl⟩
    obtain ⟨u, hu, x, rfl⟩ := this
    rw [hvc.one hu]; exact hr
  unfold slE at h
  split at h <;> cases h
  · cases hv with | t a b => exact one a b.rd
  · cases hv with | t a b => cases b with | lsl b1 b2 b3 => exact one a b2
  · cases hv with | t a b => cases b with | bsl b1 b2 => exact one a b2
  · cases hv with | t a b => cases b with | nsl b1 => exact one a (.sl0 b1)

def opdN (env : Env) : Operand → Option Int
  | .tmp t => intAny (getD env t)
  | .const (.int _ n) => some n
  | _ => none
theorem opdN_rel {tb H β σ n a x i} {env : Env} (he : EnvRel tb H β σ n a env) (h : opdN env x = some i) : ∃ k, a.eval x = .int k i := by
  unfold opdN at h
  split at h
  · obtain ⟨k, h1, _⟩ := intAny_rel (he.get _) h; exact ⟨k, h1⟩
  · cases h; exact ⟨_, rfl⟩
  · cases h

section
variable {C : Cx} (hC : Ok C) {o : Oper} {env : Env} {σ : List Blk}
include hC

theorem lt_of_sz {t : TypeId} (h : sz C.tb t ≠ 0) : t < C.tb.length := by
  rcases Nat.lt_or_ge t C.tb.length with h' | h'
  · exact h'
  · exact absurd (by simp [sz, List.getElem?_eq_none h']) h

theorem Ok_indexAddrA {t s i n : Nat} {u : TypeId} {p : List Nat} {ty : TypeId} {X : T} {ix : Operand} {iv : Int} (ho : o.op = .indexAddr t (.tmp s) ix) (hs : getD env s = .ptr i p) (hi : σ[i]? = some (.tree ty X))
    (ht : td C.tb t = .arr n u) (hty : td C.tb (tyAt C.tb ty p) = .arr n u) (hz : sz C.tb u ≠ 0) (hx : opdN env ix = some iv) (h0 : 0 ≤ iv) (h1 : iv < n) : OpOk C o env σ ⟨True, .ptr i (p ++ [iv.toNat]), σ⟩ :=
  OpOk_val fun H β a w hr he => by
    have hv := he.get s
    rw [hs] at hv
    obtain ⟨ad, hv, b, off, ty', X', o', z, e1, e2, e3, e4⟩ := hv.ptr_inv
    rw [hi] at e2; cases e2
    subst e4
    rw [tyAt_of e3] at hty
    obtain ⟨k, hk⟩ := opdN_rel he hx
    have hve : a.eval (.tmp s) = .pointer (some ⟨b, off + o', none⟩) := hv
    refine ⟨.pointer (some ⟨b, off + o' + iv.toNat * sz C.tb u, none⟩), fun w' hw' => ?_, .ptr ⟨b, off, ty, X, o' + iv.toNat * sz C.tb u, u, e1, hi, offT_snoc e3 (by simp [offT, hty]; omega), by simp [Nat.add_assoc]⟩⟩
    simp [execOp, ho, hve, hk, Instr.indexAt, asIntOf, run_underlying_of hC.tab (hC.tab.arr ht), Instr.sureAddr, h0, h1, run_sizeOf_of hC.tab (lt_of_sz hC hz), add_plain]

theorem Ok_indexAddrS {t s : Nat} {u : TypeId} {d : D} {xs : List E} {ix : Operand} {iv : Int} (ho : o.op = .indexAddr t (.tmp s) ix) (hs : getD env s = d) (hd : slE d = some xs)
    (ht : td C.tb t = .sl u) (hsame : same C.tb (tagD d) t = true) (hz : sz C.tb u ≠ 0) (hx : opdN env ix = some iv) (h0 : 0 ≤ iv) (h1 : iv < xs.length) : OpOk C o env σ ⟨True, .el u xs iv.toNat [], σ⟩ :=
  OpOk_val fun H β a w hr he => by
    have hv := he.get s
    rw [hs] at hv
    have hrd := slE_rel hv hd
    obtain ⟨u', b, off, c, cs, g1, g2, g3, g4, g5, g6, g7⟩ := hrd.sl_row (by omega)
    rw [same_td hsame, ht] at g1; cases g1
    obtain ⟨k, hk⟩ := opdN_rel he hx
    have hve : a.eval (.tmp s) = .slice (some ⟨b, off, none⟩) xs.length c := g2
    refine ⟨.pointer (some ⟨b, off + iv.toNat * sz C.tb u, none⟩), fun w' hw' => ?_, ?_⟩
    · simp [execOp, ho, hve, hk, Instr.indexAt, asIntOf, run_underlying_of hC.tab (hC.tab.sl ht), h0, h1, run_sizeOf_of hC.tab (lt_of_sz hC hz), add_plain]
    · have := DRel.el (tb := C.tb) (H := H) (β := β) (σ := σ) g3 g4 g5 (show iv.toNat < xs.length by omega) (path := []) (o := 0) (v := u) rfl
      exact this

theorem Ok_indexStr {t : TypeId} {x ix : Operand} {dx : D} {s : List UInt8} {iv : Int} (ho : o.op = .index t x ix) (ht : td C.tb t = .str) (hr : td C.tb o.type = .int .u8) (hx : opd C.tb env t x = some dx) (hs : strAny dx = some s)
    (hi : opdN env ix = some iv) (h0 : 0 ≤ iv) (h1 : iv < s.length) : OpOk C o env σ ⟨True, .t o.type (.e (.int (s.getD iv.toNat 0).toNat)), σ⟩ :=
  OpOk_val fun H β a w hr' he => by
    obtain ⟨h2, h3⟩ := strAny_rel (opd_rel he hx) hs
    obtain ⟨k, hk⟩ := opdN_rel he hi
    have hlt : iv.toNat < s.length := by omega
    have hb : (⟨⟨s⟩⟩ : ByteArray)[iv.toNat]? = some s[iv.toNat] := by
      have hsz : iv.toNat < (⟨⟨s⟩⟩ : ByteArray).size := hlt
      rw [getElem?_pos (⟨⟨s⟩⟩ : ByteArray) iv.toNat hsz]; rfl
    have hg : s.getD iv.toNat 0 = s[iv.toNat] := by simp [hlt]
    refine ⟨.int .u8 (s[iv.toNat]).toNat, fun w' hw' => ?_, ?_⟩
    · simp [execOp, ho, h2, sv, hk, Instr.index, asIntOf, run_underlying_of hC.tab (hC.tab.str ht), h0, hb]
    · rw [hg]
      refine .mkInt hr (inR_wrap ?_)
      have := (s[iv.toNat]).toNat_lt
      simp [inR]; omega

theorem run_part {t : TypeId} {cs : List Value} {off : Nat} (ht : td C.tb t ≠ .other) (hl : off + sz C.tb t ≤ cs.length) :
    ∃ v, (∀ w, (part t cs.toArray off).run C.P w = .ok v w) ∧ VC C.tb t v (seg cs off (sz C.tb t)) := by
  have hlt := hC.tab.lt_of_td ht
  simp only [part, Sem.run_bind, run_isAgg_of hC.tab ht, Result.andThen]
  cases ha : isAggT C.tb t with
  | true =>
    refine ⟨.agg (seg cs off (sz C.tb t)).toArray, ?_, by simp [VC, ha]⟩
    simp [run_sizeOf_of hC.tab hlt]
    rfl
  | false =>
    have h1 := hC.tab.sz_one ha ht
    rw [h1] at hl ⊢
    have hlt2 : off < cs.length := by omega
    refine ⟨cs[off], ?_, ?_⟩
    · simp [hlt2]
    · simp only [VC, ha, seg]
      simp [List.take_one, hlt2]

theorem Ok_field {xt : TypeId} {x : Operand} {k : Nat} {dx : D} {y : E} {ty : TypeId} {fs : List (TypeId × Nat)} {f : TypeId × Nat} (ho : o.op = .field xt x k) (hx : opd C.tb env xt x = some dx) (hd : dx = .t ty (.e y)) (hs : same C.tb ty xt = true)
    (hst : td C.tb xt = .st fs) (hf : fs[k]? = some f) : OpOk C o env σ ⟨True, .t f.1 (.e (childE k y)), σ⟩ :=
  OpOk_val fun H β a w hr he => by
    subst hd
    have hv := opd_rel he hx
    have hty : td C.tb ty = .st fs := (same_td hs).trans hst
    obtain ⟨cs, h1, h2⟩ := hv.aggr (by simp [isAggT, hty])
    have hrd := h2.rd
    have hch := hrd.child.1 fs hty k f hf
    have hlen := hrd.len hC.tab
    have hle := ((fieldsEnd_spec (hC.tab.sz_st hty)).2 k f hf).2.1
    obtain ⟨v, hrun, hvc⟩ := run_part hC (cs := cs) (off := f.2) hch.td_ne (by omega)
    refine ⟨v, fun w' hw' => ?_, .t hvc (.e hch)⟩
    obtain ⟨gs, hg, he'⟩ := hC.tab.st hst
    have hk : k < gs.size := by have := (List.getElem?_eq_some_iff.1 hf).1; rw [← he'] at this; simpa using this
    have hgf : f = (gs[k].type, gs[k].offset) := by rw [← he'] at hf; simp [hk] at hf; exact hf.symm
    subst hgf
    simp [execOp, ho, h1, Instr.field, run_underlying_of hC.tab hg, Array.getElem?_eq_getElem hk, asAgg, hrun]

theorem Ok_indexA {t u : TypeId} {n : Nat} {x ix : Operand} {dx : D} {y : E} {ty : TypeId} {iv : Int} (ho : o.op = .index t x ix) (ht : td C.tb t = .arr n u) (hx : opd C.tb env t x = some dx) (hd : dx = .t ty (.e y)) (hs : same C.tb ty t = true)
    (hi : opdN env ix = some iv) (h0 : 0 ≤ iv) (h1 : iv < n) (hu : td C.tb u ≠ .other) : OpOk C o env σ ⟨True, .t u (.e (childE iv.toNat y)), σ⟩ :=
  OpOk_val fun H β a w hr he => by
    subst hd
    have hv := opd_rel he hx
    have hty : td C.tb ty = .arr n u := (same_td hs).trans ht
    obtain ⟨cs, g1, g2⟩ := hv.aggr (by simp [isAggT, hty])
    have hrd := g2.rd
    have hch := hrd.child.2 n u hty iv.toNat (by omega)
    have hlen := hrd.len hC.tab
    rw [hC.tab.sz_arr hty] at hlen
    have hle : iv.toNat * sz C.tb u + sz C.tb u ≤ n * sz C.tb u := by
      have := Nat.mul_le_mul_right (sz C.tb u) (show iv.toNat + 1 ≤ n by omega); rwa [Nat.add_mul, Nat.one_mul] at this
    obtain ⟨v, hrun, hvc⟩ := run_part hC (cs := cs) (off := iv.toNat * sz C.tb u) hu (by omega)
    obtain ⟨k, hk⟩ := opdN_rel he hi
    refine ⟨v, fun w' hw' => ?_, .t hvc (.e hch)⟩
    simp [execOp, ho, g1, hk, Instr.index, asIntOf, run_underlying_of hC.tab (hC.tab.arr ht), h0, h1, run_sizeOf_of hC.tab (hC.tab.lt_of_td hu), hrun]

/-! ### slices of texts and of lists -/

/-- The bounds of a slice expression, as numbers. -/
def bnd (env : Env) (dflt : Int) : Option Operand → Option Int
  | none => some dflt
  | some x => opdN env x

omit hC in
theorem run_bound {P : Program} {k : IntKind} {i : Int} {y : Nat} {c : BoundsCode} {w : World} (h0 : 0 ≤ i) (h1 : i ≤ y) : (Instr.sliceBound (.int k i) y c).run P w = .ok i.toNat w := by
  simp [Instr.sliceBound, asIntOf, h0, h1]
omit hC in
theorem run_bounds {P : Program} {H β n a} {tb : Tab} (he : EnvRel tb H β σ n a env) {isSl : Bool} {len cap : Nat} {lo hi : Option Operand} {l h : Int} {w : World}
    (hl : bnd env 0 lo = some l) (hh : bnd env len hi = some h) (h0 : 0 ≤ l) (h1 : l ≤ h) (h2 : h ≤ cap) :
    (Instr.sliceBounds isSl len cap (lo.map a.eval) (hi.map a.eval) none).run P w = .ok (l.toNat, h.toNat, cap) w := by
  unfold Instr.sliceBounds
  cases hi with
  | none =>
    simp [bnd] at hh
    cases lo with
    | none => simp [bnd] at hl; simp [← hl, ← hh]
    | some x =>
      obtain ⟨k, hk⟩ := opdN_rel he hl
      simp [hk, ← hh]
      rw [run_bound h0 (by omega)]; simp
  | some y =>
    obtain ⟨k', hk'⟩ := opdN_rel he hh
    cases lo with
    | none =>
      simp [bnd] at hl
      simp [hk', ← hl]
      rw [run_bound (by omega) h2]; simp
    | some x =>
      obtain ⟨k, hk⟩ := opdN_rel he hl
      simp [hk, hk']
      rw [run_bound (by omega) h2]
      simp
      rw [run_bound h0 (by omega)]; simp

omit hC in
theorem opt_map_eval {a : Act} (x : Option Operand) : (x.map a.eval) = x.map a.eval := rfl

theorem Ok_sliceStr {t : TypeId} {x : Operand} {lo hi : Option Operand} {dx : D} {s : List UInt8} {l h : Int} (ho : o.op = .slice t x lo hi none) (ht : td C.tb t = .str) (hr : td C.tb o.type = .str) (hx : opd C.tb env t x = some dx) (hs : strAny dx = some s)
    (hl : bnd env 0 lo = some l) (hh : bnd env s.length hi = some h) (h0 : 0 ≤ l) (h1 : l ≤ h) (h2 : h ≤ s.length) : OpOk C o env σ ⟨True, .t o.type (.e (.str ((s.take h.toNat).drop l.toNat))), σ⟩ :=
  OpOk_val fun H β a w hr' he => by
    obtain ⟨g1, g2⟩ := strAny_rel (opd_rel he hx) hs
    refine ⟨sv ((s.take h.toNat).drop l.toNat), fun w' hw' => ?_, .mkStr hr (by simp; omega)⟩
    have hsz : (⟨⟨s⟩⟩ : ByteArray).size = s.length := rfl
    have hb := fun w : World => run_bounds (P := C.P) he (isSl := false) (len := s.length) (cap := s.length) (w := w) hl hh h0 h1 h2
    have hex : (⟨⟨s⟩⟩ : ByteArray).extract l.toNat h.toNat = ⟨⟨(s.take h.toNat).drop l.toNat⟩⟩ := by
      apply ByteArray.ext
      simp [List.extract_eq_take_drop, List.drop_take]
    simp [execOp, ho, g1, sv, Instr.sliceAt, Instr.slice, run_underlying_of hC.tab (hC.tab.str ht), hsz, hb, hex]

theorem Ok_sliceL {t u : TypeId} {x : Operand} {lo hi : Option Operand} {dx : D} {xs : List E} {l h : Int} (ho : o.op = .slice t x lo hi none) (ht : td C.tb t = .sl u) (hx : opd C.tb env t x = some dx) (hd : slE dx = some xs) (hs : same C.tb (tagD dx) t = true) (hz : sz C.tb u ≠ 0)
    (hl : bnd env 0 lo = some l) (hh : bnd env xs.length hi = some h) (h0 : 0 ≤ l) (h1 : l ≤ h) (h2 : h ≤ xs.length) : OpOk C o env σ ⟨True, .t t (.e (.sl ((xs.take h.toNat).drop l.toNat))), σ⟩ :=
  OpOk_val fun H β a w hr' he => by
    have hrd := (slE_rel (opd_rel he hx) hd).cast hC.tab (same_td hs)
    obtain ⟨ad, c, u', g1, g2, g3, g4⟩ := hrd.sl_inv
    rw [ht] at g4; cases g4
    have hb := fun w : World => run_bounds (P := C.P) he (isSl := true) (len := xs.length) (cap := c) (w := w) hl hh h0 h1 (by omega)
    have hnag : isAggT C.tb t = false := by simp [isAggT, ht]
    refine ⟨.slice (if c = l.toNat then ad else ad.map (·.add (l.toNat * sz C.tb u))) (h.toNat - l.toNat) (c - l.toNat), fun w' hw' => ?_, .of_rd ?_ hnag⟩
    · simp [execOp, ho, g1, Instr.sliceAt, Instr.slice, run_underlying_of hC.tab (hC.tab.sl ht), hb, run_sizeOf_of hC.tab (lt_of_sz hC hz)]
    · have hlen : ((xs.take h.toNat).drop l.toNat).length = h.toNat - l.toNat := by simp; omega
      rcases Nat.eq_zero_or_pos ((xs.take h.toNat).drop l.toNat).length with he0 | hpos
      · rw [List.length_eq_zero_iff.1 he0, show h.toNat - l.toNat = 0 by omega]; exact .sl0 ht
      · rw [if_neg (by omega)]
        obtain ⟨u2, b, off, c2, cs, k1, k2, k3, k4, k5, k6, k7⟩ := hrd.sl_row (by omega)
        rw [ht] at k1; cases k1
        rw [g1] at k2
        simp only [Value.slice.injEq] at k2
        obtain ⟨rfl, _, rfl⟩ := k2
        simp only [Option.map_some, add_plain]
        rw [← hlen]
        have hsub : l.toNat * sz C.tb u + ((xs.take h.toNat).drop l.toNat).length * sz C.tb u ≤ cs.length := by
          rw [k3, ← Nat.add_mul]; exact Nat.mul_le_mul_right _ (by omega)
        refine .sl (cs := seg cs (l.toNat * sz C.tb u) (((xs.take h.toNat).drop l.toNat).length * sz C.tb u)) ht (seg_length hsub) (fun j v hj => ?_) (fun i y hy => ?_) (by omega) (by omega)
        · have hjl : j < ((xs.take h.toNat).drop l.toNat).length * sz C.tb u := by
            rcases Nat.lt_or_ge j (((xs.take h.toNat).drop l.toNat).length * sz C.tb u) with h' | h'
            · exact h'
            · rw [List.getElem?_eq_none (by rw [seg_length hsub]; exact h')] at hj; cases hj
          rw [seg_get hjl] at hj
          rw [Nat.add_assoc]
          exact k4 _ v hj
        · have hi : i < ((xs.take h.toNat).drop l.toNat).length := (List.getElem?_eq_some_iff.1 hy).1
          have hile : i * sz C.tb u + sz C.tb u ≤ ((xs.take h.toNat).drop l.toNat).length * sz C.tb u := by
            have := Nat.mul_le_mul_right (sz C.tb u) (show i + 1 ≤ _ from hi); rwa [Nat.add_mul, Nat.one_mul] at this
          rw [seg_seg hile, ← Nat.add_mul]
          refine k5 (l.toNat + i) y ?_
          rw [List.getElem?_drop] at hy
          rw [List.getElem?_take_of_lt (by omega)] at hy
          exact hy

end
end Go.Den
