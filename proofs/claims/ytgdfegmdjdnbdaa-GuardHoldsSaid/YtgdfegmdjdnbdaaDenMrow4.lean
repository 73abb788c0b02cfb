/- Copies into own arrays; rows that begin; bytes of a text; pointers that nobody watches. -/
import Derived.Test.YtgdfegmdjdnbdaaDenMrow3
namespace Go.Den
open Go
set_option linter.unusedSectionVars false
set_option linter.unusedSimpArgs false
set_option linter.unusedVariables false

theorem splice_nest {cs ws : List Value} {f q n : Nat} (h1 : q + ws.length ≤ n) (h2 : f + n ≤ cs.length) : splice cs f (splice (seg cs f n) q ws) = splice cs (f + q) ws := by
  rw [← seg_splice_in h1 h2]
  apply List.ext_getElem?
  intro j
  have hsl : (seg (splice cs (f + q) ws) f n).length = n := seg_length (by rw [splice_length (by omega)]; omega)
  rw [splice_get (by omega), hsl, splice_get (by omega)]
  by_cases h1 : j < f
  · rw [if_pos h1, if_pos (by omega)]
  · rw [if_neg h1]
    by_cases h2 : j < f + n
    · rw [if_pos h2, seg_get (by omega), splice_get (by omega), show f + (j - f) = j by omega]
    · rw [if_neg h2, if_neg (by omega), if_neg (by omega)]

/-- Some elements of a list put in place of others. -/
def putAt (ds : List E) (off : Nat) (ys : List E) : List E := ds.take off ++ ys ++ ds.drop (off + ys.length)
theorem RowC.put {tb H u cs xs ws ys off} (h : RowC tb H u cs xs) (k : RowC tb H u ws ys) (hl : off + ys.length ≤ xs.length) : RowC tb H u (splice cs (off * sz tb u) ws) (putAt xs off ys) := by
  have h1 := (h.take (n := off) (by omega)).app k
  have h2 := h1.app (h.drop (off + ys.length))
  have he : splice cs (off * sz tb u) ws = cs.take (off * sz tb u) ++ ws ++ cs.drop ((off + ys.length) * sz tb u) := by
    unfold splice; rw [k.len, Nat.add_mul]
  rw [he]; exact h2
theorem putAt_length {ds ys : List E} {off : Nat} (h : off + ys.length ≤ ds.length) : (putAt ds off ys).length = ds.length := by
  simp [putAt]; omega

section
variable {C : Cx} (hC : Ok C) {o : Oper} {env : Env} {σ : List Blk}
include hC

/-- copy into a slice of an own array. -/
theorem OpF_copyA {t t2 : TypeId} {s i off n : Nat} {p : List Nat} {u ty : TypeId} {X : T} {y : Operand} {ds ys : List E} {ts : List Nat} (ho : o.op = .call { callee := .builtin .copy, args := #[.tmp s, y], argTypes := #[t, t2] }) (ht : td C.tb t = .sl u) (hr : td C.tb o.type = .int .i64)
    (hs : getD env s = .asl i p u off n) (hi : σ[i]? = some (.tree ty X)) (hX : getT p X = .e (.agg ds)) (hys : SrcAt C env σ t t2 y ys) (hz : sz C.tb u ≠ 0) (hts : i ∈ ts) :
    OpF C o env σ ts (fun d s => d = .t o.type (.e (.int (min ys.length n : Nat))) ∧ s = σ.set i (.tree ty (setT p (.e (.agg (putAt ds off (ys.take (min ys.length n))))) X))) := by
  intro H β a w hrel he hd K Qx hK
  have hv := he.get s
  rw [hs] at hv
  obtain ⟨_, hlx, news, hnr, hfc⟩ := hys H β a w u ht hrel he
  have hk1 : min ys.length n ≤ ys.length := Nat.min_le_left _ _
  have hk2 : min ys.length n ≤ n := Nat.min_le_right _ _
  have hmin : ∀ k, min ys.length n = k → Nat.min ys.length n = k := fun _ h => h
  generalize hk : min ys.length n = k at hK hk1 hk2
  have hmin := hmin k hk
  generalize hve : a.tmps.getD s undef = vx at hv
  cases hv with
  | @asl i path u off n c ad m ha hb hc hd' hm =>
    obtain ⟨b, ob, ty', X', o', z, rfl, e2, e1, e3, e4, cs, f2, f3, f4, f0⟩ := hrel.at hC ha
    rw [hi] at e2; cases e2
    obtain ⟨o2, v2, g1, g2⟩ := hb ty X hi
    rw [e3] at g1; cases g1
    have hp := (f4.part hC.tab e3)
    rw [hX] at hp
    have hrd := hp.rd
    obtain ⟨a2, a3, a4⟩ := hrd.arr_inv g2
    have hle := offT_le hC.tab e3
    have hsa := hC.tab.sz_arr g2
    have hrow : RowC C.tb H u (seg cs o' (sz C.tb z)) ds := ⟨by rw [a2, a3], a4⟩
    have hvs := hnr.take (n := k) hk1
    have hyl : (ys.take k).length = k := by rw [List.length_take]; omega
    let vs := news.take (k * sz C.tb u)
    have hvl : vs.length = k * sz C.tb u := by
      have := hvs.len; rw [hyl] at this; exact this
    have hnew := hrow.put hvs (off := off) (by rw [hyl]; omega)
    have hsg := seg_length (cs := cs) (o := o') (n := sz C.tb z) (by omega)
    have hput : off * sz C.tb u + vs.length ≤ sz C.tb z := by
      rw [hvl, hsa, ← Nat.add_mul]; exact Nat.mul_le_mul_right _ (by omega)
    have hT2 : TRel C.tb H β σ z (splice (seg cs o' (sz C.tb z)) (off * sz C.tb u) vs) (.e (.agg (putAt ds off (ys.take k)))) := by
      refine .e (.arr g2 ?_ ?_ hnew.el)
      · rw [splice_length (by rw [hsg]; exact hput), hsg, hsa]
      · rw [putAt_length (by rw [hyl]; omega), a3]
    have hcs : ∀ j, j < vs.length → ∃ v, w.cell? ⟨b, ob + o' + off * sz C.tb u + j, none⟩ = some v ∧ H b (ob + o' + off * sz C.tb u + j) = .mine i ∧ w.frozen? ⟨b, ob + o' + off * sz C.tb u + j, none⟩ = false := fun j hj => by
      have hlt : o' + (off * sz C.tb u + j) < cs.length := by omega
      have := f3 _ cs[o' + (off * sz C.tb u + j)] (List.getElem?_eq_getElem hlt)
      rw [show ob + (o' + (off * sz C.tb u + j)) = ob + o' + off * sz C.tb u + j by omega] at this
      exact ⟨_, this⟩
    have hone : ∀ v ∈ vs, v.oneCell' = true := hvs.one hC.tab
    have hst := run_storeCells_cells (P := C.P) b (ob + o' + off * sz C.tb u) vs 0 w (fun j hj => by obtain ⟨v, h1, _⟩ := hcs j hj; simp [h1]) (fun j hj => by obtain ⟨v, _, _, h3⟩ := hcs j hj; simpa using h3) hone
    simp only [Nat.add_zero] at hst
    have hrun : (execOp a.eval o).run C.P w = .ok (.value (.int .i64 (k : Nat))) (w.setCells b (ob + o' + off * sz C.tb u) vs) := by
      have hve' : a.eval (.tmp s) = .slice (some ⟨b, ob + o' + off * sz C.tb u, none⟩) n c := hve
      have hfc' := hfc k hk1 w (fun _ _ _ h => h)
      have hul := lt_of_sz hC hz
      rw [opdArgs2 ho, hve']
      simp [builtin, Builtin.copy_, run_underlying_of hC.tab (hC.tab.sl ht), hlx, run_sizeOf_of hC.tab hul, hmin, hfc', goInt, vs, hst]
    have r := hrel.write (i := i) (b := b) (o := ob + o' + off * sz C.tb u) (vs := vs) (fun j hj => by obtain ⟨v, _, h2, _⟩ := hcs j hj; exact h2) (k := .tree ty (setT p (.e (.agg (putAt ds off (ys.take k)))) X)) e1
      ⟨_, hi, fun ty2 x2 h2 => by cases h2; exact ⟨_, rfl⟩, fun _ _ h2 => (by cases h2), fun _ _ h2 => (by cases h2), fun _ _ _ h2 => (by cases h2)⟩
      (fun hev => by
        have hpt := f4.put hC.tab e3 hT2
        rw [splice_nest hput (by omega)] at hpt
        refine ⟨b, ob, splice cs (o' + off * sz C.tb u) vs, rfl, by rw [splice_length (by omega)]; exact f2, fun hz => ⟨(f0 hz).1, (shape?_setCells b vs _ w _).trans (f0 hz).2⟩, fun j v hj => ?_, hpt.mono hev⟩
        rw [splice_get (by omega)] at hj
        have hfz : ∀ q, (w.setCells b (ob + o' + off * sz C.tb u) vs).frozen? ⟨b, q, none⟩ = w.frozen? ⟨b, q, none⟩ := fun q => World.frozen?_setCells b vs _ w _
        by_cases h1 : j < o' + off * sz C.tb u
        · rw [if_pos h1] at hj
          obtain ⟨g1, g2, g3⟩ := f3 j v hj
          exact ⟨by rw [setCells_cell (fun _ => .inl (by omega))]; exact g1, g2, (hfz _).trans g3⟩
        · rw [if_neg h1] at hj
          by_cases h2 : j < o' + off * sz C.tb u + vs.length
          · rw [if_pos h2] at hj
            obtain ⟨u1, g1, g2, g3⟩ := hcs (j - (o' + off * sz C.tb u)) (by omega)
            have hidx : ob + o' + off * sz C.tb u + (j - (o' + off * sz C.tb u)) = ob + j := by omega
            rw [hidx] at g1 g2 g3
            refine ⟨?_, g2, (hfz _).trans g3⟩
            have := World.cell?_setCells_in b vs (ob + o' + off * sz C.tb u) w (fun q hq => by obtain ⟨v, k1, _⟩ := hcs q hq; simp [k1]) (j - (o' + off * sz C.tb u)) (by omega)
            rw [hidx] at this
            rw [this]
            rw [List.getElem?_eq_getElem (by omega)] at hj; exact hj
          · rw [if_neg h2] at hj
            obtain ⟨g1, g2, g3⟩ := f3 j v hj
            exact ⟨by rw [setCells_cell (fun _ => .inr (by omega))]; exact g1, g2, (hfz _).trans g3⟩)
    simp only [Oper.wp, hrun, Oper.upon]
    have hkM : k ≤ maxN := by omega
    refine hK _ _ _ H _ _ ⟨rfl, rfl⟩ r.1 (.mkInt hr (range64 hkM)) r.2.2 r.2.1 fun b' o'' v hvv hst2 => ?_
    refine ⟨?_, hst2⟩
    rw [setCells_cell fun e => ?_]
    · exact hvv
    · rcases Nat.lt_or_ge o'' (ob + o' + off * sz C.tb u) with h | h
      · exact .inl h
      · rcases Nat.lt_or_ge o'' (ob + o' + off * sz C.tb u + vs.length) with h' | h'
        · exfalso
          obtain ⟨_, _, hm', _⟩ := hcs (o'' - (ob + o' + off * sz C.tb u)) (by omega)
          rw [show ob + o' + off * sz C.tb u + (o'' - (ob + o' + off * sz C.tb u)) = o'' by omega] at hm'
          subst e
          rcases hst2 with ⟨x, hx⟩ | ⟨j, hj, hjm⟩
          · rw [hm'] at hx; cases hx
          · rw [hm'] at hjm; cases hjm; exact hj hts
        · exact .inr h'
end
end Go.Den
