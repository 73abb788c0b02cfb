/- Rows that are written: an append to one. -/
import Derived.Test.YtgdfegmdjdnbdaaDenDop6
import Derived.Test.YtgdfegmdjdnbdaaDenClose2
namespace Go.Den
open Go
set_option linter.unusedSectionVars false
set_option linter.unusedSimpArgs false
set_option linter.unusedVariables false

/-- What is appended, or copied. -/
def SrcOk (tb : Tab) (H : Gh) (w : World) (P : Program) (u : TypeId) (v : Value) (ys : List E) : Prop :=
  (Builtin.lenOf v).run P w = .ok ys.length w ∧ ∃ news, RowC tb H u news ys ∧
    ∀ n, n ≤ ys.length → ∀ w', (∀ b o v, w.cell? ⟨b, o, none⟩ = some v → w'.cell? ⟨b, o, none⟩ = some v) → (Builtin.firstCells (sz tb u) n v).run P w' = .ok (news.take (n * sz tb u)).toArray w'

section
variable {C : Cx} (hC : Ok C) {o : Oper} {env : Env} {σ : List Blk}
include hC

theorem appendM_core {t t2 ty u : TypeId} (ht : td C.tb t = .sl u) (hz : plain C.tb zf u = true) {H : Gh} {w : World} (hb : Base H w) {i : Nat} {v0 x : Value} {xs ys : List E}
    (hM : MRel C.tb H w i v0 u true xs) (h2 : t2 = t ∨ td C.tb t2 = .str) (hsrc : SrcOk C.tb H w C.P u x ys) (hbytes : (xs.length + ys.length) * nb C.tb u ≤ maxL) (hmax : xs.length + ys.length ≤ maxL) :
    ∃ v' w' H', (Builtin.append_ #[t, t2] ty #[v0, x]).run C.P w = .ok v' w' ∧ Base H' w' ∧ (∀ b o v, H b o = .pers v → H' b o = .pers v) ∧ MRel C.tb H' w' i v' u true (xs ++ ys) ∧
      (∀ b o j, H b o = .mine j → j ≠ i → H' b o = .mine j ∧ w'.cell? ⟨b, o, none⟩ = w.cell? ⟨b, o, none⟩ ∧ w'.frozen? ⟨b, o, none⟩ = w.frozen? ⟨b, o, none⟩ ∧ w'.shape? b = w.shape? b) ∧
      (∀ b s p j, (∀ o, H b o = .mine j) → j ≠ i → w.heap[b]? = some (.stringIter s p) → w'.heap[b]? = some (.stringIter s p)) ∧ Stp H w H' w' ∧ (ys.length = 0 → v' = v0) := by
  obtain ⟨hlx, news, hnr, hnew⟩ := hsrc
  have hnews : ∀ w', (∀ b o v, w.cell? ⟨b, o, none⟩ = some v → w'.cell? ⟨b, o, none⟩ = some v) → (Builtin.firstCells (sz C.tb u) ys.length x).run C.P w' = .ok news.toArray w' := fun w' h => by
    have := hnew ys.length (Nat.le_refl _) w' h
    rwa [← hnr.len, List.take_length] at this
  have hlenl : (xs ++ ys).length = xs.length + ys.length := by simp
  have hsz := fun b q => setCells_os b news q w
  have hforall : ∃ a0 c0 olds, v0 = .slice a0 xs.length c0 ∧ RowC C.tb H u olds xs ∧ ((a0 = none ∧ c0 = 0 ∧ xs = []) ∨ ∃ b zs, a0 = some ⟨b, 0, none⟩ ∧ (xs.length ≤ c0 ∧ 0 < c0) ∧ xs.length ≤ maxN ∧ (olds ++ zs).length = c0 * sz C.tb u ∧
      (0 < c0 * sz C.tb u → w.shape? b = some (u, c0 * sz C.tb u)) ∧ (∀ (j : Nat) (v : Value), (olds ++ zs)[j]? = some v → w.cell? ⟨b, j, none⟩ = some v ∧ H b j = .mine i ∧ w.frozen? ⟨b, j, none⟩ = false)) := by
    rcases hM with ⟨rfl, rfl⟩ | ⟨b, c, cs, zs, e1, e2, e3, e4, e5, e6, e7⟩
    · exact ⟨none, 0, [], rfl, ⟨by simp, fun i x hx => by simp at hx⟩, .inl ⟨rfl, rfl, rfl⟩⟩
    · exact ⟨_, c, cs, e1, e4, .inr ⟨b, zs, rfl, e2, e3, e5, e6, e7⟩⟩
  obtain ⟨a0, c0, olds, hv0, hor, hb0⟩ := hforall
  have hrun := run_append_any hC (ty := ty) ht hz (ba := a0) (n := xs.length) (cap := c0) (m := ys.length) (x := x) (olds := olds) (news := news) (w := w) h2 hlx (fun _ _ => trivial) hnews hor.len
    (fun b off ha j v hj => by
      rcases hb0 with ⟨h1, _⟩ | ⟨b', zs, h1, _, _, _, _, h7⟩
      · rw [h1] at ha; cases ha
      · rw [h1] at ha; cases ha
        rw [Nat.zero_add]
        exact (h7 j v (by rw [List.getElem?_append_left (List.getElem?_eq_some_iff.1 hj).1]; exact hj)).1)
    (fun ha => by
      rcases hb0 with ⟨h1, h2, h3⟩ | ⟨b', zs, h1, _⟩
      · exact ⟨by simp [h3], h2⟩
      · rw [h1] at ha; cases ha)
    (fun a ha => by
      rcases hb0 with ⟨h1, _⟩ | ⟨b', zs, h1, _⟩
      · rw [h1] at ha; cases ha
      · rw [h1] at ha; cases ha; rfl)
    hnr.len (hnr.one hC.tab)
    (fun hr b off ha j hj => by
      rcases hb0 with ⟨h1, _⟩ | ⟨b', zs, h1, _, _, h5, _, h7⟩
      · rw [h1] at ha; cases ha
      · rw [h1] at ha; cases ha
        have hlt : xs.length * sz C.tb u + j < (olds ++ zs).length := by
          have : (xs.length + ys.length) * sz C.tb u ≤ c0 * sz C.tb u := Nat.mul_le_mul_right _ hr
          rw [Nat.add_mul, ← hnr.len] at this; omega
        obtain ⟨k1, k2, k3⟩ := h7 _ _ (List.getElem?_eq_getElem hlt)
        rw [Nat.zero_add]
        exact ⟨by rw [k1]; rfl, k3⟩)
    hbytes hmax
  rw [← hv0] at hrun
  have hall := hor.app hnr
  rcases hrun with ⟨hr, hrun⟩ | ⟨hr, nc, zs', h1, hzl, hrun⟩
  · -- in place
    rcases hb0 with ⟨rfl, rfl, rfl⟩ | ⟨b, zs, rfl, k3, k4, k5, k6, k7⟩
    · have hy : ys = [] := List.length_eq_zero_iff.1 (by simpa using hr)
      subst hy
      exact ⟨_, _, H, hrun, hb, fun _ _ _ h => h, .inl ⟨rfl, rfl⟩, fun b o j h _ => ⟨h, rfl, rfl, rfl⟩, fun b s p j _ _ h => h, .refl _ _, fun _ => hv0.symm⟩
    · have hol := hor.len
      have hnl := hnr.len
      have hfit : xs.length * sz C.tb u + news.length ≤ c0 * sz C.tb u := by
        have : (xs.length + ys.length) * sz C.tb u ≤ c0 * sz C.tb u := Nat.mul_le_mul_right _ hr
        rwa [Nat.add_mul, ← hnl] at this
      let q := xs.length * sz C.tb u
      have hcell : ∀ j (hj : j < (olds ++ zs).length), w.cell? ⟨b, j, none⟩ = some ((olds ++ zs)[j]'hj) ∧ H b j = .mine i ∧ w.frozen? ⟨b, j, none⟩ = false := fun j hj =>
        k7 j _ (List.getElem?_eq_getElem hj)
      have hin : ∀ o', q ≤ o' → o' < q + news.length → H b o' = .mine i := fun o' _ h => (hcell o' (by show o' < _; have : q = xs.length * sz C.tb u := rfl; omega)).2.1
      have hw' : inPlace w (some ⟨b, 0, none⟩) (xs.length * sz C.tb u) news = w.setCells b q news := by simp [inPlace, q]
      rw [hw'] at hrun
      have hout : ∀ b' o', H b' o' ≠ .mine i → (w.setCells b q news).cell? ⟨b', o', none⟩ = w.cell? ⟨b', o', none⟩ := fun b' o' hne => setCells_cell fun e => by
        subst e
        rcases Nat.lt_or_ge o' q with h | h
        · exact .inl h
        · rcases Nat.lt_or_ge o' (q + news.length) with h' | h'
          · exact absurd (hin o' h h') hne
          · exact .inr h'
      have hfz : ∀ a, (w.setCells b q news).frozen? a = w.frozen? a := fun a => World.frozen?_setCells b news q w a
      have hnz : news.length = 0 ∨ ∃ o', H b o' = .mine i := by
        rcases Nat.eq_zero_or_pos news.length with h | h
        · exact .inl h
        · exact .inr ⟨q, hin q (Nat.le_refl _) (by omega)⟩
      refine ⟨_, _, H, hrun, ⟨fun b' o' v h => (hout b' o' (by rw [h]; simp)).trans (hb.pers b' o' v h), fun b' o' h => by rw [(hsz b q).2.2.2]; exact hb.dom b' o' h⟩, fun _ _ _ h => h, ?_, ?_, ?_, ?_, fun h => by rw [hv0, h, Nat.add_zero]⟩
      · refine .inr ⟨b, c0, olds ++ news, zs.drop news.length, by rw [hlenl], ⟨by rw [hlenl]; exact hr, k3.2⟩, by rw [hlenl]; exact maxL_N hmax, hall, ?_, fun hz => (shape?_setCells b news q w b).trans (k6 hz), fun j v hj => ?_⟩
        · simp only [List.length_append, List.length_drop] at k5 ⊢; omega
        · have hjl := (List.getElem?_eq_some_iff.1 hj).1
          have hjl' : j < (olds ++ zs).length := by simp only [List.length_append, List.length_drop] at hjl k5 ⊢; omega
          obtain ⟨c1, c2, c3⟩ := hcell j hjl'
          refine ⟨?_, c2, (hfz _).trans c3⟩
          by_cases hj1 : j < q
          · rw [setCells_cell (fun _ => .inl hj1), c1]
            have : j < olds.length := by rw [hol]; exact hj1
            rw [List.append_assoc, List.getElem?_append_left this] at hj
            rw [List.getElem?_eq_getElem this] at hj; rw [← hj, List.getElem_append_left this]
          · by_cases hj2 : j < q + news.length
            · have := World.cell?_setCells_in b news q w (fun j hj => by
                rw [(hcell (q + j) (by have : q = xs.length * sz C.tb u := rfl; omega)).1]; rfl) (j - q) (by omega)
              rw [show q + (j - q) = j by omega] at this
              rw [this]
              have h1 : olds.length = q := hol
              rw [List.append_assoc, List.getElem?_append_right (by omega), List.getElem?_append_left (by omega), h1, List.getElem?_eq_getElem (by omega)] at hj
              exact hj
            · rw [setCells_cell (fun _ => .inr (by omega)), c1]
              have h1 : olds.length = q := hol
              rw [List.append_assoc, List.getElem?_append_right (by omega), List.getElem?_append_right (by omega), List.getElem?_drop] at hj
              have hzj : j - olds.length < zs.length := by simp at hjl'; omega
              rw [List.getElem_append_right (by omega)]
              rw [show news.length + (j - olds.length - news.length) = j - olds.length by omega, List.getElem?_eq_getElem hzj] at hj
              exact hj
      · intro b' o' j h hne
        exact ⟨h, hout b' o' (by rw [h]; simpa using hne), hfz _, shape?_setCells b news q w b'⟩
      · intro b' s p j h hne hh
        rcases hnz with hz | ⟨o', ho'⟩
        · rw [List.length_eq_zero_iff.1 hz]; exact hh
        · have hbb : b' ≠ b := fun e => by subst e; rw [h] at ho'; cases ho'; exact hne rfl
          rw [setCells_heap b news q w b' hbb]; exact hh
      · refine ⟨(hsz b q).1, (hsz b q).2.1, (hsz b q).2.2.1, by rw [(hsz b q).2.2.2]; omega, fun _ _ _ _ => rfl, fun _ _ _ j h => ⟨j, h⟩, fun b' hb' hn => ?_, fun b' hb' o' hn => hout b' o' (hn i), fun b' hb' o' _ _ hn => hfz _, fun b' _ => shape?_setCells b news q w b'⟩
        rcases hnz with hz | ⟨o', ho'⟩
        · rw [List.length_eq_zero_iff.1 hz]; rfl
        · exact setCells_heap b news q w b' fun e => by subst e; exact hn o' i ho'
  · -- a new array
    let cs := olds ++ news ++ zs'
    let f : Nat → Own := fun o => if o < cs.length then .mine i else .none
    have hsd : Stp H w.drew (hAlloc H w.heap.size f) (w.drew.alloc (.cells cs.toArray u)) := Stp.alloc (w := w.drew) hb.dom (.cells cs.toArray u) f
    have hne : ∀ b o, H b o ≠ .none → b ≠ w.heap.size := fun b o h => by have := hb.dom b o h; omega
    have hpm : ∀ b o v, H b o = .pers v → hAlloc H w.heap.size f b o = .pers v := fun b o v h => by rw [hAlloc_old (hne b o (by rw [h]; simp))]; exact h
    have hcn : ∀ o, (w.drew.alloc (.cells cs.toArray u)).cell? ⟨w.heap.size, o, none⟩ = cs[o]? := fun o => by
      have := World.cell?_alloc_new w.drew cs.toArray u o
      simpa using this
    have hco : ∀ b o, b ≠ w.heap.size → (w.drew.alloc (.cells cs.toArray u)).cell? ⟨b, o, none⟩ = w.cell? ⟨b, o, none⟩ := fun b o h => World.cell?_alloc_old w.drew _ _ h
    have hfo : ∀ b o, b ≠ w.heap.size → (w.drew.alloc (.cells cs.toArray u)).frozen? ⟨b, o, none⟩ = w.frozen? ⟨b, o, none⟩ := fun b o h => World.frozen?_alloc_old w.drew _ _ h
    have hal := hall.len
    rw [hlenl] at hal
    have hcl : cs.length = nc * sz C.tb u := by
      show (olds ++ news ++ zs').length = _
      rw [List.length_append, hal, hzl, ← Nat.add_mul]; congr 1; omega
    have hynz : ys.length ≠ 0 := fun h => by
      rcases hb0 with ⟨_, _, h3⟩ | ⟨_, _, _, h3, _⟩
      · rw [h3, h] at hr; simp at hr
      · omega
    refine ⟨_, _, hAlloc H w.heap.size f, hrun, ⟨fun b o v h => ?_, fun b o h => ?_⟩, hpm, ?_, ?_, ?_, (Stp.drew H w).trans hsd, fun h => absurd h hynz⟩
    · by_cases hbs : b = w.heap.size
      · subst hbs
        rw [hAlloc_new] at h
        have h' : (if o < cs.length then Own.mine i else .none) = .pers v := h
        split at h' <;> cases h'
      · rw [hAlloc_old hbs] at h
        exact (hco b o hbs).trans (hb.pers b o v h)
    · by_cases hbs : b = w.heap.size
      · subst hbs; simp
      · rw [hAlloc_old hbs] at h; have := hb.dom b o h; simp; omega
    · refine .inr ⟨w.heap.size, nc, olds ++ news, zs', by rw [hlenl], ⟨by rw [hlenl]; exact h1, by omega⟩, by rw [hlenl]; exact maxL_N hmax, ⟨hall.len, fun j x hx => (hall.el j x hx).mono hpm⟩, hcl, fun _ => ?_, fun j v hj => ?_⟩
      · have := shape?_alloc_new w.drew cs.toArray u
        rw [show (w.drew.alloc (.cells cs.toArray u)) = (w.drew.alloc (.cells (olds ++ news ++ zs').toArray u)) from rfl] at this
        rw [show w.drew.heap.size = w.heap.size from rfl] at this
        rw [this]; simp only [List.size_toArray]; rw [hcl]
      · have hjc : j < cs.length := (List.getElem?_eq_some_iff.1 hj).1
        refine ⟨(hcn j).trans hj, ?_, World.frozen?_alloc_new w.drew _ _ _⟩
        rw [hAlloc_new]; exact if_pos hjc
    · intro b o j h hne'
      have hbs := hne b o (by rw [h]; simp)
      exact ⟨by rw [hAlloc_old hbs]; exact h, hco b o hbs, hfo b o hbs, shape?_alloc_old w.drew _ (by have := hb.dom b o (by rw [h]; simp); exact this)⟩
    · intro b s p j h hne' hh
      have hlt := hb.dom b 0 (by rw [h 0]; simp)
      have := heap_alloc_old w.drew (.cells cs.toArray u) b hlt
      exact this.trans hh
end
end Go.Den
