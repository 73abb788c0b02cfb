/- append: the rule. -/
import Derived.Test.YtgdfegmdjdnbdaaDenAppend
namespace Go.Den
open Go
set_option linter.unusedSectionVars false
set_option linter.unusedSimpArgs false
set_option linter.unusedVariables false

def RowRel (tb : Tab) (H : Gh) (w : World) (i : Nat) (bv : Value) (u : TypeId) (n : Nat) : Prop :=
  (bv = .slice none 0 0 ∧ n = 0) ∨ ∃ b off c, bv = .slice (some ⟨b, off, none⟩) n c ∧ n ≤ c ∧
    ∀ j, n * sz tb u ≤ j → j < c * sz tb u → (∃ v, w.cell? ⟨b, off + j, none⟩ = some v) ∧ H b (off + j) = .mine i ∧ w.frozen? ⟨b, off + j, none⟩ = false

theorem RowC.app {tb H u cs ds xs ys} (h : RowC tb H u cs xs) (k : RowC tb H u ds ys) : RowC tb H u (cs ++ ds) (xs ++ ys) := by
  refine ⟨by simp [h.len, k.len, Nat.add_mul], fun i x hx => ?_⟩
  have hseg : ∀ o n, seg (cs ++ ds) o n = if o + n ≤ cs.length then seg cs o n else seg (cs ++ ds) o n := by
    intro o n
    split
    · rename_i hle
      apply List.ext_getElem?
      intro j
      rcases Nat.lt_or_ge j n with hj | hj
      · rw [seg_get hj, seg_get hj, List.getElem?_append_left (by omega)]
      · rw [List.getElem?_eq_none (by simp [seg]; omega), List.getElem?_eq_none (by simp [seg]; omega)]
    · rfl
  rcases Nat.lt_or_ge i xs.length with hi | hi
  · rw [List.getElem?_append_left hi] at hx
    have hle : i * sz tb u + sz tb u ≤ cs.length := by
      rw [h.len]; have := Nat.mul_le_mul_right (sz tb u) (show i + 1 ≤ xs.length from hi); rwa [Nat.add_mul, Nat.one_mul] at this
    rw [hseg, if_pos hle]; exact h.el i x hx
  · rw [List.getElem?_append_right hi] at hx
    have := k.el (i - xs.length) x hx
    have he : seg (cs ++ ds) (i * sz tb u) (sz tb u) = seg ds ((i - xs.length) * sz tb u) (sz tb u) := by
      have hi2 : i * sz tb u = cs.length + (i - xs.length) * sz tb u := by rw [h.len, ← Nat.add_mul]; congr 1; omega
      rw [hi2]
      unfold seg
      rw [← List.drop_drop, List.drop_left]
    rw [he]; exact this
theorem RowC.mono {tb H H' u cs xs} (h : RowC tb H u cs xs) (hp : ∀ b o v, H b o = .pers v → H' b o = .pers v) : RowC tb H' u cs xs :=
  ⟨h.len, fun i x hx => (h.el i x hx).mono hp⟩
theorem RowC.one {P : Program} {tb H u cs xs} (hT : TabOk P tb) (h : RowC tb H u cs xs) : ∀ v ∈ cs, v.oneCell' = true := by
  intro v hv
  obtain ⟨j, hj⟩ := List.getElem?_of_mem hv
  have hjl : j < xs.length * sz tb u := by rw [← h.len]; exact (List.getElem?_eq_some_iff.1 hj).1
  have hu : 0 < sz tb u := by rcases Nat.eq_zero_or_pos (sz tb u) with h | h; · rw [h] at hjl; omega
                              · exact h
  have hi : j / sz tb u < xs.length := (Nat.div_lt_iff_lt_mul hu).2 hjl
  have hr := h.el _ xs[j / sz tb u] (List.getElem?_eq_getElem hi)
  refine (TRel.one (β := []) (σ := []) hT (.e hr)) v (List.mem_of_getElem? (i := j % sz tb u) ?_)
  rw [seg_get (Nat.mod_lt _ hu), Nat.mul_comm, Nat.div_add_mod]; exact hj

/-- A slice's cells, wherever they lie. -/
theorem Rd.cells_of {tb H t v xs u} (h : Rd tb H t [v] (.sl xs)) (ht : td tb t = .sl u) : ∃ a c cs, v = .slice a xs.length c ∧ RowC tb H u cs xs ∧
    (0 < xs.length → ∃ b off, a = some ⟨b, off, none⟩ ∧ ∀ (j : Nat) v, cs[j]? = some v → H b (off + j) = .pers v) := by
  cases h with
  | sl0 a => exact ⟨_, _, [], rfl, ⟨by simp, fun i x hx => by simp at hx⟩, fun h => by simp at h⟩
  | sl a b c d e f => rw [ht] at a; cases a; exact ⟨_, _, _, rfl, ⟨b, d⟩, fun _ => ⟨_, _, rfl, c⟩⟩

section
variable {C : Cx} (hC : Ok C) {o : Oper} {env : Env} {σ : List Blk}
include hC

theorem append_core {t t2 ty u : TypeId} (ht : td C.tb t = .sl u) (hz : plain C.tb zf u = true) {H : Gh} {w : World} (hb : Base H w) {i n m : Nat} {v0 x : Value} {xs ys : List E} {news : List Value}
    (hx0 : Rd C.tb H t [v0] (.sl xs)) (hn : n = xs.length) (hrow : RowRel C.tb H w i v0 u n) (h2 : t2 = t ∨ td C.tb t2 = .str) (hlx : (Builtin.lenOf x).run C.P w = .ok m w) (hm : m = ys.length)
    (hnew : ∀ w', (∀ b o v, w.cell? ⟨b, o, none⟩ = some v → w'.cell? ⟨b, o, none⟩ = some v) → (Builtin.firstCells (sz C.tb u) m x).run C.P w' = .ok news.toArray w')
    (hnr : RowC C.tb H u news ys) (hbytes : (n + m) * nb C.tb u ≤ maxL) (hmax : n + m ≤ maxL) :
    ∃ v' w' H', (Builtin.append_ #[t, t2] ty #[v0, x]).run C.P w = .ok v' w' ∧ Base H' w' ∧ (∀ b o v, H b o = .pers v → H' b o = .pers v) ∧ Rd C.tb H' t [v'] (.sl (xs ++ ys)) ∧ RowRel C.tb H' w' i v' u (n + m) ∧
      (∀ b o j, H b o = .mine j → j ≠ i → H' b o = .mine j ∧ w'.cell? ⟨b, o, none⟩ = w.cell? ⟨b, o, none⟩ ∧ w'.frozen? ⟨b, o, none⟩ = w.frozen? ⟨b, o, none⟩ ∧ w'.shape? b = w.shape? b) ∧
      (∀ b s p j, (∀ o, H b o = .mine j) → j ≠ i → w.heap[b]? = some (.stringIter s p) → w'.heap[b]? = some (.stringIter s p)) ∧ Stp H w H' w' ∧ (m = 0 → v' = v0) := by
  obtain ⟨a0, c0, olds, hv0, hor, hop⟩ := hx0.cells_of ht
  subst hn
  subst hm
  have hb0 : (v0 = .slice none 0 0 ∧ xs.length = 0) ∨ ∃ b off, a0 = some ⟨b, off, none⟩ ∧ xs.length ≤ c0 ∧ ∀ j, xs.length * sz C.tb u ≤ j → j < c0 * sz C.tb u → (∃ v, w.cell? ⟨b, off + j, none⟩ = some v) ∧ H b (off + j) = .mine i ∧ w.frozen? ⟨b, off + j, none⟩ = false := by
    rcases hrow with h | ⟨b, off, c, h1, h2, h3⟩
    · exact .inl h
    · rw [hv0] at h1
      simp only [Value.slice.injEq] at h1
      obtain ⟨rfl, _, rfl⟩ := h1
      exact .inr ⟨b, off, rfl, h2, h3⟩
  have hrun := run_append_any hC (ty := ty) ht hz (ba := a0) (n := xs.length) (cap := c0) (m := ys.length) (x := x) (olds := olds) (news := news) (w := w) h2 hlx (fun _ _ => trivial) hnew hor.len
    (fun b off ha j v hj => by
      have hpos : 0 < xs.length := by
        rcases Nat.eq_zero_or_pos xs.length with h | h
        · have : olds = [] := List.length_eq_zero_iff.1 (by rw [hor.len, h, Nat.zero_mul]); subst this; simp at hj
        · exact h
      obtain ⟨b', off', h1, h2⟩ := hop hpos
      rw [ha] at h1; cases h1
      exact hb.pers _ _ _ (h2 j v hj))
    (fun ha => by
      rcases hb0 with ⟨h1, h2⟩ | ⟨b, off, h1, _⟩
      · rw [hv0] at h1; simp only [Value.slice.injEq] at h1; exact ⟨h2, h1.2.2⟩
      · rw [ha] at h1; cases h1)
    (fun a ha => by
      rcases hb0 with ⟨h1, h2⟩ | ⟨b, off, h1, _⟩
      · rw [hv0] at h1; simp only [Value.slice.injEq] at h1; rw [h1.1] at ha; cases ha
      · rw [h1] at ha; cases ha; rfl)
    hnr.len (hnr.one hC.tab)
    (fun hr b off ha j hj => by
      rcases hb0 with ⟨h1, h2⟩ | ⟨b', off', h1, h3, h4⟩
      · rw [hv0] at h1; simp only [Value.slice.injEq] at h1; rw [h1.1] at ha; cases ha
      · rw [ha] at h1; cases h1
        have hlt : xs.length * sz C.tb u + j < c0 * sz C.tb u := by
          have : (xs.length + ys.length) * sz C.tb u ≤ c0 * sz C.tb u := Nat.mul_le_mul_right _ hr
          rw [Nat.add_mul, ← hnr.len] at this; omega
        obtain ⟨⟨v, k1⟩, k2, k3⟩ := h4 (xs.length * sz C.tb u + j) (by omega) hlt
        rw [← Nat.add_assoc] at k1 k3
        exact ⟨by simp [k1], k3⟩)
    hbytes hmax
  rw [← hv0] at hrun
  have hall := hor.app hnr
  have hlenl : (xs ++ ys).length = xs.length + ys.length := by simp
  rcases hrun with ⟨hr, hrun⟩ | ⟨hr, nc, zs, h1, hzl, hrun⟩
  · -- in place
    rcases hb0 with ⟨k1, k2⟩ | ⟨b, off, rfl, k3, k4⟩
    · rw [hv0] at k1
      simp only [Value.slice.injEq] at k1
      obtain ⟨rfl, _, rfl⟩ := k1
      have hy : ys.length = 0 := by omega
      have hx : xs = [] := List.length_eq_zero_iff.1 k2
      have hy' : ys = [] := List.length_eq_zero_iff.1 hy
      subst hx; subst hy'
      exact ⟨_, _, H, hrun, hb, fun _ _ _ h => h, .sl0 ht, .inl ⟨rfl, rfl⟩, fun b o j h _ => ⟨h, rfl, rfl, rfl⟩, fun b s p j _ _ h => h, .refl _ _, fun _ => hv0.symm⟩
    · have hfit : xs.length * sz C.tb u + news.length ≤ c0 * sz C.tb u := by
        have : (xs.length + ys.length) * sz C.tb u ≤ c0 * sz C.tb u := Nat.mul_le_mul_right _ hr
        rwa [Nat.add_mul, ← hnr.len] at this
      have hspare : ∀ j, j < news.length → (∃ v, w.cell? ⟨b, off + xs.length * sz C.tb u + j, none⟩ = some v) ∧ H b (off + xs.length * sz C.tb u + j) = .mine i ∧ w.frozen? ⟨b, off + xs.length * sz C.tb u + j, none⟩ = false := fun j hj => by
        have := k4 (xs.length * sz C.tb u + j) (by omega) (by omega)
        rwa [← Nat.add_assoc] at this
      let q := off + xs.length * sz C.tb u
      let H' : Gh := fun b' o' => if b' = b ∧ q ≤ o' ∧ o' < q + news.length then .pers (news.getD (o' - q) undef) else H b' o'
      have hin : ∀ b' o', (b' = b ∧ q ≤ o' ∧ o' < q + news.length) → H b' o' = .mine i := fun b' o' ⟨e1, e2, e3⟩ => by
        subst e1
        have := (hspare (o' - q) (by omega)).2.1
        rwa [show off + xs.length * sz C.tb u + (o' - q) = o' by show q + (o' - q) = o'; omega] at this
      have hcellout : ∀ b' o', ¬ (b' = b ∧ q ≤ o' ∧ o' < q + news.length) → (w.setCells b q news).cell? ⟨b', o', none⟩ = w.cell? ⟨b', o', none⟩ := fun b' o' hne => setCells_cell fun e => by
        rcases Nat.lt_or_ge o' q with h | h
        · exact .inl h
        · exact .inr (by rcases Nat.lt_or_ge o' (q + news.length) with h' | h'; · exact absurd ⟨e, h, h'⟩ hne
                         · exact h')
      have hcellin : ∀ j, j < news.length → (w.setCells b q news).cell? ⟨b, q + j, none⟩ = some (news.getD j undef) := fun j hj => by
        have := World.cell?_setCells_in b news q w (fun j hj => by obtain ⟨⟨v, hv⟩, _⟩ := hspare j hj; show (w.cell? ⟨b, off + xs.length * sz C.tb u + j, none⟩).isSome = true; simp [hv]) j hj
        rw [this]; simp [hj]
      have hpm : ∀ b o v, H b o = .pers v → H' b o = .pers v := fun b' o' v h => by
        show (if _ then _ else _) = _
        rw [if_neg (fun hc => by rw [hin _ _ hc] at h; cases h)]; exact h
      have hsz := setCells_os b news q w
      have hbase : Base H' (w.setCells b q news) := by
        refine ⟨fun b' o' v h => ?_, fun b' o' h => ?_⟩
        · by_cases hc : b' = b ∧ q ≤ o' ∧ o' < q + news.length
          · have h' : Own.pers (news.getD (o' - q) undef) = .pers v := by rw [← h]; exact (if_pos hc).symm
            cases h'
            obtain ⟨rfl, e2, e3⟩ := hc
            have := hcellin (o' - q) (by omega)
            rwa [show q + (o' - q) = o' by omega] at this
          · rw [hcellout _ _ hc]
            exact hb.pers _ _ _ (by rw [← h]; exact (if_neg hc).symm)
        · rw [hsz.2.2.2]
          by_cases hc : b' = b ∧ q ≤ o' ∧ o' < q + news.length
          · exact hb.dom b' o' (by rw [hin _ _ hc]; simp)
          · exact hb.dom b' o' (by rw [show H b' o' = H' b' o' from (if_neg hc).symm]; exact h)
      refine ⟨_, w.setCells b q news, H', hrun, hbase, hpm, ?_, ?_, ?_, ?_, ?_, fun h0 => by rw [hv0, h0]; rfl⟩
      · rw [← hlenl]
        refine .sl (cs := olds ++ news) ht hall.len (fun j v hj => ?_) (fun i x hx => ((hall.el i x hx).mono hpm)) (by omega) (by have := maxL_N hmax; omega)
        rcases Nat.lt_or_ge j olds.length with hj' | hj'
        · rw [List.getElem?_append_left hj'] at hj
          have hpos : 0 < xs.length := by
            rcases Nat.eq_zero_or_pos xs.length with h | h
            · rw [hor.len, h] at hj'; omega
            · exact h
          obtain ⟨b', off', h1, h2⟩ := hop hpos
          cases h1
          exact hpm _ _ _ (h2 j v hj)
        · rw [List.getElem?_append_right hj'] at hj
          have hjn : j - olds.length < news.length := (List.getElem?_eq_some_iff.1 hj).1
          have hol := hor.len
          show (if _ then _ else _) = _
          have hcond : b = b ∧ q ≤ off + j ∧ off + j < q + news.length := ⟨rfl, by show off + xs.length * sz C.tb u ≤ _; omega, by show off + j < off + xs.length * sz C.tb u + _; omega⟩
          rw [if_pos hcond]
          congr 1
          rw [show off + j - q = j - olds.length by show off + j - (off + xs.length * sz C.tb u) = _; omega]
          simp [List.getD, hj]
      · refine .inr ⟨b, off, c0, rfl, hr, fun j hj1 hj2 => ?_⟩
        have h1 := k4 j (by have := Nat.mul_le_mul_right (sz C.tb u) (show xs.length ≤ xs.length + ys.length by omega); omega) hj2
        have hnc : ¬ (b = b ∧ q ≤ off + j ∧ off + j < q + news.length) := fun hc => by
          have := hc.2.2
          rw [Nat.add_mul, ← hnr.len] at hj1
          have : off + j < off + xs.length * sz C.tb u + news.length := this
          omega
        refine ⟨by rw [hcellout _ _ hnc]; exact h1.1, ?_, (World.frozen?_setCells b news q w _).trans h1.2.2⟩
        rw [← h1.2.1]; exact if_neg hnc
      · intro b' o' j h hne
        have hnc : ¬ (b' = b ∧ q ≤ o' ∧ o' < q + news.length) := fun hc => by rw [hin _ _ hc] at h; cases h; exact hne rfl
        exact ⟨by rw [← h]; exact if_neg hnc, hcellout _ _ hnc, World.frozen?_setCells b news q w _, shape?_setCells b news q w _⟩
      · intro b' s p j h hne hh
        have hbb : b' ≠ b ∨ news.length = 0 := by
          rcases Nat.eq_zero_or_pos news.length with hz | hz
          · exact .inr hz
          · refine .inl fun e => ?_
            subst e
            have h1 := (hspare 0 hz).2.1
            rw [h] at h1; cases h1; exact hne rfl
        rcases hbb with hbb | hbb
        · show (w.setCells b q news).heap[b']? = _
          rw [setCells_heap b news q w b' hbb]; exact hh
        · show (w.setCells b q news).heap[b']? = _
          rw [List.length_eq_zero_iff.1 hbb]; exact hh
      · refine ⟨hsz.1, hsz.2.1, hsz.2.2.1, by rw [hsz.2.2.2]; omega, fun b' hb' o' hn => ?_, fun b' hb' o' j h => ?_, fun b' hb' hn => ?_, fun b' hb' o' hn => ?_, fun b' hb' o' _ _ hn => World.frozen?_setCells b news q w _, fun b' _ => shape?_setCells b news q w _⟩
        · exact if_neg fun hc => hn i (hin _ _ hc)
        · by_cases hc : b' = b ∧ q ≤ o' ∧ o' < q + news.length
          · exact ⟨i, hin _ _ hc⟩
          · exact ⟨j, by rw [← h]; exact (if_neg hc).symm⟩
        · rcases Nat.eq_zero_or_pos news.length with hz | hz
          · rw [List.length_eq_zero_iff.1 hz]; rfl
          · exact setCells_heap b news q w b' fun e => by subst e; exact hn _ _ (hspare 0 hz).2.1
        · exact hcellout _ _ fun hc => hn i (hin _ _ hc)
  · -- a new array
    let cs := olds ++ news ++ zs
    let f : Nat → Own := fun o => if o < (olds ++ news).length then .pers ((olds ++ news).getD o undef) else if o < cs.length then .mine i else .none
    have hsd : Stp H w.drew (hAlloc H w.heap.size f) (w.drew.alloc (.cells cs.toArray u)) := Stp.alloc (w := w.drew) hb.dom (.cells cs.toArray u) f
    have hne : ∀ b o, H b o ≠ .none → b ≠ w.heap.size := fun b o h => by have := hb.dom b o h; omega
    have hpm : ∀ b o v, H b o = .pers v → hAlloc H w.heap.size f b o = .pers v := fun b o v h => by rw [hAlloc_old (hne b o (by rw [h]; simp))]; exact h
    have hcn : ∀ o, (w.drew.alloc (.cells cs.toArray u)).cell? ⟨w.heap.size, o, none⟩ = cs[o]? := fun o => by
      have := World.cell?_alloc_new w.drew cs.toArray u o
      simpa using this
    have hco : ∀ b o, b ≠ w.heap.size → (w.drew.alloc (.cells cs.toArray u)).cell? ⟨b, o, none⟩ = w.cell? ⟨b, o, none⟩ := fun b o h => World.cell?_alloc_old w.drew _ _ h
    have hfo : ∀ b o, b ≠ w.heap.size → (w.drew.alloc (.cells cs.toArray u)).frozen? ⟨b, o, none⟩ = w.frozen? ⟨b, o, none⟩ := fun b o h => World.frozen?_alloc_old w.drew _ _ h
    have hgetc : ∀ o, o < (olds ++ news).length → cs[o]? = some ((olds ++ news).getD o undef) := fun o ho => by
      show (olds ++ news ++ zs)[o]? = _
      rw [List.getElem?_append_left ho, List.getElem?_eq_getElem ho]; simp [List.getD, List.getElem?_eq_getElem ho]
    refine ⟨_, _, hAlloc H w.heap.size f, hrun, ⟨fun b o v h => ?_, fun b o h => ?_⟩, hpm, ?_, ?_, ?_, ?_, (Stp.drew H w).trans hsd, fun h0 => by rcases hb0 with ⟨_, h⟩ | ⟨_, _, _, h, _⟩ <;> omega⟩
    · by_cases hbs : b = w.heap.size
      · subst hbs
        rw [hAlloc_new] at h
        rw [show (w.drew.alloc (.cells (olds ++ news ++ zs).toArray u)) = (w.drew.alloc (.cells cs.toArray u)) from rfl, hcn]
        have h' : (if o < (olds ++ news).length then Own.pers ((olds ++ news).getD o undef) else if o < cs.length then .mine i else .none) = .pers v := h
        split at h'
        · rename_i ho; cases h'; exact hgetc o ho
        · split at h' <;> cases h'
      · rw [hAlloc_old hbs] at h
        exact (hco b o hbs).trans (hb.pers b o v h)
    · by_cases hbs : b = w.heap.size
      · subst hbs; simp
      · rw [hAlloc_old hbs] at h; have := hb.dom b o h; simp; omega
    · rw [← hlenl]
      refine .sl (cs := olds ++ news) ht hall.len (fun j v hj => ?_) (fun i x hx => ((hall.el i x hx).mono hpm)) (by omega) (by have := maxL_N hmax; omega)
      have hjl := (List.getElem?_eq_some_iff.1 hj).1
      rw [Nat.zero_add, hAlloc_new]
      show (if j < (olds ++ news).length then Own.pers ((olds ++ news).getD j undef) else _) = _
      rw [if_pos hjl]; simp [List.getD, hj]
    · refine .inr ⟨w.heap.size, 0, nc, rfl, h1, fun j hj1 hj2 => ?_⟩
      have hal := hall.len
      rw [hlenl] at hal
      have hcl : cs.length = nc * sz C.tb u := by
        show (olds ++ news ++ zs).length = _
        rw [List.length_append, hal, hzl, ← Nat.add_mul]; congr 1; omega
      have hjc : j < cs.length := by omega
      refine ⟨⟨cs[j], ?_⟩, ?_, ?_⟩
      · rw [Nat.zero_add]; exact (hcn j).trans (List.getElem?_eq_getElem hjc)
      · rw [Nat.zero_add, hAlloc_new]
        show (if j < (olds ++ news).length then Own.pers ((olds ++ news).getD j undef) else if j < cs.length then .mine i else .none) = _
        rw [if_neg (by rw [hal]; omega), if_pos hjc]
      · exact World.frozen?_alloc_new w.drew _ _ _
    · intro b o j h hne'
      have hbs := hne b o (by rw [h]; simp)
      exact ⟨by rw [hAlloc_old hbs]; exact h, hco b o hbs, hfo b o hbs, shape?_alloc_old w.drew _ (by have := hb.dom b o (by rw [h]; simp); exact this)⟩
    · intro b s p j h hne' hh
      have hlt := hb.dom b 0 (by rw [h 0]; simp)
      have := heap_alloc_old w.drew (.cells cs.toArray u) b hlt
      exact this.trans hh
end
end Go.Den
