/- The calculus and the walks, part 1: DenOp3, DenOp4, DenOp5, DenOp6, DenOp7, DenOp8, DenCall. -/
import Derived.Test.YtgdfegmdjdnbdaaP0
import Derived.Laws.Rows
/- Variables: made, read, written. -/
namespace Go.Den
open Go
set_option linter.unusedSectionVars false
set_option linter.unusedSimpArgs false
set_option linter.unusedVariables false

section
variable {P : Program} {tb : Tab} (hT : TabOk P tb)

include hT in
theorem sz_of_td {t u : TypeId} (h : td tb t = td tb u) (ho : td tb t ≠ .other) : sz tb t = sz tb u := by
  have h1 := hT.wf_td ho
  have h2 := hT.wf_td (t := u) (h ▸ ho)
  simp only [wfTI] at h1 h2
  rw [← h] at h2
  revert h1 h2 ho
  clear h
  generalize td tb t = d
  cases d <;> simp only [beq_iff_eq, ne_eq, reduceCtorEq, not_false_eq_true, not_true_eq_false, false_implies, true_implies, forall_const] <;> intro h1 h2
  all_goals first
    | exact h1.trans h2.symm
    | (rw [h1] at h2; exact Option.some.inj h2)
    | omega
include hT in
theorem Rd.cast {H : Gh} {t u cs x} (r : Rd tb H t cs x) (h : td tb t = td tb u) : Rd tb H u cs x := by
  cases r with
  | st a b c d => exact .st (h ▸ a) (b.trans (sz_of_td hT h (by rw [a]; simp))) c d
  | arr a b c d => exact .arr (h ▸ a) b c d
  | int a b => exact .int (h ▸ a) b
  | bool a => exact .bool (h ▸ a)
  | str a b => exact .str (h ▸ a) b
  | nilp a => exact .nilp (h ▸ a)
  | nilf a => exact .nilf (h ▸ a)
  | nili a => exact .nili (h ▸ a)
  | nilm a => exact .nilm (h ▸ a)
  | sl0 a => exact .sl0 (h ▸ a)
  | sl a b c d e f => exact .sl (h ▸ a) b c d e f
  | ifc a b c => exact .ifc (h ▸ a) b c
include hT in
theorem TRel.cast {H : Gh} {β σ t u cs x} (r : TRel tb H β σ t cs x) (h : td tb t = td tb u) : TRel tb H β σ u cs x := by
  cases r with
  | e a => exact .e (a.cast hT h)
  | st a b c d => exact .st (h ▸ a) (b.trans (sz_of_td hT h (by rw [a]; simp))) c d
  | arr a b c d => exact .arr (h ▸ a) b c d
  | nsl a => exact .nsl (h ▸ a)
  | bsl a b => exact .bsl (h ▸ a) (b.cast hT h)
  | lsl a b c => exact .lsl (h ▸ a) (b.cast hT h) c
  | ptr a b => exact .ptr (h ▸ a) b
  | fn a b c => exact .fn (h ▸ a) b c
  | msl a b c => exact .msl (h ▸ a) b c
  | tsl a b c d e => exact .tsl (h ▸ a) b c d e
  | mp a b c d e => exact .mp (h ▸ a) b c d e
theorem isAggT_of {t u : TypeId} (h : td tb t = td tb u) : isAggT tb t = isAggT tb u := by simp [isAggT, h]
theorem Rd.td_ne {H : Gh} {t cs x} (r : Rd tb H t cs x) : td tb t ≠ .other := by
  cases r <;> simp_all
theorem TRel.td_ne {H : Gh} {β σ t cs x} (r : TRel tb H β σ t cs x) : td tb t ≠ .other := by
  cases r with
  | e a => exact a.td_ne
  | _ => simp_all

/-! ### to persistent data -/
mutual
def toE : T → Option E
  | .e x => some x
  | .nsl => some (.sl [])
  | .bsl xs => some (.sl xs)
  | .lsl _ xs => some (.sl xs)
  | .st xs => match toEs xs with
    | some ys => some (.agg ys)
    | none => none
  | .ptr _ _ => none
  | .fn _ _ => none
  | .msl _ _ => none
  | .tsl _ => none
  | .mp _ => none
def toEs : List T → Option (List E)
  | [] => some []
  | x :: xs => match toE x with
    | some y => match toEs xs with
      | some ys => some (y :: ys)
      | none => none
    | none => none
end
theorem toEs_get : ∀ {xs : List T} {ys : List E}, toEs xs = some ys → ys.length = xs.length ∧ ∀ (i : Nat) (y : E), ys[i]? = some y → ∃ x, xs[i]? = some x ∧ toE x = some y
  | [], ys, h => by simp [toEs] at h; subst h; exact ⟨rfl, fun i y hy => by simp at hy⟩
  | x :: xs, ys, h => by
    unfold toEs at h
    split at h
    · rename_i y hy
      split at h
      · rename_i zs hz
        cases h
        obtain ⟨h1, h2⟩ := toEs_get hz
        refine ⟨by simp [h1], fun i z hz => ?_⟩
        cases i with
        | zero => simp at hz; subst hz; exact ⟨x, rfl, hy⟩
        | succ i => simpa using h2 i z (by simpa using hz)
      · cases h
    · cases h
theorem TRel.toE {H : Gh} {β σ t cs x} (r : TRel tb H β σ t cs x) : ∀ {y : E}, Den.toE x = some y → Rd tb H t cs y := by
  induction r with
  | e a => intro y h; simp [Den.toE] at h; subst h; exact a
  | st a b c _ ih =>
    intro y h
    unfold Den.toE at h
    split at h
    · rename_i ys hy; cases h
      obtain ⟨h1, h2⟩ := toEs_get hy
      exact .st a b (h1.trans c) fun i f z hf hz => by obtain ⟨x, hx, hxe⟩ := h2 i z hz; exact ih i f x hf hx hxe
    · cases h
  | arr a b c _ ih =>
    intro y h
    unfold Den.toE at h
    split at h
    · rename_i ys hy; cases h
      obtain ⟨h1, h2⟩ := toEs_get hy
      exact .arr a b (h1.trans c) fun i z hz => by obtain ⟨x, hx, hxe⟩ := h2 i z hz; exact ih i x hx hxe
    · cases h
  | nsl a => intro y h; simp [Den.toE] at h; subst h; exact .sl0 a
  | bsl a b => intro y h; simp [Den.toE] at h; subst h; exact b
  | lsl a b _ => intro y h; simp [Den.toE] at h; subst h; exact b
  | ptr => intro y h; simp [Den.toE] at h
  | fn => intro y h; simp [Den.toE] at h
  | msl => intro y h; simp [Den.toE] at h
  | tsl => intro y h; simp [Den.toE] at h
  | mp => intro y h; simp [Den.toE] at h

/-- What is loaded, as a temporary's datum. -/
def ldD (t : TypeId) : T → D
  | .ptr i p => .ptr i p
  | .st xs => match toE (.st xs) with
    | some e => .t t (.e e)
    | none => .t t (.st xs)
  | x => .t t x
theorem ldD_rel {H : Gh} {β σ t cs x v} (hv : VC tb t v cs) (r : TRel tb H β σ t cs x) : DRel tb H β σ v (ldD t x) := by
  cases x with
  | ptr i p =>
    cases r with
    | ptr a b =>
      have hv' := hv
      simp [VC, isAggT, a] at hv'
      subst hv'
      exact .ptr b
  | st xs =>
    simp only [ldD]
    split
    · rename_i e he; exact .t hv (.e (r.toE he))
    · exact .t hv r
  | e x => exact .t hv r
  | nsl => exact .t hv r
  | bsl xs => exact .t hv r
  | lsl i xs => exact .t hv r
  | fn f c => exact .t hv r
  | msl i n => exact .t hv r
  | tsl xs => exact .t hv r
  | mp i => exact .t hv r

/-! ### loads and stores of the model -/

theorem add_plain (b o n : Nat) : (⟨b, o, none⟩ : Addr).add n = ⟨b, o + n, none⟩ := by unfold Addr.add; split <;> simp_all

include hT in
theorem run_loadVar_all {t b o : Nat} {vs : List Value} (hl : vs.length = sz tb t) (ht : td tb t ≠ .other) :
    ∃ v, (∀ w, (∀ (j : Nat) v, vs[j]? = some v → w.cell? ⟨b, o + j, none⟩ = some v) → (loadVar t ⟨b, o, none⟩).run P w = .ok v w) ∧ VC tb t v vs := by
  have hlt := hT.lt_of_td ht
  simp only [loadVar, Sem.run_bind, run_isAgg_of hT ht, Result.andThen]
  cases ha : isAggT tb t with
  | true =>
    refine ⟨.agg vs.toArray, fun w hc => ?_, by simp [VC, ha]⟩
    simp only [if_true, Sem.run_bind, run_sizeOf_of hT hlt, Result.andThen, ← hl]
    rw [run_loadCells_list w ⟨b, o, none⟩ vs (fun j v hj => by rw [add_plain]; exact hc j v hj)]
    rfl
  | false =>
    have h1 := hT.sz_one ha ht
    rw [h1] at hl
    match vs, hl with
    | [v], _ =>
      refine ⟨v, fun w hc => ?_, by simp [VC, ha]⟩
      have := hc 0 v rfl
      simp only [Nat.add_zero] at this
      simp [this]

include hT in
theorem run_loadVar_cells {t b o : Nat} {vs : List Value} {w : World} (hl : vs.length = sz tb t) (ht : td tb t ≠ .other)
    (hc : ∀ (j : Nat) v, vs[j]? = some v → w.cell? ⟨b, o + j, none⟩ = some v) : ∃ v, (loadVar t ⟨b, o, none⟩).run P w = .ok v w ∧ VC tb t v vs := by
  obtain ⟨v, h1, h2⟩ := run_loadVar_all hT (P := P) (b := b) (o := o) hl ht
  exact ⟨v, h1 w hc, h2⟩

theorem TRel.one {H : Gh} {β σ t cs x} (hT : TabOk P tb) (r : TRel tb H β σ t cs x) : ∀ c ∈ cs, c.oneCell' = true := by
  have rdone : ∀ {t cs x}, Rd tb H t cs x → ∀ c ∈ cs, c.oneCell' = true := by
    intro t cs x r
    induction r with
    | @st t fs cs xs a b c d ih =>
      intro v hv
      obtain ⟨j, hj⟩ := List.getElem?_of_mem hv
      have hjl : j < sz tb t := by rw [← b]; exact (List.getElem?_eq_some_iff.1 hj).1
      obtain ⟨i, f, hf, h1, h2⟩ := fieldsEnd_cover (hT.sz_st a) j (Nat.zero_le _) hjl
      have hi : i < xs.length := by rw [c]; exact (List.getElem?_eq_some_iff.1 hf).1
      refine ih i f xs[i] hf (List.getElem?_eq_getElem hi) v (List.mem_of_getElem? (i := j - f.2) ?_)
      rw [seg_get (by omega), show f.2 + (j - f.2) = j by omega]; exact hj
    | @arr t n u cs xs a b c d ih =>
      intro v hv
      obtain ⟨j, hj⟩ := List.getElem?_of_mem hv
      have hjl : j < n * sz tb u := by rw [← b]; exact (List.getElem?_eq_some_iff.1 hj).1
      have hu : 0 < sz tb u := by rcases Nat.eq_zero_or_pos (sz tb u) with h | h; · rw [h] at hjl; omega
                                  · exact h
      have hq : j / sz tb u < n := (Nat.div_lt_iff_lt_mul hu).2 hjl
      have hi : j / sz tb u < xs.length := by omega
      refine ih _ xs[j / sz tb u] (List.getElem?_eq_getElem hi) v (List.mem_of_getElem? (i := j % sz tb u) ?_)
      rw [seg_get (Nat.mod_lt _ hu), Nat.mul_comm, Nat.div_add_mod]; exact hj
    | @ifc t u cs x v a b c ih => intro v' hv; simp at hv; subst hv; rfl
    | _ => intro v hv; simp [sv] at hv; subst hv; rfl
  induction r with
  | e a => exact rdone a
  | @st t fs cs xs a b c d ih =>
    intro v hv
    obtain ⟨j, hj⟩ := List.getElem?_of_mem hv
    have hjl : j < sz tb t := by rw [← b]; exact (List.getElem?_eq_some_iff.1 hj).1
    obtain ⟨i, f, hf, h1, h2⟩ := fieldsEnd_cover (hT.sz_st a) j (Nat.zero_le _) hjl
    have hi : i < xs.length := by rw [c]; exact (List.getElem?_eq_some_iff.1 hf).1
    refine ih i f xs[i] hf (List.getElem?_eq_getElem hi) v (List.mem_of_getElem? (i := j - f.2) ?_)
    rw [seg_get (by omega), show f.2 + (j - f.2) = j by omega]; exact hj
  | @arr t n u cs xs a b c d ih =>
    intro v hv
    obtain ⟨j, hj⟩ := List.getElem?_of_mem hv
    have hjl : j < n * sz tb u := by rw [← b]; exact (List.getElem?_eq_some_iff.1 hj).1
    have hu : 0 < sz tb u := by rcases Nat.eq_zero_or_pos (sz tb u) with h | h; · rw [h] at hjl; omega
                                · exact h
    have hq : j / sz tb u < n := (Nat.div_lt_iff_lt_mul hu).2 hjl
    have hi : j / sz tb u < xs.length := by omega
    refine ih _ xs[j / sz tb u] (List.getElem?_eq_getElem hi) v (List.mem_of_getElem? (i := j % sz tb u) ?_)
    rw [seg_get (Nat.mod_lt _ hu), Nat.mul_comm, Nat.div_add_mod]; exact hj
  | nsl => intro v hv; simp at hv; subst hv; rfl
  | bsl => intro v hv; simp at hv; subst hv; rfl
  | lsl a b _ => exact rdone b
  | ptr => intro v hv; simp at hv; subst hv; rfl
  | fn => intro v hv; simp at hv; subst hv; rfl
  | msl a b _ => obtain ⟨_, _, rfl, _⟩ := b; intro v hv; simp at hv; subst hv; rfl
  | tsl => intro v hv; simp at hv; subst hv; rfl
  | mp a b c d e => obtain ⟨_, rfl⟩ := e; intro v hv; simp at hv; subst hv; rfl
end
end Go.Den
/- Variables: the operations on them. -/
namespace Go.Den
open Go
set_option linter.unusedSectionVars false
set_option linter.unusedSimpArgs false
set_option linter.unusedVariables false

/-! ### a new block -/

def hAlloc (H : Gh) (B : Nat) (f : Nat → Own) : Gh := fun b o => if b = B then f o else H b o
theorem hAlloc_old {H : Gh} {B b o f} (h : b ≠ B) : hAlloc H B f b o = H b o := by simp [hAlloc, h]
theorem hAlloc_new {H : Gh} {B o f} : hAlloc H B f B o = f o := by simp [hAlloc]

theorem Ev.app {H : Gh} {β σ H' βx σx} (hl : β.length = σ.length) (hp : ∀ b o v, H b o = .pers v → H' b o = .pers v) : Ev H β σ H' (β ++ βx) (σ ++ σx) := by
  have hlt : ∀ (i : Nat) k, σ[i]? = some k → i < σ.length := fun i k h => (List.getElem?_eq_some_iff.1 h).1
  refine ⟨hp, ?_, ?_, ?_, ?_, ?_⟩
  · intro i ty x h
    have := hlt i _ h
    exact ⟨List.getElem?_append_left (by omega), x, by rw [List.getElem?_append_left this]; exact h⟩
  · intro i ety n h
    have := hlt i _ h
    exact ⟨n, by rw [List.getElem?_append_left this]; exact h, Nat.le_refl _, fun _ => List.getElem?_append_left (by omega)⟩
  · intro i s p h
    have := hlt i _ h
    exact ⟨List.getElem?_append_left (by omega), s, p, by rw [List.getElem?_append_left this]; exact h⟩
  · intro i ety o xs h
    have := hlt i _ h
    exact ⟨o, xs, by rw [List.getElem?_append_left this]; exact h, Nat.le_refl _, fun _ => List.getElem?_append_left (by omega)⟩
  · intro i k e es h
    have := hlt i _ h
    exact ⟨List.getElem?_append_left (by omega), es, by rw [List.getElem?_append_left this]; exact h⟩

theorem shape?_alloc_old (w : World) (ob : Obj) {b : Nat} (h : b < w.heap.size) : (w.alloc ob).shape? b = w.shape? b := by
  simp only [World.shape?]; rw [heap_alloc_old w ob b h]
theorem shape?_alloc_new (w : World) (cs : Array Value) (t : TypeId) : (w.alloc (.cells cs t)).shape? w.heap.size = some (t, cs.size) := by
  simp only [World.shape?]; rw [heap_alloc_new w]
theorem Stp.alloc {H : Gh} {w : World} (hd : ∀ b o, H b o ≠ .none → b < w.heap.size) (ob : Obj) (f : Nat → Own) : Stp H w (hAlloc H w.heap.size f) (w.alloc ob) := by
  refine ⟨rfl, rfl, rfl, by simp, ?_, ?_, ?_, ?_, ?_, fun b hb => shape?_alloc_old w ob hb⟩
  · exact fun b hb o _ => hAlloc_old (by omega)
  · intro b hb o i h; rw [hAlloc_old (by omega)] at h; exact ⟨i, h⟩
  · exact fun b hb _ => heap_alloc_old w ob b hb
  · exact fun b hb o _ => World.cell?_alloc_old w ob _ (by show b ≠ _; omega)
  · exact fun b hb o _ _ _ => World.frozen?_alloc_old w ob _ (by show b ≠ _; omega)

theorem Rel.alloc {tb H β σ w} (h : Rel tb H β σ w) (ob : Obj) (f : Nat → Own) (βx : List Value) (σx : List Blk) (hl : βx.length = σx.length)
    (hp : ∀ o v, f o = .pers v → (w.alloc ob).cell? ⟨w.heap.size, o, none⟩ = some v)
    (hx : ∀ (i : Nat) k bv, σx[i]? = some k → βx[i]? = some bv → BlkRel tb (hAlloc H w.heap.size f) (β ++ βx) (σ ++ σx) (w.alloc ob) (σ.length + i) bv k) :
    Rel tb (hAlloc H w.heap.size f) (β ++ βx) (σ ++ σx) (w.alloc ob) ∧ Ev H β σ (hAlloc H w.heap.size f) (β ++ βx) (σ ++ σx) := by
  have hne : ∀ b o, H b o ≠ .none → b ≠ w.heap.size := fun b o hb => by have := h.dom b o hb; omega
  have hev : Ev H β σ (hAlloc H w.heap.size f) (β ++ βx) (σ ++ σx) := Ev.app h.len fun b o v hb => by
    rw [hAlloc_old (hne b o (by rw [hb]; simp))]; exact hb
  refine ⟨⟨?_, ?_, by simp [h.len, hl], ?_⟩, hev⟩
  · intro b o v hb
    by_cases hbs : b = w.heap.size
    · subst hbs; rw [hAlloc_new] at hb; exact hp o v hb
    · rw [hAlloc_old hbs] at hb
      rw [World.cell?_alloc_old w ob _ hbs]; exact h.pers b o v hb
  · intro b o hb
    by_cases hbs : b = w.heap.size
    · subst hbs; simp
    · rw [hAlloc_old hbs] at hb
      have := h.dom b o hb
      simp; omega
  · intro i k bv hk hv
    rcases Nat.lt_or_ge i σ.length with hi | hi
    · rw [List.getElem?_append_left hi] at hk
      rw [List.getElem?_append_left (by rw [h.len]; exact hi)] at hv
      refine (h.blk i k bv hk hv).mono hev (fun b o hb => ?_) (fun b x hb hob hs => ?_)
      · have hb' := hne b o (by rw [hb]; simp)
        exact ⟨by rw [hAlloc_old hb']; exact hb, World.cell?_alloc_old w ob _ hb', fun _ _ => World.frozen?_alloc_old w ob _ hb', shape?_alloc_old w ob (h.dom b o (by rw [hb]; simp))⟩
      · have hb' := h.dom b 0 (by rw [hb 0]; simp)
        rw [heap_alloc_old w ob b hb']; exact hs
    · rw [List.getElem?_append_right hi] at hk
      rw [List.getElem?_append_right (by rw [h.len]; exact hi), h.len] at hv
      have := hx (i - σ.length) k bv hk hv
      rwa [show σ.length + (i - σ.length) = i by omega] at this

/-- A new variable with a datum in it. -/
theorem Rel.newTree {P : Program} {tb H β σ w} (h : Rel tb H β σ w) (hT : TabOk P tb) {ty : TypeId} {cs : List Value} {x : T} (hx : TRel tb H β σ ty cs x) (elem : TypeId) (he : elem = ty) :
    ∃ H', Rel tb H' (β ++ [.pointer (some ⟨w.heap.size, 0, none⟩)]) (σ ++ [.tree ty x]) (w.alloc (.cells cs.toArray elem)) ∧
      Ev H β σ H' (β ++ [.pointer (some ⟨w.heap.size, 0, none⟩)]) (σ ++ [.tree ty x]) ∧ Stp H w H' (w.alloc (.cells cs.toArray elem)) := by
  have hev := fun H' hp => Ev.app (H := H) (H' := H') (β := β) (σ := σ) (βx := [.pointer (some ⟨w.heap.size, 0, none⟩)]) (σx := [.tree ty x]) h.len hp
  have r := h.alloc (.cells cs.toArray elem) (fun o => if o < cs.length then .mine σ.length else .none) [.pointer (some ⟨w.heap.size, 0, none⟩)] [.tree ty x] rfl
    (fun o v hv => by split at hv <;> cases hv)
    (fun i k bv hk hv => by
      have hi : i = 0 := by have := (List.getElem?_eq_some_iff.1 hk).1; simp at this; omega
      subst hi
      simp at hk hv; subst hk; subst hv
      refine ⟨w.heap.size, 0, cs, rfl, hx.len hT, fun _ => ⟨rfl, by rw [shape?_alloc_new, he, ← hx.len hT]; simp⟩, fun j v hj => ?_, ?_⟩
      · have hjl : j < cs.length := (List.getElem?_eq_some_iff.1 hj).1
        refine ⟨?_, ?_, ?_⟩
        · simp [World.cell?_alloc_new, hj]
        · rw [hAlloc_new]; simp [hjl]
        · exact World.frozen?_alloc_new w _ _ _
      · refine hx.mono (Ev.app h.len fun b o v hb => ?_)
        have := h.dom b o (by rw [hb]; simp)
        rw [hAlloc_old (by omega)]; exact hb)
  exact ⟨_, r.1, r.2, Stp.alloc h.dom _ _⟩

theorem newPtr {tb β σ i b ty x} (hl : β.length = σ.length) (hi : i = σ.length) : PtrAt tb (β ++ [.pointer (some ⟨b, 0, none⟩)]) (σ ++ [.tree ty x]) i [] ⟨b, 0, none⟩ := by
  subst hi
  exact ⟨b, 0, ty, x, 0, ty, by simp [← hl], by simp, rfl, rfl⟩

/-! ### zero values -/

def zeroT (tb : Tab) : Nat → TypeId → T
  | 0, _ => .e .nilp
  | n + 1, t => match td tb t with
    | .int _ => .e (.int 0)
    | .bool => .e (.bool false)
    | .str => .e (.str [])
    | .ptr _ => .e .nilp
    | .sl _ => .nsl
    | .arr m u => match zeroT tb n u with
      | .e z => .e (.agg (List.replicate m z))
      | z => .st (List.replicate m z)
    | .st fs => match zeroEs (fs.map fun f => zeroT tb n f.1) with
      | some ys => .e (.agg ys)
      | none => .st (fs.map fun f => zeroT tb n f.1)
    | .ifc => .e .nili
    | .fn => .e .nilf
    | .mp _ _ => .e .nilm
    | .other => .e .nilp
where
  zeroEs : List T → Option (List E)
    | [] => some []
    | .e y :: xs => match zeroEs xs with
      | some ys => some (y :: ys)
      | none => none
    | _ => none
/-- The cells of a zero value. -/
def zc (tb : Tab) : Nat → TypeId → List Value
  | 0, _ => []
  | n + 1, t => match td tb t with
    | .int k => [.int k 0]
    | .bool => [.bool false]
    | .str => [.string ⟨⟨[]⟩⟩]
    | .ptr _ => [.pointer none]
    | .sl _ => [.slice none 0 0]
    | .arr m u => (List.replicate m (zc tb n u)).flatten
    | .st fs => (fs.map fun f => zc tb n f.1).flatten
    | .ifc => [.nilIface]
    | .fn => [.nilFunc]
    | .mp _ _ => [.map none]
    | .other => []
def plain (tb : Tab) : Nat → TypeId → Bool
  | 0, _ => false
  | n + 1, t => match td tb t with
    | .arr _ u => plain tb n u
    | .st fs => fs.all fun f => plain tb n f.1
    | .other => false
    | _ => true

theorem zeroEs_get : ∀ {xs : List T} {ys : List E}, zeroT.zeroEs xs = some ys → xs = ys.map .e
  | [], ys, h => by simp [zeroT.zeroEs] at h; subst h; rfl
  | .e y :: xs, ys, h => by
    simp only [zeroT.zeroEs] at h
    split at h
    · rename_i zs hz; cases h; rw [zeroEs_get hz]; rfl
    · cases h
  | .st _ :: _, _, h => by simp [zeroT.zeroEs] at h
  | .nsl :: _, _, h => by simp [zeroT.zeroEs] at h
  | .bsl _ :: _, _, h => by simp [zeroT.zeroEs] at h
  | .lsl _ _ :: _, _, h => by simp [zeroT.zeroEs] at h
  | .ptr _ _ :: _, _, h => by simp [zeroT.zeroEs] at h
  | .fn _ _ :: _, _, h => by simp [zeroT.zeroEs] at h
  | .msl _ _ :: _, _, h => by simp [zeroT.zeroEs] at h

theorem flatten_seg {css : List (List Value)} {n : Nat} (h : ∀ c ∈ css, c.length = n) (i : Nat) (c : List Value) (hi : css[i]? = some c) : seg css.flatten (i * n) n = c := by
  induction css generalizing i with
  | nil => simp at hi
  | cons d css ih =>
    have hd := h d (by simp)
    cases i with
    | zero => simp at hi; subst hi; simp [seg, hd]
    | succ i =>
      have := ih (fun c hc => h c (by simp [hc])) i (by simpa using hi)
      simp only [List.flatten_cons]
      unfold seg at this ⊢
      rw [show (i + 1) * n = d.length + i * n by rw [hd, Nat.add_mul]; omega, ← List.drop_drop, List.drop_left]; exact this
theorem flatten_fields {tb : Tab} (g : TypeId → List Value) : ∀ {fs : List (TypeId × Nat)} {n m : Nat}, fieldsEnd tb fs n = some m → (∀ f ∈ fs, (g f.1).length = sz tb f.1) →
    (fs.map fun f => g f.1).flatten.length = m - n ∧ n ≤ m ∧ ∀ (i : Nat) f, fs[i]? = some f → seg (fs.map fun f => g f.1).flatten (f.2 - n) (sz tb f.1) = g f.1
  | [], n, m, h, _ => by simp [fieldsEnd] at h; subst h; exact ⟨by simp, Nat.le_refl _, fun i f hf => by simp at hf⟩
  | e :: fs, n, m, h, hg => by
    simp only [fieldsEnd] at h
    split at h
    · rename_i hn
      obtain ⟨h1, h2, h3⟩ := flatten_fields g h fun f hf => hg f (by simp [hf])
      have he := hg e (by simp)
      refine ⟨by simp only [List.map_cons, List.flatten_cons, List.length_append, h1, he]; omega, by omega, fun i f hf => ?_⟩
      cases i with
      | zero => simp at hf; subst hf; simp [seg, hn, he]
      | succ i =>
        have hf' : fs[i]? = some f := by simpa using hf
        have := h3 i f hf'
        have hge := ((fieldsEnd_spec h).2 i f hf').1
        simp only [List.map_cons, List.flatten_cons]
        unfold seg at this ⊢
        rw [show f.2 - n = (g e.1).length + (f.2 - (n + sz tb e.1)) by rw [he]; omega, ← List.drop_drop, List.drop_left]; exact this
    · cases h

theorem zeroT_rel {P : Program} {tb : Tab} (hT : TabOk P tb) {H : Gh} {β σ} : ∀ (n : Nat) (t : TypeId), plain tb n t = true → TRel tb H β σ t (zc tb n t) (zeroT tb n t)
  | 0, t, h => by simp [plain] at h
  | n + 1, t, h => by
    unfold plain at h
    unfold zc zeroT
    have w0 : ∀ k : IntKind, k.wrap 0 = 0 := fun k => by cases k <;> rfl
    split at h
    · rename_i m u ht
      simp only [ht]
      have ih := zeroT_rel hT (H := H) (β := β) (σ := σ) n u h
      have hl := ih.len hT
      have hcs : ((List.replicate m (zc tb n u)).flatten).length = m * sz tb u := by simp [hl]
      have hseg : ∀ i, i < m → seg ((List.replicate m (zc tb n u)).flatten) (i * sz tb u) (sz tb u) = zc tb n u := fun i hi =>
        flatten_seg (by intro c hc; rw [List.eq_of_mem_replicate hc]; exact hl) i _ (by simp [hi])
      split
      · rename_i z hz
        rw [hz] at ih
        refine .e (.arr ht hcs (by simp) fun i x hx => ?_)
        obtain ⟨hi, rfl⟩ : i < m ∧ z = x := by simpa [List.getElem?_replicate] using hx
        rw [hseg i hi]; exact ih.rd
      · refine .arr ht hcs (by simp) fun i x hx => ?_
        obtain ⟨hi, rfl⟩ : i < m ∧ zeroT tb n u = x := by simpa [List.getElem?_replicate] using hx
        rw [hseg i hi]; exact ih
    · rename_i fs ht
      simp only [ht]
      have hall : ∀ f ∈ fs, plain tb n f.1 = true := List.all_eq_true.1 h
      have ih : ∀ f ∈ fs, TRel tb H β σ f.1 (zc tb n f.1) (zeroT tb n f.1) := fun f hf => zeroT_rel hT n f.1 (hall f hf)
      obtain ⟨h1, _, h3⟩ := flatten_fields (zc tb n) (hT.sz_st ht) fun f hf => (ih f hf).len hT
      have key : TRel tb H β σ t (fs.map fun f => zc tb n f.1).flatten (.st (fs.map fun f => zeroT tb n f.1)) := by
        refine .st ht (by rw [h1]; rfl) (by simp) fun i f x hf hx => ?_
        rw [show seg (fs.map fun f => zc tb n f.1).flatten f.2 (sz tb f.1) = zc tb n f.1 from h3 i f hf]
        simp [hf] at hx; subst hx
        exact ih f (List.mem_of_getElem? hf)
      split
      · rename_i ys hys
        rw [zeroEs_get hys] at key
        obtain ⟨k1, k2, k3⟩ := key.st_inv ht
        exact .e (.st ht k1 (by simpa using k2) fun i f y hf hy => (k3 i f (.e y) hf (by simp [hy])).rd)
      · exact key
    · cases h
    · cases ht : td tb t with
      | int k => exact .e (.int ht (w0 k))
      | bool => exact .e (.bool ht)
      | str => exact .e (.str (s := []) ht (by decide))
      | ptr u => exact .e (.nilp ht)
      | sl u => exact .nsl ht
      | ifc => exact .e (.nili ht)
      | fn => exact .e (.nilf ht)
      | mp k v => exact .e (.nilm ht)
      | arr m u => simp_all
      | st fs => simp_all
      | other => simp_all

end Go.Den
/- Variables: alloc, box, load, store, addresses of parts. -/
namespace Go.Den
open Go
set_option linter.unusedSectionVars false
set_option linter.unusedSimpArgs false
set_option linter.unusedVariables false

def zf : Nat := 12
def zeroAt (P : Program) (tb : Tab) (t : TypeId) : Option (List Value) := if plain tb zf t then ((P.info? t).bind (·.zero)).map (·.cells.toList) else none
def zeroWant (tb : Tab) (t : TypeId) : Option (List Value) := if plain tb zf t then some (zc tb zf t) else none
/-- The program's zero values are those that are reckoned off the table. -/
def ZeroOk (P : Program) (tb : Tab) : Prop := (List.range tb.rows.length).map (zeroAt P tb) = (List.range tb.rows.length).map (zeroWant tb)

theorem plain_ne {tb : Tab} {n t} (h : plain tb n t = true) : td tb t ≠ .other := by
  cases n with
  | zero => simp [plain] at h
  | succ n => intro he; simp [plain, he] at h

theorem ZeroOk.all {P : Program} {tb : Tab} (hT : TabOk P tb) (hz : ZeroOk P tb) {t : TypeId} (h : plain tb zf t = true) :
    ∃ v, (∀ w, (zeroValue t).run P w = .ok v w) ∧ v.cells.toList = zc tb zf t := by
  have hlt := hT.lt_of_td (plain_ne h)
  have he : ((List.range tb.rows.length).map (zeroAt P tb))[t]? = ((List.range tb.rows.length).map (zeroWant tb))[t]? := by rw [hz]
  rw [List.getElem?_map, List.getElem?_map, List.getElem?_range hlt] at he
  simp only [Option.map_some, Option.some.injEq, zeroAt, zeroWant, h, if_true] at he
  obtain ⟨i, hi, _, _⟩ := hT.info hlt
  rw [hi] at he
  simp only [Option.bind_some, Option.map_eq_some_iff] at he
  obtain ⟨v, hv, hc⟩ := he
  exact ⟨v, fun w => by simp [zeroValue, typeInfo, hi, hv], hc⟩
theorem ZeroOk.get {P : Program} {tb : Tab} (hT : TabOk P tb) (hz : ZeroOk P tb) {t : TypeId} (h : plain tb zf t = true) (w : World) :
    ∃ v, (zeroValue t).run P w = .ok v w ∧ v.cells.toList = zc tb zf t := by
  obtain ⟨v, h1, h2⟩ := hz.all hT h
  exact ⟨v, h1 w, h2⟩

structure Ok (C : Cx) : Prop where
  tab : TabOk C.P C.tb
  zero : ZeroOk C.P C.tb
  bt : td C.tb C.bt = .bool

section
variable {C : Cx} (hC : Ok C) {o : Oper} {env : Env} {σ : List Blk}
include hC

theorem Ok_alloc {elem : TypeId} (ho : o.op = .alloc elem) (hp : plain C.tb zf elem = true) :
    OpOk C o env σ ⟨True, .ptr σ.length [], σ ++ [.tree elem (zeroT C.tb zf elem)]⟩ := by
  refine OpOk_do (by simp [isVal, ho]) ?_
  intro H β a w hr he hd K Qx hK
  obtain ⟨v, hv, hc⟩ := hC.zero.get hC.tab hp w
  have hx := zeroT_rel hC.tab (H := H) (β := β) (σ := σ) zf elem hp
  obtain ⟨H', r1, r2, r3⟩ := hr.newTree hC.tab hx elem rfl
  have hrun : (execOp a.eval o).run C.P w = .ok (.value (.pointer (some ⟨w.heap.size, 0, none⟩))) (w.alloc (.cells (zc C.tb zf elem).toArray elem)) := by
    rw [← hc]
    simp [execOp, ho, Instr.alloc, hv, newVar, newRow]
  simp only [Oper.wp, hrun, Oper.upon]
  exact hK _ _ _ H' _ _ ⟨rfl, rfl⟩ r1 (.ptr (newPtr hr.len rfl)) r3 r2

/-- A datum as a tree: for a store, a box, a part. -/
def asT (tb : Tab) (t : TypeId) : D → Option T
  | .t u x => match same tb u t with | true => some x | false => none
  | .ptr i p => match td tb t with | .ptr _ => some (.ptr i p) | _ => none
  | .kb u b => match same tb u t with | true => some (.e (.bool b)) | false => none
  | _ => none
omit hC in
theorem VC.cells {tb : Tab} {t v cs} {H β x} (hv : VC tb t v cs) (r : TRel tb H β σ t cs x) (hT : TabOk C.P tb) : v.cells = cs.toArray := by
  unfold VC at hv
  split at hv
  · subst hv; rfl
  · subst hv
    have := r.one hT v (by simp)
    cases v <;> simp_all [Value.cells, Value.oneCell']
theorem asT_rel {t v d x H β} (hv : DRel C.tb H β σ v d) (h : asT C.tb t d = some x) : ∃ cs, VC C.tb t v cs ∧ TRel C.tb H β σ t cs x := by
  unfold asT at h
  split at h
  · split at h
    · rename_i hs; cases h
      have hs' := same_td hs
      cases hv with
      | @t ty v cs x a b => exact ⟨cs, by simpa [VC, isAggT_of hs'] using a, b.cast hC.tab hs'⟩
    · cases h
  · split at h
    · rename_i ht; cases h
      cases hv with
      | ptr a => exact ⟨[_], by simp [VC, isAggT, ht], .ptr ht a⟩
    · cases h
  · split at h
    · rename_i hs; cases h
      have hs' := same_td hs
      cases hv with
      | kb a => exact ⟨[_], by simp [VC, isAggT, hs'.symm.trans a], .e (.bool (hs'.symm.trans a))⟩
    · cases h
  · cases h

theorem Ok_box {elem : TypeId} {x : Operand} {d : D} {y : T} (ho : o.op = .box elem x) (hx : opd C.tb env elem x = some d) (hy : asT C.tb elem d = some y) :
    OpOk C o env σ ⟨True, .ptr σ.length [], σ ++ [.tree elem y]⟩ := by
  refine OpOk_do (by simp [isVal, ho]) ?_
  intro H β a w hr he hd K Qx hK
  obtain ⟨cs, hv, ht⟩ := asT_rel hC (opd_rel he hx) hy
  obtain ⟨H', r1, r2, r3⟩ := hr.newTree hC.tab ht elem rfl
  have hcell := hv.cells ht hC.tab
  have hrun : (execOp a.eval o).run C.P w = .ok (.value (.pointer (some ⟨w.heap.size, 0, none⟩))) (w.alloc (.cells cs.toArray elem)) := by
    simp [execOp, ho, Instr.box, newVar, newRow, hcell]
  simp only [Oper.wp, hrun, Oper.upon]
  exact hK _ _ _ H' _ _ ⟨rfl, rfl⟩ r1 (.ptr (newPtr hr.len rfl)) r3 r2

omit hC in
theorem DRel.ptr_inv {tb H β v i p} (h : DRel tb H β σ v (.ptr i p)) : ∃ a, v = .pointer (some a) ∧ PtrAt tb β σ i p a := by
  cases h with
  | ptr a => exact ⟨_, rfl, a⟩

/-- The cells behind a pointer of our own. -/
theorem Rel.at {H β w i p a} (hr : Rel C.tb H β σ w) (hp : PtrAt C.tb β σ i p a) : ∃ b off ty X o' u, a = ⟨b, off + o', none⟩ ∧ σ[i]? = some (.tree ty X) ∧ β[i]? = some (.pointer (some ⟨b, off, none⟩)) ∧ offT C.tb ty p = some (o', u) ∧ tyAt C.tb ty p = u ∧
    ∃ cs, cs.length = sz C.tb ty ∧ (∀ (j : Nat) v, cs[j]? = some v → w.cell? ⟨b, off + j, none⟩ = some v ∧ H b (off + j) = .mine i ∧ w.frozen? ⟨b, off + j, none⟩ = false) ∧ TRel C.tb H β σ ty cs X ∧ (0 < sz C.tb ty → off = 0 ∧ w.shape? b = some (ty, sz C.tb ty)) := by
  obtain ⟨b, off, ty, X, o', u, e1, e2, e3, e4⟩ := hp
  have hb := hr.blk i _ _ e2 e1
  obtain ⟨b2, off2, cs, f1, f2, f0, f3, f4⟩ := hb
  cases f1
  exact ⟨b, off, ty, X, o', u, e4, e2, e1, e3, tyAt_of e3, cs, f2, f3, f4, f0⟩

theorem Ok_load {t : TypeId} {s i : Nat} {p : List Nat} {ty : TypeId} {X : T} (ho : o.op = .load t (.tmp s)) (hs : getD env s = .ptr i p) (hi : σ[i]? = some (.tree ty X))
    (ht : same C.tb (tyAt C.tb ty p) t = true) : OpOk C o env σ ⟨True, ldD t (getT p X), σ⟩ :=
  OpOk_val fun H β a w hr he => by
    have hv := he.get s
    rw [hs] at hv
    obtain ⟨ad, hv, hp⟩ := hv.ptr_inv
    obtain ⟨b, off, ty', X', o', u, rfl, e2, e1, e3, e4, cs, f2, f3, f4, _⟩ := hr.at hC hp
    rw [hi] at e2; cases e2
    rw [e4] at ht
    have ht' := same_td ht
    have hpart := (f4.part hC.tab e3).cast hC.tab ht'
    have hle := offT_le hC.tab e3
    obtain ⟨v, hrun, hvc⟩ := run_loadVar_all hC.tab (P := C.P) (b := b) (o := off + o') (vs := seg cs o' (sz C.tb u)) (hpart.len hC.tab) hpart.td_ne
    refine ⟨v, fun w' hw' => ?_, ldD_rel hvc hpart⟩
    have hrs : rsOf env o.op = [i] := by simp [rsOf, ho, hs]
    rw [hrs] at hw'
    have hrun := hrun w' (fun j v hj => by
      have hjl : j < sz C.tb u := by
        rcases Nat.lt_or_ge j (sz C.tb u) with h | h
        · exact h
        · rw [List.getElem?_eq_none (by simp [seg]; omega)] at hj; cases hj
      rw [seg_get hjl] at hj
      have := hw' _ _ _ (f3 (o' + j) v hj).1 (.inr ⟨i, by simp, (f3 (o' + j) v hj).2.1⟩)
      rwa [← Nat.add_assoc] at this)
    simp [execOp, ho, Act.eval, hv, Instr.loadAt, Instr.sureAddr, hrun]

theorem Ok_loadE {t : TypeId} {s j : Nat} {u : TypeId} {xs : List E} {p : List Nat} (ho : o.op = .load t (.tmp s)) (hs : getD env s = .el u xs j p)
    (ht : same C.tb (tyAt C.tb u p) t = true) : OpOk C o env σ ⟨True, .t t (.e (getE p (xs.getD j .nilp))), σ⟩ :=
  OpOk_val fun H β a w hr he => by
    have hv := he.get s
    rw [hs] at hv
    generalize hx : a.tmps.getD s undef = vx at hv
    cases hv with
    | @el u b off cs xs j p o' vt h1 h2 h3 h4 h5 =>
      rw [tyAt_of h5] at ht
      have ht' := same_td ht
      have hel := h3 j xs[j] (List.getElem?_eq_getElem h4)
      have hpart := (hel.part hC.tab h5).cast hC.tab ht'
      have hle := offT_le hC.tab h5
      have hin : j * sz C.tb u + sz C.tb u ≤ cs.length := by
        rw [h1]; have := Nat.mul_le_mul_right (sz C.tb u) (show j + 1 ≤ xs.length from h4); rwa [Nat.add_mul, Nat.one_mul] at this
      rw [seg_seg hle] at hpart
      obtain ⟨v, hrun, hvc⟩ := run_loadVar_all hC.tab (P := C.P) (b := b) (o := off + (j * sz C.tb u + o')) (hpart.len hC.tab) hpart.td_ne
      refine ⟨v, fun w' hw' => ?_, ?_⟩
      have hrun := hrun w' (fun i v hi => by
        have hil : i < sz C.tb vt := by
          rcases Nat.lt_or_ge i (sz C.tb vt) with h | h
          · exact h
          · rw [List.getElem?_eq_none (by simp [seg]; omega)] at hi; cases hi
        rw [seg_get hil] at hi
        have := hw' _ _ _ (hr.pers _ _ _ (h2 _ v hi)) (.inl ⟨_, h2 _ v hi⟩)
        rwa [← Nat.add_assoc] at this)
      · simp [execOp, ho, Act.eval, hx, Instr.loadAt, Instr.sureAddr, hrun]
      · have hg : xs.getD j .nilp = xs[j] := by simp [h4]
        rw [hg]
        exact .t hvc (.e hpart)

end
end Go.Den
/- A store into a variable; addresses of parts. -/
namespace Go.Den
open Go
set_option linter.unusedSectionVars false
set_option linter.unusedSimpArgs false
set_option linter.unusedVariables false

theorem setCells_os (b : Nat) : ∀ (vs : List Value) (o : Nat) (w : World), (w.setCells b o vs).os = w.os ∧ (w.setCells b o vs).tape = w.tape ∧ (w.setCells b o vs).output = w.output ∧ (w.setCells b o vs).heap.size = w.heap.size
  | [], _, _ => ⟨rfl, rfl, rfl, rfl⟩
  | v :: r, o, w => by
    obtain ⟨h1, h2, h3, h4⟩ := setCells_os b r (o + 1) (w.setCell ⟨b, o, none⟩ v)
    exact ⟨h1, h2, h3, h4.trans (World.size_setCell _ _ _)⟩
theorem setCells_heap (b : Nat) : ∀ (vs : List Value) (o : Nat) (w : World) (k : Nat), k ≠ b → (w.setCells b o vs).heap[k]? = w.heap[k]?
  | [], _, _, _, _ => rfl
  | v :: r, o, w, k, h => (setCells_heap b r (o + 1) _ k h).trans (heap_setCell_other w _ k v h)
theorem setCells_cell {b o : Nat} {vs : List Value} {w : World} {b' o' : Nat} (h : b' = b → o' < o ∨ o + vs.length ≤ o') :
    (w.setCells b o vs).cell? ⟨b', o', none⟩ = w.cell? ⟨b', o', none⟩ := World.cell?_setCells_out b vs o w ⟨b', o', none⟩ fun e _ => h e

theorem shape?_setCell (w : World) (a : Addr) (v : Value) (b : Nat) : (w.setCell a v).shape? b = w.shape? b := by
  simp only [World.shape?, World.setCell, Array.getElem?_modify]
  by_cases h : a.block = b
  · rw [if_pos h]
    cases w.heap[b]? with
    | none => rfl
    | some ob =>
      cases ob <;> try rfl
      simp only [Option.map_some]
      split <;> simp
  · rw [if_neg h]
theorem shape?_setCells (b : Nat) : ∀ (vs : List Value) (o : Nat) (w : World) (b' : Nat), (w.setCells b o vs).shape? b' = w.shape? b'
  | [], _, _, _ => rfl
  | v :: r, o, w, b' => (shape?_setCells b r (o + 1) _ b').trans (shape?_setCell _ _ _ _)

/-- Writing a run of cells that are block i's own. -/
theorem Rel.write {tb H β σ w i} (h : Rel tb H β σ w) {b o : Nat} {vs : List Value} (hm : ∀ j, j < vs.length → H b (o + j) = .mine i) {k : Blk} {bv : Value} (hβ : β[i]? = some bv)
    (hi : ∃ k0, σ[i]? = some k0 ∧ (∀ ty x, k0 = .tree ty x → ∃ x', k = .tree ty x') ∧ (∀ ety n, k0 = .row ety n → k = .row ety n) ∧ (∀ s p, k0 = .iter s p → k = .iter s p) ∧ (∀ u o xs, k0 = .mrow u o xs → ∃ xs', k = .mrow u o xs' ∧ xs'.length = xs.length) ∧ (∀ kt e es, k0 = .mp kt e es → ∃ es', k = .mp kt e es'))
    (hk : Ev H β σ H β (σ.set i k) → BlkRel tb H β (σ.set i k) (w.setCells b o vs) i bv k) :
    Rel tb H β (σ.set i k) (w.setCells b o vs) ∧ Ev H β σ H β (σ.set i k) ∧ Stp H w H (w.setCells b o vs) := by
  obtain ⟨k0, h0, ht, hrw, hit, hmr, hmp⟩ := hi
  have hil : i < σ.length := (List.getElem?_eq_some_iff.1 h0).1
  have hget : ∀ (j : Nat) kj, σ[j]? = some kj → j ≠ i → (σ.set i k)[j]? = some kj := fun j kj hj hne => by rw [List.getElem?_set_ne (Ne.symm hne)]; exact hj
  have hself : (σ.set i k)[i]? = some k := by simp [hil]
  have hev : Ev H β σ H β (σ.set i k) := by
    refine ⟨fun _ _ _ e => e, ?_, ?_, ?_, ?_, ?_⟩
    · intro j ty x hj
      refine ⟨rfl, ?_⟩
      by_cases hji : j = i
      · subst hji; rw [h0] at hj; cases hj
        obtain ⟨x', rfl⟩ := ht ty x rfl
        exact ⟨x', hself⟩
      · exact ⟨x, hget j _ hj hji⟩
    · intro j ety n hj
      by_cases hji : j = i
      · subst hji; rw [h0] at hj; cases hj
        have := hrw ety n rfl; subst this
        exact ⟨n, hself, Nat.le_refl _, fun _ => rfl⟩
      · exact ⟨n, hget j _ hj hji, Nat.le_refl _, fun _ => rfl⟩
    · intro j s p hj
      refine ⟨rfl, ?_⟩
      by_cases hji : j = i
      · subst hji; rw [h0] at hj; cases hj
        have := hit s p rfl; subst this
        exact ⟨s, p, hself⟩
      · exact ⟨s, p, hget j _ hj hji⟩
    · intro j u o xs hj
      by_cases hji : j = i
      · subst hji; rw [h0] at hj; cases hj
        obtain ⟨xs', rfl, hl⟩ := hmr u o xs rfl
        exact ⟨o, xs', hself, by omega, fun _ => rfl⟩
      · exact ⟨o, xs, hget j _ hj hji, Nat.le_refl _, fun _ => rfl⟩
    · intro j kt e es hj
      refine ⟨rfl, ?_⟩
      by_cases hji : j = i
      · subst hji; rw [h0] at hj; cases hj
        obtain ⟨es', rfl⟩ := hmp kt e es rfl
        exact ⟨es', hself⟩
      · exact ⟨es, hget j _ hj hji⟩
  have hcell : ∀ b' o', H b' o' ≠ .mine i → (w.setCells b o vs).cell? ⟨b', o', none⟩ = w.cell? ⟨b', o', none⟩ := fun b' o' hne => setCells_cell fun e => by
    subst e
    rcases Nat.lt_or_ge o' o with h1 | h1
    · exact .inl h1
    · rcases Nat.lt_or_ge o' (o + vs.length) with h2 | h2
      · exact absurd (by have := hm (o' - o) (by omega); rwa [show o + (o' - o) = o' by omega] at this) hne
      · exact .inr h2
  have hsz := setCells_os b vs o w
  refine ⟨⟨fun b' o' v hb => (hcell b' o' (by rw [hb]; simp)).trans (h.pers b' o' v hb), fun b' o' hb => by rw [hsz.2.2.2]; exact h.dom b' o' hb, by simp [h.len], ?_⟩, hev, ?_⟩
  · intro j kj bvj hj hvj
    by_cases hji : j = i
    · subst hji
      rw [hself] at hj; cases hj
      rw [hβ] at hvj; cases hvj
      exact hk hev
    · rw [List.getElem?_set_ne (Ne.symm hji)] at hj
      refine (h.blk j kj bvj hj hvj).mono hev (fun b' o' hb => ⟨hb, hcell b' o' (by rw [hb]; simp; omega), fun _ _ => World.frozen?_setCells b vs o w _, shape?_setCells b vs o w _⟩) (fun b' x hb hob hs => ?_)
      have hbb : b' ≠ b ∨ vs.length = 0 := by
        rcases Nat.eq_zero_or_pos vs.length with hz | hz
        · exact .inr hz
        · refine .inl fun e => ?_
          subst e
          have h1 := hm 0 hz
          rw [hb] at h1; cases h1; exact hji rfl
      rcases hbb with hbb | hbb
      · rw [setCells_heap b vs o w b' hbb]; exact hs
      · rw [List.length_eq_zero_iff.1 hbb]; exact hs
  · refine ⟨hsz.1, hsz.2.1, hsz.2.2.1, by rw [hsz.2.2.2]; omega, fun _ _ _ _ => rfl, fun _ _ _ i h => ⟨i, h⟩, ?_, ?_, ?_, fun b' _ => shape?_setCells b vs o w _⟩
    · intro b' hb' hn
      rcases Nat.eq_zero_or_pos vs.length with hz | hz
      · rw [List.length_eq_zero_iff.1 hz]; rfl
      · exact setCells_heap b vs o w b' fun e => by subst e; exact hn _ _ (hm 0 hz)
    · exact fun b' hb' o' hn => hcell b' o' (hn i)
    · exact fun b' hb' o' _ _ hn => World.frozen?_setCells b vs o w _

section
variable {C : Cx} (hC : Ok C) {o : Oper} {env : Env} {σ : List Blk}
include hC

theorem run_storeVar {t b off : Nat} {v : Value} {vs : List Value} {w : World} (hc : v.cells = vs.toArray) (hl : vs.length = sz C.tb t) (ht : td C.tb t ≠ .other)
    (h1 : ∀ c ∈ vs, c.oneCell' = true) (hcell : ∀ j, j < vs.length → (w.cell? ⟨b, off + j, none⟩).isSome = true) (hf : ∀ j, j < vs.length → w.frozen? ⟨b, off + j, none⟩ = false) :
    (storeVar t ⟨b, off, none⟩ v).run C.P w = .ok () (w.setCells b off vs) := by
  have hlt := hC.tab.lt_of_td ht
  simp only [storeVar, Sem.run_bind, run_sizeOf_of hC.tab hlt, Result.andThen, hc]
  have := run_storeCells_cells (P := C.P) b off vs 0 w (by simpa using hcell) (by simpa using hf) h1
  simp only [Nat.add_zero] at this
  simp [hl, this]

theorem Ok_store {t : TypeId} {s i : Nat} {p : List Nat} {ty : TypeId} {X : T} {x : Operand} {d : D} {y : T} (ho : o.op = .store t (.tmp s) x) (hs : getD env s = .ptr i p) (hi : σ[i]? = some (.tree ty X))
    (ht : same C.tb t (tyAt C.tb ty p) = true) (hx : opd C.tb env t x = some d) (hy : asT C.tb t d = some y) :
    OpOk C o env σ ⟨True, .any, σ.set i (.tree ty (setT p y X))⟩ := by
  refine OpOk_do (by simp [isVal, ho]) ?_
  intro H β a w hr he hd K Qx hK
  have hv := he.get s
  rw [hs] at hv
  obtain ⟨ad, hv, hp⟩ := hv.ptr_inv
  obtain ⟨b, off, ty', X', o', u, rfl, e2, e1, e3, e4, cs, f2, f3, f4, f0⟩ := hr.at hC hp
  rw [hi] at e2; cases e2
  rw [e4] at ht
  have ht' := same_td ht
  obtain ⟨vs, hvc, hvt⟩ := asT_rel hC (opd_rel he hx) hy
  have hvu := hvt.cast hC.tab ht'
  have hle := offT_le hC.tab e3
  have hvl := hvu.len hC.tab
  have hcs : ∀ j, j < vs.length → ∃ v, w.cell? ⟨b, off + o' + j, none⟩ = some v ∧ H b (off + o' + j) = .mine i ∧ w.frozen? ⟨b, off + o' + j, none⟩ = false := fun j hj => by
    have hlt : o' + j < cs.length := by omega
    have := f3 (o' + j) cs[o' + j] (List.getElem?_eq_getElem hlt)
    rw [← Nat.add_assoc] at this
    exact ⟨_, this⟩
  have hcells := hvc.cells hvt hC.tab
  have hst := run_storeVar hC (t := t) (b := b) (off := off + o') (w := w) hcells (hvt.len hC.tab) hvt.td_ne (hvt.one hC.tab)
    (fun j hj => by obtain ⟨v, h1, _⟩ := hcs j hj; simp [h1]) (fun j hj => by obtain ⟨v, _, _, h3⟩ := hcs j hj; exact h3)
  have hrun : (execOp a.eval o).run C.P w = .ok .skip (w.setCells b (off + o') vs) := by
    have hve : a.eval (.tmp s) = .pointer (some ⟨b, off + o', none⟩) := hv
    simp [execOp, ho, hve, Instr.storeAt, Instr.sureAddr, hst]
  have r := hr.write (i := i) (b := b) (o := off + o') (vs := vs) (fun j hj => by obtain ⟨v, _, h2, _⟩ := hcs j hj; exact h2) (k := .tree ty (setT p y X)) e1
    ⟨_, hi, fun ty2 x2 h2 => by cases h2; exact ⟨_, rfl⟩, fun _ _ h2 => (by cases h2), fun _ _ h2 => (by cases h2), fun _ _ _ h2 => (by cases h2), fun _ _ _ h2 => (by cases h2)⟩
    (fun hev => by
      refine ⟨b, off, splice cs o' vs, rfl, by rw [splice_length (by omega)]; exact f2, fun hz => ⟨(f0 hz).1, (shape?_setCells b vs _ w _).trans (f0 hz).2⟩, fun j v hj => ?_, (f4.put hC.tab e3 hvu).mono hev⟩
      rw [splice_get (by omega)] at hj
      have hfz : ∀ q, (w.setCells b (off + o') vs).frozen? ⟨b, q, none⟩ = w.frozen? ⟨b, q, none⟩ := fun q => World.frozen?_setCells b vs _ w _
      by_cases h1 : j < o'
      · rw [if_pos h1] at hj
        obtain ⟨g1, g2, g3⟩ := f3 j v hj
        exact ⟨by rw [setCells_cell (fun _ => .inl (by omega))]; exact g1, g2, (hfz _).trans g3⟩
      · rw [if_neg h1] at hj
        by_cases h2 : j < o' + vs.length
        · rw [if_pos h2] at hj
          obtain ⟨u1, g1, g2, g3⟩ := hcs (j - o') (by omega)
          have hidx : off + o' + (j - o') = off + j := by omega
          rw [hidx] at g1 g2 g3
          refine ⟨?_, g2, (hfz _).trans g3⟩
          have := World.cell?_setCells_in b vs (off + o') w (fun q hq => by obtain ⟨v, k1, _⟩ := hcs q hq; simp [k1]) (j - o') (by omega)
          rw [hidx] at this
          rw [this]
          rw [List.getElem?_eq_getElem (by omega)] at hj; exact hj
        · rw [if_neg h2] at hj
          obtain ⟨g1, g2, g3⟩ := f3 j v hj
          exact ⟨by rw [setCells_cell (fun _ => .inr (by omega))]; exact g1, g2, (hfz _).trans g3⟩)
  simp only [Oper.wp, hrun, Oper.upon]
  exact hK _ _ _ H _ _ ⟨rfl, rfl⟩ r.1 .any r.2.2 r.2.1

/-! ### addresses of parts -/

omit hC in
theorem offT_snoc {tb : Tab} {k : Nat} : ∀ {p : List Nat} {t : TypeId} {o1 : Nat} {u : TypeId} {o2 : Nat} {v : TypeId}, offT tb t p = some (o1, u) → offT tb u [k] = some (o2, v) → offT tb t (p ++ [k]) = some (o1 + o2, v)
  | [], t, o1, u, o2, v, h1, h2 => by simp [offT] at h1; obtain ⟨rfl, rfl⟩ := h1; simpa using h2
  | q :: p, t, o1, u, o2, v, h1, h2 => by
    unfold offT at h1
    rw [List.cons_append]; unfold offT
    split at h1
    · rename_i fs ht
      simp only [ht]
      split at h1
      · rename_i f hf
        cases ho : offT tb f.1 p with
        | none => simp [ho] at h1
        | some r =>
          simp [ho] at h1; obtain ⟨rfl, rfl⟩ := h1
          rw [offT_snoc (o1 := r.1) (u := r.2) ho h2]; simp [Nat.add_assoc]
      · cases h1
    · rename_i n z ht
      simp only [ht]
      split at h1
      · rename_i hk
        rw [if_pos hk]
        cases ho : offT tb z p with
        | none => simp [ho] at h1
        | some r =>
          simp [ho] at h1; obtain ⟨rfl, rfl⟩ := h1
          rw [offT_snoc (o1 := r.1) (u := r.2) ho h2]; simp [Nat.add_assoc]
      · cases h1
    · cases h1

theorem run_fieldPlace {b off : Nat} {f : Field} {w : World} (h : sz C.tb f.type ≠ 0) (ht : f.type < C.tb.rows.length) : (fieldPlace ⟨b, off, none⟩ f).run C.P w = .ok ⟨b, off + f.offset, none⟩ w := by
  simp [fieldPlace, run_sizeOf_of hC.tab ht, h, add_plain]

theorem run_fieldAt {s b off k : Nat} {fs : List (TypeId × Nat)} {f : TypeId × Nat} {w : World} (hs : td C.tb s = .st fs) (hf : fs[k]? = some f) (hz : sz C.tb f.1 ≠ 0) :
    (Instr.fieldAt s (.pointer (some ⟨b, off, none⟩)) k).run C.P w = .ok (.pointer (some ⟨b, off + f.2, none⟩)) w := by
  obtain ⟨gs, hg, he⟩ := hC.tab.st hs
  have hk : k < gs.size := by
    have := (List.getElem?_eq_some_iff.1 hf).1
    rw [← he] at this; simpa using this
  have hgf : f = (gs[k].type, gs[k].offset) := by
    rw [← he] at hf
    simp [hk] at hf
    exact hf.symm
  subst hgf
  have hlt : gs[k].type < C.tb.rows.length := by
    rcases Nat.lt_or_ge gs[k].type C.tb.rows.length with h | h
    · exact h
    · exact absurd (by simp [sz, List.getElem?_eq_none h]) hz
  simp [Instr.fieldAt, run_underlying_of hC.tab hg, Array.getElem?_eq_getElem hk, Instr.sureAddr, run_fieldPlace hC hz hlt]

theorem Ok_fieldAddr {st s i k : Nat} {p : List Nat} {ty : TypeId} {X : T} {fs : List (TypeId × Nat)} {f : TypeId × Nat} (ho : o.op = .fieldAddr st (.tmp s) k) (hs : getD env s = .ptr i p) (hi : σ[i]? = some (.tree ty X))
    (ht : same C.tb (tyAt C.tb ty p) st = true) (hst : td C.tb st = .st fs) (hf : fs[k]? = some f) (hz : sz C.tb f.1 ≠ 0) : OpOk C o env σ ⟨True, .ptr i (p ++ [k]), σ⟩ :=
  OpOk_val fun H β a w hr he => by
    have hv := he.get s
    rw [hs] at hv
    obtain ⟨ad, hv, b, off, ty', X', o', u, e1, e2, e3, e4⟩ := hv.ptr_inv
    rw [hi] at e2; cases e2
    subst e4
    rw [tyAt_of e3] at ht
    have hu : td C.tb u = .st fs := (same_td ht).trans hst
    refine ⟨.pointer (some ⟨b, off + o' + f.2, none⟩), fun w' hw' => ?_, .ptr ⟨b, off, ty, X, o' + f.2, f.1, e1, hi, offT_snoc e3 (by simp [offT, hu, hf]), by simp [Nat.add_assoc]⟩⟩
    simp [execOp, ho, Act.eval, hv, run_fieldAt hC hst hf hz]

theorem Ok_fieldAddrE {st s j k : Nat} {u : TypeId} {xs : List E} {p : List Nat} {fs : List (TypeId × Nat)} {f : TypeId × Nat} (ho : o.op = .fieldAddr st (.tmp s) k) (hs : getD env s = .el u xs j p)
    (ht : same C.tb (tyAt C.tb u p) st = true) (hst : td C.tb st = .st fs) (hf : fs[k]? = some f) (hz : sz C.tb f.1 ≠ 0) : OpOk C o env σ ⟨True, .el u xs j (p ++ [k]), σ⟩ :=
  OpOk_val fun H β a w hr he => by
    have hv := he.get s
    rw [hs] at hv
    generalize hx : a.tmps.getD s undef = vx at hv
    cases hv with
    | @el u b off cs xs j p o' vt h1 h2 h3 h4 h5 =>
      rw [tyAt_of h5] at ht
      have hu : td C.tb vt = .st fs := (same_td ht).trans hst
      refine ⟨.pointer (some ⟨b, off + (j * sz C.tb u + o') + f.2, none⟩), fun w' hw' => ?_, ?_⟩
      · simp [execOp, ho, Act.eval, hx, run_fieldAt hC hst hf hz]
      · have := DRel.el (tb := C.tb) (H := H) (β := β) (σ := σ) h1 h2 h3 h4 (offT_snoc h5 (k := k) (by simp [offT, hu, hf]; exact ⟨rfl, rfl⟩))
        rw [show off + (j * sz C.tb u + o') + f.2 = off + (j * sz C.tb u + (o' + f.2)) by omega]
        exact this

end
end Go.Den
/- Operators, conversions, lengths, elements: the operations. -/
namespace Go.Den
open Go
set_option linter.unusedSectionVars false
set_option linter.unusedSimpArgs false
set_option linter.unusedVariables false

section
variable {C : Cx} (hC : Ok C) {o : Oper} {env : Env} {σ : List Blk}

theorem eqGuard_int {P : Program} {op : BinOp} {t x y k k' a b} (w : World) : (eqGuard op t x y (.int k a) (.int k' b)).run P w = .ok () w := by cases op <;> rfl
theorem eqGuard_str {P : Program} {op : BinOp} {t x y a b} (w : World) : (eqGuard op t x y (sv a) (sv b)).run P w = .ok () w := by cases op <;> rfl
theorem eqGuard_bool {P : Program} {op : BinOp} {t x y a b} (w : World) : (eqGuard op t x y (.bool a) (.bool b)).run P w = .ok () w := by cases op <;> rfl

theorem Ok_arith {op : BinOp} {xt yt : TypeId} {x y : Operand} {dx dy : D} {k : IntKind} {a b n : Int} (ho : o.op = .binOp op xt x y yt) (hk : td C.tb xt = .int k) (hr : td C.tb o.type = .int k)
    (hx : opd C.tb env xt x = some dx) (hy : opd C.tb env xt y = some dy) (ha : intAt C.tb xt dx = some a) (hb : intAt C.tb xt dy = some b) (hn : arith k op a b = some n) (hp : arithP op b) :
    OpOk C o env σ ⟨True, .t o.type (.e (.int n)), σ⟩ :=
  OpOk_val fun H β ac w hr' he => by
    obtain ⟨h1, h2⟩ := intAt_rel (opd_rel he hx) ha hk
    obtain ⟨h3, h4⟩ := intAt_rel (opd_rel he hy) hb hk
    refine ⟨.int k n, fun w' hw' => ?_, .mkInt hr (arith_wrap h2 hn)⟩
    simp [execOp, ho, h1, h3, eqGuard_int, arith_run hn hp]
theorem Ok_shift {op : BinOp} {xt yt : TypeId} {x y : Operand} {dx dy : D} {k : IntKind} {a b n : Int} (ho : o.op = .binOp op xt x y yt) (hk : td C.tb xt = .int k) (hr : td C.tb o.type = .int k)
    (hx : opd C.tb env xt x = some dx) (hy : opd C.tb env yt y = some dy) (ha : intAt C.tb xt dx = some a) (hb : intAny dy = some b) (hn : shiftOp k op a b = some n) (hp : arithP op b) :
    OpOk C o env σ ⟨True, .t o.type (.e (.int n)), σ⟩ :=
  OpOk_val fun H β ac w hr' he => by
    obtain ⟨h1, h2⟩ := intAt_rel (opd_rel he hx) ha hk
    obtain ⟨k', h3, h4⟩ := intAny_rel (opd_rel he hy) hb
    refine ⟨.int k n, fun w' hw' => ?_, .mkInt hr (shift_wrap h2 hn)⟩
    simp [execOp, ho, h1, h3, eqGuard_int, shift_run hn hp]
theorem Ok_cmpI {op : BinOp} {xt yt : TypeId} {x y : Operand} {dx dy : D} {k : IntKind} {a b : Int} {c : Bool} (hbt : td C.tb C.bt = .bool) (ho : o.op = .binOp op xt x y yt) (hk : td C.tb xt = .int k)
    (hx : opd C.tb env xt x = some dx) (hy : opd C.tb env xt y = some dy) (ha : intAt C.tb xt dx = some a) (hb : intAt C.tb xt dy = some b) (hn : cmpI op a b = some c) :
    OpOk C o env σ ⟨True, .t C.bt (.e (.bool c)), σ⟩ :=
  OpOk_val fun H β ac w hr' he => by
    obtain ⟨h1, h2⟩ := intAt_rel (opd_rel he hx) ha hk
    obtain ⟨h3, h4⟩ := intAt_rel (opd_rel he hy) hb hk
    refine ⟨.bool c, fun w' hw' => ?_, .mkBool hbt⟩
    simp [execOp, ho, h1, h3, eqGuard_int, cmp_run hn]
theorem Ok_cmpS {op : BinOp} {xt yt : TypeId} {x y : Operand} {dx dy : D} {a b : List UInt8} {c : Bool} (hbt : td C.tb C.bt = .bool) (ho : o.op = .binOp op xt x y yt)
    (hx : opd C.tb env xt x = some dx) (hy : opd C.tb env xt y = some dy) (ha : strAny dx = some a) (hb : strAny dy = some b) (hn : cmpS op a b = some c) :
    OpOk C o env σ ⟨True, .t C.bt (.e (.bool c)), σ⟩ :=
  OpOk_val fun H β ac w hr' he => by
    obtain ⟨h1, h2⟩ := strAny_rel (opd_rel he hx) ha
    obtain ⟨h3, h4⟩ := strAny_rel (opd_rel he hy) hb
    refine ⟨.bool c, fun w' hw' => ?_, .mkBool hbt⟩
    simp [execOp, ho, h1, h3, eqGuard_str, cmpS_run hn]
theorem Ok_addS {xt yt : TypeId} {x y : Operand} {dx dy : D} {a b : List UInt8} (ho : o.op = .binOp .add xt x y yt) (ht : td C.tb o.type = .str)
    (hx : opd C.tb env xt x = some dx) (hy : opd C.tb env xt y = some dy) (ha : strAny dx = some a) (hb : strAny dy = some b) (hp : ((a.length + b.length : Nat) : Int) ≤ maxI) :
    OpOk C o env σ ⟨True, .t o.type (.e (.str (a ++ b))), σ⟩ :=
  OpOk_val fun H β ac w hr' he => by
    obtain ⟨h1, h2⟩ := strAny_rel (opd_rel he hx) ha
    obtain ⟨h3, h4⟩ := strAny_rel (opd_rel he hy) hb
    refine ⟨sv (a ++ b), fun w' hw' => ?_, .mkStr ht (by simpa using hp)⟩
    simp [execOp, ho, h1, h3, eqGuard_str, addS_run hp]

include hC in
theorem Ok_eqB {op : BinOp} {xt yt : TypeId} {x y : Operand} {dx dy : D} {a b : Bool} (ho : o.op = .binOp op xt x y yt) (hop : op = .eql ∨ op = .neq) (hk : td C.tb xt = .bool)
    (hx : opd C.tb env xt x = some dx) (hy : opd C.tb env xt y = some dy) (ha : boolAny dx = some a) (hb : boolAny dy = some b) :
    OpOk C o env σ ⟨True, .t C.bt (.e (.bool (if op = .eql then (a == b) else !(a == b)))), σ⟩ :=
  OpOk_val fun H β ac w hr' he => by
    have h1 := boolAny_rel (opd_rel he hx) ha
    have h3 := boolAny_rel (opd_rel he hy) hb
    refine ⟨_, fun w' hw' => ?_, .mkBool hC.bt⟩
    have hu := run_equalIn_bool' (P := C.P) w' 9999 xt a b (hC.tab.bool hk)
    rcases hop with rfl | rfl
    · simp [execOp, ho, h1, h3, eqGuard_bool, binOp, Op.equal, Op.maxDepth, hu]
    · simp [execOp, ho, h1, h3, eqGuard_bool, binOp, Op.equal, Op.maxDepth, hu]

theorem Ok_not {t : TypeId} {x : Operand} {dx : D} {a : Bool} (hbt : td C.tb C.bt = .bool) (ho : o.op = .unOp .not t x) (hx : opd C.tb env t x = some dx) (ha : boolAny dx = some a) :
    OpOk C o env σ ⟨True, .t C.bt (.e (.bool (!a))), σ⟩ :=
  OpOk_val fun H β ac w hr' he => by
    have h1 := boolAny_rel (opd_rel he hx) ha
    exact ⟨_, fun w' hw' => by simp [execOp, ho, h1, Op.unary], .mkBool hbt⟩
theorem Ok_notK {t : TypeId} {x : Operand} {dx : D} {a : Bool} (hbt : td C.tb C.bt = .bool) (ho : o.op = .unOp .not t x) (hx : opd C.tb env t x = some dx) (ha : boolAny dx = some a) :
    OpOk C o env σ ⟨True, .kb C.bt (!a), σ⟩ :=
  OpOk_val fun H β ac w hr' he => by
    have h1 := boolAny_rel (opd_rel he hx) ha
    exact ⟨_, fun w' hw' => by simp [execOp, ho, h1, Op.unary], .kb hbt⟩
def xorAll (k : IntKind) (n : Int) : Int := bitop .xor k (if k.signed then -1 else k.max) n
theorem Ok_xorU {t : TypeId} {x : Operand} {dx : D} {k : IntKind} {a : Int} (ho : o.op = .unOp .xor t x) (hk : td C.tb t = .int k) (hr : td C.tb o.type = .int k) (hx : opd C.tb env t x = some dx) (ha : intAt C.tb t dx = some a) :
    OpOk C o env σ ⟨True, .t o.type (.e (.int (xorAll k a))), σ⟩ :=
  OpOk_val fun H β ac w hr' he => by
    obtain ⟨h1, h2⟩ := intAt_rel (opd_rel he hx) ha hk
    refine ⟨.int k (xorAll k a), fun w' hw' => ?_, .mkInt hr (wrap_wrap _ _)⟩
    simp [execOp, ho, h1, Op.unary, Op.intBits, xorAll, bitop]
theorem Ok_neg {t : TypeId} {x : Operand} {dx : D} {k : IntKind} {a : Int} (ho : o.op = .unOp .neg t x) (hk : td C.tb t = .int k) (hr : td C.tb o.type = .int k) (hx : opd C.tb env t x = some dx) (ha : intAt C.tb t dx = some a) :
    OpOk C o env σ ⟨True, .t o.type (.e (.int (k.wrap (-a)))), σ⟩ :=
  OpOk_val fun H β ac w hr' he => by
    obtain ⟨h1, h2⟩ := intAt_rel (opd_rel he hx) ha hk
    refine ⟨.int k (k.wrap (-a)), fun w' hw' => ?_, .mkInt hr (wrap_wrap _ _)⟩
    simp [execOp, ho, h1, Op.unary, Op.intArith]

include hC in
theorem Ok_convI {s d : TypeId} {x : Operand} {dx : D} {k k' : IntKind} {a : Int} (ho : o.op = .convert s d x) (hs : td C.tb s = .int k) (hd : td C.tb d = .int k') (hx : opd C.tb env s x = some dx) (ha : intAt C.tb s dx = some a) :
    OpOk C o env σ ⟨True, .t d (.e (.int (k'.wrap a))), σ⟩ :=
  OpOk_val fun H β ac w hr' he => by
    obtain ⟨h1, h2⟩ := intAt_rel (opd_rel he hx) ha hs
    refine ⟨.int k' (k'.wrap a), fun w' hw' => ?_, .mkInt hd (wrap_wrap _ _)⟩
    simp [execOp, ho, h1, convert, run_underlying_of hC.tab (hC.tab.int hs), run_underlying_of hC.tab (hC.tab.int hd), Conv.intToInt]

/-! ### lengths -/
def slLen : D → Option Nat
  | .t _ (.e (.sl xs)) => some xs.length
  | .t _ (.lsl _ xs) => some xs.length
  | .t _ (.bsl xs) => some xs.length
  | .t _ .nsl => some 0
  | .t _ (.msl _ n) => some n
  | .t _ (.tsl xs) => some xs.length
  | .asl _ _ _ _ n => some n
  | _ => none
theorem Rd.sl_inv {tb H t v xs} (h : Rd tb H t [v] (.sl xs)) : ∃ a c u, v = .slice a xs.length c ∧ xs.length ≤ c ∧ xs.length ≤ maxN ∧ td tb t = .sl u := by
  cases h with
  | sl0 a => exact ⟨_, _, _, rfl, Nat.zero_le _, Nat.zero_le _, a⟩
  | sl a b c d e f => exact ⟨_, _, _, rfl, e, f, a⟩
theorem slLen_rel {tb H β v d n} (hv : DRel tb H β σ v d) (h : slLen d = some n) : ∃ a c, v = .slice a n c ∧ n ≤ maxN := by
  have one : ∀ {ty : TypeId} {cs : List Value} {xs : List E}, VC tb ty v cs → Rd tb H ty cs (.sl xs) → ∃ a c, v = .slice a xs.length c ∧ xs.length ≤ maxN := by
    intro ty cs xs hvc hr
    have : ∃ u, td tb ty = .sl u ∧ ∃ x, cs = [x] := by
      cases hr with
      | sl0 a => exact ⟨_, a, _, rfl⟩
      | sl a => exact ⟨_, a, _, rfl⟩
    obtain ⟨u, hu, x, rfl⟩ := this
    have hv' := hvc
    simp [VC, isAggT, hu] at hv'
    subst hv'
    obtain ⟨a, c, _, h1, _, h2, _⟩ := hr.sl_inv
    exact ⟨a, c, h1, h2⟩
  unfold slLen at h
  split at h <;> cases h
  · cases hv with | t a b => exact one a b.rd
  · cases hv with | t a b => cases b with | lsl b1 b2 b3 => exact one a b2
  · cases hv with | t a b => cases b with | bsl b1 b2 => exact one a b2
  · cases hv with
    | t a b => cases b with
      | nsl b1 => have a' := a; simp [VC, isAggT, b1] at a'; exact ⟨_, _, a'.symm, Nat.zero_le _⟩
  · cases hv with
    | t a b => cases b with
      | msl b1 b2 b3 => obtain ⟨q, c, rfl, b4⟩ := b2; have a' := a; simp [VC, isAggT, b1] at a'; exact ⟨_, _, a'.symm, b4⟩
  · cases hv with
    | t a b => cases b with
      | tsl b1 b2 b3 b4 b5 => have a' := a; simp [VC, isAggT, b1] at a'; exact ⟨_, _, a'.symm, b5⟩
  · cases hv with | asl a b c d e => exact ⟨_, _, rfl, e⟩

theorem opdArg {a : Act} {x : Operand} {b : Builtin} {ts : Array TypeId} (ho : o.op = .call { callee := .builtin b, args := #[x], argTypes := ts }) {P : Program} {w : World} :
    (execOp a.eval o).run P w = (builtin b ts o.type (#[x].map fun | .const _ => true | _ => false) #[a.eval x]).run P w := by
  simp [execOp, ho, resolve, invoke]
  rfl

theorem range64 {n : Nat} (h : n ≤ maxN) : IntKind.wrap .i64 (n : Int) = n := inR_wrap (by simp [inR, maxN] at *; omega)
theorem range64s {n : Nat} (h : (n : Int) ≤ maxI) : IntKind.wrap .i64 (n : Int) = n := inR_wrap (by simp [inR, maxI] at *; omega)

include hC in
theorem Ok_lenS {x : Operand} {t : TypeId} {dx : D} {s : List UInt8} (ho : o.op = .call { callee := .builtin .len, args := #[x], argTypes := #[t] }) (ht : td C.tb t = .str) (hr : td C.tb o.type = .int .i64)
    (hx : opd C.tb env t x = some dx) (hs : strAny dx = some s) : OpOk C o env σ ⟨True, .t o.type (.e (.int s.length)), σ⟩ :=
  OpOk_val fun H β ac w hr' he => by
    obtain ⟨h1, h2⟩ := strAny_rel (opd_rel he hx) hs
    refine ⟨.int .i64 s.length, fun w' hw' => ?_, .mkInt hr (range64s h2)⟩
    rw [opdArg ho]
    have hsz : (⟨⟨s⟩⟩ : ByteArray).size = s.length := rfl
    simp [builtin, Builtin.len_, h1, sv, run_underlying_of hC.tab (hC.tab.str ht), goInt, hsz]
include hC in
theorem Ok_lenL {x : Operand} {t u : TypeId} {dx : D} {n : Nat} (ho : o.op = .call { callee := .builtin .len, args := #[x], argTypes := #[t] }) (ht : td C.tb t = .sl u) (hr : td C.tb o.type = .int .i64)
    (hx : opd C.tb env t x = some dx) (hs : slLen dx = some n) : OpOk C o env σ ⟨True, .t o.type (.e (.int n)), σ⟩ :=
  OpOk_val fun H β ac w hr' he => by
    obtain ⟨a, c, h1, h2⟩ := slLen_rel (opd_rel he hx) hs
    refine ⟨.int .i64 n, fun w' hw' => ?_, .mkInt hr (range64 h2)⟩
    rw [opdArg ho]
    simp [builtin, Builtin.len_, h1, run_underlying_of hC.tab (hC.tab.sl ht), goInt]

/-! ### nil checks, nil pointers -/
theorem Ok_nilCheck {s : Nat} {d : D} (ho : o.op = .nilCheck (.tmp s)) (hs : getD env s = d) (hd : ∃ i p, d = .ptr i p ∨ ∃ u xs j, d = .el u xs j p) : OpOk C o env σ ⟨True, d, σ⟩ :=
  OpOk_val fun H β ac w hr' he => by
    have hv := he.get s
    rw [hs] at hv
    have hp : ∃ a, ac.tmps.getD s undef = .pointer (some a) := by
      obtain ⟨i, p, rfl | ⟨u, xs, j, rfl⟩⟩ := hd
      · obtain ⟨a, h, _⟩ := hv.ptr_inv; exact ⟨a, h⟩
      · generalize ac.tmps.getD s undef = v at hv
        cases hv with | el => exact ⟨_, rfl⟩
    obtain ⟨a, ha⟩ := hp
    rw [ha] at hv
    refine ⟨_, fun w' hw' => ?_, hv⟩
    have hve : ac.eval (.tmp s) = .pointer (some a) := ha
    simp [execOp, ho, hve]

end
end Go.Den
/- Elements, parts, slices. -/
namespace Go.Den
open Go
set_option linter.unusedSectionVars false
set_option linter.unusedSimpArgs false
set_option linter.unusedVariables false

theorem Rd.sl_row {tb H t v xs} (h : Rd tb H t [v] (.sl xs)) (hne : 0 < xs.length) : ∃ u b off c cs, td tb t = .sl u ∧ v = .slice (some ⟨b, off, none⟩) xs.length c ∧ cs.length = xs.length * sz tb u ∧
    (∀ (j : Nat) v, cs[j]? = some v → H b (off + j) = .pers v) ∧ (∀ (i : Nat) x, xs[i]? = some x → Rd tb H u (seg cs (i * sz tb u) (sz tb u)) x) ∧ xs.length ≤ c ∧ xs.length ≤ maxN := by
  cases h with
  | sl0 a => simp at hne
  | sl a b c d e f => exact ⟨_, _, _, _, _, a, rfl, b, c, d, e, f⟩

/-- The elements of a slice that reads as persistent data. -/
def slE : D → Option (List E)
  | .t _ (.e (.sl xs)) => some xs
  | .t _ (.lsl _ xs) => some xs
  | .t _ (.bsl xs) => some xs
  | .t _ .nsl => some []
  | _ => none
def tagD : D → TypeId
  | .t ty _ => ty
  | _ => 0
theorem VC.one {tb t v x u} (h : VC tb t v [x]) (hu : td tb t = .sl u) : v = x := by
  have h' := h
  simp [VC, isAggT, hu] at h'
  exact h'.symm
theorem slE_rel {tb H β σ v d xs} (hv : DRel tb H β σ v d) (h : slE d = some xs) : Rd tb H (tagD d) [v] (.sl xs) := by
  have one : ∀ {ty : TypeId} {cs : List Value} {xs : List E}, VC tb ty v cs → Rd tb H ty cs (.sl xs) → Rd tb H ty [v] (.sl xs) := by
    intro ty cs xs hvc hr
    have : ∃ u, td tb ty = .sl u ∧ ∃ x, cs = [x] := by
      cases hr with
      | sl0 a => exact ⟨_, a, _, rfl⟩
      | sl a => exact ⟨_, a, _, rfl⟩
    obtain ⟨u, hu, x, rfl⟩ := this
    rw [hvc.one hu]; exact hr
  unfold slE at h
  split at h <;> cases h
  · cases hv with | t a b => exact one a b.rd
  · cases hv with | t a b => cases b with | lsl b1 b2 b3 => exact one a b2
  · cases hv with | t a b => cases b with | bsl b1 b2 => exact one a b2
  · cases hv with | t a b => cases b with | nsl b1 => exact one a (.sl0 b1)

def opdN (env : Env) : Operand → Option Int
  | .tmp t => intAny (getD env t)
  | .const (.int _ n) => some n
  | _ => none
theorem opdN_rel {tb H β σ n a x i} {env : Env} (he : EnvRel tb H β σ n a env) (h : opdN env x = some i) : ∃ k, a.eval x = .int k i := by
  unfold opdN at h
  split at h
  · obtain ⟨k, h1, _⟩ := intAny_rel (he.get _) h; exact ⟨k, h1⟩
  · cases h; exact ⟨_, rfl⟩
  · cases h

section
variable {C : Cx} (hC : Ok C) {o : Oper} {env : Env} {σ : List Blk}
include hC

theorem lt_of_sz {t : TypeId} (h : sz C.tb t ≠ 0) : t < C.tb.rows.length := by
  rcases Nat.lt_or_ge t C.tb.rows.length with h' | h'
  · exact h'
  · exact absurd (by simp [sz, List.getElem?_eq_none h']) h

theorem Ok_indexAddrA {t s i n : Nat} {u : TypeId} {p : List Nat} {ty : TypeId} {X : T} {ix : Operand} {iv : Int} (ho : o.op = .indexAddr t (.tmp s) ix) (hs : getD env s = .ptr i p) (hi : σ[i]? = some (.tree ty X))
    (ht : td C.tb t = .arr n u) (hty : td C.tb (tyAt C.tb ty p) = .arr n u) (hz : sz C.tb u ≠ 0) (hx : opdN env ix = some iv) (h0 : 0 ≤ iv) (h1 : iv < n) : OpOk C o env σ ⟨True, .ptr i (p ++ [iv.toNat]), σ⟩ :=
  OpOk_val fun H β a w hr he => by
    have hv := he.get s
    rw [hs] at hv
    obtain ⟨ad, hv, b, off, ty', X', o', z, e1, e2, e3, e4⟩ := hv.ptr_inv
    rw [hi] at e2; cases e2
    subst e4
    rw [tyAt_of e3] at hty
    obtain ⟨k, hk⟩ := opdN_rel he hx
    have hve : a.eval (.tmp s) = .pointer (some ⟨b, off + o', none⟩) := hv
    refine ⟨.pointer (some ⟨b, off + o' + iv.toNat * sz C.tb u, none⟩), fun w' hw' => ?_, .ptr ⟨b, off, ty, X, o' + iv.toNat * sz C.tb u, u, e1, hi, offT_snoc e3 (by simp [offT, hty]; omega), by simp [Nat.add_assoc]⟩⟩
    simp [execOp, ho, hve, hk, Instr.indexAt, asIntOf, run_underlying_of hC.tab (hC.tab.arr ht), Instr.sureAddr, h0, h1, run_sizeOf_of hC.tab (lt_of_sz hC hz), add_plain]

theorem Ok_indexAddrS {t s : Nat} {u : TypeId} {d : D} {xs : List E} {ix : Operand} {iv : Int} (ho : o.op = .indexAddr t (.tmp s) ix) (hs : getD env s = d) (hd : slE d = some xs)
    (ht : td C.tb t = .sl u) (hsame : same C.tb (tagD d) t = true) (hz : sz C.tb u ≠ 0) (hx : opdN env ix = some iv) (h0 : 0 ≤ iv) (h1 : iv < xs.length) : OpOk C o env σ ⟨True, .el u xs iv.toNat [], σ⟩ :=
  OpOk_val fun H β a w hr he => by
    have hv := he.get s
    rw [hs] at hv
    have hrd := slE_rel hv hd
    obtain ⟨u', b, off, c, cs, g1, g2, g3, g4, g5, g6, g7⟩ := hrd.sl_row (by omega)
    rw [same_td hsame, ht] at g1; cases g1
    obtain ⟨k, hk⟩ := opdN_rel he hx
    have hve : a.eval (.tmp s) = .slice (some ⟨b, off, none⟩) xs.length c := g2
    refine ⟨.pointer (some ⟨b, off + iv.toNat * sz C.tb u, none⟩), fun w' hw' => ?_, ?_⟩
    · simp [execOp, ho, hve, hk, Instr.indexAt, asIntOf, run_underlying_of hC.tab (hC.tab.sl ht), h0, h1, run_sizeOf_of hC.tab (lt_of_sz hC hz), add_plain]
    · have := DRel.el (tb := C.tb) (H := H) (β := β) (σ := σ) g3 g4 g5 (show iv.toNat < xs.length by omega) (path := []) (o := 0) (v := u) rfl
      exact this

theorem Ok_indexStr {t : TypeId} {x ix : Operand} {dx : D} {s : List UInt8} {iv : Int} (ho : o.op = .index t x ix) (ht : td C.tb t = .str) (hr : td C.tb o.type = .int .u8) (hx : opd C.tb env t x = some dx) (hs : strAny dx = some s)
    (hi : opdN env ix = some iv) (h0 : 0 ≤ iv) (h1 : iv < s.length) : OpOk C o env σ ⟨True, .t o.type (.e (.int (s.getD iv.toNat 0).toNat)), σ⟩ :=
  OpOk_val fun H β a w hr' he => by
    obtain ⟨h2, h3⟩ := strAny_rel (opd_rel he hx) hs
    obtain ⟨k, hk⟩ := opdN_rel he hi
    have hlt : iv.toNat < s.length := by omega
    have hb : (⟨⟨s⟩⟩ : ByteArray)[iv.toNat]? = some s[iv.toNat] := by
      have hsz : iv.toNat < (⟨⟨s⟩⟩ : ByteArray).size := hlt
      rw [getElem?_pos (⟨⟨s⟩⟩ : ByteArray) iv.toNat hsz]; rfl
    have hg : s.getD iv.toNat 0 = s[iv.toNat] := by simp [hlt]
    refine ⟨.int .u8 (s[iv.toNat]).toNat, fun w' hw' => ?_, ?_⟩
    · simp [execOp, ho, h2, sv, hk, Instr.index, asIntOf, run_underlying_of hC.tab (hC.tab.str ht), h0, hb]
    · rw [hg]
      refine .mkInt hr (inR_wrap ?_)
      have := (s[iv.toNat]).toNat_lt
      simp [inR]; omega

theorem run_part {t : TypeId} {cs : List Value} {off : Nat} (ht : td C.tb t ≠ .other) (hl : off + sz C.tb t ≤ cs.length) :
    ∃ v, (∀ w, (part t cs.toArray off).run C.P w = .ok v w) ∧ VC C.tb t v (seg cs off (sz C.tb t)) := by
  have hlt := hC.tab.lt_of_td ht
  simp only [part, Sem.run_bind, run_isAgg_of hC.tab ht, Result.andThen]
  cases ha : isAggT C.tb t with
  | true =>
    refine ⟨.agg (seg cs off (sz C.tb t)).toArray, ?_, by simp [VC, ha]⟩
    simp [run_sizeOf_of hC.tab hlt]
    rfl
  | false =>
    have h1 := hC.tab.sz_one ha ht
    rw [h1] at hl ⊢
    have hlt2 : off < cs.length := by omega
    refine ⟨cs[off], ?_, ?_⟩
    · simp [hlt2]
    · simp only [VC, ha, seg]
      simp [List.take_one, hlt2]

theorem Ok_field {xt : TypeId} {x : Operand} {k : Nat} {dx : D} {y : E} {ty : TypeId} {fs : List (TypeId × Nat)} {f : TypeId × Nat} (ho : o.op = .field xt x k) (hx : opd C.tb env xt x = some dx) (hd : dx = .t ty (.e y)) (hs : same C.tb ty xt = true)
    (hst : td C.tb xt = .st fs) (hf : fs[k]? = some f) : OpOk C o env σ ⟨True, .t f.1 (.e (childE k y)), σ⟩ :=
  OpOk_val fun H β a w hr he => by
    subst hd
    have hv := opd_rel he hx
    have hty : td C.tb ty = .st fs := (same_td hs).trans hst
    obtain ⟨cs, h1, h2⟩ := hv.aggr (by simp [isAggT, hty])
    have hrd := h2.rd
    have hch := hrd.child.1 fs hty k f hf
    have hlen := hrd.len hC.tab
    have hle := ((fieldsEnd_spec (hC.tab.sz_st hty)).2 k f hf).2.1
    obtain ⟨v, hrun, hvc⟩ := run_part hC (cs := cs) (off := f.2) hch.td_ne (by omega)
    refine ⟨v, fun w' hw' => ?_, .t hvc (.e hch)⟩
    obtain ⟨gs, hg, he'⟩ := hC.tab.st hst
    have hk : k < gs.size := by have := (List.getElem?_eq_some_iff.1 hf).1; rw [← he'] at this; simpa using this
    have hgf : f = (gs[k].type, gs[k].offset) := by rw [← he'] at hf; simp [hk] at hf; exact hf.symm
    subst hgf
    simp [execOp, ho, h1, Instr.field, run_underlying_of hC.tab hg, Array.getElem?_eq_getElem hk, asAgg, hrun]

theorem Ok_indexA {t u : TypeId} {n : Nat} {x ix : Operand} {dx : D} {y : E} {ty : TypeId} {iv : Int} (ho : o.op = .index t x ix) (ht : td C.tb t = .arr n u) (hx : opd C.tb env t x = some dx) (hd : dx = .t ty (.e y)) (hs : same C.tb ty t = true)
    (hi : opdN env ix = some iv) (h0 : 0 ≤ iv) (h1 : iv < n) (hu : td C.tb u ≠ .other) : OpOk C o env σ ⟨True, .t u (.e (childE iv.toNat y)), σ⟩ :=
  OpOk_val fun H β a w hr he => by
    subst hd
    have hv := opd_rel he hx
    have hty : td C.tb ty = .arr n u := (same_td hs).trans ht
    obtain ⟨cs, g1, g2⟩ := hv.aggr (by simp [isAggT, hty])
    have hrd := g2.rd
    have hch := hrd.child.2 n u hty iv.toNat (by omega)
    have hlen := hrd.len hC.tab
    rw [hC.tab.sz_arr hty] at hlen
    have hle : iv.toNat * sz C.tb u + sz C.tb u ≤ n * sz C.tb u := by
      have := Nat.mul_le_mul_right (sz C.tb u) (show iv.toNat + 1 ≤ n by omega); rwa [Nat.add_mul, Nat.one_mul] at this
    obtain ⟨v, hrun, hvc⟩ := run_part hC (cs := cs) (off := iv.toNat * sz C.tb u) hu (by omega)
    obtain ⟨k, hk⟩ := opdN_rel he hi
    refine ⟨v, fun w' hw' => ?_, .t hvc (.e hch)⟩
    simp [execOp, ho, g1, hk, Instr.index, asIntOf, run_underlying_of hC.tab (hC.tab.arr ht), h0, h1, run_sizeOf_of hC.tab (hC.tab.lt_of_td hu), hrun]

/-! ### slices of texts and of lists -/

/-- The bounds of a slice expression, as numbers. -/
def bnd (env : Env) (dflt : Int) : Option Operand → Option Int
  | none => some dflt
  | some x => opdN env x

omit hC in
theorem run_bound {P : Program} {k : IntKind} {i : Int} {y : Nat} {c : BoundsCode} {w : World} (h0 : 0 ≤ i) (h1 : i ≤ y) : (Instr.sliceBound (.int k i) y c).run P w = .ok i.toNat w := by
  simp [Instr.sliceBound, asIntOf, h0, h1]
omit hC in
theorem run_bounds {P : Program} {H β n a} {tb : Tab} (he : EnvRel tb H β σ n a env) {isSl : Bool} {len cap : Nat} {lo hi : Option Operand} {l h : Int} {w : World}
    (hl : bnd env 0 lo = some l) (hh : bnd env len hi = some h) (h0 : 0 ≤ l) (h1 : l ≤ h) (h2 : h ≤ cap) :
    (Instr.sliceBounds isSl len cap (lo.map a.eval) (hi.map a.eval) none).run P w = .ok (l.toNat, h.toNat, cap) w := by
  unfold Instr.sliceBounds
  cases hi with
  | none =>
    simp [bnd] at hh
    cases lo with
    | none => simp [bnd] at hl; simp [← hl, ← hh]
    | some x =>
      obtain ⟨k, hk⟩ := opdN_rel he hl
      simp [hk, ← hh]
      rw [run_bound h0 (by omega)]; simp
  | some y =>
    obtain ⟨k', hk'⟩ := opdN_rel he hh
    cases lo with
    | none =>
      simp [bnd] at hl
      simp [hk', ← hl]
      rw [run_bound (by omega) h2]; simp
    | some x =>
      obtain ⟨k, hk⟩ := opdN_rel he hl
      simp [hk, hk']
      rw [run_bound (by omega) h2]
      simp
      rw [run_bound h0 (by omega)]; simp

omit hC in
theorem opt_map_eval {a : Act} (x : Option Operand) : (x.map a.eval) = x.map a.eval := rfl

theorem Ok_sliceStr {t : TypeId} {x : Operand} {lo hi : Option Operand} {dx : D} {s : List UInt8} {l h : Int} (ho : o.op = .slice t x lo hi none) (ht : td C.tb t = .str) (hr : td C.tb o.type = .str) (hx : opd C.tb env t x = some dx) (hs : strAny dx = some s)
    (hl : bnd env 0 lo = some l) (hh : bnd env s.length hi = some h) (h0 : 0 ≤ l) (h1 : l ≤ h) (h2 : h ≤ s.length) : OpOk C o env σ ⟨True, .t o.type (.e (.str ((s.take h.toNat).drop l.toNat))), σ⟩ :=
  OpOk_val fun H β a w hr' he => by
    obtain ⟨g1, g2⟩ := strAny_rel (opd_rel he hx) hs
    refine ⟨sv ((s.take h.toNat).drop l.toNat), fun w' hw' => ?_, .mkStr hr (by simp; omega)⟩
    have hsz : (⟨⟨s⟩⟩ : ByteArray).size = s.length := rfl
    have hb := fun w : World => run_bounds (P := C.P) he (isSl := false) (len := s.length) (cap := s.length) (w := w) hl hh h0 h1 h2
    have hex : (⟨⟨s⟩⟩ : ByteArray).extract l.toNat h.toNat = ⟨⟨(s.take h.toNat).drop l.toNat⟩⟩ := by
      apply ByteArray.ext
      simp [List.extract_eq_take_drop, List.drop_take]
    simp [execOp, ho, g1, sv, Instr.sliceAt, Instr.slice, run_underlying_of hC.tab (hC.tab.str ht), hsz, hb, hex]

theorem Ok_sliceL {t u : TypeId} {x : Operand} {lo hi : Option Operand} {dx : D} {xs : List E} {l h : Int} (ho : o.op = .slice t x lo hi none) (ht : td C.tb t = .sl u) (hx : opd C.tb env t x = some dx) (hd : slE dx = some xs) (hs : same C.tb (tagD dx) t = true) (hz : sz C.tb u ≠ 0)
    (hl : bnd env 0 lo = some l) (hh : bnd env xs.length hi = some h) (h0 : 0 ≤ l) (h1 : l ≤ h) (h2 : h ≤ xs.length) : OpOk C o env σ ⟨True, .t t (.e (.sl ((xs.take h.toNat).drop l.toNat))), σ⟩ :=
  OpOk_val fun H β a w hr' he => by
    have hrd := (slE_rel (opd_rel he hx) hd).cast hC.tab (same_td hs)
    obtain ⟨ad, c, u', g1, g2, g3, g4⟩ := hrd.sl_inv
    rw [ht] at g4; cases g4
    have hb := fun w : World => run_bounds (P := C.P) he (isSl := true) (len := xs.length) (cap := c) (w := w) hl hh h0 h1 (by omega)
    have hnag : isAggT C.tb t = false := by simp [isAggT, ht]
    refine ⟨.slice (if c = l.toNat then ad else ad.map (·.add (l.toNat * sz C.tb u))) (h.toNat - l.toNat) (c - l.toNat), fun w' hw' => ?_, .of_rd ?_ hnag⟩
    · simp [execOp, ho, g1, Instr.sliceAt, Instr.slice, run_underlying_of hC.tab (hC.tab.sl ht), hb, run_sizeOf_of hC.tab (lt_of_sz hC hz)]
    · have hlen : ((xs.take h.toNat).drop l.toNat).length = h.toNat - l.toNat := by simp; omega
      rcases Nat.eq_zero_or_pos ((xs.take h.toNat).drop l.toNat).length with he0 | hpos
      · rw [List.length_eq_zero_iff.1 he0, show h.toNat - l.toNat = 0 by omega]; exact .sl0 ht
      · rw [if_neg (by omega)]
        obtain ⟨u2, b, off, c2, cs, k1, k2, k3, k4, k5, k6, k7⟩ := hrd.sl_row (by omega)
        rw [ht] at k1; cases k1
        rw [g1] at k2
        simp only [Value.slice.injEq] at k2
        obtain ⟨rfl, _, rfl⟩ := k2
        simp only [Option.map_some, add_plain]
        rw [← hlen]
        have hsub : l.toNat * sz C.tb u + ((xs.take h.toNat).drop l.toNat).length * sz C.tb u ≤ cs.length := by
          rw [k3, ← Nat.add_mul]; exact Nat.mul_le_mul_right _ (by omega)
        refine .sl (cs := seg cs (l.toNat * sz C.tb u) (((xs.take h.toNat).drop l.toNat).length * sz C.tb u)) ht (seg_length hsub) (fun j v hj => ?_) (fun i y hy => ?_) (by omega) (by omega)
        · have hjl : j < ((xs.take h.toNat).drop l.toNat).length * sz C.tb u := by
            rcases Nat.lt_or_ge j (((xs.take h.toNat).drop l.toNat).length * sz C.tb u) with h' | h'
            · exact h'
            · rw [List.getElem?_eq_none (by rw [seg_length hsub]; exact h')] at hj; cases hj
          rw [seg_get hjl] at hj
          rw [Nat.add_assoc]
          exact k4 _ v hj
        · have hi : i < ((xs.take h.toNat).drop l.toNat).length := (List.getElem?_eq_some_iff.1 hy).1
          have hile : i * sz C.tb u + sz C.tb u ≤ ((xs.take h.toNat).drop l.toNat).length * sz C.tb u := by
            have := Nat.mul_le_mul_right (sz C.tb u) (show i + 1 ≤ _ from hi); rwa [Nat.add_mul, Nat.one_mul] at this
          rw [seg_seg hile, ← Nat.add_mul]
          refine k5 (l.toNat + i) y ?_
          rw [List.getElem?_drop] at hy
          rw [List.getElem?_take_of_lt (by omega)] at hy
          exact hy

end
end Go.Den
/- Contracts of functions, calls, and how a contract is proved. -/
namespace Go.Den
open Go
set_option linter.unusedSectionVars false
set_option linter.unusedSimpArgs false
set_option linter.unusedVariables false

/-- Data that some memory could hold at a type. -/
def Wt (tb : Tab) (t : TypeId) (x : E) : Prop := ∃ H cs, Rd tb H t cs x

def typed : List TypeId → List E → List D
  | t :: ts, x :: xs => .t t (.e x) :: typed ts xs
  | _, _ => []
def retD (ts : List TypeId) (rs : List E) : D := match ts, rs with
  | [t], [x] => .t t (.e x)
  | ts, rs => .tup (typed ts rs)

structure Base (H : Gh) (w : World) : Prop where
  pers : ∀ b o v, H b o = .pers v → w.cell? ⟨b, o, none⟩ = some v
  dom : ∀ b o, H b o ≠ .none → b < w.heap.size

theorem Rel.base {tb H β σ w} (h : Rel tb H β σ w) : Base H w := ⟨h.pers, h.dom⟩
theorem Base.rel {tb H w} (h : Base H w) : Rel tb H [] [] w := ⟨h.pers, h.dom, rfl, fun i k bv hk _ => by simp at hk⟩

def ArgsAt (tb : Tab) (H : Gh) (β : List Value) (σ : List Blk) (vals : Array Value) (ds : List D) : Prop :=
  (vals.size = ds.length ∧ GlRel tb H) ∧ ∀ (i : Nat) v d, vals[i]? = some v → ds[i]? = some d → DRel tb H β σ v d

/-- The contract of a function that is handed data and hands back data. -/
def FnOk (P : Program) (tb : Tab) (f : FuncId) (pts rts : List TypeId) (args rs : List E) : Prop :=
  (∃ fn, P.funcs[f]? = some fn ∧ (fn.name == "runtime.NumGoroutine") = false ∧ fn.body.isNone = false) ∧ args.length = pts.length ∧
  ∀ H w vals, Base H w → (∀ b o i, H b o ≠ .mine i) → ArgsAt tb H [] [] vals (typed pts args) →
    Calls P f vals w fun e w' => ∃ v H', e = .returned v ∧ Base H' w' ∧ DRel tb H' [] [] v (retD rts rs) ∧ Stp H w H' w'

def argE (tb : Tab) (env : Env) (t : TypeId) (x : Operand) : Option E := match opd tb env t x with
  | some d => match asT tb t d with
    | some y => toE y
    | none => none
  | none => none
def argsE (tb : Tab) (env : Env) : List TypeId → List Operand → Option (List E)
  | [], [] => some []
  | t :: ts, x :: xs => match argE tb env t x with
    | some y => match argsE tb env ts xs with
      | some ys => some (y :: ys)
      | none => none
    | none => none
  | _, _ => none

/-- A ghost without a function's own cells. -/
def strip (H : Gh) : Gh := fun b o => match H b o with
  | .mine _ => .none
  | x => x
theorem strip_pers {H b o v} : strip H b o = .pers v ↔ H b o = .pers v := by unfold strip; split <;> simp_all
theorem strip_mine {H b o i} : strip H b o ≠ .mine i := by
  unfold strip; split
  · simp
  · rename_i x hx; exact fun h => hx i h
/-- The caller's ghost behind a call. -/
def merge (H : Gh) (n : Nat) (H' : Gh) : Gh := fun b o => if b < n then H b o else strip H' b o

theorem Rd.strip {tb H t cs x} (h : Rd tb H t cs x) : Rd tb (Den.strip H) t cs x := h.mono fun _ _ _ h => strip_pers.2 h

section
variable {C : Cx} (hC : Ok C) {o : Oper} {env : Env} {σ : List Blk}

include hC in
theorem argE_rel {t x y H β n a} (he : EnvRel C.tb H β σ n a env) (h : argE C.tb env t x = some y) : DRel C.tb (strip H) [] [] (a.eval x) (.t t (.e y)) := by
  unfold argE at h
  split at h
  · rename_i d hd
    split at h
    · rename_i z hz
      obtain ⟨cs, h1, h2⟩ := asT_rel hC (opd_rel he hd) hz
      exact .t h1 (.e (h2.toE h).strip)
    · cases h
  · cases h
include hC in
theorem argsE_rel {H β n a} (he : EnvRel C.tb H β σ n a env) : ∀ {ts : List TypeId} {xs : List Operand} {ys : List E}, argsE C.tb env ts xs = some ys →
    ys.length = ts.length ∧ xs.length = ts.length ∧ ∀ (i : Nat) x d, xs[i]? = some x → (typed ts ys)[i]? = some d → DRel C.tb (strip H) [] [] (a.eval x) d
  | [], [], ys, h => by simp [argsE] at h; subst h; exact ⟨rfl, rfl, fun i x d hx => by simp at hx⟩
  | t :: ts, x :: xs, ys, h => by
    unfold argsE at h
    split at h
    · rename_i y hy
      split at h
      · rename_i zs hz
        cases h
        obtain ⟨h1, h2, h3⟩ := argsE_rel he hz
        refine ⟨by simp [h1], by simp [h2], fun i q d hq hd => ?_⟩
        cases i with
        | zero => simp at hq; simp [typed] at hd; subst hq; subst hd; exact argE_rel hC he hy
        | succ i => exact h3 i q d (by simpa using hq) (by simpa [typed] using hd)
      · cases h
    · cases h
  | [], _ :: _, _, h => by simp [argsE] at h
  | _ :: _, [], _, h => by simp [argsE] at h

theorem typed_length : ∀ {ts : List TypeId} {xs : List E}, xs.length = ts.length → (typed ts xs).length = ts.length
  | [], [], _ => rfl
  | t :: ts, x :: xs, h => by simp [typed, typed_length (ts := ts) (xs := xs) (by simpa using h)]

/-- What a call leaves of the caller's state. -/
theorem Rel.after {tb H β σ w H' w'} (h : Rel tb H β σ w) (hb : Base H' w') (hs : Stp (strip H) w H' w') :
    Rel tb (merge H w.heap.size H') β σ w' ∧ Stp H w (merge H w.heap.size H') w' ∧ Ev H β σ (merge H w.heap.size H') β σ ∧ (∀ b o v, H' b o = .pers v → merge H w.heap.size H' b o = .pers v) := by
  have old : ∀ b o, b < w.heap.size → merge H w.heap.size H' b o = H b o := fun b o hb => by simp [merge, hb]
  have hold : ∀ b o, b < w.heap.size → H' b o = strip H b o := fun b o hb => hs.gh b hb o (fun i => strip_mine)
  have hcell : ∀ b o, b < w.heap.size → w'.cell? ⟨b, o, none⟩ = w.cell? ⟨b, o, none⟩ := fun b o hb => hs.cell b hb o (fun i => strip_mine)
  have hfrz : ∀ b o v, w.cell? ⟨b, o, none⟩ = some v → b < w.heap.size → w'.frozen? ⟨b, o, none⟩ = w.frozen? ⟨b, o, none⟩ := fun b o v hv hb => hs.frz b hb o v hv (fun i => strip_mine)
  have hblk : ∀ b, b < w.heap.size → w'.heap[b]? = w.heap[b]? := fun b hb => hs.blk b hb (fun o i => strip_mine)
  have hpm : ∀ b o v, H b o = .pers v → merge H w.heap.size H' b o = .pers v := fun b o v e => by rw [old b o (h.dom b o (by rw [e]; simp))]; exact e
  have hev : Ev H β σ (merge H w.heap.size H') β σ := ⟨hpm, fun _ _ x e => ⟨rfl, x, e⟩, fun _ _ n e => ⟨n, e, Nat.le_refl _, fun _ => rfl⟩, fun _ s p e => ⟨rfl, s, p, e⟩, fun _ _ o xs e => ⟨o, xs, e, Nat.le_refl _, fun _ => rfl⟩, fun _ _ _ es e => ⟨rfl, es, e⟩⟩
  refine ⟨⟨?_, ?_, h.len, ?_⟩, ?_, hev, ?_⟩
  · intro b o v e
    by_cases hb' : b < w.heap.size
    · rw [old b o hb'] at e; rw [hcell b o hb']; exact h.pers b o v e
    · have : strip H' b o = .pers v := by simpa [merge, hb'] using e
      exact hb.pers b o v (strip_pers.1 this)
  · intro b o e
    by_cases hb' : b < w.heap.size
    · exact Nat.lt_of_lt_of_le hb' hs.size
    · refine hb.dom b o fun h0 => e ?_
      simp [merge, hb', strip, h0]
  · intro i k bv hk hv
    refine (h.blk i k bv hk hv).mono hev (fun b o e => ?_) (fun b x e _ he => ?_)
    · have hb' := h.dom b o (by rw [e]; simp)
      exact ⟨by rw [old b o hb']; exact e, hcell b o hb', fun v hv => hfrz b o v hv hb', hs.shp b hb'⟩
    · have hb' := h.dom b 0 (by rw [e 0]; simp)
      rw [hblk b hb']; exact he
  · exact ⟨hs.os, hs.tape, hs.output, hs.size, fun b hb' o _ => old b o hb', fun b hb' o i e => ⟨i, by rw [old b o hb'] at e; exact e⟩, fun b hb' _ => hblk b hb', fun b hb' o _ => hcell b o hb', fun b hb' o v hv _ => hfrz b o v hv hb', hs.shp⟩
  · intro b o v e
    by_cases hb' : b < w.heap.size
    · rw [old b o hb']; rw [hold b o hb'] at e; exact strip_pers.1 e
    · simp only [merge, hb', if_false]; exact strip_pers.2 e

theorem DRel.lift0 {tb H v d} (h : DRel tb H [] [] v d) (β' : List Value) (σ' : List Blk) {H' : Gh} (hp : ∀ b o v, H b o = .pers v → H' b o = .pers v) : DRel tb H' β' σ' v d :=
  h.mono ⟨hp, fun i ty x e => by simp at e, fun i ety n e => by simp at e, fun i s p e => by simp at e, fun i u o xs e => by simp at e, fun i k e0 es e => by simp at e⟩

theorem run_callFunc {P : Program} {f : FuncId} {args : Array Value} {fn : Func} {w : World} (hf : P.funcs[f]? = some fn) (hn : (fn.name == "runtime.NumGoroutine") = false) (hb : fn.body.isNone = false) :
    (callFunc f args).run P w = .ok (.enter f args) w := by
  have hb' : fn.body ≠ none := by intro h; rw [h] at hb; cases hb
  have hn' : fn.name ≠ "runtime.NumGoroutine" := by intro h; rw [h] at hn; cases hn
  simp [callFunc, hf, hb', hn']

include hC in
theorem Ok_call {f : FuncId} {xs : Array Operand} {ts : Array TypeId} {pts rts : List TypeId} {args rs : List E} (ho : o.op = .call { callee := .value (.func f), args := xs, argTypes := ts })
    (hx : argsE C.tb env pts xs.toList = some args) (h : FnOk C.P C.tb f pts rts args rs) : OpOk C o env σ ⟨True, retD rts rs, σ⟩ := by
  refine OpOk_do (by simp [isVal, ho]) ?_
  intro H β a w hr he hd K Qx hK
  obtain ⟨⟨fn, hf, hn, hb⟩, hal, hcall⟩ := h
  obtain ⟨l1, l2, l3⟩ := argsE_rel hC he hx
  have hrun : (execOp a.eval o).run C.P w = .ok (.enter f (xs.map a.eval)) w := by
    simp [execOp, ho, resolve, Act.eval, Deferred.ofValue, invoke, run_callFunc hf hn hb]
  simp only [Oper.wp, hrun, Oper.upon]
  have hargs : ArgsAt C.tb (strip H) [] [] (xs.map a.eval) (typed pts args) := by
    refine ⟨⟨by rw [typed_length l1]; simpa using l2, he.1.2.mono fun _ _ _ e => strip_pers.2 e⟩, fun i v d hv hd => ?_⟩
    simp only [Array.getElem?_map, Option.map_eq_some_iff] at hv
    obtain ⟨x, hx, rfl⟩ := hv
    exact l3 i x d (by simpa using hx) hd
  refine (hcall (strip H) w _ ⟨fun b o v e => hr.pers b o v (strip_pers.1 e), fun b o e => hr.dom b o fun h0 => e (by simp [strip, h0])⟩ (fun _ _ _ => strip_mine) hargs).mono ?_
  rintro e w' ⟨v, H', rfl, hb', hv', hs⟩
  obtain ⟨k1, k2, k3, k4⟩ := hr.after hb' hs
  exact hK v _ w' _ β σ ⟨rfl, rfl⟩ k1 (hv'.lift0 β σ k4) k2 k3

/-! ### how a contract is proved -/

def argEnv : Nat → List D → Env
  | _, [] => []
  | i, d :: ds => (i, d) :: argEnv (i + 1) ds
theorem argEnv_get : ∀ (ds : List D) (i t : Nat), getD (argEnv i ds) t = if i ≤ t then (ds[t - i]?).getD .any else .any
  | [], i, t => by simp [argEnv, getD]
  | d :: ds, i, t => by
    have hg : getD (argEnv i (d :: ds)) t = match Nat.beq i t with | true => d | false => getD (argEnv (i + 1) ds) t := rfl
    rw [hg]
    cases hb : Nat.beq i t with
    | true => have := Nat.eq_of_beq_eq_true hb; subst this; simp
    | false =>
      have hne := Nat.ne_of_beq_eq_false hb
      simp only []
      rw [argEnv_get ds (i + 1) t]
      by_cases h : i + 1 ≤ t
      · rw [if_pos h, if_pos (by omega), show t - i = (t - (i + 1)) + 1 by omega]; simp
      · rw [if_neg h, if_neg (by omega)]

def resOf (tb : Tab) (env : Env) (σ : List Blk) : ResultVar → Option D
  | .tmp t => some (getD env t)
  | .cell a ty => match getD env a with
    | .ptr i p => match σ[i]? with
      | some (.tree ty' X) => match same tb (tyAt tb ty' p) ty with
        | true => some (ldD ty (getT p X))
        | false => none
      | _ => none
    | _ => none
/-- What the model reads as a result. -/
def resRun (tmps : Array Value) : ResultVar → Sem Value
  | .tmp t => pure (tmps.getD t undef)
  | .cell a t => do loadVar t (← asAddr (tmps.getD a undef))
def resE (tb : Tab) (env : Env) (σ : List Blk) : List TypeId → List ResultVar → Option (List E)
  | [], [] => some []
  | t :: ts, r :: rs => match resOf tb env σ r with
    | some d => match asT tb t d with
      | some y => match toE y with
        | some z => match resE tb env σ ts rs with
          | some zs => some (z :: zs)
          | none => none
        | none => none
      | none => none
    | none => none
  | _, _ => none

include hC in
theorem resOf_rel {H β n a w r d} (hr : Rel C.tb H β σ w) (he : EnvRel C.tb H β σ n a env) (h : resOf C.tb env σ r = some d) :
    ∃ v, (resRun a.tmps r).run C.P w = .ok v w ∧ DRel C.tb H β σ v d := by
  cases r with
  | tmp t => simp only [resOf, Option.some.injEq] at h; subst h; exact ⟨_, rfl, he.get t⟩
  | cell x t =>
    simp only [resOf] at h
    split at h
    · rename_i i p hp
      split at h
      · rename_i ty' X hi
        split at h
        · rename_i hs
          cases h
          have hv := he.get x
          rw [hp] at hv
          obtain ⟨ad, hv, hpa⟩ := hv.ptr_inv
          obtain ⟨b, off, ty2, X2, o', u, rfl, e2, e1, e3, e4, cs, f2, f3, f4, _⟩ := hr.at hC hpa
          rw [hi] at e2; cases e2
          rw [e4] at hs
          have ht' := same_td hs
          have hpart := (f4.part hC.tab e3).cast hC.tab ht'
          have hle := offT_le hC.tab e3
          obtain ⟨v, hrun, hvc⟩ := run_loadVar_cells hC.tab (b := b) (o := off + o') (vs := seg cs o' (sz C.tb u)) (w := w) (hpart.len hC.tab) hpart.td_ne (fun j v hj => by
            have hjl : j < sz C.tb u := by
              rcases Nat.lt_or_ge j (sz C.tb u) with h | h
              · exact h
              · rw [List.getElem?_eq_none (by simp [seg]; omega)] at hj; cases hj
            rw [seg_get hjl] at hj
            have := (f3 (o' + j) v hj).1
            rwa [← Nat.add_assoc] at this)
          refine ⟨v, ?_, ldD_rel hvc hpart⟩
          simp [resRun, hv, asAddr, hrun]
        · cases h
      · cases h
    · cases h

include hC in
theorem resE_rel {H β n a w} (hr : Rel C.tb H β σ w) (he : EnvRel C.tb H β σ n a env) : ∀ {ts : List TypeId} {rs : List ResultVar} {ys : List E}, resE C.tb env σ ts rs = some ys →
    ∃ vs : List Value, (rs.mapM (resRun a.tmps)).run C.P w = .ok vs w ∧ vs.length = ts.length ∧ ys.length = ts.length ∧
      ∀ (i : Nat) v d, vs[i]? = some v → (typed ts ys)[i]? = some d → DRel C.tb H [] [] v d
  | [], [], ys, h => by simp [resE] at h; subst h; exact ⟨[], rfl, rfl, rfl, fun i v d hv => by simp at hv⟩
  | t :: ts, r :: rs, ys, h => by
    unfold resE at h
    split at h
    · rename_i d hd
      split at h
      · rename_i y hy
        split at h
        · rename_i z hz
          split at h
          · rename_i zs hzs
            cases h
            obtain ⟨v, hrun, hv⟩ := resOf_rel hC hr he hd
            obtain ⟨vs, hrun2, h1, h2, h3⟩ := resE_rel hr he hzs
            obtain ⟨cs, hvc, htr⟩ := asT_rel hC hv hy
            refine ⟨v :: vs, ?_, by simp [h1], by simp [h2], fun i u q hu hq => ?_⟩
            · simp only [List.mapM_cons, Sem.run_bind, hrun, Result.andThen, hrun2]; rfl
            · cases i with
              | zero => simp at hu; simp [typed] at hq; subst hu; subst hq; exact .t hvc (.e (htr.toE hz))
              | succ i => exact h3 i u q (by simpa using hu) (by simpa [typed] using hq)
          · cases h
        · cases h
      · cases h
    · cases h
  | [], _ :: _, _, h => by simp [resE] at h
  | _ :: _, [], _, h => by simp [resE] at h

def oneOf : List Value → Value
  | [v] => v
  | vs => .tuple vs.toArray
theorem run_results {P : Program} {fn : Func} {tmps : Array Value} {vs : List Value} {w : World} (h : (fn.results.toList.mapM (resRun tmps)).run P w = .ok vs w) :
    (results fn tmps).run P w = .ok (oneOf vs) w := by
  have key : results fn tmps = (do let vs ← fn.results.mapM (resRun tmps); pure (if h : vs.size = 1 then vs[0] else .tuple vs)) := rfl
  rw [key, Array.mapM_eq_mapM_toList]
  simp only [Sem.run_bind, Sem.run_map, h, Result.andThen]
  match vs with
  | [] => rfl
  | [v] => rfl
  | u :: v :: r => simp [oneOf]

theorem FnOk_of_V {P : Program} {tb : Tab} {bt : TypeId} {f : FuncId} {fn : Func} {c : Code} {pts rts : List TypeId} {args rs : List E}
    (hC : Ok ⟨P, tb, 0, fn.ntmps, bt⟩) (hf : P.funcs[f]? = some fn) (hn : (fn.name == "runtime.NumGoroutine") = false) (hb : fn.body = some c) (hl : args.length = pts.length) (hle : pts.length ≤ fn.ntmps)
    (hV : (∀ (i : Nat) t x, pts[i]? = some t → args[i]? = some x → Wt tb t x) → V ⟨P, tb, 0, fn.ntmps, bt⟩ c (argEnv 0 (typed pts args)) [] (fun x e s => (x = .nrm ∨ x = .ret) ∧ resE tb e s rts fn.results.toList = some rs)) :
    FnOk P tb f pts rts args rs := by
  refine ⟨⟨fn, hf, hn, by rw [hb]; rfl⟩, hl, fun H w vals hbase hmine hargs => ?_⟩
  have htl := typed_length hl
  obtain ⟨⟨hsz, hgl⟩, hrel⟩ := hargs
  have hwt : ∀ (i : Nat) t x, pts[i]? = some t → args[i]? = some x → Wt tb t x := by
    have key : ∀ (ts : List TypeId) (xs : List E) (i : Nat) t x, ts[i]? = some t → xs[i]? = some x → (typed ts xs)[i]? = some (.t t (.e x)) := by
      intro ts
      induction ts with
      | nil => intro xs i t x ht; simp at ht
      | cons u ts ih =>
        intro xs i t x ht hx
        cases xs with
        | nil => simp at hx
        | cons y ys =>
          cases i with
          | zero => simp at ht hx; subst ht; subst hx; rfl
          | succ i => simpa [typed] using ih ys i t x (by simpa using ht) (by simpa using hx)
    intro i t x ht hx
    have hd := key pts args i t x ht hx
    have hi : i < vals.size := by rw [hsz]; exact (List.getElem?_eq_some_iff.1 hd).1
    have := hrel i vals[i] _ (Array.getElem?_eq_getElem hi) hd
    generalize vals[i] = vi at this
    cases this with
    | t a b => exact ⟨H, _, b.rd⟩
  refine calls_of_wp hf hb ?_
  have henv : EnvRel tb H [] [] fn.ntmps { tmps := vals ++ Array.replicate (fn.ntmps - vals.size) undef, defers := [] } (argEnv 0 (typed pts args)) := by
    refine ⟨⟨by simp; omega, hgl⟩, fun t => ?_⟩
    rw [argEnv_get, if_pos (Nat.zero_le _), Nat.sub_zero]
    cases hd : (typed pts args)[t]? with
    | none => exact .any
    | some d =>
      have ht : t < vals.size := by rw [hsz]; exact (List.getElem?_eq_some_iff.1 hd).1
      have := hrel t vals[t] d (Array.getElem?_eq_getElem ht) hd
      have hge : (vals ++ Array.replicate (fn.ntmps - vals.size) undef).getD t undef = vals[t] := by
        rw [Array.getD_eq_getD_getElem?, Array.getElem?_append_left ht, Array.getElem?_eq_getElem ht]; rfl
      simp only [Option.getD_some]
      rw [hge]; exact this
  have hw := hV hwt H [] _ w (hbase.rel (tb := tb)) henv rfl
  refine wp_mono hw ?_
  rintro e a' w' ⟨x, hx, env', σ', H', β', ⟨hxx, hres⟩, r⟩
  obtain ⟨vs, hrun, h1, h2, h3⟩ := resE_rel hC r.rel r.env hres
  have hrr := run_results hrun
  have hv : DRel tb H' [] [] (oneOf vs) (retD rts rs) := by
    have tup : DRel tb H' [] [] (.tuple vs.toArray) (.tup (typed rts rs)) := by
      refine .tup (by rw [typed_length h2]; simpa using h1) fun i v d hv hd => h3 i v d (by simpa using hv) hd
    match vs, rts, rs, h1, h2, h3, tup with
    | [v], [t], [y], _, _, h3, _ => exact h3 0 v _ rfl rfl
    | [], [], [], _, _, _, tup => exact tup
    | _ :: _ :: _, _ :: _ :: _, _ :: _ :: _, _, _, _, tup => exact tup
  have goal : ∃ v H'', Ending.returned (oneOf vs) = .returned v ∧ Base H'' w' ∧ DRel tb H'' [] [] v (retD rts rs) ∧ Stp H w H'' w' :=
    ⟨_, H', rfl, r.rel.base, hv, r.stp⟩
  cases e with
  | normal => exact ⟨r.defers, _, hrr, goal⟩
  | ret => exact ⟨r.defers, _, hrr, goal⟩
  | exit id => cases hx; rcases hxx with h | h <;> cases h
  | goto l => cases hx
  | panic ch => cases hx
  | outgrown => cases hx
end
end Go.Den
