/- Variables: the operations on them. -/
import Derived.Test.YtgdfegmdjdnbdaaDenOp3
import Derived.Laws.Rows
namespace Go.Den
open Go
set_option linter.unusedSectionVars false
set_option linter.unusedSimpArgs false
set_option linter.unusedVariables false

/-! ### a new block -/

def hAlloc (H : Gh) (B : Nat) (f : Nat → Own) : Gh := fun b o => if b = B then f o else H b o
theorem hAlloc_old {H : Gh} {B b o f} (h : b ≠ B) : hAlloc H B f b o = H b o := by simp [hAlloc, h]
theorem hAlloc_new {H : Gh} {B o f} : hAlloc H B f B o = f o := by simp [hAlloc]

theorem Ev.app {H : Gh} {β σ H' βx σx} (hl : β.length = σ.length) (hp : ∀ b o v, H b o = .pers v → H' b o = .pers v) : Ev H β σ H' (β ++ βx) (σ ++ σx) := by
  have hlt : ∀ (i : Nat) k, σ[i]? = some k → i < σ.length := fun i k h => (List.getElem?_eq_some_iff.1 h).1
  refine ⟨hp, ?_, ?_, ?_, ?_⟩
  · intro i ty x h
    have := hlt i _ h
    exact ⟨List.getElem?_append_left (by omega), x, by rw [List.getElem?_append_left this]; exact h⟩
  · intro i ety n h
    have := hlt i _ h
    exact ⟨n, by rw [List.getElem?_append_left this]; exact h, Nat.le_refl _, fun _ => List.getElem?_append_left (by omega)⟩
  · intro i s p h
    have := hlt i _ h
    exact ⟨List.getElem?_append_left (by omega), s, p, by rw [List.getElem?_append_left this]; exact h⟩
  · intro i ety o xs h
    have := hlt i _ h
    exact ⟨o, xs, by rw [List.getElem?_append_left this]; exact h, Nat.le_refl _, fun _ => List.getElem?_append_left (by omega)⟩

theorem shape?_alloc_old (w : World) (ob : Obj) {b : Nat} (h : b < w.heap.size) : (w.alloc ob).shape? b = w.shape? b := by
  simp only [World.shape?]; rw [heap_alloc_old w ob b h]
theorem shape?_alloc_new (w : World) (cs : Array Value) (t : TypeId) : (w.alloc (.cells cs t)).shape? w.heap.size = some (t, cs.size) := by
  simp only [World.shape?]; rw [heap_alloc_new w]
theorem Stp.alloc {H : Gh} {w : World} (hd : ∀ b o, H b o ≠ .none → b < w.heap.size) (ob : Obj) (f : Nat → Own) : Stp H w (hAlloc H w.heap.size f) (w.alloc ob) := by
  refine ⟨rfl, rfl, rfl, by simp, ?_, ?_, ?_, ?_, ?_, fun b hb => shape?_alloc_old w ob hb⟩
  · exact fun b hb o _ => hAlloc_old (by omega)
  · intro b hb o i h; rw [hAlloc_old (by omega)] at h; exact ⟨i, h⟩
  · exact fun b hb _ => heap_alloc_old w ob b hb
  · exact fun b hb o _ => World.cell?_alloc_old w ob _ (by show b ≠ _; omega)
  · exact fun b hb o _ _ _ => World.frozen?_alloc_old w ob _ (by show b ≠ _; omega)

theorem Rel.alloc {tb H β σ w} (h : Rel tb H β σ w) (ob : Obj) (f : Nat → Own) (βx : List Value) (σx : List Blk) (hl : βx.length = σx.length)
    (hp : ∀ o v, f o = .pers v → (w.alloc ob).cell? ⟨w.heap.size, o, none⟩ = some v)
    (hx : ∀ (i : Nat) k bv, σx[i]? = some k → βx[i]? = some bv → BlkRel tb (hAlloc H w.heap.size f) (β ++ βx) (σ ++ σx) (w.alloc ob) (σ.length + i) bv k) :
    Rel tb (hAlloc H w.heap.size f) (β ++ βx) (σ ++ σx) (w.alloc ob) ∧ Ev H β σ (hAlloc H w.heap.size f) (β ++ βx) (σ ++ σx) := by
  have hne : ∀ b o, H b o ≠ .none → b ≠ w.heap.size := fun b o hb => by have := h.dom b o hb; omega
  have hev : Ev H β σ (hAlloc H w.heap.size f) (β ++ βx) (σ ++ σx) := Ev.app h.len fun b o v hb => by
    rw [hAlloc_old (hne b o (by rw [hb]; simp))]; exact hb
  refine ⟨⟨?_, ?_, by simp [h.len, hl], ?_⟩, hev⟩
  · intro b o v hb
    by_cases hbs : b = w.heap.size
    · subst hbs; rw [hAlloc_new] at hb; exact hp o v hb
    · rw [hAlloc_old hbs] at hb
      rw [World.cell?_alloc_old w ob _ hbs]; exact h.pers b o v hb
  · intro b o hb
    by_cases hbs : b = w.heap.size
    · subst hbs; simp
    · rw [hAlloc_old hbs] at hb
      have := h.dom b o hb
      simp; omega
  · intro i k bv hk hv
    rcases Nat.lt_or_ge i σ.length with hi | hi
    · rw [List.getElem?_append_left hi] at hk
      rw [List.getElem?_append_left (by rw [h.len]; exact hi)] at hv
      refine (h.blk i k bv hk hv).mono hev (fun b o hb => ?_) (fun b s p hb hs => ?_)
      · have hb' := hne b o (by rw [hb]; simp)
        exact ⟨by rw [hAlloc_old hb']; exact hb, World.cell?_alloc_old w ob _ hb', fun _ _ => World.frozen?_alloc_old w ob _ hb', shape?_alloc_old w ob (h.dom b o (by rw [hb]; simp))⟩
      · have hb' := h.dom b 0 (by rw [hb 0]; simp)
        rw [heap_alloc_old w ob b hb']; exact hs
    · rw [List.getElem?_append_right hi] at hk
      rw [List.getElem?_append_right (by rw [h.len]; exact hi), h.len] at hv
      have := hx (i - σ.length) k bv hk hv
      rwa [show σ.length + (i - σ.length) = i by omega] at this

/-- A new variable with a datum in it. -/
theorem Rel.newTree {P : Program} {tb H β σ w} (h : Rel tb H β σ w) (hT : TabOk P tb) {ty : TypeId} {cs : List Value} {x : T} (hx : TRel tb H β σ ty cs x) (elem : TypeId) (he : elem = ty) :
    ∃ H', Rel tb H' (β ++ [.pointer (some ⟨w.heap.size, 0, none⟩)]) (σ ++ [.tree ty x]) (w.alloc (.cells cs.toArray elem)) ∧
      Ev H β σ H' (β ++ [.pointer (some ⟨w.heap.size, 0, none⟩)]) (σ ++ [.tree ty x]) ∧ Stp H w H' (w.alloc (.cells cs.toArray elem)) := by
  have hev := fun H' hp => Ev.app (H := H) (H' := H') (β := β) (σ := σ) (βx := [.pointer (some ⟨w.heap.size, 0, none⟩)]) (σx := [.tree ty x]) h.len hp
  have r := h.alloc (.cells cs.toArray elem) (fun o => if o < cs.length then .mine σ.length else .none) [.pointer (some ⟨w.heap.size, 0, none⟩)] [.tree ty x] rfl
    (fun o v hv => by split at hv <;> cases hv)
    (fun i k bv hk hv => by
      have hi : i = 0 := by have := (List.getElem?_eq_some_iff.1 hk).1; simp at this; omega
      subst hi
      simp at hk hv; subst hk; subst hv
      refine ⟨w.heap.size, 0, cs, rfl, hx.len hT, fun _ => ⟨rfl, by rw [shape?_alloc_new, he, ← hx.len hT]; simp⟩, fun j v hj => ?_, ?_⟩
      · have hjl : j < cs.length := (List.getElem?_eq_some_iff.1 hj).1
        refine ⟨?_, ?_, ?_⟩
        · simp [World.cell?_alloc_new, hj]
        · rw [hAlloc_new]; simp [hjl]
        · exact World.frozen?_alloc_new w _ _ _
      · refine hx.mono (Ev.app h.len fun b o v hb => ?_)
        have := h.dom b o (by rw [hb]; simp)
        rw [hAlloc_old (by omega)]; exact hb)
  exact ⟨_, r.1, r.2, Stp.alloc h.dom _ _⟩

theorem newPtr {tb β σ i b ty x} (hl : β.length = σ.length) (hi : i = σ.length) : PtrAt tb (β ++ [.pointer (some ⟨b, 0, none⟩)]) (σ ++ [.tree ty x]) i [] ⟨b, 0, none⟩ := by
  subst hi
  exact ⟨b, 0, ty, x, 0, ty, by simp [← hl], by simp, rfl, rfl⟩

/-! ### zero values -/

def zeroT (tb : Tab) : Nat → TypeId → T
  | 0, _ => .e .nilp
  | n + 1, t => match td tb t with
    | .int _ => .e (.int 0)
    | .bool => .e (.bool false)
    | .str => .e (.str [])
    | .ptr _ => .e .nilp
    | .sl _ => .nsl
    | .arr m u => match zeroT tb n u with
      | .e z => .e (.agg (List.replicate m z))
      | z => .st (List.replicate m z)
    | .st fs => match zeroEs (fs.map fun f => zeroT tb n f.1) with
      | some ys => .e (.agg ys)
      | none => .st (fs.map fun f => zeroT tb n f.1)
    | .ifc => .e .nili
    | .fn => .e .nilf
    | .mp _ _ => .e .nilm
    | .other => .e .nilp
where
  zeroEs : List T → Option (List E)
    | [] => some []
    | .e y :: xs => match zeroEs xs with
      | some ys => some (y :: ys)
      | none => none
    | _ => none
/-- The cells of a zero value. -/
def zc (tb : Tab) : Nat → TypeId → List Value
  | 0, _ => []
  | n + 1, t => match td tb t with
    | .int k => [.int k 0]
    | .bool => [.bool false]
    | .str => [.string ⟨⟨[]⟩⟩]
    | .ptr _ => [.pointer none]
    | .sl _ => [.slice none 0 0]
    | .arr m u => (List.replicate m (zc tb n u)).flatten
    | .st fs => (fs.map fun f => zc tb n f.1).flatten
    | .ifc => [.nilIface]
    | .fn => [.nilFunc]
    | .mp _ _ => [.map none]
    | .other => []
def plain (tb : Tab) : Nat → TypeId → Bool
  | 0, _ => false
  | n + 1, t => match td tb t with
    | .arr _ u => plain tb n u
    | .st fs => fs.all fun f => plain tb n f.1
    | .other => false
    | _ => true

theorem zeroEs_get : ∀ {xs : List T} {ys : List E}, zeroT.zeroEs xs = some ys → xs = ys.map .e
  | [], ys, h => by simp [zeroT.zeroEs] at h; subst h; rfl
  | .e y :: xs, ys, h => by
    simp only [zeroT.zeroEs] at h
    split at h
    · rename_i zs hz; cases h; rw [zeroEs_get hz]; rfl
    · cases h
  | .st _ :: _, _, h => by simp [zeroT.zeroEs] at h
  | .nsl :: _, _, h => by simp [zeroT.zeroEs] at h
  | .bsl _ :: _, _, h => by simp [zeroT.zeroEs] at h
  | .lsl _ _ :: _, _, h => by simp [zeroT.zeroEs] at h
  | .ptr _ _ :: _, _, h => by simp [zeroT.zeroEs] at h
  | .fn _ _ :: _, _, h => by simp [zeroT.zeroEs] at h
  | .msl _ _ :: _, _, h => by simp [zeroT.zeroEs] at h

theorem flatten_seg {css : List (List Value)} {n : Nat} (h : ∀ c ∈ css, c.length = n) (i : Nat) (c : List Value) (hi : css[i]? = some c) : seg css.flatten (i * n) n = c := by
  induction css generalizing i with
  | nil => simp at hi
  | cons d css ih =>
    have hd := h d (by simp)
    cases i with
    | zero => simp at hi; subst hi; simp [seg, hd]
    | succ i =>
      have := ih (fun c hc => h c (by simp [hc])) i (by simpa using hi)
      simp only [List.flatten_cons]
      unfold seg at this ⊢
      rw [show (i + 1) * n = d.length + i * n by rw [hd, Nat.add_mul]; omega, ← List.drop_drop, List.drop_left]; exact this
theorem flatten_fields {tb : Tab} (g : TypeId → List Value) : ∀ {fs : List (TypeId × Nat)} {n m : Nat}, fieldsEnd tb fs n = some m → (∀ f ∈ fs, (g f.1).length = sz tb f.1) →
    (fs.map fun f => g f.1).flatten.length = m - n ∧ n ≤ m ∧ ∀ (i : Nat) f, fs[i]? = some f → seg (fs.map fun f => g f.1).flatten (f.2 - n) (sz tb f.1) = g f.1
  | [], n, m, h, _ => by simp [fieldsEnd] at h; subst h; exact ⟨by simp, Nat.le_refl _, fun i f hf => by simp at hf⟩
  | e :: fs, n, m, h, hg => by
    simp only [fieldsEnd] at h
    split at h
    · rename_i hn
      obtain ⟨h1, h2, h3⟩ := flatten_fields g h fun f hf => hg f (by simp [hf])
      have he := hg e (by simp)
      refine ⟨by simp only [List.map_cons, List.flatten_cons, List.length_append, h1, he]; omega, by omega, fun i f hf => ?_⟩
      cases i with
      | zero => simp at hf; subst hf; simp [seg, hn, he]
      | succ i =>
        have hf' : fs[i]? = some f := by simpa using hf
        have := h3 i f hf'
        have hge := ((fieldsEnd_spec h).2 i f hf').1
        simp only [List.map_cons, List.flatten_cons]
        unfold seg at this ⊢
        rw [show f.2 - n = (g e.1).length + (f.2 - (n + sz tb e.1)) by rw [he]; omega, ← List.drop_drop, List.drop_left]; exact this
    · cases h

theorem zeroT_rel {P : Program} {tb : Tab} (hT : TabOk P tb) {H : Gh} {β σ} : ∀ (n : Nat) (t : TypeId), plain tb n t = true → TRel tb H β σ t (zc tb n t) (zeroT tb n t)
  | 0, t, h => by simp [plain] at h
  | n + 1, t, h => by
    unfold plain at h
    unfold zc zeroT
    have w0 : ∀ k : IntKind, k.wrap 0 = 0 := fun k => by cases k <;> rfl
    split at h
    · rename_i m u ht
      simp only [ht]
      have ih := zeroT_rel hT (H := H) (β := β) (σ := σ) n u h
      have hl := ih.len hT
      have hcs : ((List.replicate m (zc tb n u)).flatten).length = m * sz tb u := by simp [hl]
      have hseg : ∀ i, i < m → seg ((List.replicate m (zc tb n u)).flatten) (i * sz tb u) (sz tb u) = zc tb n u := fun i hi =>
        flatten_seg (by intro c hc; rw [List.eq_of_mem_replicate hc]; exact hl) i _ (by simp [hi])
      split
      · rename_i z hz
        rw [hz] at ih
        refine .e (.arr ht hcs (by simp) fun i x hx => ?_)
        obtain ⟨hi, rfl⟩ : i < m ∧ z = x := by simpa [List.getElem?_replicate] using hx
        rw [hseg i hi]; exact ih.rd
      · refine .arr ht hcs (by simp) fun i x hx => ?_
        obtain ⟨hi, rfl⟩ : i < m ∧ zeroT tb n u = x := by simpa [List.getElem?_replicate] using hx
        rw [hseg i hi]; exact ih
    · rename_i fs ht
      simp only [ht]
      have hall : ∀ f ∈ fs, plain tb n f.1 = true := List.all_eq_true.1 h
      have ih : ∀ f ∈ fs, TRel tb H β σ f.1 (zc tb n f.1) (zeroT tb n f.1) := fun f hf => zeroT_rel hT n f.1 (hall f hf)
      obtain ⟨h1, _, h3⟩ := flatten_fields (zc tb n) (hT.sz_st ht) fun f hf => (ih f hf).len hT
      have key : TRel tb H β σ t (fs.map fun f => zc tb n f.1).flatten (.st (fs.map fun f => zeroT tb n f.1)) := by
        refine .st ht (by rw [h1]; rfl) (by simp) fun i f x hf hx => ?_
        rw [show seg (fs.map fun f => zc tb n f.1).flatten f.2 (sz tb f.1) = zc tb n f.1 from h3 i f hf]
        simp [hf] at hx; subst hx
        exact ih f (List.mem_of_getElem? hf)
      split
      · rename_i ys hys
        rw [zeroEs_get hys] at key
        obtain ⟨k1, k2, k3⟩ := key.st_inv ht
        exact .e (.st ht k1 (by simpa using k2) fun i f y hf hy => (k3 i f (.e y) hf (by simp [hy])).rd)
      · exact key
    · cases h
    · cases ht : td tb t with
      | int k => exact .e (.int ht (w0 k))
      | bool => exact .e (.bool ht)
      | str => exact .e (.str (s := []) ht (by decide))
      | ptr u => exact .e (.nilp ht)
      | sl u => exact .nsl ht
      | ifc => exact .e (.nili ht)
      | fn => exact .e (.nilf ht)
      | mp k v => exact .e (.nilm ht)
      | arr m u => simp_all
      | st fs => simp_all
      | other => simp_all

end Go.Den
