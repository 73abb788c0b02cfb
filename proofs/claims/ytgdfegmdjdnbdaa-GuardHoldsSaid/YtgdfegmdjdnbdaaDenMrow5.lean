/- Rules that turn what is told of a state; bytes of a text; equal arrays; pointers that nobody watches. -/
import Derived.Test.YtgdfegmdjdnbdaaDenMrow4
namespace Go.Den
open Go
set_option linter.unusedSectionVars false
set_option linter.unusedSimpArgs false
set_option linter.unusedVariables false

def splitsC : List It → Bool
  | .c _ :: _ | .r _ _ :: _ => true
  | _ => false

section
variable {C : Cx} {env : Env} {σ : List Blk} {Q : Post}

theorem VX_state {k : List It} {env' : Env} {σ' : List Blk} (hk : splitsC k = true)
    (h : ∀ H β a w, Rel C.tb H β σ w → EnvRel C.tb H β σ C.n a env → ∃ H' β', Rel C.tb H' β' σ' w ∧ EnvRel C.tb H' β' σ' C.n a env' ∧ Stp H w H' w ∧ Kp C.k0 β σ β' σ')
    (hv : VX C Q k .nrm env' σ') : VX C Q k .nrm env σ := by
  match k, hk with
  | .c code :: k, _ =>
    intro H β a w hr he hd
    obtain ⟨H', β', h1, h2, h3, h4⟩ := h H β a w hr he
    exact wp_mono (hv H' β' a w h1 h2 hd) fun _ _ _ hl => hl.trans h3 h4
  | .r full l :: k, _ =>
    intro H β a w hr he hd
    obtain ⟨H', β', h1, h2, h3, h4⟩ := h H β a w hr he
    exact wpList_mono (fun _ _ _ hl => hl.trans h3 h4) _ _ _ (hv H' β' a w h1 h2 hd)

/-- A new empty row. -/
theorem Rel.addM {tb H β σ w} (h : Rel tb H β σ w) (u : TypeId) : Rel tb H (β ++ [.slice none 0 0]) (σ ++ [.mrow u true []]) w ∧ Ev H β σ H (β ++ [.slice none 0 0]) (σ ++ [.mrow u true []]) := by
  have hl := h.len
  have hev : Ev H β σ H (β ++ [.slice none 0 0]) (σ ++ [.mrow u true []]) := Ev.app hl fun _ _ _ e => e
  refine ⟨⟨h.pers, h.dom, by simp [hl], fun i k bv hk hv => ?_⟩, hev⟩
  rcases Nat.lt_or_ge i σ.length with hi | hi
  · rw [List.getElem?_append_left hi] at hk
    rw [List.getElem?_append_left (by omega)] at hv
    exact (h.blk i k bv hk hv).mono hev (fun b o e => ⟨e, rfl, fun _ _ => rfl, rfl⟩) (fun b s p _ e => e)
  · have : i = σ.length := by have := (List.getElem?_eq_some_iff.1 hk).1; simp at this; omega
    subst this
    rw [List.getElem?_append_right (Nat.le_refl _)] at hk
    rw [List.getElem?_append_right (by omega)] at hv
    simp [hl] at hk hv
    subst hk; subst hv
    exact .inl ⟨rfl, rfl⟩

/-- A temporary's nil slice is a row that is written from here on. -/
theorem VX_promMt {k : List It} (hk : splitsC k = true) (t : Nat) {ty u : TypeId} (ht : getD env t = .t ty .nsl) (hu : td C.tb ty = .sl u)
    (h : VX C Q k .nrm ((t, .t ty (.msl σ.length 0)) :: env) (σ ++ [.mrow u true []])) : VX C Q k .nrm env σ := by
  refine VX_state hk (fun H β a w hr he => ?_) h
  obtain ⟨h1, h2⟩ := hr.addM u
  refine ⟨H, _, h1, ?_, .refl _ _, h2.kp _⟩
  refine (he.mono h2).shadow fun v hv => ?_
  rw [ht] at hv
  cases hv with
  | t a b => cases b with
    | nsl c => exact .t a (.msl hu ⟨_, _, rfl, Nat.zero_le _⟩ ⟨true, [], by simp, Nat.le_refl _, fun _ => by simp [← hr.len]⟩)

theorem getT_cell {P : Program} {tb : Tab} (hT : TabOk P tb) {H β σ ty cs X p o v} (h : TRel tb H β σ ty cs X) (ho : offT tb ty p = some (o, v)) (hX : getT p X = .nsl) : seg cs o (sz tb v) = [.slice none 0 0] := by
  have := h.part hT ho
  rw [hX] at this
  generalize seg cs o (sz tb v) = ds at this
  cases this with
  | nsl => rfl

/-- One tree told otherwise. -/
theorem Rel.retree {tb H β σ w} (h : Rel tb H β σ w) {i : Nat} {ty : TypeId} {X X' : T} (hi : σ[i]? = some (.tree ty X)) (hX : ∀ cs, TRel tb H β σ ty cs X → TRel tb H β σ ty cs X') :
    Rel tb H β (σ.set i (.tree ty X')) w ∧ Ev H β σ H β (σ.set i (.tree ty X')) := by
  have hil : i < σ.length := (List.getElem?_eq_some_iff.1 hi).1
  have hev : Ev H β σ H β (σ.set i (.tree ty X')) := by
    refine ⟨fun _ _ _ e => e, fun j ty2 z hj => ?_, fun j ety m hj => ?_, fun j s p hj => ?_, fun j ety oo zs hj => ?_⟩
    · by_cases hji : i = j
      · subst hji; rw [hi] at hj; cases hj; exact ⟨rfl, X', by simp [hil]⟩
      · exact ⟨rfl, z, by rw [List.getElem?_set_ne hji]; exact hj⟩
    · have hne : i ≠ j := fun e => by subst e; rw [hi] at hj; cases hj
      exact ⟨m, by rw [List.getElem?_set_ne hne]; exact hj, Nat.le_refl _, fun _ => rfl⟩
    · have hne : i ≠ j := fun e => by subst e; rw [hi] at hj; cases hj
      exact ⟨rfl, s, p, by rw [List.getElem?_set_ne hne]; exact hj⟩
    · have hne : i ≠ j := fun e => by subst e; rw [hi] at hj; cases hj
      exact ⟨oo, zs, by rw [List.getElem?_set_ne hne]; exact hj, Nat.le_refl _, fun _ => rfl⟩
  refine ⟨⟨h.pers, h.dom, by simp [h.len], fun j k bv hk hv => ?_⟩, hev⟩
  by_cases hji : i = j
  · subst hji
    rw [List.getElem?_set_self hil] at hk; cases hk
    obtain ⟨b, off, cs, e1, e2, e0, e3, e4⟩ := h.blk i _ bv hi hv
    exact ⟨b, off, cs, e1, e2, e0, e3, (hX cs e4).mono hev⟩
  · rw [List.getElem?_set_ne hji] at hk
    exact (h.blk j k bv hk hv).mono hev (fun b o e => ⟨e, rfl, fun _ _ => rfl, rfl⟩) (fun b s p _ e => e)

/-- A variable's nil slice is a row that is written from here on. -/
theorem VX_promM {k : List It} (hC : Ok C) (hk : splitsC k = true) (i : Nat) (p : List Nat) {ty v u : TypeId} {X : T} {o : Nat} (hi : σ[i]? = some (.tree ty X)) (hX : getT p X = .nsl) (ho : offT C.tb ty p = some (o, v)) (hu : td C.tb v = .sl u)
    {σ' : List Blk} (hσ : ((σ ++ [Blk.mrow u true []]).set i (.tree ty (setT p (.msl σ.length 0) X))) = σ') (h : VX C Q k .nrm env σ') : VX C Q k .nrm env σ := by
  subst hσ
  refine VX_state hk (fun H β a w hr he => ?_) h
  obtain ⟨h1, h2⟩ := hr.addM u
  have hil : i < σ.length := (List.getElem?_eq_some_iff.1 hi).1
  have hi' : (σ ++ [Blk.mrow u true []])[i]? = some (.tree ty X) := by rw [List.getElem?_append_left hil]; exact hi
  obtain ⟨h3, h4⟩ := h1.retree (X' := setT p (.msl σ.length 0) X) hi' fun cs hcs => by
    have hc := getT_cell hC.tab hcs ho hX
    have hsz : sz C.tb v = 1 := hC.tab.sz_one (by simp [isAggT, hu]) (by rw [hu]; simp)
    have hy : TRel C.tb H (β ++ [.slice none 0 0]) (σ ++ [.mrow u true []]) v [.slice none 0 0] (.msl σ.length 0) :=
      .msl hu ⟨_, _, rfl, Nat.zero_le _⟩ ⟨true, [], by simp, Nat.le_refl _, fun _ => by simp [← hr.len]⟩
    have := hcs.put hC.tab ho hy
    have hle := offT_le hC.tab ho
    have hcl := hcs.len hC.tab
    have he : splice cs o [.slice none 0 0] = cs := by
      rw [← hc]
      apply List.ext_getElem?
      intro j
      have hsl : (seg cs o (sz C.tb v)).length = sz C.tb v := seg_length (by omega)
      rw [splice_get (by omega), hsl]
      by_cases h1 : j < o
      · rw [if_pos h1]
      · rw [if_neg h1]
        by_cases h2 : j < o + sz C.tb v
        · rw [if_pos h2, seg_get (by omega), show o + (j - o) = j by omega]
        · rw [if_neg h2]
    rwa [he] at this
  exact ⟨H, _, h3, (he.mono h2).mono h4, .refl _ _, (h2.trans h4).kp _⟩

/-- A row is told once for all. -/
theorem VX_frz {k : List It} (hk : splitsC k = true) (i : Nat) {u : TypeId} {xs : List E} (hi : σ[i]? = some (.mrow u true xs)) {σ' : List Blk} (hσ : σ.set i (.mrow u false xs) = σ')
    (h : VX C Q k .nrm env σ') : VX C Q k .nrm env σ := by
  subst hσ
  refine VX_state hk (fun H β a w hr he => ?_) h
  have hil : i < β.length := by rw [hr.len]; exact (List.getElem?_eq_some_iff.1 hi).1
  obtain ⟨H', h1, h2, _, h4⟩ := hr.frz hi (List.getElem?_eq_getElem hil) (.inl rfl)
  exact ⟨H', β, h1, he.mono h4, h2, h4.kp _⟩

theorem DRel.mE {tb : Tab} {H β σ w v ty u i n xs} (hr : Rel tb H β σ w) (h : DRel tb H β σ v (.t ty (.msl i n))) (hi : σ[i]? = some (.mrow u false xs)) (hn : n = xs.length) : DRel tb H β σ v (.t ty (.e (.sl xs))) := by
  cases h with
  | @t ty v cs z a b => cases b with
    | msl c d e =>
      obtain ⟨ow, xs', k1, k2, k3⟩ := e
      rw [hi] at k1; cases k1
      have hβ := k3 hn
      have hM : MRel tb H w i _ u false xs := hr.blk i _ _ hi hβ
      exact .t a (.e (hM _ c))
/-- A slice of a row that is told: data. -/
theorem VX_mE {k : List It} (hk : splitsC k = true) (t : Nat) {ty u : TypeId} {i n : Nat} {xs : List E} (ht : getD env t = .t ty (.msl i n)) (hi : σ[i]? = some (.mrow u false xs)) (hn : n = xs.length)
    (h : VX C Q k .nrm ((t, .t ty (.e (.sl xs))) :: env) σ) : VX C Q k .nrm env σ :=
  VX_state hk (fun H β a w hr he => ⟨H, β, hr, he.shadow fun v hv => (ht ▸ hv).mE hr hi hn, .refl _ _, .refl _ _ _⟩) h
end

section
variable {C : Cx} (hC : Ok C) {o : Oper} {env : Env} {σ : List Blk}
include hC

/-- The bytes of a text, anew. -/
theorem OpV_bytes {s d u : TypeId} {x : Operand} {dx : D} {l : List UInt8} (ho : o.op = .convert s d x) (hs : td C.tb s = .str) (hd : td C.tb d = .sl u) (hu : td C.tb u = .int .u8) (hx : opd C.tb env s x = some dx) (hl : strAny dx = some l) :
    OpV C o env σ (fun d' s' => d' = .t d (.e (.sl (l.map byteE))) ∧ s' = σ) := by
  intro H β a w hr he hdf K Qx hK
  obtain ⟨hv, hlen⟩ := strAny_rel (opd_rel he hx) hl
  have hsz : sz C.tb u = 1 := hC.tab.sz_one (by simp [isAggT, hu]) (by rw [hu]; simp)
  have hrun := run_bytes_of_string (P := C.P) w s d u ⟨⟨l⟩⟩ (hC.tab.str hs) (hC.tab.sl hd) (hC.tab.int hu)
  generalize hcap : grownCap w (ByteArray.size ⟨⟨l⟩⟩) 0 u = cap at hrun
  have hcap' : l.length ≤ cap := by
    have : (ByteArray.size ⟨⟨l⟩⟩) = l.length := rfl
    rw [← hcap, this]; simp [grownCap, Question.cut]
  let ob : Obj := .cells (bytesRow ⟨⟨l⟩⟩ cap) u ((bytesRow ⟨⟨l⟩⟩ cap).size, (bytesRow ⟨⟨l⟩⟩ cap).size + 1)
  have hcs : ∀ (j : Nat) v, (l.map fun b => Value.int .u8 b.toNat)[j]? = some v → (w.drew.alloc ob).cell? ⟨w.heap.size, j, none⟩ = some v := fun j v hj => by
    have hjl : j < l.length := by have := (List.getElem?_eq_some_iff.1 hj).1; simpa using this
    have : (w.drew.alloc ob).heap[w.drew.heap.size]? = some ob := heap_alloc_new w.drew ob
    rw [show w.drew.heap.size = w.heap.size from rfl] at this
    simp only [World.cell?, this, ob]
    simp only [bytesRow]
    rw [Array.getElem?_append_left (by simpa using hjl)]
    simpa using hj
  let f : Nat → Own := fun o => match (l.map fun b => Value.int .u8 b.toNat)[o]? with
    | some v => .pers v
    | none => .none
  obtain ⟨hr2, hev⟩ := hr.drew.alloc ob f [] [] rfl (fun o v hv => by
    simp only [f] at hv
    split at hv
    · rename_i v' hv'; cases hv; exact hcs o _ hv'
    · cases hv) (fun i k bv hk => by simp at hk)
  simp only [List.append_nil] at hr2 hev
  have hstp : Stp H w _ (w.drew.alloc ob) := (Stp.drew H w).trans (Stp.alloc (w := w.drew) hr.dom ob f)
  have hex : (execOp a.eval o).run C.P w = .ok (.value (.slice (some ⟨w.heap.size, 0, none⟩) l.length cap)) (w.drew.alloc ob) := by
    have hsl : (⟨⟨l⟩⟩ : ByteArray).size = l.length := rfl
    rw [hsl] at hrun
    simp [execOp, ho, hv, sv, hrun, ob]
  simp only [Oper.wp, hex, Oper.upon]
  refine hK _ _ _ _ β σ ⟨rfl, rfl⟩ hr2 ?_ hstp hev
  refine .t (cs := [.slice (some ⟨w.heap.size, 0, none⟩) l.length cap]) (by simp [VC, isAggT, hd]) (.e ?_)
  have hlm : (l.map byteE).length = l.length := by simp
  rw [← hlm]
  refine .sl (cs := l.map fun b => .int .u8 b.toNat) hd (by simp [hsz]) (fun j v hj => ?_) (fun i x hx => ?_) (by rw [hlm]; exact hcap') (by rw [hlm]; unfold maxI at hlen; unfold maxN; omega)
  · rw [Nat.zero_add]
    show (if _ then _ else _) = _
    rw [if_pos (show w.heap.size = w.drew.heap.size from rfl)]; simp only [f, hj]
  · simp only [List.getElem?_map, Option.map_eq_some_iff] at hx
    obtain ⟨b, hb1, rfl⟩ := hx
    have : seg (l.map fun b => Value.int .u8 b.toNat) (i * sz C.tb u) (sz C.tb u) = [.int .u8 b.toNat] := by
      rw [hsz, Nat.mul_one]
      unfold seg
      rw [List.take_one, List.head?_drop]
      simp [hb1]
    rw [this]
    exact .int hu (inR_wrap (by have := b.toNat_lt; simp [inR]; omega))

/-! ### pointers that nobody watches -/
theorem shape_at {H β w i p a} {ty : TypeId} {X : T} {u : TypeId} {o : Nat} (hr : Rel C.tb H β σ w) (hp : PtrAt C.tb β σ i p a) (hi : σ[i]? = some (.tree ty X)) (ho : offT C.tb ty p = some (o, u)) (hz : 0 < sz C.tb u) :
    a.off = o ∧ o < sz C.tb ty ∧ w.shape? a.block = some (ty, sz C.tb ty) := by
  obtain ⟨b, off, ty', X', o', u', rfl, e2, e1, e3, e4, cs, f2, f3, f4, f0⟩ := hr.at hC hp
  rw [hi] at e2; cases e2
  rw [ho] at e3; cases e3
  have hle := offT_le hC.tab ho
  obtain ⟨g1, g2⟩ := f0 (by omega)
  subst g1
  exact ⟨by simp, by omega, g2⟩

/-- A pointer to a part, as an unsafe.Pointer. -/
theorem OpV_toUnsafe {s d v u ty : TypeId} {q i : Nat} {p : List Nat} {X : T} {o' : Nat} (ho : o.op = .convert s d (.tmp q)) (hs : td C.tb s = .ptr v) (hv : sz C.tb v ≠ 0) (hd : C.P.underlying d = some .unsafePointer)
    (hq : getD env q = .ptr i p) (hi : σ[i]? = some (.tree ty X)) (hof : offT C.tb ty p = some (o', u)) (hu : 0 < sz C.tb u) : OpV C o env σ (fun d' s' => d' = .ptr i p ∧ s' = σ) := by
  intro H β a w hr he hdf K Qx hK
  have hv' := he.get q
  rw [hq] at hv'
  obtain ⟨ad, hve, hp⟩ := hv'.ptr_inv
  obtain ⟨h1, h2, h3⟩ := shape_at hC hr hp hi hof hu
  obtain ⟨j, hj, hjs, _⟩ := hC.tab.info (lt_of_sz hC hv)
  have hrun := Lib.run_to_unsafe (P := C.P) w ad (hC.tab.ptr hs) hd hj (by rw [hjs]; exact hv) h3 (by rw [h1]; exact h2)
  have hve' : a.eval (.tmp q) = .pointer (some ad) := hve
  have hex : (execOp a.eval o).run C.P w = .ok (.value (.pointer (some ad))) w := by simp [execOp, ho, hve', hrun]
  simp only [Oper.wp, hex, Oper.upon]
  exact hK _ _ w H β σ ⟨rfl, rfl⟩ hr (.ptr hp) (.refl _ _) (.refl _ _ _)
/-- .. and back. -/
theorem OpV_ofUnsafe {s d v u ty : TypeId} {q i : Nat} {p : List Nat} {X : T} {o' : Nat} (ho : o.op = .convert s d (.tmp q)) (hs : C.P.underlying s = some .unsafePointer) (hd : td C.tb d = .ptr v) (hv : sz C.tb v ≠ 0)
    (hq : getD env q = .ptr i p) (hi : σ[i]? = some (.tree ty X)) (hof : offT C.tb ty p = some (o', u)) (hu : 0 < sz C.tb u) (hl : liesAt C.P C.P.depth ty (sz C.tb ty / C.P.cellsOf ty) o' v 1 = true) : OpV C o env σ (fun d' s' => d' = .ptr i p ∧ s' = σ) := by
  intro H β a w hr he hdf K Qx hK
  have hv' := he.get q
  rw [hq] at hv'
  obtain ⟨ad, hve, hp⟩ := hv'.ptr_inv
  obtain ⟨h1, h2, h3⟩ := shape_at hC hr hp hi hof hu
  obtain ⟨j, hj, hjs, _⟩ := hC.tab.info (lt_of_sz hC hv)
  have hrun := Lib.run_from_unsafe (P := C.P) w ad hs (hC.tab.ptr hd) hj h3 (by rw [h1]; exact hl)
  have hve' : a.eval (.tmp q) = .pointer (some ad) := hve
  have hex : (execOp a.eval o).run C.P w = .ok (.value (.pointer (some ad))) w := by simp [execOp, ho, hve', hrun]
  simp only [Oper.wp, hex, Oper.upon]
  exact hK _ _ w H β σ ⟨rfl, rfl⟩ hr (.ptr hp) (.refl _ _) (.refl _ _ _)
/-- internal/abi.NoEscape. -/
theorem OpV_noEscape {f : FuncId} {q : Nat} {tys : Array TypeId} {dq : D} (ho : o.op = .call { callee := .value (.func f), args := #[.tmp q], argTypes := tys }) (hf : ∀ (x : Value) (w : World), (callFunc f #[x]).run C.P w = .ok (.value x) w)
    (hq : getD env q = dq) : OpV C o env σ (fun d' s' => d' = dq ∧ s' = σ) := by
  intro H β a w hr he hdf K Qx hK
  have hv' := he.get q
  rw [hq] at hv'
  have hex : (execOp a.eval o).run C.P w = .ok (.value (a.tmps.getD q undef)) w := by
    have := hf (a.tmps.getD q undef) w
    simp [execOp, ho, resolve, Act.eval, Deferred.ofValue, invoke] at this ⊢
    exact this
  simp only [Oper.wp, hex, Oper.upon]
  exact hK _ _ w H β σ ⟨rfl, rfl⟩ hr hv' (.refl _ _) (.refl _ _ _)
end
end Go.Den
namespace Go.Den
open Go
section
variable {C : Cx} {env : Env} {σ : List Blk} {Q : Post}
/-- A variable's nil slice is the newest of an empty row. -/
theorem VX_promT {k : List It} (hC : Ok C) (hk : splitsC k = true) (i : Nat) (p : List Nat) {ty v u : TypeId} {X : T} {o : Nat} (hi : σ[i]? = some (.tree ty X)) (hX : getT p X = .nsl) (ho : offT C.tb ty p = some (o, v)) (hu : td C.tb v = .sl u)
    {σ' : List Blk} (hσ : normBs ((σ ++ [Blk.row u 0]).set i (.tree ty (setT p (.lsl σ.length []) X))) some = some σ') (h : VX C Q k .nrm env σ') : VX C Q k .nrm env σ := by
  rw [normBs_eq] at hσ; cases hσ
  refine VX_state hk (fun H β a w hr he => ?_) h
  obtain ⟨h1, h2⟩ := hr.addRow u
  have hil : i < σ.length := (List.getElem?_eq_some_iff.1 hi).1
  have hi' : (σ ++ [Blk.row u 0])[i]? = some (.tree ty X) := by rw [List.getElem?_append_left hil]; exact hi
  obtain ⟨h3, h4⟩ := h1.retree (X' := setT p (.lsl σ.length []) X) hi' fun cs hcs => by
    have hc := getT_cell hC.tab hcs ho hX
    have hsz : sz C.tb v = 1 := hC.tab.sz_one (by simp [isAggT, hu]) (by rw [hu]; simp)
    have hy : TRel C.tb H (β ++ [.slice none 0 0]) (σ ++ [.row u 0]) v [.slice none 0 0] (.lsl σ.length []) :=
      .lsl hu (.sl0 hu) ⟨0, by simp, Nat.le_refl _, fun _ => by simp [← hr.len]⟩
    have := hcs.put hC.tab ho hy
    have hle := offT_le hC.tab ho
    have hcl := hcs.len hC.tab
    have he : splice cs o [.slice none 0 0] = cs := by
      rw [← hc]
      apply List.ext_getElem?
      intro j
      have hsl : (seg cs o (sz C.tb v)).length = sz C.tb v := seg_length (by omega)
      rw [splice_get (by omega), hsl]
      by_cases h1 : j < o
      · rw [if_pos h1]
      · rw [if_neg h1]
        by_cases h2 : j < o + sz C.tb v
        · rw [if_pos h2, seg_get (by omega), show o + (j - o) = j by omega]
        · rw [if_neg h2]
    rwa [he] at this
  exact ⟨H, _, h3, (he.mono h2).mono h4, .refl _ _, (h2.trans h4).kp _⟩
end
end Go.Den
