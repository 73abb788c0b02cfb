/- More operations: the greater and the smaller of numbers; a slice against nil; a nil slice as a row. -/
import Derived.Test.YtgdfegmdjdnbdaaDenRun
import Derived.Laws.Cover3
namespace Go.Den
open Go
set_option linter.unusedSectionVars false
set_option linter.unusedSimpArgs false
set_option linter.unusedVariables false

section
variable {C : Cx} (hC : Ok C) {o : Oper} {env : Env} {σ : List Blk}

theorem opdArg2 {a : Act} {x y : Operand} {b : Builtin} {ts : Array TypeId} (ho : o.op = .call { callee := .builtin b, args := #[x, y], argTypes := ts }) {P : Program} {w : World} :
    (execOp a.eval o).run P w = (builtin b ts o.type (#[x, y].map fun | .const _ => true | _ => false) #[a.eval x, a.eval y]).run P w := by
  simp [execOp, ho, resolve, invoke]
  rfl

theorem Ok_max {x y : Operand} {t t2 : TypeId} {dx dy : D} {k : IntKind} {a b : Int} (ho : o.op = .call { callee := .builtin .max, args := #[x, y], argTypes := #[t, t2] }) (ht : td C.tb t = .int k) (ht2 : td C.tb t2 = .int k) (hr : td C.tb o.type = .int k)
    (hx : opd C.tb env t x = some dx) (hy : opd C.tb env t2 y = some dy) (ha : intAt C.tb t dx = some a) (hb : intAt C.tb t2 dy = some b) : OpOk C o env σ ⟨True, .t o.type (.e (.int (if b > a then b else a))), σ⟩ :=
  OpOk_val fun H β ac w hr' he => by
    obtain ⟨h1, h2⟩ := intAt_rel (opd_rel he hx) ha ht
    obtain ⟨h3, h4⟩ := intAt_rel (opd_rel he hy) hb ht2
    refine ⟨.int k (if b > a then b else a), fun w' hw' => ?_, .mkInt hr (by split <;> assumption)⟩
    rw [opdArg2 ho]
    simp [builtin, Builtin.max_, Builtin.max2, h1, h3]
theorem Ok_min {x y : Operand} {t t2 : TypeId} {dx dy : D} {k : IntKind} {a b : Int} (ho : o.op = .call { callee := .builtin .min, args := #[x, y], argTypes := #[t, t2] }) (ht : td C.tb t = .int k) (ht2 : td C.tb t2 = .int k) (hr : td C.tb o.type = .int k)
    (hx : opd C.tb env t x = some dx) (hy : opd C.tb env t2 y = some dy) (ha : intAt C.tb t dx = some a) (hb : intAt C.tb t2 dy = some b) : OpOk C o env σ ⟨True, .t o.type (.e (.int (if b < a then b else a))), σ⟩ :=
  OpOk_val fun H β ac w hr' he => by
    obtain ⟨h1, h2⟩ := intAt_rel (opd_rel he hx) ha ht
    obtain ⟨h3, h4⟩ := intAt_rel (opd_rel he hy) hb ht2
    refine ⟨.int k (if b < a then b else a), fun w' hw' => ?_, .mkInt hr (by split <;> assumption)⟩
    rw [opdArg2 ho]
    simp [builtin, Builtin.min_, Builtin.min2, h1, h3]

/-- A slice of data against nil: of a slice with elements the answer is known, of another one it is not. -/
theorem OpV_nilS (hC : Ok C) {op : BinOp} {xt yt u : TypeId} {x : Operand} {dx : D} {xs : List E} (ho : o.op = .binOp op xt x (.const (.slice none 0 0)) yt) (hop : op = .eql ∨ op = .neq) (ht : td C.tb xt = .sl u)
    (hx : opd C.tb env xt x = some dx) (hd : slE dx = some xs) (hs : same C.tb (tagD dx) xt = true) :
    OpV C o env σ (fun d s => ∃ b : Bool, (b = true → xs = []) ∧ d = .t C.bt (.e (.bool (if op = .eql then b else !b))) ∧ s = σ) := by
  intro H β a w hr he hd' K Qx hK
  have hrd := (slE_rel (opd_rel he hx) hd).cast hC.tab (same_td hs)
  obtain ⟨ad, c, u', g1, g2, g3, g4⟩ := hrd.sl_inv
  have heq := run_equalIn_slice_nil (P := C.P) w 9999 xt u ad xs.length c (hC.tab.sl ht)
  have hgd : eqGuard op xt x (.const (.slice none 0 0)) (.slice ad xs.length c) (.slice none 0 0) = pure () := by
    unfold eqGuard; split <;> rfl
  have hcv : a.eval (.const (.slice none 0 0)) = .slice none 0 0 := rfl
  have hrun : (execOp a.eval o).run C.P w = .ok (.value (.bool (if op = .eql then ad.isNone else !ad.isNone))) w := by
    rcases hop with rfl | rfl
    · simp [execOp, ho, g1, hcv, hgd, binOp, Op.equal, Op.maxDepth, heq]
    · simp [execOp, ho, g1, hcv, hgd, binOp, Op.equal, Op.maxDepth, heq]
  simp only [Oper.wp, hrun, Oper.upon]
  refine hK _ _ w H β σ ⟨ad.isNone, fun hb => ?_, rfl, rfl⟩ hr (.mkBool hC.bt) (.refl _ _) (.refl _ _ _)
  rcases Nat.eq_zero_or_pos xs.length with h | h
  · exact List.length_eq_zero_iff.1 h
  · obtain ⟨u2, b, off, c2, cs, k1, k2, k3, k4, k5, k6, k7⟩ := hrd.sl_row h
    rw [g1] at k2
    simp only [Value.slice.injEq] at k2
    rw [k2.1] at hb; simp at hb
end

def dop2 (C : Cx) (env : Env) (σ : List Blk) (o : Oper) : Option DR := match o.op with
  | .call { callee := .builtin b, args := ⟨[x, y]⟩, argTypes := ⟨[t, t2]⟩ } => match b with
    | .max => match td C.tb t with
      | .int k => match td C.tb t2 == .int k && td C.tb o.type == .int k with
        | true => match opd C.tb env t x with
          | some dx => match opd C.tb env t2 y with
            | some dy => match intAt C.tb t dx with
              | some a => match intAt C.tb t2 dy with
                | some b => some ⟨True, .t o.type (.e (.int (if b > a then b else a))), σ⟩
                | none => none
              | none => none
            | none => none
          | none => none
        | false => none
      | _ => none
    | .min => match td C.tb t with
      | .int k => match td C.tb t2 == .int k && td C.tb o.type == .int k with
        | true => match opd C.tb env t x with
          | some dx => match opd C.tb env t2 y with
            | some dy => match intAt C.tb t dx with
              | some a => match intAt C.tb t2 dy with
                | some b => some ⟨True, .t o.type (.e (.int (if b < a then b else a))), σ⟩
                | none => none
              | none => none
            | none => none
          | none => none
        | false => none
      | _ => none
    | _ => none
  | _ => none
theorem dop2_ok {C : Cx} (hC : Ok C) {env : Env} {σ : List Blk} {o : Oper} {r : DR} (h : dop2 C env σ o = some r) (hp : r.p) : OpOk C o env σ r := by
  unfold dop2 at h
  split at h
  · rename_i bi x y t t2 ho
    split at h
    · split at h
      · rename_i k hk
        split at h
        · rename_i hh
          simp only [Bool.and_eq_true] at hh
          split at h
          · rename_i dx hx
            split at h
            · rename_i dy hy
              split at h
              · rename_i a ha
                split at h
                · rename_i b hb; cases h; exact Ok_max ho hk (td_beq hh.1) (td_beq hh.2) hx hy ha hb
                · cases h
              · cases h
            · cases h
          · cases h
        · cases h
      · cases h
    · split at h
      · rename_i k hk
        split at h
        · rename_i hh
          simp only [Bool.and_eq_true] at hh
          split at h
          · rename_i dx hx
            split at h
            · rename_i dy hy
              split at h
              · rename_i a ha
                split at h
                · rename_i b hb; cases h; exact Ok_min ho hk (td_beq hh.1) (td_beq hh.2) hx hy ha hb
                · cases h
              · cases h
            · cases h
          · cases h
        · cases h
      · cases h
    · cases h
  · cases h

def kit (bk : List Nat) (fs : List (FuncId × Kon)) : Kit := ⟨bk, dop2, fs⟩
theorem kit_ok {P : Program} {tb : Tab} {fs : List (FuncId × Kon)} (bk : List Nat) (h : kok P tb fs) : KitOk P tb (kit bk fs) := ⟨fun C _ _ hC env σ o r h hp => dop2_ok hC h hp, h⟩

/-! ### a nil slice becomes a row -/
theorem Rel.addRow {tb H β σ w} (h : Rel tb H β σ w) (u : TypeId) : Rel tb H (β ++ [.slice none 0 0]) (σ ++ [.row u 0]) w ∧ Ev H β σ H (β ++ [.slice none 0 0]) (σ ++ [.row u 0]) := by
  have hl := h.len
  have hev : Ev H β σ H (β ++ [.slice none 0 0]) (σ ++ [.row u 0]) := by
    refine ⟨fun _ _ _ e => e, fun i ty x e => ?_, fun i ety n e => ?_, fun i s p e => ?_, fun i ety o xs e => ?_⟩
    all_goals have hi := (List.getElem?_eq_some_iff.1 e).1
    · exact ⟨List.getElem?_append_left (by omega), x, by rw [List.getElem?_append_left hi]; exact e⟩
    · exact ⟨n, by rw [List.getElem?_append_left hi]; exact e, Nat.le_refl _, fun _ => List.getElem?_append_left (by omega)⟩
    · exact ⟨List.getElem?_append_left (by omega), s, p, by rw [List.getElem?_append_left hi]; exact e⟩
    · exact ⟨o, xs, by rw [List.getElem?_append_left hi]; exact e, Nat.le_refl _, fun _ => List.getElem?_append_left (by omega)⟩
  refine ⟨⟨h.pers, h.dom, by simp [hl], fun i k bv hk hv => ?_⟩, hev⟩
  rcases Nat.lt_or_ge i σ.length with hi | hi
  · rw [List.getElem?_append_left hi] at hk
    rw [List.getElem?_append_left (by omega)] at hv
    exact (h.blk i k bv hk hv).mono hev (fun b o e => ⟨e, rfl, fun _ _ => rfl, rfl⟩) (fun b s p _ e => e)
  · have : i = σ.length := by have := (List.getElem?_eq_some_iff.1 hk).1; simp at this; omega
    subst this
    rw [List.getElem?_append_right (Nat.le_refl _)] at hk
    rw [List.getElem?_append_right (by omega)] at hv
    simp [hl] at hk hv
    subst hk; subst hv
    exact .inl ⟨rfl, rfl⟩

theorem DRel.promote {tb : Tab} {H β σ v ty u} (hl : β.length = σ.length) (h : DRel tb H β σ v (.t ty .nsl)) (hu : td tb ty = .sl u) : DRel tb H (β ++ [.slice none 0 0]) (σ ++ [.row u 0]) v (.t ty (.lsl σ.length [])) := by
  cases h with
  | t a b =>
    cases b with
    | nsl c =>
      refine .t a (.lsl hu (.sl0 c) ⟨0, by simp, Nat.le_refl _, fun _ => ?_⟩)
      rw [List.getElem?_append_right (by omega)]; simp [hl]

/-- The temporary t holds a nil slice: from here on it is the newest of a row that is empty. -/
theorem VX_promote {C : Cx} {Q : Post} {env : Env} {σ : List Blk} {k : List It} {c : Code} (t : Nat) {ty u : TypeId} (ht : getD env t = .t ty .nsl) (hu : td C.tb ty = .sl u)
    (h : VX C Q (.c c :: k) .nrm ((t, .t ty (.lsl σ.length [])) :: env) (σ ++ [.row u 0])) : VX C Q (.c c :: k) .nrm env σ := by
  intro H β a w hr he hd
  obtain ⟨hr2, hev⟩ := hr.addRow u
  have he2 := he.mono hev
  have hv := he.get t
  rw [ht] at hv
  have hp := hv.promote hr.len hu
  have he3 : EnvRel C.tb H (β ++ [.slice none 0 0]) (σ ++ [.row u 0]) C.n a ((t, .t ty (.lsl σ.length [])) :: env) := by
    refine ⟨he.1, fun t' => ?_⟩
    have hg : getD ((t, .t ty (.lsl σ.length [])) :: env) t' = match Nat.beq t t' with | true => .t ty (.lsl σ.length []) | false => getD env t' := rfl
    rw [hg]
    cases hb : Nat.beq t t' with
    | true => have := Nat.eq_of_beq_eq_true hb; subst this; exact hp
    | false => exact he2.2 t'
  exact wp_mono (h H _ a w hr2 he3 hd) fun _ _ _ hl => hl.trans (.refl _ _) (hev.kp C.k0)
end Go.Den
namespace Go.Den
open Go
section
variable {C : Cx} {env : Env} {σ : List Blk} {Q : Post}
theorem VX_go (hC : Ok C) {fs : List (FuncId × Kon)} (hk : kok C.P C.tb fs) (n : Nat) (bk : List Nat) {k k' : List It} {e e' : Env} {s s' : List Blk} {x : X} {ps : List Prop} (h : run (kit bk fs) C n [] k e s = ⟨ps, k', x, e', s'⟩) (hp : allP ps)
    (hv : VX C Q k' x e' s') : VX C Q k .nrm e s := VX_run n (kit_ok bk hk) hC h hp hv
/-- A number in a temporary, told otherwise. -/
theorem VX_eq {k : List It} (t : Nat) {d d' : D} (hk : splits k = true) (hd : getD env t = d) (h : d = d') (hv : VX C Q k .nrm ((t, d') :: env) σ) : VX C Q k .nrm env σ :=
  VX_put t hk (fun H β v hv => by rw [hd, h] at hv; exact hv) hv
end
theorem wk0 {k0 : Nat} {env' env : Env} {σ : List Blk} (h0 : Nat.ble k0 σ.length = true) (hb : ∀ k ∈ σ, k.under σ.length = true) (h : leL σ.length env' env) : Weak k0 env' σ env σ :=
  ⟨⟨[], by simp⟩, Nat.le_of_ble_eq_true h0, hb, h⟩
theorem lc {k : Nat} {t : Nat} {d' : D} {e' e : Env} (h : leD k d' (getD e t)) (r : leL k e' e) : leL k ((t, d') :: e') e := ⟨h, r⟩
theorem lnil {k : Nat} {e : Env} : leL k [] e := trivial
theorem ls {k : Nat} {d d' : D} (h : d' = d) (hu : d.under k = true) : leD k d' d := .inr (.inl ⟨h, hu⟩)
theorem li {k : Nat} {ty : TypeId} {a b : Int} (h : a = b) : leD k (.t ty (.e (.int a))) (.t ty (.e (.int b))) := .inr (.inl ⟨by rw [h], rfl⟩)
theorem lsr {k : Nat} {ty ty' : TypeId} {x y : E} (ht : ty = ty') (h : x = y) : leD k (.t ty (.e x)) (.t ty' (.e y)) := .inr (.inl ⟨by rw [h, ht], rfl⟩)
theorem lrow {k : Nat} {ty i xs} : leD k (.t ty (.e (.sl xs))) (.t ty (.lsl i xs)) := .inr (.inr (.inl ⟨ty, i, xs, rfl, rfl⟩))
theorem lnsl {k : Nat} {ty} : leD k (.t ty (.e (.sl []))) (.t ty .nsl) := .inr (.inr (.inr (.inl ⟨ty, rfl, rfl⟩)))
theorem lbsl {k : Nat} {ty xs} : leD k (.t ty (.e (.sl xs))) (.t ty (.bsl xs)) := .inr (.inr (.inr (.inr (.inl ⟨ty, xs, rfl, rfl⟩))))
theorem lkb {k : Nat} {ty b} : leD k (.t ty (.e (.bool b))) (.kb ty b) := .inr (.inr (.inr (.inr (.inr ⟨ty, b, rfl, rfl⟩))))
end Go.Den
