/- Blocks are given other numbers: what a caller hands to a call, and what comes back. -/
import Derived.Test.YtgdfegmdjdnbdaaDenV
namespace Go.Den
open Go
set_option linter.unusedSectionVars false
set_option linter.unusedSimpArgs false
set_option linter.unusedVariables false

def renCaps (ρ : Nat → Option Nat) : List (Nat × List Nat) → Option (List (Nat × List Nat))
  | [] => some []
  | (i, p) :: r => match ρ i with
    | some j => match renCaps ρ r with
      | some r' => some ((j, p) :: r')
      | none => none
    | none => none

mutual
def T.ren (ρ : Nat → Option Nat) : T → Option T
  | .e x => some (.e x)
  | .nsl => some .nsl
  | .bsl xs => some (.bsl xs)
  | .st xs => match T.rens ρ xs with
    | some ys => some (.st ys)
    | none => none
  | .lsl i xs => match ρ i with
    | some j => some (.lsl j xs)
    | none => some (.e (.sl xs))
  | .ptr i p => match ρ i with
    | some j => some (.ptr j p)
    | none => none
  | .fn f caps => match renCaps ρ caps with
    | some c => some (.fn f c)
    | none => none
  | .msl i n => match ρ i with
    | some j => some (.msl j n)
    | none => none
def T.rens (ρ : Nat → Option Nat) : List T → Option (List T)
  | [] => some []
  | x :: xs => match T.ren ρ x with
    | some y => match T.rens ρ xs with
      | some ys => some (y :: ys)
      | none => none
    | none => none
end
mutual
def D.ren (ρ : Nat → Option Nat) : D → Option D
  | .t ty x => match T.ren ρ x with
    | some y => some (.t ty y)
    | none => none
  | .ptr i p => match ρ i with
    | some j => some (.ptr j p)
    | none => none
  | .el u xs j p => some (.el u xs j p)
  | .asl i p u off n => match ρ i with
    | some j => some (.asl j p u off n)
    | none => none
  | .tup xs => match D.rens ρ xs with
    | some ys => some (.tup ys)
    | none => none
  | .it i => match ρ i with
    | some j => some (.it j)
    | none => none
  | .kb ty b => some (.kb ty b)
  | .mel u i n j p => match ρ i with
    | some i' => some (.mel u i' n j p)
    | none => none
  | .any => some .any
def D.rens (ρ : Nat → Option Nat) : List D → Option (List D)
  | [] => some []
  | x :: xs => match D.ren ρ x with
    | some y => match D.rens ρ xs with
      | some ys => some (y :: ys)
      | none => none
    | none => none
end
def Blk.ren (ρ : Nat → Option Nat) : Blk → Option Blk
  | .tree ty x => match T.ren ρ x with
    | some y => some (.tree ty y)
    | none => none
  | .row u n => some (.row u n)
  | .iter s p => some (.iter s p)
  | .dead => some .dead
  | .mrow u o xs => some (.mrow u o xs)

def alike : Blk → Blk → Prop
  | .tree ty _, .tree ty' _ => ty = ty'
  | .row u n, .row u' n' => u = u' ∧ n = n'
  | .iter s p, .iter s' p' => s = s' ∧ p = p'
  | .dead, _ => True
  | .mrow u o xs, .mrow u' o' xs' => u = u' ∧ o = o' ∧ xs = xs'
  | _, _ => False

theorem Blk.ren_alike {ρ k k'} (h : Blk.ren ρ k = some k') : alike k k' := by
  cases k with
  | tree ty x =>
    simp only [Blk.ren] at h
    split at h
    · cases h; rfl
    · cases h
  | row u n => cases h; exact ⟨rfl, rfl⟩
  | iter s p => cases h; exact ⟨rfl, rfl⟩
  | dead => trivial
  | mrow u o xs => cases h; exact ⟨rfl, rfl, rfl⟩

structure Ren (ρ : Nat → Option Nat) (H1 : Gh) (β1 : List Value) (σ1 : List Blk) (H2 : Gh) (β2 : List Value) (σ2 : List Blk) : Prop where
  pers : ∀ b o v, H1 b o = .pers v → H2 b o = .pers v
  blk : ∀ j j' k, ρ j = some j' → σ1[j]? = some k → β2[j']? = β1[j]? ∧ ∃ k', σ2[j']? = some k' ∧ alike k k'

theorem T.rens_get {ρ : Nat → Option Nat} : ∀ {xs ys : List T}, T.rens ρ xs = some ys → ys.length = xs.length ∧ ∀ (i : Nat) (y : T), ys[i]? = some y → ∃ x, xs[i]? = some x ∧ x.ren ρ = some y
  | [], ys, h => by simp [T.rens] at h; subst h; exact ⟨rfl, fun i y hy => by simp at hy⟩
  | x :: xs, ys, h => by
    simp only [T.rens] at h
    split at h
    · rename_i y hy
      split at h
      · rename_i zs hz
        cases h
        obtain ⟨h1, h2⟩ := T.rens_get hz
        refine ⟨by simp [h1], fun i z hzz => ?_⟩
        cases i with
        | zero => simp at hzz; subst hzz; exact ⟨x, rfl, hy⟩
        | succ i => exact h2 i z (by simpa using hzz)
      · cases h
    · cases h
theorem D.rens_get {ρ : Nat → Option Nat} : ∀ {xs ys : List D}, D.rens ρ xs = some ys → ys.length = xs.length ∧ ∀ (i : Nat) (y : D), ys[i]? = some y → ∃ x, xs[i]? = some x ∧ x.ren ρ = some y
  | [], ys, h => by simp [D.rens] at h; subst h; exact ⟨rfl, fun i y hy => by simp at hy⟩
  | x :: xs, ys, h => by
    simp only [D.rens] at h
    split at h
    · rename_i y hy
      split at h
      · rename_i zs hz
        cases h
        obtain ⟨h1, h2⟩ := D.rens_get hz
        refine ⟨by simp [h1], fun i z hzz => ?_⟩
        cases i with
        | zero => simp at hzz; subst hzz; exact ⟨x, rfl, hy⟩
        | succ i => exact h2 i z (by simpa using hzz)
      · cases h
    · cases h
theorem renCaps_get {ρ : Nat → Option Nat} : ∀ {xs ys : List (Nat × List Nat)}, renCaps ρ xs = some ys → ys.length = xs.length ∧ ∀ (i : Nat) (y : Nat × List Nat), ys[i]? = some y → ∃ x, xs[i]? = some x ∧ ρ x.1 = some y.1 ∧ x.2 = y.2
  | [], ys, h => by simp [renCaps] at h; subst h; exact ⟨rfl, fun i y hy => by simp at hy⟩
  | (i0, p) :: xs, ys, h => by
    simp only [renCaps] at h
    split at h
    · rename_i y hy
      split at h
      · rename_i zs hz
        cases h
        obtain ⟨h1, h2⟩ := renCaps_get hz
        refine ⟨by simp [h1], fun i z hzz => ?_⟩
        cases i with
        | zero => simp at hzz; subst hzz; exact ⟨_, rfl, hy, rfl⟩
        | succ i => exact h2 i z (by simpa using hzz)
      · cases h
    · cases h

section
variable {tb : Tab} {ρ : Nat → Option Nat} {H1 H2 : Gh} {β1 β2 : List Value} {σ1 σ2 : List Blk}

theorem PtrAt.ren (hR : Ren ρ H1 β1 σ1 H2 β2 σ2) {i i' path a} (h : PtrAt tb β1 σ1 i path a) (hi : ρ i = some i') : PtrAt tb β2 σ2 i' path a := by
  obtain ⟨b, off, ty, x, o, u, e1, e2, e3, e4⟩ := h
  obtain ⟨f1, k', f2, f3⟩ := hR.blk i i' _ hi e2
  cases k' with
  | tree ty' x' => cases f3; exact ⟨b, off, ty, x', o, u, f1.trans e1, f2, e3, e4⟩
  | row => cases f3
  | iter => cases f3
  | dead => cases f3
  | mrow => cases f3

theorem TRel.ren (hR : Ren ρ H1 β1 σ1 H2 β2 σ2) {t cs x} (h : TRel tb H1 β1 σ1 t cs x) : ∀ {y}, x.ren ρ = some y → TRel tb H2 β2 σ2 t cs y := by
  induction h with
  | e a => intro y hy; cases hy; exact .e (a.mono hR.pers)
  | st a b c _ ih =>
    intro y hy
    simp only [T.ren] at hy
    split at hy
    · rename_i ys hys
      cases hy
      obtain ⟨h1, h2⟩ := T.rens_get hys
      refine .st a b (h1.trans c) fun i f z hf hz => ?_
      obtain ⟨x, hx, hxz⟩ := h2 i z hz
      exact ih i f x hf hx hxz
    · cases hy
  | arr a b c _ ih =>
    intro y hy
    simp only [T.ren] at hy
    split at hy
    · rename_i ys hys
      cases hy
      obtain ⟨h1, h2⟩ := T.rens_get hys
      refine .arr a b (h1.trans c) fun i z hz => ?_
      obtain ⟨x, hx, hxz⟩ := h2 i z hz
      exact ih i x hx hxz
    · cases hy
  | nsl a => intro y hy; cases hy; exact .nsl a
  | bsl a b => intro y hy; cases hy; exact .bsl a (b.mono hR.pers)
  | @lsl t u v i xs a b c =>
    intro y hy
    simp only [T.ren] at hy
    split at hy
    · rename_i j hj
      cases hy
      obtain ⟨n, c1, c2, c3⟩ := c
      obtain ⟨f1, k', f2, f3⟩ := hR.blk i j _ hj c1
      cases k' with
      | row u' n' => obtain ⟨rfl, rfl⟩ := f3; exact .lsl a (b.mono hR.pers) ⟨n, f2, c2, fun e => f1.trans (c3 e)⟩
      | tree => cases f3
      | iter => cases f3
      | dead => cases f3
      | mrow => cases f3
    · cases hy; exact .e (b.mono hR.pers)
  | ptr a b =>
    intro y hy
    simp only [T.ren] at hy
    split at hy
    · rename_i j hj; cases hy; exact .ptr a (b.ren hR hj)
    · cases hy
  | @fn t f caps as a b c =>
    intro y hy
    simp only [T.ren] at hy
    split at hy
    · rename_i cs hcs
      cases hy
      obtain ⟨h1, h2⟩ := renCaps_get hcs
      refine .fn a (b.trans h1.symm) fun i q ad hq had => ?_
      obtain ⟨x, hx, hx1, hx2⟩ := h2 i q hq
      rw [← hx2]
      exact (c i x ad hx had).ren hR hx1
    · cases hy
  | @msl t u v i n a b c =>
    intro y hy
    simp only [T.ren] at hy
    split at hy
    · rename_i j hj
      cases hy
      obtain ⟨o, xs, c1, c2, c3⟩ := c
      obtain ⟨f1, k', f2, f3⟩ := hR.blk i j _ hj c1
      cases k' with
      | mrow u' o' xs' => obtain ⟨rfl, rfl, rfl⟩ := f3; exact .msl a b ⟨o, xs, f2, c2, fun e => f1.trans (c3 e)⟩
      | tree => cases f3
      | iter => cases f3
      | dead => cases f3
      | row => cases f3
    · cases hy

theorem DRel.ren (hR : Ren ρ H1 β1 σ1 H2 β2 σ2) {v d} (h : DRel tb H1 β1 σ1 v d) : ∀ {y}, d.ren ρ = some y → DRel tb H2 β2 σ2 v y := by
  induction h with
  | t a b =>
    intro y hy
    simp only [D.ren] at hy
    split at hy
    · rename_i z hz; cases hy; exact .t a (b.ren hR hz)
    · cases hy
  | ptr a =>
    intro y hy
    simp only [D.ren] at hy
    split at hy
    · rename_i j hj; cases hy; exact .ptr (a.ren hR hj)
    · cases hy
  | el a b c d e => intro y hy; cases hy; exact .el a (fun j v hj => hR.pers _ _ _ (b j v hj)) (fun i x hx => (c i x hx).mono hR.pers) d e
  | @asl i path u off n c a m ha hb hc hd hm =>
    intro y hy
    simp only [D.ren] at hy
    split at hy
    · rename_i j hj
      cases hy
      refine .asl (m := m) (ha.ren hR hj) (fun ty x hx => ?_) hc hd hm
      obtain ⟨b0, off0, ty0, x0, o0, u0, e1, e2, e3, e4⟩ := ha
      obtain ⟨f1, k', f2, f3⟩ := hR.blk i j _ hj e2
      rw [hx] at f2
      cases f2
      cases f3
      exact hb _ x0 e2
    · cases hy
  | tup a _ ih =>
    intro y hy
    simp only [D.ren] at hy
    split at hy
    · rename_i ys hys
      cases hy
      obtain ⟨h1, h2⟩ := D.rens_get hys
      refine .tup (a.trans h1.symm) fun i v d hv hd => ?_
      obtain ⟨x, hx, hxd⟩ := h2 i d hd
      exact ih i v x hv hx hxd
    · cases hy
  | @it i v s pos a b =>
    intro y hy
    simp only [D.ren] at hy
    split at hy
    · rename_i j hj
      cases hy
      obtain ⟨f1, k', f2, f3⟩ := hR.blk i j _ hj a
      cases k' with
      | iter s' p' => exact .it f2 (f1.trans b)
      | tree => cases f3
      | row => cases f3
      | dead => cases f3
      | mrow => cases f3
    · cases hy
  | kb a => intro y hy; cases hy; exact .kb a
  | @mel u i n jj path o v pa a b =>
    intro y hy
    simp only [D.ren] at hy
    split at hy
    · rename_i j hj
      cases hy
      obtain ⟨o, xs, c1, c2, c3⟩ := b
      obtain ⟨f1, k', f2, f3⟩ := hR.blk i j _ hj c1
      cases k' with
      | mrow u' o' xs' => obtain ⟨rfl, rfl, rfl⟩ := f3; exact .mel a ⟨o, xs, f2, c2, fun e hj => by rw [f1]; exact c3 e hj⟩
      | tree => cases f3
      | iter => cases f3
      | dead => cases f3
      | row => cases f3
    · cases hy
  | any => intro y hy; cases hy; exact .any

theorem BlkRel.ren (hR : Ren ρ H1 β1 σ1 H2 β2 σ2) {w j j' bv k k'} (h : BlkRel tb H1 β1 σ1 w j bv k) (hk : k.ren ρ = some k') (hm : ∀ b o, H1 b o = .mine j → H2 b o = .mine j') : BlkRel tb H2 β2 σ2 w j' bv k' := by
  cases k with
  | tree ty x =>
    simp only [Blk.ren] at hk
    split at hk
    · rename_i y hy
      cases hk
      obtain ⟨b, off, cs, e1, e2, e0, e3, e4⟩ := h
      exact ⟨b, off, cs, e1, e2, e0, fun j v hj => ⟨(e3 j v hj).1, hm _ _ (e3 j v hj).2.1, (e3 j v hj).2.2⟩, e4.ren hR hy⟩
    · cases hk
  | row u n =>
    cases hk
    rcases h with h | ⟨b, off, c, e1, e2, e3⟩
    · exact .inl h
    · exact .inr ⟨b, off, c, e1, e2, fun j h1 h2 => ⟨(e3 j h1 h2).1, hm _ _ (e3 j h1 h2).2.1, (e3 j h1 h2).2.2⟩⟩
  | iter s p => cases hk; obtain ⟨r, e1, e2, e3⟩ := h; exact ⟨r, e1, e2, fun o => hm _ _ (e3 o)⟩
  | dead => cases hk; trivial
  | mrow u o xs =>
    cases hk
    cases o with
    | false => exact fun t ht => (h t ht).mono hR.pers
    | true =>
      rcases h with r | ⟨b, c, cs, zs, e1, e2, e3, e4, e5, e6, e7⟩
      · exact .inl r
      · exact .inr ⟨b, c, cs, zs, e1, e2, e3, ⟨e4.len, fun j x hx => (e4.el j x hx).mono hR.pers⟩, e5, e6, fun j v hj => ⟨(e7 j v hj).1, hm _ _ (e7 j v hj).2.1, (e7 j v hj).2.2⟩⟩
end

/-! ### a choice of blocks -/

def idxOf : List Nat → Nat → Option Nat
  | [], _ => none
  | i :: r, t => match Nat.beq i t with
    | true => some 0
    | false => match idxOf r t with
      | some j => some (j + 1)
      | none => none

theorem idxOf_get : ∀ {l : List Nat} {t j : Nat}, idxOf l t = some j → l[j]? = some t
  | [], t, j, h => by cases h
  | i :: r, t, j, h => by
    simp only [idxOf] at h
    split at h
    · rename_i hb; cases h; simp [Nat.eq_of_beq_eq_true hb]
    · split at h
      · rename_i k hk; cases h; simpa using idxOf_get hk
      · cases h
theorem idxOf_none : ∀ {l : List Nat} {t : Nat}, idxOf l t = none → t ∉ l
  | [], t, h => by simp
  | i :: r, t, h => by
    simp only [idxOf] at h
    split at h
    · cases h
    · rename_i hb
      split at h
      · cases h
      · rename_i hk
        simp only [List.mem_cons, not_or]
        exact ⟨fun e => Nat.ne_of_beq_eq_false hb e.symm, idxOf_none hk⟩

/-- The chosen blocks, renumbered. -/
def pickB (σ : List Blk) (ρ : Nat → Option Nat) : List Nat → Nat → Option (List Blk)
  | [], _ => some []
  | i :: r, j => match ρ i with
    | some j' => match Nat.beq j' j with
      | true => match σ[i]? with
        | some k => match Blk.ren ρ k with
          | some k' => match pickB σ ρ r (j + 1) with
            | some ks => some (k' :: ks)
            | none => none
          | none => none
        | none => none
      | false => none
    | none => none

theorem pickB_get {σ : List Blk} {ρ : Nat → Option Nat} : ∀ {l : List Nat} {j : Nat} {ks : List Blk}, pickB σ ρ l j = some ks →
    ks.length = l.length ∧ ∀ (q : Nat) (k' : Blk), ks[q]? = some k' → ∃ i k, l[q]? = some i ∧ ρ i = some (j + q) ∧ σ[i]? = some k ∧ Blk.ren ρ k = some k'
  | [], j, ks, h => by simp [pickB] at h; subst h; exact ⟨rfl, fun q k' hk => by simp at hk⟩
  | i :: r, j, ks, h => by
    simp only [pickB] at h
    split at h
    · rename_i j' hj
      split at h
      · rename_i hb
        have := Nat.eq_of_beq_eq_true hb; subst this
        split at h
        · rename_i k hk
          split at h
          · rename_i k' hk'
            split at h
            · rename_i zs hz
              cases h
              obtain ⟨h1, h2⟩ := pickB_get hz
              refine ⟨by simp [h1], fun q z hq => ?_⟩
              cases q with
              | zero => simp at hq; subst hq; exact ⟨i, k, rfl, hj, hk, hk'⟩
              | succ q =>
                obtain ⟨i2, k2, a1, a2, a3, a4⟩ := h2 q z (by simpa using hq)
                exact ⟨i2, k2, by simpa using a1, by rw [a2]; congr 1; omega, a3, a4⟩
            · cases h
          · cases h
        · cases h
      · cases h
    · cases h

/-- The ghost of a choice. -/
def pickH (ρ : Nat → Option Nat) (H : Gh) : Gh := fun b o => match H b o with
  | .mine i => match ρ i with
    | some j => .mine j
    | none => .none
  | x => x
theorem pickH_pers {ρ H b o v} : pickH ρ H b o = .pers v ↔ H b o = .pers v := by
  unfold pickH
  split
  · rename_i i h
    rw [h]
    split <;> simp
  · rfl
theorem pickH_mine {ρ H b o j} : pickH ρ H b o = .mine j ↔ ∃ i, H b o = .mine i ∧ ρ i = some j := by
  unfold pickH
  split
  · rename_i i h
    rw [h]
    split
    · rename_i k hk; simp [hk]
    · rename_i hk; simp [hk]
  · rename_i h
    constructor
    · intro e; exact absurd e (h j)
    · rintro ⟨i, hi, _⟩; exact absurd hi (h i)

theorem Rel.pick {tb H β σ w} (h : Rel tb H β σ w) {idx : List Nat} {σ0 : List Blk} (hp : pickB σ (idxOf idx) idx 0 = some σ0) :
    Rel tb (pickH (idxOf idx) H) (idx.map fun i => β.getD i undef) σ0 w ∧ Ren (idxOf idx) H β σ (pickH (idxOf idx) H) (idx.map fun i => β.getD i undef) σ0 := by
  obtain ⟨h1, h2⟩ := pickB_get hp
  have hβ : ∀ i k, σ[i]? = some k → β[i]? = some (β.getD i undef) := fun i k hk => by
    have hi : i < β.length := by rw [h.len]; exact (List.getElem?_eq_some_iff.1 hk).1
    simp [List.getD, List.getElem?_eq_getElem hi]
  have hren : Ren (idxOf idx) H β σ (pickH (idxOf idx) H) (idx.map fun i => β.getD i undef) σ0 := by
    refine ⟨fun b o v e => pickH_pers.2 e, fun j j' k hj hk => ?_⟩
    have hjj := idxOf_get hj
    have hlt : j' < σ0.length := by rw [h1]; exact (List.getElem?_eq_some_iff.1 hjj).1
    obtain ⟨i, k2, a1, a2, a3, a4⟩ := h2 j' _ (List.getElem?_eq_getElem hlt)
    rw [hjj] at a1; cases a1
    rw [hk] at a3; cases a3
    refine ⟨by rw [List.getElem?_map, hjj]; exact (hβ j k hk).symm, _, List.getElem?_eq_getElem hlt, Blk.ren_alike a4⟩
  refine ⟨⟨fun b o v e => h.pers b o v (pickH_pers.1 e), fun b o e => h.dom b o fun h0 => e (by simp [pickH, h0]), by simp [h1], fun j k' bv hk hv => ?_⟩, hren⟩
  obtain ⟨i, k, a1, a2, a3, a4⟩ := h2 j k' hk
  rw [Nat.zero_add] at a2
  simp only [List.getElem?_map, a1, Option.map_some, Option.some.injEq] at hv
  subst hv
  exact (h.blk i k _ a3 (hβ i k a3)).ren hren a4 fun b o e => pickH_mine.2 ⟨i, e, a2⟩

end Go.Den
