/- The calculus and the walks, part 2: DenRen, DenCall2, DenAppend, DenAppend2, DenOp9, DenOp10. -/
import Derived.Test.YtgdfegmdjdnbdaaP1
import Derived.Test.YtgdfegmdjdnbdaaP0
import Derived.Laws.Append
import Derived.Laws.AppendOwn
/- Blocks are given other numbers: what a caller hands to a call, and what comes back. -/
namespace Go.Den
open Go
set_option linter.unusedSectionVars false
set_option linter.unusedSimpArgs false
set_option linter.unusedVariables false

def renCaps (ρ : Nat → Option Nat) : List (Nat × List Nat) → Option (List (Nat × List Nat))
  | [] => some []
  | (i, p) :: r => match ρ i with
    | some j => match renCaps ρ r with
      | some r' => some ((j, p) :: r')
      | none => none
    | none => none

mutual
def T.ren (ρ : Nat → Option Nat) : T → Option T
  | .e x => some (.e x)
  | .nsl => some .nsl
  | .bsl xs => some (.bsl xs)
  | .st xs => match T.rens ρ xs with
    | some ys => some (.st ys)
    | none => none
  | .lsl i xs => match ρ i with
    | some j => some (.lsl j xs)
    | none => some (.e (.sl xs))
  | .ptr i p => match ρ i with
    | some j => some (.ptr j p)
    | none => none
  | .fn f caps => match renCaps ρ caps with
    | some c => some (.fn f c)
    | none => none
  | .msl i n => match ρ i with
    | some j => some (.msl j n)
    | none => none
  | .tsl xs => match T.rens ρ xs with
    | some ys => some (.tsl ys)
    | none => none
  | .mp i => match ρ i with
    | some j => some (.mp j)
    | none => none
def T.rens (ρ : Nat → Option Nat) : List T → Option (List T)
  | [] => some []
  | x :: xs => match T.ren ρ x with
    | some y => match T.rens ρ xs with
      | some ys => some (y :: ys)
      | none => none
    | none => none
end
mutual
def D.ren (ρ : Nat → Option Nat) : D → Option D
  | .t ty x => match T.ren ρ x with
    | some y => some (.t ty y)
    | none => none
  | .ptr i p => match ρ i with
    | some j => some (.ptr j p)
    | none => none
  | .el u xs j p => some (.el u xs j p)
  | .asl i p u off n => match ρ i with
    | some j => some (.asl j p u off n)
    | none => none
  | .tup xs => match D.rens ρ xs with
    | some ys => some (.tup ys)
    | none => none
  | .it i => match ρ i with
    | some j => some (.it j)
    | none => none
  | .kb ty b => some (.kb ty b)
  | .mel u i n j p => match ρ i with
    | some i' => some (.mel u i' n j p)
    | none => none
  | .tel u xs j => match T.rens ρ xs with
    | some ys => some (.tel u ys j)
    | none => none
  | .any => some .any
def D.rens (ρ : Nat → Option Nat) : List D → Option (List D)
  | [] => some []
  | x :: xs => match D.ren ρ x with
    | some y => match D.rens ρ xs with
      | some ys => some (y :: ys)
      | none => none
    | none => none
end
def Blk.ren (ρ : Nat → Option Nat) : Blk → Option Blk
  | .tree ty x => match T.ren ρ x with
    | some y => some (.tree ty y)
    | none => none
  | .row u n => some (.row u n)
  | .iter s p => some (.iter s p)
  | .dead => some .dead
  | .mrow u o xs => some (.mrow u o xs)
  | .mp k e es => some (.mp k e es)

def alike : Blk → Blk → Prop
  | .tree ty _, .tree ty' _ => ty = ty'
  | .row u n, .row u' n' => u = u' ∧ n = n'
  | .iter s p, .iter s' p' => s = s' ∧ p = p'
  | .dead, _ => True
  | .mrow u o xs, .mrow u' o' xs' => u = u' ∧ o = o' ∧ xs = xs'
  | .mp k e es, .mp k' e' es' => k = k' ∧ e = e' ∧ es = es'
  | _, _ => False

theorem Blk.ren_alike {ρ k k'} (h : Blk.ren ρ k = some k') : alike k k' := by
  cases k with
  | tree ty x =>
    simp only [Blk.ren] at h
    split at h
    · cases h; rfl
    · cases h
  | row u n => cases h; exact ⟨rfl, rfl⟩
  | iter s p => cases h; exact ⟨rfl, rfl⟩
  | dead => trivial
  | mrow u o xs => cases h; exact ⟨rfl, rfl, rfl⟩
  | mp k e es => cases h; exact ⟨rfl, rfl, rfl⟩

structure Ren (ρ : Nat → Option Nat) (H1 : Gh) (β1 : List Value) (σ1 : List Blk) (H2 : Gh) (β2 : List Value) (σ2 : List Blk) : Prop where
  pers : ∀ b o v, H1 b o = .pers v → H2 b o = .pers v
  blk : ∀ j j' k, ρ j = some j' → σ1[j]? = some k → β2[j']? = β1[j]? ∧ ∃ k', σ2[j']? = some k' ∧ alike k k'

theorem T.rens_get {ρ : Nat → Option Nat} : ∀ {xs ys : List T}, T.rens ρ xs = some ys → ys.length = xs.length ∧ ∀ (i : Nat) (y : T), ys[i]? = some y → ∃ x, xs[i]? = some x ∧ x.ren ρ = some y
  | [], ys, h => by simp [T.rens] at h; subst h; exact ⟨rfl, fun i y hy => by simp at hy⟩
  | x :: xs, ys, h => by
    simp only [T.rens] at h
    split at h
    · rename_i y hy
      split at h
      · rename_i zs hz
        cases h
        obtain ⟨h1, h2⟩ := T.rens_get hz
        refine ⟨by simp [h1], fun i z hzz => ?_⟩
        cases i with
        | zero => simp at hzz; subst hzz; exact ⟨x, rfl, hy⟩
        | succ i => exact h2 i z (by simpa using hzz)
      · cases h
    · cases h
theorem D.rens_get {ρ : Nat → Option Nat} : ∀ {xs ys : List D}, D.rens ρ xs = some ys → ys.length = xs.length ∧ ∀ (i : Nat) (y : D), ys[i]? = some y → ∃ x, xs[i]? = some x ∧ x.ren ρ = some y
  | [], ys, h => by simp [D.rens] at h; subst h; exact ⟨rfl, fun i y hy => by simp at hy⟩
  | x :: xs, ys, h => by
    simp only [D.rens] at h
    split at h
    · rename_i y hy
      split at h
      · rename_i zs hz
        cases h
        obtain ⟨h1, h2⟩ := D.rens_get hz
        refine ⟨by simp [h1], fun i z hzz => ?_⟩
        cases i with
        | zero => simp at hzz; subst hzz; exact ⟨x, rfl, hy⟩
        | succ i => exact h2 i z (by simpa using hzz)
      · cases h
    · cases h
theorem renCaps_get {ρ : Nat → Option Nat} : ∀ {xs ys : List (Nat × List Nat)}, renCaps ρ xs = some ys → ys.length = xs.length ∧ ∀ (i : Nat) (y : Nat × List Nat), ys[i]? = some y → ∃ x, xs[i]? = some x ∧ ρ x.1 = some y.1 ∧ x.2 = y.2
  | [], ys, h => by simp [renCaps] at h; subst h; exact ⟨rfl, fun i y hy => by simp at hy⟩
  | (i0, p) :: xs, ys, h => by
    simp only [renCaps] at h
    split at h
    · rename_i y hy
      split at h
      · rename_i zs hz
        cases h
        obtain ⟨h1, h2⟩ := renCaps_get hz
        refine ⟨by simp [h1], fun i z hzz => ?_⟩
        cases i with
        | zero => simp at hzz; subst hzz; exact ⟨_, rfl, hy, rfl⟩
        | succ i => exact h2 i z (by simpa using hzz)
      · cases h
    · cases h

section
variable {tb : Tab} {ρ : Nat → Option Nat} {H1 H2 : Gh} {β1 β2 : List Value} {σ1 σ2 : List Blk}

theorem PtrAt.ren (hR : Ren ρ H1 β1 σ1 H2 β2 σ2) {i i' path a} (h : PtrAt tb β1 σ1 i path a) (hi : ρ i = some i') : PtrAt tb β2 σ2 i' path a := by
  obtain ⟨b, off, ty, x, o, u, e1, e2, e3, e4⟩ := h
  obtain ⟨f1, k', f2, f3⟩ := hR.blk i i' _ hi e2
  cases k' with
  | tree ty' x' => cases f3; exact ⟨b, off, ty, x', o, u, f1.trans e1, f2, e3, e4⟩
  | row => cases f3
  | iter => cases f3
  | dead => cases f3
  | mrow => cases f3
  | mp => cases f3

theorem TRel.ren (hR : Ren ρ H1 β1 σ1 H2 β2 σ2) {t cs x} (h : TRel tb H1 β1 σ1 t cs x) : ∀ {y}, x.ren ρ = some y → TRel tb H2 β2 σ2 t cs y := by
  induction h with
  | e a => intro y hy; cases hy; exact .e (a.mono hR.pers)
  | st a b c _ ih =>
    intro y hy
    simp only [T.ren] at hy
    split at hy
    · rename_i ys hys
      cases hy
      obtain ⟨h1, h2⟩ := T.rens_get hys
      refine .st a b (h1.trans c) fun i f z hf hz => ?_
      obtain ⟨x, hx, hxz⟩ := h2 i z hz
      exact ih i f x hf hx hxz
    · cases hy
  | arr a b c _ ih =>
    intro y hy
    simp only [T.ren] at hy
    split at hy
    · rename_i ys hys
      cases hy
      obtain ⟨h1, h2⟩ := T.rens_get hys
      refine .arr a b (h1.trans c) fun i z hz => ?_
      obtain ⟨x, hx, hxz⟩ := h2 i z hz
      exact ih i x hx hxz
    · cases hy
  | nsl a => intro y hy; cases hy; exact .nsl a
  | bsl a b => intro y hy; cases hy; exact .bsl a (b.mono hR.pers)
  | @lsl t u v i xs a b c =>
    intro y hy
    simp only [T.ren] at hy
    split at hy
    · rename_i j hj
      cases hy
      obtain ⟨n, c1, c2, c3⟩ := c
      obtain ⟨f1, k', f2, f3⟩ := hR.blk i j _ hj c1
      cases k' with
      | row u' n' => obtain ⟨rfl, rfl⟩ := f3; exact .lsl a (b.mono hR.pers) ⟨n, f2, c2, fun e => f1.trans (c3 e)⟩
      | tree => cases f3
      | iter => cases f3
      | dead => cases f3
      | mrow => cases f3
      | mp => cases f3
    · cases hy; exact .e (b.mono hR.pers)
  | ptr a b =>
    intro y hy
    simp only [T.ren] at hy
    split at hy
    · rename_i j hj; cases hy; exact .ptr a (b.ren hR hj)
    · cases hy
  | @fn t f caps ads a b c =>
    intro y hy
    simp only [T.ren] at hy
    split at hy
    · rename_i cs hcs
      cases hy
      obtain ⟨h1, h2⟩ := renCaps_get hcs
      refine .fn a (b.trans h1.symm) fun i q ad hq had => ?_
      obtain ⟨x, hx, hx1, hx2⟩ := h2 i q hq
      rw [← hx2]
      exact (c i x ad hx had).ren hR hx1
    · cases hy
  | @msl t u v i n a b c =>
    intro y hy
    simp only [T.ren] at hy
    split at hy
    · rename_i j hj
      cases hy
      obtain ⟨o, xs, c1, c2, c3⟩ := c
      obtain ⟨f1, k', f2, f3⟩ := hR.blk i j _ hj c1
      cases k' with
      | mrow u' o' xs' => obtain ⟨rfl, rfl, rfl⟩ := f3; exact .msl a b ⟨o, xs, f2, c2, fun e => f1.trans (c3 e)⟩
      | tree => cases f3
      | iter => cases f3
      | dead => cases f3
      | row => cases f3
      | mp => cases f3
    · cases hy
  | tsl a b c _ e ih =>
    intro y hy
    simp only [T.ren] at hy
    split at hy
    · rename_i ys hys
      cases hy
      obtain ⟨h1, h2⟩ := T.rens_get hys
      rw [← h1]
      refine .tsl a (by rw [h1]; exact b) (fun j v hj => hR.pers _ _ _ (c j v hj)) (fun i z hz => ?_) (by rw [h1]; exact e)
      obtain ⟨x, hx, hxz⟩ := h2 i z hz
      exact ih i x hx hxz
    · cases hy
  | @mp t k u v i es e a b c d f =>
    intro y hy
    simp only [T.ren] at hy
    split at hy
    · rename_i j hj
      cases hy
      obtain ⟨f1, k', f2, f3⟩ := hR.blk i j _ hj b
      cases k' with
      | mp k2 e2 es2 => obtain ⟨rfl, rfl, rfl⟩ := f3; exact .mp a f2 c (f1.trans d) f
      | tree => cases f3
      | iter => cases f3
      | dead => cases f3
      | row => cases f3
      | mrow => cases f3
    · cases hy

theorem DRel.ren (hR : Ren ρ H1 β1 σ1 H2 β2 σ2) {v d} (h : DRel tb H1 β1 σ1 v d) : ∀ {y}, d.ren ρ = some y → DRel tb H2 β2 σ2 v y := by
  induction h with
  | t a b =>
    intro y hy
    simp only [D.ren] at hy
    split at hy
    · rename_i z hz; cases hy; exact .t a (b.ren hR hz)
    · cases hy
  | ptr a =>
    intro y hy
    simp only [D.ren] at hy
    split at hy
    · rename_i j hj; cases hy; exact .ptr (a.ren hR hj)
    · cases hy
  | el a b c d e => intro y hy; cases hy; exact .el a (fun j v hj => hR.pers _ _ _ (b j v hj)) (fun i x hx => (c i x hx).mono hR.pers) d e
  | @asl i path u off n c a m ha hb hc hd hm =>
    intro y hy
    simp only [D.ren] at hy
    split at hy
    · rename_i j hj
      cases hy
      refine .asl (m := m) (ha.ren hR hj) (fun ty x hx => ?_) hc hd hm
      obtain ⟨b0, off0, ty0, x0, o0, u0, e1, e2, e3, e4⟩ := ha
      obtain ⟨f1, k', f2, f3⟩ := hR.blk i j _ hj e2
      rw [hx] at f2
      cases f2
      cases f3
      exact hb _ x0 e2
    · cases hy
  | tup a _ ih =>
    intro y hy
    simp only [D.ren] at hy
    split at hy
    · rename_i ys hys
      cases hy
      obtain ⟨h1, h2⟩ := D.rens_get hys
      refine .tup (a.trans h1.symm) fun i v d hv hd => ?_
      obtain ⟨x, hx, hxd⟩ := h2 i d hd
      exact ih i v x hv hx hxd
    · cases hy
  | @it i v s pos a b =>
    intro y hy
    simp only [D.ren] at hy
    split at hy
    · rename_i j hj
      cases hy
      obtain ⟨f1, k', f2, f3⟩ := hR.blk i j _ hj a
      cases k' with
      | iter s' p' => exact .it f2 (f1.trans b)
      | tree => cases f3
      | row => cases f3
      | dead => cases f3
      | mrow => cases f3
      | mp => cases f3
    · cases hy
  | kb a => intro y hy; cases hy; exact .kb a
  | @mel u i n jj path o v pa a b =>
    intro y hy
    simp only [D.ren] at hy
    split at hy
    · rename_i j hj
      cases hy
      obtain ⟨o, xs, c1, c2, c3⟩ := b
      obtain ⟨f1, k', f2, f3⟩ := hR.blk i j _ hj c1
      cases k' with
      | mrow u' o' xs' => obtain ⟨rfl, rfl, rfl⟩ := f3; exact .mel a ⟨o, xs, f2, c2, fun e hj => by rw [f1]; exact c3 e hj⟩
      | tree => cases f3
      | iter => cases f3
      | dead => cases f3
      | row => cases f3
      | mp => cases f3
    · cases hy
  | tel a b c d =>
    intro y hy
    simp only [D.ren] at hy
    split at hy
    · rename_i ys hys
      cases hy
      obtain ⟨h1, h2⟩ := T.rens_get hys
      refine .tel (by rw [h1]; exact a) (fun j v hj => hR.pers _ _ _ (b j v hj)) (fun i z hz => ?_) (by rw [h1]; exact d)
      obtain ⟨x, hx, hxz⟩ := h2 i z hz
      exact (c i x hx).ren hR hxz
    · cases hy
  | any => intro y hy; cases hy; exact .any

theorem BlkRel.ren (hR : Ren ρ H1 β1 σ1 H2 β2 σ2) {w j j' bv k k'} (h : BlkRel tb H1 β1 σ1 w j bv k) (hk : k.ren ρ = some k') (hm : ∀ b o, H1 b o = .mine j → H2 b o = .mine j') : BlkRel tb H2 β2 σ2 w j' bv k' := by
  cases k with
  | tree ty x =>
    simp only [Blk.ren] at hk
    split at hk
    · rename_i y hy
      cases hk
      obtain ⟨b, off, cs, e1, e2, e0, e3, e4⟩ := h
      exact ⟨b, off, cs, e1, e2, e0, fun j v hj => ⟨(e3 j v hj).1, hm _ _ (e3 j v hj).2.1, (e3 j v hj).2.2⟩, e4.ren hR hy⟩
    · cases hk
  | row u n =>
    cases hk
    rcases h with h | ⟨b, off, c, e1, e2, e3⟩
    · exact .inl h
    · exact .inr ⟨b, off, c, e1, e2, fun j h1 h2 => ⟨(e3 j h1 h2).1, hm _ _ (e3 j h1 h2).2.1, (e3 j h1 h2).2.2⟩⟩
  | iter s p => cases hk; obtain ⟨r, e1, e2, e3⟩ := h; exact ⟨r, e1, e2, fun o => hm _ _ (e3 o)⟩
  | dead => cases hk; trivial
  | mrow u o xs =>
    cases hk
    cases o with
    | false => exact fun t ht => (h t ht).mono hR.pers
    | true =>
      rcases h with r | ⟨b, c, cs, zs, e1, e2, e3, e4, e5, e6, e7⟩
      · exact .inl r
      · exact .inr ⟨b, c, cs, zs, e1, e2, e3, ⟨e4.len, fun j x hx => (e4.el j x hx).mono hR.pers⟩, e5, e6, fun j v hj => ⟨(e7 j v hj).1, hm _ _ (e7 j v hj).2.1, (e7 j v hj).2.2⟩⟩
  | mp kt e es =>
    cases hk
    obtain ⟨r0, ms, e1, e2, e3, e4, e5, e6⟩ := h
    refine ⟨r0, ms, e1, e2, fun o => hm _ _ (e3 o), e4, fun j m x hmm hx => ?_, e6⟩
    obtain ⟨f1, ⟨kc, f2, f3⟩, f4, f5⟩ := e5 j m x hmm hx
    refine ⟨f1, ⟨kc, f2, f3.mono hR.pers⟩, fun t ht => (f4 t ht).mono hR.pers, fun ho => ?_⟩
    rcases f5 ho with r | ⟨b, off, c, g1, g2, g3⟩
    · exact .inl r
    · exact .inr ⟨b, off, c, g1, g2, fun q h1 h2 => ⟨(g3 q h1 h2).1, hm _ _ (g3 q h1 h2).2.1, (g3 q h1 h2).2.2⟩⟩
end

/-! ### a choice of blocks -/

def idxOf : List Nat → Nat → Option Nat
  | [], _ => none
  | i :: r, t => match Nat.beq i t with
    | true => some 0
    | false => match idxOf r t with
      | some j => some (j + 1)
      | none => none

theorem idxOf_get : ∀ {l : List Nat} {t j : Nat}, idxOf l t = some j → l[j]? = some t
  | [], t, j, h => by cases h
  | i :: r, t, j, h => by
    simp only [idxOf] at h
    split at h
    · rename_i hb; cases h; simp [Nat.eq_of_beq_eq_true hb]
    · split at h
      · rename_i k hk; cases h; simpa using idxOf_get hk
      · cases h
theorem idxOf_none : ∀ {l : List Nat} {t : Nat}, idxOf l t = none → t ∉ l
  | [], t, h => by simp
  | i :: r, t, h => by
    simp only [idxOf] at h
    split at h
    · cases h
    · rename_i hb
      split at h
      · cases h
      · rename_i hk
        simp only [List.mem_cons, not_or]
        exact ⟨fun e => Nat.ne_of_beq_eq_false hb e.symm, idxOf_none hk⟩

/-- The chosen blocks, renumbered. -/
def pickB (σ : List Blk) (ρ : Nat → Option Nat) : List Nat → Nat → Option (List Blk)
  | [], _ => some []
  | i :: r, j => match ρ i with
    | some j' => match Nat.beq j' j with
      | true => match σ[i]? with
        | some k => match Blk.ren ρ k with
          | some k' => match pickB σ ρ r (j + 1) with
            | some ks => some (k' :: ks)
            | none => none
          | none => none
        | none => none
      | false => none
    | none => none

theorem pickB_get {σ : List Blk} {ρ : Nat → Option Nat} : ∀ {l : List Nat} {j : Nat} {ks : List Blk}, pickB σ ρ l j = some ks →
    ks.length = l.length ∧ ∀ (q : Nat) (k' : Blk), ks[q]? = some k' → ∃ i k, l[q]? = some i ∧ ρ i = some (j + q) ∧ σ[i]? = some k ∧ Blk.ren ρ k = some k'
  | [], j, ks, h => by simp [pickB] at h; subst h; exact ⟨rfl, fun q k' hk => by simp at hk⟩
  | i :: r, j, ks, h => by
    simp only [pickB] at h
    split at h
    · rename_i j' hj
      split at h
      · rename_i hb
        have := Nat.eq_of_beq_eq_true hb; subst this
        split at h
        · rename_i k hk
          split at h
          · rename_i k' hk'
            split at h
            · rename_i zs hz
              cases h
              obtain ⟨h1, h2⟩ := pickB_get hz
              refine ⟨by simp [h1], fun q z hq => ?_⟩
              cases q with
              | zero => simp at hq; subst hq; exact ⟨i, k, rfl, hj, hk, hk'⟩
              | succ q =>
                obtain ⟨i2, k2, a1, a2, a3, a4⟩ := h2 q z (by simpa using hq)
                exact ⟨i2, k2, by simpa using a1, by rw [a2]; congr 1; omega, a3, a4⟩
            · cases h
          · cases h
        · cases h
      · cases h
    · cases h

/-- The ghost of a choice. -/
def pickH (ρ : Nat → Option Nat) (H : Gh) : Gh := fun b o => match H b o with
  | .mine i => match ρ i with
    | some j => .mine j
    | none => .none
  | x => x
theorem pickH_pers {ρ H b o v} : pickH ρ H b o = .pers v ↔ H b o = .pers v := by
  unfold pickH
  split
  · rename_i i h
    rw [h]
    split <;> simp
  · rfl
theorem pickH_mine {ρ H b o j} : pickH ρ H b o = .mine j ↔ ∃ i, H b o = .mine i ∧ ρ i = some j := by
  unfold pickH
  split
  · rename_i i h
    rw [h]
    split
    · rename_i k hk; simp [hk]
    · rename_i hk; simp [hk]
  · rename_i h
    constructor
    · intro e; exact absurd e (h j)
    · rintro ⟨i, hi, _⟩; exact absurd hi (h i)

theorem Rel.pick {tb H β σ w} (h : Rel tb H β σ w) {idx : List Nat} {σ0 : List Blk} (hp : pickB σ (idxOf idx) idx 0 = some σ0) :
    Rel tb (pickH (idxOf idx) H) (idx.map fun i => β.getD i undef) σ0 w ∧ Ren (idxOf idx) H β σ (pickH (idxOf idx) H) (idx.map fun i => β.getD i undef) σ0 := by
  obtain ⟨h1, h2⟩ := pickB_get hp
  have hβ : ∀ i k, σ[i]? = some k → β[i]? = some (β.getD i undef) := fun i k hk => by
    have hi : i < β.length := by rw [h.len]; exact (List.getElem?_eq_some_iff.1 hk).1
    simp [List.getD, List.getElem?_eq_getElem hi]
  have hren : Ren (idxOf idx) H β σ (pickH (idxOf idx) H) (idx.map fun i => β.getD i undef) σ0 := by
    refine ⟨fun b o v e => pickH_pers.2 e, fun j j' k hj hk => ?_⟩
    have hjj := idxOf_get hj
    have hlt : j' < σ0.length := by rw [h1]; exact (List.getElem?_eq_some_iff.1 hjj).1
    obtain ⟨i, k2, a1, a2, a3, a4⟩ := h2 j' _ (List.getElem?_eq_getElem hlt)
    rw [hjj] at a1; cases a1
    rw [hk] at a3; cases a3
    refine ⟨by rw [List.getElem?_map, hjj]; exact (hβ j k hk).symm, _, List.getElem?_eq_getElem hlt, Blk.ren_alike a4⟩
  refine ⟨⟨fun b o v e => h.pers b o v (pickH_pers.1 e), fun b o e => h.dom b o fun h0 => e (by simp [pickH, h0]), by simp [h1], fun j k' bv hk hv => ?_⟩, hren⟩
  obtain ⟨i, k, a1, a2, a3, a4⟩ := h2 j k' hk
  rw [Nat.zero_add] at a2
  simp only [List.getElem?_map, a1, Option.map_some, Option.some.injEq] at hv
  subst hv
  exact (h.blk i k _ a3 (hβ i k a3)).ren hren a4 fun b o e => pickH_mine.2 ⟨i, e, a2⟩

end Go.Den
/- Contracts of functions that are handed blocks, and hand back blocks: calls, and how a contract is proved. -/
namespace Go.Den
open Go
set_option linter.unusedSectionVars false
set_option linter.unusedSimpArgs false
set_option linter.unusedVariables false

/-- What is handed over: plain data where it is plain data. -/
def outD (rows : Bool) (t : TypeId) (y : T) : D := match rows with
  | true => ldD t y
  | false => match toE y with
    | some e => .t t (.e e)
    | none => ldD t y
def argD (tb : Tab) (env : Env) (t : TypeId) (x : Operand) : Option D := match opd tb env t x with
  | some d => match asT tb t d with
    | some y => some (outD false t y)
    | none => some d
  | none => none
def argsD (tb : Tab) (env : Env) : List TypeId → List Operand → Option (List D)
  | [], [] => some []
  | t :: ts, x :: xs => match argD tb env t x with
    | some y => match argsD tb env ts xs with
      | some ys => some (y :: ys)
      | none => none
    | none => none
  | _, _ => none

/-- The contract of a function. -/
def FnG (P : Program) (tb : Tab) (f : FuncId) (σ0 : List Blk) (args : List D) (Q : D → List Blk → Prop) : Prop :=
  (∃ fn, P.funcs[f]? = some fn ∧ (fn.name == "runtime.NumGoroutine") = false ∧ fn.body.isNone = false) ∧
  ∀ H β w vals, Rel tb H β σ0 w → (∀ b o i, H b o = .mine i → i < σ0.length) → ArgsAt tb H β σ0 vals args →
    Calls P f vals w fun e w' => ∃ v d H' β' σ', e = .returned v ∧ Q d σ' ∧ σ0.length ≤ σ'.length ∧ Rel tb H' β' σ' w' ∧ DRel tb H' β' σ' v d ∧ Stp H w H' w' ∧ Kp σ0.length β σ0 β' σ'

theorem FnG.mono {P tb f σ0 args Q Q'} (h : FnG P tb f σ0 args Q) (hq : ∀ d s, Q d s → Q' d s) : FnG P tb f σ0 args Q' :=
  ⟨h.1, fun H β w vals hr hm ha => (h.2 H β w vals hr hm ha).mono fun e w' ⟨v, d, H', β', σ', a, b, c⟩ => ⟨v, d, H', β', σ', a, hq _ _ b, c⟩⟩

theorem FnOk.g {P tb f pts rts args rs} (h : FnOk P tb f pts rts args rs) : FnG P tb f [] (typed pts args) (fun d s => d = retD rts rs ∧ s = []) :=
  ⟨h.1, fun H β w vals hr hm ha => by
    have hβ : β = [] := by have := hr.len; simpa using this
    subst hβ
    refine (h.2.2 H w vals hr.base (fun b o i e => by have := hm b o i e; simp at this) ha).mono ?_
    rintro e w' ⟨v, H', he, hb, hv, hs⟩
    exact ⟨v, _, H', [], [], he, ⟨rfl, rfl⟩, Nat.le_refl _, hb.rel, hv, hs, .refl _ _ _⟩⟩

/-! ### putting back -/

def putBack {α : Type _} (l : List α) : List Nat → List α → List α
  | [], xs => l ++ xs
  | i :: is, x :: xs => putBack (l.set i x) is xs
  | _ :: _, [] => l
def backI : List Nat → Nat → Nat → Nat
  | [], n, j => n + j
  | i :: _, _, 0 => i
  | _ :: is, n, j + 1 => backI is n j
def renBs (ρ : Nat → Option Nat) : List Blk → Option (List Blk)
  | [] => some []
  | x :: xs => match Blk.ren ρ x with
    | some y => match renBs ρ xs with
      | some ys => some (y :: ys)
      | none => none
    | none => none
theorem renBs_get {ρ : Nat → Option Nat} : ∀ {xs ys : List Blk}, renBs ρ xs = some ys → ys.length = xs.length ∧ ∀ (i : Nat) (x : Blk), xs[i]? = some x → ∃ y, ys[i]? = some y ∧ x.ren ρ = some y
  | [], ys, h => by simp [renBs] at h; subst h; exact ⟨rfl, fun i y hy => by simp at hy⟩
  | x :: xs, ys, h => by
    simp only [renBs] at h
    split at h
    · rename_i y hy
      split at h
      · rename_i zs hz
        cases h
        obtain ⟨h1, h2⟩ := renBs_get hz
        refine ⟨by simp [h1], fun i z hzz => ?_⟩
        cases i with
        | zero => simp at hzz; subst hzz; exact ⟨y, rfl, hy⟩
        | succ i => exact h2 i z (by simpa using hzz)
      · cases h
    · cases h

theorem putBack_out {α : Type _} : ∀ {idx : List Nat} {l xs : List α} {i : Nat}, i ∉ idx → i < l.length → idx.length ≤ xs.length → (putBack l idx xs)[i]? = l[i]?
  | [], l, xs, i, _, hi, _ => by simp only [putBack]; rw [List.getElem?_append_left hi]
  | k :: is, l, x :: xs, i, hn, hi, hx => by
    simp only [List.mem_cons, not_or] at hn
    simp only [putBack]
    rw [putBack_out hn.2 (by simpa using hi) (by simpa using hx), List.getElem?_set_ne (fun e => hn.1 e.symm)]
  | k :: is, l, [], i, _, _, hx => by simp at hx
theorem putBack_at {α : Type _} : ∀ {idx : List Nat} {l xs : List α}, idx.Nodup → (∀ i ∈ idx, i < l.length) → idx.length ≤ xs.length → ∀ j, j < xs.length → (putBack l idx xs)[backI idx l.length j]? = xs[j]?
  | [], l, xs, _, _, _, j, hj => by simp only [putBack, backI]; rw [List.getElem?_append_right (by omega)]; simp
  | k :: is, l, x :: xs, hd, hb, hx, j, hj => by
    simp only [putBack]
    have hnd := List.nodup_cons.1 hd
    have hk : k < l.length := hb k (by simp)
    cases j with
    | zero =>
      simp only [backI]
      rw [putBack_out hnd.1 (by simpa using hk) (by simpa using hx)]
      simp [hk]
    | succ j =>
      simp only [backI]
      have := putBack_at (l := l.set k x) (xs := xs) hnd.2 (fun i hi => by simpa using hb i (by simp [hi])) (by simpa using hx) j (by simpa using hj)
      simpa using this
  | k :: is, l, [], _, _, hx, j, hj => by simp at hx
theorem putBack_length {α : Type _} : ∀ {idx : List Nat} {l xs : List α}, idx.length ≤ xs.length → (putBack l idx xs).length + idx.length = l.length + xs.length
  | [], l, xs, _ => by simp [putBack]
  | k :: is, l, x :: xs, hx => by
    have := putBack_length (idx := is) (l := l.set k x) (xs := xs) (by simpa using hx)
    simp only [putBack, List.length_cons]
    simp at this; omega
  | k :: is, l, [], hx => by simp at hx
theorem backI_idx : ∀ {idx : List Nat} {n j i : Nat}, idx[j]? = some i → backI idx n j = i
  | [], n, j, i, h => by simp at h
  | k :: is, n, 0, i, h => by simp at h; exact h
  | k :: is, n, j + 1, i, h => by simp only [backI]; exact backI_idx (by simpa using h)
theorem backI_new : ∀ {idx : List Nat} {n j : Nat}, idx.length ≤ j → backI idx n j = n + (j - idx.length)
  | [], n, j, h => by simp [backI]
  | k :: is, n, 0, h => by simp at h
  | k :: is, n, j + 1, h => by simp only [backI]; rw [backI_new (by simpa using h)]; simp
theorem putBack_split {α : Type _} {idx : List Nat} {l xs : List α} {q : Nat} (h : q < (putBack l idx xs).length) (hx : idx.length ≤ xs.length) (hin : ∀ i ∈ idx, i < l.length) : (∃ j, j < xs.length ∧ backI idx l.length j = q) ∨ (q ∉ idx ∧ q < l.length) := by
  by_cases hq : q ∈ idx
  · obtain ⟨j, hj⟩ := List.getElem?_of_mem hq
    exact .inl ⟨j, Nat.lt_of_lt_of_le (List.getElem?_eq_some_iff.1 hj).1 hx, backI_idx hj⟩
  · rcases Nat.lt_or_ge q l.length with h1 | h1
    · exact .inr ⟨hq, h1⟩
    · refine .inl ⟨idx.length + (q - l.length), ?_, ?_⟩
      · have := putBack_length (l := l) hx; omega
      · rw [backI_new (by omega)]; omega

/-- The caller's ghost behind a call that was handed blocks. -/
def backH (H : Gh) (idx : List Nat) (n : Nat) (H' : Gh) : Gh := fun b o => match H' b o with
  | .mine j => .mine (backI idx n j)
  | .pers v => .pers v
  | .none => match H b o with
    | .mine i => match idxOf idx i with
      | some _ => .none
      | none => .mine i
    | _ => .none

theorem idxOf_nodup {σ : List Blk} {idx : List Nat} {σ0 : List Blk} (hp : pickB σ (idxOf idx) idx 0 = some σ0) : idx.Nodup ∧ ∀ i ∈ idx, i < σ.length := by
  obtain ⟨h1, h2⟩ := pickB_get hp
  have key : ∀ q i, idx[q]? = some i → idxOf idx i = some q ∧ i < σ.length := fun q i hq => by
    have hlt : q < σ0.length := by rw [h1]; exact (List.getElem?_eq_some_iff.1 hq).1
    obtain ⟨i2, k, a1, a2, a3, a4⟩ := h2 q _ (List.getElem?_eq_getElem hlt)
    rw [hq] at a1; cases a1
    exact ⟨by rw [a2, Nat.zero_add], (List.getElem?_eq_some_iff.1 a3).1⟩
  refine ⟨List.pairwise_iff_getElem.2 fun i j hi hj hij e => ?_, fun i hi => ?_⟩
  · have a := (key i _ (List.getElem?_eq_getElem hi)).1
    have b := (key j _ (List.getElem?_eq_getElem hj)).1
    rw [e, b] at a; cases a; omega
  · obtain ⟨q, hq⟩ := List.getElem?_of_mem hi
    exact (key q i hq).2

theorem Rel.back {tb H β σ w} (h : Rel tb H β σ w) {idx : List Nat} {σ0 : List Blk} (hp : pickB σ (idxOf idx) idx 0 = some σ0) {H' β' σ' w'}
    (hr : Rel tb H' β' σ' w') (hs : Stp (pickH (idxOf idx) H) w H' w') (hk : Kp idx.length (idx.map fun i => β.getD i undef) σ0 β' σ') (hle : idx.length ≤ σ'.length)
    {τ : List Blk} (hτ : renBs (fun j => some (backI idx σ.length j)) σ' = some τ) :
    Rel tb (backH H idx σ.length H') (putBack β idx β') (putBack σ idx τ) w' ∧ Stp H w (backH H idx σ.length H') w' ∧ Ev H β σ (backH H idx σ.length H') (putBack β idx β') (putBack σ idx τ) ∧
      Ren (fun j => some (backI idx σ.length j)) H' β' σ' (backH H idx σ.length H') (putBack β idx β') (putBack σ idx τ) := by
  obtain ⟨hnd, hin⟩ := idxOf_nodup hp
  obtain ⟨hp1, hp2⟩ := pickB_get hp
  obtain ⟨hτ1, hτ2⟩ := renBs_get hτ
  have hlβ : β.length = σ.length := h.len
  have hle2 : idx.length ≤ τ.length := by omega
  have hle3 : idx.length ≤ β'.length := by rw [hr.len]; exact hle
  have hinβ : ∀ i ∈ idx, i < β.length := fun i hi => by rw [hlβ]; exact hin i hi
  have atσ : ∀ j, j < τ.length → (putBack σ idx τ)[backI idx σ.length j]? = τ[j]? := fun j hj => putBack_at hnd hin hle2 j hj
  have atβ : ∀ j, j < τ.length → (putBack β idx β')[backI idx σ.length j]? = β'[j]? := fun j hj => by
    rw [← hlβ]; exact putBack_at hnd hinβ hle3 j (by rw [hr.len, ← hτ1]; exact hj)
  have outσ : ∀ i, i ∉ idx → i < σ.length → (putBack σ idx τ)[i]? = σ[i]? := fun i hi hl => putBack_out hi hl hle2
  have outβ : ∀ i, i ∉ idx → i < σ.length → (putBack β idx β')[i]? = β[i]? := fun i hi hl => putBack_out hi (by rw [hlβ]; exact hl) hle3
  have nm : ∀ b o i, H b o = .mine i → i ∉ idx → ∀ j, pickH (idxOf idx) H b o ≠ .mine j := fun b o i hm hi j e => by
    obtain ⟨i', e1, e2⟩ := pickH_mine.1 e
    rw [hm] at e1; cases e1
    exact hi (List.mem_of_getElem? (idxOf_get e2))
  have hmine : ∀ b o i, H b o = .mine i → i ∉ idx → backH H idx σ.length H' b o = .mine i := fun b o i hm hi => by
    have hlt := h.dom b o (by rw [hm]; simp)
    have h0 : pickH (idxOf idx) H b o = .none := by
      unfold pickH; rw [hm]
      cases hx : idxOf idx i with
      | none => simp [hx]
      | some q => exact absurd (List.mem_of_getElem? (idxOf_get hx)) hi
    have h1 : H' b o = .none := by rw [hs.gh b hlt o (nm b o i hm hi), h0]
    have hx : idxOf idx i = none := by
      cases hx : idxOf idx i with
      | none => rfl
      | some q => exact absurd (List.mem_of_getElem? (idxOf_get hx)) hi
    simp [backH, h1, hm, hx]
  have hpers : ∀ b o v, H b o = .pers v → backH H idx σ.length H' b o = .pers v := fun b o v e => by
    have hlt := h.dom b o (by rw [e]; simp)
    have h0 : pickH (idxOf idx) H b o = .pers v := pickH_pers.2 e
    have h1 : H' b o = .pers v := by rw [hs.gh b hlt o (fun i => by rw [h0]; simp), h0]
    simp [backH, h1]
  have hev : Ev H β σ (backH H idx σ.length H') (putBack β idx β') (putBack σ idx τ) := by
    have base : ∀ i q, idx[q]? = some i → i < σ.length → (idx.map fun i => β.getD i undef)[q]? = β[i]? := fun i q hq hi => by
      rw [List.getElem?_map, hq]; simp [List.getD, List.getElem?_eq_getElem (show i < β.length by omega)]
    have place : ∀ i, i ∈ idx → ∀ k, σ[i]? = some k → ∃ q k0, idx[q]? = some i ∧ q < idx.length ∧ σ0[q]? = some k0 ∧ alike k k0 := fun i hi k hk => by
      obtain ⟨q, hq⟩ := List.getElem?_of_mem hi
      have hlt : q < σ0.length := by rw [hp1]; exact (List.getElem?_eq_some_iff.1 hq).1
      obtain ⟨i2, k2, a1, a2, a3, a4⟩ := hp2 q _ (List.getElem?_eq_getElem hlt)
      rw [hq] at a1; cases a1
      rw [hk] at a3; cases a3
      exact ⟨q, _, hq, by omega, List.getElem?_eq_getElem hlt, Blk.ren_alike a4⟩
    refine ⟨hpers, fun i ty x e => ?_, fun i u n e => ?_, fun i s p e => ?_, fun i u o xs e => ?_, fun i k9 e9 es e => ?_⟩
    · have hi := (List.getElem?_eq_some_iff.1 e).1
      by_cases hm : i ∈ idx
      · obtain ⟨q, k0, hq, hql, hk0, hal⟩ := place i hm _ e
        cases k0 with
        | tree ty' x' =>
          cases hal
          obtain ⟨g1, x2, g2⟩ := hk.tree q hql ty x' hk0
          obtain ⟨k2, g3, g4⟩ := hτ2 q _ g2
          have hbi := backI_idx (n := σ.length) hq
          have hqt : q < τ.length := (List.getElem?_eq_some_iff.1 g3).1
          have a1 := atσ q hqt
          have a2 := atβ q hqt
          rw [hbi] at a1 a2
          refine ⟨by rw [a2, g1]; exact base i q hq hi, ?_⟩
          rw [a1, g3]
          simp only [Blk.ren] at g4
          split at g4
          · cases g4; exact ⟨_, rfl⟩
          · cases g4
        | row => cases hal
        | iter => cases hal
        | dead => cases hal
        | mrow => cases hal
        | mp => cases hal
      · exact ⟨outβ i hm hi, x, by rw [outσ i hm hi]; exact e⟩
    · have hi := (List.getElem?_eq_some_iff.1 e).1
      by_cases hm : i ∈ idx
      · obtain ⟨q, k0, hq, hql, hk0, hal⟩ := place i hm _ e
        cases k0 with
        | row u' n' =>
          obtain ⟨rfl, rfl⟩ := hal
          obtain ⟨n2, g1, g2, g3⟩ := hk.row q hql u n hk0
          obtain ⟨k2, g4, g5⟩ := hτ2 q _ g1
          cases g5
          have hbi := backI_idx (n := σ.length) hq
          have hqt : q < τ.length := (List.getElem?_eq_some_iff.1 g4).1
          have a1 := atσ q hqt
          have a2 := atβ q hqt
          rw [hbi] at a1 a2
          exact ⟨n2, by rw [a1, g4], g2, fun e2 => by rw [a2, g3 e2]; exact base i q hq hi⟩
        | tree => cases hal
        | iter => cases hal
        | dead => cases hal
        | mrow => cases hal
        | mp => cases hal
      · exact ⟨n, by rw [outσ i hm hi]; exact e, Nat.le_refl _, fun _ => outβ i hm hi⟩
    · have hi := (List.getElem?_eq_some_iff.1 e).1
      by_cases hm : i ∈ idx
      · obtain ⟨q, k0, hq, hql, hk0, hal⟩ := place i hm _ e
        cases k0 with
        | iter s' p' =>
          obtain ⟨rfl, rfl⟩ := hal
          obtain ⟨g1, s2, p2, g2⟩ := hk.iter q hql s p hk0
          obtain ⟨k2, g4, g5⟩ := hτ2 q _ g2
          cases g5
          have hbi := backI_idx (n := σ.length) hq
          have hqt : q < τ.length := (List.getElem?_eq_some_iff.1 g4).1
          have a1 := atσ q hqt
          have a2 := atβ q hqt
          rw [hbi] at a1 a2
          exact ⟨by rw [a2, g1]; exact base i q hq hi, s2, p2, by rw [a1, g4]⟩
        | tree => cases hal
        | row => cases hal
        | dead => cases hal
        | mrow => cases hal
        | mp => cases hal
      · exact ⟨outβ i hm hi, s, p, by rw [outσ i hm hi]; exact e⟩
    · have hi := (List.getElem?_eq_some_iff.1 e).1
      by_cases hm : i ∈ idx
      · obtain ⟨q, k0, hq, hql, hk0, hal⟩ := place i hm _ e
        cases k0 with
        | mrow u' o' xs' =>
          obtain ⟨rfl, rfl, rfl⟩ := hal
          obtain ⟨o2, xs2, g1, g2, g3⟩ := hk.mrow q hql u o xs hk0
          obtain ⟨k2, g4, g5⟩ := hτ2 q _ g1
          cases g5
          have hbi := backI_idx (n := σ.length) hq
          have hqt : q < τ.length := (List.getElem?_eq_some_iff.1 g4).1
          have a1 := atσ q hqt
          have a2 := atβ q hqt
          rw [hbi] at a1 a2
          exact ⟨o2, xs2, by rw [a1, g4], g2, fun e2 => by rw [a2, g3 e2]; exact base i q hq hi⟩
        | tree => cases hal
        | iter => cases hal
        | dead => cases hal
        | row => cases hal
        | mp => cases hal
      · exact ⟨o, xs, by rw [outσ i hm hi]; exact e, Nat.le_refl _, fun _ => outβ i hm hi⟩
    · have hi := (List.getElem?_eq_some_iff.1 e).1
      by_cases hm : i ∈ idx
      · obtain ⟨q, k0, hq, hql, hk0, hal⟩ := place i hm _ e
        cases k0 with
        | mp k8 e8 es8 =>
          obtain ⟨rfl, rfl, rfl⟩ := hal
          obtain ⟨g1, es2, g2⟩ := hk.mp q hql k9 e9 es hk0
          obtain ⟨k2, g4, g5⟩ := hτ2 q _ g2
          cases g5
          have hbi := backI_idx (n := σ.length) hq
          have hqt : q < τ.length := (List.getElem?_eq_some_iff.1 g4).1
          have a1 := atσ q hqt
          have a2 := atβ q hqt
          rw [hbi] at a1 a2
          exact ⟨by rw [a2, g1]; exact base i q hq hi, es2, by rw [a1, g4]⟩
        | tree => cases hal
        | row => cases hal
        | iter => cases hal
        | dead => cases hal
        | mrow => cases hal
      · exact ⟨outβ i hm hi, es, by rw [outσ i hm hi]; exact e⟩
  have hren : Ren (fun j => some (backI idx σ.length j)) H' β' σ' (backH H idx σ.length H') (putBack β idx β') (putBack σ idx τ) := by
    refine ⟨fun b o v e => by simp [backH, e], fun j j' k hj hk => ?_⟩
    cases hj
    obtain ⟨y, hy, hky⟩ := hτ2 j k hk
    have hjt := (List.getElem?_eq_some_iff.1 hy).1
    exact ⟨atβ j hjt, y, by rw [atσ j hjt]; exact hy, Blk.ren_alike hky⟩
  refine ⟨⟨fun b o v e => ?_, fun b o e => ?_, ?_, ?_⟩, ?_, hev, hren⟩
  · refine hr.pers b o v ?_
    unfold backH at e
    split at e
    · cases e
    · rename_i v' hv; cases e; exact hv
    · split at e
      · split at e <;> cases e
      · cases e
  · by_cases h1 : H' b o = .none
    · by_cases h2 : H b o = .none
      · exact absurd (by simp [backH, h1, h2]) e
      · exact Nat.lt_of_lt_of_le (h.dom b o h2) hs.size
    · exact hr.dom b o h1
  · have a := putBack_length (l := β) hle3
    have b := putBack_length (l := σ) hle2
    have := hr.len; omega
  · intro q k bv hk hv
    have hq := (List.getElem?_eq_some_iff.1 hk).1
    rcases putBack_split hq hle2 hin with ⟨j, hj, rfl⟩ | ⟨hq1, hq2⟩
    · have hj' : j < σ'.length := by omega
      rw [atσ j hj] at hk
      rw [atβ j hj] at hv
      obtain ⟨y, hy, hky⟩ := hτ2 j _ (List.getElem?_eq_getElem hj')
      rw [hk] at hy; cases hy
      exact (hr.blk j _ bv (List.getElem?_eq_getElem hj') hv).ren hren hky fun b o e => by simp [backH, e]
    · rw [outσ q hq1 hq2] at hk
      rw [outβ q hq1 hq2] at hv
      refine (h.blk q k bv hk hv).mono hev (fun b o e => ?_) (fun b x e _ he => ?_)
      · have hlt := h.dom b o (by rw [e]; simp)
        have hn := nm b o q e hq1
        exact ⟨hmine b o q e hq1, hs.cell b hlt o hn, fun v hv => hs.frz b hlt o v hv hn, hs.shp b hlt⟩
      · have hlt := h.dom b 0 (by rw [e 0]; simp)
        rw [hs.blk b hlt (fun o => nm b o q (e o) hq1)]; exact he
  · refine ⟨hs.os, hs.tape, hs.output, hs.size, fun b hb o hn => ?_, fun b hb o i e => ?_, fun b hb hn => ?_, fun b hb o hn => ?_, fun b hb o v hv hn => ?_, hs.shp⟩
    · have hn0 : ∀ j, pickH (idxOf idx) H b o ≠ .mine j := fun j e => by obtain ⟨i, e1, _⟩ := pickH_mine.1 e; exact hn i e1
      have h0 : pickH (idxOf idx) H b o = H b o := by
        unfold pickH; split
        · rename_i i hi; exact absurd hi (hn i)
        · rfl
      have h1 := hs.gh b hb o hn0
      rw [h0] at h1
      unfold backH; rw [h1]
      cases hx : H b o with
      | none => rfl
      | pers v => rfl
      | mine i => exact absurd hx (hn i)
    · by_cases h1 : ∃ j, H' b o = .mine j
      · obtain ⟨j, hj⟩ := h1
        obtain ⟨k, hk⟩ := hs.own b hb o j hj
        obtain ⟨i', e1, _⟩ := pickH_mine.1 hk
        exact ⟨i', e1⟩
      · unfold backH at e
        split at e
        · rename_i j hj; exact absurd ⟨j, hj⟩ h1
        · cases e
        · split at e
          · rename_i i' hi'; exact ⟨i', hi'⟩
          · cases e
    · exact hs.blk b hb fun o j e => by obtain ⟨i, e1, _⟩ := pickH_mine.1 e; exact hn o i e1
    · exact hs.cell b hb o fun j e => by obtain ⟨i, e1, _⟩ := pickH_mine.1 e; exact hn i e1
    · exact hs.frz b hb o v hv fun j e => by obtain ⟨i, e1, _⟩ := pickH_mine.1 e; exact hn i e1
end Go.Den
/- append: a slice that is the newest of a row of the call's own grows. -/
namespace Go.Den
open Go
set_option linter.unusedSectionVars false
set_option linter.unusedSimpArgs false
set_option linter.unusedVariables false

theorem Rel.drew {tb H β σ w} (h : Rel tb H β σ w) : Rel tb H β σ w.drew :=
  ⟨h.pers, h.dom, h.len, fun i k bv hk hv => by
    have := h.blk i k bv hk hv
    cases k with
    | tree ty x => exact this
    | row ety n => exact this
    | iter s p => exact this
    | dead => trivial
    | mrow u o xs => exact this
    | mp k e es => exact this⟩
theorem Stp.drew (H : Gh) (w : World) : Stp H w H w.drew :=
  ⟨rfl, rfl, rfl, Nat.le_refl _, fun _ _ _ _ => rfl, fun _ _ _ i h => ⟨i, h⟩, fun _ _ _ => rfl, fun _ _ _ _ => rfl, fun _ _ _ _ _ _ => rfl, fun _ _ => rfl⟩

/-- The world behind an append that had room. -/
def inPlace (w : World) (ba : Option Addr) (k : Nat) (news : List Value) : World := match ba with
  | some a => w.setCells a.block (a.off + k) news
  | none => w

section
variable {C : Cx} (hC : Ok C) {o : Oper} {env : Env} {σ : List Blk}
include hC

/-- What append does, as the model runs it. -/
theorem run_append_any {t t2 ty u : TypeId} (ht : td C.tb t = .sl u) (hz : plain C.tb zf u = true) {ba : Option Addr} {n cap m : Nat} {x : Value} {olds news : List Value} {w : World}
    (h2 : t2 = t ∨ td C.tb t2 = .str) (hlx : (Builtin.lenOf x).run C.P w = .ok m w) (hfx : ∀ w : World, w.heap = w.heap → True)
    (hnew : ∀ w', (∀ b o v, w.cell? ⟨b, o, none⟩ = some v → w'.cell? ⟨b, o, none⟩ = some v) → (Builtin.firstCells (sz C.tb u) m x).run C.P w' = .ok news.toArray w')
    (hol : olds.length = n * sz C.tb u) (hold : ∀ b off, ba = some ⟨b, off, none⟩ → ∀ (j : Nat) v, olds[j]? = some v → w.cell? ⟨b, off + j, none⟩ = some v) (hnone : ba = none → n = 0 ∧ cap = 0) (hspot : ∀ a, ba = some a → a.spot = none)
    (hnl : news.length = m * sz C.tb u) (h1 : ∀ v ∈ news, v.oneCell' = true)
    (hroom : n + m ≤ cap → ∀ b off, ba = some ⟨b, off, none⟩ → ∀ j, j < news.length → (w.cell? ⟨b, off + n * sz C.tb u + j, none⟩).isSome = true ∧ w.frozen? ⟨b, off + n * sz C.tb u + j, none⟩ = false)
    (hbytes : (n + m) * nb C.tb u ≤ maxL) (hmax : n + m ≤ maxL) :
    (n + m ≤ cap ∧ (Builtin.append_ #[t, t2] ty #[.slice ba n cap, x]).run C.P w = .ok (.slice ba (n + m) cap) (inPlace w ba (n * sz C.tb u) news)) ∨
    (¬ n + m ≤ cap ∧ ∃ nc, ∃ zs : List Value, n + m ≤ nc ∧ zs.length = (nc - (n + m)) * sz C.tb u ∧
      (Builtin.append_ #[t, t2] ty #[.slice ba n cap, x]).run C.P w = .ok (.slice (some ⟨w.heap.size, 0, none⟩) (n + m) nc) (w.drew.alloc (.cells (olds ++ news ++ zs).toArray u))) := by
  have hu := plain_ne hz
  have hlt := hC.tab.lt_of_td hu
  obtain ⟨i, hi, hsz, hby⟩ := hC.tab.info hlt
  obtain ⟨z, hzr, hzc⟩ := hC.zero.get hC.tab hz w
  have hzl : z.cells.size = sz C.tb u := by
    have := (zeroT_rel hC.tab (H := fun _ _ => .none) (β := []) (σ := []) zf u hz).len hC.tab
    rw [← hzc] at this; simpa using this
  have hzv : i.zero = some z := by
    simp [zeroValue, typeInfo, hi] at hzr
    cases hq : i.zero with
    | none => simp [hq] at hzr
    | some z' => simp [hq] at hzr; rw [hzr]
  have hund := hC.tab.sl ht
  have hund2 : ∃ d2, C.P.underlying t2 = some d2 ∧ (d2 = .slice u ∨ d2 = .string) := by
    rcases h2 with rfl | h2
    · exact ⟨_, hund, .inl rfl⟩
    · exact ⟨_, hC.tab.str h2, .inr rfl⟩
  obtain ⟨d2, hd2, rfl | rfl⟩ := hund2
  all_goals
      by_cases hr : n + m ≤ cap
      · refine .inl ⟨hr, ?_⟩
        cases ba with
        | none =>
          obtain ⟨rfl, rfl⟩ := hnone rfl
          have hm0 : m = 0 := by omega
          subst hm0
          have hnews : news = [] := List.length_eq_zero_iff.1 (by simpa using hnl)
          subst hnews
          simp [Builtin.append_, run_underlying_of hC.tab hund, run_underlying_of hC.tab hd2, sizeOf, typeInfo, hi, hsz, hlx, hnew w (fun _ _ _ h => h), inPlace]
        | some a =>
          obtain ⟨b, off, sp⟩ := a
          have hsp : sp = none := hspot _ rfl
          subst hsp
          have hst := run_storeCells_cells (P := C.P) b (off + n * sz C.tb u) news 0 w (fun j hj => by simpa using (hroom hr b off rfl j hj).1) (fun j hj => by simpa using (hroom hr b off rfl j hj).2) h1
          simp only [Nat.add_zero] at hst
          have hadd : (⟨b, off, none⟩ : Addr).add (n * sz C.tb u) = ⟨b, off + n * sz C.tb u, none⟩ := add_plain _ _ _
          simp [Builtin.append_, run_underlying_of hC.tab hund, run_underlying_of hC.tab hd2, sizeOf, typeInfo, hi, hsz, hlx, hnew w (fun _ _ _ h => h), hr, hadd, hst, inPlace]
      · refine .inr ⟨hr, ?_⟩
        have hcaplt : cap < n + m := by omega
        have hgf := growslice_fits hcaplt (show (n + m) * nb C.tb u ≤ 140737488355328 from hbytes)
        refine ⟨Question.cut (.appendCap (n + m) cap u) (w.tape w.drawn (.appendCap (n + m) cap u)), (Builtin.zeroCells z.cells (Question.cut (.appendCap (n + m) cap u) (w.tape w.drawn (.appendCap (n + m) cap u)) - (n + m))).toList, by simp [Question.cut], by simp [Builtin.zeroCells, hzl], ?_⟩
        have hof : (Builtin.firstCells (sz C.tb u) n (.slice ba n cap)).run C.P w.drew = .ok olds.toArray w.drew := by
          cases ba with
          | none =>
            obtain ⟨rfl, rfl⟩ := hnone rfl
            have : olds = [] := List.length_eq_zero_iff.1 (by simpa using hol)
            subst this; rfl
          | some a =>
            obtain ⟨b, off, sp⟩ := a
            have hsp : sp = none := hspot _ rfl
            subst hsp
            exact run_firstCells_some _ (sz C.tb u) n ⟨b, off, none⟩ n cap olds hol (fun j v hj => by rw [add_plain]; exact hold b off rfl j v hj)
        have hbig : ¬ (Builtin.nextslicecap (n + m) cap * nb C.tb u > 2 ^ 48) := by omega
        have hmx : ¬ (((n + m : Nat) : Int) > IntKind.max .i64) := by
          have : IntKind.max .i64 = 9223372036854775807 := by decide
          rw [this]; unfold maxL at hmax; omega
        have hmx' : ¬ ((n : Int) + (m : Int) > IntKind.max .i64) := by simpa using hmx
        have hzr' : ∀ w' : World, (zeroValue u).run C.P w' = .ok z w' := fun w' => by simp [zeroValue, typeInfo, hi, hzv]
        have hforced : (Question.appendCap (n + m) cap u).forced = false := rfl
        simp [Builtin.append_, run_underlying_of hC.tab hund, run_underlying_of hC.tab hd2, sizeOf, typeInfo, hi, hsz, hby, hlx, hr, hbig, hmx', hforced, hof, hnew w.drew (fun _ _ _ h => h), hzr', newRow]
        rw [if_neg (by unfold maxL at hmax; omega)]
        congr 3
        apply Array.ext'
        simp

end
end Go.Den
/- append: the rule. -/
namespace Go.Den
open Go
set_option linter.unusedSectionVars false
set_option linter.unusedSimpArgs false
set_option linter.unusedVariables false

def RowRel (tb : Tab) (H : Gh) (w : World) (i : Nat) (bv : Value) (u : TypeId) (n : Nat) : Prop :=
  (bv = .slice none 0 0 ∧ n = 0) ∨ ∃ b off c, bv = .slice (some ⟨b, off, none⟩) n c ∧ n ≤ c ∧
    ∀ j, n * sz tb u ≤ j → j < c * sz tb u → (∃ v, w.cell? ⟨b, off + j, none⟩ = some v) ∧ H b (off + j) = .mine i ∧ w.frozen? ⟨b, off + j, none⟩ = false

theorem RowC.app {tb H u cs ds xs ys} (h : RowC tb H u cs xs) (k : RowC tb H u ds ys) : RowC tb H u (cs ++ ds) (xs ++ ys) := by
  refine ⟨by simp [h.len, k.len, Nat.add_mul], fun i x hx => ?_⟩
  have hseg : ∀ o n, seg (cs ++ ds) o n = if o + n ≤ cs.length then seg cs o n else seg (cs ++ ds) o n := by
    intro o n
    split
    · rename_i hle
      apply List.ext_getElem?
      intro j
      rcases Nat.lt_or_ge j n with hj | hj
      · rw [seg_get hj, seg_get hj, List.getElem?_append_left (by omega)]
      · rw [List.getElem?_eq_none (by simp [seg]; omega), List.getElem?_eq_none (by simp [seg]; omega)]
    · rfl
  rcases Nat.lt_or_ge i xs.length with hi | hi
  · rw [List.getElem?_append_left hi] at hx
    have hle : i * sz tb u + sz tb u ≤ cs.length := by
      rw [h.len]; have := Nat.mul_le_mul_right (sz tb u) (show i + 1 ≤ xs.length from hi); rwa [Nat.add_mul, Nat.one_mul] at this
    rw [hseg, if_pos hle]; exact h.el i x hx
  · rw [List.getElem?_append_right hi] at hx
    have := k.el (i - xs.length) x hx
    have he : seg (cs ++ ds) (i * sz tb u) (sz tb u) = seg ds ((i - xs.length) * sz tb u) (sz tb u) := by
      have hi2 : i * sz tb u = cs.length + (i - xs.length) * sz tb u := by rw [h.len, ← Nat.add_mul]; congr 1; omega
      rw [hi2]
      unfold seg
      rw [← List.drop_drop, List.drop_left]
    rw [he]; exact this
theorem RowC.mono {tb H H' u cs xs} (h : RowC tb H u cs xs) (hp : ∀ b o v, H b o = .pers v → H' b o = .pers v) : RowC tb H' u cs xs :=
  ⟨h.len, fun i x hx => (h.el i x hx).mono hp⟩
theorem RowC.one {P : Program} {tb H u cs xs} (hT : TabOk P tb) (h : RowC tb H u cs xs) : ∀ v ∈ cs, v.oneCell' = true := by
  intro v hv
  obtain ⟨j, hj⟩ := List.getElem?_of_mem hv
  have hjl : j < xs.length * sz tb u := by rw [← h.len]; exact (List.getElem?_eq_some_iff.1 hj).1
  have hu : 0 < sz tb u := by rcases Nat.eq_zero_or_pos (sz tb u) with h | h; · rw [h] at hjl; omega
                              · exact h
  have hi : j / sz tb u < xs.length := (Nat.div_lt_iff_lt_mul hu).2 hjl
  have hr := h.el _ xs[j / sz tb u] (List.getElem?_eq_getElem hi)
  refine (TRel.one (β := []) (σ := []) hT (.e hr)) v (List.mem_of_getElem? (i := j % sz tb u) ?_)
  rw [seg_get (Nat.mod_lt _ hu), Nat.mul_comm, Nat.div_add_mod]; exact hj

/-- A slice's cells, wherever they lie. -/
theorem Rd.cells_of {tb H t v xs u} (h : Rd tb H t [v] (.sl xs)) (ht : td tb t = .sl u) : ∃ a c cs, v = .slice a xs.length c ∧ RowC tb H u cs xs ∧
    (0 < xs.length → ∃ b off, a = some ⟨b, off, none⟩ ∧ ∀ (j : Nat) v, cs[j]? = some v → H b (off + j) = .pers v) := by
  cases h with
  | sl0 a => exact ⟨_, _, [], rfl, ⟨by simp, fun i x hx => by simp at hx⟩, fun h => by simp at h⟩
  | sl a b c d e f => rw [ht] at a; cases a; exact ⟨_, _, _, rfl, ⟨b, d⟩, fun _ => ⟨_, _, rfl, c⟩⟩

section
variable {C : Cx} (hC : Ok C) {o : Oper} {env : Env} {σ : List Blk}
include hC

theorem append_core {t t2 ty u : TypeId} (ht : td C.tb t = .sl u) (hz : plain C.tb zf u = true) {H : Gh} {w : World} (hb : Base H w) {i n m : Nat} {v0 x : Value} {xs ys : List E} {news : List Value}
    (hx0 : Rd C.tb H t [v0] (.sl xs)) (hn : n = xs.length) (hrow : RowRel C.tb H w i v0 u n) (h2 : t2 = t ∨ td C.tb t2 = .str) (hlx : (Builtin.lenOf x).run C.P w = .ok m w) (hm : m = ys.length)
    (hnew : ∀ w', (∀ b o v, w.cell? ⟨b, o, none⟩ = some v → w'.cell? ⟨b, o, none⟩ = some v) → (Builtin.firstCells (sz C.tb u) m x).run C.P w' = .ok news.toArray w')
    (hnr : RowC C.tb H u news ys) (hbytes : (n + m) * nb C.tb u ≤ maxL) (hmax : n + m ≤ maxL) :
    ∃ v' w' H', (Builtin.append_ #[t, t2] ty #[v0, x]).run C.P w = .ok v' w' ∧ Base H' w' ∧ (∀ b o v, H b o = .pers v → H' b o = .pers v) ∧ Rd C.tb H' t [v'] (.sl (xs ++ ys)) ∧ RowRel C.tb H' w' i v' u (n + m) ∧
      (∀ b o j, H b o = .mine j → j ≠ i → H' b o = .mine j ∧ w'.cell? ⟨b, o, none⟩ = w.cell? ⟨b, o, none⟩ ∧ w'.frozen? ⟨b, o, none⟩ = w.frozen? ⟨b, o, none⟩ ∧ w'.shape? b = w.shape? b) ∧
      (∀ b x j, (∀ o, H b o = .mine j) → j ≠ i → x.isObj = true → w.heap[b]? = some x → w'.heap[b]? = some x) ∧ Stp H w H' w' ∧ (m = 0 → v' = v0) := by
  obtain ⟨a0, c0, olds, hv0, hor, hop⟩ := hx0.cells_of ht
  subst hn
  subst hm
  have hb0 : (v0 = .slice none 0 0 ∧ xs.length = 0) ∨ ∃ b off, a0 = some ⟨b, off, none⟩ ∧ xs.length ≤ c0 ∧ ∀ j, xs.length * sz C.tb u ≤ j → j < c0 * sz C.tb u → (∃ v, w.cell? ⟨b, off + j, none⟩ = some v) ∧ H b (off + j) = .mine i ∧ w.frozen? ⟨b, off + j, none⟩ = false := by
    rcases hrow with h | ⟨b, off, c, h1, h2, h3⟩
    · exact .inl h
    · rw [hv0] at h1
      simp only [Value.slice.injEq] at h1
      obtain ⟨rfl, _, rfl⟩ := h1
      exact .inr ⟨b, off, rfl, h2, h3⟩
  have hrun := run_append_any hC (ty := ty) ht hz (ba := a0) (n := xs.length) (cap := c0) (m := ys.length) (x := x) (olds := olds) (news := news) (w := w) h2 hlx (fun _ _ => trivial) hnew hor.len
    (fun b off ha j v hj => by
      have hpos : 0 < xs.length := by
        rcases Nat.eq_zero_or_pos xs.length with h | h
        · have : olds = [] := List.length_eq_zero_iff.1 (by rw [hor.len, h, Nat.zero_mul]); subst this; simp at hj
        · exact h
      obtain ⟨b', off', h1, h2⟩ := hop hpos
      rw [ha] at h1; cases h1
      exact hb.pers _ _ _ (h2 j v hj))
    (fun ha => by
      rcases hb0 with ⟨h1, h2⟩ | ⟨b, off, h1, _⟩
      · rw [hv0] at h1; simp only [Value.slice.injEq] at h1; exact ⟨h2, h1.2.2⟩
      · rw [ha] at h1; cases h1)
    (fun a ha => by
      rcases hb0 with ⟨h1, h2⟩ | ⟨b, off, h1, _⟩
      · rw [hv0] at h1; simp only [Value.slice.injEq] at h1; rw [h1.1] at ha; cases ha
      · rw [h1] at ha; cases ha; rfl)
    hnr.len (hnr.one hC.tab)
    (fun hr b off ha j hj => by
      rcases hb0 with ⟨h1, h2⟩ | ⟨b', off', h1, h3, h4⟩
      · rw [hv0] at h1; simp only [Value.slice.injEq] at h1; rw [h1.1] at ha; cases ha
      · rw [ha] at h1; cases h1
        have hlt : xs.length * sz C.tb u + j < c0 * sz C.tb u := by
          have : (xs.length + ys.length) * sz C.tb u ≤ c0 * sz C.tb u := Nat.mul_le_mul_right _ hr
          rw [Nat.add_mul, ← hnr.len] at this; omega
        obtain ⟨⟨v, k1⟩, k2, k3⟩ := h4 (xs.length * sz C.tb u + j) (by omega) hlt
        rw [← Nat.add_assoc] at k1 k3
        exact ⟨by simp [k1], k3⟩)
    hbytes hmax
  rw [← hv0] at hrun
  have hall := hor.app hnr
  have hlenl : (xs ++ ys).length = xs.length + ys.length := by simp
  rcases hrun with ⟨hr, hrun⟩ | ⟨hr, nc, zs, h1, hzl, hrun⟩
  · -- in place
    rcases hb0 with ⟨k1, k2⟩ | ⟨b, off, rfl, k3, k4⟩
    · rw [hv0] at k1
      simp only [Value.slice.injEq] at k1
      obtain ⟨rfl, _, rfl⟩ := k1
      have hy : ys.length = 0 := by omega
      have hx : xs = [] := List.length_eq_zero_iff.1 k2
      have hy' : ys = [] := List.length_eq_zero_iff.1 hy
      subst hx; subst hy'
      exact ⟨_, _, H, hrun, hb, fun _ _ _ h => h, .sl0 ht, .inl ⟨rfl, rfl⟩, fun b o j h _ => ⟨h, rfl, rfl, rfl⟩, fun b x j _ _ _ h => h, .refl _ _, fun _ => hv0.symm⟩
    · have hfit : xs.length * sz C.tb u + news.length ≤ c0 * sz C.tb u := by
        have : (xs.length + ys.length) * sz C.tb u ≤ c0 * sz C.tb u := Nat.mul_le_mul_right _ hr
        rwa [Nat.add_mul, ← hnr.len] at this
      have hspare : ∀ j, j < news.length → (∃ v, w.cell? ⟨b, off + xs.length * sz C.tb u + j, none⟩ = some v) ∧ H b (off + xs.length * sz C.tb u + j) = .mine i ∧ w.frozen? ⟨b, off + xs.length * sz C.tb u + j, none⟩ = false := fun j hj => by
        have := k4 (xs.length * sz C.tb u + j) (by omega) (by omega)
        rwa [← Nat.add_assoc] at this
      let q := off + xs.length * sz C.tb u
      let H' : Gh := fun b' o' => if b' = b ∧ q ≤ o' ∧ o' < q + news.length then .pers (news.getD (o' - q) undef) else H b' o'
      have hin : ∀ b' o', (b' = b ∧ q ≤ o' ∧ o' < q + news.length) → H b' o' = .mine i := fun b' o' ⟨e1, e2, e3⟩ => by
        subst e1
        have := (hspare (o' - q) (by omega)).2.1
        rwa [show off + xs.length * sz C.tb u + (o' - q) = o' by show q + (o' - q) = o'; omega] at this
      have hcellout : ∀ b' o', ¬ (b' = b ∧ q ≤ o' ∧ o' < q + news.length) → (w.setCells b q news).cell? ⟨b', o', none⟩ = w.cell? ⟨b', o', none⟩ := fun b' o' hne => setCells_cell fun e => by
        rcases Nat.lt_or_ge o' q with h | h
        · exact .inl h
        · exact .inr (by rcases Nat.lt_or_ge o' (q + news.length) with h' | h'; · exact absurd ⟨e, h, h'⟩ hne
                         · exact h')
      have hcellin : ∀ j, j < news.length → (w.setCells b q news).cell? ⟨b, q + j, none⟩ = some (news.getD j undef) := fun j hj => by
        have := World.cell?_setCells_in b news q w (fun j hj => by obtain ⟨⟨v, hv⟩, _⟩ := hspare j hj; show (w.cell? ⟨b, off + xs.length * sz C.tb u + j, none⟩).isSome = true; simp [hv]) j hj
        rw [this]; simp [hj]
      have hpm : ∀ b o v, H b o = .pers v → H' b o = .pers v := fun b' o' v h => by
        show (if _ then _ else _) = _
        rw [if_neg (fun hc => by rw [hin _ _ hc] at h; cases h)]; exact h
      have hsz := setCells_os b news q w
      have hbase : Base H' (w.setCells b q news) := by
        refine ⟨fun b' o' v h => ?_, fun b' o' h => ?_⟩
        · by_cases hc : b' = b ∧ q ≤ o' ∧ o' < q + news.length
          · have h' : Own.pers (news.getD (o' - q) undef) = .pers v := by rw [← h]; exact (if_pos hc).symm
            cases h'
            obtain ⟨rfl, e2, e3⟩ := hc
            have := hcellin (o' - q) (by omega)
            rwa [show q + (o' - q) = o' by omega] at this
          · rw [hcellout _ _ hc]
            exact hb.pers _ _ _ (by rw [← h]; exact (if_neg hc).symm)
        · rw [hsz.2.2.2]
          by_cases hc : b' = b ∧ q ≤ o' ∧ o' < q + news.length
          · exact hb.dom b' o' (by rw [hin _ _ hc]; simp)
          · exact hb.dom b' o' (by rw [show H b' o' = H' b' o' from (if_neg hc).symm]; exact h)
      refine ⟨_, w.setCells b q news, H', hrun, hbase, hpm, ?_, ?_, ?_, ?_, ?_, fun h0 => by rw [hv0, h0]; rfl⟩
      · rw [← hlenl]
        refine .sl (cs := olds ++ news) ht hall.len (fun j v hj => ?_) (fun i x hx => ((hall.el i x hx).mono hpm)) (by omega) (by have := maxL_N hmax; omega)
        rcases Nat.lt_or_ge j olds.length with hj' | hj'
        · rw [List.getElem?_append_left hj'] at hj
          have hpos : 0 < xs.length := by
            rcases Nat.eq_zero_or_pos xs.length with h | h
            · rw [hor.len, h] at hj'; omega
            · exact h
          obtain ⟨b', off', h1, h2⟩ := hop hpos
          cases h1
          exact hpm _ _ _ (h2 j v hj)
        · rw [List.getElem?_append_right hj'] at hj
          have hjn : j - olds.length < news.length := (List.getElem?_eq_some_iff.1 hj).1
          have hol := hor.len
          show (if _ then _ else _) = _
          have hcond : b = b ∧ q ≤ off + j ∧ off + j < q + news.length := ⟨rfl, by show off + xs.length * sz C.tb u ≤ _; omega, by show off + j < off + xs.length * sz C.tb u + _; omega⟩
          rw [if_pos hcond]
          congr 1
          rw [show off + j - q = j - olds.length by show off + j - (off + xs.length * sz C.tb u) = _; omega]
          simp [List.getD, hj]
      · refine .inr ⟨b, off, c0, rfl, hr, fun j hj1 hj2 => ?_⟩
        have h1 := k4 j (by have := Nat.mul_le_mul_right (sz C.tb u) (show xs.length ≤ xs.length + ys.length by omega); omega) hj2
        have hnc : ¬ (b = b ∧ q ≤ off + j ∧ off + j < q + news.length) := fun hc => by
          have := hc.2.2
          rw [Nat.add_mul, ← hnr.len] at hj1
          have : off + j < off + xs.length * sz C.tb u + news.length := this
          omega
        refine ⟨by rw [hcellout _ _ hnc]; exact h1.1, ?_, (World.frozen?_setCells b news q w _).trans h1.2.2⟩
        rw [← h1.2.1]; exact if_neg hnc
      · intro b' o' j h hne
        have hnc : ¬ (b' = b ∧ q ≤ o' ∧ o' < q + news.length) := fun hc => by rw [hin _ _ hc] at h; cases h; exact hne rfl
        exact ⟨by rw [← h]; exact if_neg hnc, hcellout _ _ hnc, World.frozen?_setCells b news q w _, shape?_setCells b news q w _⟩
      · intro b' x0 j h hne _ hh
        have hbb : b' ≠ b ∨ news.length = 0 := by
          rcases Nat.eq_zero_or_pos news.length with hz | hz
          · exact .inr hz
          · refine .inl fun e => ?_
            subst e
            have h1 := (hspare 0 hz).2.1
            rw [h] at h1; cases h1; exact hne rfl
        rcases hbb with hbb | hbb
        · show (w.setCells b q news).heap[b']? = _
          rw [setCells_heap b news q w b' hbb]; exact hh
        · show (w.setCells b q news).heap[b']? = _
          rw [List.length_eq_zero_iff.1 hbb]; exact hh
      · refine ⟨hsz.1, hsz.2.1, hsz.2.2.1, by rw [hsz.2.2.2]; omega, fun b' hb' o' hn => ?_, fun b' hb' o' j h => ?_, fun b' hb' hn => ?_, fun b' hb' o' hn => ?_, fun b' hb' o' _ _ hn => World.frozen?_setCells b news q w _, fun b' _ => shape?_setCells b news q w _⟩
        · exact if_neg fun hc => hn i (hin _ _ hc)
        · by_cases hc : b' = b ∧ q ≤ o' ∧ o' < q + news.length
          · exact ⟨i, hin _ _ hc⟩
          · exact ⟨j, by rw [← h]; exact (if_neg hc).symm⟩
        · rcases Nat.eq_zero_or_pos news.length with hz | hz
          · rw [List.length_eq_zero_iff.1 hz]; rfl
          · exact setCells_heap b news q w b' fun e => by subst e; exact hn _ _ (hspare 0 hz).2.1
        · exact hcellout _ _ fun hc => hn i (hin _ _ hc)
  · -- a new array
    let cs := olds ++ news ++ zs
    let f : Nat → Own := fun o => if o < (olds ++ news).length then .pers ((olds ++ news).getD o undef) else if o < cs.length then .mine i else .none
    have hsd : Stp H w.drew (hAlloc H w.heap.size f) (w.drew.alloc (.cells cs.toArray u)) := Stp.alloc (w := w.drew) hb.dom (.cells cs.toArray u) f
    have hne : ∀ b o, H b o ≠ .none → b ≠ w.heap.size := fun b o h => by have := hb.dom b o h; omega
    have hpm : ∀ b o v, H b o = .pers v → hAlloc H w.heap.size f b o = .pers v := fun b o v h => by rw [hAlloc_old (hne b o (by rw [h]; simp))]; exact h
    have hcn : ∀ o, (w.drew.alloc (.cells cs.toArray u)).cell? ⟨w.heap.size, o, none⟩ = cs[o]? := fun o => by
      have := World.cell?_alloc_new w.drew cs.toArray u o
      simpa using this
    have hco : ∀ b o, b ≠ w.heap.size → (w.drew.alloc (.cells cs.toArray u)).cell? ⟨b, o, none⟩ = w.cell? ⟨b, o, none⟩ := fun b o h => World.cell?_alloc_old w.drew _ _ h
    have hfo : ∀ b o, b ≠ w.heap.size → (w.drew.alloc (.cells cs.toArray u)).frozen? ⟨b, o, none⟩ = w.frozen? ⟨b, o, none⟩ := fun b o h => World.frozen?_alloc_old w.drew _ _ h
    have hgetc : ∀ o, o < (olds ++ news).length → cs[o]? = some ((olds ++ news).getD o undef) := fun o ho => by
      show (olds ++ news ++ zs)[o]? = _
      rw [List.getElem?_append_left ho, List.getElem?_eq_getElem ho]; simp [List.getD, List.getElem?_eq_getElem ho]
    refine ⟨_, _, hAlloc H w.heap.size f, hrun, ⟨fun b o v h => ?_, fun b o h => ?_⟩, hpm, ?_, ?_, ?_, ?_, (Stp.drew H w).trans hsd, fun h0 => by rcases hb0 with ⟨_, h⟩ | ⟨_, _, _, h, _⟩ <;> omega⟩
    · by_cases hbs : b = w.heap.size
      · subst hbs
        rw [hAlloc_new] at h
        rw [show (w.drew.alloc (.cells (olds ++ news ++ zs).toArray u)) = (w.drew.alloc (.cells cs.toArray u)) from rfl, hcn]
        have h' : (if o < (olds ++ news).length then Own.pers ((olds ++ news).getD o undef) else if o < cs.length then .mine i else .none) = .pers v := h
        split at h'
        · rename_i ho; cases h'; exact hgetc o ho
        · split at h' <;> cases h'
      · rw [hAlloc_old hbs] at h
        exact (hco b o hbs).trans (hb.pers b o v h)
    · by_cases hbs : b = w.heap.size
      · subst hbs; simp
      · rw [hAlloc_old hbs] at h; have := hb.dom b o h; simp; omega
    · rw [← hlenl]
      refine .sl (cs := olds ++ news) ht hall.len (fun j v hj => ?_) (fun i x hx => ((hall.el i x hx).mono hpm)) (by omega) (by have := maxL_N hmax; omega)
      have hjl := (List.getElem?_eq_some_iff.1 hj).1
      rw [Nat.zero_add, hAlloc_new]
      show (if j < (olds ++ news).length then Own.pers ((olds ++ news).getD j undef) else _) = _
      rw [if_pos hjl]; simp [List.getD, hj]
    · refine .inr ⟨w.heap.size, 0, nc, rfl, h1, fun j hj1 hj2 => ?_⟩
      have hal := hall.len
      rw [hlenl] at hal
      have hcl : cs.length = nc * sz C.tb u := by
        show (olds ++ news ++ zs).length = _
        rw [List.length_append, hal, hzl, ← Nat.add_mul]; congr 1; omega
      have hjc : j < cs.length := by omega
      refine ⟨⟨cs[j], ?_⟩, ?_, ?_⟩
      · rw [Nat.zero_add]; exact (hcn j).trans (List.getElem?_eq_getElem hjc)
      · rw [Nat.zero_add, hAlloc_new]
        show (if j < (olds ++ news).length then Own.pers ((olds ++ news).getD j undef) else if j < cs.length then .mine i else .none) = _
        rw [if_neg (by rw [hal]; omega), if_pos hjc]
      · exact World.frozen?_alloc_new w.drew _ _ _
    · intro b o j h hne'
      have hbs := hne b o (by rw [h]; simp)
      exact ⟨by rw [hAlloc_old hbs]; exact h, hco b o hbs, hfo b o hbs, shape?_alloc_old w.drew _ (by have := hb.dom b o (by rw [h]; simp); exact this)⟩
    · intro b x0 j h hne' _ hh
      have hlt := hb.dom b 0 (by rw [h 0]; simp)
      have := heap_alloc_old w.drew (.cells cs.toArray u) b hlt
      exact this.trans hh
end
end Go.Den
/- append as an operation; composite values; texts and their bytes. -/
namespace Go.Den
open Go
set_option linter.unusedSectionVars false
set_option linter.unusedSimpArgs false
set_option linter.unusedVariables false

theorem opdArgs2 {o : Oper} {a : Act} {x y : Operand} {b : Builtin} {ts : Array TypeId} (ho : o.op = .call { callee := .builtin b, args := #[x, y], argTypes := ts }) {P : Program} {w : World} :
    (execOp a.eval o).run P w = (builtin b ts o.type (#[x, y].map fun | .const _ => true | _ => false) #[a.eval x, a.eval y]).run P w := by
  simp [execOp, ho, resolve, invoke]
  rfl

def byteE (b : UInt8) : E := .int b.toNat

section
variable {C : Cx} (hC : Ok C) {o : Oper} {env : Env} {σ : List Blk}

/-- What is appended: a list's elements, or a text's bytes. -/
def srcE (tb : Tab) (t t2 : TypeId) (d : D) : Option (List E) := match td tb t2 with
  | .str => match td tb t with
    | .sl u => match td tb u with
      | .int .u8 => (strAny d).map (·.map byteE)
      | _ => none
    | _ => none
  | _ => match Nat.beq t t2 with
    | true => match same tb (tagD d) t with
      | true => slE d
      | false => none
    | false => none

include hC in
theorem srcE_rel {t t2 u d ys H β v w} (ht : td C.tb t = .sl u) (hr : Base H w) (hv : DRel C.tb H β σ v d) (h : srcE C.tb t t2 d = some ys) :
    (t2 = t ∨ td C.tb t2 = .str) ∧ (Builtin.lenOf v).run C.P w = .ok ys.length w ∧ ∃ news, RowC C.tb H u news ys ∧
      ∀ w', (∀ b o v, w.cell? ⟨b, o, none⟩ = some v → w'.cell? ⟨b, o, none⟩ = some v) → (Builtin.firstCells (sz C.tb u) ys.length v).run C.P w' = .ok news.toArray w' := by
  unfold srcE at h
  split at h
  · rename_i h2
    rw [ht] at h
    simp only at h
    split at h
    · rename_i hu
      simp only [Option.map_eq_some_iff] at h
      obtain ⟨s, hs, rfl⟩ := h
      obtain ⟨hv, _⟩ := strAny_rel hv hs
      subst hv
      have hsz1 : sz C.tb u = 1 := hC.tab.sz_one (by simp [isAggT, hu]) (by simp [hu])
      have hb : ∀ b : UInt8, IntKind.wrap .u8 (b.toNat : Int) = b.toNat := fun b => inR_wrap (by have := b.toNat_lt; simp [inR]; omega)
      refine ⟨.inr h2, by simp [sv, Builtin.lenOf]; rfl, s.map fun b => .int .u8 b.toNat, ⟨by simp [hsz1], fun i x hx => ?_⟩, fun w' _ => ?_⟩
      · simp only [List.getElem?_map, Option.map_eq_some_iff] at hx
        obtain ⟨b, hb1, rfl⟩ := hx
        have : seg (s.map fun b => Value.int .u8 b.toNat) (i * sz C.tb u) (sz C.tb u) = [.int .u8 b.toNat] := by
          rw [hsz1, Nat.mul_one]
          have hi := (List.getElem?_eq_some_iff.1 hb1)
          obtain ⟨hi1, hi2⟩ := hi
          unfold seg
          rw [List.take_one, List.head?_drop]
          simp [hb1]
        rw [this]
        exact .int hu (hb b)
      · have hex : (⟨⟨s⟩⟩ : ByteArray).extract 0 s.length = ⟨⟨s⟩⟩ := by
          apply ByteArray.ext; simp
        simp [sv, Builtin.firstCells, hex]
    · cases h
  · split at h
    · rename_i hbeq
      have he := Nat.eq_of_beq_eq_true hbeq
      subst he
      split at h
      · rename_i hs
        have hrd := (slE_rel hv h).cast hC.tab (same_td hs)
        obtain ⟨a, c, cs, rfl, hrow, hpos⟩ := hrd.cells_of ht
        refine ⟨.inl rfl, by simp [Builtin.lenOf], cs, hrow, fun w' hw' => ?_⟩
        rcases Nat.eq_zero_or_pos ys.length with h0 | h0
        · have hcs : cs = [] := List.length_eq_zero_iff.1 (by rw [hrow.len, h0, Nat.zero_mul])
          subst hcs
          rw [h0]
          cases a with
          | none => rfl
          | some a => simp [Builtin.firstCells, loadCells, loadCellsFrom]
        · obtain ⟨b, off, rfl, hp⟩ := hpos h0
          exact run_firstCells_some w' (sz C.tb u) ys.length ⟨b, off, none⟩ _ _ cs hrow.len (fun j v hj => by rw [add_plain]; exact hw' _ _ _ (hr.pers _ _ _ (hp j v hj)))
      · cases h
    · cases h

/-- An append to a slice that is new: nil, or a literal. -/
def freshE : D → Option (List E)
  | .t _ .nsl => some []
  | .t _ (.bsl xs) => some xs
  | _ => none

include hC in
theorem Ok_appendNew {x y : Operand} {t t2 u : TypeId} {dx dy : D} {xs ys : List E} (ho : o.op = .call { callee := .builtin .append, args := #[x, y], argTypes := #[t, t2] }) (ht : td C.tb t = .sl u) (hz : plain C.tb zf u = true)
    (hx : opd C.tb env t x = some dx) (hxs : freshE dx = some xs) (hsx : same C.tb (tagD dx) t = true) (hy : opd C.tb env t2 y = some dy) (hys : srcE C.tb t t2 dy = some ys)
    (hp : (xs.length + ys.length) * nb C.tb u ≤ maxL ∧ xs.length + ys.length ≤ maxL) :
    OpOk C o env σ ⟨True, .t t (.lsl σ.length (xs ++ ys)), σ ++ [.row u (xs ++ ys).length]⟩ := by
  refine OpOk_do (by simp [isVal, ho]) ?_
  intro H β a w hr he hd K Qx hK
  have hvx := opd_rel he hx
  have hvy := opd_rel he hy
  obtain ⟨h2, hlen, news, hrow, hnew⟩ := srcE_rel hC ht hr.base hvy hys
  have hx0 : Rd C.tb H t [a.eval x] (.sl xs) ∧ RowRel C.tb H w σ.length (a.eval x) u xs.length := by
    generalize a.eval x = vx at hvx ⊢
    unfold freshE at hxs
    split at hxs <;> cases hxs
    · cases hvx with
      | @t ty v cs z aa bb => cases bb with
        | nsl b1 =>
          have ht' := same_td hsx
          have a' := aa
          simp [VC, isAggT, b1] at a'
          rw [← a']
          exact ⟨.sl0 ht, .inl ⟨rfl, rfl⟩⟩
    · cases hvx with
      | @t ty v cs z aa bb => cases bb with
        | @bsl t0 u0 b off xs b1 b2 =>
          have ht' := same_td hsx
          have a' := aa
          simp [VC, isAggT, b1] at a'
          rw [← a']
          exact ⟨b2.cast hC.tab ht', .inr ⟨b, off, _, rfl, Nat.le_refl _, fun j h1 h2 => by omega⟩⟩
  obtain ⟨v', w', H', hrun, hb', hpm, hrd', hrow', hoth, hit, hstp, hsame⟩ := append_core hC (ty := o.type) ht hz hr.base hx0.1 rfl hx0.2 h2 hlen rfl hnew hrow hp.1 hp.2
  have hex : (execOp a.eval o).run C.P w = .ok (.value v') w' := by
    rw [opdArgs2 ho]
    simp [builtin, hrun]
  have hev : Ev H β σ H' (β ++ [v']) (σ ++ [.row u (xs ++ ys).length]) := Ev.app hr.len hpm
  have hrel : Rel C.tb H' (β ++ [v']) (σ ++ [.row u (xs ++ ys).length]) w' := by
    refine ⟨hb'.pers, hb'.dom, by simp [hr.len], fun i k bv hk hv => ?_⟩
    rcases Nat.lt_or_ge i σ.length with hi | hi
    · rw [List.getElem?_append_left hi] at hk
      rw [List.getElem?_append_left (by rw [hr.len]; exact hi)] at hv
      exact (hr.blk i k bv hk hv).mono hev (fun b o h => have q := hoth b o i h (by omega); ⟨q.1, q.2.1, fun _ _ => q.2.2.1, q.2.2.2⟩) (fun b x h ho hh => hit b x i h (by omega) ho hh)
    · rw [List.getElem?_append_right hi] at hk
      rw [List.getElem?_append_right (by rw [hr.len]; exact hi), hr.len] at hv
      have hi0 : i - σ.length = 0 := by have := (List.getElem?_eq_some_iff.1 hk).1; simp at this; omega
      rw [hi0] at hk hv
      simp at hk hv
      subst hk; subst hv
      rw [show i = σ.length by omega]
      have : (xs ++ ys).length = xs.length + ys.length := by simp
      simpa [BlkRel, RowRel, this] using hrow'
  simp only [Oper.wp, hex, Oper.upon]
  refine hK v' _ w' H' _ _ ⟨rfl, rfl⟩ hrel ?_ hstp hev
  refine .t (cs := [v']) (by simp [VC, isAggT, ht]) (.lsl ht hrd' ⟨_, by simp, Nat.le_refl _, fun _ => by simp [← hr.len]⟩)

include hC in
theorem Ok_appendRow {x y : Operand} {t t2 u : TypeId} {dx dy : D} {i n : Nat} {xs ys : List E} {tx : TypeId} (ho : o.op = .call { callee := .builtin .append, args := #[x, y], argTypes := #[t, t2] }) (ht : td C.tb t = .sl u) (hz : plain C.tb zf u = true)
    (hx : opd C.tb env t x = some dx) (hxs : dx = .t tx (.lsl i xs)) (hsx : same C.tb tx t = true) (hi : σ[i]? = some (.row u n)) (hn : n = xs.length) (hy : opd C.tb env t2 y = some dy) (hys : srcE C.tb t t2 dy = some ys)
    (hp : (xs.length + ys.length) * nb C.tb u ≤ maxL ∧ xs.length + ys.length ≤ maxL) :
    OpOk C o env σ ⟨True, .t t (.lsl i (xs ++ ys)), σ.set i (.row u (xs ++ ys).length)⟩ := by
  refine OpOk_do (by simp [isVal, ho]) ?_
  intro H β a w hr he hd K Qx hK
  have hvx := opd_rel he hx
  have hvy := opd_rel he hy
  subst hxs
  obtain ⟨h2, hlen, news, hrow, hnew⟩ := srcE_rel hC ht hr.base hvy hys
  have hil : i < σ.length := (List.getElem?_eq_some_iff.1 hi).1
  obtain ⟨hx0, hβ⟩ : Rd C.tb H t [a.eval x] (.sl xs) ∧ β[i]? = some (a.eval x) := by
    generalize a.eval x = vx at hvx ⊢
    cases hvx with
    | @t ty v cs z aa bb => cases bb with
      | lsl b1 b2 b3 =>
        have a' := aa
        simp [VC, isAggT, b1] at a'
        subst a'
        obtain ⟨n', k1, k2, k3⟩ := b3
        rw [hi] at k1; cases k1
        exact ⟨b2.cast hC.tab (same_td hsx), k3 hn⟩
  have hrw : RowRel C.tb H w i (a.eval x) u xs.length := by
    have := hr.blk i _ _ hi hβ
    rw [hn] at this
    exact this
  obtain ⟨v', w', H', hrun, hb', hpm, hrd', hrow', hoth, hit, hstp, hsame⟩ := append_core hC (ty := o.type) ht hz hr.base hx0 rfl hrw h2 hlen rfl hnew hrow hp.1 hp.2
  have hex : (execOp a.eval o).run C.P w = .ok (.value v') w' := by
    rw [opdArgs2 ho]
    simp [builtin, hrun]
  have hlenl : (xs ++ ys).length = xs.length + ys.length := by simp
  have hev : Ev H β σ H' (β.set i v') (σ.set i (.row u (xs ++ ys).length)) := by
    have hself : (σ.set i (.row u (xs ++ ys).length))[i]? = some (.row u (xs ++ ys).length) := by simp [hil]
    refine ⟨hpm, fun j ty z hj => ?_, fun j ety m hj => ?_, fun j s p hj => ?_, fun j ety oo zs hj => ?_, fun j k9 e9 zs hj => ?_⟩
    · have hne : i ≠ j := fun e => by subst e; rw [hi] at hj; cases hj
      exact ⟨List.getElem?_set_ne hne, z, by rw [List.getElem?_set_ne hne]; exact hj⟩
    · by_cases hji : i = j
      · subst hji
        rw [hi] at hj; cases hj
        refine ⟨_, hself, by omega, fun e => ?_⟩
        rw [List.getElem?_set_self (by rw [hr.len]; exact hil), hsame (by omega), hβ]
      · exact ⟨m, by rw [List.getElem?_set_ne hji]; exact hj, Nat.le_refl _, fun _ => List.getElem?_set_ne hji⟩
    · have hne : i ≠ j := fun e => by subst e; rw [hi] at hj; cases hj
      exact ⟨List.getElem?_set_ne hne, s, p, by rw [List.getElem?_set_ne hne]; exact hj⟩
    · have hne : i ≠ j := fun e => by subst e; rw [hi] at hj; cases hj
      exact ⟨oo, zs, by rw [List.getElem?_set_ne hne]; exact hj, Nat.le_refl _, fun _ => List.getElem?_set_ne hne⟩
    · have hne : i ≠ j := fun e => by subst e; rw [hi] at hj; cases hj
      exact ⟨List.getElem?_set_ne hne, zs, by rw [List.getElem?_set_ne hne]; exact hj⟩
  have hrel : Rel C.tb H' (β.set i v') (σ.set i (.row u (xs ++ ys).length)) w' := by
    refine ⟨hb'.pers, hb'.dom, by simp [hr.len], fun j k bv hk hv => ?_⟩
    by_cases hji : i = j
    · subst hji
      rw [List.getElem?_set_self hil] at hk
      rw [List.getElem?_set_self (by rw [hr.len]; exact hil)] at hv
      cases hk; cases hv
      rw [hlenl]
      exact hrow'
    · rw [List.getElem?_set_ne hji] at hk hv
      exact (hr.blk j k bv hk hv).mono hev (fun b o h => have q := hoth b o j h (fun e => hji e.symm); ⟨q.1, q.2.1, fun _ _ => q.2.2.1, q.2.2.2⟩) (fun b x h ho hh => hit b x j h (fun e => hji e.symm) ho hh)
  simp only [Oper.wp, hex, Oper.upon]
  refine hK v' _ w' H' _ _ ⟨rfl, rfl⟩ hrel ?_ hstp hev
  refine .t (cs := [v']) (by simp [VC, isAggT, ht]) (.lsl ht hrd' ⟨_, by simp [hil], Nat.le_refl _, fun _ => by simp [hr.len, hil]⟩)
end
end Go.Den
/- Composite values, literals of slices, texts and bytes. -/
namespace Go.Den
open Go
set_option linter.unusedSectionVars false
set_option linter.unusedSimpArgs false
set_option linter.unusedVariables false

theorem fold_set (vs : List Value) : ∀ (o k : Nat) (cs : List Value), o + k + vs.length ≤ cs.length →
    ((vs.zipIdx k).foldl (fun (cs : Array Value) (p : Value × Nat) => cs.setIfInBounds (o + p.2) p.1) cs.toArray) = (splice cs (o + k) vs).toArray := by
  induction vs with
  | nil => intro o k cs h; simp [splice]
  | cons v vs ih =>
    intro o k cs h
    simp only [List.zipIdx_cons, List.foldl_cons]
    have h1 : (cs.toArray.setIfInBounds (o + k) v) = (cs.set (o + k) v).toArray := by simp
    rw [h1, ih o (k + 1) (cs.set (o + k) v) (by simp at h ⊢; omega)]
    congr 1
    simp at h
    apply List.ext_getElem?
    intro j
    rw [splice_get (by simp; omega), splice_get (by simp; omega)]
    by_cases h2 : j < o + k
    · rw [if_pos (by omega), if_pos h2, List.getElem?_set_ne (by omega)]
    · rw [if_neg h2]
      by_cases h3 : j = o + k
      · subst h3
        rw [if_pos (by omega), if_pos (by simp), List.getElem?_set_self (by omega)]; simp
      · rw [if_neg (by omega)]
        by_cases h4 : j < o + k + (v :: vs).length
        · rw [if_pos (by simp at h4; omega), if_pos h4]
          rw [show j - (o + k) = (j - (o + (k + 1))) + 1 by omega]; simp
        · rw [if_neg (by simp at h4; omega), if_neg h4, List.getElem?_set_ne (by omega)]

theorem fill_one {place : Nat → Option (Nat × Nat)} {cs vs : List Value} {v : Value} {i off size : Nat} {rest : List (Nat × Value)} (hp : place i = some (off, size)) (hc : v.cells = vs.toArray) (hl : vs.length = size) (hle : off + size ≤ cs.length) :
    Instr.fill place cs.toArray ((i, v) :: rest) = Instr.fill place (splice cs off vs).toArray rest := by
  have h1 : ¬ (v.cells.size ≠ size || decide (off + v.cells.size > cs.toArray.size)) = true := by
    simp [hc, hl]; omega
  simp only [Instr.fill, hp]
  rw [if_neg h1]
  congr 1
  rw [hc]
  have := fold_set vs off 0 cs (by omega)
  simp only [Nat.add_zero] at this
  rw [← this]
  simp [← Array.foldl_toList]

section
variable {C : Cx} (hC : Ok C) {o : Oper} {env : Env} {σ : List Blk}
include hC

/-- The parts of a composite value, put one after the other. -/
def partsT (tb : Tab) (env : Env) (tyOf : Nat → Option TypeId) : List (Nat × Operand) → Option (List (Nat × T))
  | [] => some []
  | (i, x) :: ps => match tyOf i with
    | some u => match opd tb env u x with
      | some d => match asT tb u d with
        | some y => match partsT tb env tyOf ps with
          | some zs => some ((i, y) :: zs)
          | none => none
        | none => none
      | none => none
    | none => none
def buildT : List (Nat × T) → T → T
  | [], z => z
  | (i, y) :: ps, z => buildT ps (putChild i y z)
def fieldTy (fs : List (TypeId × Nat)) (i : Nat) : Option TypeId := match fs[i]? with
  | some f => some f.1
  | none => none

theorem fill_struct {H β a n} (he : EnvRel C.tb H β σ n a env) {t : TypeId} {fs : List (TypeId × Nat)} (hst : td C.tb t = .st fs) {place : Nat → Option (Nat × Nat)} (hp : ∀ i f, fs[i]? = some f → place i = some (f.2, sz C.tb f.1)) :
    ∀ (ps : List (Nat × Operand)) (qs : List (Nat × T)) (cs : List Value) (z : T), partsT C.tb env (fieldTy fs) ps = some qs → TRel C.tb H β σ t cs z →
      ∃ cs', Instr.fill place cs.toArray (ps.map fun p => (p.1, a.eval p.2)) = some cs'.toArray ∧ TRel C.tb H β σ t cs' (buildT qs z)
  | [], qs, cs, z, h, hz => by simp [partsT] at h; subst h; exact ⟨cs, rfl, hz⟩
  | (i, x) :: ps, qs, cs, z, h, hz => by
    unfold partsT at h
    split at h
    · rename_i u hu
      split at h
      · rename_i d hd
        split at h
        · rename_i y hy
          split at h
          · rename_i zs hzs
            cases h
            unfold fieldTy at hu
            split at hu
            · rename_i f hf
              cases hu
              obtain ⟨vs, hvc, hvt⟩ := asT_rel hC (opd_rel he hd) hy
              have hle := ((fieldsEnd_spec (hC.tab.sz_st hst)).2 i f hf).2.1
              have hlen := hz.len hC.tab
              have h1 := (hz.putChild hC.tab).1 fs hst i f vs y hf hvt
              have h2 := fill_one (place := place) (cs := cs) (v := a.eval x) (rest := ps.map fun p => (p.1, a.eval p.2)) (hp i f hf) (hvc.cells hvt hC.tab) (hvt.len hC.tab) (by omega)
              obtain ⟨cs', k1, k2⟩ := fill_struct he hst hp ps zs _ _ hzs h1
              exact ⟨cs', by rw [List.map_cons, h2]; exact k1, k2⟩
            · cases hu
          · cases h
        · cases h
      · cases h
    · cases h
theorem fill_array {H β a n} (he : EnvRel C.tb H β σ n a env) {t u : TypeId} {m : Nat} (hst : td C.tb t = .arr m u) :
    ∀ (ps : List (Nat × Operand)) (qs : List (Nat × T)) (cs : List Value) (z : T), partsT C.tb env (fun i => if i < m then some u else none) ps = some qs → TRel C.tb H β σ t cs z →
      ∃ cs', Instr.fill (fun i => some (i * sz C.tb u, sz C.tb u)) cs.toArray (ps.map fun p => (p.1, a.eval p.2)) = some cs'.toArray ∧ TRel C.tb H β σ t cs' (buildT qs z)
  | [], qs, cs, z, h, hz => by simp [partsT] at h; subst h; exact ⟨cs, rfl, hz⟩
  | (i, x) :: ps, qs, cs, z, h, hz => by
    unfold partsT at h
    split at h
    · rename_i u' hu
      split at h
      · rename_i d hd
        split at h
        · rename_i y hy
          split at h
          · rename_i zs hzs
            cases h
            split at hu
            · rename_i him
              cases hu
              obtain ⟨vs, hvc, hvt⟩ := asT_rel hC (opd_rel he hd) hy
              have hlen := hz.len hC.tab
              rw [hC.tab.sz_arr hst] at hlen
              have hle : i * sz C.tb u + sz C.tb u ≤ m * sz C.tb u := by
                have := Nat.mul_le_mul_right (sz C.tb u) (show i + 1 ≤ m from him); rwa [Nat.add_mul, Nat.one_mul] at this
              have h1 := (hz.putChild hC.tab).2 m u hst i vs y him hvt
              have h2 := fill_one (place := fun i => some (i * sz C.tb u, sz C.tb u)) (cs := cs) (v := a.eval x) (rest := ps.map fun p => (p.1, a.eval p.2)) (i := i) rfl (hvc.cells hvt hC.tab) (hvt.len hC.tab) (by omega)
              obtain ⟨cs', k1, k2⟩ := fill_array he hst ps zs _ _ hzs h1
              exact ⟨cs', by rw [List.map_cons, h2]; exact k1, k2⟩
            · cases hu
          · cases h
        · cases h
      · cases h
    · cases h

theorem Ok_buildS {t : TypeId} {ps : Array (Nat × Operand)} {fs : List (TypeId × Nat)} {qs : List (Nat × T)} (ho : o.op = .build t ps) (hst : td C.tb t = .st fs) (hz : plain C.tb zf t = true)
    (hps : partsT C.tb env (fieldTy fs) ps.toList = some qs) : OpOk C o env σ ⟨True, ldD t (buildT qs (zeroT C.tb zf t)), σ⟩ :=
  OpOk_val fun H β a w hr he => by
    obtain ⟨z, hzr, hzc⟩ := hC.zero.all hC.tab hz
    have hz0 := zeroT_rel hC.tab (H := H) (β := β) (σ := σ) zf t hz
    obtain ⟨gs, hg, hge⟩ := hC.tab.st hst
    have hall : ∀ f ∈ gs.toList, f.type < C.tb.rows.length := fun f hf => by
      obtain ⟨i, hi⟩ := List.getElem?_of_mem hf
      have hf2 : fs[i]? = some (f.type, f.offset) := by rw [← hge]; simp at hi ⊢; exact ⟨f, hi, rfl, rfl⟩
      have hp : plain C.tb zf t = true := hz
      have : ∃ n, zf = n + 1 := ⟨11, rfl⟩
      obtain ⟨n, hn⟩ := this
      rw [hn] at hp
      unfold plain at hp
      rw [hst] at hp
      simp only at hp
      have := List.all_eq_true.1 hp _ (List.mem_of_getElem? hf2)
      exact hC.tab.lt_of_td (plain_ne this)
    have hpl : ∀ (w : World) (gs : List Field), (∀ f ∈ gs, f.type < C.tb.rows.length) → (gs.mapM (fun f => do pure (f.offset, ← sizeOf f.type) : Field → Sem (Nat × Nat))).run C.P w = .ok (gs.map fun f => (f.offset, sz C.tb f.type)) w := by
      intro w gs
      induction gs with
      | nil => intro _; rfl
      | cons g gs ih =>
        intro h
        simp only [List.mapM_cons, Sem.run_bind, run_sizeOf_of hC.tab (h g (by simp)), Result.andThen, Sem.run_pure, ih (fun f hf => h f (by simp [hf]))]
        rfl
    obtain ⟨cs', k1, k2⟩ := fill_struct hC he hst (place := ((gs.map fun f => (f.offset, sz C.tb f.type))[·]?)) (fun i f hf => by
      rw [← hge] at hf
      simp only [List.getElem?_map, Option.map_eq_some_iff] at hf
      obtain ⟨g, hg1, rfl⟩ := hf
      simp only [Array.getElem?_map]
      simp at hg1
      rw [hg1]; rfl) ps.toList qs (zc C.tb zf t) _ hps hz0
    refine ⟨.agg cs'.toArray, fun w' hw' => ?_, ldD_rel (by simp [VC, isAggT, hst]) k2⟩
    have hm := hpl w' gs.toList hall
    have hzca : z.cells = (zc C.tb zf t).toArray := by rw [← hzc]
    simp only [execOp, ho, Instr.build, Sem.run_bind, hzr, Result.andThen, run_underlying_of hC.tab hg]
    rw [Array.mapM_eq_mapM_toList]
    simp only [Sem.run_map, hm, Result.andThen]
    have hmap : (ps.map fun (i, x) => (i, a.eval x)).toList = ps.toList.map fun p => (p.1, a.eval p.2) := by simp
    have hk : Instr.fill (((gs.toList.map fun f => (f.offset, sz C.tb f.type)).toArray)[·]?) z.cells (ps.map fun (i, x) => (i, a.eval x)).toList = some cs'.toArray := by
      rw [hmap, hzca, ← k1]
      congr 1
      funext i
      simp
    rw [hk]
    rfl

/-- The elements of a literal, all of them there and in order. -/
def denseE (tb : Tab) (env : Env) (u : TypeId) : Nat → List (Nat × Operand) → Option (List E)
  | _, [] => some []
  | k, (i, x) :: ps => match Nat.beq i k with
    | true => match argE tb env u x with
      | some y => match denseE tb env u (k + 1) ps with
        | some ys => some (y :: ys)
        | none => none
      | none => none
    | false => none

theorem argE_rel' {t x y H β n a} (he : EnvRel C.tb H β σ n a env) (h : argE C.tb env t x = some y) : ∃ cs, VC C.tb t (a.eval x) cs ∧ Rd C.tb H t cs y := by
  unfold argE at h
  split at h
  · rename_i d hd
    split at h
    · rename_i z hz
      obtain ⟨cs, h1, h2⟩ := asT_rel hC (opd_rel he hd) hz
      exact ⟨cs, h1, h2.toE h⟩
    · cases h
  · cases h

theorem fill_dense {H β a n} (he : EnvRel C.tb H β σ n a env) {u : TypeId} : ∀ (ps : List (Nat × Operand)) (ys : List E) (k : Nat) (done rest : List Value), denseE C.tb env u k ps = some ys → done.length = k * sz C.tb u → rest.length = ys.length * sz C.tb u →
    ∃ cs, Instr.fill (fun i => some (i * sz C.tb u, sz C.tb u)) (done ++ rest).toArray (ps.map fun p => (p.1, a.eval p.2)) = some (done ++ cs).toArray ∧ RowC C.tb H u cs ys
  | [], ys, k, done, rest, h, h1, h2 => by
    simp [denseE] at h; subst h
    have : rest = [] := List.length_eq_zero_iff.1 (by simpa using h2)
    subst this
    exact ⟨[], rfl, ⟨by simp, fun i x hx => by simp at hx⟩⟩
  | (i, x) :: ps, ys, k, done, rest, h, h1, h2 => by
    unfold denseE at h
    split at h
    · rename_i hik
      have hik := Nat.eq_of_beq_eq_true hik
      subst hik
      split at h
      · rename_i y hy
        split at h
        · rename_i zs hzs
          cases h
          obtain ⟨vs, hvc, hrd⟩ := argE_rel' hC he hy
          have hvl := hrd.len hC.tab
          have hrl : rest.length = (zs.length + 1) * sz C.tb u := by simpa using h2
          rw [Nat.add_mul, Nat.one_mul] at hrl
          have hf := fill_one (place := fun i => some (i * sz C.tb u, sz C.tb u)) (cs := done ++ rest) (v := a.eval x) (rest := ps.map fun p => (p.1, a.eval p.2)) (i := i) rfl (hvc.cells (.e hrd : TRel C.tb H β σ u vs (.e y)) hC.tab) hvl (by simp; omega)
          have hsp : splice (done ++ rest) (i * sz C.tb u) vs = (done ++ vs) ++ rest.drop vs.length := by
            unfold splice
            rw [← h1, List.take_left, ← List.drop_drop, List.drop_left]
          obtain ⟨cs, k1, k2⟩ := fill_dense he ps zs (i + 1) (done ++ vs) (rest.drop vs.length) hzs (by simp [h1, hvl, Nat.add_mul]) (by simp; omega)
          refine ⟨vs ++ cs, ?_, ?_⟩
          · rw [List.map_cons, hf, hsp, k1]; simp
          · have h1row : RowC C.tb H u vs [y] := ⟨by simp [hvl], fun j z hz => by
              have hj : j = 0 := by have := (List.getElem?_eq_some_iff.1 hz).1; simp at this; omega
              subst hj
              simp at hz; subst hz
              rw [Nat.zero_mul, ← hvl, seg_all]; exact hrd⟩
            exact h1row.app k2
        · cases h
      · cases h
    · cases h

theorem Ok_buildSlice {t u : TypeId} {len : Nat} {ps : Array (Nat × Operand)} {ys : List E} (ho : o.op = .buildSlice t len ps) (ht : td C.tb t = .sl u) (hz : plain C.tb zf u = true)
    (hys : denseE C.tb env u 0 ps.toList = some ys) (hl : ys.length = len) (hb : len * sz C.tb u ≤ 16777216) (hlm : len ≤ maxN) : OpOk C o env σ ⟨True, .t t (.bsl ys), σ⟩ := by
  refine OpOk_do (by simp [isVal, ho]) ?_
  intro H β a w hr he hd K Qx hK
  have hu := plain_ne hz
  have hlt := hC.tab.lt_of_td hu
  obtain ⟨z, hzr, hzc⟩ := hC.zero.get hC.tab hz w
  have hmap : (ps.map fun (i, x) => (i, a.eval x)).toList = ps.toList.map fun p => (p.1, a.eval p.2) := by simp
  have key : ∀ Z : Array Value, Z.size = len * sz C.tb u → ∃ cs, Instr.fill (fun i => some (i * sz C.tb u, sz C.tb u)) Z (ps.map fun (i, x) => (i, a.eval x)).toList = some cs.toArray ∧ RowC C.tb H u cs ys := fun Z hZ => by
    obtain ⟨cs, k1, k2⟩ := fill_dense hC he ps.toList ys 0 [] Z.toList hys (by simp) (by rw [hl]; simpa using hZ)
    exact ⟨cs, by rw [hmap]; simpa using k1, k2⟩
  have hnb : ¬ (len * sz C.tb u > 2 ^ 24) := by omega
  have hrun : ∃ cs, RowC C.tb H u cs ys ∧ (execOp a.eval o).run C.P w = .ok (.value (.slice (some ⟨w.heap.size, 0, none⟩) len len)) (w.alloc (.cells cs.toArray u)) := by
    simp only [execOp, ho, Instr.buildSlice, Sem.run_bind, run_underlying_of hC.tab (hC.tab.sl ht), Result.andThen, run_sizeOf_of hC.tab hlt, if_neg hnb, Sem.run_pure]
    by_cases h0 : len * sz C.tb u = 0
    · obtain ⟨cs, k1, k2⟩ := key #[] (by simp [h0])
      refine ⟨cs, k2, ?_⟩
      have h00 : Array.range 0 = #[] := rfl
      simp only [h0, if_true, Sem.run_pure, h00, Array.map_empty, k1]
      simp [newRow]
    · obtain ⟨cs, k1, k2⟩ := key ((Array.range (len * sz C.tb u)).map fun j => z.cells[j % z.cells.size]!) (by simp)
      refine ⟨cs, k2, ?_⟩
      simp only [if_neg h0, Sem.run_bind, hzr, Result.andThen, Sem.run_pure, k1]
      simp [newRow]
  obtain ⟨cs, k2, hrun⟩ := hrun
  let f : Nat → Own := fun o => if o < cs.length then .pers (cs.getD o undef) else .none
  have r := hr.alloc (.cells cs.toArray u) f [] [] rfl (fun o v hv => by
      have hv' : (if o < cs.length then Own.pers (cs.getD o undef) else .none) = .pers v := hv
      split at hv'
      · rename_i h; cases hv'
        rw [World.cell?_alloc_new]; simp only [List.getElem?_toArray, List.getD, List.getElem?_eq_getElem h, Option.getD_some]
      · cases hv') (fun i k bv hk => by simp at hk)
  simp only [List.append_nil] at r
  simp only [Oper.wp, hrun, Oper.upon]
  refine hK _ _ _ _ β σ ⟨rfl, rfl⟩ r.1 ?_ (Stp.alloc hr.dom _ _) r.2
  have hpm := r.2.pers
  have hnag : isAggT C.tb t = false := by simp [isAggT, ht]
  refine .t (cs := [.slice (some ⟨w.heap.size, 0, none⟩) len len]) (by simp [VC, hnag]) ?_
  rw [← hl]
  refine .bsl ht ?_
  refine .sl (cs := cs) ht k2.len (fun j v hj => ?_) (fun i x hx => (k2.el i x hx).mono hpm) (Nat.le_refl _) (by rw [hl]; exact hlm)
  have hjl := (List.getElem?_eq_some_iff.1 hj).1
  rw [Nat.zero_add, hAlloc_new]
  show (if j < cs.length then Own.pers (cs.getD j undef) else .none) = _
  rw [if_pos hjl]; simp [List.getD, hj]

end
end Go.Den
