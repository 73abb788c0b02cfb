/- The calculus: a triple over Go.Code that speaks of data alone (V), and its rules for control. -/
import Derived.Test.YtgdfegmdjdnbdaaDenCore
namespace Go.Den
open Go

inductive X where
  | nrm | ext (id : Nat) | ret
  deriving DecidableEq

def xOf : Exit → Option X
  | .normal => some .nrm
  | .exit id => some (.ext id)
  | .ret => some .ret
  | _ => none

abbrev Post := X → Env → List Blk → Prop

/-- What stays the same in one function: the program, its types, how many blocks came in, how many temporaries there are. -/
structure Cx where
  P : Program
  tb : Tab
  k0 : Nat
  n : Nat
  bt : TypeId

/-- The first blocks (those that came in) keep their places. -/
structure Kp (k0 : Nat) (β : List Value) (σ : List Blk) (β' : List Value) (σ' : List Blk) : Prop where
  tree : ∀ i, i < k0 → ∀ (ty : TypeId) (x : T), σ[i]? = some (.tree ty x) → β'[i]? = β[i]? ∧ ∃ x', σ'[i]? = some (.tree ty x')
  row : ∀ i, i < k0 → ∀ (ety : TypeId) (n : Nat), σ[i]? = some (.row ety n) → ∃ n', σ'[i]? = some (.row ety n') ∧ n ≤ n' ∧ (n' = n → β'[i]? = β[i]?)
  iter : ∀ i, i < k0 → ∀ (s : List UInt8) (p : Nat), σ[i]? = some (.iter s p) → β'[i]? = β[i]? ∧ ∃ s' p', σ'[i]? = some (.iter s' p')
  mrow : ∀ i, i < k0 → ∀ (ety : TypeId) (o : Bool) (xs : List E), σ[i]? = some (.mrow ety o xs) → ∃ o' xs', σ'[i]? = some (.mrow ety o' xs') ∧ xs.length ≤ xs'.length ∧ (xs'.length = xs.length → β'[i]? = β[i]?)

theorem Kp.refl (k0 : Nat) (β : List Value) (σ : List Blk) : Kp k0 β σ β σ := ⟨fun _ _ _ x h => ⟨rfl, x, h⟩, fun _ _ _ n h => ⟨n, h, Nat.le_refl _, fun _ => rfl⟩, fun _ _ s p h => ⟨rfl, s, p, h⟩, fun _ _ _ o xs h => ⟨o, xs, h, Nat.le_refl _, fun _ => rfl⟩⟩
theorem Kp.trans {k0 β σ β1 σ1 β2 σ2} (h : Kp k0 β σ β1 σ1) (k : Kp k0 β1 σ1 β2 σ2) : Kp k0 β σ β2 σ2 := by
  refine ⟨fun i hi ty x e => ?_, fun i hi ety n e => ?_, fun i hi s p e => ?_, fun i hi ety o xs e => ?_⟩
  · obtain ⟨e1, x1, f1⟩ := h.tree i hi ty x e
    obtain ⟨e2, x2, f2⟩ := k.tree i hi ty x1 f1
    exact ⟨e2.trans e1, x2, f2⟩
  · obtain ⟨n1, f1, l1, g1⟩ := h.row i hi ety n e
    obtain ⟨n2, f2, l2, g2⟩ := k.row i hi ety n1 f1
    refine ⟨n2, f2, Nat.le_trans l1 l2, fun he => ?_⟩
    have a : n1 = n := by omega
    have b : n2 = n1 := by omega
    exact (g2 b).trans (g1 a)
  · obtain ⟨e1, s1, p1, f1⟩ := h.iter i hi s p e
    obtain ⟨e2, s2, p2, f2⟩ := k.iter i hi s1 p1 f1
    exact ⟨e2.trans e1, s2, p2, f2⟩
  · obtain ⟨o1, xs1, f1, l1, g1⟩ := h.mrow i hi ety o xs e
    obtain ⟨o2, xs2, f2, l2, g2⟩ := k.mrow i hi ety o1 xs1 f1
    refine ⟨o2, xs2, f2, Nat.le_trans l1 l2, fun he => ?_⟩
    have a : xs1.length = xs.length := by omega
    have b : xs2.length = xs1.length := by omega
    exact (g2 b).trans (g1 a)
theorem Ev.kp {H β σ H' β' σ'} (h : Ev H β σ H' β' σ') (k0 : Nat) : Kp k0 β σ β' σ' := ⟨fun i _ ty x e => h.tree i ty x e, fun i _ u n e => h.row i u n e, fun i _ s p e => h.iter i s p e, fun i _ u o xs e => h.mrow i u o xs e⟩

structure Res (C : Cx) (H : Gh) (β : List Value) (σ : List Blk) (w : World) (a' : Act) (w' : World) (env' : Env) (σ' : List Blk) (H' : Gh) (β' : List Value) : Prop where
  rel : Rel C.tb H' β' σ' w'
  env : EnvRel C.tb H' β' σ' C.n a' env'
  defers : a'.defers = []
  stp : Stp H w H' w'
  kp : Kp C.k0 β σ β' σ'

def lift (C : Cx) (H : Gh) (β : List Value) (σ : List Blk) (w : World) (Q : Post) : Exit → Act → World → Prop :=
  fun e a' w' => ∃ x, xOf e = some x ∧ ∃ env' σ' H' β', Q x env' σ' ∧ Res C H β σ w a' w' env' σ' H' β'

theorem lift.trans {C H β σ w H1 β1 σ1 w1 Q e a w'} (hs : Stp H w H1 w1) (hk : Kp C.k0 β σ β1 σ1)
    (h : lift C H1 β1 σ1 w1 Q e a w') : lift C H β σ w Q e a w' := by
  obtain ⟨x, hx, env', σ', H', β', hq, r⟩ := h
  exact ⟨x, hx, env', σ', H', β', hq, r.rel, r.env, r.defers, hs.trans r.stp, hk.trans r.kp⟩

def V (C : Cx) (c : Code) (env : Env) (σ : List Blk) (Q : Post) : Prop :=
  ∀ H β a w, Rel C.tb H β σ w → EnvRel C.tb H β σ C.n a env → a.defers = [] → c.wp C.P (lift C H β σ w Q) a w

section
variable {C : Cx} {env : Env} {σ : List Blk} {Q Q' : Post}

theorem V.mono {c : Code} (h : V C c env σ Q) (hq : ∀ x e s, Q x e s → Q' x e s) : V C c env σ Q' :=
  fun H β a w hr he hd => wp_mono (h H β a w hr he hd) fun _ _ _ ⟨x, hx, env', σ', H', β', q, r⟩ => ⟨x, hx, env', σ', H', β', hq _ _ _ q, r⟩

def thenP (K : Env → List Blk → Prop) (Q : Post) : Post := fun x e s => match x with
  | .nrm => K e s
  | x => Q x e s

theorem V_seq {c d : Code} (h : V C c env σ (thenP (fun e s => V C d e s Q) Q)) : V C (.seq c d) env σ Q := by
  intro H β a w hr he hd
  refine wp_seq (wp_mono (h H β a w hr he hd) ?_)
  rintro e a' w' ⟨x, hx, env', σ', H', β', q, r⟩
  cases e with
  | normal =>
    cases hx
    exact wp_mono (q H' β' a' w' r.rel r.env r.defers) fun _ _ _ hl => hl.trans r.stp r.kp
  | exit id => cases hx; exact ⟨_, rfl, env', σ', H', β', q, r⟩
  | ret => cases hx; exact ⟨_, rfl, env', σ', H', β', q, r⟩
  | goto l => cases hx
  | panic ch => cases hx
  | outgrown => cases hx

theorem lift.here {H β w a x e'} (hr : Rel C.tb H β σ w) (he : EnvRel C.tb H β σ C.n a env) (hd : a.defers = []) (hx : xOf e' = some x) (q : Q x env σ) :
    lift C H β σ w Q e' a w := ⟨x, hx, env, σ, H, β, q, hr, he, hd, .refl _ _, .refl _ _ _⟩

theorem V_skip (h : Q .nrm env σ) : V C .skip env σ Q := fun _ _ _ _ hr he hd => wp_skip (lift.here hr he hd rfl h)
theorem V_ret (h : Q .ret env σ) : V C .ret env σ Q := fun _ _ _ _ hr he hd => wp_ret (lift.here hr he hd rfl h)
theorem V_exit {id : Nat} (h : Q (.ext id) env σ) : V C (.exit id) env σ Q := fun _ _ _ _ hr he hd => wp_exit (lift.here hr he hd rfl h)

def blockP (id : Nat) (Q : Post) : Post := fun x e s => match x with
  | .ext j => if j = id then Q .nrm e s else Q (.ext j) e s
  | x => Q x e s

theorem V_block {id : Nat} {c : Code} (h : V C c env σ (blockP id Q)) : V C (.block id c) env σ Q := by
  intro H β a w hr he hd
  refine wp_block (wp_mono (h H β a w hr he hd) ?_)
  rintro e a' w' ⟨x, hx, env', σ', H', β', q, r⟩
  cases e with
  | normal => cases hx; exact ⟨_, rfl, env', σ', H', β', q, r⟩
  | exit j =>
    cases hx
    by_cases hj : j = id
    · subst hj
      simp only [Exit.inBlock, if_true]
      simp only [blockP, if_true] at q
      exact ⟨_, rfl, env', σ', H', β', q, r⟩
    · simp only [Exit.inBlock, if_neg hj]
      simp only [blockP, if_neg hj] at q
      exact ⟨_, rfl, env', σ', H', β', q, r⟩
  | ret => cases hx; exact ⟨_, rfl, env', σ', H', β', q, r⟩
  | goto l => cases hx
  | panic ch => cases hx
  | outgrown => cases hx

theorem EnvRel.get {tb H β n a} (h : EnvRel tb H β σ n a env) (t : Nat) : DRel tb H β σ (a.tmps.getD t undef) (getD env t) := h.2 t

/-- A bool in a temporary. -/
theorem boolAny_rel {tb H β v d b} (hv : DRel tb H β σ v d) (h : boolAny d = some b) : v = .bool b := by
  unfold boolAny at h
  split at h
  · cases h
    cases hv with
    | t a b =>
      cases b with
      | e r =>
        cases r with
        | bool hb => have a' := a; simp [VC, isAggT, hb] at a'; exact a'.symm
  · cases h; cases hv with | kb a => rfl
  · cases h

theorem V_cond {t : Nat} {b : Bool} {c d : Code} (hb : boolAny (getD env t) = some b)
    (ht : b = true → V C c env σ Q) (hf : b = false → V C d env σ Q) : V C (.cond (.tmp t) c d) env σ Q := by
  intro H β a w hr he hd
  have hv := boolAny_rel (he.get t) hb
  refine wp_cond_split (t := b) hv (fun h => ht h H β a w hr he hd) (fun h => hf h H β a w hr he hd)


end
mutual
def T.under (k : Nat) : T → Bool
  | .e _ | .nsl | .bsl _ => true
  | .st xs => T.unders k xs
  | .lsl i _ => i < k
  | .ptr i _ => i < k
  | .fn _ caps => caps.all fun c => c.1 < k
  | .msl i _ => i < k
def T.unders (k : Nat) : List T → Bool
  | [] => true
  | x :: xs => T.under k x && T.unders k xs
end
mutual
def D.under (k : Nat) : D → Bool
  | .t _ x => x.under k
  | .ptr i _ | .asl i _ _ _ _ | .it i => i < k
  | .el .. | .any | .kb .. => true
  | .mel _ i _ _ _ => i < k
  | .tup xs => D.unders k xs
def D.unders (k : Nat) : List D → Bool
  | [] => true
  | x :: xs => D.under k x && D.unders k xs
end
def Blk.under (k : Nat) : Blk → Bool
  | .tree _ x => x.under k
  | _ => true

theorem T.unders_get {k : Nat} : ∀ {xs : List T}, T.unders k xs = true → ∀ (i : Nat) (x : T), xs[i]? = some x → x.under k = true
  | [], _, i, x, h => by simp at h
  | y :: ys, hb, i, x, h => by
    simp only [T.unders, Bool.and_eq_true] at hb
    cases i with
    | zero => simp at h; exact h ▸ hb.1
    | succ i => exact T.unders_get hb.2 i x (by simpa using h)
theorem D.unders_get {k : Nat} : ∀ {xs : List D}, D.unders k xs = true → ∀ (i : Nat) (x : D), xs[i]? = some x → x.under k = true
  | [], _, i, x, h => by simp at h
  | y :: ys, hb, i, x, h => by
    simp only [D.unders, Bool.and_eq_true] at hb
    cases i with
    | zero => simp at h; exact h ▸ hb.1
    | succ i => exact D.unders_get hb.2 i x (by simpa using h)

theorem PtrAt.cut {tb β σ τ i path a} (hi : i < σ.length) (h : PtrAt tb β (σ ++ τ) i path a) : PtrAt tb (β.take σ.length) σ i path a := by
  obtain ⟨b, off, ty, x, o, u, e1, e2, e3, e4⟩ := h
  exact ⟨b, off, ty, x, o, u, by rw [List.getElem?_take_of_lt hi]; exact e1, by rwa [List.getElem?_append_left hi] at e2, e3, e4⟩

theorem TRel.cut {tb H β σ τ t cs x} (h : TRel tb H β (σ ++ τ) t cs x) : x.under σ.length = true → TRel tb H (β.take σ.length) σ t cs x := by
  induction h with
  | e a => exact fun _ => .e a
  | st a b c _ ih => exact fun hb => .st a b c fun i f x hf hx => ih i f x hf hx (T.unders_get hb i x hx)
  | arr a b c _ ih => exact fun hb => .arr a b c fun i x hx => ih i x hx (T.unders_get hb i x hx)
  | nsl a => exact fun _ => .nsl a
  | bsl a b => exact fun _ => .bsl a b
  | @lsl t u v i xs a b c =>
    intro hb
    have hi : i < σ.length := by simpa [T.under] using hb
    obtain ⟨n, c1, c2, c3⟩ := c
    rw [List.getElem?_append_left hi] at c1
    exact .lsl a b ⟨n, c1, c2, fun e => by rw [List.getElem?_take_of_lt hi]; exact c3 e⟩
  | ptr a b => exact fun hb => .ptr a (b.cut (by simpa [T.under] using hb))
  | @fn t f caps as a b c =>
    intro hb
    refine .fn a b fun i p q hp hq => (c i p q hp hq).cut ?_
    have := List.all_eq_true.1 hb p (List.mem_of_getElem? hp)
    simpa using this
  | @msl t u v i n a b c =>
    intro hb
    have hi : i < σ.length := by simpa [T.under] using hb
    obtain ⟨o, xs, c1, c2, c3⟩ := c
    rw [List.getElem?_append_left hi] at c1
    exact .msl a b ⟨o, xs, c1, c2, fun e => by rw [List.getElem?_take_of_lt hi]; exact c3 e⟩

theorem DRel.cut {tb H β σ τ v d} (h : DRel tb H β (σ ++ τ) v d) : d.under σ.length = true → DRel tb H (β.take σ.length) σ v d := by
  induction h with
  | t a b => exact fun hb => .t a (b.cut hb)
  | ptr a => exact fun hb => .ptr (a.cut (by simpa [D.under] using hb))
  | el a b c d e => exact fun _ => .el a b c d e
  | @asl i path u off n c a m ha hb hc hd hm =>
    intro hbel
    have hi : i < σ.length := by simpa [D.under] using hbel
    exact .asl (m := m) (ha.cut hi) (fun ty x hx => hb ty x (by rw [List.getElem?_append_left hi]; exact hx)) hc hd hm
  | tup a _ ih => exact fun hb => .tup a fun i v d hv hd => ih i v d hv hd (D.unders_get hb i d hd)
  | @it i v s pos a b =>
    intro hb
    have hi : i < σ.length := by simpa [D.under] using hb
    exact .it (by rwa [List.getElem?_append_left hi] at a) (by rw [List.getElem?_take_of_lt hi]; exact b)
  | kb a => exact fun _ => .kb a
  | @mel u i n j path o v pa a b =>
    intro hb
    have hi : i < σ.length := by simpa [D.under] using hb
    obtain ⟨o, xs, c1, c2, c3⟩ := b
    rw [List.getElem?_append_left hi] at c1
    exact .mel a ⟨o, xs, c1, c2, fun e hj => by rw [List.getElem?_take_of_lt hi]; exact c3 e hj⟩
  | any => exact fun _ => .any

theorem Rel.cut {tb H β σ τ w} (h : Rel tb H β (σ ++ τ) w) (hb : ∀ k ∈ σ, k.under σ.length = true) : Rel tb H (β.take σ.length) σ w := by
  refine ⟨h.pers, h.dom, by have := h.len; simp at this ⊢; omega, fun i k bv hk hv => ?_⟩
  have hi : i < σ.length := (List.getElem?_eq_some_iff.1 hk).1
  rw [List.getElem?_take_of_lt hi] at hv
  have r := h.blk i k bv (by rw [List.getElem?_append_left hi]; exact hk) hv
  have hkb := hb k (List.mem_of_getElem? hk)
  cases k with
  | tree ty x => obtain ⟨b, off, cs, e1, e2, e0, e3, e4⟩ := r; exact ⟨b, off, cs, e1, e2, e0, e3, e4.cut hkb⟩
  | row ety n => exact r
  | iter s p => exact r
  | dead => trivial
  | mrow u o xs => exact r

/-- What a datum may be forgotten to. -/
def leD (k : Nat) (d' d : D) : Prop :=
  d' = .any ∨ (d' = d ∧ d.under k = true) ∨ (∃ ty i xs, d = .t ty (.lsl i xs) ∧ d' = .t ty (.e (.sl xs))) ∨
    (∃ ty, d = .t ty .nsl ∧ d' = .t ty (.e (.sl []))) ∨ (∃ ty xs, d = .t ty (.bsl xs) ∧ d' = .t ty (.e (.sl xs))) ∨ (∃ ty b, d = .kb ty b ∧ d' = .t ty (.e (.bool b)))

theorem DRel.weak {tb H β σ τ v d d'} (h : DRel tb H β (σ ++ τ) v d) (hl : leD σ.length d' d) : DRel tb H (β.take σ.length) σ v d' := by
  rcases hl with rfl | ⟨rfl, hb⟩ | ⟨ty, i, xs, rfl, rfl⟩ | ⟨ty, rfl, rfl⟩ | ⟨ty, xs, rfl, rfl⟩ | ⟨ty, b, rfl, rfl⟩
  · exact .any
  · exact h.cut hb
  · cases h with
    | t a b => cases b with
      | lsl b1 b2 b3 => exact .t a (.e b2)
  · cases h with
    | t a b => cases b with
      | nsl b1 => exact .t a (.e (.sl0 b1))
  · cases h with
    | t a b => cases b with
      | bsl b1 b2 => exact .t a (.e b2)
  · cases h with
    | kb a => exact .t (cs := [.bool b]) (by simp [VC, isAggT, a]) (.e (.bool a))

/-- The entries of 'env'' are, but forgotten, those of 'env'. -/
def leL (k : Nat) : Env → Env → Prop
  | [], _ => True
  | p :: e', e => leD k p.2 (getD e p.1) ∧ leL k e' e

theorem leL_get {k : Nat} : ∀ {e' e : Env}, leL k e' e → ∀ t, leD k (getD e' t) (getD e t)
  | [], _, _, t => .inl rfl
  | (u, d) :: e', e, h, t => by
    have hg : getD ((u, d) :: e') t = match Nat.beq u t with | true => d | false => getD e' t := rfl
    rw [hg]
    cases hb : Nat.beq u t with
    | true => have := Nat.eq_of_beq_eq_true hb; subst this; exact h.1
    | false => exact leL_get h.2 t

structure Weak (k0 : Nat) (env' : Env) (σ' : List Blk) (env : Env) (σ : List Blk) : Prop where
  cut : ∃ τ, σ = σ' ++ τ
  k0 : k0 ≤ σ'.length
  below : ∀ k ∈ σ', k.under σ'.length = true
  env : leL σ'.length env' env

theorem Weak.res {C H β σ w a' w' env1 σ1 H' β' env' σ'} (h : Res C H β σ w a' w' env1 σ1 H' β') (hw : Weak C.k0 env' σ' env1 σ1) :
    Res C H β σ w a' w' env' σ' H' (β'.take σ'.length) := by
  obtain ⟨⟨τ, rfl⟩, hk, hb, hl⟩ := hw
  have ht : ∀ i, i < C.k0 → (β'.take σ'.length)[i]? = β'[i]? := fun i hi => List.getElem?_take_of_lt (Nat.lt_of_lt_of_le hi hk)
  have hs : ∀ i, i < C.k0 → (σ' ++ τ)[i]? = σ'[i]? := fun i hi => List.getElem?_append_left (Nat.lt_of_lt_of_le hi hk)
  refine ⟨h.rel.cut hb, ⟨h.env.1, fun t => (h.env.2 t).weak (leL_get hl t)⟩, h.defers, h.stp, ⟨fun i hi ty x e => ?_, fun i hi u n e => ?_, fun i hi s p e => ?_, fun i hi u o xs e => ?_⟩⟩
  · obtain ⟨e1, x', f⟩ := h.kp.tree i hi ty x e
    rw [hs i hi] at f; rw [ht i hi]; exact ⟨e1, x', f⟩
  · obtain ⟨n', f, g1, g2⟩ := h.kp.row i hi u n e
    rw [hs i hi] at f; rw [ht i hi]; exact ⟨n', f, g1, g2⟩
  · obtain ⟨e1, s', p', f⟩ := h.kp.iter i hi s p e
    rw [hs i hi] at f; rw [ht i hi]; exact ⟨e1, s', p', f⟩
  · obtain ⟨o', xs', f, g1, g2⟩ := h.kp.mrow i hi u o xs e
    rw [hs i hi] at f; rw [ht i hi]; exact ⟨o', xs', f, g1, g2⟩

section
variable {C : Cx} {env : Env} {σ : List Blk} {Q Q' : Post}

theorem V_weak {c : Code} {env' σ'} (hw : Weak C.k0 env' σ' env σ) (h : V C c env' σ' Q) : V C c env σ Q := by
  intro H β a w hr he hd
  have r := hw.res (C := C) (H := H) (β := β) (σ := σ) (w := w) (a' := a) (w' := w) (H' := H) (β' := β) ⟨hr, he, hd, .refl _ _, .refl _ _ _⟩
  exact wp_mono (h H _ a w r.rel r.env hd) fun _ _ _ hl => hl.trans r.stp r.kp

/-- A loop: an invariant with a number that every round lowers. -/
theorem V_loop {c : Code} (I : Nat → Env → List Blk → Prop) (m0 : Nat) (h0 : I m0 env σ)
    (step : ∀ m e s, I m e s → V C c e s (thenP (fun e1 s1 => ∃ m', m' < m ∧ ∃ e' s', Weak C.k0 e' s' e1 s1 ∧ I m' e' s') Q)) :
    V C (.loop c) env σ Q := by
  intro H β a w hr he hd
  refine wp_loop_ghost (fun n a' w' => ∃ e s H' β', I n e s ∧ Res C H β σ w a' w' e s H' β') m0 ⟨env, σ, H, β, h0, hr, he, hd, .refl _ _, .refl _ _ _⟩ ?_
  rintro n a1 w1 ⟨e, s, H1, β1, hI, r⟩
  refine wp_mono (step n e s hI H1 β1 a1 w1 r.rel r.env r.defers) ?_
  rintro ex a2 w2 ⟨x, hx, env2, σ2, H2, β2, q, r2⟩
  have r3 : Res C H β σ w a2 w2 env2 σ2 H2 β2 := ⟨r2.rel, r2.env, r2.defers, r.stp.trans r2.stp, r.kp.trans r2.kp⟩
  cases ex with
  | normal =>
    cases hx
    obtain ⟨m', hm, e', s', hw, hI'⟩ := q
    exact ⟨m', hm, e', s', H2, _, hI', hw.res r3⟩
  | exit id => cases hx; exact ⟨_, rfl, env2, σ2, H2, β2, q, r3⟩
  | ret => cases hx; exact ⟨_, rfl, env2, σ2, H2, β2, q, r3⟩
  | goto l => cases hx
  | panic ch => cases hx
  | outgrown => cases hx

/-! ### Regions -/

def VL (C : Cx) (ops : Array Oper) (l : List Oper) (env : Env) (σ : List Blk) (Q : Post) : Prop :=
  ∀ H β a w, Rel C.tb H β σ w → EnvRel C.tb H β σ C.n a env → a.defers = [] → wpList C.P ops (lift C H β σ w Q) l a w

theorem V_region {id : Nat} {l : List Oper} (h : VL C l.toArray l env σ Q) : V C (.region id l.toArray false) env σ Q :=
  fun H β a w hr he hd => wp_region_lit (h H β a w hr he hd)

theorem VL_nil {ops : Array Oper} (h : Q .nrm env σ) : VL C ops [] env σ Q :=
  fun _ _ _ _ hr he hd => wpList_nil (lift.here hr he hd rfl h)

def putD (env : Env) (dst : Option Tmp) (d : D) : Env := match dst with
  | some t => (t, d) :: env
  | none => env
def dstOk (n : Nat) (dst : Option Tmp) : Bool := match dst with
  | some t => Nat.blt t n
  | none => true

theorem EnvRel.put {tb H β n a} (h : EnvRel tb H β σ n a env) {v d} (hv : DRel tb H β σ v d) {dst : Option Tmp} (hn : dstOk n dst = true) : EnvRel tb H β σ n (a.put dst v) (putD env dst d) := by
  cases dst with
  | none => exact h
  | some t =>
    have hlt : t < n := Nat.le_of_ble_eq_true hn
    refine ⟨by simpa [Act.put] using h.1, fun u => ?_⟩
    simp only [putD, getD, Act.put]
    cases hb : Nat.beq t u with
    | true =>
      have := Nat.eq_of_beq_eq_true hb
      subst this
      simp [h.1, hlt, hv]
    | false =>
      have hu : t ≠ u := Nat.ne_of_beq_eq_false hb
      simpa [Array.getElem?_setIfInBounds_ne hu] using h.2 u

/-- What one operation does. -/
def OpV (C : Cx) (o : Oper) (env : Env) (σ : List Blk) (R : D → List Blk → Prop) : Prop :=
  ∀ H β a w, Rel C.tb H β σ w → EnvRel C.tb H β σ C.n a env → a.defers = [] → ∀ (K : Act → World → Prop) (Qx : Exit → Act → World → Prop),
    (∀ v d w' H' β' σ', R d σ' → Rel C.tb H' β' σ' w' → DRel C.tb H' β' σ' v d → Stp H w H' w' → Ev H β σ H' β' σ' → K (a.put o.dst v) w') → o.wp C.P a w K Qx

theorem wpList_of_wp {P : Program} {ops : Array Oper} {Q : Exit → Act → World → Prop} {a : Act} {w : World} {rest : List Oper} {o : Oper} (hw : Region.wanted o (yielded ops a.tmps) = true)
    (h : o.wp P a w (wpList P ops Q rest) Q) : wpList P ops Q (o :: rest) a w := by
  unfold wpList; rw [if_pos hw]; exact .inl h

theorem wpList_mono {P : Program} {ops : Array Oper} {Q Q' : Exit → Act → World → Prop} (hq : ∀ e a w, Q e a w → Q' e a w) : ∀ (l : List Oper) (a : Act) (w : World), wpList P ops Q l a w → wpList P ops Q' l a w
  | [], a, w, h => hq _ _ _ h
  | o :: rest, a, w, h => by
    unfold wpList at h ⊢
    split
    · rename_i hw
      rw [if_pos hw] at h
      rcases h with h | ⟨h1, ⟨a2, w2, h2⟩⟩
      · refine .inl ?_
        unfold Oper.wp at *
        generalize (execOp a.eval o).run P w = r at *
        cases r with
        | ok n w' =>
          cases n <;> simp only [Oper.upon] at h ⊢ <;>
            first
              | exact wpList_mono hq rest _ _ h
              | exact Calls.mono h (fun e w'' he => by
                  cases e <;> first
                    | exact wpList_mono hq rest _ _ he
                    | exact hq _ _ _ he
                    | (obtain ⟨a3, w3, h3⟩ := he; exact ⟨a3, w3, hq _ _ _ h3⟩))
              | exact Rows.mono h (fun _ _ he => wpList_mono hq rest _ _ he)
        | halt x w' => cases x <;> simp only [Oper.upon] at h ⊢ <;> first | exact hq _ _ _ h | exact h
      · exact .inr ⟨h1, a2, w2, hq _ _ _ h2⟩
    · rename_i hw
      rw [if_neg hw] at h
      exact wpList_mono hq rest _ _ h

theorem VL_cons_wanted {ops : Array Oper} {o : Oper} {rest : List Oper} {R : D → List Blk → Prop}
    (hn : dstOk C.n o.dst = true) (hw : ∀ H β a, EnvRel C.tb H β σ C.n a env → Region.wanted o (yielded ops a.tmps) = true)
    (h : OpV C o env σ R) (k : ∀ d σ', R d σ' → VL C ops rest (putD env o.dst d) σ' Q) : VL C ops (o :: rest) env σ Q := by
  intro H β a w hr he hd
  refine wpList_of_wp (hw H β a he) (h H β a w hr he hd _ _ ?_)
  intro v d w' H' β' σ' hR hr' hv hs hev
  have hd' : (a.put o.dst v).defers = [] := by cases o.dst <;> exact hd
  exact wpList_mono (fun _ _ _ hl => hl.trans hs (hev.kp C.k0)) _ _ _ (k d σ' hR H' β' (a.put o.dst v) w' hr' ((he.mono hev).put hv hn) hd')

theorem VL_cons {ops : Array Oper} {o : Oper} {rest : List Oper} {R : D → List Blk → Prop} (hg : o.guard = none) (hn : dstOk C.n o.dst = true)
    (h : OpV C o env σ R) (k : ∀ d σ', R d σ' → VL C ops rest (putD env o.dst d) σ' Q) : VL C ops (o :: rest) env σ Q :=
  VL_cons_wanted hn (fun _ _ _ _ => by simp [Region.wanted, hg]) h k

theorem yielded_of {tb H β n a} (he : EnvRel tb H β σ n a env) {ops : Array Oper} {j t : Nat} {b : Bool} {oj : Oper} (hj : ops[j]? = some oj) (ht : oj.dst = some t)
    (hb : boolAny (getD env t) = some b) : yielded ops a.tmps j = some b := by
  have hv := boolAny_rel (he.get t) hb
  have hlt : t < a.tmps.size := by
    rcases Nat.lt_or_ge t a.tmps.size with h' | h'
    · exact h'
    · simp [h', undef] at hv
  have : a.tmps[t]? = some (.bool b) := by
    simp only [Array.getD_eq_getD_getElem?] at hv
    rw [Array.getElem?_eq_getElem hlt] at hv ⊢
    simpa using hv
  simp [yielded, hj, ht, this]

theorem VL_guard {ops : Array Oper} {o oj : Oper} {rest : List Oper} {R : D → List Blk → Prop} {j t : Nat} {want b : Bool} (hg : o.guard = some (j, want)) (hn : dstOk C.n o.dst = true)
    (hj : ops[j]? = some oj) (ht : oj.dst = some t) (hb : boolAny (getD env t) = some b)
    (h : b = want → OpV C o env σ R) (k : b = want → ∀ d σ', R d σ' → VL C ops rest (putD env o.dst d) σ' Q)
    (k' : b ≠ want → VL C ops rest (putD env o.dst .any) σ Q) : VL C ops (o :: rest) env σ Q := by
  by_cases hbw : b = want
  · refine VL_cons_wanted hn (fun H β a he => ?_) (h hbw) (k hbw)
    simp [Region.wanted, hg, yielded_of he hj ht hb, hbw]
  · intro H β a w hr he hd
    have hw : Region.wanted o (yielded ops a.tmps) = false := by simp [Region.wanted, hg, yielded_of he hj ht hb, hbw]
    unfold wpList
    rw [hw]
    have hd' : (a.put o.dst undef).defers = [] := by cases o.dst <;> exact hd
    exact k' hbw H β (a.put o.dst undef) w hr (he.put .any hn) hd'

end
end Go.Den
