/- Contracts of functions that are handed blocks, and hand back blocks: calls, and how a contract is proved. -/
import Derived.Test.YtgdfegmdjdnbdaaDenCall
import Derived.Test.YtgdfegmdjdnbdaaDenRen
namespace Go.Den
open Go
set_option linter.unusedSectionVars false
set_option linter.unusedSimpArgs false
set_option linter.unusedVariables false

/-- What is handed over: plain data where it is plain data. -/
def outD (rows : Bool) (t : TypeId) (y : T) : D := match rows with
  | true => ldD t y
  | false => match toE y with
    | some e => .t t (.e e)
    | none => ldD t y
def argD (tb : Tab) (env : Env) (t : TypeId) (x : Operand) : Option D := match opd tb env t x with
  | some d => match asT tb t d with
    | some y => some (outD false t y)
    | none => some d
  | none => none
def argsD (tb : Tab) (env : Env) : List TypeId → List Operand → Option (List D)
  | [], [] => some []
  | t :: ts, x :: xs => match argD tb env t x with
    | some y => match argsD tb env ts xs with
      | some ys => some (y :: ys)
      | none => none
    | none => none
  | _, _ => none

/-- The contract of a function. -/
def FnG (P : Program) (tb : Tab) (f : FuncId) (σ0 : List Blk) (args : List D) (Q : D → List Blk → Prop) : Prop :=
  (∃ fn, P.funcs[f]? = some fn ∧ (fn.name == "runtime.NumGoroutine") = false ∧ fn.body.isNone = false) ∧
  ∀ H β w vals, Rel tb H β σ0 w → (∀ b o i, H b o = .mine i → i < σ0.length) → ArgsAt tb H β σ0 vals args →
    Calls P f vals w fun e w' => ∃ v d H' β' σ', e = .returned v ∧ Q d σ' ∧ σ0.length ≤ σ'.length ∧ Rel tb H' β' σ' w' ∧ DRel tb H' β' σ' v d ∧ Stp H w H' w' ∧ Kp σ0.length β σ0 β' σ'

theorem FnG.mono {P tb f σ0 args Q Q'} (h : FnG P tb f σ0 args Q) (hq : ∀ d s, Q d s → Q' d s) : FnG P tb f σ0 args Q' :=
  ⟨h.1, fun H β w vals hr hm ha => (h.2 H β w vals hr hm ha).mono fun e w' ⟨v, d, H', β', σ', a, b, c⟩ => ⟨v, d, H', β', σ', a, hq _ _ b, c⟩⟩

theorem FnOk.g {P tb f pts rts args rs} (h : FnOk P tb f pts rts args rs) : FnG P tb f [] (typed pts args) (fun d s => d = retD rts rs ∧ s = []) :=
  ⟨h.1, fun H β w vals hr hm ha => by
    have hβ : β = [] := by have := hr.len; simpa using this
    subst hβ
    refine (h.2.2 H w vals hr.base (fun b o i e => by have := hm b o i e; simp at this) ha).mono ?_
    rintro e w' ⟨v, H', he, hb, hv, hs⟩
    exact ⟨v, _, H', [], [], he, ⟨rfl, rfl⟩, Nat.le_refl _, hb.rel, hv, hs, .refl _ _ _⟩⟩

/-! ### putting back -/

def putBack {α : Type _} (l : List α) : List Nat → List α → List α
  | [], xs => l ++ xs
  | i :: is, x :: xs => putBack (l.set i x) is xs
  | _ :: _, [] => l
def backI : List Nat → Nat → Nat → Nat
  | [], n, j => n + j
  | i :: _, _, 0 => i
  | _ :: is, n, j + 1 => backI is n j
def renBs (ρ : Nat → Option Nat) : List Blk → Option (List Blk)
  | [] => some []
  | x :: xs => match Blk.ren ρ x with
    | some y => match renBs ρ xs with
      | some ys => some (y :: ys)
      | none => none
    | none => none
theorem renBs_get {ρ : Nat → Option Nat} : ∀ {xs ys : List Blk}, renBs ρ xs = some ys → ys.length = xs.length ∧ ∀ (i : Nat) (x : Blk), xs[i]? = some x → ∃ y, ys[i]? = some y ∧ x.ren ρ = some y
  | [], ys, h => by simp [renBs] at h; subst h; exact ⟨rfl, fun i y hy => by simp at hy⟩
  | x :: xs, ys, h => by
    simp only [renBs] at h
    split at h
    · rename_i y hy
      split at h
      · rename_i zs hz
        cases h
        obtain ⟨h1, h2⟩ := renBs_get hz
        refine ⟨by simp [h1], fun i z hzz => ?_⟩
        cases i with
        | zero => simp at hzz; subst hzz; exact ⟨y, rfl, hy⟩
        | succ i => exact h2 i z (by simpa using hzz)
      · cases h
    · cases h

theorem putBack_out {α : Type _} : ∀ {idx : List Nat} {l xs : List α} {i : Nat}, i ∉ idx → i < l.length → idx.length ≤ xs.length → (putBack l idx xs)[i]? = l[i]?
  | [], l, xs, i, _, hi, _ => by simp only [putBack]; rw [List.getElem?_append_left hi]
  | k :: is, l, x :: xs, i, hn, hi, hx => by
    simp only [List.mem_cons, not_or] at hn
    simp only [putBack]
    rw [putBack_out hn.2 (by simpa using hi) (by simpa using hx), List.getElem?_set_ne (fun e => hn.1 e.symm)]
  | k :: is, l, [], i, _, _, hx => by simp at hx
theorem putBack_at {α : Type _} : ∀ {idx : List Nat} {l xs : List α}, idx.Nodup → (∀ i ∈ idx, i < l.length) → idx.length ≤ xs.length → ∀ j, j < xs.length → (putBack l idx xs)[backI idx l.length j]? = xs[j]?
  | [], l, xs, _, _, _, j, hj => by simp only [putBack, backI]; rw [List.getElem?_append_right (by omega)]; simp
  | k :: is, l, x :: xs, hd, hb, hx, j, hj => by
    simp only [putBack]
    have hnd := List.nodup_cons.1 hd
    have hk : k < l.length := hb k (by simp)
    cases j with
    | zero =>
      simp only [backI]
      rw [putBack_out hnd.1 (by simpa using hk) (by simpa using hx)]
      simp [hk]
    | succ j =>
      simp only [backI]
      have := putBack_at (l := l.set k x) (xs := xs) hnd.2 (fun i hi => by simpa using hb i (by simp [hi])) (by simpa using hx) j (by simpa using hj)
      simpa using this
  | k :: is, l, [], _, _, hx, j, hj => by simp at hx
theorem putBack_length {α : Type _} : ∀ {idx : List Nat} {l xs : List α}, idx.length ≤ xs.length → (putBack l idx xs).length + idx.length = l.length + xs.length
  | [], l, xs, _ => by simp [putBack]
  | k :: is, l, x :: xs, hx => by
    have := putBack_length (idx := is) (l := l.set k x) (xs := xs) (by simpa using hx)
    simp only [putBack, List.length_cons]
    simp at this; omega
  | k :: is, l, [], hx => by simp at hx
theorem backI_idx : ∀ {idx : List Nat} {n j i : Nat}, idx[j]? = some i → backI idx n j = i
  | [], n, j, i, h => by simp at h
  | k :: is, n, 0, i, h => by simp at h; exact h
  | k :: is, n, j + 1, i, h => by simp only [backI]; exact backI_idx (by simpa using h)
theorem backI_new : ∀ {idx : List Nat} {n j : Nat}, idx.length ≤ j → backI idx n j = n + (j - idx.length)
  | [], n, j, h => by simp [backI]
  | k :: is, n, 0, h => by simp at h
  | k :: is, n, j + 1, h => by simp only [backI]; rw [backI_new (by simpa using h)]; simp
theorem putBack_split {α : Type _} {idx : List Nat} {l xs : List α} {q : Nat} (h : q < (putBack l idx xs).length) (hx : idx.length ≤ xs.length) (hin : ∀ i ∈ idx, i < l.length) : (∃ j, j < xs.length ∧ backI idx l.length j = q) ∨ (q ∉ idx ∧ q < l.length) := by
  by_cases hq : q ∈ idx
  · obtain ⟨j, hj⟩ := List.getElem?_of_mem hq
    exact .inl ⟨j, Nat.lt_of_lt_of_le (List.getElem?_eq_some_iff.1 hj).1 hx, backI_idx hj⟩
  · rcases Nat.lt_or_ge q l.length with h1 | h1
    · exact .inr ⟨hq, h1⟩
    · refine .inl ⟨idx.length + (q - l.length), ?_, ?_⟩
      · have := putBack_length (l := l) hx; omega
      · rw [backI_new (by omega)]; omega

/-- The caller's ghost behind a call that was handed blocks. -/
def backH (H : Gh) (idx : List Nat) (n : Nat) (H' : Gh) : Gh := fun b o => match H' b o with
  | .mine j => .mine (backI idx n j)
  | .pers v => .pers v
  | .none => match H b o with
    | .mine i => match idxOf idx i with
      | some _ => .none
      | none => .mine i
    | _ => .none

theorem idxOf_nodup {σ : List Blk} {idx : List Nat} {σ0 : List Blk} (hp : pickB σ (idxOf idx) idx 0 = some σ0) : idx.Nodup ∧ ∀ i ∈ idx, i < σ.length := by
  obtain ⟨h1, h2⟩ := pickB_get hp
  have key : ∀ q i, idx[q]? = some i → idxOf idx i = some q ∧ i < σ.length := fun q i hq => by
    have hlt : q < σ0.length := by rw [h1]; exact (List.getElem?_eq_some_iff.1 hq).1
    obtain ⟨i2, k, a1, a2, a3, a4⟩ := h2 q _ (List.getElem?_eq_getElem hlt)
    rw [hq] at a1; cases a1
    exact ⟨by rw [a2, Nat.zero_add], (List.getElem?_eq_some_iff.1 a3).1⟩
  refine ⟨List.pairwise_iff_getElem.2 fun i j hi hj hij e => ?_, fun i hi => ?_⟩
  · have a := (key i _ (List.getElem?_eq_getElem hi)).1
    have b := (key j _ (List.getElem?_eq_getElem hj)).1
    rw [e, b] at a; cases a; omega
  · obtain ⟨q, hq⟩ := List.getElem?_of_mem hi
    exact (key q i hq).2

theorem Rel.back {tb H β σ w} (h : Rel tb H β σ w) {idx : List Nat} {σ0 : List Blk} (hp : pickB σ (idxOf idx) idx 0 = some σ0) {H' β' σ' w'}
    (hr : Rel tb H' β' σ' w') (hs : Stp (pickH (idxOf idx) H) w H' w') (hk : Kp idx.length (idx.map fun i => β.getD i undef) σ0 β' σ') (hle : idx.length ≤ σ'.length)
    {τ : List Blk} (hτ : renBs (fun j => some (backI idx σ.length j)) σ' = some τ) :
    Rel tb (backH H idx σ.length H') (putBack β idx β') (putBack σ idx τ) w' ∧ Stp H w (backH H idx σ.length H') w' ∧ Ev H β σ (backH H idx σ.length H') (putBack β idx β') (putBack σ idx τ) ∧
      Ren (fun j => some (backI idx σ.length j)) H' β' σ' (backH H idx σ.length H') (putBack β idx β') (putBack σ idx τ) := by
  obtain ⟨hnd, hin⟩ := idxOf_nodup hp
  obtain ⟨hp1, hp2⟩ := pickB_get hp
  obtain ⟨hτ1, hτ2⟩ := renBs_get hτ
  have hlβ : β.length = σ.length := h.len
  have hle2 : idx.length ≤ τ.length := by omega
  have hle3 : idx.length ≤ β'.length := by rw [hr.len]; exact hle
  have hinβ : ∀ i ∈ idx, i < β.length := fun i hi => by rw [hlβ]; exact hin i hi
  have atσ : ∀ j, j < τ.length → (putBack σ idx τ)[backI idx σ.length j]? = τ[j]? := fun j hj => putBack_at hnd hin hle2 j hj
  have atβ : ∀ j, j < τ.length → (putBack β idx β')[backI idx σ.length j]? = β'[j]? := fun j hj => by
    rw [← hlβ]; exact putBack_at hnd hinβ hle3 j (by rw [hr.len, ← hτ1]; exact hj)
  have outσ : ∀ i, i ∉ idx → i < σ.length → (putBack σ idx τ)[i]? = σ[i]? := fun i hi hl => putBack_out hi hl hle2
  have outβ : ∀ i, i ∉ idx → i < σ.length → (putBack β idx β')[i]? = β[i]? := fun i hi hl => putBack_out hi (by rw [hlβ]; exact hl) hle3
  have nm : ∀ b o i, H b o = .mine i → i ∉ idx → ∀ j, pickH (idxOf idx) H b o ≠ .mine j := fun b o i hm hi j e => by
    obtain ⟨i', e1, e2⟩ := pickH_mine.1 e
    rw [hm] at e1; cases e1
    exact hi (List.mem_of_getElem? (idxOf_get e2))
  have hmine : ∀ b o i, H b o = .mine i → i ∉ idx → backH H idx σ.length H' b o = .mine i := fun b o i hm hi => by
    have hlt := h.dom b o (by rw [hm]; simp)
    have h0 : pickH (idxOf idx) H b o = .none := by
      unfold pickH; rw [hm]
      cases hx : idxOf idx i with
      | none => simp [hx]
      | some q => exact absurd (List.mem_of_getElem? (idxOf_get hx)) hi
    have h1 : H' b o = .none := by rw [hs.gh b hlt o (nm b o i hm hi), h0]
    have hx : idxOf idx i = none := by
      cases hx : idxOf idx i with
      | none => rfl
      | some q => exact absurd (List.mem_of_getElem? (idxOf_get hx)) hi
    simp [backH, h1, hm, hx]
  have hpers : ∀ b o v, H b o = .pers v → backH H idx σ.length H' b o = .pers v := fun b o v e => by
    have hlt := h.dom b o (by rw [e]; simp)
    have h0 : pickH (idxOf idx) H b o = .pers v := pickH_pers.2 e
    have h1 : H' b o = .pers v := by rw [hs.gh b hlt o (fun i => by rw [h0]; simp), h0]
    simp [backH, h1]
  have hev : Ev H β σ (backH H idx σ.length H') (putBack β idx β') (putBack σ idx τ) := by
    have base : ∀ i q, idx[q]? = some i → i < σ.length → (idx.map fun i => β.getD i undef)[q]? = β[i]? := fun i q hq hi => by
      rw [List.getElem?_map, hq]; simp [List.getD, List.getElem?_eq_getElem (show i < β.length by omega)]
    have place : ∀ i, i ∈ idx → ∀ k, σ[i]? = some k → ∃ q k0, idx[q]? = some i ∧ q < idx.length ∧ σ0[q]? = some k0 ∧ alike k k0 := fun i hi k hk => by
      obtain ⟨q, hq⟩ := List.getElem?_of_mem hi
      have hlt : q < σ0.length := by rw [hp1]; exact (List.getElem?_eq_some_iff.1 hq).1
      obtain ⟨i2, k2, a1, a2, a3, a4⟩ := hp2 q _ (List.getElem?_eq_getElem hlt)
      rw [hq] at a1; cases a1
      rw [hk] at a3; cases a3
      exact ⟨q, _, hq, by omega, List.getElem?_eq_getElem hlt, Blk.ren_alike a4⟩
    refine ⟨hpers, fun i ty x e => ?_, fun i u n e => ?_, fun i s p e => ?_, fun i u o xs e => ?_⟩
    · have hi := (List.getElem?_eq_some_iff.1 e).1
      by_cases hm : i ∈ idx
      · obtain ⟨q, k0, hq, hql, hk0, hal⟩ := place i hm _ e
        cases k0 with
        | tree ty' x' =>
          cases hal
          obtain ⟨g1, x2, g2⟩ := hk.tree q hql ty x' hk0
          obtain ⟨k2, g3, g4⟩ := hτ2 q _ g2
          have hbi := backI_idx (n := σ.length) hq
          have hqt : q < τ.length := (List.getElem?_eq_some_iff.1 g3).1
          have a1 := atσ q hqt
          have a2 := atβ q hqt
          rw [hbi] at a1 a2
          refine ⟨by rw [a2, g1]; exact base i q hq hi, ?_⟩
          rw [a1, g3]
          simp only [Blk.ren] at g4
          split at g4
          · cases g4; exact ⟨_, rfl⟩
          · cases g4
        | row => cases hal
        | iter => cases hal
        | dead => cases hal
        | mrow => cases hal
      · exact ⟨outβ i hm hi, x, by rw [outσ i hm hi]; exact e⟩
    · have hi := (List.getElem?_eq_some_iff.1 e).1
      by_cases hm : i ∈ idx
      · obtain ⟨q, k0, hq, hql, hk0, hal⟩ := place i hm _ e
        cases k0 with
        | row u' n' =>
          obtain ⟨rfl, rfl⟩ := hal
          obtain ⟨n2, g1, g2, g3⟩ := hk.row q hql u n hk0
          obtain ⟨k2, g4, g5⟩ := hτ2 q _ g1
          cases g5
          have hbi := backI_idx (n := σ.length) hq
          have hqt : q < τ.length := (List.getElem?_eq_some_iff.1 g4).1
          have a1 := atσ q hqt
          have a2 := atβ q hqt
          rw [hbi] at a1 a2
          exact ⟨n2, by rw [a1, g4], g2, fun e2 => by rw [a2, g3 e2]; exact base i q hq hi⟩
        | tree => cases hal
        | iter => cases hal
        | dead => cases hal
        | mrow => cases hal
      · exact ⟨n, by rw [outσ i hm hi]; exact e, Nat.le_refl _, fun _ => outβ i hm hi⟩
    · have hi := (List.getElem?_eq_some_iff.1 e).1
      by_cases hm : i ∈ idx
      · obtain ⟨q, k0, hq, hql, hk0, hal⟩ := place i hm _ e
        cases k0 with
        | iter s' p' =>
          obtain ⟨rfl, rfl⟩ := hal
          obtain ⟨g1, s2, p2, g2⟩ := hk.iter q hql s p hk0
          obtain ⟨k2, g4, g5⟩ := hτ2 q _ g2
          cases g5
          have hbi := backI_idx (n := σ.length) hq
          have hqt : q < τ.length := (List.getElem?_eq_some_iff.1 g4).1
          have a1 := atσ q hqt
          have a2 := atβ q hqt
          rw [hbi] at a1 a2
          exact ⟨by rw [a2, g1]; exact base i q hq hi, s2, p2, by rw [a1, g4]⟩
        | tree => cases hal
        | row => cases hal
        | dead => cases hal
        | mrow => cases hal
      · exact ⟨outβ i hm hi, s, p, by rw [outσ i hm hi]; exact e⟩
    · have hi := (List.getElem?_eq_some_iff.1 e).1
      by_cases hm : i ∈ idx
      · obtain ⟨q, k0, hq, hql, hk0, hal⟩ := place i hm _ e
        cases k0 with
        | mrow u' o' xs' =>
          obtain ⟨rfl, rfl, rfl⟩ := hal
          obtain ⟨o2, xs2, g1, g2, g3⟩ := hk.mrow q hql u o xs hk0
          obtain ⟨k2, g4, g5⟩ := hτ2 q _ g1
          cases g5
          have hbi := backI_idx (n := σ.length) hq
          have hqt : q < τ.length := (List.getElem?_eq_some_iff.1 g4).1
          have a1 := atσ q hqt
          have a2 := atβ q hqt
          rw [hbi] at a1 a2
          exact ⟨o2, xs2, by rw [a1, g4], g2, fun e2 => by rw [a2, g3 e2]; exact base i q hq hi⟩
        | tree => cases hal
        | iter => cases hal
        | dead => cases hal
        | row => cases hal
      · exact ⟨o, xs, by rw [outσ i hm hi]; exact e, Nat.le_refl _, fun _ => outβ i hm hi⟩
  have hren : Ren (fun j => some (backI idx σ.length j)) H' β' σ' (backH H idx σ.length H') (putBack β idx β') (putBack σ idx τ) := by
    refine ⟨fun b o v e => by simp [backH, e], fun j j' k hj hk => ?_⟩
    cases hj
    obtain ⟨y, hy, hky⟩ := hτ2 j k hk
    have hjt := (List.getElem?_eq_some_iff.1 hy).1
    exact ⟨atβ j hjt, y, by rw [atσ j hjt]; exact hy, Blk.ren_alike hky⟩
  refine ⟨⟨fun b o v e => ?_, fun b o e => ?_, ?_, ?_⟩, ?_, hev, hren⟩
  · refine hr.pers b o v ?_
    unfold backH at e
    split at e
    · cases e
    · rename_i v' hv; cases e; exact hv
    · split at e
      · split at e <;> cases e
      · cases e
  · by_cases h1 : H' b o = .none
    · by_cases h2 : H b o = .none
      · exact absurd (by simp [backH, h1, h2]) e
      · exact Nat.lt_of_lt_of_le (h.dom b o h2) hs.size
    · exact hr.dom b o h1
  · have a := putBack_length (l := β) hle3
    have b := putBack_length (l := σ) hle2
    have := hr.len; omega
  · intro q k bv hk hv
    have hq := (List.getElem?_eq_some_iff.1 hk).1
    rcases putBack_split hq hle2 hin with ⟨j, hj, rfl⟩ | ⟨hq1, hq2⟩
    · have hj' : j < σ'.length := by omega
      rw [atσ j hj] at hk
      rw [atβ j hj] at hv
      obtain ⟨y, hy, hky⟩ := hτ2 j _ (List.getElem?_eq_getElem hj')
      rw [hk] at hy; cases hy
      exact (hr.blk j _ bv (List.getElem?_eq_getElem hj') hv).ren hren hky fun b o e => by simp [backH, e]
    · rw [outσ q hq1 hq2] at hk
      rw [outβ q hq1 hq2] at hv
      refine (h.blk q k bv hk hv).mono hev (fun b o e => ?_) (fun b s p e he => ?_)
      · have hlt := h.dom b o (by rw [e]; simp)
        have hn := nm b o q e hq1
        exact ⟨hmine b o q e hq1, hs.cell b hlt o hn, fun v hv => hs.frz b hlt o v hv hn, hs.shp b hlt⟩
      · have hlt := h.dom b 0 (by rw [e 0]; simp)
        rw [hs.blk b hlt (fun o => nm b o q (e o) hq1)]; exact he
  · refine ⟨hs.os, hs.tape, hs.output, hs.size, fun b hb o hn => ?_, fun b hb o i e => ?_, fun b hb hn => ?_, fun b hb o hn => ?_, fun b hb o v hv hn => ?_, hs.shp⟩
    · have hn0 : ∀ j, pickH (idxOf idx) H b o ≠ .mine j := fun j e => by obtain ⟨i, e1, _⟩ := pickH_mine.1 e; exact hn i e1
      have h0 : pickH (idxOf idx) H b o = H b o := by
        unfold pickH; split
        · rename_i i hi; exact absurd hi (hn i)
        · rfl
      have h1 := hs.gh b hb o hn0
      rw [h0] at h1
      unfold backH; rw [h1]
      cases hx : H b o with
      | none => rfl
      | pers v => rfl
      | mine i => exact absurd hx (hn i)
    · by_cases h1 : ∃ j, H' b o = .mine j
      · obtain ⟨j, hj⟩ := h1
        obtain ⟨k, hk⟩ := hs.own b hb o j hj
        obtain ⟨i', e1, _⟩ := pickH_mine.1 hk
        exact ⟨i', e1⟩
      · unfold backH at e
        split at e
        · rename_i j hj; exact absurd ⟨j, hj⟩ h1
        · cases e
        · split at e
          · rename_i i' hi'; exact ⟨i', hi'⟩
          · cases e
    · exact hs.blk b hb fun o j e => by obtain ⟨i, e1, _⟩ := pickH_mine.1 e; exact hn o i e1
    · exact hs.cell b hb o fun j e => by obtain ⟨i, e1, _⟩ := pickH_mine.1 e; exact hn i e1
    · exact hs.frz b hb o v hv fun j e => by obtain ⟨i, e1, _⟩ := pickH_mine.1 e; exact hn i e1
end Go.Den
