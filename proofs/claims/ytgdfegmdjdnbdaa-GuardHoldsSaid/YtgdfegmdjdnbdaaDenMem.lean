/- Trees in memory: the part at a path, a part put in its place; what the model's loads and stores do to them. -/
import Derived.Test.YtgdfegmdjdnbdaaDenOp2
import Derived.Laws.Cells
import Derived.Laws.IdiomCopy
namespace Go.Den
open Go
set_option linter.unusedSectionVars false
set_option linter.unusedSimpArgs false
set_option linter.unusedVariables false

/-! ### parts -/

def tyAt (tb : Tab) : TypeId → List Nat → TypeId
  | t, [] => t
  | t, k :: rest => match td tb t with
    | .st fs => match fs[k]? with
      | some f => tyAt tb f.1 rest
      | none => 0
    | .arr _ u => tyAt tb u rest
    | _ => 0
def childE (k : Nat) : E → E
  | .agg xs => xs.getD k .nilp
  | _ => .nilp
def getE : List Nat → E → E
  | [], x => x
  | k :: rest, x => getE rest (childE k x)
def childT (k : Nat) : T → T
  | .e x => .e (childE k x)
  | .st xs => xs.getD k (.e .nilp)
  | _ => .e .nilp
def getT : List Nat → T → T
  | [], x => x
  | k :: rest, x => getT rest (childT k x)
def putChild (k : Nat) (y : T) : T → T
  | .e (.agg xs) => match y with
    | .e z => .e (.agg (xs.set k z))
    | y => .st ((xs.map .e).set k y)
  | .st xs => .st (xs.set k y)
  | x => x
def setT : List Nat → T → T → T
  | [], v, _ => v
  | k :: rest, v, x => putChild k (setT rest v (childT k x)) x

theorem tyAt_of {tb : Tab} : ∀ {p : List Nat} {t : TypeId} {o : Nat} {u : TypeId}, offT tb t p = some (o, u) → tyAt tb t p = u
  | [], t, o, u, h => by simp [offT] at h; exact h.2
  | k :: rest, t, o, u, h => by
    unfold offT at h; unfold tyAt
    split at h
    · rename_i fs ht
      simp only [ht]
      split at h
      · rename_i f hf
        simp only [hf]
        cases ho : offT tb f.1 rest with
        | none => simp [ho] at h
        | some r => simp [ho] at h; rw [← h.2]; exact tyAt_of (o := r.1) (u := r.2) ho
      · cases h
    · rename_i n v ht
      simp only [ht]
      split at h
      · cases ho : offT tb v rest with
        | none => simp [ho] at h
        | some r => simp [ho] at h; rw [← h.2]; exact tyAt_of (o := r.1) (u := r.2) ho
      · cases h
    · cases h

theorem seg_seg {cs : List Value} {o n p m : Nat} (h : p + m ≤ n) : seg (seg cs o n) p m = seg cs (o + p) m := by
  apply List.ext_getElem?
  intro j
  rcases Nat.lt_or_ge j m with hj | hj
  · rw [seg_get hj, seg_get (show p + j < n by omega), seg_get hj, Nat.add_assoc]
  · rw [List.getElem?_eq_none (by simp [seg]; omega), List.getElem?_eq_none (by simp [seg]; omega)]
theorem seg_all {cs : List Value} : seg cs 0 cs.length = cs := by simp [seg]

variable {P : Program} {tb : Tab} (hT : TabOk P tb)

include hT in
theorem offT_le : ∀ {p : List Nat} {t : TypeId} {o : Nat} {u : TypeId}, offT tb t p = some (o, u) → o + sz tb u ≤ sz tb t
  | [], t, o, u, h => by simp [offT] at h; obtain ⟨rfl, rfl⟩ := h; omega
  | k :: rest, t, o, u, h => by
    unfold offT at h
    split at h
    · rename_i fs ht
      split at h
      · rename_i f hf
        cases ho : offT tb f.1 rest with
        | none => simp [ho] at h
        | some r =>
          simp [ho] at h; obtain ⟨rfl, rfl⟩ := h
          have h1 := offT_le (o := r.1) (u := r.2) ho
          have h2 := (fieldsEnd_spec (hT.sz_st ht)).2 k f hf
          omega
      · cases h
    · rename_i n v ht
      split at h
      · rename_i hk
        cases ho : offT tb v rest with
        | none => simp [ho] at h
        | some r =>
          simp [ho] at h; obtain ⟨rfl, rfl⟩ := h
          have h1 := offT_le (o := r.1) (u := r.2) ho
          have h2 := hT.sz_arr ht
          have h3 : (k + 1) * sz tb v ≤ n * sz tb v := Nat.mul_le_mul_right _ hk
          rw [Nat.add_mul] at h3
          omega
      · cases h
    · cases h

theorem Rd.child {H : Gh} {t cs x} (r : Rd tb H t cs x) :
    (∀ fs, td tb t = .st fs → ∀ (k : Nat) f, fs[k]? = some f → Rd tb H f.1 (seg cs f.2 (sz tb f.1)) (childE k x)) ∧
    (∀ n u, td tb t = .arr n u → ∀ k, k < n → Rd tb H u (seg cs (k * sz tb u) (sz tb u)) (childE k x)) := by
  cases r with
  | @st t fs cs xs a b c d =>
    refine ⟨fun gs hg k f hf => ?_, fun n u hg => ?_⟩
    · rw [a] at hg; cases hg
      have hk : k < xs.length := by rw [c]; exact (List.getElem?_eq_some_iff.1 hf).1
      have := d k f xs[k] hf (List.getElem?_eq_getElem hk)
      simpa [childE, hk] using this
    · rw [a] at hg; cases hg
  | @arr t n u cs xs a b c d =>
    refine ⟨fun gs hg => ?_, fun m v hg k hk => ?_⟩
    · rw [a] at hg; cases hg
    · rw [a] at hg; cases hg
      have hk' : k < xs.length := by rw [c]; exact hk
      have := d k xs[k] (List.getElem?_eq_getElem hk')
      simpa [childE, hk'] using this
  | _ a => exact ⟨fun gs hg => (by rw [a] at hg; cases hg), fun n u hg => (by rw [a] at hg; cases hg)⟩

theorem TRel.child {H : Gh} {β σ t cs x} (r : TRel tb H β σ t cs x) :
    (∀ fs, td tb t = .st fs → ∀ (k : Nat) f, fs[k]? = some f → TRel tb H β σ f.1 (seg cs f.2 (sz tb f.1)) (childT k x)) ∧
    (∀ n u, td tb t = .arr n u → ∀ k, k < n → TRel tb H β σ u (seg cs (k * sz tb u) (sz tb u)) (childT k x)) := by
  cases r with
  | e a => exact ⟨fun fs hg k f hf => .e (a.child.1 fs hg k f hf), fun n u hg k hk => .e (a.child.2 n u hg k hk)⟩
  | @st t fs cs xs a b c d =>
    refine ⟨fun gs hg k f hf => ?_, fun n u hg => ?_⟩
    · rw [a] at hg; cases hg
      have hk : k < xs.length := by rw [c]; exact (List.getElem?_eq_some_iff.1 hf).1
      have := d k f xs[k] hf (List.getElem?_eq_getElem hk)
      simpa [childT, hk] using this
    · rw [a] at hg; cases hg
  | @arr t n u cs xs a b c d =>
    refine ⟨fun gs hg => ?_, fun m v hg k hk => ?_⟩
    · rw [a] at hg; cases hg
    · rw [a] at hg; cases hg
      have hk' : k < xs.length := by rw [c]; exact hk
      have := d k xs[k] (List.getElem?_eq_getElem hk')
      simpa [childT, hk'] using this
  | _ a => exact ⟨fun gs hg => (by rw [a] at hg; cases hg), fun n u hg => (by rw [a] at hg; cases hg)⟩

include hT in
theorem TRel.part {H : Gh} {β σ} : ∀ {p : List Nat} {t cs x o u}, TRel tb H β σ t cs x → offT tb t p = some (o, u) → TRel tb H β σ u (seg cs o (sz tb u)) (getT p x)
  | [], t, cs, x, o, u, r, h => by
    simp [offT] at h; obtain ⟨rfl, rfl⟩ := h
    rw [← r.len hT, seg_all]; exact r
  | k :: rest, t, cs, x, o, u, r, h => by
    unfold offT at h
    split at h
    · rename_i fs ht
      split at h
      · rename_i f hf
        cases ho : offT tb f.1 rest with
        | none => simp [ho] at h
        | some q =>
          simp [ho] at h; obtain ⟨rfl, rfl⟩ := h
          have := TRel.part (r.child.1 fs ht k f hf) (o := q.1) (u := q.2) ho
          rwa [seg_seg (offT_le hT (o := q.1) (u := q.2) ho)] at this
      · cases h
    · rename_i n v ht
      split at h
      · rename_i hk
        cases ho : offT tb v rest with
        | none => simp [ho] at h
        | some q =>
          simp [ho] at h; obtain ⟨rfl, rfl⟩ := h
          have := TRel.part (r.child.2 n v ht k hk) (o := q.1) (u := q.2) ho
          rwa [seg_seg (offT_le hT (o := q.1) (u := q.2) ho)] at this
      · cases h
    · cases h
include hT in
theorem Rd.part {H : Gh} : ∀ {p : List Nat} {t cs x o u}, Rd tb H t cs x → offT tb t p = some (o, u) → Rd tb H u (seg cs o (sz tb u)) (getE p x)
  | [], t, cs, x, o, u, r, h => by
    simp [offT] at h; obtain ⟨rfl, rfl⟩ := h
    rw [← r.len hT, seg_all]; exact r
  | k :: rest, t, cs, x, o, u, r, h => by
    unfold offT at h
    split at h
    · rename_i fs ht
      split at h
      · rename_i f hf
        cases ho : offT tb f.1 rest with
        | none => simp [ho] at h
        | some q =>
          simp [ho] at h; obtain ⟨rfl, rfl⟩ := h
          have := Rd.part (r.child.1 fs ht k f hf) (o := q.1) (u := q.2) ho
          rwa [seg_seg (offT_le hT (o := q.1) (u := q.2) ho)] at this
      · cases h
    · rename_i n v ht
      split at h
      · rename_i hk
        cases ho : offT tb v rest with
        | none => simp [ho] at h
        | some q =>
          simp [ho] at h; obtain ⟨rfl, rfl⟩ := h
          have := Rd.part (r.child.2 n v ht k hk) (o := q.1) (u := q.2) ho
          rwa [seg_seg (offT_le hT (o := q.1) (u := q.2) ho)] at this
      · cases h
    · cases h

/-! ### a part put in its place -/

def splice (cs : List Value) (o : Nat) (vs : List Value) : List Value := cs.take o ++ vs ++ cs.drop (o + vs.length)
theorem splice_length {cs vs : List Value} {o : Nat} (h : o + vs.length ≤ cs.length) : (splice cs o vs).length = cs.length := by simp [splice]; omega
theorem splice_get {cs vs : List Value} {o j : Nat} (h : o + vs.length ≤ cs.length) :
    (splice cs o vs)[j]? = if j < o then cs[j]? else if j < o + vs.length then vs[j - o]? else cs[j]? := by
  unfold splice
  by_cases h1 : j < o
  · rw [if_pos h1, List.append_assoc, List.getElem?_append_left (by simp; omega), List.getElem?_take_of_lt h1]
  · rw [if_neg h1]
    by_cases h2 : j < o + vs.length
    · rw [if_pos h2, List.append_assoc, List.getElem?_append_right (by simp; omega), List.getElem?_append_left (by simp; omega)]
      congr 1; simp; omega
    · rw [if_neg h2, List.getElem?_append_right (by simp; omega), List.getElem?_drop]
      congr 1; simp; omega
theorem splice_all {cs vs : List Value} (h : vs.length = cs.length) : splice cs 0 vs = vs := by simp [splice, h]
theorem seg_splice_in {cs vs : List Value} {o n p : Nat} (h : p + vs.length ≤ n) (hn : o + n ≤ cs.length) : seg (splice cs (o + p) vs) o n = splice (seg cs o n) p vs := by
  apply List.ext_getElem?
  intro j
  rcases Nat.lt_or_ge j n with hj | hj
  · rw [seg_get hj, splice_get (by omega), splice_get (by rw [seg_length hn]; exact h)]
    by_cases h1 : j < p
    · rw [if_pos (by omega), if_pos h1, seg_get hj]
    · rw [if_neg (by omega), if_neg h1]
      by_cases h2 : j < p + vs.length
      · rw [if_pos (by omega), if_pos h2]; congr 1; omega
      · rw [if_neg (by omega), if_neg h2, seg_get hj]
  · rw [List.getElem?_eq_none (by simp [seg]; omega), List.getElem?_eq_none (by rw [splice_length (by rw [seg_length hn]; exact h), seg_length hn]; exact hj)]
theorem seg_splice_out {cs vs : List Value} {o n q : Nat} (h : o + n ≤ q ∨ q + vs.length ≤ o) (hq : q + vs.length ≤ cs.length) : seg (splice cs q vs) o n = seg cs o n := by
  apply List.ext_getElem?
  intro j
  rcases Nat.lt_or_ge j n with hj | hj
  · rw [seg_get hj, seg_get hj, splice_get hq]
    by_cases h1 : o + j < q
    · rw [if_pos h1]
    · rw [if_neg h1, if_neg (by omega)]
  · rw [List.getElem?_eq_none (by simp [seg]; omega), List.getElem?_eq_none (by simp [seg]; omega)]

theorem getD_set_self' {α : Type} {xs : List α} {k : Nat} {y d : α} (h : k < xs.length) : (xs.set k y)[k]? = some y := by simp [h]

theorem TRel.st_inv {H : Gh} {β σ t cs xs fs} (h : TRel tb H β σ t cs (.st xs)) (a : td tb t = .st fs) :
    cs.length = sz tb t ∧ xs.length = fs.length ∧ ∀ (i : Nat) (f : TypeId × Nat) (x : T), fs[i]? = some f → xs[i]? = some x → TRel tb H β σ f.1 (seg cs f.2 (sz tb f.1)) x := by
  cases h with
  | st a' b c d => rw [a] at a'; cases a'; exact ⟨b, c, d⟩
  | arr a' => rw [a] at a'; cases a'
theorem TRel.arr_inv {H : Gh} {β σ t cs xs n u} (h : TRel tb H β σ t cs (.st xs)) (a : td tb t = .arr n u) :
    cs.length = n * sz tb u ∧ xs.length = n ∧ ∀ (i : Nat) (x : T), xs[i]? = some x → TRel tb H β σ u (seg cs (i * sz tb u) (sz tb u)) x := by
  cases h with
  | arr a' b c d => rw [a] at a'; cases a'; exact ⟨b, c, d⟩
  | st a' => rw [a] at a'; cases a'

include hT in
theorem TRel.putChild {H : Gh} {β σ t cs x} (r : TRel tb H β σ t cs x) :
    (∀ fs, td tb t = .st fs → ∀ (k : Nat) f ws y, fs[k]? = some f → TRel tb H β σ f.1 ws y → TRel tb H β σ t (splice cs f.2 ws) (Den.putChild k y x)) ∧
    (∀ n u, td tb t = .arr n u → ∀ (k : Nat) ws y, k < n → TRel tb H β σ u ws y → TRel tb H β σ t (splice cs (k * sz tb u) ws) (Den.putChild k y x)) := by
  have hlen := r.len hT
  have stc : ∀ fs, td tb t = .st fs → ∀ (k : Nat) f ws y, fs[k]? = some f → TRel tb H β σ f.1 ws y → ∀ xs : List T, xs.length = fs.length →
      (∀ (i : Nat) f x, fs[i]? = some f → xs[i]? = some x → TRel tb H β σ f.1 (seg cs f.2 (sz tb f.1)) x) → TRel tb H β σ t (splice cs f.2 ws) (.st (xs.set k y)) := by
    intro fs ht k f ws y hf hy xs hx hr
    have hs := fieldsEnd_spec (hT.sz_st ht)
    have hk := hs.2 k f hf
    have hw := hy.len hT
    refine .st ht (by rw [splice_length (by omega)]; exact hlen) (by simpa using hx) fun i g z hg hz => ?_
    have hi := hs.2 i g hg
    by_cases hik : k = i
    · subst hik
      rw [hf] at hg; cases hg
      have hk' : k < xs.length := by rw [hx]; exact (List.getElem?_eq_some_iff.1 hf).1
      rw [getD_set_self' (d := y) hk'] at hz; cases hz
      have := seg_splice_in (cs := cs) (vs := ws) (o := f.2) (n := sz tb f.1) (p := 0) (by omega) (by omega)
      rw [Nat.add_zero] at this
      rw [this, splice_all (by rw [seg_length (by omega)]; exact hw)]
      exact hy
    · rw [List.getElem?_set_ne hik] at hz
      rw [seg_splice_out ?_ (by omega)]
      · exact hr i g z hg hz
      · rcases Nat.lt_or_ge i k with h | h
        · have := hi.2.2 k f h hf; omega
        · have := hk.2.2 i g (by omega) hg; omega
  have arc : ∀ n u, td tb t = .arr n u → ∀ (k : Nat) ws y, k < n → TRel tb H β σ u ws y → ∀ xs : List T, xs.length = n →
      (∀ (i : Nat) x, xs[i]? = some x → TRel tb H β σ u (seg cs (i * sz tb u) (sz tb u)) x) → TRel tb H β σ t (splice cs (k * sz tb u) ws) (.st (xs.set k y)) := by
    intro n u ht k ws y hk hy xs hx hr
    have hw := hy.len hT
    have hsz := hT.sz_arr ht
    have hle : ∀ i, i < n → i * sz tb u + sz tb u ≤ n * sz tb u := fun i hi => by
      have := Nat.mul_le_mul_right (sz tb u) (show i + 1 ≤ n from hi); rwa [Nat.add_mul, Nat.one_mul] at this
    have hk2 := hle k hk
    refine .arr ht (by rw [splice_length (by omega)]; omega) (by simpa using hx) fun i z hz => ?_
    have hin : i < n := by have := (List.getElem?_eq_some_iff.1 hz).1; simp at this; omega
    have hi2 := hle i hin
    by_cases hik : k = i
    · subst hik
      rw [getD_set_self' (d := y) (by omega)] at hz; cases hz
      have := seg_splice_in (cs := cs) (vs := ws) (o := k * sz tb u) (n := sz tb u) (p := 0) (by omega) (by omega)
      rw [Nat.add_zero] at this
      rw [this, splice_all (by rw [seg_length (by omega)]; exact hw)]
      exact hy
    · rw [List.getElem?_set_ne hik] at hz
      rw [seg_splice_out ?_ (by omega)]
      · exact hr i z hz
      · rcases Nat.lt_or_ge i k with h | h
        · have := Nat.mul_le_mul_right (sz tb u) (show i + 1 ≤ k from h); rw [Nat.add_mul, Nat.one_mul] at this; omega
        · have := Nat.mul_le_mul_right (sz tb u) (show k + 1 ≤ i by omega); rw [Nat.add_mul, Nat.one_mul] at this; omega
  have toE : ∀ t' cs' z, TRel tb H β σ t' cs' (.e z) → Rd tb H t' cs' z := fun t' cs' z h => h.rd
  cases r with
  | e a =>
    cases a with
    | @st t fs cs xs a b c d =>
      refine ⟨fun gs hg k f ws y hf hy => ?_, fun n u hg => (by rw [a] at hg; cases hg)⟩
      rw [a] at hg; cases hg
      have key := stc fs a k f ws y hf hy (xs.map .e) (by simpa using c) (fun i g z hg hz => by
        simp only [List.getElem?_map, Option.map_eq_some_iff] at hz
        obtain ⟨q, hq, rfl⟩ := hz
        exact .e (d i g q hg hq))
      cases y with
      | e z =>
        simp only [Den.putChild]
        obtain ⟨b', c', d'⟩ := key.st_inv a
        refine .e (.st a b' (by simpa using c) fun i g q hg hq => (d' i g (.e q) hg ?_).rd)
        rw [← List.map_set, List.getElem?_map, hq]; rfl
      | _ => exact key
    | @arr t n u cs xs a b c d =>
      refine ⟨fun gs hg => (by rw [a] at hg; cases hg), fun m v hg k ws y hk hy => ?_⟩
      rw [a] at hg; cases hg
      have key := arc n u a k ws y hk hy (xs.map .e) (by simpa using c) (fun i z hz => by
        simp only [List.getElem?_map, Option.map_eq_some_iff] at hz
        obtain ⟨q, hq, rfl⟩ := hz
        exact .e (d i q hq))
      cases y with
      | e z =>
        simp only [Den.putChild]
        obtain ⟨b', c', d'⟩ := key.arr_inv a
        refine .e (.arr a b' (by simpa using c) fun i q hq => (d' i (.e q) ?_).rd)
        rw [← List.map_set, List.getElem?_map, hq]; rfl
      | _ => exact key
    | _ a => exact ⟨fun gs hg => (by rw [a] at hg; cases hg), fun n u hg => (by rw [a] at hg; cases hg)⟩
  | @st t fs cs xs a b c d =>
    refine ⟨fun gs hg k f ws y hf hy => ?_, fun n u hg => (by rw [a] at hg; cases hg)⟩
    rw [a] at hg; cases hg
    exact stc fs a k f ws y hf hy xs c d
  | @arr t n u cs xs a b c d =>
    refine ⟨fun gs hg => (by rw [a] at hg; cases hg), fun m v hg k ws y hk hy => ?_⟩
    rw [a] at hg; cases hg
    exact arc n u a k ws y hk hy xs c d
  | _ a => exact ⟨fun gs hg => (by rw [a] at hg; cases hg), fun n u hg => (by rw [a] at hg; cases hg)⟩

include hT in
theorem TRel.put {H : Gh} {β σ} : ∀ {p : List Nat} {t cs x o u ws y}, TRel tb H β σ t cs x → offT tb t p = some (o, u) → TRel tb H β σ u ws y → TRel tb H β σ t (splice cs o ws) (setT p y x)
  | [], t, cs, x, o, u, ws, y, r, h, hy => by
    simp [offT] at h; obtain ⟨rfl, rfl⟩ := h
    rw [splice_all (by rw [r.len hT, hy.len hT])]; exact hy
  | k :: rest, t, cs, x, o, u, ws, y, r, h, hy => by
    unfold offT at h
    split at h
    · rename_i fs ht
      split at h
      · rename_i f hf
        cases ho : offT tb f.1 rest with
        | none => simp [ho] at h
        | some q =>
          simp [ho] at h; obtain ⟨rfl, rfl⟩ := h
          have hc := r.child.1 fs ht k f hf
          have hle := offT_le hT (o := q.1) (u := q.2) ho
          have hfs := (fieldsEnd_spec (hT.sz_st ht)).2 k f hf
          have hlen := r.len hT
          have hw := hy.len hT
          have h1 := TRel.put hc (o := q.1) (u := q.2) ho hy
          have h2 := (r.putChild hT).1 fs ht k f _ _ hf h1
          rw [← seg_splice_in (by omega) (by omega)] at h2
          have : splice cs f.2 (seg (splice cs (f.2 + q.1) ws) f.2 (sz tb f.1)) = splice cs (f.2 + q.1) ws := by
            apply List.ext_getElem?
            intro j
            have hsl : (seg (splice cs (f.2 + q.1) ws) f.2 (sz tb f.1)).length = sz tb f.1 := seg_length (by rw [splice_length (by omega)]; omega)
            rw [splice_get (by omega), hsl, splice_get (by omega)]
            by_cases h1 : j < f.2
            · rw [if_pos h1, if_pos (by omega)]
            · rw [if_neg h1]
              by_cases h2 : j < f.2 + sz tb f.1
              · rw [if_pos h2, seg_get (by omega), splice_get (by omega), show f.2 + (j - f.2) = j by omega]
              · rw [if_neg h2, if_neg (by omega), if_neg (by omega)]
          rw [this] at h2
          exact h2
      · cases h
    · rename_i n v ht
      split at h
      · rename_i hk
        cases ho : offT tb v rest with
        | none => simp [ho] at h
        | some q =>
          simp [ho] at h; obtain ⟨rfl, rfl⟩ := h
          have hc := r.child.2 n v ht k hk
          have hle := offT_le hT (o := q.1) (u := q.2) ho
          have hlen := r.len hT
          have hw := hy.len hT
          have hsz := hT.sz_arr ht
          have hfs : k * sz tb v + sz tb v ≤ n * sz tb v := by
            have := Nat.mul_le_mul_right (sz tb v) (show k + 1 ≤ n from hk); rwa [Nat.add_mul, Nat.one_mul] at this
          have h1 := TRel.put hc (o := q.1) (u := q.2) ho hy
          have h2 := (r.putChild hT).2 n v ht k _ _ hk h1
          rw [← seg_splice_in (by omega) (by omega)] at h2
          have : splice cs (k * sz tb v) (seg (splice cs (k * sz tb v + q.1) ws) (k * sz tb v) (sz tb v)) = splice cs (k * sz tb v + q.1) ws := by
            apply List.ext_getElem?
            intro j
            have hsl : (seg (splice cs (k * sz tb v + q.1) ws) (k * sz tb v) (sz tb v)).length = sz tb v := seg_length (by rw [splice_length (by omega)]; omega)
            rw [splice_get (by omega), hsl, splice_get (by omega)]
            by_cases h1 : j < k * sz tb v
            · rw [if_pos h1, if_pos (by omega)]
            · rw [if_neg h1]
              by_cases h2 : j < k * sz tb v + sz tb v
              · rw [if_pos h2, seg_get (by omega), splice_get (by omega), show k * sz tb v + (j - k * sz tb v) = j by omega]
              · rw [if_neg h2, if_neg (by omega), if_neg (by omega)]
          rw [this] at h2
          exact h2
      · cases h
    · cases h

end Go.Den
