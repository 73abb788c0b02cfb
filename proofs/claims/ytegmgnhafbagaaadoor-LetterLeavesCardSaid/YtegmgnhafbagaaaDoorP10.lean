/- The calculus and the walks, part 10: Q9dG0, Q9dG, Q9dGL, Q9dH, Q9dHX. -/
import Derived.Test.YtegmgnhafbagaaaDoorP9
import Derived.Test.YtegmgnhafbagaaaDoorP8
/- The log of the document's answer: its entries, as lists of bytes. -/
namespace Go.Den.Q9d.Lg
open Go Go.Den Go.Proofs Go.Den.Q9d
set_option maxRecDepth 8000
set_option linter.unusedVariables false
set_option linter.unusedSimpArgs false

abbrev Bs := List UInt8
/-- What stands at a digest. -/
def getM (d : Bs) : List (Bs × List Bs) → List Bs
  | [] => []
  | (k, v) :: M => if d = k then v else getM d M
/-- A text more at a digest. -/
def putM (d s : Bs) : List (Bs × List Bs) → List (Bs × List Bs)
  | [] => [(d, [s])]
  | (k, v) :: M => if d = k then (k, v ++ [s]) :: M else (k, v) :: putM d s M
def entL (M : List (Bs × List Bs)) : List Ent := M.map fun p => (Sh.dgE p.1, p.2.map E.str, true)

theorem dgE_eq (a b : Bs) : eqE (Sh.dgE a) (Sh.dgE b) = decide (a = b) := by
  have h : ∀ l : Bs, Sh.dgE l = .agg ((l.map fun x => (x.toNat : Int)).map .int) := fun l => by
    simp [Sh.dgE, byteE]
  rw [h, h]
  simp only [eqE, eqEs_int]
  apply decide_eq_decide.2
  refine ⟨fun e => ?_, fun e => by rw [e]⟩
  have hi : Function.Injective fun x : UInt8 => (x.toNat : Int) := fun x y e => by
    have e' : (x.toNat : Int) = (y.toNat : Int) := e
    have : x.toNat = y.toNat := by omega
    exact UInt8.toNat_inj.1 this
  exact (List.map_inj_right fun x y e => hi e).1 e

theorem idx_none {d : Bs} : ∀ {M : List (Bs × List Bs)} {i : Nat}, mpIdx (Sh.dgE d) (entL M) i = none → getM d M = [] ∧ ∀ s, putM d s M = M ++ [(d, [s])]
  | [], i, h => ⟨rfl, fun s => rfl⟩
  | (k, v) :: M, i, h => by
    simp only [entL, List.map_cons, mpIdx, dgE_eq] at h
    split at h
    · cases h
    · rename_i he
      have hne : ¬ d = k := by simpa using he
      obtain ⟨h1, h2⟩ := idx_none (M := M) h
      exact ⟨by simp [getM, hne, h1], fun s => by simp [putM, hne, h2 s]⟩
theorem idx_some {d : Bs} : ∀ {M : List (Bs × List Bs)} {i j : Nat}, mpIdx (Sh.dgE d) (entL M) i = some j → i ≤ j ∧ M[j - i]? = some (d, getM d M) ∧ ∀ s, putM d s M = M.set (j - i) (d, getM d M ++ [s])
  | [], i, j, h => by simp [entL, mpIdx] at h
  | (k, v) :: M, i, j, h => by
    simp only [entL, List.map_cons, mpIdx, dgE_eq] at h
    split at h
    · rename_i he
      have hd : d = k := by simpa using he
      subst hd; cases h
      exact ⟨Nat.le_refl _, by simp [getM], fun s => by simp [putM, getM]⟩
    · rename_i he
      have hne : ¬ d = k := by simpa using he
      obtain ⟨h0, h1, h2⟩ := idx_some (M := M) h
      refine ⟨by omega, ?_, fun s => ?_⟩
      · rw [show j - i = (j - (i + 1)) + 1 by omega]; simp [getM, hne, h1]
      · rw [show j - i = (j - (i + 1)) + 1 by omega]; simp [putM, getM, hne, h2 s]

theorem get_ent (d : Bs) (M : List (Bs × List Bs)) : mpGet (entL M) (Sh.dgE d) = (getM d M).map E.str := by
  unfold mpGet
  cases h : mpIdx (Sh.dgE d) (entL M) 0 with
  | none => simp [(idx_none h).1]
  | some j =>
    obtain ⟨_, h1, _⟩ := idx_some h
    rw [Nat.sub_zero] at h1
    simp [entL, h1]
theorem out_len (d : Bs) (M : List (Bs × List Bs)) : mpSlot (entL M) (Sh.dgE d) < (mpOut (entL M) (Sh.dgE d)).length := by
  unfold mpSlot mpOut
  cases h : mpIdx (Sh.dgE d) (entL M) 0 with
  | none => simp
  | some j =>
    obtain ⟨_, h1, _⟩ := idx_some h
    rw [Nat.sub_zero] at h1
    have := (List.getElem?_eq_some_iff.1 h1).1
    simp [entL, this]
theorem put_ent (d s : Bs) (M : List (Bs × List Bs)) : (mpOut (entL M) (Sh.dgE d)).set (mpSlot (entL M) (Sh.dgE d)) ((((mpOut (entL M) (Sh.dgE d))[mpSlot (entL M) (Sh.dgE d)]?).map (·.1)).getD .nilp, (getM d M).map E.str ++ [E.str s], true) = entL (putM d s M) := by
  unfold mpSlot mpOut
  rw [get_ent]
  cases h : mpIdx (Sh.dgE d) (entL M) 0 with
  | none =>
    obtain ⟨h1, h2⟩ := idx_none h
    rw [h1, h2 s]
    simp [entL]
  | some j =>
    obtain ⟨_, h1, h2⟩ := idx_some h
    rw [Nat.sub_zero] at h1 h2
    have hj := (List.getElem?_eq_some_iff.1 h1).1
    rw [h2 s]
    have he : (entL M)[j]? = some (Sh.dgE d, (getM d M).map E.str, true) := by simp [entL, h1]
    simp only [Option.getD_some, he, Option.map_some, List.set_set]
    rw [List.getElem?_set_self (by simpa [entL] using hj)]
    simp [entL, List.map_set]
end Go.Den.Q9d.Lg
/- The log of the document's answer, walked: new, noted in, asked. -/
namespace Go.Den.Q9d.Lg
open Go Go.Den Go.Proofs Go.Den.Q9d
set_option maxRecDepth 8000
set_option linter.unusedVariables false
set_option linter.unusedSimpArgs false

/-- The blocks of a log. -/
def lgB (I : List Bs) (M : List (Bs × List Bs)) : List Blk := [.tree 63 (.st [.lsl 1 (I.map E.str), .mp 2]), .row 9 (I.map E.str).length, .mp 37 9 (entL M)]

theorem rnew_ok : FnG Tryd.prog tb 17 [] [] (fun d s => d = .ptr 0 [] ∧ s = lgB [] []) := by
  refine FnG_of_V (fn := Tryd.f17) (bt := 4) true [1, 2, 0] [41] (ok 0 _) Tryd.func17 rfl rfl rfl fun _ _ _ _ _ _ => ?_
  apply V_of_VX
  refine VX_go4 (fs := []) (ok 0 _) eqs trivial 100 [1] rfl trivial ?_
  refine VX_op rfl rfl (OpF_makeMap (ts := []) (ok 0 _) (k := 37) (u := 60) (e := 9) rfl rfl rfl).v ?_
  rintro d s ⟨rfl, rfl⟩
  refine VX_go4 (fs := []) (ok 0 _) eqs trivial 100 [0] rfl trivial ?_
  refine VX_promT (ok 0 _) rfl 1 [0] rfl rfl rfl rfl rfl ?_
  refine VX_go4 (fs := []) (ok 0 _) eqs trivial 100 [] rfl trivial ?_
  exact ⟨.inr rfl, _, _, _, rfl, rfl, rfl, rfl, rfl⟩

theorem clash_ok (I : List Bs) (M : List (Bs × List Bs)) (hI : I.length ≤ 100000) (hM : M.length ≤ 100000) : FnG Tryd.prog tb 18 (lgB I M) [.ptr 0 []] (fun d s => d = .t 4 (.e (.bool (decide (M.length < I.length)))) ∧ s = lgB I M) := by
  refine FnG_of_V (fn := Tryd.f18) (bt := 4) true [] [4] (ok 3 _) Tryd.func18 rfl rfl rfl fun _ _ _ _ _ _ => ?_
  apply V_of_VX
  refine VX_go4 (fs := []) (ok 3 _) eqs trivial 100 [] rfl trivial ?_
  refine VX_draw [] [(0, true), (1, true), (2, true), (3, true), (4, true), (5, true), (6, true), (8, true), (9, true), (10, true), (11, true), (12, true), (7, false), (13, true), (14, true), (15, true)] mixed (by kernel_rfl) (by kernel_rfl) (by kernel_rfl) ?_
  refine VX_go4 (fs := []) (ok 3 _) eqs trivial 100 [10] rfl ?_ ?_
  · simp [allP, maxN]
  refine VX_opO rfl rfl rfl (OpF_lenMp (ok 3 _) (i := 2) (k := 37) (e := 9) (es := entL M) rfl rfl rfl rfl rfl (by simp [entL, maxN]; omega)) ?_ (by kernel_rfl)
  rintro d s ⟨rfl, rfl⟩
  refine VX_go4 (fs := []) (ok 3 _) eqs trivial 100 [] rfl trivial ?_
  refine ⟨.inr rfl, _, _, _, rfl, rfl, rfl, ?_, rfl⟩
  simp [entL, oneD]

def noteI (d s : Bs) (I : List Bs) (M : List (Bs × List Bs)) : List Bs := if s ∈ getM d M then I else I ++ [s]
def noteM (d s : Bs) (M : List (Bs × List Bs)) : List (Bs × List Bs) := if s ∈ getM d M then M else putM d s M

theorem note_lg (d s : Bs) (I : List Bs) (M : List (Bs × List Bs)) (hI : I.length ≤ 100000) (hM : M.length ≤ 100000) (hg : (getM d M).length ≤ 100000) :
    FnG Tryd.prog tb 48 (lgB I M) [.ptr 0 [], .t 37 (.e (Sh.dgE d)), .t 9 (.e (.str s))] (fun r t => r = .tup [] ∧ t = lgB (noteI d s I M) (noteM d s M)) := by
  refine FnG_of_V (fn := Tryd.f48) (bt := 4) true [] [] (ok 3 _) Tryd.func48 rfl rfl rfl fun _ _ _ _ _ _ => ?_
  apply V_of_VX
  have g1 := get_ent d M
  have g2 : (entL M).length = M.length := by simp [entL]
  have g3 : ∀ x ∈ entL M, x.2.2 = true := fun x hx => by simp only [entL, List.mem_map] at hx; obtain ⟨p, _, rfl⟩ := hx; rfl
  have g4 := out_len d M
  have g5 := put_ent d s M
  unfold noteI noteM lgB
  generalize hE : entL M = E0 at g1 g2 g3 g4 g5 ⊢
  generalize hD : Sh.dgE d = D0 at g1 g4 g5 ⊢
  refine VX_go4 (fs := []) (ok 3 _) eqs trivial 100 [] rfl trivial ?_
  refine VX_draw [] [(0, true), (1, true), (2, true), (3, true), (4, true), (7, true), (5, false), (6, true)] mixed (by kernel_rfl) (by kernel_rfl) (by kernel_rfl) ?_
  refine VX_go4 (fs := []) (ok 3 _) eqs trivial 100 [15] rfl trivial ?_
  refine VX_lookupO (ok 3 _) rfl rfl rfl rfl rfl rfl (by kernel_rfl) (by kernel_rfl) rfl rfl rfl rfl rfl rfl g1 ?_ (by kernel_rfl)
  generalize hL : getM d M = L at hg g1 g5 ⊢
  refine VX_go4 (fs := []) (ok 3 _) eqs trivial 100 [] rfl trivial ?_
  refine VX_loopA (fun i : Nat => i ≤ L.length ∧ (s ∈ L.drop i ↔ s ∈ L)) (fun i => [(17, .t 3 (.e (.int i))), (16, .t 3 (.e (.int L.length))), (15, .t 60 (.e (.sl (L.map .str)))), (0, .ptr 0 []), (2, .t 9 (.e (.str s))), (4, .ptr 3 [])])
    (fun _ => [.tree 63 (.st [.lsl 1 (I.map E.str), .mp 2]), .row 9 (I.map E.str).length, .mp 37 9 E0, .tree 37 (.e D0)]) (fun i => L.length - i) 0 ⟨by simp, by simp⟩ ?_ ?_
  · exact wk0 rfl (by simp [Blk.under, T.under, T.unders]) (lc (ls rfl rfl) (lc (li (by simp)) (lc (ls rfl rfl) (lc (ls rfl rfl) (lc (ls rfl rfl) (lc (ls rfl rfl) lnil))))))
  · rintro i ⟨hi, hs⟩
    refine VX_go4 (fs := []) (ok 3 _) eqs trivial 100 [] rfl trivial ?_
    refine VX_split 18 rfl rfl (fun h => ?_) (fun h => ?_)
    · have hi : i < L.length := by simpa using h
      have hd1 : L.drop i = L[i] :: L.drop (i + 1) := List.drop_eq_getElem_cons hi
      have hgE : (L.map E.str).getD i .nilp = .str L[i] := by simp [List.getD, hi]
      refine VX_go4 (fs := []) (ok 3 _) eqs trivial 100 [7] rfl (by simp [allP]; omega) ?_
      refine VX_eq 20 rfl rfl (d' := .t 9 (.e (.str L[i]))) (congrArg (fun x => D.t 9 (.e x)) hgE) ?_
      refine VX_go4 (fs := []) (ok 3 _) eqs trivial 100 [] rfl trivial ?_
      rw [hd1, List.mem_cons] at hs
      refine VX_split 23 rfl rfl (fun h => ?_) (fun h => ?_)
      · have he : s ∈ L := by simp at h; exact hs.1 (.inl h.symm)
        refine VX_go4 (fs := []) (ok 3 _) eqs trivial 100 [] rfl trivial ?_
        rw [if_pos he, if_pos he, hE]
        exact loop_ret ⟨.inr rfl, _, _, _, rfl, rfl, rfl, rfl, rfl⟩
      · have he : ¬ s = L[i] := by simp at h; exact fun e => h e.symm
        refine VX_go4 (fs := []) (ok 3 _) eqs trivial 100 [] rfl trivial ?_
        refine loop_nrm ⟨i + 1, by omega, ⟨by omega, ⟨fun h => hs.1 (.inr h), fun h => (hs.2 h).resolve_left he⟩⟩, ?_⟩
        exact wk0 rfl (by simp [Blk.under, T.under, T.unders]) (lc (li (by rw [w64 (by omega) (by omega)]; simp)) (lc (ls rfl rfl) (lc (ls rfl rfl) (lc (ls rfl rfl) (lc (ls rfl rfl) (lc (ls rfl rfl) lnil))))))
    · have hi' : i = L.length := by simp at h; omega
      have hno : s ∉ L := by rw [← hs, hi', List.drop_length]; simp
      rw [if_neg hno, if_neg hno]
      refine VX_go4 (fs := []) (ok 3 _) eqs trivial 100 [] rfl trivial ?_
      apply loop_brk
      refine VX_go4 (fs := []) (ok 3 _) eqs trivial 100 [] rfl trivial ?_
      refine VX_draw [2, 4] [(0, true), (1, true), (2, true), (3, true), (4, true), (5, true), (6, false), (7, false), (8, true), (10, true), (9, false), (11, false)] mixed (by kernel_rfl) (by kernel_rfl) (by kernel_rfl) ?_
      refine VX_go4 (fs := []) (ok 3 _) eqs trivial 100 [32] rfl trivial ?_
      refine VX_litO (ok 3 _) rfl rfl rfl rfl rfl ?_ (by kernel_rfl)
      generalize hJ : mpSlot E0 D0 = J at g4 g5
      generalize hS : mpOut E0 D0 = S at g4 g5
      refine VX_mapEntryO (ok 3 _) 3 4 rfl rfl rfl rfl rfl rfl (by kernel_rfl) (by kernel_rfl) rfl rfl rfl rfl rfl rfl rfl g3 (by rw [g2]; unfold maxN; omega) (by decide) rfl g1 hJ hS rfl ?_ (by kernel_rfl)
      refine VX_go4 (fs := []) (ok 3 _) eqs trivial 100 [34] rfl trivial ?_
      refine VX_appendO (ok 3 _) rfl rfl rfl rfl rfl (by simp [nb, tb, maxL]; omega) rfl ?_ (by kernel_rfl)
      refine VX_entryStoreO (ok 3 _) rfl rfl rfl rfl rfl rfl rfl rfl rfl rfl g4 rfl rfl rfl rfl (by decide) (by decide) g5 rfl ?_ (by kernel_rfl)
      refine VX_go4 (fs := []) (ok 3 _) eqs trivial 100 [] rfl ?_ ?_
      · simp [allP, nb, tb, maxL]; omega
      refine ⟨.inl rfl, _, _, _, rfl, rfl, rfl, rfl, ?_⟩
      simp
end Go.Den.Q9d.Lg
/- The log as a state: noting, and what a log that does not clash tells. -/
namespace Go.Den.Q9d.Lg
open Go Go.Den Go.Proofs Go.Den.Q9d
set_option maxRecDepth 8000
set_option linter.unusedVariables false
set_option linter.unusedSimpArgs false

/-- A log: its inputs, and what stands at each digest. -/
abbrev Log := List Bs × List (Bs × List Bs)
def logB (q : Log) : List Blk := lgB q.1 q.2
def noteL (d s : Bs) (q : Log) : Log := (noteI d s q.1 q.2, noteM d s q.2)
def clashL (q : Log) : Bool := decide (q.2.length < q.1.length)

/-- All that is kept. -/
def total : List (Bs × List Bs) → Nat
  | [] => 0
  | p :: M => p.2.length + total M
/-- Nothing stands twice or at no place. -/
structure LInv (q : Log) : Prop where
  ne : ∀ p ∈ q.2, p.2 ≠ []
  tot : q.1.length = total q.2
theorem total_ge {M : List (Bs × List Bs)} (h : ∀ p ∈ M, p.2 ≠ []) : M.length ≤ total M := by
  induction M with
  | nil => simp [total]
  | cons p M ih =>
    have h1 := ih fun p hp => h p (by simp [hp])
    have h2 : 0 < p.2.length := List.length_pos_iff.2 (h p (by simp))
    simp only [total, List.length_cons]; omega
theorem getM_le (d : Bs) : ∀ M : List (Bs × List Bs), (getM d M).length ≤ total M
  | [] => by simp [getM, total]
  | (k, v) :: M => by
    simp only [getM, total]
    split
    · omega
    · have := getM_le d M; omega
theorem total_put (d s : Bs) : ∀ M : List (Bs × List Bs), total (putM d s M) = total M + 1
  | [] => by simp [putM, total]
  | (k, v) :: M => by
    simp only [putM, total]
    split
    · simp [total]; omega
    · simp only [total, total_put d s M]; omega
theorem put_ne (d s : Bs) : ∀ {M : List (Bs × List Bs)}, (∀ p ∈ M, p.2 ≠ []) → ∀ p ∈ putM d s M, p.2 ≠ []
  | [], _, p, hp => by simp [putM] at hp; subst hp; simp
  | (k, v) :: M, h, p, hp => by
    simp only [putM] at hp
    split at hp
    · simp only [List.mem_cons] at hp
      rcases hp with rfl | hp
      · simp
      · exact h p (by simp [hp])
    · simp only [List.mem_cons] at hp
      rcases hp with rfl | hp
      · exact h _ (by simp)
      · exact put_ne d s (fun p hp => h p (by simp [hp])) p hp
theorem LInv.nil : LInv ([], []) := ⟨by simp, rfl⟩
theorem LInv.note {q : Log} (h : LInv q) (d s : Bs) : LInv (noteL d s q) := by
  unfold noteL noteI noteM
  split
  · exact h
  · exact ⟨put_ne d s h.ne, by simp [total_put, h.tot]⟩
theorem noteL_len (d s : Bs) (q : Log) : (noteL d s q).1.length ≤ q.1.length + 1 := by
  unfold noteL noteI; split <;> simp
theorem getM_put (d s d' : Bs) : ∀ M : List (Bs × List Bs), getM d' (putM d s M) = if d' = d then getM d M ++ [s] else getM d' M
  | [] => by by_cases h : d' = d <;> simp [putM, getM, h]
  | (k, v) :: M => by
    simp only [putM]
    by_cases hk : d = k
    · subst hk
      by_cases h : d' = d
      · simp [getM, h]
      · simp [getM, h]
    · rw [if_neg hk]
      simp only [getM, getM_put d s d' M]
      by_cases h : d' = d
      · subst h; simp [hk]
      · simp [h]
/-- What was noted stands in the log, then and later. -/
def has (q : Log) (d s : Bs) : Prop := s ∈ getM d q.2
theorem has_note (q : Log) (d s : Bs) : has (noteL d s q) d s := by
  unfold has noteL noteM
  split
  · assumption
  · rw [getM_put]; simp
theorem has_mono {q : Log} {d s : Bs} (h : has q d s) (d' s' : Bs) : has (noteL d' s' q) d s := by
  unfold has noteL noteM at *
  split
  · exact h
  · rw [getM_put]; split
    · rename_i e; rw [e] at h; simp [h]
    · exact h
theorem LInv.fine {q : Log} (h : LInv q) (hc : clashL q = false) : ∀ p ∈ q.2, p.2.length = 1 := by
  have hle : total q.2 ≤ q.2.length := by
    have := h.tot
    simp [clashL] at hc; omega
  have key : ∀ M : List (Bs × List Bs), (∀ p ∈ M, p.2 ≠ []) → total M ≤ M.length → ∀ p ∈ M, p.2.length = 1 := by
    intro M
    induction M with
    | nil => intro _ _ p hp; simp at hp
    | cons x M ih =>
      intro hn hl p hp
      have h1 := total_ge (M := M) fun p hp => hn p (by simp [hp])
      have h2 : 0 < x.2.length := List.length_pos_iff.2 (hn x (by simp))
      simp only [total, List.length_cons] at hl
      rcases List.mem_cons.1 hp with rfl | hp
      · omega
      · exact ih (fun p hp => hn p (by simp [hp])) (by omega) p hp
  exact key q.2 h.ne hle
theorem getM_mem {d s : Bs} : ∀ {M : List (Bs × List Bs)}, s ∈ getM d M → ∃ p ∈ M, p.2 = getM d M
  | [], h => by simp [getM] at h
  | (k, v) :: M, h => by
    simp only [getM] at h ⊢
    by_cases hk : d = k
    · rw [if_pos hk]; exact ⟨(k, v), by simp, rfl⟩
    · rw [if_neg hk] at h ⊢
      obtain ⟨p, h1, h2⟩ := getM_mem h
      exact ⟨p, by simp [h1], h2⟩
/-- A log that does not clash: one input a digest. -/
theorem LInv.one {q : Log} (h : LInv q) (hc : clashL q = false) {d s s' : Bs} (h1 : has q d s) (h2 : has q d s') : s = s' := by
  obtain ⟨p, hp, he⟩ := getM_mem h1
  have := h.fine hc p hp
  rw [he] at this
  unfold has at h1 h2
  match hg : getM d q.2 with
  | [] => rw [hg] at this; simp at this
  | [x] => rw [hg] at h1 h2; simp at h1 h2; rw [h1, h2]
  | _ :: _ :: _ => rw [hg] at this; simp at this

theorem LInv.bounds {q : Log} (h : LInv q) {n : Nat} (hn : q.1.length ≤ n) (d : Bs) : q.2.length ≤ n ∧ (getM d q.2).length ≤ n := by
  have h1 := total_ge h.ne
  have h2 := getM_le d q.2
  have h3 := h.tot
  omega

theorem noteL_ok (d s : Bs) (q : Log) (hq : LInv q) (hl : q.1.length ≤ 100000) : FnG Tryd.prog tb 48 (logB q) [.ptr 0 [], .t 37 (.e (Sh.dgE d)), .t 9 (.e (.str s))] (fun r t => r = .tup [] ∧ t = logB (noteL d s q)) :=
  note_lg d s q.1 q.2 hl (hq.bounds hl d).1 (hq.bounds hl d).2
theorem clashL_ok (q : Log) (hq : LInv q) (hl : q.1.length ≤ 100000) : FnG Tryd.prog tb 18 (logB q) [.ptr 0 []] (fun d s => d = .t 4 (.e (.bool (clashL q))) ∧ s = logB q) :=
  clash_ok q.1 q.2 hl (hq.bounds hl []).1

/-- What a log is after an input of a domain and parts. -/
def ofL (x : UInt8) (ps : List Bs) (q : Log) : Log := noteL (Dg.ofB x ps) (Dg.inputB x ps) q
theorem rof_lg (x : UInt8) (ps : List Bs) (q : Log) (hq : LInv q) (hlq : q.1.length ≤ 100000) (hl : (Dg.inputB x ps).length ≤ 400000) :
    FnG Tryd.prog tb 32 (logB q) [.ptr 0 [], .t 5 (.e (byteE x)), .t 60 (.e (.sl (ps.map E.str)))] (fun r t => r = .t 37 (.e (Sh.dgE (Dg.ofB x ps))) ∧ t = logB (ofL x ps q)) := by
  refine FnG_of_V (fn := Tryd.f32) (bt := 4) true [] [37] (ok 3 _) Tryd.func32 rfl rfl rfl fun _ _ _ _ _ _ => ?_
  apply V_of_VX
  unfold ofL Dg.ofB
  have c1 := (Dg.rinput_ok x ps (by omega)).g
  generalize Dg.inputB x ps = I at hl c1 ⊢
  have c2 := (Sh.rsum_ok I (by omega)).g
  generalize Sh.shaB I = d at c2 ⊢
  have c3 := noteL_ok d I q hq hlq
  generalize hL : noteL d I q = q' at c3 ⊢
  unfold logB lgB at c3 ⊢
  generalize hE : entL q.2 = E0 at c3 ⊢
  generalize hE' : entL q'.2 = E1 at c3 ⊢
  generalize q.1.map E.str = I0 at c3 ⊢
  generalize q'.1.map E.str = I1 at c3 ⊢
  refine VX_go4 (fs := []) (ok 3 _) eqs trivial 100 [] rfl trivial ?_
  refine VX_callD (ok 3 _) [5, 60] [] rfl rfl rfl rfl rfl rfl c1 rfl rfl rfl ?_
  refine VX_go4 (fs := []) (ok 3 _) eqs trivial 100 [] rfl trivial ?_
  refine VX_callD (ok 3 _) [9] [] rfl rfl rfl rfl rfl rfl c2 rfl rfl rfl ?_
  refine VX_go4 (fs := []) (ok 3 _) eqs trivial 100 [] rfl trivial ?_
  refine VX_callD (ok 3 _) [41, 37, 9] [0, 1, 2] rfl rfl rfl rfl rfl rfl c3 rfl rfl rfl ?_
  refine VX_go4 (fs := []) (ok 3 _) eqs trivial 100 [] rfl trivial ?_
  exact ⟨.inr rfl, _, _, _, rfl, rfl, rfl, rfl, rfl⟩
end Go.Den.Q9d.Lg
/- Law 09: LetterLeaves. -/
namespace Go.Den.Q9d
open Go Go.Den Go.Proofs Go.Den.Q9d.Wi
set_option maxRecDepth 8000
set_option linter.unusedVariables false
set_option linter.unusedSimpArgs false

theorem rleaf_lg (q : Lg.Log) (hq : Lg.LInv q) (hlq : q.1.length ≤ 100000) (a b c : Nat) (s r y : List UInt8) (ha : a < 4294967296) (hb : b < 4294967296) (hc : c < 4294967296) (hs : s.length ≤ 20000) (hr : r.length ≤ 20000) (hy : y.length ≤ 20000) :
    FnG Tryd.prog tb 15 (Lg.logB q) [.ptr 0 [], .t 24 (.e (ltE a b c s r y))] (fun d t => d = .t 37 (.e (Sh.dgE (leafB a b c s r y))) ∧ t = Lg.logB (Lg.ofL 5 [plainB a b c s r y] q)) := by
  refine FnG_of_V (fn := Tryd.f15) (bt := 4) true [] [37] (ok 3 _) Tryd.func15 rfl rfl rfl fun _ _ _ _ _ _ => ?_
  have c1 := (rplain_ok a b c s r y ha hb hc hs hr hy).g
  have c2 := Lg.rof_lg 5 [plainB a b c s r y] q hq hlq (plain_len a b c s r y hs hr hy)
  unfold leafB
  generalize Dg.ofB 5 [plainB a b c s r y] = d at c2 ⊢
  generalize Lg.ofL 5 [plainB a b c s r y] q = q' at c2 ⊢
  generalize plainB a b c s r y = P at c1 c2
  unfold Lg.logB Lg.lgB at c2 ⊢
  generalize Lg.entL q.2 = E0 at c2 ⊢
  generalize Lg.entL q'.2 = E1 at c2 ⊢
  generalize q.1.map E.str = I0 at c2 ⊢
  generalize q'.1.map E.str = I1 at c2 ⊢
  apply V_of_VX
  refine VX_go4 (fs := []) (ok 3 _) eqs trivial 100 [] rfl trivial ?_
  refine VX_callD (ok 3 _) [24] [] rfl rfl rfl rfl rfl rfl c1 rfl rfl rfl ?_
  refine VX_go4 (fs := []) (ok 3 _) eqs trivial 100 [] rfl (by simp [allP]) ?_
  refine VX_callD (ok 3 _) [41, 5, 60] [0, 1, 2] rfl rfl rfl rfl rfl rfl c2 rfl rfl rfl ?_
  refine VX_go4 (fs := []) (ok 3 _) eqs trivial 100 [] rfl trivial ?_
  exact ⟨.inr rfl, _, _, _, rfl, rfl, rfl, rfl, rfl⟩

theorem app_inj4 {a b c d : List UInt8} (h : a ++ b = c ++ d) (hl : a.length = c.length) : a = c ∧ b = d := List.append_inj h hl
theorem big4_inj {a b : Nat} (ha : a < 4294967296) (hb : b < 4294967296) (h : bigB a 4 = bigB b 4) : a = b := by
  have h1 := numV_bigB 4 a (by omega)
  have h2 := numV_bigB 4 b (by omega)
  rw [← h1, ← h2, h]
theorem text_inj {s t u v : List UInt8} (hs : s.length < 4294967296) (ht : t.length < 4294967296) (h : textB s ++ u = textB t ++ v) : s = t ∧ u = v := by
  unfold textB at h
  rw [List.append_assoc, List.append_assoc] at h
  obtain ⟨h1, h2⟩ := app_inj4 h (by rw [bigB_length, bigB_length])
  exact app_inj4 h2 (big4_inj hs ht h1)
theorem input1_inj {x : UInt8} {s t : List UInt8} (hs : s.length < 4294967296) (ht : t.length < 4294967296) (h : Dg.inputB x [s] = Dg.inputB x [t]) : s = t := by
  simp only [Dg.inputB, List.map_cons, List.map_nil, List.flatten_cons, List.flatten_nil, List.append_nil] at h
  have h := List.append_cancel_left h
  exact (text_inj (u := []) (v := []) hs ht (by simpa using h)).1
theorem plain_inj {a b c a' b' c' : Nat} {s r y s' r' y' : List UInt8} (ha : a < 4294967296) (hb : b < 4294967296) (hc : c < 4294967296) (ha' : a' < 4294967296) (hb' : b' < 4294967296) (hc' : c' < 4294967296)
    (hs : s.length ≤ 20000) (hr : r.length ≤ 20000) (hy : y.length ≤ 20000) (hs' : s'.length ≤ 20000) (hr' : r'.length ≤ 20000) (hy' : y'.length ≤ 20000) (h : plainB a b c s r y = plainB a' b' c' s' r' y') :
    a = a' ∧ b = b' ∧ c = c' ∧ s = s' ∧ r = r' ∧ y = y' := by
  unfold plainB at h
  simp only [List.append_assoc] at h
  obtain ⟨h1, h⟩ := app_inj4 h (by rw [bigB_length, bigB_length])
  obtain ⟨h2, h⟩ := app_inj4 h (by rw [bigB_length, bigB_length])
  obtain ⟨h3, h⟩ := app_inj4 h (by rw [bigB_length, bigB_length])
  obtain ⟨h4, h⟩ := text_inj (s := s) (t := s') (by omega) (by omega) h
  obtain ⟨h5, h⟩ := text_inj (s := r) (t := r') (by omega) (by omega) h
  obtain ⟨h6, _⟩ := text_inj (s := y) (t := y') (u := []) (v := []) (by omega) (by omega) (by simpa using h)
  exact ⟨big4_inj ha ha' h1, big4_inj hb hb' h2, big4_inj hc hc' h3, h4, h5, h6⟩

set_option maxHeartbeats 3200000 in
theorem law_leaves (x0 x1 : E) : FnOk Tryd.prog tb 4 [24, 24] [4] [x0, x1] [.bool true] := by
  refine FnOk_of_V (fn := Tryd.f4) (bt := 4) (ok 0 _) Tryd.func4 rfl rfl rfl (by decide) fun hw => ?_
  obtain ⟨a, b, c, s, r, y, rfl, ha, hb, hc⟩ := wt_letter (hw 0 _ x0 rfl rfl)
  obtain ⟨a', b', c', s', r', y', rfl, ha', hb', hc'⟩ := wt_letter (hw 1 _ x1 rfl rfl)
  clear hw
  have ca := awake_ok.g
  have c1 := (light_ok a b c s r y).g
  have c2 := (light_ok a' b' c' s' r' y').g
  apply V_of_VX
  refine VX_go4 (fs := []) (ok 0 _) eqs trivial 100 [] rfl trivial ?_
  refine VX_callD (ok 0 _) [] [] rfl rfl rfl rfl rfl rfl ca rfl rfl rfl ?_
  refine VX_go4 (fs := []) (ok 0 _) eqs trivial 100 [] rfl trivial ?_
  refine VX_known 7 false rfl rfl rfl ?_
  refine VX_go4 (fs := []) (ok 0 _) eqs trivial 100 [] rfl trivial ?_
  refine VX_callD (ok 0 _) [24] [] rfl rfl rfl rfl rfl rfl c1 rfl rfl rfl ?_
  refine VX_go4 (fs := []) (ok 0 _) eqs trivial 100 [] rfl trivial ?_
  cases hl1 : lightB s r y with
  | false =>
    refine VX_known 11 true rfl rfl rfl ?_
    refine VX_go4 (fs := []) (ok 0 _) eqs trivial 100 [] rfl trivial ?_
    refine VX_callD (ok 0 _) [] [] rfl rfl rfl rfl rfl rfl ca rfl rfl rfl ?_
    refine VX_go4 (fs := []) (ok 0 _) eqs trivial 100 [] rfl trivial ?_
    exact ⟨.inr rfl, rfl⟩
  | true =>
  refine VX_known 11 false rfl rfl rfl ?_
  refine VX_go4 (fs := []) (ok 0 _) eqs trivial 100 [] rfl trivial ?_
  refine VX_callD (ok 0 _) [24] [] rfl rfl rfl rfl rfl rfl c2 rfl rfl rfl ?_
  refine VX_go4 (fs := []) (ok 0 _) eqs trivial 100 [] rfl trivial ?_
  cases hl2 : lightB s' r' y' with
  | false =>
    refine VX_known 15 true rfl rfl rfl ?_
    refine VX_go4 (fs := []) (ok 0 _) eqs trivial 100 [] rfl trivial ?_
    refine VX_callD (ok 0 _) [] [] rfl rfl rfl rfl rfl rfl ca rfl rfl rfl ?_
    refine VX_go4 (fs := []) (ok 0 _) eqs trivial 100 [] rfl trivial ?_
    exact ⟨.inr rfl, rfl⟩
  | true =>
  refine VX_known 15 false rfl rfl rfl ?_
  have hl1' : (s.length ≤ 2000 ∧ r.length ≤ 2000) ∧ y.length ≤ 2000 := by simpa [lightB] using hl1
  have hl2' : (s'.length ≤ 2000 ∧ r'.length ≤ 2000) ∧ y'.length ≤ 2000 := by simpa [lightB] using hl2
  have i0 : Lg.LInv ([], []) := .nil
  have k1 := rleaf_lg ([], []) i0 (by simp) a b c s r y ha hb hc (by omega) (by omega) (by omega)
  have i1 : Lg.LInv (Lg.ofL 5 [plainB a b c s r y] ([], [])) := i0.note _ _
  have n1 : (Lg.ofL 5 [plainB a b c s r y] ([], [])).1.length ≤ 1 := Lg.noteL_len _ _ _
  have k2 := rleaf_lg _ i1 (by omega) a' b' c' s' r' y' ha' hb' hc' (by omega) (by omega) (by omega)
  have i2 : Lg.LInv (Lg.ofL 5 [plainB a' b' c' s' r' y'] (Lg.ofL 5 [plainB a b c s r y] ([], []))) := i1.note _ _
  have n2 : (Lg.ofL 5 [plainB a' b' c' s' r' y'] (Lg.ofL 5 [plainB a b c s r y] ([], []))).1.length ≤ 2 := Nat.le_trans (Lg.noteL_len _ _ _) (by omega)
  have k3 := Lg.clashL_ok _ i2 (by omega)
  have k4 := (leaf_ok a b c s r y ha hb hc (by omega) (by omega) (by omega)).g
  have k5 := (leaf_ok a' b' c' s' r' y' ha' hb' hc' (by omega) (by omega) (by omega)).g
  have k6 := (same_ok a b c s r y a' b' c' s' r' y').g
  have hsame : leafB a b c s r y = leafB a' b' c' s' r' y' → Lg.clashL (Lg.ofL 5 [plainB a' b' c' s' r' y'] (Lg.ofL 5 [plainB a b c s r y] ([], []))) = false → sameB a b c s r y a' b' c' s' r' y' = true := fun hd hcl => by
    have h1 : Lg.has (Lg.ofL 5 [plainB a' b' c' s' r' y'] (Lg.ofL 5 [plainB a b c s r y] ([], []))) (leafB a' b' c' s' r' y') (Dg.inputB 5 [plainB a' b' c' s' r' y']) := Lg.has_note _ _ _
    have h2 : Lg.has (Lg.ofL 5 [plainB a' b' c' s' r' y'] (Lg.ofL 5 [plainB a b c s r y] ([], []))) (leafB a b c s r y) (Dg.inputB 5 [plainB a b c s r y]) := Lg.has_mono (Lg.has_note _ _ _) _ _
    rw [hd] at h2
    have h3 := i2.one hcl h1 h2
    have hp : ∀ (a b c : Nat) (s r y : List UInt8), s.length ≤ 20000 → r.length ≤ 20000 → y.length ≤ 20000 → (plainB a b c s r y).length < 4294967296 := fun a b c s r y h1 h2 h3 => by
      simp [plainB, textB, bigB_length]; omega
    have h4 := input1_inj (hp _ _ _ _ _ _ (by omega) (by omega) (by omega)) (hp _ _ _ _ _ _ (by omega) (by omega) (by omega)) h3
    obtain ⟨rfl, rfl, rfl, rfl, rfl, rfl⟩ := plain_inj ha' hb' hc' ha hb hc (by omega) (by omega) (by omega) (by omega) (by omega) (by omega) h4
    simp [sameB]
  have hback : sameB a b c s r y a' b' c' s' r' y' = true → leafB a b c s r y = leafB a' b' c' s' r' y' := fun h => by
    simp [sameB] at h
    obtain ⟨rfl, rfl, rfl, rfl, rfl, rfl⟩ := h
    rfl
  generalize sameB a b c s r y a' b' c' s' r' y' = sb at k6 hsame hback
  generalize leafB a b c s r y = lf at k1 k4 hsame hback
  generalize leafB a' b' c' s' r' y' = lf' at k2 k5 hsame hback
  generalize hq2 : Lg.ofL 5 [plainB a' b' c' s' r' y'] (Lg.ofL 5 [plainB a b c s r y] ([], [])) = q2 at k2 k3 hsame
  generalize hq1 : Lg.ofL 5 [plainB a b c s r y] ([], []) = q1 at k1 k2
  have heq := Lg.dgE_eq lf lf'
  have k0 := Lg.rnew_ok
  have e0 : Lg.lgB [] [] = Lg.logB ([], []) := rfl
  rw [e0] at k0
  unfold Lg.logB Lg.lgB at k0 k1 k2 k3
  generalize Lg.entL ([] : List (List UInt8 × List (List UInt8))) = E0 at k0 k1
  generalize Lg.entL q1.2 = E1 at k1 k2
  generalize Lg.entL q2.2 = E2 at k2 k3
  generalize ([] : List (List UInt8)).map E.str = I0 at k0 k1
  generalize q1.1.map E.str = I1 at k1 k2
  generalize q2.1.map E.str = I2 at k2 k3
  generalize Lg.clashL q2 = cl at k3 hsame
  clear i0 i1 i2 n1 n2 hq1 hq2 e0 hl1 hl2 c1 c2
  refine VX_go4 (fs := []) (ok 0 _) eqs trivial 100 [] rfl trivial ?_
  refine VX_callD (ok 0 _) [] [] rfl rfl rfl rfl rfl rfl k0 rfl rfl rfl ?_
  refine VX_go4 (fs := []) (ok 0 _) eqs trivial 100 [] rfl trivial ?_
  refine VX_callD (ok 0 _) [41, 24] [2, 3, 4] rfl rfl rfl rfl rfl rfl k1 rfl rfl rfl ?_
  refine VX_go4 (fs := []) (ok 0 _) eqs trivial 100 [] rfl trivial ?_
  refine VX_callD (ok 0 _) [41, 24] [2, 3, 4] rfl rfl rfl rfl rfl rfl k2 rfl rfl rfl ?_
  refine VX_go4 (fs := []) (ok 0 _) eqs trivial 100 [] rfl trivial ?_
  refine VX_draw [2, 3, 4] [(0, false), (1, true), (2, true), (4, true), (3, false), (5, false), (6, true), (7, true), (8, true), (9, true), (10, false), (11, true), (12, true), (13, true), (14, false), (15, true), (16, true), (17, true), (18, true), (19, true), (20, false), (21, true), (22, true), (23, true), (25, true), (24, false), (26, false), (27, true), (28, true), (29, true), (30, true)] mixed (by kernel_rfl) (by kernel_rfl) (by kernel_rfl) ?_
  refine VX_callO (ok 0 _) [] [] rfl rfl rfl rfl rfl rfl rfl rfl ca rfl rfl rfl ?_
  refine VX_go4 (fs := []) (ok 0 _) eqs trivial 100 [] rfl trivial ?_
  refine VX_known 25 true rfl rfl rfl ?_
  refine VX_go4 (fs := []) (ok 0 _) eqs trivial 100 [] rfl trivial ?_
  refine VX_callO (ok 0 _) [57, 24] [] rfl rfl rfl rfl rfl rfl rfl rfl k4 rfl rfl rfl ?_
  refine VX_callO (ok 0 _) [57, 24] [] rfl rfl rfl rfl rfl rfl rfl rfl k5 rfl rfl rfl ?_
  refine VX_go4 (fs := []) (ok 0 _) eqs trivial 100 [] rfl trivial ?_
  by_cases hd : lf = lf'
  · have heq' : eqE (Sh.dgE lf) (Sh.dgE lf') = true := by rw [heq]; simp [hd]
    have hfin : (sb || cl) = true := by
      cases cl with
      | true => simp
      | false => simp [hsame hd rfl]
    refine VX_known 31 false rfl rfl (by rw [heq']; rfl) ?_
    refine VX_go4 (fs := []) (ok 0 _) eqs trivial 100 [] rfl trivial ?_
    refine VX_callO (ok 0 _) [24, 24] [] rfl rfl rfl rfl rfl rfl rfl rfl k6 rfl rfl rfl ?_
    cases sb with
    | true =>
      refine VX_go4 (fs := []) (ok 0 _) eqs trivial 100 [] rfl trivial ?_
      refine VX_known 36 true rfl rfl rfl ?_
      refine VX_go4 (fs := []) (ok 0 _) eqs trivial 100 [] rfl trivial ?_
      refine VX_callO (ok 0 _) [24, 24] [] rfl rfl rfl rfl rfl rfl rfl rfl k6 rfl rfl rfl ?_
      refine VX_go4 (fs := []) (ok 0 _) eqs trivial 100 [] rfl trivial ?_
      refine VX_known 46 false rfl rfl rfl ?_
      refine VX_go4 (fs := []) (ok 0 _) eqs trivial 100 [] rfl trivial ?_
      refine VX_callO (ok 0 _) [57, 24] [] rfl rfl rfl rfl rfl rfl rfl rfl k4 rfl rfl rfl ?_
      refine VX_callO (ok 0 _) [57, 24] [] rfl rfl rfl rfl rfl rfl rfl rfl k5 rfl rfl rfl ?_
      refine VX_go4 (fs := []) (ok 0 _) eqs trivial 100 [52] rfl trivial ?_
      refine VX_known 51 true rfl rfl heq' ?_
      refine VX_go4 (fs := []) (ok 0 _) eqs trivial 100 [] rfl trivial ?_
      exact ⟨.inr rfl, rfl⟩
    | false =>
      have hcl : cl = true := by simpa using hfin
      subst hcl
      refine VX_go4 (fs := []) (ok 0 _) eqs trivial 100 [] rfl trivial ?_
      refine VX_known 36 false rfl rfl rfl ?_
      refine VX_go4 (fs := []) (ok 0 _) eqs trivial 100 [] rfl trivial ?_
      refine VX_callO (ok 0 _) [41] [2, 3, 4] rfl rfl rfl rfl rfl rfl rfl rfl k3 rfl rfl rfl ?_
      refine VX_go4 (fs := []) (ok 0 _) eqs trivial 100 [] rfl trivial ?_
      refine VX_known 41 true rfl rfl rfl ?_
      refine VX_go4 (fs := []) (ok 0 _) eqs trivial 100 [] rfl trivial ?_
      refine VX_callO (ok 0 _) [24, 24] [] rfl rfl rfl rfl rfl rfl rfl rfl k6 rfl rfl rfl ?_
      refine VX_go4 (fs := []) (ok 0 _) eqs trivial 100 [] rfl trivial ?_
      refine VX_known 46 true rfl rfl rfl ?_
      refine VX_go4 (fs := []) (ok 0 _) eqs trivial 100 [] rfl trivial ?_
      exact ⟨.inr rfl, rfl⟩
  · have heq' : eqE (Sh.dgE lf) (Sh.dgE lf') = false := by rw [heq]; simp [hd]
    have hsb : sb = false := by
      cases sb with
      | false => rfl
      | true => exact absurd (hback rfl) hd
    subst hsb
    refine VX_known 31 true rfl rfl (by rw [heq']; rfl) ?_
    refine VX_go4 (fs := []) (ok 0 _) eqs trivial 100 [] rfl trivial ?_
    refine VX_callO (ok 0 _) [24, 24] [] rfl rfl rfl rfl rfl rfl rfl rfl k6 rfl rfl rfl ?_
    refine VX_go4 (fs := []) (ok 0 _) eqs trivial 100 [] rfl trivial ?_
    refine VX_known 46 true rfl rfl rfl ?_
    refine VX_go4 (fs := []) (ok 0 _) eqs trivial 100 [] rfl trivial ?_
    exact ⟨.inr rfl, rfl⟩
end Go.Den.Q9d
/- The two, side by side. -/
