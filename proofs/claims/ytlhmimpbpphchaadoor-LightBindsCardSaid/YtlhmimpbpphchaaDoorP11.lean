/- The calculus and the walks, part 11: Q33G, Q33I, Q33J, Q33K, Q33B, Q33A, Q33AX. -/
import Derived.Test.YtlhmimpbpphchaaDoorP10
import Derived.Test.YtlhmimpbpphchaaDoorP8
/- Contracts of another seat, turned to this seat's numbers (port2.py). -/
namespace Go.Den.Q33.Lg
open Go Go.Den Go.Proofs Go.Den.Q33
set_option maxRecDepth 8000
set_option linter.unusedVariables false
set_option linter.unusedSimpArgs false
abbrev Bs := List UInt8
/-- What stands at a digest. -/
def getM (d : Bs) : List (Bs × List Bs) → List Bs
  | [] => []
  | (k, v) :: M => if d = k then v else getM d M
/-- A text more at a digest. -/
def putM (d s : Bs) : List (Bs × List Bs) → List (Bs × List Bs)
  | [] => [(d, [s])]
  | (k, v) :: M => if d = k then (k, v ++ [s]) :: M else (k, v) :: putM d s M
def entL (M : List (Bs × List Bs)) : List Ent := M.map fun p => (Sh.dgE p.1, p.2.map E.str, true)
theorem dgE_eq (a b : Bs) : eqE (Sh.dgE a) (Sh.dgE b) = decide (a = b) := by
  have h : ∀ l : Bs, Sh.dgE l = .agg ((l.map fun x => (x.toNat : Int)).map .int) := fun l => by
    simp [Sh.dgE, byteE]
  rw [h, h]
  simp only [eqE, eqEs_int]
  apply decide_eq_decide.2
  refine ⟨fun e => ?_, fun e => by rw [e]⟩
  have hi : Function.Injective fun x : UInt8 => (x.toNat : Int) := fun x y e => by
    have e' : (x.toNat : Int) = (y.toNat : Int) := e
    have : x.toNat = y.toNat := by omega
    exact UInt8.toNat_inj.1 this
  exact (List.map_inj_right fun x y e => hi e).1 e
theorem idx_none {d : Bs} : ∀ {M : List (Bs × List Bs)} {i : Nat}, mpIdx (Sh.dgE d) (entL M) i = none → getM d M = [] ∧ ∀ s, putM d s M = M ++ [(d, [s])]
  | [], i, h => ⟨rfl, fun s => rfl⟩
  | (k, v) :: M, i, h => by
    simp only [entL, List.map_cons, mpIdx, dgE_eq] at h
    split at h
    · cases h
    · rename_i he
      have hne : ¬ d = k := by simpa using he
      obtain ⟨h1, h2⟩ := idx_none (M := M) h
      exact ⟨by simp [getM, hne, h1], fun s => by simp [putM, hne, h2 s]⟩
theorem idx_some {d : Bs} : ∀ {M : List (Bs × List Bs)} {i j : Nat}, mpIdx (Sh.dgE d) (entL M) i = some j → i ≤ j ∧ M[j - i]? = some (d, getM d M) ∧ ∀ s, putM d s M = M.set (j - i) (d, getM d M ++ [s])
  | [], i, j, h => by simp [entL, mpIdx] at h
  | (k, v) :: M, i, j, h => by
    simp only [entL, List.map_cons, mpIdx, dgE_eq] at h
    split at h
    · rename_i he
      have hd : d = k := by simpa using he
      subst hd; cases h
      exact ⟨Nat.le_refl _, by simp [getM], fun s => by simp [putM, getM]⟩
    · rename_i he
      have hne : ¬ d = k := by simpa using he
      obtain ⟨h0, h1, h2⟩ := idx_some (M := M) h
      refine ⟨by omega, ?_, fun s => ?_⟩
      · rw [show j - i = (j - (i + 1)) + 1 by omega]; simp [getM, hne, h1]
      · rw [show j - i = (j - (i + 1)) + 1 by omega]; simp [putM, getM, hne, h2 s]
theorem get_ent (d : Bs) (M : List (Bs × List Bs)) : mpGet (entL M) (Sh.dgE d) = (getM d M).map E.str := by
  unfold mpGet
  cases h : mpIdx (Sh.dgE d) (entL M) 0 with
  | none => simp [(idx_none h).1]
  | some j =>
    obtain ⟨_, h1, _⟩ := idx_some h
    rw [Nat.sub_zero] at h1
    simp [entL, h1]
theorem out_len (d : Bs) (M : List (Bs × List Bs)) : mpSlot (entL M) (Sh.dgE d) < (mpOut (entL M) (Sh.dgE d)).length := by
  unfold mpSlot mpOut
  cases h : mpIdx (Sh.dgE d) (entL M) 0 with
  | none => simp
  | some j =>
    obtain ⟨_, h1, _⟩ := idx_some h
    rw [Nat.sub_zero] at h1
    have := (List.getElem?_eq_some_iff.1 h1).1
    simp [entL, this]
theorem put_ent (d s : Bs) (M : List (Bs × List Bs)) : (mpOut (entL M) (Sh.dgE d)).set (mpSlot (entL M) (Sh.dgE d)) ((((mpOut (entL M) (Sh.dgE d))[mpSlot (entL M) (Sh.dgE d)]?).map (·.1)).getD .nilp, (getM d M).map E.str ++ [E.str s], true) = entL (putM d s M) := by
  unfold mpSlot mpOut
  rw [get_ent]
  cases h : mpIdx (Sh.dgE d) (entL M) 0 with
  | none =>
    obtain ⟨h1, h2⟩ := idx_none h
    rw [h1, h2 s]
    simp [entL]
  | some j =>
    obtain ⟨_, h1, h2⟩ := idx_some h
    rw [Nat.sub_zero] at h1 h2
    have hj := (List.getElem?_eq_some_iff.1 h1).1
    rw [h2 s]
    have he : (entL M)[j]? = some (Sh.dgE d, (getM d M).map E.str, true) := by simp [entL, h1]
    simp only [Option.getD_some, he, Option.map_some, List.set_set]
    rw [List.getElem?_set_self (by simpa [entL] using hj)]
    simp [entL, List.map_set]
end Go.Den.Q33.Lg
namespace Go.Den.Q33.Lg
open Go Go.Den Go.Proofs Go.Den.Q33
set_option maxRecDepth 8000
set_option linter.unusedVariables false
set_option linter.unusedSimpArgs false
/-- The blocks of a log. -/
def lgB (I : List Bs) (M : List (Bs × List Bs)) : List Blk := [.tree 67 (.st [.lsl 1 (I.map E.str), .mp 2]), .row 9 (I.map E.str).length, .mp 24 9 (entL M)]
theorem rnew_ok : FnG Tryd.prog tb 19 [] [] (fun d s => d = .ptr 0 [] ∧ s = lgB [] []) := by
  refine FnG_of_V (fn := Tryd.f19) (bt := 4) true [1, 2, 0] [61] (ok 0 _) Tryd.func19 rfl rfl rfl fun _ _ _ _ _ _ => ?_
  apply V_of_VX
  refine VX_go4 (fs := []) (ok 0 _) eqs trivial 100 [1] rfl trivial ?_
  refine VX_op rfl rfl (OpF_makeMap (ts := []) (ok 0 _) (k := 24) (u := 25) (e := 9) rfl rfl rfl).v ?_
  rintro d s ⟨rfl, rfl⟩
  refine VX_go4 (fs := []) (ok 0 _) eqs trivial 100 [0] rfl trivial ?_
  refine VX_promT (ok 0 _) rfl 1 [0] rfl rfl rfl rfl rfl ?_
  refine VX_go4 (fs := []) (ok 0 _) eqs trivial 100 [] rfl trivial ?_
  exact ⟨.inr rfl, _, _, _, rfl, rfl, rfl, rfl, rfl⟩
theorem clash_ok (I : List Bs) (M : List (Bs × List Bs)) (hI : I.length ≤ 100000) (hM : M.length ≤ 100000) : FnG Tryd.prog tb 21 (lgB I M) [.ptr 0 []] (fun d s => d = .t 4 (.e (.bool (decide (M.length < I.length)))) ∧ s = lgB I M) := by
  refine FnG_of_V (fn := Tryd.f21) (bt := 4) true [] [4] (ok 3 _) Tryd.func21 rfl rfl rfl fun _ _ _ _ _ _ => ?_
  apply V_of_VX
  refine VX_go4 (fs := []) (ok 3 _) eqs trivial 100 [] rfl trivial ?_
  refine VX_draw [] [(0, true), (1, true), (2, true), (3, true), (4, true), (5, true), (6, true), (8, true), (9, true), (10, true), (11, true), (12, true), (7, false), (13, true), (14, true), (15, true)] mixed (by kernel_rfl) (by kernel_rfl) (by kernel_rfl) ?_
  refine VX_go4 (fs := []) (ok 3 _) eqs trivial 100 [10] rfl ?_ ?_
  · simp [allP, maxN]
  refine VX_opO rfl rfl rfl (OpF_lenMp (ok 3 _) (i := 2) (k := 24) (e := 9) (es := entL M) rfl rfl rfl rfl rfl (by simp [entL, maxN]; omega)) ?_ (by kernel_rfl)
  rintro d s ⟨rfl, rfl⟩
  refine VX_go4 (fs := []) (ok 3 _) eqs trivial 100 [] rfl trivial ?_
  refine ⟨.inr rfl, _, _, _, rfl, rfl, rfl, ?_, rfl⟩
  simp [entL, oneD]
def noteI (d s : Bs) (I : List Bs) (M : List (Bs × List Bs)) : List Bs := if s ∈ getM d M then I else I ++ [s]
def noteM (d s : Bs) (M : List (Bs × List Bs)) : List (Bs × List Bs) := if s ∈ getM d M then M else putM d s M
theorem note_lg (d s : Bs) (I : List Bs) (M : List (Bs × List Bs)) (hI : I.length ≤ 100000) (hM : M.length ≤ 100000) (hg : (getM d M).length ≤ 100000) :
    FnG Tryd.prog tb 60 (lgB I M) [.ptr 0 [], .t 24 (.e (Sh.dgE d)), .t 9 (.e (.str s))] (fun r t => r = .tup [] ∧ t = lgB (noteI d s I M) (noteM d s M)) := by
  refine FnG_of_V (fn := Tryd.f60) (bt := 4) true [] [] (ok 3 _) Tryd.func60 rfl rfl rfl fun _ _ _ _ _ _ => ?_
  apply V_of_VX
  have g1 := get_ent d M
  have g2 : (entL M).length = M.length := by simp [entL]
  have g3 : ∀ x ∈ entL M, x.2.2 = true := fun x hx => by simp only [entL, List.mem_map] at hx; obtain ⟨p, _, rfl⟩ := hx; rfl
  have g4 := out_len d M
  have g5 := put_ent d s M
  unfold noteI noteM lgB
  generalize hE : entL M = E0 at g1 g2 g3 g4 g5 ⊢
  generalize hD : Sh.dgE d = D0 at g1 g4 g5 ⊢
  refine VX_go4 (fs := []) (ok 3 _) eqs trivial 100 [] rfl trivial ?_
  refine VX_draw [] [(0, true), (1, true), (2, true), (3, true), (4, true), (7, true), (5, false), (6, true)] mixed (by kernel_rfl) (by kernel_rfl) (by kernel_rfl) ?_
  refine VX_go4 (fs := []) (ok 3 _) eqs trivial 100 [15] rfl trivial ?_
  refine VX_lookupO (ok 3 _) rfl rfl rfl rfl rfl rfl (by kernel_rfl) (by kernel_rfl) rfl rfl rfl rfl rfl rfl g1 ?_ (by kernel_rfl)
  generalize hL : getM d M = L at hg g1 g5 ⊢
  refine VX_go4 (fs := []) (ok 3 _) eqs trivial 100 [] rfl trivial ?_
  refine VX_loopA (fun i : Nat => i ≤ L.length ∧ (s ∈ L.drop i ↔ s ∈ L)) (fun i => [(17, .t 3 (.e (.int i))), (16, .t 3 (.e (.int L.length))), (15, .t 25 (.e (.sl (L.map .str)))), (0, .ptr 0 []), (2, .t 9 (.e (.str s))), (4, .ptr 3 [])])
    (fun _ => [.tree 67 (.st [.lsl 1 (I.map E.str), .mp 2]), .row 9 (I.map E.str).length, .mp 24 9 E0, .tree 24 (.e D0)]) (fun i => L.length - i) 0 ⟨by simp, by simp⟩ ?_ ?_
  · exact wk0 rfl (by simp [Blk.under, T.under, T.unders]) (lc (ls rfl rfl) (lc (li (by simp)) (lc (ls rfl rfl) (lc (ls rfl rfl) (lc (ls rfl rfl) (lc (ls rfl rfl) lnil))))))
  · rintro i ⟨hi, hs⟩
    refine VX_go4 (fs := []) (ok 3 _) eqs trivial 100 [] rfl trivial ?_
    refine VX_split 18 rfl rfl (fun h => ?_) (fun h => ?_)
    · have hi : i < L.length := by simpa using h
      have hd1 : L.drop i = L[i] :: L.drop (i + 1) := List.drop_eq_getElem_cons hi
      have hgE : (L.map E.str).getD i .nilp = .str L[i] := by simp [List.getD, hi]
      refine VX_go4 (fs := []) (ok 3 _) eqs trivial 100 [7] rfl (by simp [allP]; omega) ?_
      refine VX_eq 20 rfl rfl (d' := .t 9 (.e (.str L[i]))) (congrArg (fun x => D.t 9 (.e x)) hgE) ?_
      refine VX_go4 (fs := []) (ok 3 _) eqs trivial 100 [] rfl trivial ?_
      rw [hd1, List.mem_cons] at hs
      refine VX_split 23 rfl rfl (fun h => ?_) (fun h => ?_)
      · have he : s ∈ L := by simp at h; exact hs.1 (.inl h.symm)
        refine VX_go4 (fs := []) (ok 3 _) eqs trivial 100 [] rfl trivial ?_
        rw [if_pos he, if_pos he, hE]
        exact loop_ret ⟨.inr rfl, _, _, _, rfl, rfl, rfl, rfl, rfl⟩
      · have he : ¬ s = L[i] := by simp at h; exact fun e => h e.symm
        refine VX_go4 (fs := []) (ok 3 _) eqs trivial 100 [] rfl trivial ?_
        refine loop_nrm ⟨i + 1, by omega, ⟨by omega, ⟨fun h => hs.1 (.inr h), fun h => (hs.2 h).resolve_left he⟩⟩, ?_⟩
        exact wk0 rfl (by simp [Blk.under, T.under, T.unders]) (lc (li (by rw [w64 (by omega) (by omega)]; simp)) (lc (ls rfl rfl) (lc (ls rfl rfl) (lc (ls rfl rfl) (lc (ls rfl rfl) (lc (ls rfl rfl) lnil))))))
    · have hi' : i = L.length := by simp at h; omega
      have hno : s ∉ L := by rw [← hs, hi', List.drop_length]; simp
      rw [if_neg hno, if_neg hno]
      refine VX_go4 (fs := []) (ok 3 _) eqs trivial 100 [] rfl trivial ?_
      apply loop_brk
      refine VX_go4 (fs := []) (ok 3 _) eqs trivial 100 [] rfl trivial ?_
      refine VX_draw [2, 4] [(0, true), (1, true), (2, true), (3, true), (4, true), (5, true), (6, false), (7, false), (8, true), (10, true), (9, false), (11, false)] mixed (by kernel_rfl) (by kernel_rfl) (by kernel_rfl) ?_
      refine VX_go4 (fs := []) (ok 3 _) eqs trivial 100 [32] rfl trivial ?_
      refine VX_litO (ok 3 _) rfl rfl rfl rfl rfl ?_ (by kernel_rfl)
      generalize hJ : mpSlot E0 D0 = J at g4 g5
      generalize hS : mpOut E0 D0 = S at g4 g5
      refine VX_mapEntryO (ok 3 _) 3 4 rfl rfl rfl rfl rfl rfl (by kernel_rfl) (by kernel_rfl) rfl rfl rfl rfl rfl rfl rfl g3 (by rw [g2]; unfold maxN; omega) (by decide) rfl g1 hJ hS rfl ?_ (by kernel_rfl)
      refine VX_go4 (fs := []) (ok 3 _) eqs trivial 100 [34] rfl trivial ?_
      refine VX_appendO (ok 3 _) rfl rfl rfl rfl rfl (by simp [nb, tb, maxL]; omega) rfl ?_ (by kernel_rfl)
      refine VX_entryStoreO (ok 3 _) rfl rfl rfl rfl rfl rfl rfl rfl rfl rfl g4 rfl rfl rfl rfl (by decide) (by decide) g5 rfl ?_ (by kernel_rfl)
      refine VX_go4 (fs := []) (ok 3 _) eqs trivial 100 [] rfl ?_ ?_
      · simp [allP, nb, tb, maxL]; omega
      refine ⟨.inl rfl, _, _, _, rfl, rfl, rfl, rfl, ?_⟩
      simp
end Go.Den.Q33.Lg
namespace Go.Den.Q33.Lg
open Go Go.Den Go.Proofs Go.Den.Q33
set_option maxRecDepth 8000
set_option linter.unusedVariables false
set_option linter.unusedSimpArgs false
/-- A log: its inputs, and what stands at each digest. -/
abbrev Log := List Bs × List (Bs × List Bs)
def logB (q : Log) : List Blk := lgB q.1 q.2
def noteL (d s : Bs) (q : Log) : Log := (noteI d s q.1 q.2, noteM d s q.2)
def clashL (q : Log) : Bool := decide (q.2.length < q.1.length)
/-- All that is kept. -/
def total : List (Bs × List Bs) → Nat
  | [] => 0
  | p :: M => p.2.length + total M
/-- Nothing stands twice or at no place. -/
structure LInv (q : Log) : Prop where
  ne : ∀ p ∈ q.2, p.2 ≠ []
  tot : q.1.length = total q.2
theorem total_ge {M : List (Bs × List Bs)} (h : ∀ p ∈ M, p.2 ≠ []) : M.length ≤ total M := by
  induction M with
  | nil => simp [total]
  | cons p M ih =>
    have h1 := ih fun p hp => h p (by simp [hp])
    have h2 : 0 < p.2.length := List.length_pos_iff.2 (h p (by simp))
    simp only [total, List.length_cons]; omega
theorem getM_le (d : Bs) : ∀ M : List (Bs × List Bs), (getM d M).length ≤ total M
  | [] => by simp [getM, total]
  | (k, v) :: M => by
    simp only [getM, total]
    split
    · omega
    · have := getM_le d M; omega
theorem total_put (d s : Bs) : ∀ M : List (Bs × List Bs), total (putM d s M) = total M + 1
  | [] => by simp [putM, total]
  | (k, v) :: M => by
    simp only [putM, total]
    split
    · simp [total]; omega
    · simp only [total, total_put d s M]; omega
theorem put_ne (d s : Bs) : ∀ {M : List (Bs × List Bs)}, (∀ p ∈ M, p.2 ≠ []) → ∀ p ∈ putM d s M, p.2 ≠ []
  | [], _, p, hp => by simp [putM] at hp; subst hp; simp
  | (k, v) :: M, h, p, hp => by
    simp only [putM] at hp
    split at hp
    · simp only [List.mem_cons] at hp
      rcases hp with rfl | hp
      · simp
      · exact h p (by simp [hp])
    · simp only [List.mem_cons] at hp
      rcases hp with rfl | hp
      · exact h _ (by simp)
      · exact put_ne d s (fun p hp => h p (by simp [hp])) p hp
theorem LInv.nil : LInv ([], []) := ⟨by simp, rfl⟩
theorem LInv.note {q : Log} (h : LInv q) (d s : Bs) : LInv (noteL d s q) := by
  unfold noteL noteI noteM
  split
  · exact h
  · exact ⟨put_ne d s h.ne, by simp [total_put, h.tot]⟩
theorem noteL_len (d s : Bs) (q : Log) : (noteL d s q).1.length ≤ q.1.length + 1 := by
  unfold noteL noteI; split <;> simp
theorem getM_put (d s d' : Bs) : ∀ M : List (Bs × List Bs), getM d' (putM d s M) = if d' = d then getM d M ++ [s] else getM d' M
  | [] => by by_cases h : d' = d <;> simp [putM, getM, h]
  | (k, v) :: M => by
    simp only [putM]
    by_cases hk : d = k
    · subst hk
      by_cases h : d' = d
      · simp [getM, h]
      · simp [getM, h]
    · rw [if_neg hk]
      simp only [getM, getM_put d s d' M]
      by_cases h : d' = d
      · subst h; simp [hk]
      · simp [h]
/-- What was noted stands in the log, then and later. -/
def has (q : Log) (d s : Bs) : Prop := s ∈ getM d q.2
theorem has_note (q : Log) (d s : Bs) : has (noteL d s q) d s := by
  unfold has noteL noteM
  split
  · assumption
  · rw [getM_put]; simp
theorem has_mono {q : Log} {d s : Bs} (h : has q d s) (d' s' : Bs) : has (noteL d' s' q) d s := by
  unfold has noteL noteM at *
  split
  · exact h
  · rw [getM_put]; split
    · rename_i e; rw [e] at h; simp [h]
    · exact h
theorem LInv.fine {q : Log} (h : LInv q) (hc : clashL q = false) : ∀ p ∈ q.2, p.2.length = 1 := by
  have hle : total q.2 ≤ q.2.length := by
    have := h.tot
    simp [clashL] at hc; omega
  have key : ∀ M : List (Bs × List Bs), (∀ p ∈ M, p.2 ≠ []) → total M ≤ M.length → ∀ p ∈ M, p.2.length = 1 := by
    intro M
    induction M with
    | nil => intro _ _ p hp; simp at hp
    | cons x M ih =>
      intro hn hl p hp
      have h1 := total_ge (M := M) fun p hp => hn p (by simp [hp])
      have h2 : 0 < x.2.length := List.length_pos_iff.2 (hn x (by simp))
      simp only [total, List.length_cons] at hl
      rcases List.mem_cons.1 hp with rfl | hp
      · omega
      · exact ih (fun p hp => hn p (by simp [hp])) (by omega) p hp
  exact key q.2 h.ne hle
theorem getM_mem {d s : Bs} : ∀ {M : List (Bs × List Bs)}, s ∈ getM d M → ∃ p ∈ M, p.2 = getM d M
  | [], h => by simp [getM] at h
  | (k, v) :: M, h => by
    simp only [getM] at h ⊢
    by_cases hk : d = k
    · rw [if_pos hk]; exact ⟨(k, v), by simp, rfl⟩
    · rw [if_neg hk] at h ⊢
      obtain ⟨p, h1, h2⟩ := getM_mem h
      exact ⟨p, by simp [h1], h2⟩
/-- A log that does not clash: one input a digest. -/
theorem LInv.one {q : Log} (h : LInv q) (hc : clashL q = false) {d s s' : Bs} (h1 : has q d s) (h2 : has q d s') : s = s' := by
  obtain ⟨p, hp, he⟩ := getM_mem h1
  have := h.fine hc p hp
  rw [he] at this
  unfold has at h1 h2
  match hg : getM d q.2 with
  | [] => rw [hg] at this; simp at this
  | [x] => rw [hg] at h1 h2; simp at h1 h2; rw [h1, h2]
  | _ :: _ :: _ => rw [hg] at this; simp at this
theorem LInv.bounds {q : Log} (h : LInv q) {n : Nat} (hn : q.1.length ≤ n) (d : Bs) : q.2.length ≤ n ∧ (getM d q.2).length ≤ n := by
  have h1 := total_ge h.ne
  have h2 := getM_le d q.2
  have h3 := h.tot
  omega
theorem noteL_ok (d s : Bs) (q : Log) (hq : LInv q) (hl : q.1.length ≤ 100000) : FnG Tryd.prog tb 60 (logB q) [.ptr 0 [], .t 24 (.e (Sh.dgE d)), .t 9 (.e (.str s))] (fun r t => r = .tup [] ∧ t = logB (noteL d s q)) :=
  note_lg d s q.1 q.2 hl (hq.bounds hl d).1 (hq.bounds hl d).2
theorem clashL_ok (q : Log) (hq : LInv q) (hl : q.1.length ≤ 100000) : FnG Tryd.prog tb 21 (logB q) [.ptr 0 []] (fun d s => d = .t 4 (.e (.bool (clashL q))) ∧ s = logB q) :=
  clash_ok q.1 q.2 hl (hq.bounds hl []).1
/-- What a log is after an input of a domain and parts. -/
def ofL (x : UInt8) (ps : List Bs) (q : Log) : Log := noteL (Dg.ofB x ps) (Dg.inputB x ps) q
theorem rof_lg (x : UInt8) (ps : List Bs) (q : Log) (hq : LInv q) (hlq : q.1.length ≤ 100000) (hl : (Dg.inputB x ps).length ≤ 400000) :
    FnG Tryd.prog tb 39 (logB q) [.ptr 0 [], .t 5 (.e (byteE x)), .t 25 (.e (.sl (ps.map E.str)))] (fun r t => r = .t 24 (.e (Sh.dgE (Dg.ofB x ps))) ∧ t = logB (ofL x ps q)) := by
  refine FnG_of_V (fn := Tryd.f39) (bt := 4) true [] [24] (ok 3 _) Tryd.func39 rfl rfl rfl fun _ _ _ _ _ _ => ?_
  apply V_of_VX
  unfold ofL Dg.ofB
  have c1 := (Dg.rinput_ok x ps (by omega)).g
  generalize Dg.inputB x ps = I at hl c1 ⊢
  have c2 := (Sh.rsum_ok I (by omega)).g
  generalize Sh.shaB I = d at c2 ⊢
  have c3 := noteL_ok d I q hq hlq
  generalize hL : noteL d I q = q' at c3 ⊢
  unfold logB lgB at c3 ⊢
  generalize hE : entL q.2 = E0 at c3 ⊢
  generalize hE' : entL q'.2 = E1 at c3 ⊢
  generalize q.1.map E.str = I0 at c3 ⊢
  generalize q'.1.map E.str = I1 at c3 ⊢
  refine VX_go4 (fs := []) (ok 3 _) eqs trivial 100 [] rfl trivial ?_
  refine VX_callD (ok 3 _) [5, 25] [] rfl rfl rfl rfl rfl rfl c1 rfl rfl rfl ?_
  refine VX_go4 (fs := []) (ok 3 _) eqs trivial 100 [] rfl trivial ?_
  refine VX_callD (ok 3 _) [9] [] rfl rfl rfl rfl rfl rfl c2 rfl rfl rfl ?_
  refine VX_go4 (fs := []) (ok 3 _) eqs trivial 100 [] rfl trivial ?_
  refine VX_callD (ok 3 _) [61, 24, 9] [0, 1, 2] rfl rfl rfl rfl rfl rfl c3 rfl rfl rfl ?_
  refine VX_go4 (fs := []) (ok 3 _) eqs trivial 100 [] rfl trivial ?_
  exact ⟨.inr rfl, _, _, _, rfl, rfl, rfl, rfl, rfl⟩
end Go.Den.Q33.Lg
/- Contracts of another seat, turned to this seat's numbers (port2.py). -/
namespace Go.Den.Q33.Me
open Go Go.Den Go.Proofs Go.Den.Q33 Go.Den.Q33.Dg
set_option maxRecDepth 8000
set_option linter.unusedVariables false
set_option linter.unusedSimpArgs false
open Go.Den.Q33.Sh (dgE)
theorem upTo_32 {B : List Dig} (h : B.length = 32) : upTo B = 32 := by unfold upTo; rw [if_neg (by omega)]; exact h
end Go.Den.Q33.Me
namespace Go.Den.Q33.Me
open Go Go.Den Go.Proofs Go.Den.Q33 Go.Den.Q33.Dg
set_option maxRecDepth 8000
set_option linter.unusedVariables false
set_option linter.unusedSimpArgs false
open Go.Den.Q33.Sh (dgE)
open Go.Den.Q33.Lg (Log LInv logB noteL ofL has clashL)
/-- A node's input noted. -/
def twoL (a b : Dig) (q : Log) : Log := ofL 6 [a, b] q
theorem twoL_inv {q : Log} (h : LInv q) (a b : Dig) : LInv (twoL a b q) := h.note _ _
theorem twoL_len (a b : Dig) (q : Log) : (twoL a b q).1.length ≤ q.1.length + 1 := Lg.noteL_len _ _ _
theorem rtwo_lg {a b : Dig} (ha : a.length = 32) (hb : b.length = 32) (q : Log) (hq : LInv q) (hl : q.1.length ≤ 100000) :
    FnG Tryd.prog tb 67 (logB q) [.ptr 0 [], .t 5 (.e (byteE 6)), .t 24 (.e (dgE a)), .t 24 (.e (dgE b))] (fun r t => r = .t 24 (.e (dgE (nodeB a b))) ∧ t = logB (twoL a b q)) := by
  refine FnG_of_V (fn := Tryd.f67) (bt := 4) true [] [24] (ok 3 _) Tryd.func67 rfl rfl rfl fun _ _ _ _ _ _ => ?_
  apply V_of_VX
  have c1 := Lg.rof_lg 6 [a, b] q hq hl (two_input ha hb)
  unfold nodeB twoL
  generalize ofB 6 [a, b] = d at c1 ⊢
  generalize ofL 6 [a, b] q = q' at c1 ⊢
  unfold logB Lg.lgB at c1 ⊢
  generalize Lg.entL q.2 = E0 at c1 ⊢
  generalize Lg.entL q'.2 = E1 at c1 ⊢
  generalize q.1.map E.str = I0 at c1 ⊢
  generalize q'.1.map E.str = I1 at c1 ⊢
  refine VX_go4 (fs := []) (ok 3 _) eqs trivial 100 [] rfl trivial ?_
  refine VX_draw [0, 1, 2, 5] [(0, true), (1, true), (2, true), (4, true), (3, false), (5, false), (6, false), (7, false), (8, false)] mixed (by kernel_rfl) (by kernel_rfl) (by kernel_rfl) ?_
  refine VX_go4 (fs := []) (ok 3 _) eqs trivial 100 [] rfl trivial ?_
  refine VX_callO (ok 3 _) [24] [] rfl rfl rfl rfl rfl rfl rfl rfl (bytes_ok a ha).g rfl rfl rfl ?_
  refine VX_callO (ok 3 _) [24] [] rfl rfl rfl rfl rfl rfl rfl rfl (bytes_ok b hb).g rfl rfl rfl ?_
  refine VX_litO (ok 3 _) rfl rfl rfl rfl rfl ?_
  refine VX_callO (ok 3 _) [61, 5, 25] [0, 1, 2] rfl rfl rfl rfl rfl rfl rfl rfl c1 rfl rfl rfl ?_
  refine VX_storeO (ok 3 _) rfl rfl rfl rfl rfl rfl (by simp) ?_
  refine VX_go4 (fs := []) (ok 3 _) eqs trivial 100 [] rfl trivial ?_
  exact ⟨.inr rfl, _, _, _, rfl, rfl, rfl, rfl, rfl⟩
/-- The noughts noted, up to a level. -/
def nL (q : Log) : Nat → Log
  | 0 => q
  | i + 1 => twoL (nght i) (nght i) (nL q i)
theorem nL_inv {q : Log} (h : LInv q) : ∀ i, LInv (nL q i)
  | 0 => h
  | i + 1 => twoL_inv (nL_inv h i) _ _
theorem nL_len (q : Log) : ∀ i, (nL q i).1.length ≤ q.1.length + i
  | 0 => Nat.le_refl _
  | i + 1 => by have := twoL_len (nght i) (nght i) (nL q i); have := nL_len q i; simp only [nL]; omega
theorem rnoughts_lg (q : Log) (hq : LInv q) (hl : q.1.length ≤ 90000) : FnG Tryd.prog tb 54 (logB q) [.ptr 0 []] (fun r t => r = .t 34 (.e (dsE (zP 32))) ∧ t = logB (nL q 33)) := by
  refine FnG_of_V (fn := Tryd.f54) (bt := 4) true [] [34] (ok 3 _) Tryd.func54 rfl rfl rfl fun _ _ _ _ _ _ => ?_
  apply V_of_VX
  have hz : ∀ i, i ≤ 33 → ((zP 32).take i).length = i := fun i h => by simp [zP_length]; omega
  have hinv := nL_inv hq
  have hlen := nL_len q
  have e0 : Lg.entL q.2 = Lg.entL (nL q 0).2 := rfl
  have e1 : q.1.map E.str = (nL q 0).1.map E.str := rfl
  unfold logB Lg.lgB
  rw [e0, e1]
  refine VX_go4 (fs := []) (ok 3 _) eqs trivial 100 [] rfl trivial ?_
  refine VX_promote 3 (u := 24) rfl rfl ?_
  refine VX_loopA (fun i : Nat => i ≤ 33) (fun i => [(5, .t 3 (.e (.int i))), (4, .ptr 3 []), (3, .t 34 (.lsl 4 (((zP 32).take i).map dgE))), (0, .ptr 0 [])])
    (fun i => [.tree 67 (.st [.lsl 1 ((nL q i).1.map E.str), .mp 2]), .row 9 ((nL q i).1.map E.str).length, .mp 24 9 (Lg.entL (nL q i).2), .tree 24 (.e (dgE (nght i))), .row 24 (((zP 32).take i).map dgE).length]) (fun i => 33 - i) 0 (by omega) ?_ ?_
  · exact wk1 rfl rfl (by simp [Blk.under, T.under, T.unders]) (lc (ls rfl rfl) (lc (ls rfl rfl) (lc (ls rfl rfl) (lc (ls rfl rfl) lnil))))
  · intro i hi
    have hzi := hz i hi
    have hle := hlen i
    refine VX_go4 (fs := []) (ok 3 _) eqs trivial 100 [] rfl trivial ?_
    refine VX_split 7 rfl rfl (fun h => ?_) (fun h => ?_)
    · have hi : i < 33 := by simp at h; omega
      have ei : IntKind.wrap .i64 ((i : Int) + 1) = ((i + 1 : Nat) : Int) := by rw [w64 (by omega) (by omega)]; simp
      have hn := nght_length i
      have c1 := rtwo_lg hn hn (nL q i) (hinv i) (by omega)
      have hs : (zP 32).take (i + 1) = (zP 32).take i ++ [nght i] := by
        have hi2 : i < (zP 32).length := by simp [zP_length]; omega
        rw [List.take_add_one, List.getElem?_eq_getElem hi2]
        simp only [zP, List.getElem_map, List.getElem_range, Option.toList_some]
        rw [if_pos (by omega)]
      have hsm : ((zP 32).take (i + 1)).map dgE = ((zP 32).take i).map dgE ++ [dgE (nght i)] := by rw [hs]; simp
      have hnx : nght (i + 1) = nodeB (nght i) (nght i) := rfl
      have hnl : nL q (i + 1) = twoL (nght i) (nght i) (nL q i) := rfl
      generalize twoL (nght i) (nght i) (nL q i) = q' at c1 hnl
      generalize nodeB (nght i) (nght i) = nd at c1 hnx
      generalize nght i = ni at c1 hsm hn ⊢
      unfold logB Lg.lgB at c1
      generalize hq0 : nL q i = q0 at c1 ⊢
      have g1 : Lg.entL (nL q (i + 1)).2 = Lg.entL q'.2 := by rw [hnl]
      have g2 : (nL q (i + 1)).1.map E.str = q'.1.map E.str := by rw [hnl]
      generalize Lg.entL q0.2 = E0 at c1 ⊢
      generalize Lg.entL q'.2 = E1 at c1 g1
      generalize q0.1.map E.str = I0 at c1 ⊢
      generalize q'.1.map E.str = I1 at c1 g2
      refine VX_go4 (fs := []) (ok 3 _) eqs trivial 100 [] rfl (by simp [allP, nb, tb, maxL, zP_length]; omega) ?_
      refine VX_callD (ok 3 _) [61, 5, 24, 24] [0, 1, 2] rfl rfl rfl rfl rfl rfl c1 rfl rfl rfl ?_
      refine VX_go4 (fs := []) (ok 3 _) eqs trivial 100 [] rfl trivial ?_
      refine loop_nrm ⟨i + 1, by omega, by omega, ?_⟩
      exact wk1 (by rw [hnx, hsm, g1, g2]; rfl) rfl (by simp [Blk.under, T.under, T.unders]) (lc (li (by rw [ei])) (lc (ls rfl rfl) (lc (ls (by rw [hsm]; rfl) rfl) (lc (ls rfl rfl) lnil))))
    · have hi' : i = 33 := by simp at h; omega
      subst hi'
      have : (zP 32).take 33 = zP 32 := List.take_of_length_le (by simp [zP_length])
      rw [this]
      generalize zP 32 = Z
      generalize nght 33 = nn
      generalize nL q 33 = q'
      generalize Lg.entL q'.2 = E1
      generalize q'.1.map E.str = I1
      refine VX_go4 (fs := []) (ok 3 _) eqs trivial 100 [] rfl trivial ?_
      apply loop_brk
      refine VX_go4 (fs := []) (ok 3 _) eqs trivial 100 [] rfl trivial ?_
      exact ⟨.inr rfl, _, _, _, rfl, rfl, rfl, rfl, rfl⟩
end Go.Den.Q33.Me
namespace Go.Den.Q33.Me
open Go Go.Den Go.Proofs Go.Den.Q33 Go.Den.Q33.Dg
set_option maxRecDepth 8000
set_option linter.unusedVariables false
set_option linter.unusedSimpArgs false
open Go.Den.Q33.Sh (dgE)
open Go.Den.Q33.Lg (Log LInv logB noteL ofL has clashL)
/-- The nodes under a place noted. -/
def ndL (L : List Dig) : Nat → Nat → Log → Log
  | 0, _, q => q
  | n + 1, k, q => if L.length ≤ k * 2 ^ (n + 1) then q else twoL (nd L n (2 * k)) (nd L n (2 * k + 1)) (ndL L n (2 * k + 1) (ndL L n (2 * k) q))
theorem ndL_inv (L : List Dig) : ∀ (n k : Nat) {q : Log}, LInv q → LInv (ndL L n k q)
  | 0, _, q, h => h
  | n + 1, k, q, h => by
    simp only [ndL]; split
    · exact h
    · exact twoL_inv (ndL_inv L n _ (ndL_inv L n _ h)) _ _
/-- The leaves under a place. -/
def lvN (L : List Dig) (n k : Nat) : Nat := min (L.length - k * 2 ^ n) (2 ^ n)
theorem lvN_succ (L : List Dig) (n k : Nat) : lvN L (n + 1) k = lvN L n (2 * k) + lvN L n (2 * k + 1) := by
  unfold lvN
  have h1 : 2 * k * 2 ^ n = k * 2 ^ (n + 1) := by rw [Nat.pow_succ, Nat.mul_comm (2 ^ n) 2, ← Nat.mul_assoc, Nat.mul_comm k 2]
  have h2 : (2 * k + 1) * 2 ^ n = k * 2 ^ (n + 1) + 2 ^ n := by rw [Nat.add_mul, h1, Nat.one_mul]
  rw [h1, h2, Nat.pow_succ]
  generalize k * (2 ^ n * 2) = a
  generalize 2 ^ n = p
  omega
theorem ndL_len (L : List Dig) : ∀ (n k : Nat) (q : Log), (ndL L n k q).1.length ≤ q.1.length + n * lvN L n k
  | 0, k, q => by simp [ndL]
  | n + 1, k, q => by
    simp only [ndL]; split
    · omega
    · rename_i h
      have h1 := ndL_len L n (2 * k) q
      have h2 := ndL_len L n (2 * k + 1) (ndL L n (2 * k) q)
      have h3 := twoL_len (nd L n (2 * k)) (nd L n (2 * k + 1)) (ndL L n (2 * k + 1) (ndL L n (2 * k) q))
      have h4 := lvN_succ L n k
      have h5 : 1 ≤ lvN L (n + 1) k := by
        unfold lvN
        have : 0 < 2 ^ (n + 1) := Nat.pow_pos (by omega)
        omega
      have h6 : (n + 1) * lvN L (n + 1) k = n * lvN L n (2 * k) + n * lvN L n (2 * k + 1) + lvN L (n + 1) k := by
        rw [Nat.add_mul, Nat.one_mul]
        conv => lhs; lhs; rw [h4]
        rw [Nat.mul_add]
      omega
theorem rnode_lg {L : List Dig} (hl : L.length ≤ 5000) (hL : All32 L) : ∀ (n k : Nat) (q : Log), n ≤ 32 → k * 2 ^ n ≤ 1000000000000 → LInv q → q.1.length + n * lvN L n k ≤ 90000 →
    FnG Tryd.prog tb 55 (logB q) [.ptr 0 [], .t 34 (.e (dsE (zP 32))), .t 34 (.e (dsE L)), .t 3 (.e (.int n)), .t 3 (.e (.int k))] (fun r t => r = .t 24 (.e (dgE (nd L n k))) ∧ t = logB (ndL L n k q)) := by
  intro n
  induction n with
  | zero =>
    intro k q hn hk hq hlq
    refine FnG_of_V (fn := Tryd.f55) (bt := 4) true [] [24] (ok 3 _) Tryd.func55 rfl rfl rfl fun _ _ _ _ _ _ => ?_
    apply V_of_VX
    have hlm : (L.map dgE).length = L.length := by simp
    have hzl := zP_length 32
    have hzg := (zP_get 32 0 (by omega)).trans (if_pos (by omega))
    generalize zP 32 = Z at hzl hzg
    simp only [ndL]
    unfold logB Lg.lgB
    generalize Lg.entL q.2 = E0
    generalize q.1.map E.str = I0
    have e16 : IntKind.wrap .i64 ((k : Int) * ((2 ^ 0 : Nat) : Int)) = (k : Int) := by simp at hk ⊢; rw [w64 (by omega) (by omega)]
    refine VX_go4 (fs := []) (ok 3 _) eqs trivial 100 [] rfl trivial ?_
    refine VX_callD (ok 3 _) [3] [] rfl rfl rfl rfl rfl rfl (size_ok 0 (by omega)).g rfl rfl rfl ?_
    refine VX_go4 (fs := []) (ok 3 _) eqs trivial 100 [17] rfl trivial ?_
    refine VX_eq 16 rfl rfl (d' := .t 3 (.e (.int k))) (congrArg (fun x => D.t 3 (.e (.int x))) e16) ?_
    refine VX_go4 (fs := []) (ok 3 _) eqs trivial 100 [] rfl trivial ?_
    refine VX_split 19 rfl rfl (fun h => ?_) (fun h => ?_)
    · have h1 : L.length ≤ k := by simp only [List.length_map, decide_eq_true_eq] at h; omega
      refine VX_go4 (fs := []) (ok 3 _) eqs trivial 100 [] rfl (by simp [allP, hzl]) ?_
      have h2 : (Z.map dgE).getD 0 .nilp = dgE (nght 0) := (dsE_get (z := []) (by omega)).trans (congrArg dgE hzg)
      rw [nd_ge (by simpa using h1), ← h2]
      exact ⟨.inr rfl, _, _, _, rfl, rfl, rfl, rfl, rfl⟩
    · have h1 : k < L.length := by simp only [List.length_map, decide_eq_false_iff_not] at h; omega
      refine VX_go4 (fs := []) (ok 3 _) eqs trivial 100 [] rfl trivial ?_
      refine VX_known 25 true rfl rfl (by simp) ?_
      refine VX_go4 (fs := []) (ok 3 _) eqs trivial 100 [] rfl (by simp [allP]; omega) ?_
      have h2 : (L.map dgE).getD k .nilp = dgE (nd L 0 k) := (dsE_get (z := []) h1).trans (congrArg dgE (nd_zero h1 _).symm)
      rw [← h2]
      exact ⟨.inr rfl, _, _, _, rfl, rfl, rfl, rfl, rfl⟩
  | succ n ih =>
    intro k q hn hk hq hlq
    refine FnG_of_V (fn := Tryd.f55) (bt := 4) true [] [24] (ok 3 _) Tryd.func55 rfl rfl rfl fun _ _ _ _ _ _ => ?_
    apply V_of_VX
    have hlm : (L.map dgE).length = L.length := by simp
    have e16 : IntKind.wrap .i64 ((k : Int) * ((2 ^ (n + 1) : Nat) : Int)) = ((k * 2 ^ (n + 1) : Nat) : Int) := by rw [← Int.natCast_mul, w64 (by omega) (by omega)]
    by_cases h1 : L.length ≤ k * 2 ^ (n + 1)
    · have hzl := zP_length 32
      have hzg := (zP_get 32 (n + 1) (by omega)).trans (if_pos hn)
      generalize zP 32 = Z at hzl hzg
      have hnd : ndL L (n + 1) k q = q := by simp only [ndL]; rw [if_pos h1]
      rw [hnd]
      unfold logB Lg.lgB
      generalize Lg.entL q.2 = E0
      generalize q.1.map E.str = I0
      refine VX_go4 (fs := []) (ok 3 _) eqs trivial 100 [] rfl trivial ?_
      refine VX_callD (ok 3 _) [3] [] rfl rfl rfl rfl rfl rfl (size_ok (n + 1) (by omega)).g rfl rfl rfl ?_
      refine VX_go4 (fs := []) (ok 3 _) eqs trivial 100 [17] rfl trivial ?_
      refine VX_eq 16 rfl rfl (d' := .t 3 (.e (.int (k * 2 ^ (n + 1) : Nat)))) (congrArg (fun x => D.t 3 (.e (.int x))) e16) ?_
      refine VX_go4 (fs := []) (ok 3 _) eqs trivial 100 [] rfl trivial ?_
      refine VX_known 19 true rfl rfl (by simp only [List.length_map, decide_eq_true_eq]; omega) ?_
      refine VX_go4 (fs := []) (ok 3 _) eqs trivial 100 [] rfl (by simp [allP, hzl]; omega) ?_
      have h2 : (Z.map dgE).getD (n + 1) .nilp = dgE (nght (n + 1)) := (dsE_get (z := []) (by omega)).trans (congrArg dgE hzg)
      rw [nd_ge h1, ← h2]
      exact ⟨.inr rfl, _, _, _, rfl, rfl, rfl, rfl, rfl⟩
    · have hp := Nat.pow_succ 2 n
      have hp32 : (2 : Nat) ^ n ≤ 2 ^ 32 := Nat.pow_le_pow_right (by omega) (by omega)
      have h32 : (2 : Nat) ^ 32 = 4294967296 := by decide
      have hkn : 2 * k * 2 ^ n = k * 2 ^ (n + 1) := by rw [hp, Nat.mul_comm (2 ^ n) 2, ← Nat.mul_assoc, Nat.mul_comm k 2]
      have hkk : k ≤ k * 2 ^ (n + 1) := Nat.le_mul_of_pos_right _ (Nat.pow_pos (by omega))
      have hls := lvN_succ L n k
      have hlb : (n + 1) * lvN L (n + 1) k = n * lvN L n (2 * k) + n * lvN L n (2 * k + 1) + lvN L (n + 1) k := by
        rw [Nat.add_mul, Nat.one_mul]
        conv => lhs; lhs; rw [hls]
        rw [Nat.mul_add]
      have c1 := ih (2 * k) q (by omega) (by omega) hq (by omega)
      have i1 := ndL_inv L n (2 * k) hq
      have n1 := ndL_len L n (2 * k) q
      have c2 := ih (2 * k + 1) (ndL L n (2 * k) q) (by omega) (by rw [Nat.add_mul, hkn]; omega) i1 (by omega)
      have i2 := ndL_inv L n (2 * k + 1) i1
      have n2 := ndL_len L n (2 * k + 1) (ndL L n (2 * k) q)
      have c3 := rtwo_lg (nd_length hL n (2 * k)) (nd_length hL n (2 * k + 1)) _ i2 (by omega)
      have hnd : ndL L (n + 1) k q = twoL (nd L n (2 * k)) (nd L n (2 * k + 1)) (ndL L n (2 * k + 1) (ndL L n (2 * k) q)) := by simp only [ndL]; rw [if_neg h1]
      rw [hnd, nd_succ (by omega)]
      clear i1 i2 n1 n2 hnd
      generalize ndL L n (2 * k) q = q1 at c1 c2 c3 ⊢
      generalize ndL L n (2 * k + 1) q1 = q2 at c2 c3 ⊢
      generalize nd L n (2 * k) = A at c1 c3 ⊢
      generalize nd L n (2 * k + 1) = B at c2 c3 ⊢
      generalize twoL A B q2 = q3 at c3 ⊢
      generalize nodeB A B = R at c3 ⊢
      generalize zP 32 = Z at c1 c2 ⊢
      unfold logB Lg.lgB at c1 c2 c3 ⊢
      generalize Lg.entL q.2 = E0 at c1 ⊢
      generalize q.1.map E.str = I0 at c1 ⊢
      generalize Lg.entL q1.2 = E1 at c1 c2
      generalize q1.1.map E.str = I1 at c1 c2
      generalize Lg.entL q2.2 = E2 at c2 c3
      generalize q2.1.map E.str = I2 at c2 c3
      generalize Lg.entL q3.2 = E3 at c3 ⊢
      generalize q3.1.map E.str = I3 at c3 ⊢
      have e34 : IntKind.wrap .i64 (((n + 1 : Nat) : Int) - 1) = (n : Int) := by rw [w64 (by omega) (by omega)]; omega
      have e36 : IntKind.wrap .i64 (2 * (k : Int)) = ((2 * k : Nat) : Int) := by rw [w64 (by omega) (by omega)]; omega
      have e45 : IntKind.wrap .i64 (((2 * k : Nat) : Int) + 1) = ((2 * k + 1 : Nat) : Int) := by rw [w64 (by omega) (by omega)]; omega
      refine VX_go4 (fs := []) (ok 3 _) eqs trivial 100 [] rfl trivial ?_
      refine VX_callD (ok 3 _) [3] [] rfl rfl rfl rfl rfl rfl (size_ok (n + 1) (by omega)).g rfl rfl rfl ?_
      refine VX_go4 (fs := []) (ok 3 _) eqs trivial 100 [17] rfl trivial ?_
      refine VX_eq 16 rfl rfl (d' := .t 3 (.e (.int (k * 2 ^ (n + 1) : Nat)))) (congrArg (fun x => D.t 3 (.e (.int x))) e16) ?_
      refine VX_go4 (fs := []) (ok 3 _) eqs trivial 100 [] rfl trivial ?_
      refine VX_known 19 false rfl rfl (by simp only [List.length_map, decide_eq_false_iff_not]; omega) ?_
      refine VX_go4 (fs := []) (ok 3 _) eqs trivial 100 [] rfl trivial ?_
      refine VX_known 25 false rfl rfl (by simp; omega) ?_
      refine VX_go4 (fs := []) (ok 3 _) eqs trivial 100 [35] rfl trivial ?_
      refine VX_eq 34 rfl rfl (d' := .t 3 (.e (.int n))) (congrArg (fun x => D.t 3 (.e (.int x))) e34) ?_
      refine VX_go4 (fs := []) (ok 3 _) eqs trivial 100 [37] rfl trivial ?_
      refine VX_eq 36 rfl rfl (d' := .t 3 (.e (.int (2 * k : Nat)))) (congrArg (fun x => D.t 3 (.e (.int x))) e36) ?_
      refine VX_callD (ok 3 _) [61, 34, 34, 3, 3] [0, 1, 2] rfl rfl rfl rfl rfl rfl c1 rfl rfl rfl ?_
      refine VX_go4 (fs := []) (ok 3 _) eqs trivial 100 [43] rfl trivial ?_
      refine VX_eq 42 rfl rfl (d' := .t 3 (.e (.int n))) (congrArg (fun x => D.t 3 (.e (.int x))) e34) ?_
      refine VX_go4 (fs := []) (ok 3 _) eqs trivial 100 [45] rfl trivial ?_
      refine VX_eq 44 rfl rfl (d' := .t 3 (.e (.int (2 * k : Nat)))) (congrArg (fun x => D.t 3 (.e (.int x))) e36) ?_
      refine VX_go4 (fs := []) (ok 3 _) eqs trivial 100 [46] rfl trivial ?_
      refine VX_eq 45 rfl rfl (d' := .t 3 (.e (.int (2 * k + 1 : Nat)))) (congrArg (fun x => D.t 3 (.e (.int x))) e45) ?_
      refine VX_callD (ok 3 _) [61, 34, 34, 3, 3] [0, 1, 2] rfl rfl rfl rfl rfl rfl c2 rfl rfl rfl ?_
      refine VX_go4 (fs := []) (ok 3 _) eqs trivial 100 [] rfl trivial ?_
      refine VX_callD (ok 3 _) [61, 5, 24, 24] [0, 1, 2] rfl rfl rfl rfl rfl rfl c3 rfl rfl rfl ?_
      refine VX_go4 (fs := []) (ok 3 _) eqs trivial 100 [] rfl trivial ?_
      exact ⟨.inr rfl, _, _, _, rfl, rfl, rfl, rfl, rfl⟩
end Go.Den.Q33.Me
namespace Go.Den.Q33.Me
open Go Go.Den Go.Proofs Go.Den.Q33 Go.Den.Q33.Dg
set_option maxRecDepth 8000
set_option linter.unusedVariables false
set_option linter.unusedSimpArgs false
open Go.Den.Q33.Sh (dgE)
open Go.Den.Q33.Lg (Log LInv logB noteL ofL has clashL)
theorem first_ok {L : List Dig} (hl : L.length ≤ 4096) : FnOk Tryd.prog tb 61 [34] [34] [dsE L] [dsE L] := by
  refine FnOk_of_V (fn := Tryd.f61) (bt := 4) (ok 0 _) Tryd.func61 rfl rfl rfl (by decide) fun hw => ?_
  clear hw
  apply V_of_VX
  refine VX_go4 (fs := []) (ok 0 _) eqs trivial 100 [] rfl trivial ?_
  refine VX_known 5 false rfl rfl (by simp; omega) ?_
  refine VX_go4 (fs := []) (ok 0 _) eqs trivial 100 [] rfl trivial ?_
  exact ⟨.inr rfl, rfl⟩
/-- The whole tree noted. -/
def treeL (L : List Dig) (q : Log) : Log := ndL L 32 0 (nL q 33)
theorem treeL_inv (L : List Dig) {q : Log} (h : LInv q) : LInv (treeL L q) := ndL_inv L 32 0 (nL_inv h 33)
theorem treeL_len (L : List Dig) (q : Log) : (treeL L q).1.length ≤ q.1.length + 33 + 32 * L.length := by
  have h1 := ndL_len L 32 0 (nL q 33)
  have h2 := nL_len q 33
  have h3 : lvN L 32 0 ≤ L.length := by unfold lvN; omega
  unfold treeL; omega
theorem rtree_lg {L : List Dig} (hl : L.length ≤ 1000) (hL : All32 L) (q : Log) (hq : LInv q) (hlq : q.1.length ≤ 50000) :
    FnG Tryd.prog tb 44 (logB q) [.ptr 0 [], .t 34 (.e (dsE L))] (fun r t => r = .t 24 (.e (dgE (rootB L))) ∧ t = logB (treeL L q)) := by
  refine FnG_of_V (fn := Tryd.f44) (bt := 4) true [] [24] (ok 3 _) Tryd.func44 rfl rfl rfl fun _ _ _ _ _ _ => ?_
  apply V_of_VX
  have n1 := nL_len q 33
  have h3 : lvN L 32 0 ≤ L.length := by unfold lvN; omega
  have c1 := rnoughts_lg q hq (by omega)
  have c2 := (first_ok (L := L) (by omega)).g
  have c3 := rnode_lg (by omega) hL 32 0 (nL q 33) (by decide) (by simp) (nL_inv hq 33) (by omega)
  unfold treeL rootB
  generalize nL q 33 = q1 at c1 c3 ⊢
  generalize ndL L 32 0 q1 = q2 at c3 ⊢
  generalize nd L 32 0 = R at c3 ⊢
  generalize zP 32 = Z at c1 c3
  unfold logB Lg.lgB at c1 c3 ⊢
  generalize Lg.entL q.2 = E0 at c1 ⊢
  generalize q.1.map E.str = I0 at c1 ⊢
  generalize Lg.entL q1.2 = E1 at c1 c3
  generalize q1.1.map E.str = I1 at c1 c3
  generalize Lg.entL q2.2 = E2 at c3 ⊢
  generalize q2.1.map E.str = I2 at c3 ⊢
  refine VX_go4 (fs := []) (ok 3 _) eqs trivial 100 [] rfl trivial ?_
  refine VX_callD (ok 3 _) [61] [0, 1, 2] rfl rfl rfl rfl rfl rfl c1 rfl rfl rfl ?_
  refine VX_go4 (fs := []) (ok 3 _) eqs trivial 100 [] rfl trivial ?_
  refine VX_callD (ok 3 _) [34] [] rfl rfl rfl rfl rfl rfl c2 rfl rfl rfl ?_
  refine VX_callD (ok 3 _) [61, 34, 34, 3, 3] [0, 1, 2] rfl rfl rfl rfl rfl rfl c3 rfl rfl rfl ?_
  refine VX_go4 (fs := []) (ok 3 _) eqs trivial 100 [] rfl trivial ?_
  exact ⟨.inr rfl, _, _, _, rfl, rfl, rfl, rfl, rfl⟩
/-- The steps of a climb noted. -/
def clQ (leaf : Dig) (m : Nat) (B : List Dig) (q : Log) : Nat → Log
  | 0 => q
  | i + 1 => if bitB m i = true then twoL (B.getD i []) (clB leaf m B i) (clQ leaf m B q i) else twoL (clB leaf m B i) (B.getD i []) (clQ leaf m B q i)
theorem clQ_inv (leaf : Dig) (m : Nat) (B : List Dig) {q : Log} (h : LInv q) : ∀ i, LInv (clQ leaf m B q i)
  | 0 => h
  | i + 1 => by
    simp only [clQ]; split
    · exact twoL_inv (clQ_inv leaf m B h i) _ _
    · exact twoL_inv (clQ_inv leaf m B h i) _ _
theorem clQ_len (leaf : Dig) (m : Nat) (B : List Dig) (q : Log) : ∀ i, (clQ leaf m B q i).1.length ≤ q.1.length + i
  | 0 => Nat.le_refl _
  | i + 1 => by
    have := clQ_len leaf m B q i
    simp only [clQ]; split
    · have := twoL_len (B.getD i []) (clB leaf m B i) (clQ leaf m B q i); omega
    · have := twoL_len (clB leaf m B i) (B.getD i []) (clQ leaf m B q i); omega
def climbL (leaf : Dig) (m : Nat) (B : List Dig) (q : Log) : Log := clQ leaf m B q (upTo B)
set_option maxHeartbeats 1600000 in
theorem rclimb_lg {leaf : Dig} {B : List Dig} (hf : leaf.length = 32) (hB : All32 B) (hl : B.length ≤ 100000) (m : Nat) (hm : m < 4294967296) (q : Log) (hq : LInv q) (hlq : q.1.length ≤ 50000) :
    FnG Tryd.prog tb 57 (logB q) [.ptr 0 [], .t 24 (.e (dgE leaf)), .t 32 (.e (.int m)), .t 34 (.e (dsE B))] (fun r t => r = .t 24 (.e (dgE (climbB leaf m B))) ∧ t = logB (climbL leaf m B q)) := by
  refine FnG_of_V (fn := Tryd.f57) (bt := 4) true [] [24] (ok 3 _) Tryd.func57 rfl rfl rfl fun _ _ _ _ _ _ => ?_
  apply V_of_VX
  have hlm : (B.map dgE).length = B.length := by simp
  unfold climbB climbL
  have hup : upTo B ≤ 32 ∧ upTo B ≤ B.length := by unfold upTo; split <;> omega
  have hue : ∀ i, i ≤ upTo B → (i < upTo B ↔ i < B.length ∧ i < 32) := fun i h => by unfold upTo at h ⊢; split at h <;> split <;> omega
  generalize upTo B = N at hup hue
  have hinv := clQ_inv leaf m B hq
  have hlen := clQ_len leaf m B q
  have e0 : Lg.entL q.2 = Lg.entL (clQ leaf m B q 0).2 := rfl
  have e1 : q.1.map E.str = (clQ leaf m B q 0).1.map E.str := rfl
  unfold logB Lg.lgB
  rw [e0, e1]
  refine VX_go4 (fs := []) (ok 3 _) eqs trivial 100 [] rfl trivial ?_
  refine VX_loopA (fun i : Nat => i ≤ N) (fun i => [(9, .t 3 (.e (.int i))), (8, .ptr 4 []), (5, .ptr 3 []), (3, .t 34 (.e (dsE B))), (2, .t 32 (.e (.int m))), (0, .ptr 0 [])])
    (fun i => [.tree 67 (.st [.lsl 1 ((clQ leaf m B q i).1.map E.str), .mp 2]), .row 9 ((clQ leaf m B q i).1.map E.str).length, .mp 24 9 (Lg.entL (clQ leaf m B q i).2), .tree 24 (.e (dgE (clB leaf m B i))), .tree 24 (.e (dgE z0))]) (fun i => N - i) 0 (by omega) ?_ ?_
  · exact wk1 rfl rfl (by simp [Blk.under, T.under, T.unders]) (lc (ls rfl rfl) (lc (ls rfl rfl) (lc (ls rfl rfl) (lc (ls rfl rfl) (lc (ls rfl rfl) (lc (ls rfl rfl) lnil))))))
  · intro i hi
    have hui := hue i hi
    have hli := hlen i
    refine VX_go4 (fs := []) (ok 3 _) eqs trivial 100 [] rfl trivial ?_
    by_cases hlt : i < N
    · obtain ⟨hib, hi32⟩ := hui.1 hlt
      refine VX_known 14 true rfl rfl (by simp; omega) ?_
      refine VX_go4 (fs := []) (ok 3 _) eqs trivial 100 [] rfl trivial ?_
      refine VX_known 17 true rfl rfl (by simp; omega) ?_
      have ei : IntKind.wrap .i64 ((i : Int) + 1) = ((i + 1 : Nat) : Int) := by rw [w64 (by omega) (by omega)]; simp
      have hg : (B.map dgE).getD i .nilp = dgE (B.getD i []) := dsE_get hib []
      have hc := clB_length hf m B i
      have hb : (B.getD i []).length = 32 := by rw [getD_any (by omega) [] z0]; exact getD_all hB z0_length i
      have hnx : clB leaf m B (i + 1) = if bitB m i = true then nodeB (B.getD i []) (clB leaf m B i) else nodeB (clB leaf m B i) (B.getD i []) := rfl
      have hnq : clQ leaf m B q (i + 1) = if bitB m i = true then twoL (B.getD i []) (clB leaf m B i) (clQ leaf m B q i) else twoL (clB leaf m B i) (B.getD i []) (clQ leaf m B q i) := rfl
      have c0 := (bit_ok m i (by omega)).g
      have c1 := rtwo_lg hb hc (clQ leaf m B q i) (hinv i) (by omega)
      have c2 := rtwo_lg hc hb (clQ leaf m B q i) (hinv i) (by omega)
      generalize twoL (B.getD i []) (clB leaf m B i) (clQ leaf m B q i) = q1 at c1 hnq
      generalize twoL (clB leaf m B i) (B.getD i []) (clQ leaf m B q i) = q2 at c2 hnq
      generalize nodeB (B.getD i []) (clB leaf m B i) = R1 at c1 hnx
      generalize nodeB (clB leaf m B i) (B.getD i []) = R2 at c2 hnx
      generalize clB leaf m B i = cur at c1 c2 ⊢
      generalize B.getD i [] = b at c1 c2 hg
      generalize bitB m i = bt at hnx hnq c0
      generalize clQ leaf m B q i = q0 at c1 c2 ⊢
      unfold logB Lg.lgB at c1 c2
      have g1 : (clQ leaf m B q (i + 1)).1.map E.str = if bt = true then q1.1.map E.str else q2.1.map E.str := by rw [hnq]; split <;> rfl
      have g2 : Lg.entL (clQ leaf m B q (i + 1)).2 = if bt = true then Lg.entL q1.2 else Lg.entL q2.2 := by rw [hnq]; split <;> rfl
      generalize Lg.entL q0.2 = E0 at c1 c2 ⊢
      generalize q0.1.map E.str = I0 at c1 c2 ⊢
      generalize Lg.entL q1.2 = E1 at c1 g2
      generalize q1.1.map E.str = I1 at c1 g1
      generalize Lg.entL q2.2 = E2 at c2 g2
      generalize q2.1.map E.str = I2 at c2 g1
      refine VX_go4 (fs := []) (ok 3 _) eqs trivial 100 [] rfl trivial ?_
      refine VX_callD (ok 3 _) [32, 3] [] rfl rfl rfl rfl rfl rfl c0 rfl rfl rfl ?_
      cases bt with
      | true =>
        rw [if_pos rfl] at hnx g1 g2
        refine VX_known 22 true rfl rfl rfl ?_
        refine VX_go4 (fs := []) (ok 3 _) eqs trivial 100 [] rfl trivial ?_
        refine VX_draw [0, 1, 2] [(0, true), (1, true), (2, true), (3, true), (4, true), (5, true), (6, false), (7, false)] mixed (by kernel_rfl) (by kernel_rfl) (by kernel_rfl) ?_
        refine VX_go4 (fs := []) (ok 3 _) eqs trivial 100 [28] rfl (by simp [allP]; omega) ?_
        refine VX_eq 27 rfl rfl (d' := .t 24 (.e (dgE b))) (congrArg (fun x => D.t 24 (.e x)) hg) ?_
        refine VX_go4 (fs := []) (ok 3 _) eqs trivial 100 [] rfl trivial ?_
        refine VX_callO (ok 3 _) [61, 5, 24, 24] [0, 1, 2] rfl rfl rfl rfl rfl rfl rfl rfl c1 rfl rfl rfl ?_
        refine VX_ts [3] (by kernel_rfl) ?_
        refine VX_storeO (ok 3 _) rfl rfl rfl rfl rfl rfl (by simp) ?_
        refine VX_go4 (fs := []) (ok 3 _) eqs trivial 100 [] rfl trivial ?_
        refine loop_nrm ⟨i + 1, by omega, by omega, ?_⟩
        exact wk1 (by rw [hnx, g1, g2]; rfl) rfl (by simp [Blk.under, T.under, T.unders]) (lc (li (by rw [ei])) (lc (ls rfl rfl) (lc (ls rfl rfl) (lc (ls rfl rfl) (lc (ls rfl rfl) (lc (ls rfl rfl) lnil))))))
      | false =>
        rw [if_neg (by decide)] at hnx g1 g2
        refine VX_known 22 false rfl rfl rfl ?_
        refine VX_go4 (fs := []) (ok 3 _) eqs trivial 100 [] rfl trivial ?_
        refine VX_draw [0, 1, 2] [(0, true), (1, true), (2, true), (3, true), (4, true), (5, true), (6, false), (7, false)] mixed (by kernel_rfl) (by kernel_rfl) (by kernel_rfl) ?_
        refine VX_go4 (fs := []) (ok 3 _) eqs trivial 100 [36] rfl (by simp [allP]; omega) ?_
        refine VX_eq 35 rfl rfl (d' := .t 24 (.e (dgE b))) (congrArg (fun x => D.t 24 (.e x)) hg) ?_
        refine VX_callO (ok 3 _) [61, 5, 24, 24] [0, 1, 2] rfl rfl rfl rfl rfl rfl rfl rfl c2 rfl rfl rfl ?_
        refine VX_ts [3] (by kernel_rfl) ?_
        refine VX_storeO (ok 3 _) rfl rfl rfl rfl rfl rfl (by simp) ?_
        refine VX_go4 (fs := []) (ok 3 _) eqs trivial 100 [] rfl trivial ?_
        refine loop_nrm ⟨i + 1, by omega, by omega, ?_⟩
        exact wk1 (by rw [hnx, g1, g2]; rfl) rfl (by simp [Blk.under, T.under, T.unders]) (lc (li (by rw [ei])) (lc (ls rfl rfl) (lc (ls rfl rfl) (lc (ls rfl rfl) (lc (ls rfl rfl) (lc (ls rfl rfl) lnil))))))
    · have hi' : i = N := by omega
      subst hi'
      have hno : ¬ (i < B.length ∧ i < 32) := fun h => hlt (hui.2 h)
      generalize clB leaf m B i = cur
      generalize clQ leaf m B q i = q0
      generalize Lg.entL q0.2 = E0
      generalize q0.1.map E.str = I0
      by_cases hib : i < B.length
      · refine VX_known 14 true rfl rfl (by simp; omega) ?_
        refine VX_go4 (fs := []) (ok 3 _) eqs trivial 100 [] rfl trivial ?_
        refine VX_known 17 false rfl rfl (by simp; omega) ?_
        refine VX_go4 (fs := []) (ok 3 _) eqs trivial 100 [] rfl trivial ?_
        apply loop_brk
        refine VX_go4 (fs := []) (ok 3 _) eqs trivial 100 [] rfl trivial ?_
        exact ⟨.inr rfl, _, _, _, rfl, rfl, rfl, rfl, rfl⟩
      · refine VX_known 14 false rfl rfl (by simp; omega) ?_
        refine VX_go4 (fs := []) (ok 3 _) eqs trivial 100 [] rfl trivial ?_
        apply loop_brk
        refine VX_go4 (fs := []) (ok 3 _) eqs trivial 100 [] rfl trivial ?_
        exact ⟨.inr rfl, _, _, _, rfl, rfl, rfl, rfl, rfl⟩
end Go.Den.Q33.Me
namespace Go.Den.Q33.Me
open Go Go.Den Go.Proofs Go.Den.Q33 Go.Den.Q33.Dg
set_option maxRecDepth 8000
set_option linter.unusedVariables false
set_option linter.unusedSimpArgs false
open Go.Den.Q33.Sh (dgE)
open Go.Den.Q33.Lg (Log LInv logB noteL ofL has clashL)
theorem has_two {q : Log} {d s : List UInt8} (h : has q d s) (a b : Dig) : has (twoL a b q) d s := Lg.has_mono h _ _
theorem has_here (a b : Dig) (q : Log) : has (twoL a b q) (nodeB a b) (inputB 6 [a, b]) := Lg.has_note _ _ _
theorem has_nL {q : Log} {d s : List UInt8} (h : has q d s) : ∀ i, has (nL q i) d s
  | 0 => h
  | i + 1 => has_two (has_nL h i) _ _
theorem has_ndL (L : List Dig) {d s : List UInt8} : ∀ (n k : Nat) {q : Log}, has q d s → has (ndL L n k q) d s
  | 0, _, q, h => h
  | n + 1, k, q, h => by
    simp only [ndL]; split
    · exact h
    · exact has_two (has_ndL L n _ (has_ndL L n _ h)) _ _
theorem has_clQ (leaf : Dig) (m : Nat) (B : List Dig) {q : Log} {d s : List UInt8} (h : has q d s) : ∀ i, has (clQ leaf m B q i) d s
  | 0 => h
  | i + 1 => by
    simp only [clQ]; split
    · exact has_two (has_clQ leaf m B h i) _ _
    · exact has_two (has_clQ leaf m B h i) _ _
theorem nL_has (q : Log) (i : Nat) : ∀ n, i < n → has (nL q n) (nght (i + 1)) (inputB 6 [nght i, nght i])
  | 0, h => by omega
  | n + 1, h => by
    by_cases e : i = n
    · subst e; exact has_here _ _ _
    · exact has_two (nL_has q i n (by omega)) _ _
theorem ndL_has (L : List Dig) : ∀ (N K : Nat) (q : Log) (n k : Nat), n + 1 ≤ N → k / 2 ^ (N - (n + 1)) = K → k * 2 ^ (n + 1) < L.length → has (ndL L N K q) (nd L (n + 1) k) (inputB 6 [nd L n (2 * k), nd L n (2 * k + 1)])
  | 0, _, _, n, _, h, _, _ => by omega
  | N + 1, K, q, n, k, h, hk, hl => by
    have hge : K * 2 ^ (N + 1) ≤ k * 2 ^ (n + 1) := by
      have h1 : K * 2 ^ (N + 1 - (n + 1)) ≤ k := by rw [← hk]; exact Nat.div_mul_le_self _ _
      have h2 : (2 : Nat) ^ (N + 1) = 2 ^ (N + 1 - (n + 1)) * 2 ^ (n + 1) := by rw [← Nat.pow_add]; congr 1; omega
      rw [h2, ← Nat.mul_assoc]
      exact Nat.mul_le_mul_right _ h1
    have hnot : ¬ L.length ≤ K * 2 ^ (N + 1) := by omega
    simp only [ndL]; rw [if_neg hnot]
    by_cases e : n = N
    · subst e
      have hkK : k = K := by rw [← hk]; simp
      subst hkK
      rw [nd_succ hl]; exact has_here _ _ _
    · have e2 : N + 1 - (n + 1) = (N - (n + 1)) + 1 := by omega
      rw [e2, Nat.pow_succ, ← Nat.div_div_eq_div_mul] at hk
      have hc : k / 2 ^ (N - (n + 1)) = 2 * K ∨ k / 2 ^ (N - (n + 1)) = 2 * K + 1 := by omega
      refine has_two ?_ _ _
      rcases hc with hc | hc
      · exact has_ndL L N _ (ndL_has L N (2 * K) q n k (by omega) hc hl)
      · exact ndL_has L N (2 * K + 1) _ n k (by omega) hc hl
theorem nd_node (L : List Dig) (n k : Nat) : nd L (n + 1) k = nodeB (nd L n (2 * k)) (nd L n (2 * k + 1)) := by
  by_cases h : k * 2 ^ (n + 1) < L.length
  · exact nd_succ h
  · have hkn : 2 * k * 2 ^ n = k * 2 ^ (n + 1) := by rw [Nat.pow_succ, Nat.mul_comm (2 ^ n) 2, ← Nat.mul_assoc, Nat.mul_comm k 2]
    rw [nd_ge (by omega), nd_ge (by rw [hkn]; omega), nd_ge (by rw [Nat.add_mul, hkn]; omega)]; rfl
theorem tree_has (L : List Dig) (q : Log) (n k : Nat) (hn : n + 1 ≤ 32) (hk : k < 2 ^ (32 - (n + 1))) : has (treeL L q) (nd L (n + 1) k) (inputB 6 [nd L n (2 * k), nd L n (2 * k + 1)]) := by
  unfold treeL
  by_cases h : k * 2 ^ (n + 1) < L.length
  · exact ndL_has L 32 0 _ n k hn (Nat.div_eq_of_lt hk) h
  · have hkn : 2 * k * 2 ^ n = k * 2 ^ (n + 1) := by rw [Nat.pow_succ, Nat.mul_comm (2 ^ n) 2, ← Nat.mul_assoc, Nat.mul_comm k 2]
    rw [nd_ge (n := n + 1) (by omega), nd_ge (n := n) (k := 2 * k) (by rw [hkn]; omega), nd_ge (n := n) (k := 2 * k + 1) (by rw [Nat.add_mul, hkn]; omega)]
    exact has_ndL L 32 0 (nL_has q n 33 (by omega))
theorem cl_has (leaf : Dig) (m : Nat) (B : List Dig) (q : Log) (i : Nat) : ∀ n, i < n → has (clQ leaf m B q n) (clB leaf m B (i + 1)) (if bitB m i = true then inputB 6 [B.getD i [], clB leaf m B i] else inputB 6 [clB leaf m B i, B.getD i []])
  | 0, h => by omega
  | n + 1, h => by
    by_cases e : i = n
    · subst e
      have hcl : clB leaf m B (i + 1) = if bitB m i = true then nodeB (B.getD i []) (clB leaf m B i) else nodeB (clB leaf m B i) (B.getD i []) := rfl
      rw [hcl]
      simp only [clQ]
      split
      · exact has_here _ _ _
      · exact has_here _ _ _
    · have := cl_has leaf m B q i n (by omega)
      simp only [clQ]
      split
      · exact has_two this _ _
      · exact has_two this _ _
theorem two_inj {a b c d : Dig} (ha : a.length = 32) (hb : b.length = 32) (hc : c.length = 32) (hd : d.length = 32) (h : inputB 6 [a, b] = inputB 6 [c, d]) : a = c ∧ b = d := by
  simp only [inputB, List.map_cons, List.map_nil, List.flatten_cons, List.flatten_nil, List.append_nil] at h
  have h := List.append_cancel_left h
  obtain ⟨h1, h2⟩ := List.append_inj h (by simp [Wi.textB, Wi.bigB_length, ha, hc])
  have key : ∀ {x y : Dig}, x.length = 32 → y.length = 32 → Wi.textB x = Wi.textB y → x = y := fun hx hy e => by
    unfold Wi.textB at e
    rw [hx, hy] at e
    exact List.append_cancel_left e
  exact ⟨key ha hc h1, key hb hd h2⟩
/-- What a branch proves under a tree's root is what stands there, by whatever log that has the tree's inputs and the climb's. -/
theorem binds_gen {L : List Dig} (hL : All32 L) {leaf : Dig} (hf : leaf.length = 32) {B : List Dig} (hB : All32 B) {m : Nat} (hm : m < 4294967296) {Q : Log} (hinv : LInv Q) (hp : provesB (rootB L) leaf m B = true)
    (hT : ∀ n k, n + 1 ≤ 32 → k < 2 ^ (32 - (n + 1)) → has Q (nd L (n + 1) k) (inputB 6 [nd L n (2 * k), nd L n (2 * k + 1)]))
    (hC : ∀ i, i < upTo B → has Q (clB leaf m B (i + 1)) (if bitB m i = true then inputB 6 [B.getD i [], clB leaf m B i] else inputB 6 [clB leaf m B i, B.getD i []]))
    (hc : clashL Q = false) : leaf = nd L 0 m := by
  simp only [provesB, Bool.and_eq_true, decide_eq_true_eq] at hp
  obtain ⟨h32, hcl⟩ := hp
  have hup : upTo B = 32 := upTo_32 h32
  unfold climbB at hcl
  rw [hup] at hcl
  have hbl : ∀ i, i < 32 → (B.getD i []).length = 32 := fun i hi => by rw [getD_any (by omega) [] z0]; exact getD_all hB z0_length i
  have key : ∀ t j, j + t = 32 → clB leaf m B j = nd L j (m / 2 ^ j) := by
    intro t
    induction t with
    | zero =>
      intro j hj
      have : j = 32 := by omega
      subst this
      rw [hcl, Nat.div_eq_of_lt (by have : (2 : Nat) ^ 32 = 4294967296 := by decide
                                    omega)]
      rfl
    | succ t ih =>
      intro j hj
      have h1 := ih (j + 1) (by omega)
      have hK : m / 2 ^ (j + 1) < 2 ^ (32 - (j + 1)) := by
        rw [Nat.div_lt_iff_lt_mul (Nat.pow_pos (by omega)), ← Nat.pow_add]
        have : 32 - (j + 1) + (j + 1) = 32 := by omega
        rw [this]
        have : (2 : Nat) ^ 32 = 4294967296 := by decide
        omega
      have a1 := hT j _ (by omega) hK
      have a2 := hC j (by omega)
      rw [h1] at a2
      have a3 := hinv.one hc a1 a2
      have hd : m / 2 ^ (j + 1) = m / 2 ^ j / 2 := by rw [Nat.pow_succ, Nat.div_div_eq_div_mul]
      rw [hd] at a3
      have l1 := nd_length hL j (2 * (m / 2 ^ j / 2))
      have l2 := nd_length hL j (2 * (m / 2 ^ j / 2) + 1)
      have l3 := hbl j (by omega)
      have l4 := clB_length hf m B j
      by_cases hb : bitB m j = true
      · rw [if_pos hb] at a3
        have hb' : m / 2 ^ j % 2 = 1 := by simpa [bitB] using hb
        have h3 := (two_inj l1 l2 l3 l4 a3).2
        rw [← h3]
        congr 1
        generalize m / 2 ^ j = x at hb'
        omega
      · rw [if_neg hb] at a3
        have hb' : ¬ m / 2 ^ j % 2 = 1 := by simpa [bitB] using hb
        have h3 := (two_inj l1 l2 l4 l3 a3).1
        rw [← h3]
        congr 1
        generalize m / 2 ^ j = x at hb'
        omega
  have := key 32 0 (by omega)
  simpa [clB] using this
/-- What a branch proves under a tree's root is what stands there. -/
theorem binds {L : List Dig} (hL : All32 L) {leaf : Dig} (hf : leaf.length = 32) {B : List Dig} (hB : All32 B) {m : Nat} (hm : m < 4294967296) {q : Log} (hq : LInv q) (hp : provesB (rootB L) leaf m B = true)
    (hc : clashL (climbL leaf m B (treeL L q)) = false) : leaf = nd L 0 m :=
  binds_gen hL hf hB hm (clQ_inv leaf m B (treeL_inv L hq) _) hp (fun n k hn hk => has_clQ leaf m B (tree_has L q n k hn hk) _) (fun i hi => cl_has leaf m B (treeL L q) i (upTo B) hi) hc
end Go.Den.Q33.Me
/- Law 33: leaves and heads of the document's answer, with a log. -/
namespace Go.Den.Q33
open Go Go.Den Go.Proofs Go.Den.Q33.Dg
set_option maxRecDepth 8000
set_option linter.unusedVariables false
set_option linter.unusedSimpArgs false
open Go.Den.Q33.Sh (dgE)
open Go.Den.Q33.Me (Dig dsE All32 z0 rootB eqDg brL provesB climbB treeL treeL_inv treeL_len climbL twoL clQ_inv clQ_len upTo)
open Go.Den.Q33.Lg (Log LInv logB noteL ofL has clashL)

theorem ofL_inv {q : Log} (h : LInv q) (x : UInt8) (ps : List (List UInt8)) : LInv (ofL x ps q) := h.note _ _
theorem ofL_len (x : UInt8) (ps : List (List UInt8)) (q : Log) : (ofL x ps q).1.length ≤ q.1.length + 1 := Lg.noteL_len _ _ _

def recL (i : Nat) (e : Int) (q : Log) : Log := ofL 204 [Wi.bigB i 4, Wi.bigB (e % 18446744073709551616).toNat 8] q
theorem rrec_lg {i : Nat} (h : i < 4294967296) (e : Int) (q : Log) (hq : LInv q) (hl : q.1.length ≤ 100000) :
    FnG Tryd.prog tb 40 (logB q) [.ptr 0 [], .t 22 (.e (.int i)), .t 3 (.e (.int e))] (fun r t => r = .t 24 (.e (dgE (recB i e))) ∧ t = logB (recL i e q)) := by
  refine FnG_of_V (fn := Tryd.f40) (bt := 4) true [] [24] (ok 3 _) Tryd.func40 rfl rfl rfl fun _ _ _ _ _ _ => ?_
  apply V_of_VX
  have hi := rec_input i e
  have he := u64e e
  unfold recB recL
  generalize (e % 18446744073709551616).toNat = n at hi he ⊢
  have c2 := Lg.rof_lg 204 [Wi.bigB i 4, Wi.bigB n 8] q hq hl hi
  generalize ofB 204 [Wi.bigB i 4, Wi.bigB n 8] = d at c2 ⊢
  generalize ofL 204 [Wi.bigB i 4, Wi.bigB n 8] q = q' at c2 ⊢
  unfold logB Lg.lgB at c2 ⊢
  generalize Lg.entL q.2 = E0 at c2 ⊢
  generalize Lg.entL q'.2 = E1 at c2 ⊢
  generalize q.1.map E.str = I0 at c2 ⊢
  generalize q'.1.map E.str = I1 at c2 ⊢
  refine VX_go4 (fs := []) (ok 3 _) eqs trivial 100 [] rfl trivial ?_
  refine VX_callD (ok 3 _) [22, 3] [] rfl rfl rfl rfl rfl rfl (Wi.Big_ok i 4 (by omega) (by omega) (by omega)).g rfl rfl rfl ?_
  refine VX_go4 (fs := []) (ok 3 _) eqs trivial 100 [12] rfl trivial ?_
  refine VX_eq 11 rfl rfl (d' := .t 22 (.e (.int n))) (congrArg (fun x => D.t 22 (.e (.int x))) he.1) ?_
  refine VX_callD (ok 3 _) [22, 3] [] rfl rfl rfl rfl rfl rfl (Wi.Big_ok n 8 (by omega) (by omega) he.2).g rfl rfl rfl ?_
  refine VX_go4 (fs := []) (ok 3 _) eqs trivial 100 [] rfl trivial ?_
  refine VX_callD (ok 3 _) [61, 5, 25] [0, 1, 2] rfl rfl rfl rfl rfl rfl c2 rfl rfl rfl ?_
  refine VX_go4 (fs := []) (ok 3 _) eqs trivial 100 [] rfl trivial ?_
  exact ⟨.inr rfl, _, _, _, rfl, rfl, rfl, rfl, rfl⟩

/-- The first calls' leaves noted. -/
def clsQ (cs : List (List UInt8)) (q : Log) : Nat → Log
  | 0 => q
  | i + 1 => ofL 203 [cs.getD i []] (clsQ cs q i)
theorem clsQ_inv (cs : List (List UInt8)) {q : Log} (h : LInv q) : ∀ i, LInv (clsQ cs q i)
  | 0 => h
  | i + 1 => ofL_inv (clsQ_inv cs h i) _ _
theorem clsQ_len (cs : List (List UInt8)) (q : Log) : ∀ i, (clsQ cs q i).1.length ≤ q.1.length + i
  | 0 => Nat.le_refl _
  | i + 1 => by have := clsQ_len cs q i; have := ofL_len 203 [cs.getD i []] (clsQ cs q i); simp only [clsQ]; omega
/-- The first receipts' leaves noted. -/
def rcsQ (rs : List Int) (q : Log) : Nat → Log
  | 0 => q
  | i + 1 => recL i (rs.getD i 0) (rcsQ rs q i)
theorem rcsQ_inv (rs : List Int) {q : Log} (h : LInv q) : ∀ i, LInv (rcsQ rs q i)
  | 0 => h
  | i + 1 => ofL_inv (rcsQ_inv rs h i) _ _
theorem rcsQ_len (rs : List Int) (q : Log) : ∀ i, (rcsQ rs q i).1.length ≤ q.1.length + i
  | 0 => Nat.le_refl _
  | i + 1 => by
    have := rcsQ_len rs q i
    have : (recL i (rs.getD i 0) (rcsQ rs q i)).1.length ≤ (rcsQ rs q i).1.length + 1 := ofL_len _ _ _
    simp only [rcsQ]; omega
def lvsQ (cs : List (List UInt8)) (rs : List Int) (q : Log) : Log := rcsQ rs (clsQ cs q cs.length) rs.length

set_option maxHeartbeats 1600000 in
theorem rleaves_lg {x : Bk} (h : Small x) (q : Log) (hq : LInv q) (hlq : q.1.length ≤ 50000) :
    FnG Tryd.prog tb 30 (logB q) [.ptr 0 [], .t 47 (.e x.E)] (fun r t => r = .tup [.t 34 (.e (dsE (cL x.cs))), .t 34 (.e (dsE (rL x.rs)))] ∧ t = logB (lvsQ x.cs x.rs q)) := by
  refine FnG_of_V (fn := Tryd.f30) (bt := 4) false [] [34, 34] (ok 3 _) Tryd.func30 rfl rfl rfl fun _ _ _ _ _ _ => ?_
  obtain ⟨xh, xp, xb, cs, rs, xs⟩ := x
  obtain ⟨hc, hr, hs⟩ := h
  simp only at hc hr hs ⊢
  have hcm : (cs.map E.str).length = cs.length := by simp
  have hrm : (rs.map E.int).length = rs.length := by simp
  have hinv := clsQ_inv cs hq
  have hlen := clsQ_len cs q
  unfold lvsQ
  have e0 : Lg.entL q.2 = Lg.entL (clsQ cs q 0).2 := rfl
  have e1 : q.1.map E.str = (clsQ cs q 0).1.map E.str := rfl
  unfold logB Lg.lgB
  rw [e0, e1]
  apply V_of_VX
  refine VX_go4 (fs := []) (ok 3 _) eqs trivial 100 [] rfl trivial ?_
  refine VX_promote 6 (u := 24) rfl rfl ?_
  refine VX_loopA (fun i : Nat => i ≤ cs.length) (fun i => [(13, .t 3 (.e (.int i))), (12, .t 3 (.e (.int cs.length))), (7, .t 34 .nsl), (6, .t 34 (.lsl 4 (((cL cs).take i).map dgE))), (3, .ptr 3 []), (0, .ptr 0 [])])
    (fun i => [.tree 67 (.st [.lsl 1 ((clsQ cs q i).1.map E.str), .mp 2]), .row 9 ((clsQ cs q i).1.map E.str).length, .mp 24 9 (Lg.entL (clsQ cs q i).2), .tree 47 (.e (Bk.E ⟨xh, xp, xb, cs, rs, xs⟩)), .row 24 (((cL cs).take i).map dgE).length]) (fun i => cs.length - i) 0 (by omega) ?_ ?_
  · exact wk1 rfl rfl (by simp [Blk.under, T.under, T.unders]) (lc (ls rfl rfl) (lc (li (by rw [hcm])) (lc (ls rfl rfl) (lc (ls rfl rfl) (lc (ls rfl rfl) (lc (ls rfl rfl) lnil))))))
  · intro i hi
    have htl : (((cL cs).take i).map dgE).length ≤ 1000 := by simp; omega
    have hli := hlen i
    refine VX_go4 (fs := []) (ok 3 _) eqs trivial 100 [] rfl trivial ?_
    refine VX_split 14 rfl rfl (fun h => ?_) (fun h => ?_)
    · have hi : i < cs.length := by simpa using h
      have ei : IntKind.wrap .i64 ((i : Int) + 1) = ((i + 1 : Nat) : Int) := by rw [w64 (by omega) (by omega)]; simp
      have hg := str_get hi
      have hb := hs _ (getD_mem hi)
      have hm : ((cL cs).take (i + 1)).map dgE = ((cL cs).take i).map dgE ++ [dgE (callB (cs.getD i []))] := by rw [cL_take cs i hi]; simp
      have c1 := Lg.rof_lg 203 [cs.getD i []] (clsQ cs q i) (hinv i) (by omega) (call_input hb)
      have hd : callB (cs.getD i []) = ofB 203 [cs.getD i []] := rfl
      have hnq : clsQ cs q (i + 1) = ofL 203 [cs.getD i []] (clsQ cs q i) := rfl
      rw [hd] at hm
      generalize ofL 203 [cs.getD i []] (clsQ cs q i) = q1 at c1 hnq
      generalize ofB 203 [cs.getD i []] = d at c1 hm
      generalize cs.getD i [] = s at c1 hg
      generalize ((cL cs).take i).map dgE = O at hm htl ⊢
      generalize clsQ cs q i = q0 at c1 ⊢
      unfold logB Lg.lgB at c1
      have g1 : (clsQ cs q (i + 1)).1.map E.str = q1.1.map E.str := by rw [hnq]
      have g2 : Lg.entL (clsQ cs q (i + 1)).2 = Lg.entL q1.2 := by rw [hnq]
      generalize Lg.entL q0.2 = E0 at c1 ⊢
      generalize q0.1.map E.str = I0 at c1 ⊢
      generalize Lg.entL q1.2 = E1 at c1 g2
      generalize q1.1.map E.str = I1 at c1 g1
      refine VX_go4 (fs := []) (ok 3 _) eqs trivial 100 [23] rfl (by simp [allP]; omega) ?_
      refine VX_eq 22 rfl rfl (d' := .t 9 (.e (.str s))) (congrArg (fun x => D.t 9 (.e x)) hg) ?_
      refine VX_go4 (fs := []) (ok 3 _) eqs trivial 100 [] rfl trivial ?_
      refine VX_callD (ok 3 _) [61, 5, 25] [0, 1, 2] rfl rfl rfl rfl rfl rfl c1 rfl rfl rfl ?_
      refine VX_go4 (fs := []) (ok 3 _) eqs trivial 100 [] rfl (by simp [allP, nb, tb, maxL]; omega) ?_
      refine loop_nrm ⟨i + 1, by omega, by omega, ?_⟩
      exact wk1 (by rw [hm, g1, g2]) rfl (by simp [Blk.under, T.under, T.unders]) (lc (li (by rw [ei])) (lc (ls rfl rfl) (lc (ls rfl rfl) (lc (ls (by rw [hm]; rfl) rfl) (lc (ls rfl rfl) (lc (ls rfl rfl) lnil))))))
    · have hi' : i = cs.length := by simp at h; omega
      subst hi'
      have : (cL cs).take cs.length = cL cs := List.take_of_length_le (by rw [cL_length]; exact Nat.le_refl _)
      rw [this]
      generalize cL cs = A
      have hq1 := hinv cs.length
      generalize clsQ cs q cs.length = q1 at hli hq1 ⊢
      have hinv2 := rcsQ_inv rs hq1
      have hlen2 := rcsQ_len rs q1
      have e0 : Lg.entL q1.2 = Lg.entL (rcsQ rs q1 0).2 := rfl
      have e1 : q1.1.map E.str = (rcsQ rs q1 0).1.map E.str := rfl
      rw [e0, e1]
      refine VX_go4 (fs := []) (ok 3 _) eqs trivial 100 [] rfl trivial ?_
      apply loop_brk
      refine VX_go4 (fs := []) (ok 3 _) eqs trivial 100 [] rfl trivial ?_
      refine VX_promote 7 (u := 24) rfl rfl ?_
      refine VX_loopA (fun i : Nat => i ≤ rs.length) (fun i => [(31, .t 3 (.e (.int i))), (30, .t 3 (.e (.int rs.length))), (7, .t 34 (.lsl 5 (((rL rs).take i).map dgE))), (6, .t 34 (.lsl 4 (A.map dgE))), (3, .ptr 3 []), (0, .ptr 0 [])])
        (fun i => [.tree 67 (.st [.lsl 1 ((rcsQ rs q1 i).1.map E.str), .mp 2]), .row 9 ((rcsQ rs q1 i).1.map E.str).length, .mp 24 9 (Lg.entL (rcsQ rs q1 i).2), .tree 47 (.e (Bk.E ⟨xh, xp, xb, cs, rs, xs⟩)), .row 24 (A.map dgE).length, .row 24 (((rL rs).take i).map dgE).length]) (fun i => rs.length - i) 0 (by omega) ?_ ?_
      · exact wk1 rfl rfl (by simp [Blk.under, T.under, T.unders]) (lc (ls rfl rfl) (lc (li (by rw [hrm])) (lc (ls rfl rfl) (lc (ls rfl rfl) (lc (ls rfl rfl) (lc (ls rfl rfl) lnil))))))
      · intro i hi
        have htl : (((rL rs).take i).map dgE).length ≤ 1000 := by simp; omega
        have hli2 := hlen2 i
        refine VX_go4 (fs := []) (ok 3 _) eqs trivial 100 [] rfl trivial ?_
        refine VX_split 32 rfl rfl (fun h => ?_) (fun h => ?_)
        · have hi : i < rs.length := by simpa using h
          have ei : IntKind.wrap .i64 ((i : Int) + 1) = ((i + 1 : Nat) : Int) := by rw [w64 (by omega) (by omega)]; simp
          have hg := int_get hi
          have hm : ((rL rs).take (i + 1)).map dgE = ((rL rs).take i).map dgE ++ [dgE (recB i (rs.getD i 0))] := by rw [rL_take rs i hi]; simp
          have c1 := rrec_lg (i := i) (by omega) (rs.getD i 0) (rcsQ rs q1 i) (hinv2 i) (by omega)
          have hnq : rcsQ rs q1 (i + 1) = recL i (rs.getD i 0) (rcsQ rs q1 i) := rfl
          generalize recL i (rs.getD i 0) (rcsQ rs q1 i) = q2 at c1 hnq
          generalize recB i (rs.getD i 0) = d at c1 hm
          generalize rs.getD i 0 = s at c1 hg
          generalize ((rL rs).take i).map dgE = O at hm htl ⊢
          generalize rcsQ rs q1 i = q0 at c1 ⊢
          unfold logB Lg.lgB at c1
          have g1 : (rcsQ rs q1 (i + 1)).1.map E.str = q2.1.map E.str := by rw [hnq]
          have g2 : Lg.entL (rcsQ rs q1 (i + 1)).2 = Lg.entL q2.2 := by rw [hnq]
          generalize Lg.entL q0.2 = E0 at c1 ⊢
          generalize q0.1.map E.str = I0 at c1 ⊢
          generalize Lg.entL q2.2 = E1 at c1 g2
          generalize q2.1.map E.str = I1 at c1 g1
          refine VX_go4 (fs := []) (ok 3 _) eqs trivial 100 [38] rfl trivial ?_
          refine VX_eq 37 rfl rfl (d' := .t 22 (.e (.int i))) (congrArg (fun x => D.t 22 (.e (.int x))) (u64n i (by omega))) ?_
          refine VX_go4 (fs := []) (ok 3 _) eqs trivial 100 [43] rfl (by simp [allP]; omega) ?_
          refine VX_eq 42 rfl rfl (d' := .t 3 (.e (.int s))) (congrArg (fun x => D.t 3 (.e x)) hg) ?_
          refine VX_callD (ok 3 _) [61, 22, 3] [0, 1, 2] rfl rfl rfl rfl rfl rfl c1 rfl rfl rfl ?_
          refine VX_go4 (fs := []) (ok 3 _) eqs trivial 100 [] rfl (by simp [allP, nb, tb, maxL]; omega) ?_
          refine loop_nrm ⟨i + 1, by omega, by omega, ?_⟩
          exact wk1 (by rw [hm, g1, g2]) rfl (by simp [Blk.under, T.under, T.unders]) (lc (li (by rw [ei])) (lc (ls rfl rfl) (lc (ls (by rw [hm]; rfl) rfl) (lc (ls rfl rfl) (lc (ls rfl rfl) (lc (ls rfl rfl) lnil))))))
        · have hi' : i = rs.length := by simp at h; omega
          subst hi'
          have : (rL rs).take rs.length = rL rs := List.take_of_length_le (by rw [rL_length]; exact Nat.le_refl _)
          rw [this]
          generalize rL rs = R
          generalize rcsQ rs q1 rs.length = q2
          generalize Lg.entL q2.2 = E1
          generalize q2.1.map E.str = I1
          refine VX_go4 (fs := []) (ok 3 _) eqs trivial 100 [] rfl trivial ?_
          apply loop_brk
          refine VX_go4 (fs := []) (ok 3 _) eqs trivial 100 [] rfl trivial ?_
          exact ⟨.inr rfl, _, _, _, rfl, rfl, rfl, rfl, rfl⟩
end Go.Den.Q33
/- Law 33: heads, and what is shown, of the document's answer, with a log. -/
namespace Go.Den.Q33
open Go Go.Den Go.Proofs Go.Den.Q33.Dg
set_option maxRecDepth 8000
set_option linter.unusedVariables false
set_option linter.unusedSimpArgs false
open Go.Den.Q33.Sh (dgE)
open Go.Den.Q33.Me (Dig dsE All32 z0 rootB eqDg brL provesB climbB treeL treeL_inv treeL_len climbL twoL clQ_inv clQ_len upTo eqDgD)
open Go.Den.Q33.Lg (Log LInv logB noteL ofL has clashL)

theorem lvsQ_inv (cs : List (List UInt8)) (rs : List Int) {q : Log} (h : LInv q) : LInv (lvsQ cs rs q) := rcsQ_inv rs (clsQ_inv cs h _) _
theorem lvsQ_len (cs : List (List UInt8)) (rs : List Int) (q : Log) : (lvsQ cs rs q).1.length ≤ q.1.length + cs.length + rs.length := by
  have h1 := clsQ_len cs q cs.length
  have h2 := rcsQ_len rs (clsQ cs q cs.length) rs.length
  unfold lvsQ; omega
/-- A head's inputs noted. -/
def hdQ (x : Bk) (q : Log) : Log := treeL (rL x.rs) (treeL (cL x.cs) (lvsQ x.cs x.rs q))
theorem hdQ_inv (x : Bk) {q : Log} (h : LInv q) : LInv (hdQ x q) := treeL_inv _ (treeL_inv _ (lvsQ_inv _ _ h))
theorem hdQ_len (x : Bk) (q : Log) : (hdQ x q).1.length ≤ q.1.length + 66 + 33 * x.cs.length + 33 * x.rs.length := by
  have h1 := lvsQ_len x.cs x.rs q
  have h2 := treeL_len (cL x.cs) (lvsQ x.cs x.rs q)
  have h3 := treeL_len (rL x.rs) (treeL (cL x.cs) (lvsQ x.cs x.rs q))
  rw [cL_length] at h2
  rw [rL_length] at h3
  unfold hdQ; omega

theorem rofh_lg {x : Bk} (hs : Small x) (hc : x.cs.length ≤ 200) (hr : x.rs.length ≤ 200) (p : Dig) (q : Log) (hq : LInv q) (hlq : q.1.length ≤ 10000) :
    FnG Tryd.prog tb 20 (logB q) [.ptr 0 [], .t 47 (.e x.E), .t 24 (.e (dgE p))] (fun r t => r = .t 63 (.e (ofHB x p).E) ∧ t = logB (hdQ x q)) := by
  refine FnG_of_V (fn := Tryd.f20) (bt := 4) true [] [63] (ok 3 _) Tryd.func20 rfl rfl rfl fun _ _ _ _ _ _ => ?_
  have l1 := lvsQ_len x.cs x.rs q
  have i1 := lvsQ_inv x.cs x.rs hq
  have l2 := treeL_len (cL x.cs) (lvsQ x.cs x.rs q)
  have i2 := treeL_inv (cL x.cs) i1
  rw [cL_length] at l2
  have c1 := rleaves_lg hs q hq (by omega)
  have c2 := Me.rtree_lg (L := cL x.cs) (by rw [cL_length]; omega) (cL_all _) (lvsQ x.cs x.rs q) i1 (by omega)
  have c3 := Me.rtree_lg (L := rL x.rs) (by rw [rL_length]; omega) (rL_all _) (treeL (cL x.cs) (lvsQ x.cs x.rs q)) i2 (by omega)
  have hl := hs.1
  obtain ⟨xh, xp, xb, cs, rs, xs⟩ := x
  unfold ofHB hdQ
  simp only at c1 c2 c3 hl ⊢
  clear l1 i1 l2 i2
  have hcm : (cs.map E.str).length = cs.length := by simp
  have e31 : IntKind.wrap .u32 ((((cs.map E.str).length : Nat) : Int)) = (cs.length : Int) := by rw [hcm]; exact u32n _ (by omega)
  generalize lvsQ cs rs q = q1 at c1 c2 c3 ⊢
  generalize treeL (cL cs) q1 = q2 at c2 c3 ⊢
  generalize treeL (rL rs) q2 = q3 at c3 ⊢
  generalize rootB (cL cs) = A at c2 ⊢
  generalize rootB (rL rs) = B at c3 ⊢
  generalize cL cs = LA at c1 c2
  generalize rL rs = LB at c1 c3
  unfold logB Lg.lgB at c1 c2 c3 ⊢
  generalize Lg.entL q.2 = E0 at c1 ⊢
  generalize q.1.map E.str = I0 at c1 ⊢
  generalize Lg.entL q1.2 = E1 at c1 c2
  generalize q1.1.map E.str = I1 at c1 c2
  generalize Lg.entL q2.2 = E2 at c2 c3
  generalize q2.1.map E.str = I2 at c2 c3
  generalize Lg.entL q3.2 = E3 at c3 ⊢
  generalize q3.1.map E.str = I3 at c3 ⊢
  apply V_of_VX
  refine VX_go4 (fs := []) (ok 3 _) eqs trivial 100 [] rfl trivial ?_
  refine VX_callD (ok 3 _) [61, 47] [0, 1, 2] rfl rfl rfl rfl rfl rfl c1 rfl rfl rfl ?_
  refine VX_go4 (fs := []) (ok 3 _) eqs trivial 100 [] rfl trivial ?_
  refine VX_callD (ok 3 _) [61, 34] [0, 1, 2] rfl rfl rfl rfl rfl rfl c2 rfl rfl rfl ?_
  refine VX_go4 (fs := []) (ok 3 _) eqs trivial 100 [] rfl trivial ?_
  refine VX_callD (ok 3 _) [61, 34] [0, 1, 2] rfl rfl rfl rfl rfl rfl c3 rfl rfl rfl ?_
  refine VX_go4 (fs := []) (ok 3 _) eqs trivial 100 [39] rfl trivial ?_
  refine VX_eq 38 rfl rfl (d' := .t 32 (.e (.int cs.length))) (congrArg (fun x => D.t 32 (.e (.int x))) e31) ?_
  refine VX_go4 (fs := []) (ok 3 _) eqs trivial 100 [] rfl trivial ?_
  exact ⟨.inr rfl, _, _, _, rfl, rfl, rfl, rfl, rfl⟩

/-- A proof that proves, its climb noted. -/
theorem rproves_lg {root leaf : Dig} {B : List Dig} (hf : leaf.length = 32) (hB : All32 B) (hl : B.length ≤ 100000) (m : Nat) (hm : m < 4294967296) (q : Log) (hq : LInv q) (hlq : q.1.length ≤ 50000) (hp : provesB root leaf m B = true) :
    FnG Tryd.prog tb 38 (logB q) [.ptr 0 [], .t 24 (.e (dgE root)), .t 24 (.e (dgE leaf)), .t 32 (.e (.int m)), .t 34 (.e (dsE B))] (fun r t => r = .t 4 (.e (.bool true)) ∧ t = logB (climbL leaf m B q)) := by
  refine FnG_of_V (fn := Tryd.f38) (bt := 4) true [] [4] (ok 3 _) Tryd.func38 rfl rfl rfl fun _ _ _ _ _ _ => ?_
  apply V_of_VX
  have hlm : (B.map dgE).length = B.length := by simp
  have c1 := Me.rclimb_lg hf hB hl m hm q hq hlq
  simp only [provesB, Bool.and_eq_true, decide_eq_true_eq] at hp
  obtain ⟨h32, hcl⟩ := hp
  have he := eqDgD (climbB leaf m B) root
  rw [hcl] at he c1
  have he : eqE (dgE root) (dgE root) = true := by rw [he]; simp
  generalize climbL leaf m B q = q1 at c1 ⊢
  unfold logB Lg.lgB at c1 ⊢
  generalize Lg.entL q.2 = E0 at c1 ⊢
  generalize q.1.map E.str = I0 at c1 ⊢
  generalize Lg.entL q1.2 = E1 at c1 ⊢
  generalize q1.1.map E.str = I1 at c1 ⊢
  refine VX_go4 (fs := []) (ok 3 _) eqs trivial 100 [] rfl trivial ?_
  refine VX_known 13 false rfl rfl (by simp; omega) ?_
  refine VX_go4 (fs := []) (ok 3 _) eqs trivial 100 [] rfl trivial ?_
  refine VX_draw [0, 1, 2] [(0, true), (1, true), (2, true), (3, true), (5, true), (4, false), (6, true), (7, true)] mixed (by kernel_rfl) (by kernel_rfl) (by kernel_rfl) ?_
  refine VX_go4 (fs := []) (ok 3 _) eqs trivial 100 [] rfl trivial ?_
  refine VX_callO (ok 3 _) [61, 24, 32, 34] [0, 1, 2] rfl rfl rfl rfl rfl rfl rfl rfl c1 rfl rfl rfl ?_
  refine VX_go4 (fs := []) (ok 3 _) eqs trivial 100 [] rfl trivial ?_
  rw [he]
  exact ⟨.inr rfl, _, _, _, rfl, rfl, rfl, rfl, rfl⟩

/-- What is shown of one head, noted. -/
def shwQ (p : Pf) (q : Log) : Log := climbL (recB p.a p.e) p.a p.rs (recL p.a p.e (climbL (callB p.c) p.a p.cs (ofL 203 [p.c] q)))
theorem climbL_inv (leaf : Dig) (m : Nat) (B : List Dig) {q : Log} (h : LInv q) : LInv (climbL leaf m B q) := clQ_inv leaf m B h _
theorem climbL_len (leaf : Dig) (m : Nat) (B : List Dig) (q : Log) : (climbL leaf m B q).1.length ≤ q.1.length + 32 := by
  have h1 := clQ_len leaf m B q (upTo B)
  have h2 : upTo B ≤ 32 := by unfold upTo; split <;> omega
  unfold climbL; omega
theorem shwQ_inv (p : Pf) {q : Log} (h : LInv q) : LInv (shwQ p q) := climbL_inv _ _ _ (ofL_inv (climbL_inv _ _ _ (ofL_inv h _ _)) _ _)
theorem shwQ_len (p : Pf) (q : Log) : (shwQ p q).1.length ≤ q.1.length + 66 := by
  have h1 := ofL_len 203 [p.c] q
  have h2 := climbL_len (callB p.c) p.a p.cs (ofL 203 [p.c] q)
  have h3 : (recL p.a p.e (climbL (callB p.c) p.a p.cs (ofL 203 [p.c] q))).1.length ≤ (climbL (callB p.c) p.a p.cs (ofL 203 [p.c] q)).1.length + 1 := ofL_len _ _ _
  have h4 := climbL_len (recB p.a p.e) p.a p.rs (recL p.a p.e (climbL (callB p.c) p.a p.cs (ofL 203 [p.c] q)))
  unfold shwQ; omega

set_option maxHeartbeats 1600000 in
theorem rshows_lg (h : Hd) {p : Pf} (hp : p.ok) (q : Log) (hq : LInv q) (hlq : q.1.length ≤ 40000) (hn : p.a < h.n) (h1 : provesB h.c (callB p.c) p.a p.cs = true) (h2 : provesB h.r (recB p.a p.e) p.a p.rs = true) :
    FnG Tryd.prog tb 15 (logB q) [.ptr 0 [], .t 53 (.e (hsE [h])), .t 22 (.e (.int h.h)), .t 42 (.e p.E)] (fun r t => r = .t 3 (.e (.int 0)) ∧ t = logB (shwQ p q)) := by
  refine FnG_of_V (fn := Tryd.f15) (bt := 4) true [] [3] (ok 3 _) Tryd.func15 rfl rfl rfl fun _ _ _ _ _ _ => ?_
  have l1 := ofL_len 203 [p.c] q
  have l2 := climbL_len (callB p.c) p.a p.cs (ofL 203 [p.c] q)
  have l3 : (recL p.a p.e (climbL (callB p.c) p.a p.cs (ofL 203 [p.c] q))).1.length ≤ (climbL (callB p.c) p.a p.cs (ofL 203 [p.c] q)).1.length + 1 := ofL_len _ _ _
  have i1 := ofL_inv hq 203 [p.c]
  have i2 := climbL_inv (callB p.c) p.a p.cs i1
  have i3 : LInv (recL p.a p.e (climbL (callB p.c) p.a p.cs (ofL 203 [p.c] q))) := ofL_inv i2 _ _
  have c1 := Lg.rof_lg 203 [p.c] q hq (by omega) (call_input hp.c)
  have c2 := rproves_lg (root := h.c) (callB_length p.c) hp.cs hp.lc p.a hp.a _ i1 (by omega) h1
  have c3 := rrec_lg hp.a p.e _ i2 (by omega)
  have c4 := rproves_lg (root := h.r) (recB_length p.a p.e) hp.rs hp.lr p.a hp.a _ i3 (by omega) h2
  have hpa := hp.a
  have ew := u64n p.a (by omega)
  have hcb : ofB 203 [p.c] = callB p.c := rfl
  rw [hcb] at c1
  clear l1 l2 l3 i1 i2 i3 h1 h2 hcb hp
  unfold shwQ
  generalize ofL 203 [p.c] q = q1 at c1 c2 c3 c4 ⊢
  generalize climbL (callB p.c) p.a p.cs q1 = q2 at c2 c3 c4 ⊢
  generalize recL p.a p.e q2 = q3 at c3 c4 ⊢
  generalize climbL (recB p.a p.e) p.a p.rs q3 = q4 at c4 ⊢
  generalize callB p.c = d1 at c1 c2
  generalize recB p.a p.e = d2 at c3 c4
  unfold logB Lg.lgB at c1 c2 c3 c4 ⊢
  generalize Lg.entL q.2 = E0 at c1 ⊢
  generalize q.1.map E.str = I0 at c1 ⊢
  generalize Lg.entL q1.2 = E1 at c1 c2
  generalize q1.1.map E.str = I1 at c1 c2
  generalize Lg.entL q2.2 = E2 at c2 c3
  generalize q2.1.map E.str = I2 at c2 c3
  generalize Lg.entL q3.2 = E3 at c3 c4
  generalize q3.1.map E.str = I3 at c3 c4
  generalize Lg.entL q4.2 = E4 at c4 ⊢
  generalize q4.1.map E.str = I4 at c4 ⊢
  obtain ⟨pa, pc, pe, pcs, prs⟩ := p
  obtain ⟨x1, x2, x3, x4, x5, x6, x7⟩ := h
  simp only at c1 c2 c3 c4 hpa ew hn ⊢
  apply V_of_VX
  refine VX_go4 (fs := []) (ok 3 _) eqs trivial 100 [] rfl trivial ?_
  refine VX_loopA (fun _ : Unit => True) (fun _ => [(13, .t 3 (.e (.int 0))), (12, .t 3 (.e (.int 1))), (11, .t 53 (.e (hsE [⟨x1, x2, x3, x4, x5, x6, x7⟩]))), (7, .ptr 3 []), (2, .t 22 (.e (.int x1))), (0, .ptr 0 [])])
    (fun _ => [.tree 67 (.st [.lsl 1 I0, .mp 2]), .row 9 I0.length, .mp 24 9 E0, .tree 42 (.e (Pf.E ⟨pa, pc, pe, pcs, prs⟩))]) (fun _ => 0) () trivial ?_ ?_
  · exact wk1 rfl rfl (by simp [Blk.under, T.under, T.unders]) (lc (ls rfl rfl) (lc (ls rfl rfl) (lc (ls rfl rfl) (lc (ls rfl rfl) (lc (ls rfl rfl) (lc (ls rfl rfl) lnil))))))
  · intro _ _
    refine VX_go4 (fs := []) (ok 3 _) eqs trivial 100 [] rfl trivial ?_
    refine VX_known 14 true rfl rfl (by simp) ?_
    refine VX_go4 (fs := []) (ok 3 _) eqs trivial 100 [] rfl (by simp [allP]) ?_
    refine VX_known 20 false rfl rfl (by simp [childE, Hd.E]) ?_
    refine VX_go4 (fs := []) (ok 3 _) eqs trivial 100 [] rfl trivial ?_
    refine VX_known 25 false rfl rfl (by simp; omega) ?_
    refine VX_go4 (fs := []) (ok 3 _) eqs trivial 100 [] rfl trivial ?_
    refine VX_draw [0, 1, 2] [(0, true), (1, true), (2, true), (3, true), (4, true), (5, true), (8, true), (9, true), (10, true), (11, true), (6, false), (7, false), (12, false), (13, true)] mixed (by kernel_rfl) (by kernel_rfl) (by kernel_rfl) ?_
    refine VX_go4 (fs := []) (ok 3 _) eqs trivial 100 [] rfl trivial ?_
    refine VX_litO (ok 3 _) rfl rfl rfl rfl rfl ?_
    refine VX_callO (ok 3 _) [61, 5, 25] [0, 1, 2] rfl rfl rfl rfl rfl rfl rfl rfl c1 rfl rfl rfl ?_
    refine VX_callO (ok 3 _) [61, 24, 24, 32, 34] [0, 1, 2] rfl rfl rfl rfl rfl rfl rfl rfl c2 rfl rfl rfl ?_
    refine VX_go4 (fs := []) (ok 3 _) eqs trivial 100 [] rfl trivial ?_
    refine VX_known 39 false rfl rfl rfl ?_
    refine VX_go4 (fs := []) (ok 3 _) eqs trivial 100 [] rfl trivial ?_
    refine VX_draw [0, 1, 2] [(0, true), (1, true), (2, true), (3, true), (4, true), (5, true), (6, true), (7, true), (8, true), (10, true), (11, true), (12, true), (13, true), (9, false), (14, false), (15, true)] mixed (by kernel_rfl) (by kernel_rfl) (by kernel_rfl) ?_
    refine VX_go4 (fs := []) (ok 3 _) eqs trivial 100 [] rfl trivial ?_
    refine VX_eq 46 rfl rfl (d' := .t 22 (.e (.int pa))) (congrArg (fun x => D.t 22 (.e (.int x))) ew) ?_
    refine VX_callO (ok 3 _) [61, 22, 3] [0, 1, 2] rfl rfl rfl rfl rfl rfl rfl rfl c3 rfl rfl rfl ?_
    refine VX_callO (ok 3 _) [61, 24, 24, 32, 34] [0, 1, 2] rfl rfl rfl rfl rfl rfl rfl rfl c4 rfl rfl rfl ?_
    refine VX_go4 (fs := []) (ok 3 _) eqs trivial 100 [] rfl trivial ?_
    refine VX_known 55 false rfl rfl rfl ?_
    refine VX_go4 (fs := []) (ok 3 _) eqs trivial 100 [] rfl trivial ?_
    apply loop_ret
    exact ⟨.inr rfl, _, _, _, rfl, rfl, rfl, rfl, rfl⟩
end Go.Den.Q33
/- Law 33: what a log that does not clash tells of a head and a proof. -/
namespace Go.Den.Q33.Wi
def numV (l : List UInt8) : Nat := l.foldl (fun n c => n * 256 + c.toNat) 0
theorem numV_snoc (l : List UInt8) (c : UInt8) : numV (l ++ [c]) = numV l * 256 + c.toNat := by simp [numV]
theorem bigB_succ (n k : Nat) : bigB n (k + 1) = bigB (n / 256) k ++ [UInt8.ofNat (n % 256)] := by
  unfold bigB
  rw [List.range_succ, List.map_append]
  congr 1
  · apply List.map_congr_left
    intro i hi
    have hi : i < k := by simpa using hi
    rw [show k + 1 - 1 - i = (k - 1 - i) + 1 by omega, Nat.pow_succ, Nat.mul_comm, ← Nat.div_div_eq_div_mul]
  · simp
theorem numV_bigB : ∀ (k n : Nat), n < 256 ^ k → numV (bigB n k) = n
  | 0, n, h => by have : n = 0 := by simpa using h
                  subst this; rfl
  | k + 1, n, h => by
    rw [bigB_succ, numV_snoc, numV_bigB k (n / 256) (by rw [Nat.pow_succ] at h; exact Nat.div_lt_of_lt_mul (by rw [Nat.mul_comm]; exact h))]
    have : (UInt8.ofNat (n % 256)).toNat = n % 256 := by simp [UInt8.toNat_ofNat']
    rw [this]; omega
end Go.Den.Q33.Wi
namespace Go.Den.Q33
open Go Go.Den Go.Proofs Go.Den.Q33.Dg
set_option maxRecDepth 8000
set_option linter.unusedVariables false
set_option linter.unusedSimpArgs false
open Go.Den.Q33.Sh (dgE)
open Go.Den.Q33.Me (Dig dsE All32 z0 rootB eqDg brL provesB climbB treeL treeL_inv treeL_len climbL twoL clQ clB clQ_inv clQ_len upTo eqDgD nd nght nd_zero has_clQ has_ndL has_nL tree_has cl_has binds_gen bitB)
open Go.Den.Q33.Lg (Log LInv logB noteL ofL has clashL)

theorem has_ofL {q : Log} {d s : List UInt8} (h : has q d s) (x : UInt8) (ps : List (List UInt8)) : has (ofL x ps q) d s := Lg.has_mono h _ _
theorem has_climb {q : Log} {d s : List UInt8} (h : has q d s) (leaf : Dig) (m : Nat) (B : List Dig) : has (climbL leaf m B q) d s := has_clQ leaf m B h _
theorem has_tree {q : Log} {d s : List UInt8} (h : has q d s) (L : List Dig) : has (treeL L q) d s := has_ndL L 32 0 (has_nL h 33)
theorem has_shw {q : Log} {d s : List UInt8} (h : has q d s) (p : Pf) : has (shwQ p q) d s := has_climb (has_ofL (has_climb (has_ofL h _ _) _ _ _) _ _) _ _ _
theorem has_cls (cs : List (List UInt8)) {q : Log} {d s : List UInt8} (h : has q d s) : ∀ i, has (clsQ cs q i) d s
  | 0 => h
  | i + 1 => has_ofL (has_cls cs h i) _ _
theorem has_rcs (rs : List Int) {q : Log} {d s : List UInt8} (h : has q d s) : ∀ i, has (rcsQ rs q i) d s
  | 0 => h
  | i + 1 => has_ofL (has_rcs rs h i) _ _
theorem has_here (x : UInt8) (ps : List (List UInt8)) (q : Log) : has (ofL x ps q) (ofB x ps) (inputB x ps) := Lg.has_note _ _ _
theorem cls_has (cs : List (List UInt8)) (q : Log) (i : Nat) : ∀ n, i < n → has (clsQ cs q n) (callB (cs.getD i [])) (inputB 203 [cs.getD i []])
  | 0, h => by omega
  | n + 1, h => by
    by_cases e : i = n
    · subst e; exact has_here _ _ _
    · exact has_ofL (cls_has cs q i n (by omega)) _ _
def recI (i : Nat) (e : Int) : List UInt8 := inputB 204 [Wi.bigB i 4, Wi.bigB (e % 18446744073709551616).toNat 8]
theorem rcs_has (rs : List Int) (q : Log) (i : Nat) : ∀ n, i < n → has (rcsQ rs q n) (recB i (rs.getD i 0)) (recI i (rs.getD i 0))
  | 0, h => by omega
  | n + 1, h => by
    by_cases e : i = n
    · subst e; exact has_here _ _ _
    · exact has_ofL (rcs_has rs q i n (by omega)) _ _

theorem text1_inj {s t : List UInt8} (hs : s.length < 4294967296) (ht : t.length < 4294967296) {u v : List UInt8} (h : Wi.textB s ++ u = Wi.textB t ++ v) : s = t ∧ u = v := by
  unfold Wi.textB at h
  rw [List.append_assoc, List.append_assoc] at h
  obtain ⟨h1, h2⟩ := List.append_inj h (by rw [Wi.bigB_length, Wi.bigB_length])
  have h3 : s.length = t.length := by
    have e1 := Wi.numV_bigB 4 s.length (by omega)
    have e2 := Wi.numV_bigB 4 t.length (by omega)
    rw [← e1, ← e2, h1]
  exact List.append_inj h2 h3
theorem in1_inj {x : UInt8} {s t : List UInt8} (hs : s.length < 4294967296) (ht : t.length < 4294967296) (h : inputB x [s] = inputB x [t]) : s = t := by
  simp only [inputB, List.map_cons, List.map_nil, List.flatten_cons, List.flatten_nil] at h
  exact (text1_inj hs ht (List.append_cancel_left h)).1
theorem in2_inj {x : UInt8} {s t s' t' : List UInt8} (hs : s.length < 4294967296) (ht : t.length < 4294967296) (hs' : s'.length < 4294967296) (ht' : t'.length < 4294967296) (h : inputB x [s, t] = inputB x [s', t']) : s = s' ∧ t = t' := by
  simp only [inputB, List.map_cons, List.map_nil, List.flatten_cons, List.flatten_nil] at h
  obtain ⟨h1, h2⟩ := text1_inj hs hs' (List.append_cancel_left h)
  exact ⟨h1, (text1_inj ht ht' h2).1⟩
theorem i64_inj {e f : Int} (he : inR .i64 e = true) (hf : inR .i64 f = true) (h : (e % 18446744073709551616).toNat = (f % 18446744073709551616).toNat) : e = f := by
  simp [inR] at he hf
  omega

/-- What a proof shows of a block's head is the block's call and receipt at that place. -/
theorem shown {x : Bk} (hs : Small x) (hlen : x.cs.length = x.rs.length) (hr64 : ∀ e ∈ x.rs, inR .i64 e = true) {p : Pf} (hp : p.ok) (hp64 : inR .i64 p.e = true) (p0 : Dig) (h0 : shwB (ofHB x p0) p = 0) {q : Log} (hq : LInv q)
    (hc : clashL (shwQ p (hdQ x q)) = false) : p.a < x.cs.length ∧ x.cs.getD p.a [] = p.c ∧ x.rs.getD p.a 0 = p.e := by
  have hinv : LInv (shwQ p (hdQ x q)) := shwQ_inv p (hdQ_inv x hq)
  unfold shwB at h0
  split at h0
  · cases h0
  rename_i hn
  split at h0
  · cases h0
  rename_i h1
  split at h0
  · cases h0
  rename_i h2
  have ha : p.a < x.cs.length := by simpa [ofHB] using hn
  have h1 : provesB (rootB (cL x.cs)) (callB p.c) p.a p.cs = true := by simpa [ofHB] using h1
  have h2 : provesB (rootB (rL x.rs)) (recB p.a p.e) p.a p.rs = true := by simpa [ofHB] using h2
  have har : p.a < x.rs.length := by omega
  -- the calls
  have b1 : callB p.c = nd (cL x.cs) 0 p.a := binds_gen (cL_all _) (callB_length _) hp.cs hp.a hinv h1
    (fun n k hn hk => has_shw (has_tree (tree_has (cL x.cs) _ n k hn hk) _) p)
    (fun i hi => has_climb (has_ofL (cl_has (callB p.c) p.a p.cs _ i (upTo p.cs) hi) _ _) _ _ _) hc
  have b2 : recB p.a p.e = nd (rL x.rs) 0 p.a := binds_gen (rL_all _) (recB_length _ _) hp.rs hp.a hinv h2
    (fun n k hn hk => has_shw (tree_has (rL x.rs) _ n k hn hk) p)
    (fun i hi => cl_has (recB p.a p.e) p.a p.rs _ i (upTo p.rs) hi) hc
  rw [nd_zero (by rw [cL_length]; exact ha) [], cL_get ha] at b1
  rw [nd_zero (by rw [rL_length]; exact har) [], rL_get har] at b2
  have k1 : has (shwQ p (hdQ x q)) (callB (x.cs.getD p.a [])) (inputB 203 [x.cs.getD p.a []]) :=
    has_shw (has_tree (has_tree (has_rcs x.rs (cls_has x.cs q p.a x.cs.length ha) _) _) _) p
  have k2 : has (shwQ p (hdQ x q)) (callB p.c) (inputB 203 [p.c]) := has_climb (has_ofL (has_climb (has_here 203 [p.c] _) _ _ _) _ _) _ _ _
  rw [b1] at k2
  have e1 := hinv.one hc k1 k2
  have k3 : has (shwQ p (hdQ x q)) (recB p.a (x.rs.getD p.a 0)) (recI p.a (x.rs.getD p.a 0)) := has_shw (has_tree (has_tree (rcs_has x.rs _ p.a x.rs.length har) _) _) p
  have k4 : has (shwQ p (hdQ x q)) (recB p.a p.e) (recI p.a p.e) := has_climb (has_here 204 _ _) _ _ _
  rw [b2] at k4
  have e2 := hinv.one hc k3 k4
  have hl := hs.2.2 _ (getD_mem ha)
  have hpl := hp.c
  refine ⟨ha, in1_inj (by omega) (by omega) e1, ?_⟩
  have e3 := (in2_inj (by simp [Wi.bigB_length]) (by simp [Wi.bigB_length]) (by simp [Wi.bigB_length]) (by simp [Wi.bigB_length]) e2).2
  have hmem : x.rs.getD p.a 0 ∈ x.rs := by simp [List.getD, har]
  refine i64_inj (hr64 _ hmem) hp64 ?_
  have u1 := (u64e (x.rs.getD p.a 0)).2
  have u2 := (u64e p.e).2
  have e4 := congrArg Wi.numV e3
  rw [Wi.numV_bigB 8 _ (by omega), Wi.numV_bigB 8 _ (by omega)] at e4
  exact e4
end Go.Den.Q33
/- Law 33: LightBinds. -/
namespace Go.Den.Q33
open Go Go.Den Go.Proofs Go.Den.Q33.Dg
set_option maxRecDepth 8000
set_option linter.unusedVariables false
set_option linter.unusedSimpArgs false
open Go.Den.Q33.Sh (dgE)
open Go.Den.Q33.Me (Dig dsE All32 z0 rootB eqDg brL provesB)
open Go.Den.Q33.Lg (Log LInv logB noteL ofL has clashL)

theorem wt_bk2 {x : E} (h : Wt tb 28 x) : ∃ r : {r : Bk // r.ok ∧ ∀ e ∈ r.rs, inR .i64 e = true}, x = r.1.E := by
  obtain ⟨l, rfl, hl, hw⟩ := wt_st h rfl
  obtain ⟨a, b, c, d, e, f, rfl⟩ := list6 hl
  obtain ⟨n0, rfl, h0⟩ := wt_u64 (hw 0 _ a rfl rfl) rfl
  obtain ⟨⟨d1, h1⟩, rfl⟩ := wt_dg (hw 1 _ b rfl rfl)
  obtain ⟨n2, rfl, h2⟩ := wt_u64 (hw 2 _ c rfl rfl) rfl
  obtain ⟨xs, rfl, hx⟩ := wt_sl (u := 9) (hw 3 _ d rfl rfl) rfl
  obtain ⟨ys, rfl, hy⟩ := wt_sl (u := 33) (hw 4 _ e rfl rfl) rfl
  obtain ⟨⟨d5, h5⟩, rfl⟩ := wt_dg (hw 5 _ f rfl rfl)
  obtain ⟨cs, rfl⟩ := map_ex (f := E.str) fun y hy' => wt_str (hx y hy') rfl
  obtain ⟨rs, rfl⟩ := map_ex (f := fun z : {n : Int // inR .i64 n = true} => E.int z.1) fun y hy' => by obtain ⟨n, h, h'⟩ := wt_int (k := .i64) (hy y hy') rfl; exact ⟨⟨n, h'⟩, h⟩
  refine ⟨⟨⟨n0, d1, n2, cs, rs.map (·.1), d5⟩, ⟨h0, h1, h2, h5⟩, fun e he => ?_⟩, ?_⟩
  · obtain ⟨z, _, rfl⟩ := List.mem_map.1 he; exact z.2
  · simp [Bk.E]
theorem wt_pf2 {x : E} (h : Wt tb 36 x) : ∃ p : Pf, x = p.E ∧ p.a < 4294967296 ∧ All32 p.cs ∧ All32 p.rs ∧ inR .i64 p.e = true := by
  obtain ⟨l, rfl, hl, hw⟩ := wt_st h rfl
  obtain ⟨a, b, c, d, e, rfl⟩ := list5 hl
  obtain ⟨n0, rfl, h0⟩ := wt_u32 (hw 0 _ a rfl rfl) rfl
  obtain ⟨s, rfl⟩ := wt_str (hw 1 _ b rfl rfl) rfl
  obtain ⟨n2, rfl, h2⟩ := wt_int (k := .i64) (hw 2 _ c rfl rfl) rfl
  obtain ⟨L3, rfl, h3⟩ := wt_digs (hw 3 _ d rfl rfl)
  obtain ⟨L4, rfl, h4⟩ := wt_digs (hw 4 _ e rfl rfl)
  exact ⟨⟨n0, s, n2, L3, L4⟩, rfl, h0, h3, h4, h2⟩

theorem shw_zero {h : Hd} {p : Pf} (h0 : shwB h p = 0) : p.a < h.n ∧ provesB h.c (callB p.c) p.a p.cs = true ∧ provesB h.r (recB p.a p.e) p.a p.rs = true := by
  unfold shwB at h0
  by_cases h1 : h.n ≤ p.a
  · rw [if_pos h1] at h0; cases h0
  rw [if_neg h1] at h0
  by_cases h2 : provesB h.c (callB p.c) p.a p.cs = false
  · rw [if_pos h2] at h0; cases h0
  rw [if_neg h2] at h0
  by_cases h3 : provesB h.r (recB p.a p.e) p.a p.rs = false
  · rw [if_pos h3] at h0; cases h0
  exact ⟨by omega, by simpa using h2, by simpa using h3⟩
set_option maxHeartbeats 3200000 in
theorem law_binds (x0 x1 : E) : FnOk Tryd.prog tb 4 [28, 36] [4] [x0, x1] [.bool true] := by
  refine FnOk_of_V (fn := Tryd.f4) (bt := 4) (ok 0 _) Tryd.func4 rfl rfl rfl (by decide) fun hw => ?_
  obtain ⟨⟨x, hxo, hx64⟩, rfl⟩ := wt_bk2 (hw 0 _ x0 rfl rfl)
  obtain ⟨p, rfl, hpa, hpc, hpr, hp64⟩ := wt_pf2 (hw 1 _ x1 rfl rfl)
  clear hw
  simp only
  have c1 := awake_ok.g
  have c2 := (few_ok x).g
  have hfx := few_small (x := x)
  generalize fewB x = fx at c2 hfx
  have h0o : ∀ hs : Small x, (ofHB x z0).ok := fun hs => ofHB_ok hxo hs (by simp [z0])
  have hcm : (x.cs.map E.str).length = x.cs.length := by simp
  have hrm : (x.rs.map E.int).length = x.rs.length := by simp
  have hpcm : (p.cs.map dgE).length = p.cs.length := by simp
  have hprm : (p.rs.map dgE).length = p.rs.length := by simp
  apply V_of_VX
  refine VX_go4 (fs := []) (ok 0 _) eqs trivial 100 [] rfl trivial ?_
  refine VX_callD (ok 0 _) [] [] rfl rfl rfl rfl rfl rfl c1 rfl rfl rfl ?_
  refine VX_go4 (fs := []) (ok 0 _) eqs trivial 100 [] rfl trivial ?_
  refine VX_known 10 false rfl rfl rfl ?_
  refine VX_go4 (fs := []) (ok 0 _) eqs trivial 100 [] rfl trivial ?_
  refine VX_callD (ok 0 _) [28] [] rfl rfl rfl rfl rfl rfl c2 rfl rfl rfl ?_
  refine VX_go4 (fs := []) (ok 0 _) eqs trivial 100 [] rfl trivial ?_
  cases fx with
  | false =>
    refine VX_known 14 true rfl rfl rfl ?_
    refine VX_go4 (fs := []) (ok 0 _) eqs trivial 100 [] rfl trivial ?_
    exact ⟨.inr rfl, rfl⟩
  | true =>
  refine VX_known 14 false rfl rfl rfl ?_
  refine VX_go4 (fs := []) (ok 0 _) eqs trivial 100 [] rfl trivial ?_
  obtain ⟨sx, hc12, hr12⟩ := hfx rfl
  refine VX_split 23 rfl rfl (fun _ => ?_) (fun h1 => ?_)
  · refine VX_go4 (fs := []) (ok 0 _) eqs trivial 100 [] rfl trivial ?_
    exact ⟨.inr rfl, rfl⟩
  have h1 : x.cs.length = x.rs.length := by simp at h1; omega
  refine VX_go4 (fs := []) (ok 0 _) eqs trivial 100 [] rfl trivial ?_
  refine VX_split 29 rfl rfl (fun _ => ?_) (fun h2 => ?_)
  · refine VX_go4 (fs := []) (ok 0 _) eqs trivial 100 [] rfl trivial ?_
    exact ⟨.inr rfl, rfl⟩
  have h2 : p.c.length ≤ 21000 := by simp at h2; omega
  refine VX_go4 (fs := []) (ok 0 _) eqs trivial 100 [] rfl trivial ?_
  refine VX_split 35 rfl rfl (fun _ => ?_) (fun h3 => ?_)
  · refine VX_go4 (fs := []) (ok 0 _) eqs trivial 100 [] rfl trivial ?_
    exact ⟨.inr rfl, rfl⟩
  have h3 : p.cs.length ≤ 100 := by simp at h3; omega
  refine VX_go4 (fs := []) (ok 0 _) eqs trivial 100 [] rfl trivial ?_
  refine VX_split 40 rfl rfl (fun _ => ?_) (fun h4 => ?_)
  · refine VX_go4 (fs := []) (ok 0 _) eqs trivial 100 [] rfl trivial ?_
    exact ⟨.inr rfl, rfl⟩
  have h4 : p.rs.length ≤ 100 := by simp at h4; omega
  have hp : p.ok := ⟨hpa, by omega, hpc, hpr, by omega, by omega⟩
  have o0 := h0o sx
  have c3 := (of_ok sx z0).g
  have c4 := (ext_nil o0).g
  have c5 := (shows_ok (hs := [ofHB x z0]) (by simp) x.h hp).g
  have hsh : showB [ofHB x z0] x.h p = shwB (ofHB x z0) p := by simp [showB, findH, showO, ofHB]
  rw [hsh] at c5
  have i0 : LInv ([], []) := .nil
  have c0 := Lg.rnew_ok
  have c6 := (to_ok x (by omega)).g
  have c7 := rofh_lg sx (by omega) (by omega) z0 ([], []) i0 (by simp)
  have l7 : (hdQ x ([], [])).1.length ≤ 0 + 66 + 33 * x.cs.length + 33 * x.rs.length := hdQ_len x ([], [])
  have c8 := (proof_ok p)
  have c9 : shwB (ofHB x z0) p = 0 → FnG Tryd.prog tb 15 (logB (hdQ x ([], []))) [.ptr 0 [], .t 53 (.e (hsE [ofHB x z0])), .t 22 (.e (.int x.h)), .t 42 (.e p.E)] (fun r t => r = .t 3 (.e (.int 0)) ∧ t = logB (shwQ p (hdQ x ([], [])))) := fun h0 => rshows_lg (ofHB x z0) hp (hdQ x ([], [])) (hdQ_inv x i0) (by omega) (shw_zero h0).1 (shw_zero h0).2.1 (shw_zero h0).2.2
  have l9 := shwQ_len p (hdQ x ([], []))
  have c10 := Lg.clashL_ok (shwQ p (hdQ x ([], []))) (shwQ_inv p (hdQ_inv x i0)) (by omega)
  have hfin := fun h0 hc => shown sx h1 hx64 hp hp64 z0 (q := ([], [])) h0 i0 hc
  have l10 : (Lg.entL (shwQ p (hdQ x ([], []))).2).length ≤ maxN := by
    have := (shwQ_inv p (hdQ_inv x i0)).bounds (n := 100000) (by omega) []
    simp only [Lg.entL, List.length_map]; unfold maxN; omega
  generalize shwB (ofHB x z0) p = z at c5 c9 hfin
  generalize shwQ p (hdQ x ([], [])) = q2 at c9 c10 hfin l10
  generalize hdQ x ([], []) = q1 at c7 c9
  generalize ofHB x z0 = h0 at c3 c4 c5 c7 c9
  generalize clashL q2 = cl at c10 hfin
  have e0 : Lg.lgB [] [] = logB ([], []) := rfl
  rw [e0] at c0
  unfold logB Lg.lgB at c0 c7 c9 c10
  generalize Lg.entL ([] : List (List UInt8 × List (List UInt8))) = E0 at c0 c7
  generalize ([] : List (List UInt8)).map E.str = I0 at c0 c7
  generalize Lg.entL q1.2 = E1 at c7 c9
  generalize q1.1.map E.str = I1 at c7 c9
  generalize Lg.entL q2.2 = E2 at c9 c10 l10
  generalize q2.1.map E.str = I2 at c9 c10
  clear l7 l9 i0 e0 hsh o0 hp h0o hxo hx64 hp64 sx c2 hfx hpcm hprm hpa hpc hpr
  obtain ⟨xh, xp, xb, cs, rs, xs⟩ := x
  obtain ⟨pa, pc, pe, pcs, prs⟩ := p
  obtain ⟨a1, a2, a3, a4, a5, a6, a7⟩ := h0
  simp only at c3 c4 c5 c6 c7 c8 c9 hfin hcm hrm hc12 hr12 h1 h2 h3 h4
  refine VX_go4 (fs := []) (ok 0 _) eqs trivial 100 [] rfl trivial ?_
  refine VX_callD (ok 0 _) [78, 28, 24] [] rfl rfl rfl rfl rfl rfl c3 rfl rfl rfl ?_
  refine VX_callD (ok 0 _) [78, 31, 59] [] rfl rfl rfl rfl rfl rfl c4 rfl rfl rfl ?_
  refine VX_go4 (fs := []) (ok 0 _) eqs trivial 100 [] rfl trivial ?_
  refine VX_callD (ok 0 _) [78, 31, 22, 36] [] rfl rfl rfl rfl rfl rfl c5 rfl rfl rfl ?_
  refine VX_go4 (fs := []) (ok 0 _) eqs trivial 100 [] rfl trivial ?_
  by_cases hz : z = 0
  rotate_left
  · refine VX_known 54 true rfl rfl (by simp [hz]) ?_
    refine VX_go4 (fs := []) (ok 0 _) eqs trivial 100 [] rfl trivial ?_
    exact ⟨.inr rfl, rfl⟩
  have c9 := c9 hz
  refine VX_known 54 false rfl rfl (by simp [hz]) ?_
  refine VX_go4 (fs := []) (ok 0 _) eqs trivial 100 [] rfl trivial ?_
  refine VX_callD (ok 0 _) [] [] rfl rfl rfl rfl rfl rfl c0 rfl rfl rfl ?_
  refine VX_go4 (fs := []) (ok 0 _) eqs trivial 100 [] rfl trivial ?_
  refine VX_callD (ok 0 _) [28] [] rfl rfl rfl rfl rfl rfl c6 rfl rfl rfl ?_
  refine VX_go4 (fs := []) (ok 0 _) eqs trivial 100 [] rfl trivial ?_
  refine VX_callD (ok 0 _) [61, 47, 24] [3, 4, 5] rfl rfl rfl rfl rfl rfl c7 rfl rfl rfl ?_
  refine VX_go4 (fs := []) (ok 0 _) eqs trivial 100 [] rfl trivial ?_
  refine VX_draw [3, 4, 5] [(0, true), (1, true), (3, true), (4, true), (5, true), (6, false), (2, false), (7, false)] mixed (by kernel_rfl) (by kernel_rfl) (by kernel_rfl) ?_
  refine VX_go4 (fs := []) (ok 0 _) eqs trivial 100 [] rfl trivial ?_
  refine VX_callLit (ok 0 _) rfl rfl (by kernel_rfl) rfl rfl rfl rfl rfl rfl rfl rfl rfl c8 rfl rfl rfl rfl rfl rfl ?_
  refine VX_callO (ok 0 _) [61, 53, 22, 42] [3, 4, 5] rfl rfl rfl rfl rfl rfl rfl rfl c9 rfl rfl rfl ?_
  refine VX_go4 (fs := []) (ok 0 _) eqs trivial 100 [] rfl trivial ?_
  refine VX_callD (ok 0 _) [61] [3, 4, 5] rfl rfl rfl rfl rfl rfl c10 rfl rfl rfl ?_
  refine VX_go4 (fs := []) (ok 0 _) eqs trivial 100 [] rfl trivial ?_
  cases cl with
  | true =>
    refine VX_known 71 true rfl rfl rfl ?_
    refine VX_go4 (fs := []) (ok 0 _) eqs trivial 100 [] rfl trivial ?_
    exact ⟨.inr rfl, rfl⟩
  | false =>
  refine VX_known 71 false rfl rfl rfl ?_
  refine VX_go4 (fs := []) (ok 0 _) eqs trivial 100 [77] rfl trivial ?_
  refine VX_op rfl rfl (OpF_lookup (ts := []) (ok 0 _) rfl rfl rfl (by kernel_rfl) (by kernel_rfl) rfl rfl rfl rfl rfl).v ?_
  rintro d s ⟨rfl, rfl⟩
  generalize mpGet E2 _ = G
  refine VX_go4 (fs := []) (ok 0 _) eqs trivial 100 [] rfl trivial ?_
  refine VX_split 80 rfl rfl (fun _ => ?_) (fun _ => ?_)
  · refine VX_go4 (fs := []) (ok 0 _) eqs trivial 100 [] rfl trivial ?_
    exact ⟨.inr rfl, rfl⟩
  obtain ⟨hlt, hc1, hr1⟩ := hfin hz rfl
  have g1 : (cs.map E.str).getD pa .nilp = .str pc := by rw [str_get hlt, hc1]
  have g2 : (rs.map E.int).getD pa .nilp = .int pe := by rw [int_get (by omega), hr1]
  have ew : IntKind.wrap .i64 (pa : Int) = (pa : Int) := w64 (by omega) (by omega)
  refine VX_go4 (fs := []) (ok 0 _) eqs trivial 100 [] rfl trivial ?_
  refine VX_draw [] [(0, true), (1, true), (2, true), (3, true), (4, true), (5, true), (6, true), (7, true), (8, true), (9, true), (10, true), (11, true), (12, true), (13, true), (14, true), (15, true), (16, true), (17, true), (18, true), (19, true), (20, true), (21, true), (22, true), (23, true), (24, true), (25, true), (26, true), (27, true), (28, true), (29, true)] mixed (by kernel_rfl) (by kernel_rfl) (by kernel_rfl) ?_
  refine VX_go4 (fs := []) (ok 0 _) eqs trivial 100 [84] rfl trivial ?_
  refine VX_eq 83 rfl rfl (d' := .t 2 (.e (.int pa))) (congrArg (fun x => D.t 2 (.e (.int x))) ew) ?_
  refine VX_go4 (fs := []) (ok 0 _) eqs trivial 100 [] rfl trivial ?_
  refine VX_known 88 true rfl rfl (by simp; omega) ?_
  refine VX_go4 (fs := []) (ok 0 _) eqs trivial 100 [95] rfl (by simp [allP]; omega) ?_
  refine VX_eq 94 rfl rfl (d' := .t 9 (.e (.str pc))) (congrArg (fun x => D.t 9 (.e x)) g1) ?_
  refine VX_go4 (fs := []) (ok 0 _) eqs trivial 100 [] rfl trivial ?_
  refine VX_known 99 true rfl rfl (by simp) ?_
  refine VX_go4 (fs := []) (ok 0 _) eqs trivial 100 [106] rfl (by simp [allP]; omega) ?_
  refine VX_eq 105 rfl rfl (d' := .t 33 (.e (.int pe))) (congrArg (fun x => D.t 33 (.e x)) g2) ?_
  refine VX_go4 (fs := []) (ok 0 _) eqs trivial 100 [109] rfl trivial ?_
  refine VX_eq 108 rfl rfl (d' := .t 4 (.e (.bool true))) (congrArg (fun x => D.t 4 (.e (.bool x))) (by simp)) ?_
  refine VX_go4 (fs := []) (ok 0 _) eqs trivial 100 [] rfl trivial ?_
  exact ⟨.inr rfl, rfl⟩
end Go.Den.Q33
/- The two, side by side. -/
