/- Law 15: more contracts over lists of texts. -/
import Derived.Test.YtmfdaecbpgpjiaaQ15S
namespace Go.Den.Q15
open Go Go.Den Go.Proofs
set_option maxRecDepth 8000
set_option linter.unusedVariables false
def idxS (x : List UInt8) : List (List UInt8) → Nat → Int
  | [], _ => -1
  | y :: ys, i => if y = x then i else idxS x ys (i + 1)

theorem idxS_range (x : List UInt8) : ∀ (q : List (List UInt8)) (i : Nat), idxS x q i = -1 ∨ ((i : Int) ≤ idxS x q i ∧ idxS x q i < i + q.length)
  | [], i => .inl rfl
  | y :: ys, i => by
    simp only [idxS]
    split
    · right; simp; omega
    · rcases idxS_range x ys (i + 1) with h | h
      · exact .inl h
      · right; simp at h ⊢; omega
theorem indexS (q : List (List UInt8)) (x : List UInt8) (hq : q.length ≤ 100000) : FnOk Try.prog tb 28 [41, 9] [3] [.sl (q.map .str), .str x] [.int (idxS x q 0)] := by
  refine FnOk_of_V (fn := Try.f28) (bt := 4) (ok 0 _) Try.func28 rfl rfl rfl (by decide) fun hw => ?_
  apply V_of_VX
  refine VX_go (fs := []) (ok 0 _) trivial 100 [] rfl trivial ?_
  refine VX_loopA (fun i : Nat => i ≤ q.length ∧ idxS x (q.drop i) i = idxS x q 0) (fun i => [(8, .t 3 (.e (.int i))), (7, .t 3 (.e (.int q.length))), (0, .t 41 (.e (.sl (q.map .str)))), (1, .t 9 (.e (.str x)))]) (fun _ => []) (fun i => q.length - i) 0 ⟨by simp, by simp⟩ ?_ ?_
  · exact wk0 rfl (by simp) (lc (ls rfl rfl) (lc (li (by simp)) (lc (ls rfl rfl) (lc (ls rfl rfl) lnil))))
  · rintro i ⟨hi, hpq⟩
    refine VX_go (fs := []) (ok 0 _) trivial 100 [] rfl trivial ?_
    refine VX_split 9 rfl rfl (fun h => ?_) (fun h => ?_)
    · have hi : i < q.length := by simpa using h
      refine VX_go (fs := []) (ok 0 _) trivial 100 [16] rfl ?_ ?_
      · simp [allP]; omega
      refine VX_eq 15 rfl rfl (d' := .t 9 (.e (.str q[i]))) (congrArg (fun x => D.t 9 (.e x)) (getD_str hi)) ?_
      refine VX_go (fs := []) (ok 0 _) trivial 100 [] rfl trivial ?_
      have hd1 : q.drop i = q[i] :: q.drop (i + 1) := List.drop_eq_getElem_cons hi
      rw [hd1] at hpq
      refine VX_split 16 rfl rfl (fun h => ?_) (fun h => ?_)
      · refine VX_go (fs := []) (ok 0 _) trivial 100 [] rfl trivial ?_
        have : idxS x q 0 = i := by rw [← hpq]; simp at h; simp [idxS, h]
        rw [this]
        exact loop_ret ⟨.inr rfl, rfl⟩
      · refine VX_go (fs := []) (ok 0 _) trivial 100 [] rfl trivial ?_
        refine loop_nrm ⟨i + 1, by omega, ⟨by omega, ?_⟩, ?_⟩
        · rw [← hpq]; simp at h; simp [idxS]; intro e; exact absurd e.symm h
        · refine wk0 rfl (by simp) (lc (li ?_) (lc (ls rfl rfl) (lc (ls rfl rfl) (lc (ls rfl rfl) lnil))))
          rw [w64 (by omega) (by omega)]; simp
    · refine VX_go (fs := []) (ok 0 _) trivial 100 [] rfl trivial ?_
      apply loop_brk
      refine VX_go (fs := []) (ok 0 _) trivial 100 [] rfl trivial ?_
      have : i = q.length := by simp at h; omega
      rw [← hpq, this, List.drop_length]
      exact ⟨.inr rfl, rfl⟩

theorem containsS (q : List (List UInt8)) (x : List UInt8) (hq : q.length ≤ 100000) : FnOk Try.prog tb 29 [41, 9] [4] [.sl (q.map .str), .str x] [.bool (decide (idxS x q 0 ≥ 0))] := by
  refine FnOk_of_V (fn := Try.f29) (bt := 4) (ok 0 _) Try.func29 rfl rfl rfl (by decide) fun hw => ?_
  apply V_of_VX
  refine VX_go (fs := []) (ok 0 _) trivial 100 [] rfl trivial ?_
  refine VX_callD (ok 0 _) [41, 9] [] rfl rfl rfl rfl rfl rfl (indexS q x hq).g rfl rfl rfl ?_
  refine VX_go (fs := []) (ok 0 _) trivial 100 [] rfl trivial ?_
  exact ⟨.inr rfl, rfl⟩
theorem hasS (q : List (List UInt8)) (x : List UInt8) (hq : q.length ≤ 100000) : FnOk Try.prog tb 23 [41, 9] [4] [.sl (q.map .str), .str x] [.bool (decide (idxS x q 0 ≥ 0))] := by
  refine FnOk_of_V (fn := Try.f23) (bt := 4) (ok 0 _) Try.func23 rfl rfl rfl (by decide) fun hw => ?_
  apply V_of_VX
  refine VX_go (fs := []) (ok 0 _) trivial 100 [] rfl trivial ?_
  refine VX_callD (ok 0 _) [41, 9] [] rfl rfl rfl rfl rfl rfl (containsS q x hq).g rfl rfl rfl ?_
  refine VX_go (fs := []) (ok 0 _) trivial 100 [] rfl trivial ?_
  exact ⟨.inr rfl, rfl⟩
def lastT (q : List (List UInt8)) : List UInt8 := match q.getLast? with
  | some x => x
  | none => []
theorem lastS (q : List (List UInt8)) (hq : q.length ≤ 100000) : FnOk Try.prog tb 21 [41] [9, 4] [.sl (q.map .str)] [.str (lastT q), .bool (decide (q.length > 0))] := by
  refine FnOk_of_V (fn := Try.f21) (bt := 4) (ok 0 _) Try.func21 rfl rfl rfl (by decide) fun hw => ?_
  apply V_of_VX
  refine VX_go (fs := []) (ok 0 _) trivial 100 [] rfl trivial ?_
  refine VX_split 7 rfl rfl (fun h => ?_) (fun h => ?_)
  · refine VX_go (fs := []) (ok 0 _) trivial 100 [] rfl trivial ?_
    have : q = [] := by simpa using h
    subst this
    exact ⟨.inr rfl, rfl⟩
  · have hl : 0 < q.length := by simp at h; exact List.length_pos_iff.2 h
    refine VX_go (fs := []) (ok 0 _) trivial 100 [2] rfl ?_ ?_
    · simp only [allP]
      rw [w64 (by simp; omega) (by simp; omega)]
      simp; omega
    have hlt : q.length - 1 < q.length := by omega
    refine VX_eq 14 rfl rfl (d' := .t 9 (.e (.str (q[q.length - 1])))) (congrArg (fun x => D.t 9 (.e x)) ?_) ?_
    · show (q.map E.str).getD (IntKind.wrap .i64 (((q.map E.str).length : Int) - 1)).toNat .nilp = _
      rw [w64 (by simp; omega) (by simp; omega)]
      rw [show (((q.map E.str).length : Int) - 1).toNat = q.length - 1 by simp]
      exact getD_str hlt
    refine VX_go (fs := []) (ok 0 _) trivial 100 [] rfl trivial ?_
    have h1 : lastT q = q[q.length - 1] := by simp [lastT, List.getLast?_eq_getElem?, hlt]
    have h2 : decide (q.length > 0) = true := by simpa using hl
    rw [h1, h2]
    exact ⟨.inr rfl, rfl⟩
def thrS (q : List (List UInt8)) (x : List UInt8) : List (List UInt8) := q.drop (idxS x q 0 + 1).toNat
theorem throughS (q : List (List UInt8)) (x : List UInt8) (hq : q.length ≤ 100000) : FnOk Try.prog tb 22 [41, 9] [41, 4] [.sl (q.map .str), .str x] [.sl ((thrS q x).map .str), .bool (decide (idxS x q 0 ≥ 0))] := by
  refine FnOk_of_V (fn := Try.f22) (bt := 4) (ok 0 _) Try.func22 rfl rfl rfl (by decide) fun hw => ?_
  have hr := idxS_range x q 0
  have hw1 : IntKind.wrap .i64 (idxS x q 0 + 1) = idxS x q 0 + 1 := w64 (by omega) (by omega)
  apply V_of_VX
  refine VX_go (fs := []) (ok 0 _) trivial 100 [] rfl trivial ?_
  refine VX_callD (ok 0 _) [41, 9] [] rfl rfl rfl rfl rfl rfl (indexS q x hq).g rfl rfl rfl ?_
  refine VX_go (fs := []) (ok 0 _) trivial 100 [14] rfl ?_ ?_
  · simp only [allP]; rw [hw1]; simp; omega
  refine VX_eq 13 rfl rfl (d' := .t 41 (.e (.sl ((thrS q x).map .str)))) (congrArg (fun x => D.t 41 (.e (.sl x))) ?_) ?_
  · rw [hw1]; simp [thrS]; rw [List.take_of_length_le (by simp)]
  refine VX_callD (ok 0 _) [41] [] rfl rfl rfl rfl rfl rfl (cloneS _ (by simp [thrS]; omega)).g rfl rfl rfl ?_
  refine VX_go (fs := []) (ok 0 _) trivial 100 [] rfl trivial ?_
  exact ⟨.inr rfl, rfl⟩

def pushT (q : List (List UInt8)) (x : List UInt8) (m : Int) : List (List UInt8) := if (q.length : Int) ≥ m then q else q ++ [x]
def pushM (q : List (List UInt8)) (m : Int) : Int := if (q.length : Int) ≥ m then 6 else 0
theorem pushS (q : List (List UInt8)) (x : List UInt8) (m : Int) (hq : q.length ≤ 90000) : FnOk Try.prog tb 20 [41, 9, 3] [41, 25] [.sl (q.map .str), .str x, .int m] [.sl ((pushT q x m).map .str), .int (pushM q m)] := by
  refine FnOk_of_V (fn := Try.f20) (bt := 4) (ok 0 _) Try.func20 rfl rfl rfl (by decide) fun hw => ?_
  apply V_of_VX
  refine VX_go (fs := []) (ok 0 _) trivial 100 [] rfl trivial ?_
  refine VX_split 11 rfl rfl (fun h => ?_) (fun h => ?_)
  · refine VX_go (fs := []) (ok 0 _) trivial 100 [] rfl trivial ?_
    refine VX_callD (ok 0 _) [41] [] rfl rfl rfl rfl rfl rfl (clone_rowS _ (by simp; omega)) rfl rfl rfl ?_
    refine VX_go (fs := []) (ok 0 _) trivial 100 [] rfl trivial ?_
    have h : (q.length : Int) ≥ m := by simpa using h
    simp only [pushT, pushM, h, if_true]
    exact ⟨.inr rfl, rfl⟩
  · refine VX_go (fs := []) (ok 0 _) trivial 100 [] rfl trivial ?_
    refine VX_callD (ok 0 _) [41] [] rfl rfl rfl rfl rfl rfl (clone_rowS _ (by simp; omega)) rfl rfl rfl ?_
    refine VX_go (fs := []) (ok 0 _) trivial 100 [] rfl ?_ ?_
    · simp [allP, nb, tb, maxL]; omega
    have h : ¬ (q.length : Int) ≥ m := by simpa using h
    simp only [pushT, pushM, h, if_false, List.map_append]
    exact ⟨.inr rfl, rfl⟩
end Go.Den.Q15
