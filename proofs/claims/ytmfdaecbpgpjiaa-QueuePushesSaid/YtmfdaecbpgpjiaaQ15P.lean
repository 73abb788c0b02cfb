/- Law 15: QueuePushes. -/
import Derived.Test.YtmfdaecbpgpjiaaQ15S2
namespace Go.Den.Q15
open Go Go.Den Go.Proofs
set_option maxRecDepth 8000
set_option linter.unusedVariables false

theorem idxS_append (x : List UInt8) : ∀ (q : List (List UInt8)) (i : Nat), idxS x (q ++ [x]) i = if idxS x q i ≥ 0 then idxS x q i else (i + q.length : Nat)
  | [], i => by simp [idxS]
  | y :: ys, i => by
    simp only [List.cons_append, idxS]
    split
    · simp
    · rw [idxS_append x ys (i + 1)]
      split
      · rfl
      · simp; omega
theorem pushS1 (q : List (List UInt8)) (x : List UInt8) (hq : q.length ≤ 80000) : FnOk Try.prog tb 20 [41, 9, 3] [41, 25] [.sl (q.map .str), .str x, .int (q.length + 1)] [.sl ((q ++ [x]).map .str), .int 0] := by
  have h := pushS q x (q.length + 1) (by omega)
  have h1 : ¬ ((q.length : Int) ≥ q.length + 1) := by omega
  simpa only [pushT, pushM, h1, if_false] using h
theorem pushS2 (q : List (List UInt8)) (x : List UInt8) (hq : q.length ≤ 80000) : FnOk Try.prog tb 20 [41, 9, 3] [41, 25] [.sl (q.map .str), .str x, .int q.length] [.sl (q.map .str), .int 6] := by
  have h := pushS q x q.length (by omega)
  have h1 : ((q.length : Int) ≥ q.length) := by omega
  simpa only [pushT, pushM, h1, if_true] using h
theorem pushes_ok (q : List (List UInt8)) (x : List UInt8) : FnOk Try.prog tb 5 [41, 9] [4] [.sl (q.map .str), .str x] [.bool true] := by
  refine FnOk_of_V (fn := Try.f5) (bt := 4) (ok 0 _) Try.func5 rfl rfl rfl (by decide) fun hw => ?_
  apply V_of_VX
  refine VX_go (fs := []) (ok 0 _) trivial 300 [] rfl trivial ?_
  refine VX_callD (ok 0 _) [] [] rfl rfl rfl rfl rfl rfl (awake_ok).g rfl rfl rfl ?_
  refine VX_go (fs := []) (ok 0 _) trivial 300 [] rfl trivial ?_
  refine VX_known 14 false rfl rfl (rfl) ?_
  refine VX_go (fs := []) (ok 0 _) trivial 300 [] rfl trivial ?_
  refine VX_split 17 rfl rfl (fun h => ?_) (fun h => ?_)
  · refine VX_go (fs := []) (ok 0 _) trivial 300 [] rfl trivial ?_
    exact ⟨.inr rfl, rfl⟩
  have hq : q.length ≤ 500 := by simp at h; omega
  clear h
  have hlen : ((q.map E.str).length : Int) = q.length := by simp
  have hw1 : IntKind.wrap .i64 (((q.map E.str).length : Int) + 1) = (q.length : Int) + 1 := by rw [hlen]; exact w64 (by omega) (by omega)
  have hlen2 : (((q ++ [x]).map E.str).length : Int) = ((q ++ [x]).length : Int) := by simp
  have hr := idxS_range x q 0
  have hia := idxS_append x q 0
  have hir := idxS_range x (q ++ [x]) 0
  have his : idxS x (q ++ [x]) 0 ≥ 0 := by rw [hia]; split <;> omega
  refine VX_go (fs := []) (ok 0 _) trivial 300 [24] rfl trivial ?_
  refine VX_eq 23 rfl rfl (d' := .t 3 (.e (.int (q.length + 1)))) (congrArg (fun x => D.t 3 (.e (.int x))) hw1) ?_
  refine VX_callD (ok 0 _) [41, 9, 3] [] rfl rfl rfl rfl rfl rfl (pushS1 q x (by omega)).g rfl rfl rfl ?_
  refine VX_go (fs := []) (ok 0 _) trivial 300 [] rfl trivial ?_
  refine VX_callD (ok 0 _) [41] [] rfl rfl rfl rfl rfl rfl (lastS (q ++ [x]) (by simp; omega)).g rfl rfl rfl ?_
  refine VX_go (fs := []) (ok 0 _) trivial 300 [37] rfl trivial ?_
  refine VX_eq 36 rfl rfl (d' := .t 3 (.e (.int ((q ++ [x]).length)))) (congrArg (fun x => D.t 3 (.e (.int x))) hlen2) ?_
  refine VX_callD (ok 0 _) [41, 9, 3] [] rfl rfl rfl rfl rfl rfl (pushS2 (q ++ [x]) x (by simp; omega)).g rfl rfl rfl ?_
  refine VX_go (fs := []) (ok 0 _) trivial 300 [] rfl trivial ?_
  refine VX_callD (ok 0 _) [41, 9] [] rfl rfl rfl rfl rfl rfl (throughS (q ++ [x]) x (by simp; omega)).g rfl rfl rfl ?_
  refine VX_go (fs := []) (ok 0 _) trivial 300 [] rfl trivial ?_
  refine VX_known 48 true rfl rfl (by simp) ?_
  refine VX_go (fs := []) (ok 0 _) trivial 300 [] rfl trivial ?_
  refine VX_known 51 true rfl rfl (by simp) ?_
  refine VX_go (fs := []) (ok 0 _) trivial 300 [] rfl trivial ?_
  refine VX_known 56 true rfl rfl (by simp [lastT]) ?_
  refine VX_go (fs := []) (ok 0 _) trivial 300 [] rfl trivial ?_
  refine VX_callD (ok 0 _) [41, 9] [] rfl rfl rfl rfl rfl rfl (hasS (q ++ [x]) x (by simp; omega)).g rfl rfl rfl ?_
  refine VX_go (fs := []) (ok 0 _) trivial 300 [] rfl trivial ?_
  refine VX_known 61 true rfl rfl (by simpa using his) ?_
  refine VX_go (fs := []) (ok 0 _) trivial 300 [] rfl trivial ?_
  refine VX_known 65 true rfl rfl (by simp) ?_
  refine VX_go (fs := []) (ok 0 _) trivial 300 [] rfl trivial ?_
  refine VX_known 73 true rfl rfl (by rw [hw1]; simp) ?_
  refine VX_go (fs := []) (ok 0 _) trivial 300 [] rfl trivial ?_
  refine VX_known 76 true rfl rfl (by simpa using his) ?_
  refine VX_go (fs := []) (ok 0 _) trivial 300 [] rfl trivial ?_
  refine VX_callD (ok 0 _) [41, 9] [] rfl rfl rfl rfl rfl rfl (hasS q x (by omega)).g rfl rfl rfl ?_
  refine VX_go (fs := []) (ok 0 _) trivial 300 [] rfl trivial ?_
  have hqq : (q == q) = true := by simp
  refine VX_split 80 rfl rfl (fun h => ?_) (fun h => ?_)
  · refine VX_go (fs := []) (ok 0 _) trivial 300 [92] rfl ?_ ?_
    · simp [allP]; omega
    refine VX_eq 90 rfl rfl (d' := .t 41 (.e (.sl (q.map .str)))) (congrArg (fun x => D.t 41 (.e (.sl x))) (by simp)) ?_
    refine VX_callD (ok 0 _) [41, 41] [] rfl rfl rfl rfl rfl rfl (equalS q q (by omega)).g rfl rfl rfl ?_
    refine VX_go (fs := []) (ok 0 _) trivial 300 [] rfl trivial ?_
    rw [hqq]
    exact ⟨.inr rfl, rfl⟩
  · refine VX_go (fs := []) (ok 0 _) trivial 300 [] rfl trivial ?_
    refine VX_known 86 true rfl rfl (by simp [thrS]; simp at h; rw [if_neg (by omega)] at hia; omega) ?_
    refine VX_go (fs := []) (ok 0 _) trivial 300 [92] rfl ?_ ?_
    · simp [allP]; omega
    refine VX_eq 90 rfl rfl (d' := .t 41 (.e (.sl (q.map .str)))) (congrArg (fun x => D.t 41 (.e (.sl x))) (by simp)) ?_
    refine VX_callD (ok 0 _) [41, 41] [] rfl rfl rfl rfl rfl rfl (equalS q q (by omega)).g rfl rfl rfl ?_
    refine VX_go (fs := []) (ok 0 _) trivial 300 [] rfl trivial ?_
    rw [hqq]
    exact ⟨.inr rfl, rfl⟩
end Go.Den.Q15
