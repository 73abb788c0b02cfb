/- Law 15: QueueDoes. -/
import Derived.Test.YtmfdaecbpgpjiaaQ15C
namespace Go.Den.Q15
open Go Go.Den Go.Proofs
set_option maxRecDepth 8000
set_option linter.unusedVariables false

theorem does_ok (q : List Int) (x y m : Int) : FnOk Try.prog tb 4 [22, 3, 3, 3] [4] [.sl (q.map .int), .int x, .int y, .int m] [.bool true] := by
  refine FnOk_of_V (fn := Try.f4) (bt := 4) (ok 0 _) Try.func4 rfl rfl rfl (by decide) fun hw => ?_
  apply V_of_VX
  refine VX_go (fs := []) (ok 0 _) trivial 300 [] rfl trivial ?_
  refine VX_callD (ok 0 _) [] [] rfl rfl rfl rfl rfl rfl awake_ok.g rfl rfl rfl ?_
  refine VX_go (fs := []) (ok 0 _) trivial 300 [] rfl trivial ?_
  refine VX_known 21 false rfl rfl rfl ?_
  refine VX_go (fs := []) (ok 0 _) trivial 300 [] rfl trivial ?_
  refine VX_split 24 rfl rfl (fun h => ?_) (fun h => ?_)
  · refine VX_go (fs := []) (ok 0 _) trivial 300 [] rfl trivial ?_
    exact ⟨.inr rfl, rfl⟩
  have hq : q.length ≤ 500 := by simp at h; omega
  clear h
  refine VX_go (fs := []) (ok 0 _) trivial 300 [] rfl trivial ?_
  refine VX_callD (ok 0 _) [22] [] rfl rfl rfl rfl rfl rfl (clone_ok _ (by simp; omega)).g rfl rfl rfl ?_
  refine VX_go (fs := []) (ok 0 _) trivial 300 [] rfl trivial ?_
  refine VX_callD (ok 0 _) [22, 3, 3] [] rfl rfl rfl rfl rfl rfl (push_ok q x m (by omega)).g rfl rfl rfl ?_
  refine VX_go (fs := []) (ok 0 _) trivial 300 [] rfl trivial ?_
  refine VX_callD (ok 0 _) [22, 3, 3] [] rfl rfl rfl rfl rfl rfl (rpush_ok q x m (by omega)).g rfl rfl rfl ?_
  refine VX_go (fs := []) (ok 0 _) trivial 300 [] rfl trivial ?_
  refine VX_callD (ok 0 _) [22, 3] [] rfl rfl rfl rfl rfl rfl (through_ok q x (by omega)).g rfl rfl rfl ?_
  refine VX_go (fs := []) (ok 0 _) trivial 300 [] rfl trivial ?_
  refine VX_callD (ok 0 _) [22, 3] [] rfl rfl rfl rfl rfl rfl (rthrough_ok q x (by omega)).g rfl rfl rfl ?_
  refine VX_go (fs := []) (ok 0 _) trivial 300 [] rfl trivial ?_
  refine VX_callD (ok 0 _) [22] [] rfl rfl rfl rfl rfl rfl (last_ok q (by omega)).g rfl rfl rfl ?_
  refine VX_go (fs := []) (ok 0 _) trivial 300 [] rfl trivial ?_
  refine VX_known 63 false rfl rfl (by simp) ?_
  refine VX_go (fs := []) (ok 0 _) trivial 300 [] rfl trivial ?_
  refine VX_split 65 rfl rfl (fun h => ?_) (fun h => ?_)
  · have hl : 0 < q.length := by simpa using h
    have hlt : q.length - 1 < q.length := by omega
    have hlen : ((q.map E.int).length : Int) = q.length := by simp
    have hws : IntKind.wrap .i64 (((q.map E.int).length : Int) - 1) = (q.length : Int) - 1 := by rw [hlen]; exact w64 (by omega) (by omega)
    refine VX_go (fs := []) (ok 0 _) trivial 300 [73] rfl ?_ ?_
    · simp only [allP]; rw [hws]; simp; omega
    refine VX_eq 72 rfl rfl (d' := .t 3 (.e (.int (q[q.length - 1])))) (congrArg (fun x => D.t 3 (.e x)) ?_) ?_
    · show (q.map E.int).getD (IntKind.wrap .i64 (((q.map E.int).length : Int) - 1)).toNat .nilp = _
      rw [hws]
      rw [show ((q.length : Int) - 1).toNat = q.length - 1 by omega]
      exact getD_int hlt
    have h1 : lastE q = q[q.length - 1] := by simp [lastE, List.getLast?_eq_getElem?, hlt]
    refine VX_go (fs := []) (ok 0 _) trivial 300 [] rfl trivial ?_
    refine VX_known 76 false rfl rfl (by simp [h1]) ?_
    refine VX_go (fs := []) (ok 0 _) trivial 300 [] rfl trivial ?_
    refine VX_known 79 false rfl rfl (by simpa using hl) ?_
    refine VX_go (fs := []) (ok 0 _) trivial 300 [] rfl trivial ?_
    refine VX_callD (ok 0 _) [22, 22] [] rfl rfl rfl rfl rfl rfl (same_ok (pushE q x m) (pushE q x m) (by unfold pushE; split <;> (try simp) <;> omega)).g rfl rfl rfl ?_
    refine VX_go (fs := []) (ok 0 _) trivial 300 [] rfl trivial ?_
    refine VX_known 87 true rfl rfl (by simp) ?_
    refine VX_go (fs := []) (ok 0 _) trivial 300 [] rfl trivial ?_
    refine VX_known 92 true rfl rfl (by simp) ?_
    refine VX_go (fs := []) (ok 0 _) trivial 300 [] rfl trivial ?_
    refine VX_callD (ok 0 _) [22, 22] [] rfl rfl rfl rfl rfl rfl (same_ok (thr q x) (thr q x) (by simp [thr]; omega)).g rfl rfl rfl ?_
    refine VX_go (fs := []) (ok 0 _) trivial 300 [] rfl trivial ?_
    refine VX_known 97 true rfl rfl (by simp) ?_
    refine VX_go (fs := []) (ok 0 _) trivial 300 [] rfl trivial ?_
    refine VX_known 102 true rfl rfl (by simp) ?_
    refine VX_go (fs := []) (ok 0 _) trivial 300 [] rfl trivial ?_
    refine VX_callD (ok 0 _) [22, 3] [] rfl rfl rfl rfl rfl rfl (has_ok q x (by omega)).g rfl rfl rfl ?_
    refine VX_go (fs := []) (ok 0 _) trivial 300 [] rfl trivial ?_
    refine VX_callD (ok 0 _) [22, 3] [] rfl rfl rfl rfl rfl rfl (at_ok q x (by omega)).g rfl rfl rfl ?_
    refine VX_go (fs := []) (ok 0 _) trivial 300 [] rfl trivial ?_
    refine VX_known 112 true rfl rfl (by simp) ?_
    refine VX_go (fs := []) (ok 0 _) trivial 300 [] rfl trivial ?_
    refine VX_callD (ok 0 _) [22, 3, 3] [] rfl rfl rfl rfl rfl rfl (ahead_ok q x y (by omega)).g rfl rfl rfl ?_
    refine VX_go (fs := []) (ok 0 _) trivial 300 [] rfl trivial ?_
    refine VX_callD (ok 0 _) [22, 3, 3] [] rfl rfl rfl rfl rfl rfl (rahead_ok q x y (by omega)).g rfl rfl rfl ?_
    refine VX_go (fs := []) (ok 0 _) trivial 300 [] rfl trivial ?_
    refine VX_known 123 true rfl rfl (by simp) ?_
    refine VX_go (fs := []) (ok 0 _) trivial 300 [] rfl trivial ?_
    refine VX_callD (ok 0 _) [22, 3] [] rfl rfl rfl rfl rfl rfl (trim_ok q m (by omega)).g rfl rfl rfl ?_
    refine VX_go (fs := []) (ok 0 _) trivial 300 [] rfl trivial ?_
    refine VX_callD (ok 0 _) [22, 3] [] rfl rfl rfl rfl rfl rfl (rtrim_ok q m (by omega)).g rfl rfl rfl ?_
    refine VX_go (fs := []) (ok 0 _) trivial 300 [] rfl trivial ?_
    refine VX_callD (ok 0 _) [22, 22] [] rfl rfl rfl rfl rfl rfl (same_ok (trim q m) (trim q m) (by simp [trim]; omega)).g rfl rfl rfl ?_
    refine VX_go (fs := []) (ok 0 _) trivial 300 [] rfl trivial ?_
    refine VX_known 132 true rfl rfl (by simp) ?_
    refine VX_go (fs := []) (ok 0 _) trivial 300 [] rfl trivial ?_
    refine VX_callD (ok 0 _) [22, 22] [] rfl rfl rfl rfl rfl rfl (same_ok q q (by omega)).g rfl rfl rfl ?_
    refine VX_go (fs := []) (ok 0 _) trivial 300 [] rfl trivial ?_
    have hqq : (q == q) = true := by simp
    rw [hqq]
    exact ⟨.inr rfl, rfl⟩
  · have hl : q = [] := by simp at h; exact h
    refine VX_go (fs := []) (ok 0 _) trivial 300 [] rfl trivial ?_
    refine VX_known 79 true rfl rfl (by simp [hl]) ?_
    refine VX_go (fs := []) (ok 0 _) trivial 300 [] rfl trivial ?_
    refine VX_known 83 false rfl rfl (by simp [hl, lastE]) ?_
    refine VX_go (fs := []) (ok 0 _) trivial 300 [] rfl trivial ?_
    refine VX_callD (ok 0 _) [22, 22] [] rfl rfl rfl rfl rfl rfl (same_ok (pushE q x m) (pushE q x m) (by unfold pushE; split <;> (try simp) <;> omega)).g rfl rfl rfl ?_
    refine VX_go (fs := []) (ok 0 _) trivial 300 [] rfl trivial ?_
    refine VX_known 87 true rfl rfl (by simp) ?_
    refine VX_go (fs := []) (ok 0 _) trivial 300 [] rfl trivial ?_
    refine VX_known 92 true rfl rfl (by simp) ?_
    refine VX_go (fs := []) (ok 0 _) trivial 300 [] rfl trivial ?_
    refine VX_callD (ok 0 _) [22, 22] [] rfl rfl rfl rfl rfl rfl (same_ok (thr q x) (thr q x) (by simp [thr]; omega)).g rfl rfl rfl ?_
    refine VX_go (fs := []) (ok 0 _) trivial 300 [] rfl trivial ?_
    refine VX_known 97 true rfl rfl (by simp) ?_
    refine VX_go (fs := []) (ok 0 _) trivial 300 [] rfl trivial ?_
    refine VX_known 102 true rfl rfl (by simp) ?_
    refine VX_go (fs := []) (ok 0 _) trivial 300 [] rfl trivial ?_
    refine VX_callD (ok 0 _) [22, 3] [] rfl rfl rfl rfl rfl rfl (has_ok q x (by omega)).g rfl rfl rfl ?_
    refine VX_go (fs := []) (ok 0 _) trivial 300 [] rfl trivial ?_
    refine VX_callD (ok 0 _) [22, 3] [] rfl rfl rfl rfl rfl rfl (at_ok q x (by omega)).g rfl rfl rfl ?_
    refine VX_go (fs := []) (ok 0 _) trivial 300 [] rfl trivial ?_
    refine VX_known 112 true rfl rfl (by simp) ?_
    refine VX_go (fs := []) (ok 0 _) trivial 300 [] rfl trivial ?_
    refine VX_callD (ok 0 _) [22, 3, 3] [] rfl rfl rfl rfl rfl rfl (ahead_ok q x y (by omega)).g rfl rfl rfl ?_
    refine VX_go (fs := []) (ok 0 _) trivial 300 [] rfl trivial ?_
    refine VX_callD (ok 0 _) [22, 3, 3] [] rfl rfl rfl rfl rfl rfl (rahead_ok q x y (by omega)).g rfl rfl rfl ?_
    refine VX_go (fs := []) (ok 0 _) trivial 300 [] rfl trivial ?_
    refine VX_known 123 true rfl rfl (by simp) ?_
    refine VX_go (fs := []) (ok 0 _) trivial 300 [] rfl trivial ?_
    refine VX_callD (ok 0 _) [22, 3] [] rfl rfl rfl rfl rfl rfl (trim_ok q m (by omega)).g rfl rfl rfl ?_
    refine VX_go (fs := []) (ok 0 _) trivial 300 [] rfl trivial ?_
    refine VX_callD (ok 0 _) [22, 3] [] rfl rfl rfl rfl rfl rfl (rtrim_ok q m (by omega)).g rfl rfl rfl ?_
    refine VX_go (fs := []) (ok 0 _) trivial 300 [] rfl trivial ?_
    refine VX_callD (ok 0 _) [22, 22] [] rfl rfl rfl rfl rfl rfl (same_ok (trim q m) (trim q m) (by simp [trim]; omega)).g rfl rfl rfl ?_
    refine VX_go (fs := []) (ok 0 _) trivial 300 [] rfl trivial ?_
    refine VX_known 132 true rfl rfl (by simp) ?_
    refine VX_go (fs := []) (ok 0 _) trivial 300 [] rfl trivial ?_
    refine VX_callD (ok 0 _) [22, 22] [] rfl rfl rfl rfl rfl rfl (same_ok q q (by omega)).g rfl rfl rfl ?_
    refine VX_go (fs := []) (ok 0 _) trivial 300 [] rfl trivial ?_
    have hqq : (q == q) = true := by simp
    rw [hqq]
    exact ⟨.inr rfl, rfl⟩
end Go.Den.Q15
