/- Law 15: more contracts. -/
import Derived.Test.YtmfdaecbpgpjiaaQ15A
namespace Go.Den.Q15
open Go Go.Den Go.Proofs
set_option maxRecDepth 8000
set_option linter.unusedVariables false

theorem idx_range (x : Int) : ∀ (q : List Int) (i : Nat), idx x q i = -1 ∨ ((i : Int) ≤ idx x q i ∧ idx x q i < i + q.length)
  | [], i => .inl rfl
  | y :: ys, i => by
    simp only [idx]
    split
    · right; simp; omega
    · rcases idx_range x ys (i + 1) with h | h
      · exact .inl h
      · right; simp at h ⊢; omega
theorem wt64 {m : Int} (h : Wt tb 3 (.int m)) : -9223372036854775808 ≤ m ∧ m ≤ 9223372036854775807 := by
  obtain ⟨H, cs, h⟩ := h
  cases h with
  | int a b =>
    have : td tb 3 = .int .i64 := rfl
    rw [this] at a; cases a
    have := wrap_inR (k := .i64) m
    rw [b] at this
    simpa [inR] using this

theorem index_ok (q : List Int) (x : Int) (hq : q.length ≤ 100000) : FnOk Try.prog tb 25 [22, 3] [3] [.sl (q.map .int), .int x] [.int (idx x q 0)] := by
  refine FnOk_of_V (fn := Try.f25) (bt := 4) (ok 0 _) Try.func25 rfl rfl rfl (by decide) fun hw => ?_
  apply V_of_VX
  refine VX_go (fs := []) (ok 0 _) trivial 100 [] rfl trivial ?_
  refine VX_loopA (fun i : Nat => i ≤ q.length ∧ idx x (q.drop i) i = idx x q 0) (fun i => [(8, .t 3 (.e (.int i))), (7, .t 3 (.e (.int q.length))), (0, .t 22 (.e (.sl (q.map .int)))), (1, .t 3 (.e (.int x)))]) (fun _ => []) (fun i => q.length - i) 0 ⟨by simp, by simp⟩ ?_ ?_
  · exact wk0 rfl (by simp) (lc (ls rfl rfl) (lc (li (by simp)) (lc (ls rfl rfl) (lc (ls rfl rfl) lnil))))
  · rintro i ⟨hi, hpq⟩
    refine VX_go (fs := []) (ok 0 _) trivial 100 [] rfl trivial ?_
    refine VX_split 9 rfl rfl (fun h => ?_) (fun h => ?_)
    · have hi : i < q.length := by simpa using h
      refine VX_go (fs := []) (ok 0 _) trivial 100 [16] rfl ?_ ?_
      · simp [allP]; omega
      refine VX_eq 15 rfl rfl (d' := .t 3 (.e (.int q[i]))) (congrArg (fun x => D.t 3 (.e x)) (getD_int hi)) ?_
      refine VX_go (fs := []) (ok 0 _) trivial 100 [] rfl trivial ?_
      have hd1 : q.drop i = q[i] :: q.drop (i + 1) := List.drop_eq_getElem_cons hi
      rw [hd1] at hpq
      refine VX_split 16 rfl rfl (fun h => ?_) (fun h => ?_)
      · refine VX_go (fs := []) (ok 0 _) trivial 100 [] rfl trivial ?_
        have : idx x q 0 = i := by rw [← hpq]; simp at h; simp [idx, h]
        rw [this]
        exact loop_ret ⟨.inr rfl, rfl⟩
      · refine VX_go (fs := []) (ok 0 _) trivial 100 [] rfl trivial ?_
        refine loop_nrm ⟨i + 1, by omega, ⟨by omega, ?_⟩, ?_⟩
        · rw [← hpq]; simp at h; simp [idx]; intro e; exact absurd e.symm h
        · refine wk0 rfl (by simp) (lc (li ?_) (lc (ls rfl rfl) (lc (ls rfl rfl) (lc (ls rfl rfl) lnil))))
          rw [w64 (by omega) (by omega)]; simp
    · refine VX_go (fs := []) (ok 0 _) trivial 100 [] rfl trivial ?_
      apply loop_brk
      refine VX_go (fs := []) (ok 0 _) trivial 100 [] rfl trivial ?_
      have : i = q.length := by simp at h; omega
      rw [← hpq, this, List.drop_length]
      exact ⟨.inr rfl, rfl⟩

theorem contains_ok (q : List Int) (x : Int) (hq : q.length ≤ 100000) : FnOk Try.prog tb 26 [22, 3] [4] [.sl (q.map .int), .int x] [.bool (decide (idx x q 0 ≥ 0))] := by
  refine FnOk_of_V (fn := Try.f26) (bt := 4) (ok 0 _) Try.func26 rfl rfl rfl (by decide) fun hw => ?_
  apply V_of_VX
  refine VX_go (fs := []) (ok 0 _) trivial 100 [] rfl trivial ?_
  refine VX_callD (ok 0 _) [22, 3] [] rfl rfl rfl rfl rfl rfl (index_ok q x hq).g rfl rfl rfl ?_
  refine VX_go (fs := []) (ok 0 _) trivial 100 [] rfl trivial ?_
  exact ⟨.inr rfl, rfl⟩
theorem has_ok (q : List Int) (x : Int) (hq : q.length ≤ 100000) : FnOk Try.prog tb 15 [22, 3] [4] [.sl (q.map .int), .int x] [.bool (decide (idx x q 0 ≥ 0))] := by
  refine FnOk_of_V (fn := Try.f15) (bt := 4) (ok 0 _) Try.func15 rfl rfl rfl (by decide) fun hw => ?_
  apply V_of_VX
  refine VX_go (fs := []) (ok 0 _) trivial 100 [] rfl trivial ?_
  refine VX_callD (ok 0 _) [22, 3] [] rfl rfl rfl rfl rfl rfl (contains_ok q x hq).g rfl rfl rfl ?_
  refine VX_go (fs := []) (ok 0 _) trivial 100 [] rfl trivial ?_
  exact ⟨.inr rfl, rfl⟩
theorem ahead_ok (q : List Int) (x y : Int) (hq : q.length ≤ 100000) : FnOk Try.prog tb 17 [22, 3, 3] [4] [.sl (q.map .int), .int x, .int y] [.bool (decide (idx x q 0 ≥ 0 ∧ idx x q 0 < idx y q 0))] := by
  refine FnOk_of_V (fn := Try.f17) (bt := 4) (ok 0 _) Try.func17 rfl rfl rfl (by decide) fun hw => ?_
  apply V_of_VX
  refine VX_go (fs := []) (ok 0 _) trivial 100 [] rfl trivial ?_
  refine VX_callD (ok 0 _) [22, 3] [] rfl rfl rfl rfl rfl rfl (index_ok q x hq).g rfl rfl rfl ?_
  refine VX_go (fs := []) (ok 0 _) trivial 100 [] rfl trivial ?_
  refine VX_callD (ok 0 _) [22, 3] [] rfl rfl rfl rfl rfl rfl (index_ok q y hq).g rfl rfl rfl ?_
  refine VX_go (fs := []) (ok 0 _) trivial 100 [] rfl trivial ?_
  refine VX_split 17 rfl rfl (fun h => ?_) (fun h => ?_)
  · refine VX_go (fs := []) (ok 0 _) trivial 100 [] rfl trivial ?_
    have : decide (idx x q 0 ≥ 0 ∧ idx x q 0 < idx y q 0) = decide (idx x q 0 < idx y q 0) := by simp at h; simp [h]
    rw [this]
    exact ⟨.inr rfl, rfl⟩
  · refine VX_go (fs := []) (ok 0 _) trivial 100 [] rfl trivial ?_
    have : decide (idx x q 0 ≥ 0 ∧ idx x q 0 < idx y q 0) = false := by simp at h; simp; omega
    rw [this]
    exact ⟨.inr rfl, rfl⟩
theorem rahead_ok (q : List Int) (x y : Int) (hq : q.length ≤ 100000) : FnOk Try.prog tb 18 [22, 3, 3] [4] [.sl (q.map .int), .int x, .int y] [.bool (decide (idx x q 0 ≥ 0 ∧ idx x q 0 < idx y q 0))] := by
  refine FnOk_of_V (fn := Try.f18) (bt := 4) (ok 0 _) Try.func18 rfl rfl rfl (by decide) fun hw => ?_
  apply V_of_VX
  refine VX_go (fs := []) (ok 0 _) trivial 100 [] rfl trivial ?_
  refine VX_callD (ok 0 _) [22, 3] [] rfl rfl rfl rfl rfl rfl (at_ok q x hq).g rfl rfl rfl ?_
  refine VX_go (fs := []) (ok 0 _) trivial 100 [] rfl trivial ?_
  refine VX_callD (ok 0 _) [22, 3] [] rfl rfl rfl rfl rfl rfl (at_ok q y hq).g rfl rfl rfl ?_
  refine VX_go (fs := []) (ok 0 _) trivial 100 [] rfl trivial ?_
  refine VX_split 17 rfl rfl (fun h => ?_) (fun h => ?_)
  · refine VX_go (fs := []) (ok 0 _) trivial 100 [] rfl trivial ?_
    refine VX_split 21 rfl rfl (fun h2 => ?_) (fun h2 => ?_)
    · refine VX_go (fs := []) (ok 0 _) trivial 100 [] rfl trivial ?_
      have : decide (idx x q 0 ≥ 0 ∧ idx x q 0 < idx y q 0) = decide (idx x q 0 < idx y q 0) := by simp at h; simp [h]
      rw [this]
      exact ⟨.inr rfl, rfl⟩
    · refine VX_go (fs := []) (ok 0 _) trivial 100 [] rfl trivial ?_
      have : decide (idx x q 0 ≥ 0 ∧ idx x q 0 < idx y q 0) = false := by simp at h h2; simp; omega
      rw [this]
      exact ⟨.inr rfl, rfl⟩
  · refine VX_go (fs := []) (ok 0 _) trivial 100 [] rfl trivial ?_
    have : decide (idx x q 0 ≥ 0 ∧ idx x q 0 < idx y q 0) = false := by simp at h; simp; omega
    rw [this]
    exact ⟨.inr rfl, rfl⟩

def lastE (q : List Int) : Int := match q.getLast? with
  | some x => x
  | none => 0
theorem last_ok (q : List Int) (hq : q.length ≤ 100000) : FnOk Try.prog tb 14 [22] [3, 4] [.sl (q.map .int)] [.int (lastE q), .bool (decide (q.length > 0))] := by
  refine FnOk_of_V (fn := Try.f14) (bt := 4) (ok 0 _) Try.func14 rfl rfl rfl (by decide) fun hw => ?_
  apply V_of_VX
  refine VX_go (fs := []) (ok 0 _) trivial 100 [] rfl trivial ?_
  refine VX_split 7 rfl rfl (fun h => ?_) (fun h => ?_)
  · refine VX_go (fs := []) (ok 0 _) trivial 100 [] rfl trivial ?_
    have : q = [] := by simpa using h
    subst this
    exact ⟨.inr rfl, rfl⟩
  · have hl : 0 < q.length := by simp at h; exact List.length_pos_iff.2 h
    refine VX_go (fs := []) (ok 0 _) trivial 100 [2] rfl ?_ ?_
    · simp only [allP]
      rw [w64 (by simp; omega) (by simp; omega)]
      simp; omega
    have hlt : q.length - 1 < q.length := by omega
    refine VX_eq 14 rfl rfl (d' := .t 3 (.e (.int (q[q.length - 1])))) (congrArg (fun x => D.t 3 (.e x)) ?_) ?_
    · show (q.map E.int).getD (IntKind.wrap .i64 (((q.map E.int).length : Int) - 1)).toNat .nilp = _
      rw [w64 (by simp; omega) (by simp; omega)]
      rw [show (((q.map E.int).length : Int) - 1).toNat = q.length - 1 by simp]
      exact getD_int hlt
    refine VX_go (fs := []) (ok 0 _) trivial 100 [] rfl trivial ?_
    have h1 : lastE q = q[q.length - 1] := by simp [lastE, List.getLast?_eq_getElem?, hlt]
    have h2 : decide (q.length > 0) = true := by simpa using hl
    rw [h1, h2]
    exact ⟨.inr rfl, rfl⟩
end Go.Den.Q15
