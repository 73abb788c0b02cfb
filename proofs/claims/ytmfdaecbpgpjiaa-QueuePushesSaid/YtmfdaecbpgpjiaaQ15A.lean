/- Law 15: contracts. -/
import Derived.Test.YtmfdaecbpgpjiaaQ15Tb
import Derived.Test.YtmfdaecbpgpjiaaDenDop3
namespace Go.Den.Q15
open Go Go.Den Go.Proofs
set_option maxRecDepth 8000
set_option linter.unusedVariables false

theorem clone_ok (q : List E) (hq : q.length ≤ 100000) : FnOk Try.prog tb 7 [22] [22] [.sl q] [.sl q] := by
  refine FnOk_of_V (fn := Try.f7) (bt := 4) (ok 0 _) Try.func7 rfl rfl rfl (by decide) fun hw => ?_
  apply V_of_VX
  refine VX_go (fs := []) (ok 0 _) trivial 100 [] rfl trivial ?_
  refine VX_op rfl rfl (OpV_nilS (ok 0 _) rfl (.inl rfl) rfl rfl rfl rfl) ?_
  rintro d s ⟨b, hb, rfl, rfl⟩
  refine VX_go (fs := []) (ok 0 _) trivial 100 [] rfl trivial ?_
  refine VX_split 4 rfl rfl (fun h => ?_) (fun h => ?_)
  · refine VX_go (fs := []) (ok 0 _) trivial 100 [] rfl trivial ?_
    exact ⟨.inr rfl, by rw [hb h]; rfl⟩
  · refine VX_go (fs := []) (ok 0 _) trivial 100 [] rfl ?_ ?_
    · simp [allP, nb, tb, maxL]; omega
    exact ⟨.inr rfl, rfl⟩

theorem w64 {a : Int} (h1 : -9223372036854775808 ≤ a) (h2 : a ≤ 9223372036854775807) : IntKind.wrap .i64 a = a := inR_wrap (by simp [inR]; omega)
theorem getD_int {p : List Int} {i : Nat} (h : i < p.length) : (p.map E.int).getD i .nilp = .int p[i] := by simp [List.getD, h]

theorem same_ok (p q : List Int) (hq : q.length ≤ 100000) : FnOk Try.prog tb 11 [22, 22] [4] [.sl (p.map .int), .sl (q.map .int)] [.bool (p == q)] := by
  refine FnOk_of_V (fn := Try.f11) (bt := 4) (ok 0 _) Try.func11 rfl rfl rfl (by decide) fun hw => ?_
  apply V_of_VX
  refine VX_go (fs := []) (ok 0 _) trivial 100 [] rfl trivial ?_
  refine VX_split 10 rfl rfl (fun h => ?_) (fun h => ?_)
  · refine VX_go (fs := []) (ok 0 _) trivial 100 [] rfl trivial ?_
    have : (p == q) = false := by
      simp at h ⊢
      intro e; subst e; simp at h
    rw [this]; exact ⟨.inr rfl, rfl⟩
  · have hl : p.length = q.length := by simp at h; omega
    refine VX_go (fs := []) (ok 0 _) trivial 100 [] rfl trivial ?_
    refine VX_loopA (fun i : Nat => i ≤ p.length ∧ (p.drop i == q.drop i) = (p == q)) (fun i => [(13, .t 3 (.e (.int i))), (12, .t 3 (.e (.int p.length))), (0, .t 22 (.e (.sl (p.map .int)))), (1, .t 22 (.e (.sl (q.map .int))))]) (fun _ => []) (fun i => p.length - i) 0 ⟨by simp, by simp⟩ ?_ ?_
    · exact wk0 rfl (by simp) (lc (ls rfl rfl) (lc (li (by simp)) (lc (ls rfl rfl) (lc (ls rfl rfl) lnil))))
    · rintro i ⟨hi, hpq⟩
      refine VX_go (fs := []) (ok 0 _) trivial 100 [] rfl trivial ?_
      refine VX_split 14 rfl rfl (fun h => ?_) (fun h => ?_)
      · have hi : i < p.length := by simpa using h
        refine VX_go (fs := []) (ok 0 _) trivial 100 [] rfl trivial ?_
        refine VX_draw [] [(0, true), (1, true), (2, true), (3, true), (4, true), (5, true), (6, true), (7, true), (8, true)] mixed (by kernel_rfl) (by kernel_rfl) (by kernel_rfl) ?_
        refine VX_go (fs := []) (ok 0 _) trivial 100 [24] rfl ?_ ?_
        · simp [allP]; omega
        refine VX_eq 19 rfl rfl (d' := .t 3 (.e (.int p[i]))) (congrArg (fun x => D.t 3 (.e x)) (getD_int hi)) ?_
        refine VX_eq 23 rfl rfl (d' := .t 3 (.e (.int (q[i]'(by omega))))) (congrArg (fun x => D.t 3 (.e x)) (getD_int (by omega))) ?_
        refine VX_go (fs := []) (ok 0 _) trivial 100 [] rfl trivial ?_
        have hd1 : p.drop i = p[i] :: p.drop (i + 1) := List.drop_eq_getElem_cons hi
        have hd2 : q.drop i = q[i]'(by omega) :: q.drop (i + 1) := List.drop_eq_getElem_cons (by omega)
        rw [hd1, hd2] at hpq
        refine VX_split 24 rfl rfl (fun h => ?_) (fun h => ?_)
        · refine VX_go (fs := []) (ok 0 _) trivial 100 [] rfl trivial ?_
          refine loop_ret ⟨.inr rfl, ?_⟩
          have : (p == q) = false := by rw [← hpq]; simp [-List.getElem_cons_drop] at h ⊢; intro e; exact absurd e h
          rw [this]; rfl
        · refine VX_go (fs := []) (ok 0 _) trivial 100 [] rfl trivial ?_
          refine loop_nrm ⟨i + 1, by omega, ⟨by omega, ?_⟩, ?_⟩
          · rw [← hpq]; simp at h; simp [-List.getElem_cons_drop, h]
          · refine wk0 rfl (by simp) (lc (li ?_) (lc (ls rfl rfl) (lc (ls rfl rfl) (lc (ls rfl rfl) lnil))))
            rw [w64 (by omega) (by omega)]; simp
      · refine VX_go (fs := []) (ok 0 _) trivial 100 [] rfl trivial ?_
        apply loop_brk
        refine VX_go (fs := []) (ok 0 _) trivial 100 [] rfl trivial ?_
        have : i = p.length := by simp at h; omega
        have : (p == q) = true := by rw [← hpq, this]; simp [hl]
        rw [this]; exact ⟨.inr rfl, rfl⟩

def idx (x : Int) : List Int → Nat → Int
  | [], _ => -1
  | y :: ys, i => if y = x then i else idx x ys (i + 1)

theorem at_ok (q : List Int) (x : Int) (hq : q.length ≤ 100000) : FnOk Try.prog tb 16 [22, 3] [3] [.sl (q.map .int), .int x] [.int (idx x q 0)] := by
  refine FnOk_of_V (fn := Try.f16) (bt := 4) (ok 0 _) Try.func16 rfl rfl rfl (by decide) fun hw => ?_
  apply V_of_VX
  refine VX_go (fs := []) (ok 0 _) trivial 100 [] rfl trivial ?_
  refine VX_loopA (fun i : Nat => i ≤ q.length ∧ idx x (q.drop i) i = idx x q 0) (fun i => [(8, .t 3 (.e (.int i))), (7, .t 3 (.e (.int q.length))), (0, .t 22 (.e (.sl (q.map .int)))), (1, .t 3 (.e (.int x)))]) (fun _ => []) (fun i => q.length - i) 0 ⟨by simp, by simp⟩ ?_ ?_
  · exact wk0 rfl (by simp) (lc (ls rfl rfl) (lc (li (by simp)) (lc (ls rfl rfl) (lc (ls rfl rfl) lnil))))
  · rintro i ⟨hi, hpq⟩
    refine VX_go (fs := []) (ok 0 _) trivial 100 [] rfl trivial ?_
    refine VX_split 9 rfl rfl (fun h => ?_) (fun h => ?_)
    · have hi : i < q.length := by simpa using h
      refine VX_go (fs := []) (ok 0 _) trivial 100 [16] rfl ?_ ?_
      · simp [allP]; omega
      refine VX_eq 14 rfl rfl (d' := .t 3 (.e (.int q[i]))) (congrArg (fun x => D.t 3 (.e x)) (getD_int hi)) ?_
      refine VX_go (fs := []) (ok 0 _) trivial 100 [] rfl trivial ?_
      have hd1 : q.drop i = q[i] :: q.drop (i + 1) := List.drop_eq_getElem_cons hi
      rw [hd1] at hpq
      refine VX_split 16 rfl rfl (fun h => ?_) (fun h => ?_)
      · refine VX_go (fs := []) (ok 0 _) trivial 100 [] rfl trivial ?_
        have : idx x q 0 = i := by rw [← hpq]; simp at h; simp [idx, h]
        rw [this]
        exact loop_ret ⟨.inr rfl, rfl⟩
      · refine VX_go (fs := []) (ok 0 _) trivial 100 [] rfl trivial ?_
        refine loop_nrm ⟨i + 1, by omega, ⟨by omega, ?_⟩, ?_⟩
        · rw [← hpq]; simp at h; simp [idx, h]
        · refine wk0 rfl (by simp) (lc (li ?_) (lc (ls rfl rfl) (lc (ls rfl rfl) (lc (ls rfl rfl) lnil))))
          rw [w64 (by omega) (by omega)]; simp
    · refine VX_go (fs := []) (ok 0 _) trivial 100 [] rfl trivial ?_
      apply loop_brk
      refine VX_go (fs := []) (ok 0 _) trivial 100 [] rfl trivial ?_
      have : i = q.length := by simp at h; omega
      rw [← hpq, this, List.drop_length]
      exact ⟨.inr rfl, rfl⟩

theorem clone_row (q : List E) (hq : q.length ≤ 100000) : FnG Try.prog tb 7 [] [.t 22 (.e (.sl q))] (fun d s => d = .t 22 (.lsl 0 q) ∧ s = [.row 3 q.length]) := by
  refine FnG_of_V (fn := Try.f7) (bt := 4) true [0] [22] (ok 0 _) Try.func7 rfl rfl rfl fun _ _ _ _ _ _ => ?_
  apply V_of_VX
  refine VX_go (fs := []) (ok 0 _) trivial 100 [] rfl trivial ?_
  refine VX_op rfl rfl (OpV_nilS (ok 0 _) rfl (.inl rfl) rfl rfl rfl rfl) ?_
  rintro d s ⟨b, hb, rfl, rfl⟩
  refine VX_go (fs := []) (ok 0 _) trivial 100 [] rfl trivial ?_
  refine VX_split 4 rfl rfl (fun h => ?_) (fun h => ?_)
  · refine VX_go (fs := []) (ok 0 _) trivial 5 [] rfl trivial ?_
    refine VX_promote 2 (u := 3) rfl rfl ?_
    refine VX_go (fs := []) (ok 0 _) trivial 100 [] rfl trivial ?_
    refine ⟨.inr rfl, _, _, _, rfl, rfl, rfl, ?_⟩
    rw [hb h]; exact ⟨rfl, rfl⟩
  · refine VX_go (fs := []) (ok 0 _) trivial 100 [] rfl ?_ ?_
    · simp [allP, nb, tb, maxL]; omega
    exact ⟨.inr rfl, _, _, _, rfl, rfl, rfl, rfl, rfl⟩

def pushE (q : List Int) (x m : Int) : List Int := if (q.length : Int) ≥ m then q else q ++ [x]
def pushN (q : List Int) (m : Int) : Int := if (q.length : Int) ≥ m then 6 else 0
theorem push_ok (q : List Int) (x m : Int) (hq : q.length ≤ 90000) : FnOk Try.prog tb 8 [22, 3, 3] [22, 25] [.sl (q.map .int), .int x, .int m] [.sl ((pushE q x m).map .int), .int (pushN q m)] := by
  refine FnOk_of_V (fn := Try.f8) (bt := 4) (ok 0 _) Try.func8 rfl rfl rfl (by decide) fun hw => ?_
  apply V_of_VX
  refine VX_go (fs := []) (ok 0 _) trivial 100 [] rfl trivial ?_
  refine VX_split 11 rfl rfl (fun h => ?_) (fun h => ?_)
  · refine VX_go (fs := []) (ok 0 _) trivial 100 [] rfl trivial ?_
    refine VX_callD (ok 0 _) [22] [] rfl rfl rfl rfl rfl rfl (clone_row _ (by simp; omega)) rfl rfl rfl ?_
    refine VX_go (fs := []) (ok 0 _) trivial 100 [] rfl trivial ?_
    have h : (q.length : Int) ≥ m := by simpa using h
    simp only [pushE, pushN, h, if_true]
    exact ⟨.inr rfl, rfl⟩
  · refine VX_go (fs := []) (ok 0 _) trivial 100 [] rfl trivial ?_
    refine VX_callD (ok 0 _) [22] [] rfl rfl rfl rfl rfl rfl (clone_row _ (by simp; omega)) rfl rfl rfl ?_
    refine VX_go (fs := []) (ok 0 _) trivial 100 [] rfl ?_ ?_
    · simp [allP, nb, tb, maxL]; omega
    have h : ¬ (q.length : Int) ≥ m := by simpa using h
    simp only [pushE, pushN, h, if_false, List.map_append]
    exact ⟨.inr rfl, rfl⟩
end Go.Den.Q15
