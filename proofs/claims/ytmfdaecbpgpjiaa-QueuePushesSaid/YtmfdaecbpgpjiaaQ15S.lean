/- Law 15: contracts over lists of texts. -/
import Derived.Test.YtmfdaecbpgpjiaaQ15C
namespace Go.Den.Q15
open Go Go.Den Go.Proofs
set_option maxRecDepth 8000
set_option linter.unusedVariables false
theorem getD_str {p : List (List UInt8)} {i : Nat} (h : i < p.length) : (p.map E.str).getD i .nilp = .str p[i] := by simp [List.getD, h]
theorem cloneS (q : List E) (hq : q.length ≤ 100000) : FnOk Try.prog tb 27 [41] [41] [.sl q] [.sl q] := by
  refine FnOk_of_V (fn := Try.f27) (bt := 4) (ok 0 _) Try.func27 rfl rfl rfl (by decide) fun hw => ?_
  apply V_of_VX
  refine VX_go (fs := []) (ok 0 _) trivial 100 [] rfl trivial ?_
  refine VX_op rfl rfl (OpV_nilS (ok 0 _) rfl (.inl rfl) rfl rfl rfl rfl) ?_
  rintro d s ⟨b, hb, rfl, rfl⟩
  refine VX_go (fs := []) (ok 0 _) trivial 100 [] rfl trivial ?_
  refine VX_split 4 rfl rfl (fun h => ?_) (fun h => ?_)
  · refine VX_go (fs := []) (ok 0 _) trivial 100 [] rfl trivial ?_
    exact ⟨.inr rfl, by rw [hb h]; rfl⟩
  · refine VX_go (fs := []) (ok 0 _) trivial 100 [] rfl ?_ ?_
    · simp [allP, nb, tb, maxL]; omega
    exact ⟨.inr rfl, rfl⟩

theorem equalS (p q : List (List UInt8)) (hq : q.length ≤ 100000) : FnOk Try.prog tb 24 [41, 41] [4] [.sl (p.map .str), .sl (q.map .str)] [.bool (p == q)] := by
  refine FnOk_of_V (fn := Try.f24) (bt := 4) (ok 0 _) Try.func24 rfl rfl rfl (by decide) fun hw => ?_
  apply V_of_VX
  refine VX_go (fs := []) (ok 0 _) trivial 100 [] rfl trivial ?_
  refine VX_split 10 rfl rfl (fun h => ?_) (fun h => ?_)
  · refine VX_go (fs := []) (ok 0 _) trivial 100 [] rfl trivial ?_
    have : (p == q) = false := by
      simp at h ⊢
      intro e; subst e; simp at h
    rw [this]; exact ⟨.inr rfl, rfl⟩
  · have hl : p.length = q.length := by simp at h; omega
    refine VX_go (fs := []) (ok 0 _) trivial 100 [] rfl trivial ?_
    refine VX_loopA (fun i : Nat => i ≤ p.length ∧ (p.drop i == q.drop i) = (p == q)) (fun i => [(13, .t 3 (.e (.int i))), (12, .t 3 (.e (.int p.length))), (0, .t 41 (.e (.sl (p.map .str)))), (1, .t 41 (.e (.sl (q.map .str))))]) (fun _ => []) (fun i => p.length - i) 0 ⟨by simp, by simp⟩ ?_ ?_
    · exact wk0 rfl (by simp) (lc (ls rfl rfl) (lc (li (by simp)) (lc (ls rfl rfl) (lc (ls rfl rfl) lnil))))
    · rintro i ⟨hi, hpq⟩
      refine VX_go (fs := []) (ok 0 _) trivial 100 [] rfl trivial ?_
      refine VX_split 14 rfl rfl (fun h => ?_) (fun h => ?_)
      · have hi : i < p.length := by simpa using h
        refine VX_go (fs := []) (ok 0 _) trivial 100 [] rfl trivial ?_
        refine VX_draw [] [(0, true), (1, true), (2, true), (3, true), (4, true), (5, true), (6, true), (7, true), (8, true)] mixed (by kernel_rfl) (by kernel_rfl) (by kernel_rfl) ?_
        refine VX_go (fs := []) (ok 0 _) trivial 100 [24] rfl ?_ ?_
        · simp [allP]; omega
        refine VX_eq 19 rfl rfl (d' := .t 9 (.e (.str p[i]))) (congrArg (fun x => D.t 9 (.e x)) (getD_str hi)) ?_
        refine VX_eq 23 rfl rfl (d' := .t 9 (.e (.str (q[i]'(by omega))))) (congrArg (fun x => D.t 9 (.e x)) (getD_str (by omega))) ?_
        refine VX_go (fs := []) (ok 0 _) trivial 100 [] rfl trivial ?_
        have hd1 : p.drop i = p[i] :: p.drop (i + 1) := List.drop_eq_getElem_cons hi
        have hd2 : q.drop i = q[i]'(by omega) :: q.drop (i + 1) := List.drop_eq_getElem_cons (by omega)
        rw [hd1, hd2] at hpq
        refine VX_split 24 rfl rfl (fun h => ?_) (fun h => ?_)
        · refine VX_go (fs := []) (ok 0 _) trivial 100 [] rfl trivial ?_
          refine loop_ret ⟨.inr rfl, ?_⟩
          have : (p == q) = false := by rw [← hpq]; simp [-List.getElem_cons_drop] at h ⊢; intro e; exact absurd e h
          rw [this]; rfl
        · refine VX_go (fs := []) (ok 0 _) trivial 100 [] rfl trivial ?_
          refine loop_nrm ⟨i + 1, by omega, ⟨by omega, ?_⟩, ?_⟩
          · rw [← hpq]; simp at h; simp [-List.getElem_cons_drop, h]
          · refine wk0 rfl (by simp) (lc (li ?_) (lc (ls rfl rfl) (lc (ls rfl rfl) (lc (ls rfl rfl) lnil))))
            rw [w64 (by omega) (by omega)]; simp
      · refine VX_go (fs := []) (ok 0 _) trivial 100 [] rfl trivial ?_
        apply loop_brk
        refine VX_go (fs := []) (ok 0 _) trivial 100 [] rfl trivial ?_
        have : i = p.length := by simp at h; omega
        have : (p == q) = true := by rw [← hpq, this]; simp [hl]
        rw [this]; exact ⟨.inr rfl, rfl⟩
theorem clone_rowS (q : List E) (hq : q.length ≤ 100000) : FnG Try.prog tb 27 [] [.t 41 (.e (.sl q))] (fun d s => d = .t 41 (.lsl 0 q) ∧ s = [.row 9 q.length]) := by
  refine FnG_of_V (fn := Try.f27) (bt := 4) true [0] [41] (ok 0 _) Try.func27 rfl rfl rfl fun _ _ _ _ _ _ => ?_
  apply V_of_VX
  refine VX_go (fs := []) (ok 0 _) trivial 100 [] rfl trivial ?_
  refine VX_op rfl rfl (OpV_nilS (ok 0 _) rfl (.inl rfl) rfl rfl rfl rfl) ?_
  rintro d s ⟨b, hb, rfl, rfl⟩
  refine VX_go (fs := []) (ok 0 _) trivial 100 [] rfl trivial ?_
  refine VX_split 4 rfl rfl (fun h => ?_) (fun h => ?_)
  · refine VX_go (fs := []) (ok 0 _) trivial 5 [] rfl trivial ?_
    refine VX_promote 2 (u := 9) rfl rfl ?_
    refine VX_go (fs := []) (ok 0 _) trivial 100 [] rfl trivial ?_
    refine ⟨.inr rfl, _, _, _, rfl, rfl, rfl, ?_⟩
    rw [hb h]; exact ⟨rfl, rfl⟩
  · refine VX_go (fs := []) (ok 0 _) trivial 100 [] rfl ?_ ?_
    · simp [allP, nb, tb, maxL]; omega
    exact ⟨.inr rfl, _, _, _, rfl, rfl, rfl, rfl, rfl⟩
end Go.Den.Q15
