/- Law 03: a reader that is none. -/
import Derived.Test.YtoanljcmkmjcbaaQ03D
namespace Go.Den.Q03
open Go Go.Den Go.Proofs
set_option maxRecDepth 8000
set_option linter.unusedVariables false

theorem takeN (n : Int) : FnOk Try.prog tb 38 [40, 3] [9] [.nilp, .int n] [.str []] := by
  refine FnOk_of_V (fn := Try.f38) (bt := 4) (ok 0 _) Try.func38 rfl rfl rfl (by decide) fun hw => ?_
  apply V_of_VX
  refine VX_go3 (fs := []) (ok 0 _) eqs trivial 100 [] rfl trivial ?_
  exact ⟨.inr rfl, rfl⟩
theorem failN (n : Int) : FnOk Try.prog tb 21 [40, 42] [] [.nilp, .int n] [] := by
  refine FnOk_of_V (fn := Try.f21) (bt := 4) (ok 0 _) Try.func21 rfl rfl rfl (by decide) fun hw => ?_
  apply V_of_VX
  refine VX_go3 (fs := []) (ok 0 _) eqs trivial 100 [] rfl trivial ?_
  exact ⟨.inl rfl, rfl⟩
theorem numberN (n : Int) : FnOk Try.prog tb 37 [40, 3] [22] [.nilp, .int n] [.int 0] := by
  refine FnOk_of_V (fn := Try.f37) (bt := 4) (ok 0 _) Try.func37 rfl rfl rfl (by decide) fun hw => ?_
  apply V_of_VX
  refine VX_go3 (fs := []) (ok 0 _) eqs trivial 100 [] rfl trivial ?_
  refine VX_callD (ok 0 _) [40, 3] [] rfl rfl rfl rfl rfl rfl (takeN n).g rfl rfl rfl ?_
  refine VX_op rfl rfl (OpV_bytes (ok 0 _) rfl rfl rfl rfl rfl rfl) ?_
  rintro d s ⟨rfl, rfl⟩
  refine VX_go3 (fs := []) (ok 0 _) eqs trivial 100 [] rfl trivial ?_
  refine VX_loopA (fun _ : Unit => True) (fun _ => [(13, .t 3 (.e (.int 0))), (12, .t 3 (.e (.int 0))), (5, .t 22 (.e (.int 0)))]) (fun _ => []) (fun _ => 0) () trivial ?_ ?_
  · exact wk0 rfl (by simp) (lc (ls rfl rfl) (lc (ls rfl rfl) (lc (ls rfl rfl) lnil)))
  · intro _ _
    refine VX_go3 (fs := []) (ok 0 _) eqs trivial 100 [] rfl trivial ?_
    refine VX_known 14 false rfl rfl (by decide) ?_
    refine VX_go3 (fs := []) (ok 0 _) eqs trivial 100 [] rfl trivial ?_
    apply loop_brk
    refine VX_go3 (fs := []) (ok 0 _) eqs trivial 100 [] rfl trivial ?_
    exact ⟨.inr rfl, rfl⟩
theorem byteN : FnOk Try.prog tb 22 [40] [5] [.nilp] [.int 0] := by
  refine FnOk_of_V (fn := Try.f22) (bt := 4) (ok 0 _) Try.func22 rfl rfl rfl (by decide) fun hw => ?_
  apply V_of_VX
  refine VX_go3 (fs := []) (ok 0 _) eqs trivial 100 [] rfl trivial ?_
  refine VX_callD (ok 0 _) [40, 3] [] rfl rfl rfl rfl rfl rfl (numberN 1).g rfl rfl rfl ?_
  refine VX_go3 (fs := []) (ok 0 _) eqs trivial 100 [] rfl trivial ?_
  exact ⟨.inr rfl, rfl⟩
theorem wordN : FnOk Try.prog tb 23 [40] [33] [.nilp] [.int 0] := by
  refine FnOk_of_V (fn := Try.f23) (bt := 4) (ok 0 _) Try.func23 rfl rfl rfl (by decide) fun hw => ?_
  apply V_of_VX
  refine VX_go3 (fs := []) (ok 0 _) eqs trivial 100 [] rfl trivial ?_
  refine VX_callD (ok 0 _) [40, 3] [] rfl rfl rfl rfl rfl rfl (numberN 4).g rfl rfl rfl ?_
  refine VX_go3 (fs := []) (ok 0 _) eqs trivial 100 [] rfl trivial ?_
  exact ⟨.inr rfl, rfl⟩
theorem longN : FnOk Try.prog tb 24 [40] [22] [.nilp] [.int 0] := by
  refine FnOk_of_V (fn := Try.f24) (bt := 4) (ok 0 _) Try.func24 rfl rfl rfl (by decide) fun hw => ?_
  apply V_of_VX
  refine VX_go3 (fs := []) (ok 0 _) eqs trivial 100 [] rfl trivial ?_
  refine VX_callD (ok 0 _) [40, 3] [] rfl rfl rfl rfl rfl rfl (numberN 8).g rfl rfl rfl ?_
  refine VX_go3 (fs := []) (ok 0 _) eqs trivial 100 [] rfl trivial ?_
  exact ⟨.inr rfl, rfl⟩
def z32 : List E := List.replicate 32 (.int 0)
theorem digestN : FnOk Try.prog tb 25 [40] [24] [.nilp] [.agg z32] := by
  refine FnOk_of_V (fn := Try.f25) (bt := 4) (ok 0 _) Try.func25 rfl rfl rfl (by decide) fun hw => ?_
  apply V_of_VX
  refine VX_go3 (fs := []) (ok 0 _) eqs trivial 100 [] rfl trivial ?_
  refine VX_draw [1] [(0, true), (1, true), (2, false), (3, false)] mixed (by kernel_rfl) (by kernel_rfl) (by kernel_rfl) ?_
  refine VX_go3 (fs := []) (ok 0 _) eqs trivial 100 [] rfl (by simp [allP]) ?_
  refine VX_callO (ok 0 _) [40, 3] [] rfl rfl rfl rfl rfl rfl rfl rfl (takeN 32).g rfl rfl rfl ?_
  refine VX_copyO (ok 0 _) rfl rfl rfl rfl rfl rfl (by simp) ?_
  refine VX_go3 (fs := []) (ok 0 _) eqs trivial 100 [] rfl trivial ?_
  exact ⟨.inr rfl, rfl⟩
theorem countN (n : Int) : FnOk Try.prog tb 39 [40, 3] [3] [.nilp, .int n] [.int 0] := by
  refine FnOk_of_V (fn := Try.f39) (bt := 4) (ok 0 _) Try.func39 rfl rfl rfl (by decide) fun hw => ?_
  apply V_of_VX
  refine VX_go3 (fs := []) (ok 0 _) eqs trivial 100 [] rfl trivial ?_
  refine VX_callD (ok 0 _) [40, 3] [] rfl rfl rfl rfl rfl rfl (numberN 4).g rfl rfl rfl ?_
  refine VX_go3 (fs := []) (ok 0 _) eqs trivial 100 [] rfl trivial ?_
  refine VX_split 12 rfl rfl (fun h => ?_) (fun h => ?_)
  · refine VX_go3 (fs := []) (ok 0 _) eqs trivial 100 [] rfl trivial ?_
    refine VX_callD (ok 0 _) [40, 42] [] rfl rfl rfl rfl rfl rfl (failN 5).g rfl rfl rfl ?_
    refine VX_go3 (fs := []) (ok 0 _) eqs trivial 100 [] rfl trivial ?_
    exact ⟨.inr rfl, rfl⟩
  · refine VX_go3 (fs := []) (ok 0 _) eqs trivial 100 [] rfl trivial ?_
    exact ⟨.inr rfl, rfl⟩
theorem textN (n : Int) : FnOk Try.prog tb 26 [40, 3] [9] [.nilp, .int n] [.str []] := by
  refine FnOk_of_V (fn := Try.f26) (bt := 4) (ok 0 _) Try.func26 rfl rfl rfl (by decide) fun hw => ?_
  apply V_of_VX
  refine VX_go3 (fs := []) (ok 0 _) eqs trivial 100 [] rfl trivial ?_
  refine VX_callD (ok 0 _) [40, 3] [] rfl rfl rfl rfl rfl rfl (countN n).g rfl rfl rfl ?_
  refine VX_callD (ok 0 _) [40, 3] [] rfl rfl rfl rfl rfl rfl (takeN 0).g rfl rfl rfl ?_
  refine VX_go3 (fs := []) (ok 0 _) eqs trivial 100 [] rfl trivial ?_
  exact ⟨.inr rfl, rfl⟩
theorem digestsN (n : Int) : FnOk Try.prog tb 27 [40, 3] [25] [.nilp, .int n] [.sl []] := by
  refine FnOk_of_V (fn := Try.f27) (bt := 4) (ok 0 _) Try.func27 rfl rfl rfl (by decide) fun hw => ?_
  apply V_of_VX
  refine VX_go3 (fs := []) (ok 0 _) eqs trivial 100 [] rfl trivial ?_
  refine VX_callD (ok 0 _) [40, 3] [] rfl rfl rfl rfl rfl rfl (countN n).g rfl rfl rfl ?_
  refine VX_go3 (fs := []) (ok 0 _) eqs trivial 100 [] rfl trivial ?_
  refine VX_callD (ok 0 _) [40, 3] [] rfl rfl rfl rfl rfl rfl (takeN _).g rfl rfl rfl ?_
  refine VX_go3 (fs := []) (ok 0 _) eqs trivial 100 [] rfl trivial ?_
  refine VX_loopA (fun _ : Unit => True) (fun _ => [(6, .t 9 (.e (.str []))), (7, .t 25 (.e (.sl [])))]) (fun _ => []) (fun _ => 0) () trivial ?_ ?_
  · exact wk0 rfl (by simp) (lc (ls rfl rfl) (lc lnsl lnil))
  · intro _ _
    refine VX_go3 (fs := []) (ok 0 _) eqs trivial 100 [] rfl trivial ?_
    refine VX_known 17 false rfl rfl (by decide) ?_
    refine VX_go3 (fs := []) (ok 0 _) eqs trivial 100 [] rfl trivial ?_
    apply loop_brk
    refine VX_go3 (fs := []) (ok 0 _) eqs trivial 100 [] rfl trivial ?_
    exact ⟨.inr rfl, rfl⟩
def sig0 : E := .agg [.int 0, .sl [], .sl [], .sl []]
theorem sigN : FnOk Try.prog tb 28 [40] [27] [.nilp] [sig0] := by
  refine FnOk_of_V (fn := Try.f28) (bt := 4) (ok 0 _) Try.func28 rfl rfl rfl (by decide) fun hw => ?_
  apply V_of_VX
  refine VX_go3 (fs := []) (ok 0 _) eqs trivial 100 [] rfl trivial ?_
  refine VX_callD (ok 0 _) [40] [] rfl rfl rfl rfl rfl rfl wordN.g rfl rfl rfl ?_
  refine VX_go3 (fs := []) (ok 0 _) eqs trivial 100 [] rfl trivial ?_
  refine VX_known 8 false rfl rfl (by decide) ?_
  refine VX_go3 (fs := []) (ok 0 _) eqs trivial 100 [] rfl trivial ?_
  refine VX_callD (ok 0 _) [40, 3] [] rfl rfl rfl rfl rfl rfl (digestsN 32).g rfl rfl rfl ?_
  refine VX_go3 (fs := []) (ok 0 _) eqs trivial 100 [] rfl trivial ?_
  refine VX_callD (ok 0 _) [40, 3] [] rfl rfl rfl rfl rfl rfl (digestsN 32).g rfl rfl rfl ?_
  refine VX_go3 (fs := []) (ok 0 _) eqs trivial 100 [] rfl trivial ?_
  refine VX_callD (ok 0 _) [40, 3] [] rfl rfl rfl rfl rfl rfl (digestsN 32).g rfl rfl rfl ?_
  refine VX_go3 (fs := []) (ok 0 _) eqs trivial 100 [] rfl trivial ?_
  exact ⟨.inr rfl, rfl⟩
theorem leftN : FnOk Try.prog tb 29 [40] [3] [.nilp] [.int 0] := by
  refine FnOk_of_V (fn := Try.f29) (bt := 4) (ok 0 _) Try.func29 rfl rfl rfl (by decide) fun hw => ?_
  apply V_of_VX
  refine VX_go3 (fs := []) (ok 0 _) eqs trivial 100 [] rfl trivial ?_
  exact ⟨.inr rfl, rfl⟩
theorem endN : FnOk Try.prog tb 30 [40] [42] [.nilp] [.int 1] := by
  refine FnOk_of_V (fn := Try.f30) (bt := 4) (ok 0 _) Try.func30 rfl rfl rfl (by decide) fun hw => ?_
  apply V_of_VX
  refine VX_go3 (fs := []) (ok 0 _) eqs trivial 100 [] rfl trivial ?_
  exact ⟨.inr rfl, rfl⟩
set_option maxHeartbeats 1600000 in
theorem nil_ok : FnOk Try.prog tb 4 [] [4] [] [.bool true] := by
  refine FnOk_of_V (fn := Try.f4) (bt := 4) (ok 0 _) Try.func4 rfl rfl rfl (by decide) fun hw => ?_
  apply V_of_VX
  refine VX_go3 (fs := []) (ok 0 _) eqs trivial 100 [] rfl trivial ?_
  refine VX_callD (ok 0 _) [] [] rfl rfl rfl rfl rfl rfl awake_ok.g rfl rfl rfl ?_
  refine VX_known 2 true rfl rfl rfl ?_
  refine VX_go3 (fs := []) (ok 0 _) eqs trivial 100 [] rfl trivial ?_
  refine VX_callD (ok 0 _) [40, 42] [] rfl rfl rfl rfl rfl rfl (failN 2).g rfl rfl rfl ?_
  refine VX_go3 (fs := []) (ok 0 _) eqs trivial 100 [] rfl trivial ?_
  refine VX_callD (ok 0 _) [] [] rfl rfl rfl rfl rfl rfl awake_ok.g rfl rfl rfl ?_
  refine VX_known 6 true rfl rfl rfl ?_
  refine VX_go3 (fs := []) (ok 0 _) eqs trivial 100 [] rfl trivial ?_
  refine VX_callD (ok 0 _) [40] [] rfl rfl rfl rfl rfl rfl byteN.g rfl rfl rfl ?_
  refine VX_go3 (fs := []) (ok 0 _) eqs trivial 100 [11] rfl trivial ?_
  refine VX_known 10 true rfl rfl (by decide) ?_
  refine VX_go3 (fs := []) (ok 0 _) eqs trivial 100 [] rfl trivial ?_
  refine VX_callD (ok 0 _) [40] [] rfl rfl rfl rfl rfl rfl wordN.g rfl rfl rfl ?_
  refine VX_go3 (fs := []) (ok 0 _) eqs trivial 100 [16] rfl trivial ?_
  refine VX_known 15 true rfl rfl (by decide) ?_
  refine VX_go3 (fs := []) (ok 0 _) eqs trivial 100 [] rfl trivial ?_
  refine VX_callD (ok 0 _) [40] [] rfl rfl rfl rfl rfl rfl longN.g rfl rfl rfl ?_
  refine VX_go3 (fs := []) (ok 0 _) eqs trivial 100 [21] rfl trivial ?_
  refine VX_known 20 true rfl rfl (by decide) ?_
  refine VX_go3 (fs := []) (ok 0 _) eqs trivial 100 [] rfl trivial ?_
  refine VX_callD (ok 0 _) [40] [] rfl rfl rfl rfl rfl rfl digestN.g rfl rfl rfl ?_
  refine VX_go3 (fs := []) (ok 0 _) eqs trivial 100 [27] rfl (by simp [allP]) ?_
  refine VX_known 26 true rfl rfl (by decide) ?_
  refine VX_go3 (fs := []) (ok 0 _) eqs trivial 100 [] rfl trivial ?_
  refine VX_callD (ok 0 _) [40, 3] [] rfl rfl rfl rfl rfl rfl (textN 3).g rfl rfl rfl ?_
  refine VX_go3 (fs := []) (ok 0 _) eqs trivial 100 [32] rfl trivial ?_
  refine VX_known 31 true rfl rfl (by decide) ?_
  refine VX_go3 (fs := []) (ok 0 _) eqs trivial 100 [] rfl trivial ?_
  refine VX_callD (ok 0 _) [40, 3] [] rfl rfl rfl rfl rfl rfl (digestsN 3).g rfl rfl rfl ?_
  refine VX_go3 (fs := []) (ok 0 _) eqs trivial 100 [38] rfl trivial ?_
  refine VX_known 37 true rfl rfl (by decide) ?_
  refine VX_go3 (fs := []) (ok 0 _) eqs trivial 100 [] rfl trivial ?_
  refine VX_callD (ok 0 _) [40] [] rfl rfl rfl rfl rfl rfl sigN.g rfl rfl rfl ?_
  refine VX_go3 (fs := []) (ok 0 _) eqs trivial 100 [44] rfl trivial ?_
  refine VX_known 43 true rfl rfl (by decide) ?_
  refine VX_go3 (fs := []) (ok 0 _) eqs trivial 100 [] rfl trivial ?_
  refine VX_callD (ok 0 _) [40] [] rfl rfl rfl rfl rfl rfl leftN.g rfl rfl rfl ?_
  refine VX_go3 (fs := []) (ok 0 _) eqs trivial 100 [49] rfl trivial ?_
  refine VX_known 48 true rfl rfl (by decide) ?_
  refine VX_go3 (fs := []) (ok 0 _) eqs trivial 100 [] rfl trivial ?_
  refine VX_callD (ok 0 _) [40] [] rfl rfl rfl rfl rfl rfl endN.g rfl rfl rfl ?_
  refine VX_go3 (fs := []) (ok 0 _) eqs trivial 100 [54] rfl trivial ?_
  refine VX_known 53 true rfl rfl (by decide) ?_
  refine VX_go3 (fs := []) (ok 0 _) eqs trivial 100 [] rfl trivial ?_
  exact ⟨.inr rfl, rfl⟩
end Go.Den.Q03
