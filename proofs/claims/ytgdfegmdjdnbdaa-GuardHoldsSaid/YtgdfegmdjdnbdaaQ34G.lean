/- Law 34: what is left. -/
import Derived.Test.YtgdfegmdjdnbdaaQ34E
namespace Go.Den.Q34
open Go Go.Den Go.Proofs
set_option maxRecDepth 8000
set_option linter.unusedVariables false

def subB (x y : Nat) : Nat × Int := if x < y then (0, 11) else (x - y, 0)
theorem sub_ok (x y : Nat) (hx : x < 18446744073709551616) (hy : y < 18446744073709551616) : FnOk Try.prog tb 27 [26, 26] [26, 31] [.int x, .int y] [.int (subB x y).1, .int (subB x y).2] := by
  refine FnOk_of_V (fn := Try.f27) (bt := 4) (ok 0 _) Try.func27 rfl rfl rfl (by decide) fun hw => ?_
  apply V_of_VX
  refine VX_go3 (fs := []) (ok 0 _) eqs trivial 100 [] rfl trivial ?_
  refine VX_split 8 rfl rfl (fun h => ?_) (fun h => ?_)
  · have h : x < y := by simp at h; omega
    refine VX_go3 (fs := []) (ok 0 _) eqs trivial 100 [] rfl trivial ?_
    refine ⟨.inr rfl, ?_⟩
    simp only [subB, if_pos h]; rfl
  · have h : ¬ x < y := by simp at h; omega
    refine VX_go3 (fs := []) (ok 0 _) eqs trivial 100 [] rfl trivial ?_
    refine ⟨.inr rfl, ?_⟩
    simp only [subB, if_neg h]
    have : (((x - y : Nat)) : Int) = IntKind.wrap .u64 ((x : Int) - y) := by rw [inR_wrap (by simp [inR]; omega)]; omega
    rw [this]; rfl

def leftB (rs : List Rl) (es : List En) (o : Nat) (nm : List UInt8) (now : Nat) : Nat × Bool := match ridx o nm rs 0 with
  | .ofNat i => match rs[i]? with
    | some r => (if (sumF r now es 0).2 ≠ 0 then 0 else (subB r.most (sumF r now es 0).1).1, true)
    | none => (0, false)
  | .negSucc _ => (0, false)
theorem left_ok (rs : List Rl) (es : List En) (o : Nat) (nm : List UInt8) (now : Nat) (hrs : ∀ r ∈ rs, r.ok) (hes : ∀ x ∈ es, x.ok) (hn : now < 18446744073709551616) (hl : es.length ≤ 10000) (hlr : rs.length ≤ 10000) :
    FnOk Try.prog tb 14 [25, 27, 9, 26] [26, 4] [gE rs es, .int o, .str nm, .int now] [.int (leftB rs es o nm now).1, .bool (leftB rs es o nm now).2] := by
  refine FnOk_of_V (fn := Try.f14) (bt := 4) (ok 0 _) Try.func14 rfl rfl rfl (by decide) fun hw => ?_
  apply V_of_VX
  refine VX_go3 (fs := []) (ok 0 _) eqs trivial 100 [] rfl trivial ?_
  refine VX_callD (ok 0 _) [25, 27, 9] [] rfl rfl rfl rfl rfl rfl (rule_ok rs es o nm (by omega)).g rfl rfl rfl ?_
  refine VX_go3 (fs := []) (ok 0 _) eqs trivial 100 [] rfl trivial ?_
  rcases ridx_cases o nm rs with hx | ⟨j, hj, hx, hh⟩
  · have hk : leftB rs es o nm now = (0, false) := by unfold leftB; rw [hx]; rfl
    rw [hx]
    refine VX_known 20 true rfl rfl (by decide) ?_
    refine VX_go3 (fs := []) (ok 0 _) eqs trivial 100 [] rfl trivial ?_
    refine ⟨.inr rfl, ?_⟩
    rw [hk]; rfl
  · have hk : leftB rs es o nm now = (if (sumF rs[j] now es 0).2 ≠ 0 then 0 else (subB rs[j].most (sumF rs[j] now es 0).1).1, true) := by
      unfold leftB; rw [hx]
      show (match rs[j]? with | some r => (if (sumF r now es 0).2 ≠ 0 then 0 else (subB r.most (sumF r now es 0).1).1, true) | none => (0, false)) = _
      rw [List.getElem?_eq_getElem hj]
    rw [hx]
    have hrj := hrs _ (List.getElem_mem hj)
    have hsl := sumF_lt rs[j] now es 0 (by decide)
    refine VX_known 20 false rfl rfl (by simp) ?_
    refine VX_go3 (fs := []) (ok 0 _) eqs trivial 100 [] rfl trivial ?_
    refine VX_draw [] [(0, true), (1, true), (2, true), (3, true), (4, true), (5, true), (6, true), (7, false), (8, true), (9, true), (10, true), (11, true), (12, true)] mixed (by kernel_rfl) (by kernel_rfl) (by kernel_rfl) ?_
    refine VX_go3 (fs := []) (ok 0 _) eqs trivial 100 [] rfl ?_ ?_
    · simp [allP]; omega
    refine VX_eq 27 rfl rfl (d' := .t 47 (.e rs[j].e)) (congrArg (fun x => D.t 47 (.e x)) (getD_rl hj)) ?_
    refine VX_callO (ok 0 _) [25, 47, 26] [] rfl rfl rfl rfl rfl rfl rfl rfl (sum_ok rs es rs[j] now hes hrj hn (by omega)).g rfl rfl rfl ?_
    refine VX_go3 (fs := []) (ok 0 _) eqs trivial 100 [] rfl trivial ?_
    have hk2 : leftB rs es o nm now = (if (sumF rs[j] now es 0).2 ≠ 0 then 0 else (subB rs[j].most (sumF rs[j] now es 0).1).1, true) := hk
    generalize (sumF rs[j] now es 0).1 = S at hsl hk2 ⊢
    generalize (sumF rs[j] now es 0).2 = F at hk2 ⊢
    refine VX_split 33 rfl rfl (fun h => ?_) (fun h => ?_)
    · have hF : F ≠ 0 := by simpa using h
      rw [if_pos hF] at hk2
      refine VX_go3 (fs := []) (ok 0 _) eqs trivial 100 [] rfl trivial ?_
      refine ⟨.inr rfl, ?_⟩
      rw [hk2]; rfl
    · have hF : ¬ F ≠ 0 := by simpa using h
      rw [if_neg hF] at hk2
      refine VX_go3 (fs := []) (ok 0 _) eqs trivial 100 [41] rfl ?_ ?_
      · simp [allP]; omega
      have hmost : getE [2] ((rs.map Rl.e).getD j .nilp) = .int rs[j].most := by rw [getD_rl hj]; rfl
      refine VX_eq 40 rfl rfl (d' := .t 26 (.e (.int rs[j].most))) (congrArg (fun x => D.t 26 (.e x)) hmost) ?_
      refine VX_go3 (fs := []) (ok 0 _) eqs trivial 100 [] rfl trivial ?_
      refine VX_callD (ok 0 _) [26, 26] [] rfl rfl rfl rfl rfl rfl (sub_ok rs[j].most S hrj.most hsl).g rfl rfl rfl ?_
      refine VX_go3 (fs := []) (ok 0 _) eqs trivial 100 [] rfl trivial ?_
      refine ⟨.inr rfl, ?_⟩
      rw [hk2]; rfl
end Go.Den.Q34
