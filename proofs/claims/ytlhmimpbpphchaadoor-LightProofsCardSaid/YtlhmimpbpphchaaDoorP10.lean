/- The calculus and the walks, part 10: Q33ZZ, Q33X. -/
import Derived.Test.YtlhmimpbpphchaaDoorP9
import Derived.Test.YtlhmimpbpphchaaDoorRows
import Derived.WalkKit
import Derived.ProofKit
import Derived.OpenShut
import Derived.ShutString
import Derived.ChangeOld
import Derived.LaidMore
import Derived.Stop.Joined
import Derived.Below
import Derived.Test.YtlhmimpbpphchaaDoorP6
/- Law 33: LightShows, walked. -/
namespace Go.Den.Q33
open Go Go.Den Go.Proofs Go.Den.Q33.Dg
set_option maxRecDepth 8000
set_option linter.unusedVariables false
set_option linter.unusedSimpArgs false
open Go.Den.Q33.Sh (dgE)
open Go.Den.Q33.Me (Dig dsE All32 z0 rootB eqDg brL provesB)

set_option maxHeartbeats 3200000 in
theorem law_shows (x0 x1 x2 : E) : FnOk Tryd.prog tb 6 [28, 28, 3] [4] [x0, x1, x2] [.bool true] := by
  refine FnOk_of_V (fn := Tryd.f6) (bt := 4) (ok 0 _) Tryd.func6 rfl rfl rfl (by decide) fun hw => ?_
  obtain ⟨⟨x, hxo⟩, rfl⟩ := wt_bk (hw 0 _ x0 rfl rfl)
  obtain ⟨⟨y, hyo⟩, rfl⟩ := wt_bk (hw 1 _ x1 rfl rfl)
  obtain ⟨k, rfl, _⟩ := wt_int (hw 2 _ x2 rfl rfl) (k := .i64) rfl
  clear hw
  simp only
  have c1 := awake_ok.g
  have c2 := (few_ok x).g
  have c3 := (few_ok y).g
  have hfx := few_small (x := x)
  have hfy := few_small (x := y)
  have hpk := @pack x y hxo hyo
  generalize fewB x = fx at c2 hfx
  generalize fewB y = fy at c3 hfy
  have hyh := hyo.h
  clear hxo hyo
  obtain ⟨xh, xp, xb, cs, rs, xs⟩ := x
  obtain ⟨yh, yp, yb, ycs, yrs, ys⟩ := y
  simp only at hpk hyh hfx hfy
  have hcm : (cs.map E.str).length = cs.length := by simp
  have hrm : (rs.map E.int).length = rs.length := by simp
  apply V_of_VX
  refine VX_go4 (fs := []) (ok 0 _) eqs trivial 100 [] rfl trivial ?_
  refine VX_callD (ok 0 _) [] [] rfl rfl rfl rfl rfl rfl c1 rfl rfl rfl ?_
  refine VX_go4 (fs := []) (ok 0 _) eqs trivial 100 [] rfl trivial ?_
  refine VX_known 15 false rfl rfl rfl ?_
  refine VX_go4 (fs := []) (ok 0 _) eqs trivial 100 [] rfl trivial ?_
  refine VX_callD (ok 0 _) [28] [] rfl rfl rfl rfl rfl rfl c2 rfl rfl rfl ?_
  refine VX_go4 (fs := []) (ok 0 _) eqs trivial 100 [] rfl trivial ?_
  cases fx with
  | false =>
    refine VX_known 19 true rfl rfl rfl ?_
    refine VX_go4 (fs := []) (ok 0 _) eqs trivial 100 [] rfl trivial ?_
    exact ⟨.inr rfl, rfl⟩
  | true =>
  refine VX_known 19 false rfl rfl rfl ?_
  refine VX_go4 (fs := []) (ok 0 _) eqs trivial 100 [] rfl trivial ?_
  refine VX_callD (ok 0 _) [28] [] rfl rfl rfl rfl rfl rfl c3 rfl rfl rfl ?_
  refine VX_go4 (fs := []) (ok 0 _) eqs trivial 100 [] rfl trivial ?_
  cases fy with
  | false =>
    refine VX_known 24 true rfl rfl rfl ?_
    refine VX_go4 (fs := []) (ok 0 _) eqs trivial 100 [] rfl trivial ?_
    exact ⟨.inr rfl, rfl⟩
  | true =>
  refine VX_known 24 false rfl rfl rfl ?_
  refine VX_go4 (fs := []) (ok 0 _) eqs trivial 100 [] rfl trivial ?_
  obtain ⟨sx, hc12, hr12⟩ := hfx rfl
  obtain ⟨sy, _, _⟩ := hfy rfl
  refine VX_split 33 rfl rfl (fun _ => ?_) (fun h1 => ?_)
  · refine VX_go4 (fs := []) (ok 0 _) eqs trivial 100 [] rfl trivial ?_
    exact ⟨.inr rfl, rfl⟩
  have h1 : cs.length = rs.length := by simp only [hcm, hrm] at h1; simp at h1; omega
  refine VX_go4 (fs := []) (ok 0 _) eqs trivial 100 [] rfl trivial ?_
  refine VX_split 39 rfl rfl (fun _ => ?_) (fun h2 => ?_)
  · refine VX_go4 (fs := []) (ok 0 _) eqs trivial 100 [] rfl trivial ?_
    exact ⟨.inr rfl, rfl⟩
  have h2 : 0 < cs.length := by simp only [hcm, decide_eq_false_iff_not] at h2; omega
  refine VX_go4 (fs := []) (ok 0 _) eqs trivial 100 [] rfl trivial ?_
  refine VX_split 43 rfl rfl (fun _ => ?_) (fun h3 => ?_)
  · refine VX_go4 (fs := []) (ok 0 _) eqs trivial 100 [] rfl trivial ?_
    exact ⟨.inr rfl, rfl⟩
  have h3 : yh + 1 < 18446744073709551616 := by simp only [decide_eq_false_iff_not] at h3; omega
  refine VX_go4 (fs := []) (ok 0 _) eqs trivial 100 [50] rfl trivial ?_
  obtain ⟨m, hm⟩ : ∃ m : Nat, IntKind.wrap .u64 k = (m : Int) := ⟨(IntKind.wrap .u64 k).toNat, by have := wrap_inR .u64 k; simp only [inR, Bool.and_eq_true, decide_eq_true_eq] at this; omega⟩
  have hn : IntKind.wrap .u64 (((cs.map E.str).length : Nat) : Int) = (cs.length : Int) := by rw [hcm]; exact u64n _ (by omega)
  refine VX_eq 45 rfl rfl (d' := .t 75 (.e (.int m))) (congrArg (fun x => D.t 75 (.e (.int x))) hm) ?_
  refine VX_eq 49 rfl rfl (d' := .t 75 (.e (.int cs.length))) (congrArg (fun x => D.t 75 (.e (.int x))) hn) ?_
  obtain ⟨j, hj⟩ : ∃ j : Nat, j = m % cs.length := ⟨_, rfl⟩
  have hjl : j < cs.length := by rw [hj]; exact Nat.mod_lt _ h2
  have e50 : ((m : Int).tmod (cs.length : Int)) = (j : Int) := by rw [hj]; rfl
  have e51 : IntKind.wrap .i64 (j : Int) = (j : Int) := w64 (by omega) (by omega)
  have e57 : IntKind.wrap .u64 ((yh : Int) + 1) = ((yh + 1 : Nat) : Int) := by rw [inR_wrap (by simp [inR]; omega)]; omega
  have g1 := str_get hjl
  have g2 := int_get (rs := rs) (i := j) (by omega)
  obtain ⟨h0, h1', P, d, pk⟩ := hpk sx sy h1 h3 j hjl
  obtain ⟨k1, k2, k3, k4, k5, k6, k7, k8, pc, pe⟩ := pk
  simp only at pc pe
  rw [← pc] at g1
  rw [← pe] at g2
  have k1 := k1.g
  have k2 := k2.g
  have k3 := k3.g
  have k4 := k4.g
  have k5 := k5.g
  have k6 := k6.g
  have k7 := k7.g
  have k8 := k8.g
  clear hpk pc pe hfx hfy sx sy c1 c2 c3
  obtain ⟨a1, a2, a3, a4, a5, a6, a7⟩ := h0
  obtain ⟨b1, b2, b3, b4, b5, b6, b7⟩ := h1'
  obtain ⟨pa, pc, pe, pcs, prs⟩ := P
  simp only [upx] at k4 k6 g1 g2 k8
  refine VX_go4 (fs := []) (ok 0 _) eqs trivial 100 [51] rfl (by simp [allP, arithP]; intro h; simp [h] at h2) ?_
  refine VX_eq 50 rfl rfl (d' := .t 75 (.e (.int j))) (congrArg (fun x => D.t 75 (.e (.int x))) e50) ?_
  refine VX_go4 (fs := []) (ok 0 _) eqs trivial 100 [7] rfl trivial ?_
  refine VX_eq 51 rfl rfl (d' := .t 3 (.e (.int j))) (congrArg (fun x => D.t 3 (.e (.int x))) e51) ?_
  refine VX_go4 (fs := []) (ok 0 _) eqs trivial 100 [] rfl trivial ?_
  refine VX_callD (ok 0 _) [78, 28, 24] [] rfl rfl rfl rfl rfl rfl k1 rfl rfl rfl ?_
  refine VX_go4 (fs := []) (ok 0 _) eqs trivial 100 [58] rfl trivial ?_
  refine VX_eq 57 rfl rfl (d' := .t 22 (.e (.int (yh + 1 : Nat)))) (congrArg (fun x => D.t 22 (.e (.int x))) e57) ?_
  refine VX_go4 (fs := []) (ok 0 _) eqs trivial 100 [] rfl trivial ?_
  refine VX_callD (ok 0 _) [78, 31, 59] [] rfl rfl rfl rfl rfl rfl k2 rfl rfl rfl ?_
  refine VX_go4 (fs := []) (ok 0 _) eqs trivial 100 [] rfl trivial ?_
  refine VX_draw [] [(0, true), (1, true), (2, true), (3, false), (4, false), (5, false), (6, true), (7, true), (8, true), (9, false), (10, true)] mixed (by kernel_rfl) (by kernel_rfl) (by kernel_rfl) ?_
  refine VX_go4 (fs := []) (ok 0 _) eqs trivial 100 [] rfl trivial ?_
  refine VX_callO (ok 0 _) [78, 59] [] rfl rfl rfl rfl rfl rfl rfl rfl k3 rfl rfl rfl ?_
  refine VX_callO (ok 0 _) [78, 28, 24] [] rfl rfl rfl rfl rfl rfl rfl rfl k4 rfl rfl rfl ?_
  refine VX_callO (ok 0 _) [78, 31, 59] [] rfl rfl rfl rfl rfl rfl rfl rfl k5 rfl rfl rfl ?_
  refine VX_go4 (fs := []) (ok 0 _) eqs trivial 100 [73] rfl trivial ?_
  refine VX_extractTs [3] rfl rfl rfl rfl rfl rfl (by kernel_rfl) ?_
  refine VX_storeO (ok 0 _) rfl rfl rfl rfl rfl rfl (by simp) ?_
  refine VX_go4 (fs := []) (ok 0 _) eqs trivial 100 [] rfl trivial ?_
  refine VX_callD (ok 0 _) [78, 28, 3] [] rfl rfl rfl rfl rfl rfl k6 rfl rfl rfl ?_
  refine VX_go4 (fs := []) (ok 0 _) eqs trivial 100 [] rfl trivial ?_
  refine VX_draw [] [(0, true), (1, true), (2, true), (3, true), (4, true), (5, true), (6, true), (7, true), (8, true), (9, true), (10, true), (11, true), (12, false), (13, true), (14, true), (15, true), (16, true), (17, true), (18, true), (19, false), (20, true), (21, true), (22, true), (23, true), (24, true), (25, true), (26, true), (27, true), (28, true), (29, true), (30, true), (31, true), (32, true), (33, true), (34, true), (35, true), (36, true), (37, true), (38, true), (39, true), (40, true), (41, true), (42, true)] mixed (by kernel_rfl) (by kernel_rfl) (by kernel_rfl) ?_
  refine VX_go4 (fs := []) (ok 0 _) eqs trivial 100 [] rfl trivial ?_
  refine VX_known 82 true rfl rfl rfl ?_
  refine VX_go4 (fs := []) (ok 0 _) eqs trivial 100 [] rfl trivial ?_
  refine VX_known 86 true rfl rfl rfl ?_
  refine VX_go4 (fs := []) (ok 0 _) eqs trivial 100 [] rfl trivial ?_
  refine VX_known 90 true rfl rfl rfl ?_
  refine VX_go4 (fs := []) (ok 0 _) eqs trivial 100 [] rfl trivial ?_
  refine VX_callO (ok 0 _) [78, 31] [] rfl rfl rfl rfl rfl rfl rfl rfl k7 rfl rfl rfl ?_
  refine VX_go4 (fs := []) (ok 0 _) eqs trivial 100 [] rfl trivial ?_
  refine VX_known 94 true rfl rfl rfl ?_
  refine VX_go4 (fs := []) (ok 0 _) eqs trivial 100 [] rfl trivial ?_
  refine VX_callO (ok 0 _) [78, 31, 22, 36] [] rfl rfl rfl rfl rfl rfl rfl rfl k8 rfl rfl rfl ?_
  refine VX_go4 (fs := []) (ok 0 _) eqs trivial 100 [] rfl trivial ?_
  refine VX_known 102 true rfl rfl rfl ?_
  refine VX_go4 (fs := []) (ok 0 _) eqs trivial 100 [110] rfl (by simp [allP]; omega) ?_
  refine VX_eq 109 rfl rfl (d' := .t 9 (.e (.str pc))) (congrArg (fun x => D.t 9 (.e x)) g1) ?_
  refine VX_go4 (fs := []) (ok 0 _) eqs trivial 100 [] rfl trivial ?_
  refine VX_known 112 true rfl rfl (by simp) ?_
  refine VX_go4 (fs := []) (ok 0 _) eqs trivial 100 [120] rfl (by simp [allP]; omega) ?_
  refine VX_eq 119 rfl rfl (d' := .t 33 (.e (.int pe))) (congrArg (fun x => D.t 33 (.e x)) g2) ?_
  refine VX_go4 (fs := []) (ok 0 _) eqs trivial 100 [6] rfl trivial ?_
  refine VX_known 121 true rfl rfl (by simp) ?_
  refine VX_go4 (fs := []) (ok 0 _) eqs trivial 100 [] rfl trivial ?_
  exact ⟨.inr rfl, rfl⟩
end Go.Den.Q33
/-
  What the laid variables give the walks; the world that the door leaves meets the condition.
-/
namespace Go.Proofs.YtlhmimpbpphchaaDoor
open Go.ChangeShapes Go.WideShapes Go.ChangeAt Go.RowKit
set_option linter.unusedVariables false
def laid2 : List (String × DataW Unit) := Rows.lightProofsRow.laid
theorem own : ownKnob Tryd.prog.godebug = none := by kernel_rfl
theorem laidOut : laidOutB Tryd.prog = true := by kernel_rfl
theorem gFirst : Tryd.prog.globalNamed "pontoon/sha.first" = some 0 := by kernel_rfl
theorem gConsts : Tryd.prog.globalNamed "pontoon/sha.constants" = some 1 := by kernel_rfl
theorem tFirst : (Tryd.prog.globals[0]?).map (·.type) = some 123 := by kernel_rfl
theorem tConsts : (Tryd.prog.globals[1]?).map (·.type) = some 151 := by kernel_rfl
theorem door_met (os : Os) (args : Array Value) : laidMetH Tryd.prog laid2 ((World.doorLaid Tryd.prog 400 os).forCall (fun _ _ => 0) ⟨#[], args, []⟩).memory :=
  laidMetH_of_parts3 (fuel := 8) (laidMet_of_run' 8 (by kernel_rfl) (by kernel_rfl)) (by kernel_rfl) (by kernel_rfl)
theorem of_laid {W : World} (h : laidMetH Tryd.prog laid2 W) : Go.Den.GlRel Go.Den.Q33.tb (Go.Den.Hw W) := by
  rw [MakeChecks.laidMetH_plain _ _ _ (by kernel_rfl)] at h
  obtain ⟨ps, ⟨g0, t0, cs0, f0, p0, q0, hg0, ht0, hv0, hd0, ⟨g1, t1, cs1, f1, p1, q1, hg1, ht1, hv1, hd1, _, _⟩, _⟩, _, _⟩ := h
  obtain rfl := Option.some.inj (gFirst.symm.trans hg0)
  obtain rfl := Option.some.inj (gConsts.symm.trans hg1)
  obtain rfl := Option.some.inj (tFirst.symm.trans ht0)
  obtain rfl := Option.some.inj (tConsts.symm.trans ht1)
  intro g ty x hm
  simp only [Go.Den.Q33.tb, List.mem_cons, List.not_mem_nil, or_false] at hm
  rcases hm with hm | hm
  · cases hm
    exact Go.Den.gl_ints (ns := Go.Den.Q33.kL) Go.Den.Q33.tabOk hg1 hv1 rfl rfl hd1
  · cases hm
    exact Go.Den.gl_ints (ns := Go.Den.Q33.fL) Go.Den.Q33.tabOk hg0 hv0 rfl rfl hd0
end Go.Proofs.YtlhmimpbpphchaaDoor
