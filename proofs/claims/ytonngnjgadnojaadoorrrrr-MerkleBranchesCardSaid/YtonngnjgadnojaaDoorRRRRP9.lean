/- The calculus and the walks, part 9: Q7V, Q7X. -/
import Derived.Test.YtonngnjgadnojaaDoorRRRRP8
import Derived.Test.YtonngnjgadnojaaDoorRRRRRows
import Derived.WalkKit
import Derived.ProofKit
import Derived.OpenShut
import Derived.ShutString
import Derived.ChangeOld
import Derived.LaidMore
import Derived.Stop.Joined
import Derived.Below
import Derived.Test.YtonngnjgadnojaaDoorRRRRP6
/- Law 07: the chapter's example; MerkleBranches. -/
namespace Go.Den.Q7.Me
open Go Go.Den Go.Proofs Go.Den.Q7 Go.Den.Q7.Dg
set_option maxRecDepth 8000
set_option linter.unusedVariables false
set_option linter.unusedSimpArgs false
open Go.Den.Q7.Sh (dgE)

def d1 : Dig := 1 :: List.replicate 31 0
def d2 : Dig := 2 :: List.replicate 31 0
theorem aw_all : All32 [d1, d2] := fun d hd => by
  simp only [List.mem_cons, List.not_mem_nil, or_false] at hd
  rcases hd with rfl | rfl <;> rfl
theorem upTo_32 {B : List Dig} (h : B.length = 32) : upTo B = 32 := by unfold upTo; rw [if_neg (by omega)]; exact h
theorem proves_br {L : List Dig} {k : Nat} (hk : k < L.length) (hl : L.length ≤ 4294967296) (z : Dig) : provesB (rootB L) (L.getD k z) k (brL L k 32) = true := by
  have h1 := brL_length L k 32
  have h2 := cl_root hk hl
  unfold provesB climbB
  rw [upTo_32 h1, ← nd_zero hk, h2]; simp [h1]
set_option maxHeartbeats 800000 in
theorem awake_ok : FnOk Tryd.prog tb 5 [] [4] [] [.bool true] := by
  refine FnOk_of_V (fn := Tryd.f5) (bt := 4) (ok 0 _) Tryd.func5 rfl rfl rfl (by decide) fun hw => ?_
  clear hw
  apply V_of_VX
  have c1 := (branch_ok (L := [d1, d2]) (by decide) aw_all 1 (by decide)).g
  have c2 := (of_ok (L := []) (by decide) (fun d h => by simp at h)).g
  have c3 := (nought_ok 32 (by decide)).g
  have c4 := (of_ok (L := [d1, d2]) (by decide) aw_all).g
  have hbl := brL_length [d1, d2] 1 32
  have hba := brL_all aw_all 1 32
  have hp : provesB (rootB [d1, d2]) d2 1 (brL [d1, d2] 1 32) = true := proves_br (L := [d1, d2]) (k := 1) (by decide) (by decide) []
  rw [rootB_nil] at c2
  generalize brL [d1, d2] 1 32 = B at c1 hbl hba hp
  generalize rootB [d1, d2] = R at c4 hp
  generalize nght 32 = n32 at c2 c3
  have c5 := (proves_ok (root := R) (leaf := d2) (B := B) rfl hba (by omega) 1 (by decide)).g
  rw [hp] at c5
  refine VX_go4 (fs := []) (ok 0 _) eqs trivial 100 [] rfl (by simp [allP]) ?_
  refine VX_callD (ok 0 _) [44, 22, 3] [] rfl rfl rfl rfl rfl rfl c1 rfl rfl rfl ?_
  refine VX_go4 (fs := []) (ok 0 _) eqs trivial 100 [] rfl trivial ?_
  refine VX_callD (ok 0 _) [44, 22] [] rfl rfl rfl rfl rfl rfl c2 rfl rfl rfl ?_
  refine VX_callD (ok 0 _) [44, 3] [] rfl rfl rfl rfl rfl rfl c3 rfl rfl rfl ?_
  refine VX_go4 (fs := []) (ok 0 _) eqs trivial 100 [13] rfl trivial ?_
  refine VX_known 12 true rfl rfl (eqDg _) ?_
  refine VX_go4 (fs := []) (ok 0 _) eqs trivial 100 [16] rfl trivial ?_
  refine VX_known 15 true rfl rfl (by simp) ?_
  refine VX_go4 (fs := []) (ok 0 _) eqs trivial 100 [] rfl (by simp [allP]) ?_
  refine VX_callD (ok 0 _) [44, 22] [] rfl rfl rfl rfl rfl rfl c4 rfl rfl rfl ?_
  refine VX_go4 (fs := []) (ok 0 _) eqs trivial 100 [] rfl trivial ?_
  refine VX_callD (ok 0 _) [44, 24, 24, 25, 22] [] rfl rfl rfl rfl rfl rfl c5 rfl rfl rfl ?_
  refine VX_go4 (fs := []) (ok 0 _) eqs trivial 100 [] rfl trivial ?_
  exact ⟨.inr rfl, rfl⟩

theorem wt_u8 {t : TypeId} {x : E} (h : Wt tb t x) (ht : td tb t = .int .u8) : ∃ b : UInt8, x = byteE b := by
  obtain ⟨n, rfl, hn⟩ := wt_int h ht
  simp only [inR, Bool.and_eq_true, decide_eq_true_eq] at hn
  exact ⟨UInt8.ofNat n.toNat, by simp only [byteE, UInt8.toNat_ofNat']; congr 1; omega⟩
theorem wt_dg {t : TypeId} {x : E} (h : Wt tb t x) (ht : td tb t = .arr 32 5) : ∃ d : {d : Dig // d.length = 32}, x = dgE d.val := by
  obtain ⟨l, rfl, hl, hw⟩ := wt_arr h ht
  obtain ⟨d, rfl⟩ := map_ex fun y hy => wt_u8 (hw y hy) rfl
  exact ⟨⟨d, by simpa using hl⟩, rfl⟩
theorem wt_digs {t : TypeId} {x : E} (h : Wt tb t x) (ht : td tb t = .sl 24) : ∃ L : List Dig, x = dsE L ∧ All32 L := by
  obtain ⟨l, rfl, hl⟩ := wt_sl h ht
  obtain ⟨L, rfl⟩ := map_ex fun y hy => wt_dg (hl y hy) rfl
  refine ⟨L.map (·.val), by simp [dsE], fun d hd => ?_⟩
  obtain ⟨z, _, rfl⟩ := List.mem_map.1 hd
  exact z.2
theorem wt_u32 {t : TypeId} {x : E} (h : Wt tb t x) (ht : td tb t = .int .u32) : ∃ n : Nat, x = .int n ∧ n < 4294967296 := by
  obtain ⟨n, rfl, hn⟩ := wt_int h ht
  simp only [inR, Bool.and_eq_true, decide_eq_true_eq] at hn
  exact ⟨n.toNat, by congr 1; omega, by omega⟩
theorem branches_any {L : List Dig} (hl : L.length ≤ 4096) (hL : All32 L) (k : Int) : ∃ R e, R.length ≤ 100 ∧ FnOk Tryd.prog tb 6 [44, 22, 3] [22, 27] [.nilp, dsE L, .int k] [dsE R, .int e] ∧ FnOk Tryd.prog tb 7 [38, 22, 3] [22, 3] [.nilp, dsE L, .int k] [dsE R, .int e] := by
  by_cases h : k < 0 ∨ (L.length : Int) ≤ k
  · exact ⟨[], 2, by simp, branch_bad k h, rbranch_bad k h⟩
  · obtain ⟨n, rfl⟩ := Int.eq_ofNat_of_zero_le (a := k) (by omega)
    exact ⟨brL L n 32, 0, by rw [brL_length]; omega, branch_ok hl hL n (by omega), rbranch_ok hl hL n (by omega)⟩
set_option maxHeartbeats 1600000 in
theorem branches_ok (x0 x1 x2 x3 x4 x5 : E) : FnOk Tryd.prog tb 3 [22, 3, 24, 24, 25, 22] [4] [x0, x1, x2, x3, x4, x5] [.bool true] := by
  refine FnOk_of_V (fn := Tryd.f3) (bt := 4) (ok 0 _) Tryd.func3 rfl rfl rfl (by decide) fun hw => ?_
  obtain ⟨L, rfl, hL⟩ := wt_digs (hw 0 _ x0 rfl rfl) rfl
  obtain ⟨k, rfl, _⟩ := wt_int (hw 1 _ x1 rfl rfl) (k := .i64) rfl
  obtain ⟨⟨root, hr⟩, rfl⟩ := wt_dg (hw 2 _ x2 rfl rfl) rfl
  obtain ⟨⟨leaf, hf⟩, rfl⟩ := wt_dg (hw 3 _ x3 rfl rfl) rfl
  obtain ⟨m, rfl, hm⟩ := wt_u32 (hw 4 _ x4 rfl rfl) rfl
  obtain ⟨B, rfl, hB⟩ := wt_digs (hw 5 _ x5 rfl rfl) rfl
  clear hw
  simp only
  apply V_of_VX
  have hlm : (L.map dgE).length = L.length := by simp
  have hbm : (B.map dgE).length = B.length := by simp
  refine VX_go4 (fs := []) (ok 0 _) eqs trivial 100 [] rfl trivial ?_
  refine VX_callD (ok 0 _) [] [] rfl rfl rfl rfl rfl rfl awake_ok.g rfl rfl rfl ?_
  refine VX_go4 (fs := []) (ok 0 _) eqs trivial 100 [] rfl trivial ?_
  refine VX_known 18 false rfl rfl rfl ?_
  refine VX_go4 (fs := []) (ok 0 _) eqs trivial 100 [] rfl trivial ?_
  refine VX_split 22 rfl rfl (fun h => ?_) (fun h => ?_)
  · refine VX_go4 (fs := []) (ok 0 _) eqs trivial 100 [] rfl trivial ?_
    refine VX_callD (ok 0 _) [] [] rfl rfl rfl rfl rfl rfl awake_ok.g rfl rfl rfl ?_
    refine VX_go4 (fs := []) (ok 0 _) eqs trivial 100 [] rfl trivial ?_
    exact ⟨.inr rfl, rfl⟩
  have hl60 : L.length ≤ 60 := by simp only [hlm, decide_eq_false_iff_not] at h; omega
  clear h
  refine VX_go4 (fs := []) (ok 0 _) eqs trivial 100 [] rfl trivial ?_
  refine VX_split 26 rfl rfl (fun h => ?_) (fun h => ?_)
  · refine VX_go4 (fs := []) (ok 0 _) eqs trivial 100 [] rfl trivial ?_
    refine VX_callD (ok 0 _) [] [] rfl rfl rfl rfl rfl rfl awake_ok.g rfl rfl rfl ?_
    refine VX_go4 (fs := []) (ok 0 _) eqs trivial 100 [] rfl trivial ?_
    exact ⟨.inr rfl, rfl⟩
  have hb100 : B.length ≤ 100 := by simp only [hbm, decide_eq_false_iff_not] at h; omega
  clear h
  obtain ⟨R, e, hRl, c1, c2⟩ := branches_any (by omega) hL k
  have c3 := (sameList_ok (L := R) (by omega)).g
  have c4 := (climb_ok hf hB (by omega) m hm).g
  have c5 := (rclimb_ok hf hB (by omega) m hm).g
  have c6 := (proves_ok (root := root) hf hB (by omega) m hm).g
  have c7 := (rproves_ok (root := root) hf hB (by omega) m hm).g
  generalize climbB leaf m B = cl at c4 c5
  generalize provesB root leaf m B = pb at c6 c7
  refine VX_go4 (fs := []) (ok 0 _) eqs trivial 100 [] rfl trivial ?_
  refine VX_callD (ok 0 _) [44, 22, 3] [] rfl rfl rfl rfl rfl rfl c1.g rfl rfl rfl ?_
  refine VX_go4 (fs := []) (ok 0 _) eqs trivial 100 [] rfl trivial ?_
  refine VX_callD (ok 0 _) [38, 22, 3] [] rfl rfl rfl rfl rfl rfl c2.g rfl rfl rfl ?_
  refine VX_go4 (fs := []) (ok 0 _) eqs trivial 100 [] rfl trivial ?_
  refine VX_draw [] [(0, false), (1, true), (2, true), (3, true), (4, false), (5, true), (6, true), (7, true), (8, true), (9, true), (10, true), (11, true), (12, true), (13, true), (14, true), (16, true), (17, true), (18, true), (15, false), (19, false), (20, true), (21, true), (22, true), (23, true), (24, true), (25, true), (26, true), (28, true), (29, true), (30, true), (31, true), (27, false), (32, false), (33, true), (34, true), (35, true)] mixed (by kernel_rfl) (by kernel_rfl) (by kernel_rfl) ?_
  refine VX_callO (ok 0 _) [] [] rfl rfl rfl rfl rfl rfl rfl rfl awake_ok.g rfl rfl rfl ?_
  refine VX_go4 (fs := []) (ok 0 _) eqs trivial 100 [] rfl trivial ?_
  refine VX_known 41 true rfl rfl rfl ?_
  refine VX_go4 (fs := []) (ok 0 _) eqs trivial 100 [] rfl trivial ?_
  refine VX_callO (ok 0 _) [22, 22] [] rfl rfl rfl rfl rfl rfl rfl rfl c3 rfl rfl rfl ?_
  refine VX_go4 (fs := []) (ok 0 _) eqs trivial 100 [] rfl trivial ?_
  refine VX_known 46 true rfl rfl rfl ?_
  refine VX_go4 (fs := []) (ok 0 _) eqs trivial 100 [50] rfl trivial ?_
  refine VX_known 49 true rfl rfl (by simp) ?_
  refine VX_go4 (fs := []) (ok 0 _) eqs trivial 100 [] rfl trivial ?_
  refine VX_callO (ok 0 _) [44, 24, 25, 22] [] rfl rfl rfl rfl rfl rfl rfl rfl c4 rfl rfl rfl ?_
  refine VX_callO (ok 0 _) [38, 24, 25, 22] [] rfl rfl rfl rfl rfl rfl rfl rfl c5 rfl rfl rfl ?_
  refine VX_go4 (fs := []) (ok 0 _) eqs trivial 100 [61] rfl trivial ?_
  refine VX_known 60 true rfl rfl (eqDg _) ?_
  refine VX_go4 (fs := []) (ok 0 _) eqs trivial 100 [] rfl trivial ?_
  refine VX_callO (ok 0 _) [44, 24, 24, 25, 22] [] rfl rfl rfl rfl rfl rfl rfl rfl c6 rfl rfl rfl ?_
  refine VX_callO (ok 0 _) [38, 24, 24, 25, 22] [] rfl rfl rfl rfl rfl rfl rfl rfl c7 rfl rfl rfl ?_
  refine VX_go4 (fs := []) (ok 0 _) eqs trivial 100 [74] rfl trivial ?_
  refine VX_known 73 true rfl rfl (by simp) ?_
  refine VX_go4 (fs := []) (ok 0 _) eqs trivial 100 [] rfl trivial ?_
  exact ⟨.inr rfl, rfl⟩
end Go.Den.Q7.Me
/-
  What the laid variables give the walks; the world that the door leaves meets the condition.
-/
namespace Go.Proofs.YtonngnjgadnojaaDoorRRRR
open Go.ChangeShapes Go.WideShapes Go.ChangeAt Go.RowKit
set_option linter.unusedVariables false
def laid2 : List (String × DataW Unit) := Rows.merkleBranchesRow.laid
theorem own : ownKnob Tryd.prog.godebug = none := by kernel_rfl
theorem laidOut : laidOutB Tryd.prog = true := by kernel_rfl
theorem gFirst : Tryd.prog.globalNamed "pontoon/sha.first" = some 0 := by kernel_rfl
theorem gConsts : Tryd.prog.globalNamed "pontoon/sha.constants" = some 1 := by kernel_rfl
theorem tFirst : (Tryd.prog.globals[0]?).map (·.type) = some 68 := by kernel_rfl
theorem tConsts : (Tryd.prog.globals[1]?).map (·.type) = some 101 := by kernel_rfl
theorem door_met (os : Os) (args : Array Value) : laidMetH Tryd.prog laid2 ((World.doorLaid Tryd.prog 400 os).forCall (fun _ _ => 0) ⟨#[], args, []⟩).memory :=
  laidMetH_of_parts3 (fuel := 8) (laidMet_of_run' 8 (by kernel_rfl) (by kernel_rfl)) (by kernel_rfl) (by kernel_rfl)
theorem of_laid {W : World} (h : laidMetH Tryd.prog laid2 W) : Go.Den.GlRel Go.Den.Q7.tb (Go.Den.Hw W) := by
  rw [MakeChecks.laidMetH_plain _ _ _ (by kernel_rfl)] at h
  obtain ⟨ps, ⟨g0, t0, cs0, f0, p0, q0, hg0, ht0, hv0, hd0, ⟨g1, t1, cs1, f1, p1, q1, hg1, ht1, hv1, hd1, _, _⟩, _⟩, _, _⟩ := h
  obtain rfl := Option.some.inj (gFirst.symm.trans hg0)
  obtain rfl := Option.some.inj (gConsts.symm.trans hg1)
  obtain rfl := Option.some.inj (tFirst.symm.trans ht0)
  obtain rfl := Option.some.inj (tConsts.symm.trans ht1)
  intro g ty x hm
  simp only [Go.Den.Q7.tb, List.mem_cons, List.not_mem_nil, or_false] at hm
  rcases hm with hm | hm
  · cases hm
    exact Go.Den.gl_ints (ns := Go.Den.Q7.kL) Go.Den.Q7.tabOk hg1 hv1 rfl rfl hd1
  · cases hm
    exact Go.Den.gl_ints (ns := Go.Den.Q7.fL) Go.Den.Q7.tabOk hg0 hv0 rfl rfl hd0
end Go.Proofs.YtonngnjgadnojaaDoorRRRR
