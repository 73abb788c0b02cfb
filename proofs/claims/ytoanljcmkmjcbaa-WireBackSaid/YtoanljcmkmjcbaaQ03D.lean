/- Law 03: the statement on the writers. -/
import Derived.Test.YtoanljcmkmjcbaaQ03C
import Derived.Test.YtoanljcmkmjcbaaDenWt
namespace Go.Den.Q03
open Go Go.Den Go.Proofs
set_option maxRecDepth 8000
set_option linter.unusedVariables false

theorem wt_digs {x : E} (h : Wt tb 25 x) : ∃ L : List (List E), x = .sl (L.map .agg) := by
  obtain ⟨xs, rfl, hx⟩ := wt_sl h (u := 24) rfl
  obtain ⟨L, rfl⟩ := map_ex (f := E.agg) fun y hy => by obtain ⟨l, h, _⟩ := wt_arr (hx y hy) (n := 32) (u := 5) rfl; exact ⟨l, h⟩
  exact ⟨L, rfl⟩
theorem wt_sig {x : E} (h : Wt tb 27 x) : ∃ n A B D, x = sigE n A B D ∧ -9223372036854775808 ≤ n ∧ n ≤ 9223372036854775807 := by
  obtain ⟨xs, rfl, hl, hx⟩ := wt_st h (fs := [(3, 0), (25, 1), (25, 2), (25, 3)]) rfl
  obtain ⟨a, b, c, d, rfl⟩ := list4 hl
  obtain ⟨n, rfl, hn⟩ := wt_int (hx 0 _ a rfl rfl) (k := .i64) rfl
  obtain ⟨A, rfl⟩ := wt_digs (hx 1 _ b rfl rfl)
  obtain ⟨B, rfl⟩ := wt_digs (hx 2 _ c rfl rfl)
  obtain ⟨D, rfl⟩ := wt_digs (hx 3 _ d rfl rfl)
  simp [inR] at hn
  exact ⟨n, A, B, D, rfl, hn⟩

theorem awake_ok : FnOk Try.prog tb 7 [] [4] [] [.bool true] := by
  refine FnOk_of_V (fn := Try.f7) (bt := 4) (ok 0 _) Try.func7 rfl rfl rfl (by decide) fun hw => ?_
  apply V_of_VX
  refine VX_go3 (fs := []) (ok 0 _) eqs trivial 100 [] rfl trivial ?_
  refine VX_callD (ok 0 _) [33] [] rfl rfl rfl rfl rfl rfl (word_ok 258 (by omega)).g rfl rfl rfl ?_
  refine VX_go3 (fs := []) (ok 0 _) eqs trivial 100 [] rfl trivial ?_
  refine VX_known 3 true rfl rfl (by decide) ?_
  refine VX_go3 (fs := []) (ok 0 _) eqs trivial 100 [] rfl trivial ?_
  refine VX_callD (ok 0 _) [9] [] rfl rfl rfl rfl rfl rfl (text_ok [97, 98] (by decide)).g rfl rfl rfl ?_
  refine VX_go3 (fs := []) (ok 0 _) eqs trivial 100 [6] rfl trivial ?_
  refine VX_known 5 true rfl rfl (by decide) ?_
  refine VX_go3 (fs := []) (ok 0 _) eqs trivial 100 [] rfl trivial ?_
  exact ⟨.inr rfl, rfl⟩

def shortB (A B D : List (List E)) : Bool := decide (A.length ≤ 100) && decide (B.length ≤ 100) && decide (D.length ≤ 100)
theorem short_ok (n : Int) (A B D : List (List E)) : FnOk Try.prog tb 8 [27] [4] [sigE n A B D] [.bool (shortB A B D)] := by
  refine FnOk_of_V (fn := Try.f8) (bt := 4) (ok 0 _) Try.func8 rfl rfl rfl (by decide) fun hw => ?_
  apply V_of_VX
  refine VX_go3 (fs := []) (ok 0 _) eqs trivial 100 [] rfl trivial ?_
  refine VX_split 7 rfl rfl (fun h => ?_) (fun h => ?_)
  · have h1 : A.length ≤ 100 := by simp at h; omega
    refine VX_go3 (fs := []) (ok 0 _) eqs trivial 100 [] rfl trivial ?_
    refine VX_split 13 rfl rfl (fun h => ?_) (fun h => ?_)
    · have h2 : B.length ≤ 100 := by simp at h; omega
      refine VX_go3 (fs := []) (ok 0 _) eqs trivial 100 [] rfl trivial ?_
      refine ⟨.inr rfl, ?_⟩
      have : shortB A B D = decide ((((D.map E.agg).length : Nat) : Int) ≤ 100) := by simp [shortB, h1, h2]; omega
      rw [this]; rfl
    · have h2 : ¬ B.length ≤ 100 := by simp at h; omega
      refine VX_go3 (fs := []) (ok 0 _) eqs trivial 100 [] rfl trivial ?_
      refine ⟨.inr rfl, ?_⟩
      have : shortB A B D = false := by simp [shortB, h2]
      rw [this]; rfl
  · have h1 : ¬ A.length ≤ 100 := by simp at h; omega
    refine VX_go3 (fs := []) (ok 0 _) eqs trivial 100 [] rfl trivial ?_
    refine ⟨.inr rfl, ?_⟩
    have : shortB A B D = false := by simp [shortB, h1]
    rw [this]; rfl

set_option maxHeartbeats 1600000 in
theorem writes_ok (x0 x1 x2 x3 : E) : FnOk Try.prog tb 3 [22, 24, 9, 27] [4] [x0, x1, x2, x3] [.bool true] := by
  refine FnOk_of_V (fn := Try.f3) (bt := 4) (ok 0 _) Try.func3 rfl rfl rfl (by decide) fun hw => ?_
  obtain ⟨n, rfl, hn⟩ := wt_int (hw 0 _ x0 rfl rfl) (k := .u64) rfl
  obtain ⟨xs, rfl, hxs, _⟩ := wt_arr (hw 1 _ x1 rfl rfl) (n := 32) (u := 5) rfl
  obtain ⟨s, rfl⟩ := wt_str (hw 2 _ x2 rfl rfl) rfl
  obtain ⟨g, A, B, D, rfl, hg⟩ := wt_sig (hw 3 _ x3 rfl rfl)
  simp only [inR, Bool.and_eq_true, decide_eq_true_eq] at hn
  obtain ⟨m, rfl⟩ : ∃ m : Nat, n = m := ⟨n.toNat, by omega⟩
  apply V_of_VX
  refine VX_go3 (fs := []) (ok 0 _) eqs trivial 100 [] rfl trivial ?_
  refine VX_callD (ok 0 _) [] [] rfl rfl rfl rfl rfl rfl awake_ok.g rfl rfl rfl ?_
  refine VX_known 9 true rfl rfl rfl ?_
  refine VX_go3 (fs := []) (ok 0 _) eqs trivial 100 [] rfl trivial ?_
  refine VX_split 14 rfl rfl (fun h => ?_) (fun h => ?_)
  · refine VX_go3 (fs := []) (ok 0 _) eqs trivial 100 [] rfl trivial ?_
    refine VX_callD (ok 0 _) [] [] rfl rfl rfl rfl rfl rfl awake_ok.g rfl rfl rfl ?_
    refine VX_go3 (fs := []) (ok 0 _) eqs trivial 100 [] rfl trivial ?_
    exact ⟨.inr rfl, rfl⟩
  · have hs : s.length ≤ 5000 := by simp at h; omega
    refine VX_go3 (fs := []) (ok 0 _) eqs trivial 100 [] rfl trivial ?_
    refine VX_callD (ok 0 _) [27] [] rfl rfl rfl rfl rfl rfl (short_ok g A B D).g rfl rfl rfl ?_
    refine VX_go3 (fs := []) (ok 0 _) eqs trivial 100 [18] rfl trivial ?_
    refine VX_split 17 rfl rfl (fun h => ?_) (fun h => ?_)
    · refine VX_go3 (fs := []) (ok 0 _) eqs trivial 100 [] rfl trivial ?_
      refine VX_callD (ok 0 _) [] [] rfl rfl rfl rfl rfl rfl awake_ok.g rfl rfl rfl ?_
      refine VX_go3 (fs := []) (ok 0 _) eqs trivial 100 [] rfl trivial ?_
      exact ⟨.inr rfl, rfl⟩
    · have hsh : shortB A B D = true := by simpa using h
      have hsh' : (A.length ≤ 100 ∧ B.length ≤ 100) ∧ D.length ≤ 100 := by simpa [shortB] using hsh
      refine VX_go3 (fs := []) (ok 0 _) eqs trivial 100 [] rfl trivial ?_
      refine VX_draw [] [(0, false), (1, true), (2, true), (3, true), (5, true), (6, true), (4, false), (7, false), (8, true), (9, true), (10, true), (11, true), (12, true), (14, true), (15, true), (13, false), (16, false), (17, true), (18, true), (19, true), (20, true), (22, true), (21, false), (23, false), (24, true), (25, true), (26, true), (27, true), (29, true), (28, false), (30, false), (31, true), (32, true), (33, true), (34, true), (36, true), (35, false), (37, false), (38, true), (39, true), (40, true), (41, true), (42, true), (44, true), (45, true), (43, false), (46, false), (47, true), (48, true), (49, true), (50, true), (52, true), (51, false), (53, false), (54, true), (55, true), (56, true)] mixed (by kernel_rfl) (by kernel_rfl) (by kernel_rfl) ?_
      refine VX_go3 (fs := []) (ok 0 _) eqs trivial 100 [] rfl trivial ?_
      refine VX_callO (ok 0 _) [] [] rfl rfl rfl rfl rfl rfl rfl rfl awake_ok.g rfl rfl rfl ?_
      refine VX_known 20 true rfl rfl rfl ?_
      refine VX_go3 (fs := []) (ok 0 _) eqs trivial 100 [] rfl (by first | trivial | (simp [allP, arithP])) ?_
      have e1 : IntKind.wrap .u8 (m : Int) = ((m % 256 : Nat) : Int) := by rw [wrap_eq]; simp
      have e2 : (m : Int).tmod 256 = ((m % 256 : Nat) : Int) := by rw [Int.tmod_eq_emod_of_nonneg (by omega)]; simp
      refine VX_eq 23 rfl rfl (d' := .t 5 (.e (.int ((m % 256 : Nat) : Int)))) (by rw [← e1]; rfl) ?_
      refine VX_eq 26 rfl rfl (d' := .t 22 (.e (.int ((m % 256 : Nat) : Int)))) (by rw [← e2]; rfl) ?_
      refine VX_callO (ok 0 _) [5] [] rfl rfl rfl rfl rfl rfl rfl rfl (byte_ok (m % 256) (by omega)).g rfl rfl rfl ?_
      refine VX_callO (ok 0 _) [22, 3] [] rfl rfl rfl rfl rfl rfl rfl rfl (Big_ok (m % 256) 1 (by omega) (by omega) (by omega)).g rfl rfl rfl ?_
      refine VX_go3 (fs := []) (ok 0 _) eqs trivial 100 [29] rfl trivial ?_
      refine VX_known 28 true rfl rfl (by simp) ?_
      refine VX_go3 (fs := []) (ok 0 _) eqs trivial 100 [] rfl (by first | trivial | (simp [allP, arithP])) ?_
      have e3 : IntKind.wrap .u32 (m : Int) = ((m % 4294967296 : Nat) : Int) := by rw [wrap_eq]; simp
      have e4 : (m : Int).tmod 4294967296 = ((m % 4294967296 : Nat) : Int) := by rw [Int.tmod_eq_emod_of_nonneg (by omega)]; simp
      refine VX_eq 32 rfl rfl (d' := .t 33 (.e (.int ((m % 4294967296 : Nat) : Int)))) (by rw [← e3]; rfl) ?_
      refine VX_eq 35 rfl rfl (d' := .t 22 (.e (.int ((m % 4294967296 : Nat) : Int)))) (by rw [← e4]; rfl) ?_
      refine VX_callO (ok 0 _) [33] [] rfl rfl rfl rfl rfl rfl rfl rfl (word_ok (m % 4294967296) (by omega)).g rfl rfl rfl ?_
      refine VX_callO (ok 0 _) [22, 3] [] rfl rfl rfl rfl rfl rfl rfl rfl (Big_ok (m % 4294967296) 4 (by omega) (by omega) (by omega)).g rfl rfl rfl ?_
      refine VX_go3 (fs := []) (ok 0 _) eqs trivial 100 [38] rfl trivial ?_
      refine VX_known 37 true rfl rfl (by simp) ?_
      refine VX_go3 (fs := []) (ok 0 _) eqs trivial 100 [] rfl (by first | trivial | (simp [allP, arithP])) ?_
      refine VX_callO (ok 0 _) [22] [] rfl rfl rfl rfl rfl rfl rfl rfl (long_ok m (by omega)).g rfl rfl rfl ?_
      refine VX_callO (ok 0 _) [22, 3] [] rfl rfl rfl rfl rfl rfl rfl rfl (Big_ok m 8 (by omega) (by omega) (by omega)).g rfl rfl rfl ?_
      refine VX_go3 (fs := []) (ok 0 _) eqs trivial 100 [45] rfl trivial ?_
      refine VX_known 44 true rfl rfl (by simp) ?_
      refine VX_go3 (fs := []) (ok 0 _) eqs trivial 100 [] rfl (by first | trivial | (simp [allP, arithP])) ?_
      refine VX_callO (ok 0 _) [24] [] rfl rfl rfl rfl rfl rfl rfl rfl (digest_ok xs).g rfl rfl rfl ?_
      refine VX_callO (ok 0 _) [24] [] rfl rfl rfl rfl rfl rfl rfl rfl (bytes_ok xs).g rfl rfl rfl ?_
      refine VX_go3 (fs := []) (ok 0 _) eqs trivial 100 [52] rfl trivial ?_
      refine VX_known 51 true rfl rfl (by simp) ?_
      refine VX_go3 (fs := []) (ok 0 _) eqs trivial 100 [] rfl (by first | trivial | (simp [allP, arithP])) ?_
      refine VX_callO (ok 0 _) [9] [] rfl rfl rfl rfl rfl rfl rfl rfl (text_ok s (by omega)).g rfl rfl rfl ?_
      refine VX_callO (ok 0 _) [9] [] rfl rfl rfl rfl rfl rfl rfl rfl (rtext_ok s (by omega)).g rfl rfl rfl ?_
      refine VX_go3 (fs := []) (ok 0 _) eqs trivial 100 [59] rfl trivial ?_
      refine VX_known 58 true rfl rfl (by simp) ?_
      refine VX_go3 (fs := []) (ok 0 _) eqs trivial 100 [] rfl (by first | trivial | (simp [allP, arithP])) ?_
      refine VX_callO (ok 0 _) [25] [] rfl rfl rfl rfl rfl rfl rfl rfl (digests_ok A (by omega)).g rfl rfl rfl ?_
      refine VX_callO (ok 0 _) [25] [] rfl rfl rfl rfl rfl rfl rfl rfl (rdigests_ok A (by omega)).g rfl rfl rfl ?_
      refine VX_go3 (fs := []) (ok 0 _) eqs trivial 100 [68] rfl trivial ?_
      refine VX_known 67 true rfl rfl (by simp) ?_
      refine VX_go3 (fs := []) (ok 0 _) eqs trivial 100 [] rfl (by first | trivial | (simp [allP, arithP])) ?_
      refine VX_callO (ok 0 _) [27] [] rfl rfl rfl rfl rfl rfl rfl rfl (sig_ok g A B D (by omega) (by omega) (by omega)).g rfl rfl rfl ?_
      refine VX_callO (ok 0 _) [27] [] rfl rfl rfl rfl rfl rfl rfl rfl (rsig_ok g A B D (by omega) (by omega) (by omega)).g rfl rfl rfl ?_
      refine VX_go3 (fs := []) (ok 0 _) eqs trivial 100 [75] rfl trivial ?_
      refine VX_known 74 true rfl rfl (by simp) ?_
      refine VX_go3 (fs := []) (ok 0 _) eqs trivial 100 [] rfl trivial ?_
      exact ⟨.inr rfl, rfl⟩
end Go.Den.Q03
