/- Law 03: the statement on reading back. -/
import Derived.Test.YtoanljcmkmjcbaaQ03V
namespace Go.Den.Q03
open Go Go.Den Go.Proofs
set_option maxRecDepth 8000
set_option linter.unusedVariables false

set_option maxHeartbeats 4000000 in
theorem back_ok (x0 x1 x2 x3 x4 : E) : FnOk Try.prog tb 6 [22, 24, 9, 27, 9] [4] [x0, x1, x2, x3, x4] [.bool true] := by
  refine FnOk_of_V (fn := Try.f6) (bt := 4) (ok 0 _) Try.func6 rfl rfl rfl (by decide) fun hw => ?_
  obtain ⟨n0, rfl, hn⟩ := wt_int (hw 0 _ x0 rfl rfl) (k := .u64) rfl
  obtain ⟨dl, rfl, hdl⟩ := wt_bytes (hw 1 _ x1 rfl rfl)
  obtain ⟨s, rfl⟩ := wt_str (hw 2 _ x2 rfl rfl) rfl
  obtain ⟨g0, A, B, D, rfl, hg, hA, hB, hD⟩ := wt_sig2 (hw 3 _ x3 rfl rfl)
  obtain ⟨q, rfl⟩ := wt_str (hw 4 _ x4 rfl rfl) rfl
  simp only [inR, Bool.and_eq_true, decide_eq_true_eq] at hn
  obtain ⟨m, rfl⟩ : ∃ m : Nat, n0 = m := ⟨n0.toNat, by omega⟩
  have lenE : ∀ L : List (List UInt8), ((LE L).map E.agg).length = L.length := fun L => by simp [LE]
  apply V_of_VX
  refine VX_go3 (fs := []) (ok 0 _) eqs trivial 100 [] rfl trivial ?_
  refine VX_callD (ok 0 _) [] [] rfl rfl rfl rfl rfl rfl awake_ok.g rfl rfl rfl ?_
  refine VX_known 13 true rfl rfl rfl ?_
  refine VX_go3 (fs := []) (ok 0 _) eqs trivial 100 [] rfl trivial ?_
  refine VX_split 18 rfl rfl (fun h => ?_) (fun h1 => ?_)
  · refine VX_go3 (fs := []) (ok 0 _) eqs trivial 100 [] rfl trivial ?_
    refine VX_callD (ok 0 _) [] [] rfl rfl rfl rfl rfl rfl awake_ok.g rfl rfl rfl ?_
    refine VX_go3 (fs := []) (ok 0 _) eqs trivial 100 [] rfl trivial ?_
    exact ⟨.inr rfl, rfl⟩
  refine VX_go3 (fs := []) (ok 0 _) eqs trivial 100 [] rfl trivial ?_
  refine VX_split 23 rfl rfl (fun h => ?_) (fun h2 => ?_)
  · refine VX_go3 (fs := []) (ok 0 _) eqs trivial 100 [] rfl trivial ?_
    refine VX_callD (ok 0 _) [] [] rfl rfl rfl rfl rfl rfl awake_ok.g rfl rfl rfl ?_
    refine VX_go3 (fs := []) (ok 0 _) eqs trivial 100 [] rfl trivial ?_
    exact ⟨.inr rfl, rfl⟩
  refine VX_go3 (fs := []) (ok 0 _) eqs trivial 100 [] rfl trivial ?_
  refine VX_split 29 rfl rfl (fun h => ?_) (fun h3 => ?_)
  · refine VX_go3 (fs := []) (ok 0 _) eqs trivial 100 [] rfl trivial ?_
    refine VX_callD (ok 0 _) [] [] rfl rfl rfl rfl rfl rfl awake_ok.g rfl rfl rfl ?_
    refine VX_go3 (fs := []) (ok 0 _) eqs trivial 100 [] rfl trivial ?_
    exact ⟨.inr rfl, rfl⟩
  refine VX_go3 (fs := []) (ok 0 _) eqs trivial 100 [] rfl trivial ?_
  refine VX_split 35 rfl rfl (fun h => ?_) (fun h4 => ?_)
  · refine VX_go3 (fs := []) (ok 0 _) eqs trivial 100 [] rfl trivial ?_
    refine VX_callD (ok 0 _) [] [] rfl rfl rfl rfl rfl rfl awake_ok.g rfl rfl rfl ?_
    refine VX_go3 (fs := []) (ok 0 _) eqs trivial 100 [] rfl trivial ?_
    exact ⟨.inr rfl, rfl⟩
  refine VX_go3 (fs := []) (ok 0 _) eqs trivial 100 [] rfl trivial ?_
  refine VX_split 41 rfl rfl (fun h => ?_) (fun h5 => ?_)
  · refine VX_go3 (fs := []) (ok 0 _) eqs trivial 100 [] rfl trivial ?_
    refine VX_callD (ok 0 _) [] [] rfl rfl rfl rfl rfl rfl awake_ok.g rfl rfl rfl ?_
    refine VX_go3 (fs := []) (ok 0 _) eqs trivial 100 [] rfl trivial ?_
    exact ⟨.inr rfl, rfl⟩
  refine VX_go3 (fs := []) (ok 0 _) eqs trivial 100 [] rfl trivial ?_
  refine VX_split 46 rfl rfl (fun h => ?_) (fun h6 => ?_)
  · refine VX_go3 (fs := []) (ok 0 _) eqs trivial 100 [] rfl trivial ?_
    refine VX_callD (ok 0 _) [] [] rfl rfl rfl rfl rfl rfl awake_ok.g rfl rfl rfl ?_
    refine VX_go3 (fs := []) (ok 0 _) eqs trivial 100 [] rfl trivial ?_
    exact ⟨.inr rfl, rfl⟩
  refine VX_go3 (fs := []) (ok 0 _) eqs trivial 100 [] rfl trivial ?_
  refine VX_split 50 rfl rfl (fun h => ?_) (fun h7 => ?_)
  · refine VX_go3 (fs := []) (ok 0 _) eqs trivial 100 [] rfl trivial ?_
    refine VX_callD (ok 0 _) [] [] rfl rfl rfl rfl rfl rfl awake_ok.g rfl rfl rfl ?_
    refine VX_go3 (fs := []) (ok 0 _) eqs trivial 100 [] rfl trivial ?_
    exact ⟨.inr rfl, rfl⟩
  have hs : s.length ≤ 5000 := by simp at h1; omega
  have hq : q.length ≤ 5000 := by simp at h2; omega
  have lA : A.length ≤ 32 := by have : ¬ (32 : Int) < (((LE A).map E.agg).length : Nat) := by simpa using h3
                                rw [lenE] at this; omega
  have lB : B.length ≤ 32 := by have : ¬ (32 : Int) < (((LE B).map E.agg).length : Nat) := by simpa using h4
                                rw [lenE] at this; omega
  have lD : D.length ≤ 32 := by have : ¬ (32 : Int) < (((LE D).map E.agg).length : Nat) := by simpa using h5
                                rw [lenE] at this; omega
  have hg1 : 0 ≤ g0 := by simpa using h6
  have hg2 : g0 ≤ 2147483647 := by simpa using h7
  obtain ⟨g, rfl⟩ : ∃ k : Nat, g0 = k := ⟨g0.toNat, by omega⟩
  have hgn : g ≤ 2147483647 := by omega
  clear h1 h2 h3 h4 h5 h6 h7
  have lLE : ∀ L : List (List UInt8), (LE L).length = L.length := fun L => by simp [LE]
  have dA := digsB_length (LE A)
  have dB' := digsB_length (LE B)
  have dD := digsB_length (LE D)
  rw [lLE] at dA dB' dD
  have hdb : dB (dl.map byteE) = dl := dB_byte hdl
  have e1 : IntKind.wrap .u8 (m : Int) = ((m % 256 : Nat) : Int) := by rw [wrap_eq]; simp
  have e3 : IntKind.wrap .u32 (m : Int) = ((m % 4294967296 : Nat) : Int) := by rw [wrap_eq]; simp
  obtain ⟨W1, hW1⟩ : ∃ W, bigB m 8 = W := ⟨_, rfl⟩
  obtain ⟨W3, hW3⟩ : ∃ W, textB s = W := ⟨_, rfl⟩
  obtain ⟨W4, hW4⟩ : ∃ W, sigB g (LE A) (LE B) (LE D) = W := ⟨_, rfl⟩
  obtain ⟨b1, hb1⟩ : ∃ W, bigB (m % 256) 1 = W := ⟨_, rfl⟩
  obtain ⟨b4, hb4⟩ : ∃ W, bigB (m % 4294967296) 4 = W := ⟨_, rfl⟩
  obtain ⟨G, hG⟩ : ∃ G, sigE g (LE A) (LE B) (LE D) = G := ⟨_, rfl⟩
  have c1 := (long_ok m (by omega)).g
  have c2 := (digest_ok (dl.map byteE)).g
  have c3 := (text_ok s (by omega)).g
  have c4 := (sig_ok g (LE A) (LE B) (LE D) (by rw [lLE]; omega) (by rw [lLE]; omega) (by rw [lLE]; omega)).g
  have c5 := (byte_ok (m % 256) (by omega)).g
  have c6 := (word_ok (m % 4294967296) (by omega)).g
  have r1 := takeB_app (bigB m 8) (dl ++ (textB s ++ (sigB g (LE A) (LE B) (LE D) ++ (bigB (m % 256) 1 ++ (bigB (m % 4294967296) 4 ++ q))))) (bigB_length m 8)
  have r2 := takeB_app dl (textB s ++ (sigB g (LE A) (LE B) (LE D) ++ (bigB (m % 256) 1 ++ (bigB (m % 4294967296) 4 ++ q)))) hdl
  have r3 := textR_app s (sigB g (LE A) (LE B) (LE D) ++ (bigB (m % 256) 1 ++ (bigB (m % 4294967296) 4 ++ q))) hs
  have r4 := sigR_app g A B D (bigB (m % 256) 1 ++ (bigB (m % 4294967296) 4 ++ q)) hgn hA hB hD lA lB lD
  have r5 := takeB_app (bigB (m % 256) 1) (bigB (m % 4294967296) 4 ++ q) (bigB_length _ 1)
  have r6 := takeB_app (bigB (m % 4294967296) 4) q (bigB_length _ 4)
  have v1 : numV (bigB m 8) = m := numV_bigB 8 m (by omega)
  have v5 : numV (bigB (m % 256) 1) = m % 256 := numV_bigB 1 _ (by omega)
  have v6 : numV (bigB (m % 4294967296) 4) = m % 4294967296 := numV_bigB 4 _ (by omega)
  have z1 := bigB_length m 8
  have z3 : (textB s).length = 4 + s.length := by simp [textB, bigB_length]
  have z4 : (sigB g (LE A) (LE B) (LE D)).length ≤ 10000 := by simp only [sigB, List.length_append, bigB_length]; omega
  have z5 := bigB_length (m % 256) 1
  have z6 := bigB_length (m % 4294967296) 4
  rw [hW1] at c1 r1 v1 z1
  rw [hdb] at c2
  rw [hW3] at c3 r1 r2 z3
  rw [hW4] at c4 r1 r2 r3 z4
  rw [hb1] at c5 r1 r2 r3 r4 r5 v5 z5
  rw [hb4] at c6 r1 r2 r3 r4 r5 r6 v6 z6
  rw [hW3] at r3
  rw [hW4] at r4
  have k7 := sameSig_ok g A B D (by omega) (by omega) (by omega)
  rw [hG] at c4 r4 k7
  have hS : ((((((W1 ++ dl) ++ W3) ++ W4) ++ b1) ++ b4) ++ q) = W1 ++ (dl ++ (W3 ++ (W4 ++ (b1 ++ (b4 ++ q))))) := by simp only [List.append_assoc]
  obtain ⟨S5, h5⟩ : ∃ S, b4 ++ q = S := ⟨_, rfl⟩
  rw [h5] at r1 r2 r3 r4 r5 r6 hS
  obtain ⟨S4, h4⟩ : ∃ S, b1 ++ S5 = S := ⟨_, rfl⟩
  rw [h4] at r1 r2 r3 r4 r5 hS
  obtain ⟨S3, h3⟩ : ∃ S, W4 ++ S4 = S := ⟨_, rfl⟩
  rw [h3] at r1 r2 r3 r4 hS
  obtain ⟨S2, h2⟩ : ∃ S, W3 ++ S3 = S := ⟨_, rfl⟩
  rw [h2] at r1 r2 r3 hS
  obtain ⟨S1, h1⟩ : ∃ S, dl ++ S2 = S := ⟨_, rfl⟩
  rw [h1] at r1 r2 hS
  obtain ⟨S0, h0⟩ : ∃ S, W1 ++ S1 = S := ⟨_, rfl⟩
  rw [h0] at r1 hS
  have lq : S3.length ≤ 1000000 := by rw [← h3, ← h4, ← h5]; simp only [List.length_append]; omega
  have k1 := longR_ok S0 0
  rw [r1] at k1; simp only [v1] at k1
  have k2 := digestR_ok S1 0
  rw [r2] at k2; simp only [dgE_of (show 32 ≤ dl.length by omega), List.take_of_length_le (show dl.length ≤ 32 by omega)] at k2
  have k3 := textR_ok S2 0 (s.length : Int) (by omega) (by omega)
  rw [r3] at k3
  have k4 := sigR_ok S3 0 lq
  rw [r4] at k4
  have k5 := byteR_ok S4 0
  rw [r5] at k5; simp only [v5] at k5
  have k6 := wordR_ok S5 0
  rw [r6] at k6; simp only [v6] at k6
  refine VX_go3 (fs := []) (ok 0 _) eqs trivial 100 [] rfl trivial ?_
  refine VX_draw [] [(0, true), (2, true), (5, true), (8, true), (11, true), (12, true), (15, true), (16, true), (19, true), (1, false), (3, false), (4, true), (6, false), (7, true), (9, false), (10, true), (13, false), (14, true), (17, false), (18, true), (20, true), (21, false), (22, true)] mixed (by kernel_rfl) (by kernel_rfl) (by kernel_rfl) ?_
  refine VX_go3 (fs := []) (ok 0 _) eqs trivial 100 [] rfl trivial ?_
  refine VX_eq 64 rfl rfl (d' := .t 5 (.e (.int ((m % 256 : Nat) : Int)))) (congrArg (fun x => Go.Den.D.t 5 (T.e (E.int x))) e1) ?_
  refine VX_eq 68 rfl rfl (d' := .t 33 (.e (.int ((m % 4294967296 : Nat) : Int)))) (congrArg (fun x => Go.Den.D.t 33 (T.e (E.int x))) e3) ?_
  refine VX_callO (ok 0 _) [22] [] rfl rfl rfl rfl rfl rfl rfl rfl c1 rfl rfl rfl ?_
  refine VX_callO (ok 0 _) [24] [] rfl rfl rfl rfl rfl rfl rfl rfl c2 rfl rfl rfl ?_
  refine VX_go3 (fs := []) (ok 0 _) eqs trivial 100 [] rfl (by simp only [allP, List.length_append, maxI]; omega) ?_
  refine VX_callO (ok 0 _) [9] [] rfl rfl rfl rfl rfl rfl rfl rfl c3 rfl rfl rfl ?_
  refine VX_go3 (fs := []) (ok 0 _) eqs trivial 100 [] rfl (by simp only [allP, List.length_append, maxI]; omega) ?_
  subst hG
  refine VX_callO (ok 0 _) [27] [] rfl rfl rfl rfl rfl rfl rfl rfl c4 rfl rfl rfl ?_
  refine VX_go3 (fs := []) (ok 0 _) eqs trivial 100 [] rfl (by simp only [allP, List.length_append, maxI]; omega) ?_
  refine VX_callO (ok 0 _) [5] [] rfl rfl rfl rfl rfl rfl rfl rfl c5 rfl rfl rfl ?_
  refine VX_go3 (fs := []) (ok 0 _) eqs trivial 100 [] rfl (by simp only [allP, List.length_append, maxI]; omega) ?_
  refine VX_callO (ok 0 _) [33] [] rfl rfl rfl rfl rfl rfl rfl rfl c6 rfl rfl rfl ?_
  refine VX_go3 (fs := []) (ok 0 _) eqs trivial 100 [] rfl (by simp only [allP, List.length_append, maxI]; omega) ?_
  refine VX_eq 72 rfl rfl (d' := .t 9 (.e (.str S0))) (congrArg (fun x => Go.Den.D.t 9 (T.e (E.str x))) hS) ?_
  refine VX_callO (ok 0 _) [9] [] rfl rfl rfl rfl rfl rfl rfl rfl (over_ok S0) rfl rfl rfl ?_
  refine VX_go3 (fs := []) (ok 0 _) eqs trivial 100 [] rfl trivial ?_
  refine VX_draw [2] [(0, true), (2, true), (1, false), (3, true), (4, true), (5, true), (7, true), (6, false), (8, true), (9, true), (10, true), (11, true), (12, true), (13, true), (15, true), (14, false), (16, true), (17, true), (18, true), (19, true), (21, true), (20, false), (22, false), (23, true), (24, true), (25, true), (27, true), (28, true), (26, false), (29, true), (30, true), (31, true), (32, true), (34, true), (35, true), (33, false), (36, true), (37, true), (38, true)] mixed (by kernel_rfl) (by kernel_rfl) (by kernel_rfl) ?_
  refine VX_go3 (fs := []) (ok 0 _) eqs trivial 100 [] rfl trivial ?_
  refine VX_callO (ok 0 _) [40] [2] rfl rfl rfl rfl rfl rfl rfl rfl k1 rfl rfl rfl ?_
  refine VX_go3 (fs := []) (ok 0 _) eqs trivial 100 [78] rfl trivial ?_
  refine VX_known 77 true rfl rfl (by simp) ?_
  refine VX_go3 (fs := []) (ok 0 _) eqs trivial 100 [] rfl trivial ?_
  refine VX_callO (ok 0 _) [40] [2] rfl rfl rfl rfl rfl rfl rfl rfl k2 rfl rfl rfl ?_
  refine VX_go3 (fs := []) (ok 0 _) eqs trivial 100 [83] rfl (by simp [allP]) ?_
  refine VX_known 82 true rfl rfl (by simp [eqE, eqEs_refl]) ?_
  refine VX_go3 (fs := []) (ok 0 _) eqs trivial 100 [] rfl trivial ?_
  refine VX_callO (ok 0 _) [40, 3] [2] rfl rfl rfl rfl rfl rfl rfl rfl k3 rfl rfl rfl ?_
  refine VX_go3 (fs := []) (ok 0 _) eqs trivial 100 [91] rfl trivial ?_
  refine VX_known 90 true rfl rfl (by simp) ?_
  refine VX_go3 (fs := []) (ok 0 _) eqs trivial 100 [] rfl trivial ?_
  refine VX_callO (ok 0 _) [40] [2] rfl rfl rfl rfl rfl rfl rfl rfl k4 rfl rfl rfl ?_
  refine VX_callO (ok 0 _) [27, 27] [] rfl rfl rfl rfl rfl rfl rfl rfl k7.g rfl rfl rfl ?_
  refine VX_known 96 true rfl rfl rfl ?_
  refine VX_go3 (fs := []) (ok 0 _) eqs trivial 100 [] rfl trivial ?_
  refine VX_callO (ok 0 _) [40] [2] rfl rfl rfl rfl rfl rfl rfl rfl k5 rfl rfl rfl ?_
  refine VX_go3 (fs := []) (ok 0 _) eqs trivial 100 [103] rfl trivial ?_
  refine VX_eq 102 rfl rfl (d' := .t 5 (.e (.int ((m % 256 : Nat) : Int)))) (congrArg (fun x => Go.Den.D.t 5 (T.e (E.int x))) e1) ?_
  refine VX_go3 (fs := []) (ok 0 _) eqs trivial 100 [104] rfl trivial ?_
  refine VX_known 103 true rfl rfl (by simp) ?_
  refine VX_go3 (fs := []) (ok 0 _) eqs trivial 100 [] rfl trivial ?_
  refine VX_callO (ok 0 _) [40] [2] rfl rfl rfl rfl rfl rfl rfl rfl k6 rfl rfl rfl ?_
  refine VX_go3 (fs := []) (ok 0 _) eqs trivial 100 [110] rfl trivial ?_
  refine VX_eq 109 rfl rfl (d' := .t 33 (.e (.int ((m % 4294967296 : Nat) : Int)))) (congrArg (fun x => Go.Den.D.t 33 (T.e (E.int x))) e3) ?_
  refine VX_go3 (fs := []) (ok 0 _) eqs trivial 100 [111] rfl trivial ?_
  refine VX_known 110 true rfl rfl (by simp) ?_
  refine VX_go3 (fs := []) (ok 0 _) eqs trivial 100 [] rfl trivial ?_
  refine VX_callD (ok 0 _) [] [] rfl rfl rfl rfl rfl rfl awake_ok.g rfl rfl rfl ?_
  refine VX_known 112 true rfl rfl rfl ?_
  refine VX_go3 (fs := []) (ok 0 _) eqs trivial 100 [] rfl trivial ?_
  refine VX_callD (ok 0 _) [40] [2] rfl rfl rfl rfl rfl rfl (left_ok _ 0) rfl rfl rfl ?_
  refine VX_go3 (fs := []) (ok 0 _) eqs trivial 100 [122] rfl trivial ?_
  refine VX_known 121 true rfl rfl (by simp) ?_
  refine VX_go3 (fs := []) (ok 0 _) eqs trivial 100 [] rfl trivial ?_
  refine VX_callD (ok 0 _) [40] [2] rfl rfl rfl rfl rfl rfl (end_ok _ 0) rfl rfl rfl ?_
  refine VX_go3 (fs := []) (ok 0 _) eqs trivial 100 [130] rfl trivial ?_
  refine VX_known 129 true rfl rfl ?_ ?_
  · by_cases hq0 : q = []
    · subst hq0; simp [endB]
    · simp [endB, hq0]
  refine VX_go3 (fs := []) (ok 0 _) eqs trivial 100 [] rfl trivial ?_
  exact ⟨.inr rfl, rfl⟩
end Go.Den.Q03
