/- Law 03: what is read would be written so. -/
import Derived.Test.YtoanljcmkmjcbaaQ03T
import Derived.Test.YtoanljcmkmjcbaaDenJoin
namespace Go.Den.Q03
open Go Go.Den Go.Proofs
set_option maxRecDepth 8000
set_option linter.unusedVariables false

/-! ### the plain law -/
theorem takeB_0 {s : List UInt8} {e : Int} {n : Nat} (h : (takeB s e n).2.2 = 0) : e = 0 ∧ n ≤ s.length ∧ (takeB s e n).1 = s.take n ∧ (takeB s e n).2.1 = s.drop n := by
  unfold takeB at h ⊢
  split at h
  · rename_i he
    split at h
    · simp at h
    · rename_i hn; simp only [if_pos he, if_neg hn]; exact ⟨he, by omega, trivial, trivial⟩
  · rename_i he; exact absurd h he
theorem failB_ne {e f : Int} (hf : f ≠ 0) : failB e f ≠ 0 := by
  unfold failB; split
  · exact hf
  · assumption
theorem countB_0 {s : List UInt8} {e m : Int} (h : (countB s e m).2.2 = 0) : e = 0 ∧ 4 ≤ s.length ∧ (countB s e m).1 = numV (s.take 4) ∧ (countB s e m).2.1 = s.drop 4 := by
  unfold countB at h ⊢
  split at h
  · exact absurd h (failB_ne (by decide))
  · rename_i hn
    simp only [if_neg hn]
    obtain ⟨h1, h2, h3, h4⟩ := takeB_0 h
    exact ⟨h1, h2, by rw [h3], h4⟩
theorem endB_0 {s : List UInt8} {e : Int} (h : endB s e = 0) : e = 0 ∧ s = [] := by
  unfold endB at h
  split at h
  · cases h
  · rename_i hn
    refine ⟨h, ?_⟩
    subst h
    by_cases hs : s = []
    · exact hs
    · exact absurd ⟨rfl, hs⟩ hn
theorem big4 {s : List UInt8} (h : 4 ≤ s.length) : bigB (numV (s.take 4)) 4 = s.take 4 := bigB_numV 4 _ (by simp; omega)
theorem text_one {s : List UInt8} {m : Int} (h : endB (textR s 0 m).2.1 (textR s 0 m).2.2 = 0) : textB (textR s 0 m).1 = s := by
  obtain ⟨h1, h2⟩ := endB_0 h
  unfold textR at h1 h2 ⊢
  obtain ⟨h3, h4, h5, h6⟩ := takeB_0 h1
  obtain ⟨_, h7, h8, h9⟩ := countB_0 h3
  rw [h6, h9, h8] at h2
  rw [h9, h8] at h4
  rw [h5, h9, h8]
  have hle : (s.drop 4).length ≤ numV (s.take 4) := List.drop_eq_nil_iff.1 h2
  rw [List.take_of_length_le hle]
  unfold textB
  rw [show (s.drop 4).length = numV (s.take 4) by omega, big4 h7]
  exact List.take_append_drop 4 s
theorem chunk_flat (l : List UInt8) : ∀ (v : Nat), 32 * v ≤ l.length → ((chunk l v).map dB).flatten = l.take (32 * v)
  | 0, _ => by simp [chunk]
  | v + 1, h => by
    rw [chunk_succ, List.map_append, List.flatten_append, chunk_flat l v (by omega)]
    simp only [List.map_cons, List.map_nil, List.flatten_cons, List.flatten_nil, List.append_nil]
    have : dB (((l.drop (32 * v)).take 32).map byteE) = (l.drop (32 * v)).take 32 := by
      unfold dB
      rw [List.drop_zero, ← List.map_take, map_byteOf, List.take_take, Nat.min_self]
    rw [this, show 32 * (v + 1) = 32 * v + 32 by omega, List.take_add]
theorem digsB_dgs {l : List UInt8} {v : Nat} (h : l.length = 32 * v) : digsB (dgs l) = bigB v 4 ++ l := by
  unfold digsB dgs
  rw [h, Nat.mul_div_cancel_left _ (by omega), chunk_length, chunk_flat l v (by omega), List.take_of_length_le (by omega)]
theorem digs_one {s : List UInt8} {e m : Int} (h : (digsR s e m).2.2 = 0) : e = 0 ∧ s = digsB (dgs (digsR s e m).1) ++ (digsR s e m).2.1 := by
  unfold digsR at h ⊢
  obtain ⟨h3, h4, h5, h6⟩ := takeB_0 h
  obtain ⟨h0, h7, h8, h9⟩ := countB_0 h3
  refine ⟨h0, ?_⟩
  rw [h9, h8] at h4
  rw [h5, h6, h9, h8]
  rw [digsB_dgs (v := numV (s.take 4)) (by simp at h4 ⊢; omega), big4 h7, List.append_assoc, List.take_append_drop, List.take_append_drop]
theorem sig_one {s : List UInt8} (h : endB (sigR s 0).2.1 (sigR s 0).2.2 = 0) : ∃ n A B D, (sigR s 0).1 = sigE n A B D ∧ 32 * A.length ≤ s.length ∧ 32 * B.length ≤ s.length ∧ 32 * D.length ≤ s.length ∧ sigB n A B D = s := by
  obtain ⟨h1, h2⟩ := endB_0 h
  have hs : sigR s 0 = sig3 (numV (takeB s 0 4).1) (takeB s 0 4).2.1 (if 2147483647 < numV (takeB s 0 4).1 then failB (takeB s 0 4).2.2 8 else (takeB s 0 4).2.2) := rfl
  have hl0 := (takeB_le s 0 4).2
  have hv := numV_le (takeB_len s 0 4)
  rw [hs] at h1 h2 ⊢
  generalize he : (if 2147483647 < numV (takeB s 0 4).1 then failB (takeB s 0 4).2.2 8 else (takeB s 0 4).2.2) = e0 at h1 h2 ⊢
  simp only [sig3] at h1 h2 ⊢
  rw [if_pos h1]
  have d3 := digs_one h1
  have d2 := digs_one d3.1
  have d1 := digs_one d2.1
  have e0z := d1.1
  rw [e0z] at he
  have hsml : ¬ 2147483647 < numV (takeB s 0 4).1 := fun hn => by rw [if_pos hn] at he; exact failB_ne (by decide) he
  rw [if_neg hsml] at he
  obtain ⟨_, g1, g2, g3⟩ := takeB_0 he
  have l1 := digsR_le (takeB s 0 4).2.1 e0 32
  have l2 := digsR_le (digsR (takeB s 0 4).2.1 e0 32).2.1 (digsR (takeB s 0 4).2.1 e0 32).2.2 32
  have l3 := digsR_le (digsR (digsR (takeB s 0 4).2.1 e0 32).2.1 (digsR (takeB s 0 4).2.1 e0 32).2.2 32).2.1 (digsR (digsR (takeB s 0 4).2.1 e0 32).2.1 (digsR (takeB s 0 4).2.1 e0 32).2.2 32).2.2 32
  refine ⟨_, _, _, _, rfl, ?_, ?_, ?_, ?_⟩
  · unfold dgs; rw [chunk_length]; omega
  · unfold dgs; rw [chunk_length]; omega
  · unfold dgs; rw [chunk_length]; omega
  · unfold sigB
    have hm : (((numV (takeB s 0 4).1 : Nat) : Int) % 4294967296).toNat = numV (takeB s 0 4).1 := by omega
    rw [hm]
    have d3' := d3.2
    rw [h2, List.append_nil] at d3'
    rw [List.append_assoc, List.append_assoc, ← d3', ← d2.2, ← d1.2, g3, g2, big4 g1, List.take_append_drop]

/-! ### the walk -/
set_option maxHeartbeats 1600000 in
theorem one_ok (x0 x1 : E) : FnOk Try.prog tb 5 [9, 3] [4] [x0, x1] [.bool true] := by
  refine FnOk_of_V (fn := Try.f5) (bt := 4) (ok 0 _) Try.func5 rfl rfl rfl (by decide) fun hw => ?_
  obtain ⟨s, rfl⟩ := wt_str (hw 0 _ x0 rfl rfl) rfl
  obtain ⟨m, rfl, hm⟩ := wt_int (hw 1 _ x1 rfl rfl) (k := .i64) rfl
  simp only [inR, Bool.and_eq_true, decide_eq_true_eq] at hm
  apply V_of_VX
  refine VX_go3 (fs := []) (ok 0 _) eqs trivial 100 [] rfl trivial ?_
  refine VX_callD (ok 0 _) [] [] rfl rfl rfl rfl rfl rfl awake_ok.g rfl rfl rfl ?_
  refine VX_known 9 true rfl rfl rfl ?_
  refine VX_go3 (fs := []) (ok 0 _) eqs trivial 100 [] rfl trivial ?_
  refine VX_split 13 rfl rfl (fun h => ?_) (fun h => ?_)
  · refine VX_go3 (fs := []) (ok 0 _) eqs trivial 100 [] rfl trivial ?_
    refine VX_callD (ok 0 _) [] [] rfl rfl rfl rfl rfl rfl awake_ok.g rfl rfl rfl ?_
    refine VX_go3 (fs := []) (ok 0 _) eqs trivial 100 [] rfl trivial ?_
    exact ⟨.inr rfl, rfl⟩
  have hs : s.length ≤ 20000 := by simp at h; omega
  refine VX_go3 (fs := []) (ok 0 _) eqs trivial 100 [] rfl trivial ?_
  refine VX_callD (ok 0 _) [9] [] rfl rfl rfl rfl rfl rfl (over_ok s) rfl rfl rfl ?_
  refine VX_go3 (fs := []) (ok 0 _) eqs trivial 100 [] rfl trivial ?_
  refine VX_callD (ok 0 _) [40, 3] [0] rfl rfl rfl rfl rfl rfl (textR_ok s 0 m hm.1 hm.2) rfl rfl rfl ?_
  refine VX_go3 (fs := []) (ok 0 _) eqs trivial 100 [] rfl trivial ?_
  refine VX_callD (ok 0 _) [40] [0] rfl rfl rfl rfl rfl rfl (end_ok _ _) rfl rfl rfl ?_
  refine VX_go3 (fs := []) (ok 0 _) eqs trivial 100 [] rfl trivial ?_
  refine VX_splitJ 23 [(0, .t 9 (.e (.str s))), (1, .t 3 (.e (.int m)))] [] rfl rfl rfl ?_ (fun h hr => ?_) (fun h hr => ?_)
  rotate_left
  · have h : endB (textR s 0 m).2.1 (textR s 0 m).2.2 = 0 := by simpa using h
    have hx := text_one h
    refine VX_go3 (fs := []) (ok 0 _) eqs trivial 100 [] rfl trivial ?_
    have hl : (textR s 0 m).1.length ≤ 20000 := by
      have := congrArg List.length hx; simp [textB] at this; omega
    refine VX_callD (ok 0 _) [9] [] rfl rfl rfl rfl rfl rfl (text_ok _ hl).g rfl rfl rfl ?_
    refine VX_go3 (fs := []) (ok 0 _) eqs trivial 100 [28] rfl trivial ?_
    refine VX_known 27 false rfl rfl (by simp [hx]) ?_
    refine VX_go3 (fs := []) (ok 0 _) eqs trivial 100 [29] rfl trivial ?_
    exact VX_weakS rfl (wkc [rd (textR s 0 m).2.1 (textR s 0 m).2.2] rfl rfl (by simp) (lc (ls rfl rfl) (lc (ls rfl rfl) lnil))) hr
  · refine VX_go3 (fs := []) (ok 0 _) eqs trivial 100 [29] rfl trivial ?_
    exact VX_weakS rfl (wkc [rd (textR s 0 m).2.1 (textR s 0 m).2.2] rfl rfl (by simp) (lc (ls rfl rfl) (lc (ls rfl rfl) lnil))) hr
  refine VX_go3 (fs := []) (ok 0 _) eqs trivial 100 [] rfl trivial ?_
  refine VX_callD (ok 0 _) [9] [] rfl rfl rfl rfl rfl rfl (over_ok s) rfl rfl rfl ?_
  refine VX_go3 (fs := []) (ok 0 _) eqs trivial 100 [] rfl trivial ?_
  refine VX_callD (ok 0 _) [40, 3] [0] rfl rfl rfl rfl rfl rfl (digestsR_ok s 0 m hm.1 hm.2 (by omega)) rfl rfl rfl ?_
  refine VX_go3 (fs := []) (ok 0 _) eqs trivial 100 [] rfl trivial ?_
  refine VX_callD (ok 0 _) [40] [0] rfl rfl rfl rfl rfl rfl (end_ok _ _) rfl rfl rfl ?_
  refine VX_go3 (fs := []) (ok 0 _) eqs trivial 100 [] rfl trivial ?_
  refine VX_splitJ 37 [(0, .t 9 (.e (.str s))), (1, .t 3 (.e (.int m)))] [] rfl rfl rfl ?_ (fun h hr => ?_) (fun h hr => ?_)
  rotate_left
  · have h : endB (digsR s 0 m).2.1 (digsR s 0 m).2.2 = 0 := by simpa using h
    obtain ⟨g1, g2⟩ := endB_0 h
    have hx := (digs_one g1).2
    rw [g2, List.append_nil] at hx
    refine VX_go3 (fs := []) (ok 0 _) eqs trivial 100 [] rfl trivial ?_
    have hl : (dgs (digsR s 0 m).1).length ≤ 10000 := by
      have := (digsR_le s 0 m).1
      unfold dgs; rw [chunk_length]; omega
    refine VX_callD (ok 0 _) [25] [] rfl rfl rfl rfl rfl rfl (digests_ok (dgs (digsR s 0 m).1) hl).g rfl rfl rfl ?_
    refine VX_go3 (fs := []) (ok 0 _) eqs trivial 100 [42] rfl trivial ?_
    refine VX_known 41 false rfl rfl (by simp [← hx]) ?_
    refine VX_go3 (fs := []) (ok 0 _) eqs trivial 100 [43] rfl trivial ?_
    exact VX_weakS rfl (wkc [rd (digsR s 0 m).2.1 (digsR s 0 m).2.2] rfl rfl (by simp) (lc (ls rfl rfl) (lc (ls rfl rfl) lnil))) hr
  · refine VX_go3 (fs := []) (ok 0 _) eqs trivial 100 [43] rfl trivial ?_
    exact VX_weakS rfl (wkc [rd (digsR s 0 m).2.1 (digsR s 0 m).2.2] rfl rfl (by simp) (lc (ls rfl rfl) (lc (ls rfl rfl) lnil))) hr
  refine VX_go3 (fs := []) (ok 0 _) eqs trivial 100 [] rfl trivial ?_
  refine VX_callD (ok 0 _) [9] [] rfl rfl rfl rfl rfl rfl (over_ok s) rfl rfl rfl ?_
  refine VX_go3 (fs := []) (ok 0 _) eqs trivial 100 [] rfl trivial ?_
  refine VX_callD (ok 0 _) [40] [0] rfl rfl rfl rfl rfl rfl (sigR_ok s 0 (by omega)) rfl rfl rfl ?_
  refine VX_go3 (fs := []) (ok 0 _) eqs trivial 100 [] rfl trivial ?_
  refine VX_callD (ok 0 _) [] [] rfl rfl rfl rfl rfl rfl awake_ok.g rfl rfl rfl ?_
  refine VX_known 47 true rfl rfl rfl ?_
  refine VX_go3 (fs := []) (ok 0 _) eqs trivial 100 [] rfl trivial ?_
  refine VX_callD (ok 0 _) [40] [0] rfl rfl rfl rfl rfl rfl (end_ok _ _) rfl rfl rfl ?_
  refine VX_go3 (fs := []) (ok 0 _) eqs trivial 100 [] rfl trivial ?_
  refine VX_split 52 rfl rfl (fun h => ?_) (fun h => ?_)
  · refine VX_go3 (fs := []) (ok 0 _) eqs trivial 100 [] rfl trivial ?_
    exact ⟨.inr rfl, rfl⟩
  · have h : endB (sigR s 0).2.1 (sigR s 0).2.2 = 0 := by simpa using h
    obtain ⟨n, A, B, D, hx, hA, hB, hD, hsig⟩ := sig_one h
    rw [hx]
    refine VX_go3 (fs := []) (ok 0 _) eqs trivial 100 [] rfl trivial ?_
    refine VX_callD (ok 0 _) [27] [] rfl rfl rfl rfl rfl rfl (sig_ok n A B D (by omega) (by omega) (by omega)).g rfl rfl rfl ?_
    refine VX_go3 (fs := []) (ok 0 _) eqs trivial 100 [57] rfl trivial ?_
    refine VX_known 56 true rfl rfl (by simp [hsig]) ?_
    refine VX_go3 (fs := []) (ok 0 _) eqs trivial 100 [] rfl trivial ?_
    exact ⟨.inr rfl, rfl⟩
end Go.Den.Q03
