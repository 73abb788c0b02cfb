/- Law 03: what is written is read as it was. -/
import Derived.Test.YtoanljcmkmjcbaaQ03U
namespace Go.Den.Q03
open Go Go.Den Go.Proofs
set_option maxRecDepth 8000
set_option linter.unusedVariables false

/-! ### the plain law -/
theorem takeB_app (p q : List UInt8) {n : Nat} (h : p.length = n) : takeB (p ++ q) 0 n = (p, q, 0) := by
  unfold takeB
  rw [if_pos rfl, if_neg (by simp; omega), List.take_left' h, List.drop_left' h]
theorem countB_app (k : Nat) (q : List UInt8) (m : Int) (hk : k < 4294967296) (hm : k ≤ mx m) : countB (bigB k 4 ++ q) 0 m = (k, q, 0) := by
  unfold countB
  rw [takeB_app (bigB k 4) q (bigB_length k 4)]
  have : numV (bigB k 4) = k := numV_bigB 4 k (by simpa using hk)
  simp only [this]
  rw [if_neg (by omega)]
theorem textR_app (s q : List UInt8) (hs : s.length ≤ 5000) : textR (textB s ++ q) 0 s.length = (s, q, 0) := by
  unfold textR textB
  rw [List.append_assoc, countB_app s.length (s ++ q) s.length (by omega) (by unfold mx; rw [if_neg (by omega)]; omega)]
  exact takeB_app s q rfl
def LE (L : List (List UInt8)) : List (List E) := L.map fun l => l.map byteE
theorem dB_byte {l : List UInt8} (h : l.length = 32) : dB (l.map byteE) = l := by
  unfold dB; rw [List.drop_zero, List.take_of_length_le (by simp; omega), map_byteOf]
theorem chunk_flatten : ∀ (L : List (List UInt8)), (∀ l ∈ L, l.length = 32) → L.flatten.length = 32 * L.length ∧ chunk L.flatten L.length = LE L
  | [], _ => ⟨rfl, rfl⟩
  | l :: L, h => by
    obtain ⟨h1, h2⟩ := chunk_flatten L (fun x hx => h x (by simp [hx]))
    have hl := h l (by simp)
    refine ⟨by simp [h1, hl]; omega, ?_⟩
    unfold chunk LE at *
    rw [List.length_cons, List.range_succ_eq_map, List.map_cons, List.map_map, List.map_cons, ← h2]
    congr 1
    · simp [List.take_left' hl]
    · apply List.map_congr_left
      intro i hi
      simp only [Function.comp]
      rw [show 32 * (i + 1) = 32 + 32 * i by omega, ← List.drop_drop, List.flatten_cons, List.drop_left' hl]
theorem digsB_LE {L : List (List UInt8)} (h : ∀ l ∈ L, l.length = 32) : digsB (LE L) = bigB L.length 4 ++ L.flatten := by
  unfold digsB LE
  rw [List.length_map, List.map_map]
  congr 2
  conv => rhs; rw [← List.map_id L]
  exact List.map_congr_left fun l hl => dB_byte (h l hl)
theorem digsR_app (L : List (List UInt8)) (q : List UInt8) (h : ∀ l ∈ L, l.length = 32) (hL : L.length ≤ 32) : digsR (digsB (LE L) ++ q) 0 32 = (L.flatten, q, 0) ∧ dgs L.flatten = LE L := by
  obtain ⟨h1, h2⟩ := chunk_flatten L h
  refine ⟨?_, by unfold dgs; rw [h1, Nat.mul_div_cancel_left _ (by omega)]; exact h2⟩
  unfold digsR
  rw [digsB_LE h, List.append_assoc, countB_app L.length _ 32 (by omega) (by show L.length ≤ 32; omega)]
  exact takeB_app _ q (by simp only []; omega)
theorem sigR_app (n : Nat) (A B D : List (List UInt8)) (q : List UInt8) (hn : n ≤ 2147483647) (hA : ∀ l ∈ A, l.length = 32) (hB : ∀ l ∈ B, l.length = 32) (hD : ∀ l ∈ D, l.length = 32) (lA : A.length ≤ 32) (lB : B.length ≤ 32) (lD : D.length ≤ 32) :
    sigR (sigB n (LE A) (LE B) (LE D) ++ q) 0 = (sigE n (LE A) (LE B) (LE D), q, 0) := by
  have hm : ((n : Int) % 4294967296).toNat = n := by omega
  unfold sigR sigB
  rw [hm, List.append_assoc, List.append_assoc, List.append_assoc, takeB_app (bigB n 4) _ (bigB_length n 4)]
  have hv : numV (bigB n 4) = n := numV_bigB 4 n (by omega)
  simp only [hv]
  rw [if_neg (by omega)]
  unfold sig3
  obtain ⟨a1, a2⟩ := digsR_app A (digsB (LE B) ++ (digsB (LE D) ++ q)) hA lA
  obtain ⟨b1, b2⟩ := digsR_app B (digsB (LE D) ++ q) hB lB
  obtain ⟨c1, c2⟩ := digsR_app D q hD lD
  simp only [a1, b1, c1, a2, b2, c2, if_true]

theorem eqEs_refl : ∀ (l : List UInt8), eqEs (l.map byteE) (l.map byteE) = true
  | [] => rfl
  | b :: l => by simp only [List.map_cons, eqEs, byteE, eqE, decide_true, Bool.true_and]; exact eqEs_refl l
theorem wt_bytes {x : E} (h : Wt tb 24 x) : ∃ l : List UInt8, x = .agg (l.map byteE) ∧ l.length = 32 := by
  obtain ⟨xs, rfl, hl, hx⟩ := wt_arr h (n := 32) (u := 5) rfl
  obtain ⟨l, rfl⟩ := map_ex (f := byteE) fun y hy => by
    obtain ⟨n, rfl, hn⟩ := wt_int (hx y hy) (k := .u8) rfl
    simp only [inR, Bool.and_eq_true, decide_eq_true_eq] at hn
    refine ⟨UInt8.ofNat n.toNat, ?_⟩
    simp only [byteE, UInt8.toNat_ofNat']
    congr 1; omega
  exact ⟨l, rfl, by simpa using hl⟩
theorem map_ex2 : ∀ {l : List E}, (∀ y ∈ l, ∃ b : List UInt8, y = .agg (b.map byteE) ∧ b.length = 32) → ∃ L : List (List UInt8), l = (LE L).map .agg ∧ ∀ b ∈ L, b.length = 32
  | [], _ => ⟨[], rfl, fun b hb => by simp at hb⟩
  | y :: l, h => by
    obtain ⟨b, rfl, hb⟩ := h y (by simp)
    obtain ⟨L, rfl, hL⟩ := map_ex2 (l := l) (fun z hz => h z (by simp [hz]))
    exact ⟨b :: L, rfl, fun c hc => by rcases List.mem_cons.1 hc with rfl | hc; exact hb; exact hL c hc⟩
theorem wt_digs2 {x : E} (h : Wt tb 25 x) : ∃ L : List (List UInt8), x = .sl ((LE L).map .agg) ∧ ∀ b ∈ L, b.length = 32 := by
  obtain ⟨xs, rfl, hx⟩ := wt_sl h (u := 24) rfl
  obtain ⟨L, rfl, hL⟩ := map_ex2 fun y hy => wt_bytes (hx y hy)
  exact ⟨L, rfl, hL⟩
theorem wt_sig2 {x : E} (h : Wt tb 27 x) : ∃ n A B D, x = sigE n (LE A) (LE B) (LE D) ∧ (-9223372036854775808 ≤ n ∧ n ≤ 9223372036854775807) ∧ (∀ b ∈ A, b.length = 32) ∧ (∀ b ∈ B, b.length = 32) ∧ (∀ b ∈ D, b.length = 32) := by
  obtain ⟨xs, rfl, hl, hx⟩ := wt_st h (fs := [(3, 0), (25, 1), (25, 2), (25, 3)]) rfl
  obtain ⟨a, b, c, d, rfl⟩ := list4 hl
  obtain ⟨n, rfl, hn⟩ := wt_int (hx 0 _ a rfl rfl) (k := .i64) rfl
  obtain ⟨A, rfl, hA⟩ := wt_digs2 (hx 1 _ b rfl rfl)
  obtain ⟨B, rfl, hB⟩ := wt_digs2 (hx 2 _ c rfl rfl)
  obtain ⟨D, rfl, hD⟩ := wt_digs2 (hx 3 _ d rfl rfl)
  simp [inR] at hn
  exact ⟨n, A, B, D, rfl, hn, hA, hB, hD⟩

/-! ### the walk -/
theorem getD_LE {L : List (List UInt8)} {i : Nat} (h : i < L.length) : ((LE L).map E.agg).getD i .nilp = .agg (L[i].map byteE) := by simp [List.getD, h, LE]
theorem sameList_ok (L : List (List UInt8)) (hL : L.length ≤ 10000) : FnOk Try.prog tb 40 [25, 25] [4] [.sl ((LE L).map .agg), .sl ((LE L).map .agg)] [.bool true] := by
  refine FnOk_of_V (fn := Try.f40) (bt := 4) (ok 0 _) Try.func40 rfl rfl rfl (by decide) fun hw => ?_
  apply V_of_VX
  have hl : ((LE L).map E.agg).length = L.length := by simp [LE]
  refine VX_go3 (fs := []) (ok 0 _) eqs trivial 100 [] rfl trivial ?_
  refine VX_known 10 false rfl rfl (by simp) ?_
  refine VX_go3 (fs := []) (ok 0 _) eqs trivial 100 [] rfl trivial ?_
  refine VX_loopA (fun i : Nat => i ≤ L.length) (fun i => [(13, .t 3 (.e (.int i))), (12, .t 3 (.e (.int L.length))), (0, .t 25 (.e (.sl ((LE L).map .agg)))), (1, .t 25 (.e (.sl ((LE L).map .agg))))]) (fun _ => []) (fun i => L.length - i) 0 (by omega) ?_ ?_
  · exact wk0 rfl (by simp) (lc (ls rfl rfl) (lc (li (by rw [hl])) (lc (ls rfl rfl) (lc (ls rfl rfl) lnil))))
  · intro i hi
    refine VX_go3 (fs := []) (ok 0 _) eqs trivial 100 [] rfl trivial ?_
    refine VX_split 14 rfl rfl (fun h => ?_) (fun h => ?_)
    · have hi : i < L.length := by simpa using h
      refine VX_go3 (fs := []) (ok 0 _) eqs trivial 100 [] rfl trivial ?_
      refine VX_draw [] [(0, true), (1, true), (2, true), (3, true), (4, true), (5, true), (6, true), (7, true), (8, true)] mixed (by kernel_rfl) (by kernel_rfl) (by kernel_rfl) ?_
      refine VX_go3 (fs := []) (ok 0 _) eqs trivial 100 [24] rfl ?_ ?_
      · simp [allP, LE]; omega
      refine VX_eq 19 rfl rfl (d' := .t 24 (.e (.agg (L[i].map byteE)))) (congrArg (fun x => D.t 24 (.e x)) (getD_LE hi)) ?_
      refine VX_eq 23 rfl rfl (d' := .t 24 (.e (.agg (L[i].map byteE)))) (congrArg (fun x => D.t 24 (.e x)) (getD_LE hi)) ?_
      refine VX_go3 (fs := []) (ok 0 _) eqs trivial 100 [] rfl (by simp [allP]) ?_
      refine VX_known 24 false rfl rfl (by simp [eqE, eqEs_refl]) ?_
      refine VX_go3 (fs := []) (ok 0 _) eqs trivial 100 [] rfl trivial ?_
      refine loop_nrm ⟨i + 1, by omega, by omega, ?_⟩
      refine wk0 rfl (by simp) (lc (li ?_) (lc (ls rfl rfl) (lc (ls rfl rfl) (lc (ls rfl rfl) lnil))))
      rw [w64 (by omega) (by omega)]; simp
    · refine VX_go3 (fs := []) (ok 0 _) eqs trivial 100 [] rfl trivial ?_
      apply loop_brk
      refine VX_go3 (fs := []) (ok 0 _) eqs trivial 100 [] rfl trivial ?_
      exact ⟨.inr rfl, rfl⟩
theorem sameSig_ok (n : Int) (A B D : List (List UInt8)) (hA : A.length ≤ 10000) (hB : B.length ≤ 10000) (hD : D.length ≤ 10000) :
    FnOk Try.prog tb 32 [27, 27] [4] [sigE n (LE A) (LE B) (LE D), sigE n (LE A) (LE B) (LE D)] [.bool true] := by
  refine FnOk_of_V (fn := Try.f32) (bt := 4) (ok 0 _) Try.func32 rfl rfl rfl (by decide) fun hw => ?_
  apply V_of_VX
  refine VX_go3 (fs := []) (ok 0 _) eqs trivial 100 [] rfl trivial ?_
  refine VX_known 10 true rfl rfl (by simp) ?_
  refine VX_go3 (fs := []) (ok 0 _) eqs trivial 100 [] rfl trivial ?_
  refine VX_callD (ok 0 _) [25, 25] [] rfl rfl rfl rfl rfl rfl (sameList_ok A hA).g rfl rfl rfl ?_
  refine VX_known 15 true rfl rfl rfl ?_
  refine VX_go3 (fs := []) (ok 0 _) eqs trivial 100 [] rfl trivial ?_
  refine VX_callD (ok 0 _) [25, 25] [] rfl rfl rfl rfl rfl rfl (sameList_ok B hB).g rfl rfl rfl ?_
  refine VX_known 22 true rfl rfl rfl ?_
  refine VX_go3 (fs := []) (ok 0 _) eqs trivial 100 [] rfl trivial ?_
  refine VX_callD (ok 0 _) [25, 25] [] rfl rfl rfl rfl rfl rfl (sameList_ok D hD).g rfl rfl rfl ?_
  refine VX_go3 (fs := []) (ok 0 _) eqs trivial 100 [] rfl trivial ?_
  exact ⟨.inr rfl, rfl⟩
end Go.Den.Q03
