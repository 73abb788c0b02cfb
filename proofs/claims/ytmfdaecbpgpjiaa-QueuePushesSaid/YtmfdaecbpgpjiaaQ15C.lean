/- Law 15: more contracts. -/
import Derived.Test.YtmfdaecbpgpjiaaQ15B
namespace Go.Den.Q15
open Go Go.Den Go.Proofs
set_option maxRecDepth 8000
set_option linter.unusedVariables false

def thr (q : List Int) (x : Int) : List Int := q.drop (idx x q 0 + 1).toNat
theorem through_ok (q : List Int) (x : Int) (hq : q.length ≤ 100000) : FnOk Try.prog tb 9 [22, 3] [22, 4] [.sl (q.map .int), .int x] [.sl ((thr q x).map .int), .bool (decide (idx x q 0 ≥ 0))] := by
  refine FnOk_of_V (fn := Try.f9) (bt := 4) (ok 0 _) Try.func9 rfl rfl rfl (by decide) fun hw => ?_
  have hr := idx_range x q 0
  have hw1 : IntKind.wrap .i64 (idx x q 0 + 1) = idx x q 0 + 1 := w64 (by omega) (by omega)
  apply V_of_VX
  refine VX_go (fs := []) (ok 0 _) trivial 100 [] rfl trivial ?_
  refine VX_callD (ok 0 _) [22, 3] [] rfl rfl rfl rfl rfl rfl (index_ok q x hq).g rfl rfl rfl ?_
  refine VX_go (fs := []) (ok 0 _) trivial 100 [14] rfl ?_ ?_
  · simp only [allP]; rw [hw1]; simp; omega
  refine VX_eq 13 rfl rfl (d' := .t 22 (.e (.sl ((thr q x).map .int)))) (congrArg (fun x => D.t 22 (.e (.sl x))) ?_) ?_
  · rw [hw1]; simp [thr]; rw [List.take_of_length_le (by simp)]
  refine VX_callD (ok 0 _) [22] [] rfl rfl rfl rfl rfl rfl (clone_ok _ (by simp [thr]; omega)).g rfl rfl rfl ?_
  refine VX_go (fs := []) (ok 0 _) trivial 100 [] rfl trivial ?_
  exact ⟨.inr rfl, rfl⟩

theorem rthrough_ok (q : List Int) (x : Int) (hq : q.length ≤ 100000) : FnOk Try.prog tb 13 [22, 3] [22, 4] [.sl (q.map .int), .int x] [.sl ((thr q x).map .int), .bool (decide (idx x q 0 ≥ 0))] := by
  refine FnOk_of_V (fn := Try.f13) (bt := 4) (ok 0 _) Try.func13 rfl rfl rfl (by decide) fun hw => ?_
  have hr := idx_range x q 0
  have hk : ∃ k : Nat, idx x q 0 = (k : Int) - 1 ∧ k ≤ q.length ∧ (idx x q 0 + 1).toNat = k := ⟨(idx x q 0 + 1).toNat, by omega, by omega, rfl⟩
  obtain ⟨k, hk1, hk2, hk3⟩ := hk
  apply V_of_VX
  refine VX_go (fs := []) (ok 0 _) trivial 100 [] rfl trivial ?_
  refine VX_callD (ok 0 _) [22, 3] [] rfl rfl rfl rfl rfl rfl (at_ok q x hq).g rfl rfl rfl ?_
  refine VX_go (fs := []) (ok 0 _) trivial 100 [] rfl trivial ?_
  refine VX_promote 7 (u := 3) rfl rfl ?_
  let L : Nat → List E := fun i => ((q.take i).drop k).map E.int
  refine VX_loopA (fun i : Nat => i ≤ q.length) (fun i => [(14, .t 3 (.e (.int i))), (13, .t 3 (.e (.int q.length))), (0, .t 22 (.e (.sl (q.map .int)))), (6, .t 3 (.e (.int (idx x q 0)))), (7, .t 22 (.lsl 0 (L i)))]) (fun i => [.row 3 (L i).length]) (fun i => q.length - i) 0 (by simp) ?_ ?_
  · have h0 : L 0 = [] := by simp [L]
    rw [h0]
    exact wk0 rfl (by simp [Blk.under]) (lc (ls rfl rfl) (lc (li (by simp)) (lc (ls rfl rfl) (lc (ls rfl rfl) (lc (ls rfl rfl) lnil)))))
  · rintro i hi
    refine VX_go (fs := []) (ok 0 _) trivial 100 [] rfl trivial ?_
    refine VX_split 15 rfl rfl (fun h => ?_) (fun h => ?_)
    · have hi : i < q.length := by simpa using h
      have hwi : IntKind.wrap .i64 ((i : Int) + 1) = ((i + 1 : Nat) : Int) := by rw [w64 (by omega) (by omega)]; simp
      refine VX_go (fs := []) (ok 0 _) trivial 100 [] rfl trivial ?_
      refine VX_split 19 rfl rfl (fun h2 => ?_) (fun h2 => ?_)
      · have hki : k ≤ i := by simp [hk1] at h2; omega
        have hL : L (i + 1) = L i ++ [.int q[i]] := by
          simp only [L]
          rw [List.take_succ_eq_append_getElem hi, List.drop_append_of_le_length (by simp; omega)]
          simp
        refine VX_go (fs := []) (ok 0 _) trivial 100 [25] rfl ?_ ?_
        · simp [allP]; omega
        refine VX_eq 24 rfl rfl (d' := .t 3 (.e (.int q[i]))) (congrArg (fun x => D.t 3 (.e x)) (getD_int hi)) ?_
        refine VX_go (fs := []) (ok 0 _) trivial 100 [] rfl ?_ ?_
        · simp [allP, nb, tb, maxL, L]; omega
        refine loop_nrm ⟨i + 1, by omega, by omega, ?_⟩
        rw [hL]
        exact wk0 rfl (by simp [Blk.under]) (lc (li hwi.symm) (lc (ls rfl rfl) (lc (ls rfl rfl) (lc (ls rfl rfl) (lc (ls rfl rfl) lnil)))))
      · have hki : i < k := by simp [hk1] at h2; omega
        have hL : L (i + 1) = L i := by
          simp only [L]
          rw [List.drop_eq_nil_of_le (by simp; omega), List.drop_eq_nil_of_le (by simp; omega)]
        refine VX_go (fs := []) (ok 0 _) trivial 100 [] rfl trivial ?_
        refine loop_nrm ⟨i + 1, by omega, by omega, ?_⟩
        rw [hL]
        exact wk0 rfl (by simp [Blk.under]) (lc (li hwi.symm) (lc (ls rfl rfl) (lc (ls rfl rfl) (lc (ls rfl rfl) (lc (ls rfl rfl) lnil)))))
    · refine VX_go (fs := []) (ok 0 _) trivial 100 [] rfl trivial ?_
      apply loop_brk
      refine VX_go (fs := []) (ok 0 _) trivial 100 [] rfl trivial ?_
      have : i = q.length := by simp at h; omega
      have hL : (thr q x).map E.int = L i := by simp [L, thr, this, hk3]; rw [List.take_of_length_le (by simp)]
      rw [hL]
      exact ⟨.inr rfl, rfl⟩

theorem rpush_ok (q : List Int) (x m : Int) (hq : q.length ≤ 90000) : FnOk Try.prog tb 12 [22, 3, 3] [22, 3] [.sl (q.map .int), .int x, .int m] [.sl ((pushE q x m).map .int), .int (pushN q m)] := by
  refine FnOk_of_V (fn := Try.f12) (bt := 4) (ok 0 _) Try.func12 rfl rfl rfl (by decide) fun hw => ?_
  apply V_of_VX
  refine VX_go (fs := []) (ok 0 _) trivial 100 [] rfl ?_ ?_
  · simp [allP, nb, tb, maxL]; omega
  refine VX_split 15 rfl rfl (fun h => ?_) (fun h => ?_)
  · refine VX_go (fs := []) (ok 0 _) trivial 100 [] rfl trivial ?_
    have h : (q.length : Int) ≥ m := by simpa using h
    simp only [pushE, pushN, h, if_true]
    exact ⟨.inr rfl, rfl⟩
  · refine VX_go (fs := []) (ok 0 _) trivial 100 [] rfl ?_ ?_
    · simp [allP, nb, tb, maxL]; omega
    have h : ¬ (q.length : Int) ≥ m := by simpa using h
    simp only [pushE, pushN, h, if_false, List.map_append]
    exact ⟨.inr rfl, rfl⟩

/-- How many are left out. -/
def cut (n : Nat) (m : Int) : Nat := ((n : Int) - (if m > 0 then m else 0)).toNat
def trim (q : List Int) (m : Int) : List Int := q.drop (cut q.length m)
theorem trim_ok (q : List Int) (m : Int) (hq : q.length ≤ 100000) : FnOk Try.prog tb 10 [22, 3] [22] [.sl (q.map .int), .int m] [.sl ((trim q m).map .int)] := by
  refine FnOk_of_V (fn := Try.f10) (bt := 4) (ok 0 _) Try.func10 rfl rfl rfl (by decide) fun hw => ?_
  obtain ⟨hm1, hm2⟩ := wt64 (hw 1 3 _ rfl rfl)
  have hlen : ((q.map E.int).length : Int) = q.length := by simp
  have hw1 : IntKind.wrap .i64 (((q.map E.int).length : Int) - (if m > 0 then m else 0)) = (q.length : Int) - (if m > 0 then m else 0) := by rw [hlen]; exact w64 (by split <;> omega) (by split <;> omega)
  have hc : (if (q.length : Int) - (if m > 0 then m else 0) > 0 then (q.length : Int) - (if m > 0 then m else 0) else 0) = (cut q.length m : Nat) := by unfold cut; split <;> split <;> omega
  have hcl : cut q.length m ≤ q.length := by unfold cut; split <;> omega
  apply V_of_VX
  refine VX_go (fs := []) (ok 0 _) trivial 100 [12] rfl ?_ ?_
  · simp [allP]
  refine VX_eq 11 rfl rfl (d' := .t 3 (.e (.int (cut q.length m)))) (congrArg (fun x => D.t 3 (.e (.int x))) ?_) ?_
  · rw [hw1, hc]
  refine VX_go (fs := []) (ok 0 _) trivial 100 [13] rfl ?_ ?_
  · simp [allP]; omega
  refine VX_eq 12 rfl rfl (d' := .t 22 (.e (.sl ((trim q m).map .int)))) (congrArg (fun x => D.t 22 (.e (.sl x))) ?_) ?_
  · simp [trim]; rw [List.take_of_length_le (by simp)]
  refine VX_callD (ok 0 _) [22] [] rfl rfl rfl rfl rfl rfl (clone_ok _ (by simp [trim]; omega)).g rfl rfl rfl ?_
  refine VX_go (fs := []) (ok 0 _) trivial 100 [] rfl trivial ?_
  exact ⟨.inr rfl, rfl⟩

theorem rtrim_ok (q : List Int) (m : Int) (hq : q.length ≤ 100000) : FnOk Try.prog tb 19 [22, 3] [22] [.sl (q.map .int), .int m] [.sl ((trim q m).map .int)] := by
  refine FnOk_of_V (fn := Try.f19) (bt := 4) (ok 0 _) Try.func19 rfl rfl rfl (by decide) fun hw => ?_
  have hcl : cut q.length m ≤ q.length := by unfold cut; split <;> omega
  apply V_of_VX
  refine VX_go (fs := []) (ok 0 _) trivial 100 [] rfl trivial ?_
  refine VX_promote 5 (u := 3) rfl rfl ?_
  let L : Nat → List E := fun i => ((q.take i).drop (cut q.length m)).map E.int
  refine VX_loopA (fun i : Nat => i ≤ q.length) (fun i => [(9, .t 3 (.e (.int i))), (8, .t 3 (.e (.int q.length))), (0, .t 22 (.e (.sl (q.map .int)))), (1, .t 3 (.e (.int m))), (5, .t 22 (.lsl 0 (L i)))]) (fun i => [.row 3 (L i).length]) (fun i => q.length - i) 0 (by simp) ?_ ?_
  · have h0 : L 0 = [] := by simp [L]
    rw [h0]
    exact wk0 rfl (by simp [Blk.under]) (lc (ls rfl rfl) (lc (li (by simp)) (lc (ls rfl rfl) (lc (ls rfl rfl) (lc (ls rfl rfl) lnil)))))
  · rintro i hi
    refine VX_go (fs := []) (ok 0 _) trivial 100 [] rfl trivial ?_
    refine VX_split 10 rfl rfl (fun h => ?_) (fun h => ?_)
    · have hi : i < q.length := by simpa using h
      have hwi : IntKind.wrap .i64 ((i : Int) + 1) = ((i + 1 : Nat) : Int) := by rw [w64 (by omega) (by omega)]; simp
      have hlen : ((q.map E.int).length : Int) = q.length := by simp
      have hws : IntKind.wrap .i64 (((q.map E.int).length : Int) - (i : Int)) = (q.length : Int) - i := by rw [hlen]; exact w64 (by omega) (by omega)
      have yes : cut q.length m ≤ i → L (i + 1) = L i ++ [.int q[i]] := fun h => by
        simp only [L]
        rw [List.take_succ_eq_append_getElem hi, List.drop_append_of_le_length (by simp; omega)]
        simp
      have no : i < cut q.length m → L (i + 1) = L i := fun h => by
        simp only [L]
        rw [List.drop_eq_nil_of_le (by simp; omega), List.drop_eq_nil_of_le (by simp; omega)]
      refine VX_go (fs := []) (ok 0 _) trivial 100 [] rfl trivial ?_
      refine VX_split 14 rfl rfl (fun h1 => ?_) (fun h1 => ?_)
      · refine VX_go (fs := []) (ok 0 _) trivial 100 [] rfl trivial ?_
        refine VX_split 21 rfl rfl (fun h2 => ?_) (fun h2 => ?_)
        · have hki : cut q.length m ≤ i := by
            have h1 : m > 0 := by simpa using h1
            rw [hws] at h2
            simp at h2
            unfold cut; rw [if_pos h1]; omega
          refine VX_go (fs := []) (ok 0 _) trivial 100 [27] rfl ?_ ?_
          · simp [allP]; omega
          refine VX_eq 26 rfl rfl (d' := .t 3 (.e (.int q[i]))) (congrArg (fun x => D.t 3 (.e x)) (getD_int hi)) ?_
          refine VX_go (fs := []) (ok 0 _) trivial 100 [] rfl ?_ ?_
          · simp [allP, nb, tb, maxL, L]; omega
          refine loop_nrm ⟨i + 1, by omega, by omega, ?_⟩
          rw [yes hki]
          exact wk0 rfl (by simp [Blk.under]) (lc (li hwi.symm) (lc (ls rfl rfl) (lc (ls rfl rfl) (lc (ls rfl rfl) (lc (ls rfl rfl) lnil)))))
        · have hki : i < cut q.length m := by
            have h1 : m > 0 := by simpa using h1
            rw [hws] at h2
            simp at h2
            unfold cut; rw [if_pos h1]; omega
          refine VX_go (fs := []) (ok 0 _) trivial 100 [] rfl trivial ?_
          refine loop_nrm ⟨i + 1, by omega, by omega, ?_⟩
          rw [no hki]
          exact wk0 rfl (by simp [Blk.under]) (lc (li hwi.symm) (lc (ls rfl rfl) (lc (ls rfl rfl) (lc (ls rfl rfl) (lc (ls rfl rfl) lnil)))))
      · have hki : i < cut q.length m := by
          have h1 : ¬ m > 0 := by simpa using h1
          unfold cut; rw [if_neg h1]; omega
        refine VX_go (fs := []) (ok 0 _) trivial 100 [] rfl trivial ?_
        refine loop_nrm ⟨i + 1, by omega, by omega, ?_⟩
        rw [no hki]
        exact wk0 rfl (by simp [Blk.under]) (lc (li hwi.symm) (lc (ls rfl rfl) (lc (ls rfl rfl) (lc (ls rfl rfl) (lc (ls rfl rfl) lnil)))))
    · refine VX_go (fs := []) (ok 0 _) trivial 100 [] rfl trivial ?_
      apply loop_brk
      refine VX_go (fs := []) (ok 0 _) trivial 100 [] rfl trivial ?_
      have : i = q.length := by simp at h; omega
      have hL : (trim q m).map E.int = L i := by simp [L, trim, this]; rw [List.take_of_length_le (by simp)]
      rw [hL]
      exact ⟨.inr rfl, rfl⟩

theorem awake_ok : FnOk Try.prog tb 6 [] [4] [] [.bool true] := by
  refine FnOk_of_V (fn := Try.f6) (bt := 4) (ok 0 _) Try.func6 rfl rfl rfl (by decide) fun hw => ?_
  apply V_of_VX
  refine VX_go (fs := []) (ok 0 _) trivial 100 [] rfl trivial ?_
  refine VX_callD (ok 0 _) [22, 3] [] rfl rfl rfl rfl rfl rfl (through_ok [1, 2, 3] 2 (by simp)).g rfl rfl rfl ?_
  refine VX_go (fs := []) (ok 0 _) trivial 100 [] rfl trivial ?_
  refine VX_known 9 true rfl rfl (by decide) ?_
  refine VX_go (fs := []) (ok 0 _) trivial 100 [] rfl trivial ?_
  refine VX_known 14 true rfl rfl (by decide) ?_
  refine VX_go (fs := []) (ok 0 _) trivial 100 [] rfl ?_ ?_
  · simp [allP, thr]; decide
  exact ⟨.inr rfl, rfl⟩
end Go.Den.Q15
