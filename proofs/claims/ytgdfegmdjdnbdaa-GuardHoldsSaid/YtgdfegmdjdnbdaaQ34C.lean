/- Law 34: what is allowed; rules that are set; what is told of a guard. -/
import Derived.Test.YtgdfegmdjdnbdaaQ34N
namespace Go.Den.Q34
open Go Go.Den Go.Proofs
set_option maxRecDepth 8000
set_option linter.unusedVariables false

theorem cloneE_row (q : List E) (hq : q.length ≤ 100000) : FnG Try.prog tb 25 [] [.t 23 (.e (.sl q))] (fun d s => d = .t 23 (.lsl 0 q) ∧ s = [.row 62 q.length]) := by
  refine FnG_of_V (fn := Try.f25) (bt := 4) true [0] [23] (ok 0 _) Try.func25 rfl rfl rfl fun _ _ _ _ _ _ => ?_
  apply V_of_VX
  refine VX_go3 (fs := []) (ok 0 _) eqs trivial 100 [] rfl trivial ?_
  refine VX_op rfl rfl (OpV_nilS (ok 0 _) rfl (.inl rfl) rfl rfl rfl rfl) ?_
  rintro d s ⟨b, hb, rfl, rfl⟩
  refine VX_go3 (fs := []) (ok 0 _) eqs trivial 100 [] rfl trivial ?_
  refine VX_split 4 rfl rfl (fun h => ?_) (fun h => ?_)
  · refine VX_go3 (fs := []) (ok 0 _) eqs trivial 5 [] rfl trivial ?_
    refine VX_promote 2 (u := 62) rfl rfl ?_
    refine VX_go3 (fs := []) (ok 0 _) eqs trivial 100 [] rfl trivial ?_
    refine ⟨.inr rfl, _, _, _, rfl, rfl, rfl, ?_⟩
    rw [hb h]; exact ⟨rfl, rfl⟩
  · refine VX_go3 (fs := []) (ok 0 _) eqs trivial 100 [] rfl ?_ ?_
    · simp [allP, nb, tb, maxL]; omega
    exact ⟨.inr rfl, _, _, _, rfl, rfl, rfl, rfl, rfl⟩
theorem cloneR_row (q : List E) (hq : q.length ≤ 100000) : FnG Try.prog tb 22 [] [.t 22 (.e (.sl q))] (fun d s => d = .t 22 (.lsl 0 q) ∧ s = [.row 47 q.length]) := by
  refine FnG_of_V (fn := Try.f22) (bt := 4) true [0] [22] (ok 0 _) Try.func22 rfl rfl rfl fun _ _ _ _ _ _ => ?_
  apply V_of_VX
  refine VX_go3 (fs := []) (ok 0 _) eqs trivial 100 [] rfl trivial ?_
  refine VX_op rfl rfl (OpV_nilS (ok 0 _) rfl (.inl rfl) rfl rfl rfl rfl) ?_
  rintro d s ⟨b, hb, rfl, rfl⟩
  refine VX_go3 (fs := []) (ok 0 _) eqs trivial 100 [] rfl trivial ?_
  refine VX_split 4 rfl rfl (fun h => ?_) (fun h => ?_)
  · refine VX_go3 (fs := []) (ok 0 _) eqs trivial 5 [] rfl trivial ?_
    refine VX_promote 2 (u := 47) rfl rfl ?_
    refine VX_go3 (fs := []) (ok 0 _) eqs trivial 100 [] rfl trivial ?_
    refine ⟨.inr rfl, _, _, _, rfl, rfl, rfl, ?_⟩
    rw [hb h]; exact ⟨rfl, rfl⟩
  · refine VX_go3 (fs := []) (ok 0 _) eqs trivial 100 [] rfl ?_ ?_
    · simp [allP, nb, tb, maxL]; omega
    exact ⟨.inr rfl, _, _, _, rfl, rfl, rfl, rfl, rfl⟩

/-- What is allowed, by a rule and the sum of what counts. -/
def allowR (es : List En) (r : Rl) (o : Nat) (nm : List UInt8) (n now : Nat) (s : Nat × Int) : List En × Int :=
  if s.2 ≠ 0 then (es, s.2) else if (addB s.1 n).2 ≠ 0 then (es, (addB s.1 n).2) else if r.most < (addB s.1 n).1 then (es, 12) else if 4096 ≤ es.length then (es, 6) else (es ++ [⟨o, nm, now, n⟩], 0)
def allowB (rs : List Rl) (es : List En) (o : Nat) (nm : List UInt8) (n now : Nat) : List En × Int := match ridx o nm rs 0 with
  | .ofNat i => match rs[i]? with
    | some r => allowR es r o nm n now (sumF r now es 0)
    | none => (es, 0)
  | .negSucc _ => (es, 0)

theorem allow_ok (rs : List Rl) (es : List En) (o : Nat) (nm : List UInt8) (n now : Nat) (hrs : ∀ r ∈ rs, r.ok) (hes : ∀ x ∈ es, x.ok) (hn : n < 18446744073709551616) (hnow : now < 18446744073709551616) (hl : es.length ≤ 10000) (hlr : rs.length ≤ 10000) :
    FnOk Try.prog tb 9 [25, 27, 9, 26, 26] [25, 31] [gE rs es, .int o, .str nm, .int n, .int now] [gE rs (allowB rs es o nm n now).1, .int (allowB rs es o nm n now).2] := by
  refine FnOk_of_V (fn := Try.f9) (bt := 4) (ok 0 _) Try.func9 rfl rfl rfl (by decide) fun hw => ?_
  apply V_of_VX
  refine VX_go3 (fs := []) (ok 0 _) eqs trivial 100 [] rfl trivial ?_
  refine VX_callD (ok 0 _) [25, 27, 9] [] rfl rfl rfl rfl rfl rfl (rule_ok rs es o nm (by omega)).g rfl rfl rfl ?_
  refine VX_go3 (fs := []) (ok 0 _) eqs trivial 100 [] rfl trivial ?_
  rcases ridx_cases o nm rs with hx | ⟨j, hj, hx, hh⟩
  · have hk : allowB rs es o nm n now = (es, 0) := by unfold allowB; rw [hx]; rfl
    rw [hx]
    refine VX_known 21 true rfl rfl (by decide) ?_
    refine VX_go3 (fs := []) (ok 0 _) eqs trivial 100 [] rfl trivial ?_
    refine ⟨.inr rfl, ?_⟩
    rw [hk]; rfl
  · have hk : allowB rs es o nm n now = allowR es rs[j] o nm n now (sumF rs[j] now es 0) := by
      unfold allowB; rw [hx]
      show (match rs[j]? with | some r => allowR es r o nm n now (sumF r now es 0) | none => (es, 0)) = _
      rw [List.getElem?_eq_getElem hj]
    rw [hx]
    refine VX_known 21 false rfl rfl (by simp) ?_
    refine VX_go3 (fs := []) (ok 0 _) eqs trivial 100 [] rfl trivial ?_
    refine VX_draw [] [(0, true), (1, true), (2, true), (3, true), (4, true), (5, true), (6, true), (7, false), (8, true), (9, true), (10, true), (11, true), (12, true)] mixed (by kernel_rfl) (by kernel_rfl) (by kernel_rfl) ?_
    refine VX_go3 (fs := []) (ok 0 _) eqs trivial 100 [] rfl ?_ ?_
    · simp [allP]; omega
    refine VX_eq 29 rfl rfl (d' := .t 47 (.e rs[j].e)) (congrArg (fun x => D.t 47 (.e x)) (getD_rl hj)) ?_
    refine VX_callO (ok 0 _) [25, 47, 26] [] rfl rfl rfl rfl rfl rfl rfl rfl (sum_ok rs es rs[j] now hes (hrs _ (List.getElem_mem hj)) hnow (by omega)).g rfl rfl rfl ?_
    have hsl := sumF_lt rs[j] now es 0 (by decide)
    have hk2 : allowB rs es o nm n now = allowR es rs[j] o nm n now ((sumF rs[j] now es 0).1, (sumF rs[j] now es 0).2) := hk
    generalize (sumF rs[j] now es 0).1 = S at hsl hk2 ⊢
    generalize (sumF rs[j] now es 0).2 = F at hk2 ⊢
    refine VX_go3 (fs := []) (ok 0 _) eqs trivial 100 [] rfl trivial ?_
    refine VX_split 35 rfl rfl (fun h => ?_) (fun h => ?_)
    · have hF : F = 0 := by simpa using h
      subst hF
      refine VX_go3 (fs := []) (ok 0 _) eqs trivial 100 [] rfl trivial ?_
      refine VX_callD (ok 0 _) [26, 26] [] rfl rfl rfl rfl rfl rfl (add_ok S n hsl hn).g rfl rfl rfl ?_
      generalize hAd : addB S n = A at hk2 ⊢
      have hk3 : allowB rs es o nm n now = if A.2 ≠ 0 then (es, A.2) else if rs[j].most < A.1 then (es, 12) else if 4096 ≤ es.length then (es, 6) else (es ++ [⟨o, nm, now, n⟩], 0) := by
        rw [hk2]; simp only [allowR, hAd]; rfl
      refine VX_go3 (fs := []) (ok 0 _) eqs trivial 100 [] rfl trivial ?_
      refine VX_split 42 rfl rfl (fun h => ?_) (fun h => ?_)
      · have h : A.2 ≠ 0 := by simpa using h
        refine VX_go3 (fs := []) (ok 0 _) eqs trivial 100 [] rfl trivial ?_
        refine ⟨.inr rfl, ?_⟩
        rw [hk3, if_pos h]; rfl
      · have h : ¬ A.2 ≠ 0 := by simpa using h
        rw [if_neg h] at hk3
        refine VX_go3 (fs := []) (ok 0 _) eqs trivial 100 [55] rfl ?_ ?_
        · simp [allP]; omega
        have hmost : getE [2] ((rs.map Rl.e).getD j .nilp) = .int rs[j].most := by rw [getD_rl hj]; rfl
        refine VX_eq 54 rfl rfl (d' := .t 26 (.e (.int rs[j].most))) (congrArg (fun x => D.t 26 (.e x)) hmost) ?_
        refine VX_go3 (fs := []) (ok 0 _) eqs trivial 100 [] rfl trivial ?_
        refine VX_split 47 rfl rfl (fun h => ?_) (fun h => ?_)
        · have h : rs[j].most < A.1 := by simp at h; omega
          refine VX_go3 (fs := []) (ok 0 _) eqs trivial 100 [] rfl trivial ?_
          refine ⟨.inr rfl, ?_⟩
          rw [hk3, if_pos h]; rfl
        · have h : ¬ rs[j].most < A.1 := by simp at h; omega
          rw [if_neg h] at hk3
          refine VX_go3 (fs := []) (ok 0 _) eqs trivial 100 [] rfl trivial ?_
          refine VX_split 57 rfl rfl (fun h => ?_) (fun h => ?_)
          · have h : 4096 ≤ es.length := by simp at h; omega
            refine VX_go3 (fs := []) (ok 0 _) eqs trivial 100 [] rfl trivial ?_
            refine ⟨.inr rfl, ?_⟩
            rw [hk3, if_pos h]; rfl
          · have h : ¬ 4096 ≤ es.length := by simp at h; omega
            rw [if_neg h] at hk3
            refine VX_go3 (fs := []) (ok 0 _) eqs trivial 100 [] rfl trivial ?_
            refine VX_callD (ok 0 _) [23] [] rfl rfl rfl rfl rfl rfl (cloneE_row (es.map En.e) (by simp; omega)) rfl rfl rfl ?_
            refine VX_go3 (fs := []) (ok 0 _) eqs trivial 100 [] rfl ?_ ?_
            · simp [allP, nb, tb, maxL]; omega
            refine VX_callD (ok 0 _) [22] [] rfl rfl rfl rfl rfl rfl (cloneR_ok (rs.map Rl.e) (by simp; omega)).g rfl rfl rfl ?_
            refine VX_go3 (fs := []) (ok 0 _) eqs trivial 100 [] rfl trivial ?_
            refine ⟨.inr rfl, ?_⟩
            rw [hk3]
            have he : gE rs (es ++ [⟨o, nm, now, n⟩]) = .agg [.sl (rs.map Rl.e), .sl (es.map En.e ++ [.agg [.int o, .str nm, .int now, .int n]])] := by simp [gE, En.e]
            simp only [he]; rfl
    · have hF : F ≠ 0 := by simpa using h
      refine VX_go3 (fs := []) (ok 0 _) eqs trivial 100 [] rfl trivial ?_
      refine VX_known 42 true rfl rfl (by simp [hF]) ?_
      refine VX_go3 (fs := []) (ok 0 _) eqs trivial 100 [] rfl trivial ?_
      refine ⟨.inr rfl, ?_⟩
      rw [hk2]; simp only [allowR, if_pos hF]; rfl

/-- A rule that is new. -/
theorem set_new (rs : List Rl) (es : List En) (r : Rl) (hl : rs.length < 32) (hle : es.length ≤ 10000) (hi : ridx r.o r.nm rs 0 = -1) (hnm : nameB r.nm = true) (hnl : r.nm.length ≤ 1000000) :
    FnOk Try.prog tb 13 [25, 47] [25, 31] [gE rs es, r.e] [gE (rs ++ [r]) es, .int 0] := by
  refine FnOk_of_V (fn := Try.f13) (bt := 4) (ok 0 _) Try.func13 rfl rfl rfl (by decide) fun hw => ?_
  apply V_of_VX
  refine VX_go3 (fs := []) (ok 0 _) eqs trivial 100 [] rfl trivial ?_
  refine VX_callD (ok 0 _) [25, 27, 9] [] rfl rfl rfl rfl rfl rfl (rule_ok rs es r.o r.nm (by omega)).g rfl rfl rfl ?_
  rw [hi]
  refine VX_go3 (fs := []) (ok 0 _) eqs trivial 100 [] rfl trivial ?_
  refine VX_callD (ok 0 _) [9] [] rfl rfl rfl rfl rfl rfl (name_ok r.nm hnl).g rfl rfl rfl ?_
  refine VX_known 17 true rfl rfl hnm ?_
  refine VX_go3 (fs := []) (ok 0 _) eqs trivial 100 [] rfl trivial ?_
  refine VX_known 23 true rfl rfl (by decide) ?_
  refine VX_go3 (fs := []) (ok 0 _) eqs trivial 100 [] rfl trivial ?_
  refine VX_known 20 false rfl rfl (by simp; omega) ?_
  refine VX_go3 (fs := []) (ok 0 _) eqs trivial 100 [] rfl trivial ?_
  refine VX_callD (ok 0 _) [22] [] rfl rfl rfl rfl rfl rfl (cloneR_row (rs.map Rl.e) (by simp; omega)) rfl rfl rfl ?_
  refine VX_go3 (fs := []) (ok 0 _) eqs trivial 100 [] rfl trivial ?_
  refine VX_known 34 false rfl rfl (by decide) ?_
  refine VX_go3 (fs := []) (ok 0 _) eqs trivial 100 [] rfl ?_ ?_
  · simp [allP, nb, tb, maxL]; omega
  refine VX_callD (ok 0 _) [23] [] rfl rfl rfl rfl rfl rfl (cloneE_ok (es.map En.e) (by simp; omega)).g rfl rfl rfl ?_
  refine VX_go3 (fs := []) (ok 0 _) eqs trivial 100 [] rfl trivial ?_
  refine ⟨.inr rfl, ?_⟩
  have he : gE (rs ++ [r]) es = .agg [.sl (rs.map Rl.e ++ [r.e]), .sl (es.map En.e)] := by simp [gE]
  rw [he]; rfl

/-- A guard as the document's: the same data. -/
theorem to_ok (rs : List Rl) (es : List En) (hl : rs.length ≤ 10000) (hle : es.length ≤ 10000) : FnOk Try.prog tb 12 [25] [40] [gE rs es] [gE rs es] := by
  refine FnOk_of_V (fn := Try.f12) (bt := 4) (ok 0 _) Try.func12 rfl rfl rfl (by decide) fun hw => ?_
  apply V_of_VX
  refine VX_go3 (fs := []) (ok 0 _) eqs trivial 100 [] rfl trivial ?_
  refine VX_promT (ok 0 _) rfl 2 [0] rfl rfl rfl rfl rfl ?_
  refine VX_promT (ok 0 _) rfl 2 [1] rfl rfl rfl rfl rfl ?_
  refine VX_loopA (fun i : Nat => i ≤ rs.length) (fun i => [(11, .t 3 (.e (.int i))), (10, .t 3 (.e (.int rs.length))), (9, .t 22 (.e (.sl (rs.map Rl.e)))), (1, .ptr 0 []), (2, .ptr 1 []), (3, .ptr 2 [])])
    (fun i => [.tree 25 (.e (gE rs es)), .tree 40 (.st [.nsl, .nsl]), .tree 40 (.st [.lsl 3 ((rs.take i).map Rl.e), .lsl 4 []]), .row 56 ((rs.take i).map Rl.e).length, .row 70 0]) (fun i => rs.length - i) 0 (by simp) ?_ ?_
  · exact wk1 rfl rfl (by simp [Blk.under, T.under, T.unders]) (lc (ls rfl rfl) (lc (li (by simp)) (lc (ls rfl rfl) (lc (ls rfl rfl) (lc (ls rfl rfl) (lc (ls rfl rfl) lnil))))))
  · intro i hi
    refine VX_go3 (fs := []) (ok 0 _) eqs trivial 100 [] rfl trivial ?_
    refine VX_split 12 rfl rfl (fun h => ?_) (fun h => ?_)
    · have hi : i < rs.length := by simpa using h
      have ei : IntKind.wrap .i64 ((i : Int) + 1) = ((i + 1 : Nat) : Int) := by rw [w64 (by omega) (by omega)]; simp
      have htk : (rs.take (i + 1)).map Rl.e = (rs.take i).map Rl.e ++ [rs[i].e] := by rw [List.take_add_one, List.getElem?_eq_getElem hi, List.map_append]; rfl
      refine VX_go3 (fs := []) (ok 0 _) eqs trivial 100 [5] rfl ?_ ?_
      · simp [allP]; omega
      refine VX_eq 14 rfl rfl (d' := .t 47 (.e rs[i].e)) (congrArg (fun x => D.t 47 (.e x)) (getD_rl hi)) ?_
      refine VX_go3 (fs := []) (ok 0 _) eqs trivial 100 [] rfl ?_ ?_
      · simp [allP, nb, tb, maxL]; omega
      refine loop_nrm ⟨i + 1, by omega, by omega, ?_⟩
      exact wkc [.tree 47 (.e rs[i].e)] (by rw [htk]; rfl) rfl (by simp [Blk.under, T.under, T.unders]) (lc (li (by rw [ei])) (lc (ls rfl rfl) (lc (ls rfl rfl) (lc (ls rfl rfl) (lc (ls rfl rfl) (lc (ls rfl rfl) lnil))))))
    · have hi' : i = rs.length := by simp at h; omega
      subst hi'
      rw [List.take_length]
      refine VX_go3 (fs := []) (ok 0 _) eqs trivial 100 [] rfl trivial ?_
      apply loop_brk
      refine VX_go3 (fs := []) (ok 0 _) eqs trivial 100 [] rfl trivial ?_
      refine VX_loopA (fun i : Nat => i ≤ es.length) (fun i => [(25, .t 3 (.e (.int i))), (24, .t 3 (.e (.int es.length))), (23, .t 23 (.e (.sl (es.map En.e)))), (1, .ptr 0 []), (2, .ptr 1 []), (3, .ptr 2 [])])
        (fun i => [.tree 25 (.e (gE rs es)), .tree 40 (.st [.nsl, .nsl]), .tree 40 (.st [.lsl 3 (rs.map Rl.e), .lsl 4 ((es.take i).map En.e)]), .row 56 (rs.map Rl.e).length, .row 70 ((es.take i).map En.e).length]) (fun i => es.length - i) 0 (by simp) ?_ ?_
      · exact wk1 rfl rfl (by simp [Blk.under, T.under, T.unders]) (lc (ls rfl rfl) (lc (li (by simp)) (lc (ls rfl rfl) (lc (ls rfl rfl) (lc (ls rfl rfl) (lc (ls rfl rfl) lnil))))))
      · intro i hi
        refine VX_go3 (fs := []) (ok 0 _) eqs trivial 100 [] rfl trivial ?_
        refine VX_split 26 rfl rfl (fun h => ?_) (fun h => ?_)
        · have hi : i < es.length := by simpa using h
          have ei : IntKind.wrap .i64 ((i : Int) + 1) = ((i + 1 : Nat) : Int) := by rw [w64 (by omega) (by omega)]; simp
          have htk : (es.take (i + 1)).map En.e = (es.take i).map En.e ++ [es[i].e] := by rw [List.take_add_one, List.getElem?_eq_getElem hi, List.map_append]; rfl
          refine VX_go3 (fs := []) (ok 0 _) eqs trivial 100 [7] rfl ?_ ?_
          · simp [allP]; omega
          refine VX_eq 28 rfl rfl (d' := .t 62 (.e es[i].e)) (congrArg (fun x => D.t 62 (.e x)) (getD_en hi)) ?_
          refine VX_go3 (fs := []) (ok 0 _) eqs trivial 100 [] rfl ?_ ?_
          · simp [allP, nb, tb, maxL]; omega
          refine loop_nrm ⟨i + 1, by omega, by omega, ?_⟩
          exact wkc [.tree 62 (.e es[i].e)] (by rw [htk]; rfl) rfl (by simp [Blk.under, T.under, T.unders]) (lc (li (by rw [ei])) (lc (ls rfl rfl) (lc (ls rfl rfl) (lc (ls rfl rfl) (lc (ls rfl rfl) (lc (ls rfl rfl) lnil))))))
        · have hi' : i = es.length := by simp at h; omega
          subst hi'
          rw [List.take_length]
          refine VX_go3 (fs := []) (ok 0 _) eqs trivial 100 [] rfl trivial ?_
          apply loop_brk
          refine VX_go3 (fs := []) (ok 0 _) eqs trivial 100 [] rfl trivial ?_
          exact ⟨.inr rfl, rfl⟩
end Go.Den.Q34
