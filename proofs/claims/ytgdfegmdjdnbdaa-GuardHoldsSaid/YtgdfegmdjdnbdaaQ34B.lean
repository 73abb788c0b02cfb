/- Law 34: copies; what is swept; what counts. -/
import Derived.Test.YtgdfegmdjdnbdaaQ34A
namespace Go.Den.Q34
open Go Go.Den Go.Proofs
set_option maxRecDepth 8000
set_option linter.unusedVariables false

theorem cloneR_ok (q : List E) (hq : q.length ≤ 100000) : FnOk Try.prog tb 22 [22] [22] [.sl q] [.sl q] := by
  refine FnOk_of_V (fn := Try.f22) (bt := 4) (ok 0 _) Try.func22 rfl rfl rfl (by decide) fun hw => ?_
  apply V_of_VX
  refine VX_go3 (fs := []) (ok 0 _) eqs trivial 100 [] rfl trivial ?_
  refine VX_op rfl rfl (OpV_nilS (ok 0 _) rfl (.inl rfl) rfl rfl rfl rfl) ?_
  rintro d s ⟨b, hb, rfl, rfl⟩
  refine VX_go3 (fs := []) (ok 0 _) eqs trivial 100 [] rfl trivial ?_
  refine VX_split 4 rfl rfl (fun h => ?_) (fun h => ?_)
  · refine VX_go3 (fs := []) (ok 0 _) eqs trivial 100 [] rfl trivial ?_
    exact ⟨.inr rfl, by rw [hb h]; rfl⟩
  · refine VX_go3 (fs := []) (ok 0 _) eqs trivial 100 [] rfl ?_ ?_
    · simp [allP, nb, tb, maxL]; omega
    exact ⟨.inr rfl, rfl⟩
theorem cloneE_ok (q : List E) (hq : q.length ≤ 100000) : FnOk Try.prog tb 25 [23] [23] [.sl q] [.sl q] := by
  refine FnOk_of_V (fn := Try.f25) (bt := 4) (ok 0 _) Try.func25 rfl rfl rfl (by decide) fun hw => ?_
  apply V_of_VX
  refine VX_go3 (fs := []) (ok 0 _) eqs trivial 100 [] rfl trivial ?_
  refine VX_op rfl rfl (OpV_nilS (ok 0 _) rfl (.inl rfl) rfl rfl rfl rfl) ?_
  rintro d s ⟨b, hb, rfl, rfl⟩
  refine VX_go3 (fs := []) (ok 0 _) eqs trivial 100 [] rfl trivial ?_
  refine VX_split 4 rfl rfl (fun h => ?_) (fun h => ?_)
  · refine VX_go3 (fs := []) (ok 0 _) eqs trivial 100 [] rfl trivial ?_
    exact ⟨.inr rfl, by rw [hb h]; rfl⟩
  · refine VX_go3 (fs := []) (ok 0 _) eqs trivial 100 [] rfl ?_ ?_
    · simp [allP, nb, tb, maxL]; omega
    exact ⟨.inr rfl, rfl⟩

/-- What a sweep leaves. -/
def keepB (rs : List Rl) (now : Nat) (x : En) : Bool := match ridx x.o x.nm rs 0 with
  | .ofNat i => match rs[i]? with
    | some r => cnt x r now
    | none => false
  | .negSucc _ => false
theorem ridx_range (o : Nat) (nm : List UInt8) : ∀ (rs : List Rl) (i : Nat), ridx o nm rs i = -1 ∨ ∃ j, ridx o nm rs i = ((i + j : Nat) : Int) ∧ j < rs.length ∧ ∃ r, rs[j]? = some r ∧ hits o nm r = true
  | [], i => .inl rfl
  | r :: rs, i => by
    unfold ridx
    by_cases h : hits o nm r = true
    · rw [if_pos h]; exact .inr ⟨0, rfl, by simp, r, rfl, h⟩
    · rw [if_neg h]
      rcases ridx_range o nm rs (i + 1) with h' | ⟨j, h1, h2, r', h3, h4⟩
      · exact .inl h'
      · exact .inr ⟨j + 1, by rw [h1]; congr 1; omega, by simp; omega, r', by simpa using h3, h4⟩
theorem ridx_cases (o : Nat) (nm : List UInt8) (rs : List Rl) : ridx o nm rs 0 = -1 ∨ ∃ (j : Nat) (h : j < rs.length), ridx o nm rs 0 = (j : Nat) ∧ hits o nm rs[j] = true := by
  rcases ridx_range o nm rs 0 with h | ⟨j, h1, h2, r, h3, h4⟩
  · exact .inl h
  · refine .inr ⟨j, h2, by rw [h1, Nat.zero_add], ?_⟩
    rw [List.getElem?_eq_getElem h2] at h3; cases h3; exact h4

theorem sweep_ok (rs : List Rl) (es : List En) (now : Nat) (hrs : ∀ r ∈ rs, r.ok) (hes : ∀ x ∈ es, x.ok) (hn : now < 18446744073709551616) (hl : es.length ≤ 10000) (hlr : rs.length ≤ 10000) :
    FnOk Try.prog tb 8 [25, 26] [25] [gE rs es, .int now] [gE rs (es.filter (keepB rs now))] := by
  refine FnOk_of_V (fn := Try.f8) (bt := 4) (ok 0 _) Try.func8 rfl rfl rfl (by decide) fun hw => ?_
  apply V_of_VX
  refine VX_go3 (fs := []) (ok 0 _) eqs trivial 100 [] rfl trivial ?_
  refine VX_promote 5 (u := 62) rfl rfl ?_
  refine VX_loopA (fun i : Nat => i ≤ es.length) (fun i => [(12, .t 3 (.e (.int i))), (11, .t 3 (.e (.int es.length))), (10, .t 23 (.e (.sl (es.map En.e)))), (5, .t 23 (.lsl 2 (((es.take i).filter (keepB rs now)).map En.e))), (4, .ptr 1 []), (2, .ptr 0 []), (1, .t 26 (.e (.int now)))])
    (fun i => [.tree 25 (.e (gE rs es)), .tree 25 (.st [.nsl, .nsl]), .row 62 (((es.take i).filter (keepB rs now)).map En.e).length]) (fun i => es.length - i) 0 (by simp) ?_ ?_
  · exact wk1 rfl rfl (by simp [Blk.under, T.under, T.unders]) (lc (ls rfl rfl) (lc (li (by simp)) (lc (ls rfl rfl) (lc (ls rfl rfl) (lc (ls rfl rfl) (lc (ls rfl rfl) (lc (ls rfl rfl) lnil)))))))
  · intro i hi
    refine VX_go3 (fs := []) (ok 0 _) eqs trivial 100 [] rfl trivial ?_
    refine VX_split 13 rfl rfl (fun h => ?_) (fun h => ?_)
    · have hi : i < es.length := by simpa using h
      have hxok := hes es[i] (List.getElem_mem hi)
      have ei : IntKind.wrap .i64 ((i : Int) + 1) = ((i + 1 : Nat) : Int) := by rw [w64 (by omega) (by omega)]; simp
      have htk : es.take (i + 1) = es.take i ++ [es[i]] := by rw [List.take_add_one, List.getElem?_eq_getElem hi]; rfl
      have hfl : ((es.take i).filter (keepB rs now)).length ≤ 10000 := by
        have := List.length_filter_le (keepB rs now) (es.take i)
        have h2 : (es.take i).length ≤ es.length := by simp; omega
        omega
      refine VX_go3 (fs := []) (ok 0 _) eqs trivial 100 [7] rfl ?_ ?_
      · simp [allP]; omega
      refine VX_eq 15 rfl rfl (d' := .t 62 (.e es[i].e)) (congrArg (fun x => D.t 62 (.e x)) (getD_en hi)) ?_
      refine VX_go3 (fs := []) (ok 0 _) eqs trivial 100 [] rfl trivial ?_
      refine VX_callD (ok 0 _) [25, 27, 9] [] rfl rfl rfl rfl rfl rfl (rule_ok rs es es[i].o es[i].nm (by omega)).g rfl rfl rfl ?_
      refine VX_go3 (fs := []) (ok 0 _) eqs trivial 100 [] rfl trivial ?_
      refine VX_draw [] [(0, true), (1, true), (2, true), (3, true), (4, true), (5, true), (6, true), (7, true), (8, true), (9, true), (10, false), (11, true)] mixed (by kernel_rfl) (by kernel_rfl) (by kernel_rfl) ?_
      refine VX_go3 (fs := []) (ok 0 _) eqs trivial 100 [] rfl trivial ?_
      rcases ridx_cases es[i].o es[i].nm rs with hx | ⟨j, hj, hx, hh⟩
      · have hk : keepB rs now es[i] = false := by unfold keepB; rw [hx]; rfl
        rw [hx]
        refine VX_known 24 false rfl rfl (by decide) ?_
        refine VX_go3 (fs := []) (ok 0 _) eqs trivial 100 [] rfl trivial ?_
        refine loop_nrm ⟨i + 1, by omega, by omega, ?_⟩
        have he : (es.take (i + 1)).filter (keepB rs now) = (es.take i).filter (keepB rs now) := by rw [htk, List.filter_append]; simp [hk]
        refine wkc [.tree 62 (.e es[i].e)] (by rw [he]; rfl) rfl (by simp [Blk.under, T.under, T.unders]) (lc (li (by rw [ei])) (lc (ls rfl rfl) (lc (ls rfl rfl) (lc (ls (by rw [he]; rfl) rfl) (lc (ls rfl rfl) (lc (ls rfl rfl) (lc (ls rfl rfl) lnil)))))))
      · have hk : keepB rs now es[i] = cnt es[i] rs[j] now := by
          unfold keepB; rw [hx]
          show (match rs[j]? with | some r => cnt es[i] r now | none => false) = _
          rw [List.getElem?_eq_getElem hj]
        rw [hx]
        refine VX_known 24 true rfl rfl (by simp) ?_
        refine VX_go3 (fs := []) (ok 0 _) eqs trivial 100 [] rfl ?_ ?_
        · simp [allP]; omega
        refine VX_eq 30 rfl rfl (d' := .t 47 (.e rs[j].e)) (congrArg (fun x => D.t 47 (.e x)) (getD_rl hj)) ?_
        refine VX_callO (ok 0 _) [62, 47, 26] [] rfl rfl rfl rfl rfl rfl rfl rfl (counts_ok es[i] rs[j] now hxok (hrs _ (List.getElem_mem hj)) hn).g rfl rfl rfl ?_
        refine VX_split 32 rfl rfl (fun hc => ?_) (fun hc => ?_)
        · have hk1 : keepB rs now es[i] = true := by rw [hk, hc]
          refine VX_go3 (fs := []) (ok 0 _) eqs trivial 100 [] rfl ?_ ?_
          · simp [allP, nb, tb, maxL]; omega
          refine loop_nrm ⟨i + 1, by omega, by omega, ?_⟩
          have he : ((es.take (i + 1)).filter (keepB rs now)).map En.e = ((es.take i).filter (keepB rs now)).map En.e ++ [es[i].e] := by rw [htk, List.filter_append]; simp [hk1]
          refine wkc [.tree 62 (.e es[i].e)] (by rw [he]; rfl) rfl (by simp [Blk.under, T.under, T.unders]) (lc (li (by rw [ei])) (lc (ls rfl rfl) (lc (ls rfl rfl) (lc (ls (by rw [he]; rfl) rfl) (lc (ls rfl rfl) (lc (ls rfl rfl) (lc (ls rfl rfl) lnil)))))))
        · have hk0 : keepB rs now es[i] = false := by rw [hk, hc]
          refine VX_go3 (fs := []) (ok 0 _) eqs trivial 100 [] rfl trivial ?_
          refine loop_nrm ⟨i + 1, by omega, by omega, ?_⟩
          have he : (es.take (i + 1)).filter (keepB rs now) = (es.take i).filter (keepB rs now) := by rw [htk, List.filter_append]; simp [hk0]
          refine wkc [.tree 62 (.e es[i].e)] (by rw [he]; rfl) rfl (by simp [Blk.under, T.under, T.unders]) (lc (li (by rw [ei])) (lc (ls rfl rfl) (lc (ls rfl rfl) (lc (ls (by rw [he]; rfl) rfl) (lc (ls rfl rfl) (lc (ls rfl rfl) (lc (ls rfl rfl) lnil)))))))
    · have hi' : i = es.length := by simp at h; omega
      refine VX_go3 (fs := []) (ok 0 _) eqs trivial 100 [] rfl trivial ?_
      apply loop_brk
      refine VX_go3 (fs := []) (ok 0 _) eqs trivial 100 [] rfl trivial ?_
      refine VX_callD (ok 0 _) [22] [] rfl rfl rfl rfl rfl rfl (cloneR_ok (rs.map Rl.e) (by simp; omega)).g rfl rfl rfl ?_
      refine VX_go3 (fs := []) (ok 0 _) eqs trivial 100 [] rfl trivial ?_
      refine ⟨.inr rfl, ?_⟩
      rw [hi', List.take_length]; rfl

def countsB (rs : List Rl) (es : List En) (o : Nat) (nm : List UInt8) (now : Nat) : Nat × Bool := match ridx o nm rs 0 with
  | .ofNat i => match rs[i]? with
    | some r => ((sumF r now es 0).1, decide ((sumF r now es 0).2 = 0))
    | none => (0, false)
  | .negSucc _ => (0, false)
theorem countsG_ok (rs : List Rl) (es : List En) (o : Nat) (nm : List UInt8) (now : Nat) (hrs : ∀ r ∈ rs, r.ok) (hes : ∀ x ∈ es, x.ok) (hn : now < 18446744073709551616) (hl : es.length ≤ 10000) (hlr : rs.length ≤ 10000) :
    FnOk Try.prog tb 10 [25, 27, 9, 26] [26, 4] [gE rs es, .int o, .str nm, .int now] [.int (countsB rs es o nm now).1, .bool (countsB rs es o nm now).2] := by
  refine FnOk_of_V (fn := Try.f10) (bt := 4) (ok 0 _) Try.func10 rfl rfl rfl (by decide) fun hw => ?_
  apply V_of_VX
  refine VX_go3 (fs := []) (ok 0 _) eqs trivial 100 [] rfl trivial ?_
  refine VX_callD (ok 0 _) [25, 27, 9] [] rfl rfl rfl rfl rfl rfl (rule_ok rs es o nm (by omega)).g rfl rfl rfl ?_
  refine VX_go3 (fs := []) (ok 0 _) eqs trivial 100 [] rfl trivial ?_
  rcases ridx_cases o nm rs with hx | ⟨j, hj, hx, hh⟩
  · have hk : countsB rs es o nm now = (0, false) := by unfold countsB; rw [hx]; rfl
    rw [hx]
    refine VX_known 18 true rfl rfl (by decide) ?_
    refine VX_go3 (fs := []) (ok 0 _) eqs trivial 100 [] rfl trivial ?_
    refine ⟨.inr rfl, ?_⟩
    rw [hk]; rfl
  · have hk : countsB rs es o nm now = ((sumF rs[j] now es 0).1, decide ((sumF rs[j] now es 0).2 = 0)) := by
      unfold countsB; rw [hx]
      show (match rs[j]? with | some r => ((sumF r now es 0).1, decide ((sumF r now es 0).2 = 0)) | none => (0, false)) = _
      rw [List.getElem?_eq_getElem hj]
    rw [hx]
    refine VX_known 18 false rfl rfl (by simp) ?_
    refine VX_go3 (fs := []) (ok 0 _) eqs trivial 100 [] rfl trivial ?_
    refine VX_draw [] [(0, true), (1, true), (2, true), (3, true), (4, true), (5, true), (6, true), (7, false), (8, true), (9, true), (10, true), (11, true), (12, true)] mixed (by kernel_rfl) (by kernel_rfl) (by kernel_rfl) ?_
    refine VX_go3 (fs := []) (ok 0 _) eqs trivial 100 [] rfl ?_ ?_
    · simp [allP]; omega
    refine VX_eq 25 rfl rfl (d' := .t 47 (.e rs[j].e)) (congrArg (fun x => D.t 47 (.e x)) (getD_rl hj)) ?_
    refine VX_callO (ok 0 _) [25, 47, 26] [] rfl rfl rfl rfl rfl rfl rfl rfl (sum_ok rs es rs[j] now hes (hrs _ (List.getElem_mem hj)) hn (by omega)).g rfl rfl rfl ?_
    refine VX_go3 (fs := []) (ok 0 _) eqs trivial 100 [] rfl trivial ?_
    refine ⟨.inr rfl, ?_⟩
    rw [hk]; rfl
end Go.Den.Q34
