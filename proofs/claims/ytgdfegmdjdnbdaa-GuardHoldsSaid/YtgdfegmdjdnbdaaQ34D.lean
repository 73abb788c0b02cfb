/- Law 34: a guard that was swept allows what it would have allowed. -/
import Derived.Test.YtgdfegmdjdnbdaaQ34C
namespace Go.Den.Q34
open Go Go.Den Go.Proofs
set_option maxRecDepth 8000
set_option linter.unusedVariables false

theorem eq_rl (r : Rl) : eqE r.e r.e = true := by simp [Rl.e, eqE, eqEs]
theorem eq_en (x : En) : eqE x.e x.e = true := by simp [En.e, eqE, eqEs]
theorem same_ok (rs : List Rl) (es : List En) (hl : rs.length ≤ 10000) (hle : es.length ≤ 10000) : FnOk Try.prog tb 11 [40, 40] [4] [gE rs es, gE rs es] [.bool true] := by
  refine FnOk_of_V (fn := Try.f11) (bt := 4) (ok 0 _) Try.func11 rfl rfl rfl (by decide) fun hw => ?_
  apply V_of_VX
  refine VX_go3 (fs := []) (ok 0 _) eqs trivial 100 [] rfl trivial ?_
  refine VX_known 14 false rfl rfl (by simp) ?_
  refine VX_go3 (fs := []) (ok 0 _) eqs trivial 100 [] rfl trivial ?_
  refine VX_known 22 false rfl rfl (by simp) ?_
  refine VX_go3 (fs := []) (ok 0 _) eqs trivial 100 [] rfl trivial ?_
  refine VX_loopA (fun i : Nat => i ≤ rs.length) (fun i => [(26, .t 3 (.e (.int i))), (25, .t 3 (.e (.int rs.length))), (2, .ptr 0 []), (3, .ptr 1 [])]) (fun i => [.tree 40 (.e (gE rs es)), .tree 40 (.e (gE rs es))]) (fun i => rs.length - i) 0 (by simp) ?_ ?_
  · exact wk1 rfl rfl (by simp [Blk.under, T.under]) (lc (ls rfl rfl) (lc (li (by simp)) (lc (ls rfl rfl) (lc (ls rfl rfl) lnil))))
  · intro i hi
    refine VX_go3 (fs := []) (ok 0 _) eqs trivial 100 [] rfl trivial ?_
    refine VX_split 27 rfl rfl (fun h => ?_) (fun h => ?_)
    · have hi : i < rs.length := by simpa using h
      have ei : IntKind.wrap .i64 ((i : Int) + 1) = ((i + 1 : Nat) : Int) := by rw [w64 (by omega) (by omega)]; simp
      refine VX_go3 (fs := []) (ok 0 _) eqs trivial 100 [] rfl trivial ?_
      refine VX_draw [] [(0, true), (1, true), (2, true), (3, true), (4, true), (5, true), (6, true), (7, true), (8, true), (9, true), (10, true)] mixed (by kernel_rfl) (by kernel_rfl) (by kernel_rfl) ?_
      refine VX_go3 (fs := []) (ok 0 _) eqs trivial 100 [39] rfl ?_ ?_
      · simp [allP]; omega
      refine VX_eq 33 rfl rfl (d' := .t 56 (.e rs[i].e)) (congrArg (fun x => D.t 56 (.e x)) (getD_rl hi)) ?_
      refine VX_eq 38 rfl rfl (d' := .t 56 (.e rs[i].e)) (congrArg (fun x => D.t 56 (.e x)) (getD_rl hi)) ?_
      refine VX_go3 (fs := []) (ok 0 _) eqs trivial 100 [] rfl (by simp [allP]) ?_
      refine VX_known 39 false rfl rfl (by simp [eq_rl]) ?_
      refine VX_go3 (fs := []) (ok 0 _) eqs trivial 100 [] rfl trivial ?_
      refine loop_nrm ⟨i + 1, by omega, by omega, ?_⟩
      exact wk1 rfl rfl (by simp [Blk.under, T.under]) (lc (li (by rw [ei])) (lc (ls rfl rfl) (lc (ls rfl rfl) (lc (ls rfl rfl) lnil))))
    · refine VX_go3 (fs := []) (ok 0 _) eqs trivial 100 [] rfl trivial ?_
      apply loop_brk
      refine VX_go3 (fs := []) (ok 0 _) eqs trivial 100 [] rfl trivial ?_
      refine VX_loopA (fun i : Nat => i ≤ es.length) (fun i => [(44, .t 3 (.e (.int i))), (43, .t 3 (.e (.int es.length))), (2, .ptr 0 []), (3, .ptr 1 [])]) (fun i => [.tree 40 (.e (gE rs es)), .tree 40 (.e (gE rs es))]) (fun i => es.length - i) 0 (by simp) ?_ ?_
      · exact wk1 rfl rfl (by simp [Blk.under, T.under]) (lc (ls rfl rfl) (lc (li (by simp)) (lc (ls rfl rfl) (lc (ls rfl rfl) lnil))))
      · intro i hi
        refine VX_go3 (fs := []) (ok 0 _) eqs trivial 100 [] rfl trivial ?_
        refine VX_split 45 rfl rfl (fun h => ?_) (fun h => ?_)
        · have hi : i < es.length := by simpa using h
          have ei : IntKind.wrap .i64 ((i : Int) + 1) = ((i + 1 : Nat) : Int) := by rw [w64 (by omega) (by omega)]; simp
          refine VX_go3 (fs := []) (ok 0 _) eqs trivial 100 [] rfl trivial ?_
          refine VX_draw [] [(0, true), (1, true), (2, true), (3, true), (4, true), (5, true), (6, true), (7, true), (8, true), (9, true), (10, true)] mixed (by kernel_rfl) (by kernel_rfl) (by kernel_rfl) ?_
          refine VX_go3 (fs := []) (ok 0 _) eqs trivial 100 [57] rfl ?_ ?_
          · simp [allP]; omega
          refine VX_eq 51 rfl rfl (d' := .t 70 (.e es[i].e)) (congrArg (fun x => D.t 70 (.e x)) (getD_en hi)) ?_
          refine VX_eq 56 rfl rfl (d' := .t 70 (.e es[i].e)) (congrArg (fun x => D.t 70 (.e x)) (getD_en hi)) ?_
          refine VX_go3 (fs := []) (ok 0 _) eqs trivial 100 [] rfl (by simp [allP]) ?_
          refine VX_known 57 false rfl rfl (by simp [eq_en]) ?_
          refine VX_go3 (fs := []) (ok 0 _) eqs trivial 100 [] rfl trivial ?_
          refine loop_nrm ⟨i + 1, by omega, by omega, ?_⟩
          exact wk1 rfl rfl (by simp [Blk.under, T.under]) (lc (li (by rw [ei])) (lc (ls rfl rfl) (lc (ls rfl rfl) (lc (ls rfl rfl) lnil))))
        · refine VX_go3 (fs := []) (ok 0 _) eqs trivial 100 [] rfl trivial ?_
          apply loop_brk
          refine VX_go3 (fs := []) (ok 0 _) eqs trivial 100 [] rfl trivial ?_
          exact ⟨.inr rfl, rfl⟩

def fewR (k : Nat) (r : Rl) : Bool := decide (k ≤ 60) && decide (r.nm.length ≤ 200)
def fewB (rs : List Rl) (es : List En) : Bool := rs.all (fewR rs.length) && es.all (fun x => decide (x.nm.length ≤ 200)) && (decide (es.length ≤ 100) || (decide (4094 ≤ es.length) && decide (es.length ≤ 4100)))
theorem few_ok (rs : List Rl) (es : List En) (hl : rs.length ≤ 9223372036854775807) (hle : es.length ≤ 9223372036854775807) : FnOk Try.prog tb 7 [25] [4] [gE rs es] [.bool (fewB rs es)] := by
  refine FnOk_of_V (fn := Try.f7) (bt := 4) (ok 0 _) Try.func7 rfl rfl rfl (by decide) fun hw => ?_
  apply V_of_VX
  have hlen : ((rs.map Rl.e).length : Int) = rs.length := by simp
  have hlen2 : ((es.map En.e).length : Int) = es.length := by simp
  refine VX_go3 (fs := []) (ok 0 _) eqs trivial 100 [] rfl trivial ?_
  refine VX_loopA (fun i : Nat => i ≤ rs.length ∧ (rs.take i).all (fewR rs.length) = true) (fun i => [(10, .t 3 (.e (.int i))), (9, .t 3 (.e (.int rs.length))), (8, .t 22 (.e (.sl (rs.map Rl.e)))), (1, .ptr 0 [])]) (fun i => [.tree 25 (.e (gE rs es))]) (fun i => rs.length - i) 0 (by simp) ?_ ?_
  · exact wk1 rfl rfl (by simp [Blk.under, T.under]) (lc (ls rfl rfl) (lc (li (by simp)) (lc (ls rfl rfl) (lc (ls rfl rfl) lnil))))
  · rintro i ⟨hi, hall⟩
    refine VX_go3 (fs := []) (ok 0 _) eqs trivial 100 [] rfl trivial ?_
    refine VX_split 11 rfl rfl (fun h => ?_) (fun h => ?_)
    · have hi : i < rs.length := by simpa using h
      have bad : fewR rs.length rs[i] = false → fewB rs es = false := fun hb => by
        have : rs.all (fewR rs.length) = false := by
          cases hq : rs.all (fewR rs.length) with
          | false => rfl
          | true => have := List.all_eq_true.1 hq _ (List.getElem_mem hi); rw [hb] at this; cases this
        simp [fewB, this]
      refine VX_go3 (fs := []) (ok 0 _) eqs trivial 100 [4] rfl ?_ ?_
      · simp [allP]; omega
      refine VX_eq 13 rfl rfl (d' := .t 47 (.e rs[i].e)) (congrArg (fun x => D.t 47 (.e x)) (getD_rl hi)) ?_
      refine VX_go3 (fs := []) (ok 0 _) eqs trivial 100 [] rfl trivial ?_
      refine VX_split 18 rfl rfl (fun h => ?_) (fun h => ?_)
      · have h : ¬ rs.length ≤ 60 := by simp at h; omega
        refine VX_go3 (fs := []) (ok 0 _) eqs trivial 100 [] rfl trivial ?_
        refine loop_ret ⟨.inr rfl, ?_⟩
        rw [bad (by simp [fewR, h])]; rfl
      · have h60 : rs.length ≤ 60 := by simp at h; omega
        refine VX_go3 (fs := []) (ok 0 _) eqs trivial 100 [] rfl trivial ?_
        refine VX_split 23 rfl rfl (fun h => ?_) (fun h => ?_)
        · have h : ¬ rs[i].nm.length ≤ 200 := by simp at h; omega
          refine VX_go3 (fs := []) (ok 0 _) eqs trivial 100 [] rfl trivial ?_
          refine loop_ret ⟨.inr rfl, ?_⟩
          rw [bad (by simp [fewR, h])]; rfl
        · have h : rs[i].nm.length ≤ 200 := by simp at h; omega
          have ei : IntKind.wrap .i64 ((i : Int) + 1) = ((i + 1 : Nat) : Int) := by rw [w64 (by omega) (by omega)]; simp
          refine VX_go3 (fs := []) (ok 0 _) eqs trivial 100 [] rfl trivial ?_
          refine loop_nrm ⟨i + 1, by omega, ⟨by omega, ?_⟩, ?_⟩
          · rw [List.take_add_one, List.getElem?_eq_getElem hi]; simp only [Option.toList_some, List.all_append, hall]; simp [fewR, h60, h]
          · exact wkc [.tree 47 (.e rs[i].e)] rfl rfl (by simp [Blk.under, T.under]) (lc (li (by rw [ei])) (lc (ls rfl rfl) (lc (ls rfl rfl) (lc (ls rfl rfl) lnil))))
    · have hi' : i = rs.length := by simp at h; omega
      subst hi'
      rw [List.take_length] at hall
      refine VX_go3 (fs := []) (ok 0 _) eqs trivial 100 [] rfl trivial ?_
      apply loop_brk
      refine VX_go3 (fs := []) (ok 0 _) eqs trivial 100 [] rfl trivial ?_
      refine VX_loopA (fun i : Nat => i ≤ es.length ∧ (es.take i).all (fun x => decide (x.nm.length ≤ 200)) = true) (fun i => [(28, .t 3 (.e (.int i))), (27, .t 3 (.e (.int es.length))), (26, .t 23 (.e (.sl (es.map En.e)))), (1, .ptr 0 [])]) (fun i => [.tree 25 (.e (gE rs es))]) (fun i => es.length - i) 0 (by simp) ?_ ?_
      · exact wk1 rfl rfl (by simp [Blk.under, T.under]) (lc (ls rfl rfl) (lc (li (by simp)) (lc (ls rfl rfl) (lc (ls rfl rfl) lnil))))
      · rintro i ⟨hi, hall2⟩
        refine VX_go3 (fs := []) (ok 0 _) eqs trivial 100 [] rfl trivial ?_
        refine VX_split 29 rfl rfl (fun h => ?_) (fun h => ?_)
        · have hi : i < es.length := by simpa using h
          refine VX_go3 (fs := []) (ok 0 _) eqs trivial 100 [6] rfl ?_ ?_
          · simp [allP]; omega
          refine VX_eq 31 rfl rfl (d' := .t 62 (.e es[i].e)) (congrArg (fun x => D.t 62 (.e x)) (getD_en hi)) ?_
          refine VX_go3 (fs := []) (ok 0 _) eqs trivial 100 [] rfl trivial ?_
          refine VX_split 35 rfl rfl (fun h => ?_) (fun h => ?_)
          · have h : ¬ es[i].nm.length ≤ 200 := by simp at h; omega
            refine VX_go3 (fs := []) (ok 0 _) eqs trivial 100 [] rfl trivial ?_
            refine loop_ret ⟨.inr rfl, ?_⟩
            have hb : es.all (fun x => decide (x.nm.length ≤ 200)) = false := by
              cases hq : es.all (fun x => decide (x.nm.length ≤ 200)) with
              | false => rfl
              | true => have := List.all_eq_true.1 hq _ (List.getElem_mem hi); simp at this; omega
            have : fewB rs es = false := by simp only [fewB, hb]; simp
            rw [this]; rfl
          · have h : es[i].nm.length ≤ 200 := by simp at h; omega
            have ei : IntKind.wrap .i64 ((i : Int) + 1) = ((i + 1 : Nat) : Int) := by rw [w64 (by omega) (by omega)]; simp
            refine VX_go3 (fs := []) (ok 0 _) eqs trivial 100 [] rfl trivial ?_
            refine loop_nrm ⟨i + 1, by omega, ⟨by omega, ?_⟩, ?_⟩
            · rw [List.take_add_one, List.getElem?_eq_getElem hi]; simp only [Option.toList_some, List.all_append, hall2]; simp [h]
            · exact wkc [.tree 62 (.e es[i].e)] rfl rfl (by simp [Blk.under, T.under]) (lc (li (by rw [ei])) (lc (ls rfl rfl) (lc (ls rfl rfl) (lc (ls rfl rfl) lnil))))
        · have hi' : i = es.length := by simp at h; omega
          subst hi'
          rw [List.take_length] at hall2
          have hf : fewB rs es = (decide (es.length ≤ 100) || (decide (4094 ≤ es.length) && decide (es.length ≤ 4100))) := by simp only [fewB, hall, hall2, Bool.true_and]
          refine VX_go3 (fs := []) (ok 0 _) eqs trivial 100 [] rfl trivial ?_
          apply loop_brk
          refine VX_go3 (fs := []) (ok 0 _) eqs trivial 100 [] rfl trivial ?_
          refine VX_split 41 rfl rfl (fun h => ?_) (fun h => ?_)
          · have h : es.length ≤ 100 := by simp at h; omega
            refine VX_go3 (fs := []) (ok 0 _) eqs trivial 100 [] rfl trivial ?_
            refine ⟨.inr rfl, ?_⟩
            rw [hf]; simp [h]; rfl
          · have h : ¬ es.length ≤ 100 := by simp at h; omega
            refine VX_go3 (fs := []) (ok 0 _) eqs trivial 100 [] rfl trivial ?_
            refine VX_split 46 rfl rfl (fun h2 => ?_) (fun h2 => ?_)
            · have h2 : 4094 ≤ es.length := by simp at h2; omega
              refine VX_go3 (fs := []) (ok 0 _) eqs trivial 100 [] rfl trivial ?_
              refine ⟨.inr rfl, ?_⟩
              have : fewB rs es = decide ((((es.map En.e).length : Nat) : Int) ≤ 4100) := by rw [hf]; simp [h, h2]; omega
              rw [this]; rfl
            · have h2 : ¬ 4094 ≤ es.length := by simp at h2; omega
              refine VX_go3 (fs := []) (ok 0 _) eqs trivial 100 [] rfl trivial ?_
              refine ⟨.inr rfl, ?_⟩
              have : fewB rs es = false := by rw [hf]; simp [h, h2]
              rw [this]; rfl

def r0 : Rl := ⟨1, [97], 5, 10⟩
theorem awake_ok : FnOk Try.prog tb 6 [] [4] [] [.bool true] := by
  refine FnOk_of_V (fn := Try.f6) (bt := 4) (ok 0 _) Try.func6 rfl rfl rfl (by decide) fun hw => ?_
  apply V_of_VX
  have ro : ∀ r ∈ [r0], r.ok := fun r hr => by rw [List.mem_singleton.1 hr]; exact ⟨by decide, by decide, by decide⟩
  have c1 := set_new [] [] r0 (by decide) (by decide) rfl (by decide) (by decide)
  have c2 := allow_ok [r0] [] 1 [97] 3 0 ro (fun x hx => by simp at hx) (by decide) (by decide) (by decide) (by decide)
  rw [show allowB [r0] [] 1 [97] 3 0 = ([⟨1, [97], 0, 3⟩], 0) by decide] at c2
  have eo : ∀ x ∈ ([⟨1, [97], 0, 3⟩] : List En), x.ok := fun x hx => by rw [List.mem_singleton.1 hx]; exact ⟨by decide, by decide, by decide⟩
  have c3 := allow_ok [r0] [⟨1, [97], 0, 3⟩] 1 [97] 3 9 ro eo (by decide) (by decide) (by decide) (by decide)
  rw [show allowB [r0] [⟨1, [97], 0, 3⟩] 1 [97] 3 9 = ([⟨1, [97], 0, 3⟩], 12) by decide] at c3
  have c4 := allow_ok [r0] [⟨1, [97], 0, 3⟩] 1 [97] 3 10 ro eo (by decide) (by decide) (by decide) (by decide)
  rw [show allowB [r0] [⟨1, [97], 0, 3⟩] 1 [97] 3 10 = ([⟨1, [97], 0, 3⟩, ⟨1, [97], 10, 3⟩], 0) by decide] at c4
  refine VX_go3 (fs := []) (ok 0 _) eqs trivial 100 [] rfl trivial ?_
  refine VX_callD (ok 0 _) [25, 47] [] rfl rfl rfl rfl rfl rfl c1.g rfl rfl rfl ?_
  refine VX_go3 (fs := []) (ok 0 _) eqs trivial 100 [] rfl trivial ?_
  refine VX_callD (ok 0 _) [25, 27, 9, 26, 26] [] rfl rfl rfl rfl rfl rfl c2.g rfl rfl rfl ?_
  refine VX_go3 (fs := []) (ok 0 _) eqs trivial 100 [] rfl trivial ?_
  refine VX_callD (ok 0 _) [25, 27, 9, 26, 26] [] rfl rfl rfl rfl rfl rfl c3.g rfl rfl rfl ?_
  refine VX_go3 (fs := []) (ok 0 _) eqs trivial 100 [] rfl trivial ?_
  refine VX_callD (ok 0 _) [25, 27, 9, 26, 26] [] rfl rfl rfl rfl rfl rfl c4.g rfl rfl rfl ?_
  refine VX_go3 (fs := []) (ok 0 _) eqs trivial 100 [] rfl trivial ?_
  refine VX_known 31 true rfl rfl (by decide) ?_
  refine VX_go3 (fs := []) (ok 0 _) eqs trivial 100 [] rfl trivial ?_
  refine VX_known 35 true rfl rfl (by decide) ?_
  refine VX_go3 (fs := []) (ok 0 _) eqs trivial 100 [] rfl trivial ?_
  refine VX_known 39 true rfl rfl (by decide) ?_
  refine VX_go3 (fs := []) (ok 0 _) eqs trivial 100 [42] rfl trivial ?_
  refine VX_known 41 true rfl rfl (by decide) ?_
  refine VX_go3 (fs := []) (ok 0 _) eqs trivial 100 [] rfl trivial ?_
  exact ⟨.inr rfl, rfl⟩
end Go.Den.Q34
