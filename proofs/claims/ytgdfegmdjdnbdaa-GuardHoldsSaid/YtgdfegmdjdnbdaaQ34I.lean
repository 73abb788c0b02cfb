/- Law 34: GuardHolds. -/
import Derived.Test.YtgdfegmdjdnbdaaQ34H
import Derived.Test.YtgdfegmdjdnbdaaDenFrm
namespace Go.Den.Q34
open Go Go.Den Go.Proofs
set_option maxRecDepth 8000
set_option linter.unusedVariables false

theorem wt_u16 {t : TypeId} {x : E} (h : Wt tb t x) (ht : td tb t = .int .u16) : ∃ n : Nat, x = .int n ∧ n < 65536 := by
  obtain ⟨n, rfl, hn⟩ := wt_int h ht
  simp only [inR, Bool.and_eq_true, decide_eq_true_eq] at hn
  exact ⟨n.toNat, by congr 1; omega, by omega⟩
structure Ak where
  p : Nat × Nat
  h : p.1 < 65536 ∧ p.2 < 18446744073709551616
theorem wt_ak {x : E} (h : Wt tb 50 x) : ∃ r : Ak, x = dn r.p := by
  obtain ⟨l, rfl, hl, hw⟩ := wt_st h rfl
  obtain ⟨a, b, rfl⟩ := list2 hl
  obtain ⟨n0, rfl, h0⟩ := wt_u16 (hw 0 _ a rfl rfl) rfl
  obtain ⟨n1, rfl, h1⟩ := wt_u64 (hw 1 _ b rfl rfl) rfl
  exact ⟨⟨(n0, n1), h0, h1⟩, rfl⟩
theorem getD_dn {p : List (Nat × Nat)} {i : Nat} (h : i < p.length) : (p.map dn).getD i .nilp = dn p[i] := by simp [List.getD, h]
theorem wu {x : Int} (h1 : 0 ≤ x) (h2 : x < 18446744073709551616) : IntKind.wrap .u64 x = x := inR_wrap (by simp [inR]; omega)

set_option maxHeartbeats 1600000 in
theorem holds_ok (x0 x1 x2 : E) : FnOk Try.prog tb 4 [26, 43, 44] [4] [x0, x1, x2] [.bool true] := by
  refine FnOk_of_V (fn := Try.f4) (bt := 4) (ok 0 _) Try.func4 rfl rfl rfl (by decide) fun hw => ?_
  obtain ⟨most, rfl, hmost⟩ := wt_u64 (hw 0 _ x0 rfl rfl) rfl
  obtain ⟨span, rfl, hspan⟩ := wt_u16 (hw 1 _ x1 rfl rfl) rfl
  have h2 := hw 2 _ x2 rfl rfl
  obtain ⟨aks, rfl, has⟩ := wt_sl h2 rfl
  obtain ⟨aks, rfl⟩ := map_ex fun y hy' => wt_ak (has y hy')
  obtain ⟨ks, hks, hb⟩ : ∃ ks : List (Nat × Nat), aks.map (fun r => dn r.p) = ks.map dn ∧ ∀ p ∈ ks, p.1 < 65536 ∧ p.2 < 18446744073709551616 := by
    refine ⟨aks.map Ak.p, by simp, fun p hp => ?_⟩
    obtain ⟨z, _, rfl⟩ := List.mem_map.1 hp; exact z.h
  rw [hks]
  clear hw h2 has hks aks
  apply V_of_VX
  refine VX_go3 (fs := []) (ok 0 _) eqs trivial 100 [] rfl trivial ?_
  refine VX_callD (ok 0 _) [] [] rfl rfl rfl rfl rfl rfl awake_ok.g rfl rfl rfl ?_
  refine VX_go3 (fs := []) (ok 0 _) eqs trivial 100 [] rfl trivial ?_
  refine VX_known 23 false rfl rfl rfl ?_
  refine VX_go3 (fs := []) (ok 0 _) eqs trivial 100 [] rfl trivial ?_
  refine VX_split 26 rfl rfl (fun h => ?_) (fun h => ?_)
  · refine VX_go3 (fs := []) (ok 0 _) eqs trivial 100 [] rfl trivial ?_
    exact ⟨.inr rfl, rfl⟩
  have hl : ks.length ≤ 30 := by
    have : ¬ (30 : Int) < (((ks.map dn).length : Nat) : Int) := by simpa using h
    simp only [List.length_map] at this; omega
  clear h
  have hsp : IntKind.wrap .u64 (span : Int) = span := wu (by omega) (by omega)
  refine VX_go3 (fs := []) (ok 0 _) eqs trivial 100 [32] rfl trivial ?_
  refine VX_eq 31 rfl rfl (d' := .t 26 (.e (.int span))) (congrArg (fun x => D.t 26 (.e (.int x))) hsp) ?_
  refine VX_go3 (fs := []) (ok 0 _) eqs trivial 100 [] rfl trivial ?_
  have c1 := (set_new [] [] (hr most span) (by decide) (by decide) rfl rfl (show (1 : Nat) ≤ 1000000 by decide)).g
  rw [List.nil_append] at c1
  refine VX_callD (ok 0 _) [25, 47] [] rfl rfl rfl rfl rfl rfl c1 rfl rfl rfl ?_
  refine VX_go3 (fs := []) (ok 0 _) eqs trivial 100 [] rfl trivial ?_
  refine VX_promote 10 (u := 52) rfl rfl ?_
  refine VX_loopA (fun a : Nat × Nat × List (Nat × Nat) => a.1 ≤ ks.length ∧ a.2.1 ≤ 65536 * a.1 ∧ a.2.2.length ≤ a.1 ∧ Inv most span a.2.1 a.2.2)
    (fun a => [(38, .t 3 (.e (.int a.1))), (37, .t 3 (.e (.int ks.length))), (36, .t 44 (.e (.sl (ks.map dn)))), (10, .t 48 (.lsl 1 (a.2.2.map dn))), (9, .t 26 (.e (.int a.2.1))), (7, .ptr 0 []), (1, .t 43 (.e (.int span))), (0, .t 26 (.e (.int most)))])
    (fun a => [.tree 25 (.e (gE [hr most span] (a.2.2.map mk))), .row 52 (a.2.2.map dn).length]) (fun a => ks.length - a.1) (0, 0, []) ⟨by simp, by simp, by simp, Inv.nil most span⟩ ?_ ?_
  · exact wk1 rfl rfl (by simp [Blk.under, T.under]) (lc (ls rfl rfl) (lc (li (by simp)) (lc (ls rfl rfl) (lc (ls rfl rfl) (lc (ls rfl rfl) (lc (ls rfl rfl) (lc (ls rfl rfl) (lc (ls rfl rfl) lnil))))))))
  · rintro ⟨i, now, l⟩ ⟨hi, hnow, hll, hinv⟩
    simp only at hi hnow hll hinv
    refine VX_go3 (fs := []) (ok 0 _) eqs trivial 100 [] rfl trivial ?_
    refine VX_split 39 rfl rfl (fun h => ?_) (fun h => ?_)
    · have hi : i < ks.length := by simpa using h
      have ei : IntKind.wrap .i64 ((i : Int) + 1) = ((i + 1 : Nat) : Int) := by rw [w64 (by omega) (by omega)]; simp
      obtain ⟨hw1, hw2⟩ := hb ks[i] (List.getElem_mem hi)
      refine VX_go3 (fs := []) (ok 0 _) eqs trivial 100 [12] rfl ?_ ?_
      · simp [allP]; omega
      refine VX_eq 41 rfl rfl (d' := .t 50 (.e (dn ks[i]))) (congrArg (fun x => D.t 50 (.e x)) (getD_dn hi)) ?_
      generalize hn : ks[i] = an at *
      obtain ⟨w, n⟩ := an
      simp only at hw1 hw2
      have e46 : IntKind.wrap .u64 ((now : Int) + IntKind.wrap .u64 (w : Int)) = ((now + w : Nat) : Int) := by rw [wu (x := w) (by omega) (by omega), wu (by omega) (by omega)]; simp
      refine VX_go3 (fs := []) (ok 0 _) eqs trivial 100 [9] rfl trivial ?_
      refine VX_eq 46 rfl rfl (d' := .t 26 (.e (.int (now + w : Nat)))) (congrArg (fun x => D.t 26 (.e (.int x))) e46) ?_
      refine VX_go3 (fs := []) (ok 0 _) eqs trivial 100 [] rfl trivial ?_
      have hinv := hinv.mono (show now ≤ now + w by omega)
      generalize hnw : now + w = now' at *
      have hnow' : now' ≤ 65536 * (i + 1) := by omega
      have hrs : ∀ r ∈ [hr most span], r.ok := fun r hr' => by rw [List.mem_singleton.1 hr']; exact ⟨by show 1 < _; decide, hmost, by show span < _; omega⟩
      have hes : ∀ x ∈ l.map mk, x.ok := fun x hx => by
        obtain ⟨z, hz, rfl⟩ := List.mem_map.1 hx
        have := hinv.le z hz
        exact ⟨by show 1 < _; decide, by show z.1 < _; omega, this.2⟩
      have c2 := (left_ok [hr most span] (l.map mk) 1 [97] now' hrs hes (by omega) (by simp; omega) (by simp)).g
      rw [left_hr hinv.cap hmost] at c2
      refine VX_callD (ok 0 _) [25, 27, 9, 26] [] rfl rfl rfl rfl rfl rfl c2 rfl rfl rfl ?_
      refine VX_go3 (fs := []) (ok 0 _) eqs trivial 100 [] rfl trivial ?_
      have c3 := (allow_ok [hr most span] (l.map mk) 1 [97] n now' hrs hes (by omega) (by omega) (by simp; omega) (by simp)).g
      rcases allow_hr (n := n) (now := now') hinv.cap hmost (by omega) with ⟨hle, ha⟩ | ⟨hgt, e, he, ha⟩
      · rw [ha] at c3
        refine VX_callD (ok 0 _) [25, 27, 9, 26, 26] [] rfl rfl rfl rfl rfl rfl c3 rfl rfl rfl ?_
        refine VX_go3 (fs := []) (ok 0 _) eqs trivial 100 [] rfl trivial ?_
        refine VX_known 63 false rfl rfl rfl ?_
        refine VX_go3 (fs := []) (ok 0 _) eqs trivial 100 [] rfl trivial ?_
        refine VX_known 71 false rfl rfl (by simp; omega) ?_
        refine VX_go3 (fs := []) (ok 0 _) eqs trivial 100 [] rfl trivial ?_
        refine VX_known 73 true rfl rfl (by simp) ?_
        refine VX_go3 (fs := []) (ok 0 _) eqs trivial 100 [] rfl trivial ?_
        refine VX_draw [0, 1] [(0, true), (1, true), (2, true), (3, true), (4, true), (5, true), (6, false), (7, false), (8, false), (9, true)] mixed (by kernel_rfl) (by kernel_rfl) (by kernel_rfl) ?_
        refine VX_go3 (fs := []) (ok 0 _) eqs trivial 100 [] rfl ?_ ?_
        · simp [allP]
        refine VX_litO (ok 0 _) rfl rfl rfl rfl rfl ?_
        refine VX_appendO (ok 0 _) rfl rfl rfl rfl rfl (by simp [nb, tb, maxL]; omega) rfl ?_
        refine VX_storeO (ok 0 _) rfl rfl rfl rfl rfl rfl (by simp) ?_
        refine VX_go3 (fs := []) (ok 0 _) eqs trivial 100 [] rfl trivial ?_
        refine loop_nrm ⟨(i + 1, now', l ++ [(now', n)]), by simp only; omega, ⟨by simp only; omega, by simp only; omega, by simp; omega, hinv.add hle hmost⟩, ?_⟩
        have he : (l ++ [(now', n)]).map dn = l.map dn ++ [.agg [.int now', .int n]] := by simp [dn]
        refine wkc [.tree 50 (.e (dn (w, n))), .tree 25 (.e (gE [hr most span] ((l ++ [(now', n)]).map mk)))] (by rw [he]; rfl) rfl (by simp [Blk.under, T.under]) (lc (li (by rw [ei])) (lc (ls rfl rfl) (lc (ls rfl rfl) (lc (ls (by rw [he]; rfl) rfl) (lc (ls rfl rfl) (lc (ls rfl rfl) (lc (ls rfl rfl) (lc (ls rfl rfl) lnil))))))))
      · rw [ha] at c3
        refine VX_callD (ok 0 _) [25, 27, 9, 26, 26] [] rfl rfl rfl rfl rfl rfl c3 rfl rfl rfl ?_
        refine VX_go3 (fs := []) (ok 0 _) eqs trivial 100 [] rfl trivial ?_
        refine VX_known 63 false rfl rfl rfl ?_
        refine VX_go3 (fs := []) (ok 0 _) eqs trivial 100 [] rfl trivial ?_
        refine VX_known 71 false rfl rfl (by have hcap := hinv.cap
                                             have : ¬ n ≤ most - cs span now' l := by omega
                                             simp [he]; omega) ?_
        refine VX_go3 (fs := []) (ok 0 _) eqs trivial 100 [] rfl trivial ?_
        refine VX_known 73 false rfl rfl (by simp [he]) ?_
        refine VX_go3 (fs := []) (ok 0 _) eqs trivial 100 [] rfl trivial ?_
        refine loop_nrm ⟨(i + 1, now', l), by simp only; omega, ⟨by simp only; omega, by simp only; omega, by simp only; omega, hinv⟩, ?_⟩
        refine wkc [.tree 50 (.e (dn (w, n))), .tree 25 (.e (gE [hr most span] (l.map mk)))] rfl rfl (by simp [Blk.under, T.under]) (lc (li (by rw [ei])) (lc (ls rfl rfl) (lc (ls rfl rfl) (lc (ls rfl rfl) (lc (ls rfl rfl) (lc (ls rfl rfl) (lc (ls rfl rfl) (lc (ls rfl rfl) lnil))))))))
    · refine VX_go3 (fs := []) (ok 0 _) eqs trivial 100 [] rfl trivial ?_
      apply loop_brk
      refine VX_go3 (fs := []) (ok 0 _) eqs trivial 100 [] rfl trivial ?_
      clear h
      refine VX_loopA (fun i : Nat => i ≤ l.length) (fun i => [(85, .t 3 (.e (.int i))), (84, .t 3 (.e (.int l.length))), (83, .t 48 (.e (.sl (l.map dn)))), (10, .t 48 (.e (.sl (l.map dn)))), (1, .t 43 (.e (.int span))), (0, .t 26 (.e (.int most)))]) (fun _ => []) (fun i => l.length - i) 0 (by simp) ?_ ?_
      · exact wkc [.tree 25 (.e (gE [hr most span] (l.map mk))), .row 52 (l.map dn).length] rfl rfl (by simp) (lc (ls rfl rfl) (lc (li (by simp)) (lc lrow (lc lrow (lc (ls rfl rfl) (lc (ls rfl rfl) lnil))))))
      · intro i hi'
        refine VX_go3 (fs := []) (ok 0 _) eqs trivial 100 [] rfl trivial ?_
        refine VX_split 86 rfl rfl (fun h => ?_) (fun h => ?_)
        · have hil : i < l.length := by simpa using h
          have ei : IntKind.wrap .i64 ((i : Int) + 1) = ((i + 1 : Nat) : Int) := by rw [w64 (by omega) (by omega)]; simp
          refine VX_go3 (fs := []) (ok 0 _) eqs trivial 100 [18] rfl ?_ ?_
          · simp [allP]; omega
          refine VX_eq 89 rfl rfl (d' := .t 52 (.e (dn l[i]))) (congrArg (fun x => D.t 52 (.e x)) (getD_dn hil)) ?_
          have hdr : ((l.map dn).take ((((l.map dn).length : Nat) : Int)).toNat).drop ((i : Int)).toNat = (l.drop i).map dn := by rw [Int.toNat_natCast, Int.toNat_natCast, List.take_length, List.map_drop]
          have hsplit : l = l.take i ++ l[i] :: l.drop (i + 1) := by
            rw [← List.drop_eq_getElem_cons hil, List.take_append_drop]
          have hdi : l.drop i = l[i] :: l.drop (i + 1) := List.drop_eq_getElem_cons hil
          have hwin := hinv.win _ _ _ hsplit
          rw [← hdi] at hwin
          have hge : ∀ p ∈ l.drop i, l[i].1 ≤ p.1 := by
            have hp := hinv.srt
            rw [hsplit, List.pairwise_append] at hp
            intro p hpm
            rw [hdi] at hpm
            rcases List.mem_cons.1 hpm with rfl | hpm
            · exact Nat.le_refl _
            · exact (List.pairwise_cons.1 hp.2.1).1 p hpm
          have hlb : ∀ p ∈ l.drop i, p.1 ≤ now ∧ p.2 < 18446744073709551616 := fun p hp => hinv.le p (List.mem_of_mem_drop hp)
          have hml : (l.drop i).length ≤ 30 := by simp; omega
          generalize l.drop i = m at hdr hwin hge hlb hml
          generalize hx : l[i] = x at hwin hge
          refine VX_go3 (fs := []) (ok 0 _) eqs trivial 100 [93] rfl ?_ ?_
          · simp [allP]; omega
          refine VX_eq 92 rfl rfl (d' := .t 48 (.e (.sl (m.map dn)))) (congrArg (fun x => D.t 48 (.e (.sl x))) hdr) ?_
          refine VX_go3 (fs := []) (ok 0 _) eqs trivial 100 [] rfl trivial ?_
          refine VX_loopA (fun a : Nat × Nat => a.1 ≤ m.length ∧ a.2 = ws span x.1 (m.take a.1)) (fun a => [(94, .t 3 (.e (.int a.1))), (93, .t 3 (.e (.int m.length))), (92, .t 48 (.e (.sl (m.map dn)))), (19, .t 26 (.e (.int a.2))), (18, .ptr 0 []), (85, .t 3 (.e (.int i))), (84, .t 3 (.e (.int l.length))), (83, .t 48 (.e (.sl (l.map dn)))), (10, .t 48 (.e (.sl (l.map dn)))), (1, .t 43 (.e (.int span))), (0, .t 26 (.e (.int most)))]) (fun _ => [.tree 52 (.e (dn x))]) (fun a => m.length - a.1) (0, 0) ⟨by simp, by simp [ws]⟩ ?_ ?_
          · exact wk1 rfl rfl (by simp [Blk.under, T.under]) (lc (ls rfl rfl) (lc (li (by simp)) (lc (ls rfl rfl) (lc (ls rfl rfl) (lc (ls rfl rfl) (lc (ls rfl rfl) (lc (ls rfl rfl) (lc (ls rfl rfl) (lc (ls rfl rfl) (lc (ls rfl rfl) (lc (ls rfl rfl) lnil)))))))))))
          · rintro ⟨j, s⟩ ⟨hj, hs⟩
            simp only at hj hs
            refine VX_go3 (fs := []) (ok 0 _) eqs trivial 100 [] rfl trivial ?_
            refine VX_split 95 rfl rfl (fun h => ?_) (fun h => ?_)
            · have hjl : j < m.length := by simpa using h
              have ej : IntKind.wrap .i64 ((j : Int) + 1) = ((j + 1 : Nat) : Int) := by rw [w64 (by omega) (by omega)]; simp
              have htk : m.take (j + 1) = m.take j ++ [m[j]] := by rw [List.take_add_one, List.getElem?_eq_getElem hjl]; rfl
              have hy := hge m[j] (List.getElem_mem hjl)
              have hyb := hlb m[j] (List.getElem_mem hjl)
              have hnx : ws span x.1 (m.take (j + 1)) = s + (if m[j].1 - x.1 < span then m[j].2 else 0) := by rw [htk, ws_app, ← hs]; simp [ws]
              have hlew : ws span x.1 (m.take (j + 1)) ≤ most := by
                have : ws span x.1 m = ws span x.1 (m.take (j + 1)) + ws span x.1 (m.drop (j + 1)) := by rw [← ws_app, List.take_append_drop]
                omega
              rw [hnx] at hlew
              refine VX_go3 (fs := []) (ok 0 _) eqs trivial 100 [21] rfl ?_ ?_
              · simp [allP]; omega
              refine VX_eq 97 rfl rfl (d' := .t 52 (.e (dn m[j]))) (congrArg (fun x => D.t 52 (.e x)) (getD_dn hjl)) ?_
              generalize m[j] = y at hy hyb hnx hlew ⊢
              have e102 : IntKind.wrap .u64 ((y.1 : Int) - (x.1 : Int)) = ((y.1 - x.1 : Nat) : Int) := by rw [wu (by omega) (by omega)]; omega
              refine VX_go3 (fs := []) (ok 0 _) eqs trivial 100 [105] rfl trivial ?_
              refine VX_eq 102 rfl rfl (d' := .t 26 (.e (.int (y.1 - x.1 : Nat)))) (congrArg (fun x => D.t 26 (.e (.int x))) e102) ?_
              refine VX_eq 104 rfl rfl (d' := .t 26 (.e (.int span))) (congrArg (fun x => D.t 26 (.e (.int x))) hsp) ?_
              refine VX_go3 (fs := []) (ok 0 _) eqs trivial 100 [] rfl trivial ?_
              refine VX_split 105 rfl rfl (fun h => ?_) (fun h => ?_)
              · have hlt : y.1 - x.1 < span := by
                  have : ((y.1 - x.1 : Nat) : Int) < span := by simpa using h
                  omega
                rw [if_pos hlt] at hnx hlew
                have e109 : IntKind.wrap .u64 ((s : Int) + (y.2 : Int)) = ((s + y.2 : Nat) : Int) := by rw [wu (by omega) (by omega)]; omega
                refine VX_go3 (fs := []) (ok 0 _) eqs trivial 100 [110] rfl trivial ?_
                refine VX_eq 109 rfl rfl (d' := .t 26 (.e (.int (s + y.2 : Nat)))) (congrArg (fun x => D.t 26 (.e (.int x))) e109) ?_
                refine VX_go3 (fs := []) (ok 0 _) eqs trivial 100 [] rfl trivial ?_
                refine VX_known 112 false rfl rfl (by simp; omega) ?_
                refine VX_go3 (fs := []) (ok 0 _) eqs trivial 100 [117] rfl trivial ?_
                refine VX_eq 116 rfl rfl (d' := .t 26 (.e (.int (s + y.2 : Nat)))) (congrArg (fun x => D.t 26 (.e (.int x))) e109) ?_
                refine VX_go3 (fs := []) (ok 0 _) eqs trivial 100 [] rfl trivial ?_
                refine VX_known 119 false rfl rfl (by simp; omega) ?_
                refine VX_go3 (fs := []) (ok 0 _) eqs trivial 100 [] rfl trivial ?_
                refine loop_nrm ⟨(j + 1, s + y.2), by simp only; omega, ⟨by simp only; omega, hnx.symm⟩, ?_⟩
                refine wkc [.tree 52 (.e (dn y))] rfl rfl (by simp [Blk.under, T.under]) (lc (li (by rw [ej])) (lc (ls rfl rfl) (lc (ls rfl rfl) (lc (li e109.symm) (lc (ls rfl rfl) (lc (ls rfl rfl) (lc (ls rfl rfl) (lc (ls rfl rfl) (lc (ls rfl rfl) (lc (ls rfl rfl) (lc (ls rfl rfl) lnil)))))))))))
              · have hlt : ¬ y.1 - x.1 < span := by
                  have : ¬ ((y.1 - x.1 : Nat) : Int) < span := by simpa using h
                  omega
                rw [if_neg hlt] at hnx hlew
                refine VX_go3 (fs := []) (ok 0 _) eqs trivial 100 [] rfl trivial ?_
                refine loop_nrm ⟨(j + 1, s), by simp only; omega, ⟨by simp only; omega, hnx.symm⟩, ?_⟩
                refine wkc [.tree 52 (.e (dn y))] rfl rfl (by simp [Blk.under, T.under]) (lc (li (by rw [ej])) (lc (ls rfl rfl) (lc (ls rfl rfl) (lc (ls rfl rfl) (lc (ls rfl rfl) (lc (ls rfl rfl) (lc (ls rfl rfl) (lc (ls rfl rfl) (lc (ls rfl rfl) (lc (ls rfl rfl) (lc (ls rfl rfl) lnil)))))))))))
            · refine VX_go3 (fs := []) (ok 0 _) eqs trivial 100 [] rfl trivial ?_
              apply loop_brk
              refine VX_go3 (fs := []) (ok 0 _) eqs trivial 100 [] rfl trivial ?_
              refine loop_nrm ⟨i + 1, by omega, by omega, ?_⟩
              exact wkc [.tree 52 (.e (dn x))] rfl rfl (by simp) (lc (li (by rw [ei])) (lc (ls rfl rfl) (lc (ls rfl rfl) (lc (ls rfl rfl) (lc (ls rfl rfl) (lc (ls rfl rfl) lnil))))))
        · refine VX_go3 (fs := []) (ok 0 _) eqs trivial 100 [] rfl trivial ?_
          apply loop_brk
          refine VX_go3 (fs := []) (ok 0 _) eqs trivial 100 [] rfl trivial ?_
          exact ⟨.inr rfl, rfl⟩
end Go.Den.Q34
