/- The calculus and the walks, part 8: Q34V, Q34W, Q34X, DenNewM, Q34Y, Q34K. -/
import Derived.Test.YtgdfegmdjdnbdaaP7
import Derived.Test.YtgdfegmdjdnbdaaP6
/- Law 34: the reference's guard. -/
namespace Go.Den.Q34
open Go Go.Den Go.Proofs
set_option maxRecDepth 8000
set_option linter.unusedVariables false
set_option linter.unusedSimpArgs false

def r00 : Rl := ⟨0, [], 0, 0⟩
def fR (o : Nat) (nm : List UInt8) : List Rl → Rl × Bool
  | [] => (r00, false)
  | r :: l => if hits o nm r = true then (r, true) else fR o nm l
theorem ridx_fR (o : Nat) (nm : List UInt8) : ∀ (l : List Rl) (k : Nat), (ridx o nm l k = -1 ∧ fR o nm l = (r00, false)) ∨ ∃ j r, l[j]? = some r ∧ ridx o nm l k = ((k + j : Nat) : Int) ∧ hits o nm r = true ∧ fR o nm l = (r, true)
  | [], k => .inl ⟨rfl, rfl⟩
  | r :: l, k => by
    unfold ridx fR
    by_cases h : hits o nm r = true
    · rw [if_pos h, if_pos h]; exact .inr ⟨0, r, rfl, rfl, h, rfl⟩
    · rw [if_neg h, if_neg h]
      rcases ridx_fR o nm l (k + 1) with ⟨h1, h2⟩ | ⟨j, r', h1, h2, h3, h4⟩
      · exact .inl ⟨h1, h2⟩
      · exact .inr ⟨j + 1, r', by simpa using h1, by rw [h2]; congr 1; omega, h3, h4⟩
theorem getD_rl' {p : List Rl} {i : Nat} (h : i < p.length) : (p.map Rl.e).getD i .nilp = (p.getD i r00).e := by simp [List.getD, h]
def e00 : En := ⟨0, [], 0, 0⟩
theorem getD_en' {p : List En} {i : Nat} (h : i < p.length) : (p.map En.e).getD i .nilp = (p.getD i e00).e := by simp [List.getD, h]
theorem drop_rl {p : List Rl} {i : Nat} (h : i < p.length) : p.drop i = p.getD i r00 :: p.drop (i + 1) := by rw [List.drop_eq_getElem_cons h]; simp [List.getD, h]
theorem drop_en {p : List En} {i : Nat} (h : i < p.length) : p.drop i = p.getD i e00 :: p.drop (i + 1) := by rw [List.drop_eq_getElem_cons h]; simp [List.getD, h]
theorem en_ok {es : List En} (hes : ∀ x ∈ es, x.ok) {i : Nat} (h : i < es.length) : (es.getD i e00).ok := by
  rw [List.getD, List.getElem?_eq_getElem h]; exact hes _ (List.getElem_mem _)

theorem fR_cons (o : Nat) (nm : List UInt8) (r : Rl) (l : List Rl) : fR o nm (r :: l) = if hits o nm r = true then (r, true) else fR o nm l := rfl
theorem sumF_cons (r : Rl) (now : Nat) (x : En) (xs : List En) (n : Nat) : sumF r now (x :: xs) n = if cnt x r now = true then if n + x.n < 18446744073709551616 then sumF r now xs (n + x.n) else (0, 10) else sumF r now xs n := rfl
set_option maxHeartbeats 800000 in
theorem rfind_ok (rs : List Rl) (es : List En) (o : Nat) (nm : List UInt8) (hl : rs.length ≤ 100000) : FnOk Try.prog tb 29 [40, 27, 9] [56, 4] [gE rs es, .int o, .str nm] [(fR o nm rs).1.e, .bool (fR o nm rs).2] := by
  refine FnOk_of_V (fn := Try.f29) (bt := 4) (ok 0 _) Try.func29 rfl rfl rfl (by decide) fun hw => ?_
  clear hw
  have hrm : (rs.map Rl.e).length = rs.length := by simp
  apply V_of_VX
  refine VX_go4 (fs := []) (ok 0 _) eqs trivial 100 [] rfl trivial ?_
  refine VX_loopA (fun i : Nat => i ≤ rs.length ∧ fR o nm (rs.drop i) = fR o nm rs) (fun i => [(13, .t 3 (.e (.int i))), (12, .t 3 (.e (.int rs.length))), (11, .t 37 (.e (.sl (rs.map Rl.e)))), (6, .ptr 1 []), (1, .t 27 (.e (.int o))), (2, .t 9 (.e (.str nm)))])
    (fun i => [.tree 40 (.e (gE rs es)), .tree 56 (.e r00.e)]) (fun i => rs.length - i) 0 ⟨by omega, by simp⟩ ?_ ?_
  · exact wk1 rfl rfl (by simp [Blk.under, T.under]) (lc (ls rfl rfl) (lc (li (by rw [hrm])) (lc (ls rfl rfl) (lc (ls rfl rfl) (lc (ls rfl rfl) (lc (ls rfl rfl) lnil))))))
  · rintro i ⟨hi, hpq⟩
    refine VX_go4 (fs := []) (ok 0 _) eqs trivial 100 [] rfl trivial ?_
    refine VX_split 14 rfl rfl (fun h => ?_) (fun h => ?_)
    · have hi : i < rs.length := by simpa using h
      have ei : IntKind.wrap .i64 ((i : Int) + 1) = ((i + 1 : Nat) : Int) := by rw [w64 (by omega) (by omega)]; simp
      have hg := getD_rl' hi
      rw [drop_rl hi] at hpq
      rw [fR_cons] at hpq
      generalize rs.getD i r00 = r at hg hpq
      obtain ⟨ro, rn, rm, rsp⟩ := r
      refine VX_go4 (fs := []) (ok 0 _) eqs trivial 100 [9] rfl (by simp [allP]; omega) ?_
      refine VX_eq 16 rfl rfl (d' := .t 56 (.e (Rl.e ⟨ro, rn, rm, rsp⟩))) (congrArg (fun x => D.t 56 (.e x)) hg) ?_
      refine VX_go4 (fs := []) (ok 0 _) eqs trivial 100 [] rfl trivial ?_
      by_cases h1 : ro = o
      · refine VX_known 21 true rfl rfl (by simp; omega) ?_
        refine VX_go4 (fs := []) (ok 0 _) eqs trivial 100 [] rfl trivial ?_
        by_cases h2 : rn = nm
        · have hh : hits o nm ⟨ro, rn, rm, rsp⟩ = true := by simp [hits, h1, h2]
          rw [if_pos hh] at hpq
          rw [← hpq]
          refine VX_known 26 true rfl rfl (by simp [h2]) ?_
          refine VX_go4 (fs := []) (ok 0 _) eqs trivial 100 [] rfl trivial ?_
          apply loop_ret
          exact ⟨.inr rfl, rfl⟩
        · have hh : ¬ hits o nm ⟨ro, rn, rm, rsp⟩ = true := by simp [hits, h2]
          rw [if_neg hh] at hpq
          refine VX_known 26 false rfl rfl (by simp [h2]) ?_
          refine VX_go4 (fs := []) (ok 0 _) eqs trivial 100 [] rfl trivial ?_
          refine loop_nrm ⟨i + 1, by omega, ⟨by omega, hpq⟩, ?_⟩
          exact wkc [.tree 56 (.e (Rl.e ⟨ro, rn, rm, rsp⟩))] rfl rfl (by simp [Blk.under, T.under]) (lc (li (by rw [ei])) (lc (ls rfl rfl) (lc (ls rfl rfl) (lc (ls rfl rfl) (lc (ls rfl rfl) (lc (ls rfl rfl) lnil))))))
      · have hh : ¬ hits o nm ⟨ro, rn, rm, rsp⟩ = true := by simp [hits, h1]
        rw [if_neg hh] at hpq
        refine VX_known 21 false rfl rfl (by simp; omega) ?_
        refine VX_go4 (fs := []) (ok 0 _) eqs trivial 100 [] rfl trivial ?_
        refine loop_nrm ⟨i + 1, by omega, ⟨by omega, hpq⟩, ?_⟩
        exact wkc [.tree 56 (.e (Rl.e ⟨ro, rn, rm, rsp⟩))] rfl rfl (by simp [Blk.under, T.under]) (lc (li (by rw [ei])) (lc (ls rfl rfl) (lc (ls rfl rfl) (lc (ls rfl rfl) (lc (ls rfl rfl) (lc (ls rfl rfl) lnil))))))
    · have hi' : i = rs.length := by simp at h; omega
      rw [hi', List.drop_length] at hpq
      rw [← hpq]
      refine VX_go4 (fs := []) (ok 0 _) eqs trivial 100 [] rfl trivial ?_
      apply loop_brk
      refine VX_go4 (fs := []) (ok 0 _) eqs trivial 100 [] rfl trivial ?_
      exact ⟨.inr rfl, rfl⟩
theorem rcounts1_ok (x : En) (r : Rl) (now : Nat) (hx : x.ok) (hr : r.ok) (hn : now < 18446744073709551616) : FnOk Try.prog tb 31 [70, 56, 26] [4] [x.e, r.e, .int now] [.bool (cnt x r now)] := by
  refine FnOk_of_V (fn := Try.f31) (bt := 4) (ok 0 _) Try.func31 rfl rfl rfl (by decide) fun hw => ?_
  clear hw
  obtain ⟨xo, xn, xa, xm⟩ := x
  obtain ⟨ro, rn, rm, rsp⟩ := r
  have ha := hx.at_
  have hs := hr.span
  unfold cnt
  simp only at ha hs ⊢
  apply V_of_VX
  refine VX_go4 (fs := []) (ok 0 _) eqs trivial 100 [] rfl trivial ?_
  by_cases h1 : xo = ro
  rotate_left
  · rw [decide_eq_false h1]
    simp only [Bool.false_and]
    refine VX_known 12 true rfl rfl (by simp; omega) ?_
    refine VX_go4 (fs := []) (ok 0 _) eqs trivial 100 [] rfl trivial ?_
    exact ⟨.inr rfl, rfl⟩
  rw [decide_eq_true h1, Bool.true_and]
  refine VX_known 12 false rfl rfl (by simp; omega) ?_
  refine VX_go4 (fs := []) (ok 0 _) eqs trivial 100 [] rfl trivial ?_
  by_cases h2 : xn = rn
  rotate_left
  · rw [decide_eq_false h2]
    simp only [Bool.false_and]
    refine VX_known 18 true rfl rfl (by simp [h2]) ?_
    refine VX_go4 (fs := []) (ok 0 _) eqs trivial 100 [] rfl trivial ?_
    exact ⟨.inr rfl, rfl⟩
  rw [decide_eq_true h2, Bool.true_and]
  refine VX_known 18 false rfl rfl (by simp [h2]) ?_
  refine VX_go4 (fs := []) (ok 0 _) eqs trivial 100 [] rfl trivial ?_
  by_cases h3 : now < xa
  · refine VX_known 22 true rfl rfl (by simp; omega) ?_
    refine VX_go4 (fs := []) (ok 0 _) eqs trivial 100 [] rfl trivial ?_
    rw [decide_eq_true (show now < xa + rsp by omega)]
    exact ⟨.inr rfl, rfl⟩
  · refine VX_known 22 false rfl rfl (by simp; omega) ?_
    have e26 : IntKind.wrap .u64 ((now : Int) - (xa : Int)) = ((now - xa : Nat) : Int) := by rw [inR_wrap (by simp [inR]; omega)]; omega
    refine VX_go4 (fs := []) (ok 0 _) eqs trivial 100 [27] rfl trivial ?_
    refine VX_eq 26 rfl rfl (d' := .t 26 (.e (.int (now - xa : Nat)))) (congrArg (fun x => D.t 26 (.e (.int x))) e26) ?_
    refine VX_go4 (fs := []) (ok 0 _) eqs trivial 100 [] rfl trivial ?_
    have : decide (now < xa + rsp) = decide (((now - xa : Nat) : Int) < (rsp : Int)) := by rw [decide_eq_decide]; omega
    rw [this]
    exact ⟨.inr rfl, rfl⟩
theorem radd_ok (x y : Nat) (hx : x < 18446744073709551616) (hy : y < 18446744073709551616) : FnOk Try.prog tb 38 [26, 26] [26, 3] [.int x, .int y] [.int (addB x y).1, .int (addB x y).2] := by
  refine FnOk_of_V (fn := Try.f38) (bt := 4) (ok 0 _) Try.func38 rfl rfl rfl (by decide) fun hw => ?_
  clear hw
  have e8 : IntKind.wrap .u64 (18446744073709551615 - (y : Int)) = ((18446744073709551615 - y : Nat) : Int) := by rw [inR_wrap (by simp [inR]; omega)]; omega
  apply V_of_VX
  refine VX_go4 (fs := []) (ok 0 _) eqs trivial 100 [9] rfl trivial ?_
  refine VX_eq 8 rfl rfl (d' := .t 26 (.e (.int (18446744073709551615 - y : Nat)))) (congrArg (fun x => D.t 26 (.e (.int x))) e8) ?_
  refine VX_go4 (fs := []) (ok 0 _) eqs trivial 100 [] rfl trivial ?_
  unfold addB
  by_cases h : x + y < 18446744073709551616
  · rw [if_pos h]
    have e12 : IntKind.wrap .u64 ((x : Int) + (y : Int)) = ((x + y : Nat) : Int) := by rw [inR_wrap (by simp [inR]; omega)]; rfl
    refine VX_known 9 false rfl rfl (by simp; omega) ?_
    refine VX_go4 (fs := []) (ok 0 _) eqs trivial 100 [4] rfl trivial ?_
    refine VX_eq 12 rfl rfl (d' := .t 26 (.e (.int (x + y : Nat)))) (congrArg (fun x => D.t 26 (.e (.int x))) e12) ?_
    refine VX_go4 (fs := []) (ok 0 _) eqs trivial 100 [] rfl trivial ?_
    exact ⟨.inr rfl, rfl⟩
  · rw [if_neg h]
    refine VX_known 9 true rfl rfl (by simp; omega) ?_
    refine VX_go4 (fs := []) (ok 0 _) eqs trivial 100 [] rfl trivial ?_
    exact ⟨.inr rfl, rfl⟩
set_option maxHeartbeats 800000 in
theorem rsum_ok (rs : List Rl) (es : List En) (r : Rl) (now v : Nat) (hes : ∀ x ∈ es, x.ok) (hr : r.ok) (hn : now < 18446744073709551616) (hv : v < 18446744073709551616) (hl : es.length ≤ 100000) :
    FnOk Try.prog tb 30 [40, 56, 26, 26] [26, 4] [gE rs es, r.e, .int now, .int v] [.int (sumF r now es v).1, .bool (decide ((sumF r now es v).2 = 0))] := by
  refine FnOk_of_V (fn := Try.f30) (bt := 4) (ok 0 _) Try.func30 rfl rfl rfl (by decide) fun hw => ?_
  clear hw
  have hrm : (es.map En.e).length = es.length := by simp
  apply V_of_VX
  refine VX_go4 (fs := []) (ok 0 _) eqs trivial 100 [] rfl trivial ?_
  refine VX_loopA (fun a : Nat × Nat => a.1 ≤ es.length ∧ a.2 < 18446744073709551616 ∧ sumF r now (es.drop a.1) a.2 = sumF r now es v) (fun a => [(19, .t 3 (.e (.int a.1))), (18, .t 3 (.e (.int es.length))), (17, .t 38 (.e (.sl (es.map En.e)))), (10, .t 26 (.e (.int a.2))), (5, .ptr 1 []), (2, .t 26 (.e (.int now)))])
    (fun _ => [.tree 40 (.e (gE rs es)), .tree 56 (.e r.e)]) (fun a => es.length - a.1) (0, v) ⟨by simp, hv, by simp⟩ ?_ ?_
  · exact wk1 rfl rfl (by simp [Blk.under, T.under]) (lc (ls rfl rfl) (lc (li (by rw [hrm])) (lc (ls rfl rfl) (lc (ls rfl rfl) (lc (ls rfl rfl) (lc (ls rfl rfl) lnil))))))
  · rintro ⟨i, n⟩ ⟨hi, hnn, hpq⟩
    simp only at hi hnn hpq
    refine VX_go4 (fs := []) (ok 0 _) eqs trivial 100 [] rfl trivial ?_
    refine VX_split 20 rfl rfl (fun h => ?_) (fun h => ?_)
    · have hi : i < es.length := by simpa using h
      have hxok := en_ok hes hi
      have ei : IntKind.wrap .i64 ((i : Int) + 1) = ((i + 1 : Nat) : Int) := by rw [w64 (by omega) (by omega)]; simp
      have hg := getD_en' hi
      rw [drop_en hi] at hpq
      rw [sumF_cons] at hpq
      generalize es.getD i e00 = x at hg hpq hxok
      have c1 := (rcounts1_ok x r now hxok hr hn).g
      generalize cnt x r now = cb at c1 hpq
      have c2 := (radd_ok n x.n hnn hxok.n).g
      obtain ⟨xo, xn, xa, xm⟩ := x
      simp only at hpq c2
      refine VX_go4 (fs := []) (ok 0 _) eqs trivial 100 [12] rfl (by simp [allP]; omega) ?_
      refine VX_eq 22 rfl rfl (d' := .t 70 (.e (En.e ⟨xo, xn, xa, xm⟩))) (congrArg (fun x => D.t 70 (.e x)) hg) ?_
      refine VX_go4 (fs := []) (ok 0 _) eqs trivial 100 [] rfl trivial ?_
      refine VX_callD (ok 0 _) [70, 56, 26] [] rfl rfl rfl rfl rfl rfl c1 rfl rfl rfl ?_
      refine VX_go4 (fs := []) (ok 0 _) eqs trivial 100 [] rfl trivial ?_
      cases cb with
      | false =>
        refine VX_known 26 false rfl rfl rfl ?_
        refine VX_go4 (fs := []) (ok 0 _) eqs trivial 100 [] rfl trivial ?_
        refine loop_nrm ⟨(i + 1, n), by simp only; omega, ⟨by simp only; omega, hnn, by simpa using hpq⟩, ?_⟩
        exact wkc [.tree 70 (.e (En.e ⟨xo, xn, xa, xm⟩))] rfl rfl (by simp [Blk.under, T.under]) (lc (li (by rw [ei])) (lc (ls rfl rfl) (lc (ls rfl rfl) (lc (ls rfl rfl) (lc (ls rfl rfl) (lc (ls rfl rfl) lnil))))))
      | true =>
        rw [if_pos rfl] at hpq
        refine VX_known 26 true rfl rfl rfl ?_
        refine VX_go4 (fs := []) (ok 0 _) eqs trivial 100 [] rfl trivial ?_
        refine VX_callD (ok 0 _) [26, 26] [] rfl rfl rfl rfl rfl rfl c2 rfl rfl rfl ?_
        by_cases hs : n + xm < 18446744073709551616
        · have hB : addB n xm = (n + xm, 0) := by simp only [addB, if_pos hs]
          rw [if_pos hs] at hpq
          rw [hB]
          refine VX_go4 (fs := []) (ok 0 _) eqs trivial 100 [] rfl trivial ?_
          refine VX_known 35 false rfl rfl rfl ?_
          refine VX_go4 (fs := []) (ok 0 _) eqs trivial 100 [] rfl trivial ?_
          refine loop_nrm ⟨(i + 1, n + xm), by simp only; omega, ⟨by simp only; omega, hs, hpq⟩, ?_⟩
          exact wkc [.tree 70 (.e (En.e ⟨xo, xn, xa, xm⟩))] rfl rfl (by simp [Blk.under, T.under]) (lc (li (by rw [ei])) (lc (ls rfl rfl) (lc (ls rfl rfl) (lc (ls rfl rfl) (lc (ls rfl rfl) (lc (ls rfl rfl) lnil))))))
        · have hB : addB n xm = (0, 10) := by simp only [addB, if_neg hs]
          rw [if_neg hs] at hpq
          rw [hB, ← hpq]
          refine VX_go4 (fs := []) (ok 0 _) eqs trivial 100 [] rfl trivial ?_
          refine VX_known 35 true rfl rfl rfl ?_
          refine VX_go4 (fs := []) (ok 0 _) eqs trivial 100 [] rfl trivial ?_
          apply loop_ret
          exact ⟨.inr rfl, rfl⟩
    · have hi' : i = es.length := by simp at h; omega
      rw [hi', List.drop_length] at hpq
      rw [← hpq]
      refine VX_go4 (fs := []) (ok 0 _) eqs trivial 100 [] rfl trivial ?_
      apply loop_brk
      refine VX_go4 (fs := []) (ok 0 _) eqs trivial 100 [] rfl trivial ?_
      exact ⟨.inr rfl, rfl⟩
end Go.Den.Q34
/- Law 34: the reference's guard, what is asked of it. -/
namespace Go.Den.Q34
open Go Go.Den Go.Proofs
set_option maxRecDepth 8000
set_option linter.unusedVariables false
set_option linter.unusedSimpArgs false

theorem fR_ok {rs : List Rl} (hrs : ∀ r ∈ rs, r.ok) (o : Nat) (nm : List UInt8) : (fR o nm rs).1.ok := by
  rcases ridx_fR o nm rs 0 with ⟨_, h⟩ | ⟨j, r, h1, _, _, h⟩
  · rw [h]; exact ⟨by simp [r00], by simp [r00], by simp [r00]⟩
  · rw [h]; exact hrs _ (List.mem_of_getElem? h1)
theorem countsB_eq (rs : List Rl) (es : List En) (o : Nat) (nm : List UInt8) (now : Nat) :
    countsB rs es o nm now = if (fR o nm rs).2 = true then ((sumF (fR o nm rs).1 now es 0).1, decide ((sumF (fR o nm rs).1 now es 0).2 = 0)) else (0, false) := by
  rcases ridx_fR o nm rs 0 with ⟨h1, h2⟩ | ⟨j, r, h1, h2, h3, h4⟩
  · unfold countsB; rw [h1, h2]; rfl
  · unfold countsB
    rw [h2, h4, Nat.zero_add, if_pos rfl]
    show (match rs[j]? with | some r => ((sumF r now es 0).1, decide ((sumF r now es 0).2 = 0)) | none => (0, false)) = _
    rw [h1]
theorem leftB_eq (rs : List Rl) (es : List En) (o : Nat) (nm : List UInt8) (now : Nat) :
    leftB rs es o nm now = if (fR o nm rs).2 = true then (if (sumF (fR o nm rs).1 now es 0).2 ≠ 0 then 0 else (subB (fR o nm rs).1.most (sumF (fR o nm rs).1 now es 0).1).1, true) else (0, false) := by
  rcases ridx_fR o nm rs 0 with ⟨h1, h2⟩ | ⟨j, r, h1, h2, h3, h4⟩
  · unfold leftB; rw [h1, h2]; rfl
  · unfold leftB
    rw [h2, h4, Nat.zero_add, if_pos rfl]
    show (match rs[j]? with | some r => (if (sumF r now es 0).2 ≠ 0 then 0 else (subB r.most (sumF r now es 0).1).1, true) | none => (0, false)) = _
    rw [h1]
theorem keepB_eq (rs : List Rl) (now : Nat) (x : En) : keepB rs now x = ((fR x.o x.nm rs).2 && cnt x (fR x.o x.nm rs).1 now) := by
  rcases ridx_fR x.o x.nm rs 0 with ⟨h1, h2⟩ | ⟨j, r, h1, h2, h3, h4⟩
  · unfold keepB; rw [h1, h2]; rfl
  · unfold keepB
    rw [h2, h4, Nat.zero_add]
    show (match rs[j]? with | some r => cnt x r now | none => false) = _
    rw [h1]; rfl
theorem allowB_eq (rs : List Rl) (es : List En) (o : Nat) (nm : List UInt8) (n now : Nat) :
    allowB rs es o nm n now = if (fR o nm rs).2 = true then allowR es (fR o nm rs).1 o nm n now (sumF (fR o nm rs).1 now es 0) else (es, 0) := by
  rcases ridx_fR o nm rs 0 with ⟨h1, h2⟩ | ⟨j, r, h1, h2, h3, h4⟩
  · unfold allowB; rw [h1, h2]; rfl
  · unfold allowB
    rw [h2, h4, Nat.zero_add, if_pos rfl]
    show (match rs[j]? with | some r => allowR es r o nm n now (sumF r now es 0) | none => (es, 0)) = _
    rw [h1]
/-- A sum from some number on. -/
theorem sumF_from (r : Rl) (now n : Nat) : ∀ (es : List En) (a : Nat), a < 18446744073709551616 →
    ((sumF r now es a).2 = 0 ∧ sumF r now es (a + n) = if (sumF r now es a).1 + n < 18446744073709551616 then ((sumF r now es a).1 + n, 0) else if a + n < 18446744073709551616 then (0, 10) else sumF r now es (a + n)) ∨
    ((sumF r now es a).2 = 10 ∧ (a + n < 18446744073709551616 → sumF r now es (a + n) = (0, 10)))
  | [], a, ha => by
    left
    simp only [sumF]
    refine ⟨trivial, ?_⟩
    split
    · rfl
    · rfl
  | x :: es, a, ha => by
    rw [sumF_cons, sumF_cons]
    by_cases hc : cnt x r now = true
    · rw [if_pos hc, if_pos hc]
      by_cases h1 : a + x.n < 18446744073709551616
      · rw [if_pos h1]
        rcases sumF_from r now n es (a + x.n) h1 with ⟨h2, h3⟩ | ⟨h2, h3⟩
        · left
          refine ⟨h2, ?_⟩
          by_cases h4 : (sumF r now es (a + x.n)).1 + n < 18446744073709551616
          · rw [if_pos h4] at h3 ⊢
            by_cases h5 : a + n + x.n < 18446744073709551616
            · rw [if_pos h5, show a + n + x.n = a + x.n + n by omega, h3]
            · exfalso
              have := sumF_ge r now es (a + x.n) h2
              omega
          · rw [if_neg h4] at h3 ⊢
            by_cases h6 : a + n < 18446744073709551616
            · rw [if_pos h6]
              by_cases h5 : a + n + x.n < 18446744073709551616
              · rw [if_pos h5, show a + n + x.n = a + x.n + n by omega, h3, if_pos (by omega)]
              · rw [if_neg h5]
            · rw [if_neg h6]
        · right
          refine ⟨h2, fun h6 => ?_⟩
          by_cases h5 : a + n + x.n < 18446744073709551616
          · rw [if_pos h5, show a + n + x.n = a + x.n + n by omega]
            exact h3 (by omega)
          · rw [if_neg h5]
      · rw [if_neg h1]
        right
        refine ⟨rfl, fun _ => ?_⟩
        rw [if_neg (by omega)]
    · rw [if_neg hc, if_neg hc]
      exact sumF_from r now n es a ha
where
  sumF_ge (r : Rl) (now : Nat) : ∀ (es : List En) (a : Nat), (sumF r now es a).2 = 0 → a ≤ (sumF r now es a).1
    | [], a, _ => Nat.le_refl _
    | x :: es, a, h => by
      rw [sumF_cons] at h ⊢
      split at h
      · split at h
        · rename_i h1 h2
          rw [if_pos h1, if_pos h2]
          have := sumF_ge r now es _ h
          omega
        · simp at h
      · rename_i h1
        rw [if_neg h1]
        exact sumF_ge r now es _ h

theorem rcountsG_ok (rs : List Rl) (es : List En) (o : Nat) (nm : List UInt8) (now : Nat) (hrs : ∀ r ∈ rs, r.ok) (hes : ∀ x ∈ es, x.ok) (hn : now < 18446744073709551616) (hl : es.length ≤ 10000) (hlr : rs.length ≤ 10000) :
    FnOk Try.prog tb 17 [40, 27, 9, 26] [26, 4] [gE rs es, .int o, .str nm, .int now] [.int (countsB rs es o nm now).1, .bool (countsB rs es o nm now).2] := by
  refine FnOk_of_V (fn := Try.f17) (bt := 4) (ok 0 _) Try.func17 rfl rfl rfl (by decide) fun hw => ?_
  clear hw
  rw [countsB_eq]
  have c1 := (rfind_ok rs es o nm (by omega)).g
  have c2 := (rsum_ok rs es (fR o nm rs).1 now 0 hes (fR_ok hrs o nm) hn (by omega) (by omega)).g
  generalize (fR o nm rs).2 = b at c1 ⊢
  generalize (fR o nm rs).1 = r at c1 c2 ⊢
  generalize sumF r now es 0 = s at c2 ⊢
  obtain ⟨ro, rn, rm, rsp⟩ := r
  apply V_of_VX
  refine VX_go4 (fs := []) (ok 0 _) eqs trivial 100 [] rfl trivial ?_
  refine VX_callD (ok 0 _) [40, 27, 9] [] rfl rfl rfl rfl rfl rfl c1 rfl rfl rfl ?_
  refine VX_go4 (fs := []) (ok 0 _) eqs trivial 100 [] rfl trivial ?_
  cases b with
  | false =>
    refine VX_known 20 true rfl rfl rfl ?_
    refine VX_go4 (fs := []) (ok 0 _) eqs trivial 100 [] rfl trivial ?_
    exact ⟨.inr rfl, rfl⟩
  | true =>
    refine VX_known 20 false rfl rfl rfl ?_
    refine VX_go4 (fs := []) (ok 0 _) eqs trivial 100 [] rfl trivial ?_
    refine VX_callD (ok 0 _) [40, 56, 26, 26] [] rfl rfl rfl rfl rfl rfl c2 rfl rfl rfl ?_
    refine VX_go4 (fs := []) (ok 0 _) eqs trivial 100 [] rfl trivial ?_
    exact ⟨.inr rfl, rfl⟩
theorem rleft_ok (rs : List Rl) (es : List En) (o : Nat) (nm : List UInt8) (now : Nat) (hrs : ∀ r ∈ rs, r.ok) (hes : ∀ x ∈ es, x.ok) (hn : now < 18446744073709551616) (hl : es.length ≤ 10000) (hlr : rs.length ≤ 10000) :
    FnOk Try.prog tb 18 [40, 27, 9, 26] [26, 4] [gE rs es, .int o, .str nm, .int now] [.int (leftB rs es o nm now).1, .bool (leftB rs es o nm now).2] := by
  refine FnOk_of_V (fn := Try.f18) (bt := 4) (ok 0 _) Try.func18 rfl rfl rfl (by decide) fun hw => ?_
  clear hw
  rw [leftB_eq]
  have c1 := (rfind_ok rs es o nm (by omega)).g
  have hro := fR_ok hrs o nm
  have c2 := (rsum_ok rs es (fR o nm rs).1 now 0 hes hro hn (by omega) (by omega)).g
  generalize (fR o nm rs).2 = b at c1 ⊢
  generalize (fR o nm rs).1 = r at c1 c2 hro ⊢
  have hsl := sumF_lt r now es 0 (by omega)
  generalize sumF r now es 0 = s at c2 hsl ⊢
  obtain ⟨s1, s2⟩ := s
  have hm := hro.most
  obtain ⟨ro, rn, rm, rsp⟩ := r
  simp only at hm hsl c2 ⊢
  apply V_of_VX
  refine VX_go4 (fs := []) (ok 0 _) eqs trivial 100 [] rfl trivial ?_
  refine VX_callD (ok 0 _) [40, 27, 9] [] rfl rfl rfl rfl rfl rfl c1 rfl rfl rfl ?_
  refine VX_go4 (fs := []) (ok 0 _) eqs trivial 100 [] rfl trivial ?_
  cases b with
  | false =>
    refine VX_known 22 true rfl rfl rfl ?_
    refine VX_go4 (fs := []) (ok 0 _) eqs trivial 100 [] rfl trivial ?_
    exact ⟨.inr rfl, rfl⟩
  | true =>
    rw [if_pos rfl]
    refine VX_known 22 false rfl rfl rfl ?_
    refine VX_go4 (fs := []) (ok 0 _) eqs trivial 100 [] rfl trivial ?_
    refine VX_callD (ok 0 _) [40, 56, 26, 26] [] rfl rfl rfl rfl rfl rfl c2 rfl rfl rfl ?_
    refine VX_go4 (fs := []) (ok 0 _) eqs trivial 100 [] rfl trivial ?_
    by_cases hs : s2 = 0
    · rw [if_neg (by simp [hs])]
      refine VX_known 32 false rfl rfl (by simp [hs]) ?_
      refine VX_go4 (fs := []) (ok 0 _) eqs trivial 100 [] rfl trivial ?_
      unfold subB
      by_cases hq : rm < s1
      · rw [if_pos hq]
        refine VX_known 37 true rfl rfl (by simp; omega) ?_
        refine VX_go4 (fs := []) (ok 0 _) eqs trivial 100 [] rfl trivial ?_
        exact ⟨.inr rfl, rfl⟩
      · rw [if_neg hq]
        have e41 : IntKind.wrap .u64 ((rm : Int) - (s1 : Int)) = ((rm - s1 : Nat) : Int) := by rw [inR_wrap (by simp [inR]; omega)]; omega
        refine VX_known 37 false rfl rfl (by simp; omega) ?_
        refine VX_go4 (fs := []) (ok 0 _) eqs trivial 100 [8] rfl trivial ?_
        refine VX_eq 41 rfl rfl (d' := .t 26 (.e (.int (rm - s1 : Nat)))) (congrArg (fun x => D.t 26 (.e (.int x))) e41) ?_
        refine VX_go4 (fs := []) (ok 0 _) eqs trivial 100 [] rfl trivial ?_
        exact ⟨.inr rfl, rfl⟩
    · rw [if_pos (by simp [hs])]
      refine VX_known 32 true rfl rfl (by simp [hs]) ?_
      refine VX_go4 (fs := []) (ok 0 _) eqs trivial 100 [] rfl trivial ?_
      exact ⟨.inr rfl, rfl⟩
end Go.Den.Q34
/- Law 34: the reference's guard, swept; asked to allow. -/
namespace Go.Den.Q34
open Go Go.Den Go.Proofs
set_option maxRecDepth 8000
set_option linter.unusedVariables false
set_option linter.unusedSimpArgs false

set_option maxHeartbeats 1600000 in
theorem rsweep_ok (rs : List Rl) (es : List En) (now : Nat) (hrs : ∀ r ∈ rs, r.ok) (hes : ∀ x ∈ es, x.ok) (hn : now < 18446744073709551616) (hl : es.length ≤ 10000) (hlr : rs.length ≤ 10000) :
    FnOk Try.prog tb 19 [40, 26] [40] [gE rs es, .int now] [gE rs (es.filter (keepB rs now))] := by
  refine FnOk_of_V (fn := Try.f19) (bt := 4) (ok 0 _) Try.func19 rfl rfl rfl (by decide) fun hw => ?_
  clear hw
  have hrm : (es.map En.e).length = es.length := by simp
  apply V_of_VX
  refine VX_go4 (fs := []) (ok 0 _) eqs trivial 100 [] rfl trivial ?_
  refine VX_promote 5 (u := 70) rfl rfl ?_
  refine VX_loopA (fun i : Nat => i ≤ es.length) (fun i => [(13, .t 3 (.e (.int i))), (12, .t 3 (.e (.int es.length))), (11, .t 38 (.e (.sl (es.map En.e)))), (5, .t 38 (.lsl 2 (((es.take i).filter (keepB rs now)).map En.e))), (2, .ptr 0 []), (4, .ptr 1 []), (1, .t 26 (.e (.int now)))])
    (fun i => [.tree 40 (.e (gE rs es)), .tree 40 (.st [.nsl, .nsl]), .row 70 (((es.take i).filter (keepB rs now)).map En.e).length]) (fun i => es.length - i) 0 (by omega) ?_ ?_
  · exact wk1 rfl rfl (by simp [Blk.under, T.under, T.unders]) (lc (ls rfl rfl) (lc (li (by rw [hrm])) (lc (ls rfl rfl) (lc (ls rfl rfl) (lc (ls rfl rfl) (lc (ls rfl rfl) (lc (ls rfl rfl) lnil)))))))
  · intro i hi
    have htl : (((es.take i).filter (keepB rs now)).map En.e).length ≤ 10000 := by
      have := List.length_filter_le (keepB rs now) (es.take i)
      simp only [List.length_map]
      have h2 : (es.take i).length ≤ es.length := by simp; omega
      omega
    refine VX_go4 (fs := []) (ok 0 _) eqs trivial 100 [] rfl trivial ?_
    refine VX_split 14 rfl rfl (fun h => ?_) (fun h => ?_)
    · have hi : i < es.length := by simpa using h
      have ei : IntKind.wrap .i64 ((i : Int) + 1) = ((i + 1 : Nat) : Int) := by rw [w64 (by omega) (by omega)]; simp
      have hxok := en_ok hes hi
      have hg := getD_en' hi
      have htk : es.take (i + 1) = es.take i ++ [es.getD i e00] := by rw [List.take_add_one, List.getElem?_eq_getElem hi]; simp [List.getD, hi]
      have hk := keepB_eq rs now (es.getD i e00)
      have hm : ((es.take (i + 1)).filter (keepB rs now)).map En.e = ((es.take i).filter (keepB rs now)).map En.e ++ (if keepB rs now (es.getD i e00) = true then [(es.getD i e00).e] else []) := by
        rw [htk, List.filter_append, List.map_append]
        congr 1
        generalize es.getD i e00 = y
        by_cases hky : keepB rs now y = true
        · simp [hky]
        · simp [hky]
      generalize es.getD i e00 = x at hxok hg hk hm
      have c1 := (rfind_ok rs es x.o x.nm (by omega)).g
      have c2 := (rcounts1_ok x (fR x.o x.nm rs).1 now hxok (fR_ok hrs x.o x.nm) hn).g
      generalize (fR x.o x.nm rs).2 = fb at c1 hk
      generalize (fR x.o x.nm rs).1 = fr at c1 c2 hk
      generalize cnt x fr now = cb at c2 hk
      rw [hk] at hm
      obtain ⟨ro, rn, rm, rsp⟩ := fr
      obtain ⟨xo, xn, xa, xm⟩ := x
      simp only at c1
      generalize ((es.take i).filter (keepB rs now)).map En.e = O at hm htl ⊢
      refine VX_go4 (fs := []) (ok 0 _) eqs trivial 100 [7] rfl (by simp [allP]; omega) ?_
      refine VX_eq 16 rfl rfl (d' := .t 70 (.e (En.e ⟨xo, xn, xa, xm⟩))) (congrArg (fun x => D.t 70 (.e x)) hg) ?_
      refine VX_go4 (fs := []) (ok 0 _) eqs trivial 100 [] rfl trivial ?_
      refine VX_callD (ok 0 _) [40, 27, 9] [] rfl rfl rfl rfl rfl rfl c1 rfl rfl rfl ?_
      refine VX_go4 (fs := []) (ok 0 _) eqs trivial 100 [] rfl trivial ?_
      cases fb with
      | false =>
        rw [Bool.false_and, if_neg (by simp), List.append_nil] at hm
        refine VX_known 27 false rfl rfl rfl ?_
        refine VX_go4 (fs := []) (ok 0 _) eqs trivial 100 [] rfl trivial ?_
        refine loop_nrm ⟨i + 1, by omega, by omega, ?_⟩
        exact wkc [.tree 70 (.e (En.e ⟨xo, xn, xa, xm⟩)), .tree 56 (.e (Rl.e ⟨ro, rn, rm, rsp⟩))] (by rw [hm]; rfl) rfl (by simp [Blk.under, T.under, T.unders]) (lc (li (by rw [ei])) (lc (ls rfl rfl) (lc (ls rfl rfl) (lc (ls (by rw [hm]; rfl) rfl) (lc (ls rfl rfl) (lc (ls rfl rfl) (lc (ls rfl rfl) lnil)))))))
      | true =>
      refine VX_known 27 true rfl rfl rfl ?_
      refine VX_go4 (fs := []) (ok 0 _) eqs trivial 100 [] rfl trivial ?_
      refine VX_callD (ok 0 _) [70, 56, 26] [] rfl rfl rfl rfl rfl rfl c2 rfl rfl rfl ?_
      refine VX_go4 (fs := []) (ok 0 _) eqs trivial 100 [] rfl trivial ?_
      cases cb with
      | false =>
        rw [Bool.and_false, if_neg (by simp), List.append_nil] at hm
        refine VX_known 32 false rfl rfl rfl ?_
        refine VX_go4 (fs := []) (ok 0 _) eqs trivial 100 [] rfl trivial ?_
        refine loop_nrm ⟨i + 1, by omega, by omega, ?_⟩
        exact wkc [.tree 70 (.e (En.e ⟨xo, xn, xa, xm⟩)), .tree 56 (.e (Rl.e ⟨ro, rn, rm, rsp⟩))] (by rw [hm]; rfl) rfl (by simp [Blk.under, T.under, T.unders]) (lc (li (by rw [ei])) (lc (ls rfl rfl) (lc (ls rfl rfl) (lc (ls (by rw [hm]; rfl) rfl) (lc (ls rfl rfl) (lc (ls rfl rfl) (lc (ls rfl rfl) lnil)))))))
      | true =>
        rw [Bool.and_true, if_pos rfl] at hm
        refine VX_known 32 true rfl rfl rfl ?_
        refine VX_go4 (fs := []) (ok 0 _) eqs trivial 100 [] rfl (by simp [allP, nb, tb, maxL]; omega) ?_
        refine loop_nrm ⟨i + 1, by omega, by omega, ?_⟩
        exact wkc [.tree 70 (.e (En.e ⟨xo, xn, xa, xm⟩)), .tree 56 (.e (Rl.e ⟨ro, rn, rm, rsp⟩))] (by rw [hm]; rfl) rfl (by simp [Blk.under, T.under, T.unders]) (lc (li (by rw [ei])) (lc (ls rfl rfl) (lc (ls rfl rfl) (lc (ls (by rw [hm]; rfl) rfl) (lc (ls rfl rfl) (lc (ls rfl rfl) (lc (ls rfl rfl) lnil)))))))
    · have hi' : i = es.length := by simp at h; omega
      subst hi'
      rw [List.take_length]
      refine VX_go4 (fs := []) (ok 0 _) eqs trivial 100 [] rfl trivial ?_
      apply loop_brk
      refine VX_go4 (fs := []) (ok 0 _) eqs trivial 100 [] rfl trivial ?_
      exact ⟨.inr rfl, rfl⟩
set_option maxHeartbeats 1600000 in
theorem rallow_ok (rs : List Rl) (es : List En) (o : Nat) (nm : List UInt8) (n now : Nat) (hrs : ∀ r ∈ rs, r.ok) (hes : ∀ x ∈ es, x.ok) (hn : n < 18446744073709551616) (hnow : now < 18446744073709551616) (hl : es.length ≤ 10000) (hlr : rs.length ≤ 10000) :
    FnOk Try.prog tb 16 [40, 27, 9, 26, 26] [40, 3] [gE rs es, .int o, .str nm, .int n, .int now] [gE rs (allowB rs es o nm n now).1, .int (allowB rs es o nm n now).2] := by
  refine FnOk_of_V (fn := Try.f16) (bt := 4) (ok 0 _) Try.func16 rfl rfl rfl (by decide) fun hw => ?_
  clear hw
  have hrm : (es.map En.e).length = es.length := by simp
  rw [allowB_eq]
  have c1 := (rfind_ok rs es o nm (by omega)).g
  have hro := fR_ok hrs o nm
  have c2 := (rsum_ok rs es (fR o nm rs).1 now n hes hro hnow hn (by omega)).g
  generalize (fR o nm rs).2 = b at c1 ⊢
  generalize (fR o nm rs).1 = r at c1 c2 hro ⊢
  have hsl := sumF_lt r now es 0 (by omega)
  have hsf := sumF_from r now n es 0 (by omega)
  rw [Nat.zero_add] at hsf
  obtain ⟨s1, s2, hs0⟩ : ∃ s1 s2, sumF r now es 0 = (s1, s2) := ⟨_, _, rfl⟩
  rw [hs0] at hsl hsf ⊢
  generalize sumF r now es n = z at c2 hsf
  obtain ⟨z1, z2⟩ := z
  obtain ⟨ro, rn, rm, rsp⟩ := r
  simp only at hsl hsf c2 ⊢
  unfold allowR addB
  simp only
  apply V_of_VX
  refine VX_go4 (fs := []) (ok 0 _) eqs trivial 100 [] rfl trivial ?_
  refine VX_callD (ok 0 _) [40, 27, 9] [] rfl rfl rfl rfl rfl rfl c1 rfl rfl rfl ?_
  refine VX_go4 (fs := []) (ok 0 _) eqs trivial 100 [] rfl trivial ?_
  cases b with
  | false =>
    refine VX_known 25 true rfl rfl rfl ?_
    refine VX_go4 (fs := []) (ok 0 _) eqs trivial 100 [] rfl trivial ?_
    exact ⟨.inr rfl, rfl⟩
  | true =>
  rw [if_pos rfl]
  refine VX_known 25 false rfl rfl rfl ?_
  refine VX_go4 (fs := []) (ok 0 _) eqs trivial 100 [] rfl trivial ?_
  refine VX_callD (ok 0 _) [40, 56, 26, 26] [] rfl rfl rfl rfl rfl rfl c2 rfl rfl rfl ?_
  refine VX_go4 (fs := []) (ok 0 _) eqs trivial 100 [] rfl trivial ?_
  rcases hsf with ⟨h2, h3⟩ | ⟨h2, h3⟩
  · subst h2
    rw [if_neg (by simp)]
    by_cases hq : s1 + n < 18446744073709551616
    · rw [if_pos hq] at h3
      simp only [Prod.mk.injEq] at h3
      obtain ⟨rfl, rfl⟩ := h3
      rw [if_pos hq, if_neg (by simp)]
      simp only
      refine VX_known 36 false rfl rfl rfl ?_
      refine VX_go4 (fs := []) (ok 0 _) eqs trivial 100 [] rfl trivial ?_
      by_cases hm : rm < s1 + n
      · rw [if_pos hm]
        refine VX_known 41 true rfl rfl (by simp; omega) ?_
        refine VX_go4 (fs := []) (ok 0 _) eqs trivial 100 [] rfl trivial ?_
        exact ⟨.inr rfl, rfl⟩
      rw [if_neg hm]
      refine VX_known 41 false rfl rfl (by simp; omega) ?_
      refine VX_go4 (fs := []) (ok 0 _) eqs trivial 100 [] rfl trivial ?_
      by_cases hf : 4096 ≤ es.length
      · rw [if_pos hf]
        refine VX_known 46 true rfl rfl (by rw [hrm]; simp; omega) ?_
        refine VX_go4 (fs := []) (ok 0 _) eqs trivial 100 [] rfl trivial ?_
        exact ⟨.inr rfl, rfl⟩
      rw [if_neg hf]
      have hap : (es ++ [(⟨o, nm, now, n⟩ : En)]).map En.e = es.map En.e ++ [En.e ⟨o, nm, now, n⟩] := by simp
      refine VX_known 46 false rfl rfl (by rw [hrm]; simp; omega) ?_
      refine VX_go4 (fs := []) (ok 0 _) eqs trivial 100 [] rfl (by simp [allP, nb, tb, maxL]; omega) ?_
      refine ⟨.inr rfl, ?_⟩
      unfold gE
      rw [hap]; rfl
    · rw [if_neg hq, if_pos hn] at h3
      simp only [Prod.mk.injEq] at h3
      obtain ⟨rfl, rfl⟩ := h3
      rw [if_neg hq, if_pos (by simp)]
      refine VX_known 36 true rfl rfl rfl ?_
      refine VX_go4 (fs := []) (ok 0 _) eqs trivial 100 [] rfl trivial ?_
      exact ⟨.inr rfl, rfl⟩
  · subst h2
    have h3 := h3 hn
    simp only [Prod.mk.injEq] at h3
    obtain ⟨rfl, rfl⟩ := h3
    rw [if_pos (by simp)]
    refine VX_known 36 true rfl rfl rfl ?_
    refine VX_go4 (fs := []) (ok 0 _) eqs trivial 100 [] rfl trivial ?_
    exact ⟨.inr rfl, rfl⟩
end Go.Den.Q34
/- An append to an empty list that is written to afterwards. -/
namespace Go.Den
open Go
set_option linter.unusedSectionVars false
set_option linter.unusedSimpArgs false
set_option linter.unusedVariables false
section
variable {C : Cx} {o : Oper} {env : Env} {σ : List Blk}
theorem OpV_appendNewM (hC : Ok C) {x y : Operand} {t t2 u tx : TypeId} {ys : List E} (ho : o.op = .call { callee := .builtin .append, args := #[x, y], argTypes := #[t, t2] }) (ht : td C.tb t = .sl u) (hz : plain C.tb zf u = true) (hs0 : Nat.beq (sz C.tb u) 0 = false)
    (hx : opd C.tb env t x = some (.t tx (.bsl []))) (hys : SrcAt C env σ t t2 y ys) (hne : 0 < ys.length) (hp : ys.length * nb C.tb u ≤ maxL ∧ ys.length ≤ maxL) :
    OpV C o env σ (fun d s => d = .t t (.msl σ.length ys.length) ∧ s = σ ++ [.mrow u true ys]) := by
  intro H β a w hr he hd K Qx hK
  have hs0' : sz C.tb u ≠ 0 := Nat.ne_of_beq_eq_false hs0
  have hvx := opd_rel he hx
  obtain ⟨h2, hlx, news, hnr, hnew⟩ := hys H β a w u ht hr he
  have hv0 : ∃ b off, a.eval x = .slice (some ⟨b, off, none⟩) 0 0 := by
    generalize a.eval x = vx at hvx ⊢
    cases hvx with
    | @t ty v cs z aa bb => cases bb with
      | @bsl t0 u0 b off xs b1 b2 =>
        have a' := aa
        simp [VC, isAggT, b1] at a'
        exact ⟨b, off, a'.symm⟩
  obtain ⟨b0, off0, hv0⟩ := hv0
  have hnews : ∀ w', (∀ b o v, w.cell? ⟨b, o, none⟩ = some v → w'.cell? ⟨b, o, none⟩ = some v) → (Builtin.firstCells (sz C.tb u) ys.length (a.eval y)).run C.P w' = .ok news.toArray w' := fun w' h => by
    have := hnew ys.length (Nat.le_refl _) w' h
    rwa [← hnr.len, List.take_length] at this
  have hrun := run_append_any hC (ty := o.type) ht hz (ba := some ⟨b0, off0, none⟩) (n := 0) (cap := 0) (m := ys.length) (x := a.eval y) (olds := []) (news := news) (w := w) h2 hlx (fun _ _ => trivial) hnews (by simp)
    (fun b off ha j v hj => by simp at hj) (fun ha => by cases ha) (fun aa haa => by cases haa; rfl) hnr.len (hnr.one hC.tab) (fun hr => by omega) (by simpa using hp.1) (by simpa using hp.2)
  rcases hrun with ⟨h, _⟩ | ⟨_, nc, zs, h1, hzl, hrun⟩
  · omega
  simp only [Nat.zero_add, List.nil_append] at h1 hzl hrun
  let ob : Obj := .cells (news ++ zs).toArray u
  have hlen : (news ++ zs).length = nc * sz C.tb u := by
    rw [List.length_append, hnr.len, hzl, ← Nat.add_mul]; congr 1; omega
  let f : Nat → Own := fun o => if o < (news ++ zs).length then .mine σ.length else .none
  obtain ⟨hr2, hev⟩ := hr.drew.alloc ob f [.slice (some ⟨w.heap.size, 0, none⟩) ys.length nc] [.mrow u true ys] rfl (fun o v hv => by
      have hv' : (if o < (news ++ zs).length then Own.mine σ.length else .none) = .pers v := hv
      split at hv' <;> cases hv') (fun i k bv hk hv => by
    have hi : i = 0 := by have := (List.getElem?_eq_some_iff.1 hk).1; simp at this; omega
    subst hi
    simp at hk hv; subst hk; subst hv
    refine .inr ⟨w.heap.size, nc, news, zs, rfl, ⟨h1, by omega⟩, maxL_N hp.2, ?_, hlen, fun _ => ?_, fun j v hj => ?_⟩
    · refine ⟨hnr.len, fun i x hx => (hnr.el i x hx).mono fun b o v hb => ?_⟩
      have := hr.dom b o (by rw [hb]; simp)
      show hAlloc H w.heap.size f b o = _
      rw [hAlloc_old (by omega)]; exact hb
    · show (w.drew.alloc ob).shape? w.drew.heap.size = _
      rw [shape?_alloc_new]; simp only [List.size_toArray, hlen]
    · have hjl : j < (news ++ zs).length := (List.getElem?_eq_some_iff.1 hj).1
      refine ⟨?_, ?_, ?_⟩
      · have := World.cell?_alloc_new w.drew (news ++ zs).toArray u j
        show (w.drew.alloc ob).cell? ⟨w.drew.heap.size, j, none⟩ = _
        rw [this]; simpa using hj
      · show hAlloc H w.heap.size f w.heap.size j = _
        rw [hAlloc_new]; show (if j < (news ++ zs).length then Own.mine σ.length else .none) = _
        rw [if_pos hjl]; simp
      · exact World.frozen?_alloc_new w.drew _ _ _)
  have hstp : Stp H w _ (w.drew.alloc ob) := (Stp.drew H w).trans (Stp.alloc (w := w.drew) hr.dom ob f)
  have hex : (execOp a.eval o).run C.P w = .ok (.value (.slice (some ⟨w.heap.size, 0, none⟩) ys.length nc)) (w.drew.alloc ob) := by
    rw [opdArgs2 ho, hv0]
    simp [builtin, hrun, ob]
  simp only [Oper.wp, hex, Oper.upon]
  refine hK _ _ _ _ _ _ ⟨rfl, rfl⟩ hr2 ?_ hstp hev
  refine .t (cs := [.slice (some ⟨w.heap.size, 0, none⟩) ys.length nc]) (by simp [VC, isAggT, ht]) (.msl ht ⟨_, _, rfl, maxL_N hp.2⟩ ⟨true, ys, by simp, Nat.le_refl _, fun _ => by simp [← hr.len]⟩)
end
end Go.Den
/- Law 34: a rule set, by both. -/
namespace Go.Den.Q34
open Go Go.Den Go.Proofs
set_option maxRecDepth 8000
set_option linter.unusedVariables false
set_option linter.unusedSimpArgs false

def repF (r : Rl) : List Rl → List Rl
  | [] => [r]
  | x :: l => if hits r.o r.nm x = true then r :: l else x :: repF r l
theorem repF_cons (r x : Rl) (l : List Rl) : repF r (x :: l) = if hits r.o r.nm x = true then r :: l else x :: repF r l := rfl
theorem rep_cases (r : Rl) : ∀ (l : List Rl) (k : Nat), (ridx r.o r.nm l k = -1 ∧ (fR r.o r.nm l).2 = false ∧ repF r l = l ++ [r]) ∨
    ∃ j, j < l.length ∧ ridx r.o r.nm l k = ((k + j : Nat) : Int) ∧ (fR r.o r.nm l).2 = true ∧ repF r l = l.set j r
  | [], k => .inl ⟨rfl, rfl, rfl⟩
  | x :: l, k => by
    unfold ridx
    rw [fR_cons, repF_cons]
    by_cases h : hits r.o r.nm x = true
    · rw [if_pos h, if_pos h, if_pos h]; exact .inr ⟨0, by simp, rfl, rfl, rfl⟩
    · rw [if_neg h, if_neg h, if_neg h]
      rcases rep_cases r l (k + 1) with ⟨h1, h2, h3⟩ | ⟨j, h1, h2, h3, h4⟩
      · exact .inl ⟨h1, h2, by rw [h3]; rfl⟩
      · exact .inr ⟨j + 1, by simp; omega, by rw [h2]; congr 1; omega, h3, by rw [h4]; rfl⟩
def setB (rs : List Rl) (r : Rl) : List Rl × Int :=
  if nameB r.nm = false then (rs, 7) else if (fR r.o r.nm rs).2 = true then (repF r rs, 0) else if 32 ≤ rs.length then (rs, 6) else (repF r rs, 0)
theorem cloneR_m (q : List E) (h0 : 0 < q.length) (hq : q.length ≤ 100000) : FnG Try.prog tb 22 [] [.t 22 (.e (.sl q))] (fun d s => d = .t 22 (.msl 0 q.length) ∧ s = [.mrow 47 true q]) := by
  refine FnG_of_V (fn := Try.f22) (bt := 4) true [0] [22] (ok 0 _) Try.func22 rfl rfl rfl fun _ _ _ _ _ _ => ?_
  apply V_of_VX
  refine VX_go4 (fs := []) (ok 0 _) eqs trivial 100 [] rfl trivial ?_
  refine VX_op rfl rfl (OpV_nilS (ok 0 _) rfl (.inl rfl) rfl rfl rfl rfl) ?_
  rintro d s ⟨b, hb, rfl, rfl⟩
  refine VX_go4 (fs := []) (ok 0 _) eqs trivial 100 [] rfl trivial ?_
  refine VX_split 4 rfl rfl (fun h => ?_) (fun h => ?_)
  · have := hb h
    rw [this] at h0; simp at h0
  · refine VX_go4 (fs := []) (ok 0 _) eqs trivial 100 [7] rfl trivial ?_
    refine VX_op rfl rfl (OpV_appendNewM (ok 0 _) rfl rfl rfl rfl rfl (SrcAt_E (ok 0 _) (ys := q) rfl rfl) h0 (by simp [nb, tb, maxL]; omega)) ?_
    rintro d s ⟨rfl, rfl⟩
    refine VX_go4 (fs := []) (ok 0 _) eqs trivial 100 [] rfl trivial ?_
    exact ⟨.inr rfl, _, _, _, rfl, rfl, rfl, rfl, rfl⟩
set_option maxHeartbeats 1600000 in
theorem set_ok (rs : List Rl) (es : List En) (r : Rl) (hnl : r.nm.length ≤ 900000) (hlr : rs.length ≤ 10000) (hl : es.length ≤ 10000) : FnOk Try.prog tb 13 [25, 47] [25, 31] [gE rs es, r.e] [gE (setB rs r).1 es, .int (setB rs r).2] := by
  refine FnOk_of_V (fn := Try.f13) (bt := 4) (ok 0 _) Try.func13 rfl rfl rfl (by decide) fun hw => ?_
  clear hw
  have hrm : (rs.map Rl.e).length = rs.length := by simp
  have c1 := (rule_ok rs es r.o r.nm (by omega)).g
  have c2 := (name_ok r.nm (by omega)).g
  have c5 := (cloneE_ok (es.map En.e) (by simp; omega)).g
  have hrc := rep_cases r rs 0
  have hc4 := cloneR_row (rs.map Rl.e) (by simp; omega)
  unfold setB
  generalize nameB r.nm = nb0 at c2 ⊢
  generalize (fR r.o r.nm rs).2 = fb at hrc ⊢
  generalize repF r rs = rp at hrc ⊢
  generalize ridx r.o r.nm rs 0 = ix at c1 hrc
  obtain ⟨ro, rn, rm, rsp⟩ := r
  simp only at c1 c2
  apply V_of_VX
  refine VX_go4 (fs := []) (ok 0 _) eqs trivial 100 [] rfl trivial ?_
  refine VX_callD (ok 0 _) [25, 27, 9] [] rfl rfl rfl rfl rfl rfl c1 rfl rfl rfl ?_
  refine VX_go4 (fs := []) (ok 0 _) eqs trivial 100 [] rfl trivial ?_
  refine VX_callD (ok 0 _) [9] [] rfl rfl rfl rfl rfl rfl c2 rfl rfl rfl ?_
  cases nb0 with
  | false =>
    refine VX_known 17 false rfl rfl rfl ?_
    refine VX_go4 (fs := []) (ok 0 _) eqs trivial 100 [] rfl trivial ?_
    exact ⟨.inr rfl, rfl⟩
  | true =>
  rw [if_neg (by simp)]
  refine VX_known 17 true rfl rfl rfl ?_
  refine VX_go4 (fs := []) (ok 0 _) eqs trivial 100 [] rfl trivial ?_
  rcases hrc with ⟨rfl, rfl, rfl⟩ | ⟨j, hj, rfl, rfl, rfl⟩
  · rw [if_neg (by simp)]
    refine VX_known 23 true rfl rfl rfl ?_
    refine VX_go4 (fs := []) (ok 0 _) eqs trivial 100 [] rfl trivial ?_
    by_cases hf : 32 ≤ rs.length
    · rw [if_pos hf]
      refine VX_known 20 true rfl rfl (by rw [hrm]; simp; omega) ?_
      refine VX_go4 (fs := []) (ok 0 _) eqs trivial 100 [] rfl trivial ?_
      exact ⟨.inr rfl, rfl⟩
    rw [if_neg hf]
    refine VX_known 20 false rfl rfl (by rw [hrm]; simp; omega) ?_
    refine VX_go4 (fs := []) (ok 0 _) eqs trivial 100 [] rfl trivial ?_
    refine VX_callD (ok 0 _) [22] [] rfl rfl rfl rfl rfl rfl hc4 rfl rfl rfl ?_
    refine VX_go4 (fs := []) (ok 0 _) eqs trivial 100 [] rfl trivial ?_
    refine VX_known 34 false rfl rfl rfl ?_
    refine VX_go4 (fs := []) (ok 0 _) eqs trivial 100 [] rfl (by simp [allP, nb, tb, maxL]; omega) ?_
    refine VX_callD (ok 0 _) [23] [] rfl rfl rfl rfl rfl rfl c5 rfl rfl rfl ?_
    refine VX_go4 (fs := []) (ok 0 _) eqs trivial 100 [] rfl trivial ?_
    refine ⟨.inr rfl, ?_⟩
    have he : gE (rs ++ [⟨ro, rn, rm, rsp⟩]) es = .agg [.sl (rs.map Rl.e ++ [Rl.e ⟨ro, rn, rm, rsp⟩]), .sl (es.map En.e)] := by simp [gE]
    show _ = some [gE (rs ++ [⟨ro, rn, rm, rsp⟩]) es, E.int 0]
    rw [he]; rfl
  · rw [if_pos rfl]
    rw [Nat.zero_add]
    have c4 := cloneR_m (rs.map Rl.e) (by simp; omega) (by simp; omega)
    have hst : (rs.set j ⟨ro, rn, rm, rsp⟩).map Rl.e = (rs.map Rl.e).set j (Rl.e ⟨ro, rn, rm, rsp⟩) := by simp [List.map_set]
    have hsl : ((rs.map Rl.e).set j (Rl.e ⟨ro, rn, rm, rsp⟩)).length = (rs.map Rl.e).length := by simp
    refine VX_known 23 false rfl rfl (by simp) ?_
    refine VX_go4 (fs := []) (ok 0 _) eqs trivial 100 [] rfl trivial ?_
    refine VX_callD (ok 0 _) [22] [] rfl rfl rfl rfl rfl rfl c4 rfl rfl rfl ?_
    refine VX_go4 (fs := []) (ok 0 _) eqs trivial 100 [] rfl trivial ?_
    refine VX_known 34 true rfl rfl (by simp) ?_
    refine VX_go4 (fs := []) (ok 0 _) eqs trivial 100 [43] rfl (by simp [allP]; omega) ?_
    refine VX_frz rfl 3 rfl rfl ?_
    refine VX_mE rfl 7 rfl rfl hsl.symm ?_
    refine VX_go4 (fs := []) (ok 0 _) eqs trivial 100 [] rfl trivial ?_
    refine VX_callD (ok 0 _) [23] [] rfl rfl rfl rfl rfl rfl c5 rfl rfl rfl ?_
    refine VX_go4 (fs := []) (ok 0 _) eqs trivial 100 [] rfl trivial ?_
    refine ⟨.inr rfl, ?_⟩
    show _ = some [gE (rs.set j ⟨ro, rn, rm, rsp⟩) es, E.int 0]
    unfold gE
    rw [hst]; rfl
set_option maxHeartbeats 1600000 in
theorem rset_ok (rs : List Rl) (es : List En) (r : Rl) (hnl : r.nm.length ≤ 900000) (hlr : rs.length ≤ 10000) (hl : es.length ≤ 10000) : FnOk Try.prog tb 15 [40, 56] [40, 3] [gE rs es, r.e] [gE (setB rs r).1 es, .int (setB rs r).2] := by
  refine FnOk_of_V (fn := Try.f15) (bt := 4) (ok 0 _) Try.func15 rfl rfl rfl (by decide) fun hw => ?_
  clear hw
  have hrm : (rs.map Rl.e).length = rs.length := by simp
  have c1 := (rfind_ok rs es r.o r.nm (by omega)).g
  have c2 := (rname_ok r.nm (by omega)).g
  unfold setB
  generalize nameB r.nm = nb0 at c2 ⊢
  generalize (fR r.o r.nm rs).2 = fb at c1 ⊢
  generalize (fR r.o r.nm rs).1 = fr at c1
  obtain ⟨fo, fn, fm, fsp⟩ := fr
  have hrp : ∀ l x, repF r (x :: l) = if hits r.o r.nm x = true then r :: l else x :: repF r l := fun l x => rfl
  have hrn : repF r [] = [r] := rfl
  have hre : r.e = Rl.e ⟨r.o, r.nm, r.most, r.span⟩ := rfl
  generalize hrr : repF r = rp at hrp hrn
  obtain ⟨ro, rn, rm, rsp⟩ := r
  simp only at c1 c2 hrp
  apply V_of_VX
  refine VX_go4 (fs := []) (ok 0 _) eqs trivial 100 [] rfl trivial ?_
  refine VX_callD (ok 0 _) [9] [] rfl rfl rfl rfl rfl rfl c2 rfl rfl rfl ?_
  refine VX_go4 (fs := []) (ok 0 _) eqs trivial 100 [] rfl trivial ?_
  cases nb0 with
  | false =>
    refine VX_known 15 true rfl rfl rfl ?_
    refine VX_go4 (fs := []) (ok 0 _) eqs trivial 100 [] rfl trivial ?_
    exact ⟨.inr rfl, rfl⟩
  | true =>
  rw [if_neg (by simp)]
  refine VX_known 15 false rfl rfl rfl ?_
  refine VX_go4 (fs := []) (ok 0 _) eqs trivial 100 [] rfl trivial ?_
  refine VX_callD (ok 0 _) [40, 27, 9] [] rfl rfl rfl rfl rfl rfl c1 rfl rfl rfl ?_
  refine VX_go4 (fs := []) (ok 0 _) eqs trivial 100 [] rfl trivial ?_
  by_cases hbad : fb = false ∧ 32 ≤ rs.length
  · obtain ⟨rfl, hf⟩ := hbad
    rw [if_neg (by simp), if_pos hf]
    refine VX_known 28 true rfl rfl rfl ?_
    refine VX_go4 (fs := []) (ok 0 _) eqs trivial 100 [] rfl trivial ?_
    refine VX_known 33 true rfl rfl (by rw [hrm]; simp; omega) ?_
    refine VX_go4 (fs := []) (ok 0 _) eqs trivial 100 [] rfl trivial ?_
    exact ⟨.inr rfl, rfl⟩
  have hval : (if fb = true then (rp rs, (0 : Int)) else if 32 ≤ rs.length then (rs, 6) else (rp rs, 0)) = (rp rs, 0) := by
    cases fb with
    | true => rfl
    | false => rw [if_neg (by simp), if_neg (fun h => hbad ⟨rfl, h⟩)]
  rw [hval]
  simp only
  refine VX_viaB [(2, .ptr 0 []), (3, .ptr 1 []), (4, .ptr 2 [])] [.tree 40 (.e (gE rs es)), .tree 56 (.e (Rl.e ⟨ro, rn, rm, rsp⟩)), .tree 40 (.st [.nsl, .nsl])] rfl ?_ (fun hr => ?_)
  rotate_left
  · cases fb with
    | true =>
      refine VX_known 28 false rfl rfl rfl ?_
      refine VX_go4 (fs := []) (ok 0 _) eqs trivial 100 [8] rfl trivial ?_
      exact VX_weakS rfl (wkc [.tree 56 (.e (Rl.e ⟨fo, fn, fm, fsp⟩))] rfl rfl (by simp [Blk.under, T.under, T.unders]) (lc (ls rfl rfl) (lc (ls rfl rfl) (lc (ls rfl rfl) lnil)))) hr
    | false =>
      have hf : ¬ 32 ≤ rs.length := fun h => hbad ⟨rfl, h⟩
      refine VX_known 28 true rfl rfl rfl ?_
      refine VX_go4 (fs := []) (ok 0 _) eqs trivial 100 [] rfl trivial ?_
      refine VX_known 33 false rfl rfl (by rw [hrm]; simp; omega) ?_
      refine VX_go4 (fs := []) (ok 0 _) eqs trivial 100 [8] rfl trivial ?_
      exact VX_weakS rfl (wkc [.tree 56 (.e (Rl.e ⟨fo, fn, fm, fsp⟩))] rfl rfl (by simp [Blk.under, T.under, T.unders]) (lc (ls rfl rfl) (lc (ls rfl rfl) (lc (ls rfl rfl) lnil)))) hr
  clear c1 c2 hval hbad
  refine VX_go4 (fs := []) (ok 0 _) eqs trivial 100 [] rfl trivial ?_
  refine VX_promote 8 (u := 56) rfl rfl ?_
  refine VX_loopA (fun a : Nat × Bool × List Rl => a.1 ≤ rs.length ∧ a.2.2.length = a.1 ∧ a.2.2 ++ (if a.2.1 = true then rs.drop a.1 else rp (rs.drop a.1)) = rp rs)
    (fun a => [(38, .t 3 (.e (.int a.1))), (37, .t 3 (.e (.int rs.length))), (36, .t 37 (.e (.sl (rs.map Rl.e)))), (9, .t 4 (.e (.bool a.2.1))), (8, .t 37 (.lsl 3 (a.2.2.map Rl.e))), (2, .ptr 0 []), (3, .ptr 1 []), (4, .ptr 2 [])])
    (fun a => [.tree 40 (.e (gE rs es)), .tree 56 (.e (Rl.e ⟨ro, rn, rm, rsp⟩)), .tree 40 (.st [.nsl, .nsl]), .row 56 (a.2.2.map Rl.e).length]) (fun a => rs.length - a.1) (0, false, []) ⟨by simp, rfl, by simp⟩ ?_ ?_
  · exact wk1 rfl rfl (by simp [Blk.under, T.under, T.unders]) (lc (ls rfl rfl) (lc (li (by rw [hrm])) (lc (ls rfl rfl) (lc lkb (lc (ls rfl rfl) (lc (ls rfl rfl) (lc (ls rfl rfl) (lc (ls rfl rfl) lnil))))))))
  · rintro ⟨i, dn, O⟩ ⟨hi, hO, hpq⟩
    simp only at hi hO hpq
    have hOm : (O.map Rl.e).length ≤ 10000 := by simp; omega
    refine VX_go4 (fs := []) (ok 0 _) eqs trivial 100 [] rfl trivial ?_
    refine VX_split 39 rfl rfl (fun h => ?_) (fun h => ?_)
    · have hi : i < rs.length := by simpa using h
      have ei : IntKind.wrap .i64 ((i : Int) + 1) = ((i + 1 : Nat) : Int) := by rw [w64 (by omega) (by omega)]; simp
      have hg := getD_rl' hi
      rw [drop_rl hi] at hpq
      generalize rs.getD i r00 = x at hg hpq
      obtain ⟨xo, xn, xm, xsp⟩ := x
      have hm : ∀ y : Rl, (O ++ [y]).map Rl.e = O.map Rl.e ++ [y.e] := fun y => by simp
      refine VX_go4 (fs := []) (ok 0 _) eqs trivial 100 [11] rfl (by simp [allP]; omega) ?_
      refine VX_eq 41 rfl rfl (d' := .t 56 (.e (Rl.e ⟨xo, xn, xm, xsp⟩))) (congrArg (fun x => D.t 56 (.e x)) hg) ?_
      refine VX_go4 (fs := []) (ok 0 _) eqs trivial 100 [] rfl trivial ?_
      cases dn with
      | true =>
        rw [if_pos rfl] at hpq
        refine VX_known 44 false rfl rfl rfl ?_
        refine VX_go4 (fs := []) (ok 0 _) eqs trivial 100 [] rfl (by simp [allP, nb, tb, maxL]; omega) ?_
        refine loop_nrm ⟨(i + 1, true, O ++ [⟨xo, xn, xm, xsp⟩]), by simp only; omega, ⟨by simp only; omega, by simp only [List.length_append, hO]; rfl, by simp only [if_true]; rw [← hpq]; simp⟩, ?_⟩
        exact wkc [.tree 56 (.e (Rl.e ⟨xo, xn, xm, xsp⟩))] (by simp only; rw [hm]; rfl) rfl (by simp [Blk.under, T.under, T.unders]) (lc (li (by rw [ei])) (lc (ls rfl rfl) (lc (ls rfl rfl) (lc (ls rfl rfl) (lc (ls (by simp only; rw [hm]; rfl) rfl) (lc (ls rfl rfl) (lc (ls rfl rfl) (lc (ls rfl rfl) lnil))))))))
      | false =>
      rw [if_neg (by simp), hrp] at hpq
      refine VX_known 44 true rfl rfl rfl ?_
      refine VX_go4 (fs := []) (ok 0 _) eqs trivial 100 [] rfl trivial ?_
      by_cases h1 : xo = ro
      · refine VX_known 51 true rfl rfl (by simp; omega) ?_
        refine VX_go4 (fs := []) (ok 0 _) eqs trivial 100 [] rfl trivial ?_
        by_cases h2 : xn = rn
        · have hh : hits ro rn ⟨xo, xn, xm, xsp⟩ = true := by simp [hits, h1, h2]
          rw [if_pos hh] at hpq
          refine VX_known 57 true rfl rfl (by simp [h2]) ?_
          refine VX_go4 (fs := []) (ok 0 _) eqs trivial 100 [] rfl (by simp [allP, nb, tb, maxL]; omega) ?_
          refine loop_nrm ⟨(i + 1, true, O ++ [⟨ro, rn, rm, rsp⟩]), by simp only; omega, ⟨by simp only; omega, by simp only [List.length_append, hO]; rfl, by simp only [if_true]; rw [← hpq]; simp⟩, ?_⟩
          exact wkc [.tree 56 (.e (Rl.e ⟨ro, rn, rm, rsp⟩))] (by simp only; rw [hm]; rfl) rfl (by simp [Blk.under, T.under, T.unders]) (lc (li (by rw [ei])) (lc (ls rfl rfl) (lc (ls rfl rfl) (lc lkb (lc (ls (by simp only; rw [hm]; rfl) rfl) (lc (ls rfl rfl) (lc (ls rfl rfl) (lc (ls rfl rfl) lnil))))))))
        · have hh : ¬ hits ro rn ⟨xo, xn, xm, xsp⟩ = true := by simp [hits, h2]
          rw [if_neg hh] at hpq
          refine VX_known 57 false rfl rfl (by simp [h2]) ?_
          refine VX_go4 (fs := []) (ok 0 _) eqs trivial 100 [] rfl (by simp [allP, nb, tb, maxL]; omega) ?_
          refine loop_nrm ⟨(i + 1, false, O ++ [⟨xo, xn, xm, xsp⟩]), by simp only; omega, ⟨by simp only; omega, by simp only [List.length_append, hO]; rfl, by simp only [Bool.false_eq_true, if_false]; rw [← hpq]; simp⟩, ?_⟩
          exact wkc [.tree 56 (.e (Rl.e ⟨xo, xn, xm, xsp⟩))] (by simp only; rw [hm]; rfl) rfl (by simp [Blk.under, T.under, T.unders]) (lc (li (by rw [ei])) (lc (ls rfl rfl) (lc (ls rfl rfl) (lc (ls rfl rfl) (lc (ls (by simp only; rw [hm]; rfl) rfl) (lc (ls rfl rfl) (lc (ls rfl rfl) (lc (ls rfl rfl) lnil))))))))
      · have hh : ¬ hits ro rn ⟨xo, xn, xm, xsp⟩ = true := by simp [hits, h1]
        rw [if_neg hh] at hpq
        refine VX_known 51 false rfl rfl (by simp; omega) ?_
        refine VX_go4 (fs := []) (ok 0 _) eqs trivial 100 [] rfl (by simp [allP, nb, tb, maxL]; omega) ?_
        refine loop_nrm ⟨(i + 1, false, O ++ [⟨xo, xn, xm, xsp⟩]), by simp only; omega, ⟨by simp only; omega, by simp only [List.length_append, hO]; rfl, by simp only [Bool.false_eq_true, if_false]; rw [← hpq]; simp⟩, ?_⟩
        exact wkc [.tree 56 (.e (Rl.e ⟨xo, xn, xm, xsp⟩))] (by simp only; rw [hm]; rfl) rfl (by simp [Blk.under, T.under, T.unders]) (lc (li (by rw [ei])) (lc (ls rfl rfl) (lc (ls rfl rfl) (lc (ls rfl rfl) (lc (ls (by simp only; rw [hm]; rfl) rfl) (lc (ls rfl rfl) (lc (ls rfl rfl) (lc (ls rfl rfl) lnil))))))))
    · have hi' : i = rs.length := by simp at h; omega
      rw [hi', List.drop_length] at hpq
      refine VX_go4 (fs := []) (ok 0 _) eqs trivial 100 [] rfl trivial ?_
      apply loop_brk
      refine VX_go4 (fs := []) (ok 0 _) eqs trivial 100 [] rfl trivial ?_
      cases dn with
      | true =>
        rw [if_pos rfl, List.append_nil] at hpq
        rw [← hpq]
        refine VX_known 65 false rfl rfl rfl ?_
        refine VX_go4 (fs := []) (ok 0 _) eqs trivial 100 [] rfl trivial ?_
        exact ⟨.inr rfl, rfl⟩
      | false =>
        rw [if_neg (by simp), hrn] at hpq
        rw [← hpq]
        have hm : (O ++ [(⟨ro, rn, rm, rsp⟩ : Rl)]).map Rl.e = O.map Rl.e ++ [Rl.e ⟨ro, rn, rm, rsp⟩] := by simp
        refine VX_known 65 true rfl rfl rfl ?_
        refine VX_go4 (fs := []) (ok 0 _) eqs trivial 100 [] rfl (by simp [allP, nb, tb, maxL]; omega) ?_
        refine ⟨.inr rfl, ?_⟩
        unfold gE
        rw [hm]; rfl
end Go.Den.Q34
/- Law 34: GuardDoes. -/
namespace Go.Den.Q34
open Go Go.Den Go.Proofs
set_option maxRecDepth 8000
set_option linter.unusedVariables false
set_option linter.unusedSimpArgs false

theorem setB_len (rs : List Rl) (r : Rl) : (setB rs r).1.length ≤ rs.length + 1 := by
  have h := rep_cases r rs 0
  have : (repF r rs).length ≤ rs.length + 1 := by
    rcases h with ⟨_, _, h⟩ | ⟨j, _, _, _, h⟩
    · rw [h]; simp
    · rw [h]; simp
  unfold setB
  split
  · simp
  · split
    · exact this
    · split
      · simp
      · exact this
theorem allowR_len (es : List En) (r : Rl) (o : Nat) (nm : List UInt8) (n now : Nat) (s : Nat × Int) : (allowR es r o nm n now s).1.length ≤ es.length + 1 := by
  unfold allowR
  split
  · simp
  · split
    · simp
    · split
      · simp
      · split
        · simp
        · simp
theorem allowB_len (rs : List Rl) (es : List En) (o : Nat) (nm : List UInt8) (n now : Nat) : (allowB rs es o nm n now).1.length ≤ es.length + 1 := by
  rw [allowB_eq]
  split
  · exact allowR_len _ _ _ _ _ _ _
  · simp
theorem few_len {rs : List Rl} {es : List En} (h : fewB rs es = true) : rs.length ≤ 60 ∧ es.length ≤ 4100 := by
  simp only [fewB, Bool.and_eq_true, Bool.or_eq_true, decide_eq_true_eq] at h
  obtain ⟨⟨h1, h2⟩, h3⟩ := h
  refine ⟨?_, by omega⟩
  rcases Nat.eq_zero_or_pos rs.length with h0 | h0
  · omega
  · have := List.all_eq_true.1 h1 (rs[0]'h0) (List.getElem_mem _)
    simp only [fewR, Bool.and_eq_true, decide_eq_true_eq] at this
    exact this.1
set_option maxHeartbeats 4000000 in
theorem law_does (x0 x1 x2 x3 x4 x5 : E) : FnOk Try.prog tb 5 [25, 47, 27, 9, 26, 26] [4] [x0, x1, x2, x3, x4, x5] [.bool true] := by
  refine FnOk_of_V (fn := Try.f5) (bt := 4) (ok 0 _) Try.func5 rfl rfl rfl (by decide) fun hw => ?_
  obtain ⟨rs, es, rfl, hrs, hes, hl1, hl2⟩ := wt_guard (hw 0 _ x0 rfl rfl)
  obtain ⟨⟨r, hr⟩, rfl⟩ := wt_rl (hw 1 _ x1 rfl rfl)
  obtain ⟨o, rfl, ho⟩ := wt_u32 (hw 2 _ x2 rfl rfl) rfl
  obtain ⟨nm, rfl⟩ := wt_str (hw 3 _ x3 rfl rfl) rfl
  obtain ⟨n, rfl, hn⟩ := wt_u64 (hw 4 _ x4 rfl rfl) rfl
  obtain ⟨now, rfl, hnow⟩ := wt_u64 (hw 5 _ x5 rfl rfl) rfl
  clear hw
  simp only
  have ca := awake_ok.g
  have cf := (few_ok rs es hl1 hl2).g
  have hfl := few_len (rs := rs) (es := es)
  generalize fewB rs es = fb at cf hfl
  apply V_of_VX
  refine VX_go4 (fs := []) (ok 0 _) eqs trivial 100 [] rfl trivial ?_
  refine VX_callD (ok 0 _) [] [] rfl rfl rfl rfl rfl rfl ca rfl rfl rfl ?_
  refine VX_go4 (fs := []) (ok 0 _) eqs trivial 100 [] rfl trivial ?_
  refine VX_known 31 false rfl rfl rfl ?_
  refine VX_go4 (fs := []) (ok 0 _) eqs trivial 100 [] rfl trivial ?_
  refine VX_callD (ok 0 _) [25] [] rfl rfl rfl rfl rfl rfl cf rfl rfl rfl ?_
  refine VX_go4 (fs := []) (ok 0 _) eqs trivial 100 [] rfl trivial ?_
  cases fb with
  | false =>
    refine VX_known 35 true rfl rfl rfl ?_
    refine VX_go4 (fs := []) (ok 0 _) eqs trivial 100 [] rfl trivial ?_
    exact ⟨.inr rfl, rfl⟩
  | true =>
  obtain ⟨hR, hE⟩ := hfl rfl
  obtain ⟨ro, rn, rm, rsp⟩ := r
  refine VX_known 35 false rfl rfl rfl ?_
  refine VX_go4 (fs := []) (ok 0 _) eqs trivial 100 [] rfl trivial ?_
  refine VX_split 41 rfl rfl (fun _ => ?_) (fun h1 => ?_)
  · refine VX_go4 (fs := []) (ok 0 _) eqs trivial 100 [] rfl trivial ?_
    exact ⟨.inr rfl, rfl⟩
  have h1 : rn.length ≤ 200 := by simp only [decide_eq_false_iff_not] at h1; omega
  refine VX_go4 (fs := []) (ok 0 _) eqs trivial 100 [] rfl trivial ?_
  refine VX_split 45 rfl rfl (fun _ => ?_) (fun h2 => ?_)
  · refine VX_go4 (fs := []) (ok 0 _) eqs trivial 100 [] rfl trivial ?_
    exact ⟨.inr rfl, rfl⟩
  have ct := (to_ok rs es (by omega) (by omega)).g
  have c1 := (set_ok rs es ⟨ro, rn, rm, rsp⟩ (by show rn.length ≤ _; omega) (by omega) (by omega)).g
  have c2 := (rset_ok rs es ⟨ro, rn, rm, rsp⟩ (by show rn.length ≤ _; omega) (by omega) (by omega)).g
  have c3 := (allow_ok rs es o nm n now hrs hes hn hnow (by omega) (by omega)).g
  have c4 := (rallow_ok rs es o nm n now hrs hes hn hnow (by omega) (by omega)).g
  have c5 := (countsG_ok rs es o nm now hrs hes hnow (by omega) (by omega)).g
  have c6 := (rcountsG_ok rs es o nm now hrs hes hnow (by omega) (by omega)).g
  have c7 := (left_ok rs es o nm now hrs hes hnow (by omega) (by omega)).g
  have c8 := (rleft_ok rs es o nm now hrs hes hnow (by omega) (by omega)).g
  have c9 := (sweep_ok rs es now hrs hes hnow (by omega) (by omega)).g
  have c10 := (rsweep_ok rs es now hrs hes hnow (by omega) (by omega)).g
  have n1 := setB_len rs ⟨ro, rn, rm, rsp⟩
  have n2 := allowB_len rs es o nm n now
  have n3 := List.length_filter_le (keepB rs now) es
  generalize setB rs ⟨ro, rn, rm, rsp⟩ = S at c1 c2 n1
  generalize allowB rs es o nm n now = A at c3 c4 n2
  generalize countsB rs es o nm now = K at c5 c6
  generalize leftB rs es o nm now = L at c7 c8
  generalize es.filter (keepB rs now) = F at c9 c10 n3
  obtain ⟨S1, S2⟩ := S
  obtain ⟨A1, A2⟩ := A
  obtain ⟨K1, K2⟩ := K
  obtain ⟨L1, L2⟩ := L
  simp only at c1 c2 c3 c4 c5 c6 c7 c8 n1 n2
  have t1 := (to_ok S1 es (by omega) (by omega)).g
  have s1 := (same_ok S1 es (by omega) (by omega)).g
  have t2 := (to_ok rs A1 (by omega) (by omega)).g
  have s2 := (same_ok rs A1 (by omega) (by omega)).g
  have t3 := (to_ok rs F (by omega) (by omega)).g
  have s3 := (same_ok rs F (by omega) (by omega)).g
  have s4 := (same_ok rs es (by omega) (by omega)).g
  refine VX_go4 (fs := []) (ok 0 _) eqs trivial 100 [] rfl trivial ?_
  refine VX_callD (ok 0 _) [25] [] rfl rfl rfl rfl rfl rfl ct rfl rfl rfl ?_
  refine VX_go4 (fs := []) (ok 0 _) eqs trivial 100 [] rfl trivial ?_
  refine VX_callD (ok 0 _) [25, 47] [] rfl rfl rfl rfl rfl rfl c1 rfl rfl rfl ?_
  refine VX_go4 (fs := []) (ok 0 _) eqs trivial 100 [] rfl trivial ?_
  refine VX_callD (ok 0 _) [40, 56] [] rfl rfl rfl rfl rfl rfl c2 rfl rfl rfl ?_
  refine VX_go4 (fs := []) (ok 0 _) eqs trivial 100 [] rfl trivial ?_
  refine VX_callD (ok 0 _) [25, 27, 9, 26, 26] [] rfl rfl rfl rfl rfl rfl c3 rfl rfl rfl ?_
  refine VX_go4 (fs := []) (ok 0 _) eqs trivial 100 [] rfl trivial ?_
  refine VX_callD (ok 0 _) [40, 27, 9, 26, 26] [] rfl rfl rfl rfl rfl rfl c4 rfl rfl rfl ?_
  refine VX_go4 (fs := []) (ok 0 _) eqs trivial 100 [] rfl trivial ?_
  refine VX_callD (ok 0 _) [25, 27, 9, 26] [] rfl rfl rfl rfl rfl rfl c5 rfl rfl rfl ?_
  refine VX_go4 (fs := []) (ok 0 _) eqs trivial 100 [] rfl trivial ?_
  refine VX_callD (ok 0 _) [40, 27, 9, 26] [] rfl rfl rfl rfl rfl rfl c6 rfl rfl rfl ?_
  refine VX_go4 (fs := []) (ok 0 _) eqs trivial 100 [] rfl trivial ?_
  refine VX_callD (ok 0 _) [25, 27, 9, 26] [] rfl rfl rfl rfl rfl rfl c7 rfl rfl rfl ?_
  refine VX_go4 (fs := []) (ok 0 _) eqs trivial 100 [] rfl trivial ?_
  refine VX_callD (ok 0 _) [40, 27, 9, 26] [] rfl rfl rfl rfl rfl rfl c8 rfl rfl rfl ?_
  refine VX_go4 (fs := []) (ok 0 _) eqs trivial 100 [] rfl trivial ?_
  refine VX_draw [] [(0, true), (2, true), (1, false), (3, false), (4, true), (5, true), (6, true), (7, true), (8, true), (9, true), (10, true), (12, true), (11, false), (13, false), (14, true), (15, true), (16, true), (17, true), (18, true), (19, true), (20, true), (21, true), (22, true), (23, true), (24, true), (25, true), (26, true), (27, true), (28, true), (29, true), (30, true), (31, true), (32, true), (33, true), (34, true), (35, true), (36, true), (37, true), (38, true), (39, true), (40, true), (41, true), (42, true), (45, true), (46, true), (43, false), (44, false), (47, false), (48, false), (49, true), (50, true), (51, true), (53, true), (52, false), (54, false), (55, true), (56, true)] mixed (by kernel_rfl) (by kernel_rfl) (by kernel_rfl) ?_
  refine VX_go4 (fs := []) (ok 0 _) eqs trivial 100 [] rfl trivial ?_
  refine VX_callO (ok 0 _) [25] [] rfl rfl rfl rfl rfl rfl rfl rfl t1 rfl rfl rfl ?_
  refine VX_callO (ok 0 _) [40, 40] [] rfl rfl rfl rfl rfl rfl rfl rfl s1 rfl rfl rfl ?_
  refine VX_go4 (fs := []) (ok 0 _) eqs trivial 100 [] rfl trivial ?_
  refine VX_known 114 true rfl rfl rfl ?_
  refine VX_go4 (fs := []) (ok 0 _) eqs trivial 100 [] rfl trivial ?_
  refine VX_known 119 true rfl rfl (by simp) ?_
  refine VX_go4 (fs := []) (ok 0 _) eqs trivial 100 [] rfl trivial ?_
  refine VX_callO (ok 0 _) [25] [] rfl rfl rfl rfl rfl rfl rfl rfl t2 rfl rfl rfl ?_
  refine VX_callO (ok 0 _) [40, 40] [] rfl rfl rfl rfl rfl rfl rfl rfl s2 rfl rfl rfl ?_
  refine VX_go4 (fs := []) (ok 0 _) eqs trivial 100 [] rfl trivial ?_
  refine VX_known 125 true rfl rfl rfl ?_
  refine VX_go4 (fs := []) (ok 0 _) eqs trivial 100 [] rfl trivial ?_
  refine VX_known 130 true rfl rfl (by simp) ?_
  refine VX_go4 (fs := []) (ok 0 _) eqs trivial 100 [] rfl trivial ?_
  refine VX_known 135 true rfl rfl (by simp) ?_
  refine VX_go4 (fs := []) (ok 0 _) eqs trivial 100 [] rfl trivial ?_
  refine VX_known 140 true rfl rfl (by simp) ?_
  refine VX_go4 (fs := []) (ok 0 _) eqs trivial 100 [] rfl trivial ?_
  refine VX_known 145 true rfl rfl (by simp) ?_
  refine VX_go4 (fs := []) (ok 0 _) eqs trivial 100 [] rfl trivial ?_
  refine VX_known 150 true rfl rfl (by simp) ?_
  refine VX_go4 (fs := []) (ok 0 _) eqs trivial 100 [] rfl trivial ?_
  refine VX_callO (ok 0 _) [25, 26] [] rfl rfl rfl rfl rfl rfl rfl rfl c9 rfl rfl rfl ?_
  refine VX_callO (ok 0 _) [25] [] rfl rfl rfl rfl rfl rfl rfl rfl t3 rfl rfl rfl ?_
  refine VX_callO (ok 0 _) [40, 26] [] rfl rfl rfl rfl rfl rfl rfl rfl c10 rfl rfl rfl ?_
  refine VX_callO (ok 0 _) [40, 40] [] rfl rfl rfl rfl rfl rfl rfl rfl s3 rfl rfl rfl ?_
  refine VX_go4 (fs := []) (ok 0 _) eqs trivial 100 [] rfl trivial ?_
  refine VX_known 160 true rfl rfl rfl ?_
  refine VX_go4 (fs := []) (ok 0 _) eqs trivial 100 [] rfl trivial ?_
  refine VX_callO (ok 0 _) [25] [] rfl rfl rfl rfl rfl rfl rfl rfl ct rfl rfl rfl ?_
  refine VX_callO (ok 0 _) [40, 40] [] rfl rfl rfl rfl rfl rfl rfl rfl s4 rfl rfl rfl ?_
  refine VX_go4 (fs := []) (ok 0 _) eqs trivial 100 [] rfl trivial ?_
  exact ⟨.inr rfl, rfl⟩
end Go.Den.Q34
