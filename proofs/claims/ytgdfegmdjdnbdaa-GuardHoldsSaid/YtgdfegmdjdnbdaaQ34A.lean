/- Law 34: rules, what counts, sums. -/
import Derived.Test.YtgdfegmdjdnbdaaQ34Tb
namespace Go.Den.Q34
open Go Go.Den Go.Proofs
set_option maxRecDepth 8000
set_option linter.unusedVariables false

structure Rl where
  o : Nat
  nm : List UInt8
  most : Nat
  span : Nat
  deriving DecidableEq
structure En where
  o : Nat
  nm : List UInt8
  at_ : Nat
  n : Nat
  deriving DecidableEq
def Rl.e (r : Rl) : E := .agg [.int r.o, .str r.nm, .int r.most, .int r.span]
def En.e (x : En) : E := .agg [.int x.o, .str x.nm, .int x.at_, .int x.n]
def gE (rs : List Rl) (es : List En) : E := .agg [.sl (rs.map Rl.e), .sl (es.map En.e)]
def m64 : Nat := 18446744073709551616
structure Rl.ok (r : Rl) : Prop where
  o : r.o < 4294967296
  most : r.most < 18446744073709551616
  span : r.span < 18446744073709551616
structure En.ok (x : En) : Prop where
  o : x.o < 4294967296
  at_ : x.at_ < 18446744073709551616
  n : x.n < 18446744073709551616

theorem getD_rl {p : List Rl} {i : Nat} (h : i < p.length) : (p.map Rl.e).getD i .nilp = p[i].e := by simp [List.getD, h]
theorem getD_en {p : List En} {i : Nat} (h : i < p.length) : (p.map En.e).getD i .nilp = p[i].e := by simp [List.getD, h]

def hits (o : Nat) (nm : List UInt8) (r : Rl) : Bool := decide (r.o = o) && decide (r.nm = nm)
theorem clos_ok (r : Rl) (o : Nat) (nm : List UInt8) : FnG Try.prog tb 33 [.tree 27 (.e (.int o)), .tree 9 (.e (.str nm))] [.t 47 (.e r.e), .ptr 0 [], .ptr 1 []] (fun d t => d = .t 4 (.e (.bool (hits o nm r))) ∧ t = [.tree 27 (.e (.int o)), .tree 9 (.e (.str nm))]) := by
  refine FnG_of_V (fn := Try.f33) (bt := 4) false [] [4] (ok 2 _) Try.func33 rfl rfl rfl fun _ _ _ _ _ _ => ?_
  apply V_of_VX
  refine VX_go3 (fs := []) (ok 2 _) eqs trivial 100 [] rfl trivial ?_
  refine VX_split 9 rfl rfl (fun h => ?_) (fun h => ?_)
  · have h : r.o = o := by simp at h; omega
    refine VX_go3 (fs := []) (ok 2 _) eqs trivial 100 [] rfl trivial ?_
    refine ⟨.inr rfl, _, _, _, rfl, rfl, rfl, ?_⟩
    have : hits o nm r = decide (r.nm = nm) := by simp [hits, h]
    rw [this]; exact ⟨rfl, rfl⟩
  · have h : ¬ r.o = o := by simp at h; omega
    refine VX_go3 (fs := []) (ok 2 _) eqs trivial 100 [] rfl trivial ?_
    refine ⟨.inr rfl, _, _, _, rfl, rfl, rfl, ?_⟩
    have : hits o nm r = false := by simp [hits, h]
    rw [this]; exact ⟨rfl, rfl⟩

/-- The place of a rule; -1. -/
def ridx (o : Nat) (nm : List UInt8) : List Rl → Nat → Int
  | [], _ => -1
  | r :: rs, i => if hits o nm r = true then i else ridx o nm rs (i + 1)
def cell2 (o : Nat) (nm : List UInt8) : List Blk := [.tree 27 (.e (.int o)), .tree 9 (.e (.str nm))]
theorem index_ok (rs : List Rl) (o : Nat) (nm : List UInt8) (hl : rs.length ≤ 100000) : FnG Try.prog tb 32 (cell2 o nm) [.t 22 (.e (.sl (rs.map Rl.e))), .t 77 (.fn 33 [(0, []), (1, [])])] (fun d t => d = .t 3 (.e (.int (ridx o nm rs 0))) ∧ t = cell2 o nm) := by
  refine FnG_of_V (fn := Try.f32) (bt := 4) false [] [3] (ok 2 _) Try.func32 rfl rfl rfl fun _ _ _ _ _ _ => ?_
  apply V_of_VX
  refine VX_go3 (fs := []) (ok 2 _) eqs trivial 100 [] rfl trivial ?_
  refine VX_loopA (fun i : Nat => i ≤ rs.length ∧ ridx o nm (rs.drop i) i = ridx o nm rs 0) (fun i => [(8, .t 3 (.e (.int i))), (7, .t 3 (.e (.int rs.length))), (0, .t 22 (.e (.sl (rs.map Rl.e)))), (1, .t 77 (.fn 33 [(0, []), (1, [])]))]) (fun _ => cell2 o nm) (fun i => rs.length - i) 0 ⟨by simp, by simp⟩ ?_ ?_
  · exact wk1 rfl rfl (by simp [cell2, Blk.under, T.under]) (lc (ls rfl rfl) (lc (li (by simp)) (lc (ls rfl rfl) (lc (ls rfl rfl) lnil))))
  · rintro i ⟨hi, hpq⟩
    refine VX_go3 (fs := []) (ok 2 _) eqs trivial 100 [] rfl trivial ?_
    refine VX_split 9 rfl rfl (fun h => ?_) (fun h => ?_)
    · have hi : i < rs.length := by simpa using h
      refine VX_go3 (fs := []) (ok 2 _) eqs trivial 100 [] rfl ?_ ?_
      · simp [allP]; omega
      refine VX_eq 15 rfl rfl (d' := .t 47 (.e rs[i].e)) (congrArg (fun x => D.t 47 (.e x)) (getD_rl hi)) ?_
      refine VX_callC (ok 2 _) [47] [0, 1] rfl rfl rfl rfl rfl rfl rfl (clos_ok rs[i] o nm) rfl rfl rfl ?_
      have hd1 : rs.drop i = rs[i] :: rs.drop (i + 1) := List.drop_eq_getElem_cons hi
      rw [hd1] at hpq
      refine VX_split 16 rfl rfl (fun h => ?_) (fun h => ?_)
      · refine VX_go3 (fs := []) (ok 2 _) eqs trivial 100 [] rfl trivial ?_
        have : ridx o nm rs 0 = i := by rw [← hpq]; simp [ridx, h]
        refine loop_ret ⟨.inr rfl, _, _, _, rfl, rfl, rfl, ?_⟩
        rw [this]; exact ⟨rfl, rfl⟩
      · refine VX_go3 (fs := []) (ok 2 _) eqs trivial 100 [] rfl trivial ?_
        refine loop_nrm ⟨i + 1, by omega, ⟨by omega, ?_⟩, ?_⟩
        · rw [← hpq]; simp [ridx, h]
        · refine wk1 rfl rfl (by simp [cell2, Blk.under, T.under]) (lc (li ?_) (lc (ls rfl rfl) (lc (ls rfl rfl) (lc (ls rfl rfl) lnil))))
          rw [w64 (by omega) (by omega)]; simp
    · refine VX_go3 (fs := []) (ok 2 _) eqs trivial 100 [] rfl trivial ?_
      apply loop_brk
      refine VX_go3 (fs := []) (ok 2 _) eqs trivial 100 [] rfl trivial ?_
      have : i = rs.length := by simp at h; omega
      refine ⟨.inr rfl, _, _, _, rfl, rfl, rfl, ?_⟩
      rw [← hpq, this, List.drop_length]; exact ⟨rfl, rfl⟩
theorem rule_ok (rs : List Rl) (es : List En) (o : Nat) (nm : List UInt8) (hl : rs.length ≤ 100000) : FnOk Try.prog tb 20 [25, 27, 9] [3] [gE rs es, .int o, .str nm] [.int (ridx o nm rs 0)] := by
  refine FnOk_of_V (fn := Try.f20) (bt := 4) (ok 0 _) Try.func20 rfl rfl rfl (by decide) fun hw => ?_
  apply V_of_VX
  refine VX_go3 (fs := []) (ok 0 _) eqs trivial 100 [] rfl trivial ?_
  refine VX_makeFunc rfl rfl rfl rfl rfl rfl ?_
  refine VX_callD (ok 0 _) [22, 77] [1, 2] rfl rfl rfl rfl rfl rfl (index_ok rs o nm hl) rfl rfl rfl ?_
  refine VX_go3 (fs := []) (ok 0 _) eqs trivial 100 [] rfl trivial ?_
  exact ⟨.inr rfl, rfl⟩

theorem add64 (x y : Nat) (w : World) : (callFunc 34 #[.int .u64 x, .int .u64 y, .int .u64 0]).run Try.prog w = .ok (.value (.tuple #[.int .u64 ((x + y) % 18446744073709551616 : Nat), .int .u64 ((x + y) / 18446744073709551616 : Nat)])) w := rfl

/-- A sum, or too much. -/
def addB (x y : Nat) : Nat × Int := if x + y < 18446744073709551616 then (x + y, 0) else (0, 10)
theorem add_ok (x y : Nat) (hx : x < 18446744073709551616) (hy : y < 18446744073709551616) : FnOk Try.prog tb 24 [26, 26] [26, 31] [.int x, .int y] [.int (addB x y).1, .int (addB x y).2] := by
  refine FnOk_of_V (fn := Try.f24) (bt := 4) (ok 0 _) Try.func24 rfl rfl rfl (by decide) fun hw => ?_
  apply V_of_VX
  refine VX_go3 (fs := []) (ok 0 _) eqs trivial 100 [] rfl trivial ?_
  refine VX_add64 (t := 26) (ok 0 _) rfl rfl rfl rfl rfl rfl rfl hx hy add64 ?_
  refine VX_go3 (fs := []) (ok 0 _) eqs trivial 100 [] rfl trivial ?_
  refine VX_split 15 rfl rfl (fun h => ?_) (fun h => ?_)
  · have h : x + y < 18446744073709551616 := by simp at h; omega
    refine VX_go3 (fs := []) (ok 0 _) eqs trivial 100 [] rfl trivial ?_
    refine ⟨.inr rfl, ?_⟩
    simp only [addB, if_pos h]
    rw [Nat.mod_eq_of_lt h]; rfl
  · have h : ¬ x + y < 18446744073709551616 := by simp at h; omega
    refine VX_go3 (fs := []) (ok 0 _) eqs trivial 100 [] rfl trivial ?_
    refine ⟨.inr rfl, ?_⟩
    simp only [addB, if_neg h]; rfl

/-- Does an entry count? -/
def cnt (x : En) (r : Rl) (now : Nat) : Bool := decide (x.o = r.o) && decide (x.nm = r.nm) && decide (now < x.at_ + r.span)
theorem counts_ok (x : En) (r : Rl) (now : Nat) (hx : x.ok) (hr : r.ok) (hn : now < 18446744073709551616) : FnOk Try.prog tb 21 [62, 47, 26] [4] [x.e, r.e, .int now] [.bool (cnt x r now)] := by
  refine FnOk_of_V (fn := Try.f21) (bt := 4) (ok 0 _) Try.func21 rfl rfl rfl (by decide) fun hw => ?_
  apply V_of_VX
  refine VX_go3 (fs := []) (ok 0 _) eqs trivial 100 [] rfl trivial ?_
  refine VX_split 14 rfl rfl (fun h => ?_) (fun h => ?_)
  · have h : ¬ x.o = r.o := by simp at h; omega
    refine VX_go3 (fs := []) (ok 0 _) eqs trivial 100 [] rfl trivial ?_
    refine ⟨.inr rfl, ?_⟩
    have : cnt x r now = false := by simp [cnt, h]
    rw [this]; rfl
  · have ho : x.o = r.o := by simp at h; omega
    refine VX_go3 (fs := []) (ok 0 _) eqs trivial 100 [] rfl trivial ?_
    refine VX_split 20 rfl rfl (fun h => ?_) (fun h => ?_)
    · have h : ¬ x.nm = r.nm := by simpa using h
      refine VX_go3 (fs := []) (ok 0 _) eqs trivial 100 [] rfl trivial ?_
      refine ⟨.inr rfl, ?_⟩
      have : cnt x r now = false := by simp [cnt, h]
      rw [this]; rfl
    · have hm : x.nm = r.nm := by simpa using h
      refine VX_go3 (fs := []) (ok 0 _) eqs trivial 100 [] rfl trivial ?_
      refine VX_callD (ok 0 _) [26, 26] [] rfl rfl rfl rfl rfl rfl (add_ok x.at_ r.span hx.at_ hr.span).g rfl rfl rfl ?_
      refine VX_go3 (fs := []) (ok 0 _) eqs trivial 100 [] rfl trivial ?_
      by_cases hs : x.at_ + r.span < 18446744073709551616
      · have hB : addB x.at_ r.span = (x.at_ + r.span, 0) := by simp only [addB, if_pos hs]
        rw [hB]
        refine VX_known 31 false rfl rfl (by simp) ?_
        refine VX_go3 (fs := []) (ok 0 _) eqs trivial 100 [] rfl trivial ?_
        refine ⟨.inr rfl, ?_⟩
        have : cnt x r now = decide ((now : Int) < (x.at_ + r.span : Nat)) := by simp only [cnt, ho, hm, decide_true, Bool.true_and, decide_eq_decide]; omega
        rw [this]; rfl
      · have hB : addB x.at_ r.span = (0, 10) := by simp only [addB, if_neg hs]
        rw [hB]
        refine VX_known 31 true rfl rfl (by decide) ?_
        refine VX_go3 (fs := []) (ok 0 _) eqs trivial 100 [] rfl trivial ?_
        refine ⟨.inr rfl, ?_⟩
        have : cnt x r now = true := by simp only [cnt, ho, hm, decide_true, Bool.true_and, decide_eq_true_eq]; omega
        rw [this]; rfl

/-- The sum of what counts. -/
def sumF (r : Rl) (now : Nat) : List En → Nat → Nat × Int
  | [], n => (n, 0)
  | x :: xs, n => if cnt x r now = true then if n + x.n < 18446744073709551616 then sumF r now xs (n + x.n) else (0, 10) else sumF r now xs n
theorem sumF_lt (r : Rl) (now : Nat) : ∀ (xs : List En) (n : Nat), n < 18446744073709551616 → (sumF r now xs n).1 < 18446744073709551616
  | [], n, h => h
  | x :: xs, n, h => by
    unfold sumF
    split
    · split
      · exact sumF_lt r now xs _ (by assumption)
      · simp
    · exact sumF_lt r now xs n h
theorem sum_ok (rs : List Rl) (es : List En) (r : Rl) (now : Nat) (hes : ∀ x ∈ es, x.ok) (hr : r.ok) (hn : now < 18446744073709551616) (hl : es.length ≤ 100000) :
    FnOk Try.prog tb 23 [25, 47, 26] [26, 31] [gE rs es, r.e, .int now] [.int (sumF r now es 0).1, .int (sumF r now es 0).2] := by
  refine FnOk_of_V (fn := Try.f23) (bt := 4) (ok 0 _) Try.func23 rfl rfl rfl (by decide) fun hw => ?_
  apply V_of_VX
  refine VX_go3 (fs := []) (ok 0 _) eqs trivial 100 [] rfl trivial ?_
  refine VX_loopA (fun a : Nat × Nat => a.1 ≤ es.length ∧ a.2 < 18446744073709551616 ∧ sumF r now (es.drop a.1) a.2 = sumF r now es 0) (fun a => [(15, .t 3 (.e (.int a.1))), (14, .t 3 (.e (.int es.length))), (13, .t 23 (.e (.sl (es.map En.e)))), (8, .t 26 (.e (.int a.2))), (4, .ptr 1 []), (2, .t 26 (.e (.int now)))]) (fun _ => [.tree 25 (.e (gE rs es)), .tree 47 (.e r.e)]) (fun a => es.length - a.1) (0, 0) ⟨by simp, by simp, by simp⟩ ?_ ?_
  · exact wk1 rfl rfl (by simp [Blk.under, T.under]) (lc (ls rfl rfl) (lc (li (by simp)) (lc (ls rfl rfl) (lc (ls rfl rfl) (lc (ls rfl rfl) (lc (ls rfl rfl) lnil))))))
  · rintro ⟨i, n⟩ ⟨hi, hnn, hpq⟩
    simp only at hi hnn hpq
    refine VX_go3 (fs := []) (ok 0 _) eqs trivial 100 [] rfl trivial ?_
    refine VX_split 16 rfl rfl (fun h => ?_) (fun h => ?_)
    · have hi : i < es.length := by simpa using h
      have hxok := hes es[i] (List.getElem_mem hi)
      refine VX_go3 (fs := []) (ok 0 _) eqs trivial 100 [10] rfl ?_ ?_
      · simp [allP]; omega
      refine VX_eq 18 rfl rfl (d' := .t 62 (.e es[i].e)) (congrArg (fun x => D.t 62 (.e x)) (getD_en hi)) ?_
      refine VX_go3 (fs := []) (ok 0 _) eqs trivial 100 [] rfl trivial ?_
      refine VX_callD (ok 0 _) [62, 47, 26] [] rfl rfl rfl rfl rfl rfl (counts_ok es[i] r now hxok hr hn).g rfl rfl rfl ?_
      have hd1 : es.drop i = es[i] :: es.drop (i + 1) := List.drop_eq_getElem_cons hi
      rw [hd1] at hpq
      have ei : IntKind.wrap .i64 ((i : Int) + 1) = ((i + 1 : Nat) : Int) := by rw [w64 (by omega) (by omega)]; simp
      refine VX_split 22 rfl rfl (fun hc => ?_) (fun hc => ?_)
      · refine VX_go3 (fs := []) (ok 0 _) eqs trivial 100 [] rfl trivial ?_
        refine VX_callD (ok 0 _) [26, 26] [] rfl rfl rfl rfl rfl rfl (add_ok n es[i].n hnn hxok.n).g rfl rfl rfl ?_
        refine VX_go3 (fs := []) (ok 0 _) eqs trivial 100 [] rfl trivial ?_
        by_cases hs : n + es[i].n < 18446744073709551616
        · have hB : addB n es[i].n = (n + es[i].n, 0) := by simp only [addB, if_pos hs]
          rw [hB]
          refine VX_known 32 false rfl rfl (by simp) ?_
          refine VX_go3 (fs := []) (ok 0 _) eqs trivial 100 [] rfl trivial ?_
          refine loop_nrm ⟨(i + 1, n + es[i].n), by simp only; omega, ⟨by simp only; omega, hs, ?_⟩, ?_⟩
          · rw [← hpq]; simp only [sumF, hc, if_true, hs]
          · exact wkc [.tree 62 (.e es[i].e)] rfl rfl (by simp [Blk.under, T.under]) (lc (li (by rw [ei])) (lc (ls rfl rfl) (lc (ls rfl rfl) (lc (ls rfl rfl) (lc (ls rfl rfl) (lc (ls rfl rfl) lnil))))))
        · have hB : addB n es[i].n = (0, 10) := by simp only [addB, if_neg hs]
          rw [hB]
          refine VX_known 32 true rfl rfl (by decide) ?_
          refine VX_go3 (fs := []) (ok 0 _) eqs trivial 100 [] rfl trivial ?_
          refine loop_ret ⟨.inr rfl, ?_⟩
          have : sumF r now es 0 = (0, 10) := by rw [← hpq]; simp only [sumF, hc, if_true, hs, if_false]
          rw [this]; rfl
      · refine VX_go3 (fs := []) (ok 0 _) eqs trivial 100 [] rfl trivial ?_
        refine loop_nrm ⟨(i + 1, n), by simp only; omega, ⟨by simp only; omega, hnn, ?_⟩, ?_⟩
        · rw [← hpq]; simp only [sumF, hc]; rfl
        · exact wkc [.tree 62 (.e es[i].e)] rfl rfl (by simp [Blk.under, T.under]) (lc (li (by rw [ei])) (lc (ls rfl rfl) (lc (ls rfl rfl) (lc (ls rfl rfl) (lc (ls rfl rfl) (lc (ls rfl rfl) lnil))))))
    · have hi' : i = es.length := by simp at h; omega
      refine VX_go3 (fs := []) (ok 0 _) eqs trivial 100 [] rfl trivial ?_
      apply loop_brk
      refine VX_go3 (fs := []) (ok 0 _) eqs trivial 100 [] rfl trivial ?_
      refine ⟨.inr rfl, ?_⟩
      rw [← hpq, hi', List.drop_length]; rfl
end Go.Den.Q34
