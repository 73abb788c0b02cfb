/- The calculus and the walks, part 10: Q33ZZ, Q33X, DenMake, Q33H, Q33HH. -/
import Derived.Test.YtlhmimpbpphchaaDoorP9
import Derived.Test.YtlhmimpbpphchaaDoorRows
import Derived.WalkKit
import Derived.ProofKit
import Derived.OpenShut
import Derived.ShutString
import Derived.ChangeOld
import Derived.LaidMore
import Derived.Stop.Joined
import Derived.Below
import Derived.Test.YtlhmimpbpphchaaDoorP6
/- Law 33: LightShows, walked. -/
namespace Go.Den.Q33
open Go Go.Den Go.Proofs Go.Den.Q33.Dg
set_option maxRecDepth 8000
set_option linter.unusedVariables false
set_option linter.unusedSimpArgs false
open Go.Den.Q33.Sh (dgE)
open Go.Den.Q33.Me (Dig dsE All32 z0 rootB eqDg brL provesB)

set_option maxHeartbeats 3200000 in
theorem law_shows (x0 x1 x2 : E) : FnOk Tryd.prog tb 6 [28, 28, 3] [4] [x0, x1, x2] [.bool true] := by
  refine FnOk_of_V (fn := Tryd.f6) (bt := 4) (ok 0 _) Tryd.func6 rfl rfl rfl (by decide) fun hw => ?_
  obtain ⟨⟨x, hxo⟩, rfl⟩ := wt_bk (hw 0 _ x0 rfl rfl)
  obtain ⟨⟨y, hyo⟩, rfl⟩ := wt_bk (hw 1 _ x1 rfl rfl)
  obtain ⟨k, rfl, _⟩ := wt_int (hw 2 _ x2 rfl rfl) (k := .i64) rfl
  clear hw
  simp only
  have c1 := awake_ok.g
  have c2 := (few_ok x).g
  have c3 := (few_ok y).g
  have hfx := few_small (x := x)
  have hfy := few_small (x := y)
  have hpk := @pack x y hxo hyo
  generalize fewB x = fx at c2 hfx
  generalize fewB y = fy at c3 hfy
  have hyh := hyo.h
  clear hxo hyo
  obtain ⟨xh, xp, xb, cs, rs, xs⟩ := x
  obtain ⟨yh, yp, yb, ycs, yrs, ys⟩ := y
  simp only at hpk hyh hfx hfy
  have hcm : (cs.map E.str).length = cs.length := by simp
  have hrm : (rs.map E.int).length = rs.length := by simp
  apply V_of_VX
  refine VX_go4 (fs := []) (ok 0 _) eqs trivial 100 [] rfl trivial ?_
  refine VX_callD (ok 0 _) [] [] rfl rfl rfl rfl rfl rfl c1 rfl rfl rfl ?_
  refine VX_go4 (fs := []) (ok 0 _) eqs trivial 100 [] rfl trivial ?_
  refine VX_known 15 false rfl rfl rfl ?_
  refine VX_go4 (fs := []) (ok 0 _) eqs trivial 100 [] rfl trivial ?_
  refine VX_callD (ok 0 _) [28] [] rfl rfl rfl rfl rfl rfl c2 rfl rfl rfl ?_
  refine VX_go4 (fs := []) (ok 0 _) eqs trivial 100 [] rfl trivial ?_
  cases fx with
  | false =>
    refine VX_known 19 true rfl rfl rfl ?_
    refine VX_go4 (fs := []) (ok 0 _) eqs trivial 100 [] rfl trivial ?_
    exact ⟨.inr rfl, rfl⟩
  | true =>
  refine VX_known 19 false rfl rfl rfl ?_
  refine VX_go4 (fs := []) (ok 0 _) eqs trivial 100 [] rfl trivial ?_
  refine VX_callD (ok 0 _) [28] [] rfl rfl rfl rfl rfl rfl c3 rfl rfl rfl ?_
  refine VX_go4 (fs := []) (ok 0 _) eqs trivial 100 [] rfl trivial ?_
  cases fy with
  | false =>
    refine VX_known 24 true rfl rfl rfl ?_
    refine VX_go4 (fs := []) (ok 0 _) eqs trivial 100 [] rfl trivial ?_
    exact ⟨.inr rfl, rfl⟩
  | true =>
  refine VX_known 24 false rfl rfl rfl ?_
  refine VX_go4 (fs := []) (ok 0 _) eqs trivial 100 [] rfl trivial ?_
  obtain ⟨sx, hc12, hr12⟩ := hfx rfl
  obtain ⟨sy, _, _⟩ := hfy rfl
  refine VX_split 33 rfl rfl (fun _ => ?_) (fun h1 => ?_)
  · refine VX_go4 (fs := []) (ok 0 _) eqs trivial 100 [] rfl trivial ?_
    exact ⟨.inr rfl, rfl⟩
  have h1 : cs.length = rs.length := by simp only [hcm, hrm] at h1; simp at h1; omega
  refine VX_go4 (fs := []) (ok 0 _) eqs trivial 100 [] rfl trivial ?_
  refine VX_split 39 rfl rfl (fun _ => ?_) (fun h2 => ?_)
  · refine VX_go4 (fs := []) (ok 0 _) eqs trivial 100 [] rfl trivial ?_
    exact ⟨.inr rfl, rfl⟩
  have h2 : 0 < cs.length := by simp only [hcm, decide_eq_false_iff_not] at h2; omega
  refine VX_go4 (fs := []) (ok 0 _) eqs trivial 100 [] rfl trivial ?_
  refine VX_split 43 rfl rfl (fun _ => ?_) (fun h3 => ?_)
  · refine VX_go4 (fs := []) (ok 0 _) eqs trivial 100 [] rfl trivial ?_
    exact ⟨.inr rfl, rfl⟩
  have h3 : yh + 1 < 18446744073709551616 := by simp only [decide_eq_false_iff_not] at h3; omega
  refine VX_go4 (fs := []) (ok 0 _) eqs trivial 100 [50] rfl trivial ?_
  obtain ⟨m, hm⟩ : ∃ m : Nat, IntKind.wrap .u64 k = (m : Int) := ⟨(IntKind.wrap .u64 k).toNat, by have := wrap_inR .u64 k; simp only [inR, Bool.and_eq_true, decide_eq_true_eq] at this; omega⟩
  have hn : IntKind.wrap .u64 (((cs.map E.str).length : Nat) : Int) = (cs.length : Int) := by rw [hcm]; exact u64n _ (by omega)
  refine VX_eq 45 rfl rfl (d' := .t 75 (.e (.int m))) (congrArg (fun x => D.t 75 (.e (.int x))) hm) ?_
  refine VX_eq 49 rfl rfl (d' := .t 75 (.e (.int cs.length))) (congrArg (fun x => D.t 75 (.e (.int x))) hn) ?_
  obtain ⟨j, hj⟩ : ∃ j : Nat, j = m % cs.length := ⟨_, rfl⟩
  have hjl : j < cs.length := by rw [hj]; exact Nat.mod_lt _ h2
  have e50 : ((m : Int).tmod (cs.length : Int)) = (j : Int) := by rw [hj]; rfl
  have e51 : IntKind.wrap .i64 (j : Int) = (j : Int) := w64 (by omega) (by omega)
  have e57 : IntKind.wrap .u64 ((yh : Int) + 1) = ((yh + 1 : Nat) : Int) := by rw [inR_wrap (by simp [inR]; omega)]; omega
  have g1 := str_get hjl
  have g2 := int_get (rs := rs) (i := j) (by omega)
  obtain ⟨h0, h1', P, d, pk⟩ := hpk sx sy h1 h3 j hjl
  obtain ⟨k1, k2, k3, k4, k5, k6, k7, k8, pc, pe⟩ := pk
  simp only at pc pe
  rw [← pc] at g1
  rw [← pe] at g2
  have k1 := k1.g
  have k2 := k2.g
  have k3 := k3.g
  have k4 := k4.g
  have k5 := k5.g
  have k6 := k6.g
  have k7 := k7.g
  have k8 := k8.g
  clear hpk pc pe hfx hfy sx sy c1 c2 c3
  obtain ⟨a1, a2, a3, a4, a5, a6, a7⟩ := h0
  obtain ⟨b1, b2, b3, b4, b5, b6, b7⟩ := h1'
  obtain ⟨pa, pc, pe, pcs, prs⟩ := P
  simp only [upx] at k4 k6 g1 g2 k8
  refine VX_go4 (fs := []) (ok 0 _) eqs trivial 100 [51] rfl (by simp [allP, arithP]; intro h; simp [h] at h2) ?_
  refine VX_eq 50 rfl rfl (d' := .t 75 (.e (.int j))) (congrArg (fun x => D.t 75 (.e (.int x))) e50) ?_
  refine VX_go4 (fs := []) (ok 0 _) eqs trivial 100 [7] rfl trivial ?_
  refine VX_eq 51 rfl rfl (d' := .t 3 (.e (.int j))) (congrArg (fun x => D.t 3 (.e (.int x))) e51) ?_
  refine VX_go4 (fs := []) (ok 0 _) eqs trivial 100 [] rfl trivial ?_
  refine VX_callD (ok 0 _) [78, 28, 24] [] rfl rfl rfl rfl rfl rfl k1 rfl rfl rfl ?_
  refine VX_go4 (fs := []) (ok 0 _) eqs trivial 100 [58] rfl trivial ?_
  refine VX_eq 57 rfl rfl (d' := .t 22 (.e (.int (yh + 1 : Nat)))) (congrArg (fun x => D.t 22 (.e (.int x))) e57) ?_
  refine VX_go4 (fs := []) (ok 0 _) eqs trivial 100 [] rfl trivial ?_
  refine VX_callD (ok 0 _) [78, 31, 59] [] rfl rfl rfl rfl rfl rfl k2 rfl rfl rfl ?_
  refine VX_go4 (fs := []) (ok 0 _) eqs trivial 100 [] rfl trivial ?_
  refine VX_draw [] [(0, true), (1, true), (2, true), (3, false), (4, false), (5, false), (6, true), (7, true), (8, true), (9, false), (10, true)] mixed (by kernel_rfl) (by kernel_rfl) (by kernel_rfl) ?_
  refine VX_go4 (fs := []) (ok 0 _) eqs trivial 100 [] rfl trivial ?_
  refine VX_callO (ok 0 _) [78, 59] [] rfl rfl rfl rfl rfl rfl rfl rfl k3 rfl rfl rfl ?_
  refine VX_callO (ok 0 _) [78, 28, 24] [] rfl rfl rfl rfl rfl rfl rfl rfl k4 rfl rfl rfl ?_
  refine VX_callO (ok 0 _) [78, 31, 59] [] rfl rfl rfl rfl rfl rfl rfl rfl k5 rfl rfl rfl ?_
  refine VX_go4 (fs := []) (ok 0 _) eqs trivial 100 [73] rfl trivial ?_
  refine VX_extractTs [3] rfl rfl rfl rfl rfl rfl (by kernel_rfl) ?_
  refine VX_storeO (ok 0 _) rfl rfl rfl rfl rfl rfl (by simp) ?_
  refine VX_go4 (fs := []) (ok 0 _) eqs trivial 100 [] rfl trivial ?_
  refine VX_callD (ok 0 _) [78, 28, 3] [] rfl rfl rfl rfl rfl rfl k6 rfl rfl rfl ?_
  refine VX_go4 (fs := []) (ok 0 _) eqs trivial 100 [] rfl trivial ?_
  refine VX_draw [] [(0, true), (1, true), (2, true), (3, true), (4, true), (5, true), (6, true), (7, true), (8, true), (9, true), (10, true), (11, true), (12, false), (13, true), (14, true), (15, true), (16, true), (17, true), (18, true), (19, false), (20, true), (21, true), (22, true), (23, true), (24, true), (25, true), (26, true), (27, true), (28, true), (29, true), (30, true), (31, true), (32, true), (33, true), (34, true), (35, true), (36, true), (37, true), (38, true), (39, true), (40, true), (41, true), (42, true)] mixed (by kernel_rfl) (by kernel_rfl) (by kernel_rfl) ?_
  refine VX_go4 (fs := []) (ok 0 _) eqs trivial 100 [] rfl trivial ?_
  refine VX_known 82 true rfl rfl rfl ?_
  refine VX_go4 (fs := []) (ok 0 _) eqs trivial 100 [] rfl trivial ?_
  refine VX_known 86 true rfl rfl rfl ?_
  refine VX_go4 (fs := []) (ok 0 _) eqs trivial 100 [] rfl trivial ?_
  refine VX_known 90 true rfl rfl rfl ?_
  refine VX_go4 (fs := []) (ok 0 _) eqs trivial 100 [] rfl trivial ?_
  refine VX_callO (ok 0 _) [78, 31] [] rfl rfl rfl rfl rfl rfl rfl rfl k7 rfl rfl rfl ?_
  refine VX_go4 (fs := []) (ok 0 _) eqs trivial 100 [] rfl trivial ?_
  refine VX_known 94 true rfl rfl rfl ?_
  refine VX_go4 (fs := []) (ok 0 _) eqs trivial 100 [] rfl trivial ?_
  refine VX_callO (ok 0 _) [78, 31, 22, 36] [] rfl rfl rfl rfl rfl rfl rfl rfl k8 rfl rfl rfl ?_
  refine VX_go4 (fs := []) (ok 0 _) eqs trivial 100 [] rfl trivial ?_
  refine VX_known 102 true rfl rfl rfl ?_
  refine VX_go4 (fs := []) (ok 0 _) eqs trivial 100 [110] rfl (by simp [allP]; omega) ?_
  refine VX_eq 109 rfl rfl (d' := .t 9 (.e (.str pc))) (congrArg (fun x => D.t 9 (.e x)) g1) ?_
  refine VX_go4 (fs := []) (ok 0 _) eqs trivial 100 [] rfl trivial ?_
  refine VX_known 112 true rfl rfl (by simp) ?_
  refine VX_go4 (fs := []) (ok 0 _) eqs trivial 100 [120] rfl (by simp [allP]; omega) ?_
  refine VX_eq 119 rfl rfl (d' := .t 33 (.e (.int pe))) (congrArg (fun x => D.t 33 (.e x)) g2) ?_
  refine VX_go4 (fs := []) (ok 0 _) eqs trivial 100 [6] rfl trivial ?_
  refine VX_known 121 true rfl rfl (by simp) ?_
  refine VX_go4 (fs := []) (ok 0 _) eqs trivial 100 [] rfl trivial ?_
  exact ⟨.inr rfl, rfl⟩
end Go.Den.Q33
/-
  What the laid variables give the walks; the world that the door leaves meets the condition.
-/
namespace Go.Proofs.YtlhmimpbpphchaaDoor
open Go.ChangeShapes Go.WideShapes Go.ChangeAt Go.RowKit
set_option linter.unusedVariables false
def laid2 : List (String × DataW Unit) := Rows.lightProofsRow.laid
theorem own : ownKnob Tryd.prog.godebug = none := by kernel_rfl
theorem laidOut : laidOutB Tryd.prog = true := by kernel_rfl
theorem gFirst : Tryd.prog.globalNamed "pontoon/sha.first" = some 0 := by kernel_rfl
theorem gConsts : Tryd.prog.globalNamed "pontoon/sha.constants" = some 1 := by kernel_rfl
theorem tFirst : (Tryd.prog.globals[0]?).map (·.type) = some 123 := by kernel_rfl
theorem tConsts : (Tryd.prog.globals[1]?).map (·.type) = some 151 := by kernel_rfl
theorem door_met (os : Os) (args : Array Value) : laidMetH Tryd.prog laid2 ((World.doorLaid Tryd.prog 400 os).forCall (fun _ _ => 0) ⟨#[], args, []⟩).memory :=
  laidMetH_of_parts3 (fuel := 8) (laidMet_of_run' 8 (by kernel_rfl) (by kernel_rfl)) (by kernel_rfl) (by kernel_rfl)
theorem of_laid {W : World} (h : laidMetH Tryd.prog laid2 W) : Go.Den.GlRel Go.Den.Q33.tb (Go.Den.Hw W) := by
  rw [MakeChecks.laidMetH_plain _ _ _ (by kernel_rfl)] at h
  obtain ⟨ps, ⟨g0, t0, cs0, f0, p0, q0, hg0, ht0, hv0, hd0, ⟨g1, t1, cs1, f1, p1, q1, hg1, ht1, hv1, hd1, _, _⟩, _⟩, _, _⟩ := h
  obtain rfl := Option.some.inj (gFirst.symm.trans hg0)
  obtain rfl := Option.some.inj (gConsts.symm.trans hg1)
  obtain rfl := Option.some.inj (tFirst.symm.trans ht0)
  obtain rfl := Option.some.inj (tConsts.symm.trans ht1)
  intro g ty x hm
  simp only [Go.Den.Q33.tb, List.mem_cons, List.not_mem_nil, or_false] at hm
  rcases hm with hm | hm
  · cases hm
    exact Go.Den.gl_ints (ns := Go.Den.Q33.kL) Go.Den.Q33.tabOk hg1 hv1 rfl rfl hd1
  · cases hm
    exact Go.Den.gl_ints (ns := Go.Den.Q33.fL) Go.Den.Q33.tabOk hg0 hv0 rfl rfl hd0
end Go.Proofs.YtlhmimpbpphchaaDoor
/- A full slice, and an append of nothing but noughts right behind it. -/
namespace Go.Den
open Go
set_option linter.unusedSectionVars false
set_option linter.unusedSimpArgs false
set_option linter.unusedVariables false
section
variable {C : Cx} {o : Oper} {env : Env} {σ : List Blk} {ts : List Nat} {Q : Post}
theorem run_appendZ (hC : Ok C) {t ti ty u : TypeId} (ht : td C.tb t = .sl u) (hti : td C.tb ti = .int .i64) (hz : plain C.tb zf u = true) {z : Value} {w : World} (hzr : ∀ w : World, (zeroValue u).run C.P w = .ok z w) {ad : Option Addr} {n m : Nat} {kk : IntKind} {olds : List Value}
    (hol : olds.length = n * sz C.tb u) (hsp : ∀ a, ad = some a → ∀ (j : Nat) v, olds[j]? = some v → w.cell? (a.add j) = some v) (hn : ad = none → n = 0) (hs0 : sz C.tb u ≠ 0) (hm : 0 < m) (hb : (n + m) * nb C.tb u ≤ maxL) (hmx : n + m ≤ maxL) :
    ∃ nc, ∃ zs : List Value, n + m ≤ nc ∧ (Builtin.append_ #[t, ti] ty #[.slice ad n n, .int kk (m : Int)]).run C.P w =
      .ok (.slice (some ⟨w.heap.size, 0, none⟩) (n + m) nc) (w.drew.alloc (.cells (olds ++ (Builtin.zeroCells z.cells m).toList ++ zs).toArray u)) := by
  have hu := plain_ne hz
  have hlt := hC.tab.lt_of_td hu
  obtain ⟨i, hi, hsz, hby⟩ := hC.tab.info hlt
  have hund := hC.tab.sl ht
  have hund2 := hC.tab.int hti
  have hr : ¬ n + m ≤ n := by omega
  have hgf := growslice_fits (show n < n + m by omega) (show (n + m) * nb C.tb u ≤ 140737488355328 from hb)
  refine ⟨Question.cut (.appendCap (n + m) n u) (w.tape w.drawn (.appendCap (n + m) n u)), (Builtin.zeroCells z.cells (Question.cut (.appendCap (n + m) n u) (w.tape w.drawn (.appendCap (n + m) n u)) - (n + m))).toList, by simp [Question.cut], ?_⟩
  have hof : (Builtin.firstCells (sz C.tb u) n (.slice ad n n)).run C.P w.drew = .ok olds.toArray w.drew := by
    cases ad with
    | none =>
      have h0 := hn rfl
      subst h0
      have : olds = [] := List.length_eq_zero_iff.1 (by simpa using hol)
      subst this; rfl
    | some a => exact run_firstCells_some _ (sz C.tb u) n a n n olds hol (fun j v hj => hsp a rfl j v hj)
  have hbig : ¬ (Builtin.nextslicecap (n + m) n * nb C.tb u > 2 ^ 48) := by omega
  have hmx' : ¬ ((n : Int) + (m : Int) > IntKind.max .i64) := by
    have : IntKind.max .i64 = 9223372036854775807 := by decide
    rw [this]; unfold maxL at hmx; omega
  have hwr : IntKind.wrap .i64 (m : Int) = (m : Int) := inR_wrap (by unfold maxL at hmx; simp [inR]; omega)
  have hb2 : ¬ ((m : Int) * (nb C.tb u : Int) > 2 ^ 48) := by
    have h1 : m * nb C.tb u ≤ (n + m) * nb C.tb u := Nat.mul_le_mul_right _ (by omega)
    have h2 : m * nb C.tb u ≤ 140737488355328 := Nat.le_trans h1 hb
    have h3 : ((m * nb C.tb u : Nat) : Int) ≤ 140737488355328 := by omega
    rw [Int.natCast_mul] at h3
    omega
  have hneg : ¬ ((m : Int) < 0) := by omega
  have hforced : (Question.appendCap (n + m) n u).forced = false := rfl
  have hms : ¬ (m * sz C.tb u = 0) := by
    intro h
    rcases Nat.mul_eq_zero.1 h with h | h
    · omega
    · exact hs0 h
  have hm0 : ¬ m = 0 := by omega
  simp [Builtin.append_, run_underlying_of hC.tab hund, run_underlying_of hC.tab hund2, sizeOf, typeInfo, hi, hsz, hby, hwr, hneg, hb2, hr, hbig, hmx', hforced, hof, hms, hm0, hs0, hzr, newRow, asInt, asIntOf]
  have q1 : ¬ (281474976710656 < (m : Int) * (nb C.tb u : Int)) := by
    have : (2 : Int) ^ 48 = 281474976710656 := by decide
    rw [this] at hb2; exact hb2
  have q2 : ¬ (9223372036854775807 < (n : Int) + (m : Int)) := by unfold maxL at hmx; omega
  rw [if_neg q1, if_neg q2]
  simp [hof]
  congr 2
  apply Array.ext'
  simp
theorem RowC.zeros {tb : Tab} {H : Gh} {u : TypeId} {cs : List Value} {z : E} (h : Rd tb H u cs z) (hl : cs.length = sz tb u) (m : Nat) : RowC tb H u (Builtin.zeroCells cs.toArray m).toList (List.replicate m z) := by
  refine ⟨by simp [Builtin.zeroCells, hl], fun i x hx => ?_⟩
  have hi : i < m := by have := (List.getElem?_eq_some_iff.1 hx).1; simpa using this
  have hxz : x = z := by
    have := (List.getElem?_eq_some_iff.1 hx).2
    simpa using this.symm
  subst hxz
  have hle : i * sz tb u + sz tb u ≤ m * sz tb u := by
    have := Nat.mul_le_mul_right (sz tb u) (show i + 1 ≤ m from hi); rwa [Nat.add_mul, Nat.one_mul] at this
  have hlen : (Builtin.zeroCells cs.toArray m).toList.length = m * sz tb u := by simp [Builtin.zeroCells, hl]
  have : seg (Builtin.zeroCells cs.toArray m).toList (i * sz tb u) (sz tb u) = cs := by
    apply List.ext_getElem?
    intro j
    by_cases hj : j < sz tb u
    · rw [seg_get hj]
      have hlt : i * sz tb u + j < m * sz tb u := by omega
      have hmod : (i * sz tb u + j) % sz tb u = j := by rw [Nat.add_comm, Nat.add_mul_mod_self_right]; exact Nat.mod_eq_of_lt hj
      have hjc : j < cs.length := by omega
      simp [Builtin.zeroCells, hl, hlt, hmod, List.getElem?_eq_getElem hjc]
    · rw [List.getElem?_eq_none (by rw [seg_length (by rw [hlen]; exact hle)]; omega), List.getElem?_eq_none (by omega)]
  rw [this]; exact h
theorem VO_fullAppend (hC : Ok C) {full : List Oper} {i j : Nat} {ord : List (Nat × Bool)} {oi oj : Oper} {t ti u : TypeId} {x y h1 h2 : Operand} {di : Nat} {dx : D} {xs : List E} {m : Nat} {z : E}
    (hi : full[i]? = some oi) (hj : full[j]? = some oj) (hwi : wants full env oi = some true) (hwj : wants full (putD env oi.dst .any) oj = some true) (hni : dstOk C.n oi.dst = true) (hnj : dstOk C.n oj.dst = true)
    (hoi : oi.op = .slice t x none (some h1) (some h2)) (hdi : oi.dst = some di) (hoj : oj.op = .call { callee := .builtin .append, args := #[.tmp di, y], argTypes := #[t, ti] })
    (ht : td C.tb t = .sl u) (hti : td C.tb ti = .int .i64) (hz : plain C.tb zf u = true) (hs0 : sz C.tb u ≠ 0) (hx : opd C.tb env t x = some dx) (hd : slE dx = some xs) (hsm : same C.tb (tagD dx) t = true)
    (hh1 : opdN env h1 = some (xs.length : Int)) (hh2 : opdN env h2 = some (xs.length : Int)) (hy : opdN (putD env oi.dst .any) y = some (m : Int)) (hm : 0 < m) (hb : (xs.length + m) * nb C.tb u ≤ maxL) (hmx : xs.length + m ≤ maxL) (hmn : xs.length + m ≤ maxN)
    (hzE : zeroT C.tb zf u = .e z)
    (hk : VO C full ts ord (putD (putD env oi.dst .any) oj.dst (.t t (.e (.sl (xs ++ List.replicate m z))))) σ Q)
    (hal1 : aloneB full ((i, false) :: (j, false) :: ord) = true) (hal2 : aloneB full ((j, false) :: ord) = true) : VO C full ts ((i, false) :: (j, false) :: ord) env σ Q := by
  intro listed hns hs hcv hsz
  simp only [okSched, Bool.and_eq_true] at hs
  have hsz1 : (listed.setIfInBounds i true).size = full.length := by simpa using hsz
  have hk0 := hk _ hns hs.2.2 hcv.step.step (by simpa using hsz)
  have ali := alone_of hcv hsz hal1
  have alj := alone_of hcv.step hsz1 hal2
  intro H β a w hr he hdef tk hS
  have hrdx := (slE_rel (opd_rel he hx) hd).cast hC.tab (same_td hsm)
  obtain ⟨ad, c, u', g1, g2, g3, g4⟩ := hrdx.sl_inv
  obtain ⟨ad2, c2, olds, q1, q2, q3⟩ := hrdx.cells_of ht
  rw [g1] at q1
  simp only [Value.slice.injEq] at q1
  obtain ⟨rfl, _, rfl⟩ := q1
  obtain ⟨k1, hk1⟩ := opdN_rel he hh1
  obtain ⟨k2, hk2⟩ := opdN_rel he hh2
  have hslice : (execOp a.eval oi).run C.P w = .ok (.value (.slice (if xs.length = 0 then ad else ad.map (·.add 0)) xs.length xs.length)) w := by
    simp [execOp, hoi, g1, Instr.sliceAt, Instr.slice, run_underlying_of hC.tab (hC.tab.sl ht), run_sizeOf_of hC.tab (lt_of_sz hC hs0), Instr.sliceBounds, hk1, hk2]
    rw [run_bound (by omega) (by omega)]
    simp
    rw [run_bound (by omega) (by omega)]
    simp
  generalize hv1 : Value.slice (if xs.length = 0 then ad else ad.map (·.add 0)) xs.length xs.length = v1 at hslice
  have he1 := he.put (v := v1) .any hni
  have hd1 : (a.put oi.dst v1).defers = [] := by cases oi.dst <;> exact hdef
  obtain ⟨ky, hky⟩ := opdN_rel he1 hy
  have hev1 : (a.put oi.dst v1).eval (.tmp di) = v1 := by
    have hlt : di < C.n := by rw [hdi] at hni; exact Nat.le_of_ble_eq_true hni
    have hsz2 : di < a.tmps.size := by rw [he.1.1]; exact hlt
    rw [hdi]
    show ((a.put (some di) v1).tmps.getD di undef) = v1
    simp [Act.put, hsz2]
  refine wpAnyD_all rfl (fun h => by rw [h] at hs; simp at hs) fun j1 hj1 => ?_
  have := ali j1 hj1
  subst this
  unfold wpOp
  have hi' : full.toArray[j1]? = some oi := by simpa using hi
  simp only [hi', wants_rel he hwi, if_true]
  refine .inl ?_
  simp only [Oper.wp, hslice, Oper.upon]
  refine ⟨.inl trivial, ?_⟩
  refine wpAnyD_all rfl (fun h => by rw [h] at hs; simp at hs) fun j2 hj2 => ?_
  have hj2un := (mem_ready.1 hj2).1
  have := alj j2 hj2
  subst this
  unfold wpOp
  have hj' : full.toArray[j2]? = some oj := by simpa using hj
  simp only [hj', wants_rel he1 hwj, if_true]
  refine .inl ?_
  have hu := plain_ne hz
  obtain ⟨ii, hii, _, _⟩ := hC.tab.info (hC.tab.lt_of_td hu)
  obtain ⟨zv, hzr0, hzc⟩ := hC.zero.get hC.tab hz w
  have hzv : ii.zero = some zv := by
    simp [zeroValue, typeInfo, hii] at hzr0
    cases hq : ii.zero with
    | none => simp [hq] at hzr0
    | some z' => simp [hq] at hzr0; rw [hzr0]
  have hzr : ∀ w' : World, (zeroValue u).run C.P w' = .ok zv w' := fun w' => by simp [zeroValue, typeInfo, hii, hzv]
  obtain ⟨nc, zs, r1, r2⟩ := run_appendZ hC (ty := oj.type) ht hti hz hzr (ad := if xs.length = 0 then ad else ad.map (·.add 0)) (n := xs.length) (m := m) (kk := ky) (olds := olds) (w := w) q2.len
    (fun aa haa jj v hv => by
      have hpos : 0 < xs.length := by
        rcases Nat.eq_zero_or_pos xs.length with h | h
        · have : olds = [] := List.length_eq_zero_iff.1 (by rw [q2.len, h, Nat.zero_mul]); subst this; simp at hv
        · exact h
      obtain ⟨b, off, p1, p2⟩ := q3 hpos
      rw [if_neg (by omega), p1] at haa
      simp only [Option.map_some, add_plain, Option.some.injEq, Nat.add_zero] at haa
      subst haa
      rw [add_plain]
      exact hr.pers _ _ _ (p2 jj v hv))
    (fun hno => by
      rcases Nat.eq_zero_or_pos xs.length with h | h
      · exact h
      · obtain ⟨b, off, p1, p2⟩ := q3 h
        rw [if_neg (by omega), p1] at hno; cases hno)
    hs0 hm hb hmx
  rw [hv1] at r2
  have hzl : Rd C.tb H u (zc C.tb zf u) z := by
    have := zeroT_rel hC.tab (H := H) (β := β) (σ := σ) zf u hz
    rw [hzE] at this; exact this.rd
  have hzlen : (zc C.tb zf u).length = sz C.tb u := hzl.len hC.tab
  have hrow := q2.app (RowC.zeros hzl hzlen m)
  have hzc' : zv.cells = (zc C.tb zf u).toArray := by rw [← hzc]
  rw [hzc'] at r2
  generalize hcs : olds ++ (Builtin.zeroCells (zc C.tb zf u).toArray m).toList = cs at r2 hrow
  let ob : Obj := .cells (cs ++ zs).toArray u
  let f : Nat → Own := fun o => if o < cs.length then .pers (cs.getD o undef) else .none
  have hcn : ∀ (jj : Nat) v, cs[jj]? = some v → (w.drew.alloc ob).cell? ⟨w.heap.size, jj, none⟩ = some v := fun jj v hj => by
    have := World.cell?_alloc_new w.drew (cs ++ zs).toArray u jj
    rw [show w.drew.heap.size = w.heap.size from rfl] at this
    rw [this]
    simp only [List.getElem?_toArray]
    rw [List.getElem?_append_left (List.getElem?_eq_some_iff.1 hj).1]; exact hj
  obtain ⟨hr2, hev⟩ := hr.drew.alloc ob f [] [] rfl (fun o v hv => by
    have hv' : (if o < cs.length then Own.pers (cs.getD o undef) else .none) = .pers v := hv
    split at hv'
    · rename_i h; cases hv'
      exact hcn o _ (by simp [List.getD, h])
    · cases hv') (fun i k bv hk => by simp at hk)
  simp only [List.append_nil] at hr2 hev
  have hstp : Stp H w _ (w.drew.alloc ob) := (Stp.drew H w).trans (Stp.alloc (w := w.drew) hr.dom ob f)
  have hfr : Frm ts H w _ (w.drew.alloc ob) := Frm.alloc (ts := ts) (w := w.drew) hr.dom ob f
  have hex : (execOp (a.put oi.dst v1).eval oj).run C.P w = .ok (.value (.slice (some ⟨w.heap.size, 0, none⟩) (xs.length + m) nc)) (w.drew.alloc ob) := by
    rw [opdArgs2 hoj, hev1, hky]
    simp [builtin, r2, ob]
  simp only [Oper.wp, hex, Oper.upon]
  have hpm := hev.pers
  have hlen : (xs ++ List.replicate m z).length = xs.length + m := by simp
  have hdr : DRel C.tb (hAlloc H w.heap.size f) β σ (.slice (some ⟨w.heap.size, 0, none⟩) (xs.length + m) nc) (.t t (.e (.sl (xs ++ List.replicate m z)))) := by
    refine .t (cs := [.slice (some ⟨w.heap.size, 0, none⟩) (xs.length + m) nc]) (by simp [VC, isAggT, ht]) (.e ?_)
    rw [← hlen]
    refine .sl (cs := cs) ht hrow.len (fun jj v hj => ?_) (fun i x hx => (hrow.el i x hx).mono hpm) (by rw [hlen]; exact r1) (by rw [hlen]; exact hmn)
    have hjl := (List.getElem?_eq_some_iff.1 hj).1
    rw [Nat.zero_add, hAlloc_new]
    show (if jj < cs.length then Own.pers (cs.getD jj undef) else .none) = _
    rw [if_pos hjl]; simp [List.getD, hj]
  have hd2 : ((a.put oi.dst v1).put oj.dst (.slice (some ⟨w.heap.size, 0, none⟩) (xs.length + m) nc)).defers = [] := by cases oj.dst <;> exact hd1
  have hS1 := hS.set j1
  refine ⟨.inr fun p hp hw => (((hS1 p hp).2.2 j2 hj2un hw).frm hfr).here, ?_⟩
  exact wpAnyD_mono2 (fun _ _ _ hl => hl.trans hstp (hev.kp C.k0)) (fun _ _ h => h) _ _ _ _ (hk0 _ β _ _ hr2 ((he1.mono hev).put hdr hnj) hd2 tk
    (fun p hp => ⟨(hS1.set j2 p hp).1, (hS1.set j2 p hp).2.1, fun q hq hw => ((hS1.set j2 p hp).2.2 q hq hw).frm hfr⟩))
theorem VX_fullAppend (hC : Ok C) {k : List It} {full : List Oper} {i j : Nat} {ord : List (Nat × Bool)} {oi oj : Oper} {t ti u : TypeId} {x y h1 h2 : Operand} {di : Nat} {dx : D} {xs : List E} {m : Nat} {z : E} {env' : Env}
    (hi : full[i]? = some oi) (hj : full[j]? = some oj) (hwi : wants full env oi = some true) (hwj : wants full (putD env oi.dst .any) oj = some true) (hni : dstOk C.n oi.dst = true) (hnj : dstOk C.n oj.dst = true)
    (hoi : oi.op = .slice t x none (some h1) (some h2)) (hdi : oi.dst = some di) (hoj : oj.op = .call { callee := .builtin .append, args := #[.tmp di, y], argTypes := #[t, ti] })
    (ht : td C.tb t = .sl u) (hti : td C.tb ti = .int .i64) (hz : plain C.tb zf u = true) (hs0 : Nat.beq (sz C.tb u) 0 = false) (hx : opd C.tb env t x = some dx) (hd : slE dx = some xs) (hsm : same C.tb (tagD dx) t = true)
    (hh1 : opdN env h1 = some (xs.length : Int)) (hh2 : opdN env h2 = some (xs.length : Int)) (hy : opdN (putD env oi.dst .any) y = some (m : Int)) (hzE : zeroT C.tb zf u = .e z)
    (he : putD (putD env oi.dst .any) oj.dst (.t t (.e (.sl (xs ++ List.replicate m z)))) = env')
    (hm : 0 < m) (hb : (xs.length + m) * nb C.tb u ≤ maxL) (hmx : xs.length + m ≤ maxL) (hmn : xs.length + m ≤ maxN)
    (hk : VX C Q (.o full ts ord :: k) .nrm env' σ)
    (hal1 : aloneB full ((i, false) :: (j, false) :: ord) = true := by kernel_rfl) (hal2 : aloneB full ((j, false) :: ord) = true := by kernel_rfl) : VX C Q (.o full ts ((i, false) :: (j, false) :: ord) :: k) .nrm env σ :=
  VO_fullAppend hC hi hj hwi hwj hni hnj hoi hdi hoj ht hti hz (Nat.ne_of_beq_eq_false hs0) hx hd hsm hh1 hh2 hy hm hb hmx hmn hzE (by subst he; exact hk) hal1 hal2
end
end Go.Den
/- Law 33: heads in order, by both; LightHeads. -/
namespace Go.Den.Q33
open Go Go.Den Go.Proofs Go.Den.Q33.Dg
set_option maxRecDepth 8000
set_option linter.unusedVariables false
set_option linter.unusedSimpArgs false
open Go.Den.Q33.Sh (dgE)
open Go.Den.Q33.Me (Dig dsE All32 z0 rootB eqDg brL provesB)

def rightB (hs : List Hd) : Bool := (List.range hs.length).all fun i => decide (folB (hs.take i) (hs.getD i z0h) = 0)
theorem rightB_no {hs : List Hd} {i : Nat} (hi : i < hs.length) (h : folB (hs.take i) (hs.getD i z0h) ≠ 0) : rightB hs = false := by
  cases hb : rightB hs with
  | false => rfl
  | true =>
    have := List.all_eq_true.1 hb i (List.mem_range.2 hi)
    simp only [decide_eq_true_eq] at this
    exact absurd this h
theorem rightB_yes {hs : List Hd} (h : ∀ i, i < hs.length → folB (hs.take i) (hs.getD i z0h) = 0) : rightB hs = true :=
  List.all_eq_true.2 fun i hi => by
    rw [h i (List.mem_range.1 hi)]; simp
theorem getD_ok {hs : List Hd} (hh : ∀ x ∈ hs, x.ok) {i : Nat} (hi : i < hs.length) : (hs.getD i z0h).ok := by
  rw [List.getD, List.getElem?_eq_getElem hi]; exact hh _ (List.getElem_mem _)

theorem rightG_ok {hs : List Hd} (hh : ∀ x ∈ hs, x.ok) (hl : hs.length ≤ 100000) : FnOk Tryd.prog tb 25 [78, 31] [4] [.nilp, liE hs] [.bool (rightB hs)] := by
  refine FnOk_of_V (fn := Tryd.f25) (bt := 4) (ok 0 _) Tryd.func25 rfl rfl rfl (by decide) fun hw => ?_
  clear hw
  have hrm : (hs.map Hd.E).length = hs.length := by simp
  apply V_of_VX
  refine VX_go4 (fs := []) (ok 0 _) eqs trivial 100 [] rfl trivial ?_
  refine VX_loopA (fun i : Nat => i ≤ hs.length ∧ ∀ j, j < i → folB (hs.take j) (hs.getD j z0h) = 0) (fun i => [(10, .t 3 (.e (.int i))), (9, .t 3 (.e (.int hs.length))), (8, .t 29 (.e (hsE hs))), (3, .ptr 0 []), (0, .t 78 (.e .nilp))])
    (fun i => [.tree 31 (.e (liE hs))]) (fun i => hs.length - i) 0 ⟨by omega, fun j h => by omega⟩ ?_ ?_
  · exact wk1 rfl rfl (by simp [Blk.under, T.under]) (lc (ls rfl rfl) (lc (li (by rw [hrm])) (lc (ls rfl rfl) (lc (ls rfl rfl) (lc (ls rfl rfl) lnil)))))
  · rintro i ⟨hi, hall⟩
    refine VX_go4 (fs := []) (ok 0 _) eqs trivial 100 [] rfl trivial ?_
    refine VX_split 11 rfl rfl (fun h => ?_) (fun h => ?_)
    · have hi : i < hs.length := by simpa using h
      have ei : IntKind.wrap .i64 ((i : Int) + 1) = ((i + 1 : Nat) : Int) := by rw [w64 (by omega) (by omega)]; simp
      have hg := hd_get hi
      have hxo := getD_ok hh hi
      have c1 := (follows_ok (hs := hs.take i) (fun x hx => hh x (List.mem_of_mem_take hx)) (by simp; omega) hxo).g
      have hno := @rightB_no hs i hi
      have hnx : folB (hs.take i) (hs.getD i z0h) = 0 → ∀ j, j < i + 1 → folB (hs.take j) (hs.getD j z0h) = 0 := fun hn j hj => by
        rcases Nat.lt_or_ge j i with h | h
        · exact hall j h
        · rw [show j = i by omega]; exact hn
      generalize folB (hs.take i) (hs.getD i z0h) = e at c1 hno hnx
      generalize hs.getD i z0h = r at hg c1
      obtain ⟨r1, r2, r3, r4, r5, r6, r7⟩ := r
      refine VX_go4 (fs := []) (ok 0 _) eqs trivial 100 [6] rfl (by simp [allP]; omega) ?_
      refine VX_eq 14 rfl rfl (d' := .t 59 (.e (Hd.E ⟨r1, r2, r3, r4, r5, r6, r7⟩))) (congrArg (fun x => D.t 59 (.e x)) hg) ?_
      refine VX_go4 (fs := []) (ok 0 _) eqs trivial 100 [] rfl trivial ?_
      refine VX_draw [] [(0, true), (1, true), (2, true), (3, true), (4, true), (5, true), (6, false), (7, true)] mixed (by kernel_rfl) (by kernel_rfl) (by kernel_rfl) ?_
      refine VX_go4 (fs := []) (ok 0 _) eqs trivial 100 [] rfl (by simp [allP]; omega) ?_
      refine VX_eq 19 rfl rfl (d' := .t 29 (.e (hsE (hs.take i)))) (show D.t 29 (.e (.sl (((hs.map Hd.E).take i).drop 0))) = D.t 29 (.e (.sl ((hs.take i).map Hd.E))) by rw [List.map_take]; rfl) ?_
      refine VX_callO (ok 0 _) [78, 29, 59] [] rfl rfl rfl rfl rfl rfl rfl rfl c1 rfl rfl rfl ?_
      refine VX_go4 (fs := []) (ok 0 _) eqs trivial 100 [] rfl trivial ?_
      by_cases he : e = 0
      · refine VX_known 22 false rfl rfl (by simp [he]) ?_
        refine VX_go4 (fs := []) (ok 0 _) eqs trivial 100 [] rfl trivial ?_
        refine loop_nrm ⟨i + 1, by omega, ⟨by omega, hnx he⟩, ?_⟩
        exact wkc [.tree 59 (.e (Hd.E ⟨r1, r2, r3, r4, r5, r6, r7⟩))] rfl rfl (by simp [Blk.under, T.under]) (lc (li (by rw [ei])) (lc (ls rfl rfl) (lc (ls rfl rfl) (lc (ls rfl rfl) (lc (ls rfl rfl) lnil)))))
      · rw [hno he]
        refine VX_known 22 true rfl rfl (by simp [he]) ?_
        refine VX_go4 (fs := []) (ok 0 _) eqs trivial 100 [] rfl trivial ?_
        apply loop_ret
        exact ⟨.inr rfl, rfl⟩
    · have : i = hs.length := by simp at h; omega
      subst this
      rw [rightB_yes hall]
      refine VX_go4 (fs := []) (ok 0 _) eqs trivial 100 [] rfl trivial ?_
      apply loop_brk
      refine VX_go4 (fs := []) (ok 0 _) eqs trivial 100 [] rfl trivial ?_
      exact ⟨.inr rfl, rfl⟩
theorem rrightG_ok {hs : List Hd} (hh : ∀ x ∈ hs, x.ok) (hl : hs.length ≤ 100000) : FnOk Tryd.prog tb 26 [61, 53] [4] [.nilp, hsE hs] [.bool (rightB hs)] := by
  refine FnOk_of_V (fn := Tryd.f26) (bt := 4) (ok 0 _) Tryd.func26 rfl rfl rfl (by decide) fun hw => ?_
  clear hw
  have hrm : (hs.map Hd.E).length = hs.length := by simp
  apply V_of_VX
  refine VX_go4 (fs := []) (ok 0 _) eqs trivial 100 [] rfl trivial ?_
  refine VX_loopA (fun i : Nat => i ≤ hs.length ∧ ∀ j, j < i → folB (hs.take j) (hs.getD j z0h) = 0) (fun i => [(8, .t 3 (.e (.int i))), (7, .t 3 (.e (.int hs.length))), (1, .t 53 (.e (hsE hs))), (0, .t 61 (.e .nilp))])
    (fun i => []) (fun i => hs.length - i) 0 ⟨by omega, fun j h => by omega⟩ ?_ ?_
  · exact wk1 rfl rfl (by simp [Blk.under, T.under]) (lc (ls rfl rfl) (lc (li (by rw [hrm])) (lc (ls rfl rfl) (lc (ls rfl rfl) lnil))))
  · rintro i ⟨hi, hall⟩
    refine VX_go4 (fs := []) (ok 0 _) eqs trivial 100 [] rfl trivial ?_
    refine VX_split 9 rfl rfl (fun h => ?_) (fun h => ?_)
    · have hi : i < hs.length := by simpa using h
      have ei : IntKind.wrap .i64 ((i : Int) + 1) = ((i + 1 : Nat) : Int) := by rw [w64 (by omega) (by omega)]; simp
      have hg := hd_get hi
      have hxo := getD_ok hh hi
      have c1 := (rextend_ok (hs := hs.take i) (fun x hx => hh x (List.mem_of_mem_take hx)) (by simp; omega) hxo).g
      have hno := @rightB_no hs i hi
      have hnx : folB (hs.take i) (hs.getD i z0h) = 0 → ∀ j, j < i + 1 → folB (hs.take j) (hs.getD j z0h) = 0 := fun hn j hj => by
        rcases Nat.lt_or_ge j i with h | h
        · exact hall j h
        · rw [show j = i by omega]; exact hn
      generalize folB (hs.take i) (hs.getD i z0h) = e at c1 hno hnx
      generalize hs.getD i z0h = r at hg c1
      obtain ⟨r1, r2, r3, r4, r5, r6, r7⟩ := r
      refine VX_go4 (fs := []) (ok 0 _) eqs trivial 100 [] rfl trivial ?_
      refine VX_draw [] [(0, true), (1, true), (2, true), (3, true), (4, true), (5, true), (6, true), (7, true), (8, false), (9, true)] mixed (by kernel_rfl) (by kernel_rfl) (by kernel_rfl) ?_
      refine VX_go4 (fs := []) (ok 0 _) eqs trivial 100 [] rfl (by simp [allP]; omega) ?_
      refine VX_eq 14 rfl rfl (d' := .t 53 (.e (hsE (hs.take i)))) (show D.t 53 (.e (.sl (((hs.map Hd.E).take i).drop 0))) = D.t 53 (.e (.sl ((hs.take i).map Hd.E))) by rw [List.map_take]; rfl) ?_
      refine VX_eq 18 rfl rfl (d' := .t 63 (.e (Hd.E ⟨r1, r2, r3, r4, r5, r6, r7⟩))) (congrArg (fun x => D.t 63 (.e x)) hg) ?_
      refine VX_callO (ok 0 _) [61, 53, 63] [] rfl rfl rfl rfl rfl rfl rfl rfl c1 rfl rfl rfl ?_
      refine VX_go4 (fs := []) (ok 0 _) eqs trivial 100 [] rfl trivial ?_
      by_cases he : e = 0
      · refine VX_known 20 false rfl rfl (by simp [he]) ?_
        refine VX_go4 (fs := []) (ok 0 _) eqs trivial 100 [] rfl trivial ?_
        refine loop_nrm ⟨i + 1, by omega, ⟨by omega, hnx he⟩, ?_⟩
        exact wk1 rfl rfl (by simp [Blk.under, T.under]) (lc (li (by rw [ei])) (lc (ls rfl rfl) (lc (ls rfl rfl) (lc (ls rfl rfl) lnil))))
      · rw [hno he]
        refine VX_known 20 true rfl rfl (by simp [he]) ?_
        refine VX_go4 (fs := []) (ok 0 _) eqs trivial 100 [] rfl trivial ?_
        apply loop_ret
        exact ⟨.inr rfl, rfl⟩
    · have : i = hs.length := by simp at h; omega
      subst this
      rw [rightB_yes hall]
      refine VX_go4 (fs := []) (ok 0 _) eqs trivial 100 [] rfl trivial ?_
      apply loop_brk
      refine VX_go4 (fs := []) (ok 0 _) eqs trivial 100 [] rfl trivial ?_
      exact ⟨.inr rfl, rfl⟩
end Go.Den.Q33
/- Law 33: LightHeads, walked. -/
namespace Go.Den.Q33
open Go Go.Den Go.Proofs Go.Den.Q33.Dg
set_option maxRecDepth 8000
set_option linter.unusedVariables false
set_option linter.unusedSimpArgs false
open Go.Den.Q33.Sh (dgE)
open Go.Den.Q33.Me (Dig dsE All32 z0 rootB eqDg brL provesB)

theorem eqHd (x : Hd) : eqE x.E x.E = true := by simp [Hd.E, eqE, eqEs, eqDg]
theorem z0h_ok : z0h.ok := ⟨by simp [z0h], by simp [z0h, z0], by simp [z0h], by simp [z0h, z0], by simp [z0h, z0], by simp [z0h, z0], by simp [z0h]⟩
theorem ext_full {hs : List Hd} (hh : ∀ x ∈ hs, x.ok) (hl : hs.length ≤ 30) {h : Hd} (ho : h.ok) :
    FnOk Tryd.prog tb 17 [78, 31, 59] [31, 33] [.nilp, .agg [.sl (hs.map Hd.E ++ List.replicate (4096 - hs.length) z0h.E)], h.E] [.agg [.sl (hs.map Hd.E ++ List.replicate (4096 - hs.length) z0h.E)], .int 6] := by
  have hlen : (hs ++ List.replicate (4096 - hs.length) z0h).length = 4096 := by simp; omega
  have h1 := extend_ok (hs := hs ++ List.replicate (4096 - hs.length) z0h) (fun x hx => by
    rcases List.mem_append.1 hx with h | h
    · exact hh x h
    · rw [(List.mem_replicate.1 h).2]; exact z0h_ok) (by rw [hlen]; omega) ho
  have f : folB (hs ++ List.replicate (4096 - hs.length) z0h) h = 6 := by unfold folB; rw [hlen, if_pos (by omega)]
  have e : extB (hs ++ List.replicate (4096 - hs.length) z0h) h = hs ++ List.replicate (4096 - hs.length) z0h := by unfold extB; rw [f, if_neg (by omega)]
  rw [f, e] at h1
  have m : liE (hs ++ List.replicate (4096 - hs.length) z0h) = .agg [.sl (hs.map Hd.E ++ List.replicate (4096 - hs.length) z0h.E)] := by simp [liE, hsE]
  rw [m] at h1
  exact h1
theorem ext_last (hs : List Hd) (h : Hd) : ((hs ++ [h]).map Hd.E).getD hs.length .nilp = h.E := by simp [List.getD]

set_option maxHeartbeats 3200000 in
theorem law_heads (x0 x1 x2 x3 x4 : E) : FnOk Tryd.prog tb 5 [28, 24, 31, 59, 4] [4] [x0, x1, x2, x3, x4] [.bool true] := by
  refine FnOk_of_V (fn := Tryd.f5) (bt := 4) (ok 0 _) Tryd.func5 rfl rfl rfl (by decide) fun hw => ?_
  obtain ⟨⟨x, hxo⟩, rfl⟩ := wt_bk (hw 0 _ x0 rfl rfl)
  obtain ⟨⟨d, hdl⟩, rfl⟩ := wt_dg (hw 1 _ x1 rfl rfl)
  obtain ⟨hs, rfl, hho⟩ := wt_li (hw 2 _ x2 rfl rfl)
  obtain ⟨⟨h, ho⟩, rfl⟩ := wt_hd (hw 3 _ x3 rfl rfl)
  obtain ⟨fl, rfl⟩ := wt_bool (hw 4 _ x4 rfl rfl) rfl
  clear hw
  simp only
  have hrm : (hs.map Hd.E).length = hs.length := by simp
  have c1 := awake_ok.g
  have c2 := (few_ok x).g
  have hfx := few_small (x := x)
  generalize fewB x = fx at c2 hfx
  apply V_of_VX
  refine VX_go4 (fs := []) (ok 0 _) eqs trivial 100 [] rfl trivial ?_
  refine VX_callD (ok 0 _) [] [] rfl rfl rfl rfl rfl rfl c1 rfl rfl rfl ?_
  refine VX_go4 (fs := []) (ok 0 _) eqs trivial 100 [] rfl trivial ?_
  refine VX_known 17 false rfl rfl rfl ?_
  refine VX_go4 (fs := []) (ok 0 _) eqs trivial 100 [] rfl trivial ?_
  refine VX_callD (ok 0 _) [28] [] rfl rfl rfl rfl rfl rfl c2 rfl rfl rfl ?_
  refine VX_go4 (fs := []) (ok 0 _) eqs trivial 100 [] rfl trivial ?_
  cases fx with
  | false =>
    refine VX_known 21 true rfl rfl rfl ?_
    refine VX_go4 (fs := []) (ok 0 _) eqs trivial 100 [] rfl trivial ?_
    exact ⟨.inr rfl, rfl⟩
  | true =>
  obtain ⟨sx, hc12, hr12⟩ := hfx rfl
  refine VX_known 21 false rfl rfl rfl ?_
  refine VX_go4 (fs := []) (ok 0 _) eqs trivial 100 [] rfl trivial ?_
  refine VX_split 26 rfl rfl (fun _ => ?_) (fun h1 => ?_)
  · refine VX_go4 (fs := []) (ok 0 _) eqs trivial 100 [] rfl trivial ?_
    exact ⟨.inr rfl, rfl⟩
  have h1 : hs.length ≤ 30 := by simp only [hrm, decide_eq_false_iff_not] at h1; omega
  refine VX_go4 (fs := []) (ok 0 _) eqs trivial 100 [] rfl trivial ?_
  cases fl with
  | true =>
    have k1 := (ext_full hho h1 ho).g
    have e40 : IntKind.wrap .i64 (4096 - (((hs.map Hd.E).length : Nat) : Int)) = ((4096 - hs.length : Nat) : Int) := by rw [hrm, w64 (by omega) (by omega)]; omega
    obtain ⟨b1, b2, b3, b4, b5, b6, b7⟩ := h
    refine VX_known 27 true rfl rfl rfl ?_
    refine VX_go4 (fs := []) (ok 0 _) eqs trivial 100 [] rfl trivial ?_
    refine VX_draw [] [(0, true), (1, true), (2, true), (3, true), (4, true), (5, true), (6, true), (7, true), (9, true), (10, true), (11, true), (12, true), (8, false), (13, false), (14, true), (15, false)] mixed (by kernel_rfl) (by kernel_rfl) (by kernel_rfl) ?_
    refine VX_go4 (fs := []) (ok 0 _) eqs trivial 100 [] rfl trivial ?_
    refine VX_eq 40 rfl rfl (d' := .t 3 (.e (.int (4096 - hs.length : Nat)))) (congrArg (fun x => D.t 3 (.e (.int x))) e40) ?_
    refine VX_fullAppend (ok 0 _) (xs := hs.map Hd.E) (m := 4096 - hs.length) (z := z0h.E) rfl rfl rfl rfl rfl rfl rfl rfl rfl rfl rfl rfl rfl rfl rfl rfl rfl rfl rfl rfl rfl (by omega) (by simp [nb, tb, maxL]; omega) (by simp [maxL]; omega) (by simp [maxN]; omega) ?_
    refine VX_go4 (fs := []) (ok 0 _) eqs trivial 100 [] rfl trivial ?_
    refine VX_ts [2] (by kernel_rfl) ?_
    refine VX_storeO (ok 0 _) rfl rfl rfl rfl rfl rfl (by simp) ?_
    refine VX_go4 (fs := []) (ok 0 _) eqs trivial 100 [] rfl trivial ?_
    refine VX_callD (ok 0 _) [78, 31, 59] [] rfl rfl rfl rfl rfl rfl k1 rfl rfl rfl ?_
    refine VX_go4 (fs := []) (ok 0 _) eqs trivial 100 [] rfl trivial ?_
    exact ⟨.inr rfl, rfl⟩
  | false =>
    refine VX_known 27 false rfl rfl rfl ?_
    refine VX_go4 (fs := []) (ok 0 _) eqs trivial 100 [] rfl trivial ?_
    have k1 := (extend_ok hho (by omega) ho).g
    have k2 := (heads_ok hs (by omega)).g
    have k3 := (rextend_ok hho (by omega) ho).g
    have k4 := (of_ok sx d).g
    have k5 := (to_ok x (by omega)).g
    have k6 := (rofh_ok sx d).g
    have k7 := (hash_ok ho).g
    have k8 := (rhash_ok ho).g
    have k9 := (rightG_ok hho (by omega)).g
    have k10 := (rrightG_ok hho (by omega)).g
    have q1 := eqHd (ofHB x d)
    have q2 := eqHd h
    have q3 := eqDg (hashB h)
    have hx1 : folB hs h = 0 → extB hs h = hs ++ [h] := fun e => by rw [extB, if_pos e]
    have hx2 : folB hs h ≠ 0 → extB hs h = hs := fun e => by rw [extB, if_neg e]
    generalize folB hs h = e at k1 k3 hx1 hx2
    generalize extB hs h = hs' at k1 hx1 hx2
    generalize ofHB x d = hd at k4 k6 q1
    generalize hashB h = dg at k7 k8 q3
    generalize rightB hs = rb at k9 k10
    have hrm' : (hs'.map Hd.E).length = hs'.length := by simp
    obtain ⟨a1, a2, a3, a4, a5, a6, a7⟩ := hd
    obtain ⟨b1, b2, b3, b4, b5, b6, b7⟩ := h
    refine VX_callD (ok 0 _) [78, 31, 59] [] rfl rfl rfl rfl rfl rfl k1 rfl rfl rfl ?_
    refine VX_go4 (fs := []) (ok 0 _) eqs trivial 100 [] rfl trivial ?_
    refine VX_draw [] [(0, true), (2, true), (1, false), (3, false), (4, true)] mixed (by kernel_rfl) (by kernel_rfl) (by kernel_rfl) ?_
    refine VX_go4 (fs := []) (ok 0 _) eqs trivial 100 [] rfl trivial ?_
    refine VX_callO (ok 0 _) [31] [] rfl rfl rfl rfl rfl rfl rfl rfl k2 rfl rfl rfl ?_
    refine VX_callO (ok 0 _) [61, 53, 63] [] rfl rfl rfl rfl rfl rfl rfl rfl k3 rfl rfl rfl ?_
    refine VX_go4 (fs := []) (ok 0 _) eqs trivial 100 [] rfl trivial ?_
    refine VX_draw [] [(0, true), (1, true), (2, true), (3, true), (4, true), (5, true), (6, true), (7, true), (8, true), (9, true), (10, true), (11, true), (12, true), (13, true), (14, true), (15, true), (16, true), (17, true), (18, true), (19, true), (20, true), (21, true), (22, true), (23, true), (24, true), (25, true), (26, true), (27, true), (28, true), (29, true), (30, true)] mixed (by kernel_rfl) (by kernel_rfl) (by kernel_rfl) ?_
    refine VX_go4 (fs := []) (ok 0 _) eqs trivial 100 [] rfl trivial ?_
    refine VX_known 64 false rfl rfl (by simp) ?_
    refine VX_go4 (fs := []) (ok 0 _) eqs trivial 100 [] rfl trivial ?_
    have ew : IntKind.wrap .i64 ((((hs.map Hd.E).length : Nat) : Int) + 1) = (hs.length + 1 : Nat) := by rw [hrm, w64 (by omega) (by omega)]; omega
    by_cases he : e = 0
    · have hs'e := hx1 he
      subst hs'e
      subst he
      have hgl := ext_last hs ⟨b1, b2, b3, b4, b5, b6, b7⟩
      have hl2 : ((hs ++ [(⟨b1, b2, b3, b4, b5, b6, b7⟩ : Hd)]).map Hd.E).length = hs.length + 1 := by simp
      refine VX_known 77 false rfl rfl (by rw [ew, hl2]; simp) ?_
      refine VX_go4 (fs := []) (ok 0 _) eqs trivial 100 [] rfl trivial ?_
      refine VX_known 80 true rfl rfl rfl ?_
      refine VX_go4 (fs := []) (ok 0 _) eqs trivial 100 [88] rfl (by simp [allP]; omega) ?_
      refine VX_eq 87 rfl rfl (d' := .t 59 (.e (Hd.E ⟨b1, b2, b3, b4, b5, b6, b7⟩))) (congrArg (fun x => D.t 59 (.e x)) (by rw [← hgl]; rw [hrm]; rfl)) ?_
      refine VX_go4 (fs := []) (ok 0 _) eqs trivial 100 [] rfl trivial ?_
      refine VX_known 91 false rfl rfl (by show (!eqE (Hd.E ⟨b1, b2, b3, b4, b5, b6, b7⟩) (Hd.E ⟨b1, b2, b3, b4, b5, b6, b7⟩)) = _; rw [q2]; rfl) ?_
      refine VX_go4 (fs := []) (ok 0 _) eqs trivial 100 [] rfl trivial ?_
      refine VX_draw [] [(0, true), (1, true), (3, true), (5, true), (2, false), (4, false), (6, false), (7, true), (8, true), (9, true), (11, true), (10, false), (12, false), (13, true), (14, true), (15, true), (16, true), (18, true), (17, false), (19, false), (20, false), (21, true), (22, true), (23, true)] mixed (by kernel_rfl) (by kernel_rfl) (by kernel_rfl) ?_
      refine VX_go4 (fs := []) (ok 0 _) eqs trivial 100 [] rfl trivial ?_
      refine VX_callO (ok 0 _) [78, 28, 24] [] rfl rfl rfl rfl rfl rfl rfl rfl k4 rfl rfl rfl ?_
      refine VX_callO (ok 0 _) [28] [] rfl rfl rfl rfl rfl rfl rfl rfl k5 rfl rfl rfl ?_
      refine VX_callO (ok 0 _) [61, 47, 24] [] rfl rfl rfl rfl rfl rfl rfl rfl k6 rfl rfl rfl ?_
      refine VX_go4 (fs := []) (ok 0 _) eqs trivial 100 [] rfl trivial ?_
      refine VX_known 100 true rfl rfl q1 ?_
      refine VX_go4 (fs := []) (ok 0 _) eqs trivial 100 [] rfl trivial ?_
      refine VX_callO (ok 0 _) [78, 59] [] rfl rfl rfl rfl rfl rfl rfl rfl k7 rfl rfl rfl ?_
      refine VX_callO (ok 0 _) [61, 63] [] rfl rfl rfl rfl rfl rfl rfl rfl k8 rfl rfl rfl ?_
      refine VX_go4 (fs := []) (ok 0 _) eqs trivial 100 [] rfl trivial ?_
      refine VX_known 107 true rfl rfl q3 ?_
      refine VX_go4 (fs := []) (ok 0 _) eqs trivial 100 [] rfl trivial ?_
      refine VX_callO (ok 0 _) [78, 31] [] rfl rfl rfl rfl rfl rfl rfl rfl k9 rfl rfl rfl ?_
      refine VX_callO (ok 0 _) [31] [] rfl rfl rfl rfl rfl rfl rfl rfl k2 rfl rfl rfl ?_
      refine VX_callO (ok 0 _) [61, 53] [] rfl rfl rfl rfl rfl rfl rfl rfl k10 rfl rfl rfl ?_
      refine VX_go4 (fs := []) (ok 0 _) eqs trivial 100 [114] rfl trivial ?_
      refine VX_known 113 true rfl rfl (by simp) ?_
      refine VX_go4 (fs := []) (ok 0 _) eqs trivial 100 [] rfl trivial ?_
      exact ⟨.inr rfl, rfl⟩
    · have hs'e := hx2 he
      subst hs'e
      refine VX_known 77 false rfl rfl (by rw [ew, hrm]; simp [he]; try omega) ?_
      refine VX_go4 (fs := []) (ok 0 _) eqs trivial 100 [] rfl trivial ?_
      refine VX_known 80 false rfl rfl (by simp [he]) ?_
      refine VX_go4 (fs := []) (ok 0 _) eqs trivial 100 [] rfl trivial ?_
      refine VX_draw [] [(0, true), (1, true), (3, true), (5, true), (2, false), (4, false), (6, false), (7, true), (8, true), (9, true), (11, true), (10, false), (12, false), (13, true), (14, true), (15, true), (16, true), (18, true), (17, false), (19, false), (20, false), (21, true), (22, true), (23, true)] mixed (by kernel_rfl) (by kernel_rfl) (by kernel_rfl) ?_
      refine VX_go4 (fs := []) (ok 0 _) eqs trivial 100 [] rfl trivial ?_
      refine VX_callO (ok 0 _) [78, 28, 24] [] rfl rfl rfl rfl rfl rfl rfl rfl k4 rfl rfl rfl ?_
      refine VX_callO (ok 0 _) [28] [] rfl rfl rfl rfl rfl rfl rfl rfl k5 rfl rfl rfl ?_
      refine VX_callO (ok 0 _) [61, 47, 24] [] rfl rfl rfl rfl rfl rfl rfl rfl k6 rfl rfl rfl ?_
      refine VX_go4 (fs := []) (ok 0 _) eqs trivial 100 [] rfl trivial ?_
      refine VX_known 100 true rfl rfl q1 ?_
      refine VX_go4 (fs := []) (ok 0 _) eqs trivial 100 [] rfl trivial ?_
      refine VX_callO (ok 0 _) [78, 59] [] rfl rfl rfl rfl rfl rfl rfl rfl k7 rfl rfl rfl ?_
      refine VX_callO (ok 0 _) [61, 63] [] rfl rfl rfl rfl rfl rfl rfl rfl k8 rfl rfl rfl ?_
      refine VX_go4 (fs := []) (ok 0 _) eqs trivial 100 [] rfl trivial ?_
      refine VX_known 107 true rfl rfl q3 ?_
      refine VX_go4 (fs := []) (ok 0 _) eqs trivial 100 [] rfl trivial ?_
      refine VX_callO (ok 0 _) [78, 31] [] rfl rfl rfl rfl rfl rfl rfl rfl k9 rfl rfl rfl ?_
      refine VX_callO (ok 0 _) [31] [] rfl rfl rfl rfl rfl rfl rfl rfl k2 rfl rfl rfl ?_
      refine VX_callO (ok 0 _) [61, 53] [] rfl rfl rfl rfl rfl rfl rfl rfl k10 rfl rfl rfl ?_
      refine VX_go4 (fs := []) (ok 0 _) eqs trivial 100 [114] rfl trivial ?_
      refine VX_known 113 true rfl rfl (by simp) ?_
      refine VX_go4 (fs := []) (ok 0 _) eqs trivial 100 [] rfl trivial ?_
      exact ⟨.inr rfl, rfl⟩
end Go.Den.Q33
