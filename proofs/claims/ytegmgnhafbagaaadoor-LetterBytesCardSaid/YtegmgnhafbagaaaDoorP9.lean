/- The calculus and the walks, part 9: Q9dQ, Q9dU, Q9dX. -/
import Derived.Test.YtegmgnhafbagaaaDoorP8
import Derived.Test.YtegmgnhafbagaaaDoorRows
import Derived.WalkKit
import Derived.ProofKit
import Derived.OpenShut
import Derived.ShutString
import Derived.ChangeOld
import Derived.LaidMore
import Derived.Stop.Joined
import Derived.Below
import Derived.Test.YtegmgnhafbagaaaDoorP6
/- Law 09: a letter's bytes as the reference makes and reads them. -/
namespace Go.Den.Q9d
open Go Go.Den Go.Proofs Go.Den.Q9d.Wi Go.Den.Q9d.Rr
set_option maxRecDepth 8000
set_option linter.unusedVariables false
set_option linter.unusedSimpArgs false

theorem rright_ok (a b c : Nat) (s r y : List UInt8) (hs : s.length ≤ 900000) (hr : r.length ≤ 900000) : FnOk Tryd.prog tb 8 [24] [4] [ltE a b c s r y] [.bool (rightB s r y)] := by
  refine FnOk_of_V (fn := Tryd.f8) (bt := 4) (ok 0 _) Tryd.func8 rfl rfl rfl (by decide) fun hw => ?_
  clear hw
  have c1 := (rname_ok s hs).g
  have c2 := (rname_ok r hr).g
  unfold rightB
  generalize nameB s = b1 at c1 ⊢
  generalize nameB r = b2 at c2 ⊢
  apply V_of_VX
  refine VX_go4 (fs := []) (ok 0 _) eqs trivial 100 [] rfl trivial ?_
  refine VX_callD (ok 0 _) [9] [] rfl rfl rfl rfl rfl rfl c1 rfl rfl rfl ?_
  refine VX_go4 (fs := []) (ok 0 _) eqs trivial 100 [] rfl trivial ?_
  cases b1 with
  | false =>
    refine VX_known 6 false rfl rfl rfl ?_
    refine VX_go4 (fs := []) (ok 0 _) eqs trivial 100 [] rfl trivial ?_
    exact ⟨.inr rfl, rfl⟩
  | true =>
  refine VX_known 6 true rfl rfl rfl ?_
  refine VX_go4 (fs := []) (ok 0 _) eqs trivial 100 [] rfl trivial ?_
  refine VX_callD (ok 0 _) [9] [] rfl rfl rfl rfl rfl rfl c2 rfl rfl rfl ?_
  refine VX_go4 (fs := []) (ok 0 _) eqs trivial 100 [] rfl trivial ?_
  cases b2 with
  | false =>
    refine VX_known 11 false rfl rfl rfl ?_
    refine VX_go4 (fs := []) (ok 0 _) eqs trivial 100 [] rfl trivial ?_
    exact ⟨.inr rfl, rfl⟩
  | true =>
  refine VX_known 11 true rfl rfl rfl ?_
  refine VX_go4 (fs := []) (ok 0 _) eqs trivial 100 [] rfl trivial ?_
  have : (true && true && decide (y.length ≤ 300)) = decide ((y.length : Int) ≤ 300) := by rw [Bool.true_and, Bool.true_and, decide_eq_decide]; omega
  rw [this]
  exact ⟨.inr rfl, rfl⟩
theorem u64w (n : Nat) (h : n < 4294967296) : IntKind.wrap .u64 (n : Int) = (n : Int) := inR_wrap (by simp [inR]; omega)
theorem u32w (n : Nat) (h : n < 4294967296) : IntKind.wrap .u32 (n : Int) = (n : Int) := inR_wrap (by simp [inR]; omega)
set_option maxHeartbeats 800000 in
theorem rplain_ok (a b c : Nat) (s r y : List UInt8) (ha : a < 4294967296) (hb : b < 4294967296) (hc : c < 4294967296) (hs : s.length ≤ 20000) (hr : r.length ≤ 20000) (hy : y.length ≤ 20000) : FnOk Tryd.prog tb 9 [24] [9] [ltE a b c s r y] [.str (plainB a b c s r y)] := by
  refine FnOk_of_V (fn := Tryd.f9) (bt := 4) (ok 0 _) Tryd.func9 rfl rfl rfl (by decide) fun hw => ?_
  clear hw
  apply V_of_VX
  have z1 : (textB s).length = 4 + s.length := by simp [textB, bigB_length]
  have z2 : (textB r).length = 4 + r.length := by simp [textB, bigB_length]
  have z3 : (textB y).length = 4 + y.length := by simp [textB, bigB_length]
  refine VX_go4 (fs := []) (ok 0 _) eqs trivial 100 [7] rfl trivial ?_
  refine VX_eq 6 rfl rfl (d' := .t 45 (.e (.int a))) (congrArg (fun x => D.t 45 (.e (.int x))) (u64w a ha)) ?_
  refine VX_callD (ok 0 _) [45, 3] [] rfl rfl rfl rfl rfl rfl (Big_ok a 4 (by omega) (by omega) (by omega)).g rfl rfl rfl ?_
  refine VX_go4 (fs := []) (ok 0 _) eqs trivial 100 [12] rfl trivial ?_
  refine VX_eq 11 rfl rfl (d' := .t 45 (.e (.int b))) (congrArg (fun x => D.t 45 (.e (.int x))) (u64w b hb)) ?_
  refine VX_callD (ok 0 _) [45, 3] [] rfl rfl rfl rfl rfl rfl (Big_ok b 4 (by omega) (by omega) (by omega)).g rfl rfl rfl ?_
  refine VX_go4 (fs := []) (ok 0 _) eqs trivial 100 [18] rfl (by simp only [allP, List.length_append, bigB_length, maxI]; omega) ?_
  refine VX_eq 17 rfl rfl (d' := .t 45 (.e (.int c))) (congrArg (fun x => D.t 45 (.e (.int x))) (u64w c hc)) ?_
  refine VX_callD (ok 0 _) [45, 3] [] rfl rfl rfl rfl rfl rfl (Big_ok c 4 (by omega) (by omega) (by omega)).g rfl rfl rfl ?_
  refine VX_go4 (fs := []) (ok 0 _) eqs trivial 100 [] rfl (by simp only [allP, List.length_append, bigB_length, maxI]; omega) ?_
  refine VX_draw [] [(0, true), (1, true), (2, true), (5, true), (6, true), (9, true), (10, true), (3, false), (4, true), (7, false), (8, true), (11, false), (12, true), (13, true)] mixed (by kernel_rfl) (by kernel_rfl) (by kernel_rfl) ?_
  refine VX_go4 (fs := []) (ok 0 _) eqs trivial 100 [] rfl trivial ?_
  refine VX_callO (ok 0 _) [9] [] rfl rfl rfl rfl rfl rfl rfl rfl (rtext_ok s (by omega)).g rfl rfl rfl ?_
  refine VX_go4 (fs := []) (ok 0 _) eqs trivial 100 [] rfl (by simp only [allP, List.length_append, bigB_length, maxI]; omega) ?_
  refine VX_callO (ok 0 _) [9] [] rfl rfl rfl rfl rfl rfl rfl rfl (rtext_ok r (by omega)).g rfl rfl rfl ?_
  refine VX_go4 (fs := []) (ok 0 _) eqs trivial 100 [] rfl (by simp only [allP, List.length_append, bigB_length, maxI]; omega) ?_
  refine VX_callO (ok 0 _) [9] [] rfl rfl rfl rfl rfl rfl rfl rfl (rtext_ok y (by omega)).g rfl rfl rfl ?_
  refine VX_go4 (fs := []) (ok 0 _) eqs trivial 100 [] rfl (by simp only [allP, List.length_append, bigB_length, maxI]; omega) ?_
  exact ⟨.inr rfl, rfl⟩

/-! ### reading -/
theorem rfail_ok (s : List UInt8) (e f : Int) : FnG Tryd.prog tb 52 [rrd s e] [.ptr 0 [], .t 3 (.e (.int f))] (fun d t => d = .tup [] ∧ t = [rrd s (failB e f)]) := by
  refine FnG_of_V (fn := Tryd.f52) (bt := 4) false [] [] (ok 1 _) Tryd.func52 rfl rfl rfl fun _ _ _ _ _ _ => ?_
  apply V_of_VX
  refine VX_go4 (fs := []) (ok 1 _) eqs trivial 100 [] rfl trivial ?_
  unfold failB
  by_cases he : e = 0
  · rw [if_pos he]
    refine VX_known 8 true rfl rfl (by simp [he]) ?_
    refine VX_go4 (fs := []) (ok 1 _) eqs trivial 100 [] rfl trivial ?_
    exact ⟨.inl rfl, _, _, _, rfl, rfl, rfl, rfl, rfl⟩
  · rw [if_neg he]
    refine VX_known 8 false rfl rfl (by simp [he]) ?_
    refine VX_go4 (fs := []) (ok 1 _) eqs trivial 100 [] rfl trivial ?_
    exact ⟨.inl rfl, _, _, _, rfl, rfl, rfl, rfl, rfl⟩
theorem rmany_ok (s : List UInt8) (e : Int) (m : Nat) (hm : m < 4294967296) : FnG Tryd.prog tb 41 [rrd s e] [.ptr 0 [], .t 3 (.e (.int m))] (fun d t => d = .t 3 (.e (.int (countB s e m).1)) ∧ t = [rrd (countB s e m).2.1 (countB s e m).2.2]) := by
  refine FnG_of_V (fn := Tryd.f41) (bt := 4) false [] [3] (ok 1 _) Tryd.func41 rfl rfl rfl fun _ _ _ _ _ _ => ?_
  apply V_of_VX
  refine VX_go4 (fs := []) (ok 1 _) eqs trivial 100 [] rfl trivial ?_
  refine VX_callD (ok 1 _) [52, 3] [0] rfl rfl rfl rfl rfl rfl (Rr.number_ok s e 4 (by omega)) rfl rfl rfl ?_
  have hv := numV_le (takeB_len s e 4)
  have hmx : mx (m : Int) = m := by unfold mx; rw [if_neg (by omega)]; simp
  unfold countB
  rw [hmx]
  generalize numV (takeB s e 4).1 = n at hv ⊢
  generalize (takeB s e 4).2.1 = s'
  generalize (takeB s e 4).2.2 = e'
  refine VX_go4 (fs := []) (ok 1 _) eqs trivial 100 [] rfl trivial ?_
  refine VX_known 10 false rfl rfl (by simp) ?_
  refine VX_go4 (fs := []) (ok 1 _) eqs trivial 100 [] rfl trivial ?_
  refine VX_known 17 true rfl rfl (by simp) ?_
  refine VX_go4 (fs := []) (ok 1 _) eqs trivial 100 [21] rfl trivial ?_
  refine VX_eq 20 rfl rfl (d' := .t 45 (.e (.int m))) (congrArg (fun x => D.t 45 (.e (.int x))) (u64w m hm)) ?_
  refine VX_go4 (fs := []) (ok 1 _) eqs trivial 100 [] rfl trivial ?_
  by_cases hq : m < n
  · rw [if_pos hq]
    refine VX_known 23 true rfl rfl (by simp; omega) ?_
    refine VX_go4 (fs := []) (ok 1 _) eqs trivial 100 [] rfl trivial ?_
    refine VX_callD (ok 1 _) [52, 3] [0] rfl rfl rfl rfl rfl rfl (rfail_ok s' e' 5) rfl rfl rfl ?_
    refine VX_go4 (fs := []) (ok 1 _) eqs trivial 100 [] rfl trivial ?_
    exact ⟨.inr rfl, _, _, _, rfl, rfl, rfl, rfl, rfl⟩
  · rw [if_neg hq]
    have e1 : IntKind.wrap .i64 (n : Int) = (n : Int) := w64 (by omega) (by omega)
    refine VX_known 23 false rfl rfl (by simp; omega) ?_
    refine VX_go4 (fs := []) (ok 1 _) eqs trivial 100 [4] rfl trivial ?_
    refine VX_eq 27 rfl rfl (d' := .t 3 (.e (.int n))) (congrArg (fun x => D.t 3 (.e (.int x))) e1) ?_
    refine VX_go4 (fs := []) (ok 1 _) eqs trivial 100 [] rfl trivial ?_
    exact ⟨.inr rfl, _, _, _, rfl, rfl, rfl, rfl, rfl⟩
theorem rtextR_ok (s : List UInt8) (e : Int) (m : Nat) (hm : m < 4294967296) : FnG Tryd.prog tb 28 [rrd s e] [.ptr 0 [], .t 3 (.e (.int m))] (fun d t => d = .t 9 (.e (.str (textR s e m).1)) ∧ t = [rrd (textR s e m).2.1 (textR s e m).2.2]) := by
  refine FnG_of_V (fn := Tryd.f28) (bt := 4) false [] [9] (ok 1 _) Tryd.func28 rfl rfl rfl fun _ _ _ _ _ _ => ?_
  apply V_of_VX
  refine VX_go4 (fs := []) (ok 1 _) eqs trivial 100 [] rfl trivial ?_
  refine VX_callD (ok 1 _) [52, 3] [0] rfl rfl rfl rfl rfl rfl (rmany_ok s e m hm) rfl rfl rfl ?_
  refine VX_callD (ok 1 _) [52, 3] [0] rfl rfl rfl rfl rfl rfl (Rr.take_ok _ _ _) rfl rfl rfl ?_
  refine VX_go4 (fs := []) (ok 1 _) eqs trivial 100 [] rfl trivial ?_
  exact ⟨.inr rfl, _, _, _, rfl, rfl, rfl, rfl, rfl⟩
theorem rend_ok (s : List UInt8) (e : Int) : FnG Tryd.prog tb 29 [rrd s e] [.ptr 0 []] (fun d t => d = .t 3 (.e (.int (endB s e))) ∧ t = [rrd s e]) := by
  refine FnG_of_V (fn := Tryd.f29) (bt := 4) false [] [3] (ok 1 _) Tryd.func29 rfl rfl rfl fun _ _ _ _ _ _ => ?_
  apply V_of_VX
  refine VX_go4 (fs := []) (ok 1 _) eqs trivial 100 [] rfl trivial ?_
  by_cases he : e = 0
  · refine VX_known 8 true rfl rfl (by simp [he]) ?_
    refine VX_go4 (fs := []) (ok 1 _) eqs trivial 100 [] rfl trivial ?_
    by_cases hs : s = []
    · refine VX_known 15 false rfl rfl (by simp [hs]) ?_
      refine VX_go4 (fs := []) (ok 1 _) eqs trivial 100 [] rfl trivial ?_
      refine ⟨.inr rfl, _, _, _, rfl, rfl, rfl, ?_⟩
      unfold endB; rw [if_neg (fun h => h.2 hs)]; exact ⟨rfl, rfl⟩
    · have hsl : 0 < s.length := List.length_pos_iff.2 hs
      refine VX_known 15 true rfl rfl (by simp; omega) ?_
      refine VX_go4 (fs := []) (ok 1 _) eqs trivial 100 [] rfl trivial ?_
      refine ⟨.inr rfl, _, _, _, rfl, rfl, rfl, ?_⟩
      unfold endB; rw [if_pos ⟨he, hs⟩]; exact ⟨rfl, rfl⟩
  · refine VX_known 8 false rfl rfl (by simp [he]) ?_
    refine VX_go4 (fs := []) (ok 1 _) eqs trivial 100 [] rfl trivial ?_
    refine ⟨.inr rfl, _, _, _, rfl, rfl, rfl, ?_⟩
    unfold endB; rw [if_neg (fun h => he h.1)]; exact ⟨rfl, rfl⟩
set_option maxHeartbeats 1600000 in
theorem rread_ok (s : List UInt8) (hs : s.length ≤ 20000) (w1 s1 w2 s2 w3 s3 t1 s4 t2 s5 t3 s6 : List UInt8) (e1 e2 e3 e4 e5 e6 : Int) (r1 : takeB s 0 4 = (w1, s1, e1)) (r2 : takeB s1 e1 4 = (w2, s2, e2)) (r3 : takeB s2 e2 4 = (w3, s3, e3))
    (r4 : textR s3 e3 48 = (t1, s4, e4)) (r5 : textR s4 e4 48 = (t2, s5, e5)) (r6 : textR s5 e5 300 = (t3, s6, e6)) :
    FnOk Tryd.prog tb 11 [9] [24, 3] [.str s] (if endB s6 e6 ≠ 0 then [ltE 0 0 0 [] [] [], .int (endB s6 e6)] else if rightB t1 t2 t3 = true then [ltE (numV w1) (numV w2) (numV w3) t1 t2 t3, .int 0] else [ltE 0 0 0 [] [] [], .int 4]) := by
  have k1 := Rr.number_ok s 0 4 (by omega)
  rw [r1] at k1
  have k2 := Rr.number_ok s1 e1 4 (by omega)
  rw [r2] at k2
  have k3 := Rr.number_ok s2 e2 4 (by omega)
  rw [r3] at k3
  have k4 := rtextR_ok s3 e3 48 (by omega)
  have k5 := rtextR_ok s4 e4 48 (by omega)
  have k6 := rtextR_ok s5 e5 300 (by omega)
  rw [show ((48 : Nat) : Int) = 48 from rfl, r4] at k4
  rw [show ((48 : Nat) : Int) = 48 from rfl, r5] at k5
  rw [show ((300 : Nat) : Int) = 300 from rfl, r6] at k6
  have l1 := takeB_le s 0 4
  have v1 := numV_le (takeB_len s 0 4)
  rw [r1] at l1 v1
  have l2 := takeB_le s1 e1 4
  have v2 := numV_le (takeB_len s1 e1 4)
  rw [r2] at l2 v2
  have l3 := takeB_le s2 e2 4
  have v3 := numV_le (takeB_len s2 e2 4)
  rw [r3] at l3 v3
  have l4 := textR_le s3 e3 48
  rw [r4] at l4
  have l5 := textR_le s4 e4 48
  rw [r5] at l5
  simp only at l1 l2 l3 l4 l5 v1 v2 v3 k1 k2 k3
  have cR := (rright_ok (numV w1) (numV w2) (numV w3) t1 t2 t3 (by omega) (by omega)).g
  have kE := rend_ok s6 e6
  have x1 := u32w (numV w1) v1
  have x2 := u32w (numV w2) v2
  have x3 := u32w (numV w3) v3
  generalize numV w1 = n1 at *
  generalize numV w2 = n2 at *
  generalize numV w3 = n3 at *
  refine FnOk_of_V (fn := Tryd.f11) (bt := 4) (ok 0 _) Tryd.func11 rfl rfl rfl (by decide) fun hw => ?_
  clear hw
  apply V_of_VX
  refine VX_go4 (fs := []) (ok 0 _) eqs trivial 100 [] rfl trivial ?_
  refine VX_callD (ok 0 _) [52, 3] [1] rfl rfl rfl rfl rfl rfl k1 rfl rfl rfl ?_
  refine VX_go4 (fs := []) (ok 0 _) eqs trivial 100 [13] rfl trivial ?_
  refine VX_eq 12 rfl rfl (d' := .t 22 (.e (.int n1))) (congrArg (fun x => D.t 22 (.e (.int x))) x1) ?_
  refine VX_go4 (fs := []) (ok 0 _) eqs trivial 100 [] rfl trivial ?_
  refine VX_callD (ok 0 _) [52, 3] [1] rfl rfl rfl rfl rfl rfl k2 rfl rfl rfl ?_
  refine VX_go4 (fs := []) (ok 0 _) eqs trivial 100 [17] rfl trivial ?_
  refine VX_eq 16 rfl rfl (d' := .t 22 (.e (.int n2))) (congrArg (fun x => D.t 22 (.e (.int x))) x2) ?_
  refine VX_go4 (fs := []) (ok 0 _) eqs trivial 100 [] rfl trivial ?_
  refine VX_callD (ok 0 _) [52, 3] [1] rfl rfl rfl rfl rfl rfl k3 rfl rfl rfl ?_
  refine VX_go4 (fs := []) (ok 0 _) eqs trivial 100 [21] rfl trivial ?_
  refine VX_eq 20 rfl rfl (d' := .t 22 (.e (.int n3))) (congrArg (fun x => D.t 22 (.e (.int x))) x3) ?_
  refine VX_go4 (fs := []) (ok 0 _) eqs trivial 100 [] rfl trivial ?_
  refine VX_callD (ok 0 _) [52, 3] [1] rfl rfl rfl rfl rfl rfl k4 rfl rfl rfl ?_
  refine VX_go4 (fs := []) (ok 0 _) eqs trivial 100 [] rfl trivial ?_
  refine VX_callD (ok 0 _) [52, 3] [1] rfl rfl rfl rfl rfl rfl k5 rfl rfl rfl ?_
  refine VX_go4 (fs := []) (ok 0 _) eqs trivial 100 [] rfl trivial ?_
  refine VX_callD (ok 0 _) [52, 3] [1] rfl rfl rfl rfl rfl rfl k6 rfl rfl rfl ?_
  refine VX_go4 (fs := []) (ok 0 _) eqs trivial 100 [] rfl trivial ?_
  refine VX_callD (ok 0 _) [52] [1] rfl rfl rfl rfl rfl rfl kE rfl rfl rfl ?_
  refine VX_go4 (fs := []) (ok 0 _) eqs trivial 100 [] rfl trivial ?_
  by_cases h : endB s6 e6 ≠ 0
  · rw [if_pos h]
    refine VX_known 34 true rfl rfl (by simpa using h) ?_
    refine VX_go4 (fs := []) (ok 0 _) eqs trivial 100 [] rfl trivial ?_
    exact ⟨.inr rfl, rfl⟩
  · rw [if_neg h]
    refine VX_known 34 false rfl rfl (by simpa using h) ?_
    refine VX_go4 (fs := []) (ok 0 _) eqs trivial 100 [] rfl trivial ?_
    refine VX_callD (ok 0 _) [24] [] rfl rfl rfl rfl rfl rfl cR rfl rfl rfl ?_
    refine VX_go4 (fs := []) (ok 0 _) eqs trivial 100 [] rfl trivial ?_
    by_cases h2 : rightB t1 t2 t3 = true
    · rw [if_pos h2]
      refine VX_known 39 false rfl rfl (by simp [h2]) ?_
      refine VX_go4 (fs := []) (ok 0 _) eqs trivial 100 [] rfl trivial ?_
      exact ⟨.inr rfl, rfl⟩
    · rw [if_neg h2]
      refine VX_known 39 true rfl rfl (by simp [h2]) ?_
      refine VX_go4 (fs := []) (ok 0 _) eqs trivial 100 [] rfl trivial ?_
      exact ⟨.inr rfl, rfl⟩
/-- What both read. -/
theorem read_both (s : List UInt8) (hs : s.length ≤ 20000) : ∃ (a b c : Nat) (t r y : List UInt8) (e : Int), FnOk Tryd.prog tb 10 [9] [24, 27] [.str s] [ltE a b c t r y, .int e] ∧ FnOk Tryd.prog tb 11 [9] [24, 3] [.str s] [ltE a b c t r y, .int e] := by
  obtain ⟨w1, s1, e1, r1⟩ : ∃ w s' e', takeB s 0 4 = (w, s', e') := ⟨_, _, _, rfl⟩
  obtain ⟨w2, s2, e2, r2⟩ : ∃ w s' e', takeB s1 e1 4 = (w, s', e') := ⟨_, _, _, rfl⟩
  obtain ⟨w3, s3, e3, r3⟩ : ∃ w s' e', takeB s2 e2 4 = (w, s', e') := ⟨_, _, _, rfl⟩
  obtain ⟨t1, s4, e4, r4⟩ : ∃ w s' e', textR s3 e3 48 = (w, s', e') := ⟨_, _, _, rfl⟩
  obtain ⟨t2, s5, e5, r5⟩ : ∃ w s' e', textR s4 e4 48 = (w, s', e') := ⟨_, _, _, rfl⟩
  obtain ⟨t3, s6, e6, r6⟩ : ∃ w s' e', textR s5 e5 300 = (w, s', e') := ⟨_, _, _, rfl⟩
  have k := read_ok s hs _ _ _ _ _ _ _ _ _ _ _ _ _ _ _ _ _ _ r1 r2 r3 r4 r5 r6
  have k' := rread_ok s hs _ _ _ _ _ _ _ _ _ _ _ _ _ _ _ _ _ _ r1 r2 r3 r4 r5 r6
  by_cases he : endB s6 e6 ≠ 0
  · rw [if_pos he] at k k'; exact ⟨_, _, _, _, _, _, _, k, k'⟩
  · rw [if_neg he] at k k'
    by_cases hr : rightB t1 t2 t3 = true
    · rw [if_pos hr] at k k'; exact ⟨_, _, _, _, _, _, _, k, k'⟩
    · rw [if_neg hr] at k k'; exact ⟨_, _, _, _, _, _, _, k, k'⟩

/-! ### the same? -/
def sameB (a b c : Nat) (s r y : List UInt8) (a' b' c' : Nat) (s' r' y' : List UInt8) : Bool :=
  decide (a = a') && (decide (b = b') && (decide (c = c') && (decide (s = s') && (decide (r = r') && decide (y = y')))))
theorem eqLt (a b c : Nat) (s r y : List UInt8) (a' b' c' : Nat) (s' r' y' : List UInt8) : eqE (ltE a b c s r y) (ltE a' b' c' s' r' y') = sameB a b c s r y a' b' c' s' r' y' := by
  have h : ∀ x y : Nat, decide ((x : Int) = (y : Int)) = decide (x = y) := fun x y => by rw [decide_eq_decide]; omega
  simp only [ltE, eqE, eqEs, sameB, Bool.and_true]
  rw [h, h, h]
theorem same_ok (a b c : Nat) (s r y : List UInt8) (a' b' c' : Nat) (s' r' y' : List UInt8) : FnOk Tryd.prog tb 16 [24, 24] [4] [ltE a b c s r y, ltE a' b' c' s' r' y'] [.bool (sameB a b c s r y a' b' c' s' r' y')] := by
  refine FnOk_of_V (fn := Tryd.f16) (bt := 4) (ok 0 _) Tryd.func16 rfl rfl rfl (by decide) fun hw => ?_
  clear hw
  rw [← eqLt]
  apply V_of_VX
  refine VX_go4 (fs := []) (ok 0 _) eqs trivial 100 [] rfl (by simp [allP]) ?_
  exact ⟨.inr rfl, rfl⟩
theorem rsame_ok (a b c : Nat) (s r y : List UInt8) (a' b' c' : Nat) (s' r' y' : List UInt8) : FnOk Tryd.prog tb 13 [24, 24] [4] [ltE a b c s r y, ltE a' b' c' s' r' y'] [.bool (sameB a b c s r y a' b' c' s' r' y')] := by
  refine FnOk_of_V (fn := Tryd.f13) (bt := 4) (ok 0 _) Tryd.func13 rfl rfl rfl (by decide) fun hw => ?_
  clear hw
  unfold sameB
  apply V_of_VX
  refine VX_go4 (fs := []) (ok 0 _) eqs trivial 100 [] rfl trivial ?_
  by_cases h1 : a = a'
  rotate_left
  · rw [decide_eq_false h1]
    simp only [Bool.false_and]
    refine VX_known 10 false rfl rfl (by simp; omega) ?_
    refine VX_go4 (fs := []) (ok 0 _) eqs trivial 100 [] rfl trivial ?_
    exact ⟨.inr rfl, rfl⟩
  rw [decide_eq_true h1, Bool.true_and]
  refine VX_known 10 true rfl rfl (by simp; omega) ?_
  refine VX_go4 (fs := []) (ok 0 _) eqs trivial 100 [] rfl trivial ?_
  by_cases h1 : b = b'
  rotate_left
  · rw [decide_eq_false h1]
    simp only [Bool.false_and]
    refine VX_known 17 false rfl rfl (by simp; omega) ?_
    refine VX_go4 (fs := []) (ok 0 _) eqs trivial 100 [] rfl trivial ?_
    exact ⟨.inr rfl, rfl⟩
  rw [decide_eq_true h1, Bool.true_and]
  refine VX_known 17 true rfl rfl (by simp; omega) ?_
  refine VX_go4 (fs := []) (ok 0 _) eqs trivial 100 [] rfl trivial ?_
  by_cases h1 : c = c'
  rotate_left
  · rw [decide_eq_false h1]
    simp only [Bool.false_and]
    refine VX_known 24 false rfl rfl (by simp; omega) ?_
    refine VX_go4 (fs := []) (ok 0 _) eqs trivial 100 [] rfl trivial ?_
    exact ⟨.inr rfl, rfl⟩
  rw [decide_eq_true h1, Bool.true_and]
  refine VX_known 24 true rfl rfl (by simp; omega) ?_
  refine VX_go4 (fs := []) (ok 0 _) eqs trivial 100 [] rfl trivial ?_
  by_cases h1 : s = s'
  rotate_left
  · rw [decide_eq_false h1]
    simp only [Bool.false_and]
    refine VX_known 31 false rfl rfl (by simp [h1]) ?_
    refine VX_go4 (fs := []) (ok 0 _) eqs trivial 100 [] rfl trivial ?_
    exact ⟨.inr rfl, rfl⟩
  rw [decide_eq_true h1, Bool.true_and]
  refine VX_known 31 true rfl rfl (by simp [h1]) ?_
  refine VX_go4 (fs := []) (ok 0 _) eqs trivial 100 [] rfl trivial ?_
  by_cases h1 : r = r'
  rotate_left
  · rw [decide_eq_false h1]
    simp only [Bool.false_and]
    refine VX_known 38 false rfl rfl (by simp [h1]) ?_
    refine VX_go4 (fs := []) (ok 0 _) eqs trivial 100 [] rfl trivial ?_
    exact ⟨.inr rfl, rfl⟩
  rw [decide_eq_true h1, Bool.true_and]
  refine VX_known 38 true rfl rfl (by simp [h1]) ?_
  refine VX_go4 (fs := []) (ok 0 _) eqs trivial 100 [] rfl trivial ?_
  exact ⟨.inr rfl, rfl⟩

/-! ### leaves -/
theorem plain_len (a b c : Nat) (s r y : List UInt8) (hs : s.length ≤ 20000) (hr : r.length ≤ 20000) (hy : y.length ≤ 20000) : (Dg.inputB 5 [plainB a b c s r y]).length ≤ 400000 := by
  simp [Dg.inputB, textB, plainB, bigB_length]; omega
def leafB (a b c : Nat) (s r y : List UInt8) : List UInt8 := Dg.ofB 5 [plainB a b c s r y]
theorem leaf_ok (a b c : Nat) (s r y : List UInt8) (ha : a < 4294967296) (hb : b < 4294967296) (hc : c < 4294967296) (hs : s.length ≤ 20000) (hr : r.length ≤ 20000) (hy : y.length ≤ 20000) :
    FnOk Tryd.prog tb 14 [57, 24] [37] [.nilp, ltE a b c s r y] [Sh.dgE (leafB a b c s r y)] := by
  refine FnOk_of_V (fn := Tryd.f14) (bt := 4) (ok 0 _) Tryd.func14 rfl rfl rfl (by decide) fun hw => ?_
  clear hw
  have c1 := (plain_ok a b c s r y ha hb hc hs hr hy).g
  have c2 := (Dg.of_nil 5 [plainB a b c s r y] (plain_len a b c s r y hs hr hy)).g
  unfold leafB
  generalize Dg.ofB 5 [plainB a b c s r y] = d at c2 ⊢
  generalize plainB a b c s r y = P at c1 c2
  apply V_of_VX
  refine VX_go4 (fs := []) (ok 0 _) eqs trivial 100 [] rfl trivial ?_
  refine VX_callD (ok 0 _) [24] [] rfl rfl rfl rfl rfl rfl c1 rfl rfl rfl ?_
  refine VX_go4 (fs := []) (ok 0 _) eqs trivial 100 [] rfl (by simp [allP]) ?_
  refine VX_callD (ok 0 _) [57, 5, 60] [] rfl rfl rfl rfl rfl rfl c2 rfl rfl rfl ?_
  refine VX_go4 (fs := []) (ok 0 _) eqs trivial 100 [] rfl trivial ?_
  exact ⟨.inr rfl, rfl⟩
theorem rleaf_ok (a b c : Nat) (s r y : List UInt8) (ha : a < 4294967296) (hb : b < 4294967296) (hc : c < 4294967296) (hs : s.length ≤ 20000) (hr : r.length ≤ 20000) (hy : y.length ≤ 20000) :
    FnOk Tryd.prog tb 15 [41, 24] [37] [.nilp, ltE a b c s r y] [Sh.dgE (leafB a b c s r y)] := by
  refine FnOk_of_V (fn := Tryd.f15) (bt := 4) (ok 0 _) Tryd.func15 rfl rfl rfl (by decide) fun hw => ?_
  clear hw
  have c1 := (rplain_ok a b c s r y ha hb hc hs hr hy).g
  have c2 := (Dg.rof_nil 5 [plainB a b c s r y] (plain_len a b c s r y hs hr hy)).g
  unfold leafB
  generalize Dg.ofB 5 [plainB a b c s r y] = d at c2 ⊢
  generalize plainB a b c s r y = P at c1 c2
  apply V_of_VX
  refine VX_go4 (fs := []) (ok 0 _) eqs trivial 100 [] rfl trivial ?_
  refine VX_callD (ok 0 _) [24] [] rfl rfl rfl rfl rfl rfl c1 rfl rfl rfl ?_
  refine VX_go4 (fs := []) (ok 0 _) eqs trivial 100 [] rfl (by simp [allP]) ?_
  refine VX_callD (ok 0 _) [41, 5, 60] [] rfl rfl rfl rfl rfl rfl c2 rfl rfl rfl ?_
  refine VX_go4 (fs := []) (ok 0 _) eqs trivial 100 [] rfl trivial ?_
  exact ⟨.inr rfl, rfl⟩
end Go.Den.Q9d
/- Law 09: LetterBytes. -/
namespace Go.Den.Q9d
open Go Go.Den Go.Proofs Go.Den.Q9d.Wi
set_option maxRecDepth 8000
set_option linter.unusedVariables false
set_option linter.unusedSimpArgs false

theorem awake_ok : FnOk Tryd.prog tb 5 [] [4] [] [.bool true] := by
  refine FnOk_of_V (fn := Tryd.f5) (bt := 4) (ok 0 _) Tryd.func5 rfl rfl rfl (by decide) fun hw => ?_
  apply V_of_VX
  have hr : rightB [97] [98] [99] = true := by decide
  refine VX_go4 (fs := []) (ok 0 _) eqs trivial 100 [] rfl trivial ?_
  refine VX_callD (ok 0 _) [24] [] rfl rfl rfl rfl rfl rfl (bytes_yes 1 0 2 [97] [98] [99] (by decide) (by decide) (by decide) (by decide) (by decide) (by decide) hr).g rfl rfl rfl ?_
  refine VX_go4 (fs := []) (ok 0 _) eqs trivial 100 [] rfl trivial ?_
  refine VX_callD (ok 0 _) [9] [] rfl rfl rfl rfl rfl rfl (read_back 1 0 2 [97] [98] [99] (by decide) (by decide) (by decide) hr).g rfl rfl rfl ?_
  refine VX_go4 (fs := []) (ok 0 _) eqs trivial 100 [] rfl trivial ?_
  refine VX_callD (ok 0 _) [24] [] rfl rfl rfl rfl rfl rfl (bytes_no 0 0 0 [] [] [] (by decide) (by decide) rfl).g rfl rfl rfl ?_
  refine VX_go4 (fs := []) (ok 0 _) eqs trivial 100 [] rfl trivial ?_
  refine VX_known 26 true rfl rfl (by decide) ?_
  refine VX_go4 (fs := []) (ok 0 _) eqs trivial 100 [] rfl trivial ?_
  refine VX_known 30 true rfl rfl (by decide) ?_
  refine VX_go4 (fs := []) (ok 0 _) eqs trivial 100 [] rfl trivial ?_
  refine VX_callD (ok 0 _) [24, 24] [] rfl rfl rfl rfl rfl rfl (same_yes 1 0 2 [97] [98] [99]).g rfl rfl rfl ?_
  refine VX_known 33 true rfl rfl rfl ?_
  refine VX_go4 (fs := []) (ok 0 _) eqs trivial 100 [38] rfl trivial ?_
  refine VX_known 37 true rfl rfl (by decide) ?_
  refine VX_go4 (fs := []) (ok 0 _) eqs trivial 100 [] rfl trivial ?_
  exact ⟨.inr rfl, rfl⟩
def lightB (s r y : List UInt8) : Bool := decide (s.length ≤ 2000) && decide (r.length ≤ 2000) && decide (y.length ≤ 2000)
theorem light_ok (a b c : Nat) (s r y : List UInt8) : FnOk Tryd.prog tb 6 [24] [4] [ltE a b c s r y] [.bool (lightB s r y)] := by
  refine FnOk_of_V (fn := Tryd.f6) (bt := 4) (ok 0 _) Tryd.func6 rfl rfl rfl (by decide) fun hw => ?_
  apply V_of_VX
  refine VX_go4 (fs := []) (ok 0 _) eqs trivial 100 [] rfl trivial ?_
  refine VX_split 7 rfl rfl (fun h => ?_) (fun h => ?_)
  · have h1 : s.length ≤ 2000 := by simp at h; omega
    refine VX_go4 (fs := []) (ok 0 _) eqs trivial 100 [] rfl trivial ?_
    refine VX_split 13 rfl rfl (fun h => ?_) (fun h => ?_)
    · have h2 : r.length ≤ 2000 := by simp at h; omega
      refine VX_go4 (fs := []) (ok 0 _) eqs trivial 100 [] rfl trivial ?_
      refine ⟨.inr rfl, ?_⟩
      have : lightB s r y = decide ((y.length : Int) ≤ 2000) := by simp [lightB, h1, h2]; omega
      rw [this]; rfl
    · have h2 : ¬ r.length ≤ 2000 := by simp at h; omega
      refine VX_go4 (fs := []) (ok 0 _) eqs trivial 100 [] rfl trivial ?_
      refine ⟨.inr rfl, ?_⟩
      have : lightB s r y = false := by simp [lightB, h2]
      rw [this]; rfl
  · have h1 : ¬ s.length ≤ 2000 := by simp at h; omega
    refine VX_go4 (fs := []) (ok 0 _) eqs trivial 100 [] rfl trivial ?_
    refine ⟨.inr rfl, ?_⟩
    have : lightB s r y = false := by simp [lightB, h1]
    rw [this]; rfl

theorem wt_letter {x : E} (h : Wt tb 24 x) : ∃ a b c s r y, x = ltE a b c s r y ∧ a < 4294967296 ∧ b < 4294967296 ∧ c < 4294967296 := by
  obtain ⟨xs, rfl, hl, hx⟩ := wt_st h (fs := [(22, 0), (22, 1), (22, 2), (9, 3), (9, 4), (9, 5)]) rfl
  obtain ⟨a, b, c, s, r, y, rfl⟩ := list6 hl
  have num : ∀ x, Wt tb 22 x → ∃ k : Nat, x = .int k ∧ k < 4294967296 := fun x hx => by
    obtain ⟨n, rfl, hn⟩ := wt_int hx (k := .u32) rfl
    simp [inR] at hn
    exact ⟨n.toNat, by congr 1; omega, by omega⟩
  obtain ⟨a, rfl, ha⟩ := num a (hx 0 _ a rfl rfl)
  obtain ⟨b, rfl, hb⟩ := num b (hx 1 _ b rfl rfl)
  obtain ⟨c, rfl, hc⟩ := num c (hx 2 _ c rfl rfl)
  obtain ⟨s, rfl⟩ := wt_str (hx 3 _ s rfl rfl) rfl
  obtain ⟨r, rfl⟩ := wt_str (hx 4 _ r rfl rfl) rfl
  obtain ⟨y, rfl⟩ := wt_str (hx 5 _ y rfl rfl) rfl
  exact ⟨a, b, c, s, r, y, rfl, ha, hb, hc⟩


theorem eqDgL (d : List UInt8) : eqE (Sh.dgE d) (Sh.dgE d) = true := by
  have h : ∀ l : List UInt8, eqEs (l.map byteE) (l.map byteE) = true := fun l => by
    induction l with
    | nil => rfl
    | cons a l ih => simp [eqEs, byteE, eqE] at ih ⊢; exact ih
  simp [Sh.dgE, eqE, h d]
set_option maxHeartbeats 3200000 in
theorem law_bytes (x0 x1 x2 : E) : FnOk Tryd.prog tb 3 [24, 24, 9] [4] [x0, x1, x2] [.bool true] := by
  refine FnOk_of_V (fn := Tryd.f3) (bt := 4) (ok 0 _) Tryd.func3 rfl rfl rfl (by decide) fun hw => ?_
  obtain ⟨a, b, c, s, r, y, rfl, ha, hb, hc⟩ := wt_letter (hw 0 _ x0 rfl rfl)
  obtain ⟨a', b', c', s', r', y', rfl, ha', hb', hc'⟩ := wt_letter (hw 1 _ x1 rfl rfl)
  obtain ⟨q, rfl⟩ := wt_str (hw 2 _ x2 rfl rfl) rfl
  clear hw
  have ca := awake_ok.g
  have c1 := (light_ok a b c s r y).g
  have c2 := (light_ok a' b' c' s' r' y').g
  apply V_of_VX
  refine VX_go4 (fs := []) (ok 0 _) eqs trivial 100 [] rfl trivial ?_
  refine VX_callD (ok 0 _) [] [] rfl rfl rfl rfl rfl rfl ca rfl rfl rfl ?_
  refine VX_go4 (fs := []) (ok 0 _) eqs trivial 100 [] rfl trivial ?_
  refine VX_known 16 false rfl rfl rfl ?_
  refine VX_go4 (fs := []) (ok 0 _) eqs trivial 100 [] rfl trivial ?_
  refine VX_callD (ok 0 _) [24] [] rfl rfl rfl rfl rfl rfl c1 rfl rfl rfl ?_
  refine VX_go4 (fs := []) (ok 0 _) eqs trivial 100 [] rfl trivial ?_
  cases hl1 : lightB s r y with
  | false =>
    refine VX_known 20 true rfl rfl rfl ?_
    refine VX_go4 (fs := []) (ok 0 _) eqs trivial 100 [] rfl trivial ?_
    refine VX_callD (ok 0 _) [] [] rfl rfl rfl rfl rfl rfl ca rfl rfl rfl ?_
    refine VX_go4 (fs := []) (ok 0 _) eqs trivial 100 [] rfl trivial ?_
    exact ⟨.inr rfl, rfl⟩
  | true =>
  refine VX_known 20 false rfl rfl rfl ?_
  refine VX_go4 (fs := []) (ok 0 _) eqs trivial 100 [] rfl trivial ?_
  refine VX_callD (ok 0 _) [24] [] rfl rfl rfl rfl rfl rfl c2 rfl rfl rfl ?_
  refine VX_go4 (fs := []) (ok 0 _) eqs trivial 100 [] rfl trivial ?_
  cases hl2 : lightB s' r' y' with
  | false =>
    refine VX_known 25 true rfl rfl rfl ?_
    refine VX_go4 (fs := []) (ok 0 _) eqs trivial 100 [] rfl trivial ?_
    refine VX_callD (ok 0 _) [] [] rfl rfl rfl rfl rfl rfl ca rfl rfl rfl ?_
    refine VX_go4 (fs := []) (ok 0 _) eqs trivial 100 [] rfl trivial ?_
    exact ⟨.inr rfl, rfl⟩
  | true =>
  refine VX_known 25 false rfl rfl rfl ?_
  refine VX_go4 (fs := []) (ok 0 _) eqs trivial 100 [] rfl trivial ?_
  refine VX_split 29 rfl rfl (fun _ => ?_) (fun hq => ?_)
  · refine VX_go4 (fs := []) (ok 0 _) eqs trivial 100 [] rfl trivial ?_
    refine VX_callD (ok 0 _) [] [] rfl rfl rfl rfl rfl rfl ca rfl rfl rfl ?_
    refine VX_go4 (fs := []) (ok 0 _) eqs trivial 100 [] rfl trivial ?_
    exact ⟨.inr rfl, rfl⟩
  have hq : q.length ≤ 5000 := by simp only [decide_eq_false_iff_not] at hq; omega
  have hl1' : (s.length ≤ 2000 ∧ r.length ≤ 2000) ∧ y.length ≤ 2000 := by simpa [lightB] using hl1
  obtain ⟨W, e, k1, k2⟩ : ∃ (W : List UInt8) (e : Int), FnOk Tryd.prog tb 7 [24] [9, 27] [ltE a b c s r y] [.str W, .int e] ∧
      ((rightB s r y = true ∧ FnOk Tryd.prog tb 9 [24] [9] [ltE a b c s r y] [.str W] ∧ e = 0) ∨ (rightB s r y = false ∧ W = [] ∧ e = 4)) := by
    cases hr : rightB s r y with
    | true => exact ⟨_, _, bytes_yes a b c s r y ha hb hc (by omega) (by omega) (by omega) hr, .inl ⟨rfl, rplain_ok a b c s r y ha hb hc (by omega) (by omega) (by omega), rfl⟩⟩
    | false => exact ⟨_, _, bytes_no a b c s r y (by omega) (by omega) hr, .inr ⟨rfl, rfl, rfl⟩⟩
  have k1 := k1.g
  have k3 := (rright_ok a b c s r y (by omega) (by omega)).g
  have k3' := (right_ok a b c s r y (by omega) (by omega)).g
  obtain ⟨u1, u2, u3, u4, u5, u6, f, k4, k5⟩ := read_both q (by omega)
  have k4 := k4.g
  have k5 := k5.g
  have k6 := (rsame_ok u1 u2 u3 u4 u5 u6 u1 u2 u3 u4 u5 u6).g
  have hsm : sameB u1 u2 u3 u4 u5 u6 u1 u2 u3 u4 u5 u6 = true := by simp [sameB]
  rw [hsm] at k6
  have k7 := (leaf_ok a b c s r y ha hb hc (by omega) (by omega) (by omega)).g
  have k8 := (rleaf_ok a b c s r y ha hb hc (by omega) (by omega) (by omega)).g
  have hd := eqDgL (leafB a b c s r y)
  have k9 := (same_ok a b c s r y a' b' c' s' r' y').g
  have k10 := (rsame_ok a b c s r y a' b' c' s' r' y').g
  generalize sameB a b c s r y a' b' c' s' r' y' = sb at k9 k10
  generalize leafB a b c s r y = lf at k7 k8 hd
  generalize rightB s r y = rb at k2 k3 k3'
  clear hl1 hl2 hsm c1 c2
  refine VX_go4 (fs := []) (ok 0 _) eqs trivial 100 [] rfl trivial ?_
  refine VX_callD (ok 0 _) [24] [] rfl rfl rfl rfl rfl rfl k1 rfl rfl rfl ?_
  refine VX_go4 (fs := []) (ok 0 _) eqs trivial 100 [] rfl trivial ?_
  refine VX_callD (ok 0 _) [24] [] rfl rfl rfl rfl rfl rfl k3 rfl rfl rfl ?_
  refine VX_via [(3, .ptr 0 []), (4, .ptr 1 []), (2, .t 9 (.e (.str q))), (7, .t 9 (.e (.str W))), (8, .t 27 (.e (.int e))), (9, .t 9 (.e (.str W))), (10, .t 3 (.e (.int e)))] [.tree 24 (.e (ltE a b c s r y)), .tree 24 (.e (ltE a' b' c' s' r' y'))] rfl ?_ (fun hr => ?_)
  rotate_left
  · rcases k2 with ⟨rfl, k2, rfl⟩ | ⟨rfl, rfl, rfl⟩
    · have k2 := k2.g
      refine VX_known 37 true rfl rfl rfl ?_
      refine VX_go4 (fs := []) (ok 0 _) eqs trivial 100 [] rfl trivial ?_
      refine VX_callD (ok 0 _) [24] [] rfl rfl rfl rfl rfl rfl k2 rfl rfl rfl ?_
      refine VX_go4 (fs := []) (ok 0 _) eqs trivial 100 [41] rfl trivial ?_
      exact VX_weakS rfl (wk1 rfl rfl (by simp [Blk.under, T.under]) (lc (ls rfl rfl) (lc (ls rfl rfl) (lc (ls rfl rfl) (lc (ls rfl rfl) (lc (ls rfl rfl) (lc (ls rfl rfl) (lc (ls rfl rfl) lnil)))))))) hr
    · refine VX_known 37 false rfl rfl rfl ?_
      refine VX_go4 (fs := []) (ok 0 _) eqs trivial 100 [41] rfl trivial ?_
      exact VX_weakS rfl (wk1 rfl rfl (by simp [Blk.under, T.under]) (lc (ls rfl rfl) (lc (ls rfl rfl) (lc (ls rfl rfl) (lc (ls rfl rfl) (lc (ls rfl rfl) (lc (ls rfl rfl) (lc (ls rfl rfl) lnil)))))))) hr
  clear k1 k2
  refine VX_go4 (fs := []) (ok 0 _) eqs trivial 100 [] rfl trivial ?_
  refine VX_callD (ok 0 _) [9] [] rfl rfl rfl rfl rfl rfl k4 rfl rfl rfl ?_
  refine VX_go4 (fs := []) (ok 0 _) eqs trivial 100 [] rfl trivial ?_
  refine VX_callD (ok 0 _) [9] [] rfl rfl rfl rfl rfl rfl k5 rfl rfl rfl ?_
  refine VX_go4 (fs := []) (ok 0 _) eqs trivial 100 [] rfl trivial ?_
  refine VX_draw [] [(0, false), (1, true), (2, true), (4, true), (3, false), (5, false), (6, true), (7, true), (8, true), (9, true), (10, true), (11, true), (12, true), (13, true), (14, true), (15, true), (16, true), (17, true), (18, true), (19, true), (20, true), (21, false), (22, true), (23, true), (24, true), (25, true), (26, true), (27, true), (28, true), (29, true), (31, true), (30, false), (32, false), (33, true), (34, true), (35, true), (36, true), (37, true), (39, true), (40, true), (38, false), (41, false), (42, true), (43, true), (44, true)] mixed (by kernel_rfl) (by kernel_rfl) (by kernel_rfl) ?_
  refine VX_callO (ok 0 _) [] [] rfl rfl rfl rfl rfl rfl rfl rfl ca rfl rfl rfl ?_
  refine VX_go4 (fs := []) (ok 0 _) eqs trivial 100 [] rfl trivial ?_
  refine VX_known 51 true rfl rfl rfl ?_
  refine VX_go4 (fs := []) (ok 0 _) eqs trivial 100 [] rfl trivial ?_
  refine VX_callO (ok 0 _) [24] [] rfl rfl rfl rfl rfl rfl rfl rfl k3' rfl rfl rfl ?_
  refine VX_callO (ok 0 _) [24] [] rfl rfl rfl rfl rfl rfl rfl rfl k3 rfl rfl rfl ?_
  refine VX_go4 (fs := []) (ok 0 _) eqs trivial 100 [] rfl trivial ?_
  refine VX_known 58 true rfl rfl (by simp) ?_
  refine VX_go4 (fs := []) (ok 0 _) eqs trivial 100 [] rfl trivial ?_
  refine VX_known 63 true rfl rfl (by simp) ?_
  refine VX_go4 (fs := []) (ok 0 _) eqs trivial 100 [] rfl trivial ?_
  refine VX_known 68 true rfl rfl (by simp) ?_
  refine VX_go4 (fs := []) (ok 0 _) eqs trivial 100 [] rfl trivial ?_
  refine VX_callO (ok 0 _) [24, 24] [] rfl rfl rfl rfl rfl rfl rfl rfl k6 rfl rfl rfl ?_
  refine VX_go4 (fs := []) (ok 0 _) eqs trivial 100 [] rfl trivial ?_
  refine VX_known 73 true rfl rfl rfl ?_
  refine VX_go4 (fs := []) (ok 0 _) eqs trivial 100 [] rfl trivial ?_
  refine VX_known 78 true rfl rfl (by simp) ?_
  refine VX_go4 (fs := []) (ok 0 _) eqs trivial 100 [] rfl trivial ?_
  refine VX_callO (ok 0 _) [57, 24] [] rfl rfl rfl rfl rfl rfl rfl rfl k7 rfl rfl rfl ?_
  refine VX_callO (ok 0 _) [41, 24] [] rfl rfl rfl rfl rfl rfl rfl rfl k8 rfl rfl rfl ?_
  refine VX_go4 (fs := []) (ok 0 _) eqs trivial 100 [] rfl trivial ?_
  refine VX_known 85 true rfl rfl hd ?_
  refine VX_go4 (fs := []) (ok 0 _) eqs trivial 100 [] rfl trivial ?_
  refine VX_callO (ok 0 _) [24, 24] [] rfl rfl rfl rfl rfl rfl rfl rfl k9 rfl rfl rfl ?_
  refine VX_callO (ok 0 _) [24, 24] [] rfl rfl rfl rfl rfl rfl rfl rfl k10 rfl rfl rfl ?_
  refine VX_go4 (fs := []) (ok 0 _) eqs trivial 100 [93] rfl trivial ?_
  refine VX_known 92 true rfl rfl (by simp) ?_
  refine VX_go4 (fs := []) (ok 0 _) eqs trivial 100 [] rfl trivial ?_
  exact ⟨.inr rfl, rfl⟩
end Go.Den.Q9d
/-
  What the laid variables give the walks; the world that the door leaves meets the condition.
-/
namespace Go.Proofs.YtegmgnhafbagaaaDoor
open Go.ChangeShapes Go.WideShapes Go.ChangeAt Go.RowKit
set_option linter.unusedVariables false
def laid2 : List (String × DataW Unit) := Rows.letterBytesRow.laid
theorem own : ownKnob Tryd.prog.godebug = none := by kernel_rfl
theorem laidOut : laidOutB Tryd.prog = true := by kernel_rfl
theorem gFirst : Tryd.prog.globalNamed "pontoon/sha.first" = some 0 := by kernel_rfl
theorem gConsts : Tryd.prog.globalNamed "pontoon/sha.constants" = some 1 := by kernel_rfl
theorem tFirst : (Tryd.prog.globals[0]?).map (·.type) = some 92 := by kernel_rfl
theorem tConsts : (Tryd.prog.globals[1]?).map (·.type) = some 114 := by kernel_rfl
theorem door_met (os : Os) (args : Array Value) : laidMetH Tryd.prog laid2 ((World.doorLaid Tryd.prog 400 os).forCall (fun _ _ => 0) ⟨#[], args, []⟩).memory :=
  laidMetH_of_parts3 (fuel := 8) (laidMet_of_run' 8 (by kernel_rfl) (by kernel_rfl)) (by kernel_rfl) (by kernel_rfl)
theorem of_laid {W : World} (h : laidMetH Tryd.prog laid2 W) : Go.Den.GlRel Go.Den.Q9d.tb (Go.Den.Hw W) := by
  rw [MakeChecks.laidMetH_plain _ _ _ (by kernel_rfl)] at h
  obtain ⟨ps, ⟨g0, t0, cs0, f0, p0, q0, hg0, ht0, hv0, hd0, ⟨g1, t1, cs1, f1, p1, q1, hg1, ht1, hv1, hd1, _, _⟩, _⟩, _, _⟩ := h
  obtain rfl := Option.some.inj (gFirst.symm.trans hg0)
  obtain rfl := Option.some.inj (gConsts.symm.trans hg1)
  obtain rfl := Option.some.inj (tFirst.symm.trans ht0)
  obtain rfl := Option.some.inj (tConsts.symm.trans ht1)
  intro g ty x hm
  simp only [Go.Den.Q9d.tb, List.mem_cons, List.not_mem_nil, or_false] at hm
  rcases hm with hm | hm
  · cases hm
    exact Go.Den.gl_ints (ns := Go.Den.Q9d.kL) Go.Den.Q9d.tabOk hg1 hv1 rfl rfl hd1
  · cases hm
    exact Go.Den.gl_ints (ns := Go.Den.Q9d.fL) Go.Den.Q9d.tabOk hg0 hv0 rfl rfl hd0
end Go.Proofs.YtegmgnhafbagaaaDoor
