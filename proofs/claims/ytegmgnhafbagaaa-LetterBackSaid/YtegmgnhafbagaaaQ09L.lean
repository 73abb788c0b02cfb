/- Law 09: letters. -/
import Derived.Test.YtegmgnhafbagaaaQ09N
namespace Go.Den.Q09
open Go Go.Den Go.Proofs
set_option maxRecDepth 8000
set_option linter.unusedVariables false

def ltE (a b c : Nat) (s r y : List UInt8) : E := .agg [.int a, .int b, .int c, .str s, .str r, .str y]
def rightB (s r y : List UInt8) : Bool := nameB s && nameB r && decide (y.length ≤ 300)
def plainB (a b c : Nat) (s r y : List UInt8) : List UInt8 := bigB a 4 ++ bigB b 4 ++ bigB c 4 ++ textB s ++ textB r ++ textB y

theorem right_ok (a b c : Nat) (s r y : List UInt8) (hs : s.length ≤ 1000000) (hr : r.length ≤ 1000000) : FnOk Try.prog tb 9 [24] [4] [ltE a b c s r y] [.bool (rightB s r y)] := by
  refine FnOk_of_V (fn := Try.f9) (bt := 4) (ok 0 _) Try.func9 rfl rfl rfl (by decide) fun hw => ?_
  apply V_of_VX
  refine VX_go3 (fs := []) (ok 0 _) eqs trivial 100 [] rfl trivial ?_
  refine VX_callD (ok 0 _) [9] [] rfl rfl rfl rfl rfl rfl (name_ok s hs).g rfl rfl rfl ?_
  refine VX_go3 (fs := []) (ok 0 _) eqs trivial 100 [] rfl trivial ?_
  refine VX_split 6 rfl rfl (fun h1 => ?_) (fun h1 => ?_)
  · refine VX_go3 (fs := []) (ok 0 _) eqs trivial 100 [] rfl trivial ?_
    refine VX_callD (ok 0 _) [9] [] rfl rfl rfl rfl rfl rfl (name_ok r hr).g rfl rfl rfl ?_
    refine VX_go3 (fs := []) (ok 0 _) eqs trivial 100 [] rfl trivial ?_
    refine VX_split 11 rfl rfl (fun h2 => ?_) (fun h2 => ?_)
    · refine VX_go3 (fs := []) (ok 0 _) eqs trivial 100 [] rfl trivial ?_
      refine ⟨.inr rfl, ?_⟩
      have : rightB s r y = decide ((y.length : Int) ≤ 300) := by simp [rightB, h1, h2]; omega
      rw [this]; rfl
    · refine VX_go3 (fs := []) (ok 0 _) eqs trivial 100 [] rfl trivial ?_
      refine ⟨.inr rfl, ?_⟩
      have : rightB s r y = false := by simp [rightB, h2]
      rw [this]; rfl
  · refine VX_go3 (fs := []) (ok 0 _) eqs trivial 100 [] rfl trivial ?_
    refine ⟨.inr rfl, ?_⟩
    have : rightB s r y = false := by simp [rightB, h1]
    rw [this]; rfl

theorem plain_ok (a b c : Nat) (s r y : List UInt8) (ha : a < 4294967296) (hb : b < 4294967296) (hc : c < 4294967296) (hs : s.length ≤ 20000) (hr : r.length ≤ 20000) (hy : y.length ≤ 20000) : FnOk Try.prog tb 10 [24] [9] [ltE a b c s r y] [.str (plainB a b c s r y)] := by
  refine FnOk_of_V (fn := Try.f10) (bt := 4) (ok 0 _) Try.func10 rfl rfl rfl (by decide) fun hw => ?_
  apply V_of_VX
  have z1 : (textB s).length = 4 + s.length := by simp [textB, bigB_length]
  have z2 : (textB r).length = 4 + r.length := by simp [textB, bigB_length]
  have z3 : (textB y).length = 4 + y.length := by simp [textB, bigB_length]
  refine VX_go3 (fs := []) (ok 0 _) eqs trivial 100 [] rfl trivial ?_
  refine VX_draw [] [(0, true), (1, true), (3, true), (4, true), (7, true), (8, true), (11, true), (12, true), (15, true), (16, true), (19, true), (20, true), (2, false), (5, false), (6, true), (9, false), (10, true), (13, false), (14, true), (17, false), (18, true), (21, false), (22, true), (23, true)] mixed (by kernel_rfl) (by kernel_rfl) (by kernel_rfl) ?_
  refine VX_go3 (fs := []) (ok 0 _) eqs trivial 100 [] rfl trivial ?_
  refine VX_callO (ok 0 _) [22] [] rfl rfl rfl rfl rfl rfl rfl rfl (word_ok a ha).g rfl rfl rfl ?_
  refine VX_callO (ok 0 _) [22] [] rfl rfl rfl rfl rfl rfl rfl rfl (word_ok b hb).g rfl rfl rfl ?_
  refine VX_go3 (fs := []) (ok 0 _) eqs trivial 100 [] rfl (by simp only [allP, List.length_append, bigB_length, maxI]; omega) ?_
  refine VX_callO (ok 0 _) [22] [] rfl rfl rfl rfl rfl rfl rfl rfl (word_ok c hc).g rfl rfl rfl ?_
  refine VX_go3 (fs := []) (ok 0 _) eqs trivial 100 [] rfl (by simp only [allP, List.length_append, bigB_length, maxI]; omega) ?_
  refine VX_callO (ok 0 _) [9] [] rfl rfl rfl rfl rfl rfl rfl rfl (text_ok s hs).g rfl rfl rfl ?_
  refine VX_go3 (fs := []) (ok 0 _) eqs trivial 100 [] rfl (by simp only [allP, List.length_append, bigB_length, maxI]; omega) ?_
  refine VX_callO (ok 0 _) [9] [] rfl rfl rfl rfl rfl rfl rfl rfl (text_ok r hr).g rfl rfl rfl ?_
  refine VX_go3 (fs := []) (ok 0 _) eqs trivial 100 [] rfl (by simp only [allP, List.length_append, bigB_length, maxI]; omega) ?_
  refine VX_callO (ok 0 _) [9] [] rfl rfl rfl rfl rfl rfl rfl rfl (text_ok y hy).g rfl rfl rfl ?_
  refine VX_go3 (fs := []) (ok 0 _) eqs trivial 100 [] rfl (by simp only [allP, List.length_append, bigB_length, maxI]; omega) ?_
  exact ⟨.inr rfl, rfl⟩

theorem bytes_yes (a b c : Nat) (s r y : List UInt8) (ha : a < 4294967296) (hb : b < 4294967296) (hc : c < 4294967296) (hs : s.length ≤ 20000) (hr : r.length ≤ 20000) (hy : y.length ≤ 20000) (h : rightB s r y = true) :
    FnOk Try.prog tb 6 [24] [9, 27] [ltE a b c s r y] [.str (plainB a b c s r y), .int 0] := by
  refine FnOk_of_V (fn := Try.f6) (bt := 4) (ok 0 _) Try.func6 rfl rfl rfl (by decide) fun hw => ?_
  apply V_of_VX
  refine VX_go3 (fs := []) (ok 0 _) eqs trivial 100 [] rfl trivial ?_
  refine VX_callD (ok 0 _) [24] [] rfl rfl rfl rfl rfl rfl (right_ok a b c s r y (by omega) (by omega)).g rfl rfl rfl ?_
  refine VX_known 5 true rfl rfl h ?_
  refine VX_go3 (fs := []) (ok 0 _) eqs trivial 100 [] rfl trivial ?_
  refine VX_callD (ok 0 _) [24] [] rfl rfl rfl rfl rfl rfl (plain_ok a b c s r y ha hb hc hs hr hy).g rfl rfl rfl ?_
  refine VX_go3 (fs := []) (ok 0 _) eqs trivial 100 [] rfl trivial ?_
  exact ⟨.inr rfl, rfl⟩
theorem bytes_no (a b c : Nat) (s r y : List UInt8) (hs : s.length ≤ 20000) (hr : r.length ≤ 20000) (h : rightB s r y = false) :
    FnOk Try.prog tb 6 [24] [9, 27] [ltE a b c s r y] [.str [], .int 4] := by
  refine FnOk_of_V (fn := Try.f6) (bt := 4) (ok 0 _) Try.func6 rfl rfl rfl (by decide) fun hw => ?_
  apply V_of_VX
  refine VX_go3 (fs := []) (ok 0 _) eqs trivial 100 [] rfl trivial ?_
  refine VX_callD (ok 0 _) [24] [] rfl rfl rfl rfl rfl rfl (right_ok a b c s r y (by omega) (by omega)).g rfl rfl rfl ?_
  refine VX_known 5 false rfl rfl h ?_
  refine VX_go3 (fs := []) (ok 0 _) eqs trivial 100 [] rfl trivial ?_
  exact ⟨.inr rfl, rfl⟩

theorem same_yes (a b c : Nat) (s r y : List UInt8) : FnOk Try.prog tb 8 [24, 24] [4] [ltE a b c s r y, ltE a b c s r y] [.bool true] := by
  refine FnOk_of_V (fn := Try.f8) (bt := 4) (ok 0 _) Try.func8 rfl rfl rfl (by decide) fun hw => ?_
  apply V_of_VX
  refine VX_go3 (fs := []) (ok 0 _) eqs trivial 100 [] rfl (by simp [allP]) ?_
  refine ⟨.inr rfl, ?_⟩
  have : eqE (ltE a b c s r y) (ltE a b c s r y) = true := by simp [ltE, eqE, eqEs]
  show some [E.bool (eqE (ltE a b c s r y) (ltE a b c s r y))] = _
  rw [this]

theorem textR_le (s : List UInt8) (e m : Int) : (textR s e m).1.length ≤ s.length ∧ (textR s e m).2.1.length ≤ s.length := by
  have h1 := takeB_le (countB s e m).2.1 (countB s e m).2.2 (countB s e m).1
  have h2 := countB_le s e m
  unfold textR; omega

/-- A letter read: what is read one behind the other, and what comes of it. -/
theorem read_ok (s : List UInt8) (hs : s.length ≤ 20000) (w1 s1 w2 s2 w3 s3 t1 s4 t2 s5 t3 s6 : List UInt8) (e1 e2 e3 e4 e5 e6 : Int) (r1 : takeB s 0 4 = (w1, s1, e1)) (r2 : takeB s1 e1 4 = (w2, s2, e2)) (r3 : takeB s2 e2 4 = (w3, s3, e3))
    (r4 : textR s3 e3 48 = (t1, s4, e4)) (r5 : textR s4 e4 48 = (t2, s5, e5)) (r6 : textR s5 e5 300 = (t3, s6, e6)) :
    FnOk Try.prog tb 7 [9] [24, 27] [.str s] (if endB s6 e6 ≠ 0 then [ltE 0 0 0 [] [] [], .int (endB s6 e6)] else if rightB t1 t2 t3 = true then [ltE (numV w1) (numV w2) (numV w3) t1 t2 t3, .int 0] else [ltE 0 0 0 [] [] [], .int 4]) := by
  have k1 := wordR_ok s 0
  rw [r1] at k1
  have k2 := wordR_ok s1 e1
  rw [r2] at k2
  have k3 := wordR_ok s2 e2
  rw [r3] at k3
  have k4 := textR_ok s3 e3 48 (by omega) (by omega)
  rw [r4] at k4
  have k5 := textR_ok s4 e4 48 (by omega) (by omega)
  rw [r5] at k5
  have k6 := textR_ok s5 e5 300 (by omega) (by omega)
  rw [r6] at k6
  have l1 := takeB_le s 0 4
  rw [r1] at l1
  have l2 := takeB_le s1 e1 4
  rw [r2] at l2
  have l3 := takeB_le s2 e2 4
  rw [r3] at l3
  have l4 := textR_le s3 e3 48
  rw [r4] at l4
  have l5 := textR_le s4 e4 48
  rw [r5] at l5
  simp only at l1 l2 l3 l4 l5
  refine FnOk_of_V (fn := Try.f7) (bt := 4) (ok 0 _) Try.func7 rfl rfl rfl (by decide) fun hw => ?_
  apply V_of_VX
  refine VX_go3 (fs := []) (ok 0 _) eqs trivial 100 [] rfl trivial ?_
  refine VX_callD (ok 0 _) [9] [] rfl rfl rfl rfl rfl rfl (over_ok s) rfl rfl rfl ?_
  refine VX_go3 (fs := []) (ok 0 _) eqs trivial 100 [] rfl trivial ?_
  refine VX_callD (ok 0 _) [35] [1] rfl rfl rfl rfl rfl rfl k1 rfl rfl rfl ?_
  refine VX_go3 (fs := []) (ok 0 _) eqs trivial 100 [] rfl trivial ?_
  refine VX_callD (ok 0 _) [35] [1] rfl rfl rfl rfl rfl rfl k2 rfl rfl rfl ?_
  refine VX_go3 (fs := []) (ok 0 _) eqs trivial 100 [] rfl trivial ?_
  refine VX_callD (ok 0 _) [35] [1] rfl rfl rfl rfl rfl rfl k3 rfl rfl rfl ?_
  refine VX_go3 (fs := []) (ok 0 _) eqs trivial 100 [] rfl trivial ?_
  refine VX_callD (ok 0 _) [35, 3] [1] rfl rfl rfl rfl rfl rfl k4 rfl rfl rfl ?_
  refine VX_go3 (fs := []) (ok 0 _) eqs trivial 100 [] rfl trivial ?_
  refine VX_callD (ok 0 _) [35, 3] [1] rfl rfl rfl rfl rfl rfl k5 rfl rfl rfl ?_
  refine VX_go3 (fs := []) (ok 0 _) eqs trivial 100 [] rfl trivial ?_
  refine VX_callD (ok 0 _) [35, 3] [1] rfl rfl rfl rfl rfl rfl k6 rfl rfl rfl ?_
  refine VX_go3 (fs := []) (ok 0 _) eqs trivial 100 [] rfl trivial ?_
  refine VX_callD (ok 0 _) [35] [1] rfl rfl rfl rfl rfl rfl (end_ok s6 e6) rfl rfl rfl ?_
  refine VX_go3 (fs := []) (ok 0 _) eqs trivial 100 [] rfl trivial ?_
  refine VX_split 25 rfl rfl (fun h => ?_) (fun h => ?_)
  · have h : endB s6 e6 ≠ 0 := by simpa using h
    refine VX_go3 (fs := []) (ok 0 _) eqs trivial 100 [] rfl trivial ?_
    refine ⟨.inr rfl, ?_⟩
    rw [if_pos h]; rfl
  · have h : ¬ endB s6 e6 ≠ 0 := by simpa using h
    refine VX_go3 (fs := []) (ok 0 _) eqs trivial 100 [] rfl trivial ?_
    refine VX_callD (ok 0 _) [24] [] rfl rfl rfl rfl rfl rfl (right_ok (numV w1) (numV w2) (numV w3) t1 t2 t3 (by omega) (by omega)).g rfl rfl rfl ?_
    refine VX_split 29 rfl rfl (fun h2 => ?_) (fun h2 => ?_)
    · refine VX_go3 (fs := []) (ok 0 _) eqs trivial 100 [] rfl trivial ?_
      refine ⟨.inr rfl, ?_⟩
      rw [if_neg h, if_pos h2]; rfl
    · refine VX_go3 (fs := []) (ok 0 _) eqs trivial 100 [] rfl trivial ?_
      refine ⟨.inr rfl, ?_⟩
      rw [if_neg h, if_neg (by simp [h2])]; rfl
end Go.Den.Q09
