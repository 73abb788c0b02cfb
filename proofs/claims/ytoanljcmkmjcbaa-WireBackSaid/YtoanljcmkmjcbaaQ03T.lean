/- Law 03: signatures read; what is left; the same lists. -/
import Derived.Test.YtoanljcmkmjcbaaQ03S
namespace Go.Den.Q03
open Go Go.Den Go.Proofs
set_option maxRecDepth 8000
set_option linter.unusedVariables false

def dgs (l : List UInt8) : List (List E) := chunk l (l.length / 32)
def sig3 (n : Nat) (s : List UInt8) (e : Int) : E × List UInt8 × Int :=
  let a := digsR s e 32
  let b := digsR a.2.1 a.2.2 32
  let c := digsR b.2.1 b.2.2 32
  (if c.2.2 = 0 then sigE n (dgs a.1) (dgs b.1) (dgs c.1) else sig0, c.2.1, c.2.2)
def sigR (s : List UInt8) (e : Int) : E × List UInt8 × Int :=
  let w := takeB s e 4
  sig3 (numV w.1) w.2.1 (if 2147483647 < numV w.1 then failB w.2.2 8 else w.2.2)

theorem sigR_ok (s : List UInt8) (e : Int) (hs : s.length ≤ 1000000) : FnG Try.prog tb 28 [rd s e] [.ptr 0 []] (fun d t => d = .t 27 (.e (sigR s e).1) ∧ t = [rd (sigR s e).2.1 (sigR s e).2.2]) := by
  refine FnG_of_V (fn := Try.f28) (bt := 4) false [] [27] (ok 1 _) Try.func28 rfl rfl rfl fun _ _ _ _ _ _ => ?_
  apply V_of_VX
  refine VX_go3 (fs := []) (ok 1 _) eqs trivial 100 [] rfl trivial ?_
  refine VX_callD (ok 1 _) [40] [0] rfl rfl rfl rfl rfl rfl (wordR_ok s e) rfl rfl rfl ?_
  have hv := numV_le (takeB_len s e 4)
  have hl1 := (takeB_le s e 4).2
  have hsr : sigR s e = sig3 (numV (takeB s e 4).1) (takeB s e 4).2.1 (if 2147483647 < numV (takeB s e 4).1 then failB (takeB s e 4).2.2 8 else (takeB s e 4).2.2) := rfl
  rw [hsr]
  generalize numV (takeB s e 4).1 = n at hv ⊢
  generalize (takeB s e 4).2.1 = s1 at hl1 ⊢
  generalize (takeB s e 4).2.2 = e0
  have e1 : IntKind.wrap .i64 (n : Int) = n := w64 (by omega) (by omega)
  have hl2 := digsR_le s1
  refine VX_go3 (fs := []) (ok 1 _) eqs trivial 100 [] rfl trivial ?_
  have main : ∀ (e' : Int) (env : Env) (k : List It), True := fun _ _ _ => trivial
  refine VX_split 8 rfl rfl (fun h => ?_) (fun h => ?_)
  · have hn : 2147483647 < n := by simp at h; omega
    rw [if_pos hn]
    refine VX_go3 (fs := []) (ok 1 _) eqs trivial 100 [] rfl trivial ?_
    refine VX_callD (ok 1 _) [40, 42] [0] rfl rfl rfl rfl rfl rfl (fail_ok s1 e0 8) rfl rfl rfl ?_
    generalize failB e0 8 = e2
    refine VX_go3 (fs := []) (ok 1 _) eqs trivial 100 [13] rfl trivial ?_
    refine VX_eq 12 rfl rfl (d' := .t 3 (.e (.int n))) (congrArg (fun x => D.t 3 (T.e (E.int x))) e1) ?_
    refine VX_go3 (fs := []) (ok 1 _) eqs trivial 100 [] rfl trivial ?_
    refine VX_callD (ok 1 _) [40, 3] [0] rfl rfl rfl rfl rfl rfl (digestsR_ok s1 e2 32 (by omega) (by omega) (by omega)) rfl rfl rfl ?_
    have hl3 := (digsR_le s1 e2 32).2
    refine VX_go3 (fs := []) (ok 1 _) eqs trivial 100 [] rfl trivial ?_
    refine VX_callD (ok 1 _) [40, 3] [0] rfl rfl rfl rfl rfl rfl (digestsR_ok (digsR s1 e2 32).2.1 (digsR s1 e2 32).2.2 32 (by omega) (by omega) (by omega)) rfl rfl rfl ?_
    have hl4 := (digsR_le (digsR s1 e2 32).2.1 (digsR s1 e2 32).2.2 32).2
    refine VX_go3 (fs := []) (ok 1 _) eqs trivial 100 [] rfl trivial ?_
    refine VX_callD (ok 1 _) [40, 3] [0] rfl rfl rfl rfl rfl rfl (digestsR_ok (digsR (digsR s1 e2 32).2.1 (digsR s1 e2 32).2.2 32).2.1 (digsR (digsR s1 e2 32).2.1 (digsR s1 e2 32).2.2 32).2.2 32 (by omega) (by omega) (by omega)) rfl rfl rfl ?_
    refine VX_go3 (fs := []) (ok 1 _) eqs trivial 100 [] rfl trivial ?_
    refine VX_split 31 rfl rfl (fun h => ?_) (fun h => ?_)
    · refine VX_go3 (fs := []) (ok 1 _) eqs trivial 100 [] rfl trivial ?_
      refine ⟨.inr rfl, _, _, _, rfl, rfl, rfl, ?_⟩
      have h : ¬ (digsR (digsR (digsR s1 e2 32).2.1 (digsR s1 e2 32).2.2 32).2.1 (digsR (digsR s1 e2 32).2.1 (digsR s1 e2 32).2.2 32).2.2 32).2.2 = 0 := by simpa using h
      simp only [sig3, if_neg h]; exact ⟨rfl, rfl⟩
    · refine VX_go3 (fs := []) (ok 1 _) eqs trivial 100 [] rfl trivial ?_
      refine ⟨.inr rfl, _, _, _, rfl, rfl, rfl, ?_⟩
      have h : (digsR (digsR (digsR s1 e2 32).2.1 (digsR s1 e2 32).2.2 32).2.1 (digsR (digsR s1 e2 32).2.1 (digsR s1 e2 32).2.2 32).2.2 32).2.2 = 0 := by simpa using h
      simp only [sig3, if_pos h]; exact ⟨rfl, rfl⟩
  · have hn : ¬ 2147483647 < n := by simp at h; omega
    rw [if_neg hn]
    refine VX_go3 (fs := []) (ok 1 _) eqs trivial 100 [13] rfl trivial ?_
    refine VX_eq 12 rfl rfl (d' := .t 3 (.e (.int n))) (congrArg (fun x => D.t 3 (T.e (E.int x))) e1) ?_
    refine VX_go3 (fs := []) (ok 1 _) eqs trivial 100 [] rfl trivial ?_
    refine VX_callD (ok 1 _) [40, 3] [0] rfl rfl rfl rfl rfl rfl (digestsR_ok s1 e0 32 (by omega) (by omega) (by omega)) rfl rfl rfl ?_
    have hl3 := (digsR_le s1 e0 32).2
    refine VX_go3 (fs := []) (ok 1 _) eqs trivial 100 [] rfl trivial ?_
    refine VX_callD (ok 1 _) [40, 3] [0] rfl rfl rfl rfl rfl rfl (digestsR_ok (digsR s1 e0 32).2.1 (digsR s1 e0 32).2.2 32 (by omega) (by omega) (by omega)) rfl rfl rfl ?_
    have hl4 := (digsR_le (digsR s1 e0 32).2.1 (digsR s1 e0 32).2.2 32).2
    refine VX_go3 (fs := []) (ok 1 _) eqs trivial 100 [] rfl trivial ?_
    refine VX_callD (ok 1 _) [40, 3] [0] rfl rfl rfl rfl rfl rfl (digestsR_ok (digsR (digsR s1 e0 32).2.1 (digsR s1 e0 32).2.2 32).2.1 (digsR (digsR s1 e0 32).2.1 (digsR s1 e0 32).2.2 32).2.2 32 (by omega) (by omega) (by omega)) rfl rfl rfl ?_
    refine VX_go3 (fs := []) (ok 1 _) eqs trivial 100 [] rfl trivial ?_
    refine VX_split 31 rfl rfl (fun h => ?_) (fun h => ?_)
    · refine VX_go3 (fs := []) (ok 1 _) eqs trivial 100 [] rfl trivial ?_
      refine ⟨.inr rfl, _, _, _, rfl, rfl, rfl, ?_⟩
      have h : ¬ (digsR (digsR (digsR s1 e0 32).2.1 (digsR s1 e0 32).2.2 32).2.1 (digsR (digsR s1 e0 32).2.1 (digsR s1 e0 32).2.2 32).2.2 32).2.2 = 0 := by simpa using h
      simp only [sig3, if_neg h]; exact ⟨rfl, rfl⟩
    · refine VX_go3 (fs := []) (ok 1 _) eqs trivial 100 [] rfl trivial ?_
      refine ⟨.inr rfl, _, _, _, rfl, rfl, rfl, ?_⟩
      have h : (digsR (digsR (digsR s1 e0 32).2.1 (digsR s1 e0 32).2.2 32).2.1 (digsR (digsR s1 e0 32).2.1 (digsR s1 e0 32).2.2 32).2.2 32).2.2 = 0 := by simpa using h
      simp only [sig3, if_pos h]; exact ⟨rfl, rfl⟩

theorem left_ok (s : List UInt8) (e : Int) : FnG Try.prog tb 29 [rd s e] [.ptr 0 []] (fun d t => d = .t 3 (.e (.int s.length)) ∧ t = [rd s e]) := by
  refine FnG_of_V (fn := Try.f29) (bt := 4) false [] [3] (ok 1 _) Try.func29 rfl rfl rfl fun _ _ _ _ _ _ => ?_
  apply V_of_VX
  refine VX_go3 (fs := []) (ok 1 _) eqs trivial 100 [] rfl trivial ?_
  exact ⟨.inr rfl, _, _, _, rfl, rfl, rfl, rfl, rfl⟩
def endB (s : List UInt8) (e : Int) : Int := if e = 0 ∧ s ≠ [] then 4 else e
theorem end_ok (s : List UInt8) (e : Int) : FnG Try.prog tb 30 [rd s e] [.ptr 0 []] (fun d t => d = .t 42 (.e (.int (endB s e))) ∧ t = [rd s e]) := by
  refine FnG_of_V (fn := Try.f30) (bt := 4) false [] [42] (ok 1 _) Try.func30 rfl rfl rfl fun _ _ _ _ _ _ => ?_
  apply V_of_VX
  refine VX_go3 (fs := []) (ok 1 _) eqs trivial 100 [] rfl trivial ?_
  refine VX_split 12 rfl rfl (fun h => ?_) (fun h => ?_)
  · have he : e = 0 := by simpa using h
    refine VX_go3 (fs := []) (ok 1 _) eqs trivial 100 [] rfl trivial ?_
    refine VX_split 6 rfl rfl (fun h => ?_) (fun h => ?_)
    · have hs : s ≠ [] := by simpa using h
      refine VX_go3 (fs := []) (ok 1 _) eqs trivial 100 [] rfl trivial ?_
      refine ⟨.inr rfl, _, _, _, rfl, rfl, rfl, ?_⟩
      unfold endB; rw [if_pos ⟨he, hs⟩]; exact ⟨rfl, rfl⟩
    · have hs : s = [] := by simpa using h
      refine VX_go3 (fs := []) (ok 1 _) eqs trivial 100 [] rfl trivial ?_
      refine ⟨.inr rfl, _, _, _, rfl, rfl, rfl, ?_⟩
      unfold endB; rw [if_neg (fun h => h.2 hs)]; exact ⟨rfl, rfl⟩
  · have he : e ≠ 0 := by simpa using h
    refine VX_go3 (fs := []) (ok 1 _) eqs trivial 100 [] rfl trivial ?_
    refine ⟨.inr rfl, _, _, _, rfl, rfl, rfl, ?_⟩
    unfold endB; rw [if_neg (fun h => he h.1)]; exact ⟨rfl, rfl⟩
theorem over_ok (s : List UInt8) : FnG Try.prog tb 31 [] [.t 9 (.e (.str s))] (fun d t => d = .ptr 0 [] ∧ t = [rd s 0]) := by
  refine FnG_of_V (fn := Try.f31) (bt := 4) false [0] [40] (ok 0 _) Try.func31 rfl rfl rfl fun _ _ _ _ _ _ => ?_
  apply V_of_VX
  refine VX_go3 (fs := []) (ok 0 _) eqs trivial 100 [] rfl trivial ?_
  exact ⟨.inr rfl, _, _, _, rfl, rfl, rfl, rfl, rfl⟩
end Go.Den.Q03
