/- The calculus and the walks, part 10: Q7I, Q7J, Q7K, Q7L, Q7LX. -/
import Derived.Test.YtonngnjgadnojaaDoorRRRRP9
/- Law 07: the tree of the document's answer, with a log. -/
namespace Go.Den.Q7.Me
open Go Go.Den Go.Proofs Go.Den.Q7 Go.Den.Q7.Dg
set_option maxRecDepth 8000
set_option linter.unusedVariables false
set_option linter.unusedSimpArgs false
open Go.Den.Q7.Sh (dgE)
open Go.Den.Q7.Lg (Log LInv logB noteL ofL has clashL)

/-- The nodes under a place noted. -/
def ndL (L : List Dig) : Nat → Nat → Log → Log
  | 0, _, q => q
  | n + 1, k, q => if L.length ≤ k * 2 ^ (n + 1) then q else twoL (nd L n (2 * k)) (nd L n (2 * k + 1)) (ndL L n (2 * k + 1) (ndL L n (2 * k) q))
theorem ndL_inv (L : List Dig) : ∀ (n k : Nat) {q : Log}, LInv q → LInv (ndL L n k q)
  | 0, _, q, h => h
  | n + 1, k, q, h => by
    simp only [ndL]; split
    · exact h
    · exact twoL_inv (ndL_inv L n _ (ndL_inv L n _ h)) _ _
/-- The leaves under a place. -/
def lvN (L : List Dig) (n k : Nat) : Nat := min (L.length - k * 2 ^ n) (2 ^ n)
theorem lvN_succ (L : List Dig) (n k : Nat) : lvN L (n + 1) k = lvN L n (2 * k) + lvN L n (2 * k + 1) := by
  unfold lvN
  have h1 : 2 * k * 2 ^ n = k * 2 ^ (n + 1) := by rw [Nat.pow_succ, Nat.mul_comm (2 ^ n) 2, ← Nat.mul_assoc, Nat.mul_comm k 2]
  have h2 : (2 * k + 1) * 2 ^ n = k * 2 ^ (n + 1) + 2 ^ n := by rw [Nat.add_mul, h1, Nat.one_mul]
  rw [h1, h2, Nat.pow_succ]
  generalize k * (2 ^ n * 2) = a
  generalize 2 ^ n = p
  omega
theorem ndL_len (L : List Dig) : ∀ (n k : Nat) (q : Log), (ndL L n k q).1.length ≤ q.1.length + n * lvN L n k
  | 0, k, q => by simp [ndL]
  | n + 1, k, q => by
    simp only [ndL]; split
    · omega
    · rename_i h
      have h1 := ndL_len L n (2 * k) q
      have h2 := ndL_len L n (2 * k + 1) (ndL L n (2 * k) q)
      have h3 := twoL_len (nd L n (2 * k)) (nd L n (2 * k + 1)) (ndL L n (2 * k + 1) (ndL L n (2 * k) q))
      have h4 := lvN_succ L n k
      have h5 : 1 ≤ lvN L (n + 1) k := by
        unfold lvN
        have : 0 < 2 ^ (n + 1) := Nat.pow_pos (by omega)
        omega
      have h6 : (n + 1) * lvN L (n + 1) k = n * lvN L n (2 * k) + n * lvN L n (2 * k + 1) + lvN L (n + 1) k := by
        rw [Nat.add_mul, Nat.one_mul]
        conv => lhs; lhs; rw [h4]
        rw [Nat.mul_add]
      omega

theorem rnode_lg {L : List Dig} (hl : L.length ≤ 5000) (hL : All32 L) : ∀ (n k : Nat) (q : Log), n ≤ 32 → k * 2 ^ n ≤ 1000000000000 → LInv q → q.1.length + n * lvN L n k ≤ 90000 →
    FnG Tryd.prog tb 22 (logB q) [.ptr 0 [], .t 22 (.e (dsE (zP 32))), .t 22 (.e (dsE L)), .t 3 (.e (.int n)), .t 3 (.e (.int k))] (fun r t => r = .t 24 (.e (dgE (nd L n k))) ∧ t = logB (ndL L n k q)) := by
  intro n
  induction n with
  | zero =>
    intro k q hn hk hq hlq
    refine FnG_of_V (fn := Tryd.f22) (bt := 4) true [] [24] (ok 3 _) Tryd.func22 rfl rfl rfl fun _ _ _ _ _ _ => ?_
    apply V_of_VX
    have hlm : (L.map dgE).length = L.length := by simp
    have hzl := zP_length 32
    have hzg := (zP_get 32 0 (by omega)).trans (if_pos (by omega))
    generalize zP 32 = Z at hzl hzg
    simp only [ndL]
    unfold logB Lg.lgB
    generalize Lg.entL q.2 = E0
    generalize q.1.map E.str = I0
    have e16 : IntKind.wrap .i64 ((k : Int) * ((2 ^ 0 : Nat) : Int)) = (k : Int) := by simp at hk ⊢; rw [w64 (by omega) (by omega)]
    refine VX_go4 (fs := []) (ok 3 _) eqs trivial 100 [] rfl trivial ?_
    refine VX_callD (ok 3 _) [3] [] rfl rfl rfl rfl rfl rfl (size_ok 0 (by omega)).g rfl rfl rfl ?_
    refine VX_go4 (fs := []) (ok 3 _) eqs trivial 100 [17] rfl trivial ?_
    refine VX_eq 16 rfl rfl (d' := .t 3 (.e (.int k))) (congrArg (fun x => D.t 3 (.e (.int x))) e16) ?_
    refine VX_go4 (fs := []) (ok 3 _) eqs trivial 100 [] rfl trivial ?_
    refine VX_split 19 rfl rfl (fun h => ?_) (fun h => ?_)
    · have h1 : L.length ≤ k := by simp only [List.length_map, decide_eq_true_eq] at h; omega
      refine VX_go4 (fs := []) (ok 3 _) eqs trivial 100 [] rfl (by simp [allP, hzl]) ?_
      have h2 : (Z.map dgE).getD 0 .nilp = dgE (nght 0) := (dsE_get (z := []) (by omega)).trans (congrArg dgE hzg)
      rw [nd_ge (by simpa using h1), ← h2]
      exact ⟨.inr rfl, _, _, _, rfl, rfl, rfl, rfl, rfl⟩
    · have h1 : k < L.length := by simp only [List.length_map, decide_eq_false_iff_not] at h; omega
      refine VX_go4 (fs := []) (ok 3 _) eqs trivial 100 [] rfl trivial ?_
      refine VX_known 25 true rfl rfl (by simp) ?_
      refine VX_go4 (fs := []) (ok 3 _) eqs trivial 100 [] rfl (by simp [allP]; omega) ?_
      have h2 : (L.map dgE).getD k .nilp = dgE (nd L 0 k) := (dsE_get (z := []) h1).trans (congrArg dgE (nd_zero h1 _).symm)
      rw [← h2]
      exact ⟨.inr rfl, _, _, _, rfl, rfl, rfl, rfl, rfl⟩
  | succ n ih =>
    intro k q hn hk hq hlq
    refine FnG_of_V (fn := Tryd.f22) (bt := 4) true [] [24] (ok 3 _) Tryd.func22 rfl rfl rfl fun _ _ _ _ _ _ => ?_
    apply V_of_VX
    have hlm : (L.map dgE).length = L.length := by simp
    have e16 : IntKind.wrap .i64 ((k : Int) * ((2 ^ (n + 1) : Nat) : Int)) = ((k * 2 ^ (n + 1) : Nat) : Int) := by rw [← Int.natCast_mul, w64 (by omega) (by omega)]
    by_cases h1 : L.length ≤ k * 2 ^ (n + 1)
    · have hzl := zP_length 32
      have hzg := (zP_get 32 (n + 1) (by omega)).trans (if_pos hn)
      generalize zP 32 = Z at hzl hzg
      have hnd : ndL L (n + 1) k q = q := by simp only [ndL]; rw [if_pos h1]
      rw [hnd]
      unfold logB Lg.lgB
      generalize Lg.entL q.2 = E0
      generalize q.1.map E.str = I0
      refine VX_go4 (fs := []) (ok 3 _) eqs trivial 100 [] rfl trivial ?_
      refine VX_callD (ok 3 _) [3] [] rfl rfl rfl rfl rfl rfl (size_ok (n + 1) (by omega)).g rfl rfl rfl ?_
      refine VX_go4 (fs := []) (ok 3 _) eqs trivial 100 [17] rfl trivial ?_
      refine VX_eq 16 rfl rfl (d' := .t 3 (.e (.int (k * 2 ^ (n + 1) : Nat)))) (congrArg (fun x => D.t 3 (.e (.int x))) e16) ?_
      refine VX_go4 (fs := []) (ok 3 _) eqs trivial 100 [] rfl trivial ?_
      refine VX_known 19 true rfl rfl (by simp only [List.length_map, decide_eq_true_eq]; omega) ?_
      refine VX_go4 (fs := []) (ok 3 _) eqs trivial 100 [] rfl (by simp [allP, hzl]; omega) ?_
      have h2 : (Z.map dgE).getD (n + 1) .nilp = dgE (nght (n + 1)) := (dsE_get (z := []) (by omega)).trans (congrArg dgE hzg)
      rw [nd_ge h1, ← h2]
      exact ⟨.inr rfl, _, _, _, rfl, rfl, rfl, rfl, rfl⟩
    · have hp := Nat.pow_succ 2 n
      have hp32 : (2 : Nat) ^ n ≤ 2 ^ 32 := Nat.pow_le_pow_right (by omega) (by omega)
      have h32 : (2 : Nat) ^ 32 = 4294967296 := by decide
      have hkn : 2 * k * 2 ^ n = k * 2 ^ (n + 1) := by rw [hp, Nat.mul_comm (2 ^ n) 2, ← Nat.mul_assoc, Nat.mul_comm k 2]
      have hkk : k ≤ k * 2 ^ (n + 1) := Nat.le_mul_of_pos_right _ (Nat.pow_pos (by omega))
      have hls := lvN_succ L n k
      have hlb : (n + 1) * lvN L (n + 1) k = n * lvN L n (2 * k) + n * lvN L n (2 * k + 1) + lvN L (n + 1) k := by
        rw [Nat.add_mul, Nat.one_mul]
        conv => lhs; lhs; rw [hls]
        rw [Nat.mul_add]
      have c1 := ih (2 * k) q (by omega) (by omega) hq (by omega)
      have i1 := ndL_inv L n (2 * k) hq
      have n1 := ndL_len L n (2 * k) q
      have c2 := ih (2 * k + 1) (ndL L n (2 * k) q) (by omega) (by rw [Nat.add_mul, hkn]; omega) i1 (by omega)
      have i2 := ndL_inv L n (2 * k + 1) i1
      have n2 := ndL_len L n (2 * k + 1) (ndL L n (2 * k) q)
      have c3 := rtwo_lg (nd_length hL n (2 * k)) (nd_length hL n (2 * k + 1)) _ i2 (by omega)
      have hnd : ndL L (n + 1) k q = twoL (nd L n (2 * k)) (nd L n (2 * k + 1)) (ndL L n (2 * k + 1) (ndL L n (2 * k) q)) := by simp only [ndL]; rw [if_neg h1]
      rw [hnd, nd_succ (by omega)]
      clear i1 i2 n1 n2 hnd
      generalize ndL L n (2 * k) q = q1 at c1 c2 c3 ⊢
      generalize ndL L n (2 * k + 1) q1 = q2 at c2 c3 ⊢
      generalize nd L n (2 * k) = A at c1 c3 ⊢
      generalize nd L n (2 * k + 1) = B at c2 c3 ⊢
      generalize twoL A B q2 = q3 at c3 ⊢
      generalize nodeB A B = R at c3 ⊢
      generalize zP 32 = Z at c1 c2 ⊢
      unfold logB Lg.lgB at c1 c2 c3 ⊢
      generalize Lg.entL q.2 = E0 at c1 ⊢
      generalize q.1.map E.str = I0 at c1 ⊢
      generalize Lg.entL q1.2 = E1 at c1 c2
      generalize q1.1.map E.str = I1 at c1 c2
      generalize Lg.entL q2.2 = E2 at c2 c3
      generalize q2.1.map E.str = I2 at c2 c3
      generalize Lg.entL q3.2 = E3 at c3 ⊢
      generalize q3.1.map E.str = I3 at c3 ⊢
      have e34 : IntKind.wrap .i64 (((n + 1 : Nat) : Int) - 1) = (n : Int) := by rw [w64 (by omega) (by omega)]; omega
      have e36 : IntKind.wrap .i64 (2 * (k : Int)) = ((2 * k : Nat) : Int) := by rw [w64 (by omega) (by omega)]; omega
      have e45 : IntKind.wrap .i64 (((2 * k : Nat) : Int) + 1) = ((2 * k + 1 : Nat) : Int) := by rw [w64 (by omega) (by omega)]; omega
      refine VX_go4 (fs := []) (ok 3 _) eqs trivial 100 [] rfl trivial ?_
      refine VX_callD (ok 3 _) [3] [] rfl rfl rfl rfl rfl rfl (size_ok (n + 1) (by omega)).g rfl rfl rfl ?_
      refine VX_go4 (fs := []) (ok 3 _) eqs trivial 100 [17] rfl trivial ?_
      refine VX_eq 16 rfl rfl (d' := .t 3 (.e (.int (k * 2 ^ (n + 1) : Nat)))) (congrArg (fun x => D.t 3 (.e (.int x))) e16) ?_
      refine VX_go4 (fs := []) (ok 3 _) eqs trivial 100 [] rfl trivial ?_
      refine VX_known 19 false rfl rfl (by simp only [List.length_map, decide_eq_false_iff_not]; omega) ?_
      refine VX_go4 (fs := []) (ok 3 _) eqs trivial 100 [] rfl trivial ?_
      refine VX_known 25 false rfl rfl (by simp; omega) ?_
      refine VX_go4 (fs := []) (ok 3 _) eqs trivial 100 [35] rfl trivial ?_
      refine VX_eq 34 rfl rfl (d' := .t 3 (.e (.int n))) (congrArg (fun x => D.t 3 (.e (.int x))) e34) ?_
      refine VX_go4 (fs := []) (ok 3 _) eqs trivial 100 [37] rfl trivial ?_
      refine VX_eq 36 rfl rfl (d' := .t 3 (.e (.int (2 * k : Nat)))) (congrArg (fun x => D.t 3 (.e (.int x))) e36) ?_
      refine VX_callD (ok 3 _) [38, 22, 22, 3, 3] [0, 1, 2] rfl rfl rfl rfl rfl rfl c1 rfl rfl rfl ?_
      refine VX_go4 (fs := []) (ok 3 _) eqs trivial 100 [43] rfl trivial ?_
      refine VX_eq 42 rfl rfl (d' := .t 3 (.e (.int n))) (congrArg (fun x => D.t 3 (.e (.int x))) e34) ?_
      refine VX_go4 (fs := []) (ok 3 _) eqs trivial 100 [45] rfl trivial ?_
      refine VX_eq 44 rfl rfl (d' := .t 3 (.e (.int (2 * k : Nat)))) (congrArg (fun x => D.t 3 (.e (.int x))) e36) ?_
      refine VX_go4 (fs := []) (ok 3 _) eqs trivial 100 [46] rfl trivial ?_
      refine VX_eq 45 rfl rfl (d' := .t 3 (.e (.int (2 * k + 1 : Nat)))) (congrArg (fun x => D.t 3 (.e (.int x))) e45) ?_
      refine VX_callD (ok 3 _) [38, 22, 22, 3, 3] [0, 1, 2] rfl rfl rfl rfl rfl rfl c2 rfl rfl rfl ?_
      refine VX_go4 (fs := []) (ok 3 _) eqs trivial 100 [] rfl trivial ?_
      refine VX_callD (ok 3 _) [38, 5, 24, 24] [0, 1, 2] rfl rfl rfl rfl rfl rfl c3 rfl rfl rfl ?_
      refine VX_go4 (fs := []) (ok 3 _) eqs trivial 100 [] rfl trivial ?_
      exact ⟨.inr rfl, _, _, _, rfl, rfl, rfl, rfl, rfl⟩
end Go.Den.Q7.Me
/- Law 07: the root and the climb of the document's answer, with a log. -/
namespace Go.Den.Q7.Me
open Go Go.Den Go.Proofs Go.Den.Q7 Go.Den.Q7.Dg
set_option maxRecDepth 8000
set_option linter.unusedVariables false
set_option linter.unusedSimpArgs false
open Go.Den.Q7.Sh (dgE)
open Go.Den.Q7.Lg (Log LInv logB noteL ofL has clashL)

theorem first_ok {L : List Dig} (hl : L.length ≤ 4096) : FnOk Tryd.prog tb 26 [22] [22] [dsE L] [dsE L] := by
  refine FnOk_of_V (fn := Tryd.f26) (bt := 4) (ok 0 _) Tryd.func26 rfl rfl rfl (by decide) fun hw => ?_
  clear hw
  apply V_of_VX
  refine VX_go4 (fs := []) (ok 0 _) eqs trivial 100 [] rfl trivial ?_
  refine VX_known 5 false rfl rfl (by simp; omega) ?_
  refine VX_go4 (fs := []) (ok 0 _) eqs trivial 100 [] rfl trivial ?_
  exact ⟨.inr rfl, rfl⟩

/-- The whole tree noted. -/
def treeL (L : List Dig) (q : Log) : Log := ndL L 32 0 (nL q 33)
theorem treeL_inv (L : List Dig) {q : Log} (h : LInv q) : LInv (treeL L q) := ndL_inv L 32 0 (nL_inv h 33)
theorem treeL_len (L : List Dig) (q : Log) : (treeL L q).1.length ≤ q.1.length + 33 + 32 * L.length := by
  have h1 := ndL_len L 32 0 (nL q 33)
  have h2 := nL_len q 33
  have h3 : lvN L 32 0 ≤ L.length := by unfold lvN; omega
  unfold treeL; omega
theorem rtree_lg {L : List Dig} (hl : L.length ≤ 1000) (hL : All32 L) (q : Log) (hq : LInv q) (hlq : q.1.length ≤ 50000) :
    FnG Tryd.prog tb 14 (logB q) [.ptr 0 [], .t 22 (.e (dsE L))] (fun r t => r = .t 24 (.e (dgE (rootB L))) ∧ t = logB (treeL L q)) := by
  refine FnG_of_V (fn := Tryd.f14) (bt := 4) true [] [24] (ok 3 _) Tryd.func14 rfl rfl rfl fun _ _ _ _ _ _ => ?_
  apply V_of_VX
  have n1 := nL_len q 33
  have h3 : lvN L 32 0 ≤ L.length := by unfold lvN; omega
  have c1 := rnoughts_lg q hq (by omega)
  have c2 := (first_ok (L := L) (by omega)).g
  have c3 := rnode_lg (by omega) hL 32 0 (nL q 33) (by decide) (by simp) (nL_inv hq 33) (by omega)
  unfold treeL rootB
  generalize nL q 33 = q1 at c1 c3 ⊢
  generalize ndL L 32 0 q1 = q2 at c3 ⊢
  generalize nd L 32 0 = R at c3 ⊢
  generalize zP 32 = Z at c1 c3
  unfold logB Lg.lgB at c1 c3 ⊢
  generalize Lg.entL q.2 = E0 at c1 ⊢
  generalize q.1.map E.str = I0 at c1 ⊢
  generalize Lg.entL q1.2 = E1 at c1 c3
  generalize q1.1.map E.str = I1 at c1 c3
  generalize Lg.entL q2.2 = E2 at c3 ⊢
  generalize q2.1.map E.str = I2 at c3 ⊢
  refine VX_go4 (fs := []) (ok 3 _) eqs trivial 100 [] rfl trivial ?_
  refine VX_callD (ok 3 _) [38] [0, 1, 2] rfl rfl rfl rfl rfl rfl c1 rfl rfl rfl ?_
  refine VX_go4 (fs := []) (ok 3 _) eqs trivial 100 [] rfl trivial ?_
  refine VX_callD (ok 3 _) [22] [] rfl rfl rfl rfl rfl rfl c2 rfl rfl rfl ?_
  refine VX_callD (ok 3 _) [38, 22, 22, 3, 3] [0, 1, 2] rfl rfl rfl rfl rfl rfl c3 rfl rfl rfl ?_
  refine VX_go4 (fs := []) (ok 3 _) eqs trivial 100 [] rfl trivial ?_
  exact ⟨.inr rfl, _, _, _, rfl, rfl, rfl, rfl, rfl⟩

/-- The steps of a climb noted. -/
def clQ (leaf : Dig) (m : Nat) (B : List Dig) (q : Log) : Nat → Log
  | 0 => q
  | i + 1 => if bitB m i = true then twoL (B.getD i []) (clB leaf m B i) (clQ leaf m B q i) else twoL (clB leaf m B i) (B.getD i []) (clQ leaf m B q i)
theorem clQ_inv (leaf : Dig) (m : Nat) (B : List Dig) {q : Log} (h : LInv q) : ∀ i, LInv (clQ leaf m B q i)
  | 0 => h
  | i + 1 => by
    simp only [clQ]; split
    · exact twoL_inv (clQ_inv leaf m B h i) _ _
    · exact twoL_inv (clQ_inv leaf m B h i) _ _
theorem clQ_len (leaf : Dig) (m : Nat) (B : List Dig) (q : Log) : ∀ i, (clQ leaf m B q i).1.length ≤ q.1.length + i
  | 0 => Nat.le_refl _
  | i + 1 => by
    have := clQ_len leaf m B q i
    simp only [clQ]; split
    · have := twoL_len (B.getD i []) (clB leaf m B i) (clQ leaf m B q i); omega
    · have := twoL_len (clB leaf m B i) (B.getD i []) (clQ leaf m B q i); omega
def climbL (leaf : Dig) (m : Nat) (B : List Dig) (q : Log) : Log := clQ leaf m B q (upTo B)

set_option maxHeartbeats 1600000 in
theorem rclimb_lg {leaf : Dig} {B : List Dig} (hf : leaf.length = 32) (hB : All32 B) (hl : B.length ≤ 100000) (m : Nat) (hm : m < 4294967296) (q : Log) (hq : LInv q) (hlq : q.1.length ≤ 50000) :
    FnG Tryd.prog tb 10 (logB q) [.ptr 0 [], .t 24 (.e (dgE leaf)), .t 25 (.e (.int m)), .t 22 (.e (dsE B))] (fun r t => r = .t 24 (.e (dgE (climbB leaf m B))) ∧ t = logB (climbL leaf m B q)) := by
  refine FnG_of_V (fn := Tryd.f10) (bt := 4) true [] [24] (ok 3 _) Tryd.func10 rfl rfl rfl fun _ _ _ _ _ _ => ?_
  apply V_of_VX
  have hlm : (B.map dgE).length = B.length := by simp
  unfold climbB climbL
  have hup : upTo B ≤ 32 ∧ upTo B ≤ B.length := by unfold upTo; split <;> omega
  have hue : ∀ i, i ≤ upTo B → (i < upTo B ↔ i < B.length ∧ i < 32) := fun i h => by unfold upTo at h ⊢; split at h <;> split <;> omega
  generalize upTo B = N at hup hue
  have hinv := clQ_inv leaf m B hq
  have hlen := clQ_len leaf m B q
  have e0 : Lg.entL q.2 = Lg.entL (clQ leaf m B q 0).2 := rfl
  have e1 : q.1.map E.str = (clQ leaf m B q 0).1.map E.str := rfl
  unfold logB Lg.lgB
  rw [e0, e1]
  refine VX_go4 (fs := []) (ok 3 _) eqs trivial 100 [] rfl trivial ?_
  refine VX_loopA (fun i : Nat => i ≤ N) (fun i => [(9, .t 3 (.e (.int i))), (8, .ptr 4 []), (5, .ptr 3 []), (3, .t 22 (.e (dsE B))), (2, .t 25 (.e (.int m))), (0, .ptr 0 [])])
    (fun i => [.tree 57 (.st [.lsl 1 ((clQ leaf m B q i).1.map E.str), .mp 2]), .row 9 ((clQ leaf m B q i).1.map E.str).length, .mp 24 9 (Lg.entL (clQ leaf m B q i).2), .tree 24 (.e (dgE (clB leaf m B i))), .tree 24 (.e (dgE z0))]) (fun i => N - i) 0 (by omega) ?_ ?_
  · exact wk1 rfl rfl (by simp [Blk.under, T.under, T.unders]) (lc (ls rfl rfl) (lc (ls rfl rfl) (lc (ls rfl rfl) (lc (ls rfl rfl) (lc (ls rfl rfl) (lc (ls rfl rfl) lnil))))))
  · intro i hi
    have hui := hue i hi
    have hli := hlen i
    refine VX_go4 (fs := []) (ok 3 _) eqs trivial 100 [] rfl trivial ?_
    by_cases hlt : i < N
    · obtain ⟨hib, hi32⟩ := hui.1 hlt
      refine VX_known 14 true rfl rfl (by simp; omega) ?_
      refine VX_go4 (fs := []) (ok 3 _) eqs trivial 100 [] rfl trivial ?_
      refine VX_known 17 true rfl rfl (by simp; omega) ?_
      have ei : IntKind.wrap .i64 ((i : Int) + 1) = ((i + 1 : Nat) : Int) := by rw [w64 (by omega) (by omega)]; simp
      have hg : (B.map dgE).getD i .nilp = dgE (B.getD i []) := dsE_get hib []
      have hc := clB_length hf m B i
      have hb : (B.getD i []).length = 32 := by rw [getD_any (by omega) [] z0]; exact getD_all hB z0_length i
      have hnx : clB leaf m B (i + 1) = if bitB m i = true then nodeB (B.getD i []) (clB leaf m B i) else nodeB (clB leaf m B i) (B.getD i []) := rfl
      have hnq : clQ leaf m B q (i + 1) = if bitB m i = true then twoL (B.getD i []) (clB leaf m B i) (clQ leaf m B q i) else twoL (clB leaf m B i) (B.getD i []) (clQ leaf m B q i) := rfl
      have c0 := (bit_ok m i (by omega)).g
      have c1 := rtwo_lg hb hc (clQ leaf m B q i) (hinv i) (by omega)
      have c2 := rtwo_lg hc hb (clQ leaf m B q i) (hinv i) (by omega)
      generalize twoL (B.getD i []) (clB leaf m B i) (clQ leaf m B q i) = q1 at c1 hnq
      generalize twoL (clB leaf m B i) (B.getD i []) (clQ leaf m B q i) = q2 at c2 hnq
      generalize nodeB (B.getD i []) (clB leaf m B i) = R1 at c1 hnx
      generalize nodeB (clB leaf m B i) (B.getD i []) = R2 at c2 hnx
      generalize clB leaf m B i = cur at c1 c2 ⊢
      generalize B.getD i [] = b at c1 c2 hg
      generalize bitB m i = bt at hnx hnq c0
      generalize clQ leaf m B q i = q0 at c1 c2 ⊢
      unfold logB Lg.lgB at c1 c2
      have g1 : (clQ leaf m B q (i + 1)).1.map E.str = if bt = true then q1.1.map E.str else q2.1.map E.str := by rw [hnq]; split <;> rfl
      have g2 : Lg.entL (clQ leaf m B q (i + 1)).2 = if bt = true then Lg.entL q1.2 else Lg.entL q2.2 := by rw [hnq]; split <;> rfl
      generalize Lg.entL q0.2 = E0 at c1 c2 ⊢
      generalize q0.1.map E.str = I0 at c1 c2 ⊢
      generalize Lg.entL q1.2 = E1 at c1 g2
      generalize q1.1.map E.str = I1 at c1 g1
      generalize Lg.entL q2.2 = E2 at c2 g2
      generalize q2.1.map E.str = I2 at c2 g1
      refine VX_go4 (fs := []) (ok 3 _) eqs trivial 100 [] rfl trivial ?_
      refine VX_callD (ok 3 _) [25, 3] [] rfl rfl rfl rfl rfl rfl c0 rfl rfl rfl ?_
      cases bt with
      | true =>
        rw [if_pos rfl] at hnx g1 g2
        refine VX_known 22 true rfl rfl rfl ?_
        refine VX_go4 (fs := []) (ok 3 _) eqs trivial 100 [] rfl trivial ?_
        refine VX_draw [0, 1, 2] [(0, true), (1, true), (2, true), (3, true), (4, true), (5, true), (6, false), (7, false)] mixed (by kernel_rfl) (by kernel_rfl) (by kernel_rfl) ?_
        refine VX_go4 (fs := []) (ok 3 _) eqs trivial 100 [28] rfl (by simp [allP]; omega) ?_
        refine VX_eq 27 rfl rfl (d' := .t 24 (.e (dgE b))) (congrArg (fun x => D.t 24 (.e x)) hg) ?_
        refine VX_go4 (fs := []) (ok 3 _) eqs trivial 100 [] rfl trivial ?_
        refine VX_callO (ok 3 _) [38, 5, 24, 24] [0, 1, 2] rfl rfl rfl rfl rfl rfl rfl rfl c1 rfl rfl rfl ?_
        refine VX_ts [3] (by kernel_rfl) ?_
        refine VX_storeO (ok 3 _) rfl rfl rfl rfl rfl rfl (by simp) ?_
        refine VX_go4 (fs := []) (ok 3 _) eqs trivial 100 [] rfl trivial ?_
        refine loop_nrm ⟨i + 1, by omega, by omega, ?_⟩
        exact wk1 (by rw [hnx, g1, g2]; rfl) rfl (by simp [Blk.under, T.under, T.unders]) (lc (li (by rw [ei])) (lc (ls rfl rfl) (lc (ls rfl rfl) (lc (ls rfl rfl) (lc (ls rfl rfl) (lc (ls rfl rfl) lnil))))))
      | false =>
        rw [if_neg (by decide)] at hnx g1 g2
        refine VX_known 22 false rfl rfl rfl ?_
        refine VX_go4 (fs := []) (ok 3 _) eqs trivial 100 [] rfl trivial ?_
        refine VX_draw [0, 1, 2] [(0, true), (1, true), (2, true), (3, true), (4, true), (5, true), (6, false), (7, false)] mixed (by kernel_rfl) (by kernel_rfl) (by kernel_rfl) ?_
        refine VX_go4 (fs := []) (ok 3 _) eqs trivial 100 [36] rfl (by simp [allP]; omega) ?_
        refine VX_eq 35 rfl rfl (d' := .t 24 (.e (dgE b))) (congrArg (fun x => D.t 24 (.e x)) hg) ?_
        refine VX_callO (ok 3 _) [38, 5, 24, 24] [0, 1, 2] rfl rfl rfl rfl rfl rfl rfl rfl c2 rfl rfl rfl ?_
        refine VX_ts [3] (by kernel_rfl) ?_
        refine VX_storeO (ok 3 _) rfl rfl rfl rfl rfl rfl (by simp) ?_
        refine VX_go4 (fs := []) (ok 3 _) eqs trivial 100 [] rfl trivial ?_
        refine loop_nrm ⟨i + 1, by omega, by omega, ?_⟩
        exact wk1 (by rw [hnx, g1, g2]; rfl) rfl (by simp [Blk.under, T.under, T.unders]) (lc (li (by rw [ei])) (lc (ls rfl rfl) (lc (ls rfl rfl) (lc (ls rfl rfl) (lc (ls rfl rfl) (lc (ls rfl rfl) lnil))))))
    · have hi' : i = N := by omega
      subst hi'
      have hno : ¬ (i < B.length ∧ i < 32) := fun h => hlt (hui.2 h)
      generalize clB leaf m B i = cur
      generalize clQ leaf m B q i = q0
      generalize Lg.entL q0.2 = E0
      generalize q0.1.map E.str = I0
      by_cases hib : i < B.length
      · refine VX_known 14 true rfl rfl (by simp; omega) ?_
        refine VX_go4 (fs := []) (ok 3 _) eqs trivial 100 [] rfl trivial ?_
        refine VX_known 17 false rfl rfl (by simp; omega) ?_
        refine VX_go4 (fs := []) (ok 3 _) eqs trivial 100 [] rfl trivial ?_
        apply loop_brk
        refine VX_go4 (fs := []) (ok 3 _) eqs trivial 100 [] rfl trivial ?_
        exact ⟨.inr rfl, _, _, _, rfl, rfl, rfl, rfl, rfl⟩
      · refine VX_known 14 false rfl rfl (by simp; omega) ?_
        refine VX_go4 (fs := []) (ok 3 _) eqs trivial 100 [] rfl trivial ?_
        apply loop_brk
        refine VX_go4 (fs := []) (ok 3 _) eqs trivial 100 [] rfl trivial ?_
        exact ⟨.inr rfl, _, _, _, rfl, rfl, rfl, rfl, rfl⟩
end Go.Den.Q7.Me
/- Law 07: what a log that does not clash tells of a tree and a climb. -/
namespace Go.Den.Q7.Me
open Go Go.Den Go.Proofs Go.Den.Q7 Go.Den.Q7.Dg
set_option maxRecDepth 8000
set_option linter.unusedVariables false
set_option linter.unusedSimpArgs false
open Go.Den.Q7.Sh (dgE)
open Go.Den.Q7.Lg (Log LInv logB noteL ofL has clashL)

theorem has_two {q : Log} {d s : List UInt8} (h : has q d s) (a b : Dig) : has (twoL a b q) d s := Lg.has_mono h _ _
theorem has_here (a b : Dig) (q : Log) : has (twoL a b q) (nodeB a b) (inputB 6 [a, b]) := Lg.has_note _ _ _
theorem has_nL {q : Log} {d s : List UInt8} (h : has q d s) : ∀ i, has (nL q i) d s
  | 0 => h
  | i + 1 => has_two (has_nL h i) _ _
theorem has_ndL (L : List Dig) {d s : List UInt8} : ∀ (n k : Nat) {q : Log}, has q d s → has (ndL L n k q) d s
  | 0, _, q, h => h
  | n + 1, k, q, h => by
    simp only [ndL]; split
    · exact h
    · exact has_two (has_ndL L n _ (has_ndL L n _ h)) _ _
theorem has_clQ (leaf : Dig) (m : Nat) (B : List Dig) {q : Log} {d s : List UInt8} (h : has q d s) : ∀ i, has (clQ leaf m B q i) d s
  | 0 => h
  | i + 1 => by
    simp only [clQ]; split
    · exact has_two (has_clQ leaf m B h i) _ _
    · exact has_two (has_clQ leaf m B h i) _ _

theorem nL_has (q : Log) (i : Nat) : ∀ n, i < n → has (nL q n) (nght (i + 1)) (inputB 6 [nght i, nght i])
  | 0, h => by omega
  | n + 1, h => by
    by_cases e : i = n
    · subst e; exact has_here _ _ _
    · exact has_two (nL_has q i n (by omega)) _ _

theorem ndL_has (L : List Dig) : ∀ (N K : Nat) (q : Log) (n k : Nat), n + 1 ≤ N → k / 2 ^ (N - (n + 1)) = K → k * 2 ^ (n + 1) < L.length → has (ndL L N K q) (nd L (n + 1) k) (inputB 6 [nd L n (2 * k), nd L n (2 * k + 1)])
  | 0, _, _, n, _, h, _, _ => by omega
  | N + 1, K, q, n, k, h, hk, hl => by
    have hge : K * 2 ^ (N + 1) ≤ k * 2 ^ (n + 1) := by
      have h1 : K * 2 ^ (N + 1 - (n + 1)) ≤ k := by rw [← hk]; exact Nat.div_mul_le_self _ _
      have h2 : (2 : Nat) ^ (N + 1) = 2 ^ (N + 1 - (n + 1)) * 2 ^ (n + 1) := by rw [← Nat.pow_add]; congr 1; omega
      rw [h2, ← Nat.mul_assoc]
      exact Nat.mul_le_mul_right _ h1
    have hnot : ¬ L.length ≤ K * 2 ^ (N + 1) := by omega
    simp only [ndL]; rw [if_neg hnot]
    by_cases e : n = N
    · subst e
      have hkK : k = K := by rw [← hk]; simp
      subst hkK
      rw [nd_succ hl]; exact has_here _ _ _
    · have e2 : N + 1 - (n + 1) = (N - (n + 1)) + 1 := by omega
      rw [e2, Nat.pow_succ, ← Nat.div_div_eq_div_mul] at hk
      have hc : k / 2 ^ (N - (n + 1)) = 2 * K ∨ k / 2 ^ (N - (n + 1)) = 2 * K + 1 := by omega
      refine has_two ?_ _ _
      rcases hc with hc | hc
      · exact has_ndL L N _ (ndL_has L N (2 * K) q n k (by omega) hc hl)
      · exact ndL_has L N (2 * K + 1) _ n k (by omega) hc hl

theorem nd_node (L : List Dig) (n k : Nat) : nd L (n + 1) k = nodeB (nd L n (2 * k)) (nd L n (2 * k + 1)) := by
  by_cases h : k * 2 ^ (n + 1) < L.length
  · exact nd_succ h
  · have hkn : 2 * k * 2 ^ n = k * 2 ^ (n + 1) := by rw [Nat.pow_succ, Nat.mul_comm (2 ^ n) 2, ← Nat.mul_assoc, Nat.mul_comm k 2]
    rw [nd_ge (by omega), nd_ge (by rw [hkn]; omega), nd_ge (by rw [Nat.add_mul, hkn]; omega)]; rfl

theorem tree_has (L : List Dig) (q : Log) (n k : Nat) (hn : n + 1 ≤ 32) (hk : k < 2 ^ (32 - (n + 1))) : has (treeL L q) (nd L (n + 1) k) (inputB 6 [nd L n (2 * k), nd L n (2 * k + 1)]) := by
  unfold treeL
  by_cases h : k * 2 ^ (n + 1) < L.length
  · exact ndL_has L 32 0 _ n k hn (Nat.div_eq_of_lt hk) h
  · have hkn : 2 * k * 2 ^ n = k * 2 ^ (n + 1) := by rw [Nat.pow_succ, Nat.mul_comm (2 ^ n) 2, ← Nat.mul_assoc, Nat.mul_comm k 2]
    rw [nd_ge (n := n + 1) (by omega), nd_ge (n := n) (k := 2 * k) (by rw [hkn]; omega), nd_ge (n := n) (k := 2 * k + 1) (by rw [Nat.add_mul, hkn]; omega)]
    exact has_ndL L 32 0 (nL_has q n 33 (by omega))

theorem cl_has (leaf : Dig) (m : Nat) (B : List Dig) (q : Log) (i : Nat) : ∀ n, i < n → has (clQ leaf m B q n) (clB leaf m B (i + 1)) (if bitB m i = true then inputB 6 [B.getD i [], clB leaf m B i] else inputB 6 [clB leaf m B i, B.getD i []])
  | 0, h => by omega
  | n + 1, h => by
    by_cases e : i = n
    · subst e
      have hcl : clB leaf m B (i + 1) = if bitB m i = true then nodeB (B.getD i []) (clB leaf m B i) else nodeB (clB leaf m B i) (B.getD i []) := rfl
      rw [hcl]
      simp only [clQ]
      split
      · exact has_here _ _ _
      · exact has_here _ _ _
    · have := cl_has leaf m B q i n (by omega)
      simp only [clQ]
      split
      · exact has_two this _ _
      · exact has_two this _ _

theorem two_inj {a b c d : Dig} (ha : a.length = 32) (hb : b.length = 32) (hc : c.length = 32) (hd : d.length = 32) (h : inputB 6 [a, b] = inputB 6 [c, d]) : a = c ∧ b = d := by
  simp only [inputB, List.map_cons, List.map_nil, List.flatten_cons, List.flatten_nil, List.append_nil] at h
  have h := List.append_cancel_left h
  obtain ⟨h1, h2⟩ := List.append_inj h (by simp [Wi.textB, Wi.bigB_length, ha, hc])
  have key : ∀ {x y : Dig}, x.length = 32 → y.length = 32 → Wi.textB x = Wi.textB y → x = y := fun hx hy e => by
    unfold Wi.textB at e
    rw [hx, hy] at e
    exact List.append_cancel_left e
  exact ⟨key ha hc h1, key hb hd h2⟩

/-- What a branch proves under a tree's root is what stands there. -/
theorem binds {L : List Dig} (hL : All32 L) {leaf : Dig} (hf : leaf.length = 32) {B : List Dig} (hB : All32 B) {m : Nat} (hm : m < 4294967296) {q : Log} (hq : LInv q) (hp : provesB (rootB L) leaf m B = true)
    (hc : clashL (climbL leaf m B (treeL L q)) = false) : leaf = nd L 0 m := by
  simp only [provesB, Bool.and_eq_true, decide_eq_true_eq] at hp
  obtain ⟨h32, hcl⟩ := hp
  have hup : upTo B = 32 := upTo_32 h32
  have hinv : LInv (climbL leaf m B (treeL L q)) := clQ_inv leaf m B (treeL_inv L hq) _
  unfold climbB at hcl
  rw [hup] at hcl
  have hbl : ∀ i, i < 32 → (B.getD i []).length = 32 := fun i hi => by rw [getD_any (by omega) [] z0]; exact getD_all hB z0_length i
  have key : ∀ t j, j + t = 32 → clB leaf m B j = nd L j (m / 2 ^ j) := by
    intro t
    induction t with
    | zero =>
      intro j hj
      have : j = 32 := by omega
      subst this
      rw [hcl, Nat.div_eq_of_lt (by have : (2 : Nat) ^ 32 = 4294967296 := by decide
                                    omega)]
      rfl
    | succ t ih =>
      intro j hj
      have h1 := ih (j + 1) (by omega)
      have hK : m / 2 ^ (j + 1) < 2 ^ (32 - (j + 1)) := by
        rw [Nat.div_lt_iff_lt_mul (Nat.pow_pos (by omega)), ← Nat.pow_add]
        have : 32 - (j + 1) + (j + 1) = 32 := by omega
        rw [this]
        have : (2 : Nat) ^ 32 = 4294967296 := by decide
        omega
      have a1 : has (climbL leaf m B (treeL L q)) (nd L (j + 1) (m / 2 ^ (j + 1))) (inputB 6 [nd L j (2 * (m / 2 ^ (j + 1))), nd L j (2 * (m / 2 ^ (j + 1)) + 1)]) := has_clQ leaf m B (tree_has L q j _ (by omega) hK) _
      have a2 := cl_has leaf m B (treeL L q) j (upTo B) (by omega)
      rw [h1] at a2
      have a3 := hinv.one hc a1 a2
      have hd : m / 2 ^ (j + 1) = m / 2 ^ j / 2 := by rw [Nat.pow_succ, Nat.div_div_eq_div_mul]
      rw [hd] at a3
      have l1 := nd_length hL j (2 * (m / 2 ^ j / 2))
      have l2 := nd_length hL j (2 * (m / 2 ^ j / 2) + 1)
      have l3 := hbl j (by omega)
      have l4 := clB_length hf m B j
      by_cases hb : bitB m j = true
      · rw [if_pos hb] at a3
        have hb' : m / 2 ^ j % 2 = 1 := by simpa [bitB] using hb
        have h3 := (two_inj l1 l2 l3 l4 a3).2
        rw [← h3]
        congr 1
        generalize m / 2 ^ j = x at hb'
        omega
      · rw [if_neg hb] at a3
        have hb' : ¬ m / 2 ^ j % 2 = 1 := by simpa [bitB] using hb
        have h3 := (two_inj l1 l2 l4 l3 a3).1
        rw [← h3]
        congr 1
        generalize m / 2 ^ j = x at hb'
        omega
  have := key 32 0 (by omega)
  simpa [clB] using this
end Go.Den.Q7.Me
/- Law 07: MerkleBinds. -/
namespace Go.Den.Q7.Me
open Go Go.Den Go.Proofs Go.Den.Q7 Go.Den.Q7.Dg
set_option maxRecDepth 8000
set_option linter.unusedVariables false
set_option linter.unusedSimpArgs false
open Go.Den.Q7.Sh (dgE)
open Go.Den.Q7.Lg (Log LInv logB noteL ofL has clashL)

set_option maxHeartbeats 1600000 in
theorem binds_ok (x0 x1 x2 x3 : E) : FnOk Tryd.prog tb 4 [22, 24, 25, 22] [4] [x0, x1, x2, x3] [.bool true] := by
  refine FnOk_of_V (fn := Tryd.f4) (bt := 4) (ok 0 _) Tryd.func4 rfl rfl rfl (by decide) fun hw => ?_
  obtain ⟨L, rfl, hL⟩ := wt_digs (hw 0 _ x0 rfl rfl) rfl
  obtain ⟨⟨leaf, hf⟩, rfl⟩ := wt_dg (hw 1 _ x1 rfl rfl) rfl
  obtain ⟨m, rfl, hm⟩ := wt_u32 (hw 2 _ x2 rfl rfl) rfl
  obtain ⟨B, rfl, hB⟩ := wt_digs (hw 3 _ x3 rfl rfl) rfl
  clear hw
  simp only
  apply V_of_VX
  have hlm : (L.map dgE).length = L.length := by simp
  have hbm : (B.map dgE).length = B.length := by simp
  have ca := awake_ok.g
  refine VX_go4 (fs := []) (ok 0 _) eqs trivial 100 [] rfl trivial ?_
  refine VX_callD (ok 0 _) [] [] rfl rfl rfl rfl rfl rfl ca rfl rfl rfl ?_
  refine VX_go4 (fs := []) (ok 0 _) eqs trivial 100 [] rfl trivial ?_
  refine VX_known 13 false rfl rfl rfl ?_
  refine VX_go4 (fs := []) (ok 0 _) eqs trivial 100 [] rfl trivial ?_
  refine VX_split 17 rfl rfl (fun h => ?_) (fun h => ?_)
  · refine VX_go4 (fs := []) (ok 0 _) eqs trivial 100 [] rfl trivial ?_
    refine VX_callD (ok 0 _) [] [] rfl rfl rfl rfl rfl rfl ca rfl rfl rfl ?_
    refine VX_go4 (fs := []) (ok 0 _) eqs trivial 100 [] rfl trivial ?_
    exact ⟨.inr rfl, rfl⟩
  have hl40 : L.length ≤ 40 := by simp only [hlm, decide_eq_false_iff_not] at h; omega
  clear h
  refine VX_go4 (fs := []) (ok 0 _) eqs trivial 100 [] rfl trivial ?_
  refine VX_split 21 rfl rfl (fun h => ?_) (fun h => ?_)
  · refine VX_go4 (fs := []) (ok 0 _) eqs trivial 100 [] rfl trivial ?_
    refine VX_callD (ok 0 _) [] [] rfl rfl rfl rfl rfl rfl ca rfl rfl rfl ?_
    refine VX_go4 (fs := []) (ok 0 _) eqs trivial 100 [] rfl trivial ?_
    exact ⟨.inr rfl, rfl⟩
  have hb100 : B.length ≤ 100 := by simp only [hbm, decide_eq_false_iff_not] at h; omega
  clear h
  have i0 : LInv ([], []) := .nil
  have c0 := Lg.rnew_ok
  have c1 := rtree_lg (L := L) (by omega) hL ([], []) i0 (by simp)
  have n1 : (treeL L ([], [])).1.length ≤ 0 + 33 + 32 * L.length := treeL_len L ([], [])
  have i1 := treeL_inv L i0
  have c2 := (proves_ok (root := rootB L) hf hB (by omega) m hm).g
  have c3 := rclimb_lg hf hB (by omega) m hm (treeL L ([], [])) i1 (by omega)
  have hup : upTo B ≤ 32 := by unfold upTo; split <;> omega
  have n2 : (climbL leaf m B (treeL L ([], []))).1.length ≤ (treeL L ([], [])).1.length + upTo B := clQ_len leaf m B _ _
  have c4 := Lg.clashL_ok (climbL leaf m B (treeL L ([], []))) (clQ_inv leaf m B i1 _) (by omega)
  have hbind := fun hp hc => binds hL hf hB hm (q := ([], [])) i0 hp hc
  have hth : nd L 0 m = if m < L.length then L.getD m [] else z0 := by
    split
    · rename_i h; exact nd_zero h _
    · rename_i h; exact nd_ge (by simpa using h)
  rw [hth] at hbind
  clear n1 n2 i1 hup hth
  generalize climbL leaf m B (treeL L ([], [])) = q2 at c3 c4 hbind
  generalize treeL L ([], []) = q1 at c1 c3
  generalize provesB (rootB L) leaf m B = pb at c2 hbind
  generalize rootB L = root at c1 c2
  generalize climbB leaf m B = cl at c3
  generalize clashL q2 = cs at c4 hbind
  have e0 : Lg.lgB [] [] = logB ([], []) := rfl
  rw [e0] at c0
  unfold logB Lg.lgB at c0 c1 c3 c4
  generalize Lg.entL ([] : List (List UInt8 × List (List UInt8))) = E0 at c0 c1
  generalize ([] : List (List UInt8)).map E.str = I0 at c0 c1
  generalize Lg.entL q1.2 = E1 at c1 c3
  generalize q1.1.map E.str = I1 at c1 c3
  generalize Lg.entL q2.2 = E2 at c3 c4
  generalize q2.1.map E.str = I2 at c3 c4
  clear e0 i0
  refine VX_go4 (fs := []) (ok 0 _) eqs trivial 100 [] rfl trivial ?_
  refine VX_callD (ok 0 _) [] [] rfl rfl rfl rfl rfl rfl c0 rfl rfl rfl ?_
  refine VX_go4 (fs := []) (ok 0 _) eqs trivial 100 [] rfl trivial ?_
  refine VX_callD (ok 0 _) [38, 22] [1, 2, 3] rfl rfl rfl rfl rfl rfl c1 rfl rfl rfl ?_
  refine VX_go4 (fs := []) (ok 0 _) eqs trivial 100 [] rfl trivial ?_
  refine VX_callD (ok 0 _) [44, 24, 24, 25, 22] [] rfl rfl rfl rfl rfl rfl c2 rfl rfl rfl ?_
  refine VX_go4 (fs := []) (ok 0 _) eqs trivial 100 [] rfl trivial ?_
  cases pb with
  | false =>
    refine VX_known 32 true rfl rfl rfl ?_
    refine VX_go4 (fs := []) (ok 0 _) eqs trivial 100 [] rfl trivial ?_
    refine VX_callD (ok 0 _) [] [] rfl rfl rfl rfl rfl rfl ca rfl rfl rfl ?_
    refine VX_go4 (fs := []) (ok 0 _) eqs trivial 100 [] rfl trivial ?_
    exact ⟨.inr rfl, rfl⟩
  | true =>
  refine VX_known 32 false rfl rfl rfl ?_
  refine VX_go4 (fs := []) (ok 0 _) eqs trivial 100 [] rfl trivial ?_
  refine VX_callD (ok 0 _) [38, 24, 25, 22] [1, 2, 3] rfl rfl rfl rfl rfl rfl c3 rfl rfl rfl ?_
  refine VX_go4 (fs := []) (ok 0 _) eqs trivial 100 [] rfl trivial ?_
  have hw : IntKind.wrap .i64 (m : Int) = (m : Int) := w64 (by omega) (by omega)
  refine VX_split 43 rfl rfl (fun h => ?_) (fun h => ?_)
  · have hlt : m < L.length := by simp [hw] at h; omega
    have hg : (L.map dgE).getD m .nilp = dgE (L.getD m []) := dsE_get hlt []
    refine VX_go4 (fs := []) (ok 0 _) eqs trivial 100 [] rfl (by simp [allP]; omega) ?_
    refine VX_callD (ok 0 _) [] [] rfl rfl rfl rfl rfl rfl ca rfl rfl rfl ?_
    refine VX_go4 (fs := []) (ok 0 _) eqs trivial 100 [] rfl trivial ?_
    refine VX_known 49 true rfl rfl rfl ?_
    refine VX_go4 (fs := []) (ok 0 _) eqs trivial 100 [53] rfl trivial ?_
    refine VX_eq 52 rfl rfl (d' := .t 4 (.e (.bool (decide (leaf = L.getD m []))))) (congrArg (fun x => D.t 4 (.e (.bool x))) ((congrArg (eqE (dgE leaf)) hg).trans (eqDgD leaf (L.getD m [])))) ?_
    by_cases he : leaf = L.getD m []
    · refine VX_go4 (fs := []) (ok 0 _) eqs trivial 100 [] rfl trivial ?_
      refine VX_known 53 true rfl rfl (by simpa using he) ?_
      refine VX_go4 (fs := []) (ok 0 _) eqs trivial 100 [] rfl trivial ?_
      exact ⟨.inr rfl, rfl⟩
    · have hcs : cs = true := by
        cases cs with
        | true => rfl
        | false => exact absurd ((hbind rfl rfl).trans (if_pos hlt)) he
      subst hcs
      refine VX_go4 (fs := []) (ok 0 _) eqs trivial 100 [] rfl trivial ?_
      refine VX_known 53 false rfl rfl (by simpa using he) ?_
      refine VX_go4 (fs := []) (ok 0 _) eqs trivial 100 [] rfl trivial ?_
      refine VX_callD (ok 0 _) [38] [1, 2, 3] rfl rfl rfl rfl rfl rfl c4 rfl rfl rfl ?_
      refine VX_go4 (fs := []) (ok 0 _) eqs trivial 100 [] rfl trivial ?_
      exact ⟨.inr rfl, rfl⟩
  · have hge : ¬ m < L.length := by simp [hw] at h; omega
    refine VX_go4 (fs := []) (ok 0 _) eqs trivial 100 [] rfl trivial ?_
    refine VX_callD (ok 0 _) [] [] rfl rfl rfl rfl rfl rfl ca rfl rfl rfl ?_
    refine VX_go4 (fs := []) (ok 0 _) eqs trivial 100 [] rfl trivial ?_
    refine VX_known 49 true rfl rfl rfl ?_
    refine VX_go4 (fs := []) (ok 0 _) eqs trivial 100 [53] rfl trivial ?_
    refine VX_eq 52 rfl rfl (d' := .t 4 (.e (.bool (decide (leaf = z0))))) (congrArg (fun x => D.t 4 (.e (.bool x))) (eqDgD leaf z0)) ?_
    by_cases he : leaf = z0
    · refine VX_go4 (fs := []) (ok 0 _) eqs trivial 100 [] rfl trivial ?_
      refine VX_known 53 true rfl rfl (by simpa using he) ?_
      refine VX_go4 (fs := []) (ok 0 _) eqs trivial 100 [] rfl trivial ?_
      exact ⟨.inr rfl, rfl⟩
    · have hcs : cs = true := by
        cases cs with
        | true => rfl
        | false => exact absurd ((hbind rfl rfl).trans (if_neg hge)) he
      subst hcs
      refine VX_go4 (fs := []) (ok 0 _) eqs trivial 100 [] rfl trivial ?_
      refine VX_known 53 false rfl rfl (by simpa using he) ?_
      refine VX_go4 (fs := []) (ok 0 _) eqs trivial 100 [] rfl trivial ?_
      refine VX_callD (ok 0 _) [38] [1, 2, 3] rfl rfl rfl rfl rfl rfl c4 rfl rfl rfl ?_
      refine VX_go4 (fs := []) (ok 0 _) eqs trivial 100 [] rfl trivial ?_
      exact ⟨.inr rfl, rfl⟩
end Go.Den.Q7.Me
/- The two, side by side. -/
