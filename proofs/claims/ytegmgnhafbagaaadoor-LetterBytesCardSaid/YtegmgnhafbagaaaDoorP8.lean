/- The calculus and the walks, part 8: Q9dV, Q9dD, Q9dR, Q9dN, Q9dO, Q9dP. -/
import Derived.Test.YtegmgnhafbagaaaDoorP7
/- Contracts of another seat, turned to this seat's numbers (port2.py). -/
namespace Go.Den.Q9d.Wi
open Go Go.Den Go.Proofs
set_option maxRecDepth 8000
set_option linter.unusedVariables false
def takeB (s : List UInt8) (e : Int) (n : Nat) : List UInt8 × List UInt8 × Int :=
  if e = 0 then if s.length < n then ([], s, 3) else (s.take n, s.drop n, 0) else ([], s, e)
def failB (e f : Int) : Int := if e = 0 then f else e
def numV (l : List UInt8) : Nat := l.foldl (fun n c => n * 256 + c.toNat) 0
theorem numV_snoc (l : List UInt8) (c : UInt8) : numV (l ++ [c]) = numV l * 256 + c.toNat := by simp [numV]
theorem numV_lt : ∀ (n : Nat) (l : List UInt8), l.length = n → numV l < 256 ^ n
  | 0, l, h => by have : l = [] := List.length_eq_zero_iff.1 h; subst this; simp [numV]
  | n + 1, l, h => by
    have hne : l ≠ [] := by intro e; rw [e] at h; simp at h
    obtain ⟨m, c, rfl⟩ : ∃ m c, l = m ++ [c] := ⟨l.dropLast, l.getLast hne, (List.dropLast_concat_getLast hne).symm⟩
    have ih := numV_lt n m (by simpa using h)
    rw [numV_snoc, Nat.pow_succ]
    have := c.toNat_lt
    have : numV m + 1 ≤ 256 ^ n := ih
    have h2 := Nat.mul_le_mul_right 256 this
    omega
theorem bigB_succ (n k : Nat) : bigB n (k + 1) = bigB (n / 256) k ++ [UInt8.ofNat (n % 256)] := by
  unfold bigB
  rw [List.range_succ, List.map_append]
  congr 1
  · apply List.map_congr_left
    intro i hi
    have hi : i < k := by simpa using hi
    rw [show k + 1 - 1 - i = (k - 1 - i) + 1 by omega, Nat.pow_succ, Nat.mul_comm, ← Nat.div_div_eq_div_mul]
  · simp
theorem bigB_numV : ∀ (k : Nat) (l : List UInt8), l.length = k → bigB (numV l) k = l
  | 0, l, h => by have : l = [] := List.length_eq_zero_iff.1 h; subst this; rfl
  | k + 1, l, h => by
    have hne : l ≠ [] := by intro e; rw [e] at h; simp at h
    obtain ⟨m, c, rfl⟩ : ∃ m c, l = m ++ [c] := ⟨l.dropLast, l.getLast hne, (List.dropLast_concat_getLast hne).symm⟩
    have hc := c.toNat_lt
    rw [numV_snoc, bigB_succ, show (numV m * 256 + c.toNat) / 256 = numV m by omega, show (numV m * 256 + c.toNat) % 256 = c.toNat by omega, bigB_numV k m (by simpa using h)]
    simp
theorem numV_bigB : ∀ (k n : Nat), n < 256 ^ k → numV (bigB n k) = n
  | 0, n, h => by have : n = 0 := by simpa using h
                  subst this; rfl
  | k + 1, n, h => by
    rw [bigB_succ, numV_snoc, numV_bigB k (n / 256) (by rw [Nat.pow_succ] at h; exact Nat.div_lt_of_lt_mul (by rw [Nat.mul_comm]; exact h))]
    have : (UInt8.ofNat (n % 256)).toNat = n % 256 := by simp [UInt8.toNat_ofNat']
    rw [this]; omega
theorem or_byte (n c : Nat) (hn : n < 72057594037927936) (hc : c < 256) : bitop .or .u64 ((n * 256 : Nat) : Int) (c : Int) = ((n * 256 + c : Nat) : Int) := by
  have h1 : BitVec.ofInt 64 ((n * 256 : Nat) : Int) = BitVec.ofNat 64 (n * 256) := BitVec.ofInt_natCast _ _
  have h2 : BitVec.ofInt 64 (c : Int) = BitVec.ofNat 64 c := BitVec.ofInt_natCast _ _
  have h3 : (BitVec.ofNat 64 (n * 256) ||| BitVec.ofNat 64 c).toNat = n * 256 + c := by
    rw [BitVec.toNat_or, BitVec.toNat_ofNat, BitVec.toNat_ofNat, Nat.mod_eq_of_lt (by omega), Nat.mod_eq_of_lt (by omega)]
    have := Nat.shiftLeft_add_eq_or_of_lt (a := n) (b := c) (i := 8) (by omega)
    rw [Nat.shiftLeft_eq] at this
    exact this.symm
  show IntKind.wrap .u64 ((BitVec.ofInt 64 _ ||| BitVec.ofInt 64 _).toNat : Int) = _
  rw [h1, h2, h3]
  exact inR_wrap (by simp [inR]; omega)
theorem takeB_len (s : List UInt8) (e : Int) (n : Nat) : (takeB s e n).1.length ≤ n := by
  unfold takeB; split
  · split
    · simp
    · simp; omega
  · simp
def rd (s : List UInt8) (e : Int) : Blk := .tree 71 (.e (.agg [.str s, .int e]))
theorem take_ok (s : List UInt8) (e : Int) (n : Nat) : FnG Tryd.prog tb 38 [rd s e] [.ptr 0 [], .t 3 (.e (.int n))] (fun d t => d = .t 9 (.e (.str (takeB s e n).1)) ∧ t = [rd (takeB s e n).2.1 (takeB s e n).2.2]) := by
  refine FnG_of_V (fn := Tryd.f38) (bt := 4) false [] [9] (ok 1 _) Tryd.func38 rfl rfl rfl fun _ _ _ _ _ _ => ?_
  apply V_of_VX
  refine VX_go3 (fs := []) (ok 1 _) eqs trivial 100 [] rfl trivial ?_
  refine VX_split 6 rfl rfl (fun h => ?_) (fun h => ?_)
  · have he : e ≠ 0 := by simpa using h
    refine VX_go3 (fs := []) (ok 1 _) eqs trivial 100 [] rfl trivial ?_
    refine ⟨.inr rfl, _, _, _, rfl, rfl, rfl, ?_⟩
    simp only [takeB, if_neg he]; exact ⟨rfl, rfl⟩
  · have he : e = 0 := by simpa using h
    subst he
    refine VX_go3 (fs := []) (ok 1 _) eqs trivial 100 [] rfl trivial ?_
    refine VX_split 16 rfl rfl (fun h => ?_) (fun h => ?_)
    · have hn : s.length < n := by simpa using h
      refine VX_go3 (fs := []) (ok 1 _) eqs trivial 100 [] rfl trivial ?_
      refine ⟨.inr rfl, _, _, _, rfl, rfl, rfl, ?_⟩
      simp only [takeB, if_pos hn]; exact ⟨rfl, rfl⟩
    · have hn : ¬ s.length < n := by simpa using h
      refine VX_go3 (fs := []) (ok 1 _) eqs trivial 100 [] rfl ?_ ?_
      · simp only [allP]; omega
      refine ⟨.inr rfl, _, _, _, rfl, rfl, rfl, ?_⟩
      simp only [takeB, if_neg hn, if_true]
      constructor
      · show D.t 9 (.e (.str ((s.take n).drop 0))) = _; rfl
      · show [Blk.tree 71 (.e (.agg [.str ((s.take s.length).drop n), .int 0]))] = _
        rw [List.take_length]; rfl
theorem fail_ok (s : List UInt8) (e f : Int) : FnG Tryd.prog tb 51 [rd s e] [.ptr 0 [], .t 27 (.e (.int f))] (fun d t => d = .tup [] ∧ t = [rd s (failB e f)]) := by
  refine FnG_of_V (fn := Tryd.f51) (bt := 4) false [] [] (ok 1 _) Tryd.func51 rfl rfl rfl fun _ _ _ _ _ _ => ?_
  apply V_of_VX
  refine VX_go3 (fs := []) (ok 1 _) eqs trivial 100 [12] rfl trivial ?_
  refine VX_split 11 rfl rfl (fun h => ?_) (fun h => ?_)
  · have he : e = 0 := by simpa using h
    refine VX_go3 (fs := []) (ok 1 _) eqs trivial 100 [] rfl trivial ?_
    refine ⟨.inl rfl, _, _, _, rfl, rfl, rfl, ?_⟩
    simp only [failB, if_pos he]; exact ⟨rfl, rfl⟩
  · have he : e ≠ 0 := by simpa using h
    refine VX_go3 (fs := []) (ok 1 _) eqs trivial 100 [] rfl trivial ?_
    refine ⟨.inl rfl, _, _, _, rfl, rfl, rfl, ?_⟩
    simp only [failB, if_neg he]; exact ⟨rfl, rfl⟩
theorem getD_byte {l : List UInt8} {i : Nat} (h : i < l.length) : (l.map byteE).getD i .nilp = .int (l[i].toNat : Nat) := by simp [List.getD, h, byteE]
theorem number_ok (s : List UInt8) (e : Int) (k : Nat) (hk : k ≤ 8) : FnG Tryd.prog tb 37 [rd s e] [.ptr 0 [], .t 3 (.e (.int k))] (fun d t => d = .t 45 (.e (.int (numV (takeB s e k).1))) ∧ t = [rd (takeB s e k).2.1 (takeB s e k).2.2]) := by
  refine FnG_of_V (fn := Tryd.f37) (bt := 4) false [] [45] (ok 1 _) Tryd.func37 rfl rfl rfl fun _ _ _ _ _ _ => ?_
  apply V_of_VX
  refine VX_go3 (fs := []) (ok 1 _) eqs trivial 100 [] rfl trivial ?_
  refine VX_callD (ok 1 _) [47, 3] [0] rfl rfl rfl rfl rfl rfl (take_ok s e k) rfl rfl rfl ?_
  have hlen := takeB_len s e k
  generalize (takeB s e k).1 = l at hlen ⊢
  generalize (takeB s e k).2.1 = s'
  generalize (takeB s e k).2.2 = e'
  refine VX_op rfl rfl (OpV_bytes (ok 1 _) rfl rfl rfl rfl rfl rfl) ?_
  rintro d σ ⟨rfl, rfl⟩
  refine VX_go3 (fs := []) (ok 1 _) eqs trivial 100 [] rfl trivial ?_
  refine VX_loopA (fun i : Nat => i ≤ l.length) (fun i => [(13, .t 3 (.e (.int i))), (12, .t 3 (.e (.int l.length))), (11, .t 69 (.e (.sl (l.map byteE)))), (5, .t 45 (.e (.int (numV (l.take i)))))]) (fun _ => [rd s' e']) (fun i => l.length - i) 0 (by omega) ?_ ?_
  · exact wk1 rfl rfl (by simp [rd, Blk.under, T.under]) (lc (ls rfl rfl) (lc (li (by simp)) (lc (ls rfl rfl) (lc (ls rfl rfl) lnil))))
  · intro i hi
    refine VX_go3 (fs := []) (ok 1 _) eqs trivial 100 [] rfl trivial ?_
    refine VX_split 14 rfl rfl (fun h => ?_) (fun h => ?_)
    · have hi : i < l.length := by simpa using h
      refine VX_go3 (fs := []) (ok 1 _) eqs trivial 100 [7] rfl ?_ ?_
      · simp [allP]; omega
      refine VX_eq 16 rfl rfl (d' := .t 5 (.e (.int (l[i].toNat : Nat)))) (congrArg (fun x => D.t 5 (.e x)) (getD_byte hi)) ?_
      have hb := l[i].toNat_lt
      have hv : numV (l.take i) < 256 ^ i := numV_lt i _ (by simp; omega)
      have hv7 : numV (l.take i) < 72057594037927936 := by
        have : (256 : Nat) ^ i ≤ 256 ^ 7 := Nat.pow_le_pow_right (by omega) (by omega)
        have h7 : (256 : Nat) ^ 7 = 72057594037927936 := by decide
        omega
      have hsucc : numV (l.take (i + 1)) = numV (l.take i) * 256 + l[i].toNat := by
        rw [List.take_add_one, List.getElem?_eq_getElem hi]; exact numV_snoc _ _
      have e1 : IntKind.wrap .u64 ((numV (l.take i) : Int) * 2 ^ (min (Int.toNat 8) IntKind.u64.bits)) = ((numV (l.take i) * 256 : Nat) : Int) := by
        have : (2 : Int) ^ (min (Int.toNat 8) IntKind.u64.bits) = 256 := by decide
        rw [this, inR_wrap (by simp [inR]; omega)]; norm_cast
      have e2 : IntKind.wrap .u64 ((l[i].toNat : Nat) : Int) = ((l[i].toNat : Nat) : Int) := inR_wrap (by simp [inR]; omega)
      refine VX_go3 (fs := []) (ok 1 _) eqs trivial 100 [21] rfl (by simp [allP, arithP]) ?_
      refine VX_eq 18 rfl rfl (d' := .t 45 (.e (.int ((numV (l.take i) * 256 : Nat) : Int)))) (congrArg (fun x => D.t 45 (T.e (E.int x))) e1) ?_
      refine VX_eq 20 rfl rfl (d' := .t 45 (.e (.int ((l[i].toNat : Nat) : Int)))) (congrArg (fun x => D.t 45 (T.e (E.int x))) e2) ?_
      refine VX_go3 (fs := []) (ok 1 _) eqs trivial 100 [] rfl trivial ?_
      refine loop_nrm ⟨i + 1, by omega, by omega, ?_⟩
      refine wk1 rfl rfl (by simp [rd, Blk.under, T.under]) (lc (li ?_) (lc (ls rfl rfl) (lc (ls rfl rfl) (lc (li ?_) lnil))))
      · rw [w64 (by omega) (by omega)]; simp
      · rw [hsucc, ← or_byte _ _ hv7 hb]
    · have : i = l.length := by simp at h; omega
      subst this
      refine VX_go3 (fs := []) (ok 1 _) eqs trivial 100 [] rfl trivial ?_
      apply loop_brk
      refine VX_go3 (fs := []) (ok 1 _) eqs trivial 100 [] rfl trivial ?_
      refine ⟨.inr rfl, _, _, _, rfl, rfl, rfl, ?_⟩
      rw [List.take_length]; exact ⟨rfl, rfl⟩
theorem numV_le {l : List UInt8} {k : Nat} (h : l.length ≤ k) : numV l < 256 ^ k := Nat.lt_of_lt_of_le (numV_lt _ l rfl) (Nat.pow_le_pow_right (by omega) h)
theorem wordR_ok (s : List UInt8) (e : Int) : FnG Tryd.prog tb 24 [rd s e] [.ptr 0 []] (fun d t => d = .t 22 (.e (.int (numV (takeB s e 4).1))) ∧ t = [rd (takeB s e 4).2.1 (takeB s e 4).2.2]) := by
  refine FnG_of_V (fn := Tryd.f24) (bt := 4) false [] [22] (ok 1 _) Tryd.func24 rfl rfl rfl fun _ _ _ _ _ _ => ?_
  apply V_of_VX
  refine VX_go3 (fs := []) (ok 1 _) eqs trivial 100 [] rfl trivial ?_
  refine VX_callD (ok 1 _) [47, 3] [0] rfl rfl rfl rfl rfl rfl (number_ok s e 4 (by omega)) rfl rfl rfl ?_
  have hv := numV_le (takeB_len s e 4)
  have e1 : IntKind.wrap .u32 ((numV (takeB s e 4).1 : Nat) : Int) = (numV (takeB s e 4).1 : Nat) := inR_wrap (by simp [inR]; omega)
  refine VX_go3 (fs := []) (ok 1 _) eqs trivial 100 [2] rfl trivial ?_
  refine VX_eq 5 rfl rfl (d' := .t 22 (.e (.int (numV (takeB s e 4).1 : Nat)))) (congrArg (fun x => D.t 22 (T.e (E.int x))) e1) ?_
  refine VX_go3 (fs := []) (ok 1 _) eqs trivial 100 [] rfl trivial ?_
  exact ⟨.inr rfl, _, _, _, rfl, rfl, rfl, rfl, rfl⟩
def mx (m : Int) : Nat := if m < 0 then 0 else m.toNat
def countB (s : List UInt8) (e : Int) (m : Int) : Nat × List UInt8 × Int :=
  if mx m < numV (takeB s e 4).1 then (0, (takeB s e 4).2.1, failB (takeB s e 4).2.2 5) else (numV (takeB s e 4).1, (takeB s e 4).2.1, (takeB s e 4).2.2)
theorem count_ok (s : List UInt8) (e : Int) (m : Int) (h1 : -9223372036854775808 ≤ m) (h2 : m ≤ 9223372036854775807) : FnG Tryd.prog tb 39 [rd s e] [.ptr 0 [], .t 3 (.e (.int m))] (fun d t => d = .t 3 (.e (.int (countB s e m).1)) ∧ t = [rd (countB s e m).2.1 (countB s e m).2.2]) := by
  refine FnG_of_V (fn := Tryd.f39) (bt := 4) false [] [3] (ok 1 _) Tryd.func39 rfl rfl rfl fun _ _ _ _ _ _ => ?_
  apply V_of_VX
  refine VX_go3 (fs := []) (ok 1 _) eqs trivial 100 [] rfl trivial ?_
  refine VX_callD (ok 1 _) [47, 3] [0] rfl rfl rfl rfl rfl rfl (number_ok s e 4 (by omega)) rfl rfl rfl ?_
  have hv := numV_le (takeB_len s e 4)
  have em : IntKind.wrap .u64 (if (0 : Int) > m then 0 else m) = (mx m : Nat) := by
    unfold mx
    rcases Int.lt_or_le m 0 with h | h
    · rw [if_pos h, if_pos h]; rfl
    · rw [if_neg (by omega), if_neg (by omega), inR_wrap (by simp [inR]; omega)]; omega
  refine VX_go3 (fs := []) (ok 1 _) eqs trivial 100 [12] rfl (by simp [allP]) ?_
  refine VX_eq 11 rfl rfl (d' := .t 45 (.e (.int (mx m : Nat)))) (congrArg (fun x => D.t 45 (T.e (E.int x))) em) ?_
  refine VX_go3 (fs := []) (ok 1 _) eqs trivial 100 [] rfl trivial ?_
  refine VX_split 12 rfl rfl (fun h => ?_) (fun h => ?_)
  · have hlt : mx m < numV (takeB s e 4).1 := by simpa using h
    refine VX_go3 (fs := []) (ok 1 _) eqs trivial 100 [] rfl trivial ?_
    refine VX_callD (ok 1 _) [47, 27] [0] rfl rfl rfl rfl rfl rfl (fail_ok (takeB s e 4).2.1 (takeB s e 4).2.2 5) rfl rfl rfl ?_
    refine VX_go3 (fs := []) (ok 1 _) eqs trivial 100 [] rfl trivial ?_
    refine ⟨.inr rfl, _, _, _, rfl, rfl, rfl, ?_⟩
    unfold countB; rw [if_pos hlt]; exact ⟨rfl, rfl⟩
  · have hlt : ¬ mx m < numV (takeB s e 4).1 := by simpa using h
    have e1 : IntKind.wrap .i64 ((numV (takeB s e 4).1 : Nat) : Int) = (numV (takeB s e 4).1 : Nat) := w64 (by omega) (by omega)
    refine VX_go3 (fs := []) (ok 1 _) eqs trivial 100 [4] rfl trivial ?_
    refine VX_eq 16 rfl rfl (d' := .t 3 (.e (.int (numV (takeB s e 4).1 : Nat)))) (congrArg (fun x => D.t 3 (T.e (E.int x))) e1) ?_
    refine VX_go3 (fs := []) (ok 1 _) eqs trivial 100 [] rfl trivial ?_
    refine ⟨.inr rfl, _, _, _, rfl, rfl, rfl, ?_⟩
    unfold countB; rw [if_neg hlt]; exact ⟨rfl, rfl⟩
theorem countB_lt (s : List UInt8) (e m : Int) : (countB s e m).1 < 4294967296 := by
  have hv := numV_le (takeB_len s e 4)
  unfold countB; split
  · simp
  · exact hv
def textR (s : List UInt8) (e m : Int) : List UInt8 × List UInt8 × Int := takeB (countB s e m).2.1 (countB s e m).2.2 (countB s e m).1
theorem textR_ok (s : List UInt8) (e : Int) (m : Int) (h1 : -9223372036854775808 ≤ m) (h2 : m ≤ 9223372036854775807) : FnG Tryd.prog tb 25 [rd s e] [.ptr 0 [], .t 3 (.e (.int m))] (fun d t => d = .t 9 (.e (.str (textR s e m).1)) ∧ t = [rd (textR s e m).2.1 (textR s e m).2.2]) := by
  refine FnG_of_V (fn := Tryd.f25) (bt := 4) false [] [9] (ok 1 _) Tryd.func25 rfl rfl rfl fun _ _ _ _ _ _ => ?_
  apply V_of_VX
  refine VX_go3 (fs := []) (ok 1 _) eqs trivial 100 [] rfl trivial ?_
  refine VX_callD (ok 1 _) [47, 3] [0] rfl rfl rfl rfl rfl rfl (count_ok s e m h1 h2) rfl rfl rfl ?_
  refine VX_callD (ok 1 _) [47, 3] [0] rfl rfl rfl rfl rfl rfl (take_ok _ _ _) rfl rfl rfl ?_
  refine VX_go3 (fs := []) (ok 1 _) eqs trivial 100 [] rfl trivial ?_
  exact ⟨.inr rfl, _, _, _, rfl, rfl, rfl, rfl, rfl⟩
theorem takeB_le (s : List UInt8) (e : Int) (n : Nat) : (takeB s e n).1.length ≤ s.length ∧ (takeB s e n).2.1.length ≤ s.length := by
  unfold takeB; split
  · split
    · simp
    · simp; omega
  · simp
theorem countB_le (s : List UInt8) (e m : Int) : (countB s e m).2.1.length ≤ s.length := by
  unfold countB; split <;> exact (takeB_le s e 4).2
def endB (s : List UInt8) (e : Int) : Int := if e = 0 ∧ s ≠ [] then 4 else e
theorem end_ok (s : List UInt8) (e : Int) : FnG Tryd.prog tb 26 [rd s e] [.ptr 0 []] (fun d t => d = .t 27 (.e (.int (endB s e))) ∧ t = [rd s e]) := by
  refine FnG_of_V (fn := Tryd.f26) (bt := 4) false [] [27] (ok 1 _) Tryd.func26 rfl rfl rfl fun _ _ _ _ _ _ => ?_
  apply V_of_VX
  refine VX_go3 (fs := []) (ok 1 _) eqs trivial 100 [] rfl trivial ?_
  refine VX_split 12 rfl rfl (fun h => ?_) (fun h => ?_)
  · have he : e = 0 := by simpa using h
    refine VX_go3 (fs := []) (ok 1 _) eqs trivial 100 [] rfl trivial ?_
    refine VX_split 6 rfl rfl (fun h => ?_) (fun h => ?_)
    · have hs : s ≠ [] := by simpa using h
      refine VX_go3 (fs := []) (ok 1 _) eqs trivial 100 [] rfl trivial ?_
      refine ⟨.inr rfl, _, _, _, rfl, rfl, rfl, ?_⟩
      unfold endB; rw [if_pos ⟨he, hs⟩]; exact ⟨rfl, rfl⟩
    · have hs : s = [] := by simpa using h
      refine VX_go3 (fs := []) (ok 1 _) eqs trivial 100 [] rfl trivial ?_
      refine ⟨.inr rfl, _, _, _, rfl, rfl, rfl, ?_⟩
      unfold endB; rw [if_neg (fun h => h.2 hs)]; exact ⟨rfl, rfl⟩
  · have he : e ≠ 0 := by simpa using h
    refine VX_go3 (fs := []) (ok 1 _) eqs trivial 100 [] rfl trivial ?_
    refine ⟨.inr rfl, _, _, _, rfl, rfl, rfl, ?_⟩
    unfold endB; rw [if_neg (fun h => he h.1)]; exact ⟨rfl, rfl⟩
theorem over_ok (s : List UInt8) : FnG Tryd.prog tb 23 [] [.t 9 (.e (.str s))] (fun d t => d = .ptr 0 [] ∧ t = [rd s 0]) := by
  refine FnG_of_V (fn := Tryd.f23) (bt := 4) false [0] [47] (ok 0 _) Tryd.func23 rfl rfl rfl fun _ _ _ _ _ _ => ?_
  apply V_of_VX
  refine VX_go3 (fs := []) (ok 0 _) eqs trivial 100 [] rfl trivial ?_
  exact ⟨.inr rfl, _, _, _, rfl, rfl, rfl, rfl, rfl⟩
theorem takeB_0 {s : List UInt8} {e : Int} {n : Nat} (h : (takeB s e n).2.2 = 0) : e = 0 ∧ n ≤ s.length ∧ (takeB s e n).1 = s.take n ∧ (takeB s e n).2.1 = s.drop n := by
  unfold takeB at h ⊢
  split at h
  · rename_i he
    split at h
    · simp at h
    · rename_i hn; simp only [if_pos he, if_neg hn]; exact ⟨he, by omega, trivial, trivial⟩
  · rename_i he; exact absurd h he
theorem failB_ne {e f : Int} (hf : f ≠ 0) : failB e f ≠ 0 := by
  unfold failB; split
  · exact hf
  · assumption
theorem countB_0 {s : List UInt8} {e m : Int} (h : (countB s e m).2.2 = 0) : e = 0 ∧ 4 ≤ s.length ∧ (countB s e m).1 = numV (s.take 4) ∧ (countB s e m).2.1 = s.drop 4 := by
  unfold countB at h ⊢
  split at h
  · exact absurd h (failB_ne (by decide))
  · rename_i hn
    simp only [if_neg hn]
    obtain ⟨h1, h2, h3, h4⟩ := takeB_0 h
    exact ⟨h1, h2, by rw [h3], h4⟩
theorem endB_0 {s : List UInt8} {e : Int} (h : endB s e = 0) : e = 0 ∧ s = [] := by
  unfold endB at h
  split at h
  · cases h
  · rename_i hn
    refine ⟨h, ?_⟩
    subst h
    by_cases hs : s = []
    · exact hs
    · exact absurd ⟨rfl, hs⟩ hn
theorem big4 {s : List UInt8} (h : 4 ≤ s.length) : bigB (numV (s.take 4)) 4 = s.take 4 := bigB_numV 4 _ (by simp; omega)
theorem text_one {s : List UInt8} {m : Int} (h : endB (textR s 0 m).2.1 (textR s 0 m).2.2 = 0) : textB (textR s 0 m).1 = s := by
  obtain ⟨h1, h2⟩ := endB_0 h
  unfold textR at h1 h2 ⊢
  obtain ⟨h3, h4, h5, h6⟩ := takeB_0 h1
  obtain ⟨_, h7, h8, h9⟩ := countB_0 h3
  rw [h6, h9, h8] at h2
  rw [h9, h8] at h4
  rw [h5, h9, h8]
  have hle : (s.drop 4).length ≤ numV (s.take 4) := List.drop_eq_nil_iff.1 h2
  rw [List.take_of_length_le hle]
  unfold textB
  rw [show (s.drop 4).length = numV (s.take 4) by omega, big4 h7]
  exact List.take_append_drop 4 s
theorem takeB_app (p q : List UInt8) {n : Nat} (h : p.length = n) : takeB (p ++ q) 0 n = (p, q, 0) := by
  unfold takeB
  rw [if_pos rfl, if_neg (by simp; omega), List.take_left' h, List.drop_left' h]
theorem countB_app (k : Nat) (q : List UInt8) (m : Int) (hk : k < 4294967296) (hm : k ≤ mx m) : countB (bigB k 4 ++ q) 0 m = (k, q, 0) := by
  unfold countB
  rw [takeB_app (bigB k 4) q (bigB_length k 4)]
  have : numV (bigB k 4) = k := numV_bigB 4 k (by simpa using hk)
  simp only [this]
  rw [if_neg (by omega)]
theorem textR_app (s q : List UInt8) (hs : s.length ≤ 5000) : textR (textB s ++ q) 0 s.length = (s, q, 0) := by
  unfold textR textB
  rw [List.append_assoc, countB_app s.length (s ++ q) s.length (by omega) (by unfold mx; rw [if_neg (by omega)]; omega)]
  exact takeB_app s q rfl
end Go.Den.Q9d.Wi
namespace Go.Den.Q9d.Wi
open Go Go.Den Go.Proofs
set_option maxRecDepth 8000
set_option linter.unusedVariables false
def smallR (c : Nat) : Bool := (decide (97 ≤ c) && decide (c ≤ 122)) || (decide (945 ≤ c) && decide (c ≤ 969))
def badR (c n : Nat) : Bool := !smallR c && (decide (n = 1) || decide (c < 48) || decide (57 < c))
def nameF (s : List UInt8) : Nat → Nat → Nat → Bool
  | 0, _, _ => false
  | f + 1, pos, n => if pos < s.length then if badR (runeAt s pos).1 (n + 1) then false else nameF s f (pos + (runeAt s pos).2) (n + 1) else decide (0 < n) && decide (n ≤ 12)
def nameB (s : List UInt8) : Bool := nameF s (s.length + 1) 0 0
theorem nameF_len (s : List UInt8) : ∀ (f pos n : Nat), nameF s f pos n = true → n ≤ 12 ∧ s.length ≤ pos + 4 * (12 - n)
  | 0, _, _, h => by cases h
  | f + 1, pos, n, h => by
    unfold nameF at h
    split at h
    · split at h
      · cases h
      · obtain ⟨h1, h2⟩ := nameF_len s f _ _ h
        have := (runeAt_w s pos).2
        omega
    · simp at h; omega
theorem nameB_len {s : List UInt8} (h : nameB s = true) : s.length ≤ 48 := by
  have := (nameF_len s _ _ _ h).2; omega
theorem small_ok (c : Nat) : FnOk Tryd.prog tb 42 [21] [4] [.int c] [.bool (smallR c)] := by
  refine FnOk_of_V (fn := Tryd.f42) (bt := 4) (ok 0 _) Tryd.func42 rfl rfl rfl (by decide) fun hw => ?_
  apply V_of_VX
  refine VX_go3 (fs := []) (ok 0 _) eqs trivial 100 [] rfl trivial ?_
  refine VX_split 5 rfl rfl (fun h => ?_) (fun h => ?_)
  · have h1 : 97 ≤ c := by simp at h; omega
    refine VX_go3 (fs := []) (ok 0 _) eqs trivial 100 [] rfl trivial ?_
    refine VX_split 9 rfl rfl (fun h => ?_) (fun h => ?_)
    · have h2 : c ≤ 122 := by simp at h; omega
      refine VX_go3 (fs := []) (ok 0 _) eqs trivial 100 [] rfl trivial ?_
      refine ⟨.inr rfl, ?_⟩
      have : smallR c = true := by simp [smallR, h1, h2]
      rw [this]; rfl
    · have h2 : ¬ c ≤ 122 := by simp at h; omega
      refine VX_go3 (fs := []) (ok 0 _) eqs trivial 100 [] rfl trivial ?_
      refine VX_split 12 rfl rfl (fun h => ?_) (fun h => ?_)
      · have h3 : 945 ≤ c := by simp at h; omega
        refine VX_go3 (fs := []) (ok 0 _) eqs trivial 100 [] rfl trivial ?_
        refine ⟨.inr rfl, ?_⟩
        have : smallR c = decide ((c : Int) ≤ 969) := by simp [smallR, h1, h2, h3]; omega
        rw [this]; rfl
      · have h3 : ¬ 945 ≤ c := by simp at h; omega
        refine VX_go3 (fs := []) (ok 0 _) eqs trivial 100 [] rfl trivial ?_
        refine ⟨.inr rfl, ?_⟩
        have : smallR c = false := by simp [smallR, h2, h3]
        rw [this]; rfl
  · have h1 : ¬ 97 ≤ c := by simp at h; omega
    refine VX_go3 (fs := []) (ok 0 _) eqs trivial 100 [] rfl trivial ?_
    refine VX_split 12 rfl rfl (fun h => ?_) (fun h => ?_)
    · have h3 : 945 ≤ c := by simp at h; omega
      exact absurd h3 (by omega)
    · have h3 : ¬ 945 ≤ c := by simp at h; omega
      refine VX_go3 (fs := []) (ok 0 _) eqs trivial 100 [] rfl trivial ?_
      refine ⟨.inr rfl, ?_⟩
      have : smallR c = false := by simp [smallR, h1, h3]
      rw [this]; rfl
theorem name_ok (s : List UInt8) (hs : s.length ≤ 1000000) : FnOk Tryd.prog tb 30 [9] [4] [.str s] [.bool (nameB s)] := by
  refine FnOk_of_V (fn := Tryd.f30) (bt := 4) (ok 0 _) Tryd.func30 rfl rfl rfl (by decide) fun hw => ?_
  apply V_of_VX
  refine VX_go3 (fs := []) (ok 0 _) eqs trivial 100 [] rfl trivial ?_
  refine VX_range (ok 0 _) rfl rfl rfl rfl rfl rfl rfl rfl rfl ?_
  refine VX_go3 (fs := []) (ok 0 _) eqs trivial 100 [] rfl trivial ?_
  refine VX_loopA (fun a : Nat × Nat × Nat => nameF s a.1 a.2.1 a.2.2 = nameB s ∧ a.1 + a.2.2 = s.length + 1 ∧ a.2.2 ≤ a.2.1 ∧ a.2.2 ≤ s.length) (fun a => [(7, .it 0), (3, .t 3 (.e (.int a.2.2)))]) (fun a => [.iter s a.2.1]) (fun a => a.1) (s.length + 1, 0, 0) ⟨rfl, rfl, Nat.le_refl _, Nat.zero_le _⟩ ?_ ?_
  · exact wk1 rfl rfl (by simp [Blk.under]) (lc (ls rfl rfl) (lc (ls rfl rfl) lnil))
  · rintro ⟨f, pos, n⟩ ⟨h1, h2, h3, h4⟩
    simp only at h1 h2 h3 h4
    refine VX_go3 (fs := []) (ok 0 _) eqs trivial 100 [] rfl trivial ?_
    refine VX_next (ok 0 _) 3 21 rfl rfl rfl rfl rfl rfl rfl rfl (by simp [maxI]; omega) rfl (fun hp => ?_) (fun hp => ?_)
    · have hp : pos < s.length := hp
      obtain ⟨g, rfl⟩ : ∃ g, f = g + 1 := ⟨f - 1, by omega⟩
      have hw := (runeAt_w s pos).1
      have e1 : IntKind.wrap .i64 ((n : Int) + 1) = ((n + 1 : Nat) : Int) := by rw [w64 (by omega) (by omega)]; rfl
      unfold nameF at h1; rw [if_pos hp] at h1
      have go : ∀ x : Bool, badR (runeAt s pos).1 (n + 1) = false → nameF s g (pos + (runeAt s pos).2) (n + 1) = nameB s := fun _ hb => by rw [hb] at h1; simpa using h1
      have stop : badR (runeAt s pos).1 (n + 1) = true → nameB s = false := fun hb => by rw [hb] at h1; simpa using h1.symm
      generalize hc : (runeAt s pos).1 = c at *
      generalize (runeAt s pos).2 = w at *
      refine VX_go3 (fs := []) (ok 0 _) eqs trivial 100 [] rfl trivial ?_
      refine VX_callD (ok 0 _) [21] [] rfl rfl rfl rfl rfl rfl (small_ok c).g rfl rfl rfl ?_
      refine VX_go3 (fs := []) (ok 0 _) eqs trivial 100 [] rfl trivial ?_
      refine VX_split 16 rfl rfl (fun hsm => ?_) (fun hsm => ?_)
      · have hsm : smallR c = false := by simpa using hsm
        refine VX_go3 (fs := []) (ok 0 _) eqs trivial 100 [] rfl trivial ?_
        refine VX_split 19 rfl rfl (fun hn => ?_) (fun hn => ?_)
        · have hn : n + 1 = 1 := by simp at hn; rw [w64 (by omega) (by omega)] at hn; omega
          refine VX_go3 (fs := []) (ok 0 _) eqs trivial 100 [] rfl trivial ?_
          refine loop_ret ⟨.inr rfl, ?_⟩
          rw [stop (by simp [badR, hsm, hn])]; rfl
        · have hn : ¬ n + 1 = 1 := by simp at hn; rw [w64 (by omega) (by omega)] at hn; omega
          refine VX_go3 (fs := []) (ok 0 _) eqs trivial 100 [] rfl trivial ?_
          refine VX_split 23 rfl rfl (fun hl => ?_) (fun hl => ?_)
          · have hl : c < 48 := by simp at hl; omega
            refine VX_go3 (fs := []) (ok 0 _) eqs trivial 100 [] rfl trivial ?_
            refine loop_ret ⟨.inr rfl, ?_⟩
            rw [stop (by simp [badR, hsm, hl])]; rfl
          · have hl : ¬ c < 48 := by simp at hl; omega
            refine VX_go3 (fs := []) (ok 0 _) eqs trivial 100 [] rfl trivial ?_
            refine VX_split 27 rfl rfl (fun hu => ?_) (fun hu => ?_)
            · have hu : 57 < c := by simp at hu; omega
              refine VX_go3 (fs := []) (ok 0 _) eqs trivial 100 [] rfl trivial ?_
              refine loop_ret ⟨.inr rfl, ?_⟩
              rw [stop (by simp [badR, hsm, hu])]; rfl
            · have hu : ¬ 57 < c := by simp at hu; omega
              refine VX_go3 (fs := []) (ok 0 _) eqs trivial 100 [] rfl trivial ?_
              refine loop_nrm ⟨(g, pos + w, n + 1), by simp, ⟨go true (by simp [badR, hsm, hl, hu]; omega), by simp only; omega, by simp only; omega, by simp only; omega⟩, ?_⟩
              exact wk1 rfl rfl (by simp [Blk.under]) (lc (ls rfl rfl) (lc (li (by rw [e1])) lnil))
      · have hsm : smallR c = true := by simpa using hsm
        refine VX_go3 (fs := []) (ok 0 _) eqs trivial 100 [] rfl trivial ?_
        refine loop_nrm ⟨(g, pos + w, n + 1), by simp, ⟨go true (by simp [badR, hsm]), by simp only; omega, by simp only; omega, by simp only; omega⟩, ?_⟩
        exact wk1 rfl rfl (by simp [Blk.under]) (lc (ls rfl rfl) (lc (li (by rw [e1])) lnil))
    · have hp : ¬ pos < s.length := hp
      have hf : ∃ g, f = g + 1 := by
        cases f with
        | zero => exfalso; omega
        | succ g => exact ⟨g, rfl⟩
      obtain ⟨g, rfl⟩ := hf
      unfold nameF at h1; rw [if_neg hp] at h1
      refine VX_go3 (fs := []) (ok 0 _) eqs trivial 100 [] rfl trivial ?_
      apply loop_brk
      refine VX_go3 (fs := []) (ok 0 _) eqs trivial 100 [] rfl trivial ?_
      refine VX_split 30 rfl rfl (fun hn => ?_) (fun hn => ?_)
      · have hn : 0 < n := by simp at hn; omega
        refine VX_go3 (fs := []) (ok 0 _) eqs trivial 100 [] rfl trivial ?_
        refine ⟨.inr rfl, ?_⟩
        have : nameB s = decide ((n : Int) ≤ 12) := by rw [← h1]; simp [hn]; omega
        rw [this]; rfl
      · have hn : ¬ 0 < n := by simp at hn; omega
        refine VX_go3 (fs := []) (ok 0 _) eqs trivial 100 [] rfl trivial ?_
        refine ⟨.inr rfl, ?_⟩
        have : nameB s = false := by rw [← h1]; simp [hn]
        rw [this]; rfl
end Go.Den.Q9d.Wi
namespace Go.Den.Q9d.Wi
open Go Go.Den Go.Proofs
set_option maxRecDepth 8000
set_option linter.unusedVariables false
def ltE (a b c : Nat) (s r y : List UInt8) : E := .agg [.int a, .int b, .int c, .str s, .str r, .str y]
def rightB (s r y : List UInt8) : Bool := nameB s && nameB r && decide (y.length ≤ 300)
def plainB (a b c : Nat) (s r y : List UInt8) : List UInt8 := bigB a 4 ++ bigB b 4 ++ bigB c 4 ++ textB s ++ textB r ++ textB y
theorem right_ok (a b c : Nat) (s r y : List UInt8) (hs : s.length ≤ 1000000) (hr : r.length ≤ 1000000) : FnOk Tryd.prog tb 12 [24] [4] [ltE a b c s r y] [.bool (rightB s r y)] := by
  refine FnOk_of_V (fn := Tryd.f12) (bt := 4) (ok 0 _) Tryd.func12 rfl rfl rfl (by decide) fun hw => ?_
  apply V_of_VX
  refine VX_go3 (fs := []) (ok 0 _) eqs trivial 100 [] rfl trivial ?_
  refine VX_callD (ok 0 _) [9] [] rfl rfl rfl rfl rfl rfl (name_ok s hs).g rfl rfl rfl ?_
  refine VX_go3 (fs := []) (ok 0 _) eqs trivial 100 [] rfl trivial ?_
  refine VX_split 6 rfl rfl (fun h1 => ?_) (fun h1 => ?_)
  · refine VX_go3 (fs := []) (ok 0 _) eqs trivial 100 [] rfl trivial ?_
    refine VX_callD (ok 0 _) [9] [] rfl rfl rfl rfl rfl rfl (name_ok r hr).g rfl rfl rfl ?_
    refine VX_go3 (fs := []) (ok 0 _) eqs trivial 100 [] rfl trivial ?_
    refine VX_split 11 rfl rfl (fun h2 => ?_) (fun h2 => ?_)
    · refine VX_go3 (fs := []) (ok 0 _) eqs trivial 100 [] rfl trivial ?_
      refine ⟨.inr rfl, ?_⟩
      have : rightB s r y = decide ((y.length : Int) ≤ 300) := by simp [rightB, h1, h2]; omega
      rw [this]; rfl
    · refine VX_go3 (fs := []) (ok 0 _) eqs trivial 100 [] rfl trivial ?_
      refine ⟨.inr rfl, ?_⟩
      have : rightB s r y = false := by simp [rightB, h2]
      rw [this]; rfl
  · refine VX_go3 (fs := []) (ok 0 _) eqs trivial 100 [] rfl trivial ?_
    refine ⟨.inr rfl, ?_⟩
    have : rightB s r y = false := by simp [rightB, h1]
    rw [this]; rfl
theorem plain_ok (a b c : Nat) (s r y : List UInt8) (ha : a < 4294967296) (hb : b < 4294967296) (hc : c < 4294967296) (hs : s.length ≤ 20000) (hr : r.length ≤ 20000) (hy : y.length ≤ 20000) : FnOk Tryd.prog tb 19 [24] [9] [ltE a b c s r y] [.str (plainB a b c s r y)] := by
  refine FnOk_of_V (fn := Tryd.f19) (bt := 4) (ok 0 _) Tryd.func19 rfl rfl rfl (by decide) fun hw => ?_
  apply V_of_VX
  have z1 : (textB s).length = 4 + s.length := by simp [textB, bigB_length]
  have z2 : (textB r).length = 4 + r.length := by simp [textB, bigB_length]
  have z3 : (textB y).length = 4 + y.length := by simp [textB, bigB_length]
  refine VX_go3 (fs := []) (ok 0 _) eqs trivial 100 [] rfl trivial ?_
  refine VX_draw [] [(0, true), (1, true), (3, true), (4, true), (7, true), (8, true), (11, true), (12, true), (15, true), (16, true), (19, true), (20, true), (2, false), (5, false), (6, true), (9, false), (10, true), (13, false), (14, true), (17, false), (18, true), (21, false), (22, true), (23, true)] mixed (by kernel_rfl) (by kernel_rfl) (by kernel_rfl) ?_
  refine VX_go3 (fs := []) (ok 0 _) eqs trivial 100 [] rfl trivial ?_
  refine VX_callO (ok 0 _) [22] [] rfl rfl rfl rfl rfl rfl rfl rfl (word_ok a ha).g rfl rfl rfl ?_
  refine VX_callO (ok 0 _) [22] [] rfl rfl rfl rfl rfl rfl rfl rfl (word_ok b hb).g rfl rfl rfl ?_
  refine VX_go3 (fs := []) (ok 0 _) eqs trivial 100 [] rfl (by simp only [allP, List.length_append, bigB_length, maxI]; omega) ?_
  refine VX_callO (ok 0 _) [22] [] rfl rfl rfl rfl rfl rfl rfl rfl (word_ok c hc).g rfl rfl rfl ?_
  refine VX_go3 (fs := []) (ok 0 _) eqs trivial 100 [] rfl (by simp only [allP, List.length_append, bigB_length, maxI]; omega) ?_
  refine VX_callO (ok 0 _) [9] [] rfl rfl rfl rfl rfl rfl rfl rfl (text_ok s (by omega)).g rfl rfl rfl ?_
  refine VX_go3 (fs := []) (ok 0 _) eqs trivial 100 [] rfl (by simp only [allP, List.length_append, bigB_length, maxI]; omega) ?_
  refine VX_callO (ok 0 _) [9] [] rfl rfl rfl rfl rfl rfl rfl rfl (text_ok r (by omega)).g rfl rfl rfl ?_
  refine VX_go3 (fs := []) (ok 0 _) eqs trivial 100 [] rfl (by simp only [allP, List.length_append, bigB_length, maxI]; omega) ?_
  refine VX_callO (ok 0 _) [9] [] rfl rfl rfl rfl rfl rfl rfl rfl (text_ok y (by omega)).g rfl rfl rfl ?_
  refine VX_go3 (fs := []) (ok 0 _) eqs trivial 100 [] rfl (by simp only [allP, List.length_append, bigB_length, maxI]; omega) ?_
  exact ⟨.inr rfl, rfl⟩
theorem bytes_yes (a b c : Nat) (s r y : List UInt8) (ha : a < 4294967296) (hb : b < 4294967296) (hc : c < 4294967296) (hs : s.length ≤ 20000) (hr : r.length ≤ 20000) (hy : y.length ≤ 20000) (h : rightB s r y = true) :
    FnOk Tryd.prog tb 7 [24] [9, 27] [ltE a b c s r y] [.str (plainB a b c s r y), .int 0] := by
  refine FnOk_of_V (fn := Tryd.f7) (bt := 4) (ok 0 _) Tryd.func7 rfl rfl rfl (by decide) fun hw => ?_
  apply V_of_VX
  refine VX_go3 (fs := []) (ok 0 _) eqs trivial 100 [] rfl trivial ?_
  refine VX_callD (ok 0 _) [24] [] rfl rfl rfl rfl rfl rfl (right_ok a b c s r y (by omega) (by omega)).g rfl rfl rfl ?_
  refine VX_known 5 true rfl rfl h ?_
  refine VX_go3 (fs := []) (ok 0 _) eqs trivial 100 [] rfl trivial ?_
  refine VX_callD (ok 0 _) [24] [] rfl rfl rfl rfl rfl rfl (plain_ok a b c s r y ha hb hc hs hr hy).g rfl rfl rfl ?_
  refine VX_go3 (fs := []) (ok 0 _) eqs trivial 100 [] rfl trivial ?_
  exact ⟨.inr rfl, rfl⟩
theorem bytes_no (a b c : Nat) (s r y : List UInt8) (hs : s.length ≤ 20000) (hr : r.length ≤ 20000) (h : rightB s r y = false) :
    FnOk Tryd.prog tb 7 [24] [9, 27] [ltE a b c s r y] [.str [], .int 4] := by
  refine FnOk_of_V (fn := Tryd.f7) (bt := 4) (ok 0 _) Tryd.func7 rfl rfl rfl (by decide) fun hw => ?_
  apply V_of_VX
  refine VX_go3 (fs := []) (ok 0 _) eqs trivial 100 [] rfl trivial ?_
  refine VX_callD (ok 0 _) [24] [] rfl rfl rfl rfl rfl rfl (right_ok a b c s r y (by omega) (by omega)).g rfl rfl rfl ?_
  refine VX_known 5 false rfl rfl h ?_
  refine VX_go3 (fs := []) (ok 0 _) eqs trivial 100 [] rfl trivial ?_
  exact ⟨.inr rfl, rfl⟩
theorem same_yes (a b c : Nat) (s r y : List UInt8) : FnOk Tryd.prog tb 16 [24, 24] [4] [ltE a b c s r y, ltE a b c s r y] [.bool true] := by
  refine FnOk_of_V (fn := Tryd.f16) (bt := 4) (ok 0 _) Tryd.func16 rfl rfl rfl (by decide) fun hw => ?_
  apply V_of_VX
  refine VX_go3 (fs := []) (ok 0 _) eqs trivial 100 [] rfl (by simp [allP]) ?_
  refine ⟨.inr rfl, ?_⟩
  have : eqE (ltE a b c s r y) (ltE a b c s r y) = true := by simp [ltE, eqE, eqEs]
  show some [E.bool (eqE (ltE a b c s r y) (ltE a b c s r y))] = _
  rw [this]
theorem textR_le (s : List UInt8) (e m : Int) : (textR s e m).1.length ≤ s.length ∧ (textR s e m).2.1.length ≤ s.length := by
  have h1 := takeB_le (countB s e m).2.1 (countB s e m).2.2 (countB s e m).1
  have h2 := countB_le s e m
  unfold textR; omega
/-- A letter read: what is read one behind the other, and what comes of it. -/
theorem read_ok (s : List UInt8) (hs : s.length ≤ 20000) (w1 s1 w2 s2 w3 s3 t1 s4 t2 s5 t3 s6 : List UInt8) (e1 e2 e3 e4 e5 e6 : Int) (r1 : takeB s 0 4 = (w1, s1, e1)) (r2 : takeB s1 e1 4 = (w2, s2, e2)) (r3 : takeB s2 e2 4 = (w3, s3, e3))
    (r4 : textR s3 e3 48 = (t1, s4, e4)) (r5 : textR s4 e4 48 = (t2, s5, e5)) (r6 : textR s5 e5 300 = (t3, s6, e6)) :
    FnOk Tryd.prog tb 10 [9] [24, 27] [.str s] (if endB s6 e6 ≠ 0 then [ltE 0 0 0 [] [] [], .int (endB s6 e6)] else if rightB t1 t2 t3 = true then [ltE (numV w1) (numV w2) (numV w3) t1 t2 t3, .int 0] else [ltE 0 0 0 [] [] [], .int 4]) := by
  have k1 := wordR_ok s 0
  rw [r1] at k1
  have k2 := wordR_ok s1 e1
  rw [r2] at k2
  have k3 := wordR_ok s2 e2
  rw [r3] at k3
  have k4 := textR_ok s3 e3 48 (by omega) (by omega)
  rw [r4] at k4
  have k5 := textR_ok s4 e4 48 (by omega) (by omega)
  rw [r5] at k5
  have k6 := textR_ok s5 e5 300 (by omega) (by omega)
  rw [r6] at k6
  have l1 := takeB_le s 0 4
  rw [r1] at l1
  have l2 := takeB_le s1 e1 4
  rw [r2] at l2
  have l3 := takeB_le s2 e2 4
  rw [r3] at l3
  have l4 := textR_le s3 e3 48
  rw [r4] at l4
  have l5 := textR_le s4 e4 48
  rw [r5] at l5
  simp only at l1 l2 l3 l4 l5
  refine FnOk_of_V (fn := Tryd.f10) (bt := 4) (ok 0 _) Tryd.func10 rfl rfl rfl (by decide) fun hw => ?_
  apply V_of_VX
  refine VX_go3 (fs := []) (ok 0 _) eqs trivial 100 [] rfl trivial ?_
  refine VX_callD (ok 0 _) [9] [] rfl rfl rfl rfl rfl rfl (over_ok s) rfl rfl rfl ?_
  refine VX_go3 (fs := []) (ok 0 _) eqs trivial 100 [] rfl trivial ?_
  refine VX_callD (ok 0 _) [47] [1] rfl rfl rfl rfl rfl rfl k1 rfl rfl rfl ?_
  refine VX_go3 (fs := []) (ok 0 _) eqs trivial 100 [] rfl trivial ?_
  refine VX_callD (ok 0 _) [47] [1] rfl rfl rfl rfl rfl rfl k2 rfl rfl rfl ?_
  refine VX_go3 (fs := []) (ok 0 _) eqs trivial 100 [] rfl trivial ?_
  refine VX_callD (ok 0 _) [47] [1] rfl rfl rfl rfl rfl rfl k3 rfl rfl rfl ?_
  refine VX_go3 (fs := []) (ok 0 _) eqs trivial 100 [] rfl trivial ?_
  refine VX_callD (ok 0 _) [47, 3] [1] rfl rfl rfl rfl rfl rfl k4 rfl rfl rfl ?_
  refine VX_go3 (fs := []) (ok 0 _) eqs trivial 100 [] rfl trivial ?_
  refine VX_callD (ok 0 _) [47, 3] [1] rfl rfl rfl rfl rfl rfl k5 rfl rfl rfl ?_
  refine VX_go3 (fs := []) (ok 0 _) eqs trivial 100 [] rfl trivial ?_
  refine VX_callD (ok 0 _) [47, 3] [1] rfl rfl rfl rfl rfl rfl k6 rfl rfl rfl ?_
  refine VX_go3 (fs := []) (ok 0 _) eqs trivial 100 [] rfl trivial ?_
  refine VX_callD (ok 0 _) [47] [1] rfl rfl rfl rfl rfl rfl (end_ok s6 e6) rfl rfl rfl ?_
  refine VX_go3 (fs := []) (ok 0 _) eqs trivial 100 [] rfl trivial ?_
  refine VX_split 25 rfl rfl (fun h => ?_) (fun h => ?_)
  · have h : endB s6 e6 ≠ 0 := by simpa using h
    refine VX_go3 (fs := []) (ok 0 _) eqs trivial 100 [] rfl trivial ?_
    refine ⟨.inr rfl, ?_⟩
    rw [if_pos h]; rfl
  · have h : ¬ endB s6 e6 ≠ 0 := by simpa using h
    refine VX_go3 (fs := []) (ok 0 _) eqs trivial 100 [] rfl trivial ?_
    refine VX_callD (ok 0 _) [24] [] rfl rfl rfl rfl rfl rfl (right_ok (numV w1) (numV w2) (numV w3) t1 t2 t3 (by omega) (by omega)).g rfl rfl rfl ?_
    refine VX_split 29 rfl rfl (fun h2 => ?_) (fun h2 => ?_)
    · refine VX_go3 (fs := []) (ok 0 _) eqs trivial 100 [] rfl trivial ?_
      refine ⟨.inr rfl, ?_⟩
      rw [if_neg h, if_pos h2]; rfl
    · refine VX_go3 (fs := []) (ok 0 _) eqs trivial 100 [] rfl trivial ?_
      refine ⟨.inr rfl, ?_⟩
      rw [if_neg h, if_neg (by simp [h2])]; rfl
end Go.Den.Q9d.Wi
namespace Go.Den.Q9d.Wi
open Go Go.Den Go.Proofs
set_option maxRecDepth 8000
set_option linter.unusedVariables false
theorem textR_app' (s q : List UInt8) (m : Int) (hs : s.length < 4294967296) (hm : s.length ≤ mx m) : textR (textB s ++ q) 0 m = (s, q, 0) := by
  unfold textR textB
  rw [List.append_assoc, countB_app s.length (s ++ q) m hs hm]
  exact takeB_app s q rfl
theorem text_any {s : List UInt8} {e m : Int} (h : (textR s e m).2.2 = 0) : e = 0 ∧ s = textB (textR s e m).1 ++ (textR s e m).2.1 := by
  unfold textR at h ⊢
  obtain ⟨h3, h4, h5, h6⟩ := takeB_0 h
  obtain ⟨h0, h7, h8, h9⟩ := countB_0 h3
  refine ⟨h0, ?_⟩
  rw [h9, h8] at h4
  rw [h5, h6, h9, h8]
  unfold textB
  have hl : ((s.drop 4).take (numV (s.take 4))).length = numV (s.take 4) := by simp at h4 ⊢; omega
  rw [hl, big4 h7, List.append_assoc, List.take_append_drop, List.take_append_drop]
theorem take_any {s : List UInt8} {e : Int} (h : (takeB s e 4).2.2 = 0) : e = 0 ∧ s = bigB (numV (takeB s e 4).1) 4 ++ (takeB s e 4).2.1 ∧ numV (takeB s e 4).1 < 4294967296 := by
  obtain ⟨h1, h2, h3, h4⟩ := takeB_0 h
  have hv := numV_le (takeB_len s e 4)
  refine ⟨h1, ?_, hv⟩
  rw [h3, h4, big4 h2, List.take_append_drop]
theorem nameB_nil : nameB [] = false := rfl
/-- A letter that may be is read back. -/
theorem read_back (a b c : Nat) (s r y : List UInt8) (ha : a < 4294967296) (hb : b < 4294967296) (hc : c < 4294967296) (h : rightB s r y = true) :
    FnOk Tryd.prog tb 10 [9] [24, 27] [.str (plainB a b c s r y)] [ltE a b c s r y, .int 0] := by
  have h' : (nameB s = true ∧ nameB r = true) ∧ y.length ≤ 300 := by simpa [rightB] using h
  have ls := nameB_len h'.1.1
  have lr := nameB_len h'.1.2
  have hp : plainB a b c s r y = bigB a 4 ++ (bigB b 4 ++ (bigB c 4 ++ (textB s ++ (textB r ++ (textB y ++ []))))) := by simp only [plainB, List.append_assoc, List.append_nil]
  have r1 := takeB_app (bigB a 4) (bigB b 4 ++ (bigB c 4 ++ (textB s ++ (textB r ++ (textB y ++ []))))) (bigB_length a 4)
  have r2 := takeB_app (bigB b 4) (bigB c 4 ++ (textB s ++ (textB r ++ (textB y ++ [])))) (bigB_length b 4)
  have r3 := takeB_app (bigB c 4) (textB s ++ (textB r ++ (textB y ++ []))) (bigB_length c 4)
  have r4 := textR_app' s (textB r ++ (textB y ++ [])) 48 (by omega) (by show s.length ≤ 48; omega)
  have r5 := textR_app' r (textB y ++ []) 48 (by omega) (by show r.length ≤ 48; omega)
  have r6 := textR_app' y [] 300 (by omega) (by show y.length ≤ 300; omega)
  have hl : (plainB a b c s r y).length ≤ 20000 := by simp only [plainB, textB, List.length_append, bigB_length]; omega
  have k := read_ok (plainB a b c s r y) hl _ _ _ _ _ _ _ _ _ _ _ _ _ _ _ _ _ _ (by rw [hp]; exact r1) r2 r3 r4 r5 r6
  have he : endB [] 0 = 0 := rfl
  rw [he, if_neg (by decide), if_pos h, numV_bigB 4 a (by simpa using ha), numV_bigB 4 b (by simpa using hb), numV_bigB 4 c (by simpa using hc)] at k
  exact k
/-- Whatever is read: a letter that is written so, or none. -/
theorem read_any (s : List UInt8) (hs : s.length ≤ 20000) : (∃ a b c t r y, a < 4294967296 ∧ b < 4294967296 ∧ c < 4294967296 ∧ t.length ≤ 48 ∧ r.length ≤ 48 ∧ y.length ≤ 300 ∧ rightB t r y = true ∧ plainB a b c t r y = s ∧ FnOk Tryd.prog tb 10 [9] [24, 27] [.str s] [ltE a b c t r y, .int 0]) ∨
    ∃ e : Int, e ≠ 0 ∧ FnOk Tryd.prog tb 10 [9] [24, 27] [.str s] [ltE 0 0 0 [] [] [], .int e] := by
  obtain ⟨w1, s1, e1, r1⟩ : ∃ w s' e', takeB s 0 4 = (w, s', e') := ⟨_, _, _, rfl⟩
  obtain ⟨w2, s2, e2, r2⟩ : ∃ w s' e', takeB s1 e1 4 = (w, s', e') := ⟨_, _, _, rfl⟩
  obtain ⟨w3, s3, e3, r3⟩ : ∃ w s' e', takeB s2 e2 4 = (w, s', e') := ⟨_, _, _, rfl⟩
  obtain ⟨t1, s4, e4, r4⟩ : ∃ w s' e', textR s3 e3 48 = (w, s', e') := ⟨_, _, _, rfl⟩
  obtain ⟨t2, s5, e5, r5⟩ : ∃ w s' e', textR s4 e4 48 = (w, s', e') := ⟨_, _, _, rfl⟩
  obtain ⟨t3, s6, e6, r6⟩ : ∃ w s' e', textR s5 e5 300 = (w, s', e') := ⟨_, _, _, rfl⟩
  have k := read_ok s hs _ _ _ _ _ _ _ _ _ _ _ _ _ _ _ _ _ _ r1 r2 r3 r4 r5 r6
  by_cases he : endB s6 e6 ≠ 0
  · rw [if_pos he] at k; exact .inr ⟨_, he, k⟩
  · rw [if_neg he] at k
    by_cases hr : rightB t1 t2 t3 = true
    · rw [if_pos hr] at k
      left
      obtain ⟨z6, q6⟩ := endB_0 (by simpa using he)
      have a6 := text_any (s := s5) (e := e5) (m := 300) (by rw [r6]; exact z6)
      rw [r6] at a6
      have a5 := text_any (s := s4) (e := e4) (m := 48) (by rw [r5]; exact a6.1)
      rw [r5] at a5
      have a4 := text_any (s := s3) (e := e3) (m := 48) (by rw [r4]; exact a5.1)
      rw [r4] at a4
      have a3 := take_any (s := s2) (e := e2) (by rw [r3]; exact a4.1)
      rw [r3] at a3
      have a2 := take_any (s := s1) (e := e1) (by rw [r2]; exact a3.1)
      rw [r2] at a2
      have a1 := take_any (s := s) (e := 0) (by rw [r1]; exact a2.1)
      rw [r1] at a1
      simp only at a1 a2 a3 a4 a5 a6
      have hr' : (nameB t1 = true ∧ nameB t2 = true) ∧ t3.length ≤ 300 := by simpa [rightB] using hr
      refine ⟨numV w1, numV w2, numV w3, t1, t2, t3, a1.2.2, a2.2.2, a3.2.2, nameB_len hr'.1.1, nameB_len hr'.1.2, hr'.2, hr, ?_, k⟩
      unfold plainB
      rw [a1.2.1, a2.2.1, a3.2.1, a4.2, a5.2, a6.2, q6]
      simp only [List.append_assoc, List.append_nil]
    · rw [if_neg hr] at k; exact .inr ⟨4, by decide, k⟩
end Go.Den.Q9d.Wi
/- Contracts of another seat, turned to this seat's numbers (port2.py). -/
namespace Go.Den.Q9d.Dg
open Go Go.Den Go.Proofs Go.Den.Q9d
set_option maxRecDepth 8000
set_option linter.unusedVariables false
set_option linter.unusedSimpArgs false
def inputB (x : UInt8) (ps : List (List UInt8)) : List UInt8 := [x] ++ (ps.map Wi.textB).flatten
def ofB (x : UInt8) (ps : List (List UInt8)) : List UInt8 := Sh.shaB (inputB x ps)
theorem inputB_succ (x : UInt8) (ps : List (List UInt8)) (i : Nat) (h : i < ps.length) : inputB x (ps.take (i + 1)) = inputB x (ps.take i) ++ Wi.textB ps[i] := by
  have : ps.take (i + 1) = ps.take i ++ [ps[i]] := by rw [List.take_add_one, List.getElem?_eq_getElem h]; rfl
  rw [this]; simp only [inputB, List.map_append, List.flatten_append, List.map_cons, List.map_nil, List.flatten_cons, List.flatten_nil, List.append_nil, List.append_assoc]
theorem inputB_le (x : UInt8) : ∀ (ps : List (List UInt8)) (i : Nat), (inputB x (ps.take i)).length ≤ (inputB x ps).length
  | [], i => by simp
  | p :: ps, 0 => by simp [inputB]
  | p :: ps, i + 1 => by
    have := inputB_le x ps i
    simp only [inputB, List.take_succ_cons, List.map_cons, List.flatten_cons, List.length_append] at this ⊢
    omega
theorem part_le (x : UInt8) : ∀ (ps : List (List UInt8)) (i : Nat) (h : i < ps.length), ps[i].length ≤ (inputB x ps).length
  | [], i, h => by simp at h
  | p :: ps, 0, h => by simp only [inputB, List.map_cons, List.flatten_cons, List.length_append, List.getElem_cons_zero, Wi.textB]; omega
  | p :: ps, i + 1, h => by
    have := part_le x ps i (by simpa using h)
    simp only [inputB, List.map_cons, List.flatten_cons, List.length_append, List.getElem_cons_succ] at this ⊢
    omega
theorem shaB_length (s : List UInt8) : (Sh.shaB s).length = 32 := Sh.digL_length _ _
theorem ofB_length (x : UInt8) (ps : List (List UInt8)) : (ofB x ps).length = 32 := shaB_length _
theorem len_parts (x : UInt8) (ps : List (List UInt8)) : ps.length ≤ (inputB x ps).length := by
  induction ps with
  | nil => simp
  | cons p ps ih => simp only [inputB, List.map_cons, List.flatten_cons, List.length_append, List.length_cons, Wi.textB, Wi.bigB_length] at ih ⊢; omega
theorem input_ok (x : UInt8) (ps : List (List UInt8)) (hl : (inputB x ps).length ≤ 900000) : FnOk Tryd.prog tb 43 [5, 60] [9] [byteE x, .sl (ps.map E.str)] [.str (inputB x ps)] := by
  refine FnOk_of_V (fn := Tryd.f43) (bt := 4) (ok 0 _) Tryd.func43 rfl rfl rfl (by decide) fun hw => ?_
  clear hw
  apply V_of_VX
  have hpl := len_parts x ps
  refine VX_go4 (fs := []) (ok 0 _) eqs trivial 100 [] rfl trivial ?_
  refine VX_promM (ok 0 _) rfl 0 [1] rfl rfl rfl rfl rfl ?_
  refine VX_callD (ok 0 _) [83, 5] [0, 1] rfl rfl rfl rfl rfl rfl (Sh.writeB_ok (.e .nilp) (.inl rfl) [] x (by simp)) rfl rfl rfl ?_
  refine VX_go4 (fs := []) (ok 0 _) eqs trivial 100 [] rfl trivial ?_
  refine VX_loopA (fun i : Nat => i ≤ ps.length) (fun i => [(12, .t 3 (.e (.int i))), (11, .t 3 (.e (.int ps.length))), (10, .t 60 (.e (.sl (ps.map E.str)))), (5, .ptr 0 [])])
    (fun i => Wi.bld (.ptr 0 []) ((inputB x (ps.take i)).map byteE).length ((inputB x (ps.take i)).map byteE)) (fun i => ps.length - i) 0 (by omega) ?_ ?_
  · exact wk1 rfl rfl (by simp [Wi.bld, Blk.under, T.under, T.unders]) (lc (ls rfl rfl) (lc (li (by simp)) (lc (ls rfl rfl) (lc (ls rfl rfl) lnil))))
  · intro i hi
    have hle := inputB_le x ps i
    refine VX_go4 (fs := []) (ok 0 _) eqs trivial 100 [] rfl trivial ?_
    refine VX_split 13 rfl rfl (fun h => ?_) (fun h => ?_)
    · have hi : i < ps.length := by simpa using h
      have ei : IntKind.wrap .i64 ((i : Int) + 1) = ((i + 1 : Nat) : Int) := by rw [w64 (by omega) (by omega)]; simp
      have hg : (ps.map E.str).getD i .nilp = .str ps[i] := by simp [List.getD, hi]
      have hs := inputB_succ x ps i hi
      have hp := part_le x ps i hi
      have hle2 := inputB_le x ps (i + 1)
      refine VX_go4 (fs := []) (ok 0 _) eqs trivial 100 [7] rfl (by simp [allP]; omega) ?_
      refine VX_eq 15 rfl rfl (d' := .t 9 (.e (.str ps[i]))) (congrArg (fun x => D.t 9 (.e x)) hg) ?_
      generalize ps[i] = p at hs hp ⊢
      rw [hs] at hle2
      generalize inputB x (ps.take i) = I at hs hle hle2 ⊢
      have hsm : (I.map byteE ++ (Wi.textB p).map byteE) = (inputB x (ps.take (i + 1))).map byteE := by rw [hs]; simp
      have hsl : (I.map byteE).length + ((Wi.textB p).map byteE).length = ((inputB x (ps.take (i + 1))).map byteE).length := by rw [← hsm, List.length_append]
      refine VX_go4 (fs := []) (ok 0 _) eqs trivial 100 [] rfl trivial ?_
      refine VX_callD (ok 0 _) [9] [] rfl rfl rfl rfl rfl rfl (Wi.text_ok p (by omega)).g rfl rfl rfl ?_
      rw [List.length_append] at hle2
      refine VX_callD (ok 0 _) [83, 9] [0, 1] rfl rfl rfl rfl rfl rfl (Wi.writeS_ok (.ptr 0 []) (.inr rfl) (I.map byteE) (Wi.textB p) (by simp; omega) (by omega)) rfl rfl rfl ?_
      refine VX_go4 (fs := []) (ok 0 _) eqs trivial 100 [] rfl trivial ?_
      refine loop_nrm ⟨i + 1, by omega, by omega, ?_⟩
      exact wk1 (by rw [hsm, hsl]; rfl) rfl (by simp [Wi.bld, Blk.under, T.under, T.unders]) (lc (li (by rw [ei])) (lc (ls rfl rfl) (lc (ls rfl rfl) (lc (ls rfl rfl) lnil))))
    · have hi' : i = ps.length := by simp at h; omega
      subst hi'
      rw [List.take_length]
      generalize inputB x ps = I
      refine VX_go4 (fs := []) (ok 0 _) eqs trivial 100 [] rfl trivial ?_
      apply loop_brk
      refine VX_go4 (fs := []) (ok 0 _) eqs trivial 100 [] rfl trivial ?_
      refine VX_callD (ok 0 _) [83] [0, 1] rfl rfl rfl rfl rfl rfl (Sh.string_ok (.ptr 0 []) (.inr rfl) (I.map byteE)) rfl rfl rfl ?_
      refine VX_go4 (fs := []) (ok 0 _) eqs trivial 100 [] rfl trivial ?_
      refine ⟨.inr rfl, ?_⟩
      have : (I.map byteE).map byteOf = I := map_byteOf I
      rw [this]; rfl
theorem rinput_ok (x : UInt8) (ps : List (List UInt8)) (hl : (inputB x ps).length ≤ 900000) : FnOk Tryd.prog tb 46 [5, 60] [9] [byteE x, .sl (ps.map E.str)] [.str (inputB x ps)] := by
  refine FnOk_of_V (fn := Tryd.f46) (bt := 4) (ok 0 _) Tryd.func46 rfl rfl rfl (by decide) fun hw => ?_
  clear hw
  apply V_of_VX
  have hpl := len_parts x ps
  have hx1 : [byteE x].map byteOf = [x] := map_byteOf [x]
  refine VX_go4 (fs := []) (ok 0 _) eqs trivial 100 [5] rfl (by simp [allP]) ?_
  refine VX_eq 10 rfl rfl (d' := .t 9 (.e (.str [x]))) (congrArg (fun x => D.t 9 (.e (.str x))) hx1) ?_
  refine VX_go4 (fs := []) (ok 0 _) eqs trivial 100 [] rfl trivial ?_
  refine VX_loopA (fun i : Nat => i ≤ ps.length) (fun i => [(13, .t 3 (.e (.int i))), (12, .t 3 (.e (.int ps.length))), (11, .t 60 (.e (.sl (ps.map E.str)))), (5, .t 9 (.e (.str (inputB x (ps.take i)))))])
    (fun i => []) (fun i => ps.length - i) 0 (by omega) ?_ ?_
  · exact wk1 rfl rfl (by simp) (lc (ls rfl rfl) (lc (li (by simp)) (lc (ls rfl rfl) (lc (ls rfl rfl) lnil))))
  · intro i hi
    have hle := inputB_le x ps i
    refine VX_go4 (fs := []) (ok 0 _) eqs trivial 100 [] rfl trivial ?_
    refine VX_split 14 rfl rfl (fun h => ?_) (fun h => ?_)
    · have hi : i < ps.length := by simpa using h
      have ei : IntKind.wrap .i64 ((i : Int) + 1) = ((i + 1 : Nat) : Int) := by rw [w64 (by omega) (by omega)]; simp
      have hg : (ps.map E.str).getD i .nilp = .str ps[i] := by simp [List.getD, hi]
      have hs := inputB_succ x ps i hi
      have hp := part_le x ps i hi
      have hle2 := inputB_le x ps (i + 1)
      refine VX_go4 (fs := []) (ok 0 _) eqs trivial 100 [7] rfl (by simp [allP]; omega) ?_
      refine VX_eq 16 rfl rfl (d' := .t 9 (.e (.str ps[i]))) (congrArg (fun x => D.t 9 (.e x)) hg) ?_
      generalize ps[i] = p at hs hp ⊢
      rw [hs, List.length_append] at hle2
      generalize inputB x (ps.take i) = I at hs hle hle2 ⊢
      refine VX_go4 (fs := []) (ok 0 _) eqs trivial 100 [] rfl trivial ?_
      refine VX_callD (ok 0 _) [9] [] rfl rfl rfl rfl rfl rfl (Wi.rtext_ok p (by omega)).g rfl rfl rfl ?_
      refine VX_go4 (fs := []) (ok 0 _) eqs trivial 100 [] rfl (by simp [allP, maxI]; omega) ?_
      refine loop_nrm ⟨i + 1, by omega, by omega, ?_⟩
      exact wk1 rfl rfl (by simp) (lc (li (by rw [ei])) (lc (ls rfl rfl) (lc (ls rfl rfl) (lc (ls (by rw [hs]; rfl) rfl) lnil))))
    · have hi' : i = ps.length := by simp at h; omega
      subst hi'
      rw [List.take_length]
      generalize inputB x ps = I
      refine VX_go4 (fs := []) (ok 0 _) eqs trivial 100 [] rfl trivial ?_
      apply loop_brk
      refine VX_go4 (fs := []) (ok 0 _) eqs trivial 100 [] rfl trivial ?_
      exact ⟨.inr rfl, rfl⟩
theorem note_nil (d s : List UInt8) : FnOk Tryd.prog tb 45 [57, 37, 9] [] [.nilp, Sh.dgE d, .str s] [] := by
  refine FnOk_of_V (fn := Tryd.f45) (bt := 4) (ok 0 _) Tryd.func45 rfl rfl rfl (by decide) fun hw => ?_
  clear hw
  apply V_of_VX
  refine VX_go4 (fs := []) (ok 0 _) eqs trivial 100 [] rfl trivial ?_
  exact ⟨.inr rfl, rfl⟩
theorem rnote_nil (d s : List UInt8) : FnOk Tryd.prog tb 48 [41, 37, 9] [] [.nilp, Sh.dgE d, .str s] [] := by
  refine FnOk_of_V (fn := Tryd.f48) (bt := 4) (ok 0 _) Tryd.func48 rfl rfl rfl (by decide) fun hw => ?_
  clear hw
  apply V_of_VX
  refine VX_go4 (fs := []) (ok 0 _) eqs trivial 100 [] rfl trivial ?_
  exact ⟨.inr rfl, rfl⟩
theorem of_nil (x : UInt8) (ps : List (List UInt8)) (hl : (inputB x ps).length ≤ 400000) : FnOk Tryd.prog tb 31 [57, 5, 60] [37] [.nilp, byteE x, .sl (ps.map E.str)] [Sh.dgE (ofB x ps)] := by
  refine FnOk_of_V (fn := Tryd.f31) (bt := 4) (ok 0 _) Tryd.func31 rfl rfl rfl (by decide) fun hw => ?_
  clear hw
  apply V_of_VX
  unfold ofB
  have c1 := input_ok x ps (by omega)
  generalize inputB x ps = I at hl c1 ⊢
  have c2 := (Sh.sum_ok [I] (by simp) (fun p h => by rw [List.mem_singleton.1 h]; omega)).g
  rw [Sh.sum1 _ (by omega)] at c2
  generalize Sh.shaB I = d at c2 ⊢
  refine VX_go4 (fs := []) (ok 0 _) eqs trivial 100 [] rfl trivial ?_
  refine VX_callD (ok 0 _) [5, 60] [] rfl rfl rfl rfl rfl rfl c1.g rfl rfl rfl ?_
  refine VX_go4 (fs := []) (ok 0 _) eqs trivial 100 [] rfl trivial ?_
  refine VX_callD (ok 0 _) [60] [] rfl rfl rfl rfl rfl rfl c2 rfl rfl rfl ?_
  refine VX_go4 (fs := []) (ok 0 _) eqs trivial 100 [] rfl trivial ?_
  refine VX_callD (ok 0 _) [57, 37, 9] [] rfl rfl rfl rfl rfl rfl (note_nil d I).g rfl rfl rfl ?_
  refine VX_go4 (fs := []) (ok 0 _) eqs trivial 100 [] rfl trivial ?_
  exact ⟨.inr rfl, rfl⟩
theorem rof_nil (x : UInt8) (ps : List (List UInt8)) (hl : (inputB x ps).length ≤ 400000) : FnOk Tryd.prog tb 32 [41, 5, 60] [37] [.nilp, byteE x, .sl (ps.map E.str)] [Sh.dgE (ofB x ps)] := by
  refine FnOk_of_V (fn := Tryd.f32) (bt := 4) (ok 0 _) Tryd.func32 rfl rfl rfl (by decide) fun hw => ?_
  clear hw
  apply V_of_VX
  unfold ofB
  have c1 := rinput_ok x ps (by omega)
  generalize inputB x ps = I at hl c1 ⊢
  have c2 := (Sh.rsum_ok I (by omega)).g
  generalize Sh.shaB I = d at c2 ⊢
  refine VX_go4 (fs := []) (ok 0 _) eqs trivial 100 [] rfl trivial ?_
  refine VX_callD (ok 0 _) [5, 60] [] rfl rfl rfl rfl rfl rfl c1.g rfl rfl rfl ?_
  refine VX_go4 (fs := []) (ok 0 _) eqs trivial 100 [] rfl trivial ?_
  refine VX_callD (ok 0 _) [9] [] rfl rfl rfl rfl rfl rfl c2 rfl rfl rfl ?_
  refine VX_go4 (fs := []) (ok 0 _) eqs trivial 100 [] rfl trivial ?_
  refine VX_callD (ok 0 _) [41, 37, 9] [] rfl rfl rfl rfl rfl rfl (rnote_nil d I).g rfl rfl rfl ?_
  refine VX_go4 (fs := []) (ok 0 _) eqs trivial 100 [] rfl trivial ?_
  exact ⟨.inr rfl, rfl⟩
end Go.Den.Q9d.Dg
/- Contracts of another seat, turned to this seat's numbers (port2.py). -/
namespace Go.Den.Q9d.Rr
open Go Go.Den Go.Proofs Go.Den.Q9d Go.Den.Q9d.Dg
set_option maxRecDepth 8000
set_option linter.unusedVariables false
set_option linter.unusedSimpArgs false
def rrd (s : List UInt8) (e : Int) : Blk := .tree 54 (.e (.agg [.str s, .int e]))
theorem take_ok (s : List UInt8) (e : Int) (n : Nat) : FnG Tryd.prog tb 40 [rrd s e] [.ptr 0 [], .t 3 (.e (.int n))] (fun d t => d = .t 9 (.e (.str (Wi.takeB s e n).1)) ∧ t = [rrd (Wi.takeB s e n).2.1 (Wi.takeB s e n).2.2]) := by
  refine FnG_of_V (fn := Tryd.f40) (bt := 4) false [] [9] (ok 1 _) Tryd.func40 rfl rfl rfl fun _ _ _ _ _ _ => ?_
  apply V_of_VX
  refine VX_go4 (fs := []) (ok 1 _) eqs trivial 100 [] rfl trivial ?_
  refine VX_split 11 rfl rfl (fun h => ?_) (fun h => ?_)
  · have he : e = 0 := by simpa using h
    subst he
    refine VX_go4 (fs := []) (ok 1 _) eqs trivial 100 [] rfl trivial ?_
    refine VX_split 19 rfl rfl (fun h => ?_) (fun h => ?_)
    · have hn : s.length < n := by simpa using h
      refine VX_go4 (fs := []) (ok 1 _) eqs trivial 100 [] rfl trivial ?_
      refine VX_known 27 true rfl rfl (by simp) ?_
      refine VX_go4 (fs := []) (ok 1 _) eqs trivial 100 [] rfl trivial ?_
      refine ⟨.inr rfl, _, _, _, rfl, rfl, rfl, ?_⟩
      simp only [Wi.takeB, if_pos hn, if_true]; exact ⟨rfl, rfl⟩
    · have hn : ¬ s.length < n := by simpa using h
      refine VX_go4 (fs := []) (ok 1 _) eqs trivial 100 [] rfl trivial ?_
      refine VX_known 27 false rfl rfl (by simp) ?_
      refine VX_go4 (fs := []) (ok 1 _) eqs trivial 100 [] rfl ?_ ?_
      · simp only [allP]; omega
      refine ⟨.inr rfl, _, _, _, rfl, rfl, rfl, ?_⟩
      simp only [Wi.takeB, if_neg hn, if_true]
      constructor
      · show D.t 9 (.e (.str ((s.take n).drop 0))) = _; rfl
      · show [Blk.tree 54 (.e (.agg [.str ((s.take s.length).drop n), .int 0]))] = _
        rw [List.take_length]; rfl
  · have he : ¬ e = 0 := by simpa using h
    refine VX_go4 (fs := []) (ok 1 _) eqs trivial 100 [] rfl trivial ?_
    refine VX_known 27 true rfl rfl (by simpa using he) ?_
    refine VX_go4 (fs := []) (ok 1 _) eqs trivial 100 [] rfl trivial ?_
    refine ⟨.inr rfl, _, _, _, rfl, rfl, rfl, ?_⟩
    simp only [Wi.takeB, if_neg he]; exact ⟨rfl, rfl⟩
theorem number_ok (s : List UInt8) (e : Int) (k : Nat) (hk : k ≤ 8) : FnG Tryd.prog tb 27 [rrd s e] [.ptr 0 [], .t 3 (.e (.int k))] (fun d t => d = .t 45 (.e (.int (Wi.numV (Wi.takeB s e k).1))) ∧ t = [rrd (Wi.takeB s e k).2.1 (Wi.takeB s e k).2.2]) := by
  refine FnG_of_V (fn := Tryd.f27) (bt := 4) false [] [45] (ok 1 _) Tryd.func27 rfl rfl rfl fun _ _ _ _ _ _ => ?_
  apply V_of_VX
  refine VX_go4 (fs := []) (ok 1 _) eqs trivial 100 [] rfl trivial ?_
  refine VX_callD (ok 1 _) [52, 3] [0] rfl rfl rfl rfl rfl rfl (take_ok s e k) rfl rfl rfl ?_
  have hlen := Wi.takeB_len s e k
  generalize (Wi.takeB s e k).1 = l at hlen ⊢
  generalize (Wi.takeB s e k).2.1 = s'
  generalize (Wi.takeB s e k).2.2 = e'
  refine VX_go4 (fs := []) (ok 1 _) eqs trivial 100 [] rfl trivial ?_
  refine VX_loopA (fun i : Nat => i ≤ l.length) (fun i => [(7, .t 3 (.e (.int i))), (6, .t 9 (.e (.str l))), (5, .t 45 (.e (.int (Wi.numV (l.take i)))))]) (fun _ => [rrd s' e']) (fun i => l.length - i) 0 (by omega) ?_ ?_
  · exact wk1 rfl rfl (by simp [rrd, Blk.under, T.under]) (lc (ls rfl rfl) (lc (ls rfl rfl) (lc (ls rfl rfl) lnil)))
  · intro i hi
    refine VX_go4 (fs := []) (ok 1 _) eqs trivial 100 [] rfl trivial ?_
    refine VX_split 14 rfl rfl (fun h => ?_) (fun h => ?_)
    · have hi : i < l.length := by simpa using h
      have hb := (l.getD i 0).toNat_lt
      have hv : Wi.numV (l.take i) < 256 ^ i := Wi.numV_lt i _ (by simp; omega)
      have hv7 : Wi.numV (l.take i) < 72057594037927936 := by
        have : (256 : Nat) ^ i ≤ 256 ^ 7 := Nat.pow_le_pow_right (by omega) (by omega)
        have h7 : (256 : Nat) ^ 7 = 72057594037927936 := by decide
        omega
      have hsucc : Wi.numV (l.take (i + 1)) = Wi.numV (l.take i) * 256 + (l.getD i 0).toNat := by
        rw [List.take_add_one, List.getD, List.getElem?_eq_getElem hi]; exact Wi.numV_snoc _ _
      have e1 : IntKind.wrap .u64 (IntKind.wrap .u64 ((Wi.numV (l.take i) : Int) * 256) + IntKind.wrap .u64 (((l.getD i 0).toNat : Nat) : Int)) = ((Wi.numV (l.take (i + 1)) : Nat) : Int) := by
        rw [hsucc]
        generalize Wi.numV (l.take i) = v at hv7
        have : ∀ b : Nat, b < 256 → IntKind.wrap .u64 (IntKind.wrap .u64 ((v : Int) * 256) + IntKind.wrap .u64 (b : Int)) = ((v * 256 + b : Nat) : Int) := fun b hb => by
          rw [inR_wrap (k := .u64) (n := (v : Int) * 256) (by simp [inR]; omega), inR_wrap (k := .u64) (n := (b : Int)) (by simp [inR]; omega), inR_wrap (by simp [inR]; omega)]
          simp
        exact this _ hb
      refine VX_go4 (fs := []) (ok 1 _) eqs trivial 100 [] rfl (by simp [allP]; omega) ?_
      refine loop_nrm ⟨i + 1, by omega, by omega, ?_⟩
      refine wk1 rfl rfl (by simp [rrd, Blk.under, T.under]) (lc (li ?_) (lc (ls rfl rfl) (lc (li e1.symm) lnil)))
      rw [w64 (by omega) (by omega)]; simp
    · have : i = l.length := by simp at h; omega
      subst this
      refine VX_go4 (fs := []) (ok 1 _) eqs trivial 100 [] rfl trivial ?_
      apply loop_brk
      refine VX_go4 (fs := []) (ok 1 _) eqs trivial 100 [] rfl trivial ?_
      refine ⟨.inr rfl, _, _, _, rfl, rfl, rfl, ?_⟩
      rw [List.take_length]; exact ⟨rfl, rfl⟩
end Go.Den.Q9d.Rr
/- Law 09: a rune as the reference reads it; plain. -/
namespace Go.Den.Q9d
open Go Go.Den Go.Proofs
set_option maxRecDepth 8000
set_option linter.unusedVariables false
set_option linter.unusedSimpArgs false

def bt (s : List UInt8) (i : Nat) : Nat := (s.getD i 0).toNat
def inB (s : List UInt8) (i lo hi : Nat) : Bool := decide (i < s.length) && (decide (lo ≤ bt s i) && decide (bt s i ≤ hi))
def moreB (c : Nat) : Nat := if 194 ≤ c ∧ c ≤ 223 then 1 else if 224 ≤ c ∧ c ≤ 239 then 2 else if 240 ≤ c ∧ c ≤ 244 then 3 else 0
def loB (c : Nat) : Nat := if c = 224 then 160 else if c = 240 then 144 else 128
def hiB (c : Nat) : Nat := if c = 237 then 159 else if c = 244 then 143 else 191
def strayB (s : List UInt8) (p c : Nat) : Bool :=
  decide (moreB c = 0) || !inB s (p + 1) (loB c) (hiB c) || (decide (1 < moreB c) && !inB s (p + 2) 128 191) || (decide (2 < moreB c) && !inB s (p + 3) 128 191)
def baseB (c m : Nat) : Nat := if m = 3 then c % 8 else if m = 2 then c % 16 else c % 32
def accB (s : List UInt8) (p v : Nat) : Nat → Nat
  | 0 => v
  | n + 1 => accB s p v n * 64 + bt s (p + (n + 1)) % 64
def oneB (s : List UInt8) (p : Nat) : Nat × Nat :=
  let c := bt s p
  if c < 128 then (c, 1) else if strayB s p c = true then (c + 2000000, 1) else (accB s p (baseB c (moreB c)) (moreB c), moreB c + 1)
theorem bt_lt (s : List UInt8) (i : Nat) : bt s i < 256 := (s.getD i 0).toNat_lt
theorem get_bt (s : List UInt8) (i : Nat) : ((⟨⟨s⟩⟩ : ByteArray).get! i).toNat = bt s i := by
  unfold bt
  simp only [ByteArray.get!, List.getD]
  simp [Array.getElem!_eq_getD, Array.getD_eq_getD_getElem?]
  rfl
theorem valid_iff (c : Nat) : Utf8.valid (c : Int) = true ↔ (c < 55296 ∨ (57344 ≤ c ∧ c ≤ 1114111)) := by
  unfold Utf8.valid
  rw [Bool.or_eq_true, Bool.and_eq_true, Bool.and_eq_true, decide_eq_true_eq, decide_eq_true_eq, decide_eq_true_eq, decide_eq_true_eq]
  omega
set_option maxHeartbeats 4000000 in
theorem one_rune (s : List UInt8) (p : Nat) : (runeAt s p = oneB s p ∧ (oneB s p).1 ≤ 1114111) ∨ (runeAt s p = (65533, 1) ∧ (oneB s p).2 = 1 ∧ 2000000 ≤ (oneB s p).1) := by
  have hsz : (⟨⟨s⟩⟩ : ByteArray).size = s.length := rfl
  unfold runeAt Utf8.decode oneB strayB inB
  simp only [get_bt, hsz, Nat.add_zero]
  have h0 := bt_lt s p
  have h1 := bt_lt s (p + 1)
  have h2 := bt_lt s (p + 2)
  have h3 := bt_lt s (p + 3)
  have a1 : ∀ v, accB s p v 1 = v * 64 + bt s (p + 1) % 64 := fun _ => rfl
  have a2 : ∀ v, accB s p v 2 = (v * 64 + bt s (p + 1) % 64) * 64 + bt s (p + 2) % 64 := fun _ => rfl
  have a3 : ∀ v, accB s p v 3 = ((v * 64 + bt s (p + 1) % 64) * 64 + bt s (p + 2) % 64) * 64 + bt s (p + 3) % 64 := fun _ => rfl
  generalize bt s p = b0 at *
  generalize bt s (p + 1) = b1 at *
  generalize bt s (p + 2) = b2 at *
  generalize bt s (p + 3) = b3 at *
  generalize s.length = n at *
  by_cases c0 : b0 < 128
  · rw [if_pos c0, if_pos c0]; exact .inl ⟨rfl, by simp; omega⟩
  rw [if_neg c0, if_neg c0]
  by_cases m1 : 194 ≤ b0 ∧ b0 ≤ 223
  · have hm : moreB b0 = 1 := by unfold moreB; rw [if_pos m1]
    have hlo : loB b0 = 128 := by unfold loB; rw [if_neg (by omega), if_neg (by omega)]
    have hhi : hiB b0 = 191 := by unfold hiB; rw [if_neg (by omega), if_neg (by omega)]
    have hb : baseB b0 1 = b0 % 32 := rfl
    rw [hm, hlo, hhi, hb, a1]
    simp only [Bool.and_eq_true, Bool.or_eq_true, Bool.not_eq_true', Bool.and_eq_false_iff, decide_eq_true_eq, decide_eq_false_iff_not, beq_iff_eq, valid_iff, Utf8.runeError]
    repeat' split
    all_goals first
      | (exfalso; omega)
      | (refine .inr ⟨rfl, rfl, ?_⟩; (show 2000000 ≤ _; first | omega | (simp only; done) | (simp only; omega)))
      | (refine .inl ⟨Prod.ext ?_ ?_, ?_⟩ <;> (first | rfl | omega | (simp only; done) | (simp only; omega)))
  by_cases m2 : 224 ≤ b0 ∧ b0 ≤ 239
  · have hm : moreB b0 = 2 := by unfold moreB; rw [if_neg (by omega), if_pos m2]
    have hb : baseB b0 2 = b0 % 16 := rfl
    rw [hm, hb, a2]
    by_cases k1 : b0 = 224
    · have hlo : loB b0 = 160 := by unfold loB; rw [if_pos k1]
      have hhi : hiB b0 = 191 := by unfold hiB; rw [if_neg (by omega), if_neg (by omega)]
      rw [hlo, hhi]
      simp only [Bool.and_eq_true, Bool.or_eq_true, Bool.not_eq_true', Bool.and_eq_false_iff, decide_eq_true_eq, decide_eq_false_iff_not, beq_iff_eq, valid_iff, Utf8.runeError]
      repeat' split
      all_goals first
        | (exfalso; omega)
        | (refine .inr ⟨rfl, rfl, ?_⟩; (show 2000000 ≤ _; first | omega | (simp only; done) | (simp only; omega)))
        | (refine .inl ⟨Prod.ext ?_ ?_, ?_⟩ <;> (first | rfl | omega | (simp only; done) | (simp only; omega)))
    have hlo : loB b0 = 128 := by unfold loB; rw [if_neg (by omega), if_neg (by omega)]
    by_cases k2 : b0 = 237
    · have hhi : hiB b0 = 159 := by unfold hiB; rw [if_pos k2]
      rw [hlo, hhi]
      simp only [Bool.and_eq_true, Bool.or_eq_true, Bool.not_eq_true', Bool.and_eq_false_iff, decide_eq_true_eq, decide_eq_false_iff_not, beq_iff_eq, valid_iff, Utf8.runeError]
      repeat' split
      all_goals first
        | (exfalso; omega)
        | (refine .inr ⟨rfl, rfl, ?_⟩; (show 2000000 ≤ _; first | omega | (simp only; done) | (simp only; omega)))
        | (refine .inl ⟨Prod.ext ?_ ?_, ?_⟩ <;> (first | rfl | omega | (simp only; done) | (simp only; omega)))
    have hhi : hiB b0 = 191 := by unfold hiB; rw [if_neg (by omega), if_neg (by omega)]
    rw [hlo, hhi]
    simp only [Bool.and_eq_true, Bool.or_eq_true, Bool.not_eq_true', Bool.and_eq_false_iff, decide_eq_true_eq, decide_eq_false_iff_not, beq_iff_eq, valid_iff, Utf8.runeError]
    repeat' split
    all_goals first
      | (exfalso; omega)
      | (refine .inr ⟨rfl, rfl, ?_⟩; (show 2000000 ≤ _; first | omega | (simp only; done) | (simp only; omega)))
      | (refine .inl ⟨Prod.ext ?_ ?_, ?_⟩ <;> (first | rfl | omega | (simp only; done) | (simp only; omega)))
  by_cases m3 : 240 ≤ b0 ∧ b0 ≤ 244
  · have hm : moreB b0 = 3 := by unfold moreB; rw [if_neg (by omega), if_neg (by omega), if_pos m3]
    have hb : baseB b0 3 = b0 % 8 := rfl
    rw [hm, hb, a3]
    by_cases k1 : b0 = 240
    · have hlo : loB b0 = 144 := by unfold loB; rw [if_neg (by omega), if_pos k1]
      have hhi : hiB b0 = 191 := by unfold hiB; rw [if_neg (by omega), if_neg (by omega)]
      rw [hlo, hhi]
      simp only [Bool.and_eq_true, Bool.or_eq_true, Bool.not_eq_true', Bool.and_eq_false_iff, decide_eq_true_eq, decide_eq_false_iff_not, beq_iff_eq, valid_iff, Utf8.runeError]
      repeat' split
      all_goals first
        | (exfalso; omega)
        | (refine .inr ⟨rfl, rfl, ?_⟩; (show 2000000 ≤ _; first | omega | (simp only; done) | (simp only; omega)))
        | (refine .inl ⟨Prod.ext ?_ ?_, ?_⟩ <;> (first | rfl | omega | (simp only; done) | (simp only; omega)))
    have hlo : loB b0 = 128 := by unfold loB; rw [if_neg (by omega), if_neg (by omega)]
    by_cases k2 : b0 = 244
    · have hhi : hiB b0 = 143 := by unfold hiB; rw [if_neg (by omega), if_pos k2]
      rw [hlo, hhi]
      simp only [Bool.and_eq_true, Bool.or_eq_true, Bool.not_eq_true', Bool.and_eq_false_iff, decide_eq_true_eq, decide_eq_false_iff_not, beq_iff_eq, valid_iff, Utf8.runeError]
      repeat' split
      all_goals first
        | (exfalso; omega)
        | (refine .inr ⟨rfl, rfl, ?_⟩; (show 2000000 ≤ _; first | omega | (simp only; done) | (simp only; omega)))
        | (refine .inl ⟨Prod.ext ?_ ?_, ?_⟩ <;> (first | rfl | omega | (simp only; done) | (simp only; omega)))
    have hhi : hiB b0 = 191 := by unfold hiB; rw [if_neg (by omega), if_neg (by omega)]
    rw [hlo, hhi]
    simp only [Bool.and_eq_true, Bool.or_eq_true, Bool.not_eq_true', Bool.and_eq_false_iff, decide_eq_true_eq, decide_eq_false_iff_not, beq_iff_eq, valid_iff, Utf8.runeError]
    repeat' split
    all_goals first
      | (exfalso; omega)
      | (refine .inr ⟨rfl, rfl, ?_⟩; (show 2000000 ≤ _; first | omega | (simp only; done) | (simp only; omega)))
      | (refine .inl ⟨Prod.ext ?_ ?_, ?_⟩ <;> (first | rfl | omega | (simp only; done) | (simp only; omega)))
  · have hm : moreB b0 = 0 := by unfold moreB; rw [if_neg (by omega), if_neg (by omega), if_neg (by omega)]
    rw [hm]
    simp only [decide_true, Bool.true_or, if_true]
    refine .inr ⟨?_, trivial, Nat.le_add_left _ _⟩
    simp only [Bool.and_eq_true, Bool.or_eq_true, decide_eq_true_eq, beq_iff_eq, valid_iff, Utf8.runeError]
    repeat' split
    all_goals first
      | rfl
      | (exfalso; omega)
end Go.Den.Q9d
/- Law 09: a rune as the reference reads it; walked. -/
namespace Go.Den.Q9d
open Go Go.Den Go.Proofs Go.Den.Q9d.Wi
set_option maxRecDepth 8000
set_option linter.unusedVariables false
set_option linter.unusedSimpArgs false

def stripB : List It → List It
  | .b _ :: k => stripB k
  | k => k
theorem VX_viaB {C : Cx} {env : Env} {σ : List Blk} {Q : Post} {k k' : List It} (env' : Env) (σ' : List Blk) (hj : unf 40 (stripB (behind 60 k)) = k') (rest : VX C Q k' .nrm env' σ') (h : VX C Q k' .nrm env' σ' → VX C Q k .nrm env σ) : VX C Q k .nrm env σ := h rest
theorem rsmall_ok (c : Nat) : FnOk Tryd.prog tb 36 [3] [4] [.int c] [.bool (smallR c)] := by
  refine FnOk_of_V (fn := Tryd.f36) (bt := 4) (ok 0 _) Tryd.func36 rfl rfl rfl (by decide) fun hw => ?_
  clear hw
  apply V_of_VX
  refine VX_go4 (fs := []) (ok 0 _) eqs trivial 100 [] rfl trivial ?_
  by_cases h1 : 97 ≤ c
  · refine VX_known 5 true rfl rfl (by simp; omega) ?_
    refine VX_go4 (fs := []) (ok 0 _) eqs trivial 100 [] rfl trivial ?_
    by_cases h2 : c ≤ 122
    · refine VX_known 9 true rfl rfl (by simp; omega) ?_
      refine VX_go4 (fs := []) (ok 0 _) eqs trivial 100 [] rfl trivial ?_
      have : smallR c = true := by simp [smallR, h1, h2]
      rw [this]
      exact ⟨.inr rfl, rfl⟩
    · refine VX_known 9 false rfl rfl (by simp; omega) ?_
      refine VX_go4 (fs := []) (ok 0 _) eqs trivial 100 [] rfl trivial ?_
      by_cases h3 : 945 ≤ c
      · refine VX_known 12 true rfl rfl (by simp; omega) ?_
        refine VX_go4 (fs := []) (ok 0 _) eqs trivial 100 [] rfl trivial ?_
        have : smallR c = decide ((c : Int) ≤ 969) := by simp [smallR, h1, h2, h3]; omega
        rw [this]
        exact ⟨.inr rfl, rfl⟩
      · refine VX_known 12 false rfl rfl (by simp; omega) ?_
        refine VX_go4 (fs := []) (ok 0 _) eqs trivial 100 [] rfl trivial ?_
        have : smallR c = false := by simp [smallR, h2, h3]
        rw [this]
        exact ⟨.inr rfl, rfl⟩
  · refine VX_known 5 false rfl rfl (by simp; omega) ?_
    refine VX_go4 (fs := []) (ok 0 _) eqs trivial 100 [] rfl trivial ?_
    refine VX_known 12 false rfl rfl (by simp; omega) ?_
    refine VX_go4 (fs := []) (ok 0 _) eqs trivial 100 [] rfl trivial ?_
    have : smallR c = false := by simp [smallR, h1]; omega
    rw [this]
    exact ⟨.inr rfl, rfl⟩
theorem within_ok (s : List UInt8) (i lo hi : Nat) : FnOk Tryd.prog tb 62 [9, 3, 5, 5] [4] [.str s, .int i, .int lo, .int hi] [.bool (inB s i lo hi)] := by
  refine FnOk_of_V (fn := Tryd.f62) (bt := 4) (ok 0 _) Tryd.func62 rfl rfl rfl (by decide) fun hw => ?_
  clear hw
  apply V_of_VX
  refine VX_go4 (fs := []) (ok 0 _) eqs trivial 100 [] rfl trivial ?_
  unfold inB
  by_cases h1 : i < s.length
  · rw [decide_eq_true h1, Bool.true_and]
    refine VX_known 13 true rfl rfl (by simp; omega) ?_
    refine VX_go4 (fs := []) (ok 0 _) eqs trivial 100 [] rfl (by simp [allP]; omega) ?_
    by_cases h2 : lo ≤ bt s i
    · rw [decide_eq_true h2, Bool.true_and]
      refine VX_known 20 true rfl rfl (by show decide ((lo : Int) ≤ (bt s i : Int)) = true; simp; omega) ?_
      refine VX_go4 (fs := []) (ok 0 _) eqs trivial 100 [] rfl (by simp [allP]; omega) ?_
      have : decide (bt s i ≤ hi) = decide ((bt s i : Int) ≤ (hi : Int)) := by rw [decide_eq_decide]; omega
      rw [this]
      exact ⟨.inr rfl, rfl⟩
    · rw [decide_eq_false h2, Bool.false_and]
      refine VX_known 20 false rfl rfl (by show decide ((lo : Int) ≤ (bt s i : Int)) = false; simp; omega) ?_
      refine VX_go4 (fs := []) (ok 0 _) eqs trivial 100 [] rfl trivial ?_
      exact ⟨.inr rfl, rfl⟩
  · rw [decide_eq_false h1, Bool.false_and]
    refine VX_known 13 false rfl rfl (by simp; omega) ?_
    refine VX_go4 (fs := []) (ok 0 _) eqs trivial 100 [] rfl trivial ?_
    exact ⟨.inr rfl, rfl⟩
theorem inB_lt {s : List UInt8} {i lo hi : Nat} (h : inB s i lo hi = true) : i < s.length := by
  simp only [inB, Bool.and_eq_true, decide_eq_true_eq] at h; exact h.1
theorem accB_lt (s : List UInt8) (p v : Nat) (hv : v < 32) (k : Nat) (hk : k ≤ 3) : accB s p v k < 32 * 262144 := by
  have h1 : accB s p v 1 = v * 64 + bt s (p + 1) % 64 := rfl
  have h2 : accB s p v 2 = (v * 64 + bt s (p + 1) % 64) * 64 + bt s (p + 2) % 64 := rfl
  have h3 : accB s p v 3 = ((v * 64 + bt s (p + 1) % 64) * 64 + bt s (p + 2) % 64) * 64 + bt s (p + 3) % 64 := rfl
  have h0 : accB s p v 0 = v := rfl
  have : k = 0 ∨ k = 1 ∨ k = 2 ∨ k = 3 := by omega
  rcases this with rfl | rfl | rfl | rfl
  · rw [h0]; omega
  · rw [h1]; omega
  · rw [h2]; omega
  · rw [h3]; omega
set_option maxHeartbeats 3200000 in
theorem one_ok (s : List UInt8) (p : Nat) (hp : p < s.length) (hl : s.length ≤ 1000000) : FnOk Tryd.prog tb 50 [9, 3] [3, 3] [.str s, .int p] [.int (oneB s p).1, .int (oneB s p).2] := by
  refine FnOk_of_V (fn := Tryd.f50) (bt := 4) (ok 0 _) Tryd.func50 rfl rfl rfl (by decide) fun hw => ?_
  clear hw
  have hcl := bt_lt s p
  apply V_of_VX
  refine VX_go4 (fs := []) (ok 0 _) eqs trivial 100 [6] rfl (by simp [allP]; omega) ?_
  refine VX_eq 14 rfl rfl (d' := .t 5 (.e (.int (bt s p)))) rfl ?_
  unfold oneB
  simp only
  generalize hc : bt s p = c at hcl ⊢
  refine VX_go4 (fs := []) (ok 0 _) eqs trivial 100 [] rfl trivial ?_
  have ec : IntKind.wrap .i64 (c : Int) = (c : Int) := w64 (by omega) (by omega)
  by_cases c0 : c < 128
  · rw [if_pos c0]
    refine VX_known 15 true rfl rfl (by simp; omega) ?_
    refine VX_go4 (fs := []) (ok 0 _) eqs trivial 100 [4] rfl trivial ?_
    refine VX_eq 19 rfl rfl (d' := .t 3 (.e (.int c))) (congrArg (fun x => D.t 3 (.e (.int x))) ec) ?_
    refine VX_go4 (fs := []) (ok 0 _) eqs trivial 100 [] rfl trivial ?_
    exact ⟨.inr rfl, rfl⟩
  rw [if_neg c0]
  refine VX_viaB [(6, .t 5 (.e (.int c))), (7, .t 3 (.e (.int (moreB c)))), (8, .t 5 (.e (.int (loB c)))), (9, .t 5 (.e (.int (hiB c)))), (0, .t 9 (.e (.str s))), (1, .t 3 (.e (.int p)))] [] rfl ?_ (fun hr => ?_)
  rotate_left
  · refine VX_known 15 false rfl rfl (by simp; omega) ?_
    refine VX_go4 (fs := []) (ok 0 _) eqs trivial 100 [] rfl trivial ?_
    by_cases k1 : 194 ≤ c ∧ c ≤ 223
    · have hm : moreB c = 1 := by unfold moreB; rw [if_pos k1]
      have hlo : loB c = 128 := by unfold loB; rw [if_neg (by omega), if_neg (by omega)]
      have hhi : hiB c = 191 := by unfold hiB; rw [if_neg (by omega), if_neg (by omega)]
      refine VX_known 23 true rfl rfl (by simp; omega) ?_
      refine VX_go4 (fs := []) (ok 0 _) eqs trivial 100 [] rfl trivial ?_
      refine VX_known 20 true rfl rfl (by simp; omega) ?_
      refine VX_go4 (fs := []) (ok 0 _) eqs trivial 100 [49] rfl trivial ?_
      exact VX_weakS rfl (wk1 rfl rfl (by simp) (lc (ls rfl rfl) (lc (li (by rw [hm]; rfl)) (lc (li (by rw [hlo]; rfl)) (lc (li (by rw [hhi]; rfl)) (lc (ls rfl rfl) (lc (ls rfl rfl) lnil))))))) hr
    by_cases k2 : 224 ≤ c ∧ c ≤ 239
    · have hm : moreB c = 2 := by unfold moreB; rw [if_neg (by omega), if_pos k2]
      refine VX_known 23 true rfl rfl (by simp; omega) ?_
      refine VX_go4 (fs := []) (ok 0 _) eqs trivial 100 [] rfl trivial ?_
      refine VX_known 20 false rfl rfl (by simp; omega) ?_
      refine VX_go4 (fs := []) (ok 0 _) eqs trivial 100 [] rfl trivial ?_
      refine VX_known 30 true rfl rfl (by simp; omega) ?_
      refine VX_go4 (fs := []) (ok 0 _) eqs trivial 100 [] rfl trivial ?_
      refine VX_known 27 true rfl rfl (by simp; omega) ?_
      refine VX_go4 (fs := []) (ok 0 _) eqs trivial 100 [] rfl trivial ?_
      by_cases q1 : c = 224
      · have hlo : loB c = 160 := by unfold loB; rw [if_pos q1]
        have hhi : hiB c = 191 := by unfold hiB; rw [if_neg (by omega), if_neg (by omega)]
        refine VX_known 35 true rfl rfl (by simp; omega) ?_
        refine VX_go4 (fs := []) (ok 0 _) eqs trivial 100 [] rfl trivial ?_
        refine VX_known 37 false rfl rfl (by simp; omega) ?_
        refine VX_go4 (fs := []) (ok 0 _) eqs trivial 100 [49] rfl trivial ?_
        exact VX_weakS rfl (wk1 rfl rfl (by simp) (lc (ls rfl rfl) (lc (li (by rw [hm]; rfl)) (lc (li (by rw [hlo]; rfl)) (lc (li (by rw [hhi]; rfl)) (lc (ls rfl rfl) (lc (ls rfl rfl) lnil))))))) hr
      have hlo : loB c = 128 := by unfold loB; rw [if_neg (by omega), if_neg (by omega)]
      refine VX_known 35 false rfl rfl (by simp; omega) ?_
      refine VX_go4 (fs := []) (ok 0 _) eqs trivial 100 [] rfl trivial ?_
      by_cases q2 : c = 237
      · have hhi : hiB c = 159 := by unfold hiB; rw [if_pos q2]
        refine VX_known 37 true rfl rfl (by simp; omega) ?_
        refine VX_go4 (fs := []) (ok 0 _) eqs trivial 100 [49] rfl trivial ?_
        exact VX_weakS rfl (wk1 rfl rfl (by simp) (lc (ls rfl rfl) (lc (li (by rw [hm]; rfl)) (lc (li (by rw [hlo]; rfl)) (lc (li (by rw [hhi]; rfl)) (lc (ls rfl rfl) (lc (ls rfl rfl) lnil))))))) hr
      have hhi : hiB c = 191 := by unfold hiB; rw [if_neg (by omega), if_neg (by omega)]
      refine VX_known 37 false rfl rfl (by simp; omega) ?_
      refine VX_go4 (fs := []) (ok 0 _) eqs trivial 100 [49] rfl trivial ?_
      exact VX_weakS rfl (wk1 rfl rfl (by simp) (lc (ls rfl rfl) (lc (li (by rw [hm]; rfl)) (lc (li (by rw [hlo]; rfl)) (lc (li (by rw [hhi]; rfl)) (lc (ls rfl rfl) (lc (ls rfl rfl) lnil))))))) hr
    by_cases k3 : 240 ≤ c ∧ c ≤ 244
    · have hm : moreB c = 3 := by unfold moreB; rw [if_neg (by omega), if_neg (by omega), if_pos k3]
      refine VX_known 23 true rfl rfl (by simp; omega) ?_
      refine VX_go4 (fs := []) (ok 0 _) eqs trivial 100 [] rfl trivial ?_
      refine VX_known 20 false rfl rfl (by simp; omega) ?_
      refine VX_go4 (fs := []) (ok 0 _) eqs trivial 100 [] rfl trivial ?_
      refine VX_known 30 true rfl rfl (by simp; omega) ?_
      refine VX_go4 (fs := []) (ok 0 _) eqs trivial 100 [] rfl trivial ?_
      refine VX_known 27 false rfl rfl (by simp; omega) ?_
      refine VX_go4 (fs := []) (ok 0 _) eqs trivial 100 [] rfl trivial ?_
      refine VX_known 41 true rfl rfl (by simp; omega) ?_
      refine VX_go4 (fs := []) (ok 0 _) eqs trivial 100 [] rfl trivial ?_
      refine VX_known 38 true rfl rfl (by simp; omega) ?_
      refine VX_go4 (fs := []) (ok 0 _) eqs trivial 100 [] rfl trivial ?_
      by_cases q1 : c = 240
      · have hlo : loB c = 144 := by unfold loB; rw [if_neg (by omega), if_pos q1]
        have hhi : hiB c = 191 := by unfold hiB; rw [if_neg (by omega), if_neg (by omega)]
        refine VX_known 46 true rfl rfl (by simp; omega) ?_
        refine VX_go4 (fs := []) (ok 0 _) eqs trivial 100 [] rfl trivial ?_
        refine VX_known 48 false rfl rfl (by simp; omega) ?_
        refine VX_go4 (fs := []) (ok 0 _) eqs trivial 100 [49] rfl trivial ?_
        exact VX_weakS rfl (wk1 rfl rfl (by simp) (lc (ls rfl rfl) (lc (li (by rw [hm]; rfl)) (lc (li (by rw [hlo]; rfl)) (lc (li (by rw [hhi]; rfl)) (lc (ls rfl rfl) (lc (ls rfl rfl) lnil))))))) hr
      have hlo : loB c = 128 := by unfold loB; rw [if_neg (by omega), if_neg (by omega)]
      refine VX_known 46 false rfl rfl (by simp; omega) ?_
      refine VX_go4 (fs := []) (ok 0 _) eqs trivial 100 [] rfl trivial ?_
      by_cases q2 : c = 244
      · have hhi : hiB c = 143 := by unfold hiB; rw [if_neg (by omega), if_pos q2]
        refine VX_known 48 true rfl rfl (by simp; omega) ?_
        refine VX_go4 (fs := []) (ok 0 _) eqs trivial 100 [49] rfl trivial ?_
        exact VX_weakS rfl (wk1 rfl rfl (by simp) (lc (ls rfl rfl) (lc (li (by rw [hm]; rfl)) (lc (li (by rw [hlo]; rfl)) (lc (li (by rw [hhi]; rfl)) (lc (ls rfl rfl) (lc (ls rfl rfl) lnil))))))) hr
      have hhi : hiB c = 191 := by unfold hiB; rw [if_neg (by omega), if_neg (by omega)]
      refine VX_known 48 false rfl rfl (by simp; omega) ?_
      refine VX_go4 (fs := []) (ok 0 _) eqs trivial 100 [49] rfl trivial ?_
      exact VX_weakS rfl (wk1 rfl rfl (by simp) (lc (ls rfl rfl) (lc (li (by rw [hm]; rfl)) (lc (li (by rw [hlo]; rfl)) (lc (li (by rw [hhi]; rfl)) (lc (ls rfl rfl) (lc (ls rfl rfl) lnil))))))) hr
    have hm : moreB c = 0 := by unfold moreB; rw [if_neg (by omega), if_neg (by omega), if_neg (by omega)]
    have hlo : loB c = 128 := by unfold loB; rw [if_neg (by omega), if_neg (by omega)]
    have hhi : hiB c = 191 := by unfold hiB; rw [if_neg (by omega), if_neg (by omega)]
    by_cases q1 : c ≤ 193
    · refine VX_known 23 false rfl rfl (by simp; omega) ?_
      refine VX_go4 (fs := []) (ok 0 _) eqs trivial 100 [] rfl trivial ?_
      refine VX_known 30 false rfl rfl (by simp; omega) ?_
      refine VX_go4 (fs := []) (ok 0 _) eqs trivial 100 [] rfl trivial ?_
      refine VX_known 41 false rfl rfl (by simp; omega) ?_
      refine VX_go4 (fs := []) (ok 0 _) eqs trivial 100 [49] rfl trivial ?_
      exact VX_weakS rfl (wk1 rfl rfl (by simp) (lc (ls rfl rfl) (lc (li (by rw [hm]; rfl)) (lc (li (by rw [hlo]; rfl)) (lc (li (by rw [hhi]; rfl)) (lc (ls rfl rfl) (lc (ls rfl rfl) lnil))))))) hr
    · refine VX_known 23 true rfl rfl (by simp; omega) ?_
      refine VX_go4 (fs := []) (ok 0 _) eqs trivial 100 [] rfl trivial ?_
      refine VX_known 20 false rfl rfl (by simp; omega) ?_
      refine VX_go4 (fs := []) (ok 0 _) eqs trivial 100 [] rfl trivial ?_
      refine VX_known 30 true rfl rfl (by simp; omega) ?_
      refine VX_go4 (fs := []) (ok 0 _) eqs trivial 100 [] rfl trivial ?_
      refine VX_known 27 false rfl rfl (by simp; omega) ?_
      refine VX_go4 (fs := []) (ok 0 _) eqs trivial 100 [] rfl trivial ?_
      refine VX_known 41 true rfl rfl (by simp; omega) ?_
      refine VX_go4 (fs := []) (ok 0 _) eqs trivial 100 [] rfl trivial ?_
      refine VX_known 38 false rfl rfl (by simp; omega) ?_
      refine VX_go4 (fs := []) (ok 0 _) eqs trivial 100 [49] rfl trivial ?_
      exact VX_weakS rfl (wk1 rfl rfl (by simp) (lc (ls rfl rfl) (lc (li (by rw [hm]; rfl)) (lc (li (by rw [hlo]; rfl)) (lc (li (by rw [hhi]; rfl)) (lc (ls rfl rfl) (lc (ls rfl rfl) lnil))))))) hr
  have hm3 : moreB c ≤ 3 := by unfold moreB; split <;> (try split) <;> (try split) <;> omega
  have w1 := (within_ok s (p + 1) (loB c) (hiB c)).g
  have w2 := (within_ok s (p + 2) 128 191).g
  have w3 := (within_ok s (p + 3) 128 191).g
  have e1 : IntKind.wrap .i64 ((p : Int) + 1) = ((p + 1 : Nat) : Int) := by rw [w64 (by omega) (by omega)]; rfl
  have e2 : IntKind.wrap .i64 ((p : Int) + 2) = ((p + 2 : Nat) : Int) := by rw [w64 (by omega) (by omega)]; rfl
  have e3 : IntKind.wrap .i64 ((p : Int) + 3) = ((p + 3 : Nat) : Int) := by rw [w64 (by omega) (by omega)]; rfl
  have eS : IntKind.wrap .i64 ((c : Int) + 2000000) = ((c + 2000000 : Nat) : Int) := by rw [w64 (by omega) (by omega)]; rfl
  unfold strayB
  generalize loB c = lo at w1 ⊢
  generalize hiB c = hi at w1 ⊢
  have n1 := @inB_lt s (p + 1) lo hi
  have n2 := @inB_lt s (p + 2) 128 191
  have n3 := @inB_lt s (p + 3) 128 191
  generalize inB s (p + 1) lo hi = t1 at w1 n1 ⊢
  generalize inB s (p + 2) 128 191 = t2 at w2 n2 ⊢
  generalize inB s (p + 3) 128 191 = t3 at w3 n3 ⊢
  generalize moreB c = m at hm3 ⊢
  generalize hst : (decide (m = 0) || !t1 || decide (1 < m) && !t2 || decide (2 < m) && !t3) = st
  refine VX_go4 (fs := []) (ok 0 _) eqs trivial 100 [] rfl trivial ?_
  by_cases z0 : m = 0
  · have : st = true := by rw [← hst]; simp [z0]
    subst this
    rw [if_pos rfl]
    refine VX_known 51 true rfl rfl (by simp; omega) ?_
    refine VX_go4 (fs := []) (ok 0 _) eqs trivial 100 [84] rfl trivial ?_
    refine VX_eq 83 rfl rfl (d' := .t 3 (.e (.int _))) (congrArg (fun x => D.t 3 (.e (.int x))) ec) ?_
    refine VX_go4 (fs := []) (ok 0 _) eqs trivial 100 [4] rfl trivial ?_
    refine VX_eq 84 rfl rfl (d' := .t 3 (.e (.int _))) (congrArg (fun x => D.t 3 (.e (.int x))) eS) ?_
    refine VX_go4 (fs := []) (ok 0 _) eqs trivial 100 [] rfl trivial ?_
    exact ⟨.inr rfl, rfl⟩
  refine VX_known 51 false rfl rfl (by simp; omega) ?_
  refine VX_go4 (fs := []) (ok 0 _) eqs trivial 100 [55] rfl trivial ?_
  refine VX_eq 54 rfl rfl (d' := .t 3 (.e (.int (p + 1 : Nat)))) (congrArg (fun x => D.t 3 (.e (.int x))) e1) ?_
  refine VX_go4 (fs := []) (ok 0 _) eqs trivial 100 [] rfl trivial ?_
  refine VX_callD (ok 0 _) [9, 3, 5, 5] [] rfl rfl rfl rfl rfl rfl w1 rfl rfl rfl ?_
  refine VX_go4 (fs := []) (ok 0 _) eqs trivial 100 [] rfl trivial ?_
  cases t1 with
  | false =>
    have : st = true := by rw [← hst]; simp
    subst this
    rw [if_pos rfl]
    refine VX_known 60 true rfl rfl rfl ?_
    refine VX_go4 (fs := []) (ok 0 _) eqs trivial 100 [84] rfl trivial ?_
    refine VX_eq 83 rfl rfl (d' := .t 3 (.e (.int _))) (congrArg (fun x => D.t 3 (.e (.int x))) ec) ?_
    refine VX_go4 (fs := []) (ok 0 _) eqs trivial 100 [4] rfl trivial ?_
    refine VX_eq 84 rfl rfl (d' := .t 3 (.e (.int _))) (congrArg (fun x => D.t 3 (.e (.int x))) eS) ?_
    refine VX_go4 (fs := []) (ok 0 _) eqs trivial 100 [] rfl trivial ?_
    exact ⟨.inr rfl, rfl⟩
  | true =>
  refine VX_known 60 false rfl rfl rfl ?_
  refine VX_go4 (fs := []) (ok 0 _) eqs trivial 100 [] rfl trivial ?_
  cases st with
  | true =>
    rw [if_pos rfl]
    have z1 : 1 < m := by
      have : ¬ m ≤ 1 := fun h => by
        rw [decide_eq_false z0, decide_eq_false (show ¬ 1 < m by omega), decide_eq_false (show ¬ 2 < m by omega)] at hst
        simp at hst
      omega
    refine VX_known 63 true rfl rfl (by simp; omega) ?_
    refine VX_go4 (fs := []) (ok 0 _) eqs trivial 100 [67] rfl trivial ?_
    refine VX_eq 66 rfl rfl (d' := .t 3 (.e (.int (p + 2 : Nat)))) (congrArg (fun x => D.t 3 (.e (.int x))) e2) ?_
    refine VX_callD (ok 0 _) [9, 3, 5, 5] [] rfl rfl rfl rfl rfl rfl w2 rfl rfl rfl ?_
    refine VX_go4 (fs := []) (ok 0 _) eqs trivial 100 [] rfl trivial ?_
    cases t2 with
    | false =>
      refine VX_known 71 true rfl rfl rfl ?_
      refine VX_go4 (fs := []) (ok 0 _) eqs trivial 100 [84] rfl trivial ?_
      refine VX_eq 83 rfl rfl (d' := .t 3 (.e (.int _))) (congrArg (fun x => D.t 3 (.e (.int x))) ec) ?_
      refine VX_go4 (fs := []) (ok 0 _) eqs trivial 100 [4] rfl trivial ?_
      refine VX_eq 84 rfl rfl (d' := .t 3 (.e (.int _))) (congrArg (fun x => D.t 3 (.e (.int x))) eS) ?_
      refine VX_go4 (fs := []) (ok 0 _) eqs trivial 100 [] rfl trivial ?_
      exact ⟨.inr rfl, rfl⟩
    | true =>
    have z2 : 2 < m := by
      have : ¬ m ≤ 2 := fun h => by
        rw [decide_eq_false z0, decide_eq_false (show ¬ 2 < m by omega)] at hst
        simp at hst
      omega
    cases t3 with
    | true => rw [decide_eq_false z0] at hst; simp at hst
    | false =>
    refine VX_known 71 false rfl rfl rfl ?_
    refine VX_go4 (fs := []) (ok 0 _) eqs trivial 100 [] rfl trivial ?_
    refine VX_known 74 true rfl rfl (by simp; omega) ?_
    refine VX_go4 (fs := []) (ok 0 _) eqs trivial 100 [78] rfl trivial ?_
    refine VX_eq 77 rfl rfl (d' := .t 3 (.e (.int (p + 3 : Nat)))) (congrArg (fun x => D.t 3 (.e (.int x))) e3) ?_
    refine VX_callD (ok 0 _) [9, 3, 5, 5] [] rfl rfl rfl rfl rfl rfl w3 rfl rfl rfl ?_
    refine VX_go4 (fs := []) (ok 0 _) eqs trivial 100 [] rfl trivial ?_
    refine VX_known 81 true rfl rfl rfl ?_
    refine VX_go4 (fs := []) (ok 0 _) eqs trivial 100 [84] rfl trivial ?_
    refine VX_eq 83 rfl rfl (d' := .t 3 (.e (.int _))) (congrArg (fun x => D.t 3 (.e (.int x))) ec) ?_
    refine VX_go4 (fs := []) (ok 0 _) eqs trivial 100 [4] rfl trivial ?_
    refine VX_eq 84 rfl rfl (d' := .t 3 (.e (.int _))) (congrArg (fun x => D.t 3 (.e (.int x))) eS) ?_
    refine VX_go4 (fs := []) (ok 0 _) eqs trivial 100 [] rfl trivial ?_
    exact ⟨.inr rfl, rfl⟩
  | false =>
  rw [if_neg (by simp)]
  have y2 : 1 < m → t2 = true := fun h => by
    cases t2 with
    | true => rfl
    | false => rw [decide_eq_true h] at hst; simp at hst
  have y3 : 2 < m → t3 = true := fun h => by
    cases t3 with
    | true => rfl
    | false => rw [decide_eq_true h] at hst; simp at hst
  refine VX_viaB [(6, .t 5 (.e (.int c))), (7, .t 3 (.e (.int m))), (0, .t 9 (.e (.str s))), (1, .t 3 (.e (.int p)))] [] rfl ?_ (fun hr => ?_)
  rotate_left
  · by_cases z1 : 1 < m
    · have := y2 z1; subst this
      refine VX_known 63 true rfl rfl (by simp; omega) ?_
      refine VX_go4 (fs := []) (ok 0 _) eqs trivial 100 [67] rfl trivial ?_
      refine VX_eq 66 rfl rfl (d' := .t 3 (.e (.int (p + 2 : Nat)))) (congrArg (fun x => D.t 3 (.e (.int x))) e2) ?_
      refine VX_callD (ok 0 _) [9, 3, 5, 5] [] rfl rfl rfl rfl rfl rfl w2 rfl rfl rfl ?_
      refine VX_go4 (fs := []) (ok 0 _) eqs trivial 100 [] rfl trivial ?_
      refine VX_known 71 false rfl rfl rfl ?_
      refine VX_go4 (fs := []) (ok 0 _) eqs trivial 100 [] rfl trivial ?_
      by_cases z2 : 2 < m
      · have := y3 z2; subst this
        refine VX_known 74 true rfl rfl (by simp; omega) ?_
        refine VX_go4 (fs := []) (ok 0 _) eqs trivial 100 [78] rfl trivial ?_
        refine VX_eq 77 rfl rfl (d' := .t 3 (.e (.int (p + 3 : Nat)))) (congrArg (fun x => D.t 3 (.e (.int x))) e3) ?_
        refine VX_callD (ok 0 _) [9, 3, 5, 5] [] rfl rfl rfl rfl rfl rfl w3 rfl rfl rfl ?_
        refine VX_go4 (fs := []) (ok 0 _) eqs trivial 100 [] rfl trivial ?_
        refine VX_known 81 false rfl rfl rfl ?_
        refine VX_go4 (fs := []) (ok 0 _) eqs trivial 100 [85] rfl trivial ?_
        exact VX_weakS rfl (wk1 rfl rfl (by simp) (lc (ls rfl rfl) (lc (ls rfl rfl) (lc (ls rfl rfl) (lc (ls rfl rfl) lnil))))) hr
      · refine VX_known 74 false rfl rfl (by simp; omega) ?_
        refine VX_go4 (fs := []) (ok 0 _) eqs trivial 100 [85] rfl trivial ?_
        exact VX_weakS rfl (wk1 rfl rfl (by simp) (lc (ls rfl rfl) (lc (ls rfl rfl) (lc (ls rfl rfl) (lc (ls rfl rfl) lnil))))) hr
    · refine VX_known 63 false rfl rfl (by simp; omega) ?_
      refine VX_go4 (fs := []) (ok 0 _) eqs trivial 100 [] rfl trivial ?_
      refine VX_known 74 false rfl rfl (by simp; omega) ?_
      refine VX_go4 (fs := []) (ok 0 _) eqs trivial 100 [85] rfl trivial ?_
      exact VX_weakS rfl (wk1 rfl rfl (by simp) (lc (ls rfl rfl) (lc (ls rfl rfl) (lc (ls rfl rfl) (lc (ls rfl rfl) lnil))))) hr
  have hpm : p + m < s.length := by
    have q1 := n1 rfl
    by_cases z1 : 1 < m
    · have q2 := n2 (y2 z1)
      by_cases z2 : 2 < m
      · have q3 := n3 (y3 z2); omega
      · omega
    · omega
  clear n1 n2 n3 y2 y3 w1 w2 w3 hst
  refine VX_go4 (fs := []) (ok 0 _) eqs trivial 100 [87] rfl trivial ?_
  refine VX_eq 86 rfl rfl (d' := .t 3 (.e (.int c))) (congrArg (fun x => D.t 3 (.e (.int x))) ec) ?_
  refine VX_go4 (fs := []) (ok 0 _) eqs trivial 100 [] rfl (by simp [allP, arithP]) ?_
  refine VX_viaB [(10, .t 3 (.e (.int (if m = 2 then c % 16 else c % 32 : Nat)))), (6, .t 5 (.e (.int c))), (7, .t 3 (.e (.int m))), (0, .t 9 (.e (.str s))), (1, .t 3 (.e (.int p)))] [] rfl ?_ (fun hr => ?_)
  rotate_left
  · by_cases z1 : m = 2
    · refine VX_known 89 true rfl rfl (by simp; omega) ?_
      refine VX_go4 (fs := []) (ok 0 _) eqs trivial 100 [92] rfl trivial ?_
      refine VX_eq 91 rfl rfl (d' := .t 3 (.e (.int c))) (congrArg (fun x => D.t 3 (.e (.int x))) ec) ?_
      refine VX_go4 (fs := []) (ok 0 _) eqs trivial 100 [93] rfl (by simp [allP, arithP]) ?_
      exact VX_weakS rfl (wk1 rfl rfl (by simp) (lc (li (by rw [if_pos z1]; rfl)) (lc (ls rfl rfl) (lc (ls rfl rfl) (lc (ls rfl rfl) (lc (ls rfl rfl) lnil)))))) hr
    · refine VX_known 89 false rfl rfl (by simp; omega) ?_
      refine VX_go4 (fs := []) (ok 0 _) eqs trivial 100 [93] rfl trivial ?_
      exact VX_weakS rfl (wk1 rfl rfl (by simp) (lc (li (by rw [if_neg z1]; rfl)) (lc (ls rfl rfl) (lc (ls rfl rfl) (lc (ls rfl rfl) (lc (ls rfl rfl) lnil)))))) hr
  refine VX_go4 (fs := []) (ok 0 _) eqs trivial 100 [] rfl trivial ?_
  refine VX_viaB [(10, .t 3 (.e (.int (baseB c m)))), (7, .t 3 (.e (.int m))), (0, .t 9 (.e (.str s))), (1, .t 3 (.e (.int p)))] [] rfl ?_ (fun hr => ?_)
  rotate_left
  · by_cases z1 : m = 3
    · refine VX_known 94 true rfl rfl (by simp; omega) ?_
      refine VX_go4 (fs := []) (ok 0 _) eqs trivial 100 [97] rfl trivial ?_
      refine VX_eq 96 rfl rfl (d' := .t 3 (.e (.int c))) (congrArg (fun x => D.t 3 (.e (.int x))) ec) ?_
      refine VX_go4 (fs := []) (ok 0 _) eqs trivial 100 [11] rfl (by simp [allP, arithP]) ?_
      exact VX_weakS rfl (wk1 rfl rfl (by simp) (lc (li (by unfold baseB; rw [if_pos z1]; rfl)) (lc (ls rfl rfl) (lc (ls rfl rfl) (lc (ls rfl rfl) lnil))))) hr
    · refine VX_known 94 false rfl rfl (by simp; omega) ?_
      refine VX_go4 (fs := []) (ok 0 _) eqs trivial 100 [11] rfl trivial ?_
      exact VX_weakS rfl (wk1 rfl rfl (by simp) (lc (li (by unfold baseB; rw [if_neg z1])) (lc (ls rfl rfl) (lc (ls rfl rfl) (lc (ls rfl rfl) lnil))))) hr
  have hb : baseB c m < 32 := by unfold baseB; split <;> (try split) <;> omega
  generalize baseB c m = v at hb ⊢
  refine VX_go4 (fs := []) (ok 0 _) eqs trivial 100 [] rfl trivial ?_
  refine VX_loopA (fun k : Nat => k ≤ m) (fun k => [(11, .t 3 (.e (.int (k + 1 : Nat)))), (10, .t 3 (.e (.int (accB s p v k)))), (7, .t 3 (.e (.int m))), (0, .t 9 (.e (.str s))), (1, .t 3 (.e (.int p)))])
    (fun k => []) (fun k => m - k) 0 (by omega) ?_ ?_
  · exact wk1 rfl rfl (by simp) (lc (ls rfl rfl) (lc (ls rfl rfl) (lc (ls rfl rfl) (lc (ls rfl rfl) (lc (ls rfl rfl) lnil)))))
  · intro k hk
    have hacc := accB_lt s p v hb k (by omega)
    refine VX_go4 (fs := []) (ok 0 _) eqs trivial 100 [] rfl trivial ?_
    by_cases hkm : k + 1 ≤ m
    · refine VX_known 100 true rfl rfl (by simp; omega) ?_
      have hn : accB s p v (k + 1) = accB s p v k * 64 + bt s (p + (k + 1)) % 64 := rfl
      have hbl := bt_lt s (p + (k + 1))
      have hacc2 := accB_lt s p v hb (k + 1) (by omega)
      rw [hn] at hacc2
      generalize accB s p v k = q at hacc hn hacc2
      have e104 : IntKind.wrap .i64 ((q : Int) * 64) = ((q * 64 : Nat) : Int) := by rw [w64 (by omega) (by omega)]; rfl
      have e108 : IntKind.wrap .i64 ((p : Int) + ((k + 1 : Nat) : Int)) = ((p + (k + 1) : Nat) : Int) := by rw [w64 (by omega) (by omega)]; rfl
      have e102 : IntKind.wrap .i64 (((k + 1 : Nat) : Int) + 1) = ((k + 1 + 1 : Nat) : Int) := by rw [w64 (by omega) (by omega)]; rfl
      refine VX_go4 (fs := []) (ok 0 _) eqs trivial 100 [109] rfl trivial ?_
      refine VX_eq 104 rfl rfl (d' := .t 3 (.e (.int (q * 64 : Nat)))) (congrArg (fun x => D.t 3 (.e (.int x))) e104) ?_
      refine VX_eq 108 rfl rfl (d' := .t 3 (.e (.int (p + (k + 1) : Nat)))) (congrArg (fun x => D.t 3 (.e (.int x))) e108) ?_
      refine VX_go4 (fs := []) (ok 0 _) eqs trivial 100 [110] rfl (by simp [allP]; omega) ?_
      refine VX_eq 109 rfl rfl (d' := .t 5 (.e (.int (bt s (p + (k + 1)))))) rfl ?_
      generalize bt s (p + (k + 1)) = b at hbl hn hacc2
      have e110 : IntKind.wrap .i64 (b : Int) = (b : Int) := w64 (by omega) (by omega)
      have e112 : IntKind.wrap .i64 (((q * 64 : Nat) : Int) + ((b % 64 : Nat) : Int)) = ((q * 64 + b % 64 : Nat) : Int) := by rw [w64 (by omega) (by omega)]; rfl
      refine VX_go4 (fs := []) (ok 0 _) eqs trivial 100 [111] rfl trivial ?_
      refine VX_eq 110 rfl rfl (d' := .t 3 (.e (.int b))) (congrArg (fun x => D.t 3 (.e (.int x))) e110) ?_
      refine VX_go4 (fs := []) (ok 0 _) eqs trivial 100 [112] rfl (by simp [allP, arithP]) ?_
      refine VX_eq 111 rfl rfl (d' := .t 3 (.e (.int (b % 64 : Nat)))) rfl ?_
      refine VX_go4 (fs := []) (ok 0 _) eqs trivial 100 [10] rfl trivial ?_
      refine VX_eq 112 rfl rfl (d' := .t 3 (.e (.int (q * 64 + b % 64 : Nat)))) (congrArg (fun x => D.t 3 (.e (.int x))) e112) ?_
      refine VX_go4 (fs := []) (ok 0 _) eqs trivial 100 [] rfl trivial ?_
      refine loop_nrm ⟨k + 1, by omega, by omega, ?_⟩
      exact wk1 rfl rfl (by simp) (lc (li (by rw [e102])) (lc (li (by rw [hn])) (lc (ls rfl rfl) (lc (ls rfl rfl) (lc (ls rfl rfl) lnil)))))
    · have hkm' : k = m := by omega
      subst hkm'
      generalize accB s p v k = q at hacc
      have e115 : IntKind.wrap .i64 ((k : Int) + 1) = ((k + 1 : Nat) : Int) := by rw [w64 (by omega) (by omega)]; rfl
      refine VX_known 100 false rfl rfl (by simp; try omega) ?_
      refine VX_go4 (fs := []) (ok 0 _) eqs trivial 100 [] rfl trivial ?_
      apply loop_brk
      refine VX_go4 (fs := []) (ok 0 _) eqs trivial 100 [4] rfl trivial ?_
      refine VX_eq 115 rfl rfl (d' := .t 3 (.e (.int (k + 1 : Nat)))) (congrArg (fun x => D.t 3 (.e (.int x))) e115) ?_
      refine VX_go4 (fs := []) (ok 0 _) eqs trivial 100 [] rfl trivial ?_
      exact ⟨.inr rfl, rfl⟩
end Go.Den.Q9d
/- Law 09: names as the reference reads them. -/
namespace Go.Den.Q9d
open Go Go.Den Go.Proofs Go.Den.Q9d.Wi
set_option maxRecDepth 8000
set_option linter.unusedVariables false
set_option linter.unusedSimpArgs false

theorem oneB_w (s : List UInt8) (p : Nat) : 1 ≤ (oneB s p).2 ∧ (oneB s p).2 ≤ 4 := by
  rcases one_rune s p with ⟨h, _⟩ | ⟨h, h2, _⟩
  · rw [← h]; exact runeAt_w s p
  · omega
theorem oneB_lt (s : List UInt8) (p : Nat) : (oneB s p).1 < 10000000 := by
  have hc := bt_lt s p
  unfold oneB
  simp only
  split
  · simp only; omega
  · split
    · simp only; omega
    · have hb : baseB (bt s p) (moreB (bt s p)) < 32 := by unfold baseB; split <;> (try split) <;> omega
      have hm3 : moreB (bt s p) ≤ 3 := by unfold moreB; split <;> (try split) <;> (try split) <;> omega
      have := accB_lt s p _ hb _ hm3
      simp only; omega
def numF (s : List UInt8) : Nat → Nat → List Nat
  | 0, _ => []
  | f + 1, pos => if pos < s.length then (oneB s pos).1 :: numF s f (pos + (oneB s pos).2) else []
def numB (s : List UInt8) : List Nat := numF s (s.length + 1) 0
def okL : List Nat → Nat → Bool
  | [], n => decide (0 < n) && decide (n ≤ 12)
  | v :: l, n => if badR v (n + 1) = true then false else okL l (n + 1)
theorem bad_big (v n : Nat) (h : 65533 ≤ v) : badR v n = true := by
  simp [badR, smallR]; omega
theorem name_okL (s : List UInt8) : ∀ (f pos n : Nat), n ≤ s.length → n ≤ pos → s.length < n + f → nameF s f pos n = okL (numF s f pos) n
  | 0, pos, n, h1, h2, h3 => by omega
  | f + 1, pos, n, h1, h2, h3 => by
    unfold nameF numF
    by_cases hp : pos < s.length
    · rw [if_pos hp, if_pos hp]
      have hw := oneB_w s pos
      rcases one_rune s pos with ⟨h1, _⟩ | ⟨h1, h2, h4⟩
      · rw [h1]
        simp only [okL]
        rw [name_okL s f (pos + (oneB s pos).2) (n + 1) (by omega) (by omega) (by omega)]
      · rw [h1]
        simp only [okL]
        rw [if_pos (bad_big _ _ (by omega)), if_pos (bad_big _ _ (by omega))]
    · rw [if_neg hp, if_neg hp]; rfl
theorem name_eq (s : List UInt8) : nameB s = okL (numB s) 0 := name_okL s _ _ _ (by omega) (by omega) (by omega)
theorem numF_len (s : List UInt8) : ∀ (f pos : Nat), pos ≤ s.length + 4 → (numF s f pos).length ≤ s.length + 4 - pos
  | 0, pos, h => by simp [numF]
  | f + 1, pos, h => by
    unfold numF
    have hw := oneB_w s pos
    split
    · have := numF_len s f (pos + (oneB s pos).2) (by omega)
      simp only [List.length_cons]; omega
    · simp
theorem numF_lt (s : List UInt8) : ∀ (f pos : Nat), ∀ v ∈ numF s f pos, v < 10000000
  | 0, pos, v, h => by simp [numF] at h
  | f + 1, pos, v, h => by
    unfold numF at h
    split at h
    · rcases List.mem_cons.1 h with rfl | h
      · exact oneB_lt s pos
      · exact numF_lt s f _ v h
    · simp at h
def nE (n : Nat) : E := .int n
theorem numbers_ok (s : List UInt8) (hs : s.length ≤ 900000) : FnOk Tryd.prog tb 35 [9] [65] [.str s] [.sl ((numB s).map nE)] := by
  refine FnOk_of_V (fn := Tryd.f35) (bt := 4) (ok 0 _) Tryd.func35 rfl rfl rfl (by decide) fun hw => ?_
  clear hw
  apply V_of_VX
  refine VX_go4 (fs := []) (ok 0 _) eqs trivial 100 [] rfl trivial ?_
  refine VX_promote 3 (u := 3) rfl rfl ?_
  refine VX_loopA (fun a : Nat × Nat × List Nat => a.2.2 ++ numF s a.1 a.2.1 = numB s ∧ a.1 + a.2.2.length = s.length + 1 ∧ a.2.2.length ≤ a.2.1 ∧ a.2.2.length ≤ s.length ∧ a.2.1 ≤ s.length + 4)
    (fun a => [(4, .t 3 (.e (.int a.2.1))), (3, .t 65 (.lsl 0 (a.2.2.map nE))), (0, .t 9 (.e (.str s)))]) (fun a => [.row 3 (a.2.2.map nE).length]) (fun a => a.1) (s.length + 1, 0, []) ⟨rfl, by simp, by simp, by simp, by simp⟩ ?_ ?_
  · exact wk1 rfl rfl (by simp [Blk.under, T.under]) (lc (ls rfl rfl) (lc (ls rfl rfl) (lc (ls rfl rfl) lnil)))
  · rintro ⟨f, pos, L⟩ ⟨h1, h2, h3, h4, h5⟩
    simp only at h1 h2 h3 h4 h5
    have hLm : (L.map nE).length = L.length := by simp
    refine VX_go4 (fs := []) (ok 0 _) eqs trivial 100 [] rfl trivial ?_
    by_cases hp : pos < s.length
    · refine VX_known 10 true rfl rfl (by simp; omega) ?_
      obtain ⟨g, rfl⟩ : ∃ g, f = g + 1 := ⟨f - 1, by omega⟩
      have c1 := (one_ok s pos hp (by omega)).g
      have hw := oneB_w s pos
      unfold numF at h1
      rw [if_pos hp] at h1
      generalize (oneB s pos).1 = v at c1 h1
      generalize (oneB s pos).2 = w at c1 h1 hw
      have e23 : IntKind.wrap .i64 ((pos : Int) + (w : Int)) = ((pos + w : Nat) : Int) := by rw [w64 (by omega) (by omega)]; rfl
      have hm : (L ++ [v]).map nE = L.map nE ++ [.int v] := by simp [nE]
      refine VX_go4 (fs := []) (ok 0 _) eqs trivial 100 [] rfl trivial ?_
      refine VX_callD (ok 0 _) [9, 3] [] rfl rfl rfl rfl rfl rfl c1 rfl rfl rfl ?_
      refine VX_go4 (fs := []) (ok 0 _) eqs trivial 100 [4] rfl (by simp [allP, nb, tb, maxL]; omega) ?_
      refine VX_eq 23 rfl rfl (d' := .t 3 (.e (.int (pos + w : Nat)))) (congrArg (fun x => D.t 3 (.e (.int x))) e23) ?_
      refine VX_go4 (fs := []) (ok 0 _) eqs trivial 100 [] rfl trivial ?_
      refine loop_nrm ⟨(g, pos + w, L ++ [v]), by simp, ⟨by rw [← h1]; simp, by simp; omega, by simp; omega, by simp; omega, by simp; omega⟩, ?_⟩
      exact wk1 (by simp only; rw [hm]) rfl (by simp [Blk.under, T.under]) (lc (ls rfl rfl) (lc (ls (by simp only; rw [hm]; rfl) rfl) (lc (ls rfl rfl) lnil)))
    · refine VX_known 10 false rfl rfl (by simp; omega) ?_
      have hn : numF s f pos = [] := by
        cases f with
        | zero => rfl
        | succ g => unfold numF; rw [if_neg hp]
      rw [hn, List.append_nil] at h1
      rw [← h1]
      refine VX_go4 (fs := []) (ok 0 _) eqs trivial 100 [] rfl trivial ?_
      apply loop_brk
      refine VX_go4 (fs := []) (ok 0 _) eqs trivial 100 [] rfl trivial ?_
      exact ⟨.inr rfl, rfl⟩

theorem nums_len (s : List UInt8) : (numB s).length ≤ s.length + 4 := by
  have := numF_len s (s.length + 1) 0 (by omega)
  simpa [numB] using this
theorem n_get {L : List Nat} {i : Nat} (h : i < L.length) : (L.map nE).getD i .nilp = .int (L.getD i 0 : Nat) := by simp [List.getD, h, nE]
set_option maxHeartbeats 1600000 in
theorem rname_ok (s : List UInt8) (hs : s.length ≤ 900000) : FnOk Tryd.prog tb 20 [9] [4] [.str s] [.bool (nameB s)] := by
  refine FnOk_of_V (fn := Tryd.f20) (bt := 4) (ok 0 _) Tryd.func20 rfl rfl rfl (by decide) fun hw => ?_
  clear hw
  have c1 := (numbers_ok s hs).g
  have hl := nums_len s
  rw [name_eq]
  generalize numB s = L at c1 hl ⊢
  have hLm : (L.map nE).length = L.length := by simp
  apply V_of_VX
  refine VX_go4 (fs := []) (ok 0 _) eqs trivial 100 [] rfl trivial ?_
  refine VX_callD (ok 0 _) [9] [] rfl rfl rfl rfl rfl rfl c1 rfl rfl rfl ?_
  refine VX_go4 (fs := []) (ok 0 _) eqs trivial 100 [] rfl trivial ?_
  refine VX_loopA (fun i : Nat => i ≤ L.length ∧ okL (L.drop i) i = okL L 0) (fun i => [(10, .t 3 (.e (.int i))), (9, .t 3 (.e (.int L.length))), (8, .t 65 (.e (.sl (L.map nE)))), (3, .t 65 (.e (.sl (L.map nE))))])
    (fun i => []) (fun i => L.length - i) 0 ⟨by omega, by simp⟩ ?_ ?_
  · exact wk1 rfl rfl (by simp) (lc (ls rfl rfl) (lc (li (by rw [hLm])) (lc (ls rfl rfl) (lc (ls rfl rfl) lnil))))
  · rintro i ⟨hi, hpq⟩
    refine VX_go4 (fs := []) (ok 0 _) eqs trivial 100 [] rfl trivial ?_
    refine VX_split 11 rfl rfl (fun h => ?_) (fun h => ?_)
    · have hi : i < L.length := by simpa using h
      have ei : IntKind.wrap .i64 ((i : Int) + 1) = ((i + 1 : Nat) : Int) := by rw [w64 (by omega) (by omega)]; simp
      have hg := n_get hi
      have hd1 : L.drop i = L.getD i 0 :: L.drop (i + 1) := by rw [List.drop_eq_getElem_cons hi]; simp [List.getD, hi]
      rw [hd1] at hpq
      simp only [okL] at hpq
      generalize L.getD i 0 = v at hg hpq
      have go : badR v (i + 1) = false → okL (L.drop (i + 1)) (i + 1) = okL L 0 := fun hb => by rw [hb] at hpq; simpa using hpq
      have stop : badR v (i + 1) = true → okL L 0 = false := fun hb => by rw [hb] at hpq; simpa using hpq.symm
      have c2 := (rsmall_ok v).g
      refine VX_go4 (fs := []) (ok 0 _) eqs trivial 100 [5] rfl (by simp [allP]; omega) ?_
      refine VX_eq 14 rfl rfl (d' := .t 3 (.e (.int v))) (congrArg (fun x => D.t 3 (.e x)) hg) ?_
      refine VX_go4 (fs := []) (ok 0 _) eqs trivial 100 [] rfl trivial ?_
      refine VX_callD (ok 0 _) [3] [] rfl rfl rfl rfl rfl rfl c2 rfl rfl rfl ?_
      refine VX_go4 (fs := []) (ok 0 _) eqs trivial 100 [] rfl trivial ?_
      cases hsm : smallR v with
      | true =>
        refine VX_known 18 false rfl rfl rfl ?_
        refine VX_go4 (fs := []) (ok 0 _) eqs trivial 100 [] rfl trivial ?_
        refine loop_nrm ⟨i + 1, by omega, ⟨by omega, go (by simp [badR, hsm])⟩, ?_⟩
        exact wk1 rfl rfl (by simp) (lc (li (by rw [ei])) (lc (ls rfl rfl) (lc (ls rfl rfl) (lc (ls rfl rfl) lnil))))
      | false =>
        refine VX_known 18 true rfl rfl rfl ?_
        refine VX_go4 (fs := []) (ok 0 _) eqs trivial 100 [] rfl trivial ?_
        by_cases h0 : i = 0
        · refine VX_known 21 true rfl rfl (by simp; omega) ?_
          rw [stop (by simp [badR, hsm, h0])]
          refine VX_go4 (fs := []) (ok 0 _) eqs trivial 100 [] rfl trivial ?_
          apply loop_ret
          exact ⟨.inr rfl, rfl⟩
        · refine VX_known 21 false rfl rfl (by simp; omega) ?_
          refine VX_go4 (fs := []) (ok 0 _) eqs trivial 100 [] rfl trivial ?_
          by_cases h1 : v < 48
          · refine VX_known 25 true rfl rfl (by simp; omega) ?_
            rw [stop (by simp [badR, hsm, h1])]
            refine VX_go4 (fs := []) (ok 0 _) eqs trivial 100 [] rfl trivial ?_
            apply loop_ret
            exact ⟨.inr rfl, rfl⟩
          · refine VX_known 25 false rfl rfl (by simp; omega) ?_
            refine VX_go4 (fs := []) (ok 0 _) eqs trivial 100 [] rfl trivial ?_
            by_cases h2 : 57 < v
            · refine VX_known 29 true rfl rfl (by simp; omega) ?_
              rw [stop (by simp [badR, hsm, h2])]
              refine VX_go4 (fs := []) (ok 0 _) eqs trivial 100 [] rfl trivial ?_
              apply loop_ret
              exact ⟨.inr rfl, rfl⟩
            · refine VX_known 29 false rfl rfl (by simp; omega) ?_
              refine VX_go4 (fs := []) (ok 0 _) eqs trivial 100 [] rfl trivial ?_
              refine loop_nrm ⟨i + 1, by omega, ⟨by omega, go (by simp [badR, hsm, h1, h2]; omega)⟩, ?_⟩
              exact wk1 rfl rfl (by simp) (lc (li (by rw [ei])) (lc (ls rfl rfl) (lc (ls rfl rfl) (lc (ls rfl rfl) lnil))))
    · have hi' : i = L.length := by simp at h; omega
      subst hi'
      rw [List.drop_length] at hpq
      rw [← hpq]
      simp only [okL]
      refine VX_go4 (fs := []) (ok 0 _) eqs trivial 100 [] rfl trivial ?_
      apply loop_brk
      refine VX_go4 (fs := []) (ok 0 _) eqs trivial 100 [] rfl trivial ?_
      by_cases h0 : 0 < L.length
      · refine VX_known 34 true rfl rfl (by simp; omega) ?_
        rw [decide_eq_true h0, Bool.true_and]
        refine VX_go4 (fs := []) (ok 0 _) eqs trivial 100 [] rfl trivial ?_
        have : decide (L.length ≤ 12) = decide ((((L.map nE).length : Nat) : Int) ≤ 12) := by rw [hLm, decide_eq_decide]; omega
        rw [this]
        exact ⟨.inr rfl, rfl⟩
      · refine VX_known 34 false rfl rfl (by simp; omega) ?_
        rw [decide_eq_false h0, Bool.false_and]
        refine VX_go4 (fs := []) (ok 0 _) eqs trivial 100 [] rfl trivial ?_
        exact ⟨.inr rfl, rfl⟩
end Go.Den.Q9d
