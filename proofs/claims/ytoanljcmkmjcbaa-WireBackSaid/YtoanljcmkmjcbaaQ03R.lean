/- Law 03: a reader. -/
import Derived.Test.YtoanljcmkmjcbaaQ03N
namespace Go.Den.Q03
open Go Go.Den Go.Proofs
set_option maxRecDepth 8000
set_option linter.unusedVariables false

/-! ### the plain reader -/
def takeB (s : List UInt8) (e : Int) (n : Nat) : List UInt8 × List UInt8 × Int :=
  if e = 0 then if s.length < n then ([], s, 3) else (s.take n, s.drop n, 0) else ([], s, e)
def failB (e f : Int) : Int := if e = 0 then f else e
def numV (l : List UInt8) : Nat := l.foldl (fun n c => n * 256 + c.toNat) 0
theorem numV_snoc (l : List UInt8) (c : UInt8) : numV (l ++ [c]) = numV l * 256 + c.toNat := by simp [numV]
theorem numV_lt : ∀ (n : Nat) (l : List UInt8), l.length = n → numV l < 256 ^ n
  | 0, l, h => by have : l = [] := List.length_eq_zero_iff.1 h; subst this; simp [numV]
  | n + 1, l, h => by
    have hne : l ≠ [] := by intro e; rw [e] at h; simp at h
    obtain ⟨m, c, rfl⟩ : ∃ m c, l = m ++ [c] := ⟨l.dropLast, l.getLast hne, (List.dropLast_concat_getLast hne).symm⟩
    have ih := numV_lt n m (by simpa using h)
    rw [numV_snoc, Nat.pow_succ]
    have := c.toNat_lt
    have : numV m + 1 ≤ 256 ^ n := ih
    have h2 := Nat.mul_le_mul_right 256 this
    omega
theorem bigB_succ (n k : Nat) : bigB n (k + 1) = bigB (n / 256) k ++ [UInt8.ofNat (n % 256)] := by
  unfold bigB
  rw [List.range_succ, List.map_append]
  congr 1
  · apply List.map_congr_left
    intro i hi
    have hi : i < k := by simpa using hi
    rw [show k + 1 - 1 - i = (k - 1 - i) + 1 by omega, Nat.pow_succ, Nat.mul_comm, ← Nat.div_div_eq_div_mul]
  · simp
theorem bigB_numV : ∀ (k : Nat) (l : List UInt8), l.length = k → bigB (numV l) k = l
  | 0, l, h => by have : l = [] := List.length_eq_zero_iff.1 h; subst this; rfl
  | k + 1, l, h => by
    have hne : l ≠ [] := by intro e; rw [e] at h; simp at h
    obtain ⟨m, c, rfl⟩ : ∃ m c, l = m ++ [c] := ⟨l.dropLast, l.getLast hne, (List.dropLast_concat_getLast hne).symm⟩
    have hc := c.toNat_lt
    rw [numV_snoc, bigB_succ, show (numV m * 256 + c.toNat) / 256 = numV m by omega, show (numV m * 256 + c.toNat) % 256 = c.toNat by omega, bigB_numV k m (by simpa using h)]
    simp
theorem numV_bigB : ∀ (k n : Nat), n < 256 ^ k → numV (bigB n k) = n
  | 0, n, h => by have : n = 0 := by simpa using h
                  subst this; rfl
  | k + 1, n, h => by
    rw [bigB_succ, numV_snoc, numV_bigB k (n / 256) (by rw [Nat.pow_succ] at h; exact Nat.div_lt_of_lt_mul (by rw [Nat.mul_comm]; exact h))]
    have : (UInt8.ofNat (n % 256)).toNat = n % 256 := by simp [UInt8.toNat_ofNat']
    rw [this]; omega
theorem or_byte (n c : Nat) (hn : n < 72057594037927936) (hc : c < 256) : bitop .or .u64 ((n * 256 : Nat) : Int) (c : Int) = ((n * 256 + c : Nat) : Int) := by
  have h1 : BitVec.ofInt 64 ((n * 256 : Nat) : Int) = BitVec.ofNat 64 (n * 256) := BitVec.ofInt_natCast _ _
  have h2 : BitVec.ofInt 64 (c : Int) = BitVec.ofNat 64 c := BitVec.ofInt_natCast _ _
  have h3 : (BitVec.ofNat 64 (n * 256) ||| BitVec.ofNat 64 c).toNat = n * 256 + c := by
    rw [BitVec.toNat_or, BitVec.toNat_ofNat, BitVec.toNat_ofNat, Nat.mod_eq_of_lt (by omega), Nat.mod_eq_of_lt (by omega)]
    have := Nat.shiftLeft_add_eq_or_of_lt (a := n) (b := c) (i := 8) (by omega)
    rw [Nat.shiftLeft_eq] at this
    exact this.symm
  show IntKind.wrap .u64 ((BitVec.ofInt 64 _ ||| BitVec.ofInt 64 _).toNat : Int) = _
  rw [h1, h2, h3]
  exact inR_wrap (by simp [inR]; omega)
theorem takeB_len (s : List UInt8) (e : Int) (n : Nat) : (takeB s e n).1.length ≤ n := by
  unfold takeB; split
  · split
    · simp
    · simp; omega
  · simp

/-! ### the functions -/
def rd (s : List UInt8) (e : Int) : Blk := .tree 68 (.e (.agg [.str s, .int e]))

theorem take_ok (s : List UInt8) (e : Int) (n : Nat) : FnG Try.prog tb 38 [rd s e] [.ptr 0 [], .t 3 (.e (.int n))] (fun d t => d = .t 9 (.e (.str (takeB s e n).1)) ∧ t = [rd (takeB s e n).2.1 (takeB s e n).2.2]) := by
  refine FnG_of_V (fn := Try.f38) (bt := 4) false [] [9] (ok 1 _) Try.func38 rfl rfl rfl fun _ _ _ _ _ _ => ?_
  apply V_of_VX
  refine VX_go3 (fs := []) (ok 1 _) eqs trivial 100 [] rfl trivial ?_
  refine VX_split 6 rfl rfl (fun h => ?_) (fun h => ?_)
  · have he : e ≠ 0 := by simpa using h
    refine VX_go3 (fs := []) (ok 1 _) eqs trivial 100 [] rfl trivial ?_
    refine ⟨.inr rfl, _, _, _, rfl, rfl, rfl, ?_⟩
    simp only [takeB, if_neg he]; exact ⟨rfl, rfl⟩
  · have he : e = 0 := by simpa using h
    subst he
    refine VX_go3 (fs := []) (ok 1 _) eqs trivial 100 [] rfl trivial ?_
    refine VX_split 16 rfl rfl (fun h => ?_) (fun h => ?_)
    · have hn : s.length < n := by simpa using h
      refine VX_go3 (fs := []) (ok 1 _) eqs trivial 100 [] rfl trivial ?_
      refine ⟨.inr rfl, _, _, _, rfl, rfl, rfl, ?_⟩
      simp only [takeB, if_pos hn]; exact ⟨rfl, rfl⟩
    · have hn : ¬ s.length < n := by simpa using h
      refine VX_go3 (fs := []) (ok 1 _) eqs trivial 100 [] rfl ?_ ?_
      · simp only [allP]; omega
      refine ⟨.inr rfl, _, _, _, rfl, rfl, rfl, ?_⟩
      simp only [takeB, if_neg hn, if_true]
      constructor
      · show D.t 9 (.e (.str ((s.take n).drop 0))) = _; rfl
      · show [Blk.tree 68 (.e (.agg [.str ((s.take s.length).drop n), .int 0]))] = _
        rw [List.take_length]; rfl

theorem fail_ok (s : List UInt8) (e f : Int) : FnG Try.prog tb 21 [rd s e] [.ptr 0 [], .t 42 (.e (.int f))] (fun d t => d = .tup [] ∧ t = [rd s (failB e f)]) := by
  refine FnG_of_V (fn := Try.f21) (bt := 4) false [] [] (ok 1 _) Try.func21 rfl rfl rfl fun _ _ _ _ _ _ => ?_
  apply V_of_VX
  refine VX_go3 (fs := []) (ok 1 _) eqs trivial 100 [12] rfl trivial ?_
  refine VX_split 11 rfl rfl (fun h => ?_) (fun h => ?_)
  · have he : e = 0 := by simpa using h
    refine VX_go3 (fs := []) (ok 1 _) eqs trivial 100 [] rfl trivial ?_
    refine ⟨.inl rfl, _, _, _, rfl, rfl, rfl, ?_⟩
    simp only [failB, if_pos he]; exact ⟨rfl, rfl⟩
  · have he : e ≠ 0 := by simpa using h
    refine VX_go3 (fs := []) (ok 1 _) eqs trivial 100 [] rfl trivial ?_
    refine ⟨.inl rfl, _, _, _, rfl, rfl, rfl, ?_⟩
    simp only [failB, if_neg he]; exact ⟨rfl, rfl⟩

theorem getD_byte {l : List UInt8} {i : Nat} (h : i < l.length) : (l.map byteE).getD i .nilp = .int (l[i].toNat : Nat) := by simp [List.getD, h, byteE]

theorem number_ok (s : List UInt8) (e : Int) (k : Nat) (hk : k ≤ 8) : FnG Try.prog tb 37 [rd s e] [.ptr 0 [], .t 3 (.e (.int k))] (fun d t => d = .t 22 (.e (.int (numV (takeB s e k).1))) ∧ t = [rd (takeB s e k).2.1 (takeB s e k).2.2]) := by
  refine FnG_of_V (fn := Try.f37) (bt := 4) false [] [22] (ok 1 _) Try.func37 rfl rfl rfl fun _ _ _ _ _ _ => ?_
  apply V_of_VX
  refine VX_go3 (fs := []) (ok 1 _) eqs trivial 100 [] rfl trivial ?_
  refine VX_callD (ok 1 _) [40, 3] [0] rfl rfl rfl rfl rfl rfl (take_ok s e k) rfl rfl rfl ?_
  have hlen := takeB_len s e k
  generalize (takeB s e k).1 = l at hlen ⊢
  generalize (takeB s e k).2.1 = s'
  generalize (takeB s e k).2.2 = e'
  refine VX_op rfl rfl (OpV_bytes (ok 1 _) rfl rfl rfl rfl rfl rfl) ?_
  rintro d σ ⟨rfl, rfl⟩
  refine VX_go3 (fs := []) (ok 1 _) eqs trivial 100 [] rfl trivial ?_
  refine VX_loopA (fun i : Nat => i ≤ l.length) (fun i => [(13, .t 3 (.e (.int i))), (12, .t 3 (.e (.int l.length))), (11, .t 57 (.e (.sl (l.map byteE)))), (5, .t 22 (.e (.int (numV (l.take i)))))]) (fun _ => [rd s' e']) (fun i => l.length - i) 0 (by omega) ?_ ?_
  · exact wk1 rfl rfl (by simp [rd, Blk.under, T.under]) (lc (ls rfl rfl) (lc (li (by simp)) (lc (ls rfl rfl) (lc (ls rfl rfl) lnil))))
  · intro i hi
    refine VX_go3 (fs := []) (ok 1 _) eqs trivial 100 [] rfl trivial ?_
    refine VX_split 14 rfl rfl (fun h => ?_) (fun h => ?_)
    · have hi : i < l.length := by simpa using h
      refine VX_go3 (fs := []) (ok 1 _) eqs trivial 100 [7] rfl ?_ ?_
      · simp [allP]; omega
      refine VX_eq 16 rfl rfl (d' := .t 5 (.e (.int (l[i].toNat : Nat)))) (congrArg (fun x => D.t 5 (.e x)) (getD_byte hi)) ?_
      have hb := l[i].toNat_lt
      have hv : numV (l.take i) < 256 ^ i := numV_lt i _ (by simp; omega)
      have hv7 : numV (l.take i) < 72057594037927936 := by
        have : (256 : Nat) ^ i ≤ 256 ^ 7 := Nat.pow_le_pow_right (by omega) (by omega)
        have h7 : (256 : Nat) ^ 7 = 72057594037927936 := by decide
        omega
      have hsucc : numV (l.take (i + 1)) = numV (l.take i) * 256 + l[i].toNat := by
        rw [List.take_add_one, List.getElem?_eq_getElem hi]; exact numV_snoc _ _
      have e1 : IntKind.wrap .u64 ((numV (l.take i) : Int) * 2 ^ (min (Int.toNat 8) IntKind.u64.bits)) = ((numV (l.take i) * 256 : Nat) : Int) := by
        have : (2 : Int) ^ (min (Int.toNat 8) IntKind.u64.bits) = 256 := by decide
        rw [this, inR_wrap (by simp [inR]; omega)]; norm_cast
      have e2 : IntKind.wrap .u64 ((l[i].toNat : Nat) : Int) = ((l[i].toNat : Nat) : Int) := inR_wrap (by simp [inR]; omega)
      refine VX_go3 (fs := []) (ok 1 _) eqs trivial 100 [21] rfl (by simp [allP, arithP]) ?_
      refine VX_eq 18 rfl rfl (d' := .t 22 (.e (.int ((numV (l.take i) * 256 : Nat) : Int)))) (congrArg (fun x => D.t 22 (T.e (E.int x))) e1) ?_
      refine VX_eq 20 rfl rfl (d' := .t 22 (.e (.int ((l[i].toNat : Nat) : Int)))) (congrArg (fun x => D.t 22 (T.e (E.int x))) e2) ?_
      refine VX_go3 (fs := []) (ok 1 _) eqs trivial 100 [] rfl trivial ?_
      refine loop_nrm ⟨i + 1, by omega, by omega, ?_⟩
      refine wk1 rfl rfl (by simp [rd, Blk.under, T.under]) (lc (li ?_) (lc (ls rfl rfl) (lc (ls rfl rfl) (lc (li ?_) lnil))))
      · rw [w64 (by omega) (by omega)]; simp
      · rw [hsucc, ← or_byte _ _ hv7 hb]
    · have : i = l.length := by simp at h; omega
      subst this
      refine VX_go3 (fs := []) (ok 1 _) eqs trivial 100 [] rfl trivial ?_
      apply loop_brk
      refine VX_go3 (fs := []) (ok 1 _) eqs trivial 100 [] rfl trivial ?_
      refine ⟨.inr rfl, _, _, _, rfl, rfl, rfl, ?_⟩
      rw [List.take_length]; exact ⟨rfl, rfl⟩
end Go.Den.Q03
