/- Law 09: the reader and the writers. -/
import Derived.Test.YtegmgnhafbagaaaQ09Tb
namespace Go.Den.Q09
open Go Go.Den Go.Proofs
set_option maxRecDepth 8000
set_option linter.unusedVariables false

/-- A number in so many bytes. -/
def bigB (n k : Nat) : List UInt8 := (List.range k).map fun i => UInt8.ofNat (n / 256 ^ (k - 1 - i) % 256)

theorem bigB_length (n k : Nat) : (bigB n k).length = k := by simp [bigB]

def bigE (n k i : Nat) : E := .int ((n / 256 ^ (k - 1 - i) % 256 : Nat) : Int)

/-- The array when i bytes of it are laid, from the front. -/
def fr (n k i : Nat) : List E := (List.range i).map (bigE n k) ++ List.replicate (8 - i) (.int 0)

theorem fr_set (n k i : Nat) (h : i < 8) : (fr n k i).set i (bigE n k i) = fr n k (i + 1) := by
  unfold fr
  rw [List.set_append_right _ _ (by simp)]
  obtain ⟨m, hm⟩ : ∃ m, 8 - i = m + 1 := ⟨8 - i - 1, by omega⟩
  have hm' : 8 - (i + 1) = m := by omega
  simp [hm, hm', List.replicate_succ, List.range_succ]

theorem byteOf_bigE (n k i : Nat) : byteOf (bigE n k i) = UInt8.ofNat (n / 256 ^ (k - 1 - i) % 256) := by
  show UInt8.ofNat (Int.toNat ((n / 256 ^ (k - 1 - i) % 256 : Nat) : Int)) = _
  rw [Int.toNat_natCast]

theorem fr_done (n k : Nat) (h : k ≤ 8) : (((fr n k k).drop 0).take k).map byteOf = bigB n k := by
  unfold fr
  rw [List.drop_zero, List.take_left' (by simp)]
  simp [bigB, List.map_map, Function.comp_def, byteOf_bigE]

theorem shr_byte (n k i : Nat) (hi : i < k) (hk : k ≤ 8) (hn : n < 18446744073709551616) : IntKind.wrap .u8 ((n : Int).fdiv (2 ^ (min (IntKind.wrap .i64 (8 * IntKind.wrap .i64 (IntKind.wrap .i64 ((k : Int) - 1) - (i : Int)))).toNat IntKind.u64.bits))) = ((n / 256 ^ (k - 1 - i) % 256 : Nat) : Int) := by
  rw [w64 (a := (k : Int) - 1) (by omega) (by omega), w64 (a := (k : Int) - 1 - i) (by omega) (by omega), w64 (by omega) (by omega)]
  have h1 : (8 * ((k : Int) - 1 - (i : Int))).toNat = 8 * (k - 1 - i) := by omega
  rw [h1]
  have h2 : min (8 * (k - 1 - i)) IntKind.u64.bits = 8 * (k - 1 - i) := by simp [IntKind.bits]; omega
  rw [h2]
  have h3 : (2 : Int) ^ (8 * (k - 1 - i)) = ((256 ^ (k - 1 - i) : Nat) : Int) := by
    rw [Int.pow_mul]; simp
  rw [h3, Int.fdiv_eq_ediv_of_nonneg _ (Int.natCast_nonneg _)]
  rw [wrap_eq]; simp only []
  norm_cast

theorem big_ok (n k : Nat) (hk : 1 ≤ k) (hk8 : k ≤ 8) (hn : n < 18446744073709551616) : FnOk Try.prog tb 22 [45, 3] [9] [.int n, .int k] [.str (bigB n k)] := by
  refine FnOk_of_V (fn := Try.f22) (bt := 4) (ok 0 _) Try.func22 rfl rfl rfl (by decide) fun hw => ?_
  apply V_of_VX
  refine VX_go3 (fs := []) (ok 0 _) eqs trivial 100 [] rfl trivial ?_
  refine VX_loopA (fun i : Nat => i ≤ k) (fun i => [(8, .t 3 (.e (.int i))), (7, .t 3 (.e (.int k))), (1, .t 3 (.e (.int k))), (0, .t 45 (.e (.int n))), (5, .ptr 0 [])]) (fun i => [.tree 53 (.e (.agg (fr n k i)))]) (fun i => k - i) 0 (by omega) ?_ ?_
  · exact wk1 rfl rfl (by simp [Blk.under, T.under]) (lc (ls rfl rfl) (lc (ls rfl rfl) (lc (ls rfl rfl) (lc (ls rfl rfl) (lc (ls rfl rfl) lnil)))))
  · intro i hi
    refine VX_go3 (fs := []) (ok 0 _) eqs trivial 100 [] rfl trivial ?_
    refine VX_split 9 rfl rfl (fun h => ?_) (fun h => ?_)
    · have hi : i < k := by simpa using h
      refine VX_go3 (fs := []) (ok 0 _) eqs trivial 100 [] rfl ?_ ?_
      · refine ⟨by omega, ?_⟩
        show 0 ≤ IntKind.i64.wrap _
        rw [w64 (a := (k : Int) - 1) (by omega) (by omega), w64 (a := (k : Int) - 1 - i) (by omega) (by omega), w64 (by omega) (by omega)]
        omega
      refine loop_nrm ⟨i + 1, by omega, by omega, ?_⟩
      refine wk1 ?_ rfl (by simp [Blk.under, T.under]) (lc (li ?_) (lc (ls rfl rfl) (lc (ls rfl rfl) (lc (ls rfl rfl) (lc (ls rfl rfl) lnil)))))
      · show [Blk.tree 53 (.e (.agg ((fr n k i).set _ (.int _))))] = _
        rw [shr_byte n k i hi hk8 hn, ← fr_set n k i (by omega)]; rfl
      · rw [w64 (by omega) (by omega)]; simp
    · have : i = k := by simp at h; omega
      subst this
      refine VX_go3 (fs := []) (ok 0 _) eqs trivial 100 [] rfl trivial ?_
      apply loop_brk
      refine VX_go3 (fs := []) (ok 0 _) eqs trivial 100 [] rfl ?_ ?_
      · simp [allP]; omega
      refine ⟨.inr rfl, ?_⟩
      rw [← fr_done n i hk8]; rfl

theorem word_ok (n : Nat) (hn : n < 4294967296) : FnOk Try.prog tb 16 [22] [9] [.int n] [.str (bigB n 4)] := by
  refine FnOk_of_V (fn := Try.f16) (bt := 4) (ok 0 _) Try.func16 rfl rfl rfl (by decide) fun hw => ?_
  apply V_of_VX
  refine VX_go3 (fs := []) (ok 0 _) eqs trivial 100 [] rfl trivial ?_
  have e : IntKind.wrap .u64 (n : Int) = n := inR_wrap (by simp [inR]; omega)
  refine VX_eq 4 rfl rfl (d' := .t 45 (.e (.int n))) (by rw [e]; rfl) ?_
  refine VX_callD (ok 0 _) [45, 3] [] rfl rfl rfl rfl rfl rfl (big_ok n 4 (by omega) (by omega) (by omega)).g rfl rfl rfl ?_
  refine VX_go3 (fs := []) (ok 0 _) eqs trivial 100 [] rfl trivial ?_
  exact ⟨.inr rfl, rfl⟩

def textB (s : List UInt8) : List UInt8 := bigB s.length 4 ++ s

theorem text_ok (s : List UInt8) (hs : s.length ≤ 20000) : FnOk Try.prog tb 17 [9] [9] [.str s] [.str (textB s)] := by
  refine FnOk_of_V (fn := Try.f17) (bt := 4) (ok 0 _) Try.func17 rfl rfl rfl (by decide) fun hw => ?_
  apply V_of_VX
  refine VX_go3 (fs := []) (ok 0 _) eqs trivial 100 [] rfl trivial ?_
  have e : IntKind.wrap .u32 (s.length : Int) = s.length := inR_wrap (by simp [inR]; omega)
  refine VX_eq 5 rfl rfl (d' := .t 22 (.e (.int s.length))) (by rw [e]; rfl) ?_
  refine VX_callD (ok 0 _) [22] [] rfl rfl rfl rfl rfl rfl (word_ok s.length (by omega)).g rfl rfl rfl ?_
  refine VX_go3 (fs := []) (ok 0 _) eqs trivial 100 [] rfl ?_ ?_
  · simp [allP, bigB_length, maxI]; omega
  exact ⟨.inr rfl, rfl⟩

def takeB (s : List UInt8) (e : Int) (n : Nat) : List UInt8 × List UInt8 × Int :=
  if e = 0 then if s.length < n then ([], s, 3) else (s.take n, s.drop n, 0) else ([], s, e)

def failB (e f : Int) : Int := if e = 0 then f else e

def numV (l : List UInt8) : Nat := l.foldl (fun n c => n * 256 + c.toNat) 0

theorem numV_snoc (l : List UInt8) (c : UInt8) : numV (l ++ [c]) = numV l * 256 + c.toNat := by simp [numV]

theorem numV_lt : ∀ (n : Nat) (l : List UInt8), l.length = n → numV l < 256 ^ n
  | 0, l, h => by have : l = [] := List.length_eq_zero_iff.1 h; subst this; simp [numV]
  | n + 1, l, h => by
    have hne : l ≠ [] := by intro e; rw [e] at h; simp at h
    obtain ⟨m, c, rfl⟩ : ∃ m c, l = m ++ [c] := ⟨l.dropLast, l.getLast hne, (List.dropLast_concat_getLast hne).symm⟩
    have ih := numV_lt n m (by simpa using h)
    rw [numV_snoc, Nat.pow_succ]
    have := c.toNat_lt
    have : numV m + 1 ≤ 256 ^ n := ih
    have h2 := Nat.mul_le_mul_right 256 this
    omega

theorem bigB_succ (n k : Nat) : bigB n (k + 1) = bigB (n / 256) k ++ [UInt8.ofNat (n % 256)] := by
  unfold bigB
  rw [List.range_succ, List.map_append]
  congr 1
  · apply List.map_congr_left
    intro i hi
    have hi : i < k := by simpa using hi
    rw [show k + 1 - 1 - i = (k - 1 - i) + 1 by omega, Nat.pow_succ, Nat.mul_comm, ← Nat.div_div_eq_div_mul]
  · simp

theorem bigB_numV : ∀ (k : Nat) (l : List UInt8), l.length = k → bigB (numV l) k = l
  | 0, l, h => by have : l = [] := List.length_eq_zero_iff.1 h; subst this; rfl
  | k + 1, l, h => by
    have hne : l ≠ [] := by intro e; rw [e] at h; simp at h
    obtain ⟨m, c, rfl⟩ : ∃ m c, l = m ++ [c] := ⟨l.dropLast, l.getLast hne, (List.dropLast_concat_getLast hne).symm⟩
    have hc := c.toNat_lt
    rw [numV_snoc, bigB_succ, show (numV m * 256 + c.toNat) / 256 = numV m by omega, show (numV m * 256 + c.toNat) % 256 = c.toNat by omega, bigB_numV k m (by simpa using h)]
    simp

theorem numV_bigB : ∀ (k n : Nat), n < 256 ^ k → numV (bigB n k) = n
  | 0, n, h => by have : n = 0 := by simpa using h
                  subst this; rfl
  | k + 1, n, h => by
    rw [bigB_succ, numV_snoc, numV_bigB k (n / 256) (by rw [Nat.pow_succ] at h; exact Nat.div_lt_of_lt_mul (by rw [Nat.mul_comm]; exact h))]
    have : (UInt8.ofNat (n % 256)).toNat = n % 256 := by simp [UInt8.toNat_ofNat']
    rw [this]; omega

theorem or_byte (n c : Nat) (hn : n < 72057594037927936) (hc : c < 256) : bitop .or .u64 ((n * 256 : Nat) : Int) (c : Int) = ((n * 256 + c : Nat) : Int) := by
  have h1 : BitVec.ofInt 64 ((n * 256 : Nat) : Int) = BitVec.ofNat 64 (n * 256) := BitVec.ofInt_natCast _ _
  have h2 : BitVec.ofInt 64 (c : Int) = BitVec.ofNat 64 c := BitVec.ofInt_natCast _ _
  have h3 : (BitVec.ofNat 64 (n * 256) ||| BitVec.ofNat 64 c).toNat = n * 256 + c := by
    rw [BitVec.toNat_or, BitVec.toNat_ofNat, BitVec.toNat_ofNat, Nat.mod_eq_of_lt (by omega), Nat.mod_eq_of_lt (by omega)]
    have := Nat.shiftLeft_add_eq_or_of_lt (a := n) (b := c) (i := 8) (by omega)
    rw [Nat.shiftLeft_eq] at this
    exact this.symm
  show IntKind.wrap .u64 ((BitVec.ofInt 64 _ ||| BitVec.ofInt 64 _).toNat : Int) = _
  rw [h1, h2, h3]
  exact inR_wrap (by simp [inR]; omega)

theorem takeB_len (s : List UInt8) (e : Int) (n : Nat) : (takeB s e n).1.length ≤ n := by
  unfold takeB; split
  · split
    · simp
    · simp; omega
  · simp

def rd (s : List UInt8) (e : Int) : Blk := .tree 44 (.e (.agg [.str s, .int e]))

theorem take_ok (s : List UInt8) (e : Int) (n : Nat) : FnG Try.prog tb 19 [rd s e] [.ptr 0 [], .t 3 (.e (.int n))] (fun d t => d = .t 9 (.e (.str (takeB s e n).1)) ∧ t = [rd (takeB s e n).2.1 (takeB s e n).2.2]) := by
  refine FnG_of_V (fn := Try.f19) (bt := 4) false [] [9] (ok 1 _) Try.func19 rfl rfl rfl fun _ _ _ _ _ _ => ?_
  apply V_of_VX
  refine VX_go3 (fs := []) (ok 1 _) eqs trivial 100 [] rfl trivial ?_
  refine VX_split 6 rfl rfl (fun h => ?_) (fun h => ?_)
  · have he : e ≠ 0 := by simpa using h
    refine VX_go3 (fs := []) (ok 1 _) eqs trivial 100 [] rfl trivial ?_
    refine ⟨.inr rfl, _, _, _, rfl, rfl, rfl, ?_⟩
    simp only [takeB, if_neg he]; exact ⟨rfl, rfl⟩
  · have he : e = 0 := by simpa using h
    subst he
    refine VX_go3 (fs := []) (ok 1 _) eqs trivial 100 [] rfl trivial ?_
    refine VX_split 16 rfl rfl (fun h => ?_) (fun h => ?_)
    · have hn : s.length < n := by simpa using h
      refine VX_go3 (fs := []) (ok 1 _) eqs trivial 100 [] rfl trivial ?_
      refine ⟨.inr rfl, _, _, _, rfl, rfl, rfl, ?_⟩
      simp only [takeB, if_pos hn]; exact ⟨rfl, rfl⟩
    · have hn : ¬ s.length < n := by simpa using h
      refine VX_go3 (fs := []) (ok 1 _) eqs trivial 100 [] rfl ?_ ?_
      · simp only [allP]; omega
      refine ⟨.inr rfl, _, _, _, rfl, rfl, rfl, ?_⟩
      simp only [takeB, if_neg hn, if_true]
      constructor
      · show D.t 9 (.e (.str ((s.take n).drop 0))) = _; rfl
      · show [Blk.tree 44 (.e (.agg [.str ((s.take s.length).drop n), .int 0]))] = _
        rw [List.take_length]; rfl

theorem fail_ok (s : List UInt8) (e f : Int) : FnG Try.prog tb 23 [rd s e] [.ptr 0 [], .t 27 (.e (.int f))] (fun d t => d = .tup [] ∧ t = [rd s (failB e f)]) := by
  refine FnG_of_V (fn := Try.f23) (bt := 4) false [] [] (ok 1 _) Try.func23 rfl rfl rfl fun _ _ _ _ _ _ => ?_
  apply V_of_VX
  refine VX_go3 (fs := []) (ok 1 _) eqs trivial 100 [12] rfl trivial ?_
  refine VX_split 11 rfl rfl (fun h => ?_) (fun h => ?_)
  · have he : e = 0 := by simpa using h
    refine VX_go3 (fs := []) (ok 1 _) eqs trivial 100 [] rfl trivial ?_
    refine ⟨.inl rfl, _, _, _, rfl, rfl, rfl, ?_⟩
    simp only [failB, if_pos he]; exact ⟨rfl, rfl⟩
  · have he : e ≠ 0 := by simpa using h
    refine VX_go3 (fs := []) (ok 1 _) eqs trivial 100 [] rfl trivial ?_
    refine ⟨.inl rfl, _, _, _, rfl, rfl, rfl, ?_⟩
    simp only [failB, if_neg he]; exact ⟨rfl, rfl⟩

theorem getD_byte {l : List UInt8} {i : Nat} (h : i < l.length) : (l.map byteE).getD i .nilp = .int (l[i].toNat : Nat) := by simp [List.getD, h, byteE]

theorem number_ok (s : List UInt8) (e : Int) (k : Nat) (hk : k ≤ 8) : FnG Try.prog tb 18 [rd s e] [.ptr 0 [], .t 3 (.e (.int k))] (fun d t => d = .t 45 (.e (.int (numV (takeB s e k).1))) ∧ t = [rd (takeB s e k).2.1 (takeB s e k).2.2]) := by
  refine FnG_of_V (fn := Try.f18) (bt := 4) false [] [45] (ok 1 _) Try.func18 rfl rfl rfl fun _ _ _ _ _ _ => ?_
  apply V_of_VX
  refine VX_go3 (fs := []) (ok 1 _) eqs trivial 100 [] rfl trivial ?_
  refine VX_callD (ok 1 _) [35, 3] [0] rfl rfl rfl rfl rfl rfl (take_ok s e k) rfl rfl rfl ?_
  have hlen := takeB_len s e k
  generalize (takeB s e k).1 = l at hlen ⊢
  generalize (takeB s e k).2.1 = s'
  generalize (takeB s e k).2.2 = e'
  refine VX_op rfl rfl (OpV_bytes (ok 1 _) rfl rfl rfl rfl rfl rfl) ?_
  rintro d σ ⟨rfl, rfl⟩
  refine VX_go3 (fs := []) (ok 1 _) eqs trivial 100 [] rfl trivial ?_
  refine VX_loopA (fun i : Nat => i ≤ l.length) (fun i => [(13, .t 3 (.e (.int i))), (12, .t 3 (.e (.int l.length))), (11, .t 50 (.e (.sl (l.map byteE)))), (5, .t 45 (.e (.int (numV (l.take i)))))]) (fun _ => [rd s' e']) (fun i => l.length - i) 0 (by omega) ?_ ?_
  · exact wk1 rfl rfl (by simp [rd, Blk.under, T.under]) (lc (ls rfl rfl) (lc (li (by simp)) (lc (ls rfl rfl) (lc (ls rfl rfl) lnil))))
  · intro i hi
    refine VX_go3 (fs := []) (ok 1 _) eqs trivial 100 [] rfl trivial ?_
    refine VX_split 14 rfl rfl (fun h => ?_) (fun h => ?_)
    · have hi : i < l.length := by simpa using h
      refine VX_go3 (fs := []) (ok 1 _) eqs trivial 100 [7] rfl ?_ ?_
      · simp [allP]; omega
      refine VX_eq 16 rfl rfl (d' := .t 5 (.e (.int (l[i].toNat : Nat)))) (congrArg (fun x => D.t 5 (.e x)) (getD_byte hi)) ?_
      have hb := l[i].toNat_lt
      have hv : numV (l.take i) < 256 ^ i := numV_lt i _ (by simp; omega)
      have hv7 : numV (l.take i) < 72057594037927936 := by
        have : (256 : Nat) ^ i ≤ 256 ^ 7 := Nat.pow_le_pow_right (by omega) (by omega)
        have h7 : (256 : Nat) ^ 7 = 72057594037927936 := by decide
        omega
      have hsucc : numV (l.take (i + 1)) = numV (l.take i) * 256 + l[i].toNat := by
        rw [List.take_add_one, List.getElem?_eq_getElem hi]; exact numV_snoc _ _
      have e1 : IntKind.wrap .u64 ((numV (l.take i) : Int) * 2 ^ (min (Int.toNat 8) IntKind.u64.bits)) = ((numV (l.take i) * 256 : Nat) : Int) := by
        have : (2 : Int) ^ (min (Int.toNat 8) IntKind.u64.bits) = 256 := by decide
        rw [this, inR_wrap (by simp [inR]; omega)]; norm_cast
      have e2 : IntKind.wrap .u64 ((l[i].toNat : Nat) : Int) = ((l[i].toNat : Nat) : Int) := inR_wrap (by simp [inR]; omega)
      refine VX_go3 (fs := []) (ok 1 _) eqs trivial 100 [21] rfl (by simp [allP, arithP]) ?_
      refine VX_eq 18 rfl rfl (d' := .t 45 (.e (.int ((numV (l.take i) * 256 : Nat) : Int)))) (congrArg (fun x => D.t 45 (T.e (E.int x))) e1) ?_
      refine VX_eq 20 rfl rfl (d' := .t 45 (.e (.int ((l[i].toNat : Nat) : Int)))) (congrArg (fun x => D.t 45 (T.e (E.int x))) e2) ?_
      refine VX_go3 (fs := []) (ok 1 _) eqs trivial 100 [] rfl trivial ?_
      refine loop_nrm ⟨i + 1, by omega, by omega, ?_⟩
      refine wk1 rfl rfl (by simp [rd, Blk.under, T.under]) (lc (li ?_) (lc (ls rfl rfl) (lc (ls rfl rfl) (lc (li ?_) lnil))))
      · rw [w64 (by omega) (by omega)]; simp
      · rw [hsucc, ← or_byte _ _ hv7 hb]
    · have : i = l.length := by simp at h; omega
      subst this
      refine VX_go3 (fs := []) (ok 1 _) eqs trivial 100 [] rfl trivial ?_
      apply loop_brk
      refine VX_go3 (fs := []) (ok 1 _) eqs trivial 100 [] rfl trivial ?_
      refine ⟨.inr rfl, _, _, _, rfl, rfl, rfl, ?_⟩
      rw [List.take_length]; exact ⟨rfl, rfl⟩

theorem numV_le {l : List UInt8} {k : Nat} (h : l.length ≤ k) : numV l < 256 ^ k := Nat.lt_of_lt_of_le (numV_lt _ l rfl) (Nat.pow_le_pow_right (by omega) h)

theorem wordR_ok (s : List UInt8) (e : Int) : FnG Try.prog tb 12 [rd s e] [.ptr 0 []] (fun d t => d = .t 22 (.e (.int (numV (takeB s e 4).1))) ∧ t = [rd (takeB s e 4).2.1 (takeB s e 4).2.2]) := by
  refine FnG_of_V (fn := Try.f12) (bt := 4) false [] [22] (ok 1 _) Try.func12 rfl rfl rfl fun _ _ _ _ _ _ => ?_
  apply V_of_VX
  refine VX_go3 (fs := []) (ok 1 _) eqs trivial 100 [] rfl trivial ?_
  refine VX_callD (ok 1 _) [35, 3] [0] rfl rfl rfl rfl rfl rfl (number_ok s e 4 (by omega)) rfl rfl rfl ?_
  have hv := numV_le (takeB_len s e 4)
  have e1 : IntKind.wrap .u32 ((numV (takeB s e 4).1 : Nat) : Int) = (numV (takeB s e 4).1 : Nat) := inR_wrap (by simp [inR]; omega)
  refine VX_go3 (fs := []) (ok 1 _) eqs trivial 100 [2] rfl trivial ?_
  refine VX_eq 5 rfl rfl (d' := .t 22 (.e (.int (numV (takeB s e 4).1 : Nat)))) (congrArg (fun x => D.t 22 (T.e (E.int x))) e1) ?_
  refine VX_go3 (fs := []) (ok 1 _) eqs trivial 100 [] rfl trivial ?_
  exact ⟨.inr rfl, _, _, _, rfl, rfl, rfl, rfl, rfl⟩

def mx (m : Int) : Nat := if m < 0 then 0 else m.toNat

def countB (s : List UInt8) (e : Int) (m : Int) : Nat × List UInt8 × Int :=
  if mx m < numV (takeB s e 4).1 then (0, (takeB s e 4).2.1, failB (takeB s e 4).2.2 5) else (numV (takeB s e 4).1, (takeB s e 4).2.1, (takeB s e 4).2.2)

theorem count_ok (s : List UInt8) (e : Int) (m : Int) (h1 : -9223372036854775808 ≤ m) (h2 : m ≤ 9223372036854775807) : FnG Try.prog tb 20 [rd s e] [.ptr 0 [], .t 3 (.e (.int m))] (fun d t => d = .t 3 (.e (.int (countB s e m).1)) ∧ t = [rd (countB s e m).2.1 (countB s e m).2.2]) := by
  refine FnG_of_V (fn := Try.f20) (bt := 4) false [] [3] (ok 1 _) Try.func20 rfl rfl rfl fun _ _ _ _ _ _ => ?_
  apply V_of_VX
  refine VX_go3 (fs := []) (ok 1 _) eqs trivial 100 [] rfl trivial ?_
  refine VX_callD (ok 1 _) [35, 3] [0] rfl rfl rfl rfl rfl rfl (number_ok s e 4 (by omega)) rfl rfl rfl ?_
  have hv := numV_le (takeB_len s e 4)
  have em : IntKind.wrap .u64 (if (0 : Int) > m then 0 else m) = (mx m : Nat) := by
    unfold mx
    rcases Int.lt_or_le m 0 with h | h
    · rw [if_pos h, if_pos h]; rfl
    · rw [if_neg (by omega), if_neg (by omega), inR_wrap (by simp [inR]; omega)]; omega
  refine VX_go3 (fs := []) (ok 1 _) eqs trivial 100 [12] rfl (by simp [allP]) ?_
  refine VX_eq 11 rfl rfl (d' := .t 45 (.e (.int (mx m : Nat)))) (congrArg (fun x => D.t 45 (T.e (E.int x))) em) ?_
  refine VX_go3 (fs := []) (ok 1 _) eqs trivial 100 [] rfl trivial ?_
  refine VX_split 12 rfl rfl (fun h => ?_) (fun h => ?_)
  · have hlt : mx m < numV (takeB s e 4).1 := by simpa using h
    refine VX_go3 (fs := []) (ok 1 _) eqs trivial 100 [] rfl trivial ?_
    refine VX_callD (ok 1 _) [35, 27] [0] rfl rfl rfl rfl rfl rfl (fail_ok (takeB s e 4).2.1 (takeB s e 4).2.2 5) rfl rfl rfl ?_
    refine VX_go3 (fs := []) (ok 1 _) eqs trivial 100 [] rfl trivial ?_
    refine ⟨.inr rfl, _, _, _, rfl, rfl, rfl, ?_⟩
    unfold countB; rw [if_pos hlt]; exact ⟨rfl, rfl⟩
  · have hlt : ¬ mx m < numV (takeB s e 4).1 := by simpa using h
    have e1 : IntKind.wrap .i64 ((numV (takeB s e 4).1 : Nat) : Int) = (numV (takeB s e 4).1 : Nat) := w64 (by omega) (by omega)
    refine VX_go3 (fs := []) (ok 1 _) eqs trivial 100 [4] rfl trivial ?_
    refine VX_eq 16 rfl rfl (d' := .t 3 (.e (.int (numV (takeB s e 4).1 : Nat)))) (congrArg (fun x => D.t 3 (T.e (E.int x))) e1) ?_
    refine VX_go3 (fs := []) (ok 1 _) eqs trivial 100 [] rfl trivial ?_
    refine ⟨.inr rfl, _, _, _, rfl, rfl, rfl, ?_⟩
    unfold countB; rw [if_neg hlt]; exact ⟨rfl, rfl⟩

theorem countB_lt (s : List UInt8) (e m : Int) : (countB s e m).1 < 4294967296 := by
  have hv := numV_le (takeB_len s e 4)
  unfold countB; split
  · simp
  · exact hv

def textR (s : List UInt8) (e m : Int) : List UInt8 × List UInt8 × Int := takeB (countB s e m).2.1 (countB s e m).2.2 (countB s e m).1

theorem textR_ok (s : List UInt8) (e : Int) (m : Int) (h1 : -9223372036854775808 ≤ m) (h2 : m ≤ 9223372036854775807) : FnG Try.prog tb 13 [rd s e] [.ptr 0 [], .t 3 (.e (.int m))] (fun d t => d = .t 9 (.e (.str (textR s e m).1)) ∧ t = [rd (textR s e m).2.1 (textR s e m).2.2]) := by
  refine FnG_of_V (fn := Try.f13) (bt := 4) false [] [9] (ok 1 _) Try.func13 rfl rfl rfl fun _ _ _ _ _ _ => ?_
  apply V_of_VX
  refine VX_go3 (fs := []) (ok 1 _) eqs trivial 100 [] rfl trivial ?_
  refine VX_callD (ok 1 _) [35, 3] [0] rfl rfl rfl rfl rfl rfl (count_ok s e m h1 h2) rfl rfl rfl ?_
  refine VX_callD (ok 1 _) [35, 3] [0] rfl rfl rfl rfl rfl rfl (take_ok _ _ _) rfl rfl rfl ?_
  refine VX_go3 (fs := []) (ok 1 _) eqs trivial 100 [] rfl trivial ?_
  exact ⟨.inr rfl, _, _, _, rfl, rfl, rfl, rfl, rfl⟩

theorem takeB_le (s : List UInt8) (e : Int) (n : Nat) : (takeB s e n).1.length ≤ s.length ∧ (takeB s e n).2.1.length ≤ s.length := by
  unfold takeB; split
  · split
    · simp
    · simp; omega
  · simp

theorem countB_le (s : List UInt8) (e m : Int) : (countB s e m).2.1.length ≤ s.length := by
  unfold countB; split <;> exact (takeB_le s e 4).2

def endB (s : List UInt8) (e : Int) : Int := if e = 0 ∧ s ≠ [] then 4 else e

theorem end_ok (s : List UInt8) (e : Int) : FnG Try.prog tb 14 [rd s e] [.ptr 0 []] (fun d t => d = .t 27 (.e (.int (endB s e))) ∧ t = [rd s e]) := by
  refine FnG_of_V (fn := Try.f14) (bt := 4) false [] [27] (ok 1 _) Try.func14 rfl rfl rfl fun _ _ _ _ _ _ => ?_
  apply V_of_VX
  refine VX_go3 (fs := []) (ok 1 _) eqs trivial 100 [] rfl trivial ?_
  refine VX_split 12 rfl rfl (fun h => ?_) (fun h => ?_)
  · have he : e = 0 := by simpa using h
    refine VX_go3 (fs := []) (ok 1 _) eqs trivial 100 [] rfl trivial ?_
    refine VX_split 6 rfl rfl (fun h => ?_) (fun h => ?_)
    · have hs : s ≠ [] := by simpa using h
      refine VX_go3 (fs := []) (ok 1 _) eqs trivial 100 [] rfl trivial ?_
      refine ⟨.inr rfl, _, _, _, rfl, rfl, rfl, ?_⟩
      unfold endB; rw [if_pos ⟨he, hs⟩]; exact ⟨rfl, rfl⟩
    · have hs : s = [] := by simpa using h
      refine VX_go3 (fs := []) (ok 1 _) eqs trivial 100 [] rfl trivial ?_
      refine ⟨.inr rfl, _, _, _, rfl, rfl, rfl, ?_⟩
      unfold endB; rw [if_neg (fun h => h.2 hs)]; exact ⟨rfl, rfl⟩
  · have he : e ≠ 0 := by simpa using h
    refine VX_go3 (fs := []) (ok 1 _) eqs trivial 100 [] rfl trivial ?_
    refine ⟨.inr rfl, _, _, _, rfl, rfl, rfl, ?_⟩
    unfold endB; rw [if_neg (fun h => he h.1)]; exact ⟨rfl, rfl⟩

theorem over_ok (s : List UInt8) : FnG Try.prog tb 11 [] [.t 9 (.e (.str s))] (fun d t => d = .ptr 0 [] ∧ t = [rd s 0]) := by
  refine FnG_of_V (fn := Try.f11) (bt := 4) false [0] [35] (ok 0 _) Try.func11 rfl rfl rfl fun _ _ _ _ _ _ => ?_
  apply V_of_VX
  refine VX_go3 (fs := []) (ok 0 _) eqs trivial 100 [] rfl trivial ?_
  exact ⟨.inr rfl, _, _, _, rfl, rfl, rfl, rfl, rfl⟩

theorem takeB_0 {s : List UInt8} {e : Int} {n : Nat} (h : (takeB s e n).2.2 = 0) : e = 0 ∧ n ≤ s.length ∧ (takeB s e n).1 = s.take n ∧ (takeB s e n).2.1 = s.drop n := by
  unfold takeB at h ⊢
  split at h
  · rename_i he
    split at h
    · simp at h
    · rename_i hn; simp only [if_pos he, if_neg hn]; exact ⟨he, by omega, trivial, trivial⟩
  · rename_i he; exact absurd h he

theorem failB_ne {e f : Int} (hf : f ≠ 0) : failB e f ≠ 0 := by
  unfold failB; split
  · exact hf
  · assumption

theorem countB_0 {s : List UInt8} {e m : Int} (h : (countB s e m).2.2 = 0) : e = 0 ∧ 4 ≤ s.length ∧ (countB s e m).1 = numV (s.take 4) ∧ (countB s e m).2.1 = s.drop 4 := by
  unfold countB at h ⊢
  split at h
  · exact absurd h (failB_ne (by decide))
  · rename_i hn
    simp only [if_neg hn]
    obtain ⟨h1, h2, h3, h4⟩ := takeB_0 h
    exact ⟨h1, h2, by rw [h3], h4⟩

theorem endB_0 {s : List UInt8} {e : Int} (h : endB s e = 0) : e = 0 ∧ s = [] := by
  unfold endB at h
  split at h
  · cases h
  · rename_i hn
    refine ⟨h, ?_⟩
    subst h
    by_cases hs : s = []
    · exact hs
    · exact absurd ⟨rfl, hs⟩ hn

theorem big4 {s : List UInt8} (h : 4 ≤ s.length) : bigB (numV (s.take 4)) 4 = s.take 4 := bigB_numV 4 _ (by simp; omega)

theorem text_one {s : List UInt8} {m : Int} (h : endB (textR s 0 m).2.1 (textR s 0 m).2.2 = 0) : textB (textR s 0 m).1 = s := by
  obtain ⟨h1, h2⟩ := endB_0 h
  unfold textR at h1 h2 ⊢
  obtain ⟨h3, h4, h5, h6⟩ := takeB_0 h1
  obtain ⟨_, h7, h8, h9⟩ := countB_0 h3
  rw [h6, h9, h8] at h2
  rw [h9, h8] at h4
  rw [h5, h9, h8]
  have hle : (s.drop 4).length ≤ numV (s.take 4) := List.drop_eq_nil_iff.1 h2
  rw [List.take_of_length_le hle]
  unfold textB
  rw [show (s.drop 4).length = numV (s.take 4) by omega, big4 h7]
  exact List.take_append_drop 4 s

theorem takeB_app (p q : List UInt8) {n : Nat} (h : p.length = n) : takeB (p ++ q) 0 n = (p, q, 0) := by
  unfold takeB
  rw [if_pos rfl, if_neg (by simp; omega), List.take_left' h, List.drop_left' h]

theorem countB_app (k : Nat) (q : List UInt8) (m : Int) (hk : k < 4294967296) (hm : k ≤ mx m) : countB (bigB k 4 ++ q) 0 m = (k, q, 0) := by
  unfold countB
  rw [takeB_app (bigB k 4) q (bigB_length k 4)]
  have : numV (bigB k 4) = k := numV_bigB 4 k (by simpa using hk)
  simp only [this]
  rw [if_neg (by omega)]

theorem textR_app (s q : List UInt8) (hs : s.length ≤ 5000) : textR (textB s ++ q) 0 s.length = (s, q, 0) := by
  unfold textR textB
  rw [List.append_assoc, countB_app s.length (s ++ q) s.length (by omega) (by unfold mx; rw [if_neg (by omega)]; omega)]
  exact takeB_app s q rfl

end Go.Den.Q09
