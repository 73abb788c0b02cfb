/- Law 03: numbers, digests and texts in bytes. -/
import Derived.Test.YtoanljcmkmjcbaaQ03Tb
namespace Go.Den.Q03
open Go Go.Den Go.Proofs
set_option maxRecDepth 8000
set_option linter.unusedVariables false

/-- A number in so many bytes. -/
def bigB (n k : Nat) : List UInt8 := (List.range k).map fun i => UInt8.ofNat (n / 256 ^ (k - 1 - i) % 256)
theorem bigB_length (n k : Nat) : (bigB n k).length = k := by simp [bigB]

def bigE (n k i : Nat) : E := .int ((n / 256 ^ (k - 1 - i) % 256 : Nat) : Int)
/-- The array when i bytes of it are laid, from the front. -/
def fr (n k i : Nat) : List E := (List.range i).map (bigE n k) ++ List.replicate (8 - i) (.int 0)
theorem fr_set (n k i : Nat) (h : i < 8) : (fr n k i).set i (bigE n k i) = fr n k (i + 1) := by
  unfold fr
  rw [List.set_append_right _ _ (by simp)]
  obtain ⟨m, hm⟩ : ∃ m, 8 - i = m + 1 := ⟨8 - i - 1, by omega⟩
  have hm' : 8 - (i + 1) = m := by omega
  simp [hm, hm', List.replicate_succ, List.range_succ]
/-- .. from the back. -/
def bk (n k i : Nat) : List E := List.replicate i (.int 0) ++ (List.range (k - i)).map (fun j => bigE n k (i + j)) ++ List.replicate (8 - k) (.int 0)
theorem bk_set (n k i : Nat) (h : i < k) : (bk n k (i + 1)).set i (bigE n k i) = bk n k i := by
  unfold bk
  obtain ⟨m, hm⟩ : ∃ m, k - i = m + 1 := ⟨k - i - 1, by omega⟩
  have hm' : k - (i + 1) = m := by omega
  rw [List.append_assoc, List.set_append_left _ _ (by simp), hm, hm', List.range_succ_eq_map]
  have : (List.replicate (i + 1) (E.int 0)).set i (bigE n k i) = List.replicate i (.int 0) ++ [bigE n k i] := by
    rw [List.replicate_succ', List.set_append_right _ _ (by simp)]; simp
  rw [this]
  simp [List.map_map, Function.comp_def, Nat.add_assoc, Nat.add_comm 1]
theorem byteOf_bigE (n k i : Nat) : byteOf (bigE n k i) = UInt8.ofNat (n / 256 ^ (k - 1 - i) % 256) := by
  show UInt8.ofNat (Int.toNat ((n / 256 ^ (k - 1 - i) % 256 : Nat) : Int)) = _
  rw [Int.toNat_natCast]
theorem fr_done (n k : Nat) (h : k ≤ 8) : (((fr n k k).drop 0).take k).map byteOf = bigB n k := by
  unfold fr
  rw [List.drop_zero, List.take_left' (by simp)]
  simp [bigB, List.map_map, Function.comp_def, byteOf_bigE]
theorem bk_done (n k : Nat) (h : k ≤ 8) : (((bk n k 0).drop 0).take k).map byteOf = bigB n k := by
  unfold bk
  rw [List.drop_zero]
  simp only [List.replicate_zero, List.nil_append, Nat.sub_zero, Nat.zero_add]
  rw [List.take_left' (by simp)]
  simp [bigB, List.map_map, Function.comp_def, byteOf_bigE]

theorem shr_byte (n k i : Nat) (hi : i < k) (hk : k ≤ 8) (hn : n < 18446744073709551616) : IntKind.wrap .u8 ((n : Int).fdiv (2 ^ (min (IntKind.wrap .i64 (8 * IntKind.wrap .i64 (IntKind.wrap .i64 ((k : Int) - 1) - (i : Int)))).toNat IntKind.u64.bits))) = ((n / 256 ^ (k - 1 - i) % 256 : Nat) : Int) := by
  rw [w64 (a := (k : Int) - 1) (by omega) (by omega), w64 (a := (k : Int) - 1 - i) (by omega) (by omega), w64 (by omega) (by omega)]
  have h1 : (8 * ((k : Int) - 1 - (i : Int))).toNat = 8 * (k - 1 - i) := by omega
  rw [h1]
  have h2 : min (8 * (k - 1 - i)) IntKind.u64.bits = 8 * (k - 1 - i) := by simp [IntKind.bits]; omega
  rw [h2]
  have h3 : (2 : Int) ^ (8 * (k - 1 - i)) = ((256 ^ (k - 1 - i) : Nat) : Int) := by
    rw [Int.pow_mul]; simp
  rw [h3, Int.fdiv_eq_ediv_of_nonneg _ (Int.natCast_nonneg _)]
  rw [wrap_eq]; simp only []
  norm_cast

theorem big_ok (n k : Nat) (hk : 1 ≤ k) (hk8 : k ≤ 8) (hn : n < 18446744073709551616) : FnOk Try.prog tb 33 [22, 3] [9] [.int n, .int k] [.str (bigB n k)] := by
  refine FnOk_of_V (fn := Try.f33) (bt := 4) (ok 0 _) Try.func33 rfl rfl rfl (by decide) fun hw => ?_
  apply V_of_VX
  refine VX_go3 (fs := []) (ok 0 _) eqs trivial 100 [] rfl trivial ?_
  refine VX_loopA (fun i : Nat => i ≤ k) (fun i => [(8, .t 3 (.e (.int i))), (7, .t 3 (.e (.int k))), (1, .t 3 (.e (.int k))), (0, .t 22 (.e (.int n))), (5, .ptr 0 [])]) (fun i => [.tree 56 (.e (.agg (fr n k i)))]) (fun i => k - i) 0 (by omega) ?_ ?_
  · exact wk1 rfl rfl (by simp [Blk.under, T.under]) (lc (ls rfl rfl) (lc (ls rfl rfl) (lc (ls rfl rfl) (lc (ls rfl rfl) (lc (ls rfl rfl) lnil)))))
  · intro i hi
    refine VX_go3 (fs := []) (ok 0 _) eqs trivial 100 [] rfl trivial ?_
    refine VX_split 9 rfl rfl (fun h => ?_) (fun h => ?_)
    · have hi : i < k := by simpa using h
      refine VX_go3 (fs := []) (ok 0 _) eqs trivial 100 [] rfl ?_ ?_
      · refine ⟨by omega, ?_⟩
        show 0 ≤ IntKind.i64.wrap _
        rw [w64 (a := (k : Int) - 1) (by omega) (by omega), w64 (a := (k : Int) - 1 - i) (by omega) (by omega), w64 (by omega) (by omega)]
        omega
      refine loop_nrm ⟨i + 1, by omega, by omega, ?_⟩
      refine wk1 ?_ rfl (by simp [Blk.under, T.under]) (lc (li ?_) (lc (ls rfl rfl) (lc (ls rfl rfl) (lc (ls rfl rfl) (lc (ls rfl rfl) lnil)))))
      · show [Blk.tree 56 (.e (.agg ((fr n k i).set _ (.int _))))] = _
        rw [shr_byte n k i hi hk8 hn, ← fr_set n k i (by omega)]; rfl
      · rw [w64 (by omega) (by omega)]; simp
    · have : i = k := by simp at h; omega
      subst this
      refine VX_go3 (fs := []) (ok 0 _) eqs trivial 100 [] rfl trivial ?_
      apply loop_brk
      refine VX_go3 (fs := []) (ok 0 _) eqs trivial 100 [] rfl ?_ ?_
      · simp [allP]; omega
      refine ⟨.inr rfl, ?_⟩
      rw [← fr_done n i hk8]; rfl

theorem Big_ok (n k : Nat) (hk : 1 ≤ k) (hk8 : k ≤ 8) (hn : n < 18446744073709551616) : FnOk Try.prog tb 10 [22, 3] [9] [.int n, .int k] [.str (bigB n k)] := by
  refine FnOk_of_V (fn := Try.f10) (bt := 4) (ok 0 _) Try.func10 rfl rfl rfl (by decide) fun hw => ?_
  apply V_of_VX
  refine VX_go3 (fs := []) (ok 0 _) eqs trivial 100 [] rfl trivial ?_
  refine VX_loopA (fun i : Nat => i ≤ k) (fun i => [(6, .t 3 (.e (.int ((i : Int) - 1)))), (1, .t 3 (.e (.int k))), (0, .t 22 (.e (.int ((n / 256 ^ (k - i) : Nat) : Int)))), (5, .ptr 0 [])]) (fun i => [.tree 56 (.e (.agg (bk n k i)))]) (fun i => i) k (by omega) ?_ ?_
  · refine wk1 ?_ rfl (by simp [Blk.under, T.under]) (lc (li ?_) (lc (ls rfl rfl) (lc (li ?_) (lc (ls rfl rfl) lnil))))
    · have : bk n k k = List.replicate 8 (.int 0) := by
        unfold bk; rw [Nat.sub_self]; simp only [List.range_zero, List.map_nil, List.append_nil, List.replicate_append_replicate]; rw [show k + (8 - k) = 8 by omega]
      rw [this]; rfl
    · rw [w64 (by omega) (by omega)]
    · simp
  · intro i hi
    refine VX_go3 (fs := []) (ok 0 _) eqs trivial 100 [] rfl trivial ?_
    refine VX_split 10 rfl rfl (fun h => ?_) (fun h => ?_)
    · obtain ⟨j, rfl⟩ : ∃ j, i = j + 1 := ⟨i - 1, by simp at h; omega⟩
      have hq : ((n / 256 ^ (k - (j + 1)) : Nat) : Int) < 18446744073709551616 := by
        have := Nat.div_le_self n (256 ^ (k - (j + 1))); omega
      refine VX_go3 (fs := []) (ok 0 _) eqs trivial 100 [] rfl ?_ ?_
      · simp [allP, arithP]; omega
      refine loop_nrm ⟨j, by omega, by omega, ?_⟩
      refine wk1 ?_ rfl (by simp [Blk.under, T.under]) (lc (li ?_) (lc (ls rfl rfl) (lc (li ?_) (lc (ls rfl rfl) lnil))))
      · show [Blk.tree 56 (.e (.agg ((bk n k (j + 1)).set _ (.int _))))] = _
        rw [← bk_set n k j (by omega)]
        have e1 : (((j + 1 : Nat) : Int) - 1).toNat = j := by omega
        have e2 : IntKind.wrap .u8 (((n / 256 ^ (k - (j + 1)) : Nat) : Int).tmod 256) = ((n / 256 ^ (k - 1 - j) % 256 : Nat) : Int) := by
          rw [show k - 1 - j = k - (j + 1) by omega]
          generalize n / 256 ^ (k - (j + 1)) = q
          rw [wrap_eq]; simp only []
          rw [Int.tmod_eq_emod_of_nonneg (by omega)]; omega
        rw [e1, e2]; rfl
      · rw [w64 (by omega) (by omega)]; omega
      · rw [inR_wrap]
        · rw [show k - j = k - (j + 1) + 1 by omega, Nat.pow_succ, ← Nat.div_div_eq_div_mul]; rfl
        · generalize n / 256 ^ (k - (j + 1)) = q at hq
          simp only [inR, Bool.and_eq_true, decide_eq_true_eq]
          rw [Int.tdiv_eq_ediv_of_nonneg (by omega)]
          omega
    · have : i = 0 := by simp at h; omega
      subst this
      refine VX_go3 (fs := []) (ok 0 _) eqs trivial 100 [] rfl trivial ?_
      apply loop_brk
      refine VX_go3 (fs := []) (ok 0 _) eqs trivial 100 [] rfl ?_ ?_
      · simp [allP]; omega
      refine ⟨.inr rfl, ?_⟩
      rw [← bk_done n k hk8]; rfl

theorem byte_ok (n : Nat) (hn : n < 256) : FnOk Try.prog tb 9 [5] [9] [.int n] [.str (bigB n 1)] := by
  refine FnOk_of_V (fn := Try.f9) (bt := 4) (ok 0 _) Try.func9 rfl rfl rfl (by decide) fun hw => ?_
  apply V_of_VX
  refine VX_go3 (fs := []) (ok 0 _) eqs trivial 100 [] rfl trivial ?_
  have e : IntKind.wrap .u64 (n : Int) = n := inR_wrap (by simp [inR]; omega)
  refine VX_eq 4 rfl rfl (d' := .t 22 (.e (.int n))) (by rw [e]; rfl) ?_
  refine VX_callD (ok 0 _) [22, 3] [] rfl rfl rfl rfl rfl rfl (big_ok n 1 (by omega) (by omega) (by omega)).g rfl rfl rfl ?_
  refine VX_go3 (fs := []) (ok 0 _) eqs trivial 100 [] rfl trivial ?_
  exact ⟨.inr rfl, rfl⟩
theorem word_ok (n : Nat) (hn : n < 4294967296) : FnOk Try.prog tb 11 [33] [9] [.int n] [.str (bigB n 4)] := by
  refine FnOk_of_V (fn := Try.f11) (bt := 4) (ok 0 _) Try.func11 rfl rfl rfl (by decide) fun hw => ?_
  apply V_of_VX
  refine VX_go3 (fs := []) (ok 0 _) eqs trivial 100 [] rfl trivial ?_
  have e : IntKind.wrap .u64 (n : Int) = n := inR_wrap (by simp [inR]; omega)
  refine VX_eq 4 rfl rfl (d' := .t 22 (.e (.int n))) (by rw [e]; rfl) ?_
  refine VX_callD (ok 0 _) [22, 3] [] rfl rfl rfl rfl rfl rfl (big_ok n 4 (by omega) (by omega) (by omega)).g rfl rfl rfl ?_
  refine VX_go3 (fs := []) (ok 0 _) eqs trivial 100 [] rfl trivial ?_
  exact ⟨.inr rfl, rfl⟩
theorem long_ok (n : Nat) (hn : n < 18446744073709551616) : FnOk Try.prog tb 12 [22] [9] [.int n] [.str (bigB n 8)] := by
  refine FnOk_of_V (fn := Try.f12) (bt := 4) (ok 0 _) Try.func12 rfl rfl rfl (by decide) fun hw => ?_
  apply V_of_VX
  refine VX_go3 (fs := []) (ok 0 _) eqs trivial 100 [] rfl trivial ?_
  refine VX_callD (ok 0 _) [22, 3] [] rfl rfl rfl rfl rfl rfl (big_ok n 8 (by omega) (by omega) (by omega)).g rfl rfl rfl ?_
  refine VX_go3 (fs := []) (ok 0 _) eqs trivial 100 [] rfl trivial ?_
  exact ⟨.inr rfl, rfl⟩

/-- A digest's bytes. -/
def dB (xs : List E) : List UInt8 := ((xs.drop 0).take 32).map byteOf
theorem digest_ok (xs : List E) : FnOk Try.prog tb 13 [24] [9] [.agg xs] [.str (dB xs)] := by
  refine FnOk_of_V (fn := Try.f13) (bt := 4) (ok 0 _) Try.func13 rfl rfl rfl (by decide) fun hw => ?_
  apply V_of_VX
  refine VX_go3 (fs := []) (ok 0 _) eqs trivial 100 [] rfl (by simp [allP]) ?_
  exact ⟨.inr rfl, rfl⟩
theorem bytes_ok (xs : List E) : FnOk Try.prog tb 14 [24] [9] [.agg xs] [.str (dB xs)] := by
  refine FnOk_of_V (fn := Try.f14) (bt := 4) (ok 0 _) Try.func14 rfl rfl rfl (by decide) fun hw => ?_
  apply V_of_VX
  refine VX_go3 (fs := []) (ok 0 _) eqs trivial 100 [] rfl (by simp [allP]) ?_
  exact ⟨.inr rfl, rfl⟩

def textB (s : List UInt8) : List UInt8 := bigB s.length 4 ++ s
theorem text_ok (s : List UInt8) (hs : s.length ≤ 20000) : FnOk Try.prog tb 15 [9] [9] [.str s] [.str (textB s)] := by
  refine FnOk_of_V (fn := Try.f15) (bt := 4) (ok 0 _) Try.func15 rfl rfl rfl (by decide) fun hw => ?_
  apply V_of_VX
  refine VX_go3 (fs := []) (ok 0 _) eqs trivial 100 [] rfl trivial ?_
  have e : IntKind.wrap .u32 (s.length : Int) = s.length := inR_wrap (by simp [inR]; omega)
  refine VX_eq 5 rfl rfl (d' := .t 33 (.e (.int s.length))) (by rw [e]; rfl) ?_
  refine VX_callD (ok 0 _) [33] [] rfl rfl rfl rfl rfl rfl (word_ok s.length (by omega)).g rfl rfl rfl ?_
  refine VX_go3 (fs := []) (ok 0 _) eqs trivial 100 [] rfl ?_ ?_
  · simp [allP, bigB_length, maxI]; omega
  exact ⟨.inr rfl, rfl⟩
theorem rtext_ok (s : List UInt8) (hs : s.length ≤ 20000) : FnOk Try.prog tb 16 [9] [9] [.str s] [.str (textB s)] := by
  refine FnOk_of_V (fn := Try.f16) (bt := 4) (ok 0 _) Try.func16 rfl rfl rfl (by decide) fun hw => ?_
  apply V_of_VX
  refine VX_go3 (fs := []) (ok 0 _) eqs trivial 100 [] rfl trivial ?_
  have e : IntKind.wrap .u64 (s.length : Int) = s.length := inR_wrap (by simp [inR]; omega)
  refine VX_eq 5 rfl rfl (d' := .t 22 (.e (.int s.length))) (by rw [e]; rfl) ?_
  refine VX_callD (ok 0 _) [22, 3] [] rfl rfl rfl rfl rfl rfl (Big_ok s.length 4 (by omega) (by omega) (by omega)).g rfl rfl rfl ?_
  refine VX_go3 (fs := []) (ok 0 _) eqs trivial 100 [] rfl ?_ ?_
  · simp [allP, bigB_length, maxI]; omega
  exact ⟨.inr rfl, rfl⟩
end Go.Den.Q03
