/- The calculus and the walks, part 8: Q21W, Q21D, Q21N, Q21R, Q21K, Q21L, Q21M, Q21O, Q21P. -/
import Derived.Test.YtnjdgejaklcemaaDoorP7
import Derived.Test.YtnjdgejaklcemaaDoorP6
import Derived.Test.YtnjdgejaklcemaaDoorRows
import Derived.WalkKit
import Derived.ProofKit
import Derived.OpenShut
import Derived.ShutString
import Derived.ChangeOld
import Derived.LaidMore
import Derived.Stop.Joined
import Derived.Below
/- Contracts of another seat, turned to this seat's numbers (port2.py). -/
namespace Go.Den.Q21.Wi
open Go Go.Den Go.Proofs
set_option maxRecDepth 8000
set_option linter.unusedVariables false
/-- A number in so many bytes. -/
def bigB (n k : Nat) : List UInt8 := (List.range k).map fun i => UInt8.ofNat (n / 256 ^ (k - 1 - i) % 256)
theorem bigB_length (n k : Nat) : (bigB n k).length = k := by simp [bigB]
def bigE (n k i : Nat) : E := .int ((n / 256 ^ (k - 1 - i) % 256 : Nat) : Int)
/-- The array when i bytes of it are laid, from the front. -/
def fr (n k i : Nat) : List E := (List.range i).map (bigE n k) ++ List.replicate (8 - i) (.int 0)
theorem fr_set (n k i : Nat) (h : i < 8) : (fr n k i).set i (bigE n k i) = fr n k (i + 1) := by
  unfold fr
  rw [List.set_append_right _ _ (by simp)]
  obtain ⟨m, hm⟩ : ∃ m, 8 - i = m + 1 := ⟨8 - i - 1, by omega⟩
  have hm' : 8 - (i + 1) = m := by omega
  simp [hm, hm', List.replicate_succ, List.range_succ]
/-- .. from the back. -/
def bk (n k i : Nat) : List E := List.replicate i (.int 0) ++ (List.range (k - i)).map (fun j => bigE n k (i + j)) ++ List.replicate (8 - k) (.int 0)
theorem bk_set (n k i : Nat) (h : i < k) : (bk n k (i + 1)).set i (bigE n k i) = bk n k i := by
  unfold bk
  obtain ⟨m, hm⟩ : ∃ m, k - i = m + 1 := ⟨k - i - 1, by omega⟩
  have hm' : k - (i + 1) = m := by omega
  rw [List.append_assoc, List.set_append_left _ _ (by simp), hm, hm', List.range_succ_eq_map]
  have : (List.replicate (i + 1) (E.int 0)).set i (bigE n k i) = List.replicate i (.int 0) ++ [bigE n k i] := by
    rw [List.replicate_succ', List.set_append_right _ _ (by simp)]; simp
  rw [this]
  simp [List.map_map, Function.comp_def, Nat.add_assoc, Nat.add_comm 1]
theorem byteOf_bigE (n k i : Nat) : byteOf (bigE n k i) = UInt8.ofNat (n / 256 ^ (k - 1 - i) % 256) := by
  show UInt8.ofNat (Int.toNat ((n / 256 ^ (k - 1 - i) % 256 : Nat) : Int)) = _
  rw [Int.toNat_natCast]
theorem fr_done (n k : Nat) (h : k ≤ 8) : (((fr n k k).drop 0).take k).map byteOf = bigB n k := by
  unfold fr
  rw [List.drop_zero, List.take_left' (by simp)]
  simp [bigB, List.map_map, Function.comp_def, byteOf_bigE]
theorem bk_done (n k : Nat) (h : k ≤ 8) : (((bk n k 0).drop 0).take k).map byteOf = bigB n k := by
  unfold bk
  rw [List.drop_zero]
  simp only [List.replicate_zero, List.nil_append, Nat.sub_zero, Nat.zero_add]
  rw [List.take_left' (by simp)]
  simp [bigB, List.map_map, Function.comp_def, byteOf_bigE]
theorem shr_byte (n k i : Nat) (hi : i < k) (hk : k ≤ 8) (hn : n < 18446744073709551616) : IntKind.wrap .u8 ((n : Int).fdiv (2 ^ (min (IntKind.wrap .i64 (8 * IntKind.wrap .i64 (IntKind.wrap .i64 ((k : Int) - 1) - (i : Int)))).toNat IntKind.u64.bits))) = ((n / 256 ^ (k - 1 - i) % 256 : Nat) : Int) := by
  rw [w64 (a := (k : Int) - 1) (by omega) (by omega), w64 (a := (k : Int) - 1 - i) (by omega) (by omega), w64 (by omega) (by omega)]
  have h1 : (8 * ((k : Int) - 1 - (i : Int))).toNat = 8 * (k - 1 - i) := by omega
  rw [h1]
  have h2 : min (8 * (k - 1 - i)) IntKind.u64.bits = 8 * (k - 1 - i) := by simp [IntKind.bits]; omega
  rw [h2]
  have h3 : (2 : Int) ^ (8 * (k - 1 - i)) = ((256 ^ (k - 1 - i) : Nat) : Int) := by
    rw [Int.pow_mul]; simp
  rw [h3, Int.fdiv_eq_ediv_of_nonneg _ (Int.natCast_nonneg _)]
  rw [wrap_eq]; simp only []
  norm_cast
theorem big_ok (n k : Nat) (hk : 1 ≤ k) (hk8 : k ≤ 8) (hn : n < 18446744073709551616) : FnOk Tryd.prog tb 38 [23, 3] [9] [.int n, .int k] [.str (bigB n k)] := by
  refine FnOk_of_V (fn := Tryd.f38) (bt := 4) (ok 0 _) Tryd.func38 rfl rfl rfl (by decide) fun hw => ?_
  apply V_of_VX
  refine VX_go3 (fs := []) (ok 0 _) eqs trivial 100 [] rfl trivial ?_
  refine VX_loopA (fun i : Nat => i ≤ k) (fun i => [(8, .t 3 (.e (.int i))), (7, .t 3 (.e (.int k))), (1, .t 3 (.e (.int k))), (0, .t 23 (.e (.int n))), (5, .ptr 0 [])]) (fun i => [.tree 62 (.e (.agg (fr n k i)))]) (fun i => k - i) 0 (by omega) ?_ ?_
  · exact wk1 rfl rfl (by simp [Blk.under, T.under]) (lc (ls rfl rfl) (lc (ls rfl rfl) (lc (ls rfl rfl) (lc (ls rfl rfl) (lc (ls rfl rfl) lnil)))))
  · intro i hi
    refine VX_go3 (fs := []) (ok 0 _) eqs trivial 100 [] rfl trivial ?_
    refine VX_split 9 rfl rfl (fun h => ?_) (fun h => ?_)
    · have hi : i < k := by simpa using h
      refine VX_go3 (fs := []) (ok 0 _) eqs trivial 100 [] rfl ?_ ?_
      · refine ⟨by omega, ?_⟩
        show 0 ≤ IntKind.i64.wrap _
        rw [w64 (a := (k : Int) - 1) (by omega) (by omega), w64 (a := (k : Int) - 1 - i) (by omega) (by omega), w64 (by omega) (by omega)]
        omega
      refine loop_nrm ⟨i + 1, by omega, by omega, ?_⟩
      refine wk1 ?_ rfl (by simp [Blk.under, T.under]) (lc (li ?_) (lc (ls rfl rfl) (lc (ls rfl rfl) (lc (ls rfl rfl) (lc (ls rfl rfl) lnil)))))
      · show [Blk.tree 62 (.e (.agg ((fr n k i).set _ (.int _))))] = _
        rw [shr_byte n k i hi hk8 hn, ← fr_set n k i (by omega)]; rfl
      · rw [w64 (by omega) (by omega)]; simp
    · have : i = k := by simp at h; omega
      subst this
      refine VX_go3 (fs := []) (ok 0 _) eqs trivial 100 [] rfl trivial ?_
      apply loop_brk
      refine VX_go3 (fs := []) (ok 0 _) eqs trivial 100 [] rfl ?_ ?_
      · simp [allP]; omega
      refine ⟨.inr rfl, ?_⟩
      rw [← fr_done n i hk8]; rfl
theorem Big_ok (n k : Nat) (hk : 1 ≤ k) (hk8 : k ≤ 8) (hn : n < 18446744073709551616) : FnOk Tryd.prog tb 18 [23, 3] [9] [.int n, .int k] [.str (bigB n k)] := by
  refine FnOk_of_V (fn := Tryd.f18) (bt := 4) (ok 0 _) Tryd.func18 rfl rfl rfl (by decide) fun hw => ?_
  apply V_of_VX
  refine VX_go3 (fs := []) (ok 0 _) eqs trivial 100 [] rfl trivial ?_
  refine VX_loopA (fun i : Nat => i ≤ k) (fun i => [(6, .t 3 (.e (.int ((i : Int) - 1)))), (1, .t 3 (.e (.int k))), (0, .t 23 (.e (.int ((n / 256 ^ (k - i) : Nat) : Int)))), (5, .ptr 0 [])]) (fun i => [.tree 62 (.e (.agg (bk n k i)))]) (fun i => i) k (by omega) ?_ ?_
  · refine wk1 ?_ rfl (by simp [Blk.under, T.under]) (lc (li ?_) (lc (ls rfl rfl) (lc (li ?_) (lc (ls rfl rfl) lnil))))
    · have : bk n k k = List.replicate 8 (.int 0) := by
        unfold bk; rw [Nat.sub_self]; simp only [List.range_zero, List.map_nil, List.append_nil, List.replicate_append_replicate]; rw [show k + (8 - k) = 8 by omega]
      rw [this]; rfl
    · rw [w64 (by omega) (by omega)]
    · simp
  · intro i hi
    refine VX_go3 (fs := []) (ok 0 _) eqs trivial 100 [] rfl trivial ?_
    refine VX_split 10 rfl rfl (fun h => ?_) (fun h => ?_)
    · obtain ⟨j, rfl⟩ : ∃ j, i = j + 1 := ⟨i - 1, by simp at h; omega⟩
      have hq : ((n / 256 ^ (k - (j + 1)) : Nat) : Int) < 18446744073709551616 := by
        have := Nat.div_le_self n (256 ^ (k - (j + 1))); omega
      refine VX_go3 (fs := []) (ok 0 _) eqs trivial 100 [] rfl ?_ ?_
      · simp [allP, arithP]; omega
      refine loop_nrm ⟨j, by omega, by omega, ?_⟩
      refine wk1 ?_ rfl (by simp [Blk.under, T.under]) (lc (li ?_) (lc (ls rfl rfl) (lc (li ?_) (lc (ls rfl rfl) lnil))))
      · show [Blk.tree 62 (.e (.agg ((bk n k (j + 1)).set _ (.int _))))] = _
        rw [← bk_set n k j (by omega)]
        have e1 : (((j + 1 : Nat) : Int) - 1).toNat = j := by omega
        have e2 : IntKind.wrap .u8 (((n / 256 ^ (k - (j + 1)) : Nat) : Int).tmod 256) = ((n / 256 ^ (k - 1 - j) % 256 : Nat) : Int) := by
          rw [show k - 1 - j = k - (j + 1) by omega]
          generalize n / 256 ^ (k - (j + 1)) = q
          rw [wrap_eq]; simp only []
          rw [Int.tmod_eq_emod_of_nonneg (by omega)]; omega
        rw [e1, e2]; rfl
      · rw [w64 (by omega) (by omega)]; omega
      · rw [inR_wrap]
        · rw [show k - j = k - (j + 1) + 1 by omega, Nat.pow_succ, ← Nat.div_div_eq_div_mul]; rfl
        · generalize n / 256 ^ (k - (j + 1)) = q at hq
          simp only [inR, Bool.and_eq_true, decide_eq_true_eq]
          rw [Int.tdiv_eq_ediv_of_nonneg (by omega)]
          omega
    · have : i = 0 := by simp at h; omega
      subst this
      refine VX_go3 (fs := []) (ok 0 _) eqs trivial 100 [] rfl trivial ?_
      apply loop_brk
      refine VX_go3 (fs := []) (ok 0 _) eqs trivial 100 [] rfl ?_ ?_
      · simp [allP]; omega
      refine ⟨.inr rfl, ?_⟩
      rw [← bk_done n k hk8]; rfl
theorem byte_ok (n : Nat) (hn : n < 256) : FnOk Tryd.prog tb 23 [5] [9] [.int n] [.str (bigB n 1)] := by
  refine FnOk_of_V (fn := Tryd.f23) (bt := 4) (ok 0 _) Tryd.func23 rfl rfl rfl (by decide) fun hw => ?_
  apply V_of_VX
  refine VX_go3 (fs := []) (ok 0 _) eqs trivial 100 [] rfl trivial ?_
  have e : IntKind.wrap .u64 (n : Int) = n := inR_wrap (by simp [inR]; omega)
  refine VX_eq 4 rfl rfl (d' := .t 23 (.e (.int n))) (by rw [e]; rfl) ?_
  refine VX_callD (ok 0 _) [23, 3] [] rfl rfl rfl rfl rfl rfl (big_ok n 1 (by omega) (by omega) (by omega)).g rfl rfl rfl ?_
  refine VX_go3 (fs := []) (ok 0 _) eqs trivial 100 [] rfl trivial ?_
  exact ⟨.inr rfl, rfl⟩
theorem word_ok (n : Nat) (hn : n < 4294967296) : FnOk Tryd.prog tb 24 [22] [9] [.int n] [.str (bigB n 4)] := by
  refine FnOk_of_V (fn := Tryd.f24) (bt := 4) (ok 0 _) Tryd.func24 rfl rfl rfl (by decide) fun hw => ?_
  apply V_of_VX
  refine VX_go3 (fs := []) (ok 0 _) eqs trivial 100 [] rfl trivial ?_
  have e : IntKind.wrap .u64 (n : Int) = n := inR_wrap (by simp [inR]; omega)
  refine VX_eq 4 rfl rfl (d' := .t 23 (.e (.int n))) (by rw [e]; rfl) ?_
  refine VX_callD (ok 0 _) [23, 3] [] rfl rfl rfl rfl rfl rfl (big_ok n 4 (by omega) (by omega) (by omega)).g rfl rfl rfl ?_
  refine VX_go3 (fs := []) (ok 0 _) eqs trivial 100 [] rfl trivial ?_
  exact ⟨.inr rfl, rfl⟩
theorem long_ok (n : Nat) (hn : n < 18446744073709551616) : FnOk Tryd.prog tb 25 [23] [9] [.int n] [.str (bigB n 8)] := by
  refine FnOk_of_V (fn := Tryd.f25) (bt := 4) (ok 0 _) Tryd.func25 rfl rfl rfl (by decide) fun hw => ?_
  apply V_of_VX
  refine VX_go3 (fs := []) (ok 0 _) eqs trivial 100 [] rfl trivial ?_
  refine VX_callD (ok 0 _) [23, 3] [] rfl rfl rfl rfl rfl rfl (big_ok n 8 (by omega) (by omega) (by omega)).g rfl rfl rfl ?_
  refine VX_go3 (fs := []) (ok 0 _) eqs trivial 100 [] rfl trivial ?_
  exact ⟨.inr rfl, rfl⟩
/-- A digest's bytes. -/
def dB (xs : List E) : List UInt8 := ((xs.drop 0).take 32).map byteOf
theorem digest_ok (xs : List E) : FnOk Tryd.prog tb 16 [25] [9] [.agg xs] [.str (dB xs)] := by
  refine FnOk_of_V (fn := Tryd.f16) (bt := 4) (ok 0 _) Tryd.func16 rfl rfl rfl (by decide) fun hw => ?_
  apply V_of_VX
  refine VX_go3 (fs := []) (ok 0 _) eqs trivial 100 [] rfl (by simp [allP]) ?_
  exact ⟨.inr rfl, rfl⟩
theorem bytes_ok (xs : List E) : FnOk Tryd.prog tb 19 [25] [9] [.agg xs] [.str (dB xs)] := by
  refine FnOk_of_V (fn := Tryd.f19) (bt := 4) (ok 0 _) Tryd.func19 rfl rfl rfl (by decide) fun hw => ?_
  apply V_of_VX
  refine VX_go3 (fs := []) (ok 0 _) eqs trivial 100 [] rfl (by simp [allP]) ?_
  exact ⟨.inr rfl, rfl⟩
def textB (s : List UInt8) : List UInt8 := bigB s.length 4 ++ s
theorem text_ok (s : List UInt8) (hs : s.length ≤ 1000000) : FnOk Tryd.prog tb 41 [9] [9] [.str s] [.str (textB s)] := by
  refine FnOk_of_V (fn := Tryd.f41) (bt := 4) (ok 0 _) Tryd.func41 rfl rfl rfl (by decide) fun hw => ?_
  apply V_of_VX
  refine VX_go3 (fs := []) (ok 0 _) eqs trivial 100 [] rfl trivial ?_
  have e : IntKind.wrap .u32 (s.length : Int) = s.length := inR_wrap (by simp [inR]; omega)
  refine VX_eq 5 rfl rfl (d' := .t 22 (.e (.int s.length))) (by rw [e]; rfl) ?_
  refine VX_callD (ok 0 _) [22] [] rfl rfl rfl rfl rfl rfl (word_ok s.length (by omega)).g rfl rfl rfl ?_
  refine VX_go3 (fs := []) (ok 0 _) eqs trivial 100 [] rfl ?_ ?_
  · simp [allP, bigB_length, maxI]; omega
  exact ⟨.inr rfl, rfl⟩
theorem rtext_ok (s : List UInt8) (hs : s.length ≤ 1000000) : FnOk Tryd.prog tb 46 [9] [9] [.str s] [.str (textB s)] := by
  refine FnOk_of_V (fn := Tryd.f46) (bt := 4) (ok 0 _) Tryd.func46 rfl rfl rfl (by decide) fun hw => ?_
  apply V_of_VX
  refine VX_go3 (fs := []) (ok 0 _) eqs trivial 100 [] rfl trivial ?_
  have e : IntKind.wrap .u64 (s.length : Int) = s.length := inR_wrap (by simp [inR]; omega)
  refine VX_eq 5 rfl rfl (d' := .t 23 (.e (.int s.length))) (by rw [e]; rfl) ?_
  refine VX_callD (ok 0 _) [23, 3] [] rfl rfl rfl rfl rfl rfl (Big_ok s.length 4 (by omega) (by omega) (by omega)).g rfl rfl rfl ?_
  refine VX_go3 (fs := []) (ok 0 _) eqs trivial 100 [] rfl ?_ ?_
  · simp [allP, bigB_length, maxI]; omega
  exact ⟨.inr rfl, rfl⟩
end Go.Den.Q21.Wi
namespace Go.Den.Q21.Wi
open Go Go.Den Go.Proofs
set_option maxRecDepth 8000
set_option linter.unusedVariables false
theorem noEsc (x : Value) (w : World) : (callFunc 56 #[x]).run Tryd.prog w = .ok (.value x) w := rfl
/-- A builder and its row. -/
def bld (a : T) (n : Nat) (bs : List E) : List Blk := [.tree 73 (.st [a, .msl 1 n]), .mrow 5 true bs]
theorem check_ok (a : T) (ha : a = .e .nilp ∨ a = .ptr 0 []) (n : Nat) (bs : List E) : FnG Tryd.prog tb 52 (bld a n bs) [.ptr 0 []] (fun d s => d = .tup [] ∧ s = bld (.ptr 0 []) n bs) := by
  refine FnG_of_V (fn := Tryd.f52) (bt := 4) false [] [] (ok 2 _) Tryd.func52 rfl rfl rfl fun _ _ _ _ _ _ => ?_
  apply V_of_VX
  rcases ha with rfl | rfl
  · refine VX_go3 (fs := []) (ok 2 _) eqs trivial 100 [] rfl trivial ?_
    refine VX_op rfl rfl (OpV_toUnsafe (v := 73) (o' := 0) (u := 73) (ok 2 _) rfl rfl (by decide) (by kernel_rfl) rfl rfl rfl (by decide)) ?_
    rintro d s ⟨rfl, rfl⟩
    refine VX_op rfl rfl (OpV_noEscape (ok 2 _) rfl noEsc rfl) ?_
    rintro d s ⟨rfl, rfl⟩
    refine VX_op rfl rfl (OpV_ofUnsafe (v := 73) (o' := 0) (u := 73) (ok 2 _) rfl (by kernel_rfl) rfl (by decide) rfl rfl rfl (by decide) (by kernel_rfl)) ?_
    rintro d s ⟨rfl, rfl⟩
    refine VX_go3 (fs := []) (ok 2 _) eqs trivial 100 [] rfl trivial ?_
    exact ⟨.inl rfl, _, _, _, rfl, rfl, rfl, rfl, rfl⟩
  · refine VX_go3 (fs := []) (ok 2 _) eqs trivial 100 [] rfl (by simp [allP, td, tb]) ?_
    exact ⟨.inl rfl, _, _, _, rfl, rfl, rfl, rfl, rfl⟩
theorem writeS_ok (a : T) (ha : a = .e .nilp ∨ a = .ptr 0 []) (bs : List E) (s : List UInt8) (h1 : bs.length ≤ 1000000) (h2 : s.length ≤ 1000000) :
    FnG Tryd.prog tb 40 (bld a bs.length bs) [.ptr 0 [], .t 9 (.e (.str s))] (fun d t => d = .tup [.t 3 (.e (.int s.length)), .t 75 (.e .nili)] ∧ t = bld (.ptr 0 []) (bs.length + (s.map byteE).length) (bs ++ s.map byteE)) := by
  refine FnG_of_V (fn := Tryd.f40) (bt := 4) false [] [3, 75] (ok 2 _) Tryd.func40 rfl rfl rfl fun _ _ _ _ _ _ => ?_
  rcases ha with rfl | rfl
  all_goals
    apply V_of_VX
    refine VX_go3 (fs := []) (ok 2 _) eqs trivial 100 [] rfl trivial ?_
    refine VX_callD (ok 2 _) [71] [0, 1] rfl rfl rfl rfl rfl rfl (check_ok _ (by simp) bs.length bs) rfl rfl rfl ?_
    refine VX_go3 (fs := []) (ok 2 _) eqs trivial 100 [] rfl ?_ ?_
    · refine ⟨rfl, ?_, ?_⟩ <;> simp [nb, tb, maxL] <;> omega
    exact ⟨.inr rfl, _, _, _, rfl, rfl, rfl, rfl, rfl⟩
theorem string_ok (a : T) (ha : a = .e .nilp ∨ a = .ptr 0 []) (bs : List E) :
    FnG Tryd.prog tb 42 (bld a bs.length bs) [.ptr 0 []] (fun d t => d = .t 9 (.e (.str (bs.map byteOf))) ∧ t = [.tree 73 (.st [a, .msl 1 bs.length]), .mrow 5 false bs]) := by
  refine FnG_of_V (fn := Tryd.f42) (bt := 4) false [] [9] (ok 2 _) Tryd.func42 rfl rfl rfl fun _ _ _ _ _ _ => ?_
  apply V_of_VX
  refine VX_go3 (fs := []) (ok 2 _) eqs trivial 100 [] rfl trivial ?_
  refine VX_draw [1] [(0, true), (1, true), (2, true), (3, true), (4, true), (5, true), (6, true), (7, true), (8, true), (9, true), (10, false), (11, true)] mixed (by kernel_rfl) (by kernel_rfl) (by kernel_rfl) ?_
  refine VX_go3 (fs := []) (ok 2 _) eqs trivial 100 [] rfl rfl ?_
  refine VX_opO rfl rfl rfl (OpF_unsafeString (ok 2 _) rfl rfl rfl rfl rfl rfl rfl rfl rfl rfl rfl rfl (by simp)) ?_
  rintro d s ⟨rfl, rfl⟩
  refine VX_go3 (fs := []) (ok 2 _) eqs trivial 100 [] rfl trivial ?_
  rcases ha with rfl | rfl
  · exact ⟨.inr rfl, _, _, _, rfl, rfl, rfl, rfl, rfl⟩
  · exact ⟨.inr rfl, _, _, _, rfl, rfl, rfl, rfl, rfl⟩
end Go.Den.Q21.Wi
namespace Go.Den.Q21.Wi
open Go Go.Den Go.Proofs
set_option maxRecDepth 8000
set_option linter.unusedVariables false
def z32 : List E := List.replicate 32 (.int 0)
end Go.Den.Q21.Wi
namespace Go.Den.Q21.Wi
open Go Go.Den Go.Proofs
set_option maxRecDepth 8000
set_option linter.unusedVariables false
def takeB (s : List UInt8) (e : Int) (n : Nat) : List UInt8 × List UInt8 × Int :=
  if e = 0 then if s.length < n then ([], s, 3) else (s.take n, s.drop n, 0) else ([], s, e)
def numV (l : List UInt8) : Nat := l.foldl (fun n c => n * 256 + c.toNat) 0
theorem numV_snoc (l : List UInt8) (c : UInt8) : numV (l ++ [c]) = numV l * 256 + c.toNat := by simp [numV]
theorem numV_lt : ∀ (n : Nat) (l : List UInt8), l.length = n → numV l < 256 ^ n
  | 0, l, h => by have : l = [] := List.length_eq_zero_iff.1 h; subst this; simp [numV]
  | n + 1, l, h => by
    have hne : l ≠ [] := by intro e; rw [e] at h; simp at h
    obtain ⟨m, c, rfl⟩ : ∃ m c, l = m ++ [c] := ⟨l.dropLast, l.getLast hne, (List.dropLast_concat_getLast hne).symm⟩
    have ih := numV_lt n m (by simpa using h)
    rw [numV_snoc, Nat.pow_succ]
    have := c.toNat_lt
    have : numV m + 1 ≤ 256 ^ n := ih
    have h2 := Nat.mul_le_mul_right 256 this
    omega
theorem bigB_succ (n k : Nat) : bigB n (k + 1) = bigB (n / 256) k ++ [UInt8.ofNat (n % 256)] := by
  unfold bigB
  rw [List.range_succ, List.map_append]
  congr 1
  · apply List.map_congr_left
    intro i hi
    have hi : i < k := by simpa using hi
    rw [show k + 1 - 1 - i = (k - 1 - i) + 1 by omega, Nat.pow_succ, Nat.mul_comm, ← Nat.div_div_eq_div_mul]
  · simp
theorem bigB_numV : ∀ (k : Nat) (l : List UInt8), l.length = k → bigB (numV l) k = l
  | 0, l, h => by have : l = [] := List.length_eq_zero_iff.1 h; subst this; rfl
  | k + 1, l, h => by
    have hne : l ≠ [] := by intro e; rw [e] at h; simp at h
    obtain ⟨m, c, rfl⟩ : ∃ m c, l = m ++ [c] := ⟨l.dropLast, l.getLast hne, (List.dropLast_concat_getLast hne).symm⟩
    have hc := c.toNat_lt
    rw [numV_snoc, bigB_succ, show (numV m * 256 + c.toNat) / 256 = numV m by omega, show (numV m * 256 + c.toNat) % 256 = c.toNat by omega, bigB_numV k m (by simpa using h)]
    simp
theorem numV_bigB : ∀ (k n : Nat), n < 256 ^ k → numV (bigB n k) = n
  | 0, n, h => by have : n = 0 := by simpa using h
                  subst this; rfl
  | k + 1, n, h => by
    rw [bigB_succ, numV_snoc, numV_bigB k (n / 256) (by rw [Nat.pow_succ] at h; exact Nat.div_lt_of_lt_mul (by rw [Nat.mul_comm]; exact h))]
    have : (UInt8.ofNat (n % 256)).toNat = n % 256 := by simp [UInt8.toNat_ofNat']
    rw [this]; omega
theorem or_byte (n c : Nat) (hn : n < 72057594037927936) (hc : c < 256) : bitop .or .u64 ((n * 256 : Nat) : Int) (c : Int) = ((n * 256 + c : Nat) : Int) := by
  have h1 : BitVec.ofInt 64 ((n * 256 : Nat) : Int) = BitVec.ofNat 64 (n * 256) := BitVec.ofInt_natCast _ _
  have h2 : BitVec.ofInt 64 (c : Int) = BitVec.ofNat 64 c := BitVec.ofInt_natCast _ _
  have h3 : (BitVec.ofNat 64 (n * 256) ||| BitVec.ofNat 64 c).toNat = n * 256 + c := by
    rw [BitVec.toNat_or, BitVec.toNat_ofNat, BitVec.toNat_ofNat, Nat.mod_eq_of_lt (by omega), Nat.mod_eq_of_lt (by omega)]
    have := Nat.shiftLeft_add_eq_or_of_lt (a := n) (b := c) (i := 8) (by omega)
    rw [Nat.shiftLeft_eq] at this
    exact this.symm
  show IntKind.wrap .u64 ((BitVec.ofInt 64 _ ||| BitVec.ofInt 64 _).toNat : Int) = _
  rw [h1, h2, h3]
  exact inR_wrap (by simp [inR]; omega)
theorem takeB_len (s : List UInt8) (e : Int) (n : Nat) : (takeB s e n).1.length ≤ n := by
  unfold takeB; split
  · split
    · simp
    · simp; omega
  · simp
def rd (s : List UInt8) (e : Int) : Blk := .tree 99 (.e (.agg [.str s, .int e]))
theorem take_ok (s : List UInt8) (e : Int) (n : Nat) : FnG Tryd.prog tb 51 [rd s e] [.ptr 0 [], .t 3 (.e (.int n))] (fun d t => d = .t 9 (.e (.str (takeB s e n).1)) ∧ t = [rd (takeB s e n).2.1 (takeB s e n).2.2]) := by
  refine FnG_of_V (fn := Tryd.f51) (bt := 4) false [] [9] (ok 1 _) Tryd.func51 rfl rfl rfl fun _ _ _ _ _ _ => ?_
  apply V_of_VX
  refine VX_go3 (fs := []) (ok 1 _) eqs trivial 100 [] rfl trivial ?_
  refine VX_split 6 rfl rfl (fun h => ?_) (fun h => ?_)
  · have he : e ≠ 0 := by simpa using h
    refine VX_go3 (fs := []) (ok 1 _) eqs trivial 100 [] rfl trivial ?_
    refine ⟨.inr rfl, _, _, _, rfl, rfl, rfl, ?_⟩
    simp only [takeB, if_neg he]; exact ⟨rfl, rfl⟩
  · have he : e = 0 := by simpa using h
    subst he
    refine VX_go3 (fs := []) (ok 1 _) eqs trivial 100 [] rfl trivial ?_
    refine VX_split 16 rfl rfl (fun h => ?_) (fun h => ?_)
    · have hn : s.length < n := by simpa using h
      refine VX_go3 (fs := []) (ok 1 _) eqs trivial 100 [] rfl trivial ?_
      refine ⟨.inr rfl, _, _, _, rfl, rfl, rfl, ?_⟩
      simp only [takeB, if_pos hn]; exact ⟨rfl, rfl⟩
    · have hn : ¬ s.length < n := by simpa using h
      refine VX_go3 (fs := []) (ok 1 _) eqs trivial 100 [] rfl ?_ ?_
      · simp only [allP]; omega
      refine ⟨.inr rfl, _, _, _, rfl, rfl, rfl, ?_⟩
      simp only [takeB, if_neg hn, if_true]
      constructor
      · show D.t 9 (.e (.str ((s.take n).drop 0))) = _; rfl
      · show [Blk.tree 99 (.e (.agg [.str ((s.take s.length).drop n), .int 0]))] = _
        rw [List.take_length]; rfl
theorem getD_byte {l : List UInt8} {i : Nat} (h : i < l.length) : (l.map byteE).getD i .nilp = .int (l[i].toNat : Nat) := by simp [List.getD, h, byteE]
theorem number_ok (s : List UInt8) (e : Int) (k : Nat) (hk : k ≤ 8) : FnG Tryd.prog tb 50 [rd s e] [.ptr 0 [], .t 3 (.e (.int k))] (fun d t => d = .t 23 (.e (.int (numV (takeB s e k).1))) ∧ t = [rd (takeB s e k).2.1 (takeB s e k).2.2]) := by
  refine FnG_of_V (fn := Tryd.f50) (bt := 4) false [] [23] (ok 1 _) Tryd.func50 rfl rfl rfl fun _ _ _ _ _ _ => ?_
  apply V_of_VX
  refine VX_go3 (fs := []) (ok 1 _) eqs trivial 100 [] rfl trivial ?_
  refine VX_callD (ok 1 _) [64, 3] [0] rfl rfl rfl rfl rfl rfl (take_ok s e k) rfl rfl rfl ?_
  have hlen := takeB_len s e k
  generalize (takeB s e k).1 = l at hlen ⊢
  generalize (takeB s e k).2.1 = s'
  generalize (takeB s e k).2.2 = e'
  refine VX_op rfl rfl (OpV_bytes (ok 1 _) rfl rfl rfl rfl rfl rfl) ?_
  rintro d σ ⟨rfl, rfl⟩
  refine VX_go3 (fs := []) (ok 1 _) eqs trivial 100 [] rfl trivial ?_
  refine VX_loopA (fun i : Nat => i ≤ l.length) (fun i => [(13, .t 3 (.e (.int i))), (12, .t 3 (.e (.int l.length))), (11, .t 58 (.e (.sl (l.map byteE)))), (5, .t 23 (.e (.int (numV (l.take i)))))]) (fun _ => [rd s' e']) (fun i => l.length - i) 0 (by omega) ?_ ?_
  · exact wk1 rfl rfl (by simp [rd, Blk.under, T.under]) (lc (ls rfl rfl) (lc (li (by simp)) (lc (ls rfl rfl) (lc (ls rfl rfl) lnil))))
  · intro i hi
    refine VX_go3 (fs := []) (ok 1 _) eqs trivial 100 [] rfl trivial ?_
    refine VX_split 14 rfl rfl (fun h => ?_) (fun h => ?_)
    · have hi : i < l.length := by simpa using h
      refine VX_go3 (fs := []) (ok 1 _) eqs trivial 100 [7] rfl ?_ ?_
      · simp [allP]; omega
      refine VX_eq 16 rfl rfl (d' := .t 5 (.e (.int (l[i].toNat : Nat)))) (congrArg (fun x => D.t 5 (.e x)) (getD_byte hi)) ?_
      have hb := l[i].toNat_lt
      have hv : numV (l.take i) < 256 ^ i := numV_lt i _ (by simp; omega)
      have hv7 : numV (l.take i) < 72057594037927936 := by
        have : (256 : Nat) ^ i ≤ 256 ^ 7 := Nat.pow_le_pow_right (by omega) (by omega)
        have h7 : (256 : Nat) ^ 7 = 72057594037927936 := by decide
        omega
      have hsucc : numV (l.take (i + 1)) = numV (l.take i) * 256 + l[i].toNat := by
        rw [List.take_add_one, List.getElem?_eq_getElem hi]; exact numV_snoc _ _
      have e1 : IntKind.wrap .u64 ((numV (l.take i) : Int) * 2 ^ (min (Int.toNat 8) IntKind.u64.bits)) = ((numV (l.take i) * 256 : Nat) : Int) := by
        have : (2 : Int) ^ (min (Int.toNat 8) IntKind.u64.bits) = 256 := by decide
        rw [this, inR_wrap (by simp [inR]; omega)]; norm_cast
      have e2 : IntKind.wrap .u64 ((l[i].toNat : Nat) : Int) = ((l[i].toNat : Nat) : Int) := inR_wrap (by simp [inR]; omega)
      refine VX_go3 (fs := []) (ok 1 _) eqs trivial 100 [21] rfl (by simp [allP, arithP]) ?_
      refine VX_eq 18 rfl rfl (d' := .t 23 (.e (.int ((numV (l.take i) * 256 : Nat) : Int)))) (congrArg (fun x => D.t 23 (T.e (E.int x))) e1) ?_
      refine VX_eq 20 rfl rfl (d' := .t 23 (.e (.int ((l[i].toNat : Nat) : Int)))) (congrArg (fun x => D.t 23 (T.e (E.int x))) e2) ?_
      refine VX_go3 (fs := []) (ok 1 _) eqs trivial 100 [] rfl trivial ?_
      refine loop_nrm ⟨i + 1, by omega, by omega, ?_⟩
      refine wk1 rfl rfl (by simp [rd, Blk.under, T.under]) (lc (li ?_) (lc (ls rfl rfl) (lc (ls rfl rfl) (lc (li ?_) lnil))))
      · rw [w64 (by omega) (by omega)]; simp
      · rw [hsucc, ← or_byte _ _ hv7 hb]
    · have : i = l.length := by simp at h; omega
      subst this
      refine VX_go3 (fs := []) (ok 1 _) eqs trivial 100 [] rfl trivial ?_
      apply loop_brk
      refine VX_go3 (fs := []) (ok 1 _) eqs trivial 100 [] rfl trivial ?_
      refine ⟨.inr rfl, _, _, _, rfl, rfl, rfl, ?_⟩
      rw [List.take_length]; exact ⟨rfl, rfl⟩
end Go.Den.Q21.Wi
namespace Go.Den.Q21.Wi
open Go Go.Den Go.Proofs
set_option maxRecDepth 8000
set_option linter.unusedVariables false
theorem numV_le {l : List UInt8} {k : Nat} (h : l.length ≤ k) : numV l < 256 ^ k := Nat.lt_of_lt_of_le (numV_lt _ l rfl) (Nat.pow_le_pow_right (by omega) h)
theorem byteR_ok (s : List UInt8) (e : Int) : FnG Tryd.prog tb 33 [rd s e] [.ptr 0 []] (fun d t => d = .t 5 (.e (.int (numV (takeB s e 1).1))) ∧ t = [rd (takeB s e 1).2.1 (takeB s e 1).2.2]) := by
  refine FnG_of_V (fn := Tryd.f33) (bt := 4) false [] [5] (ok 1 _) Tryd.func33 rfl rfl rfl fun _ _ _ _ _ _ => ?_
  apply V_of_VX
  refine VX_go3 (fs := []) (ok 1 _) eqs trivial 100 [] rfl trivial ?_
  refine VX_callD (ok 1 _) [64, 3] [0] rfl rfl rfl rfl rfl rfl (number_ok s e 1 (by omega)) rfl rfl rfl ?_
  have hv := numV_le (takeB_len s e 1)
  have e1 : IntKind.wrap .u8 ((numV (takeB s e 1).1 : Nat) : Int) = (numV (takeB s e 1).1 : Nat) := inR_wrap (by simp [inR]; omega)
  refine VX_go3 (fs := []) (ok 1 _) eqs trivial 100 [2] rfl trivial ?_
  refine VX_eq 5 rfl rfl (d' := .t 5 (.e (.int (numV (takeB s e 1).1 : Nat)))) (congrArg (fun x => D.t 5 (T.e (E.int x))) e1) ?_
  refine VX_go3 (fs := []) (ok 1 _) eqs trivial 100 [] rfl trivial ?_
  exact ⟨.inr rfl, _, _, _, rfl, rfl, rfl, rfl, rfl⟩
theorem wordR_ok (s : List UInt8) (e : Int) : FnG Tryd.prog tb 34 [rd s e] [.ptr 0 []] (fun d t => d = .t 22 (.e (.int (numV (takeB s e 4).1))) ∧ t = [rd (takeB s e 4).2.1 (takeB s e 4).2.2]) := by
  refine FnG_of_V (fn := Tryd.f34) (bt := 4) false [] [22] (ok 1 _) Tryd.func34 rfl rfl rfl fun _ _ _ _ _ _ => ?_
  apply V_of_VX
  refine VX_go3 (fs := []) (ok 1 _) eqs trivial 100 [] rfl trivial ?_
  refine VX_callD (ok 1 _) [64, 3] [0] rfl rfl rfl rfl rfl rfl (number_ok s e 4 (by omega)) rfl rfl rfl ?_
  have hv := numV_le (takeB_len s e 4)
  have e1 : IntKind.wrap .u32 ((numV (takeB s e 4).1 : Nat) : Int) = (numV (takeB s e 4).1 : Nat) := inR_wrap (by simp [inR]; omega)
  refine VX_go3 (fs := []) (ok 1 _) eqs trivial 100 [2] rfl trivial ?_
  refine VX_eq 5 rfl rfl (d' := .t 22 (.e (.int (numV (takeB s e 4).1 : Nat)))) (congrArg (fun x => D.t 22 (T.e (E.int x))) e1) ?_
  refine VX_go3 (fs := []) (ok 1 _) eqs trivial 100 [] rfl trivial ?_
  exact ⟨.inr rfl, _, _, _, rfl, rfl, rfl, rfl, rfl⟩
theorem longR_ok (s : List UInt8) (e : Int) : FnG Tryd.prog tb 35 [rd s e] [.ptr 0 []] (fun d t => d = .t 23 (.e (.int (numV (takeB s e 8).1))) ∧ t = [rd (takeB s e 8).2.1 (takeB s e 8).2.2]) := by
  refine FnG_of_V (fn := Tryd.f35) (bt := 4) false [] [23] (ok 1 _) Tryd.func35 rfl rfl rfl fun _ _ _ _ _ _ => ?_
  apply V_of_VX
  refine VX_go3 (fs := []) (ok 1 _) eqs trivial 100 [] rfl trivial ?_
  refine VX_callD (ok 1 _) [64, 3] [0] rfl rfl rfl rfl rfl rfl (number_ok s e 8 (by omega)) rfl rfl rfl ?_
  refine VX_go3 (fs := []) (ok 1 _) eqs trivial 100 [] rfl trivial ?_
  exact ⟨.inr rfl, _, _, _, rfl, rfl, rfl, rfl, rfl⟩
def dgE (l : List UInt8) : List E := putAt z32 0 ((l.map byteE).take (min (l.map byteE).length 32))
theorem dgE_of {l : List UInt8} (h : 32 ≤ l.length) : dgE l = (l.take 32).map byteE := by
  unfold dgE
  rw [List.length_map, Nat.min_eq_right h]
  unfold putAt
  have : ((l.map byteE).take 32).length = 32 := by simp; omega
  rw [this]
  simp [z32]
theorem digestR_ok (s : List UInt8) (e : Int) : FnG Tryd.prog tb 36 [rd s e] [.ptr 0 []] (fun d t => d = .t 25 (.e (.agg (dgE (takeB s e 32).1))) ∧ t = [rd (takeB s e 32).2.1 (takeB s e 32).2.2]) := by
  refine FnG_of_V (fn := Tryd.f36) (bt := 4) false [] [25] (ok 1 _) Tryd.func36 rfl rfl rfl fun _ _ _ _ _ _ => ?_
  apply V_of_VX
  refine VX_go3 (fs := []) (ok 1 _) eqs trivial 100 [] rfl trivial ?_
  refine VX_draw [0, 2] [(0, true), (1, true), (2, false), (3, false)] mixed (by kernel_rfl) (by kernel_rfl) (by kernel_rfl) ?_
  refine VX_go3 (fs := []) (ok 1 _) eqs trivial 100 [] rfl (by simp [allP]) ?_
  refine VX_callO (ok 1 _) [64, 3] [0] rfl rfl rfl rfl rfl rfl rfl rfl (take_ok s e 32) rfl rfl rfl ?_
  refine VX_copyO (ok 1 _) rfl rfl rfl rfl rfl rfl (by simp) ?_
  refine VX_go3 (fs := []) (ok 1 _) eqs trivial 100 [] rfl trivial ?_
  exact ⟨.inr rfl, _, _, _, rfl, rfl, rfl, rfl, rfl⟩
end Go.Den.Q21.Wi
namespace Go.Den.Q21.Wi
open Go Go.Den Go.Proofs
set_option maxRecDepth 8000
set_option linter.unusedVariables false
def endB (s : List UInt8) (e : Int) : Int := if e = 0 ∧ s ≠ [] then 4 else e
theorem end_ok (s : List UInt8) (e : Int) : FnG Tryd.prog tb 37 [rd s e] [.ptr 0 []] (fun d t => d = .t 69 (.e (.int (endB s e))) ∧ t = [rd s e]) := by
  refine FnG_of_V (fn := Tryd.f37) (bt := 4) false [] [69] (ok 1 _) Tryd.func37 rfl rfl rfl fun _ _ _ _ _ _ => ?_
  apply V_of_VX
  refine VX_go3 (fs := []) (ok 1 _) eqs trivial 100 [] rfl trivial ?_
  refine VX_split 12 rfl rfl (fun h => ?_) (fun h => ?_)
  · have he : e = 0 := by simpa using h
    refine VX_go3 (fs := []) (ok 1 _) eqs trivial 100 [] rfl trivial ?_
    refine VX_split 6 rfl rfl (fun h => ?_) (fun h => ?_)
    · have hs : s ≠ [] := by simpa using h
      refine VX_go3 (fs := []) (ok 1 _) eqs trivial 100 [] rfl trivial ?_
      refine ⟨.inr rfl, _, _, _, rfl, rfl, rfl, ?_⟩
      unfold endB; rw [if_pos ⟨he, hs⟩]; exact ⟨rfl, rfl⟩
    · have hs : s = [] := by simpa using h
      refine VX_go3 (fs := []) (ok 1 _) eqs trivial 100 [] rfl trivial ?_
      refine ⟨.inr rfl, _, _, _, rfl, rfl, rfl, ?_⟩
      unfold endB; rw [if_neg (fun h => h.2 hs)]; exact ⟨rfl, rfl⟩
  · have he : e ≠ 0 := by simpa using h
    refine VX_go3 (fs := []) (ok 1 _) eqs trivial 100 [] rfl trivial ?_
    refine ⟨.inr rfl, _, _, _, rfl, rfl, rfl, ?_⟩
    unfold endB; rw [if_neg (fun h => he h.1)]; exact ⟨rfl, rfl⟩
theorem over_ok (s : List UInt8) : FnG Tryd.prog tb 32 [] [.t 9 (.e (.str s))] (fun d t => d = .ptr 0 [] ∧ t = [rd s 0]) := by
  refine FnG_of_V (fn := Tryd.f32) (bt := 4) false [0] [64] (ok 0 _) Tryd.func32 rfl rfl rfl fun _ _ _ _ _ _ => ?_
  apply V_of_VX
  refine VX_go3 (fs := []) (ok 0 _) eqs trivial 100 [] rfl trivial ?_
  exact ⟨.inr rfl, _, _, _, rfl, rfl, rfl, rfl, rfl⟩
end Go.Den.Q21.Wi
/- Digests of inputs, without a log. -/
namespace Go.Den.Q21.Dg
open Go Go.Den Go.Proofs Go.Den.Q21
set_option maxRecDepth 8000
set_option linter.unusedVariables false
set_option linter.unusedSimpArgs false

def inputB (x : UInt8) (ps : List (List UInt8)) : List UInt8 := [x] ++ (ps.map Wi.textB).flatten
def ofB (x : UInt8) (ps : List (List UInt8)) : List UInt8 := Sh.shaB (inputB x ps)
theorem inputB_succ (x : UInt8) (ps : List (List UInt8)) (i : Nat) (h : i < ps.length) : inputB x (ps.take (i + 1)) = inputB x (ps.take i) ++ Wi.textB ps[i] := by
  have : ps.take (i + 1) = ps.take i ++ [ps[i]] := by rw [List.take_add_one, List.getElem?_eq_getElem h]; rfl
  rw [this]; simp only [inputB, List.map_append, List.flatten_append, List.map_cons, List.map_nil, List.flatten_cons, List.flatten_nil, List.append_nil, List.append_assoc]
theorem inputB_le (x : UInt8) : ∀ (ps : List (List UInt8)) (i : Nat), (inputB x (ps.take i)).length ≤ (inputB x ps).length
  | [], i => by simp
  | p :: ps, 0 => by simp [inputB]
  | p :: ps, i + 1 => by
    have := inputB_le x ps i
    simp only [inputB, List.take_succ_cons, List.map_cons, List.flatten_cons, List.length_append] at this ⊢
    omega
theorem part_le (x : UInt8) : ∀ (ps : List (List UInt8)) (i : Nat) (h : i < ps.length), ps[i].length ≤ (inputB x ps).length
  | [], i, h => by simp at h
  | p :: ps, 0, h => by simp only [inputB, List.map_cons, List.flatten_cons, List.length_append, List.getElem_cons_zero, Wi.textB]; omega
  | p :: ps, i + 1, h => by
    have := part_le x ps i (by simpa using h)
    simp only [inputB, List.map_cons, List.flatten_cons, List.length_append, List.getElem_cons_succ] at this ⊢
    omega
theorem shaB_length (s : List UInt8) : (Sh.shaB s).length = 32 := Sh.digL_length _ _
theorem ofB_length (x : UInt8) (ps : List (List UInt8)) : (ofB x ps).length = 32 := shaB_length _
theorem len_parts (x : UInt8) (ps : List (List UInt8)) : ps.length ≤ (inputB x ps).length := by
  induction ps with
  | nil => simp
  | cons p ps ih => simp only [inputB, List.map_cons, List.flatten_cons, List.length_append, List.length_cons, Wi.textB, Wi.bigB_length] at ih ⊢; omega

theorem input_ok (x : UInt8) (ps : List (List UInt8)) (hl : (inputB x ps).length ≤ 900000) : FnOk Tryd.prog tb 26 [5, 51] [9] [byteE x, .sl (ps.map E.str)] [.str (inputB x ps)] := by
  refine FnOk_of_V (fn := Tryd.f26) (bt := 4) (ok 0 _) Tryd.func26 rfl rfl rfl (by decide) fun hw => ?_
  clear hw
  apply V_of_VX
  have hpl := len_parts x ps
  refine VX_go4 (fs := []) (ok 0 _) eqs trivial 100 [] rfl trivial ?_
  refine VX_promM (ok 0 _) rfl 0 [1] rfl rfl rfl rfl rfl ?_
  refine VX_callD (ok 0 _) [71, 5] [0, 1] rfl rfl rfl rfl rfl rfl (Sh.writeB_ok (.e .nilp) (.inl rfl) [] x (by simp)) rfl rfl rfl ?_
  refine VX_go4 (fs := []) (ok 0 _) eqs trivial 100 [] rfl trivial ?_
  refine VX_loopA (fun i : Nat => i ≤ ps.length) (fun i => [(12, .t 3 (.e (.int i))), (11, .t 3 (.e (.int ps.length))), (10, .t 51 (.e (.sl (ps.map E.str)))), (5, .ptr 0 [])])
    (fun i => Wi.bld (.ptr 0 []) ((inputB x (ps.take i)).map byteE).length ((inputB x (ps.take i)).map byteE)) (fun i => ps.length - i) 0 (by omega) ?_ ?_
  · exact wk1 rfl rfl (by simp [Wi.bld, Blk.under, T.under, T.unders]) (lc (ls rfl rfl) (lc (li (by simp)) (lc (ls rfl rfl) (lc (ls rfl rfl) lnil))))
  · intro i hi
    have hle := inputB_le x ps i
    refine VX_go4 (fs := []) (ok 0 _) eqs trivial 100 [] rfl trivial ?_
    refine VX_split 13 rfl rfl (fun h => ?_) (fun h => ?_)
    · have hi : i < ps.length := by simpa using h
      have ei : IntKind.wrap .i64 ((i : Int) + 1) = ((i + 1 : Nat) : Int) := by rw [w64 (by omega) (by omega)]; simp
      have hg : (ps.map E.str).getD i .nilp = .str ps[i] := by simp [List.getD, hi]
      have hs := inputB_succ x ps i hi
      have hp := part_le x ps i hi
      have hle2 := inputB_le x ps (i + 1)
      refine VX_go4 (fs := []) (ok 0 _) eqs trivial 100 [7] rfl (by simp [allP]; omega) ?_
      refine VX_eq 15 rfl rfl (d' := .t 9 (.e (.str ps[i]))) (congrArg (fun x => D.t 9 (.e x)) hg) ?_
      generalize ps[i] = p at hs hp ⊢
      rw [hs] at hle2
      generalize inputB x (ps.take i) = I at hs hle hle2 ⊢
      have hsm : (I.map byteE ++ (Wi.textB p).map byteE) = (inputB x (ps.take (i + 1))).map byteE := by rw [hs]; simp
      have hsl : (I.map byteE).length + ((Wi.textB p).map byteE).length = ((inputB x (ps.take (i + 1))).map byteE).length := by rw [← hsm, List.length_append]
      refine VX_go4 (fs := []) (ok 0 _) eqs trivial 100 [] rfl trivial ?_
      refine VX_callD (ok 0 _) [9] [] rfl rfl rfl rfl rfl rfl (Wi.text_ok p (by omega)).g rfl rfl rfl ?_
      rw [List.length_append] at hle2
      refine VX_callD (ok 0 _) [71, 9] [0, 1] rfl rfl rfl rfl rfl rfl (Wi.writeS_ok (.ptr 0 []) (.inr rfl) (I.map byteE) (Wi.textB p) (by simp; omega) (by omega)) rfl rfl rfl ?_
      refine VX_go4 (fs := []) (ok 0 _) eqs trivial 100 [] rfl trivial ?_
      refine loop_nrm ⟨i + 1, by omega, by omega, ?_⟩
      exact wk1 (by rw [hsm, hsl]; rfl) rfl (by simp [Wi.bld, Blk.under, T.under, T.unders]) (lc (li (by rw [ei])) (lc (ls rfl rfl) (lc (ls rfl rfl) (lc (ls rfl rfl) lnil))))
    · have hi' : i = ps.length := by simp at h; omega
      subst hi'
      rw [List.take_length]
      generalize inputB x ps = I
      refine VX_go4 (fs := []) (ok 0 _) eqs trivial 100 [] rfl trivial ?_
      apply loop_brk
      refine VX_go4 (fs := []) (ok 0 _) eqs trivial 100 [] rfl trivial ?_
      refine VX_callD (ok 0 _) [71] [0, 1] rfl rfl rfl rfl rfl rfl (Sh.string_ok (.ptr 0 []) (.inr rfl) (I.map byteE)) rfl rfl rfl ?_
      refine VX_go4 (fs := []) (ok 0 _) eqs trivial 100 [] rfl trivial ?_
      refine ⟨.inr rfl, ?_⟩
      have : (I.map byteE).map byteOf = I := map_byteOf I
      rw [this]; rfl

theorem rinput_ok (x : UInt8) (ps : List (List UInt8)) (hl : (inputB x ps).length ≤ 900000) : FnOk Tryd.prog tb 29 [5, 51] [9] [byteE x, .sl (ps.map E.str)] [.str (inputB x ps)] := by
  refine FnOk_of_V (fn := Tryd.f29) (bt := 4) (ok 0 _) Tryd.func29 rfl rfl rfl (by decide) fun hw => ?_
  clear hw
  apply V_of_VX
  have hpl := len_parts x ps
  have hx1 : [byteE x].map byteOf = [x] := map_byteOf [x]
  refine VX_go4 (fs := []) (ok 0 _) eqs trivial 100 [5] rfl (by simp [allP]) ?_
  refine VX_eq 10 rfl rfl (d' := .t 9 (.e (.str [x]))) (congrArg (fun x => D.t 9 (.e (.str x))) hx1) ?_
  refine VX_go4 (fs := []) (ok 0 _) eqs trivial 100 [] rfl trivial ?_
  refine VX_loopA (fun i : Nat => i ≤ ps.length) (fun i => [(13, .t 3 (.e (.int i))), (12, .t 3 (.e (.int ps.length))), (11, .t 51 (.e (.sl (ps.map E.str)))), (5, .t 9 (.e (.str (inputB x (ps.take i)))))])
    (fun i => []) (fun i => ps.length - i) 0 (by omega) ?_ ?_
  · exact wk1 rfl rfl (by simp) (lc (ls rfl rfl) (lc (li (by simp)) (lc (ls rfl rfl) (lc (ls rfl rfl) lnil))))
  · intro i hi
    have hle := inputB_le x ps i
    refine VX_go4 (fs := []) (ok 0 _) eqs trivial 100 [] rfl trivial ?_
    refine VX_split 14 rfl rfl (fun h => ?_) (fun h => ?_)
    · have hi : i < ps.length := by simpa using h
      have ei : IntKind.wrap .i64 ((i : Int) + 1) = ((i + 1 : Nat) : Int) := by rw [w64 (by omega) (by omega)]; simp
      have hg : (ps.map E.str).getD i .nilp = .str ps[i] := by simp [List.getD, hi]
      have hs := inputB_succ x ps i hi
      have hp := part_le x ps i hi
      have hle2 := inputB_le x ps (i + 1)
      refine VX_go4 (fs := []) (ok 0 _) eqs trivial 100 [7] rfl (by simp [allP]; omega) ?_
      refine VX_eq 16 rfl rfl (d' := .t 9 (.e (.str ps[i]))) (congrArg (fun x => D.t 9 (.e x)) hg) ?_
      generalize ps[i] = p at hs hp ⊢
      rw [hs, List.length_append] at hle2
      generalize inputB x (ps.take i) = I at hs hle hle2 ⊢
      refine VX_go4 (fs := []) (ok 0 _) eqs trivial 100 [] rfl trivial ?_
      refine VX_callD (ok 0 _) [9] [] rfl rfl rfl rfl rfl rfl (Wi.rtext_ok p (by omega)).g rfl rfl rfl ?_
      refine VX_go4 (fs := []) (ok 0 _) eqs trivial 100 [] rfl (by simp [allP, maxI]; omega) ?_
      refine loop_nrm ⟨i + 1, by omega, by omega, ?_⟩
      exact wk1 rfl rfl (by simp) (lc (li (by rw [ei])) (lc (ls rfl rfl) (lc (ls rfl rfl) (lc (ls (by rw [hs]; rfl) rfl) lnil))))
    · have hi' : i = ps.length := by simp at h; omega
      subst hi'
      rw [List.take_length]
      generalize inputB x ps = I
      refine VX_go4 (fs := []) (ok 0 _) eqs trivial 100 [] rfl trivial ?_
      apply loop_brk
      refine VX_go4 (fs := []) (ok 0 _) eqs trivial 100 [] rfl trivial ?_
      exact ⟨.inr rfl, rfl⟩

theorem note_nil (d s : List UInt8) : FnOk Tryd.prog tb 28 [45, 25, 9] [] [.nilp, Sh.dgE d, .str s] [] := by
  refine FnOk_of_V (fn := Tryd.f28) (bt := 4) (ok 0 _) Tryd.func28 rfl rfl rfl (by decide) fun hw => ?_
  clear hw
  apply V_of_VX
  refine VX_go4 (fs := []) (ok 0 _) eqs trivial 100 [] rfl trivial ?_
  exact ⟨.inr rfl, rfl⟩
theorem rnote_nil (d s : List UInt8) : FnOk Tryd.prog tb 31 [49, 25, 9] [] [.nilp, Sh.dgE d, .str s] [] := by
  refine FnOk_of_V (fn := Tryd.f31) (bt := 4) (ok 0 _) Tryd.func31 rfl rfl rfl (by decide) fun hw => ?_
  clear hw
  apply V_of_VX
  refine VX_go4 (fs := []) (ok 0 _) eqs trivial 100 [] rfl trivial ?_
  exact ⟨.inr rfl, rfl⟩
theorem of_nil (x : UInt8) (ps : List (List UInt8)) (hl : (inputB x ps).length ≤ 400000) : FnOk Tryd.prog tb 17 [45, 5, 51] [25] [.nilp, byteE x, .sl (ps.map E.str)] [Sh.dgE (ofB x ps)] := by
  refine FnOk_of_V (fn := Tryd.f17) (bt := 4) (ok 0 _) Tryd.func17 rfl rfl rfl (by decide) fun hw => ?_
  clear hw
  apply V_of_VX
  unfold ofB
  have c1 := input_ok x ps (by omega)
  generalize inputB x ps = I at hl c1 ⊢
  have c2 := (Sh.sum_ok [I] (by simp) (fun p h => by rw [List.mem_singleton.1 h]; omega)).g
  rw [Sh.sum1 _ (by omega)] at c2
  generalize Sh.shaB I = d at c2 ⊢
  refine VX_go4 (fs := []) (ok 0 _) eqs trivial 100 [] rfl trivial ?_
  refine VX_callD (ok 0 _) [5, 51] [] rfl rfl rfl rfl rfl rfl c1.g rfl rfl rfl ?_
  refine VX_go4 (fs := []) (ok 0 _) eqs trivial 100 [] rfl trivial ?_
  refine VX_callD (ok 0 _) [51] [] rfl rfl rfl rfl rfl rfl c2 rfl rfl rfl ?_
  refine VX_go4 (fs := []) (ok 0 _) eqs trivial 100 [] rfl trivial ?_
  refine VX_callD (ok 0 _) [45, 25, 9] [] rfl rfl rfl rfl rfl rfl (note_nil d I).g rfl rfl rfl ?_
  refine VX_go4 (fs := []) (ok 0 _) eqs trivial 100 [] rfl trivial ?_
  exact ⟨.inr rfl, rfl⟩
theorem rof_nil (x : UInt8) (ps : List (List UInt8)) (hl : (inputB x ps).length ≤ 400000) : FnOk Tryd.prog tb 20 [49, 5, 51] [25] [.nilp, byteE x, .sl (ps.map E.str)] [Sh.dgE (ofB x ps)] := by
  refine FnOk_of_V (fn := Tryd.f20) (bt := 4) (ok 0 _) Tryd.func20 rfl rfl rfl (by decide) fun hw => ?_
  clear hw
  apply V_of_VX
  unfold ofB
  have c1 := rinput_ok x ps (by omega)
  generalize inputB x ps = I at hl c1 ⊢
  have c2 := (Sh.rsum_ok I (by omega)).g
  generalize Sh.shaB I = d at c2 ⊢
  refine VX_go4 (fs := []) (ok 0 _) eqs trivial 100 [] rfl trivial ?_
  refine VX_callD (ok 0 _) [5, 51] [] rfl rfl rfl rfl rfl rfl c1.g rfl rfl rfl ?_
  refine VX_go4 (fs := []) (ok 0 _) eqs trivial 100 [] rfl trivial ?_
  refine VX_callD (ok 0 _) [9] [] rfl rfl rfl rfl rfl rfl c2 rfl rfl rfl ?_
  refine VX_go4 (fs := []) (ok 0 _) eqs trivial 100 [] rfl trivial ?_
  refine VX_callD (ok 0 _) [49, 25, 9] [] rfl rfl rfl rfl rfl rfl (rnote_nil d I).g rfl rfl rfl ?_
  refine VX_go4 (fs := []) (ok 0 _) eqs trivial 100 [] rfl trivial ?_
  exact ⟨.inr rfl, rfl⟩

/-- A digest as a text. -/
theorem dB_of {d : List UInt8} (hd : d.length = 32) : Wi.dB (d.map byteE) = d := by
  unfold Wi.dB
  rw [List.drop_zero, List.take_of_length_le (by simp [hd]), map_byteOf]
theorem digest_ok (d : List UInt8) (hd : d.length = 32) : FnOk Tryd.prog tb 16 [25] [9] [Sh.dgE d] [.str d] := by
  have := Wi.digest_ok (d.map byteE); rw [dB_of hd] at this; exact this
theorem bytes_ok (d : List UInt8) (hd : d.length = 32) : FnOk Tryd.prog tb 19 [25] [9] [Sh.dgE d] [.str d] := by
  have := Wi.bytes_ok (d.map byteE); rw [dB_of hd] at this; exact this
end Go.Den.Q21.Dg
/- Law 21: notes, plain and walked. -/
namespace Go.Den.Q21
open Go Go.Den Go.Proofs Go.Den.Q21.Dg
set_option maxRecDepth 8000
set_option linter.unusedVariables false
set_option linter.unusedSimpArgs false

structure Nt where
  k : Nat
  h : Nat
  n : Nat
  o : List UInt8
  w : List UInt8
  s : Nat
structure Nt.ok (x : Nt) : Prop where
  k : x.k < 256
  h : x.h < 4294967296
  n : x.n < 18446744073709551616
  o : x.o.length = 32
  w : x.w.length = 32
  s : x.s < 18446744073709551616
def Nt.E (x : Nt) : E := .agg [.int x.k, .int x.h, .int x.n, Sh.dgE x.o, Sh.dgE x.w, .int x.s]
def Nt.plain (x : Nt) : List UInt8 := Wi.bigB x.k 1 ++ Wi.bigB x.h 4 ++ Wi.bigB x.n 8 ++ x.o ++ x.w ++ Wi.bigB x.s 8
def Nt.bytes (x : Nt) : List UInt8 := x.plain ++ ofB 200 [x.plain]
def Nt.fresh (k h : Nat) : Nt := ⟨k, h, 0, List.replicate 32 0, List.replicate 32 0, 0⟩
theorem Nt.fresh_ok {k h : Nat} (hk : k < 256) (hh : h < 4294967296) : (Nt.fresh k h).ok := ⟨hk, hh, by simp [Nt.fresh], by simp [Nt.fresh], by simp [Nt.fresh], by simp [Nt.fresh]⟩
theorem Nt.plain_length {x : Nt} (h : x.ok) : x.plain.length = 85 := by simp [Nt.plain, Wi.bigB_length, h.o, h.w]
theorem Nt.bytes_length {x : Nt} (h : x.ok) : x.bytes.length = 117 := by simp [Nt.bytes, Nt.plain_length h, ofB_length]
theorem Nt.E_inj {x y : Nt} (h : eqE x.E y.E = true) (hx : x.ok) (hy : y.ok) : True := trivial

theorem plain_ok {x : Nt} (h : x.ok) : FnOk Tryd.prog tb 15 [27] [9] [x.E] [.str x.plain] := by
  refine FnOk_of_V (fn := Tryd.f15) (bt := 4) (ok 0 _) Tryd.func15 rfl rfl rfl (by decide) fun hw => ?_
  clear hw
  obtain ⟨k, hh, n, o, w, s⟩ := x
  obtain ⟨h1, h2, h3, h4, h5, h6⟩ := h
  simp only at h1 h2 h3 h4 h5 h6
  unfold Nt.plain
  apply V_of_VX
  have l1 := Wi.bigB_length k 1
  have l2 := Wi.bigB_length hh 4
  have l3 := Wi.bigB_length n 8
  have l4 := Wi.bigB_length s 8
  refine VX_go4 (fs := []) (ok 0 _) eqs trivial 100 [] rfl trivial ?_
  refine VX_draw [] [(0, true), (1, true), (3, true), (4, true), (7, true), (8, true), (11, true), (12, true), (15, true), (16, true), (19, true), (20, true), (2, false), (5, false), (6, true), (9, false), (10, true), (13, false), (14, true), (17, false), (18, true), (21, false), (22, true), (23, true)] mixed (by kernel_rfl) (by kernel_rfl) (by kernel_rfl) ?_
  refine VX_go4 (fs := []) (ok 0 _) eqs trivial 100 [] rfl trivial ?_
  refine VX_callO (ok 0 _) [5] [] rfl rfl rfl rfl rfl rfl rfl rfl (Wi.byte_ok k h1).g rfl rfl rfl ?_
  refine VX_callO (ok 0 _) [22] [] rfl rfl rfl rfl rfl rfl rfl rfl (Wi.word_ok hh h2).g rfl rfl rfl ?_
  refine VX_go4 (fs := []) (ok 0 _) eqs trivial 100 [] rfl (by simp [allP, maxI, l1, l2]) ?_
  refine VX_callO (ok 0 _) [23] [] rfl rfl rfl rfl rfl rfl rfl rfl (Wi.long_ok n h3).g rfl rfl rfl ?_
  refine VX_go4 (fs := []) (ok 0 _) eqs trivial 100 [] rfl (by simp [allP, maxI, l1, l2, l3]) ?_
  refine VX_callO (ok 0 _) [25] [] rfl rfl rfl rfl rfl rfl rfl rfl (digest_ok o h4).g rfl rfl rfl ?_
  refine VX_go4 (fs := []) (ok 0 _) eqs trivial 100 [] rfl (by simp [allP, maxI, l1, l2, l3, h4]) ?_
  refine VX_callO (ok 0 _) [25] [] rfl rfl rfl rfl rfl rfl rfl rfl (digest_ok w h5).g rfl rfl rfl ?_
  refine VX_go4 (fs := []) (ok 0 _) eqs trivial 100 [] rfl (by simp [allP, maxI, l1, l2, l3, h4, h5]) ?_
  refine VX_callO (ok 0 _) [23] [] rfl rfl rfl rfl rfl rfl rfl rfl (Wi.long_ok s h6).g rfl rfl rfl ?_
  refine VX_go4 (fs := []) (ok 0 _) eqs trivial 100 [] rfl (by simp [allP, maxI, l1, l2, l3, l4, h4, h5]) ?_
  exact ⟨.inr rfl, rfl⟩

theorem input_plain {x : Nt} (h : x.ok) : (inputB 200 [x.plain]).length ≤ 400000 := by
  simp [inputB, Wi.textB, Wi.bigB_length, Nt.plain_length h]
theorem nbytes_ok {x : Nt} (h : x.ok) : FnOk Tryd.prog tb 8 [27] [9] [x.E] [.str x.bytes] := by
  refine FnOk_of_V (fn := Tryd.f8) (bt := 4) (ok 0 _) Tryd.func8 rfl rfl rfl (by decide) fun hw => ?_
  clear hw
  apply V_of_VX
  have c1 := (plain_ok h).g
  have c2 := (of_nil 200 [x.plain] (input_plain h)).g
  have hl := Nt.plain_length h
  have hd := ofB_length 200 [x.plain]
  unfold Nt.bytes
  generalize x.plain = p at c1 c2 hl hd ⊢
  generalize ofB 200 [p] = d at c2 hd ⊢
  refine VX_go4 (fs := []) (ok 0 _) eqs trivial 100 [] rfl trivial ?_
  refine VX_callD (ok 0 _) [27] [] rfl rfl rfl rfl rfl rfl c1 rfl rfl rfl ?_
  refine VX_go4 (fs := []) (ok 0 _) eqs trivial 100 [] rfl trivial ?_
  refine VX_callD (ok 0 _) [45, 5, 51] [] rfl rfl rfl rfl rfl rfl c2 rfl rfl rfl ?_
  refine VX_go4 (fs := []) (ok 0 _) eqs trivial 100 [] rfl trivial ?_
  refine VX_callD (ok 0 _) [25] [] rfl rfl rfl rfl rfl rfl (digest_ok d hd).g rfl rfl rfl ?_
  refine VX_go4 (fs := []) (ok 0 _) eqs trivial 100 [] rfl (by simp [allP, maxI, hl, hd]) ?_
  exact ⟨.inr rfl, rfl⟩

theorem u64n (n : Nat) (h : n < 18446744073709551616) : IntKind.wrap .u64 (n : Int) = n := inR_wrap (by simp [inR]; omega)
set_option maxHeartbeats 800000 in
theorem rnbytes_ok {x : Nt} (h : x.ok) : FnOk Tryd.prog tb 9 [29] [9] [x.E] [.str x.bytes] := by
  refine FnOk_of_V (fn := Tryd.f9) (bt := 4) (ok 0 _) Tryd.func9 rfl rfl rfl (by decide) fun hw => ?_
  clear hw
  have hl := Nt.plain_length h
  have hi := input_plain h
  obtain ⟨k, hh, n, o, w, s⟩ := x
  obtain ⟨h1, h2, h3, h4, h5, h6⟩ := h
  simp only at h1 h2 h3 h4 h5 h6
  unfold Nt.bytes
  unfold Nt.plain at hl hi ⊢
  simp only at hl hi ⊢
  have hd := ofB_length 200 [Wi.bigB k 1 ++ Wi.bigB hh 4 ++ Wi.bigB n 8 ++ o ++ w ++ Wi.bigB s 8]
  have l1 := Wi.bigB_length k 1
  have l2 := Wi.bigB_length hh 4
  have l3 := Wi.bigB_length n 8
  have l4 := Wi.bigB_length s 8
  apply V_of_VX
  refine VX_go4 (fs := []) (ok 0 _) eqs trivial 100 [] rfl trivial ?_
  refine VX_draw [] [(0, true), (1, true), (2, true), (4, true), (5, true), (6, true), (9, true), (10, true), (13, true), (14, true), (17, true), (18, true), (21, true), (22, true), (3, false), (7, false), (8, true), (11, false), (12, true), (15, false), (16, true), (19, false), (20, true), (23, false), (24, true), (25, true)] mixed (by kernel_rfl) (by kernel_rfl) (by kernel_rfl) ?_
  refine VX_go4 (fs := []) (ok 0 _) eqs trivial 100 [11] rfl trivial ?_
  refine VX_eq 7 rfl rfl (d' := .t 23 (.e (.int k))) (congrArg (fun x => D.t 23 (.e (.int x))) (u64n k (by omega))) ?_
  refine VX_go4 (fs := []) (ok 0 _) eqs trivial 100 [15] rfl trivial ?_
  refine VX_eq 11 rfl rfl (d' := .t 23 (.e (.int hh))) (congrArg (fun x => D.t 23 (.e (.int x))) (u64n hh (by omega))) ?_
  refine VX_go4 (fs := []) (ok 0 _) eqs trivial 100 [] rfl trivial ?_
  refine VX_callO (ok 0 _) [23, 3] [] rfl rfl rfl rfl rfl rfl rfl rfl (Wi.Big_ok k 1 (by omega) (by omega) (by omega)).g rfl rfl rfl ?_
  refine VX_callO (ok 0 _) [23, 3] [] rfl rfl rfl rfl rfl rfl rfl rfl (Wi.Big_ok hh 4 (by omega) (by omega) (by omega)).g rfl rfl rfl ?_
  refine VX_go4 (fs := []) (ok 0 _) eqs trivial 100 [] rfl (by simp [allP, maxI, l1, l2]) ?_
  refine VX_callO (ok 0 _) [23, 3] [] rfl rfl rfl rfl rfl rfl rfl rfl (Wi.Big_ok n 8 (by omega) (by omega) (by omega)).g rfl rfl rfl ?_
  refine VX_go4 (fs := []) (ok 0 _) eqs trivial 100 [] rfl (by simp [allP, maxI, l1, l2, l3]) ?_
  refine VX_callO (ok 0 _) [25] [] rfl rfl rfl rfl rfl rfl rfl rfl (bytes_ok o h4).g rfl rfl rfl ?_
  refine VX_go4 (fs := []) (ok 0 _) eqs trivial 100 [] rfl (by simp [allP, maxI, l1, l2, l3, h4]) ?_
  refine VX_callO (ok 0 _) [25] [] rfl rfl rfl rfl rfl rfl rfl rfl (bytes_ok w h5).g rfl rfl rfl ?_
  refine VX_go4 (fs := []) (ok 0 _) eqs trivial 100 [] rfl (by simp [allP, maxI, l1, l2, l3, h4, h5]) ?_
  refine VX_callO (ok 0 _) [23, 3] [] rfl rfl rfl rfl rfl rfl rfl rfl (Wi.Big_ok s 8 (by omega) (by omega) (by omega)).g rfl rfl rfl ?_
  refine VX_go4 (fs := []) (ok 0 _) eqs trivial 100 [] rfl (by simp [allP, maxI, l1, l2, l3, l4, h4, h5]) ?_
  generalize Wi.bigB k 1 ++ Wi.bigB hh 4 ++ Wi.bigB n 8 ++ o ++ w ++ Wi.bigB s 8 = p at hl hi hd ⊢
  have c2 := (rof_nil 200 [p] hi).g
  generalize ofB 200 [p] = d at hd c2 ⊢
  refine VX_callD (ok 0 _) [49, 5, 51] [] rfl rfl rfl rfl rfl rfl c2 rfl rfl rfl ?_
  refine VX_go4 (fs := []) (ok 0 _) eqs trivial 100 [] rfl trivial ?_
  refine VX_callD (ok 0 _) [25] [] rfl rfl rfl rfl rfl rfl (bytes_ok d hd).g rfl rfl rfl ?_
  refine VX_go4 (fs := []) (ok 0 _) eqs trivial 100 [] rfl (by simp [allP, maxI, hl, hd]) ?_
  exact ⟨.inr rfl, rfl⟩
end Go.Den.Q21
/- The document's reader. -/
namespace Go.Den.Q21.Rr
open Go Go.Den Go.Proofs Go.Den.Q21 Go.Den.Q21.Dg
set_option maxRecDepth 8000
set_option linter.unusedVariables false
set_option linter.unusedSimpArgs false

def rrd (s : List UInt8) (e : Int) : Blk := .tree 42 (.e (.agg [.str s, .int e]))
theorem take_ok (s : List UInt8) (e : Int) (n : Nat) : FnG Tryd.prog tb 22 [rrd s e] [.ptr 0 [], .t 3 (.e (.int n))] (fun d t => d = .t 9 (.e (.str (Wi.takeB s e n).1)) ∧ t = [rrd (Wi.takeB s e n).2.1 (Wi.takeB s e n).2.2]) := by
  refine FnG_of_V (fn := Tryd.f22) (bt := 4) false [] [9] (ok 1 _) Tryd.func22 rfl rfl rfl fun _ _ _ _ _ _ => ?_
  apply V_of_VX
  refine VX_go4 (fs := []) (ok 1 _) eqs trivial 100 [] rfl trivial ?_
  refine VX_split 11 rfl rfl (fun h => ?_) (fun h => ?_)
  · have he : e = 0 := by simpa using h
    subst he
    refine VX_go4 (fs := []) (ok 1 _) eqs trivial 100 [] rfl trivial ?_
    refine VX_split 19 rfl rfl (fun h => ?_) (fun h => ?_)
    · have hn : s.length < n := by simpa using h
      refine VX_go4 (fs := []) (ok 1 _) eqs trivial 100 [] rfl trivial ?_
      refine VX_known 27 true rfl rfl (by simp) ?_
      refine VX_go4 (fs := []) (ok 1 _) eqs trivial 100 [] rfl trivial ?_
      refine ⟨.inr rfl, _, _, _, rfl, rfl, rfl, ?_⟩
      simp only [Wi.takeB, if_pos hn, if_true]; exact ⟨rfl, rfl⟩
    · have hn : ¬ s.length < n := by simpa using h
      refine VX_go4 (fs := []) (ok 1 _) eqs trivial 100 [] rfl trivial ?_
      refine VX_known 27 false rfl rfl (by simp) ?_
      refine VX_go4 (fs := []) (ok 1 _) eqs trivial 100 [] rfl ?_ ?_
      · simp only [allP]; omega
      refine ⟨.inr rfl, _, _, _, rfl, rfl, rfl, ?_⟩
      simp only [Wi.takeB, if_neg hn, if_true]
      constructor
      · show D.t 9 (.e (.str ((s.take n).drop 0))) = _; rfl
      · show [Blk.tree 42 (.e (.agg [.str ((s.take s.length).drop n), .int 0]))] = _
        rw [List.take_length]; rfl
  · have he : ¬ e = 0 := by simpa using h
    refine VX_go4 (fs := []) (ok 1 _) eqs trivial 100 [] rfl trivial ?_
    refine VX_known 27 true rfl rfl (by simpa using he) ?_
    refine VX_go4 (fs := []) (ok 1 _) eqs trivial 100 [] rfl trivial ?_
    refine ⟨.inr rfl, _, _, _, rfl, rfl, rfl, ?_⟩
    simp only [Wi.takeB, if_neg he]; exact ⟨rfl, rfl⟩

theorem number_ok (s : List UInt8) (e : Int) (k : Nat) (hk : k ≤ 8) : FnG Tryd.prog tb 13 [rrd s e] [.ptr 0 [], .t 3 (.e (.int k))] (fun d t => d = .t 23 (.e (.int (Wi.numV (Wi.takeB s e k).1))) ∧ t = [rrd (Wi.takeB s e k).2.1 (Wi.takeB s e k).2.2]) := by
  refine FnG_of_V (fn := Tryd.f13) (bt := 4) false [] [23] (ok 1 _) Tryd.func13 rfl rfl rfl fun _ _ _ _ _ _ => ?_
  apply V_of_VX
  refine VX_go4 (fs := []) (ok 1 _) eqs trivial 100 [] rfl trivial ?_
  refine VX_callD (ok 1 _) [40, 3] [0] rfl rfl rfl rfl rfl rfl (take_ok s e k) rfl rfl rfl ?_
  have hlen := Wi.takeB_len s e k
  generalize (Wi.takeB s e k).1 = l at hlen ⊢
  generalize (Wi.takeB s e k).2.1 = s'
  generalize (Wi.takeB s e k).2.2 = e'
  refine VX_go4 (fs := []) (ok 1 _) eqs trivial 100 [] rfl trivial ?_
  refine VX_loopA (fun i : Nat => i ≤ l.length) (fun i => [(7, .t 3 (.e (.int i))), (6, .t 9 (.e (.str l))), (5, .t 23 (.e (.int (Wi.numV (l.take i)))))]) (fun _ => [rrd s' e']) (fun i => l.length - i) 0 (by omega) ?_ ?_
  · exact wk1 rfl rfl (by simp [rrd, Blk.under, T.under]) (lc (ls rfl rfl) (lc (ls rfl rfl) (lc (ls rfl rfl) lnil)))
  · intro i hi
    refine VX_go4 (fs := []) (ok 1 _) eqs trivial 100 [] rfl trivial ?_
    refine VX_split 14 rfl rfl (fun h => ?_) (fun h => ?_)
    · have hi : i < l.length := by simpa using h
      have hb := (l.getD i 0).toNat_lt
      have hv : Wi.numV (l.take i) < 256 ^ i := Wi.numV_lt i _ (by simp; omega)
      have hv7 : Wi.numV (l.take i) < 72057594037927936 := by
        have : (256 : Nat) ^ i ≤ 256 ^ 7 := Nat.pow_le_pow_right (by omega) (by omega)
        have h7 : (256 : Nat) ^ 7 = 72057594037927936 := by decide
        omega
      have hsucc : Wi.numV (l.take (i + 1)) = Wi.numV (l.take i) * 256 + (l.getD i 0).toNat := by
        rw [List.take_add_one, List.getD, List.getElem?_eq_getElem hi]; exact Wi.numV_snoc _ _
      have e1 : IntKind.wrap .u64 (IntKind.wrap .u64 ((Wi.numV (l.take i) : Int) * 256) + IntKind.wrap .u64 (((l.getD i 0).toNat : Nat) : Int)) = ((Wi.numV (l.take (i + 1)) : Nat) : Int) := by
        rw [hsucc]
        generalize Wi.numV (l.take i) = v at hv7
        have : ∀ b : Nat, b < 256 → IntKind.wrap .u64 (IntKind.wrap .u64 ((v : Int) * 256) + IntKind.wrap .u64 (b : Int)) = ((v * 256 + b : Nat) : Int) := fun b hb => by
          rw [inR_wrap (k := .u64) (n := (v : Int) * 256) (by simp [inR]; omega), inR_wrap (k := .u64) (n := (b : Int)) (by simp [inR]; omega), inR_wrap (by simp [inR]; omega)]
          simp
        exact this _ hb
      refine VX_go4 (fs := []) (ok 1 _) eqs trivial 100 [] rfl (by simp [allP]; omega) ?_
      refine loop_nrm ⟨i + 1, by omega, by omega, ?_⟩
      refine wk1 rfl rfl (by simp [rrd, Blk.under, T.under]) (lc (li ?_) (lc (ls rfl rfl) (lc (li e1.symm) lnil)))
      rw [w64 (by omega) (by omega)]; simp
    · have : i = l.length := by simp at h; omega
      subst this
      refine VX_go4 (fs := []) (ok 1 _) eqs trivial 100 [] rfl trivial ?_
      apply loop_brk
      refine VX_go4 (fs := []) (ok 1 _) eqs trivial 100 [] rfl trivial ?_
      refine ⟨.inr rfl, _, _, _, rfl, rfl, rfl, ?_⟩
      rw [List.take_length]; exact ⟨rfl, rfl⟩

/-- The first bytes of a digest, zeros behind. -/
def dgP (l : List UInt8) (i : Nat) : List UInt8 := l.take i ++ List.replicate (32 - i) 0
def dg32 (l : List UInt8) : List UInt8 := l ++ List.replicate (32 - l.length) 0
theorem dg32_length {l : List UInt8} (h : l.length ≤ 32) : (dg32 l).length = 32 := by simp [dg32]; omega
theorem dg32_eq {l : List UInt8} (h : l.length = 32) : dg32 l = l := by simp [dg32, h]
theorem dgP_all (l : List UInt8) : dgP l l.length = dg32 l := by simp [dgP, dg32]
theorem dgP_set (l : List UInt8) (i : Nat) (h : i < l.length) (h2 : i < 32) : (dgP l i).set i (l.getD i 0) = dgP l (i + 1) := by
  have e1 : (l.take i).length = i := by simp; omega
  have e2 : l.take (i + 1) = l.take i ++ [l.getD i 0] := by rw [List.take_add_one, List.getElem?_eq_getElem h, List.getD, List.getElem?_eq_getElem h]; rfl
  have e3 : List.replicate (32 - i) (0 : UInt8) = 0 :: List.replicate (32 - (i + 1)) 0 := by rw [show 32 - i = (32 - (i + 1)) + 1 by omega, List.replicate_succ]
  unfold dgP
  rw [List.set_append_right _ _ (by omega), e1, Nat.sub_self, e3, List.set_cons_zero, e2, List.append_assoc]; rfl
theorem takeB_32 (s : List UInt8) (e : Int) : (Wi.takeB s e 32).1.length ≤ 32 := Wi.takeB_len s e 32
theorem wdg (l : List UInt8) (h : l.length ≤ 32) : E.agg (Wi.dgE l) = Sh.dgE (dg32 l) := by
  unfold Wi.dgE Sh.dgE
  have e1 : (l.map byteE).take (min (l.map byteE).length 32) = l.map byteE := List.take_of_length_le (by simp; omega)
  rw [e1]
  unfold putAt Wi.z32 dg32
  have : ∀ n, List.replicate n (E.int 0) = (List.replicate n (0 : UInt8)).map byteE := fun n => by simp [byteE]
  simp only [List.map_append, ← this, List.take_zero, List.nil_append, List.drop_replicate, List.length_map, Nat.zero_add]
/-- The program's reader of a digest, in bytes. -/
theorem wdigest_ok (s : List UInt8) (e : Int) : FnG Tryd.prog tb 36 [Wi.rd s e] [.ptr 0 []] (fun d t => d = .t 25 (.e (Sh.dgE (dg32 (Wi.takeB s e 32).1))) ∧ t = [Wi.rd (Wi.takeB s e 32).2.1 (Wi.takeB s e 32).2.2]) := by
  have := Wi.digestR_ok s e
  rw [wdg _ (takeB_32 s e)] at this
  exact this

theorem digest_ok (s : List UInt8) (e : Int) : FnG Tryd.prog tb 14 [rrd s e] [.ptr 0 []] (fun d t => d = .t 25 (.e (Sh.dgE (dg32 (Wi.takeB s e 32).1))) ∧ t = [rrd (Wi.takeB s e 32).2.1 (Wi.takeB s e 32).2.2]) := by
  refine FnG_of_V (fn := Tryd.f14) (bt := 4) false [] [25] (ok 1 _) Tryd.func14 rfl rfl rfl fun _ _ _ _ _ _ => ?_
  apply V_of_VX
  refine VX_go4 (fs := []) (ok 1 _) eqs trivial 100 [] rfl trivial ?_
  refine VX_callD (ok 1 _) [40, 3] [0] rfl rfl rfl rfl rfl rfl (take_ok s e 32) rfl rfl rfl ?_
  have hlen := takeB_32 s e
  generalize (Wi.takeB s e 32).1 = l at hlen ⊢
  generalize (Wi.takeB s e 32).2.1 = s'
  generalize (Wi.takeB s e 32).2.2 = e'
  refine VX_go4 (fs := []) (ok 1 _) eqs trivial 100 [] rfl trivial ?_
  refine VX_loopA (fun i : Nat => i ≤ l.length) (fun i => [(5, .t 3 (.e (.int i))), (4, .t 9 (.e (.str l))), (3, .ptr 2 []), (2, .ptr 1 [])]) (fun i => [rrd s' e', .tree 25 (.e (Sh.dgE (List.replicate 32 0))), .tree 25 (.e (Sh.dgE (dgP l i)))]) (fun i => l.length - i) 0 (by omega) ?_ ?_
  · exact wk1 rfl rfl (by simp [rrd, Blk.under, T.under]) (lc (ls rfl rfl) (lc (ls rfl rfl) (lc (ls rfl rfl) (lc (ls rfl rfl) lnil))))
  · intro i hi
    have hpl : (dgP l i).length = 32 := by simp [dgP]; omega
    refine VX_go4 (fs := []) (ok 1 _) eqs trivial 100 [] rfl trivial ?_
    refine VX_split 11 rfl rfl (fun h => ?_) (fun h => ?_)
    · have hi : i < l.length := by simpa using h
      have he : T.e (Sh.dgE (dgP l (i + 1))) = setT [i] (.e (byteE (l.getD i 0))) (.e (Sh.dgE (dgP l i))) := by rw [← Sh.dgE_set, dgP_set l i hi (by omega)]
      refine VX_go4 (fs := []) (ok 1 _) eqs trivial 100 [] rfl (by simp [allP]; omega) ?_
      refine loop_nrm ⟨i + 1, by omega, by omega, ?_⟩
      refine wk1 (by rw [he]; rfl) rfl (by simp [rrd, Blk.under, T.under]) (lc (li ?_) (lc (ls rfl rfl) (lc (ls rfl rfl) (lc (ls rfl rfl) lnil))))
      rw [w64 (by omega) (by omega)]; simp
    · have : i = l.length := by simp at h; omega
      subst this
      rw [dgP_all]
      generalize dg32 l = d
      refine VX_go4 (fs := []) (ok 1 _) eqs trivial 100 [] rfl trivial ?_
      apply loop_brk
      refine VX_go4 (fs := []) (ok 1 _) eqs trivial 100 [] rfl trivial ?_
      exact ⟨.inr rfl, _, _, _, rfl, rfl, rfl, rfl, rfl⟩
end Go.Den.Q21.Rr
/- Law 21: reading notes. -/
namespace Go.Den.Q21
open Go Go.Den Go.Proofs Go.Den.Q21.Dg
set_option maxRecDepth 8000
set_option linter.unusedVariables false
set_option linter.unusedSimpArgs false

open Rr (dg32 dg32_length)
def rdN (s : List UInt8) : Nt × List UInt8 × Int :=
  let a := Wi.takeB s 0 1
  let b := Wi.takeB a.2.1 a.2.2 4
  let c := Wi.takeB b.2.1 b.2.2 8
  let d := Wi.takeB c.2.1 c.2.2 32
  let e := Wi.takeB d.2.1 d.2.2 32
  let f := Wi.takeB e.2.1 e.2.2 8
  let g := Wi.takeB f.2.1 f.2.2 32
  (⟨Wi.numV a.1, Wi.numV b.1, Wi.numV c.1, dg32 d.1, dg32 e.1, Wi.numV f.1⟩, g.2.1, g.2.2)
def okN (s : List UInt8) : Bool := decide (Wi.endB (rdN s).2.1 (rdN s).2.2 = 0) && decide ((rdN s).1.bytes = s)
theorem numV_take (s : List UInt8) (e : Int) (k : Nat) : Wi.numV (Wi.takeB s e k).1 < 256 ^ k := Wi.numV_le (Wi.takeB_len s e k)
theorem rdN_ok (s : List UInt8) : (rdN s).1.ok :=
  ⟨numV_take _ _ 1, numV_take _ _ 4, numV_take _ _ 8, dg32_length (Wi.takeB_len _ _ 32), dg32_length (Wi.takeB_len _ _ 32), numV_take _ _ 8⟩

set_option maxHeartbeats 800000 in
theorem read_ok (s : List UInt8) : FnOk Tryd.prog tb 21 [9] [27, 4] [.str s] [(rdN s).1.E, .bool (okN s)] := by
  obtain ⟨w1, s1, e1, r1⟩ : ∃ a b c, Wi.takeB s 0 1 = (a, b, c) := ⟨_, _, _, rfl⟩
  have k1 := Wi.byteR_ok s 0
  rw [r1] at k1
  obtain ⟨w2, s2, e2, r2⟩ : ∃ a b c, Wi.takeB s1 e1 4 = (a, b, c) := ⟨_, _, _, rfl⟩
  have k2 := Wi.wordR_ok s1 e1
  rw [r2] at k2
  obtain ⟨w3, s3, e3, r3⟩ : ∃ a b c, Wi.takeB s2 e2 8 = (a, b, c) := ⟨_, _, _, rfl⟩
  have k3 := Wi.longR_ok s2 e2
  rw [r3] at k3
  obtain ⟨w4, s4, e4, r4⟩ : ∃ a b c, Wi.takeB s3 e3 32 = (a, b, c) := ⟨_, _, _, rfl⟩
  have k4 := Rr.wdigest_ok s3 e3
  rw [r4] at k4
  obtain ⟨w5, s5, e5, r5⟩ : ∃ a b c, Wi.takeB s4 e4 32 = (a, b, c) := ⟨_, _, _, rfl⟩
  have k5 := Rr.wdigest_ok s4 e4
  rw [r5] at k5
  obtain ⟨w6, s6, e6, r6⟩ : ∃ a b c, Wi.takeB s5 e5 8 = (a, b, c) := ⟨_, _, _, rfl⟩
  have k6 := Wi.longR_ok s5 e5
  rw [r6] at k6
  obtain ⟨w7, s7, e7, r7⟩ : ∃ a b c, Wi.takeB s6 e6 32 = (a, b, c) := ⟨_, _, _, rfl⟩
  have k7 := Rr.wdigest_ok s6 e6
  rw [r7] at k7
  have hrd : rdN s = (⟨Wi.numV w1, Wi.numV w2, Wi.numV w3, dg32 w4, dg32 w5, Wi.numV w6⟩, s7, e7) := by simp only [rdN, r1, r2, r3, r4, r5, r6, r7]
  have hok := rdN_ok s
  unfold okN
  have hb := nbytes_ok hok
  generalize (rdN s).1.bytes = B at hb ⊢
  rw [hrd] at hb ⊢
  simp only at k1 k2 k3 k4 k5 k6 k7 hb ⊢
  clear hok hrd r1 r2 r3 r4 r5 r6 r7
  generalize Wi.numV w1 = n1 at k1 hb ⊢
  generalize Wi.numV w2 = n2 at k2 hb ⊢
  generalize Wi.numV w3 = n3 at k3 hb ⊢
  generalize dg32 w4 = d4 at k4 hb ⊢
  generalize dg32 w5 = d5 at k5 hb ⊢
  generalize Wi.numV w6 = n6 at k6 hb ⊢
  generalize dg32 w7 = d7 at k7
  refine FnOk_of_V (fn := Tryd.f21) (bt := 4) (ok 0 _) Tryd.func21 rfl rfl rfl (by decide) fun hw => ?_
  clear hw
  apply V_of_VX
  refine VX_go4 (fs := []) (ok 0 _) eqs trivial 100 [] rfl trivial ?_
  refine VX_callD (ok 0 _) [9] [] rfl rfl rfl rfl rfl rfl (Wi.over_ok s) rfl rfl rfl ?_
  refine VX_go4 (fs := []) (ok 0 _) eqs trivial 100 [] rfl trivial ?_
  refine VX_callD (ok 0 _) [64] [1] rfl rfl rfl rfl rfl rfl k1 rfl rfl rfl ?_
  refine VX_go4 (fs := []) (ok 0 _) eqs trivial 100 [] rfl trivial ?_
  refine VX_callD (ok 0 _) [64] [1] rfl rfl rfl rfl rfl rfl k2 rfl rfl rfl ?_
  refine VX_go4 (fs := []) (ok 0 _) eqs trivial 100 [] rfl trivial ?_
  refine VX_callD (ok 0 _) [64] [1] rfl rfl rfl rfl rfl rfl k3 rfl rfl rfl ?_
  refine VX_go4 (fs := []) (ok 0 _) eqs trivial 100 [] rfl trivial ?_
  refine VX_callD (ok 0 _) [64] [1] rfl rfl rfl rfl rfl rfl k4 rfl rfl rfl ?_
  refine VX_go4 (fs := []) (ok 0 _) eqs trivial 100 [] rfl trivial ?_
  refine VX_callD (ok 0 _) [64] [1] rfl rfl rfl rfl rfl rfl k5 rfl rfl rfl ?_
  refine VX_go4 (fs := []) (ok 0 _) eqs trivial 100 [] rfl trivial ?_
  refine VX_callD (ok 0 _) [64] [1] rfl rfl rfl rfl rfl rfl k6 rfl rfl rfl ?_
  refine VX_go4 (fs := []) (ok 0 _) eqs trivial 100 [] rfl trivial ?_
  refine VX_callD (ok 0 _) [64] [1] rfl rfl rfl rfl rfl rfl k7 rfl rfl rfl ?_
  refine VX_go4 (fs := []) (ok 0 _) eqs trivial 100 [] rfl trivial ?_
  refine VX_draw [0, 1] [(0, true), (1, true), (2, false), (3, true), (4, true), (5, true), (7, true), (6, false), (8, true), (9, true), (10, false), (11, true)] mixed (by kernel_rfl) (by kernel_rfl) (by kernel_rfl) ?_
  refine VX_go4 (fs := []) (ok 0 _) eqs trivial 100 [] rfl trivial ?_
  refine VX_callO (ok 0 _) [64] [1] rfl rfl rfl rfl rfl rfl rfl rfl (Wi.end_ok s7 e7) rfl rfl rfl ?_
  refine VX_go4 (fs := []) (ok 0 _) eqs trivial 100 [] rfl trivial ?_
  refine VX_split 27 rfl rfl (fun h => ?_) (fun h => ?_)
  · have he : Wi.endB s7 e7 = 0 := by simpa using h
    refine VX_go4 (fs := []) (ok 0 _) eqs trivial 100 [] rfl trivial ?_
    refine VX_callO (ok 0 _) [27] [] rfl rfl rfl rfl rfl rfl rfl rfl hb.g rfl rfl rfl ?_
    refine VX_go4 (fs := []) (ok 0 _) eqs trivial 100 [] rfl trivial ?_
    refine VX_storeO (ok 0 _) rfl rfl rfl rfl rfl rfl (by simp) ?_
    refine VX_go4 (fs := []) (ok 0 _) eqs trivial 100 [] rfl trivial ?_
    refine ⟨.inr rfl, ?_⟩
    rw [he]; rfl
  · have he : ¬ Wi.endB s7 e7 = 0 := by simpa using h
    refine VX_go4 (fs := []) (ok 0 _) eqs trivial 100 [] rfl trivial ?_
    refine VX_storeO (ok 0 _) rfl rfl rfl rfl rfl rfl (by simp) ?_
    refine VX_go4 (fs := []) (ok 0 _) eqs trivial 100 [] rfl trivial ?_
    refine ⟨.inr rfl, ?_⟩
    rw [decide_eq_false he]; rfl

theorem known_ok (s : List UInt8) : FnOk Tryd.prog tb 10 [9] [4] [.str s] [.bool (okN s)] := by
  refine FnOk_of_V (fn := Tryd.f10) (bt := 4) (ok 0 _) Tryd.func10 rfl rfl rfl (by decide) fun hw => ?_
  clear hw
  have c1 := (read_ok s).g
  generalize okN s = b at c1 ⊢
  generalize (rdN s).1 = x at c1
  obtain ⟨k, h, n, o, w, t⟩ := x
  apply V_of_VX
  refine VX_go4 (fs := []) (ok 0 _) eqs trivial 100 [] rfl trivial ?_
  refine VX_callD (ok 0 _) [9] [] rfl rfl rfl rfl rfl rfl c1 rfl rfl rfl ?_
  refine VX_go4 (fs := []) (ok 0 _) eqs trivial 100 [] rfl trivial ?_
  exact ⟨.inr rfl, rfl⟩
def rdB (s : List UInt8) (k h : Nat) : Nt := if okN s = true ∧ (rdN s).1.k = k ∧ (rdN s).1.h = h then (rdN s).1 else Nt.fresh k h
theorem nread_ok (s : List UInt8) (k h : Nat) : FnOk Tryd.prog tb 11 [9, 5, 22] [27] [.str s, .int k, .int h] [(rdB s k h).E] := by
  refine FnOk_of_V (fn := Tryd.f11) (bt := 4) (ok 0 _) Tryd.func11 rfl rfl rfl (by decide) fun hw => ?_
  clear hw
  have c1 := (read_ok s).g
  unfold rdB
  generalize okN s = b at c1 ⊢
  generalize (rdN s).1 = x at c1 ⊢
  obtain ⟨k', h', n, o, w, t⟩ := x
  simp only
  apply V_of_VX
  refine VX_go4 (fs := []) (ok 0 _) eqs trivial 100 [] rfl trivial ?_
  refine VX_callD (ok 0 _) [9] [] rfl rfl rfl rfl rfl rfl c1 rfl rfl rfl ?_
  refine VX_go4 (fs := []) (ok 0 _) eqs trivial 100 [] rfl trivial ?_
  refine VX_split 16 rfl rfl (fun hc => ?_) (fun hc => ?_)
  · have hb : b = false := by simpa using hc
    subst hb
    refine VX_go4 (fs := []) (ok 0 _) eqs trivial 100 [] rfl trivial ?_
    refine ⟨.inr rfl, ?_⟩
    rw [if_neg (by simp)]; rfl
  · have hb : b = true := by simpa using hc
    subst hb
    refine VX_go4 (fs := []) (ok 0 _) eqs trivial 100 [] rfl trivial ?_
    refine VX_split 22 rfl rfl (fun hc => ?_) (fun hc => ?_)
    · have hk : ¬ k' = k := by simp at hc; omega
      refine VX_go4 (fs := []) (ok 0 _) eqs trivial 100 [] rfl trivial ?_
      refine ⟨.inr rfl, ?_⟩
      rw [if_neg (fun q => hk q.2.1)]; rfl
    · have hk : k' = k := by simp at hc; omega
      refine VX_go4 (fs := []) (ok 0 _) eqs trivial 100 [] rfl trivial ?_
      refine VX_split 27 rfl rfl (fun hc => ?_) (fun hc => ?_)
      · have hh : ¬ h' = h := by simp at hc; omega
        refine VX_go4 (fs := []) (ok 0 _) eqs trivial 100 [] rfl trivial ?_
        refine ⟨.inr rfl, ?_⟩
        rw [if_neg (fun q => hh q.2.2)]; rfl
      · have hh : h' = h := by simp at hc; omega
        refine VX_go4 (fs := []) (ok 0 _) eqs trivial 100 [] rfl trivial ?_
        refine ⟨.inr rfl, ?_⟩
        rw [if_pos ⟨rfl, hk, hh⟩]; rfl
end Go.Den.Q21
/- Law 21: the document's reading; the plain laws; the statements. -/
namespace Go.Den.Q21
open Go Go.Den Go.Proofs Go.Den.Q21.Dg
set_option maxRecDepth 8000
set_option linter.unusedVariables false
set_option linter.unusedSimpArgs false
open Rr (dg32 dg32_length dg32_eq)

theorem takeB_app (p q : List UInt8) {n : Nat} (h : p.length = n) : Wi.takeB (p ++ q) 0 n = (p, q, 0) := by
  unfold Wi.takeB
  rw [if_pos rfl, if_neg (by simp; omega), ← h]; simp
theorem rdN_bytes {x : Nt} (h : x.ok) : rdN x.bytes = (x, [], 0) := by
  have hl := ofB_length 200 [x.plain]
  unfold Nt.bytes
  generalize ofB 200 [x.plain] = d at hl ⊢
  obtain ⟨k, hh, n, o, w, s⟩ := x
  obtain ⟨h1, h2, h3, h4, h5, h6⟩ := h
  simp only at h1 h2 h3 h4 h5 h6
  have e7 := takeB_app d [] hl
  rw [List.append_nil] at e7
  simp only [rdN, Nt.plain, List.append_assoc, takeB_app _ _ (Wi.bigB_length k 1), takeB_app _ _ (Wi.bigB_length hh 4), takeB_app _ _ (Wi.bigB_length n 8), takeB_app _ _ h4, takeB_app _ _ h5, takeB_app _ _ (Wi.bigB_length s 8), e7, Wi.numV_bigB 1 k h1, Wi.numV_bigB 4 hh h2, Wi.numV_bigB 8 n h3, Wi.numV_bigB 8 s h6, dg32_eq h4, dg32_eq h5]
theorem okN_bytes {x : Nt} (h : x.ok) : okN x.bytes = true := by
  unfold okN; rw [rdN_bytes h]; simp [Wi.endB]
theorem okN_eq (s : List UInt8) : okN s = decide ((rdN s).1.bytes = s) := by
  by_cases h : (rdN s).1.bytes = s
  · have := okN_bytes (rdN_ok s)
    rw [h] at this
    rw [this, decide_eq_true h]
  · unfold okN; rw [decide_eq_false h, Bool.and_false]
theorem okN_len {s : List UInt8} (h : okN s = true) : s.length = 117 := by
  rw [okN_eq, decide_eq_true_eq] at h
  rw [← h, Nt.bytes_length (rdN_ok s)]
def kN (s : List UInt8) : Nt := if okN s = true then (rdN s).1 else Nt.fresh 0 0
theorem nw (k : IntKind) (n : Nat) (h : inR k n = true) : IntKind.wrap k (n : Int) = n := inR_wrap h

set_option maxHeartbeats 800000 in
theorem rknown_ok (s : List UInt8) : FnOk Tryd.prog tb 7 [9] [29, 4] [.str s] [(kN s).E, .bool (okN s)] := by
  by_cases hl : s.length = 117
  · obtain ⟨w1, s1, e1, r1⟩ : ∃ a b c, Wi.takeB s 0 1 = (a, b, c) := ⟨_, _, _, rfl⟩
    have k1 := Rr.number_ok s 0 1 (by decide)
    rw [r1] at k1
    obtain ⟨w2, s2, e2, r2⟩ : ∃ a b c, Wi.takeB s1 e1 4 = (a, b, c) := ⟨_, _, _, rfl⟩
    have k2 := Rr.number_ok s1 e1 4 (by decide)
    rw [r2] at k2
    obtain ⟨w3, s3, e3, r3⟩ : ∃ a b c, Wi.takeB s2 e2 8 = (a, b, c) := ⟨_, _, _, rfl⟩
    have k3 := Rr.number_ok s2 e2 8 (by decide)
    rw [r3] at k3
    obtain ⟨w4, s4, e4, r4⟩ : ∃ a b c, Wi.takeB s3 e3 32 = (a, b, c) := ⟨_, _, _, rfl⟩
    have k4 := Rr.digest_ok s3 e3
    rw [r4] at k4
    obtain ⟨w5, s5, e5, r5⟩ : ∃ a b c, Wi.takeB s4 e4 32 = (a, b, c) := ⟨_, _, _, rfl⟩
    have k5 := Rr.digest_ok s4 e4
    rw [r5] at k5
    obtain ⟨w6, s6, e6, r6⟩ : ∃ a b c, Wi.takeB s5 e5 8 = (a, b, c) := ⟨_, _, _, rfl⟩
    have k6 := Rr.number_ok s5 e5 8 (by decide)
    rw [r6] at k6
    have hrd : (rdN s).1 = ⟨Wi.numV w1, Wi.numV w2, Wi.numV w3, dg32 w4, dg32 w5, Wi.numV w6⟩ := by simp only [rdN, r1, r2, r3, r4, r5, r6]
    have hok := rdN_ok s
    unfold kN
    rw [okN_eq]
    have hb := rnbytes_ok hok
    generalize (rdN s).1.bytes = B at hb ⊢
    rw [hrd] at hb hok ⊢
    have h1 := hok.k
    have h2 := hok.h
    simp only at k1 k2 k3 k4 k5 k6 hb h1 h2 ⊢
    clear hok hrd r1 r2 r3 r4 r5 r6
    generalize Wi.numV w1 = n1 at k1 hb h1 ⊢
    generalize Wi.numV w2 = n2 at k2 hb h2 ⊢
    generalize Wi.numV w3 = n3 at k3 hb ⊢
    generalize dg32 w4 = d4 at k4 hb ⊢
    generalize dg32 w5 = d5 at k5 hb ⊢
    generalize Wi.numV w6 = n6 at k6 hb ⊢
    refine FnOk_of_V (fn := Tryd.f7) (bt := 4) (ok 0 _) Tryd.func7 rfl rfl rfl (by decide) fun hw => ?_
    clear hw
    apply V_of_VX
    refine VX_go4 (fs := []) (ok 0 _) eqs trivial 100 [] rfl trivial ?_
    refine VX_known 8 false rfl rfl (by simp; omega) ?_
    refine VX_go4 (fs := []) (ok 0 _) eqs trivial 100 [] rfl trivial ?_
    refine VX_callD (ok 0 _) [40, 3] [2] rfl rfl rfl rfl rfl rfl k1 rfl rfl rfl ?_
    refine VX_go4 (fs := []) (ok 0 _) eqs trivial 100 [16] rfl trivial ?_
    refine VX_eq 15 rfl rfl (d' := .t 5 (.e (.int n1))) (congrArg (fun x => D.t 5 (.e (.int x))) (nw .u8 n1 (by simp [inR]; omega))) ?_
    refine VX_go4 (fs := []) (ok 0 _) eqs trivial 100 [] rfl trivial ?_
    refine VX_callD (ok 0 _) [40, 3] [2] rfl rfl rfl rfl rfl rfl k2 rfl rfl rfl ?_
    refine VX_go4 (fs := []) (ok 0 _) eqs trivial 100 [20] rfl trivial ?_
    refine VX_eq 19 rfl rfl (d' := .t 22 (.e (.int n2))) (congrArg (fun x => D.t 22 (.e (.int x))) (nw .u32 n2 (by simp [inR]; omega))) ?_
    refine VX_go4 (fs := []) (ok 0 _) eqs trivial 100 [] rfl trivial ?_
    refine VX_callD (ok 0 _) [40, 3] [2] rfl rfl rfl rfl rfl rfl k3 rfl rfl rfl ?_
    refine VX_go4 (fs := []) (ok 0 _) eqs trivial 100 [] rfl trivial ?_
    refine VX_callD (ok 0 _) [40] [2] rfl rfl rfl rfl rfl rfl k4 rfl rfl rfl ?_
    refine VX_go4 (fs := []) (ok 0 _) eqs trivial 100 [] rfl trivial ?_
    refine VX_callD (ok 0 _) [40] [2] rfl rfl rfl rfl rfl rfl k5 rfl rfl rfl ?_
    refine VX_go4 (fs := []) (ok 0 _) eqs trivial 100 [] rfl trivial ?_
    refine VX_callD (ok 0 _) [40, 3] [2] rfl rfl rfl rfl rfl rfl k6 rfl rfl rfl ?_
    refine VX_go4 (fs := []) (ok 0 _) eqs trivial 100 [] rfl trivial ?_
    refine VX_callD (ok 0 _) [29] [] rfl rfl rfl rfl rfl rfl hb.g rfl rfl rfl ?_
    refine VX_go4 (fs := []) (ok 0 _) eqs trivial 100 [] rfl trivial ?_
    refine VX_split 36 rfl rfl (fun h => ?_) (fun h => ?_)
    · have h : ¬ B = s := by simpa using h
      refine VX_go4 (fs := []) (ok 0 _) eqs trivial 100 [] rfl trivial ?_
      refine ⟨.inr rfl, ?_⟩
      rw [decide_eq_false h, if_neg (by decide)]; rfl
    · have h : B = s := by simpa using h
      refine VX_go4 (fs := []) (ok 0 _) eqs trivial 100 [] rfl trivial ?_
      refine ⟨.inr rfl, ?_⟩
      rw [decide_eq_true h, if_pos rfl]; rfl
  · have ho : okN s = false := by
      cases h : okN s with
      | false => rfl
      | true => exact absurd (okN_len h) hl
    unfold kN
    rw [ho, if_neg (by decide)]
    refine FnOk_of_V (fn := Tryd.f7) (bt := 4) (ok 0 _) Tryd.func7 rfl rfl rfl (by decide) fun hw => ?_
    clear hw
    apply V_of_VX
    refine VX_go4 (fs := []) (ok 0 _) eqs trivial 100 [] rfl trivial ?_
    refine VX_known 8 true rfl rfl (by simp; omega) ?_
    refine VX_go4 (fs := []) (ok 0 _) eqs trivial 100 [] rfl trivial ?_
    exact ⟨.inr rfl, rfl⟩
theorem rread_ok (s : List UInt8) (k h : Nat) : FnOk Tryd.prog tb 12 [9, 5, 22] [29] [.str s, .int k, .int h] [(rdB s k h).E] := by
  refine FnOk_of_V (fn := Tryd.f12) (bt := 4) (ok 0 _) Tryd.func12 rfl rfl rfl (by decide) fun hw => ?_
  clear hw
  have c1 := (rknown_ok s).g
  unfold rdB
  unfold kN at c1
  generalize okN s = b at c1 ⊢
  generalize (rdN s).1 = x at c1 ⊢
  apply V_of_VX
  cases b with
  | false =>
    rw [if_neg (by decide)] at c1
    rw [if_neg (by simp)]
    refine VX_go4 (fs := []) (ok 0 _) eqs trivial 100 [] rfl trivial ?_
    refine VX_callD (ok 0 _) [9] [] rfl rfl rfl rfl rfl rfl c1 rfl rfl rfl ?_
    refine VX_go4 (fs := []) (ok 0 _) eqs trivial 100 [] rfl trivial ?_
    refine VX_known 16 false rfl rfl rfl ?_
    refine VX_go4 (fs := []) (ok 0 _) eqs trivial 100 [] rfl trivial ?_
    exact ⟨.inr rfl, rfl⟩
  | true =>
    rw [if_pos rfl] at c1
    obtain ⟨k', h', n, o, w, t⟩ := x
    simp only
    refine VX_go4 (fs := []) (ok 0 _) eqs trivial 100 [] rfl trivial ?_
    refine VX_callD (ok 0 _) [9] [] rfl rfl rfl rfl rfl rfl c1 rfl rfl rfl ?_
    refine VX_go4 (fs := []) (ok 0 _) eqs trivial 100 [] rfl trivial ?_
    refine VX_known 16 true rfl rfl rfl ?_
    refine VX_go4 (fs := []) (ok 0 _) eqs trivial 100 [] rfl trivial ?_
    refine VX_split 22 rfl rfl (fun hc => ?_) (fun hc => ?_)
    · have hk : k' = k := by simp at hc; omega
      refine VX_go4 (fs := []) (ok 0 _) eqs trivial 100 [] rfl trivial ?_
      refine VX_split 27 rfl rfl (fun hc => ?_) (fun hc => ?_)
      · have hh : h' = h := by simp at hc; omega
        refine VX_go4 (fs := []) (ok 0 _) eqs trivial 100 [] rfl trivial ?_
        refine ⟨.inr rfl, ?_⟩
        rw [if_pos ⟨trivial, hk, hh⟩]; rfl
      · have hh : ¬ h' = h := by simp at hc; omega
        refine VX_go4 (fs := []) (ok 0 _) eqs trivial 100 [] rfl trivial ?_
        refine ⟨.inr rfl, ?_⟩
        rw [if_neg (fun q => hh q.2.2)]; rfl
    · have hk : ¬ k' = k := by simp at hc; omega
      refine VX_go4 (fs := []) (ok 0 _) eqs trivial 100 [] rfl trivial ?_
      refine ⟨.inr rfl, ?_⟩
      rw [if_neg (fun q => hk q.2.1)]; rfl

theorem rdB_bytes {x : Nt} (h : x.ok) (k hh : Nat) : rdB x.bytes k hh = if x.k = k ∧ x.h = hh then x else Nt.fresh k hh := by
  unfold rdB; rw [okN_bytes h, rdN_bytes h]
  by_cases hc : x.k = k ∧ x.h = hh
  · rw [if_pos ⟨rfl, hc⟩, if_pos hc]
  · rw [if_neg (fun q => hc q.2), if_neg hc]
theorem rdB_self {x : Nt} (h : x.ok) : rdB x.bytes x.k x.h = x := by rw [rdB_bytes h, if_pos ⟨rfl, rfl⟩]
theorem rdB_nil (k h : Nat) : rdB [] k h = Nt.fresh k h := by
  unfold rdB
  rw [if_neg]
  intro hc
  have := okN_len hc.1
  simp at this
theorem eqBytes : ∀ l : List UInt8, eqEs (l.map byteE) (l.map byteE) = true
  | [] => by simp [eqEs]
  | b :: l => by simp [eqEs, eqE, byteE, eqBytes l]
theorem eqDg (d : List UInt8) : eqE (Sh.dgE d) (Sh.dgE d) = true := by simp [Sh.dgE, eqE, eqBytes d]
theorem eqNt (x : Nt) : eqE x.E x.E = true := by simp [Nt.E, eqE, eqEs, eqDg]
def aw : Nt := ⟨1, 1, 3, List.replicate 32 0, List.replicate 32 0, 0⟩
theorem aw_ok : aw.ok := ⟨by decide, by decide, by decide, by simp [aw], by simp [aw], by decide⟩
theorem awake_ok : FnOk Tryd.prog tb 6 [] [4] [] [.bool true] := by
  refine FnOk_of_V (fn := Tryd.f6) (bt := 4) (ok 0 _) Tryd.func6 rfl rfl rfl (by decide) fun hw => ?_
  clear hw
  apply V_of_VX
  have c1 := (nread_ok [] 1 1).g
  rw [rdB_nil] at c1
  have c2 := (nbytes_ok aw_ok).g
  have c3 := (nread_ok aw.bytes 1 1).g
  have e : rdB aw.bytes 1 1 = aw := rdB_self aw_ok
  rw [e] at c3
  generalize aw.bytes = B at c2 c3
  refine VX_go4 (fs := []) (ok 0 _) eqs trivial 100 [] rfl trivial ?_
  refine VX_draw [] [(1, true), (0, false), (2, true), (3, true), (4, true), (7, true), (5, false), (6, false), (8, true), (9, true), (10, true)] mixed (by kernel_rfl) (by kernel_rfl) (by kernel_rfl) ?_
  refine VX_go4 (fs := []) (ok 0 _) eqs trivial 100 [] rfl trivial ?_
  refine VX_callO (ok 0 _) [9, 5, 22] [] rfl rfl rfl rfl rfl rfl rfl rfl c1 rfl rfl rfl ?_
  refine VX_go4 (fs := []) (ok 0 _) eqs trivial 100 [6] rfl trivial ?_
  refine VX_known 5 true rfl rfl (eqNt (Nt.fresh 1 1)) ?_
  refine VX_go4 (fs := []) (ok 0 _) eqs trivial 100 [] rfl trivial ?_
  refine VX_callO (ok 0 _) [27] [] rfl rfl rfl rfl rfl rfl rfl rfl c2 rfl rfl rfl ?_
  refine VX_callO (ok 0 _) [9, 5, 22] [] rfl rfl rfl rfl rfl rfl rfl rfl c3 rfl rfl rfl ?_
  refine VX_go4 (fs := []) (ok 0 _) eqs trivial 100 [12] rfl trivial ?_
  refine VX_known 11 true rfl rfl (eqNt aw) ?_
  refine VX_go4 (fs := []) (ok 0 _) eqs trivial 100 [] rfl trivial ?_
  exact ⟨.inr rfl, rfl⟩

theorem wt_nat {t : TypeId} {x : E} (k : IntKind) (m : Nat) (h : Wt tb t x) (ht : td tb t = .int k) (hk : ∀ n, inR k n = true → 0 ≤ n ∧ n < m) : ∃ n : Nat, x = .int n ∧ n < m := by
  obtain ⟨n, rfl, hn⟩ := wt_int h ht
  obtain ⟨h1, h2⟩ := hk n hn
  exact ⟨n.toNat, by congr 1; omega, by omega⟩
theorem inr8 (n : Int) (h : inR .u8 n = true) : 0 ≤ n ∧ n < (256 : Nat) := by simp only [inR, Bool.and_eq_true, decide_eq_true_eq] at h; omega
theorem inr32 (n : Int) (h : inR .u32 n = true) : 0 ≤ n ∧ n < (4294967296 : Nat) := by simp only [inR, Bool.and_eq_true, decide_eq_true_eq] at h; omega
theorem inr64 (n : Int) (h : inR .u64 n = true) : 0 ≤ n ∧ n < (18446744073709551616 : Nat) := by simp only [inR, Bool.and_eq_true, decide_eq_true_eq] at h; omega
theorem wt_u8 {t : TypeId} {x : E} (h : Wt tb t x) (ht : td tb t = .int .u8) : ∃ b : UInt8, x = byteE b := by
  obtain ⟨n, rfl, hn⟩ := wt_nat .u8 256 h ht inr8
  exact ⟨UInt8.ofNat n, by simp only [byteE, UInt8.toNat_ofNat']; congr 1; omega⟩
theorem wt_dg {t : TypeId} {x : E} (h : Wt tb t x) (ht : td tb t = .arr 32 5) : ∃ d, x = Sh.dgE d ∧ d.length = 32 := by
  obtain ⟨l, rfl, hl, hw⟩ := wt_arr h ht
  obtain ⟨d, rfl⟩ := map_ex fun y hy => wt_u8 (hw y hy) rfl
  exact ⟨d, rfl, by simpa using hl⟩
theorem wt_note {x : E} (h : Wt tb 27 x) : ∃ y : Nt, x = y.E ∧ y.ok := by
  obtain ⟨l, rfl, hl, hw⟩ := wt_st h rfl
  obtain ⟨a, b, c, d, e, f, rfl⟩ := list6 hl
  obtain ⟨n0, rfl, h0⟩ := wt_nat .u8 256 (hw 0 _ a rfl rfl) rfl inr8
  obtain ⟨n1, rfl, h1⟩ := wt_nat .u32 4294967296 (hw 1 _ b rfl rfl) rfl inr32
  obtain ⟨n2, rfl, h2⟩ := wt_nat .u64 18446744073709551616 (hw 2 _ c rfl rfl) rfl inr64
  obtain ⟨d3, rfl, h3⟩ := wt_dg (hw 3 _ d rfl rfl) rfl
  obtain ⟨d4, rfl, h4⟩ := wt_dg (hw 4 _ e rfl rfl) rfl
  obtain ⟨n5, rfl, h5⟩ := wt_nat .u64 18446744073709551616 (hw 5 _ f rfl rfl) rfl inr64
  exact ⟨⟨n0, n1, n2, d3, d4, n5⟩, rfl, h0, h1, h2, h3, h4, h5⟩
end Go.Den.Q21
/- Law 21: the statements. -/
namespace Go.Den.Q21
open Go Go.Den Go.Proofs Go.Den.Q21.Dg
set_option maxRecDepth 8000
set_option linter.unusedVariables false
set_option linter.unusedSimpArgs false

set_option maxHeartbeats 800000 in
theorem reads_ok (x0 x1 x2 x3 : E) : FnOk Tryd.prog tb 3 [27, 9, 5, 22] [4] [x0, x1, x2, x3] [.bool true] := by
  refine FnOk_of_V (fn := Tryd.f3) (bt := 4) (ok 0 _) Tryd.func3 rfl rfl rfl (by decide) fun hw => ?_
  obtain ⟨x, rfl, hx⟩ := wt_note (hw 0 _ x0 rfl rfl)
  obtain ⟨s, rfl⟩ := wt_str (hw 1 _ x1 rfl rfl) rfl
  obtain ⟨k, rfl, hk⟩ := wt_nat .u8 256 (hw 2 _ x2 rfl rfl) rfl inr8
  obtain ⟨h, rfl, hh⟩ := wt_nat .u32 4294967296 (hw 3 _ x3 rfl rfl) rfl inr32
  clear hw
  have c1 := (nbytes_ok hx).g
  have c2 := (rnbytes_ok hx).g
  have c3 := (rknown_ok s).g
  have c4 := (known_ok s).g
  have c5 := (nread_ok s k h).g
  have c6 := (rread_ok s k h).g
  have e6 := eqNt (rdB s k h)
  generalize x.bytes = B at c1 c2
  generalize okN s = b at c3 c4
  generalize (kN s) = K at c3
  generalize (rdB s k h) = R at c5 c6 e6
  obtain ⟨K1, K2, K3, K4, K5, K6⟩ := K
  obtain ⟨X1, X2, X3, X4, X5, X6⟩ := x
  obtain ⟨R1, R2, R3, R4, R5, R6⟩ := R
  apply V_of_VX
  refine VX_go4 (fs := []) (ok 0 _) eqs trivial 100 [] rfl trivial ?_
  refine VX_callD (ok 0 _) [] [] rfl rfl rfl rfl rfl rfl awake_ok.g rfl rfl rfl ?_
  refine VX_go4 (fs := []) (ok 0 _) eqs trivial 100 [] rfl trivial ?_
  refine VX_known 12 false rfl rfl rfl ?_
  refine VX_go4 (fs := []) (ok 0 _) eqs trivial 100 [] rfl trivial ?_
  refine VX_split 15 rfl rfl (fun h => ?_) (fun h => ?_)
  · refine VX_go4 (fs := []) (ok 0 _) eqs trivial 100 [] rfl trivial ?_
    exact ⟨.inr rfl, rfl⟩
  refine VX_go4 (fs := []) (ok 0 _) eqs trivial 100 [] rfl trivial ?_
  refine VX_callD (ok 0 _) [9] [] rfl rfl rfl rfl rfl rfl c3 rfl rfl rfl ?_
  refine VX_go4 (fs := []) (ok 0 _) eqs trivial 100 [] rfl trivial ?_
  refine VX_draw [] [(0, true), (2, true), (1, false), (3, false), (4, true), (5, true), (6, true), (8, true), (7, false), (9, true), (10, true), (11, true), (12, true), (13, true), (14, true), (16, true), (17, true), (18, true), (15, false), (19, false), (20, true), (21, true), (22, true)] mixed (by kernel_rfl) (by kernel_rfl) (by kernel_rfl) ?_
  refine VX_go4 (fs := []) (ok 0 _) eqs trivial 100 [] rfl trivial ?_
  refine VX_callO (ok 0 _) [27] [] rfl rfl rfl rfl rfl rfl rfl rfl c1 rfl rfl rfl ?_
  refine VX_callO (ok 0 _) [29] [] rfl rfl rfl rfl rfl rfl rfl rfl c2 rfl rfl rfl ?_
  refine VX_go4 (fs := []) (ok 0 _) eqs trivial 100 [26] rfl trivial ?_
  refine VX_known 25 true rfl rfl (by simp) ?_
  refine VX_go4 (fs := []) (ok 0 _) eqs trivial 100 [] rfl trivial ?_
  refine VX_callO (ok 0 _) [9] [] rfl rfl rfl rfl rfl rfl rfl rfl c4 rfl rfl rfl ?_
  refine VX_go4 (fs := []) (ok 0 _) eqs trivial 100 [31] rfl trivial ?_
  refine VX_known 30 true rfl rfl (by simp) ?_
  refine VX_go4 (fs := []) (ok 0 _) eqs trivial 100 [] rfl trivial ?_
  refine VX_callO (ok 0 _) [9, 5, 22] [] rfl rfl rfl rfl rfl rfl rfl rfl c5 rfl rfl rfl ?_
  refine VX_callO (ok 0 _) [9, 5, 22] [] rfl rfl rfl rfl rfl rfl rfl rfl c6 rfl rfl rfl ?_
  refine VX_go4 (fs := []) (ok 0 _) eqs trivial 100 [42] rfl trivial ?_
  refine VX_known 41 true rfl rfl e6 ?_
  refine VX_go4 (fs := []) (ok 0 _) eqs trivial 100 [] rfl trivial ?_
  exact ⟨.inr rfl, rfl⟩

theorem rdB_or (s : List UInt8) (k h : Nat) : rdB s k h = Nt.fresh k h ∨ ((rdB s k h).bytes = s) := by
  unfold rdB
  split
  · rename_i hc
    have := hc.1
    rw [okN_eq, decide_eq_true_eq] at this
    exact .inr this
  · exact .inl rfl
theorem rdB_ok (s : List UInt8) {k h : Nat} (hk : k < 256) (hh : h < 4294967296) : (rdB s k h).ok := by
  unfold rdB
  split
  · exact rdN_ok s
  · exact Nt.fresh_ok hk hh
set_option maxHeartbeats 1600000 in
theorem back_ok (x0 x1 x2 x3 : E) : FnOk Tryd.prog tb 4 [27, 9, 5, 22] [4] [x0, x1, x2, x3] [.bool true] := by
  refine FnOk_of_V (fn := Tryd.f4) (bt := 4) (ok 0 _) Tryd.func4 rfl rfl rfl (by decide) fun hw => ?_
  obtain ⟨x, rfl, hx⟩ := wt_note (hw 0 _ x0 rfl rfl)
  obtain ⟨s, rfl⟩ := wt_str (hw 1 _ x1 rfl rfl) rfl
  obtain ⟨k, rfl, hk⟩ := wt_nat .u8 256 (hw 2 _ x2 rfl rfl) rfl inr8
  obtain ⟨h, rfl, hh⟩ := wt_nat .u32 4294967296 (hw 3 _ x3 rfl rfl) rfl inr32
  clear hw
  have c1 := (nbytes_ok hx).g
  have c2 := (nread_ok x.bytes k h).g
  have c3 := (nread_ok s k h).g
  have c4 := (known_ok x.bytes).g
  rw [okN_bytes hx] at c4
  have c5 := (nread_ok x.bytes x.k x.h).g
  rw [rdB_self hx] at c5
  have c6 := (nbytes_ok (rdB_ok s hk hh)).g
  have h6 := rdB_or s k h
  rw [rdB_bytes hx] at c2
  have e5 := eqNt x
  generalize x.bytes = B at c1 c2 c4 c5
  generalize (rdB s k h) = R at c3 c6 h6
  obtain ⟨X1, X2, X3, X4, X5, X6⟩ := x
  simp only at c2 c5
  apply V_of_VX
  refine VX_go4 (fs := []) (ok 0 _) eqs trivial 100 [] rfl trivial ?_
  refine VX_callD (ok 0 _) [] [] rfl rfl rfl rfl rfl rfl awake_ok.g rfl rfl rfl ?_
  refine VX_go4 (fs := []) (ok 0 _) eqs trivial 100 [] rfl trivial ?_
  refine VX_known 14 false rfl rfl rfl ?_
  refine VX_go4 (fs := []) (ok 0 _) eqs trivial 100 [] rfl trivial ?_
  refine VX_split 17 rfl rfl (fun _ => ?_) (fun _ => ?_)
  · refine VX_go4 (fs := []) (ok 0 _) eqs trivial 100 [] rfl trivial ?_
    exact ⟨.inr rfl, rfl⟩
  refine VX_go4 (fs := []) (ok 0 _) eqs trivial 100 [] rfl trivial ?_
  refine VX_callD (ok 0 _) [27] [] rfl rfl rfl rfl rfl rfl c1 rfl rfl rfl ?_
  refine VX_go4 (fs := []) (ok 0 _) eqs trivial 100 [] rfl trivial ?_
  refine VX_callD (ok 0 _) [9, 5, 22] [] rfl rfl rfl rfl rfl rfl c2 rfl rfl rfl ?_
  obtain ⟨O, hO⟩ : ∃ O, (if X1 = k ∧ X2 = h then (⟨X1, X2, X3, X4, X5, X6⟩ : Nt) else Nt.fresh k h) = O := ⟨_, rfl⟩
  rw [hO]
  obtain ⟨O1, O2, O3, O4, O5, O6⟩ := O
  obtain ⟨R1, R2, R3, R4, R5, R6⟩ := R
  refine VX_go4 (fs := []) (ok 0 _) eqs trivial 100 [] rfl trivial ?_
  by_cases hA : X1 = k
  · refine VX_known 28 true rfl rfl (by simp; omega) ?_
    by_cases hB : X2 = h
    · skip
      refine VX_go4 (fs := []) (ok 0 _) eqs trivial 100 [] rfl trivial ?_
      refine VX_callD (ok 0 _) [9, 5, 22] [] rfl rfl rfl rfl rfl rfl c3 rfl rfl rfl ?_
      refine VX_go4 (fs := []) (ok 0 _) eqs trivial 100 [] rfl trivial ?_
      refine VX_draw [] [(0, true), (1, false), (2, true), (3, true), (4, true), (5, true), (6, true), (7, true), (9, true), (8, false), (10, true), (11, true), (12, true), (13, true), (14, true), (15, true), (16, true), (17, true), (18, true), (19, true), (20, true), (21, true), (22, true), (23, true), (24, true), (25, true), (26, true), (27, true), (28, true), (29, true), (31, true), (30, false), (32, true), (33, true), (34, true), (35, true)] mixed (by kernel_rfl) (by kernel_rfl) (by kernel_rfl) ?_
      refine VX_go4 (fs := []) (ok 0 _) eqs trivial 100 [] rfl trivial ?_
      refine VX_callO (ok 0 _) [9] [] rfl rfl rfl rfl rfl rfl rfl rfl c4 rfl rfl rfl ?_
      refine VX_go4 (fs := []) (ok 0 _) eqs trivial 100 [] rfl trivial ?_
      refine VX_known 40 true rfl rfl rfl ?_
      refine VX_go4 (fs := []) (ok 0 _) eqs trivial 100 [] rfl trivial ?_
      refine VX_callO (ok 0 _) [9, 5, 22] [] rfl rfl rfl rfl rfl rfl rfl rfl c5 rfl rfl rfl ?_
      refine VX_go4 (fs := []) (ok 0 _) eqs trivial 100 [49] rfl trivial ?_
      refine VX_known 48 true rfl rfl e5 ?_
      refine VX_go4 (fs := []) (ok 0 _) eqs trivial 100 [] rfl trivial ?_
      refine VX_known 52 true rfl rfl (by simp; omega) ?_
      refine VX_go4 (fs := []) (ok 0 _) eqs trivial 100 [] rfl trivial ?_
      rcases h6 with h6 | h6
      · have e65 : eqE (.agg [.int R1, .int R2, .int R3, Sh.dgE R4, Sh.dgE R5, .int R6]) (Nt.fresh k h).E = true := by rw [← h6]; exact eqNt ⟨R1, R2, R3, R4, R5, R6⟩
        refine VX_known 66 true rfl rfl e65 ?_
        refine VX_go4 (fs := []) (ok 0 _) eqs trivial 100 [] rfl trivial ?_
        exact ⟨.inr rfl, rfl⟩
      · refine VX_go4 (fs := []) (ok 0 _) eqs trivial 100 [] rfl trivial ?_
        refine VX_split 66 rfl rfl (fun _ => ?_) (fun _ => ?_)
        · refine VX_go4 (fs := []) (ok 0 _) eqs trivial 100 [] rfl trivial ?_
          exact ⟨.inr rfl, rfl⟩
        · refine VX_go4 (fs := []) (ok 0 _) eqs trivial 100 [] rfl trivial ?_
          refine VX_callO (ok 0 _) [27] [] rfl rfl rfl rfl rfl rfl rfl rfl c6 rfl rfl rfl ?_
          refine VX_go4 (fs := []) (ok 0 _) eqs trivial 100 [71] rfl trivial ?_
          refine VX_known 70 true rfl rfl (by simpa using h6) ?_
          refine VX_go4 (fs := []) (ok 0 _) eqs trivial 100 [] rfl trivial ?_
          exact ⟨.inr rfl, rfl⟩
    · skip
      have hOf : (⟨O1, O2, O3, O4, O5, O6⟩ : Nt) = Nt.fresh k h := by rw [← hO]; exact if_neg (by omega)
      have e57 : eqE (.agg [.int O1, .int O2, .int O3, Sh.dgE O4, Sh.dgE O5, .int O6]) (Nt.fresh k h).E = true := by rw [← hOf]; exact eqNt ⟨O1, O2, O3, O4, O5, O6⟩
      refine VX_go4 (fs := []) (ok 0 _) eqs trivial 100 [] rfl trivial ?_
      refine VX_callD (ok 0 _) [9, 5, 22] [] rfl rfl rfl rfl rfl rfl c3 rfl rfl rfl ?_
      refine VX_go4 (fs := []) (ok 0 _) eqs trivial 100 [] rfl trivial ?_
      refine VX_draw [] [(0, true), (1, false), (2, true), (3, true), (4, true), (5, true), (6, true), (7, true), (9, true), (8, false), (10, true), (11, true), (12, true), (13, true), (14, true), (15, true), (16, true), (17, true), (18, true), (19, true), (20, true), (21, true), (22, true), (23, true), (24, true), (25, true), (26, true), (27, true), (28, true), (29, true), (31, true), (30, false), (32, true), (33, true), (34, true), (35, true)] mixed (by kernel_rfl) (by kernel_rfl) (by kernel_rfl) ?_
      refine VX_go4 (fs := []) (ok 0 _) eqs trivial 100 [] rfl trivial ?_
      refine VX_callO (ok 0 _) [9] [] rfl rfl rfl rfl rfl rfl rfl rfl c4 rfl rfl rfl ?_
      refine VX_go4 (fs := []) (ok 0 _) eqs trivial 100 [] rfl trivial ?_
      refine VX_known 40 true rfl rfl rfl ?_
      refine VX_go4 (fs := []) (ok 0 _) eqs trivial 100 [] rfl trivial ?_
      refine VX_callO (ok 0 _) [9, 5, 22] [] rfl rfl rfl rfl rfl rfl rfl rfl c5 rfl rfl rfl ?_
      refine VX_go4 (fs := []) (ok 0 _) eqs trivial 100 [49] rfl trivial ?_
      refine VX_known 48 true rfl rfl e5 ?_
      refine VX_go4 (fs := []) (ok 0 _) eqs trivial 100 [] rfl trivial ?_
      refine VX_known 52 false rfl rfl (by simp; omega) ?_
      refine VX_go4 (fs := []) (ok 0 _) eqs trivial 100 [58] rfl trivial ?_
      refine VX_known 57 true rfl rfl e57 ?_
      refine VX_go4 (fs := []) (ok 0 _) eqs trivial 100 [] rfl trivial ?_
      rcases h6 with h6 | h6
      · have e65 : eqE (.agg [.int R1, .int R2, .int R3, Sh.dgE R4, Sh.dgE R5, .int R6]) (Nt.fresh k h).E = true := by rw [← h6]; exact eqNt ⟨R1, R2, R3, R4, R5, R6⟩
        refine VX_known 66 true rfl rfl e65 ?_
        refine VX_go4 (fs := []) (ok 0 _) eqs trivial 100 [] rfl trivial ?_
        exact ⟨.inr rfl, rfl⟩
      · refine VX_go4 (fs := []) (ok 0 _) eqs trivial 100 [] rfl trivial ?_
        refine VX_split 66 rfl rfl (fun _ => ?_) (fun _ => ?_)
        · refine VX_go4 (fs := []) (ok 0 _) eqs trivial 100 [] rfl trivial ?_
          exact ⟨.inr rfl, rfl⟩
        · refine VX_go4 (fs := []) (ok 0 _) eqs trivial 100 [] rfl trivial ?_
          refine VX_callO (ok 0 _) [27] [] rfl rfl rfl rfl rfl rfl rfl rfl c6 rfl rfl rfl ?_
          refine VX_go4 (fs := []) (ok 0 _) eqs trivial 100 [71] rfl trivial ?_
          refine VX_known 70 true rfl rfl (by simpa using h6) ?_
          refine VX_go4 (fs := []) (ok 0 _) eqs trivial 100 [] rfl trivial ?_
          exact ⟨.inr rfl, rfl⟩
  · skip
    refine VX_known 28 false rfl rfl (by simp; omega) ?_
    have hOf : (⟨O1, O2, O3, O4, O5, O6⟩ : Nt) = Nt.fresh k h := by rw [← hO]; exact if_neg (by omega)
    have e57 : eqE (.agg [.int O1, .int O2, .int O3, Sh.dgE O4, Sh.dgE O5, .int O6]) (Nt.fresh k h).E = true := by rw [← hOf]; exact eqNt ⟨O1, O2, O3, O4, O5, O6⟩
    refine VX_go4 (fs := []) (ok 0 _) eqs trivial 100 [] rfl trivial ?_
    refine VX_callD (ok 0 _) [9, 5, 22] [] rfl rfl rfl rfl rfl rfl c3 rfl rfl rfl ?_
    refine VX_go4 (fs := []) (ok 0 _) eqs trivial 100 [] rfl trivial ?_
    refine VX_draw [] [(0, true), (1, false), (2, true), (3, true), (4, true), (5, true), (6, true), (7, true), (9, true), (8, false), (10, true), (11, true), (12, true), (13, true), (14, true), (15, true), (16, true), (17, true), (18, true), (19, true), (20, true), (21, true), (22, true), (23, true), (24, true), (25, true), (26, true), (27, true), (28, true), (29, true), (31, true), (30, false), (32, true), (33, true), (34, true), (35, true)] mixed (by kernel_rfl) (by kernel_rfl) (by kernel_rfl) ?_
    refine VX_go4 (fs := []) (ok 0 _) eqs trivial 100 [] rfl trivial ?_
    refine VX_callO (ok 0 _) [9] [] rfl rfl rfl rfl rfl rfl rfl rfl c4 rfl rfl rfl ?_
    refine VX_go4 (fs := []) (ok 0 _) eqs trivial 100 [] rfl trivial ?_
    refine VX_known 40 true rfl rfl rfl ?_
    refine VX_go4 (fs := []) (ok 0 _) eqs trivial 100 [] rfl trivial ?_
    refine VX_callO (ok 0 _) [9, 5, 22] [] rfl rfl rfl rfl rfl rfl rfl rfl c5 rfl rfl rfl ?_
    refine VX_go4 (fs := []) (ok 0 _) eqs trivial 100 [49] rfl trivial ?_
    refine VX_known 48 true rfl rfl e5 ?_
    refine VX_go4 (fs := []) (ok 0 _) eqs trivial 100 [58] rfl trivial ?_
    refine VX_known 57 true rfl rfl e57 ?_
    refine VX_go4 (fs := []) (ok 0 _) eqs trivial 100 [] rfl trivial ?_
    rcases h6 with h6 | h6
    · have e65 : eqE (.agg [.int R1, .int R2, .int R3, Sh.dgE R4, Sh.dgE R5, .int R6]) (Nt.fresh k h).E = true := by rw [← h6]; exact eqNt ⟨R1, R2, R3, R4, R5, R6⟩
      refine VX_known 66 true rfl rfl e65 ?_
      refine VX_go4 (fs := []) (ok 0 _) eqs trivial 100 [] rfl trivial ?_
      exact ⟨.inr rfl, rfl⟩
    · refine VX_go4 (fs := []) (ok 0 _) eqs trivial 100 [] rfl trivial ?_
      refine VX_split 66 rfl rfl (fun _ => ?_) (fun _ => ?_)
      · refine VX_go4 (fs := []) (ok 0 _) eqs trivial 100 [] rfl trivial ?_
        exact ⟨.inr rfl, rfl⟩
      · refine VX_go4 (fs := []) (ok 0 _) eqs trivial 100 [] rfl trivial ?_
        refine VX_callO (ok 0 _) [27] [] rfl rfl rfl rfl rfl rfl rfl rfl c6 rfl rfl rfl ?_
        refine VX_go4 (fs := []) (ok 0 _) eqs trivial 100 [71] rfl trivial ?_
        refine VX_known 70 true rfl rfl (by simpa using h6) ?_
        refine VX_go4 (fs := []) (ok 0 _) eqs trivial 100 [] rfl trivial ?_
        exact ⟨.inr rfl, rfl⟩
end Go.Den.Q21
/- Law 21: NotesCut. -/
namespace Go.Den.Q21
open Go Go.Den Go.Proofs Go.Den.Q21.Dg
set_option maxRecDepth 8000
set_option linter.unusedVariables false
set_option linter.unusedSimpArgs false

theorem okN_short {s : List UInt8} (h : s.length ≠ 117) : okN s = false := by
  cases ho : okN s with
  | false => rfl
  | true => exact absurd (okN_len ho) h
set_option maxHeartbeats 800000 in
theorem cut_ok (x0 x1 x2 : E) : FnOk Tryd.prog tb 5 [27, 3, 9] [4] [x0, x1, x2] [.bool true] := by
  refine FnOk_of_V (fn := Tryd.f5) (bt := 4) (ok 0 _) Tryd.func5 rfl rfl rfl (by decide) fun hw => ?_
  obtain ⟨x, rfl, hx⟩ := wt_note (hw 0 _ x0 rfl rfl)
  obtain ⟨c, rfl, hc⟩ := wt_int (hw 1 _ x1 rfl rfl) (k := .i64) rfl
  obtain ⟨m, rfl⟩ := wt_str (hw 2 _ x2 rfl rfl) rfl
  clear hw
  have c1 := (nbytes_ok hx).g
  have hl := Nt.bytes_length hx
  have hok := okN_bytes hx
  obtain ⟨k, hk, hk2⟩ : ∃ k : Nat, IntKind.wrap .i64 (Int.tmod (IntKind.wrap .u64 c) (IntKind.wrap .u64 ((x.bytes.length : Nat) : Int))) = (k : Int) ∧ k < 117 := by
    rw [hl, wrap_eq (k := .u64), wrap_eq (k := .u64)]
    simp only
    have h1 := Int.emod_nonneg c (show (18446744073709551616 : Int) ≠ 0 by decide)
    refine ⟨((c % 18446744073709551616) % 117).toNat, ?_, by omega⟩
    rw [show ((117 : Nat) : Int) % 18446744073709551616 = 117 by decide, Int.tmod_eq_emod_of_nonneg h1, w64 (by omega) (by omega)]
    omega
  have c2 := (known_ok (x.bytes.take k)).g
  rw [okN_short (by simp [hl]; omega)] at c2
  have c3 := (known_ok (x.bytes ++ m)).g
  have h3 : okN (x.bytes ++ m) = decide (m = []) := by
    by_cases hm : m = []
    · subst hm; rw [List.append_nil, hok]; rfl
    · have : m.length ≠ 0 := fun h => hm (List.length_eq_zero_iff.1 h)
      rw [decide_eq_false hm]; exact okN_short (by simp [hl]; omega)
  rw [h3] at c3
  generalize x.bytes = B at c1 c2 c3 hl hk
  obtain ⟨X1, X2, X3, X4, X5, X6⟩ := x
  apply V_of_VX
  refine VX_go4 (fs := []) (ok 0 _) eqs trivial 100 [] rfl trivial ?_
  refine VX_callD (ok 0 _) [] [] rfl rfl rfl rfl rfl rfl awake_ok.g rfl rfl rfl ?_
  refine VX_go4 (fs := []) (ok 0 _) eqs trivial 100 [] rfl trivial ?_
  refine VX_known 10 false rfl rfl rfl ?_
  refine VX_go4 (fs := []) (ok 0 _) eqs trivial 100 [] rfl trivial ?_
  refine VX_split 13 rfl rfl (fun h => ?_) (fun h => ?_)
  · refine VX_go4 (fs := []) (ok 0 _) eqs trivial 100 [] rfl trivial ?_
    exact ⟨.inr rfl, rfl⟩
  have hm : m.length ≤ 200 := by simp at h; omega
  refine VX_go4 (fs := []) (ok 0 _) eqs trivial 100 [] rfl trivial ?_
  refine VX_callD (ok 0 _) [27] [] rfl rfl rfl rfl rfl rfl c1 rfl rfl rfl ?_
  refine VX_go4 (fs := []) (ok 0 _) eqs trivial 100 [8] rfl (by simp [allP, arithP, hl, wrap_eq]) ?_
  refine VX_eq 22 rfl rfl (d' := .t 3 (.e (.int k))) (congrArg (fun x => D.t 3 (.e (.int x))) hk) ?_
  refine VX_go4 (fs := []) (ok 0 _) eqs trivial 100 [26] rfl (by simp [allP]; omega) ?_
  have ht : ((B.take ((k : Int)).toNat).drop 0) = B.take k := by simp
  refine VX_eq 25 rfl rfl (d' := .t 9 (.e (.str (B.take k)))) (congrArg (fun x => D.t 9 (.e (.str x))) ht) ?_
  refine VX_callD (ok 0 _) [9] [] rfl rfl rfl rfl rfl rfl c2 rfl rfl rfl ?_
  refine VX_go4 (fs := []) (ok 0 _) eqs trivial 100 [] rfl trivial ?_
  refine VX_known 28 true rfl rfl rfl ?_
  refine VX_go4 (fs := []) (ok 0 _) eqs trivial 100 [] rfl (by simp [allP, maxI, hl]; omega) ?_
  refine VX_callD (ok 0 _) [9] [] rfl rfl rfl rfl rfl rfl c3 rfl rfl rfl ?_
  refine VX_go4 (fs := []) (ok 0 _) eqs trivial 100 [36] rfl trivial ?_
  refine VX_known 35 true rfl rfl (by simp) ?_
  refine VX_go4 (fs := []) (ok 0 _) eqs trivial 100 [] rfl trivial ?_
  exact ⟨.inr rfl, rfl⟩
end Go.Den.Q21
/-
  What the laid variables give the walks; the world that the door leaves meets the condition.
-/
namespace Go.Proofs.YtnjdgejaklcemaaDoor
open Go.ChangeShapes Go.WideShapes Go.ChangeAt Go.RowKit
set_option linter.unusedVariables false
def laid2 : List (String × DataW Unit) := Rows.notesReadsRow.laid
theorem own : ownKnob Tryd.prog.godebug = none := by kernel_rfl
theorem laidOut : laidOutB Tryd.prog = true := by kernel_rfl
theorem gFirst : Tryd.prog.globalNamed "pontoon/sha.first" = some 0 := by kernel_rfl
theorem gConsts : Tryd.prog.globalNamed "pontoon/sha.constants" = some 1 := by kernel_rfl
theorem tFirst : (Tryd.prog.globals[0]?).map (·.type) = some 81 := by kernel_rfl
theorem tConsts : (Tryd.prog.globals[1]?).map (·.type) = some 106 := by kernel_rfl
theorem door_met (os : Os) (args : Array Value) : laidMetH Tryd.prog laid2 ((World.doorLaid Tryd.prog 400 os).forCall (fun _ _ => 0) ⟨#[], args, []⟩).memory :=
  laidMetH_of_parts3 (fuel := 8) (laidMet_of_run' 8 (by kernel_rfl) (by kernel_rfl)) (by kernel_rfl) (by kernel_rfl)
theorem of_laid {W : World} (h : laidMetH Tryd.prog laid2 W) : Go.Den.GlRel Go.Den.Q21.tb (Go.Den.Hw W) := by
  rw [MakeChecks.laidMetH_plain _ _ _ (by kernel_rfl)] at h
  obtain ⟨ps, ⟨g0, t0, cs0, f0, p0, q0, hg0, ht0, hv0, hd0, ⟨g1, t1, cs1, f1, p1, q1, hg1, ht1, hv1, hd1, _, _⟩, _⟩, _, _⟩ := h
  obtain rfl := Option.some.inj (gFirst.symm.trans hg0)
  obtain rfl := Option.some.inj (gConsts.symm.trans hg1)
  obtain rfl := Option.some.inj (tFirst.symm.trans ht0)
  obtain rfl := Option.some.inj (tConsts.symm.trans ht1)
  intro g ty x hm
  simp only [Go.Den.Q21.tb, List.mem_cons, List.not_mem_nil, or_false] at hm
  rcases hm with hm | hm
  · cases hm
    exact Go.Den.gl_ints (ns := Go.Den.Q21.kL) Go.Den.Q21.tabOk hg1 hv1 rfl rfl hd1
  · cases hm
    exact Go.Den.gl_ints (ns := Go.Den.Q21.fL) Go.Den.Q21.tabOk hg0 hv0 rfl rfl hd0
end Go.Proofs.YtnjdgejaklcemaaDoor
