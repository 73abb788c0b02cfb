/- The calculus and the walks, part 8: Q33W, Q33D, Q33M, DenPair2. -/
import Derived.Test.YtlhmimpbpphchaaDoorP7
import Derived.Test.YtlhmimpbpphchaaDoorP6
/- Contracts of another seat, turned to this seat's numbers (port2.py). -/
namespace Go.Den.Q33.Wi
open Go Go.Den Go.Proofs
set_option maxRecDepth 8000
set_option linter.unusedVariables false
/-- A number in so many bytes. -/
def bigB (n k : Nat) : List UInt8 := (List.range k).map fun i => UInt8.ofNat (n / 256 ^ (k - 1 - i) % 256)
theorem bigB_length (n k : Nat) : (bigB n k).length = k := by simp [bigB]
def bigE (n k i : Nat) : E := .int ((n / 256 ^ (k - 1 - i) % 256 : Nat) : Int)
/-- The array when i bytes of it are laid, from the front. -/
def fr (n k i : Nat) : List E := (List.range i).map (bigE n k) ++ List.replicate (8 - i) (.int 0)
theorem fr_set (n k i : Nat) (h : i < 8) : (fr n k i).set i (bigE n k i) = fr n k (i + 1) := by
  unfold fr
  rw [List.set_append_right _ _ (by simp)]
  obtain ⟨m, hm⟩ : ∃ m, 8 - i = m + 1 := ⟨8 - i - 1, by omega⟩
  have hm' : 8 - (i + 1) = m := by omega
  simp [hm, hm', List.replicate_succ, List.range_succ]
/-- .. from the back. -/
def bk (n k i : Nat) : List E := List.replicate i (.int 0) ++ (List.range (k - i)).map (fun j => bigE n k (i + j)) ++ List.replicate (8 - k) (.int 0)
theorem bk_set (n k i : Nat) (h : i < k) : (bk n k (i + 1)).set i (bigE n k i) = bk n k i := by
  unfold bk
  obtain ⟨m, hm⟩ : ∃ m, k - i = m + 1 := ⟨k - i - 1, by omega⟩
  have hm' : k - (i + 1) = m := by omega
  rw [List.append_assoc, List.set_append_left _ _ (by simp), hm, hm', List.range_succ_eq_map]
  have : (List.replicate (i + 1) (E.int 0)).set i (bigE n k i) = List.replicate i (.int 0) ++ [bigE n k i] := by
    rw [List.replicate_succ', List.set_append_right _ _ (by simp)]; simp
  rw [this]
  simp [List.map_map, Function.comp_def, Nat.add_assoc, Nat.add_comm 1]
theorem byteOf_bigE (n k i : Nat) : byteOf (bigE n k i) = UInt8.ofNat (n / 256 ^ (k - 1 - i) % 256) := by
  show UInt8.ofNat (Int.toNat ((n / 256 ^ (k - 1 - i) % 256 : Nat) : Int)) = _
  rw [Int.toNat_natCast]
theorem fr_done (n k : Nat) (h : k ≤ 8) : (((fr n k k).drop 0).take k).map byteOf = bigB n k := by
  unfold fr
  rw [List.drop_zero, List.take_left' (by simp)]
  simp [bigB, List.map_map, Function.comp_def, byteOf_bigE]
theorem bk_done (n k : Nat) (h : k ≤ 8) : (((bk n k 0).drop 0).take k).map byteOf = bigB n k := by
  unfold bk
  rw [List.drop_zero]
  simp only [List.replicate_zero, List.nil_append, Nat.sub_zero, Nat.zero_add]
  rw [List.take_left' (by simp)]
  simp [bigB, List.map_map, Function.comp_def, byteOf_bigE]
theorem shr_byte (n k i : Nat) (hi : i < k) (hk : k ≤ 8) (hn : n < 18446744073709551616) : IntKind.wrap .u8 ((n : Int).fdiv (2 ^ (min (IntKind.wrap .i64 (8 * IntKind.wrap .i64 (IntKind.wrap .i64 ((k : Int) - 1) - (i : Int)))).toNat IntKind.u64.bits))) = ((n / 256 ^ (k - 1 - i) % 256 : Nat) : Int) := by
  rw [w64 (a := (k : Int) - 1) (by omega) (by omega), w64 (a := (k : Int) - 1 - i) (by omega) (by omega), w64 (by omega) (by omega)]
  have h1 : (8 * ((k : Int) - 1 - (i : Int))).toNat = 8 * (k - 1 - i) := by omega
  rw [h1]
  have h2 : min (8 * (k - 1 - i)) IntKind.u64.bits = 8 * (k - 1 - i) := by simp [IntKind.bits]; omega
  rw [h2]
  have h3 : (2 : Int) ^ (8 * (k - 1 - i)) = ((256 ^ (k - 1 - i) : Nat) : Int) := by
    rw [Int.pow_mul]; simp
  rw [h3, Int.fdiv_eq_ediv_of_nonneg _ (Int.natCast_nonneg _)]
  rw [wrap_eq]; simp only []
  norm_cast
theorem big_ok (n k : Nat) (hk : 1 ≤ k) (hk8 : k ≤ 8) (hn : n < 18446744073709551616) : FnOk Tryd.prog tb 62 [22, 3] [9] [.int n, .int k] [.str (bigB n k)] := by
  refine FnOk_of_V (fn := Tryd.f62) (bt := 4) (ok 0 _) Tryd.func62 rfl rfl rfl (by decide) fun hw => ?_
  apply V_of_VX
  refine VX_go3 (fs := []) (ok 0 _) eqs trivial 100 [] rfl trivial ?_
  refine VX_loopA (fun i : Nat => i ≤ k) (fun i => [(8, .t 3 (.e (.int i))), (7, .t 3 (.e (.int k))), (1, .t 3 (.e (.int k))), (0, .t 22 (.e (.int n))), (5, .ptr 0 [])]) (fun i => [.tree 117 (.e (.agg (fr n k i)))]) (fun i => k - i) 0 (by omega) ?_ ?_
  · exact wk1 rfl rfl (by simp [Blk.under, T.under]) (lc (ls rfl rfl) (lc (ls rfl rfl) (lc (ls rfl rfl) (lc (ls rfl rfl) (lc (ls rfl rfl) lnil)))))
  · intro i hi
    refine VX_go3 (fs := []) (ok 0 _) eqs trivial 100 [] rfl trivial ?_
    refine VX_split 9 rfl rfl (fun h => ?_) (fun h => ?_)
    · have hi : i < k := by simpa using h
      refine VX_go3 (fs := []) (ok 0 _) eqs trivial 100 [] rfl ?_ ?_
      · refine ⟨by omega, ?_⟩
        show 0 ≤ IntKind.i64.wrap _
        rw [w64 (a := (k : Int) - 1) (by omega) (by omega), w64 (a := (k : Int) - 1 - i) (by omega) (by omega), w64 (by omega) (by omega)]
        omega
      refine loop_nrm ⟨i + 1, by omega, by omega, ?_⟩
      refine wk1 ?_ rfl (by simp [Blk.under, T.under]) (lc (li ?_) (lc (ls rfl rfl) (lc (ls rfl rfl) (lc (ls rfl rfl) (lc (ls rfl rfl) lnil)))))
      · show [Blk.tree 117 (.e (.agg ((fr n k i).set _ (.int _))))] = _
        rw [shr_byte n k i hi hk8 hn, ← fr_set n k i (by omega)]; rfl
      · rw [w64 (by omega) (by omega)]; simp
    · have : i = k := by simp at h; omega
      subst this
      refine VX_go3 (fs := []) (ok 0 _) eqs trivial 100 [] rfl trivial ?_
      apply loop_brk
      refine VX_go3 (fs := []) (ok 0 _) eqs trivial 100 [] rfl ?_ ?_
      · simp [allP]; omega
      refine ⟨.inr rfl, ?_⟩
      rw [← fr_done n i hk8]; rfl
theorem Big_ok (n k : Nat) (hk : 1 ≤ k) (hk8 : k ≤ 8) (hn : n < 18446744073709551616) : FnOk Tryd.prog tb 49 [22, 3] [9] [.int n, .int k] [.str (bigB n k)] := by
  refine FnOk_of_V (fn := Tryd.f49) (bt := 4) (ok 0 _) Tryd.func49 rfl rfl rfl (by decide) fun hw => ?_
  apply V_of_VX
  refine VX_go3 (fs := []) (ok 0 _) eqs trivial 100 [] rfl trivial ?_
  refine VX_loopA (fun i : Nat => i ≤ k) (fun i => [(6, .t 3 (.e (.int ((i : Int) - 1)))), (1, .t 3 (.e (.int k))), (0, .t 22 (.e (.int ((n / 256 ^ (k - i) : Nat) : Int)))), (5, .ptr 0 [])]) (fun i => [.tree 117 (.e (.agg (bk n k i)))]) (fun i => i) k (by omega) ?_ ?_
  · refine wk1 ?_ rfl (by simp [Blk.under, T.under]) (lc (li ?_) (lc (ls rfl rfl) (lc (li ?_) (lc (ls rfl rfl) lnil))))
    · have : bk n k k = List.replicate 8 (.int 0) := by
        unfold bk; rw [Nat.sub_self]; simp only [List.range_zero, List.map_nil, List.append_nil, List.replicate_append_replicate]; rw [show k + (8 - k) = 8 by omega]
      rw [this]; rfl
    · rw [w64 (by omega) (by omega)]
    · simp
  · intro i hi
    refine VX_go3 (fs := []) (ok 0 _) eqs trivial 100 [] rfl trivial ?_
    refine VX_split 10 rfl rfl (fun h => ?_) (fun h => ?_)
    · obtain ⟨j, rfl⟩ : ∃ j, i = j + 1 := ⟨i - 1, by simp at h; omega⟩
      have hq : ((n / 256 ^ (k - (j + 1)) : Nat) : Int) < 18446744073709551616 := by
        have := Nat.div_le_self n (256 ^ (k - (j + 1))); omega
      refine VX_go3 (fs := []) (ok 0 _) eqs trivial 100 [] rfl ?_ ?_
      · simp [allP, arithP]; omega
      refine loop_nrm ⟨j, by omega, by omega, ?_⟩
      refine wk1 ?_ rfl (by simp [Blk.under, T.under]) (lc (li ?_) (lc (ls rfl rfl) (lc (li ?_) (lc (ls rfl rfl) lnil))))
      · show [Blk.tree 117 (.e (.agg ((bk n k (j + 1)).set _ (.int _))))] = _
        rw [← bk_set n k j (by omega)]
        have e1 : (((j + 1 : Nat) : Int) - 1).toNat = j := by omega
        have e2 : IntKind.wrap .u8 (((n / 256 ^ (k - (j + 1)) : Nat) : Int).tmod 256) = ((n / 256 ^ (k - 1 - j) % 256 : Nat) : Int) := by
          rw [show k - 1 - j = k - (j + 1) by omega]
          generalize n / 256 ^ (k - (j + 1)) = q
          rw [wrap_eq]; simp only []
          rw [Int.tmod_eq_emod_of_nonneg (by omega)]; omega
        rw [e1, e2]; rfl
      · rw [w64 (by omega) (by omega)]; omega
      · rw [inR_wrap]
        · rw [show k - j = k - (j + 1) + 1 by omega, Nat.pow_succ, ← Nat.div_div_eq_div_mul]; rfl
        · generalize n / 256 ^ (k - (j + 1)) = q at hq
          simp only [inR, Bool.and_eq_true, decide_eq_true_eq]
          rw [Int.tdiv_eq_ediv_of_nonneg (by omega)]
          omega
    · have : i = 0 := by simp at h; omega
      subst this
      refine VX_go3 (fs := []) (ok 0 _) eqs trivial 100 [] rfl trivial ?_
      apply loop_brk
      refine VX_go3 (fs := []) (ok 0 _) eqs trivial 100 [] rfl ?_ ?_
      · simp [allP]; omega
      refine ⟨.inr rfl, ?_⟩
      rw [← bk_done n k hk8]; rfl
theorem word_ok (n : Nat) (hn : n < 4294967296) : FnOk Tryd.prog tb 47 [32] [9] [.int n] [.str (bigB n 4)] := by
  refine FnOk_of_V (fn := Tryd.f47) (bt := 4) (ok 0 _) Tryd.func47 rfl rfl rfl (by decide) fun hw => ?_
  apply V_of_VX
  refine VX_go3 (fs := []) (ok 0 _) eqs trivial 100 [] rfl trivial ?_
  have e : IntKind.wrap .u64 (n : Int) = n := inR_wrap (by simp [inR]; omega)
  refine VX_eq 4 rfl rfl (d' := .t 22 (.e (.int n))) (by rw [e]; rfl) ?_
  refine VX_callD (ok 0 _) [22, 3] [] rfl rfl rfl rfl rfl rfl (big_ok n 4 (by omega) (by omega) (by omega)).g rfl rfl rfl ?_
  refine VX_go3 (fs := []) (ok 0 _) eqs trivial 100 [] rfl trivial ?_
  exact ⟨.inr rfl, rfl⟩
theorem long_ok (n : Nat) (hn : n < 18446744073709551616) : FnOk Tryd.prog tb 45 [22] [9] [.int n] [.str (bigB n 8)] := by
  refine FnOk_of_V (fn := Tryd.f45) (bt := 4) (ok 0 _) Tryd.func45 rfl rfl rfl (by decide) fun hw => ?_
  apply V_of_VX
  refine VX_go3 (fs := []) (ok 0 _) eqs trivial 100 [] rfl trivial ?_
  refine VX_callD (ok 0 _) [22, 3] [] rfl rfl rfl rfl rfl rfl (big_ok n 8 (by omega) (by omega) (by omega)).g rfl rfl rfl ?_
  refine VX_go3 (fs := []) (ok 0 _) eqs trivial 100 [] rfl trivial ?_
  exact ⟨.inr rfl, rfl⟩
/-- A digest's bytes. -/
def dB (xs : List E) : List UInt8 := ((xs.drop 0).take 32).map byteOf
theorem digest_ok (xs : List E) : FnOk Tryd.prog tb 46 [24] [9] [.agg xs] [.str (dB xs)] := by
  refine FnOk_of_V (fn := Tryd.f46) (bt := 4) (ok 0 _) Tryd.func46 rfl rfl rfl (by decide) fun hw => ?_
  apply V_of_VX
  refine VX_go3 (fs := []) (ok 0 _) eqs trivial 100 [] rfl (by simp [allP]) ?_
  exact ⟨.inr rfl, rfl⟩
theorem bytes_ok (xs : List E) : FnOk Tryd.prog tb 50 [24] [9] [.agg xs] [.str (dB xs)] := by
  refine FnOk_of_V (fn := Tryd.f50) (bt := 4) (ok 0 _) Tryd.func50 rfl rfl rfl (by decide) fun hw => ?_
  apply V_of_VX
  refine VX_go3 (fs := []) (ok 0 _) eqs trivial 100 [] rfl (by simp [allP]) ?_
  exact ⟨.inr rfl, rfl⟩
def textB (s : List UInt8) : List UInt8 := bigB s.length 4 ++ s
theorem text_ok (s : List UInt8) (hs : s.length ≤ 1000000) : FnOk Tryd.prog tb 76 [9] [9] [.str s] [.str (textB s)] := by
  refine FnOk_of_V (fn := Tryd.f76) (bt := 4) (ok 0 _) Tryd.func76 rfl rfl rfl (by decide) fun hw => ?_
  apply V_of_VX
  refine VX_go3 (fs := []) (ok 0 _) eqs trivial 100 [] rfl trivial ?_
  have e : IntKind.wrap .u32 (s.length : Int) = s.length := inR_wrap (by simp [inR]; omega)
  refine VX_eq 5 rfl rfl (d' := .t 32 (.e (.int s.length))) (by rw [e]; rfl) ?_
  refine VX_callD (ok 0 _) [32] [] rfl rfl rfl rfl rfl rfl (word_ok s.length (by omega)).g rfl rfl rfl ?_
  refine VX_go3 (fs := []) (ok 0 _) eqs trivial 100 [] rfl ?_ ?_
  · simp [allP, bigB_length, maxI]; omega
  exact ⟨.inr rfl, rfl⟩
theorem rtext_ok (s : List UInt8) (hs : s.length ≤ 1000000) : FnOk Tryd.prog tb 70 [9] [9] [.str s] [.str (textB s)] := by
  refine FnOk_of_V (fn := Tryd.f70) (bt := 4) (ok 0 _) Tryd.func70 rfl rfl rfl (by decide) fun hw => ?_
  apply V_of_VX
  refine VX_go3 (fs := []) (ok 0 _) eqs trivial 100 [] rfl trivial ?_
  have e : IntKind.wrap .u64 (s.length : Int) = s.length := inR_wrap (by simp [inR]; omega)
  refine VX_eq 5 rfl rfl (d' := .t 22 (.e (.int s.length))) (by rw [e]; rfl) ?_
  refine VX_callD (ok 0 _) [22, 3] [] rfl rfl rfl rfl rfl rfl (Big_ok s.length 4 (by omega) (by omega) (by omega)).g rfl rfl rfl ?_
  refine VX_go3 (fs := []) (ok 0 _) eqs trivial 100 [] rfl ?_ ?_
  · simp [allP, bigB_length, maxI]; omega
  exact ⟨.inr rfl, rfl⟩
end Go.Den.Q33.Wi
namespace Go.Den.Q33.Wi
open Go Go.Den Go.Proofs
set_option maxRecDepth 8000
set_option linter.unusedVariables false
theorem noEsc (x : Value) (w : World) : (callFunc 88 #[x]).run Tryd.prog w = .ok (.value x) w := rfl
/-- A builder and its row. -/
def bld (a : T) (n : Nat) (bs : List E) : List Blk := [.tree 130 (.st [a, .msl 1 n]), .mrow 5 true bs]
theorem check_ok (a : T) (ha : a = .e .nilp ∨ a = .ptr 0 []) (n : Nat) (bs : List E) : FnG Tryd.prog tb 83 (bld a n bs) [.ptr 0 []] (fun d s => d = .tup [] ∧ s = bld (.ptr 0 []) n bs) := by
  refine FnG_of_V (fn := Tryd.f83) (bt := 4) false [] [] (ok 2 _) Tryd.func83 rfl rfl rfl fun _ _ _ _ _ _ => ?_
  apply V_of_VX
  rcases ha with rfl | rfl
  · refine VX_go3 (fs := []) (ok 2 _) eqs trivial 100 [] rfl trivial ?_
    refine VX_op rfl rfl (OpV_toUnsafe (v := 130) (o' := 0) (u := 130) (ok 2 _) rfl rfl (by decide) (by kernel_rfl) rfl rfl rfl (by decide)) ?_
    rintro d s ⟨rfl, rfl⟩
    refine VX_op rfl rfl (OpV_noEscape (ok 2 _) rfl noEsc rfl) ?_
    rintro d s ⟨rfl, rfl⟩
    refine VX_op rfl rfl (OpV_ofUnsafe (v := 130) (o' := 0) (u := 130) (ok 2 _) rfl (by kernel_rfl) rfl (by decide) rfl rfl rfl (by decide) (by kernel_rfl)) ?_
    rintro d s ⟨rfl, rfl⟩
    refine VX_go3 (fs := []) (ok 2 _) eqs trivial 100 [] rfl trivial ?_
    exact ⟨.inl rfl, _, _, _, rfl, rfl, rfl, rfl, rfl⟩
  · refine VX_go3 (fs := []) (ok 2 _) eqs trivial 100 [] rfl (by simp [allP, td, tb]) ?_
    exact ⟨.inl rfl, _, _, _, rfl, rfl, rfl, rfl, rfl⟩
theorem writeS_ok (a : T) (ha : a = .e .nilp ∨ a = .ptr 0 []) (bs : List E) (s : List UInt8) (h1 : bs.length ≤ 1000000) (h2 : s.length ≤ 1000000) :
    FnG Tryd.prog tb 75 (bld a bs.length bs) [.ptr 0 [], .t 9 (.e (.str s))] (fun d t => d = .tup [.t 3 (.e (.int s.length)), .t 132 (.e .nili)] ∧ t = bld (.ptr 0 []) (bs.length + (s.map byteE).length) (bs ++ s.map byteE)) := by
  refine FnG_of_V (fn := Tryd.f75) (bt := 4) false [] [3, 132] (ok 2 _) Tryd.func75 rfl rfl rfl fun _ _ _ _ _ _ => ?_
  rcases ha with rfl | rfl
  all_goals
    apply V_of_VX
    refine VX_go3 (fs := []) (ok 2 _) eqs trivial 100 [] rfl trivial ?_
    refine VX_callD (ok 2 _) [128] [0, 1] rfl rfl rfl rfl rfl rfl (check_ok _ (by simp) bs.length bs) rfl rfl rfl ?_
    refine VX_go3 (fs := []) (ok 2 _) eqs trivial 100 [] rfl ?_ ?_
    · refine ⟨rfl, ?_, ?_⟩ <;> simp [nb, tb, maxL] <;> omega
    exact ⟨.inr rfl, _, _, _, rfl, rfl, rfl, rfl, rfl⟩
theorem string_ok (a : T) (ha : a = .e .nilp ∨ a = .ptr 0 []) (bs : List E) :
    FnG Tryd.prog tb 77 (bld a bs.length bs) [.ptr 0 []] (fun d t => d = .t 9 (.e (.str (bs.map byteOf))) ∧ t = [.tree 130 (.st [a, .msl 1 bs.length]), .mrow 5 false bs]) := by
  refine FnG_of_V (fn := Tryd.f77) (bt := 4) false [] [9] (ok 2 _) Tryd.func77 rfl rfl rfl fun _ _ _ _ _ _ => ?_
  apply V_of_VX
  refine VX_go3 (fs := []) (ok 2 _) eqs trivial 100 [] rfl trivial ?_
  refine VX_draw [1] [(0, true), (1, true), (2, true), (3, true), (4, true), (5, true), (6, true), (7, true), (8, true), (9, true), (10, false), (11, true)] mixed (by kernel_rfl) (by kernel_rfl) (by kernel_rfl) ?_
  refine VX_go3 (fs := []) (ok 2 _) eqs trivial 100 [] rfl rfl ?_
  refine VX_opO rfl rfl rfl (OpF_unsafeString (ok 2 _) rfl rfl rfl rfl rfl rfl rfl rfl rfl rfl rfl rfl (by simp)) ?_
  rintro d s ⟨rfl, rfl⟩
  refine VX_go3 (fs := []) (ok 2 _) eqs trivial 100 [] rfl trivial ?_
  rcases ha with rfl | rfl
  · exact ⟨.inr rfl, _, _, _, rfl, rfl, rfl, rfl, rfl⟩
  · exact ⟨.inr rfl, _, _, _, rfl, rfl, rfl, rfl, rfl⟩
end Go.Den.Q33.Wi
/- Contracts of another seat, turned to this seat's numbers (port2.py). -/
namespace Go.Den.Q33.Dg
open Go Go.Den Go.Proofs Go.Den.Q33
set_option maxRecDepth 8000
set_option linter.unusedVariables false
set_option linter.unusedSimpArgs false
def inputB (x : UInt8) (ps : List (List UInt8)) : List UInt8 := [x] ++ (ps.map Wi.textB).flatten
def ofB (x : UInt8) (ps : List (List UInt8)) : List UInt8 := Sh.shaB (inputB x ps)
theorem inputB_succ (x : UInt8) (ps : List (List UInt8)) (i : Nat) (h : i < ps.length) : inputB x (ps.take (i + 1)) = inputB x (ps.take i) ++ Wi.textB ps[i] := by
  have : ps.take (i + 1) = ps.take i ++ [ps[i]] := by rw [List.take_add_one, List.getElem?_eq_getElem h]; rfl
  rw [this]; simp only [inputB, List.map_append, List.flatten_append, List.map_cons, List.map_nil, List.flatten_cons, List.flatten_nil, List.append_nil, List.append_assoc]
theorem inputB_le (x : UInt8) : ∀ (ps : List (List UInt8)) (i : Nat), (inputB x (ps.take i)).length ≤ (inputB x ps).length
  | [], i => by simp
  | p :: ps, 0 => by simp [inputB]
  | p :: ps, i + 1 => by
    have := inputB_le x ps i
    simp only [inputB, List.take_succ_cons, List.map_cons, List.flatten_cons, List.length_append] at this ⊢
    omega
theorem part_le (x : UInt8) : ∀ (ps : List (List UInt8)) (i : Nat) (h : i < ps.length), ps[i].length ≤ (inputB x ps).length
  | [], i, h => by simp at h
  | p :: ps, 0, h => by simp only [inputB, List.map_cons, List.flatten_cons, List.length_append, List.getElem_cons_zero, Wi.textB]; omega
  | p :: ps, i + 1, h => by
    have := part_le x ps i (by simpa using h)
    simp only [inputB, List.map_cons, List.flatten_cons, List.length_append, List.getElem_cons_succ] at this ⊢
    omega
theorem shaB_length (s : List UInt8) : (Sh.shaB s).length = 32 := Sh.digL_length _ _
theorem ofB_length (x : UInt8) (ps : List (List UInt8)) : (ofB x ps).length = 32 := shaB_length _
theorem len_parts (x : UInt8) (ps : List (List UInt8)) : ps.length ≤ (inputB x ps).length := by
  induction ps with
  | nil => simp
  | cons p ps ih => simp only [inputB, List.map_cons, List.flatten_cons, List.length_append, List.length_cons, Wi.textB, Wi.bigB_length] at ih ⊢; omega
theorem input_ok (x : UInt8) (ps : List (List UInt8)) (hl : (inputB x ps).length ≤ 900000) : FnOk Tryd.prog tb 63 [5, 25] [9] [byteE x, .sl (ps.map E.str)] [.str (inputB x ps)] := by
  refine FnOk_of_V (fn := Tryd.f63) (bt := 4) (ok 0 _) Tryd.func63 rfl rfl rfl (by decide) fun hw => ?_
  clear hw
  apply V_of_VX
  have hpl := len_parts x ps
  refine VX_go4 (fs := []) (ok 0 _) eqs trivial 100 [] rfl trivial ?_
  refine VX_promM (ok 0 _) rfl 0 [1] rfl rfl rfl rfl rfl ?_
  refine VX_callD (ok 0 _) [128, 5] [0, 1] rfl rfl rfl rfl rfl rfl (Sh.writeB_ok (.e .nilp) (.inl rfl) [] x (by simp)) rfl rfl rfl ?_
  refine VX_go4 (fs := []) (ok 0 _) eqs trivial 100 [] rfl trivial ?_
  refine VX_loopA (fun i : Nat => i ≤ ps.length) (fun i => [(12, .t 3 (.e (.int i))), (11, .t 3 (.e (.int ps.length))), (10, .t 25 (.e (.sl (ps.map E.str)))), (5, .ptr 0 [])])
    (fun i => Wi.bld (.ptr 0 []) ((inputB x (ps.take i)).map byteE).length ((inputB x (ps.take i)).map byteE)) (fun i => ps.length - i) 0 (by omega) ?_ ?_
  · exact wk1 rfl rfl (by simp [Wi.bld, Blk.under, T.under, T.unders]) (lc (ls rfl rfl) (lc (li (by simp)) (lc (ls rfl rfl) (lc (ls rfl rfl) lnil))))
  · intro i hi
    have hle := inputB_le x ps i
    refine VX_go4 (fs := []) (ok 0 _) eqs trivial 100 [] rfl trivial ?_
    refine VX_split 13 rfl rfl (fun h => ?_) (fun h => ?_)
    · have hi : i < ps.length := by simpa using h
      have ei : IntKind.wrap .i64 ((i : Int) + 1) = ((i + 1 : Nat) : Int) := by rw [w64 (by omega) (by omega)]; simp
      have hg : (ps.map E.str).getD i .nilp = .str ps[i] := by simp [List.getD, hi]
      have hs := inputB_succ x ps i hi
      have hp := part_le x ps i hi
      have hle2 := inputB_le x ps (i + 1)
      refine VX_go4 (fs := []) (ok 0 _) eqs trivial 100 [7] rfl (by simp [allP]; omega) ?_
      refine VX_eq 15 rfl rfl (d' := .t 9 (.e (.str ps[i]))) (congrArg (fun x => D.t 9 (.e x)) hg) ?_
      generalize ps[i] = p at hs hp ⊢
      rw [hs] at hle2
      generalize inputB x (ps.take i) = I at hs hle hle2 ⊢
      have hsm : (I.map byteE ++ (Wi.textB p).map byteE) = (inputB x (ps.take (i + 1))).map byteE := by rw [hs]; simp
      have hsl : (I.map byteE).length + ((Wi.textB p).map byteE).length = ((inputB x (ps.take (i + 1))).map byteE).length := by rw [← hsm, List.length_append]
      refine VX_go4 (fs := []) (ok 0 _) eqs trivial 100 [] rfl trivial ?_
      refine VX_callD (ok 0 _) [9] [] rfl rfl rfl rfl rfl rfl (Wi.text_ok p (by omega)).g rfl rfl rfl ?_
      rw [List.length_append] at hle2
      refine VX_callD (ok 0 _) [128, 9] [0, 1] rfl rfl rfl rfl rfl rfl (Wi.writeS_ok (.ptr 0 []) (.inr rfl) (I.map byteE) (Wi.textB p) (by simp; omega) (by omega)) rfl rfl rfl ?_
      refine VX_go4 (fs := []) (ok 0 _) eqs trivial 100 [] rfl trivial ?_
      refine loop_nrm ⟨i + 1, by omega, by omega, ?_⟩
      exact wk1 (by rw [hsm, hsl]; rfl) rfl (by simp [Wi.bld, Blk.under, T.under, T.unders]) (lc (li (by rw [ei])) (lc (ls rfl rfl) (lc (ls rfl rfl) (lc (ls rfl rfl) lnil))))
    · have hi' : i = ps.length := by simp at h; omega
      subst hi'
      rw [List.take_length]
      generalize inputB x ps = I
      refine VX_go4 (fs := []) (ok 0 _) eqs trivial 100 [] rfl trivial ?_
      apply loop_brk
      refine VX_go4 (fs := []) (ok 0 _) eqs trivial 100 [] rfl trivial ?_
      refine VX_callD (ok 0 _) [128] [0, 1] rfl rfl rfl rfl rfl rfl (Sh.string_ok (.ptr 0 []) (.inr rfl) (I.map byteE)) rfl rfl rfl ?_
      refine VX_go4 (fs := []) (ok 0 _) eqs trivial 100 [] rfl trivial ?_
      refine ⟨.inr rfl, ?_⟩
      have : (I.map byteE).map byteOf = I := map_byteOf I
      rw [this]; rfl
theorem rinput_ok (x : UInt8) (ps : List (List UInt8)) (hl : (inputB x ps).length ≤ 900000) : FnOk Tryd.prog tb 58 [5, 25] [9] [byteE x, .sl (ps.map E.str)] [.str (inputB x ps)] := by
  refine FnOk_of_V (fn := Tryd.f58) (bt := 4) (ok 0 _) Tryd.func58 rfl rfl rfl (by decide) fun hw => ?_
  clear hw
  apply V_of_VX
  have hpl := len_parts x ps
  have hx1 : [byteE x].map byteOf = [x] := map_byteOf [x]
  refine VX_go4 (fs := []) (ok 0 _) eqs trivial 100 [5] rfl (by simp [allP]) ?_
  refine VX_eq 10 rfl rfl (d' := .t 9 (.e (.str [x]))) (congrArg (fun x => D.t 9 (.e (.str x))) hx1) ?_
  refine VX_go4 (fs := []) (ok 0 _) eqs trivial 100 [] rfl trivial ?_
  refine VX_loopA (fun i : Nat => i ≤ ps.length) (fun i => [(13, .t 3 (.e (.int i))), (12, .t 3 (.e (.int ps.length))), (11, .t 25 (.e (.sl (ps.map E.str)))), (5, .t 9 (.e (.str (inputB x (ps.take i)))))])
    (fun i => []) (fun i => ps.length - i) 0 (by omega) ?_ ?_
  · exact wk1 rfl rfl (by simp) (lc (ls rfl rfl) (lc (li (by simp)) (lc (ls rfl rfl) (lc (ls rfl rfl) lnil))))
  · intro i hi
    have hle := inputB_le x ps i
    refine VX_go4 (fs := []) (ok 0 _) eqs trivial 100 [] rfl trivial ?_
    refine VX_split 14 rfl rfl (fun h => ?_) (fun h => ?_)
    · have hi : i < ps.length := by simpa using h
      have ei : IntKind.wrap .i64 ((i : Int) + 1) = ((i + 1 : Nat) : Int) := by rw [w64 (by omega) (by omega)]; simp
      have hg : (ps.map E.str).getD i .nilp = .str ps[i] := by simp [List.getD, hi]
      have hs := inputB_succ x ps i hi
      have hp := part_le x ps i hi
      have hle2 := inputB_le x ps (i + 1)
      refine VX_go4 (fs := []) (ok 0 _) eqs trivial 100 [7] rfl (by simp [allP]; omega) ?_
      refine VX_eq 16 rfl rfl (d' := .t 9 (.e (.str ps[i]))) (congrArg (fun x => D.t 9 (.e x)) hg) ?_
      generalize ps[i] = p at hs hp ⊢
      rw [hs, List.length_append] at hle2
      generalize inputB x (ps.take i) = I at hs hle hle2 ⊢
      refine VX_go4 (fs := []) (ok 0 _) eqs trivial 100 [] rfl trivial ?_
      refine VX_callD (ok 0 _) [9] [] rfl rfl rfl rfl rfl rfl (Wi.rtext_ok p (by omega)).g rfl rfl rfl ?_
      refine VX_go4 (fs := []) (ok 0 _) eqs trivial 100 [] rfl (by simp [allP, maxI]; omega) ?_
      refine loop_nrm ⟨i + 1, by omega, by omega, ?_⟩
      exact wk1 rfl rfl (by simp) (lc (li (by rw [ei])) (lc (ls rfl rfl) (lc (ls rfl rfl) (lc (ls (by rw [hs]; rfl) rfl) lnil))))
    · have hi' : i = ps.length := by simp at h; omega
      subst hi'
      rw [List.take_length]
      generalize inputB x ps = I
      refine VX_go4 (fs := []) (ok 0 _) eqs trivial 100 [] rfl trivial ?_
      apply loop_brk
      refine VX_go4 (fs := []) (ok 0 _) eqs trivial 100 [] rfl trivial ?_
      exact ⟨.inr rfl, rfl⟩
theorem note_nil (d s : List UInt8) : FnOk Tryd.prog tb 65 [78, 24, 9] [] [.nilp, Sh.dgE d, .str s] [] := by
  refine FnOk_of_V (fn := Tryd.f65) (bt := 4) (ok 0 _) Tryd.func65 rfl rfl rfl (by decide) fun hw => ?_
  clear hw
  apply V_of_VX
  refine VX_go4 (fs := []) (ok 0 _) eqs trivial 100 [] rfl trivial ?_
  exact ⟨.inr rfl, rfl⟩
theorem rnote_nil (d s : List UInt8) : FnOk Tryd.prog tb 60 [61, 24, 9] [] [.nilp, Sh.dgE d, .str s] [] := by
  refine FnOk_of_V (fn := Tryd.f60) (bt := 4) (ok 0 _) Tryd.func60 rfl rfl rfl (by decide) fun hw => ?_
  clear hw
  apply V_of_VX
  refine VX_go4 (fs := []) (ok 0 _) eqs trivial 100 [] rfl trivial ?_
  exact ⟨.inr rfl, rfl⟩
theorem of_nil (x : UInt8) (ps : List (List UInt8)) (hl : (inputB x ps).length ≤ 400000) : FnOk Tryd.prog tb 48 [78, 5, 25] [24] [.nilp, byteE x, .sl (ps.map E.str)] [Sh.dgE (ofB x ps)] := by
  refine FnOk_of_V (fn := Tryd.f48) (bt := 4) (ok 0 _) Tryd.func48 rfl rfl rfl (by decide) fun hw => ?_
  clear hw
  apply V_of_VX
  unfold ofB
  have c1 := input_ok x ps (by omega)
  generalize inputB x ps = I at hl c1 ⊢
  have c2 := (Sh.sum_ok [I] (by simp) (fun p h => by rw [List.mem_singleton.1 h]; omega)).g
  rw [Sh.sum1 _ (by omega)] at c2
  generalize Sh.shaB I = d at c2 ⊢
  refine VX_go4 (fs := []) (ok 0 _) eqs trivial 100 [] rfl trivial ?_
  refine VX_callD (ok 0 _) [5, 25] [] rfl rfl rfl rfl rfl rfl c1.g rfl rfl rfl ?_
  refine VX_go4 (fs := []) (ok 0 _) eqs trivial 100 [] rfl trivial ?_
  refine VX_callD (ok 0 _) [25] [] rfl rfl rfl rfl rfl rfl c2 rfl rfl rfl ?_
  refine VX_go4 (fs := []) (ok 0 _) eqs trivial 100 [] rfl trivial ?_
  refine VX_callD (ok 0 _) [78, 24, 9] [] rfl rfl rfl rfl rfl rfl (note_nil d I).g rfl rfl rfl ?_
  refine VX_go4 (fs := []) (ok 0 _) eqs trivial 100 [] rfl trivial ?_
  exact ⟨.inr rfl, rfl⟩
theorem rof_nil (x : UInt8) (ps : List (List UInt8)) (hl : (inputB x ps).length ≤ 400000) : FnOk Tryd.prog tb 39 [61, 5, 25] [24] [.nilp, byteE x, .sl (ps.map E.str)] [Sh.dgE (ofB x ps)] := by
  refine FnOk_of_V (fn := Tryd.f39) (bt := 4) (ok 0 _) Tryd.func39 rfl rfl rfl (by decide) fun hw => ?_
  clear hw
  apply V_of_VX
  unfold ofB
  have c1 := rinput_ok x ps (by omega)
  generalize inputB x ps = I at hl c1 ⊢
  have c2 := (Sh.rsum_ok I (by omega)).g
  generalize Sh.shaB I = d at c2 ⊢
  refine VX_go4 (fs := []) (ok 0 _) eqs trivial 100 [] rfl trivial ?_
  refine VX_callD (ok 0 _) [5, 25] [] rfl rfl rfl rfl rfl rfl c1.g rfl rfl rfl ?_
  refine VX_go4 (fs := []) (ok 0 _) eqs trivial 100 [] rfl trivial ?_
  refine VX_callD (ok 0 _) [9] [] rfl rfl rfl rfl rfl rfl c2 rfl rfl rfl ?_
  refine VX_go4 (fs := []) (ok 0 _) eqs trivial 100 [] rfl trivial ?_
  refine VX_callD (ok 0 _) [61, 24, 9] [] rfl rfl rfl rfl rfl rfl (rnote_nil d I).g rfl rfl rfl ?_
  refine VX_go4 (fs := []) (ok 0 _) eqs trivial 100 [] rfl trivial ?_
  exact ⟨.inr rfl, rfl⟩
/-- A digest as a text. -/
theorem dB_of {d : List UInt8} (hd : d.length = 32) : Wi.dB (d.map byteE) = d := by
  unfold Wi.dB
  rw [List.drop_zero, List.take_of_length_le (by simp [hd]), map_byteOf]
theorem digest_ok (d : List UInt8) (hd : d.length = 32) : FnOk Tryd.prog tb 46 [24] [9] [Sh.dgE d] [.str d] := by
  have := Wi.digest_ok (d.map byteE); rw [dB_of hd] at this; exact this
theorem bytes_ok (d : List UInt8) (hd : d.length = 32) : FnOk Tryd.prog tb 50 [24] [9] [Sh.dgE d] [.str d] := by
  have := Wi.bytes_ok (d.map byteE); rw [dB_of hd] at this; exact this
end Go.Den.Q33.Dg
/- Contracts of another seat, turned to this seat's numbers (port2.py). -/
namespace Go.Den.Q33.Me
open Go Go.Den Go.Proofs Go.Den.Q33 Go.Den.Q33.Dg
set_option maxRecDepth 8000
set_option linter.unusedVariables false
set_option linter.unusedSimpArgs false
open Go.Den.Q33.Sh (dgE)
abbrev Dig := List UInt8
def dsE (L : List Dig) : E := .sl (L.map dgE)
def zE (L : List Dig) : E := .agg (L.map dgE)
def z0 : Dig := List.replicate 32 0
def nodeB (a b : Dig) : Dig := ofB 6 [a, b]
theorem nodeB_length (a b : Dig) : (nodeB a b).length = 32 := ofB_length _ _
theorem two_input {a b : Dig} (ha : a.length = 32) (hb : b.length = 32) : (inputB 6 [a, b]).length ≤ 400000 := by simp [inputB, Wi.textB, Wi.bigB_length, ha, hb]
theorem eqBytes : ∀ l : List UInt8, eqEs (l.map byteE) (l.map byteE) = true
  | [] => by simp [eqEs]
  | b :: l => by simp [eqEs, eqE, byteE, eqBytes l]
theorem eqDg (d : List UInt8) : eqE (dgE d) (dgE d) = true := by simp [dgE, eqE, eqBytes d]
theorem two_ok {a b : Dig} (ha : a.length = 32) (hb : b.length = 32) : FnOk Tryd.prog tb 81 [78, 5, 24, 24] [24] [.nilp, byteE 6, dgE a, dgE b] [dgE (nodeB a b)] := by
  refine FnOk_of_V (fn := Tryd.f81) (bt := 4) (ok 0 _) Tryd.func81 rfl rfl rfl (by decide) fun hw => ?_
  clear hw
  apply V_of_VX
  have c1 := (of_nil 6 [a, b] (two_input ha hb)).g
  unfold nodeB
  generalize ofB 6 [a, b] = d at c1 ⊢
  refine VX_go4 (fs := []) (ok 0 _) eqs trivial 100 [] rfl trivial ?_
  refine VX_draw [2] [(0, true), (1, true), (2, true), (4, true), (3, false), (5, false), (6, false), (7, false), (8, false)] mixed (by kernel_rfl) (by kernel_rfl) (by kernel_rfl) ?_
  refine VX_go4 (fs := []) (ok 0 _) eqs trivial 100 [] rfl trivial ?_
  refine VX_callO (ok 0 _) [24] [] rfl rfl rfl rfl rfl rfl rfl rfl (digest_ok a ha).g rfl rfl rfl ?_
  refine VX_callO (ok 0 _) [24] [] rfl rfl rfl rfl rfl rfl rfl rfl (digest_ok b hb).g rfl rfl rfl ?_
  refine VX_litO (ok 0 _) rfl rfl rfl rfl rfl ?_
  refine VX_callO (ok 0 _) [78, 5, 25] [] rfl rfl rfl rfl rfl rfl rfl rfl c1 rfl rfl rfl ?_
  refine VX_storeO (ok 0 _) rfl rfl rfl rfl rfl rfl (by simp) ?_
  refine VX_go4 (fs := []) (ok 0 _) eqs trivial 100 [] rfl trivial ?_
  exact ⟨.inr rfl, rfl⟩
theorem rtwo_ok {a b : Dig} (ha : a.length = 32) (hb : b.length = 32) : FnOk Tryd.prog tb 67 [61, 5, 24, 24] [24] [.nilp, byteE 6, dgE a, dgE b] [dgE (nodeB a b)] := by
  refine FnOk_of_V (fn := Tryd.f67) (bt := 4) (ok 0 _) Tryd.func67 rfl rfl rfl (by decide) fun hw => ?_
  clear hw
  apply V_of_VX
  have c1 := (rof_nil 6 [a, b] (two_input ha hb)).g
  unfold nodeB
  generalize ofB 6 [a, b] = d at c1 ⊢
  refine VX_go4 (fs := []) (ok 0 _) eqs trivial 100 [] rfl trivial ?_
  refine VX_draw [2] [(0, true), (1, true), (2, true), (4, true), (3, false), (5, false), (6, false), (7, false), (8, false)] mixed (by kernel_rfl) (by kernel_rfl) (by kernel_rfl) ?_
  refine VX_go4 (fs := []) (ok 0 _) eqs trivial 100 [] rfl trivial ?_
  refine VX_callO (ok 0 _) [24] [] rfl rfl rfl rfl rfl rfl rfl rfl (bytes_ok a ha).g rfl rfl rfl ?_
  refine VX_callO (ok 0 _) [24] [] rfl rfl rfl rfl rfl rfl rfl rfl (bytes_ok b hb).g rfl rfl rfl ?_
  refine VX_litO (ok 0 _) rfl rfl rfl rfl rfl ?_
  refine VX_callO (ok 0 _) [61, 5, 25] [] rfl rfl rfl rfl rfl rfl rfl rfl c1 rfl rfl rfl ?_
  refine VX_storeO (ok 0 _) rfl rfl rfl rfl rfl rfl (by simp) ?_
  refine VX_go4 (fs := []) (ok 0 _) eqs trivial 100 [] rfl trivial ?_
  exact ⟨.inr rfl, rfl⟩
theorem node_ok {a b : Dig} (ha : a.length = 32) (hb : b.length = 32) : FnOk Tryd.prog tb 66 [78, 24, 24] [24] [.nilp, dgE a, dgE b] [dgE (nodeB a b)] := by
  refine FnOk_of_V (fn := Tryd.f66) (bt := 4) (ok 0 _) Tryd.func66 rfl rfl rfl (by decide) fun hw => ?_
  clear hw
  apply V_of_VX
  refine VX_go4 (fs := []) (ok 0 _) eqs trivial 100 [] rfl trivial ?_
  refine VX_callD (ok 0 _) [78, 5, 24, 24] [] rfl rfl rfl rfl rfl rfl (two_ok ha hb).g rfl rfl rfl ?_
  refine VX_go4 (fs := []) (ok 0 _) eqs trivial 100 [] rfl trivial ?_
  exact ⟨.inr rfl, rfl⟩
/-- The nought of a level. -/
def nght : Nat → Dig
  | 0 => z0
  | n + 1 => nodeB (nght n) (nght n)
theorem z0_length : z0.length = 32 := by simp [z0]
theorem nght_length : ∀ n, (nght n).length = 32
  | 0 => z0_length
  | n + 1 => nodeB_length _ _
/-- The first noughts, zeros behind. -/
def zP (i : Nat) : List Dig := (List.range 33).map fun k => if k ≤ i then nght k else z0
theorem zP_length (i : Nat) : (zP i).length = 33 := by simp [zP]
theorem zP_get (i k : Nat) (h : k < 33) : (zP i).getD k [] = if k ≤ i then nght k else z0 := by
  simp [zP, List.getD, h]
theorem zP_set (i : Nat) (h : i < 32) : (zP i).set (i + 1) (nodeB (nght i) (nght i)) = zP (i + 1) := by
  refine List.ext_getElem (by simp [zP_length]) fun k h1 h2 => ?_
  rw [List.getElem_set]
  simp only [zP, List.getElem_map, List.getElem_range]
  by_cases hk : i + 1 = k
  · subst hk; rw [if_pos rfl, if_pos (Nat.le_refl _)]; rfl
  · rw [if_neg hk]
    by_cases h3 : k ≤ i
    · rw [if_pos h3, if_pos (by omega)]
    · rw [if_neg h3, if_neg (by omega)]
theorem zP_zero : zP 0 = List.replicate 33 z0 := by
  refine List.ext_getElem (by simp [zP_length]) fun k h1 h2 => ?_
  simp only [zP, List.getElem_map, List.getElem_range, List.getElem_replicate]
  split
  · rename_i h; have : k = 0 := by omega
    subst this; rfl
  · rfl
theorem zE_child (Z : List Dig) (i : Nat) (h : i < Z.length) : childE i (zE Z) = dgE (Z.getD i []) := by simp [zE, childE, List.getD, h]
theorem zE_set (Z : List Dig) (i : Nat) (v : Dig) : T.e (zE (Z.set i v)) = setT [i] (.e (dgE v)) (.e (zE Z)) := by
  simp [zE, setT, putChild, List.map_set]
theorem noughts_ok : FnOk Tryd.prog tb 52 [78] [105] [.nilp] [zE (zP 32)] := by
  refine FnOk_of_V (fn := Tryd.f52) (bt := 4) (ok 0 _) Tryd.func52 rfl rfl rfl (by decide) fun hw => ?_
  clear hw
  apply V_of_VX
  refine VX_go4 (fs := []) (ok 0 _) eqs trivial 100 [] rfl trivial ?_
  have e0 : zE (List.replicate 33 z0) = zE (zP 0) := by rw [zP_zero]
  refine VX_loopA (fun i : Nat => i ≤ 32) (fun i => [(5, .t 3 (.e (.int i))), (3, .ptr 1 []), (2, .ptr 0 []), (0, .t 78 (.e .nilp))]) (fun i => [.tree 105 (.e (zE (List.replicate 33 z0))), .tree 105 (.e (zE (zP i)))]) (fun i => 32 - i) 0 (by omega) ?_ ?_
  · exact wk1 (by rw [← e0]; rfl) rfl (by simp [Blk.under, T.under]) (lc (ls rfl rfl) (lc (ls rfl rfl) (lc (ls rfl rfl) (lc (ls rfl rfl) lnil))))
  · intro i hi
    have hzl := zP_length i
    refine VX_go4 (fs := []) (ok 0 _) eqs trivial 100 [] rfl trivial ?_
    refine VX_split 6 rfl rfl (fun h => ?_) (fun h => ?_)
    · have hi : i < 32 := by simp at h; omega
      have ei : IntKind.wrap .i64 ((i : Int) + 1) = ((i + 1 : Nat) : Int) := by rw [w64 (by omega) (by omega)]; simp
      have hg := zP_get i i (by omega)
      rw [if_pos (Nat.le_refl _)] at hg
      have hs := zP_set i hi
      have hn := nght_length i
      have c1 := (node_ok hn hn).g
      generalize nodeB (nght i) (nght i) = nd at hs c1
      generalize nght i = ni at hg c1 hn
      have hch : childE i (zE (zP i)) = dgE ni := (zE_child _ i (by omega)).trans (congrArg dgE hg)
      have hs' : T.e (zE (zP (i + 1))) = setT [i + 1] (.e (dgE nd)) (.e (zE (zP i))) := by rw [← zE_set, hs]
      refine VX_go4 (fs := []) (ok 0 _) eqs trivial 100 [] rfl trivial ?_
      refine VX_draw [] [(0, true), (1, true), (2, true), (3, true), (4, true), (5, true), (6, true), (7, true), (8, true), (9, false), (10, true), (11, false)] mixed (by kernel_rfl) (by kernel_rfl) (by kernel_rfl) ?_
      refine VX_go4 (fs := []) (ok 0 _) eqs trivial 100 [10] rfl trivial ?_
      refine VX_eq 9 rfl rfl (d' := .t 3 (.e (.int (i + 1 : Nat)))) (congrArg (fun x => D.t 3 (.e (.int x))) ei) ?_
      refine VX_go4 (fs := []) (ok 0 _) eqs trivial 100 [14] rfl (by simp [allP]; omega) ?_
      refine VX_eq 13 rfl rfl (d' := .t 24 (.e (dgE ni))) (congrArg (fun x => D.t 24 (.e x)) hch) ?_
      refine VX_go4 (fs := []) (ok 0 _) eqs trivial 100 [17] rfl (by simp [allP]; omega) ?_
      refine VX_eq 16 rfl rfl (d' := .t 24 (.e (dgE ni))) (congrArg (fun x => D.t 24 (.e x)) hch) ?_
      refine VX_callO (ok 0 _) [78, 24, 24] [] rfl rfl rfl rfl rfl rfl rfl rfl c1 rfl rfl rfl ?_
      refine VX_go4 (fs := []) (ok 0 _) eqs trivial 100 [] rfl (by simp [allP]; omega) ?_
      refine VX_ts [1] (by kernel_rfl) ?_
      refine VX_storeO (ok 0 _) rfl rfl rfl rfl rfl rfl (by simp) ?_
      refine VX_go4 (fs := []) (ok 0 _) eqs trivial 100 [] rfl trivial ?_
      refine loop_nrm ⟨i + 1, by omega, by omega, ?_⟩
      exact wk1 (by rw [hs']; rfl) rfl (by simp [Blk.under, T.under]) (lc (li (by rw [ei])) (lc (ls rfl rfl) (lc (ls rfl rfl) (lc (ls rfl rfl) lnil))))
    · have hi' : i = 32 := by simp at h; omega
      subst hi'
      generalize zP 32 = Z
      refine VX_go4 (fs := []) (ok 0 _) eqs trivial 100 [] rfl trivial ?_
      apply loop_brk
      refine VX_go4 (fs := []) (ok 0 _) eqs trivial 100 [] rfl trivial ?_
      exact ⟨.inr rfl, rfl⟩
/-- The document's noughts. -/
theorem rnoughts_ok : FnOk Tryd.prog tb 54 [61] [34] [.nilp] [dsE (zP 32)] := by
  refine FnOk_of_V (fn := Tryd.f54) (bt := 4) (ok 0 _) Tryd.func54 rfl rfl rfl (by decide) fun hw => ?_
  clear hw
  apply V_of_VX
  refine VX_go4 (fs := []) (ok 0 _) eqs trivial 100 [] rfl trivial ?_
  refine VX_promote 3 (u := 24) rfl rfl ?_
  have hz : ∀ i, i ≤ 33 → ((zP 32).take i).length = i := fun i h => by simp [zP_length]; omega
  refine VX_loopA (fun i : Nat => i ≤ 33) (fun i => [(5, .t 3 (.e (.int i))), (4, .ptr 0 []), (3, .t 34 (.lsl 1 (((zP 32).take i).map dgE))), (0, .t 61 (.e .nilp))]) (fun i => [.tree 24 (.e (dgE (nght i))), .row 24 (((zP 32).take i).map dgE).length]) (fun i => 33 - i) 0 (by omega) ?_ ?_
  · exact wk1 rfl rfl (by simp [Blk.under, T.under]) (lc (ls rfl rfl) (lc (ls rfl rfl) (lc (ls rfl rfl) (lc (ls rfl rfl) lnil))))
  · intro i hi
    have hzi := hz i hi
    refine VX_go4 (fs := []) (ok 0 _) eqs trivial 100 [] rfl trivial ?_
    refine VX_split 7 rfl rfl (fun h => ?_) (fun h => ?_)
    · have hi : i < 33 := by simp at h; omega
      have ei : IntKind.wrap .i64 ((i : Int) + 1) = ((i + 1 : Nat) : Int) := by rw [w64 (by omega) (by omega)]; simp
      have hn := nght_length i
      have c1 := (rtwo_ok hn hn).g
      have hs : (zP 32).take (i + 1) = (zP 32).take i ++ [nght i] := by
        have hi2 : i < (zP 32).length := by simp [zP_length]; omega
        rw [List.take_add_one, List.getElem?_eq_getElem hi2]
        simp only [zP, List.getElem_map, List.getElem_range, Option.toList_some]
        rw [if_pos (by omega)]
      have hsm : ((zP 32).take (i + 1)).map dgE = ((zP 32).take i).map dgE ++ [dgE (nght i)] := by rw [hs]; simp
      have hnx : nght (i + 1) = nodeB (nght i) (nght i) := rfl
      generalize nodeB (nght i) (nght i) = nd at c1 hnx
      generalize nght i = ni at c1 hsm hn ⊢
      refine VX_go4 (fs := []) (ok 0 _) eqs trivial 100 [] rfl (by simp [allP, nb, tb, maxL, zP_length]; omega) ?_
      refine VX_callD (ok 0 _) [61, 5, 24, 24] [] rfl rfl rfl rfl rfl rfl c1 rfl rfl rfl ?_
      refine VX_go4 (fs := []) (ok 0 _) eqs trivial 100 [] rfl trivial ?_
      refine loop_nrm ⟨i + 1, by omega, by omega, ?_⟩
      exact wk1 (by rw [hnx, hsm]; rfl) rfl (by simp [Blk.under, T.under]) (lc (li (by rw [ei])) (lc (ls rfl rfl) (lc (ls (by rw [hsm]; rfl) rfl) (lc (ls rfl rfl) lnil))))
    · have hi' : i = 33 := by simp at h; omega
      subst hi'
      have : (zP 32).take 33 = zP 32 := List.take_of_length_le (by simp [zP_length])
      rw [this]
      generalize zP 32 = Z
      generalize nght 33 = nn
      refine VX_go4 (fs := []) (ok 0 _) eqs trivial 100 [] rfl trivial ?_
      apply loop_brk
      refine VX_go4 (fs := []) (ok 0 _) eqs trivial 100 [] rfl trivial ?_
      exact ⟨.inr rfl, rfl⟩
end Go.Den.Q33.Me
namespace Go.Den.Q33.Me
open Go Go.Den Go.Proofs Go.Den.Q33 Go.Den.Q33.Dg
set_option linter.unusedVariables false
set_option linter.unusedSimpArgs false
def All32 (L : List Dig) : Prop := ∀ d ∈ L, d.length = 32
def upB (L : List Dig) (z : Dig) : List Dig := (List.range ((L.length + 1) / 2)).map fun k => nodeB (L.getD (2 * k) []) (L.getD (2 * k + 1) z)
theorem upB_length (L : List Dig) (z : Dig) : (upB L z).length = (L.length + 1) / 2 := by simp [upB]
theorem upB_all (L : List Dig) (z : Dig) : All32 (upB L z) := fun d hd => by
  simp only [upB, List.mem_map] at hd
  obtain ⟨k, _, rfl⟩ := hd
  exact nodeB_length _ _
theorem upB_take (L : List Dig) (z : Dig) (j : Nat) (h : 2 * j < L.length) : (upB L z).take (j + 1) = (upB L z).take j ++ [nodeB (L.getD (2 * j) []) (L.getD (2 * j + 1) z)] := by
  have hj : j < (upB L z).length := by rw [upB_length]; omega
  rw [List.take_add_one, List.getElem?_eq_getElem hj]
  simp [upB]
theorem getD_all {L : List Dig} {z : Dig} (hL : All32 L) (hz : z.length = 32) (i : Nat) : (L.getD i z).length = 32 := by
  rcases Nat.lt_or_ge i L.length with h | h
  · rw [List.getD, List.getElem?_eq_getElem h]; exact hL _ (List.getElem_mem h)
  · rw [List.getD, List.getElem?_eq_none h]; exact hz
theorem getD_any {L : List Dig} {i : Nat} (h : i < L.length) (a b : Dig) : L.getD i a = L.getD i b := by simp [List.getD, h]
def lvl (L : List Dig) : Nat → List Dig
  | 0 => L
  | n + 1 => upB (lvl L n) (nght n)
theorem lvl_all {L : List Dig} (h : All32 L) : ∀ n, All32 (lvl L n)
  | 0 => h
  | n + 1 => upB_all _ _
theorem lvl_le (L : List Dig) : ∀ n, (lvl L n).length ≤ L.length
  | 0 => Nat.le_refl _
  | n + 1 => by have := lvl_le L n; rw [lvl, upB_length]; omega
theorem lvl_lt (L : List Dig) : ∀ n at', at' < (lvl L n).length ↔ at' * 2 ^ n < L.length
  | 0, a => by simp [lvl]
  | n + 1, a => by
    rw [lvl, upB_length]
    have := lvl_lt L n (2 * a)
    rw [show a * 2 ^ (n + 1) = 2 * a * 2 ^ n by rw [Nat.pow_succ, Nat.mul_comm (2 ^ n) 2, ← Nat.mul_assoc, Nat.mul_comm a 2], ← this]
    omega
/-- A node of the tree. -/
def nd (L : List Dig) (n k : Nat) : Dig := (lvl L n).getD k (nght n)
theorem nd_length {L : List Dig} (h : All32 L) (n k : Nat) : (nd L n k).length = 32 := getD_all (lvl_all h n) (nght_length n) k
theorem nd_ge {L : List Dig} {n k : Nat} (h : L.length ≤ k * 2 ^ n) : nd L n k = nght n := by
  have : (lvl L n).length ≤ k := by
    rcases Nat.lt_or_ge k (lvl L n).length with h1 | h1
    · have := (lvl_lt L n k).1 h1; omega
    · exact h1
  rw [nd, List.getD, List.getElem?_eq_none this]; rfl
theorem nd_zero {L : List Dig} {k : Nat} (h : k < L.length) (z : Dig) : nd L 0 k = L.getD k z := getD_any h _ _
theorem nd_succ {L : List Dig} {n k : Nat} (h : k * 2 ^ (n + 1) < L.length) : nd L (n + 1) k = nodeB (nd L n (2 * k)) (nd L n (2 * k + 1)) := by
  have h1 := (lvl_lt L (n + 1) k).2 h
  have h2 : 2 * k < (lvl L n).length := by rw [lvl, upB_length] at h1; omega
  have hk : k < ((lvl L n).length + 1) / 2 := by omega
  show (upB (lvl L n) (nght n)).getD k (nght (n + 1)) = _
  rw [nd, nd, List.getD, List.getElem?_eq_getElem (by rw [upB_length]; exact hk)]
  simp only [upB, List.getElem_map, List.getElem_range, Option.getD_some]
  rw [getD_any h2 [] (nght n)]
def sib (k : Nat) : Nat := if k % 2 = 1 then k - 1 else k + 1
def brL (L : List Dig) (k : Nat) (n : Nat) : List Dig := (List.range n).map fun i => nd L i (sib (k / 2 ^ i))
theorem brL_length (L : List Dig) (k n : Nat) : (brL L k n).length = n := by simp [brL]
theorem brL_succ (L : List Dig) (k n : Nat) : brL L k (n + 1) = brL L k n ++ [nd L n (sib (k / 2 ^ n))] := by simp [brL, List.range_succ]
theorem brL_all {L : List Dig} (h : All32 L) (k n : Nat) : All32 (brL L k n) := fun d hd => by
  simp only [brL, List.mem_map] at hd
  obtain ⟨i, _, rfl⟩ := hd
  exact nd_length h _ _
def bitB (m i : Nat) : Bool := decide (m / 2 ^ i % 2 = 1)
def clB (leaf : Dig) (m : Nat) (B : List Dig) : Nat → Dig
  | 0 => leaf
  | i + 1 => if bitB m i = true then nodeB (B.getD i []) (clB leaf m B i) else nodeB (clB leaf m B i) (B.getD i [])
theorem clB_length {leaf : Dig} (h : leaf.length = 32) (m : Nat) (B : List Dig) : ∀ i, (clB leaf m B i).length = 32
  | 0 => h
  | i + 1 => by unfold clB; split <;> exact nodeB_length _ _
theorem cl_br {L : List Dig} {k : Nat} (hk : k < L.length) (N : Nat) : ∀ n, n ≤ N → clB (nd L 0 k) k (brL L k N) n = nd L n (k / 2 ^ n)
  | 0, _ => by simp [clB]
  | n + 1, hn => by
    have ih := cl_br hk N n (by omega)
    have hb : (brL L k N).getD n [] = nd L n (sib (k / 2 ^ n)) := by simp [brL, List.getD, show n < N by omega]
    have hlt : k / 2 ^ (n + 1) * 2 ^ (n + 1) < L.length := Nat.lt_of_le_of_lt (Nat.div_mul_le_self _ _) hk
    rw [nd_succ hlt, show k / 2 ^ (n + 1) = k / 2 ^ n / 2 by rw [Nat.pow_succ, Nat.div_div_eq_div_mul], clB, ih, hb, bitB]
    by_cases h1 : k / 2 ^ n % 2 = 1
    · rw [if_pos (by simp [h1]), sib, if_pos h1, show k / 2 ^ n - 1 = 2 * (k / 2 ^ n / 2) by omega, show 2 * (k / 2 ^ n / 2) + 1 = k / 2 ^ n by omega]
    · rw [if_neg (by simp [h1]), sib, if_neg h1, show k / 2 ^ n + 1 = 2 * (k / 2 ^ n / 2) + 1 by omega, show 2 * (k / 2 ^ n / 2) = k / 2 ^ n by omega]
/-- The root of leaves. -/
def rootB (L : List Dig) : Dig := nd L 32 0
theorem rootB_nil : rootB [] = nght 32 := nd_ge (by simp)
theorem cl_root {L : List Dig} {k : Nat} (hk : k < L.length) (hl : L.length ≤ 4294967296) : clB (nd L 0 k) k (brL L k 32) 32 = rootB L := by
  rw [cl_br hk 32 32 (Nat.le_refl _), rootB, Nat.div_eq_of_lt (by have : (2 : Nat) ^ 32 = 4294967296 := by decide
                                                                  omega)]
theorem dsE_get {L : List Dig} {i : Nat} (h : i < L.length) (z : Dig) : (L.map Sh.dgE).getD i .nilp = Sh.dgE (L.getD i z) := by simp [List.getD, h]
theorem and1 (x : Nat) (hx : x < 4294967296) : bitop .and .u32 (x : Int) 1 = ((x % 2 : Nat) : Int) := by
  show IntKind.wrap .u32 (BitVec.ofInt 32 (x : Int) &&& BitVec.ofInt 32 1).toNat = _
  rw [BitVec.toNat_and, BitVec.ofInt_natCast, BitVec.toNat_ofNat, Nat.mod_eq_of_lt (by simpa using hx)]
  rw [show (BitVec.ofInt 32 1).toNat = 1 from rfl, Nat.and_one_is_mod, wrap_eq]; simp only; omega
theorem xor_sib (a : Nat) : a ^^^ 1 = sib a := by
  have h1 : (a ^^^ 1) / 2 = a / 2 := by rw [Nat.xor_div_two]; simp
  have h2 : (a ^^^ 1) % 2 = (a + 1) % 2 := by
    have := @Nat.xor_mod_two_eq_one a 1
    omega
  unfold sib; split <;> omega
theorem xor1 (a : Nat) (ha : a ≤ 100000) : bitop .xor .i64 (a : Int) 1 = ((sib a : Nat) : Int) := by
  show IntKind.wrap .i64 (BitVec.ofInt 64 (a : Int) ^^^ BitVec.ofInt 64 1).toNat = _
  have h2 : (2 : Nat) ^ 64 = 18446744073709551616 := by decide
  rw [BitVec.toNat_xor, BitVec.ofInt_natCast, BitVec.toNat_ofNat, Nat.mod_eq_of_lt (by omega)]
  rw [show (BitVec.ofInt 64 1).toNat = 1 from rfl, xor_sib]
  have : sib a ≤ a + 1 := by unfold sib; split <;> omega
  exact w64 (by omega) (by omega)
theorem shr_bit (m i : Nat) (hm : m < 4294967296) (hi : i < 32) : bitop .and .u32 (Int.fdiv (m : Int) (2 ^ (min ((i : Int)).toNat IntKind.u32.bits))) 1 = ((m / 2 ^ i % 2 : Nat) : Int) := by
  have h1 : min ((i : Int)).toNat IntKind.u32.bits = i := by rw [Int.toNat_natCast]; exact Nat.min_eq_left (by show i ≤ 32; omega)
  rw [h1, show ((2 : Int) ^ i) = ((2 ^ i : Nat) : Int) by simp, Int.fdiv_eq_ediv_of_nonneg _ (Int.natCast_nonneg _), ← Int.natCast_ediv]
  exact and1 _ (Nat.lt_of_le_of_lt (Nat.div_le_self _ _) hm)
end Go.Den.Q33.Me
namespace Go.Den.Q33.Me
open Go Go.Den Go.Proofs Go.Den.Q33 Go.Den.Q33.Dg
set_option maxRecDepth 8000
set_option linter.unusedVariables false
set_option linter.unusedSimpArgs false
open Go.Den.Q33.Sh (dgE)
set_option maxHeartbeats 800000 in
theorem up_ok {L : List Dig} {z : Dig} (hl : L.length ≤ 5000) (hL : All32 L) (hz : z.length = 32) : FnOk Tryd.prog tb 53 [78, 34, 24] [34] [.nilp, dsE L, dgE z] [dsE (upB L z)] := by
  refine FnOk_of_V (fn := Tryd.f53) (bt := 4) (ok 0 _) Tryd.func53 rfl rfl rfl (by decide) fun hw => ?_
  clear hw
  apply V_of_VX
  have hul := upB_length L z
  have hlm : (L.map dgE).length = L.length := by simp
  refine VX_go4 (fs := []) (ok 0 _) eqs trivial 100 [] rfl trivial ?_
  refine VX_promote 7 (u := 24) rfl rfl ?_
  refine VX_loopA (fun j : Nat => j ≤ (L.length + 1) / 2) (fun j => [(8, .t 3 (.e (.int (2 * j : Nat)))), (7, .t 34 (.lsl 1 (((upB L z).take j).map dgE))), (5, .ptr 0 []), (1, .t 34 (.e (dsE L))), (0, .t 78 (.e .nilp))])
    (fun j => [.tree 24 (.e (dgE z)), .row 24 (((upB L z).take j).map dgE).length]) (fun j => L.length + 1 - j) 0 (by omega) ?_ ?_
  · exact wk1 rfl rfl (by simp [Blk.under, T.under]) (lc (ls rfl rfl) (lc (ls rfl rfl) (lc (ls rfl rfl) (lc (ls rfl rfl) (lc (ls rfl rfl) lnil)))))
  · intro j hj
    have htl : ((upB L z).take j).length ≤ 5000 := by simp; omega
    refine VX_go4 (fs := []) (ok 0 _) eqs trivial 100 [] rfl trivial ?_
    refine VX_split 13 rfl rfl (fun h => ?_) (fun h => ?_)
    · have hi : 2 * j < L.length := by
        simp only [List.length_map, decide_eq_true_eq] at h; omega
      have ha := getD_all hL z0_length (2 * j)
      rw [getD_any hi z0 []] at ha
      have hb := getD_all hL hz (2 * j + 1)
      have ga := dsE_get (z := []) hi
      have gb : 2 * j + 1 < L.length → (L.map dgE).getD (2 * j + 1) .nilp = dgE (L.getD (2 * j + 1) z) := fun h => dsE_get h z
      have gz : ¬ 2 * j + 1 < L.length → L.getD (2 * j + 1) z = z := fun h => by rw [List.getD, List.getElem?_eq_none (by omega)]; rfl
      have hs := upB_take L z j hi
      have c1 := (node_ok ha hb).g
      have hsm : ((upB L z).take (j + 1)).map dgE = ((upB L z).take j).map dgE ++ [dgE (nodeB (L.getD (2 * j) []) (L.getD (2 * j + 1) z))] := by rw [hs]; simp
      generalize nodeB (L.getD (2 * j) []) (L.getD (2 * j + 1) z) = ndd at c1 hsm
      generalize L.getD (2 * j) [] = a at ha ga c1
      generalize hbb : L.getD (2 * j + 1) z = b at hb gb gz c1
      generalize ((upB L z).take j).map dgE = O at hsm ⊢
      have hOl : O.length ≤ 5000 := by
        have := congrArg List.length hsm
        simp at this; omega
      have e18 : IntKind.wrap .i64 (((2 * j : Nat) : Int) + 1) = ((2 * j + 1 : Nat) : Int) := by rw [w64 (by omega) (by omega)]; omega
      refine VX_go4 (fs := []) (ok 0 _) eqs trivial 100 [19] rfl trivial ?_
      refine VX_eq 18 rfl rfl (d' := .t 3 (.e (.int (2 * j + 1 : Nat)))) (congrArg (fun x => D.t 3 (.e (.int x))) e18) ?_
      refine VX_go4 (fs := []) (ok 0 _) eqs trivial 100 [] rfl trivial ?_
      refine VX_splitJ 21 [(8, .t 3 (.e (.int (2 * j : Nat)))), (9, .ptr 2 []), (7, .t 34 (.lsl 1 O)), (5, .ptr 0 []), (1, .t 34 (.e (dsE L))), (0, .t 78 (.e .nilp))] [.tree 24 (.e (dgE z)), .row 24 O.length, .tree 24 (.e (dgE b))] rfl rfl rfl ?_ (fun h hr => ?_) (fun h hr => ?_)
      rotate_left
      · have h1 : 2 * j + 1 < L.length := by
          simp only [List.length_map, decide_eq_true_eq] at h; omega
        have g := gb h1
        refine VX_go4 (fs := []) (ok 0 _) eqs trivial 100 [25] rfl trivial ?_
        refine VX_eq 24 rfl rfl (d' := .t 3 (.e (.int (2 * j + 1 : Nat)))) (congrArg (fun x => D.t 3 (.e (.int x))) e18) ?_
        refine VX_go4 (fs := []) (ok 0 _) eqs trivial 100 [27] rfl (by simp [allP]; omega) ?_
        refine VX_weakS rfl (wk1 (congrArg (fun x => [Blk.tree 24 (.e (dgE z)), .row 24 O.length, .tree 24 (.e x)]) g) rfl (by simp [Blk.under, T.under]) (lc (ls rfl rfl) (lc (ls rfl rfl) (lc (ls rfl rfl) (lc (ls rfl rfl) (lc (ls rfl rfl) (lc (ls rfl rfl) lnil))))))) hr
      · have h1 : ¬ 2 * j + 1 < L.length := by
          simp only [List.length_map, decide_eq_false_iff_not] at h; omega
        have g := gz h1
        refine VX_go4 (fs := []) (ok 0 _) eqs trivial 100 [27] rfl trivial ?_
        refine VX_weakS rfl (wk1 (congrArg (fun x => [Blk.tree 24 (.e (dgE z)), .row 24 O.length, .tree 24 (.e (dgE x))]) g.symm) rfl (by simp [Blk.under, T.under]) (lc (ls rfl rfl) (lc (ls rfl rfl) (lc (ls rfl rfl) (lc (ls rfl rfl) (lc (ls rfl rfl) (lc (ls rfl rfl) lnil))))))) hr
      refine VX_go4 (fs := []) (ok 0 _) eqs trivial 100 [] rfl trivial ?_
      refine VX_draw [1] [(0, true), (1, true), (2, true), (3, true), (4, true), (5, true), (6, true), (7, false), (8, false), (9, false), (10, true)] mixed (by kernel_rfl) (by kernel_rfl) (by kernel_rfl) ?_
      refine VX_go4 (fs := []) (ok 0 _) eqs trivial 100 [33] rfl (by simp [allP]; omega) ?_
      refine VX_eq 32 rfl rfl (d' := .t 24 (.e (dgE a))) (congrArg (fun x => D.t 24 (.e x)) ga) ?_
      refine VX_go4 (fs := []) (ok 0 _) eqs trivial 100 [] rfl trivial ?_
      refine VX_callO (ok 0 _) [78, 24, 24] [] rfl rfl rfl rfl rfl rfl rfl rfl c1 rfl rfl rfl ?_
      refine VX_litO (ok 0 _) rfl rfl rfl rfl rfl ?_
      refine VX_appendO (ok 0 _) rfl rfl rfl rfl rfl (by simp [nb, tb, maxL]; omega) rfl ?_
      have e15 : IntKind.wrap .i64 (((2 * j : Nat) : Int) + 2) = ((2 * (j + 1) : Nat) : Int) := by rw [w64 (by omega) (by omega)]; omega
      refine VX_go4 (fs := []) (ok 0 _) eqs trivial 100 [] rfl trivial ?_
      refine loop_nrm ⟨j + 1, by omega, by omega, ?_⟩
      exact wkc [.tree 24 (.e (dgE b))] (by rw [hsm]; rfl) rfl (by simp [Blk.under, T.under]) (lc (li (by rw [e15])) (lc (ls (by rw [hsm]; rfl) rfl) (lc (ls rfl rfl) (lc (ls rfl rfl) (lc (ls rfl rfl) lnil)))))
    · have hj' : (upB L z).take j = upB L z := List.take_of_length_le (by
        simp only [List.length_map, decide_eq_false_iff_not] at h
        rw [hul]; omega)
      rw [hj']
      refine VX_go4 (fs := []) (ok 0 _) eqs trivial 100 [] rfl trivial ?_
      apply loop_brk
      refine VX_go4 (fs := []) (ok 0 _) eqs trivial 100 [] rfl trivial ?_
      exact ⟨.inr rfl, rfl⟩
end Go.Den.Q33.Me
namespace Go.Den.Q33.Me
open Go Go.Den Go.Proofs Go.Den.Q33 Go.Den.Q33.Dg
set_option maxRecDepth 8000
set_option linter.unusedVariables false
set_option linter.unusedSimpArgs false
open Go.Den.Q33.Sh (dgE)
set_option maxHeartbeats 800000 in
theorem of_ok {L : List Dig} (hl : L.length ≤ 4096) (hL : All32 L) : FnOk Tryd.prog tb 43 [78, 34] [24] [.nilp, dsE L] [dgE (rootB L)] := by
  refine FnOk_of_V (fn := Tryd.f43) (bt := 4) (ok 0 _) Tryd.func43 rfl rfl rfl (by decide) fun hw => ?_
  clear hw
  apply V_of_VX
  have hlm : (L.map dgE).length = L.length := by simp
  have e11 : (if (4096 : Int) < (((L.map dgE).length : Nat) : Int) then (4096 : Int) else (((L.map dgE).length : Nat) : Int)) = (L.length : Int) := by rw [hlm, if_neg (by omega)]
  have e12 : ((L.map dgE).take ((L.length : Int)).toNat).drop 0 = L.map dgE := by
    rw [List.drop_zero, Int.toNat_natCast, List.take_of_length_le (by rw [hlm]; exact Nat.le_refl _)]
  refine VX_go4 (fs := []) (ok 0 _) eqs trivial 100 [12] rfl trivial ?_
  refine VX_eq 11 rfl rfl (d' := .t 3 (.e (.int L.length))) (congrArg (fun x => D.t 3 (.e (.int x))) e11) ?_
  refine VX_go4 (fs := []) (ok 0 _) eqs trivial 100 [5] rfl (by simp [allP]) ?_
  refine VX_eq 12 rfl rfl (d' := .t 34 (.e (dsE L))) (congrArg (fun x => D.t 34 (.e (.sl x))) e12) ?_
  refine VX_go4 (fs := []) (ok 0 _) eqs trivial 100 [] rfl trivial ?_
  have cz := noughts_ok.g
  have hzl := zP_length 32
  have hzg := fun i (h : i ≤ 32) => (zP_get 32 i (by omega)).trans (if_pos h)
  generalize zP 32 = Z at cz hzl hzg
  refine VX_callD (ok 0 _) [78] [] rfl rfl rfl rfl rfl rfl cz rfl rfl rfl ?_
  refine VX_go4 (fs := []) (ok 0 _) eqs trivial 100 [] rfl trivial ?_
  refine VX_loopA (fun i : Nat => i ≤ 32) (fun i => [(15, .t 3 (.e (.int i))), (6, .ptr 1 []), (5, .t 34 (.e (dsE (lvl L i)))), (4, .ptr 0 []), (0, .t 78 (.e .nilp))])
    (fun i => [.tree 24 (.e (dgE z0)), .tree 105 (.e (zE Z))]) (fun i => 32 - i) 0 (by omega) ?_ ?_
  · exact wk1 rfl rfl (by simp [Blk.under, T.under]) (lc (ls rfl rfl) (lc (ls rfl rfl) (lc (ls rfl rfl) (lc (ls rfl rfl) (lc (ls rfl rfl) lnil)))))
  · intro i hi
    refine VX_go4 (fs := []) (ok 0 _) eqs trivial 100 [] rfl trivial ?_
    refine VX_split 16 rfl rfl (fun h => ?_) (fun h => ?_)
    · have hi : i < 32 := by simp at h; omega
      have ei : IntKind.wrap .i64 ((i : Int) + 1) = ((i + 1 : Nat) : Int) := by rw [w64 (by omega) (by omega)]; simp
      have hch : childE i (zE Z) = dgE (nght i) := (zE_child _ i (by omega)).trans (congrArg dgE (hzg i (by omega)))
      have c1 := (up_ok (L := lvl L i) (z := nght i) (by have := lvl_le L i; omega) (lvl_all hL i) (nght_length i)).g
      have hnx : lvl L (i + 1) = upB (lvl L i) (nght i) := rfl
      generalize upB (lvl L i) (nght i) = U at c1 hnx
      generalize nght i = ni at c1 hch
      generalize lvl L i = Li at c1 ⊢
      refine VX_go4 (fs := []) (ok 0 _) eqs trivial 100 [23] rfl (by simp [allP]; omega) ?_
      refine VX_eq 22 rfl rfl (d' := .t 24 (.e (dgE ni))) (congrArg (fun x => D.t 24 (.e x)) hch) ?_
      refine VX_callD (ok 0 _) [78, 34, 24] [] rfl rfl rfl rfl rfl rfl c1 rfl rfl rfl ?_
      refine VX_go4 (fs := []) (ok 0 _) eqs trivial 100 [] rfl trivial ?_
      refine loop_nrm ⟨i + 1, by omega, by omega, ?_⟩
      exact wk1 rfl rfl (by simp [Blk.under, T.under]) (lc (li (by rw [ei])) (lc (ls rfl rfl) (lc (ls (by rw [hnx]; rfl) rfl) (lc (ls rfl rfl) (lc (ls rfl rfl) lnil)))))
    · have hi' : i = 32 := by simp at h; omega
      subst hi'
      have hr : rootB L = (lvl L 32).getD 0 (nght 32) := rfl
      have h32 : childE 32 (zE Z) = dgE (nght 32) := (zE_child _ 32 (by omega)).trans (congrArg dgE (hzg 32 (by omega)))
      generalize lvl L 32 = T32 at hr ⊢
      generalize nght 32 = nn at hr h32
      refine VX_go4 (fs := []) (ok 0 _) eqs trivial 100 [] rfl trivial ?_
      apply loop_brk
      refine VX_go4 (fs := []) (ok 0 _) eqs trivial 100 [] rfl trivial ?_
      refine VX_split 27 rfl rfl (fun h => ?_) (fun h => ?_)
      · have h0 : T32.length = 0 := by simp at h; simp [h]
        refine VX_go4 (fs := []) (ok 0 _) eqs trivial 100 [] rfl (by simp [allP]) ?_
        refine ⟨.inr rfl, ?_⟩
        rw [hr, List.getD, List.getElem?_eq_none (by omega), Option.getD_none, ← h32]; rfl
      · have h0 : 0 < T32.length := by
          rcases Nat.eq_zero_or_pos T32.length with h1 | h1
          · simp [h1] at h
          · exact h1
        refine VX_go4 (fs := []) (ok 0 _) eqs trivial 100 [] rfl (by simp [allP]; omega) ?_
        refine ⟨.inr rfl, ?_⟩
        rw [hr, ← dsE_get h0]; rfl
theorem size_ok (n : Nat) (h : n ≤ 40) : FnOk Tryd.prog tb 68 [3] [3] [.int n] [.int (2 ^ n : Nat)] := by
  refine FnOk_of_V (fn := Tryd.f68) (bt := 4) (ok 0 _) Tryd.func68 rfl rfl rfl (by decide) fun hw => ?_
  clear hw
  apply V_of_VX
  refine VX_go4 (fs := []) (ok 0 _) eqs trivial 100 [] rfl trivial ?_
  refine VX_loopA (fun i : Nat => i ≤ n) (fun i => [(4, .t 3 (.e (.int i))), (3, .t 3 (.e (.int (2 ^ i : Nat)))), (0, .t 3 (.e (.int n)))]) (fun i => []) (fun i => n - i) 0 (by omega) ?_ ?_
  · exact wk1 rfl rfl (by simp) (lc (ls rfl rfl) (lc (ls rfl rfl) (lc (ls rfl rfl) lnil)))
  · intro i hi
    refine VX_go4 (fs := []) (ok 0 _) eqs trivial 100 [] rfl trivial ?_
    refine VX_split 7 rfl rfl (fun h => ?_) (fun h => ?_)
    · have hi : i < n := by simp at h; omega
      have ei : IntKind.wrap .i64 ((i : Int) + 1) = ((i + 1 : Nat) : Int) := by rw [w64 (by omega) (by omega)]; simp
      have hp : (2 : Nat) ^ i ≤ 2 ^ 40 := Nat.pow_le_pow_right (by omega) (by omega)
      have h40 : (2 : Nat) ^ 40 = 1099511627776 := by decide
      have e11 : IntKind.wrap .i64 (2 * ((2 ^ i : Nat) : Int)) = ((2 ^ (i + 1) : Nat) : Int) := by
        rw [Nat.pow_succ]; rw [h40] at hp
        generalize (2 : Nat) ^ i = p at hp ⊢
        rw [w64 (by omega) (by omega)]; omega
      refine VX_go4 (fs := []) (ok 0 _) eqs trivial 100 [] rfl trivial ?_
      refine loop_nrm ⟨i + 1, by omega, by omega, ?_⟩
      exact wk1 rfl rfl (by simp) (lc (li (by rw [ei])) (lc (li (by rw [← e11])) (lc (ls rfl rfl) lnil)))
    · have hi' : i = n := by simp at h; omega
      subst hi'
      refine VX_go4 (fs := []) (ok 0 _) eqs trivial 100 [] rfl trivial ?_
      apply loop_brk
      refine VX_go4 (fs := []) (ok 0 _) eqs trivial 100 [] rfl trivial ?_
      exact ⟨.inr rfl, rfl⟩
theorem bit_ok (m i : Nat) (h : i ≤ 64) : FnOk Tryd.prog tb 69 [32, 3] [4] [.int m, .int i] [.bool (bitB m i)] := by
  refine FnOk_of_V (fn := Tryd.f69) (bt := 4) (ok 0 _) Tryd.func69 rfl rfl rfl (by decide) fun hw => ?_
  have hm : m < 4294967296 := by
    obtain ⟨n, hn, hr⟩ := wt_int (hw 0 _ (.int m) rfl rfl) (k := .u32) rfl
    cases hn
    simp only [inR, Bool.and_eq_true, decide_eq_true_eq] at hr; omega
  clear hw
  apply V_of_VX
  refine VX_go4 (fs := []) (ok 0 _) eqs trivial 100 [] rfl trivial ?_
  have hdl : ∀ j, m / 2 ^ j < 4294967296 := fun j => Nat.lt_of_le_of_lt (Nat.div_le_self _ _) hm
  refine VX_loopA (fun j : Nat => j ≤ i) (fun j => [(5, .t 3 (.e (.int j))), (0, .t 32 (.e (.int (m / 2 ^ j : Nat)))), (1, .t 3 (.e (.int i)))]) (fun i => []) (fun j => i - j) 0 (by omega) ?_ ?_
  · exact wk1 rfl rfl (by simp) (lc (ls rfl rfl) (lc (li (by simp)) (lc (ls rfl rfl) lnil)))
  · intro j hj
    have hd := hdl j
    refine VX_go4 (fs := []) (ok 0 _) eqs trivial 100 [] rfl trivial ?_
    refine VX_split 8 rfl rfl (fun h => ?_) (fun h => ?_)
    · have hj : j < i := by simp at h; omega
      have ei : IntKind.wrap .i64 ((j : Int) + 1) = ((j + 1 : Nat) : Int) := by rw [w64 (by omega) (by omega)]; simp
      have e12 : IntKind.wrap .u32 (Int.tdiv ((m / 2 ^ j : Nat) : Int) 2) = ((m / 2 ^ (j + 1) : Nat) : Int) := by
        rw [Nat.pow_succ, ← Nat.div_div_eq_div_mul]
        generalize m / 2 ^ j = q at hd ⊢
        rw [Int.tdiv_eq_ediv_of_nonneg (by omega), wrap_eq]
        simp only; omega
      refine VX_go4 (fs := []) (ok 0 _) eqs trivial 100 [] rfl (by simp [allP, arithP]) ?_
      refine loop_nrm ⟨j + 1, by omega, by omega, ?_⟩
      exact wk1 rfl rfl (by simp) (lc (li (by rw [ei])) (lc (li (by rw [← e12])) (lc (ls rfl rfl) lnil)))
    · have hj' : j = i := by simp at h; omega
      subst hj'
      refine VX_go4 (fs := []) (ok 0 _) eqs trivial 100 [] rfl trivial ?_
      apply loop_brk
      refine VX_go4 (fs := []) (ok 0 _) eqs trivial 100 [] rfl (by simp [allP, arithP]) ?_
      refine ⟨.inr rfl, ?_⟩
      have : bitB m j = decide (Int.tmod ((m / 2 ^ j : Nat) : Int) 2 = 1) := by
        unfold bitB
        generalize m / 2 ^ j = q
        rw [Int.tmod_eq_emod_of_nonneg (by omega)]
        congr 1; apply propext; omega
      rw [this]; rfl
theorem rnode_ok {L : List Dig} (hl : L.length ≤ 5000) (hL : All32 L) : ∀ (n k : Nat), n ≤ 32 → k * 2 ^ n ≤ 1000000000000 → FnOk Tryd.prog tb 55 [61, 34, 34, 3, 3] [24] [.nilp, dsE (zP 32), dsE L, .int n, .int k] [dgE (nd L n k)] := by
  intro n
  induction n with
  | zero =>
    intro k hn hk
    refine FnOk_of_V (fn := Tryd.f55) (bt := 4) (ok 0 _) Tryd.func55 rfl rfl rfl (by decide) fun hw => ?_
    clear hw
    apply V_of_VX
    have hlm : (L.map dgE).length = L.length := by simp
    have hzl := zP_length 32
    have hzg := (zP_get 32 0 (by omega)).trans (if_pos (by omega))
    generalize zP 32 = Z at hzl hzg
    have e16 : IntKind.wrap .i64 ((k : Int) * ((2 ^ 0 : Nat) : Int)) = (k : Int) := by simp at hk ⊢; rw [w64 (by omega) (by omega)]
    refine VX_go4 (fs := []) (ok 0 _) eqs trivial 100 [] rfl trivial ?_
    refine VX_callD (ok 0 _) [3] [] rfl rfl rfl rfl rfl rfl (size_ok 0 (by omega)).g rfl rfl rfl ?_
    refine VX_go4 (fs := []) (ok 0 _) eqs trivial 100 [17] rfl trivial ?_
    refine VX_eq 16 rfl rfl (d' := .t 3 (.e (.int k))) (congrArg (fun x => D.t 3 (.e (.int x))) e16) ?_
    refine VX_go4 (fs := []) (ok 0 _) eqs trivial 100 [] rfl trivial ?_
    refine VX_split 19 rfl rfl (fun h => ?_) (fun h => ?_)
    · have h1 : L.length ≤ k := by simp only [List.length_map, decide_eq_true_eq] at h; omega
      refine VX_go4 (fs := []) (ok 0 _) eqs trivial 100 [] rfl (by simp [allP, hzl]) ?_
      refine ⟨.inr rfl, ?_⟩
      have h2 : (Z.map dgE).getD 0 .nilp = dgE (nght 0) := (dsE_get (z := []) (by omega)).trans (congrArg dgE hzg)
      rw [nd_ge (by simpa using h1), ← h2]; rfl
    · have h1 : k < L.length := by simp only [List.length_map, decide_eq_false_iff_not] at h; omega
      refine VX_go4 (fs := []) (ok 0 _) eqs trivial 100 [] rfl trivial ?_
      refine VX_known 25 true rfl rfl (by simp) ?_
      refine VX_go4 (fs := []) (ok 0 _) eqs trivial 100 [] rfl (by simp [allP]; omega) ?_
      refine ⟨.inr rfl, ?_⟩
      have h2 : (L.map dgE).getD k .nilp = dgE (nd L 0 k) := (dsE_get (z := []) h1).trans (congrArg dgE (nd_zero h1 _).symm)
      rw [← h2]; rfl
  | succ n ih =>
    intro k hn hk
    refine FnOk_of_V (fn := Tryd.f55) (bt := 4) (ok 0 _) Tryd.func55 rfl rfl rfl (by decide) fun hw => ?_
    clear hw
    apply V_of_VX
    have hlm : (L.map dgE).length = L.length := by simp
    have e16 : IntKind.wrap .i64 ((k : Int) * ((2 ^ (n + 1) : Nat) : Int)) = ((k * 2 ^ (n + 1) : Nat) : Int) := by rw [← Int.natCast_mul, w64 (by omega) (by omega)]
    refine VX_go4 (fs := []) (ok 0 _) eqs trivial 100 [] rfl trivial ?_
    refine VX_callD (ok 0 _) [3] [] rfl rfl rfl rfl rfl rfl (size_ok (n + 1) (by omega)).g rfl rfl rfl ?_
    refine VX_go4 (fs := []) (ok 0 _) eqs trivial 100 [17] rfl trivial ?_
    refine VX_eq 16 rfl rfl (d' := .t 3 (.e (.int (k * 2 ^ (n + 1) : Nat)))) (congrArg (fun x => D.t 3 (.e (.int x))) e16) ?_
    refine VX_go4 (fs := []) (ok 0 _) eqs trivial 100 [] rfl trivial ?_
    refine VX_split 19 rfl rfl (fun h => ?_) (fun h => ?_)
    · have h1 : L.length ≤ k * 2 ^ (n + 1) := by simp only [List.length_map, decide_eq_true_eq] at h; omega
      have hzl := zP_length 32
      have hzg := (zP_get 32 (n + 1) (by omega)).trans (if_pos hn)
      generalize zP 32 = Z at hzl hzg
      refine VX_go4 (fs := []) (ok 0 _) eqs trivial 100 [] rfl (by simp [allP, hzl]; omega) ?_
      refine ⟨.inr rfl, ?_⟩
      have h2 : (Z.map dgE).getD (n + 1) .nilp = dgE (nght (n + 1)) := (dsE_get (z := []) (by omega)).trans (congrArg dgE hzg)
      rw [nd_ge h1, ← h2]; rfl
    · have h1 : k * 2 ^ (n + 1) < L.length := by simp only [List.length_map, decide_eq_false_iff_not] at h; omega
      have hp := Nat.pow_succ 2 n
      have hp32 : (2 : Nat) ^ n ≤ 2 ^ 32 := Nat.pow_le_pow_right (by omega) (by omega)
      have h32 : (2 : Nat) ^ 32 = 4294967296 := by decide
      have hkn : 2 * k * 2 ^ n = k * 2 ^ (n + 1) := by rw [hp, Nat.mul_comm (2 ^ n) 2, ← Nat.mul_assoc, Nat.mul_comm k 2]
      have hkk : k ≤ k * 2 ^ (n + 1) := Nat.le_mul_of_pos_right _ (Nat.pow_pos (by omega))
      have c1 := (ih (2 * k) (by omega) (by omega)).g
      have c2 := (ih (2 * k + 1) (by omega) (by rw [Nat.add_mul, hkn]; omega)).g
      have c3 := (rtwo_ok (nd_length hL n (2 * k)) (nd_length hL n (2 * k + 1))).g
      rw [nd_succ h1]
      generalize nd L n (2 * k) = A at c1 c3 ⊢
      generalize nd L n (2 * k + 1) = B at c2 c3 ⊢
      generalize nodeB A B = R at c3 ⊢
      generalize zP 32 = Z at c1 c2 ⊢
      have e34 : IntKind.wrap .i64 (((n + 1 : Nat) : Int) - 1) = (n : Int) := by rw [w64 (by omega) (by omega)]; omega
      have e36 : IntKind.wrap .i64 (2 * (k : Int)) = ((2 * k : Nat) : Int) := by rw [w64 (by omega) (by omega)]; omega
      have e45 : IntKind.wrap .i64 (((2 * k : Nat) : Int) + 1) = ((2 * k + 1 : Nat) : Int) := by rw [w64 (by omega) (by omega)]; omega
      refine VX_go4 (fs := []) (ok 0 _) eqs trivial 100 [] rfl trivial ?_
      refine VX_known 25 false rfl rfl (by simp; omega) ?_
      refine VX_go4 (fs := []) (ok 0 _) eqs trivial 100 [35] rfl trivial ?_
      refine VX_eq 34 rfl rfl (d' := .t 3 (.e (.int n))) (congrArg (fun x => D.t 3 (.e (.int x))) e34) ?_
      refine VX_go4 (fs := []) (ok 0 _) eqs trivial 100 [37] rfl trivial ?_
      refine VX_eq 36 rfl rfl (d' := .t 3 (.e (.int (2 * k : Nat)))) (congrArg (fun x => D.t 3 (.e (.int x))) e36) ?_
      refine VX_callD (ok 0 _) [61, 34, 34, 3, 3] [] rfl rfl rfl rfl rfl rfl c1 rfl rfl rfl ?_
      refine VX_go4 (fs := []) (ok 0 _) eqs trivial 100 [43] rfl trivial ?_
      refine VX_eq 42 rfl rfl (d' := .t 3 (.e (.int n))) (congrArg (fun x => D.t 3 (.e (.int x))) e34) ?_
      refine VX_go4 (fs := []) (ok 0 _) eqs trivial 100 [45] rfl trivial ?_
      refine VX_eq 44 rfl rfl (d' := .t 3 (.e (.int (2 * k : Nat)))) (congrArg (fun x => D.t 3 (.e (.int x))) e36) ?_
      refine VX_go4 (fs := []) (ok 0 _) eqs trivial 100 [46] rfl trivial ?_
      refine VX_eq 45 rfl rfl (d' := .t 3 (.e (.int (2 * k + 1 : Nat)))) (congrArg (fun x => D.t 3 (.e (.int x))) e45) ?_
      refine VX_callD (ok 0 _) [61, 34, 34, 3, 3] [] rfl rfl rfl rfl rfl rfl c2 rfl rfl rfl ?_
      refine VX_go4 (fs := []) (ok 0 _) eqs trivial 100 [] rfl trivial ?_
      refine VX_callD (ok 0 _) [61, 5, 24, 24] [] rfl rfl rfl rfl rfl rfl c3 rfl rfl rfl ?_
      refine VX_go4 (fs := []) (ok 0 _) eqs trivial 100 [] rfl trivial ?_
      exact ⟨.inr rfl, rfl⟩
end Go.Den.Q33.Me
namespace Go.Den.Q33.Me
open Go Go.Den Go.Proofs Go.Den.Q33 Go.Den.Q33.Dg
set_option maxRecDepth 8000
set_option linter.unusedVariables false
set_option linter.unusedSimpArgs false
open Go.Den.Q33.Sh (dgE)
theorem clone_ok (q : List E) (hq : q.length ≤ 5000) : FnOk Tryd.prog tb 51 [34] [34] [.sl q] [.sl q] := by
  refine FnOk_of_V (fn := Tryd.f51) (bt := 4) (ok 0 _) Tryd.func51 rfl rfl rfl (by decide) fun hw => ?_
  clear hw
  apply V_of_VX
  refine VX_go4 (fs := []) (ok 0 _) eqs trivial 100 [] rfl trivial ?_
  refine VX_op rfl rfl (OpV_nilS (ok 0 _) rfl (.inl rfl) rfl rfl rfl rfl) ?_
  rintro d s ⟨b, hb, rfl, rfl⟩
  refine VX_go4 (fs := []) (ok 0 _) eqs trivial 100 [] rfl trivial ?_
  refine VX_split 4 rfl rfl (fun h => ?_) (fun h => ?_)
  · refine VX_go4 (fs := []) (ok 0 _) eqs trivial 100 [] rfl trivial ?_
    exact ⟨.inr rfl, by rw [hb h]; rfl⟩
  · refine VX_go4 (fs := []) (ok 0 _) eqs trivial 100 [] rfl (by simp [allP, nb, tb, maxL]; omega) ?_
    exact ⟨.inr rfl, rfl⟩
theorem branch_bad {L : List Dig} (k : Int) (h : k < 0 ∨ (L.length : Int) ≤ k) : FnOk Tryd.prog tb 29 [78, 34, 3] [34, 33] [.nilp, dsE L, .int k] [dsE [], .int 2] := by
  refine FnOk_of_V (fn := Tryd.f29) (bt := 4) (ok 0 _) Tryd.func29 rfl rfl rfl (by decide) fun hw => ?_
  clear hw
  apply V_of_VX
  refine VX_go4 (fs := []) (ok 0 _) eqs trivial 100 [] rfl trivial ?_
  refine VX_split 17 rfl rfl (fun _ => ?_) (fun h1 => ?_)
  · refine VX_go4 (fs := []) (ok 0 _) eqs trivial 100 [] rfl trivial ?_
    exact ⟨.inr rfl, rfl⟩
  · refine VX_go4 (fs := []) (ok 0 _) eqs trivial 100 [] rfl trivial ?_
    refine VX_known 14 true rfl rfl (by simp at h1 ⊢; omega) ?_
    refine VX_go4 (fs := []) (ok 0 _) eqs trivial 100 [] rfl trivial ?_
    exact ⟨.inr rfl, rfl⟩
theorem rbranch_bad {L : List Dig} (k : Int) (h : k < 0 ∨ (L.length : Int) ≤ k) : FnOk Tryd.prog tb 31 [61, 34, 3] [34, 3] [.nilp, dsE L, .int k] [dsE [], .int 2] := by
  refine FnOk_of_V (fn := Tryd.f31) (bt := 4) (ok 0 _) Tryd.func31 rfl rfl rfl (by decide) fun hw => ?_
  clear hw
  apply V_of_VX
  refine VX_go4 (fs := []) (ok 0 _) eqs trivial 100 [] rfl trivial ?_
  refine VX_split 14 rfl rfl (fun _ => ?_) (fun h1 => ?_)
  · refine VX_go4 (fs := []) (ok 0 _) eqs trivial 100 [] rfl trivial ?_
    exact ⟨.inr rfl, rfl⟩
  · refine VX_go4 (fs := []) (ok 0 _) eqs trivial 100 [] rfl trivial ?_
    refine VX_known 19 true rfl rfl (by simp at h1 ⊢; omega) ?_
    refine VX_go4 (fs := []) (ok 0 _) eqs trivial 100 [] rfl trivial ?_
    exact ⟨.inr rfl, rfl⟩
theorem sib_le (k : Nat) : sib k ≤ k + 1 := by unfold sib; split <;> omega
theorem divp (k i : Nat) : k / 2 ^ (i + 1) = k / 2 ^ i / 2 := by rw [Nat.pow_succ, Nat.div_div_eq_div_mul]
set_option maxHeartbeats 1600000 in
theorem branch_ok {L : List Dig} (hl : L.length ≤ 4096) (hL : All32 L) (k : Nat) (hk : k < L.length) : FnOk Tryd.prog tb 29 [78, 34, 3] [34, 33] [.nilp, dsE L, .int k] [dsE (brL L k 32), .int 0] := by
  refine FnOk_of_V (fn := Tryd.f29) (bt := 4) (ok 0 _) Tryd.func29 rfl rfl rfl (by decide) fun hw => ?_
  clear hw
  apply V_of_VX
  have hlm : (L.map dgE).length = L.length := by simp
  refine VX_go4 (fs := []) (ok 0 _) eqs trivial 100 [] rfl trivial ?_
  refine VX_known 17 false rfl rfl (by simp) ?_
  refine VX_go4 (fs := []) (ok 0 _) eqs trivial 100 [] rfl trivial ?_
  refine VX_known 14 false rfl rfl (by simp; omega) ?_
  refine VX_go4 (fs := []) (ok 0 _) eqs trivial 100 [] rfl trivial ?_
  refine VX_known 23 false rfl rfl (by simp; omega) ?_
  refine VX_go4 (fs := []) (ok 0 _) eqs trivial 100 [] rfl trivial ?_
  refine VX_callD (ok 0 _) [34] [] rfl rfl rfl rfl rfl rfl (clone_ok (L.map dgE) (by simp; omega)).g rfl rfl rfl ?_
  refine VX_go4 (fs := []) (ok 0 _) eqs trivial 100 [] rfl trivial ?_
  have cz := noughts_ok.g
  have hzl := zP_length 32
  have hzg := fun i (h : i ≤ 32) => (zP_get 32 i (by omega)).trans (if_pos h)
  generalize zP 32 = Z at cz hzl hzg
  refine VX_callD (ok 0 _) [78] [] rfl rfl rfl rfl rfl rfl cz rfl rfl rfl ?_
  refine VX_go4 (fs := []) (ok 0 _) eqs trivial 100 [] rfl trivial ?_
  refine VX_promote 10 (u := 24) rfl rfl ?_
  refine VX_loopA (fun i : Nat => i ≤ 32) (fun i => [(31, .t 3 (.e (.int i))), (10, .t 34 (.lsl 1 ((brL L k i).map dgE))), (9, .ptr 0 []), (8, .t 34 (.e (dsE (lvl L i)))), (2, .t 3 (.e (.int (k / 2 ^ i : Nat)))), (0, .t 78 (.e .nilp))])
    (fun i => [.tree 105 (.e (zE Z)), .row 24 ((brL L k i).map dgE).length]) (fun i => 32 - i) 0 (by omega) ?_ ?_
  · exact wk1 rfl rfl (by simp [Blk.under, T.under]) (lc (ls rfl rfl) (lc (ls rfl rfl) (lc (ls rfl rfl) (lc (ls rfl rfl) (lc (li (by simp)) (lc (ls rfl rfl) lnil))))))
  · intro i hi
    have hbl := brL_length L k i
    refine VX_go4 (fs := []) (ok 0 _) eqs trivial 100 [] rfl trivial ?_
    refine VX_split 32 rfl rfl (fun h => ?_) (fun h => ?_)
    · have hi : i < 32 := by simp at h; omega
      have ei : IntKind.wrap .i64 ((i : Int) + 1) = ((i + 1 : Nat) : Int) := by rw [w64 (by omega) (by omega)]; simp
      have hch : childE i (zE Z) = dgE (nght i) := (zE_child _ i (by omega)).trans (congrArg dgE (hzg i (by omega)))
      have hll := lvl_le L i
      have hla := lvl_all hL i
      have hdl : k / 2 ^ i ≤ k := Nat.div_le_self _ _
      have c1 := (up_ok (L := lvl L i) (z := nght i) (by omega) hla (nght_length i)).g
      have hnx : lvl L (i + 1) = upB (lvl L i) (nght i) := rfl
      have hbs := brL_succ L k i
      have hd2 := divp k i
      have hnd : nd L i (sib (k / 2 ^ i)) = (lvl L i).getD (sib (k / 2 ^ i)) (nght i) := rfl
      have hgt : sib (k / 2 ^ i) < (lvl L i).length → ((lvl L i).map dgE).getD (sib (k / 2 ^ i)) .nilp = dgE (nd L i (sib (k / 2 ^ i))) := fun h => dsE_get h _
      have hge : ¬ sib (k / 2 ^ i) < (lvl L i).length → nd L i (sib (k / 2 ^ i)) = nght i := fun h => by rw [hnd, List.getD, List.getElem?_eq_none (by omega)]; rfl
      have x1 := xor1 (k / 2 ^ i) (by omega)
      have hbm : (brL L k (i + 1)).map dgE = (brL L k i).map dgE ++ [dgE (nd L i (sib (k / 2 ^ i)))] := by rw [hbs]; simp
      have hOl : ((brL L k i).map dgE).length ≤ 32 := by simp [hbl]; omega
      generalize nd L i (sib (k / 2 ^ i)) = N at hgt hge hbm
      generalize upB (lvl L i) (nght i) = U at c1 hnx
      generalize nght i = ni at c1 hch hge
      generalize lvl L i = Li at c1 hgt hge hll ⊢
      generalize (brL L k i).map dgE = O at hbm hOl ⊢
      generalize sib (k / 2 ^ i) = sb at hgt hge x1
      generalize k / 2 ^ i = ki at hdl hd2 x1 ⊢
      refine VX_go4 (fs := []) (ok 0 _) eqs trivial 100 [12] rfl (by simp [allP]; omega) ?_
      refine VX_eq 36 rfl rfl (d' := .t 24 (.e (dgE ni))) (congrArg (fun x => D.t 24 (.e x)) hch) ?_
      refine VX_go4 (fs := []) (ok 0 _) eqs trivial 100 [13] rfl trivial ?_
      refine VX_eq 38 rfl rfl (d' := .t 3 (.e (.int sb))) (congrArg (fun x => D.t 3 (.e (.int x))) x1) ?_
      refine VX_go4 (fs := []) (ok 0 _) eqs trivial 100 [] rfl trivial ?_
      refine VX_splitJ 42 [(31, .t 3 (.e (.int i))), (12, .ptr 2 []), (11, .t 3 (.e (.int i))), (10, .t 34 (.lsl 1 O)), (9, .ptr 0 []), (8, .t 34 (.e (dsE Li))), (2, .t 3 (.e (.int ki))), (0, .t 78 (.e .nilp))] [.tree 105 (.e (zE Z)), .row 24 O.length, .tree 24 (.e (dgE N))] rfl rfl rfl ?_ (fun h hr => ?_) (fun h hr => ?_)
      rotate_left
      · have h1 : sb < Li.length := by
          simp only [List.length_map, decide_eq_true_eq] at h; omega
        have g := hgt h1
        refine VX_go4 (fs := []) (ok 0 _) eqs trivial 100 [47] rfl (by simp [allP]; omega) ?_
        refine VX_weakS rfl (wk1 (congrArg (fun x => [Blk.tree 105 (.e (zE Z)), .row 24 O.length, .tree 24 (.e x)]) g) rfl (by simp [Blk.under, T.under]) (lc (ls rfl rfl) (lc (ls rfl rfl) (lc (ls rfl rfl) (lc (ls rfl rfl) (lc (ls rfl rfl) (lc (ls rfl rfl) (lc (ls rfl rfl) (lc (ls rfl rfl) lnil))))))))) hr
      · have h1 : ¬ sb < Li.length := by
          simp only [List.length_map, decide_eq_false_iff_not] at h; omega
        have g := hge h1
        refine VX_go4 (fs := []) (ok 0 _) eqs trivial 100 [47] rfl trivial ?_
        refine VX_weakS rfl (wk1 (congrArg (fun x => [Blk.tree 105 (.e (zE Z)), .row 24 O.length, .tree 24 (.e (dgE x))]) g.symm) rfl (by simp [Blk.under, T.under]) (lc (ls rfl rfl) (lc (ls rfl rfl) (lc (ls rfl rfl) (lc (ls rfl rfl) (lc (ls rfl rfl) (lc (ls rfl rfl) (lc (ls rfl rfl) (lc (ls rfl rfl) lnil))))))))) hr
      refine VX_go4 (fs := []) (ok 0 _) eqs trivial 100 [55] rfl (by simp [allP, nb, tb, maxL]; omega) ?_
      refine VX_go4 (fs := []) (ok 0 _) eqs trivial 100 [56] rfl (by simp [allP]) ?_
      refine VX_eq 55 rfl rfl (d' := .t 24 (.e (dgE ni))) (congrArg (fun x => D.t 24 (.e x)) hch) ?_
      refine VX_callD (ok 0 _) [78, 34, 24] [] rfl rfl rfl rfl rfl rfl c1 rfl rfl rfl ?_
      have e58 : IntKind.wrap .i64 (Int.tdiv (ki : Int) 2) = ((k / 2 ^ (i + 1) : Nat) : Int) := by
        rw [hd2, Int.tdiv_eq_ediv_of_nonneg (by omega), w64 (by omega) (by omega)]; rfl
      refine VX_go4 (fs := []) (ok 0 _) eqs trivial 100 [] rfl (by simp [allP, arithP]) ?_
      refine loop_nrm ⟨i + 1, by omega, by omega, ?_⟩
      exact wkc [.tree 24 (.e (dgE N))] (by rw [hbm]; rfl) rfl (by simp [Blk.under, T.under]) (lc (li (by rw [ei])) (lc (ls (by rw [hbm]; rfl) rfl) (lc (ls rfl rfl) (lc (ls (by rw [hnx]; rfl) rfl) (lc (li e58.symm) (lc (ls rfl rfl) lnil))))))
    · have hi' : i = 32 := by simp at h; omega
      subst hi'
      generalize brL L k 32 = B
      generalize lvl L 32 = T32
      generalize k / 2 ^ 32 = k32
      refine VX_go4 (fs := []) (ok 0 _) eqs trivial 100 [] rfl trivial ?_
      apply loop_brk
      refine VX_go4 (fs := []) (ok 0 _) eqs trivial 100 [] rfl trivial ?_
      exact ⟨.inr rfl, rfl⟩
set_option maxHeartbeats 1600000 in
theorem rbranch_ok {L : List Dig} (hl : L.length ≤ 4096) (hL : All32 L) (k : Nat) (hk : k < L.length) : FnOk Tryd.prog tb 31 [61, 34, 3] [34, 3] [.nilp, dsE L, .int k] [dsE (brL L k 32), .int 0] := by
  refine FnOk_of_V (fn := Tryd.f31) (bt := 4) (ok 0 _) Tryd.func31 rfl rfl rfl (by decide) fun hw => ?_
  clear hw
  apply V_of_VX
  have hlm : (L.map dgE).length = L.length := by simp
  refine VX_go4 (fs := []) (ok 0 _) eqs trivial 100 [] rfl trivial ?_
  refine VX_known 14 false rfl rfl (by simp) ?_
  refine VX_go4 (fs := []) (ok 0 _) eqs trivial 100 [] rfl trivial ?_
  refine VX_known 19 false rfl rfl (by simp; omega) ?_
  refine VX_go4 (fs := []) (ok 0 _) eqs trivial 100 [] rfl trivial ?_
  refine VX_known 22 false rfl rfl (by simp; omega) ?_
  refine VX_go4 (fs := []) (ok 0 _) eqs trivial 100 [] rfl trivial ?_
  refine VX_callD (ok 0 _) [61] [] rfl rfl rfl rfl rfl rfl rnoughts_ok.g rfl rfl rfl ?_
  have cn := fun (n k : Nat) (h : n ≤ 32) (h2 : k * 2 ^ n ≤ 1000000000000) => (rnode_ok (by omega) hL n k h h2).g
  generalize zP 32 = Z at cn ⊢
  refine VX_go4 (fs := []) (ok 0 _) eqs trivial 100 [] rfl trivial ?_
  refine VX_promote 9 (u := 24) rfl rfl ?_
  refine VX_loopA (fun i : Nat => i ≤ 32) (fun i => [(10, .t 3 (.e (.int i))), (9, .t 34 (.lsl 0 ((brL L k i).map dgE))), (8, .t 34 (.e (dsE Z))), (2, .t 3 (.e (.int (k / 2 ^ i : Nat)))), (1, .t 34 (.e (dsE L))), (0, .t 61 (.e .nilp))])
    (fun i => [.row 24 ((brL L k i).map dgE).length]) (fun i => 32 - i) 0 (by omega) ?_ ?_
  · exact wk1 rfl rfl (by simp [Blk.under, T.under]) (lc (ls rfl rfl) (lc (ls rfl rfl) (lc (ls rfl rfl) (lc (li (by simp)) (lc (ls rfl rfl) (lc (ls rfl rfl) lnil))))))
  · intro i hi
    have hbl := brL_length L k i
    refine VX_go4 (fs := []) (ok 0 _) eqs trivial 100 [] rfl trivial ?_
    refine VX_split 26 rfl rfl (fun h => ?_) (fun h => ?_)
    · have hi : i < 32 := by simp at h; omega
      have ei : IntKind.wrap .i64 ((i : Int) + 1) = ((i + 1 : Nat) : Int) := by rw [w64 (by omega) (by omega)]; simp
      have hdl : k / 2 ^ i ≤ k := Nat.div_le_self _ _
      have hbs := brL_succ L k i
      have hd2 := divp k i
      have hp32 : (2 : Nat) ^ i ≤ 2 ^ 32 := Nat.pow_le_pow_right (by omega) (by omega)
      have h32 : (2 : Nat) ^ 32 = 4294967296 := by decide
      have hmul : sib (k / 2 ^ i) * 2 ^ i ≤ 1000000000000 := by
        have h1 : k / 2 ^ i * 2 ^ i ≤ k := Nat.div_mul_le_self _ _
        have h2 : sib (k / 2 ^ i) ≤ k / 2 ^ i + 1 := sib_le _
        have h3 : sib (k / 2 ^ i) * 2 ^ i ≤ (k / 2 ^ i + 1) * 2 ^ i := Nat.mul_le_mul_right _ h2
        rw [Nat.add_mul] at h3; omega
      have c1 := cn i (sib (k / 2 ^ i)) (by omega) hmul
      have hbm : (brL L k (i + 1)).map dgE = (brL L k i).map dgE ++ [dgE (nd L i (sib (k / 2 ^ i)))] := by rw [hbs]; simp
      have hOl : ((brL L k i).map dgE).length ≤ 32 := by simp [hbl]; omega
      have hsb : sib (k / 2 ^ i) = if k / 2 ^ i % 2 = 1 then k / 2 ^ i - 1 else k / 2 ^ i + 1 := rfl
      generalize nd L i (sib (k / 2 ^ i)) = N at c1 hbm
      generalize (brL L k i).map dgE = O at hbm hOl ⊢
      generalize sib (k / 2 ^ i) = sb at c1 hsb
      generalize k / 2 ^ i = ki at hdl hd2 hsb ⊢
      have e30 : IntKind.wrap .i64 ((ki : Int) + 1) = ((ki + 1 : Nat) : Int) := by rw [w64 (by omega) (by omega)]; simp
      have e32 : Int.tmod (ki : Int) 2 = ((ki % 2 : Nat) : Int) := by rw [Int.tmod_eq_emod_of_nonneg (by omega)]; simp
      refine VX_go4 (fs := []) (ok 0 _) eqs trivial 100 [] rfl (by simp [allP, arithP]) ?_
      refine VX_splitJ 33 [(10, .t 3 (.e (.int i))), (11, .t 3 (.e (.int sb))), (9, .t 34 (.lsl 0 O)), (8, .t 34 (.e (dsE Z))), (2, .t 3 (.e (.int ki))), (1, .t 34 (.e (dsE L))), (0, .t 61 (.e .nilp))] [.row 24 O.length] rfl rfl rfl ?_ (fun h hr => ?_) (fun h hr => ?_)
      rotate_left
      · have h1 : ki % 2 = 1 := by rw [e32] at h; simp only [decide_eq_true_eq] at h; omega
        rw [if_pos h1] at hsb
        have e35 : IntKind.wrap .i64 ((ki : Int) - 1) = (sb : Int) := by rw [w64 (by omega) (by omega)]; omega
        refine VX_go4 (fs := []) (ok 0 _) eqs trivial 100 [36] rfl trivial ?_
        refine VX_weakS rfl (wk1 rfl rfl (by simp [Blk.under, T.under]) (lc (ls rfl rfl) (lc (li e35.symm) (lc (ls rfl rfl) (lc (ls rfl rfl) (lc (ls rfl rfl) (lc (ls rfl rfl) (lc (ls rfl rfl) lnil)))))))) hr
      · have h1 : ¬ ki % 2 = 1 := by rw [e32] at h; simp only [decide_eq_false_iff_not] at h; omega
        rw [if_neg h1] at hsb
        refine VX_go4 (fs := []) (ok 0 _) eqs trivial 100 [36] rfl trivial ?_
        refine VX_weakS rfl (wk1 rfl rfl (by simp [Blk.under, T.under]) (lc (ls rfl rfl) (lc (li (by rw [e30, hsb])) (lc (ls rfl rfl) (lc (ls rfl rfl) (lc (ls rfl rfl) (lc (ls rfl rfl) (lc (ls rfl rfl) lnil)))))))) hr
      refine VX_go4 (fs := []) (ok 0 _) eqs trivial 100 [] rfl trivial ?_
      refine VX_callD (ok 0 _) [61, 34, 34, 3, 3] [] rfl rfl rfl rfl rfl rfl c1 rfl rfl rfl ?_
      have e58 : IntKind.wrap .i64 (Int.tdiv (ki : Int) 2) = ((k / 2 ^ (i + 1) : Nat) : Int) := by
        rw [hd2, Int.tdiv_eq_ediv_of_nonneg (by omega), w64 (by omega) (by omega)]; rfl
      refine VX_go4 (fs := []) (ok 0 _) eqs trivial 100 [46] rfl (by simp [allP, nb, tb, maxL]; omega) ?_
      refine VX_go4 (fs := []) (ok 0 _) eqs trivial 100 [] rfl (by simp [allP, arithP]) ?_
      refine loop_nrm ⟨i + 1, by omega, by omega, ?_⟩
      exact wk1 (by rw [hbm]) rfl (by simp [Blk.under, T.under]) (lc (li (by rw [ei])) (lc (ls (by rw [hbm]; rfl) rfl) (lc (ls rfl rfl) (lc (li e58.symm) (lc (ls rfl rfl) (lc (ls rfl rfl) lnil))))))
    · have hi' : i = 32 := by simp at h; omega
      subst hi'
      generalize brL L k 32 = B
      generalize k / 2 ^ 32 = k32
      refine VX_go4 (fs := []) (ok 0 _) eqs trivial 100 [] rfl trivial ?_
      apply loop_brk
      refine VX_go4 (fs := []) (ok 0 _) eqs trivial 100 [] rfl trivial ?_
      exact ⟨.inr rfl, rfl⟩
end Go.Den.Q33.Me
namespace Go.Den.Q33.Me
open Go Go.Den Go.Proofs Go.Den.Q33 Go.Den.Q33.Dg
set_option maxRecDepth 8000
set_option linter.unusedVariables false
set_option linter.unusedSimpArgs false
open Go.Den.Q33.Sh (dgE)
/-- How far a branch is gone up. -/
def upTo (B : List Dig) : Nat := if 32 < B.length then 32 else B.length
def climbB (leaf : Dig) (m : Nat) (B : List Dig) : Dig := clB leaf m B (upTo B)
theorem climbB_length {leaf : Dig} (h : leaf.length = 32) (m : Nat) (B : List Dig) : (climbB leaf m B).length = 32 := clB_length h m B _
set_option maxHeartbeats 800000 in
theorem climb_ok {leaf : Dig} {B : List Dig} (hf : leaf.length = 32) (hB : All32 B) (hl : B.length ≤ 100000) (m : Nat) (hm : m < 4294967296) : FnOk Tryd.prog tb 56 [78, 24, 32, 34] [24] [.nilp, dgE leaf, .int m, dsE B] [dgE (climbB leaf m B)] := by
  refine FnOk_of_V (fn := Tryd.f56) (bt := 4) (ok 0 _) Tryd.func56 rfl rfl rfl (by decide) fun hw => ?_
  clear hw
  apply V_of_VX
  have hlm : (B.map dgE).length = B.length := by simp
  unfold climbB
  have hup : upTo B ≤ 32 ∧ upTo B ≤ B.length := by unfold upTo; split <;> omega
  have e14 : (if (32 : Int) < (((B.map dgE).length : Nat) : Int) then (32 : Int) else (((B.map dgE).length : Nat) : Int)) = (upTo B : Int) := by
    rw [hlm]; unfold upTo; by_cases h : 32 < B.length
    · rw [if_pos (by omega), if_pos h]; rfl
    · rw [if_neg (by omega), if_neg h]
  generalize hN : upTo B = N at hup e14
  have e15 : ((B.map dgE).take ((N : Int)).toNat).drop 0 = (B.take N).map dgE := by
    rw [List.drop_zero, Int.toNat_natCast, List.map_take]
  refine VX_go4 (fs := []) (ok 0 _) eqs trivial 100 [15] rfl trivial ?_
  refine VX_eq 14 rfl rfl (d' := .t 3 (.e (.int N))) (congrArg (fun x => D.t 3 (.e (.int x))) e14) ?_
  refine VX_go4 (fs := []) (ok 0 _) eqs trivial 100 [16] rfl (by simp [allP]; omega) ?_
  refine VX_eq 15 rfl rfl (d' := .t 34 (.e (dsE (B.take N)))) (congrArg (fun x => D.t 34 (.e (.sl x))) e15) ?_
  have hNl : ((B.take N).map dgE).length = N := by simp; omega
  refine VX_go4 (fs := []) (ok 0 _) eqs trivial 100 [] rfl trivial ?_
  refine VX_loopA (fun i : Nat => i ≤ N) (fun i => [(17, .t 3 (.e (.int i))), (16, .t 3 (.e (.int N))), (15, .t 34 (.e (dsE (B.take N)))), (8, .ptr 1 []), (5, .ptr 0 []), (2, .t 32 (.e (.int m))), (0, .t 78 (.e .nilp))])
    (fun i => [.tree 24 (.e (dgE (clB leaf m B i))), .tree 24 (.e (dgE z0))]) (fun i => N - i) 0 (by omega) ?_ ?_
  · exact wk1 rfl rfl (by simp [Blk.under, T.under]) (lc (ls rfl rfl) (lc (li (by rw [hNl])) (lc (ls rfl rfl) (lc (ls rfl rfl) (lc (ls rfl rfl) (lc (ls rfl rfl) (lc (ls rfl rfl) lnil)))))))
  · intro i hi
    refine VX_go4 (fs := []) (ok 0 _) eqs trivial 100 [] rfl trivial ?_
    refine VX_split 18 rfl rfl (fun h => ?_) (fun h => ?_)
    · have hi : i < N := by simp at h; omega
      have ei : IntKind.wrap .i64 ((i : Int) + 1) = ((i + 1 : Nat) : Int) := by rw [w64 (by omega) (by omega)]; simp
      have hg : ((B.take N).map dgE).getD i .nilp = dgE (B.getD i []) := by
        rw [dsE_get (z := []) (by simp; omega)]; simp [List.getD, List.getElem?_take, hi]
      have hc := clB_length hf m B i
      have hb : (B.getD i []).length = 32 := by rw [getD_any (by omega) [] z0]; exact getD_all hB z0_length i
      have hsb := shr_bit m i hm (by omega)
      have hnx : clB leaf m B (i + 1) = if bitB m i = true then nodeB (B.getD i []) (clB leaf m B i) else nodeB (clB leaf m B i) (B.getD i []) := rfl
      have hbit : bitB m i = decide (m / 2 ^ i % 2 = 1) := rfl
      have c1 := (node_ok hb hc).g
      have c2 := (node_ok hc hb).g
      generalize nodeB (B.getD i []) (clB leaf m B i) = R1 at c1 hnx
      generalize nodeB (clB leaf m B i) (B.getD i []) = R2 at c2 hnx
      generalize clB leaf m B i = cur at c1 c2 ⊢
      generalize B.getD i [] = b at c1 c2 hg
      generalize bitB m i = bt at hnx hbit
      generalize m / 2 ^ i % 2 = q at hsb hbit
      refine VX_go4 (fs := []) (ok 0 _) eqs trivial 100 [10] rfl (by simp [allP, hlm]; omega) ?_
      refine VX_eq 21 rfl rfl (d' := .t 24 (.e (dgE b))) (congrArg (fun x => D.t 24 (.e x)) hg) ?_
      refine VX_go4 (fs := []) (ok 0 _) eqs trivial 100 [26] rfl (by simp [allP, arithP]) ?_
      refine VX_eq 25 rfl rfl (d' := .t 32 (.e (.int q))) (congrArg (fun x => D.t 32 (.e (.int x))) hsb) ?_
      refine VX_go4 (fs := []) (ok 0 _) eqs trivial 100 [] rfl trivial ?_
      refine VX_split 26 rfl rfl (fun h => ?_) (fun h => ?_)
      · have h1 : q = 1 := by simp at h; omega
        rw [if_pos (by rw [hbit]; simp [h1])] at hnx
        refine VX_go4 (fs := []) (ok 0 _) eqs trivial 100 [] rfl trivial ?_
        refine VX_callD (ok 0 _) [78, 24, 24] [] rfl rfl rfl rfl rfl rfl c1 rfl rfl rfl ?_
        refine VX_go4 (fs := []) (ok 0 _) eqs trivial 100 [] rfl trivial ?_
        refine loop_nrm ⟨i + 1, by omega, by omega, ?_⟩
        exact wkc [.tree 24 (.e (dgE b))] (by rw [hnx]; rfl) rfl (by simp [Blk.under, T.under]) (lc (li (by rw [ei])) (lc (ls rfl rfl) (lc (ls rfl rfl) (lc (ls rfl rfl) (lc (ls rfl rfl) (lc (ls rfl rfl) (lc (ls rfl rfl) lnil)))))))
      · have h1 : ¬ q = 1 := by simp at h; omega
        rw [if_neg (by rw [hbit]; simp [h1])] at hnx
        refine VX_go4 (fs := []) (ok 0 _) eqs trivial 100 [] rfl trivial ?_
        refine VX_callD (ok 0 _) [78, 24, 24] [] rfl rfl rfl rfl rfl rfl c2 rfl rfl rfl ?_
        refine VX_go4 (fs := []) (ok 0 _) eqs trivial 100 [] rfl trivial ?_
        refine loop_nrm ⟨i + 1, by omega, by omega, ?_⟩
        exact wkc [.tree 24 (.e (dgE b))] (by rw [hnx]; rfl) rfl (by simp [Blk.under, T.under]) (lc (li (by rw [ei])) (lc (ls rfl rfl) (lc (ls rfl rfl) (lc (ls rfl rfl) (lc (ls rfl rfl) (lc (ls rfl rfl) (lc (ls rfl rfl) lnil)))))))
    · have hi' : i = N := by simp at h; omega
      subst hi'
      generalize clB leaf m B i = cur
      refine VX_go4 (fs := []) (ok 0 _) eqs trivial 100 [] rfl trivial ?_
      apply loop_brk
      refine VX_go4 (fs := []) (ok 0 _) eqs trivial 100 [] rfl trivial ?_
      exact ⟨.inr rfl, rfl⟩
set_option maxHeartbeats 800000 in
theorem rclimb_ok {leaf : Dig} {B : List Dig} (hf : leaf.length = 32) (hB : All32 B) (hl : B.length ≤ 100000) (m : Nat) (hm : m < 4294967296) : FnOk Tryd.prog tb 57 [61, 24, 32, 34] [24] [.nilp, dgE leaf, .int m, dsE B] [dgE (climbB leaf m B)] := by
  refine FnOk_of_V (fn := Tryd.f57) (bt := 4) (ok 0 _) Tryd.func57 rfl rfl rfl (by decide) fun hw => ?_
  clear hw
  apply V_of_VX
  have hlm : (B.map dgE).length = B.length := by simp
  unfold climbB
  have hup : upTo B ≤ 32 ∧ upTo B ≤ B.length := by unfold upTo; split <;> omega
  have hue : ∀ i, i ≤ upTo B → (i < upTo B ↔ i < B.length ∧ i < 32) := fun i h => by unfold upTo at h ⊢; split at h <;> split <;> omega
  generalize upTo B = N at hup hue
  refine VX_go4 (fs := []) (ok 0 _) eqs trivial 100 [] rfl trivial ?_
  refine VX_loopA (fun i : Nat => i ≤ N) (fun i => [(9, .t 3 (.e (.int i))), (8, .ptr 1 []), (5, .ptr 0 []), (3, .t 34 (.e (dsE B))), (2, .t 32 (.e (.int m))), (0, .t 61 (.e .nilp))])
    (fun i => [.tree 24 (.e (dgE (clB leaf m B i))), .tree 24 (.e (dgE z0))]) (fun i => N - i) 0 (by omega) ?_ ?_
  · exact wk1 rfl rfl (by simp [Blk.under, T.under]) (lc (ls rfl rfl) (lc (ls rfl rfl) (lc (ls rfl rfl) (lc (ls rfl rfl) (lc (ls rfl rfl) (lc (ls rfl rfl) lnil))))))
  · intro i hi
    have hui := hue i hi
    refine VX_go4 (fs := []) (ok 0 _) eqs trivial 100 [] rfl trivial ?_
    by_cases hlt : i < N
    · obtain ⟨hib, hi32⟩ := hui.1 hlt
      refine VX_known 14 true rfl rfl (by simp; omega) ?_
      refine VX_go4 (fs := []) (ok 0 _) eqs trivial 100 [] rfl trivial ?_
      refine VX_known 17 true rfl rfl (by simp; omega) ?_
      have ei : IntKind.wrap .i64 ((i : Int) + 1) = ((i + 1 : Nat) : Int) := by rw [w64 (by omega) (by omega)]; simp
      have hg : (B.map dgE).getD i .nilp = dgE (B.getD i []) := dsE_get hib []
      have hc := clB_length hf m B i
      have hb : (B.getD i []).length = 32 := by rw [getD_any (by omega) [] z0]; exact getD_all hB z0_length i
      have hnx : clB leaf m B (i + 1) = if bitB m i = true then nodeB (B.getD i []) (clB leaf m B i) else nodeB (clB leaf m B i) (B.getD i []) := rfl
      have c0 := (bit_ok m i (by omega)).g
      have c1 := (rtwo_ok hb hc).g
      have c2 := (rtwo_ok hc hb).g
      generalize nodeB (B.getD i []) (clB leaf m B i) = R1 at c1 hnx
      generalize nodeB (clB leaf m B i) (B.getD i []) = R2 at c2 hnx
      generalize clB leaf m B i = cur at c1 c2 ⊢
      generalize B.getD i [] = b at c1 c2 hg
      generalize bitB m i = bt at hnx c0
      refine VX_go4 (fs := []) (ok 0 _) eqs trivial 100 [] rfl trivial ?_
      refine VX_callD (ok 0 _) [32, 3] [] rfl rfl rfl rfl rfl rfl c0 rfl rfl rfl ?_
      cases bt with
      | true =>
        rw [if_pos rfl] at hnx
        refine VX_known 22 true rfl rfl rfl ?_
        refine VX_go4 (fs := []) (ok 0 _) eqs trivial 100 [] rfl trivial ?_
        refine VX_draw [] [(0, true), (1, true), (2, true), (3, true), (4, true), (5, true), (6, false), (7, false)] mixed (by kernel_rfl) (by kernel_rfl) (by kernel_rfl) ?_
        refine VX_go4 (fs := []) (ok 0 _) eqs trivial 100 [28] rfl (by simp [allP]; omega) ?_
        refine VX_eq 27 rfl rfl (d' := .t 24 (.e (dgE b))) (congrArg (fun x => D.t 24 (.e x)) hg) ?_
        refine VX_go4 (fs := []) (ok 0 _) eqs trivial 100 [] rfl trivial ?_
        refine VX_callO (ok 0 _) [61, 5, 24, 24] [] rfl rfl rfl rfl rfl rfl rfl rfl c1 rfl rfl rfl ?_
        refine VX_ts [0] (by kernel_rfl) ?_
        refine VX_storeO (ok 0 _) rfl rfl rfl rfl rfl rfl (by simp) ?_
        refine VX_go4 (fs := []) (ok 0 _) eqs trivial 100 [] rfl trivial ?_
        refine loop_nrm ⟨i + 1, by omega, by omega, ?_⟩
        exact wk1 (by rw [hnx]; rfl) rfl (by simp [Blk.under, T.under]) (lc (li (by rw [ei])) (lc (ls rfl rfl) (lc (ls rfl rfl) (lc (ls rfl rfl) (lc (ls rfl rfl) (lc (ls rfl rfl) lnil))))))
      | false =>
        rw [if_neg (by decide)] at hnx
        refine VX_known 22 false rfl rfl rfl ?_
        refine VX_go4 (fs := []) (ok 0 _) eqs trivial 100 [] rfl trivial ?_
        refine VX_draw [] [(0, true), (1, true), (2, true), (3, true), (4, true), (5, true), (6, false), (7, false)] mixed (by kernel_rfl) (by kernel_rfl) (by kernel_rfl) ?_
        refine VX_go4 (fs := []) (ok 0 _) eqs trivial 100 [36] rfl (by simp [allP]; omega) ?_
        refine VX_eq 35 rfl rfl (d' := .t 24 (.e (dgE b))) (congrArg (fun x => D.t 24 (.e x)) hg) ?_
        refine VX_callO (ok 0 _) [61, 5, 24, 24] [] rfl rfl rfl rfl rfl rfl rfl rfl c2 rfl rfl rfl ?_
        refine VX_ts [0] (by kernel_rfl) ?_
        refine VX_storeO (ok 0 _) rfl rfl rfl rfl rfl rfl (by simp) ?_
        refine VX_go4 (fs := []) (ok 0 _) eqs trivial 100 [] rfl trivial ?_
        refine loop_nrm ⟨i + 1, by omega, by omega, ?_⟩
        exact wk1 (by rw [hnx]; rfl) rfl (by simp [Blk.under, T.under]) (lc (li (by rw [ei])) (lc (ls rfl rfl) (lc (ls rfl rfl) (lc (ls rfl rfl) (lc (ls rfl rfl) (lc (ls rfl rfl) lnil))))))
    · have hi' : i = N := by omega
      subst hi'
      have hno : ¬ (i < B.length ∧ i < 32) := fun h => hlt (hui.2 h)
      generalize clB leaf m B i = cur
      by_cases hib : i < B.length
      · refine VX_known 14 true rfl rfl (by simp; omega) ?_
        refine VX_go4 (fs := []) (ok 0 _) eqs trivial 100 [] rfl trivial ?_
        refine VX_known 17 false rfl rfl (by simp; omega) ?_
        refine VX_go4 (fs := []) (ok 0 _) eqs trivial 100 [] rfl trivial ?_
        apply loop_brk
        refine VX_go4 (fs := []) (ok 0 _) eqs trivial 100 [] rfl trivial ?_
        exact ⟨.inr rfl, rfl⟩
      · refine VX_known 14 false rfl rfl (by simp; omega) ?_
        refine VX_go4 (fs := []) (ok 0 _) eqs trivial 100 [] rfl trivial ?_
        apply loop_brk
        refine VX_go4 (fs := []) (ok 0 _) eqs trivial 100 [] rfl trivial ?_
        exact ⟨.inr rfl, rfl⟩
theorem eqEs_bytes : ∀ (a b : List UInt8), eqEs (a.map byteE) (b.map byteE) = decide (a = b)
  | [], [] => by simp [eqEs]
  | [], b :: bs => by simp [eqEs]
  | a :: xs, [] => by simp [eqEs]
  | a :: xs, b :: bs => by
    have h1 : decide ((a.toNat : Int) = (b.toNat : Int)) = decide (a = b) := by
      congr 1; apply propext
      constructor
      · intro h; exact UInt8.toNat_inj.1 (by omega)
      · intro h; rw [h]
    simp only [List.map_cons, eqEs, byteE, eqE, eqEs_bytes xs bs, h1]
    by_cases h : a = b <;> by_cases h2 : xs = bs <;> simp [h, h2]
theorem eqDgD (a b : Dig) : eqE (dgE a) (dgE b) = decide (a = b) := by simp only [dgE, eqE, eqEs_bytes]
def provesB (root leaf : Dig) (m : Nat) (B : List Dig) : Bool := decide (B.length = 32) && decide (climbB leaf m B = root)
theorem proves_ok {root leaf : Dig} {B : List Dig} (hf : leaf.length = 32) (hB : All32 B) (hl : B.length ≤ 100000) (m : Nat) (hm : m < 4294967296) :
    FnOk Tryd.prog tb 35 [78, 24, 24, 32, 34] [4] [.nilp, dgE root, dgE leaf, .int m, dsE B] [.bool (provesB root leaf m B)] := by
  refine FnOk_of_V (fn := Tryd.f35) (bt := 4) (ok 0 _) Tryd.func35 rfl rfl rfl (by decide) fun hw => ?_
  clear hw
  apply V_of_VX
  have hlm : (B.map dgE).length = B.length := by simp
  have c1 := (climb_ok hf hB hl m hm).g
  unfold provesB
  have he := eqDgD (climbB leaf m B) root
  generalize climbB leaf m B = c at c1 he ⊢
  rw [← he]
  clear he
  refine VX_go4 (fs := []) (ok 0 _) eqs trivial 100 [] rfl trivial ?_
  refine VX_draw [] [(0, true), (1, true), (2, true), (3, true), (4, true), (5, true), (6, true), (7, true), (9, true), (8, false), (10, true), (11, true), (12, true)] mixed (by kernel_rfl) (by kernel_rfl) (by kernel_rfl) ?_
  refine VX_go4 (fs := []) (ok 0 _) eqs trivial 100 [] rfl trivial ?_
  refine VX_split 14 rfl rfl (fun h => ?_) (fun h => ?_)
  · have h1 : B.length = 32 := by simp at h; omega
    rw [decide_eq_true h1, Bool.true_and]
    refine VX_go4 (fs := []) (ok 0 _) eqs trivial 100 [] rfl trivial ?_
    refine VX_callO (ok 0 _) [78, 24, 32, 34] [] rfl rfl rfl rfl rfl rfl rfl rfl c1 rfl rfl rfl ?_
    refine VX_go4 (fs := []) (ok 0 _) eqs trivial 100 [] rfl trivial ?_
    exact ⟨.inr rfl, rfl⟩
  · have h1 : ¬ B.length = 32 := by simp at h; omega
    rw [decide_eq_false h1, Bool.false_and]
    refine VX_go4 (fs := []) (ok 0 _) eqs trivial 100 [] rfl trivial ?_
    exact ⟨.inr rfl, rfl⟩
theorem rproves_ok {root leaf : Dig} {B : List Dig} (hf : leaf.length = 32) (hB : All32 B) (hl : B.length ≤ 100000) (m : Nat) (hm : m < 4294967296) :
    FnOk Tryd.prog tb 38 [61, 24, 24, 32, 34] [4] [.nilp, dgE root, dgE leaf, .int m, dsE B] [.bool (provesB root leaf m B)] := by
  refine FnOk_of_V (fn := Tryd.f38) (bt := 4) (ok 0 _) Tryd.func38 rfl rfl rfl (by decide) fun hw => ?_
  clear hw
  apply V_of_VX
  have hlm : (B.map dgE).length = B.length := by simp
  have c1 := (rclimb_ok hf hB hl m hm).g
  unfold provesB
  have he := eqDgD (climbB leaf m B) root
  generalize climbB leaf m B = c at c1 he ⊢
  rw [← he]
  clear he
  refine VX_go4 (fs := []) (ok 0 _) eqs trivial 100 [] rfl trivial ?_
  refine VX_split 13 rfl rfl (fun h => ?_) (fun h => ?_)
  · have h1 : ¬ B.length = 32 := by simp at h; omega
    rw [decide_eq_false h1, Bool.false_and]
    refine VX_go4 (fs := []) (ok 0 _) eqs trivial 100 [] rfl trivial ?_
    exact ⟨.inr rfl, rfl⟩
  · have h1 : B.length = 32 := by simp at h; omega
    rw [decide_eq_true h1, Bool.true_and]
    refine VX_go4 (fs := []) (ok 0 _) eqs trivial 100 [] rfl trivial ?_
    refine VX_draw [] [(0, true), (1, true), (2, true), (3, true), (5, true), (4, false), (6, true), (7, true)] mixed (by kernel_rfl) (by kernel_rfl) (by kernel_rfl) ?_
    refine VX_go4 (fs := []) (ok 0 _) eqs trivial 100 [] rfl trivial ?_
    refine VX_callO (ok 0 _) [61, 24, 32, 34] [] rfl rfl rfl rfl rfl rfl rfl rfl c1 rfl rfl rfl ?_
    refine VX_go4 (fs := []) (ok 0 _) eqs trivial 100 [] rfl trivial ?_
    exact ⟨.inr rfl, rfl⟩
theorem sameList_ok {L : List Dig} (hl : L.length ≤ 100000) : FnOk Tryd.prog tb 32 [34, 34] [4] [dsE L, dsE L] [.bool true] := by
  refine FnOk_of_V (fn := Tryd.f32) (bt := 4) (ok 0 _) Tryd.func32 rfl rfl rfl (by decide) fun hw => ?_
  clear hw
  apply V_of_VX
  have hlm : (L.map dgE).length = L.length := by simp
  refine VX_go4 (fs := []) (ok 0 _) eqs trivial 100 [] rfl trivial ?_
  refine VX_known 10 false rfl rfl (by simp) ?_
  refine VX_go4 (fs := []) (ok 0 _) eqs trivial 100 [] rfl trivial ?_
  refine VX_loopA (fun i : Nat => i ≤ L.length) (fun i => [(13, .t 3 (.e (.int i))), (12, .t 3 (.e (.int L.length))), (0, .t 34 (.e (dsE L))), (1, .t 34 (.e (dsE L)))]) (fun _ => []) (fun i => L.length - i) 0 (by omega) ?_ ?_
  · exact wk1 rfl rfl (by simp) (lc (ls rfl rfl) (lc (li (by rw [hlm])) (lc (ls rfl rfl) (lc (ls rfl rfl) lnil))))
  · intro i hi
    refine VX_go4 (fs := []) (ok 0 _) eqs trivial 100 [] rfl trivial ?_
    refine VX_split 14 rfl rfl (fun h => ?_) (fun h => ?_)
    · have hi : i < L.length := by simpa using h
      have ei : IntKind.wrap .i64 ((i : Int) + 1) = ((i + 1 : Nat) : Int) := by rw [w64 (by omega) (by omega)]; simp
      have hg := dsE_get (z := []) hi
      generalize L.getD i [] = d at hg
      refine VX_go4 (fs := []) (ok 0 _) eqs trivial 100 [] rfl trivial ?_
      refine VX_draw [] [(0, true), (1, true), (2, true), (3, true), (4, true), (5, true), (6, true), (7, true), (8, true)] mixed (by kernel_rfl) (by kernel_rfl) (by kernel_rfl) ?_
      refine VX_go4 (fs := []) (ok 0 _) eqs trivial 100 [24] rfl (by simp [allP]; omega) ?_
      refine VX_eq 19 rfl rfl (d' := .t 24 (.e (dgE d))) (congrArg (fun x => D.t 24 (.e x)) hg) ?_
      refine VX_eq 23 rfl rfl (d' := .t 24 (.e (dgE d))) (congrArg (fun x => D.t 24 (.e x)) hg) ?_
      refine VX_go4 (fs := []) (ok 0 _) eqs trivial 100 [] rfl trivial ?_
      refine VX_known 24 false rfl rfl (by rw [eqDg]; rfl) ?_
      refine VX_go4 (fs := []) (ok 0 _) eqs trivial 100 [] rfl trivial ?_
      refine loop_nrm ⟨i + 1, by omega, by omega, ?_⟩
      exact wk1 rfl rfl (by simp) (lc (li (by rw [ei])) (lc (ls rfl rfl) (lc (ls rfl rfl) (lc (ls rfl rfl) lnil))))
    · refine VX_go4 (fs := []) (ok 0 _) eqs trivial 100 [] rfl trivial ?_
      apply loop_brk
      refine VX_go4 (fs := []) (ok 0 _) eqs trivial 100 [] rfl trivial ?_
      exact ⟨.inr rfl, rfl⟩
end Go.Den.Q33.Me
/- Pairs in regions that draw: a call, and a list that is written out. -/
namespace Go.Den
open Go
set_option linter.unusedSectionVars false
set_option linter.unusedVariables false
section
variable {C : Cx} {env : Env} {σ : List Blk} {Q : Post}
/-- A call of data beside a list that is written out. -/
theorem VX_callLit (hC : Ok C) {k : List It} {full : List Oper} {ts : List Nat} {i j ti tj : Nat} {oi oj : Oper} {ord : List (Nat × Bool)} {f : FuncId} {xs : Array Operand} {tys : Array TypeId} {pts rts : List TypeId} {args rs : List E} {t : TypeId} {len : Nat} {ps : Array (Nat × Operand)} {d : D} {pp pp' : Prop}
    (hi : full[i]? = some oi) (hj : full[j]? = some oj) (hp : pairB full ((i, false) :: (j, false) :: ord) = true)
    (hwi : wants full env oi = some true) (hwj : wants full env oj = some true) (hdi : oi.dst = some ti) (hdj : oj.dst = some tj) (hti : Nat.blt ti C.n = true) (htj : Nat.blt tj C.n = true) (hne : Nat.beq ti tj = false)
    (hoi : oi.op = .call { callee := .value (.func f), args := xs, argTypes := tys }) (hx : argsE C.tb env pts xs.toList = some args) (h : FnOk C.P C.tb f pts rts args rs)
    (hoj : oj.op = .buildSlice t len ps) (hl : dLit C env σ t len ps.toList = some ⟨pp, d, σ⟩)
    (hwi' : wants full ((tj, d) :: env) oi = some true) (hwj' : wants full ((ti, retD rts rs) :: env) oj = some true)
    (hx' : argsE C.tb ((tj, d) :: env) pts xs.toList = some args) (hl' : dLit C ((ti, retD rts rs) :: env) σ t len ps.toList = some ⟨pp', d, σ⟩)
    (hk : VX C Q (.o full ts ord :: k) .nrm ((tj, d) :: (ti, retD rts rs) :: env) σ) : VX C Q (.o full ts ((i, false) :: (j, false) :: ord) :: k) .nrm env σ := by
  refine VX_pair (di := retD rts rs) (dj := d) hi hj hp hwi hwj (by rw [hdj]; exact hwi') (by rw [hdi]; exact hwj') (by rw [hdi]; exact hti) (by rw [hdj]; exact htj)
    (OpF_callE hC hoi hx h) (dLit_okF hC hoj hl) (by rw [hdj]; exact OpF_callE hC hoi hx' h) (by rw [hdi]; exact dLit_okF hC hoj hl') (by rw [hdi, hdj]; exact swap2 hne) ?_
  rw [hdi, hdj]; exact hk
end
end Go.Den
