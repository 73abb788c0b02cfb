/- The calculus and the walks, part 7: Q33S. -/
import Derived.Test.YtlhmimpbpphchaaDoorP6
import Derived.Shelf.Strings.Repeat
import Derived.Lib.Agree
/- Contracts of another seat, turned to this seat's numbers (port2.py). -/
namespace Go.Den.Q33.Sh
open Go Go.Den Go.Proofs
set_option maxRecDepth 8000
set_option linter.unusedVariables false
def wr (x : Int) : Int := IntKind.wrap .u32 x
def ad (a b : Int) : Int := IntKind.wrap .u32 (a + b)
def rot (x : Int) (k : Nat) : Int := bitop .or .u32 (x.fdiv (2 ^ k)) (IntKind.wrap .u32 (x * 2 ^ (32 - k)))
def x3 (a b c : Int) : Int := bitop .xor .u32 (bitop .xor .u32 a b) c
theorem wr_eq (x : Int) : IntKind.wrap .u32 x = x % 4294967296 := by rw [wrap_eq]
theorem ad_comm (a b : Int) : ad a b = ad b a := by unfold ad; rw [Int.add_comm]
theorem ad_assoc (a b c : Int) : ad (ad a b) c = ad a (ad b c) := by unfold ad; simp only [wr_eq]; omega
theorem or_comm (x y : Int) : bitop .or .u32 x y = bitop .or .u32 y x := by unfold bitop; simp only [BitVec.or_comm]
/-- The turns that the program asks for. -/
def turns : List (Int × Nat) := [(-2, 2), (-6, 6), (-7, 7), (-11, 11), (-13, 13), (-17, 17), (-18, 18), (-19, 19), (-22, 22), (-25, 25)]
theorem rot_ok (x k : Int) (n : Nat) (h : (k, n) ∈ turns) : FnOk Tryd.prog tb 90 [32, 3] [32] [.int x, .int k] [.int (rot x n)] := by
  refine FnOk_of_V (fn := Tryd.f90) (bt := 4) (ok 0 _) Tryd.func90 rfl rfl rfl (by decide) fun hw => ?_
  apply V_of_VX
  have h1 : ∃ m : Nat, bitop .and .u64 (IntKind.wrap .u64 k) 31 = m ∧ m = 32 - n ∧ n ≤ 32 := by
    simp only [turns, List.mem_cons, Prod.mk.injEq, List.not_mem_nil, or_false] at h
    rcases h with ⟨rfl, rfl⟩ | ⟨rfl, rfl⟩ | ⟨rfl, rfl⟩ | ⟨rfl, rfl⟩ | ⟨rfl, rfl⟩ | ⟨rfl, rfl⟩ | ⟨rfl, rfl⟩ | ⟨rfl, rfl⟩ | ⟨rfl, rfl⟩ | ⟨rfl, rfl⟩ <;> exact ⟨_, rfl, rfl, by decide⟩
  obtain ⟨m, hm, hmn, hn⟩ := h1
  refine VX_go4 (fs := []) (ok 0 _) eqs trivial 100 [5] rfl trivial ?_
  refine VX_eq 8 rfl rfl (d' := .t 75 (.e (.int m))) (congrArg (fun x => D.t 75 (.e (.int x))) hm) ?_
  refine VX_go4 (fs := []) (ok 0 _) eqs trivial 100 [15] rfl ?_ ?_
  · simp [allP, arithP]
  have h32 : IntKind.wrap .u64 (32 - (m : Int)) = (n : Int) := by rw [wrap_eq]; simp; omega
  refine VX_eq 14 rfl rfl (d' := .t 75 (.e (.int n))) (congrArg (fun x => D.t 75 (.e (.int x))) h32) ?_
  refine VX_go4 (fs := []) (ok 0 _) eqs trivial 100 [] rfl ?_ ?_
  · simp [allP, arithP]
  refine ⟨.inr rfl, ?_⟩
  have e : rot x n = bitop .or .u32 (IntKind.wrap .u32 (x * 2 ^ (min (m : Int).toNat 32))) (x.fdiv (2 ^ (min (n : Int).toNat 32))) := by
    rw [or_comm]; unfold rot
    rw [Int.toNat_natCast, Int.toNat_natCast, Nat.min_eq_left hn, Nat.min_eq_left (by omega), hmn]
  rw [e]; rfl
theorem turn_ok (x : Int) (n : Nat) (h : n ≤ 32) : FnOk Tryd.prog tb 87 [32, 75] [32] [.int x, .int n] [.int (rot x n)] := by
  refine FnOk_of_V (fn := Tryd.f87) (bt := 4) (ok 0 _) Tryd.func87 rfl rfl rfl (by decide) fun hw => ?_
  apply V_of_VX
  have h32 : IntKind.wrap .u64 (32 - (n : Int)) = ((32 - n : Nat) : Int) := by rw [wrap_eq]; simp; omega
  refine VX_go4 (fs := []) (ok 0 _) eqs trivial 100 [11] rfl ?_ ?_
  · simp [allP, arithP]
  refine VX_eq 10 rfl rfl (d' := .t 75 (.e (.int (32 - n : Nat)))) (congrArg (fun x => D.t 75 (.e (.int x))) h32) ?_
  refine VX_go4 (fs := []) (ok 0 _) eqs trivial 100 [] rfl ?_ ?_
  · simp [allP, arithP]
  refine ⟨.inr rfl, ?_⟩
  have e : rot x n = bitop .or .u32 (x.fdiv (2 ^ (min (n : Int).toNat 32))) (IntKind.wrap .u32 (x * 2 ^ (min (((32 - n : Nat) : Int)).toNat 32))) := by
    unfold rot
    rw [Int.toNat_natCast, Int.toNat_natCast, Nat.min_eq_left h, Nat.min_eq_left (by omega)]
  rw [e]; rfl
def byN (s : List UInt8) (i : Nat) : Nat := (s.getD i 0).toNat
def word (s : List UInt8) (i : Nat) : Int := ((byN s (4 * i) * 16777216 + byN s (4 * i + 1) * 65536 + byN s (4 * i + 2) * 256 + byN s (4 * i + 3) : Nat) : Int)
theorem byN_lt (s : List UInt8) (i : Nat) : byN s i < 256 := UInt8.toNat_lt _
theorem or_add (a b i : Nat) (hb : b < 2 ^ i) (ha : a * 2 ^ i + b < 4294967296) : bitop .or .u32 ((a * 2 ^ i : Nat) : Int) (b : Int) = ((a * 2 ^ i + b : Nat) : Int) := by
  show IntKind.wrap .u32 (BitVec.ofInt 32 ((a * 2 ^ i : Nat) : Int) ||| BitVec.ofInt 32 (b : Int)).toNat = _
  have hb2 : b < 4294967296 := by omega
  have ha2 : a * 2 ^ i < 4294967296 := by omega
  rw [BitVec.toNat_or, BitVec.ofInt_natCast, BitVec.ofInt_natCast, BitVec.toNat_ofNat, BitVec.toNat_ofNat, Nat.mod_eq_of_lt (by simpa using ha2), Nat.mod_eq_of_lt (by simpa using hb2)]
  have := Nat.two_pow_add_eq_or_of_lt hb a
  rw [Nat.mul_comm a (2 ^ i), ← this, wr_eq, Int.emod_eq_of_lt (by omega) (by rw [Nat.mul_comm] at ha; omega)]
theorem word_or (a b c d : Nat) (ha : a < 256) (hb : b < 256) (hc : c < 256) (hd : d < 256) :
    bitop .or .u32 (bitop .or .u32 (bitop .or .u32 (IntKind.wrap .u32 (IntKind.wrap .u32 (a : Int) * 2 ^ 24)) (IntKind.wrap .u32 (IntKind.wrap .u32 (b : Int) * 2 ^ 16))) (IntKind.wrap .u32 (IntKind.wrap .u32 (c : Int) * 2 ^ 8))) (IntKind.wrap .u32 (d : Int)) = ((a * 16777216 + b * 65536 + c * 256 + d : Nat) : Int) := by
  have e : ∀ n : Nat, n < 4294967296 → IntKind.wrap .u32 (n : Int) = n := fun n h => by rw [wr_eq]; omega
  rw [e a (by omega), e b (by omega), e c (by omega), e d (by omega)]
  have e1 : ((a : Int) * 2 ^ 24) = ((a * 2 ^ 24 : Nat) : Int) := by simp
  have e2 : ((b : Int) * 2 ^ 16) = ((b * 2 ^ 16 : Nat) : Int) := by simp
  have e3 : ((c : Int) * 2 ^ 8) = ((c * 2 ^ 8 : Nat) : Int) := by simp
  rw [e1, e2, e3, e _ (by omega), e _ (by omega), e _ (by omega)]
  rw [or_add a (b * 2 ^ 16) 24 (by omega) (by omega)]
  rw [show a * 2 ^ 24 + b * 2 ^ 16 = (a * 2 ^ 8 + b) * 2 ^ 16 by omega, or_add (a * 2 ^ 8 + b) (c * 2 ^ 8) 16 (by omega) (by omega)]
  rw [show (a * 2 ^ 8 + b) * 2 ^ 16 + c * 2 ^ 8 = ((a * 2 ^ 8 + b) * 2 ^ 8 + c) * 2 ^ 8 by omega, or_add _ d 8 (by omega) (by omega)]
theorem word_add (a b c d : Nat) (ha : a < 256) (hb : b < 256) (hc : c < 256) (hd : d < 256) :
    IntKind.wrap .u32 (IntKind.wrap .u32 (IntKind.wrap .u32 (IntKind.wrap .u32 (IntKind.wrap .u32 (a : Int) * 16777216) + IntKind.wrap .u32 (IntKind.wrap .u32 (b : Int) * 65536)) + IntKind.wrap .u32 (IntKind.wrap .u32 (c : Int) * 256)) + IntKind.wrap .u32 (d : Int)) = ((a * 16777216 + b * 65536 + c * 256 + d : Nat) : Int) := by
  simp only [wr_eq]; omega
def sg0 (x : Int) : Int := bitop .xor .u32 (bitop .xor .u32 (rot x 7) (rot x 18)) (x.fdiv (2 ^ 3))
def sg1 (x : Int) : Int := bitop .xor .u32 (bitop .xor .u32 (rot x 17) (rot x 19)) (x.fdiv (2 ^ 10))
def nxt (l : List Int) (i : Nat) : Int := ad (ad (ad (l.getD (i - 16) 0) (sg0 (l.getD (i - 15) 0))) (l.getD (i - 7) 0)) (sg1 (l.getD (i - 2) 0))
def stepW (s : List UInt8) (l : List Int) (i : Nat) : List Int := l.set i (if i < 16 then word s i else nxt l i)
def sch (s : List UInt8) : Nat → List Int
  | 0 => List.replicate 64 0
  | i + 1 => stepW s (sch s i) i
theorem sch_length (s : List UInt8) : ∀ i, (sch s i).length = 64
  | 0 => by simp [sch]
  | i + 1 => by simp [sch, stepW, sch_length s i]
def aE (l : List Int) : E := .agg (l.map E.int)
theorem aE_child (l : List Int) (i : Nat) (h : i < l.length) : childE i (aE l) = .int (l.getD i 0) := by simp [aE, childE, List.getD, h]
theorem aE_set (l : List Int) (i : Nat) (x : Int) : T.e (aE (l.set i x)) = setT [i] (.e (.int x)) (.e (aE l)) := by
  simp [aE, setT, putChild, List.map_set]
theorem four (s : List UInt8) (j : Nat) (h : j + 4 ≤ s.length) : (s.take (j + 4)).drop j = [s.getD j 0, s.getD (j + 1) 0, s.getD (j + 2) 0, s.getD (j + 3) 0] := by
  apply List.ext_getElem
  · simp; omega
  · intro i h1 h2
    have hi : i < 4 := by simpa using h2
    have : i = 0 ∨ i = 1 ∨ i = 2 ∨ i = 3 := by omega
    rcases this with rfl | rfl | rfl | rfl <;> simp [List.getD, show j < s.length by omega, show j + 1 < s.length by omega, show j + 2 < s.length by omega, show j + 3 < s.length by omega]
end Go.Den.Q33.Sh
namespace Go.Den.Q33.Sh
open Go Go.Den Go.Proofs
set_option maxRecDepth 8000
set_option linter.unusedVariables false
theorem rotC (x k : Int) (n : Nat) (h : (k, n) ∈ turns) : FnG Tryd.prog tb 90 [] (typed [32, 3] [.int x, .int k]) (fun d s => d = retD [32] [.int (rot x n)] ∧ s = []) := (rot_ok x k n h).g
theorem i64s (i k : Nat) (h : k ≤ i) (hi : i ≤ 1000000) : IntKind.wrap .i64 ((i : Int) - (k : Int)) = ((i - k : Nat) : Int) := by rw [w64 (by omega) (by omega)]; omega
theorem schedule_ok (s : List UInt8) (hs : s.length = 64) : FnOk Tryd.prog tb 89 [9] [151] [.str s] [aE (sch s 64)] := by
  refine FnOk_of_V (fn := Tryd.f89) (bt := 4) (ok 0 _) Tryd.func89 rfl rfl rfl (by decide) fun hw => ?_
  apply V_of_VX
  refine VX_go4 (fs := []) (ok 0 _) eqs trivial 100 [] rfl trivial ?_
  refine VX_loopA (fun i : Nat => i ≤ 64) (fun i => [(10, .t 3 (.e (.int i))), (3, .ptr 1 []), (2, .ptr 0 []), (0, .t 9 (.e (.str s)))])
    (fun i => [.tree 151 (.e (aE (List.replicate 64 0))), .tree 151 (.e (aE (sch s i)))]) (fun i => 64 - i) 0 (by simp) ?_ ?_
  · exact wk1 rfl rfl (by simp [Blk.under, T.under]) (lc (ls rfl rfl) (lc (ls rfl rfl) (lc (ls rfl rfl) (lc (ls rfl rfl) lnil))))
  · intro i hi
    refine VX_go4 (fs := []) (ok 0 _) eqs trivial 100 [] rfl trivial ?_
    have hsl := sch_length s i
    refine VX_split 11 rfl rfl (fun h => ?_) (fun h => ?_)
    · have hi : i < 64 := by simp at h; omega
      have ei : IntKind.wrap .i64 ((i : Int) + 1) = ((i + 1 : Nat) : Int) := by rw [w64 (by omega) (by omega)]; simp
      refine VX_go4 (fs := []) (ok 0 _) eqs trivial 100 [] rfl trivial ?_
      refine VX_split 14 rfl rfl (fun h => ?_) (fun h => ?_)
      · have h16 : i < 16 := by simp at h; omega
        have e17 : IntKind.wrap .i64 (4 * (i : Int)) = ((4 * i : Nat) : Int) := by rw [w64 (by omega) (by omega)]; simp
        have e20 : IntKind.wrap .i64 (IntKind.wrap .i64 (4 * (i : Int)) + 4) = ((4 * i + 4 : Nat) : Int) := by rw [e17, w64 (by omega) (by omega)]; simp
        refine VX_go4 (fs := []) (ok 0 _) eqs trivial 100 [21] rfl trivial ?_
        refine VX_eq 17 rfl rfl (d' := .t 3 (.e (.int (4 * i : Nat)))) (congrArg (fun x => D.t 3 (.e (.int x))) e17) ?_
        refine VX_eq 20 rfl rfl (d' := .t 3 (.e (.int (4 * i + 4 : Nat)))) (congrArg (fun x => D.t 3 (.e (.int x))) e20) ?_
        refine VX_go4 (fs := []) (ok 0 _) eqs trivial 100 [5] rfl ?_ ?_
        · simp [allP]; omega
        refine VX_eq 21 rfl rfl (d' := .t 9 (.e (.str [s.getD (4 * i) 0, s.getD (4 * i + 1) 0, s.getD (4 * i + 2) 0, s.getD (4 * i + 3) 0]))) (congrArg (fun x => D.t 9 (.e (.str x))) (four s (4 * i) (by omega))) ?_
        refine VX_go4 (fs := []) (ok 0 _) eqs trivial 100 [] rfl trivial ?_
        refine VX_draw [1] [(0, true), (1, true), (2, true), (3, true), (4, true), (5, true), (6, true), (7, true), (8, true), (9, true), (10, true), (11, true), (12, true), (13, true), (14, true), (15, true), (16, true), (17, true), (18, true), (19, true), (20, false)] mixed (by kernel_rfl) (by kernel_rfl) (by kernel_rfl) ?_
        refine VX_go4 (fs := []) (ok 0 _) eqs trivial 100 [41] rfl ?_ ?_
        · simp [allP, arithP]
        have hword : _ = word s i := word_or (byN s (4 * i)) (byN s (4 * i + 1)) (byN s (4 * i + 2)) (byN s (4 * i + 3)) (byN_lt _ _) (byN_lt _ _) (byN_lt _ _) (byN_lt _ _)
        refine VX_eq 40 rfl rfl (d' := .t 32 (.e (.int (word s i)))) (congrArg (fun x => D.t 32 (.e (.int x))) hword) ?_
        refine VX_go4 (fs := []) (ok 0 _) eqs trivial 100 [] rfl ?_ ?_
        · simp [allP]; omega
        refine VX_storeO (ok 0 _) rfl rfl rfl rfl rfl rfl (by simp) ?_
        refine VX_go4 (fs := []) (ok 0 _) eqs trivial 100 [] rfl trivial ?_
        refine loop_nrm ⟨i + 1, by omega, by omega, ?_⟩
        have he : T.e (aE (sch s (i + 1))) = setT [i] (.e (.int (word s i))) (.e (aE (sch s i))) := by
          rw [← aE_set]; simp only [sch, stepW, if_pos h16]
        exact wk1 (by rw [he]; rfl) rfl (by simp [Blk.under, T.under]) (lc (li (by rw [ei])) (lc (ls rfl rfl) (lc (ls rfl rfl) (lc (ls rfl rfl) lnil))))
      · have h16 : ¬ i < 16 := by simp at h; omega
        refine VX_go4 (fs := []) (ok 0 _) eqs trivial 100 [] rfl trivial ?_
        have gc : ∀ k, 1 ≤ k → k ≤ 16 → childE (i - k) (aE (sch s i)) = .int ((sch s i).getD (i - k) 0) := fun k h1 h2 => aE_child _ _ (by omega)
        refine VX_draw [] [(0, true), (1, true), (2, true), (3, true), (4, true), (5, true), (6, true), (7, true), (8, true), (9, true)] mixed (by kernel_rfl) (by kernel_rfl) (by kernel_rfl) ?_
        refine VX_go4 (fs := []) (ok 0 _) eqs trivial 100 [44] rfl trivial ?_
        refine VX_eq 43 rfl rfl (d' := .t 3 (.e (.int (i - 15 : Nat)))) (congrArg (fun x => D.t 3 (.e (.int x))) (i64s i 15 (by omega) (by omega))) ?_
        refine VX_go4 (fs := []) (ok 0 _) eqs trivial 100 [46] rfl ?_ ?_
        · simp [allP]; omega
        refine VX_eq 45 rfl rfl (d' := .t 32 (.e (.int ((sch s i).getD (i - 15) 0)))) (congrArg (fun x => D.t 32 (.e x)) (gc 15 (by omega) (by omega))) ?_
        refine VX_go4 (fs := []) (ok 0 _) eqs trivial 100 [48] rfl trivial ?_
        refine VX_eq 47 rfl rfl (d' := .t 3 (.e (.int (i - 2 : Nat)))) (congrArg (fun x => D.t 3 (.e (.int x))) (i64s i 2 (by omega) (by omega))) ?_
        refine VX_go4 (fs := []) (ok 0 _) eqs trivial 100 [6] rfl ?_ ?_
        · simp [allP]; omega
        refine VX_eq 49 rfl rfl (d' := .t 32 (.e (.int ((sch s i).getD (i - 2) 0)))) (congrArg (fun x => D.t 32 (.e x)) (gc 2 (by omega) (by omega))) ?_
        generalize hx15 : (sch s i).getD (i - 15) 0 = x15
        generalize hx2 : (sch s i).getD (i - 2) 0 = x2
        refine VX_go4 (fs := []) (ok 0 _) eqs trivial 100 [] rfl trivial ?_
        refine VX_callD (ok 0 _) [32, 3] [] rfl rfl rfl rfl rfl rfl (rotC x15 (-7) 7 (by simp [turns])) rfl rfl rfl ?_
        refine VX_go4 (fs := []) (ok 0 _) eqs trivial 100 [] rfl trivial ?_
        refine VX_callD (ok 0 _) [32, 3] [] rfl rfl rfl rfl rfl rfl (rotC x15 (-18) 18 (by simp [turns])) rfl rfl rfl ?_
        refine VX_go4 (fs := []) (ok 0 _) eqs trivial 100 [8] rfl ?_ ?_
        · simp [allP, arithP]
        refine VX_eq 57 rfl rfl (d' := .t 32 (.e (.int (sg0 x15)))) rfl ?_
        refine VX_go4 (fs := []) (ok 0 _) eqs trivial 100 [] rfl trivial ?_
        refine VX_callD (ok 0 _) [32, 3] [] rfl rfl rfl rfl rfl rfl (rotC x2 (-17) 17 (by simp [turns])) rfl rfl rfl ?_
        refine VX_go4 (fs := []) (ok 0 _) eqs trivial 100 [] rfl trivial ?_
        refine VX_callD (ok 0 _) [32, 3] [] rfl rfl rfl rfl rfl rfl (rotC x2 (-19) 19 (by simp [turns])) rfl rfl rfl ?_
        refine VX_go4 (fs := []) (ok 0 _) eqs trivial 100 [9] rfl ?_ ?_
        · simp [allP, arithP]
        refine VX_eq 65 rfl rfl (d' := .t 32 (.e (.int (sg1 x2)))) rfl ?_
        refine VX_go4 (fs := []) (ok 0 _) eqs trivial 100 [] rfl trivial ?_
        refine VX_draw [] [(0, true), (1, true), (2, true), (3, true), (4, true), (5, true), (6, true), (7, true), (8, true), (9, true), (10, true), (11, true), (12, true), (13, true), (14, true), (15, false)] mixed (by kernel_rfl) (by kernel_rfl) (by kernel_rfl) ?_
        refine VX_go4 (fs := []) (ok 0 _) eqs trivial 100 [69] rfl trivial ?_
        refine VX_eq 68 rfl rfl (d' := .t 3 (.e (.int (i - 16 : Nat)))) (congrArg (fun x => D.t 3 (.e (.int x))) (i64s i 16 (by omega) (by omega))) ?_
        refine VX_go4 (fs := []) (ok 0 _) eqs trivial 100 [71] rfl ?_ ?_
        · simp [allP]; omega
        refine VX_eq 70 rfl rfl (d' := .t 32 (.e (.int ((sch s i).getD (i - 16) 0)))) (congrArg (fun x => D.t 32 (.e x)) (gc 16 (by omega) (by omega))) ?_
        refine VX_go4 (fs := []) (ok 0 _) eqs trivial 100 [75] rfl trivial ?_
        refine VX_eq 74 rfl rfl (d' := .t 3 (.e (.int (i - 7 : Nat)))) (congrArg (fun x => D.t 3 (.e (.int x))) (i64s i 7 (by omega) (by omega))) ?_
        refine VX_go4 (fs := []) (ok 0 _) eqs trivial 100 [77] rfl ?_ ?_
        · simp [allP]; omega
        refine VX_eq 76 rfl rfl (d' := .t 32 (.e (.int ((sch s i).getD (i - 7) 0)))) (congrArg (fun x => D.t 32 (.e x)) (gc 7 (by omega) (by omega))) ?_
        refine VX_go4 (fs := []) (ok 0 _) eqs trivial 100 [80] rfl trivial ?_
        have hnx : ad (ad (ad ((sch s i).getD (i - 16) 0) (sg0 x15)) ((sch s i).getD (i - 7) 0)) (sg1 x2) = nxt (sch s i) i := by rw [← hx15, ← hx2]; rfl
        refine VX_eq 79 rfl rfl (d' := .t 32 (.e (.int (nxt (sch s i) i)))) (congrArg (fun x => D.t 32 (.e (.int x))) hnx) ?_
        refine VX_go4 (fs := []) (ok 0 _) eqs trivial 100 [] rfl ?_ ?_
        · simp [allP]; omega
        refine VX_ts [1] (by kernel_rfl) ?_
        refine VX_storeO (ok 0 _) rfl rfl rfl rfl rfl rfl (by simp) ?_
        refine VX_go4 (fs := []) (ok 0 _) eqs trivial 100 [] rfl trivial ?_
        refine loop_nrm ⟨i + 1, by omega, by omega, ?_⟩
        have he : T.e (aE (sch s (i + 1))) = setT [i] (.e (.int (nxt (sch s i) i))) (.e (aE (sch s i))) := by
          rw [← aE_set]; simp only [sch, stepW, if_neg h16]
        exact wk1 (by rw [he]; rfl) rfl (by simp [Blk.under, T.under]) (lc (li (by rw [ei])) (lc (ls rfl rfl) (lc (ls rfl rfl) (lc (ls rfl rfl) lnil))))
    · have hi' : i = 64 := by simp at h; omega
      subst hi'
      refine VX_go4 (fs := []) (ok 0 _) eqs trivial 100 [] rfl trivial ?_
      apply loop_brk
      refine VX_go4 (fs := []) (ok 0 _) eqs trivial 100 [] rfl trivial ?_
      exact ⟨.inr rfl, rfl⟩
end Go.Den.Q33.Sh
namespace Go.Den.Q33.Sh
open Go Go.Den Go.Proofs
set_option maxRecDepth 8000
set_option linter.unusedVariables false
structure S8 where
  a : Int
  b : Int
  c : Int
  d : Int
  e : Int
  f : Int
  g : Int
  h : Int
def S8.l (s : S8) : List Int := [s.a, s.b, s.c, s.d, s.e, s.f, s.g, s.h]
def S8.E (s : S8) : E := .agg [.int s.a, .int s.b, .int s.c, .int s.d, .int s.e, .int s.f, .int s.g, .int s.h]
def chF (e f g : Int) : Int := bitop .xor .u32 (bitop .and .u32 e f) (bitop .and .u32 (bitop .xor .u32 4294967295 e) g)
def mjF (a b c : Int) : Int := bitop .xor .u32 (bitop .xor .u32 (bitop .and .u32 a b) (bitop .and .u32 a c)) (bitop .and .u32 b c)
def bs1 (e : Int) : Int := bitop .xor .u32 (bitop .xor .u32 (rot e 6) (rot e 11)) (rot e 25)
def bs0 (a : Int) : Int := bitop .xor .u32 (bitop .xor .u32 (rot a 2) (rot a 13)) (rot a 22)
def t1F (s : S8) (k w : Int) : Int := ad (ad (ad (ad s.h (bs1 s.e)) (chF s.e s.f s.g)) k) w
def t2F (s : S8) : Int := ad (bs0 s.a) (mjF s.a s.b s.c)
def rnd (k w : Int) (s : S8) : S8 := ⟨ad (t1F s k w) (t2F s), s.a, s.b, s.c, ad s.d (t1F s k w), s.e, s.f, s.g⟩
def rnds (W : List Int) (s : S8) : Nat → S8
  | 0 => s
  | i + 1 => rnd (kL.getD i 0) (W.getD i 0) (rnds W s i)
def fin (s t : S8) : S8 := ⟨ad s.a t.a, ad s.b t.b, ad s.c t.c, ad s.d t.d, ad s.e t.e, ad s.f t.f, ad s.g t.g, ad s.h t.h⟩
def blk (s : List UInt8) (h : S8) : S8 := if s.length = 64 then fin h (rnds (sch s 64) h 64) else h
theorem kL_child (i : Nat) (h : i < 64) : childE i (.agg (kL.map E.int)) = .int (kL.getD i 0) := aE_child kL i h
def addL (hl sl : List Int) : Nat → List Int
  | 0 => sl
  | i + 1 => (addL hl sl i).set i (ad ((addL hl sl i).getD i 0) (hl.getD i 0))
theorem addL_length (hl sl : List Int) : ∀ i, (addL hl sl i).length = sl.length
  | 0 => rfl
  | i + 1 => by simp [addL, addL_length hl sl i]
theorem addL_fin (h S : S8) : aE (addL h.l S.l 8) = (fin h S).E := by
  obtain ⟨a, b, c, d, e, f, g, x⟩ := h
  obtain ⟨a', b', c', d', e', f', g', x'⟩ := S
  show aE [ad a' a, ad b' b, ad c' c, ad d' d, ad e' e, ad f' f, ad g' g, ad x' x] = _
  simp only [aE, fin, S8.E, List.map_cons, List.map_nil, ad_comm]
theorem block_ok (s : List UInt8) (H : S8) : FnOk Tryd.prog tb 84 [123, 9] [123] [H.E, .str s] [(blk s H).E] := by
  refine FnOk_of_V (fn := Tryd.f84) (bt := 4) (ok 0 _) Tryd.func84 rfl rfl rfl (by decide) fun hw => ?_
  apply V_of_VX
  refine VX_go4 (fs := []) (ok 0 _) eqs trivial 100 [] rfl trivial ?_
  refine VX_split 18 rfl rfl (fun hn => ?_) (fun hn => ?_)
  · have hn : ¬ s.length = 64 := by simp at hn; omega
    refine VX_go4 (fs := []) (ok 0 _) eqs trivial 100 [] rfl trivial ?_
    refine ⟨.inr rfl, ?_⟩
    rw [blk, if_neg hn]; rfl
  have hn : s.length = 64 := by simp at hn; omega
  rw [blk, if_pos hn]
  refine VX_go4 (fs := []) (ok 0 _) eqs trivial 100 [] rfl trivial ?_
  refine VX_callD (ok 0 _) [9] [] rfl rfl rfl rfl rfl rfl (schedule_ok s hn).g rfl rfl rfl ?_
  have hWl := sch_length s 64
  generalize sch s 64 = W at hWl ⊢
  refine VX_go4 (fs := []) (ok 0 _) eqs trivial 100 [] rfl trivial ?_
  refine VX_loopA (fun a : Nat × S8 => a.1 ≤ 64 ∧ rnds W H a.1 = a.2) (fun a => [(23, .t 3 (.e (.int a.1))), (6, .ptr 3 []), (5, .ptr 2 []), (4, .ptr 1 []), (2, .ptr 0 [])])
    (fun a => [.tree 123 (.e H.E), .tree 123 (.e (aE (List.replicate 8 0))), .tree 151 (.e (aE W)), .tree 123 (.e a.2.E)]) (fun a => 64 - a.1) (0, H) (by simp [rnds]) ?_ ?_
  · exact wk1 rfl rfl (by simp [Blk.under, T.under]) (lc (ls rfl rfl) (lc (ls rfl rfl) (lc (ls rfl rfl) (lc (ls rfl rfl) (lc (ls rfl rfl) lnil)))))
  · rintro ⟨i, S⟩ ⟨hi, hS⟩
    simp only at hi hS
    refine VX_go4 (fs := []) (ok 0 _) eqs trivial 100 [] rfl trivial ?_
    refine VX_split 24 rfl rfl (fun h => ?_) (fun h => ?_)
    · have hi : i < 64 := by simp at h; omega
      have ei : IntKind.wrap .i64 ((i : Int) + 1) = ((i + 1 : Nat) : Int) := by rw [w64 (by omega) (by omega)]; simp
      obtain ⟨a, b, c, d, e, f, g, hh⟩ := S
      refine VX_go4 (fs := []) (ok 0 _) eqs trivial 100 [] rfl trivial ?_
      refine VX_draw [] [(0, true), (1, true), (2, true), (3, true), (4, true), (5, true)] mixed (by kernel_rfl) (by kernel_rfl) (by kernel_rfl) ?_
      refine VX_go4 (fs := []) (ok 0 _) eqs trivial 100 [] rfl (by simp [allP]) ?_
      refine VX_callD (ok 0 _) [32, 3] [] rfl rfl rfl rfl rfl rfl (rotC e (-6) 6 (by simp [turns])) rfl rfl rfl ?_
      refine VX_go4 (fs := []) (ok 0 _) eqs trivial 100 [] rfl trivial ?_
      refine VX_callD (ok 0 _) [32, 3] [] rfl rfl rfl rfl rfl rfl (rotC e (-11) 11 (by simp [turns])) rfl rfl rfl ?_
      refine VX_go4 (fs := []) (ok 0 _) eqs trivial 100 [] rfl (by simp [allP, arithP]) ?_
      refine VX_callD (ok 0 _) [32, 3] [] rfl rfl rfl rfl rfl rfl (rotC e (-25) 25 (by simp [turns])) rfl rfl rfl ?_
      refine VX_go4 (fs := []) (ok 0 _) eqs trivial 100 [10] rfl (by simp [allP, arithP]) ?_
      refine VX_eq 37 rfl rfl (d' := .t 32 (.e (.int (bs1 e)))) rfl ?_
      refine VX_go4 (fs := []) (ok 0 _) eqs trivial 100 [11] rfl (by simp [allP, arithP]) ?_
      refine VX_eq 47 rfl rfl (d' := .t 32 (.e (.int (chF e f g)))) rfl ?_
      refine VX_go4 (fs := []) (ok 0 _) eqs trivial 100 [] rfl trivial ?_
      refine VX_draw [] [(0, true), (1, true), (2, true), (3, true), (4, true), (5, true), (6, true), (7, true), (8, true), (9, true), (10, true), (11, true), (12, true), (13, true), (14, true)] mixed (by kernel_rfl) (by kernel_rfl) (by kernel_rfl) ?_
      refine VX_go4 (fs := []) (ok 0 _) eqs trivial 100 [57] rfl (by simp [allP, arithP]; omega) ?_
      refine VX_eq 56 rfl rfl (d' := .t 32 (.e (.int (kL.getD i 0)))) (congrArg (fun x => D.t 32 (.e x)) (kL_child i hi)) ?_
      refine VX_go4 (fs := []) (ok 0 _) eqs trivial 100 [61] rfl (by simp [allP, arithP]; omega) ?_
      refine VX_eq 60 rfl rfl (d' := .t 32 (.e (.int (W.getD i 0)))) (congrArg (fun x => D.t 32 (.e x)) (aE_child W i (by omega))) ?_
      refine VX_go4 (fs := []) (ok 0 _) eqs trivial 100 [12] rfl (by simp [allP, arithP]) ?_
      obtain ⟨t, ht⟩ : ∃ t, t1F ⟨a, b, c, d, e, f, g, hh⟩ (kL.getD i 0) (W.getD i 0) = t := ⟨_, rfl⟩
      refine VX_eq 61 rfl rfl (d' := .t 32 (.e (.int t))) (congrArg (fun x => D.t 32 (.e (.int x))) ht) ?_
      refine VX_go4 (fs := []) (ok 0 _) eqs trivial 100 [] rfl trivial ?_
      refine VX_callD (ok 0 _) [32, 3] [] rfl rfl rfl rfl rfl rfl (rotC a (-2) 2 (by simp [turns])) rfl rfl rfl ?_
      refine VX_go4 (fs := []) (ok 0 _) eqs trivial 100 [] rfl trivial ?_
      refine VX_callD (ok 0 _) [32, 3] [] rfl rfl rfl rfl rfl rfl (rotC a (-13) 13 (by simp [turns])) rfl rfl rfl ?_
      refine VX_go4 (fs := []) (ok 0 _) eqs trivial 100 [] rfl (by simp [allP, arithP]) ?_
      refine VX_callD (ok 0 _) [32, 3] [] rfl rfl rfl rfl rfl rfl (rotC a (-22) 22 (by simp [turns])) rfl rfl rfl ?_
      refine VX_go4 (fs := []) (ok 0 _) eqs trivial 100 [13] rfl (by simp [allP, arithP]) ?_
      refine VX_eq 69 rfl rfl (d' := .t 32 (.e (.int (bs0 a)))) rfl ?_
      refine VX_go4 (fs := []) (ok 0 _) eqs trivial 100 [14] rfl (by simp [allP, arithP]) ?_
      refine VX_eq 84 rfl rfl (d' := .t 32 (.e (.int (mjF a b c)))) rfl ?_
      refine VX_go4 (fs := []) (ok 0 _) eqs trivial 100 [] rfl trivial ?_
      refine VX_draw [3] [(0, true), (1, true), (2, false)] mixed (by kernel_rfl) (by kernel_rfl) (by kernel_rfl) ?_
      refine VX_go4 (fs := []) (ok 0 _) eqs trivial 100 [] rfl (by simp [allP]) ?_
      refine VX_copyO (ok 0 _) rfl rfl rfl rfl rfl rfl (by simp) ?_
      refine VX_go4 (fs := []) (ok 0 _) eqs trivial 100 [] rfl (by simp [allP, arithP]) ?_
      refine loop_nrm ⟨(i + 1, rnd (kL.getD i 0) (W.getD i 0) ⟨a, b, c, d, e, f, g, hh⟩), by simp only; omega, ⟨by simp only; omega, by simp only [rnds, hS]⟩, ?_⟩
      have hE : S8.E (rnd (kL.getD i 0) (W.getD i 0) ⟨a, b, c, d, e, f, g, hh⟩) = .agg [.int (ad (ad t (bs0 a)) (mjF a b c)), .int a, .int b, .int c, .int (ad d t), .int e, .int f, .int g] := by
        rw [ad_assoc]; simp only [rnd, ht, t2F]; rfl
      exact wk1 (by rw [hE]; rfl) rfl (by simp [Blk.under, T.under]) (lc (li (by rw [ei])) (lc (ls rfl rfl) (lc (ls rfl rfl) (lc (ls rfl rfl) (lc (ls rfl rfl) lnil)))))
    · have hi' : i = 64 := by simp at h; omega
      subst hi'
      refine VX_go4 (fs := []) (ok 0 _) eqs trivial 100 [] rfl trivial ?_
      apply loop_brk
      refine VX_go4 (fs := []) (ok 0 _) eqs trivial 100 [] rfl trivial ?_
      rw [hS]
      refine VX_loopA (fun i : Nat => i ≤ 8) (fun i => [(100, .t 3 (.e (.int i))), (6, .ptr 3 []), (4, .ptr 1 []), (2, .ptr 0 [])])
        (fun i => [.tree 123 (.e H.E), .tree 123 (.e (aE (List.replicate 8 0))), .tree 151 (.e (aE W)), .tree 123 (.e (aE (addL H.l S.l i)))]) (fun i => 8 - i) 0 (by simp) ?_ ?_
      · exact wk1 rfl rfl (by simp [Blk.under, T.under]) (lc (ls rfl rfl) (lc (ls rfl rfl) (lc (ls rfl rfl) (lc (ls rfl rfl) lnil))))
      · intro i hi
        refine VX_go4 (fs := []) (ok 0 _) eqs trivial 100 [] rfl trivial ?_
        have hal : (addL H.l S.l i).length = 8 := by rw [addL_length]; rfl
        refine VX_split 101 rfl rfl (fun h => ?_) (fun h => ?_)
        · have hi : i < 8 := by simp at h; omega
          have ei : IntKind.wrap .i64 ((i : Int) + 1) = ((i + 1 : Nat) : Int) := by rw [w64 (by omega) (by omega)]; simp
          refine VX_go4 (fs := []) (ok 0 _) eqs trivial 100 [] rfl trivial ?_
          refine VX_draw [] [(0, true), (1, true), (2, true), (3, true), (4, true), (5, true), (6, true), (7, true), (8, false)] mixed (by kernel_rfl) (by kernel_rfl) (by kernel_rfl) ?_
          refine VX_go4 (fs := []) (ok 0 _) eqs trivial 100 [106] rfl (by simp [allP]; omega) ?_
          refine VX_eq 105 rfl rfl (d' := .t 32 (.e (.int ((addL H.l S.l i).getD i 0)))) (congrArg (fun x => D.t 32 (.e x)) (aE_child _ i (by omega))) ?_
          refine VX_go4 (fs := []) (ok 0 _) eqs trivial 100 [109] rfl (by simp [allP]; omega) ?_
          refine VX_eq 108 rfl rfl (d' := .t 32 (.e (.int (H.l.getD i 0)))) (congrArg (fun x => D.t 32 (.e x)) (aE_child H.l i (by simpa [S8.l] using hi))) ?_
          refine VX_go4 (fs := []) (ok 0 _) eqs trivial 100 [] rfl (by simp [allP]; omega) ?_
          refine VX_ts [3] (by kernel_rfl) ?_
          refine VX_storeO (ok 0 _) rfl rfl rfl rfl rfl rfl (by simp) ?_
          refine VX_go4 (fs := []) (ok 0 _) eqs trivial 100 [] rfl trivial ?_
          refine loop_nrm ⟨i + 1, by omega, by omega, ?_⟩
          have he : T.e (aE (addL H.l S.l (i + 1))) = setT [i] (.e (.int (ad ((addL H.l S.l i).getD i 0) (H.l.getD i 0)))) (.e (aE (addL H.l S.l i))) := by rw [← aE_set]; rfl
          exact wk1 (by rw [he]; rfl) rfl (by simp [Blk.under, T.under]) (lc (li (by rw [ei])) (lc (ls rfl rfl) (lc (ls rfl rfl) (lc (ls rfl rfl) lnil))))
        · have hi' : i = 8 := by simp at h; omega
          subst hi'
          refine VX_go4 (fs := []) (ok 0 _) eqs trivial 100 [] rfl trivial ?_
          apply loop_brk
          refine VX_go4 (fs := []) (ok 0 _) eqs trivial 100 [] rfl trivial ?_
          refine ⟨.inr rfl, ?_⟩
          rw [← addL_fin]; rfl
end Go.Den.Q33.Sh
namespace Go.Den.Q33.Sh
open Go Go.Den Go.Proofs
set_option maxRecDepth 8000
set_option linter.unusedVariables false
set_option linter.unusedSimpArgs false
def bE (s : List UInt8) : E := .sl (s.map byteE)
theorem byE {s : List UInt8} {j : Nat} (h : j < s.length) : (s.map byteE).getD j .nilp = .int (byN s j) := by simp [byN, byteE, List.getD, h]
theorem consts_ok : FnOk Tryd.prog tb 86 [] [151] [] [aE kL] := by
  refine FnOk_of_V (fn := Tryd.f86) (bt := 4) (ok 0 _) Tryd.func86 rfl rfl rfl (by decide) fun hw => ?_
  apply V_of_VX
  refine VX_go4 (fs := []) (ok 0 _) eqs trivial 100 [] rfl trivial ?_
  exact ⟨.inr rfl, rfl⟩
theorem i64a (i k : Nat) (hi : i ≤ 1000000) (hk : k ≤ 1000) : IntKind.wrap .i64 (IntKind.wrap .i64 (4 * (i : Int)) + (k : Int)) = ((4 * i + k : Nat) : Int) := by
  rw [w64 (a := 4 * (i : Int)) (by omega) (by omega), w64 (by omega) (by omega)]; simp
theorem turnC (x : Int) (n : Nat) (h : n ≤ 32) : FnG Tryd.prog tb 87 [] (typed [32, 75] [.int x, .int n]) (fun d s => d = retD [32] [.int (rot x n)] ∧ s = []) := (turn_ok x n h).g
set_option maxHeartbeats 1600000 in
theorem rblock_ok (s : List UInt8) (H : S8) : FnOk Tryd.prog tb 82 [123, 115] [123] [H.E, bE s] [(blk s H).E] := by
  refine FnOk_of_V (fn := Tryd.f82) (bt := 4) (ok 0 _) Tryd.func82 rfl rfl rfl (by decide) fun hw => ?_
  clear hw
  apply V_of_VX
  refine VX_go4 (fs := []) (ok 0 _) eqs trivial 100 [] rfl trivial ?_
  refine VX_split 24 rfl rfl (fun hn => ?_) (fun hn => ?_)
  · have hn : ¬ s.length = 64 := by simp at hn; omega
    refine VX_go4 (fs := []) (ok 0 _) eqs trivial 100 [] rfl trivial ?_
    refine ⟨.inr rfl, ?_⟩
    rw [blk, if_neg hn]; rfl
  have hn : s.length = 64 := by simp at hn; omega
  rw [blk, if_pos hn]
  refine VX_go4 (fs := []) (ok 0 _) eqs trivial 100 [] rfl trivial ?_
  refine VX_callD (ok 0 _) [] [] rfl rfl rfl rfl rfl rfl consts_ok.g rfl rfl rfl ?_
  refine VX_go4 (fs := []) (ok 0 _) eqs trivial 100 [] rfl trivial ?_
  refine VX_loopA (fun i : Nat => i ≤ 16) (fun i => [(7, .t 3 (.e (.int i))), (6, .ptr 3 []), (5, .ptr 2 []), (4, .ptr 1 []), (2, .ptr 0 []), (1, .t 115 (.e (bE s)))])
    (fun i => [.tree 123 (.e H.E), .tree 123 (.e (aE (List.replicate 8 0))), .tree 151 (.e (aE kL)), .tree 151 (.e (aE (sch s i)))]) (fun i => 16 - i) 0 (by simp) ?_ ?_
  · exact wk1 rfl rfl (by simp [Blk.under, T.under]) (lc (ls rfl rfl) (lc (ls rfl rfl) (lc (ls rfl rfl) (lc (ls rfl rfl) (lc (ls rfl rfl) (lc (ls rfl rfl) lnil))))))
  · intro i hi
    have hsl := sch_length s i
    have ei : i ≤ 64 → IntKind.wrap .i64 ((i : Int) + 1) = ((i + 1 : Nat) : Int) := fun h => by rw [w64 (by omega) (by omega)]; simp
    refine VX_go4 (fs := []) (ok 0 _) eqs trivial 100 [] rfl trivial ?_
    refine VX_split 28 rfl rfl (fun h => ?_) (fun h => ?_)
    · have h16 : i < 16 := by simp at h; omega
      have e0 : IntKind.wrap .i64 (4 * (i : Int)) = ((4 * i + 0 : Nat) : Int) := by rw [w64 (by omega) (by omega)]; simp
      refine VX_go4 (fs := []) (ok 0 _) eqs trivial 100 [] rfl trivial ?_
      refine VX_draw [] [(0, true), (1, true), (2, true), (3, true), (4, true), (5, true), (6, true), (7, true), (8, true), (9, true), (10, true), (11, true), (12, true), (13, true), (14, true), (15, true), (16, true), (17, true), (18, true), (19, true), (20, true), (21, true), (22, true), (23, true), (24, true), (25, true), (26, true), (27, true), (28, true), (29, true), (30, true), (31, true), (32, true), (33, true), (34, true), (35, false)] mixed (by kernel_rfl) (by kernel_rfl) (by kernel_rfl) ?_
      refine VX_go4 (fs := []) (ok 0 _) eqs trivial 100 [35] rfl trivial ?_
      refine VX_eq 34 rfl rfl (d' := .t 3 (.e (.int (4 * i + 0 : Nat)))) (congrArg (fun x => D.t 3 (.e (.int x))) e0) ?_
      refine VX_go4 (fs := []) (ok 0 _) eqs trivial 100 [37] rfl (by simp [allP]; omega) ?_
      refine VX_eq 36 rfl rfl (d' := .t 5 (.e (.int (byN s (4 * i + 0))))) (congrArg (fun x => D.t 5 (.e x)) (byE (s := s) (j := 4 * i + 0) (by omega))) ?_
      refine VX_go4 (fs := []) (ok 0 _) eqs trivial 100 [43] rfl trivial ?_
      refine VX_eq 42 rfl rfl (d' := .t 3 (.e (.int (4 * i + 1 : Nat)))) (congrArg (fun x => D.t 3 (.e (.int x))) (i64a i 1 (by omega) (by omega))) ?_
      refine VX_go4 (fs := []) (ok 0 _) eqs trivial 100 [45] rfl (by simp [allP]; omega) ?_
      refine VX_eq 44 rfl rfl (d' := .t 5 (.e (.int (byN s (4 * i + 1))))) (congrArg (fun x => D.t 5 (.e x)) (byE (s := s) (j := 4 * i + 1) (by omega))) ?_
      refine VX_go4 (fs := []) (ok 0 _) eqs trivial 100 [52] rfl trivial ?_
      refine VX_eq 51 rfl rfl (d' := .t 3 (.e (.int (4 * i + 2 : Nat)))) (congrArg (fun x => D.t 3 (.e (.int x))) (i64a i 2 (by omega) (by omega))) ?_
      refine VX_go4 (fs := []) (ok 0 _) eqs trivial 100 [54] rfl (by simp [allP]; omega) ?_
      refine VX_eq 53 rfl rfl (d' := .t 5 (.e (.int (byN s (4 * i + 2))))) (congrArg (fun x => D.t 5 (.e x)) (byE (s := s) (j := 4 * i + 2) (by omega))) ?_
      refine VX_go4 (fs := []) (ok 0 _) eqs trivial 100 [61] rfl trivial ?_
      refine VX_eq 60 rfl rfl (d' := .t 3 (.e (.int (4 * i + 3 : Nat)))) (congrArg (fun x => D.t 3 (.e (.int x))) (i64a i 3 (by omega) (by omega))) ?_
      refine VX_go4 (fs := []) (ok 0 _) eqs trivial 100 [63] rfl (by simp [allP]; omega) ?_
      refine VX_eq 62 rfl rfl (d' := .t 5 (.e (.int (byN s (4 * i + 3))))) (congrArg (fun x => D.t 5 (.e x)) (byE (s := s) (j := 4 * i + 3) (by omega))) ?_
      refine VX_go4 (fs := []) (ok 0 _) eqs trivial 100 [65] rfl (by simp [allP, arithP]) ?_
      have hword : _ = word s i := word_add (byN s (4 * i)) (byN s (4 * i + 1)) (byN s (4 * i + 2)) (byN s (4 * i + 3)) (byN_lt _ _) (byN_lt _ _) (byN_lt _ _) (byN_lt _ _)
      refine VX_eq 64 rfl rfl (d' := .t 32 (.e (.int (word s i)))) (congrArg (fun x => D.t 32 (.e (.int x))) hword) ?_
      refine VX_go4 (fs := []) (ok 0 _) eqs trivial 100 [] rfl (by simp [allP]; omega) ?_
      refine VX_ts [3] (by kernel_rfl) ?_
      refine VX_storeO (ok 0 _) rfl rfl rfl rfl rfl rfl (by simp) ?_
      refine VX_go4 (fs := []) (ok 0 _) eqs trivial 100 [] rfl trivial ?_
      refine loop_nrm ⟨i + 1, by omega, by omega, ?_⟩
      have he : T.e (aE (sch s (i + 1))) = setT [i] (.e (.int (word s i))) (.e (aE (sch s i))) := by
        rw [← aE_set]; simp only [sch, stepW, if_pos h16]
      exact wk1 (by rw [he]; rfl) rfl (by simp [Blk.under, T.under]) (lc (li (by rw [ei (by omega)])) (lc (ls rfl rfl) (lc (ls rfl rfl) (lc (ls rfl rfl) (lc (ls rfl rfl) (lc (ls rfl rfl) lnil))))))
    · have hi' : i = 16 := by simp at h; omega
      subst hi'
      clear h ei hsl hi
      refine VX_go4 (fs := []) (ok 0 _) eqs trivial 100 [] rfl trivial ?_
      apply loop_brk
      refine VX_go4 (fs := []) (ok 0 _) eqs trivial 100 [] rfl trivial ?_
      refine VX_loopA (fun i : Nat => 16 ≤ i ∧ i ≤ 64) (fun i => [(8, .t 3 (.e (.int i))), (6, .ptr 3 []), (5, .ptr 2 []), (4, .ptr 1 []), (2, .ptr 0 [])])
        (fun i => [.tree 123 (.e H.E), .tree 123 (.e (aE (List.replicate 8 0))), .tree 151 (.e (aE kL)), .tree 151 (.e (aE (sch s i)))]) (fun i => 64 - i) 16 (by simp) ?_ ?_
      · exact wk1 rfl rfl (by simp [Blk.under, T.under]) (lc (ls rfl rfl) (lc (ls rfl rfl) (lc (ls rfl rfl) (lc (ls rfl rfl) (lc (ls rfl rfl) lnil)))))
      · rintro i ⟨h16, hi⟩
        have hsl := sch_length s i
        have gc : ∀ k, 1 ≤ k → k ≤ 16 → i < 64 → childE (i - k) (aE (sch s i)) = .int ((sch s i).getD (i - k) 0) := fun k h1 h2 h3 => aE_child _ _ (by omega)
        refine VX_go4 (fs := []) (ok 0 _) eqs trivial 100 [] rfl trivial ?_
        refine VX_split 67 rfl rfl (fun h => ?_) (fun h => ?_)
        · have hi : i < 64 := by simp at h; omega
          have ei : IntKind.wrap .i64 ((i : Int) + 1) = ((i + 1 : Nat) : Int) := by rw [w64 (by omega) (by omega)]; simp
          refine VX_go4 (fs := []) (ok 0 _) eqs trivial 100 [] rfl trivial ?_
          refine VX_draw [] [(0, true), (1, true), (2, true), (3, true), (5, true), (6, true), (7, true), (8, true), (11, true), (12, true), (13, true), (14, true), (15, true), (4, false), (9, false), (10, true), (16, true), (17, true)] mixed (by kernel_rfl) (by kernel_rfl) (by kernel_rfl) ?_
          obtain ⟨x15, hx15⟩ : ∃ x, (sch s i).getD (i - 15) 0 = x := ⟨_, rfl⟩
          refine VX_go4 (fs := []) (ok 0 _) eqs trivial 100 [72] rfl trivial ?_
          refine VX_eq 71 rfl rfl (d' := .t 3 (.e (.int (i - 15 : Nat)))) (congrArg (fun x => D.t 3 (.e (.int x))) (i64s i 15 (by omega) (by omega))) ?_
          refine VX_go4 (fs := []) (ok 0 _) eqs trivial 100 [75] rfl (by simp [allP]; omega) ?_
          refine VX_eq 73 rfl rfl (d' := .t 32 (.e (.int x15))) (congrArg (fun x => D.t 32 (.e x)) ((gc 15 (by omega) (by omega) (by omega)).trans (congrArg E.int hx15))) ?_
          refine VX_go4 (fs := []) (ok 0 _) eqs trivial 100 [77] rfl trivial ?_
          refine VX_eq 76 rfl rfl (d' := .t 3 (.e (.int (i - 15 : Nat)))) (congrArg (fun x => D.t 3 (.e (.int x))) (i64s i 15 (by omega) (by omega))) ?_
          refine VX_go4 (fs := []) (ok 0 _) eqs trivial 100 [81] rfl (by simp [allP]; omega) ?_
          refine VX_eq 78 rfl rfl (d' := .t 32 (.e (.int x15))) (congrArg (fun x => D.t 32 (.e x)) ((gc 15 (by omega) (by omega) (by omega)).trans (congrArg E.int hx15))) ?_
          refine VX_go4 (fs := []) (ok 0 _) eqs trivial 100 [83] rfl trivial ?_
          refine VX_eq 82 rfl rfl (d' := .t 3 (.e (.int (i - 15 : Nat)))) (congrArg (fun x => D.t 3 (.e (.int x))) (i64s i 15 (by omega) (by omega))) ?_
          refine VX_go4 (fs := []) (ok 0 _) eqs trivial 100 [85] rfl (by simp [allP]; omega) ?_
          refine VX_eq 84 rfl rfl (d' := .t 32 (.e (.int x15))) (congrArg (fun x => D.t 32 (.e x)) ((gc 15 (by omega) (by omega) (by omega)).trans (congrArg E.int hx15))) ?_
          refine VX_go4 (fs := []) (ok 0 _) eqs trivial 100 [] rfl (by simp [allP, arithP]) ?_
          refine VX_callO (ok 0 _) [32, 75] [] rfl rfl rfl rfl rfl rfl rfl rfl (turnC x15 7 (by decide)) rfl rfl rfl ?_
          refine VX_go4 (fs := []) (ok 0 _) eqs trivial 100 [] rfl trivial ?_
          refine VX_callO (ok 0 _) [32, 75] [] rfl rfl rfl rfl rfl rfl rfl rfl (turnC x15 18 (by decide)) rfl rfl rfl ?_
          refine VX_go4 (fs := []) (ok 0 _) eqs trivial 100 [9] rfl (by simp [allP, arithP]) ?_
          refine VX_eq 86 rfl rfl (d' := .t 32 (.e (.int (sg0 x15)))) rfl ?_
          refine VX_go4 (fs := []) (ok 0 _) eqs trivial 100 [] rfl trivial ?_
          refine VX_draw [] [(0, true), (1, true), (2, true), (3, true), (5, true), (6, true), (7, true), (8, true), (11, true), (12, true), (13, true), (14, true), (15, true), (4, false), (9, false), (10, true), (16, true), (17, true)] mixed (by kernel_rfl) (by kernel_rfl) (by kernel_rfl) ?_
          obtain ⟨x2, hx2⟩ : ∃ x, (sch s i).getD (i - 2) 0 = x := ⟨_, rfl⟩
          refine VX_go4 (fs := []) (ok 0 _) eqs trivial 100 [89] rfl trivial ?_
          refine VX_eq 88 rfl rfl (d' := .t 3 (.e (.int (i - 2 : Nat)))) (congrArg (fun x => D.t 3 (.e (.int x))) (i64s i 2 (by omega) (by omega))) ?_
          refine VX_go4 (fs := []) (ok 0 _) eqs trivial 100 [92] rfl (by simp [allP]; omega) ?_
          refine VX_eq 90 rfl rfl (d' := .t 32 (.e (.int x2))) (congrArg (fun x => D.t 32 (.e x)) ((gc 2 (by omega) (by omega) (by omega)).trans (congrArg E.int hx2))) ?_
          refine VX_go4 (fs := []) (ok 0 _) eqs trivial 100 [94] rfl trivial ?_
          refine VX_eq 93 rfl rfl (d' := .t 3 (.e (.int (i - 2 : Nat)))) (congrArg (fun x => D.t 3 (.e (.int x))) (i64s i 2 (by omega) (by omega))) ?_
          refine VX_go4 (fs := []) (ok 0 _) eqs trivial 100 [98] rfl (by simp [allP]; omega) ?_
          refine VX_eq 95 rfl rfl (d' := .t 32 (.e (.int x2))) (congrArg (fun x => D.t 32 (.e x)) ((gc 2 (by omega) (by omega) (by omega)).trans (congrArg E.int hx2))) ?_
          refine VX_go4 (fs := []) (ok 0 _) eqs trivial 100 [100] rfl trivial ?_
          refine VX_eq 99 rfl rfl (d' := .t 3 (.e (.int (i - 2 : Nat)))) (congrArg (fun x => D.t 3 (.e (.int x))) (i64s i 2 (by omega) (by omega))) ?_
          refine VX_go4 (fs := []) (ok 0 _) eqs trivial 100 [102] rfl (by simp [allP]; omega) ?_
          refine VX_eq 101 rfl rfl (d' := .t 32 (.e (.int x2))) (congrArg (fun x => D.t 32 (.e x)) ((gc 2 (by omega) (by omega) (by omega)).trans (congrArg E.int hx2))) ?_
          refine VX_go4 (fs := []) (ok 0 _) eqs trivial 100 [] rfl (by simp [allP, arithP]) ?_
          refine VX_callO (ok 0 _) [32, 75] [] rfl rfl rfl rfl rfl rfl rfl rfl (turnC x2 17 (by decide)) rfl rfl rfl ?_
          refine VX_go4 (fs := []) (ok 0 _) eqs trivial 100 [] rfl trivial ?_
          refine VX_callO (ok 0 _) [32, 75] [] rfl rfl rfl rfl rfl rfl rfl rfl (turnC x2 19 (by decide)) rfl rfl rfl ?_
          refine VX_go4 (fs := []) (ok 0 _) eqs trivial 100 [10] rfl (by simp [allP, arithP]) ?_
          refine VX_eq 103 rfl rfl (d' := .t 32 (.e (.int (sg1 x2)))) rfl ?_
          refine VX_go4 (fs := []) (ok 0 _) eqs trivial 100 [] rfl trivial ?_
          refine VX_draw [] [(0, true), (1, true), (2, true), (3, true), (4, true), (5, true), (6, true), (7, true), (8, true), (9, true), (10, true), (11, true), (12, true), (13, true), (14, true), (15, false)] mixed (by kernel_rfl) (by kernel_rfl) (by kernel_rfl) ?_
          refine VX_go4 (fs := []) (ok 0 _) eqs trivial 100 [107] rfl trivial ?_
          refine VX_eq 106 rfl rfl (d' := .t 3 (.e (.int (i - 16 : Nat)))) (congrArg (fun x => D.t 3 (.e (.int x))) (i64s i 16 (by omega) (by omega))) ?_
          refine VX_go4 (fs := []) (ok 0 _) eqs trivial 100 [109] rfl (by simp [allP]; omega) ?_
          refine VX_eq 108 rfl rfl (d' := .t 32 (.e (.int ((sch s i).getD (i - 16) 0)))) (congrArg (fun x => D.t 32 (.e x)) (gc 16 (by omega) (by omega) (by omega))) ?_
          refine VX_go4 (fs := []) (ok 0 _) eqs trivial 100 [113] rfl trivial ?_
          refine VX_eq 112 rfl rfl (d' := .t 3 (.e (.int (i - 7 : Nat)))) (congrArg (fun x => D.t 3 (.e (.int x))) (i64s i 7 (by omega) (by omega))) ?_
          refine VX_go4 (fs := []) (ok 0 _) eqs trivial 100 [115] rfl (by simp [allP]; omega) ?_
          refine VX_eq 114 rfl rfl (d' := .t 32 (.e (.int ((sch s i).getD (i - 7) 0)))) (congrArg (fun x => D.t 32 (.e x)) (gc 7 (by omega) (by omega) (by omega))) ?_
          refine VX_go4 (fs := []) (ok 0 _) eqs trivial 100 [118] rfl trivial ?_
          have hnx : ad (ad (ad ((sch s i).getD (i - 16) 0) (sg0 x15)) ((sch s i).getD (i - 7) 0)) (sg1 x2) = nxt (sch s i) i := by rw [← hx15, ← hx2]; rfl
          refine VX_eq 117 rfl rfl (d' := .t 32 (.e (.int (nxt (sch s i) i)))) (congrArg (fun x => D.t 32 (.e (.int x))) hnx) ?_
          refine VX_go4 (fs := []) (ok 0 _) eqs trivial 100 [] rfl (by simp [allP]; omega) ?_
          refine VX_ts [3] (by kernel_rfl) ?_
          refine VX_storeO (ok 0 _) rfl rfl rfl rfl rfl rfl (by simp) ?_
          refine VX_go4 (fs := []) (ok 0 _) eqs trivial 100 [] rfl trivial ?_
          refine loop_nrm ⟨i + 1, by omega, by omega, ?_⟩
          have he : T.e (aE (sch s (i + 1))) = setT [i] (.e (.int (nxt (sch s i) i))) (.e (aE (sch s i))) := by
            rw [← aE_set]; simp only [sch, stepW, if_neg (show ¬ i < 16 by omega)]
          exact wk1 (by rw [he]; rfl) rfl (by simp [Blk.under, T.under]) (lc (li (by rw [ei])) (lc (ls rfl rfl) (lc (ls rfl rfl) (lc (ls rfl rfl) (lc (ls rfl rfl) lnil)))))
        · have hi' : i = 64 := by simp at h; omega
          subst hi'
          clear h gc hsl hi h16
          refine VX_go4 (fs := []) (ok 0 _) eqs trivial 100 [] rfl trivial ?_
          apply loop_brk
          have hWl := sch_length s 64
          generalize sch s 64 = W at hWl ⊢
          obtain ⟨a0, b0, c0, d0, e0, f0, g0, z0⟩ := H
          refine VX_go4 (fs := []) (ok 0 _) eqs trivial 100 [] rfl trivial ?_
          refine VX_draw [] [(0, true), (1, true), (2, true), (3, true), (4, true), (5, true), (6, true), (7, true), (8, true), (9, true), (10, true), (11, true), (12, true), (13, true), (14, true), (15, true), (16, true), (17, true), (18, true), (19, true), (20, true), (21, true), (22, true), (23, true)] mixed (by kernel_rfl) (by kernel_rfl) (by kernel_rfl) ?_
          refine VX_go4 (fs := []) (ok 0 _) eqs trivial 100 [] rfl (by simp [allP]) ?_
          refine VX_loopA (fun a : Nat × S8 => a.1 ≤ 64 ∧ rnds W ⟨a0, b0, c0, d0, e0, f0, g0, z0⟩ a.1 = a.2) (fun a => [(19, .t 3 (.e (.int a.1))), (18, .t 32 (.e (.int a.2.h))), (17, .t 32 (.e (.int a.2.g))), (16, .t 32 (.e (.int a.2.f))), (15, .t 32 (.e (.int a.2.e))), (14, .t 32 (.e (.int a.2.d))), (13, .t 32 (.e (.int a.2.c))), (12, .t 32 (.e (.int a.2.b))), (11, .t 32 (.e (.int a.2.a))), (6, .ptr 3 []), (5, .ptr 2 []), (4, .ptr 1 []), (2, .ptr 0 [])])
            (fun _ => [.tree 123 (.e (S8.E ⟨a0, b0, c0, d0, e0, f0, g0, z0⟩)), .tree 123 (.e (aE (List.replicate 8 0))), .tree 151 (.e (aE kL)), .tree 151 (.e (aE W))]) (fun a => 64 - a.1) (0, ⟨a0, b0, c0, d0, e0, f0, g0, z0⟩) (by simp [rnds]) ?_ ?_
          · exact wk1 rfl rfl (by simp [Blk.under, T.under]) (lc (ls rfl rfl) (lc (ls rfl rfl) (lc (ls rfl rfl) (lc (ls rfl rfl) (lc (ls rfl rfl) (lc (ls rfl rfl) (lc (ls rfl rfl) (lc (ls rfl rfl) (lc (ls rfl rfl) (lc (ls rfl rfl) (lc (ls rfl rfl) (lc (ls rfl rfl) (lc (ls rfl rfl) lnil)))))))))))))
          · rintro ⟨i, S⟩ ⟨hi, hS⟩
            simp only at hi hS
            refine VX_go4 (fs := []) (ok 0 _) eqs trivial 100 [] rfl trivial ?_
            refine VX_split 136 rfl rfl (fun h => ?_) (fun h => ?_)
            · have hi : i < 64 := by simp at h; omega
              have ei : IntKind.wrap .i64 ((i : Int) + 1) = ((i + 1 : Nat) : Int) := by rw [w64 (by omega) (by omega)]; simp
              obtain ⟨a, b, c, d, e, f, g, hh⟩ := S
              refine VX_go4 (fs := []) (ok 0 _) eqs trivial 100 [] rfl trivial ?_
              refine VX_draw [] [(0, true), (1, true), (3, true), (6, true), (10, true), (11, true), (12, true), (13, true), (14, true), (15, true), (16, true), (17, true), (19, true), (20, true), (21, true), (23, true), (24, true), (25, true), (2, false), (4, false), (5, true), (7, false), (8, true), (9, true), (18, true), (22, true), (26, true), (27, true)] mixed (by kernel_rfl) (by kernel_rfl) (by kernel_rfl) ?_
              refine VX_go4 (fs := []) (ok 0 _) eqs trivial 100 [162] rfl (by simp [allP, arithP]; omega) ?_
              refine VX_eq 160 rfl rfl (d' := .t 32 (.e (.int (kL.getD i 0)))) (congrArg (fun x => D.t 32 (.e x)) (aE_child kL i (show i < 64 from hi))) ?_
              refine VX_go4 (fs := []) (ok 0 _) eqs trivial 100 [141] rfl (by simp [allP, arithP]; omega) ?_
              refine VX_eq 164 rfl rfl (d' := .t 32 (.e (.int (W.getD i 0)))) (congrArg (fun x => D.t 32 (.e x)) (aE_child W i (by omega))) ?_
              refine VX_go4 (fs := []) (ok 0 _) eqs trivial 100 [] rfl trivial ?_
              refine VX_callO (ok 0 _) [32, 75] [] rfl rfl rfl rfl rfl rfl rfl rfl (turnC e 6 (by decide)) rfl rfl rfl ?_
              refine VX_go4 (fs := []) (ok 0 _) eqs trivial 100 [] rfl trivial ?_
              refine VX_callO (ok 0 _) [32, 75] [] rfl rfl rfl rfl rfl rfl rfl rfl (turnC e 11 (by decide)) rfl rfl rfl ?_
              refine VX_go4 (fs := []) (ok 0 _) eqs trivial 100 [] rfl (by simp [allP, arithP]) ?_
              refine VX_callO (ok 0 _) [32, 75] [] rfl rfl rfl rfl rfl rfl rfl rfl (turnC e 25 (by decide)) rfl rfl rfl ?_
              refine VX_go4 (fs := []) (ok 0 _) eqs trivial 100 [20] rfl (by simp [allP, arithP]) ?_
              obtain ⟨t, ht⟩ : ∃ t, t1F ⟨a, b, c, d, e, f, g, hh⟩ (kL.getD i 0) (W.getD i 0) = t := ⟨_, rfl⟩
              refine VX_eq 165 rfl rfl (d' := .t 32 (.e (.int t))) (congrArg (fun x => D.t 32 (.e (.int x))) ht) ?_
              refine VX_go4 (fs := []) (ok 0 _) eqs trivial 100 [] rfl trivial ?_
              refine VX_callD (ok 0 _) [32, 75] [] rfl rfl rfl rfl rfl rfl (turnC a 2 (by decide)) rfl rfl rfl ?_
              refine VX_go4 (fs := []) (ok 0 _) eqs trivial 100 [] rfl trivial ?_
              refine VX_callD (ok 0 _) [32, 75] [] rfl rfl rfl rfl rfl rfl (turnC a 13 (by decide)) rfl rfl rfl ?_
              refine VX_go4 (fs := []) (ok 0 _) eqs trivial 100 [] rfl (by simp [allP, arithP]) ?_
              refine VX_callD (ok 0 _) [32, 75] [] rfl rfl rfl rfl rfl rfl (turnC a 22 (by decide)) rfl rfl rfl ?_
              refine VX_go4 (fs := []) (ok 0 _) eqs trivial 100 [21] rfl (by simp [allP, arithP]) ?_
              refine VX_eq 185 rfl rfl (d' := .t 32 (.e (.int (t2F ⟨a, b, c, d, e, f, g, hh⟩)))) rfl ?_
              refine VX_go4 (fs := []) (ok 0 _) eqs trivial 100 [] rfl (by simp [allP, arithP]) ?_
              refine loop_nrm ⟨(i + 1, rnd (kL.getD i 0) (W.getD i 0) ⟨a, b, c, d, e, f, g, hh⟩), by simp only; omega, ⟨by simp only; omega, by simp only [rnds, hS]⟩, ?_⟩
              have hR : rnd (kL.getD i 0) (W.getD i 0) ⟨a, b, c, d, e, f, g, hh⟩ = ⟨ad t (t2F ⟨a, b, c, d, e, f, g, hh⟩), a, b, c, ad d t, e, f, g⟩ := by simp only [rnd, ht]
              simp only [hR]
              exact wk1 rfl rfl (by simp [Blk.under, T.under]) (lc (li (by rw [ei])) (lc (ls rfl rfl) (lc (ls rfl rfl) (lc (ls rfl rfl) (lc (ls rfl rfl) (lc (ls rfl rfl) (lc (ls rfl rfl) (lc (ls rfl rfl) (lc (ls rfl rfl) (lc (ls rfl rfl) (lc (ls rfl rfl) (lc (ls rfl rfl) (lc (ls rfl rfl) lnil)))))))))))))
            · have hi' : i = 64 := by simp at h; omega
              subst hi'
              refine VX_go4 (fs := []) (ok 0 _) eqs trivial 100 [] rfl trivial ?_
              apply loop_brk
              refine VX_go4 (fs := []) (ok 0 _) eqs trivial 100 [] rfl (by simp [allP]) ?_
              refine ⟨.inr rfl, ?_⟩
              rw [hS]; rfl
end Go.Den.Q33.Sh
namespace Go.Proofs
open Go.Shelf
def Tryd.laysRepeat_ren : Go.Shelf.Ren := ⟨fun | 105 => 85 | 212 => 91 | 99 => 92 | 165 => 93 | 166 => 75 | 170 => 94 | 169 => 77 | 263 => 95 | 264 => 96 | 206 => 97 | 240 => 83 | 241 => 98 | 276 => 88 | 277 => 99 | n => n, fun | 9 => 9 | 3 => 3 | 4 => 4 | 20 => 20 | 0 => 0 | 46 => 75 | 109 => 159 | 5 => 5 | 72 => 130 | 76 => 134 | 51 => 32 | 146 => 164 | 53 => 22 | 148 => 166 | 70 => 128 | 37 => 115 | 75 => 132 | 127 => 148 | 164 => 154 | 80 => 136 | n => n, fun | n => n⟩
theorem Tryd.laysRepeat : Go.Proofs.Lays.n105 Tryd.prog Tryd.laysRepeat_ren := {
  mixed := by kernel_rfl
  f99 := Tryd.func92.trans (congrArg some (by kernel_rfl))
  f105 := Tryd.func85.trans (congrArg some (by kernel_rfl))
  f165 := Tryd.func93.trans (congrArg some (by kernel_rfl))
  f166 := Tryd.func75.trans (congrArg some (by kernel_rfl))
  f169 := Tryd.func77.trans (congrArg some (by kernel_rfl))
  f170 := Tryd.func94.trans (congrArg some (by kernel_rfl))
  f206 := Tryd.func97.trans (congrArg some (by kernel_rfl))
  f212 := Tryd.func91.trans (congrArg some (by kernel_rfl))
  f240 := Tryd.func83.trans (congrArg some (by kernel_rfl))
  f241 := Tryd.func98.trans (congrArg some (by kernel_rfl))
  f263 := Tryd.func95.trans (congrArg some (by kernel_rfl))
  f264 := Tryd.func96.trans (congrArg some (by kernel_rfl))
  f276 := Tryd.func88.trans (congrArg some (by kernel_rfl))
  f277 := Tryd.func99.trans (congrArg some (by kernel_rfl))
  t0 := Tryd.underlying0
  a0 := Tryd.isAgg0
  z0 := Tryd.sizeOf0
  v0 := Tryd.zeroValue0
  t3 := Tryd.underlying3
  a3 := Tryd.isAgg3
  z3 := Tryd.sizeOf3
  v3 := Tryd.zeroValue3
  t4 := Tryd.underlying4
  a4 := Tryd.isAgg4
  z4 := Tryd.sizeOf4
  v4 := Tryd.zeroValue4
  t5 := Tryd.underlying5
  a5 := Tryd.isAgg5
  z5 := Tryd.sizeOf5
  v5 := Tryd.zeroValue5
  t9 := Tryd.underlying9
  a9 := Tryd.isAgg9
  z9 := Tryd.sizeOf9
  v9 := Tryd.zeroValue9
  t20 := Tryd.underlying20
  a20 := Tryd.isAgg20
  z20 := Tryd.sizeOf20
  v20 := Tryd.zeroValue20
  t37 := Tryd.underlying115
  a37 := Tryd.isAgg115
  z37 := Tryd.sizeOf115
  v37 := Tryd.zeroValue115
  t46 := Tryd.underlying75
  a46 := Tryd.isAgg75
  z46 := Tryd.sizeOf75
  v46 := Tryd.zeroValue75
  t51 := Tryd.underlying32
  a51 := Tryd.isAgg32
  z51 := Tryd.sizeOf32
  v51 := Tryd.zeroValue32
  t53 := Tryd.underlying22
  a53 := Tryd.isAgg22
  z53 := Tryd.sizeOf22
  v53 := Tryd.zeroValue22
  t70 := Tryd.underlying128
  a70 := Tryd.isAgg128
  z70 := Tryd.sizeOf128
  v70 := Tryd.zeroValue128
  t72 := Tryd.underlying130
  a72 := Tryd.isAgg130
  z72 := Tryd.sizeOf130
  v72 := Tryd.zeroValue130
  t75 := Tryd.underlying132
  a75 := Tryd.isAgg132
  z75 := Tryd.sizeOf132
  v75 := Tryd.zeroValue132
  t76 := Tryd.underlying134
  a76 := Tryd.isAgg134
  z76 := Tryd.sizeOf134
  v76 := Tryd.zeroValue134
  t109 := Tryd.underlying159
  a109 := Tryd.isAgg159
  z109 := Tryd.sizeOf159
  v109 := Tryd.zeroValue159
  t127 := Tryd.underlying148
  a127 := Tryd.isAgg148
  z127 := Tryd.sizeOf148
  v127 := Tryd.zeroValue148
  t146 := Tryd.underlying164
  a146 := Tryd.isAgg164
  z146 := Tryd.sizeOf164
  v146 := Tryd.zeroValue164
  t148 := Tryd.underlying166
  a148 := Tryd.isAgg166
  z148 := Tryd.sizeOf166
  v148 := Tryd.zeroValue166
  t164 := Tryd.underlying154
  a164 := Tryd.isAgg154
  z164 := Tryd.sizeOf154
  v164 := Tryd.zeroValue154 }
theorem Tryd.extra : Builder.Extra Tryd.prog Tryd.laysRepeat_ren := {
  sizeBuilder := by kernel_rfl
  liesBuilder := by kernel_rfl
  t5 := Tryd.laysRepeat.t5
  a5 := Tryd.laysRepeat.a5
  z5 := Tryd.laysRepeat.z5
  v5 := Tryd.laysRepeat.v5
  infoByte := by kernel_rfl
  cellsByte := by kernel_rfl
  sizeByte := by kernel_rfl
  neB5 := by decide }
end Go.Proofs
namespace Go.Den.Q33.Sh
open Go Go.Den Go.Proofs
theorem repeatL_zero : ∀ n : Nat, Lib.repeatL [0] n = List.replicate n 0
  | 0 => rfl
  | n + 1 => by simp [Lib.repeatL, repeatL_zero n, List.replicate_succ]
theorem repeat_ok (n : Nat) (hn : n ≤ 1000) : FnOk Tryd.prog tb 85 [9, 3] [9] [.str [0], .int n] [.str (List.replicate n 0)] := by
  refine FnOk_of_calls (fn := Tryd.f85) Tryd.func85 rfl rfl rfl fun H w vals hb ha => ?_
  obtain ⟨⟨hsz, _⟩, hrel⟩ := ha
  have h0 : vals.toList.length = 2 := by have : vals.size = 2 := hsz
                                         simpa using this
  obtain ⟨v0, v1, hv⟩ := list2 h0
  obtain ⟨l⟩ := vals
  simp only at hv
  subst hv
  have r0 := hrel 0 v0 _ rfl rfl
  have r1 := hrel 1 v1 _ rfl rfl
  obtain ⟨e0, _⟩ := strAny_rel r0 (s := [0]) rfl
  obtain ⟨e1, _⟩ := intAt_rel (tb := tb) (ty := 3) (k := .i64) (n := (n : Int)) r1 rfl rfl
  subst e0; subst e1
  refine ⟨.string ⟨(Lib.repeatL [0] n).toArray⟩, Any.strings_Repeat Tryd.laysRepeat Tryd.extra ⟨#[0]⟩ n w (by omega) (by simp [ByteArray.size]; omega), ?_⟩
  rw [repeatL_zero]
  exact .mkStr rfl (by simp [maxI]; omega)
end Go.Den.Q33.Sh
namespace Go.Den.Q33.Sh
open Go Go.Den Go.Proofs
set_option maxRecDepth 8000
set_option linter.unusedVariables false
set_option linter.unusedSimpArgs false
/-- All whole blocks of a text, and what is left. -/
def aftN : Nat → S8 → List UInt8 → S8 × List UInt8
  | 0, S, s => (S, s)
  | n + 1, S, s => aftN n (blk (s.take 64) S) (s.drop 64)
def aft (S : S8) (s : List UInt8) : S8 × List UInt8 := aftN (s.length / 64) S s
theorem aft_step (S : S8) (s : List UInt8) (h : 64 ≤ s.length) : aft (blk (s.take 64) S) (s.drop 64) = aft S s := by
  unfold aft
  have : s.length / 64 = (s.drop 64).length / 64 + 1 := by simp; omega
  rw [this]; rfl
theorem aft_small (S : S8) (s : List UInt8) (h : s.length < 64) : aft S s = (S, s) := by
  unfold aft
  rw [show s.length / 64 = 0 by omega]; rfl
def fS : S8 := ⟨1779033703, 3144134277, 1013904242, 2773480762, 1359893119, 2600822924, 528734635, 1541459225⟩
def stE (S : S8) (r : List UInt8) (n : Nat) : E := .agg [S.E, .str r, .int n]
theorem first_ok : FnOk Tryd.prog tb 72 [] [123] [] [fS.E] := by
  refine FnOk_of_V (fn := Tryd.f72) (bt := 4) (ok 0 _) Tryd.func72 rfl rfl rfl (by decide) fun hw => ?_
  apply V_of_VX
  refine VX_go4 (fs := []) (ok 0 _) eqs trivial 100 [] rfl trivial ?_
  exact ⟨.inr rfl, rfl⟩
theorem begin_ok : FnOk Tryd.prog tb 78 [] [138] [] [stE fS [] 0] := by
  refine FnOk_of_V (fn := Tryd.f78) (bt := 4) (ok 0 _) Tryd.func78 rfl rfl rfl (by decide) fun hw => ?_
  apply V_of_VX
  refine VX_go4 (fs := []) (ok 0 _) eqs trivial 100 [] rfl (by simp [allP]) ?_
  exact ⟨.inr rfl, rfl⟩
theorem add_ok (S : S8) (r s : List UInt8) (n : Nat) (hr : r.length ≤ 1000000) (hs : s.length ≤ 1000000) (hn : n < 18446744073709551616) :
    FnOk Tryd.prog tb 79 [138, 9] [138] [stE S r n, .str s] [stE (aft S (r ++ s)).1 (aft S (r ++ s)).2 ((n + s.length) % 18446744073709551616)] := by
  refine FnOk_of_V (fn := Tryd.f79) (bt := 4) (ok 0 _) Tryd.func79 rfl rfl rfl (by decide) fun hw => ?_
  clear hw
  apply V_of_VX
  obtain ⟨m, hm⟩ : ∃ m, (n + s.length) % 18446744073709551616 = m := ⟨_, rfl⟩
  rw [hm]
  have e11 : IntKind.wrap .u64 ((n : Int) + IntKind.wrap .u64 (s.length : Int)) = (m : Int) := by rw [← hm, wrap_eq, wrap_eq]; simp
  refine VX_go4 (fs := []) (ok 0 _) eqs trivial 100 [12] rfl trivial ?_
  refine VX_eq 11 rfl rfl (d' := .t 22 (.e (.int m))) (congrArg (fun x => D.t 22 (.e (.int x))) e11) ?_
  refine VX_go4 (fs := []) (ok 0 _) eqs trivial 100 [] rfl (by simp [allP, maxI]; omega) ?_
  refine VX_loopA (fun a : S8 × List UInt8 => aft a.1 a.2 = aft S (r ++ s)) (fun a => [(5, .t 9 (.e (.str a.2))), (4, .ptr 1 []), (2, .ptr 0 [])])
    (fun a => [.tree 138 (.e (stE a.1 r m)), .tree 138 (.e (stE ⟨0, 0, 0, 0, 0, 0, 0, 0⟩ [] 0))]) (fun a => a.2.length) (S, r ++ s) rfl ?_ ?_
  · exact wk1 rfl rfl (by simp [Blk.under, T.under]) (lc (ls rfl rfl) (lc (ls rfl rfl) (lc (ls rfl rfl) lnil)))
  · rintro ⟨A, x⟩ hA
    simp only at hA
    refine VX_go4 (fs := []) (ok 0 _) eqs trivial 100 [] rfl trivial ?_
    refine VX_split 19 rfl rfl (fun h => ?_) (fun h => ?_)
    · have h64 : 64 ≤ x.length := by simp at h; omega
      refine VX_go4 (fs := []) (ok 0 _) eqs trivial 100 [] rfl trivial ?_
      refine VX_draw [] [(0, true), (1, true), (2, true), (3, true), (4, false), (5, true), (6, false)] mixed (by kernel_rfl) (by kernel_rfl) (by kernel_rfl) ?_
      refine VX_go4 (fs := []) (ok 0 _) eqs trivial 100 [] rfl (by simp [allP]; omega) ?_
      refine VX_eq 23 rfl rfl (d' := .t 9 (.e (.str (x.take 64)))) rfl ?_
      refine VX_callO (ok 0 _) [123, 9] [] rfl rfl rfl rfl rfl rfl rfl rfl (block_ok (x.take 64) A).g rfl rfl rfl ?_
      refine VX_go4 (fs := []) (ok 0 _) eqs trivial 100 [] rfl trivial ?_
      refine VX_ts [0] (by kernel_rfl) ?_
      refine VX_storeO (ok 0 _) rfl rfl rfl rfl rfl rfl (by simp) ?_
      refine VX_go4 (fs := []) (ok 0 _) eqs trivial 100 [5] rfl (by simp [allP]; omega) ?_
      have e27 : (x.take (x.length : Int).toNat).drop (64 : Int).toNat = x.drop 64 := by rw [Int.toNat_natCast, List.take_length]; rfl
      refine VX_eq 27 rfl rfl (d' := .t 9 (.e (.str (x.drop 64)))) (congrArg (fun x => D.t 9 (.e (.str x))) e27) ?_
      refine VX_go4 (fs := []) (ok 0 _) eqs trivial 100 [] rfl trivial ?_
      refine loop_nrm ⟨(blk (x.take 64) A, x.drop 64), by simp; omega, by simp only; rw [aft_step _ _ h64]; exact hA, ?_⟩
      exact wk1 rfl rfl (by simp [Blk.under, T.under]) (lc (ls rfl rfl) (lc (ls rfl rfl) (lc (ls rfl rfl) lnil)))
    · have h64 : x.length < 64 := by simp at h; omega
      rw [← hA, aft_small _ _ h64]
      refine VX_go4 (fs := []) (ok 0 _) eqs trivial 100 [] rfl trivial ?_
      apply loop_brk
      refine VX_go4 (fs := []) (ok 0 _) eqs trivial 100 [] rfl trivial ?_
      exact ⟨.inr rfl, rfl⟩
theorem after_ok (S : S8) (s : List UInt8) (hs : s.length ≤ 10000000) : FnOk Tryd.prog tb 71 [123, 115] [123, 115] [S.E, bE s] [(aft S s).1.E, bE (aft S s).2] := by
  refine FnOk_of_V (fn := Tryd.f71) (bt := 4) (ok 0 _) Tryd.func71 rfl rfl rfl (by decide) fun hw => ?_
  clear hw
  apply V_of_VX
  refine VX_go4 (fs := []) (ok 0 _) eqs trivial 100 [] rfl trivial ?_
  refine VX_loopA (fun a : S8 × List UInt8 => a.2.length ≤ 10000000 ∧ aft a.1 a.2 = aft S s) (fun a => [(4, .ptr 1 []), (2, .ptr 0 []), (1, .t 115 (.e (bE a.2)))])
    (fun a => [.tree 123 (.e a.1.E), .tree 123 (.e (S8.E ⟨0, 0, 0, 0, 0, 0, 0, 0⟩))]) (fun a => a.2.length) (S, s) ⟨hs, rfl⟩ ?_ ?_
  · exact wk1 rfl rfl (by simp [Blk.under, T.under]) (lc (ls rfl rfl) (lc (ls rfl rfl) (lc (ls rfl rfl) lnil)))
  · rintro ⟨A, x⟩ ⟨hx, hA⟩
    simp only at hA hx
    refine VX_go4 (fs := []) (ok 0 _) eqs trivial 100 [] rfl trivial ?_
    refine VX_split 8 rfl rfl (fun h => ?_) (fun h => ?_)
    · have h64 : 64 ≤ x.length := by simp at h; omega
      refine VX_go4 (fs := []) (ok 0 _) eqs trivial 100 [] rfl trivial ?_
      refine VX_draw [] [(0, true), (1, true), (2, true), (3, false), (4, false)] mixed (by kernel_rfl) (by kernel_rfl) (by kernel_rfl) ?_
      refine VX_go4 (fs := []) (ok 0 _) eqs trivial 100 [] rfl (by simp [allP]; omega) ?_
      have e11 : ((x.map byteE).take (64 : Int).toNat).drop (0 : Int).toNat = (x.take 64).map byteE := by rw [List.map_take]; rfl
      refine VX_eq 11 rfl rfl (d' := .t 115 (.e (bE (x.take 64)))) (congrArg (fun x => D.t 115 (.e (.sl x))) e11) ?_
      refine VX_callO (ok 0 _) [123, 115] [] rfl rfl rfl rfl rfl rfl rfl rfl (rblock_ok (x.take 64) A).g rfl rfl rfl ?_
      refine VX_ts [0] (by kernel_rfl) ?_
      refine VX_storeO (ok 0 _) rfl rfl rfl rfl rfl rfl (by simp) ?_
      refine VX_go4 (fs := []) (ok 0 _) eqs trivial 100 [1] rfl (by simp [allP]; omega) ?_
      have e14 : ((x.map byteE).take (((x.map byteE).length : Nat) : Int).toNat).drop (64 : Int).toNat = (x.drop 64).map byteE := by rw [Int.toNat_natCast, List.take_length, List.map_drop]; rfl
      refine VX_eq 14 rfl rfl (d' := .t 115 (.e (bE (x.drop 64)))) (congrArg (fun x => D.t 115 (.e (.sl x))) e14) ?_
      refine VX_go4 (fs := []) (ok 0 _) eqs trivial 100 [] rfl trivial ?_
      refine loop_nrm ⟨(blk (x.take 64) A, x.drop 64), by simp; omega, ⟨by simp; omega, by simp only; rw [aft_step _ _ h64]; exact hA⟩, ?_⟩
      exact wk1 rfl rfl (by simp [Blk.under, T.under]) (lc (ls rfl rfl) (lc (ls rfl rfl) (lc (ls rfl rfl) lnil)))
    · have h64 : x.length < 64 := by simp at h; omega
      rw [← hA, aft_small _ _ h64]
      refine VX_go4 (fs := []) (ok 0 _) eqs trivial 100 [] rfl trivial ?_
      apply loop_brk
      refine VX_go4 (fs := []) (ok 0 _) eqs trivial 100 [] rfl trivial ?_
      exact ⟨.inr rfl, rfl⟩
end Go.Den.Q33.Sh
namespace Go.Den.Q33.Sh
open Go Go.Den Go.Proofs
set_option maxRecDepth 8000
set_option linter.unusedVariables false
set_option linter.unusedSimpArgs false
/-- Byte i of eight, the greatest first. -/
def b8 (m i : Nat) : UInt8 := UInt8.ofNat (m / 2 ^ (56 - 8 * i))
def lastL (m : Nat) : Nat → List UInt8
  | 0 => List.replicate 8 0
  | i + 1 => (lastL m i).set i (b8 m i)
def endL (m : Nat) : Nat → List UInt8
  | 0 => []
  | i + 1 => endL m i ++ [b8 m i]
theorem lastL_end (m : Nat) : lastL m 8 = endL m 8 := rfl
theorem lastL_length (m : Nat) : ∀ i, (lastL m i).length = 8
  | 0 => by simp [lastL]
  | i + 1 => by simp [lastL, lastL_length m i]
theorem endL_length (m : Nat) : ∀ i, (endL m i).length = i
  | 0 => rfl
  | i + 1 => by simp [endL, endL_length m i]
def padB (k m : Nat) : List UInt8 := [128] ++ List.replicate ((119 - k % 64) % 64) 0 ++ endL m 8
/-- Byte k of a word. -/
def b4 (w : Int) (k : Nat) : UInt8 := UInt8.ofNat ((w.fdiv (2 ^ (24 - 8 * k))) % 256).toNat
def digL (W : List Int) : Nat → List UInt8
  | 0 => List.replicate 32 0
  | j + 1 => (digL W j).set j (b4 (W.getD (j / 4) 0) (j % 4))
theorem digL_length (W : List Int) : ∀ i, (digL W i).length = 32
  | 0 => by simp [digL]
  | i + 1 => by simp [digL, digL_length W i]
def dgE (l : List UInt8) : E := .agg (l.map byteE)
theorem dgE_set (l : List UInt8) (i : Nat) (x : UInt8) : T.e (dgE (l.set i x)) = setT [i] (.e (byteE x)) (.e (dgE l)) := by
  simp [dgE, setT, putChild, List.map_set]
def endB (S : S8) (r : List UInt8) (n : Nat) : List UInt8 := digL (aft S (r ++ padB r.length (8 * n % 18446744073709551616))).1.l 32
theorem byte8 (m i : Nat) (h : i < 8) : IntKind.wrap .u8 (Int.fdiv (m : Int) (2 ^ (56 - 8 * i))) = ((b8 m i).toNat : Int) := by
  rw [show ((2 : Int) ^ (56 - 8 * i)) = ((2 ^ (56 - 8 * i) : Nat) : Int) by simp, Int.fdiv_eq_ediv_of_nonneg _ (Int.natCast_nonneg _), ← Int.natCast_ediv, wrap_eq]
  simp [b8]
theorem byte4 (w : Int) (k : Nat) : IntKind.wrap .u8 (Int.fdiv w (2 ^ (24 - 8 * k))) = ((b4 w k).toNat : Int) := by
  rw [wrap_eq]
  simp only [b4, UInt8.toNat_ofNat']
  have h1 := Int.emod_nonneg (Int.fdiv w (2 ^ (24 - 8 * k))) (show (256 : Int) ≠ 0 by decide)
  have h2 := Int.emod_lt_of_pos (Int.fdiv w (2 ^ (24 - 8 * k))) (show (0 : Int) < 256 by decide)
  omega
set_option maxHeartbeats 1600000 in
theorem end_ok (S : S8) (r : List UInt8) (n : Nat) (hr : r.length ≤ 100000) (hn : n < 18446744073709551616) : FnOk Tryd.prog tb 80 [138] [24] [stE S r n] [dgE (endB S r n)] := by
  refine FnOk_of_V (fn := Tryd.f80) (bt := 4) (ok 0 _) Tryd.func80 rfl rfl rfl (by decide) fun hw => ?_
  clear hw
  apply V_of_VX
  unfold endB
  obtain ⟨m, hm⟩ : ∃ m, 8 * n % 18446744073709551616 = m := ⟨_, rfl⟩
  rw [hm]
  have e13 : IntKind.wrap .u64 (8 * (n : Int)) = (m : Int) := by rw [← hm, wrap_eq]; simp
  refine VX_go4 (fs := []) (ok 0 _) eqs trivial 100 [3] rfl trivial ?_
  refine VX_eq 13 rfl rfl (d' := .t 22 (.e (.int m))) (congrArg (fun x => D.t 22 (.e (.int x))) e13) ?_
  obtain ⟨p, hp⟩ : ∃ p, (119 - r.length % 64) % 64 = p := ⟨_, rfl⟩
  have e19 : Int.tmod (IntKind.wrap .i64 (119 - Int.tmod (r.length : Int) 64)) 64 = (p : Int) := by
    have h1 : Int.tmod (r.length : Int) 64 = ((r.length % 64 : Nat) : Int) := by rw [Int.tmod_eq_emod_of_nonneg (by omega)]; simp
    rw [h1, w64 (by omega) (by omega), ← hp, Int.tmod_eq_emod_of_nonneg (by omega)]; omega
  refine VX_go4 (fs := []) (ok 0 _) eqs trivial 100 [4] rfl (by simp [allP, arithP]) ?_
  refine VX_eq 19 rfl rfl (d' := .t 3 (.e (.int p))) (congrArg (fun x => D.t 3 (.e (.int x))) e19) ?_
  refine VX_go4 (fs := []) (ok 0 _) eqs trivial 100 [] rfl trivial ?_
  refine VX_loopA (fun i : Nat => i ≤ 8) (fun i => [(20, .t 3 (.e (.int i))), (5, .ptr 2 []), (4, .t 3 (.e (.int p))), (3, .t 22 (.e (.int m))), (2, .ptr 1 []), (1, .ptr 0 [])])
    (fun i => [.tree 138 (.e (stE S r n)), .tree 24 (.e (dgE (List.replicate 32 0))), .tree 117 (.e (dgE (lastL m i)))]) (fun i => 8 - i) 0 (by simp) ?_ ?_
  · exact wk1 rfl rfl (by simp [Blk.under, T.under]) (lc (ls rfl rfl) (lc (ls rfl rfl) (lc (ls rfl rfl) (lc (ls rfl rfl) (lc (ls rfl rfl) (lc (ls rfl rfl) lnil))))))
  · intro i hi
    have hll := lastL_length m i
    refine VX_go4 (fs := []) (ok 0 _) eqs trivial 100 [] rfl trivial ?_
    refine VX_split 21 rfl rfl (fun h => ?_) (fun h => ?_)
    · have hi : i < 8 := by simp at h; omega
      have ei : IntKind.wrap .i64 ((i : Int) + 1) = ((i + 1 : Nat) : Int) := by rw [w64 (by omega) (by omega)]; simp
      have e27 : IntKind.wrap .i64 (56 - IntKind.wrap .i64 (8 * (i : Int))) = ((56 - 8 * i : Nat) : Int) := by rw [w64 (a := 8 * (i : Int)) (by omega) (by omega), w64 (by omega) (by omega)]; omega
      refine VX_go4 (fs := []) (ok 0 _) eqs trivial 100 [28] rfl trivial ?_
      refine VX_eq 27 rfl rfl (d' := .t 3 (.e (.int (56 - 8 * i : Nat)))) (congrArg (fun x => D.t 3 (.e (.int x))) e27) ?_
      refine VX_go4 (fs := []) (ok 0 _) eqs trivial 100 [30] rfl (by simp [allP, arithP]) ?_
      have e29 : IntKind.wrap .u8 (Int.fdiv (m : Int) (2 ^ (min (((56 - 8 * i : Nat) : Int)).toNat 64))) = ((b8 m i).toNat : Int) := by
        rw [Int.toNat_natCast, Nat.min_eq_left (by omega)]; exact byte8 m i hi
      refine VX_eq 29 rfl rfl (d' := .t 5 (.e (.int (b8 m i).toNat))) (congrArg (fun x => D.t 5 (.e (.int x))) e29) ?_
      refine VX_go4 (fs := []) (ok 0 _) eqs trivial 100 [] rfl (by simp [allP]; omega) ?_
      refine loop_nrm ⟨i + 1, by omega, by omega, ?_⟩
      have he : T.e (dgE (lastL m (i + 1))) = setT [i] (.e (byteE (b8 m i))) (.e (dgE (lastL m i))) := by rw [← dgE_set]; rfl
      exact wk1 (by rw [he]; rfl) rfl (by simp [Blk.under, T.under]) (lc (li (by rw [ei])) (lc (ls rfl rfl) (lc (ls rfl rfl) (lc (ls rfl rfl) (lc (ls rfl rfl) (lc (ls rfl rfl) lnil))))))
    · have hi' : i = 8 := by simp at h; omega
      subst hi'
      refine VX_go4 (fs := []) (ok 0 _) eqs trivial 100 [] rfl trivial ?_
      apply loop_brk
      refine VX_go4 (fs := []) (ok 0 _) eqs trivial 100 [] rfl trivial ?_
      refine VX_draw [] [(0, true), (1, true), (4, true), (5, true), (2, false), (3, true), (6, true), (7, false), (8, false)] mixed (by kernel_rfl) (by kernel_rfl) (by kernel_rfl) ?_
      refine VX_go4 (fs := []) (ok 0 _) eqs trivial 100 [] rfl (by simp [allP]) ?_
      have e37 : ((((lastL m 8).map byteE).drop 0).take 8).map byteOf = endL m 8 := by rw [List.drop_zero, List.take_of_length_le (by simp [hll]), map_byteOf, lastL_end]
      refine VX_eq 37 rfl rfl (d' := .t 9 (.e (.str (endL m 8)))) (congrArg (fun x => D.t 9 (.e (.str x))) e37) ?_
      have hp64 : p < 64 := by omega
      refine VX_callO (ok 0 _) [9, 3] [] rfl rfl rfl rfl rfl rfl rfl rfl (repeat_ok p (by omega)).g rfl rfl rfl ?_
      have hel := endL_length m 8
      refine VX_go4 (fs := []) (ok 0 _) eqs trivial 100 [] rfl (by simp [allP, maxI, hel]; omega) ?_
      have hpad : [128] ++ List.replicate p 0 ++ endL m 8 = padB r.length m := by unfold padB; rw [hp]
      have hpl : (padB r.length m).length ≤ 100 := by rw [← hpad]; simp [hel]; omega
      refine VX_eq 38 rfl rfl (d' := .t 9 (.e (.str (padB r.length m)))) (congrArg (fun x => D.t 9 (.e (.str x))) hpad) ?_
      generalize padB r.length m = pd at hpl ⊢
      refine VX_callO (ok 0 _) [138, 9] [] rfl rfl rfl rfl rfl rfl rfl rfl (add_ok S r pd n (by omega) (by omega) hn).g rfl rfl rfl ?_
      refine VX_ts [0] (by kernel_rfl) ?_
      refine VX_storeO (ok 0 _) rfl rfl rfl rfl rfl rfl (by simp) ?_
      generalize (aft S (r ++ pd)).1 = A
      generalize (aft S (r ++ pd)).2 = r2
      generalize ((n + pd.length) % 18446744073709551616) = n2
      refine VX_go4 (fs := []) (ok 0 _) eqs trivial 100 [] rfl trivial ?_
      refine VX_loopA (fun i : Nat => i ≤ 8) (fun i => [(42, .t 3 (.e (.int i))), (41, .t 123 (.e A.E)), (7, .ptr 3 []), (2, .ptr 1 [])])
        (fun i => [.tree 138 (.e (stE A r2 n2)), .tree 24 (.e (dgE (List.replicate 32 0))), .tree 117 (.e (dgE (lastL m 8))), .tree 24 (.e (dgE (digL A.l (4 * i))))]) (fun i => 8 - i) 0 (by simp) ?_ ?_
      · exact wk1 rfl rfl (by simp [Blk.under, T.under]) (lc (ls rfl rfl) (lc (ls rfl rfl) (lc (ls rfl rfl) (lc (ls rfl rfl) lnil))))
      · intro i hi
        refine VX_go4 (fs := []) (ok 0 _) eqs trivial 100 [] rfl trivial ?_
        refine VX_split 43 rfl rfl (fun h => ?_) (fun h => ?_)
        · have hi : i < 8 := by simp at h; omega
          have ei : IntKind.wrap .i64 ((i : Int) + 1) = ((i + 1 : Nat) : Int) := by rw [w64 (by omega) (by omega)]; simp
          refine VX_go4 (fs := []) (ok 0 _) eqs trivial 100 [8] rfl (by simp [allP]; omega) ?_
          refine VX_eq 45 rfl rfl (d' := .t 32 (.e (.int (A.l.getD i 0)))) (congrArg (fun x => D.t 32 (.e x)) (aE_child A.l i (by simpa [S8.l] using hi))) ?_
          obtain ⟨x, hx⟩ : ∃ x, A.l.getD i 0 = x := ⟨_, rfl⟩
          rw [hx]
          refine VX_go4 (fs := []) (ok 0 _) eqs trivial 100 [] rfl trivial ?_
          refine VX_loopA (fun k : Nat => k ≤ 4) (fun k => [(46, .t 3 (.e (.int k))), (9, .t 32 (.e (.int x))), (8, .t 3 (.e (.int i))), (42, .t 3 (.e (.int i))), (41, .t 123 (.e A.E)), (7, .ptr 3 []), (2, .ptr 1 [])])
            (fun k => [.tree 138 (.e (stE A r2 n2)), .tree 24 (.e (dgE (List.replicate 32 0))), .tree 117 (.e (dgE (lastL m 8))), .tree 24 (.e (dgE (digL A.l (4 * i + k))))]) (fun k => 4 - k) 0 (by simp) ?_ ?_
          · exact wk1 rfl rfl (by simp [Blk.under, T.under]) (lc (ls rfl rfl) (lc (ls rfl rfl) (lc (ls rfl rfl) (lc (ls rfl rfl) (lc (ls rfl rfl) (lc (ls rfl rfl) (lc (ls rfl rfl) lnil)))))))
          · intro k hk
            have hdl := digL_length A.l (4 * i + k)
            refine VX_go4 (fs := []) (ok 0 _) eqs trivial 100 [] rfl trivial ?_
            refine VX_split 47 rfl rfl (fun h => ?_) (fun h => ?_)
            · have hk : k < 4 := by simp at h; omega
              have ek : IntKind.wrap .i64 ((k : Int) + 1) = ((k + 1 : Nat) : Int) := by rw [w64 (by omega) (by omega)]; simp
              have e52 : IntKind.wrap .i64 (IntKind.wrap .i64 (4 * (i : Int)) + (k : Int)) = ((4 * i + k : Nat) : Int) := by rw [w64 (a := 4 * (i : Int)) (by omega) (by omega), w64 (by omega) (by omega)]; simp
              have e56 : IntKind.wrap .i64 (24 - IntKind.wrap .i64 (8 * (k : Int))) = ((24 - 8 * k : Nat) : Int) := by rw [w64 (a := 8 * (k : Int)) (by omega) (by omega), w64 (by omega) (by omega)]; omega
              refine VX_go4 (fs := []) (ok 0 _) eqs trivial 100 [53] rfl trivial ?_
              refine VX_eq 52 rfl rfl (d' := .t 3 (.e (.int (4 * i + k : Nat)))) (congrArg (fun x => D.t 3 (.e (.int x))) e52) ?_
              refine VX_go4 (fs := []) (ok 0 _) eqs trivial 100 [57] rfl trivial ?_
              refine VX_eq 56 rfl rfl (d' := .t 3 (.e (.int (24 - 8 * k : Nat)))) (congrArg (fun x => D.t 3 (.e (.int x))) e56) ?_
              refine VX_go4 (fs := []) (ok 0 _) eqs trivial 100 [59] rfl (by simp [allP, arithP]) ?_
              have e58 : IntKind.wrap .u8 (Int.fdiv x (2 ^ (min (((24 - 8 * k : Nat) : Int)).toNat 32))) = ((b4 x k).toNat : Int) := by
                rw [Int.toNat_natCast, Nat.min_eq_left (by omega)]; exact byte4 x k
              refine VX_eq 58 rfl rfl (d' := .t 5 (.e (.int (b4 x k).toNat))) (congrArg (fun x => D.t 5 (.e (.int x))) e58) ?_
              refine VX_go4 (fs := []) (ok 0 _) eqs trivial 100 [] rfl (by simp [allP]; omega) ?_
              refine loop_nrm ⟨k + 1, by omega, by omega, ?_⟩
              have he : T.e (dgE (digL A.l (4 * i + (k + 1)))) = setT [4 * i + k] (.e (byteE (b4 x k))) (.e (dgE (digL A.l (4 * i + k)))) := by
                rw [← dgE_set, ← hx]
                show T.e (dgE ((digL A.l (4 * i + k)).set (4 * i + k) (b4 (A.l.getD ((4 * i + k) / 4) 0) ((4 * i + k) % 4)))) = _
                rw [show (4 * i + k) / 4 = i by omega, show (4 * i + k) % 4 = k by omega]
              exact wk1 (by rw [he]; rfl) rfl (by simp [Blk.under, T.under]) (lc (li (by rw [ek])) (lc (ls rfl rfl) (lc (ls rfl rfl) (lc (ls rfl rfl) (lc (ls rfl rfl) (lc (ls rfl rfl) (lc (ls rfl rfl) lnil)))))))
            · have hk' : k = 4 := by simp at h; omega
              subst hk'
              refine VX_go4 (fs := []) (ok 0 _) eqs trivial 100 [] rfl trivial ?_
              apply loop_brk
              refine VX_go4 (fs := []) (ok 0 _) eqs trivial 100 [] rfl trivial ?_
              refine loop_nrm ⟨i + 1, by omega, by omega, ?_⟩
              exact wk1 rfl rfl (by simp [Blk.under, T.under]) (lc (li (by rw [ei])) (lc (ls rfl rfl) (lc (ls rfl rfl) (lc (ls rfl rfl) lnil))))
        · have hi' : i = 8 := by simp at h; omega
          subst hi'
          refine VX_go4 (fs := []) (ok 0 _) eqs trivial 100 [] rfl trivial ?_
          apply loop_brk
          refine VX_go4 (fs := []) (ok 0 _) eqs trivial 100 [] rfl trivial ?_
          exact ⟨.inr rfl, rfl⟩
end Go.Den.Q33.Sh
namespace Go.Den.Q33.Sh
open Go Go.Den Go.Proofs
set_option maxRecDepth 8000
set_option linter.unusedVariables false
set_option linter.unusedSimpArgs false
def zl (r : List UInt8) (j : Nat) : List UInt8 := r ++ [128] ++ List.replicate j 0
theorem zl_length (r : List UInt8) (j : Nat) : (zl r j).length = r.length + 1 + j := by simp [zl]; omega
theorem zl_succ (r : List UInt8) (j : Nat) : (zl r (j + 1)).map byteE = (zl r j).map byteE ++ [.int 0] := by
  have : zl r (j + 1) = zl r j ++ [0] := by simp [zl, List.replicate_succ']
  rw [this]; simp [byteE]
set_option maxHeartbeats 1600000 in
theorem rend_ok (S : S8) (r : List UInt8) (n : Nat) (hr : r.length ≤ 100000) (hn : n < 18446744073709551616) : FnOk Tryd.prog tb 73 [123, 115, 22] [24] [S.E, bE r, .int n] [dgE (endB S r n)] := by
  refine FnOk_of_V (fn := Tryd.f73) (bt := 4) (ok 0 _) Tryd.func73 rfl rfl rfl (by decide) fun hw => ?_
  clear hw
  apply V_of_VX
  unfold endB
  obtain ⟨p, hp⟩ : ∃ p, (119 - r.length % 64) % 64 = p := ⟨_, rfl⟩
  refine VX_go4 (fs := []) (ok 0 _) eqs trivial 100 [15] rfl (by simp [allP, nb, tb, maxL]; omega) ?_
  have e0 : [] ++ r.map byteE = r.map byteE := rfl
  refine VX_go4 (fs := []) (ok 0 _) eqs trivial 100 [] rfl (by simp [allP, nb, tb, maxL]; omega) ?_
  refine VX_loopA (fun j : Nat => j ≤ p) (fun j => [(7, .t 115 (.lsl 2 ((zl r j).map byteE))), (6, .ptr 1 []), (3, .ptr 0 []), (2, .t 22 (.e (.int n)))])
    (fun j => [.tree 123 (.e S.E), .tree 24 (.e (dgE (List.replicate 32 0))), .row 5 ((zl r j).map byteE).length]) (fun j => p - j) 0 (by simp) ?_ ?_
  · have hz : (zl r 0).map byteE = ([] ++ r.map byteE) ++ [.int 128] := by simp [zl, byteE]
    exact wk1 (by rw [hz]; rfl) rfl (by simp [Blk.under, T.under]) (lc (ls (by rw [hz]; rfl) rfl) (lc (ls rfl rfl) (lc (ls rfl rfl) (lc (ls rfl rfl) lnil))))
  · intro j hj
    have hzl := zl_length r j
    have e20 : Int.tmod ((((zl r j).map byteE).length : Nat) : Int) 64 = (((r.length + 1 + j) % 64 : Nat) : Int) := by
      rw [List.length_map, hzl, Int.tmod_eq_emod_of_nonneg (by omega)]; simp
    refine VX_go4 (fs := []) (ok 0 _) eqs trivial 100 [21] rfl (by simp [allP, arithP]) ?_
    refine VX_eq 20 rfl rfl (d' := .t 3 (.e (.int ((r.length + 1 + j) % 64 : Nat)))) (congrArg (fun x => D.t 3 (.e (.int x))) e20) ?_
    refine VX_go4 (fs := []) (ok 0 _) eqs trivial 100 [] rfl trivial ?_
    refine VX_split 21 rfl rfl (fun h => ?_) (fun h => ?_)
    · have h : ¬ (r.length + 1 + j) % 64 = 56 := by simp at h; omega
      have hj : j < p := by omega
      refine VX_go4 (fs := []) (ok 0 _) eqs trivial 100 [] rfl (by simp [allP, nb, tb, maxL, hzl]; omega) ?_
      refine loop_nrm ⟨j + 1, by omega, by omega, ?_⟩
      exact wk1 (by rw [zl_succ]) rfl (by simp [Blk.under, T.under]) (lc (ls (by rw [zl_succ]; rfl) rfl) (lc (ls rfl rfl) (lc (ls rfl rfl) (lc (ls rfl rfl) lnil))))
    · have h : (r.length + 1 + j) % 64 = 56 := by simp at h; omega
      have hj : j = p := by omega
      subst hj
      refine VX_go4 (fs := []) (ok 0 _) eqs trivial 100 [] rfl trivial ?_
      apply loop_brk
      obtain ⟨m, hm⟩ : ∃ m, 8 * n % 18446744073709551616 = m := ⟨_, rfl⟩
      rw [hm]
      have e26 : IntKind.wrap .u64 (8 * (n : Int)) = (m : Int) := by rw [← hm, wrap_eq]; simp
      refine VX_go4 (fs := []) (ok 0 _) eqs trivial 100 [8] rfl trivial ?_
      refine VX_eq 26 rfl rfl (d' := .t 22 (.e (.int m))) (congrArg (fun x => D.t 22 (.e (.int x))) e26) ?_
      refine VX_go4 (fs := []) (ok 0 _) eqs trivial 100 [] rfl trivial ?_
      refine VX_loopA (fun i : Nat => i ≤ 8) (fun i => [(9, .t 3 (.e (.int i))), (8, .t 22 (.e (.int m))), (7, .t 115 (.lsl 2 ((zl r j ++ endL m i).map byteE))), (6, .ptr 1 []), (3, .ptr 0 [])])
        (fun i => [.tree 123 (.e S.E), .tree 24 (.e (dgE (List.replicate 32 0))), .row 5 ((zl r j ++ endL m i).map byteE).length]) (fun i => 8 - i) 0 (by simp) ?_ ?_
      · have hz : zl r j ++ endL m 0 = zl r j := by simp [endL]
        exact wk1 (by rw [hz]) rfl (by simp [Blk.under, T.under]) (lc (ls rfl rfl) (lc (ls rfl rfl) (lc (ls (by rw [hz]; rfl) rfl) (lc (ls rfl rfl) (lc (ls rfl rfl) lnil)))))
      · intro i hi
        have hel := endL_length m i
        refine VX_go4 (fs := []) (ok 0 _) eqs trivial 100 [] rfl trivial ?_
        refine VX_split 28 rfl rfl (fun h => ?_) (fun h => ?_)
        · have hi : i < 8 := by simp at h; omega
          have ei : IntKind.wrap .i64 ((i : Int) + 1) = ((i + 1 : Nat) : Int) := by rw [w64 (by omega) (by omega)]; simp
          have e36 : IntKind.wrap .u64 (IntKind.wrap .i64 (56 - IntKind.wrap .i64 (8 * (i : Int)))) = ((56 - 8 * i : Nat) : Int) := by rw [w64 (a := 8 * (i : Int)) (by omega) (by omega), w64 (by omega) (by omega), wrap_eq]; simp only; omega
          refine VX_go4 (fs := []) (ok 0 _) eqs trivial 100 [37] rfl trivial ?_
          refine VX_eq 36 rfl rfl (d' := .t 75 (.e (.int (56 - 8 * i : Nat)))) (congrArg (fun x => D.t 75 (.e (.int x))) e36) ?_
          refine VX_go4 (fs := []) (ok 0 _) eqs trivial 100 [39] rfl (by simp [allP, arithP]) ?_
          have e38 : IntKind.wrap .u8 (Int.fdiv (m : Int) (2 ^ (min (((56 - 8 * i : Nat) : Int)).toNat 64))) = ((b8 m i).toNat : Int) := by
            rw [Int.toNat_natCast, Nat.min_eq_left (by omega)]; exact byte8 m i hi
          refine VX_eq 38 rfl rfl (d' := .t 5 (.e (.int (b8 m i).toNat))) (congrArg (fun x => D.t 5 (.e (.int x))) e38) ?_
          refine VX_go4 (fs := []) (ok 0 _) eqs trivial 100 [] rfl (by simp [allP, nb, tb, maxL, hzl, hel]; omega) ?_
          refine loop_nrm ⟨i + 1, by omega, by omega, ?_⟩
          have he : (zl r j ++ endL m (i + 1)).map byteE = (zl r j ++ endL m i).map byteE ++ [.int (b8 m i).toNat] := by simp [endL, byteE]
          exact wk1 (by rw [he]) rfl (by simp [Blk.under, T.under]) (lc (li (by rw [ei])) (lc (ls rfl rfl) (lc (ls (by rw [he]; rfl) rfl) (lc (ls rfl rfl) (lc (ls rfl rfl) lnil)))))
        · have hi' : i = 8 := by simp at h; omega
          subst hi'
          have hfull : r ++ padB r.length m = zl r j ++ endL m 8 := by simp [padB, zl, hp]
          rw [hfull]
          generalize hX : zl r j ++ endL m 8 = X
          have hXl : X.length ≤ 200000 := by rw [← hX, List.length_append, hzl, hel]; omega
          refine VX_go4 (fs := []) (ok 0 _) eqs trivial 100 [] rfl trivial ?_
          apply loop_brk
          refine VX_go4 (fs := []) (ok 0 _) eqs trivial 100 [] rfl trivial ?_
          refine VX_callD (ok 0 _) [123, 115] [] rfl rfl rfl rfl rfl rfl (after_ok S X (by omega)).g rfl rfl rfl ?_
          generalize (aft S X).1 = A
          generalize (aft S X).2 = r2
          refine VX_go4 (fs := []) (ok 0 _) eqs trivial 100 [] rfl trivial ?_
          refine VX_loopA (fun i : Nat => i ≤ 32) (fun i => [(11, .t 3 (.e (.int i))), (10, .ptr 3 []), (6, .ptr 1 []), (3, .ptr 0 [])])
            (fun i => [.tree 123 (.e A.E), .tree 24 (.e (dgE (List.replicate 32 0))), .row 5 (X.map byteE).length, .tree 24 (.e (dgE (digL A.l i)))]) (fun i => 32 - i) 0 (by simp) ?_ ?_
          · exact wk1 rfl rfl (by simp [Blk.under, T.under]) (lc (ls rfl rfl) (lc (ls rfl rfl) (lc (ls rfl rfl) (lc (ls rfl rfl) lnil))))
          · intro i hi
            have hdl := digL_length A.l i
            refine VX_go4 (fs := []) (ok 0 _) eqs trivial 100 [] rfl trivial ?_
            refine VX_split 48 rfl rfl (fun h => ?_) (fun h => ?_)
            · have hi : i < 32 := by simp at h; omega
              have ei : IntKind.wrap .i64 ((i : Int) + 1) = ((i + 1 : Nat) : Int) := by rw [w64 (by omega) (by omega)]; simp
              have e53 : IntKind.wrap .i64 (Int.tdiv (i : Int) 4) = ((i / 4 : Nat) : Int) := by
                rw [Int.tdiv_eq_ediv_of_nonneg (by omega), w64 (by omega) (by omega)]; simp
              have e57 : Int.tmod (i : Int) 4 = ((i % 4 : Nat) : Int) := by rw [Int.tmod_eq_emod_of_nonneg (by omega)]; simp
              have e60 : IntKind.wrap .u64 (IntKind.wrap .i64 (24 - IntKind.wrap .i64 (8 * ((i % 4 : Nat) : Int)))) = ((24 - 8 * (i % 4) : Nat) : Int) := by rw [w64 (a := 8 * ((i % 4 : Nat) : Int)) (by omega) (by omega), w64 (by omega) (by omega), wrap_eq]; simp only; omega
              refine VX_go4 (fs := []) (ok 0 _) eqs trivial 100 [54] rfl (by simp [allP, arithP]) ?_
              refine VX_eq 53 rfl rfl (d' := .t 3 (.e (.int (i / 4 : Nat)))) (congrArg (fun x => D.t 3 (.e (.int x))) e53) ?_
              refine VX_go4 (fs := []) (ok 0 _) eqs trivial 100 [56] rfl (by simp [allP, arithP]; omega) ?_
              have hA4 : i / 4 < A.l.length := by
                have : i / 4 < 8 := by omega
                simpa [S8.l] using this
              refine VX_eq 55 rfl rfl (d' := .t 32 (.e (.int (A.l.getD (i / 4) 0)))) (congrArg (fun x => D.t 32 (.e x)) (aE_child A.l (i / 4) hA4)) ?_
              obtain ⟨x, hx⟩ : ∃ x, A.l.getD (i / 4) 0 = x := ⟨_, rfl⟩
              rw [hx]
              refine VX_go4 (fs := []) (ok 0 _) eqs trivial 100 [58] rfl (by simp [allP, arithP]) ?_
              refine VX_eq 57 rfl rfl (d' := .t 3 (.e (.int (i % 4 : Nat)))) (congrArg (fun x => D.t 3 (.e (.int x))) e57) ?_
              refine VX_go4 (fs := []) (ok 0 _) eqs trivial 100 [61] rfl trivial ?_
              refine VX_eq 60 rfl rfl (d' := .t 75 (.e (.int (24 - 8 * (i % 4) : Nat)))) (congrArg (fun x => D.t 75 (.e (.int x))) e60) ?_
              refine VX_go4 (fs := []) (ok 0 _) eqs trivial 100 [63] rfl (by simp [allP, arithP]) ?_
              have e62 : IntKind.wrap .u8 (Int.fdiv x (2 ^ (min (((24 - 8 * (i % 4) : Nat) : Int)).toNat 32))) = ((b4 x (i % 4)).toNat : Int) := by
                rw [Int.toNat_natCast, Nat.min_eq_left (by omega)]; exact byte4 x (i % 4)
              refine VX_eq 62 rfl rfl (d' := .t 5 (.e (.int (b4 x (i % 4)).toNat))) (congrArg (fun x => D.t 5 (.e (.int x))) e62) ?_
              refine VX_go4 (fs := []) (ok 0 _) eqs trivial 100 [] rfl (by simp [allP]; omega) ?_
              refine loop_nrm ⟨i + 1, by omega, by omega, ?_⟩
              have he : T.e (dgE (digL A.l (i + 1))) = setT [i] (.e (byteE (b4 x (i % 4)))) (.e (dgE (digL A.l i))) := by
                rw [← dgE_set, ← hx]; rfl
              exact wk1 (by rw [he]; rfl) rfl (by simp [Blk.under, T.under]) (lc (li (by rw [ei])) (lc (ls rfl rfl) (lc (ls rfl rfl) (lc (ls rfl rfl) lnil))))
            · have hi' : i = 32 := by simp at h; omega
              subst hi'
              refine VX_go4 (fs := []) (ok 0 _) eqs trivial 100 [] rfl trivial ?_
              apply loop_brk
              refine VX_go4 (fs := []) (ok 0 _) eqs trivial 100 [] rfl trivial ?_
              exact ⟨.inr rfl, rfl⟩
end Go.Den.Q33.Sh
namespace Go.Den.Q33.Sh
open Go Go.Den Go.Proofs
set_option maxRecDepth 8000
set_option linter.unusedVariables false
set_option linter.unusedSimpArgs false
theorem noEsc (x : Value) (w : World) : (callFunc 88 #[x]).run Tryd.prog w = .ok (.value x) w := rfl
/-- A builder and its row. -/
def bld (a : T) (n : Nat) (bs : List E) : List Blk := [.tree 130 (.st [a, .msl 1 n]), .mrow 5 true bs]
theorem check_ok (a : T) (ha : a = .e .nilp ∨ a = .ptr 0 []) (n : Nat) (bs : List E) : FnG Tryd.prog tb 83 (bld a n bs) [.ptr 0 []] (fun d s => d = .tup [] ∧ s = bld (.ptr 0 []) n bs) := by
  refine FnG_of_V (fn := Tryd.f83) (bt := 4) false [] [] (ok 2 _) Tryd.func83 rfl rfl rfl fun _ _ _ _ _ _ => ?_
  apply V_of_VX
  rcases ha with rfl | rfl
  · refine VX_go4 (fs := []) (ok 2 _) eqs trivial 100 [] rfl trivial ?_
    refine VX_op rfl rfl (OpV_toUnsafe (v := 130) (o' := 0) (u := 130) (ok 2 _) rfl rfl (by decide) (by kernel_rfl) rfl rfl rfl (by decide)) ?_
    rintro d s ⟨rfl, rfl⟩
    refine VX_op rfl rfl (OpV_noEscape (ok 2 _) rfl noEsc rfl) ?_
    rintro d s ⟨rfl, rfl⟩
    refine VX_op rfl rfl (OpV_ofUnsafe (v := 130) (o' := 0) (u := 130) (ok 2 _) rfl (by kernel_rfl) rfl (by decide) rfl rfl rfl (by decide) (by kernel_rfl)) ?_
    rintro d s ⟨rfl, rfl⟩
    refine VX_go4 (fs := []) (ok 2 _) eqs trivial 100 [] rfl trivial ?_
    exact ⟨.inl rfl, _, _, _, rfl, rfl, rfl, rfl, rfl⟩
  · refine VX_go4 (fs := []) (ok 2 _) eqs trivial 100 [] rfl (by simp [allP, td, tb]) ?_
    exact ⟨.inl rfl, _, _, _, rfl, rfl, rfl, rfl, rfl⟩
theorem string_ok (a : T) (ha : a = .e .nilp ∨ a = .ptr 0 []) (bs : List E) :
    FnG Tryd.prog tb 77 (bld a bs.length bs) [.ptr 0 []] (fun d t => d = .t 9 (.e (.str (bs.map byteOf))) ∧ t = [.tree 130 (.st [a, .msl 1 bs.length]), .mrow 5 false bs]) := by
  refine FnG_of_V (fn := Tryd.f77) (bt := 4) false [] [9] (ok 2 _) Tryd.func77 rfl rfl rfl fun _ _ _ _ _ _ => ?_
  apply V_of_VX
  refine VX_go4 (fs := []) (ok 2 _) eqs trivial 100 [] rfl trivial ?_
  refine VX_draw [1] [(0, true), (1, true), (2, true), (3, true), (4, true), (5, true), (6, true), (7, true), (8, true), (9, true), (10, false), (11, true)] mixed (by kernel_rfl) (by kernel_rfl) (by kernel_rfl) ?_
  refine VX_go4 (fs := []) (ok 2 _) eqs trivial 100 [] rfl rfl ?_
  refine VX_opO rfl rfl rfl (OpF_unsafeString (ok 2 _) rfl rfl rfl rfl rfl rfl rfl rfl rfl rfl rfl rfl (by simp)) ?_
  rintro d s ⟨rfl, rfl⟩
  refine VX_go4 (fs := []) (ok 2 _) eqs trivial 100 [] rfl trivial ?_
  rcases ha with rfl | rfl
  · exact ⟨.inr rfl, _, _, _, rfl, rfl, rfl, rfl, rfl⟩
  · exact ⟨.inr rfl, _, _, _, rfl, rfl, rfl, rfl, rfl⟩
theorem writeB_ok (a : T) (ha : a = .e .nilp ∨ a = .ptr 0 []) (bs : List E) (x : UInt8) (h1 : bs.length ≤ 1000000) :
    FnG Tryd.prog tb 74 (bld a bs.length bs) [.ptr 0 [], .t 5 (.e (byteE x))] (fun d t => d = .t 132 (.e .nili) ∧ t = bld (.ptr 0 []) (bs ++ [byteE x]).length (bs ++ [byteE x])) := by
  refine FnG_of_V (fn := Tryd.f74) (bt := 4) false [] [132] (ok 2 _) Tryd.func74 rfl rfl rfl fun _ _ _ _ _ _ => ?_
  rcases ha with rfl | rfl
  all_goals
    apply V_of_VX
    refine VX_go4 (fs := []) (ok 2 _) eqs trivial 100 [] rfl trivial ?_
    refine VX_callD (ok 2 _) [128] [0, 1] rfl rfl rfl rfl rfl rfl (check_ok _ (by simp) bs.length bs) rfl rfl rfl ?_
    refine VX_go4 (fs := []) (ok 2 _) eqs trivial 100 [] rfl ?_ ?_
    · refine ⟨rfl, ?_, ?_⟩ <;> simp [nb, tb, maxL] <;> omega
    refine ⟨.inr rfl, _, _, _, rfl, rfl, rfl, rfl, ?_⟩
    rw [List.length_append]; rfl
/-- A state to which a text is added. -/
def stAdd (st : S8 × List UInt8 × Nat) (p : List UInt8) : S8 × List UInt8 × Nat :=
  ((aft st.1 (st.2.1 ++ p)).1, (aft st.1 (st.2.1 ++ p)).2, (st.2.2 + p.length) % 18446744073709551616)
def stE' (st : S8 × List UInt8 × Nat) : E := stE st.1 st.2.1 st.2.2
theorem aftN_rest : ∀ (n : Nat) (S : S8) (s : List UInt8), (aftN n S s).2.length = s.length - 64 * n
  | 0, S, s => by simp [aftN]
  | n + 1, S, s => by simp [aftN, aftN_rest n]; omega
theorem aft_rest (S : S8) (s : List UInt8) : (aft S s).2.length < 64 := by unfold aft; rw [aftN_rest]; omega
def sumSt (ps : List (List UInt8)) : S8 × List UInt8 × Nat := ps.foldl stAdd (fS, [], 0)
theorem stAdd_small (st : S8 × List UInt8 × Nat) (p : List UInt8) : (stAdd st p).2.1.length < 64 ∧ (stAdd st p).2.2 < 18446744073709551616 := ⟨aft_rest _ _, Nat.mod_lt _ (by decide)⟩
theorem sum_ok (ps : List (List UInt8)) (hl : ps.length ≤ 100000) (hp : ∀ p ∈ ps, p.length ≤ 500000) :
    FnOk Tryd.prog tb 64 [25] [24] [.sl (ps.map E.str)] [dgE (endB (sumSt ps).1 (sumSt ps).2.1 (sumSt ps).2.2)] := by
  refine FnOk_of_V (fn := Tryd.f64) (bt := 4) (ok 0 _) Tryd.func64 rfl rfl rfl (by decide) fun hw => ?_
  clear hw
  apply V_of_VX
  refine VX_go4 (fs := []) (ok 0 _) eqs trivial 100 [] rfl trivial ?_
  refine VX_callD (ok 0 _) [] [] rfl rfl rfl rfl rfl rfl begin_ok.g rfl rfl rfl ?_
  refine VX_go4 (fs := []) (ok 0 _) eqs trivial 100 [] rfl trivial ?_
  refine VX_loopA (fun a : Nat × (S8 × List UInt8 × Nat) => a.1 ≤ ps.length ∧ a.2 = sumSt (ps.take a.1) ∧ a.2.2.1.length < 64 ∧ a.2.2.2 < 18446744073709551616)
    (fun a => [(9, .t 3 (.e (.int a.1))), (8, .t 3 (.e (.int ps.length))), (7, .t 25 (.e (.sl (ps.map E.str)))), (3, .ptr 1 []), (2, .ptr 0 [])])
    (fun a => [.tree 24 (.e (dgE (List.replicate 32 0))), .tree 138 (.e (stE' a.2))]) (fun a => ps.length - a.1) (0, (fS, [], 0)) ⟨by simp, by simp [sumSt], by simp, by simp⟩ ?_ ?_
  · exact wk1 rfl rfl (by simp [Blk.under, T.under]) (lc (ls rfl rfl) (lc (li (by simp)) (lc (ls rfl rfl) (lc (ls rfl rfl) (lc (ls rfl rfl) lnil)))))
  · rintro ⟨i, st⟩ ⟨hi, hst, hr, hn⟩
    simp only at hi hst hr hn
    refine VX_go4 (fs := []) (ok 0 _) eqs trivial 100 [] rfl trivial ?_
    refine VX_split 10 rfl rfl (fun h => ?_) (fun h => ?_)
    · have hi : i < ps.length := by simpa using h
      have ei : IntKind.wrap .i64 ((i : Int) + 1) = ((i + 1 : Nat) : Int) := by rw [w64 (by omega) (by omega)]; simp
      refine VX_go4 (fs := []) (ok 0 _) eqs trivial 100 [5] rfl (by simp [allP]; omega) ?_
      have hg : (ps.map E.str).getD i .nilp = .str ps[i] := by simp [List.getD, hi]
      refine VX_eq 12 rfl rfl (d' := .t 9 (.e (.str ps[i]))) (congrArg (fun x => D.t 9 (.e x)) hg) ?_
      have hpl := hp ps[i] (List.getElem_mem hi)
      have hst' : stAdd st ps[i] = sumSt (ps.take (i + 1)) := by
        unfold sumSt at hst ⊢
        rw [List.take_add_one, List.getElem?_eq_getElem hi, Option.toList_some, List.foldl_append, ← hst]; rfl
      generalize ps[i] = p at hpl hst' ⊢
      obtain ⟨S, r, n⟩ := st
      simp only at hr hn
      refine VX_go4 (fs := []) (ok 0 _) eqs trivial 100 [] rfl trivial ?_
      refine VX_callD (ok 0 _) [138, 9] [] rfl rfl rfl rfl rfl rfl (add_ok S r p n (by omega) (by omega) hn).g rfl rfl rfl ?_
      refine VX_go4 (fs := []) (ok 0 _) eqs trivial 100 [] rfl trivial ?_
      have hsm := stAdd_small (S, r, n) p
      refine loop_nrm ⟨(i + 1, stAdd (S, r, n) p), by simp only; omega, ⟨by simp only; omega, hst', hsm.1, hsm.2⟩, ?_⟩
      exact wk1 rfl rfl (by simp [Blk.under, T.under]) (lc (li (by rw [ei])) (lc (ls rfl rfl) (lc (ls rfl rfl) (lc (ls rfl rfl) (lc (ls rfl rfl) lnil)))))
    · have hi' : i = ps.length := by simp at h; omega
      subst hi'
      rw [List.take_length] at hst
      subst hst
      generalize sumSt ps = st at hr hn ⊢
      obtain ⟨S, r, n⟩ := st
      refine VX_go4 (fs := []) (ok 0 _) eqs trivial 100 [] rfl trivial ?_
      apply loop_brk
      refine VX_go4 (fs := []) (ok 0 _) eqs trivial 100 [] rfl trivial ?_
      refine VX_callD (ok 0 _) [138] [] rfl rfl rfl rfl rfl rfl (end_ok S r n (by simp only at hr; omega) hn).g rfl rfl rfl ?_
      refine VX_go4 (fs := []) (ok 0 _) eqs trivial 100 [] rfl trivial ?_
      exact ⟨.inr rfl, rfl⟩
/-- The digest of a text. -/
def shaB (s : List UInt8) : List UInt8 := endB (aft fS s).1 (aft fS s).2 s.length
theorem sum1 (s : List UInt8) (hs : s.length ≤ 500000) : endB (sumSt [s]).1 (sumSt [s]).2.1 (sumSt [s]).2.2 = shaB s := by
  show endB (aft fS ([] ++ s)).1 (aft fS ([] ++ s)).2 ((0 + s.length) % 18446744073709551616) = _
  rw [List.nil_append, Nat.zero_add, Nat.mod_eq_of_lt (by omega)]; rfl
theorem rsum_ok (s : List UInt8) (hs : s.length ≤ 500000) : FnOk Tryd.prog tb 59 [9] [24] [.str s] [dgE (shaB s)] := by
  refine FnOk_of_V (fn := Tryd.f59) (bt := 4) (ok 0 _) Tryd.func59 rfl rfl rfl (by decide) fun hw => ?_
  clear hw
  apply V_of_VX
  refine VX_go4 (fs := []) (ok 0 _) eqs trivial 100 [] rfl trivial ?_
  refine VX_callD (ok 0 _) [] [] rfl rfl rfl rfl rfl rfl first_ok.g rfl rfl rfl ?_
  refine VX_go4 (fs := []) (ok 0 _) eqs trivial 100 [] rfl trivial ?_
  refine VX_op rfl rfl (OpV_bytes (ok 0 _) rfl rfl rfl rfl rfl rfl) ?_
  rintro d s' ⟨rfl, rfl⟩
  refine VX_go4 (fs := []) (ok 0 _) eqs trivial 100 [] rfl trivial ?_
  refine VX_callD (ok 0 _) [123, 115] [] rfl rfl rfl rfl rfl rfl (after_ok fS s (by omega)).g rfl rfl rfl ?_
  have hr := aft_rest fS s
  have e16 : IntKind.wrap .u64 (s.length : Int) = (s.length : Nat) := by rw [wrap_eq]; simp; omega
  refine VX_go4 (fs := []) (ok 0 _) eqs trivial 100 [17] rfl trivial ?_
  refine VX_eq 16 rfl rfl (d' := .t 22 (.e (.int s.length))) (congrArg (fun x => D.t 22 (.e (.int x))) e16) ?_
  refine VX_callD (ok 0 _) [123, 115, 22] [] rfl rfl rfl rfl rfl rfl (rend_ok (aft fS s).1 (aft fS s).2 s.length (by omega) (by omega)).g rfl rfl rfl ?_
  refine VX_go4 (fs := []) (ok 0 _) eqs trivial 100 [] rfl trivial ?_
  exact ⟨.inr rfl, rfl⟩
end Go.Den.Q33.Sh
