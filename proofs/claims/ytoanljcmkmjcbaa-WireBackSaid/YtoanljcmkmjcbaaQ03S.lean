/- Law 03: what a reader reads. -/
import Derived.Test.YtoanljcmkmjcbaaQ03R
namespace Go.Den.Q03
open Go Go.Den Go.Proofs
set_option maxRecDepth 8000
set_option linter.unusedVariables false

theorem numV_le {l : List UInt8} {k : Nat} (h : l.length ≤ k) : numV l < 256 ^ k := Nat.lt_of_lt_of_le (numV_lt _ l rfl) (Nat.pow_le_pow_right (by omega) h)

theorem byteR_ok (s : List UInt8) (e : Int) : FnG Try.prog tb 22 [rd s e] [.ptr 0 []] (fun d t => d = .t 5 (.e (.int (numV (takeB s e 1).1))) ∧ t = [rd (takeB s e 1).2.1 (takeB s e 1).2.2]) := by
  refine FnG_of_V (fn := Try.f22) (bt := 4) false [] [5] (ok 1 _) Try.func22 rfl rfl rfl fun _ _ _ _ _ _ => ?_
  apply V_of_VX
  refine VX_go3 (fs := []) (ok 1 _) eqs trivial 100 [] rfl trivial ?_
  refine VX_callD (ok 1 _) [40, 3] [0] rfl rfl rfl rfl rfl rfl (number_ok s e 1 (by omega)) rfl rfl rfl ?_
  have hv := numV_le (takeB_len s e 1)
  have e1 : IntKind.wrap .u8 ((numV (takeB s e 1).1 : Nat) : Int) = (numV (takeB s e 1).1 : Nat) := inR_wrap (by simp [inR]; omega)
  refine VX_go3 (fs := []) (ok 1 _) eqs trivial 100 [2] rfl trivial ?_
  refine VX_eq 5 rfl rfl (d' := .t 5 (.e (.int (numV (takeB s e 1).1 : Nat)))) (congrArg (fun x => D.t 5 (T.e (E.int x))) e1) ?_
  refine VX_go3 (fs := []) (ok 1 _) eqs trivial 100 [] rfl trivial ?_
  exact ⟨.inr rfl, _, _, _, rfl, rfl, rfl, rfl, rfl⟩
theorem wordR_ok (s : List UInt8) (e : Int) : FnG Try.prog tb 23 [rd s e] [.ptr 0 []] (fun d t => d = .t 33 (.e (.int (numV (takeB s e 4).1))) ∧ t = [rd (takeB s e 4).2.1 (takeB s e 4).2.2]) := by
  refine FnG_of_V (fn := Try.f23) (bt := 4) false [] [33] (ok 1 _) Try.func23 rfl rfl rfl fun _ _ _ _ _ _ => ?_
  apply V_of_VX
  refine VX_go3 (fs := []) (ok 1 _) eqs trivial 100 [] rfl trivial ?_
  refine VX_callD (ok 1 _) [40, 3] [0] rfl rfl rfl rfl rfl rfl (number_ok s e 4 (by omega)) rfl rfl rfl ?_
  have hv := numV_le (takeB_len s e 4)
  have e1 : IntKind.wrap .u32 ((numV (takeB s e 4).1 : Nat) : Int) = (numV (takeB s e 4).1 : Nat) := inR_wrap (by simp [inR]; omega)
  refine VX_go3 (fs := []) (ok 1 _) eqs trivial 100 [2] rfl trivial ?_
  refine VX_eq 5 rfl rfl (d' := .t 33 (.e (.int (numV (takeB s e 4).1 : Nat)))) (congrArg (fun x => D.t 33 (T.e (E.int x))) e1) ?_
  refine VX_go3 (fs := []) (ok 1 _) eqs trivial 100 [] rfl trivial ?_
  exact ⟨.inr rfl, _, _, _, rfl, rfl, rfl, rfl, rfl⟩
theorem longR_ok (s : List UInt8) (e : Int) : FnG Try.prog tb 24 [rd s e] [.ptr 0 []] (fun d t => d = .t 22 (.e (.int (numV (takeB s e 8).1))) ∧ t = [rd (takeB s e 8).2.1 (takeB s e 8).2.2]) := by
  refine FnG_of_V (fn := Try.f24) (bt := 4) false [] [22] (ok 1 _) Try.func24 rfl rfl rfl fun _ _ _ _ _ _ => ?_
  apply V_of_VX
  refine VX_go3 (fs := []) (ok 1 _) eqs trivial 100 [] rfl trivial ?_
  refine VX_callD (ok 1 _) [40, 3] [0] rfl rfl rfl rfl rfl rfl (number_ok s e 8 (by omega)) rfl rfl rfl ?_
  refine VX_go3 (fs := []) (ok 1 _) eqs trivial 100 [] rfl trivial ?_
  exact ⟨.inr rfl, _, _, _, rfl, rfl, rfl, rfl, rfl⟩

def dgE (l : List UInt8) : List E := putAt z32 0 ((l.map byteE).take (min (l.map byteE).length 32))
theorem dgE_of {l : List UInt8} (h : 32 ≤ l.length) : dgE l = (l.take 32).map byteE := by
  unfold dgE
  rw [List.length_map, Nat.min_eq_right h]
  unfold putAt
  have : ((l.map byteE).take 32).length = 32 := by simp; omega
  rw [this]
  simp [z32]
theorem digestR_ok (s : List UInt8) (e : Int) : FnG Try.prog tb 25 [rd s e] [.ptr 0 []] (fun d t => d = .t 24 (.e (.agg (dgE (takeB s e 32).1))) ∧ t = [rd (takeB s e 32).2.1 (takeB s e 32).2.2]) := by
  refine FnG_of_V (fn := Try.f25) (bt := 4) false [] [24] (ok 1 _) Try.func25 rfl rfl rfl fun _ _ _ _ _ _ => ?_
  apply V_of_VX
  refine VX_go3 (fs := []) (ok 1 _) eqs trivial 100 [] rfl trivial ?_
  refine VX_draw [0, 2] [(0, true), (1, true), (2, false), (3, false)] mixed (by kernel_rfl) (by kernel_rfl) (by kernel_rfl) ?_
  refine VX_go3 (fs := []) (ok 1 _) eqs trivial 100 [] rfl (by simp [allP]) ?_
  refine VX_callO (ok 1 _) [40, 3] [0] rfl rfl rfl rfl rfl rfl rfl rfl (take_ok s e 32) rfl rfl rfl ?_
  refine VX_copyO (ok 1 _) rfl rfl rfl rfl rfl rfl (by simp) ?_
  refine VX_go3 (fs := []) (ok 1 _) eqs trivial 100 [] rfl trivial ?_
  exact ⟨.inr rfl, _, _, _, rfl, rfl, rfl, rfl, rfl⟩

def mx (m : Int) : Nat := if m < 0 then 0 else m.toNat
def countB (s : List UInt8) (e : Int) (m : Int) : Nat × List UInt8 × Int :=
  if mx m < numV (takeB s e 4).1 then (0, (takeB s e 4).2.1, failB (takeB s e 4).2.2 5) else (numV (takeB s e 4).1, (takeB s e 4).2.1, (takeB s e 4).2.2)
theorem count_ok (s : List UInt8) (e : Int) (m : Int) (h1 : -9223372036854775808 ≤ m) (h2 : m ≤ 9223372036854775807) : FnG Try.prog tb 39 [rd s e] [.ptr 0 [], .t 3 (.e (.int m))] (fun d t => d = .t 3 (.e (.int (countB s e m).1)) ∧ t = [rd (countB s e m).2.1 (countB s e m).2.2]) := by
  refine FnG_of_V (fn := Try.f39) (bt := 4) false [] [3] (ok 1 _) Try.func39 rfl rfl rfl fun _ _ _ _ _ _ => ?_
  apply V_of_VX
  refine VX_go3 (fs := []) (ok 1 _) eqs trivial 100 [] rfl trivial ?_
  refine VX_callD (ok 1 _) [40, 3] [0] rfl rfl rfl rfl rfl rfl (number_ok s e 4 (by omega)) rfl rfl rfl ?_
  have hv := numV_le (takeB_len s e 4)
  have em : IntKind.wrap .u64 (if (0 : Int) > m then 0 else m) = (mx m : Nat) := by
    unfold mx
    rcases Int.lt_or_le m 0 with h | h
    · rw [if_pos h, if_pos h]; rfl
    · rw [if_neg (by omega), if_neg (by omega), inR_wrap (by simp [inR]; omega)]; omega
  refine VX_go3 (fs := []) (ok 1 _) eqs trivial 100 [12] rfl (by simp [allP]) ?_
  refine VX_eq 11 rfl rfl (d' := .t 22 (.e (.int (mx m : Nat)))) (congrArg (fun x => D.t 22 (T.e (E.int x))) em) ?_
  refine VX_go3 (fs := []) (ok 1 _) eqs trivial 100 [] rfl trivial ?_
  refine VX_split 12 rfl rfl (fun h => ?_) (fun h => ?_)
  · have hlt : mx m < numV (takeB s e 4).1 := by simpa using h
    refine VX_go3 (fs := []) (ok 1 _) eqs trivial 100 [] rfl trivial ?_
    refine VX_callD (ok 1 _) [40, 42] [0] rfl rfl rfl rfl rfl rfl (fail_ok (takeB s e 4).2.1 (takeB s e 4).2.2 5) rfl rfl rfl ?_
    refine VX_go3 (fs := []) (ok 1 _) eqs trivial 100 [] rfl trivial ?_
    refine ⟨.inr rfl, _, _, _, rfl, rfl, rfl, ?_⟩
    unfold countB; rw [if_pos hlt]; exact ⟨rfl, rfl⟩
  · have hlt : ¬ mx m < numV (takeB s e 4).1 := by simpa using h
    have e1 : IntKind.wrap .i64 ((numV (takeB s e 4).1 : Nat) : Int) = (numV (takeB s e 4).1 : Nat) := w64 (by omega) (by omega)
    refine VX_go3 (fs := []) (ok 1 _) eqs trivial 100 [4] rfl trivial ?_
    refine VX_eq 16 rfl rfl (d' := .t 3 (.e (.int (numV (takeB s e 4).1 : Nat)))) (congrArg (fun x => D.t 3 (T.e (E.int x))) e1) ?_
    refine VX_go3 (fs := []) (ok 1 _) eqs trivial 100 [] rfl trivial ?_
    refine ⟨.inr rfl, _, _, _, rfl, rfl, rfl, ?_⟩
    unfold countB; rw [if_neg hlt]; exact ⟨rfl, rfl⟩
theorem countB_lt (s : List UInt8) (e m : Int) : (countB s e m).1 < 4294967296 := by
  have hv := numV_le (takeB_len s e 4)
  unfold countB; split
  · simp
  · exact hv

def textR (s : List UInt8) (e m : Int) : List UInt8 × List UInt8 × Int := takeB (countB s e m).2.1 (countB s e m).2.2 (countB s e m).1
theorem textR_ok (s : List UInt8) (e : Int) (m : Int) (h1 : -9223372036854775808 ≤ m) (h2 : m ≤ 9223372036854775807) : FnG Try.prog tb 26 [rd s e] [.ptr 0 [], .t 3 (.e (.int m))] (fun d t => d = .t 9 (.e (.str (textR s e m).1)) ∧ t = [rd (textR s e m).2.1 (textR s e m).2.2]) := by
  refine FnG_of_V (fn := Try.f26) (bt := 4) false [] [9] (ok 1 _) Try.func26 rfl rfl rfl fun _ _ _ _ _ _ => ?_
  apply V_of_VX
  refine VX_go3 (fs := []) (ok 1 _) eqs trivial 100 [] rfl trivial ?_
  refine VX_callD (ok 1 _) [40, 3] [0] rfl rfl rfl rfl rfl rfl (count_ok s e m h1 h2) rfl rfl rfl ?_
  refine VX_callD (ok 1 _) [40, 3] [0] rfl rfl rfl rfl rfl rfl (take_ok _ _ _) rfl rfl rfl ?_
  refine VX_go3 (fs := []) (ok 1 _) eqs trivial 100 [] rfl trivial ?_
  exact ⟨.inr rfl, _, _, _, rfl, rfl, rfl, rfl, rfl⟩

/-- The digests in some bytes. -/
def chunk (l : List UInt8) (m : Nat) : List (List E) := (List.range m).map fun i => ((l.drop (32 * i)).take 32).map byteE
theorem chunk_succ (l : List UInt8) (m : Nat) : chunk l (m + 1) = chunk l m ++ [((l.drop (32 * m)).take 32).map byteE] := by simp [chunk, List.range_succ]
theorem chunk_length (l : List UInt8) (m : Nat) : (chunk l m).length = m := by simp [chunk]
def digsR (s : List UInt8) (e m : Int) : List UInt8 × List UInt8 × Int := takeB (countB s e m).2.1 (countB s e m).2.2 ((countB s e m).1 * 32)
theorem takeB_mul (s : List UInt8) (e : Int) (n : Nat) : ∃ m, (takeB s e (n * 32)).1.length = 32 * m := by
  unfold takeB; split
  · split
    · exact ⟨0, rfl⟩
    · exact ⟨n, by simp; omega⟩
  · exact ⟨0, rfl⟩
theorem takeB_le (s : List UInt8) (e : Int) (n : Nat) : (takeB s e n).1.length ≤ s.length ∧ (takeB s e n).2.1.length ≤ s.length := by
  unfold takeB; split
  · split
    · simp
    · simp; omega
  · simp
theorem countB_le (s : List UInt8) (e m : Int) : (countB s e m).2.1.length ≤ s.length := by
  unfold countB; split <;> exact (takeB_le s e 4).2
theorem digsR_le (s : List UInt8) (e m : Int) : (digsR s e m).1.length ≤ s.length ∧ (digsR s e m).2.1.length ≤ s.length := by
  have h1 := takeB_le (countB s e m).2.1 (countB s e m).2.2 ((countB s e m).1 * 32)
  have h2 := countB_le s e m
  unfold digsR; omega

theorem digestsR_ok (s : List UInt8) (e : Int) (m : Int) (h1 : -9223372036854775808 ≤ m) (h2 : m ≤ 9223372036854775807) (hs : s.length ≤ 1000000) :
    FnG Try.prog tb 27 [rd s e] [.ptr 0 [], .t 3 (.e (.int m))] (fun d t => d = .t 25 (.e (.sl ((chunk (digsR s e m).1 ((digsR s e m).1.length / 32)).map .agg))) ∧ t = [rd (digsR s e m).2.1 (digsR s e m).2.2]) := by
  refine FnG_of_V (fn := Try.f27) (bt := 4) false [] [25] (ok 1 _) Try.func27 rfl rfl rfl fun _ _ _ _ _ _ => ?_
  apply V_of_VX
  refine VX_go3 (fs := []) (ok 1 _) eqs trivial 100 [] rfl trivial ?_
  refine VX_callD (ok 1 _) [40, 3] [0] rfl rfl rfl rfl rfl rfl (count_ok s e m h1 h2) rfl rfl rfl ?_
  have hc := countB_lt s e m
  have e1 : IntKind.wrap .i64 (((countB s e m).1 : Nat) * 32 : Int) = ((countB s e m).1 * 32 : Nat) := by rw [w64 (by omega) (by omega)]; norm_cast
  refine VX_go3 (fs := []) (ok 1 _) eqs trivial 100 [] rfl trivial ?_
  refine VX_eq 14 rfl rfl (d' := .t 3 (.e (.int ((countB s e m).1 * 32 : Nat)))) (congrArg (fun x => D.t 3 (T.e (E.int x))) e1) ?_
  refine VX_callD (ok 1 _) [40, 3] [0] rfl rfl rfl rfl rfl rfl (take_ok _ _ _) rfl rfl rfl ?_
  obtain ⟨k, hk⟩ := takeB_mul (countB s e m).2.1 (countB s e m).2.2 (countB s e m).1
  have hle := (digsR_le s e m).1
  have hd : takeB (countB s e m).2.1 (countB s e m).2.2 ((countB s e m).1 * 32) = digsR s e m := rfl
  rw [hd] at hk ⊢
  generalize (digsR s e m).1 = l at hk hle ⊢
  generalize (digsR s e m).2.1 = s'
  generalize (digsR s e m).2.2 = e'
  refine VX_go3 (fs := []) (ok 1 _) eqs trivial 100 [] rfl trivial ?_
  refine VX_promote 7 (u := 24) rfl rfl ?_
  refine VX_loopA (fun i : Nat => i ≤ k) (fun i => [(6, .t 9 (.e (.str (l.drop (32 * i))))), (7, .t 25 (.lsl 1 ((chunk l i).map .agg)))]) (fun i => [rd s' e', .row 24 ((chunk l i).map E.agg).length]) (fun i => k - i) 0 (by omega) ?_ ?_
  · exact wk1 rfl rfl (by simp [rd, Blk.under, T.under]) (lc (ls (by simp; rfl) rfl) (lc (ls rfl rfl) lnil))
  · intro i hi
    refine VX_go3 (fs := []) (ok 1 _) eqs trivial 100 [] rfl trivial ?_
    refine VX_split 17 rfl rfl (fun h => ?_) (fun h => ?_)
    · have hi : i < k := by
        rcases Nat.lt_or_ge i k with h' | h'
        · exact h'
        · have : l.drop (32 * i) = [] := List.drop_eq_nil_of_le (by omega)
          simp [this] at h
      have hdl : 32 ≤ (l.drop (32 * i)).length := by simp; omega
      have hcl := chunk_length l i
      refine VX_go3 (fs := []) (ok 1 _) eqs trivial 100 [] rfl ?_ ?_
      · simp [allP, nb, tb, maxL, hcl]; omega
      refine loop_nrm ⟨i + 1, by omega, by omega, ?_⟩
      refine wkc [.tree 24 (.e (.agg (dgE (l.drop (32 * i)))))] ?_ rfl (by simp [rd, Blk.under, T.under]) (lc (ls ?_ rfl) (lc (ls ?_ rfl) lnil))
      · rw [chunk_succ, ← dgE_of hdl, List.map_append]; rfl
      · show D.t 9 (.e (.str (l.drop (32 * (i + 1))))) = D.t 9 (.e (.str (((l.drop (32 * i)).take (l.drop (32 * i)).length).drop 32)))
        rw [List.take_length, List.drop_drop]; rfl
      · rw [chunk_succ, ← dgE_of hdl, List.map_append]; rfl
    · have hik : i = k := by
        have : l.drop (32 * i) = [] := by simpa using h
        have := congrArg List.length this
        simp at this; omega
      subst hik
      refine VX_go3 (fs := []) (ok 1 _) eqs trivial 100 [] rfl trivial ?_
      apply loop_brk
      refine VX_go3 (fs := []) (ok 1 _) eqs trivial 100 [] rfl trivial ?_
      refine ⟨.inr rfl, _, _, _, rfl, rfl, rfl, ?_⟩
      rw [hk, Nat.mul_div_cancel_left _ (by omega)]; exact ⟨rfl, rfl⟩
end Go.Den.Q03
