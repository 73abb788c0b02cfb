/- Law 03: lists of digests, signatures. -/
import Derived.Test.YtoanljcmkmjcbaaQ03B
namespace Go.Den.Q03
open Go Go.Den Go.Proofs
set_option maxRecDepth 8000
set_option linter.unusedVariables false

/-- A weaker state with fewer blocks. -/
theorem wkc {k0 : Nat} {env' env : Env} {σ σ' : List Blk} (τ : List Blk) (hs : σ = σ' ++ τ) (h0 : Nat.ble k0 σ'.length = true) (hb : ∀ k ∈ σ', k.under σ'.length = true) (h : leL σ'.length env' env) : Weak k0 env' σ' env σ :=
  ⟨⟨τ, hs⟩, Nat.le_of_ble_eq_true h0, hb, h⟩
theorem getD_agg {p : List (List E)} {i : Nat} (h : i < p.length) : (p.map E.agg).getD i .nilp = .agg p[i] := by simp [List.getD, h]

def dE (d : List E) : List E := (d.drop 0).take 32
def cE (L : List (List E)) (k : Nat) : List E := (bigB L.length 4).map byteE ++ ((L.take k).map dE).flatten
theorem cE_length (L : List (List E)) (k : Nat) : (cE L k).length ≤ 4 + 32 * L.length := by
  have : ∀ l : List (List E), ((l.map dE).flatten).length ≤ 32 * l.length := by
    intro l
    induction l with
    | nil => simp
    | cons d l ih => simp only [List.map_cons, List.flatten_cons, List.length_append, List.length_cons]; have : (dE d).length ≤ 32 := by simp [dE]; omega
                     omega
  have h1 := this (L.take k)
  simp only [cE, List.length_append, List.length_map, bigB_length]
  have : (L.take k).length ≤ L.length := by simp; omega
  omega
theorem cE_succ (L : List (List E)) (k : Nat) (h : k < L.length) : cE L (k + 1) = cE L k ++ dE L[k] := by
  unfold cE; rw [List.take_add_one, List.getElem?_eq_getElem h]; simp only [Option.toList_some, List.map_append, List.map_cons, List.map_nil, List.flatten_append, List.flatten_cons, List.flatten_nil, List.append_nil, List.append_assoc]
/-- A list of digests, in bytes. -/
def digsB (L : List (List E)) : List UInt8 := bigB L.length 4 ++ (L.map dB).flatten
theorem cE_done (L : List (List E)) : (cE L L.length).map byteOf = digsB L := by
  unfold cE digsB
  rw [List.map_append, map_byteOf, List.take_length, List.map_flatten, List.map_map]; rfl
theorem digsB_length (L : List (List E)) : (digsB L).length ≤ 4 + 32 * L.length := by
  rw [← cE_done]; simpa using cE_length L L.length

theorem digests_ok (L : List (List E)) (hl : L.length ≤ 10000) : FnOk Try.prog tb 17 [25] [9] [.sl (L.map .agg)] [.str (digsB L)] := by
  refine FnOk_of_V (fn := Try.f17) (bt := 4) (ok 0 _) Try.func17 rfl rfl rfl (by decide) fun hw => ?_
  apply V_of_VX
  refine VX_go3 (fs := []) (ok 0 _) eqs trivial 100 [] rfl trivial ?_
  have e : IntKind.wrap .u32 (((L.map E.agg).length : Nat) : Int) = L.length := by rw [List.length_map]; exact inR_wrap (by simp [inR]; omega)
  refine VX_eq 8 rfl rfl (d' := .t 33 (.e (.int L.length))) (by rw [e]; rfl) ?_
  refine VX_callD (ok 0 _) [33] [] rfl rfl rfl rfl rfl rfl (word_ok L.length (by omega)).g rfl rfl rfl ?_
  refine VX_go3 (fs := []) (ok 0 _) eqs trivial 100 [] rfl trivial ?_
  refine VX_promM (ok 0 _) rfl 0 [1] rfl rfl rfl rfl rfl ?_
  refine VX_callD (ok 0 _) [58, 9] [0, 1] rfl rfl rfl rfl rfl rfl (writeS_ok (.e .nilp) (.inl rfl) [] (bigB L.length 4) (by simp) (by simp [bigB_length])) rfl rfl rfl ?_
  refine VX_go3 (fs := []) (ok 0 _) eqs trivial 100 [] rfl trivial ?_
  refine VX_loopA (fun i : Nat => i ≤ L.length) (fun i => [(13, .t 3 (.e (.int i))), (12, .t 3 (.e (.int L.length))), (11, .t 25 (.e (.sl (L.map .agg)))), (3, .ptr 0 [])]) (fun i => bld (.ptr 0 []) (cE L i).length (cE L i)) (fun i => L.length - i) 0 (by omega) ?_ ?_
  · refine wk1 ?_ rfl (by simp [bld, Blk.under, T.under, T.unders]) (lc (ls rfl rfl) (lc (li (by simp)) (lc (ls rfl rfl) (lc (ls rfl rfl) lnil))))
    have e1 : (cE L 0).length = ([] : List E).length + ((bigB L.length 4).map byteE).length := by simp [cE]
    have e2 : cE L 0 = [] ++ (bigB L.length 4).map byteE := by simp [cE]
    show _ = [Blk.tree 60 (.st [.ptr 0 [], .msl 1 (cE L 0).length]), .mrow 5 true (cE L 0)]
    rw [e1, e2]
  · intro i hi
    refine VX_go3 (fs := []) (ok 0 _) eqs trivial 100 [] rfl trivial ?_
    refine VX_split 14 rfl rfl (fun h => ?_) (fun h => ?_)
    · have hi : i < L.length := by simpa using h
      refine VX_go3 (fs := []) (ok 0 _) eqs trivial 100 [5] rfl ?_ ?_
      · simp [allP]; omega
      refine VX_eq 16 rfl rfl (d' := .t 24 (.e (.agg L[i]))) (congrArg (fun x => D.t 24 (.e x)) (getD_agg hi)) ?_
      refine VX_go3 (fs := []) (ok 0 _) eqs trivial 100 [] rfl (by simp [allP]) ?_
      have hcl := cE_length L i
      refine VX_callD (ok 0 _) [58, 57] [0, 1, 2] rfl rfl rfl rfl rfl rfl (write_ok (.ptr 0 []) (.inr rfl) (cE L i) L[i] (by omega) (dE L[i]) rfl) rfl rfl rfl ?_
      refine VX_go3 (fs := []) (ok 0 _) eqs trivial 100 [] rfl trivial ?_
      refine loop_nrm ⟨i + 1, by omega, by omega, ?_⟩
      refine wkc [.tree 24 (.e (.agg L[i]))] ?_ rfl (by simp [bld, Blk.under, T.under, T.unders]) (lc (li ?_) (lc (ls rfl rfl) (lc (ls rfl rfl) (lc (ls rfl rfl) lnil))))
      · rw [cE_succ L i hi]; simp [bld]
      · rw [w64 (by omega) (by omega)]; simp
    · have : i = L.length := by simp at h; omega
      subst this
      refine VX_go3 (fs := []) (ok 0 _) eqs trivial 100 [] rfl trivial ?_
      apply loop_brk
      refine VX_go3 (fs := []) (ok 0 _) eqs trivial 100 [] rfl trivial ?_
      refine VX_callD (ok 0 _) [58] [0, 1] rfl rfl rfl rfl rfl rfl (string_ok (.ptr 0 []) (.inr rfl) (cE L L.length)) rfl rfl rfl ?_
      refine VX_go3 (fs := []) (ok 0 _) eqs trivial 100 [] rfl trivial ?_
      refine ⟨.inr rfl, ?_⟩
      rw [← cE_done]; rfl

theorem rdigests_ok (L : List (List E)) (hl : L.length ≤ 10000) : FnOk Try.prog tb 18 [25] [9] [.sl (L.map .agg)] [.str (digsB L)] := by
  refine FnOk_of_V (fn := Try.f18) (bt := 4) (ok 0 _) Try.func18 rfl rfl rfl (by decide) fun hw => ?_
  apply V_of_VX
  refine VX_go3 (fs := []) (ok 0 _) eqs trivial 100 [] rfl trivial ?_
  have e : IntKind.wrap .u64 (((L.map E.agg).length : Nat) : Int) = L.length := by rw [List.length_map]; exact inR_wrap (by simp [inR]; omega)
  refine VX_eq 8 rfl rfl (d' := .t 22 (.e (.int L.length))) (by rw [e]; rfl) ?_
  refine VX_callD (ok 0 _) [22, 3] [] rfl rfl rfl rfl rfl rfl (Big_ok L.length 4 (by omega) (by omega) (by omega)).g rfl rfl rfl ?_
  refine VX_go3 (fs := []) (ok 0 _) eqs trivial 100 [] rfl trivial ?_
  refine VX_loopA (fun i : Nat => i ≤ L.length) (fun i => [(12, .t 3 (.e (.int i))), (11, .t 3 (.e (.int L.length))), (10, .t 25 (.e (.sl (L.map .agg)))), (3, .t 9 (.e (.str ((cE L i).map byteOf))))]) (fun i => []) (fun i => L.length - i) 0 (by omega) ?_ ?_
  · refine wk1 rfl rfl (by simp) (lc (ls rfl rfl) (lc (li (by simp)) (lc (ls rfl rfl) (lc (ls ?_ rfl) lnil))))
    have : (cE L 0).map byteOf = bigB L.length 4 := by
      simp only [cE, List.take_zero, List.map_nil, List.flatten_nil, List.append_nil]; exact map_byteOf _
    rw [this]; rfl
  · intro i hi
    refine VX_go3 (fs := []) (ok 0 _) eqs trivial 100 [] rfl trivial ?_
    refine VX_split 13 rfl rfl (fun h => ?_) (fun h => ?_)
    · have hi : i < L.length := by simpa using h
      refine VX_go3 (fs := []) (ok 0 _) eqs trivial 100 [5] rfl ?_ ?_
      · simp [allP]; omega
      refine VX_eq 15 rfl rfl (d' := .t 24 (.e (.agg L[i]))) (congrArg (fun x => D.t 24 (.e x)) (getD_agg hi)) ?_
      refine VX_go3 (fs := []) (ok 0 _) eqs trivial 100 [] rfl trivial ?_
      refine VX_callD (ok 0 _) [24] [] rfl rfl rfl rfl rfl rfl (bytes_ok L[i]).g rfl rfl rfl ?_
      have hcl := cE_length L i
      have hdl : (dB L[i]).length ≤ 32 := by simp [dB]; omega
      refine VX_go3 (fs := []) (ok 0 _) eqs trivial 100 [] rfl ?_ ?_
      · simp only [allP, List.length_map, maxI]; omega
      refine loop_nrm ⟨i + 1, by omega, by omega, ?_⟩
      refine wkc [.tree 24 (.e (.agg L[i]))] rfl rfl (by simp) (lc (li ?_) (lc (ls rfl rfl) (lc (ls rfl rfl) (lc (ls ?_ rfl) lnil))))
      · rw [w64 (by omega) (by omega)]; simp
      · rw [cE_succ L i hi, List.map_append]; rfl
    · have : i = L.length := by simp at h; omega
      subst this
      refine VX_go3 (fs := []) (ok 0 _) eqs trivial 100 [] rfl trivial ?_
      apply loop_brk
      refine VX_go3 (fs := []) (ok 0 _) eqs trivial 100 [] rfl trivial ?_
      refine ⟨.inr rfl, ?_⟩
      rw [← cE_done]; rfl

/-- A signature. -/
def sigE (n : Int) (A B D : List (List E)) : E := .agg [.int n, .sl (A.map .agg), .sl (B.map .agg), .sl (D.map .agg)]
def sigB (n : Int) (A B D : List (List E)) : List UInt8 := bigB (n % 4294967296).toNat 4 ++ digsB A ++ digsB B ++ digsB D
theorem sig_ok (n : Int) (A B D : List (List E)) (hA : A.length ≤ 10000) (hB : B.length ≤ 10000) (hD : D.length ≤ 10000) : FnOk Try.prog tb 19 [27] [9] [sigE n A B D] [.str (sigB n A B D)] := by
  refine FnOk_of_V (fn := Try.f19) (bt := 4) (ok 0 _) Try.func19 rfl rfl rfl (by decide) fun hw => ?_
  apply V_of_VX
  refine VX_go3 (fs := []) (ok 0 _) eqs trivial 100 [] rfl trivial ?_
  refine VX_draw [] [(0, true), (1, true), (2, true), (4, true), (5, true), (8, true), (9, true), (12, true), (13, true), (3, false), (6, false), (7, true), (10, false), (11, true), (14, false), (15, true), (16, true)] mixed (by kernel_rfl) (by kernel_rfl) (by kernel_rfl) ?_
  refine VX_go3 (fs := []) (ok 0 _) eqs trivial 100 [] rfl trivial ?_
  have e : IntKind.wrap .u32 n = ((n % 4294967296).toNat : Nat) := by rw [wrap_eq]; simp only []; omega
  refine VX_eq 5 rfl rfl (d' := .t 33 (.e (.int ((n % 4294967296).toNat : Nat)))) (by rw [← e]; rfl) ?_
  refine VX_callO (ok 0 _) [33] [] rfl rfl rfl rfl rfl rfl rfl rfl (word_ok (n % 4294967296).toNat (by omega)).g rfl rfl rfl ?_
  refine VX_callO (ok 0 _) [25] [] rfl rfl rfl rfl rfl rfl rfl rfl (digests_ok A hA).g rfl rfl rfl ?_
  have lA := digsB_length A
  have lB := digsB_length B
  have lD := digsB_length D
  refine VX_go3 (fs := []) (ok 0 _) eqs trivial 100 [] rfl ?_ ?_
  · simp only [allP, List.length_append, bigB_length, maxI]; omega
  refine VX_callO (ok 0 _) [25] [] rfl rfl rfl rfl rfl rfl rfl rfl (digests_ok B hB).g rfl rfl rfl ?_
  refine VX_go3 (fs := []) (ok 0 _) eqs trivial 100 [] rfl ?_ ?_
  · simp only [allP, List.length_append, bigB_length, maxI]; omega
  refine VX_callO (ok 0 _) [25] [] rfl rfl rfl rfl rfl rfl rfl rfl (digests_ok D hD).g rfl rfl rfl ?_
  refine VX_go3 (fs := []) (ok 0 _) eqs trivial 100 [] rfl ?_ ?_
  · simp only [allP, List.length_append, bigB_length, maxI]; omega
  exact ⟨.inr rfl, rfl⟩
theorem rsig_ok (n : Int) (A B D : List (List E)) (hA : A.length ≤ 10000) (hB : B.length ≤ 10000) (hD : D.length ≤ 10000) : FnOk Try.prog tb 20 [27] [9] [sigE n A B D] [.str (sigB n A B D)] := by
  refine FnOk_of_V (fn := Try.f20) (bt := 4) (ok 0 _) Try.func20 rfl rfl rfl (by decide) fun hw => ?_
  apply V_of_VX
  refine VX_go3 (fs := []) (ok 0 _) eqs trivial 100 [] rfl trivial ?_
  refine VX_draw [] [(0, true), (1, true), (2, true), (3, true), (5, true), (6, true), (9, true), (10, true), (13, true), (14, true), (4, false), (7, false), (8, true), (11, false), (12, true), (15, false), (16, true), (17, true)] mixed (by kernel_rfl) (by kernel_rfl) (by kernel_rfl) ?_
  refine VX_go3 (fs := []) (ok 0 _) eqs trivial 100 [] rfl (by simp [allP, arithP]) ?_
  have e : (IntKind.wrap .u64 n).tmod 4294967296 = ((n % 4294967296).toNat : Nat) := by
    rw [wrap_eq]; simp only []
    rw [Int.tmod_eq_emod_of_nonneg (by omega)]; omega
  refine VX_eq 6 rfl rfl (d' := .t 22 (.e (.int ((n % 4294967296).toNat : Nat)))) (by rw [← e]; rfl) ?_
  refine VX_callO (ok 0 _) [22, 3] [] rfl rfl rfl rfl rfl rfl rfl rfl (Big_ok (n % 4294967296).toNat 4 (by omega) (by omega) (by omega)).g rfl rfl rfl ?_
  refine VX_callO (ok 0 _) [25] [] rfl rfl rfl rfl rfl rfl rfl rfl (rdigests_ok A hA).g rfl rfl rfl ?_
  have lA := digsB_length A
  have lB := digsB_length B
  have lD := digsB_length D
  refine VX_go3 (fs := []) (ok 0 _) eqs trivial 100 [] rfl ?_ ?_
  · simp only [allP, List.length_append, bigB_length, maxI]; omega
  refine VX_callO (ok 0 _) [25] [] rfl rfl rfl rfl rfl rfl rfl rfl (rdigests_ok B hB).g rfl rfl rfl ?_
  refine VX_go3 (fs := []) (ok 0 _) eqs trivial 100 [] rfl ?_ ?_
  · simp only [allP, List.length_append, bigB_length, maxI]; omega
  refine VX_callO (ok 0 _) [25] [] rfl rfl rfl rfl rfl rfl rfl rfl (rdigests_ok D hD).g rfl rfl rfl ?_
  refine VX_go3 (fs := []) (ok 0 _) eqs trivial 100 [] rfl ?_ ?_
  · simp only [allP, List.length_append, bigB_length, maxI]; omega
  exact ⟨.inr rfl, rfl⟩
end Go.Den.Q03
