/- The calculus and the walks, part 9: Q33L, Q33N, Q33P, Q33Q, Q33R, Q33T, Q33U, Q33Z. -/
import Derived.Test.YtlhmimpbpphchaaDoorP8
import Derived.Test.YtlhmimpbpphchaaDoorP6
/- Law 33: heads, their hashes; leaves. -/
namespace Go.Den.Q33
open Go Go.Den Go.Proofs Go.Den.Q33.Dg
set_option maxRecDepth 8000
set_option linter.unusedVariables false
set_option linter.unusedSimpArgs false
open Go.Den.Q33.Sh (dgE)
open Go.Den.Q33.Me (Dig dsE All32 z0 rootB eqDg)

structure Bk where
  h : Nat
  p : Dig
  b : Nat
  cs : List (List UInt8)
  rs : List Int
  s : Dig
structure Bk.ok (x : Bk) : Prop where
  h : x.h < 18446744073709551616
  p : x.p.length = 32
  b : x.b < 18446744073709551616
  s : x.s.length = 32
def Bk.E (x : Bk) : E := .agg [.int x.h, dgE x.p, .int x.b, .sl (x.cs.map E.str), .sl (x.rs.map E.int), dgE x.s]
structure Hd where
  h : Nat
  p : Dig
  b : Nat
  s : Dig
  c : Dig
  r : Dig
  n : Nat
structure Hd.ok (x : Hd) : Prop where
  h : x.h < 18446744073709551616
  p : x.p.length = 32
  b : x.b < 18446744073709551616
  s : x.s.length = 32
  c : x.c.length = 32
  r : x.r.length = 32
  n : x.n < 4294967296
def Hd.E (x : Hd) : E := .agg [.int x.h, dgE x.p, .int x.b, dgE x.s, dgE x.c, dgE x.r, .int x.n]
def Hd.bytes (x : Hd) : List UInt8 := Wi.bigB x.h 8 ++ x.p ++ Wi.bigB x.b 8 ++ x.s ++ x.c ++ x.r ++ Wi.bigB x.n 4
def hashB (x : Hd) : Dig := ofB 205 [x.bytes]
theorem Hd.bytes_length {x : Hd} (h : x.ok) : x.bytes.length = 148 := by simp [Hd.bytes, Wi.bigB_length, h.p, h.s, h.c, h.r]
theorem hash_input {x : Hd} (h : x.ok) : (inputB 205 [x.bytes]).length ≤ 400000 := by simp [inputB, Wi.textB, Wi.bigB_length, Hd.bytes_length h]
theorem u64n (n : Nat) (h : n < 18446744073709551616) : IntKind.wrap .u64 (n : Int) = n := inR_wrap (by simp [inR]; omega)
theorem u32n (n : Nat) (h : n < 4294967296) : IntKind.wrap .u32 (n : Int) = n := inR_wrap (by simp [inR]; omega)

set_option maxHeartbeats 800000 in
theorem hash_ok {x : Hd} (h : x.ok) : FnOk Tryd.prog tb 23 [78, 59] [24] [.nilp, x.E] [dgE (hashB x)] := by
  refine FnOk_of_V (fn := Tryd.f23) (bt := 4) (ok 0 _) Tryd.func23 rfl rfl rfl (by decide) fun hw => ?_
  clear hw
  have hi := hash_input h
  obtain ⟨hh, p, b, s, c, r, n⟩ := x
  obtain ⟨h1, h2, h3, h4, h5, h6, h7⟩ := h
  simp only at h1 h2 h3 h4 h5 h6 h7
  unfold hashB
  unfold Hd.bytes at hi ⊢
  simp only at hi ⊢
  have l1 := Wi.bigB_length hh 8
  have l2 := Wi.bigB_length b 8
  have l3 := Wi.bigB_length n 4
  apply V_of_VX
  refine VX_go4 (fs := []) (ok 0 _) eqs trivial 100 [] rfl trivial ?_
  refine VX_draw [] [(0, true), (1, true), (3, true), (4, true), (7, true), (8, true), (11, true), (12, true), (15, true), (16, true), (19, true), (20, true), (23, true), (24, true), (2, false), (5, false), (6, true), (9, false), (10, true), (13, false), (14, true), (17, false), (18, true), (21, false), (22, true), (25, false), (26, true), (27, true)] mixed (by kernel_rfl) (by kernel_rfl) (by kernel_rfl) ?_
  refine VX_go4 (fs := []) (ok 0 _) eqs trivial 100 [] rfl trivial ?_
  refine VX_callO (ok 0 _) [22] [] rfl rfl rfl rfl rfl rfl rfl rfl (Wi.long_ok hh h1).g rfl rfl rfl ?_
  refine VX_callO (ok 0 _) [24] [] rfl rfl rfl rfl rfl rfl rfl rfl (digest_ok p h2).g rfl rfl rfl ?_
  refine VX_go4 (fs := []) (ok 0 _) eqs trivial 100 [] rfl (by simp [allP, maxI, l1, h2]) ?_
  refine VX_callO (ok 0 _) [22] [] rfl rfl rfl rfl rfl rfl rfl rfl (Wi.long_ok b h3).g rfl rfl rfl ?_
  refine VX_go4 (fs := []) (ok 0 _) eqs trivial 100 [] rfl (by simp [allP, maxI, l1, h2, l2]) ?_
  refine VX_callO (ok 0 _) [24] [] rfl rfl rfl rfl rfl rfl rfl rfl (digest_ok s h4).g rfl rfl rfl ?_
  refine VX_go4 (fs := []) (ok 0 _) eqs trivial 100 [] rfl (by simp [allP, maxI, l1, h2, l2, h4]) ?_
  refine VX_callO (ok 0 _) [24] [] rfl rfl rfl rfl rfl rfl rfl rfl (digest_ok c h5).g rfl rfl rfl ?_
  refine VX_go4 (fs := []) (ok 0 _) eqs trivial 100 [] rfl (by simp [allP, maxI, l1, h2, l2, h4, h5]) ?_
  refine VX_callO (ok 0 _) [24] [] rfl rfl rfl rfl rfl rfl rfl rfl (digest_ok r h6).g rfl rfl rfl ?_
  refine VX_go4 (fs := []) (ok 0 _) eqs trivial 100 [] rfl (by simp [allP, maxI, l1, h2, l2, h4, h5, h6]) ?_
  refine VX_callO (ok 0 _) [32] [] rfl rfl rfl rfl rfl rfl rfl rfl (Wi.word_ok n h7).g rfl rfl rfl ?_
  refine VX_go4 (fs := []) (ok 0 _) eqs trivial 100 [] rfl (by simp [allP, maxI, l1, h2, l2, h4, h5, h6, l3]) ?_
  generalize Wi.bigB hh 8 ++ p ++ Wi.bigB b 8 ++ s ++ c ++ r ++ Wi.bigB n 4 = X at hi ⊢
  have c2 := (of_nil 205 [X] hi).g
  generalize ofB 205 [X] = d at c2 ⊢
  refine VX_callD (ok 0 _) [78, 5, 25] [] rfl rfl rfl rfl rfl rfl c2 rfl rfl rfl ?_
  refine VX_go4 (fs := []) (ok 0 _) eqs trivial 100 [] rfl trivial ?_
  exact ⟨.inr rfl, rfl⟩
set_option maxHeartbeats 800000 in
theorem rhash_ok {x : Hd} (h : x.ok) : FnOk Tryd.prog tb 24 [61, 63] [24] [.nilp, x.E] [dgE (hashB x)] := by
  refine FnOk_of_V (fn := Tryd.f24) (bt := 4) (ok 0 _) Tryd.func24 rfl rfl rfl (by decide) fun hw => ?_
  clear hw
  have hi := hash_input h
  obtain ⟨hh, p, b, s, c, r, n⟩ := x
  obtain ⟨h1, h2, h3, h4, h5, h6, h7⟩ := h
  simp only at h1 h2 h3 h4 h5 h6 h7
  unfold hashB
  unfold Hd.bytes at hi ⊢
  simp only at hi ⊢
  have l1 := Wi.bigB_length hh 8
  have l2 := Wi.bigB_length b 8
  have l3 := Wi.bigB_length n 4
  apply V_of_VX
  refine VX_go4 (fs := []) (ok 0 _) eqs trivial 100 [] rfl trivial ?_
  refine VX_draw [] [(0, true), (1, true), (3, true), (4, true), (7, true), (8, true), (11, true), (12, true), (2, false), (5, false), (6, true), (9, false), (10, true), (13, false), (14, true), (15, true)] mixed (by kernel_rfl) (by kernel_rfl) (by kernel_rfl) ?_
  refine VX_go4 (fs := []) (ok 0 _) eqs trivial 100 [] rfl trivial ?_
  refine VX_callO (ok 0 _) [22, 3] [] rfl rfl rfl rfl rfl rfl rfl rfl (Wi.Big_ok hh 8 (by omega) (by omega) h1).g rfl rfl rfl ?_
  refine VX_callO (ok 0 _) [24] [] rfl rfl rfl rfl rfl rfl rfl rfl (bytes_ok p h2).g rfl rfl rfl ?_
  refine VX_go4 (fs := []) (ok 0 _) eqs trivial 100 [] rfl (by simp [allP, maxI, l1, h2]) ?_
  refine VX_callO (ok 0 _) [22, 3] [] rfl rfl rfl rfl rfl rfl rfl rfl (Wi.Big_ok b 8 (by omega) (by omega) h3).g rfl rfl rfl ?_
  refine VX_go4 (fs := []) (ok 0 _) eqs trivial 100 [] rfl (by simp [allP, maxI, l1, h2, l2]) ?_
  refine VX_callO (ok 0 _) [24] [] rfl rfl rfl rfl rfl rfl rfl rfl (bytes_ok s h4).g rfl rfl rfl ?_
  refine VX_go4 (fs := []) (ok 0 _) eqs trivial 100 [] rfl (by simp [allP, maxI, l1, h2, l2, h4]) ?_
  refine VX_draw [] [(0, true), (1, true), (2, true), (5, true), (6, true), (9, true), (10, true), (11, true), (3, false), (4, true), (7, false), (8, true), (12, false), (13, true), (14, true)] mixed (by kernel_rfl) (by kernel_rfl) (by kernel_rfl) ?_
  refine VX_go4 (fs := []) (ok 0 _) eqs trivial 100 [24] rfl trivial ?_
  refine VX_eq 32 rfl rfl (d' := .t 22 (.e (.int n))) (congrArg (fun x => D.t 22 (.e (.int x))) (u64n n (by omega))) ?_
  refine VX_callO (ok 0 _) [24] [] rfl rfl rfl rfl rfl rfl rfl rfl (bytes_ok c h5).g rfl rfl rfl ?_
  refine VX_go4 (fs := []) (ok 0 _) eqs trivial 100 [] rfl (by simp [allP, maxI, l1, h2, l2, h4, h5]) ?_
  refine VX_callO (ok 0 _) [24] [] rfl rfl rfl rfl rfl rfl rfl rfl (bytes_ok r h6).g rfl rfl rfl ?_
  refine VX_go4 (fs := []) (ok 0 _) eqs trivial 100 [] rfl (by simp [allP, maxI, l1, h2, l2, h4, h5, h6]) ?_
  refine VX_callO (ok 0 _) [22, 3] [] rfl rfl rfl rfl rfl rfl rfl rfl (Wi.Big_ok n 4 (by omega) (by omega) (by omega)).g rfl rfl rfl ?_
  refine VX_go4 (fs := []) (ok 0 _) eqs trivial 100 [] rfl (by simp [allP, maxI, l1, h2, l2, h4, h5, h6, l3]) ?_
  generalize Wi.bigB hh 8 ++ p ++ Wi.bigB b 8 ++ s ++ c ++ r ++ Wi.bigB n 4 = X at hi ⊢
  have c2 := (rof_nil 205 [X] hi).g
  generalize ofB 205 [X] = d at c2 ⊢
  refine VX_callD (ok 0 _) [61, 5, 25] [] rfl rfl rfl rfl rfl rfl c2 rfl rfl rfl ?_
  refine VX_go4 (fs := []) (ok 0 _) eqs trivial 100 [] rfl trivial ?_
  exact ⟨.inr rfl, rfl⟩

/-! ### leaves -/
def callB (s : List UInt8) : Dig := ofB 203 [s]
def recB (i : Nat) (e : Int) : Dig := ofB 204 [Wi.bigB i 4, Wi.bigB (e % 18446744073709551616).toNat 8]
theorem call_input {s : List UInt8} (h : s.length ≤ 30000) : (inputB 203 [s]).length ≤ 400000 := by simp [inputB, Wi.textB, Wi.bigB_length]; omega
theorem rec_input (i : Nat) (e : Int) : (inputB 204 [Wi.bigB i 4, Wi.bigB (e % 18446744073709551616).toNat 8]).length ≤ 400000 := by simp [inputB, Wi.textB, Wi.bigB_length]
theorem u64e (e : Int) : IntKind.wrap .u64 e = (((e % 18446744073709551616).toNat : Nat) : Int) ∧ (e % 18446744073709551616).toNat < 18446744073709551616 := by
  have h1 := Int.emod_nonneg e (show (18446744073709551616 : Int) ≠ 0 by decide)
  have h2 := Int.emod_lt_of_pos e (show (0 : Int) < 18446744073709551616 by decide)
  rw [wrap_eq]; simp only; omega
theorem call_ok {s : List UInt8} (h : s.length ≤ 30000) : FnOk Tryd.prog tb 36 [78, 9] [24] [.nilp, .str s] [dgE (callB s)] := by
  refine FnOk_of_V (fn := Tryd.f36) (bt := 4) (ok 0 _) Tryd.func36 rfl rfl rfl (by decide) fun hw => ?_
  clear hw
  apply V_of_VX
  have c2 := (of_nil 203 [s] (call_input h)).g
  unfold callB
  generalize ofB 203 [s] = d at c2 ⊢
  refine VX_go4 (fs := []) (ok 0 _) eqs trivial 100 [] rfl trivial ?_
  refine VX_callD (ok 0 _) [78, 5, 25] [] rfl rfl rfl rfl rfl rfl c2 rfl rfl rfl ?_
  refine VX_go4 (fs := []) (ok 0 _) eqs trivial 100 [] rfl trivial ?_
  exact ⟨.inr rfl, rfl⟩
theorem rec_ok {i : Nat} (h : i < 4294967296) (e : Int) : FnOk Tryd.prog tb 37 [78, 3, 33] [24] [.nilp, .int i, .int e] [dgE (recB i e)] := by
  refine FnOk_of_V (fn := Tryd.f37) (bt := 4) (ok 0 _) Tryd.func37 rfl rfl rfl (by decide) fun hw => ?_
  clear hw
  apply V_of_VX
  have hi := rec_input i e
  have he := u64e e
  unfold recB
  generalize (e % 18446744073709551616).toNat = n at hi he ⊢
  have c2 := (of_nil 204 [Wi.bigB i 4, Wi.bigB n 8] hi).g
  generalize ofB 204 [Wi.bigB i 4, Wi.bigB n 8] = d at c2 ⊢
  refine VX_go4 (fs := []) (ok 0 _) eqs trivial 100 [10] rfl trivial ?_
  refine VX_eq 9 rfl rfl (d' := .t 32 (.e (.int i))) (congrArg (fun x => D.t 32 (.e (.int x))) (u32n i h)) ?_
  refine VX_callD (ok 0 _) [32] [] rfl rfl rfl rfl rfl rfl (Wi.word_ok i h).g rfl rfl rfl ?_
  refine VX_go4 (fs := []) (ok 0 _) eqs trivial 100 [13] rfl trivial ?_
  refine VX_eq 12 rfl rfl (d' := .t 22 (.e (.int n))) (congrArg (fun x => D.t 22 (.e (.int x))) he.1) ?_
  refine VX_callD (ok 0 _) [22] [] rfl rfl rfl rfl rfl rfl (Wi.long_ok n he.2).g rfl rfl rfl ?_
  refine VX_go4 (fs := []) (ok 0 _) eqs trivial 100 [] rfl trivial ?_
  refine VX_callD (ok 0 _) [78, 5, 25] [] rfl rfl rfl rfl rfl rfl c2 rfl rfl rfl ?_
  refine VX_go4 (fs := []) (ok 0 _) eqs trivial 100 [] rfl trivial ?_
  exact ⟨.inr rfl, rfl⟩
theorem rrec_ok {i : Nat} (h : i < 4294967296) (e : Int) : FnOk Tryd.prog tb 40 [61, 22, 3] [24] [.nilp, .int i, .int e] [dgE (recB i e)] := by
  refine FnOk_of_V (fn := Tryd.f40) (bt := 4) (ok 0 _) Tryd.func40 rfl rfl rfl (by decide) fun hw => ?_
  clear hw
  apply V_of_VX
  have hi := rec_input i e
  have he := u64e e
  unfold recB
  generalize (e % 18446744073709551616).toNat = n at hi he ⊢
  have c2 := (rof_nil 204 [Wi.bigB i 4, Wi.bigB n 8] hi).g
  generalize ofB 204 [Wi.bigB i 4, Wi.bigB n 8] = d at c2 ⊢
  refine VX_go4 (fs := []) (ok 0 _) eqs trivial 100 [] rfl trivial ?_
  refine VX_callD (ok 0 _) [22, 3] [] rfl rfl rfl rfl rfl rfl (Wi.Big_ok i 4 (by omega) (by omega) (by omega)).g rfl rfl rfl ?_
  refine VX_go4 (fs := []) (ok 0 _) eqs trivial 100 [12] rfl trivial ?_
  refine VX_eq 11 rfl rfl (d' := .t 22 (.e (.int n))) (congrArg (fun x => D.t 22 (.e (.int x))) he.1) ?_
  refine VX_callD (ok 0 _) [22, 3] [] rfl rfl rfl rfl rfl rfl (Wi.Big_ok n 8 (by omega) (by omega) he.2).g rfl rfl rfl ?_
  refine VX_go4 (fs := []) (ok 0 _) eqs trivial 100 [] rfl trivial ?_
  refine VX_callD (ok 0 _) [61, 5, 25] [] rfl rfl rfl rfl rfl rfl c2 rfl rfl rfl ?_
  refine VX_go4 (fs := []) (ok 0 _) eqs trivial 100 [] rfl trivial ?_
  exact ⟨.inr rfl, rfl⟩
end Go.Den.Q33
/- Law 33: leaves; what is gone through; conversions. -/
namespace Go.Den.Q33
open Go Go.Den Go.Proofs Go.Den.Q33.Dg
set_option maxRecDepth 8000
set_option linter.unusedVariables false
set_option linter.unusedSimpArgs false
open Go.Den.Q33.Sh (dgE)
open Go.Den.Q33.Me (Dig dsE All32 z0 rootB eqDg)

def cL (cs : List (List UInt8)) : List Dig := cs.map callB
def rL (rs : List Int) : List Dig := (List.range rs.length).map fun i => recB i (rs.getD i 0)
theorem cL_length (cs : List (List UInt8)) : (cL cs).length = cs.length := by simp [cL]
theorem rL_length (rs : List Int) : (rL rs).length = rs.length := by simp [rL]
theorem cL_all (cs : List (List UInt8)) : All32 (cL cs) := fun d hd => by
  obtain ⟨x, _, rfl⟩ := List.mem_map.1 hd; exact ofB_length _ _
theorem rL_all (rs : List Int) : All32 (rL rs) := fun d hd => by
  obtain ⟨x, _, rfl⟩ := List.mem_map.1 hd; exact ofB_length _ _
theorem cL_take (cs : List (List UInt8)) (i : Nat) (h : i < cs.length) : (cL cs).take (i + 1) = (cL cs).take i ++ [callB (cs.getD i [])] := by
  rw [List.take_add_one, List.getElem?_eq_getElem (by rw [cL_length]; exact h)]
  simp [cL, List.getD, h]
theorem rL_take (rs : List Int) (i : Nat) (h : i < rs.length) : (rL rs).take (i + 1) = (rL rs).take i ++ [recB i (rs.getD i 0)] := by
  rw [List.take_add_one, List.getElem?_eq_getElem (by rw [rL_length]; exact h)]
  simp [rL]
theorem str_get {cs : List (List UInt8)} {i : Nat} (h : i < cs.length) : (cs.map E.str).getD i .nilp = .str (cs.getD i []) := by simp [List.getD, h]
theorem int_get {rs : List Int} {i : Nat} (h : i < rs.length) : (rs.map E.int).getD i .nilp = .int (rs.getD i 0) := by simp [List.getD, h]
theorem getD_mem {cs : List (List UInt8)} {i : Nat} (h : i < cs.length) : cs.getD i [] ∈ cs := by
  simp [List.getD, h]
def Small (x : Bk) : Prop := x.cs.length ≤ 1000 ∧ x.rs.length ≤ 1000 ∧ ∀ s ∈ x.cs, s.length ≤ 30000

set_option maxHeartbeats 800000 in
theorem leaves_ok {x : Bk} (h : Small x) : FnOk Tryd.prog tb 28 [78, 28] [34, 34] [.nilp, x.E] [dsE (cL x.cs), dsE (rL x.rs)] := by
  refine FnOk_of_V (fn := Tryd.f28) (bt := 4) (ok 0 _) Tryd.func28 rfl rfl rfl (by decide) fun hw => ?_
  clear hw
  obtain ⟨xh, xp, xb, cs, rs, xs⟩ := x
  obtain ⟨hc, hr, hs⟩ := h
  simp only at hc hr hs ⊢
  have hcm : (cs.map E.str).length = cs.length := by simp
  have hrm : (rs.map E.int).length = rs.length := by simp
  apply V_of_VX
  refine VX_go4 (fs := []) (ok 0 _) eqs trivial 100 [] rfl trivial ?_
  refine VX_promote 6 (u := 24) rfl rfl ?_
  refine VX_loopA (fun i : Nat => i ≤ cs.length) (fun i => [(15, .t 3 (.e (.int i))), (14, .t 3 (.e (.int cs.length))), (13, .t 25 (.e (.sl (cs.map E.str)))), (7, .t 34 .nsl), (6, .t 34 (.lsl 1 (((cL cs).take i).map dgE))), (3, .ptr 0 []), (0, .t 78 (.e .nilp))])
    (fun i => [.tree 28 (.e (Bk.E ⟨xh, xp, xb, cs, rs, xs⟩)), .row 24 (((cL cs).take i).map dgE).length]) (fun i => cs.length - i) 0 (by omega) ?_ ?_
  · exact wk1 rfl rfl (by simp [Blk.under, T.under]) (lc (ls rfl rfl) (lc (li (by rw [hcm])) (lc (ls rfl rfl) (lc (ls rfl rfl) (lc (ls rfl rfl) (lc (ls rfl rfl) (lc (ls rfl rfl) lnil)))))))
  · intro i hi
    have htl : (((cL cs).take i).map dgE).length ≤ 1000 := by simp; omega
    refine VX_go4 (fs := []) (ok 0 _) eqs trivial 100 [] rfl trivial ?_
    refine VX_split 16 rfl rfl (fun h => ?_) (fun h => ?_)
    · have hi : i < cs.length := by simpa using h
      have ei : IntKind.wrap .i64 ((i : Int) + 1) = ((i + 1 : Nat) : Int) := by rw [w64 (by omega) (by omega)]; simp
      have hg := str_get hi
      have hb := hs _ (getD_mem hi)
      have hm : ((cL cs).take (i + 1)).map dgE = ((cL cs).take i).map dgE ++ [dgE (callB (cs.getD i []))] := by rw [cL_take cs i hi]; simp
      have c1 := (call_ok hb).g
      generalize callB (cs.getD i []) = d at c1 hm
      generalize cs.getD i [] = s at c1 hg
      generalize ((cL cs).take i).map dgE = O at hm htl ⊢
      refine VX_go4 (fs := []) (ok 0 _) eqs trivial 100 [9] rfl (by simp [allP]; omega) ?_
      refine VX_eq 18 rfl rfl (d' := .t 9 (.e (.str s))) (congrArg (fun x => D.t 9 (.e x)) hg) ?_
      refine VX_go4 (fs := []) (ok 0 _) eqs trivial 100 [] rfl trivial ?_
      refine VX_callD (ok 0 _) [78, 9] [] rfl rfl rfl rfl rfl rfl c1 rfl rfl rfl ?_
      refine VX_go4 (fs := []) (ok 0 _) eqs trivial 100 [] rfl (by simp [allP, nb, tb, maxL]; omega) ?_
      refine loop_nrm ⟨i + 1, by omega, by omega, ?_⟩
      exact wk1 (by rw [hm]) rfl (by simp [Blk.under, T.under]) (lc (li (by rw [ei])) (lc (ls rfl rfl) (lc (ls rfl rfl) (lc (ls rfl rfl) (lc (ls (by rw [hm]; rfl) rfl) (lc (ls rfl rfl) (lc (ls rfl rfl) lnil)))))))
    · have hi' : i = cs.length := by simp at h; omega
      subst hi'
      have : (cL cs).take cs.length = cL cs := List.take_of_length_le (by rw [cL_length]; exact Nat.le_refl _)
      rw [this]
      generalize cL cs = A
      refine VX_go4 (fs := []) (ok 0 _) eqs trivial 100 [] rfl trivial ?_
      apply loop_brk
      refine VX_go4 (fs := []) (ok 0 _) eqs trivial 100 [] rfl trivial ?_
      refine VX_promote 7 (u := 24) rfl rfl ?_
      refine VX_loopA (fun i : Nat => i ≤ rs.length) (fun i => [(29, .t 3 (.e (.int i))), (28, .t 3 (.e (.int rs.length))), (27, .t 26 (.e (.sl (rs.map E.int)))), (7, .t 34 (.lsl 2 (((rL rs).take i).map dgE))), (6, .t 34 (.lsl 1 (A.map dgE))), (3, .ptr 0 []), (0, .t 78 (.e .nilp))])
        (fun i => [.tree 28 (.e (Bk.E ⟨xh, xp, xb, cs, rs, xs⟩)), .row 24 (A.map dgE).length, .row 24 (((rL rs).take i).map dgE).length]) (fun i => rs.length - i) 0 (by omega) ?_ ?_
      · exact wk1 rfl rfl (by simp [Blk.under, T.under]) (lc (ls rfl rfl) (lc (li (by rw [hrm])) (lc (ls rfl rfl) (lc (ls rfl rfl) (lc (ls rfl rfl) (lc (ls rfl rfl) (lc (ls rfl rfl) lnil)))))))
      · intro i hi
        have htl : (((rL rs).take i).map dgE).length ≤ 1000 := by simp; omega
        refine VX_go4 (fs := []) (ok 0 _) eqs trivial 100 [] rfl trivial ?_
        refine VX_split 30 rfl rfl (fun h => ?_) (fun h => ?_)
        · have hi : i < rs.length := by simpa using h
          have ei : IntKind.wrap .i64 ((i : Int) + 1) = ((i + 1 : Nat) : Int) := by rw [w64 (by omega) (by omega)]; simp
          have hg := int_get hi
          have hm : ((rL rs).take (i + 1)).map dgE = ((rL rs).take i).map dgE ++ [dgE (recB i (rs.getD i 0))] := by rw [rL_take rs i hi]; simp
          have c1 := (rec_ok (i := i) (by omega) (rs.getD i 0)).g
          generalize recB i (rs.getD i 0) = d at c1 hm
          generalize rs.getD i 0 = s at c1 hg
          generalize ((rL rs).take i).map dgE = O at hm htl ⊢
          refine VX_go4 (fs := []) (ok 0 _) eqs trivial 100 [11] rfl (by simp [allP]; omega) ?_
          refine VX_eq 33 rfl rfl (d' := .t 33 (.e (.int s))) (congrArg (fun x => D.t 33 (.e x)) hg) ?_
          refine VX_go4 (fs := []) (ok 0 _) eqs trivial 100 [] rfl trivial ?_
          refine VX_callD (ok 0 _) [78, 3, 33] [] rfl rfl rfl rfl rfl rfl c1 rfl rfl rfl ?_
          refine VX_go4 (fs := []) (ok 0 _) eqs trivial 100 [] rfl (by simp [allP, nb, tb, maxL]; omega) ?_
          refine loop_nrm ⟨i + 1, by omega, by omega, ?_⟩
          exact wk1 (by rw [hm]) rfl (by simp [Blk.under, T.under]) (lc (li (by rw [ei])) (lc (ls rfl rfl) (lc (ls rfl rfl) (lc (ls (by rw [hm]; rfl) rfl) (lc (ls rfl rfl) (lc (ls rfl rfl) (lc (ls rfl rfl) lnil)))))))
        · have hi' : i = rs.length := by simp at h; omega
          subst hi'
          have : (rL rs).take rs.length = rL rs := List.take_of_length_le (by rw [rL_length]; exact Nat.le_refl _)
          rw [this]
          generalize rL rs = R
          refine VX_go4 (fs := []) (ok 0 _) eqs trivial 100 [] rfl trivial ?_
          apply loop_brk
          refine VX_go4 (fs := []) (ok 0 _) eqs trivial 100 [] rfl trivial ?_
          exact ⟨.inr rfl, rfl⟩
set_option maxHeartbeats 800000 in
theorem rleaves_ok {x : Bk} (h : Small x) : FnOk Tryd.prog tb 30 [61, 47] [34, 34] [.nilp, x.E] [dsE (cL x.cs), dsE (rL x.rs)] := by
  refine FnOk_of_V (fn := Tryd.f30) (bt := 4) (ok 0 _) Tryd.func30 rfl rfl rfl (by decide) fun hw => ?_
  clear hw
  obtain ⟨xh, xp, xb, cs, rs, xs⟩ := x
  obtain ⟨hc, hr, hs⟩ := h
  simp only at hc hr hs ⊢
  have hcm : (cs.map E.str).length = cs.length := by simp
  have hrm : (rs.map E.int).length = rs.length := by simp
  apply V_of_VX
  refine VX_go4 (fs := []) (ok 0 _) eqs trivial 100 [] rfl trivial ?_
  refine VX_promote 6 (u := 24) rfl rfl ?_
  refine VX_loopA (fun i : Nat => i ≤ cs.length) (fun i => [(13, .t 3 (.e (.int i))), (12, .t 3 (.e (.int cs.length))), (7, .t 34 .nsl), (6, .t 34 (.lsl 1 (((cL cs).take i).map dgE))), (3, .ptr 0 []), (0, .t 61 (.e .nilp))])
    (fun i => [.tree 47 (.e (Bk.E ⟨xh, xp, xb, cs, rs, xs⟩)), .row 24 (((cL cs).take i).map dgE).length]) (fun i => cs.length - i) 0 (by omega) ?_ ?_
  · exact wk1 rfl rfl (by simp [Blk.under, T.under]) (lc (ls rfl rfl) (lc (li (by rw [hcm])) (lc (ls rfl rfl) (lc (ls rfl rfl) (lc (ls rfl rfl) (lc (ls rfl rfl) lnil))))))
  · intro i hi
    have htl : (((cL cs).take i).map dgE).length ≤ 1000 := by simp; omega
    refine VX_go4 (fs := []) (ok 0 _) eqs trivial 100 [] rfl trivial ?_
    refine VX_split 14 rfl rfl (fun h => ?_) (fun h => ?_)
    · have hi : i < cs.length := by simpa using h
      have ei : IntKind.wrap .i64 ((i : Int) + 1) = ((i + 1 : Nat) : Int) := by rw [w64 (by omega) (by omega)]; simp
      have hg := str_get hi
      have hb := hs _ (getD_mem hi)
      have hm : ((cL cs).take (i + 1)).map dgE = ((cL cs).take i).map dgE ++ [dgE (callB (cs.getD i []))] := by rw [cL_take cs i hi]; simp
      have c1 := (rof_nil 203 [cs.getD i []] (call_input hb)).g
      have hd : callB (cs.getD i []) = ofB 203 [cs.getD i []] := rfl
      rw [hd] at hm
      generalize ofB 203 [cs.getD i []] = d at c1 hm
      generalize cs.getD i [] = s at c1 hg
      generalize ((cL cs).take i).map dgE = O at hm htl ⊢
      refine VX_go4 (fs := []) (ok 0 _) eqs trivial 100 [23] rfl (by simp [allP]; omega) ?_
      refine VX_eq 22 rfl rfl (d' := .t 9 (.e (.str s))) (congrArg (fun x => D.t 9 (.e x)) hg) ?_
      refine VX_go4 (fs := []) (ok 0 _) eqs trivial 100 [] rfl trivial ?_
      refine VX_callD (ok 0 _) [61, 5, 25] [] rfl rfl rfl rfl rfl rfl c1 rfl rfl rfl ?_
      refine VX_go4 (fs := []) (ok 0 _) eqs trivial 100 [] rfl (by simp [allP, nb, tb, maxL]; omega) ?_
      refine loop_nrm ⟨i + 1, by omega, by omega, ?_⟩
      exact wk1 (by rw [hm]) rfl (by simp [Blk.under, T.under]) (lc (li (by rw [ei])) (lc (ls rfl rfl) (lc (ls rfl rfl) (lc (ls (by rw [hm]; rfl) rfl) (lc (ls rfl rfl) (lc (ls rfl rfl) lnil))))))
    · have hi' : i = cs.length := by simp at h; omega
      subst hi'
      have : (cL cs).take cs.length = cL cs := List.take_of_length_le (by rw [cL_length]; exact Nat.le_refl _)
      rw [this]
      generalize cL cs = A
      refine VX_go4 (fs := []) (ok 0 _) eqs trivial 100 [] rfl trivial ?_
      apply loop_brk
      refine VX_go4 (fs := []) (ok 0 _) eqs trivial 100 [] rfl trivial ?_
      refine VX_promote 7 (u := 24) rfl rfl ?_
      refine VX_loopA (fun i : Nat => i ≤ rs.length) (fun i => [(31, .t 3 (.e (.int i))), (30, .t 3 (.e (.int rs.length))), (7, .t 34 (.lsl 2 (((rL rs).take i).map dgE))), (6, .t 34 (.lsl 1 (A.map dgE))), (3, .ptr 0 []), (0, .t 61 (.e .nilp))])
        (fun i => [.tree 47 (.e (Bk.E ⟨xh, xp, xb, cs, rs, xs⟩)), .row 24 (A.map dgE).length, .row 24 (((rL rs).take i).map dgE).length]) (fun i => rs.length - i) 0 (by omega) ?_ ?_
      · exact wk1 rfl rfl (by simp [Blk.under, T.under]) (lc (ls rfl rfl) (lc (li (by rw [hrm])) (lc (ls rfl rfl) (lc (ls rfl rfl) (lc (ls rfl rfl) (lc (ls rfl rfl) lnil))))))
      · intro i hi
        have htl : (((rL rs).take i).map dgE).length ≤ 1000 := by simp; omega
        refine VX_go4 (fs := []) (ok 0 _) eqs trivial 100 [] rfl trivial ?_
        refine VX_split 32 rfl rfl (fun h => ?_) (fun h => ?_)
        · have hi : i < rs.length := by simpa using h
          have ei : IntKind.wrap .i64 ((i : Int) + 1) = ((i + 1 : Nat) : Int) := by rw [w64 (by omega) (by omega)]; simp
          have hg := int_get hi
          have hm : ((rL rs).take (i + 1)).map dgE = ((rL rs).take i).map dgE ++ [dgE (recB i (rs.getD i 0))] := by rw [rL_take rs i hi]; simp
          have c1 := (rrec_ok (i := i) (by omega) (rs.getD i 0)).g
          generalize recB i (rs.getD i 0) = d at c1 hm
          generalize rs.getD i 0 = s at c1 hg
          generalize ((rL rs).take i).map dgE = O at hm htl ⊢
          refine VX_go4 (fs := []) (ok 0 _) eqs trivial 100 [38] rfl trivial ?_
          refine VX_eq 37 rfl rfl (d' := .t 22 (.e (.int i))) (congrArg (fun x => D.t 22 (.e (.int x))) (u64n i (by omega))) ?_
          refine VX_go4 (fs := []) (ok 0 _) eqs trivial 100 [43] rfl (by simp [allP]; omega) ?_
          refine VX_eq 42 rfl rfl (d' := .t 3 (.e (.int s))) (congrArg (fun x => D.t 3 (.e x)) hg) ?_
          refine VX_callD (ok 0 _) [61, 22, 3] [] rfl rfl rfl rfl rfl rfl c1 rfl rfl rfl ?_
          refine VX_go4 (fs := []) (ok 0 _) eqs trivial 100 [] rfl (by simp [allP, nb, tb, maxL]; omega) ?_
          refine loop_nrm ⟨i + 1, by omega, by omega, ?_⟩
          exact wk1 (by rw [hm]) rfl (by simp [Blk.under, T.under]) (lc (li (by rw [ei])) (lc (ls rfl rfl) (lc (ls (by rw [hm]; rfl) rfl) (lc (ls rfl rfl) (lc (ls rfl rfl) (lc (ls rfl rfl) lnil))))))
        · have hi' : i = rs.length := by simp at h; omega
          subst hi'
          have : (rL rs).take rs.length = rL rs := List.take_of_length_le (by rw [rL_length]; exact Nat.le_refl _)
          rw [this]
          generalize rL rs = R
          refine VX_go4 (fs := []) (ok 0 _) eqs trivial 100 [] rfl trivial ?_
          apply loop_brk
          refine VX_go4 (fs := []) (ok 0 _) eqs trivial 100 [] rfl trivial ?_
          exact ⟨.inr rfl, rfl⟩

/-! ### conversions -/
set_option maxHeartbeats 800000 in
theorem to_ok (x : Bk) (hr : x.rs.length ≤ 100000) : FnOk Tryd.prog tb 11 [28] [47] [x.E] [x.E] := by
  refine FnOk_of_V (fn := Tryd.f11) (bt := 4) (ok 0 _) Tryd.func11 rfl rfl rfl (by decide) fun hw => ?_
  clear hw
  obtain ⟨xh, xp, xb, cs, rs, xs⟩ := x
  simp only at hr
  have hrm : (rs.map E.int).length = rs.length := by simp
  apply V_of_VX
  refine VX_go4 (fs := []) (ok 0 _) eqs trivial 100 [16] rfl trivial ?_
  refine VX_op rfl rfl (Ok_buildT (ok 0 _) rfl rfl rfl rfl).v ?_
  rintro d s ⟨rfl, rfl⟩
  refine VX_go4 (fs := []) (ok 0 _) eqs trivial 100 [] rfl trivial ?_
  refine VX_promT (ok 0 _) rfl 2 [4] rfl rfl rfl rfl rfl ?_
  refine VX_loopA (fun i : Nat => i ≤ rs.length) (fun i => [(20, .t 3 (.e (.int i))), (19, .t 3 (.e (.int rs.length))), (18, .t 26 (.e (.sl (rs.map E.int)))), (3, .ptr 2 []), (2, .ptr 1 [])])
    (fun i => [.tree 28 (.e (Bk.E ⟨xh, xp, xb, cs, rs, xs⟩)), .tree 47 (.st [.e (.int 0), .e (dgE z0), .e (.int 0), .nsl, .nsl, .e (dgE z0)]), .tree 47 (.st [.e (.int xh), .e (dgE xp), .e (.int xb), .e (.sl (cs.map E.str)), .lsl 3 ((rs.take i).map E.int), .e (dgE xs)]), .row 3 ((rs.take i).map E.int).length]) (fun i => rs.length - i) 0 (by omega) ?_ ?_
  · exact wk1 rfl rfl (by simp [Blk.under, T.under, T.unders]) (lc (ls rfl rfl) (lc (li (by rw [hrm])) (lc (ls rfl rfl) (lc (ls rfl rfl) (lc (ls rfl rfl) lnil)))))
  · intro i hi
    have htl : ((rs.take i).map E.int).length ≤ 100000 := by simp; omega
    refine VX_go4 (fs := []) (ok 0 _) eqs trivial 100 [] rfl trivial ?_
    refine VX_split 21 rfl rfl (fun h => ?_) (fun h => ?_)
    · have hi : i < rs.length := by simpa using h
      have ei : IntKind.wrap .i64 ((i : Int) + 1) = ((i + 1 : Nat) : Int) := by rw [w64 (by omega) (by omega)]; simp
      have hg := int_get hi
      have hm : (rs.take (i + 1)).map E.int = (rs.take i).map E.int ++ [.int (rs.getD i 0)] := by
        rw [List.take_add_one, List.getElem?_eq_getElem hi, List.map_append]; simp [List.getD, hi]
      generalize rs.getD i 0 = r at hg hm
      generalize (rs.take i).map E.int = O at hm htl ⊢
      refine VX_go4 (fs := []) (ok 0 _) eqs trivial 100 [5] rfl (by simp [allP]; omega) ?_
      refine VX_eq 23 rfl rfl (d' := .t 33 (.e (.int r))) (congrArg (fun x => D.t 33 (.e x)) hg) ?_
      refine VX_go4 (fs := []) (ok 0 _) eqs trivial 100 [] rfl (by simp [allP, nb, tb, maxL]; omega) ?_
      refine loop_nrm ⟨i + 1, by omega, by omega, ?_⟩
      exact wk1 (by rw [hm]; rfl) rfl (by simp [Blk.under, T.under, T.unders]) (lc (li (by rw [ei])) (lc (ls rfl rfl) (lc (ls rfl rfl) (lc (ls rfl rfl) (lc (ls rfl rfl) lnil)))))
    · have hi' : i = rs.length := by simp at h; omega
      subst hi'
      rw [List.take_length]
      refine VX_go4 (fs := []) (ok 0 _) eqs trivial 100 [] rfl trivial ?_
      apply loop_brk
      refine VX_go4 (fs := []) (ok 0 _) eqs trivial 100 [] rfl trivial ?_
      exact ⟨.inr rfl, rfl⟩
structure Pf where
  a : Nat
  c : List UInt8
  e : Int
  cs : List Dig
  rs : List Dig
def Pf.E (x : Pf) : E := .agg [.int x.a, .str x.c, .int x.e, dsE x.cs, dsE x.rs]
theorem proof_ok (x : Pf) : FnOk Tryd.prog tb 13 [36] [42] [x.E] [x.E] := by
  refine FnOk_of_V (fn := Tryd.f13) (bt := 4) (ok 0 _) Tryd.func13 rfl rfl rfl (by decide) fun hw => ?_
  clear hw
  obtain ⟨a, c, e, cs, rs⟩ := x
  apply V_of_VX
  refine VX_go4 (fs := []) (ok 0 _) eqs trivial 100 [] rfl trivial ?_
  exact ⟨.inr rfl, rfl⟩
theorem same_ok (x : Pf) (h1 : x.cs.length ≤ 100000) (h2 : x.rs.length ≤ 100000) : FnOk Tryd.prog tb 12 [42, 42] [4] [x.E, x.E] [.bool true] := by
  refine FnOk_of_V (fn := Tryd.f12) (bt := 4) (ok 0 _) Tryd.func12 rfl rfl rfl (by decide) fun hw => ?_
  clear hw
  obtain ⟨a, c, e, cs, rs⟩ := x
  simp only at h1 h2
  apply V_of_VX
  refine VX_go4 (fs := []) (ok 0 _) eqs trivial 100 [] rfl trivial ?_
  refine VX_known 10 true rfl rfl (by simp) ?_
  refine VX_go4 (fs := []) (ok 0 _) eqs trivial 100 [] rfl trivial ?_
  refine VX_known 17 true rfl rfl (by simp) ?_
  refine VX_go4 (fs := []) (ok 0 _) eqs trivial 100 [] rfl trivial ?_
  refine VX_known 24 true rfl rfl (by simp) ?_
  refine VX_go4 (fs := []) (ok 0 _) eqs trivial 100 [] rfl trivial ?_
  refine VX_callD (ok 0 _) [34, 34] [] rfl rfl rfl rfl rfl rfl (Me.sameList_ok (L := cs) h1).g rfl rfl rfl ?_
  refine VX_go4 (fs := []) (ok 0 _) eqs trivial 100 [] rfl trivial ?_
  refine VX_known 31 true rfl rfl rfl ?_
  refine VX_go4 (fs := []) (ok 0 _) eqs trivial 100 [] rfl trivial ?_
  refine VX_callD (ok 0 _) [34, 34] [] rfl rfl rfl rfl rfl rfl (Me.sameList_ok (L := rs) h2).g rfl rfl rfl ?_
  refine VX_go4 (fs := []) (ok 0 _) eqs trivial 100 [] rfl trivial ?_
  exact ⟨.inr rfl, rfl⟩

def z0h : Hd := ⟨0, z0, 0, z0, z0, z0, 0⟩
def hsE (hs : List Hd) : E := .sl (hs.map Hd.E)
def liE (hs : List Hd) : E := .agg [hsE hs]
theorem hd_get {hs : List Hd} {i : Nat} (h : i < hs.length) : (hs.map Hd.E).getD i .nilp = (hs.getD i z0h).E := by simp [List.getD, h]
theorem hd_take (hs : List Hd) (i : Nat) (h : i < hs.length) : (hs.take (i + 1)).map Hd.E = (hs.take i).map Hd.E ++ [(hs.getD i z0h).E] := by
  rw [List.take_add_one, List.getElem?_eq_getElem h, List.map_append]; simp [List.getD, h]
theorem heads_ok (hs : List Hd) (hl : hs.length ≤ 100000) : FnOk Tryd.prog tb 16 [31] [53] [liE hs] [hsE hs] := by
  refine FnOk_of_V (fn := Tryd.f16) (bt := 4) (ok 0 _) Tryd.func16 rfl rfl rfl (by decide) fun hw => ?_
  clear hw
  have hrm : (hs.map Hd.E).length = hs.length := by simp
  apply V_of_VX
  refine VX_go4 (fs := []) (ok 0 _) eqs trivial 100 [] rfl trivial ?_
  refine VX_promote 3 (u := 63) rfl rfl ?_
  refine VX_loopA (fun i : Nat => i ≤ hs.length) (fun i => [(9, .t 3 (.e (.int i))), (8, .t 3 (.e (.int hs.length))), (7, .t 29 (.e (hsE hs))), (3, .t 53 (.lsl 1 ((hs.take i).map Hd.E)))])
    (fun i => [.tree 31 (.e (liE hs)), .row 63 ((hs.take i).map Hd.E).length]) (fun i => hs.length - i) 0 (by omega) ?_ ?_
  · exact wk1 rfl rfl (by simp [Blk.under, T.under]) (lc (ls rfl rfl) (lc (li (by rw [hrm])) (lc (ls rfl rfl) (lc (ls rfl rfl) lnil))))
  · intro i hi
    have htl : ((hs.take i).map Hd.E).length ≤ 100000 := by simp; omega
    refine VX_go4 (fs := []) (ok 0 _) eqs trivial 100 [] rfl trivial ?_
    refine VX_split 10 rfl rfl (fun h => ?_) (fun h => ?_)
    · have hi : i < hs.length := by simpa using h
      have ei : IntKind.wrap .i64 ((i : Int) + 1) = ((i + 1 : Nat) : Int) := by rw [w64 (by omega) (by omega)]; simp
      have hg := hd_get hi
      have hm := hd_take hs i hi
      generalize hs.getD i z0h = r at hg hm
      obtain ⟨r1, r2, r3, r4, r5, r6, r7⟩ := r
      generalize (hs.take i).map Hd.E = O at hm htl ⊢
      refine VX_go4 (fs := []) (ok 0 _) eqs trivial 100 [5] rfl (by simp [allP]; omega) ?_
      refine VX_eq 12 rfl rfl (d' := .t 59 (.e (Hd.E ⟨r1, r2, r3, r4, r5, r6, r7⟩))) (congrArg (fun x => D.t 59 (.e x)) hg) ?_
      refine VX_go4 (fs := []) (ok 0 _) eqs trivial 100 [] rfl (by simp [allP, nb, tb, maxL]; omega) ?_
      refine loop_nrm ⟨i + 1, by omega, by omega, ?_⟩
      exact wkc [.tree 59 (.e (Hd.E ⟨r1, r2, r3, r4, r5, r6, r7⟩))] (by rw [hm]; rfl) rfl (by simp [Blk.under, T.under]) (lc (li (by rw [ei])) (lc (ls rfl rfl) (lc (ls rfl rfl) (lc (ls (by rw [hm]; rfl) rfl) lnil))))
    · have hi' : i = hs.length := by simp at h; omega
      subst hi'
      rw [List.take_length]
      refine VX_go4 (fs := []) (ok 0 _) eqs trivial 100 [] rfl trivial ?_
      apply loop_brk
      refine VX_go4 (fs := []) (ok 0 _) eqs trivial 100 [] rfl trivial ?_
      exact ⟨.inr rfl, rfl⟩

/-! ### what is gone through -/
def lightB (cs : List (List UInt8)) : Bool := cs.all fun s => decide (s.length ≤ 21000)
theorem light_ok (cs : List (List UInt8)) (hc : cs.length ≤ 12) : FnOk Tryd.prog tb 27 [25, 3] [4] [.sl (cs.map E.str), .int 12] [.bool (lightB cs)] := by
  refine FnOk_of_V (fn := Tryd.f27) (bt := 4) (ok 0 _) Tryd.func27 rfl rfl rfl (by decide) fun hw => ?_
  clear hw
  have hcm : (cs.map E.str).length = cs.length := by simp
  apply V_of_VX
  refine VX_go4 (fs := []) (ok 0 _) eqs trivial 100 [] rfl trivial ?_
  refine VX_loopA (fun i : Nat => i ≤ cs.length ∧ ∀ j, j < i → (cs.getD j []).length ≤ 21000) (fun i => [(9, .t 3 (.e (.int i))), (8, .t 3 (.e (.int cs.length))), (7, .t 25 (.e (.sl (cs.map E.str)))), (1, .t 3 (.e (.int 12))), (0, .t 25 (.e (.sl (cs.map E.str))))])
    (fun i => []) (fun i => cs.length - i) 0 ⟨by omega, fun j h => by omega⟩ ?_ ?_
  · exact wk1 rfl rfl (by simp) (lc (ls rfl rfl) (lc (li (by rw [hcm])) (lc (ls rfl rfl) (lc (ls rfl rfl) (lc (ls rfl rfl) lnil)))))
  · rintro i ⟨hi, hall⟩
    refine VX_go4 (fs := []) (ok 0 _) eqs trivial 100 [] rfl trivial ?_
    refine VX_split 10 rfl rfl (fun h => ?_) (fun h => ?_)
    · have hi : i < cs.length := by simpa using h
      have ei : IntKind.wrap .i64 ((i : Int) + 1) = ((i + 1 : Nat) : Int) := by rw [w64 (by omega) (by omega)]; simp
      have hg := str_get hi
      have hno : ¬ (cs.getD i []).length ≤ 21000 → lightB cs = false := fun hn => by
        cases hb : lightB cs with
        | false => rfl
        | true =>
          have := List.all_eq_true.1 hb _ (getD_mem hi)
          simp only [decide_eq_true_eq] at this
          exact absurd this hn
      have hnx : (cs.getD i []).length ≤ 21000 → ∀ j, j < i + 1 → (cs.getD j []).length ≤ 21000 := fun hn j hj => by
        rcases Nat.lt_or_ge j i with h | h
        · exact hall j h
        · rw [show j = i by omega]; exact hn
      generalize cs.getD i [] = s at hg hno hnx
      refine VX_go4 (fs := []) (ok 0 _) eqs trivial 100 [6] rfl (by simp [allP]; omega) ?_
      refine VX_eq 12 rfl rfl (d' := .t 9 (.e (.str s))) (congrArg (fun x => D.t 9 (.e x)) hg) ?_
      refine VX_go4 (fs := []) (ok 0 _) eqs trivial 100 [] rfl trivial ?_
      refine VX_known 17 false rfl rfl (by simp; omega) ?_
      refine VX_go4 (fs := []) (ok 0 _) eqs trivial 100 [] rfl trivial ?_
      refine VX_split 21 rfl rfl (fun h => ?_) (fun h => ?_)
      · have h1 : ¬ s.length ≤ 21000 := by simp at h; omega
        rw [hno h1]
        refine VX_go4 (fs := []) (ok 0 _) eqs trivial 100 [] rfl trivial ?_
        apply loop_ret
        exact ⟨.inr rfl, rfl⟩
      · have h1 : s.length ≤ 21000 := by simp at h; omega
        refine VX_go4 (fs := []) (ok 0 _) eqs trivial 100 [] rfl trivial ?_
        refine loop_nrm ⟨i + 1, by omega, ⟨by omega, hnx h1⟩, ?_⟩
        exact wk1 rfl rfl (by simp) (lc (li (by rw [ei])) (lc (ls rfl rfl) (lc (ls rfl rfl) (lc (ls rfl rfl) (lc (ls rfl rfl) lnil)))))
    · have hi' : i = cs.length := by simp at h; omega
      subst hi'
      have hb : lightB cs = true := List.all_eq_true.2 fun s hs => by
        obtain ⟨j, hj, rfl⟩ := List.getElem_of_mem hs
        have := hall j hj
        simpa [List.getD, hj] using this
      rw [hb]
      refine VX_go4 (fs := []) (ok 0 _) eqs trivial 100 [] rfl trivial ?_
      apply loop_brk
      refine VX_go4 (fs := []) (ok 0 _) eqs trivial 100 [] rfl trivial ?_
      exact ⟨.inr rfl, rfl⟩
def fewB (x : Bk) : Bool := decide (x.cs.length ≤ 12) && decide (x.rs.length ≤ 12) && lightB x.cs
theorem few_small {x : Bk} (h : fewB x = true) : Small x ∧ x.cs.length ≤ 12 ∧ x.rs.length ≤ 12 := by
  simp only [fewB, Bool.and_eq_true, decide_eq_true_eq] at h
  refine ⟨⟨by omega, by omega, fun s hs => ?_⟩, h.1.1, h.1.2⟩
  have := List.all_eq_true.1 h.2 s hs
  simp only [decide_eq_true_eq] at this; omega
theorem few_ok (x : Bk) : FnOk Tryd.prog tb 8 [28] [4] [x.E] [.bool (fewB x)] := by
  refine FnOk_of_V (fn := Tryd.f8) (bt := 4) (ok 0 _) Tryd.func8 rfl rfl rfl (by decide) fun hw => ?_
  clear hw
  obtain ⟨xh, xp, xb, cs, rs, xs⟩ := x
  have hcm : (cs.map E.str).length = cs.length := by simp
  have hrm : (rs.map E.int).length = rs.length := by simp
  unfold fewB
  simp only
  apply V_of_VX
  refine VX_go4 (fs := []) (ok 0 _) eqs trivial 100 [] rfl trivial ?_
  refine VX_split 7 rfl rfl (fun h => ?_) (fun h => ?_)
  · have h1 : cs.length ≤ 12 := by simp only [hcm, decide_eq_true_eq] at h; omega
    rw [decide_eq_true h1, Bool.true_and]
    refine VX_go4 (fs := []) (ok 0 _) eqs trivial 100 [] rfl trivial ?_
    refine VX_split 13 rfl rfl (fun h => ?_) (fun h => ?_)
    · have h2 : rs.length ≤ 12 := by simp only [hrm, decide_eq_true_eq] at h; omega
      rw [decide_eq_true h2, Bool.true_and]
      refine VX_go4 (fs := []) (ok 0 _) eqs trivial 100 [] rfl trivial ?_
      refine VX_callD (ok 0 _) [25, 3] [] rfl rfl rfl rfl rfl rfl (light_ok cs h1).g rfl rfl rfl ?_
      refine VX_go4 (fs := []) (ok 0 _) eqs trivial 100 [] rfl trivial ?_
      exact ⟨.inr rfl, rfl⟩
    · have h2 : ¬ rs.length ≤ 12 := by simp only [hrm, decide_eq_false_iff_not] at h; omega
      rw [decide_eq_false h2, Bool.false_and]
      refine VX_go4 (fs := []) (ok 0 _) eqs trivial 100 [] rfl trivial ?_
      exact ⟨.inr rfl, rfl⟩
  · have h1 : ¬ cs.length ≤ 12 := by simp only [hcm, decide_eq_false_iff_not] at h; omega
    rw [decide_eq_false h1, Bool.false_and, Bool.false_and]
    refine VX_go4 (fs := []) (ok 0 _) eqs trivial 100 [] rfl trivial ?_
    exact ⟨.inr rfl, rfl⟩
end Go.Den.Q33
/- Law 33: heads of blocks; what may follow. -/
namespace Go.Den.Q33
open Go Go.Den Go.Proofs Go.Den.Q33.Dg
set_option maxRecDepth 8000
set_option linter.unusedVariables false
set_option linter.unusedSimpArgs false
open Go.Den.Q33.Sh (dgE)
open Go.Den.Q33.Me (Dig dsE All32 z0 rootB eqDg)

theorem first_ok (L : List Dig) (h : L.length ≤ 4096) : FnOk Tryd.prog tb 61 [34] [34] [dsE L] [dsE L] := by
  refine FnOk_of_V (fn := Tryd.f61) (bt := 4) (ok 0 _) Tryd.func61 rfl rfl rfl (by decide) fun hw => ?_
  clear hw
  apply V_of_VX
  refine VX_go4 (fs := []) (ok 0 _) eqs trivial 100 [] rfl trivial ?_
  refine VX_known 5 false rfl rfl (by simp; omega) ?_
  refine VX_go4 (fs := []) (ok 0 _) eqs trivial 100 [] rfl trivial ?_
  exact ⟨.inr rfl, rfl⟩
theorem rof_ok {L : List Dig} (h : L.length ≤ 4096) (hL : All32 L) : FnOk Tryd.prog tb 44 [61, 34] [24] [.nilp, dsE L] [dgE (rootB L)] := by
  refine FnOk_of_V (fn := Tryd.f44) (bt := 4) (ok 0 _) Tryd.func44 rfl rfl rfl (by decide) fun hw => ?_
  clear hw
  apply V_of_VX
  have c1 := Me.rnoughts_ok.g
  have c2 := (first_ok L h).g
  have c3 := (Me.rnode_ok (by omega) hL 32 0 (by omega) (by simp)).g
  have hr : rootB L = Me.nd L 32 0 := rfl
  rw [hr]
  generalize Me.nd L 32 0 = r at c3 ⊢
  generalize Me.zP 32 = Z at c1 c3
  refine VX_go4 (fs := []) (ok 0 _) eqs trivial 100 [] rfl trivial ?_
  refine VX_callD (ok 0 _) [61] [] rfl rfl rfl rfl rfl rfl c1 rfl rfl rfl ?_
  refine VX_go4 (fs := []) (ok 0 _) eqs trivial 100 [] rfl trivial ?_
  refine VX_callD (ok 0 _) [34] [] rfl rfl rfl rfl rfl rfl c2 rfl rfl rfl ?_
  refine VX_callD (ok 0 _) [61, 34, 34, 3, 3] [] rfl rfl rfl rfl rfl rfl c3 rfl rfl rfl ?_
  refine VX_go4 (fs := []) (ok 0 _) eqs trivial 100 [] rfl trivial ?_
  exact ⟨.inr rfl, rfl⟩

def ofHB (x : Bk) (p : Dig) : Hd := ⟨x.h, p, x.b, x.s, rootB (cL x.cs), rootB (rL x.rs), x.cs.length⟩
theorem root_len {L : List Dig} (h : All32 L) : (rootB L).length = 32 := Me.nd_length h 32 0
theorem ofHB_ok {x : Bk} (h : x.ok) (hs : Small x) {p : Dig} (hp : p.length = 32) : (ofHB x p).ok :=
  ⟨h.h, hp, h.b, h.s, root_len (cL_all _), root_len (rL_all _), by have := hs.1; show x.cs.length < _; omega⟩
theorem of_ok {x : Bk} (hs : Small x) (p : Dig) : FnOk Tryd.prog tb 18 [78, 28, 24] [59] [.nilp, x.E, dgE p] [(ofHB x p).E] := by
  refine FnOk_of_V (fn := Tryd.f18) (bt := 4) (ok 0 _) Tryd.func18 rfl rfl rfl (by decide) fun hw => ?_
  clear hw
  have c1 := (leaves_ok hs).g
  have c2 := (Me.of_ok (L := cL x.cs) (by rw [cL_length]; have := hs.1; omega) (cL_all _)).g
  have c3 := (Me.of_ok (L := rL x.rs) (by rw [rL_length]; have := hs.2.1; omega) (rL_all _)).g
  have hl := hs.1
  obtain ⟨xh, xp, xb, cs, rs, xs⟩ := x
  unfold ofHB
  simp only at c1 c2 c3 hl ⊢
  have hcm : (cs.map E.str).length = cs.length := by simp
  have e31 : IntKind.wrap .u32 ((((cs.map E.str).length : Nat) : Int)) = (cs.length : Int) := by rw [hcm]; exact u32n _ (by omega)
  generalize rootB (cL cs) = A at c2 ⊢
  generalize rootB (rL rs) = B at c3 ⊢
  generalize cL cs = LA at c1 c2
  generalize rL rs = LB at c1 c3
  apply V_of_VX
  refine VX_go4 (fs := []) (ok 0 _) eqs trivial 100 [] rfl trivial ?_
  refine VX_callD (ok 0 _) [78, 28] [] rfl rfl rfl rfl rfl rfl c1 rfl rfl rfl ?_
  refine VX_go4 (fs := []) (ok 0 _) eqs trivial 100 [] rfl trivial ?_
  refine VX_draw [2] [(0, true), (1, true), (2, true), (3, true), (4, true), (5, true), (6, true), (7, true), (8, true), (10, true), (11, true), (13, true), (14, true), (15, true), (16, true), (9, false), (12, false), (17, true), (18, false)] mixed (by kernel_rfl) (by kernel_rfl) (by kernel_rfl) ?_
  refine VX_go4 (fs := []) (ok 0 _) eqs trivial 100 [] rfl trivial ?_
  refine VX_eq 31 rfl rfl (d' := .t 32 (.e (.int cs.length))) (congrArg (fun x => D.t 32 (.e (.int x))) e31) ?_
  refine VX_callO (ok 0 _) [78, 34] [] rfl rfl rfl rfl rfl rfl rfl rfl c2 rfl rfl rfl ?_
  refine VX_callO (ok 0 _) [78, 34] [] rfl rfl rfl rfl rfl rfl rfl rfl c3 rfl rfl rfl ?_
  refine VX_go4 (fs := []) (ok 0 _) eqs trivial 100 [] rfl trivial ?_
  refine VX_storeO (ok 0 _) rfl rfl rfl rfl rfl rfl (by simp) ?_
  refine VX_go4 (fs := []) (ok 0 _) eqs trivial 100 [] rfl trivial ?_
  exact ⟨.inr rfl, rfl⟩
theorem rofh_ok {x : Bk} (hs : Small x) (p : Dig) : FnOk Tryd.prog tb 20 [61, 47, 24] [63] [.nilp, x.E, dgE p] [(ofHB x p).E] := by
  refine FnOk_of_V (fn := Tryd.f20) (bt := 4) (ok 0 _) Tryd.func20 rfl rfl rfl (by decide) fun hw => ?_
  clear hw
  have c1 := (rleaves_ok hs).g
  have c2 := (rof_ok (L := cL x.cs) (by rw [cL_length]; have := hs.1; omega) (cL_all _)).g
  have c3 := (rof_ok (L := rL x.rs) (by rw [rL_length]; have := hs.2.1; omega) (rL_all _)).g
  have hl := hs.1
  obtain ⟨xh, xp, xb, cs, rs, xs⟩ := x
  unfold ofHB
  simp only at c1 c2 c3 hl ⊢
  have hcm : (cs.map E.str).length = cs.length := by simp
  have e31 : IntKind.wrap .u32 ((((cs.map E.str).length : Nat) : Int)) = (cs.length : Int) := by rw [hcm]; exact u32n _ (by omega)
  generalize rootB (cL cs) = A at c2 ⊢
  generalize rootB (rL rs) = B at c3 ⊢
  generalize cL cs = LA at c1 c2
  generalize rL rs = LB at c1 c3
  apply V_of_VX
  refine VX_go4 (fs := []) (ok 0 _) eqs trivial 100 [] rfl trivial ?_
  refine VX_callD (ok 0 _) [61, 47] [] rfl rfl rfl rfl rfl rfl c1 rfl rfl rfl ?_
  refine VX_go4 (fs := []) (ok 0 _) eqs trivial 100 [] rfl trivial ?_
  refine VX_callD (ok 0 _) [61, 34] [] rfl rfl rfl rfl rfl rfl c2 rfl rfl rfl ?_
  refine VX_go4 (fs := []) (ok 0 _) eqs trivial 100 [] rfl trivial ?_
  refine VX_callD (ok 0 _) [61, 34] [] rfl rfl rfl rfl rfl rfl c3 rfl rfl rfl ?_
  refine VX_go4 (fs := []) (ok 0 _) eqs trivial 100 [39] rfl trivial ?_
  refine VX_eq 38 rfl rfl (d' := .t 32 (.e (.int cs.length))) (congrArg (fun x => D.t 32 (.e (.int x))) e31) ?_
  refine VX_go4 (fs := []) (ok 0 _) eqs trivial 100 [] rfl trivial ?_
  exact ⟨.inr rfl, rfl⟩

/-! ### what may follow -/
def lastH (hs : List Hd) : Hd := hs.getD (hs.length - 1) z0h
def folB (hs : List Hd) (h : Hd) : Int :=
  if 4096 ≤ hs.length then 6 else if hs.length = 0 then 0 else if h.h = (lastH hs).h + 1 ∧ h.p = hashB (lastH hs) then 0 else 32
theorem last_mem {hs : List Hd} (h : 0 < hs.length) : lastH hs ∈ hs := by
  unfold lastH
  rw [List.getD, List.getElem?_eq_getElem (by omega)]; exact List.getElem_mem _
set_option maxHeartbeats 800000 in
theorem follows_ok {hs : List Hd} (hh : ∀ x ∈ hs, x.ok) (hl : hs.length ≤ 100000) {h : Hd} (ho : h.ok) : FnOk Tryd.prog tb 41 [78, 29, 59] [33] [.nilp, hsE hs, h.E] [.int (folB hs h)] := by
  refine FnOk_of_V (fn := Tryd.f41) (bt := 4) (ok 0 _) Tryd.func41 rfl rfl rfl (by decide) fun hw => ?_
  clear hw
  have hrm : (hs.map Hd.E).length = hs.length := by simp
  apply V_of_VX
  unfold folB
  refine VX_go4 (fs := []) (ok 0 _) eqs trivial 100 [] rfl trivial ?_
  refine VX_split 10 rfl rfl (fun c => ?_) (fun c => ?_)
  · have h1 : 4096 ≤ hs.length := by simp only [hrm, decide_eq_true_eq] at c; omega
    rw [if_pos h1]
    refine VX_go4 (fs := []) (ok 0 _) eqs trivial 100 [] rfl trivial ?_
    exact ⟨.inr rfl, rfl⟩
  have h1 : ¬ 4096 ≤ hs.length := by simp only [hrm, decide_eq_false_iff_not] at c; omega
  rw [if_neg h1]
  refine VX_go4 (fs := []) (ok 0 _) eqs trivial 100 [] rfl trivial ?_
  refine VX_split 13 rfl rfl (fun c => ?_) (fun c => ?_)
  · have h2 : hs.length = 0 := by simp only [hrm, decide_eq_true_eq] at c; omega
    rw [if_pos h2]
    refine VX_go4 (fs := []) (ok 0 _) eqs trivial 100 [] rfl trivial ?_
    exact ⟨.inr rfl, rfl⟩
  have h2 : ¬ hs.length = 0 := by simp only [hrm, decide_eq_false_iff_not] at c; omega
  rw [if_neg h2]
  have hlo := hh _ (last_mem (hs := hs) (by omega))
  have hg : (hs.map Hd.E).getD (hs.length - 1) .nilp = (lastH hs).E := hd_get (by omega)
  have c1 := (hash_ok hlo).g
  have hlh := hlo.h
  have hhh := ho.h
  have hpd := Me.eqDgD h.p (hashB (lastH hs))
  generalize hashB (lastH hs) = H at c1 hpd ⊢
  generalize lastH hs = l at hg c1 hlh ⊢
  obtain ⟨l1, l2, l3, l4, l5, l6, l7⟩ := l
  obtain ⟨h1', hp, h3, h4, h5, h6, h7⟩ := h
  simp only at hlh hhh hpd ⊢
  have e17 : IntKind.wrap .i64 ((((hs.map Hd.E).length : Nat) : Int) - 1) = ((hs.length - 1 : Nat) : Int) := by rw [hrm, w64 (by omega) (by omega)]; omega
  refine VX_go4 (fs := []) (ok 0 _) eqs trivial 100 [18] rfl trivial ?_
  refine VX_eq 17 rfl rfl (d' := .t 3 (.e (.int (hs.length - 1 : Nat)))) (congrArg (fun x => D.t 3 (.e (.int x))) e17) ?_
  refine VX_go4 (fs := []) (ok 0 _) eqs trivial 100 [7] rfl (by simp [allP]; omega) ?_
  refine VX_eq 19 rfl rfl (d' := .t 59 (.e (Hd.E ⟨l1, l2, l3, l4, l5, l6, l7⟩))) (congrArg (fun x => D.t 59 (.e x)) hg) ?_
  refine VX_go4 (fs := []) (ok 0 _) eqs trivial 100 [] rfl trivial ?_
  refine VX_draw [] [(0, true), (1, true), (2, true), (3, true), (4, true), (5, true), (6, true), (7, true), (8, true), (9, true), (10, true), (11, true), (12, true), (13, true), (14, true), (15, true), (16, false), (17, true), (18, true)] mixed (by kernel_rfl) (by kernel_rfl) (by kernel_rfl) ?_
  refine VX_go4 (fs := []) (ok 0 _) eqs trivial 100 [] rfl trivial ?_
  by_cases hz : h1' = 0
  · rw [if_neg (by omega)]
    refine VX_known 23 true rfl rfl (by simp; omega) ?_
    refine VX_go4 (fs := []) (ok 0 _) eqs trivial 100 [] rfl trivial ?_
    exact ⟨.inr rfl, rfl⟩
  · refine VX_known 23 false rfl rfl (by simp; omega) ?_
    have e26 : IntKind.wrap .u64 ((h1' : Int) - 1) = ((h1' - 1 : Nat) : Int) := by rw [inR_wrap (by simp [inR]; omega)]; omega
    refine VX_go4 (fs := []) (ok 0 _) eqs trivial 100 [27] rfl trivial ?_
    refine VX_eq 26 rfl rfl (d' := .t 22 (.e (.int (h1' - 1 : Nat)))) (congrArg (fun x => D.t 22 (.e (.int x))) e26) ?_
    refine VX_go4 (fs := []) (ok 0 _) eqs trivial 100 [] rfl trivial ?_
    by_cases hq : h1' = l1 + 1
    · refine VX_known 31 false rfl rfl (by simp; omega) ?_
      refine VX_go4 (fs := []) (ok 0 _) eqs trivial 100 [] rfl trivial ?_
      refine VX_callO (ok 0 _) [78, 59] [] rfl rfl rfl rfl rfl rfl rfl rfl c1 rfl rfl rfl ?_
      refine VX_go4 (fs := []) (ok 0 _) eqs trivial 100 [] rfl trivial ?_
      by_cases hpe : hp = H
      · rw [if_pos ⟨hq, hpe⟩]
        refine VX_known 38 false rfl rfl (by show (!eqE (dgE hp) (dgE H)) = _; rw [hpd]; simp [hpe]) ?_
        refine VX_go4 (fs := []) (ok 0 _) eqs trivial 100 [] rfl trivial ?_
        exact ⟨.inr rfl, rfl⟩
      · rw [if_neg (fun h => hpe h.2)]
        refine VX_known 38 true rfl rfl (by show (!eqE (dgE hp) (dgE H)) = _; rw [hpd]; simp [hpe]) ?_
        refine VX_go4 (fs := []) (ok 0 _) eqs trivial 100 [] rfl trivial ?_
        exact ⟨.inr rfl, rfl⟩
    · rw [if_neg (fun h => hq h.1)]
      refine VX_known 31 true rfl rfl (by simp; omega) ?_
      refine VX_go4 (fs := []) (ok 0 _) eqs trivial 100 [] rfl trivial ?_
      exact ⟨.inr rfl, rfl⟩
set_option maxHeartbeats 800000 in
theorem rextend_ok {hs : List Hd} (hh : ∀ x ∈ hs, x.ok) (hl : hs.length ≤ 100000) {h : Hd} (ho : h.ok) : FnOk Tryd.prog tb 22 [61, 53, 63] [3] [.nilp, hsE hs, h.E] [.int (folB hs h)] := by
  refine FnOk_of_V (fn := Tryd.f22) (bt := 4) (ok 0 _) Tryd.func22 rfl rfl rfl (by decide) fun hw => ?_
  clear hw
  have hrm : (hs.map Hd.E).length = hs.length := by simp
  apply V_of_VX
  unfold folB
  refine VX_go4 (fs := []) (ok 0 _) eqs trivial 100 [] rfl trivial ?_
  refine VX_split 10 rfl rfl (fun c => ?_) (fun c => ?_)
  · have h1 : 4096 ≤ hs.length := by simp only [hrm, decide_eq_true_eq] at c; omega
    rw [if_pos h1]
    refine VX_go4 (fs := []) (ok 0 _) eqs trivial 100 [] rfl trivial ?_
    exact ⟨.inr rfl, rfl⟩
  have h1 : ¬ 4096 ≤ hs.length := by simp only [hrm, decide_eq_false_iff_not] at c; omega
  rw [if_neg h1]
  refine VX_go4 (fs := []) (ok 0 _) eqs trivial 100 [] rfl trivial ?_
  refine VX_split 13 rfl rfl (fun c => ?_) (fun c => ?_)
  · have h2 : hs.length = 0 := by simp only [hrm, decide_eq_true_eq] at c; omega
    rw [if_pos h2]
    refine VX_go4 (fs := []) (ok 0 _) eqs trivial 100 [] rfl trivial ?_
    exact ⟨.inr rfl, rfl⟩
  have h2 : ¬ hs.length = 0 := by simp only [hrm, decide_eq_false_iff_not] at c; omega
  rw [if_neg h2]
  have hlo := hh _ (last_mem (hs := hs) (by omega))
  have hg : (hs.map Hd.E).getD (hs.length - 1) .nilp = (lastH hs).E := hd_get (by omega)
  have c1 := (rhash_ok hlo).g
  have hlh := hlo.h
  have hhh := ho.h
  have hpd := Me.eqDgD h.p (hashB (lastH hs))
  generalize hashB (lastH hs) = H at c1 hpd ⊢
  generalize lastH hs = l at hg c1 hlh ⊢
  obtain ⟨l1, l2, l3, l4, l5, l6, l7⟩ := l
  obtain ⟨h1', hp, h3, h4, h5, h6, h7⟩ := h
  simp only at hlh hhh hpd ⊢
  have e17 : IntKind.wrap .i64 ((((hs.map Hd.E).length : Nat) : Int) - 1) = ((hs.length - 1 : Nat) : Int) := by rw [hrm, w64 (by omega) (by omega)]; omega
  refine VX_go4 (fs := []) (ok 0 _) eqs trivial 100 [18] rfl trivial ?_
  refine VX_eq 17 rfl rfl (d' := .t 3 (.e (.int (hs.length - 1 : Nat)))) (congrArg (fun x => D.t 3 (.e (.int x))) e17) ?_
  refine VX_go4 (fs := []) (ok 0 _) eqs trivial 100 [7] rfl (by simp [allP]; omega) ?_
  refine VX_eq 19 rfl rfl (d' := .t 63 (.e (Hd.E ⟨l1, l2, l3, l4, l5, l6, l7⟩))) (congrArg (fun x => D.t 63 (.e x)) hg) ?_
  refine VX_go4 (fs := []) (ok 0 _) eqs trivial 100 [] rfl trivial ?_
  by_cases hz : l1 = 18446744073709551615
  · rw [if_neg (by omega)]
    refine VX_known 23 true rfl rfl (by simp; omega) ?_
    refine VX_go4 (fs := []) (ok 0 _) eqs trivial 100 [] rfl trivial ?_
    exact ⟨.inr rfl, rfl⟩
  · refine VX_known 23 false rfl rfl (by simp; omega) ?_
    have e28 : IntKind.wrap .u64 ((l1 : Int) + 1) = ((l1 + 1 : Nat) : Int) := by rw [inR_wrap (by simp [inR]; omega)]; omega
    refine VX_go4 (fs := []) (ok 0 _) eqs trivial 100 [29] rfl trivial ?_
    refine VX_eq 28 rfl rfl (d' := .t 22 (.e (.int (l1 + 1 : Nat)))) (congrArg (fun x => D.t 22 (.e (.int x))) e28) ?_
    refine VX_go4 (fs := []) (ok 0 _) eqs trivial 100 [] rfl trivial ?_
    by_cases hq : h1' = l1 + 1
    · refine VX_known 30 false rfl rfl (by simp; omega) ?_
      refine VX_go4 (fs := []) (ok 0 _) eqs trivial 100 [] rfl trivial ?_
      refine VX_draw [] [(0, true), (1, true), (2, true), (3, true), (4, false), (5, true)] mixed (by kernel_rfl) (by kernel_rfl) (by kernel_rfl) ?_
      refine VX_go4 (fs := []) (ok 0 _) eqs trivial 100 [] rfl trivial ?_
      refine VX_callO (ok 0 _) [61, 63] [] rfl rfl rfl rfl rfl rfl rfl rfl c1 rfl rfl rfl ?_
      refine VX_go4 (fs := []) (ok 0 _) eqs trivial 100 [] rfl trivial ?_
      by_cases hpe : hp = H
      · rw [if_pos ⟨hq, hpe⟩]
        refine VX_known 36 false rfl rfl (by show (!eqE (dgE hp) (dgE H)) = _; rw [hpd]; simp [hpe]) ?_
        refine VX_go4 (fs := []) (ok 0 _) eqs trivial 100 [] rfl trivial ?_
        exact ⟨.inr rfl, rfl⟩
      · rw [if_neg (fun h => hpe h.2)]
        refine VX_known 36 true rfl rfl (by show (!eqE (dgE hp) (dgE H)) = _; rw [hpd]; simp [hpe]) ?_
        refine VX_go4 (fs := []) (ok 0 _) eqs trivial 100 [] rfl trivial ?_
        exact ⟨.inr rfl, rfl⟩
    · rw [if_neg (fun h => hq h.1)]
      refine VX_known 30 true rfl rfl (by simp; omega) ?_
      refine VX_go4 (fs := []) (ok 0 _) eqs trivial 100 [] rfl trivial ?_
      exact ⟨.inr rfl, rfl⟩

theorem cloneH (q : List E) (hq : q.length ≤ 100000) : FnG Tryd.prog tb 42 [] [.t 29 (.e (.sl q))] (fun d s => d = .t 29 (.lsl 0 q) ∧ s = [.row 59 q.length]) := by
  refine FnG_of_V (fn := Tryd.f42) (bt := 4) true [0] [29] (ok 0 _) Tryd.func42 rfl rfl rfl fun _ _ _ _ _ _ => ?_
  apply V_of_VX
  refine VX_go4 (fs := []) (ok 0 _) eqs trivial 100 [] rfl trivial ?_
  refine VX_op rfl rfl (OpV_nilS (ok 0 _) rfl (.inl rfl) rfl rfl rfl rfl) ?_
  rintro d s ⟨b, hb, rfl, rfl⟩
  refine VX_go4 (fs := []) (ok 0 _) eqs trivial 100 [] rfl trivial ?_
  refine VX_split 4 rfl rfl (fun h => ?_) (fun h => ?_)
  · refine VX_go4 (fs := []) (ok 0 _) eqs trivial 5 [] rfl trivial ?_
    refine VX_promote 2 (u := 59) rfl rfl ?_
    refine VX_go4 (fs := []) (ok 0 _) eqs trivial 100 [] rfl trivial ?_
    refine ⟨.inr rfl, _, _, _, rfl, rfl, rfl, ?_⟩
    rw [hb h]; exact ⟨rfl, rfl⟩
  · refine VX_go4 (fs := []) (ok 0 _) eqs trivial 100 [] rfl (by simp [allP, nb, tb, maxL]; omega) ?_
    exact ⟨.inr rfl, _, _, _, rfl, rfl, rfl, rfl, rfl⟩
def extB (hs : List Hd) (h : Hd) : List Hd := if folB hs h = 0 then hs ++ [h] else hs
set_option maxHeartbeats 800000 in
theorem extend_ok {hs : List Hd} (hh : ∀ x ∈ hs, x.ok) (hl : hs.length ≤ 90000) {h : Hd} (ho : h.ok) : FnOk Tryd.prog tb 17 [78, 31, 59] [31, 33] [.nilp, liE hs, h.E] [liE (extB hs h), .int (folB hs h)] := by
  refine FnOk_of_V (fn := Tryd.f17) (bt := 4) (ok 0 _) Tryd.func17 rfl rfl rfl (by decide) fun hw => ?_
  clear hw
  have hrm : (hs.map Hd.E).length = hs.length := by simp
  have c1 := (follows_ok hh (by omega) ho).g
  unfold extB
  generalize folB hs h = e at c1 ⊢
  have hap : (hs ++ [h]).map Hd.E = hs.map Hd.E ++ [h.E] := by simp
  obtain ⟨h1, h2, h3, h4, h5, h6, h7⟩ := h
  apply V_of_VX
  refine VX_go4 (fs := []) (ok 0 _) eqs trivial 100 [] rfl trivial ?_
  refine VX_callD (ok 0 _) [78, 29, 59] [] rfl rfl rfl rfl rfl rfl c1 rfl rfl rfl ?_
  refine VX_go4 (fs := []) (ok 0 _) eqs trivial 100 [] rfl trivial ?_
  by_cases he : e = 0
  · rw [if_pos he]
    refine VX_known 15 false rfl rfl (by simp [he]) ?_
    refine VX_go4 (fs := []) (ok 0 _) eqs trivial 100 [] rfl trivial ?_
    refine VX_draw [2, 3] [(0, true), (1, true), (3, true), (2, false), (4, false), (5, false), (6, true), (7, false), (8, true)] mixed (by kernel_rfl) (by kernel_rfl) (by kernel_rfl) ?_
    refine VX_go4 (fs := []) (ok 0 _) eqs trivial 100 [] rfl trivial ?_
    refine VX_callGLit (ok 0 _) [29] [] rfl rfl (by kernel_rfl) rfl rfl rfl rfl rfl rfl rfl rfl rfl rfl rfl rfl (cloneH (hs.map Hd.E) (by simp; omega)) rfl rfl rfl rfl rfl rfl rfl rfl rfl rfl ?_
    refine VX_appendO (ok 0 _) rfl rfl rfl rfl rfl (by simp [nb, tb, maxL]; omega) rfl ?_
    refine VX_go4 (fs := []) (ok 0 _) eqs trivial 100 [] rfl trivial ?_
    refine VX_storeO (ok 0 _) rfl rfl rfl rfl rfl rfl (by simp) ?_
    refine VX_go4 (fs := []) (ok 0 _) eqs trivial 100 [] rfl trivial ?_
    refine ⟨.inr rfl, ?_⟩
    rw [he]
    unfold liE hsE
    rw [hap]; rfl
  · rw [if_neg he]
    refine VX_known 15 true rfl rfl (by simp [he]) ?_
    refine VX_go4 (fs := []) (ok 0 _) eqs trivial 100 [] rfl trivial ?_
    exact ⟨.inr rfl, rfl⟩
end Go.Den.Q33
/- Law 33: proofs. -/
namespace Go.Den.Q33
open Go Go.Den Go.Proofs Go.Den.Q33.Dg
set_option maxRecDepth 8000
set_option linter.unusedVariables false
set_option linter.unusedSimpArgs false
open Go.Den.Q33.Sh (dgE)
open Go.Den.Q33.Me (Dig dsE All32 z0 rootB eqDg brL)

def z0p : Pf := ⟨0, [], 0, [], []⟩
theorem prove_bad {x : Bk} (k : Int) (h : k < 0 ∨ (x.cs.length : Int) ≤ k ∨ (x.rs.length : Int) ≤ k) : FnOk Tryd.prog tb 9 [78, 28, 3] [36, 33] [.nilp, x.E, .int k] [z0p.E, .int 2] := by
  refine FnOk_of_V (fn := Tryd.f9) (bt := 4) (ok 0 _) Tryd.func9 rfl rfl rfl (by decide) fun hw => ?_
  clear hw
  obtain ⟨xh, xp, xb, cs, rs, xs⟩ := x
  have hcm : (cs.map E.str).length = cs.length := by simp
  have hrm : (rs.map E.int).length = rs.length := by simp
  simp only at h
  apply V_of_VX
  refine VX_go4 (fs := []) (ok 0 _) eqs trivial 100 [] rfl trivial ?_
  refine VX_split 15 rfl rfl (fun _ => ?_) (fun h1 => ?_)
  · refine VX_go4 (fs := []) (ok 0 _) eqs trivial 100 [] rfl trivial ?_
    exact ⟨.inr rfl, rfl⟩
  · refine VX_go4 (fs := []) (ok 0 _) eqs trivial 100 [] rfl trivial ?_
    refine VX_split 22 rfl rfl (fun _ => ?_) (fun h2 => ?_)
    · refine VX_go4 (fs := []) (ok 0 _) eqs trivial 100 [] rfl trivial ?_
      exact ⟨.inr rfl, rfl⟩
    · refine VX_go4 (fs := []) (ok 0 _) eqs trivial 100 [] rfl trivial ?_
      refine VX_known 28 true rfl rfl (by simp at h1 h2 ⊢; omega) ?_
      refine VX_go4 (fs := []) (ok 0 _) eqs trivial 100 [] rfl trivial ?_
      exact ⟨.inr rfl, rfl⟩
theorem rprove_bad {x : Bk} (k : Int) (h : k < 0 ∨ (x.cs.length : Int) ≤ k ∨ (x.rs.length : Int) ≤ k) : FnOk Tryd.prog tb 10 [61, 47, 3] [42, 3] [.nilp, x.E, .int k] [z0p.E, .int 2] := by
  refine FnOk_of_V (fn := Tryd.f10) (bt := 4) (ok 0 _) Tryd.func10 rfl rfl rfl (by decide) fun hw => ?_
  clear hw
  obtain ⟨xh, xp, xb, cs, rs, xs⟩ := x
  have hcm : (cs.map E.str).length = cs.length := by simp
  have hrm : (rs.map E.int).length = rs.length := by simp
  simp only at h
  apply V_of_VX
  refine VX_go4 (fs := []) (ok 0 _) eqs trivial 100 [] rfl trivial ?_
  refine VX_split 13 rfl rfl (fun _ => ?_) (fun h1 => ?_)
  · refine VX_go4 (fs := []) (ok 0 _) eqs trivial 100 [] rfl trivial ?_
    exact ⟨.inr rfl, rfl⟩
  · refine VX_go4 (fs := []) (ok 0 _) eqs trivial 100 [] rfl trivial ?_
    refine VX_split 20 rfl rfl (fun _ => ?_) (fun h2 => ?_)
    · refine VX_go4 (fs := []) (ok 0 _) eqs trivial 100 [] rfl trivial ?_
      exact ⟨.inr rfl, rfl⟩
    · refine VX_go4 (fs := []) (ok 0 _) eqs trivial 100 [] rfl trivial ?_
      refine VX_known 26 true rfl rfl (by simp at h1 h2 ⊢; omega) ?_
      refine VX_go4 (fs := []) (ok 0 _) eqs trivial 100 [] rfl trivial ?_
      exact ⟨.inr rfl, rfl⟩
def prvB (x : Bk) (k : Nat) : Pf := ⟨k, x.cs.getD k [], x.rs.getD k 0, brL (cL x.cs) k 32, brL (rL x.rs) k 32⟩
set_option maxHeartbeats 800000 in
theorem prove_ok {x : Bk} (hs : Small x) (k : Nat) (h1 : k < x.cs.length) (h2 : k < x.rs.length) : FnOk Tryd.prog tb 9 [78, 28, 3] [36, 33] [.nilp, x.E, .int k] [(prvB x k).E, .int 0] := by
  refine FnOk_of_V (fn := Tryd.f9) (bt := 4) (ok 0 _) Tryd.func9 rfl rfl rfl (by decide) fun hw => ?_
  clear hw
  have c1 := (leaves_ok hs).g
  have c2 := (Me.branch_ok (L := cL x.cs) (by rw [cL_length]; have := hs.1; omega) (cL_all _) k (by rw [cL_length]; exact h1)).g
  have c3 := (Me.branch_ok (L := rL x.rs) (by rw [rL_length]; have := hs.2.1; omega) (rL_all _) k (by rw [rL_length]; exact h2)).g
  have hl := hs.1
  obtain ⟨xh, xp, xb, cs, rs, xs⟩ := x
  unfold prvB
  simp only at c1 c2 c3 hl h1 h2 ⊢
  have hcm : (cs.map E.str).length = cs.length := by simp
  have hrm : (rs.map E.int).length = rs.length := by simp
  have g1 := str_get h1
  have g2 := int_get h2
  have e37 := u32n k (by omega)
  generalize cs.getD k [] = s at g1 ⊢
  generalize rs.getD k 0 = r at g2 ⊢
  generalize brL (cL cs) k 32 = A at c2 ⊢
  generalize brL (rL rs) k 32 = B at c3 ⊢
  generalize cL cs = LA at c1 c2
  generalize rL rs = LB at c1 c3
  apply V_of_VX
  refine VX_go4 (fs := []) (ok 0 _) eqs trivial 100 [] rfl trivial ?_
  refine VX_known 15 false rfl rfl (by simp) ?_
  refine VX_go4 (fs := []) (ok 0 _) eqs trivial 100 [] rfl trivial ?_
  refine VX_known 22 false rfl rfl (by simp; omega) ?_
  refine VX_go4 (fs := []) (ok 0 _) eqs trivial 100 [] rfl trivial ?_
  refine VX_known 28 false rfl rfl (by simp; omega) ?_
  refine VX_go4 (fs := []) (ok 0 _) eqs trivial 100 [] rfl trivial ?_
  refine VX_callD (ok 0 _) [78, 28] [] rfl rfl rfl rfl rfl rfl c1 rfl rfl rfl ?_
  refine VX_go4 (fs := []) (ok 0 _) eqs trivial 100 [] rfl trivial ?_
  refine VX_draw [2] [(0, true), (1, true), (2, true), (3, true), (4, true), (5, true), (6, true), (7, true), (8, true), (9, true), (10, true), (11, true), (12, true), (13, false), (14, false)] mixed (by kernel_rfl) (by kernel_rfl) (by kernel_rfl) ?_
  refine VX_go4 (fs := []) (ok 0 _) eqs trivial 100 [48] rfl (by simp [allP]; omega) ?_
  refine VX_eq 37 rfl rfl (d' := .t 32 (.e (.int k))) (congrArg (fun x => D.t 32 (.e (.int x))) e37) ?_
  refine VX_eq 42 rfl rfl (d' := .t 9 (.e (.str s))) (congrArg (fun x => D.t 9 (.e x)) g1) ?_
  refine VX_eq 47 rfl rfl (d' := .t 33 (.e (.int r))) (congrArg (fun x => D.t 33 (.e x)) g2) ?_
  refine VX_go4 (fs := []) (ok 0 _) eqs trivial 100 [] rfl trivial ?_
  refine VX_allocO (ok 0 _) rfl rfl rfl rfl rfl rfl rfl rfl ?_
  refine VX_storeO (ok 0 _) rfl rfl rfl rfl rfl rfl (by simp) ?_
  refine VX_go4 (fs := []) (ok 0 _) eqs trivial 100 [] rfl trivial ?_
  refine VX_callD (ok 0 _) [78, 34, 3] [] rfl rfl rfl rfl rfl rfl c2 rfl rfl rfl ?_
  refine VX_go4 (fs := []) (ok 0 _) eqs trivial 100 [] rfl trivial ?_
  refine VX_callD (ok 0 _) [78, 34, 3] [] rfl rfl rfl rfl rfl rfl c3 rfl rfl rfl ?_
  refine VX_go4 (fs := []) (ok 0 _) eqs trivial 100 [] rfl trivial ?_
  refine VX_known 67 false rfl rfl rfl ?_
  refine VX_go4 (fs := []) (ok 0 _) eqs trivial 100 [] rfl trivial ?_
  refine VX_known 70 false rfl rfl rfl ?_
  refine VX_go4 (fs := []) (ok 0 _) eqs trivial 100 [] rfl trivial ?_
  exact ⟨.inr rfl, rfl⟩
set_option maxHeartbeats 800000 in
theorem rprove_ok {x : Bk} (hs : Small x) (k : Nat) (h1 : k < x.cs.length) (h2 : k < x.rs.length) : FnOk Tryd.prog tb 10 [61, 47, 3] [42, 3] [.nilp, x.E, .int k] [(prvB x k).E, .int 0] := by
  refine FnOk_of_V (fn := Tryd.f10) (bt := 4) (ok 0 _) Tryd.func10 rfl rfl rfl (by decide) fun hw => ?_
  clear hw
  have c1 := (rleaves_ok hs).g
  have c2 := (Me.rbranch_ok (L := cL x.cs) (by rw [cL_length]; have := hs.1; omega) (cL_all _) k (by rw [cL_length]; exact h1)).g
  have c3 := (Me.rbranch_ok (L := rL x.rs) (by rw [rL_length]; have := hs.2.1; omega) (rL_all _) k (by rw [rL_length]; exact h2)).g
  have hl := hs.1
  obtain ⟨xh, xp, xb, cs, rs, xs⟩ := x
  unfold prvB
  simp only at c1 c2 c3 hl h1 h2 ⊢
  have hcm : (cs.map E.str).length = cs.length := by simp
  have hrm : (rs.map E.int).length = rs.length := by simp
  have g1 := str_get h1
  have g2 := int_get h2
  have e37 := u32n k (by omega)
  generalize cs.getD k [] = s at g1 ⊢
  generalize rs.getD k 0 = r at g2 ⊢
  generalize brL (cL cs) k 32 = A at c2 ⊢
  generalize brL (rL rs) k 32 = B at c3 ⊢
  generalize cL cs = LA at c1 c2
  generalize rL rs = LB at c1 c3
  apply V_of_VX
  refine VX_go4 (fs := []) (ok 0 _) eqs trivial 100 [] rfl trivial ?_
  refine VX_known 13 false rfl rfl (by simp) ?_
  refine VX_go4 (fs := []) (ok 0 _) eqs trivial 100 [] rfl trivial ?_
  refine VX_known 20 false rfl rfl (by simp; omega) ?_
  refine VX_go4 (fs := []) (ok 0 _) eqs trivial 100 [] rfl trivial ?_
  refine VX_known 26 false rfl rfl (by simp; omega) ?_
  refine VX_go4 (fs := []) (ok 0 _) eqs trivial 100 [] rfl trivial ?_
  refine VX_callD (ok 0 _) [61, 47] [] rfl rfl rfl rfl rfl rfl c1 rfl rfl rfl ?_
  refine VX_go4 (fs := []) (ok 0 _) eqs trivial 100 [36] rfl trivial ?_
  refine VX_eq 35 rfl rfl (d' := .t 32 (.e (.int k))) (congrArg (fun x => D.t 32 (.e (.int x))) e37) ?_
  refine VX_go4 (fs := []) (ok 0 _) eqs trivial 100 [42] rfl (by simp [allP]; omega) ?_
  refine VX_eq 41 rfl rfl (d' := .t 9 (.e (.str s))) (congrArg (fun x => D.t 9 (.e x)) g1) ?_
  refine VX_go4 (fs := []) (ok 0 _) eqs trivial 100 [48] rfl (by simp [allP]; omega) ?_
  refine VX_eq 47 rfl rfl (d' := .t 3 (.e (.int r))) (congrArg (fun x => D.t 3 (.e x)) g2) ?_
  refine VX_go4 (fs := []) (ok 0 _) eqs trivial 100 [] rfl trivial ?_
  refine VX_callD (ok 0 _) [61, 34, 3] [] rfl rfl rfl rfl rfl rfl c2 rfl rfl rfl ?_
  refine VX_go4 (fs := []) (ok 0 _) eqs trivial 100 [] rfl trivial ?_
  refine VX_callD (ok 0 _) [61, 34, 3] [] rfl rfl rfl rfl rfl rfl c3 rfl rfl rfl ?_
  refine VX_go4 (fs := []) (ok 0 _) eqs trivial 100 [] rfl trivial ?_
  exact ⟨.inr rfl, rfl⟩
end Go.Den.Q33
/- Law 33: what a light client is shown. -/
namespace Go.Den.Q33
open Go Go.Den Go.Proofs Go.Den.Q33.Dg
set_option maxRecDepth 8000
set_option linter.unusedVariables false
set_option linter.unusedSimpArgs false
open Go.Den.Q33.Sh (dgE)
open Go.Den.Q33.Me (Dig dsE All32 z0 rootB eqDg brL provesB)

/-! ### all heads in order -/
theorem right_ok {hs : List Hd} (hh : ∀ x ∈ hs, x.ok) (hl : hs.length ≤ 100000) (hf : ∀ i, i < hs.length → folB (hs.take i) (hs.getD i z0h) = 0) : FnOk Tryd.prog tb 25 [78, 31] [4] [.nilp, liE hs] [.bool true] := by
  refine FnOk_of_V (fn := Tryd.f25) (bt := 4) (ok 0 _) Tryd.func25 rfl rfl rfl (by decide) fun hw => ?_
  clear hw
  have hrm : (hs.map Hd.E).length = hs.length := by simp
  apply V_of_VX
  refine VX_go4 (fs := []) (ok 0 _) eqs trivial 100 [] rfl trivial ?_
  refine VX_loopA (fun i : Nat => i ≤ hs.length) (fun i => [(10, .t 3 (.e (.int i))), (9, .t 3 (.e (.int hs.length))), (8, .t 29 (.e (hsE hs))), (3, .ptr 0 []), (0, .t 78 (.e .nilp))])
    (fun i => [.tree 31 (.e (liE hs))]) (fun i => hs.length - i) 0 (by omega) ?_ ?_
  · exact wk1 rfl rfl (by simp [Blk.under, T.under]) (lc (ls rfl rfl) (lc (li (by rw [hrm])) (lc (ls rfl rfl) (lc (ls rfl rfl) (lc (ls rfl rfl) lnil)))))
  · intro i hi
    refine VX_go4 (fs := []) (ok 0 _) eqs trivial 100 [] rfl trivial ?_
    refine VX_split 11 rfl rfl (fun h => ?_) (fun h => ?_)
    · have hi : i < hs.length := by simpa using h
      have ei : IntKind.wrap .i64 ((i : Int) + 1) = ((i + 1 : Nat) : Int) := by rw [w64 (by omega) (by omega)]; simp
      have hg := hd_get hi
      have hxo : (hs.getD i z0h).ok := by
        rw [List.getD, List.getElem?_eq_getElem hi]; exact hh _ (List.getElem_mem _)
      have c1 := (follows_ok (hs := hs.take i) (fun x hx => hh x (List.mem_of_mem_take hx)) (by simp; omega) hxo).g
      rw [hf i hi] at c1
      generalize hs.getD i z0h = r at hg c1
      obtain ⟨r1, r2, r3, r4, r5, r6, r7⟩ := r
      refine VX_go4 (fs := []) (ok 0 _) eqs trivial 100 [6] rfl (by simp [allP]; omega) ?_
      refine VX_eq 14 rfl rfl (d' := .t 59 (.e (Hd.E ⟨r1, r2, r3, r4, r5, r6, r7⟩))) (congrArg (fun x => D.t 59 (.e x)) hg) ?_
      refine VX_go4 (fs := []) (ok 0 _) eqs trivial 100 [] rfl trivial ?_
      refine VX_draw [] [(0, true), (1, true), (2, true), (3, true), (4, true), (5, true), (6, false), (7, true)] mixed (by kernel_rfl) (by kernel_rfl) (by kernel_rfl) ?_
      refine VX_go4 (fs := []) (ok 0 _) eqs trivial 100 [] rfl (by simp [allP]; omega) ?_
      refine VX_eq 19 rfl rfl (d' := .t 29 (.e (hsE (hs.take i)))) (show D.t 29 (.e (.sl (((hs.map Hd.E).take i).drop 0))) = D.t 29 (.e (.sl ((hs.take i).map Hd.E))) by rw [List.map_take]; rfl) ?_
      refine VX_callO (ok 0 _) [78, 29, 59] [] rfl rfl rfl rfl rfl rfl rfl rfl c1 rfl rfl rfl ?_
      refine VX_go4 (fs := []) (ok 0 _) eqs trivial 100 [] rfl trivial ?_
      refine VX_known 22 false rfl rfl rfl ?_
      refine VX_go4 (fs := []) (ok 0 _) eqs trivial 100 [] rfl trivial ?_
      refine loop_nrm ⟨i + 1, by omega, by omega, ?_⟩
      exact wkc [.tree 59 (.e (Hd.E ⟨r1, r2, r3, r4, r5, r6, r7⟩))] rfl rfl (by simp [Blk.under, T.under]) (lc (li (by rw [ei])) (lc (ls rfl rfl) (lc (ls rfl rfl) (lc (ls rfl rfl) (lc (ls rfl rfl) lnil)))))
    · refine VX_go4 (fs := []) (ok 0 _) eqs trivial 100 [] rfl trivial ?_
      apply loop_brk
      refine VX_go4 (fs := []) (ok 0 _) eqs trivial 100 [] rfl trivial ?_
      exact ⟨.inr rfl, rfl⟩

/-! ### the head of a height -/
theorem clos_ok (x : Hd) (g : Nat) : FnG Tryd.prog tb 34 [.tree 22 (.e (.int g))] [.t 59 (.e x.E), .ptr 0 []] (fun d t => d = .t 4 (.e (.bool (decide (x.h = g)))) ∧ t = [.tree 22 (.e (.int g))]) := by
  refine FnG_of_V (fn := Tryd.f34) (bt := 4) false [] [4] (ok 1 _) Tryd.func34 rfl rfl rfl fun _ _ _ _ _ _ => ?_
  obtain ⟨r1, r2, r3, r4, r5, r6, r7⟩ := x
  apply V_of_VX
  refine VX_go4 (fs := []) (ok 1 _) eqs trivial 100 [] rfl trivial ?_
  refine ⟨.inr rfl, _, _, _, rfl, rfl, rfl, ?_, rfl⟩
  have : decide ((r1 : Int) = (g : Int)) = decide (r1 = g) := by rw [decide_eq_decide]; omega
  show D.t 4 (.e (.bool (decide ((r1 : Int) = (g : Int))))) = _
  rw [this]
def hidx (g : Nat) : List Hd → Nat → Int
  | [], _ => -1
  | x :: l, i => if decide (x.h = g) = true then i else hidx g l (i + 1)
def findH (g : Nat) : List Hd → Option Hd
  | [] => none
  | x :: l => if x.h = g then some x else findH g l
theorem hidx_spec (g : Nat) : ∀ (l : List Hd) (k : Nat), (hidx g l k = -1 ∧ findH g l = none) ∨ ∃ j, j < l.length ∧ hidx g l k = ((k + j : Nat) : Int) ∧ findH g l = some (l.getD j z0h)
  | [], k => .inl ⟨rfl, rfl⟩
  | x :: l, k => by
    by_cases h : x.h = g
    · exact .inr ⟨0, by simp, by simp [hidx, h], by simp [findH, h]⟩
    · rcases hidx_spec g l (k + 1) with ⟨h1, h2⟩ | ⟨j, h1, h2, h3⟩
      · exact .inl ⟨by simp [hidx, h, h1], by simp [findH, h, h2]⟩
      · exact .inr ⟨j + 1, by simp; omega, by simp only [hidx, h, decide_false, Bool.false_eq_true, if_false, h2]; congr 1; omega, by simp [findH, h, h3]⟩
theorem index_ok (hs : List Hd) (g : Nat) (hl : hs.length ≤ 100000) : FnG Tryd.prog tb 33 [.tree 22 (.e (.int g))] [.t 29 (.e (hsE hs)), .t 88 (.fn 34 [(0, [])])] (fun d t => d = .t 3 (.e (.int (hidx g hs 0))) ∧ t = [.tree 22 (.e (.int g))]) := by
  refine FnG_of_V (fn := Tryd.f33) (bt := 4) false [] [3] (ok 1 _) Tryd.func33 rfl rfl rfl fun _ _ _ _ _ _ => ?_
  have hrm : (hs.map Hd.E).length = hs.length := by simp
  apply V_of_VX
  refine VX_go4 (fs := []) (ok 1 _) eqs trivial 100 [] rfl trivial ?_
  refine VX_loopA (fun i : Nat => i ≤ hs.length ∧ hidx g (hs.drop i) i = hidx g hs 0) (fun i => [(8, .t 3 (.e (.int i))), (7, .t 3 (.e (.int hs.length))), (0, .t 29 (.e (hsE hs))), (1, .t 88 (.fn 34 [(0, [])]))]) (fun _ => [.tree 22 (.e (.int g))]) (fun i => hs.length - i) 0 ⟨by simp, by simp⟩ ?_ ?_
  · exact wk1 rfl rfl (by simp [Blk.under, T.under]) (lc (ls rfl rfl) (lc (li (by rw [hrm])) (lc (ls rfl rfl) (lc (ls rfl rfl) lnil))))
  · rintro i ⟨hi, hpq⟩
    refine VX_go4 (fs := []) (ok 1 _) eqs trivial 100 [] rfl trivial ?_
    refine VX_split 9 rfl rfl (fun h => ?_) (fun h => ?_)
    · have hi : i < hs.length := by simpa using h
      have hg := hd_get hi
      have hd1 : hs.drop i = hs.getD i z0h :: hs.drop (i + 1) := by rw [List.drop_eq_getElem_cons hi]; simp [List.getD, hi]
      rw [hd1] at hpq
      generalize hs.getD i z0h = r at hg hpq
      refine VX_go4 (fs := []) (ok 1 _) eqs trivial 100 [] rfl (by simp [allP]; omega) ?_
      refine VX_eq 15 rfl rfl (d' := .t 59 (.e r.E)) (congrArg (fun x => D.t 59 (.e x)) hg) ?_
      refine VX_callC (ok 1 _) [59] [0] rfl rfl rfl rfl rfl rfl rfl (clos_ok r g) rfl rfl rfl ?_
      refine VX_split 16 rfl rfl (fun h => ?_) (fun h => ?_)
      · refine VX_go4 (fs := []) (ok 1 _) eqs trivial 100 [] rfl trivial ?_
        have : hidx g hs 0 = i := by rw [← hpq]; simp [hidx, h]
        refine loop_ret ⟨.inr rfl, _, _, _, rfl, rfl, rfl, ?_⟩
        rw [this]; exact ⟨rfl, rfl⟩
      · refine VX_go4 (fs := []) (ok 1 _) eqs trivial 100 [] rfl trivial ?_
        refine loop_nrm ⟨i + 1, by omega, ⟨by omega, ?_⟩, ?_⟩
        · rw [← hpq]; simp only [hidx, h]; simp
        · refine wk1 rfl rfl (by simp [Blk.under, T.under]) (lc (li ?_) (lc (ls rfl rfl) (lc (ls rfl rfl) (lc (ls rfl rfl) lnil))))
          rw [w64 (by omega) (by omega)]; simp
    · refine VX_go4 (fs := []) (ok 1 _) eqs trivial 100 [] rfl trivial ?_
      apply loop_brk
      refine VX_go4 (fs := []) (ok 1 _) eqs trivial 100 [] rfl trivial ?_
      have : i = hs.length := by simp at h; omega
      refine ⟨.inr rfl, _, _, _, rfl, rfl, rfl, ?_⟩
      rw [← hpq, this, List.drop_length]; exact ⟨rfl, rfl⟩

/-! ### what is shown -/
structure Pf.ok (x : Pf) : Prop where
  a : x.a < 4294967296
  c : x.c.length ≤ 30000
  cs : All32 x.cs
  rs : All32 x.rs
  lc : x.cs.length ≤ 100000
  lr : x.rs.length ≤ 100000
def shwB (x : Hd) (p : Pf) : Int :=
  if x.n ≤ p.a then 2 else if provesB x.c (callB p.c) p.a p.cs = false then 35 else if provesB x.r (recB p.a p.e) p.a p.rs = false then 35 else 0
def showO (F : Hd → Int) : Option Hd → Int
  | none => 14
  | some x => F x
def showB (hs : List Hd) (g : Nat) (p : Pf) : Int := showO (fun x => shwB x p) (findH g hs)
theorem callB_length (s : List UInt8) : (callB s).length = 32 := ofB_length _ _
theorem recB_length (i : Nat) (e : Int) : (recB i e).length = 32 := ofB_length _ _
set_option maxHeartbeats 1600000 in
theorem shows_ok {hs : List Hd} (hl : hs.length ≤ 100000) (g : Nat) {p : Pf} (hp : p.ok) : FnOk Tryd.prog tb 14 [78, 31, 22, 36] [33] [.nilp, liE hs, .int g, p.E] [.int (showB hs g p)] := by
  refine FnOk_of_V (fn := Tryd.f14) (bt := 4) (ok 0 _) Tryd.func14 rfl rfl rfl (by decide) fun hw => ?_
  clear hw
  have hrm : (hs.map Hd.E).length = hs.length := by simp
  have c0 := index_ok hs g hl
  have hsp := hidx_spec g hs 0
  generalize hidx g hs 0 = k at c0 hsp
  unfold showB
  apply V_of_VX
  refine VX_go4 (fs := []) (ok 0 _) eqs trivial 100 [] rfl trivial ?_
  refine VX_makeFunc rfl rfl rfl rfl rfl rfl ?_
  refine VX_callD (ok 0 _) [29, 88] [1] rfl rfl rfl rfl rfl rfl c0 rfl rfl rfl ?_
  refine VX_go4 (fs := []) (ok 0 _) eqs trivial 100 [] rfl trivial ?_
  rcases hsp with ⟨rfl, hn⟩ | ⟨j, hj, rfl, hn⟩
  · rw [hn]
    refine VX_known 16 true rfl rfl rfl ?_
    refine VX_go4 (fs := []) (ok 0 _) eqs trivial 100 [] rfl trivial ?_
    exact ⟨.inr rfl, rfl⟩
  rw [hn]
  simp only [showO]
  have hg := hd_get hj
  generalize hs.getD j z0h = x at hg ⊢
  rw [Nat.zero_add]
  obtain ⟨x1, x2, x3, x4, x5, x6, x7⟩ := x
  have c1 := (call_ok hp.c).g
  have c2 := (Me.proves_ok (root := x5) (callB_length p.c) hp.cs hp.lc p.a hp.a).g
  have c3 := (rec_ok hp.a p.e).g
  have c4 := (Me.proves_ok (root := x6) (recB_length p.a p.e) hp.rs hp.lr p.a hp.a).g
  obtain ⟨pa, pc, pe, pcs, prs⟩ := p
  have hpa := hp.a
  unfold shwB
  simp only at c1 c2 c3 c4 hpa ⊢
  generalize provesB x5 (callB pc) pa pcs = b1 at c2 ⊢
  generalize provesB x6 (recB pa pe) pa prs = b2 at c4 ⊢
  generalize callB pc = d1 at c1 c2
  generalize recB pa pe = d2 at c3 c4
  have ew : IntKind.wrap .i64 (pa : Int) = (pa : Int) := w64 (by omega) (by omega)
  refine VX_known 16 false rfl rfl (by simp) ?_
  refine VX_go4 (fs := []) (ok 0 _) eqs trivial 100 [10] rfl (by simp [allP]; omega) ?_
  refine VX_eq 21 rfl rfl (d' := .t 59 (.e (Hd.E ⟨x1, x2, x3, x4, x5, x6, x7⟩))) (congrArg (fun x => D.t 59 (.e x)) hg) ?_
  refine VX_go4 (fs := []) (ok 0 _) eqs trivial 100 [] rfl trivial ?_
  by_cases hq : x7 ≤ pa
  · rw [if_pos hq]
    refine VX_known 22 true rfl rfl (by simp; omega) ?_
    refine VX_go4 (fs := []) (ok 0 _) eqs trivial 100 [] rfl trivial ?_
    exact ⟨.inr rfl, rfl⟩
  rw [if_neg hq]
  refine VX_known 22 false rfl rfl (by simp; omega) ?_
  refine VX_go4 (fs := []) (ok 0 _) eqs trivial 100 [] rfl trivial ?_
  refine VX_draw [] [(0, true), (1, true), (2, true), (3, true), (4, true), (5, true), (7, true), (8, true), (9, true), (10, true), (6, false), (11, false), (12, true), (13, true)] mixed (by kernel_rfl) (by kernel_rfl) (by kernel_rfl) ?_
  refine VX_go4 (fs := []) (ok 0 _) eqs trivial 100 [] rfl trivial ?_
  refine VX_callO (ok 0 _) [78, 9] [] rfl rfl rfl rfl rfl rfl rfl rfl c1 rfl rfl rfl ?_
  refine VX_callO (ok 0 _) [78, 24, 24, 32, 34] [] rfl rfl rfl rfl rfl rfl rfl rfl c2 rfl rfl rfl ?_
  refine VX_go4 (fs := []) (ok 0 _) eqs trivial 100 [] rfl trivial ?_
  cases b1 with
  | false =>
    rw [if_pos rfl]
    refine VX_known 28 true rfl rfl rfl ?_
    refine VX_go4 (fs := []) (ok 0 _) eqs trivial 100 [] rfl trivial ?_
    exact ⟨.inr rfl, rfl⟩
  | true =>
  rw [if_neg (by simp)]
  refine VX_known 28 false rfl rfl rfl ?_
  refine VX_go4 (fs := []) (ok 0 _) eqs trivial 100 [] rfl trivial ?_
  refine VX_draw [] [(0, true), (1, true), (2, true), (3, true), (4, true), (5, true), (6, true), (7, true), (8, true), (10, true), (11, true), (12, true), (13, true), (9, false), (14, false), (15, true), (16, true)] mixed (by kernel_rfl) (by kernel_rfl) (by kernel_rfl) ?_
  refine VX_go4 (fs := []) (ok 0 _) eqs trivial 100 [] rfl trivial ?_
  refine VX_eq 48 rfl rfl (d' := .t 3 (.e (.int pa))) (congrArg (fun x => D.t 3 (.e (.int x))) ew) ?_
  refine VX_callO (ok 0 _) [78, 3, 33] [] rfl rfl rfl rfl rfl rfl rfl rfl c3 rfl rfl rfl ?_
  refine VX_callO (ok 0 _) [78, 24, 24, 32, 34] [] rfl rfl rfl rfl rfl rfl rfl rfl c4 rfl rfl rfl ?_
  refine VX_go4 (fs := []) (ok 0 _) eqs trivial 100 [] rfl trivial ?_
  cases b2 with
  | false =>
    rw [if_pos rfl]
    refine VX_known 28 true rfl rfl rfl ?_
    refine VX_go4 (fs := []) (ok 0 _) eqs trivial 100 [] rfl trivial ?_
    exact ⟨.inr rfl, rfl⟩
  | true =>
    rw [if_neg (by simp)]
    refine VX_known 28 false rfl rfl rfl ?_
    refine VX_go4 (fs := []) (ok 0 _) eqs trivial 100 [] rfl trivial ?_
    exact ⟨.inr rfl, rfl⟩
end Go.Den.Q33
/- Law 33: what a light client is shown, in the other's words. -/
namespace Go.Den.Q33
open Go Go.Den Go.Proofs Go.Den.Q33.Dg
set_option maxRecDepth 8000
set_option linter.unusedVariables false
set_option linter.unusedSimpArgs false
open Go.Den.Q33.Sh (dgE)
open Go.Den.Q33.Me (Dig dsE All32 z0 rootB eqDg brL provesB)
theorem rcall_ok {s : List UInt8} (h : s.length ≤ 30000) : FnOk Tryd.prog tb 39 [61, 5, 25] [24] [.nilp, byteE 203, .sl [.str s]] [dgE (callB s)] := rof_nil 203 [s] (call_input h)
set_option maxHeartbeats 1600000 in
theorem rshows_ok {hs : List Hd} (hl : hs.length ≤ 100000) (g : Nat) {p : Pf} (hp : p.ok) : FnOk Tryd.prog tb 15 [61, 53, 22, 42] [3] [.nilp, hsE hs, .int g, p.E] [.int (showB hs g p)] := by
  refine FnOk_of_V (fn := Tryd.f15) (bt := 4) (ok 0 _) Tryd.func15 rfl rfl rfl (by decide) fun hw => ?_
  clear hw
  have hrm : (hs.map Hd.E).length = hs.length := by simp
  unfold showB
  have c1 := (rcall_ok hp.c).g
  have c3 := (rrec_ok hp.a p.e).g
  have hpa := hp.a
  have ew := u64n p.a (by omega)
  obtain ⟨F, hF⟩ : ∃ F : Hd → Int, F = fun x => shwB x p := ⟨_, rfl⟩
  rw [← hF]
  have key' : ∀ x : Hd, ∃ b1 b2 : Bool, (FnOk Tryd.prog tb 38 [61, 24, 24, 32, 34] [4] [.nilp, dgE x.c, dgE (callB p.c), .int p.a, dsE p.cs] [.bool b1]) ∧
      (FnOk Tryd.prog tb 38 [61, 24, 24, 32, 34] [4] [.nilp, dgE x.r, dgE (recB p.a p.e), .int p.a, dsE p.rs] [.bool b2]) ∧
      F x = if x.n ≤ p.a then 2 else if b1 = false then 35 else if b2 = false then 35 else 0 := fun x =>
    ⟨_, _, Me.rproves_ok (callB_length p.c) hp.cs hp.lc p.a hp.a, Me.rproves_ok (recB_length p.a p.e) hp.rs hp.lr p.a hp.a, by rw [hF]; rfl⟩
  clear hF
  generalize callB p.c = d1 at c1 key'
  generalize recB p.a p.e = d2 at c3 key'
  clear hp
  obtain ⟨pa, pc, pe, pcs, prs⟩ := p
  simp only at c1 c3 hpa ew key'
  apply V_of_VX
  refine VX_go4 (fs := []) (ok 0 _) eqs trivial 100 [] rfl trivial ?_
  refine VX_loopA (fun i : Nat => i ≤ hs.length ∧ findH g (hs.drop i) = findH g hs) (fun i => [(13, .t 3 (.e (.int i))), (12, .t 3 (.e (.int hs.length))), (11, .t 53 (.e (hsE hs))), (7, .ptr 0 []), (2, .t 22 (.e (.int g))), (0, .t 61 (.e .nilp))])
    (fun i => [.tree 42 (.e (Pf.E ⟨pa, pc, pe, pcs, prs⟩))]) (fun i => hs.length - i) 0 ⟨by omega, by simp⟩ ?_ ?_
  · exact wk1 rfl rfl (by simp [Blk.under, T.under]) (lc (ls rfl rfl) (lc (li (by rw [hrm])) (lc (ls rfl rfl) (lc (ls rfl rfl) (lc (ls rfl rfl) (lc (ls rfl rfl) lnil))))))
  · rintro i ⟨hi, hpq⟩
    refine VX_go4 (fs := []) (ok 0 _) eqs trivial 100 [] rfl trivial ?_
    refine VX_split 14 rfl rfl (fun h => ?_) (fun h => ?_)
    · have hi : i < hs.length := by simpa using h
      have ei : IntKind.wrap .i64 ((i : Int) + 1) = ((i + 1 : Nat) : Int) := by rw [w64 (by omega) (by omega)]; simp
      have hg := hd_get hi
      have hd1 : hs.drop i = hs.getD i z0h :: hs.drop (i + 1) := by rw [List.drop_eq_getElem_cons hi]; simp [List.getD, hi]
      rw [hd1] at hpq
      generalize hs.getD i z0h = x at hg hpq
      obtain ⟨b1, b2, c2, c4, hF⟩ := key' x
      have c2 := c2.g
      have c4 := c4.g
      obtain ⟨x1, x2, x3, x4, x5, x6, x7⟩ := x
      simp only at c2 c4 hF
      refine VX_go4 (fs := []) (ok 0 _) eqs trivial 100 [10] rfl (by simp [allP]; omega) ?_
      refine VX_eq 16 rfl rfl (d' := .t 63 (.e (Hd.E ⟨x1, x2, x3, x4, x5, x6, x7⟩))) (congrArg (fun x => D.t 63 (.e x)) hg) ?_
      refine VX_go4 (fs := []) (ok 0 _) eqs trivial 100 [] rfl trivial ?_
      by_cases hh : x1 = g
      · have hfd : findH g hs = some ⟨x1, x2, x3, x4, x5, x6, x7⟩ := by rw [← hpq]; simp [findH, hh]
        rw [hfd]
        simp only [showO]
        rw [hF]
        refine VX_known 20 false rfl rfl (by simp [hh]; try omega) ?_
        refine VX_go4 (fs := []) (ok 0 _) eqs trivial 100 [] rfl trivial ?_
        by_cases hq : x7 ≤ pa
        · rw [if_pos hq]
          refine VX_known 25 true rfl rfl (by simp; omega) ?_
          refine VX_go4 (fs := []) (ok 0 _) eqs trivial 100 [] rfl trivial ?_
          apply loop_ret
          exact ⟨.inr rfl, rfl⟩
        rw [if_neg hq]
        refine VX_known 25 false rfl rfl (by simp; omega) ?_
        refine VX_go4 (fs := []) (ok 0 _) eqs trivial 100 [] rfl trivial ?_
        refine VX_draw [] [(0, true), (1, true), (2, true), (3, true), (4, true), (5, true), (8, true), (9, true), (10, true), (11, true), (6, false), (7, false), (12, false), (13, true)] mixed (by kernel_rfl) (by kernel_rfl) (by kernel_rfl) ?_
        refine VX_go4 (fs := []) (ok 0 _) eqs trivial 100 [] rfl trivial ?_
        refine VX_litO (ok 0 _) rfl rfl rfl rfl rfl ?_
        refine VX_callO (ok 0 _) [61, 5, 25] [] rfl rfl rfl rfl rfl rfl rfl rfl c1 rfl rfl rfl ?_
        refine VX_callO (ok 0 _) [61, 24, 24, 32, 34] [] rfl rfl rfl rfl rfl rfl rfl rfl c2 rfl rfl rfl ?_
        refine VX_go4 (fs := []) (ok 0 _) eqs trivial 100 [] rfl trivial ?_
        cases b1 with
        | false =>
          rw [if_pos rfl]
          refine VX_known 39 true rfl rfl rfl ?_
          refine VX_go4 (fs := []) (ok 0 _) eqs trivial 100 [] rfl trivial ?_
          apply loop_ret
          exact ⟨.inr rfl, rfl⟩
        | true =>
        rw [if_neg (by simp)]
        refine VX_known 39 false rfl rfl rfl ?_
        refine VX_go4 (fs := []) (ok 0 _) eqs trivial 100 [] rfl trivial ?_
        refine VX_draw [] [(0, true), (1, true), (2, true), (3, true), (4, true), (5, true), (6, true), (7, true), (8, true), (10, true), (11, true), (12, true), (13, true), (9, false), (14, false), (15, true)] mixed (by kernel_rfl) (by kernel_rfl) (by kernel_rfl) ?_
        refine VX_go4 (fs := []) (ok 0 _) eqs trivial 100 [] rfl trivial ?_
        refine VX_eq 46 rfl rfl (d' := .t 22 (.e (.int pa))) (congrArg (fun x => D.t 22 (.e (.int x))) ew) ?_
        refine VX_callO (ok 0 _) [61, 22, 3] [] rfl rfl rfl rfl rfl rfl rfl rfl c3 rfl rfl rfl ?_
        refine VX_callO (ok 0 _) [61, 24, 24, 32, 34] [] rfl rfl rfl rfl rfl rfl rfl rfl c4 rfl rfl rfl ?_
        refine VX_go4 (fs := []) (ok 0 _) eqs trivial 100 [] rfl trivial ?_
        cases b2 with
        | false =>
          rw [if_pos rfl]
          refine VX_known 55 true rfl rfl rfl ?_
          refine VX_go4 (fs := []) (ok 0 _) eqs trivial 100 [] rfl trivial ?_
          apply loop_ret
          exact ⟨.inr rfl, rfl⟩
        | true =>
          rw [if_neg (by simp)]
          refine VX_known 55 false rfl rfl rfl ?_
          refine VX_go4 (fs := []) (ok 0 _) eqs trivial 100 [] rfl trivial ?_
          apply loop_ret
          exact ⟨.inr rfl, rfl⟩
      · refine VX_known 20 true rfl rfl (by simp; omega) ?_
        refine VX_go4 (fs := []) (ok 0 _) eqs trivial 100 [] rfl trivial ?_
        refine loop_nrm ⟨i + 1, by omega, ⟨by omega, by rw [← hpq]; simp [findH, hh]⟩, ?_⟩
        exact wkc [.tree 63 (.e (Hd.E ⟨x1, x2, x3, x4, x5, x6, x7⟩))] rfl rfl (by simp [Blk.under, T.under]) (lc (li (by rw [ei])) (lc (ls rfl rfl) (lc (ls rfl rfl) (lc (ls rfl rfl) (lc (ls rfl rfl) (lc (ls rfl rfl) lnil))))))
    · have : i = hs.length := by simp at h; omega
      have hfd : findH g hs = none := by rw [← hpq, this, List.drop_length]; rfl
      rw [hfd]
      refine VX_go4 (fs := []) (ok 0 _) eqs trivial 100 [] rfl trivial ?_
      apply loop_brk
      refine VX_go4 (fs := []) (ok 0 _) eqs trivial 100 [] rfl trivial ?_
      exact ⟨.inr rfl, rfl⟩
end Go.Den.Q33
/- Law 33: a proof shows; the law of proofs. -/
namespace Go.Den.Q33
open Go Go.Den Go.Proofs Go.Den.Q33.Dg
set_option maxRecDepth 8000
set_option linter.unusedVariables false
set_option linter.unusedSimpArgs false
open Go.Den.Q33.Sh (dgE)
open Go.Den.Q33.Me (Dig dsE All32 z0 rootB eqDg brL provesB)

theorem proves_br {L : List Dig} {k : Nat} (hk : k < L.length) (hl : L.length ≤ 100000) (z : Dig) : provesB (rootB L) (L.getD k z) k (brL L k 32) = true := by
  have h1 : Me.climbB (L.getD k z) k (brL L k 32) = Me.clB (Me.nd L 0 k) k (brL L k 32) 32 := by
    rw [Me.nd_zero hk z]
    unfold Me.climbB Me.upTo
    rw [Me.brL_length]; rfl
  unfold provesB
  rw [h1, Me.cl_root hk (by omega), Me.brL_length]
  simp
theorem cL_get {cs : List (List UInt8)} {k : Nat} (h : k < cs.length) : (cL cs).getD k [] = callB (cs.getD k []) := by simp [cL, List.getD, h]
theorem rL_get {rs : List Int} {k : Nat} (h : k < rs.length) : (rL rs).getD k [] = recB k (rs.getD k 0) := by
  simp [rL, List.getD, h]
theorem prv_shows {x : Bk} (hs : Small x) {k : Nat} (h1 : k < x.cs.length) (h2 : k < x.rs.length) (p : Dig) : shwB (ofHB x p) (prvB x k) = 0 := by
  have e1 : provesB (rootB (cL x.cs)) (callB (x.cs.getD k [])) k (brL (cL x.cs) k 32) = true := by
    rw [← cL_get h1]
    exact proves_br (by rw [cL_length]; exact h1) (by rw [cL_length]; have := hs.1; omega) []
  have e2 : provesB (rootB (rL x.rs)) (recB k (x.rs.getD k 0)) k (brL (rL x.rs) k 32) = true := by
    rw [← rL_get h2]
    exact proves_br (by rw [rL_length]; exact h2) (by rw [rL_length]; have := hs.2.1; omega) []
  unfold shwB
  rw [if_neg (by show ¬ x.cs.length ≤ k; omega)]
  rw [if_neg (by show ¬ provesB (rootB (cL x.cs)) (callB (x.cs.getD k [])) k (brL (cL x.cs) k 32) = false; rw [e1]; simp)]
  rw [if_neg (by show ¬ provesB (rootB (rL x.rs)) (recB k (x.rs.getD k 0)) k (brL (rL x.rs) k 32) = false; rw [e2]; simp)]
theorem prv_ok {x : Bk} (hs : Small x) {k : Nat} (h1 : k < x.cs.length) : (prvB x k).ok :=
  ⟨by show k < _; have := hs.1; omega, hs.2.2 _ (getD_mem h1), Me.brL_all (cL_all _) _ _, Me.brL_all (rL_all _) _ _, by show (brL (cL x.cs) k 32).length ≤ _; rw [Me.brL_length]; omega, by show (brL (rL x.rs) k 32).length ≤ _; rw [Me.brL_length]; omega⟩

/-! ### the law's own try -/
def x0 : Bk := ⟨3, z0, 0, [[97]], [7], z0⟩
theorem x0_small : Small x0 := ⟨by simp [x0], by simp [x0], by simp [x0]⟩
theorem x0_ok : x0.ok := ⟨by simp [x0], by simp [x0, z0], by simp [x0], by simp [x0, z0]⟩
set_option maxHeartbeats 1600000 in
theorem awake_walk {h0 : Hd} {P : Pf} (c1 : FnOk Tryd.prog tb 18 [78, 28, 24] [59] [.nilp, x0.E, dgE z0] [h0.E]) (c2 : FnOk Tryd.prog tb 17 [78, 31, 59] [31, 33] [.nilp, liE [], h0.E] [liE [h0], .int 0])
    (c3 : FnOk Tryd.prog tb 9 [78, 28, 3] [36, 33] [.nilp, x0.E, .int 0] [P.E, .int 0]) (c4 : FnOk Tryd.prog tb 14 [78, 31, 22, 36] [33] [.nilp, liE [h0], .int 3, P.E] [.int 0])
    (c5 : FnOk Tryd.prog tb 14 [78, 31, 22, 36] [33] [.nilp, liE [], .int 3, P.E] [.int 14]) : FnOk Tryd.prog tb 7 [] [4] [] [.bool true] := by
  refine FnOk_of_V (fn := Tryd.f7) (bt := 4) (ok 0 _) Tryd.func7 rfl rfl rfl (by decide) fun hw => ?_
  clear hw
  have c1 := c1.g
  have c2 := c2.g
  have c3 := c3.g
  have c4 := c4.g
  have c5 := c5.g
  obtain ⟨h1, h2, h3, h4, h5, h6, h7⟩ := h0
  obtain ⟨pa, pc, pe, pcs, prs⟩ := P
  apply V_of_VX
  refine VX_go4 (fs := []) (ok 0 _) eqs trivial 100 [] rfl trivial ?_
  refine VX_callD (ok 0 _) [78, 28, 24] [] rfl rfl rfl rfl rfl rfl c1 rfl rfl rfl ?_
  refine VX_go4 (fs := []) (ok 0 _) eqs trivial 100 [] rfl trivial ?_
  refine VX_callD (ok 0 _) [78, 31, 59] [] rfl rfl rfl rfl rfl rfl c2 rfl rfl rfl ?_
  refine VX_go4 (fs := []) (ok 0 _) eqs trivial 100 [] rfl trivial ?_
  refine VX_callD (ok 0 _) [78, 28, 3] [] rfl rfl rfl rfl rfl rfl c3 rfl rfl rfl ?_
  refine VX_go4 (fs := []) (ok 0 _) eqs trivial 100 [] rfl trivial ?_
  refine VX_known 26 true rfl rfl rfl ?_
  refine VX_go4 (fs := []) (ok 0 _) eqs trivial 100 [] rfl trivial ?_
  refine VX_known 30 true rfl rfl rfl ?_
  refine VX_go4 (fs := []) (ok 0 _) eqs trivial 100 [] rfl trivial ?_
  refine VX_callD (ok 0 _) [78, 31, 22, 36] [] rfl rfl rfl rfl rfl rfl c4 rfl rfl rfl ?_
  refine VX_go4 (fs := []) (ok 0 _) eqs trivial 100 [] rfl trivial ?_
  refine VX_known 36 true rfl rfl rfl ?_
  refine VX_go4 (fs := []) (ok 0 _) eqs trivial 100 [] rfl trivial ?_
  refine VX_callD (ok 0 _) [78, 31, 22, 36] [] rfl rfl rfl rfl rfl rfl c5 rfl rfl rfl ?_
  refine VX_go4 (fs := []) (ok 0 _) eqs trivial 100 [] rfl trivial ?_
  exact ⟨.inr rfl, rfl⟩

theorem awake_fin {h0 : Hd} {P : Pf} (c1 : FnOk Tryd.prog tb 18 [78, 28, 24] [59] [.nilp, x0.E, dgE z0] [h0.E]) (c3 : FnOk Tryd.prog tb 9 [78, 28, 3] [36, 33] [.nilp, x0.E, .int (0 : Nat)] [P.E, .int 0])
    (hho : h0.ok) (hpo : P.ok) (hs0 : shwB h0 P = 0) (hh : h0.h = 3) : FnOk Tryd.prog tb 7 [] [4] [] [.bool true] := by
  have c2 := extend_ok (hs := []) (fun _ h => by cases h) (by simp) hho
  have e2 : folB [] h0 = 0 := by simp [folB]
  have e2' : extB [] h0 = [h0] := by rw [extB, if_pos e2]; rfl
  rw [e2, e2'] at c2
  have c4 := shows_ok (hs := [h0]) (by simp) 3 hpo
  have e4 : showB [h0] 3 P = 0 := by
    have : findH 3 [h0] = some h0 := by simp [findH, hh]
    rw [showB, this]; simp only [showO]; exact hs0
  rw [e4] at c4
  have c5 := shows_ok (hs := []) (by simp) 3 hpo
  have e5 : showB [] 3 P = 14 := by rw [showB]; simp only [findH, showO]
  rw [e5] at c5
  exact awake_walk c1 c2 c3 c4 c5
theorem awake_ok : FnOk Tryd.prog tb 7 [] [4] [] [.bool true] :=
  awake_fin (h0 := ofHB x0 z0) (P := prvB x0 0) (of_ok x0_small z0) (prove_ok x0_small 0 (by simp [x0]) (by simp [x0])) (ofHB_ok x0_ok x0_small (by simp [z0])) (prv_ok x0_small (k := 0) (by simp [x0]))
    (prv_shows x0_small (k := 0) (by simp [x0]) (by simp [x0]) z0) rfl

/-! ### reading the arguments -/
theorem list7 {α : Type} {l : List α} (h : l.length = 7) : ∃ a b c d e f g, l = [a, b, c, d, e, f, g] := by
  match l, h with
  | [a, b, c, d, e, f, g], _ => exact ⟨a, b, c, d, e, f, g, rfl⟩
theorem wt_u8 {t : TypeId} {x : E} (h : Wt tb t x) (ht : td tb t = .int .u8) : ∃ b : UInt8, x = byteE b := by
  obtain ⟨n, rfl, hn⟩ := wt_int h ht
  simp only [inR, Bool.and_eq_true, decide_eq_true_eq] at hn
  exact ⟨UInt8.ofNat n.toNat, by simp only [byteE, UInt8.toNat_ofNat']; congr 1; omega⟩
theorem wt_u32 {t : TypeId} {x : E} (h : Wt tb t x) (ht : td tb t = .int .u32) : ∃ n : Nat, x = .int n ∧ n < 4294967296 := by
  obtain ⟨n, rfl, hn⟩ := wt_int h ht
  simp only [inR, Bool.and_eq_true, decide_eq_true_eq] at hn
  exact ⟨n.toNat, by congr 1; omega, by omega⟩
theorem wt_u64 {t : TypeId} {x : E} (h : Wt tb t x) (ht : td tb t = .int .u64) : ∃ n : Nat, x = .int n ∧ n < 18446744073709551616 := by
  obtain ⟨n, rfl, hn⟩ := wt_int h ht
  simp only [inR, Bool.and_eq_true, decide_eq_true_eq] at hn
  exact ⟨n.toNat, by congr 1; omega, by omega⟩
theorem wt_dg {x : E} (h : Wt tb 24 x) : ∃ d : {d : Dig // d.length = 32}, x = dgE d.val := by
  obtain ⟨l, rfl, hl, hw⟩ := wt_arr (n := 32) (u := 5) h rfl
  obtain ⟨d, rfl⟩ := map_ex fun y hy => wt_u8 (hw y hy) rfl
  exact ⟨⟨d, by simpa using hl⟩, rfl⟩
theorem wt_digs {x : E} (h : Wt tb 34 x) : ∃ L : List Dig, x = dsE L ∧ All32 L := by
  obtain ⟨l, rfl, hl⟩ := wt_sl (u := 24) h rfl
  obtain ⟨L, rfl⟩ := map_ex fun y hy => wt_dg (hl y hy)
  exact ⟨L.map (·.1), by simp [dsE], fun d hd => by obtain ⟨z, _, rfl⟩ := List.mem_map.1 hd; exact z.2⟩
theorem wt_bk {x : E} (h : Wt tb 28 x) : ∃ r : {r : Bk // r.ok}, x = r.1.E := by
  obtain ⟨l, rfl, hl, hw⟩ := wt_st h rfl
  obtain ⟨a, b, c, d, e, f, rfl⟩ := list6 hl
  obtain ⟨n0, rfl, h0⟩ := wt_u64 (hw 0 _ a rfl rfl) rfl
  obtain ⟨⟨d1, h1⟩, rfl⟩ := wt_dg (hw 1 _ b rfl rfl)
  obtain ⟨n2, rfl, h2⟩ := wt_u64 (hw 2 _ c rfl rfl) rfl
  obtain ⟨xs, rfl, hx⟩ := wt_sl (u := 9) (hw 3 _ d rfl rfl) rfl
  obtain ⟨ys, rfl, hy⟩ := wt_sl (u := 33) (hw 4 _ e rfl rfl) rfl
  obtain ⟨⟨d5, h5⟩, rfl⟩ := wt_dg (hw 5 _ f rfl rfl)
  obtain ⟨cs, rfl⟩ := map_ex (f := E.str) fun y hy' => wt_str (hx y hy') rfl
  obtain ⟨rs, rfl⟩ := map_ex (f := E.int) fun y hy' => by obtain ⟨n, h, _⟩ := wt_int (k := .i64) (hy y hy') rfl; exact ⟨n, h⟩
  exact ⟨⟨⟨n0, d1, n2, cs, rs, d5⟩, ⟨h0, h1, h2, h5⟩⟩, rfl⟩
theorem wt_hd {x : E} (h : Wt tb 59 x) : ∃ r : {r : Hd // r.ok}, x = r.1.E := by
  obtain ⟨l, rfl, hl, hw⟩ := wt_st h rfl
  obtain ⟨a, b, c, d, e, f, g, rfl⟩ := list7 hl
  obtain ⟨n0, rfl, h0⟩ := wt_u64 (hw 0 _ a rfl rfl) rfl
  obtain ⟨⟨d1, h1⟩, rfl⟩ := wt_dg (hw 1 _ b rfl rfl)
  obtain ⟨n2, rfl, h2⟩ := wt_u64 (hw 2 _ c rfl rfl) rfl
  obtain ⟨⟨d3, h3⟩, rfl⟩ := wt_dg (hw 3 _ d rfl rfl)
  obtain ⟨⟨d4, h4⟩, rfl⟩ := wt_dg (hw 4 _ e rfl rfl)
  obtain ⟨⟨d5, h5⟩, rfl⟩ := wt_dg (hw 5 _ f rfl rfl)
  obtain ⟨n6, rfl, h6⟩ := wt_u32 (hw 6 _ g rfl rfl) rfl
  exact ⟨⟨⟨n0, d1, n2, d3, d4, d5, n6⟩, ⟨h0, h1, h2, h3, h4, h5, h6⟩⟩, rfl⟩
theorem wt_li {x : E} (h : Wt tb 31 x) : ∃ hs : List Hd, x = liE hs ∧ ∀ y ∈ hs, y.ok := by
  obtain ⟨l, rfl, hl, hw⟩ := wt_st h rfl
  obtain ⟨a, rfl⟩ := list1 hl
  obtain ⟨xs, rfl, hx⟩ := wt_sl (u := 59) (hw 0 _ a rfl rfl) rfl
  obtain ⟨hs, rfl⟩ := map_ex fun y hy => wt_hd (hx y hy)
  exact ⟨hs.map (·.1), by simp [liE, hsE], fun d hd => by obtain ⟨z, _, rfl⟩ := List.mem_map.1 hd; exact z.2⟩
theorem wt_pf {x : E} (h : Wt tb 36 x) : ∃ p : Pf, x = p.E ∧ p.a < 4294967296 ∧ All32 p.cs ∧ All32 p.rs := by
  obtain ⟨l, rfl, hl, hw⟩ := wt_st h rfl
  obtain ⟨a, b, c, d, e, rfl⟩ := list5 hl
  obtain ⟨n0, rfl, h0⟩ := wt_u32 (hw 0 _ a rfl rfl) rfl
  obtain ⟨s, rfl⟩ := wt_str (hw 1 _ b rfl rfl) rfl
  obtain ⟨n2, rfl, _⟩ := wt_int (k := .i64) (hw 2 _ c rfl rfl) rfl
  obtain ⟨L3, rfl, h3⟩ := wt_digs (hw 3 _ d rfl rfl)
  obtain ⟨L4, rfl, h4⟩ := wt_digs (hw 4 _ e rfl rfl)
  exact ⟨⟨n0, s, n2, L3, L4⟩, rfl, h0, h3, h4⟩

/-! ### the law -/
theorem bool_cases (b : Bool) : b = true ∨ b = false := by cases b <;> simp
set_option maxHeartbeats 3200000 in
theorem law_proofs (x0 x1 x2 x3 x4 : E) : FnOk Tryd.prog tb 3 [28, 3, 31, 22, 36] [4] [x0, x1, x2, x3, x4] [.bool true] := by
  refine FnOk_of_V (fn := Tryd.f3) (bt := 4) (ok 0 _) Tryd.func3 rfl rfl rfl (by decide) fun hw => ?_
  obtain ⟨⟨x, hxo⟩, rfl⟩ := wt_bk (hw 0 _ x0 rfl rfl)
  obtain ⟨k, rfl, _⟩ := wt_int (hw 1 _ x1 rfl rfl) (k := .i64) rfl
  obtain ⟨hs, rfl, hho⟩ := wt_li (hw 2 _ x2 rfl rfl)
  obtain ⟨g, rfl, hg⟩ := wt_u64 (hw 3 _ x3 rfl rfl) rfl
  obtain ⟨p, rfl, hp1, hp2, hp3⟩ := wt_pf (hw 4 _ x4 rfl rfl)
  clear hw
  have hrm : (hs.map Hd.E).length = hs.length := by simp
  have l1 : (p.cs.map dgE).length = p.cs.length := by simp
  have l2 : (p.rs.map dgE).length = p.rs.length := by simp
  have c1 := awake_ok.g
  have c2 := (few_ok x).g
  have hfw := few_small (x := x)
  generalize fewB x = fb at c2 hfw
  apply V_of_VX
  refine VX_go4 (fs := []) (ok 0 _) eqs trivial 100 [] rfl trivial ?_
  refine VX_callD (ok 0 _) [] [] rfl rfl rfl rfl rfl rfl c1 rfl rfl rfl ?_
  refine VX_go4 (fs := []) (ok 0 _) eqs trivial 100 [] rfl trivial ?_
  refine VX_known 16 false rfl rfl rfl ?_
  refine VX_go4 (fs := []) (ok 0 _) eqs trivial 100 [] rfl trivial ?_
  refine VX_callD (ok 0 _) [28] [] rfl rfl rfl rfl rfl rfl c2 rfl rfl rfl ?_
  refine VX_go4 (fs := []) (ok 0 _) eqs trivial 100 [] rfl trivial ?_
  cases fb with
  | false =>
    refine VX_known 20 true rfl rfl rfl ?_
    refine VX_go4 (fs := []) (ok 0 _) eqs trivial 100 [] rfl trivial ?_
    exact ⟨.inr rfl, rfl⟩
  | true =>
  obtain ⟨hsm, hc12, hr12⟩ := hfw rfl
  refine VX_known 20 false rfl rfl rfl ?_
  refine VX_go4 (fs := []) (ok 0 _) eqs trivial 100 [] rfl trivial ?_
  refine VX_split 26 rfl rfl (fun _ => ?_) (fun h1 => ?_)
  · refine VX_go4 (fs := []) (ok 0 _) eqs trivial 100 [] rfl trivial ?_
    exact ⟨.inr rfl, rfl⟩
  have h1 : hs.length ≤ 30 := by simp only [hrm, decide_eq_false_iff_not] at h1; omega
  refine VX_go4 (fs := []) (ok 0 _) eqs trivial 100 [] rfl trivial ?_
  refine VX_split 32 rfl rfl (fun _ => ?_) (fun h2 => ?_)
  · refine VX_go4 (fs := []) (ok 0 _) eqs trivial 100 [] rfl trivial ?_
    exact ⟨.inr rfl, rfl⟩
  have h2 : p.c.length ≤ 21000 := by simp only [decide_eq_false_iff_not] at h2; omega
  refine VX_go4 (fs := []) (ok 0 _) eqs trivial 100 [] rfl trivial ?_
  refine VX_split 38 rfl rfl (fun _ => ?_) (fun h3 => ?_)
  · refine VX_go4 (fs := []) (ok 0 _) eqs trivial 100 [] rfl trivial ?_
    exact ⟨.inr rfl, rfl⟩
  have h3 : p.cs.length ≤ 100 := by simp only [l1, decide_eq_false_iff_not] at h3; omega
  refine VX_go4 (fs := []) (ok 0 _) eqs trivial 100 [] rfl trivial ?_
  refine VX_split 43 rfl rfl (fun _ => ?_) (fun h4 => ?_)
  · refine VX_go4 (fs := []) (ok 0 _) eqs trivial 100 [] rfl trivial ?_
    exact ⟨.inr rfl, rfl⟩
  have h4 : p.rs.length ≤ 100 := by simp only [l2, decide_eq_false_iff_not] at h4; omega
  have hpo : p.ok := ⟨hp1, by omega, hp2, hp3, by omega, by omega⟩
  obtain ⟨R, e, c3, c4, hR1, hR2⟩ : ∃ (R : Pf) (e : Int), FnOk Tryd.prog tb 9 [78, 28, 3] [36, 33] [.nilp, x.E, .int k] [R.E, .int e] ∧ FnOk Tryd.prog tb 10 [61, 47, 3] [42, 3] [.nilp, x.E, .int k] [R.E, .int e] ∧
      R.cs.length ≤ 100000 ∧ R.rs.length ≤ 100000 := by
    by_cases hb : k < 0 ∨ (x.cs.length : Int) ≤ k ∨ (x.rs.length : Int) ≤ k
    · exact ⟨_, _, prove_bad k hb, rprove_bad k hb, by simp [z0p], by simp [z0p]⟩
    · obtain ⟨j, rfl⟩ : ∃ j : Nat, k = j := ⟨k.toNat, by omega⟩
      exact ⟨_, _, prove_ok hsm j (by omega) (by omega), rprove_ok hsm j (by omega) (by omega), by show (brL (cL x.cs) j 32).length ≤ _; rw [Me.brL_length]; omega, by show (brL (rL x.rs) j 32).length ≤ _; rw [Me.brL_length]; omega⟩
  have c3 := c3.g
  have c4 := c4.g
  have ct := (to_ok x (by omega)).g
  have c5 := (proof_ok R).g
  have c6 := (same_ok R hR1 hR2).g
  have c7 := (shows_ok (hs := hs) (by omega) g hpo).g
  have c8 := (heads_ok hs (by omega)).g
  have c9 := (proof_ok p).g
  have c10 := (rshows_ok (hs := hs) (by omega) g hpo).g
  generalize showB hs g p = sh at c7 c10
  refine VX_go4 (fs := []) (ok 0 _) eqs trivial 100 [] rfl trivial ?_
  refine VX_callD (ok 0 _) [78, 28, 3] [] rfl rfl rfl rfl rfl rfl c3 rfl rfl rfl ?_
  refine VX_go4 (fs := []) (ok 0 _) eqs trivial 100 [] rfl trivial ?_
  refine VX_callD (ok 0 _) [28] [] rfl rfl rfl rfl rfl rfl ct rfl rfl rfl ?_
  refine VX_go4 (fs := []) (ok 0 _) eqs trivial 100 [] rfl trivial ?_
  refine VX_callD (ok 0 _) [61, 47, 3] [] rfl rfl rfl rfl rfl rfl c4 rfl rfl rfl ?_
  refine VX_go4 (fs := []) (ok 0 _) eqs trivial 100 [] rfl trivial ?_
  refine VX_draw [] [(0, true), (2, true), (1, false), (3, false), (4, true), (5, true), (6, true), (7, true), (8, true), (9, true), (10, true), (11, true), (12, true), (14, true), (16, true), (17, true), (13, false), (15, false), (18, false), (19, false), (20, true), (21, true), (22, true)] mixed (by kernel_rfl) (by kernel_rfl) (by kernel_rfl) ?_
  refine VX_go4 (fs := []) (ok 0 _) eqs trivial 100 [] rfl trivial ?_
  refine VX_callO (ok 0 _) [36] [] rfl rfl rfl rfl rfl rfl rfl rfl c5 rfl rfl rfl ?_
  refine VX_callO (ok 0 _) [42, 42] [] rfl rfl rfl rfl rfl rfl rfl rfl c6 rfl rfl rfl ?_
  refine VX_go4 (fs := []) (ok 0 _) eqs trivial 100 [] rfl trivial ?_
  refine VX_known 61 true rfl rfl rfl ?_
  refine VX_go4 (fs := []) (ok 0 _) eqs trivial 100 [] rfl trivial ?_
  refine VX_known 66 true rfl rfl (by simp) ?_
  refine VX_go4 (fs := []) (ok 0 _) eqs trivial 100 [] rfl trivial ?_
  refine VX_callO (ok 0 _) [78, 31, 22, 36] [] rfl rfl rfl rfl rfl rfl rfl rfl c7 rfl rfl rfl ?_
  refine VX_callO (ok 0 _) [31] [] rfl rfl rfl rfl rfl rfl rfl rfl c8 rfl rfl rfl ?_
  refine VX_callO (ok 0 _) [36] [] rfl rfl rfl rfl rfl rfl rfl rfl c9 rfl rfl rfl ?_
  refine VX_callO (ok 0 _) [61, 53, 22, 42] [] rfl rfl rfl rfl rfl rfl rfl rfl c10 rfl rfl rfl ?_
  refine VX_go4 (fs := []) (ok 0 _) eqs trivial 100 [78] rfl trivial ?_
  refine VX_known 77 true rfl rfl (by simp) ?_
  refine VX_go4 (fs := []) (ok 0 _) eqs trivial 100 [] rfl trivial ?_
  exact ⟨.inr rfl, rfl⟩
end Go.Den.Q33
/- Law 33: LightShows. -/
namespace Go.Den.Q33
open Go Go.Den Go.Proofs Go.Den.Q33.Dg
set_option maxRecDepth 8000
set_option linter.unusedVariables false
set_option linter.unusedSimpArgs false
open Go.Den.Q33.Sh (dgE)
open Go.Den.Q33.Me (Dig dsE All32 z0 rootB eqDg brL provesB)

theorem fol_nil (h : Hd) : folB [] h = 0 := by simp [folB]
theorem ext_nil {h0 : Hd} (o0 : h0.ok) : FnOk Tryd.prog tb 17 [78, 31, 59] [31, 33] [.nilp, liE [], h0.E] [liE [h0], .int 0] := by
  have c2 := extend_ok (hs := []) (fun _ h => by cases h) (by simp) o0
  have f2' : extB [] h0 = [h0] := by rw [extB, if_pos (fol_nil h0)]; rfl
  rw [fol_nil, f2'] at c2
  exact c2
theorem fol_one {h0 h1 : Hd} (hh : h1.h = h0.h + 1) (hp : h1.p = hashB h0) : folB [h0] h1 = 0 := by
  have hl : lastH [h0] = h0 := rfl
  have h1l : ([h0] : List Hd).length = 1 := rfl
  unfold folB
  rw [hl, h1l, if_neg (by omega), if_neg (by omega), if_pos ⟨hh, hp⟩]
theorem ext_one {h0 h1 : Hd} (o0 : h0.ok) (o1 : h1.ok) (hh : h1.h = h0.h + 1) (hp : h1.p = hashB h0) : FnOk Tryd.prog tb 17 [78, 31, 59] [31, 33] [.nilp, liE [h0], h1.E] [liE [h0, h1], .int 0] := by
  have c2 := extend_ok (hs := [h0]) (fun z hz => by simp only [List.mem_cons, List.not_mem_nil, or_false] at hz; subst hz; exact o0) (by simp) o1
  have f2' : extB [h0] h1 = [h0, h1] := by rw [extB, if_pos (fol_one hh hp)]; rfl
  rw [fol_one hh hp, f2'] at c2
  exact c2
theorem right_two {h0 h1 : Hd} (o0 : h0.ok) (o1 : h1.ok) (hh : h1.h = h0.h + 1) (hp : h1.p = hashB h0) : FnOk Tryd.prog tb 25 [78, 31] [4] [.nilp, liE [h0, h1]] [.bool true] := by
  refine right_ok (hs := [h0, h1]) (fun z hz => ?_) (by simp) (fun i hi => ?_)
  · simp only [List.mem_cons, List.not_mem_nil, or_false] at hz
    rcases hz with rfl | rfl
    · exact o0
    · exact o1
  · have : i = 0 ∨ i = 1 := by simp at hi; omega
    rcases this with rfl | rfl
    · show folB [] h0 = 0
      exact fol_nil h0
    · show folB [h0] h1 = 0
      exact fol_one hh hp
theorem shows_two {h0 h1 : Hd} {P : Pf} (hpo : P.ok) (g : Nat) (h0n : h0.h ≠ g) (h1g : h1.h = g) (hs0 : shwB h1 P = 0) : FnOk Tryd.prog tb 14 [78, 31, 22, 36] [33] [.nilp, liE [h0, h1], .int g, P.E] [.int 0] := by
  have c8 := shows_ok (hs := [h0, h1]) (by simp) g hpo
  have e8 : showB [h0, h1] g P = 0 := by
    have hf : findH g [h0, h1] = some h1 := by simp only [findH]; rw [if_neg h0n, if_pos h1g]
    rw [showB, hf]; simp only [showO]; exact hs0
  rw [e8] at c8
  exact c8

def upx (x y : Bk) : Bk := ⟨y.h + 1, x.p, x.b, x.cs, x.rs, x.s⟩
theorem ofHB_h (x : Bk) (p : Dig) : (ofHB x p).h = x.h := rfl
theorem ofHB_p (x : Bk) (p : Dig) : (ofHB x p).p = p := rfl
theorem upx_h (x y : Bk) : (upx x y).h = y.h + 1 := rfl
theorem prvB_c (x : Bk) (k : Nat) : (prvB x k).c = x.cs.getD k [] := rfl
theorem prvB_e (x : Bk) (k : Nat) : (prvB x k).e = x.rs.getD k 0 := rfl
structure Pack (x y : Bk) (j : Nat) (h0 h1 : Hd) (P : Pf) (d : Dig) : Prop where
  c1 : FnOk Tryd.prog tb 18 [78, 28, 24] [59] [.nilp, y.E, dgE z0] [h0.E]
  c2 : FnOk Tryd.prog tb 17 [78, 31, 59] [31, 33] [.nilp, liE [], h0.E] [liE [h0], .int 0]
  c3 : FnOk Tryd.prog tb 23 [78, 59] [24] [.nilp, h0.E] [dgE d]
  c4 : FnOk Tryd.prog tb 18 [78, 28, 24] [59] [.nilp, (upx x y).E, dgE d] [h1.E]
  c5 : FnOk Tryd.prog tb 17 [78, 31, 59] [31, 33] [.nilp, liE [h0], h1.E] [liE [h0, h1], .int 0]
  c6 : FnOk Tryd.prog tb 9 [78, 28, 3] [36, 33] [.nilp, (upx x y).E, .int j] [P.E, .int 0]
  c7 : FnOk Tryd.prog tb 25 [78, 31] [4] [.nilp, liE [h0, h1]] [.bool true]
  c8 : FnOk Tryd.prog tb 14 [78, 31, 22, 36] [33] [.nilp, liE [h0, h1], .int (y.h + 1 : Nat), P.E] [.int 0]
  pc : P.c = x.cs.getD j []
  pe : P.e = x.rs.getD j 0
theorem pack {x y : Bk} (hx : x.ok) (hy : y.ok) (sx : Small x) (sy : Small y) (hlen : x.cs.length = x.rs.length) (hn : y.h + 1 < 18446744073709551616) (j : Nat) (hj : j < x.cs.length) :
    ∃ h0 h1 P d, Pack x y j h0 h1 P d := by
  have sx' : Small (upx x y) := sx
  have hx' : (upx x y).ok := ⟨hn, hx.p, hx.b, hx.s⟩
  have hz : z0.length = 32 := by simp [z0]
  have o0 := ofHB_ok hy sy hz
  have hdl : (hashB (ofHB y z0)).length = 32 := ofB_length _ _
  have o1 := ofHB_ok hx' sx' hdl
  have hh : (ofHB (upx x y) (hashB (ofHB y z0))).h = (ofHB y z0).h + 1 := by rw [ofHB_h, ofHB_h, upx_h]
  have hp := ofHB_p (upx x y) (hashB (ofHB y z0))
  have hj2 : j < (upx x y).rs.length := by show j < x.rs.length; omega
  have hs0 := prv_shows sx' (k := j) hj hj2 (hashB (ofHB y z0))
  have c6 := prove_ok sx' j hj hj2
  have hpo := prv_ok sx' (k := j) hj
  exact ⟨_, _, _, _, of_ok sy z0, ext_nil o0, hash_ok o0, of_ok sx' _, ext_one o0 o1 hh hp, c6, right_two o0 o1 hh hp, shows_two hpo (y.h + 1) (by rw [ofHB_h]; omega) (by rw [ofHB_h, upx_h]) hs0, prvB_c _ _, prvB_e _ _⟩
end Go.Den.Q33
