/- The calculus and the walks, part 7: Q01I, Q01J, Q01K, Q01N, Q01O, Q01L. -/
import Derived.Test.YthdobmogmepamaaDoorP6
import Derived.Test.YthdobmogmepamaaDoorRows
import Derived.WalkKit
import Derived.ProofKit
import Derived.OpenShut
import Derived.ShutString
import Derived.ChangeOld
import Derived.LaidMore
import Derived.Stop.Joined
import Derived.Below
/- Law 01: sums; strings.Builder; digests as texts. -/
namespace Go.Den.Q01
open Go Go.Den Go.Proofs
set_option maxRecDepth 8000
set_option linter.unusedVariables false
set_option linter.unusedSimpArgs false

theorem noEsc (x : Value) (w : World) : (callFunc 38 #[x]).run Tryd.prog w = .ok (.value x) w := rfl

/-- A builder and its row. -/
def bld (a : T) (n : Nat) (bs : List E) : List Blk := [.tree 60 (.st [a, .msl 1 n]), .mrow 5 true bs]
theorem check_ok (a : T) (ha : a = .e .nilp ∨ a = .ptr 0 []) (n : Nat) (bs : List E) : FnG Tryd.prog tb 31 (bld a n bs) [.ptr 0 []] (fun d s => d = .tup [] ∧ s = bld (.ptr 0 []) n bs) := by
  refine FnG_of_V (fn := Tryd.f31) (bt := 4) false [] [] (ok 2 _) Tryd.func31 rfl rfl rfl fun _ _ _ _ _ _ => ?_
  apply V_of_VX
  rcases ha with rfl | rfl
  · refine VX_go4 (fs := []) (ok 2 _) eqs trivial 100 [] rfl trivial ?_
    refine VX_op rfl rfl (OpV_toUnsafe (v := 60) (o' := 0) (u := 60) (ok 2 _) rfl rfl (by decide) (by kernel_rfl) rfl rfl rfl (by decide)) ?_
    rintro d s ⟨rfl, rfl⟩
    refine VX_op rfl rfl (OpV_noEscape (ok 2 _) rfl noEsc rfl) ?_
    rintro d s ⟨rfl, rfl⟩
    refine VX_op rfl rfl (OpV_ofUnsafe (v := 60) (o' := 0) (u := 60) (ok 2 _) rfl (by kernel_rfl) rfl (by decide) rfl rfl rfl (by decide) (by kernel_rfl)) ?_
    rintro d s ⟨rfl, rfl⟩
    refine VX_go4 (fs := []) (ok 2 _) eqs trivial 100 [] rfl trivial ?_
    exact ⟨.inl rfl, _, _, _, rfl, rfl, rfl, rfl, rfl⟩
  · refine VX_go4 (fs := []) (ok 2 _) eqs trivial 100 [] rfl (by simp [allP, td, tb]) ?_
    exact ⟨.inl rfl, _, _, _, rfl, rfl, rfl, rfl, rfl⟩

theorem string_ok (a : T) (ha : a = .e .nilp ∨ a = .ptr 0 []) (bs : List E) :
    FnG Tryd.prog tb 28 (bld a bs.length bs) [.ptr 0 []] (fun d t => d = .t 9 (.e (.str (bs.map byteOf))) ∧ t = [.tree 60 (.st [a, .msl 1 bs.length]), .mrow 5 false bs]) := by
  refine FnG_of_V (fn := Tryd.f28) (bt := 4) false [] [9] (ok 2 _) Tryd.func28 rfl rfl rfl fun _ _ _ _ _ _ => ?_
  apply V_of_VX
  refine VX_go4 (fs := []) (ok 2 _) eqs trivial 100 [] rfl trivial ?_
  refine VX_draw [1] [(0, true), (1, true), (2, true), (3, true), (4, true), (5, true), (6, true), (7, true), (8, true), (9, true), (10, false), (11, true)] mixed (by kernel_rfl) (by kernel_rfl) (by kernel_rfl) ?_
  refine VX_go4 (fs := []) (ok 2 _) eqs trivial 100 [] rfl rfl ?_
  refine VX_opO rfl rfl rfl (OpF_unsafeString (ok 2 _) rfl rfl rfl rfl rfl rfl rfl rfl rfl rfl rfl rfl (by simp)) ?_
  rintro d s ⟨rfl, rfl⟩
  refine VX_go4 (fs := []) (ok 2 _) eqs trivial 100 [] rfl trivial ?_
  rcases ha with rfl | rfl
  · exact ⟨.inr rfl, _, _, _, rfl, rfl, rfl, rfl, rfl⟩
  · exact ⟨.inr rfl, _, _, _, rfl, rfl, rfl, rfl, rfl⟩

theorem writeB_ok (a : T) (ha : a = .e .nilp ∨ a = .ptr 0 []) (bs : List E) (x : UInt8) (h1 : bs.length ≤ 1000000) :
    FnG Tryd.prog tb 27 (bld a bs.length bs) [.ptr 0 [], .t 5 (.e (byteE x))] (fun d t => d = .t 62 (.e .nili) ∧ t = bld (.ptr 0 []) (bs ++ [byteE x]).length (bs ++ [byteE x])) := by
  refine FnG_of_V (fn := Tryd.f27) (bt := 4) false [] [62] (ok 2 _) Tryd.func27 rfl rfl rfl fun _ _ _ _ _ _ => ?_
  rcases ha with rfl | rfl
  all_goals
    apply V_of_VX
    refine VX_go4 (fs := []) (ok 2 _) eqs trivial 100 [] rfl trivial ?_
    refine VX_callD (ok 2 _) [58] [0, 1] rfl rfl rfl rfl rfl rfl (check_ok _ (by simp) bs.length bs) rfl rfl rfl ?_
    refine VX_go4 (fs := []) (ok 2 _) eqs trivial 100 [] rfl ?_ ?_
    · refine ⟨rfl, ?_, ?_⟩ <;> simp [nb, tb, maxL] <;> omega
    refine ⟨.inr rfl, _, _, _, rfl, rfl, rfl, rfl, ?_⟩
    rw [List.length_append]; rfl

/-- A state to which a text is added. -/
def stAdd (st : S8 × List UInt8 × Nat) (p : List UInt8) : S8 × List UInt8 × Nat :=
  ((aft st.1 (st.2.1 ++ p)).1, (aft st.1 (st.2.1 ++ p)).2, (st.2.2 + p.length) % 18446744073709551616)
def stE' (st : S8 × List UInt8 × Nat) : E := stE st.1 st.2.1 st.2.2
theorem aftN_rest : ∀ (n : Nat) (S : S8) (s : List UInt8), (aftN n S s).2.length = s.length - 64 * n
  | 0, S, s => by simp [aftN]
  | n + 1, S, s => by simp [aftN, aftN_rest n]; omega
theorem aft_rest (S : S8) (s : List UInt8) : (aft S s).2.length < 64 := by unfold aft; rw [aftN_rest]; omega
def sumSt (ps : List (List UInt8)) : S8 × List UInt8 × Nat := ps.foldl stAdd (fS, [], 0)
theorem stAdd_small (st : S8 × List UInt8 × Nat) (p : List UInt8) : (stAdd st p).2.1.length < 64 ∧ (stAdd st p).2.2 < 18446744073709551616 := ⟨aft_rest _ _, Nat.mod_lt _ (by decide)⟩
theorem sum_ok (ps : List (List UInt8)) (hl : ps.length ≤ 100000) (hp : ∀ p ∈ ps, p.length ≤ 500000) :
    FnOk Tryd.prog tb 11 [46] [30] [.sl (ps.map E.str)] [dgE (endB (sumSt ps).1 (sumSt ps).2.1 (sumSt ps).2.2)] := by
  refine FnOk_of_V (fn := Tryd.f11) (bt := 4) (ok 0 _) Tryd.func11 rfl rfl rfl (by decide) fun hw => ?_
  clear hw
  apply V_of_VX
  refine VX_go4 (fs := []) (ok 0 _) eqs trivial 100 [] rfl trivial ?_
  refine VX_callD (ok 0 _) [] [] rfl rfl rfl rfl rfl rfl begin_ok.g rfl rfl rfl ?_
  refine VX_go4 (fs := []) (ok 0 _) eqs trivial 100 [] rfl trivial ?_
  refine VX_loopA (fun a : Nat × (S8 × List UInt8 × Nat) => a.1 ≤ ps.length ∧ a.2 = sumSt (ps.take a.1) ∧ a.2.2.1.length < 64 ∧ a.2.2.2 < 18446744073709551616)
    (fun a => [(9, .t 3 (.e (.int a.1))), (8, .t 3 (.e (.int ps.length))), (7, .t 46 (.e (.sl (ps.map E.str)))), (3, .ptr 1 []), (2, .ptr 0 [])])
    (fun a => [.tree 30 (.e (dgE (List.replicate 32 0))), .tree 37 (.e (stE' a.2))]) (fun a => ps.length - a.1) (0, (fS, [], 0)) ⟨by simp, by simp [sumSt], by simp, by simp⟩ ?_ ?_
  · exact wk1 rfl rfl (by simp [Blk.under, T.under]) (lc (ls rfl rfl) (lc (li (by simp)) (lc (ls rfl rfl) (lc (ls rfl rfl) (lc (ls rfl rfl) lnil)))))
  · rintro ⟨i, st⟩ ⟨hi, hst, hr, hn⟩
    simp only at hi hst hr hn
    refine VX_go4 (fs := []) (ok 0 _) eqs trivial 100 [] rfl trivial ?_
    refine VX_split 10 rfl rfl (fun h => ?_) (fun h => ?_)
    · have hi : i < ps.length := by simpa using h
      have ei : IntKind.wrap .i64 ((i : Int) + 1) = ((i + 1 : Nat) : Int) := by rw [w64 (by omega) (by omega)]; simp
      refine VX_go4 (fs := []) (ok 0 _) eqs trivial 100 [5] rfl (by simp [allP]; omega) ?_
      have hg : (ps.map E.str).getD i .nilp = .str ps[i] := by simp [List.getD, hi]
      refine VX_eq 12 rfl rfl (d' := .t 9 (.e (.str ps[i]))) (congrArg (fun x => D.t 9 (.e x)) hg) ?_
      have hpl := hp ps[i] (List.getElem_mem hi)
      have hst' : stAdd st ps[i] = sumSt (ps.take (i + 1)) := by
        unfold sumSt at hst ⊢
        rw [List.take_add_one, List.getElem?_eq_getElem hi, Option.toList_some, List.foldl_append, ← hst]; rfl
      generalize ps[i] = p at hpl hst' ⊢
      obtain ⟨S, r, n⟩ := st
      simp only at hr hn
      refine VX_go4 (fs := []) (ok 0 _) eqs trivial 100 [] rfl trivial ?_
      refine VX_callD (ok 0 _) [37, 9] [] rfl rfl rfl rfl rfl rfl (add_ok S r p n (by omega) (by omega) hn).g rfl rfl rfl ?_
      refine VX_go4 (fs := []) (ok 0 _) eqs trivial 100 [] rfl trivial ?_
      have hsm := stAdd_small (S, r, n) p
      refine loop_nrm ⟨(i + 1, stAdd (S, r, n) p), by simp only; omega, ⟨by simp only; omega, hst', hsm.1, hsm.2⟩, ?_⟩
      exact wk1 rfl rfl (by simp [Blk.under, T.under]) (lc (li (by rw [ei])) (lc (ls rfl rfl) (lc (ls rfl rfl) (lc (ls rfl rfl) (lc (ls rfl rfl) lnil)))))
    · have hi' : i = ps.length := by simp at h; omega
      subst hi'
      rw [List.take_length] at hst
      subst hst
      generalize sumSt ps = st at hr hn ⊢
      obtain ⟨S, r, n⟩ := st
      refine VX_go4 (fs := []) (ok 0 _) eqs trivial 100 [] rfl trivial ?_
      apply loop_brk
      refine VX_go4 (fs := []) (ok 0 _) eqs trivial 100 [] rfl trivial ?_
      refine VX_callD (ok 0 _) [37] [] rfl rfl rfl rfl rfl rfl (end_ok S r n (by simp only at hr; omega) hn).g rfl rfl rfl ?_
      refine VX_go4 (fs := []) (ok 0 _) eqs trivial 100 [] rfl trivial ?_
      exact ⟨.inr rfl, rfl⟩
/-- The digest of a text. -/
def shaB (s : List UInt8) : List UInt8 := endB (aft fS s).1 (aft fS s).2 s.length
theorem sum1 (s : List UInt8) (hs : s.length ≤ 100000) : endB (sumSt [s]).1 (sumSt [s]).2.1 (sumSt [s]).2.2 = shaB s := by
  show endB (aft fS ([] ++ s)).1 (aft fS ([] ++ s)).2 ((0 + s.length) % 18446744073709551616) = _
  rw [List.nil_append, Nat.zero_add, Nat.mod_eq_of_lt (by omega)]; rfl
theorem rsum_ok (s : List UInt8) (hs : s.length ≤ 100000) : FnOk Tryd.prog tb 12 [9] [30] [.str s] [dgE (shaB s)] := by
  refine FnOk_of_V (fn := Tryd.f12) (bt := 4) (ok 0 _) Tryd.func12 rfl rfl rfl (by decide) fun hw => ?_
  clear hw
  apply V_of_VX
  refine VX_go4 (fs := []) (ok 0 _) eqs trivial 100 [] rfl trivial ?_
  refine VX_callD (ok 0 _) [] [] rfl rfl rfl rfl rfl rfl first_ok.g rfl rfl rfl ?_
  refine VX_go4 (fs := []) (ok 0 _) eqs trivial 100 [] rfl trivial ?_
  refine VX_op rfl rfl (OpV_bytes (ok 0 _) rfl rfl rfl rfl rfl rfl) ?_
  rintro d s' ⟨rfl, rfl⟩
  refine VX_go4 (fs := []) (ok 0 _) eqs trivial 100 [] rfl trivial ?_
  refine VX_callD (ok 0 _) [23, 27] [] rfl rfl rfl rfl rfl rfl (after_ok fS s (by omega)).g rfl rfl rfl ?_
  have hr := aft_rest fS s
  have e16 : IntKind.wrap .u64 (s.length : Int) = (s.length : Nat) := by rw [wrap_eq]; simp; omega
  refine VX_go4 (fs := []) (ok 0 _) eqs trivial 100 [17] rfl trivial ?_
  refine VX_eq 16 rfl rfl (d' := .t 35 (.e (.int s.length))) (congrArg (fun x => D.t 35 (.e (.int x))) e16) ?_
  refine VX_callD (ok 0 _) [23, 27, 35] [] rfl rfl rfl rfl rfl rfl (rend_ok (aft fS s).1 (aft fS s).2 s.length (by omega) (by omega)).g rfl rfl rfl ?_
  refine VX_go4 (fs := []) (ok 0 _) eqs trivial 100 [] rfl trivial ?_
  exact ⟨.inr rfl, rfl⟩
end Go.Den.Q01
/- Law 01: digests as texts; the chapter's example. -/
namespace Go.Den.Q01
open Go Go.Den Go.Proofs
set_option maxRecDepth 8000
set_option linter.unusedVariables false
set_option linter.unusedSimpArgs false

def hexC : List UInt8 := [48, 49, 50, 51, 52, 53, 54, 55, 56, 57, 97, 98, 99, 100, 101, 102]
def hx (n : Nat) : UInt8 := hexC.getD n 0
def txt (d : List UInt8) : Nat → List UInt8
  | 0 => []
  | i + 1 => txt d i ++ [hx ((d.getD i 0).toNat / 16), hx ((d.getD i 0).toNat % 16)]
theorem txt_length (d : List UInt8) : ∀ i, (txt d i).length = 2 * i
  | 0 => rfl
  | i + 1 => by simp [txt, txt_length d i]; omega
theorem shr4 (x : UInt8) : Int.fdiv (x.toNat : Int) (2 ^ (min (4 : Int).toNat 8)) = ((x.toNat / 16 : Nat) : Int) := by
  show Int.fdiv (x.toNat : Int) 16 = _
  rw [Int.fdiv_eq_ediv_of_nonneg _ (by omega)]; simp
theorem and15 : ∀ n : Fin 256, bitop .and .u8 (n.val : Int) 15 = ((n.val % 16 : Nat) : Int) := by decide +kernel
theorem and15' (x : UInt8) : bitop .and .u8 (x.toNat : Int) 15 = ((x.toNat % 16 : Nat) : Int) := and15 ⟨x.toNat, UInt8.toNat_lt x⟩
theorem dgE_child (d : List UInt8) (i : Nat) (h : i < d.length) : childE i (dgE d) = .int (d.getD i 0).toNat := by simp [dgE, childE, List.getD, h, byteE]
theorem hex_idx (n : Nat) (h : n < 16) : (hexC.getD n 0).toNat = (hx n).toNat := rfl
def ab (i : Nat) : T := if i = 0 then .e .nilp else .ptr 1 []

theorem text_ok (d : List UInt8) (hd : d.length = 32) : FnOk Tryd.prog tb 13 [30] [9] [dgE d] [.str (txt d 32)] := by
  refine FnOk_of_V (fn := Tryd.f13) (bt := 4) (ok 0 _) Tryd.func13 rfl rfl rfl (by decide) fun hw => ?_
  clear hw
  apply V_of_VX
  refine VX_go4 (fs := []) (ok 0 _) eqs trivial 100 [] rfl trivial ?_
  refine VX_promM (ok 0 _) rfl 1 [1] rfl rfl rfl rfl rfl ?_
  refine VX_loopA (fun i : Nat => i ≤ 32) (fun i => [(7, .t 3 (.e (.int i))), (6, .t 30 (.e (dgE d))), (3, .ptr 1 [])])
    (fun i => [.tree 30 (.e (dgE d)), .tree 60 (.st [ab i, .msl 2 ((txt d i).map byteE).length]), .mrow 5 true ((txt d i).map byteE)]) (fun i => 32 - i) 0 (by simp) ?_ ?_
  · exact wk1 rfl rfl (by simp [Blk.under, T.under, T.unders, ab]) (lc (ls rfl rfl) (lc (ls rfl rfl) (lc (ls rfl rfl) lnil)))
  · intro i hi
    have htl := txt_length d i
    have hab : ab i = .e .nilp ∨ ab i = .ptr 1 [] := by unfold ab; split <;> simp
    have hab1 : ab (i + 1) = .ptr 1 [] := by simp [ab]
    generalize hbs : (txt d i).map byteE = bs
    have hbl : bs.length ≤ 100 := by rw [← hbs]; simp; omega
    refine VX_go4 (fs := []) (ok 0 _) eqs trivial 100 [] rfl trivial ?_
    refine VX_split 8 rfl rfl (fun h => ?_) (fun h => ?_)
    · have hi : i < 32 := by simp at h; omega
      have ei : IntKind.wrap .i64 ((i : Int) + 1) = ((i + 1 : Nat) : Int) := by rw [w64 (by omega) (by omega)]; simp
      refine VX_go4 (fs := []) (ok 0 _) eqs trivial 100 [5] rfl (by simp [allP]; omega) ?_
      refine VX_eq 9 rfl rfl (d' := .t 5 (.e (.int (d.getD i 0).toNat))) (congrArg (fun x => D.t 5 (.e x)) (dgE_child d i (by omega))) ?_
      have hbs' : (txt d (i + 1)).map byteE = (bs ++ [byteE (hx ((d.getD i 0).toNat / 16))]) ++ [byteE (hx ((d.getD i 0).toNat % 16))] := by rw [← hbs]; simp [txt]
      have hx256 : (d.getD i 0).toNat < 256 := UInt8.toNat_lt _
      have e11 := shr4 (d.getD i 0)
      have e15 := and15' (d.getD i 0)
      generalize (d.getD i 0).toNat = x at hbs' hx256 e11 e15 ⊢
      refine VX_go4 (fs := []) (ok 0 _) eqs trivial 100 [12] rfl (by simp [allP, arithP]) ?_
      refine VX_eq 11 rfl rfl (d' := .t 5 (.e (.int (x / 16 : Nat)))) (congrArg (fun x => D.t 5 (.e (.int x))) e11) ?_
      refine VX_go4 (fs := []) (ok 0 _) eqs trivial 100 [13] rfl (by simp [allP]; omega) ?_
      refine VX_eq 12 rfl rfl (d' := .t 5 (.e (byteE (hx (x / 16))))) rfl ?_
      rcases hab with e | e
      all_goals
        rw [e]
        refine VX_callD (ok 0 _) [58, 5] [1, 2] rfl rfl rfl rfl rfl rfl (writeB_ok _ (by simp) bs (hx (x / 16)) (by omega)) rfl rfl rfl ?_
        refine VX_go4 (fs := []) (ok 0 _) eqs trivial 100 [16] rfl (by simp [allP, arithP]) ?_
        refine VX_eq 15 rfl rfl (d' := .t 5 (.e (.int (x % 16 : Nat)))) (congrArg (fun x => D.t 5 (.e (.int x))) e15) ?_
        refine VX_go4 (fs := []) (ok 0 _) eqs trivial 100 [17] rfl (by simp [allP]; omega) ?_
        refine VX_eq 16 rfl rfl (d' := .t 5 (.e (byteE (hx (x % 16))))) rfl ?_
        refine VX_callD (ok 0 _) [58, 5] [1, 2] rfl rfl rfl rfl rfl rfl (writeB_ok _ (by simp) (bs ++ [byteE (hx (x / 16))]) (hx (x % 16)) (by simp; omega)) rfl rfl rfl ?_
        refine VX_go4 (fs := []) (ok 0 _) eqs trivial 100 [] rfl trivial ?_
        refine loop_nrm ⟨i + 1, by omega, by omega, ?_⟩
        exact wk1 (by rw [hab1, hbs']) rfl (by simp [hab1, Blk.under, T.under, T.unders]) (lc (li (by rw [ei])) (lc (ls rfl rfl) (lc (ls rfl rfl) lnil)))
    · have hi' : i = 32 := by simp at h; omega
      subst hi'
      refine VX_go4 (fs := []) (ok 0 _) eqs trivial 100 [] rfl trivial ?_
      apply loop_brk
      refine VX_go4 (fs := []) (ok 0 _) eqs trivial 100 [] rfl trivial ?_
      rw [show ab 32 = .ptr 1 [] from rfl]
      refine VX_callD (ok 0 _) [58] [1, 2] rfl rfl rfl rfl rfl rfl (string_ok _ (by simp) bs) rfl rfl rfl ?_
      refine VX_go4 (fs := []) (ok 0 _) eqs trivial 100 [] rfl trivial ?_
      refine ⟨.inr rfl, ?_⟩
      have : bs.map byteOf = txt d 32 := by rw [← hbs, map_byteOf]
      rw [← this]; rfl

theorem hexS (n : Nat) (h : n < 16) : (hexC.take (n + 1)).drop n = [hx n] := by
  have : n = 0 ∨ n = 1 ∨ n = 2 ∨ n = 3 ∨ n = 4 ∨ n = 5 ∨ n = 6 ∨ n = 7 ∨ n = 8 ∨ n = 9 ∨ n = 10 ∨ n = 11 ∨ n = 12 ∨ n = 13 ∨ n = 14 ∨ n = 15 := by omega
  rcases this with rfl | rfl | rfl | rfl | rfl | rfl | rfl | rfl | rfl | rfl | rfl | rfl | rfl | rfl | rfl | rfl <;> rfl
theorem u8n (n : Nat) (h : n < 256) : IntKind.wrap .u8 (n : Int) = n := by rw [wrap_eq]; simp; omega
theorem rtext_ok (d : List UInt8) (hd : d.length = 32) : FnOk Tryd.prog tb 14 [30] [9] [dgE d] [.str (txt d 32)] := by
  refine FnOk_of_V (fn := Tryd.f14) (bt := 4) (ok 0 _) Tryd.func14 rfl rfl rfl (by decide) fun hw => ?_
  clear hw
  apply V_of_VX
  refine VX_go4 (fs := []) (ok 0 _) eqs trivial 100 [] rfl trivial ?_
  refine VX_loopA (fun i : Nat => i ≤ 32) (fun i => [(4, .t 3 (.e (.int i))), (3, .t 9 (.e (.str (txt d i)))), (1, .ptr 0 [])])
    (fun i => [.tree 30 (.e (dgE d))]) (fun i => 32 - i) 0 (by simp) ?_ ?_
  · exact wk1 rfl rfl (by simp [Blk.under, T.under]) (lc (ls rfl rfl) (lc (ls rfl rfl) (lc (ls rfl rfl) lnil)))
  · intro i hi
    have htl := txt_length d i
    refine VX_go4 (fs := []) (ok 0 _) eqs trivial 100 [] rfl trivial ?_
    refine VX_split 6 rfl rfl (fun h => ?_) (fun h => ?_)
    · have hi : i < 32 := by simp at h; omega
      have ei : IntKind.wrap .i64 ((i : Int) + 1) = ((i + 1 : Nat) : Int) := by rw [w64 (by omega) (by omega)]; simp
      have hn : txt d (i + 1) = (txt d i ++ [hx ((d.getD i 0).toNat / 16)]) ++ [hx ((d.getD i 0).toNat % 16)] := by simp [txt]
      generalize txt d i = s at htl hn
      have hx256 : (d.getD i 0).toNat < 256 := UInt8.toNat_lt _
      have hch := dgE_child d i (by omega)
      generalize (d.getD i 0).toNat = x at hn hx256 hch ⊢
      have eq16 : IntKind.wrap .u8 (Int.tdiv (x : Int) 16) = ((x / 16 : Nat) : Int) := by rw [Int.tdiv_eq_ediv_of_nonneg (by omega)]; rw [show (x : Int) / 16 = ((x / 16 : Nat) : Int) by simp, u8n _ (by omega)]
      have er16 : Int.tmod (x : Int) 16 = ((x % 16 : Nat) : Int) := by rw [Int.tmod_eq_emod_of_nonneg (by omega)]; simp
      have e1 : ∀ n : Nat, n < 16 → IntKind.wrap .u8 ((n : Int) + 1) = ((n + 1 : Nat) : Int) := fun n h => by rw [show (n : Int) + 1 = ((n + 1 : Nat) : Int) by simp, u8n _ (by omega)]
      refine VX_go4 (fs := []) (ok 0 _) eqs trivial 100 [] rfl trivial ?_
      refine VX_draw [] [(0, true), (1, true), (2, true), (3, true), (4, true), (5, true), (6, true), (7, true), (8, true), (9, true), (10, true), (11, true), (12, true), (13, true), (14, true), (15, true), (16, true), (17, true), (18, true), (19, true), (20, true), (21, true), (22, true), (23, true)] mixed (by kernel_rfl) (by kernel_rfl) (by kernel_rfl) ?_
      refine VX_go4 (fs := []) (ok 0 _) eqs trivial 100 [13] rfl (by simp [allP]; omega) ?_
      refine VX_eq 12 rfl rfl (d' := .t 5 (.e (.int x))) (congrArg (fun x => D.t 5 (.e x)) hch) ?_
      refine VX_go4 (fs := []) (ok 0 _) eqs trivial 100 [14] rfl (by simp [allP, arithP]) ?_
      refine VX_eq 13 rfl rfl (d' := .t 5 (.e (.int (x / 16 : Nat)))) (congrArg (fun x => D.t 5 (.e (.int x))) eq16) ?_
      refine VX_go4 (fs := []) (ok 0 _) eqs trivial 100 [17] rfl (by simp [allP]; omega) ?_
      refine VX_eq 16 rfl rfl (d' := .t 5 (.e (.int x))) (congrArg (fun x => D.t 5 (.e x)) hch) ?_
      refine VX_go4 (fs := []) (ok 0 _) eqs trivial 100 [18] rfl (by simp [allP, arithP]) ?_
      refine VX_eq 17 rfl rfl (d' := .t 5 (.e (.int (x / 16 : Nat)))) (congrArg (fun x => D.t 5 (.e (.int x))) eq16) ?_
      refine VX_go4 (fs := []) (ok 0 _) eqs trivial 100 [19] rfl trivial ?_
      refine VX_eq 18 rfl rfl (d' := .t 5 (.e (.int (x / 16 + 1 : Nat)))) (congrArg (fun x => D.t 5 (.e (.int x))) (e1 _ (by omega))) ?_
      refine VX_go4 (fs := []) (ok 0 _) eqs trivial 100 [20] rfl (by simp [allP]; omega) ?_
      refine VX_eq 19 rfl rfl (d' := .t 9 (.e (.str [hx (x / 16)]))) (congrArg (fun x => D.t 9 (.e (.str x))) (hexS (x / 16) (by omega))) ?_
      refine VX_go4 (fs := []) (ok 0 _) eqs trivial 100 [24] rfl (by simp [allP, maxI, htl]; omega) ?_
      refine VX_eq 23 rfl rfl (d' := .t 5 (.e (.int x))) (congrArg (fun x => D.t 5 (.e x)) hch) ?_
      refine VX_go4 (fs := []) (ok 0 _) eqs trivial 100 [25] rfl (by simp [allP, arithP]) ?_
      refine VX_eq 24 rfl rfl (d' := .t 5 (.e (.int (x % 16 : Nat)))) (congrArg (fun x => D.t 5 (.e (.int x))) er16) ?_
      refine VX_go4 (fs := []) (ok 0 _) eqs trivial 100 [28] rfl (by simp [allP]; omega) ?_
      refine VX_eq 27 rfl rfl (d' := .t 5 (.e (.int x))) (congrArg (fun x => D.t 5 (.e x)) hch) ?_
      refine VX_go4 (fs := []) (ok 0 _) eqs trivial 100 [29] rfl (by simp [allP, arithP]) ?_
      refine VX_eq 28 rfl rfl (d' := .t 5 (.e (.int (x % 16 : Nat)))) (congrArg (fun x => D.t 5 (.e (.int x))) er16) ?_
      refine VX_go4 (fs := []) (ok 0 _) eqs trivial 100 [30] rfl trivial ?_
      refine VX_eq 29 rfl rfl (d' := .t 5 (.e (.int (x % 16 + 1 : Nat)))) (congrArg (fun x => D.t 5 (.e (.int x))) (e1 _ (by omega))) ?_
      refine VX_go4 (fs := []) (ok 0 _) eqs trivial 100 [31] rfl (by simp [allP]; omega) ?_
      refine VX_eq 30 rfl rfl (d' := .t 9 (.e (.str [hx (x % 16)]))) (congrArg (fun x => D.t 9 (.e (.str x))) (hexS (x % 16) (by omega))) ?_
      refine VX_go4 (fs := []) (ok 0 _) eqs trivial 100 [] rfl (by simp [allP, maxI, htl]; omega) ?_
      refine loop_nrm ⟨i + 1, by omega, by omega, ?_⟩
      exact wk1 rfl rfl (by simp [Blk.under, T.under]) (lc (li (by rw [ei])) (lc (ls (by rw [hn]; rfl) rfl) (lc (ls rfl rfl) lnil)))
    · have hi' : i = 32 := by simp at h; omega
      subst hi'
      refine VX_go4 (fs := []) (ok 0 _) eqs trivial 100 [] rfl trivial ?_
      apply loop_brk
      refine VX_go4 (fs := []) (ok 0 _) eqs trivial 100 [] rfl trivial ?_
      exact ⟨.inr rfl, rfl⟩

set_option maxRecDepth 100000 in
theorem abcD : txt (shaB [97, 98, 99]) 32 = [98, 97, 55, 56, 49, 54, 98, 102, 56, 102, 48, 49, 99, 102, 101, 97, 52, 49, 52, 49, 52, 48, 100, 101, 53, 100, 97, 101, 50, 50, 50, 51, 98, 48, 48, 51, 54, 49, 97, 51, 57, 54, 49, 55, 55, 97, 57, 99, 98, 52, 49, 48, 102, 102, 54, 49, 102, 50, 48, 48, 49, 53, 97, 100] := by decide +kernel
theorem shaB_length (s : List UInt8) : (shaB s).length = 32 := digL_length _ _
theorem awake_ok : FnOk Tryd.prog tb 8 [] [4] [] [.bool true] := by
  refine FnOk_of_V (fn := Tryd.f8) (bt := 4) (ok 0 _) Tryd.func8 rfl rfl rfl (by decide) fun hw => ?_
  clear hw
  apply V_of_VX
  have c1 := (sum_ok [[97, 98, 99]] (by decide) (by simp)).g
  rw [sum1 _ (by decide)] at c1
  refine VX_go4 (fs := []) (ok 0 _) eqs trivial 100 [] rfl trivial ?_
  refine VX_callD (ok 0 _) [46] [] rfl rfl rfl rfl rfl rfl c1 rfl rfl rfl ?_
  refine VX_go4 (fs := []) (ok 0 _) eqs trivial 100 [] rfl trivial ?_
  refine VX_callD (ok 0 _) [30] [] rfl rfl rfl rfl rfl rfl (text_ok (shaB [97, 98, 99]) (shaB_length _)).g rfl rfl rfl ?_
  rw [abcD]
  refine VX_go4 (fs := []) (ok 0 _) eqs trivial 100 [] rfl trivial ?_
  exact ⟨.inr rfl, rfl⟩
end Go.Den.Q01
/- Law 01: ShaBlocks, ShaSums. -/
namespace Go.Den.Q01
open Go Go.Den Go.Proofs
set_option maxRecDepth 8000
set_option linter.unusedVariables false
set_option linter.unusedSimpArgs false

theorem list8 {α : Type} {l : List α} (h : l.length = 8) : ∃ a b c d e f g i, l = [a, b, c, d, e, f, g, i] := by
  match l, h with | [a, b, c, d, e, f, g, i], _ => exact ⟨a, b, c, d, e, f, g, i, rfl⟩
theorem wt_words {x : E} (h : Wt tb 23 x) : ∃ S : S8, x = S.E := by
  obtain ⟨l, rfl, hl, hw⟩ := wt_arr h rfl
  obtain ⟨a, b, c, d, e, f, g, i, rfl⟩ := list8 hl
  obtain ⟨n0, rfl, _⟩ := wt_int (hw a (by simp)) (k := .u32) rfl
  obtain ⟨n1, rfl, _⟩ := wt_int (hw b (by simp)) (k := .u32) rfl
  obtain ⟨n2, rfl, _⟩ := wt_int (hw c (by simp)) (k := .u32) rfl
  obtain ⟨n3, rfl, _⟩ := wt_int (hw d (by simp)) (k := .u32) rfl
  obtain ⟨n4, rfl, _⟩ := wt_int (hw e (by simp)) (k := .u32) rfl
  obtain ⟨n5, rfl, _⟩ := wt_int (hw f (by simp)) (k := .u32) rfl
  obtain ⟨n6, rfl, _⟩ := wt_int (hw g (by simp)) (k := .u32) rfl
  obtain ⟨n7, rfl, _⟩ := wt_int (hw i (by simp)) (k := .u32) rfl
  exact ⟨⟨n0, n1, n2, n3, n4, n5, n6, n7⟩, rfl⟩
theorem eqS8 (S : S8) : eqE S.E S.E = true := by simp [S8.E, eqE, eqEs]
theorem eqBytes : ∀ l : List UInt8, eqEs (l.map byteE) (l.map byteE) = true
  | [] => by simp [eqEs]
  | b :: l => by simp [eqEs, eqE, byteE, eqBytes l]
theorem eqDg (d : List UInt8) : eqE (dgE d) (dgE d) = true := by simp [dgE, eqE, eqBytes d]
theorem eqSt (S : S8) (r : List UInt8) (n : Nat) : eqE (stE S r n) (stE S r n) = true := by simp [stE, eqE, eqEs, S8.E]

theorem blocks_ok (x0 x1 : E) : FnOk Tryd.prog tb 3 [23, 9] [4] [x0, x1] [.bool true] := by
  refine FnOk_of_V (fn := Tryd.f3) (bt := 4) (ok 0 _) Tryd.func3 rfl rfl rfl (by decide) fun hw => ?_
  obtain ⟨S, rfl⟩ := wt_words (hw 0 _ x0 rfl rfl)
  obtain ⟨s, rfl⟩ := wt_str (hw 1 _ x1 rfl rfl) rfl
  clear hw
  apply V_of_VX
  refine VX_go4 (fs := []) (ok 0 _) eqs trivial 100 [] rfl trivial ?_
  refine VX_callD (ok 0 _) [] [] rfl rfl rfl rfl rfl rfl awake_ok.g rfl rfl rfl ?_
  refine VX_go4 (fs := []) (ok 0 _) eqs trivial 100 [] rfl trivial ?_
  refine VX_known 6 false rfl rfl rfl ?_
  refine VX_go4 (fs := []) (ok 0 _) eqs trivial 100 [] rfl trivial ?_
  refine VX_split 9 rfl rfl (fun h => ?_) (fun h => ?_)
  · refine VX_go4 (fs := []) (ok 0 _) eqs trivial 100 [] rfl trivial ?_
    refine VX_callD (ok 0 _) [] [] rfl rfl rfl rfl rfl rfl awake_ok.g rfl rfl rfl ?_
    refine VX_go4 (fs := []) (ok 0 _) eqs trivial 100 [] rfl trivial ?_
    exact ⟨.inr rfl, rfl⟩
  · refine VX_go4 (fs := []) (ok 0 _) eqs trivial 100 [] rfl trivial ?_
    refine VX_draw [] [(0, false), (1, true), (2, true), (3, true), (5, true), (6, true), (4, false), (7, false), (8, false), (9, true), (10, true), (11, true)] mixed (by kernel_rfl) (by kernel_rfl) (by kernel_rfl) ?_
    refine VX_callO (ok 0 _) [] [] rfl rfl rfl rfl rfl rfl rfl rfl awake_ok.g rfl rfl rfl ?_
    refine VX_go4 (fs := []) (ok 0 _) eqs trivial 100 [] rfl trivial ?_
    refine VX_known 12 true rfl rfl rfl ?_
    refine VX_go4 (fs := []) (ok 0 _) eqs trivial 100 [] rfl trivial ?_
    refine VX_callBytes (ok 0 _) rfl rfl (by kernel_rfl) rfl rfl rfl rfl rfl rfl rfl rfl rfl (block_ok s S) rfl rfl rfl rfl rfl rfl rfl rfl rfl rfl ?_
    refine VX_callO (ok 0 _) [23, 27] [] rfl rfl rfl rfl rfl rfl rfl rfl (rblock_ok s S).g rfl rfl rfl ?_
    refine VX_go4 (fs := []) (ok 0 _) eqs trivial 100 [21] rfl trivial ?_
    refine VX_known 20 true rfl rfl (eqS8 _) ?_
    refine VX_go4 (fs := []) (ok 0 _) eqs trivial 100 [] rfl trivial ?_
    exact ⟨.inr rfl, rfl⟩

theorem sums_ok (x0 : E) : FnOk Tryd.prog tb 4 [9] [4] [x0] [.bool true] := by
  refine FnOk_of_V (fn := Tryd.f4) (bt := 4) (ok 0 _) Tryd.func4 rfl rfl rfl (by decide) fun hw => ?_
  obtain ⟨s, rfl⟩ := wt_str (hw 0 _ x0 rfl rfl) rfl
  clear hw
  apply V_of_VX
  refine VX_go4 (fs := []) (ok 0 _) eqs trivial 100 [] rfl trivial ?_
  refine VX_callD (ok 0 _) [] [] rfl rfl rfl rfl rfl rfl awake_ok.g rfl rfl rfl ?_
  refine VX_go4 (fs := []) (ok 0 _) eqs trivial 100 [] rfl trivial ?_
  refine VX_known 5 false rfl rfl rfl ?_
  refine VX_go4 (fs := []) (ok 0 _) eqs trivial 100 [] rfl trivial ?_
  refine VX_split 8 rfl rfl (fun h => ?_) (fun h => ?_)
  · refine VX_go4 (fs := []) (ok 0 _) eqs trivial 100 [] rfl trivial ?_
    refine VX_callD (ok 0 _) [] [] rfl rfl rfl rfl rfl rfl awake_ok.g rfl rfl rfl ?_
    refine VX_go4 (fs := []) (ok 0 _) eqs trivial 100 [] rfl trivial ?_
    exact ⟨.inr rfl, rfl⟩
  · have hs : s.length ≤ 20000 := by simp at h; omega
    have c1 := (sum_ok [s] (by simp) (by simp; omega)).g
    rw [sum1 _ (by omega)] at c1
    refine VX_go4 (fs := []) (ok 0 _) eqs trivial 100 [] rfl trivial ?_
    refine VX_callD (ok 0 _) [46] [] rfl rfl rfl rfl rfl rfl c1 rfl rfl rfl ?_
    refine VX_go4 (fs := []) (ok 0 _) eqs trivial 100 [] rfl trivial ?_
    refine VX_draw [] [(0, false), (1, true), (2, true), (3, true), (4, false), (5, true), (6, true), (7, true), (8, true), (10, true), (9, false), (11, false), (12, true), (13, true), (14, true)] mixed (by kernel_rfl) (by kernel_rfl) (by kernel_rfl) ?_
    refine VX_callO (ok 0 _) [] [] rfl rfl rfl rfl rfl rfl rfl rfl awake_ok.g rfl rfl rfl ?_
    refine VX_go4 (fs := []) (ok 0 _) eqs trivial 100 [] rfl trivial ?_
    refine VX_known 14 true rfl rfl rfl ?_
    refine VX_go4 (fs := []) (ok 0 _) eqs trivial 100 [] rfl trivial ?_
    refine VX_callO (ok 0 _) [9] [] rfl rfl rfl rfl rfl rfl rfl rfl (rsum_ok s (by omega)).g rfl rfl rfl ?_
    refine VX_go4 (fs := []) (ok 0 _) eqs trivial 100 [19] rfl trivial ?_
    refine VX_known 18 true rfl rfl (eqDg _) ?_
    refine VX_go4 (fs := []) (ok 0 _) eqs trivial 100 [] rfl trivial ?_
    refine VX_callO (ok 0 _) [30] [] rfl rfl rfl rfl rfl rfl rfl rfl (text_ok (shaB s) (shaB_length s)).g rfl rfl rfl ?_
    refine VX_go4 (fs := []) (ok 0 _) eqs trivial 100 [] rfl trivial ?_
    refine VX_callO (ok 0 _) [30] [] rfl rfl rfl rfl rfl rfl rfl rfl (rtext_ok (shaB s) (shaB_length s)).g rfl rfl rfl ?_
    refine VX_go4 (fs := []) (ok 0 _) eqs trivial 100 [26] rfl trivial ?_
    refine VX_known 25 true rfl rfl (by simp) ?_
    refine VX_go4 (fs := []) (ok 0 _) eqs trivial 100 [] rfl trivial ?_
    exact ⟨.inr rfl, rfl⟩
end Go.Den.Q01
/- Law 01: ShaStates. -/
namespace Go.Den.Q01
open Go Go.Den Go.Proofs
set_option maxRecDepth 8000
set_option linter.unusedVariables false
set_option linter.unusedSimpArgs false

theorem wt_u64 {t : TypeId} {x : E} (h : Wt tb t x) (ht : td tb t = .int .u64) : ∃ n : Nat, x = .int n ∧ n < 18446744073709551616 := by
  obtain ⟨n, rfl, hn⟩ := wt_int h ht
  simp only [inR, Bool.and_eq_true, decide_eq_true_eq] at hn
  exact ⟨n.toNat, by congr 1; omega, by omega⟩
theorem wt_state {x : E} (h : Wt tb 37 x) : ∃ S r n, x = stE S r n ∧ n < 18446744073709551616 := by
  obtain ⟨l, rfl, hl, hw⟩ := wt_st h rfl
  obtain ⟨a, b, c, rfl⟩ := list3 hl
  obtain ⟨S, rfl⟩ := wt_words (hw 0 _ a rfl rfl)
  obtain ⟨r, rfl⟩ := wt_str (hw 1 _ b rfl rfl) rfl
  obtain ⟨n, rfl, hn⟩ := wt_u64 (hw 2 _ c rfl rfl) rfl
  exact ⟨S, r, n, rfl, hn⟩

set_option maxHeartbeats 1600000 in
theorem states_ok (x0 x1 : E) : FnOk Tryd.prog tb 5 [37, 9] [4] [x0, x1] [.bool true] := by
  refine FnOk_of_V (fn := Tryd.f5) (bt := 4) (ok 0 _) Tryd.func5 rfl rfl rfl (by decide) fun hw => ?_
  obtain ⟨S, r, n, rfl, hn⟩ := wt_state (hw 0 _ x0 rfl rfl)
  obtain ⟨s, rfl⟩ := wt_str (hw 1 _ x1 rfl rfl) rfl
  clear hw
  apply V_of_VX
  refine VX_go4 (fs := []) (ok 0 _) eqs trivial 100 [] rfl trivial ?_
  refine VX_callD (ok 0 _) [] [] rfl rfl rfl rfl rfl rfl awake_ok.g rfl rfl rfl ?_
  refine VX_go4 (fs := []) (ok 0 _) eqs trivial 100 [] rfl trivial ?_
  refine VX_known 9 false rfl rfl rfl ?_
  refine VX_go4 (fs := []) (ok 0 _) eqs trivial 100 [] rfl trivial ?_
  have hsm : ∀ {b : Prop}, (b ↔ (5000 < r.length ∨ 5000 < s.length)) → (b ∨ (r.length ≤ 5000 ∧ s.length ≤ 5000)) := fun h => by
    by_cases h1 : 5000 < r.length ∨ 5000 < s.length
    · exact .inl (h.2 h1)
    · exact .inr (by omega)
  refine VX_split 14 rfl rfl (fun h => ?_) (fun h => ?_)
  · refine VX_go4 (fs := []) (ok 0 _) eqs trivial 100 [] rfl trivial ?_
    refine VX_callD (ok 0 _) [] [] rfl rfl rfl rfl rfl rfl awake_ok.g rfl rfl rfl ?_
    refine VX_go4 (fs := []) (ok 0 _) eqs trivial 100 [] rfl trivial ?_
    exact ⟨.inr rfl, rfl⟩
  have hr5 : r.length ≤ 5000 := by simp at h; omega
  clear h
  refine VX_go4 (fs := []) (ok 0 _) eqs trivial 100 [] rfl trivial ?_
  refine VX_split 18 rfl rfl (fun h => ?_) (fun h => ?_)
  · refine VX_go4 (fs := []) (ok 0 _) eqs trivial 100 [] rfl trivial ?_
    refine VX_callD (ok 0 _) [] [] rfl rfl rfl rfl rfl rfl awake_ok.g rfl rfl rfl ?_
    refine VX_go4 (fs := []) (ok 0 _) eqs trivial 100 [] rfl trivial ?_
    exact ⟨.inr rfl, rfl⟩
  have hs5 : s.length ≤ 5000 := by simp at h; omega
  clear h
  refine VX_go4 (fs := []) (ok 0 _) eqs trivial 100 [] rfl trivial ?_
  refine VX_callD (ok 0 _) [37, 9] [] rfl rfl rfl rfl rfl rfl (add_ok S r s n (by omega) (by omega) hn).g rfl rfl rfl ?_
  refine VX_go4 (fs := []) (ok 0 _) eqs trivial 100 [] rfl (by simp [allP, maxI]; omega) ?_
  refine VX_op rfl rfl (OpV_bytes (ok 0 _) rfl rfl rfl rfl rfl rfl) ?_
  rintro d s' ⟨rfl, rfl⟩
  refine VX_go4 (fs := []) (ok 0 _) eqs trivial 100 [] rfl trivial ?_
  refine VX_callD (ok 0 _) [23, 27] [] rfl rfl rfl rfl rfl rfl (after_ok S (r ++ s) (by simp; omega)).g rfl rfl rfl ?_
  refine VX_go4 (fs := []) (ok 0 _) eqs trivial 100 [] rfl trivial ?_
  have e45 : ((aft S (r ++ s)).2.map byteE).map byteOf = (aft S (r ++ s)).2 := map_byteOf _
  generalize (aft S (r ++ s)).1 = A at e45 ⊢
  generalize (aft S (r ++ s)).2 = r2 at e45 ⊢
  have e56 : IntKind.wrap .u64 ((n : Int) + IntKind.wrap .u64 (s.length : Int)) = ((((n + s.length) % 18446744073709551616 : Nat)) : Int) := by rw [wrap_eq, wrap_eq]; simp
  refine VX_draw [] [(0, false), (1, true), (2, true), (3, true), (4, true), (5, true), (6, true), (7, true), (8, true), (9, true), (10, true), (11, true), (12, true), (13, true), (14, true), (15, true), (16, true), (17, true), (18, true), (19, true), (20, true), (21, true), (22, true), (23, true), (24, true), (25, true), (26, true), (28, true), (29, true), (30, true), (31, true), (33, true), (34, true), (27, false), (32, false), (35, false), (36, true), (37, true), (38, true), (39, false), (40, false), (41, true), (42, true), (43, true), (44, true)] mixed (by kernel_rfl) (by kernel_rfl) (by kernel_rfl) ?_
  refine VX_callO (ok 0 _) [] [] rfl rfl rfl rfl rfl rfl rfl rfl awake_ok.g rfl rfl rfl ?_
  refine VX_go4 (fs := []) (ok 0 _) eqs trivial 100 [] rfl trivial ?_
  refine VX_known 35 true rfl rfl rfl ?_
  refine VX_go4 (fs := []) (ok 0 _) eqs trivial 100 [40] rfl trivial ?_
  refine VX_known 39 true rfl rfl (eqS8 _) ?_
  refine VX_go4 (fs := []) (ok 0 _) eqs trivial 100 [46] rfl trivial ?_
  refine VX_eq 45 rfl rfl (d' := .t 9 (.e (.str r2))) (congrArg (fun x => D.t 9 (.e (.str x))) e45) ?_
  refine VX_go4 (fs := []) (ok 0 _) eqs trivial 100 [47] rfl trivial ?_
  refine VX_known 46 true rfl rfl (by simp) ?_
  refine VX_go4 (fs := []) (ok 0 _) eqs trivial 100 [57] rfl trivial ?_
  refine VX_eq 56 rfl rfl (d' := .t 35 (.e (.int ((n + s.length) % 18446744073709551616 : Nat)))) (congrArg (fun x => D.t 35 (.e (.int x))) e56) ?_
  refine VX_go4 (fs := []) (ok 0 _) eqs trivial 100 [58] rfl trivial ?_
  refine VX_known 57 true rfl rfl (by simp) ?_
  refine VX_go4 (fs := []) (ok 0 _) eqs trivial 100 [] rfl trivial ?_
  refine VX_callBytes (ok 0 _) rfl rfl (by kernel_rfl) rfl rfl rfl rfl rfl rfl rfl rfl rfl (end_ok S r n (by omega) hn) rfl rfl rfl rfl rfl rfl rfl rfl rfl rfl ?_
  refine VX_callO (ok 0 _) [23, 27, 35] [] rfl rfl rfl rfl rfl rfl rfl rfl (rend_ok S r n (by omega) hn).g rfl rfl rfl ?_
  refine VX_go4 (fs := []) (ok 0 _) eqs trivial 100 [71] rfl trivial ?_
  refine VX_known 70 true rfl rfl (eqDg _) ?_
  refine VX_go4 (fs := []) (ok 0 _) eqs trivial 100 [] rfl trivial ?_
  refine VX_callO (ok 0 _) [] [] rfl rfl rfl rfl rfl rfl rfl rfl begin_ok.g rfl rfl rfl ?_
  refine VX_go4 (fs := []) (ok 0 _) eqs trivial 100 [] rfl trivial ?_
  refine VX_callO (ok 0 _) [] [] rfl rfl rfl rfl rfl rfl rfl rfl first_ok.g rfl rfl rfl ?_
  refine VX_go4 (fs := []) (ok 0 _) eqs trivial 100 [77] rfl trivial ?_
  refine VX_known 76 true rfl rfl (eqSt _ _ _) ?_
  refine VX_go4 (fs := []) (ok 0 _) eqs trivial 100 [] rfl trivial ?_
  exact ⟨.inr rfl, rfl⟩
end Go.Den.Q01
/- Law 01: ShaParts. -/
namespace Go.Den.Q01
open Go Go.Den Go.Proofs
set_option maxRecDepth 8000
set_option linter.unusedVariables false
set_option linter.unusedSimpArgs false

theorem aft_app : ∀ (n : Nat) (S : S8) (x q : List UInt8), x.length ≤ n → aft S (x ++ q) = aft (aft S x).1 ((aft S x).2 ++ q) := by
  intro n
  induction n with
  | zero =>
    intro S x q h
    have hx : x = [] := List.length_eq_zero_iff.1 (by omega)
    subst hx
    rw [aft_small S [] (by simp)]
  | succ n ih =>
    intro S x q h
    by_cases h64 : 64 ≤ x.length
    · rw [← aft_step S x h64, ← aft_step S (x ++ q) (by simp; omega), List.take_append_of_le_length h64, List.drop_append_of_le_length h64]
      exact ih _ _ _ (by simp; omega)
    · rw [aft_small S x (by omega)]
theorem stAdd_app (st : S8 × List UInt8 × Nat) (p q : List UInt8) : stAdd (stAdd st p) q = stAdd st (p ++ q) := by
  obtain ⟨S, r, n⟩ := st
  simp only [stAdd, ← List.append_assoc]
  rw [← aft_app _ S (r ++ p) q (Nat.le_refl _)]
  congr 2
  simp only [List.length_append]; omega
theorem sum_flat (p : List UInt8) (ps : List (List UInt8)) : ∀ st, ps.foldl stAdd (stAdd st p) = stAdd st (p ++ ps.flatten) := by
  induction ps generalizing p with
  | nil => intro st; simp
  | cons q ps ih =>
    intro st
    rw [List.foldl_cons, stAdd_app, ih]
    simp [List.flatten_cons, List.append_assoc]
theorem stAdd_nil (st : S8 × List UInt8 × Nat) (h : st.2.1.length < 64) (hn : st.2.2 < 18446744073709551616) : stAdd st [] = st := by
  obtain ⟨S, r, n⟩ := st
  simp only [stAdd, List.append_nil, List.length_nil, Nat.add_zero]
  rw [aft_small S r h, Nat.mod_eq_of_lt hn]
theorem sum_all (ps : List (List UInt8)) : sumSt ps = sumSt [ps.flatten] := by
  unfold sumSt
  have h := sum_flat [] ps (fS, [], 0)
  rw [stAdd_nil _ (by simp) (by simp)] at h
  rw [h]; simp

set_option maxHeartbeats 1600000 in
theorem parts_ok (x0 : E) : FnOk Tryd.prog tb 6 [46] [4] [x0] [.bool true] := by
  refine FnOk_of_V (fn := Tryd.f6) (bt := 4) (ok 0 _) Tryd.func6 rfl rfl rfl (by decide) fun hw => ?_
  obtain ⟨l, rfl, hl⟩ := wt_sl (hw 0 _ x0 rfl rfl) rfl
  obtain ⟨ps, rfl⟩ := map_ex fun y hy => wt_str (hl y hy) rfl
  clear hw hl
  apply V_of_VX
  refine VX_go4 (fs := []) (ok 0 _) eqs trivial 100 [] rfl trivial ?_
  refine VX_callD (ok 0 _) [] [] rfl rfl rfl rfl rfl rfl awake_ok.g rfl rfl rfl ?_
  refine VX_go4 (fs := []) (ok 0 _) eqs trivial 100 [] rfl trivial ?_
  refine VX_known 8 false rfl rfl rfl ?_
  refine VX_go4 (fs := []) (ok 0 _) eqs trivial 100 [] rfl trivial ?_
  refine VX_split 11 rfl rfl (fun h => ?_) (fun h => ?_)
  · refine VX_go4 (fs := []) (ok 0 _) eqs trivial 100 [] rfl trivial ?_
    refine VX_callD (ok 0 _) [] [] rfl rfl rfl rfl rfl rfl awake_ok.g rfl rfl rfl ?_
    refine VX_go4 (fs := []) (ok 0 _) eqs trivial 100 [] rfl trivial ?_
    exact ⟨.inr rfl, rfl⟩
  have hl : ps.length ≤ 60 := by simp at h; omega
  clear h
  refine VX_go4 (fs := []) (ok 0 _) eqs trivial 100 [] rfl trivial ?_
  refine VX_callD (ok 0 _) [] [] rfl rfl rfl rfl rfl rfl begin_ok.g rfl rfl rfl ?_
  refine VX_go4 (fs := []) (ok 0 _) eqs trivial 100 [] rfl trivial ?_
  refine VX_loopA (fun i : Nat => i ≤ ps.length ∧ ∀ p ∈ ps.take i, p.length ≤ 2000)
    (fun i => [(16, .t 3 (.e (.int i))), (15, .t 3 (.e (.int ps.length))), (14, .t 46 (.e (.sl (ps.map E.str)))), (4, .ptr 0 []), (3, .t 9 (.e (.str (ps.take i).flatten))), (0, .t 46 (.e (.sl (ps.map E.str))))])
    (fun i => [.tree 37 (.e (stE' (sumSt (ps.take i))))]) (fun i => ps.length - i) 0 ⟨by simp, by simp⟩ ?_ ?_
  · exact wk1 rfl rfl (by simp [Blk.under, T.under]) (lc (ls rfl rfl) (lc (li (by simp)) (lc (ls rfl rfl) (lc (ls rfl rfl) (lc (ls rfl rfl) (lc (ls rfl rfl) lnil))))))
  · rintro i ⟨hi, hp⟩
    have hfl : ∀ n (qs : List (List UInt8)), qs.length ≤ n → (∀ p ∈ qs, p.length ≤ 2000) → qs.flatten.length ≤ 2000 * n := by
      intro n qs
      induction qs generalizing n with
      | nil => intro _ _; simp
      | cons q qs ih =>
        intro h1 h2
        have := h2 q (by simp)
        have := ih (n - 1) (by simp at h1; omega) (fun p hp => h2 p (by simp [hp]))
        rw [List.flatten_cons, List.length_append]; simp at h1; omega
    have hfi := hfl 60 (ps.take i) (by simp; omega) hp
    refine VX_go4 (fs := []) (ok 0 _) eqs trivial 100 [] rfl trivial ?_
    refine VX_split 17 rfl rfl (fun h => ?_) (fun h => ?_)
    · have hi : i < ps.length := by simpa using h
      have ei : IntKind.wrap .i64 ((i : Int) + 1) = ((i + 1 : Nat) : Int) := by rw [w64 (by omega) (by omega)]; simp
      refine VX_go4 (fs := []) (ok 0 _) eqs trivial 100 [6] rfl (by simp [allP]; omega) ?_
      have hg : (ps.map E.str).getD i .nilp = .str ps[i] := by simp [List.getD, hi]
      refine VX_eq 19 rfl rfl (d' := .t 9 (.e (.str ps[i]))) (congrArg (fun x => D.t 9 (.e x)) hg) ?_
      have htk : ps.take (i + 1) = ps.take i ++ [ps[i]] := by rw [List.take_add_one, List.getElem?_eq_getElem hi]; rfl
      have hst' : stAdd (sumSt (ps.take i)) ps[i] = sumSt (ps.take (i + 1)) := by
        unfold sumSt
        rw [htk, List.foldl_append]; rfl
      have hfl' : (ps.take (i + 1)).flatten = (ps.take i).flatten ++ ps[i] := by rw [htk, List.flatten_append, List.flatten_cons, List.flatten_nil, List.append_nil]
      have hp' : ps[i].length ≤ 2000 → ∀ p ∈ ps.take (i + 1), p.length ≤ 2000 := fun h p hm => by
        rw [htk] at hm
        rcases List.mem_append.1 hm with hm | hm
        · exact hp p hm
        · rw [List.mem_singleton.1 hm]; exact h
      have hsm : (sumSt (ps.take i)).2.1.length < 64 ∧ (sumSt (ps.take i)).2.2 < 18446744073709551616 := by
        rw [sum_all]; exact stAdd_small _ _
      generalize hst : sumSt (ps.take i) = st at hst' hsm ⊢
      generalize ps[i] = p at hst' hfl' hp' ⊢
      generalize (ps.take i).flatten = al at hfl' hfi ⊢
      obtain ⟨S, r, n⟩ := st
      obtain ⟨hr, hn⟩ := hsm
      simp only at hr hn
      refine VX_go4 (fs := []) (ok 0 _) eqs trivial 100 [] rfl trivial ?_
      refine VX_split 22 rfl rfl (fun h => ?_) (fun h => ?_)
      · refine VX_go4 (fs := []) (ok 0 _) eqs trivial 100 [] rfl trivial ?_
        refine VX_callD (ok 0 _) [] [] rfl rfl rfl rfl rfl rfl awake_ok.g rfl rfl rfl ?_
        refine VX_go4 (fs := []) (ok 0 _) eqs trivial 100 [] rfl trivial ?_
        apply loop_ret
        exact ⟨.inr rfl, rfl⟩
      have hpl : p.length ≤ 2000 := by simp at h; omega
      refine VX_go4 (fs := []) (ok 0 _) eqs trivial 100 [] rfl (by simp [allP, maxI]; omega) ?_
      refine VX_callD (ok 0 _) [37, 9] [] rfl rfl rfl rfl rfl rfl (add_ok S r p n (by omega) (by omega) hn).g rfl rfl rfl ?_
      refine VX_go4 (fs := []) (ok 0 _) eqs trivial 100 [] rfl trivial ?_
      refine loop_nrm ⟨i + 1, by omega, ⟨by omega, hp' hpl⟩, ?_⟩
      exact wk1 (by rw [← hst']; rfl) rfl (by simp [Blk.under, T.under]) (lc (li (by rw [ei])) (lc (ls rfl rfl) (lc (ls rfl rfl) (lc (ls rfl rfl) (lc (ls (by rw [hfl']; rfl) rfl) (lc (ls rfl rfl) lnil))))))
    · have hi' : i = ps.length := by simp at h; omega
      subst hi'
      rw [List.take_length] at hp hfi ⊢
      have hsm := stAdd_small (fS, [], 0) ps.flatten
      have hse : sumSt ps = stAdd (fS, [], 0) ps.flatten := sum_all ps
      rw [← hse] at hsm
      have c1 := sum_ok ps (by omega) (fun p h => Nat.le_trans (hp p h) (by decide))
      have c2 := sum_ok [ps.flatten] (by simp) (fun p h => by rw [List.mem_singleton.1 h]; omega)
      rw [← sum_all] at c2
      generalize ps.flatten = al at c2 hfi ⊢
      have hnil := stAdd_nil (sumSt ps) hsm.1 hsm.2
      generalize sumSt ps = st at c1 c2 hsm hnil ⊢
      obtain ⟨S, r, n⟩ := st
      obtain ⟨hr, hn⟩ := hsm
      simp only at hr hn c1 c2
      have e1 : stE (aft S (r ++ [])).1 (aft S (r ++ [])).2 ((n + ([] : List UInt8).length) % 18446744073709551616) = stE S r n := congrArg stE' hnil
      have c3 := add_ok S r [] n (by omega) (by simp) hn
      rw [e1] at c3
      refine VX_go4 (fs := []) (ok 0 _) eqs trivial 100 [] rfl trivial ?_
      apply loop_brk
      refine VX_go4 (fs := []) (ok 0 _) eqs trivial 100 [] rfl trivial ?_
      refine VX_draw [] [(0, false), (1, true), (2, true), (4, true), (3, false), (5, false), (6, false), (7, true), (8, true), (9, true), (10, true), (12, true), (11, false), (13, false), (14, false), (15, true), (16, true), (17, true), (18, true), (20, true), (19, false), (21, true), (22, true), (23, true)] mixed (by kernel_rfl) (by kernel_rfl) (by kernel_rfl) ?_
      refine VX_callO (ok 0 _) [] [] rfl rfl rfl rfl rfl rfl rfl rfl awake_ok.g rfl rfl rfl ?_
      refine VX_go4 (fs := []) (ok 0 _) eqs trivial 100 [] rfl trivial ?_
      refine VX_known 32 true rfl rfl rfl ?_
      refine VX_go4 (fs := []) (ok 0 _) eqs trivial 100 [] rfl trivial ?_
      refine VX_callLit (ok 0 _) rfl rfl (by kernel_rfl) rfl rfl rfl rfl rfl rfl rfl rfl rfl c1 rfl rfl rfl rfl rfl rfl ?_
      refine VX_callO (ok 0 _) [46] [] rfl rfl rfl rfl rfl rfl rfl rfl c2.g rfl rfl rfl ?_
      refine VX_go4 (fs := []) (ok 0 _) eqs trivial 100 [39] rfl trivial ?_
      refine VX_known 38 true rfl rfl (eqDg _) ?_
      refine VX_go4 (fs := []) (ok 0 _) eqs trivial 100 [] rfl trivial ?_
      refine VX_callLit (ok 0 _) rfl rfl (by kernel_rfl) rfl rfl rfl rfl rfl rfl rfl rfl rfl (end_ok S r n (by omega) hn) rfl rfl rfl rfl rfl rfl ?_
      refine VX_callO (ok 0 _) [46] [] rfl rfl rfl rfl rfl rfl rfl rfl c2.g rfl rfl rfl ?_
      refine VX_go4 (fs := []) (ok 0 _) eqs trivial 100 [47] rfl trivial ?_
      refine VX_known 46 true rfl rfl (eqDg _) ?_
      refine VX_go4 (fs := []) (ok 0 _) eqs trivial 100 [] rfl trivial ?_
      refine VX_callO (ok 0 _) [37, 9] [] rfl rfl rfl rfl rfl rfl rfl rfl c3.g rfl rfl rfl ?_
      refine VX_go4 (fs := []) (ok 0 _) eqs trivial 100 [53] rfl trivial ?_
      refine VX_known 52 true rfl rfl (eqSt _ _ _) ?_
      refine VX_go4 (fs := []) (ok 0 _) eqs trivial 100 [] rfl trivial ?_
      exact ⟨.inr rfl, rfl⟩
end Go.Den.Q01
/-
  What the laid variables give the walks; the world that the door leaves meets the condition.
-/
namespace Go.Proofs.YthdobmogmepamaaDoor
open Go.ChangeShapes Go.WideShapes Go.ChangeAt Go.RowKit
set_option linter.unusedVariables false
def laid2 : List (String × DataW Unit) := Rows.shaBlocksRow.laid
theorem own : ownKnob Tryd.prog.godebug = none := by kernel_rfl
theorem laidOut : laidOutB Tryd.prog = true := by kernel_rfl
theorem gFirst : Tryd.prog.globalNamed "pontoon/sha.first" = some 1 := by kernel_rfl
theorem gConsts : Tryd.prog.globalNamed "pontoon/sha.constants" = some 0 := by kernel_rfl
theorem tFirst : (Tryd.prog.globals[1]?).map (·.type) = some 23 := by kernel_rfl
theorem tConsts : (Tryd.prog.globals[0]?).map (·.type) = some 51 := by kernel_rfl
theorem door_met (os : Os) (args : Array Value) : laidMetH Tryd.prog laid2 ((World.doorLaid Tryd.prog 400 os).forCall (fun _ _ => 0) ⟨#[], args, []⟩).memory :=
  laidMetH_of_parts3 (fuel := 8) (laidMet_of_run' 8 (by kernel_rfl) (by kernel_rfl)) (by kernel_rfl) (by kernel_rfl)
theorem of_laid {W : World} (h : laidMetH Tryd.prog laid2 W) : Go.Den.GlRel Go.Den.Q01.tb (Go.Den.Hw W) := by
  rw [MakeChecks.laidMetH_plain _ _ _ (by kernel_rfl)] at h
  obtain ⟨ps, ⟨g0, t0, cs0, f0, p0, q0, hg0, ht0, hv0, hd0, ⟨g1, t1, cs1, f1, p1, q1, hg1, ht1, hv1, hd1, _, _⟩, _⟩, _, _⟩ := h
  obtain rfl := Option.some.inj (gFirst.symm.trans hg0)
  obtain rfl := Option.some.inj (gConsts.symm.trans hg1)
  obtain rfl := Option.some.inj (tFirst.symm.trans ht0)
  obtain rfl := Option.some.inj (tConsts.symm.trans ht1)
  intro g ty x hm
  simp only [Go.Den.Q01.tb, List.mem_cons, List.not_mem_nil, or_false] at hm
  rcases hm with hm | hm
  · cases hm
    exact Go.Den.gl_ints (ns := Go.Den.Q01.kL) Go.Den.Q01.tabOk hg1 hv1 rfl rfl hd1
  · cases hm
    exact Go.Den.gl_ints (ns := Go.Den.Q01.fL) Go.Den.Q01.tabOk hg0 hv0 rfl rfl hd0
end Go.Proofs.YthdobmogmepamaaDoor
