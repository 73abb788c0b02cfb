/- The calculus and the walks, part 7: Q01I, Q01J, Q01K, Q01N, Q01O, DenExt, Q01T, Q01U, Q01V, Q01L. -/
import Derived.Test.YthdobmogmepamaaDoorP6
import Derived.Test.YthdobmogmepamaaDoorP5
import Derived.Laws.Externs
import Derived.Test.YthdobmogmepamaaDoorRows
import Derived.WalkKit
import Derived.ProofKit
import Derived.OpenShut
import Derived.ShutString
import Derived.ChangeOld
import Derived.LaidMore
import Derived.Stop.Joined
import Derived.Below
/- Law 01: sums; strings.Builder; digests as texts. -/
namespace Go.Den.Q01
open Go Go.Den Go.Proofs
set_option maxRecDepth 8000
set_option linter.unusedVariables false
set_option linter.unusedSimpArgs false

theorem noEsc (x : Value) (w : World) : (callFunc 38 #[x]).run Tryd.prog w = .ok (.value x) w := rfl

/-- A builder and its row. -/
def bld (a : T) (n : Nat) (bs : List E) : List Blk := [.tree 60 (.st [a, .msl 1 n]), .mrow 5 true bs]
theorem check_ok (a : T) (ha : a = .e .nilp ∨ a = .ptr 0 []) (n : Nat) (bs : List E) : FnG Tryd.prog tb 31 (bld a n bs) [.ptr 0 []] (fun d s => d = .tup [] ∧ s = bld (.ptr 0 []) n bs) := by
  refine FnG_of_V (fn := Tryd.f31) (bt := 4) false [] [] (ok 2 _) Tryd.func31 rfl rfl rfl fun _ _ _ _ _ _ => ?_
  apply V_of_VX
  rcases ha with rfl | rfl
  · refine VX_go4 (fs := []) (ok 2 _) eqs trivial 100 [] rfl trivial ?_
    refine VX_op rfl rfl (OpV_toUnsafe (v := 60) (o' := 0) (u := 60) (ok 2 _) rfl rfl (by decide) (by kernel_rfl) rfl rfl rfl (by decide)) ?_
    rintro d s ⟨rfl, rfl⟩
    refine VX_op rfl rfl (OpV_noEscape (ok 2 _) rfl noEsc rfl) ?_
    rintro d s ⟨rfl, rfl⟩
    refine VX_op rfl rfl (OpV_ofUnsafe (v := 60) (o' := 0) (u := 60) (ok 2 _) rfl (by kernel_rfl) rfl (by decide) rfl rfl rfl (by decide) (by kernel_rfl)) ?_
    rintro d s ⟨rfl, rfl⟩
    refine VX_go4 (fs := []) (ok 2 _) eqs trivial 100 [] rfl trivial ?_
    exact ⟨.inl rfl, _, _, _, rfl, rfl, rfl, rfl, rfl⟩
  · refine VX_go4 (fs := []) (ok 2 _) eqs trivial 100 [] rfl (by simp [allP, td, tb]) ?_
    exact ⟨.inl rfl, _, _, _, rfl, rfl, rfl, rfl, rfl⟩

theorem string_ok (a : T) (ha : a = .e .nilp ∨ a = .ptr 0 []) (bs : List E) :
    FnG Tryd.prog tb 28 (bld a bs.length bs) [.ptr 0 []] (fun d t => d = .t 9 (.e (.str (bs.map byteOf))) ∧ t = [.tree 60 (.st [a, .msl 1 bs.length]), .mrow 5 false bs]) := by
  refine FnG_of_V (fn := Tryd.f28) (bt := 4) false [] [9] (ok 2 _) Tryd.func28 rfl rfl rfl fun _ _ _ _ _ _ => ?_
  apply V_of_VX
  refine VX_go4 (fs := []) (ok 2 _) eqs trivial 100 [] rfl trivial ?_
  refine VX_draw [1] [(0, true), (1, true), (2, true), (3, true), (4, true), (5, true), (6, true), (7, true), (8, true), (9, true), (10, false), (11, true)] mixed (by kernel_rfl) (by kernel_rfl) (by kernel_rfl) ?_
  refine VX_go4 (fs := []) (ok 2 _) eqs trivial 100 [] rfl rfl ?_
  refine VX_opO rfl rfl rfl (OpF_unsafeString (ok 2 _) rfl rfl rfl rfl rfl rfl rfl rfl rfl rfl rfl rfl (by simp)) ?_
  rintro d s ⟨rfl, rfl⟩
  refine VX_go4 (fs := []) (ok 2 _) eqs trivial 100 [] rfl trivial ?_
  rcases ha with rfl | rfl
  · exact ⟨.inr rfl, _, _, _, rfl, rfl, rfl, rfl, rfl⟩
  · exact ⟨.inr rfl, _, _, _, rfl, rfl, rfl, rfl, rfl⟩

theorem writeB_ok (a : T) (ha : a = .e .nilp ∨ a = .ptr 0 []) (bs : List E) (x : UInt8) (h1 : bs.length ≤ 1000000) :
    FnG Tryd.prog tb 27 (bld a bs.length bs) [.ptr 0 [], .t 5 (.e (byteE x))] (fun d t => d = .t 62 (.e .nili) ∧ t = bld (.ptr 0 []) (bs ++ [byteE x]).length (bs ++ [byteE x])) := by
  refine FnG_of_V (fn := Tryd.f27) (bt := 4) false [] [62] (ok 2 _) Tryd.func27 rfl rfl rfl fun _ _ _ _ _ _ => ?_
  rcases ha with rfl | rfl
  all_goals
    apply V_of_VX
    refine VX_go4 (fs := []) (ok 2 _) eqs trivial 100 [] rfl trivial ?_
    refine VX_callD (ok 2 _) [58] [0, 1] rfl rfl rfl rfl rfl rfl (check_ok _ (by simp) bs.length bs) rfl rfl rfl ?_
    refine VX_go4 (fs := []) (ok 2 _) eqs trivial 100 [] rfl ?_ ?_
    · refine ⟨rfl, ?_, ?_⟩ <;> simp [nb, tb, maxL] <;> omega
    refine ⟨.inr rfl, _, _, _, rfl, rfl, rfl, rfl, ?_⟩
    rw [List.length_append]; rfl

/-- A state to which a text is added. -/
def stAdd (st : S8 × List UInt8 × Nat) (p : List UInt8) : S8 × List UInt8 × Nat :=
  ((aft st.1 (st.2.1 ++ p)).1, (aft st.1 (st.2.1 ++ p)).2, (st.2.2 + p.length) % 18446744073709551616)
def stE' (st : S8 × List UInt8 × Nat) : E := stE st.1 st.2.1 st.2.2
theorem aftN_rest : ∀ (n : Nat) (S : S8) (s : List UInt8), (aftN n S s).2.length = s.length - 64 * n
  | 0, S, s => by simp [aftN]
  | n + 1, S, s => by simp [aftN, aftN_rest n]; omega
theorem aft_rest (S : S8) (s : List UInt8) : (aft S s).2.length < 64 := by unfold aft; rw [aftN_rest]; omega
def sumSt (ps : List (List UInt8)) : S8 × List UInt8 × Nat := ps.foldl stAdd (fS, [], 0)
theorem stAdd_small (st : S8 × List UInt8 × Nat) (p : List UInt8) : (stAdd st p).2.1.length < 64 ∧ (stAdd st p).2.2 < 18446744073709551616 := ⟨aft_rest _ _, Nat.mod_lt _ (by decide)⟩
theorem sum_ok (ps : List (List UInt8)) (hl : ps.length ≤ 100000) (hp : ∀ p ∈ ps, p.length ≤ 500000) :
    FnOk Tryd.prog tb 11 [46] [30] [.sl (ps.map E.str)] [dgE (endB (sumSt ps).1 (sumSt ps).2.1 (sumSt ps).2.2)] := by
  refine FnOk_of_V (fn := Tryd.f11) (bt := 4) (ok 0 _) Tryd.func11 rfl rfl rfl (by decide) fun hw => ?_
  clear hw
  apply V_of_VX
  refine VX_go4 (fs := []) (ok 0 _) eqs trivial 100 [] rfl trivial ?_
  refine VX_callD (ok 0 _) [] [] rfl rfl rfl rfl rfl rfl begin_ok.g rfl rfl rfl ?_
  refine VX_go4 (fs := []) (ok 0 _) eqs trivial 100 [] rfl trivial ?_
  refine VX_loopA (fun a : Nat × (S8 × List UInt8 × Nat) => a.1 ≤ ps.length ∧ a.2 = sumSt (ps.take a.1) ∧ a.2.2.1.length < 64 ∧ a.2.2.2 < 18446744073709551616)
    (fun a => [(9, .t 3 (.e (.int a.1))), (8, .t 3 (.e (.int ps.length))), (7, .t 46 (.e (.sl (ps.map E.str)))), (3, .ptr 1 []), (2, .ptr 0 [])])
    (fun a => [.tree 30 (.e (dgE (List.replicate 32 0))), .tree 37 (.e (stE' a.2))]) (fun a => ps.length - a.1) (0, (fS, [], 0)) ⟨by simp, by simp [sumSt], by simp, by simp⟩ ?_ ?_
  · exact wk1 rfl rfl (by simp [Blk.under, T.under]) (lc (ls rfl rfl) (lc (li (by simp)) (lc (ls rfl rfl) (lc (ls rfl rfl) (lc (ls rfl rfl) lnil)))))
  · rintro ⟨i, st⟩ ⟨hi, hst, hr, hn⟩
    simp only at hi hst hr hn
    refine VX_go4 (fs := []) (ok 0 _) eqs trivial 100 [] rfl trivial ?_
    refine VX_split 10 rfl rfl (fun h => ?_) (fun h => ?_)
    · have hi : i < ps.length := by simpa using h
      have ei : IntKind.wrap .i64 ((i : Int) + 1) = ((i + 1 : Nat) : Int) := by rw [w64 (by omega) (by omega)]; simp
      refine VX_go4 (fs := []) (ok 0 _) eqs trivial 100 [5] rfl (by simp [allP]; omega) ?_
      have hg : (ps.map E.str).getD i .nilp = .str ps[i] := by simp [List.getD, hi]
      refine VX_eq 12 rfl rfl (d' := .t 9 (.e (.str ps[i]))) (congrArg (fun x => D.t 9 (.e x)) hg) ?_
      have hpl := hp ps[i] (List.getElem_mem hi)
      have hst' : stAdd st ps[i] = sumSt (ps.take (i + 1)) := by
        unfold sumSt at hst ⊢
        rw [List.take_add_one, List.getElem?_eq_getElem hi, Option.toList_some, List.foldl_append, ← hst]; rfl
      generalize ps[i] = p at hpl hst' ⊢
      obtain ⟨S, r, n⟩ := st
      simp only at hr hn
      refine VX_go4 (fs := []) (ok 0 _) eqs trivial 100 [] rfl trivial ?_
      refine VX_callD (ok 0 _) [37, 9] [] rfl rfl rfl rfl rfl rfl (add_ok S r p n (by omega) (by omega) hn).g rfl rfl rfl ?_
      refine VX_go4 (fs := []) (ok 0 _) eqs trivial 100 [] rfl trivial ?_
      have hsm := stAdd_small (S, r, n) p
      refine loop_nrm ⟨(i + 1, stAdd (S, r, n) p), by simp only; omega, ⟨by simp only; omega, hst', hsm.1, hsm.2⟩, ?_⟩
      exact wk1 rfl rfl (by simp [Blk.under, T.under]) (lc (li (by rw [ei])) (lc (ls rfl rfl) (lc (ls rfl rfl) (lc (ls rfl rfl) (lc (ls rfl rfl) lnil)))))
    · have hi' : i = ps.length := by simp at h; omega
      subst hi'
      rw [List.take_length] at hst
      subst hst
      generalize sumSt ps = st at hr hn ⊢
      obtain ⟨S, r, n⟩ := st
      refine VX_go4 (fs := []) (ok 0 _) eqs trivial 100 [] rfl trivial ?_
      apply loop_brk
      refine VX_go4 (fs := []) (ok 0 _) eqs trivial 100 [] rfl trivial ?_
      refine VX_callD (ok 0 _) [37] [] rfl rfl rfl rfl rfl rfl (end_ok S r n (by simp only at hr; omega) hn).g rfl rfl rfl ?_
      refine VX_go4 (fs := []) (ok 0 _) eqs trivial 100 [] rfl trivial ?_
      exact ⟨.inr rfl, rfl⟩
/-- The digest of a text. -/
def shaB (s : List UInt8) : List UInt8 := endB (aft fS s).1 (aft fS s).2 s.length
theorem sum1 (s : List UInt8) (hs : s.length ≤ 100000) : endB (sumSt [s]).1 (sumSt [s]).2.1 (sumSt [s]).2.2 = shaB s := by
  show endB (aft fS ([] ++ s)).1 (aft fS ([] ++ s)).2 ((0 + s.length) % 18446744073709551616) = _
  rw [List.nil_append, Nat.zero_add, Nat.mod_eq_of_lt (by omega)]; rfl
theorem rsum_ok (s : List UInt8) (hs : s.length ≤ 100000) : FnOk Tryd.prog tb 12 [9] [30] [.str s] [dgE (shaB s)] := by
  refine FnOk_of_V (fn := Tryd.f12) (bt := 4) (ok 0 _) Tryd.func12 rfl rfl rfl (by decide) fun hw => ?_
  clear hw
  apply V_of_VX
  refine VX_go4 (fs := []) (ok 0 _) eqs trivial 100 [] rfl trivial ?_
  refine VX_callD (ok 0 _) [] [] rfl rfl rfl rfl rfl rfl first_ok.g rfl rfl rfl ?_
  refine VX_go4 (fs := []) (ok 0 _) eqs trivial 100 [] rfl trivial ?_
  refine VX_op rfl rfl (OpV_bytes (ok 0 _) rfl rfl rfl rfl rfl rfl) ?_
  rintro d s' ⟨rfl, rfl⟩
  refine VX_go4 (fs := []) (ok 0 _) eqs trivial 100 [] rfl trivial ?_
  refine VX_callD (ok 0 _) [23, 27] [] rfl rfl rfl rfl rfl rfl (after_ok fS s (by omega)).g rfl rfl rfl ?_
  have hr := aft_rest fS s
  have e16 : IntKind.wrap .u64 (s.length : Int) = (s.length : Nat) := by rw [wrap_eq]; simp; omega
  refine VX_go4 (fs := []) (ok 0 _) eqs trivial 100 [17] rfl trivial ?_
  refine VX_eq 16 rfl rfl (d' := .t 35 (.e (.int s.length))) (congrArg (fun x => D.t 35 (.e (.int x))) e16) ?_
  refine VX_callD (ok 0 _) [23, 27, 35] [] rfl rfl rfl rfl rfl rfl (rend_ok (aft fS s).1 (aft fS s).2 s.length (by omega) (by omega)).g rfl rfl rfl ?_
  refine VX_go4 (fs := []) (ok 0 _) eqs trivial 100 [] rfl trivial ?_
  exact ⟨.inr rfl, rfl⟩
end Go.Den.Q01
/- Law 01: digests as texts; the chapter's example. -/
namespace Go.Den.Q01
open Go Go.Den Go.Proofs
set_option maxRecDepth 8000
set_option linter.unusedVariables false
set_option linter.unusedSimpArgs false

def hexC : List UInt8 := [48, 49, 50, 51, 52, 53, 54, 55, 56, 57, 97, 98, 99, 100, 101, 102]
def hx (n : Nat) : UInt8 := hexC.getD n 0
def txt (d : List UInt8) : Nat → List UInt8
  | 0 => []
  | i + 1 => txt d i ++ [hx ((d.getD i 0).toNat / 16), hx ((d.getD i 0).toNat % 16)]
theorem txt_length (d : List UInt8) : ∀ i, (txt d i).length = 2 * i
  | 0 => rfl
  | i + 1 => by simp [txt, txt_length d i]; omega
theorem shr4 (x : UInt8) : Int.fdiv (x.toNat : Int) (2 ^ (min (4 : Int).toNat 8)) = ((x.toNat / 16 : Nat) : Int) := by
  show Int.fdiv (x.toNat : Int) 16 = _
  rw [Int.fdiv_eq_ediv_of_nonneg _ (by omega)]; simp
theorem and15 : ∀ n : Fin 256, bitop .and .u8 (n.val : Int) 15 = ((n.val % 16 : Nat) : Int) := by decide +kernel
theorem and15' (x : UInt8) : bitop .and .u8 (x.toNat : Int) 15 = ((x.toNat % 16 : Nat) : Int) := and15 ⟨x.toNat, UInt8.toNat_lt x⟩
theorem dgE_child (d : List UInt8) (i : Nat) (h : i < d.length) : childE i (dgE d) = .int (d.getD i 0).toNat := by simp [dgE, childE, List.getD, h, byteE]
theorem hex_idx (n : Nat) (h : n < 16) : (hexC.getD n 0).toNat = (hx n).toNat := rfl
def ab (i : Nat) : T := if i = 0 then .e .nilp else .ptr 1 []

theorem text_ok (d : List UInt8) (hd : d.length = 32) : FnOk Tryd.prog tb 13 [30] [9] [dgE d] [.str (txt d 32)] := by
  refine FnOk_of_V (fn := Tryd.f13) (bt := 4) (ok 0 _) Tryd.func13 rfl rfl rfl (by decide) fun hw => ?_
  clear hw
  apply V_of_VX
  refine VX_go4 (fs := []) (ok 0 _) eqs trivial 100 [] rfl trivial ?_
  refine VX_promM (ok 0 _) rfl 1 [1] rfl rfl rfl rfl rfl ?_
  refine VX_loopA (fun i : Nat => i ≤ 32) (fun i => [(7, .t 3 (.e (.int i))), (6, .t 30 (.e (dgE d))), (3, .ptr 1 [])])
    (fun i => [.tree 30 (.e (dgE d)), .tree 60 (.st [ab i, .msl 2 ((txt d i).map byteE).length]), .mrow 5 true ((txt d i).map byteE)]) (fun i => 32 - i) 0 (by simp) ?_ ?_
  · exact wk1 rfl rfl (by simp [Blk.under, T.under, T.unders, ab]) (lc (ls rfl rfl) (lc (ls rfl rfl) (lc (ls rfl rfl) lnil)))
  · intro i hi
    have htl := txt_length d i
    have hab : ab i = .e .nilp ∨ ab i = .ptr 1 [] := by unfold ab; split <;> simp
    have hab1 : ab (i + 1) = .ptr 1 [] := by simp [ab]
    generalize hbs : (txt d i).map byteE = bs
    have hbl : bs.length ≤ 100 := by rw [← hbs]; simp; omega
    refine VX_go4 (fs := []) (ok 0 _) eqs trivial 100 [] rfl trivial ?_
    refine VX_split 8 rfl rfl (fun h => ?_) (fun h => ?_)
    · have hi : i < 32 := by simp at h; omega
      have ei : IntKind.wrap .i64 ((i : Int) + 1) = ((i + 1 : Nat) : Int) := by rw [w64 (by omega) (by omega)]; simp
      refine VX_go4 (fs := []) (ok 0 _) eqs trivial 100 [5] rfl (by simp [allP]; omega) ?_
      refine VX_eq 9 rfl rfl (d' := .t 5 (.e (.int (d.getD i 0).toNat))) (congrArg (fun x => D.t 5 (.e x)) (dgE_child d i (by omega))) ?_
      have hbs' : (txt d (i + 1)).map byteE = (bs ++ [byteE (hx ((d.getD i 0).toNat / 16))]) ++ [byteE (hx ((d.getD i 0).toNat % 16))] := by rw [← hbs]; simp [txt]
      have hx256 : (d.getD i 0).toNat < 256 := UInt8.toNat_lt _
      have e11 := shr4 (d.getD i 0)
      have e15 := and15' (d.getD i 0)
      generalize (d.getD i 0).toNat = x at hbs' hx256 e11 e15 ⊢
      refine VX_go4 (fs := []) (ok 0 _) eqs trivial 100 [12] rfl (by simp [allP, arithP]) ?_
      refine VX_eq 11 rfl rfl (d' := .t 5 (.e (.int (x / 16 : Nat)))) (congrArg (fun x => D.t 5 (.e (.int x))) e11) ?_
      refine VX_go4 (fs := []) (ok 0 _) eqs trivial 100 [13] rfl (by simp [allP]; omega) ?_
      refine VX_eq 12 rfl rfl (d' := .t 5 (.e (byteE (hx (x / 16))))) rfl ?_
      rcases hab with e | e
      all_goals
        rw [e]
        refine VX_callD (ok 0 _) [58, 5] [1, 2] rfl rfl rfl rfl rfl rfl (writeB_ok _ (by simp) bs (hx (x / 16)) (by omega)) rfl rfl rfl ?_
        refine VX_go4 (fs := []) (ok 0 _) eqs trivial 100 [16] rfl (by simp [allP, arithP]) ?_
        refine VX_eq 15 rfl rfl (d' := .t 5 (.e (.int (x % 16 : Nat)))) (congrArg (fun x => D.t 5 (.e (.int x))) e15) ?_
        refine VX_go4 (fs := []) (ok 0 _) eqs trivial 100 [17] rfl (by simp [allP]; omega) ?_
        refine VX_eq 16 rfl rfl (d' := .t 5 (.e (byteE (hx (x % 16))))) rfl ?_
        refine VX_callD (ok 0 _) [58, 5] [1, 2] rfl rfl rfl rfl rfl rfl (writeB_ok _ (by simp) (bs ++ [byteE (hx (x / 16))]) (hx (x % 16)) (by simp; omega)) rfl rfl rfl ?_
        refine VX_go4 (fs := []) (ok 0 _) eqs trivial 100 [] rfl trivial ?_
        refine loop_nrm ⟨i + 1, by omega, by omega, ?_⟩
        exact wk1 (by rw [hab1, hbs']) rfl (by simp [hab1, Blk.under, T.under, T.unders]) (lc (li (by rw [ei])) (lc (ls rfl rfl) (lc (ls rfl rfl) lnil)))
    · have hi' : i = 32 := by simp at h; omega
      subst hi'
      refine VX_go4 (fs := []) (ok 0 _) eqs trivial 100 [] rfl trivial ?_
      apply loop_brk
      refine VX_go4 (fs := []) (ok 0 _) eqs trivial 100 [] rfl trivial ?_
      rw [show ab 32 = .ptr 1 [] from rfl]
      refine VX_callD (ok 0 _) [58] [1, 2] rfl rfl rfl rfl rfl rfl (string_ok _ (by simp) bs) rfl rfl rfl ?_
      refine VX_go4 (fs := []) (ok 0 _) eqs trivial 100 [] rfl trivial ?_
      refine ⟨.inr rfl, ?_⟩
      have : bs.map byteOf = txt d 32 := by rw [← hbs, map_byteOf]
      rw [← this]; rfl

theorem hexS (n : Nat) (h : n < 16) : (hexC.take (n + 1)).drop n = [hx n] := by
  have : n = 0 ∨ n = 1 ∨ n = 2 ∨ n = 3 ∨ n = 4 ∨ n = 5 ∨ n = 6 ∨ n = 7 ∨ n = 8 ∨ n = 9 ∨ n = 10 ∨ n = 11 ∨ n = 12 ∨ n = 13 ∨ n = 14 ∨ n = 15 := by omega
  rcases this with rfl | rfl | rfl | rfl | rfl | rfl | rfl | rfl | rfl | rfl | rfl | rfl | rfl | rfl | rfl | rfl <;> rfl
theorem u8n (n : Nat) (h : n < 256) : IntKind.wrap .u8 (n : Int) = n := by rw [wrap_eq]; simp; omega
theorem rtext_ok (d : List UInt8) (hd : d.length = 32) : FnOk Tryd.prog tb 14 [30] [9] [dgE d] [.str (txt d 32)] := by
  refine FnOk_of_V (fn := Tryd.f14) (bt := 4) (ok 0 _) Tryd.func14 rfl rfl rfl (by decide) fun hw => ?_
  clear hw
  apply V_of_VX
  refine VX_go4 (fs := []) (ok 0 _) eqs trivial 100 [] rfl trivial ?_
  refine VX_loopA (fun i : Nat => i ≤ 32) (fun i => [(4, .t 3 (.e (.int i))), (3, .t 9 (.e (.str (txt d i)))), (1, .ptr 0 [])])
    (fun i => [.tree 30 (.e (dgE d))]) (fun i => 32 - i) 0 (by simp) ?_ ?_
  · exact wk1 rfl rfl (by simp [Blk.under, T.under]) (lc (ls rfl rfl) (lc (ls rfl rfl) (lc (ls rfl rfl) lnil)))
  · intro i hi
    have htl := txt_length d i
    refine VX_go4 (fs := []) (ok 0 _) eqs trivial 100 [] rfl trivial ?_
    refine VX_split 6 rfl rfl (fun h => ?_) (fun h => ?_)
    · have hi : i < 32 := by simp at h; omega
      have ei : IntKind.wrap .i64 ((i : Int) + 1) = ((i + 1 : Nat) : Int) := by rw [w64 (by omega) (by omega)]; simp
      have hn : txt d (i + 1) = (txt d i ++ [hx ((d.getD i 0).toNat / 16)]) ++ [hx ((d.getD i 0).toNat % 16)] := by simp [txt]
      generalize txt d i = s at htl hn
      have hx256 : (d.getD i 0).toNat < 256 := UInt8.toNat_lt _
      have hch := dgE_child d i (by omega)
      generalize (d.getD i 0).toNat = x at hn hx256 hch ⊢
      have eq16 : IntKind.wrap .u8 (Int.tdiv (x : Int) 16) = ((x / 16 : Nat) : Int) := by rw [Int.tdiv_eq_ediv_of_nonneg (by omega)]; rw [show (x : Int) / 16 = ((x / 16 : Nat) : Int) by simp, u8n _ (by omega)]
      have er16 : Int.tmod (x : Int) 16 = ((x % 16 : Nat) : Int) := by rw [Int.tmod_eq_emod_of_nonneg (by omega)]; simp
      have e1 : ∀ n : Nat, n < 16 → IntKind.wrap .u8 ((n : Int) + 1) = ((n + 1 : Nat) : Int) := fun n h => by rw [show (n : Int) + 1 = ((n + 1 : Nat) : Int) by simp, u8n _ (by omega)]
      refine VX_go4 (fs := []) (ok 0 _) eqs trivial 100 [] rfl trivial ?_
      refine VX_draw [] [(0, true), (1, true), (2, true), (3, true), (4, true), (5, true), (6, true), (7, true), (8, true), (9, true), (10, true), (11, true), (12, true), (13, true), (14, true), (15, true), (16, true), (17, true), (18, true), (19, true), (20, true), (21, true), (22, true), (23, true)] mixed (by kernel_rfl) (by kernel_rfl) (by kernel_rfl) ?_
      refine VX_go4 (fs := []) (ok 0 _) eqs trivial 100 [13] rfl (by simp [allP]; omega) ?_
      refine VX_eq 12 rfl rfl (d' := .t 5 (.e (.int x))) (congrArg (fun x => D.t 5 (.e x)) hch) ?_
      refine VX_go4 (fs := []) (ok 0 _) eqs trivial 100 [14] rfl (by simp [allP, arithP]) ?_
      refine VX_eq 13 rfl rfl (d' := .t 5 (.e (.int (x / 16 : Nat)))) (congrArg (fun x => D.t 5 (.e (.int x))) eq16) ?_
      refine VX_go4 (fs := []) (ok 0 _) eqs trivial 100 [17] rfl (by simp [allP]; omega) ?_
      refine VX_eq 16 rfl rfl (d' := .t 5 (.e (.int x))) (congrArg (fun x => D.t 5 (.e x)) hch) ?_
      refine VX_go4 (fs := []) (ok 0 _) eqs trivial 100 [18] rfl (by simp [allP, arithP]) ?_
      refine VX_eq 17 rfl rfl (d' := .t 5 (.e (.int (x / 16 : Nat)))) (congrArg (fun x => D.t 5 (.e (.int x))) eq16) ?_
      refine VX_go4 (fs := []) (ok 0 _) eqs trivial 100 [19] rfl trivial ?_
      refine VX_eq 18 rfl rfl (d' := .t 5 (.e (.int (x / 16 + 1 : Nat)))) (congrArg (fun x => D.t 5 (.e (.int x))) (e1 _ (by omega))) ?_
      refine VX_go4 (fs := []) (ok 0 _) eqs trivial 100 [20] rfl (by simp [allP]; omega) ?_
      refine VX_eq 19 rfl rfl (d' := .t 9 (.e (.str [hx (x / 16)]))) (congrArg (fun x => D.t 9 (.e (.str x))) (hexS (x / 16) (by omega))) ?_
      refine VX_go4 (fs := []) (ok 0 _) eqs trivial 100 [24] rfl (by simp [allP, maxI, htl]; omega) ?_
      refine VX_eq 23 rfl rfl (d' := .t 5 (.e (.int x))) (congrArg (fun x => D.t 5 (.e x)) hch) ?_
      refine VX_go4 (fs := []) (ok 0 _) eqs trivial 100 [25] rfl (by simp [allP, arithP]) ?_
      refine VX_eq 24 rfl rfl (d' := .t 5 (.e (.int (x % 16 : Nat)))) (congrArg (fun x => D.t 5 (.e (.int x))) er16) ?_
      refine VX_go4 (fs := []) (ok 0 _) eqs trivial 100 [28] rfl (by simp [allP]; omega) ?_
      refine VX_eq 27 rfl rfl (d' := .t 5 (.e (.int x))) (congrArg (fun x => D.t 5 (.e x)) hch) ?_
      refine VX_go4 (fs := []) (ok 0 _) eqs trivial 100 [29] rfl (by simp [allP, arithP]) ?_
      refine VX_eq 28 rfl rfl (d' := .t 5 (.e (.int (x % 16 : Nat)))) (congrArg (fun x => D.t 5 (.e (.int x))) er16) ?_
      refine VX_go4 (fs := []) (ok 0 _) eqs trivial 100 [30] rfl trivial ?_
      refine VX_eq 29 rfl rfl (d' := .t 5 (.e (.int (x % 16 + 1 : Nat)))) (congrArg (fun x => D.t 5 (.e (.int x))) (e1 _ (by omega))) ?_
      refine VX_go4 (fs := []) (ok 0 _) eqs trivial 100 [31] rfl (by simp [allP]; omega) ?_
      refine VX_eq 30 rfl rfl (d' := .t 9 (.e (.str [hx (x % 16)]))) (congrArg (fun x => D.t 9 (.e (.str x))) (hexS (x % 16) (by omega))) ?_
      refine VX_go4 (fs := []) (ok 0 _) eqs trivial 100 [] rfl (by simp [allP, maxI, htl]; omega) ?_
      refine loop_nrm ⟨i + 1, by omega, by omega, ?_⟩
      exact wk1 rfl rfl (by simp [Blk.under, T.under]) (lc (li (by rw [ei])) (lc (ls (by rw [hn]; rfl) rfl) (lc (ls rfl rfl) lnil)))
    · have hi' : i = 32 := by simp at h; omega
      subst hi'
      refine VX_go4 (fs := []) (ok 0 _) eqs trivial 100 [] rfl trivial ?_
      apply loop_brk
      refine VX_go4 (fs := []) (ok 0 _) eqs trivial 100 [] rfl trivial ?_
      exact ⟨.inr rfl, rfl⟩

set_option maxRecDepth 100000 in
theorem abcD : txt (shaB [97, 98, 99]) 32 = [98, 97, 55, 56, 49, 54, 98, 102, 56, 102, 48, 49, 99, 102, 101, 97, 52, 49, 52, 49, 52, 48, 100, 101, 53, 100, 97, 101, 50, 50, 50, 51, 98, 48, 48, 51, 54, 49, 97, 51, 57, 54, 49, 55, 55, 97, 57, 99, 98, 52, 49, 48, 102, 102, 54, 49, 102, 50, 48, 48, 49, 53, 97, 100] := by decide +kernel
theorem shaB_length (s : List UInt8) : (shaB s).length = 32 := digL_length _ _
theorem awake_ok : FnOk Tryd.prog tb 8 [] [4] [] [.bool true] := by
  refine FnOk_of_V (fn := Tryd.f8) (bt := 4) (ok 0 _) Tryd.func8 rfl rfl rfl (by decide) fun hw => ?_
  clear hw
  apply V_of_VX
  have c1 := (sum_ok [[97, 98, 99]] (by decide) (by simp)).g
  rw [sum1 _ (by decide)] at c1
  refine VX_go4 (fs := []) (ok 0 _) eqs trivial 100 [] rfl trivial ?_
  refine VX_callD (ok 0 _) [46] [] rfl rfl rfl rfl rfl rfl c1 rfl rfl rfl ?_
  refine VX_go4 (fs := []) (ok 0 _) eqs trivial 100 [] rfl trivial ?_
  refine VX_callD (ok 0 _) [30] [] rfl rfl rfl rfl rfl rfl (text_ok (shaB [97, 98, 99]) (shaB_length _)).g rfl rfl rfl ?_
  rw [abcD]
  refine VX_go4 (fs := []) (ok 0 _) eqs trivial 100 [] rfl trivial ?_
  exact ⟨.inr rfl, rfl⟩
end Go.Den.Q01
/- Law 01: ShaBlocks, ShaSums. -/
namespace Go.Den.Q01
open Go Go.Den Go.Proofs
set_option maxRecDepth 8000
set_option linter.unusedVariables false
set_option linter.unusedSimpArgs false

theorem list8 {α : Type} {l : List α} (h : l.length = 8) : ∃ a b c d e f g i, l = [a, b, c, d, e, f, g, i] := by
  match l, h with | [a, b, c, d, e, f, g, i], _ => exact ⟨a, b, c, d, e, f, g, i, rfl⟩
theorem wt_words {x : E} (h : Wt tb 23 x) : ∃ S : S8, x = S.E := by
  obtain ⟨l, rfl, hl, hw⟩ := wt_arr h rfl
  obtain ⟨a, b, c, d, e, f, g, i, rfl⟩ := list8 hl
  obtain ⟨n0, rfl, _⟩ := wt_int (hw a (by simp)) (k := .u32) rfl
  obtain ⟨n1, rfl, _⟩ := wt_int (hw b (by simp)) (k := .u32) rfl
  obtain ⟨n2, rfl, _⟩ := wt_int (hw c (by simp)) (k := .u32) rfl
  obtain ⟨n3, rfl, _⟩ := wt_int (hw d (by simp)) (k := .u32) rfl
  obtain ⟨n4, rfl, _⟩ := wt_int (hw e (by simp)) (k := .u32) rfl
  obtain ⟨n5, rfl, _⟩ := wt_int (hw f (by simp)) (k := .u32) rfl
  obtain ⟨n6, rfl, _⟩ := wt_int (hw g (by simp)) (k := .u32) rfl
  obtain ⟨n7, rfl, _⟩ := wt_int (hw i (by simp)) (k := .u32) rfl
  exact ⟨⟨n0, n1, n2, n3, n4, n5, n6, n7⟩, rfl⟩
theorem eqS8 (S : S8) : eqE S.E S.E = true := by simp [S8.E, eqE, eqEs]
theorem eqBytes : ∀ l : List UInt8, eqEs (l.map byteE) (l.map byteE) = true
  | [] => by simp [eqEs]
  | b :: l => by simp [eqEs, eqE, byteE, eqBytes l]
theorem eqDg (d : List UInt8) : eqE (dgE d) (dgE d) = true := by simp [dgE, eqE, eqBytes d]
theorem eqSt (S : S8) (r : List UInt8) (n : Nat) : eqE (stE S r n) (stE S r n) = true := by simp [stE, eqE, eqEs, S8.E]

theorem blocks_ok (x0 x1 : E) : FnOk Tryd.prog tb 3 [23, 9] [4] [x0, x1] [.bool true] := by
  refine FnOk_of_V (fn := Tryd.f3) (bt := 4) (ok 0 _) Tryd.func3 rfl rfl rfl (by decide) fun hw => ?_
  obtain ⟨S, rfl⟩ := wt_words (hw 0 _ x0 rfl rfl)
  obtain ⟨s, rfl⟩ := wt_str (hw 1 _ x1 rfl rfl) rfl
  clear hw
  apply V_of_VX
  refine VX_go4 (fs := []) (ok 0 _) eqs trivial 100 [] rfl trivial ?_
  refine VX_callD (ok 0 _) [] [] rfl rfl rfl rfl rfl rfl awake_ok.g rfl rfl rfl ?_
  refine VX_go4 (fs := []) (ok 0 _) eqs trivial 100 [] rfl trivial ?_
  refine VX_known 6 false rfl rfl rfl ?_
  refine VX_go4 (fs := []) (ok 0 _) eqs trivial 100 [] rfl trivial ?_
  refine VX_split 9 rfl rfl (fun h => ?_) (fun h => ?_)
  · refine VX_go4 (fs := []) (ok 0 _) eqs trivial 100 [] rfl trivial ?_
    refine VX_callD (ok 0 _) [] [] rfl rfl rfl rfl rfl rfl awake_ok.g rfl rfl rfl ?_
    refine VX_go4 (fs := []) (ok 0 _) eqs trivial 100 [] rfl trivial ?_
    exact ⟨.inr rfl, rfl⟩
  · refine VX_go4 (fs := []) (ok 0 _) eqs trivial 100 [] rfl trivial ?_
    refine VX_draw [] [(0, false), (1, true), (2, true), (3, true), (5, true), (6, true), (4, false), (7, false), (8, false), (9, true), (10, true), (11, true)] mixed (by kernel_rfl) (by kernel_rfl) (by kernel_rfl) ?_
    refine VX_callO (ok 0 _) [] [] rfl rfl rfl rfl rfl rfl rfl rfl awake_ok.g rfl rfl rfl ?_
    refine VX_go4 (fs := []) (ok 0 _) eqs trivial 100 [] rfl trivial ?_
    refine VX_known 12 true rfl rfl rfl ?_
    refine VX_go4 (fs := []) (ok 0 _) eqs trivial 100 [] rfl trivial ?_
    refine VX_callBytes (ok 0 _) rfl rfl (by kernel_rfl) rfl rfl rfl rfl rfl rfl rfl rfl rfl (block_ok s S) rfl rfl rfl rfl rfl rfl rfl rfl rfl rfl ?_
    refine VX_callO (ok 0 _) [23, 27] [] rfl rfl rfl rfl rfl rfl rfl rfl (rblock_ok s S).g rfl rfl rfl ?_
    refine VX_go4 (fs := []) (ok 0 _) eqs trivial 100 [21] rfl trivial ?_
    refine VX_known 20 true rfl rfl (eqS8 _) ?_
    refine VX_go4 (fs := []) (ok 0 _) eqs trivial 100 [] rfl trivial ?_
    exact ⟨.inr rfl, rfl⟩

theorem sums_ok (x0 : E) : FnOk Tryd.prog tb 4 [9] [4] [x0] [.bool true] := by
  refine FnOk_of_V (fn := Tryd.f4) (bt := 4) (ok 0 _) Tryd.func4 rfl rfl rfl (by decide) fun hw => ?_
  obtain ⟨s, rfl⟩ := wt_str (hw 0 _ x0 rfl rfl) rfl
  clear hw
  apply V_of_VX
  refine VX_go4 (fs := []) (ok 0 _) eqs trivial 100 [] rfl trivial ?_
  refine VX_callD (ok 0 _) [] [] rfl rfl rfl rfl rfl rfl awake_ok.g rfl rfl rfl ?_
  refine VX_go4 (fs := []) (ok 0 _) eqs trivial 100 [] rfl trivial ?_
  refine VX_known 5 false rfl rfl rfl ?_
  refine VX_go4 (fs := []) (ok 0 _) eqs trivial 100 [] rfl trivial ?_
  refine VX_split 8 rfl rfl (fun h => ?_) (fun h => ?_)
  · refine VX_go4 (fs := []) (ok 0 _) eqs trivial 100 [] rfl trivial ?_
    refine VX_callD (ok 0 _) [] [] rfl rfl rfl rfl rfl rfl awake_ok.g rfl rfl rfl ?_
    refine VX_go4 (fs := []) (ok 0 _) eqs trivial 100 [] rfl trivial ?_
    exact ⟨.inr rfl, rfl⟩
  · have hs : s.length ≤ 20000 := by simp at h; omega
    have c1 := (sum_ok [s] (by simp) (by simp; omega)).g
    rw [sum1 _ (by omega)] at c1
    refine VX_go4 (fs := []) (ok 0 _) eqs trivial 100 [] rfl trivial ?_
    refine VX_callD (ok 0 _) [46] [] rfl rfl rfl rfl rfl rfl c1 rfl rfl rfl ?_
    refine VX_go4 (fs := []) (ok 0 _) eqs trivial 100 [] rfl trivial ?_
    refine VX_draw [] [(0, false), (1, true), (2, true), (3, true), (4, false), (5, true), (6, true), (7, true), (8, true), (10, true), (9, false), (11, false), (12, true), (13, true), (14, true)] mixed (by kernel_rfl) (by kernel_rfl) (by kernel_rfl) ?_
    refine VX_callO (ok 0 _) [] [] rfl rfl rfl rfl rfl rfl rfl rfl awake_ok.g rfl rfl rfl ?_
    refine VX_go4 (fs := []) (ok 0 _) eqs trivial 100 [] rfl trivial ?_
    refine VX_known 14 true rfl rfl rfl ?_
    refine VX_go4 (fs := []) (ok 0 _) eqs trivial 100 [] rfl trivial ?_
    refine VX_callO (ok 0 _) [9] [] rfl rfl rfl rfl rfl rfl rfl rfl (rsum_ok s (by omega)).g rfl rfl rfl ?_
    refine VX_go4 (fs := []) (ok 0 _) eqs trivial 100 [19] rfl trivial ?_
    refine VX_known 18 true rfl rfl (eqDg _) ?_
    refine VX_go4 (fs := []) (ok 0 _) eqs trivial 100 [] rfl trivial ?_
    refine VX_callO (ok 0 _) [30] [] rfl rfl rfl rfl rfl rfl rfl rfl (text_ok (shaB s) (shaB_length s)).g rfl rfl rfl ?_
    refine VX_go4 (fs := []) (ok 0 _) eqs trivial 100 [] rfl trivial ?_
    refine VX_callO (ok 0 _) [30] [] rfl rfl rfl rfl rfl rfl rfl rfl (rtext_ok (shaB s) (shaB_length s)).g rfl rfl rfl ?_
    refine VX_go4 (fs := []) (ok 0 _) eqs trivial 100 [26] rfl trivial ?_
    refine VX_known 25 true rfl rfl (by simp) ?_
    refine VX_go4 (fs := []) (ok 0 _) eqs trivial 100 [] rfl trivial ?_
    exact ⟨.inr rfl, rfl⟩
end Go.Den.Q01
/- Law 01: ShaStates. -/
namespace Go.Den.Q01
open Go Go.Den Go.Proofs
set_option maxRecDepth 8000
set_option linter.unusedVariables false
set_option linter.unusedSimpArgs false

theorem wt_u64 {t : TypeId} {x : E} (h : Wt tb t x) (ht : td tb t = .int .u64) : ∃ n : Nat, x = .int n ∧ n < 18446744073709551616 := by
  obtain ⟨n, rfl, hn⟩ := wt_int h ht
  simp only [inR, Bool.and_eq_true, decide_eq_true_eq] at hn
  exact ⟨n.toNat, by congr 1; omega, by omega⟩
theorem wt_state {x : E} (h : Wt tb 37 x) : ∃ S r n, x = stE S r n ∧ n < 18446744073709551616 := by
  obtain ⟨l, rfl, hl, hw⟩ := wt_st h rfl
  obtain ⟨a, b, c, rfl⟩ := list3 hl
  obtain ⟨S, rfl⟩ := wt_words (hw 0 _ a rfl rfl)
  obtain ⟨r, rfl⟩ := wt_str (hw 1 _ b rfl rfl) rfl
  obtain ⟨n, rfl, hn⟩ := wt_u64 (hw 2 _ c rfl rfl) rfl
  exact ⟨S, r, n, rfl, hn⟩

set_option maxHeartbeats 1600000 in
theorem states_ok (x0 x1 : E) : FnOk Tryd.prog tb 5 [37, 9] [4] [x0, x1] [.bool true] := by
  refine FnOk_of_V (fn := Tryd.f5) (bt := 4) (ok 0 _) Tryd.func5 rfl rfl rfl (by decide) fun hw => ?_
  obtain ⟨S, r, n, rfl, hn⟩ := wt_state (hw 0 _ x0 rfl rfl)
  obtain ⟨s, rfl⟩ := wt_str (hw 1 _ x1 rfl rfl) rfl
  clear hw
  apply V_of_VX
  refine VX_go4 (fs := []) (ok 0 _) eqs trivial 100 [] rfl trivial ?_
  refine VX_callD (ok 0 _) [] [] rfl rfl rfl rfl rfl rfl awake_ok.g rfl rfl rfl ?_
  refine VX_go4 (fs := []) (ok 0 _) eqs trivial 100 [] rfl trivial ?_
  refine VX_known 9 false rfl rfl rfl ?_
  refine VX_go4 (fs := []) (ok 0 _) eqs trivial 100 [] rfl trivial ?_
  have hsm : ∀ {b : Prop}, (b ↔ (5000 < r.length ∨ 5000 < s.length)) → (b ∨ (r.length ≤ 5000 ∧ s.length ≤ 5000)) := fun h => by
    by_cases h1 : 5000 < r.length ∨ 5000 < s.length
    · exact .inl (h.2 h1)
    · exact .inr (by omega)
  refine VX_split 14 rfl rfl (fun h => ?_) (fun h => ?_)
  · refine VX_go4 (fs := []) (ok 0 _) eqs trivial 100 [] rfl trivial ?_
    refine VX_callD (ok 0 _) [] [] rfl rfl rfl rfl rfl rfl awake_ok.g rfl rfl rfl ?_
    refine VX_go4 (fs := []) (ok 0 _) eqs trivial 100 [] rfl trivial ?_
    exact ⟨.inr rfl, rfl⟩
  have hr5 : r.length ≤ 5000 := by simp at h; omega
  clear h
  refine VX_go4 (fs := []) (ok 0 _) eqs trivial 100 [] rfl trivial ?_
  refine VX_split 18 rfl rfl (fun h => ?_) (fun h => ?_)
  · refine VX_go4 (fs := []) (ok 0 _) eqs trivial 100 [] rfl trivial ?_
    refine VX_callD (ok 0 _) [] [] rfl rfl rfl rfl rfl rfl awake_ok.g rfl rfl rfl ?_
    refine VX_go4 (fs := []) (ok 0 _) eqs trivial 100 [] rfl trivial ?_
    exact ⟨.inr rfl, rfl⟩
  have hs5 : s.length ≤ 5000 := by simp at h; omega
  clear h
  refine VX_go4 (fs := []) (ok 0 _) eqs trivial 100 [] rfl trivial ?_
  refine VX_callD (ok 0 _) [37, 9] [] rfl rfl rfl rfl rfl rfl (add_ok S r s n (by omega) (by omega) hn).g rfl rfl rfl ?_
  refine VX_go4 (fs := []) (ok 0 _) eqs trivial 100 [] rfl (by simp [allP, maxI]; omega) ?_
  refine VX_op rfl rfl (OpV_bytes (ok 0 _) rfl rfl rfl rfl rfl rfl) ?_
  rintro d s' ⟨rfl, rfl⟩
  refine VX_go4 (fs := []) (ok 0 _) eqs trivial 100 [] rfl trivial ?_
  refine VX_callD (ok 0 _) [23, 27] [] rfl rfl rfl rfl rfl rfl (after_ok S (r ++ s) (by simp; omega)).g rfl rfl rfl ?_
  refine VX_go4 (fs := []) (ok 0 _) eqs trivial 100 [] rfl trivial ?_
  have e45 : ((aft S (r ++ s)).2.map byteE).map byteOf = (aft S (r ++ s)).2 := map_byteOf _
  generalize (aft S (r ++ s)).1 = A at e45 ⊢
  generalize (aft S (r ++ s)).2 = r2 at e45 ⊢
  have e56 : IntKind.wrap .u64 ((n : Int) + IntKind.wrap .u64 (s.length : Int)) = ((((n + s.length) % 18446744073709551616 : Nat)) : Int) := by rw [wrap_eq, wrap_eq]; simp
  refine VX_draw [] [(0, false), (1, true), (2, true), (3, true), (4, true), (5, true), (6, true), (7, true), (8, true), (9, true), (10, true), (11, true), (12, true), (13, true), (14, true), (15, true), (16, true), (17, true), (18, true), (19, true), (20, true), (21, true), (22, true), (23, true), (24, true), (25, true), (26, true), (28, true), (29, true), (30, true), (31, true), (33, true), (34, true), (27, false), (32, false), (35, false), (36, true), (37, true), (38, true), (39, false), (40, false), (41, true), (42, true), (43, true), (44, true)] mixed (by kernel_rfl) (by kernel_rfl) (by kernel_rfl) ?_
  refine VX_callO (ok 0 _) [] [] rfl rfl rfl rfl rfl rfl rfl rfl awake_ok.g rfl rfl rfl ?_
  refine VX_go4 (fs := []) (ok 0 _) eqs trivial 100 [] rfl trivial ?_
  refine VX_known 35 true rfl rfl rfl ?_
  refine VX_go4 (fs := []) (ok 0 _) eqs trivial 100 [40] rfl trivial ?_
  refine VX_known 39 true rfl rfl (eqS8 _) ?_
  refine VX_go4 (fs := []) (ok 0 _) eqs trivial 100 [46] rfl trivial ?_
  refine VX_eq 45 rfl rfl (d' := .t 9 (.e (.str r2))) (congrArg (fun x => D.t 9 (.e (.str x))) e45) ?_
  refine VX_go4 (fs := []) (ok 0 _) eqs trivial 100 [47] rfl trivial ?_
  refine VX_known 46 true rfl rfl (by simp) ?_
  refine VX_go4 (fs := []) (ok 0 _) eqs trivial 100 [57] rfl trivial ?_
  refine VX_eq 56 rfl rfl (d' := .t 35 (.e (.int ((n + s.length) % 18446744073709551616 : Nat)))) (congrArg (fun x => D.t 35 (.e (.int x))) e56) ?_
  refine VX_go4 (fs := []) (ok 0 _) eqs trivial 100 [58] rfl trivial ?_
  refine VX_known 57 true rfl rfl (by simp) ?_
  refine VX_go4 (fs := []) (ok 0 _) eqs trivial 100 [] rfl trivial ?_
  refine VX_callBytes (ok 0 _) rfl rfl (by kernel_rfl) rfl rfl rfl rfl rfl rfl rfl rfl rfl (end_ok S r n (by omega) hn) rfl rfl rfl rfl rfl rfl rfl rfl rfl rfl ?_
  refine VX_callO (ok 0 _) [23, 27, 35] [] rfl rfl rfl rfl rfl rfl rfl rfl (rend_ok S r n (by omega) hn).g rfl rfl rfl ?_
  refine VX_go4 (fs := []) (ok 0 _) eqs trivial 100 [71] rfl trivial ?_
  refine VX_known 70 true rfl rfl (eqDg _) ?_
  refine VX_go4 (fs := []) (ok 0 _) eqs trivial 100 [] rfl trivial ?_
  refine VX_callO (ok 0 _) [] [] rfl rfl rfl rfl rfl rfl rfl rfl begin_ok.g rfl rfl rfl ?_
  refine VX_go4 (fs := []) (ok 0 _) eqs trivial 100 [] rfl trivial ?_
  refine VX_callO (ok 0 _) [] [] rfl rfl rfl rfl rfl rfl rfl rfl first_ok.g rfl rfl rfl ?_
  refine VX_go4 (fs := []) (ok 0 _) eqs trivial 100 [77] rfl trivial ?_
  refine VX_known 76 true rfl rfl (eqSt _ _ _) ?_
  refine VX_go4 (fs := []) (ok 0 _) eqs trivial 100 [] rfl trivial ?_
  exact ⟨.inr rfl, rfl⟩
end Go.Den.Q01
/- Law 01: ShaParts. -/
namespace Go.Den.Q01
open Go Go.Den Go.Proofs
set_option maxRecDepth 8000
set_option linter.unusedVariables false
set_option linter.unusedSimpArgs false

theorem aft_app : ∀ (n : Nat) (S : S8) (x q : List UInt8), x.length ≤ n → aft S (x ++ q) = aft (aft S x).1 ((aft S x).2 ++ q) := by
  intro n
  induction n with
  | zero =>
    intro S x q h
    have hx : x = [] := List.length_eq_zero_iff.1 (by omega)
    subst hx
    rw [aft_small S [] (by simp)]
  | succ n ih =>
    intro S x q h
    by_cases h64 : 64 ≤ x.length
    · rw [← aft_step S x h64, ← aft_step S (x ++ q) (by simp; omega), List.take_append_of_le_length h64, List.drop_append_of_le_length h64]
      exact ih _ _ _ (by simp; omega)
    · rw [aft_small S x (by omega)]
theorem stAdd_app (st : S8 × List UInt8 × Nat) (p q : List UInt8) : stAdd (stAdd st p) q = stAdd st (p ++ q) := by
  obtain ⟨S, r, n⟩ := st
  simp only [stAdd, ← List.append_assoc]
  rw [← aft_app _ S (r ++ p) q (Nat.le_refl _)]
  congr 2
  simp only [List.length_append]; omega
theorem sum_flat (p : List UInt8) (ps : List (List UInt8)) : ∀ st, ps.foldl stAdd (stAdd st p) = stAdd st (p ++ ps.flatten) := by
  induction ps generalizing p with
  | nil => intro st; simp
  | cons q ps ih =>
    intro st
    rw [List.foldl_cons, stAdd_app, ih]
    simp [List.flatten_cons, List.append_assoc]
theorem stAdd_nil (st : S8 × List UInt8 × Nat) (h : st.2.1.length < 64) (hn : st.2.2 < 18446744073709551616) : stAdd st [] = st := by
  obtain ⟨S, r, n⟩ := st
  simp only [stAdd, List.append_nil, List.length_nil, Nat.add_zero]
  rw [aft_small S r h, Nat.mod_eq_of_lt hn]
theorem sum_all (ps : List (List UInt8)) : sumSt ps = sumSt [ps.flatten] := by
  unfold sumSt
  have h := sum_flat [] ps (fS, [], 0)
  rw [stAdd_nil _ (by simp) (by simp)] at h
  rw [h]; simp

set_option maxHeartbeats 1600000 in
theorem parts_ok (x0 : E) : FnOk Tryd.prog tb 6 [46] [4] [x0] [.bool true] := by
  refine FnOk_of_V (fn := Tryd.f6) (bt := 4) (ok 0 _) Tryd.func6 rfl rfl rfl (by decide) fun hw => ?_
  obtain ⟨l, rfl, hl⟩ := wt_sl (hw 0 _ x0 rfl rfl) rfl
  obtain ⟨ps, rfl⟩ := map_ex fun y hy => wt_str (hl y hy) rfl
  clear hw hl
  apply V_of_VX
  refine VX_go4 (fs := []) (ok 0 _) eqs trivial 100 [] rfl trivial ?_
  refine VX_callD (ok 0 _) [] [] rfl rfl rfl rfl rfl rfl awake_ok.g rfl rfl rfl ?_
  refine VX_go4 (fs := []) (ok 0 _) eqs trivial 100 [] rfl trivial ?_
  refine VX_known 8 false rfl rfl rfl ?_
  refine VX_go4 (fs := []) (ok 0 _) eqs trivial 100 [] rfl trivial ?_
  refine VX_split 11 rfl rfl (fun h => ?_) (fun h => ?_)
  · refine VX_go4 (fs := []) (ok 0 _) eqs trivial 100 [] rfl trivial ?_
    refine VX_callD (ok 0 _) [] [] rfl rfl rfl rfl rfl rfl awake_ok.g rfl rfl rfl ?_
    refine VX_go4 (fs := []) (ok 0 _) eqs trivial 100 [] rfl trivial ?_
    exact ⟨.inr rfl, rfl⟩
  have hl : ps.length ≤ 60 := by simp at h; omega
  clear h
  refine VX_go4 (fs := []) (ok 0 _) eqs trivial 100 [] rfl trivial ?_
  refine VX_callD (ok 0 _) [] [] rfl rfl rfl rfl rfl rfl begin_ok.g rfl rfl rfl ?_
  refine VX_go4 (fs := []) (ok 0 _) eqs trivial 100 [] rfl trivial ?_
  refine VX_loopA (fun i : Nat => i ≤ ps.length ∧ ∀ p ∈ ps.take i, p.length ≤ 2000)
    (fun i => [(16, .t 3 (.e (.int i))), (15, .t 3 (.e (.int ps.length))), (14, .t 46 (.e (.sl (ps.map E.str)))), (4, .ptr 0 []), (3, .t 9 (.e (.str (ps.take i).flatten))), (0, .t 46 (.e (.sl (ps.map E.str))))])
    (fun i => [.tree 37 (.e (stE' (sumSt (ps.take i))))]) (fun i => ps.length - i) 0 ⟨by simp, by simp⟩ ?_ ?_
  · exact wk1 rfl rfl (by simp [Blk.under, T.under]) (lc (ls rfl rfl) (lc (li (by simp)) (lc (ls rfl rfl) (lc (ls rfl rfl) (lc (ls rfl rfl) (lc (ls rfl rfl) lnil))))))
  · rintro i ⟨hi, hp⟩
    have hfl : ∀ n (qs : List (List UInt8)), qs.length ≤ n → (∀ p ∈ qs, p.length ≤ 2000) → qs.flatten.length ≤ 2000 * n := by
      intro n qs
      induction qs generalizing n with
      | nil => intro _ _; simp
      | cons q qs ih =>
        intro h1 h2
        have := h2 q (by simp)
        have := ih (n - 1) (by simp at h1; omega) (fun p hp => h2 p (by simp [hp]))
        rw [List.flatten_cons, List.length_append]; simp at h1; omega
    have hfi := hfl 60 (ps.take i) (by simp; omega) hp
    refine VX_go4 (fs := []) (ok 0 _) eqs trivial 100 [] rfl trivial ?_
    refine VX_split 17 rfl rfl (fun h => ?_) (fun h => ?_)
    · have hi : i < ps.length := by simpa using h
      have ei : IntKind.wrap .i64 ((i : Int) + 1) = ((i + 1 : Nat) : Int) := by rw [w64 (by omega) (by omega)]; simp
      refine VX_go4 (fs := []) (ok 0 _) eqs trivial 100 [6] rfl (by simp [allP]; omega) ?_
      have hg : (ps.map E.str).getD i .nilp = .str ps[i] := by simp [List.getD, hi]
      refine VX_eq 19 rfl rfl (d' := .t 9 (.e (.str ps[i]))) (congrArg (fun x => D.t 9 (.e x)) hg) ?_
      have htk : ps.take (i + 1) = ps.take i ++ [ps[i]] := by rw [List.take_add_one, List.getElem?_eq_getElem hi]; rfl
      have hst' : stAdd (sumSt (ps.take i)) ps[i] = sumSt (ps.take (i + 1)) := by
        unfold sumSt
        rw [htk, List.foldl_append]; rfl
      have hfl' : (ps.take (i + 1)).flatten = (ps.take i).flatten ++ ps[i] := by rw [htk, List.flatten_append, List.flatten_cons, List.flatten_nil, List.append_nil]
      have hp' : ps[i].length ≤ 2000 → ∀ p ∈ ps.take (i + 1), p.length ≤ 2000 := fun h p hm => by
        rw [htk] at hm
        rcases List.mem_append.1 hm with hm | hm
        · exact hp p hm
        · rw [List.mem_singleton.1 hm]; exact h
      have hsm : (sumSt (ps.take i)).2.1.length < 64 ∧ (sumSt (ps.take i)).2.2 < 18446744073709551616 := by
        rw [sum_all]; exact stAdd_small _ _
      generalize hst : sumSt (ps.take i) = st at hst' hsm ⊢
      generalize ps[i] = p at hst' hfl' hp' ⊢
      generalize (ps.take i).flatten = al at hfl' hfi ⊢
      obtain ⟨S, r, n⟩ := st
      obtain ⟨hr, hn⟩ := hsm
      simp only at hr hn
      refine VX_go4 (fs := []) (ok 0 _) eqs trivial 100 [] rfl trivial ?_
      refine VX_split 22 rfl rfl (fun h => ?_) (fun h => ?_)
      · refine VX_go4 (fs := []) (ok 0 _) eqs trivial 100 [] rfl trivial ?_
        refine VX_callD (ok 0 _) [] [] rfl rfl rfl rfl rfl rfl awake_ok.g rfl rfl rfl ?_
        refine VX_go4 (fs := []) (ok 0 _) eqs trivial 100 [] rfl trivial ?_
        apply loop_ret
        exact ⟨.inr rfl, rfl⟩
      have hpl : p.length ≤ 2000 := by simp at h; omega
      refine VX_go4 (fs := []) (ok 0 _) eqs trivial 100 [] rfl (by simp [allP, maxI]; omega) ?_
      refine VX_callD (ok 0 _) [37, 9] [] rfl rfl rfl rfl rfl rfl (add_ok S r p n (by omega) (by omega) hn).g rfl rfl rfl ?_
      refine VX_go4 (fs := []) (ok 0 _) eqs trivial 100 [] rfl trivial ?_
      refine loop_nrm ⟨i + 1, by omega, ⟨by omega, hp' hpl⟩, ?_⟩
      exact wk1 (by rw [← hst']; rfl) rfl (by simp [Blk.under, T.under]) (lc (li (by rw [ei])) (lc (ls rfl rfl) (lc (ls rfl rfl) (lc (ls rfl rfl) (lc (ls (by rw [hfl']; rfl) rfl) (lc (ls rfl rfl) lnil))))))
    · have hi' : i = ps.length := by simp at h; omega
      subst hi'
      rw [List.take_length] at hp hfi ⊢
      have hsm := stAdd_small (fS, [], 0) ps.flatten
      have hse : sumSt ps = stAdd (fS, [], 0) ps.flatten := sum_all ps
      rw [← hse] at hsm
      have c1 := sum_ok ps (by omega) (fun p h => Nat.le_trans (hp p h) (by decide))
      have c2 := sum_ok [ps.flatten] (by simp) (fun p h => by rw [List.mem_singleton.1 h]; omega)
      rw [← sum_all] at c2
      generalize ps.flatten = al at c2 hfi ⊢
      have hnil := stAdd_nil (sumSt ps) hsm.1 hsm.2
      generalize sumSt ps = st at c1 c2 hsm hnil ⊢
      obtain ⟨S, r, n⟩ := st
      obtain ⟨hr, hn⟩ := hsm
      simp only at hr hn c1 c2
      have e1 : stE (aft S (r ++ [])).1 (aft S (r ++ [])).2 ((n + ([] : List UInt8).length) % 18446744073709551616) = stE S r n := congrArg stE' hnil
      have c3 := add_ok S r [] n (by omega) (by simp) hn
      rw [e1] at c3
      refine VX_go4 (fs := []) (ok 0 _) eqs trivial 100 [] rfl trivial ?_
      apply loop_brk
      refine VX_go4 (fs := []) (ok 0 _) eqs trivial 100 [] rfl trivial ?_
      refine VX_draw [] [(0, false), (1, true), (2, true), (4, true), (3, false), (5, false), (6, false), (7, true), (8, true), (9, true), (10, true), (12, true), (11, false), (13, false), (14, false), (15, true), (16, true), (17, true), (18, true), (20, true), (19, false), (21, true), (22, true), (23, true)] mixed (by kernel_rfl) (by kernel_rfl) (by kernel_rfl) ?_
      refine VX_callO (ok 0 _) [] [] rfl rfl rfl rfl rfl rfl rfl rfl awake_ok.g rfl rfl rfl ?_
      refine VX_go4 (fs := []) (ok 0 _) eqs trivial 100 [] rfl trivial ?_
      refine VX_known 32 true rfl rfl rfl ?_
      refine VX_go4 (fs := []) (ok 0 _) eqs trivial 100 [] rfl trivial ?_
      refine VX_callLit (ok 0 _) rfl rfl (by kernel_rfl) rfl rfl rfl rfl rfl rfl rfl rfl rfl c1 rfl rfl rfl rfl rfl rfl ?_
      refine VX_callO (ok 0 _) [46] [] rfl rfl rfl rfl rfl rfl rfl rfl c2.g rfl rfl rfl ?_
      refine VX_go4 (fs := []) (ok 0 _) eqs trivial 100 [39] rfl trivial ?_
      refine VX_known 38 true rfl rfl (eqDg _) ?_
      refine VX_go4 (fs := []) (ok 0 _) eqs trivial 100 [] rfl trivial ?_
      refine VX_callLit (ok 0 _) rfl rfl (by kernel_rfl) rfl rfl rfl rfl rfl rfl rfl rfl rfl (end_ok S r n (by omega) hn) rfl rfl rfl rfl rfl rfl ?_
      refine VX_callO (ok 0 _) [46] [] rfl rfl rfl rfl rfl rfl rfl rfl c2.g rfl rfl rfl ?_
      refine VX_go4 (fs := []) (ok 0 _) eqs trivial 100 [47] rfl trivial ?_
      refine VX_known 46 true rfl rfl (eqDg _) ?_
      refine VX_go4 (fs := []) (ok 0 _) eqs trivial 100 [] rfl trivial ?_
      refine VX_callO (ok 0 _) [37, 9] [] rfl rfl rfl rfl rfl rfl rfl rfl c3.g rfl rfl rfl ?_
      refine VX_go4 (fs := []) (ok 0 _) eqs trivial 100 [53] rfl trivial ?_
      refine VX_known 52 true rfl rfl (eqSt _ _ _) ?_
      refine VX_go4 (fs := []) (ok 0 _) eqs trivial 100 [] rfl trivial ?_
      exact ⟨.inr rfl, rfl⟩
end Go.Den.Q01
/- Functions without a body: the place of a byte in a text. -/
namespace Go.Den
open Go
set_option linter.unusedSectionVars false
set_option linter.unusedVariables false
theorem firstIdx_range (s : List UInt8) (c : UInt8) : -1 ≤ firstIdx ⟨⟨s⟩⟩ c ∧ firstIdx ⟨⟨s⟩⟩ c ≤ s.length := by
  unfold firstIdx
  split
  · rename_i i h
    have := List.mem_range.1 (List.mem_of_find?_eq_some h)
    have e : (ByteArray.mk ⟨s⟩).size = s.length := rfl
    omega
  · omega
section
variable {C : Cx} {env : Env} {σ : List Blk} {Q : Post}
theorem VX_indexByte {k : List It} {full l : List Oper} {o : Oper} {f : FuncId} {s : List UInt8} {c : Int} {ts tc ti : TypeId} {tys : Array TypeId} {p q r : Nat} (hC : Ok C) (hw : wants full env o = some true) (hn : dstOk C.n o.dst = true)
    (ho : o.op = .call { callee := .value (.func f), args := #[.tmp p, .tmp q], argTypes := tys }) (hts : td C.tb ts = .str) (htc : td C.tb tc = .int .u8) (hti : td C.tb ti = .int .i64) (hp : getD env p = .t ts (.e (.str s))) (hq : getD env q = .t tc (.e (.int c))) (hr : o.dst = some r)
    (hf : ∀ (s : List UInt8) (c : Int) (w : World), (callFunc f #[sv s, .int .u8 c]).run C.P w = .ok (.value (.int .i64 (firstIdx ⟨⟨s⟩⟩ c.toNat.toUInt8))) w)
    (h : VX C Q (.r full l :: k) .nrm ((r, .t ti (.e (.int (firstIdx ⟨⟨s⟩⟩ c.toNat.toUInt8)))) :: env) σ) : VX C Q (.r full (o :: l) :: k) .nrm env σ := by
  refine VX_op hw hn (R := fun d t => d = .t ti (.e (.int (firstIdx ⟨⟨s⟩⟩ c.toNat.toUInt8))) ∧ t = σ) ?_ fun d s ⟨h1, h2⟩ => by subst h1; subst h2; rw [hr]; exact h
  intro H β a w hrel he hd K Qx hK
  have v1 := he.get p
  rw [hp] at v1
  have v2 := he.get q
  rw [hq] at v2
  obtain ⟨e1, hlen⟩ := strAny_rel v1 rfl
  obtain ⟨e2, _⟩ := intAt_rel (ty := tc) (n := c) v2 (by simp [intAt, same]) htc
  have hex : (execOp a.eval o).run C.P w = .ok (.value (.int .i64 (firstIdx ⟨⟨s⟩⟩ c.toNat.toUInt8))) w := by
    have := hf s c w
    have e1' : a.eval (.tmp p) = sv s := e1
    have e2' : a.eval (.tmp q) = .int .u8 c := e2
    have e4 : a.eval (.func f) = .func (.func f) #[] #[] := rfl
    simp only [execOp, ho, resolve, e4, Deferred.ofValue, Sem.run_bind, Sem.run_pure, Result.andThen, invoke]
    simp [e1', e2']
    simpa using this
  simp only [Oper.wp, hex, Oper.upon]
  have hg := firstIdx_range s c.toNat.toUInt8
  unfold maxI at hlen
  have key : ∀ r : Int, -1 ≤ r → r ≤ s.length → IntKind.wrap .i64 r = r := fun r h1 h2 => inR_wrap (by simp [inR]; omega)
  exact hK _ _ w H β σ ⟨rfl, rfl⟩ hrel (.mkInt hti (key _ hg.1 hg.2)) (.refl _ _) (.refl _ _ _)
end
end Go.Den
/- Law 01: the digest that a text is. -/
namespace Go.Den.Q01
open Go Go.Den Go.Proofs
set_option maxRecDepth 8000
set_option linter.unusedVariables false
set_option linter.unusedSimpArgs false

theorem ext43 (s : List UInt8) (c : Int) (w : World) : (callFunc 43 #[sv s, .int .u8 c]).run Tryd.prog w = .ok (.value (.int .i64 (firstIdx ⟨⟨s⟩⟩ c.toNat.toUInt8))) w := by
  rw [run_callFunc_extern (e := Extern.BytealgIndexByte.indexByte) Tryd.func43 (by kernel_rfl) (by kernel_rfl) (by kernel_rfl) (by kernel_rfl)]
  unfold sv
  rw [run_indexByte_string]; rfl
theorem ib37_ok (s : List UInt8) (c : Int) : FnOk Tryd.prog tb 37 [9, 5] [3] [.str s, .int c] [.int (firstIdx ⟨⟨s⟩⟩ c.toNat.toUInt8)] := by
  refine FnOk_of_V (fn := Tryd.f37) (bt := 4) (ok 0 _) Tryd.func37 rfl rfl rfl (by decide) fun hw => ?_
  clear hw
  apply V_of_VX
  refine VX_go4 (fs := []) (ok 0 _) eqs trivial 100 [] rfl trivial ?_
  refine VX_indexByte (ts := 9) (tc := 5) (ti := 3) (ok 0 _) rfl rfl rfl rfl rfl rfl rfl rfl rfl ext43 ?_
  refine VX_go4 (fs := []) (ok 0 _) eqs trivial 100 [] rfl trivial ?_
  exact ⟨.inr rfl, rfl⟩
theorem ib_ok (s : List UInt8) (c : Int) : FnOk Tryd.prog tb 30 [9, 5] [3] [.str s, .int c] [.int (firstIdx ⟨⟨s⟩⟩ c.toNat.toUInt8)] := by
  refine FnOk_of_V (fn := Tryd.f30) (bt := 4) (ok 0 _) Tryd.func30 rfl rfl rfl (by decide) fun hw => ?_
  clear hw
  apply V_of_VX
  refine VX_go4 (fs := []) (ok 0 _) eqs trivial 100 [] rfl trivial ?_
  refine VX_callD (ok 0 _) [9, 5] [] rfl rfl rfl rfl rfl rfl (ib37_ok s c).g rfl rfl rfl ?_
  refine VX_go4 (fs := []) (ok 0 _) eqs trivial 100 [] rfl trivial ?_
  exact ⟨.inr rfl, rfl⟩

/-- What a digit of base sixteen tells; 16: none. -/
def nb (c : Nat) : Nat := if 48 ≤ c ∧ c ≤ 57 then c - 48 else if 97 ≤ c ∧ c ≤ 102 then c - 87 else 16
theorem ix_nb : ∀ c : Fin 256, firstIdx ⟨⟨hexC⟩⟩ c.val.toUInt8 = if nb c.val < 16 then (nb c.val : Int) else -1 := by decide +kernel
theorem nb_hx : ∀ n : Fin 16, nb (hx n.val).toNat = n.val := by decide +kernel
theorem hx_nb : ∀ c : Fin 256, nb c.val < 16 → (hx (nb c.val)).toNat = c.val := by decide +kernel
def nx (x n : Nat) : UInt8 := UInt8.ofNat (x * 16 + n)
def rdL (s : List UInt8) : Nat → List UInt8
  | 0 => List.replicate 32 0
  | i + 1 => (rdL s i).set (i / 2) (nx ((rdL s i).getD (i / 2) 0).toNat (nb (s.getD i 0).toNat))
theorem rdL_length (s : List UInt8) : ∀ i, (rdL s i).length = 32
  | 0 => by simp [rdL]
  | i + 1 => by simp [rdL, rdL_length s i]
def good (s : List UInt8) : Bool := s.all fun c => decide (nb c.toNat < 16)
def rdB (s : List UInt8) : List UInt8 × Bool := if s.length = 64 ∧ good s = true then (rdL s 64, true) else (List.replicate 32 0, false)
theorem shl_or : ∀ (x : Fin 256) (n : Fin 16), bitop .or .u8 (IntKind.wrap .u8 ((x.val : Int) * 2 ^ 4)) (n.val : Int) = (nx x.val n.val).toNat := by decide +kernel
theorem mul_add (x n : Nat) (hn : n < 16) : IntKind.wrap .u8 (IntKind.wrap .u8 ((x : Int) * 16) + (n : Int)) = (nx x n).toNat := by
  rw [wrap_eq, wrap_eq]; simp [nx]
theorem bad_at {s : List UInt8} {i : Nat} (h : i < s.length) (hb : ¬ nb (s.getD i 0).toNat < 16) : good s = false := by
  cases hg : good s with
  | false => rfl
  | true =>
    have := List.all_eq_true.1 hg (s[i]) (List.getElem_mem h)
    simp only [decide_eq_true_eq] at this
    simp only [List.getD, List.getElem?_eq_getElem h, Option.getD_some] at hb
    exact absurd this hb

set_option maxHeartbeats 1600000 in
theorem read_ok (s : List UInt8) : FnOk Tryd.prog tb 21 [9] [30, 4] [.str s] [dgE (rdB s).1, .bool (rdB s).2] := by
  refine FnOk_of_V (fn := Tryd.f21) (bt := 4) (ok 0 _) Tryd.func21 rfl rfl rfl (by decide) fun hw => ?_
  clear hw
  apply V_of_VX
  refine VX_go4 (fs := []) (ok 0 _) eqs trivial 100 [] rfl trivial ?_
  refine VX_split 9 rfl rfl (fun h => ?_) (fun h => ?_)
  · have hl : s.length ≠ 64 := by simp at h; omega
    have hb : rdB s = (List.replicate 32 0, false) := by unfold rdB; rw [if_neg (fun h => hl h.1)]
    rw [hb]
    refine VX_go4 (fs := []) (ok 0 _) eqs trivial 100 [] rfl trivial ?_
    exact ⟨.inr rfl, rfl⟩
  have hl : s.length = 64 := by simp at h; omega
  clear h
  refine VX_go4 (fs := []) (ok 0 _) eqs trivial 100 [] rfl trivial ?_
  refine VX_loopA (fun i : Nat => i ≤ 64 ∧ ∀ j, j < i → nb (s.getD j 0).toNat < 16) (fun i => [(13, .t 3 (.e (.int i))), (12, .t 3 (.e (.int s.length))), (4, .ptr 1 []), (2, .ptr 0 []), (0, .t 9 (.e (.str s)))])
    (fun i => [.tree 30 (.e (dgE (List.replicate 32 0))), .tree 30 (.e (dgE (rdL s i)))]) (fun i => 64 - i) 0 ⟨by simp, by simp⟩ ?_ ?_
  · exact wk1 rfl rfl (by simp [Blk.under, T.under]) (lc (ls rfl rfl) (lc (ls rfl rfl) (lc (ls rfl rfl) (lc (ls rfl rfl) (lc (ls rfl rfl) lnil)))))
  · rintro i ⟨hi, hg⟩
    have hrl := rdL_length s i
    refine VX_go4 (fs := []) (ok 0 _) eqs trivial 100 [] rfl trivial ?_
    refine VX_split 14 rfl rfl (fun h => ?_) (fun h => ?_)
    · have hi : i < 64 := by simp at h; omega
      have ei : IntKind.wrap .i64 ((i : Int) + 1) = ((i + 1 : Nat) : Int) := by rw [w64 (by omega) (by omega)]; simp
      have e24 : IntKind.wrap .i64 (Int.tdiv (i : Int) 2) = ((i / 2 : Nat) : Int) := by
        rw [Int.tdiv_eq_ediv_of_nonneg (by omega), w64 (by omega) (by omega)]; simp
      refine VX_go4 (fs := []) (ok 0 _) eqs trivial 100 [] rfl (by simp [allP]; omega) ?_
      refine VX_callD (ok 0 _) [9, 5] [] rfl rfl rfl rfl rfl rfl (ib_ok hexC (s.getD i 0).toNat).g rfl rfl rfl ?_
      have e19 := ix_nb ⟨(s.getD i 0).toNat, UInt8.toNat_lt _⟩
      simp only at e19
      have e19' : firstIdx ⟨⟨hexC⟩⟩ ((((s.getD i 0).toNat : Nat) : Int)).toNat.toUInt8 = if nb (s.getD i 0).toNat < 16 then (nb (s.getD i 0).toNat : Int) else -1 := by rw [Int.toNat_natCast]; exact e19
      by_cases hn : nb (s.getD i 0).toNat < 16
      · rw [if_pos hn] at e19'
        rw [e19']
        refine VX_go4 (fs := []) (ok 0 _) eqs trivial 100 [] rfl trivial ?_
        refine VX_known 21 false rfl rfl (by simp) ?_
        refine VX_go4 (fs := []) (ok 0 _) eqs trivial 100 [25] rfl (by simp [allP, arithP]) ?_
        refine VX_eq 24 rfl rfl (d' := .t 3 (.e (.int (i / 2 : Nat)))) (congrArg (fun x => D.t 3 (.e (.int x))) e24) ?_
        refine VX_go4 (fs := []) (ok 0 _) eqs trivial 100 [27] rfl (by simp [allP, arithP]) ?_
        refine VX_eq 26 rfl rfl (d' := .t 3 (.e (.int (i / 2 : Nat)))) (congrArg (fun x => D.t 3 (.e (.int x))) e24) ?_
        refine VX_go4 (fs := []) (ok 0 _) eqs trivial 100 [29] rfl (by simp [allP, arithP]; omega) ?_
        refine VX_eq 28 rfl rfl (d' := .t 5 (.e (.int ((rdL s i).getD (i / 2) 0).toNat))) (congrArg (fun x => D.t 5 (.e x)) (dgE_child _ _ (by omega))) ?_
        obtain ⟨x, hx⟩ : ∃ x, (rdL s i).getD (i / 2) 0 = x := ⟨_, rfl⟩
        obtain ⟨n, hnn⟩ : ∃ n, nb (s.getD i 0).toNat = n := ⟨_, rfl⟩
        have hstep : rdL s (i + 1) = (rdL s i).set (i / 2) (nx x.toNat n) := by rw [← hx, ← hnn]; rfl
        have hgn : ∀ j, j < i + 1 → nb (s.getD j 0).toNat < 16 := fun j hj => by
          rcases Nat.lt_or_ge j i with h | h
          · exact hg j h
          · rw [show j = i by omega]; exact hn
        rw [hx, hnn]
        rw [hnn] at hn
        refine VX_go4 (fs := []) (ok 0 _) eqs trivial 100 [32] rfl (by simp [allP, arithP]) ?_
        have e31 : IntKind.wrap .u8 (n : Int) = (n : Int) := u8n n (by omega)
        refine VX_eq 31 rfl rfl (d' := .t 5 (.e (.int n))) (congrArg (fun x => D.t 5 (.e (.int x))) e31) ?_
        have e32 := shl_or ⟨x.toNat, UInt8.toNat_lt x⟩ ⟨n, hn⟩
        simp only at e32
        refine VX_go4 (fs := []) (ok 0 _) eqs trivial 100 [33] rfl (by simp [allP, arithP]) ?_
        refine VX_eq 32 rfl rfl (d' := .t 5 (.e (.int (nx x.toNat n).toNat))) (congrArg (fun x => D.t 5 (.e (.int x))) e32) ?_
        refine VX_go4 (fs := []) (ok 0 _) eqs trivial 100 [] rfl (by simp [allP]; omega) ?_
        refine loop_nrm ⟨i + 1, by omega, ⟨by omega, hgn⟩, ?_⟩
        have he : T.e (dgE (rdL s (i + 1))) = setT [i / 2] (.e (byteE (nx x.toNat n))) (.e (dgE (rdL s i))) := by rw [← dgE_set, hstep]
        exact wk1 (by rw [he]; rfl) rfl (by simp [Blk.under, T.under]) (lc (li (by rw [ei])) (lc (ls rfl rfl) (lc (ls rfl rfl) (lc (ls rfl rfl) (lc (ls rfl rfl) lnil)))))
      · rw [if_neg hn] at e19'
        rw [e19']
        have hb : rdB s = (List.replicate 32 0, false) := by
          unfold rdB; rw [if_neg (fun h => ?_)]
          rw [bad_at (by omega) hn] at h; cases h.2
        rw [hb]
        refine VX_go4 (fs := []) (ok 0 _) eqs trivial 100 [] rfl trivial ?_
        refine VX_known 21 true rfl rfl (by simp) ?_
        refine VX_go4 (fs := []) (ok 0 _) eqs trivial 100 [] rfl trivial ?_
        apply loop_ret
        exact ⟨.inr rfl, rfl⟩
    · have hi' : i = 64 := by simp at h; omega
      subst hi'
      have hgd : good s = true := by
        refine List.all_eq_true.2 fun c hc => ?_
        obtain ⟨j, hj, rfl⟩ := List.getElem_of_mem hc
        have := hg j (by omega)
        simpa [List.getD, List.getElem?_eq_getElem hj] using this
      have hb : rdB s = (rdL s 64, true) := by unfold rdB; rw [if_pos ⟨hl, hgd⟩]
      rw [hb]
      clear hb
      generalize rdL s 64 = X at hrl ⊢
      refine VX_go4 (fs := []) (ok 0 _) eqs trivial 100 [] rfl trivial ?_
      apply loop_brk
      refine VX_go4 (fs := []) (ok 0 _) eqs trivial 100 [] rfl trivial ?_
      exact ⟨.inr rfl, rfl⟩
end Go.Den.Q01
/- Law 01: the document's reading of a digest; ShaTexts. -/
namespace Go.Den.Q01
open Go Go.Den Go.Proofs
set_option maxRecDepth 8000
set_option linter.unusedVariables false
set_option linter.unusedSimpArgs false

theorem index_at {s : List UInt8} {i : Nat} : (s.getD i 0).toNat < 256 := UInt8.toNat_lt _
set_option maxHeartbeats 1600000 in
theorem rread_ok (s : List UInt8) : FnOk Tryd.prog tb 22 [9] [30, 4] [.str s] [dgE (rdB s).1, .bool (rdB s).2] := by
  refine FnOk_of_V (fn := Tryd.f22) (bt := 4) (ok 0 _) Tryd.func22 rfl rfl rfl (by decide) fun hw => ?_
  clear hw
  apply V_of_VX
  refine VX_go4 (fs := []) (ok 0 _) eqs trivial 100 [] rfl trivial ?_
  refine VX_split 9 rfl rfl (fun h => ?_) (fun h => ?_)
  · have hl : s.length ≠ 64 := by simp at h; omega
    have hb : rdB s = (List.replicate 32 0, false) := by unfold rdB; rw [if_neg (fun h => hl h.1)]
    rw [hb]
    refine VX_go4 (fs := []) (ok 0 _) eqs trivial 100 [] rfl trivial ?_
    exact ⟨.inr rfl, rfl⟩
  have hl : s.length = 64 := by simp at h; omega
  clear h
  refine VX_go4 (fs := []) (ok 0 _) eqs trivial 100 [] rfl trivial ?_
  refine VX_loopA (fun i : Nat => i ≤ 64 ∧ ∀ j, j < i → nb (s.getD j 0).toNat < 16) (fun i => [(5, .t 3 (.e (.int i))), (4, .ptr 1 []), (2, .ptr 0 []), (0, .t 9 (.e (.str s)))])
    (fun i => [.tree 30 (.e (dgE (List.replicate 32 0))), .tree 30 (.e (dgE (rdL s i)))]) (fun i => 64 - i) 0 ⟨by simp, by simp⟩ ?_ ?_
  · exact wk1 rfl rfl (by simp [Blk.under, T.under]) (lc (ls rfl rfl) (lc (ls rfl rfl) (lc (ls rfl rfl) (lc (ls rfl rfl) lnil))))
  · rintro i ⟨hi, hg⟩
    have hrl := rdL_length s i
    refine VX_go4 (fs := []) (ok 0 _) eqs trivial 100 [] rfl trivial ?_
    refine VX_split 12 rfl rfl (fun h => ?_) (fun h => ?_)
    · have hi : i < 64 := by simp at h; omega
      have ei : IntKind.wrap .i64 ((i : Int) + 1) = ((i + 1 : Nat) : Int) := by rw [w64 (by omega) (by omega)]; simp
      have e24 : IntKind.wrap .i64 (Int.tdiv (i : Int) 2) = ((i / 2 : Nat) : Int) := by
        rw [Int.tdiv_eq_ediv_of_nonneg (by omega), w64 (by omega) (by omega)]; simp
      have hgn : nb (s.getD i 0).toNat < 16 → ∀ j, j < i + 1 → nb (s.getD j 0).toNat < 16 := fun hn j hj => by
        rcases Nat.lt_or_ge j i with h | h
        · exact hg j h
        · rw [show j = i by omega]; exact hn
      have hbad : ¬ nb (s.getD i 0).toNat < 16 → rdB s = (List.replicate 32 0, false) := fun hn => by
        unfold rdB; rw [if_neg (fun h => ?_)]
        rw [bad_at (by omega) hn] at h; cases h.2
      have hstep : rdL s (i + 1) = (rdL s i).set (i / 2) (nx ((rdL s i).getD (i / 2) 0).toNat (nb (s.getD i 0).toNat)) := rfl
      have hc : (s.getD i 0).toNat < 256 := UInt8.toNat_lt _
      obtain ⟨c, hcc⟩ : ∃ c, (s.getD i 0).toNat = c := ⟨_, rfl⟩
      have hu : ∀ a : Int, 0 ≤ a → a < 256 → IntKind.wrap .u8 a = a := fun a h1 h2 => by rw [wrap_eq]; simp; omega
      have hix : ∀ (d : D), d = .t 5 (.e (.int (s.getD i 0).toNat)) → d = .t 5 (.e (.int c)) := fun d h => by rw [h, hcc]
      rw [hcc] at hgn hbad hstep hc
      by_cases hA : 48 ≤ c ∧ c ≤ 57
      · obtain ⟨n, hnn⟩ : ∃ n, nb c = n := ⟨_, rfl⟩
        have hnv : n = c - 48 := by rw [← hnn, nb, if_pos hA]
        have hn : n < 16 := by omega
        rw [hnn] at hstep hgn
        have e28 : IntKind.wrap .u8 ((c : Int) - 48) = (n : Int) := by rw [hu _ (by omega) (by omega)]; omega
        refine VX_go4 (fs := []) (ok 0 _) eqs trivial 100 [18] rfl (by simp [allP]; omega) ?_
        refine VX_eq 17 rfl rfl (hix _ rfl) ?_
        refine VX_go4 (fs := []) (ok 0 _) eqs trivial 100 [] rfl trivial ?_
        refine VX_known 19 true rfl rfl (by simp; omega) ?_
        refine VX_go4 (fs := []) (ok 0 _) eqs trivial 100 [23] rfl (by simp [allP]; omega) ?_
        refine VX_eq 22 rfl rfl (hix _ rfl) ?_
        refine VX_go4 (fs := []) (ok 0 _) eqs trivial 100 [] rfl trivial ?_
        refine VX_known 24 true rfl rfl (by simp; omega) ?_
        refine VX_go4 (fs := []) (ok 0 _) eqs trivial 100 [28] rfl (by simp [allP]; omega) ?_
        refine VX_eq 27 rfl rfl (hix _ rfl) ?_
        refine VX_go4 (fs := []) (ok 0 _) eqs trivial 100 [6] rfl trivial ?_
        refine VX_eq 28 rfl rfl (d' := .t 5 (.e (.int n))) (congrArg (fun x => D.t 5 (.e (.int x))) e28) ?_
        refine VX_go4 (fs := []) (ok 0 _) eqs trivial 100 [32] rfl (by simp [allP]; omega) ?_
        refine VX_eq 31 rfl rfl (hix _ rfl) ?_
        refine VX_go4 (fs := []) (ok 0 _) eqs trivial 100 [] rfl trivial ?_
        refine VX_known 33 false rfl rfl (by simp; omega) ?_
        refine VX_go4 (fs := []) (ok 0 _) eqs trivial 100 [] rfl trivial ?_
        refine VX_known 45 false rfl rfl (by simp; omega) ?_
        refine VX_go4 (fs := []) (ok 0 _) eqs trivial 100 [49] rfl (by simp [allP, arithP]) ?_
        refine VX_eq 48 rfl rfl (d' := .t 3 (.e (.int (i / 2 : Nat)))) (congrArg (fun x => D.t 3 (.e (.int x))) e24) ?_
        refine VX_go4 (fs := []) (ok 0 _) eqs trivial 100 [51] rfl (by simp [allP, arithP]) ?_
        refine VX_eq 50 rfl rfl (d' := .t 3 (.e (.int (i / 2 : Nat)))) (congrArg (fun x => D.t 3 (.e (.int x))) e24) ?_
        refine VX_go4 (fs := []) (ok 0 _) eqs trivial 100 [53] rfl (by simp [allP, arithP]; omega) ?_
        refine VX_eq 52 rfl rfl (d' := .t 5 (.e (.int ((rdL s i).getD (i / 2) 0).toNat))) (congrArg (fun x => D.t 5 (.e x)) (dgE_child _ _ (by omega))) ?_
        obtain ⟨x, hx⟩ : ∃ x, (rdL s i).getD (i / 2) 0 = x := ⟨_, rfl⟩
        rw [hx] at hstep ⊢
        refine VX_go4 (fs := []) (ok 0 _) eqs trivial 100 [56] rfl trivial ?_
        refine VX_eq 55 rfl rfl (d' := .t 5 (.e (.int (nx x.toNat n).toNat))) (congrArg (fun x => D.t 5 (.e (.int x))) (mul_add x.toNat n hn)) ?_
        refine VX_go4 (fs := []) (ok 0 _) eqs trivial 100 [] rfl (by simp [allP]; omega) ?_
        refine loop_nrm ⟨i + 1, by omega, ⟨by omega, hgn hn⟩, ?_⟩
        have he : T.e (dgE (rdL s (i + 1))) = setT [i / 2] (.e (byteE (nx x.toNat n))) (.e (dgE (rdL s i))) := by rw [← dgE_set, hstep]
        exact wk1 (by rw [he]; rfl) rfl (by simp [Blk.under, T.under]) (lc (li (by rw [ei])) (lc (ls rfl rfl) (lc (ls rfl rfl) (lc (ls rfl rfl) lnil))))
      by_cases hB : 97 ≤ c ∧ c ≤ 102
      · obtain ⟨n, hnn⟩ : ∃ n, nb c = n := ⟨_, rfl⟩
        have hnv : n = c - 87 := by rw [← hnn, nb, if_neg hA, if_pos hB]
        have hn : n < 16 := by omega
        rw [hnn] at hstep hgn
        have e43 : IntKind.wrap .u8 (IntKind.wrap .u8 ((c : Int) - 97) + 10) = (n : Int) := by rw [hu ((c : Int) - 97) (by omega) (by omega), hu _ (by omega) (by omega)]; omega
        refine VX_go4 (fs := []) (ok 0 _) eqs trivial 100 [18] rfl (by simp [allP]; omega) ?_
        refine VX_eq 17 rfl rfl (hix _ rfl) ?_
        refine VX_go4 (fs := []) (ok 0 _) eqs trivial 100 [] rfl trivial ?_
        refine VX_known 19 true rfl rfl (by simp; omega) ?_
        refine VX_go4 (fs := []) (ok 0 _) eqs trivial 100 [23] rfl (by simp [allP]; omega) ?_
        refine VX_eq 22 rfl rfl (hix _ rfl) ?_
        refine VX_go4 (fs := []) (ok 0 _) eqs trivial 100 [] rfl trivial ?_
        refine VX_known 24 false rfl rfl (by simp; omega) ?_
        refine VX_go4 (fs := []) (ok 0 _) eqs trivial 100 [32] rfl (by simp [allP]; omega) ?_
        refine VX_eq 31 rfl rfl (hix _ rfl) ?_
        refine VX_go4 (fs := []) (ok 0 _) eqs trivial 100 [] rfl trivial ?_
        refine VX_known 33 true rfl rfl (by simp; omega) ?_
        refine VX_go4 (fs := []) (ok 0 _) eqs trivial 100 [37] rfl (by simp [allP]; omega) ?_
        refine VX_eq 36 rfl rfl (hix _ rfl) ?_
        refine VX_go4 (fs := []) (ok 0 _) eqs trivial 100 [] rfl trivial ?_
        refine VX_known 38 true rfl rfl (by simp; omega) ?_
        refine VX_go4 (fs := []) (ok 0 _) eqs trivial 100 [42] rfl (by simp [allP]; omega) ?_
        refine VX_eq 41 rfl rfl (hix _ rfl) ?_
        refine VX_go4 (fs := []) (ok 0 _) eqs trivial 100 [6] rfl trivial ?_
        refine VX_eq 43 rfl rfl (d' := .t 5 (.e (.int n))) (congrArg (fun x => D.t 5 (.e (.int x))) e43) ?_
        refine VX_go4 (fs := []) (ok 0 _) eqs trivial 100 [] rfl trivial ?_
        refine VX_known 45 false rfl rfl (by simp; omega) ?_
        refine VX_go4 (fs := []) (ok 0 _) eqs trivial 100 [49] rfl (by simp [allP, arithP]) ?_
        refine VX_eq 48 rfl rfl (d' := .t 3 (.e (.int (i / 2 : Nat)))) (congrArg (fun x => D.t 3 (.e (.int x))) e24) ?_
        refine VX_go4 (fs := []) (ok 0 _) eqs trivial 100 [51] rfl (by simp [allP, arithP]) ?_
        refine VX_eq 50 rfl rfl (d' := .t 3 (.e (.int (i / 2 : Nat)))) (congrArg (fun x => D.t 3 (.e (.int x))) e24) ?_
        refine VX_go4 (fs := []) (ok 0 _) eqs trivial 100 [53] rfl (by simp [allP, arithP]; omega) ?_
        refine VX_eq 52 rfl rfl (d' := .t 5 (.e (.int ((rdL s i).getD (i / 2) 0).toNat))) (congrArg (fun x => D.t 5 (.e x)) (dgE_child _ _ (by omega))) ?_
        obtain ⟨x, hx⟩ : ∃ x, (rdL s i).getD (i / 2) 0 = x := ⟨_, rfl⟩
        rw [hx] at hstep ⊢
        refine VX_go4 (fs := []) (ok 0 _) eqs trivial 100 [56] rfl trivial ?_
        refine VX_eq 55 rfl rfl (d' := .t 5 (.e (.int (nx x.toNat n).toNat))) (congrArg (fun x => D.t 5 (.e (.int x))) (mul_add x.toNat n hn)) ?_
        refine VX_go4 (fs := []) (ok 0 _) eqs trivial 100 [] rfl (by simp [allP]; omega) ?_
        refine loop_nrm ⟨i + 1, by omega, ⟨by omega, hgn hn⟩, ?_⟩
        have he : T.e (dgE (rdL s (i + 1))) = setT [i / 2] (.e (byteE (nx x.toNat n))) (.e (dgE (rdL s i))) := by rw [← dgE_set, hstep]
        exact wk1 (by rw [he]; rfl) rfl (by simp [Blk.under, T.under]) (lc (li (by rw [ei])) (lc (ls rfl rfl) (lc (ls rfl rfl) (lc (ls rfl rfl) lnil))))
      have hb := hbad (by rw [nb, if_neg hA, if_neg hB]; omega)
      rw [hb]
      by_cases h1 : c < 48
      · skip
        refine VX_go4 (fs := []) (ok 0 _) eqs trivial 100 [18] rfl (by simp [allP]; omega) ?_
        refine VX_eq 17 rfl rfl (hix _ rfl) ?_
        refine VX_go4 (fs := []) (ok 0 _) eqs trivial 100 [] rfl trivial ?_
        refine VX_known 19 false rfl rfl (by simp; omega) ?_
        refine VX_go4 (fs := []) (ok 0 _) eqs trivial 100 [32] rfl (by simp [allP]; omega) ?_
        refine VX_eq 31 rfl rfl (hix _ rfl) ?_
        refine VX_go4 (fs := []) (ok 0 _) eqs trivial 100 [] rfl trivial ?_
        refine VX_known 33 false rfl rfl (by simp; omega) ?_
        refine VX_go4 (fs := []) (ok 0 _) eqs trivial 100 [] rfl trivial ?_
        refine VX_known 45 true rfl rfl (by simp) ?_
        refine VX_go4 (fs := []) (ok 0 _) eqs trivial 100 [] rfl trivial ?_
        apply loop_ret
        exact ⟨.inr rfl, rfl⟩
      by_cases h2 : c < 97
      · skip
        refine VX_go4 (fs := []) (ok 0 _) eqs trivial 100 [18] rfl (by simp [allP]; omega) ?_
        refine VX_eq 17 rfl rfl (hix _ rfl) ?_
        refine VX_go4 (fs := []) (ok 0 _) eqs trivial 100 [] rfl trivial ?_
        refine VX_known 19 true rfl rfl (by simp; omega) ?_
        refine VX_go4 (fs := []) (ok 0 _) eqs trivial 100 [23] rfl (by simp [allP]; omega) ?_
        refine VX_eq 22 rfl rfl (hix _ rfl) ?_
        refine VX_go4 (fs := []) (ok 0 _) eqs trivial 100 [] rfl trivial ?_
        refine VX_known 24 false rfl rfl (by simp; omega) ?_
        refine VX_go4 (fs := []) (ok 0 _) eqs trivial 100 [32] rfl (by simp [allP]; omega) ?_
        refine VX_eq 31 rfl rfl (hix _ rfl) ?_
        refine VX_go4 (fs := []) (ok 0 _) eqs trivial 100 [] rfl trivial ?_
        refine VX_known 33 false rfl rfl (by simp; omega) ?_
        refine VX_go4 (fs := []) (ok 0 _) eqs trivial 100 [] rfl trivial ?_
        refine VX_known 45 true rfl rfl (by simp) ?_
        refine VX_go4 (fs := []) (ok 0 _) eqs trivial 100 [] rfl trivial ?_
        apply loop_ret
        exact ⟨.inr rfl, rfl⟩
      · skip
        refine VX_go4 (fs := []) (ok 0 _) eqs trivial 100 [18] rfl (by simp [allP]; omega) ?_
        refine VX_eq 17 rfl rfl (hix _ rfl) ?_
        refine VX_go4 (fs := []) (ok 0 _) eqs trivial 100 [] rfl trivial ?_
        refine VX_known 19 true rfl rfl (by simp; omega) ?_
        refine VX_go4 (fs := []) (ok 0 _) eqs trivial 100 [23] rfl (by simp [allP]; omega) ?_
        refine VX_eq 22 rfl rfl (hix _ rfl) ?_
        refine VX_go4 (fs := []) (ok 0 _) eqs trivial 100 [] rfl trivial ?_
        refine VX_known 24 false rfl rfl (by simp; omega) ?_
        refine VX_go4 (fs := []) (ok 0 _) eqs trivial 100 [32] rfl (by simp [allP]; omega) ?_
        refine VX_eq 31 rfl rfl (hix _ rfl) ?_
        refine VX_go4 (fs := []) (ok 0 _) eqs trivial 100 [] rfl trivial ?_
        refine VX_known 33 true rfl rfl (by simp; omega) ?_
        refine VX_go4 (fs := []) (ok 0 _) eqs trivial 100 [37] rfl (by simp [allP]; omega) ?_
        refine VX_eq 36 rfl rfl (hix _ rfl) ?_
        refine VX_go4 (fs := []) (ok 0 _) eqs trivial 100 [] rfl trivial ?_
        refine VX_known 38 false rfl rfl (by simp; omega) ?_
        refine VX_go4 (fs := []) (ok 0 _) eqs trivial 100 [] rfl trivial ?_
        refine VX_known 45 true rfl rfl (by simp) ?_
        refine VX_go4 (fs := []) (ok 0 _) eqs trivial 100 [] rfl trivial ?_
        apply loop_ret
        exact ⟨.inr rfl, rfl⟩
    · have hi' : i = 64 := by simp at h; omega
      subst hi'
      have hgd : good s = true := by
        refine List.all_eq_true.2 fun c hc => ?_
        obtain ⟨j, hj, rfl⟩ := List.getElem_of_mem hc
        have := hg j (by omega)
        simpa [List.getD, List.getElem?_eq_getElem hj] using this
      have hb : rdB s = (rdL s 64, true) := by unfold rdB; rw [if_pos ⟨hl, hgd⟩]
      rw [hb]
      clear hb
      generalize rdL s 64 = X at hrl ⊢
      refine VX_go4 (fs := []) (ok 0 _) eqs trivial 100 [] rfl trivial ?_
      apply loop_brk
      refine VX_go4 (fs := []) (ok 0 _) eqs trivial 100 [] rfl trivial ?_
      exact ⟨.inr rfl, rfl⟩
end Go.Den.Q01
/- Law 01: ShaTexts. -/
namespace Go.Den.Q01
open Go Go.Den Go.Proofs
set_option maxRecDepth 8000
set_option linter.unusedVariables false
set_option linter.unusedSimpArgs false

theorem u8_ext {a b : UInt8} (h : a.toNat = b.toNat) : a = b := UInt8.toNat_inj.1 h
theorem getD_set (l : List UInt8) (j k : Nat) (v : UInt8) (hj : j < l.length) : (l.set j v).getD k 0 = if k = j then v else l.getD k 0 := by
  simp only [List.getD, List.getElem?_set]
  by_cases h : k = j
  · subst h; simp [hj]
  · simp [h, Ne.symm h]
theorem rdL_s (s : List UInt8) (i : Nat) : rdL s (i + 1) = (rdL s i).set (i / 2) (nx ((rdL s i).getD (i / 2) 0).toNat (nb (s.getD i 0).toNat)) := rfl
def bb (s : List UInt8) (k : Nat) : UInt8 := UInt8.ofNat (nb (s.getD (2 * k) 0).toNat * 16 + nb (s.getD (2 * k + 1) 0).toNat)
theorem rd_at (s : List UInt8) (hg : ∀ j, j < 64 → nb (s.getD j 0).toNat < 16) : ∀ j, j ≤ 32 → ∀ k, k < 32 → (rdL s (2 * j)).getD k 0 = if k < j then bb s k else 0
  | 0, _, k, hk => by
    show (List.replicate 32 (0 : UInt8)).getD k 0 = _
    rw [if_neg (Nat.not_lt_zero _), List.getD, List.getElem?_replicate, if_pos hk]; rfl
  | j + 1, hj, k, hk => by
    have ih := rd_at s hg j (by omega)
    have ha := hg (2 * j) (by omega)
    have hl := rdL_length s (2 * j)
    have e0 := ih j (by omega)
    rw [if_neg (by omega)] at e0
    rw [show 2 * (j + 1) = (2 * j + 1) + 1 by omega, rdL_s, rdL_s, show 2 * j / 2 = j by omega, show (2 * j + 1) / 2 = j by omega, e0]
    rw [getD_set _ _ _ _ (by rw [List.length_set]; omega), getD_set _ _ _ _ (by omega), if_pos rfl]
    by_cases h : k = j
    · subst h
      rw [if_pos rfl, if_pos (by omega)]
      apply u8_ext
      simp only [nx, bb, UInt8.toNat_ofNat', UInt8.toNat_zero, UInt8.reduceToNat]
      omega
    · rw [if_neg h, getD_set _ _ _ _ (by omega), if_neg h, ih k hk]
      by_cases h2 : k < j
      · rw [if_pos h2, if_pos (by omega)]
      · rw [if_neg h2, if_neg (by omega)]
theorem good_at {s : List UInt8} (hl : s.length = 64) (hg : good s = true) : ∀ j, j < 64 → nb (s.getD j 0).toNat < 16 := fun j hj => by
  have := List.all_eq_true.1 hg (s[j]'(by omega)) (List.getElem_mem _)
  simpa [List.getD, List.getElem?_eq_getElem (show j < s.length by omega)] using this
theorem hx_nb' (c : UInt8) (h : nb c.toNat < 16) : hx (nb c.toNat) = c := u8_ext (hx_nb ⟨c.toNat, UInt8.toNat_lt c⟩ h)
theorem txt_rd {s X : List UInt8} (hl : s.length = 64) (hg : good s = true) (hX : ∀ k, k < 32 → X.getD k 0 = bb s k) : ∀ i, i ≤ 32 → txt X i = s.take (2 * i)
  | 0, _ => by simp [txt]
  | i + 1, hi => by
    have hga := good_at hl hg
    have h1 := hX i (by omega)
    have ha := hga (2 * i) (by omega)
    have hb := hga (2 * i + 1) (by omega)
    have hv : (bb s i).toNat = nb (s.getD (2 * i) 0).toNat * 16 + nb (s.getD (2 * i + 1) 0).toNat := by simp only [bb, UInt8.toNat_ofNat']; omega
    have ht : s.take (2 * (i + 1)) = s.take (2 * i) ++ [s.getD (2 * i) 0, s.getD (2 * i + 1) 0] := by
      rw [show 2 * (i + 1) = 2 * i + 1 + 1 by omega, List.take_add_one, List.take_add_one, List.append_assoc]
      simp [List.getD, List.getElem?_eq_getElem (show 2 * i < s.length by omega), List.getElem?_eq_getElem (show 2 * i + 1 < s.length by omega)]
    rw [ht, txt, txt_rd hl hg hX i (by omega), h1, hv]
    congr 1
    rw [show (nb (s.getD (2 * i) 0).toNat * 16 + nb (s.getD (2 * i + 1) 0).toNat) / 16 = nb (s.getD (2 * i) 0).toNat by omega, show (nb (s.getD (2 * i) 0).toNat * 16 + nb (s.getD (2 * i + 1) 0).toNat) % 16 = nb (s.getD (2 * i + 1) 0).toNat by omega, hx_nb' _ ha, hx_nb' _ hb]
theorem rd_64 {s : List UInt8} (hl : s.length = 64) (hg : good s = true) : ∃ X, rdB s = (X, true) ∧ X.length = 32 ∧ ∀ k, k < 32 → X.getD k 0 = bb s k := by
  refine ⟨rdL s 64, if_pos ⟨hl, hg⟩, rdL_length s 64, fun k hk => ?_⟩
  have h := rd_at s (good_at hl hg) 32 (Nat.le_refl _) k hk
  rw [if_pos hk] at h
  exact h
theorem txt_read {s X : List UInt8} (h : rdB s = (X, true)) : txt X 32 = s := by
  have hc : s.length = 64 ∧ good s = true := by
    unfold rdB at h
    split at h
    · rename_i hc; exact hc
    · simp at h
  obtain ⟨Y, h1, h2, h3⟩ := rd_64 hc.1 hc.2
  rw [h1] at h
  simp only [Prod.mk.injEq, and_true] at h
  subst h
  rw [txt_rd hc.1 hc.2 h3 32 (Nat.le_refl _), List.take_of_length_le (by omega)]
theorem txt_get (d : List UInt8) : ∀ i, ∀ k, k < i → (txt d i).getD (2 * k) 0 = hx ((d.getD k 0).toNat / 16) ∧ (txt d i).getD (2 * k + 1) 0 = hx ((d.getD k 0).toNat % 16)
  | 0, k, hk => by omega
  | i + 1, k, hk => by
    have hl := txt_length d i
    rcases Nat.lt_or_ge k i with h | h
    · have := txt_get d i k h
      simp only [txt, List.getD, List.getElem?_append_left (show 2 * k < (txt d i).length by omega), List.getElem?_append_left (show 2 * k + 1 < (txt d i).length by omega)]
      exact this
    · have hki : k = i := by omega
      subst hki
      simp only [txt, List.getD, List.getElem?_append_right (show (txt d k).length ≤ 2 * k by omega), List.getElem?_append_right (show (txt d k).length ≤ 2 * k + 1 by omega), hl]
      rw [show 2 * k - 2 * k = 0 by omega, show 2 * k + 1 - 2 * k = 1 by omega]
      exact ⟨rfl, rfl⟩
theorem nb_hx' (n : Nat) (h : n < 16) : nb (hx n).toNat = n := nb_hx ⟨n, h⟩
theorem txt_good (d : List UInt8) : ∀ i, good (txt d i) = true
  | 0 => rfl
  | i + 1 => by
    have := UInt8.toNat_lt (d.getD i 0)
    simp only [good, txt, List.all_append, Bool.and_eq_true]
    refine ⟨txt_good d i, ?_⟩
    simp only [List.all_cons, List.all_nil, Bool.and_true, Bool.and_eq_true, decide_eq_true_eq]
    rw [nb_hx' _ (by omega), nb_hx' _ (by omega)]
    omega
theorem read_txt' {d s : List UInt8} (hd : d.length = 32) (hl : s.length = 64) (hg : good s = true) (he : ∀ k, k < 32 → s.getD (2 * k) 0 = hx ((d.getD k 0).toNat / 16) ∧ s.getD (2 * k + 1) 0 = hx ((d.getD k 0).toNat % 16)) : rdB s = (d, true) := by
  obtain ⟨X, h1, h2, h3⟩ := rd_64 hl hg
  rw [h1]
  refine congrArg (fun x => (x, true)) ?_
  refine List.ext_getElem (by omega) fun k g1 g2 => ?_
  have h4 := h3 k (by omega)
  obtain ⟨e1, e2⟩ := he k (by omega)
  rw [List.getD, List.getElem?_eq_getElem g1, Option.getD_some] at h4
  have hlt := UInt8.toNat_lt (d.getD k 0)
  rw [h4]
  apply u8_ext
  simp only [bb, UInt8.toNat_ofNat']
  rw [e1, e2, nb_hx' _ (by omega), nb_hx' _ (by omega)]
  simp only [List.getD, List.getElem?_eq_getElem g2, Option.getD_some] at hlt ⊢
  omega
theorem read_txt {d : List UInt8} (hd : d.length = 32) : rdB (txt d 32) = (d, true) := read_txt' hd (txt_length d 32) (txt_good d 32) (txt_get d 32)

theorem wt_u8 {t : TypeId} {x : E} (h : Wt tb t x) (ht : td tb t = .int .u8) : ∃ b : UInt8, x = byteE b := by
  obtain ⟨n, rfl, hn⟩ := wt_int h ht
  simp only [inR, Bool.and_eq_true, decide_eq_true_eq] at hn
  exact ⟨UInt8.ofNat n.toNat, by simp only [byteE, UInt8.toNat_ofNat']; congr 1; omega⟩
theorem wt_dg {t : TypeId} {x : E} (h : Wt tb t x) (ht : td tb t = .arr 32 5) : ∃ d, x = dgE d ∧ d.length = 32 := by
  obtain ⟨l, rfl, hl, hw⟩ := wt_arr h ht
  obtain ⟨d, rfl⟩ := map_ex fun y hy => wt_u8 (hw y hy) rfl
  exact ⟨d, rfl, by simpa using hl⟩

set_option maxHeartbeats 1600000 in
theorem texts_ok (x0 x1 : E) : FnOk Tryd.prog tb 7 [29, 9] [4] [x0, x1] [.bool true] := by
  refine FnOk_of_V (fn := Tryd.f7) (bt := 4) (ok 0 _) Tryd.func7 rfl rfl rfl (by decide) fun hw => ?_
  obtain ⟨d, rfl, hd⟩ := wt_dg (hw 0 _ x0 rfl rfl) rfl
  obtain ⟨s, rfl⟩ := wt_str (hw 1 _ x1 rfl rfl) rfl
  clear hw
  apply V_of_VX
  refine VX_go4 (fs := []) (ok 0 _) eqs trivial 100 [] rfl trivial ?_
  refine VX_callD (ok 0 _) [] [] rfl rfl rfl rfl rfl rfl awake_ok.g rfl rfl rfl ?_
  refine VX_go4 (fs := []) (ok 0 _) eqs trivial 100 [] rfl trivial ?_
  refine VX_known 12 false rfl rfl rfl ?_
  refine VX_go4 (fs := []) (ok 0 _) eqs trivial 100 [] rfl trivial ?_
  refine VX_split 15 rfl rfl (fun h => ?_) (fun h => ?_)
  · refine VX_go4 (fs := []) (ok 0 _) eqs trivial 100 [] rfl trivial ?_
    refine VX_callD (ok 0 _) [] [] rfl rfl rfl rfl rfl rfl awake_ok.g rfl rfl rfl ?_
    refine VX_go4 (fs := []) (ok 0 _) eqs trivial 100 [] rfl trivial ?_
    exact ⟨.inr rfl, rfl⟩
  clear h
  have c1 := (read_ok s).g
  have c2 := (rread_ok s).g
  have c3 := (read_ok (txt d 32)).g
  rw [read_txt hd] at c3
  have ht := @txt_read s
  have hXl : (rdB s).1.length = 32 := by unfold rdB; split <;> simp [rdL_length]
  generalize rdB s = R at c1 c2 ht hXl
  obtain ⟨X, b⟩ := R
  simp only at c1 c2 c3 hXl
  refine VX_go4 (fs := []) (ok 0 _) eqs trivial 100 [] rfl trivial ?_
  refine VX_callD (ok 0 _) [9] [] rfl rfl rfl rfl rfl rfl c1 rfl rfl rfl ?_
  refine VX_go4 (fs := []) (ok 0 _) eqs trivial 100 [] rfl trivial ?_
  refine VX_callD (ok 0 _) [9] [] rfl rfl rfl rfl rfl rfl c2 rfl rfl rfl ?_
  refine VX_go4 (fs := []) (ok 0 _) eqs trivial 100 [] rfl trivial ?_
  refine VX_callD (ok 0 _) [30] [] rfl rfl rfl rfl rfl rfl (text_ok d hd).g rfl rfl rfl ?_
  refine VX_go4 (fs := []) (ok 0 _) eqs trivial 100 [] rfl trivial ?_
  refine VX_callD (ok 0 _) [9] [] rfl rfl rfl rfl rfl rfl c3 rfl rfl rfl ?_
  refine VX_go4 (fs := []) (ok 0 _) eqs trivial 100 [] rfl trivial ?_
  refine VX_callD (ok 0 _) [] [] rfl rfl rfl rfl rfl rfl awake_ok.g rfl rfl rfl ?_
  refine VX_go4 (fs := []) (ok 0 _) eqs trivial 100 [] rfl trivial ?_
  refine VX_known 34 true rfl rfl rfl ?_
  refine VX_go4 (fs := []) (ok 0 _) eqs trivial 100 [38] rfl trivial ?_
  refine VX_known 37 true rfl rfl (eqDg _) ?_
  refine VX_go4 (fs := []) (ok 0 _) eqs trivial 100 [43] rfl trivial ?_
  refine VX_known 42 true rfl rfl (by simp) ?_
  refine VX_go4 (fs := []) (ok 0 _) eqs trivial 100 [] rfl trivial ?_
  cases b with
  | false =>
    refine VX_known 47 true rfl rfl rfl ?_
    refine VX_go4 (fs := []) (ok 0 _) eqs trivial 100 [] rfl trivial ?_
    refine VX_known 57 true rfl rfl rfl ?_
    refine VX_go4 (fs := []) (ok 0 _) eqs trivial 100 [61] rfl trivial ?_
    refine VX_known 60 true rfl rfl (eqDg _) ?_
    refine VX_go4 (fs := []) (ok 0 _) eqs trivial 100 [] rfl trivial ?_
    exact ⟨.inr rfl, rfl⟩
  | true =>
    have ht := ht rfl
    have c4 := (text_ok X hXl).g
    rw [ht] at c4
    refine VX_known 47 false rfl rfl rfl ?_
    refine VX_go4 (fs := []) (ok 0 _) eqs trivial 100 [] rfl trivial ?_
    refine VX_callD (ok 0 _) [30] [] rfl rfl rfl rfl rfl rfl c4 rfl rfl rfl ?_
    refine VX_go4 (fs := []) (ok 0 _) eqs trivial 100 [52] rfl trivial ?_
    refine VX_known 51 true rfl rfl (by simp) ?_
    refine VX_go4 (fs := []) (ok 0 _) eqs trivial 100 [] rfl trivial ?_
    refine VX_known 57 true rfl rfl rfl ?_
    refine VX_go4 (fs := []) (ok 0 _) eqs trivial 100 [61] rfl trivial ?_
    refine VX_known 60 true rfl rfl (eqDg _) ?_
    refine VX_go4 (fs := []) (ok 0 _) eqs trivial 100 [] rfl trivial ?_
    exact ⟨.inr rfl, rfl⟩
end Go.Den.Q01
/-
  What the laid variables give the walks; the world that the door leaves meets the condition.
-/
namespace Go.Proofs.YthdobmogmepamaaDoor
open Go.ChangeShapes Go.WideShapes Go.ChangeAt Go.RowKit
set_option linter.unusedVariables false
def laid2 : List (String × DataW Unit) := Rows.shaBlocksRow.laid
theorem own : ownKnob Tryd.prog.godebug = none := by kernel_rfl
theorem laidOut : laidOutB Tryd.prog = true := by kernel_rfl
theorem gFirst : Tryd.prog.globalNamed "pontoon/sha.first" = some 1 := by kernel_rfl
theorem gConsts : Tryd.prog.globalNamed "pontoon/sha.constants" = some 0 := by kernel_rfl
theorem tFirst : (Tryd.prog.globals[1]?).map (·.type) = some 23 := by kernel_rfl
theorem tConsts : (Tryd.prog.globals[0]?).map (·.type) = some 51 := by kernel_rfl
theorem door_met (os : Os) (args : Array Value) : laidMetH Tryd.prog laid2 ((World.doorLaid Tryd.prog 400 os).forCall (fun _ _ => 0) ⟨#[], args, []⟩).memory :=
  laidMetH_of_parts3 (fuel := 8) (laidMet_of_run' 8 (by kernel_rfl) (by kernel_rfl)) (by kernel_rfl) (by kernel_rfl)
theorem of_laid {W : World} (h : laidMetH Tryd.prog laid2 W) : Go.Den.GlRel Go.Den.Q01.tb (Go.Den.Hw W) := by
  rw [MakeChecks.laidMetH_plain _ _ _ (by kernel_rfl)] at h
  obtain ⟨ps, ⟨g0, t0, cs0, f0, p0, q0, hg0, ht0, hv0, hd0, ⟨g1, t1, cs1, f1, p1, q1, hg1, ht1, hv1, hd1, _, _⟩, _⟩, _, _⟩ := h
  obtain rfl := Option.some.inj (gFirst.symm.trans hg0)
  obtain rfl := Option.some.inj (gConsts.symm.trans hg1)
  obtain rfl := Option.some.inj (tFirst.symm.trans ht0)
  obtain rfl := Option.some.inj (tConsts.symm.trans ht1)
  intro g ty x hm
  simp only [Go.Den.Q01.tb, List.mem_cons, List.not_mem_nil, or_false] at hm
  rcases hm with hm | hm
  · cases hm
    exact Go.Den.gl_ints (ns := Go.Den.Q01.kL) Go.Den.Q01.tabOk hg1 hv1 rfl rfl hd1
  · cases hm
    exact Go.Den.gl_ints (ns := Go.Den.Q01.fL) Go.Den.Q01.tabOk hg0 hv0 rfl rfl hd0
end Go.Proofs.YthdobmogmepamaaDoor
