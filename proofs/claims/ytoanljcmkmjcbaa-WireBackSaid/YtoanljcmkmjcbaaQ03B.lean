/- Law 03: strings.Builder. -/
import Derived.Test.YtoanljcmkmjcbaaQ03A
namespace Go.Den.Q03
open Go Go.Den Go.Proofs
set_option maxRecDepth 8000
set_option linter.unusedVariables false

theorem noEsc (x : Value) (w : World) : (callFunc 42 #[x]).run Try.prog w = .ok (.value x) w := rfl

/-- A builder and its row. -/
def bld (a : T) (n : Nat) (bs : List E) : List Blk := [.tree 60 (.st [a, .msl 1 n]), .mrow 5 true bs]
theorem check_ok (a : T) (ha : a = .e .nilp ∨ a = .ptr 0 []) (n : Nat) (bs : List E) : FnG Try.prog tb 41 (bld a n bs) [.ptr 0 []] (fun d s => d = .tup [] ∧ s = bld (.ptr 0 []) n bs) := by
  refine FnG_of_V (fn := Try.f41) (bt := 4) false [] [] (ok 2 _) Try.func41 rfl rfl rfl fun _ _ _ _ _ _ => ?_
  apply V_of_VX
  rcases ha with rfl | rfl
  · refine VX_go3 (fs := []) (ok 2 _) eqs trivial 100 [] rfl trivial ?_
    refine VX_op rfl rfl (OpV_toUnsafe (v := 60) (o' := 0) (u := 60) (ok 2 _) rfl rfl (by decide) (by kernel_rfl) rfl rfl rfl (by decide)) ?_
    rintro d s ⟨rfl, rfl⟩
    refine VX_op rfl rfl (OpV_noEscape (ok 2 _) rfl noEsc rfl) ?_
    rintro d s ⟨rfl, rfl⟩
    refine VX_op rfl rfl (OpV_ofUnsafe (v := 60) (o' := 0) (u := 60) (ok 2 _) rfl (by kernel_rfl) rfl (by decide) rfl rfl rfl (by decide) (by kernel_rfl)) ?_
    rintro d s ⟨rfl, rfl⟩
    refine VX_go3 (fs := []) (ok 2 _) eqs trivial 100 [] rfl trivial ?_
    exact ⟨.inl rfl, _, _, _, rfl, rfl, rfl, rfl, rfl⟩
  · refine VX_go3 (fs := []) (ok 2 _) eqs trivial 100 [] rfl (by simp [allP, td, tb]) ?_
    exact ⟨.inl rfl, _, _, _, rfl, rfl, rfl, rfl, rfl⟩

theorem writeS_ok (a : T) (ha : a = .e .nilp ∨ a = .ptr 0 []) (bs : List E) (s : List UInt8) (h1 : bs.length ≤ 1000000) (h2 : s.length ≤ 1000000) :
    FnG Try.prog tb 34 (bld a bs.length bs) [.ptr 0 [], .t 9 (.e (.str s))] (fun d t => d = .tup [.t 3 (.e (.int s.length)), .t 62 (.e .nili)] ∧ t = bld (.ptr 0 []) (bs.length + (s.map byteE).length) (bs ++ s.map byteE)) := by
  refine FnG_of_V (fn := Try.f34) (bt := 4) false [] [3, 62] (ok 2 _) Try.func34 rfl rfl rfl fun _ _ _ _ _ _ => ?_
  rcases ha with rfl | rfl
  all_goals
    apply V_of_VX
    refine VX_go3 (fs := []) (ok 2 _) eqs trivial 100 [] rfl trivial ?_
    refine VX_callD (ok 2 _) [58] [0, 1] rfl rfl rfl rfl rfl rfl (check_ok _ (by simp) bs.length bs) rfl rfl rfl ?_
    refine VX_go3 (fs := []) (ok 2 _) eqs trivial 100 [] rfl ?_ ?_
    · refine ⟨rfl, ?_, ?_⟩ <;> simp [nb, tb, maxL] <;> omega
    exact ⟨.inr rfl, _, _, _, rfl, rfl, rfl, rfl, rfl⟩

/-- .. of an own array's slice. -/
theorem write_ok (a : T) (ha : a = .e .nilp ∨ a = .ptr 0 []) (bs ds : List E) (h1 : bs.length ≤ 1000000) (ts : List E) (hts : ts = (ds.drop 0).take 32) :
    FnG Try.prog tb 35 (bld a bs.length bs ++ [.tree 24 (.e (.agg ds))]) [.ptr 0 [], .asl 2 [] 5 0 32] (fun d t => d = .tup [.t 3 (.e (.int 32)), .t 62 (.e .nili)] ∧ t = bld (.ptr 0 []) (bs.length + ts.length) (bs ++ ts) ++ [.tree 24 (.e (.agg ds))]) := by
  subst hts
  refine FnG_of_V (fn := Try.f35) (bt := 4) false [] [3, 62] (ok 3 _) Try.func35 rfl rfl rfl fun _ _ _ _ _ _ => ?_
  rcases ha with rfl | rfl
  all_goals
    apply V_of_VX
    refine VX_go3 (fs := []) (ok 3 _) eqs trivial 100 [] rfl trivial ?_
    refine VX_callD (ok 3 _) [58] [0, 1] rfl rfl rfl rfl rfl rfl (check_ok _ (by simp) bs.length bs) rfl rfl rfl ?_
    refine VX_go3 (fs := []) (ok 3 _) eqs trivial 100 [] rfl ?_ ?_
    · have : ((ds.drop 0).take 32).length ≤ 32 := by simp; omega
      refine ⟨rfl, ?_, ?_⟩ <;> simp only [nb, tb, maxL, List.getElem?_cons_succ, List.getElem?_cons_zero, Option.map_some, Option.getD_some] <;> omega
    exact ⟨.inr rfl, _, _, _, rfl, rfl, rfl, rfl, rfl⟩

theorem string_ok (a : T) (ha : a = .e .nilp ∨ a = .ptr 0 []) (bs : List E) :
    FnG Try.prog tb 36 (bld a bs.length bs) [.ptr 0 []] (fun d t => d = .t 9 (.e (.str (bs.map byteOf))) ∧ t = [.tree 60 (.st [a, .msl 1 bs.length]), .mrow 5 false bs]) := by
  refine FnG_of_V (fn := Try.f36) (bt := 4) false [] [9] (ok 2 _) Try.func36 rfl rfl rfl fun _ _ _ _ _ _ => ?_
  apply V_of_VX
  refine VX_go3 (fs := []) (ok 2 _) eqs trivial 100 [] rfl trivial ?_
  refine VX_draw [1] [(0, true), (1, true), (2, true), (3, true), (4, true), (5, true), (6, true), (7, true), (8, true), (9, true), (10, false), (11, true)] mixed (by kernel_rfl) (by kernel_rfl) (by kernel_rfl) ?_
  refine VX_go3 (fs := []) (ok 2 _) eqs trivial 100 [] rfl rfl ?_
  refine VX_opO rfl rfl rfl (OpF_unsafeString (ok 2 _) rfl rfl rfl rfl rfl rfl rfl rfl rfl rfl rfl rfl (by simp)) ?_
  rintro d s ⟨rfl, rfl⟩
  refine VX_go3 (fs := []) (ok 2 _) eqs trivial 100 [] rfl trivial ?_
  rcases ha with rfl | rfl
  · exact ⟨.inr rfl, _, _, _, rfl, rfl, rfl, rfl, rfl⟩
  · exact ⟨.inr rfl, _, _, _, rfl, rfl, rfl, rfl, rfl⟩
end Go.Den.Q03
