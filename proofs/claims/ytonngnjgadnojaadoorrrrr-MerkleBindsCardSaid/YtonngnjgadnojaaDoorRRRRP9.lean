/- The calculus and the walks, part 9: Q7V, Q7X, DenNewM, DenTsl, DenMap, DenMap2, DenMap3, DenMap4, DenMap5, Q7G, Q7H. -/
import Derived.Test.YtonngnjgadnojaaDoorRRRRP8
import Derived.Test.YtonngnjgadnojaaDoorRRRRRows
import Derived.WalkKit
import Derived.ProofKit
import Derived.OpenShut
import Derived.ShutString
import Derived.ChangeOld
import Derived.LaidMore
import Derived.Stop.Joined
import Derived.Below
import Derived.Test.YtonngnjgadnojaaDoorRRRRP6
import Derived.WideKeyRuns
/- Law 07: the chapter's example; MerkleBranches. -/
namespace Go.Den.Q7.Me
open Go Go.Den Go.Proofs Go.Den.Q7 Go.Den.Q7.Dg
set_option maxRecDepth 8000
set_option linter.unusedVariables false
set_option linter.unusedSimpArgs false
open Go.Den.Q7.Sh (dgE)

def d1 : Dig := 1 :: List.replicate 31 0
def d2 : Dig := 2 :: List.replicate 31 0
theorem aw_all : All32 [d1, d2] := fun d hd => by
  simp only [List.mem_cons, List.not_mem_nil, or_false] at hd
  rcases hd with rfl | rfl <;> rfl
theorem upTo_32 {B : List Dig} (h : B.length = 32) : upTo B = 32 := by unfold upTo; rw [if_neg (by omega)]; exact h
theorem proves_br {L : List Dig} {k : Nat} (hk : k < L.length) (hl : L.length ≤ 4294967296) (z : Dig) : provesB (rootB L) (L.getD k z) k (brL L k 32) = true := by
  have h1 := brL_length L k 32
  have h2 := cl_root hk hl
  unfold provesB climbB
  rw [upTo_32 h1, ← nd_zero hk, h2]; simp [h1]
set_option maxHeartbeats 800000 in
theorem awake_ok : FnOk Tryd.prog tb 5 [] [4] [] [.bool true] := by
  refine FnOk_of_V (fn := Tryd.f5) (bt := 4) (ok 0 _) Tryd.func5 rfl rfl rfl (by decide) fun hw => ?_
  clear hw
  apply V_of_VX
  have c1 := (branch_ok (L := [d1, d2]) (by decide) aw_all 1 (by decide)).g
  have c2 := (of_ok (L := []) (by decide) (fun d h => by simp at h)).g
  have c3 := (nought_ok 32 (by decide)).g
  have c4 := (of_ok (L := [d1, d2]) (by decide) aw_all).g
  have hbl := brL_length [d1, d2] 1 32
  have hba := brL_all aw_all 1 32
  have hp : provesB (rootB [d1, d2]) d2 1 (brL [d1, d2] 1 32) = true := proves_br (L := [d1, d2]) (k := 1) (by decide) (by decide) []
  rw [rootB_nil] at c2
  generalize brL [d1, d2] 1 32 = B at c1 hbl hba hp
  generalize rootB [d1, d2] = R at c4 hp
  generalize nght 32 = n32 at c2 c3
  have c5 := (proves_ok (root := R) (leaf := d2) (B := B) rfl hba (by omega) 1 (by decide)).g
  rw [hp] at c5
  refine VX_go4 (fs := []) (ok 0 _) eqs trivial 100 [] rfl (by simp [allP]) ?_
  refine VX_callD (ok 0 _) [44, 22, 3] [] rfl rfl rfl rfl rfl rfl c1 rfl rfl rfl ?_
  refine VX_go4 (fs := []) (ok 0 _) eqs trivial 100 [] rfl trivial ?_
  refine VX_callD (ok 0 _) [44, 22] [] rfl rfl rfl rfl rfl rfl c2 rfl rfl rfl ?_
  refine VX_callD (ok 0 _) [44, 3] [] rfl rfl rfl rfl rfl rfl c3 rfl rfl rfl ?_
  refine VX_go4 (fs := []) (ok 0 _) eqs trivial 100 [13] rfl trivial ?_
  refine VX_known 12 true rfl rfl (eqDg _) ?_
  refine VX_go4 (fs := []) (ok 0 _) eqs trivial 100 [16] rfl trivial ?_
  refine VX_known 15 true rfl rfl (by simp) ?_
  refine VX_go4 (fs := []) (ok 0 _) eqs trivial 100 [] rfl (by simp [allP]) ?_
  refine VX_callD (ok 0 _) [44, 22] [] rfl rfl rfl rfl rfl rfl c4 rfl rfl rfl ?_
  refine VX_go4 (fs := []) (ok 0 _) eqs trivial 100 [] rfl trivial ?_
  refine VX_callD (ok 0 _) [44, 24, 24, 25, 22] [] rfl rfl rfl rfl rfl rfl c5 rfl rfl rfl ?_
  refine VX_go4 (fs := []) (ok 0 _) eqs trivial 100 [] rfl trivial ?_
  exact ⟨.inr rfl, rfl⟩

theorem wt_u8 {t : TypeId} {x : E} (h : Wt tb t x) (ht : td tb t = .int .u8) : ∃ b : UInt8, x = byteE b := by
  obtain ⟨n, rfl, hn⟩ := wt_int h ht
  simp only [inR, Bool.and_eq_true, decide_eq_true_eq] at hn
  exact ⟨UInt8.ofNat n.toNat, by simp only [byteE, UInt8.toNat_ofNat']; congr 1; omega⟩
theorem wt_dg {t : TypeId} {x : E} (h : Wt tb t x) (ht : td tb t = .arr 32 5) : ∃ d : {d : Dig // d.length = 32}, x = dgE d.val := by
  obtain ⟨l, rfl, hl, hw⟩ := wt_arr h ht
  obtain ⟨d, rfl⟩ := map_ex fun y hy => wt_u8 (hw y hy) rfl
  exact ⟨⟨d, by simpa using hl⟩, rfl⟩
theorem wt_digs {t : TypeId} {x : E} (h : Wt tb t x) (ht : td tb t = .sl 24) : ∃ L : List Dig, x = dsE L ∧ All32 L := by
  obtain ⟨l, rfl, hl⟩ := wt_sl h ht
  obtain ⟨L, rfl⟩ := map_ex fun y hy => wt_dg (hl y hy) rfl
  refine ⟨L.map (·.val), by simp [dsE], fun d hd => ?_⟩
  obtain ⟨z, _, rfl⟩ := List.mem_map.1 hd
  exact z.2
theorem wt_u32 {t : TypeId} {x : E} (h : Wt tb t x) (ht : td tb t = .int .u32) : ∃ n : Nat, x = .int n ∧ n < 4294967296 := by
  obtain ⟨n, rfl, hn⟩ := wt_int h ht
  simp only [inR, Bool.and_eq_true, decide_eq_true_eq] at hn
  exact ⟨n.toNat, by congr 1; omega, by omega⟩
theorem branches_any {L : List Dig} (hl : L.length ≤ 4096) (hL : All32 L) (k : Int) : ∃ R e, R.length ≤ 100 ∧ FnOk Tryd.prog tb 6 [44, 22, 3] [22, 27] [.nilp, dsE L, .int k] [dsE R, .int e] ∧ FnOk Tryd.prog tb 7 [38, 22, 3] [22, 3] [.nilp, dsE L, .int k] [dsE R, .int e] := by
  by_cases h : k < 0 ∨ (L.length : Int) ≤ k
  · exact ⟨[], 2, by simp, branch_bad k h, rbranch_bad k h⟩
  · obtain ⟨n, rfl⟩ := Int.eq_ofNat_of_zero_le (a := k) (by omega)
    exact ⟨brL L n 32, 0, by rw [brL_length]; omega, branch_ok hl hL n (by omega), rbranch_ok hl hL n (by omega)⟩
set_option maxHeartbeats 1600000 in
theorem branches_ok (x0 x1 x2 x3 x4 x5 : E) : FnOk Tryd.prog tb 3 [22, 3, 24, 24, 25, 22] [4] [x0, x1, x2, x3, x4, x5] [.bool true] := by
  refine FnOk_of_V (fn := Tryd.f3) (bt := 4) (ok 0 _) Tryd.func3 rfl rfl rfl (by decide) fun hw => ?_
  obtain ⟨L, rfl, hL⟩ := wt_digs (hw 0 _ x0 rfl rfl) rfl
  obtain ⟨k, rfl, _⟩ := wt_int (hw 1 _ x1 rfl rfl) (k := .i64) rfl
  obtain ⟨⟨root, hr⟩, rfl⟩ := wt_dg (hw 2 _ x2 rfl rfl) rfl
  obtain ⟨⟨leaf, hf⟩, rfl⟩ := wt_dg (hw 3 _ x3 rfl rfl) rfl
  obtain ⟨m, rfl, hm⟩ := wt_u32 (hw 4 _ x4 rfl rfl) rfl
  obtain ⟨B, rfl, hB⟩ := wt_digs (hw 5 _ x5 rfl rfl) rfl
  clear hw
  simp only
  apply V_of_VX
  have hlm : (L.map dgE).length = L.length := by simp
  have hbm : (B.map dgE).length = B.length := by simp
  refine VX_go4 (fs := []) (ok 0 _) eqs trivial 100 [] rfl trivial ?_
  refine VX_callD (ok 0 _) [] [] rfl rfl rfl rfl rfl rfl awake_ok.g rfl rfl rfl ?_
  refine VX_go4 (fs := []) (ok 0 _) eqs trivial 100 [] rfl trivial ?_
  refine VX_known 18 false rfl rfl rfl ?_
  refine VX_go4 (fs := []) (ok 0 _) eqs trivial 100 [] rfl trivial ?_
  refine VX_split 22 rfl rfl (fun h => ?_) (fun h => ?_)
  · refine VX_go4 (fs := []) (ok 0 _) eqs trivial 100 [] rfl trivial ?_
    refine VX_callD (ok 0 _) [] [] rfl rfl rfl rfl rfl rfl awake_ok.g rfl rfl rfl ?_
    refine VX_go4 (fs := []) (ok 0 _) eqs trivial 100 [] rfl trivial ?_
    exact ⟨.inr rfl, rfl⟩
  have hl60 : L.length ≤ 60 := by simp only [hlm, decide_eq_false_iff_not] at h; omega
  clear h
  refine VX_go4 (fs := []) (ok 0 _) eqs trivial 100 [] rfl trivial ?_
  refine VX_split 26 rfl rfl (fun h => ?_) (fun h => ?_)
  · refine VX_go4 (fs := []) (ok 0 _) eqs trivial 100 [] rfl trivial ?_
    refine VX_callD (ok 0 _) [] [] rfl rfl rfl rfl rfl rfl awake_ok.g rfl rfl rfl ?_
    refine VX_go4 (fs := []) (ok 0 _) eqs trivial 100 [] rfl trivial ?_
    exact ⟨.inr rfl, rfl⟩
  have hb100 : B.length ≤ 100 := by simp only [hbm, decide_eq_false_iff_not] at h; omega
  clear h
  obtain ⟨R, e, hRl, c1, c2⟩ := branches_any (by omega) hL k
  have c3 := (sameList_ok (L := R) (by omega)).g
  have c4 := (climb_ok hf hB (by omega) m hm).g
  have c5 := (rclimb_ok hf hB (by omega) m hm).g
  have c6 := (proves_ok (root := root) hf hB (by omega) m hm).g
  have c7 := (rproves_ok (root := root) hf hB (by omega) m hm).g
  generalize climbB leaf m B = cl at c4 c5
  generalize provesB root leaf m B = pb at c6 c7
  refine VX_go4 (fs := []) (ok 0 _) eqs trivial 100 [] rfl trivial ?_
  refine VX_callD (ok 0 _) [44, 22, 3] [] rfl rfl rfl rfl rfl rfl c1.g rfl rfl rfl ?_
  refine VX_go4 (fs := []) (ok 0 _) eqs trivial 100 [] rfl trivial ?_
  refine VX_callD (ok 0 _) [38, 22, 3] [] rfl rfl rfl rfl rfl rfl c2.g rfl rfl rfl ?_
  refine VX_go4 (fs := []) (ok 0 _) eqs trivial 100 [] rfl trivial ?_
  refine VX_draw [] [(0, false), (1, true), (2, true), (3, true), (4, false), (5, true), (6, true), (7, true), (8, true), (9, true), (10, true), (11, true), (12, true), (13, true), (14, true), (16, true), (17, true), (18, true), (15, false), (19, false), (20, true), (21, true), (22, true), (23, true), (24, true), (25, true), (26, true), (28, true), (29, true), (30, true), (31, true), (27, false), (32, false), (33, true), (34, true), (35, true)] mixed (by kernel_rfl) (by kernel_rfl) (by kernel_rfl) ?_
  refine VX_callO (ok 0 _) [] [] rfl rfl rfl rfl rfl rfl rfl rfl awake_ok.g rfl rfl rfl ?_
  refine VX_go4 (fs := []) (ok 0 _) eqs trivial 100 [] rfl trivial ?_
  refine VX_known 41 true rfl rfl rfl ?_
  refine VX_go4 (fs := []) (ok 0 _) eqs trivial 100 [] rfl trivial ?_
  refine VX_callO (ok 0 _) [22, 22] [] rfl rfl rfl rfl rfl rfl rfl rfl c3 rfl rfl rfl ?_
  refine VX_go4 (fs := []) (ok 0 _) eqs trivial 100 [] rfl trivial ?_
  refine VX_known 46 true rfl rfl rfl ?_
  refine VX_go4 (fs := []) (ok 0 _) eqs trivial 100 [50] rfl trivial ?_
  refine VX_known 49 true rfl rfl (by simp) ?_
  refine VX_go4 (fs := []) (ok 0 _) eqs trivial 100 [] rfl trivial ?_
  refine VX_callO (ok 0 _) [44, 24, 25, 22] [] rfl rfl rfl rfl rfl rfl rfl rfl c4 rfl rfl rfl ?_
  refine VX_callO (ok 0 _) [38, 24, 25, 22] [] rfl rfl rfl rfl rfl rfl rfl rfl c5 rfl rfl rfl ?_
  refine VX_go4 (fs := []) (ok 0 _) eqs trivial 100 [61] rfl trivial ?_
  refine VX_known 60 true rfl rfl (eqDg _) ?_
  refine VX_go4 (fs := []) (ok 0 _) eqs trivial 100 [] rfl trivial ?_
  refine VX_callO (ok 0 _) [44, 24, 24, 25, 22] [] rfl rfl rfl rfl rfl rfl rfl rfl c6 rfl rfl rfl ?_
  refine VX_callO (ok 0 _) [38, 24, 24, 25, 22] [] rfl rfl rfl rfl rfl rfl rfl rfl c7 rfl rfl rfl ?_
  refine VX_go4 (fs := []) (ok 0 _) eqs trivial 100 [74] rfl trivial ?_
  refine VX_known 73 true rfl rfl (by simp) ?_
  refine VX_go4 (fs := []) (ok 0 _) eqs trivial 100 [] rfl trivial ?_
  exact ⟨.inr rfl, rfl⟩
end Go.Den.Q7.Me
/-
  What the laid variables give the walks; the world that the door leaves meets the condition.
-/
namespace Go.Proofs.YtonngnjgadnojaaDoorRRRR
open Go.ChangeShapes Go.WideShapes Go.ChangeAt Go.RowKit
set_option linter.unusedVariables false
def laid2 : List (String × DataW Unit) := Rows.merkleBranchesRow.laid
theorem own : ownKnob Tryd.prog.godebug = none := by kernel_rfl
theorem laidOut : laidOutB Tryd.prog = true := by kernel_rfl
theorem gFirst : Tryd.prog.globalNamed "pontoon/sha.first" = some 0 := by kernel_rfl
theorem gConsts : Tryd.prog.globalNamed "pontoon/sha.constants" = some 1 := by kernel_rfl
theorem tFirst : (Tryd.prog.globals[0]?).map (·.type) = some 68 := by kernel_rfl
theorem tConsts : (Tryd.prog.globals[1]?).map (·.type) = some 101 := by kernel_rfl
theorem door_met (os : Os) (args : Array Value) : laidMetH Tryd.prog laid2 ((World.doorLaid Tryd.prog 400 os).forCall (fun _ _ => 0) ⟨#[], args, []⟩).memory :=
  laidMetH_of_parts3 (fuel := 8) (laidMet_of_run' 8 (by kernel_rfl) (by kernel_rfl)) (by kernel_rfl) (by kernel_rfl)
theorem of_laid {W : World} (h : laidMetH Tryd.prog laid2 W) : Go.Den.GlRel Go.Den.Q7.tb (Go.Den.Hw W) := by
  rw [MakeChecks.laidMetH_plain _ _ _ (by kernel_rfl)] at h
  obtain ⟨ps, ⟨g0, t0, cs0, f0, p0, q0, hg0, ht0, hv0, hd0, ⟨g1, t1, cs1, f1, p1, q1, hg1, ht1, hv1, hd1, _, _⟩, _⟩, _, _⟩ := h
  obtain rfl := Option.some.inj (gFirst.symm.trans hg0)
  obtain rfl := Option.some.inj (gConsts.symm.trans hg1)
  obtain rfl := Option.some.inj (tFirst.symm.trans ht0)
  obtain rfl := Option.some.inj (tConsts.symm.trans ht1)
  intro g ty x hm
  simp only [Go.Den.Q7.tb, List.mem_cons, List.not_mem_nil, or_false] at hm
  rcases hm with hm | hm
  · cases hm
    exact Go.Den.gl_ints (ns := Go.Den.Q7.kL) Go.Den.Q7.tabOk hg1 hv1 rfl rfl hd1
  · cases hm
    exact Go.Den.gl_ints (ns := Go.Den.Q7.fL) Go.Den.Q7.tabOk hg0 hv0 rfl rfl hd0
end Go.Proofs.YtonngnjgadnojaaDoorRRRR
/- An append to an empty list that is written to afterwards. -/
namespace Go.Den
open Go
set_option linter.unusedSectionVars false
set_option linter.unusedSimpArgs false
set_option linter.unusedVariables false
section
variable {C : Cx} {o : Oper} {env : Env} {σ : List Blk}
theorem OpV_appendNewM (hC : Ok C) {x y : Operand} {t t2 u tx : TypeId} {ys : List E} (ho : o.op = .call { callee := .builtin .append, args := #[x, y], argTypes := #[t, t2] }) (ht : td C.tb t = .sl u) (hz : plain C.tb zf u = true) (hs0 : Nat.beq (sz C.tb u) 0 = false)
    (hx : opd C.tb env t x = some (.t tx (.bsl []))) (hys : SrcAt C env σ t t2 y ys) (hne : 0 < ys.length) (hp : ys.length * nb C.tb u ≤ maxL ∧ ys.length ≤ maxL) :
    OpV C o env σ (fun d s => d = .t t (.msl σ.length ys.length) ∧ s = σ ++ [.mrow u true ys]) := by
  intro H β a w hr he hd K Qx hK
  have hs0' : sz C.tb u ≠ 0 := Nat.ne_of_beq_eq_false hs0
  have hvx := opd_rel he hx
  obtain ⟨h2, hlx, news, hnr, hnew⟩ := hys H β a w u ht hr he
  have hv0 : ∃ b off, a.eval x = .slice (some ⟨b, off, none⟩) 0 0 := by
    generalize a.eval x = vx at hvx ⊢
    cases hvx with
    | @t ty v cs z aa bb => cases bb with
      | @bsl t0 u0 b off xs b1 b2 =>
        have a' := aa
        simp [VC, isAggT, b1] at a'
        exact ⟨b, off, a'.symm⟩
  obtain ⟨b0, off0, hv0⟩ := hv0
  have hnews : ∀ w', (∀ b o v, w.cell? ⟨b, o, none⟩ = some v → w'.cell? ⟨b, o, none⟩ = some v) → (Builtin.firstCells (sz C.tb u) ys.length (a.eval y)).run C.P w' = .ok news.toArray w' := fun w' h => by
    have := hnew ys.length (Nat.le_refl _) w' h
    rwa [← hnr.len, List.take_length] at this
  have hrun := run_append_any hC (ty := o.type) ht hz (ba := some ⟨b0, off0, none⟩) (n := 0) (cap := 0) (m := ys.length) (x := a.eval y) (olds := []) (news := news) (w := w) h2 hlx (fun _ _ => trivial) hnews (by simp)
    (fun b off ha j v hj => by simp at hj) (fun ha => by cases ha) (fun aa haa => by cases haa; rfl) hnr.len (hnr.one hC.tab) (fun hr => by omega) (by simpa using hp.1) (by simpa using hp.2)
  rcases hrun with ⟨h, _⟩ | ⟨_, nc, zs, h1, hzl, hrun⟩
  · omega
  simp only [Nat.zero_add, List.nil_append] at h1 hzl hrun
  let ob : Obj := .cells (news ++ zs).toArray u
  have hlen : (news ++ zs).length = nc * sz C.tb u := by
    rw [List.length_append, hnr.len, hzl, ← Nat.add_mul]; congr 1; omega
  let f : Nat → Own := fun o => if o < (news ++ zs).length then .mine σ.length else .none
  obtain ⟨hr2, hev⟩ := hr.drew.alloc ob f [.slice (some ⟨w.heap.size, 0, none⟩) ys.length nc] [.mrow u true ys] rfl (fun o v hv => by
      have hv' : (if o < (news ++ zs).length then Own.mine σ.length else .none) = .pers v := hv
      split at hv' <;> cases hv') (fun i k bv hk hv => by
    have hi : i = 0 := by have := (List.getElem?_eq_some_iff.1 hk).1; simp at this; omega
    subst hi
    simp at hk hv; subst hk; subst hv
    refine .inr ⟨w.heap.size, nc, news, zs, rfl, ⟨h1, by omega⟩, maxL_N hp.2, ?_, hlen, fun _ => ?_, fun j v hj => ?_⟩
    · refine ⟨hnr.len, fun i x hx => (hnr.el i x hx).mono fun b o v hb => ?_⟩
      have := hr.dom b o (by rw [hb]; simp)
      show hAlloc H w.heap.size f b o = _
      rw [hAlloc_old (by omega)]; exact hb
    · show (w.drew.alloc ob).shape? w.drew.heap.size = _
      rw [shape?_alloc_new]; simp only [List.size_toArray, hlen]
    · have hjl : j < (news ++ zs).length := (List.getElem?_eq_some_iff.1 hj).1
      refine ⟨?_, ?_, ?_⟩
      · have := World.cell?_alloc_new w.drew (news ++ zs).toArray u j
        show (w.drew.alloc ob).cell? ⟨w.drew.heap.size, j, none⟩ = _
        rw [this]; simpa using hj
      · show hAlloc H w.heap.size f w.heap.size j = _
        rw [hAlloc_new]; show (if j < (news ++ zs).length then Own.mine σ.length else .none) = _
        rw [if_pos hjl]; simp
      · exact World.frozen?_alloc_new w.drew _ _ _)
  have hstp : Stp H w _ (w.drew.alloc ob) := (Stp.drew H w).trans (Stp.alloc (w := w.drew) hr.dom ob f)
  have hex : (execOp a.eval o).run C.P w = .ok (.value (.slice (some ⟨w.heap.size, 0, none⟩) ys.length nc)) (w.drew.alloc ob) := by
    rw [opdArgs2 ho, hv0]
    simp [builtin, hrun, ob]
  simp only [Oper.wp, hex, Oper.upon]
  refine hK _ _ _ _ _ _ ⟨rfl, rfl⟩ hr2 ?_ hstp hev
  refine .t (cs := [.slice (some ⟨w.heap.size, 0, none⟩) ys.length nc]) (by simp [VC, isAggT, ht]) (.msl ht ⟨_, _, rfl, maxL_N hp.2⟩ ⟨true, ys, by simp, Nat.le_refl _, fun _ => by simp [← hr.len]⟩)
end
end Go.Den
/- Lists whose elements are the function's own slices: made, told of, read. -/
namespace Go.Den
open Go
set_option linter.unusedSectionVars false
set_option linter.unusedSimpArgs false
set_option linter.unusedVariables false

def argT (tb : Tab) (env : Env) (t : TypeId) (x : Operand) : Option T := match opd tb env t x with
  | some d => asT tb t d
  | none => none
/-- The elements of a literal, all of them there and in order, own ones too. -/
def denseT (tb : Tab) (env : Env) (u : TypeId) : Nat → List (Nat × Operand) → Option (List T)
  | _, [] => some []
  | k, (i, x) :: ps => match Nat.beq i k with
    | true => match argT tb env u x with
      | some y => match denseT tb env u (k + 1) ps with
        | some ys => some (y :: ys)
        | none => none
      | none => none
    | false => none

structure RowT (tb : Tab) (H : Gh) (β : List Value) (σ : List Blk) (u : TypeId) (cs : List Value) (xs : List T) : Prop where
  len : cs.length = xs.length * sz tb u
  el : ∀ (i : Nat) (x : T), xs[i]? = some x → TRel tb H β σ u (seg cs (i * sz tb u) (sz tb u)) x

section
variable {C : Cx} (hC : Ok C) {o : Oper} {env : Env} {σ : List Blk}
include hC
theorem argT_rel {H β n a} (he : EnvRel C.tb H β σ n a env) {t x y} (h : argT C.tb env t x = some y) : ∃ cs, VC C.tb t (a.eval x) cs ∧ TRel C.tb H β σ t cs y := by
  unfold argT at h
  split at h
  · rename_i d hd; exact asT_rel hC (opd_rel he hd) h
  · cases h

theorem fill_denseT {H β a n} (he : EnvRel C.tb H β σ n a env) {u : TypeId} : ∀ (ps : List (Nat × Operand)) (ys : List T) (k : Nat) (done rest : List Value), denseT C.tb env u k ps = some ys → done.length = k * sz C.tb u → rest.length = ys.length * sz C.tb u →
    ∃ cs, Instr.fill (fun i => some (i * sz C.tb u, sz C.tb u)) (done ++ rest).toArray (ps.map fun p => (p.1, a.eval p.2)) = some (done ++ cs).toArray ∧ RowT C.tb H β σ u cs ys
  | [], ys, k, done, rest, h, h1, h2 => by
    simp [denseT] at h; subst h
    have : rest = [] := List.length_eq_zero_iff.1 (by simpa using h2)
    subst this
    exact ⟨[], rfl, ⟨by simp, fun i x hx => by simp at hx⟩⟩
  | (i, x) :: ps, ys, k, done, rest, h, h1, h2 => by
    unfold denseT at h
    split at h
    · rename_i hik
      have hik := Nat.eq_of_beq_eq_true hik
      subst hik
      split at h
      · rename_i y hy
        split at h
        · rename_i zs hzs
          cases h
          obtain ⟨vs, hvc, hrd⟩ := argT_rel hC he hy
          have hvl := hrd.len hC.tab
          have hrl : rest.length = (zs.length + 1) * sz C.tb u := by simpa using h2
          rw [Nat.add_mul, Nat.one_mul] at hrl
          have hf := fill_one (place := fun i => some (i * sz C.tb u, sz C.tb u)) (cs := done ++ rest) (v := a.eval x) (rest := ps.map fun p => (p.1, a.eval p.2)) (i := i) rfl (hvc.cells hrd hC.tab) hvl (by simp; omega)
          have hsp : splice (done ++ rest) (i * sz C.tb u) vs = (done ++ vs) ++ rest.drop vs.length := by
            unfold splice
            rw [← h1, List.take_left, ← List.drop_drop, List.drop_left]
          obtain ⟨cs, k1, k2⟩ := fill_denseT he ps zs (i + 1) (done ++ vs) (rest.drop vs.length) hzs (by simp [h1, hvl, Nat.add_mul]) (by simp; omega)
          refine ⟨vs ++ cs, ?_, ?_, ?_⟩
          · rw [List.map_cons, hf, hsp, k1]; simp
          · simp [hvl, k2.len, Nat.add_mul]; omega
          · intro j z hz
            cases j with
            | zero =>
              simp at hz; subst hz
              have : seg (vs ++ cs) (0 * sz C.tb u) (sz C.tb u) = vs := by simp [seg, ← hvl]
              rw [this]; exact hrd
            | succ j =>
              have := k2.el j z (by simpa using hz)
              have e : seg (vs ++ cs) ((j + 1) * sz C.tb u) (sz C.tb u) = seg cs (j * sz C.tb u) (sz C.tb u) := by
                unfold seg
                rw [Nat.add_mul, Nat.one_mul, Nat.add_comm, ← hvl, ← List.drop_drop, List.drop_left]
              rw [e]; exact this
        · cases h
      · cases h
    · cases h

theorem OpV_buildTsl {t u : TypeId} {len : Nat} {ps : Array (Nat × Operand)} {ys : List T} (ho : o.op = .buildSlice t len ps) (ht : td C.tb t = .sl u) (hz : plain C.tb zf u = true)
    (hys : denseT C.tb env u 0 ps.toList = some ys) (hl : ys.length = len) (hb : len * sz C.tb u ≤ 16777216) (hlm : len ≤ maxN) : OpV C o env σ (fun d s => d = .t t (.tsl ys) ∧ s = σ) := by
  intro H β a w hr he hd K Qx hK
  have hu := plain_ne hz
  have hlt := hC.tab.lt_of_td hu
  obtain ⟨z, hzr, hzc⟩ := hC.zero.get hC.tab hz w
  have hmap : (ps.map fun (i, x) => (i, a.eval x)).toList = ps.toList.map fun p => (p.1, a.eval p.2) := by simp
  have key : ∀ Z : Array Value, Z.size = len * sz C.tb u → ∃ cs, Instr.fill (fun i => some (i * sz C.tb u, sz C.tb u)) Z (ps.map fun (i, x) => (i, a.eval x)).toList = some cs.toArray ∧ RowT C.tb H β σ u cs ys := fun Z hZ => by
    obtain ⟨cs, k1, k2⟩ := fill_denseT hC he ps.toList ys 0 [] Z.toList hys (by simp) (by rw [hl]; simpa using hZ)
    exact ⟨cs, by rw [hmap]; simpa using k1, k2⟩
  have hnb : ¬ (len * sz C.tb u > 2 ^ 24) := by omega
  have hrun : ∃ cs, RowT C.tb H β σ u cs ys ∧ (execOp a.eval o).run C.P w = .ok (.value (.slice (some ⟨w.heap.size, 0, none⟩) len len)) (w.alloc (.cells cs.toArray u)) := by
    simp only [execOp, ho, Instr.buildSlice, Sem.run_bind, run_underlying_of hC.tab (hC.tab.sl ht), Result.andThen, run_sizeOf_of hC.tab hlt, if_neg hnb, Sem.run_pure]
    by_cases h0 : len * sz C.tb u = 0
    · obtain ⟨cs, k1, k2⟩ := key #[] (by simp [h0])
      refine ⟨cs, k2, ?_⟩
      have h00 : Array.range 0 = #[] := rfl
      simp only [h0, if_true, Sem.run_pure, h00, Array.map_empty, k1]
      simp [newRow]
    · obtain ⟨cs, k1, k2⟩ := key ((Array.range (len * sz C.tb u)).map fun j => z.cells[j % z.cells.size]!) (by simp)
      refine ⟨cs, k2, ?_⟩
      simp only [if_neg h0, Sem.run_bind, hzr, Result.andThen, Sem.run_pure, k1]
      simp [newRow]
  obtain ⟨cs, k2, hrun⟩ := hrun
  let f : Nat → Own := fun o => if o < cs.length then .pers (cs.getD o undef) else .none
  have r := hr.alloc (.cells cs.toArray u) f [] [] rfl (fun o v hv => by
      have hv' : (if o < cs.length then Own.pers (cs.getD o undef) else .none) = .pers v := hv
      split at hv'
      · rename_i h; cases hv'
        rw [World.cell?_alloc_new]; simp only [List.getElem?_toArray, List.getD, List.getElem?_eq_getElem h, Option.getD_some]
      · cases hv') (fun i k bv hk => by simp at hk)
  simp only [List.append_nil] at r
  simp only [Oper.wp, hrun, Oper.upon]
  refine hK _ _ _ _ β σ ⟨rfl, rfl⟩ r.1 ?_ (Stp.alloc hr.dom _ _) r.2
  have hnag : isAggT C.tb t = false := by simp [isAggT, ht]
  refine .t (cs := [.slice (some ⟨w.heap.size, 0, none⟩) len len]) (by simp [VC, hnag]) ?_
  rw [← hl]
  refine .tsl (cs := cs) ht k2.len (fun j v hj => ?_) (fun i x hx => (k2.el i x hx).mono r.2) (by rw [hl]; exact hlm)
  have hjl := (List.getElem?_eq_some_iff.1 hj).1
  rw [Nat.zero_add, hAlloc_new]
  show (if j < cs.length then Own.pers (cs.getD j undef) else .none) = _
  rw [if_pos hjl]; simp [List.getD, hj]

theorem OpV_indexTsl {t s : Nat} {ty u : TypeId} {xs : List T} {ix : Operand} {iv : Int} (ho : o.op = .indexAddr t (.tmp s) ix) (hs : getD env s = .t ty (.tsl xs))
    (ht : td C.tb t = .sl u) (hsame : same C.tb ty t = true) (hz : sz C.tb u ≠ 0) (hx : opdN env ix = some iv) (h0 : 0 ≤ iv) (h1 : iv < xs.length) : OpV C o env σ (fun d s => d = .tel u xs iv.toNat ∧ s = σ) :=
  OpOk.v (r := ⟨True, .tel u xs iv.toNat, σ⟩) (OpOk_val fun H β a w hr he => by
    have hv := he.get s
    rw [hs] at hv
    obtain ⟨k, hk⟩ := opdN_rel he hx
    generalize hvx : a.tmps.getD s undef = vx at hv
    cases hv with
    | @t ty v cs z aa bb => cases bb with
      | @tsl t0 u0 b off cs' xs' b1 b2 b3 b4 b5 =>
        have a' := aa
        simp [VC, isAggT, b1] at a'
        subst a'
        rw [same_td hsame, ht] at b1; cases b1
        have hve : a.eval (.tmp s) = .slice (some ⟨b, off, none⟩) xs.length xs.length := hvx
        refine ⟨.pointer (some ⟨b, off + iv.toNat * sz C.tb u, none⟩), fun w' hw' => ?_, .tel b2 b3 b4 (by omega)⟩
        simp [execOp, ho, hve, hk, Instr.indexAt, asIntOf, run_underlying_of hC.tab (hC.tab.sl ht), h0, h1, run_sizeOf_of hC.tab (lt_of_sz hC hz), add_plain])

theorem OpV_loadTel {t : TypeId} {s j : Nat} {u : TypeId} {xs : List T} {x : T} (ho : o.op = .load t (.tmp s)) (hs : getD env s = .tel u xs j) (hx : xs[j]? = some x) (ht : same C.tb u t = true) : OpV C o env σ (fun d s => d = ldD t x ∧ s = σ) :=
  OpOk.v (r := ⟨True, ldD t x, σ⟩) (OpOk_val fun H β a w hr he => by
    have hv := he.get s
    rw [hs] at hv
    generalize hvx : a.tmps.getD s undef = vx at hv
    cases hv with
    | @tel u b off cs xs j h1 h2 h3 h4 =>
      have ht' := same_td ht
      have hpart := (h3 j x hx).cast hC.tab ht'
      have hin : j * sz C.tb u + sz C.tb u ≤ cs.length := by
        rw [h1]; have := Nat.mul_le_mul_right (sz C.tb u) (show j + 1 ≤ xs.length from h4); rwa [Nat.add_mul, Nat.one_mul] at this
      obtain ⟨v, hrun, hvc⟩ := run_loadVar_all hC.tab (P := C.P) (b := b) (o := off + j * sz C.tb u) (hpart.len hC.tab) hpart.td_ne
      refine ⟨v, fun w' hw' => ?_, ldD_rel hvc hpart⟩
      have hrun := hrun w' (fun i v hi => by
        have hil : i < sz C.tb u := by
          rcases Nat.lt_or_ge i (sz C.tb u) with h | h
          · exact h
          · rw [List.getElem?_eq_none (by simp [seg]; omega)] at hi; cases hi
        rw [seg_get hil] at hi
        have := hw' _ _ _ (hr.pers _ _ _ (h2 _ v hi)) (.inl ⟨_, h2 _ v hi⟩)
        rwa [← Nat.add_assoc] at this)
      simp [execOp, ho, Act.eval, hvx, Instr.loadAt, Instr.sureAddr, hrun])
end

/-- A new empty row, with an address. -/
theorem Rel.addM' {tb H β σ w} (h : Rel tb H β σ w) (u : TypeId) (a : Option (Nat × Nat)) (hu : td tb u ≠ .int .u8) : Rel tb H (β ++ [.slice (a.map fun p => ⟨p.1, p.2, none⟩) 0 0]) (σ ++ [.mrow u true []]) w ∧ Ev H β σ H (β ++ [.slice (a.map fun p => ⟨p.1, p.2, none⟩) 0 0]) (σ ++ [.mrow u true []]) := by
  have hl := h.len
  have hev : Ev H β σ H (β ++ [.slice (a.map fun p => ⟨p.1, p.2, none⟩) 0 0]) (σ ++ [.mrow u true []]) := Ev.app hl fun _ _ _ e => e
  refine ⟨⟨h.pers, h.dom, by simp [hl], fun i k bv hk hv => ?_⟩, hev⟩
  rcases Nat.lt_or_ge i σ.length with hi | hi
  · rw [List.getElem?_append_left hi] at hk
    rw [List.getElem?_append_left (by omega)] at hv
    exact (h.blk i k bv hk hv).mono hev (fun b o e => ⟨e, rfl, fun _ _ => rfl, rfl⟩) (fun b x _ _ e => e)
  · have : i = σ.length := by have := (List.getElem?_eq_some_iff.1 hk).1; simp at this; omega
    subst this
    rw [List.getElem?_append_right (Nat.le_refl _)] at hk
    rw [List.getElem?_append_right (by omega)] at hv
    simp [hl] at hk hv
    subst hk; subst hv
    exact .inl ⟨a, rfl, rfl, fun e => absurd e hu⟩

section
variable {C : Cx} {env : Env} {σ : List Blk} {Q : Post} {o : Oper}
/-- An append to an empty literal, of nothing or of something: a row that is written to afterwards. -/
theorem OpV_appendNewM0 (hC : Ok C) {x y : Operand} {t t2 u tx : TypeId} {ys : List E} (ho : o.op = .call { callee := .builtin .append, args := #[x, y], argTypes := #[t, t2] }) (ht : td C.tb t = .sl u) (hz : plain C.tb zf u = true) (hs0 : Nat.beq (sz C.tb u) 0 = false) (hu8 : td C.tb u ≠ .int .u8)
    (hx : opd C.tb env t x = some (.t tx (.bsl []))) (hys : SrcAt C env σ t t2 y ys) (hp : ys.length * nb C.tb u ≤ maxL ∧ ys.length ≤ maxL) :
    OpV C o env σ (fun d s => d = .t t (.msl σ.length ys.length) ∧ s = σ ++ [.mrow u true ys]) := by
  rcases Nat.eq_zero_or_pos ys.length with h0 | hpos
  rotate_left
  · exact OpV_appendNewM hC ho ht hz hs0 hx hys hpos hp
  have hnil : ys = [] := List.length_eq_zero_iff.1 h0
  subst hnil
  intro H β a w hr he hd K Qx hK
  have hvx := opd_rel he hx
  obtain ⟨h2, hlx, news, hnr, hnew⟩ := hys H β a w u ht hr he
  have hv0 : ∃ b off, a.eval x = .slice (some ⟨b, off, none⟩) 0 0 := by
    generalize a.eval x = vx at hvx ⊢
    cases hvx with
    | @t ty v cs z aa bb => cases bb with
      | @bsl t0 u0 b off xs b1 b2 =>
        have a' := aa
        simp [VC, isAggT, b1] at a'
        exact ⟨b, off, a'.symm⟩
  obtain ⟨b0, off0, hv0⟩ := hv0
  have hnn : news = [] := List.length_eq_zero_iff.1 (by rw [hnr.len]; simp)
  subst hnn
  have hrun := run_append_any hC (ty := o.type) ht hz (ba := some ⟨b0, off0, none⟩) (n := 0) (cap := 0) (m := 0) (x := a.eval y) (olds := []) (news := []) (w := w) h2 hlx (fun _ _ => trivial) (fun w' h => by
      have := hnew 0 (Nat.le_refl _) w' h
      simpa using this) (by simp)
    (fun b off ha j v hj => by simp at hj) (fun ha => by cases ha) (fun aa haa => by cases haa; rfl) (by simp) (fun v hv => by simp at hv) (fun hr b off _ j hj => by simp at hj) (by simp) (by simp)
  rcases hrun with ⟨_, hrun⟩ | ⟨h, _⟩
  rotate_left
  · omega
  have hip : inPlace w (some ⟨b0, off0, none⟩) (0 * sz C.tb u) [] = w := rfl
  rw [hip] at hrun
  have hex : (execOp a.eval o).run C.P w = .ok (.value (.slice (some ⟨b0, off0, none⟩) 0 0)) w := by
    rw [opdArgs2 ho, hv0]
    simp [builtin, hrun]
  simp only [Oper.wp, hex, Oper.upon]
  obtain ⟨r1, r2⟩ := hr.addM' u (some (b0, off0)) hu8
  refine hK _ _ _ _ _ _ ⟨rfl, rfl⟩ r1 ?_ (.refl _ _) r2
  exact .t (cs := [.slice (some ⟨b0, off0, none⟩) 0 0]) (by simp [VC, isAggT, ht]) (.msl ht ⟨_, _, rfl, Nat.zero_le _⟩ ⟨true, [], by simp, Nat.le_refl _, fun _ => by simp [← hr.len]⟩)
end
end Go.Den
/- Maps of lists, keyed by arrays of numbers: what the model's operations on them do, in a world. -/
namespace Go.Den
open Go
set_option linter.unusedSectionVars false
set_option linter.unusedSimpArgs false
set_option linter.unusedVariables false

/-! ### a world whose map has turned -/
def mset (w : World) (r : Nat) (es : List MapEntry) : World := { w with heap := w.heap.setIfInBounds r (.map es.toArray es.length) }
section
variable {w : World} {r : Nat} {es : List MapEntry} {c : Nat} {fs : List MapEntry}
theorem mset_self (h : w.heap[r]? = some (.map es.toArray c)) : (mset w r fs).heap[r]? = some (.map fs.toArray fs.length) := (Go.MapKept.heap_set h).1
theorem mset_other (h : w.heap[r]? = some (.map es.toArray c)) {b : Nat} (hb : b ≠ r) : (mset w r fs).heap[b]? = w.heap[b]? := (Go.MapKept.heap_set h).2 b hb
theorem mset_cell (h : w.heap[r]? = some (.map es.toArray c)) (b o : Nat) : (mset w r fs).cell? ⟨b, o, none⟩ = w.cell? ⟨b, o, none⟩ := by
  by_cases hb : b = r
  · subst hb; simp [World.cell?, mset_self h, h]
  · simp [World.cell?, mset_other h hb]
theorem mset_shape (h : w.heap[r]? = some (.map es.toArray c)) (b : Nat) : (mset w r fs).shape? b = w.shape? b := by
  by_cases hb : b = r
  · subst hb; simp [World.shape?, mset_self h, h]
  · simp [World.shape?, mset_other h hb]
theorem mset_frozen (h : w.heap[r]? = some (.map es.toArray c)) (b o : Nat) : (mset w r fs).frozen? ⟨b, o, none⟩ = w.frozen? ⟨b, o, none⟩ := by
  by_cases hb : b = r
  · subst hb; simp [World.frozen?, mset_self h, h]
  · simp [World.frozen?, mset_other h hb]
theorem mset_size : (mset w r fs).heap.size = w.heap.size := by simp [mset]
end

/-! ### keys -/
/-- A type of keys: an array of numbers. -/
def keyTy (P : Program) (tb : Tab) (k : TypeId) : Bool := match td tb k with
  | .arr _ u => (match td tb u with | .int _ => true | _ => false) && eqTy P tb 12 k && !Nat.beq (sz tb u) 0
  | _ => false
theorem keyTy_arr {P : Program} {tb : Tab} {k : TypeId} (h : keyTy P tb k = true) : ∃ n u kk, td tb k = .arr n u ∧ td tb u = .int kk ∧ eqTy P tb 12 k = true ∧ sz tb u ≠ 0 := by
  unfold keyTy at h
  split at h
  · rename_i n u hk
    simp only [Bool.and_eq_true] at h
    obtain ⟨⟨h1, h2⟩, h3⟩ := h
    split at h1
    · rename_i kk hu
      exact ⟨n, u, kk, hk, hu, h2, Nat.ne_of_beq_eq_false (by simpa using h3)⟩
    · cases h1
  · cases h

theorem Rd.key {P : Program} {tb : Tab} (hT : TabOk P tb) {H : Gh} {k : TypeId} {n : Nat} {u : TypeId} {kk : IntKind} (hk : td tb k = .arr n u) (hu : td tb u = .int kk) {cs : List Value} {x : E} (h : Rd tb H k cs x) :
    ∃ ns : List Int, x = .agg (ns.map .int) ∧ cs = ns.map (.int kk) ∧ ns.length = n := by
  have hs1 : sz tb u = 1 := hT.sz_one (by simp [isAggT, hu]) (by simp [hu])
  cases h with
  | @arr t n' u' cs xs a b c d =>
    rw [hk] at a; cases a
    rw [hs1, Nat.mul_one] at b
    have hel : ∀ (i : Nat) (x : E), xs[i]? = some x → ∃ m : Int, x = .int m ∧ cs[i]? = some (.int kk m) := fun i x hx => by
      have hr := d i x hx
      rw [hs1, Nat.mul_one] at hr
      have hi : i < cs.length := by have := (List.getElem?_eq_some_iff.1 hx).1; omega
      have hseg : seg cs i 1 = [cs[i]] := by
        unfold seg; rw [List.drop_eq_getElem_cons hi]; rfl
      rw [hseg] at hr
      generalize hv : cs[i] = v at hr
      cases hr with
      | @int t k' m a' b' =>
        rw [hu] at a'; cases a'
        exact ⟨m, rfl, by rw [List.getElem?_eq_getElem hi, hv]⟩
      | _ a' => rw [hu] at a'; cases a'
    obtain ⟨ns, rfl⟩ := map_ex (f := E.int) (l := xs) fun y hy => by
      obtain ⟨i, hi⟩ := List.getElem?_of_mem hy
      obtain ⟨m, rfl, _⟩ := hel i y hi
      exact ⟨m, rfl⟩
    refine ⟨ns, rfl, ?_, by simpa using c⟩
    apply List.ext_getElem?
    intro i
    by_cases hi : i < ns.length
    · obtain ⟨m, h1, h2⟩ := hel i (.int ns[i]) (by simp [hi])
      cases h1
      rw [h2]; simp [hi]
    · have : cs.length = ns.length := by simpa [b] using c.symm
      rw [List.getElem?_eq_none (by omega), List.getElem?_eq_none (by simp; omega)]
  | _ a => rw [hk] at a; cases a

theorem eqEs_int : ∀ {a b : List Int}, eqEs (a.map .int) (b.map .int) = decide (a = b)
  | [], [] => by simp [eqEs]
  | x :: a, y :: b => by
    simp only [List.map_cons, eqEs, eqE, eqEs_int (a := a) (b := b), List.cons.injEq]
    by_cases h1 : x = y <;> by_cases h2 : a = b <;> simp [h1, h2]
  | [], _ :: _ => by simp [eqEs]
  | _ :: _, [] => by simp [eqEs]

theorem run_checkKey_arr {P : Program} {tb : Tab} (hT : TabOk P tb) {H : Gh} {k : TypeId} (hk : keyTy P tb k = true) {v : Value} {cs : List Value} {x : E} (hv : VC tb k v cs) (hx : Rd tb H k cs x) (em : Bool) (m : Nat) (w : World) :
    (Instr.checkKey em (m + 2) k v).run P w = .ok () w := by
  obtain ⟨n, u, kk, hk1, hu, _, _⟩ := keyTy_arr hk
  obtain ⟨ns, rfl, rfl, hn⟩ := hx.key hT hk1 hu
  have hs1 : sz tb u = 1 := hT.sz_one (by simp [isAggT, hu]) (by simp [hu])
  have hlt : u < tb.rows.length := hT.lt_of_td (by simp [hu])
  have hve : v = .agg (ns.map (Value.int kk)).toArray := by simpa [VC, isAggT, hk1] using hv
  subst hve
  rw [Instr.checkKey]
  simp only [Sem.run_bind, run_underlying_of hT (hT.arr hk1), Result.andThen_ok]
  simp only [Std.Legacy.Range.forIn_eq_forIn_range', Std.Legacy.Range.size, Nat.sub_zero, Nat.add_one_sub_one, Nat.div_one]
  have each : ∀ j ∈ List.range' 0 n, j < ns.length := fun j hj => by simp at hj; omega
  generalize List.range' 0 n = is at each
  induction is with
  | nil => simp
  | cons j is ih =>
    have hj := each j (by simp)
    obtain ⟨a, hp, hva⟩ := run_part' hT (P := P) (t := u) (cs := ns.map (Value.int kk)) (off := j * sz tb u) (by simp [hu]) (by rw [hs1]; simp; omega)
    have ha : a = .int kk ns[j] := by
      rw [hs1, Nat.mul_one] at hva
      have hseg : seg (ns.map (Value.int kk)) j 1 = [.int kk ns[j]] := by
        unfold seg; rw [List.drop_eq_getElem_cons (by simpa using hj)]; simp
      rw [hseg] at hva
      have : isAggT tb u = false := by simp [isAggT, hu]
      simp [VC, this] at hva
      exact hva.symm
    have hc : (Instr.checkKey em (m + 1) u a).run P w = .ok () w := by
      subst ha
      simp [Instr.checkKey, run_underlying_of hT (hT.int hu)]
    simp only [List.forIn_cons, Sem.run_bind, run_sizeOf_of hT hlt, Result.andThen_ok, hp w, hc, Sem.run_pure]
    exact ih fun y hy => each y (by simp [hy])

theorem sameBits_ints {kk : IntKind} (ns : List Int) (m : Nat) : Instr.sameBits (m + 2) (.agg (ns.map (Value.int kk)).toArray) (.agg (ns.map (Value.int kk)).toArray) = true := by
  simp only [Instr.sameBits, Bool.and_eq_true, List.all_eq_true]
  refine ⟨by simp, fun p hp => ?_⟩
  have : p.1 = p.2 ∧ ∃ x, p.1 = .int kk x := by
    obtain ⟨i, hi⟩ := List.getElem?_of_mem hp
    rw [List.getElem?_zip_eq_some] at hi
    obtain ⟨h1, h2⟩ := hi
    rw [h1] at h2
    rw [List.getElem?_map, Option.map_eq_some_iff] at h1
    obtain ⟨x, _, hx⟩ := h1
    exact ⟨Option.some.inj h2, x, hx.symm⟩
  obtain ⟨h1, x, h2⟩ := this
  rw [← h1, h2]
  simp [Instr.sameBits]

/-! ### finding -/
abbrev Ent := E × List E × Bool
def mpIdx (y : E) : List Ent → Nat → Option Nat
  | [], _ => none
  | x :: es, i => match eqE y x.1 with
    | true => some i
    | false => mpIdx y es (i + 1)
theorem mpIdx_get {y : E} : ∀ {es : List Ent} {i j : Nat}, mpIdx y es i = some j → ∃ x, i ≤ j ∧ es[j - i]? = some x ∧ eqE y x.1 = true
  | [], _, _, h => by simp [mpIdx] at h
  | x :: es, i, j, h => by
    simp only [mpIdx] at h
    split at h
    · rename_i he; cases h; exact ⟨x, Nat.le_refl _, by simp, he⟩
    · obtain ⟨z, h1, h2, h3⟩ := mpIdx_get h
      refine ⟨z, by omega, ?_, h3⟩
      rw [show j - i = (j - (i + 1)) + 1 by omega]; simpa using h2

theorem run_findAsking_arr {P : Program} {tb : Tab} (hT : TabOk P tb) {H : Gh} {k : TypeId} (hk : keyTy P tb k = true) {v : Value} {cs : List Value} {y : E} (hv : VC tb k v cs) (hy : Rd tb H k cs y) (w : World) :
    ∀ (ms : List MapEntry) (es : List Ent) (i : Nat), ms.length = es.length → (∀ (j : Nat) (m : MapEntry) (x : Ent), ms[j]? = some m → es[j]? = some x → ∃ cs, VC tb k m.key cs ∧ Rd tb H k cs x.1) →
      (Instr.findAsking k v ms i).run P w = .ok ((mpIdx y es i).map fun j => (j, ((ms[j - i]?).map (·.val)).getD undef)) w
  | [], [], i, _, _ => by simp [Instr.findAsking, mpIdx]
  | m :: ms, x :: es, i, hl, h => by
    obtain ⟨_, _, _, _, _, he, _⟩ := keyTy_arr hk
    obtain ⟨cs', h1, h2⟩ := h 0 m x rfl rfl
    have heq := equalIn_ok hT (H := H) 12 10000 k he (by omega) cs cs' y x.1 v m.key w hy h2 hv h1
    have heq' : (Op.equal k v m.key).run P w = .ok (eqE y x.1) w := heq
    unfold Instr.findAsking
    simp only [Sem.run_bind, heq', Result.andThen_ok, mpIdx]
    cases hb : eqE y x.1 with
    | true => simp
    | false =>
      have ih := run_findAsking_arr hT hk hv hy w ms es (i + 1) (by simpa using hl) fun j m' x' hm hx => h (j + 1) m' x' (by simpa using hm) (by simpa using hx)
      simp only [Bool.false_eq_true, if_false]
      rw [ih]
      cases hq : mpIdx y es (i + 1) with
      | none => rfl
      | some j =>
        obtain ⟨_, hle, _⟩ := mpIdx_get hq
        simp only [Option.map_some]
        rw [show j - i = (j - (i + 1)) + 1 by omega]
        simp
  | [], _ :: _, _, hl, _ => by simp at hl
  | _ :: _, [], _, hl, _ => by simp at hl
theorem run_findKey_arr {P : Program} {tb : Tab} (hT : TabOk P tb) {H : Gh} {k : TypeId} (hk : keyTy P tb k = true) {v : Value} {cs : List Value} {y : E} (hv : VC tb k v cs) (hy : Rd tb H k cs y) (w : World) {ms : List MapEntry} {es : List Ent} (hl : ms.length = es.length)
    (h : ∀ (j : Nat) (m : MapEntry) (x : Ent), ms[j]? = some m → es[j]? = some x → ∃ cs, VC tb k m.key cs ∧ Rd tb H k cs x.1) :
    (Instr.findKey k v ms).run P w = .ok ((mpIdx y es 0).map fun j => (j, ((ms[j]?).map (·.val)).getD undef)) w := by
  obtain ⟨n, u, kk, hk1, hu, _, _⟩ := keyTy_arr hk
  rw [run_findKey_eq w (by rw [hT.arr hk1]) v ms]
  exact run_findAsking_arr hT hk hv hy w ms es 0 hl h
end Go.Den
/- Maps of lists: the operations. -/
namespace Go.Den
open Go
set_option linter.unusedSectionVars false
set_option linter.unusedSimpArgs false
set_option linter.unusedVariables false

/-- A type whose nought is the nil slice. -/
def zeroNil (P : Program) (t : TypeId) : Bool := match P.info? t with
  | some i => match i.zero with
    | some (.slice none 0 0) => true
    | _ => false
  | none => false
theorem zeroNil_run {P : Program} {t : TypeId} (h : zeroNil P t = true) (w : World) : (zeroValue t).run P w = .ok (.slice none 0 0) w := by
  unfold zeroNil at h
  split at h
  · rename_i i hi
    split at h
    · rename_i hz; simp [zeroValue, typeInfo, hi, hz]
    · cases h
  · cases h

theorem RowR.range {tb : Tab} {H : Gh} {w : World} {i : Nat} {v : Value} {e : TypeId} {n : Nat} (h : RowR tb H w i v e n) :
    ∃ b lo hi, (∀ o, lo ≤ o → o < hi → (∃ u, w.cell? ⟨b, o, none⟩ = some u) ∧ H b o = .mine i ∧ w.frozen? ⟨b, o, none⟩ = false) ∧
      (∀ H' w' i', (∀ o, lo ≤ o → o < hi → (∃ u, w'.cell? ⟨b, o, none⟩ = some u) ∧ H' b o = .mine i' ∧ w'.frozen? ⟨b, o, none⟩ = false) → RowR tb H' w' i' v e n) ∧
      ∀ b' o', Spare tb e v n b' o' ↔ (b' = b ∧ lo ≤ o' ∧ o' < hi) := by
  rcases h with ⟨rfl, rfl⟩ | ⟨b, off, c, rfl, hc, h⟩
  · refine ⟨0, 0, 0, fun o h1 h2 => by omega, fun H' w' i' _ => .inl ⟨rfl, rfl⟩, fun b' o' => Iff.intro (fun ⟨off, c, he, _⟩ => by cases he) (fun ⟨_, h1, h2⟩ => by omega)⟩
  · refine ⟨b, off + n * sz tb e, off + c * sz tb e, fun o h1 h2 => ?_, fun H' w' i' h' => .inr ⟨b, off, c, rfl, hc, fun j h1 h2 => h' (off + j) (by omega) (by omega)⟩, fun b' o' => ⟨?_, ?_⟩⟩
    · have := h (o - off) (by omega) (by omega)
      rwa [show off + (o - off) = o by omega] at this
    · rintro ⟨off', c', he, h1, h2⟩
      cases he
      exact ⟨rfl, h1, h2⟩
    · rintro ⟨rfl, h1, h2⟩
      exact ⟨off, c, rfl, h1, h2⟩

/-- Some cells of a block's own go over to another block. -/
def moveH (H : Gh) (b lo hi K : Nat) : Gh := fun b' o' => if b' = b ∧ lo ≤ o' ∧ o' < hi then .mine K else H b' o'

structure Mv (H H' : Gh) : Prop where
  mv : ∀ b o, H' b o = H b o ∨ ∃ j j', H b o = .mine j ∧ H' b o = .mine j'
theorem Mv.pers {H H' : Gh} (h : Mv H H') {b o v} : H b o = .pers v ↔ H' b o = .pers v := by
  rcases h.mv b o with e | ⟨j, j', e1, e2⟩
  · rw [e]
  · rw [e1, e2]; simp
theorem Mv.none {H H' : Gh} (h : Mv H H') {b o} (hn : H' b o ≠ .none) : H b o ≠ .none := by
  rcases h.mv b o with e | ⟨j, j', e1, e2⟩
  · rwa [← e]
  · rw [e1]; simp
theorem Mv.of_move {H : Gh} {b lo hi K i : Nat} (h : ∀ o, lo ≤ o → o < hi → H b o = .mine i) : Mv H (moveH H b lo hi K) := ⟨fun b' o' => by
  unfold moveH
  split
  · rename_i hh; obtain ⟨rfl, h1, h2⟩ := hh; exact .inr ⟨i, K, h o' h1 h2, rfl⟩
  · exact .inl rfl⟩
theorem Mv.refl (H : Gh) : Mv H H := ⟨fun _ _ => .inl rfl⟩

theorem Rel.mpTo {tb : Tab} {H β σ w} (h : Rel tb H β σ w) {i r : Nat} {ms : List MapEntry} (hr : w.heap[r]? = some (.map ms.toArray ms.length)) (hm : ∀ o, H r o = .mine i)
    {H' β' σ'} {ms' : List MapEntry} (hmv : Mv H H') (hev : Ev H β σ H' β' σ') (hl : β'.length = σ'.length)
    (hblk : ∀ j kk bv, σ'[j]? = some kk → β'[j]? = some bv → BlkRel tb H' β' σ' (mset w r ms') j bv kk ∨ (σ[j]? = some kk ∧ β[j]? = some bv ∧ j ≠ i ∧ ∀ b o, H b o = .mine j → H' b o = .mine j)) :
    Rel tb H' β' σ' (mset w r ms') ∧ Stp H w H' (mset w r ms') ∧ (∀ ts, (∀ b o j, j ∉ ts → H b o = .mine j → H' b o = .mine j) → Frm ts H w H' (mset w r ms')) := by
  have hcell := fun b o => mset_cell (fs := ms') hr b o
  refine ⟨⟨fun b o v e => (hcell b o).trans (h.pers b o v (hmv.pers.2 e)), fun b o e => by rw [mset_size]; exact h.dom b o (hmv.none e), hl, fun j kk bv hk hv => ?_⟩, ?_, fun ts hts b o u hu hs => ?_⟩
  · rcases hblk j kk bv hk hv with hb | ⟨h1, h2, h3, h4⟩
    · exact hb
    · refine (h.blk j kk bv h1 h2).mono hev (fun b o e => ⟨h4 b o e, hcell b o, fun _ _ => mset_frozen hr b o, mset_shape hr b⟩) (fun b x e _ he => ?_)
      have hne : b ≠ r := fun e2 => by subst e2; have := (e 0).symm.trans (hm 0); cases this; exact h3 rfl
      rw [mset_other hr hne]; exact he
  · refine ⟨rfl, rfl, rfl, by rw [mset_size]; exact Nat.le_refl _, fun b _ o hn => ?_, fun b _ o j e => ?_, fun b _ hn => mset_other hr fun e => by subst e; exact hn 0 i (hm 0), fun b _ o _ => hcell b o, fun b _ o _ _ _ => mset_frozen hr b o, fun b _ => mset_shape hr b⟩
    · rcases hmv.mv b o with e | ⟨j, j', e1, _⟩
      · exact e
      · exact absurd e1 (hn j)
    · rcases hmv.mv b o with e' | ⟨k, _, e1, _⟩
      · exact ⟨j, by rw [← e']; exact e⟩
      · exact ⟨k, e1⟩
  · refine ⟨by rw [hcell]; exact hu, ?_⟩
    rcases hs with ⟨x, hx⟩ | ⟨j, hj, hx⟩
    · exact .inl ⟨x, hmv.pers.1 hx⟩
    · exact .inr ⟨j, hj, hts b o j hj hx⟩

section
variable {C : Cx} (hC : Ok C) {o : Oper} {env : Env} {σ : List Blk} {ts : List Nat}

/-- What stands behind a map's value. -/
theorem mp_inv {H : Gh} {β : List Value} {w : World} {v : Value} {ty k e : TypeId} {i : Nat} {es : List Ent} (hr : Rel C.tb H β σ w) (hv : DRel C.tb H β σ v (.t ty (.mp i))) (hi : σ[i]? = some (.mp k e es)) :
    ∃ (u : TypeId) (r : Nat) (ms : List MapEntry), td C.tb ty = .mp k u ∧ td C.tb u = .sl e ∧ v = .map (some r) ∧ β[i]? = some (.map (some r)) ∧ w.heap[r]? = some (.map ms.toArray ms.length) ∧ (∀ o, H r o = .mine i) ∧ ms.length = es.length ∧
      (∀ (j : Nat) (m : MapEntry) (x : Ent), ms[j]? = some m → es[j]? = some x → m.born = j ∧ EntRel C.tb H w i k e m x) ∧
      (∀ (j j' : Nat) (m m' : MapEntry) (x x' : Ent), j ≠ j' → ms[j]? = some m → es[j]? = some x → ms[j']? = some m' → es[j']? = some x' → x.2.2 = true → x'.2.2 = true → ∀ b o, ¬ (Spare C.tb e m.val x.2.1.length b o ∧ Spare C.tb e m'.val x'.2.1.length b o)) := by
  cases hv with
  | @t ty v cs z aa bb => cases bb with
    | @mp t0 k0 u v0 i0 es0 e0 a b c d f =>
      have a' := aa
      simp [VC, isAggT, a] at a'
      subst a'
      rw [hi] at b; cases b
      obtain ⟨r, ms, g1, g2, g3, g4, g5, g6⟩ := hr.blk i _ _ hi d
      subst g1
      exact ⟨u, r, ms, a, c, rfl, d, g2, g3, g4, g5, g6⟩

include hC

theorem OpF_makeMap {t k u e : TypeId} (ho : o.op = .makeMap t none) (ht : td C.tb t = .mp k u) (hu : td C.tb u = .sl e) : OpF C o env σ ts (fun d s => d = .t t (.mp σ.length) ∧ s = σ ++ [.mp k e []]) := by
  intro H β a w hr he hd K Qx hK
  have hex : (execOp a.eval o).run C.P w = .ok (.value (.map (some w.heap.size))) (w.alloc (.map #[] 0)) := by
    simp [execOp, ho, Instr.makeMap]
  obtain ⟨r1, r2⟩ := hr.alloc (.map #[] 0) (fun _ => .mine σ.length) [.map (some w.heap.size)] [.mp k e []] rfl (fun o v hv => by cases hv)
    (fun i k bv hk hv => by
      have hi : i = 0 := by have := (List.getElem?_eq_some_iff.1 hk).1; simp at this; omega
      subst hi
      simp at hk hv; subst hk; subst hv
      exact ⟨w.heap.size, [], rfl, heap_alloc_new w _, fun o => by rw [hAlloc_new]; rfl, rfl, fun j m x hm => by simp at hm, fun j j' m m' x x' _ hm => by simp at hm⟩)
  simp only [Oper.wp, hex, Oper.upon]
  refine hK _ _ _ _ _ _ ⟨rfl, rfl⟩ r1 ?_ (Stp.alloc hr.dom _ _) r2 (.of hr.dom (Stp.alloc hr.dom _ _) fun b o j hj hn => ?_)
  · exact .t (cs := [.map (some w.heap.size)]) (by simp [VC, isAggT, ht]) (.mp (e := e) (es := []) ht (by simp) hu (by simp [← hr.len]) ⟨_, rfl⟩)
  · have hlt := hr.dom b o (by rw [hj]; simp)
    exact ⟨by rw [hAlloc_old (by omega)]; exact hj, World.cell?_alloc_old w _ _ (by show b ≠ _; omega)⟩

/-- How long a map is. -/
theorem OpF_lenMp {x : Operand} {t tx k e : TypeId} {i : Nat} {es : List Ent} (ho : o.op = .call { callee := .builtin .len, args := #[x], argTypes := #[t] }) (hr0 : td C.tb o.type = .int .i64)
    (hx : opd C.tb env t x = some (.t tx (.mp i))) (hs : same C.tb tx t = true) (hi : σ[i]? = some (.mp k e es)) (hm : es.length ≤ maxN) : OpF C o env σ ts (fun d s => d = .t o.type (.e (.int es.length)) ∧ s = σ) := by
  intro H β a w hr he hd K Qx hK
  obtain ⟨u, r, ms, g1, g2, g3, g4, g5, g6, g7, g8, g9⟩ := mp_inv hr (opd_rel he hx) hi
  rw [same_td hs] at g1
  have hex : (execOp a.eval o).run C.P w = .ok (.value (.int .i64 es.length)) w := by
    rw [opdArg ho]
    simp [builtin, Builtin.len_, g3, run_underlying_of hC.tab (hC.tab.mp g1), goInt, Go.MapKept.run_getObj_map g5, g7]
  simp only [Oper.wp, hex, Oper.upon]
  exact hK _ _ w H β σ ⟨rfl, rfl⟩ hr (.mkInt hr0 (range64 hm)) (.refl _ _) (.refl _ _ _) (.same _ _ _)

/-- The list that stands at a key; none is the empty one. -/
def mpGet (es : List Ent) (y : E) : List E := match mpIdx y es 0 with
  | some j => ((es[j]?).map (·.2.1)).getD []
  | none => []

/-- What the model finds. -/
theorem mp_find {H : Gh} {w : World} {i : Nat} {k e : TypeId} {ms : List MapEntry} {es : List Ent} (hk : keyTy C.P C.tb k = true) (hl : ms.length = es.length)
    (hent : ∀ (j : Nat) (m : MapEntry) (x : Ent), ms[j]? = some m → es[j]? = some x → m.born = j ∧ EntRel C.tb H w i k e m x) {v : Value} {cs : List Value} {y : E} (hv : VC C.tb k v cs) (hy : Rd C.tb H k cs y) (w' : World) :
    (mpIdx y es 0 = none ∧ (Instr.findKey k v ms).run C.P w' = .ok none w') ∨
    ∃ j m x, mpIdx y es 0 = some j ∧ ms[j]? = some m ∧ es[j]? = some x ∧ m.key = v ∧ (Instr.findKey k v ms).run C.P w' = .ok (some (j, m.val)) w' := by
  have hf := run_findKey_arr hC.tab hk hv hy w' hl fun j m x hm hx => (hent j m x hm hx).2.1
  cases hq : mpIdx y es 0 with
  | none => rw [hq] at hf; exact .inl ⟨rfl, hf⟩
  | some j =>
    obtain ⟨x, _, hx, he⟩ := mpIdx_get hq
    rw [Nat.sub_zero] at hx
    have hj : j < ms.length := by rw [hl]; exact (List.getElem?_eq_some_iff.1 hx).1
    have hm : ms[j]? = some ms[j] := List.getElem?_eq_getElem hj
    rw [hq] at hf
    simp only [Option.map_some, hm, Option.getD_some] at hf
    refine .inr ⟨j, _, x, rfl, hm, hx, ?_, hf⟩
    obtain ⟨n, u, kk, hk1, hu, _, _⟩ := keyTy_arr hk
    obtain ⟨cs', h1, h2⟩ := (hent j _ x hm hx).2.1
    obtain ⟨ns, e1, e2, _⟩ := h2.key hC.tab hk1 hu
    obtain ⟨ns', e3, e4, _⟩ := hy.key hC.tab hk1 hu
    rw [e1, e3] at he
    simp only [eqE, eqEs_int, decide_eq_true_eq] at he
    have ha : isAggT C.tb k = true := by simp [isAggT, hk1]
    simp only [VC, ha, if_true] at h1 hv
    rw [h1, hv, e2, e4, he]

/-- A look-up that asks for nothing but the value. -/
theorem OpF_lookup {x ix : Operand} {t tx k e u : TypeId} {i : Nat} {es : List Ent} {dy : D} {y : E} (ho : o.op = .lookup t x ix false) (ht : td C.tb t = .mp k u) (hue : td C.tb u = .sl e) (hk : keyTy C.P C.tb k = true) (hzn : zeroNil C.P u = true)
    (hx : opd C.tb env t x = some (.t tx (.mp i))) (hs : same C.tb tx t = true) (hi : σ[i]? = some (.mp k e es)) (hy : opd C.tb env k ix = some dy) (hy2 : asT C.tb k dy = some (.e y)) :
    OpF C o env σ ts (fun d s => d = .t u (.e (.sl (mpGet es y))) ∧ s = σ) := by
  intro H β a w hr he hd K Qx hK
  obtain ⟨u', r, ms, g1, g2, g3, g4, g5, g6, g7, g8, g9⟩ := mp_inv hr (opd_rel he hx) hi
  rw [same_td hs, ht] at g1; cases g1
  obtain ⟨cs, hv, hrd⟩ := asT_rel hC (opd_rel he hy) hy2
  have hrd := hrd.rd
  have hck : ∀ em, (Instr.checkKey em 10000 k (a.eval ix)).run C.P w = .ok () w := fun em => run_checkKey_arr hC.tab hk hv hrd em 9998 w
  have hag : isAggT C.tb u = false := by simp [isAggT, hue]
  rcases mp_find hC hk g7 g8 hv hrd w with ⟨h1, h2⟩ | ⟨j, m, z, h1, h2, h3, _, h4⟩
  · have hex : (execOp a.eval o).run C.P w = .ok (.value (.slice none 0 0)) w := by
      simp [execOp, ho, Instr.lookup, g3, run_underlying_of hC.tab (hC.tab.mp ht), Go.MapKept.run_getObj_map g5, hck, h2, zeroNil_run hzn]
    simp only [Oper.wp, hex, Oper.upon]
    refine hK _ _ w H β σ ⟨rfl, rfl⟩ hr ?_ (.refl _ _) (.refl _ _ _) (.same _ _ _)
    simp only [mpGet, h1]
    exact .t (cs := [.slice none 0 0]) (by simp [VC, hag]) (.e (.sl0 hue))
  · have hex : (execOp a.eval o).run C.P w = .ok (.value m.val) w := by
      simp [execOp, ho, Instr.lookup, g3, run_underlying_of hC.tab (hC.tab.mp ht), Go.MapKept.run_getObj_map g5, hck, h4]
    simp only [Oper.wp, hex, Oper.upon]
    refine hK _ _ w H β σ ⟨rfl, rfl⟩ hr ?_ (.refl _ _) (.refl _ _ _) (.same _ _ _)
    simp only [mpGet, h1, h3, Option.map_some, Option.getD_some]
    exact .t (cs := [m.val]) (by simp [VC, hag]) (.e ((g8 j m z h2 h3).2.2.1 u hue))

/-- Where a key's entry stands, or will stand. -/
def mpSlot (es : List Ent) (y : E) : Nat := (mpIdx y es 0).getD es.length
/-- The entries, the one at a key handed out. -/
def mpOut (es : List Ent) (y : E) : List Ent := match mpIdx y es 0 with
  | some j => es.set j (((es[j]?).map (·.1)).getD y, mpGet es y, false)
  | none => es ++ [(y, [], false)]
end
end Go.Den
/- Maps of lists: an entry handed out, an entry put back. -/
namespace Go.Den
open Go
set_option linter.unusedSectionVars false
set_option linter.unusedSimpArgs false
set_option linter.unusedVariables false

theorem Ev.mpSet {H : Gh} {β : List Value} {σ : List Blk} {i : Nat} {k e : TypeId} {es es' : List Ent} (hi : σ[i]? = some (.mp k e es)) : Ev H β σ H β (σ.set i (.mp k e es')) := by
  have hil : i < σ.length := (List.getElem?_eq_some_iff.1 hi).1
  refine ⟨fun _ _ _ e => e, fun j ty z hj => ?_, fun j ety m hj => ?_, fun j s p hj => ?_, fun j ety oo zs hj => ?_, fun j k9 e9 zs hj => ?_⟩
  · have hne : i ≠ j := fun e => by subst e; rw [hi] at hj; cases hj
    exact ⟨rfl, z, by rw [List.getElem?_set_ne hne]; exact hj⟩
  · have hne : i ≠ j := fun e => by subst e; rw [hi] at hj; cases hj
    exact ⟨m, by rw [List.getElem?_set_ne hne]; exact hj, Nat.le_refl _, fun _ => rfl⟩
  · have hne : i ≠ j := fun e => by subst e; rw [hi] at hj; cases hj
    exact ⟨rfl, s, p, by rw [List.getElem?_set_ne hne]; exact hj⟩
  · have hne : i ≠ j := fun e => by subst e; rw [hi] at hj; cases hj
    exact ⟨oo, zs, by rw [List.getElem?_set_ne hne]; exact hj, Nat.le_refl _, fun _ => rfl⟩
  · by_cases hji : i = j
    · subst hji; rw [hi] at hj; cases hj; exact ⟨rfl, es', by simp [hil]⟩
    · exact ⟨rfl, zs, by rw [List.getElem?_set_ne hji]; exact hj⟩

theorem Ev.ghost {H H' : Gh} {β : List Value} {σ : List Blk} (h : ∀ b o v, H b o = .pers v → H' b o = .pers v) : Ev H β σ H' β σ :=
  ⟨h, fun _ _ x e => ⟨rfl, x, e⟩, fun _ _ n e => ⟨n, e, Nat.le_refl _, fun _ => rfl⟩, fun _ s p e => ⟨rfl, s, p, e⟩, fun _ _ o xs e => ⟨o, xs, e, Nat.le_refl _, fun _ => rfl⟩, fun _ _ _ es e => ⟨rfl, es, e⟩⟩

theorem modify_same {ms : List MapEntry} {j : Nat} {m : MapEntry} (hm : ms[j]? = some m) (f : MapEntry → MapEntry) (hf : f m = m) : ms.toArray.modify j f = ms.toArray := by
  apply Array.ext'
  rw [Array.toList_modify]
  show ms.modify j f = ms
  apply List.ext_getElem?
  intro q
  rw [List.getElem?_modify]
  by_cases h : j = q
  · subst h; simp [hm, hf]
  · simp [h]

theorem cell_map {w : World} {r : Nat} {es : Array MapEntry} {c : Nat} (h : w.heap[r]? = some (.map es c)) (o : Nat) : w.cell? ⟨r, o, none⟩ = none := by simp [World.cell?, h]

section
variable {C : Cx} (hC : Ok C) {o : Oper} {env : Env} {σ : List Blk} {ts : List Nat}
include hC

theorem OpF_mapEntry {x ix : Operand} {t tx k e u it : TypeId} {i : Nat} {es : List Ent} {dy : D} {y : E} (ho : o.op = .mapEntry t x ix) (ht : td C.tb t = .mp k u) (hue : td C.tb u = .sl e) (hk : keyTy C.P C.tb k = true) (hzn : zeroNil C.P u = true) (hit : td C.tb it = .int .i64)
    (hx : opd C.tb env t x = some (.t tx (.mp i))) (hs : same C.tb tx t = true) (hi : σ[i]? = some (.mp k e es)) (hy : opd C.tb env k ix = some dy) (hy2 : asT C.tb k dy = some (.e y)) (hown : ∀ x ∈ es, x.2.2 = true) (hlen : es.length ≤ maxN) (hts : i ∈ ts) :
    OpF C o env σ ts (fun d s => d = .tup [.t u (.lsl σ.length (mpGet es y)), .t it (.e (.int (mpSlot es y)))] ∧ s = (σ.set i (.mp k e (mpOut es y))) ++ [.row e (mpGet es y).length]) := by
  intro H β a w hr he hd K Qx hK
  obtain ⟨u', r, ms, g1, g2, g3, g4, g5, g6, g7, g8, g9⟩ := mp_inv hr (opd_rel he hx) hi
  rw [same_td hs, ht] at g1; cases g1
  have hil : i < σ.length := (List.getElem?_eq_some_iff.1 hi).1
  obtain ⟨cs, hv, hrd⟩ := asT_rel hC (opd_rel he hy) hy2
  have hrd := hrd.rd
  have hck : ∀ em, (Instr.checkKey em 10000 k (a.eval ix)).run C.P w = .ok () w := fun em => run_checkKey_arr hC.tab hk hv hrd em 9998 w
  have hag : isAggT C.tb u = false := by simp [isAggT, hue]
  obtain ⟨kn, ku, kk, hk1, hku, _, _⟩ := keyTy_arr hk
  have hstay : (Instr.keyThatStays (a.eval ix) (a.eval ix)).run C.P w = .ok (a.eval ix) w := by
    obtain ⟨ns, e1, e2, _⟩ := hrd.key hC.tab hk1 hku
    have hve : a.eval ix = .agg (ns.map (Value.int kk)).toArray := by rw [e2] at hv; simpa [VC, isAggT, hk1] using hv
    rw [hve]
    simp [Instr.keyThatStays, sameBits_ints ns 9998]
  rcases mp_find hC hk g7 g8 hv hrd w with ⟨h1, h2⟩ | ⟨j, m, z, h1, h2, h3, h5, h4⟩
  · -- a new entry
    have hms : ms.toArray.push ⟨a.eval ix, .slice none 0 0, ms.length⟩ = (ms ++ [(⟨a.eval ix, .slice none 0 0, ms.length⟩ : MapEntry)]).toArray := by simp
    have hex : (execOp a.eval o).run C.P w = .ok (.value (.tuple #[.slice none 0 0, goInt ms.length])) (mset w r (ms ++ [⟨a.eval ix, .slice none 0 0, ms.length⟩])) := by
      have hlen2 : (ms ++ [(⟨a.eval ix, .slice none 0 0, ms.length⟩ : MapEntry)]).length = ms.length + 1 := by simp
      simp only [execOp, ho, Instr.mapEntry, g3, Sem.run_bind, run_underlying_of hC.tab (hC.tab.mp ht), Result.andThen_ok, Go.MapKept.run_getObj_map g5, hck, h2, zeroNil_run hzn, Go.MapKept.run_setObj_map _ g5, hms, mset, hlen2]
      simp
    have hg : mpGet es y = [] := by simp [mpGet, h1]
    have hsl : mpSlot es y = es.length := by simp [mpSlot, h1]
    have hout : mpOut es y = es ++ [(y, [], false)] := by simp [mpOut, h1]
    simp only [Oper.wp, hex, Oper.upon]
    rw [hg, hsl, hout] at hK
    have hev : Ev H β σ H (β ++ [.slice none 0 0]) (σ.set i (.mp k e (es ++ [(y, [], false)])) ++ [.row e 0]) := (Ev.mpSet hi).trans (Ev.app (by simp [hr.len]) fun _ _ _ e => e)
    obtain ⟨q1, q2, q3⟩ := hr.mpTo g5 g6 (ms' := ms ++ [⟨a.eval ix, .slice none 0 0, ms.length⟩]) (.refl H) hev (by simp [hr.len]) fun q kk bv hkk hbv => by
      rcases Nat.lt_or_ge q σ.length with hq | hq
      · rw [List.getElem?_append_left (by simpa using hq)] at hkk
        rw [List.getElem?_append_left (by rw [hr.len]; exact hq)] at hbv
        by_cases hqi : i = q
        · subst hqi
          rw [List.getElem?_set_self hil] at hkk; cases hkk
          rw [g4] at hbv; cases hbv
          refine .inl ⟨r, _, rfl, mset_self g5, g6, by simp [g7], fun j m x hm hx => ?_, fun j j' m m' x x' hne hm hx hm' hx' ho ho' => ?_⟩
          · rcases Nat.lt_or_ge j ms.length with hj | hj
            · rw [List.getElem?_append_left hj] at hm
              rw [List.getElem?_append_left (by omega)] at hx
              obtain ⟨p1, p2, p3, p4⟩ := g8 j m x hm hx
              refine ⟨p1, p2, p3, fun ho => ?_⟩
              obtain ⟨b, lo, hi', r1, r2, r3⟩ := (p4 ho).range
              exact r2 _ _ _ fun o h1 h2 => ⟨by rw [mset_cell g5]; exact (r1 o h1 h2).1, (r1 o h1 h2).2.1, by rw [mset_frozen g5]; exact (r1 o h1 h2).2.2⟩
            · rw [List.getElem?_append_right hj] at hm
              rw [List.getElem?_append_right (by omega)] at hx
              have : j - ms.length = 0 := by have := (List.getElem?_eq_some_iff.1 hm).1; simp at this; omega
              rw [this] at hm; rw [← g7, this] at hx
              simp at hm hx; subst hm; subst hx
              exact ⟨by show ms.length = j; omega, ⟨cs, hv, hrd⟩, fun t ht => .sl0 ht, fun h => by cases h⟩
          · have old : ∀ (j : Nat) (m : MapEntry) (x : Ent), (ms ++ [(⟨a.eval ix, .slice none 0 0, ms.length⟩ : MapEntry)])[j]? = some m → (es ++ [(y, [], false)])[j]? = some x → x.2.2 = true → ms[j]? = some m ∧ es[j]? = some x := fun j m x hm hx ho => by
              rcases Nat.lt_or_ge j ms.length with hj | hj
              · rw [List.getElem?_append_left hj] at hm
                rw [List.getElem?_append_left (by omega)] at hx
                exact ⟨hm, hx⟩
              · rw [List.getElem?_append_right (by omega)] at hx
                have : j - es.length = 0 := by have := (List.getElem?_eq_some_iff.1 hx).1; simp at this; omega
                rw [this] at hx
                simp at hx; subst hx; cases ho
            obtain ⟨a1, a2⟩ := old j m x hm hx ho
            obtain ⟨a3, a4⟩ := old j' m' x' hm' hx' ho'
            exact g9 j j' m m' x x' hne a1 a2 a3 a4 ho ho'
        · rw [List.getElem?_set_ne hqi] at hkk
          exact .inr ⟨hkk, hbv, fun e => hqi e.symm, fun _ _ h => h⟩
      · rw [List.getElem?_append_right (by simpa using hq)] at hkk
        rw [List.getElem?_append_right (by rw [hr.len]; exact hq)] at hbv
        have h0 : q - σ.length = 0 := by have := (List.getElem?_eq_some_iff.1 hkk).1; simp at this; omega
        simp only [List.length_set, hr.len, h0] at hkk hbv
        simp at hkk hbv; subst hkk; subst hbv
        exact .inl (.inl ⟨rfl, rfl⟩)
    refine hK _ _ _ H _ _ ⟨rfl, rfl⟩ q1 (.tup rfl fun j v d hv hd => ?_) q2 hev (q3 ts fun _ _ _ _ h => h)
    match j with
    | 0 =>
      cases hd; simp at hv; subst hv
      exact .t (cs := [.slice none 0 0]) (by simp [VC, hag]) (.lsl hue (.sl0 hue) ⟨0, by simp, Nat.le_refl _, fun _ => by simp [← hr.len]⟩)
    | 1 => cases hd; simp at hv; subst hv; rw [← g7]; exact .mkInt hit (range64 (by omega))
    | j + 2 => simp at hd
  · -- an entry that was there
    have hg : mpGet es y = z.2.1 := by simp [mpGet, h1, h3]
    have hsl : mpSlot es y = j := by simp [mpSlot, h1]
    have hout : mpOut es y = es.set j (z.1, z.2.1, false) := by simp [mpOut, h1, h3, hg]
    have hjl : j < ms.length := (List.getElem?_eq_some_iff.1 h2).1
    obtain ⟨p1, p2, p3, p4⟩ := g8 j m z h2 h3
    have hmod : ms.toArray.modify j (fun e => { e with key := a.eval ix }) = ms.toArray := modify_same h2 _ (by rw [← h5])
    have hgj : ((ms.toArray[j]?).map (·.key)).getD (a.eval ix) = a.eval ix := by simp [h2, h5]
    have hbj : ((ms.toArray[j]?).map (·.born)).getD 0 = j := by simp [h2, p1]
    have hex : (execOp a.eval o).run C.P w = .ok (.value (.tuple #[m.val, goInt j])) (mset w r ms) := by
      simp only [execOp, ho, Instr.mapEntry, g3, Sem.run_bind, run_underlying_of hC.tab (hC.tab.mp ht), Result.andThen_ok, Go.MapKept.run_getObj_map g5, hck, h4, hgj, hstay, hmod, hbj, Go.MapKept.run_setObj_map _ g5, mset]
      simp [h2, p1]
    simp only [Oper.wp, hex, Oper.upon]
    rw [hg, hsl, hout] at hK
    obtain ⟨b, lo, hi', r1, r2, r3⟩ := (p4 (hown z (List.mem_of_getElem? h3))).range
    have hmv : Mv H (moveH H b lo hi' σ.length) := .of_move fun o h1 h2 => (r1 o h1 h2).2.1
    have hmine : ∀ b' o' q, H b' o' = .mine q → q ≠ i → moveH H b lo hi' σ.length b' o' = .mine q := fun b' o' q hq hne => by
      unfold moveH
      split
      · rename_i hh; obtain ⟨rfl, h1, h2⟩ := hh; rw [(r1 o' h1 h2).2.1] at hq; cases hq; exact absurd rfl hne
      · exact hq
    have hpm : ∀ b' o' v, H b' o' = .pers v → moveH H b lo hi' σ.length b' o' = .pers v := fun b' o' v h => hmv.pers.1 h
    have hev : Ev H β σ (moveH H b lo hi' σ.length) (β ++ [m.val]) (σ.set i (.mp k e (es.set j (z.1, z.2.1, false))) ++ [.row e z.2.1.length]) := (Ev.mpSet hi).trans (Ev.app (by simp [hr.len]) hpm)
    obtain ⟨q1, q2, q3⟩ := hr.mpTo g5 g6 (ms' := ms) hmv hev (by simp [hr.len]) fun q kk bv hkk hbv => by
      rcases Nat.lt_or_ge q σ.length with hq | hq
      · rw [List.getElem?_append_left (by simpa using hq)] at hkk
        rw [List.getElem?_append_left (by rw [hr.len]; exact hq)] at hbv
        by_cases hqi : i = q
        · subst hqi
          rw [List.getElem?_set_self hil] at hkk; cases hkk
          rw [g4] at hbv; cases hbv
          have tell : ∀ (j' : Nat) (x : Ent), (es.set j (z.1, z.2.1, false))[j']? = some x → (j' = j ∧ x = (z.1, z.2.1, false)) ∨ (j' ≠ j ∧ es[j']? = some x) := fun j' x hx => by
            by_cases hjj : j = j'
            · subst hjj; rw [List.getElem?_set_self (by omega)] at hx; cases hx; exact .inl ⟨rfl, rfl⟩
            · rw [List.getElem?_set_ne hjj] at hx; exact .inr ⟨fun e => hjj e.symm, hx⟩
          refine .inl ⟨r, ms, rfl, mset_self g5, fun o => ?_, by simp [g7], fun j' m' x hm hx => ?_, fun j1 j2 m1 m2 x1 x2 hne hm hx hm' hx' ho ho' => ?_⟩
          · unfold moveH
            split
            · rename_i hh; obtain ⟨rfl, h1, h2⟩ := hh
              obtain ⟨⟨u0, hu0⟩, _⟩ := r1 o h1 h2
              rw [cell_map g5] at hu0; cases hu0
            · exact g6 o
          · rcases tell j' x hx with ⟨rfl, rfl⟩ | ⟨hne, hx⟩
            · rw [h2] at hm; cases hm
              obtain ⟨kc, k1, k2⟩ := p2
              exact ⟨p1, ⟨kc, k1, k2.mono hpm⟩, fun t ht => (p3 t ht).mono hpm, fun h => by cases h⟩
            · obtain ⟨f1, ⟨kc, f2, f3⟩, f4, f5⟩ := g8 j' m' x hm hx
              refine ⟨f1, ⟨kc, f2, f3.mono hpm⟩, fun t ht => (f4 t ht).mono hpm, fun ho => ?_⟩
              obtain ⟨b2, lo2, hi2, s1, s2, s3⟩ := (f5 ho).range
              refine s2 _ _ _ fun o h1 h2' => ⟨by rw [mset_cell g5]; exact (s1 o h1 h2').1, ?_, by rw [mset_frozen g5]; exact (s1 o h1 h2').2.2⟩
              unfold moveH
              split
              · rename_i hh
                exact absurd ⟨(s3 b2 o).2 ⟨rfl, h1, h2'⟩, (r3 b2 o).2 hh⟩ (g9 j' j m' m x z hne hm hx h2 h3 ho (hown z (List.mem_of_getElem? h3)) b2 o)
              · exact (s1 o h1 h2').2.1
          · rcases tell j1 x1 hx with ⟨_, rfl⟩ | ⟨_, hx⟩
            · cases ho
            · rcases tell j2 x2 hx' with ⟨_, rfl⟩ | ⟨_, hx'⟩
              · cases ho'
              · exact g9 j1 j2 m1 m2 x1 x2 hne hm hx hm' hx' ho ho'
        · rw [List.getElem?_set_ne hqi] at hkk
          exact .inr ⟨hkk, hbv, fun e => hqi e.symm, fun b' o' h => hmine b' o' q h fun e => hqi e.symm⟩
      · rw [List.getElem?_append_right (by simpa using hq)] at hkk
        rw [List.getElem?_append_right (by rw [hr.len]; exact hq)] at hbv
        have h0 : q - σ.length = 0 := by have := (List.getElem?_eq_some_iff.1 hkk).1; simp at this; omega
        simp only [List.length_set, hr.len, h0] at hkk hbv
        simp at hkk hbv; subst hkk; subst hbv
        have hqe : q = σ.length := by omega
        subst hqe
        refine .inl (r2 _ _ _ fun o h1 h2' => ⟨by rw [mset_cell g5]; exact (r1 o h1 h2').1, ?_, by rw [mset_frozen g5]; exact (r1 o h1 h2').2.2⟩)
        unfold moveH; rw [if_pos ⟨rfl, h1, h2'⟩]
    refine hK _ _ _ _ _ _ ⟨rfl, rfl⟩ q1 (.tup rfl fun j' v d hv hd => ?_) q2 hev (q3 ts fun b' o' q hq h => hmine b' o' q h fun e => hq (e ▸ hts))
    match j' with
    | 0 =>
      cases hd; simp at hv; subst hv
      exact .t (cs := [m.val]) (by simp [VC, hag]) (.lsl hue ((p3 u hue).mono hpm) ⟨z.2.1.length, by simp, Nat.le_refl _, fun _ => by simp [← hr.len]⟩)
    | 1 => cases hd; simp at hv; subst hv; exact .mkInt hit (range64 (by omega))
    | j + 2 => simp at hd
end
end Go.Den
/- Maps of lists: an entry put back. -/
namespace Go.Den
open Go
set_option linter.unusedSectionVars false
set_option linter.unusedSimpArgs false
set_option linter.unusedVariables false

theorem findIdx_born {ms : List MapEntry} (h : ∀ (j : Nat) (m : MapEntry), ms[j]? = some m → m.born = j) {j : Nat} (hj : j < ms.length) : ms.toArray.findIdx? (fun e => (e.born : Int) == (j : Int)) = some j := by
  rw [List.findIdx?_toArray, List.findIdx?_eq_some_iff_getElem]
  refine ⟨hj, ?_, fun q hq => ?_⟩
  · have := h j _ (List.getElem?_eq_getElem hj); simp [this]
  · have := h q _ (List.getElem?_eq_getElem (by omega)); simp [this]; omega

/-- A slice that is the newest of a row that is put away: the row goes on without room. -/
theorem Ev.rowOff {H : Gh} {β : List Value} {σ : List Blk} {i : Nat} {u : TypeId} {n : Nat} (hi : σ[i]? = some (.row u n)) (hl : β.length = σ.length) (v : Value) : Ev H β σ H (β.set i v) (σ.set i (.row u (n + 1))) := by
  have hil : i < σ.length := (List.getElem?_eq_some_iff.1 hi).1
  refine ⟨fun _ _ _ e => e, fun j ty z hj => ?_, fun j ety m hj => ?_, fun j s p hj => ?_, fun j ety oo zs hj => ?_, fun j k9 e9 zs hj => ?_⟩
  · have hne : i ≠ j := fun e => by subst e; rw [hi] at hj; cases hj
    exact ⟨List.getElem?_set_ne hne, z, by rw [List.getElem?_set_ne hne]; exact hj⟩
  · by_cases hji : i = j
    · subst hji; rw [hi] at hj; cases hj; exact ⟨n + 1, by simp [hil], by omega, fun e => by omega⟩
    · exact ⟨m, by rw [List.getElem?_set_ne hji]; exact hj, Nat.le_refl _, fun _ => List.getElem?_set_ne hji⟩
  · have hne : i ≠ j := fun e => by subst e; rw [hi] at hj; cases hj
    exact ⟨List.getElem?_set_ne hne, s, p, by rw [List.getElem?_set_ne hne]; exact hj⟩
  · have hne : i ≠ j := fun e => by subst e; rw [hi] at hj; cases hj
    exact ⟨oo, zs, by rw [List.getElem?_set_ne hne]; exact hj, Nat.le_refl _, fun _ => List.getElem?_set_ne hne⟩
  · have hne : i ≠ j := fun e => by subst e; rw [hi] at hj; cases hj
    exact ⟨List.getElem?_set_ne hne, zs, by rw [List.getElem?_set_ne hne]; exact hj⟩

section
variable {C : Cx} (hC : Ok C) {o : Oper} {env : Env} {σ : List Blk} {ts : List Nat}
include hC

theorem OpF_entryStore {x st vx : Operand} {t tx k e u tu : TypeId} {i b : Nat} {es : List Ent} {j : Nat} {xs : List E} {n : Nat} (ho : o.op = .entryStore t x st vx) (ht : td C.tb t = .mp k u) (hue : td C.tb u = .sl e)
    (hx : opd C.tb env t x = some (.t tx (.mp i))) (hs : same C.tb tx t = true) (hi : σ[i]? = some (.mp k e es)) (hj : opdN env st = some (j : Int)) (hjl : j < es.length)
    (hv : opd C.tb env u vx = some (.t tu (.lsl b xs))) (hsu : same C.tb tu u = true) (hb : σ[b]? = some (.row e n)) (hn : n = xs.length) (hts : i ∈ ts) (htb : b ∈ ts) :
    OpF C o env σ ts (fun d s => d = .any ∧ s = (σ.set i (.mp k e (es.set j (((es[j]?).map (·.1)).getD .nilp, xs, true)))).set b (.row e (n + 1))) := by
  intro H β a w hr he hd K Qx hK
  obtain ⟨u', r, ms, g1, g2, g3, g4, g5, g6, g7, g8, g9⟩ := mp_inv hr (opd_rel he hx) hi
  rw [same_td hs, ht] at g1; cases g1
  have hil : i < σ.length := (List.getElem?_eq_some_iff.1 hi).1
  have hbl : b < σ.length := (List.getElem?_eq_some_iff.1 hb).1
  have hne : i ≠ b := fun e => by subst e; rw [hi] at hb; cases hb
  obtain ⟨kst, hst⟩ := opdN_rel he hj
  have hag : isAggT C.tb u = false := by simp [isAggT, hue]
  -- the value
  have hval : β[b]? = some (a.eval vx) ∧ Rd C.tb H u [a.eval vx] (.sl xs) := by
    have hd := opd_rel he hv
    generalize a.eval vx = v at hd ⊢
    cases hd with
    | @t ty v cs z aa bb => cases bb with
      | lsl b1 b2 b3 =>
        have a' := aa
        simp [VC, isAggT, b1] at a'
        subst a'
        obtain ⟨n', k1, k2, k3⟩ := b3
        have k1' : σ[b]? = some (.row e n) := hb
        rw [k1'] at k1; cases k1
        exact ⟨k3 hn, b2.cast hC.tab (same_td hsu)⟩
  obtain ⟨hβb, hrdv⟩ := hval
  have hrow : RowR C.tb H w b (a.eval vx) e n := hr.blk b _ _ hb hβb
  obtain ⟨bb, lo, hi', r1, r2, r3⟩ := hrow.range
  have hjm : j < ms.length := by omega
  obtain ⟨m, hm⟩ : ∃ m, ms[j]? = some m := ⟨_, List.getElem?_eq_getElem hjm⟩
  obtain ⟨z, hz⟩ : ∃ z, es[j]? = some z := ⟨_, List.getElem?_eq_getElem hjl⟩
  obtain ⟨p1, p2, p3, p4⟩ := g8 j m z hm hz
  have hfi := findIdx_born (ms := ms) (fun q m' hm' => by
    have hq : q < es.length := by rw [← g7]; exact (List.getElem?_eq_some_iff.1 hm').1
    exact (g8 q m' _ hm' (List.getElem?_eq_getElem hq)).1) hjm
  have hmod : ms.toArray.modify j (fun e => { e with val := a.eval vx }) = (ms.set j { m with val := a.eval vx }).toArray := by
    apply Array.ext'
    rw [Array.toList_modify]
    show ms.modify j _ = ms.set j _
    apply List.ext_getElem?
    intro q
    rw [List.getElem?_modify]
    by_cases h : j = q
    · subst h
      have hmj : ms[j]'hjm = m := by rw [List.getElem?_eq_getElem hjm] at hm; exact Option.some.inj hm
      simp [hjm, hmj]
    · simp [h]
  have hml : (ms.set j { m with val := a.eval vx }).length = ms.length := by simp
  have hex : (execOp a.eval o).run C.P w = .ok .skip (mset w r (ms.set j { m with val := a.eval vx })) := by
    simp only [execOp, ho, Instr.entryStore, g3, Sem.run_bind, Go.MapKept.run_getObj_map g5, Result.andThen_ok, hst, asInt, asIntOf, Sem.run_pure, hfi, hmod, Go.MapKept.run_setObj_map _ g5, mset, hml]
  simp only [Oper.wp, hex, Oper.upon]
  have hmv : Mv H (moveH H bb lo hi' i) := .of_move fun o h1 h2 => (r1 o h1 h2).2.1
  have hmine : ∀ b' o' q, H b' o' = .mine q → q ≠ b → moveH H bb lo hi' i b' o' = .mine q := fun b' o' q hq hne => by
    unfold moveH
    split
    · rename_i hh; obtain ⟨rfl, h1, h2⟩ := hh; rw [(r1 o' h1 h2).2.1] at hq; cases hq; exact absurd rfl hne
    · exact hq
  have hpm : ∀ b' o' v, H b' o' = .pers v → moveH H bb lo hi' i b' o' = .pers v := fun b' o' v h => hmv.pers.1 h
  have hevz : Ev H β σ (moveH H bb lo hi' i) (β.set b (.slice (some ⟨0, 0, none⟩) (n + 1) (n + 1))) ((σ.set i (.mp k e (es.set j (z.1, xs, true)))).set b (.row e (n + 1))) :=
    ((Ev.mpSet hi).trans (Ev.rowOff (by rw [List.getElem?_set_ne hne]; exact hb) (by simp [hr.len]) _)).trans (.ghost hpm)
  have hzj : ((es[j]?).map (·.1)).getD .nilp = z.1 := by simp [hz]
  rw [hzj] at hK
  obtain ⟨q1, q2, q3⟩ := hr.mpTo g5 g6 (ms' := ms.set j { m with val := a.eval vx }) hmv hevz (by simp [hr.len]) fun q kk bv hkk hbv => by
    by_cases hqb : b = q
    · subst hqb
      rw [List.getElem?_set_self (by simpa using hbl)] at hkk; cases hkk
      rw [List.getElem?_set_self (by rw [hr.len]; exact hbl)] at hbv; cases hbv
      exact .inl (.inr ⟨0, 0, n + 1, rfl, Nat.le_refl _, fun q h1 h2 => by omega⟩)
    rw [List.getElem?_set_ne hqb] at hkk hbv
    by_cases hqi : i = q
    · subst hqi
      rw [List.getElem?_set_self hil] at hkk; cases hkk
      rw [g4] at hbv; cases hbv
      have tell : ∀ (j' : Nat) (m' : MapEntry) (x : Ent), (ms.set j { m with val := a.eval vx })[j']? = some m' → (es.set j (z.1, xs, true))[j']? = some x → (j' = j ∧ m' = { m with val := a.eval vx } ∧ x = (z.1, xs, true)) ∨ (j' ≠ j ∧ ms[j']? = some m' ∧ es[j']? = some x) := fun j' m' x hm' hx => by
        by_cases hjj : j = j'
        · subst hjj; rw [List.getElem?_set_self hjl] at hx; rw [List.getElem?_set_self hjm] at hm'; cases hx; cases hm'; exact .inl ⟨rfl, rfl, rfl⟩
        · rw [List.getElem?_set_ne hjj] at hx hm'; exact .inr ⟨fun e => hjj e.symm, hm', hx⟩
      refine .inl ⟨r, _, rfl, mset_self g5, fun o => hmine _ _ _ (g6 o) hne, by simp [g7], fun j' m' x hm' hx => ?_, fun j1 j2 m1 m2 x1 x2 hne' hm1 hx1 hm2 hx2 ho1 ho2 b' o' => ?_⟩
      · rcases tell j' m' x hm' hx with ⟨rfl, rfl, rfl⟩ | ⟨hjj, hm', hx⟩
        · obtain ⟨kc, k1, k2⟩ := p2
          refine ⟨p1, ⟨kc, k1, k2.mono hpm⟩, fun t ht => (hrdv.cast hC.tab (by rw [ht, hue])).mono hpm, fun _ => ?_⟩
          subst hn
          refine r2 _ _ _ fun o h1 h2 => ⟨by rw [mset_cell g5]; exact (r1 o h1 h2).1, ?_, by rw [mset_frozen g5]; exact (r1 o h1 h2).2.2⟩
          unfold moveH; rw [if_pos ⟨rfl, h1, h2⟩]
        · obtain ⟨f1, ⟨kc, f2, f3⟩, f4, f5⟩ := g8 j' m' x hm' hx
          refine ⟨f1, ⟨kc, f2, f3.mono hpm⟩, fun t ht => (f4 t ht).mono hpm, fun ho => ?_⟩
          obtain ⟨b2, lo2, hi2, s1, s2, s3⟩ := (f5 ho).range
          exact s2 _ _ _ fun o h1 h2' => ⟨by rw [mset_cell g5]; exact (s1 o h1 h2').1, hmine _ _ _ (s1 o h1 h2').2.1 hne, by rw [mset_frozen g5]; exact (s1 o h1 h2').2.2⟩
      · have clash : ∀ (j' : Nat) (m' : MapEntry) (x : Ent), ms[j']? = some m' → es[j']? = some x → x.2.2 = true → ¬ (Spare C.tb e (a.eval vx) xs.length b' o' ∧ Spare C.tb e m'.val x.2.1.length b' o') := fun j' m' x hm' hx ho ⟨h1, h2⟩ => by
          rw [← hn] at h1
          obtain ⟨rfl, h3, h4⟩ := (r3 b' o').1 h1
          obtain ⟨b2, lo2, hi2, s1, s2, s3⟩ := ((g8 j' m' x hm' hx).2.2.2 ho).range
          obtain ⟨rfl, h5, h6⟩ := (s3 b' o').1 h2
          have e1 := (r1 o' h3 h4).2.1
          have e2 := (s1 o' h5 h6).2.1
          rw [e1] at e2; cases e2; exact hne rfl
        rcases tell j1 m1 x1 hm1 hx1 with ⟨rfl, rfl, rfl⟩ | ⟨a1, hn1, hy1⟩
        · rcases tell j2 m2 x2 hm2 hx2 with ⟨rfl, _, _⟩ | ⟨a2, hn2, hy2⟩
          · exact absurd rfl hne'
          · exact clash j2 m2 x2 hn2 hy2 ho2
        · rcases tell j2 m2 x2 hm2 hx2 with ⟨rfl, rfl, rfl⟩ | ⟨a2, hn2, hy2⟩
          · exact fun ⟨h1, h2⟩ => clash j1 m1 x1 hn1 hy1 ho1 ⟨h2, h1⟩
          · exact g9 j1 j2 m1 m2 x1 x2 hne' hn1 hy1 hn2 hy2 ho1 ho2 b' o'
    · rw [List.getElem?_set_ne hqi] at hkk
      exact .inr ⟨hkk, hbv, fun e => hqi e.symm, fun b' o' h => hmine b' o' q h fun e => hqb e.symm⟩
  exact hK _ _ _ _ _ _ ⟨rfl, rfl⟩ q1 .any q2 hevz (q3 ts fun b' o' q hq h => hmine b' o' q h fun e => hq (e ▸ htb))
end
end Go.Den
/- Maps of lists: steps in a drawing region. -/
namespace Go.Den
open Go
set_option linter.unusedSectionVars false
set_option linter.unusedSimpArgs false
set_option linter.unusedVariables false
section
variable {C : Cx} {o : Oper} {env : Env} {σ : List Blk} {ts : List Nat} {Q : Post}

theorem VX_lookupO (hC : Ok C) {k : List It} {full : List Oper} {q : Nat} {ord : List (Nat × Bool)} {x ix : Operand} {t tx kt e u : TypeId} {i : Nat} {es : List Ent} {dy : D} {y : E} {xs : List E} {q0 : Nat}
    (hi : full[q]? = some o) (hw : wants full env o = some true) (hn : dstOk C.n o.dst = true) (ho : o.op = .lookup t x ix false) (ht : td C.tb t = .mp kt u) (hue : td C.tb u = .sl e) (hkt : keyTy C.P C.tb kt = true) (hzn : zeroNil C.P u = true)
    (hx : opd C.tb env t x = some (.t tx (.mp i))) (hs : same C.tb tx t = true) (hσ : σ[i]? = some (.mp kt e es)) (hy : opd C.tb env kt ix = some dy) (hy2 : asT C.tb kt dy = some (.e y)) (hd : o.dst = some q0) (hg : mpGet es y = xs)
    (hk : VX C Q (.o full ts ord :: k) .nrm ((q0, .t u (.e (.sl xs))) :: env) σ) (hal : aloneB full ((q, false) :: ord) = true := by kernel_rfl) : VX C Q (.o full ts ((q, false) :: ord) :: k) .nrm env σ :=
  VX_opO hi hw hn (OpF_lookup hC ho ht hue hkt hzn hx hs hσ hy hy2) (fun d s ⟨a1, a2⟩ => by subst a1; subst a2; subst hg; rw [hd]; exact hk) hal

theorem VX_mapEntryO (hC : Ok C) {k : List It} {full : List Oper} {q : Nat} {ord : List (Nat × Bool)} {x ix : Operand} {t tx kt e u : TypeId} (it : TypeId) {i : Nat} {es es' : List Ent} {dy : D} {y : E} {xs : List E} {q0 j : Nat} {σ' : List Blk} (n : Nat)
    (hi : full[q]? = some o) (hw : wants full env o = some true) (hn : dstOk C.n o.dst = true) (ho : o.op = .mapEntry t x ix) (ht : td C.tb t = .mp kt u) (hue : td C.tb u = .sl e) (hkt : keyTy C.P C.tb kt = true) (hzn : zeroNil C.P u = true) (hit : td C.tb it = .int .i64)
    (hx : opd C.tb env t x = some (.t tx (.mp i))) (hs : same C.tb tx t = true) (hσ : σ[i]? = some (.mp kt e es)) (hy : opd C.tb env kt ix = some dy) (hy2 : asT C.tb kt dy = some (.e y)) (hd : o.dst = some q0)
    (hown : ∀ x ∈ es, x.2.2 = true) (hlen : es.length ≤ maxN) (hts : i ∈ ts) (hl : Nat.beq σ.length n = true) (hg : mpGet es y = xs) (hj : mpSlot es y = j) (hes : mpOut es y = es') (hσ' : normBs (σ.set i (.mp kt e es') ++ [.row e xs.length]) some = some σ')
    (hk : VX C Q (.o full ts ord :: k) .nrm ((q0, .tup [.t u (.lsl n xs), .t it (.e (.int j))]) :: env) σ') (hal : aloneB full ((q, false) :: ord) = true := by kernel_rfl) : VX C Q (.o full ts ((q, false) :: ord) :: k) .nrm env σ := by
  rw [normBs_eq] at hσ'; cases hσ'
  have := Nat.eq_of_beq_eq_true hl
  subst this; subst hg; subst hj; subst hes
  exact VX_opO hi hw hn (OpF_mapEntry hC (it := it) ho ht hue hkt hzn hit hx hs hσ hy hy2 hown hlen hts) (fun d s ⟨a1, a2⟩ => by subst a1; subst a2; rw [hd]; exact hk) hal

theorem VX_entryStoreO (hC : Ok C) {k : List It} {full : List Oper} {q : Nat} {ord : List (Nat × Bool)} {x st vx : Operand} {t tx kt e u tu : TypeId} {i b j n : Nat} {es es' : List Ent} {xs : List E} {σ' : List Blk}
    (hi : full[q]? = some o) (hw : wants full env o = some true) (hn : dstOk C.n o.dst = true) (ho : o.op = .entryStore t x st vx) (ht : td C.tb t = .mp kt u) (hue : td C.tb u = .sl e)
    (hx : opd C.tb env t x = some (.t tx (.mp i))) (hs : same C.tb tx t = true) (hσ : σ[i]? = some (.mp kt e es)) (hj : opdN env st = some (j : Int)) (hjl : j < es.length)
    (hv : opd C.tb env u vx = some (.t tu (.lsl b xs))) (hsu : same C.tb tu u = true) (hb : σ[b]? = some (.row e n)) (hne : n = xs.length) (hts : i ∈ ts) (htb : b ∈ ts)
    (hes : es.set j (((es[j]?).map (·.1)).getD .nilp, xs, true) = es') (hσ' : normBs ((σ.set i (.mp kt e es')).set b (.row e (n + 1))) some = some σ')
    (hk : VX C Q (.o full ts ord :: k) .nrm (putD env o.dst .any) σ') (hal : aloneB full ((q, false) :: ord) = true := by kernel_rfl) : VX C Q (.o full ts ((q, false) :: ord) :: k) .nrm env σ := by
  rw [normBs_eq] at hσ'; cases hσ'
  subst hes
  exact VX_opO hi hw hn (OpF_entryStore hC ho ht hue hx hs hσ hj hjl hv hsu hb hne hts htb) (fun d s ⟨a1, a2⟩ => by subst a1; subst a2; exact hk) hal
end
end Go.Den
/- Contracts of another seat, turned to this seat's numbers (port2.py). -/
namespace Go.Den.Q7.Lg
open Go Go.Den Go.Proofs Go.Den.Q7
set_option maxRecDepth 8000
set_option linter.unusedVariables false
set_option linter.unusedSimpArgs false
abbrev Bs := List UInt8
/-- What stands at a digest. -/
def getM (d : Bs) : List (Bs × List Bs) → List Bs
  | [] => []
  | (k, v) :: M => if d = k then v else getM d M
/-- A text more at a digest. -/
def putM (d s : Bs) : List (Bs × List Bs) → List (Bs × List Bs)
  | [] => [(d, [s])]
  | (k, v) :: M => if d = k then (k, v ++ [s]) :: M else (k, v) :: putM d s M
def entL (M : List (Bs × List Bs)) : List Ent := M.map fun p => (Sh.dgE p.1, p.2.map E.str, true)
theorem dgE_eq (a b : Bs) : eqE (Sh.dgE a) (Sh.dgE b) = decide (a = b) := by
  have h : ∀ l : Bs, Sh.dgE l = .agg ((l.map fun x => (x.toNat : Int)).map .int) := fun l => by
    simp [Sh.dgE, byteE]
  rw [h, h]
  simp only [eqE, eqEs_int]
  apply decide_eq_decide.2
  refine ⟨fun e => ?_, fun e => by rw [e]⟩
  have hi : Function.Injective fun x : UInt8 => (x.toNat : Int) := fun x y e => by
    have e' : (x.toNat : Int) = (y.toNat : Int) := e
    have : x.toNat = y.toNat := by omega
    exact UInt8.toNat_inj.1 this
  exact (List.map_inj_right fun x y e => hi e).1 e
theorem idx_none {d : Bs} : ∀ {M : List (Bs × List Bs)} {i : Nat}, mpIdx (Sh.dgE d) (entL M) i = none → getM d M = [] ∧ ∀ s, putM d s M = M ++ [(d, [s])]
  | [], i, h => ⟨rfl, fun s => rfl⟩
  | (k, v) :: M, i, h => by
    simp only [entL, List.map_cons, mpIdx, dgE_eq] at h
    split at h
    · cases h
    · rename_i he
      have hne : ¬ d = k := by simpa using he
      obtain ⟨h1, h2⟩ := idx_none (M := M) h
      exact ⟨by simp [getM, hne, h1], fun s => by simp [putM, hne, h2 s]⟩
theorem idx_some {d : Bs} : ∀ {M : List (Bs × List Bs)} {i j : Nat}, mpIdx (Sh.dgE d) (entL M) i = some j → i ≤ j ∧ M[j - i]? = some (d, getM d M) ∧ ∀ s, putM d s M = M.set (j - i) (d, getM d M ++ [s])
  | [], i, j, h => by simp [entL, mpIdx] at h
  | (k, v) :: M, i, j, h => by
    simp only [entL, List.map_cons, mpIdx, dgE_eq] at h
    split at h
    · rename_i he
      have hd : d = k := by simpa using he
      subst hd; cases h
      exact ⟨Nat.le_refl _, by simp [getM], fun s => by simp [putM, getM]⟩
    · rename_i he
      have hne : ¬ d = k := by simpa using he
      obtain ⟨h0, h1, h2⟩ := idx_some (M := M) h
      refine ⟨by omega, ?_, fun s => ?_⟩
      · rw [show j - i = (j - (i + 1)) + 1 by omega]; simp [getM, hne, h1]
      · rw [show j - i = (j - (i + 1)) + 1 by omega]; simp [putM, getM, hne, h2 s]
theorem get_ent (d : Bs) (M : List (Bs × List Bs)) : mpGet (entL M) (Sh.dgE d) = (getM d M).map E.str := by
  unfold mpGet
  cases h : mpIdx (Sh.dgE d) (entL M) 0 with
  | none => simp [(idx_none h).1]
  | some j =>
    obtain ⟨_, h1, _⟩ := idx_some h
    rw [Nat.sub_zero] at h1
    simp [entL, h1]
theorem out_len (d : Bs) (M : List (Bs × List Bs)) : mpSlot (entL M) (Sh.dgE d) < (mpOut (entL M) (Sh.dgE d)).length := by
  unfold mpSlot mpOut
  cases h : mpIdx (Sh.dgE d) (entL M) 0 with
  | none => simp
  | some j =>
    obtain ⟨_, h1, _⟩ := idx_some h
    rw [Nat.sub_zero] at h1
    have := (List.getElem?_eq_some_iff.1 h1).1
    simp [entL, this]
theorem put_ent (d s : Bs) (M : List (Bs × List Bs)) : (mpOut (entL M) (Sh.dgE d)).set (mpSlot (entL M) (Sh.dgE d)) ((((mpOut (entL M) (Sh.dgE d))[mpSlot (entL M) (Sh.dgE d)]?).map (·.1)).getD .nilp, (getM d M).map E.str ++ [E.str s], true) = entL (putM d s M) := by
  unfold mpSlot mpOut
  rw [get_ent]
  cases h : mpIdx (Sh.dgE d) (entL M) 0 with
  | none =>
    obtain ⟨h1, h2⟩ := idx_none h
    rw [h1, h2 s]
    simp [entL]
  | some j =>
    obtain ⟨_, h1, h2⟩ := idx_some h
    rw [Nat.sub_zero] at h1 h2
    have hj := (List.getElem?_eq_some_iff.1 h1).1
    rw [h2 s]
    have he : (entL M)[j]? = some (Sh.dgE d, (getM d M).map E.str, true) := by simp [entL, h1]
    simp only [Option.getD_some, he, Option.map_some, List.set_set]
    rw [List.getElem?_set_self (by simpa [entL] using hj)]
    simp [entL, List.map_set]
end Go.Den.Q7.Lg
namespace Go.Den.Q7.Lg
open Go Go.Den Go.Proofs Go.Den.Q7
set_option maxRecDepth 8000
set_option linter.unusedVariables false
set_option linter.unusedSimpArgs false
/-- The blocks of a log. -/
def lgB (I : List Bs) (M : List (Bs × List Bs)) : List Blk := [.tree 57 (.st [.lsl 1 (I.map E.str), .mp 2]), .row 9 (I.map E.str).length, .mp 24 9 (entL M)]
theorem rnew_ok : FnG Tryd.prog tb 13 [] [] (fun d s => d = .ptr 0 [] ∧ s = lgB [] []) := by
  refine FnG_of_V (fn := Tryd.f13) (bt := 4) true [1, 2, 0] [38] (ok 0 _) Tryd.func13 rfl rfl rfl fun _ _ _ _ _ _ => ?_
  apply V_of_VX
  refine VX_go4 (fs := []) (ok 0 _) eqs trivial 100 [1] rfl trivial ?_
  refine VX_op rfl rfl (OpF_makeMap (ts := []) (ok 0 _) (k := 24) (u := 55) (e := 9) rfl rfl rfl).v ?_
  rintro d s ⟨rfl, rfl⟩
  refine VX_go4 (fs := []) (ok 0 _) eqs trivial 100 [0] rfl trivial ?_
  refine VX_promT (ok 0 _) rfl 1 [0] rfl rfl rfl rfl rfl ?_
  refine VX_go4 (fs := []) (ok 0 _) eqs trivial 100 [] rfl trivial ?_
  exact ⟨.inr rfl, _, _, _, rfl, rfl, rfl, rfl, rfl⟩
theorem clash_ok (I : List Bs) (M : List (Bs × List Bs)) (hI : I.length ≤ 100000) (hM : M.length ≤ 100000) : FnG Tryd.prog tb 15 (lgB I M) [.ptr 0 []] (fun d s => d = .t 4 (.e (.bool (decide (M.length < I.length)))) ∧ s = lgB I M) := by
  refine FnG_of_V (fn := Tryd.f15) (bt := 4) true [] [4] (ok 3 _) Tryd.func15 rfl rfl rfl fun _ _ _ _ _ _ => ?_
  apply V_of_VX
  refine VX_go4 (fs := []) (ok 3 _) eqs trivial 100 [] rfl trivial ?_
  refine VX_draw [] [(0, true), (1, true), (2, true), (3, true), (4, true), (5, true), (6, true), (8, true), (9, true), (10, true), (11, true), (12, true), (7, false), (13, true), (14, true), (15, true)] mixed (by kernel_rfl) (by kernel_rfl) (by kernel_rfl) ?_
  refine VX_go4 (fs := []) (ok 3 _) eqs trivial 100 [10] rfl ?_ ?_
  · simp [allP, maxN]
  refine VX_opO rfl rfl rfl (OpF_lenMp (ok 3 _) (i := 2) (k := 24) (e := 9) (es := entL M) rfl rfl rfl rfl rfl (by simp [entL, maxN]; omega)) ?_ (by kernel_rfl)
  rintro d s ⟨rfl, rfl⟩
  refine VX_go4 (fs := []) (ok 3 _) eqs trivial 100 [] rfl trivial ?_
  refine ⟨.inr rfl, _, _, _, rfl, rfl, rfl, ?_, rfl⟩
  simp [entL, oneD]
def noteI (d s : Bs) (I : List Bs) (M : List (Bs × List Bs)) : List Bs := if s ∈ getM d M then I else I ++ [s]
def noteM (d s : Bs) (M : List (Bs × List Bs)) : List (Bs × List Bs) := if s ∈ getM d M then M else putM d s M
theorem note_lg (d s : Bs) (I : List Bs) (M : List (Bs × List Bs)) (hI : I.length ≤ 100000) (hM : M.length ≤ 100000) (hg : (getM d M).length ≤ 100000) :
    FnG Tryd.prog tb 35 (lgB I M) [.ptr 0 [], .t 24 (.e (Sh.dgE d)), .t 9 (.e (.str s))] (fun r t => r = .tup [] ∧ t = lgB (noteI d s I M) (noteM d s M)) := by
  refine FnG_of_V (fn := Tryd.f35) (bt := 4) true [] [] (ok 3 _) Tryd.func35 rfl rfl rfl fun _ _ _ _ _ _ => ?_
  apply V_of_VX
  have g1 := get_ent d M
  have g2 : (entL M).length = M.length := by simp [entL]
  have g3 : ∀ x ∈ entL M, x.2.2 = true := fun x hx => by simp only [entL, List.mem_map] at hx; obtain ⟨p, _, rfl⟩ := hx; rfl
  have g4 := out_len d M
  have g5 := put_ent d s M
  unfold noteI noteM lgB
  generalize hE : entL M = E0 at g1 g2 g3 g4 g5 ⊢
  generalize hD : Sh.dgE d = D0 at g1 g4 g5 ⊢
  refine VX_go4 (fs := []) (ok 3 _) eqs trivial 100 [] rfl trivial ?_
  refine VX_draw [] [(0, true), (1, true), (2, true), (3, true), (4, true), (7, true), (5, false), (6, true)] mixed (by kernel_rfl) (by kernel_rfl) (by kernel_rfl) ?_
  refine VX_go4 (fs := []) (ok 3 _) eqs trivial 100 [15] rfl trivial ?_
  refine VX_lookupO (ok 3 _) rfl rfl rfl rfl rfl rfl (by kernel_rfl) (by kernel_rfl) rfl rfl rfl rfl rfl rfl g1 ?_ (by kernel_rfl)
  generalize hL : getM d M = L at hg g1 g5 ⊢
  refine VX_go4 (fs := []) (ok 3 _) eqs trivial 100 [] rfl trivial ?_
  refine VX_loopA (fun i : Nat => i ≤ L.length ∧ (s ∈ L.drop i ↔ s ∈ L)) (fun i => [(17, .t 3 (.e (.int i))), (16, .t 3 (.e (.int L.length))), (15, .t 55 (.e (.sl (L.map .str)))), (0, .ptr 0 []), (2, .t 9 (.e (.str s))), (4, .ptr 3 [])])
    (fun _ => [.tree 57 (.st [.lsl 1 (I.map E.str), .mp 2]), .row 9 (I.map E.str).length, .mp 24 9 E0, .tree 24 (.e D0)]) (fun i => L.length - i) 0 ⟨by simp, by simp⟩ ?_ ?_
  · exact wk0 rfl (by simp [Blk.under, T.under, T.unders]) (lc (ls rfl rfl) (lc (li (by simp)) (lc (ls rfl rfl) (lc (ls rfl rfl) (lc (ls rfl rfl) (lc (ls rfl rfl) lnil))))))
  · rintro i ⟨hi, hs⟩
    refine VX_go4 (fs := []) (ok 3 _) eqs trivial 100 [] rfl trivial ?_
    refine VX_split 18 rfl rfl (fun h => ?_) (fun h => ?_)
    · have hi : i < L.length := by simpa using h
      have hd1 : L.drop i = L[i] :: L.drop (i + 1) := List.drop_eq_getElem_cons hi
      have hgE : (L.map E.str).getD i .nilp = .str L[i] := by simp [List.getD, hi]
      refine VX_go4 (fs := []) (ok 3 _) eqs trivial 100 [7] rfl (by simp [allP]; omega) ?_
      refine VX_eq 20 rfl rfl (d' := .t 9 (.e (.str L[i]))) (congrArg (fun x => D.t 9 (.e x)) hgE) ?_
      refine VX_go4 (fs := []) (ok 3 _) eqs trivial 100 [] rfl trivial ?_
      rw [hd1, List.mem_cons] at hs
      refine VX_split 23 rfl rfl (fun h => ?_) (fun h => ?_)
      · have he : s ∈ L := by simp at h; exact hs.1 (.inl h.symm)
        refine VX_go4 (fs := []) (ok 3 _) eqs trivial 100 [] rfl trivial ?_
        rw [if_pos he, if_pos he, hE]
        exact loop_ret ⟨.inr rfl, _, _, _, rfl, rfl, rfl, rfl, rfl⟩
      · have he : ¬ s = L[i] := by simp at h; exact fun e => h e.symm
        refine VX_go4 (fs := []) (ok 3 _) eqs trivial 100 [] rfl trivial ?_
        refine loop_nrm ⟨i + 1, by omega, ⟨by omega, ⟨fun h => hs.1 (.inr h), fun h => (hs.2 h).resolve_left he⟩⟩, ?_⟩
        exact wk0 rfl (by simp [Blk.under, T.under, T.unders]) (lc (li (by rw [w64 (by omega) (by omega)]; simp)) (lc (ls rfl rfl) (lc (ls rfl rfl) (lc (ls rfl rfl) (lc (ls rfl rfl) (lc (ls rfl rfl) lnil))))))
    · have hi' : i = L.length := by simp at h; omega
      have hno : s ∉ L := by rw [← hs, hi', List.drop_length]; simp
      rw [if_neg hno, if_neg hno]
      refine VX_go4 (fs := []) (ok 3 _) eqs trivial 100 [] rfl trivial ?_
      apply loop_brk
      refine VX_go4 (fs := []) (ok 3 _) eqs trivial 100 [] rfl trivial ?_
      refine VX_draw [2, 4] [(0, true), (1, true), (2, true), (3, true), (4, true), (5, true), (6, false), (7, false), (8, true), (10, true), (9, false), (11, false)] mixed (by kernel_rfl) (by kernel_rfl) (by kernel_rfl) ?_
      refine VX_go4 (fs := []) (ok 3 _) eqs trivial 100 [32] rfl trivial ?_
      refine VX_litO (ok 3 _) rfl rfl rfl rfl rfl ?_ (by kernel_rfl)
      generalize hJ : mpSlot E0 D0 = J at g4 g5
      generalize hS : mpOut E0 D0 = S at g4 g5
      refine VX_mapEntryO (ok 3 _) 3 4 rfl rfl rfl rfl rfl rfl (by kernel_rfl) (by kernel_rfl) rfl rfl rfl rfl rfl rfl rfl g3 (by rw [g2]; unfold maxN; omega) (by decide) rfl g1 hJ hS rfl ?_ (by kernel_rfl)
      refine VX_go4 (fs := []) (ok 3 _) eqs trivial 100 [34] rfl trivial ?_
      refine VX_appendO (ok 3 _) rfl rfl rfl rfl rfl (by simp [nb, tb, maxL]; omega) rfl ?_ (by kernel_rfl)
      refine VX_entryStoreO (ok 3 _) rfl rfl rfl rfl rfl rfl rfl rfl rfl rfl g4 rfl rfl rfl rfl (by decide) (by decide) g5 rfl ?_ (by kernel_rfl)
      refine VX_go4 (fs := []) (ok 3 _) eqs trivial 100 [] rfl ?_ ?_
      · simp [allP, nb, tb, maxL]; omega
      refine ⟨.inl rfl, _, _, _, rfl, rfl, rfl, rfl, ?_⟩
      simp
end Go.Den.Q7.Lg
namespace Go.Den.Q7.Lg
open Go Go.Den Go.Proofs Go.Den.Q7
set_option maxRecDepth 8000
set_option linter.unusedVariables false
set_option linter.unusedSimpArgs false
/-- A log: its inputs, and what stands at each digest. -/
abbrev Log := List Bs × List (Bs × List Bs)
def logB (q : Log) : List Blk := lgB q.1 q.2
def noteL (d s : Bs) (q : Log) : Log := (noteI d s q.1 q.2, noteM d s q.2)
def clashL (q : Log) : Bool := decide (q.2.length < q.1.length)
/-- All that is kept. -/
def total : List (Bs × List Bs) → Nat
  | [] => 0
  | p :: M => p.2.length + total M
/-- Nothing stands twice or at no place. -/
structure LInv (q : Log) : Prop where
  ne : ∀ p ∈ q.2, p.2 ≠ []
  tot : q.1.length = total q.2
theorem total_ge {M : List (Bs × List Bs)} (h : ∀ p ∈ M, p.2 ≠ []) : M.length ≤ total M := by
  induction M with
  | nil => simp [total]
  | cons p M ih =>
    have h1 := ih fun p hp => h p (by simp [hp])
    have h2 : 0 < p.2.length := List.length_pos_iff.2 (h p (by simp))
    simp only [total, List.length_cons]; omega
theorem getM_le (d : Bs) : ∀ M : List (Bs × List Bs), (getM d M).length ≤ total M
  | [] => by simp [getM, total]
  | (k, v) :: M => by
    simp only [getM, total]
    split
    · omega
    · have := getM_le d M; omega
theorem total_put (d s : Bs) : ∀ M : List (Bs × List Bs), total (putM d s M) = total M + 1
  | [] => by simp [putM, total]
  | (k, v) :: M => by
    simp only [putM, total]
    split
    · simp [total]; omega
    · simp only [total, total_put d s M]; omega
theorem put_ne (d s : Bs) : ∀ {M : List (Bs × List Bs)}, (∀ p ∈ M, p.2 ≠ []) → ∀ p ∈ putM d s M, p.2 ≠ []
  | [], _, p, hp => by simp [putM] at hp; subst hp; simp
  | (k, v) :: M, h, p, hp => by
    simp only [putM] at hp
    split at hp
    · simp only [List.mem_cons] at hp
      rcases hp with rfl | hp
      · simp
      · exact h p (by simp [hp])
    · simp only [List.mem_cons] at hp
      rcases hp with rfl | hp
      · exact h _ (by simp)
      · exact put_ne d s (fun p hp => h p (by simp [hp])) p hp
theorem LInv.nil : LInv ([], []) := ⟨by simp, rfl⟩
theorem LInv.note {q : Log} (h : LInv q) (d s : Bs) : LInv (noteL d s q) := by
  unfold noteL noteI noteM
  split
  · exact h
  · exact ⟨put_ne d s h.ne, by simp [total_put, h.tot]⟩
theorem noteL_len (d s : Bs) (q : Log) : (noteL d s q).1.length ≤ q.1.length + 1 := by
  unfold noteL noteI; split <;> simp
theorem getM_put (d s d' : Bs) : ∀ M : List (Bs × List Bs), getM d' (putM d s M) = if d' = d then getM d M ++ [s] else getM d' M
  | [] => by by_cases h : d' = d <;> simp [putM, getM, h]
  | (k, v) :: M => by
    simp only [putM]
    by_cases hk : d = k
    · subst hk
      by_cases h : d' = d
      · simp [getM, h]
      · simp [getM, h]
    · rw [if_neg hk]
      simp only [getM, getM_put d s d' M]
      by_cases h : d' = d
      · subst h; simp [hk]
      · simp [h]
/-- What was noted stands in the log, then and later. -/
def has (q : Log) (d s : Bs) : Prop := s ∈ getM d q.2
theorem has_note (q : Log) (d s : Bs) : has (noteL d s q) d s := by
  unfold has noteL noteM
  split
  · assumption
  · rw [getM_put]; simp
theorem has_mono {q : Log} {d s : Bs} (h : has q d s) (d' s' : Bs) : has (noteL d' s' q) d s := by
  unfold has noteL noteM at *
  split
  · exact h
  · rw [getM_put]; split
    · rename_i e; rw [e] at h; simp [h]
    · exact h
theorem LInv.fine {q : Log} (h : LInv q) (hc : clashL q = false) : ∀ p ∈ q.2, p.2.length = 1 := by
  have hle : total q.2 ≤ q.2.length := by
    have := h.tot
    simp [clashL] at hc; omega
  have key : ∀ M : List (Bs × List Bs), (∀ p ∈ M, p.2 ≠ []) → total M ≤ M.length → ∀ p ∈ M, p.2.length = 1 := by
    intro M
    induction M with
    | nil => intro _ _ p hp; simp at hp
    | cons x M ih =>
      intro hn hl p hp
      have h1 := total_ge (M := M) fun p hp => hn p (by simp [hp])
      have h2 : 0 < x.2.length := List.length_pos_iff.2 (hn x (by simp))
      simp only [total, List.length_cons] at hl
      rcases List.mem_cons.1 hp with rfl | hp
      · omega
      · exact ih (fun p hp => hn p (by simp [hp])) (by omega) p hp
  exact key q.2 h.ne hle
theorem getM_mem {d s : Bs} : ∀ {M : List (Bs × List Bs)}, s ∈ getM d M → ∃ p ∈ M, p.2 = getM d M
  | [], h => by simp [getM] at h
  | (k, v) :: M, h => by
    simp only [getM] at h ⊢
    by_cases hk : d = k
    · rw [if_pos hk]; exact ⟨(k, v), by simp, rfl⟩
    · rw [if_neg hk] at h ⊢
      obtain ⟨p, h1, h2⟩ := getM_mem h
      exact ⟨p, by simp [h1], h2⟩
/-- A log that does not clash: one input a digest. -/
theorem LInv.one {q : Log} (h : LInv q) (hc : clashL q = false) {d s s' : Bs} (h1 : has q d s) (h2 : has q d s') : s = s' := by
  obtain ⟨p, hp, he⟩ := getM_mem h1
  have := h.fine hc p hp
  rw [he] at this
  unfold has at h1 h2
  match hg : getM d q.2 with
  | [] => rw [hg] at this; simp at this
  | [x] => rw [hg] at h1 h2; simp at h1 h2; rw [h1, h2]
  | _ :: _ :: _ => rw [hg] at this; simp at this
theorem LInv.bounds {q : Log} (h : LInv q) {n : Nat} (hn : q.1.length ≤ n) (d : Bs) : q.2.length ≤ n ∧ (getM d q.2).length ≤ n := by
  have h1 := total_ge h.ne
  have h2 := getM_le d q.2
  have h3 := h.tot
  omega
theorem noteL_ok (d s : Bs) (q : Log) (hq : LInv q) (hl : q.1.length ≤ 100000) : FnG Tryd.prog tb 35 (logB q) [.ptr 0 [], .t 24 (.e (Sh.dgE d)), .t 9 (.e (.str s))] (fun r t => r = .tup [] ∧ t = logB (noteL d s q)) :=
  note_lg d s q.1 q.2 hl (hq.bounds hl d).1 (hq.bounds hl d).2
theorem clashL_ok (q : Log) (hq : LInv q) (hl : q.1.length ≤ 100000) : FnG Tryd.prog tb 15 (logB q) [.ptr 0 []] (fun d s => d = .t 4 (.e (.bool (clashL q))) ∧ s = logB q) :=
  clash_ok q.1 q.2 hl (hq.bounds hl []).1
/-- What a log is after an input of a domain and parts. -/
def ofL (x : UInt8) (ps : List Bs) (q : Log) : Log := noteL (Dg.ofB x ps) (Dg.inputB x ps) q
theorem rof_lg (x : UInt8) (ps : List Bs) (q : Log) (hq : LInv q) (hlq : q.1.length ≤ 100000) (hl : (Dg.inputB x ps).length ≤ 400000) :
    FnG Tryd.prog tb 29 (logB q) [.ptr 0 [], .t 5 (.e (byteE x)), .t 55 (.e (.sl (ps.map E.str)))] (fun r t => r = .t 24 (.e (Sh.dgE (Dg.ofB x ps))) ∧ t = logB (ofL x ps q)) := by
  refine FnG_of_V (fn := Tryd.f29) (bt := 4) true [] [24] (ok 3 _) Tryd.func29 rfl rfl rfl fun _ _ _ _ _ _ => ?_
  apply V_of_VX
  unfold ofL Dg.ofB
  have c1 := (Dg.rinput_ok x ps (by omega)).g
  generalize Dg.inputB x ps = I at hl c1 ⊢
  have c2 := (Sh.rsum_ok I (by omega)).g
  generalize Sh.shaB I = d at c2 ⊢
  have c3 := noteL_ok d I q hq hlq
  generalize hL : noteL d I q = q' at c3 ⊢
  unfold logB lgB at c3 ⊢
  generalize hE : entL q.2 = E0 at c3 ⊢
  generalize hE' : entL q'.2 = E1 at c3 ⊢
  generalize q.1.map E.str = I0 at c3 ⊢
  generalize q'.1.map E.str = I1 at c3 ⊢
  refine VX_go4 (fs := []) (ok 3 _) eqs trivial 100 [] rfl trivial ?_
  refine VX_callD (ok 3 _) [5, 55] [] rfl rfl rfl rfl rfl rfl c1 rfl rfl rfl ?_
  refine VX_go4 (fs := []) (ok 3 _) eqs trivial 100 [] rfl trivial ?_
  refine VX_callD (ok 3 _) [9] [] rfl rfl rfl rfl rfl rfl c2 rfl rfl rfl ?_
  refine VX_go4 (fs := []) (ok 3 _) eqs trivial 100 [] rfl trivial ?_
  refine VX_callD (ok 3 _) [38, 24, 9] [0, 1, 2] rfl rfl rfl rfl rfl rfl c3 rfl rfl rfl ?_
  refine VX_go4 (fs := []) (ok 3 _) eqs trivial 100 [] rfl trivial ?_
  exact ⟨.inr rfl, _, _, _, rfl, rfl, rfl, rfl, rfl⟩
end Go.Den.Q7.Lg
/- Law 07: nodes, noughts and climbs of the document's answer, with a log. -/
namespace Go.Den.Q7.Me
open Go Go.Den Go.Proofs Go.Den.Q7 Go.Den.Q7.Dg
set_option maxRecDepth 8000
set_option linter.unusedVariables false
set_option linter.unusedSimpArgs false
open Go.Den.Q7.Sh (dgE)
open Go.Den.Q7.Lg (Log LInv logB noteL ofL has clashL)

/-- A node's input noted. -/
def twoL (a b : Dig) (q : Log) : Log := ofL 6 [a, b] q
theorem twoL_inv {q : Log} (h : LInv q) (a b : Dig) : LInv (twoL a b q) := h.note _ _
theorem twoL_len (a b : Dig) (q : Log) : (twoL a b q).1.length ≤ q.1.length + 1 := Lg.noteL_len _ _ _

theorem rtwo_lg {a b : Dig} (ha : a.length = 32) (hb : b.length = 32) (q : Log) (hq : LInv q) (hl : q.1.length ≤ 100000) :
    FnG Tryd.prog tb 25 (logB q) [.ptr 0 [], .t 5 (.e (byteE 6)), .t 24 (.e (dgE a)), .t 24 (.e (dgE b))] (fun r t => r = .t 24 (.e (dgE (nodeB a b))) ∧ t = logB (twoL a b q)) := by
  refine FnG_of_V (fn := Tryd.f25) (bt := 4) true [] [24] (ok 3 _) Tryd.func25 rfl rfl rfl fun _ _ _ _ _ _ => ?_
  apply V_of_VX
  have c1 := Lg.rof_lg 6 [a, b] q hq hl (two_input ha hb)
  unfold nodeB twoL
  generalize ofB 6 [a, b] = d at c1 ⊢
  generalize ofL 6 [a, b] q = q' at c1 ⊢
  unfold logB Lg.lgB at c1 ⊢
  generalize Lg.entL q.2 = E0 at c1 ⊢
  generalize Lg.entL q'.2 = E1 at c1 ⊢
  generalize q.1.map E.str = I0 at c1 ⊢
  generalize q'.1.map E.str = I1 at c1 ⊢
  refine VX_go4 (fs := []) (ok 3 _) eqs trivial 100 [] rfl trivial ?_
  refine VX_draw [0, 1, 2, 5] [(0, true), (1, true), (2, true), (4, true), (3, false), (5, false), (6, false), (7, false), (8, false)] mixed (by kernel_rfl) (by kernel_rfl) (by kernel_rfl) ?_
  refine VX_go4 (fs := []) (ok 3 _) eqs trivial 100 [] rfl trivial ?_
  refine VX_callO (ok 3 _) [24] [] rfl rfl rfl rfl rfl rfl rfl rfl (bytes_ok a ha).g rfl rfl rfl ?_
  refine VX_callO (ok 3 _) [24] [] rfl rfl rfl rfl rfl rfl rfl rfl (bytes_ok b hb).g rfl rfl rfl ?_
  refine VX_litO (ok 3 _) rfl rfl rfl rfl rfl ?_
  refine VX_callO (ok 3 _) [38, 5, 55] [0, 1, 2] rfl rfl rfl rfl rfl rfl rfl rfl c1 rfl rfl rfl ?_
  refine VX_storeO (ok 3 _) rfl rfl rfl rfl rfl rfl (by simp) ?_
  refine VX_go4 (fs := []) (ok 3 _) eqs trivial 100 [] rfl trivial ?_
  exact ⟨.inr rfl, _, _, _, rfl, rfl, rfl, rfl, rfl⟩

/-- The noughts noted, up to a level. -/
def nL (q : Log) : Nat → Log
  | 0 => q
  | i + 1 => twoL (nght i) (nght i) (nL q i)
theorem nL_inv {q : Log} (h : LInv q) : ∀ i, LInv (nL q i)
  | 0 => h
  | i + 1 => twoL_inv (nL_inv h i) _ _
theorem nL_len (q : Log) : ∀ i, (nL q i).1.length ≤ q.1.length + i
  | 0 => Nat.le_refl _
  | i + 1 => by have := twoL_len (nght i) (nght i) (nL q i); have := nL_len q i; simp only [nL]; omega

theorem rnoughts_lg (q : Log) (hq : LInv q) (hl : q.1.length ≤ 90000) : FnG Tryd.prog tb 21 (logB q) [.ptr 0 []] (fun r t => r = .t 22 (.e (dsE (zP 32))) ∧ t = logB (nL q 33)) := by
  refine FnG_of_V (fn := Tryd.f21) (bt := 4) true [] [22] (ok 3 _) Tryd.func21 rfl rfl rfl fun _ _ _ _ _ _ => ?_
  apply V_of_VX
  have hz : ∀ i, i ≤ 33 → ((zP 32).take i).length = i := fun i h => by simp [zP_length]; omega
  have hinv := nL_inv hq
  have hlen := nL_len q
  have e0 : Lg.entL q.2 = Lg.entL (nL q 0).2 := rfl
  have e1 : q.1.map E.str = (nL q 0).1.map E.str := rfl
  unfold logB Lg.lgB
  rw [e0, e1]
  refine VX_go4 (fs := []) (ok 3 _) eqs trivial 100 [] rfl trivial ?_
  refine VX_promote 3 (u := 24) rfl rfl ?_
  refine VX_loopA (fun i : Nat => i ≤ 33) (fun i => [(5, .t 3 (.e (.int i))), (4, .ptr 3 []), (3, .t 22 (.lsl 4 (((zP 32).take i).map dgE))), (0, .ptr 0 [])])
    (fun i => [.tree 57 (.st [.lsl 1 ((nL q i).1.map E.str), .mp 2]), .row 9 ((nL q i).1.map E.str).length, .mp 24 9 (Lg.entL (nL q i).2), .tree 24 (.e (dgE (nght i))), .row 24 (((zP 32).take i).map dgE).length]) (fun i => 33 - i) 0 (by omega) ?_ ?_
  · exact wk1 rfl rfl (by simp [Blk.under, T.under, T.unders]) (lc (ls rfl rfl) (lc (ls rfl rfl) (lc (ls rfl rfl) (lc (ls rfl rfl) lnil))))
  · intro i hi
    have hzi := hz i hi
    have hle := hlen i
    refine VX_go4 (fs := []) (ok 3 _) eqs trivial 100 [] rfl trivial ?_
    refine VX_split 7 rfl rfl (fun h => ?_) (fun h => ?_)
    · have hi : i < 33 := by simp at h; omega
      have ei : IntKind.wrap .i64 ((i : Int) + 1) = ((i + 1 : Nat) : Int) := by rw [w64 (by omega) (by omega)]; simp
      have hn := nght_length i
      have c1 := rtwo_lg hn hn (nL q i) (hinv i) (by omega)
      have hs : (zP 32).take (i + 1) = (zP 32).take i ++ [nght i] := by
        have hi2 : i < (zP 32).length := by simp [zP_length]; omega
        rw [List.take_add_one, List.getElem?_eq_getElem hi2]
        simp only [zP, List.getElem_map, List.getElem_range, Option.toList_some]
        rw [if_pos (by omega)]
      have hsm : ((zP 32).take (i + 1)).map dgE = ((zP 32).take i).map dgE ++ [dgE (nght i)] := by rw [hs]; simp
      have hnx : nght (i + 1) = nodeB (nght i) (nght i) := rfl
      have hnl : nL q (i + 1) = twoL (nght i) (nght i) (nL q i) := rfl
      generalize twoL (nght i) (nght i) (nL q i) = q' at c1 hnl
      generalize nodeB (nght i) (nght i) = nd at c1 hnx
      generalize nght i = ni at c1 hsm hn ⊢
      unfold logB Lg.lgB at c1
      generalize hq0 : nL q i = q0 at c1 ⊢
      have g1 : Lg.entL (nL q (i + 1)).2 = Lg.entL q'.2 := by rw [hnl]
      have g2 : (nL q (i + 1)).1.map E.str = q'.1.map E.str := by rw [hnl]
      generalize Lg.entL q0.2 = E0 at c1 ⊢
      generalize Lg.entL q'.2 = E1 at c1 g1
      generalize q0.1.map E.str = I0 at c1 ⊢
      generalize q'.1.map E.str = I1 at c1 g2
      refine VX_go4 (fs := []) (ok 3 _) eqs trivial 100 [] rfl (by simp [allP, nb, tb, maxL, zP_length]; omega) ?_
      refine VX_callD (ok 3 _) [38, 5, 24, 24] [0, 1, 2] rfl rfl rfl rfl rfl rfl c1 rfl rfl rfl ?_
      refine VX_go4 (fs := []) (ok 3 _) eqs trivial 100 [] rfl trivial ?_
      refine loop_nrm ⟨i + 1, by omega, by omega, ?_⟩
      exact wk1 (by rw [hnx, hsm, g1, g2]; rfl) rfl (by simp [Blk.under, T.under, T.unders]) (lc (li (by rw [ei])) (lc (ls rfl rfl) (lc (ls (by rw [hsm]; rfl) rfl) (lc (ls rfl rfl) lnil))))
    · have hi' : i = 33 := by simp at h; omega
      subst hi'
      have : (zP 32).take 33 = zP 32 := List.take_of_length_le (by simp [zP_length])
      rw [this]
      generalize zP 32 = Z
      generalize nght 33 = nn
      generalize nL q 33 = q'
      generalize Lg.entL q'.2 = E1
      generalize q'.1.map E.str = I1
      refine VX_go4 (fs := []) (ok 3 _) eqs trivial 100 [] rfl trivial ?_
      apply loop_brk
      refine VX_go4 (fs := []) (ok 3 _) eqs trivial 100 [] rfl trivial ?_
      exact ⟨.inr rfl, _, _, _, rfl, rfl, rfl, rfl, rfl⟩
end Go.Den.Q7.Me
