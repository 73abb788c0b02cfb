/- The calculus and the walks, part 10: Q33U, Q33Z, Q33ZZ, Q33X, DenNewM, DenTsl, DenMap, DenMap2, DenMap3, DenMap4, DenMap5. -/
import Derived.Test.YtlhmimpbpphchaaDoorP9
import Derived.Test.YtlhmimpbpphchaaDoorRows
import Derived.WalkKit
import Derived.ProofKit
import Derived.OpenShut
import Derived.ShutString
import Derived.ChangeOld
import Derived.LaidMore
import Derived.Stop.Joined
import Derived.Below
import Derived.Test.YtlhmimpbpphchaaDoorP6
import Derived.WideKeyRuns
/- Law 33: a proof shows; the law of proofs. -/
namespace Go.Den.Q33
open Go Go.Den Go.Proofs Go.Den.Q33.Dg
set_option maxRecDepth 8000
set_option linter.unusedVariables false
set_option linter.unusedSimpArgs false
open Go.Den.Q33.Sh (dgE)
open Go.Den.Q33.Me (Dig dsE All32 z0 rootB eqDg brL provesB)

theorem proves_br {L : List Dig} {k : Nat} (hk : k < L.length) (hl : L.length ≤ 100000) (z : Dig) : provesB (rootB L) (L.getD k z) k (brL L k 32) = true := by
  have h1 : Me.climbB (L.getD k z) k (brL L k 32) = Me.clB (Me.nd L 0 k) k (brL L k 32) 32 := by
    rw [Me.nd_zero hk z]
    unfold Me.climbB Me.upTo
    rw [Me.brL_length]; rfl
  unfold provesB
  rw [h1, Me.cl_root hk (by omega), Me.brL_length]
  simp
theorem cL_get {cs : List (List UInt8)} {k : Nat} (h : k < cs.length) : (cL cs).getD k [] = callB (cs.getD k []) := by simp [cL, List.getD, h]
theorem rL_get {rs : List Int} {k : Nat} (h : k < rs.length) : (rL rs).getD k [] = recB k (rs.getD k 0) := by
  simp [rL, List.getD, h]
theorem prv_shows {x : Bk} (hs : Small x) {k : Nat} (h1 : k < x.cs.length) (h2 : k < x.rs.length) (p : Dig) : shwB (ofHB x p) (prvB x k) = 0 := by
  have e1 : provesB (rootB (cL x.cs)) (callB (x.cs.getD k [])) k (brL (cL x.cs) k 32) = true := by
    rw [← cL_get h1]
    exact proves_br (by rw [cL_length]; exact h1) (by rw [cL_length]; have := hs.1; omega) []
  have e2 : provesB (rootB (rL x.rs)) (recB k (x.rs.getD k 0)) k (brL (rL x.rs) k 32) = true := by
    rw [← rL_get h2]
    exact proves_br (by rw [rL_length]; exact h2) (by rw [rL_length]; have := hs.2.1; omega) []
  unfold shwB
  rw [if_neg (by show ¬ x.cs.length ≤ k; omega)]
  rw [if_neg (by show ¬ provesB (rootB (cL x.cs)) (callB (x.cs.getD k [])) k (brL (cL x.cs) k 32) = false; rw [e1]; simp)]
  rw [if_neg (by show ¬ provesB (rootB (rL x.rs)) (recB k (x.rs.getD k 0)) k (brL (rL x.rs) k 32) = false; rw [e2]; simp)]
theorem prv_ok {x : Bk} (hs : Small x) {k : Nat} (h1 : k < x.cs.length) : (prvB x k).ok :=
  ⟨by show k < _; have := hs.1; omega, hs.2.2 _ (getD_mem h1), Me.brL_all (cL_all _) _ _, Me.brL_all (rL_all _) _ _, by show (brL (cL x.cs) k 32).length ≤ _; rw [Me.brL_length]; omega, by show (brL (rL x.rs) k 32).length ≤ _; rw [Me.brL_length]; omega⟩

/-! ### the law's own try -/
def x0 : Bk := ⟨3, z0, 0, [[97]], [7], z0⟩
theorem x0_small : Small x0 := ⟨by simp [x0], by simp [x0], by simp [x0]⟩
theorem x0_ok : x0.ok := ⟨by simp [x0], by simp [x0, z0], by simp [x0], by simp [x0, z0]⟩
set_option maxHeartbeats 1600000 in
theorem awake_walk {h0 : Hd} {P : Pf} (c1 : FnOk Tryd.prog tb 18 [78, 28, 24] [59] [.nilp, x0.E, dgE z0] [h0.E]) (c2 : FnOk Tryd.prog tb 17 [78, 31, 59] [31, 33] [.nilp, liE [], h0.E] [liE [h0], .int 0])
    (c3 : FnOk Tryd.prog tb 9 [78, 28, 3] [36, 33] [.nilp, x0.E, .int 0] [P.E, .int 0]) (c4 : FnOk Tryd.prog tb 14 [78, 31, 22, 36] [33] [.nilp, liE [h0], .int 3, P.E] [.int 0])
    (c5 : FnOk Tryd.prog tb 14 [78, 31, 22, 36] [33] [.nilp, liE [], .int 3, P.E] [.int 14]) : FnOk Tryd.prog tb 7 [] [4] [] [.bool true] := by
  refine FnOk_of_V (fn := Tryd.f7) (bt := 4) (ok 0 _) Tryd.func7 rfl rfl rfl (by decide) fun hw => ?_
  clear hw
  have c1 := c1.g
  have c2 := c2.g
  have c3 := c3.g
  have c4 := c4.g
  have c5 := c5.g
  obtain ⟨h1, h2, h3, h4, h5, h6, h7⟩ := h0
  obtain ⟨pa, pc, pe, pcs, prs⟩ := P
  apply V_of_VX
  refine VX_go4 (fs := []) (ok 0 _) eqs trivial 100 [] rfl trivial ?_
  refine VX_callD (ok 0 _) [78, 28, 24] [] rfl rfl rfl rfl rfl rfl c1 rfl rfl rfl ?_
  refine VX_go4 (fs := []) (ok 0 _) eqs trivial 100 [] rfl trivial ?_
  refine VX_callD (ok 0 _) [78, 31, 59] [] rfl rfl rfl rfl rfl rfl c2 rfl rfl rfl ?_
  refine VX_go4 (fs := []) (ok 0 _) eqs trivial 100 [] rfl trivial ?_
  refine VX_callD (ok 0 _) [78, 28, 3] [] rfl rfl rfl rfl rfl rfl c3 rfl rfl rfl ?_
  refine VX_go4 (fs := []) (ok 0 _) eqs trivial 100 [] rfl trivial ?_
  refine VX_known 26 true rfl rfl rfl ?_
  refine VX_go4 (fs := []) (ok 0 _) eqs trivial 100 [] rfl trivial ?_
  refine VX_known 30 true rfl rfl rfl ?_
  refine VX_go4 (fs := []) (ok 0 _) eqs trivial 100 [] rfl trivial ?_
  refine VX_callD (ok 0 _) [78, 31, 22, 36] [] rfl rfl rfl rfl rfl rfl c4 rfl rfl rfl ?_
  refine VX_go4 (fs := []) (ok 0 _) eqs trivial 100 [] rfl trivial ?_
  refine VX_known 36 true rfl rfl rfl ?_
  refine VX_go4 (fs := []) (ok 0 _) eqs trivial 100 [] rfl trivial ?_
  refine VX_callD (ok 0 _) [78, 31, 22, 36] [] rfl rfl rfl rfl rfl rfl c5 rfl rfl rfl ?_
  refine VX_go4 (fs := []) (ok 0 _) eqs trivial 100 [] rfl trivial ?_
  exact ⟨.inr rfl, rfl⟩

theorem awake_fin {h0 : Hd} {P : Pf} (c1 : FnOk Tryd.prog tb 18 [78, 28, 24] [59] [.nilp, x0.E, dgE z0] [h0.E]) (c3 : FnOk Tryd.prog tb 9 [78, 28, 3] [36, 33] [.nilp, x0.E, .int (0 : Nat)] [P.E, .int 0])
    (hho : h0.ok) (hpo : P.ok) (hs0 : shwB h0 P = 0) (hh : h0.h = 3) : FnOk Tryd.prog tb 7 [] [4] [] [.bool true] := by
  have c2 := extend_ok (hs := []) (fun _ h => by cases h) (by simp) hho
  have e2 : folB [] h0 = 0 := by simp [folB]
  have e2' : extB [] h0 = [h0] := by rw [extB, if_pos e2]; rfl
  rw [e2, e2'] at c2
  have c4 := shows_ok (hs := [h0]) (by simp) 3 hpo
  have e4 : showB [h0] 3 P = 0 := by
    have : findH 3 [h0] = some h0 := by simp [findH, hh]
    rw [showB, this]; simp only [showO]; exact hs0
  rw [e4] at c4
  have c5 := shows_ok (hs := []) (by simp) 3 hpo
  have e5 : showB [] 3 P = 14 := by rw [showB]; simp only [findH, showO]
  rw [e5] at c5
  exact awake_walk c1 c2 c3 c4 c5
theorem awake_ok : FnOk Tryd.prog tb 7 [] [4] [] [.bool true] :=
  awake_fin (h0 := ofHB x0 z0) (P := prvB x0 0) (of_ok x0_small z0) (prove_ok x0_small 0 (by simp [x0]) (by simp [x0])) (ofHB_ok x0_ok x0_small (by simp [z0])) (prv_ok x0_small (k := 0) (by simp [x0]))
    (prv_shows x0_small (k := 0) (by simp [x0]) (by simp [x0]) z0) rfl

/-! ### reading the arguments -/
theorem list7 {α : Type} {l : List α} (h : l.length = 7) : ∃ a b c d e f g, l = [a, b, c, d, e, f, g] := by
  match l, h with
  | [a, b, c, d, e, f, g], _ => exact ⟨a, b, c, d, e, f, g, rfl⟩
theorem wt_u8 {t : TypeId} {x : E} (h : Wt tb t x) (ht : td tb t = .int .u8) : ∃ b : UInt8, x = byteE b := by
  obtain ⟨n, rfl, hn⟩ := wt_int h ht
  simp only [inR, Bool.and_eq_true, decide_eq_true_eq] at hn
  exact ⟨UInt8.ofNat n.toNat, by simp only [byteE, UInt8.toNat_ofNat']; congr 1; omega⟩
theorem wt_u32 {t : TypeId} {x : E} (h : Wt tb t x) (ht : td tb t = .int .u32) : ∃ n : Nat, x = .int n ∧ n < 4294967296 := by
  obtain ⟨n, rfl, hn⟩ := wt_int h ht
  simp only [inR, Bool.and_eq_true, decide_eq_true_eq] at hn
  exact ⟨n.toNat, by congr 1; omega, by omega⟩
theorem wt_u64 {t : TypeId} {x : E} (h : Wt tb t x) (ht : td tb t = .int .u64) : ∃ n : Nat, x = .int n ∧ n < 18446744073709551616 := by
  obtain ⟨n, rfl, hn⟩ := wt_int h ht
  simp only [inR, Bool.and_eq_true, decide_eq_true_eq] at hn
  exact ⟨n.toNat, by congr 1; omega, by omega⟩
theorem wt_dg {x : E} (h : Wt tb 24 x) : ∃ d : {d : Dig // d.length = 32}, x = dgE d.val := by
  obtain ⟨l, rfl, hl, hw⟩ := wt_arr (n := 32) (u := 5) h rfl
  obtain ⟨d, rfl⟩ := map_ex fun y hy => wt_u8 (hw y hy) rfl
  exact ⟨⟨d, by simpa using hl⟩, rfl⟩
theorem wt_digs {x : E} (h : Wt tb 34 x) : ∃ L : List Dig, x = dsE L ∧ All32 L := by
  obtain ⟨l, rfl, hl⟩ := wt_sl (u := 24) h rfl
  obtain ⟨L, rfl⟩ := map_ex fun y hy => wt_dg (hl y hy)
  exact ⟨L.map (·.1), by simp [dsE], fun d hd => by obtain ⟨z, _, rfl⟩ := List.mem_map.1 hd; exact z.2⟩
theorem wt_bk {x : E} (h : Wt tb 28 x) : ∃ r : {r : Bk // r.ok}, x = r.1.E := by
  obtain ⟨l, rfl, hl, hw⟩ := wt_st h rfl
  obtain ⟨a, b, c, d, e, f, rfl⟩ := list6 hl
  obtain ⟨n0, rfl, h0⟩ := wt_u64 (hw 0 _ a rfl rfl) rfl
  obtain ⟨⟨d1, h1⟩, rfl⟩ := wt_dg (hw 1 _ b rfl rfl)
  obtain ⟨n2, rfl, h2⟩ := wt_u64 (hw 2 _ c rfl rfl) rfl
  obtain ⟨xs, rfl, hx⟩ := wt_sl (u := 9) (hw 3 _ d rfl rfl) rfl
  obtain ⟨ys, rfl, hy⟩ := wt_sl (u := 33) (hw 4 _ e rfl rfl) rfl
  obtain ⟨⟨d5, h5⟩, rfl⟩ := wt_dg (hw 5 _ f rfl rfl)
  obtain ⟨cs, rfl⟩ := map_ex (f := E.str) fun y hy' => wt_str (hx y hy') rfl
  obtain ⟨rs, rfl⟩ := map_ex (f := E.int) fun y hy' => by obtain ⟨n, h, _⟩ := wt_int (k := .i64) (hy y hy') rfl; exact ⟨n, h⟩
  exact ⟨⟨⟨n0, d1, n2, cs, rs, d5⟩, ⟨h0, h1, h2, h5⟩⟩, rfl⟩
theorem wt_hd {x : E} (h : Wt tb 59 x) : ∃ r : {r : Hd // r.ok}, x = r.1.E := by
  obtain ⟨l, rfl, hl, hw⟩ := wt_st h rfl
  obtain ⟨a, b, c, d, e, f, g, rfl⟩ := list7 hl
  obtain ⟨n0, rfl, h0⟩ := wt_u64 (hw 0 _ a rfl rfl) rfl
  obtain ⟨⟨d1, h1⟩, rfl⟩ := wt_dg (hw 1 _ b rfl rfl)
  obtain ⟨n2, rfl, h2⟩ := wt_u64 (hw 2 _ c rfl rfl) rfl
  obtain ⟨⟨d3, h3⟩, rfl⟩ := wt_dg (hw 3 _ d rfl rfl)
  obtain ⟨⟨d4, h4⟩, rfl⟩ := wt_dg (hw 4 _ e rfl rfl)
  obtain ⟨⟨d5, h5⟩, rfl⟩ := wt_dg (hw 5 _ f rfl rfl)
  obtain ⟨n6, rfl, h6⟩ := wt_u32 (hw 6 _ g rfl rfl) rfl
  exact ⟨⟨⟨n0, d1, n2, d3, d4, d5, n6⟩, ⟨h0, h1, h2, h3, h4, h5, h6⟩⟩, rfl⟩
theorem wt_li {x : E} (h : Wt tb 31 x) : ∃ hs : List Hd, x = liE hs ∧ ∀ y ∈ hs, y.ok := by
  obtain ⟨l, rfl, hl, hw⟩ := wt_st h rfl
  obtain ⟨a, rfl⟩ := list1 hl
  obtain ⟨xs, rfl, hx⟩ := wt_sl (u := 59) (hw 0 _ a rfl rfl) rfl
  obtain ⟨hs, rfl⟩ := map_ex fun y hy => wt_hd (hx y hy)
  exact ⟨hs.map (·.1), by simp [liE, hsE], fun d hd => by obtain ⟨z, _, rfl⟩ := List.mem_map.1 hd; exact z.2⟩
theorem wt_pf {x : E} (h : Wt tb 36 x) : ∃ p : Pf, x = p.E ∧ p.a < 4294967296 ∧ All32 p.cs ∧ All32 p.rs := by
  obtain ⟨l, rfl, hl, hw⟩ := wt_st h rfl
  obtain ⟨a, b, c, d, e, rfl⟩ := list5 hl
  obtain ⟨n0, rfl, h0⟩ := wt_u32 (hw 0 _ a rfl rfl) rfl
  obtain ⟨s, rfl⟩ := wt_str (hw 1 _ b rfl rfl) rfl
  obtain ⟨n2, rfl, _⟩ := wt_int (k := .i64) (hw 2 _ c rfl rfl) rfl
  obtain ⟨L3, rfl, h3⟩ := wt_digs (hw 3 _ d rfl rfl)
  obtain ⟨L4, rfl, h4⟩ := wt_digs (hw 4 _ e rfl rfl)
  exact ⟨⟨n0, s, n2, L3, L4⟩, rfl, h0, h3, h4⟩

/-! ### the law -/
theorem bool_cases (b : Bool) : b = true ∨ b = false := by cases b <;> simp
set_option maxHeartbeats 3200000 in
theorem law_proofs (x0 x1 x2 x3 x4 : E) : FnOk Tryd.prog tb 3 [28, 3, 31, 22, 36] [4] [x0, x1, x2, x3, x4] [.bool true] := by
  refine FnOk_of_V (fn := Tryd.f3) (bt := 4) (ok 0 _) Tryd.func3 rfl rfl rfl (by decide) fun hw => ?_
  obtain ⟨⟨x, hxo⟩, rfl⟩ := wt_bk (hw 0 _ x0 rfl rfl)
  obtain ⟨k, rfl, _⟩ := wt_int (hw 1 _ x1 rfl rfl) (k := .i64) rfl
  obtain ⟨hs, rfl, hho⟩ := wt_li (hw 2 _ x2 rfl rfl)
  obtain ⟨g, rfl, hg⟩ := wt_u64 (hw 3 _ x3 rfl rfl) rfl
  obtain ⟨p, rfl, hp1, hp2, hp3⟩ := wt_pf (hw 4 _ x4 rfl rfl)
  clear hw
  have hrm : (hs.map Hd.E).length = hs.length := by simp
  have l1 : (p.cs.map dgE).length = p.cs.length := by simp
  have l2 : (p.rs.map dgE).length = p.rs.length := by simp
  have c1 := awake_ok.g
  have c2 := (few_ok x).g
  have hfw := few_small (x := x)
  generalize fewB x = fb at c2 hfw
  apply V_of_VX
  refine VX_go4 (fs := []) (ok 0 _) eqs trivial 100 [] rfl trivial ?_
  refine VX_callD (ok 0 _) [] [] rfl rfl rfl rfl rfl rfl c1 rfl rfl rfl ?_
  refine VX_go4 (fs := []) (ok 0 _) eqs trivial 100 [] rfl trivial ?_
  refine VX_known 16 false rfl rfl rfl ?_
  refine VX_go4 (fs := []) (ok 0 _) eqs trivial 100 [] rfl trivial ?_
  refine VX_callD (ok 0 _) [28] [] rfl rfl rfl rfl rfl rfl c2 rfl rfl rfl ?_
  refine VX_go4 (fs := []) (ok 0 _) eqs trivial 100 [] rfl trivial ?_
  cases fb with
  | false =>
    refine VX_known 20 true rfl rfl rfl ?_
    refine VX_go4 (fs := []) (ok 0 _) eqs trivial 100 [] rfl trivial ?_
    exact ⟨.inr rfl, rfl⟩
  | true =>
  obtain ⟨hsm, hc12, hr12⟩ := hfw rfl
  refine VX_known 20 false rfl rfl rfl ?_
  refine VX_go4 (fs := []) (ok 0 _) eqs trivial 100 [] rfl trivial ?_
  refine VX_split 26 rfl rfl (fun _ => ?_) (fun h1 => ?_)
  · refine VX_go4 (fs := []) (ok 0 _) eqs trivial 100 [] rfl trivial ?_
    exact ⟨.inr rfl, rfl⟩
  have h1 : hs.length ≤ 30 := by simp only [hrm, decide_eq_false_iff_not] at h1; omega
  refine VX_go4 (fs := []) (ok 0 _) eqs trivial 100 [] rfl trivial ?_
  refine VX_split 32 rfl rfl (fun _ => ?_) (fun h2 => ?_)
  · refine VX_go4 (fs := []) (ok 0 _) eqs trivial 100 [] rfl trivial ?_
    exact ⟨.inr rfl, rfl⟩
  have h2 : p.c.length ≤ 21000 := by simp only [decide_eq_false_iff_not] at h2; omega
  refine VX_go4 (fs := []) (ok 0 _) eqs trivial 100 [] rfl trivial ?_
  refine VX_split 38 rfl rfl (fun _ => ?_) (fun h3 => ?_)
  · refine VX_go4 (fs := []) (ok 0 _) eqs trivial 100 [] rfl trivial ?_
    exact ⟨.inr rfl, rfl⟩
  have h3 : p.cs.length ≤ 100 := by simp only [l1, decide_eq_false_iff_not] at h3; omega
  refine VX_go4 (fs := []) (ok 0 _) eqs trivial 100 [] rfl trivial ?_
  refine VX_split 43 rfl rfl (fun _ => ?_) (fun h4 => ?_)
  · refine VX_go4 (fs := []) (ok 0 _) eqs trivial 100 [] rfl trivial ?_
    exact ⟨.inr rfl, rfl⟩
  have h4 : p.rs.length ≤ 100 := by simp only [l2, decide_eq_false_iff_not] at h4; omega
  have hpo : p.ok := ⟨hp1, by omega, hp2, hp3, by omega, by omega⟩
  obtain ⟨R, e, c3, c4, hR1, hR2⟩ : ∃ (R : Pf) (e : Int), FnOk Tryd.prog tb 9 [78, 28, 3] [36, 33] [.nilp, x.E, .int k] [R.E, .int e] ∧ FnOk Tryd.prog tb 10 [61, 47, 3] [42, 3] [.nilp, x.E, .int k] [R.E, .int e] ∧
      R.cs.length ≤ 100000 ∧ R.rs.length ≤ 100000 := by
    by_cases hb : k < 0 ∨ (x.cs.length : Int) ≤ k ∨ (x.rs.length : Int) ≤ k
    · exact ⟨_, _, prove_bad k hb, rprove_bad k hb, by simp [z0p], by simp [z0p]⟩
    · obtain ⟨j, rfl⟩ : ∃ j : Nat, k = j := ⟨k.toNat, by omega⟩
      exact ⟨_, _, prove_ok hsm j (by omega) (by omega), rprove_ok hsm j (by omega) (by omega), by show (brL (cL x.cs) j 32).length ≤ _; rw [Me.brL_length]; omega, by show (brL (rL x.rs) j 32).length ≤ _; rw [Me.brL_length]; omega⟩
  have c3 := c3.g
  have c4 := c4.g
  have ct := (to_ok x (by omega)).g
  have c5 := (proof_ok R).g
  have c6 := (same_ok R hR1 hR2).g
  have c7 := (shows_ok (hs := hs) (by omega) g hpo).g
  have c8 := (heads_ok hs (by omega)).g
  have c9 := (proof_ok p).g
  have c10 := (rshows_ok (hs := hs) (by omega) g hpo).g
  generalize showB hs g p = sh at c7 c10
  refine VX_go4 (fs := []) (ok 0 _) eqs trivial 100 [] rfl trivial ?_
  refine VX_callD (ok 0 _) [78, 28, 3] [] rfl rfl rfl rfl rfl rfl c3 rfl rfl rfl ?_
  refine VX_go4 (fs := []) (ok 0 _) eqs trivial 100 [] rfl trivial ?_
  refine VX_callD (ok 0 _) [28] [] rfl rfl rfl rfl rfl rfl ct rfl rfl rfl ?_
  refine VX_go4 (fs := []) (ok 0 _) eqs trivial 100 [] rfl trivial ?_
  refine VX_callD (ok 0 _) [61, 47, 3] [] rfl rfl rfl rfl rfl rfl c4 rfl rfl rfl ?_
  refine VX_go4 (fs := []) (ok 0 _) eqs trivial 100 [] rfl trivial ?_
  refine VX_draw [] [(0, true), (2, true), (1, false), (3, false), (4, true), (5, true), (6, true), (7, true), (8, true), (9, true), (10, true), (11, true), (12, true), (14, true), (16, true), (17, true), (13, false), (15, false), (18, false), (19, false), (20, true), (21, true), (22, true)] mixed (by kernel_rfl) (by kernel_rfl) (by kernel_rfl) ?_
  refine VX_go4 (fs := []) (ok 0 _) eqs trivial 100 [] rfl trivial ?_
  refine VX_callO (ok 0 _) [36] [] rfl rfl rfl rfl rfl rfl rfl rfl c5 rfl rfl rfl ?_
  refine VX_callO (ok 0 _) [42, 42] [] rfl rfl rfl rfl rfl rfl rfl rfl c6 rfl rfl rfl ?_
  refine VX_go4 (fs := []) (ok 0 _) eqs trivial 100 [] rfl trivial ?_
  refine VX_known 61 true rfl rfl rfl ?_
  refine VX_go4 (fs := []) (ok 0 _) eqs trivial 100 [] rfl trivial ?_
  refine VX_known 66 true rfl rfl (by simp) ?_
  refine VX_go4 (fs := []) (ok 0 _) eqs trivial 100 [] rfl trivial ?_
  refine VX_callO (ok 0 _) [78, 31, 22, 36] [] rfl rfl rfl rfl rfl rfl rfl rfl c7 rfl rfl rfl ?_
  refine VX_callO (ok 0 _) [31] [] rfl rfl rfl rfl rfl rfl rfl rfl c8 rfl rfl rfl ?_
  refine VX_callO (ok 0 _) [36] [] rfl rfl rfl rfl rfl rfl rfl rfl c9 rfl rfl rfl ?_
  refine VX_callO (ok 0 _) [61, 53, 22, 42] [] rfl rfl rfl rfl rfl rfl rfl rfl c10 rfl rfl rfl ?_
  refine VX_go4 (fs := []) (ok 0 _) eqs trivial 100 [78] rfl trivial ?_
  refine VX_known 77 true rfl rfl (by simp) ?_
  refine VX_go4 (fs := []) (ok 0 _) eqs trivial 100 [] rfl trivial ?_
  exact ⟨.inr rfl, rfl⟩
end Go.Den.Q33
/- Law 33: LightShows. -/
namespace Go.Den.Q33
open Go Go.Den Go.Proofs Go.Den.Q33.Dg
set_option maxRecDepth 8000
set_option linter.unusedVariables false
set_option linter.unusedSimpArgs false
open Go.Den.Q33.Sh (dgE)
open Go.Den.Q33.Me (Dig dsE All32 z0 rootB eqDg brL provesB)

theorem fol_nil (h : Hd) : folB [] h = 0 := by simp [folB]
theorem ext_nil {h0 : Hd} (o0 : h0.ok) : FnOk Tryd.prog tb 17 [78, 31, 59] [31, 33] [.nilp, liE [], h0.E] [liE [h0], .int 0] := by
  have c2 := extend_ok (hs := []) (fun _ h => by cases h) (by simp) o0
  have f2' : extB [] h0 = [h0] := by rw [extB, if_pos (fol_nil h0)]; rfl
  rw [fol_nil, f2'] at c2
  exact c2
theorem fol_one {h0 h1 : Hd} (hh : h1.h = h0.h + 1) (hp : h1.p = hashB h0) : folB [h0] h1 = 0 := by
  have hl : lastH [h0] = h0 := rfl
  have h1l : ([h0] : List Hd).length = 1 := rfl
  unfold folB
  rw [hl, h1l, if_neg (by omega), if_neg (by omega), if_pos ⟨hh, hp⟩]
theorem ext_one {h0 h1 : Hd} (o0 : h0.ok) (o1 : h1.ok) (hh : h1.h = h0.h + 1) (hp : h1.p = hashB h0) : FnOk Tryd.prog tb 17 [78, 31, 59] [31, 33] [.nilp, liE [h0], h1.E] [liE [h0, h1], .int 0] := by
  have c2 := extend_ok (hs := [h0]) (fun z hz => by simp only [List.mem_cons, List.not_mem_nil, or_false] at hz; subst hz; exact o0) (by simp) o1
  have f2' : extB [h0] h1 = [h0, h1] := by rw [extB, if_pos (fol_one hh hp)]; rfl
  rw [fol_one hh hp, f2'] at c2
  exact c2
theorem right_two {h0 h1 : Hd} (o0 : h0.ok) (o1 : h1.ok) (hh : h1.h = h0.h + 1) (hp : h1.p = hashB h0) : FnOk Tryd.prog tb 25 [78, 31] [4] [.nilp, liE [h0, h1]] [.bool true] := by
  refine right_ok (hs := [h0, h1]) (fun z hz => ?_) (by simp) (fun i hi => ?_)
  · simp only [List.mem_cons, List.not_mem_nil, or_false] at hz
    rcases hz with rfl | rfl
    · exact o0
    · exact o1
  · have : i = 0 ∨ i = 1 := by simp at hi; omega
    rcases this with rfl | rfl
    · show folB [] h0 = 0
      exact fol_nil h0
    · show folB [h0] h1 = 0
      exact fol_one hh hp
theorem shows_two {h0 h1 : Hd} {P : Pf} (hpo : P.ok) (g : Nat) (h0n : h0.h ≠ g) (h1g : h1.h = g) (hs0 : shwB h1 P = 0) : FnOk Tryd.prog tb 14 [78, 31, 22, 36] [33] [.nilp, liE [h0, h1], .int g, P.E] [.int 0] := by
  have c8 := shows_ok (hs := [h0, h1]) (by simp) g hpo
  have e8 : showB [h0, h1] g P = 0 := by
    have hf : findH g [h0, h1] = some h1 := by simp only [findH]; rw [if_neg h0n, if_pos h1g]
    rw [showB, hf]; simp only [showO]; exact hs0
  rw [e8] at c8
  exact c8

def upx (x y : Bk) : Bk := ⟨y.h + 1, x.p, x.b, x.cs, x.rs, x.s⟩
theorem ofHB_h (x : Bk) (p : Dig) : (ofHB x p).h = x.h := rfl
theorem ofHB_p (x : Bk) (p : Dig) : (ofHB x p).p = p := rfl
theorem upx_h (x y : Bk) : (upx x y).h = y.h + 1 := rfl
theorem prvB_c (x : Bk) (k : Nat) : (prvB x k).c = x.cs.getD k [] := rfl
theorem prvB_e (x : Bk) (k : Nat) : (prvB x k).e = x.rs.getD k 0 := rfl
structure Pack (x y : Bk) (j : Nat) (h0 h1 : Hd) (P : Pf) (d : Dig) : Prop where
  c1 : FnOk Tryd.prog tb 18 [78, 28, 24] [59] [.nilp, y.E, dgE z0] [h0.E]
  c2 : FnOk Tryd.prog tb 17 [78, 31, 59] [31, 33] [.nilp, liE [], h0.E] [liE [h0], .int 0]
  c3 : FnOk Tryd.prog tb 23 [78, 59] [24] [.nilp, h0.E] [dgE d]
  c4 : FnOk Tryd.prog tb 18 [78, 28, 24] [59] [.nilp, (upx x y).E, dgE d] [h1.E]
  c5 : FnOk Tryd.prog tb 17 [78, 31, 59] [31, 33] [.nilp, liE [h0], h1.E] [liE [h0, h1], .int 0]
  c6 : FnOk Tryd.prog tb 9 [78, 28, 3] [36, 33] [.nilp, (upx x y).E, .int j] [P.E, .int 0]
  c7 : FnOk Tryd.prog tb 25 [78, 31] [4] [.nilp, liE [h0, h1]] [.bool true]
  c8 : FnOk Tryd.prog tb 14 [78, 31, 22, 36] [33] [.nilp, liE [h0, h1], .int (y.h + 1 : Nat), P.E] [.int 0]
  pc : P.c = x.cs.getD j []
  pe : P.e = x.rs.getD j 0
theorem pack {x y : Bk} (hx : x.ok) (hy : y.ok) (sx : Small x) (sy : Small y) (hlen : x.cs.length = x.rs.length) (hn : y.h + 1 < 18446744073709551616) (j : Nat) (hj : j < x.cs.length) :
    ∃ h0 h1 P d, Pack x y j h0 h1 P d := by
  have sx' : Small (upx x y) := sx
  have hx' : (upx x y).ok := ⟨hn, hx.p, hx.b, hx.s⟩
  have hz : z0.length = 32 := by simp [z0]
  have o0 := ofHB_ok hy sy hz
  have hdl : (hashB (ofHB y z0)).length = 32 := ofB_length _ _
  have o1 := ofHB_ok hx' sx' hdl
  have hh : (ofHB (upx x y) (hashB (ofHB y z0))).h = (ofHB y z0).h + 1 := by rw [ofHB_h, ofHB_h, upx_h]
  have hp := ofHB_p (upx x y) (hashB (ofHB y z0))
  have hj2 : j < (upx x y).rs.length := by show j < x.rs.length; omega
  have hs0 := prv_shows sx' (k := j) hj hj2 (hashB (ofHB y z0))
  have c6 := prove_ok sx' j hj hj2
  have hpo := prv_ok sx' (k := j) hj
  exact ⟨_, _, _, _, of_ok sy z0, ext_nil o0, hash_ok o0, of_ok sx' _, ext_one o0 o1 hh hp, c6, right_two o0 o1 hh hp, shows_two hpo (y.h + 1) (by rw [ofHB_h]; omega) (by rw [ofHB_h, upx_h]) hs0, prvB_c _ _, prvB_e _ _⟩
end Go.Den.Q33
/- Law 33: LightShows, walked. -/
namespace Go.Den.Q33
open Go Go.Den Go.Proofs Go.Den.Q33.Dg
set_option maxRecDepth 8000
set_option linter.unusedVariables false
set_option linter.unusedSimpArgs false
open Go.Den.Q33.Sh (dgE)
open Go.Den.Q33.Me (Dig dsE All32 z0 rootB eqDg brL provesB)

set_option maxHeartbeats 3200000 in
theorem law_shows (x0 x1 x2 : E) : FnOk Tryd.prog tb 6 [28, 28, 3] [4] [x0, x1, x2] [.bool true] := by
  refine FnOk_of_V (fn := Tryd.f6) (bt := 4) (ok 0 _) Tryd.func6 rfl rfl rfl (by decide) fun hw => ?_
  obtain ⟨⟨x, hxo⟩, rfl⟩ := wt_bk (hw 0 _ x0 rfl rfl)
  obtain ⟨⟨y, hyo⟩, rfl⟩ := wt_bk (hw 1 _ x1 rfl rfl)
  obtain ⟨k, rfl, _⟩ := wt_int (hw 2 _ x2 rfl rfl) (k := .i64) rfl
  clear hw
  simp only
  have c1 := awake_ok.g
  have c2 := (few_ok x).g
  have c3 := (few_ok y).g
  have hfx := few_small (x := x)
  have hfy := few_small (x := y)
  have hpk := @pack x y hxo hyo
  generalize fewB x = fx at c2 hfx
  generalize fewB y = fy at c3 hfy
  have hyh := hyo.h
  clear hxo hyo
  obtain ⟨xh, xp, xb, cs, rs, xs⟩ := x
  obtain ⟨yh, yp, yb, ycs, yrs, ys⟩ := y
  simp only at hpk hyh hfx hfy
  have hcm : (cs.map E.str).length = cs.length := by simp
  have hrm : (rs.map E.int).length = rs.length := by simp
  apply V_of_VX
  refine VX_go4 (fs := []) (ok 0 _) eqs trivial 100 [] rfl trivial ?_
  refine VX_callD (ok 0 _) [] [] rfl rfl rfl rfl rfl rfl c1 rfl rfl rfl ?_
  refine VX_go4 (fs := []) (ok 0 _) eqs trivial 100 [] rfl trivial ?_
  refine VX_known 15 false rfl rfl rfl ?_
  refine VX_go4 (fs := []) (ok 0 _) eqs trivial 100 [] rfl trivial ?_
  refine VX_callD (ok 0 _) [28] [] rfl rfl rfl rfl rfl rfl c2 rfl rfl rfl ?_
  refine VX_go4 (fs := []) (ok 0 _) eqs trivial 100 [] rfl trivial ?_
  cases fx with
  | false =>
    refine VX_known 19 true rfl rfl rfl ?_
    refine VX_go4 (fs := []) (ok 0 _) eqs trivial 100 [] rfl trivial ?_
    exact ⟨.inr rfl, rfl⟩
  | true =>
  refine VX_known 19 false rfl rfl rfl ?_
  refine VX_go4 (fs := []) (ok 0 _) eqs trivial 100 [] rfl trivial ?_
  refine VX_callD (ok 0 _) [28] [] rfl rfl rfl rfl rfl rfl c3 rfl rfl rfl ?_
  refine VX_go4 (fs := []) (ok 0 _) eqs trivial 100 [] rfl trivial ?_
  cases fy with
  | false =>
    refine VX_known 24 true rfl rfl rfl ?_
    refine VX_go4 (fs := []) (ok 0 _) eqs trivial 100 [] rfl trivial ?_
    exact ⟨.inr rfl, rfl⟩
  | true =>
  refine VX_known 24 false rfl rfl rfl ?_
  refine VX_go4 (fs := []) (ok 0 _) eqs trivial 100 [] rfl trivial ?_
  obtain ⟨sx, hc12, hr12⟩ := hfx rfl
  obtain ⟨sy, _, _⟩ := hfy rfl
  refine VX_split 33 rfl rfl (fun _ => ?_) (fun h1 => ?_)
  · refine VX_go4 (fs := []) (ok 0 _) eqs trivial 100 [] rfl trivial ?_
    exact ⟨.inr rfl, rfl⟩
  have h1 : cs.length = rs.length := by simp only [hcm, hrm] at h1; simp at h1; omega
  refine VX_go4 (fs := []) (ok 0 _) eqs trivial 100 [] rfl trivial ?_
  refine VX_split 39 rfl rfl (fun _ => ?_) (fun h2 => ?_)
  · refine VX_go4 (fs := []) (ok 0 _) eqs trivial 100 [] rfl trivial ?_
    exact ⟨.inr rfl, rfl⟩
  have h2 : 0 < cs.length := by simp only [hcm, decide_eq_false_iff_not] at h2; omega
  refine VX_go4 (fs := []) (ok 0 _) eqs trivial 100 [] rfl trivial ?_
  refine VX_split 43 rfl rfl (fun _ => ?_) (fun h3 => ?_)
  · refine VX_go4 (fs := []) (ok 0 _) eqs trivial 100 [] rfl trivial ?_
    exact ⟨.inr rfl, rfl⟩
  have h3 : yh + 1 < 18446744073709551616 := by simp only [decide_eq_false_iff_not] at h3; omega
  refine VX_go4 (fs := []) (ok 0 _) eqs trivial 100 [50] rfl trivial ?_
  obtain ⟨m, hm⟩ : ∃ m : Nat, IntKind.wrap .u64 k = (m : Int) := ⟨(IntKind.wrap .u64 k).toNat, by have := wrap_inR .u64 k; simp only [inR, Bool.and_eq_true, decide_eq_true_eq] at this; omega⟩
  have hn : IntKind.wrap .u64 (((cs.map E.str).length : Nat) : Int) = (cs.length : Int) := by rw [hcm]; exact u64n _ (by omega)
  refine VX_eq 45 rfl rfl (d' := .t 75 (.e (.int m))) (congrArg (fun x => D.t 75 (.e (.int x))) hm) ?_
  refine VX_eq 49 rfl rfl (d' := .t 75 (.e (.int cs.length))) (congrArg (fun x => D.t 75 (.e (.int x))) hn) ?_
  obtain ⟨j, hj⟩ : ∃ j : Nat, j = m % cs.length := ⟨_, rfl⟩
  have hjl : j < cs.length := by rw [hj]; exact Nat.mod_lt _ h2
  have e50 : ((m : Int).tmod (cs.length : Int)) = (j : Int) := by rw [hj]; rfl
  have e51 : IntKind.wrap .i64 (j : Int) = (j : Int) := w64 (by omega) (by omega)
  have e57 : IntKind.wrap .u64 ((yh : Int) + 1) = ((yh + 1 : Nat) : Int) := by rw [inR_wrap (by simp [inR]; omega)]; omega
  have g1 := str_get hjl
  have g2 := int_get (rs := rs) (i := j) (by omega)
  obtain ⟨h0, h1', P, d, pk⟩ := hpk sx sy h1 h3 j hjl
  obtain ⟨k1, k2, k3, k4, k5, k6, k7, k8, pc, pe⟩ := pk
  simp only at pc pe
  rw [← pc] at g1
  rw [← pe] at g2
  have k1 := k1.g
  have k2 := k2.g
  have k3 := k3.g
  have k4 := k4.g
  have k5 := k5.g
  have k6 := k6.g
  have k7 := k7.g
  have k8 := k8.g
  clear hpk pc pe hfx hfy sx sy c1 c2 c3
  obtain ⟨a1, a2, a3, a4, a5, a6, a7⟩ := h0
  obtain ⟨b1, b2, b3, b4, b5, b6, b7⟩ := h1'
  obtain ⟨pa, pc, pe, pcs, prs⟩ := P
  simp only [upx] at k4 k6 g1 g2 k8
  refine VX_go4 (fs := []) (ok 0 _) eqs trivial 100 [51] rfl (by simp [allP, arithP]; intro h; simp [h] at h2) ?_
  refine VX_eq 50 rfl rfl (d' := .t 75 (.e (.int j))) (congrArg (fun x => D.t 75 (.e (.int x))) e50) ?_
  refine VX_go4 (fs := []) (ok 0 _) eqs trivial 100 [7] rfl trivial ?_
  refine VX_eq 51 rfl rfl (d' := .t 3 (.e (.int j))) (congrArg (fun x => D.t 3 (.e (.int x))) e51) ?_
  refine VX_go4 (fs := []) (ok 0 _) eqs trivial 100 [] rfl trivial ?_
  refine VX_callD (ok 0 _) [78, 28, 24] [] rfl rfl rfl rfl rfl rfl k1 rfl rfl rfl ?_
  refine VX_go4 (fs := []) (ok 0 _) eqs trivial 100 [58] rfl trivial ?_
  refine VX_eq 57 rfl rfl (d' := .t 22 (.e (.int (yh + 1 : Nat)))) (congrArg (fun x => D.t 22 (.e (.int x))) e57) ?_
  refine VX_go4 (fs := []) (ok 0 _) eqs trivial 100 [] rfl trivial ?_
  refine VX_callD (ok 0 _) [78, 31, 59] [] rfl rfl rfl rfl rfl rfl k2 rfl rfl rfl ?_
  refine VX_go4 (fs := []) (ok 0 _) eqs trivial 100 [] rfl trivial ?_
  refine VX_draw [] [(0, true), (1, true), (2, true), (3, false), (4, false), (5, false), (6, true), (7, true), (8, true), (9, false), (10, true)] mixed (by kernel_rfl) (by kernel_rfl) (by kernel_rfl) ?_
  refine VX_go4 (fs := []) (ok 0 _) eqs trivial 100 [] rfl trivial ?_
  refine VX_callO (ok 0 _) [78, 59] [] rfl rfl rfl rfl rfl rfl rfl rfl k3 rfl rfl rfl ?_
  refine VX_callO (ok 0 _) [78, 28, 24] [] rfl rfl rfl rfl rfl rfl rfl rfl k4 rfl rfl rfl ?_
  refine VX_callO (ok 0 _) [78, 31, 59] [] rfl rfl rfl rfl rfl rfl rfl rfl k5 rfl rfl rfl ?_
  refine VX_go4 (fs := []) (ok 0 _) eqs trivial 100 [73] rfl trivial ?_
  refine VX_extractTs [3] rfl rfl rfl rfl rfl rfl (by kernel_rfl) ?_
  refine VX_storeO (ok 0 _) rfl rfl rfl rfl rfl rfl (by simp) ?_
  refine VX_go4 (fs := []) (ok 0 _) eqs trivial 100 [] rfl trivial ?_
  refine VX_callD (ok 0 _) [78, 28, 3] [] rfl rfl rfl rfl rfl rfl k6 rfl rfl rfl ?_
  refine VX_go4 (fs := []) (ok 0 _) eqs trivial 100 [] rfl trivial ?_
  refine VX_draw [] [(0, true), (1, true), (2, true), (3, true), (4, true), (5, true), (6, true), (7, true), (8, true), (9, true), (10, true), (11, true), (12, false), (13, true), (14, true), (15, true), (16, true), (17, true), (18, true), (19, false), (20, true), (21, true), (22, true), (23, true), (24, true), (25, true), (26, true), (27, true), (28, true), (29, true), (30, true), (31, true), (32, true), (33, true), (34, true), (35, true), (36, true), (37, true), (38, true), (39, true), (40, true), (41, true), (42, true)] mixed (by kernel_rfl) (by kernel_rfl) (by kernel_rfl) ?_
  refine VX_go4 (fs := []) (ok 0 _) eqs trivial 100 [] rfl trivial ?_
  refine VX_known 82 true rfl rfl rfl ?_
  refine VX_go4 (fs := []) (ok 0 _) eqs trivial 100 [] rfl trivial ?_
  refine VX_known 86 true rfl rfl rfl ?_
  refine VX_go4 (fs := []) (ok 0 _) eqs trivial 100 [] rfl trivial ?_
  refine VX_known 90 true rfl rfl rfl ?_
  refine VX_go4 (fs := []) (ok 0 _) eqs trivial 100 [] rfl trivial ?_
  refine VX_callO (ok 0 _) [78, 31] [] rfl rfl rfl rfl rfl rfl rfl rfl k7 rfl rfl rfl ?_
  refine VX_go4 (fs := []) (ok 0 _) eqs trivial 100 [] rfl trivial ?_
  refine VX_known 94 true rfl rfl rfl ?_
  refine VX_go4 (fs := []) (ok 0 _) eqs trivial 100 [] rfl trivial ?_
  refine VX_callO (ok 0 _) [78, 31, 22, 36] [] rfl rfl rfl rfl rfl rfl rfl rfl k8 rfl rfl rfl ?_
  refine VX_go4 (fs := []) (ok 0 _) eqs trivial 100 [] rfl trivial ?_
  refine VX_known 102 true rfl rfl rfl ?_
  refine VX_go4 (fs := []) (ok 0 _) eqs trivial 100 [110] rfl (by simp [allP]; omega) ?_
  refine VX_eq 109 rfl rfl (d' := .t 9 (.e (.str pc))) (congrArg (fun x => D.t 9 (.e x)) g1) ?_
  refine VX_go4 (fs := []) (ok 0 _) eqs trivial 100 [] rfl trivial ?_
  refine VX_known 112 true rfl rfl (by simp) ?_
  refine VX_go4 (fs := []) (ok 0 _) eqs trivial 100 [120] rfl (by simp [allP]; omega) ?_
  refine VX_eq 119 rfl rfl (d' := .t 33 (.e (.int pe))) (congrArg (fun x => D.t 33 (.e x)) g2) ?_
  refine VX_go4 (fs := []) (ok 0 _) eqs trivial 100 [6] rfl trivial ?_
  refine VX_known 121 true rfl rfl (by simp) ?_
  refine VX_go4 (fs := []) (ok 0 _) eqs trivial 100 [] rfl trivial ?_
  exact ⟨.inr rfl, rfl⟩
end Go.Den.Q33
/-
  What the laid variables give the walks; the world that the door leaves meets the condition.
-/
namespace Go.Proofs.YtlhmimpbpphchaaDoor
open Go.ChangeShapes Go.WideShapes Go.ChangeAt Go.RowKit
set_option linter.unusedVariables false
def laid2 : List (String × DataW Unit) := Rows.lightProofsRow.laid
theorem own : ownKnob Tryd.prog.godebug = none := by kernel_rfl
theorem laidOut : laidOutB Tryd.prog = true := by kernel_rfl
theorem gFirst : Tryd.prog.globalNamed "pontoon/sha.first" = some 0 := by kernel_rfl
theorem gConsts : Tryd.prog.globalNamed "pontoon/sha.constants" = some 1 := by kernel_rfl
theorem tFirst : (Tryd.prog.globals[0]?).map (·.type) = some 123 := by kernel_rfl
theorem tConsts : (Tryd.prog.globals[1]?).map (·.type) = some 151 := by kernel_rfl
theorem door_met (os : Os) (args : Array Value) : laidMetH Tryd.prog laid2 ((World.doorLaid Tryd.prog 400 os).forCall (fun _ _ => 0) ⟨#[], args, []⟩).memory :=
  laidMetH_of_parts3 (fuel := 8) (laidMet_of_run' 8 (by kernel_rfl) (by kernel_rfl)) (by kernel_rfl) (by kernel_rfl)
theorem of_laid {W : World} (h : laidMetH Tryd.prog laid2 W) : Go.Den.GlRel Go.Den.Q33.tb (Go.Den.Hw W) := by
  rw [MakeChecks.laidMetH_plain _ _ _ (by kernel_rfl)] at h
  obtain ⟨ps, ⟨g0, t0, cs0, f0, p0, q0, hg0, ht0, hv0, hd0, ⟨g1, t1, cs1, f1, p1, q1, hg1, ht1, hv1, hd1, _, _⟩, _⟩, _, _⟩ := h
  obtain rfl := Option.some.inj (gFirst.symm.trans hg0)
  obtain rfl := Option.some.inj (gConsts.symm.trans hg1)
  obtain rfl := Option.some.inj (tFirst.symm.trans ht0)
  obtain rfl := Option.some.inj (tConsts.symm.trans ht1)
  intro g ty x hm
  simp only [Go.Den.Q33.tb, List.mem_cons, List.not_mem_nil, or_false] at hm
  rcases hm with hm | hm
  · cases hm
    exact Go.Den.gl_ints (ns := Go.Den.Q33.kL) Go.Den.Q33.tabOk hg1 hv1 rfl rfl hd1
  · cases hm
    exact Go.Den.gl_ints (ns := Go.Den.Q33.fL) Go.Den.Q33.tabOk hg0 hv0 rfl rfl hd0
end Go.Proofs.YtlhmimpbpphchaaDoor
/- An append to an empty list that is written to afterwards. -/
namespace Go.Den
open Go
set_option linter.unusedSectionVars false
set_option linter.unusedSimpArgs false
set_option linter.unusedVariables false
section
variable {C : Cx} {o : Oper} {env : Env} {σ : List Blk}
theorem OpV_appendNewM (hC : Ok C) {x y : Operand} {t t2 u tx : TypeId} {ys : List E} (ho : o.op = .call { callee := .builtin .append, args := #[x, y], argTypes := #[t, t2] }) (ht : td C.tb t = .sl u) (hz : plain C.tb zf u = true) (hs0 : Nat.beq (sz C.tb u) 0 = false)
    (hx : opd C.tb env t x = some (.t tx (.bsl []))) (hys : SrcAt C env σ t t2 y ys) (hne : 0 < ys.length) (hp : ys.length * nb C.tb u ≤ maxL ∧ ys.length ≤ maxL) :
    OpV C o env σ (fun d s => d = .t t (.msl σ.length ys.length) ∧ s = σ ++ [.mrow u true ys]) := by
  intro H β a w hr he hd K Qx hK
  have hs0' : sz C.tb u ≠ 0 := Nat.ne_of_beq_eq_false hs0
  have hvx := opd_rel he hx
  obtain ⟨h2, hlx, news, hnr, hnew⟩ := hys H β a w u ht hr he
  have hv0 : ∃ b off, a.eval x = .slice (some ⟨b, off, none⟩) 0 0 := by
    generalize a.eval x = vx at hvx ⊢
    cases hvx with
    | @t ty v cs z aa bb => cases bb with
      | @bsl t0 u0 b off xs b1 b2 =>
        have a' := aa
        simp [VC, isAggT, b1] at a'
        exact ⟨b, off, a'.symm⟩
  obtain ⟨b0, off0, hv0⟩ := hv0
  have hnews : ∀ w', (∀ b o v, w.cell? ⟨b, o, none⟩ = some v → w'.cell? ⟨b, o, none⟩ = some v) → (Builtin.firstCells (sz C.tb u) ys.length (a.eval y)).run C.P w' = .ok news.toArray w' := fun w' h => by
    have := hnew ys.length (Nat.le_refl _) w' h
    rwa [← hnr.len, List.take_length] at this
  have hrun := run_append_any hC (ty := o.type) ht hz (ba := some ⟨b0, off0, none⟩) (n := 0) (cap := 0) (m := ys.length) (x := a.eval y) (olds := []) (news := news) (w := w) h2 hlx (fun _ _ => trivial) hnews (by simp)
    (fun b off ha j v hj => by simp at hj) (fun ha => by cases ha) (fun aa haa => by cases haa; rfl) hnr.len (hnr.one hC.tab) (fun hr => by omega) (by simpa using hp.1) (by simpa using hp.2)
  rcases hrun with ⟨h, _⟩ | ⟨_, nc, zs, h1, hzl, hrun⟩
  · omega
  simp only [Nat.zero_add, List.nil_append] at h1 hzl hrun
  let ob : Obj := .cells (news ++ zs).toArray u
  have hlen : (news ++ zs).length = nc * sz C.tb u := by
    rw [List.length_append, hnr.len, hzl, ← Nat.add_mul]; congr 1; omega
  let f : Nat → Own := fun o => if o < (news ++ zs).length then .mine σ.length else .none
  obtain ⟨hr2, hev⟩ := hr.drew.alloc ob f [.slice (some ⟨w.heap.size, 0, none⟩) ys.length nc] [.mrow u true ys] rfl (fun o v hv => by
      have hv' : (if o < (news ++ zs).length then Own.mine σ.length else .none) = .pers v := hv
      split at hv' <;> cases hv') (fun i k bv hk hv => by
    have hi : i = 0 := by have := (List.getElem?_eq_some_iff.1 hk).1; simp at this; omega
    subst hi
    simp at hk hv; subst hk; subst hv
    refine .inr ⟨w.heap.size, nc, news, zs, rfl, ⟨h1, by omega⟩, maxL_N hp.2, ?_, hlen, fun _ => ?_, fun j v hj => ?_⟩
    · refine ⟨hnr.len, fun i x hx => (hnr.el i x hx).mono fun b o v hb => ?_⟩
      have := hr.dom b o (by rw [hb]; simp)
      show hAlloc H w.heap.size f b o = _
      rw [hAlloc_old (by omega)]; exact hb
    · show (w.drew.alloc ob).shape? w.drew.heap.size = _
      rw [shape?_alloc_new]; simp only [List.size_toArray, hlen]
    · have hjl : j < (news ++ zs).length := (List.getElem?_eq_some_iff.1 hj).1
      refine ⟨?_, ?_, ?_⟩
      · have := World.cell?_alloc_new w.drew (news ++ zs).toArray u j
        show (w.drew.alloc ob).cell? ⟨w.drew.heap.size, j, none⟩ = _
        rw [this]; simpa using hj
      · show hAlloc H w.heap.size f w.heap.size j = _
        rw [hAlloc_new]; show (if j < (news ++ zs).length then Own.mine σ.length else .none) = _
        rw [if_pos hjl]; simp
      · exact World.frozen?_alloc_new w.drew _ _ _)
  have hstp : Stp H w _ (w.drew.alloc ob) := (Stp.drew H w).trans (Stp.alloc (w := w.drew) hr.dom ob f)
  have hex : (execOp a.eval o).run C.P w = .ok (.value (.slice (some ⟨w.heap.size, 0, none⟩) ys.length nc)) (w.drew.alloc ob) := by
    rw [opdArgs2 ho, hv0]
    simp [builtin, hrun, ob]
  simp only [Oper.wp, hex, Oper.upon]
  refine hK _ _ _ _ _ _ ⟨rfl, rfl⟩ hr2 ?_ hstp hev
  refine .t (cs := [.slice (some ⟨w.heap.size, 0, none⟩) ys.length nc]) (by simp [VC, isAggT, ht]) (.msl ht ⟨_, _, rfl, maxL_N hp.2⟩ ⟨true, ys, by simp, Nat.le_refl _, fun _ => by simp [← hr.len]⟩)
end
end Go.Den
/- Lists whose elements are the function's own slices: made, told of, read. -/
namespace Go.Den
open Go
set_option linter.unusedSectionVars false
set_option linter.unusedSimpArgs false
set_option linter.unusedVariables false

def argT (tb : Tab) (env : Env) (t : TypeId) (x : Operand) : Option T := match opd tb env t x with
  | some d => asT tb t d
  | none => none
/-- The elements of a literal, all of them there and in order, own ones too. -/
def denseT (tb : Tab) (env : Env) (u : TypeId) : Nat → List (Nat × Operand) → Option (List T)
  | _, [] => some []
  | k, (i, x) :: ps => match Nat.beq i k with
    | true => match argT tb env u x with
      | some y => match denseT tb env u (k + 1) ps with
        | some ys => some (y :: ys)
        | none => none
      | none => none
    | false => none

structure RowT (tb : Tab) (H : Gh) (β : List Value) (σ : List Blk) (u : TypeId) (cs : List Value) (xs : List T) : Prop where
  len : cs.length = xs.length * sz tb u
  el : ∀ (i : Nat) (x : T), xs[i]? = some x → TRel tb H β σ u (seg cs (i * sz tb u) (sz tb u)) x

section
variable {C : Cx} (hC : Ok C) {o : Oper} {env : Env} {σ : List Blk}
include hC
theorem argT_rel {H β n a} (he : EnvRel C.tb H β σ n a env) {t x y} (h : argT C.tb env t x = some y) : ∃ cs, VC C.tb t (a.eval x) cs ∧ TRel C.tb H β σ t cs y := by
  unfold argT at h
  split at h
  · rename_i d hd; exact asT_rel hC (opd_rel he hd) h
  · cases h

theorem fill_denseT {H β a n} (he : EnvRel C.tb H β σ n a env) {u : TypeId} : ∀ (ps : List (Nat × Operand)) (ys : List T) (k : Nat) (done rest : List Value), denseT C.tb env u k ps = some ys → done.length = k * sz C.tb u → rest.length = ys.length * sz C.tb u →
    ∃ cs, Instr.fill (fun i => some (i * sz C.tb u, sz C.tb u)) (done ++ rest).toArray (ps.map fun p => (p.1, a.eval p.2)) = some (done ++ cs).toArray ∧ RowT C.tb H β σ u cs ys
  | [], ys, k, done, rest, h, h1, h2 => by
    simp [denseT] at h; subst h
    have : rest = [] := List.length_eq_zero_iff.1 (by simpa using h2)
    subst this
    exact ⟨[], rfl, ⟨by simp, fun i x hx => by simp at hx⟩⟩
  | (i, x) :: ps, ys, k, done, rest, h, h1, h2 => by
    unfold denseT at h
    split at h
    · rename_i hik
      have hik := Nat.eq_of_beq_eq_true hik
      subst hik
      split at h
      · rename_i y hy
        split at h
        · rename_i zs hzs
          cases h
          obtain ⟨vs, hvc, hrd⟩ := argT_rel hC he hy
          have hvl := hrd.len hC.tab
          have hrl : rest.length = (zs.length + 1) * sz C.tb u := by simpa using h2
          rw [Nat.add_mul, Nat.one_mul] at hrl
          have hf := fill_one (place := fun i => some (i * sz C.tb u, sz C.tb u)) (cs := done ++ rest) (v := a.eval x) (rest := ps.map fun p => (p.1, a.eval p.2)) (i := i) rfl (hvc.cells hrd hC.tab) hvl (by simp; omega)
          have hsp : splice (done ++ rest) (i * sz C.tb u) vs = (done ++ vs) ++ rest.drop vs.length := by
            unfold splice
            rw [← h1, List.take_left, ← List.drop_drop, List.drop_left]
          obtain ⟨cs, k1, k2⟩ := fill_denseT he ps zs (i + 1) (done ++ vs) (rest.drop vs.length) hzs (by simp [h1, hvl, Nat.add_mul]) (by simp; omega)
          refine ⟨vs ++ cs, ?_, ?_, ?_⟩
          · rw [List.map_cons, hf, hsp, k1]; simp
          · simp [hvl, k2.len, Nat.add_mul]; omega
          · intro j z hz
            cases j with
            | zero =>
              simp at hz; subst hz
              have : seg (vs ++ cs) (0 * sz C.tb u) (sz C.tb u) = vs := by simp [seg, ← hvl]
              rw [this]; exact hrd
            | succ j =>
              have := k2.el j z (by simpa using hz)
              have e : seg (vs ++ cs) ((j + 1) * sz C.tb u) (sz C.tb u) = seg cs (j * sz C.tb u) (sz C.tb u) := by
                unfold seg
                rw [Nat.add_mul, Nat.one_mul, Nat.add_comm, ← hvl, ← List.drop_drop, List.drop_left]
              rw [e]; exact this
        · cases h
      · cases h
    · cases h

theorem OpV_buildTsl {t u : TypeId} {len : Nat} {ps : Array (Nat × Operand)} {ys : List T} (ho : o.op = .buildSlice t len ps) (ht : td C.tb t = .sl u) (hz : plain C.tb zf u = true)
    (hys : denseT C.tb env u 0 ps.toList = some ys) (hl : ys.length = len) (hb : len * sz C.tb u ≤ 16777216) (hlm : len ≤ maxN) : OpV C o env σ (fun d s => d = .t t (.tsl ys) ∧ s = σ) := by
  intro H β a w hr he hd K Qx hK
  have hu := plain_ne hz
  have hlt := hC.tab.lt_of_td hu
  obtain ⟨z, hzr, hzc⟩ := hC.zero.get hC.tab hz w
  have hmap : (ps.map fun (i, x) => (i, a.eval x)).toList = ps.toList.map fun p => (p.1, a.eval p.2) := by simp
  have key : ∀ Z : Array Value, Z.size = len * sz C.tb u → ∃ cs, Instr.fill (fun i => some (i * sz C.tb u, sz C.tb u)) Z (ps.map fun (i, x) => (i, a.eval x)).toList = some cs.toArray ∧ RowT C.tb H β σ u cs ys := fun Z hZ => by
    obtain ⟨cs, k1, k2⟩ := fill_denseT hC he ps.toList ys 0 [] Z.toList hys (by simp) (by rw [hl]; simpa using hZ)
    exact ⟨cs, by rw [hmap]; simpa using k1, k2⟩
  have hnb : ¬ (len * sz C.tb u > 2 ^ 24) := by omega
  have hrun : ∃ cs, RowT C.tb H β σ u cs ys ∧ (execOp a.eval o).run C.P w = .ok (.value (.slice (some ⟨w.heap.size, 0, none⟩) len len)) (w.alloc (.cells cs.toArray u)) := by
    simp only [execOp, ho, Instr.buildSlice, Sem.run_bind, run_underlying_of hC.tab (hC.tab.sl ht), Result.andThen, run_sizeOf_of hC.tab hlt, if_neg hnb, Sem.run_pure]
    by_cases h0 : len * sz C.tb u = 0
    · obtain ⟨cs, k1, k2⟩ := key #[] (by simp [h0])
      refine ⟨cs, k2, ?_⟩
      have h00 : Array.range 0 = #[] := rfl
      simp only [h0, if_true, Sem.run_pure, h00, Array.map_empty, k1]
      simp [newRow]
    · obtain ⟨cs, k1, k2⟩ := key ((Array.range (len * sz C.tb u)).map fun j => z.cells[j % z.cells.size]!) (by simp)
      refine ⟨cs, k2, ?_⟩
      simp only [if_neg h0, Sem.run_bind, hzr, Result.andThen, Sem.run_pure, k1]
      simp [newRow]
  obtain ⟨cs, k2, hrun⟩ := hrun
  let f : Nat → Own := fun o => if o < cs.length then .pers (cs.getD o undef) else .none
  have r := hr.alloc (.cells cs.toArray u) f [] [] rfl (fun o v hv => by
      have hv' : (if o < cs.length then Own.pers (cs.getD o undef) else .none) = .pers v := hv
      split at hv'
      · rename_i h; cases hv'
        rw [World.cell?_alloc_new]; simp only [List.getElem?_toArray, List.getD, List.getElem?_eq_getElem h, Option.getD_some]
      · cases hv') (fun i k bv hk => by simp at hk)
  simp only [List.append_nil] at r
  simp only [Oper.wp, hrun, Oper.upon]
  refine hK _ _ _ _ β σ ⟨rfl, rfl⟩ r.1 ?_ (Stp.alloc hr.dom _ _) r.2
  have hnag : isAggT C.tb t = false := by simp [isAggT, ht]
  refine .t (cs := [.slice (some ⟨w.heap.size, 0, none⟩) len len]) (by simp [VC, hnag]) ?_
  rw [← hl]
  refine .tsl (cs := cs) ht k2.len (fun j v hj => ?_) (fun i x hx => (k2.el i x hx).mono r.2) (by rw [hl]; exact hlm)
  have hjl := (List.getElem?_eq_some_iff.1 hj).1
  rw [Nat.zero_add, hAlloc_new]
  show (if j < cs.length then Own.pers (cs.getD j undef) else .none) = _
  rw [if_pos hjl]; simp [List.getD, hj]

theorem OpV_indexTsl {t s : Nat} {ty u : TypeId} {xs : List T} {ix : Operand} {iv : Int} (ho : o.op = .indexAddr t (.tmp s) ix) (hs : getD env s = .t ty (.tsl xs))
    (ht : td C.tb t = .sl u) (hsame : same C.tb ty t = true) (hz : sz C.tb u ≠ 0) (hx : opdN env ix = some iv) (h0 : 0 ≤ iv) (h1 : iv < xs.length) : OpV C o env σ (fun d s => d = .tel u xs iv.toNat ∧ s = σ) :=
  OpOk.v (r := ⟨True, .tel u xs iv.toNat, σ⟩) (OpOk_val fun H β a w hr he => by
    have hv := he.get s
    rw [hs] at hv
    obtain ⟨k, hk⟩ := opdN_rel he hx
    generalize hvx : a.tmps.getD s undef = vx at hv
    cases hv with
    | @t ty v cs z aa bb => cases bb with
      | @tsl t0 u0 b off cs' xs' b1 b2 b3 b4 b5 =>
        have a' := aa
        simp [VC, isAggT, b1] at a'
        subst a'
        rw [same_td hsame, ht] at b1; cases b1
        have hve : a.eval (.tmp s) = .slice (some ⟨b, off, none⟩) xs.length xs.length := hvx
        refine ⟨.pointer (some ⟨b, off + iv.toNat * sz C.tb u, none⟩), fun w' hw' => ?_, .tel b2 b3 b4 (by omega)⟩
        simp [execOp, ho, hve, hk, Instr.indexAt, asIntOf, run_underlying_of hC.tab (hC.tab.sl ht), h0, h1, run_sizeOf_of hC.tab (lt_of_sz hC hz), add_plain])

theorem OpV_loadTel {t : TypeId} {s j : Nat} {u : TypeId} {xs : List T} {x : T} (ho : o.op = .load t (.tmp s)) (hs : getD env s = .tel u xs j) (hx : xs[j]? = some x) (ht : same C.tb u t = true) : OpV C o env σ (fun d s => d = ldD t x ∧ s = σ) :=
  OpOk.v (r := ⟨True, ldD t x, σ⟩) (OpOk_val fun H β a w hr he => by
    have hv := he.get s
    rw [hs] at hv
    generalize hvx : a.tmps.getD s undef = vx at hv
    cases hv with
    | @tel u b off cs xs j h1 h2 h3 h4 =>
      have ht' := same_td ht
      have hpart := (h3 j x hx).cast hC.tab ht'
      have hin : j * sz C.tb u + sz C.tb u ≤ cs.length := by
        rw [h1]; have := Nat.mul_le_mul_right (sz C.tb u) (show j + 1 ≤ xs.length from h4); rwa [Nat.add_mul, Nat.one_mul] at this
      obtain ⟨v, hrun, hvc⟩ := run_loadVar_all hC.tab (P := C.P) (b := b) (o := off + j * sz C.tb u) (hpart.len hC.tab) hpart.td_ne
      refine ⟨v, fun w' hw' => ?_, ldD_rel hvc hpart⟩
      have hrun := hrun w' (fun i v hi => by
        have hil : i < sz C.tb u := by
          rcases Nat.lt_or_ge i (sz C.tb u) with h | h
          · exact h
          · rw [List.getElem?_eq_none (by simp [seg]; omega)] at hi; cases hi
        rw [seg_get hil] at hi
        have := hw' _ _ _ (hr.pers _ _ _ (h2 _ v hi)) (.inl ⟨_, h2 _ v hi⟩)
        rwa [← Nat.add_assoc] at this)
      simp [execOp, ho, Act.eval, hvx, Instr.loadAt, Instr.sureAddr, hrun])
end

/-- A new empty row, with an address. -/
theorem Rel.addM' {tb H β σ w} (h : Rel tb H β σ w) (u : TypeId) (a : Option (Nat × Nat)) (hu : td tb u ≠ .int .u8) : Rel tb H (β ++ [.slice (a.map fun p => ⟨p.1, p.2, none⟩) 0 0]) (σ ++ [.mrow u true []]) w ∧ Ev H β σ H (β ++ [.slice (a.map fun p => ⟨p.1, p.2, none⟩) 0 0]) (σ ++ [.mrow u true []]) := by
  have hl := h.len
  have hev : Ev H β σ H (β ++ [.slice (a.map fun p => ⟨p.1, p.2, none⟩) 0 0]) (σ ++ [.mrow u true []]) := Ev.app hl fun _ _ _ e => e
  refine ⟨⟨h.pers, h.dom, by simp [hl], fun i k bv hk hv => ?_⟩, hev⟩
  rcases Nat.lt_or_ge i σ.length with hi | hi
  · rw [List.getElem?_append_left hi] at hk
    rw [List.getElem?_append_left (by omega)] at hv
    exact (h.blk i k bv hk hv).mono hev (fun b o e => ⟨e, rfl, fun _ _ => rfl, rfl⟩) (fun b x _ _ e => e)
  · have : i = σ.length := by have := (List.getElem?_eq_some_iff.1 hk).1; simp at this; omega
    subst this
    rw [List.getElem?_append_right (Nat.le_refl _)] at hk
    rw [List.getElem?_append_right (by omega)] at hv
    simp [hl] at hk hv
    subst hk; subst hv
    exact .inl ⟨a, rfl, rfl, fun e => absurd e hu⟩

section
variable {C : Cx} {env : Env} {σ : List Blk} {Q : Post} {o : Oper}
/-- An append to an empty literal, of nothing or of something: a row that is written to afterwards. -/
theorem OpV_appendNewM0 (hC : Ok C) {x y : Operand} {t t2 u tx : TypeId} {ys : List E} (ho : o.op = .call { callee := .builtin .append, args := #[x, y], argTypes := #[t, t2] }) (ht : td C.tb t = .sl u) (hz : plain C.tb zf u = true) (hs0 : Nat.beq (sz C.tb u) 0 = false) (hu8 : td C.tb u ≠ .int .u8)
    (hx : opd C.tb env t x = some (.t tx (.bsl []))) (hys : SrcAt C env σ t t2 y ys) (hp : ys.length * nb C.tb u ≤ maxL ∧ ys.length ≤ maxL) :
    OpV C o env σ (fun d s => d = .t t (.msl σ.length ys.length) ∧ s = σ ++ [.mrow u true ys]) := by
  rcases Nat.eq_zero_or_pos ys.length with h0 | hpos
  rotate_left
  · exact OpV_appendNewM hC ho ht hz hs0 hx hys hpos hp
  have hnil : ys = [] := List.length_eq_zero_iff.1 h0
  subst hnil
  intro H β a w hr he hd K Qx hK
  have hvx := opd_rel he hx
  obtain ⟨h2, hlx, news, hnr, hnew⟩ := hys H β a w u ht hr he
  have hv0 : ∃ b off, a.eval x = .slice (some ⟨b, off, none⟩) 0 0 := by
    generalize a.eval x = vx at hvx ⊢
    cases hvx with
    | @t ty v cs z aa bb => cases bb with
      | @bsl t0 u0 b off xs b1 b2 =>
        have a' := aa
        simp [VC, isAggT, b1] at a'
        exact ⟨b, off, a'.symm⟩
  obtain ⟨b0, off0, hv0⟩ := hv0
  have hnn : news = [] := List.length_eq_zero_iff.1 (by rw [hnr.len]; simp)
  subst hnn
  have hrun := run_append_any hC (ty := o.type) ht hz (ba := some ⟨b0, off0, none⟩) (n := 0) (cap := 0) (m := 0) (x := a.eval y) (olds := []) (news := []) (w := w) h2 hlx (fun _ _ => trivial) (fun w' h => by
      have := hnew 0 (Nat.le_refl _) w' h
      simpa using this) (by simp)
    (fun b off ha j v hj => by simp at hj) (fun ha => by cases ha) (fun aa haa => by cases haa; rfl) (by simp) (fun v hv => by simp at hv) (fun hr b off _ j hj => by simp at hj) (by simp) (by simp)
  rcases hrun with ⟨_, hrun⟩ | ⟨h, _⟩
  rotate_left
  · omega
  have hip : inPlace w (some ⟨b0, off0, none⟩) (0 * sz C.tb u) [] = w := rfl
  rw [hip] at hrun
  have hex : (execOp a.eval o).run C.P w = .ok (.value (.slice (some ⟨b0, off0, none⟩) 0 0)) w := by
    rw [opdArgs2 ho, hv0]
    simp [builtin, hrun]
  simp only [Oper.wp, hex, Oper.upon]
  obtain ⟨r1, r2⟩ := hr.addM' u (some (b0, off0)) hu8
  refine hK _ _ _ _ _ _ ⟨rfl, rfl⟩ r1 ?_ (.refl _ _) r2
  exact .t (cs := [.slice (some ⟨b0, off0, none⟩) 0 0]) (by simp [VC, isAggT, ht]) (.msl ht ⟨_, _, rfl, Nat.zero_le _⟩ ⟨true, [], by simp, Nat.le_refl _, fun _ => by simp [← hr.len]⟩)
end
end Go.Den
/- Maps of lists, keyed by arrays of numbers: what the model's operations on them do, in a world. -/
namespace Go.Den
open Go
set_option linter.unusedSectionVars false
set_option linter.unusedSimpArgs false
set_option linter.unusedVariables false

/-! ### a world whose map has turned -/
def mset (w : World) (r : Nat) (es : List MapEntry) : World := { w with heap := w.heap.setIfInBounds r (.map es.toArray es.length) }
section
variable {w : World} {r : Nat} {es : List MapEntry} {c : Nat} {fs : List MapEntry}
theorem mset_self (h : w.heap[r]? = some (.map es.toArray c)) : (mset w r fs).heap[r]? = some (.map fs.toArray fs.length) := (Go.MapKept.heap_set h).1
theorem mset_other (h : w.heap[r]? = some (.map es.toArray c)) {b : Nat} (hb : b ≠ r) : (mset w r fs).heap[b]? = w.heap[b]? := (Go.MapKept.heap_set h).2 b hb
theorem mset_cell (h : w.heap[r]? = some (.map es.toArray c)) (b o : Nat) : (mset w r fs).cell? ⟨b, o, none⟩ = w.cell? ⟨b, o, none⟩ := by
  by_cases hb : b = r
  · subst hb; simp [World.cell?, mset_self h, h]
  · simp [World.cell?, mset_other h hb]
theorem mset_shape (h : w.heap[r]? = some (.map es.toArray c)) (b : Nat) : (mset w r fs).shape? b = w.shape? b := by
  by_cases hb : b = r
  · subst hb; simp [World.shape?, mset_self h, h]
  · simp [World.shape?, mset_other h hb]
theorem mset_frozen (h : w.heap[r]? = some (.map es.toArray c)) (b o : Nat) : (mset w r fs).frozen? ⟨b, o, none⟩ = w.frozen? ⟨b, o, none⟩ := by
  by_cases hb : b = r
  · subst hb; simp [World.frozen?, mset_self h, h]
  · simp [World.frozen?, mset_other h hb]
theorem mset_size : (mset w r fs).heap.size = w.heap.size := by simp [mset]
end

/-! ### keys -/
/-- A type of keys: an array of numbers. -/
def keyTy (P : Program) (tb : Tab) (k : TypeId) : Bool := match td tb k with
  | .arr _ u => (match td tb u with | .int _ => true | _ => false) && eqTy P tb 12 k && !Nat.beq (sz tb u) 0
  | _ => false
theorem keyTy_arr {P : Program} {tb : Tab} {k : TypeId} (h : keyTy P tb k = true) : ∃ n u kk, td tb k = .arr n u ∧ td tb u = .int kk ∧ eqTy P tb 12 k = true ∧ sz tb u ≠ 0 := by
  unfold keyTy at h
  split at h
  · rename_i n u hk
    simp only [Bool.and_eq_true] at h
    obtain ⟨⟨h1, h2⟩, h3⟩ := h
    split at h1
    · rename_i kk hu
      exact ⟨n, u, kk, hk, hu, h2, Nat.ne_of_beq_eq_false (by simpa using h3)⟩
    · cases h1
  · cases h

theorem Rd.key {P : Program} {tb : Tab} (hT : TabOk P tb) {H : Gh} {k : TypeId} {n : Nat} {u : TypeId} {kk : IntKind} (hk : td tb k = .arr n u) (hu : td tb u = .int kk) {cs : List Value} {x : E} (h : Rd tb H k cs x) :
    ∃ ns : List Int, x = .agg (ns.map .int) ∧ cs = ns.map (.int kk) ∧ ns.length = n := by
  have hs1 : sz tb u = 1 := hT.sz_one (by simp [isAggT, hu]) (by simp [hu])
  cases h with
  | @arr t n' u' cs xs a b c d =>
    rw [hk] at a; cases a
    rw [hs1, Nat.mul_one] at b
    have hel : ∀ (i : Nat) (x : E), xs[i]? = some x → ∃ m : Int, x = .int m ∧ cs[i]? = some (.int kk m) := fun i x hx => by
      have hr := d i x hx
      rw [hs1, Nat.mul_one] at hr
      have hi : i < cs.length := by have := (List.getElem?_eq_some_iff.1 hx).1; omega
      have hseg : seg cs i 1 = [cs[i]] := by
        unfold seg; rw [List.drop_eq_getElem_cons hi]; rfl
      rw [hseg] at hr
      generalize hv : cs[i] = v at hr
      cases hr with
      | @int t k' m a' b' =>
        rw [hu] at a'; cases a'
        exact ⟨m, rfl, by rw [List.getElem?_eq_getElem hi, hv]⟩
      | _ a' => rw [hu] at a'; cases a'
    obtain ⟨ns, rfl⟩ := map_ex (f := E.int) (l := xs) fun y hy => by
      obtain ⟨i, hi⟩ := List.getElem?_of_mem hy
      obtain ⟨m, rfl, _⟩ := hel i y hi
      exact ⟨m, rfl⟩
    refine ⟨ns, rfl, ?_, by simpa using c⟩
    apply List.ext_getElem?
    intro i
    by_cases hi : i < ns.length
    · obtain ⟨m, h1, h2⟩ := hel i (.int ns[i]) (by simp [hi])
      cases h1
      rw [h2]; simp [hi]
    · have : cs.length = ns.length := by simpa [b] using c.symm
      rw [List.getElem?_eq_none (by omega), List.getElem?_eq_none (by simp; omega)]
  | _ a => rw [hk] at a; cases a

theorem eqEs_int : ∀ {a b : List Int}, eqEs (a.map .int) (b.map .int) = decide (a = b)
  | [], [] => by simp [eqEs]
  | x :: a, y :: b => by
    simp only [List.map_cons, eqEs, eqE, eqEs_int (a := a) (b := b), List.cons.injEq]
    by_cases h1 : x = y <;> by_cases h2 : a = b <;> simp [h1, h2]
  | [], _ :: _ => by simp [eqEs]
  | _ :: _, [] => by simp [eqEs]

theorem run_checkKey_arr {P : Program} {tb : Tab} (hT : TabOk P tb) {H : Gh} {k : TypeId} (hk : keyTy P tb k = true) {v : Value} {cs : List Value} {x : E} (hv : VC tb k v cs) (hx : Rd tb H k cs x) (em : Bool) (m : Nat) (w : World) :
    (Instr.checkKey em (m + 2) k v).run P w = .ok () w := by
  obtain ⟨n, u, kk, hk1, hu, _, _⟩ := keyTy_arr hk
  obtain ⟨ns, rfl, rfl, hn⟩ := hx.key hT hk1 hu
  have hs1 : sz tb u = 1 := hT.sz_one (by simp [isAggT, hu]) (by simp [hu])
  have hlt : u < tb.rows.length := hT.lt_of_td (by simp [hu])
  have hve : v = .agg (ns.map (Value.int kk)).toArray := by simpa [VC, isAggT, hk1] using hv
  subst hve
  rw [Instr.checkKey]
  simp only [Sem.run_bind, run_underlying_of hT (hT.arr hk1), Result.andThen_ok]
  simp only [Std.Legacy.Range.forIn_eq_forIn_range', Std.Legacy.Range.size, Nat.sub_zero, Nat.add_one_sub_one, Nat.div_one]
  have each : ∀ j ∈ List.range' 0 n, j < ns.length := fun j hj => by simp at hj; omega
  generalize List.range' 0 n = is at each
  induction is with
  | nil => simp
  | cons j is ih =>
    have hj := each j (by simp)
    obtain ⟨a, hp, hva⟩ := run_part' hT (P := P) (t := u) (cs := ns.map (Value.int kk)) (off := j * sz tb u) (by simp [hu]) (by rw [hs1]; simp; omega)
    have ha : a = .int kk ns[j] := by
      rw [hs1, Nat.mul_one] at hva
      have hseg : seg (ns.map (Value.int kk)) j 1 = [.int kk ns[j]] := by
        unfold seg; rw [List.drop_eq_getElem_cons (by simpa using hj)]; simp
      rw [hseg] at hva
      have : isAggT tb u = false := by simp [isAggT, hu]
      simp [VC, this] at hva
      exact hva.symm
    have hc : (Instr.checkKey em (m + 1) u a).run P w = .ok () w := by
      subst ha
      simp [Instr.checkKey, run_underlying_of hT (hT.int hu)]
    simp only [List.forIn_cons, Sem.run_bind, run_sizeOf_of hT hlt, Result.andThen_ok, hp w, hc, Sem.run_pure]
    exact ih fun y hy => each y (by simp [hy])

theorem sameBits_ints {kk : IntKind} (ns : List Int) (m : Nat) : Instr.sameBits (m + 2) (.agg (ns.map (Value.int kk)).toArray) (.agg (ns.map (Value.int kk)).toArray) = true := by
  simp only [Instr.sameBits, Bool.and_eq_true, List.all_eq_true]
  refine ⟨by simp, fun p hp => ?_⟩
  have : p.1 = p.2 ∧ ∃ x, p.1 = .int kk x := by
    obtain ⟨i, hi⟩ := List.getElem?_of_mem hp
    rw [List.getElem?_zip_eq_some] at hi
    obtain ⟨h1, h2⟩ := hi
    rw [h1] at h2
    rw [List.getElem?_map, Option.map_eq_some_iff] at h1
    obtain ⟨x, _, hx⟩ := h1
    exact ⟨Option.some.inj h2, x, hx.symm⟩
  obtain ⟨h1, x, h2⟩ := this
  rw [← h1, h2]
  simp [Instr.sameBits]

/-! ### finding -/
abbrev Ent := E × List E × Bool
def mpIdx (y : E) : List Ent → Nat → Option Nat
  | [], _ => none
  | x :: es, i => match eqE y x.1 with
    | true => some i
    | false => mpIdx y es (i + 1)
theorem mpIdx_get {y : E} : ∀ {es : List Ent} {i j : Nat}, mpIdx y es i = some j → ∃ x, i ≤ j ∧ es[j - i]? = some x ∧ eqE y x.1 = true
  | [], _, _, h => by simp [mpIdx] at h
  | x :: es, i, j, h => by
    simp only [mpIdx] at h
    split at h
    · rename_i he; cases h; exact ⟨x, Nat.le_refl _, by simp, he⟩
    · obtain ⟨z, h1, h2, h3⟩ := mpIdx_get h
      refine ⟨z, by omega, ?_, h3⟩
      rw [show j - i = (j - (i + 1)) + 1 by omega]; simpa using h2

theorem run_findAsking_arr {P : Program} {tb : Tab} (hT : TabOk P tb) {H : Gh} {k : TypeId} (hk : keyTy P tb k = true) {v : Value} {cs : List Value} {y : E} (hv : VC tb k v cs) (hy : Rd tb H k cs y) (w : World) :
    ∀ (ms : List MapEntry) (es : List Ent) (i : Nat), ms.length = es.length → (∀ (j : Nat) (m : MapEntry) (x : Ent), ms[j]? = some m → es[j]? = some x → ∃ cs, VC tb k m.key cs ∧ Rd tb H k cs x.1) →
      (Instr.findAsking k v ms i).run P w = .ok ((mpIdx y es i).map fun j => (j, ((ms[j - i]?).map (·.val)).getD undef)) w
  | [], [], i, _, _ => by simp [Instr.findAsking, mpIdx]
  | m :: ms, x :: es, i, hl, h => by
    obtain ⟨_, _, _, _, _, he, _⟩ := keyTy_arr hk
    obtain ⟨cs', h1, h2⟩ := h 0 m x rfl rfl
    have heq := equalIn_ok hT (H := H) 12 10000 k he (by omega) cs cs' y x.1 v m.key w hy h2 hv h1
    have heq' : (Op.equal k v m.key).run P w = .ok (eqE y x.1) w := heq
    unfold Instr.findAsking
    simp only [Sem.run_bind, heq', Result.andThen_ok, mpIdx]
    cases hb : eqE y x.1 with
    | true => simp
    | false =>
      have ih := run_findAsking_arr hT hk hv hy w ms es (i + 1) (by simpa using hl) fun j m' x' hm hx => h (j + 1) m' x' (by simpa using hm) (by simpa using hx)
      simp only [Bool.false_eq_true, if_false]
      rw [ih]
      cases hq : mpIdx y es (i + 1) with
      | none => rfl
      | some j =>
        obtain ⟨_, hle, _⟩ := mpIdx_get hq
        simp only [Option.map_some]
        rw [show j - i = (j - (i + 1)) + 1 by omega]
        simp
  | [], _ :: _, _, hl, _ => by simp at hl
  | _ :: _, [], _, hl, _ => by simp at hl
theorem run_findKey_arr {P : Program} {tb : Tab} (hT : TabOk P tb) {H : Gh} {k : TypeId} (hk : keyTy P tb k = true) {v : Value} {cs : List Value} {y : E} (hv : VC tb k v cs) (hy : Rd tb H k cs y) (w : World) {ms : List MapEntry} {es : List Ent} (hl : ms.length = es.length)
    (h : ∀ (j : Nat) (m : MapEntry) (x : Ent), ms[j]? = some m → es[j]? = some x → ∃ cs, VC tb k m.key cs ∧ Rd tb H k cs x.1) :
    (Instr.findKey k v ms).run P w = .ok ((mpIdx y es 0).map fun j => (j, ((ms[j]?).map (·.val)).getD undef)) w := by
  obtain ⟨n, u, kk, hk1, hu, _, _⟩ := keyTy_arr hk
  rw [run_findKey_eq w (by rw [hT.arr hk1]) v ms]
  exact run_findAsking_arr hT hk hv hy w ms es 0 hl h
end Go.Den
/- Maps of lists: the operations. -/
namespace Go.Den
open Go
set_option linter.unusedSectionVars false
set_option linter.unusedSimpArgs false
set_option linter.unusedVariables false

/-- A type whose nought is the nil slice. -/
def zeroNil (P : Program) (t : TypeId) : Bool := match P.info? t with
  | some i => match i.zero with
    | some (.slice none 0 0) => true
    | _ => false
  | none => false
theorem zeroNil_run {P : Program} {t : TypeId} (h : zeroNil P t = true) (w : World) : (zeroValue t).run P w = .ok (.slice none 0 0) w := by
  unfold zeroNil at h
  split at h
  · rename_i i hi
    split at h
    · rename_i hz; simp [zeroValue, typeInfo, hi, hz]
    · cases h
  · cases h

theorem RowR.range {tb : Tab} {H : Gh} {w : World} {i : Nat} {v : Value} {e : TypeId} {n : Nat} (h : RowR tb H w i v e n) :
    ∃ b lo hi, (∀ o, lo ≤ o → o < hi → (∃ u, w.cell? ⟨b, o, none⟩ = some u) ∧ H b o = .mine i ∧ w.frozen? ⟨b, o, none⟩ = false) ∧
      (∀ H' w' i', (∀ o, lo ≤ o → o < hi → (∃ u, w'.cell? ⟨b, o, none⟩ = some u) ∧ H' b o = .mine i' ∧ w'.frozen? ⟨b, o, none⟩ = false) → RowR tb H' w' i' v e n) ∧
      ∀ b' o', Spare tb e v n b' o' ↔ (b' = b ∧ lo ≤ o' ∧ o' < hi) := by
  rcases h with ⟨rfl, rfl⟩ | ⟨b, off, c, rfl, hc, h⟩
  · refine ⟨0, 0, 0, fun o h1 h2 => by omega, fun H' w' i' _ => .inl ⟨rfl, rfl⟩, fun b' o' => Iff.intro (fun ⟨off, c, he, _⟩ => by cases he) (fun ⟨_, h1, h2⟩ => by omega)⟩
  · refine ⟨b, off + n * sz tb e, off + c * sz tb e, fun o h1 h2 => ?_, fun H' w' i' h' => .inr ⟨b, off, c, rfl, hc, fun j h1 h2 => h' (off + j) (by omega) (by omega)⟩, fun b' o' => ⟨?_, ?_⟩⟩
    · have := h (o - off) (by omega) (by omega)
      rwa [show off + (o - off) = o by omega] at this
    · rintro ⟨off', c', he, h1, h2⟩
      cases he
      exact ⟨rfl, h1, h2⟩
    · rintro ⟨rfl, h1, h2⟩
      exact ⟨off, c, rfl, h1, h2⟩

/-- Some cells of a block's own go over to another block. -/
def moveH (H : Gh) (b lo hi K : Nat) : Gh := fun b' o' => if b' = b ∧ lo ≤ o' ∧ o' < hi then .mine K else H b' o'

structure Mv (H H' : Gh) : Prop where
  mv : ∀ b o, H' b o = H b o ∨ ∃ j j', H b o = .mine j ∧ H' b o = .mine j'
theorem Mv.pers {H H' : Gh} (h : Mv H H') {b o v} : H b o = .pers v ↔ H' b o = .pers v := by
  rcases h.mv b o with e | ⟨j, j', e1, e2⟩
  · rw [e]
  · rw [e1, e2]; simp
theorem Mv.none {H H' : Gh} (h : Mv H H') {b o} (hn : H' b o ≠ .none) : H b o ≠ .none := by
  rcases h.mv b o with e | ⟨j, j', e1, e2⟩
  · rwa [← e]
  · rw [e1]; simp
theorem Mv.of_move {H : Gh} {b lo hi K i : Nat} (h : ∀ o, lo ≤ o → o < hi → H b o = .mine i) : Mv H (moveH H b lo hi K) := ⟨fun b' o' => by
  unfold moveH
  split
  · rename_i hh; obtain ⟨rfl, h1, h2⟩ := hh; exact .inr ⟨i, K, h o' h1 h2, rfl⟩
  · exact .inl rfl⟩
theorem Mv.refl (H : Gh) : Mv H H := ⟨fun _ _ => .inl rfl⟩

theorem Rel.mpTo {tb : Tab} {H β σ w} (h : Rel tb H β σ w) {i r : Nat} {ms : List MapEntry} (hr : w.heap[r]? = some (.map ms.toArray ms.length)) (hm : ∀ o, H r o = .mine i)
    {H' β' σ'} {ms' : List MapEntry} (hmv : Mv H H') (hev : Ev H β σ H' β' σ') (hl : β'.length = σ'.length)
    (hblk : ∀ j kk bv, σ'[j]? = some kk → β'[j]? = some bv → BlkRel tb H' β' σ' (mset w r ms') j bv kk ∨ (σ[j]? = some kk ∧ β[j]? = some bv ∧ j ≠ i ∧ ∀ b o, H b o = .mine j → H' b o = .mine j)) :
    Rel tb H' β' σ' (mset w r ms') ∧ Stp H w H' (mset w r ms') ∧ (∀ ts, (∀ b o j, j ∉ ts → H b o = .mine j → H' b o = .mine j) → Frm ts H w H' (mset w r ms')) := by
  have hcell := fun b o => mset_cell (fs := ms') hr b o
  refine ⟨⟨fun b o v e => (hcell b o).trans (h.pers b o v (hmv.pers.2 e)), fun b o e => by rw [mset_size]; exact h.dom b o (hmv.none e), hl, fun j kk bv hk hv => ?_⟩, ?_, fun ts hts b o u hu hs => ?_⟩
  · rcases hblk j kk bv hk hv with hb | ⟨h1, h2, h3, h4⟩
    · exact hb
    · refine (h.blk j kk bv h1 h2).mono hev (fun b o e => ⟨h4 b o e, hcell b o, fun _ _ => mset_frozen hr b o, mset_shape hr b⟩) (fun b x e _ he => ?_)
      have hne : b ≠ r := fun e2 => by subst e2; have := (e 0).symm.trans (hm 0); cases this; exact h3 rfl
      rw [mset_other hr hne]; exact he
  · refine ⟨rfl, rfl, rfl, by rw [mset_size]; exact Nat.le_refl _, fun b _ o hn => ?_, fun b _ o j e => ?_, fun b _ hn => mset_other hr fun e => by subst e; exact hn 0 i (hm 0), fun b _ o _ => hcell b o, fun b _ o _ _ _ => mset_frozen hr b o, fun b _ => mset_shape hr b⟩
    · rcases hmv.mv b o with e | ⟨j, j', e1, _⟩
      · exact e
      · exact absurd e1 (hn j)
    · rcases hmv.mv b o with e' | ⟨k, _, e1, _⟩
      · exact ⟨j, by rw [← e']; exact e⟩
      · exact ⟨k, e1⟩
  · refine ⟨by rw [hcell]; exact hu, ?_⟩
    rcases hs with ⟨x, hx⟩ | ⟨j, hj, hx⟩
    · exact .inl ⟨x, hmv.pers.1 hx⟩
    · exact .inr ⟨j, hj, hts b o j hj hx⟩

section
variable {C : Cx} (hC : Ok C) {o : Oper} {env : Env} {σ : List Blk} {ts : List Nat}

/-- What stands behind a map's value. -/
theorem mp_inv {H : Gh} {β : List Value} {w : World} {v : Value} {ty k e : TypeId} {i : Nat} {es : List Ent} (hr : Rel C.tb H β σ w) (hv : DRel C.tb H β σ v (.t ty (.mp i))) (hi : σ[i]? = some (.mp k e es)) :
    ∃ (u : TypeId) (r : Nat) (ms : List MapEntry), td C.tb ty = .mp k u ∧ td C.tb u = .sl e ∧ v = .map (some r) ∧ β[i]? = some (.map (some r)) ∧ w.heap[r]? = some (.map ms.toArray ms.length) ∧ (∀ o, H r o = .mine i) ∧ ms.length = es.length ∧
      (∀ (j : Nat) (m : MapEntry) (x : Ent), ms[j]? = some m → es[j]? = some x → m.born = j ∧ EntRel C.tb H w i k e m x) ∧
      (∀ (j j' : Nat) (m m' : MapEntry) (x x' : Ent), j ≠ j' → ms[j]? = some m → es[j]? = some x → ms[j']? = some m' → es[j']? = some x' → x.2.2 = true → x'.2.2 = true → ∀ b o, ¬ (Spare C.tb e m.val x.2.1.length b o ∧ Spare C.tb e m'.val x'.2.1.length b o)) := by
  cases hv with
  | @t ty v cs z aa bb => cases bb with
    | @mp t0 k0 u v0 i0 es0 e0 a b c d f =>
      have a' := aa
      simp [VC, isAggT, a] at a'
      subst a'
      rw [hi] at b; cases b
      obtain ⟨r, ms, g1, g2, g3, g4, g5, g6⟩ := hr.blk i _ _ hi d
      subst g1
      exact ⟨u, r, ms, a, c, rfl, d, g2, g3, g4, g5, g6⟩

include hC

theorem OpF_makeMap {t k u e : TypeId} (ho : o.op = .makeMap t none) (ht : td C.tb t = .mp k u) (hu : td C.tb u = .sl e) : OpF C o env σ ts (fun d s => d = .t t (.mp σ.length) ∧ s = σ ++ [.mp k e []]) := by
  intro H β a w hr he hd K Qx hK
  have hex : (execOp a.eval o).run C.P w = .ok (.value (.map (some w.heap.size))) (w.alloc (.map #[] 0)) := by
    simp [execOp, ho, Instr.makeMap]
  obtain ⟨r1, r2⟩ := hr.alloc (.map #[] 0) (fun _ => .mine σ.length) [.map (some w.heap.size)] [.mp k e []] rfl (fun o v hv => by cases hv)
    (fun i k bv hk hv => by
      have hi : i = 0 := by have := (List.getElem?_eq_some_iff.1 hk).1; simp at this; omega
      subst hi
      simp at hk hv; subst hk; subst hv
      exact ⟨w.heap.size, [], rfl, heap_alloc_new w _, fun o => by rw [hAlloc_new]; rfl, rfl, fun j m x hm => by simp at hm, fun j j' m m' x x' _ hm => by simp at hm⟩)
  simp only [Oper.wp, hex, Oper.upon]
  refine hK _ _ _ _ _ _ ⟨rfl, rfl⟩ r1 ?_ (Stp.alloc hr.dom _ _) r2 (.of hr.dom (Stp.alloc hr.dom _ _) fun b o j hj hn => ?_)
  · exact .t (cs := [.map (some w.heap.size)]) (by simp [VC, isAggT, ht]) (.mp (e := e) (es := []) ht (by simp) hu (by simp [← hr.len]) ⟨_, rfl⟩)
  · have hlt := hr.dom b o (by rw [hj]; simp)
    exact ⟨by rw [hAlloc_old (by omega)]; exact hj, World.cell?_alloc_old w _ _ (by show b ≠ _; omega)⟩

/-- How long a map is. -/
theorem OpF_lenMp {x : Operand} {t tx k e : TypeId} {i : Nat} {es : List Ent} (ho : o.op = .call { callee := .builtin .len, args := #[x], argTypes := #[t] }) (hr0 : td C.tb o.type = .int .i64)
    (hx : opd C.tb env t x = some (.t tx (.mp i))) (hs : same C.tb tx t = true) (hi : σ[i]? = some (.mp k e es)) (hm : es.length ≤ maxN) : OpF C o env σ ts (fun d s => d = .t o.type (.e (.int es.length)) ∧ s = σ) := by
  intro H β a w hr he hd K Qx hK
  obtain ⟨u, r, ms, g1, g2, g3, g4, g5, g6, g7, g8, g9⟩ := mp_inv hr (opd_rel he hx) hi
  rw [same_td hs] at g1
  have hex : (execOp a.eval o).run C.P w = .ok (.value (.int .i64 es.length)) w := by
    rw [opdArg ho]
    simp [builtin, Builtin.len_, g3, run_underlying_of hC.tab (hC.tab.mp g1), goInt, Go.MapKept.run_getObj_map g5, g7]
  simp only [Oper.wp, hex, Oper.upon]
  exact hK _ _ w H β σ ⟨rfl, rfl⟩ hr (.mkInt hr0 (range64 hm)) (.refl _ _) (.refl _ _ _) (.same _ _ _)

/-- The list that stands at a key; none is the empty one. -/
def mpGet (es : List Ent) (y : E) : List E := match mpIdx y es 0 with
  | some j => ((es[j]?).map (·.2.1)).getD []
  | none => []

/-- What the model finds. -/
theorem mp_find {H : Gh} {w : World} {i : Nat} {k e : TypeId} {ms : List MapEntry} {es : List Ent} (hk : keyTy C.P C.tb k = true) (hl : ms.length = es.length)
    (hent : ∀ (j : Nat) (m : MapEntry) (x : Ent), ms[j]? = some m → es[j]? = some x → m.born = j ∧ EntRel C.tb H w i k e m x) {v : Value} {cs : List Value} {y : E} (hv : VC C.tb k v cs) (hy : Rd C.tb H k cs y) (w' : World) :
    (mpIdx y es 0 = none ∧ (Instr.findKey k v ms).run C.P w' = .ok none w') ∨
    ∃ j m x, mpIdx y es 0 = some j ∧ ms[j]? = some m ∧ es[j]? = some x ∧ m.key = v ∧ (Instr.findKey k v ms).run C.P w' = .ok (some (j, m.val)) w' := by
  have hf := run_findKey_arr hC.tab hk hv hy w' hl fun j m x hm hx => (hent j m x hm hx).2.1
  cases hq : mpIdx y es 0 with
  | none => rw [hq] at hf; exact .inl ⟨rfl, hf⟩
  | some j =>
    obtain ⟨x, _, hx, he⟩ := mpIdx_get hq
    rw [Nat.sub_zero] at hx
    have hj : j < ms.length := by rw [hl]; exact (List.getElem?_eq_some_iff.1 hx).1
    have hm : ms[j]? = some ms[j] := List.getElem?_eq_getElem hj
    rw [hq] at hf
    simp only [Option.map_some, hm, Option.getD_some] at hf
    refine .inr ⟨j, _, x, rfl, hm, hx, ?_, hf⟩
    obtain ⟨n, u, kk, hk1, hu, _, _⟩ := keyTy_arr hk
    obtain ⟨cs', h1, h2⟩ := (hent j _ x hm hx).2.1
    obtain ⟨ns, e1, e2, _⟩ := h2.key hC.tab hk1 hu
    obtain ⟨ns', e3, e4, _⟩ := hy.key hC.tab hk1 hu
    rw [e1, e3] at he
    simp only [eqE, eqEs_int, decide_eq_true_eq] at he
    have ha : isAggT C.tb k = true := by simp [isAggT, hk1]
    simp only [VC, ha, if_true] at h1 hv
    rw [h1, hv, e2, e4, he]

/-- A look-up that asks for nothing but the value. -/
theorem OpF_lookup {x ix : Operand} {t tx k e u : TypeId} {i : Nat} {es : List Ent} {dy : D} {y : E} (ho : o.op = .lookup t x ix false) (ht : td C.tb t = .mp k u) (hue : td C.tb u = .sl e) (hk : keyTy C.P C.tb k = true) (hzn : zeroNil C.P u = true)
    (hx : opd C.tb env t x = some (.t tx (.mp i))) (hs : same C.tb tx t = true) (hi : σ[i]? = some (.mp k e es)) (hy : opd C.tb env k ix = some dy) (hy2 : asT C.tb k dy = some (.e y)) :
    OpF C o env σ ts (fun d s => d = .t u (.e (.sl (mpGet es y))) ∧ s = σ) := by
  intro H β a w hr he hd K Qx hK
  obtain ⟨u', r, ms, g1, g2, g3, g4, g5, g6, g7, g8, g9⟩ := mp_inv hr (opd_rel he hx) hi
  rw [same_td hs, ht] at g1; cases g1
  obtain ⟨cs, hv, hrd⟩ := asT_rel hC (opd_rel he hy) hy2
  have hrd := hrd.rd
  have hck : ∀ em, (Instr.checkKey em 10000 k (a.eval ix)).run C.P w = .ok () w := fun em => run_checkKey_arr hC.tab hk hv hrd em 9998 w
  have hag : isAggT C.tb u = false := by simp [isAggT, hue]
  rcases mp_find hC hk g7 g8 hv hrd w with ⟨h1, h2⟩ | ⟨j, m, z, h1, h2, h3, _, h4⟩
  · have hex : (execOp a.eval o).run C.P w = .ok (.value (.slice none 0 0)) w := by
      simp [execOp, ho, Instr.lookup, g3, run_underlying_of hC.tab (hC.tab.mp ht), Go.MapKept.run_getObj_map g5, hck, h2, zeroNil_run hzn]
    simp only [Oper.wp, hex, Oper.upon]
    refine hK _ _ w H β σ ⟨rfl, rfl⟩ hr ?_ (.refl _ _) (.refl _ _ _) (.same _ _ _)
    simp only [mpGet, h1]
    exact .t (cs := [.slice none 0 0]) (by simp [VC, hag]) (.e (.sl0 hue))
  · have hex : (execOp a.eval o).run C.P w = .ok (.value m.val) w := by
      simp [execOp, ho, Instr.lookup, g3, run_underlying_of hC.tab (hC.tab.mp ht), Go.MapKept.run_getObj_map g5, hck, h4]
    simp only [Oper.wp, hex, Oper.upon]
    refine hK _ _ w H β σ ⟨rfl, rfl⟩ hr ?_ (.refl _ _) (.refl _ _ _) (.same _ _ _)
    simp only [mpGet, h1, h3, Option.map_some, Option.getD_some]
    exact .t (cs := [m.val]) (by simp [VC, hag]) (.e ((g8 j m z h2 h3).2.2.1 u hue))

/-- Where a key's entry stands, or will stand. -/
def mpSlot (es : List Ent) (y : E) : Nat := (mpIdx y es 0).getD es.length
/-- The entries, the one at a key handed out. -/
def mpOut (es : List Ent) (y : E) : List Ent := match mpIdx y es 0 with
  | some j => es.set j (((es[j]?).map (·.1)).getD y, mpGet es y, false)
  | none => es ++ [(y, [], false)]
end
end Go.Den
/- Maps of lists: an entry handed out, an entry put back. -/
namespace Go.Den
open Go
set_option linter.unusedSectionVars false
set_option linter.unusedSimpArgs false
set_option linter.unusedVariables false

theorem Ev.mpSet {H : Gh} {β : List Value} {σ : List Blk} {i : Nat} {k e : TypeId} {es es' : List Ent} (hi : σ[i]? = some (.mp k e es)) : Ev H β σ H β (σ.set i (.mp k e es')) := by
  have hil : i < σ.length := (List.getElem?_eq_some_iff.1 hi).1
  refine ⟨fun _ _ _ e => e, fun j ty z hj => ?_, fun j ety m hj => ?_, fun j s p hj => ?_, fun j ety oo zs hj => ?_, fun j k9 e9 zs hj => ?_⟩
  · have hne : i ≠ j := fun e => by subst e; rw [hi] at hj; cases hj
    exact ⟨rfl, z, by rw [List.getElem?_set_ne hne]; exact hj⟩
  · have hne : i ≠ j := fun e => by subst e; rw [hi] at hj; cases hj
    exact ⟨m, by rw [List.getElem?_set_ne hne]; exact hj, Nat.le_refl _, fun _ => rfl⟩
  · have hne : i ≠ j := fun e => by subst e; rw [hi] at hj; cases hj
    exact ⟨rfl, s, p, by rw [List.getElem?_set_ne hne]; exact hj⟩
  · have hne : i ≠ j := fun e => by subst e; rw [hi] at hj; cases hj
    exact ⟨oo, zs, by rw [List.getElem?_set_ne hne]; exact hj, Nat.le_refl _, fun _ => rfl⟩
  · by_cases hji : i = j
    · subst hji; rw [hi] at hj; cases hj; exact ⟨rfl, es', by simp [hil]⟩
    · exact ⟨rfl, zs, by rw [List.getElem?_set_ne hji]; exact hj⟩

theorem Ev.ghost {H H' : Gh} {β : List Value} {σ : List Blk} (h : ∀ b o v, H b o = .pers v → H' b o = .pers v) : Ev H β σ H' β σ :=
  ⟨h, fun _ _ x e => ⟨rfl, x, e⟩, fun _ _ n e => ⟨n, e, Nat.le_refl _, fun _ => rfl⟩, fun _ s p e => ⟨rfl, s, p, e⟩, fun _ _ o xs e => ⟨o, xs, e, Nat.le_refl _, fun _ => rfl⟩, fun _ _ _ es e => ⟨rfl, es, e⟩⟩

theorem modify_same {ms : List MapEntry} {j : Nat} {m : MapEntry} (hm : ms[j]? = some m) (f : MapEntry → MapEntry) (hf : f m = m) : ms.toArray.modify j f = ms.toArray := by
  apply Array.ext'
  rw [Array.toList_modify]
  show ms.modify j f = ms
  apply List.ext_getElem?
  intro q
  rw [List.getElem?_modify]
  by_cases h : j = q
  · subst h; simp [hm, hf]
  · simp [h]

theorem cell_map {w : World} {r : Nat} {es : Array MapEntry} {c : Nat} (h : w.heap[r]? = some (.map es c)) (o : Nat) : w.cell? ⟨r, o, none⟩ = none := by simp [World.cell?, h]

section
variable {C : Cx} (hC : Ok C) {o : Oper} {env : Env} {σ : List Blk} {ts : List Nat}
include hC

theorem OpF_mapEntry {x ix : Operand} {t tx k e u it : TypeId} {i : Nat} {es : List Ent} {dy : D} {y : E} (ho : o.op = .mapEntry t x ix) (ht : td C.tb t = .mp k u) (hue : td C.tb u = .sl e) (hk : keyTy C.P C.tb k = true) (hzn : zeroNil C.P u = true) (hit : td C.tb it = .int .i64)
    (hx : opd C.tb env t x = some (.t tx (.mp i))) (hs : same C.tb tx t = true) (hi : σ[i]? = some (.mp k e es)) (hy : opd C.tb env k ix = some dy) (hy2 : asT C.tb k dy = some (.e y)) (hown : ∀ x ∈ es, x.2.2 = true) (hlen : es.length ≤ maxN) (hts : i ∈ ts) :
    OpF C o env σ ts (fun d s => d = .tup [.t u (.lsl σ.length (mpGet es y)), .t it (.e (.int (mpSlot es y)))] ∧ s = (σ.set i (.mp k e (mpOut es y))) ++ [.row e (mpGet es y).length]) := by
  intro H β a w hr he hd K Qx hK
  obtain ⟨u', r, ms, g1, g2, g3, g4, g5, g6, g7, g8, g9⟩ := mp_inv hr (opd_rel he hx) hi
  rw [same_td hs, ht] at g1; cases g1
  have hil : i < σ.length := (List.getElem?_eq_some_iff.1 hi).1
  obtain ⟨cs, hv, hrd⟩ := asT_rel hC (opd_rel he hy) hy2
  have hrd := hrd.rd
  have hck : ∀ em, (Instr.checkKey em 10000 k (a.eval ix)).run C.P w = .ok () w := fun em => run_checkKey_arr hC.tab hk hv hrd em 9998 w
  have hag : isAggT C.tb u = false := by simp [isAggT, hue]
  obtain ⟨kn, ku, kk, hk1, hku, _, _⟩ := keyTy_arr hk
  have hstay : (Instr.keyThatStays (a.eval ix) (a.eval ix)).run C.P w = .ok (a.eval ix) w := by
    obtain ⟨ns, e1, e2, _⟩ := hrd.key hC.tab hk1 hku
    have hve : a.eval ix = .agg (ns.map (Value.int kk)).toArray := by rw [e2] at hv; simpa [VC, isAggT, hk1] using hv
    rw [hve]
    simp [Instr.keyThatStays, sameBits_ints ns 9998]
  rcases mp_find hC hk g7 g8 hv hrd w with ⟨h1, h2⟩ | ⟨j, m, z, h1, h2, h3, h5, h4⟩
  · -- a new entry
    have hms : ms.toArray.push ⟨a.eval ix, .slice none 0 0, ms.length⟩ = (ms ++ [(⟨a.eval ix, .slice none 0 0, ms.length⟩ : MapEntry)]).toArray := by simp
    have hex : (execOp a.eval o).run C.P w = .ok (.value (.tuple #[.slice none 0 0, goInt ms.length])) (mset w r (ms ++ [⟨a.eval ix, .slice none 0 0, ms.length⟩])) := by
      have hlen2 : (ms ++ [(⟨a.eval ix, .slice none 0 0, ms.length⟩ : MapEntry)]).length = ms.length + 1 := by simp
      simp only [execOp, ho, Instr.mapEntry, g3, Sem.run_bind, run_underlying_of hC.tab (hC.tab.mp ht), Result.andThen_ok, Go.MapKept.run_getObj_map g5, hck, h2, zeroNil_run hzn, Go.MapKept.run_setObj_map _ g5, hms, mset, hlen2]
      simp
    have hg : mpGet es y = [] := by simp [mpGet, h1]
    have hsl : mpSlot es y = es.length := by simp [mpSlot, h1]
    have hout : mpOut es y = es ++ [(y, [], false)] := by simp [mpOut, h1]
    simp only [Oper.wp, hex, Oper.upon]
    rw [hg, hsl, hout] at hK
    have hev : Ev H β σ H (β ++ [.slice none 0 0]) (σ.set i (.mp k e (es ++ [(y, [], false)])) ++ [.row e 0]) := (Ev.mpSet hi).trans (Ev.app (by simp [hr.len]) fun _ _ _ e => e)
    obtain ⟨q1, q2, q3⟩ := hr.mpTo g5 g6 (ms' := ms ++ [⟨a.eval ix, .slice none 0 0, ms.length⟩]) (.refl H) hev (by simp [hr.len]) fun q kk bv hkk hbv => by
      rcases Nat.lt_or_ge q σ.length with hq | hq
      · rw [List.getElem?_append_left (by simpa using hq)] at hkk
        rw [List.getElem?_append_left (by rw [hr.len]; exact hq)] at hbv
        by_cases hqi : i = q
        · subst hqi
          rw [List.getElem?_set_self hil] at hkk; cases hkk
          rw [g4] at hbv; cases hbv
          refine .inl ⟨r, _, rfl, mset_self g5, g6, by simp [g7], fun j m x hm hx => ?_, fun j j' m m' x x' hne hm hx hm' hx' ho ho' => ?_⟩
          · rcases Nat.lt_or_ge j ms.length with hj | hj
            · rw [List.getElem?_append_left hj] at hm
              rw [List.getElem?_append_left (by omega)] at hx
              obtain ⟨p1, p2, p3, p4⟩ := g8 j m x hm hx
              refine ⟨p1, p2, p3, fun ho => ?_⟩
              obtain ⟨b, lo, hi', r1, r2, r3⟩ := (p4 ho).range
              exact r2 _ _ _ fun o h1 h2 => ⟨by rw [mset_cell g5]; exact (r1 o h1 h2).1, (r1 o h1 h2).2.1, by rw [mset_frozen g5]; exact (r1 o h1 h2).2.2⟩
            · rw [List.getElem?_append_right hj] at hm
              rw [List.getElem?_append_right (by omega)] at hx
              have : j - ms.length = 0 := by have := (List.getElem?_eq_some_iff.1 hm).1; simp at this; omega
              rw [this] at hm; rw [← g7, this] at hx
              simp at hm hx; subst hm; subst hx
              exact ⟨by show ms.length = j; omega, ⟨cs, hv, hrd⟩, fun t ht => .sl0 ht, fun h => by cases h⟩
          · have old : ∀ (j : Nat) (m : MapEntry) (x : Ent), (ms ++ [(⟨a.eval ix, .slice none 0 0, ms.length⟩ : MapEntry)])[j]? = some m → (es ++ [(y, [], false)])[j]? = some x → x.2.2 = true → ms[j]? = some m ∧ es[j]? = some x := fun j m x hm hx ho => by
              rcases Nat.lt_or_ge j ms.length with hj | hj
              · rw [List.getElem?_append_left hj] at hm
                rw [List.getElem?_append_left (by omega)] at hx
                exact ⟨hm, hx⟩
              · rw [List.getElem?_append_right (by omega)] at hx
                have : j - es.length = 0 := by have := (List.getElem?_eq_some_iff.1 hx).1; simp at this; omega
                rw [this] at hx
                simp at hx; subst hx; cases ho
            obtain ⟨a1, a2⟩ := old j m x hm hx ho
            obtain ⟨a3, a4⟩ := old j' m' x' hm' hx' ho'
            exact g9 j j' m m' x x' hne a1 a2 a3 a4 ho ho'
        · rw [List.getElem?_set_ne hqi] at hkk
          exact .inr ⟨hkk, hbv, fun e => hqi e.symm, fun _ _ h => h⟩
      · rw [List.getElem?_append_right (by simpa using hq)] at hkk
        rw [List.getElem?_append_right (by rw [hr.len]; exact hq)] at hbv
        have h0 : q - σ.length = 0 := by have := (List.getElem?_eq_some_iff.1 hkk).1; simp at this; omega
        simp only [List.length_set, hr.len, h0] at hkk hbv
        simp at hkk hbv; subst hkk; subst hbv
        exact .inl (.inl ⟨rfl, rfl⟩)
    refine hK _ _ _ H _ _ ⟨rfl, rfl⟩ q1 (.tup rfl fun j v d hv hd => ?_) q2 hev (q3 ts fun _ _ _ _ h => h)
    match j with
    | 0 =>
      cases hd; simp at hv; subst hv
      exact .t (cs := [.slice none 0 0]) (by simp [VC, hag]) (.lsl hue (.sl0 hue) ⟨0, by simp, Nat.le_refl _, fun _ => by simp [← hr.len]⟩)
    | 1 => cases hd; simp at hv; subst hv; rw [← g7]; exact .mkInt hit (range64 (by omega))
    | j + 2 => simp at hd
  · -- an entry that was there
    have hg : mpGet es y = z.2.1 := by simp [mpGet, h1, h3]
    have hsl : mpSlot es y = j := by simp [mpSlot, h1]
    have hout : mpOut es y = es.set j (z.1, z.2.1, false) := by simp [mpOut, h1, h3, hg]
    have hjl : j < ms.length := (List.getElem?_eq_some_iff.1 h2).1
    obtain ⟨p1, p2, p3, p4⟩ := g8 j m z h2 h3
    have hmod : ms.toArray.modify j (fun e => { e with key := a.eval ix }) = ms.toArray := modify_same h2 _ (by rw [← h5])
    have hgj : ((ms.toArray[j]?).map (·.key)).getD (a.eval ix) = a.eval ix := by simp [h2, h5]
    have hbj : ((ms.toArray[j]?).map (·.born)).getD 0 = j := by simp [h2, p1]
    have hex : (execOp a.eval o).run C.P w = .ok (.value (.tuple #[m.val, goInt j])) (mset w r ms) := by
      simp only [execOp, ho, Instr.mapEntry, g3, Sem.run_bind, run_underlying_of hC.tab (hC.tab.mp ht), Result.andThen_ok, Go.MapKept.run_getObj_map g5, hck, h4, hgj, hstay, hmod, hbj, Go.MapKept.run_setObj_map _ g5, mset]
      simp [h2, p1]
    simp only [Oper.wp, hex, Oper.upon]
    rw [hg, hsl, hout] at hK
    obtain ⟨b, lo, hi', r1, r2, r3⟩ := (p4 (hown z (List.mem_of_getElem? h3))).range
    have hmv : Mv H (moveH H b lo hi' σ.length) := .of_move fun o h1 h2 => (r1 o h1 h2).2.1
    have hmine : ∀ b' o' q, H b' o' = .mine q → q ≠ i → moveH H b lo hi' σ.length b' o' = .mine q := fun b' o' q hq hne => by
      unfold moveH
      split
      · rename_i hh; obtain ⟨rfl, h1, h2⟩ := hh; rw [(r1 o' h1 h2).2.1] at hq; cases hq; exact absurd rfl hne
      · exact hq
    have hpm : ∀ b' o' v, H b' o' = .pers v → moveH H b lo hi' σ.length b' o' = .pers v := fun b' o' v h => hmv.pers.1 h
    have hev : Ev H β σ (moveH H b lo hi' σ.length) (β ++ [m.val]) (σ.set i (.mp k e (es.set j (z.1, z.2.1, false))) ++ [.row e z.2.1.length]) := (Ev.mpSet hi).trans (Ev.app (by simp [hr.len]) hpm)
    obtain ⟨q1, q2, q3⟩ := hr.mpTo g5 g6 (ms' := ms) hmv hev (by simp [hr.len]) fun q kk bv hkk hbv => by
      rcases Nat.lt_or_ge q σ.length with hq | hq
      · rw [List.getElem?_append_left (by simpa using hq)] at hkk
        rw [List.getElem?_append_left (by rw [hr.len]; exact hq)] at hbv
        by_cases hqi : i = q
        · subst hqi
          rw [List.getElem?_set_self hil] at hkk; cases hkk
          rw [g4] at hbv; cases hbv
          have tell : ∀ (j' : Nat) (x : Ent), (es.set j (z.1, z.2.1, false))[j']? = some x → (j' = j ∧ x = (z.1, z.2.1, false)) ∨ (j' ≠ j ∧ es[j']? = some x) := fun j' x hx => by
            by_cases hjj : j = j'
            · subst hjj; rw [List.getElem?_set_self (by omega)] at hx; cases hx; exact .inl ⟨rfl, rfl⟩
            · rw [List.getElem?_set_ne hjj] at hx; exact .inr ⟨fun e => hjj e.symm, hx⟩
          refine .inl ⟨r, ms, rfl, mset_self g5, fun o => ?_, by simp [g7], fun j' m' x hm hx => ?_, fun j1 j2 m1 m2 x1 x2 hne hm hx hm' hx' ho ho' => ?_⟩
          · unfold moveH
            split
            · rename_i hh; obtain ⟨rfl, h1, h2⟩ := hh
              obtain ⟨⟨u0, hu0⟩, _⟩ := r1 o h1 h2
              rw [cell_map g5] at hu0; cases hu0
            · exact g6 o
          · rcases tell j' x hx with ⟨rfl, rfl⟩ | ⟨hne, hx⟩
            · rw [h2] at hm; cases hm
              obtain ⟨kc, k1, k2⟩ := p2
              exact ⟨p1, ⟨kc, k1, k2.mono hpm⟩, fun t ht => (p3 t ht).mono hpm, fun h => by cases h⟩
            · obtain ⟨f1, ⟨kc, f2, f3⟩, f4, f5⟩ := g8 j' m' x hm hx
              refine ⟨f1, ⟨kc, f2, f3.mono hpm⟩, fun t ht => (f4 t ht).mono hpm, fun ho => ?_⟩
              obtain ⟨b2, lo2, hi2, s1, s2, s3⟩ := (f5 ho).range
              refine s2 _ _ _ fun o h1 h2' => ⟨by rw [mset_cell g5]; exact (s1 o h1 h2').1, ?_, by rw [mset_frozen g5]; exact (s1 o h1 h2').2.2⟩
              unfold moveH
              split
              · rename_i hh
                exact absurd ⟨(s3 b2 o).2 ⟨rfl, h1, h2'⟩, (r3 b2 o).2 hh⟩ (g9 j' j m' m x z hne hm hx h2 h3 ho (hown z (List.mem_of_getElem? h3)) b2 o)
              · exact (s1 o h1 h2').2.1
          · rcases tell j1 x1 hx with ⟨_, rfl⟩ | ⟨_, hx⟩
            · cases ho
            · rcases tell j2 x2 hx' with ⟨_, rfl⟩ | ⟨_, hx'⟩
              · cases ho'
              · exact g9 j1 j2 m1 m2 x1 x2 hne hm hx hm' hx' ho ho'
        · rw [List.getElem?_set_ne hqi] at hkk
          exact .inr ⟨hkk, hbv, fun e => hqi e.symm, fun b' o' h => hmine b' o' q h fun e => hqi e.symm⟩
      · rw [List.getElem?_append_right (by simpa using hq)] at hkk
        rw [List.getElem?_append_right (by rw [hr.len]; exact hq)] at hbv
        have h0 : q - σ.length = 0 := by have := (List.getElem?_eq_some_iff.1 hkk).1; simp at this; omega
        simp only [List.length_set, hr.len, h0] at hkk hbv
        simp at hkk hbv; subst hkk; subst hbv
        have hqe : q = σ.length := by omega
        subst hqe
        refine .inl (r2 _ _ _ fun o h1 h2' => ⟨by rw [mset_cell g5]; exact (r1 o h1 h2').1, ?_, by rw [mset_frozen g5]; exact (r1 o h1 h2').2.2⟩)
        unfold moveH; rw [if_pos ⟨rfl, h1, h2'⟩]
    refine hK _ _ _ _ _ _ ⟨rfl, rfl⟩ q1 (.tup rfl fun j' v d hv hd => ?_) q2 hev (q3 ts fun b' o' q hq h => hmine b' o' q h fun e => hq (e ▸ hts))
    match j' with
    | 0 =>
      cases hd; simp at hv; subst hv
      exact .t (cs := [m.val]) (by simp [VC, hag]) (.lsl hue ((p3 u hue).mono hpm) ⟨z.2.1.length, by simp, Nat.le_refl _, fun _ => by simp [← hr.len]⟩)
    | 1 => cases hd; simp at hv; subst hv; exact .mkInt hit (range64 (by omega))
    | j + 2 => simp at hd
end
end Go.Den
/- Maps of lists: an entry put back. -/
namespace Go.Den
open Go
set_option linter.unusedSectionVars false
set_option linter.unusedSimpArgs false
set_option linter.unusedVariables false

theorem findIdx_born {ms : List MapEntry} (h : ∀ (j : Nat) (m : MapEntry), ms[j]? = some m → m.born = j) {j : Nat} (hj : j < ms.length) : ms.toArray.findIdx? (fun e => (e.born : Int) == (j : Int)) = some j := by
  rw [List.findIdx?_toArray, List.findIdx?_eq_some_iff_getElem]
  refine ⟨hj, ?_, fun q hq => ?_⟩
  · have := h j _ (List.getElem?_eq_getElem hj); simp [this]
  · have := h q _ (List.getElem?_eq_getElem (by omega)); simp [this]; omega

/-- A slice that is the newest of a row that is put away: the row goes on without room. -/
theorem Ev.rowOff {H : Gh} {β : List Value} {σ : List Blk} {i : Nat} {u : TypeId} {n : Nat} (hi : σ[i]? = some (.row u n)) (hl : β.length = σ.length) (v : Value) : Ev H β σ H (β.set i v) (σ.set i (.row u (n + 1))) := by
  have hil : i < σ.length := (List.getElem?_eq_some_iff.1 hi).1
  refine ⟨fun _ _ _ e => e, fun j ty z hj => ?_, fun j ety m hj => ?_, fun j s p hj => ?_, fun j ety oo zs hj => ?_, fun j k9 e9 zs hj => ?_⟩
  · have hne : i ≠ j := fun e => by subst e; rw [hi] at hj; cases hj
    exact ⟨List.getElem?_set_ne hne, z, by rw [List.getElem?_set_ne hne]; exact hj⟩
  · by_cases hji : i = j
    · subst hji; rw [hi] at hj; cases hj; exact ⟨n + 1, by simp [hil], by omega, fun e => by omega⟩
    · exact ⟨m, by rw [List.getElem?_set_ne hji]; exact hj, Nat.le_refl _, fun _ => List.getElem?_set_ne hji⟩
  · have hne : i ≠ j := fun e => by subst e; rw [hi] at hj; cases hj
    exact ⟨List.getElem?_set_ne hne, s, p, by rw [List.getElem?_set_ne hne]; exact hj⟩
  · have hne : i ≠ j := fun e => by subst e; rw [hi] at hj; cases hj
    exact ⟨oo, zs, by rw [List.getElem?_set_ne hne]; exact hj, Nat.le_refl _, fun _ => List.getElem?_set_ne hne⟩
  · have hne : i ≠ j := fun e => by subst e; rw [hi] at hj; cases hj
    exact ⟨List.getElem?_set_ne hne, zs, by rw [List.getElem?_set_ne hne]; exact hj⟩

section
variable {C : Cx} (hC : Ok C) {o : Oper} {env : Env} {σ : List Blk} {ts : List Nat}
include hC

theorem OpF_entryStore {x st vx : Operand} {t tx k e u tu : TypeId} {i b : Nat} {es : List Ent} {j : Nat} {xs : List E} {n : Nat} (ho : o.op = .entryStore t x st vx) (ht : td C.tb t = .mp k u) (hue : td C.tb u = .sl e)
    (hx : opd C.tb env t x = some (.t tx (.mp i))) (hs : same C.tb tx t = true) (hi : σ[i]? = some (.mp k e es)) (hj : opdN env st = some (j : Int)) (hjl : j < es.length)
    (hv : opd C.tb env u vx = some (.t tu (.lsl b xs))) (hsu : same C.tb tu u = true) (hb : σ[b]? = some (.row e n)) (hn : n = xs.length) (hts : i ∈ ts) (htb : b ∈ ts) :
    OpF C o env σ ts (fun d s => d = .any ∧ s = (σ.set i (.mp k e (es.set j (((es[j]?).map (·.1)).getD .nilp, xs, true)))).set b (.row e (n + 1))) := by
  intro H β a w hr he hd K Qx hK
  obtain ⟨u', r, ms, g1, g2, g3, g4, g5, g6, g7, g8, g9⟩ := mp_inv hr (opd_rel he hx) hi
  rw [same_td hs, ht] at g1; cases g1
  have hil : i < σ.length := (List.getElem?_eq_some_iff.1 hi).1
  have hbl : b < σ.length := (List.getElem?_eq_some_iff.1 hb).1
  have hne : i ≠ b := fun e => by subst e; rw [hi] at hb; cases hb
  obtain ⟨kst, hst⟩ := opdN_rel he hj
  have hag : isAggT C.tb u = false := by simp [isAggT, hue]
  -- the value
  have hval : β[b]? = some (a.eval vx) ∧ Rd C.tb H u [a.eval vx] (.sl xs) := by
    have hd := opd_rel he hv
    generalize a.eval vx = v at hd ⊢
    cases hd with
    | @t ty v cs z aa bb => cases bb with
      | lsl b1 b2 b3 =>
        have a' := aa
        simp [VC, isAggT, b1] at a'
        subst a'
        obtain ⟨n', k1, k2, k3⟩ := b3
        have k1' : σ[b]? = some (.row e n) := hb
        rw [k1'] at k1; cases k1
        exact ⟨k3 hn, b2.cast hC.tab (same_td hsu)⟩
  obtain ⟨hβb, hrdv⟩ := hval
  have hrow : RowR C.tb H w b (a.eval vx) e n := hr.blk b _ _ hb hβb
  obtain ⟨bb, lo, hi', r1, r2, r3⟩ := hrow.range
  have hjm : j < ms.length := by omega
  obtain ⟨m, hm⟩ : ∃ m, ms[j]? = some m := ⟨_, List.getElem?_eq_getElem hjm⟩
  obtain ⟨z, hz⟩ : ∃ z, es[j]? = some z := ⟨_, List.getElem?_eq_getElem hjl⟩
  obtain ⟨p1, p2, p3, p4⟩ := g8 j m z hm hz
  have hfi := findIdx_born (ms := ms) (fun q m' hm' => by
    have hq : q < es.length := by rw [← g7]; exact (List.getElem?_eq_some_iff.1 hm').1
    exact (g8 q m' _ hm' (List.getElem?_eq_getElem hq)).1) hjm
  have hmod : ms.toArray.modify j (fun e => { e with val := a.eval vx }) = (ms.set j { m with val := a.eval vx }).toArray := by
    apply Array.ext'
    rw [Array.toList_modify]
    show ms.modify j _ = ms.set j _
    apply List.ext_getElem?
    intro q
    rw [List.getElem?_modify]
    by_cases h : j = q
    · subst h
      have hmj : ms[j]'hjm = m := by rw [List.getElem?_eq_getElem hjm] at hm; exact Option.some.inj hm
      simp [hjm, hmj]
    · simp [h]
  have hml : (ms.set j { m with val := a.eval vx }).length = ms.length := by simp
  have hex : (execOp a.eval o).run C.P w = .ok .skip (mset w r (ms.set j { m with val := a.eval vx })) := by
    simp only [execOp, ho, Instr.entryStore, g3, Sem.run_bind, Go.MapKept.run_getObj_map g5, Result.andThen_ok, hst, asInt, asIntOf, Sem.run_pure, hfi, hmod, Go.MapKept.run_setObj_map _ g5, mset, hml]
  simp only [Oper.wp, hex, Oper.upon]
  have hmv : Mv H (moveH H bb lo hi' i) := .of_move fun o h1 h2 => (r1 o h1 h2).2.1
  have hmine : ∀ b' o' q, H b' o' = .mine q → q ≠ b → moveH H bb lo hi' i b' o' = .mine q := fun b' o' q hq hne => by
    unfold moveH
    split
    · rename_i hh; obtain ⟨rfl, h1, h2⟩ := hh; rw [(r1 o' h1 h2).2.1] at hq; cases hq; exact absurd rfl hne
    · exact hq
  have hpm : ∀ b' o' v, H b' o' = .pers v → moveH H bb lo hi' i b' o' = .pers v := fun b' o' v h => hmv.pers.1 h
  have hevz : Ev H β σ (moveH H bb lo hi' i) (β.set b (.slice (some ⟨0, 0, none⟩) (n + 1) (n + 1))) ((σ.set i (.mp k e (es.set j (z.1, xs, true)))).set b (.row e (n + 1))) :=
    ((Ev.mpSet hi).trans (Ev.rowOff (by rw [List.getElem?_set_ne hne]; exact hb) (by simp [hr.len]) _)).trans (.ghost hpm)
  have hzj : ((es[j]?).map (·.1)).getD .nilp = z.1 := by simp [hz]
  rw [hzj] at hK
  obtain ⟨q1, q2, q3⟩ := hr.mpTo g5 g6 (ms' := ms.set j { m with val := a.eval vx }) hmv hevz (by simp [hr.len]) fun q kk bv hkk hbv => by
    by_cases hqb : b = q
    · subst hqb
      rw [List.getElem?_set_self (by simpa using hbl)] at hkk; cases hkk
      rw [List.getElem?_set_self (by rw [hr.len]; exact hbl)] at hbv; cases hbv
      exact .inl (.inr ⟨0, 0, n + 1, rfl, Nat.le_refl _, fun q h1 h2 => by omega⟩)
    rw [List.getElem?_set_ne hqb] at hkk hbv
    by_cases hqi : i = q
    · subst hqi
      rw [List.getElem?_set_self hil] at hkk; cases hkk
      rw [g4] at hbv; cases hbv
      have tell : ∀ (j' : Nat) (m' : MapEntry) (x : Ent), (ms.set j { m with val := a.eval vx })[j']? = some m' → (es.set j (z.1, xs, true))[j']? = some x → (j' = j ∧ m' = { m with val := a.eval vx } ∧ x = (z.1, xs, true)) ∨ (j' ≠ j ∧ ms[j']? = some m' ∧ es[j']? = some x) := fun j' m' x hm' hx => by
        by_cases hjj : j = j'
        · subst hjj; rw [List.getElem?_set_self hjl] at hx; rw [List.getElem?_set_self hjm] at hm'; cases hx; cases hm'; exact .inl ⟨rfl, rfl, rfl⟩
        · rw [List.getElem?_set_ne hjj] at hx hm'; exact .inr ⟨fun e => hjj e.symm, hm', hx⟩
      refine .inl ⟨r, _, rfl, mset_self g5, fun o => hmine _ _ _ (g6 o) hne, by simp [g7], fun j' m' x hm' hx => ?_, fun j1 j2 m1 m2 x1 x2 hne' hm1 hx1 hm2 hx2 ho1 ho2 b' o' => ?_⟩
      · rcases tell j' m' x hm' hx with ⟨rfl, rfl, rfl⟩ | ⟨hjj, hm', hx⟩
        · obtain ⟨kc, k1, k2⟩ := p2
          refine ⟨p1, ⟨kc, k1, k2.mono hpm⟩, fun t ht => (hrdv.cast hC.tab (by rw [ht, hue])).mono hpm, fun _ => ?_⟩
          subst hn
          refine r2 _ _ _ fun o h1 h2 => ⟨by rw [mset_cell g5]; exact (r1 o h1 h2).1, ?_, by rw [mset_frozen g5]; exact (r1 o h1 h2).2.2⟩
          unfold moveH; rw [if_pos ⟨rfl, h1, h2⟩]
        · obtain ⟨f1, ⟨kc, f2, f3⟩, f4, f5⟩ := g8 j' m' x hm' hx
          refine ⟨f1, ⟨kc, f2, f3.mono hpm⟩, fun t ht => (f4 t ht).mono hpm, fun ho => ?_⟩
          obtain ⟨b2, lo2, hi2, s1, s2, s3⟩ := (f5 ho).range
          exact s2 _ _ _ fun o h1 h2' => ⟨by rw [mset_cell g5]; exact (s1 o h1 h2').1, hmine _ _ _ (s1 o h1 h2').2.1 hne, by rw [mset_frozen g5]; exact (s1 o h1 h2').2.2⟩
      · have clash : ∀ (j' : Nat) (m' : MapEntry) (x : Ent), ms[j']? = some m' → es[j']? = some x → x.2.2 = true → ¬ (Spare C.tb e (a.eval vx) xs.length b' o' ∧ Spare C.tb e m'.val x.2.1.length b' o') := fun j' m' x hm' hx ho ⟨h1, h2⟩ => by
          rw [← hn] at h1
          obtain ⟨rfl, h3, h4⟩ := (r3 b' o').1 h1
          obtain ⟨b2, lo2, hi2, s1, s2, s3⟩ := ((g8 j' m' x hm' hx).2.2.2 ho).range
          obtain ⟨rfl, h5, h6⟩ := (s3 b' o').1 h2
          have e1 := (r1 o' h3 h4).2.1
          have e2 := (s1 o' h5 h6).2.1
          rw [e1] at e2; cases e2; exact hne rfl
        rcases tell j1 m1 x1 hm1 hx1 with ⟨rfl, rfl, rfl⟩ | ⟨a1, hn1, hy1⟩
        · rcases tell j2 m2 x2 hm2 hx2 with ⟨rfl, _, _⟩ | ⟨a2, hn2, hy2⟩
          · exact absurd rfl hne'
          · exact clash j2 m2 x2 hn2 hy2 ho2
        · rcases tell j2 m2 x2 hm2 hx2 with ⟨rfl, rfl, rfl⟩ | ⟨a2, hn2, hy2⟩
          · exact fun ⟨h1, h2⟩ => clash j1 m1 x1 hn1 hy1 ho1 ⟨h2, h1⟩
          · exact g9 j1 j2 m1 m2 x1 x2 hne' hn1 hy1 hn2 hy2 ho1 ho2 b' o'
    · rw [List.getElem?_set_ne hqi] at hkk
      exact .inr ⟨hkk, hbv, fun e => hqi e.symm, fun b' o' h => hmine b' o' q h fun e => hqb e.symm⟩
  exact hK _ _ _ _ _ _ ⟨rfl, rfl⟩ q1 .any q2 hevz (q3 ts fun b' o' q hq h => hmine b' o' q h fun e => hq (e ▸ htb))
end
end Go.Den
/- Maps of lists: steps in a drawing region. -/
namespace Go.Den
open Go
set_option linter.unusedSectionVars false
set_option linter.unusedSimpArgs false
set_option linter.unusedVariables false
section
variable {C : Cx} {o : Oper} {env : Env} {σ : List Blk} {ts : List Nat} {Q : Post}

theorem VX_lookupO (hC : Ok C) {k : List It} {full : List Oper} {q : Nat} {ord : List (Nat × Bool)} {x ix : Operand} {t tx kt e u : TypeId} {i : Nat} {es : List Ent} {dy : D} {y : E} {xs : List E} {q0 : Nat}
    (hi : full[q]? = some o) (hw : wants full env o = some true) (hn : dstOk C.n o.dst = true) (ho : o.op = .lookup t x ix false) (ht : td C.tb t = .mp kt u) (hue : td C.tb u = .sl e) (hkt : keyTy C.P C.tb kt = true) (hzn : zeroNil C.P u = true)
    (hx : opd C.tb env t x = some (.t tx (.mp i))) (hs : same C.tb tx t = true) (hσ : σ[i]? = some (.mp kt e es)) (hy : opd C.tb env kt ix = some dy) (hy2 : asT C.tb kt dy = some (.e y)) (hd : o.dst = some q0) (hg : mpGet es y = xs)
    (hk : VX C Q (.o full ts ord :: k) .nrm ((q0, .t u (.e (.sl xs))) :: env) σ) (hal : aloneB full ((q, false) :: ord) = true := by kernel_rfl) : VX C Q (.o full ts ((q, false) :: ord) :: k) .nrm env σ :=
  VX_opO hi hw hn (OpF_lookup hC ho ht hue hkt hzn hx hs hσ hy hy2) (fun d s ⟨a1, a2⟩ => by subst a1; subst a2; subst hg; rw [hd]; exact hk) hal

theorem VX_mapEntryO (hC : Ok C) {k : List It} {full : List Oper} {q : Nat} {ord : List (Nat × Bool)} {x ix : Operand} {t tx kt e u : TypeId} (it : TypeId) {i : Nat} {es es' : List Ent} {dy : D} {y : E} {xs : List E} {q0 j : Nat} {σ' : List Blk} (n : Nat)
    (hi : full[q]? = some o) (hw : wants full env o = some true) (hn : dstOk C.n o.dst = true) (ho : o.op = .mapEntry t x ix) (ht : td C.tb t = .mp kt u) (hue : td C.tb u = .sl e) (hkt : keyTy C.P C.tb kt = true) (hzn : zeroNil C.P u = true) (hit : td C.tb it = .int .i64)
    (hx : opd C.tb env t x = some (.t tx (.mp i))) (hs : same C.tb tx t = true) (hσ : σ[i]? = some (.mp kt e es)) (hy : opd C.tb env kt ix = some dy) (hy2 : asT C.tb kt dy = some (.e y)) (hd : o.dst = some q0)
    (hown : ∀ x ∈ es, x.2.2 = true) (hlen : es.length ≤ maxN) (hts : i ∈ ts) (hl : Nat.beq σ.length n = true) (hg : mpGet es y = xs) (hj : mpSlot es y = j) (hes : mpOut es y = es') (hσ' : normBs (σ.set i (.mp kt e es') ++ [.row e xs.length]) some = some σ')
    (hk : VX C Q (.o full ts ord :: k) .nrm ((q0, .tup [.t u (.lsl n xs), .t it (.e (.int j))]) :: env) σ') (hal : aloneB full ((q, false) :: ord) = true := by kernel_rfl) : VX C Q (.o full ts ((q, false) :: ord) :: k) .nrm env σ := by
  rw [normBs_eq] at hσ'; cases hσ'
  have := Nat.eq_of_beq_eq_true hl
  subst this; subst hg; subst hj; subst hes
  exact VX_opO hi hw hn (OpF_mapEntry hC (it := it) ho ht hue hkt hzn hit hx hs hσ hy hy2 hown hlen hts) (fun d s ⟨a1, a2⟩ => by subst a1; subst a2; rw [hd]; exact hk) hal

theorem VX_entryStoreO (hC : Ok C) {k : List It} {full : List Oper} {q : Nat} {ord : List (Nat × Bool)} {x st vx : Operand} {t tx kt e u tu : TypeId} {i b j n : Nat} {es es' : List Ent} {xs : List E} {σ' : List Blk}
    (hi : full[q]? = some o) (hw : wants full env o = some true) (hn : dstOk C.n o.dst = true) (ho : o.op = .entryStore t x st vx) (ht : td C.tb t = .mp kt u) (hue : td C.tb u = .sl e)
    (hx : opd C.tb env t x = some (.t tx (.mp i))) (hs : same C.tb tx t = true) (hσ : σ[i]? = some (.mp kt e es)) (hj : opdN env st = some (j : Int)) (hjl : j < es.length)
    (hv : opd C.tb env u vx = some (.t tu (.lsl b xs))) (hsu : same C.tb tu u = true) (hb : σ[b]? = some (.row e n)) (hne : n = xs.length) (hts : i ∈ ts) (htb : b ∈ ts)
    (hes : es.set j (((es[j]?).map (·.1)).getD .nilp, xs, true) = es') (hσ' : normBs ((σ.set i (.mp kt e es')).set b (.row e (n + 1))) some = some σ')
    (hk : VX C Q (.o full ts ord :: k) .nrm (putD env o.dst .any) σ') (hal : aloneB full ((q, false) :: ord) = true := by kernel_rfl) : VX C Q (.o full ts ((q, false) :: ord) :: k) .nrm env σ := by
  rw [normBs_eq] at hσ'; cases hσ'
  subst hes
  exact VX_opO hi hw hn (OpF_entryStore hC ho ht hue hx hs hσ hj hjl hv hsu hb hne hts htb) (fun d s ⟨a1, a2⟩ => by subst a1; subst a2; exact hk) hal
end
end Go.Den
