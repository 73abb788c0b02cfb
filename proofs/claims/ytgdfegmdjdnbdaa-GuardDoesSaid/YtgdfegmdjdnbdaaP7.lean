/- The calculus and the walks, part 7: Q34U, Q34C, Q34D, Q34E, Q34G. -/
import Derived.Test.YtgdfegmdjdnbdaaP6
import Derived.Test.YtgdfegmdjdnbdaaP5
/- Contracts of another seat, turned to this seat's numbers (port2.py). -/
namespace Go.Den.Q34
open Go Go.Den Go.Proofs
set_option maxRecDepth 8000
set_option linter.unusedVariables false
set_option linter.unusedSimpArgs false
def bt (s : List UInt8) (i : Nat) : Nat := (s.getD i 0).toNat
def inB (s : List UInt8) (i lo hi : Nat) : Bool := decide (i < s.length) && (decide (lo ≤ bt s i) && decide (bt s i ≤ hi))
def moreB (c : Nat) : Nat := if 194 ≤ c ∧ c ≤ 223 then 1 else if 224 ≤ c ∧ c ≤ 239 then 2 else if 240 ≤ c ∧ c ≤ 244 then 3 else 0
def loB (c : Nat) : Nat := if c = 224 then 160 else if c = 240 then 144 else 128
def hiB (c : Nat) : Nat := if c = 237 then 159 else if c = 244 then 143 else 191
def strayB (s : List UInt8) (p c : Nat) : Bool :=
  decide (moreB c = 0) || !inB s (p + 1) (loB c) (hiB c) || (decide (1 < moreB c) && !inB s (p + 2) 128 191) || (decide (2 < moreB c) && !inB s (p + 3) 128 191)
def baseB (c m : Nat) : Nat := if m = 3 then c % 8 else if m = 2 then c % 16 else c % 32
def accB (s : List UInt8) (p v : Nat) : Nat → Nat
  | 0 => v
  | n + 1 => accB s p v n * 64 + bt s (p + (n + 1)) % 64
def oneB (s : List UInt8) (p : Nat) : Nat × Nat :=
  let c := bt s p
  if c < 128 then (c, 1) else if strayB s p c = true then (c + 2000000, 1) else (accB s p (baseB c (moreB c)) (moreB c), moreB c + 1)
theorem bt_lt (s : List UInt8) (i : Nat) : bt s i < 256 := (s.getD i 0).toNat_lt
theorem get_bt (s : List UInt8) (i : Nat) : ((⟨⟨s⟩⟩ : ByteArray).get! i).toNat = bt s i := by
  unfold bt
  simp only [ByteArray.get!, List.getD]
  simp [Array.getElem!_eq_getD, Array.getD_eq_getD_getElem?]
  rfl
theorem valid_iff (c : Nat) : Utf8.valid (c : Int) = true ↔ (c < 55296 ∨ (57344 ≤ c ∧ c ≤ 1114111)) := by
  unfold Utf8.valid
  rw [Bool.or_eq_true, Bool.and_eq_true, Bool.and_eq_true, decide_eq_true_eq, decide_eq_true_eq, decide_eq_true_eq, decide_eq_true_eq]
  omega
set_option maxHeartbeats 4000000 in
theorem one_rune (s : List UInt8) (p : Nat) : (runeAt s p = oneB s p ∧ (oneB s p).1 ≤ 1114111) ∨ (runeAt s p = (65533, 1) ∧ (oneB s p).2 = 1 ∧ 2000000 ≤ (oneB s p).1) := by
  have hsz : (⟨⟨s⟩⟩ : ByteArray).size = s.length := rfl
  unfold runeAt Utf8.decode oneB strayB inB
  simp only [get_bt, hsz, Nat.add_zero]
  have h0 := bt_lt s p
  have h1 := bt_lt s (p + 1)
  have h2 := bt_lt s (p + 2)
  have h3 := bt_lt s (p + 3)
  have a1 : ∀ v, accB s p v 1 = v * 64 + bt s (p + 1) % 64 := fun _ => rfl
  have a2 : ∀ v, accB s p v 2 = (v * 64 + bt s (p + 1) % 64) * 64 + bt s (p + 2) % 64 := fun _ => rfl
  have a3 : ∀ v, accB s p v 3 = ((v * 64 + bt s (p + 1) % 64) * 64 + bt s (p + 2) % 64) * 64 + bt s (p + 3) % 64 := fun _ => rfl
  generalize bt s p = b0 at *
  generalize bt s (p + 1) = b1 at *
  generalize bt s (p + 2) = b2 at *
  generalize bt s (p + 3) = b3 at *
  generalize s.length = n at *
  by_cases c0 : b0 < 128
  · rw [if_pos c0, if_pos c0]; exact .inl ⟨rfl, by simp; omega⟩
  rw [if_neg c0, if_neg c0]
  by_cases m1 : 194 ≤ b0 ∧ b0 ≤ 223
  · have hm : moreB b0 = 1 := by unfold moreB; rw [if_pos m1]
    have hlo : loB b0 = 128 := by unfold loB; rw [if_neg (by omega), if_neg (by omega)]
    have hhi : hiB b0 = 191 := by unfold hiB; rw [if_neg (by omega), if_neg (by omega)]
    have hb : baseB b0 1 = b0 % 32 := rfl
    rw [hm, hlo, hhi, hb, a1]
    simp only [Bool.and_eq_true, Bool.or_eq_true, Bool.not_eq_true', Bool.and_eq_false_iff, decide_eq_true_eq, decide_eq_false_iff_not, beq_iff_eq, valid_iff, Utf8.runeError]
    repeat' split
    all_goals first
      | (exfalso; omega)
      | (refine .inr ⟨rfl, rfl, ?_⟩; (show 2000000 ≤ _; first | omega | (simp only; done) | (simp only; omega)))
      | (refine .inl ⟨Prod.ext ?_ ?_, ?_⟩ <;> (first | rfl | omega | (simp only; done) | (simp only; omega)))
  by_cases m2 : 224 ≤ b0 ∧ b0 ≤ 239
  · have hm : moreB b0 = 2 := by unfold moreB; rw [if_neg (by omega), if_pos m2]
    have hb : baseB b0 2 = b0 % 16 := rfl
    rw [hm, hb, a2]
    by_cases k1 : b0 = 224
    · have hlo : loB b0 = 160 := by unfold loB; rw [if_pos k1]
      have hhi : hiB b0 = 191 := by unfold hiB; rw [if_neg (by omega), if_neg (by omega)]
      rw [hlo, hhi]
      simp only [Bool.and_eq_true, Bool.or_eq_true, Bool.not_eq_true', Bool.and_eq_false_iff, decide_eq_true_eq, decide_eq_false_iff_not, beq_iff_eq, valid_iff, Utf8.runeError]
      repeat' split
      all_goals first
        | (exfalso; omega)
        | (refine .inr ⟨rfl, rfl, ?_⟩; (show 2000000 ≤ _; first | omega | (simp only; done) | (simp only; omega)))
        | (refine .inl ⟨Prod.ext ?_ ?_, ?_⟩ <;> (first | rfl | omega | (simp only; done) | (simp only; omega)))
    have hlo : loB b0 = 128 := by unfold loB; rw [if_neg (by omega), if_neg (by omega)]
    by_cases k2 : b0 = 237
    · have hhi : hiB b0 = 159 := by unfold hiB; rw [if_pos k2]
      rw [hlo, hhi]
      simp only [Bool.and_eq_true, Bool.or_eq_true, Bool.not_eq_true', Bool.and_eq_false_iff, decide_eq_true_eq, decide_eq_false_iff_not, beq_iff_eq, valid_iff, Utf8.runeError]
      repeat' split
      all_goals first
        | (exfalso; omega)
        | (refine .inr ⟨rfl, rfl, ?_⟩; (show 2000000 ≤ _; first | omega | (simp only; done) | (simp only; omega)))
        | (refine .inl ⟨Prod.ext ?_ ?_, ?_⟩ <;> (first | rfl | omega | (simp only; done) | (simp only; omega)))
    have hhi : hiB b0 = 191 := by unfold hiB; rw [if_neg (by omega), if_neg (by omega)]
    rw [hlo, hhi]
    simp only [Bool.and_eq_true, Bool.or_eq_true, Bool.not_eq_true', Bool.and_eq_false_iff, decide_eq_true_eq, decide_eq_false_iff_not, beq_iff_eq, valid_iff, Utf8.runeError]
    repeat' split
    all_goals first
      | (exfalso; omega)
      | (refine .inr ⟨rfl, rfl, ?_⟩; (show 2000000 ≤ _; first | omega | (simp only; done) | (simp only; omega)))
      | (refine .inl ⟨Prod.ext ?_ ?_, ?_⟩ <;> (first | rfl | omega | (simp only; done) | (simp only; omega)))
  by_cases m3 : 240 ≤ b0 ∧ b0 ≤ 244
  · have hm : moreB b0 = 3 := by unfold moreB; rw [if_neg (by omega), if_neg (by omega), if_pos m3]
    have hb : baseB b0 3 = b0 % 8 := rfl
    rw [hm, hb, a3]
    by_cases k1 : b0 = 240
    · have hlo : loB b0 = 144 := by unfold loB; rw [if_neg (by omega), if_pos k1]
      have hhi : hiB b0 = 191 := by unfold hiB; rw [if_neg (by omega), if_neg (by omega)]
      rw [hlo, hhi]
      simp only [Bool.and_eq_true, Bool.or_eq_true, Bool.not_eq_true', Bool.and_eq_false_iff, decide_eq_true_eq, decide_eq_false_iff_not, beq_iff_eq, valid_iff, Utf8.runeError]
      repeat' split
      all_goals first
        | (exfalso; omega)
        | (refine .inr ⟨rfl, rfl, ?_⟩; (show 2000000 ≤ _; first | omega | (simp only; done) | (simp only; omega)))
        | (refine .inl ⟨Prod.ext ?_ ?_, ?_⟩ <;> (first | rfl | omega | (simp only; done) | (simp only; omega)))
    have hlo : loB b0 = 128 := by unfold loB; rw [if_neg (by omega), if_neg (by omega)]
    by_cases k2 : b0 = 244
    · have hhi : hiB b0 = 143 := by unfold hiB; rw [if_neg (by omega), if_pos k2]
      rw [hlo, hhi]
      simp only [Bool.and_eq_true, Bool.or_eq_true, Bool.not_eq_true', Bool.and_eq_false_iff, decide_eq_true_eq, decide_eq_false_iff_not, beq_iff_eq, valid_iff, Utf8.runeError]
      repeat' split
      all_goals first
        | (exfalso; omega)
        | (refine .inr ⟨rfl, rfl, ?_⟩; (show 2000000 ≤ _; first | omega | (simp only; done) | (simp only; omega)))
        | (refine .inl ⟨Prod.ext ?_ ?_, ?_⟩ <;> (first | rfl | omega | (simp only; done) | (simp only; omega)))
    have hhi : hiB b0 = 191 := by unfold hiB; rw [if_neg (by omega), if_neg (by omega)]
    rw [hlo, hhi]
    simp only [Bool.and_eq_true, Bool.or_eq_true, Bool.not_eq_true', Bool.and_eq_false_iff, decide_eq_true_eq, decide_eq_false_iff_not, beq_iff_eq, valid_iff, Utf8.runeError]
    repeat' split
    all_goals first
      | (exfalso; omega)
      | (refine .inr ⟨rfl, rfl, ?_⟩; (show 2000000 ≤ _; first | omega | (simp only; done) | (simp only; omega)))
      | (refine .inl ⟨Prod.ext ?_ ?_, ?_⟩ <;> (first | rfl | omega | (simp only; done) | (simp only; omega)))
  · have hm : moreB b0 = 0 := by unfold moreB; rw [if_neg (by omega), if_neg (by omega), if_neg (by omega)]
    rw [hm]
    simp only [decide_true, Bool.true_or, if_true]
    refine .inr ⟨?_, trivial, Nat.le_add_left _ _⟩
    simp only [Bool.and_eq_true, Bool.or_eq_true, decide_eq_true_eq, beq_iff_eq, valid_iff, Utf8.runeError]
    repeat' split
    all_goals first
      | rfl
      | (exfalso; omega)
end Go.Den.Q34
namespace Go.Den.Q34
open Go Go.Den Go.Proofs
set_option maxRecDepth 8000
set_option linter.unusedVariables false
set_option linter.unusedSimpArgs false
def stripB : List It → List It
  | .b _ :: k => stripB k
  | k => k
theorem VX_viaB {C : Cx} {env : Env} {σ : List Blk} {Q : Post} {k k' : List It} (env' : Env) (σ' : List Blk) (hj : unf 40 (stripB (behind 60 k)) = k') (rest : VX C Q k' .nrm env' σ') (h : VX C Q k' .nrm env' σ' → VX C Q k .nrm env σ) : VX C Q k .nrm env σ := h rest
theorem rsmall_ok (c : Nat) : FnOk Try.prog tb 37 [3] [4] [.int c] [.bool (smallR c)] := by
  refine FnOk_of_V (fn := Try.f37) (bt := 4) (ok 0 _) Try.func37 rfl rfl rfl (by decide) fun hw => ?_
  clear hw
  apply V_of_VX
  refine VX_go4 (fs := []) (ok 0 _) eqs trivial 100 [] rfl trivial ?_
  by_cases h1 : 97 ≤ c
  · refine VX_known 5 true rfl rfl (by simp; omega) ?_
    refine VX_go4 (fs := []) (ok 0 _) eqs trivial 100 [] rfl trivial ?_
    by_cases h2 : c ≤ 122
    · refine VX_known 9 true rfl rfl (by simp; omega) ?_
      refine VX_go4 (fs := []) (ok 0 _) eqs trivial 100 [] rfl trivial ?_
      have : smallR c = true := by simp [smallR, h1, h2]
      rw [this]
      exact ⟨.inr rfl, rfl⟩
    · refine VX_known 9 false rfl rfl (by simp; omega) ?_
      refine VX_go4 (fs := []) (ok 0 _) eqs trivial 100 [] rfl trivial ?_
      by_cases h3 : 945 ≤ c
      · refine VX_known 12 true rfl rfl (by simp; omega) ?_
        refine VX_go4 (fs := []) (ok 0 _) eqs trivial 100 [] rfl trivial ?_
        have : smallR c = decide ((c : Int) ≤ 969) := by simp [smallR, h1, h2, h3]; omega
        rw [this]
        exact ⟨.inr rfl, rfl⟩
      · refine VX_known 12 false rfl rfl (by simp; omega) ?_
        refine VX_go4 (fs := []) (ok 0 _) eqs trivial 100 [] rfl trivial ?_
        have : smallR c = false := by simp [smallR, h2, h3]
        rw [this]
        exact ⟨.inr rfl, rfl⟩
  · refine VX_known 5 false rfl rfl (by simp; omega) ?_
    refine VX_go4 (fs := []) (ok 0 _) eqs trivial 100 [] rfl trivial ?_
    refine VX_known 12 false rfl rfl (by simp; omega) ?_
    refine VX_go4 (fs := []) (ok 0 _) eqs trivial 100 [] rfl trivial ?_
    have : smallR c = false := by simp [smallR, h1]; omega
    rw [this]
    exact ⟨.inr rfl, rfl⟩
theorem within_ok (s : List UInt8) (i lo hi : Nat) : FnOk Try.prog tb 40 [9, 3, 5, 5] [4] [.str s, .int i, .int lo, .int hi] [.bool (inB s i lo hi)] := by
  refine FnOk_of_V (fn := Try.f40) (bt := 4) (ok 0 _) Try.func40 rfl rfl rfl (by decide) fun hw => ?_
  clear hw
  apply V_of_VX
  refine VX_go4 (fs := []) (ok 0 _) eqs trivial 100 [] rfl trivial ?_
  unfold inB
  by_cases h1 : i < s.length
  · rw [decide_eq_true h1, Bool.true_and]
    refine VX_known 13 true rfl rfl (by simp; omega) ?_
    refine VX_go4 (fs := []) (ok 0 _) eqs trivial 100 [] rfl (by simp [allP]; omega) ?_
    by_cases h2 : lo ≤ bt s i
    · rw [decide_eq_true h2, Bool.true_and]
      refine VX_known 20 true rfl rfl (by show decide ((lo : Int) ≤ (bt s i : Int)) = true; simp; omega) ?_
      refine VX_go4 (fs := []) (ok 0 _) eqs trivial 100 [] rfl (by simp [allP]; omega) ?_
      have : decide (bt s i ≤ hi) = decide ((bt s i : Int) ≤ (hi : Int)) := by rw [decide_eq_decide]; omega
      rw [this]
      exact ⟨.inr rfl, rfl⟩
    · rw [decide_eq_false h2, Bool.false_and]
      refine VX_known 20 false rfl rfl (by show decide ((lo : Int) ≤ (bt s i : Int)) = false; simp; omega) ?_
      refine VX_go4 (fs := []) (ok 0 _) eqs trivial 100 [] rfl trivial ?_
      exact ⟨.inr rfl, rfl⟩
  · rw [decide_eq_false h1, Bool.false_and]
    refine VX_known 13 false rfl rfl (by simp; omega) ?_
    refine VX_go4 (fs := []) (ok 0 _) eqs trivial 100 [] rfl trivial ?_
    exact ⟨.inr rfl, rfl⟩
theorem inB_lt {s : List UInt8} {i lo hi : Nat} (h : inB s i lo hi = true) : i < s.length := by
  simp only [inB, Bool.and_eq_true, decide_eq_true_eq] at h; exact h.1
theorem accB_lt (s : List UInt8) (p v : Nat) (hv : v < 32) (k : Nat) (hk : k ≤ 3) : accB s p v k < 32 * 262144 := by
  have h1 : accB s p v 1 = v * 64 + bt s (p + 1) % 64 := rfl
  have h2 : accB s p v 2 = (v * 64 + bt s (p + 1) % 64) * 64 + bt s (p + 2) % 64 := rfl
  have h3 : accB s p v 3 = ((v * 64 + bt s (p + 1) % 64) * 64 + bt s (p + 2) % 64) * 64 + bt s (p + 3) % 64 := rfl
  have h0 : accB s p v 0 = v := rfl
  have : k = 0 ∨ k = 1 ∨ k = 2 ∨ k = 3 := by omega
  rcases this with rfl | rfl | rfl | rfl
  · rw [h0]; omega
  · rw [h1]; omega
  · rw [h2]; omega
  · rw [h3]; omega
set_option maxHeartbeats 3200000 in
theorem one_ok (s : List UInt8) (p : Nat) (hp : p < s.length) (hl : s.length ≤ 1000000) : FnOk Try.prog tb 39 [9, 3] [3, 3] [.str s, .int p] [.int (oneB s p).1, .int (oneB s p).2] := by
  refine FnOk_of_V (fn := Try.f39) (bt := 4) (ok 0 _) Try.func39 rfl rfl rfl (by decide) fun hw => ?_
  clear hw
  have hcl := bt_lt s p
  apply V_of_VX
  refine VX_go4 (fs := []) (ok 0 _) eqs trivial 100 [6] rfl (by simp [allP]; omega) ?_
  refine VX_eq 14 rfl rfl (d' := .t 5 (.e (.int (bt s p)))) rfl ?_
  unfold oneB
  simp only
  generalize hc : bt s p = c at hcl ⊢
  refine VX_go4 (fs := []) (ok 0 _) eqs trivial 100 [] rfl trivial ?_
  have ec : IntKind.wrap .i64 (c : Int) = (c : Int) := w64 (by omega) (by omega)
  by_cases c0 : c < 128
  · rw [if_pos c0]
    refine VX_known 15 true rfl rfl (by simp; omega) ?_
    refine VX_go4 (fs := []) (ok 0 _) eqs trivial 100 [4] rfl trivial ?_
    refine VX_eq 19 rfl rfl (d' := .t 3 (.e (.int c))) (congrArg (fun x => D.t 3 (.e (.int x))) ec) ?_
    refine VX_go4 (fs := []) (ok 0 _) eqs trivial 100 [] rfl trivial ?_
    exact ⟨.inr rfl, rfl⟩
  rw [if_neg c0]
  refine VX_viaB [(6, .t 5 (.e (.int c))), (7, .t 3 (.e (.int (moreB c)))), (8, .t 5 (.e (.int (loB c)))), (9, .t 5 (.e (.int (hiB c)))), (0, .t 9 (.e (.str s))), (1, .t 3 (.e (.int p)))] [] rfl ?_ (fun hr => ?_)
  rotate_left
  · refine VX_known 15 false rfl rfl (by simp; omega) ?_
    refine VX_go4 (fs := []) (ok 0 _) eqs trivial 100 [] rfl trivial ?_
    by_cases k1 : 194 ≤ c ∧ c ≤ 223
    · have hm : moreB c = 1 := by unfold moreB; rw [if_pos k1]
      have hlo : loB c = 128 := by unfold loB; rw [if_neg (by omega), if_neg (by omega)]
      have hhi : hiB c = 191 := by unfold hiB; rw [if_neg (by omega), if_neg (by omega)]
      refine VX_known 23 true rfl rfl (by simp; omega) ?_
      refine VX_go4 (fs := []) (ok 0 _) eqs trivial 100 [] rfl trivial ?_
      refine VX_known 20 true rfl rfl (by simp; omega) ?_
      refine VX_go4 (fs := []) (ok 0 _) eqs trivial 100 [49] rfl trivial ?_
      exact VX_weakS rfl (wk1 rfl rfl (by simp) (lc (ls rfl rfl) (lc (li (by rw [hm]; rfl)) (lc (li (by rw [hlo]; rfl)) (lc (li (by rw [hhi]; rfl)) (lc (ls rfl rfl) (lc (ls rfl rfl) lnil))))))) hr
    by_cases k2 : 224 ≤ c ∧ c ≤ 239
    · have hm : moreB c = 2 := by unfold moreB; rw [if_neg (by omega), if_pos k2]
      refine VX_known 23 true rfl rfl (by simp; omega) ?_
      refine VX_go4 (fs := []) (ok 0 _) eqs trivial 100 [] rfl trivial ?_
      refine VX_known 20 false rfl rfl (by simp; omega) ?_
      refine VX_go4 (fs := []) (ok 0 _) eqs trivial 100 [] rfl trivial ?_
      refine VX_known 30 true rfl rfl (by simp; omega) ?_
      refine VX_go4 (fs := []) (ok 0 _) eqs trivial 100 [] rfl trivial ?_
      refine VX_known 27 true rfl rfl (by simp; omega) ?_
      refine VX_go4 (fs := []) (ok 0 _) eqs trivial 100 [] rfl trivial ?_
      by_cases q1 : c = 224
      · have hlo : loB c = 160 := by unfold loB; rw [if_pos q1]
        have hhi : hiB c = 191 := by unfold hiB; rw [if_neg (by omega), if_neg (by omega)]
        refine VX_known 35 true rfl rfl (by simp; omega) ?_
        refine VX_go4 (fs := []) (ok 0 _) eqs trivial 100 [] rfl trivial ?_
        refine VX_known 37 false rfl rfl (by simp; omega) ?_
        refine VX_go4 (fs := []) (ok 0 _) eqs trivial 100 [49] rfl trivial ?_
        exact VX_weakS rfl (wk1 rfl rfl (by simp) (lc (ls rfl rfl) (lc (li (by rw [hm]; rfl)) (lc (li (by rw [hlo]; rfl)) (lc (li (by rw [hhi]; rfl)) (lc (ls rfl rfl) (lc (ls rfl rfl) lnil))))))) hr
      have hlo : loB c = 128 := by unfold loB; rw [if_neg (by omega), if_neg (by omega)]
      refine VX_known 35 false rfl rfl (by simp; omega) ?_
      refine VX_go4 (fs := []) (ok 0 _) eqs trivial 100 [] rfl trivial ?_
      by_cases q2 : c = 237
      · have hhi : hiB c = 159 := by unfold hiB; rw [if_pos q2]
        refine VX_known 37 true rfl rfl (by simp; omega) ?_
        refine VX_go4 (fs := []) (ok 0 _) eqs trivial 100 [49] rfl trivial ?_
        exact VX_weakS rfl (wk1 rfl rfl (by simp) (lc (ls rfl rfl) (lc (li (by rw [hm]; rfl)) (lc (li (by rw [hlo]; rfl)) (lc (li (by rw [hhi]; rfl)) (lc (ls rfl rfl) (lc (ls rfl rfl) lnil))))))) hr
      have hhi : hiB c = 191 := by unfold hiB; rw [if_neg (by omega), if_neg (by omega)]
      refine VX_known 37 false rfl rfl (by simp; omega) ?_
      refine VX_go4 (fs := []) (ok 0 _) eqs trivial 100 [49] rfl trivial ?_
      exact VX_weakS rfl (wk1 rfl rfl (by simp) (lc (ls rfl rfl) (lc (li (by rw [hm]; rfl)) (lc (li (by rw [hlo]; rfl)) (lc (li (by rw [hhi]; rfl)) (lc (ls rfl rfl) (lc (ls rfl rfl) lnil))))))) hr
    by_cases k3 : 240 ≤ c ∧ c ≤ 244
    · have hm : moreB c = 3 := by unfold moreB; rw [if_neg (by omega), if_neg (by omega), if_pos k3]
      refine VX_known 23 true rfl rfl (by simp; omega) ?_
      refine VX_go4 (fs := []) (ok 0 _) eqs trivial 100 [] rfl trivial ?_
      refine VX_known 20 false rfl rfl (by simp; omega) ?_
      refine VX_go4 (fs := []) (ok 0 _) eqs trivial 100 [] rfl trivial ?_
      refine VX_known 30 true rfl rfl (by simp; omega) ?_
      refine VX_go4 (fs := []) (ok 0 _) eqs trivial 100 [] rfl trivial ?_
      refine VX_known 27 false rfl rfl (by simp; omega) ?_
      refine VX_go4 (fs := []) (ok 0 _) eqs trivial 100 [] rfl trivial ?_
      refine VX_known 41 true rfl rfl (by simp; omega) ?_
      refine VX_go4 (fs := []) (ok 0 _) eqs trivial 100 [] rfl trivial ?_
      refine VX_known 38 true rfl rfl (by simp; omega) ?_
      refine VX_go4 (fs := []) (ok 0 _) eqs trivial 100 [] rfl trivial ?_
      by_cases q1 : c = 240
      · have hlo : loB c = 144 := by unfold loB; rw [if_neg (by omega), if_pos q1]
        have hhi : hiB c = 191 := by unfold hiB; rw [if_neg (by omega), if_neg (by omega)]
        refine VX_known 46 true rfl rfl (by simp; omega) ?_
        refine VX_go4 (fs := []) (ok 0 _) eqs trivial 100 [] rfl trivial ?_
        refine VX_known 48 false rfl rfl (by simp; omega) ?_
        refine VX_go4 (fs := []) (ok 0 _) eqs trivial 100 [49] rfl trivial ?_
        exact VX_weakS rfl (wk1 rfl rfl (by simp) (lc (ls rfl rfl) (lc (li (by rw [hm]; rfl)) (lc (li (by rw [hlo]; rfl)) (lc (li (by rw [hhi]; rfl)) (lc (ls rfl rfl) (lc (ls rfl rfl) lnil))))))) hr
      have hlo : loB c = 128 := by unfold loB; rw [if_neg (by omega), if_neg (by omega)]
      refine VX_known 46 false rfl rfl (by simp; omega) ?_
      refine VX_go4 (fs := []) (ok 0 _) eqs trivial 100 [] rfl trivial ?_
      by_cases q2 : c = 244
      · have hhi : hiB c = 143 := by unfold hiB; rw [if_neg (by omega), if_pos q2]
        refine VX_known 48 true rfl rfl (by simp; omega) ?_
        refine VX_go4 (fs := []) (ok 0 _) eqs trivial 100 [49] rfl trivial ?_
        exact VX_weakS rfl (wk1 rfl rfl (by simp) (lc (ls rfl rfl) (lc (li (by rw [hm]; rfl)) (lc (li (by rw [hlo]; rfl)) (lc (li (by rw [hhi]; rfl)) (lc (ls rfl rfl) (lc (ls rfl rfl) lnil))))))) hr
      have hhi : hiB c = 191 := by unfold hiB; rw [if_neg (by omega), if_neg (by omega)]
      refine VX_known 48 false rfl rfl (by simp; omega) ?_
      refine VX_go4 (fs := []) (ok 0 _) eqs trivial 100 [49] rfl trivial ?_
      exact VX_weakS rfl (wk1 rfl rfl (by simp) (lc (ls rfl rfl) (lc (li (by rw [hm]; rfl)) (lc (li (by rw [hlo]; rfl)) (lc (li (by rw [hhi]; rfl)) (lc (ls rfl rfl) (lc (ls rfl rfl) lnil))))))) hr
    have hm : moreB c = 0 := by unfold moreB; rw [if_neg (by omega), if_neg (by omega), if_neg (by omega)]
    have hlo : loB c = 128 := by unfold loB; rw [if_neg (by omega), if_neg (by omega)]
    have hhi : hiB c = 191 := by unfold hiB; rw [if_neg (by omega), if_neg (by omega)]
    by_cases q1 : c ≤ 193
    · refine VX_known 23 false rfl rfl (by simp; omega) ?_
      refine VX_go4 (fs := []) (ok 0 _) eqs trivial 100 [] rfl trivial ?_
      refine VX_known 30 false rfl rfl (by simp; omega) ?_
      refine VX_go4 (fs := []) (ok 0 _) eqs trivial 100 [] rfl trivial ?_
      refine VX_known 41 false rfl rfl (by simp; omega) ?_
      refine VX_go4 (fs := []) (ok 0 _) eqs trivial 100 [49] rfl trivial ?_
      exact VX_weakS rfl (wk1 rfl rfl (by simp) (lc (ls rfl rfl) (lc (li (by rw [hm]; rfl)) (lc (li (by rw [hlo]; rfl)) (lc (li (by rw [hhi]; rfl)) (lc (ls rfl rfl) (lc (ls rfl rfl) lnil))))))) hr
    · refine VX_known 23 true rfl rfl (by simp; omega) ?_
      refine VX_go4 (fs := []) (ok 0 _) eqs trivial 100 [] rfl trivial ?_
      refine VX_known 20 false rfl rfl (by simp; omega) ?_
      refine VX_go4 (fs := []) (ok 0 _) eqs trivial 100 [] rfl trivial ?_
      refine VX_known 30 true rfl rfl (by simp; omega) ?_
      refine VX_go4 (fs := []) (ok 0 _) eqs trivial 100 [] rfl trivial ?_
      refine VX_known 27 false rfl rfl (by simp; omega) ?_
      refine VX_go4 (fs := []) (ok 0 _) eqs trivial 100 [] rfl trivial ?_
      refine VX_known 41 true rfl rfl (by simp; omega) ?_
      refine VX_go4 (fs := []) (ok 0 _) eqs trivial 100 [] rfl trivial ?_
      refine VX_known 38 false rfl rfl (by simp; omega) ?_
      refine VX_go4 (fs := []) (ok 0 _) eqs trivial 100 [49] rfl trivial ?_
      exact VX_weakS rfl (wk1 rfl rfl (by simp) (lc (ls rfl rfl) (lc (li (by rw [hm]; rfl)) (lc (li (by rw [hlo]; rfl)) (lc (li (by rw [hhi]; rfl)) (lc (ls rfl rfl) (lc (ls rfl rfl) lnil))))))) hr
  have hm3 : moreB c ≤ 3 := by unfold moreB; split <;> (try split) <;> (try split) <;> omega
  have w1 := (within_ok s (p + 1) (loB c) (hiB c)).g
  have w2 := (within_ok s (p + 2) 128 191).g
  have w3 := (within_ok s (p + 3) 128 191).g
  have e1 : IntKind.wrap .i64 ((p : Int) + 1) = ((p + 1 : Nat) : Int) := by rw [w64 (by omega) (by omega)]; rfl
  have e2 : IntKind.wrap .i64 ((p : Int) + 2) = ((p + 2 : Nat) : Int) := by rw [w64 (by omega) (by omega)]; rfl
  have e3 : IntKind.wrap .i64 ((p : Int) + 3) = ((p + 3 : Nat) : Int) := by rw [w64 (by omega) (by omega)]; rfl
  have eS : IntKind.wrap .i64 ((c : Int) + 2000000) = ((c + 2000000 : Nat) : Int) := by rw [w64 (by omega) (by omega)]; rfl
  unfold strayB
  generalize loB c = lo at w1 ⊢
  generalize hiB c = hi at w1 ⊢
  have n1 := @inB_lt s (p + 1) lo hi
  have n2 := @inB_lt s (p + 2) 128 191
  have n3 := @inB_lt s (p + 3) 128 191
  generalize inB s (p + 1) lo hi = t1 at w1 n1 ⊢
  generalize inB s (p + 2) 128 191 = t2 at w2 n2 ⊢
  generalize inB s (p + 3) 128 191 = t3 at w3 n3 ⊢
  generalize moreB c = m at hm3 ⊢
  generalize hst : (decide (m = 0) || !t1 || decide (1 < m) && !t2 || decide (2 < m) && !t3) = st
  refine VX_go4 (fs := []) (ok 0 _) eqs trivial 100 [] rfl trivial ?_
  by_cases z0 : m = 0
  · have : st = true := by rw [← hst]; simp [z0]
    subst this
    rw [if_pos rfl]
    refine VX_known 51 true rfl rfl (by simp; omega) ?_
    refine VX_go4 (fs := []) (ok 0 _) eqs trivial 100 [84] rfl trivial ?_
    refine VX_eq 83 rfl rfl (d' := .t 3 (.e (.int _))) (congrArg (fun x => D.t 3 (.e (.int x))) ec) ?_
    refine VX_go4 (fs := []) (ok 0 _) eqs trivial 100 [4] rfl trivial ?_
    refine VX_eq 84 rfl rfl (d' := .t 3 (.e (.int _))) (congrArg (fun x => D.t 3 (.e (.int x))) eS) ?_
    refine VX_go4 (fs := []) (ok 0 _) eqs trivial 100 [] rfl trivial ?_
    exact ⟨.inr rfl, rfl⟩
  refine VX_known 51 false rfl rfl (by simp; omega) ?_
  refine VX_go4 (fs := []) (ok 0 _) eqs trivial 100 [55] rfl trivial ?_
  refine VX_eq 54 rfl rfl (d' := .t 3 (.e (.int (p + 1 : Nat)))) (congrArg (fun x => D.t 3 (.e (.int x))) e1) ?_
  refine VX_go4 (fs := []) (ok 0 _) eqs trivial 100 [] rfl trivial ?_
  refine VX_callD (ok 0 _) [9, 3, 5, 5] [] rfl rfl rfl rfl rfl rfl w1 rfl rfl rfl ?_
  refine VX_go4 (fs := []) (ok 0 _) eqs trivial 100 [] rfl trivial ?_
  cases t1 with
  | false =>
    have : st = true := by rw [← hst]; simp
    subst this
    rw [if_pos rfl]
    refine VX_known 60 true rfl rfl rfl ?_
    refine VX_go4 (fs := []) (ok 0 _) eqs trivial 100 [84] rfl trivial ?_
    refine VX_eq 83 rfl rfl (d' := .t 3 (.e (.int _))) (congrArg (fun x => D.t 3 (.e (.int x))) ec) ?_
    refine VX_go4 (fs := []) (ok 0 _) eqs trivial 100 [4] rfl trivial ?_
    refine VX_eq 84 rfl rfl (d' := .t 3 (.e (.int _))) (congrArg (fun x => D.t 3 (.e (.int x))) eS) ?_
    refine VX_go4 (fs := []) (ok 0 _) eqs trivial 100 [] rfl trivial ?_
    exact ⟨.inr rfl, rfl⟩
  | true =>
  refine VX_known 60 false rfl rfl rfl ?_
  refine VX_go4 (fs := []) (ok 0 _) eqs trivial 100 [] rfl trivial ?_
  cases st with
  | true =>
    rw [if_pos rfl]
    have z1 : 1 < m := by
      have : ¬ m ≤ 1 := fun h => by
        rw [decide_eq_false z0, decide_eq_false (show ¬ 1 < m by omega), decide_eq_false (show ¬ 2 < m by omega)] at hst
        simp at hst
      omega
    refine VX_known 63 true rfl rfl (by simp; omega) ?_
    refine VX_go4 (fs := []) (ok 0 _) eqs trivial 100 [67] rfl trivial ?_
    refine VX_eq 66 rfl rfl (d' := .t 3 (.e (.int (p + 2 : Nat)))) (congrArg (fun x => D.t 3 (.e (.int x))) e2) ?_
    refine VX_callD (ok 0 _) [9, 3, 5, 5] [] rfl rfl rfl rfl rfl rfl w2 rfl rfl rfl ?_
    refine VX_go4 (fs := []) (ok 0 _) eqs trivial 100 [] rfl trivial ?_
    cases t2 with
    | false =>
      refine VX_known 71 true rfl rfl rfl ?_
      refine VX_go4 (fs := []) (ok 0 _) eqs trivial 100 [84] rfl trivial ?_
      refine VX_eq 83 rfl rfl (d' := .t 3 (.e (.int _))) (congrArg (fun x => D.t 3 (.e (.int x))) ec) ?_
      refine VX_go4 (fs := []) (ok 0 _) eqs trivial 100 [4] rfl trivial ?_
      refine VX_eq 84 rfl rfl (d' := .t 3 (.e (.int _))) (congrArg (fun x => D.t 3 (.e (.int x))) eS) ?_
      refine VX_go4 (fs := []) (ok 0 _) eqs trivial 100 [] rfl trivial ?_
      exact ⟨.inr rfl, rfl⟩
    | true =>
    have z2 : 2 < m := by
      have : ¬ m ≤ 2 := fun h => by
        rw [decide_eq_false z0, decide_eq_false (show ¬ 2 < m by omega)] at hst
        simp at hst
      omega
    cases t3 with
    | true => rw [decide_eq_false z0] at hst; simp at hst
    | false =>
    refine VX_known 71 false rfl rfl rfl ?_
    refine VX_go4 (fs := []) (ok 0 _) eqs trivial 100 [] rfl trivial ?_
    refine VX_known 74 true rfl rfl (by simp; omega) ?_
    refine VX_go4 (fs := []) (ok 0 _) eqs trivial 100 [78] rfl trivial ?_
    refine VX_eq 77 rfl rfl (d' := .t 3 (.e (.int (p + 3 : Nat)))) (congrArg (fun x => D.t 3 (.e (.int x))) e3) ?_
    refine VX_callD (ok 0 _) [9, 3, 5, 5] [] rfl rfl rfl rfl rfl rfl w3 rfl rfl rfl ?_
    refine VX_go4 (fs := []) (ok 0 _) eqs trivial 100 [] rfl trivial ?_
    refine VX_known 81 true rfl rfl rfl ?_
    refine VX_go4 (fs := []) (ok 0 _) eqs trivial 100 [84] rfl trivial ?_
    refine VX_eq 83 rfl rfl (d' := .t 3 (.e (.int _))) (congrArg (fun x => D.t 3 (.e (.int x))) ec) ?_
    refine VX_go4 (fs := []) (ok 0 _) eqs trivial 100 [4] rfl trivial ?_
    refine VX_eq 84 rfl rfl (d' := .t 3 (.e (.int _))) (congrArg (fun x => D.t 3 (.e (.int x))) eS) ?_
    refine VX_go4 (fs := []) (ok 0 _) eqs trivial 100 [] rfl trivial ?_
    exact ⟨.inr rfl, rfl⟩
  | false =>
  rw [if_neg (by simp)]
  have y2 : 1 < m → t2 = true := fun h => by
    cases t2 with
    | true => rfl
    | false => rw [decide_eq_true h] at hst; simp at hst
  have y3 : 2 < m → t3 = true := fun h => by
    cases t3 with
    | true => rfl
    | false => rw [decide_eq_true h] at hst; simp at hst
  refine VX_viaB [(6, .t 5 (.e (.int c))), (7, .t 3 (.e (.int m))), (0, .t 9 (.e (.str s))), (1, .t 3 (.e (.int p)))] [] rfl ?_ (fun hr => ?_)
  rotate_left
  · by_cases z1 : 1 < m
    · have := y2 z1; subst this
      refine VX_known 63 true rfl rfl (by simp; omega) ?_
      refine VX_go4 (fs := []) (ok 0 _) eqs trivial 100 [67] rfl trivial ?_
      refine VX_eq 66 rfl rfl (d' := .t 3 (.e (.int (p + 2 : Nat)))) (congrArg (fun x => D.t 3 (.e (.int x))) e2) ?_
      refine VX_callD (ok 0 _) [9, 3, 5, 5] [] rfl rfl rfl rfl rfl rfl w2 rfl rfl rfl ?_
      refine VX_go4 (fs := []) (ok 0 _) eqs trivial 100 [] rfl trivial ?_
      refine VX_known 71 false rfl rfl rfl ?_
      refine VX_go4 (fs := []) (ok 0 _) eqs trivial 100 [] rfl trivial ?_
      by_cases z2 : 2 < m
      · have := y3 z2; subst this
        refine VX_known 74 true rfl rfl (by simp; omega) ?_
        refine VX_go4 (fs := []) (ok 0 _) eqs trivial 100 [78] rfl trivial ?_
        refine VX_eq 77 rfl rfl (d' := .t 3 (.e (.int (p + 3 : Nat)))) (congrArg (fun x => D.t 3 (.e (.int x))) e3) ?_
        refine VX_callD (ok 0 _) [9, 3, 5, 5] [] rfl rfl rfl rfl rfl rfl w3 rfl rfl rfl ?_
        refine VX_go4 (fs := []) (ok 0 _) eqs trivial 100 [] rfl trivial ?_
        refine VX_known 81 false rfl rfl rfl ?_
        refine VX_go4 (fs := []) (ok 0 _) eqs trivial 100 [85] rfl trivial ?_
        exact VX_weakS rfl (wk1 rfl rfl (by simp) (lc (ls rfl rfl) (lc (ls rfl rfl) (lc (ls rfl rfl) (lc (ls rfl rfl) lnil))))) hr
      · refine VX_known 74 false rfl rfl (by simp; omega) ?_
        refine VX_go4 (fs := []) (ok 0 _) eqs trivial 100 [85] rfl trivial ?_
        exact VX_weakS rfl (wk1 rfl rfl (by simp) (lc (ls rfl rfl) (lc (ls rfl rfl) (lc (ls rfl rfl) (lc (ls rfl rfl) lnil))))) hr
    · refine VX_known 63 false rfl rfl (by simp; omega) ?_
      refine VX_go4 (fs := []) (ok 0 _) eqs trivial 100 [] rfl trivial ?_
      refine VX_known 74 false rfl rfl (by simp; omega) ?_
      refine VX_go4 (fs := []) (ok 0 _) eqs trivial 100 [85] rfl trivial ?_
      exact VX_weakS rfl (wk1 rfl rfl (by simp) (lc (ls rfl rfl) (lc (ls rfl rfl) (lc (ls rfl rfl) (lc (ls rfl rfl) lnil))))) hr
  have hpm : p + m < s.length := by
    have q1 := n1 rfl
    by_cases z1 : 1 < m
    · have q2 := n2 (y2 z1)
      by_cases z2 : 2 < m
      · have q3 := n3 (y3 z2); omega
      · omega
    · omega
  clear n1 n2 n3 y2 y3 w1 w2 w3 hst
  refine VX_go4 (fs := []) (ok 0 _) eqs trivial 100 [87] rfl trivial ?_
  refine VX_eq 86 rfl rfl (d' := .t 3 (.e (.int c))) (congrArg (fun x => D.t 3 (.e (.int x))) ec) ?_
  refine VX_go4 (fs := []) (ok 0 _) eqs trivial 100 [] rfl (by simp [allP, arithP]) ?_
  refine VX_viaB [(10, .t 3 (.e (.int (if m = 2 then c % 16 else c % 32 : Nat)))), (6, .t 5 (.e (.int c))), (7, .t 3 (.e (.int m))), (0, .t 9 (.e (.str s))), (1, .t 3 (.e (.int p)))] [] rfl ?_ (fun hr => ?_)
  rotate_left
  · by_cases z1 : m = 2
    · refine VX_known 89 true rfl rfl (by simp; omega) ?_
      refine VX_go4 (fs := []) (ok 0 _) eqs trivial 100 [92] rfl trivial ?_
      refine VX_eq 91 rfl rfl (d' := .t 3 (.e (.int c))) (congrArg (fun x => D.t 3 (.e (.int x))) ec) ?_
      refine VX_go4 (fs := []) (ok 0 _) eqs trivial 100 [93] rfl (by simp [allP, arithP]) ?_
      exact VX_weakS rfl (wk1 rfl rfl (by simp) (lc (li (by rw [if_pos z1]; rfl)) (lc (ls rfl rfl) (lc (ls rfl rfl) (lc (ls rfl rfl) (lc (ls rfl rfl) lnil)))))) hr
    · refine VX_known 89 false rfl rfl (by simp; omega) ?_
      refine VX_go4 (fs := []) (ok 0 _) eqs trivial 100 [93] rfl trivial ?_
      exact VX_weakS rfl (wk1 rfl rfl (by simp) (lc (li (by rw [if_neg z1]; rfl)) (lc (ls rfl rfl) (lc (ls rfl rfl) (lc (ls rfl rfl) (lc (ls rfl rfl) lnil)))))) hr
  refine VX_go4 (fs := []) (ok 0 _) eqs trivial 100 [] rfl trivial ?_
  refine VX_viaB [(10, .t 3 (.e (.int (baseB c m)))), (7, .t 3 (.e (.int m))), (0, .t 9 (.e (.str s))), (1, .t 3 (.e (.int p)))] [] rfl ?_ (fun hr => ?_)
  rotate_left
  · by_cases z1 : m = 3
    · refine VX_known 94 true rfl rfl (by simp; omega) ?_
      refine VX_go4 (fs := []) (ok 0 _) eqs trivial 100 [97] rfl trivial ?_
      refine VX_eq 96 rfl rfl (d' := .t 3 (.e (.int c))) (congrArg (fun x => D.t 3 (.e (.int x))) ec) ?_
      refine VX_go4 (fs := []) (ok 0 _) eqs trivial 100 [11] rfl (by simp [allP, arithP]) ?_
      exact VX_weakS rfl (wk1 rfl rfl (by simp) (lc (li (by unfold baseB; rw [if_pos z1]; rfl)) (lc (ls rfl rfl) (lc (ls rfl rfl) (lc (ls rfl rfl) lnil))))) hr
    · refine VX_known 94 false rfl rfl (by simp; omega) ?_
      refine VX_go4 (fs := []) (ok 0 _) eqs trivial 100 [11] rfl trivial ?_
      exact VX_weakS rfl (wk1 rfl rfl (by simp) (lc (li (by unfold baseB; rw [if_neg z1])) (lc (ls rfl rfl) (lc (ls rfl rfl) (lc (ls rfl rfl) lnil))))) hr
  have hb : baseB c m < 32 := by unfold baseB; split <;> (try split) <;> omega
  generalize baseB c m = v at hb ⊢
  refine VX_go4 (fs := []) (ok 0 _) eqs trivial 100 [] rfl trivial ?_
  refine VX_loopA (fun k : Nat => k ≤ m) (fun k => [(11, .t 3 (.e (.int (k + 1 : Nat)))), (10, .t 3 (.e (.int (accB s p v k)))), (7, .t 3 (.e (.int m))), (0, .t 9 (.e (.str s))), (1, .t 3 (.e (.int p)))])
    (fun k => []) (fun k => m - k) 0 (by omega) ?_ ?_
  · exact wk1 rfl rfl (by simp) (lc (ls rfl rfl) (lc (ls rfl rfl) (lc (ls rfl rfl) (lc (ls rfl rfl) (lc (ls rfl rfl) lnil)))))
  · intro k hk
    have hacc := accB_lt s p v hb k (by omega)
    refine VX_go4 (fs := []) (ok 0 _) eqs trivial 100 [] rfl trivial ?_
    by_cases hkm : k + 1 ≤ m
    · refine VX_known 100 true rfl rfl (by simp; omega) ?_
      have hn : accB s p v (k + 1) = accB s p v k * 64 + bt s (p + (k + 1)) % 64 := rfl
      have hbl := bt_lt s (p + (k + 1))
      have hacc2 := accB_lt s p v hb (k + 1) (by omega)
      rw [hn] at hacc2
      generalize accB s p v k = q at hacc hn hacc2
      have e104 : IntKind.wrap .i64 ((q : Int) * 64) = ((q * 64 : Nat) : Int) := by rw [w64 (by omega) (by omega)]; rfl
      have e108 : IntKind.wrap .i64 ((p : Int) + ((k + 1 : Nat) : Int)) = ((p + (k + 1) : Nat) : Int) := by rw [w64 (by omega) (by omega)]; rfl
      have e102 : IntKind.wrap .i64 (((k + 1 : Nat) : Int) + 1) = ((k + 1 + 1 : Nat) : Int) := by rw [w64 (by omega) (by omega)]; rfl
      refine VX_go4 (fs := []) (ok 0 _) eqs trivial 100 [109] rfl trivial ?_
      refine VX_eq 104 rfl rfl (d' := .t 3 (.e (.int (q * 64 : Nat)))) (congrArg (fun x => D.t 3 (.e (.int x))) e104) ?_
      refine VX_eq 108 rfl rfl (d' := .t 3 (.e (.int (p + (k + 1) : Nat)))) (congrArg (fun x => D.t 3 (.e (.int x))) e108) ?_
      refine VX_go4 (fs := []) (ok 0 _) eqs trivial 100 [110] rfl (by simp [allP]; omega) ?_
      refine VX_eq 109 rfl rfl (d' := .t 5 (.e (.int (bt s (p + (k + 1)))))) rfl ?_
      generalize bt s (p + (k + 1)) = b at hbl hn hacc2
      have e110 : IntKind.wrap .i64 (b : Int) = (b : Int) := w64 (by omega) (by omega)
      have e112 : IntKind.wrap .i64 (((q * 64 : Nat) : Int) + ((b % 64 : Nat) : Int)) = ((q * 64 + b % 64 : Nat) : Int) := by rw [w64 (by omega) (by omega)]; rfl
      refine VX_go4 (fs := []) (ok 0 _) eqs trivial 100 [111] rfl trivial ?_
      refine VX_eq 110 rfl rfl (d' := .t 3 (.e (.int b))) (congrArg (fun x => D.t 3 (.e (.int x))) e110) ?_
      refine VX_go4 (fs := []) (ok 0 _) eqs trivial 100 [112] rfl (by simp [allP, arithP]) ?_
      refine VX_eq 111 rfl rfl (d' := .t 3 (.e (.int (b % 64 : Nat)))) rfl ?_
      refine VX_go4 (fs := []) (ok 0 _) eqs trivial 100 [10] rfl trivial ?_
      refine VX_eq 112 rfl rfl (d' := .t 3 (.e (.int (q * 64 + b % 64 : Nat)))) (congrArg (fun x => D.t 3 (.e (.int x))) e112) ?_
      refine VX_go4 (fs := []) (ok 0 _) eqs trivial 100 [] rfl trivial ?_
      refine loop_nrm ⟨k + 1, by omega, by omega, ?_⟩
      exact wk1 rfl rfl (by simp) (lc (li (by rw [e102])) (lc (li (by rw [hn])) (lc (ls rfl rfl) (lc (ls rfl rfl) (lc (ls rfl rfl) lnil)))))
    · have hkm' : k = m := by omega
      subst hkm'
      generalize accB s p v k = q at hacc
      have e115 : IntKind.wrap .i64 ((k : Int) + 1) = ((k + 1 : Nat) : Int) := by rw [w64 (by omega) (by omega)]; rfl
      refine VX_known 100 false rfl rfl (by simp; try omega) ?_
      refine VX_go4 (fs := []) (ok 0 _) eqs trivial 100 [] rfl trivial ?_
      apply loop_brk
      refine VX_go4 (fs := []) (ok 0 _) eqs trivial 100 [4] rfl trivial ?_
      refine VX_eq 115 rfl rfl (d' := .t 3 (.e (.int (k + 1 : Nat)))) (congrArg (fun x => D.t 3 (.e (.int x))) e115) ?_
      refine VX_go4 (fs := []) (ok 0 _) eqs trivial 100 [] rfl trivial ?_
      exact ⟨.inr rfl, rfl⟩
end Go.Den.Q34
namespace Go.Den.Q34
open Go Go.Den Go.Proofs
set_option maxRecDepth 8000
set_option linter.unusedVariables false
set_option linter.unusedSimpArgs false
theorem oneB_w (s : List UInt8) (p : Nat) : 1 ≤ (oneB s p).2 ∧ (oneB s p).2 ≤ 4 := by
  rcases one_rune s p with ⟨h, _⟩ | ⟨h, h2, _⟩
  · rw [← h]; exact runeAt_w s p
  · omega
theorem oneB_lt (s : List UInt8) (p : Nat) : (oneB s p).1 < 10000000 := by
  have hc := bt_lt s p
  unfold oneB
  simp only
  split
  · simp only; omega
  · split
    · simp only; omega
    · have hb : baseB (bt s p) (moreB (bt s p)) < 32 := by unfold baseB; split <;> (try split) <;> omega
      have hm3 : moreB (bt s p) ≤ 3 := by unfold moreB; split <;> (try split) <;> (try split) <;> omega
      have := accB_lt s p _ hb _ hm3
      simp only; omega
def numF (s : List UInt8) : Nat → Nat → List Nat
  | 0, _ => []
  | f + 1, pos => if pos < s.length then (oneB s pos).1 :: numF s f (pos + (oneB s pos).2) else []
def numB (s : List UInt8) : List Nat := numF s (s.length + 1) 0
def okL : List Nat → Nat → Bool
  | [], n => decide (0 < n) && decide (n ≤ 12)
  | v :: l, n => if badR v (n + 1) = true then false else okL l (n + 1)
theorem bad_big (v n : Nat) (h : 65533 ≤ v) : badR v n = true := by
  simp [badR, smallR]; omega
theorem name_okL (s : List UInt8) : ∀ (f pos n : Nat), n ≤ s.length → n ≤ pos → s.length < n + f → nameF s f pos n = okL (numF s f pos) n
  | 0, pos, n, h1, h2, h3 => by omega
  | f + 1, pos, n, h1, h2, h3 => by
    unfold nameF numF
    by_cases hp : pos < s.length
    · rw [if_pos hp, if_pos hp]
      have hw := oneB_w s pos
      rcases one_rune s pos with ⟨h1, _⟩ | ⟨h1, h2, h4⟩
      · rw [h1]
        simp only [okL]
        rw [name_okL s f (pos + (oneB s pos).2) (n + 1) (by omega) (by omega) (by omega)]
      · rw [h1]
        simp only [okL]
        rw [if_pos (bad_big _ _ (by omega)), if_pos (bad_big _ _ (by omega))]
    · rw [if_neg hp, if_neg hp]; rfl
theorem name_eq (s : List UInt8) : nameB s = okL (numB s) 0 := name_okL s _ _ _ (by omega) (by omega) (by omega)
theorem numF_len (s : List UInt8) : ∀ (f pos : Nat), pos ≤ s.length + 4 → (numF s f pos).length ≤ s.length + 4 - pos
  | 0, pos, h => by simp [numF]
  | f + 1, pos, h => by
    unfold numF
    have hw := oneB_w s pos
    split
    · have := numF_len s f (pos + (oneB s pos).2) (by omega)
      simp only [List.length_cons]; omega
    · simp
theorem numF_lt (s : List UInt8) : ∀ (f pos : Nat), ∀ v ∈ numF s f pos, v < 10000000
  | 0, pos, v, h => by simp [numF] at h
  | f + 1, pos, v, h => by
    unfold numF at h
    split at h
    · rcases List.mem_cons.1 h with rfl | h
      · exact oneB_lt s pos
      · exact numF_lt s f _ v h
    · simp at h
def nE (n : Nat) : E := .int n
theorem numbers_ok (s : List UInt8) (hs : s.length ≤ 900000) : FnOk Try.prog tb 36 [9] [81] [.str s] [.sl ((numB s).map nE)] := by
  refine FnOk_of_V (fn := Try.f36) (bt := 4) (ok 0 _) Try.func36 rfl rfl rfl (by decide) fun hw => ?_
  clear hw
  apply V_of_VX
  refine VX_go4 (fs := []) (ok 0 _) eqs trivial 100 [] rfl trivial ?_
  refine VX_promote 3 (u := 3) rfl rfl ?_
  refine VX_loopA (fun a : Nat × Nat × List Nat => a.2.2 ++ numF s a.1 a.2.1 = numB s ∧ a.1 + a.2.2.length = s.length + 1 ∧ a.2.2.length ≤ a.2.1 ∧ a.2.2.length ≤ s.length ∧ a.2.1 ≤ s.length + 4)
    (fun a => [(4, .t 3 (.e (.int a.2.1))), (3, .t 81 (.lsl 0 (a.2.2.map nE))), (0, .t 9 (.e (.str s)))]) (fun a => [.row 3 (a.2.2.map nE).length]) (fun a => a.1) (s.length + 1, 0, []) ⟨rfl, by simp, by simp, by simp, by simp⟩ ?_ ?_
  · exact wk1 rfl rfl (by simp [Blk.under, T.under]) (lc (ls rfl rfl) (lc (ls rfl rfl) (lc (ls rfl rfl) lnil)))
  · rintro ⟨f, pos, L⟩ ⟨h1, h2, h3, h4, h5⟩
    simp only at h1 h2 h3 h4 h5
    have hLm : (L.map nE).length = L.length := by simp
    refine VX_go4 (fs := []) (ok 0 _) eqs trivial 100 [] rfl trivial ?_
    by_cases hp : pos < s.length
    · refine VX_known 10 true rfl rfl (by simp; omega) ?_
      obtain ⟨g, rfl⟩ : ∃ g, f = g + 1 := ⟨f - 1, by omega⟩
      have c1 := (one_ok s pos hp (by omega)).g
      have hw := oneB_w s pos
      unfold numF at h1
      rw [if_pos hp] at h1
      generalize (oneB s pos).1 = v at c1 h1
      generalize (oneB s pos).2 = w at c1 h1 hw
      have e23 : IntKind.wrap .i64 ((pos : Int) + (w : Int)) = ((pos + w : Nat) : Int) := by rw [w64 (by omega) (by omega)]; rfl
      have hm : (L ++ [v]).map nE = L.map nE ++ [.int v] := by simp [nE]
      refine VX_go4 (fs := []) (ok 0 _) eqs trivial 100 [] rfl trivial ?_
      refine VX_callD (ok 0 _) [9, 3] [] rfl rfl rfl rfl rfl rfl c1 rfl rfl rfl ?_
      refine VX_go4 (fs := []) (ok 0 _) eqs trivial 100 [4] rfl (by simp [allP, nb, tb, maxL]; omega) ?_
      refine VX_eq 23 rfl rfl (d' := .t 3 (.e (.int (pos + w : Nat)))) (congrArg (fun x => D.t 3 (.e (.int x))) e23) ?_
      refine VX_go4 (fs := []) (ok 0 _) eqs trivial 100 [] rfl trivial ?_
      refine loop_nrm ⟨(g, pos + w, L ++ [v]), by simp, ⟨by rw [← h1]; simp, by simp; omega, by simp; omega, by simp; omega, by simp; omega⟩, ?_⟩
      exact wk1 (by simp only; rw [hm]) rfl (by simp [Blk.under, T.under]) (lc (ls rfl rfl) (lc (ls (by simp only; rw [hm]; rfl) rfl) (lc (ls rfl rfl) lnil)))
    · refine VX_known 10 false rfl rfl (by simp; omega) ?_
      have hn : numF s f pos = [] := by
        cases f with
        | zero => rfl
        | succ g => unfold numF; rw [if_neg hp]
      rw [hn, List.append_nil] at h1
      rw [← h1]
      refine VX_go4 (fs := []) (ok 0 _) eqs trivial 100 [] rfl trivial ?_
      apply loop_brk
      refine VX_go4 (fs := []) (ok 0 _) eqs trivial 100 [] rfl trivial ?_
      exact ⟨.inr rfl, rfl⟩
theorem nums_len (s : List UInt8) : (numB s).length ≤ s.length + 4 := by
  have := numF_len s (s.length + 1) 0 (by omega)
  simpa [numB] using this
theorem n_get {L : List Nat} {i : Nat} (h : i < L.length) : (L.map nE).getD i .nilp = .int (L.getD i 0 : Nat) := by simp [List.getD, h, nE]
set_option maxHeartbeats 1600000 in
theorem rname_ok (s : List UInt8) (hs : s.length ≤ 900000) : FnOk Try.prog tb 28 [9] [4] [.str s] [.bool (nameB s)] := by
  refine FnOk_of_V (fn := Try.f28) (bt := 4) (ok 0 _) Try.func28 rfl rfl rfl (by decide) fun hw => ?_
  clear hw
  have c1 := (numbers_ok s hs).g
  have hl := nums_len s
  rw [name_eq]
  generalize numB s = L at c1 hl ⊢
  have hLm : (L.map nE).length = L.length := by simp
  apply V_of_VX
  refine VX_go4 (fs := []) (ok 0 _) eqs trivial 100 [] rfl trivial ?_
  refine VX_callD (ok 0 _) [9] [] rfl rfl rfl rfl rfl rfl c1 rfl rfl rfl ?_
  refine VX_go4 (fs := []) (ok 0 _) eqs trivial 100 [] rfl trivial ?_
  refine VX_loopA (fun i : Nat => i ≤ L.length ∧ okL (L.drop i) i = okL L 0) (fun i => [(10, .t 3 (.e (.int i))), (9, .t 3 (.e (.int L.length))), (8, .t 81 (.e (.sl (L.map nE)))), (3, .t 81 (.e (.sl (L.map nE))))])
    (fun i => []) (fun i => L.length - i) 0 ⟨by omega, by simp⟩ ?_ ?_
  · exact wk1 rfl rfl (by simp) (lc (ls rfl rfl) (lc (li (by rw [hLm])) (lc (ls rfl rfl) (lc (ls rfl rfl) lnil))))
  · rintro i ⟨hi, hpq⟩
    refine VX_go4 (fs := []) (ok 0 _) eqs trivial 100 [] rfl trivial ?_
    refine VX_split 11 rfl rfl (fun h => ?_) (fun h => ?_)
    · have hi : i < L.length := by simpa using h
      have ei : IntKind.wrap .i64 ((i : Int) + 1) = ((i + 1 : Nat) : Int) := by rw [w64 (by omega) (by omega)]; simp
      have hg := n_get hi
      have hd1 : L.drop i = L.getD i 0 :: L.drop (i + 1) := by rw [List.drop_eq_getElem_cons hi]; simp [List.getD, hi]
      rw [hd1] at hpq
      simp only [okL] at hpq
      generalize L.getD i 0 = v at hg hpq
      have go : badR v (i + 1) = false → okL (L.drop (i + 1)) (i + 1) = okL L 0 := fun hb => by rw [hb] at hpq; simpa using hpq
      have stop : badR v (i + 1) = true → okL L 0 = false := fun hb => by rw [hb] at hpq; simpa using hpq.symm
      have c2 := (rsmall_ok v).g
      refine VX_go4 (fs := []) (ok 0 _) eqs trivial 100 [5] rfl (by simp [allP]; omega) ?_
      refine VX_eq 14 rfl rfl (d' := .t 3 (.e (.int v))) (congrArg (fun x => D.t 3 (.e x)) hg) ?_
      refine VX_go4 (fs := []) (ok 0 _) eqs trivial 100 [] rfl trivial ?_
      refine VX_callD (ok 0 _) [3] [] rfl rfl rfl rfl rfl rfl c2 rfl rfl rfl ?_
      refine VX_go4 (fs := []) (ok 0 _) eqs trivial 100 [] rfl trivial ?_
      cases hsm : smallR v with
      | true =>
        refine VX_known 18 false rfl rfl rfl ?_
        refine VX_go4 (fs := []) (ok 0 _) eqs trivial 100 [] rfl trivial ?_
        refine loop_nrm ⟨i + 1, by omega, ⟨by omega, go (by simp [badR, hsm])⟩, ?_⟩
        exact wk1 rfl rfl (by simp) (lc (li (by rw [ei])) (lc (ls rfl rfl) (lc (ls rfl rfl) (lc (ls rfl rfl) lnil))))
      | false =>
        refine VX_known 18 true rfl rfl rfl ?_
        refine VX_go4 (fs := []) (ok 0 _) eqs trivial 100 [] rfl trivial ?_
        by_cases h0 : i = 0
        · refine VX_known 21 true rfl rfl (by simp; omega) ?_
          rw [stop (by simp [badR, hsm, h0])]
          refine VX_go4 (fs := []) (ok 0 _) eqs trivial 100 [] rfl trivial ?_
          apply loop_ret
          exact ⟨.inr rfl, rfl⟩
        · refine VX_known 21 false rfl rfl (by simp; omega) ?_
          refine VX_go4 (fs := []) (ok 0 _) eqs trivial 100 [] rfl trivial ?_
          by_cases h1 : v < 48
          · refine VX_known 25 true rfl rfl (by simp; omega) ?_
            rw [stop (by simp [badR, hsm, h1])]
            refine VX_go4 (fs := []) (ok 0 _) eqs trivial 100 [] rfl trivial ?_
            apply loop_ret
            exact ⟨.inr rfl, rfl⟩
          · refine VX_known 25 false rfl rfl (by simp; omega) ?_
            refine VX_go4 (fs := []) (ok 0 _) eqs trivial 100 [] rfl trivial ?_
            by_cases h2 : 57 < v
            · refine VX_known 29 true rfl rfl (by simp; omega) ?_
              rw [stop (by simp [badR, hsm, h2])]
              refine VX_go4 (fs := []) (ok 0 _) eqs trivial 100 [] rfl trivial ?_
              apply loop_ret
              exact ⟨.inr rfl, rfl⟩
            · refine VX_known 29 false rfl rfl (by simp; omega) ?_
              refine VX_go4 (fs := []) (ok 0 _) eqs trivial 100 [] rfl trivial ?_
              refine loop_nrm ⟨i + 1, by omega, ⟨by omega, go (by simp [badR, hsm, h1, h2]; omega)⟩, ?_⟩
              exact wk1 rfl rfl (by simp) (lc (li (by rw [ei])) (lc (ls rfl rfl) (lc (ls rfl rfl) (lc (ls rfl rfl) lnil))))
    · have hi' : i = L.length := by simp at h; omega
      subst hi'
      rw [List.drop_length] at hpq
      rw [← hpq]
      simp only [okL]
      refine VX_go4 (fs := []) (ok 0 _) eqs trivial 100 [] rfl trivial ?_
      apply loop_brk
      refine VX_go4 (fs := []) (ok 0 _) eqs trivial 100 [] rfl trivial ?_
      by_cases h0 : 0 < L.length
      · refine VX_known 34 true rfl rfl (by simp; omega) ?_
        rw [decide_eq_true h0, Bool.true_and]
        refine VX_go4 (fs := []) (ok 0 _) eqs trivial 100 [] rfl trivial ?_
        have : decide (L.length ≤ 12) = decide ((((L.map nE).length : Nat) : Int) ≤ 12) := by rw [hLm, decide_eq_decide]; omega
        rw [this]
        exact ⟨.inr rfl, rfl⟩
      · refine VX_known 34 false rfl rfl (by simp; omega) ?_
        rw [decide_eq_false h0, Bool.false_and]
        refine VX_go4 (fs := []) (ok 0 _) eqs trivial 100 [] rfl trivial ?_
        exact ⟨.inr rfl, rfl⟩
end Go.Den.Q34
/- Law 34: what is allowed; rules that are set; what is told of a guard. -/
namespace Go.Den.Q34
open Go Go.Den Go.Proofs
set_option maxRecDepth 8000
set_option linter.unusedVariables false

theorem cloneE_row (q : List E) (hq : q.length ≤ 100000) : FnG Try.prog tb 25 [] [.t 23 (.e (.sl q))] (fun d s => d = .t 23 (.lsl 0 q) ∧ s = [.row 62 q.length]) := by
  refine FnG_of_V (fn := Try.f25) (bt := 4) true [0] [23] (ok 0 _) Try.func25 rfl rfl rfl fun _ _ _ _ _ _ => ?_
  apply V_of_VX
  refine VX_go3 (fs := []) (ok 0 _) eqs trivial 100 [] rfl trivial ?_
  refine VX_op rfl rfl (OpV_nilS (ok 0 _) rfl (.inl rfl) rfl rfl rfl rfl) ?_
  rintro d s ⟨b, hb, rfl, rfl⟩
  refine VX_go3 (fs := []) (ok 0 _) eqs trivial 100 [] rfl trivial ?_
  refine VX_split 4 rfl rfl (fun h => ?_) (fun h => ?_)
  · refine VX_go3 (fs := []) (ok 0 _) eqs trivial 5 [] rfl trivial ?_
    refine VX_promote 2 (u := 62) rfl rfl ?_
    refine VX_go3 (fs := []) (ok 0 _) eqs trivial 100 [] rfl trivial ?_
    refine ⟨.inr rfl, _, _, _, rfl, rfl, rfl, ?_⟩
    rw [hb h]; exact ⟨rfl, rfl⟩
  · refine VX_go3 (fs := []) (ok 0 _) eqs trivial 100 [] rfl ?_ ?_
    · simp [allP, nb, tb, maxL]; omega
    exact ⟨.inr rfl, _, _, _, rfl, rfl, rfl, rfl, rfl⟩
theorem cloneR_row (q : List E) (hq : q.length ≤ 100000) : FnG Try.prog tb 22 [] [.t 22 (.e (.sl q))] (fun d s => d = .t 22 (.lsl 0 q) ∧ s = [.row 47 q.length]) := by
  refine FnG_of_V (fn := Try.f22) (bt := 4) true [0] [22] (ok 0 _) Try.func22 rfl rfl rfl fun _ _ _ _ _ _ => ?_
  apply V_of_VX
  refine VX_go3 (fs := []) (ok 0 _) eqs trivial 100 [] rfl trivial ?_
  refine VX_op rfl rfl (OpV_nilS (ok 0 _) rfl (.inl rfl) rfl rfl rfl rfl) ?_
  rintro d s ⟨b, hb, rfl, rfl⟩
  refine VX_go3 (fs := []) (ok 0 _) eqs trivial 100 [] rfl trivial ?_
  refine VX_split 4 rfl rfl (fun h => ?_) (fun h => ?_)
  · refine VX_go3 (fs := []) (ok 0 _) eqs trivial 5 [] rfl trivial ?_
    refine VX_promote 2 (u := 47) rfl rfl ?_
    refine VX_go3 (fs := []) (ok 0 _) eqs trivial 100 [] rfl trivial ?_
    refine ⟨.inr rfl, _, _, _, rfl, rfl, rfl, ?_⟩
    rw [hb h]; exact ⟨rfl, rfl⟩
  · refine VX_go3 (fs := []) (ok 0 _) eqs trivial 100 [] rfl ?_ ?_
    · simp [allP, nb, tb, maxL]; omega
    exact ⟨.inr rfl, _, _, _, rfl, rfl, rfl, rfl, rfl⟩

/-- What is allowed, by a rule and the sum of what counts. -/
def allowR (es : List En) (r : Rl) (o : Nat) (nm : List UInt8) (n now : Nat) (s : Nat × Int) : List En × Int :=
  if s.2 ≠ 0 then (es, s.2) else if (addB s.1 n).2 ≠ 0 then (es, (addB s.1 n).2) else if r.most < (addB s.1 n).1 then (es, 12) else if 4096 ≤ es.length then (es, 6) else (es ++ [⟨o, nm, now, n⟩], 0)
def allowB (rs : List Rl) (es : List En) (o : Nat) (nm : List UInt8) (n now : Nat) : List En × Int := match ridx o nm rs 0 with
  | .ofNat i => match rs[i]? with
    | some r => allowR es r o nm n now (sumF r now es 0)
    | none => (es, 0)
  | .negSucc _ => (es, 0)

theorem allow_ok (rs : List Rl) (es : List En) (o : Nat) (nm : List UInt8) (n now : Nat) (hrs : ∀ r ∈ rs, r.ok) (hes : ∀ x ∈ es, x.ok) (hn : n < 18446744073709551616) (hnow : now < 18446744073709551616) (hl : es.length ≤ 10000) (hlr : rs.length ≤ 10000) :
    FnOk Try.prog tb 9 [25, 27, 9, 26, 26] [25, 31] [gE rs es, .int o, .str nm, .int n, .int now] [gE rs (allowB rs es o nm n now).1, .int (allowB rs es o nm n now).2] := by
  refine FnOk_of_V (fn := Try.f9) (bt := 4) (ok 0 _) Try.func9 rfl rfl rfl (by decide) fun hw => ?_
  apply V_of_VX
  refine VX_go3 (fs := []) (ok 0 _) eqs trivial 100 [] rfl trivial ?_
  refine VX_callD (ok 0 _) [25, 27, 9] [] rfl rfl rfl rfl rfl rfl (rule_ok rs es o nm (by omega)).g rfl rfl rfl ?_
  refine VX_go3 (fs := []) (ok 0 _) eqs trivial 100 [] rfl trivial ?_
  rcases ridx_cases o nm rs with hx | ⟨j, hj, hx, hh⟩
  · have hk : allowB rs es o nm n now = (es, 0) := by unfold allowB; rw [hx]; rfl
    rw [hx]
    refine VX_known 21 true rfl rfl (by decide) ?_
    refine VX_go3 (fs := []) (ok 0 _) eqs trivial 100 [] rfl trivial ?_
    refine ⟨.inr rfl, ?_⟩
    rw [hk]; rfl
  · have hk : allowB rs es o nm n now = allowR es rs[j] o nm n now (sumF rs[j] now es 0) := by
      unfold allowB; rw [hx]
      show (match rs[j]? with | some r => allowR es r o nm n now (sumF r now es 0) | none => (es, 0)) = _
      rw [List.getElem?_eq_getElem hj]
    rw [hx]
    refine VX_known 21 false rfl rfl (by simp) ?_
    refine VX_go3 (fs := []) (ok 0 _) eqs trivial 100 [] rfl trivial ?_
    refine VX_draw [] [(0, true), (1, true), (2, true), (3, true), (4, true), (5, true), (6, true), (7, false), (8, true), (9, true), (10, true), (11, true), (12, true)] mixed (by kernel_rfl) (by kernel_rfl) (by kernel_rfl) ?_
    refine VX_go3 (fs := []) (ok 0 _) eqs trivial 100 [] rfl ?_ ?_
    · simp [allP]; omega
    refine VX_eq 29 rfl rfl (d' := .t 47 (.e rs[j].e)) (congrArg (fun x => D.t 47 (.e x)) (getD_rl hj)) ?_
    refine VX_callO (ok 0 _) [25, 47, 26] [] rfl rfl rfl rfl rfl rfl rfl rfl (sum_ok rs es rs[j] now hes (hrs _ (List.getElem_mem hj)) hnow (by omega)).g rfl rfl rfl ?_
    have hsl := sumF_lt rs[j] now es 0 (by decide)
    have hk2 : allowB rs es o nm n now = allowR es rs[j] o nm n now ((sumF rs[j] now es 0).1, (sumF rs[j] now es 0).2) := hk
    generalize (sumF rs[j] now es 0).1 = S at hsl hk2 ⊢
    generalize (sumF rs[j] now es 0).2 = F at hk2 ⊢
    refine VX_go3 (fs := []) (ok 0 _) eqs trivial 100 [] rfl trivial ?_
    refine VX_split 35 rfl rfl (fun h => ?_) (fun h => ?_)
    · have hF : F = 0 := by simpa using h
      subst hF
      refine VX_go3 (fs := []) (ok 0 _) eqs trivial 100 [] rfl trivial ?_
      refine VX_callD (ok 0 _) [26, 26] [] rfl rfl rfl rfl rfl rfl (add_ok S n hsl hn).g rfl rfl rfl ?_
      generalize hAd : addB S n = A at hk2 ⊢
      have hk3 : allowB rs es o nm n now = if A.2 ≠ 0 then (es, A.2) else if rs[j].most < A.1 then (es, 12) else if 4096 ≤ es.length then (es, 6) else (es ++ [⟨o, nm, now, n⟩], 0) := by
        rw [hk2]; simp only [allowR, hAd]; rfl
      refine VX_go3 (fs := []) (ok 0 _) eqs trivial 100 [] rfl trivial ?_
      refine VX_split 42 rfl rfl (fun h => ?_) (fun h => ?_)
      · have h : A.2 ≠ 0 := by simpa using h
        refine VX_go3 (fs := []) (ok 0 _) eqs trivial 100 [] rfl trivial ?_
        refine ⟨.inr rfl, ?_⟩
        rw [hk3, if_pos h]; rfl
      · have h : ¬ A.2 ≠ 0 := by simpa using h
        rw [if_neg h] at hk3
        refine VX_go3 (fs := []) (ok 0 _) eqs trivial 100 [55] rfl ?_ ?_
        · simp [allP]; omega
        have hmost : getE [2] ((rs.map Rl.e).getD j .nilp) = .int rs[j].most := by rw [getD_rl hj]; rfl
        refine VX_eq 54 rfl rfl (d' := .t 26 (.e (.int rs[j].most))) (congrArg (fun x => D.t 26 (.e x)) hmost) ?_
        refine VX_go3 (fs := []) (ok 0 _) eqs trivial 100 [] rfl trivial ?_
        refine VX_split 47 rfl rfl (fun h => ?_) (fun h => ?_)
        · have h : rs[j].most < A.1 := by simp at h; omega
          refine VX_go3 (fs := []) (ok 0 _) eqs trivial 100 [] rfl trivial ?_
          refine ⟨.inr rfl, ?_⟩
          rw [hk3, if_pos h]; rfl
        · have h : ¬ rs[j].most < A.1 := by simp at h; omega
          rw [if_neg h] at hk3
          refine VX_go3 (fs := []) (ok 0 _) eqs trivial 100 [] rfl trivial ?_
          refine VX_split 57 rfl rfl (fun h => ?_) (fun h => ?_)
          · have h : 4096 ≤ es.length := by simp at h; omega
            refine VX_go3 (fs := []) (ok 0 _) eqs trivial 100 [] rfl trivial ?_
            refine ⟨.inr rfl, ?_⟩
            rw [hk3, if_pos h]; rfl
          · have h : ¬ 4096 ≤ es.length := by simp at h; omega
            rw [if_neg h] at hk3
            refine VX_go3 (fs := []) (ok 0 _) eqs trivial 100 [] rfl trivial ?_
            refine VX_callD (ok 0 _) [23] [] rfl rfl rfl rfl rfl rfl (cloneE_row (es.map En.e) (by simp; omega)) rfl rfl rfl ?_
            refine VX_go3 (fs := []) (ok 0 _) eqs trivial 100 [] rfl ?_ ?_
            · simp [allP, nb, tb, maxL]; omega
            refine VX_callD (ok 0 _) [22] [] rfl rfl rfl rfl rfl rfl (cloneR_ok (rs.map Rl.e) (by simp; omega)).g rfl rfl rfl ?_
            refine VX_go3 (fs := []) (ok 0 _) eqs trivial 100 [] rfl trivial ?_
            refine ⟨.inr rfl, ?_⟩
            rw [hk3]
            have he : gE rs (es ++ [⟨o, nm, now, n⟩]) = .agg [.sl (rs.map Rl.e), .sl (es.map En.e ++ [.agg [.int o, .str nm, .int now, .int n]])] := by simp [gE, En.e]
            simp only [he]; rfl
    · have hF : F ≠ 0 := by simpa using h
      refine VX_go3 (fs := []) (ok 0 _) eqs trivial 100 [] rfl trivial ?_
      refine VX_known 42 true rfl rfl (by simp [hF]) ?_
      refine VX_go3 (fs := []) (ok 0 _) eqs trivial 100 [] rfl trivial ?_
      refine ⟨.inr rfl, ?_⟩
      rw [hk2]; simp only [allowR, if_pos hF]; rfl

/-- A rule that is new. -/
theorem set_new (rs : List Rl) (es : List En) (r : Rl) (hl : rs.length < 32) (hle : es.length ≤ 10000) (hi : ridx r.o r.nm rs 0 = -1) (hnm : nameB r.nm = true) (hnl : r.nm.length ≤ 1000000) :
    FnOk Try.prog tb 13 [25, 47] [25, 31] [gE rs es, r.e] [gE (rs ++ [r]) es, .int 0] := by
  refine FnOk_of_V (fn := Try.f13) (bt := 4) (ok 0 _) Try.func13 rfl rfl rfl (by decide) fun hw => ?_
  apply V_of_VX
  refine VX_go3 (fs := []) (ok 0 _) eqs trivial 100 [] rfl trivial ?_
  refine VX_callD (ok 0 _) [25, 27, 9] [] rfl rfl rfl rfl rfl rfl (rule_ok rs es r.o r.nm (by omega)).g rfl rfl rfl ?_
  rw [hi]
  refine VX_go3 (fs := []) (ok 0 _) eqs trivial 100 [] rfl trivial ?_
  refine VX_callD (ok 0 _) [9] [] rfl rfl rfl rfl rfl rfl (name_ok r.nm hnl).g rfl rfl rfl ?_
  refine VX_known 17 true rfl rfl hnm ?_
  refine VX_go3 (fs := []) (ok 0 _) eqs trivial 100 [] rfl trivial ?_
  refine VX_known 23 true rfl rfl (by decide) ?_
  refine VX_go3 (fs := []) (ok 0 _) eqs trivial 100 [] rfl trivial ?_
  refine VX_known 20 false rfl rfl (by simp; omega) ?_
  refine VX_go3 (fs := []) (ok 0 _) eqs trivial 100 [] rfl trivial ?_
  refine VX_callD (ok 0 _) [22] [] rfl rfl rfl rfl rfl rfl (cloneR_row (rs.map Rl.e) (by simp; omega)) rfl rfl rfl ?_
  refine VX_go3 (fs := []) (ok 0 _) eqs trivial 100 [] rfl trivial ?_
  refine VX_known 34 false rfl rfl (by decide) ?_
  refine VX_go3 (fs := []) (ok 0 _) eqs trivial 100 [] rfl ?_ ?_
  · simp [allP, nb, tb, maxL]; omega
  refine VX_callD (ok 0 _) [23] [] rfl rfl rfl rfl rfl rfl (cloneE_ok (es.map En.e) (by simp; omega)).g rfl rfl rfl ?_
  refine VX_go3 (fs := []) (ok 0 _) eqs trivial 100 [] rfl trivial ?_
  refine ⟨.inr rfl, ?_⟩
  have he : gE (rs ++ [r]) es = .agg [.sl (rs.map Rl.e ++ [r.e]), .sl (es.map En.e)] := by simp [gE]
  rw [he]; rfl

/-- A guard as the document's: the same data. -/
theorem to_ok (rs : List Rl) (es : List En) (hl : rs.length ≤ 10000) (hle : es.length ≤ 10000) : FnOk Try.prog tb 12 [25] [40] [gE rs es] [gE rs es] := by
  refine FnOk_of_V (fn := Try.f12) (bt := 4) (ok 0 _) Try.func12 rfl rfl rfl (by decide) fun hw => ?_
  apply V_of_VX
  refine VX_go3 (fs := []) (ok 0 _) eqs trivial 100 [] rfl trivial ?_
  refine VX_promT (ok 0 _) rfl 2 [0] rfl rfl rfl rfl rfl ?_
  refine VX_promT (ok 0 _) rfl 2 [1] rfl rfl rfl rfl rfl ?_
  refine VX_loopA (fun i : Nat => i ≤ rs.length) (fun i => [(11, .t 3 (.e (.int i))), (10, .t 3 (.e (.int rs.length))), (9, .t 22 (.e (.sl (rs.map Rl.e)))), (1, .ptr 0 []), (2, .ptr 1 []), (3, .ptr 2 [])])
    (fun i => [.tree 25 (.e (gE rs es)), .tree 40 (.st [.nsl, .nsl]), .tree 40 (.st [.lsl 3 ((rs.take i).map Rl.e), .lsl 4 []]), .row 56 ((rs.take i).map Rl.e).length, .row 70 0]) (fun i => rs.length - i) 0 (by simp) ?_ ?_
  · exact wk1 rfl rfl (by simp [Blk.under, T.under, T.unders]) (lc (ls rfl rfl) (lc (li (by simp)) (lc (ls rfl rfl) (lc (ls rfl rfl) (lc (ls rfl rfl) (lc (ls rfl rfl) lnil))))))
  · intro i hi
    refine VX_go3 (fs := []) (ok 0 _) eqs trivial 100 [] rfl trivial ?_
    refine VX_split 12 rfl rfl (fun h => ?_) (fun h => ?_)
    · have hi : i < rs.length := by simpa using h
      have ei : IntKind.wrap .i64 ((i : Int) + 1) = ((i + 1 : Nat) : Int) := by rw [w64 (by omega) (by omega)]; simp
      have htk : (rs.take (i + 1)).map Rl.e = (rs.take i).map Rl.e ++ [rs[i].e] := by rw [List.take_add_one, List.getElem?_eq_getElem hi, List.map_append]; rfl
      refine VX_go3 (fs := []) (ok 0 _) eqs trivial 100 [5] rfl ?_ ?_
      · simp [allP]; omega
      refine VX_eq 14 rfl rfl (d' := .t 47 (.e rs[i].e)) (congrArg (fun x => D.t 47 (.e x)) (getD_rl hi)) ?_
      refine VX_go3 (fs := []) (ok 0 _) eqs trivial 100 [] rfl ?_ ?_
      · simp [allP, nb, tb, maxL]; omega
      refine loop_nrm ⟨i + 1, by omega, by omega, ?_⟩
      exact wkc [.tree 47 (.e rs[i].e)] (by rw [htk]; rfl) rfl (by simp [Blk.under, T.under, T.unders]) (lc (li (by rw [ei])) (lc (ls rfl rfl) (lc (ls rfl rfl) (lc (ls rfl rfl) (lc (ls rfl rfl) (lc (ls rfl rfl) lnil))))))
    · have hi' : i = rs.length := by simp at h; omega
      subst hi'
      rw [List.take_length]
      refine VX_go3 (fs := []) (ok 0 _) eqs trivial 100 [] rfl trivial ?_
      apply loop_brk
      refine VX_go3 (fs := []) (ok 0 _) eqs trivial 100 [] rfl trivial ?_
      refine VX_loopA (fun i : Nat => i ≤ es.length) (fun i => [(25, .t 3 (.e (.int i))), (24, .t 3 (.e (.int es.length))), (23, .t 23 (.e (.sl (es.map En.e)))), (1, .ptr 0 []), (2, .ptr 1 []), (3, .ptr 2 [])])
        (fun i => [.tree 25 (.e (gE rs es)), .tree 40 (.st [.nsl, .nsl]), .tree 40 (.st [.lsl 3 (rs.map Rl.e), .lsl 4 ((es.take i).map En.e)]), .row 56 (rs.map Rl.e).length, .row 70 ((es.take i).map En.e).length]) (fun i => es.length - i) 0 (by simp) ?_ ?_
      · exact wk1 rfl rfl (by simp [Blk.under, T.under, T.unders]) (lc (ls rfl rfl) (lc (li (by simp)) (lc (ls rfl rfl) (lc (ls rfl rfl) (lc (ls rfl rfl) (lc (ls rfl rfl) lnil))))))
      · intro i hi
        refine VX_go3 (fs := []) (ok 0 _) eqs trivial 100 [] rfl trivial ?_
        refine VX_split 26 rfl rfl (fun h => ?_) (fun h => ?_)
        · have hi : i < es.length := by simpa using h
          have ei : IntKind.wrap .i64 ((i : Int) + 1) = ((i + 1 : Nat) : Int) := by rw [w64 (by omega) (by omega)]; simp
          have htk : (es.take (i + 1)).map En.e = (es.take i).map En.e ++ [es[i].e] := by rw [List.take_add_one, List.getElem?_eq_getElem hi, List.map_append]; rfl
          refine VX_go3 (fs := []) (ok 0 _) eqs trivial 100 [7] rfl ?_ ?_
          · simp [allP]; omega
          refine VX_eq 28 rfl rfl (d' := .t 62 (.e es[i].e)) (congrArg (fun x => D.t 62 (.e x)) (getD_en hi)) ?_
          refine VX_go3 (fs := []) (ok 0 _) eqs trivial 100 [] rfl ?_ ?_
          · simp [allP, nb, tb, maxL]; omega
          refine loop_nrm ⟨i + 1, by omega, by omega, ?_⟩
          exact wkc [.tree 62 (.e es[i].e)] (by rw [htk]; rfl) rfl (by simp [Blk.under, T.under, T.unders]) (lc (li (by rw [ei])) (lc (ls rfl rfl) (lc (ls rfl rfl) (lc (ls rfl rfl) (lc (ls rfl rfl) (lc (ls rfl rfl) lnil))))))
        · have hi' : i = es.length := by simp at h; omega
          subst hi'
          rw [List.take_length]
          refine VX_go3 (fs := []) (ok 0 _) eqs trivial 100 [] rfl trivial ?_
          apply loop_brk
          refine VX_go3 (fs := []) (ok 0 _) eqs trivial 100 [] rfl trivial ?_
          exact ⟨.inr rfl, rfl⟩
end Go.Den.Q34
/- Law 34: a guard that was swept allows what it would have allowed. -/
namespace Go.Den.Q34
open Go Go.Den Go.Proofs
set_option maxRecDepth 8000
set_option linter.unusedVariables false

theorem eq_rl (r : Rl) : eqE r.e r.e = true := by simp [Rl.e, eqE, eqEs]
theorem eq_en (x : En) : eqE x.e x.e = true := by simp [En.e, eqE, eqEs]
theorem same_ok (rs : List Rl) (es : List En) (hl : rs.length ≤ 10000) (hle : es.length ≤ 10000) : FnOk Try.prog tb 11 [40, 40] [4] [gE rs es, gE rs es] [.bool true] := by
  refine FnOk_of_V (fn := Try.f11) (bt := 4) (ok 0 _) Try.func11 rfl rfl rfl (by decide) fun hw => ?_
  apply V_of_VX
  refine VX_go3 (fs := []) (ok 0 _) eqs trivial 100 [] rfl trivial ?_
  refine VX_known 14 false rfl rfl (by simp) ?_
  refine VX_go3 (fs := []) (ok 0 _) eqs trivial 100 [] rfl trivial ?_
  refine VX_known 22 false rfl rfl (by simp) ?_
  refine VX_go3 (fs := []) (ok 0 _) eqs trivial 100 [] rfl trivial ?_
  refine VX_loopA (fun i : Nat => i ≤ rs.length) (fun i => [(26, .t 3 (.e (.int i))), (25, .t 3 (.e (.int rs.length))), (2, .ptr 0 []), (3, .ptr 1 [])]) (fun i => [.tree 40 (.e (gE rs es)), .tree 40 (.e (gE rs es))]) (fun i => rs.length - i) 0 (by simp) ?_ ?_
  · exact wk1 rfl rfl (by simp [Blk.under, T.under]) (lc (ls rfl rfl) (lc (li (by simp)) (lc (ls rfl rfl) (lc (ls rfl rfl) lnil))))
  · intro i hi
    refine VX_go3 (fs := []) (ok 0 _) eqs trivial 100 [] rfl trivial ?_
    refine VX_split 27 rfl rfl (fun h => ?_) (fun h => ?_)
    · have hi : i < rs.length := by simpa using h
      have ei : IntKind.wrap .i64 ((i : Int) + 1) = ((i + 1 : Nat) : Int) := by rw [w64 (by omega) (by omega)]; simp
      refine VX_go3 (fs := []) (ok 0 _) eqs trivial 100 [] rfl trivial ?_
      refine VX_draw [] [(0, true), (1, true), (2, true), (3, true), (4, true), (5, true), (6, true), (7, true), (8, true), (9, true), (10, true)] mixed (by kernel_rfl) (by kernel_rfl) (by kernel_rfl) ?_
      refine VX_go3 (fs := []) (ok 0 _) eqs trivial 100 [39] rfl ?_ ?_
      · simp [allP]; omega
      refine VX_eq 33 rfl rfl (d' := .t 56 (.e rs[i].e)) (congrArg (fun x => D.t 56 (.e x)) (getD_rl hi)) ?_
      refine VX_eq 38 rfl rfl (d' := .t 56 (.e rs[i].e)) (congrArg (fun x => D.t 56 (.e x)) (getD_rl hi)) ?_
      refine VX_go3 (fs := []) (ok 0 _) eqs trivial 100 [] rfl (by simp [allP]) ?_
      refine VX_known 39 false rfl rfl (by simp [eq_rl]) ?_
      refine VX_go3 (fs := []) (ok 0 _) eqs trivial 100 [] rfl trivial ?_
      refine loop_nrm ⟨i + 1, by omega, by omega, ?_⟩
      exact wk1 rfl rfl (by simp [Blk.under, T.under]) (lc (li (by rw [ei])) (lc (ls rfl rfl) (lc (ls rfl rfl) (lc (ls rfl rfl) lnil))))
    · refine VX_go3 (fs := []) (ok 0 _) eqs trivial 100 [] rfl trivial ?_
      apply loop_brk
      refine VX_go3 (fs := []) (ok 0 _) eqs trivial 100 [] rfl trivial ?_
      refine VX_loopA (fun i : Nat => i ≤ es.length) (fun i => [(44, .t 3 (.e (.int i))), (43, .t 3 (.e (.int es.length))), (2, .ptr 0 []), (3, .ptr 1 [])]) (fun i => [.tree 40 (.e (gE rs es)), .tree 40 (.e (gE rs es))]) (fun i => es.length - i) 0 (by simp) ?_ ?_
      · exact wk1 rfl rfl (by simp [Blk.under, T.under]) (lc (ls rfl rfl) (lc (li (by simp)) (lc (ls rfl rfl) (lc (ls rfl rfl) lnil))))
      · intro i hi
        refine VX_go3 (fs := []) (ok 0 _) eqs trivial 100 [] rfl trivial ?_
        refine VX_split 45 rfl rfl (fun h => ?_) (fun h => ?_)
        · have hi : i < es.length := by simpa using h
          have ei : IntKind.wrap .i64 ((i : Int) + 1) = ((i + 1 : Nat) : Int) := by rw [w64 (by omega) (by omega)]; simp
          refine VX_go3 (fs := []) (ok 0 _) eqs trivial 100 [] rfl trivial ?_
          refine VX_draw [] [(0, true), (1, true), (2, true), (3, true), (4, true), (5, true), (6, true), (7, true), (8, true), (9, true), (10, true)] mixed (by kernel_rfl) (by kernel_rfl) (by kernel_rfl) ?_
          refine VX_go3 (fs := []) (ok 0 _) eqs trivial 100 [57] rfl ?_ ?_
          · simp [allP]; omega
          refine VX_eq 51 rfl rfl (d' := .t 70 (.e es[i].e)) (congrArg (fun x => D.t 70 (.e x)) (getD_en hi)) ?_
          refine VX_eq 56 rfl rfl (d' := .t 70 (.e es[i].e)) (congrArg (fun x => D.t 70 (.e x)) (getD_en hi)) ?_
          refine VX_go3 (fs := []) (ok 0 _) eqs trivial 100 [] rfl (by simp [allP]) ?_
          refine VX_known 57 false rfl rfl (by simp [eq_en]) ?_
          refine VX_go3 (fs := []) (ok 0 _) eqs trivial 100 [] rfl trivial ?_
          refine loop_nrm ⟨i + 1, by omega, by omega, ?_⟩
          exact wk1 rfl rfl (by simp [Blk.under, T.under]) (lc (li (by rw [ei])) (lc (ls rfl rfl) (lc (ls rfl rfl) (lc (ls rfl rfl) lnil))))
        · refine VX_go3 (fs := []) (ok 0 _) eqs trivial 100 [] rfl trivial ?_
          apply loop_brk
          refine VX_go3 (fs := []) (ok 0 _) eqs trivial 100 [] rfl trivial ?_
          exact ⟨.inr rfl, rfl⟩

def fewR (k : Nat) (r : Rl) : Bool := decide (k ≤ 60) && decide (r.nm.length ≤ 200)
def fewB (rs : List Rl) (es : List En) : Bool := rs.all (fewR rs.length) && es.all (fun x => decide (x.nm.length ≤ 200)) && (decide (es.length ≤ 100) || (decide (4094 ≤ es.length) && decide (es.length ≤ 4100)))
theorem few_ok (rs : List Rl) (es : List En) (hl : rs.length ≤ 9223372036854775807) (hle : es.length ≤ 9223372036854775807) : FnOk Try.prog tb 7 [25] [4] [gE rs es] [.bool (fewB rs es)] := by
  refine FnOk_of_V (fn := Try.f7) (bt := 4) (ok 0 _) Try.func7 rfl rfl rfl (by decide) fun hw => ?_
  apply V_of_VX
  have hlen : ((rs.map Rl.e).length : Int) = rs.length := by simp
  have hlen2 : ((es.map En.e).length : Int) = es.length := by simp
  refine VX_go3 (fs := []) (ok 0 _) eqs trivial 100 [] rfl trivial ?_
  refine VX_loopA (fun i : Nat => i ≤ rs.length ∧ (rs.take i).all (fewR rs.length) = true) (fun i => [(10, .t 3 (.e (.int i))), (9, .t 3 (.e (.int rs.length))), (8, .t 22 (.e (.sl (rs.map Rl.e)))), (1, .ptr 0 [])]) (fun i => [.tree 25 (.e (gE rs es))]) (fun i => rs.length - i) 0 (by simp) ?_ ?_
  · exact wk1 rfl rfl (by simp [Blk.under, T.under]) (lc (ls rfl rfl) (lc (li (by simp)) (lc (ls rfl rfl) (lc (ls rfl rfl) lnil))))
  · rintro i ⟨hi, hall⟩
    refine VX_go3 (fs := []) (ok 0 _) eqs trivial 100 [] rfl trivial ?_
    refine VX_split 11 rfl rfl (fun h => ?_) (fun h => ?_)
    · have hi : i < rs.length := by simpa using h
      have bad : fewR rs.length rs[i] = false → fewB rs es = false := fun hb => by
        have : rs.all (fewR rs.length) = false := by
          cases hq : rs.all (fewR rs.length) with
          | false => rfl
          | true => have := List.all_eq_true.1 hq _ (List.getElem_mem hi); rw [hb] at this; cases this
        simp [fewB, this]
      refine VX_go3 (fs := []) (ok 0 _) eqs trivial 100 [4] rfl ?_ ?_
      · simp [allP]; omega
      refine VX_eq 13 rfl rfl (d' := .t 47 (.e rs[i].e)) (congrArg (fun x => D.t 47 (.e x)) (getD_rl hi)) ?_
      refine VX_go3 (fs := []) (ok 0 _) eqs trivial 100 [] rfl trivial ?_
      refine VX_split 18 rfl rfl (fun h => ?_) (fun h => ?_)
      · have h : ¬ rs.length ≤ 60 := by simp at h; omega
        refine VX_go3 (fs := []) (ok 0 _) eqs trivial 100 [] rfl trivial ?_
        refine loop_ret ⟨.inr rfl, ?_⟩
        rw [bad (by simp [fewR, h])]; rfl
      · have h60 : rs.length ≤ 60 := by simp at h; omega
        refine VX_go3 (fs := []) (ok 0 _) eqs trivial 100 [] rfl trivial ?_
        refine VX_split 23 rfl rfl (fun h => ?_) (fun h => ?_)
        · have h : ¬ rs[i].nm.length ≤ 200 := by simp at h; omega
          refine VX_go3 (fs := []) (ok 0 _) eqs trivial 100 [] rfl trivial ?_
          refine loop_ret ⟨.inr rfl, ?_⟩
          rw [bad (by simp [fewR, h])]; rfl
        · have h : rs[i].nm.length ≤ 200 := by simp at h; omega
          have ei : IntKind.wrap .i64 ((i : Int) + 1) = ((i + 1 : Nat) : Int) := by rw [w64 (by omega) (by omega)]; simp
          refine VX_go3 (fs := []) (ok 0 _) eqs trivial 100 [] rfl trivial ?_
          refine loop_nrm ⟨i + 1, by omega, ⟨by omega, ?_⟩, ?_⟩
          · rw [List.take_add_one, List.getElem?_eq_getElem hi]; simp only [Option.toList_some, List.all_append, hall]; simp [fewR, h60, h]
          · exact wkc [.tree 47 (.e rs[i].e)] rfl rfl (by simp [Blk.under, T.under]) (lc (li (by rw [ei])) (lc (ls rfl rfl) (lc (ls rfl rfl) (lc (ls rfl rfl) lnil))))
    · have hi' : i = rs.length := by simp at h; omega
      subst hi'
      rw [List.take_length] at hall
      refine VX_go3 (fs := []) (ok 0 _) eqs trivial 100 [] rfl trivial ?_
      apply loop_brk
      refine VX_go3 (fs := []) (ok 0 _) eqs trivial 100 [] rfl trivial ?_
      refine VX_loopA (fun i : Nat => i ≤ es.length ∧ (es.take i).all (fun x => decide (x.nm.length ≤ 200)) = true) (fun i => [(28, .t 3 (.e (.int i))), (27, .t 3 (.e (.int es.length))), (26, .t 23 (.e (.sl (es.map En.e)))), (1, .ptr 0 [])]) (fun i => [.tree 25 (.e (gE rs es))]) (fun i => es.length - i) 0 (by simp) ?_ ?_
      · exact wk1 rfl rfl (by simp [Blk.under, T.under]) (lc (ls rfl rfl) (lc (li (by simp)) (lc (ls rfl rfl) (lc (ls rfl rfl) lnil))))
      · rintro i ⟨hi, hall2⟩
        refine VX_go3 (fs := []) (ok 0 _) eqs trivial 100 [] rfl trivial ?_
        refine VX_split 29 rfl rfl (fun h => ?_) (fun h => ?_)
        · have hi : i < es.length := by simpa using h
          refine VX_go3 (fs := []) (ok 0 _) eqs trivial 100 [6] rfl ?_ ?_
          · simp [allP]; omega
          refine VX_eq 31 rfl rfl (d' := .t 62 (.e es[i].e)) (congrArg (fun x => D.t 62 (.e x)) (getD_en hi)) ?_
          refine VX_go3 (fs := []) (ok 0 _) eqs trivial 100 [] rfl trivial ?_
          refine VX_split 35 rfl rfl (fun h => ?_) (fun h => ?_)
          · have h : ¬ es[i].nm.length ≤ 200 := by simp at h; omega
            refine VX_go3 (fs := []) (ok 0 _) eqs trivial 100 [] rfl trivial ?_
            refine loop_ret ⟨.inr rfl, ?_⟩
            have hb : es.all (fun x => decide (x.nm.length ≤ 200)) = false := by
              cases hq : es.all (fun x => decide (x.nm.length ≤ 200)) with
              | false => rfl
              | true => have := List.all_eq_true.1 hq _ (List.getElem_mem hi); simp at this; omega
            have : fewB rs es = false := by simp only [fewB, hb]; simp
            rw [this]; rfl
          · have h : es[i].nm.length ≤ 200 := by simp at h; omega
            have ei : IntKind.wrap .i64 ((i : Int) + 1) = ((i + 1 : Nat) : Int) := by rw [w64 (by omega) (by omega)]; simp
            refine VX_go3 (fs := []) (ok 0 _) eqs trivial 100 [] rfl trivial ?_
            refine loop_nrm ⟨i + 1, by omega, ⟨by omega, ?_⟩, ?_⟩
            · rw [List.take_add_one, List.getElem?_eq_getElem hi]; simp only [Option.toList_some, List.all_append, hall2]; simp [h]
            · exact wkc [.tree 62 (.e es[i].e)] rfl rfl (by simp [Blk.under, T.under]) (lc (li (by rw [ei])) (lc (ls rfl rfl) (lc (ls rfl rfl) (lc (ls rfl rfl) lnil))))
        · have hi' : i = es.length := by simp at h; omega
          subst hi'
          rw [List.take_length] at hall2
          have hf : fewB rs es = (decide (es.length ≤ 100) || (decide (4094 ≤ es.length) && decide (es.length ≤ 4100))) := by simp only [fewB, hall, hall2, Bool.true_and]
          refine VX_go3 (fs := []) (ok 0 _) eqs trivial 100 [] rfl trivial ?_
          apply loop_brk
          refine VX_go3 (fs := []) (ok 0 _) eqs trivial 100 [] rfl trivial ?_
          refine VX_split 41 rfl rfl (fun h => ?_) (fun h => ?_)
          · have h : es.length ≤ 100 := by simp at h; omega
            refine VX_go3 (fs := []) (ok 0 _) eqs trivial 100 [] rfl trivial ?_
            refine ⟨.inr rfl, ?_⟩
            rw [hf]; simp [h]; rfl
          · have h : ¬ es.length ≤ 100 := by simp at h; omega
            refine VX_go3 (fs := []) (ok 0 _) eqs trivial 100 [] rfl trivial ?_
            refine VX_split 46 rfl rfl (fun h2 => ?_) (fun h2 => ?_)
            · have h2 : 4094 ≤ es.length := by simp at h2; omega
              refine VX_go3 (fs := []) (ok 0 _) eqs trivial 100 [] rfl trivial ?_
              refine ⟨.inr rfl, ?_⟩
              have : fewB rs es = decide ((((es.map En.e).length : Nat) : Int) ≤ 4100) := by rw [hf]; simp [h, h2]; omega
              rw [this]; rfl
            · have h2 : ¬ 4094 ≤ es.length := by simp at h2; omega
              refine VX_go3 (fs := []) (ok 0 _) eqs trivial 100 [] rfl trivial ?_
              refine ⟨.inr rfl, ?_⟩
              have : fewB rs es = false := by rw [hf]; simp [h, h2]
              rw [this]; rfl

def r0 : Rl := ⟨1, [97], 5, 10⟩
theorem awake_ok : FnOk Try.prog tb 6 [] [4] [] [.bool true] := by
  refine FnOk_of_V (fn := Try.f6) (bt := 4) (ok 0 _) Try.func6 rfl rfl rfl (by decide) fun hw => ?_
  apply V_of_VX
  have ro : ∀ r ∈ [r0], r.ok := fun r hr => by rw [List.mem_singleton.1 hr]; exact ⟨by decide, by decide, by decide⟩
  have c1 := set_new [] [] r0 (by decide) (by decide) rfl (by decide) (by decide)
  have c2 := allow_ok [r0] [] 1 [97] 3 0 ro (fun x hx => by simp at hx) (by decide) (by decide) (by decide) (by decide)
  rw [show allowB [r0] [] 1 [97] 3 0 = ([⟨1, [97], 0, 3⟩], 0) by decide] at c2
  have eo : ∀ x ∈ ([⟨1, [97], 0, 3⟩] : List En), x.ok := fun x hx => by rw [List.mem_singleton.1 hx]; exact ⟨by decide, by decide, by decide⟩
  have c3 := allow_ok [r0] [⟨1, [97], 0, 3⟩] 1 [97] 3 9 ro eo (by decide) (by decide) (by decide) (by decide)
  rw [show allowB [r0] [⟨1, [97], 0, 3⟩] 1 [97] 3 9 = ([⟨1, [97], 0, 3⟩], 12) by decide] at c3
  have c4 := allow_ok [r0] [⟨1, [97], 0, 3⟩] 1 [97] 3 10 ro eo (by decide) (by decide) (by decide) (by decide)
  rw [show allowB [r0] [⟨1, [97], 0, 3⟩] 1 [97] 3 10 = ([⟨1, [97], 0, 3⟩, ⟨1, [97], 10, 3⟩], 0) by decide] at c4
  refine VX_go3 (fs := []) (ok 0 _) eqs trivial 100 [] rfl trivial ?_
  refine VX_callD (ok 0 _) [25, 47] [] rfl rfl rfl rfl rfl rfl c1.g rfl rfl rfl ?_
  refine VX_go3 (fs := []) (ok 0 _) eqs trivial 100 [] rfl trivial ?_
  refine VX_callD (ok 0 _) [25, 27, 9, 26, 26] [] rfl rfl rfl rfl rfl rfl c2.g rfl rfl rfl ?_
  refine VX_go3 (fs := []) (ok 0 _) eqs trivial 100 [] rfl trivial ?_
  refine VX_callD (ok 0 _) [25, 27, 9, 26, 26] [] rfl rfl rfl rfl rfl rfl c3.g rfl rfl rfl ?_
  refine VX_go3 (fs := []) (ok 0 _) eqs trivial 100 [] rfl trivial ?_
  refine VX_callD (ok 0 _) [25, 27, 9, 26, 26] [] rfl rfl rfl rfl rfl rfl c4.g rfl rfl rfl ?_
  refine VX_go3 (fs := []) (ok 0 _) eqs trivial 100 [] rfl trivial ?_
  refine VX_known 31 true rfl rfl (by decide) ?_
  refine VX_go3 (fs := []) (ok 0 _) eqs trivial 100 [] rfl trivial ?_
  refine VX_known 35 true rfl rfl (by decide) ?_
  refine VX_go3 (fs := []) (ok 0 _) eqs trivial 100 [] rfl trivial ?_
  refine VX_known 39 true rfl rfl (by decide) ?_
  refine VX_go3 (fs := []) (ok 0 _) eqs trivial 100 [42] rfl trivial ?_
  refine VX_known 41 true rfl rfl (by decide) ?_
  refine VX_go3 (fs := []) (ok 0 _) eqs trivial 100 [] rfl trivial ?_
  exact ⟨.inr rfl, rfl⟩
end Go.Den.Q34
/- Law 34: GuardSweeps. -/
namespace Go.Den.Q34
open Go Go.Den Go.Proofs
set_option maxRecDepth 8000
set_option linter.unusedVariables false

theorem wt_u32 {t : TypeId} {x : E} (h : Wt tb t x) (ht : td tb t = .int .u32) : ∃ n : Nat, x = .int n ∧ n < 4294967296 := by
  obtain ⟨n, rfl, hn⟩ := wt_int h ht
  simp only [inR, Bool.and_eq_true, decide_eq_true_eq] at hn
  exact ⟨n.toNat, by congr 1; omega, by omega⟩
theorem wt_u64 {t : TypeId} {x : E} (h : Wt tb t x) (ht : td tb t = .int .u64) : ∃ n : Nat, x = .int n ∧ n < 18446744073709551616 := by
  obtain ⟨n, rfl, hn⟩ := wt_int h ht
  simp only [inR, Bool.and_eq_true, decide_eq_true_eq] at hn
  exact ⟨n.toNat, by congr 1; omega, by omega⟩
theorem wt_rl {x : E} (h : Wt tb 47 x) : ∃ r : {r : Rl // r.ok}, x = r.1.e := by
  obtain ⟨l, rfl, hl, hw⟩ := wt_st h rfl
  obtain ⟨a, b, c, d, rfl⟩ := list4 hl
  obtain ⟨n0, rfl, h0⟩ := wt_u32 (hw 0 _ a rfl rfl) rfl
  obtain ⟨s, rfl⟩ := wt_str (hw 1 _ b rfl rfl) rfl
  obtain ⟨n1, rfl, h1⟩ := wt_u64 (hw 2 _ c rfl rfl) rfl
  obtain ⟨n2, rfl, h2⟩ := wt_u64 (hw 3 _ d rfl rfl) rfl
  exact ⟨⟨⟨n0, s, n1, n2⟩, ⟨h0, h1, h2⟩⟩, rfl⟩
theorem wt_en {x : E} (h : Wt tb 62 x) : ∃ r : {r : En // r.ok}, x = r.1.e := by
  obtain ⟨l, rfl, hl, hw⟩ := wt_st h rfl
  obtain ⟨a, b, c, d, rfl⟩ := list4 hl
  obtain ⟨n0, rfl, h0⟩ := wt_u32 (hw 0 _ a rfl rfl) rfl
  obtain ⟨s, rfl⟩ := wt_str (hw 1 _ b rfl rfl) rfl
  obtain ⟨n1, rfl, h1⟩ := wt_u64 (hw 2 _ c rfl rfl) rfl
  obtain ⟨n2, rfl, h2⟩ := wt_u64 (hw 3 _ d rfl rfl) rfl
  exact ⟨⟨⟨n0, s, n1, n2⟩, ⟨h0, h1, h2⟩⟩, rfl⟩
theorem wt_guard {x : E} (h : Wt tb 25 x) : ∃ rs es, x = gE rs es ∧ (∀ r ∈ rs, r.ok) ∧ (∀ x ∈ es, x.ok) ∧ rs.length ≤ 9223372036854775807 ∧ es.length ≤ 9223372036854775807 := by
  obtain ⟨l, rfl, hl, hw⟩ := wt_st h rfl
  obtain ⟨a, b, rfl⟩ := list2 hl
  have ha := hw 0 _ a rfl rfl
  have hb := hw 1 _ b rfl rfl
  obtain ⟨xs, rfl, hx⟩ := wt_sl ha rfl
  obtain ⟨ys, rfl, hy⟩ := wt_sl hb rfl
  obtain ⟨rs, rfl⟩ := map_ex fun y hy' => wt_rl (hx y hy')
  obtain ⟨es, rfl⟩ := map_ex fun y hy' => wt_en (hy y hy')
  have l1 := wt_len ha
  have l2 := wt_len hb
  simp only [List.length_map, maxN] at l1 l2
  refine ⟨rs.map (·.1), es.map (·.1), by simp [gE], ?_, ?_, by simpa using l1, by simpa using l2⟩
  · intro r hr; obtain ⟨z, _, rfl⟩ := List.mem_map.1 hr; exact z.2
  · intro r hr; obtain ⟨z, _, rfl⟩ := List.mem_map.1 hr; exact z.2

theorem ridx_congr {t : Nat} {rs : List Rl} {j : Nat} {hj : j < rs.length} {o : Nat} {nm : List UInt8} (h : hits o nm rs[j] = true) (x : En) (hc : cnt x rs[j] t = true) : x.o = o ∧ x.nm = nm := by
  simp only [hits, cnt, Bool.and_eq_true, decide_eq_true_eq] at h hc
  exact ⟨hc.1.1.trans h.1, hc.1.2.trans h.2⟩
theorem cnt_mono {x : En} {r : Rl} {a b : Nat} (h : a ≤ b) (hc : cnt x r b = true) : cnt x r a = true := by
  simp only [cnt, Bool.and_eq_true, decide_eq_true_eq] at hc ⊢
  exact ⟨hc.1, by omega⟩
/-- What counts later was kept. -/
theorem keep_cnt {rs : List Rl} {o : Nat} {nm : List UInt8} {j : Nat} (hj : j < rs.length) (hx : ridx o nm rs 0 = (j : Nat)) (hh : hits o nm rs[j] = true) {a b : Nat} (hab : a ≤ b) {x : En} (hc : cnt x rs[j] b = true) : keepB rs a x = true := by
  obtain ⟨h1, h2⟩ := ridx_congr hh x hc
  unfold keepB
  rw [h1, h2, hx]
  show (match rs[j]? with | some r => cnt x r a | none => false) = _
  rw [List.getElem?_eq_getElem hj]
  exact cnt_mono hab hc
theorem sumF_filter (r : Rl) (now : Nat) (p : En → Bool) (hp : ∀ x, cnt x r now = true → p x = true) : ∀ (es : List En) (n : Nat), sumF r now (es.filter p) n = sumF r now es n
  | [], n => rfl
  | x :: es, n => by
    rw [List.filter_cons]
    by_cases hc : cnt x r now = true
    · rw [if_pos (hp x hc)]
      simp only [sumF, hc, if_true, sumF_filter r now p hp es]
    · by_cases hpx : p x = true
      · rw [if_pos hpx]; simp only [sumF, hc, sumF_filter r now p hp es]
      · rw [if_neg hpx]; simp only [sumF, hc, sumF_filter r now p hp es]; rfl
theorem filter2 (rs : List Rl) (a : Nat) (es : List En) : (es.filter (keepB rs a)).filter (keepB rs a) = es.filter (keepB rs a) := by simp [List.filter_filter]
theorem counts_sw (rs : List Rl) (es : List En) (o : Nat) (nm : List UInt8) (a b : Nat) (hab : a ≤ b) : countsB rs (es.filter (keepB rs a)) o nm b = countsB rs es o nm b := by
  rcases ridx_cases o nm rs with hx | ⟨j, hj, hx, hh⟩
  · unfold countsB; rw [hx]; rfl
  · unfold countsB; rw [hx]
    show (match rs[j]? with | some r => ((sumF r b (es.filter (keepB rs a)) 0).1, decide ((sumF r b (es.filter (keepB rs a)) 0).2 = 0)) | none => (0, false)) = (match rs[j]? with | some r => ((sumF r b es 0).1, decide ((sumF r b es 0).2 = 0)) | none => (0, false))
    rw [List.getElem?_eq_getElem hj]
    simp only [sumF_filter rs[j] b (keepB rs a) (fun x hc => keep_cnt hj hx hh hab hc) es 0]
theorem allow_sw (rs : List Rl) (es : List En) (o : Nat) (nm : List UInt8) (n a b : Nat) (hab : a ≤ b) (hl : es.length ≤ 100) : (allowB rs (es.filter (keepB rs a)) o nm n b).2 = (allowB rs es o nm n b).2 := by
  rcases ridx_cases o nm rs with hx | ⟨j, hj, hx, hh⟩
  · unfold allowB; rw [hx]; rfl
  · have hfl := List.length_filter_le (keepB rs a) es
    unfold allowB; rw [hx]
    show ((match rs[j]? with | some r => allowR (es.filter (keepB rs a)) r o nm n b (sumF r b (es.filter (keepB rs a)) 0) | none => (es.filter (keepB rs a), 0)) : List En × Int).2 = ((match rs[j]? with | some r => allowR es r o nm n b (sumF r b es 0) | none => (es, 0)) : List En × Int).2
    rw [List.getElem?_eq_getElem hj]
    simp only [sumF_filter rs[j] b (keepB rs a) (fun x hc => keep_cnt hj hx hh hab hc) es 0]
    unfold allowR
    have z1 : ¬ 4096 ≤ (es.filter (keepB rs a)).length := by omega
    have z2 : ¬ 4096 ≤ es.length := by omega
    simp only [z1, z2, if_false]
    split
    · rfl
    · split
      · rfl
      · split <;> rfl

set_option maxHeartbeats 1600000 in
theorem sweeps_ok (x0 x1 x2 x3 x4 x5 : E) : FnOk Try.prog tb 3 [25, 26, 26, 27, 9, 26] [4] [x0, x1, x2, x3, x4, x5] [.bool true] := by
  refine FnOk_of_V (fn := Try.f3) (bt := 4) (ok 0 _) Try.func3 rfl rfl rfl (by decide) fun hw => ?_
  obtain ⟨rs, es, rfl, hrs, hes, hl1, hl2⟩ := wt_guard (hw 0 _ x0 rfl rfl)
  obtain ⟨a, rfl, ha⟩ := wt_u64 (hw 1 _ x1 rfl rfl) rfl
  obtain ⟨b, rfl, hb⟩ := wt_u64 (hw 2 _ x2 rfl rfl) rfl
  obtain ⟨o, rfl, ho⟩ := wt_u32 (hw 3 _ x3 rfl rfl) rfl
  obtain ⟨nm, rfl⟩ := wt_str (hw 4 _ x4 rfl rfl) rfl
  obtain ⟨n, rfl, hn⟩ := wt_u64 (hw 5 _ x5 rfl rfl) rfl
  clear hw
  apply V_of_VX
  refine VX_go3 (fs := []) (ok 0 _) eqs trivial 100 [] rfl trivial ?_
  refine VX_callD (ok 0 _) [] [] rfl rfl rfl rfl rfl rfl awake_ok.g rfl rfl rfl ?_
  refine VX_go3 (fs := []) (ok 0 _) eqs trivial 100 [] rfl trivial ?_
  refine VX_known 23 false rfl rfl rfl ?_
  refine VX_go3 (fs := []) (ok 0 _) eqs trivial 100 [] rfl trivial ?_
  refine VX_callD (ok 0 _) [25] [] rfl rfl rfl rfl rfl rfl (few_ok rs es hl1 hl2).g rfl rfl rfl ?_
  refine VX_go3 (fs := []) (ok 0 _) eqs trivial 100 [] rfl trivial ?_
  refine VX_split 27 rfl rfl (fun h => ?_) (fun hf => ?_)
  · refine VX_go3 (fs := []) (ok 0 _) eqs trivial 100 [] rfl trivial ?_
    exact ⟨.inr rfl, rfl⟩
  refine VX_go3 (fs := []) (ok 0 _) eqs trivial 100 [] rfl trivial ?_
  refine VX_split 33 rfl rfl (fun h => ?_) (fun h1 => ?_)
  · refine VX_go3 (fs := []) (ok 0 _) eqs trivial 100 [] rfl trivial ?_
    exact ⟨.inr rfl, rfl⟩
  refine VX_go3 (fs := []) (ok 0 _) eqs trivial 100 [] rfl trivial ?_
  refine VX_split 38 rfl rfl (fun h => ?_) (fun h2 => ?_)
  · refine VX_go3 (fs := []) (ok 0 _) eqs trivial 100 [] rfl trivial ?_
    exact ⟨.inr rfl, rfl⟩
  refine VX_go3 (fs := []) (ok 0 _) eqs trivial 100 [] rfl trivial ?_
  refine VX_split 42 rfl rfl (fun h => ?_) (fun h3 => ?_)
  · refine VX_go3 (fs := []) (ok 0 _) eqs trivial 100 [] rfl trivial ?_
    exact ⟨.inr rfl, rfl⟩
  have hlen : ((es.map En.e).length : Int) = es.length := by simp
  have hl : es.length ≤ 100 := by have : ¬ (100 : Int) < (((es.map En.e).length : Nat) : Int) := by simpa using h1
                                  rw [hlen] at this; omega
  have hab : a ≤ b := by have : ¬ (b : Int) < a := by simpa using h3
                         omega
  have hlr : rs.length ≤ 60 := by
    have hf' : fewB rs es = true := by simpa using hf
    cases rs with
    | nil => simp
    | cons r rs =>
      simp only [fewB, List.all_cons, fewR, Bool.and_eq_true, decide_eq_true_eq] at hf'
      exact hf'.1.1.1.1
  clear h1 h2 h3 hf
  have hfl := List.length_filter_le (keepB rs a) es
  have hes' : ∀ x ∈ es.filter (keepB rs a), x.ok := fun x hx => hes x (List.mem_filter.1 hx).1
  have c1 := (sweep_ok rs es a hrs hes ha (by omega) (by omega)).g
  have c2 := (allow_ok rs es o nm n b hrs hes hn hb (by omega) (by omega)).g
  have c3 := (allow_ok rs (es.filter (keepB rs a)) o nm n b hrs hes' hn hb (by omega) (by omega)).g
  have c4 := (countsG_ok rs es o nm b hrs hes hb (by omega) (by omega)).g
  have c5 := (countsG_ok rs (es.filter (keepB rs a)) o nm b hrs hes' hb (by omega) (by omega)).g
  have c6 := (sweep_ok rs (es.filter (keepB rs a)) a hrs hes' ha (by omega) (by omega)).g
  have c7 := (to_ok rs (es.filter (keepB rs a)) (by omega) (by omega)).g
  have c8 := (same_ok rs (es.filter (keepB rs a)) (by omega) (by omega)).g
  rw [filter2] at c6
  rw [counts_sw rs es o nm a b hab] at c5
  have e2 := allow_sw rs es o nm n a b hab hl
  rw [e2] at c3
  have hle : ((((es.filter (keepB rs a)).map En.e).length : Nat) : Int) ≤ (((es.map En.e).length : Nat) : Int) := by simp only [List.length_map]; omega
  generalize es.filter (keepB rs a) = fs at *
  generalize (countsB rs es o nm b).1 = k1 at *
  generalize (countsB rs es o nm b).2 = k2 at *
  generalize (allowB rs es o nm n b).2 = k3 at *
  refine VX_go3 (fs := []) (ok 0 _) eqs trivial 100 [] rfl trivial ?_
  refine VX_callD (ok 0 _) [25, 26] [] rfl rfl rfl rfl rfl rfl c1 rfl rfl rfl ?_
  refine VX_go3 (fs := []) (ok 0 _) eqs trivial 100 [] rfl trivial ?_
  refine VX_callD (ok 0 _) [25, 27, 9, 26, 26] [] rfl rfl rfl rfl rfl rfl c2 rfl rfl rfl ?_
  refine VX_go3 (fs := []) (ok 0 _) eqs trivial 100 [] rfl trivial ?_
  refine VX_callD (ok 0 _) [25, 27, 9, 26, 26] [] rfl rfl rfl rfl rfl rfl c3 rfl rfl rfl ?_
  refine VX_go3 (fs := []) (ok 0 _) eqs trivial 100 [] rfl trivial ?_
  refine VX_callD (ok 0 _) [25, 27, 9, 26] [] rfl rfl rfl rfl rfl rfl c4 rfl rfl rfl ?_
  refine VX_go3 (fs := []) (ok 0 _) eqs trivial 100 [] rfl trivial ?_
  refine VX_callD (ok 0 _) [25, 27, 9, 26] [] rfl rfl rfl rfl rfl rfl c5 rfl rfl rfl ?_
  refine VX_go3 (fs := []) (ok 0 _) eqs trivial 100 [] rfl trivial ?_
  refine VX_draw [] [(0,true),(1,true),(2,true),(3,true),(4,true),(5,true),(6,true),(7,true),(8,true),(9,true),(10,true),(11,true),(12,true),(13,true),(14,true),(15,true),(16,true),(17,true),(18,true),(19,true),(20,true),(21,true),(22,true),(23,true),(24,true),(27,true),(25,false),(26,false),(28,false),(29,false),(30,true),(31,true)] mixed (by kernel_rfl) (by kernel_rfl) (by kernel_rfl) ?_
  refine VX_go3 (fs := []) (ok 0 _) eqs trivial 100 [] rfl trivial ?_
  refine VX_known 83 true rfl rfl (by simp) ?_
  refine VX_go3 (fs := []) (ok 0 _) eqs trivial 100 [] rfl trivial ?_
  refine VX_known 88 true rfl rfl (by simp) ?_
  refine VX_go3 (fs := []) (ok 0 _) eqs trivial 100 [] rfl trivial ?_
  refine VX_known 93 true rfl rfl (by simp) ?_
  refine VX_go3 (fs := []) (ok 0 _) eqs trivial 100 [] rfl trivial ?_
  refine VX_known 102 true rfl rfl (by simpa using hle) ?_
  refine VX_go3 (fs := []) (ok 0 _) eqs trivial 100 [] rfl trivial ?_
  refine VX_callO (ok 0 _) [25, 26] [] rfl rfl rfl rfl rfl rfl rfl rfl c6 rfl rfl rfl ?_
  refine VX_go3 (fs := []) (ok 0 _) eqs trivial 100 [] rfl trivial ?_
  refine VX_callO (ok 0 _) [25] [] rfl rfl rfl rfl rfl rfl rfl rfl c7 rfl rfl rfl ?_
  refine VX_go3 (fs := []) (ok 0 _) eqs trivial 100 [] rfl trivial ?_
  refine VX_callO (ok 0 _) [25] [] rfl rfl rfl rfl rfl rfl rfl rfl c7 rfl rfl rfl ?_
  refine VX_go3 (fs := []) (ok 0 _) eqs trivial 100 [] rfl trivial ?_
  refine VX_callO (ok 0 _) [40, 40] [] rfl rfl rfl rfl rfl rfl rfl rfl c8 rfl rfl rfl ?_
  refine VX_go3 (fs := []) (ok 0 _) eqs trivial 100 [] rfl trivial ?_
  exact ⟨.inr rfl, rfl⟩
end Go.Den.Q34
/- Law 34: what is left. -/
namespace Go.Den.Q34
open Go Go.Den Go.Proofs
set_option maxRecDepth 8000
set_option linter.unusedVariables false

def subB (x y : Nat) : Nat × Int := if x < y then (0, 11) else (x - y, 0)
theorem sub_ok (x y : Nat) (hx : x < 18446744073709551616) (hy : y < 18446744073709551616) : FnOk Try.prog tb 27 [26, 26] [26, 31] [.int x, .int y] [.int (subB x y).1, .int (subB x y).2] := by
  refine FnOk_of_V (fn := Try.f27) (bt := 4) (ok 0 _) Try.func27 rfl rfl rfl (by decide) fun hw => ?_
  apply V_of_VX
  refine VX_go3 (fs := []) (ok 0 _) eqs trivial 100 [] rfl trivial ?_
  refine VX_split 8 rfl rfl (fun h => ?_) (fun h => ?_)
  · have h : x < y := by simp at h; omega
    refine VX_go3 (fs := []) (ok 0 _) eqs trivial 100 [] rfl trivial ?_
    refine ⟨.inr rfl, ?_⟩
    simp only [subB, if_pos h]; rfl
  · have h : ¬ x < y := by simp at h; omega
    refine VX_go3 (fs := []) (ok 0 _) eqs trivial 100 [] rfl trivial ?_
    refine ⟨.inr rfl, ?_⟩
    simp only [subB, if_neg h]
    have : (((x - y : Nat)) : Int) = IntKind.wrap .u64 ((x : Int) - y) := by rw [inR_wrap (by simp [inR]; omega)]; omega
    rw [this]; rfl

def leftB (rs : List Rl) (es : List En) (o : Nat) (nm : List UInt8) (now : Nat) : Nat × Bool := match ridx o nm rs 0 with
  | .ofNat i => match rs[i]? with
    | some r => (if (sumF r now es 0).2 ≠ 0 then 0 else (subB r.most (sumF r now es 0).1).1, true)
    | none => (0, false)
  | .negSucc _ => (0, false)
theorem left_ok (rs : List Rl) (es : List En) (o : Nat) (nm : List UInt8) (now : Nat) (hrs : ∀ r ∈ rs, r.ok) (hes : ∀ x ∈ es, x.ok) (hn : now < 18446744073709551616) (hl : es.length ≤ 10000) (hlr : rs.length ≤ 10000) :
    FnOk Try.prog tb 14 [25, 27, 9, 26] [26, 4] [gE rs es, .int o, .str nm, .int now] [.int (leftB rs es o nm now).1, .bool (leftB rs es o nm now).2] := by
  refine FnOk_of_V (fn := Try.f14) (bt := 4) (ok 0 _) Try.func14 rfl rfl rfl (by decide) fun hw => ?_
  apply V_of_VX
  refine VX_go3 (fs := []) (ok 0 _) eqs trivial 100 [] rfl trivial ?_
  refine VX_callD (ok 0 _) [25, 27, 9] [] rfl rfl rfl rfl rfl rfl (rule_ok rs es o nm (by omega)).g rfl rfl rfl ?_
  refine VX_go3 (fs := []) (ok 0 _) eqs trivial 100 [] rfl trivial ?_
  rcases ridx_cases o nm rs with hx | ⟨j, hj, hx, hh⟩
  · have hk : leftB rs es o nm now = (0, false) := by unfold leftB; rw [hx]; rfl
    rw [hx]
    refine VX_known 20 true rfl rfl (by decide) ?_
    refine VX_go3 (fs := []) (ok 0 _) eqs trivial 100 [] rfl trivial ?_
    refine ⟨.inr rfl, ?_⟩
    rw [hk]; rfl
  · have hk : leftB rs es o nm now = (if (sumF rs[j] now es 0).2 ≠ 0 then 0 else (subB rs[j].most (sumF rs[j] now es 0).1).1, true) := by
      unfold leftB; rw [hx]
      show (match rs[j]? with | some r => (if (sumF r now es 0).2 ≠ 0 then 0 else (subB r.most (sumF r now es 0).1).1, true) | none => (0, false)) = _
      rw [List.getElem?_eq_getElem hj]
    rw [hx]
    have hrj := hrs _ (List.getElem_mem hj)
    have hsl := sumF_lt rs[j] now es 0 (by decide)
    refine VX_known 20 false rfl rfl (by simp) ?_
    refine VX_go3 (fs := []) (ok 0 _) eqs trivial 100 [] rfl trivial ?_
    refine VX_draw [] [(0, true), (1, true), (2, true), (3, true), (4, true), (5, true), (6, true), (7, false), (8, true), (9, true), (10, true), (11, true), (12, true)] mixed (by kernel_rfl) (by kernel_rfl) (by kernel_rfl) ?_
    refine VX_go3 (fs := []) (ok 0 _) eqs trivial 100 [] rfl ?_ ?_
    · simp [allP]; omega
    refine VX_eq 27 rfl rfl (d' := .t 47 (.e rs[j].e)) (congrArg (fun x => D.t 47 (.e x)) (getD_rl hj)) ?_
    refine VX_callO (ok 0 _) [25, 47, 26] [] rfl rfl rfl rfl rfl rfl rfl rfl (sum_ok rs es rs[j] now hes hrj hn (by omega)).g rfl rfl rfl ?_
    refine VX_go3 (fs := []) (ok 0 _) eqs trivial 100 [] rfl trivial ?_
    have hk2 : leftB rs es o nm now = (if (sumF rs[j] now es 0).2 ≠ 0 then 0 else (subB rs[j].most (sumF rs[j] now es 0).1).1, true) := hk
    generalize (sumF rs[j] now es 0).1 = S at hsl hk2 ⊢
    generalize (sumF rs[j] now es 0).2 = F at hk2 ⊢
    refine VX_split 33 rfl rfl (fun h => ?_) (fun h => ?_)
    · have hF : F ≠ 0 := by simpa using h
      rw [if_pos hF] at hk2
      refine VX_go3 (fs := []) (ok 0 _) eqs trivial 100 [] rfl trivial ?_
      refine ⟨.inr rfl, ?_⟩
      rw [hk2]; rfl
    · have hF : ¬ F ≠ 0 := by simpa using h
      rw [if_neg hF] at hk2
      refine VX_go3 (fs := []) (ok 0 _) eqs trivial 100 [41] rfl ?_ ?_
      · simp [allP]; omega
      have hmost : getE [2] ((rs.map Rl.e).getD j .nilp) = .int rs[j].most := by rw [getD_rl hj]; rfl
      refine VX_eq 40 rfl rfl (d' := .t 26 (.e (.int rs[j].most))) (congrArg (fun x => D.t 26 (.e x)) hmost) ?_
      refine VX_go3 (fs := []) (ok 0 _) eqs trivial 100 [] rfl trivial ?_
      refine VX_callD (ok 0 _) [26, 26] [] rfl rfl rfl rfl rfl rfl (sub_ok rs[j].most S hrj.most hsl).g rfl rfl rfl ?_
      refine VX_go3 (fs := []) (ok 0 _) eqs trivial 100 [] rfl trivial ?_
      refine ⟨.inr rfl, ?_⟩
      rw [hk2]; rfl
end Go.Den.Q34
