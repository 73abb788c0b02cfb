/- Law 34: names. -/
import Derived.Test.YtgdfegmdjdnbdaaQ34B
namespace Go.Den.Q34
open Go Go.Den Go.Proofs
set_option maxRecDepth 8000
set_option linter.unusedVariables false

def smallR (c : Nat) : Bool := (decide (97 ≤ c) && decide (c ≤ 122)) || (decide (945 ≤ c) && decide (c ≤ 969))

def badR (c n : Nat) : Bool := !smallR c && (decide (n = 1) || decide (c < 48) || decide (57 < c))

def nameF (s : List UInt8) : Nat → Nat → Nat → Bool
  | 0, _, _ => false
  | f + 1, pos, n => if pos < s.length then if badR (runeAt s pos).1 (n + 1) then false else nameF s f (pos + (runeAt s pos).2) (n + 1) else decide (0 < n) && decide (n ≤ 12)

def nameB (s : List UInt8) : Bool := nameF s (s.length + 1) 0 0

theorem small_ok (c : Nat) : FnOk Try.prog tb 35 [21] [4] [.int c] [.bool (smallR c)] := by
  refine FnOk_of_V (fn := Try.f35) (bt := 4) (ok 0 _) Try.func35 rfl rfl rfl (by decide) fun hw => ?_
  apply V_of_VX
  refine VX_go3 (fs := []) (ok 0 _) eqs trivial 100 [] rfl trivial ?_
  refine VX_split 5 rfl rfl (fun h => ?_) (fun h => ?_)
  · have h1 : 97 ≤ c := by simp at h; omega
    refine VX_go3 (fs := []) (ok 0 _) eqs trivial 100 [] rfl trivial ?_
    refine VX_split 9 rfl rfl (fun h => ?_) (fun h => ?_)
    · have h2 : c ≤ 122 := by simp at h; omega
      refine VX_go3 (fs := []) (ok 0 _) eqs trivial 100 [] rfl trivial ?_
      refine ⟨.inr rfl, ?_⟩
      have : smallR c = true := by simp [smallR, h1, h2]
      rw [this]; rfl
    · have h2 : ¬ c ≤ 122 := by simp at h; omega
      refine VX_go3 (fs := []) (ok 0 _) eqs trivial 100 [] rfl trivial ?_
      refine VX_split 12 rfl rfl (fun h => ?_) (fun h => ?_)
      · have h3 : 945 ≤ c := by simp at h; omega
        refine VX_go3 (fs := []) (ok 0 _) eqs trivial 100 [] rfl trivial ?_
        refine ⟨.inr rfl, ?_⟩
        have : smallR c = decide ((c : Int) ≤ 969) := by simp [smallR, h1, h2, h3]; omega
        rw [this]; rfl
      · have h3 : ¬ 945 ≤ c := by simp at h; omega
        refine VX_go3 (fs := []) (ok 0 _) eqs trivial 100 [] rfl trivial ?_
        refine ⟨.inr rfl, ?_⟩
        have : smallR c = false := by simp [smallR, h2, h3]
        rw [this]; rfl
  · have h1 : ¬ 97 ≤ c := by simp at h; omega
    refine VX_go3 (fs := []) (ok 0 _) eqs trivial 100 [] rfl trivial ?_
    refine VX_split 12 rfl rfl (fun h => ?_) (fun h => ?_)
    · have h3 : 945 ≤ c := by simp at h; omega
      exact absurd h3 (by omega)
    · have h3 : ¬ 945 ≤ c := by simp at h; omega
      refine VX_go3 (fs := []) (ok 0 _) eqs trivial 100 [] rfl trivial ?_
      refine ⟨.inr rfl, ?_⟩
      have : smallR c = false := by simp [smallR, h1, h3]
      rw [this]; rfl

theorem name_ok (s : List UInt8) (hs : s.length ≤ 1000000) : FnOk Try.prog tb 26 [9] [4] [.str s] [.bool (nameB s)] := by
  refine FnOk_of_V (fn := Try.f26) (bt := 4) (ok 0 _) Try.func26 rfl rfl rfl (by decide) fun hw => ?_
  apply V_of_VX
  refine VX_go3 (fs := []) (ok 0 _) eqs trivial 100 [] rfl trivial ?_
  refine VX_range (ok 0 _) rfl rfl rfl rfl rfl rfl rfl rfl rfl ?_
  refine VX_go3 (fs := []) (ok 0 _) eqs trivial 100 [] rfl trivial ?_
  refine VX_loopA (fun a : Nat × Nat × Nat => nameF s a.1 a.2.1 a.2.2 = nameB s ∧ a.1 + a.2.2 = s.length + 1 ∧ a.2.2 ≤ a.2.1 ∧ a.2.2 ≤ s.length) (fun a => [(7, .it 0), (3, .t 3 (.e (.int a.2.2)))]) (fun a => [.iter s a.2.1]) (fun a => a.1) (s.length + 1, 0, 0) ⟨rfl, rfl, Nat.le_refl _, Nat.zero_le _⟩ ?_ ?_
  · exact wk1 rfl rfl (by simp [Blk.under]) (lc (ls rfl rfl) (lc (ls rfl rfl) lnil))
  · rintro ⟨f, pos, n⟩ ⟨h1, h2, h3, h4⟩
    simp only at h1 h2 h3 h4
    refine VX_go3 (fs := []) (ok 0 _) eqs trivial 100 [] rfl trivial ?_
    refine VX_next (ok 0 _) 3 21 rfl rfl rfl rfl rfl rfl rfl rfl (by simp [maxI]; omega) rfl (fun hp => ?_) (fun hp => ?_)
    · have hp : pos < s.length := hp
      obtain ⟨g, rfl⟩ : ∃ g, f = g + 1 := ⟨f - 1, by omega⟩
      have hw := (runeAt_w s pos).1
      have e1 : IntKind.wrap .i64 ((n : Int) + 1) = ((n + 1 : Nat) : Int) := by rw [w64 (by omega) (by omega)]; rfl
      unfold nameF at h1; rw [if_pos hp] at h1
      have go : ∀ x : Bool, badR (runeAt s pos).1 (n + 1) = false → nameF s g (pos + (runeAt s pos).2) (n + 1) = nameB s := fun _ hb => by rw [hb] at h1; simpa using h1
      have stop : badR (runeAt s pos).1 (n + 1) = true → nameB s = false := fun hb => by rw [hb] at h1; simpa using h1.symm
      generalize hc : (runeAt s pos).1 = c at *
      generalize (runeAt s pos).2 = w at *
      refine VX_go3 (fs := []) (ok 0 _) eqs trivial 100 [] rfl trivial ?_
      refine VX_callD (ok 0 _) [21] [] rfl rfl rfl rfl rfl rfl (small_ok c).g rfl rfl rfl ?_
      refine VX_go3 (fs := []) (ok 0 _) eqs trivial 100 [] rfl trivial ?_
      refine VX_split 16 rfl rfl (fun hsm => ?_) (fun hsm => ?_)
      · have hsm : smallR c = false := by simpa using hsm
        refine VX_go3 (fs := []) (ok 0 _) eqs trivial 100 [] rfl trivial ?_
        refine VX_split 19 rfl rfl (fun hn => ?_) (fun hn => ?_)
        · have hn : n + 1 = 1 := by simp at hn; rw [w64 (by omega) (by omega)] at hn; omega
          refine VX_go3 (fs := []) (ok 0 _) eqs trivial 100 [] rfl trivial ?_
          refine loop_ret ⟨.inr rfl, ?_⟩
          rw [stop (by simp [badR, hsm, hn])]; rfl
        · have hn : ¬ n + 1 = 1 := by simp at hn; rw [w64 (by omega) (by omega)] at hn; omega
          refine VX_go3 (fs := []) (ok 0 _) eqs trivial 100 [] rfl trivial ?_
          refine VX_split 23 rfl rfl (fun hl => ?_) (fun hl => ?_)
          · have hl : c < 48 := by simp at hl; omega
            refine VX_go3 (fs := []) (ok 0 _) eqs trivial 100 [] rfl trivial ?_
            refine loop_ret ⟨.inr rfl, ?_⟩
            rw [stop (by simp [badR, hsm, hl])]; rfl
          · have hl : ¬ c < 48 := by simp at hl; omega
            refine VX_go3 (fs := []) (ok 0 _) eqs trivial 100 [] rfl trivial ?_
            refine VX_split 27 rfl rfl (fun hu => ?_) (fun hu => ?_)
            · have hu : 57 < c := by simp at hu; omega
              refine VX_go3 (fs := []) (ok 0 _) eqs trivial 100 [] rfl trivial ?_
              refine loop_ret ⟨.inr rfl, ?_⟩
              rw [stop (by simp [badR, hsm, hu])]; rfl
            · have hu : ¬ 57 < c := by simp at hu; omega
              refine VX_go3 (fs := []) (ok 0 _) eqs trivial 100 [] rfl trivial ?_
              refine loop_nrm ⟨(g, pos + w, n + 1), by simp, ⟨go true (by simp [badR, hsm, hl, hu]; omega), by simp only; omega, by simp only; omega, by simp only; omega⟩, ?_⟩
              exact wk1 rfl rfl (by simp [Blk.under]) (lc (ls rfl rfl) (lc (li (by rw [e1])) lnil))
      · have hsm : smallR c = true := by simpa using hsm
        refine VX_go3 (fs := []) (ok 0 _) eqs trivial 100 [] rfl trivial ?_
        refine loop_nrm ⟨(g, pos + w, n + 1), by simp, ⟨go true (by simp [badR, hsm]), by simp only; omega, by simp only; omega, by simp only; omega⟩, ?_⟩
        exact wk1 rfl rfl (by simp [Blk.under]) (lc (ls rfl rfl) (lc (li (by rw [e1])) lnil))
    · have hp : ¬ pos < s.length := hp
      have hf : ∃ g, f = g + 1 := by
        cases f with
        | zero => exfalso; omega
        | succ g => exact ⟨g, rfl⟩
      obtain ⟨g, rfl⟩ := hf
      unfold nameF at h1; rw [if_neg hp] at h1
      refine VX_go3 (fs := []) (ok 0 _) eqs trivial 100 [] rfl trivial ?_
      apply loop_brk
      refine VX_go3 (fs := []) (ok 0 _) eqs trivial 100 [] rfl trivial ?_
      refine VX_split 30 rfl rfl (fun hn => ?_) (fun hn => ?_)
      · have hn : 0 < n := by simp at hn; omega
        refine VX_go3 (fs := []) (ok 0 _) eqs trivial 100 [] rfl trivial ?_
        refine ⟨.inr rfl, ?_⟩
        have : nameB s = decide ((n : Int) ≤ 12) := by rw [← h1]; simp [hn]; omega
        rw [this]; rfl
      · have hn : ¬ 0 < n := by simp at hn; omega
        refine VX_go3 (fs := []) (ok 0 _) eqs trivial 100 [] rfl trivial ?_
        refine ⟨.inr rfl, ?_⟩
        have : nameB s = false := by rw [← h1]; simp [hn]
        rw [this]; rfl

end Go.Den.Q34
