/- Law 34: what holds of what was allowed. -/
import Derived.Test.YtgdfegmdjdnbdaaQ34G
namespace Go.Den.Q34
open Go Go.Den Go.Proofs
set_option maxRecDepth 8000
set_option linter.unusedVariables false

def mk (p : Nat × Nat) : En := ⟨1, [97], p.1, p.2⟩
def dn (p : Nat × Nat) : E := .agg [.int p.1, .int p.2]
def hr (most span : Nat) : Rl := ⟨1, [97], most, span⟩
def cs (span now : Nat) : List (Nat × Nat) → Nat
  | [] => 0
  | p :: l => (if now < p.1 + span then p.2 else 0) + cs span now l
def ws (span x : Nat) : List (Nat × Nat) → Nat
  | [] => 0
  | p :: l => (if p.1 - x < span then p.2 else 0) + ws span x l
theorem cs_app (span now : Nat) : ∀ a b, cs span now (a ++ b) = cs span now a + cs span now b
  | [], b => by simp [cs]
  | p :: a, b => by simp only [List.cons_append, cs, cs_app span now a b]; omega
theorem ws_app (span now : Nat) : ∀ a b, ws span now (a ++ b) = ws span now a + ws span now b
  | [], b => by simp [ws]
  | p :: a, b => by simp only [List.cons_append, ws, ws_app span now a b]; omega
theorem cs_mono {span a b : Nat} (h : a ≤ b) : ∀ l, cs span b l ≤ cs span a l
  | [] => Nat.le_refl _
  | p :: l => by
    have := cs_mono h l (span := span)
    simp only [cs]
    by_cases h1 : b < p.1 + span
    · have h2 : a < p.1 + span := by omega
      simp only [h1, h2, if_true]; omega
    · simp only [h1, if_false]; omega
theorem ws_cs {span x now : Nat} (hn : now - x < span) : ∀ l : List (Nat × Nat), (∀ p ∈ l, x ≤ p.1) → ws span x l ≤ cs span now l
  | [], _ => Nat.le_refl _
  | p :: l, h => by
    have ih := ws_cs hn l (fun q hq => h q (by simp [hq]))
    have hp := h p (by simp)
    have h2 : now < p.1 + span := by omega
    simp only [cs, ws, h2, if_true]
    split <;> omega
theorem sumF_cs (most span now : Nat) : ∀ (l : List (Nat × Nat)) (n : Nat), n + cs span now l < 18446744073709551616 → sumF (hr most span) now (l.map mk) n = (n + cs span now l, 0)
  | [], n, h => rfl
  | p :: l, n, h => by
    have hc : cnt (mk p) (hr most span) now = decide (now < p.1 + span) := by simp [cnt, mk, hr]; rfl
    simp only [List.map_cons, sumF, hc, decide_eq_true_eq]
    simp only [cs] at h ⊢
    by_cases h1 : now < p.1 + span
    · simp only [h1, if_true] at h ⊢
      have h2 : n + (mk p).n < 18446744073709551616 := by show n + p.2 < _; omega
      rw [if_pos h2, sumF_cs most span now l _ (by show n + p.2 + _ < _; omega)]
      show (n + p.2 + _, (0 : Int)) = _
      congr 1; omega
    · simp only [h1, if_false] at h ⊢
      rw [sumF_cs most span now l _ (by omega)]
      congr 1; omega

structure Inv (most span now : Nat) (l : List (Nat × Nat)) : Prop where
  le : ∀ p ∈ l, p.1 ≤ now ∧ p.2 < 18446744073709551616
  srt : l.Pairwise (fun p q => p.1 ≤ q.1)
  cap : cs span now l ≤ most
  win : ∀ a x b, l = a ++ x :: b → ws span x.1 (x :: b) ≤ most
theorem Inv.nil (most span : Nat) : Inv most span 0 [] := ⟨fun p h => by simp at h, .nil, by simp [cs], fun a x b h => by simp at h⟩
theorem Inv.mono {most span now t : Nat} {l : List (Nat × Nat)} (h : Inv most span now l) (ht : now ≤ t) : Inv most span t l :=
  ⟨fun p hp => ⟨Nat.le_trans (h.le p hp).1 ht, (h.le p hp).2⟩, h.srt, Nat.le_trans (cs_mono ht l) h.cap, h.win⟩
theorem Inv.add {most span now n : Nat} {l : List (Nat × Nat)} (h : Inv most span now l) (hn : cs span now l + n ≤ most) (hm : most < 18446744073709551616) : Inv most span now (l ++ [(now, n)]) := by
  refine ⟨?_, ?_, ?_, ?_⟩
  · intro p hp
    rcases List.mem_append.1 hp with hp | hp
    · exact h.le p hp
    · rw [List.mem_singleton.1 hp]; exact ⟨Nat.le_refl _, by show n < _; omega⟩
  · rw [List.pairwise_append]
    exact ⟨h.srt, List.pairwise_singleton _ _, fun p hp q hq => by rw [List.mem_singleton.1 hq]; exact (h.le p hp).1⟩
  · rw [cs_app]; simp only [cs]; split <;> omega
  · intro a x b he
    rcases List.eq_nil_or_concat b with rfl | ⟨b', z, rfl⟩
    · have hx : l = a ∧ (now, n) = x := by
        have := List.append_inj' (s₁ := l) (t₁ := [(now, n)]) (s₂ := a) (t₂ := [x]) he rfl
        exact ⟨this.1, by simpa using this.2⟩
      obtain ⟨rfl, rfl⟩ := hx
      simp only [ws]; split <;> omega
    · rw [List.concat_eq_append] at he ⊢
      have he2 : l ++ [(now, n)] = (a ++ x :: b') ++ [z] := by rw [he]; simp
      have := List.append_inj' he2 rfl
      obtain ⟨hl, hz⟩ := this
      have hz : (now, n) = z := by simpa using hz
      subst hz
      have hw := h.win a x b' hl
      rw [show x :: (b' ++ [(now, n)]) = (x :: b') ++ [(now, n)] by simp, ws_app]
      simp only [ws]
      by_cases hlt : now - x.1 < span
      · have hp := h.srt
        rw [hl, List.pairwise_append] at hp
        have hge : ∀ p ∈ x :: b', x.1 ≤ p.1 := by
          intro p hpm
          rcases List.mem_cons.1 hpm with rfl | hpm
          · exact Nat.le_refl _
          · exact (List.pairwise_cons.1 hp.2.1).1 p hpm
        have h1 := ws_cs hlt (x :: b') hge
        have h2 : cs span now (x :: b') ≤ cs span now l := by rw [hl, cs_app]; omega
        simp only [ws] at h1
        simp only [hlt, if_true]; omega
      · simp only [hlt, if_false]
        simp only [ws] at hw; omega

theorem ridx_hr (most span : Nat) : ridx 1 [97] [hr most span] 0 = 0 := by simp [ridx, hits, hr]
theorem left_hr {most span now : Nat} {l : List (Nat × Nat)} (h : cs span now l ≤ most) (hm : most < 18446744073709551616) : leftB [hr most span] (l.map mk) 1 [97] now = (most - cs span now l, true) := by
  unfold leftB; rw [ridx_hr]
  show ((if (sumF (hr most span) now (l.map mk) 0).2 ≠ 0 then 0 else (subB (hr most span).most (sumF (hr most span) now (l.map mk) 0).1).1), true) = _
  rw [sumF_cs most span now l 0 (by omega), Nat.zero_add]
  have h2 : ¬ most < cs span now l := by omega
  have h3 : subB most (cs span now l) = (most - cs span now l, 0) := by rw [subB, if_neg h2]
  show (if (0 : Int) ≠ 0 then 0 else (subB most (cs span now l)).1, true) = _
  rw [h3]; rfl
theorem allow_hr {most span now n : Nat} {l : List (Nat × Nat)} (h : cs span now l ≤ most) (hm : most < 18446744073709551616) (hl : l.length ≤ 100) :
    (cs span now l + n ≤ most ∧ allowB [hr most span] (l.map mk) 1 [97] n now = ((l ++ [(now, n)]).map mk, 0)) ∨
    (most < cs span now l + n ∧ ∃ e : Int, e ≠ 0 ∧ allowB [hr most span] (l.map mk) 1 [97] n now = (l.map mk, e)) := by
  have ha : allowB [hr most span] (l.map mk) 1 [97] n now = allowR (l.map mk) (hr most span) 1 [97] n now (cs span now l, 0) := by
    unfold allowB; rw [ridx_hr]
    show allowR _ _ _ _ _ _ _ = _
    rw [sumF_cs most span now l 0 (by omega), Nat.zero_add]
  rw [ha]
  unfold allowR addB
  by_cases h1 : cs span now l + n ≤ most
  · left
    refine ⟨h1, ?_⟩
    have h2 : cs span now l + n < 18446744073709551616 := by omega
    have h3 : ¬ (hr most span).most < cs span now l + n := by show ¬ most < _; omega
    have h4 : ¬ 4096 ≤ (l.map mk).length := by simp; omega
    simp only [h2, if_true, h3, h4, if_false]
    simp [mk]
  · right
    refine ⟨by omega, ?_⟩
    by_cases h2 : cs span now l + n < 18446744073709551616
    · have h3 : (hr most span).most < cs span now l + n := by show most < _; omega
      simp only [h2, if_true, h3]
      exact ⟨12, by decide, by simp⟩
    · simp only [h2, if_false]
      exact ⟨10, by decide, by simp⟩
end Go.Den.Q34
