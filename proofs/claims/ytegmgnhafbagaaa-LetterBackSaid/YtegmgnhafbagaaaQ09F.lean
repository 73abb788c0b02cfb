/- Law 09: what is written is read as it was; what is read is written so. -/
import Derived.Test.YtegmgnhafbagaaaQ09L
namespace Go.Den.Q09
open Go Go.Den Go.Proofs
set_option maxRecDepth 8000
set_option linter.unusedVariables false

theorem textR_app' (s q : List UInt8) (m : Int) (hs : s.length < 4294967296) (hm : s.length ≤ mx m) : textR (textB s ++ q) 0 m = (s, q, 0) := by
  unfold textR textB
  rw [List.append_assoc, countB_app s.length (s ++ q) m hs hm]
  exact takeB_app s q rfl
theorem text_any {s : List UInt8} {e m : Int} (h : (textR s e m).2.2 = 0) : e = 0 ∧ s = textB (textR s e m).1 ++ (textR s e m).2.1 := by
  unfold textR at h ⊢
  obtain ⟨h3, h4, h5, h6⟩ := takeB_0 h
  obtain ⟨h0, h7, h8, h9⟩ := countB_0 h3
  refine ⟨h0, ?_⟩
  rw [h9, h8] at h4
  rw [h5, h6, h9, h8]
  unfold textB
  have hl : ((s.drop 4).take (numV (s.take 4))).length = numV (s.take 4) := by simp at h4 ⊢; omega
  rw [hl, big4 h7, List.append_assoc, List.take_append_drop, List.take_append_drop]
theorem take_any {s : List UInt8} {e : Int} (h : (takeB s e 4).2.2 = 0) : e = 0 ∧ s = bigB (numV (takeB s e 4).1) 4 ++ (takeB s e 4).2.1 ∧ numV (takeB s e 4).1 < 4294967296 := by
  obtain ⟨h1, h2, h3, h4⟩ := takeB_0 h
  have hv := numV_le (takeB_len s e 4)
  refine ⟨h1, ?_, hv⟩
  rw [h3, h4, big4 h2, List.take_append_drop]
theorem nameB_nil : nameB [] = false := rfl

/-- A letter that may be is read back. -/
theorem read_back (a b c : Nat) (s r y : List UInt8) (ha : a < 4294967296) (hb : b < 4294967296) (hc : c < 4294967296) (h : rightB s r y = true) :
    FnOk Try.prog tb 7 [9] [24, 27] [.str (plainB a b c s r y)] [ltE a b c s r y, .int 0] := by
  have h' : (nameB s = true ∧ nameB r = true) ∧ y.length ≤ 300 := by simpa [rightB] using h
  have ls := nameB_len h'.1.1
  have lr := nameB_len h'.1.2
  have hp : plainB a b c s r y = bigB a 4 ++ (bigB b 4 ++ (bigB c 4 ++ (textB s ++ (textB r ++ (textB y ++ []))))) := by simp only [plainB, List.append_assoc, List.append_nil]
  have r1 := takeB_app (bigB a 4) (bigB b 4 ++ (bigB c 4 ++ (textB s ++ (textB r ++ (textB y ++ []))))) (bigB_length a 4)
  have r2 := takeB_app (bigB b 4) (bigB c 4 ++ (textB s ++ (textB r ++ (textB y ++ [])))) (bigB_length b 4)
  have r3 := takeB_app (bigB c 4) (textB s ++ (textB r ++ (textB y ++ []))) (bigB_length c 4)
  have r4 := textR_app' s (textB r ++ (textB y ++ [])) 48 (by omega) (by show s.length ≤ 48; omega)
  have r5 := textR_app' r (textB y ++ []) 48 (by omega) (by show r.length ≤ 48; omega)
  have r6 := textR_app' y [] 300 (by omega) (by show y.length ≤ 300; omega)
  have hl : (plainB a b c s r y).length ≤ 20000 := by simp only [plainB, textB, List.length_append, bigB_length]; omega
  have k := read_ok (plainB a b c s r y) hl _ _ _ _ _ _ _ _ _ _ _ _ _ _ _ _ _ _ (by rw [hp]; exact r1) r2 r3 r4 r5 r6
  have he : endB [] 0 = 0 := rfl
  rw [he, if_neg (by decide), if_pos h, numV_bigB 4 a (by simpa using ha), numV_bigB 4 b (by simpa using hb), numV_bigB 4 c (by simpa using hc)] at k
  exact k
/-- Whatever is read: a letter that is written so, or none. -/
theorem read_any (s : List UInt8) (hs : s.length ≤ 20000) : (∃ a b c t r y, a < 4294967296 ∧ b < 4294967296 ∧ c < 4294967296 ∧ t.length ≤ 48 ∧ r.length ≤ 48 ∧ y.length ≤ 300 ∧ rightB t r y = true ∧ plainB a b c t r y = s ∧ FnOk Try.prog tb 7 [9] [24, 27] [.str s] [ltE a b c t r y, .int 0]) ∨
    ∃ e : Int, e ≠ 0 ∧ FnOk Try.prog tb 7 [9] [24, 27] [.str s] [ltE 0 0 0 [] [] [], .int e] := by
  obtain ⟨w1, s1, e1, r1⟩ : ∃ w s' e', takeB s 0 4 = (w, s', e') := ⟨_, _, _, rfl⟩
  obtain ⟨w2, s2, e2, r2⟩ : ∃ w s' e', takeB s1 e1 4 = (w, s', e') := ⟨_, _, _, rfl⟩
  obtain ⟨w3, s3, e3, r3⟩ : ∃ w s' e', takeB s2 e2 4 = (w, s', e') := ⟨_, _, _, rfl⟩
  obtain ⟨t1, s4, e4, r4⟩ : ∃ w s' e', textR s3 e3 48 = (w, s', e') := ⟨_, _, _, rfl⟩
  obtain ⟨t2, s5, e5, r5⟩ : ∃ w s' e', textR s4 e4 48 = (w, s', e') := ⟨_, _, _, rfl⟩
  obtain ⟨t3, s6, e6, r6⟩ : ∃ w s' e', textR s5 e5 300 = (w, s', e') := ⟨_, _, _, rfl⟩
  have k := read_ok s hs _ _ _ _ _ _ _ _ _ _ _ _ _ _ _ _ _ _ r1 r2 r3 r4 r5 r6
  by_cases he : endB s6 e6 ≠ 0
  · rw [if_pos he] at k; exact .inr ⟨_, he, k⟩
  · rw [if_neg he] at k
    by_cases hr : rightB t1 t2 t3 = true
    · rw [if_pos hr] at k
      left
      obtain ⟨z6, q6⟩ := endB_0 (by simpa using he)
      have a6 := text_any (s := s5) (e := e5) (m := 300) (by rw [r6]; exact z6)
      rw [r6] at a6
      have a5 := text_any (s := s4) (e := e4) (m := 48) (by rw [r5]; exact a6.1)
      rw [r5] at a5
      have a4 := text_any (s := s3) (e := e3) (m := 48) (by rw [r4]; exact a5.1)
      rw [r4] at a4
      have a3 := take_any (s := s2) (e := e2) (by rw [r3]; exact a4.1)
      rw [r3] at a3
      have a2 := take_any (s := s1) (e := e1) (by rw [r2]; exact a3.1)
      rw [r2] at a2
      have a1 := take_any (s := s) (e := 0) (by rw [r1]; exact a2.1)
      rw [r1] at a1
      simp only at a1 a2 a3 a4 a5 a6
      have hr' : (nameB t1 = true ∧ nameB t2 = true) ∧ t3.length ≤ 300 := by simpa [rightB] using hr
      refine ⟨numV w1, numV w2, numV w3, t1, t2, t3, a1.2.2, a2.2.2, a3.2.2, nameB_len hr'.1.1, nameB_len hr'.1.2, hr'.2, hr, ?_, k⟩
      unfold plainB
      rw [a1.2.1, a2.2.1, a3.2.1, a4.2, a5.2, a6.2, q6]
      simp only [List.append_assoc, List.append_nil]
    · rw [if_neg hr] at k; exact .inr ⟨4, by decide, k⟩

theorem awake_ok : FnOk Try.prog tb 4 [] [4] [] [.bool true] := by
  refine FnOk_of_V (fn := Try.f4) (bt := 4) (ok 0 _) Try.func4 rfl rfl rfl (by decide) fun hw => ?_
  apply V_of_VX
  have hr : rightB [97] [98] [99] = true := by decide
  refine VX_go3 (fs := []) (ok 0 _) eqs trivial 100 [] rfl trivial ?_
  refine VX_callD (ok 0 _) [24] [] rfl rfl rfl rfl rfl rfl (bytes_yes 1 0 2 [97] [98] [99] (by decide) (by decide) (by decide) (by decide) (by decide) (by decide) hr).g rfl rfl rfl ?_
  refine VX_go3 (fs := []) (ok 0 _) eqs trivial 100 [] rfl trivial ?_
  refine VX_callD (ok 0 _) [9] [] rfl rfl rfl rfl rfl rfl (read_back 1 0 2 [97] [98] [99] (by decide) (by decide) (by decide) hr).g rfl rfl rfl ?_
  refine VX_go3 (fs := []) (ok 0 _) eqs trivial 100 [] rfl trivial ?_
  refine VX_callD (ok 0 _) [24] [] rfl rfl rfl rfl rfl rfl (bytes_no 0 0 0 [] [] [] (by decide) (by decide) rfl).g rfl rfl rfl ?_
  refine VX_go3 (fs := []) (ok 0 _) eqs trivial 100 [] rfl trivial ?_
  refine VX_known 26 true rfl rfl (by decide) ?_
  refine VX_go3 (fs := []) (ok 0 _) eqs trivial 100 [] rfl trivial ?_
  refine VX_known 30 true rfl rfl (by decide) ?_
  refine VX_go3 (fs := []) (ok 0 _) eqs trivial 100 [] rfl trivial ?_
  refine VX_callD (ok 0 _) [24, 24] [] rfl rfl rfl rfl rfl rfl (same_yes 1 0 2 [97] [98] [99]).g rfl rfl rfl ?_
  refine VX_known 33 true rfl rfl rfl ?_
  refine VX_go3 (fs := []) (ok 0 _) eqs trivial 100 [38] rfl trivial ?_
  refine VX_known 37 true rfl rfl (by decide) ?_
  refine VX_go3 (fs := []) (ok 0 _) eqs trivial 100 [] rfl trivial ?_
  exact ⟨.inr rfl, rfl⟩
def lightB (s r y : List UInt8) : Bool := decide (s.length ≤ 2000) && decide (r.length ≤ 2000) && decide (y.length ≤ 2000)
theorem light_ok (a b c : Nat) (s r y : List UInt8) : FnOk Try.prog tb 5 [24] [4] [ltE a b c s r y] [.bool (lightB s r y)] := by
  refine FnOk_of_V (fn := Try.f5) (bt := 4) (ok 0 _) Try.func5 rfl rfl rfl (by decide) fun hw => ?_
  apply V_of_VX
  refine VX_go3 (fs := []) (ok 0 _) eqs trivial 100 [] rfl trivial ?_
  refine VX_split 7 rfl rfl (fun h => ?_) (fun h => ?_)
  · have h1 : s.length ≤ 2000 := by simp at h; omega
    refine VX_go3 (fs := []) (ok 0 _) eqs trivial 100 [] rfl trivial ?_
    refine VX_split 13 rfl rfl (fun h => ?_) (fun h => ?_)
    · have h2 : r.length ≤ 2000 := by simp at h; omega
      refine VX_go3 (fs := []) (ok 0 _) eqs trivial 100 [] rfl trivial ?_
      refine ⟨.inr rfl, ?_⟩
      have : lightB s r y = decide ((y.length : Int) ≤ 2000) := by simp [lightB, h1, h2]; omega
      rw [this]; rfl
    · have h2 : ¬ r.length ≤ 2000 := by simp at h; omega
      refine VX_go3 (fs := []) (ok 0 _) eqs trivial 100 [] rfl trivial ?_
      refine ⟨.inr rfl, ?_⟩
      have : lightB s r y = false := by simp [lightB, h2]
      rw [this]; rfl
  · have h1 : ¬ s.length ≤ 2000 := by simp at h; omega
    refine VX_go3 (fs := []) (ok 0 _) eqs trivial 100 [] rfl trivial ?_
    refine ⟨.inr rfl, ?_⟩
    have : lightB s r y = false := by simp [lightB, h1]
    rw [this]; rfl

theorem wt_letter {x : E} (h : Wt tb 24 x) : ∃ a b c s r y, x = ltE a b c s r y ∧ a < 4294967296 ∧ b < 4294967296 ∧ c < 4294967296 := by
  obtain ⟨xs, rfl, hl, hx⟩ := wt_st h (fs := [(22, 0), (22, 1), (22, 2), (9, 3), (9, 4), (9, 5)]) rfl
  obtain ⟨a, b, c, s, r, y, rfl⟩ := list6 hl
  have num : ∀ x, Wt tb 22 x → ∃ k : Nat, x = .int k ∧ k < 4294967296 := fun x hx => by
    obtain ⟨n, rfl, hn⟩ := wt_int hx (k := .u32) rfl
    simp [inR] at hn
    exact ⟨n.toNat, by congr 1; omega, by omega⟩
  obtain ⟨a, rfl, ha⟩ := num a (hx 0 _ a rfl rfl)
  obtain ⟨b, rfl, hb⟩ := num b (hx 1 _ b rfl rfl)
  obtain ⟨c, rfl, hc⟩ := num c (hx 2 _ c rfl rfl)
  obtain ⟨s, rfl⟩ := wt_str (hx 3 _ s rfl rfl) rfl
  obtain ⟨r, rfl⟩ := wt_str (hx 4 _ r rfl rfl) rfl
  obtain ⟨y, rfl⟩ := wt_str (hx 5 _ y rfl rfl) rfl
  exact ⟨a, b, c, s, r, y, rfl, ha, hb, hc⟩

set_option maxHeartbeats 1600000 in
theorem back_ok (x0 x1 : E) : FnOk Try.prog tb 3 [24, 9] [4] [x0, x1] [.bool true] := by
  refine FnOk_of_V (fn := Try.f3) (bt := 4) (ok 0 _) Try.func3 rfl rfl rfl (by decide) fun hw => ?_
  obtain ⟨a, b, c, s, r, y, rfl, ha, hb, hc⟩ := wt_letter (hw 0 _ x0 rfl rfl)
  obtain ⟨q, rfl⟩ := wt_str (hw 1 _ x1 rfl rfl) rfl
  apply V_of_VX
  refine VX_go3 (fs := []) (ok 0 _) eqs trivial 100 [] rfl trivial ?_
  refine VX_callD (ok 0 _) [] [] rfl rfl rfl rfl rfl rfl awake_ok.g rfl rfl rfl ?_
  refine VX_known 13 true rfl rfl rfl ?_
  refine VX_go3 (fs := []) (ok 0 _) eqs trivial 100 [] rfl trivial ?_
  refine VX_callD (ok 0 _) [24] [] rfl rfl rfl rfl rfl rfl (light_ok a b c s r y).g rfl rfl rfl ?_
  refine VX_split 16 rfl rfl (fun h1 => ?_) (fun h1 => ?_)
  rotate_left
  · refine VX_go3 (fs := []) (ok 0 _) eqs trivial 100 [] rfl trivial ?_
    refine VX_callD (ok 0 _) [] [] rfl rfl rfl rfl rfl rfl awake_ok.g rfl rfl rfl ?_
    refine VX_go3 (fs := []) (ok 0 _) eqs trivial 100 [] rfl trivial ?_
    exact ⟨.inr rfl, rfl⟩
  have h1' : (s.length ≤ 2000 ∧ r.length ≤ 2000) ∧ y.length ≤ 2000 := by simpa [lightB] using h1
  refine VX_go3 (fs := []) (ok 0 _) eqs trivial 100 [] rfl trivial ?_
  refine VX_split 22 rfl rfl (fun h => ?_) (fun h => ?_)
  · refine VX_go3 (fs := []) (ok 0 _) eqs trivial 100 [] rfl trivial ?_
    refine VX_callD (ok 0 _) [] [] rfl rfl rfl rfl rfl rfl awake_ok.g rfl rfl rfl ?_
    refine VX_go3 (fs := []) (ok 0 _) eqs trivial 100 [] rfl trivial ?_
    exact ⟨.inr rfl, rfl⟩
  have hq : q.length ≤ 5000 := by simp at h; omega
  refine VX_go3 (fs := []) (ok 0 _) eqs trivial 100 [] rfl trivial ?_
  refine VX_via [(1, .t 9 (.e (.str q)))] [] rfl ?_ (fun hr => ?_)
  rotate_left
  · by_cases hx : rightB s r y = true
    · refine VX_callD (ok 0 _) [24] [] rfl rfl rfl rfl rfl rfl (bytes_yes a b c s r y ha hb hc (by omega) (by omega) (by omega) hx).g rfl rfl rfl ?_
      refine VX_go3 (fs := []) (ok 0 _) eqs trivial 100 [] rfl trivial ?_
      refine VX_known 30 true rfl rfl (by decide) ?_
      refine VX_go3 (fs := []) (ok 0 _) eqs trivial 100 [] rfl trivial ?_
      refine VX_callD (ok 0 _) [9] [] rfl rfl rfl rfl rfl rfl (read_back a b c s r y ha hb hc hx).g rfl rfl rfl ?_
      refine VX_go3 (fs := []) (ok 0 _) eqs trivial 100 [] rfl trivial ?_
      refine VX_known 38 false rfl rfl (by decide) ?_
      refine VX_go3 (fs := []) (ok 0 _) eqs trivial 100 [] rfl trivial ?_
      refine VX_callD (ok 0 _) [24, 24] [] rfl rfl rfl rfl rfl rfl (same_yes a b c s r y).g rfl rfl rfl ?_
      refine VX_known 41 true rfl rfl rfl ?_
      refine VX_go3 (fs := []) (ok 0 _) eqs trivial 100 [45] rfl trivial ?_
      exact VX_weakS rfl (wkc [.tree 24 (.e (ltE a b c s r y)), .tree 24 (.e (ltE a b c s r y))] rfl rfl (by simp) (lc (ls rfl rfl) lnil)) hr
    · refine VX_callD (ok 0 _) [24] [] rfl rfl rfl rfl rfl rfl (bytes_no a b c s r y (by omega) (by omega) (by simpa using hx)).g rfl rfl rfl ?_
      refine VX_go3 (fs := []) (ok 0 _) eqs trivial 100 [] rfl trivial ?_
      refine VX_known 30 false rfl rfl (by decide) ?_
      refine VX_go3 (fs := []) (ok 0 _) eqs trivial 100 [45] rfl trivial ?_
      exact VX_weakS rfl (wkc [.tree 24 (.e (ltE a b c s r y))] rfl rfl (by simp) (lc (ls rfl rfl) lnil)) hr
  refine VX_go3 (fs := []) (ok 0 _) eqs trivial 100 [] rfl trivial ?_
  rcases read_any q (by omega) with ⟨a', b', c', t, u, z, ha', hb', hc', lt, lu, lz, hx, hp, k⟩ | ⟨e, he, k⟩
  · refine VX_callD (ok 0 _) [9] [] rfl rfl rfl rfl rfl rfl k.g rfl rfl rfl ?_
    refine VX_go3 (fs := []) (ok 0 _) eqs trivial 100 [] rfl trivial ?_
    refine VX_callD (ok 0 _) [24] [] rfl rfl rfl rfl rfl rfl (bytes_yes a' b' c' t u z ha' hb' hc' (by omega) (by omega) (by omega) hx).g rfl rfl rfl ?_
    refine VX_go3 (fs := []) (ok 0 _) eqs trivial 100 [] rfl trivial ?_
    refine VX_callD (ok 0 _) [] [] rfl rfl rfl rfl rfl rfl awake_ok.g rfl rfl rfl ?_
    refine VX_known 54 true rfl rfl rfl ?_
    refine VX_go3 (fs := []) (ok 0 _) eqs trivial 100 [] rfl trivial ?_
    refine VX_known 58 false rfl rfl (by decide) ?_
    refine VX_go3 (fs := []) (ok 0 _) eqs trivial 100 [] rfl trivial ?_
    refine VX_known 61 true rfl rfl (by decide) ?_
    refine VX_go3 (fs := []) (ok 0 _) eqs trivial 100 [65] rfl trivial ?_
    refine VX_known 64 true rfl rfl (by simp [hp]) ?_
    refine VX_go3 (fs := []) (ok 0 _) eqs trivial 100 [] rfl trivial ?_
    exact ⟨.inr rfl, rfl⟩
  · refine VX_callD (ok 0 _) [9] [] rfl rfl rfl rfl rfl rfl k.g rfl rfl rfl ?_
    refine VX_go3 (fs := []) (ok 0 _) eqs trivial 100 [] rfl trivial ?_
    refine VX_callD (ok 0 _) [24] [] rfl rfl rfl rfl rfl rfl (bytes_no 0 0 0 [] [] [] (by decide) (by decide) rfl).g rfl rfl rfl ?_
    refine VX_go3 (fs := []) (ok 0 _) eqs trivial 100 [] rfl trivial ?_
    refine VX_callD (ok 0 _) [] [] rfl rfl rfl rfl rfl rfl awake_ok.g rfl rfl rfl ?_
    refine VX_known 54 true rfl rfl rfl ?_
    refine VX_go3 (fs := []) (ok 0 _) eqs trivial 100 [] rfl trivial ?_
    refine VX_known 58 true rfl rfl (by simp [he]) ?_
    refine VX_go3 (fs := []) (ok 0 _) eqs trivial 100 [] rfl trivial ?_
    exact ⟨.inr rfl, rfl⟩
end Go.Den.Q09
