/- Law 34: GuardSweeps. -/
import Derived.Test.YtgdfegmdjdnbdaaQ34D
namespace Go.Den.Q34
open Go Go.Den Go.Proofs
set_option maxRecDepth 8000
set_option linter.unusedVariables false

theorem wt_u32 {t : TypeId} {x : E} (h : Wt tb t x) (ht : td tb t = .int .u32) : ∃ n : Nat, x = .int n ∧ n < 4294967296 := by
  obtain ⟨n, rfl, hn⟩ := wt_int h ht
  simp only [inR, Bool.and_eq_true, decide_eq_true_eq] at hn
  exact ⟨n.toNat, by congr 1; omega, by omega⟩
theorem wt_u64 {t : TypeId} {x : E} (h : Wt tb t x) (ht : td tb t = .int .u64) : ∃ n : Nat, x = .int n ∧ n < 18446744073709551616 := by
  obtain ⟨n, rfl, hn⟩ := wt_int h ht
  simp only [inR, Bool.and_eq_true, decide_eq_true_eq] at hn
  exact ⟨n.toNat, by congr 1; omega, by omega⟩
theorem wt_rl {x : E} (h : Wt tb 47 x) : ∃ r : {r : Rl // r.ok}, x = r.1.e := by
  obtain ⟨l, rfl, hl, hw⟩ := wt_st h rfl
  obtain ⟨a, b, c, d, rfl⟩ := list4 hl
  obtain ⟨n0, rfl, h0⟩ := wt_u32 (hw 0 _ a rfl rfl) rfl
  obtain ⟨s, rfl⟩ := wt_str (hw 1 _ b rfl rfl) rfl
  obtain ⟨n1, rfl, h1⟩ := wt_u64 (hw 2 _ c rfl rfl) rfl
  obtain ⟨n2, rfl, h2⟩ := wt_u64 (hw 3 _ d rfl rfl) rfl
  exact ⟨⟨⟨n0, s, n1, n2⟩, ⟨h0, h1, h2⟩⟩, rfl⟩
theorem wt_en {x : E} (h : Wt tb 62 x) : ∃ r : {r : En // r.ok}, x = r.1.e := by
  obtain ⟨l, rfl, hl, hw⟩ := wt_st h rfl
  obtain ⟨a, b, c, d, rfl⟩ := list4 hl
  obtain ⟨n0, rfl, h0⟩ := wt_u32 (hw 0 _ a rfl rfl) rfl
  obtain ⟨s, rfl⟩ := wt_str (hw 1 _ b rfl rfl) rfl
  obtain ⟨n1, rfl, h1⟩ := wt_u64 (hw 2 _ c rfl rfl) rfl
  obtain ⟨n2, rfl, h2⟩ := wt_u64 (hw 3 _ d rfl rfl) rfl
  exact ⟨⟨⟨n0, s, n1, n2⟩, ⟨h0, h1, h2⟩⟩, rfl⟩
theorem wt_guard {x : E} (h : Wt tb 25 x) : ∃ rs es, x = gE rs es ∧ (∀ r ∈ rs, r.ok) ∧ (∀ x ∈ es, x.ok) ∧ rs.length ≤ 9223372036854775807 ∧ es.length ≤ 9223372036854775807 := by
  obtain ⟨l, rfl, hl, hw⟩ := wt_st h rfl
  obtain ⟨a, b, rfl⟩ := list2 hl
  have ha := hw 0 _ a rfl rfl
  have hb := hw 1 _ b rfl rfl
  obtain ⟨xs, rfl, hx⟩ := wt_sl ha rfl
  obtain ⟨ys, rfl, hy⟩ := wt_sl hb rfl
  obtain ⟨rs, rfl⟩ := map_ex fun y hy' => wt_rl (hx y hy')
  obtain ⟨es, rfl⟩ := map_ex fun y hy' => wt_en (hy y hy')
  have l1 := wt_len ha
  have l2 := wt_len hb
  simp only [List.length_map, maxN] at l1 l2
  refine ⟨rs.map (·.1), es.map (·.1), by simp [gE], ?_, ?_, by simpa using l1, by simpa using l2⟩
  · intro r hr; obtain ⟨z, _, rfl⟩ := List.mem_map.1 hr; exact z.2
  · intro r hr; obtain ⟨z, _, rfl⟩ := List.mem_map.1 hr; exact z.2

theorem ridx_congr {t : Nat} {rs : List Rl} {j : Nat} {hj : j < rs.length} {o : Nat} {nm : List UInt8} (h : hits o nm rs[j] = true) (x : En) (hc : cnt x rs[j] t = true) : x.o = o ∧ x.nm = nm := by
  simp only [hits, cnt, Bool.and_eq_true, decide_eq_true_eq] at h hc
  exact ⟨hc.1.1.trans h.1, hc.1.2.trans h.2⟩
theorem cnt_mono {x : En} {r : Rl} {a b : Nat} (h : a ≤ b) (hc : cnt x r b = true) : cnt x r a = true := by
  simp only [cnt, Bool.and_eq_true, decide_eq_true_eq] at hc ⊢
  exact ⟨hc.1, by omega⟩
/-- What counts later was kept. -/
theorem keep_cnt {rs : List Rl} {o : Nat} {nm : List UInt8} {j : Nat} (hj : j < rs.length) (hx : ridx o nm rs 0 = (j : Nat)) (hh : hits o nm rs[j] = true) {a b : Nat} (hab : a ≤ b) {x : En} (hc : cnt x rs[j] b = true) : keepB rs a x = true := by
  obtain ⟨h1, h2⟩ := ridx_congr hh x hc
  unfold keepB
  rw [h1, h2, hx]
  show (match rs[j]? with | some r => cnt x r a | none => false) = _
  rw [List.getElem?_eq_getElem hj]
  exact cnt_mono hab hc
theorem sumF_filter (r : Rl) (now : Nat) (p : En → Bool) (hp : ∀ x, cnt x r now = true → p x = true) : ∀ (es : List En) (n : Nat), sumF r now (es.filter p) n = sumF r now es n
  | [], n => rfl
  | x :: es, n => by
    rw [List.filter_cons]
    by_cases hc : cnt x r now = true
    · rw [if_pos (hp x hc)]
      simp only [sumF, hc, if_true, sumF_filter r now p hp es]
    · by_cases hpx : p x = true
      · rw [if_pos hpx]; simp only [sumF, hc, sumF_filter r now p hp es]
      · rw [if_neg hpx]; simp only [sumF, hc, sumF_filter r now p hp es]; rfl
theorem filter2 (rs : List Rl) (a : Nat) (es : List En) : (es.filter (keepB rs a)).filter (keepB rs a) = es.filter (keepB rs a) := by simp [List.filter_filter]
theorem counts_sw (rs : List Rl) (es : List En) (o : Nat) (nm : List UInt8) (a b : Nat) (hab : a ≤ b) : countsB rs (es.filter (keepB rs a)) o nm b = countsB rs es o nm b := by
  rcases ridx_cases o nm rs with hx | ⟨j, hj, hx, hh⟩
  · unfold countsB; rw [hx]; rfl
  · unfold countsB; rw [hx]
    show (match rs[j]? with | some r => ((sumF r b (es.filter (keepB rs a)) 0).1, decide ((sumF r b (es.filter (keepB rs a)) 0).2 = 0)) | none => (0, false)) = (match rs[j]? with | some r => ((sumF r b es 0).1, decide ((sumF r b es 0).2 = 0)) | none => (0, false))
    rw [List.getElem?_eq_getElem hj]
    simp only [sumF_filter rs[j] b (keepB rs a) (fun x hc => keep_cnt hj hx hh hab hc) es 0]
theorem allow_sw (rs : List Rl) (es : List En) (o : Nat) (nm : List UInt8) (n a b : Nat) (hab : a ≤ b) (hl : es.length ≤ 100) : (allowB rs (es.filter (keepB rs a)) o nm n b).2 = (allowB rs es o nm n b).2 := by
  rcases ridx_cases o nm rs with hx | ⟨j, hj, hx, hh⟩
  · unfold allowB; rw [hx]; rfl
  · have hfl := List.length_filter_le (keepB rs a) es
    unfold allowB; rw [hx]
    show ((match rs[j]? with | some r => allowR (es.filter (keepB rs a)) r o nm n b (sumF r b (es.filter (keepB rs a)) 0) | none => (es.filter (keepB rs a), 0)) : List En × Int).2 = ((match rs[j]? with | some r => allowR es r o nm n b (sumF r b es 0) | none => (es, 0)) : List En × Int).2
    rw [List.getElem?_eq_getElem hj]
    simp only [sumF_filter rs[j] b (keepB rs a) (fun x hc => keep_cnt hj hx hh hab hc) es 0]
    unfold allowR
    have z1 : ¬ 4096 ≤ (es.filter (keepB rs a)).length := by omega
    have z2 : ¬ 4096 ≤ es.length := by omega
    simp only [z1, z2, if_false]
    split
    · rfl
    · split
      · rfl
      · split <;> rfl

set_option maxHeartbeats 1600000 in
theorem sweeps_ok (x0 x1 x2 x3 x4 x5 : E) : FnOk Try.prog tb 3 [25, 26, 26, 27, 9, 26] [4] [x0, x1, x2, x3, x4, x5] [.bool true] := by
  refine FnOk_of_V (fn := Try.f3) (bt := 4) (ok 0 _) Try.func3 rfl rfl rfl (by decide) fun hw => ?_
  obtain ⟨rs, es, rfl, hrs, hes, hl1, hl2⟩ := wt_guard (hw 0 _ x0 rfl rfl)
  obtain ⟨a, rfl, ha⟩ := wt_u64 (hw 1 _ x1 rfl rfl) rfl
  obtain ⟨b, rfl, hb⟩ := wt_u64 (hw 2 _ x2 rfl rfl) rfl
  obtain ⟨o, rfl, ho⟩ := wt_u32 (hw 3 _ x3 rfl rfl) rfl
  obtain ⟨nm, rfl⟩ := wt_str (hw 4 _ x4 rfl rfl) rfl
  obtain ⟨n, rfl, hn⟩ := wt_u64 (hw 5 _ x5 rfl rfl) rfl
  clear hw
  apply V_of_VX
  refine VX_go3 (fs := []) (ok 0 _) eqs trivial 100 [] rfl trivial ?_
  refine VX_callD (ok 0 _) [] [] rfl rfl rfl rfl rfl rfl awake_ok.g rfl rfl rfl ?_
  refine VX_go3 (fs := []) (ok 0 _) eqs trivial 100 [] rfl trivial ?_
  refine VX_known 23 false rfl rfl rfl ?_
  refine VX_go3 (fs := []) (ok 0 _) eqs trivial 100 [] rfl trivial ?_
  refine VX_callD (ok 0 _) [25] [] rfl rfl rfl rfl rfl rfl (few_ok rs es hl1 hl2).g rfl rfl rfl ?_
  refine VX_go3 (fs := []) (ok 0 _) eqs trivial 100 [] rfl trivial ?_
  refine VX_split 27 rfl rfl (fun h => ?_) (fun hf => ?_)
  · refine VX_go3 (fs := []) (ok 0 _) eqs trivial 100 [] rfl trivial ?_
    exact ⟨.inr rfl, rfl⟩
  refine VX_go3 (fs := []) (ok 0 _) eqs trivial 100 [] rfl trivial ?_
  refine VX_split 33 rfl rfl (fun h => ?_) (fun h1 => ?_)
  · refine VX_go3 (fs := []) (ok 0 _) eqs trivial 100 [] rfl trivial ?_
    exact ⟨.inr rfl, rfl⟩
  refine VX_go3 (fs := []) (ok 0 _) eqs trivial 100 [] rfl trivial ?_
  refine VX_split 38 rfl rfl (fun h => ?_) (fun h2 => ?_)
  · refine VX_go3 (fs := []) (ok 0 _) eqs trivial 100 [] rfl trivial ?_
    exact ⟨.inr rfl, rfl⟩
  refine VX_go3 (fs := []) (ok 0 _) eqs trivial 100 [] rfl trivial ?_
  refine VX_split 42 rfl rfl (fun h => ?_) (fun h3 => ?_)
  · refine VX_go3 (fs := []) (ok 0 _) eqs trivial 100 [] rfl trivial ?_
    exact ⟨.inr rfl, rfl⟩
  have hlen : ((es.map En.e).length : Int) = es.length := by simp
  have hl : es.length ≤ 100 := by have : ¬ (100 : Int) < (((es.map En.e).length : Nat) : Int) := by simpa using h1
                                  rw [hlen] at this; omega
  have hab : a ≤ b := by have : ¬ (b : Int) < a := by simpa using h3
                         omega
  have hlr : rs.length ≤ 60 := by
    have hf' : fewB rs es = true := by simpa using hf
    cases rs with
    | nil => simp
    | cons r rs =>
      simp only [fewB, List.all_cons, fewR, Bool.and_eq_true, decide_eq_true_eq] at hf'
      exact hf'.1.1.1.1
  clear h1 h2 h3 hf
  have hfl := List.length_filter_le (keepB rs a) es
  have hes' : ∀ x ∈ es.filter (keepB rs a), x.ok := fun x hx => hes x (List.mem_filter.1 hx).1
  have c1 := (sweep_ok rs es a hrs hes ha (by omega) (by omega)).g
  have c2 := (allow_ok rs es o nm n b hrs hes hn hb (by omega) (by omega)).g
  have c3 := (allow_ok rs (es.filter (keepB rs a)) o nm n b hrs hes' hn hb (by omega) (by omega)).g
  have c4 := (countsG_ok rs es o nm b hrs hes hb (by omega) (by omega)).g
  have c5 := (countsG_ok rs (es.filter (keepB rs a)) o nm b hrs hes' hb (by omega) (by omega)).g
  have c6 := (sweep_ok rs (es.filter (keepB rs a)) a hrs hes' ha (by omega) (by omega)).g
  have c7 := (to_ok rs (es.filter (keepB rs a)) (by omega) (by omega)).g
  have c8 := (same_ok rs (es.filter (keepB rs a)) (by omega) (by omega)).g
  rw [filter2] at c6
  rw [counts_sw rs es o nm a b hab] at c5
  have e2 := allow_sw rs es o nm n a b hab hl
  rw [e2] at c3
  have hle : ((((es.filter (keepB rs a)).map En.e).length : Nat) : Int) ≤ (((es.map En.e).length : Nat) : Int) := by simp only [List.length_map]; omega
  generalize es.filter (keepB rs a) = fs at *
  generalize (countsB rs es o nm b).1 = k1 at *
  generalize (countsB rs es o nm b).2 = k2 at *
  generalize (allowB rs es o nm n b).2 = k3 at *
  refine VX_go3 (fs := []) (ok 0 _) eqs trivial 100 [] rfl trivial ?_
  refine VX_callD (ok 0 _) [25, 26] [] rfl rfl rfl rfl rfl rfl c1 rfl rfl rfl ?_
  refine VX_go3 (fs := []) (ok 0 _) eqs trivial 100 [] rfl trivial ?_
  refine VX_callD (ok 0 _) [25, 27, 9, 26, 26] [] rfl rfl rfl rfl rfl rfl c2 rfl rfl rfl ?_
  refine VX_go3 (fs := []) (ok 0 _) eqs trivial 100 [] rfl trivial ?_
  refine VX_callD (ok 0 _) [25, 27, 9, 26, 26] [] rfl rfl rfl rfl rfl rfl c3 rfl rfl rfl ?_
  refine VX_go3 (fs := []) (ok 0 _) eqs trivial 100 [] rfl trivial ?_
  refine VX_callD (ok 0 _) [25, 27, 9, 26] [] rfl rfl rfl rfl rfl rfl c4 rfl rfl rfl ?_
  refine VX_go3 (fs := []) (ok 0 _) eqs trivial 100 [] rfl trivial ?_
  refine VX_callD (ok 0 _) [25, 27, 9, 26] [] rfl rfl rfl rfl rfl rfl c5 rfl rfl rfl ?_
  refine VX_go3 (fs := []) (ok 0 _) eqs trivial 100 [] rfl trivial ?_
  refine VX_draw [] [(0,true),(1,true),(2,true),(3,true),(4,true),(5,true),(6,true),(7,true),(8,true),(9,true),(10,true),(11,true),(12,true),(13,true),(14,true),(15,true),(16,true),(17,true),(18,true),(19,true),(20,true),(21,true),(22,true),(23,true),(24,true),(27,true),(25,false),(26,false),(28,false),(29,false),(30,true),(31,true)] mixed (by kernel_rfl) (by kernel_rfl) (by kernel_rfl) ?_
  refine VX_go3 (fs := []) (ok 0 _) eqs trivial 100 [] rfl trivial ?_
  refine VX_known 83 true rfl rfl (by simp) ?_
  refine VX_go3 (fs := []) (ok 0 _) eqs trivial 100 [] rfl trivial ?_
  refine VX_known 88 true rfl rfl (by simp) ?_
  refine VX_go3 (fs := []) (ok 0 _) eqs trivial 100 [] rfl trivial ?_
  refine VX_known 93 true rfl rfl (by simp) ?_
  refine VX_go3 (fs := []) (ok 0 _) eqs trivial 100 [] rfl trivial ?_
  refine VX_known 102 true rfl rfl (by simpa using hle) ?_
  refine VX_go3 (fs := []) (ok 0 _) eqs trivial 100 [] rfl trivial ?_
  refine VX_callO (ok 0 _) [25, 26] [] rfl rfl rfl rfl rfl rfl rfl rfl c6 rfl rfl rfl ?_
  refine VX_go3 (fs := []) (ok 0 _) eqs trivial 100 [] rfl trivial ?_
  refine VX_callO (ok 0 _) [25] [] rfl rfl rfl rfl rfl rfl rfl rfl c7 rfl rfl rfl ?_
  refine VX_go3 (fs := []) (ok 0 _) eqs trivial 100 [] rfl trivial ?_
  refine VX_callO (ok 0 _) [25] [] rfl rfl rfl rfl rfl rfl rfl rfl c7 rfl rfl rfl ?_
  refine VX_go3 (fs := []) (ok 0 _) eqs trivial 100 [] rfl trivial ?_
  refine VX_callO (ok 0 _) [40, 40] [] rfl rfl rfl rfl rfl rfl rfl rfl c8 rfl rfl rfl ?_
  refine VX_go3 (fs := []) (ok 0 _) eqs trivial 100 [] rfl trivial ?_
  exact ⟨.inr rfl, rfl⟩
end Go.Den.Q34
