/- append: a slice that is the newest of a row of the call's own grows. -/
import Derived.Test.YtgdfegmdjdnbdaaDenCall
import Derived.Laws.Append
import Derived.Laws.AppendOwn
namespace Go.Den
open Go
set_option linter.unusedSectionVars false
set_option linter.unusedSimpArgs false
set_option linter.unusedVariables false

theorem Rel.drew {tb H β σ w} (h : Rel tb H β σ w) : Rel tb H β σ w.drew :=
  ⟨h.pers, h.dom, h.len, fun i k bv hk hv => by
    have := h.blk i k bv hk hv
    cases k with
    | tree ty x => exact this
    | row ety n => exact this
    | iter s p => exact this
    | dead => trivial
    | mrow u o xs => exact this⟩
theorem Stp.drew (H : Gh) (w : World) : Stp H w H w.drew :=
  ⟨rfl, rfl, rfl, Nat.le_refl _, fun _ _ _ _ => rfl, fun _ _ _ i h => ⟨i, h⟩, fun _ _ _ => rfl, fun _ _ _ _ => rfl, fun _ _ _ _ _ _ => rfl, fun _ _ => rfl⟩

/-- The world behind an append that had room. -/
def inPlace (w : World) (ba : Option Addr) (k : Nat) (news : List Value) : World := match ba with
  | some a => w.setCells a.block (a.off + k) news
  | none => w

section
variable {C : Cx} (hC : Ok C) {o : Oper} {env : Env} {σ : List Blk}
include hC

/-- What append does, as the model runs it. -/
theorem run_append_any {t t2 ty u : TypeId} (ht : td C.tb t = .sl u) (hz : plain C.tb zf u = true) {ba : Option Addr} {n cap m : Nat} {x : Value} {olds news : List Value} {w : World}
    (h2 : t2 = t ∨ td C.tb t2 = .str) (hlx : (Builtin.lenOf x).run C.P w = .ok m w) (hfx : ∀ w : World, w.heap = w.heap → True)
    (hnew : ∀ w', (∀ b o v, w.cell? ⟨b, o, none⟩ = some v → w'.cell? ⟨b, o, none⟩ = some v) → (Builtin.firstCells (sz C.tb u) m x).run C.P w' = .ok news.toArray w')
    (hol : olds.length = n * sz C.tb u) (hold : ∀ b off, ba = some ⟨b, off, none⟩ → ∀ (j : Nat) v, olds[j]? = some v → w.cell? ⟨b, off + j, none⟩ = some v) (hnone : ba = none → n = 0 ∧ cap = 0) (hspot : ∀ a, ba = some a → a.spot = none)
    (hnl : news.length = m * sz C.tb u) (h1 : ∀ v ∈ news, v.oneCell' = true)
    (hroom : n + m ≤ cap → ∀ b off, ba = some ⟨b, off, none⟩ → ∀ j, j < news.length → (w.cell? ⟨b, off + n * sz C.tb u + j, none⟩).isSome = true ∧ w.frozen? ⟨b, off + n * sz C.tb u + j, none⟩ = false)
    (hbytes : (n + m) * nb C.tb u ≤ maxL) (hmax : n + m ≤ maxL) :
    (n + m ≤ cap ∧ (Builtin.append_ #[t, t2] ty #[.slice ba n cap, x]).run C.P w = .ok (.slice ba (n + m) cap) (inPlace w ba (n * sz C.tb u) news)) ∨
    (¬ n + m ≤ cap ∧ ∃ nc, ∃ zs : List Value, n + m ≤ nc ∧ zs.length = (nc - (n + m)) * sz C.tb u ∧
      (Builtin.append_ #[t, t2] ty #[.slice ba n cap, x]).run C.P w = .ok (.slice (some ⟨w.heap.size, 0, none⟩) (n + m) nc) (w.drew.alloc (.cells (olds ++ news ++ zs).toArray u))) := by
  have hu := plain_ne hz
  have hlt := hC.tab.lt_of_td hu
  obtain ⟨i, hi, hsz, hby⟩ := hC.tab.info hlt
  obtain ⟨z, hzr, hzc⟩ := hC.zero.get hC.tab hz w
  have hzl : z.cells.size = sz C.tb u := by
    have := (zeroT_rel hC.tab (H := fun _ _ => .none) (β := []) (σ := []) zf u hz).len hC.tab
    rw [← hzc] at this; simpa using this
  have hzv : i.zero = some z := by
    simp [zeroValue, typeInfo, hi] at hzr
    cases hq : i.zero with
    | none => simp [hq] at hzr
    | some z' => simp [hq] at hzr; rw [hzr]
  have hund := hC.tab.sl ht
  have hund2 : ∃ d2, C.P.underlying t2 = some d2 ∧ (d2 = .slice u ∨ d2 = .string) := by
    rcases h2 with rfl | h2
    · exact ⟨_, hund, .inl rfl⟩
    · exact ⟨_, hC.tab.str h2, .inr rfl⟩
  obtain ⟨d2, hd2, rfl | rfl⟩ := hund2
  all_goals
      by_cases hr : n + m ≤ cap
      · refine .inl ⟨hr, ?_⟩
        cases ba with
        | none =>
          obtain ⟨rfl, rfl⟩ := hnone rfl
          have hm0 : m = 0 := by omega
          subst hm0
          have hnews : news = [] := List.length_eq_zero_iff.1 (by simpa using hnl)
          subst hnews
          simp [Builtin.append_, run_underlying_of hC.tab hund, run_underlying_of hC.tab hd2, sizeOf, typeInfo, hi, hsz, hlx, hnew w (fun _ _ _ h => h), inPlace]
        | some a =>
          obtain ⟨b, off, sp⟩ := a
          have hsp : sp = none := hspot _ rfl
          subst hsp
          have hst := run_storeCells_cells (P := C.P) b (off + n * sz C.tb u) news 0 w (fun j hj => by simpa using (hroom hr b off rfl j hj).1) (fun j hj => by simpa using (hroom hr b off rfl j hj).2) h1
          simp only [Nat.add_zero] at hst
          have hadd : (⟨b, off, none⟩ : Addr).add (n * sz C.tb u) = ⟨b, off + n * sz C.tb u, none⟩ := add_plain _ _ _
          simp [Builtin.append_, run_underlying_of hC.tab hund, run_underlying_of hC.tab hd2, sizeOf, typeInfo, hi, hsz, hlx, hnew w (fun _ _ _ h => h), hr, hadd, hst, inPlace]
      · refine .inr ⟨hr, ?_⟩
        have hcaplt : cap < n + m := by omega
        have hgf := growslice_fits hcaplt (show (n + m) * nb C.tb u ≤ 140737488355328 from hbytes)
        refine ⟨Question.cut (.appendCap (n + m) cap u) (w.tape w.drawn (.appendCap (n + m) cap u)), (Builtin.zeroCells z.cells (Question.cut (.appendCap (n + m) cap u) (w.tape w.drawn (.appendCap (n + m) cap u)) - (n + m))).toList, by simp [Question.cut], by simp [Builtin.zeroCells, hzl], ?_⟩
        have hof : (Builtin.firstCells (sz C.tb u) n (.slice ba n cap)).run C.P w.drew = .ok olds.toArray w.drew := by
          cases ba with
          | none =>
            obtain ⟨rfl, rfl⟩ := hnone rfl
            have : olds = [] := List.length_eq_zero_iff.1 (by simpa using hol)
            subst this; rfl
          | some a =>
            obtain ⟨b, off, sp⟩ := a
            have hsp : sp = none := hspot _ rfl
            subst hsp
            exact run_firstCells_some _ (sz C.tb u) n ⟨b, off, none⟩ n cap olds hol (fun j v hj => by rw [add_plain]; exact hold b off rfl j v hj)
        have hbig : ¬ (Builtin.nextslicecap (n + m) cap * nb C.tb u > 2 ^ 48) := by omega
        have hmx : ¬ (((n + m : Nat) : Int) > IntKind.max .i64) := by
          have : IntKind.max .i64 = 9223372036854775807 := by decide
          rw [this]; unfold maxL at hmax; omega
        have hmx' : ¬ ((n : Int) + (m : Int) > IntKind.max .i64) := by simpa using hmx
        have hzr' : ∀ w' : World, (zeroValue u).run C.P w' = .ok z w' := fun w' => by simp [zeroValue, typeInfo, hi, hzv]
        have hforced : (Question.appendCap (n + m) cap u).forced = false := rfl
        simp [Builtin.append_, run_underlying_of hC.tab hund, run_underlying_of hC.tab hd2, sizeOf, typeInfo, hi, hsz, hby, hlx, hr, hbig, hmx', hforced, hof, hnew w.drew (fun _ _ _ h => h), hzr', newRow]
        rw [if_neg (by unfold maxL at hmax; omega)]
        congr 3
        apply Array.ext'
        simp

end
end Go.Den
