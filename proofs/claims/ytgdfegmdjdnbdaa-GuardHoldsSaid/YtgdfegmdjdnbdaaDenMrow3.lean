/- Rows that are written: told once for all; made a text's; copied into an own array. -/
import Derived.Test.YtgdfegmdjdnbdaaDenMrow2
import Derived.Lib.UnsafeStr
import Derived.Laws.IdiomStrings
namespace Go.Den
open Go
set_option linter.unusedSectionVars false
set_option linter.unusedSimpArgs false
set_option linter.unusedVariables false

/-! ### freezing -/
theorem cell?_freeze (w : World) (a : Addr) (n : Nat) (b o : Nat) : (w.freeze a n).cell? ⟨b, o, none⟩ = w.cell? ⟨b, o, none⟩ := by
  unfold World.freeze
  split
  · rfl
  · simp only [World.cell?, Array.getElem?_modify]
    by_cases h : a.block = b
    · rw [if_pos h]
      cases w.heap[b]? with
      | none => rfl
      | some ob => cases ob <;> rfl
    · rw [if_neg h]
theorem shape?_freeze (w : World) (a : Addr) (n : Nat) (b : Nat) : (w.freeze a n).shape? b = w.shape? b := by
  unfold World.freeze
  split
  · rfl
  · simp only [World.shape?, Array.getElem?_modify]
    by_cases h : a.block = b
    · rw [if_pos h]
      cases w.heap[b]? with
      | none => rfl
      | some ob => cases ob <;> rfl
    · rw [if_neg h]
theorem heap_freeze (w : World) (a : Addr) (n : Nat) (b : Nat) (h : b ≠ a.block) : (w.freeze a n).heap[b]? = w.heap[b]? := by
  unfold World.freeze
  split
  · rfl
  · simp only [Array.getElem?_modify]; rw [if_neg (fun e => h e.symm)]
theorem frozen?_freeze (w : World) (a : Addr) (n : Nat) (b o : Nat) (h : b ≠ a.block) : (w.freeze a n).frozen? ⟨b, o, none⟩ = w.frozen? ⟨b, o, none⟩ := by
  simp only [World.frozen?]; rw [heap_freeze w a n b h]

/-- The ghost behind a row that is told once for all. -/
def frzH (H : Gh) (b n : Nat) (cs : List Value) : Gh := fun b' o => if b' = b ∧ o < n then .pers (cs.getD o undef) else H b' o

theorem Ev.frz {H H' : Gh} {β : List Value} {σ : List Blk} {i : Nat} {u : TypeId} {xs : List E} (hi : σ[i]? = some (.mrow u true xs)) (hp : ∀ b o v, H b o = .pers v → H' b o = .pers v) : Ev H β σ H' β (σ.set i (.mrow u false xs)) := by
  have hil : i < σ.length := (List.getElem?_eq_some_iff.1 hi).1
  refine ⟨hp, fun j ty z hj => ?_, fun j ety m hj => ?_, fun j s p hj => ?_, fun j ety oo zs hj => ?_⟩
  · have hne : i ≠ j := fun e => by subst e; rw [hi] at hj; cases hj
    exact ⟨rfl, z, by rw [List.getElem?_set_ne hne]; exact hj⟩
  · have hne : i ≠ j := fun e => by subst e; rw [hi] at hj; cases hj
    exact ⟨m, by rw [List.getElem?_set_ne hne]; exact hj, Nat.le_refl _, fun _ => rfl⟩
  · have hne : i ≠ j := fun e => by subst e; rw [hi] at hj; cases hj
    exact ⟨rfl, s, p, by rw [List.getElem?_set_ne hne]; exact hj⟩
  · by_cases hji : i = j
    · subst hji
      rw [hi] at hj; cases hj
      exact ⟨false, xs, by simp [hil], Nat.le_refl _, fun _ => rfl⟩
    · exact ⟨oo, zs, by rw [List.getElem?_set_ne hji]; exact hj, Nat.le_refl _, fun _ => rfl⟩

/-- A world, or that world with a run of cells of the row frozen. -/
def FrzW (w : World) (bv : Value) (u : TypeId) (tb : Tab) (w' : World) : Prop :=
  w' = w ∨ ∃ b n m c, w' = w.freeze ⟨b, 0, none⟩ n ∧ bv = .slice (some ⟨b, 0, none⟩) m c ∧ 0 < m * sz tb u

/-- A row is told once for all; some of its cells may be frozen with it. -/
theorem Rel.frz {tb H β σ w} (h : Rel tb H β σ w) {i : Nat} {u : TypeId} {xs : List E} (hi : σ[i]? = some (.mrow u true xs)) {bv : Value} (hβ : β[i]? = some bv) {w' : World} (hw : FrzW w bv u tb w') :
    ∃ H', Rel tb H' β (σ.set i (.mrow u false xs)) w' ∧ Stp H w H' w' ∧ (∀ ts, i ∈ ts → Frm ts H w H' w') ∧ Ev H β σ H' β (σ.set i (.mrow u false xs)) := by
  have hil : i < σ.length := (List.getElem?_eq_some_iff.1 hi).1
  have hM : MRel tb H w i bv u true xs := h.blk i _ _ hi hβ
  have hself : (σ.set i (.mrow u false xs))[i]? = some (.mrow u false xs) := by simp [hil]
  obtain ⟨b, n, cs, hc, hrd, hbn⟩ : ∃ b n cs, (∀ o, o < n → H b o = .mine i ∧ w.cell? ⟨b, o, none⟩ = some (cs.getD o undef)) ∧ (∀ t, td tb t = .sl u → Rd tb (frzH H b n cs) t [bv] (.sl xs)) ∧
      (∀ m c b', bv = .slice (some ⟨b', 0, none⟩) m c → 0 < m * sz tb u → b' = b ∧ ∀ o v, w.cell? ⟨b, o, none⟩ = some v → H b o = .mine i) := by
    rcases hM with ⟨rfl, rfl⟩ | ⟨b, c, cs, zs, rfl, e2, e3, e4, e5, e6, e7⟩
    · exact ⟨0, 0, [], fun o h => by omega, fun t ht => .sl0 ht, fun m c b' e => by cases e⟩
    · have hcl : ∀ o, o < cs.length → H b o = .mine i ∧ w.cell? ⟨b, o, none⟩ = some (cs.getD o undef) := fun o ho => by
        have := e7 o cs[o] (by rw [List.getElem?_append_left ho]; exact List.getElem?_eq_getElem ho)
        exact ⟨this.2.1, by rw [this.1]; simp [List.getD, List.getElem?_eq_getElem ho]⟩
      have hpm : ∀ b' o v, H b' o = .pers v → frzH H b cs.length cs b' o = .pers v := fun b' o v e => by
        unfold frzH; split
        · rename_i hh; obtain ⟨rfl, h2⟩ := hh; rw [(hcl o h2).1] at e; cases e
        · exact e
      refine ⟨b, cs.length, cs, hcl, fun t ht => ?_, fun m c' b' e hpos => ?_⟩
      · refine .sl ht e4.len (fun j v hj => ?_) (fun k x hx => (e4.el k x hx).mono hpm) e2.1 e3
        have hjl := (List.getElem?_eq_some_iff.1 hj).1
        rw [Nat.zero_add]
        unfold frzH; rw [if_pos ⟨rfl, hjl⟩]; simp [List.getD, hj]
      · cases e
        refine ⟨rfl, fun o v hv => ?_⟩
        have hsh := e6 (by have := Nat.mul_le_mul_right (sz tb u) e2.1; omega)
        have ho : o < c * sz tb u := by
          simp only [World.shape?] at hsh
          simp only [World.cell?] at hv
          cases hh : w.heap[b]? with
          | none => rw [hh] at hsh; cases hsh
          | some ob =>
            rw [hh] at hsh hv
            cases ob <;> simp at hsh hv
            rw [← hsh.2]; exact (Array.getElem?_eq_some_iff.1 hv).1
        exact (e7 o _ (List.getElem?_eq_getElem (by rw [e5]; exact ho))).2.1
  have hpm : ∀ b' o v, H b' o = .pers v → frzH H b n cs b' o = .pers v := fun b' o v e => by
    unfold frzH; split
    · rename_i hh; obtain ⟨rfl, h2⟩ := hh; rw [(hc o h2).1] at e; cases e
    · exact e
  have hmine : ∀ b' o j, j ≠ i → H b' o = .mine j → frzH H b n cs b' o = .mine j := fun b' o j hne e => by
    unfold frzH; split
    · rename_i hh; obtain ⟨rfl, h2⟩ := hh; rw [(hc o h2).1] at e; cases e; exact absurd rfl hne
    · exact e
  have hev := Ev.frz (β := β) hi hpm
  have hcell : ∀ b' o, w'.cell? ⟨b', o, none⟩ = w.cell? ⟨b', o, none⟩ := fun b' o => by
    rcases hw with rfl | ⟨b2, n2, m, c, rfl, _⟩
    · rfl
    · exact cell?_freeze _ _ _ _ _
  have hshp : ∀ b', w'.shape? b' = w.shape? b' := fun b' => by
    rcases hw with rfl | ⟨b2, n2, m, c, rfl, _⟩
    · rfl
    · exact shape?_freeze _ _ _ _
  have hb2 : ∀ b' , (∃ o v, w.cell? ⟨b', o, none⟩ = some v ∧ H b' o ≠ .mine i) ∨ (∀ o, H b' o ≠ .mine i) → w'.heap[b']? = w.heap[b']? := fun b' hne => by
    rcases hw with rfl | ⟨b2, n2, m, c, rfl, hbv, hpos⟩
    · rfl
    · obtain ⟨rfl, hall⟩ := hbn m c b2 hbv hpos
      by_cases hbb : b' = b2
      · subst hbb
        rcases hne with ⟨o, v, h1, h2⟩ | h1
        · exact absurd (hall o v h1) h2
        · exfalso
          rcases hM with ⟨e1, _⟩ | ⟨b, c', cs', zs, e1, e2, e3, e4, e5, e6, e7⟩
          · rw [hbv] at e1; cases e1
          · rw [hbv] at e1; cases e1
            have hlt : 0 < (cs' ++ zs).length := by rw [e5]; have := Nat.mul_le_mul_right (sz tb u) e2.1; omega
            exact h1 0 (e7 0 _ (List.getElem?_eq_getElem hlt)).2.1
      · exact heap_freeze _ _ _ _ hbb
  have hfz : ∀ b' o v, w.cell? ⟨b', o, none⟩ = some v → H b' o ≠ .mine i → w'.frozen? ⟨b', o, none⟩ = w.frozen? ⟨b', o, none⟩ := fun b' o v h1 h2 => by
    simp only [World.frozen?]; rw [hb2 b' (.inl ⟨o, v, h1, h2⟩)]
  have hsize : w'.heap.size = w.heap.size ∧ w'.os = w.os ∧ w'.tape = w.tape ∧ w'.output = w.output := by
    rcases hw with rfl | ⟨b2, n2, m, c, rfl, _⟩
    · exact ⟨rfl, rfl, rfl, rfl⟩
    · unfold World.freeze; split <;> simp
  have hpers' : ∀ b' o v, frzH H b n cs b' o = .pers v → w'.cell? ⟨b', o, none⟩ = some v := fun b' o v e => by
    rw [hcell]
    unfold frzH at e; split at e
    · rename_i hh; obtain ⟨rfl, h2⟩ := hh; cases e; exact (hc o h2).2
    · exact h.pers b' o v e
  refine ⟨frzH H b n cs, ⟨hpers', fun b' o e => ?_, by simp [h.len], fun j k bvj hk hv => ?_⟩, ?_, fun ts hts => ?_, hev⟩
  · rw [hsize.1]
    by_cases hh : H b' o = .none
    · unfold frzH at e; split at e
      · rename_i h2; obtain ⟨rfl, h2⟩ := h2; rw [(hc o h2).1] at hh; cases hh
      · exact absurd hh e
    · exact h.dom b' o hh
  · by_cases hji : i = j
    · subst hji
      rw [hself] at hk; cases hk
      rw [hβ] at hv; cases hv
      exact hrd
    · rw [List.getElem?_set_ne hji] at hk
      refine (h.blk j k bvj hk hv).mono hev (fun b' o e => ⟨hmine b' o j (fun e => hji e.symm) e, hcell b' o, fun v hv => hfz b' o v hv (by rw [e]; simp; exact fun e => hji e.symm), hshp b'⟩) (fun b' s p e he => ?_)
      rw [hb2 b' (.inr fun o => by rw [e o]; simp; exact fun e => hji e.symm)]; exact he
  · refine ⟨hsize.2.1, hsize.2.2.1, hsize.2.2.2, by rw [hsize.1]; exact Nat.le_refl _, fun b' _ o hn => ?_, fun b' _ o j e => ?_, fun b' _ hn => hb2 b' (.inr fun o => hn o i), fun b' _ o _ => hcell b' o, fun b' _ o v hv hn => hfz b' o v hv (hn i), fun b' _ => hshp b'⟩
    · unfold frzH; split
      · rename_i hh; obtain ⟨rfl, h2⟩ := hh; exact absurd (hc o h2).1 (hn i)
      · rfl
    · unfold frzH at e; split at e
      · cases e
      · exact ⟨j, e⟩
  · intro b' o v hv hk
    refine ⟨(hcell b' o).trans hv, ?_⟩
    rcases hk with ⟨x, hx⟩ | ⟨j, hj, hm⟩
    · exact .inl ⟨x, hpm _ _ _ hx⟩
    · exact .inr ⟨j, hj, hmine _ _ _ (fun e => hj (e ▸ hts)) hm⟩

theorem run_sliceData_none {P : Program} {w : World} {ts : Array TypeId} {ty : TypeId} {n c : Nat} : (Builtin.unsafeSliceData_ ts ty #[.slice none n c]).run P w = .ok (.pointer none) w := rfl
theorem run_sliceData_some {P : Program} {w : World} {ts : Array TypeId} {ty : TypeId} {n c : Nat} {a : Addr} (hc : c ≠ 0) : (Builtin.unsafeSliceData_ ts ty #[.slice (some a) n c]).run P w = .ok (.pointer (some a)) w := by
  have : Builtin.unsafeSliceData_ ts ty #[.slice (some a) n c] = (if c ≠ 0 then pure (.pointer (some a)) else do
    if (← viewAt a.block).isSome then pure (.pointer (some a)) else pure (.pointer (some ⟨← newObj (.view a (← elemOf ty)), 0, none⟩))) := rfl
  rw [this, if_pos hc]; rfl

section
variable {C : Cx} (hC : Ok C) {o : Oper} {env : Env} {σ : List Blk}
include hC

/-- unsafe.SliceData of a row that is written. -/
theorem Ok_sliceData {t u v : TypeId} {x : Operand} {tx : TypeId} {i n : Nat} {xs : List E} (ho : o.op = .call { callee := .builtin .unsafeSliceData, args := #[x], argTypes := #[t] }) (ht : td C.tb t = .sl u) (hu : td C.tb u = .int .u8)
    (hx : opd C.tb env t x = some (.t tx (.msl i n))) (hsx : same C.tb tx t = true) (hi : σ[i]? = some (.mrow u true xs)) (hn : n = xs.length) :
    OpOk C o env σ ⟨True, .mel u i n 0 [], σ⟩ :=
  OpOk_val fun H β a w hr he => by
    have hv := opd_rel he hx
    have hβ : β[i]? = some (a.eval x) := by
      generalize a.eval x = vx at hv ⊢
      cases hv with
      | @t ty v cs z aa bb => cases bb with
        | msl b1 b2 b3 =>
          have a' := aa
          simp [VC, isAggT, b1] at a'
          subst a'
          obtain ⟨ow, xs', k1, k2, k3⟩ := b3
          rw [hi] at k1; cases k1
          exact k3 hn
    have hM : MRel C.tb H w i (a.eval x) u true xs := hr.blk i _ _ hi hβ
    rcases hM with ⟨e0, e1⟩ | ⟨b, c, cs, zs, e1, e2, e3, e4, e5, e6, e7⟩
    · refine ⟨.pointer none, fun w' hw' => ?_, .mel (o := 0) (v := u) rfl ⟨true, xs, hi, by omega, fun _ hj => by rw [e1] at hn; simp at hn; omega⟩⟩
      rw [opdArg ho]
      simp [builtin, e0, run_sliceData_none]
    · refine ⟨.pointer (some ⟨b, 0, none⟩), fun w' hw' => ?_, .mel (o := 0) (v := u) rfl ⟨true, xs, hi, by omega, fun _ hj => ⟨b, c, by rw [hβ, e1, hn], by simp⟩⟩⟩
      rw [opdArg ho]
      have hc : c ≠ 0 := by omega
      simp [builtin, e1, run_sliceData_some hc]

theorem byteOf_of {ns : List Int} : (ns.map E.int).map byteOf = ns.map fun n => UInt8.ofNat n.toNat := by
  rw [List.map_map]; rfl

/-- unsafe.String of a row of bytes: the row is told once for all. -/
theorem OpF_unsafeString {pt it u : TypeId} {x y : Operand} {dx dy : D} {i n : Nat} {m : Int} {xs : List E} {ts : List Nat} (ho : o.op = .call { callee := .builtin .unsafeString, args := #[x, y], argTypes := #[pt, it] }) (hpt : td C.tb pt = .ptr u) (hit : td C.tb it = .int .i64) (hu : td C.tb u = .int .u8) (hrt : td C.tb o.type = .str)
    (hx : opd C.tb env pt x = some dx) (hdx : dx = .mel u i n 0 []) (hy : opd C.tb env it y = some dy) (hm : intAt C.tb it dy = some m) (hi : σ[i]? = some (.mrow u true xs)) (hn : n = xs.length) (hmn : m = xs.length) (hts : i ∈ ts) :
    OpF C o env σ ts (fun d s => d = .t o.type (.e (.str (xs.map byteOf))) ∧ s = σ.set i (.mrow u false xs)) := by
  intro H β a w hr he hd K Qx hK
  have hv := opd_rel he hx
  subst hdx
  obtain ⟨hyv, _⟩ := intAt_rel (opd_rel he hy) hm hit
  have hsz : sz C.tb u = 1 := hC.tab.sz_one (by simp [isAggT, hu]) (by rw [hu]; simp)
  have hil : i < σ.length := (List.getElem?_eq_some_iff.1 hi).1
  have hiβ : i < β.length := by rw [hr.len]; exact hil
  obtain ⟨bv, hβ⟩ : ∃ bv, β[i]? = some bv := ⟨_, List.getElem?_eq_getElem hiβ⟩
  have hM : MRel C.tb H w i bv u true xs := hr.blk i _ _ hi hβ
  have hfin : ∀ w', FrzW w bv u C.tb w' → (execOp a.eval o).run C.P w = .ok (.value (sv (xs.map byteOf))) w' → ((xs.map byteOf).length : Int) ≤ maxI → o.wp C.P a w K Qx := fun w' hw hrun hlen => by
    obtain ⟨H', h1, h2, h3, h4⟩ := hr.frz hi hβ hw
    simp only [Oper.wp, hrun, Oper.upon]
    exact hK _ _ w' H' β _ ⟨rfl, rfl⟩ h1 (.mkStr hrt hlen) h2 h4 (h3 ts hts)
  generalize hvx : a.eval x = vx at hv
  cases hv with
  | @mel u i n j path o' vt pa q1 q2 =>
    obtain ⟨ow, xs', k1, k2, k3⟩ := q2
    rw [hi] at k1; cases k1
    rcases Nat.eq_zero_or_pos n with h0 | hpos
    · have hxs : xs = [] := List.length_eq_zero_iff.1 (by omega)
      subst hxs
      refine hfin w (.inl rfl) ?_ (by simp [maxI])
      rw [opdArgs2 ho, hvx, hyv, hmn]
      have := Lib.run_unsafeString_none (P := C.P) w pt it o.type pa
      simp [builtin, this, sv]; rfl
    · obtain ⟨b, c, h1, h2⟩ := k3 hn hpos
      rw [hβ] at h1; cases h1
      rcases hM with ⟨e0, _⟩ | ⟨b', c', cs, zs, e1, e2, e3, e4, e5, e6, e7⟩
      · cases e0
      · cases e1
        have ho' : o' = 0 := by simp [offT] at q1; exact q1.1.symm
        subst ho'
        simp only [Nat.zero_mul, Nat.add_zero] at h2
        obtain ⟨ns, hcs, hxs⟩ := bytes_of hsz hu e4
        have hlen : (xs.map byteOf).length = xs.length := by simp
        have hcellv : ∀ j x, (xs.map byteOf)[j]? = some x → w.cell? ((⟨b, 0, none⟩ : Addr).add j) = some (.int .u8 x.toNat) := fun j x hx => by
          rw [add_plain, Nat.zero_add]
          rw [hxs, byteOf_of hC, List.getElem?_map, Option.map_eq_some_iff] at hx
          obtain ⟨k, hk, rfl⟩ := hx
          have hcj : cs[j]? = some (.int .u8 k) := by rw [hcs, List.getElem?_map, hk]; rfl
          have hjl := (List.getElem?_eq_some_iff.1 hcj).1
          have := e7 j _ (by rw [List.getElem?_append_left hjl]; exact hcj)
          rw [this.1]
          have hel := e4.el j (.int k) (by rw [hxs, List.getElem?_map, hk]; rfl)
          rw [hsz, Nat.mul_one] at hel
          have hseg : seg cs j 1 = [.int .u8 k] := by
            apply List.ext_getElem?
            intro q
            rcases Nat.eq_zero_or_pos q with hq | hq
            · subst hq; rw [seg_get (by omega)]; simp [hcj]
            · rw [List.getElem?_eq_none (by simp [seg]; omega), List.getElem?_eq_none (by simp; omega)]
          rw [hseg] at hel
          cases hel with
          | int g1 g2 =>
            rw [hu] at g1; cases g1
            have hr := wrap_inR .u8 k
            rw [g2] at hr
            simp [inR] at hr
            congr 1
            simp [UInt8.toNat_ofNat']
            omega
        have hlpos : 0 < xs.length := by omega
        have hrow := Lib.run_unsafeString_row (P := C.P) w pt it o.type u (hC.tab.ptr hpt) (by
          obtain ⟨inf, hinf, hs1, _⟩ := hC.tab.info (hC.tab.lt_of_td (t := u) (by rw [hu]; simp))
          simp [Program.cellsOf, hinf, hs1, hsz]) b (c * 1) (by rw [hsz] at e6; exact e6 (by omega)) (xs.map byteOf) (by intro e; rw [e] at hlen; simp at hlen; omega) (by rw [hlen]; omega) (by rw [hlen]; unfold maxN at e3; exact e3) hcellv
        refine hfin (w.freeze ⟨b, 0, none⟩ (xs.map byteOf).length) (.inr ⟨b, _, _, c, rfl, rfl, by rw [hsz]; omega⟩) ?_ (by rw [hlen]; unfold maxN at e3; unfold maxI; omega)
        rw [opdArgs2 ho, hvx, hyv, hmn, h2]
        rw [hlen] at hrow ⊢
        simp [builtin, hrow, sv]
end
end Go.Den
