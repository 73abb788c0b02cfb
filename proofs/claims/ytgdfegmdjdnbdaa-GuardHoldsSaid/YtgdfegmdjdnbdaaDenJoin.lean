/- Two ways that meet again. -/
import Derived.Test.YtgdfegmdjdnbdaaDenWt
namespace Go.Den
open Go
set_option linter.unusedVariables false

/-- A stack with its next region unfolded. -/
def unf : Nat → List It → List It
  | 0, k => k
  | n + 1, k => match k with
    | .c (.seq a b) :: k => unf n (.c a :: .c b :: k)
    | .c (.region _ ⟨l⟩ false) :: k => .r l l :: k
    | .c (.block id c) :: k => unf n (.c c :: .b id :: k)
    | .c .skip :: k => unf n k
    | k => k
/-- What comes behind the next test. -/
def behind : Nat → List It → List It
  | 0, k => k
  | n + 1, k => match k with
    | .r _ _ :: k => behind n k
    | .o _ _ _ :: k => behind n k
    | .c (.seq a b) :: k => behind n (.c a :: .c b :: k)
    | .c (.region _ _ _) :: k => behind n k
    | .c (.cond _ _ _) :: k => unf 40 k
    | .c .skip :: k => behind n k
    | k => k
def splitsCR : List It → Bool
  | .c _ :: _ | .r _ _ :: _ => true
  | _ => false
section
variable {C : Cx} {env : Env} {σ : List Blk} {Q : Post}
theorem VX_weakS {k : List It} {env' : Env} {σ' : List Blk} (hk : splitsCR k = true) (hw : Weak C.k0 env' σ' env σ) (h : VX C Q k .nrm env' σ') : VX C Q k .nrm env σ := by
  match k, hk with
  | .c code :: k, _ => exact V_weak hw h
  | .r full l :: k, _ =>
    intro H β a w hr he hd
    have r := hw.res (C := C) (H := H) (β := β) (σ := σ) (w := w) (a' := a) (w' := w) (H' := H) (β' := β) ⟨hr, he, hd, .refl _ _, .refl _ _ _⟩
    exact wpList_mono (fun _ _ _ hl => hl.trans r.stp r.kp) _ _ _ (h H _ a w r.rel r.env hd)
/-- A truth in a temporary; both ways come to one state behind the next test. -/
theorem VX_splitJ {k k' : List It} (t : Nat) (env' : Env) (σ' : List Blk) {ty : TypeId} {b : Bool} (hk : splits k = true) (hb : getD env t = .t ty (.e (.bool b))) (hj : behind 60 k = k')
    (rest : VX C Q k' .nrm env' σ')
    (h1 : b = true → VX C Q k' .nrm env' σ' → VX C Q k .nrm ((t, .kb ty true) :: env) σ) (h0 : b = false → VX C Q k' .nrm env' σ' → VX C Q k .nrm ((t, .kb ty false) :: env) σ) : VX C Q k .nrm env σ :=
  VX_split t hk hb (fun h => h1 h rest) (fun h => h0 h rest)
end
end Go.Den
namespace Go.Den
open Go
section
variable {C : Cx} {env : Env} {σ : List Blk} {Q : Post}

set_option linter.unusedVariables false in
theorem VX_via {k k' : List It} (env' : Env) (σ' : List Blk) (hj : behind 60 k = k') (rest : VX C Q k' .nrm env' σ') (h : VX C Q k' .nrm env' σ' → VX C Q k .nrm env σ) : VX C Q k .nrm env σ := h rest
end
end Go.Den
