/-
  DERIVED. GIVEN WITH THE SEED: THE CARDS: each row of YtegmgnhafbagaaaDoorRows.lean that lists a variable, with what it lists TIED to the program's text (the seventh form; the later family's looks); each row that meets fmt, with fmt's text TOLD by the authors' own Lean function (tested against real Go, not proved from fmt's source: count such statements apart). THE CARD IS WHAT COUNTS. Prove the row's statement (the work); the ties are given (YtegmgnhafbagaaaDoorTie.lean); close each card by the builder's one call (the guide's Derived/Test/ToyasCard.lean, 'card_holds'). Laid BY PROGRAM, IN A SANDBOX (cutbox-door.mjs). By AI agents, Wed Nov 11 2026. No macro, syntax, notation, axiom, sorry.
-/
import Derived.Test.YtegmgnhafbagaaaDoorRows
import GoSem.ClaimSeven
namespace Go.Proofs.YtegmgnhafbagaaaDoor
namespace Rows

/-- THE TIED CARD OF 'pontoonlaw09.LetterBytes'. -/
def letterBytesCard : Claim7 := { stood := { row := letterBytesRow, standIns := [], harness := (true, "d7b772a09dca0ec8c955fc13ce548d3920d970f5caee8f9b42912bcff6437799"), looks := false }, kinds := [], alts := [], laidByText := true, laidKinds := [.data, .data], laidTests := true, laidLooks := .later }
def LetterBytesCardSaid : Prop := Claim7.holds Tryd.pinned (.plain (OpenSpec.ofChange letterBytesSpec)) letterBytesCard

/-- THE TIED CARD OF 'pontoonlaw09.LetterLeaves'. -/
def letterLeavesCard : Claim7 := { stood := { row := letterLeavesRow, standIns := [], harness := (true, "d7b772a09dca0ec8c955fc13ce548d3920d970f5caee8f9b42912bcff6437799"), looks := false }, kinds := [], alts := [], laidByText := true, laidKinds := [.data, .data], laidTests := true, laidLooks := .later }
def LetterLeavesCardSaid : Prop := Claim7.holds Tryd.pinned (.plain (OpenSpec.ofChange letterLeavesSpec)) letterLeavesCard

/-- THE SECOND FORM's CARD OF 'pontoonlaw09.LetterBytes'. -/
def letterBytesUptoCard : Claim7 := { stood := { row := letterBytesUptoRow, standIns := [], harness := (true, "d7b772a09dca0ec8c955fc13ce548d3920d970f5caee8f9b42912bcff6437799"), looks := false }, kinds := [], alts := [], laidByText := true, laidKinds := [.data, .data], laidTests := true, laidLooks := .later }
def LetterBytesUptoCardSaid : Prop := Claim7.holds Tryd.pinned (.plain (OpenSpec.upto letterBytesSpec)) letterBytesUptoCard

/-- THE SECOND FORM's CARD OF 'pontoonlaw09.LetterLeaves'. -/
def letterLeavesUptoCard : Claim7 := { stood := { row := letterLeavesUptoRow, standIns := [], harness := (true, "d7b772a09dca0ec8c955fc13ce548d3920d970f5caee8f9b42912bcff6437799"), looks := false }, kinds := [], alts := [], laidByText := true, laidKinds := [.data, .data], laidTests := true, laidLooks := .later }
def LetterLeavesUptoCardSaid : Prop := Claim7.holds Tryd.pinned (.plain (OpenSpec.upto letterLeavesSpec)) letterLeavesUptoCard
end Rows
end Go.Proofs.YtegmgnhafbagaaaDoor
