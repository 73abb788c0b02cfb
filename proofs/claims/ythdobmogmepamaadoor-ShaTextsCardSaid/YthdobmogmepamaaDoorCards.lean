/-
  DERIVED. GIVEN WITH THE SEED: THE CARDS: each row of YthdobmogmepamaaDoorRows.lean that lists a variable, with what it lists TIED to the program's text (the seventh form; the later family's looks); each row that meets fmt, with fmt's text TOLD by the authors' own Lean function (tested against real Go, not proved from fmt's source: count such statements apart). THE CARD IS WHAT COUNTS. Prove the row's statement (the work); the ties are given (YthdobmogmepamaaDoorTie.lean); close each card by the builder's one call (the guide's Derived/Test/ToyasCard.lean, 'card_holds'). Laid BY PROGRAM, IN A SANDBOX (cutbox-door.mjs). By AI agents, Wed Nov 11 2026. No macro, syntax, notation, axiom, sorry.
-/
import Derived.Test.YthdobmogmepamaaDoorRows
import GoSem.ClaimSeven
namespace Go.Proofs.YthdobmogmepamaaDoor
namespace Rows

/-- THE TIED CARD OF 'pontoonlaw01.ShaBlocks'. -/
def shaBlocksCard : Claim7 := { stood := { row := shaBlocksRow, standIns := [], harness := (true, "9616423fd2b12a5cc22e4b234d9b15f2c166c3041759ee9ff0b437f72ee233ee"), looks := false }, kinds := [], alts := [], laidByText := true, laidKinds := [.data, .data], laidTests := true, laidLooks := .later }
def ShaBlocksCardSaid : Prop := Claim7.holds Tryd.pinned (.plain (OpenSpec.ofChange shaBlocksSpec)) shaBlocksCard

/-- THE TIED CARD OF 'pontoonlaw01.ShaSums'. -/
def shaSumsCard : Claim7 := { stood := { row := shaSumsRow, standIns := [], harness := (true, "9616423fd2b12a5cc22e4b234d9b15f2c166c3041759ee9ff0b437f72ee233ee"), looks := false }, kinds := [], alts := [], laidByText := true, laidKinds := [.data, .data], laidTests := true, laidLooks := .later }
def ShaSumsCardSaid : Prop := Claim7.holds Tryd.pinned (.plain (OpenSpec.ofChange shaSumsSpec)) shaSumsCard

/-- THE TIED CARD OF 'pontoonlaw01.ShaStates'. -/
def shaStatesCard : Claim7 := { stood := { row := shaStatesRow, standIns := [], harness := (true, "9616423fd2b12a5cc22e4b234d9b15f2c166c3041759ee9ff0b437f72ee233ee"), looks := false }, kinds := [], alts := [], laidByText := true, laidKinds := [.data, .data], laidTests := true, laidLooks := .later }
def ShaStatesCardSaid : Prop := Claim7.holds Tryd.pinned (.plain (OpenSpec.ofChange shaStatesSpec)) shaStatesCard

/-- THE TIED CARD OF 'pontoonlaw01.ShaParts'. -/
def shaPartsCard : Claim7 := { stood := { row := shaPartsRow, standIns := [], harness := (true, "9616423fd2b12a5cc22e4b234d9b15f2c166c3041759ee9ff0b437f72ee233ee"), looks := false }, kinds := [], alts := [], laidByText := true, laidKinds := [.data, .data], laidTests := true, laidLooks := .later }
def ShaPartsCardSaid : Prop := Claim7.holds Tryd.pinned (.plain (OpenSpec.ofChange shaPartsSpec)) shaPartsCard

/-- THE TIED CARD OF 'pontoonlaw01.ShaTexts'. -/
def shaTextsCard : Claim7 := { stood := { row := shaTextsRow, standIns := [], harness := (true, "9616423fd2b12a5cc22e4b234d9b15f2c166c3041759ee9ff0b437f72ee233ee"), looks := false }, kinds := [], alts := [], laidByText := true, laidKinds := [.data, .data], laidTests := true, laidLooks := .later }
def ShaTextsCardSaid : Prop := Claim7.holds Tryd.pinned (.plain (OpenSpec.ofChange shaTextsSpec)) shaTextsCard

/-- THE SECOND FORM's CARD OF 'pontoonlaw01.ShaBlocks'. -/
def shaBlocksUptoCard : Claim7 := { stood := { row := shaBlocksUptoRow, standIns := [], harness := (true, "9616423fd2b12a5cc22e4b234d9b15f2c166c3041759ee9ff0b437f72ee233ee"), looks := false }, kinds := [], alts := [], laidByText := true, laidKinds := [.data, .data], laidTests := true, laidLooks := .later }
def ShaBlocksUptoCardSaid : Prop := Claim7.holds Tryd.pinned (.plain (OpenSpec.upto shaBlocksSpec)) shaBlocksUptoCard

/-- THE SECOND FORM's CARD OF 'pontoonlaw01.ShaSums'. -/
def shaSumsUptoCard : Claim7 := { stood := { row := shaSumsUptoRow, standIns := [], harness := (true, "9616423fd2b12a5cc22e4b234d9b15f2c166c3041759ee9ff0b437f72ee233ee"), looks := false }, kinds := [], alts := [], laidByText := true, laidKinds := [.data, .data], laidTests := true, laidLooks := .later }
def ShaSumsUptoCardSaid : Prop := Claim7.holds Tryd.pinned (.plain (OpenSpec.upto shaSumsSpec)) shaSumsUptoCard

/-- THE SECOND FORM's CARD OF 'pontoonlaw01.ShaStates'. -/
def shaStatesUptoCard : Claim7 := { stood := { row := shaStatesUptoRow, standIns := [], harness := (true, "9616423fd2b12a5cc22e4b234d9b15f2c166c3041759ee9ff0b437f72ee233ee"), looks := false }, kinds := [], alts := [], laidByText := true, laidKinds := [.data, .data], laidTests := true, laidLooks := .later }
def ShaStatesUptoCardSaid : Prop := Claim7.holds Tryd.pinned (.plain (OpenSpec.upto shaStatesSpec)) shaStatesUptoCard

/-- THE SECOND FORM's CARD OF 'pontoonlaw01.ShaParts'. -/
def shaPartsUptoCard : Claim7 := { stood := { row := shaPartsUptoRow, standIns := [], harness := (true, "9616423fd2b12a5cc22e4b234d9b15f2c166c3041759ee9ff0b437f72ee233ee"), looks := false }, kinds := [], alts := [], laidByText := true, laidKinds := [.data, .data], laidTests := true, laidLooks := .later }
def ShaPartsUptoCardSaid : Prop := Claim7.holds Tryd.pinned (.plain (OpenSpec.upto shaPartsSpec)) shaPartsUptoCard

/-- THE SECOND FORM's CARD OF 'pontoonlaw01.ShaTexts'. -/
def shaTextsUptoCard : Claim7 := { stood := { row := shaTextsUptoRow, standIns := [], harness := (true, "9616423fd2b12a5cc22e4b234d9b15f2c166c3041759ee9ff0b437f72ee233ee"), looks := false }, kinds := [], alts := [], laidByText := true, laidKinds := [.data, .data], laidTests := true, laidLooks := .later }
def ShaTextsUptoCardSaid : Prop := Claim7.holds Tryd.pinned (.plain (OpenSpec.upto shaTextsSpec)) shaTextsUptoCard
end Rows
end Go.Proofs.YthdobmogmepamaaDoor
