/-
  DERIVED. GIVEN WITH THE SEED: THE CARDS: each row of YtnjdgejaklcemaaDoorRows.lean that lists a variable, with what it lists TIED to the program's text (the seventh form; the later family's looks); each row that meets fmt, with fmt's text TOLD by the authors' own Lean function (tested against real Go, not proved from fmt's source: count such statements apart). THE CARD IS WHAT COUNTS. Prove the row's statement (the work); the ties are given (YtnjdgejaklcemaaDoorTie.lean); close each card by the builder's one call (the guide's Derived/Test/ToyasCard.lean, 'card_holds'). Laid BY PROGRAM, IN A SANDBOX (cutbox-door.mjs). By AI agents, Wed Nov 11 2026. No macro, syntax, notation, axiom, sorry.
-/
import Derived.Test.YtnjdgejaklcemaaDoorRows
import GoSem.ClaimSeven
namespace Go.Proofs.YtnjdgejaklcemaaDoor
namespace Rows

/-- THE TIED CARD OF 'pontoonlaw21.NotesReads'. -/
def notesReadsCard : Claim7 := { stood := { row := notesReadsRow, standIns := [], harness := (true, "ed36d6047e69ffb662e798afcb2434e0edb89f8db180bbe5c287f46a6cbaffea"), looks := false }, kinds := [], alts := [], laidByText := true, laidKinds := [.data, .data], laidTests := true, laidLooks := .later }
def NotesReadsCardSaid : Prop := Claim7.holds Tryd.pinned (.plain (OpenSpec.ofChange notesReadsSpec)) notesReadsCard

/-- THE TIED CARD OF 'pontoonlaw21.NotesBack'. -/
def notesBackCard : Claim7 := { stood := { row := notesBackRow, standIns := [], harness := (true, "ed36d6047e69ffb662e798afcb2434e0edb89f8db180bbe5c287f46a6cbaffea"), looks := false }, kinds := [], alts := [], laidByText := true, laidKinds := [.data, .data], laidTests := true, laidLooks := .later }
def NotesBackCardSaid : Prop := Claim7.holds Tryd.pinned (.plain (OpenSpec.ofChange notesBackSpec)) notesBackCard

/-- THE TIED CARD OF 'pontoonlaw21.NotesCut'. -/
def notesCutCard : Claim7 := { stood := { row := notesCutRow, standIns := [], harness := (true, "ed36d6047e69ffb662e798afcb2434e0edb89f8db180bbe5c287f46a6cbaffea"), looks := false }, kinds := [], alts := [], laidByText := true, laidKinds := [.data, .data], laidTests := true, laidLooks := .later }
def NotesCutCardSaid : Prop := Claim7.holds Tryd.pinned (.plain (OpenSpec.ofChange notesCutSpec)) notesCutCard

/-- THE SECOND FORM's CARD OF 'pontoonlaw21.NotesReads'. -/
def notesReadsUptoCard : Claim7 := { stood := { row := notesReadsUptoRow, standIns := [], harness := (true, "ed36d6047e69ffb662e798afcb2434e0edb89f8db180bbe5c287f46a6cbaffea"), looks := false }, kinds := [], alts := [], laidByText := true, laidKinds := [.data, .data], laidTests := true, laidLooks := .later }
def NotesReadsUptoCardSaid : Prop := Claim7.holds Tryd.pinned (.plain (OpenSpec.upto notesReadsSpec)) notesReadsUptoCard

/-- THE SECOND FORM's CARD OF 'pontoonlaw21.NotesBack'. -/
def notesBackUptoCard : Claim7 := { stood := { row := notesBackUptoRow, standIns := [], harness := (true, "ed36d6047e69ffb662e798afcb2434e0edb89f8db180bbe5c287f46a6cbaffea"), looks := false }, kinds := [], alts := [], laidByText := true, laidKinds := [.data, .data], laidTests := true, laidLooks := .later }
def NotesBackUptoCardSaid : Prop := Claim7.holds Tryd.pinned (.plain (OpenSpec.upto notesBackSpec)) notesBackUptoCard

/-- THE SECOND FORM's CARD OF 'pontoonlaw21.NotesCut'. -/
def notesCutUptoCard : Claim7 := { stood := { row := notesCutUptoRow, standIns := [], harness := (true, "ed36d6047e69ffb662e798afcb2434e0edb89f8db180bbe5c287f46a6cbaffea"), looks := false }, kinds := [], alts := [], laidByText := true, laidKinds := [.data, .data], laidTests := true, laidLooks := .later }
def NotesCutUptoCardSaid : Prop := Claim7.holds Tryd.pinned (.plain (OpenSpec.upto notesCutSpec)) notesCutUptoCard
end Rows
end Go.Proofs.YtnjdgejaklcemaaDoor
