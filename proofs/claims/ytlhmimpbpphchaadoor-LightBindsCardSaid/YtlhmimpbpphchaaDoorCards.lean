/-
  DERIVED. GIVEN WITH THE SEED: THE CARDS: each row of YtlhmimpbpphchaaDoorRows.lean that lists a variable, with what it lists TIED to the program's text (the seventh form; the later family's looks); each row that meets fmt, with fmt's text TOLD by the authors' own Lean function (tested against real Go, not proved from fmt's source: count such statements apart). THE CARD IS WHAT COUNTS. Prove the row's statement (the work); the ties are given (YtlhmimpbpphchaaDoorTie.lean); close each card by the builder's one call (the guide's Derived/Test/ToyasCard.lean, 'card_holds'). Laid BY PROGRAM, IN A SANDBOX (cutbox-door.mjs). By AI agents, Wed Nov 11 2026. No macro, syntax, notation, axiom, sorry.
-/
import Derived.Test.YtlhmimpbpphchaaDoorRows
import GoSem.ClaimSeven
namespace Go.Proofs.YtlhmimpbpphchaaDoor
namespace Rows

/-- THE TIED CARD OF 'pontoonlaw33.LightProofs'. -/
def lightProofsCard : Claim7 := { stood := { row := lightProofsRow, standIns := [], harness := (true, "d9e89ddb5a5da56c6339b4eafa852c6035013f0a2d8b5e39b61fa8d50031d738"), looks := false }, kinds := [], alts := [], laidByText := true, laidKinds := [.data, .data], laidTests := true, laidLooks := .later }
def LightProofsCardSaid : Prop := Claim7.holds Tryd.pinned (.plain (OpenSpec.ofChange lightProofsSpec)) lightProofsCard

/-- THE TIED CARD OF 'pontoonlaw33.LightBinds'. -/
def lightBindsCard : Claim7 := { stood := { row := lightBindsRow, standIns := [], harness := (true, "d9e89ddb5a5da56c6339b4eafa852c6035013f0a2d8b5e39b61fa8d50031d738"), looks := false }, kinds := [], alts := [], laidByText := true, laidKinds := [.data, .data], laidTests := true, laidLooks := .later }
def LightBindsCardSaid : Prop := Claim7.holds Tryd.pinned (.plain (OpenSpec.ofChange lightBindsSpec)) lightBindsCard

/-- THE TIED CARD OF 'pontoonlaw33.LightHeads'. -/
def lightHeadsCard : Claim7 := { stood := { row := lightHeadsRow, standIns := [], harness := (true, "d9e89ddb5a5da56c6339b4eafa852c6035013f0a2d8b5e39b61fa8d50031d738"), looks := false }, kinds := [], alts := [], laidByText := true, laidKinds := [.data, .data], laidTests := true, laidLooks := .later }
def LightHeadsCardSaid : Prop := Claim7.holds Tryd.pinned (.plain (OpenSpec.ofChange lightHeadsSpec)) lightHeadsCard

/-- THE TIED CARD OF 'pontoonlaw33.LightShows'. -/
def lightShowsCard : Claim7 := { stood := { row := lightShowsRow, standIns := [], harness := (true, "d9e89ddb5a5da56c6339b4eafa852c6035013f0a2d8b5e39b61fa8d50031d738"), looks := false }, kinds := [], alts := [], laidByText := true, laidKinds := [.data, .data], laidTests := true, laidLooks := .later }
def LightShowsCardSaid : Prop := Claim7.holds Tryd.pinned (.plain (OpenSpec.ofChange lightShowsSpec)) lightShowsCard

/-- THE SECOND FORM's CARD OF 'pontoonlaw33.LightProofs'. -/
def lightProofsUptoCard : Claim7 := { stood := { row := lightProofsUptoRow, standIns := [], harness := (true, "d9e89ddb5a5da56c6339b4eafa852c6035013f0a2d8b5e39b61fa8d50031d738"), looks := false }, kinds := [], alts := [], laidByText := true, laidKinds := [.data, .data], laidTests := true, laidLooks := .later }
def LightProofsUptoCardSaid : Prop := Claim7.holds Tryd.pinned (.plain (OpenSpec.upto lightProofsSpec)) lightProofsUptoCard

/-- THE SECOND FORM's CARD OF 'pontoonlaw33.LightBinds'. -/
def lightBindsUptoCard : Claim7 := { stood := { row := lightBindsUptoRow, standIns := [], harness := (true, "d9e89ddb5a5da56c6339b4eafa852c6035013f0a2d8b5e39b61fa8d50031d738"), looks := false }, kinds := [], alts := [], laidByText := true, laidKinds := [.data, .data], laidTests := true, laidLooks := .later }
def LightBindsUptoCardSaid : Prop := Claim7.holds Tryd.pinned (.plain (OpenSpec.upto lightBindsSpec)) lightBindsUptoCard

/-- THE SECOND FORM's CARD OF 'pontoonlaw33.LightHeads'. -/
def lightHeadsUptoCard : Claim7 := { stood := { row := lightHeadsUptoRow, standIns := [], harness := (true, "d9e89ddb5a5da56c6339b4eafa852c6035013f0a2d8b5e39b61fa8d50031d738"), looks := false }, kinds := [], alts := [], laidByText := true, laidKinds := [.data, .data], laidTests := true, laidLooks := .later }
def LightHeadsUptoCardSaid : Prop := Claim7.holds Tryd.pinned (.plain (OpenSpec.upto lightHeadsSpec)) lightHeadsUptoCard

/-- THE SECOND FORM's CARD OF 'pontoonlaw33.LightShows'. -/
def lightShowsUptoCard : Claim7 := { stood := { row := lightShowsUptoRow, standIns := [], harness := (true, "d9e89ddb5a5da56c6339b4eafa852c6035013f0a2d8b5e39b61fa8d50031d738"), looks := false }, kinds := [], alts := [], laidByText := true, laidKinds := [.data, .data], laidTests := true, laidLooks := .later }
def LightShowsUptoCardSaid : Prop := Claim7.holds Tryd.pinned (.plain (OpenSpec.upto lightShowsSpec)) lightShowsUptoCard
end Rows
end Go.Proofs.YtlhmimpbpphchaaDoor
