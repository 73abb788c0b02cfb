/-
  DERIVED. GIVEN WITH THE SEED: THE CARDS: each row of YtonngnjgadnojaaDoorRRRRRows.lean that lists a variable, with what it lists TIED to the program's text (the seventh form; the later family's looks); each row that meets fmt, with fmt's text TOLD by the authors' own Lean function (tested against real Go, not proved from fmt's source: count such statements apart). THE CARD IS WHAT COUNTS. Prove the row's statement (the work); the ties are given (YtonngnjgadnojaaDoorRRRRTie.lean); close each card by the builder's one call (the guide's Derived/Test/ToyasCard.lean, 'card_holds'). Laid BY PROGRAM, IN A SANDBOX (cutbox-door.mjs). By AI agents, Wed Nov 11 2026. No macro, syntax, notation, axiom, sorry.
-/
import Derived.Test.YtonngnjgadnojaaDoorRRRRRows
import GoSem.ClaimSeven
namespace Go.Proofs.YtonngnjgadnojaaDoorRRRR
namespace Rows

/-- THE TIED CARD OF 'pontoonlaw07.MerkleBranches'. -/
def merkleBranchesCard : Claim7 := { stood := { row := merkleBranchesRow, standIns := [], harness := (true, "b1f7ec696d3465439e6b0acafa05552740acdc1a12621d2b70d95330f076c46b"), looks := false }, kinds := [], alts := [], laidByText := true, laidKinds := [.data, .data], laidTests := true, laidLooks := .later }
def MerkleBranchesCardSaid : Prop := Claim7.holds Tryd.pinned (.plain (OpenSpec.ofChange merkleBranchesSpec)) merkleBranchesCard

/-- THE TIED CARD OF 'pontoonlaw07.MerkleBinds'. -/
def merkleBindsCard : Claim7 := { stood := { row := merkleBindsRow, standIns := [], harness := (true, "b1f7ec696d3465439e6b0acafa05552740acdc1a12621d2b70d95330f076c46b"), looks := false }, kinds := [], alts := [], laidByText := true, laidKinds := [.data, .data], laidTests := true, laidLooks := .later }
def MerkleBindsCardSaid : Prop := Claim7.holds Tryd.pinned (.plain (OpenSpec.ofChange merkleBindsSpec)) merkleBindsCard

/-- THE SECOND FORM's CARD OF 'pontoonlaw07.MerkleBranches'. -/
def merkleBranchesUptoCard : Claim7 := { stood := { row := merkleBranchesUptoRow, standIns := [], harness := (true, "b1f7ec696d3465439e6b0acafa05552740acdc1a12621d2b70d95330f076c46b"), looks := false }, kinds := [], alts := [], laidByText := true, laidKinds := [.data, .data], laidTests := true, laidLooks := .later }
def MerkleBranchesUptoCardSaid : Prop := Claim7.holds Tryd.pinned (.plain (OpenSpec.upto merkleBranchesSpec)) merkleBranchesUptoCard

/-- THE SECOND FORM's CARD OF 'pontoonlaw07.MerkleBinds'. -/
def merkleBindsUptoCard : Claim7 := { stood := { row := merkleBindsUptoRow, standIns := [], harness := (true, "b1f7ec696d3465439e6b0acafa05552740acdc1a12621d2b70d95330f076c46b"), looks := false }, kinds := [], alts := [], laidByText := true, laidKinds := [.data, .data], laidTests := true, laidLooks := .later }
def MerkleBindsUptoCardSaid : Prop := Claim7.holds Tryd.pinned (.plain (OpenSpec.upto merkleBindsSpec)) merkleBindsUptoCard
end Rows
end Go.Proofs.YtonngnjgadnojaaDoorRRRR
