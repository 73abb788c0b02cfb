/-
  No cell of these rows narrows 'for every input' (looked for: loops, veiled, ifaces, maps, wideKeys, modest, calm, conditions, laid).
  DERIVED. THE GIVEN ROWS OF THIS SEAT. 3 by the template 'for every input the law returns true; each argument reads behind the call as it read before'; 0 by the template 'total and deterministic' (their statements: YtgdfegmdjdnbdaaTotals.lean).
  GIVEN WITH THE SEED: the statements are not yours to turn. If you find one false, say at which input.
  Laid BY PROGRAM, IN A SANDBOX (cutbox-rows.mjs): the forced cells as the released guide's own fill.sh prints them over the translation 8d83b1645af3cae8… (all of the seat's roots in one cut). By AI agents, Wed Nov 11 2026. No macro, syntax, notation, axiom, sorry.
-/
import Derived.Test.YtgdfegmdjdnbdaaChecked
import GoSem.Claim
import GoSem.ClaimJoined
import GoSem.ClaimMapViews
import Derived.JoinedTies
import Derived.KernelRfl
namespace Go.Proofs.Ytgdfegmdjdnbdaa
/- THE CELL 'sum', in the pinned program and in every row, IS THE sha256 OF THE DUMP (.gsa) THAT YtgdfegmdjdnbdaaProg.lean LOADS. Nothing in Lean hashes anything: it is a label: what it is worth is what the hold of that sum in a sandbox is worth. -/
noncomputable def Try.pinned : Pinned := { name := "ytgdfegmdjdnbdaa", sum := "8d83b1645af3cae85dd1ca97f08cc89f6491fc786001079f99e27fecc5094ecb", checked := Try.checked }
namespace Rows
def none {H : Type} : Left H := { results := [], args := [] }

/-- 'pontoonlaw34.GuardSweeps': WHATEVER THE INPUT: true; the input reads as it did. -/
def guardSweepsSpec : ChangeSpec := { name := "guardSweeps", fn := fun _ => fun
  | [d1, d2, d3, d4, d5, d6] => { results := [.lit (.bool true)], args := [d1, d2, d3, d4, d5, d6] }
  | _ => none }
def guardSweepsRow : OpenClaim := { program := "ytgdfegmdjdnbdaa", sum := "8d83b1645af3cae85dd1ca97f08cc89f6491fc786001079f99e27fecc5094ecb", func := "pontoon/pontoonlaw34.GuardSweeps", spec := "guardSweeps", inPlace := ["math/bits.Add64"], unfollowed := true, recurses := true, apart := false }
def GuardSweepsSaid : Prop := guardSweepsRow.holds Try.pinned (OpenSpec.ofChange guardSweepsSpec)

/-- ITS FALSE NEIGHBOUR: 'it returns false'. Refute it at one input. -/
def guardSweepsWrong : ChangeSpec := { name := "guardSweeps", fn := fun _ => fun
  | [d1, d2, d3, d4, d5, d6] => { results := [.lit (.bool false)], args := [d1, d2, d3, d4, d5, d6] }
  | _ => none }
def GuardSweepsWrongFalsely : Prop := guardSweepsRow.holds Try.pinned (OpenSpec.ofChange guardSweepsWrong)

/-- 'pontoonlaw34.GuardHolds': WHATEVER THE INPUT: true; the input reads as it did. -/
def guardHoldsSpec : ChangeSpec := { name := "guardHolds", fn := fun _ => fun
  | [d1, d2, d3] => { results := [.lit (.bool true)], args := [d1, d2, d3] }
  | _ => none }
def guardHoldsRow : OpenClaim := { program := "ytgdfegmdjdnbdaa", sum := "8d83b1645af3cae85dd1ca97f08cc89f6491fc786001079f99e27fecc5094ecb", func := "pontoon/pontoonlaw34.GuardHolds", spec := "guardHolds", inPlace := ["math/bits.Add64"], unfollowed := true, recurses := true, apart := false }
def GuardHoldsSaid : Prop := guardHoldsRow.holds Try.pinned (OpenSpec.ofChange guardHoldsSpec)

/-- ITS FALSE NEIGHBOUR: 'it returns false'. Refute it at one input. -/
def guardHoldsWrong : ChangeSpec := { name := "guardHolds", fn := fun _ => fun
  | [d1, d2, d3] => { results := [.lit (.bool false)], args := [d1, d2, d3] }
  | _ => none }
def GuardHoldsWrongFalsely : Prop := guardHoldsRow.holds Try.pinned (OpenSpec.ofChange guardHoldsWrong)

/-- 'pontoonlaw34.GuardDoes': WHATEVER THE INPUT: true; the input reads as it did. -/
def guardDoesSpec : ChangeSpec := { name := "guardDoes", fn := fun _ => fun
  | [d1, d2, d3, d4, d5, d6] => { results := [.lit (.bool true)], args := [d1, d2, d3, d4, d5, d6] }
  | _ => none }
def guardDoesRow : OpenClaim := { program := "ytgdfegmdjdnbdaa", sum := "8d83b1645af3cae85dd1ca97f08cc89f6491fc786001079f99e27fecc5094ecb", func := "pontoon/pontoonlaw34.GuardDoes", spec := "guardDoes", inPlace := ["math/bits.Add64"], unfollowed := true, recurses := true, apart := false }
def GuardDoesSaid : Prop := guardDoesRow.holds Try.pinned (OpenSpec.ofChange guardDoesSpec)

/-- ITS FALSE NEIGHBOUR: 'it returns false'. Refute it at one input. -/
def guardDoesWrong : ChangeSpec := { name := "guardDoes", fn := fun _ => fun
  | [d1, d2, d3, d4, d5, d6] => { results := [.lit (.bool false)], args := [d1, d2, d3, d4, d5, d6] }
  | _ => none }
def GuardDoesWrongFalsely : Prop := guardDoesRow.holds Try.pinned (OpenSpec.ofChange guardDoesWrong)

/- THE SECOND FORM. 'bulk': how many values and letters a reading holds, each counted each time it is reached (what is shared counts as often as it is met; a slice's spare places count too). A statement '..UptoSaid' is the law's where the arguments, and the package variables that the reading takes, are together of bulk at most 1048576: NARROWER than '..Said'. Prove '..Said' where nothing that the law and all that it calls make is longer than what came in: it says more and counts as full. Else prove '..UptoSaid'. A law counts once. -/
mutual
def uptoBulk {H : Type} : DataW H → Nat
  | .lit (.string bytes) => bytes.length + 1
  | .lit _ => 1
  | .nil => 1
  | .ptr d => uptoBulk d + 1
  | .slice elems spare => uptoBulkAll elems + uptoBulkAll spare + 1
  | .agg parts => uptoBulkAll parts + 1
  | .iface _ d => uptoBulk d + 1
  | .map entries => uptoBulkEntries entries + 1
  | .held _ => 1
def uptoBulkAll {H : Type} : List (DataW H) → Nat
  | [] => 0
  | d :: r => uptoBulk d + uptoBulkAll r
def uptoBulkEntries {H : Type} : List (Lit × DataW H) → Nat
  | [] => 0
  | x :: r => uptoBulkEntry x + uptoBulkEntries r
def uptoBulkEntry {H : Type} : Lit × DataW H → Nat
  | (.string bytes, d) => bytes.length + uptoBulk d + 1
  | (_, d) => uptoBulk d + 1
 end
def uptoSmall : (H : Type) → List (DataW H) → Bool := fun _ ds => decide (uptoBulkAll ds ≤ 1048576)
def OpenSpec.upto (s : _root_.Go.ChangeSpec) : _root_.Go.OpenSpec := { _root_.Go.OpenSpec.ofChange s with cond := some uptoSmall }

/-- 'pontoonlaw34.GuardSweeps', WHERE WHAT IT READS IS OF BULK AT MOST 1048576: true; the input reads as it did. -/
def guardSweepsUptoRow : OpenClaim := { program := "ytgdfegmdjdnbdaa", sum := "8d83b1645af3cae85dd1ca97f08cc89f6491fc786001079f99e27fecc5094ecb", func := "pontoon/pontoonlaw34.GuardSweeps", spec := "guardSweeps", inPlace := ["math/bits.Add64"], unfollowed := true, recurses := true, apart := false, narrowed := true }
def GuardSweepsUptoSaid : Prop := guardSweepsUptoRow.holds Try.pinned (OpenSpec.upto guardSweepsSpec)

/-- 'pontoonlaw34.GuardHolds', WHERE WHAT IT READS IS OF BULK AT MOST 1048576: true; the input reads as it did. -/
def guardHoldsUptoRow : OpenClaim := { program := "ytgdfegmdjdnbdaa", sum := "8d83b1645af3cae85dd1ca97f08cc89f6491fc786001079f99e27fecc5094ecb", func := "pontoon/pontoonlaw34.GuardHolds", spec := "guardHolds", inPlace := ["math/bits.Add64"], unfollowed := true, recurses := true, apart := false, narrowed := true }
def GuardHoldsUptoSaid : Prop := guardHoldsUptoRow.holds Try.pinned (OpenSpec.upto guardHoldsSpec)

/-- 'pontoonlaw34.GuardDoes', WHERE WHAT IT READS IS OF BULK AT MOST 1048576: true; the input reads as it did. -/
def guardDoesUptoRow : OpenClaim := { program := "ytgdfegmdjdnbdaa", sum := "8d83b1645af3cae85dd1ca97f08cc89f6491fc786001079f99e27fecc5094ecb", func := "pontoon/pontoonlaw34.GuardDoes", spec := "guardDoes", inPlace := ["math/bits.Add64"], unfollowed := true, recurses := true, apart := false, narrowed := true }
def GuardDoesUptoSaid : Prop := guardDoesUptoRow.holds Try.pinned (OpenSpec.upto guardDoesSpec)

end Rows
end Go.Proofs.Ytgdfegmdjdnbdaa
