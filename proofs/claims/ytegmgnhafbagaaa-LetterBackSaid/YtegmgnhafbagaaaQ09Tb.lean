/- Law 09: the table of types. -/
import Derived.Test.YtegmgnhafbagaaaProg
import Derived.Test.YtegmgnhafbagaaaDenIter
namespace Go.Den.Q09
open Go Go.Den Go.Proofs
def tb : Tab :=
[⟨.other, 1, 0, 0⟩,
  ⟨.fn, 1, 8, 1⟩,
  ⟨.int .i64, 1, 8, 2⟩,
  ⟨.int .i64, 1, 8, 3⟩,
  ⟨.bool, 1, 1, 4⟩,
  ⟨.int .u8, 1, 1, 5⟩,
  ⟨.int .u8, 1, 1, 5⟩,
  ⟨.st [(2, 0), (3, 1), (4, 2), (6, 3)], 4, 24, 7⟩,
  ⟨.st [(2, 0), (3, 1), (4, 2), (6, 3)], 4, 24, 7⟩,
  ⟨.str, 1, 16, 9⟩,
  ⟨.str, 1, 16, 9⟩,
  ⟨.str, 1, 16, 9⟩,
  ⟨.int .u64, 1, 8, 12⟩,
  ⟨.st [(9, 0), (12, 1)], 2, 24, 13⟩,
  ⟨.st [(9, 0), (12, 1)], 2, 24, 13⟩,
  ⟨.ptr 56, 1, 8, 15⟩,
  ⟨.ptr 59, 1, 8, 16⟩,
  ⟨.ptr 68, 1, 8, 17⟩,
  ⟨.st [(17, 0)], 1, 8, 18⟩,
  ⟨.st [(17, 0)], 1, 8, 18⟩,
  ⟨.ifc, 1, 16, 20⟩,
  ⟨.int .i32, 1, 4, 21⟩,
  ⟨.int .u32, 1, 4, 22⟩,
  ⟨.st [(22, 0), (22, 1), (22, 2), (9, 3), (9, 4), (9, 5)], 6, 64, 23⟩,
  ⟨.st [(22, 0), (22, 1), (22, 2), (9, 3), (9, 4), (9, 5)], 6, 64, 23⟩,
  ⟨.fn, 1, 8, 25⟩,
  ⟨.fn, 1, 8, 26⟩,
  ⟨.int .i64, 1, 8, 3⟩,
  ⟨.other, 1, 0, 28⟩,
  ⟨.fn, 1, 8, 29⟩,
  ⟨.other, 1, 0, 30⟩,
  ⟨.fn, 1, 8, 31⟩,
  ⟨.fn, 1, 8, 32⟩,
  ⟨.fn, 1, 8, 33⟩,
  ⟨.fn, 1, 8, 34⟩,
  ⟨.ptr 44, 1, 8, 35⟩,
  ⟨.fn, 1, 8, 36⟩,
  ⟨.fn, 1, 8, 37⟩,
  ⟨.fn, 1, 8, 38⟩,
  ⟨.fn, 1, 8, 39⟩,
  ⟨.fn, 1, 8, 40⟩,
  ⟨.fn, 1, 8, 41⟩,
  ⟨.fn, 1, 8, 42⟩,
  ⟨.st [(9, 0), (27, 1)], 2, 24, 43⟩,
  ⟨.st [(9, 0), (27, 1)], 2, 24, 43⟩,
  ⟨.int .u64, 1, 8, 45⟩,
  ⟨.fn, 1, 8, 46⟩,
  ⟨.fn, 1, 8, 47⟩,
  ⟨.fn, 1, 8, 48⟩,
  ⟨.fn, 1, 8, 49⟩,
  ⟨.sl 5, 1, 24, 50⟩,
  ⟨.int .u64, 1, 8, 51⟩,
  ⟨.fn, 1, 8, 52⟩,
  ⟨.arr 8 5, 8, 8, 53⟩,
  ⟨.fn, 1, 8, 54⟩,
  ⟨.st [(17, 0), (17, 1), (17, 2), (9, 3)], 4, 40, 55⟩,
  ⟨.st [(17, 0), (17, 1), (17, 2), (9, 3)], 4, 40, 55⟩,
  ⟨.arr 0 16, 0, 0, 57⟩,
  ⟨.st [(57, 0)], 0, 0, 58⟩,
  ⟨.st [(57, 0)], 0, 0, 58⟩,
  ⟨.fn, 1, 8, 60⟩,
  ⟨.int .u8, 1, 1, 5⟩,
  ⟨.int .u8, 1, 1, 5⟩,
  ⟨.fn, 1, 8, 63⟩,
  ⟨.ptr 5, 1, 8, 64⟩,
  ⟨.int .i32, 1, 4, 21⟩,
  ⟨.int .i32, 1, 4, 21⟩,
  ⟨.st [(12, 0), (12, 1), (22, 2), (61, 3), (5, 4), (5, 5), (62, 6), (63, 7), (64, 8), (65, 9), (66, 10)], 11, 48, 67⟩,
  ⟨.st [(12, 0), (12, 1), (22, 2), (61, 3), (5, 4), (5, 5), (62, 6), (63, 7), (64, 8), (65, 9), (66, 10)], 11, 48, 67⟩,
  ⟨.fn, 1, 8, 69⟩,
  ⟨.other, 1, 8, 70⟩]

theorem tabOk : TabOk Try.prog tb := ⟨by kernel_rfl, by kernel_rfl, by kernel_rfl, by kernel_rfl⟩
theorem zeroOk : ZeroOk Try.prog tb := by unfold ZeroOk; kernel_rfl
theorem ok (k n : Nat) : Ok ⟨Try.prog, tb, k, n, 4⟩ := ⟨tabOk, zeroOk, rfl⟩
theorem mixed : Try.prog.follows .mixedOrders = true := by kernel_rfl
theorem eqs : eqTys Try.prog tb [24] := by unfold eqTys; kernel_rfl
theorem w64 {a : Int} (h1 : -9223372036854775808 ≤ a) (h2 : a ≤ 9223372036854775807) : IntKind.wrap .i64 a = a := inR_wrap (by simp [inR]; omega)
/-- From one state to a weaker one, the blocks told otherwise. -/
theorem wk1 {k0 : Nat} {env' env : Env} {σ σ' : List Blk} (hs : σ = σ') (h0 : Nat.ble k0 σ'.length = true) (hb : ∀ k ∈ σ', k.under σ'.length = true) (h : leL σ'.length env' env) : Weak k0 env' σ' env σ := by
  subst hs; exact wk0 h0 hb h
/-- A weaker state with fewer blocks. -/
theorem wkc {k0 : Nat} {env' env : Env} {σ σ' : List Blk} (τ : List Blk) (hs : σ = σ' ++ τ) (h0 : Nat.ble k0 σ'.length = true) (hb : ∀ k ∈ σ', k.under σ'.length = true) (h : leL σ'.length env' env) : Weak k0 env' σ' env σ :=
  ⟨⟨τ, hs⟩, Nat.le_of_ble_eq_true h0, hb, h⟩
end Go.Den.Q09
