/- A mask of eight bits, of a whole number. -/
import Derived.Test.YtlojadpbdbhmiaaRw
namespace Go.Proofs.Ytlojadpbdbhmiaa
open Go.RowKit
theorem mask255 (c : Int) : bits .and .i64 c 255 = c % 256 := by
  have h : (BitVec.ofInt 64 c &&& BitVec.ofInt 64 255).toNat = (c % 256).toNat := by
    rw [BitVec.toNat_and]
    have e : (BitVec.ofInt 64 255).toNat = 2 ^ 8 - 1 := by decide
    rw [e, Nat.and_two_pow_sub_one_eq_mod, BitVec.toNat_ofInt]
    omega
  show IntKind.i64.wrap (((BitVec.ofInt 64 c &&& BitVec.ofInt 64 255).toNat : Nat) : Int) = _
  rw [h]
  have h0 : 0 ≤ c % 256 := Int.emod_nonneg _ (by decide)
  have h1 : c % 256 < 256 := Int.emod_lt_of_pos _ (by decide)
  have e2 : (((c % 256).toNat : Nat) : Int) = c % 256 := Int.toNat_of_nonneg h0
  rw [e2]
  simp [IntKind.wrap, IntKind.bits, IntKind.signed]
  omega
end Go.Proofs.Ytlojadpbdbhmiaa
