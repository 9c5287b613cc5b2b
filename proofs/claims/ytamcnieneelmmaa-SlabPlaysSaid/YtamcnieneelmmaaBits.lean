/-
  Masks of integers.
-/
import Derived.Test.YtamcnieneelmmaaBase
namespace Go.Proofs.Ytamcnieneelmmaa

theorem and65535 (n : Int) : bits .and .i64 n 65535 = n % 65536 := by
  show (IntKind.i64).wrap (BitVec.ofInt 64 n &&& BitVec.ofInt 64 65535).toNat = _
  rw [IntKind.wrap_i64, BitVec.toNat_and]
  have h1 : (BitVec.ofInt 64 65535).toNat = 2 ^ 16 - 1 := by decide
  have h2 : (BitVec.ofInt 64 n).toNat = (n % 18446744073709551616).toNat := by
    rw [BitVec.toNat_ofInt]
    rfl
  rw [h1, h2, Nat.and_two_pow_sub_one_eq_mod]
  have h3 : ((n % 18446744073709551616).toNat : Int) = n % 18446744073709551616 := Int.toNat_of_nonneg (by omega)
  omega
theorem and7 (n : Int) : bits .and .i64 n 7 = n % 8 := by
  show (IntKind.i64).wrap (BitVec.ofInt 64 n &&& BitVec.ofInt 64 7).toNat = _
  rw [IntKind.wrap_i64, BitVec.toNat_and]
  have h1 : (BitVec.ofInt 64 7).toNat = 2 ^ 3 - 1 := by decide
  have h2 : (BitVec.ofInt 64 n).toNat = (n % 18446744073709551616).toNat := by
    rw [BitVec.toNat_ofInt]
    rfl
  rw [h1, h2, Nat.and_two_pow_sub_one_eq_mod]
  have h3 : ((n % 18446744073709551616).toNat : Int) = n % 18446744073709551616 := Int.toNat_of_nonneg (by omega)
  omega

end Go.Proofs.Ytamcnieneelmmaa
