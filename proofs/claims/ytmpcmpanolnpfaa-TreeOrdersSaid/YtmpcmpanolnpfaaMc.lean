/- TreeMany: masks. -/
import Derived.Test.YtmpcmpanolnpfaaMa
set_option linter.unusedVariables false
namespace Go.Proofs.Ytmpcmpanolnpfaa.Tr
/-- the low bits of a number, at 64 bits -/
theorem low_bits (n m : Int) (k : Nat) (hm : (BitVec.ofInt 64 m).toNat = 2 ^ k - 1) : bits .and .i64 n m = IntKind.i64.wrap (((n % 18446744073709551616).toNat % 2 ^ k : Nat) : Int) := by
  have h : (BitVec.ofInt 64 n &&& BitVec.ofInt 64 m).toNat = (n % 18446744073709551616).toNat % 2 ^ k := by
    rw [BitVec.toNat_and, hm, Nat.and_two_pow_sub_one_eq_mod, BitVec.toNat_ofInt]
    rfl
  rw [← h]
  rfl
theorem and_1023 (n : Int) : bits .and .i64 n 1023 = n % 1024 := by
  rw [low_bits n 1023 10 (by decide), IntKind.wrap_i64]
  omega
theorem and_511 (n : Int) : bits .and .i64 n 511 = n % 512 := by
  rw [low_bits n 511 9 (by decide), IntKind.wrap_i64]
  omega
theorem and_7 (n : Int) : bits .and .i64 n 7 = n % 8 := by
  rw [low_bits n 7 3 (by decide), IntKind.wrap_i64]
  omega
theorem and_63 (n : Int) : bits .and .i64 n 63 = n % 64 := by
  rw [low_bits n 63 6 (by decide), IntKind.wrap_i64]
  omega
theorem and_3 (n : Int) : bits .and .i64 n 3 = n % 4 := by
  rw [low_bits n 3 2 (by decide), IntKind.wrap_i64]
  omega
theorem and_65535 (n : Int) : bits .and .i64 n 65535 = n % 65536 := by
  rw [low_bits n 65535 16 (by decide), IntKind.wrap_i64]
  omega
end Go.Proofs.Ytmpcmpanolnpfaa.Tr
