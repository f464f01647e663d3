/-
  Plain facts on the bit operations that float.Right and val.Right use.
-/
import Derived.Test.YtideokbaenkijaaJRegion
namespace Go.Proofs.Ytideokbaenkijaa
open Go.RowKit

theorem and_low (m k : Nat) : m &&& (2 ^ k - 1) = m % 2 ^ k := Nat.and_two_pow_sub_one_eq_mod m k

theorem wrap_i64_small (n : Int) (h0 : 0 ≤ n) (h1 : n < 9223372036854775808) : IntKind.i64.wrap n = n := by
  simp [IntKind.wrap, IntKind.bits, IntKind.signed]
  split <;> omega

theorem andNot_u64_top (u : Int) (h0 : 0 ≤ u) (h1 : u < 18446744073709551616) : bits .andNot .u64 u 9223372036854775808 = u % 9223372036854775808 := by
  rw [u64_andNot u _ h0 h1 (by omega) (by omega)]
  obtain ⟨m, rfl⟩ := Int.eq_ofNat_of_zero_le h0
  rw [show (18446744073709551615 - (9223372036854775808 : Int).toNat) = 2 ^ 63 - 1 from by decide, and_low]
  simp

theorem ofInt64_toNat (n : Int) : (BitVec.ofInt 64 n).toNat = (n % 18446744073709551616).toNat := by
  rw [BitVec.toNat_ofInt]
  rfl

theorem andNot_i64_top (n : Int) : bits .andNot .i64 n (-9223372036854775808) = n % 9223372036854775808 := by
  show IntKind.i64.wrap ((BitVec.ofInt 64 n &&& ~~~BitVec.ofInt 64 (-9223372036854775808)).toNat : Int) = _
  have h1 : (~~~BitVec.ofInt 64 (-9223372036854775808)).toNat = 2 ^ 63 - 1 := by decide
  rw [BitVec.toNat_and, h1, ofInt64_toNat, and_low, wrap_i64_small _ (by omega) (by omega)]
  omega

theorem and_one_zero (m : Nat) (h : m < 18446744073709551616) : m &&& 18446744073709551614 = 0 ↔ m ≤ 1 := by
  have e : m &&& 18446744073709551614 = 2 * (m / 2) := by
    have h2 : m &&& 18446744073709551614 = m / 2 % 2 ^ 63 * 2 := by
      apply Nat.eq_of_testBit_eq
      intro i
      cases i with
      | zero =>
        rw [Nat.testBit_and, Nat.testBit_zero, Nat.testBit_zero, Nat.testBit_zero]
        simp
      | succ i =>
        rw [Nat.testBit_and, Nat.testBit_succ, Nat.testBit_succ, Nat.testBit_succ, show (18446744073709551614 : Nat) / 2 = 2 ^ 63 - 1 from by decide, Nat.mul_div_cancel _ (by decide), Nat.testBit_two_pow_sub_one, Nat.testBit_mod_two_pow]
        rw [Bool.and_comm]
    rw [h2]; omega
  rw [e]; omega

theorem andNot_i64_one (n : Int) (h0 : -9223372036854775808 ≤ n) (h1 : n < 9223372036854775808) : (bits .andNot .i64 n 1 == 0) = (n == 0 || n == 1) := by
  have e : bits .andNot .i64 n 1 = IntKind.i64.wrap (((n % 18446744073709551616).toNat &&& 18446744073709551614 : Nat) : Int) := by
    show IntKind.i64.wrap ((BitVec.ofInt 64 n &&& ~~~BitVec.ofInt 64 1).toNat : Int) = _
    have h1 : (~~~BitVec.ofInt 64 1).toNat = 18446744073709551614 := by decide
    rw [BitVec.toNat_and, h1, ofInt64_toNat]
  have hz := and_one_zero (n % 18446744073709551616).toNat (by omega)
  have hlt : (n % 18446744073709551616).toNat &&& 18446744073709551614 < 2 ^ 64 := Nat.and_lt_two_pow _ (by decide)
  generalize hm : (n % 18446744073709551616).toNat &&& 18446744073709551614 = m at *
  have hw : IntKind.i64.wrap (m : Int) = 0 ↔ m = 0 := by
    by_cases hc : (m : Int) % 2 ^ 64 ≥ 2 ^ 63
    · simp only [IntKind.wrap, IntKind.bits, IntKind.signed, Bool.true_and]
      rw [if_pos (by simpa using hc)]; omega
    · simp only [IntKind.wrap, IntKind.bits, IntKind.signed, Bool.true_and]
      rw [if_neg (by simpa using hc)]; omega
  rw [Bool.eq_iff_iff, e, beq_iff_eq, hw, hz]
  simp only [Bool.or_eq_true, beq_iff_eq]
  omega
end Go.Proofs.Ytideokbaenkijaa
