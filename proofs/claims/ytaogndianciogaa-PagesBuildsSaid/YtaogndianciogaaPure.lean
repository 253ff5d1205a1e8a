/- Plain laws on bits of a uint64. No condition but the range of a uint64. -/
import Derived.WalkKit
/- plain laws on bits of a uint64 -/
namespace Go.Proofs.Ytaogndianciogaa
open Go.RowKit
set_option linter.unusedSimpArgs false
theorem nat_and_mask (n k j : Nat) : n &&& (2 ^ k - 1) * 2 ^ j = n / 2 ^ j % 2 ^ k * 2 ^ j := by
  apply Nat.eq_of_testBit_eq
  intro i
  rw [Nat.testBit_and, Nat.testBit_mul_two_pow, Nat.testBit_mul_two_pow, Nat.testBit_mod_two_pow, Nat.testBit_two_pow_sub_one, Nat.testBit_div_two_pow]
  by_cases h : j ≤ i
  · have : i - j + j = i := by omega
    simp [h, this]
    cases n.testBit i <;> simp
  · simp [h]
theorem nat_and_1 (n : Nat) : n &&& 1 = n % 2 := by simp
theorem nat_and_2 (n : Nat) : n &&& 2 = n / 2 % 2 * 2 := nat_and_mask n 1 1
theorem nat_and_4 (n : Nat) : n &&& 4 = n / 4 % 2 * 4 := nat_and_mask n 1 2
theorem nat_and_8 (n : Nat) : n &&& 8 = n / 8 % 2 * 8 := nat_and_mask n 1 3
theorem nat_and_frames (n : Nat) : n &&& 4294963200 = n / 4096 % 1048576 * 4096 := nat_and_mask n 20 12
theorem nat_and_rest (n : Nat) (hn : n < 18446744073709551616) : n &&& 18446744069414588400 = 0 ↔ n = n / 4096 % 1048576 * 4096 + n % 16 := by
  have e : (18446744069414588400 : Nat) = 4080 ||| 18446744069414584320 := by decide
  rw [e, Nat.and_or_distrib_left, Nat.or_eq_zero_iff]
  have h1 : n &&& 4080 = n / 16 % 256 * 16 := nat_and_mask n 8 4
  have h2 : n &&& 18446744069414584320 = n / 4294967296 % 4294967296 * 4294967296 := nat_and_mask n 32 32
  rw [h1, h2]
  omega
section
variable {e : Int} (h0 : 0 ≤ e) (h1 : e < 18446744073709551616)
include h0 h1
theorem and_1 : bits .and .u64 e 1 = e % 2 := by
  rw [u64_and e 1 h0 h1 (by omega) (by omega)]; simp only [Int.toNat_one, nat_and_1]; omega
theorem and_2 : bits .and .u64 e 2 = e / 2 % 2 * 2 := by
  rw [u64_and e 2 h0 h1 (by omega) (by omega), show (2 : Int).toNat = 2 from rfl, nat_and_2]; omega
theorem and_4 : bits .and .u64 e 4 = e / 4 % 2 * 4 := by
  rw [u64_and e 4 h0 h1 (by omega) (by omega), show (4 : Int).toNat = 4 from rfl, nat_and_4]; omega
theorem and_8 : bits .and .u64 e 8 = e / 8 % 2 * 8 := by
  rw [u64_and e 8 h0 h1 (by omega) (by omega), show (8 : Int).toNat = 8 from rfl, nat_and_8]; omega
theorem and_frames : bits .and .u64 e 4294963200 = e / 4096 % 1048576 * 4096 := by
  rw [u64_and e 4294963200 h0 h1 (by omega) (by omega), show (4294963200 : Int).toNat = 4294963200 from rfl, nat_and_frames]; omega
theorem andNot_rest : bits .andNot .u64 e 4294963215 = 0 ↔ e = e / 4096 % 1048576 * 4096 + e % 16 := by
  rw [u64_andNot e 4294963215 h0 h1 (by omega) (by omega), show (4294963215 : Int).toNat = 4294963215 from rfl]
  have := nat_and_rest e.toNat (by omega)
  rw [show 18446744073709551615 - 4294963215 = 18446744069414588400 from rfl]
  omega
end
end Go.Proofs.Ytaogndianciogaa
