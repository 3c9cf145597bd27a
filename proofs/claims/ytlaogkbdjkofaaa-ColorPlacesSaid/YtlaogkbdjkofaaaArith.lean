/- Plain facts on numbers: remainders, masks and shifts of 64-bit integers. No program. -/
import Derived.Laws.BitsLemmas
import Derived.Laws.BitsAllLaws
import Derived.Laws.Bits64
import Derived.RowKit
import Derived.IntWalk
namespace Go.Proofs.Ytlaogkbdjkofaaa
open Go.RowKit

theorem modulo_emod (n m : Int) (hm : 0 < m) : n % m = if n.tmod m < 0 then n.tmod m + m else n.tmod m := by
  have h1 := Int.emod_nonneg n (show m ≠ 0 by omega)
  have h2 := Int.emod_lt_of_pos n hm
  rw [Int.tmod_eq_emod]
  by_cases h : 0 ≤ n ∨ m ∣ n
  · simp only [h, if_true]; split <;> omega
  · simp only [h, if_false]; split <;> omega

theorem tmod_bd (n m : Int) (hm : 0 < m) : -m < n.tmod m ∧ n.tmod m < m := by
  have h1 := Int.emod_nonneg n (show m ≠ 0 by omega)
  have h2 := Int.emod_lt_of_pos n hm
  rw [Int.tmod_eq_emod]
  split <;> omega

theorem ofInt_i64 (x : Int) : (BitVec.ofInt 64 x).toNat = (x % 18446744073709551616).toNat := by
  rw [BitVec.toNat_ofInt]; rfl

theorem nat_field (x k j : Nat) : x &&& (2 ^ k * (2 ^ j - 1)) = x / 2 ^ k % 2 ^ j * 2 ^ k := by
  apply Nat.eq_of_testBit_eq
  intro i
  rw [Nat.testBit_and, Nat.mul_comm (2 ^ k), ← Nat.shiftLeft_eq, ← Nat.shiftLeft_eq, Nat.testBit_shiftLeft, Nat.testBit_shiftLeft, Nat.testBit_two_pow_sub_one, Nat.testBit_mod_two_pow, Nat.testBit_div_two_pow]
  by_cases h : k ≤ i
  · have : i - k + k = i := by omega
    rw [this]
    simp [h]
    exact Bool.and_comm _ _
  · simp [h]

theorem and_nat (x : Int) (M r : Nat) (hM : M < 9223372036854775808) (hr : r < 9223372036854775808) (h : (x % 18446744073709551616).toNat &&& M = r) :
    bits .and .i64 x (M : Int) = (r : Int) := by
  have e1 : (BitVec.ofInt 64 (M : Int)).toNat = M := by rw [ofInt_i64]; omega
  show IntKind.i64.wrap ((BitVec.ofInt 64 x &&& BitVec.ofInt 64 (M : Int)).toNat : Nat) = _
  rw [BitVec.toNat_and, e1, ofInt_i64, h, IntKind.wrap_i64]
  omega

theorem and_1 (x : Int) : bits .and .i64 x 1 = x % 2 := by
  have h := nat_field (x % 18446744073709551616).toNat 0 1
  simp only [Nat.pow_zero, Nat.pow_one, Nat.reduceSub, Nat.mul_one, Nat.div_one] at h
  rw [show (1 : Int) = ((1 : Nat) : Int) from rfl, and_nat x 1 _ (by omega) (by omega) h]
  omega
theorem and_15 (x : Int) : bits .and .i64 x 15 = x % 16 := by
  have h := nat_field (x % 18446744073709551616).toNat 0 4
  simp only [Nat.pow_zero, Nat.reducePow, Nat.reduceSub, Nat.reduceMul, Nat.mul_one, Nat.div_one] at h
  rw [show (15 : Int) = ((15 : Nat) : Int) from rfl, and_nat x 15 _ (by omega) (by omega) h]
  omega
theorem and_255 (x : Int) : bits .and .i64 x 255 = x % 256 := by
  have h := nat_field (x % 18446744073709551616).toNat 0 8
  simp only [Nat.pow_zero, Nat.reducePow, Nat.reduceSub, Nat.reduceMul, Nat.mul_one, Nat.div_one] at h
  rw [show (255 : Int) = ((255 : Nat) : Int) from rfl, and_nat x 255 _ (by omega) (by omega) h]
  omega
theorem and_4095 (x : Int) : bits .and .i64 x 4095 = x % 4096 := by
  have h := nat_field (x % 18446744073709551616).toNat 0 12
  simp only [Nat.pow_zero, Nat.reducePow, Nat.reduceSub, Nat.reduceMul, Nat.mul_one, Nat.div_one] at h
  rw [show (4095 : Int) = ((4095 : Nat) : Int) from rfl, and_nat x 4095 _ (by omega) (by omega) h]
  omega
theorem and_u32 (x : Int) : bits .and .i64 x 4294967295 = x % 4294967296 := by
  have h := nat_field (x % 18446744073709551616).toNat 0 32
  simp only [Nat.pow_zero, Nat.reducePow, Nat.reduceSub, Nat.reduceMul, Nat.mul_one, Nat.div_one] at h
  rw [show (4294967295 : Int) = ((4294967295 : Nat) : Int) from rfl, and_nat x 4294967295 _ (by omega) (by omega) h]
  omega
theorem and_3f00 (x : Int) : bits .and .i64 x 16128 = x / 256 % 64 * 256 := by
  have h := nat_field (x % 18446744073709551616).toNat 8 6
  simp only [Nat.reducePow, Nat.reduceSub, Nat.reduceMul] at h
  rw [show (16128 : Int) = ((16128 : Nat) : Int) from rfl, and_nat x 16128 _ (by omega) (by omega) h]
  omega
theorem and_long (x : Int) : bits .and .i64 x 67108864 = x / 67108864 % 2 * 67108864 := by
  have h := nat_field (x % 18446744073709551616).toNat 26 1
  simp only [Nat.reducePow, Nat.reduceSub, Nat.pow_one, Nat.mul_one] at h
  rw [show (67108864 : Int) = ((67108864 : Nat) : Int) from rfl, and_nat x 67108864 _ (by omega) (by omega) h]
  omega

/-- '|' of two numbers without a common bit -/
theorem or_join (x y : Nat) (i : Nat) (hx : x % 2 ^ i = 0) (hy : y < 2 ^ i) (hs : x + y < 9223372036854775808) : bits .or .i64 (x : Int) (y : Int) = ((x + y : Nat) : Int) := by
  have e1 : (BitVec.ofInt 64 (x : Int)).toNat = x := by rw [ofInt_i64]; omega
  have e2 : (BitVec.ofInt 64 (y : Int)).toNat = y := by rw [ofInt_i64]; omega
  show IntKind.i64.wrap ((BitVec.ofInt 64 (x : Int) ||| BitVec.ofInt 64 (y : Int)).toNat : Nat) = _
  rw [BitVec.toNat_or, e1, e2, nat_join i x y hx hy, IntKind.wrap_i64]
  omega

theorem small_eq (n : Int) : wrap64 (wrap32 (IntKind.u64.wrap n % 4294967296)) = wrap32 n := by
  simp only [IntKind.wrap_u64, wrap32, wrap64]; omega
theorem wrap32_bd (n : Int) : -2147483648 ≤ wrap32 n ∧ wrap32 n ≤ 2147483647 := by unfold wrap32; omega
theorem wrap32_id (n : Int) (h : -2147483648 ≤ n ∧ n ≤ 2147483647) : wrap32 n = n := by unfold wrap32; omega
end Go.Proofs.Ytlaogkbdjkofaaa
