/- Plain facts on the model's bit operations, for the packages code and gnomonref18. -/
import Derived.Test.YtkgddgckilledaaCod
import Derived.Laws.BitsAllLaws
namespace Go.Proofs.Ytkgddgckilledaa
open Go.RowKit
open Gn
theorem or128 (m : Nat) : bits .or .u8 ((m : Int) % 256) 128 = ((128 + m % 128 : Nat) : Int) := by
  have h : ∀ x, x < 256 → bits .or .u8 ((x : Nat) : Int) 128 = ((128 + x % 128 : Nat) : Int) := by decide +kernel
  have := h (m % 256) (by omega)
  rw [show ((m : Int) % 256) = ((m % 256 : Nat) : Int) by omega, this]
  omega
theorem andNot128 {x : Int} (h0 : 0 ≤ x) (h1 : x ≤ 255) : bits .andNot .u8 x 128 = ((x.toNat % 128 : Nat) : Int) := by
  have h : ∀ y, y < 256 → bits .andNot .u8 ((y : Nat) : Int) 128 = ((y % 128 : Nat) : Int) := by decide +kernel
  have := h x.toNat (by omega)
  rw [show x = (x.toNat : Int) by omega, this]
  omega
theorem u64_wrap_nat {n : Nat} (h : n < 18446744073709551616) : IntKind.u64.wrap (n : Int) = n := IntWalk.u64_in _ (by omega)
theorem pow128 (i : Nat) : (128 : Nat) ^ i = 2 ^ (7 * i) := by rw [Nat.pow_mul]
theorem group_lt {y i : Nat} (hy : y < 128) (hi : i ≤ 9) (h9 : i = 9 → y ≤ 1) : y * 128 ^ i < 18446744073709551616 := by
  rcases Nat.lt_or_ge i 9 with h | h
  · have a : 128 ^ i ≤ 128 ^ 8 := Nat.pow_le_pow_right (by omega) (by omega)
    have := Nat.mul_le_mul (show y ≤ 127 by omega) a
    have e : (127 : Nat) * 128 ^ 8 < 18446744073709551616 := by decide
    omega
  · obtain rfl : i = 9 := by omega
    exact Nat.lt_of_le_of_lt (Nat.mul_le_mul_right (128 ^ 9) (h9 rfl)) (by decide)
theorem group_sum {y i acc : Nat} (hy : y < 128) (hi : i ≤ 9) (h9 : i = 9 → y ≤ 1) (ha : acc < 128 ^ i) : acc + y * 128 ^ i < 18446744073709551616 := by
  rcases Nat.lt_or_ge i 9 with h | h
  · have a : 128 ^ i ≤ 128 ^ 8 := Nat.pow_le_pow_right (by omega) (by omega)
    have := Nat.mul_le_mul (show y ≤ 127 by omega) a
    have e : (127 : Nat) * 128 ^ 8 + 128 ^ 8 < 18446744073709551616 := by decide
    omega
  · obtain rfl : i = 9 := by omega
    exact Nat.lt_of_lt_of_le (Nat.add_lt_add_of_lt_of_le ha (Nat.mul_le_mul_right (128 ^ 9) (h9 rfl))) (by decide)
theorem cast_mul_pow (y i : Nat) : ((y : Nat) : Int) * 2 ^ (7 * i) = ((y * 128 ^ i : Nat) : Int) := by
  rw [pow128]; push_cast; rfl
theorem shl_group {y i : Nat} (hy : y < 128) (hi : i ≤ 9) (h9 : i = 9 → y ≤ 1) : IntKind.u64.wrap (((y : Nat) : Int) * 2 ^ (7 * i)) = ((y * 128 ^ i : Nat) : Int) := by
  rw [cast_mul_pow]; exact u64_wrap_nat (group_lt hy hi h9)
theorem or_group {y i acc : Nat} (hy : y < 128) (hi : i ≤ 9) (h9 : i = 9 → y ≤ 1) (ha : acc < 128 ^ i) :
    bits .or .u64 (acc : Int) ((y * 128 ^ i : Nat) : Int) = ((acc + y * 128 ^ i : Nat) : Int) := by
  have h1 := group_lt hy hi h9
  have h2 := group_sum hy hi h9 ha
  rw [u64_or_nat _ _ (by omega) h1]
  rw [pow128] at ha ⊢
  rw [Nat.or_comm, Nat.mul_comm y, ← Nat.two_pow_add_eq_or_of_lt ha]
  congr 1; omega
/-- What code.Take adds. -/
theorem take_group {x : Int} {i acc : Nat} (h0 : 0 ≤ x) (h1 : x ≤ 255) (hi : i ≤ 9) (h9 : i = 9 → x ≤ 1) (ha : acc < 128 ^ i) :
    bits .or .u64 (acc : Int) (IntKind.u64.wrap (IntKind.u64.wrap (bits .andNot .u8 x 128) * 2 ^ (7 * i))) = ((acc + x.toNat % 128 * 128 ^ i : Nat) : Int) := by
  have h9' : i = 9 → x.toNat % 128 ≤ 1 := fun h => by have := h9 h; omega
  rw [andNot128 h0 h1, u64_wrap_nat (by omega), shl_group (by omega) hi h9', or_group (by omega) hi h9' ha]
theorem acc_next {y i acc : Nat} (hy : y < 128) (ha : acc < 128 ^ i) : acc + y * 128 ^ i < 128 ^ (i + 1) := by
  have := Nat.mul_le_mul_right (128 ^ i) (show y ≤ 127 by omega)
  rw [Nat.pow_succ]; omega
end Go.Proofs.Ytkgddgckilledaa
