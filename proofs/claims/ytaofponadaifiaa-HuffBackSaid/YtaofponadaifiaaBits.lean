/- Plain laws on bits of small numbers. No condition. -/
import Derived.Test.YtaofponadaifiaaBase
namespace Go.Proofs.Ytaofponadaifiaa
open Go.RowKit
theorem two_nat (k : Nat) : (2 : Int) ^ k = ((2 ^ k : Nat) : Int) := by simp
theorem two_pos (k : Nat) : (1 : Int) ≤ 2 ^ k := by rw [two_nat]; have := Nat.two_pow_pos k; omega
theorem two_le (k m : Nat) (h : k ≤ m) : (2 : Int) ^ k ≤ 2 ^ m := by rw [two_nat, two_nat]; exact Int.ofNat_le.2 (Nat.pow_le_pow_right (by omega) h)
theorem ofInt_i64 (a : Nat) (ha : a < 9223372036854775808) : (BitVec.ofInt 64 (a : Int)).toNat = a := by
  rw [BitVec.ofInt_natCast, BitVec.toNat_ofNat]; exact Nat.mod_eq_of_lt (by omega)
theorem i64_or_nat (a b : Nat) (ha : a < 9223372036854775808) (hb : b < 9223372036854775808) : bits .or .i64 (a : Int) (b : Int) = ((a ||| b : Nat) : Int) := by
  have hx : a ||| b < 2 ^ 63 := Nat.or_lt_two_pow (by omega) (by omega)
  show IntKind.i64.wrap ((BitVec.ofInt 64 (a : Int) ||| BitVec.ofInt 64 (b : Int)).toNat : Int) = _
  rw [BitVec.toNat_or, ofInt_i64 a ha, ofInt_i64 b hb, IntKind.wrap_i64]
  omega
theorem i64_and_nat (a b : Nat) (ha : a < 9223372036854775808) (hb : b < 9223372036854775808) : bits .and .i64 (a : Int) (b : Int) = ((a &&& b : Nat) : Int) := by
  have hx : a &&& b < 2 ^ 63 := Nat.lt_of_le_of_lt Nat.and_le_left (by omega)
  show IntKind.i64.wrap ((BitVec.ofInt 64 (a : Int) &&& BitVec.ofInt 64 (b : Int)).toNat : Int) = _
  rw [BitVec.toNat_and, ofInt_i64 a ha, ofInt_i64 b hb, IntKind.wrap_i64]
  omega
theorem wrap_small (x : Int) (h0 : 0 ≤ x) (h1 : x < 9223372036854775808) : IntKind.i64.wrap x = x := by rw [IntKind.wrap_i64]; omega
theorem mul_lt30 (x : Int) (k : Nat) (hk : k ≤ 30) (x0 : 0 ≤ x) (x1 : x < 1073741824) : 0 ≤ x * 2 ^ k ∧ x * 2 ^ k < 1152921504606846976 := by
  have h1 := two_pos k
  have h2 := two_le k 30 hk
  have h3 : x * 2 ^ k ≤ x * 2 ^ 30 := Int.mul_le_mul_of_nonneg_left h2 x0
  have e : (2 : Int) ^ 30 = 1073741824 := by decide
  rw [e] at h3
  exact ⟨Int.mul_nonneg x0 (by omega), by omega⟩
theorem or_shift (x v : Int) (k : Nat) (hk : k ≤ 30) (x0 : 0 ≤ x) (x1 : x < 1073741824) (v0 : 0 ≤ v) (v1 : v < 2 ^ k) : bits .or .i64 (IntKind.i64.wrap (x * 2 ^ k)) (IntKind.i64.wrap v) = x * 2 ^ k + v := by
  have h2 := two_le k 30 hk
  have e30 : (2 : Int) ^ 30 = 1073741824 := by decide
  rw [e30] at h2
  have hm := mul_lt30 x k hk x0 x1
  rw [wrap_small _ hm.1 (by omega), wrap_small v v0 (by omega)]
  obtain ⟨a, rfl⟩ := Int.eq_ofNat_of_zero_le x0
  obtain ⟨c, rfl⟩ := Int.eq_ofNat_of_zero_le v0
  rw [two_nat] at h2 v1 hm ⊢
  have e1 : (a : Int) * ((2 ^ k : Nat) : Int) = ((a * 2 ^ k : Nat) : Int) := by rw [Int.natCast_mul]
  rw [e1] at hm ⊢
  rw [i64_or_nat _ _ (by omega) (by omega)]
  have h := (Nat.shiftLeft_add_eq_or_of_lt (show c < 2 ^ k by omega) a).symm
  rw [Nat.shiftLeft_eq] at h
  rw [h]
  omega
theorem and_mask (x : Int) (k : Nat) (hk : k ≤ 30) (x0 : 0 ≤ x) (x1 : x < 9223372036854775808) : bits .and .i64 x (2 ^ k - 1) = x % 2 ^ k := by
  obtain ⟨a, rfl⟩ := Int.eq_ofNat_of_zero_le x0
  have h1 := two_pos k
  have h2 := two_le k 30 hk
  have e30 : (2 : Int) ^ 30 = 1073741824 := by decide
  rw [e30] at h2
  rw [two_nat] at h1 h2 ⊢
  have e : ((2 ^ k : Nat) : Int) - 1 = ((2 ^ k - 1 : Nat) : Int) := by omega
  rw [e, i64_and_nat _ _ (by omega) (by omega), Nat.and_two_pow_sub_one_eq_mod]
  rw [Int.natCast_emod]
end Go.Proofs.Ytaofponadaifiaa
