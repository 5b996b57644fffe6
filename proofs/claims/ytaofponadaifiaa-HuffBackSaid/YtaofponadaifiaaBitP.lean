/- Plain laws: numbers as lists of bits. No condition. -/
import Derived.Test.YtaofponadaifiaaBits
namespace Go.Proofs.Ytaofponadaifiaa
open Go.RowKit
set_option linter.unusedSimpArgs false
set_option linter.unusedVariables false
/-- The n low bits of v, the highest first. -/
def bitsN : Nat → Int → List Int
  | 0, _ => []
  | n + 1, v => bitsN n (v / 2) ++ [v % 2]
theorem bitsN_len (n : Nat) (v : Int) : (bitsN n v).length = n := by
  induction n generalizing v with
  | zero => rfl
  | succ n ih => simp [bitsN, ih]
theorem bitsN_bit (n : Nat) (v : Int) : ∀ b ∈ bitsN n v, 0 ≤ b ∧ b ≤ 1 := by
  induction n generalizing v with
  | zero => intro b hb; simp [bitsN] at hb
  | succ n ih =>
    intro b hb
    rw [bitsN] at hb
    rcases List.mem_append.1 hb with hb | hb
    · exact ih _ b hb
    · simp at hb; omega
theorem bitsN_split (a b : Nat) (v : Int) : bitsN (a + b) v = bitsN a (v / 2 ^ b) ++ bitsN b v := by
  induction b generalizing v with
  | zero => simp [bitsN]
  | succ b ih =>
    have e : v / 2 / 2 ^ b = v / 2 ^ (b + 1) := by
      rw [Int.ediv_ediv_of_nonneg (by omega), Int.pow_succ, Int.mul_comm]
    rw [← Nat.add_assoc, bitsN, ih, e, bitsN, List.append_assoc]
theorem bitsN_mod (b : Nat) (v : Int) : bitsN b (v % 2 ^ b) = bitsN b v := by
  induction b generalizing v with
  | zero => rfl
  | succ b ih =>
    have hp := two_pos b
    have e1 : (2 : Int) ^ (b + 1) = 2 * 2 ^ b := by rw [Int.pow_succ, Int.mul_comm]
    have h1 : v % 2 ^ (b + 1) % 2 = v % 2 := by rw [e1]; exact Int.emod_emod_of_dvd v ⟨2 ^ b, rfl⟩
    have h2 : v % 2 ^ (b + 1) / 2 = v / 2 % 2 ^ b := by
      rw [e1]
      have h3 := Int.emod_add_mul_ediv v (2 * 2 ^ b)
      have h4 := Int.emod_add_mul_ediv (v / 2) (2 ^ b)
      have h5 : v / 2 / 2 ^ b = v / (2 * 2 ^ b) := by rw [Int.ediv_ediv_of_nonneg (by omega)]
      rw [h5] at h4
      obtain ⟨X, hX⟩ : ∃ X, X = 2 ^ b * (v / (2 * 2 ^ b)) := ⟨_, rfl⟩
      have h6 : 2 * 2 ^ b * (v / (2 * 2 ^ b)) = 2 * X := by rw [hX, Int.mul_assoc]
      rw [h6] at h3
      rw [← hX] at h4
      omega
    rw [bitsN, bitsN, h1, h2, ih]
theorem bitsN_cut (m : Nat) (H : Int) : bitsN (m + 8) H = bitsN 8 (H / 2 ^ m) ++ bitsN m (H % 2 ^ m) := by
  rw [Nat.add_comm, bitsN_split, bitsN_mod]
theorem bitsN_put (c n : Nat) (h v : Int) (v0 : 0 ≤ v) (v1 : v < 2 ^ n) : bitsN (c + n) (h * 2 ^ n + v) = bitsN c h ++ bitsN n v := by
  have hp := two_pos n
  have e1 : (h * 2 ^ n + v) / 2 ^ n = h := by
    rw [Int.add_comm, Int.add_mul_ediv_right _ _ (by omega), Int.ediv_eq_zero_of_lt v0 v1]; omega
  have e2 : (h * 2 ^ n + v) % 2 ^ n = v := by
    rw [Int.add_comm, Int.add_mul_emod_self_right, Int.emod_eq_of_lt v0 v1]
  rw [bitsN_split, e1, ← bitsN_mod n (h * 2 ^ n + v), e2]
/-- Bits as a number. -/
def valB (l : List Int) : Int := l.foldl (fun a b => a * 2 + b) 0
theorem valB_snoc (l : List Int) (b : Int) : valB (l ++ [b]) = valB l * 2 + b := by simp [valB]
theorem valB_bitsN (n : Nat) (v : Int) : valB (bitsN n v) = v % 2 ^ n := by
  induction n generalizing v with
  | zero => simp [bitsN, valB, Int.emod_one]
  | succ n ih =>
    have hp := two_pos n
    have e1 : (2 : Int) ^ (n + 1) = 2 * 2 ^ n := by rw [Int.pow_succ, Int.mul_comm]
    rw [bitsN, valB_snoc, ih, e1]
    have h3 := Int.emod_add_mul_ediv v (2 * 2 ^ n)
    have h4 := Int.emod_add_mul_ediv (v / 2) (2 ^ n)
    have h5 : v / 2 / 2 ^ n = v / (2 * 2 ^ n) := by rw [Int.ediv_ediv_of_nonneg (by omega)]
    rw [h5] at h4
    obtain ⟨X, hX⟩ : ∃ X, X = 2 ^ n * (v / (2 * 2 ^ n)) := ⟨_, rfl⟩
    have h6 : 2 * 2 ^ n * (v / (2 * 2 ^ n)) = 2 * X := by rw [hX, Int.mul_assoc]
    rw [h6] at h3
    rw [← hX] at h4
    omega
theorem bitsN_inj (n : Nat) (v : Int) (v0 : 0 ≤ v) (v1 : v < 2 ^ n) : valB (bitsN n v) = v := by rw [valB_bitsN, Int.emod_eq_of_lt v0 v1]
end Go.Proofs.Ytaofponadaifiaa
