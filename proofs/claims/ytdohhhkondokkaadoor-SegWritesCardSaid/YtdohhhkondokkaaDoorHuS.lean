/- Extend and Shorten, of the program and of the document. No condition. -/
import Derived.Test.YtdohhhkondokkaaDoorHuA
namespace Go.Proofs.YtdohhhkondokkaaDoor
open Go.RowKit
set_option linter.unusedSimpArgs false
set_option linter.unusedVariables false
/-- Bits stand for no number. -/
def exNo (v n : Int) : Prop := n < 1 ∨ 15 < n ∨ v < 0 ∨ (2 : Int) ^ n.toNat ≤ v
theorem pow_castS (k : Nat) : ∃ Q : Nat, (2 : Int) ^ k = (Q : Int) ∧ Q = 2 ^ k ∧ 1 ≤ Q := ⟨2 ^ k, by norm_cast, rfl, Nat.one_le_two_pow⟩
theorem div_pos_iff (v : Int) (Q : Nat) (hQ : 1 ≤ Q) : 0 < v / (Q : Int) ↔ (Q : Int) ≤ v := by
  have hq : (0 : Int) < (Q : Int) := by omega
  constructor
  · intro h
    have := Int.mul_ediv_self_le (x := v) (k := (Q : Int)) (by omega)
    have h1 : (Q : Int) * 1 ≤ (Q : Int) * (v / (Q : Int)) := Int.mul_le_mul_of_nonneg_left (by omega) (by omega)
    omega
  · intro h
    have := Int.le_ediv_of_mul_le hq (show 1 * (Q : Int) ≤ v by omega)
    omega
theorem pow_le (k : Nat) (h : k ≤ 15) : (2 : Nat) ^ k ≤ 32768 := Nat.pow_le_pow_right (n := 2) (by omega) h
/-- How many bits a number takes. -/
theorem bits_of (a N : Nat) (h : a < 2 ^ N) : ∃ L, L ≤ N ∧ a < 2 ^ L ∧ ∀ k, k < L → 2 ^ k ≤ a := by
  induction N with
  | zero => exact ⟨0, by omega, h, fun k hk => by omega⟩
  | succ N ih =>
    by_cases h2 : a < 2 ^ N
    · obtain ⟨L, h3, h4, h5⟩ := ih h2
      exact ⟨L, by omega, h4, h5⟩
    · exact ⟨N + 1, by omega, h, fun k hk => by have := Nat.pow_le_pow_right (n := 2) (by omega) (show k ≤ N by omega); omega⟩
end Go.Proofs.YtdohhhkondokkaaDoor
