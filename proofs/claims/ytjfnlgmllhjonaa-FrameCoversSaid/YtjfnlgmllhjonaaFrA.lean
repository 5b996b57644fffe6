/- Small functions of frames. No condition. -/
import Derived.Test.YtjfnlgmllhjonaaOwnS
namespace Go.Proofs.Ytjfnlgmllhjonaa
open Go.RowKit
set_option linter.unusedSimpArgs false
set_option linter.unusedVariables false
theorem up_walk (a b : Int) (a0 : 0 ≤ a) (a1 : a ≤ 10000000) (b0 : 1 ≤ b) (b1 : b ≤ 1000) (w : World) : Calls Try.prog 22 #[.int .i64 a, .int .i64 b] w fun e w' => e = .returned (.int .i64 ((a + b - 1) / b)) ∧ w' = w := by
  have hq : wrap64 ((a + b - 1).tdiv b) = (a + b - 1) / b := by
    rw [Int.tdiv_eq_ediv_of_nonneg (by omega)]
    have := Int.ediv_le_self b (show 0 ≤ a + b - 1 by omega)
    have := Int.ediv_nonneg (show 0 ≤ a + b - 1 by omega) (show 0 ≤ b by omega)
    unfold wrap64; omega
  go_enter Try.func22, Try.ntmps22
  go_wp2
  go_ret
  exact ⟨by first | rfl | (show Ending.returned (.int .i64 (wrap64 ((a + b - 1).tdiv b))) = _; rw [hq]), rfl⟩
theorem cover_walk (a b : Int) (a0 : 0 ≤ a) (a1 : a ≤ 10000000) (b0 : 1 ≤ b) (b1 : b ≤ 1000) (w : World) : Calls Try.prog 23 #[.int .i64 a, .int .i64 b] w fun e w' => e = .returned (.int .i64 ((a + b - 1) / b)) ∧ w' = w := by
  have hm := Int.emod_add_mul_ediv a b
  have hm1 := Int.emod_lt_of_pos a (show 0 < b by omega)
  have hm0 := Int.emod_nonneg a (show b ≠ 0 by omega)
  have h1 := Int.ediv_nonneg a0 (show 0 ≤ b by omega)
  have h2 := Int.ediv_le_self b a0
  have hr : a.tmod b = a % b := Int.tmod_eq_emod_of_nonneg a0
  have hd : a.tdiv b = a / b := Int.tdiv_eq_ediv_of_nonneg a0
  have hw : wrap64 (a.tdiv b) = a / b := by rw [hd]; unfold wrap64; omega
  have HR := Lib.hid hr
  by_cases h : 0 < a % b
  · have e : (a + b - 1) / b = a / b + 1 := by
      have e1 : a + b - 1 = (a % b - 1) + b * (a / b + 1) := by rw [Int.mul_add, Int.mul_one]; omega
      rw [e1, Int.add_mul_ediv_left _ _ (by omega), Int.ediv_eq_zero_of_lt (by omega) (by omega)]; omega
    rw [e]
    clear hm e hr hd
    go_enter Try.func23, Try.ntmps23
    go_wp2
    go_ret
    first | exact ⟨rfl, rfl⟩ | skip
  · have e : (a + b - 1) / b = a / b := by
      have e1 : a + b - 1 = (b - 1) + b * (a / b) := by omega
      rw [e1, Int.add_mul_ediv_left _ _ (by omega), Int.ediv_eq_zero_of_lt (by omega) (by omega)]; omega
    rw [e]
    have h0 : ¬ 0 < a % b := h
    clear hm e hr hd
    go_enter Try.func23, Try.ntmps23
    go_wp2
    go_ret
    first | exact ⟨rfl, rfl⟩ | skip
/-- What a frame's block holds. -/
def frC (p g : Value) (ac dn uw uh tot iu : Int) : Array Value := #[p, g, .int .i64 ac, .int .i64 dn, .int .i64 uw, .int .i64 uh, .int .i64 tot, .int .i64 iu]
theorem units_walk (w : World) (b : Nat) (p g : Value) (ac dn uw uh tot iu : Int) (H : Blk w b 67 (frC p g ac dn uw uh tot iu)) : Calls Try.prog 10 #[.pointer (some ⟨b, 0, none⟩)] w fun e w' => e = .returned (.tuple #[.int .i64 ac, .int .i64 dn]) ∧ Below w.heap.size w w' := by
  have h2 : w.cell? ⟨b, 2, none⟩ = some (.int .i64 ac) := H.cell 2
  have h3 : w.cell? ⟨b, 3, none⟩ = some (.int .i64 dn) := H.cell 3
  clear H
  go_enter Try.func10, Try.ntmps10
  go_wp2_with fail
  go_region
  go_wp2
  go_ret2
  exact ⟨rfl, (Below.refl _ _).drew⟩
theorem unit_walk (w : World) (b : Nat) (p g : Value) (ac dn uw uh tot iu : Int) (H : Blk w b 67 (frC p g ac dn uw uh tot iu)) : Calls Try.prog 11 #[.pointer (some ⟨b, 0, none⟩)] w fun e w' => e = .returned (.tuple #[.int .i64 uw, .int .i64 uh]) ∧ Below w.heap.size w w' := by
  have h2 : w.cell? ⟨b, 4, none⟩ = some (.int .i64 uw) := H.cell 4
  have h3 : w.cell? ⟨b, 5, none⟩ = some (.int .i64 uh) := H.cell 5
  clear H
  go_enter Try.func11, Try.ntmps11
  go_wp2_with fail
  go_region
  go_wp2
  go_ret2
  exact ⟨rfl, (Below.refl _ _).drew⟩
theorem blocks_walk (w : World) (b : Nat) (p g : Value) (ac dn uw uh tot iu : Int) (H : Blk w b 67 (frC p g ac dn uw uh tot iu)) : Calls Try.prog 14 #[.pointer (some ⟨b, 0, none⟩)] w fun e w' => e = .returned (.int .i64 tot) ∧ w' = w := by
  have h2 : w.cell? ⟨b, 6, none⟩ = some (.int .i64 tot) := H.cell 6
  clear H
  go_enter Try.func14, Try.ntmps14
  go_wp2
  go_ret
  exact ⟨rfl, rfl⟩
theorem units_nil (w : World) : Calls Try.prog 10 #[.pointer none] w fun e w' => e = .returned (.tuple #[.int .i64 0, .int .i64 0]) ∧ w' = w := by
  go_enter Try.func10, Try.ntmps10
  go_wp2
  go_ret2
  exact ⟨rfl, rfl⟩
theorem unit_nil (w : World) : Calls Try.prog 11 #[.pointer none] w fun e w' => e = .returned (.tuple #[.int .i64 0, .int .i64 0]) ∧ w' = w := by
  go_enter Try.func11, Try.ntmps11
  go_wp2
  go_ret2
  exact ⟨rfl, rfl⟩
theorem blocks_nil (w : World) : Calls Try.prog 14 #[.pointer none] w fun e w' => e = .returned (.int .i64 0) ∧ w' = w := by
  go_enter Try.func14, Try.ntmps14
  go_wp2
  go_ret
  exact ⟨rfl, rfl⟩
end Go.Proofs.Ytjfnlgmllhjonaa
