/- Count where there is no frame, or what is asked for does not rise. No condition. -/
import Derived.Test.YtjfnlgmllhjonaaFrR
namespace Go.Proofs.Ytjfnlgmllhjonaa
open Go.RowKit
set_option linter.unusedSimpArgs false
set_option linter.unusedVariables false
set_option maxRecDepth 100000
theorem count_nil (w : World) (C : Option Addr) (m cc : Nat) : Calls Try.prog 17 #[.pointer none, .slice C m cc] w fun e w' => e = .returned (.tuple #[.int .i64 0, .int .i64 8]) ∧ Below w.heap.size w w' := by
  go_enter Try.func17, Try.ntmps17
  go_wp2_with fail
  go_ret2
  exact ⟨rfl, Below.refl _ _⟩
def lastF (f : Nat → Int) : Nat → Int
  | 0 => -1
  | j + 1 => f j
theorem goodZ_iff {ng : Nat} {f : Nat → Int} {j : Nat} (h : ∀ i, i < j → goodZ ng f i) : goodZ ng f j ↔ (lastF f j < f j ∧ f j < ng) := by
  unfold goodZ
  cases j with
  | zero => exact ⟨fun h => ⟨by show (-1 : Int) < _; omega, h.2.1⟩, fun h => ⟨by have : (-1 : Int) < f 0 := h.1; omega, h.2, fun h0 => absurd h0 (Nat.lt_irrefl 0)⟩⟩
  | succ j =>
    have h0 := (h j (Nat.lt_succ_self j)).1
    exact ⟨fun h1 => ⟨h1.2.2 (Nat.succ_pos j), h1.2.1⟩, fun h1 => ⟨by have : f j < f (j + 1) := h1.1; omega, h1.2, fun _ => h1.1⟩⟩
set_option maxHeartbeats 1000000 in
theorem count_no (w : World) (G : Nat) (pv : Value) (Ag C : Option Addr) (np cg m cc : Nat) (f : Nat → Int) (ac dn uw uh tot iu : Int) (H : Blk w G 67 (frC pv (.slice Ag np cg) ac dn uw uh tot iu)) (hC : RdZ w C m f) (hm : m ≤ 1000000) (hno : risesB np m f = false) :
    Calls Try.prog 17 #[.pointer (some ⟨G, 0, none⟩), .slice C m cc] w fun e w' => e = .returned (.tuple #[.int .i64 0, .int .i64 8]) ∧ Below w.heap.size w w' := by
  have HC := Lib.hid hC
  have HNO := Lib.hid (of_decide_eq_false hno)
  have q1 : w.cell? ⟨G, 1, none⟩ = some (.slice Ag np cg) := H.cell 1
  clear hC H hno
  by_cases hm0 : m = 0
  case pos =>
    obtain rfl := hm0
    go_enter Try.func17, Try.ntmps17
    go_wp2_with fail
    go_ret2
    exact ⟨rfl, Below.refl _ _⟩
  case neg =>
  have dm : ((m : Int) == 0) = false := by simp; omega
  go_enter Try.func17, Try.ntmps17
  go_wp2_with fail
  clear dm
  go_loopw [6, 19] (fun t6 t19 wr => ∃ j : Nat, j ≤ m ∧ t6 = .int .i64 (lastF f j) ∧ t19 = .int .i64 j ∧ wr = w ∧ Hid (∀ i, i < j → goodZ np f i)) (fun _ t _ => m - (intOf t).toNat)
  case atStart => exact ⟨0, by omega, rfl, rfl, rfl, Lib.hid fun i hi => absurd hi (Nat.not_lt_zero i)⟩
  case round =>
    obtain ⟨j, hj, rfl, rfl, rfl, HG⟩ := hrel
    by_cases hjm : j < m
    case neg =>
      exact absurd ⟨by omega, fun i hi => HG.out i (by omega)⟩ HNO.out
    case pos =>
    obtain ⟨gc, oc, hCe, hgc, qc⟩ := HC.out j hjm
    subst hCe
    have hiff := goodZ_iff HG.out
    have hnx : goodZ np f j → ∀ i, i < j + 1 → goodZ np f i := fun h i hi => by
      by_cases e : i = j
      · rw [e]; exact h
      · exact HG.out i (by omega)
    obtain ⟨x, hx⟩ : ∃ z, z = f j := ⟨_, rfl⟩
    obtain ⟨z, hz⟩ : ∃ z, z = lastF f j := ⟨_, rfl⟩
    have HN : Hid (x = lastF f (j + 1)) := Lib.hid hx
    rw [← hx] at qc hiff
    rw [← hz] at hiff ⊢
    rw [hiff] at hnx
    have HNX := Lib.hid hnx
    clear hx hz hiff hnx
    by_cases h1 : x ≤ z
    case pos =>
      have d1 : decide (x ≤ z) = true := by simpa using h1
      clear h1
      go_wp2_with fail
      go_ret2
      exact ⟨rfl, Below.refl _ _⟩
    case neg =>
    have d1 : decide (x ≤ z) = false := by simpa using h1
    by_cases h2 : (np : Int) ≤ x
    case pos =>
      have d2 : decide ((np : Int) ≤ x) = true := by simpa using h2
      clear h1 h2
      go_wp2_with fail
      go_ret2
      exact ⟨rfl, Below.refl _ _⟩
    case neg =>
    have d2 : decide ((np : Int) ≤ x) = false := by simpa using h2
    have HG2 := Lib.hid (HNX.out ⟨by omega, by omega⟩)
    clear h1 h2
    go_wp2_with fail
    go_roundw
    case rel => exact ⟨j + 1, by omega, congrArg (Value.int .i64) HN.out, by go_num, by first | rfl | trivial, HG2⟩
    case measure => simp [intOf]; omega
end Go.Proofs.Ytjfnlgmllhjonaa
