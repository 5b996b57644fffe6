/- The walks of NewReader and of a reader's marker. No condition. -/
import Derived.Test.YtaofponadaifiaaRdB
namespace Go.Proofs.Ytaofponadaifiaa
open Go.RowKit
set_option linter.unusedSimpArgs false
set_option linter.unusedVariables false
def clampA (s : ByteArray) (x : Int) : Nat := min x.toNat s.size
theorem newReader_walk (s : ByteArray) (x : Int) (hs : s.size ≤ 1000000) (w : World) : Calls Try.prog 18 #[.string s, .int .i64 x] w fun e w' => e = .returned (.pointer (some ⟨w.heap.size, 0, none⟩)) ∧ RdV w' w.heap.size s (clampA s x) 0 0 ∧ Below w.heap.size w w' := by
  by_cases h1 : x < 0
  · have e : clampA s x = 0 := by unfold clampA; omega
    rw [e]
    clear e
    go_enter Try.func18, Try.ntmps18
    go_wp2
    go_ret
    exact ⟨rfl, Blk.new _ _ _, (Below.refl _ _).alloc (Nat.le_refl _) _⟩
  · obtain ⟨y, rfl⟩ := Int.eq_ofNat_of_zero_le (show 0 ≤ x by omega)
    by_cases h2 : y ≤ s.size
    · have e : clampA s y = y := by unfold clampA; omega
      rw [e]
      clear e
      go_enter Try.func18, Try.ntmps18
      go_wp2
      go_ret
      exact ⟨rfl, Blk.new _ _ _, (Below.refl _ _).alloc (Nat.le_refl _) _⟩
    · have e : clampA s y = s.size := by unfold clampA; omega
      rw [e]
      clear e
      go_enter Try.func18, Try.ntmps18
      go_wp2
      go_ret
      exact ⟨rfl, Blk.new _ _ _, (Below.refl _ _).alloc (Nat.le_refl _) _⟩
end Go.Proofs.Ytaofponadaifiaa
