/- The walks of the reference's Rest and Marker. No condition. -/
import Derived.Test.YtaofponadaifiaaRfI
import Derived.Test.YtaofponadaifiaaRdE
namespace Go.Proofs.Ytaofponadaifiaa
open Go.RowKit
set_option linter.unusedSimpArgs false
set_option linter.unusedVariables false
theorem ffE_le (s : ByteArray) (f a : Nat) : a ≤ ffE s f a ∧ ffE s f a ≤ max a s.size := by
  induction f generalizing a with
  | zero => simp [ffE]; omega
  | succ f ih =>
    rw [ffE]
    split
    · rename_i h
      have := ih (a + 1)
      omega
    · omega
end Go.Proofs.Ytaofponadaifiaa
