/- The walks of a reader's marker, Marker and Skip. No condition. -/
import Derived.Test.YtaofponadaifiaaRdC
namespace Go.Proofs.Ytaofponadaifiaa
open Go.RowKit
set_option linter.unusedSimpArgs false
set_option linter.unusedVariables false
/-- Where a run of ff ends. -/
def ffE (s : ByteArray) : Nat → Nat → Nat
  | 0, a => a
  | f + 1, a => if a < s.size ∧ byteA s a = 255 then ffE s f (a + 1) else a
def markerV (s : ByteArray) (a : Nat) : Int × Nat := if ffE s s.size a = a ∨ s.size ≤ ffE s s.size a ∨ byteA s (ffE s s.size a) = 0 then (0, 0) else (byteA s (ffE s s.size a), ffE s s.size a + 1 - a)
end Go.Proofs.Ytaofponadaifiaa
