/- The walks of the reference's Mark. No condition. -/
import Derived.Test.YtaofponadaifiaaRfD
import Derived.Test.YtaofponadaifiaaWriC
namespace Go.Proofs.Ytaofponadaifiaa
open Go.RowKit
set_option linter.unusedSimpArgs false
set_option linter.unusedVariables false
theorem bytesOf_size (l : List Int) : (bytesOf l).size = l.length := by simp [bytesOf, ByteArray.size]
end Go.Proofs.Ytaofponadaifiaa
