/- The walks of the reference's Put. No condition. -/
import Derived.Test.YtaofponadaifiaaRfB
namespace Go.Proofs.Ytaofponadaifiaa
open Go.RowKit
set_option linter.unusedSimpArgs false
set_option linter.unusedVariables false
def wV (D : ByteArray) (y : Value) : Value := .agg #[.string D, y]
end Go.Proofs.Ytaofponadaifiaa
