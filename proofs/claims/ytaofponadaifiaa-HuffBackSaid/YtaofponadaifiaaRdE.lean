/- The walks of a reader's Marker and Skip. No condition. -/
import Derived.Test.YtaofponadaifiaaRdD
namespace Go.Proofs.Ytaofponadaifiaa
open Go.RowKit
set_option linter.unusedSimpArgs false
set_option linter.unusedVariables false
end Go.Proofs.Ytaofponadaifiaa
