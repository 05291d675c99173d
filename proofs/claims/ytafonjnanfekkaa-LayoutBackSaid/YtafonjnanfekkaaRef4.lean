
/-
  THE WALKS of layer 1's reference: Unpack, Pack.
-/
import Derived.Test.YtafonjnanfekkaaWire10
import Derived.Test.YtafonjnanfekkaaLaw2
namespace Go.Proofs.Ytafonjnanfekkaa.Wire
open Go.RowKit
set_option maxHeartbeats 16000000
set_option maxRecDepth 100000
set_option linter.unusedVariables false
set_option linter.unusedSimpArgs false

end Go.Proofs.Ytafonjnanfekkaa.Wire
