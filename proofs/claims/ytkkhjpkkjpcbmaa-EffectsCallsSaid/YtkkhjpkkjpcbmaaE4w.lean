/- The reference's Writes over data. -/
import Derived.Test.YtkkhjpkkjpcbmaaE4
namespace Go.Proofs.Ytkkhjpkkjpcbmaa
open Go.RowKit
end Go.Proofs.Ytkkhjpkkjpcbmaa
