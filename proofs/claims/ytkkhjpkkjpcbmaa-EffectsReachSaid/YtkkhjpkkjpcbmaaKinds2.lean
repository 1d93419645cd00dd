/- Valid statements and blocks: the walks of package ast; and all of them together. -/
import Derived.Test.YtkkhjpkkjpcbmaaKinds
namespace Go.Proofs.Ytkkhjpkkjpcbmaa
open Go.RowKit Go.Shelf
end Go.Proofs.Ytkkhjpkkjpcbmaa
