/- Valid statements and blocks: the walks of the reference. -/
import Derived.Test.YtjikokmhknnnoaaRExpr
import Derived.Test.YtjikokmhknnnoaaKinds2
namespace Go.Proofs.Ytjikokmhknnnoaa
open Go.RowKit Go.Shelf
def vees : ByteArray := ⟨#[118, 118, 118, 118, 118, 118, 118, 118]⟩

end Go.Proofs.Ytjikokmhknnnoaa
