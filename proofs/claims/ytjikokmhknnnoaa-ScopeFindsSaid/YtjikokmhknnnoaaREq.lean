/- The reference's equality of trees. -/
import Derived.Test.YtjikokmhknnnoaaEq
import Derived.Test.YtjikokmhknnnoaaRegion2
import Derived.Test.YtjikokmhknnnoaaClone
namespace Go.Proofs.Ytjikokmhknnnoaa
open Go.RowKit Go.Shelf
end Go.Proofs.Ytjikokmhknnnoaa
