import Derived.Test.YtjikokmhknnnoaaBJ
import Derived.Test.YtjikokmhknnnoaaPred
import Derived.Test.YtjikokmhknnnoaaClone
/- The equality of trees: ast.Equal, slices.EqualFunc over nodes, the reference's Equal. -/
namespace Go.Proofs.Ytjikokmhknnnoaa
open Go.RowKit Go.Shelf
end Go.Proofs.Ytjikokmhknnnoaa

/- An act behind a region: the act ahead, but for the region's slots. -/
namespace Go.Proofs.Ytjikokmhknnnoaa
end Go.Proofs.Ytjikokmhknnnoaa

/- The reference's equality of trees. -/
namespace Go.Proofs.Ytjikokmhknnnoaa
open Go.RowKit Go.Shelf
end Go.Proofs.Ytjikokmhknnnoaa
