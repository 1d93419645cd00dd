/- Valid statements: the walk of the reference, its loop. -/
import Derived.Test.YtjikokmhknnnoaaRStmt
namespace Go.Proofs.Ytjikokmhknnnoaa
open Go.RowKit Go.Shelf
end Go.Proofs.Ytjikokmhknnnoaa
