/- The law ScopeOrder: its walk. -/
import Derived.Test.YtjikokmhknnnoaaOd
namespace Go.Proofs.Ytjikokmhknnnoaa
open Go.RowKit
theorem small_eq' (p : Pg) : ((if smallB p = true then (1 : Int) else 0) == 0) = !smallB p := by cases smallB p <;> rfl
end Go.Proofs.Ytjikokmhknnnoaa
