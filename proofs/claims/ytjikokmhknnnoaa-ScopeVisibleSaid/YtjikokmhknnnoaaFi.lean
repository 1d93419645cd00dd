import Derived.Test.YtjikokmhknnnoaaEnv
import Derived.Test.YtjikokmhknnnoaaBK
/- Find, Proc. -/
namespace Go.Proofs.Ytjikokmhknnnoaa
open Go.RowKit
def noV : Vd := ⟨⟨#[]⟩, 0, 0⟩
theorem dV_agg (v : Vd) : D.agg [.str v.name, .int .u8 v.kind, .int .i64 v.len] = dV v := rfl
end Go.Proofs.Ytjikokmhknnnoaa
