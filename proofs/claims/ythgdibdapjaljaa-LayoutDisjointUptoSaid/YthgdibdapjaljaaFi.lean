import Derived.Test.YthgdibdapjaljaaEnv
import Derived.Test.YthgdibdapjaljaaBK
/- Find, Proc. -/
namespace Go.Proofs.Ythgdibdapjaljaa
open Go.RowKit
theorem dV_agg (v : Vd) : D.agg [.str v.name, .int .u8 v.kind, .int .i64 v.len] = dV v := rfl
end Go.Proofs.Ythgdibdapjaljaa
