/- The law LayoutFinds: its walk. -/
import Derived.Test.YthgdibdapjaljaaLa2
namespace Go.Proofs.Ythgdibdapjaljaa
open Go.RowKit

theorem awake_ok : fn EV 10 [] = some (.bool true) := fn_of (n := 300) (by kernel_rfl)
end Go.Proofs.Ythgdibdapjaljaa
