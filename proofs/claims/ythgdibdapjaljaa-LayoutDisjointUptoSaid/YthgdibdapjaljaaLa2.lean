/- Layouts over data: the reference of a frame, equality. -/
import Derived.Test.YthgdibdapjaljaaLa1
import Derived.Test.YthgdibdapjaljaaAcb
namespace Go.Proofs.Ythgdibdapjaljaa
open Go.RowKit
end Go.Proofs.Ythgdibdapjaljaa
