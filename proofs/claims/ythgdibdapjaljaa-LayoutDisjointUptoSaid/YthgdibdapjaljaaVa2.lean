import Derived.Test.YthgdibdapjaljaaVa
import Derived.Test.YthgdibdapjaljaaBG
/- Valid: bodies. -/
namespace Go.Proofs.Ythgdibdapjaljaa
open Go.RowKit
end Go.Proofs.Ythgdibdapjaljaa
