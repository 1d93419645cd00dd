/- Valid: the programs. -/
import Derived.Test.YthgdibdapjaljaaVa2
namespace Go.Proofs.Ythgdibdapjaljaa
open Go.RowKit
end Go.Proofs.Ythgdibdapjaljaa
