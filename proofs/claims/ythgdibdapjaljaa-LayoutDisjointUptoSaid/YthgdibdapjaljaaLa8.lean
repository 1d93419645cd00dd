/- Layouts over data: small; of the reference: Valid, Locals, with. -/
import Derived.Test.YthgdibdapjaljaaLa7
namespace Go.Proofs.Ythgdibdapjaljaa
open Go.RowKit
end Go.Proofs.Ythgdibdapjaljaa
