import Derived.Test.YthgdibdapjaljaaBJ
import Derived.Test.YthgdibdapjaljaaPred
import Derived.Test.YthgdibdapjaljaaClone
/- The equality of trees: ast.Equal, slices.EqualFunc over nodes, the reference's Equal. -/
namespace Go.Proofs.Ythgdibdapjaljaa
open Go.RowKit Go.Shelf
end Go.Proofs.Ythgdibdapjaljaa

/- An act behind a region: the act ahead, but for the region's slots. -/
namespace Go.Proofs.Ythgdibdapjaljaa
end Go.Proofs.Ythgdibdapjaljaa

/- The reference's equality of trees. -/
namespace Go.Proofs.Ythgdibdapjaljaa
open Go.RowKit Go.Shelf
end Go.Proofs.Ythgdibdapjaljaa
