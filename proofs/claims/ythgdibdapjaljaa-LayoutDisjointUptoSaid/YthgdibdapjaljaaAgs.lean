import Derived.Test.YthgdibdapjaljaaRead
import Derived.Test.YthgdibdapjaljaaBK
/- Arguments of plain kinds. -/
namespace Go.Proofs.Ythgdibdapjaljaa
open Go.ChangeShapes Go.WideShapes Go.ChangeAt Go.RowKit
section
variable {H : Type} {enc : TypeId × Value → H} {W : World} {base : Nat} {spare : Nat → Bool} {held : Bool} {r : Reach} {b0 : Nat} {v : Value} {d : DataW H} {p : List MemPlace}
end

end Go.Proofs.Ythgdibdapjaljaa
