import Derived.Test.YtmglacjcefajlaaRead
import Derived.Test.YtmglacjcefajlaaBK
/- Arguments of plain kinds. -/
namespace Go.Proofs.Ytmglacjcefajlaa
open Go.ChangeShapes Go.WideShapes Go.ChangeAt Go.RowKit
section
variable {H : Type} {enc : TypeId × Value → H} {W : World} {base : Nat} {spare : Nat → Bool} {held : Bool} {r : Reach} {b0 : Nat} {v : Value} {d : DataW H} {p : List MemPlace}
end

end Go.Proofs.Ytmglacjcefajlaa
