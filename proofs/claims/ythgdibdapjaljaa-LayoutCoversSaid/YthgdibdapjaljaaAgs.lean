import Derived.Test.YthgdibdapjaljaaRead
import Derived.Test.YthgdibdapjaljaaBK
/- Arguments of plain kinds. -/
namespace Go.Proofs.Ythgdibdapjaljaa
open Go.ChangeShapes Go.WideShapes Go.ChangeAt Go.RowKit

theorem vals1 {w : World} {g : Gh} {d : D} {v : Value} (h : val w g d v) : vals w g [d] [v] := ⟨rfl, fun j h1 h2 => by
 have : j = 0 := by simp at h1; omega
 subst this; exact h⟩
section
variable {H : Type} {enc : TypeId × Value → H} {W : World} {base : Nat} {spare : Nat → Bool} {held : Bool} {r : Reach} {b0 : Nat} {v : Value} {d : DataW H} {p : List MemPlace}
end

end Go.Proofs.Ythgdibdapjaljaa
