import Derived.Test.YtkkhjpkkjpcbmaaGreatRead
import Derived.Test.YtkkhjpkkjpcbmaaGreatBK
/- Arguments of plain kinds. -/
namespace Go.Proofs.YtkkhjpkkjpcbmaaGreat
open Go.ChangeShapes Go.WideShapes Go.ChangeAt Go.RowKit
section
variable {H : Type} {enc : TypeId × Value → H} {W : World} {base : Nat} {spare : Nat → Bool} {held : Bool} {r : Reach} {b0 : Nat} {v : Value} {d : DataW H} {p : List MemPlace}
theorem vals2 {w : World} {g : Gh} {d d' : D} {v v' : Value} (h : val w g d v) (h' : val w g d' v') : vals w g [d, d'] [v, v'] := ⟨rfl, fun j h1 h2 => by
  match j, h1, h2 with
  | 0, _, _ => exact h
  | 1, _, _ => exact h'
  | j + 2, h1, _ => simp at h1; omega⟩
end

end Go.Proofs.YtkkhjpkkjpcbmaaGreat
