/- The reference's lists of names over data. -/
import Derived.Test.YtkkhjpkkjpcbmaaE1
namespace Go.Proofs.Ytkkhjpkkjpcbmaa
open Go.RowKit
def ltB (a b : ByteArray) : Bool := Op.bytesLess a.toList b.toList
/-- a name is put into a sorted list -/
def posN : List ByteArray → ByteArray → Nat
  | [], _ => 0
  | x :: r, s => if ltB x s then posN r s + 1 else 0
def putN (l : List ByteArray) (s : ByteArray) : List ByteArray := match l[posN l s]? with
  | some x => if x.toList == s.toList then l else l.take (posN l s) ++ [s] ++ l.drop (posN l s)
  | none => l.take (posN l s) ++ [s] ++ l.drop (posN l s)
end Go.Proofs.Ytkkhjpkkjpcbmaa
