/- The reference's place over data. -/
import Derived.Test.YtkkhjpkkjpcbmaaE3
namespace Go.Proofs.Ytkkhjpkkjpcbmaa
open Go.RowKit
def pl1 (x : Tr) (A : List ByteArray) : List ByteArray := if isPl x then putN A x.name else A
def placeN (t : Tr) (i : Nat) (A : List ByteArray) : List ByteArray := match t.kids[i]? with
  | some x => pl1 x A
  | none => A
def plK : List Tr → List ByteArray → List ByteArray
  | [], A => A
  | x :: r, A => plK r (pl1 x A)
mutual
def wrT : Tr → List ByteArray
  | .mk k n s c => if updN k then placeN (.mk k n s c) 0 [] else if k == 43 then placeN (.mk k n s c) 1 (placeN (.mk k n s c) 0 []) else if k == 44 || k == 45 then placeN (.mk k n s c) 0 [s] else if k == 50 || k == 51 then plK c [] else if bodN k then wrK k s 0 c [] else []
def wrK (k : Int) (s : ByteArray) : Nat → List Tr → List ByteArray → List ByteArray
  | _, [], A => A
  | i, t :: r, A => wrK k s (i + 1) r (unionN s (hidesN k i) A (wrT t))
end
end Go.Proofs.Ytkkhjpkkjpcbmaa
