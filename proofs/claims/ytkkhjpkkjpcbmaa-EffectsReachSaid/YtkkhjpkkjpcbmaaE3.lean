/- The reference's Union and Reads over data. -/
import Derived.Test.YtkkhjpkkjpcbmaaE2
import Derived.Test.YtkkhjpkkjpcbmaaEf7
namespace Go.Proofs.Ytkkhjpkkjpcbmaa
open Go.RowKit
/-- a slice of names, however it came about -/
structure IsL (d : D) (A : List ByteArray) : Prop where
  s : d.strip = sl 1 (A.map dS)
  u : ∀ m, d.under m = true
  g : d.good = true
  a : d.isAgg = false
  c : d.cells = [d]
theorem IsL.sl (A : List ByteArray) : IsL (Go.Proofs.Ytkkhjpkkjpcbmaa.sl 1 (A.map dS)) A := ⟨sl_strip (map_strip dS_strip A), fun m => sl_under (map_under (dS_under m) A), rfl, rfl, rfl⟩
theorem IsL.nil : IsL (.slice .nil 0 []) [] := ⟨rfl, fun _ => rfl, rfl, rfl, rfl⟩
def unionN (ex : ByteArray) (b : Bool) : List ByteArray → List ByteArray → List ByteArray
  | l, [] => l
  | l, x :: r => unionN ex b (if !b || !(x.toList == ex.toList) then putN l x else l) r
mutual
def rrT : Tr → List ByteArray
  | .mk k _ s c => rrK k s 0 c (if usesN k then [s] else [])
def rrK (k : Int) (s : ByteArray) : Nat → List Tr → List ByteArray → List ByteArray
  | _, [], A => A
  | i, t :: r, A => rrK k s (i + 1) r (unionN s (hidesN k i) A (rrT t))
end
end Go.Proofs.Ytkkhjpkkjpcbmaa
