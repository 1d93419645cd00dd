import Derived.Test.YtjikokmhknnnoaaBA
import Derived.Test.YtjikokmhknnnoaaKinds
/- Clone: a copy in new memory. -/
namespace Go.Proofs.Ytjikokmhknnnoaa
open Go.RowKit Go.Shelf
theorem nodeOf {w : World} {ok : Nat → Prop} {t : Tr} {v : Value} (h : RepP w ok t v) : ∃ (A : Option Addr) (cap : Nat), v = nodeV t.kind t.num t.name A t.kids.length cap ∧ Fits t.kind t.num t.name t.kids.length cap ∧ RowP w ok t.kids A 0 := by
  cases t with
  | mk k n s c =>
    simp only [RepP] at h
    exact h

end Go.Proofs.Ytjikokmhknnnoaa
