import Derived.Test.YtkkhjpkkjpcbmaaBB
import Derived.Test.YtkkhjpkkjpcbmaaBA
/- Valid expressions, places, statements, blocks: the plain tests; plain, named, kids, every. -/
namespace Go.Proofs.Ytkkhjpkkjpcbmaa
open Go.RowKit Go.Shelf
/-- a node's contract: with the value of the tree t it returns the bool, and nothing that lay there turns -/
def Tests (f : Nat) (p : Tr → Bool) (t : Tr) : Prop := ∀ (v : Value) (w : World), Rep w w.heap.size t v → Calls Try.prog f #[v] w fun e w' => e = .returned (.bool (p t)) ∧ Below w.heap.size w w'

end Go.Proofs.Ytkkhjpkkjpcbmaa
