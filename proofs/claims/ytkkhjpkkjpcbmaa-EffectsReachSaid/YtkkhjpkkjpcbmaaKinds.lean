/- Valid expressions, places, statements, blocks: the walks of package ast. -/
import Derived.Test.YtkkhjpkkjpcbmaaPred
namespace Go.Proofs.Ytkkhjpkkjpcbmaa
open Go.RowKit Go.Shelf
/-- a box that was laid at block b reads as it did -/
theorem box_at {w w1 : World} {c0 c1 c2 c3 : Value} {ty : Nat} (hb : Below (w.alloc (.cells #[c0, c1, c2, c3] ty)).heap.size (w.alloc (.cells #[c0, c1, c2, c3] ty)) w1) :
  w1.cell? ⟨w.heap.size, 0, none⟩ = some c0 ∧ w1.cell? ⟨w.heap.size, 1, none⟩ = some c1 ∧ w1.cell? ⟨w.heap.size, 2, none⟩ = some c2 ∧ w1.cell? ⟨w.heap.size, 3, none⟩ = some c3 := by
 refine ⟨?_, ?_, ?_, ?_⟩
 all_goals exact (hb.cell (by simp)).trans (cell_of_row _ _ _ _ _ _ (heap_new w _))

end Go.Proofs.Ytkkhjpkkjpcbmaa
