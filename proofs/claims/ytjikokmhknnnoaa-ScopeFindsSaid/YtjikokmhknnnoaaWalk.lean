/- Walk: the iterator, and the function that hands it out. -/
import Derived.Test.YtjikokmhknnnoaaVisit
import Derived.Laws.EntriesVeiled
namespace Go.Proofs.Ytjikokmhknnnoaa
open Go.RowKit Go.Shelf
attribute [local go_sem] Oper.semAt_some

theorem heap3 (w : World) (A B C : Obj) : (((w.alloc A).alloc B).alloc C).heap[w.heap.size]? = some A ∧ (((w.alloc A).alloc B).alloc C).heap[w.heap.size + 1]? = some B ∧ (((w.alloc A).alloc B).alloc C).heap[w.heap.size + 2]? = some C := by
  refine ⟨?_, ?_, ?_⟩
  · rw [Below.heap_alloc _ _ _ (by simp only [World.size_alloc]; omega)]; exact heap_alloc2_old w A B
  · rw [Below.heap_alloc _ _ _ (by simp only [World.size_alloc]; omega)]; exact heap_alloc2_new w A B
  · have := heap_alloc_new ((w.alloc A).alloc B) C; simpa using this

end Go.Proofs.Ytjikokmhknnnoaa
