/- Valid expressions: the walk of the reference. -/
import Derived.Test.YtjikokmhknnnoaaKinds
import Derived.Test.YtjikokmhknnnoaaName3
namespace Go.Proofs.Ytjikokmhknnnoaa
open Go.RowKit Go.Shelf

theorem Rep.row {w : World} {B : Nat} {k n : Int} {s : ByteArray} {c : List Tr} {A : Option Addr} {cap len : Nat} (hr : Rep w B (.mk k n s c) (nodeV k n s A len cap)) : len = c.length ∧ Fits k n s c.length cap ∧ RepRow w B c A 0 := by
  simp only [Rep] at hr
  obtain ⟨A', cap', he, hf, hrow⟩ := hr
  simp only [nodeV, Value.agg.injEq, Array.mk.injEq, List.cons.injEq, Value.slice.injEq, true_and, and_true] at he
  obtain ⟨rfl, hl, rfl⟩ := he
  exact ⟨hl, hf, hrow⟩

end Go.Proofs.Ytjikokmhknnnoaa
