/- The faults of a program: where they lie, in which order. -/
import Derived.Test.YtmglacjcefajlaaSc2
namespace Go.Proofs.Ytmglacjcefajlaa
open Go.RowKit

def noT : Tr := .mk 0 0 ⟨#[]⟩ []
theorem rep_mem {pr : Int} {path : List Int} {err : Int} {name : ByteArray} {f : Ft} (h : f ∈ rep pr path err name) : f = ⟨pr, path, err, name⟩ ∧ err ≠ 0 := by
 unfold rep at h; split at h
 ·simp at h
 ·rename_i q; exact ⟨List.mem_singleton.1 h, q⟩
end Go.Proofs.Ytmglacjcefajlaa
