/- Walk: a number pushed onto the path, and taken off again. -/
import Derived.Test.YtjikokmhknnnoaaWalkIt
namespace Go.Proofs.Ytjikokmhknnnoaa
open Go.RowKit Go.Shelf

theorem ownsRow_kept' {w w' : World} {base : Nat} {e : TypeId} {size : Nat} {v : Value} {n : Nat} {xs : List Value} (h : w.ownsRow base e size v n xs) (hk : ∀ g, v.ownBlock = some g → w'.heap[g]? = w.heap[g]?) : w'.ownsRow base e size v n xs := by
  refine ⟨h.1, ?_⟩
  rcases h.2 with h0 | ⟨g, cap, cur, hv, hbg, hgg, r⟩
  · exact .inl h0
  · exact .inr ⟨g, cap, cur, hv, hbg, (hk g (by rw [hv]; rfl)).trans hgg, r⟩

section
variable {by_ bp bv l base : Nat} {O : Nat → Prop} {p : List Int} {W : World}

/-- the path's own array is none of the three boxes, nor a block that is not ints -/
theorem own_ne {W : World} {base : Nat} {vp : Value} {n : Nat} {xs : List Value} {b : Nat} {cs : Array Value} {t : TypeId} (h : W.ownsRow base 3 1 vp n xs) (hb : W.heap[b]? = some (.cells cs t (0, 0))) (ht : t ≠ 3) : vp.ownBlock ≠ some b := by
  rcases h.2 with ⟨rfl, _⟩ | ⟨g, cap, cur, rfl, _, hg, _⟩
  · simp [Value.ownBlock]
  · intro e
    have : g = b := by simpa [Value.ownBlock] using e
    subst this
    rw [hg] at hb
    cases hb
    exact ht rfl

end

end Go.Proofs.Ytjikokmhknnnoaa
