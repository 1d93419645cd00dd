/- An act behind a region: the act ahead, but for the region's slots. -/
import Derived.Test.YtkngdmilgfgclaaRegion
namespace Go.Proofs.Ytkngdmilgfgclaa

theorem sets_at (tm : Array Value) : ∀ (sl : List Nat) (a : Array Value) (t : Nat), a.size = tm.size → (sl.foldl (fun a t => a.setIfInBounds t (tm.getD t undef)) a)[t]? = if t ∈ sl then tm[t]? else a[t]?
  | [], a, t, _ => by simp
  | q :: r, a, t, h => by
    rw [List.foldl_cons, sets_at tm r _ t (by simpa using h)]
    by_cases ht : t ∈ r
    · simp [ht]
    · by_cases e : q = t
      · subst e
        simp only [ht, if_false, List.mem_cons, true_or, if_true]
        rw [Array.getElem?_setIfInBounds]
        simp only [if_true, h]
        rcases Nat.lt_or_ge q tm.size with hl | hl
        · simp [hl]
        · simp [Nat.not_lt.2 hl]
      · have e' : ¬ t = q := fun x => e x.symm
        simp only [ht, if_false, List.mem_cons, e', or_self]
        rw [Array.getElem?_setIfInBounds_ne e]

theorem tm_sets {a0 tm : Array Value} (sl : List Nat) (hs : tm.size = a0.size) (hfx : ∀ t, t ∉ sl → tm[t]? = a0[t]?) : tm = sl.foldl (fun a t => a.setIfInBounds t (tm.getD t undef)) a0 := by
  apply Array.ext_getElem?
  intro t
  rw [sets_at tm sl a0 t hs.symm]
  by_cases h : t ∈ sl
  · rw [if_pos h]
  · rw [if_neg h]; exact hfx t h

end Go.Proofs.Ytkngdmilgfgclaa
