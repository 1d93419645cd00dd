/- The reference of the layer scope over data. -/
import Derived.Test.YtjikokmhknnnoaaSc2
namespace Go.Proofs.Ytjikokmhknnnoaa
open Go.RowKit
/-- an accumulator whose stamp is older than the next one -/
structure AccB (e : TypeId) (sz : Nat) (o : Own) (n : Nat) (L : List D) (nx : Nat) (lv : List Nat) : Prop where
 a : Acc e sz o n L lv
 b : ∀ s e', o = .own s e' → s < nx
structure Keep (nx : Nat) (lv : List Nat) (nx' : Nat) (lv' : List Nat) : Prop where
 l : nx ≤ nx'
 k : ∀ s, s < nx → s ∈ lv → s ∈ lv'
theorem AccB.nil (e : TypeId) (sz nx : Nat) (lv : List Nat) : AccB e sz .nil 0 [] nx lv := ⟨.nil _ _ _, fun s e' h => by cases h⟩
theorem AccB.own {e : TypeId} {sz st nx : Nat} {L : List D} {lv : List Nat} (h : st ∈ lv) (h' : st < nx) : AccB e sz (.own st e) sz L nx lv := ⟨.own h, fun s e' q => by cases q; exact h'⟩
theorem AccB.keep {e : TypeId} {sz : Nat} {o : Own} {n : Nat} {L : List D} {nx nx' : Nat} {lv lv' : List Nat} (h : AccB e sz o n L nx lv) (k : Keep nx lv nx' lv') : AccB e sz o n L nx' lv' := by
 refine ⟨?_, fun s e' q => Nat.lt_of_lt_of_le (h.b s e' q) k.l⟩
 rcases h.a with q | ⟨st, q1, q2, q3⟩
 ·exact .inl q
 ·exact .inr ⟨st, q1, k.k st (h.b st e q1) q2, q3⟩
/-- data that will read as these faults -/
structure Lis (M : List D) (L : List Ft) : Prop where
 s : M.map D.strip = L.map dFt
 u : D.unders 0 M = true
theorem Lis.len {M : List D} {L : List Ft} (h : Lis M L) : M.length = L.length := by have := congrArg List.length h.s; simpa using this
theorem Lis.nil : Lis [] [] := ⟨rfl, rfl⟩
theorem Lis.app {M M' : List D} {L L' : List Ft} (h : Lis M L) (h' : Lis M' L') : Lis (M ++ M') (L ++ L') := by
 refine ⟨by rw [List.map_append, List.map_append, h.s, h'.s], ?_⟩
 have h1 := h.u; have h2 := h'.u
 rw [D.unders_all] at h1 h2 ⊢
 rw [List.all_append, h1, h2]; rfl
theorem Lis.of (L : List Ft) : Lis (L.map dFt) L := ⟨by rw [List.map_map]; exact List.map_congr_left fun x _ => dFt_strip x, unders_id dFt_under 0 L⟩
theorem Lis.one {d : D} {f : Ft} (h : d.strip = dFt f) (h' : d.under 0 = true) : Lis [d] [f] := ⟨by simp [h], by simp only [D.unders, h', Bool.and_true]⟩
end Go.Proofs.Ytjikokmhknnnoaa
