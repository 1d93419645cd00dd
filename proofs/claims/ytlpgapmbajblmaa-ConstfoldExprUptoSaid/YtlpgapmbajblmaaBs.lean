/- Small general lemmas over data. -/
import Derived.Test.YtlpgapmbajblmaaEx
namespace Go.Proofs.Ytlpgapmbajblmaa
open Go.RowKit
theorem dN_pl (t : Tr) : ((dN t).under 0 && (dN t).good) = true := by rw [dN_under, dN_good]; rfl
structure AccB (e : TypeId) (sz : Nat) (o : Own) (n : Nat) (L : List D) (nx : Nat) (lv : List Nat) : Prop where
 a : Acc e sz o n L lv
 b : ∀ s e', o = .own s e' → s < nx
structure Keep (nx : Nat) (lv : List Nat) (nx' : Nat) (lv' : List Nat) : Prop where
 l : nx ≤ nx'
 k : ∀ s, s < nx → s ∈ lv → s ∈ lv'
theorem AccB.nil (e : TypeId) (sz nx : Nat) (lv : List Nat) : AccB e sz .nil 0 [] nx lv := ⟨.nil _ _ _, fun s e' h => by cases h⟩
theorem AccB.own {e : TypeId} {sz st nx : Nat} {L : List D} {lv : List Nat} (h : st ∈ lv) (h' : st < nx) : AccB e sz (.own st e) sz L nx lv := ⟨.own h, fun s e' q => by cases q; exact h'⟩
theorem AccB.keep {e : TypeId} {sz : Nat} {o : Own} {n : Nat} {L : List D} {nx nx' : Nat} {lv lv' : List Nat} (h : AccB e sz o n L nx lv) (k : Keep nx lv nx' lv') : AccB e sz o n L nx' lv' := by
 refine ⟨?_, fun s e' q => Nat.lt_of_lt_of_le (h.b s e' q) k.l⟩
 rcases h.a with q | ⟨st, q1, q2, q3⟩
 ·exact .inl q
 ·exact .inr ⟨st, q1, k.k st (h.b st e q1) q2, q3⟩
end Go.Proofs.Ytlpgapmbajblmaa
