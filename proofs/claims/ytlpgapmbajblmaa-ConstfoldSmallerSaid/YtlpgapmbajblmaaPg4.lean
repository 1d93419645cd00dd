/- The reference's Program over data. -/
import Derived.Test.YtlpgapmbajblmaaPg3
import Derived.Test.YtlpgapmbajblmaaPg2
namespace Go.Proofs.Ytlpgapmbajblmaa
open Go.RowKit
/-- data that will read as these procedures -/
structure LisG (M : List D) (L : List Pr) : Prop where
 s : M.map D.strip = L.map dP
 u : D.unders 0 M = true
theorem LisG.len {M : List D} {L : List Pr} (h : LisG M L) : M.length = L.length := by have := congrArg List.length h.s; simpa using this
theorem LisG.snoc {M : List D} {L : List Pr} (h : LisG M L) {d : D} {p : Pr} (h1 : d.strip = dP p) (h2 : d.under 0 = true) : LisG (M ++ [d]) (L ++ [p]) := by
 refine ⟨by simp [h.s, h1], ?_⟩
 have := h.u
 rw [D.unders_all] at this ⊢
 rw [List.all_append, this]; simp [h2]
end Go.Proofs.Ytlpgapmbajblmaa
