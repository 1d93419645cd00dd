/- Valid: the programs, joined. -/
import Derived.Test.YthgdibdapjaljaaVa3
namespace Go.Proofs.Ythgdibdapjaljaa
open Go.RowKit
theorem small {p : Pg} (h : bigP p = false) : p.vars.length ≤ 40 ∧ p.procs.length ≤ 70 ∧ bigB p.main = false ∧ ∀ q ∈ p.procs, q.params.length ≤ 10 ∧ bigB q.body = false := by
 simp only [bigP, zof, decide_eq_false_iff_not, List.any_eq_false, bigQ, Bool.or_eq_true, not_or, decide_eq_true_eq, Bool.not_eq_true] at h
 obtain ⟨⟨⟨h1, h2⟩, h3⟩, h4⟩ := h
 refine ⟨by omega, by omega, h3, fun q hq => ?_⟩
 obtain ⟨a, b⟩ := h4 q hq
 exact ⟨by omega, b⟩
end Go.Proofs.Ythgdibdapjaljaa
