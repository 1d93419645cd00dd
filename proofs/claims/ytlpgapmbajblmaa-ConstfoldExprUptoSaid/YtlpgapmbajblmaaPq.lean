import Derived.Test.YtlpgapmbajblmaaPg3
/- Folding programs: the plain facts: it agrees with the reference, it is idempotent, it never grows, it keeps validity. -/
namespace Go.Proofs.Ytlpgapmbajblmaa

theorem fold_val (t : Tr) (hc : (foldT t).2.2 = true) : (foldT t).1 = litT (foldT t).2.1 := by
 rw [foldT_eq] at hc ⊢
 split
 ·rfl
 ·rename_i h; rw [if_neg h] at hc; cases hc
theorem rfold_fold (t : Tr) : exprB t = true → rfoldT t = (foldT t).1 := by
 induction t using Tr.ind with
 | h k n s c ih =>
  intro h
  have hc : constT (.mk k n s c) = ((foldT (.mk k n s c)).2.1, (foldT (.mk k n s c)).2.2) := by unfold constT; rw [if_pos h]
  have hs := const_same (.mk k n s c)
  rw [rfoldT_eq]
  cases hq : (foldT (.mk k n s c)).2.2 with
  | true =>
   rw [fold_val _ hq]
   rcases hs with h9 | ⟨h9, _, _⟩
   ·rw [← h9, hc, if_pos hq]
   ·rw [hc] at h9; rw [hq] at h9; cases h9
  | false =>
   have h8 : (rconstT (.mk k n s c)).2 = false := by
    rcases hs with h9 | ⟨_, h9, _⟩
    ·rw [← h9, hc]; exact hq
    ·exact h9
   rw [if_neg (by rw [h8]; simp), foldT_eq]
   rw [foldT_eq] at hq
   split
   ·rename_i h7; rw [if_pos h7] at hq; cases hq
   ·simp only [Tr.kind, Tr.num, Tr.name, Tr.kids, List.map_map]
    congr 1
    exact List.map_congr_left fun x hx => ih x hx (expr_kids h x hx)
end Go.Proofs.Ytlpgapmbajblmaa
