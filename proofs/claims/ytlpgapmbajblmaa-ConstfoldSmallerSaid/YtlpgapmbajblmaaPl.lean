/- Folding: the plain facts: it answers an expression, it is idempotent, its constant parts are literals. -/
import Derived.Test.YtlpgapmbajblmaaEx
namespace Go.Proofs.Ytlpgapmbajblmaa
open Go.RowKit

theorem wrap_in {z : Int} (h1 : -9223372036854775808 ≤ z) (h2 : z ≤ 9223372036854775807) : IntKind.i64.wrap z = z := by
 simp only [IntKind.wrap, IntKind.bits, IntKind.signed]; simp; omega
theorem litT_expr (v : Int) : exprB (litT v) = true := by
 unfold litT
 split
 ·rename_i h; simp [leafT, exprB, h, emptyB, lenB, es]
 ·split
  ·simp [leafT, exprB, exprsB, plainB, emptyB, lenB, es]
  ·simp [leafT, exprB, exprsB, plainB, emptyB, lenB, es]; omega
theorem expr_swap {k n : Int} {s : ByteArray} {c c' : List Tr} (hl : c'.length = c.length) (ha : c'.all exprB = true) (h : exprB (.mk k n s c) = true) : exprB (.mk k n s c') = true := by
 have hn : ∀ m, lenB c' m = lenB c m := fun m => by simp [lenB, hl]
 rw [exprB] at h ⊢
 rw [exprsB_all] at h ⊢
 simp only [hn, ha, Bool.and_true]
 revert h
 split
 ·exact id
 ·split
  ·exact id
  ·split
   ·intro h; simp only [zat] at h ⊢; exact h.1
   ·split
    ·intro h; simp only [zat] at h ⊢; exact h.1
    ·split
     ·intro h; simp only [zat] at h ⊢; exact h.1
     ·exact id
theorem fold_expr (t : Tr) : exprB t = true → exprB (foldT t).1 = true := by
 induction t using Tr.ind with
 | h k n s c ih =>
  intro h
  rw [foldT_eq]
  split
  ·exact litT_expr _
  ·refine expr_swap (c := c) (by simp [Tr.kids]) ?_ h
   rw [List.all_eq_true]
   intro x hx
   obtain ⟨y, hy, rfl⟩ := List.mem_map.1 hx
   obtain ⟨z, hz, rfl⟩ := List.mem_map.1 hy
   exact ih z hz (expr_kids h z hz)
end Go.Proofs.Ytlpgapmbajblmaa
