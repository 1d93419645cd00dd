/- Folding: the plain facts: it answers an expression, it is idempotent, its constant parts are literals. -/
import Derived.Test.YtlpgapmbajblmaaEx
namespace Go.Proofs.Ytlpgapmbajblmaa
open Go.RowKit

theorem wrap_in {z : Int} (h1 : -9223372036854775808 ≤ z) (h2 : z ≤ 9223372036854775807) : IntKind.i64.wrap z = z := by
 simp only [IntKind.wrap, IntKind.bits, IntKind.signed]; simp; omega
theorem fold_leaf (v : Int) : foldT (leafT v) = (litT v, v, true) := by
 have hv : valueD 1 v [] = (v, true) := vD_1 rfl rfl
 rw [foldT_eq, if_pos (by show (valueD 1 v []).2 = true; rw [hv])]
 show (litT (valueD 1 v []).1, (valueD 1 v []).1, true) = _
 rw [hv]
theorem fold_neg {t : Tr} {v : Int} (h : (foldT t).2 = (v, true)) : foldT (.mk 6 0 es [t]) = (litT (IntKind.i64.wrap (0 - v)), IntKind.i64.wrap (0 - v), true) := by
 have hv : valueD 6 0 ([t].map foldT) = (IntKind.i64.wrap (0 - v), true) := by
  rw [vD_u (f := [t].map foldT) (r := []) (x := foldT t) (by simp [h]) (.inl rfl) rfl, h]; rfl
 rw [foldT_eq, if_pos (by show (valueD 6 0 ([t].map foldT)).2 = true; rw [hv])]
 show (litT (valueD 6 0 ([t].map foldT)).1, (valueD 6 0 ([t].map foldT)).1, true) = _
 rw [hv]
theorem fold_two {a b : Tr} {k v w : Int} (hk : k = 8 ∨ k = 9) (h : (foldT a).2 = (v, true)) (h' : (foldT b).2 = (w, true)) : foldT (.mk k 0 es [a, b]) = (litT (apD k v w).1, (apD k v w).1, true) := by
 have hv : valueD k 0 ([a, b].map foldT) = ((apD k v w).1, true) := by
  rw [vD_b (f := [a, b].map foldT) (r := []) (x := foldT a) (y := foldT b) (by simp [h, h']) (by omega) rfl, h, h']
  rcases hk with rfl | rfl <;> simp [apD]
 rw [foldT_eq, if_pos (by show (valueD k 0 ([a, b].map foldT)).2 = true; rw [hv])]
 show (litT (valueD k 0 ([a, b].map foldT)).1, (valueD k 0 ([a, b].map foldT)).1, true) = _
 rw [hv]
theorem litT_expr (v : Int) : exprB (litT v) = true := by
 unfold litT
 split
 ·rename_i h; simp [leafT, exprB, h, emptyB, lenB, es]
 ·split
  ·simp [leafT, exprB, exprsB, plainB, emptyB, lenB, es]
  ·simp [leafT, exprB, exprsB, plainB, emptyB, lenB, es]; omega
theorem litT_fold {v : Int} (h1 : -9223372036854775808 ≤ v) : foldT (litT v) = (litT v, v, true) := by
 by_cases h : 0 ≤ v
 ·rw [lit_nn h, fold_leaf, lit_nn h]
 ·by_cases h3 : v = -9223372036854775808
  ·subst h3
   show foldT (.mk 8 0 es [leafT 9223372036854775807, leafT 1]) = _
   rw [fold_two (.inl rfl) (v := 9223372036854775807) (w := 1) (by rw [fold_leaf]) (by rw [fold_leaf])]
   rfl
  ·have e : litT v = .mk 6 0 es [leafT (-v)] := by unfold litT; rw [if_neg h, if_neg h3]
   rw [e, fold_neg (v := -v) (by rw [fold_leaf]), wrap_in (by omega) (by omega)]
   have : 0 - -v = v := by omega
   rw [this, e]
theorem litT_size (v : Int) : (litT v).size ≤ 3 := by unfold litT leafT; split <;> (try split) <;> simp [Tr.size, Tr.sizes]
theorem expr_swap {k n : Int} {s : ByteArray} {c c' : List Tr} (hl : c'.length = c.length) (ha : c'.all exprB = true) (h : exprB (.mk k n s c) = true) : exprB (.mk k n s c') = true := by
 have hn : ∀ m, lenB c' m = lenB c m := fun m => by simp [lenB, hl]
 rw [exprB] at h ⊢
 rw [exprsB_all] at h ⊢
 simp only [hn, ha, Bool.and_true]
 revert h
 split
 ·exact id
 ·split
  ·exact id
  ·split
   ·intro h; simp only [zat] at h ⊢; exact h.1
   ·split
    ·intro h; simp only [zat] at h ⊢; exact h.1
    ·split
     ·intro h; simp only [zat] at h ⊢; exact h.1
     ·exact id
theorem fold_expr (t : Tr) : exprB t = true → exprB (foldT t).1 = true := by
 induction t using Tr.ind with
 | h k n s c ih =>
  intro h
  rw [foldT_eq]
  split
  ·exact litT_expr _
  ·refine expr_swap (c := c) (by simp [Tr.kids]) ?_ h
   rw [List.all_eq_true]
   intro x hx
   obtain ⟨y, hy, rfl⟩ := List.mem_map.1 hx
   obtain ⟨z, hz, rfl⟩ := List.mem_map.1 hy
   exact ih z hz (expr_kids h z hz)
theorem fold_idem (t : Tr) : exprB t = true → foldT (foldT t).1 = foldT t := by
 induction t using Tr.ind with
 | h k n s c ih =>
  intro h
  have hlo := foldT_lo _ h
  rw [foldT_eq (.mk k n s c)] at hlo ⊢
  split
  ·rename_i hv
   rw [if_pos hv] at hlo
   exact litT_fold hlo
  ·rename_i hv
   have e : (((Tr.mk k n s c).kids.map foldT).map (fun x => x.1)).map foldT = (Tr.mk k n s c).kids.map foldT := by
    rw [List.map_map, List.map_map]
    refine List.map_congr_left fun x hx => ?_
    exact ih x hx (expr_kids h x hx)
   rw [foldT_eq]
   show (if (valueD k n ((((Tr.mk k n s c).kids.map foldT).map (fun x => x.1)).map foldT)).2 = true then _ else _) = _
   have hv' : ¬ (valueD k n ((Tr.mk k n s c).kids.map foldT)).2 = true := hv
   rw [e, if_neg hv']
   show (Tr.mk k n s (((((Tr.mk k n s c).kids.map foldT).map (fun x => x.1)).map foldT).map (fun x => x.1)), (0 : Int), false) = _
   rw [e]; rfl
theorem fold_size3 (t : Tr) : (foldT t).1.size ≤ 3 * t.size := by
 induction t using Tr.ind with
 | h k n s c ih =>
  rw [foldT_eq]
  split
  ·have := litT_size (valueD (Tr.mk k n s c).kind (Tr.mk k n s c).num ((Tr.mk k n s c).kids.map foldT)).1
   simp only [Tr.size]; omega
  ·have : ∀ l : List Tr, (∀ x ∈ l, (foldT x).1.size ≤ 3 * x.size) → Tr.sizes ((l.map foldT).map (fun x => x.1)) ≤ 3 * Tr.sizes l := by
    intro l
    induction l with
    | nil => intro _; simp [Tr.sizes]
    | cons x r ih2 =>
     intro hl
     have h1 := hl x (by simp)
     have h2 := ih2 (fun y hy => hl y (by simp [hy]))
     simp only [zmc, Tr.sizes]; omega
   have := this c ih
   simp only [Tr.size, Tr.kids]; omega
theorem exprT_size (t : Tr) : (exprT t).size ≤ 3 * t.size := by
 unfold exprT
 split
 ·exact fold_size3 t
 ·omega
end Go.Proofs.Ytlpgapmbajblmaa
