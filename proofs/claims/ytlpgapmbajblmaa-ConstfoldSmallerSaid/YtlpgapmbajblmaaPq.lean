import Derived.Test.YtlpgapmbajblmaaPg4
import Derived.Test.YtlpgapmbajblmaaPl
/- Folding programs: the plain facts: it agrees with the reference, it is idempotent, it never grows, it keeps validity. -/
namespace Go.Proofs.Ytlpgapmbajblmaa

theorem fold_val (t : Tr) (hc : (foldT t).2.2 = true) : (foldT t).1 = litT (foldT t).2.1 := by
 rw [foldT_eq] at hc ⊢
 split
 ·rfl
 ·rename_i h; rw [if_neg h] at hc; cases hc
theorem cat_low {t : Tr} (h : catK t) (h1 : t.kind ≤ 23) : 1 ≤ t.kind := by
 have h2 := catK_expr h h1
 rcases expr_cases h2 with ⟨h3, _⟩ | ⟨h3, _⟩ | ⟨h3, _⟩ | ⟨h3, _⟩ | ⟨h3, _⟩ <;> omega
/-- in place of all kids -/
theorem cat_map {q : Nat} {k n : Int} {s : ByteArray} {c c' : List Tr} (h : cat q (.mk k n s c) = true) (hl : c'.length = c.length) (hc : ∀ (i : Nat) (h : i < c'.length), cat (kidcat k i) c'[i] = true) : cat q (.mk k n s c') = true := by
 have step : ∀ j, j ≤ c.length → cat q (.mk k n s (c'.take j ++ c.drop j)) = true := by
  intro j
  induction j with
  | zero => intro _; simpa using h
  | succ j ih =>
   intro hj
   have h1 := ih (by omega)
   have hlen : j < (c'.take j ++ c.drop j).length := by simp; omega
   obtain ⟨_, h2⟩ := cat_step h1 hlen
   have h3 := h2 c'[j] (hc j (by omega))
   have e : (c'.take j ++ c.drop j).set j c'[j] = c'.take (j + 1) ++ c.drop (j + 1) := by
    rw [List.set_append_right _ _ (by simp; omega)]
    have e1 : (c'.take j).length = j := by simp; omega
    rw [e1, Nat.sub_self, List.drop_eq_getElem_cons (show j < c.length by omega), zs0, List.take_succ_eq_append_getElem (show j < c'.length by omega), zaa]
    rfl
   rw [e] at h3
   exact h3
 have := step c.length (Nat.le_refl _)
 rwa [List.drop_length, List.append_nil, List.take_of_length_le (by omega)] at this
/-- folding keeps a place's form -/
theorem place_fold {t : Tr} (h : placeB t = true) : placeB (foldT t).1 = true ∧ (t.kind = 2 → varB (foldT t).1 = true) := by
 have he := place_expr h
 have hf := fold_expr t he
 simp only [placeB, zat, Bool.or_eq_true, beq_iff_eq] at h
 have hk : (foldT t).1.kind = t.kind := by
  rw [foldT_eq]
  rw [vD_v (by omega)]
  rw [if_neg (by simp)]
  rfl
 refine ⟨?_, fun h2 => ?_⟩
 ·simp only [placeB, hf, hk, Bool.and_true, Bool.or_eq_true, beq_iff_eq]; exact h.1
 ·simp only [varB, hf, hk, h2, Bool.and_true, beq_self_eq_true]
/-- folding keeps the category -/
theorem cat_stmtT (t : Tr) : ∀ q, cat q t = true → cat q (stmtT t) = true := by
 induction t using Tr.ind with
 | h k n s c ih =>
  intro q h
  have hK : catK (.mk k n s c) := ⟨q, h⟩
  rw [stmtT_eq]
  by_cases hk : k ≤ 23
  ·have he := catK_expr hK hk
   have hl' : 1 ≤ k := cat_low hK hk
   rw [if_pos (show 1 ≤ (Tr.mk k n s c).kind ∧ (Tr.mk k n s c).kind ≤ 23 from ⟨hl', hk⟩)]
   unfold cat at h ⊢
   split
   ·rename_i q4; rw [if_pos q4] at h; have := stmt_kind h; simp only [Tr.kind] at this; omega
   ·rename_i q4; rw [if_neg q4] at h
    split
    ·exact fold_expr _ he
    ·rename_i q0; rw [if_neg q0] at h
     split
     ·rename_i q1; rw [if_pos q1] at h; exact (place_fold h).1
     ·rename_i q1; rw [if_neg q1] at h
      split
      ·rename_i q2; rw [if_pos q2] at h; have := block_kind h; simp only [Tr.kind] at this; omega
      ·rename_i q2; rw [if_neg q2] at h
       refine (place_fold (var_place h)).2 ?_
       simp only [varB, zat, beq_iff_eq] at h; exact h.1
  ·rw [if_neg (show ¬ (1 ≤ (Tr.mk k n s c).kind ∧ (Tr.mk k n s c).kind ≤ 23) from fun q => hk q.2)]
   refine cat_map h (by simp [Tr.kids]) (fun i hi => ?_)
   simp only [Tr.kids, zlm] at hi
   simp only [Tr.kids, Tr.kind, List.getElem_map]
   exact ih c[i] (List.getElem_mem hi) _ (cat_step h hi).1
theorem sizes_map_le {f : Tr → Tr} : ∀ {c : List Tr}, (∀ x ∈ c, (f x).size ≤ x.size) → Tr.sizes (c.map f) ≤ Tr.sizes c
 | [], _ => Nat.le_refl _
 | x :: r, h => by
  have h1 := h x List.mem_cons_self
  have h2 := sizes_map_le (c := r) (fun y hy => h y (List.mem_cons_of_mem _ hy))
  simp only [zmc, Tr.sizes]; omega
theorem depths_map_le {f : Tr → Tr} : ∀ {c : List Tr}, (∀ x ∈ c, (f x).depth ≤ x.depth) → Tr.depths (c.map f) ≤ Tr.depths c
 | [], _ => Nat.le_refl _
 | x :: r, h => by
  have h1 := h x List.mem_cons_self
  have h2 := depths_map_le (c := r) (fun y hy => h y (List.mem_cons_of_mem _ hy))
  simp only [zmc, Tr.depths]; omega
theorem lit_size (v : Int) : (0 ≤ v → (litT v).size = 1 ∧ (litT v).depth = 1) ∧ (¬ 0 ≤ v → v ≠ -9223372036854775808 → (litT v).size = 2 ∧ (litT v).depth = 2) ∧ (v = -9223372036854775808 → (litT v).size = 3 ∧ (litT v).depth = 2) := by
 refine ⟨fun h => ?_, fun h h2 => ?_, fun h => ?_⟩
 ·rw [lit_nn h]; simp [leafT, Tr.size, Tr.sizes, Tr.depth, Tr.depths]
 ·rw [litT, if_neg h, if_neg h2]; simp [leafT, Tr.size, Tr.sizes, Tr.depth, Tr.depths]
 ·subst h; simp [litT, leafT, Tr.size, Tr.sizes, Tr.depth, Tr.depths]
theorem wrap_min {v : Int} (h0 : -9223372036854775808 ≤ v) (h1 : v ≤ 9223372036854775807) (h : IntKind.i64.wrap (0 - v) = -9223372036854775808) : v = -9223372036854775808 := by
 by_cases hv : v = -9223372036854775808
 ·exact hv
 ·rw [wrap_in (by omega) (by omega)] at h; omega
end Go.Proofs.Ytlpgapmbajblmaa
