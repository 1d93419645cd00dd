import Derived.Test.YtlpgapmbajblmaaPq2
/- Folding keeps every occurrence of a name; counts of names as a map. -/
namespace Go.Proofs.Ytlpgapmbajblmaa

/-- a name that is not empty -/
def neB (s : ByteArray) : Bool := !(s.toList == ByteArray.toList ⟨#[]⟩)
mutual
/-- the names of a tree, in pre-order -/
def nmT : Tr → List ByteArray
 | .mk _ _ s c => (if neB s = true then [s] else []) ++ nmL c
def nmL : List Tr → List ByteArray
 | [] => []
 | t :: r => nmT t ++ nmL r
end
theorem nmT_eq (t : Tr) : nmT t = (if neB t.name = true then [t.name] else []) ++ nmL t.kids := by cases t; rw [nmT]; rfl
theorem nmL_map {f : Tr → Tr} : ∀ {c : List Tr}, (∀ x ∈ c, nmT (f x) = nmT x) → nmL (c.map f) = nmL c
 | [], _ => rfl
 | t :: r, h => by
  rw [zmc, nmL, nmL, h t List.mem_cons_self, nmL_map (fun x hx => h x (List.mem_cons_of_mem _ hx))]
theorem nmL_nil : ∀ {c : List Tr}, (∀ x ∈ c, nmT x = []) → nmL c = []
 | [], _ => rfl
 | t :: r, h => by
  rw [nmL, h t List.mem_cons_self, nmL_nil (fun x hx => h x (List.mem_cons_of_mem _ hx))]; rfl
theorem empty_ne {s : ByteArray} (h : emptyB s = true) : neB s = false := by
 unfold emptyB at h
 unfold neB
 have h1 : s.toList = [] := by simpa using h
 have h2 : ByteArray.toList ⟨#[]⟩ = [] := by simp [ByteArray.toList, ByteArray.toList.loop, ByteArray.size]
 rw [h1, h2]; rfl
theorem expr_empty {t : Tr} (h : exprB t = true) (hk : t.kind = 1 ∨ 6 ≤ t.kind) : neB t.name = false := by
 cases t with
 | mk k n s c =>
  simp only [Tr.kind] at hk
  simp only [exprB] at h
  simp only [Tr.name]
  split at h
  ·simp only [zat] at h; exact empty_ne h.1.2
  ·split at h
   ·omega
   ·split at h
    ·omega
    ·split at h
     ·simp only [zat, plainB] at h; exact empty_ne h.1.1.2
     ·split at h
      ·simp only [zat, plainB] at h; exact empty_ne h.1.1.2
      ·cases h
theorem const_nm (t : Tr) : exprB t = true → (foldT t).2.2 = true → nmT t = [] := by
 induction t using Tr.ind with
 | h k n s c ih =>
  intro h hq
  have hk := expr_kids h
  obtain ⟨t, ht⟩ : ∃ t, t = Tr.mk k n s c := ⟨_, rfl⟩
  have ih' : ∀ x ∈ t.kids, exprB x = true → (foldT x).2.2 = true → nmT x = [] := by rw [ht]; exact ih
  rw [← ht] at h hq hk ⊢
  rw [foldT_eq] at hq
  by_cases hv : (valueD t.kind t.num (t.kids.map foldT)).2 = true
  ·have h0 : (t.kids.map foldT).all (fun x => x.2.2) = true := by
    cases q : (t.kids.map foldT).all (fun x => x.2.2) with
    | true => rfl
    | false => rw [vD_no q] at hv; cases hv
   have h1 : t.kind = 1 ∨ 6 ≤ t.kind := by
    rcases expr_cases h with ⟨q, _⟩ | ⟨q, _⟩ | ⟨q, _⟩ | ⟨q, _⟩ | ⟨q, _⟩
    ·exact .inl q
    ·rw [vD_v (by omega)] at hv; cases hv
    ·rw [vD_v (by omega)] at hv; cases hv
    ·exact .inr (by omega)
    ·exact .inr (by omega)
   rw [nmT_eq, expr_empty h h1]
   refine nmL_nil (fun x hx => ih' x hx (hk x hx) ?_)
   exact List.all_eq_true.1 h0 (foldT x) (List.mem_map.2 ⟨x, hx, rfl⟩)
  ·rw [if_neg hv] at hq; cases hq
theorem lit_nm (v : Int) : nmT (litT v) = [] := by
 have he : neB es = false := empty_ne (by simp [emptyB, es, ByteArray.toList, ByteArray.toList.loop, ByteArray.size])
 have hl : ∀ v, nmT (leafT v) = [] := fun v => by
  rw [nmT_eq]
  show (if neB es = true then _ else _) ++ nmL [] = []
  rw [he]; rfl
 unfold litT
 split
 ·exact hl _
 ·split
  ·rw [nmT_eq]
   show (if neB es = true then _ else _) ++ nmL [_, _] = []
   rw [he, nmL, nmL, hl, hl]; rfl
  ·rw [nmT_eq]
   show (if neB es = true then _ else _) ++ nmL [_] = []
   rw [he, nmL, hl]; rfl
theorem fold_nm (t : Tr) : exprB t = true → nmT (foldT t).1 = nmT t := by
 induction t using Tr.ind with
 | h k n s c ih =>
  intro h
  cases hq : (foldT (.mk k n s c)).2.2 with
  | true => rw [fold_val _ hq, lit_nm, const_nm _ h hq]
  | false =>
   rw [foldT_eq] at hq ⊢
   split
   ·rename_i h7; rw [if_pos h7] at hq; cases hq
   ·simp only [Tr.kind, Tr.num, Tr.name, Tr.kids, List.map_map]
    rw [nmT, nmT]
    have e : ((fun x : Fo => x.1) ∘ foldT) = (fun x => (foldT x).1) := rfl
    rw [e, nmL_map (fun x hx => ih x hx (expr_kids h x hx))]
theorem stmt_nm (t : Tr) : catK t → nmT (stmtT t) = nmT t := by
 induction t using Tr.ind with
 | h k n s c ih =>
  intro h
  rw [stmtT_eq]
  split
  ·rename_i hk; exact fold_nm _ (catK_expr h hk.2)
  ·simp only [Tr.kind, Tr.num, Tr.name, Tr.kids]
   rw [nmT, nmT, nmL_map (fun x hx => ih x hx (catK_kid h hx))]
end Go.Proofs.Ytlpgapmbajblmaa
