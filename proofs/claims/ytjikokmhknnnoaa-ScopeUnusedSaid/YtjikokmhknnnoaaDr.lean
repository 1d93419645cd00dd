/- Names that a block mentions: plain facts. -/
import Derived.Test.YtjikokmhknnnoaaOd
namespace Go.Proofs.Ytjikokmhknnnoaa
open Go.RowKit

theorem findN_any (l : List Vd) (s : ByteArray) : ∀ n, n ≤ l.length → (findN l s n).2 = (l.take n).any fun v => v.name.toList == s.toList
 | 0, _ => rfl
 | n + 1, h => by
  rw [List.take_succ_eq_append_getElem h, List.any_append]
  simp only [List.any_cons, List.any_nil, Bool.or_false]
  by_cases q : (l[n].name.toList == s.toList) = true
  ·rw [findN_y h q, q, Bool.or_true]
  ·have q' : (l[n].name.toList == s.toList) = false := by simpa using q
   rw [findN_n h q', q', Bool.or_false]; exact findN_any l s n (by omega)
def hasV (vs : List Vd) (s : ByteArray) : Bool := vs.any fun v => v.name.toList == s.toList
theorem hasV_eq (vs : List Vd) (s : ByteArray) : (findN vs s vs.length).2 = hasV vs s := by rw [findN_any vs s _ (Nat.le_refl _), List.take_length]; rfl
mutual
def mentB (s : ByteArray) : Tr → Bool
 | .mk k _n nm c => (nm.toList == s.toList && !(k == 50) && !(k == 51)) || mentL s c
def mentL (s : ByteArray) : List Tr → Bool
 | [] => false
 | t :: r => mentB s t || mentL s r
end
theorem mentL_any (s : ByteArray) : ∀ c : List Tr, mentL s c = c.any (mentB s)
 | [] => rfl
 | t :: r => by simp only [mentL, List.any_cons, mentL_any s r]
theorem mentB_eq (s : ByteArray) (t : Tr) : mentB s t = ((t.name.toList == s.toList && !(t.kind == 50) && !(t.kind == 51)) || t.kids.any (mentB s)) := by
 cases t; simp only [mentB, mentL_any, Tr.kind, Tr.name, Tr.kids]
def kindsN : List Int := [2, 3, 4, 5, 44, 45, 50, 51, 54, 55]
mutual
/-- where the name may stand -/
def wB (s : ByteArray) : Tr → Bool
 | .mk k _n nm c => (!(nm.toList == s.toList) || kindsN.contains k) && (if k = 50 ∨ k = 51 then c.all (fun x => x.kind == 2 && x.kids.isEmpty) else wL s c)
def wL (s : ByteArray) : List Tr → Bool
 | [] => true
 | t :: r => wB s t && wL s r
end
theorem expr_parts {k n : Int} {nm : ByteArray} {c : List Tr} (h : exprB (.mk k n nm c) = true) : (emptyB nm = true ∨ k = 2 ∨ k = 3 ∨ k = 4 ∨ k = 5) ∧ exprsB c = true ∧ k ≤ 23 := by
 have h0 : ∀ m, lenB c m = true → m = 0 → exprsB c = true := by
  intro m q e
  subst e
  have : c = [] := by simpa [lenB] using q
  rw [this]; rfl
 unfold exprB at h
 split at h
 ·simp only [zat] at h; exact ⟨.inl h.1.2, h0 _ h.2 rfl, by omega⟩
 ·split at h
  ·simp only [zat] at h; exact ⟨.inr (by omega), h0 _ h.2 rfl, by omega⟩
  ·split at h
   ·simp only [zat] at h; exact ⟨.inr (by omega), h.2, by omega⟩
   ·split at h
    ·simp only [zat, plainB] at h; exact ⟨.inl h.1.1.2, h.2, by omega⟩
    ·split at h
     ·simp only [zat, plainB] at h; exact ⟨.inl h.1.1.2, h.2, by omega⟩
     ·cases h
theorem stmt_parts {k n : Int} {nm : ByteArray} {c : List Tr} (h : stmtB (.mk k n nm c) = true) : (emptyB nm = true ∨ k = 44 ∨ k = 45 ∨ k = 50 ∨ k = 51 ∨ k = 54 ∨ k = 55) ∧ (∃ xs, catsB xs c = true) ∧ (k = 50 ∨ k = 51 → c.all varB = true) := by
 unfold stmtB at h
 split at h
 ·simp only [zat, plainB] at h; exact ⟨.inl h.1.2, ⟨_, h.2⟩, fun q => by omega⟩
 ·split at h
  ·simp only [zat, plainB] at h; exact ⟨.inl h.1.2, ⟨_, h.2⟩, fun q => by omega⟩
  ·split at h
   ·simp only [zat] at h; exact ⟨.inr (by omega), ⟨_, h.2⟩, fun q => by omega⟩
   ·split at h
    ·simp only [zat, plainB] at h; exact ⟨.inl h.1.2, ⟨_, h.2⟩, fun q => by omega⟩
    ·split at h
     ·simp only [zat] at h; exact ⟨.inr (by omega), ⟨_, h.2⟩, fun _ => by rw [← catsB_var]; exact h.2⟩
     ·split at h
      ·simp only [zat, plainB] at h; exact ⟨.inl h.1.2, ⟨_, h.2⟩, fun q => by omega⟩
      ·split at h
       ·simp only [zat] at h; exact ⟨.inr (by omega), ⟨_, h.2⟩, fun q => by omega⟩
       ·split at h
        ·simp only [zat] at h; exact ⟨.inr (by omega), ⟨_, h.2⟩, fun q => by omega⟩
        ·cases h
theorem empty_ne {s nm : ByteArray} (hs : s.toList ≠ []) (h : emptyB nm = true) : (!(nm.toList == s.toList)) = true := by
 simp only [emptyB] at h
 simp only [znt, beq_eq_false_iff_ne, ne_eq]
 intro q
 apply hs
 rw [← q]
 simpa using h
mutual
theorem expr_w {s : ByteArray} (hs : s.toList ≠ []) : ∀ t, exprB t = true → wB s t = true
 | .mk k n nm c, h => by
  obtain ⟨h1, h2, h3⟩ := expr_parts h
  have h4 := exprs_w hs c h2
  simp only [wB]
  rw [if_neg (by omega), h4, Bool.and_true]
  rcases h1 with h1 | h1
  ·rw [empty_ne hs h1]; rfl
  ·rcases h1 with rfl | rfl | rfl | rfl <;> simp [kindsN]
theorem exprs_w {s : ByteArray} (hs : s.toList ≠ []) : ∀ c, exprsB c = true → wL s c = true
 | [], _ => rfl
 | t :: r, h => by
  simp only [exprsB, zat] at h
  simp only [wL, expr_w hs t h.1, exprs_w hs r h.2, Bool.and_true]
end
theorem var_leaf {t : Tr} (h : varB t = true) : (t.kind == 2 && t.kids.isEmpty) = true := by
 obtain ⟨k, n, nm, c⟩ := t
 simp only [varB, zat, Tr.kind, beq_iff_eq] at h
 obtain ⟨rfl, h⟩ := h
 have : c = [] := by
  unfold exprB at h
  simp [lenB] at h
  exact h.2
 subst this; rfl
mutual
theorem stmt_w {s : ByteArray} (hs : s.toList ≠ []) : ∀ t, stmtB t = true → wB s t = true
 | .mk k n nm c, h => by
  obtain ⟨h1, ⟨xs, h2⟩, h3⟩ := stmt_parts h
  have h4 := cats_w hs xs c h2
  have h5 : (!(nm.toList == s.toList) || kindsN.contains k) = true := by
   rcases h1 with h1 | h1
   ·rw [empty_ne hs h1]; rfl
   ·rcases h1 with rfl | rfl | rfl | rfl | rfl | rfl <;> simp [kindsN]
  simp only [wB, h5, Bool.true_and]
  split
  ·rename_i q
   rw [List.all_eq_true]
   intro x hx
   exact var_leaf (List.all_eq_true.1 (h3 q) x hx)
  ·exact h4
theorem block_w {s : ByteArray} (hs : s.toList ≠ []) : ∀ t, blockB t = true → wB s t = true
 | .mk k n nm c, h => by
  simp only [blockB, zat, beq_iff_eq, plainB] at h
  obtain ⟨⟨rfl, h1⟩, h2⟩ := h
  have h4 := stmts_w hs c h2
  simp only [wB]
  rw [if_neg (by omega), h4, empty_ne hs h1.2]; rfl
theorem cats_w {s : ByteArray} (hs : s.toList ≠ []) : ∀ xs c, catsB xs c = true → wL s c = true
 | [], [], _ => rfl
 | [], _ :: _, h => by simp [catsB] at h
 | _ :: _, [], _ => rfl
 | x :: xs, t :: ts, h => by
  simp only [catsB, zat] at h
  obtain ⟨h1, h2⟩ := h
  have h3 := cats_w hs xs ts h2
  have h4 : wB s t = true := by
   split at h1
   ·exact expr_w hs t h1
   ·split at h1
    ·simp only [placeB, zat] at h1; exact expr_w hs t h1.2
    ·split at h1
     ·exact block_w hs t h1
     ·simp only [varB, zat] at h1; exact expr_w hs t h1.2
  simp only [wL, h4, h3, Bool.and_true]
theorem stmts_w {s : ByteArray} (hs : s.toList ≠ []) : ∀ c, stmtsB c = true → wL s c = true
 | [], _ => rfl
 | t :: r, h => by
  simp only [stmtsB, zat] at h
  simp only [wL, stmt_w hs t h.1, stmts_w hs r h.2, Bool.and_true]
end
end Go.Proofs.Ytjikokmhknnnoaa
