/- Names that a block mentions: plain facts. -/
import Derived.Test.YtmglacjcefajlaaOd
namespace Go.Proofs.Ytmglacjcefajlaa
open Go.RowKit
theorem expr_parts {k n : Int} {nm : ByteArray} {c : List Tr} (h : exprB (.mk k n nm c) = true) : (emptyB nm = true ∨ k = 2 ∨ k = 3 ∨ k = 4 ∨ k = 5) ∧ exprsB c = true ∧ k ≤ 23 := by
 have h0 : ∀ m, lenB c m = true → m = 0 → exprsB c = true := by
  intro m q e
  subst e
  have : c = [] := by simpa [lenB] using q
  rw [this]; rfl
 unfold exprB at h
 split at h
 ·simp only [zat] at h; exact ⟨.inl h.1.2, h0 _ h.2 rfl, by omega⟩
 ·split at h
  ·simp only [zat] at h; exact ⟨.inr (by omega), h0 _ h.2 rfl, by omega⟩
  ·split at h
   ·simp only [zat] at h; exact ⟨.inr (by omega), h.2, by omega⟩
   ·split at h
    ·simp only [zat, plainB] at h; exact ⟨.inl h.1.1.2, h.2, by omega⟩
    ·split at h
     ·simp only [zat, plainB] at h; exact ⟨.inl h.1.1.2, h.2, by omega⟩
     ·cases h
theorem stmt_parts {k n : Int} {nm : ByteArray} {c : List Tr} (h : stmtB (.mk k n nm c) = true) : (emptyB nm = true ∨ k = 44 ∨ k = 45 ∨ k = 50 ∨ k = 51 ∨ k = 54 ∨ k = 55) ∧ (∃ xs, catsB xs c = true) ∧ (k = 50 ∨ k = 51 → c.all varB = true) := by
 unfold stmtB at h
 split at h
 ·simp only [zat, plainB] at h; exact ⟨.inl h.1.2, ⟨_, h.2⟩, fun q => by omega⟩
 ·split at h
  ·simp only [zat, plainB] at h; exact ⟨.inl h.1.2, ⟨_, h.2⟩, fun q => by omega⟩
  ·split at h
   ·simp only [zat] at h; exact ⟨.inr (by omega), ⟨_, h.2⟩, fun q => by omega⟩
   ·split at h
    ·simp only [zat, plainB] at h; exact ⟨.inl h.1.2, ⟨_, h.2⟩, fun q => by omega⟩
    ·split at h
     ·simp only [zat] at h; exact ⟨.inr (by omega), ⟨_, h.2⟩, fun _ => by rw [← catsB_var]; exact h.2⟩
     ·split at h
      ·simp only [zat, plainB] at h; exact ⟨.inl h.1.2, ⟨_, h.2⟩, fun q => by omega⟩
      ·split at h
       ·simp only [zat] at h; exact ⟨.inr (by omega), ⟨_, h.2⟩, fun q => by omega⟩
       ·split at h
        ·simp only [zat] at h; exact ⟨.inr (by omega), ⟨_, h.2⟩, fun q => by omega⟩
        ·cases h
end Go.Proofs.Ytmglacjcefajlaa
