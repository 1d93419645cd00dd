/- The faults of a program: where they lie, in which order. -/
import Derived.Test.YtmglacjcefajlaaSc2
namespace Go.Proofs.Ytmglacjcefajlaa
open Go.RowKit

def noT : Tr := .mk 0 0 ⟨#[]⟩ []
def atT : Tr → List Int → Tr × Bool
 | t, [] => (t, true)
 | t, i :: r => if i < 0 then (noT, false) else match t.kids[i.toNat]? with
  | some c => atT c r
  | none => (noT, false)
/-- where a fault of a node lies -/
structure Lies (pr : Int) (t : Tr) (path : List Int) (f : Ft) : Prop where
 pr : f.proc = pr
 err : f.err ≠ 0
 at' : ∃ s, f.path = path ++ s ∧ (atT t s).2 = true ∧ (atT t s).1.name = f.name
theorem rep_mem {pr : Int} {path : List Int} {err : Int} {name : ByteArray} {f : Ft} (h : f ∈ rep pr path err name) : f = ⟨pr, path, err, name⟩ ∧ err ≠ 0 := by
 unfold rep at h; split at h
 ·simp at h
 ·rename_i q; exact ⟨List.mem_singleton.1 h, q⟩
def bodP (p : Pg) (k : Int) : Tr := match p.procs[k.toNat]? with
 | some q => q.body
 | none => p.main
/-- a fault of the program -/
structure OkF (p : Pg) (f : Ft) : Prop where
 err : f.err ≠ 0
 lo : -1 ≤ f.proc
 hi : f.proc ≤ p.procs.length
 at' : 0 ≤ f.proc → (atT (bodP p f.proc) f.path).2 = true ∧ (f.path ≠ [] → (atT (bodP p f.proc) f.path).1.name = f.name)
end Go.Proofs.Ytmglacjcefajlaa

/- Names that a block mentions: plain facts. -/
namespace Go.Proofs.Ytmglacjcefajlaa
open Go.RowKit
theorem expr_parts {k n : Int} {nm : ByteArray} {c : List Tr} (h : exprB (.mk k n nm c) = true) : (emptyB nm = true ∨ k = 2 ∨ k = 3 ∨ k = 4 ∨ k = 5) ∧ exprsB c = true ∧ k ≤ 23 := by
 have h0 : ∀ m, lenB c m = true → m = 0 → exprsB c = true := by
  intro m q e
  subst e
  have : c = [] := by simpa [lenB] using q
  rw [this]; rfl
 unfold exprB at h
 split at h
 ·simp only [zat] at h; exact ⟨.inl h.1.2, h0 _ h.2 rfl, by omega⟩
 ·split at h
  ·simp only [zat] at h; exact ⟨.inr (by omega), h0 _ h.2 rfl, by omega⟩
  ·split at h
   ·simp only [zat] at h; exact ⟨.inr (by omega), h.2, by omega⟩
   ·split at h
    ·simp only [zat, plainB] at h; exact ⟨.inl h.1.1.2, h.2, by omega⟩
    ·split at h
     ·simp only [zat, plainB] at h; exact ⟨.inl h.1.1.2, h.2, by omega⟩
     ·cases h
theorem stmt_parts {k n : Int} {nm : ByteArray} {c : List Tr} (h : stmtB (.mk k n nm c) = true) : (emptyB nm = true ∨ k = 44 ∨ k = 45 ∨ k = 50 ∨ k = 51 ∨ k = 54 ∨ k = 55) ∧ (∃ xs, catsB xs c = true) ∧ (k = 50 ∨ k = 51 → c.all varB = true) := by
 unfold stmtB at h
 split at h
 ·simp only [zat, plainB] at h; exact ⟨.inl h.1.2, ⟨_, h.2⟩, fun q => by omega⟩
 ·split at h
  ·simp only [zat, plainB] at h; exact ⟨.inl h.1.2, ⟨_, h.2⟩, fun q => by omega⟩
  ·split at h
   ·simp only [zat] at h; exact ⟨.inr (by omega), ⟨_, h.2⟩, fun q => by omega⟩
   ·split at h
    ·simp only [zat, plainB] at h; exact ⟨.inl h.1.2, ⟨_, h.2⟩, fun q => by omega⟩
    ·split at h
     ·simp only [zat] at h; exact ⟨.inr (by omega), ⟨_, h.2⟩, fun _ => by rw [← catsB_var]; exact h.2⟩
     ·split at h
      ·simp only [zat, plainB] at h; exact ⟨.inl h.1.2, ⟨_, h.2⟩, fun q => by omega⟩
      ·split at h
       ·simp only [zat] at h; exact ⟨.inr (by omega), ⟨_, h.2⟩, fun q => by omega⟩
       ·split at h
        ·simp only [zat] at h; exact ⟨.inr (by omega), ⟨_, h.2⟩, fun q => by omega⟩
        ·cases h
end Go.Proofs.Ytmglacjcefajlaa
