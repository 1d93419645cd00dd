/- The faults of a program: where they lie, in which order. -/
import Derived.Test.YtjikokmhknnnoaaQ64
namespace Go.Proofs.Ytjikokmhknnnoaa
open Go.RowKit

def noT : Tr := .mk 0 0 ⟨#[]⟩ []
def atT : Tr → List Int → Tr × Bool
 | t, [] => (t, true)
 | t, i :: r => if i < 0 then (noT, false) else match t.kids[i.toNat]? with
  | some c => atT c r
  | none => (noT, false)
theorem atT_kid {t : Tr} {i : Nat} {r : List Int} {c : Tr} (h : t.kids[i]? = some c) : atT t ((i : Int) :: r) = atT c r := by
 simp only [atT, Int.toNat_natCast, h]
 rw [if_neg (by omega)]
/-- where a fault of a node lies -/
structure Lies (pr : Int) (t : Tr) (path : List Int) (f : Ft) : Prop where
 pr : f.proc = pr
 err : f.err ≠ 0
 at' : ∃ s, f.path = path ++ s ∧ (atT t s).2 = true ∧ (atT t s).1.name = f.name
theorem rep_mem {pr : Int} {path : List Int} {err : Int} {name : ByteArray} {f : Ft} (h : f ∈ rep pr path err name) : f = ⟨pr, path, err, name⟩ ∧ err ≠ 0 := by
 unfold rep at h; split at h
 ·simp at h
 ·rename_i q; exact ⟨List.mem_singleton.1 h, q⟩
theorem args_lies {p : Pg} {pr : Int} {t : Tr} {path : List Int} {vs : List Vd} {f : Ft} : ∀ (c : List Tr) (i : Nat), (∀ j, c[j]? = t.kids[i + j]?) → f ∈ argsF p pr t path vs c i → Lies pr t path f ∧ ∃ j, i ≤ j ∧ f.path = path ++ [(j : Int)]
 | [], _, _, h => by simp [argsF] at h
 | c :: r, i, hc, h => by
  simp only [argsF, List.mem_append] at h
  rcases h with h | h
  ·obtain ⟨rfl, he⟩ := rep_mem h
   have h0 := hc 0
   simp only [zg0, Nat.add_zero] at h0
   refine ⟨⟨rfl, he, [(i : Int)], rfl, ?_, ?_⟩, i, Nat.le_refl _, rfl⟩ <;> rw [atT_kid h0.symm] <;> rfl
  ·obtain ⟨h1, j, h2, h3⟩ := args_lies r (i + 1) (fun j => by have := hc (j + 1); simp only [zg1] at this; rw [this]; congr 1; omega) h
   exact ⟨h1, j, by omega, h3⟩
mutual
theorem vis_lies {p : Pg} {pr : Int} : ∀ (t : Tr) (path : List Int) (vs : List Vd) (f : Ft), f ∈ visF p pr t path vs → Lies pr t path f
 | .mk k n s c, path, vs, f, h => by
  simp only [visF, List.mem_append] at h
  rcases h with h | h
  ·obtain ⟨rfl, he⟩ := rep_mem h
   exact ⟨rfl, he, [], by simp, rfl, rfl⟩
  ·split at h
   ·exact (args_lies c 0 (fun j => by simp [Tr.kids]) h).1
   ·exact (visL_lies (.mk k n s c) path vs c 0 (fun j => by simp [Tr.kids]) f h).1
theorem visL_lies {p : Pg} {pr : Int} (t : Tr) (path : List Int) (vs : List Vd) : ∀ (c : List Tr) (i : Nat), (∀ j, c[j]? = t.kids[i + j]?) → ∀ f, f ∈ visL p pr t path vs c i → Lies pr t path f ∧ ∃ j, i ≤ j ∧ ∃ s, f.path = path ++ ((j : Int) :: s)
 | [], _, _, f, h => by simp [visL] at h
 | c :: r, i, hc, f, h => by
  simp only [visL, List.mem_append] at h
  rcases h with h | h
  ·obtain ⟨h1, h2, s, h3, h4, h5⟩ := vis_lies c _ _ f h
   have h0 := hc 0
   simp only [zg0, Nat.add_zero] at h0
   refine ⟨⟨h1, h2, (i : Int) :: s, by rw [h3]; simp, ?_, ?_⟩, i, Nat.le_refl _, s, by rw [h3]; simp⟩ <;> rw [atT_kid h0.symm] <;> assumption
  ·obtain ⟨h1, j, h2, h3⟩ := visL_lies t path vs r (i + 1) (fun j => by have := hc (j + 1); simp only [zg1] at this; rw [this]; congr 1; omega) f h
   exact ⟨h1, j, by omega, h3⟩
end
def bodP (p : Pg) (k : Int) : Tr := match p.procs[k.toNat]? with
 | some q => q.body
 | none => p.main
/-- a fault of the program -/
structure OkF (p : Pg) (f : Ft) : Prop where
 err : f.err ≠ 0
 lo : -1 ≤ f.proc
 hi : f.proc ≤ p.procs.length
 at' : 0 ≤ f.proc → (atT (bodP p f.proc) f.path).2 = true ∧ (f.path ≠ [] → (atT (bodP p f.proc) f.path).1.name = f.name)
end Go.Proofs.Ytjikokmhknnnoaa
