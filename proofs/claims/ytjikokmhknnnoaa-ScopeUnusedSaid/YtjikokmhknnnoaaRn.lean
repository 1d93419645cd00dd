import Derived.Test.YtjikokmhknnnoaaDr
import Derived.Test.YtjikokmhknnnoaaSc2
/- The law ScopeRenames: plain facts. -/
namespace Go.Proofs.Ytjikokmhknnnoaa
open Go.RowKit
section
variable {a b : ByteArray}
/-- one list beside another -/
inductive Pw (R : Ft → Ft → Prop) : List Ft → List Ft → Prop
 | nil : Pw R [] []
 | cons {f g : Ft} {l m : List Ft} (h : R f g) (t : Pw R l m) : Pw R (f :: l) (g :: m)
theorem Pw.app {R : Ft → Ft → Prop} {l m l' m' : List Ft} (h : Pw R l m) (h' : Pw R l' m') : Pw R (l ++ l') (m ++ m') := by
 induction h with
 | nil => exact h'
 | cons h _ ih => exact .cons h ih
theorem Pw.mono {R S : Ft → Ft → Prop} {l m : List Ft} (h : Pw R l m) (hs : ∀ f g, f ∈ l → R f g → S f g) : Pw S l m := by
 induction h with
 | nil => exact .nil
 | cons h _ ih => exact .cons (hs _ _ List.mem_cons_self h) (ih fun f g hf => hs f g (List.mem_cons_of_mem _ hf))
theorem Pw.len {R : Ft → Ft → Prop} {l m : List Ft} (h : Pw R l m) : l.length = m.length := by
 induction h with
 | nil => rfl
 | cons _ _ ih => simp only [zlc, ih]
theorem Pw.at {R : Ft → Ft → Prop} {l m : List Ft} (h : Pw R l m) : ∀ (i : Nat) (h1 : i < l.length) (h2 : i < m.length), R l[i] m[i] := by
 induction h with
 | nil => intro i h1; exact absurd h1 (Nat.not_lt_zero _)
 | cons h _ ih =>
  intro i h1 h2
  cases i with
  | zero => exact h
  | succ i => exact ih i _ _
theorem Pw.refl {R : Ft → Ft → Prop} : ∀ {l : List Ft}, (∀ f ∈ l, R f f) → Pw R l l
 | [], _ => .nil
 | f :: _r, h => .cons (h f List.mem_cons_self) (Pw.refl fun g hg => h g (List.mem_cons_of_mem _ hg))
theorem vrF_proc {pr : Int} {one : Bool} {l : List Vd} {f : Ft} : ∀ (c : List Vd) (i : Nat), f ∈ vrF pr one l c i → f.proc = pr
 | [], _, h => by simp [vrF] at h
 | v :: r, i, h => by
  rw [vrF, List.mem_append] at h
  rcases h with h | h
  ·rw [(rep_mem h).1]
  ·exact vrF_proc r (i + 1) h
theorem procF_proc (p : Pg) (i : Nat) (q : Pr) {f : Ft} (h : f ∈ procF p i q) : f.proc = (i : Int) := by
 unfold procF at h
 rw [List.mem_append, List.mem_append] at h
 rcases h with h | h | h
 ·split at h
  ·simp only [List.mem_cons, List.not_mem_nil, or_false] at h; rw [h]
  ·simp at h
 ·exact vrF_proc _ _ h
 ·exact (vis_lies q.body [] q.params f h).pr
theorem procsF_proc (p : Pg) : ∀ (c : List Pr) (i : Nat) (f : Ft), f ∈ procsF p c i → (i : Int) ≤ f.proc ∧ f.proc < (i : Int) + c.length
 | [], _, f, h => by simp [procsF] at h
 | q :: r, i, f, h => by
  rw [procsF, List.mem_append] at h
  rcases h with h | h
  ·have := procF_proc p i q h
   simp only [zlc]; omega
  ·have := procsF_proc p r (i + 1) f h
   simp only [zlc]; omega
end
end Go.Proofs.Ytjikokmhknnnoaa
