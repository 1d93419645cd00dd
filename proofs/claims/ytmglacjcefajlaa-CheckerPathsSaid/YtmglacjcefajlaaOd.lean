/- The faults of a program: where they lie, in which order. -/
import Derived.Test.YtmglacjcefajlaaSc2
namespace Go.Proofs.Ytmglacjcefajlaa
open Go.RowKit

def noT : Tr := .mk 0 0 ⟨#[]⟩ []
def atT : Tr → List Int → Tr × Bool
 | t, [] => (t, true)
 | t, i :: r => if i < 0 then (noT, false) else match t.kids[i.toNat]? with
  | some c => atT c r
  | none => (noT, false)
theorem atT_kid {t : Tr} {i : Nat} {r : List Int} {c : Tr} (h : t.kids[i]? = some c) : atT t ((i : Int) :: r) = atT c r := by
 simp only [atT, Int.toNat_natCast, h]
 rw [if_neg (by omega)]
def lessB : List Int → List Int → Bool
 | _, [] => false
 | [], _ :: _ => true
 | x :: a, y :: b => if x = y then lessB a b else decide (x < y)
theorem less_app : ∀ (l a b : List Int), lessB (l ++ a) (l ++ b) = lessB a b
 | [], _, _ => rfl
 | x :: l, a, b => by simp only [zca, lessB, if_true, less_app l a b]
theorem less_nil (l r : List Int) (x : Int) : lessB l (l ++ x :: r) = true := by
 have := less_app l [] (x :: r)
 rw [List.append_nil] at this; rw [this]; rfl
theorem less_lt {i j : Int} (h : i < j) (a b : List Int) : lessB (i :: a) (j :: b) = true := by
 simp only [lessB]; rw [if_neg (by omega)]; simp [h]
/-- where a fault of a node lies -/
structure Lies (pr : Int) (t : Tr) (path : List Int) (f : Ft) : Prop where
 pr : f.proc = pr
 err : f.err ≠ 0
 at' : ∃ s, f.path = path ++ s ∧ (atT t s).2 = true ∧ (atT t s).1.name = f.name
theorem rep_mem {pr : Int} {path : List Int} {err : Int} {name : ByteArray} {f : Ft} (h : f ∈ rep pr path err name) : f = ⟨pr, path, err, name⟩ ∧ err ≠ 0 := by
 unfold rep at h; split at h
 ·simp at h
 ·rename_i q; exact ⟨List.mem_singleton.1 h, q⟩
theorem args_lies {p : Pg} {pr : Int} {t : Tr} {path : List Int} {vs : List Vd} {f : Ft} : ∀ (c : List Tr) (i : Nat), (∀ j, c[j]? = t.kids[i + j]?) → f ∈ argsF p pr t path vs c i → Lies pr t path f ∧ ∃ j, i ≤ j ∧ f.path = path ++ [(j : Int)]
 | [], _, _, h => by simp [argsF] at h
 | c :: r, i, hc, h => by
  simp only [argsF, List.mem_append] at h
  rcases h with h | h
  ·obtain ⟨rfl, he⟩ := rep_mem h
   have h0 := hc 0
   simp only [zg0, Nat.add_zero] at h0
   refine ⟨⟨rfl, he, [(i : Int)], rfl, ?_, ?_⟩, i, Nat.le_refl _, rfl⟩ <;> rw [atT_kid h0.symm] <;> rfl
  ·obtain ⟨h1, j, h2, h3⟩ := args_lies r (i + 1) (fun j => by have := hc (j + 1); simp only [zg1] at this; rw [this]; congr 1; omega) h
   exact ⟨h1, j, by omega, h3⟩
mutual
theorem vis_lies {p : Pg} {pr : Int} : ∀ (t : Tr) (path : List Int) (vs : List Vd) (f : Ft), f ∈ visF p pr t path vs → Lies pr t path f
 | .mk k n s c, path, vs, f, h => by
  simp only [visF, List.mem_append] at h
  rcases h with h | h
  ·obtain ⟨rfl, he⟩ := rep_mem h
   exact ⟨rfl, he, [], by simp, rfl, rfl⟩
  ·split at h
   ·exact (args_lies c 0 (fun j => by simp [Tr.kids]) h).1
   ·exact (visL_lies (.mk k n s c) path vs c 0 (fun j => by simp [Tr.kids]) f h).1
theorem visL_lies {p : Pg} {pr : Int} (t : Tr) (path : List Int) (vs : List Vd) : ∀ (c : List Tr) (i : Nat), (∀ j, c[j]? = t.kids[i + j]?) → ∀ f, f ∈ visL p pr t path vs c i → Lies pr t path f ∧ ∃ j, i ≤ j ∧ ∃ s, f.path = path ++ ((j : Int) :: s)
 | [], _, _, f, h => by simp [visL] at h
 | c :: r, i, hc, f, h => by
  simp only [visL, List.mem_append] at h
  rcases h with h | h
  ·obtain ⟨h1, h2, s, h3, h4, h5⟩ := vis_lies c _ _ f h
   have h0 := hc 0
   simp only [zg0, Nat.add_zero] at h0
   refine ⟨⟨h1, h2, (i : Int) :: s, by rw [h3]; simp, ?_, ?_⟩, i, Nat.le_refl _, s, by rw [h3]; simp⟩ <;> rw [atT_kid h0.symm] <;> assumption
  ·obtain ⟨h1, j, h2, h3⟩ := visL_lies t path vs r (i + 1) (fun j => by have := hc (j + 1); simp only [zg1] at this; rw [this]; congr 1; omega) f h
   exact ⟨h1, j, by omega, h3⟩
end
/-- in order -/
def Rr (f g : Ft) : Prop := f.proc < g.proc ∨ (f.proc = g.proc ∧ (g.path = [] ∨ lessB f.path g.path = true))
theorem rep_pw (pr : Int) (path : List Int) (err : Int) (name : ByteArray) : (rep pr path err name).Pairwise Rr := by unfold rep; split <;> simp
theorem args_pw {p : Pg} {pr : Int} {t : Tr} {path : List Int} {vs : List Vd} : ∀ (c : List Tr) (i : Nat), (∀ j, c[j]? = t.kids[i + j]?) → (argsF p pr t path vs c i).Pairwise Rr
 | [], _, _ => .nil
 | c :: r, i, hc => by
  have hr : ∀ j, r[j]? = t.kids[i + 1 + j]? := fun j => by have := hc (j + 1); simp only [zg1] at this; rw [this]; congr 1; omega
  rw [argsF, List.pairwise_append]
  refine ⟨rep_pw _ _ _ _, args_pw r (i + 1) hr, fun f hf g hg => ?_⟩
  obtain ⟨rfl, _⟩ := rep_mem hf
  obtain ⟨h1, j, h2, h3⟩ := args_lies r (i + 1) hr hg
  refine .inr ⟨h1.pr.symm, .inr ?_⟩
  rw [h3, less_app]; exact less_lt (by omega) _ _
mutual
theorem vis_pw {p : Pg} {pr : Int} : ∀ (t : Tr) (path : List Int) (vs : List Vd), (visF p pr t path vs).Pairwise Rr
 | .mk k n s c, path, vs => by
  have hc : ∀ j, c[j]? = (Tr.mk k n s c).kids[0 + j]? := fun j => by simp [Tr.kids]
  rw [visF, List.pairwise_append]
  refine ⟨rep_pw _ _ _ _, ?_, fun f hf g hg => ?_⟩
  ·split
   ·exact args_pw c 0 hc
   ·exact visL_pw (.mk k n s c) path vs c 0 hc
  ·obtain ⟨rfl, _⟩ := rep_mem hf
   split at hg
   ·obtain ⟨h1, j, h2, h3⟩ := args_lies c 0 hc hg
    refine .inr ⟨h1.pr.symm, .inr ?_⟩
    rw [h3]; exact less_nil _ _ _
   ·obtain ⟨h1, j, h2, s', h3⟩ := visL_lies _ path vs c 0 hc g hg
    refine .inr ⟨h1.pr.symm, .inr ?_⟩
    rw [h3]; exact less_nil _ _ _
theorem visL_pw {p : Pg} {pr : Int} (t : Tr) (path : List Int) (vs : List Vd) : ∀ (c : List Tr) (i : Nat), (∀ j, c[j]? = t.kids[i + j]?) → (visL p pr t path vs c i).Pairwise Rr
 | [], _, _ => by simp [visL]
 | c :: r, i, hc => by
  have hr : ∀ j, r[j]? = t.kids[i + 1 + j]? := fun j => by have := hc (j + 1); simp only [zg1] at this; rw [this]; congr 1; omega
  rw [visL, List.pairwise_append]
  refine ⟨vis_pw c _ _, visL_pw t path vs r (i + 1) hr, fun f hf g hg => ?_⟩
  obtain ⟨h1, h2, s, h3, _⟩ := vis_lies c _ _ f hf
  obtain ⟨g1, j, g2, s', g3⟩ := visL_lies t path vs r (i + 1) hr g hg
  refine .inr ⟨by rw [h1, g1.pr], .inr ?_⟩
  rw [h3, g3, zaa, less_app]; exact less_lt (by omega) _ _
end
theorem vr_mem {pr : Int} {one : Bool} {l : List Vd} {f : Ft} : ∀ (c : List Vd) (i : Nat), f ∈ vrF pr one l c i → f.proc = pr ∧ f.err ≠ 0 ∧ ∃ j, i ≤ j ∧ f.path = if one then [(j : Int)] else []
 | [], _, h => by simp [vrF] at h
 | v :: r, i, h => by
  simp only [vrF, List.mem_append] at h
  rcases h with h | h
  ·obtain ⟨rfl, he⟩ := rep_mem h
   exact ⟨rfl, he, i, Nat.le_refl _, rfl⟩
  ·obtain ⟨h1, h2, j, h3, h4⟩ := vr_mem r (i + 1) h
   exact ⟨h1, h2, j, by omega, h4⟩
theorem vr_pw {pr : Int} {one : Bool} {l : List Vd} : ∀ (c : List Vd) (i : Nat), (vrF pr one l c i).Pairwise Rr
 | [], _ => .nil
 | v :: r, i => by
  rw [vrF, List.pairwise_append]
  refine ⟨rep_pw _ _ _ _, vr_pw r (i + 1), fun f hf g hg => ?_⟩
  obtain ⟨rfl, _⟩ := rep_mem hf
  obtain ⟨h1, h2, j, h3, h4⟩ := vr_mem r (i + 1) hg
  refine .inr ⟨h1.symm, ?_⟩
  rw [h4]
  cases one with
  | false => exact .inl rfl
  | true => exact .inr (less_lt (by omega) _ _)
def bodP (p : Pg) (k : Int) : Tr := match p.procs[k.toNat]? with
 | some q => q.body
 | none => p.main
/-- a fault of the program -/
structure OkF (p : Pg) (f : Ft) : Prop where
 err : f.err ≠ 0
 lo : -1 ≤ f.proc
 hi : f.proc ≤ p.procs.length
 at' : 0 ≤ f.proc → (atT (bodP p f.proc) f.path).2 = true ∧ (f.path ≠ [] → (atT (bodP p f.proc) f.path).1.name = f.name)
theorem proc_mem {p : Pg} {f : Ft} : ∀ (c : List Pr) (i : Nat), (∀ j, c[j]? = p.procs[i + j]?) → f ∈ procsF p c i → OkF p f ∧ ∃ j : Nat, i ≤ j ∧ j < i + c.length ∧ f.proc = (j : Int)
 | [], _, _, h => by simp [procsF] at h
 | q :: r, i, hc, h => by
  have h0 := hc 0
  simp only [zg0, Nat.add_zero] at h0
  have hb : bodP p (i : Int) = q.body := by unfold bodP; rw [Int.toNat_natCast, ← h0]
  have hil : i < p.procs.length := by
   obtain ⟨q', _⟩ := List.getElem?_eq_some_iff.1 h0.symm; exact q'
  simp only [procsF, procF, List.mem_append] at h
  rcases h with (h | h | h) | h
  ·split at h
   ·rw [List.mem_singleton.1 h]
    exact ⟨⟨by show (22 : Int) ≠ 0; decide, by show (-1 : Int) ≤ (i : Int); omega, by show (i : Int) ≤ _; omega, fun _ => ⟨rfl, fun h => absurd rfl h⟩⟩, i, Nat.le_refl _, by simp, rfl⟩
   ·simp at h
  ·obtain ⟨h1, h2, j, _, h4⟩ := vr_mem q.params 0 h
   simp only [zft, if_false] at h4
   exact ⟨⟨h2, by rw [h1]; omega, by rw [h1]; omega, fun _ => by rw [h4]; exact ⟨rfl, fun h => absurd rfl h⟩⟩, i, Nat.le_refl _, by simp, h1⟩
  ·obtain ⟨h1, h2, s, h3, h4, h5⟩ := vis_lies q.body _ _ f h
   simp only [zna] at h3
   exact ⟨⟨h2, by rw [h1]; omega, by rw [h1]; omega, fun _ => by rw [h1, hb, h3]; exact ⟨h4, fun _ => h5⟩⟩, i, Nat.le_refl _, by simp, h1⟩
  ·obtain ⟨h1, j, h2, h3, h4⟩ := proc_mem r (i + 1) (fun j => by have := hc (j + 1); simp only [zg1] at this; rw [this]; congr 1; omega) h
   exact ⟨h1, j, by omega, by simp; omega, h4⟩
theorem proc_pw {p : Pg} : ∀ (c : List Pr) (i : Nat), (∀ j, c[j]? = p.procs[i + j]?) → (procsF p c i).Pairwise Rr
 | [], _, _ => .nil
 | q :: r, i, hc => by
  have hr : ∀ j, r[j]? = p.procs[i + 1 + j]? := fun j => by have := hc (j + 1); simp only [zg1] at this; rw [this]; congr 1; omega
  rw [procsF, List.pairwise_append, procF, List.pairwise_append, List.pairwise_append]
  refine ⟨⟨by split <;> simp, ⟨vr_pw _ _, vis_pw _ _ _, fun f hf g hg => ?_⟩, fun f hf g hg => ?_⟩, proc_pw r (i + 1) hr, fun f hf g hg => ?_⟩
  ·obtain ⟨h1, h2, j, _, h4⟩ := vr_mem q.params 0 hf
   simp only [zft, if_false] at h4
   obtain ⟨g1, g2, s, g3, _⟩ := vis_lies q.body _ _ g hg
   refine .inr ⟨by rw [h1, g1], ?_⟩
   rw [h4, g3]
   cases s with
   | nil => exact .inl rfl
   | cons x s => exact .inr rfl
  ·split at hf
   ·rw [List.mem_singleton.1 hf]
    rcases List.mem_append.1 hg with hg | hg
    ·obtain ⟨h1, h2, j, _, h4⟩ := vr_mem q.params 0 hg
     exact .inr ⟨h1.symm, .inl (by simpa using h4)⟩
    ·obtain ⟨g1, g2, s, g3, _⟩ := vis_lies q.body _ _ g hg
     refine .inr ⟨g1.symm, ?_⟩
     rw [g3]
     cases s with
     | nil => exact .inl rfl
     | cons x s => exact .inr rfl
   ·simp at hf
  ·have hf' : f ∈ procsF p [q] i := by simp only [procsF, procF, List.append_nil]; exact hf
   obtain ⟨_, j, h2, h3, h4⟩ := proc_mem r (i + 1) hr hg
   have hfp : f.proc = (i : Int) := by
    simp only [List.mem_append] at hf
    rcases hf with hf | hf | hf
    ·split at hf
     ·rw [List.mem_singleton.1 hf]
     ·simp at hf
    ·exact (vr_mem q.params 0 hf).1
    ·exact (vis_lies q.body _ _ f hf).pr
   exact .inl (by rw [hfp, h4]; omega)
theorem check_ok {p : Pg} {f : Ft} (h : f ∈ checkF p) : OkF p f := by
 simp only [checkF, List.mem_append] at h
 rcases h with h | h | h
 ·obtain ⟨h1, h2, _⟩ := vr_mem p.vars 0 h
  exact ⟨h2, by omega, by omega, fun h => by omega⟩
 ·exact (proc_mem p.procs 0 (fun j => by simp) h).1
 ·obtain ⟨h1, h2, s, h3, h4, h5⟩ := vis_lies p.main _ _ f h
  simp only [zna] at h3
  have hb : bodP p (p.procs.length : Int) = p.main := by unfold bodP; simp
  exact ⟨h2, by omega, by omega, fun _ => by rw [h1, hb, h3]; exact ⟨h4, fun _ => h5⟩⟩
theorem check_pw (p : Pg) : (checkF p).Pairwise Rr := by
 rw [checkF, List.pairwise_append, List.pairwise_append]
 refine ⟨vr_pw _ _, ⟨proc_pw _ _ fun j => by simp, vis_pw _ _ _, fun f hf g hg => ?_⟩, fun f hf g hg => ?_⟩
 ·obtain ⟨_, j, _, h3, h4⟩ := proc_mem p.procs 0 (fun j => by simp) hf
  have := (vis_lies p.main _ _ g hg).pr
  exact .inl (by omega)
 ·have h1 := (vr_mem p.vars 0 hf).1
  rcases List.mem_append.1 hg with hg | hg
  ·obtain ⟨_, j, _, _, h4⟩ := proc_mem p.procs 0 (fun j => by simp) hg
   exact .inl (by omega)
  ·have := (vis_lies p.main _ _ g hg).pr
   exact .inl (by omega)

end Go.Proofs.Ytmglacjcefajlaa
