/- The faults of a program: where they lie, in which order. -/
import Derived.Test.YtjikokmhknnnoaaQ64
import Derived.Test.YtjikokmhknnnoaaSc2
namespace Go.Proofs.Ytjikokmhknnnoaa
open Go.RowKit

def noT : Tr := .mk 0 0 ⟨#[]⟩ []
def atT : Tr → List Int → Tr × Bool
 | t, [] => (t, true)
 | t, i :: r => if i < 0 then (noT, false) else match t.kids[i.toNat]? with
  | some c => atT c r
  | none => (noT, false)
theorem atT_kid {t : Tr} {i : Nat} {r : List Int} {c : Tr} (h : t.kids[i]? = some c) : atT t ((i : Int) :: r) = atT c r := by
 simp only [atT, Int.toNat_natCast, h]
 rw [if_neg (by omega)]
/-- where a fault of a node lies -/
structure Lies (pr : Int) (t : Tr) (path : List Int) (f : Ft) : Prop where
 pr : f.proc = pr
 err : f.err ≠ 0
 at' : ∃ s, f.path = path ++ s ∧ (atT t s).2 = true ∧ (atT t s).1.name = f.name
theorem rep_mem {pr : Int} {path : List Int} {err : Int} {name : ByteArray} {f : Ft} (h : f ∈ rep pr path err name) : f = ⟨pr, path, err, name⟩ ∧ err ≠ 0 := by
 unfold rep at h; split at h
 ·simp at h
 ·rename_i q; exact ⟨List.mem_singleton.1 h, q⟩
theorem args_lies {p : Pg} {pr : Int} {t : Tr} {path : List Int} {vs : List Vd} {f : Ft} : ∀ (c : List Tr) (i : Nat), (∀ j, c[j]? = t.kids[i + j]?) → f ∈ argsF p pr t path vs c i → Lies pr t path f ∧ ∃ j, i ≤ j ∧ f.path = path ++ [(j : Int)]
 | [], _, _, h => by simp [argsF] at h
 | c :: r, i, hc, h => by
  simp only [argsF, List.mem_append] at h
  rcases h with h | h
  ·obtain ⟨rfl, he⟩ := rep_mem h
   have h0 := hc 0
   simp only [zg0, Nat.add_zero] at h0
   refine ⟨⟨rfl, he, [(i : Int)], rfl, ?_, ?_⟩, i, Nat.le_refl _, rfl⟩ <;> rw [atT_kid h0.symm] <;> rfl
  ·obtain ⟨h1, j, h2, h3⟩ := args_lies r (i + 1) (fun j => by have := hc (j + 1); simp only [zg1] at this; rw [this]; congr 1; omega) h
   exact ⟨h1, j, by omega, h3⟩
mutual
theorem vis_lies {p : Pg} {pr : Int} : ∀ (t : Tr) (path : List Int) (vs : List Vd) (f : Ft), f ∈ visF p pr t path vs → Lies pr t path f
 | .mk k n s c, path, vs, f, h => by
  simp only [visF, List.mem_append] at h
  rcases h with h | h
  ·obtain ⟨rfl, he⟩ := rep_mem h
   exact ⟨rfl, he, [], by simp, rfl, rfl⟩
  ·split at h
   ·exact (args_lies c 0 (fun j => by simp [Tr.kids]) h).1
   ·exact (visL_lies (.mk k n s c) path vs c 0 (fun j => by simp [Tr.kids]) f h).1
theorem visL_lies {p : Pg} {pr : Int} (t : Tr) (path : List Int) (vs : List Vd) : ∀ (c : List Tr) (i : Nat), (∀ j, c[j]? = t.kids[i + j]?) → ∀ f, f ∈ visL p pr t path vs c i → Lies pr t path f ∧ ∃ j, i ≤ j ∧ ∃ s, f.path = path ++ ((j : Int) :: s)
 | [], _, _, f, h => by simp [visL] at h
 | c :: r, i, hc, f, h => by
  simp only [visL, List.mem_append] at h
  rcases h with h | h
  ·obtain ⟨h1, h2, s, h3, h4, h5⟩ := vis_lies c _ _ f h
   have h0 := hc 0
   simp only [zg0, Nat.add_zero] at h0
   refine ⟨⟨h1, h2, (i : Int) :: s, by rw [h3]; simp, ?_, ?_⟩, i, Nat.le_refl _, s, by rw [h3]; simp⟩ <;> rw [atT_kid h0.symm] <;> assumption
  ·obtain ⟨h1, j, h2, h3⟩ := visL_lies t path vs r (i + 1) (fun j => by have := hc (j + 1); simp only [zg1] at this; rw [this]; congr 1; omega) f h
   exact ⟨h1, j, by omega, h3⟩
end
def bodP (p : Pg) (k : Int) : Tr := match p.procs[k.toNat]? with
 | some q => q.body
 | none => p.main
/-- a fault of the program -/
structure OkF (p : Pg) (f : Ft) : Prop where
 err : f.err ≠ 0
 lo : -1 ≤ f.proc
 hi : f.proc ≤ p.procs.length
 at' : 0 ≤ f.proc → (atT (bodP p f.proc) f.path).2 = true ∧ (f.path ≠ [] → (atT (bodP p f.proc) f.path).1.name = f.name)
end Go.Proofs.Ytjikokmhknnnoaa

/- Names that a block mentions: plain facts. -/
namespace Go.Proofs.Ytjikokmhknnnoaa
open Go.RowKit

theorem findN_any (l : List Vd) (s : ByteArray) : ∀ n, n ≤ l.length → (findN l s n).2 = (l.take n).any fun v => v.name.toList == s.toList
 | 0, _ => rfl
 | n + 1, h => by
  rw [List.take_succ_eq_append_getElem h, List.any_append]
  simp only [List.any_cons, List.any_nil, Bool.or_false]
  by_cases q : (l[n].name.toList == s.toList) = true
  ·rw [findN_y h q, q, Bool.or_true]
  ·have q' : (l[n].name.toList == s.toList) = false := by simpa using q
   rw [findN_n h q', q', Bool.or_false]; exact findN_any l s n (by omega)
def hasV (vs : List Vd) (s : ByteArray) : Bool := vs.any fun v => v.name.toList == s.toList
theorem hasV_eq (vs : List Vd) (s : ByteArray) : (findN vs s vs.length).2 = hasV vs s := by rw [findN_any vs s _ (Nat.le_refl _), List.take_length]; rfl
mutual
def mentB (s : ByteArray) : Tr → Bool
 | .mk k _n nm c => (nm.toList == s.toList && !(k == 50) && !(k == 51)) || mentL s c
def mentL (s : ByteArray) : List Tr → Bool
 | [] => false
 | t :: r => mentB s t || mentL s r
end
theorem mentL_any (s : ByteArray) : ∀ c : List Tr, mentL s c = c.any (mentB s)
 | [] => rfl
 | t :: r => by simp only [mentL, List.any_cons, mentL_any s r]
theorem mentB_eq (s : ByteArray) (t : Tr) : mentB s t = ((t.name.toList == s.toList && !(t.kind == 50) && !(t.kind == 51)) || t.kids.any (mentB s)) := by
 cases t; simp only [mentB, mentL_any, Tr.kind, Tr.name, Tr.kids]
def kindsN : List Int := [2, 3, 4, 5, 44, 45, 50, 51, 54, 55]
mutual
/-- where the name may stand -/
def wB (s : ByteArray) : Tr → Bool
 | .mk k _n nm c => (!(nm.toList == s.toList) || kindsN.contains k) && (if k = 50 ∨ k = 51 then c.all (fun x => x.kind == 2 && x.kids.isEmpty) else wL s c)
def wL (s : ByteArray) : List Tr → Bool
 | [] => true
 | t :: r => wB s t && wL s r
end
theorem expr_parts {k n : Int} {nm : ByteArray} {c : List Tr} (h : exprB (.mk k n nm c) = true) : (emptyB nm = true ∨ k = 2 ∨ k = 3 ∨ k = 4 ∨ k = 5) ∧ exprsB c = true ∧ k ≤ 23 := by
 have h0 : ∀ m, lenB c m = true → m = 0 → exprsB c = true := by
  intro m q e
  subst e
  have : c = [] := by simpa [lenB] using q
  rw [this]; rfl
 unfold exprB at h
 split at h
 ·simp only [zat] at h; exact ⟨.inl h.1.2, h0 _ h.2 rfl, by omega⟩
 ·split at h
  ·simp only [zat] at h; exact ⟨.inr (by omega), h0 _ h.2 rfl, by omega⟩
  ·split at h
   ·simp only [zat] at h; exact ⟨.inr (by omega), h.2, by omega⟩
   ·split at h
    ·simp only [zat, plainB] at h; exact ⟨.inl h.1.1.2, h.2, by omega⟩
    ·split at h
     ·simp only [zat, plainB] at h; exact ⟨.inl h.1.1.2, h.2, by omega⟩
     ·cases h
theorem stmt_parts {k n : Int} {nm : ByteArray} {c : List Tr} (h : stmtB (.mk k n nm c) = true) : (emptyB nm = true ∨ k = 44 ∨ k = 45 ∨ k = 50 ∨ k = 51 ∨ k = 54 ∨ k = 55) ∧ (∃ xs, catsB xs c = true) ∧ (k = 50 ∨ k = 51 → c.all varB = true) := by
 unfold stmtB at h
 split at h
 ·simp only [zat, plainB] at h; exact ⟨.inl h.1.2, ⟨_, h.2⟩, fun q => by omega⟩
 ·split at h
  ·simp only [zat, plainB] at h; exact ⟨.inl h.1.2, ⟨_, h.2⟩, fun q => by omega⟩
  ·split at h
   ·simp only [zat] at h; exact ⟨.inr (by omega), ⟨_, h.2⟩, fun q => by omega⟩
   ·split at h
    ·simp only [zat, plainB] at h; exact ⟨.inl h.1.2, ⟨_, h.2⟩, fun q => by omega⟩
    ·split at h
     ·simp only [zat] at h; exact ⟨.inr (by omega), ⟨_, h.2⟩, fun _ => by rw [← catsB_var]; exact h.2⟩
     ·split at h
      ·simp only [zat, plainB] at h; exact ⟨.inl h.1.2, ⟨_, h.2⟩, fun q => by omega⟩
      ·split at h
       ·simp only [zat] at h; exact ⟨.inr (by omega), ⟨_, h.2⟩, fun q => by omega⟩
       ·split at h
        ·simp only [zat] at h; exact ⟨.inr (by omega), ⟨_, h.2⟩, fun q => by omega⟩
        ·cases h
theorem empty_ne {s nm : ByteArray} (hs : s.toList ≠ []) (h : emptyB nm = true) : (!(nm.toList == s.toList)) = true := by
 simp only [emptyB] at h
 simp only [znt, beq_eq_false_iff_ne, ne_eq]
 intro q
 apply hs
 rw [← q]
 simpa using h
mutual
theorem expr_w {s : ByteArray} (hs : s.toList ≠ []) : ∀ t, exprB t = true → wB s t = true
 | .mk k n nm c, h => by
  obtain ⟨h1, h2, h3⟩ := expr_parts h
  have h4 := exprs_w hs c h2
  simp only [wB]
  rw [if_neg (by omega), h4, Bool.and_true]
  rcases h1 with h1 | h1
  ·rw [empty_ne hs h1]; rfl
  ·rcases h1 with rfl | rfl | rfl | rfl <;> simp [kindsN]
theorem exprs_w {s : ByteArray} (hs : s.toList ≠ []) : ∀ c, exprsB c = true → wL s c = true
 | [], _ => rfl
 | t :: r, h => by
  simp only [exprsB, zat] at h
  simp only [wL, expr_w hs t h.1, exprs_w hs r h.2, Bool.and_true]
end
theorem var_leaf {t : Tr} (h : varB t = true) : (t.kind == 2 && t.kids.isEmpty) = true := by
 obtain ⟨k, n, nm, c⟩ := t
 simp only [varB, zat, Tr.kind, beq_iff_eq] at h
 obtain ⟨rfl, h⟩ := h
 have : c = [] := by
  unfold exprB at h
  simp [lenB] at h
  exact h.2
 subst this; rfl
mutual
theorem stmt_w {s : ByteArray} (hs : s.toList ≠ []) : ∀ t, stmtB t = true → wB s t = true
 | .mk k n nm c, h => by
  obtain ⟨h1, ⟨xs, h2⟩, h3⟩ := stmt_parts h
  have h4 := cats_w hs xs c h2
  have h5 : (!(nm.toList == s.toList) || kindsN.contains k) = true := by
   rcases h1 with h1 | h1
   ·rw [empty_ne hs h1]; rfl
   ·rcases h1 with rfl | rfl | rfl | rfl | rfl | rfl <;> simp [kindsN]
  simp only [wB, h5, Bool.true_and]
  split
  ·rename_i q
   rw [List.all_eq_true]
   intro x hx
   exact var_leaf (List.all_eq_true.1 (h3 q) x hx)
  ·exact h4
theorem block_w {s : ByteArray} (hs : s.toList ≠ []) : ∀ t, blockB t = true → wB s t = true
 | .mk k n nm c, h => by
  simp only [blockB, zat, beq_iff_eq, plainB] at h
  obtain ⟨⟨rfl, h1⟩, h2⟩ := h
  have h4 := stmts_w hs c h2
  simp only [wB]
  rw [if_neg (by omega), h4, empty_ne hs h1.2]; rfl
theorem cats_w {s : ByteArray} (hs : s.toList ≠ []) : ∀ xs c, catsB xs c = true → wL s c = true
 | [], [], _ => rfl
 | [], _ :: _, h => by simp [catsB] at h
 | _ :: _, [], _ => rfl
 | x :: xs, t :: ts, h => by
  simp only [catsB, zat] at h
  obtain ⟨h1, h2⟩ := h
  have h3 := cats_w hs xs ts h2
  have h4 : wB s t = true := by
   split at h1
   ·exact expr_w hs t h1
   ·split at h1
    ·simp only [placeB, zat] at h1; exact expr_w hs t h1.2
    ·split at h1
     ·exact block_w hs t h1
     ·simp only [varB, zat] at h1; exact expr_w hs t h1.2
  simp only [wL, h4, h3, Bool.and_true]
theorem stmts_w {s : ByteArray} (hs : s.toList ≠ []) : ∀ c, stmtsB c = true → wL s c = true
 | [], _ => rfl
 | t :: r, h => by
  simp only [stmtsB, zat] at h
  simp only [wL, stmt_w hs t h.1, stmts_w hs r h.2, Bool.and_true]
end
end Go.Proofs.Ytjikokmhknnnoaa

/- The law ScopeRenames: plain facts. -/
namespace Go.Proofs.Ytjikokmhknnnoaa
open Go.RowKit
section
variable {a b : ByteArray}
/-- one list beside another -/
inductive Pw (R : Ft → Ft → Prop) : List Ft → List Ft → Prop
 | nil : Pw R [] []
 | cons {f g : Ft} {l m : List Ft} (h : R f g) (t : Pw R l m) : Pw R (f :: l) (g :: m)
theorem Pw.app {R : Ft → Ft → Prop} {l m l' m' : List Ft} (h : Pw R l m) (h' : Pw R l' m') : Pw R (l ++ l') (m ++ m') := by
 induction h with
 | nil => exact h'
 | cons h _ ih => exact .cons h ih
theorem Pw.mono {R S : Ft → Ft → Prop} {l m : List Ft} (h : Pw R l m) (hs : ∀ f g, f ∈ l → R f g → S f g) : Pw S l m := by
 induction h with
 | nil => exact .nil
 | cons h _ ih => exact .cons (hs _ _ List.mem_cons_self h) (ih fun f g hf => hs f g (List.mem_cons_of_mem _ hf))
theorem Pw.len {R : Ft → Ft → Prop} {l m : List Ft} (h : Pw R l m) : l.length = m.length := by
 induction h with
 | nil => rfl
 | cons _ _ ih => simp only [zlc, ih]
theorem Pw.at {R : Ft → Ft → Prop} {l m : List Ft} (h : Pw R l m) : ∀ (i : Nat) (h1 : i < l.length) (h2 : i < m.length), R l[i] m[i] := by
 induction h with
 | nil => intro i h1; exact absurd h1 (Nat.not_lt_zero _)
 | cons h _ ih =>
  intro i h1 h2
  cases i with
  | zero => exact h
  | succ i => exact ih i _ _
theorem Pw.refl {R : Ft → Ft → Prop} : ∀ {l : List Ft}, (∀ f ∈ l, R f f) → Pw R l l
 | [], _ => .nil
 | f :: _r, h => .cons (h f List.mem_cons_self) (Pw.refl fun g hg => h g (List.mem_cons_of_mem _ hg))
theorem vrF_proc {pr : Int} {one : Bool} {l : List Vd} {f : Ft} : ∀ (c : List Vd) (i : Nat), f ∈ vrF pr one l c i → f.proc = pr
 | [], _, h => by simp [vrF] at h
 | v :: r, i, h => by
  rw [vrF, List.mem_append] at h
  rcases h with h | h
  ·rw [(rep_mem h).1]
  ·exact vrF_proc r (i + 1) h
theorem procF_proc (p : Pg) (i : Nat) (q : Pr) {f : Ft} (h : f ∈ procF p i q) : f.proc = (i : Int) := by
 unfold procF at h
 rw [List.mem_append, List.mem_append] at h
 rcases h with h | h | h
 ·split at h
  ·simp only [List.mem_cons, List.not_mem_nil, or_false] at h; rw [h]
  ·simp at h
 ·exact vrF_proc _ _ h
 ·exact (vis_lies q.body [] q.params f h).pr
theorem procsF_proc (p : Pg) : ∀ (c : List Pr) (i : Nat) (f : Ft), f ∈ procsF p c i → (i : Int) ≤ f.proc ∧ f.proc < (i : Int) + c.length
 | [], _, f, h => by simp [procsF] at h
 | q :: r, i, f, h => by
  rw [procsF, List.mem_append] at h
  rcases h with h | h
  ·have := procF_proc p i q h
   simp only [zlc]; omega
  ·have := procsF_proc p r (i + 1) f h
   simp only [zlc]; omega
end
end Go.Proofs.Ytjikokmhknnnoaa
