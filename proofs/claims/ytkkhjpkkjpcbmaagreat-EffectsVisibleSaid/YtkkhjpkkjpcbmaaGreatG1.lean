/- Procedures by name; the reference's names and Calls over data. -/
import Derived.Test.YtkkhjpkkjpcbmaaGreatE10
namespace Go.Proofs.YtkkhjpkkjpcbmaaGreat
open Go.RowKit
mutual
/-- the names that a tree calls, in pre-order -/
def cnT : Tr → List ByteArray
 | .mk k _ s c => (if k = 50 ∨ k = 51 then [s] else []) ++ cnL c
def cnL : List Tr → List ByteArray
 | [] => []
 | t :: r => cnT t ++ cnL r
end
mutual
theorem cnT_len : ∀ t : Tr, (cnT t).length ≤ t.size
 | .mk k n s c => by
  have := cnL_len c
  have h2 : (if k = 50 ∨ k = 51 then [s] else []).length ≤ 1 := by split <;> simp
  simp only [cnT, zla, Tr.size]; omega
theorem cnL_len : ∀ c : List Tr, (cnL c).length ≤ Tr.sizes c
 | [] => Nat.le_refl _
 | t :: r => by
  have h1 := cnT_len t
  have h2 := cnL_len r
  simp only [cnL, zla, Tr.sizes]; omega
end
theorem cnT_eq (t : Tr) : cnT t = (if t.kind = 50 ∨ t.kind = 51 then [t.name] else []) ++ cnL t.kids := by cases t; rw [cnT]; rfl
theorem cnL_step {c : List Tr} {i : Nat} (h : i < c.length) : cnL (c.drop i) = cnT c[i] ++ cnL (c.drop (i + 1)) := by
 rw [List.drop_eq_getElem_cons h]; simp only [cnL]
theorem sizes_kids (t : Tr) : t.size = 1 + Tr.sizes t.kids := by cases t; simp only [Tr.size, Tr.kids]; omega
/-- the body of a procedure, or of main -/
def bodyAt (p : Pg) (proc : Int) : Option Tr := if proc = -1 then some p.main else if proc < 0 then none else (p.procs[proc.toNat]?).map (·.body)
theorem bodyAt_main (p : Pg) : bodyAt p (-1) = some p.main := rfl
theorem bodyAt_proc (p : Pg) (k : Nat) (h : k < p.procs.length) : bodyAt p (k : Int) = some p.procs[k].body := by
 unfold bodyAt
 rw [if_neg (by omega), if_neg (by omega), Int.toNat_natCast, List.getElem?_eq_getElem h]; rfl
theorem bodyAt_bad (p : Pg) (proc : Int) (h : proc < -1 ∨ (p.procs.length : Int) ≤ proc) : bodyAt p proc = none := by
 unfold bodyAt
 rw [if_neg (by omega)]
 split
 ·rfl
 ·rw [List.getElem?_eq_none (by omega)]; rfl
/-- within the bounds of the contracts -/
structure Sml (p : Pg) : Prop where
 n : p.procs.length ≤ 1000
 m : p.main.size ≤ 1000
 b : ∀ f ∈ p.procs, f.body.size ≤ 1000
theorem Sml.at {p : Pg} (h : Sml p) {proc : Int} {t : Tr} (ht : bodyAt p proc = some t) : t.size ≤ 1000 := by
 unfold bodyAt at ht
 split at ht
 ·cases ht; exact h.m
 ·split at ht
  ·cases ht
  ·rw [Option.map_eq_some_iff] at ht
   obtain ⟨f, h1, rfl⟩ := ht
   exact h.b f (List.mem_of_getElem? h1)
end Go.Proofs.YtkkhjpkkjpcbmaaGreat
