/- Valid statements and blocks of the reference, together. -/
import Derived.Test.YtjikokmhknnnoaaRStmt2
namespace Go.Proofs.Ytjikokmhknnnoaa
open Go.RowKit Go.Shelf
def catN (b : UInt8) : Nat := if b = 101 then 0 else if b = 112 then 1 else if b = 98 then 2 else 3
theorem catC_N (b : UInt8) (t : Tr) : catC (b.toNat : Int) t = (if catN b = 0 then exprB t else if catN b = 1 then placeB t else if catN b = 2 then blockB t else varB t) := by
  have key : ∀ m : Nat, m < 256 → (((b.toNat : Int) = (m : Int)) ↔ b = UInt8.ofNat m) := by
    intro m hm
    constructor
    · intro h
      have : b.toNat = m := by omega
      rw [← this]; simp
    · intro h; subst h
      have : (UInt8.ofNat m).toNat = m := by simp; omega
      omega
  have k1 := key 101 (by omega)
  have k2 := key 112 (by omega)
  have k3 := key 98 (by omega)
  unfold catC catN
  by_cases h1 : b = 101
  · subst h1; rfl
  · have g1 : ¬ (b.toNat : Int) = 101 := fun e => h1 (k1.1 e)
    by_cases h2 : b = 112
    · subst h2; rfl
    · have g2 : ¬ (b.toNat : Int) = 112 := fun e => h2 (k2.1 e)
      by_cases h3 : b = 98
      · subst h3; rfl
      · have g3 : ¬ (b.toNat : Int) = 98 := fun e => h3 (k3.1 e)
        simp [g1, g2, g3, h1, h2, h3]

theorem zipC_cats : ∀ (l : List UInt8) (c : List Tr), (((c.length : Int) == (l.length : Int)) && (List.zipWith (fun (b : UInt8) t => catC (b.toNat : Int) t) l c).all id) = catsB (l.map catN) c
  | [], [] => by simp [catsB]
  | [], t :: r => by
    have : (((t :: r).length : Int) == (([] : List UInt8).length : Int)) = false := by simp; omega
    rw [this]; simp [catsB]
  | b :: l, [] => by
    have : ((([] : List Tr).length : Int) == ((b :: l).length : Int)) = false := by simp; omega
    rw [this]; simp [catsB]
  | b :: l, t :: r => by
    have hl : (((t :: r).length : Int) == ((b :: l).length : Int)) = ((r.length : Int) == (l.length : Int)) := by
      rw [Bool.eq_iff_iff]; simp
    simp only [List.map_cons, catsB, ← zipC_cats l r, hl, List.zipWith_cons_cons, List.all_cons, id, catC_N]
    cases ((r.length : Int) == (l.length : Int)) <;> simp

theorem genB_cats (sh : ByteArray) (named : Bool) (n : Int) (s : ByteArray) (c : List Tr) :
    genB sh named true n s c = ((if named then namedB n s else plainB n s) && catsB (sh.data.toList.map catN) c) := by
  have hz := zipC_cats sh.data.toList c
  have hl : ((sh.data.toList.length : Nat) : Int) = (sh.size : Int) := by simp
  rw [hl] at hz
  rw [← hz]
  unfold genB namedB plainB
  cases named
  · cases (n == 0) <;> cases emptyB s <;> cases ((c.length : Int) == (sh.size : Int)) <;> simp
  · cases hnm : nameB s
    · simp
    · have he : emptyB s = false := by
        unfold emptyB
        have h0 : 0 < s.size := by
          simp only [nameB, Bool.and_eq_true, decide_eq_true_eq] at hnm
          exact hnm.1.1.1.1
        exact (ne_of_pos h0).1
      rw [he]
      cases (n == 0) <;> cases ((c.length : Int) == (sh.size : Int)) <;> simp

theorem vees_list (m : Nat) (h : m ≤ 8) : (ByteArray.extract ⟨#[118, 118, 118, 118, 118, 118, 118, 118]⟩ 0 m).data.toList = List.replicate m 118 := by
  have : m = 0 ∨ m = 1 ∨ m = 2 ∨ m = 3 ∨ m = 4 ∨ m = 5 ∨ m = 6 ∨ m = 7 ∨ m = 8 := by omega
  rcases this with rfl | rfl | rfl | rfl | rfl | rfl | rfl | rfl | rfl <;> decide

theorem bytes_ok {sh : ByteArray} (h : ∀ b, b ∈ sh.data.toList → b = 101 ∨ b = 112 ∨ b = 98 ∨ b = 118) :
    ∀ (i : Nat) (hi : i < sh.size), (sh[i].toNat : Int) = 101 ∨ (sh[i].toNat : Int) = 112 ∨ (sh[i].toNat : Int) = 98 ∨ (sh[i].toNat : Int) = 118 := by
  intro i hi
  have hm : sh[i] ∈ sh.data.toList := by rw [← byte_at sh i hi (by simpa using hi)]; exact List.getElem_mem _
  rcases h _ hm with e | e | e | e <;> rw [e] <;> simp

end Go.Proofs.Ytjikokmhknnnoaa
