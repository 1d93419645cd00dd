/- Maps that are sets of names. -/
import Derived.Test.YtkkhjpkkjpcbmaaE9
namespace Go.Proofs.Ytkkhjpkkjpcbmaa
open Go.RowKit


instance lawful_ba : LawfulBEq ByteArray := { eq_of_beq := fun h => ba_eq.1 h, rfl := ba_eq.2 rfl }
/-- a set of names as a map's box holds it -/
def sD (A : List ByteArray) : List D := A.flatMap fun s => [.str s, .bool true]
theorem sD_cons (s : ByteArray) (A : List ByteArray) : sD (s :: A) = .str s :: .bool true :: sD A := rfl
theorem sD_len (A : List ByteArray) : (sD A).length = 2 * A.length := by
 induction A with
 | nil => rfl
 | cons v l ih => rw [sD_cons]; simp only [zlc, ih]; omega
theorem s_find (s : ByteArray) (A : List ByteArray) : mfind .string (.str s) (sD A) = some (if s ∈ A then some (.bool true) else none) := by
 induction A with
 | nil => rfl
 | cons v l ih =>
  rw [sD_cons]
  by_cases h : s = v
  ·simp [mfind, sameK, h]
  ·simp only [mfind, sameK, h, decide_false, List.mem_cons, false_or]; exact ih
def addS (A : List ByteArray) (s : ByteArray) : List ByteArray := if s ∈ A then A else A ++ [s]
theorem s_put (s : ByteArray) (A : List ByteArray) : mput .string (.str s) (.bool true) (sD A) = some (sD (addS A s)) := by
 induction A with
 | nil => rfl
 | cons u l ih =>
  rw [sD_cons]
  by_cases h : s = u
  ·subst h
   simp only [mput, sameK, decide_true, addS, List.mem_cons, true_or, if_true]
   rfl
  ·have hd : decide (s = u) = false := decide_eq_false h
   simp only [mput, sameK, hd, ih, zmo]
   have : addS (u :: l) s = u :: addS l s := by
    unfold addS
    by_cases hm : s ∈ l
    ·rw [if_pos hm, if_pos (List.mem_cons_of_mem _ hm)]
    ·rw [if_neg hm, if_neg (by simp [h, hm])]; rfl
   rw [this, sD_cons]
theorem addS_mem {A : List ByteArray} {s x : ByteArray} : x ∈ addS A s ↔ x ∈ A ∨ x = s := by
 unfold addS
 split
 ·rename_i h
  exact ⟨.inl, fun q => q.elim id (fun e => e ▸ h)⟩
 ·simp
theorem addS_len (A : List ByteArray) (s : ByteArray) : (addS A s).length ≤ A.length + 1 := by
 unfold addS; split <;> simp
theorem addS_nodup {A : List ByteArray} (h : A.Nodup) (s : ByteArray) : (addS A s).Nodup := by
 unfold addS
 split
 ·exact h
 ·rename_i hs
  exact List.nodup_append.2 ⟨h, List.nodup_cons.2 ⟨by simp, List.nodup_nil⟩, fun a ha b hb e => by simp only [List.mem_singleton] at hb; subst hb; subst e; exact hs ha⟩
theorem und_msb : Try.prog.underlying 31 = some (.map 9 4) := by kernel_rfl
theorem und_str0 : Try.prog.underlying 9 = some .string := by kernel_rfl
theorem zer_bool : ((Try.prog.info? 4).bind (·.zero)).bind ofValue = some (.bool false) := by kernel_rfl
theorem look_s (i : Nat) (A : List ByteArray) (s : ByteArray) (bx : Nat → Option (List D)) (h : bx i = some (sD A)) : alook Try.prog bx 31 (.mref i) (.str s) false = some (.bool (decide (s ∈ A))) := by
 unfold alook
 simp only [und_msb, und_str0, keyOk, if_true, mcont, h, s_find]
 by_cases hs : s ∈ A
 ·rw [if_pos hs, decide_eq_true hs]; rfl
 ·rw [if_neg hs, decide_eq_false hs]
  simp only [zft, if_false, zer_bool]
theorem look_yes {i : Nat} {A : List ByteArray} {s : ByteArray} (hs : s ∈ A) (bx : Nat → Option (List D)) (h : bx i = some (sD A)) : alook Try.prog bx 31 (.mref i) (.str s) false = some (.bool true) := by
 rw [look_s i A s bx h, decide_eq_true hs]
theorem set_s (i : Nat) (A : List ByteArray) (s : ByteArray) (hl : A.length ≤ 1000000) (σ : St) (h : σ.bx[i]? = some (sD A)) : amset Try.prog σ 31 (.mref i) (.str s) (.bool true) = some { σ with bx := σ.bx.set i (sD (addS A s)) } := by
 have hl2 : (sD A).length ≤ 16777216 := by rw [sD_len]; omega
 unfold amset
 simp only [und_msb, und_str0, keyOk, h, s_put]
 rw [if_pos ⟨trivial, rfl, rfl⟩, if_pos hl2]; rfl
theorem mem_nms {A : List ByteArray} {s : ByteArray} : s ∈ A ↔ s.data.toList ∈ nms A := ⟨fun h => List.mem_map.2 ⟨s, h, rfl⟩, fun h => by
 obtain ⟨a, ha, e⟩ := List.mem_map.1 h
 rw [← ba_inj e]; exact ha⟩
end Go.Proofs.Ytkkhjpkkjpcbmaa
